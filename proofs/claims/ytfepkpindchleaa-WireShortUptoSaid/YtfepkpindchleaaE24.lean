/- The engine, part 24: what a reading of data says of its cells. -/
import Derived.Test.YtfepkpindchleaaE23
import Derived.Test.YtfepkpindchleaaRows
import Derived.SizedLaws
import Derived.OpenShut
namespace Go.Proofs.YtfepkpindchleaaE
open Go
set_option linter.unusedVariables false
set_option linter.unusedSimpArgs false
open Go.Proofs.Ytfepkpindchleaa.Rows (uptoBulk uptoBulkAll)

/-- Data as a reading has it: numbers in their ranges, nothing longer than memory. -/
def okT : (t : Ty) → t.den → Prop
  | .int k, n => (Lit.int k n).wf = true
  | .bool, _ => True
  | .str, s => List.length s ≤ reachBytes
  | .unit, _ => True
  | .list t, xs => List.length xs ≤ reachBytes ∧ ∀ x ∈ (xs : List t.den), okT t x
  | .pair a b, x => okT a x.1 ∧ okT b x.2

/-- How much data there is. -/
def bulkT : (t : Ty) → t.den → Nat
  | .int _, _ => 1
  | .bool, _ => 1
  | .str, s => List.length s + 1
  | .unit, _ => 0
  | .list t, xs => ((xs : List t.den).map (bulkT t)).sum + 1
  | .pair a b, x => bulkT a x.1 + bulkT b x.2

def fieldsOk (P : Program) (ok : TypeId → Ty → Bool) : List Field → Nat → Ty → Bool
  | [], _, .unit => true
  | [f], off, τ => f.offset == off && P.cellsOf f.type == τ.sz && ok f.type τ
  | f :: g :: fs, off, .pair a b => f.offset == off && P.cellsOf f.type == a.sz && ok f.type a && fieldsOk P ok (g :: fs) (off + a.sz) b
  | _, _, _ => false
def arrOk (c : Nat) (ok : Ty → Bool) : Nat → Ty → Bool
  | 0, .unit => true
  | 1, τ => c == τ.sz && ok τ
  | n + 2, .pair a b => c == a.sz && ok a && arrOk c ok (n + 1) b
  | _, _ => false

/-- The program's type is this type of data. -/
def tyOk (P : Program) : Nat → TypeId → Ty → Bool
  | 0, _, _ => false
  | n + 1, t, τ =>
    match P.underlying t, τ with
    | some .bool, .bool => true
    | some (.int k), .int k' => decide (k = k')
    | some .string, .str => true
    | some (.slice e), .list τ' => P.cellsOf e == τ'.sz && Nat.blt 0 τ'.sz && Nat.blt 0 (P.bytesOf e) && tyOk P n e τ'
    | some (.struct fs), τ => P.cellsOf t == τ.sz && fieldsOk P (tyOk P n) fs.toList 0 τ
    | some (.array m e), τ => P.cellsOf t == τ.sz && arrOk (P.cellsOf e) (tyOk P n e) m τ
    | _, _ => false

section
variable {H : Type} {enc : TypeId × Value → H} {P : Program} {W : World} {spare : Nat → Bool} {held : Bool}

/-- All that is asked of what stands behind a reading. -/
def Told (W : World) (τ : Ty) (cs : List Value) (d : DataW H) : Prop := ∃ x : τ.den, Enc (fun b => b < W.heap.size) W τ x cs ∧ okT τ x ∧ bulkT τ x ≤ uptoBulk d

def TellsAll (enc : TypeId × Value → H) (P : Program) (W : World) (spare : Nat → Bool) (held : Bool) (ok : TypeId → Ty → Bool) (fuel : Nat) : Prop :=
  ∀ t τ cs d ps, ok t τ = true → DataW.trod enc P W 0 spare held fuel t cs = some (d, ps) → (∀ n ∈ d.weights P t, n ≤ reachBytes) → Told W τ cs d

theorem take_drop_le (cs : List Value) (a n : Nat) (h : a + n ≤ cs.length) : ((cs.drop a).take n).length = n := by simp; omega

theorem fields_told {ok : TypeId → Ty → Bool} {fuel : Nat} (IH : TellsAll enc P W spare held ok fuel) (cs : List Value) :
    ∀ (fs : List Field) (off : Nat) (τ : Ty) (xs : List (DataW H × List MemPlace)), fieldsOk P ok fs off τ = true → off + τ.sz = cs.length → xs.length = fs.length →
      (∀ (i : Nat) (f : Field), fs[i]? = some f → DataW.trod enc P W 0 spare held fuel f.type ((cs.drop f.offset).take (P.cellsOf f.type)) = xs[i]?) →
      (∀ n ∈ DataW.weightsEach P (fs.map (·.type)) (xs.map (·.1)), n ≤ reachBytes) →
      ∃ x : τ.den, Enc (fun b => b < W.heap.size) W τ x (cs.drop off) ∧ okT τ x ∧ bulkT τ x ≤ uptoBulkAll (xs.map (·.1))
  | [], off, τ, xs, h, hl, hx, hr, hw => by
    cases τ <;> simp only [fieldsOk] at h <;> try cases h
    refine ⟨(), ?_, trivial, Nat.zero_le _⟩
    simp only [Enc]
    exact List.drop_eq_nil_of_le (by simp [Ty.sz] at hl; omega)
  | [f], off, τ, xs, h, hl, hx, hr, hw => by
    simp only [fieldsOk, Bool.and_eq_true, beq_iff_eq] at h
    obtain ⟨⟨h1, h2⟩, h3⟩ := h
    match xs, hx with
    | [y], _ =>
      have h4 := hr 0 f rfl
      rw [h1, h2] at h4
      have h5 : (cs.drop off).take τ.sz = cs.drop off := by rw [List.take_of_length_le]; simp; omega
      rw [h5] at h4
      obtain ⟨x, e1, e2, e3⟩ := IH f.type τ _ y.1 y.2 h3 h4 (fun n hn => hw n (by simp [DataW.weightsEach, hn]))
      exact ⟨x, e1, e2, by simpa [uptoBulkAll] using e3⟩
  | f :: g :: fs, off, τ, xs, h, hl, hx, hr, hw => by
    cases τ <;> simp only [fieldsOk] at h <;> try cases h
    rename_i a b
    simp only [Bool.and_eq_true, beq_iff_eq] at h
    obtain ⟨⟨⟨h1, h2⟩, h3⟩, h4⟩ := h
    match xs, hx with
    | y :: ys, hx =>
      have h5 := hr 0 f rfl
      rw [h1, h2] at h5
      obtain ⟨x, e1, e2, e3⟩ := IH f.type a _ y.1 y.2 h3 h5 (fun n hn => hw n (by simp [DataW.weightsEach, hn]))
      simp only [Ty.sz] at hl
      obtain ⟨x', e4, e5, e6⟩ := fields_told IH cs (g :: fs) (off + a.sz) b ys h4 (by omega) (by simpa using hx) (fun i f' hf => hr (i + 1) f' (by simpa using hf)) (fun n hn => hw n (by
        simp only [List.map_cons, DataW.weightsEach, List.mem_append] at hn ⊢
        exact .inr hn))
      refine ⟨(x, x'), ?_, ⟨e2, e5⟩, ?_⟩
      · simp only [Enc]
        refine ⟨_, _, ?_, e1, e4⟩
        rw [← List.drop_drop]
        exact (List.take_append_drop _ _).symm
      · simp only [bulkT, List.map_cons, uptoBulkAll]
        omega

theorem arr_told {e : TypeId} {ok : TypeId → Ty → Bool} {fuel : Nat} (IH : TellsAll enc P W spare held ok fuel) (cs : List Value) :
    ∀ (n k : Nat) (τ : Ty) (xs : List (DataW H × List MemPlace)), arrOk (P.cellsOf e) (ok e) n τ = true → k * P.cellsOf e + τ.sz = cs.length → xs.length = n →
      (∀ (i : Nat), i < n → DataW.trod enc P W 0 spare held fuel e ((cs.drop ((k + i) * P.cellsOf e)).take (P.cellsOf e)) = xs[i]?) →
      (∀ m ∈ DataW.weightsAll P e (xs.map (·.1)), m ≤ reachBytes) →
      ∃ x : τ.den, Enc (fun b => b < W.heap.size) W τ x (cs.drop (k * P.cellsOf e)) ∧ okT τ x ∧ bulkT τ x ≤ uptoBulkAll (xs.map (·.1))
  | 0, k, τ, xs, h, hl, hx, hr, hw => by
    cases τ <;> simp only [arrOk] at h <;> try cases h
    refine ⟨(), ?_, trivial, Nat.zero_le _⟩
    simp only [Enc]
    exact List.drop_eq_nil_of_le (by simp [Ty.sz] at hl; omega)
  | 1, k, τ, xs, h, hl, hx, hr, hw => by
    simp only [arrOk, Bool.and_eq_true, beq_iff_eq] at h
    obtain ⟨h2, h3⟩ := h
    match xs, hx with
    | [y], _ =>
      have h4 := hr 0 (by omega)
      rw [Nat.add_zero, h2] at h4
      have h5 : (cs.drop (k * τ.sz)).take τ.sz = cs.drop (k * τ.sz) := by rw [List.take_of_length_le]; rw [h2] at hl; simp; omega
      rw [h5] at h4
      obtain ⟨x, e1, e2, e3⟩ := IH e τ _ y.1 y.2 h3 h4 (fun n hn => hw n (by simp [DataW.weightsAll, hn]))
      exact ⟨x, by rw [h2]; exact e1, e2, by simpa [uptoBulkAll] using e3⟩
  | n + 2, k, τ, xs, h, hl, hx, hr, hw => by
    cases τ <;> simp only [arrOk] at h <;> try cases h
    rename_i a b
    simp only [Bool.and_eq_true, beq_iff_eq] at h
    obtain ⟨⟨h2, h3⟩, h4⟩ := h
    match xs, hx with
    | y :: ys, hx =>
      have h5 := hr 0 (by omega)
      rw [Nat.add_zero] at h5
      obtain ⟨x, e1, e2, e3⟩ := IH e a _ y.1 y.2 h3 h5 (fun n hn => hw n (by simp [DataW.weightsAll, hn]))
      simp only [Ty.sz] at hl
      have hk : (k + 1) * P.cellsOf e = k * P.cellsOf e + a.sz := by rw [Nat.add_mul, Nat.one_mul, h2]
      obtain ⟨x', e4, e5, e6⟩ := arr_told IH cs (n + 1) (k + 1) b ys h4 (by rw [hk]; omega) (by simpa using hx) (fun i hi => by
        have := hr (i + 1) (by omega)
        rw [show k + 1 + i = k + (i + 1) by omega, this]
        simp) (fun n hn => hw n (by
        simp only [List.map_cons, DataW.weightsAll, List.mem_append] at hn ⊢
        exact .inr hn))
      refine ⟨(x, x'), ?_, ⟨e2, e5⟩, ?_⟩
      · simp only [Enc]
        refine ⟨_, _, ?_, e1, e4⟩
        rw [hk, ← List.drop_drop, ← h2]
        exact (List.take_append_drop _ _).symm
      · simp only [bulkT, List.map_cons, uptoBulkAll]
        omega

theorem list_choose {α β : Type} {p : Nat → β → Prop} : ∀ (n : Nat), (∀ i, i < n → ∃ x, p i x) → ∃ xs : List β, xs.length = n ∧ ∀ i x, xs[i]? = some x → p i x
  | 0, _ => ⟨[], rfl, by simp⟩
  | n + 1, h => by
    obtain ⟨xs, h1, h2⟩ := list_choose (α := α) n (fun i hi => h i (by omega))
    obtain ⟨x, hx⟩ := h n (by omega)
    refine ⟨xs ++ [x], by simp [h1], fun i y hy => ?_⟩
    by_cases hi : i < n
    · rw [List.getElem?_append_left (by omega)] at hy
      exact h2 i y hy
    · have : i = n := by
        obtain ⟨hlt, _⟩ := List.getElem?_eq_some_iff.1 hy
        simp at hlt
        omega
      subst this
      rw [List.getElem?_append_right (by omega), h1] at hy
      simp at hy
      subst hy
      exact hx

theorem bulk_all {τ : Ty} : ∀ (xs : List τ.den) (ds : List (DataW H)), xs.length = ds.length → (∀ (i : Nat) (x : τ.den) (d : DataW H), xs[i]? = some x → ds[i]? = some d → bulkT τ x ≤ uptoBulk d) → (xs.map (bulkT τ)).sum ≤ uptoBulkAll ds
  | [], ds, _, _ => by simp
  | x :: xs, [], h, _ => by simp at h
  | x :: xs, d :: ds, h, hb => by
    simp only [List.map_cons, List.sum_cons, uptoBulkAll]
    have h1 := hb 0 x d rfl rfl
    have h2 := bulk_all xs ds (by simpa using h) (fun i x d hx hd => hb (i + 1) x d (by simpa using hx) (by simpa using hd))
    omega

theorem weights_all {e : TypeId} {n : Nat} : ∀ (ds : List (DataW H)) (i : Nat) (d : DataW H), ds[i]? = some d → n ∈ d.weights P e → n ∈ DataW.weightsAll P e ds
  | [], i, d, h, _ => by simp at h
  | c :: ds, 0, d, h, hn => by
    simp at h
    subst h
    simp [DataW.weightsAll, hn]
  | c :: ds, i + 1, d, h, hn => by
    simp only [List.getElem?_cons_succ] at h
    simp only [DataW.weightsAll, List.mem_append]
    exact .inr (weights_all ds i d h hn)

theorem addr_add2 (a : Addr) (m n : Nat) : (a.add m).add n = a.add (m + n) := by
  unfold Addr.add
  by_cases h1 : m = 0 <;> by_cases h2 : n = 0 <;> simp [h1, h2]
  omega

theorem trod_told : ∀ (n : Nat) (fuel : Nat), TellsAll enc P W spare held (tyOk P n) fuel
  | 0, fuel, t, τ, cs, d, ps, h, _, _ => by simp [tyOk] at h
  | n + 1, fuel, t, τ, cs, d, ps, h, htr, hw => by
    simp only [tyOk] at h
    split at h
    · rename_i hu
      cases fuel with
      | zero => simp [DataW.trod] at htr
      | succ fuel =>
        unfold DataW.trod at htr
        rw [hu] at htr
        split at htr <;> simp_all
        obtain ⟨rfl, _⟩ := htr
        exact ⟨_, rfl, trivial, by simp [bulkT, uptoBulk]⟩
    · rename_i k k' hu
      have hk := of_decide_eq_true h
      subst hk
      cases fuel with
      | zero => simp [DataW.trod] at htr
      | succ fuel =>
        unfold DataW.trod at htr
        rw [hu] at htr
        split at htr <;> simp_all
        obtain ⟨⟨rfl, hwf⟩, rfl, _⟩ := htr
        exact ⟨_, rfl, hwf, by simp [bulkT, uptoBulk]⟩
    · rename_i hu
      cases fuel with
      | zero => simp [DataW.trod] at htr
      | succ fuel =>
        unfold DataW.trod at htr
        rw [hu] at htr
        split at htr <;> simp_all
        rename_i s
        obtain ⟨_, rfl, _⟩ := htr
        refine ⟨s.data.toList, by simp [Enc], ?_, by simp [bulkT, uptoBulk]⟩
        simp only [okT]
        exact hw _ (by simp [DataW.weights])
    · rename_i e τ' hu
      simp only [Bool.and_eq_true, beq_iff_eq] at h
      obtain ⟨⟨⟨h1, h2⟩, h3⟩, h4⟩ := h
      have h2' : 0 < τ'.sz := by simpa using h2
      have h3' : 0 < P.bytesOf e := by simpa using h3
      rcases DataW.trod_slice hu htr with ⟨rfl, hx⟩ | ⟨a, len, cap, elems, rest, m, rfl, rfl, hx, hb, hl, hm, hlen, hel, hsp, hns⟩
      · cases hx
        exact ⟨[], ⟨none, 0, rfl, by simp, fun _ => rfl, fun a ha => by cases ha⟩, by simp [okT], by simp [bulkT, uptoBulk]⟩
      · cases hx
        have hw1 : (elems.length + rest.length) * P.bytesOf e ≤ reachBytes ∧ ∀ n ∈ DataW.weightsAll P e (elems.map (·.1)), n ≤ reachBytes := by
          simp only [DataW.weights, hu, List.length_map] at hw
          exact ⟨hw _ (by simp), fun n hn => hw n (by simp [hn])⟩
        have hone : ∀ i, i < len → ∃ x : τ'.den, a.spot = none ∧ a.block < W.heap.size ∧ okT τ' x ∧ (∃ y, elems[i]? = some y ∧ bulkT τ' x ≤ uptoBulk y.1) ∧
            ∃ us, Enc (fun b => b < W.heap.size) W τ' x us ∧ us.length = τ'.sz ∧ ∀ (j : Nat) (u : Value), us[j]? = some u → W.cell? ⟨a.block, a.off + i * τ'.sz + j, none⟩ = some u := fun i hi => by
          have h5 := hel i hi
          have hy : ∃ y, elems[i]? = some y := ⟨_, List.getElem?_eq_getElem (by omega)⟩
          obtain ⟨y, hy⟩ := hy
          rw [hy] at h5
          cases hcs : W.cells? 0 (a.add (i * P.cellsOf e)) (P.cellsOf e) with
          | none => rw [hcs] at h5; cases h5
          | some us =>
            rw [hcs, Option.bind_some] at h5
            obtain ⟨_, hul, hcell⟩ := World.cells?_some hcs
            obtain ⟨x, e1, e2, e3⟩ := trod_told n m e τ' us y.1 y.2 h4 h5 (fun k hk => hw1.2 k (weights_all _ i y.1 (by simp [hy]) hk))
            have hcell' : ∀ (j : Nat) (u : Value), us[j]? = some u → W.cell? (a.add (i * τ'.sz + j)) = some u := fun j u hu => by
              have hj : j < P.cellsOf e := by
                obtain ⟨hj, _⟩ := List.getElem?_eq_some_iff.1 hu
                omega
              have := hcell j hj
              rw [addr_add2, hu, h1] at this
              exact this
            have hu0 : us[0]? = some (us[0]'(by omega)) := List.getElem?_eq_getElem (by omega)
            have hc0 := hcell' 0 _ hu0
            have hspot0 : (a.add (i * τ'.sz + 0)).spot = none := World.cell?_spot hc0
            have hblk : (a.add (i * τ'.sz + 0)).block < W.heap.size := by
              unfold World.cell? at hc0
              split at hc0
              · rename_i c _ _ hh
                exact (Array.getElem?_eq_some_iff.1 hh).1
              · cases hc0
            rw [ChangeShapes.block_add] at hblk
            refine ⟨x, ?_, hblk, e2, ⟨y, hy, e3⟩, us, e1, by omega, fun j u hu => ?_⟩
            · -- the first element stands at the place itself
              have h0 := hel 0 (by omega)
              cases hcs0 : W.cells? 0 (a.add (0 * P.cellsOf e)) (P.cellsOf e) with
              | none =>
                rw [hcs0] at h0
                rw [List.getElem?_eq_getElem (by omega)] at h0
                cases h0
              | some us0 =>
                obtain ⟨_, hul0, hcell0⟩ := World.cells?_some hcs0
                have := hcell0 0 (by omega)
                rw [List.getElem?_eq_getElem (by omega)] at this
                have h9 := World.cell?_spot this
                simpa [Addr.add] using h9
            · have := hcell' j u hu
              by_cases hz : i * τ'.sz + j = 0
              · have hsp0 : a.spot = none := by
                  rw [hz] at this
                  have := World.cell?_spot this
                  simpa [Addr.add] using this
                obtain ⟨ab, ao, asp⟩ := a
                simp only at hsp0
                subst hsp0
                rw [hz] at this
                rw [show ao + i * τ'.sz + j = ao by omega]
                simpa [Addr.add] using this
              · unfold Addr.add at this
                rw [if_neg hz] at this
                rw [Nat.add_assoc]
                exact this
        obtain ⟨xs, g1, g2⟩ := list_choose (α := Unit) len hone
        refine ⟨xs, ⟨some a, cap, by rw [g1], by omega, (fun h => by cases h), fun a' ha' i x hx => ?_⟩, ⟨?_, fun x hx => ?_⟩, ?_⟩
        · cases ha'
          obtain ⟨q1, q2, q3, q4, q5⟩ := g2 i x hx
          exact ⟨q1, q2, q5⟩
        · rw [g1, ← hlen]
          have : elems.length + rest.length ≤ (elems.length + rest.length) * P.bytesOf e := Nat.le_mul_of_pos_right _ h3'
          omega
        · obtain ⟨i, hi, rfl⟩ := List.getElem_of_mem hx
          exact (g2 i _ (List.getElem?_eq_getElem hi)).2.2.1
        · simp only [bulkT, uptoBulk]
          have := bulk_all xs (elems.map (·.1)) (by simp [g1, hlen]) (fun i x d hx hd => by
            obtain ⟨_, _, _, ⟨y, hy, hb⟩, _⟩ := g2 i x hx
            rw [List.getElem?_map, hy] at hd
            cases hd
            exact hb)
          omega
    · rename_i fs hu
      simp only [Bool.and_eq_true, beq_iff_eq] at h
      obtain ⟨xs, m, rfl, hx, hl, hxl, hr⟩ := DataW.trod_struct hu htr
      cases hx
      have hw1 : ∀ n ∈ DataW.weightsEach P (fs.toList.map (·.type)) (xs.map (·.1)), n ≤ reachBytes := by
        simp only [DataW.weights, hu] at hw
        exact hw
      obtain ⟨x, e1, e2, e3⟩ := fields_told (trod_told n m) cs fs.toList 0 _ xs h.2 (by rw [hl, h.1]; simp) (by simpa using hxl) (fun i f hf => hr i f (by simpa using hf)) hw1
      exact ⟨x, by simpa using e1, e2, by simp only [uptoBulk]; omega⟩
    · rename_i k e hu
      simp only [Bool.and_eq_true, beq_iff_eq] at h
      obtain ⟨xs, m, rfl, hx, hl, hxl, hr⟩ := DataW.trod_array hu htr
      cases hx
      have hw1 : ∀ n ∈ DataW.weightsAll P e (xs.map (·.1)), n ≤ reachBytes := by
        simp only [DataW.weights, hu] at hw
        exact hw
      obtain ⟨x, e1, e2, e3⟩ := arr_told (trod_told n m) cs k 0 _ xs h.2 (by rw [hl, h.1]; simp) hxl (fun i hi => by rw [Nat.zero_add]; exact hr i hi) hw1
      exact ⟨x, by simpa using e1, e2, by simp only [uptoBulk]; omega⟩
    · cases h

end
end Go.Proofs.YtfepkpindchleaaE
