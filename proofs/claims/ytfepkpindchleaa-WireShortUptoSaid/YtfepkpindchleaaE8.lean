/- The engine, part 8: slices: what is read of them, their parts, their elements. -/
import Derived.Test.YtfepkpindchleaaE7
import Derived.Laws.Slices
import Derived.Laws.BytesArg
import Derived.Lib.ConvBytes
namespace Go.Proofs.YtfepkpindchleaaE
open Go
set_option linter.unusedVariables false
set_option linter.unusedSimpArgs false

/-! ### Elements, one behind the other -/
def EncL (F : Nat → Prop) (w : World) (t : Ty) : List t.den → List Value → Prop
  | [], vs => vs = []
  | x :: xs, vs => ∃ us us', vs = us ++ us' ∧ Enc F w t x us ∧ EncL F w t xs us'

theorem encL_len {F : Nat → Prop} {w : World} {t : Ty} : ∀ {xs : List t.den} {vs : List Value}, EncL F w t xs vs → vs.length = xs.length * t.sz
  | [], _, h => by simp only [EncL] at h; subst h; simp
  | x :: xs, _, h => by
    simp only [EncL] at h
    obtain ⟨us, us', rfl, h1, h2⟩ := h
    rw [List.length_append, h1.len, encL_len h2, List.length_cons, Nat.add_mul]
    omega
theorem encL_one {F : Nat → Prop} {w : World} {t : Ty} : ∀ {xs : List t.den} {vs : List Value}, EncL F w t xs vs → ∀ u ∈ vs, u.oneCell' = true
  | [], _, h => by simp only [EncL] at h; subst h; simp
  | x :: xs, _, h => by
    simp only [EncL] at h
    obtain ⟨us, us', rfl, h1, h2⟩ := h
    intro u hu
    rcases List.mem_append.1 hu with hu | hu
    · exact h1.one u hu
    · exact encL_one h2 u hu
theorem encL_mono {F F' : Nat → Prop} {w w' : World} (hF : ∀ b, F b → F' b) (hw : ∀ b, F b → w'.heap[b]? = w.heap[b]?) {t : Ty} : ∀ {xs : List t.den} {vs : List Value}, EncL F w t xs vs → EncL F' w' t xs vs
  | [], _, h => by simpa only [EncL] using h
  | x :: xs, _, h => by
    simp only [EncL] at h ⊢
    obtain ⟨us, us', rfl, h1, h2⟩ := h
    exact ⟨us, us', rfl, h1.mono hF hw, encL_mono hF hw h2⟩
theorem encL_append {F : Nat → Prop} {w : World} {t : Ty} : ∀ {xs ys : List t.den} {us vs : List Value}, EncL F w t xs us → EncL F w t ys vs → EncL F w t (xs ++ ys) (us ++ vs)
  | [], ys, us, vs, h, h' => by simp only [EncL] at h; subst h; exact h'
  | x :: xs, ys, _, vs, h, h' => by
    simp only [EncL] at h
    obtain ⟨us, us', rfl, h1, h2⟩ := h
    simp only [List.cons_append, EncL]
    exact ⟨us, us' ++ vs, by simp, h1, encL_append h2 h'⟩
theorem encL_get {F : Nat → Prop} {w : World} {t : Ty} : ∀ {xs : List t.den} {vs : List Value}, EncL F w t xs vs → ∀ (i : Nat) (x : t.den), xs[i]? = some x →
    ∃ us, Enc F w t x us ∧ us.length = t.sz ∧ ∀ (j : Nat) (u : Value), us[j]? = some u → vs[i * t.sz + j]? = some u
  | [], _, _, i, x, hx => by simp at hx
  | y :: xs, _, h, i, x, hx => by
    simp only [EncL] at h
    obtain ⟨us, us', rfl, h1, h2⟩ := h
    cases i with
    | zero =>
      simp at hx
      subst hx
      refine ⟨us, h1, h1.len, fun j u hj => ?_⟩
      rw [Nat.zero_mul, Nat.zero_add, List.getElem?_append_left (by obtain ⟨h3, _⟩ := List.getElem?_eq_some_iff.1 hj; exact h3)]
      exact hj
    | succ i =>
      simp at hx
      obtain ⟨zs, e1, e2, e3⟩ := encL_get h2 i x hx
      refine ⟨zs, e1, e2, fun j u hj => ?_⟩
      have := e3 j u hj
      rw [List.getElem?_append_right (by rw [h1.len, Nat.add_mul]; omega), ← this]
      congr 1
      rw [h1.len, Nat.add_mul]
      omega

theorem lies_encL {F : Nat → Prop} {w : World} {t : Ty} : ∀ {xs : List t.den} {b o : Nat}, Lies F w t xs b o →
    ∃ vs, EncL F w t xs vs ∧ ∀ (j : Nat) (u : Value), vs[j]? = some u → w.cell? ⟨b, o + j, none⟩ = some u
  | [], b, o, _ => ⟨[], by simp [EncL], by simp⟩
  | x :: xs, b, o, h => by
    obtain ⟨us, e1, e2, e3⟩ := h 0 x rfl
    have h' : Lies F w t xs b (o + t.sz) := fun i y hy => by
      obtain ⟨zs, z1, z2, z3⟩ := h (i + 1) y (by simpa using hy)
      refine ⟨zs, z1, z2, fun j u hj => ?_⟩
      have := z3 j u hj
      rw [Nat.add_mul, Nat.one_mul] at this
      rw [← this]
      congr 2
      omega
    obtain ⟨vs, v1, v2⟩ := lies_encL h'
    refine ⟨us ++ vs, by simp only [EncL]; exact ⟨us, vs, rfl, e1, v1⟩, fun j u hj => ?_⟩
    by_cases hlt : j < us.length
    · rw [List.getElem?_append_left hlt] at hj
      have := e3 j u hj
      simpa using this
    · rw [List.getElem?_append_right (by omega)] at hj
      have := v2 _ u hj
      rw [← this]
      congr 2
      omega

/-- Cells that hold elements, read from a place on. -/
theorem encL_lies {F : Nat → Prop} {w : World} {t : Ty} {xs : List t.den} {vs : List Value} {b o : Nat} (h : EncL F w t xs vs) (hc : ∀ (j : Nat) (u : Value), vs[j]? = some u → w.cell? ⟨b, o + j, none⟩ = some u) : Lies F w t xs b o := fun i x hx => by
  obtain ⟨us, e1, e2, e3⟩ := encL_get h i x hx
  exact ⟨us, e1, e2, fun j u hj => by have := hc _ u (e3 j u hj); rw [← Nat.add_assoc] at this; exact this⟩

theorem encL_bytes {F : Nat → Prop} {w : World} : ∀ (s : List UInt8), EncL F w (.int .u8) (bytesInt s) (byteCells ⟨s.toArray⟩)
  | [] => by simp [bytesInt, byteCells, EncL]
  | c :: s => by
    have := encL_bytes (F := F) (w := w) s
    simp only [byteCells, bytesInt, List.map_cons, EncL] at this ⊢
    exact ⟨[_], _, rfl, by simp [Enc], this⟩

/-! ### A slice, whatever it is, as a list -/
theorem elemsOf_rel {w : World} {hp : Nat → LObj} {nx : Nat} {μ : Nat → Pl} {F : Nat → Prop} (hi : HInv w hp nx μ F) {t : Ty} {x : AV} {xs : List t.den} {v : Value} (h : elemsOf hp t x = some xs) (hv : VRel μ F w x v) :
    ∃ A cap, v = .slice A xs.length cap ∧ xs.length ≤ cap ∧ (A = none → xs = []) ∧ (xs ≠ [] → ∃ b o, A = some ⟨b, o, none⟩ ∧ Lies F w t xs b o) := by
  cases x <;> simp only [elemsOf] at h <;> try cases h
  case list t' ys =>
    split at h
    · rename_i ht
      subst ht
      replace h : some ys = some xs := h
      cases h
      simp only [VRel] at hv
      obtain ⟨A, cap, rfl, h1, h2, h3⟩ := enc_list.1 hv
      refine ⟨A, cap, rfl, h1, h2, fun hne => ?_⟩
      cases A with
      | none => exact absurd (h2 rfl) hne
      | some a =>
        obtain ⟨e1, e2, e3⟩ := h3 a rfl hne
        obtain ⟨b, o, s⟩ := a
        simp only at e1
        subst e1
        exact ⟨b, o, rfl, e3⟩
    · cases h
  case ns =>
    simp only [VRel] at hv
    subst hv
    exact ⟨none, 0, rfl, by simp, fun _ => rfl, fun h => absurd rfl h⟩
  case rowA k =>
    simp only [VRel] at hv
    obtain ⟨a, len, cap, sz, A0, hk, rfl, hA0⟩ := hv
    have hkn : k < nx := by
      by_cases hlt : k < nx
      · exact hlt
      · rw [hi.top k (by omega)] at hk; cases hk
    have ho := hi.obj k hkn
    rw [hk] at ho
    obtain ⟨τ, ys, h3, h4, h5, h6, h7, h8⟩ := sz_row ho
    rw [h3] at h
    simp only at h
    split at h
    · rename_i ht
      subst ht
      replace h : some ys = some xs := h
      cases h
      refine ⟨A0, cap, by rw [h5], by omega, fun hA => ?_, fun hne => ?_⟩
      · refine List.length_eq_zero_iff.1 ?_
        by_cases hcap : cap = 0
        · omega
        · rw [hA0 hcap] at hA
          cases a with
          | none => have := h7 rfl; omega
          | some bo => simp [rowAddr] at hA
      · have hl : ys.length ≠ 0 := fun h0 => hne (List.length_eq_zero_iff.1 h0)
        rw [hA0 (by omega)]
        cases a with
        | none => have := h7 rfl; omega
        | some bo =>
          obtain ⟨b, o⟩ := bo
          subst h4
          exact ⟨b, o, rfl, row_lies (fun _ h => h) (h8 b o rfl (by omega))⟩
    · cases h
  case rowS k off n c =>
    simp only [VRel] at hv
    obtain ⟨a, len, cap, sz, A, cap', hk, hle, hcap', rfl, hA'⟩ := hv
    have hkn : k < nx := by
      by_cases hlt : k < nx
      · exact hlt
      · rw [hi.top k (by omega)] at hk; cases hk
    have ho := hi.obj k hkn
    rw [hk] at ho
    obtain ⟨τ, ys, h3, h4, h5, h6, h7, h8⟩ := sz_row ho
    rw [h3] at h
    simp only at h
    split at h
    · rename_i ht
      subst ht
      replace h : some ((ys.drop off).take n) = some xs := h
      cases h
      have hlen : ((ys.drop off).take n).length = n := by simp; omega
      have hnc : n ≤ cap' := by rw [hcap']; split <;> omega
      refine ⟨A, cap', by rw [hlen], by rw [hlen]; exact hnc, fun hA => ?_, fun hne => ?_⟩
      · refine List.length_eq_zero_iff.1 ?_
        rw [hlen]
        by_cases h0 : cap' = 0
        · omega
        · obtain ⟨b, o, _, h9⟩ := hA' h0
          rw [hA] at h9; cases h9
      · have hn0 : n ≠ 0 := fun h0 => hne (List.length_eq_zero_iff.1 (by rw [hlen]; exact h0))
        obtain ⟨b, o, rfl, rfl⟩ := hA' (by omega)
        subst h4
        exact ⟨b, _, rfl, (row_lies (fun _ h => h) (h8 b o rfl (by omega))).part off n⟩
    · cases h

theorem lenE_rel {P : Program} {w : World} {hp : Nat → LObj} {nx : Nat} {μ : Nat → Pl} {F : Nat → Prop} (hi : HInv w hp nx μ F) {x : AV} {n : Nat} {v : Value} (h : lenE hp x = some n) (hv : VRel μ F w x v) :
    (∃ s : List UInt8, x = .str s ∧ v = .string ⟨s.toArray⟩ ∧ n = s.length) ∨ (∃ A cap, v = .slice A n cap) := by
  cases x <;> simp only [lenE] at h <;> try cases h
  case str s => simp only [VRel] at hv; exact .inl ⟨s, rfl, hv, rfl⟩
  case list t xs => simp only [VRel] at hv; obtain ⟨A, cap, rfl, _⟩ := enc_list.1 hv; exact .inr ⟨A, cap, rfl⟩
  case ns => simp only [VRel] at hv; exact .inr ⟨none, 0, hv⟩
  case rowA k =>
    simp only [VRel] at hv
    obtain ⟨a, len, cap, sz, A0, hk, rfl, hA0⟩ := hv
    have hkn : k < nx := by
      by_cases hlt : k < nx
      · exact hlt
      · rw [hi.top k (by omega)] at hk; cases hk
    have ho := hi.obj k hkn
    rw [hk] at ho
    obtain ⟨τ, ys, h3, h4, h5, h6, h7, h8⟩ := sz_row ho
    rw [h3] at h
    cases h
    exact .inr ⟨_, cap, by rw [h5]⟩
  case rowS k off c =>
    simp only [VRel] at hv
    obtain ⟨a, len, cap, sz, A, cap', hk, hle, hcap', rfl, hA'⟩ := hv
    exact .inr ⟨A, cap', rfl⟩

theorem natOf_rel {μ : Nat → Pl} {F : Nat → Prop} {w : World} {x : AV} {n : Int} {v : Value} (h : natOf x = some n) (hv : VRel μ F w x v) : ∃ k, v = .int k n := by
  cases x <;> simp only [natOf] at h <;> cases h
  simp only [VRel] at hv
  exact ⟨_, hv⟩

theorem byteArray_get (s : List UInt8) (i : Nat) : (⟨s.toArray⟩ : ByteArray)[i]? = s[i]? := by
  by_cases h : i < s.length
  · have hs : i < (⟨s.toArray⟩ : ByteArray).size := by simpa [ByteArray.size] using h
    rw [ByteArray.getElem?_lt' _ _ hs, List.getElem?_eq_getElem h]
    rfl
  · have hs : ¬ i < (⟨s.toArray⟩ : ByteArray).size := by simpa [ByteArray.size] using h
    rw [ByteArray.getElem?_ge' _ _ hs, List.getElem?_eq_none (by omega)]

theorem indexE_rel {P : Program} {T : Tab} (hT : TabOk P T) {R : Type} {K : Eff → Option R} {r : R} {μ : Nat → Pl} {F : Nat → Prop} {w : World} {t : Nat} {x ix : AV} {u v : Value}
    (h : indexE T t x ix K = some r) (hu : VRel μ F w x u) (hv : VRel μ F w ix v) : ∃ z q, K (.val z) = some r ∧ (Instr.index t u v).run P w = .ok q w ∧ VRel μ F w z q := by
  unfold indexE at h
  split at h
  · cases h
  · rename_i i hix
    obtain ⟨k, rfl⟩ := natOf_rel hix hv
    split at h
    · rename_i s hd
      have ht := desc_ok hT hd (by simp)
      simp only [DescOk] at ht
      simp only [VRel] at hu
      subst hu
      obtain ⟨h0, h⟩ := req_some h
      obtain ⟨h1, h⟩ := req_some h
      have h0 := of_decide_eq_true h0
      have h1 := of_decide_eq_true h1
      have hlt : i.toNat < s.length := by omega
      refine ⟨_, .int .u8 (s.getD i.toNat 0).toNat, h, ?_, by simp [VRel]⟩
      have hg : (⟨s.toArray⟩ : ByteArray)[i.toNat]? = some (s.getD i.toNat 0) := by rw [byteArray_get]; simp [List.getD, List.getElem?_eq_getElem hlt]
      simp [Instr.index, asIntOf, run_underlying ht, h0, hg]
    · rename_i n e cs hd
      have ht := desc_ok hT hd (by simp)
      simp only [DescOk] at ht
      split at h
      · rename_i m hm
        simp only [VRel] at hu
        obtain ⟨us, rfl, hus, hu1⟩ := hu
        have key : ∀ (n' j : Nat), j + n' = n → pickIdx i n' j (fun j => match partE T e cs (j * m) with | some v => K (.val v) | none => none) = some r →
            ∃ z q, K (.val z) = some r ∧ (Instr.index t (.agg us.toArray) (.int k i)).run P w = .ok q w ∧ VRel μ F w z q := by
          intro n'
          induction n' with
          | zero => intro j _ hj; simp [pickIdx] at hj
          | succ n' ih =>
            intro j hjn hj
            simp only [pickIdx] at hj
            cases hd2 : decide (i = (j : Int)) with
            | true =>
              rw [hd2] at hj
              simp only [cond_true] at hj
              have hij := of_decide_eq_true hd2
              split at hj
              · rename_i z hz
                obtain ⟨q, e1, e2⟩ := part_rel hT hz hus hu1 w
                refine ⟨z, q, hj, ?_, e2⟩
                have hin : 0 ≤ i ∧ i < (n : Int) := by omega
                have hto : i.toNat = j := by omega
                simp [Instr.index, asIntOf, run_underlying ht, hin, size_run hT hm, hto, e1]
              · cases hj
            | false =>
              rw [hd2] at hj
              exact ih (j + 1) (by omega) hj
        exact key n 0 (by omega) h
      · cases h
    · cases h

theorem indexAddrE_rel {P : Program} {T : Tab} (hT : TabOk P T) {R : Type} {K : Eff → Option R} {r : R} {w : World} {hp : Nat → LObj} {nx : Nat} {μ : Nat → Pl} {F : Nat → Prop} (hi : HInv w hp nx μ F) {t : Nat} {x ix : AV} {u v : Value}
    (h : indexAddrE T hp t x ix K = some r) (hu : VRel μ F w x u) (hv : VRel μ F w ix v) : ∃ z q, K (.val z) = some r ∧ (Instr.indexAt t u v).run P w = .ok q w ∧ VRel μ F w z q := by
  unfold indexAddrE at h
  split at h
  · cases h
  · rename_i i hix
    obtain ⟨ik, rfl⟩ := natOf_rel hix hv
    split at h
    · rename_i e hd
      have ht := desc_ok hT hd (by simp)
      simp only [DescOk] at ht
      cases x <;> simp only at h <;> try cases h
      case list τ xs =>
        split at h
        · rename_i hsz
          obtain ⟨h0, h⟩ := req_some h
          obtain ⟨h1, h⟩ := req_some h
          have h0 := of_decide_eq_true h0
          have h1 := of_decide_eq_true h1
          simp only [VRel] at hu
          obtain ⟨A, cap, rfl, hc, hn, ha⟩ := enc_list.1 hu
          have hne : xs ≠ [] := by rintro rfl; simp at h1; omega
          cases A with
          | none => exact absurd (hn rfl) hne
          | some a =>
            obtain ⟨hs, hF, hl⟩ := ha a rfl hne
            obtain ⟨b, o, s⟩ := a
            simp only at hs
            subst hs
            refine ⟨_, .pointer (some ⟨b, o + i.toNat * τ.sz, none⟩), h, ?_, ?_⟩
            · simp [Instr.indexAt, asIntOf, run_underlying ht, h0, h1, size_run hT hsz, addr_add]
            · simp only [VRel]
              exact ⟨b, o, hF, hl, by omega, by simp⟩
        · cases h
      case rowA k =>
        simp only [VRel] at hu
        obtain ⟨a, len, cap, sz, A0, hk, rfl, hA0⟩ := hu
        have hkn : k < nx := by
          by_cases hlt : k < nx
          · exact hlt
          · rw [hi.top k (by omega)] at hk; cases hk
        have ho := hi.obj k hkn
        rw [hk] at ho
        obtain ⟨τ, ys, h3, h4, h5, h6, h7, h8⟩ := sz_row ho
        rw [h3] at h
        simp only at h
        split at h
        · rename_i hsz
          obtain ⟨h0, h⟩ := req_some h
          obtain ⟨h1, h⟩ := req_some h
          have h0 := of_decide_eq_true h0
          have h1 := of_decide_eq_true h1
          cases a with
          | none => have := h7 rfl; omega
          | some bo =>
            obtain ⟨b, o⟩ := bo
            subst h4
            refine ⟨_, .pointer (some ⟨b, o + i.toNat * τ.sz, none⟩), h, ?_, ?_⟩
            · have h1' : i < (len : Int) := by omega
              rw [hA0 (by omega)]
              simp [Instr.indexAt, asIntOf, run_underlying ht, h0, h1', size_run hT hsz, addr_add, rowAddr]
            · simp only [VRel]
              exact ⟨b, o, len, cap, hk, by omega, by simp⟩
        · cases h
      case rowS k off n c =>
        simp only [VRel] at hu
        obtain ⟨a, len, cap, sz, A, cap', hk, hle, hcap', rfl, hA'⟩ := hu
        have hkn : k < nx := by
          by_cases hlt : k < nx
          · exact hlt
          · rw [hi.top k (by omega)] at hk; cases hk
        have ho := hi.obj k hkn
        rw [hk] at ho
        obtain ⟨τ, ys, h3, h4, h5, h6, h7, h8⟩ := sz_row ho
        rw [h3] at h
        simp only at h
        split at h
        · rename_i hsz
          obtain ⟨h0, h⟩ := req_some h
          obtain ⟨h1, h⟩ := req_some h
          have h0 := of_decide_eq_true h0
          have h1 := of_decide_eq_true h1
          obtain ⟨b, o, rfl, rfl⟩ := hA' (by rw [hcap']; split <;> omega)
          subst h4
          refine ⟨_, .pointer (some ⟨b, o + off * τ.sz + i.toNat * τ.sz, none⟩), h, ?_, ?_⟩
          · simp [Instr.indexAt, asIntOf, run_underlying ht, h0, h1, size_run hT hsz, addr_add]
          · simp only [VRel]
            refine ⟨b, o, len, cap, hk, by omega, ?_⟩
            rw [Nat.add_mul]
            simp [Nat.add_assoc]
        · cases h
    · rename_i n e hd
      have ht := desc_ok hT hd (by simp)
      simp only [DescOk] at ht
      split at h
      · rename_i k off m hm
        simp only [VRel] at hu
        obtain ⟨b, hb, rfl⟩ := hu
        have key : ∀ (n' j : Nat), j + n' = n → pickIdx i n' j (fun j => K (.val (.ptr k (off + j * m)))) = some r →
            ∃ z q, K (.val z) = some r ∧ (Instr.indexAt t (.pointer (some ⟨b, off, none⟩)) (.int ik i)).run P w = .ok q w ∧ VRel μ F w z q := by
          intro n'
          induction n' with
          | zero => intro j _ hj; simp [pickIdx] at hj
          | succ n' ih =>
            intro j hjn hj
            simp only [pickIdx] at hj
            cases hd2 : decide (i = (j : Int)) with
            | true =>
              rw [hd2] at hj
              simp only [cond_true] at hj
              have hij := of_decide_eq_true hd2
              refine ⟨_, .pointer (some ⟨b, off + j * m, none⟩), hj, ?_, by simp [VRel, hb]⟩
              have hin : 0 ≤ i ∧ i < (n : Int) := by omega
              have hto : i.toNat = j := by omega
              simp [Instr.indexAt, asIntOf, run_underlying ht, Instr.sureAddr, hin, size_run hT hm, hto, addr_add]
            | false =>
              rw [hd2] at hj
              exact ih (j + 1) (by omega) hj
        exact key n 0 (by omega) h
      · cases h
    · cases h

end Go.Proofs.YtfepkpindchleaaE
