/- The engine, part 10: operations that make memory. -/
import Derived.Test.YtfepkpindchleaaE9
import Derived.Laws.MakeOwn
import Derived.Laws.Tables
import Derived.Great.BuildSlice
namespace Go.Proofs.YtfepkpindchleaaE
open Go
set_option linter.unusedVariables false
set_option linter.unusedSimpArgs false

/-- What an operation's run comes to: a value, and the state that the effect tells. -/
def Outc (P : Program) (c : Cx) (st : St) (a : Act) (w : World) (s : Sem Value) (f : Eff) : Prop :=
  ∃ v w' μ' F', s.run P w = .ok v w' ∧ Inv c (st.apply f).2 a w' μ' F' ∧ VRel μ' F' w' (st.apply f).1 v

theorem outc_val {P : Program} {c : Cx} {st : St} {a : Act} {w : World} {μ : Nat → Pl} {F : Nat → Prop} {s : Sem Value} {x : AV} {v : Value} (hi : Inv c st a w μ F)
    (h : s.run P w = .ok v w) (hv : VRel μ F w x v) : Outc P c st a w s (.val x) := ⟨v, w, μ, F, h, hi, hv⟩

theorem grew_alloc (w : World) (o : Obj) : Grew w (w.alloc o) := Grew.push w o
theorem alloc_new (w : World) (o : Obj) : (w.alloc o).heap[w.heap.size]? = some o := by simp [World.alloc, -World.alloc_eq]

/-- A new row, in a new block. -/
theorem inv_row {c : Cx} {st : St} {a : Act} {w w' : World} {μ : Nat → Pl} {F : Nat → Prop} (hi : Inv c st a w μ F) (hg : Grew w w') {τ : Ty} {xs : List τ.den} {us : List Value} {E : TypeId} {fz : Nat × Nat} {cap : Nat}
    (hsz : w.heap.size < w'.heap.size) (hb : w'.heap[w.heap.size]? = some (.cells us.toArray E fz)) (hfz : ∀ i, i < us.length → ¬ (fz.1 ≤ i ∧ i < fz.2)) (hcap : xs.length ≤ cap) (hfit : cap * τ.sz ≤ us.length)
    (hel : ∀ (i : Nat) (x : τ.den), xs[i]? = some x → ∃ vs, Enc F w' τ x vs ∧ vs.length = τ.sz ∧ ∀ (j : Nat) (u : Value), vs[j]? = some u → us[i * τ.sz + j]? = some u) (hby : ByteOk τ E) :
    Inv c (st.news [.row τ xs]) a w' (addPl μ st.nx [.row (some (w.heap.size, 0)) xs.length cap τ.sz]) F ∧
      VRel (addPl μ st.nx [.row (some (w.heap.size, 0)) xs.length cap τ.sz]) F w' (.rowA st.nx) (.slice (some ⟨w.heap.size, 0, none⟩) xs.length cap) := by
  refine ⟨inv_news hi hg _ _ rfl ?_ ?_ ?_, ?_⟩
  · intro i o p ho hp
    cases i with
    | zero =>
      simp at ho hp
      subst ho hp
      simp only [ORel]
      refine ⟨trivial, trivial, hcap, (fun h => by cases h), fun b o hbo _ => ?_⟩
      cases hbo
      refine ⟨us, E, fz, hb, hfz, by omega, fun i x hx => ?_, hby⟩
      obtain ⟨vs, e1, e2, e3⟩ := hel i x hx
      exact ⟨vs, e1, e2, fun j u hj => by rw [Nat.zero_add]; exact e3 j u hj⟩
    | succ i => simp at ho
  · intro i p b hp hpo
    cases i with
    | zero =>
      simp at hp
      subst hp
      simp only [Pl.owns] at hpo
      split at hpo
      · cases hpo
      · cases hpo; exact ⟨Nat.le_refl _, hsz⟩
    | succ i => simp at hp
  · intro i j p q b hp hq _ _
    cases i <;> cases j <;> simp at hp hq <;> rfl
  · simp only [VRel]
    have := addPl_new (μ := μ) (nx := st.nx) (ps := [.row (some (w.heap.size, 0)) xs.length cap τ.sz]) 0
    refine ⟨some (w.heap.size, 0), xs.length, cap, τ.sz, _, by simpa using this, rfl, fun _ => rfl⟩

/-- A new row that has no memory. -/
theorem inv_row0 {c : Cx} {st : St} {a : Act} {w : World} {μ : Nat → Pl} {F : Nat → Prop} (hi : Inv c st a w μ F) (τ : Ty) (A : Option Addr) :
    Inv c (st.news [.row τ []]) a w (addPl μ st.nx [.row none 0 0 τ.sz]) F ∧ VRel (addPl μ st.nx [.row none 0 0 τ.sz]) F w (.rowA st.nx) (.slice A 0 0) := by
  refine ⟨inv_news hi (Grew.refl w) _ _ rfl ?_ ?_ ?_, ?_⟩
  · intro i o p ho hp
    cases i with
    | zero =>
      simp at ho hp
      subst ho hp
      simp only [ORel]
      exact ⟨trivial, rfl, Nat.le_refl _, fun _ => trivial, (fun b o hbo _ => by cases hbo)⟩
    | succ i => simp at ho
  · intro i p b hp hpo
    cases i with
    | zero => simp at hp; subst hp; simp [Pl.owns] at hpo
    | succ i => simp at hp
  · intro i j p q b hp hq _ _
    cases i <;> cases j <;> simp at hp hq <;> rfl
  · simp only [VRel]
    have := addPl_new (μ := μ) (nx := st.nx) (ps := [.row none 0 0 τ.sz]) 0
    exact ⟨none, 0, 0, τ.sz, A, by simpa using this, rfl, fun h => absurd rfl h⟩

/-! ### Boxes -/
theorem liven_ok : ∀ (cs : List AV) (ts : List (Option Ty)) (n : Nat), ∃ ps : List Pl, ps.length = (liven cs ts n).2.length ∧
    (∀ (i : Nat) (o : LObj) (p : Pl), (liven cs ts n).2[i]? = some o → ps[i]? = some p → ∃ τ : Ty, o = .row τ [] ∧ p = .row none 0 0 τ.sz) ∧
    ∀ (μ μ' : Nat → Pl) (F : Nat → Prop) (w : World) (us : List Value), (∀ k ∈ AV.refsL cs, μ' k = μ k) → (∀ (i : Nat) (p : Pl), ps[i]? = some p → μ' (n + i) = p) → VRelL μ F w cs us → VRelL μ' F w (liven cs ts n).1 us
  | [], ts, n => ⟨[], by cases ts <;> simp [liven], by simp, fun μ μ' F w us _ _ h => by cases ts <;> simpa [liven, VRelL] using h⟩
  | c :: cs, [], n => by
    refine ⟨[], by cases c <;> simp [liven], by simp, fun μ μ' F w us hr _ h => ?_⟩
    have : (liven (c :: cs) [] n).1 = c :: cs := by cases c <;> simp [liven]
    rw [this]
    exact vrelL_mono (fun _ h => h) (fun _ _ => rfl) hr h
  | c :: cs, t :: ts, n => by
    have plain : (liven (c :: cs) (t :: ts) n).1 = c :: (liven cs ts n).1 → (liven (c :: cs) (t :: ts) n).2 = (liven cs ts n).2 → ∃ ps : List Pl, ps.length = (liven (c :: cs) (t :: ts) n).2.length ∧
        (∀ (i : Nat) (o : LObj) (p : Pl), (liven (c :: cs) (t :: ts) n).2[i]? = some o → ps[i]? = some p → ∃ τ : Ty, o = .row τ [] ∧ p = .row none 0 0 τ.sz) ∧
        ∀ (μ μ' : Nat → Pl) (F : Nat → Prop) (w : World) (us : List Value), (∀ k ∈ AV.refsL (c :: cs), μ' k = μ k) → (∀ (i : Nat) (p : Pl), ps[i]? = some p → μ' (n + i) = p) → VRelL μ F w (c :: cs) us → VRelL μ' F w (liven (c :: cs) (t :: ts) n).1 us := by
      intro h1 h2
      obtain ⟨ps, e1, e2, e3⟩ := liven_ok cs ts n
      refine ⟨ps, by rw [h2]; exact e1, by rw [h2]; exact e2, fun μ μ' F w us hr hp h => ?_⟩
      rw [h1]
      simp only [VRelL] at h ⊢
      obtain ⟨u, us, rfl, g1, g2⟩ := h
      exact ⟨u, us, rfl, vrel_mono (fun _ h => h) (fun _ _ => rfl) (fun k hk => hr k (by simp [AV.refsL, hk])) g1, e3 μ μ' F w us (fun k hk => hr k (by simp [AV.refsL, hk])) hp g2⟩
    cases c <;> try exact plain (by simp [liven]) (by simp [liven])
    cases t with
    | none => exact plain (by simp [liven]) (by simp [liven])
    | some τ =>
      obtain ⟨ps, e1, e2, e3⟩ := liven_ok cs ts (n + 1)
      refine ⟨.row none 0 0 τ.sz :: ps, by simp [liven, e1], fun i o p ho hp => ?_, fun μ μ' F w us hr hp h => ?_⟩
      · cases i with
        | zero => simp [liven] at ho hp; exact ⟨τ, ho.symm, hp.symm⟩
        | succ i => simp [liven] at ho hp; exact e2 i o p ho hp
      · simp only [liven, VRelL] at h ⊢
        obtain ⟨u, us, rfl, g1, g2⟩ := h
        refine ⟨u, us, rfl, ?_, e3 μ μ' F w us (fun k hk => hr k (by simp [AV.refsL, hk])) (fun i p hi => by have := hp (i + 1) p (by simpa using hi); rw [← this]; congr 1; omega) g2⟩
        simp only [VRel] at g1 ⊢
        subst g1
        exact ⟨none, 0, 0, τ.sz, none, hp 0 _ rfl, rfl, fun h => absurd rfl h⟩

theorem tagOf_ok {T : Tab} {t : Nat} : TagOk (tagOf T t) t := fun n h => by
  unfold tagOf at h
  split at h
  · exact Option.some.inj h
  · cases h
theorem boxE_rel {P : Program} {T : Tab} {c : Cx} {st : St} {a : Act} {w : World} {μ : Nat → Pl} {F : Nat → Prop} (hi : Inv c st a w μ F) {t : Nat} {cs : List AV} {u : Value} {f : Eff}
    (h : boxE T st.nx t cs = some f) (hu : VRelL μ F w cs u.cells.toList) (h1 : ∀ x ∈ u.cells.toList, x.oneCell' = true) : Outc P c st a w (Instr.box t u) f := by
  unfold boxE at h
  split at h
  · rename_i r hr
    cases h
    obtain ⟨ps, e1, e2, e3⟩ := liven_ok cs r.cty (st.nx + 1)
    have hg := grew_alloc w (.cells u.cells t)
    have hbox := alloc_new w (.cells u.cells t)
    have hsz : (w.alloc (.cells u.cells t)).heap.size = w.heap.size + 1 := by simp
    have hnew : ∀ (i : Nat), addPl μ st.nx (.box w.heap.size :: ps) (st.nx + i) = ((.box w.heap.size :: ps)[i]?).getD .none := fun i => addPl_new i
    have hFw : ∀ b, F b → (w.alloc (.cells u.cells t)).heap[b]? = w.heap[b]? := fun b hb => hg.block b (hi.h.inn b hb)
    have hnotbox : ∀ (i : Nat) (p : Pl), ps[i]? = some p → p.owns = none := fun i p hp => by
      have hlt : i < ps.length := by obtain ⟨h2, _⟩ := List.getElem?_eq_some_iff.1 hp; exact h2
      obtain ⟨τ, _, rfl⟩ := e2 i _ p (List.getElem?_eq_getElem (by omega)) hp
      rfl
    refine ⟨.pointer (some ⟨w.heap.size, 0, none⟩), w.alloc (.cells u.cells t), addPl μ st.nx (.box w.heap.size :: ps), F, by simp [Instr.box, newVar, newRow], ?_, ?_⟩
    · refine inv_news hi hg _ _ (by simp [e1]) ?_ ?_ ?_
      · intro i o p ho hp
        cases i with
        | zero =>
          simp at ho hp
          subst ho hp
          simp only [ORel]
          refine ⟨u.cells.toList, t, (0, 0), by simpa using hbox, by simp, ?_, h1, tagOf_ok⟩
          have h2 := vrelL_mono (μ' := addPl μ st.nx (.box w.heap.size :: ps)) (F' := F) (w' := w.alloc (.cells u.cells t)) (fun _ h => h) hFw (fun k hk => addPl_there hi.h.top (refsL_there hu k hk)) hu
          refine e3 _ _ F _ _ (fun _ _ => rfl) (fun i p hp => ?_) h2
          have := hnew (i + 1)
          rw [show st.nx + 1 + i = st.nx + (i + 1) by omega, this]
          simp [hp]
        | succ i =>
          simp at ho hp
          obtain ⟨τ, rfl, rfl⟩ := e2 i o p ho hp
          simp only [ORel]
          exact ⟨trivial, rfl, Nat.le_refl _, fun _ => trivial, (fun b o hbo _ => by cases hbo)⟩
      · intro i p b hp hpo
        cases i with
        | zero => simp at hp; subst hp; simp [Pl.owns] at hpo; subst hpo; exact ⟨Nat.le_refl _, by omega⟩
        | succ i => simp at hp; rw [hnotbox i p hp] at hpo; cases hpo
      · intro i j p q b hp hq hpo hqo
        cases i with
        | zero =>
          cases j with
          | zero => rfl
          | succ j => simp at hq; rw [hnotbox j q hq] at hqo; cases hqo
        | succ i => simp at hp; rw [hnotbox i p hp] at hpo; cases hpo
    · simp only [St.apply, VRel]
      have := hnew 0
      exact ⟨w.heap.size, by simpa using this, rfl⟩
  · cases h

theorem allocE_rel {P : Program} {T : Tab} (hT : TabOk P T) {c : Cx} {st : St} {a : Act} {w : World} {μ : Nat → Pl} {F : Nat → Prop} (hi : Inv c st a w μ F) {t : Nat} {r : Row} {f : Eff}
    (hr : T.row t = some r) (h : boxE T st.nx t r.zero = some f) (old : Value) : Outc P c st a w (Instr.alloc t true old) f := by
  obtain ⟨i, z, e1, e2, e3, e4, e5, e6, e7, e8⟩ := (hT t r hr).info
  obtain ⟨v, w', μ', F', g1, g2, g3⟩ := boxE_rel (P := P) hi h (e6 μ F w) e7
  refine ⟨v, w', μ', F', ?_, g2, g3⟩
  rw [← g1]
  simp [Instr.alloc, zeroValue, typeInfo, e1, e4, Instr.box]

/-! ### Rows among references -/
theorem rowsOf_le (hp : Nat → LObj) : ∀ (ks : List Nat), (rowsOf hp ks).length ≤ ks.length
  | [] => by simp [rowsOf]
  | k :: ks => by
    have := rowsOf_le hp ks
    simp only [rowsOf]
    split <;> simp <;> omega
theorem rowsOf_all {hp : Nat → LObj} : ∀ (ks : List Nat), (rowsOf hp ks).length = ks.length → ∀ k ∈ ks, ∃ t xs, hp k = .row t xs
  | [], _ => by simp
  | k :: ks, h => by
    have hle := rowsOf_le hp ks
    simp only [rowsOf] at h
    split at h
    · rename_i t xs hk
      intro j hj
      rcases List.mem_cons.1 hj with rfl | hj
      · exact ⟨t, xs, hk⟩
      · exact rowsOf_all ks (by simpa using h) j hj
    · simp at h; omega
theorem refsL_mem {k : Nat} : ∀ {cs : List AV}, k ∈ AV.refsL cs → ∃ x ∈ cs, k ∈ x.refs
  | [], h => by simp [AV.refsL] at h
  | c :: cs, h => by
    simp only [AV.refsL, List.mem_append] at h
    rcases h with h | h
    · exact ⟨c, by simp, h⟩
    · obtain ⟨x, hx, hk⟩ := refsL_mem h
      exact ⟨x, by simp [hx], hk⟩
theorem rows_all {w : World} {hp : Nat → LObj} {nx : Nat} {μ : Nat → Pl} {F : Nat → Prop} (hi : HInv w hp nx μ F) (ks : List Nat) (h : (rowsOf hp ks).length = ks.length) (hr : ∀ k ∈ ks, μ k ≠ .none) :
    (∀ k, ks.contains k = true → k < nx ∧ ∃ al l cp sz, μ k = .row al l cp sz) ∧ True := by
  refine ⟨fun k hk => ?_, trivial⟩
  have hk' : k ∈ ks := by simpa using hk
  have hlt : k < nx := by
    by_cases hlt : k < nx
    · exact hlt
    · exact absurd (hi.top k (by omega)) (hr k hk')
  obtain ⟨t, xs, hrow⟩ := rowsOf_all ks h k hk'
  have ho := hi.obj k hlt
  rw [hrow] at ho
  cases hm : μ k <;> rw [hm] at ho <;> simp only [ORel] at ho
  exact ⟨hlt, _, _, _, _, rfl⟩
mutual
theorem frz_nil (hp : Nat → LObj) : ∀ (x : AV), x.frz hp [] = x
  | .agg cs => by simp only [AV.frz]; rw [frzL_nil hp cs]
  | .tup cs => by simp only [AV.frz]; rw [frzL_nil hp cs]
  | .fn f cs => by simp only [AV.frz]; rw [frzL_nil hp cs]
  | .rptr _ _ _ _ => by simp [AV.frz]
  | .rowA _ => by simp [AV.frz]
  | .rowS _ _ _ _ => by simp [AV.frz]
  | .int _ _ => by simp [AV.frz]
  | .bool _ => by simp [AV.frz]
  | .str _ => by simp [AV.frz]
  | .list _ _ => by simp [AV.frz]
  | .np => by simp [AV.frz]
  | .nm => by simp [AV.frz]
  | .nf => by simp [AV.frz]
  | .ns => by simp [AV.frz]
  | .ptr _ _ => by simp [AV.frz]
  | .lptr _ _ _ _ => by simp [AV.frz]
  | .mp _ => by simp [AV.frz]
  | .undef => by simp [AV.frz]
  | .dead => by simp [AV.frz]
theorem frzL_nil (hp : Nat → LObj) : ∀ (cs : List AV), AV.frzL hp [] cs = cs
  | [] => by simp [AV.frzL]
  | c :: cs => by simp only [AV.frzL]; rw [frz_nil hp c, frzL_nil hp cs]
end
/-- A value behind the freezing of rows. -/
theorem frz_rel {c : Cx} {st : St} {a : Act} {w : World} {μ : Nat → Pl} {F : Nat → Prop} (hi : Inv c st a w μ F) {ks : List Nat} (hks : ∀ k, ks.contains k = true → k < st.nx ∧ ∃ al l cp sz, μ k = .row al l cp sz)
    {x : AV} {v : Value} (h : VRel μ F w x v) : VRel (frzPl μ ks) (frzF μ F ks) w (x.frz st.hp ks) v := by
  have hμ : ∀ j, ks.contains j = false → frzPl μ ks j = μ j := fun j hj => by simp only [frzPl, hj]; rfl
  have hrow : ∀ j, ks.contains j = true → ∀ b, μ j ≠ .box b ∧ μ j ≠ .map b := fun j hj b => by
    obtain ⟨_, al, l, cp, sz, h⟩ := hks j hj
    rw [h]; simp
  refine vrel_frz (fun b h => .inl h) (fun k hk => hi.h.obj k (hks k hk).1) (fun k b hk h => .inr ⟨k, hk, h⟩) hμ (fun j b hj => ?_) (fun j b hj => ?_) h
  · cases h : ks.contains j with
    | true => exact absurd hj (hrow j h b).1
    | false => rw [hμ j h]; exact hj
  · cases h : ks.contains j with
    | true => exact absurd hj (hrow j h b).2
    | false => rw [hμ j h]; exact hj

/-! ### Slice literals, make -/
theorem parts_rel {μ : Nat → Pl} {F : Nat → Prop} {w : World} {τ : Ty} : ∀ (ps : List (Nat × AV)) (qs : List (Nat × Value)) (j : Nat) (xs : List τ.den) (us : List Value),
    qs.length = ps.length → (∀ (i : Nat) (p : Nat × AV) (q : Nat × Value), ps[i]? = some p → qs[i]? = some q → q.1 = p.1 ∧ VRel μ F w p.2 q.2) →
    partsE τ ps j = some xs → us.length = (j + ps.length) * τ.sz →
    ∃ news, EncL F w τ xs news ∧ Instr.fill (fun i => some (i * τ.sz, τ.sz)) us.toArray qs = some (us.take (j * τ.sz) ++ news).toArray
  | [], qs, j, xs, us, hl, _, h, hu => by
    have : qs = [] := List.length_eq_zero_iff.1 hl
    subst this
    simp only [partsE, Option.some.injEq] at h
    subst h
    refine ⟨[], by simp [EncL], ?_⟩
    simp only [List.length_nil, Nat.add_zero] at hu
    simp [Instr.fill, ← hu]
  | (i, x) :: ps, [], _, _, _, hl, _, _, _ => by simp at hl
  | (i, x) :: ps, (i', v) :: qs, j, xs, us, hl, hr, h, hu => by
    obtain ⟨hj, hx⟩ := hr 0 (i, x) (i', v) rfl rfl
    simp only at hj hx
    subst hj
    simp only [partsE] at h
    split at h
    · rename_i hij
      subst hij
      split at h
      · rename_i y ys hy hys
        cases h
        have henc := asTy_rel hy hx
        have hvl := henc.len
        have hle : i' * τ.sz + τ.sz ≤ us.length := by
          rw [hu, List.length_cons, Nat.add_mul]
          have : τ.sz ≤ (ps.length + 1) * τ.sz := by rw [Nat.add_mul]; omega
          omega
        have hsz : v.cells.size = τ.sz := by rw [← hvl]; simp
        have hput := foldl_put v.cells.toList us (i' * τ.sz) (by omega)
        obtain ⟨news, n1, n2⟩ := parts_rel ps qs (i' + 1) ys (us.take (i' * τ.sz) ++ v.cells.toList ++ us.drop (i' * τ.sz + v.cells.toList.length)) (by simpa using hl)
          (fun i p q hp hq => hr (i + 1) p q (by simpa using hp) (by simpa using hq)) hys (by
            simp only [List.length_append, List.length_take, List.length_drop, hvl, hu, List.length_cons]
            rw [hu, List.length_cons] at hle
            have : (i' + 1 + ps.length) * τ.sz = (i' + (ps.length + 1)) * τ.sz := by congr 1; omega
            omega)
        refine ⟨v.cells.toList ++ news, by simp only [EncL]; exact ⟨_, _, rfl, henc, n1⟩, ?_⟩
        have hnot : ¬ ((v.cells.size ≠ τ.sz || decide (i' * τ.sz + v.cells.size > us.toArray.size)) = true) := by
          simp [hsz]; omega
        simp only [Instr.fill, if_neg hnot]
        have e : (v.cells.zipIdx.foldl (fun cs (c, j) => cs.setIfInBounds (i' * τ.sz + j) c) us.toArray) = (us.take (i' * τ.sz) ++ v.cells.toList ++ us.drop (i' * τ.sz + v.cells.toList.length)).toArray := by
          rw [← hput, ← Array.foldl_toList, Array.toList_zipIdx]
        have hA : (us.take (i' * τ.sz)).length = i' * τ.sz := by simp; omega
        have htake : (us.take (i' * τ.sz) ++ v.cells.toList ++ us.drop (i' * τ.sz + v.cells.toList.length)).take ((i' + 1) * τ.sz) = us.take (i' * τ.sz) ++ v.cells.toList := by
          rw [Nat.add_mul, Nat.one_mul, List.take_append_of_le_length (by rw [List.length_append, hA, hvl]; exact Nat.le_refl _), List.take_of_length_le (by rw [List.length_append, hA, hvl]; exact Nat.le_refl _)]
        rw [e, n2, htake, List.append_assoc]
      · cases h
    · cases h

theorem zero_range (z : List Value) (n : Nat) (i j : Nat) (u : Value) (hz : z.length ≠ 0) (hj : z[j]? = some u) (hi : i * z.length + j < n) : ((List.range n).map fun i => z.toArray[i % z.toArray.size]!)[i * z.length + j]? = some u := by
  have hjl : j < z.length := by obtain ⟨h, _⟩ := List.getElem?_eq_some_iff.1 hj; exact h
  rw [List.getElem?_map, List.getElem?_range hi]
  simp only [Option.map_some, List.size_toArray]
  have : (i * z.length + j) % z.length = j := by rw [Nat.mul_comm, Nat.mul_add_mod, Nat.mod_eq_of_lt hjl]
  rw [this]
  simp [hj, List.getElem?_eq_getElem hjl] at hj ⊢

theorem buildSliceE_rel {P : Program} {T : Tab} (hT : TabOk P T) {R : Type} {K : Eff → Option R} {r : R} {c : Cx} {st : St} {a : Act} {w : World} {μ : Nat → Pl} {F : Nat → Prop} (hi : Inv c st a w μ F) {t len : Nat} {ps : List (Nat × AV)} {qs : List (Nat × Value)}
    (h : buildSliceE T st.hp st.nx t len ps K = some r) (hl : qs.length = ps.length)
    (hr : ∀ (i : Nat) (p : Nat × AV) (q : Nat × Value), ps[i]? = some p → qs[i]? = some q → q.1 = p.1 ∧ VRel μ F w p.2 q.2) :
    ∃ f, K f = some r ∧ Outc P c st a w (Instr.buildSlice t len qs.toArray) f := by
  unfold buildSliceE at h
  split at h
  · rename_i e hd
    have ht := desc_ok hT hd (by simp)
    simp only [DescOk] at ht
    split at h
    · cases h
    · rename_i row hrow
      split at h
      · cases h
      · rename_i τ hτ
        split at h
        · rename_i hcond
          obtain ⟨hsz, hlen, hsmall⟩ := hcond
          obtain ⟨i0, z, e1, e2, e3, e4, e5, e6, e7, e8⟩ := (hT e row hrow).info
          simp only at h
          split at h
          · rename_i hrows
            -- the rows among the references become data
            have key : ∀ (rs : List Nat) (st1 : St) (μ1 : Nat → Pl) (F1 : Nat → Prop) (xs : List τ.den), Inv c st1 a w μ1 F1 → st1.nx = st.nx →
                (∀ (i : Nat) (p : Nat × AV) (q : Nat × Value), (ps.map fun p => (p.1, p.2.frz st.hp rs))[i]? = some p → qs[i]? = some q → q.1 = p.1 ∧ VRel μ1 F1 w p.2 q.2) →
                partsE τ (ps.map fun p => (p.1, p.2.frz st.hp rs)) 0 = some xs →
                ∃ v w' μ', (Instr.buildSlice t len qs.toArray).run P w = .ok v w' ∧ Inv c (st1.news [.row τ xs]) a w' μ' F1 ∧ VRel μ' F1 w' (.rowA st.nx) v := by
              intro rs st1 μ1 F1 xs hi1 hnx hr1 hxs
              have hcl : ((Array.range (len * row.size)).map (z.cells[· % z.cells.size]!)).toList = (List.range (len * row.size)).map fun i => z.cells.toList.toArray[i % z.cells.toList.toArray.size]! := by
                simp
              obtain ⟨news, n1, n2⟩ := parts_rel _ qs 0 xs ((List.range (len * row.size)).map fun i => z.cells.toList.toArray[i % z.cells.toList.toArray.size]!) (by simp [hl]) hr1 hxs (by simp [hlen, hsz])
              simp only [Nat.zero_mul, List.take_zero, List.nil_append] at n2
              have hnl := encL_len n1
              have hxl : xs.length = len := by
                have hg : ∀ (ps : List (Nat × AV)) (j : Nat) (xs : List τ.den), partsE τ ps j = some xs → xs.length = ps.length := by
                  intro ps
                  induction ps with
                  | nil => intro j xs h; simp [partsE] at h; subst h; rfl
                  | cons p ps ih =>
                    intro j xs h
                    simp only [partsE] at h
                    split at h
                    · split at h
                      · rename_i hq; cases h; simp [ih _ _ hq]
                      · cases h
                    · cases h
                have := hg _ _ _ hxs
                simp at this
                omega
              have hgr := grew_alloc w (.cells news.toArray e)
              have hFw : ∀ b, F1 b → (w.alloc (.cells news.toArray e)).heap[b]? = w.heap[b]? := fun b hb => hgr.block b (hi1.h.inn b hb)
              have hrun : (Instr.buildSlice t len qs.toArray).run P w = .ok (.slice (some ⟨w.heap.size, 0, none⟩) len len) (w.alloc (.cells news.toArray e)) := by
                by_cases hpos : len * row.size = 0
                · have hnews : news = [] := List.length_eq_zero_iff.1 (by rw [hnl, hxl, hsz]; exact hpos)
                  subst hnews
                  have hf : Instr.fill (fun i => some (i * row.size, row.size)) #[] qs = some #[] := by
                    rw [hpos] at n2
                    simpa [hsz] using n2
                  simp [Instr.buildSlice, run_underlying ht, sizeOf, typeInfo, e1, e2, hpos, newRow, hf, Array.range_zero']
                · exact run_buildSlice w t e len qs.toArray news.toArray i0 z ht e1 e4 (by rw [e2]; omega) (by rw [e2]; exact hpos) (by
                    rw [e2]
                    rw [← n2, hsz]
                    congr 1
                    apply Array.ext'
                    rw [hcl]
                    )
              have := inv_row hi1 hgr (τ := τ) (xs := xs) (us := news) (E := e) (fz := (0, 0)) (cap := len) (by simp) (alloc_new w _) (by simp) (by omega) (by rw [hnl, hxl]; omega)
                (fun i x hx => encL_get (encL_mono (fun _ h => h) hFw n1) i x hx) (fun hu => (hT e row hrow).byte (.inl (by rw [hτ, hu])))
              rw [hxl] at this
              exact ⟨_, _, _, hrun, this.1, by rw [← hnx]; exact this.2⟩
            split at h
            · rename_i xs hxs
              have hrs : ∀ (i : Nat) (p : Nat × AV) (q : Nat × Value), ps[i]? = some p → qs[i]? = some q → q.1 = p.1 ∧ VRel μ F w p.2 q.2 := hr
              split at h
              · rename_i hnil
                have hnofrz : ∀ (x : AV), x.frz st.hp [] = x := fun x => frz_nil st.hp x
                obtain ⟨v, w', μ', g1, g2, g3⟩ := key [] st μ F xs hi rfl (fun i p q hp hq => by
                  rw [List.getElem?_map] at hp
                  cases hp0 : ps[i]? with
                  | none => rw [hp0] at hp; cases hp
                  | some p0 =>
                    rw [hp0] at hp
                    cases hp
                    simp only [hnofrz]
                    exact hr i p0 q hp0 hq) (by rw [hnil] at hxs; exact hxs)
                exact ⟨_, h, v, w', μ', F, g1, g2, g3⟩
              · obtain ⟨hks, hlt⟩ := rows_all hi.h _ hrows (fun k hk => by
                  obtain ⟨p, hp, hkp⟩ := refsL_mem hk
                  obtain ⟨q0, hq0, rfl⟩ := List.mem_map.1 hp
                  obtain ⟨i, hi1, hi2⟩ := List.getElem_of_mem hq0
                  have hq : i < qs.length := by omega
                  exact refs_there (hr i q0 qs[i] (by rw [List.getElem?_eq_getElem hi1, hi2]) (List.getElem?_eq_getElem hq)).2 k hkp)
                have hi1 := inv_frz hi (ks := AV.refsL (ps.map (·.2))) hks
                obtain ⟨v, w', μ', g1, g2, g3⟩ := key _ _ _ _ xs hi1 rfl (fun i p q hp hq => by
                  rw [List.getElem?_map] at hp
                  cases hp0 : ps[i]? with
                  | none => rw [hp0] at hp; cases hp
                  | some p0 =>
                    rw [hp0] at hp
                    cases hp
                    have := hr i p0 q hp0 hq
                    exact ⟨this.1, frz_rel hi hks this.2⟩) hxs
                exact ⟨_, h, v, w', μ', _, g1, g2, g3⟩
            · cases h
          · cases h
        · cases h
  · cases h

end Go.Proofs.YtfepkpindchleaaE
