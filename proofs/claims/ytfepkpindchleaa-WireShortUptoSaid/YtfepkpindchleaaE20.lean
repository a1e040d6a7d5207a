/- The engine, part 20: regions whose order is open: any order comes to what the listed one does. -/
import Derived.Test.YtfepkpindchleaaE19
namespace Go.Proofs.YtfepkpindchleaaE
open Go
set_option linter.unusedVariables false
set_option linter.unusedSimpArgs false

/-- What the listed order does. -/
inductive Trace (T : Tab) (orc : Orc) (n0 : Nat) (all : List Oper) : List Oper → List (Option Eff × Cls) → St → St → Prop where
  | nil (st : St) : Trace T orc n0 all [] [] st st
  | run {o : Oper} {os : List Oper} {es : List (Option Eff × Cls)} {st st' : St} {f : Eff} (hg : gateB all o st = some true) (he : evOp T orc o.op o.type st some = some f)
      (h : Trace T orc n0 all os es (stepS o (some f) st) st') : Trace T orc n0 all (o :: os) ((some f, classOf n0 st o.op f) :: es) st st'
  | skip {o : Oper} {os : List Oper} {es : List (Option Eff × Cls)} {st st' : St} (hg : gateB all o st = some false) (h : Trace T orc n0 all os es (stepS o none st) st') :
      Trace T orc n0 all (o :: os) ((none, (0, [])) :: es) st st'

theorem evDraw_trace {T : Tab} {orc : Orc} {R : Type} {K : St → Option R} {r : R} {all : List Oper} {bs : List Nat} {n0 : Nat} : ∀ (os : List Oper) (cs : List Cls) (st : St), evDraw T orc all bs n0 os cs st K = some r →
    ∃ es st', Trace T orc n0 all os es st st' ∧ mayMeet bs (cs.reverse ++ es.map (·.2)) = true ∧ K st' = some r
  | [], cs, st, h => by
    simp only [evDraw] at h
    cases hm : mayMeet bs cs.reverse with
    | false => rw [hm] at h; cases h
    | true =>
      rw [hm] at h
      exact ⟨[], st, .nil st, by simpa using hm, h⟩
  | o :: os, cs, st, h => by
    simp only [evDraw, forceC_eq, forceV_eq, laySt_eq] at h
    rcases gate_logic h with ⟨hg, h⟩ | ⟨hg, h⟩
    · rw [evOp_bind] at h
      cases he : evOp T orc o.op o.type st some with
      | none => rw [he] at h; cases h
      | some f =>
        rw [he] at h
        simp only [Option.bind_some] at h
        obtain ⟨es, st', h1, h2, h3⟩ := evDraw_trace os _ _ h
        exact ⟨_, st', .run hg he h1, by simpa using h2, h3⟩
    · obtain ⟨es, st', h1, h2, h3⟩ := evDraw_trace os _ _ h
      exact ⟨_, st', .skip hg h1, by simpa using h2, h3⟩

def stepAt (ops : List Oper) (es : List (Option Eff × Cls)) (i : Nat) : St → St :=
  match ops[i]?, es[i]? with
  | some o, some e => stepS o e.1
  | _, _ => id

theorem trace_len {T : Tab} {orc : Orc} {n0 : Nat} {all os : List Oper} {es : List (Option Eff × Cls)} {st st' : St} (h : Trace T orc n0 all os es st st') : es.length = os.length := by
  induction h with
  | nil st => rfl
  | run hg he h ih => simp [ih]
  | skip hg h ih => simp [ih]

theorem trace_drop {T : Tab} {orc : Orc} {n0 : Nat} {all : List Oper} {es : List (Option Eff × Cls)} {st st' : St} (h : Trace T orc n0 all all es st st') :
    ∀ i, i ≤ all.length → Trace T orc n0 all (all.drop i) (es.drop i) (runS (stepAt all es) (fun _ => true) st i) st'
  | 0, _ => by simpa [runS] using h
  | i + 1, hi => by
    have h1 := trace_drop h i (by omega)
    have hlen := trace_len h
    have ho : all.drop i = all[i] :: all.drop (i + 1) := List.drop_eq_getElem_cons (by omega)
    have hes : es.drop i = es[i] :: es.drop (i + 1) := List.drop_eq_getElem_cons (by omega)
    rw [ho, hes] at h1
    have hstep : ∀ s, stepAt all es i s = stepS all[i] es[i].1 s := fun s => by
      unfold stepAt
      rw [List.getElem?_eq_getElem (by omega), List.getElem?_eq_getElem (by omega)]
    simp only [runS, cond_true]
    rw [hstep]
    generalize hx : es[i] = x at h1 ⊢
    cases h1 with
    | run hg he h => exact h
    | skip hg h => exact h

theorem trace_at {T : Tab} {orc : Orc} {n0 : Nat} {all : List Oper} {es : List (Option Eff × Cls)} {st st' : St} (h : Trace T orc n0 all all es st st') {i : Nat} {o : Oper} (ho : all[i]? = some o) :
    ∃ e, es[i]? = some e ∧ Cl n0 e.1 e.2 ∧ ((e.1 = none ∧ gateB all o (runS (stepAt all es) (fun _ => true) st i) = some false) ∨
      ∃ f, e = (some f, classOf n0 (runS (stepAt all es) (fun _ => true) st i) o.op f) ∧ gateB all o (runS (stepAt all es) (fun _ => true) st i) = some true ∧ evOp T orc o.op o.type (runS (stepAt all es) (fun _ => true) st i) some = some f) := by
  obtain ⟨hi, rfl⟩ := List.getElem?_eq_some_iff.1 ho
  have h1 := trace_drop h i (by omega)
  have hlen := trace_len h
  have ho' : all.drop i = all[i] :: all.drop (i + 1) := List.drop_eq_getElem_cons (by omega)
  have hes : es.drop i = es[i] :: es.drop (i + 1) := List.drop_eq_getElem_cons (by omega)
  rw [ho', hes] at h1
  refine ⟨es[i], List.getElem?_eq_getElem (by omega), ?_⟩
  generalize es[i] = x at h1 ⊢
  cases h1 with
  | run hg he h => exact ⟨cl_of _ _ _ _, .inr ⟨_, rfl, hg, he⟩⟩
  | skip hg h => exact ⟨.skip, .inl ⟨rfl, hg⟩⟩

theorem trace_end {T : Tab} {orc : Orc} {n0 : Nat} {all : List Oper} {es : List (Option Eff × Cls)} {st st' : St} (h : Trace T orc n0 all all es st st') :
    runS (stepAt all es) (fun _ => true) st all.length = st' := by
  have h1 := trace_drop h all.length (Nat.le_refl _)
  rw [List.drop_length, show es.drop all.length = [] from by rw [← trace_len h, List.drop_length]] at h1
  cases h1
  rfl

/-! ### What must stand ahead -/
def beforeOf (acc : Array Nat) (o : Oper) : Nat := o.after.foldl (fun s e => if Region.binds .any e then s ||| 2 ^ e.on ||| acc.getD e.on 0 else s) 0

theorem fold_bit (acc : Array Nat) : ∀ (es : List Edge) (s x : Nat), (es.foldl (fun s e => if Region.binds .any e then s ||| 2 ^ e.on ||| acc.getD e.on 0 else s) s).testBit x = true →
    s.testBit x = true ∨ ∃ e ∈ es, Region.binds .any e = true ∧ (x = e.on ∨ (acc.getD e.on 0).testBit x = true)
  | [], s, x, h => .inl h
  | e :: es, s, x, h => by
    simp only [List.foldl_cons] at h
    rcases fold_bit acc es _ x h with h1 | ⟨e', he', hb, h2⟩
    · by_cases hb : Region.binds .any e = true
      · rw [if_pos hb, Nat.testBit_or, Nat.testBit_or, Bool.or_eq_true, Bool.or_eq_true] at h1
        rcases h1 with (h1 | h1) | h1
        · exact .inl h1
        · rw [Nat.testBit_two_pow] at h1
          exact .inr ⟨e, by simp, hb, .inl (by simpa using (of_decide_eq_true h1).symm)⟩
        · exact .inr ⟨e, by simp, hb, .inr h1⟩
      · rw [if_neg hb] at h1
        exact .inl h1
    · exact .inr ⟨e', by simp [he'], hb, h2⟩

theorem before_go : ∀ (os : List Oper) (acc : Array Nat) (all : List Oper), all.drop acc.size = os → 
    (∀ j o, j < acc.size → all[j]? = some o → ∀ x, (acc.getD j 0).testBit x = true → ∃ e ∈ o.after.toList, Region.binds .any e = true ∧ (x = e.on ∨ (acc.getD e.on 0).testBit x = true)) →
    ∀ j o, all[j]? = some o → ∀ x, ((os.foldl (fun acc o => acc.push (beforeOf acc o)) acc).getD j 0).testBit x = true →
      ∃ e ∈ o.after.toList, Region.binds .any e = true ∧ (x = e.on ∨ ((os.foldl (fun acc o => acc.push (beforeOf acc o)) acc).getD e.on 0).testBit x = true)
  | [], acc, all, hd, h, j, o, ho, x, hx => by
    simp only [List.foldl_nil] at hx ⊢
    have : j < acc.size := by
      obtain ⟨hj, _⟩ := List.getElem?_eq_some_iff.1 ho
      have := congrArg List.length hd
      simp at this
      omega
    exact h j o this ho x hx
  | p :: os, acc, all, hd, h, j, o, ho, x, hx => by
    simp only [List.foldl_cons] at hx ⊢
    have hlt : acc.size < all.length := by
      rcases Nat.lt_or_ge acc.size all.length with h' | h'
      · exact h'
      · rw [List.drop_eq_nil_of_le h'] at hd; cases hd
    have hp : all[acc.size]? = some p := by
      have : (all.drop acc.size)[0]? = some p := by rw [hd]; rfl
      simpa [List.getElem?_drop] using this
    refine before_go os (acc.push (beforeOf acc p)) all (by rw [Array.size_push, ← List.drop_drop, hd]; rfl) ?_ j o ho x hx
    intro j' o' hj' ho' x' hx'
    have keep : ∀ k, (acc.getD k 0).testBit x' = true → ((acc.push (beforeOf acc p)).getD k 0).testBit x' = true := fun k hk => by
      by_cases hk2 : k < acc.size
      · have : (acc.push (beforeOf acc p)).getD k 0 = acc.getD k 0 := by simp [Array.getElem?_push, show k ≠ acc.size by omega]
        rw [this]; exact hk
      · simp [Array.getElem?_eq_none (show acc.size ≤ k by omega)] at hk
    by_cases hj2 : j' < acc.size
    · have : (acc.push (beforeOf acc p)).getD j' 0 = acc.getD j' 0 := by simp [Array.getElem?_push, show j' ≠ acc.size by omega]
      rw [this] at hx'
      obtain ⟨e, he, hb, hh⟩ := h j' o' hj2 ho' x' hx'
      exact ⟨e, he, hb, hh.imp id (keep e.on)⟩
    · have : j' = acc.size := by simp at hj'; omega
      subst this
      rw [hp] at ho'
      cases ho'
      have : (acc.push (beforeOf acc p)).getD acc.size 0 = beforeOf acc p := by simp
      rw [this] at hx'
      unfold beforeOf at hx'
      rw [← Array.foldl_toList] at hx'
      rcases fold_bit acc _ _ _ hx' with h0 | ⟨e, he, hb, hh⟩
      · simp at h0
      · exact ⟨e, he, hb, hh.imp id (keep e.on)⟩

theorem before_spec {ops : Array Oper} {j : Nat} {o : Oper} (ho : ops[j]? = some o) {x : Nat} (hx : ((Region.before ops).toList.getD j 0).testBit x = true) :
    ∃ e ∈ o.after.toList, Region.binds .any e = true ∧ (x = e.on ∨ ((Region.before ops).toList.getD e.on 0).testBit x = true) := by
  have hb : Region.before ops = ops.toList.foldl (fun acc o => acc.push (beforeOf acc o)) #[] := by
    unfold Region.before
    rw [← Array.foldl_toList]
    rfl
  have := before_go ops.toList #[] ops.toList rfl (fun j o hj => by simp at hj) j o (by rw [Array.getElem?_toList]; exact ho) x
  rw [← hb] at this
  have hg : ∀ k, (Region.before ops).toList.getD k 0 = (Region.before ops).getD k 0 := fun k => by simp
  rw [hg] at hx
  obtain ⟨e, he, h1, h2⟩ := this hx
  exact ⟨e, he, h1, by rw [hg]; exact h2⟩

end Go.Proofs.YtfepkpindchleaaE
