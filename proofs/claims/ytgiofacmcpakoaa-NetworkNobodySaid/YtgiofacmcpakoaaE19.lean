/- The engine, part 19: regions whose order is open. -/
import Derived.Test.YtgiofacmcpakoaaE18
namespace Go.Proofs.YtgiofacmcpakoaaE
open Go
set_option linter.unusedVariables false
set_option linter.unusedSimpArgs false

theorem rng_all {p : Nat → Bool} : ∀ (n a : Nat), (rng a n).all p = true → ∀ j, a ≤ j → j < a + n → p j = true
  | 0, a, _, j, h1, h2 => by omega
  | n + 1, a, h, j, h1, h2 => by
    simp only [rng, List.all_cons, Bool.and_eq_true] at h
    by_cases hj : j = a
    · subst hj; exact h.1
    · exact rng_all n (a + 1) h.2 j (by omega) (by omega)

/-! ### Some of the steps, in turn -/
def runS (step : Nat → St → St) (L : Nat → Bool) (st : St) : Nat → St
  | 0 => st
  | n + 1 => bif L n then step n (runS step L st n) else runS step L st n

theorem runS_congr {step : Nat → St → St} {L L' : Nat → Bool} {st : St} : ∀ (n : Nat), (∀ i, i < n → L i = L' i) → runS step L st n = runS step L' st n
  | 0, _ => rfl
  | n + 1, h => by
    simp only [runS]
    rw [h n (by omega), runS_congr n fun i hi => h i (by omega)]

def addL (L : Nat → Bool) (e : Nat) : Nat → Bool := fun i => L i || i == e

/-- One step more may be the last one. -/
theorem runS_add {step : Nat → St → St} {L : Nat → Bool} {st : St} {e : Nat} (he : L e = false) : ∀ (n : Nat), e < n → (∀ k, e < k → k < n → L k = true → ∀ s, step k (step e s) = step e (step k s)) →
    runS step (addL L e) st n = step e (runS step L st n)
  | 0, h, _ => by omega
  | n + 1, h, hc => by
    simp only [runS]
    by_cases hen : e = n
    · subst hen
      have : runS step (addL L e) st e = runS step L st e := runS_congr e fun i hi => by
        have : (i == e) = false := by simp; omega
        simp [addL, this]
      rw [this, he]
      simp [addL]
    · have h1 := runS_add (st := st) he n (by omega) fun k h1 h2 => hc k h1 (by omega)
      rw [h1]
      have : addL L e n = L n := by
        have : (n == e) = false := by simp; omega
        simp [addL, this]
      rw [this]
      cases hn : L n with
      | false => rfl
      | true => exact hc n (by omega) (by omega) hn _

/-- More steps: what none of them changes is the same. -/
theorem runS_obs {step : Nat → St → St} {L L' : Nat → Bool} {st : St} {n : Nat} {rel : St → St → Prop} (hr : ∀ s, rel s s) (ht : ∀ s s' s'', rel s s' → rel s' s'' → rel s s'')
    (hsub : ∀ i, L i = true → L' i = true) (hex : ∀ e, e < n → L e = false → L' e = true → (∀ s, rel s (step e s)) ∧ ∀ k, e < k → k < n → L k = true → ∀ s, step k (step e s) = step e (step k s)) :
    rel (runS step L st n) (runS step L' st n) := by
  have key : ∀ m, m ≤ n → rel (runS step L st n) (runS step (fun i => L i || (L' i && decide (i < m))) st n) := by
    intro m
    induction m with
    | zero =>
      intro _
      have : runS step (fun i => L i || (L' i && decide (i < 0))) st n = runS step L st n := runS_congr n fun i _ => by simp
      rw [this]
      exact hr _
    | succ m ih =>
      intro hm
      have h1 := ih (by omega)
      by_cases hL : L m = false ∧ L' m = true
      · obtain ⟨hL, hL'⟩ := hL
        obtain ⟨h2, h3⟩ := hex m (by omega) hL hL'
        have h4 := runS_add (step := step) (st := st) (L := fun i => L i || (L' i && decide (i < m))) (e := m) (by simp [hL]) n (by omega) fun k h1 h2 hk => by
          have : ¬ k < m := by omega
          simp [this] at hk
          exact h3 k h1 h2 hk
        have h5 : runS step (fun i => L i || (L' i && decide (i < m + 1))) st n = runS step (addL (fun i => L i || (L' i && decide (i < m))) m) st n := runS_congr n fun i _ => by
          by_cases him : i = m
          · subst him; simp [addL, hL, hL']
          · have h6 : (i < m + 1) ↔ i < m := by omega
            simp [addL, h6, him]
        rw [h5, h4]
        exact ht _ _ _ h1 (h2 _)
      · have h5 : runS step (fun i => L i || (L' i && decide (i < m + 1))) st n = runS step (fun i => L i || (L' i && decide (i < m))) st n := runS_congr n fun i _ => by
          by_cases him : i = m
          · subst him
            cases h6 : L i with
            | true => simp
            | false =>
              cases h7 : L' i with
              | true => exact absurd ⟨h6, h7⟩ hL
              | false => simp
          · have h6 : (i < m + 1) ↔ i < m := by omega
            simp [h6]
        rw [h5]
        exact h1
  have := key n (Nat.le_refl n)
  have h2 : runS step (fun i => L i || (L' i && decide (i < n))) st n = runS step L' st n := runS_congr n fun i hi => by
    cases h : L i with
    | true => simp [hsub i h]
    | false => simp [hi]
  rw [h2] at this
  exact this

/-! ### A step -/
def gateB (all : List Oper) (o : Oper) (st : St) : Option Bool :=
  match o.guard with
  | none => some true
  | some (j, want) => match dstOf all j with
    | none => none
    | some t => match st.tm t with
      | .bool b => some (b == want)
      | .undef => some false
      | _ => none

theorem gate_logic {R : Type} {all : List Oper} {o : Oper} {st : St} {run skip : St → Option R} {r : R} (h : gate all o st run skip = some r) :
    (gateB all o st = some true ∧ run st = some r) ∨ (gateB all o st = some false ∧ skip st = some r) := by
  unfold gate at h
  unfold gateB
  split at h
  · rename_i hg
    rw [hg]
    exact .inl ⟨rfl, h⟩
  · rename_i j want hg
    rw [hg]
    simp only
    split at h
    · cases h
    · rename_i t hd
      split at h
      · rename_i b hb
        rw [hd]
        simp only [hb]
        cases want <;> cases b <;> simp only [cond_true, cond_false] at h <;> rw [put_same hb] at h <;> simp [h]
      · rename_i hu
        rw [hd]
        simp only [hu]
        exact .inr ⟨trivial, h⟩
      · cases h

theorem gateB_wanted {c : Cx} {st : St} {a : Act} {w : World} {μ : Nat → Pl} {F : Nat → Prop} (hi : Inv c st a w μ F) {ops : Array Oper} {o : Oper} {b : Bool} (h : gateB ops.toList o st = some b) :
    Region.wanted o (yielded ops a.tmps) = b := by
  unfold gateB at h
  unfold Region.wanted
  split at h
  · rename_i hg
    rw [hg]
    cases h
    rfl
  · rename_i j want hg
    rw [hg]
    simp only
    split at h
    · cases h
    · rename_i t hd
      split at h
      · rename_i b hb
        rw [yield_bool hi hd hb]
        cases h
        cases want <;> cases b <;> rfl
      · rename_i hu
        rw [yield_undef hi hd hu]
        cases h
        rfl
      · cases h

def stepS (o : Oper) : Option Eff → St → St
  | none, st => st.putO o.dst .undef
  | some f, st => (st.apply f).2.putO o.dst (st.apply f).1

mutual
theorem kill_nil : ∀ (x : AV), x.kill [] = x
  | .agg cs => by simp only [AV.kill, killL_nil cs]
  | .tup cs => by simp only [AV.kill, killL_nil cs]
  | .fn g cs => by simp only [AV.kill, killL_nil cs]
  | .rptr _ _ _ _ => by simp only [AV.kill]; rfl
  | .rowA _ => by simp only [AV.kill]; rfl
  | .rowS _ _ _ _ => by simp only [AV.kill]; rfl
  | .ptr _ _ => by simp only [AV.kill]
  | .mp _ => by simp only [AV.kill]
  | .int _ _ => by simp only [AV.kill]
  | .bool _ => by simp only [AV.kill]
  | .str _ => by simp only [AV.kill]
  | .list _ _ => by simp only [AV.kill]
  | .np => by simp only [AV.kill]
  | .nm => by simp only [AV.kill]
  | .nf => by simp only [AV.kill]
  | .ns => by simp only [AV.kill]
  | .lptr _ _ _ _ => by simp only [AV.kill]
  | .undef => by simp only [AV.kill]
  | .dead => by simp only [AV.kill]
theorem killL_nil : ∀ (cs : List AV), AV.killL [] cs = cs
  | [] => by simp only [AV.killL]
  | c :: cs => by simp only [AV.killL, kill_nil c, killL_nil cs]
end

mutual
theorem solid_kill (ks : List Nat) : ∀ (x : AV), x.solid = true → x.kill ks = x
  | .agg cs, h => by simp only [AV.solid] at h; simp only [AV.kill, solidL_kill ks cs h]
  | .tup cs, h => by simp only [AV.solid] at h; simp only [AV.kill, solidL_kill ks cs h]
  | .fn g cs, h => by simp only [AV.solid] at h; simp only [AV.kill, solidL_kill ks cs h]
  | .rptr _ _ _ _, h => by simp [AV.solid] at h
  | .rowA _, h => by simp [AV.solid] at h
  | .rowS _ _ _ _, h => by simp [AV.solid] at h
  | .ptr _ _, _ => by simp only [AV.kill]
  | .mp _, _ => by simp only [AV.kill]
  | .int _ _, _ => by simp only [AV.kill]
  | .bool _, _ => by simp only [AV.kill]
  | .str _, _ => by simp only [AV.kill]
  | .list _ _, _ => by simp only [AV.kill]
  | .np, _ => by simp only [AV.kill]
  | .nm, _ => by simp only [AV.kill]
  | .nf, _ => by simp only [AV.kill]
  | .ns, _ => by simp only [AV.kill]
  | .lptr _ _ _ _, _ => by simp only [AV.kill]
  | .undef, _ => by simp only [AV.kill]
  | .dead, h => by simp [AV.solid] at h
theorem solidL_kill (ks : List Nat) : ∀ (cs : List AV), AV.solidL cs = true → AV.killL ks cs = cs
  | [], _ => by simp only [AV.killL]
  | c :: cs, h => by
    simp only [AV.solidL, Bool.and_eq_true] at h
    simp only [AV.killL, solid_kill ks c h.1, solidL_kill ks cs h.2]
end

mutual
theorem kill_solid (ks : List Nat) : ∀ (x : AV), (x.kill ks).solid = true → x.kill ks = x
  | .agg cs, h => by simp only [AV.kill, AV.solid] at h; simp only [AV.kill, killL_solid ks cs h]
  | .tup cs, h => by simp only [AV.kill, AV.solid] at h; simp only [AV.kill, killL_solid ks cs h]
  | .fn g cs, h => by simp only [AV.kill, AV.solid] at h; simp only [AV.kill, killL_solid ks cs h]
  | .rptr k t i off, h => by
    simp only [AV.kill] at h
    cases hc : ks.contains k <;> rw [hc] at h <;> simp [AV.solid] at h
  | .rowA k, h => by
    simp only [AV.kill] at h
    cases hc : ks.contains k <;> rw [hc] at h <;> simp [AV.solid] at h
  | .rowS k off n c, h => by
    simp only [AV.kill] at h
    cases hc : ks.contains k <;> rw [hc] at h <;> simp [AV.solid] at h
  | .ptr _ _, _ => by simp only [AV.kill]
  | .mp _, _ => by simp only [AV.kill]
  | .int _ _, _ => by simp only [AV.kill]
  | .bool _, _ => by simp only [AV.kill]
  | .str _, _ => by simp only [AV.kill]
  | .list _ _, _ => by simp only [AV.kill]
  | .np, _ => by simp only [AV.kill]
  | .nm, _ => by simp only [AV.kill]
  | .nf, _ => by simp only [AV.kill]
  | .ns, _ => by simp only [AV.kill]
  | .lptr _ _ _ _, _ => by simp only [AV.kill]
  | .undef, _ => by simp only [AV.kill]
  | .dead, _ => by simp only [AV.kill]
theorem killL_solid (ks : List Nat) : ∀ (cs : List AV), AV.solidL (AV.killL ks cs) = true → AV.killL ks cs = cs
  | [], _ => by simp only [AV.killL]
  | c :: cs, h => by
    simp only [AV.killL, AV.solidL, Bool.and_eq_true] at h
    simp only [AV.killL, kill_solid ks c h.1, killL_solid ks cs h.2]
end

mutual
theorem low_kill {n0 : Nat} {ks : List Nat} (hk : ∀ k, k < n0 → ks.contains k = false) : ∀ (x : AV), x.low n0 = true → x.kill ks = x
  | .agg cs, h => by simp only [AV.low] at h; simp only [AV.kill, lowL_kill hk cs h]
  | .tup cs, h => by simp only [AV.low] at h; simp only [AV.kill, lowL_kill hk cs h]
  | .fn g cs, h => by simp only [AV.low] at h; simp only [AV.kill, lowL_kill hk cs h]
  | .rptr k t i off, h => by simp only [AV.low, Nat.blt_eq] at h; simp only [AV.kill, hk k h, cond_false]
  | .rowA k, h => by simp only [AV.low, Nat.blt_eq] at h; simp only [AV.kill, hk k h, cond_false]
  | .rowS k _ _ _, h => by simp only [AV.low, Nat.blt_eq] at h; simp only [AV.kill, hk k h, cond_false]
  | .ptr _ _, _ => by simp only [AV.kill]
  | .mp _, _ => by simp only [AV.kill]
  | .int _ _, _ => by simp only [AV.kill]
  | .bool _, _ => by simp only [AV.kill]
  | .str _, _ => by simp only [AV.kill]
  | .list _ _, _ => by simp only [AV.kill]
  | .np, _ => by simp only [AV.kill]
  | .nm, _ => by simp only [AV.kill]
  | .nf, _ => by simp only [AV.kill]
  | .ns, _ => by simp only [AV.kill]
  | .lptr _ _ _ _, _ => by simp only [AV.kill]
  | .undef, _ => by simp only [AV.kill]
  | .dead, h => by simp [AV.low] at h
theorem lowL_kill {n0 : Nat} {ks : List Nat} (hk : ∀ k, k < n0 → ks.contains k = false) : ∀ (cs : List AV), AV.lowL n0 cs = true → AV.killL ks cs = cs
  | [], _ => by simp only [AV.killL]
  | c :: cs, h => by
    simp only [AV.lowL, Bool.and_eq_true] at h
    simp only [AV.killL, low_kill hk c h.1, lowL_kill hk cs h.2]
end

mutual
theorem kill_low {n0 : Nat} {ks : List Nat} : ∀ (x : AV), (x.kill ks).low n0 = true → x.kill ks = x
  | .agg cs, h => by simp only [AV.kill, AV.low] at h; simp only [AV.kill, killL_low cs h]
  | .tup cs, h => by simp only [AV.kill, AV.low] at h; simp only [AV.kill, killL_low cs h]
  | .fn g cs, h => by simp only [AV.kill, AV.low] at h; simp only [AV.kill, killL_low cs h]
  | .rptr k t i off, h => by
    simp only [AV.kill] at h ⊢
    cases hc : ks.contains k <;> rw [hc] at h
    · rfl
    · simp [AV.low] at h
  | .rowA k, h => by
    simp only [AV.kill] at h ⊢
    cases hc : ks.contains k <;> rw [hc] at h
    · rfl
    · simp [AV.low] at h
  | .rowS k off n c, h => by
    simp only [AV.kill] at h ⊢
    cases hc : ks.contains k <;> rw [hc] at h
    · rfl
    · simp [AV.low] at h
  | .ptr _ _, _ => by simp only [AV.kill]
  | .mp _, _ => by simp only [AV.kill]
  | .int _ _, _ => by simp only [AV.kill]
  | .bool _, _ => by simp only [AV.kill]
  | .str _, _ => by simp only [AV.kill]
  | .list _ _, _ => by simp only [AV.kill]
  | .np, _ => by simp only [AV.kill]
  | .nm, _ => by simp only [AV.kill]
  | .nf, _ => by simp only [AV.kill]
  | .ns, _ => by simp only [AV.kill]
  | .lptr _ _ _ _, _ => by simp only [AV.kill]
  | .undef, _ => by simp only [AV.kill]
  | .dead, _ => by simp only [AV.kill]
theorem killL_low {n0 : Nat} {ks : List Nat} : ∀ (cs : List AV), AV.lowL n0 (AV.killL ks cs) = true → AV.killL ks cs = cs
  | [], _ => by simp only [AV.killL]
  | c :: cs, h => by
    simp only [AV.killL, AV.lowL, Bool.and_eq_true] at h
    simp only [AV.killL, kill_low c h.1, killL_low cs h.2]
end

mutual
theorem low_refs {n0 : Nat} : ∀ (x : AV), x.low n0 = true → ∀ k ∈ x.refs, k < n0
  | .agg cs, h => by simp only [AV.low] at h; simp only [AV.refs]; exact lowL_refs cs h
  | .tup cs, h => by simp only [AV.low] at h; simp only [AV.refs]; exact lowL_refs cs h
  | .fn g cs, h => by simp only [AV.low] at h; simp only [AV.refs]; exact lowL_refs cs h
  | .rptr k t i off, h => by simp only [AV.low, Nat.blt_eq] at h; simp only [AV.refs, List.mem_singleton]; rintro _ rfl; exact h
  | .rowA k, h => by simp only [AV.low, Nat.blt_eq] at h; simp only [AV.refs, List.mem_singleton]; rintro _ rfl; exact h
  | .rowS k _ _ _, h => by simp only [AV.low, Nat.blt_eq] at h; simp only [AV.refs, List.mem_singleton]; rintro _ rfl; exact h
  | .ptr k _, h => by simp only [AV.low, Nat.blt_eq] at h; simp only [AV.refs, List.mem_singleton]; rintro _ rfl; exact h
  | .mp k, h => by simp only [AV.low, Nat.blt_eq] at h; simp only [AV.refs, List.mem_singleton]; rintro _ rfl; exact h
  | .int _ _, _ => by simp [AV.refs]
  | .bool _, _ => by simp [AV.refs]
  | .str _, _ => by simp [AV.refs]
  | .list _ _, _ => by simp [AV.refs]
  | .np, _ => by simp [AV.refs]
  | .nm, _ => by simp [AV.refs]
  | .nf, _ => by simp [AV.refs]
  | .ns, _ => by simp [AV.refs]
  | .lptr _ _ _ _, _ => by simp [AV.refs]
  | .undef, _ => by simp [AV.refs]
  | .dead, h => by simp [AV.low] at h
theorem lowL_refs {n0 : Nat} : ∀ (cs : List AV), AV.lowL n0 cs = true → ∀ k ∈ AV.refsL cs, k < n0
  | [], _ => by simp [AV.refsL]
  | c :: cs, h => by
    simp only [AV.lowL, Bool.and_eq_true] at h
    simp only [AV.refsL, List.mem_append]
    rintro k (hk | hk)
    · exact low_refs c h.1 k hk
    · exact lowL_refs cs h.2 k hk
end
theorem lowL_in {n0 : Nat} : ∀ {xs : List AV}, AV.lowL n0 xs = true → ∀ x ∈ xs, x.low n0 = true
  | [], _, _, h => by cases h
  | y :: ys, h, x, hx => by
    simp only [AV.lowL, Bool.and_eq_true] at h
    rcases List.mem_cons.1 hx with rfl | hx
    · exact h.1
    · exact lowL_in h.2 x hx
theorem obj_low_kill {n0 : Nat} {ks : List Nat} (hk : ∀ k, k < n0 → ks.contains k = false) {o : LObj} (h : o.low n0 = true) : o.kill ks = o := by
  cases o with
  | box cs => simp only [LObj.low] at h; simp only [LObj.kill, lowL_kill hk cs h]
  | row t xs => rfl
  | mpo kt es => simp [LObj.low] at h
  | gone => simp [LObj.low] at h
theorem obj_kill_low {n0 : Nat} {ks : List Nat} {o : LObj} (h : (o.kill ks).low n0 = true) : o.kill ks = o := by
  cases o with
  | box cs => simp only [LObj.kill, LObj.low] at h; simp only [LObj.kill, killL_low cs h]
  | row t xs => rfl
  | mpo kt es => simp [LObj.kill, LObj.low] at h
  | gone => rfl

/-- What a class says of an effect. -/
def Cl (n0 : Nat) (e : Option Eff) (c : Nat) : Prop :=
  (c = 0 ∧ (e = none ∨ ∃ v, e = some (.val v) ∧ v.solid = true)) ∨ ((c = 1 ∨ c = 3) ∧ ∃ v, e = some (.val v) ∧ v.low n0 = true) ∨ ((c = 2 ∨ c = 4) ∧ ∃ v, e = some (.val v)) ∨ (c = 5 ∧ ∃ os v, e = some (.new os v)) ∨ (c = 6 ∧ ∃ k o v, e = some (.upd k o v)) ∨
    (c = 7 ∧ ∃ k o v, e = some (.app k o v) ∧ n0 ≤ k) ∨ (c = 8 ∧ ((∃ k o v, e = some (.app k o v)) ∨ ∃ ks objs vs, e = some (.call [] ks objs vs))) ∨ 9 ≤ c

theorem cl_of (n0 : Nat) (st : St) (o : Op) (f : Eff) : Cl n0 (some f) (classOf n0 st o f) := by
  unfold classOf Cl
  cases f with
  | val v =>
    simp only
    cases h1 : ((blindOp o || (AV.refsL (opVals st o)).isEmpty) && (AV.solidL (opVals st o) && v.solid)) with
    | true =>
      left
      simp only [Bool.and_eq_true] at h1
      exact ⟨rfl, .inr ⟨v, rfl, h1.2.2⟩⟩
    | false =>
      right
      cases blindOp o with
      | true =>
        cases h2 : (AV.lowL n0 (opVals st o) && v.low n0) with
        | true =>
          simp only [Bool.and_eq_true] at h2
          exact .inl ⟨by simp, v, rfl, h2.2⟩
        | false => exact .inr (.inl ⟨by simp, v, rfl⟩)
      | false =>
        cases h2 : ((AV.lowL n0 (opVals st o) && v.low n0) && (AV.refsL (opVals st o)).all (fun k => (st.hp k).low n0)) with
        | true =>
          simp only [Bool.and_eq_true] at h2
          exact .inl ⟨by simp, v, rfl, h2.1.2⟩
        | false => exact .inr (.inl ⟨by simp, v, rfl⟩)
  | new os v => exact .inr (.inr (.inr (.inl ⟨rfl, os, v, rfl⟩)))
  | upd k o v => exact .inr (.inr (.inr (.inr (.inl ⟨rfl, k, o, v, rfl⟩))))
  | app k o v =>
    simp only
    cases h : Nat.ble n0 k with
    | true => exact .inr (.inr (.inr (.inr (.inr (.inl ⟨rfl, k, o, v, rfl, Nat.ble_eq ▸ h⟩)))))
    | false => exact .inr (.inr (.inr (.inr (.inr (.inr (.inl ⟨rfl, .inl ⟨k, o, v, rfl⟩⟩))))))
  | call fz ks objs vs =>
    cases fz with
    | nil => exact .inr (.inr (.inr (.inr (.inr (.inr (.inl ⟨rfl, .inr ⟨ks, objs, vs, rfl⟩⟩))))))
    | cons a b => exact .inr (.inr (.inr (.inr (.inr (.inr (.inr (by simp)))))))
  | frz ks os v => exact .inr (.inr (.inr (.inr (.inr (.inr (.inr (by simp)))))))

/-- A step that leaves names alone: memory, then its slot. -/
structure Neat (o : Oper) (s : St → St) (m : St → St) (v : AV) : Prop where
  eq : ∀ st, s st = (m st).putO o.dst v
  tm : ∀ st, (m st).tm = st.tm
  put : ∀ st d x, m (st.putO d x) = (m st).putO d x

theorem news_put (d : Option Nat) (x : AV) : ∀ (os : List LObj) (st : St), (st.putO d x).news os = (st.news os).putO d x
  | [], _ => rfl
  | o :: os, st => by
    simp only [St.news]
    rw [← news_put d x os]
    cases d <;> rfl

theorem neat_val (o : Oper) (v : AV) : Neat o (stepS o (some (.val v))) id v := ⟨fun _ => rfl, fun _ => rfl, fun _ _ _ => rfl⟩
theorem neat_none (o : Oper) : Neat o (stepS o none) id .undef := ⟨fun _ => rfl, fun _ => rfl, fun _ _ _ => rfl⟩
theorem neat_new (o : Oper) (os : List LObj) (v : AV) : Neat o (stepS o (some (.new os v))) (fun st => st.news os) v :=
  ⟨fun _ => rfl, fun st => news_tm os st, fun st d x => news_put d x os st⟩
theorem neat_upd (o : Oper) (k : Nat) (ob : LObj) (v : AV) : Neat o (stepS o (some (.upd k ob v))) (fun st => st.upd k ob) v :=
  ⟨fun _ => rfl, fun st => rfl, fun st d x => by cases d <;> rfl⟩

theorem put_swap (st : St) {d d' : Option Nat} (h : ∀ t, d = some t → d' ≠ some t) (x y : AV) : (st.putO d x).putO d' y = (st.putO d' y).putO d x := by
  cases d with
  | none => rfl
  | some t =>
    cases d' with
    | none => rfl
    | some t' =>
      have hne : t' ≠ t := fun e => h t rfl (by rw [e])
      simp only [St.putO, St.put]
      congr 1
      funext u
      cases h1 : u == t' with
      | false => simp
      | true =>
        have := eq_of_beq h1
        subst this
        have h2 : (u == t) = false := by simp [hne]
        simp [h2]

theorem cl_low {n0 : Nat} {o : Oper} {e : Option Eff} {c : Nat} (h : Cl n0 e c) (hc : c ≤ 4) : ∃ v, Neat o (stepS o e) id v := by
  rcases h with ⟨_, rfl | ⟨v, rfl, _⟩⟩ | ⟨_, v, rfl, _⟩ | ⟨_, v, rfl⟩ | ⟨h, _⟩ | ⟨h, _⟩ | ⟨h, _⟩ | ⟨h, _⟩ | h
  · exact ⟨_, neat_none o⟩
  · exact ⟨v, neat_val o v⟩
  · exact ⟨v, neat_val o v⟩
  · exact ⟨v, neat_val o v⟩
  all_goals omega
theorem cl_zero {n0 : Nat} {o : Oper} {e : Option Eff} (h : Cl n0 e 0) : ∃ v, v.solid = true ∧ ∀ st, stepS o e st = st.putO o.dst v := by
  rcases h with ⟨_, rfl | ⟨v, rfl, hv⟩⟩ | ⟨h, _⟩ | ⟨h, _⟩ | ⟨h, _⟩ | ⟨h, _⟩ | ⟨h, _⟩ | ⟨h, _⟩ | h
  · exact ⟨.undef, rfl, fun _ => rfl⟩
  · exact ⟨v, hv, fun _ => rfl⟩
  all_goals omega
theorem cl_old {n0 : Nat} {o : Oper} {e : Option Eff} {c : Nat} (h : Cl n0 e c) (hc : c = 1 ∨ c = 3) : ∃ v, v.low n0 = true ∧ ∀ st, stepS o e st = st.putO o.dst v := by
  rcases h with ⟨h, _⟩ | ⟨_, v, rfl, hv⟩ | ⟨h, _⟩ | ⟨h, _⟩ | ⟨h, _⟩ | ⟨h, _⟩ | ⟨h, _⟩ | h
  · omega
  · exact ⟨v, hv, fun _ => rfl⟩
  all_goals omega
theorem cl_mid {n0 : Nat} {o : Oper} {e : Option Eff} {c : Nat} (h : Cl n0 e c) (hc : c ≤ 6) : ∃ m v, Neat o (stepS o e) m v ∧ (c ≤ 5 → ∀ st, st.nx ≤ (m st).nx ∧ ∀ k, k < st.nx → (m st).hp k = st.hp k) := by
  rcases h with ⟨_, rfl | ⟨v, rfl, _⟩⟩ | ⟨_, v, rfl, _⟩ | ⟨_, v, rfl⟩ | ⟨h, os, v, rfl⟩ | ⟨h, k, ob, v, rfl⟩ | ⟨h, _⟩ | ⟨h, _⟩ | h
  · exact ⟨_, _, neat_none o, fun _ st => ⟨Nat.le_refl _, fun _ _ => rfl⟩⟩
  · exact ⟨_, v, neat_val o v, fun _ st => ⟨Nat.le_refl _, fun _ _ => rfl⟩⟩
  · exact ⟨_, v, neat_val o v, fun _ st => ⟨Nat.le_refl _, fun _ _ => rfl⟩⟩
  · exact ⟨_, v, neat_val o v, fun _ st => ⟨Nat.le_refl _, fun _ _ => rfl⟩⟩
  · exact ⟨_, v, neat_new o os v, fun _ st => ⟨by rw [news_nx]; omega, fun k hk => news_old os st k hk⟩⟩
  · exact ⟨_, v, neat_upd o k ob v, fun hc => by omega⟩
  all_goals omega

theorem put_other {o : Oper} (s : St) (v : AV) (t : Nat) (ht : ∀ d, o.dst = some d → t ≠ d) : (s.putO o.dst v).tm t = s.tm t := by
  cases hdst : o.dst with
  | none => rfl
  | some d =>
    have : (t == d) = false := by simp [ht d hdst]
    simp [St.putO, St.put, this]
theorem put_hp (s : St) (d : Option Nat) (v : AV) : (s.putO d v).hp = s.hp := by cases d <;> rfl
theorem put_nx (s : St) (d : Option Nat) (v : AV) : (s.putO d v).nx = s.nx := by cases d <;> rfl

/-- A row grows: its name is lost elsewhere. -/
theorem app_step {o : Oper} (k : Nat) (ob : LObj) (v : AV) : (∀ st t, (∀ d, o.dst = some d → t ≠ d) → (stepS o (some (.app k ob v)) st).tm t = (st.tm t).kill [k]) ∧
    (∀ st d x, x.kill [k] = x → (∀ t, d = some t → o.dst ≠ some t) → stepS o (some (.app k ob v)) (st.putO d x) = (stepS o (some (.app k ob v)) st).putO d x) ∧
    (∀ st j, j ≠ k → (stepS o (some (.app k ob v)) st).hp j = (st.hp j).kill [k]) ∧ ∀ st, (stepS o (some (.app k ob v)) st).nx = st.nx := by
  refine ⟨fun st t ht => ?_, fun st d x hx hd => ?_, fun st j hj => ?_, fun st => ?_⟩
  · simp only [stepS, St.apply]
    rw [put_other _ _ t ht]
    rfl
  · simp only [stepS, St.apply]
    rw [← put_swap _ hd]
    congr 1
    cases d with
    | none => rfl
    | some t =>
      simp only [St.putO, St.put, St.kill, St.upd]
      congr 1
      funext u
      cases u == t with
      | true => simp [hx]
      | false => rfl
  · simp only [stepS, St.apply, put_hp]
    have : (j == k) = false := by simp [hj]
    simp [St.upd, St.kill, this]
  · simp only [stepS, St.apply, put_nx]
    rfl
theorem cl_new {n0 : Nat} {o : Oper} {e : Option Eff} (h : Cl n0 e 7) : ∃ k ob v, e = some (.app k ob v) ∧ n0 ≤ k := by
  rcases h with ⟨h, _⟩ | ⟨h, _⟩ | ⟨h, _⟩ | ⟨h, _⟩ | ⟨h, _⟩ | ⟨_, k, ob, v, rfl, hk⟩ | ⟨h, _⟩ | h
  any_goals omega
  exact ⟨k, ob, v, rfl, hk⟩

/-- A step behind which a name of a row may be lost. -/
theorem cl_kill {n0 : Nat} {o : Oper} {e : Option Eff} (h : Cl n0 e 8) : (∀ st t, (∀ d, o.dst = some d → t ≠ d) → ∃ ks, (stepS o e st).tm t = (st.tm t).kill ks) ∧
    ∀ st d x, x.solid = true → (∀ t, d = some t → o.dst ≠ some t) → stepS o e (st.putO d x) = (stepS o e st).putO d x := by
  rcases h with ⟨h, _⟩ | ⟨h, _⟩ | ⟨h, _⟩ | ⟨h, _⟩ | ⟨h, _⟩ | ⟨h, _⟩ | ⟨_, ⟨k, ob, v, rfl⟩ | ⟨ks, objs, vs, rfl⟩⟩ | h
  any_goals omega
  · obtain ⟨h1, h2, _, _⟩ := app_step (o := o) k ob v
    exact ⟨fun st t ht => ⟨[k], h1 st t ht⟩, fun st d x hx hd => h2 st d x (solid_kill _ x hx) hd⟩
  · refine ⟨fun st t ht => ?_, fun st d x hx hd => ?_⟩
    · simp only [stepS, St.apply]
      cases ks with
      | nil =>
        refine ⟨[], ?_⟩
        rw [put_other _ _ t ht, news_tm]
        exact (kill_nil _).symm
      | cons k ks =>
        refine ⟨rowsOf st.hp (k :: ks), ?_⟩
        rw [put_other _ _ t ht, news_tm]
    · simp only [stepS, St.apply]
      cases ks with
      | nil =>
        rw [put_nx, news_put]
        exact put_swap _ (fun t ht => hd t ht) _ _
      | cons k ks =>
        rw [put_nx, put_hp, ← put_swap _ hd]
        congr 1
        rw [← news_put]
        congr 1
        cases d with
        | none => rfl
        | some t =>
          simp only [St.putO, St.put]
          congr 1
          funext u
          cases u == t with
          | true => simp [solid_kill _ x hx]
          | false => rfl

theorem neat_swap {o o' : Oper} {s s' m : St → St} {v v' : AV} (h : Neat o s id v) (h' : Neat o' s' m v') (hd : ∀ t, o.dst = some t → o'.dst ≠ some t) (st : St) : s' (s st) = s (s' st) := by
  rw [h.eq st, h'.eq, h.eq, h'.eq st]
  simp only [id]
  rw [h'.put]
  exact put_swap _ hd _ _

theorem meet1_spec {x y : Nat} (h : meet1 x y = true) : (x ≤ 4 ∧ y ≤ 4) ∨ (x ≤ 3 ∧ y = 5) ∨ (x ≤ 2 ∧ y = 6) ∨ ((x ≤ 1 ∨ x = 3) ∧ y = 7) ∨ (x = 0 ∧ y = 8) := by
  unfold meet1 at h
  simp only [Bool.or_eq_true, Bool.and_eq_true, Nat.ble_eq] at h
  rcases h with (((h | h) | h) | h) | h
  · exact .inl h
  · exact .inr (.inl ⟨h.1, Nat.eq_of_beq_eq_true h.2⟩)
  · exact .inr (.inr (.inl ⟨h.1, Nat.eq_of_beq_eq_true h.2⟩))
  · exact .inr (.inr (.inr (.inl ⟨h.1.imp id Nat.eq_of_beq_eq_true, Nat.eq_of_beq_eq_true h.2⟩)))
  · exact .inr (.inr (.inr (.inr ⟨Nat.eq_of_beq_eq_true h.1, Nat.eq_of_beq_eq_true h.2⟩)))
theorem meet_comm (x y : Nat) : meet x y = meet y x := Bool.or_comm _ _
theorem meet_spec {x y : Nat} (h : meet x y = true) : meet1 x y = true ∨ meet1 y x = true := by
  unfold meet at h
  rwa [Bool.or_eq_true] at h

theorem one_off {n0 k : Nat} (hk : n0 ≤ k) : ∀ j, j < n0 → [k].contains j = false := fun j hj => by
  simp only [List.contains_cons, List.contains_nil, Bool.or_false, beq_eq_false_iff_ne]
  omega

theorem step_swap1 {n0 : Nat} {o o' : Oper} {e e' : Option Eff} {c c' : Nat} (h : Cl n0 e c) (h' : Cl n0 e' c') (hm : meet1 c c' = true) (hd : ∀ t, o.dst = some t → o'.dst ≠ some t) (st : St) :
    stepS o' e' (stepS o e st) = stepS o e (stepS o' e' st) := by
  have lo : c ≤ 4 → c' ≤ 6 → stepS o' e' (stepS o e st) = stepS o e (stepS o' e' st) := fun h1 h2 => by
    obtain ⟨v, n⟩ := cl_low (o := o) h h1
    obtain ⟨m, v', n', _⟩ := cl_mid (o := o') h' h2
    exact neat_swap n n' hd st
  rcases meet1_spec hm with ⟨h1, h2⟩ | ⟨h1, h2⟩ | ⟨h1, h2⟩ | ⟨h1, h2⟩ | ⟨h1, h2⟩
  · exact lo h1 (by omega)
  · exact lo (by omega) (by omega)
  · exact lo (by omega) (by omega)
  · subst h2
    obtain ⟨k, ob, v', rfl, hk⟩ := cl_new (o := o') h'
    have key : ∃ v, v.kill [k] = v ∧ ∀ st, stepS o e st = st.putO o.dst v := by
      by_cases h0 : c = 0
      · subst h0
        obtain ⟨v, hv, he⟩ := cl_zero (o := o) h
        exact ⟨v, solid_kill _ v hv, he⟩
      · obtain ⟨v, hv, he⟩ := cl_old (o := o) h (by omega)
        exact ⟨v, low_kill (one_off hk) v hv, he⟩
    obtain ⟨v, hv, he⟩ := key
    rw [he st, he, (app_step (o := o') k ob v').2.1 st o.dst v hv hd]
  · subst h1
    subst h2
    obtain ⟨v, hv, he⟩ := cl_zero (o := o) h
    rw [he st, he, (cl_kill (o := o') h').2 st o.dst v hv hd]

theorem step_swap {n0 : Nat} {o o' : Oper} {e e' : Option Eff} {c c' : Nat} (h : Cl n0 e c) (h' : Cl n0 e' c') (hm : meet c c' = true) (hd : ∀ t, o.dst = some t → o'.dst ≠ some t) (st : St) :
    stepS o' e' (stepS o e st) = stepS o e (stepS o' e' st) := by
  rcases meet_spec hm with hm | hm
  · exact step_swap1 h h' hm hd st
  · exact (step_swap1 h' h hm (fun t ht he => hd t he ht) st).symm

/-- What an operation of a class may see of a state that goes on. -/
structure Obs (n0 : Nat) (o : Oper) (ops : Array Oper) (c : Nat) (st st' : St) : Prop where
  zero : ∀ t ∈ o.looksAt ops, (st.tm t).solid = true ∨ (st'.tm t).solid = true → st'.tm t = st.tm t
  old : c = 1 ∨ c = 3 → ∀ t ∈ o.looksAt ops, (st.tm t).low n0 = true ∨ (st'.tm t).low n0 = true → st'.tm t = st.tm t
  one : c = 2 ∨ 4 ≤ c → ∀ t ∈ o.looksAt ops, st'.tm t = st.tm t
  two : c = 3 → n0 ≤ st.nx → n0 ≤ st'.nx ∧ ∀ k, k < n0 → (st.hp k).low n0 = true ∨ (st'.hp k).low n0 = true → st'.hp k = st.hp k
  three : 4 ≤ c → st'.hp = st.hp ∧ st'.nx = st.nx

theorem obs_refl {n0 : Nat} {o : Oper} {ops : Array Oper} {c : Nat} (st : St) : Obs n0 o ops c st st := ⟨fun _ _ _ => rfl, fun _ _ _ _ => rfl, fun _ _ _ => rfl, fun _ h => ⟨h, fun _ _ _ => rfl⟩, fun _ => ⟨rfl, rfl⟩⟩
theorem between {α : Type} {p : α → Bool} {x y z : α} (h1 : p x = true ∨ p y = true → y = x) (h2 : p y = true ∨ p z = true → z = y) (hs : p x = true ∨ p z = true) : z = x := by
  rcases hs with hs | hs
  · have e1 := h1 (.inl hs)
    rw [h2 (.inl (e1 ▸ hs)), e1]
  · have e2 := h2 (.inr hs)
    rw [e2, h1 (.inr (e2 ▸ hs))]
theorem obs_trans {n0 : Nat} {o : Oper} {ops : Array Oper} {c : Nat} (st st' st'' : St) (h1 : Obs n0 o ops c st st') (h2 : Obs n0 o ops c st' st'') : Obs n0 o ops c st st'' := by
  refine ⟨fun t ht hs => between (p := AV.solid) (h1.zero t ht) (h2.zero t ht) hs, fun hc t ht hs => between (p := AV.low n0) (h1.old hc t ht) (h2.old hc t ht) hs, fun hc t ht => (h2.one hc t ht).trans (h1.one hc t ht), fun hc hn => ?_,
    fun hc => ⟨(h2.three hc).1.trans (h1.three hc).1, (h2.three hc).2.trans (h1.three hc).2⟩⟩
  obtain ⟨a, b⟩ := h1.two hc hn
  obtain ⟨a', b'⟩ := h2.two hc a
  exact ⟨a', fun k hk hs => between (p := LObj.low n0) (b k hk) (b' k hk) hs⟩

theorem obs_step {n0 : Nat} {o o' : Oper} {ops : Array Oper} {e' : Option Eff} {c c' : Nat} (h' : Cl n0 e' c') (hm : meet c c' = true) (hd : ∀ d, o'.dst = some d → d ∉ o.looksAt ops) (st : St) :
    Obs n0 o ops c st (stepS o' e' st) := by
  have hne : ∀ t ∈ o.looksAt ops, ∀ d, o'.dst = some d → t ≠ d := fun t ht d hdd e => hd d hdd (e ▸ ht)
  have hput : ∀ (s : St) (v : AV) (t : Nat), t ∈ o.looksAt ops → (s.putO o'.dst v).tm t = s.tm t := fun s v t ht => put_other s v t (hne t ht)
  have low : c' ≤ 4 → Obs n0 o ops c st (stepS o' e' st) := fun h2 => by
    obtain ⟨v', n'⟩ := cl_low (o := o') h' h2
    rw [n'.eq st]
    have hh : ((id st).putO o'.dst v').hp = st.hp := put_hp _ _ _
    have hn : ((id st).putO o'.dst v').nx = st.nx := put_nx _ _ _
    refine ⟨fun t ht _ => hput _ _ t ht, fun _ t ht _ => hput _ _ t ht, fun _ t ht => hput _ _ t ht, fun _ h => ?_, fun _ => ⟨hh, hn⟩⟩
    rw [hn, hh]
    exact ⟨h, fun _ _ _ => rfl⟩
  rcases meet_spec hm with hm | hm <;> rcases meet1_spec hm with ⟨h1, h2⟩ | ⟨h1, h2⟩ | ⟨h1, h2⟩ | ⟨h1, h2⟩ | ⟨h1, h2⟩
  · exact low h2
  · obtain ⟨m, v', n', hg⟩ := cl_mid (o := o') h' (by omega)
    rw [n'.eq st]
    have ht' : ∀ t ∈ o.looksAt ops, ((m st).putO o'.dst v').tm t = st.tm t := fun t ht => by rw [hput _ _ t ht, n'.tm]
    refine ⟨fun t ht _ => ht' t ht, fun _ t ht _ => ht' t ht, fun _ => ht', fun _ hn => ?_, fun hc => by omega⟩
    obtain ⟨g1, g2⟩ := hg (by omega) st
    rw [put_hp, put_nx]
    exact ⟨by omega, fun k hk _ => g2 k (by omega)⟩
  · obtain ⟨m, v', n', hg⟩ := cl_mid (o := o') h' (by omega)
    rw [n'.eq st]
    have ht' : ∀ t ∈ o.looksAt ops, ((m st).putO o'.dst v').tm t = st.tm t := fun t ht => by rw [hput _ _ t ht, n'.tm]
    exact ⟨fun t ht _ => ht' t ht, fun _ t ht _ => ht' t ht, fun _ => ht', fun hc _ => by omega, fun hc => by omega⟩
  · subst h2
    obtain ⟨k, ob, v', rfl, hk⟩ := cl_new (o := o') h'
    obtain ⟨a1, _, a3, a4⟩ := app_step (o := o') k ob v'
    refine ⟨fun t ht hs => ?_, fun _ t ht hs => ?_, fun hc => by omega, fun hc hn => ⟨by rw [a4]; exact hn, fun j hj hs => ?_⟩, fun hc => by omega⟩
    · rw [a1 st t (hne t ht)] at hs ⊢
      exact hs.elim (fun hs => solid_kill _ _ hs) (fun hs => kill_solid _ _ hs)
    · rw [a1 st t (hne t ht)] at hs ⊢
      exact hs.elim (fun hs => low_kill (one_off hk) _ hs) (fun hs => kill_low _ hs)
    · rw [a3 st j (by omega)] at hs ⊢
      exact hs.elim (fun hs => obj_low_kill (one_off hk) hs) (fun hs => obj_kill_low hs)
  · subst h2
    refine ⟨fun t ht hs => ?_, fun hc => by omega, fun hc => by omega, fun hc => by omega, fun hc => by omega⟩
    obtain ⟨ks, hk⟩ := (cl_kill (o := o') h').1 st t (hne t ht)
    rw [hk] at hs ⊢
    exact hs.elim (fun hs => solid_kill ks _ hs) (fun hs => kill_solid ks _ hs)
  · exact low h1
  · exact low (by omega)
  · exact low (by omega)
  · exact low (by omega)
  · exact low (by omega)

/-- Two states that go on from one. -/
theorem obs_same {n0 : Nat} {o : Oper} {ops : Array Oper} {c : Nat} {st s s' : St} (h : Obs n0 o ops c st s) (h' : Obs n0 o ops c st s') {t : Nat} (ht : t ∈ o.looksAt ops) (hs : (s.tm t).solid = true) : s'.tm t = s.tm t := by
  have e1 := h.zero t ht (.inr hs)
  rw [h'.zero t ht (.inl (e1 ▸ hs)), e1]
theorem obs_same_old {n0 : Nat} {o : Oper} {ops : Array Oper} {c : Nat} {st s s' : St} (hc : c = 1 ∨ c = 3) (h : Obs n0 o ops c st s) (h' : Obs n0 o ops c st s') {t : Nat} (ht : t ∈ o.looksAt ops) (hs : (s.tm t).low n0 = true) : s'.tm t = s.tm t := by
  have e1 := h.old hc t ht (.inr hs)
  rw [h'.old hc t ht (.inl (e1 ▸ hs)), e1]

theorem obs_gate {n0 : Nat} {o : Oper} {ops : Array Oper} {c : Nat} {st s s' : St} (h : Obs n0 o ops c st s) (h' : Obs n0 o ops c st s') {b : Bool} (hb : gateB ops.toList o s = some b) : gateB ops.toList o s' = some b := by
  unfold gateB at hb ⊢
  cases hg : o.guard with
  | none => rw [hg] at hb; exact hb
  | some g =>
    obtain ⟨j, want⟩ := g
    rw [hg] at hb
    simp only at hb ⊢
    cases hd : dstOf ops.toList j with
    | none => rw [hd] at hb; exact hb
    | some t =>
      rw [hd] at hb
      simp only at hb ⊢
      have hl : t ∈ o.looksAt ops := by
        unfold Oper.looksAt
        rw [hg]
        refine List.mem_append_right _ ?_
        unfold dstOf at hd
        rw [Array.getElem?_toList] at hd
        cases ho : ops[j]? with
        | none => rw [ho] at hd; cases hd
        | some x => rw [ho] at hd; simp only at hd; simp [ho, hd]
      have hs : (s.tm t).solid = true := by
        cases hx : s.tm t <;> rw [hx] at hb <;> first | rfl | cases hb
      rw [obs_same h h' hl hs]
      exact hb

theorem solidL_in : ∀ {xs : List AV}, AV.solidL xs = true → ∀ x ∈ xs, x.solid = true
  | [], _, _, h => by cases h
  | y :: ys, h, x, hx => by
    simp only [AV.solidL, Bool.and_eq_true] at h
    rcases List.mem_cons.1 hx with rfl | hx
    · exact h.1
    · exact solidL_in h.2 x hx

theorem looks_op {o : Oper} {ops : Array Oper} {t : Nat} (h : .tmp t ∈ o.op.operands.toList) : t ∈ o.looksAt ops := List.mem_append_left _ (List.mem_filterMap.2 ⟨.tmp t, h, rfl⟩)

theorem obs_op {T : Tab} {orc : Orc} {n0 : Nat} {o : Oper} {ops : Array Oper} {st s s' : St} {f : Eff} (hn : n0 ≤ st.nx) (h : Obs n0 o ops (classOf n0 s o.op f) st s) (h' : Obs n0 o ops (classOf n0 s o.op f) st s')
    (he : evOp T orc o.op o.type s some = some f) : evOp T orc o.op o.type s' some = some f := by
  have near : ∀ v, f = .val v → (∀ x ∈ o.op.operands.toList, s'.ev x = s.ev x) → (blindOp o.op = false → ∀ k ∈ AV.refsL (opVals s o.op), s'.hp k = s.hp k) → evOp T orc o.op o.type s' some = some f := fun v hv hev hk => by
    subst hv
    have h1 := evOp_near he s'.hp s'.nx hk
    rw [← h1]
    exact evOp_agree T orc o.op o.type (fun x hx => by rw [ev_mem]; exact hev x hx) rfl rfl
  have ev1 : classOf n0 s o.op f = 2 ∨ 4 ≤ classOf n0 s o.op f → ∀ x ∈ o.op.operands.toList, s'.ev x = s.ev x := fun hc x hx => by
    cases x with
    | tmp t => exact (h'.one hc t (looks_op hx)).trans (h.one hc t (looks_op hx)).symm
    | _ => rfl
  have ev2 : classOf n0 s o.op f = 1 ∨ classOf n0 s o.op f = 3 → AV.lowL n0 (opVals s o.op) = true → ∀ x ∈ o.op.operands.toList, s'.ev x = s.ev x := fun hc hl x hx => by
    cases x with
    | tmp t => exact obs_same_old hc h h' (looks_op hx) (lowL_in hl _ (List.mem_map.2 ⟨.tmp t, hx, rfl⟩))
    | _ => rfl
  have big : 4 ≤ classOf n0 s o.op f → evOp T orc o.op o.type s' some = some f := fun hc => by
    rw [evOp_agree T orc o.op o.type (ev1 (.inr hc)) ((h'.three hc).1.trans (h.three hc).1.symm) ((h'.three hc).2.trans (h.three hc).2.symm), he]
  by_cases h3 : 4 ≤ classOf n0 s o.op f
  · exact big h3
  · cases f with
    | val v =>
      have hcl : classOf n0 s o.op (.val v) = (bif (blindOp o.op || (AV.refsL (opVals s o.op)).isEmpty) && (AV.solidL (opVals s o.op) && v.solid) then 0
        else bif blindOp o.op then (bif AV.lowL n0 (opVals s o.op) && v.low n0 then 1 else 2) else bif (AV.lowL n0 (opVals s o.op) && v.low n0) && (AV.refsL (opVals s o.op)).all (fun k => (s.hp k).low n0) then 3 else 4) := rfl
      cases hb : ((blindOp o.op || (AV.refsL (opVals s o.op)).isEmpty) && (AV.solidL (opVals s o.op) && v.solid)) with
      | true =>
        simp only [Bool.and_eq_true, Bool.or_eq_true] at hb
        refine near v rfl (fun x hx => ?_) (fun hf k hk => ?_)
        · cases x with
          | tmp t => exact obs_same h h' (looks_op hx) (solidL_in hb.2.1 _ (List.mem_map.2 ⟨.tmp t, hx, rfl⟩))
          | _ => rfl
        · rcases hb.1 with h1 | h1
          · rw [hf] at h1; cases h1
          · rw [List.isEmpty_iff.1 h1] at hk; cases hk
      | false =>
        rw [hb, cond_false] at hcl
        cases hbl : blindOp o.op with
        | true =>
          rw [hbl, cond_true] at hcl
          cases hl : (AV.lowL n0 (opVals s o.op) && v.low n0) with
          | true =>
            rw [hl, cond_true] at hcl
            simp only [Bool.and_eq_true] at hl
            exact near v rfl (ev2 (by omega) hl.1) (fun hf => by rw [hbl] at hf; cases hf)
          | false =>
            rw [hl, cond_false] at hcl
            exact near v rfl (ev1 (by omega)) (fun hf => by rw [hbl] at hf; cases hf)
        | false =>
          rw [hbl, cond_false] at hcl
          cases hr : ((AV.lowL n0 (opVals s o.op) && v.low n0) && (AV.refsL (opVals s o.op)).all (fun k => (s.hp k).low n0)) with
          | false => rw [hr, cond_false] at hcl; omega
          | true =>
            rw [hr, cond_true] at hcl
            simp only [Bool.and_eq_true] at hr
            refine near v rfl (ev2 (by omega) hr.1.1) fun _ k hk => ?_
            have hk0 : k < n0 := lowL_refs _ hr.1.1 k hk
            have hko := List.all_eq_true.1 hr.2 k hk
            have e1 := (h.two hcl hn).2 k hk0 (.inr hko)
            rw [(h'.two hcl hn).2 k hk0 (.inl (e1 ▸ hko)), e1]
    | new os v => exact absurd (show 4 ≤ 5 by omega) h3
    | upd k ob v => exact absurd (show 4 ≤ 6 by omega) h3
    | app k ob v =>
      refine absurd ?_ h3
      simp only [classOf]
      cases Nat.ble n0 k <;> simp
    | frz ks os v => exact absurd (show 4 ≤ 9 by omega) h3
    | call fz ks objs vs => cases fz with
      | nil => exact absurd (show 4 ≤ 8 by omega) h3
      | cons a b => exact absurd (show 4 ≤ 9 by omega) h3

/-- Names only grow. -/
theorem stepS_nx (o : Oper) (e : Option Eff) (st : St) : st.nx ≤ (stepS o e st).nx := by
  have hmem : ∀ (s : St) (v : AV), (s.putO o.dst v).nx = s.nx := fun s v => by cases o.dst <;> rfl
  cases e with
  | none => simp only [stepS, hmem]; omega
  | some f =>
    simp only [stepS, hmem]
    cases f with
    | val v => exact Nat.le_refl _
    | new os v => simp only [St.apply, news_nx]; omega
    | upd k ob v => exact Nat.le_refl _
    | app k ob v => exact Nat.le_refl _
    | frz ks os v =>
      simp only [St.apply, news_nx]
      exact Nat.le_add_right _ _
    | call fz ks objs vs =>
      simp only [St.apply, news_nx]
      cases fz <;> cases ks <;> exact Nat.le_add_right _ _

end Go.Proofs.YtgiofacmcpakoaaE
