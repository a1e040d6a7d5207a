/- The engine, part 19: regions whose order is open. -/
import Derived.Test.YtfepkpindchleaaE18
namespace Go.Proofs.YtfepkpindchleaaE
open Go
set_option linter.unusedVariables false
set_option linter.unusedSimpArgs false

theorem rng_all {p : Nat → Bool} : ∀ (n a : Nat), (rng a n).all p = true → ∀ j, a ≤ j → j < a + n → p j = true
  | 0, a, _, j, h1, h2 => by omega
  | n + 1, a, h, j, h1, h2 => by
    simp only [rng, List.all_cons, Bool.and_eq_true] at h
    by_cases hj : j = a
    · subst hj; exact h.1
    · exact rng_all n (a + 1) h.2 j (by omega) (by omega)

/-! ### Some of the steps, in turn -/
def runS (step : Nat → St → St) (L : Nat → Bool) (st : St) : Nat → St
  | 0 => st
  | n + 1 => bif L n then step n (runS step L st n) else runS step L st n

theorem runS_congr {step : Nat → St → St} {L L' : Nat → Bool} {st : St} : ∀ (n : Nat), (∀ i, i < n → L i = L' i) → runS step L st n = runS step L' st n
  | 0, _ => rfl
  | n + 1, h => by
    simp only [runS]
    rw [h n (by omega), runS_congr n fun i hi => h i (by omega)]

def addL (L : Nat → Bool) (e : Nat) : Nat → Bool := fun i => L i || i == e

theorem runS_nx {step : Nat → St → St} (hmono : ∀ i s, s.nx ≤ (step i s).nx) {L : Nat → Bool} {st : St} {b : Nat} (hb : b ≤ st.nx) : ∀ (n : Nat), b ≤ (runS step L st n).nx
  | 0 => hb
  | n + 1 => by
    simp only [runS]
    cases L n with
    | false => exact runS_nx hmono hb n
    | true => exact Nat.le_trans (runS_nx hmono hb n) (hmono _ _)

/-- One step more may be the last one. -/
theorem runS_add {step : Nat → St → St} (hmono : ∀ i s, s.nx ≤ (step i s).nx) {L : Nat → Bool} {st : St} {b : Nat} (hb : b ≤ st.nx) {e : Nat} (he : L e = false) : ∀ (n : Nat), e < n → (∀ k, e < k → k < n → L k = true → ∀ s, b ≤ s.nx → step k (step e s) = step e (step k s)) →
    runS step (addL L e) st n = step e (runS step L st n)
  | 0, h, _ => by omega
  | n + 1, h, hc => by
    simp only [runS]
    by_cases hen : e = n
    · subst hen
      have : runS step (addL L e) st e = runS step L st e := runS_congr e fun i hi => by
        have : (i == e) = false := by simp; omega
        simp [addL, this]
      rw [this, he]
      simp [addL]
    · have h1 := runS_add hmono hb he n (by omega) fun k h1 h2 => hc k h1 (by omega)
      rw [h1]
      have : addL L e n = L n := by
        have : (n == e) = false := by simp; omega
        simp [addL, this]
      rw [this]
      cases hn : L n with
      | false => rfl
      | true => exact hc n (by omega) (by omega) hn _ (runS_nx hmono hb n)

/-- More steps: what none of them changes is the same. -/
theorem runS_obs {step : Nat → St → St} (hmono : ∀ i s, s.nx ≤ (step i s).nx) {L L' : Nat → Bool} {st : St} {b : Nat} (hb : b ≤ st.nx) {n : Nat} {rel : St → St → Prop} (hr : ∀ s, rel s s) (ht : ∀ s s' s'', rel s s' → rel s' s'' → rel s s'')
    (hsub : ∀ i, L i = true → L' i = true) (hex : ∀ e, e < n → L e = false → L' e = true → (∀ s, b ≤ s.nx → rel s (step e s)) ∧ ∀ k, e < k → k < n → L k = true → ∀ s, b ≤ s.nx → step k (step e s) = step e (step k s)) :
    rel (runS step L st n) (runS step L' st n) := by
  have key : ∀ m, m ≤ n → rel (runS step L st n) (runS step (fun i => L i || (L' i && decide (i < m))) st n) := by
    intro m
    induction m with
    | zero =>
      intro _
      have : runS step (fun i => L i || (L' i && decide (i < 0))) st n = runS step L st n := runS_congr n fun i _ => by simp
      rw [this]
      exact hr _
    | succ m ih =>
      intro hm
      have h1 := ih (by omega)
      by_cases hL : L m = false ∧ L' m = true
      · obtain ⟨hL, hL'⟩ := hL
        obtain ⟨h2, h3⟩ := hex m (by omega) hL hL'
        have h4 := runS_add (step := step) hmono (st := st) hb (L := fun i => L i || (L' i && decide (i < m))) (e := m) (by simp [hL]) n (by omega) fun k h1 h2 hk => by
          have : ¬ k < m := by omega
          simp [this] at hk
          exact h3 k h1 h2 hk
        have h5 : runS step (fun i => L i || (L' i && decide (i < m + 1))) st n = runS step (addL (fun i => L i || (L' i && decide (i < m))) m) st n := runS_congr n fun i _ => by
          by_cases him : i = m
          · subst him; simp [addL, hL, hL']
          · have h6 : (i < m + 1) ↔ i < m := by omega
            simp [addL, h6, him]
        rw [h5, h4]
        exact ht _ _ _ h1 (h2 _ (runS_nx hmono hb n))
      · have h5 : runS step (fun i => L i || (L' i && decide (i < m + 1))) st n = runS step (fun i => L i || (L' i && decide (i < m))) st n := runS_congr n fun i _ => by
          by_cases him : i = m
          · subst him
            cases h6 : L i with
            | true => simp
            | false =>
              cases h7 : L' i with
              | true => exact absurd ⟨h6, h7⟩ hL
              | false => simp
          · have h6 : (i < m + 1) ↔ i < m := by omega
            simp [h6]
        rw [h5]
        exact h1
  have := key n (Nat.le_refl n)
  have h2 : runS step (fun i => L i || (L' i && decide (i < n))) st n = runS step L' st n := runS_congr n fun i hi => by
    cases h : L i with
    | true => simp [hsub i h]
    | false => simp [hi]
  rw [h2] at this
  exact this

/-! ### A step -/
def gateB (all : List Oper) (o : Oper) (st : St) : Option Bool :=
  match o.guard with
  | none => some true
  | some (j, want) => match dstOf all j with
    | none => none
    | some t => match st.tm t with
      | .bool b => some (b == want)
      | .undef => some false
      | _ => none

theorem gate_logic {R : Type} {all : List Oper} {o : Oper} {st : St} {run skip : St → Option R} {r : R} (h : gate all o st run skip = some r) :
    (gateB all o st = some true ∧ run st = some r) ∨ (gateB all o st = some false ∧ skip st = some r) := by
  unfold gate at h
  unfold gateB
  split at h
  · rename_i hg
    rw [hg]
    exact .inl ⟨rfl, h⟩
  · rename_i j want hg
    rw [hg]
    simp only
    split at h
    · cases h
    · rename_i t hd
      split at h
      · rename_i b hb
        rw [hd]
        simp only [hb]
        cases want <;> cases b <;> simp only [cond_true, cond_false] at h <;> rw [put_same hb] at h <;> simp [h]
      · rename_i hu
        rw [hd]
        simp only [hu]
        exact .inr ⟨trivial, h⟩
      · cases h

theorem gateB_wanted {c : Cx} {st : St} {a : Act} {w : World} {μ : Nat → Pl} {F : Nat → Prop} (hi : Inv c st a w μ F) {ops : Array Oper} {o : Oper} {b : Bool} (h : gateB ops.toList o st = some b) :
    Region.wanted o (yielded ops a.tmps) = b := by
  unfold gateB at h
  unfold Region.wanted
  split at h
  · rename_i hg
    rw [hg]
    cases h
    rfl
  · rename_i j want hg
    rw [hg]
    simp only
    split at h
    · cases h
    · rename_i t hd
      split at h
      · rename_i b hb
        rw [yield_bool hi hd hb]
        cases h
        cases want <;> cases b <;> rfl
      · rename_i hu
        rw [yield_undef hi hd hu]
        cases h
        rfl
      · cases h

def stepS (o : Oper) : Option Eff → St → St
  | none, st => st.putO o.dst .undef
  | some f, st => (st.apply f).2.putO o.dst (st.apply f).1

mutual
theorem solid_kill (ks : List Nat) : ∀ (x : AV), x.solid = true → x.kill ks = x
  | .agg cs, h => by simp only [AV.solid] at h; simp only [AV.kill, solidL_kill ks cs h]
  | .tup cs, h => by simp only [AV.solid] at h; simp only [AV.kill, solidL_kill ks cs h]
  | .fn g cs, h => by simp only [AV.solid] at h; simp only [AV.kill, solidL_kill ks cs h]
  | .rptr _ _ _ _, h => by simp [AV.solid] at h
  | .rowA _, h => by simp [AV.solid] at h
  | .rowS _ _ _ _, h => by simp [AV.solid] at h
  | .ptr _ _, _ => by simp only [AV.kill]
  | .mp _, _ => by simp only [AV.kill]
  | .int _ _, _ => by simp only [AV.kill]
  | .bool _, _ => by simp only [AV.kill]
  | .str _, _ => by simp only [AV.kill]
  | .list _ _, _ => by simp only [AV.kill]
  | .np, _ => by simp only [AV.kill]
  | .nm, _ => by simp only [AV.kill]
  | .nf, _ => by simp only [AV.kill]
  | .ns, _ => by simp only [AV.kill]
  | .lptr _ _ _ _, _ => by simp only [AV.kill]
  | .undef, _ => by simp only [AV.kill]
  | .dead, h => by simp [AV.solid] at h
theorem solidL_kill (ks : List Nat) : ∀ (cs : List AV), AV.solidL cs = true → AV.killL ks cs = cs
  | [], _ => by simp only [AV.killL]
  | c :: cs, h => by
    simp only [AV.solidL, Bool.and_eq_true] at h
    simp only [AV.killL, solid_kill ks c h.1, solidL_kill ks cs h.2]
end

mutual
theorem kill_solid (ks : List Nat) : ∀ (x : AV), (x.kill ks).solid = true → x.kill ks = x
  | .agg cs, h => by simp only [AV.kill, AV.solid] at h; simp only [AV.kill, killL_solid ks cs h]
  | .tup cs, h => by simp only [AV.kill, AV.solid] at h; simp only [AV.kill, killL_solid ks cs h]
  | .fn g cs, h => by simp only [AV.kill, AV.solid] at h; simp only [AV.kill, killL_solid ks cs h]
  | .rptr k t i off, h => by
    simp only [AV.kill] at h
    cases hc : ks.contains k <;> rw [hc] at h <;> simp [AV.solid] at h
  | .rowA k, h => by
    simp only [AV.kill] at h
    cases hc : ks.contains k <;> rw [hc] at h <;> simp [AV.solid] at h
  | .rowS k off n c, h => by
    simp only [AV.kill] at h
    cases hc : ks.contains k <;> rw [hc] at h <;> simp [AV.solid] at h
  | .ptr _ _, _ => by simp only [AV.kill]
  | .mp _, _ => by simp only [AV.kill]
  | .int _ _, _ => by simp only [AV.kill]
  | .bool _, _ => by simp only [AV.kill]
  | .str _, _ => by simp only [AV.kill]
  | .list _ _, _ => by simp only [AV.kill]
  | .np, _ => by simp only [AV.kill]
  | .nm, _ => by simp only [AV.kill]
  | .nf, _ => by simp only [AV.kill]
  | .ns, _ => by simp only [AV.kill]
  | .lptr _ _ _ _, _ => by simp only [AV.kill]
  | .undef, _ => by simp only [AV.kill]
  | .dead, _ => by simp only [AV.kill]
theorem killL_solid (ks : List Nat) : ∀ (cs : List AV), AV.solidL (AV.killL ks cs) = true → AV.killL ks cs = cs
  | [], _ => by simp only [AV.killL]
  | c :: cs, h => by
    simp only [AV.killL, AV.solidL, Bool.and_eq_true] at h
    simp only [AV.killL, kill_solid ks c h.1, killL_solid ks cs h.2]
end

mutual
theorem low_kill {n0 : Nat} {ks : List Nat} (hk : ∀ k, k < n0 → ks.contains k = false) : ∀ (x : AV), x.low n0 = true → x.kill ks = x
  | .agg cs, h => by simp only [AV.low] at h; simp only [AV.kill, lowL_kill hk cs h]
  | .tup cs, h => by simp only [AV.low] at h; simp only [AV.kill, lowL_kill hk cs h]
  | .fn g cs, h => by simp only [AV.low] at h; simp only [AV.kill, lowL_kill hk cs h]
  | .rptr k t i off, h => by simp only [AV.low, Nat.blt_eq] at h; simp only [AV.kill, hk k h, cond_false]
  | .rowA k, h => by simp only [AV.low, Nat.blt_eq] at h; simp only [AV.kill, hk k h, cond_false]
  | .rowS k _ _ _, h => by simp only [AV.low, Nat.blt_eq] at h; simp only [AV.kill, hk k h, cond_false]
  | .ptr _ _, _ => by simp only [AV.kill]
  | .mp _, _ => by simp only [AV.kill]
  | .int _ _, _ => by simp only [AV.kill]
  | .bool _, _ => by simp only [AV.kill]
  | .str _, _ => by simp only [AV.kill]
  | .list _ _, _ => by simp only [AV.kill]
  | .np, _ => by simp only [AV.kill]
  | .nm, _ => by simp only [AV.kill]
  | .nf, _ => by simp only [AV.kill]
  | .ns, _ => by simp only [AV.kill]
  | .lptr _ _ _ _, _ => by simp only [AV.kill]
  | .undef, _ => by simp only [AV.kill]
  | .dead, h => by simp [AV.low] at h
theorem lowL_kill {n0 : Nat} {ks : List Nat} (hk : ∀ k, k < n0 → ks.contains k = false) : ∀ (cs : List AV), AV.lowL n0 cs = true → AV.killL ks cs = cs
  | [], _ => by simp only [AV.killL]
  | c :: cs, h => by
    simp only [AV.lowL, Bool.and_eq_true] at h
    simp only [AV.killL, low_kill hk c h.1, lowL_kill hk cs h.2]
end

mutual
theorem kill_low {n0 : Nat} {ks : List Nat} : ∀ (x : AV), (x.kill ks).low n0 = true → x.kill ks = x
  | .agg cs, h => by simp only [AV.kill, AV.low] at h; simp only [AV.kill, killL_low cs h]
  | .tup cs, h => by simp only [AV.kill, AV.low] at h; simp only [AV.kill, killL_low cs h]
  | .fn g cs, h => by simp only [AV.kill, AV.low] at h; simp only [AV.kill, killL_low cs h]
  | .rptr k t i off, h => by
    simp only [AV.kill] at h ⊢
    cases hc : ks.contains k <;> rw [hc] at h
    · rfl
    · simp [AV.low] at h
  | .rowA k, h => by
    simp only [AV.kill] at h ⊢
    cases hc : ks.contains k <;> rw [hc] at h
    · rfl
    · simp [AV.low] at h
  | .rowS k off n c, h => by
    simp only [AV.kill] at h ⊢
    cases hc : ks.contains k <;> rw [hc] at h
    · rfl
    · simp [AV.low] at h
  | .ptr _ _, _ => by simp only [AV.kill]
  | .mp _, _ => by simp only [AV.kill]
  | .int _ _, _ => by simp only [AV.kill]
  | .bool _, _ => by simp only [AV.kill]
  | .str _, _ => by simp only [AV.kill]
  | .list _ _, _ => by simp only [AV.kill]
  | .np, _ => by simp only [AV.kill]
  | .nm, _ => by simp only [AV.kill]
  | .nf, _ => by simp only [AV.kill]
  | .ns, _ => by simp only [AV.kill]
  | .lptr _ _ _ _, _ => by simp only [AV.kill]
  | .undef, _ => by simp only [AV.kill]
  | .dead, _ => by simp only [AV.kill]
theorem killL_low {n0 : Nat} {ks : List Nat} : ∀ (cs : List AV), AV.lowL n0 (AV.killL ks cs) = true → AV.killL ks cs = cs
  | [], _ => by simp only [AV.killL]
  | c :: cs, h => by
    simp only [AV.killL, AV.lowL, Bool.and_eq_true] at h
    simp only [AV.killL, kill_low c h.1, killL_low cs h.2]
end

mutual
theorem low_refs {n0 : Nat} : ∀ (x : AV), x.low n0 = true → ∀ k ∈ x.refs, k < n0
  | .agg cs, h => by simp only [AV.low] at h; simp only [AV.refs]; exact lowL_refs cs h
  | .tup cs, h => by simp only [AV.low] at h; simp only [AV.refs]; exact lowL_refs cs h
  | .fn g cs, h => by simp only [AV.low] at h; simp only [AV.refs]; exact lowL_refs cs h
  | .rptr k t i off, h => by simp only [AV.low, Nat.blt_eq] at h; simp only [AV.refs, List.mem_singleton]; rintro _ rfl; exact h
  | .rowA k, h => by simp only [AV.low, Nat.blt_eq] at h; simp only [AV.refs, List.mem_singleton]; rintro _ rfl; exact h
  | .rowS k _ _ _, h => by simp only [AV.low, Nat.blt_eq] at h; simp only [AV.refs, List.mem_singleton]; rintro _ rfl; exact h
  | .ptr k _, h => by simp only [AV.low, Nat.blt_eq] at h; simp only [AV.refs, List.mem_singleton]; rintro _ rfl; exact h
  | .mp k, h => by simp only [AV.low, Nat.blt_eq] at h; simp only [AV.refs, List.mem_singleton]; rintro _ rfl; exact h
  | .int _ _, _ => by simp [AV.refs]
  | .bool _, _ => by simp [AV.refs]
  | .str _, _ => by simp [AV.refs]
  | .list _ _, _ => by simp [AV.refs]
  | .np, _ => by simp [AV.refs]
  | .nm, _ => by simp [AV.refs]
  | .nf, _ => by simp [AV.refs]
  | .ns, _ => by simp [AV.refs]
  | .lptr _ _ _ _, _ => by simp [AV.refs]
  | .undef, _ => by simp [AV.refs]
  | .dead, h => by simp [AV.low] at h
theorem lowL_refs {n0 : Nat} : ∀ (cs : List AV), AV.lowL n0 cs = true → ∀ k ∈ AV.refsL cs, k < n0
  | [], _ => by simp [AV.refsL]
  | c :: cs, h => by
    simp only [AV.lowL, Bool.and_eq_true] at h
    simp only [AV.refsL, List.mem_append]
    rintro k (hk | hk)
    · exact low_refs c h.1 k hk
    · exact lowL_refs cs h.2 k hk
end
theorem lowL_in {n0 : Nat} : ∀ {xs : List AV}, AV.lowL n0 xs = true → ∀ x ∈ xs, x.low n0 = true
  | [], _, _, h => by cases h
  | y :: ys, h, x, hx => by
    simp only [AV.lowL, Bool.and_eq_true] at h
    rcases List.mem_cons.1 hx with rfl | hx
    · exact h.1
    · exact lowL_in h.2 x hx
theorem obj_low_kill {n0 : Nat} {ks : List Nat} (hk : ∀ k, k < n0 → ks.contains k = false) {o : LObj} (h : o.low n0 = true) : o.kill ks = o := by
  cases o with
  | boxT g cs => simp only [LObj.low] at h; simp only [LObj.kill, lowL_kill hk cs h]
  | row t xs => rfl
  | mpo kt vt es => rfl
  | gone => simp [LObj.low] at h
theorem obj_kill_low {n0 : Nat} {ks : List Nat} {o : LObj} (h : (o.kill ks).low n0 = true) : o.kill ks = o := by
  cases o with
  | boxT g cs => simp only [LObj.kill, LObj.low] at h; simp only [LObj.kill, killL_low cs h]
  | row t xs => rfl
  | mpo kt vt es => rfl
  | gone => rfl

theorem obj_solid_kill {ks : List Nat} {o : LObj} (h : o.solid = true) : o.kill ks = o := by
  cases o with
  | boxT g cs => simp only [LObj.solid] at h; simp only [LObj.kill, solidL_kill ks cs h]
  | row t xs => rfl
  | mpo kt vt es => rfl
  | gone => simp [LObj.solid] at h
theorem obj_kill_solid {ks : List Nat} {o : LObj} (h : (o.kill ks).solid = true) : o.kill ks = o := by
  cases o with
  | boxT g cs => simp only [LObj.kill, LObj.solid] at h; simp only [LObj.kill, killL_solid ks cs h]
  | row t xs => rfl
  | mpo kt vt es => rfl
  | gone => rfl

mutual
theorem high_kill {n0 : Nat} {ks : List Nat} (hk : ∀ k, n0 ≤ k → ks.contains k = false) : ∀ (x : AV), x.high n0 = true → x.kill ks = x
  | .agg cs, h => by simp only [AV.high] at h; simp only [AV.kill, highL_kill hk cs h]
  | .tup cs, h => by simp only [AV.high] at h; simp only [AV.kill, highL_kill hk cs h]
  | .fn g cs, h => by simp only [AV.high] at h; simp only [AV.kill, highL_kill hk cs h]
  | .rptr k t i off, h => by simp only [AV.high, Nat.ble_eq] at h; simp only [AV.kill, hk k h, cond_false]
  | .rowA k, h => by simp only [AV.high, Nat.ble_eq] at h; simp only [AV.kill, hk k h, cond_false]
  | .rowS k _ _ _, h => by simp only [AV.high, Nat.ble_eq] at h; simp only [AV.kill, hk k h, cond_false]
  | .ptr _ _, _ => by simp only [AV.kill]
  | .mp _, _ => by simp only [AV.kill]
  | .int _ _, _ => by simp only [AV.kill]
  | .bool _, _ => by simp only [AV.kill]
  | .str _, _ => by simp only [AV.kill]
  | .list _ _, _ => by simp only [AV.kill]
  | .np, _ => by simp only [AV.kill]
  | .nm, _ => by simp only [AV.kill]
  | .nf, _ => by simp only [AV.kill]
  | .ns, _ => by simp only [AV.kill]
  | .lptr _ _ _ _, _ => by simp only [AV.kill]
  | .undef, _ => by simp only [AV.kill]
  | .dead, h => by simp [AV.high] at h
theorem highL_kill {n0 : Nat} {ks : List Nat} (hk : ∀ k, n0 ≤ k → ks.contains k = false) : ∀ (cs : List AV), AV.highL n0 cs = true → AV.killL ks cs = cs
  | [], _ => by simp only [AV.killL]
  | c :: cs, h => by
    simp only [AV.highL, Bool.and_eq_true] at h
    simp only [AV.killL, high_kill hk c h.1, highL_kill hk cs h.2]
end
theorem obj_high_kill {n0 : Nat} {ks : List Nat} (hk : ∀ k, n0 ≤ k → ks.contains k = false) {o : LObj} (h : o.high n0 = true) : o.kill ks = o := by
  cases o with
  | boxT g cs => simp only [LObj.high] at h; simp only [LObj.kill, highL_kill hk cs h]
  | row t xs => rfl
  | mpo kt vt es => rfl
  | gone => simp [LObj.high] at h

/-- What a class says of an effect. -/
inductive Cl (n0 : Nat) : Option Eff → Cls → Prop where
  | skip {l : List Nat} : Cl n0 none (0, l)
  | solid {v : AV} {c : Nat} {l : List Nat} (hc : c = 0 ∨ c = 10) (hv : v.solid = true) : Cl n0 (some (.val v)) (c, l)
  | low {v : AV} {c : Nat} {l : List Nat} (hc : c = 1 ∨ c = 3) (hv : v.low n0 = true) : Cl n0 (some (.val v)) (c, l)
  | val {v : AV} {c : Nat} {l : List Nat} (hc : c = 2 ∨ c = 4) : Cl n0 (some (.val v)) (c, l)
  | new {os : List LObj} {v : AV} {l : List Nat} : Cl n0 (some (.new os v)) (5, l)
  | upd {k : Nat} {o : LObj} {v : AV} : Cl n0 (some (.upd k o v)) (6, [k])
  | app0 {k : Nat} {o : LObj} {v : AV} {l : List Nat} (hk : n0 ≤ k) : Cl n0 (some (.app k o v)) (7, l)
  | app {k : Nat} {o : LObj} {v : AV} : Cl n0 (some (.app k o v)) (8, [k])
  | call {ks : List Nat} {objs : List LObj} {vs : List AV} : Cl n0 (some (.call [] ks objs vs)) (8, ks)
  | plain {ks : List Nat} {objs : List LObj} {vs : List AV} (hne : ks ≠ []) (hl : objs.length = ks.length) (hk : ∀ k ∈ ks, k < n0) (hv : ∀ i ∈ AV.refsL vs, i < ks.length) (ho : ∀ ob ∈ objs, ∀ i ∈ ob.refs, i < ks.length) : Cl n0 (some (.call [] ks objs vs)) (11, ks)
  | alloc {os : List LObj} {v : AV} {l : List Nat} (hv : v.high n0 = true) (ho : os.all (LObj.high n0) = true) : Cl n0 (some (.new os v)) (12, l)
  | rest {e : Option Eff} {l : List Nat} : Cl n0 e (9, l)

theorem cl_of (n0 : Nat) (st : St) (o : Op) (f : Eff) : Cl n0 (some f) (classOf n0 st o f) := by
  unfold classOf
  cases f with
  | val v =>
    simp only
    cases h1 : ((blindOp o || (AV.refsL (opVals st o)).isEmpty) && (AV.solidL (opVals st o) && v.solid)) with
    | true =>
      simp only [Bool.and_eq_true] at h1
      exact .solid (.inl rfl) h1.2.2
    | false =>
      cases blindOp o with
      | true =>
        cases h2 : (AV.lowL n0 (opVals st o) && v.low n0) with
        | true =>
          simp only [Bool.and_eq_true] at h2
          exact .low (.inl rfl) h2.2
        | false => exact .val (.inl rfl)
      | false =>
        cases h2 : ((AV.lowL n0 (opVals st o) && v.low n0) && (AV.refsL (opVals st o)).all (fun k => (st.hp k).low n0)) with
        | true =>
          simp only [Bool.and_eq_true] at h2
          cases h3 : ((AV.solidL (opVals st o) && v.solid) && (AV.refsL (opVals st o)).all (fun k => (st.hp k).solid)) with
          | true =>
            simp only [Bool.and_eq_true] at h3
            exact .solid (.inr rfl) h3.1.2
          | false => exact .low (.inr rfl) h2.1.2
        | false => exact .val (.inr rfl)
  | new os v =>
    simp only
    cases h : (isAlloc o && (v.high n0 && os.all (LObj.high n0))) with
    | true =>
      simp only [Bool.and_eq_true] at h
      exact .alloc h.2.1 h.2.2
    | false => exact .new
  | upd k o v => exact .upd
  | app k o v =>
    simp only
    cases h : Nat.ble n0 k with
    | true => exact .app0 (Nat.ble_eq ▸ h)
    | false => exact .app
  | call fz ks objs vs =>
    cases fz with
    | nil =>
      cases ks with
      | nil => exact .call
      | cons k ks =>
        simp only
        cases h : plainCall n0 st o (k :: ks) objs vs with
        | true =>
          simp only [plainCall, Bool.and_eq_true, List.all_eq_true] at h
          obtain ⟨_, h1, h2, _, h3, h4⟩ := h
          exact .plain (by simp) (Nat.eq_of_beq_eq_true h1) (fun j hj => by simpa using h2 j hj) (fun i hi => by simpa using h3 i hi) (fun ob hob i hi => by simpa using h4 ob hob i hi)
        | false => exact .call
    | cons a b => exact .rest
  | frz ks os v => exact .rest

/-- A step that leaves names alone: memory, then its slot. -/
structure Neat (o : Oper) (s : St → St) (m : St → St) (v : AV) : Prop where
  eq : ∀ st, s st = (m st).putO o.dst v
  tm : ∀ st, (m st).tm = st.tm
  put : ∀ st d x, m (st.putO d x) = (m st).putO d x

theorem news_put (d : Option Nat) (x : AV) : ∀ (os : List LObj) (st : St), (st.putO d x).news os = (st.news os).putO d x
  | [], _ => rfl
  | o :: os, st => by
    simp only [St.news]
    rw [← news_put d x os]
    cases d <;> rfl

theorem neat_val (o : Oper) (v : AV) : Neat o (stepS o (some (.val v))) id v := ⟨fun _ => rfl, fun _ => rfl, fun _ _ _ => rfl⟩
theorem neat_none (o : Oper) : Neat o (stepS o none) id .undef := ⟨fun _ => rfl, fun _ => rfl, fun _ _ _ => rfl⟩
theorem neat_new (o : Oper) (os : List LObj) (v : AV) : Neat o (stepS o (some (.new os v))) (fun st => st.news os) v :=
  ⟨fun _ => rfl, fun st => news_tm os st, fun st d x => news_put d x os st⟩
theorem neat_upd (o : Oper) (k : Nat) (ob : LObj) (v : AV) : Neat o (stepS o (some (.upd k ob v))) (fun st => st.upd k ob) v :=
  ⟨fun _ => rfl, fun st => rfl, fun st d x => by cases d <;> rfl⟩

theorem put_swap (st : St) {d d' : Option Nat} (h : ∀ t, d = some t → d' ≠ some t) (x y : AV) : (st.putO d x).putO d' y = (st.putO d' y).putO d x := by
  cases d with
  | none => rfl
  | some t =>
    cases d' with
    | none => rfl
    | some t' =>
      have hne : t' ≠ t := fun e => h t rfl (by rw [e])
      simp only [St.putO, St.put]
      congr 1
      funext u
      cases h1 : u == t' with
      | false => simp
      | true =>
        have := eq_of_beq h1
        subst this
        have h2 : (u == t) = false := by simp [hne]
        simp [h2]

theorem cl_low {n0 : Nat} {o : Oper} {e : Option Eff} {c : Cls} (h : Cl n0 e c) (hc : c.1 ≤ 4 ∨ c.1 = 10) : ∃ v, Neat o (stepS o e) id v := by
  cases h with
  | skip => exact ⟨_, neat_none o⟩
  | solid _ _ => exact ⟨_, neat_val o _⟩
  | low _ _ => exact ⟨_, neat_val o _⟩
  | val _ => exact ⟨_, neat_val o _⟩
  | _ => exact absurd hc (by simp)
theorem cl_zero {n0 : Nat} {o : Oper} {e : Option Eff} {c : Cls} (h : Cl n0 e c) (hc : c.1 = 0 ∨ c.1 = 10) : ∃ v, v.solid = true ∧ ∀ st, stepS o e st = st.putO o.dst v := by
  cases h with
  | skip => exact ⟨.undef, rfl, fun _ => rfl⟩
  | solid _ hv => exact ⟨_, hv, fun _ => rfl⟩
  | low h _ => simp only at hc; omega
  | val h => simp only at hc; omega
  | _ => exact absurd hc (by simp)
theorem cl_old {n0 : Nat} {o : Oper} {e : Option Eff} {c : Cls} (h : Cl n0 e c) (hc : c.1 = 1 ∨ c.1 = 3) : ∃ v, v.low n0 = true ∧ ∀ st, stepS o e st = st.putO o.dst v := by
  cases h with
  | low _ hv => exact ⟨_, hv, fun _ => rfl⟩
  | solid h _ => simp only at hc; omega
  | val h => simp only at hc; omega
  | _ => exact absurd hc (by simp)
theorem cl_mid {n0 : Nat} {o : Oper} {e : Option Eff} {c : Cls} (h : Cl n0 e c) (hc : c.1 ≤ 6 ∨ c.1 = 12) : ∃ m v, Neat o (stepS o e) m v ∧ (c.1 ≤ 5 ∨ c.1 = 12 → ∀ st, st.nx ≤ (m st).nx ∧ ∀ k, k < st.nx → (m st).hp k = st.hp k) ∧
    (c.1 = 6 → ∀ st, (m st).nx = st.nx ∧ ∀ k, k ∉ c.2 → (m st).hp k = st.hp k) := by
  have vals : ∀ (v : AV), c.1 ≠ 6 → ∃ m v', Neat o (stepS o (some (.val v))) m v' ∧ (c.1 ≤ 5 ∨ c.1 = 12 → ∀ st, st.nx ≤ (m st).nx ∧ ∀ k, k < st.nx → (m st).hp k = st.hp k) ∧
      (c.1 = 6 → ∀ st, (m st).nx = st.nx ∧ ∀ k, k ∉ c.2 → (m st).hp k = st.hp k) := fun v h6 => ⟨_, v, neat_val o v, fun _ st => ⟨Nat.le_refl _, fun _ _ => rfl⟩, fun h => absurd h h6⟩
  cases h with
  | skip => exact ⟨_, _, neat_none o, fun _ st => ⟨Nat.le_refl _, fun _ _ => rfl⟩, fun h => by simp at h⟩
  | solid h _ => exact vals _ (by simp only; omega)
  | low h _ => exact vals _ (by simp only; omega)
  | val h => exact vals _ (by simp only; omega)
  | new => exact ⟨_, _, neat_new o _ _, fun _ st => ⟨by rw [news_nx]; omega, fun k hk => news_old _ st k hk⟩, fun h => by simp at h⟩
  | alloc _ _ => exact ⟨_, _, neat_new o _ _, fun _ st => ⟨by rw [news_nx]; omega, fun k hk => news_old _ st k hk⟩, fun h => by simp at h⟩
  | @upd k ob v =>
    refine ⟨_, v, neat_upd o k ob v, fun hc => by simp at hc, fun _ st => ⟨rfl, fun j hj => ?_⟩⟩
    have : (j == k) = false := by simpa using hj
    simp [St.upd, this]
  | _ => exact absurd hc (by simp)

theorem put_other {o : Oper} (s : St) (v : AV) (t : Nat) (ht : ∀ d, o.dst = some d → t ≠ d) : (s.putO o.dst v).tm t = s.tm t := by
  cases hdst : o.dst with
  | none => rfl
  | some d =>
    have : (t == d) = false := by simp [ht d hdst]
    simp [St.putO, St.put, this]
theorem put_hp (s : St) (d : Option Nat) (v : AV) : (s.putO d v).hp = s.hp := by cases d <;> rfl
theorem put_nx (s : St) (d : Option Nat) (v : AV) : (s.putO d v).nx = s.nx := by cases d <;> rfl

/-- A row grows: its name is lost elsewhere. -/
theorem app_step {o : Oper} (k : Nat) (ob : LObj) (v : AV) : (∀ st t, (∀ d, o.dst = some d → t ≠ d) → (stepS o (some (.app k ob v)) st).tm t = (st.tm t).kill [k]) ∧
    (∀ st d x, x.kill [k] = x → (∀ t, d = some t → o.dst ≠ some t) → stepS o (some (.app k ob v)) (st.putO d x) = (stepS o (some (.app k ob v)) st).putO d x) ∧
    (∀ st j, j ≠ k → (stepS o (some (.app k ob v)) st).hp j = (st.hp j).kill [k]) ∧ ∀ st, (stepS o (some (.app k ob v)) st).nx = st.nx := by
  refine ⟨fun st t ht => ?_, fun st d x hx hd => ?_, fun st j hj => ?_, fun st => ?_⟩
  · simp only [stepS, St.apply]
    rw [put_other _ _ t ht]
    rfl
  · simp only [stepS, St.apply]
    rw [← put_swap _ hd]
    congr 1
    cases d with
    | none => rfl
    | some t =>
      simp only [St.putO, St.put, St.kill, St.upd]
      congr 1
      funext u
      cases u == t with
      | true => simp [hx]
      | false => rfl
  · simp only [stepS, St.apply, put_hp]
    have : (j == k) = false := by simp [hj]
    simp [St.upd, St.kill, this]
  · simp only [stepS, St.apply, put_nx]
    rfl
theorem cl_new {n0 : Nat} {o : Oper} {e : Option Eff} {c : Cls} (h : Cl n0 e c) (hc : c.1 = 7) : ∃ k ob v, e = some (.app k ob v) ∧ n0 ≤ k := by
  cases h with
  | app0 hk => exact ⟨_, _, _, rfl, hk⟩
  | solid h _ => simp only at hc; omega
  | low h _ => simp only at hc; omega
  | val h => simp only at hc; omega
  | _ => exact absurd hc (by simp)

/-- A step behind which a name of a row may be lost. -/
theorem cl_kill {n0 : Nat} {o : Oper} {e : Option Eff} {c : Cls} (h : Cl n0 e c) (hc : c.1 = 8 ∨ c.1 = 11) : (∀ st t, (∀ d, o.dst = some d → t ≠ d) → ∃ ks, (stepS o e st).tm t = (st.tm t).kill ks) ∧
    (∀ st d x, x.solid = true → (∀ t, d = some t → o.dst ≠ some t) → stepS o e (st.putO d x) = (stepS o e st).putO d x) ∧
    (∀ st, st.nx ≤ (stepS o e st).nx ∧ ∀ j, j < st.nx → j ∉ c.2 → ∃ ks, (stepS o e st).hp j = (st.hp j).kill ks) ∧ (c.1 = 11 → ∀ st, (stepS o e st).nx = st.nx) := by
  have knil : ∀ (ob : LObj), ob.kill [] = ob := fun ob => by
    cases ob with
    | boxT g cs => simp only [LObj.kill, killL_nil]
    | row t xs => rfl
    | mpo kt vt es => rfl
    | gone => rfl
  have calls : ∀ (ks : List Nat) (objs : List LObj) (vs : List AV), (∀ st t, (∀ d, o.dst = some d → t ≠ d) → ∃ ks', (stepS o (some (.call [] ks objs vs)) st).tm t = (st.tm t).kill ks') ∧
      (∀ st d x, x.solid = true → (∀ t, d = some t → o.dst ≠ some t) → stepS o (some (.call [] ks objs vs)) (st.putO d x) = (stepS o (some (.call [] ks objs vs)) st).putO d x) ∧
      (∀ st, st.nx ≤ (stepS o (some (.call [] ks objs vs)) st).nx ∧ ∀ j, j < st.nx → j ∉ ks → ∃ ks', (stepS o (some (.call [] ks objs vs)) st).hp j = (st.hp j).kill ks') := fun ks objs vs => by
    refine ⟨fun st t ht => ?_, fun st d x hx hd => ?_, fun st => ⟨?_, fun j hjn hj => ?_⟩⟩
    · simp only [stepS, St.apply]
      cases ks with
      | nil =>
        refine ⟨[], ?_⟩
        rw [put_other _ _ t ht, news_tm]
        exact (kill_nil _).symm
      | cons k ks =>
        refine ⟨rowsOf st.hp (k :: ks), ?_⟩
        rw [put_other _ _ t ht, news_tm]
    · simp only [stepS, St.apply]
      cases ks with
      | nil =>
        rw [put_nx, news_put]
        exact put_swap _ (fun t ht => hd t ht) _ _
      | cons k ks =>
        rw [put_nx, put_hp, ← put_swap _ hd]
        congr 1
        rw [← news_put]
        congr 1
        cases d with
        | none => rfl
        | some t =>
          simp only [St.putO, St.put]
          congr 1
          funext u
          cases u == t with
          | true => simp [solid_kill _ x hx]
          | false => rfl
    · simp only [stepS, St.apply, put_nx, news_nx]
      cases ks <;> exact Nat.le_add_right _ _
    · simp only [stepS, St.apply, put_hp]
      cases ks with
      | nil =>
        refine ⟨[], ?_⟩
        rw [news_old _ _ _ hjn, knil]
      | cons k ks =>
        refine ⟨rowsOf st.hp (k :: ks), ?_⟩
        rw [news_old _ _ _ (by exact hjn)]
        have : posIn j (k :: ks) 0 = none := by
          cases hp : posIn j (k :: ks) 0 with
          | none => rfl
          | some i =>
            obtain ⟨_, h2⟩ := posIn_some hp
            exact absurd (List.mem_of_getElem? h2) hj
        simp only [this]
  cases h with
  | @app k ob v =>
    obtain ⟨h1, h2, h3, h4⟩ := app_step (o := o) k ob v
    refine ⟨fun st t ht => ⟨[k], h1 st t ht⟩, fun st d x hx hd => h2 st d x (solid_kill _ x hx) hd, fun st => ⟨by rw [h4]; exact Nat.le_refl _, fun j _ hj => ⟨[k], h3 st j ?_⟩⟩, fun h => by simp at h⟩
    simpa using hj
  | @call ks objs vs =>
    obtain ⟨h1, h2, h3⟩ := calls ks objs vs
    exact ⟨h1, h2, h3, fun h => by simp at h⟩
  | @plain ks objs vs hne hl hk hv ho =>
    obtain ⟨h1, h2, h3⟩ := calls ks objs vs
    refine ⟨h1, h2, h3, fun _ st => ?_⟩
    simp only [stepS, St.apply, put_nx, news_nx]
    rw [List.drop_of_length_le (by omega)]
    cases ks <;> rfl
  | solid h _ => simp only at hc; omega
  | low h _ => simp only at hc; omega
  | val h => simp only at hc; omega
  | _ => exact absurd hc (by simp)

mutual
theorem ren_same {f g : Nat → Option Nat} : ∀ (x : AV), (∀ k ∈ x.refs, f k = g k) → x.ren f = x.ren g
  | .agg cs, h => by simp only [AV.refs] at h; simp only [AV.ren, renL_same cs h]
  | .tup cs, h => by simp only [AV.refs] at h; simp only [AV.ren, renL_same cs h]
  | .fn _ cs, h => by simp only [AV.refs] at h; simp only [AV.ren, renL_same cs h]
  | .ptr k _, h => by simp only [AV.ren, h k (by simp [AV.refs])]
  | .rptr k _ _ _, h => by simp only [AV.ren, h k (by simp [AV.refs])]
  | .rowA k, h => by simp only [AV.ren, h k (by simp [AV.refs])]
  | .rowS k _ _ _, h => by simp only [AV.ren, h k (by simp [AV.refs])]
  | .mp k, h => by simp only [AV.ren, h k (by simp [AV.refs])]
  | .int _ _, _ => by simp only [AV.ren]
  | .bool _, _ => by simp only [AV.ren]
  | .str _, _ => by simp only [AV.ren]
  | .list _ _, _ => by simp only [AV.ren]
  | .np, _ => by simp only [AV.ren]
  | .nm, _ => by simp only [AV.ren]
  | .nf, _ => by simp only [AV.ren]
  | .ns, _ => by simp only [AV.ren]
  | .lptr _ _ _ _, _ => by simp only [AV.ren]
  | .undef, _ => by simp only [AV.ren]
  | .dead, _ => by simp only [AV.ren]
theorem renL_same {f g : Nat → Option Nat} : ∀ (cs : List AV), (∀ k ∈ AV.refsL cs, f k = g k) → AV.renL f cs = AV.renL g cs
  | [], _ => by simp only [AV.renL]
  | c :: cs, h => by
    simp only [AV.refsL, List.mem_append] at h
    simp only [AV.renL, ren_same c (fun k hk => h k (.inl hk)), renL_same cs (fun k hk => h k (.inr hk))]
end
theorem oren_same {f g : Nat → Option Nat} {o : LObj} (h : ∀ k ∈ o.refs, f k = g k) : o.ren f = o.ren g := by
  cases o with
  | boxT g cs => simp only [LObj.refs] at h; simp only [LObj.ren, renL_same cs h]
  | row t xs => rfl
  | mpo kt vt es => rfl
  | gone => rfl
theorem backName_lt {ks : List Nat} {nx nx' i : Nat} (h : i < ks.length) : backName ks nx i = backName ks nx' i := by
  unfold backName
  have : Nat.blt i ks.length = true := by simpa using h
  rw [this]
  rfl
theorem ofHp_mem {os : List LObj} {i : Nat} : ofHp os i = .gone ∨ ofHp os i ∈ os := by
  rw [ofHp_get]
  cases h : os[i]? with
  | none => exact .inl rfl
  | some o => exact .inr (List.mem_of_getElem? h)
theorem rows_sub {hp : Nat → LObj} : ∀ {ks : List Nat} {k : Nat}, k ∈ rowsOf hp ks → k ∈ ks
  | [], _, h => by simp [rowsOf] at h
  | x :: xs, k, h => by
    simp only [rowsOf] at h
    split at h
    · rcases List.mem_cons.1 h with rfl | h
      · simp
      · exact List.mem_cons_of_mem _ (rows_sub h)
    · exact List.mem_cons_of_mem _ (rows_sub h)

theorem neat_swap {o o' : Oper} {s s' m : St → St} {v v' : AV} (h : Neat o s id v) (h' : Neat o' s' m v') (hd : ∀ t, o.dst = some t → o'.dst ≠ some t) (st : St) : s' (s st) = s (s' st) := by
  rw [h.eq st, h'.eq, h.eq, h'.eq st]
  simp only [id]
  rw [h'.put]
  exact put_swap _ hd _ _

theorem apartN_spec {xs ys : List Nat} (h : apartN xs ys = true) : ∀ k, k ∈ xs → k ∉ ys := fun k hx hy => by
  have := List.all_eq_true.1 (List.all_eq_true.1 h k hx) k hy
  simp at this
theorem meet1_spec {x y : Cls} (h : meet1 x y = true) : ((x.1 ≤ 4 ∨ x.1 = 10) ∧ (y.1 ≤ 4 ∨ y.1 = 10)) ∨ ((x.1 ≤ 3 ∨ x.1 = 10) ∧ (y.1 = 5 ∨ y.1 = 12)) ∨ ((x.1 ≤ 2 ∨ ((x.1 = 3 ∨ x.1 = 10) ∧ ∀ k, k ∈ x.2 → k ∉ y.2)) ∧ y.1 = 6) ∨ ((x.1 ≤ 1 ∨ x.1 = 3 ∨ x.1 = 10) ∧ y.1 = 7) ∨
    ((x.1 = 0 ∨ (x.1 = 10 ∧ ∀ k, k ∈ x.2 → k ∉ y.2)) ∧ (y.1 = 8 ∨ y.1 = 11)) ∨ (x.1 = 11 ∧ y.1 = 12) := by
  unfold meet1 valC at h
  simp only [Bool.or_eq_true, Bool.and_eq_true, Nat.ble_eq] at h
  have e : ∀ {a b : Nat}, Nat.beq a b = true → a = b := fun h => Nat.eq_of_beq_eq_true h
  rcases h with ((((h | h) | h) | h) | h) | h
  · exact .inl ⟨h.1.imp id e, h.2.imp id e⟩
  · exact .inr (.inl ⟨h.1.imp id e, h.2.imp e e⟩)
  · exact .inr (.inr (.inl ⟨h.1.imp id (fun h => ⟨h.1.imp e e, apartN_spec h.2⟩), e h.2⟩))
  · exact .inr (.inr (.inr (.inl ⟨h.1.imp id (fun h => h.imp e e), e h.2⟩)))
  · exact .inr (.inr (.inr (.inr (.inl ⟨h.1.imp e (fun h => ⟨e h.1, apartN_spec h.2⟩), h.2.imp e e⟩))))
  · exact .inr (.inr (.inr (.inr (.inr ⟨e h.1, e h.2⟩))))
theorem meet_comm (x y : Cls) : meet x y = meet y x := Bool.or_comm _ _
theorem meet_spec {x y : Cls} (h : meet x y = true) : meet1 x y = true ∨ meet1 y x = true := by
  unfold meet at h
  rwa [Bool.or_eq_true] at h

theorem one_off {n0 k : Nat} (hk : n0 ≤ k) : ∀ j, j < n0 → [k].contains j = false := fun j hj => by
  simp only [List.contains_cons, List.contains_nil, Bool.or_false, beq_eq_false_iff_ne]
  omega

def coreS (R ks : List Nat) (g : Nat → LObj) (s : St) : St := { s with tm := fun t => (s.tm t).kill R, hp := fun k => match posIn k ks 0 with | some i => g i | none => (s.hp k).kill R }
theorem core_new {R ks : List Nat} {g : Nat → LObj} {s : St} {ob : LObj} (hpos : posIn s.nx ks 0 = none) (hob : ob.kill R = ob) : (coreS R ks g s).new ob = coreS R ks g (s.new ob) := by
  unfold coreS St.new
  simp only
  congr 1
  funext k
  cases hk : k == s.nx with
  | true =>
    have := eq_of_beq hk
    subst this
    simp only [cond_true, hpos, hob]
  | false => simp only [cond_false]
theorem core_news {R ks : List Nat} {g : Nat → LObj} : ∀ (os : List LObj) (s : St), (∀ j, s.nx ≤ j → posIn j ks 0 = none) → (∀ ob ∈ os, ob.kill R = ob) → (coreS R ks g s).news os = coreS R ks g (s.news os)
  | [], _, _, _ => rfl
  | ob :: os, s, hpos, hob => by
    simp only [St.news]
    rw [core_new (hpos _ (Nat.le_refl _)) (hob ob (by simp))]
    exact core_news os (s.new ob) (fun j hj => hpos j (by simp [St.new] at hj; omega)) (fun x hx => hob x (by simp [hx]))
theorem core_put {R ks : List Nat} {g : Nat → LObj} {s : St} {d : Option Nat} {x : AV} (hx : x.kill R = x) : coreS R ks g (s.putO d x) = (coreS R ks g s).putO d x := by
  cases d with
  | none => rfl
  | some t =>
    unfold coreS
    simp only [St.putO, St.put]
    congr 1
    funext u
    cases u == t with
    | true => simp [hx]
    | false => rfl

/-- A call that makes no objects, beside new ones. -/
theorem plain_alloc {n0 : Nat} {o o' : Oper} {ks : List Nat} {objs : List LObj} {vs : List AV} {os : List LObj} {v : AV} (hl : objs.length = ks.length) (hk : ∀ k ∈ ks, k < n0) (hv : ∀ i ∈ AV.refsL vs, i < ks.length) (ho : ∀ ob ∈ objs, ∀ i ∈ ob.refs, i < ks.length) (hne : ks ≠ [])
    (hv' : v.high n0 = true) (ho' : os.all (LObj.high n0) = true) (hd : ∀ t, o.dst = some t → o'.dst ≠ some t) (st : St) (hn : n0 ≤ st.nx) :
    stepS o' (some (.new os v)) (stepS o (some (.call [] ks objs vs)) st) = stepS o (some (.call [] ks objs vs)) (stepS o' (some (.new os v)) st) := by
  obtain ⟨k0, ks0, rfl⟩ := List.exists_cons_of_ne_nil hne
  have hdrop : objs.drop (k0 :: ks0).length = [] := List.drop_of_length_le (by omega)
  have hoff : ∀ (R : List Nat), (∀ k ∈ R, k ∈ k0 :: ks0) → ∀ k, n0 ≤ k → R.contains k = false := fun R hR k hkn => by
    cases hc : R.contains k with
    | false => rfl
    | true =>
      have := hk k (hR k (by simpa using hc))
      omega
  have hrows : rowsOf ((st.news os).putO o'.dst v).hp (k0 :: ks0) = rowsOf st.hp (k0 :: ks0) := rows_near _ fun k hkk => by rw [put_hp]; exact news_old os st k (by have := hk k hkk; omega)
  have hpos : ∀ j, st.nx ≤ j → posIn j (k0 :: ks0) 0 = none := fun j hj => by
    cases hp : posIn j (k0 :: ks0) 0 with
    | none => rfl
    | some i =>
      obtain ⟨_, h2⟩ := posIn_some hp
      have := hk j (List.mem_of_getElem? h2)
      omega
  have hvs : ∀ nx nx', AV.renL (backName (k0 :: ks0) nx) vs = AV.renL (backName (k0 :: ks0) nx') vs := fun nx nx' => renL_same vs fun i hi => backName_lt (hv i hi)
  have hob : ∀ nx nx', (fun i => (ofHp objs i).ren (backName (k0 :: ks0) nx)) = (fun i => (ofHp objs i).ren (backName (k0 :: ks0) nx')) := fun nx nx' => by
    funext i
    rcases ofHp_mem (os := objs) (i := i) with h | h
    · rw [h]; rfl
    · exact oren_same fun j hj => backName_lt (ho _ h j hj)
  have hstep : ∀ s : St, stepS o (some (.call [] (k0 :: ks0) objs vs)) s = (coreS (rowsOf s.hp (k0 :: ks0)) (k0 :: ks0) (fun i => (ofHp objs i).ren (backName (k0 :: ks0) s.nx)) s).putO o.dst (tupled (AV.renL (backName (k0 :: ks0) s.nx) vs)) := fun s => by
    simp only [stepS, St.apply, hdrop, List.map_nil, St.news]
    rfl
  have hR := hoff (rowsOf st.hp (k0 :: ks0)) fun k h => rows_sub h
  have hnew : ∀ s : St, stepS o' (some (.new os v)) s = (s.news os).putO o'.dst v := fun _ => rfl
  rw [hstep, hstep, hnew, hnew, hrows, hvs ((st.news os).putO o'.dst v).nx st.nx, hob ((st.news os).putO o'.dst v).nx st.nx, news_put, core_news os st hpos (fun ob h => obj_high_kill hR (List.all_eq_true.1 ho' ob h)), core_put (high_kill hR v hv')]
  exact put_swap _ hd _ _

theorem step_swap1 {n0 : Nat} {o o' : Oper} {e e' : Option Eff} {c c' : Cls} (h : Cl n0 e c) (h' : Cl n0 e' c') (hm : meet1 c c' = true) (hd : ∀ t, o.dst = some t → o'.dst ≠ some t) (st : St) (hn : n0 ≤ st.nx) :
    stepS o' e' (stepS o e st) = stepS o e (stepS o' e' st) := by
  have lo : (c.1 ≤ 4 ∨ c.1 = 10) → c'.1 ≤ 6 ∨ c'.1 = 12 → stepS o' e' (stepS o e st) = stepS o e (stepS o' e' st) := fun h1 h2 => by
    obtain ⟨v, n⟩ := cl_low (o := o) h h1
    obtain ⟨m, v', n', _⟩ := cl_mid (o := o') h' h2
    exact neat_swap n n' hd st
  rcases meet1_spec hm with ⟨h1, h2⟩ | ⟨h1, h2⟩ | ⟨h1, h2⟩ | ⟨h1, h2⟩ | ⟨h1, h2⟩ | ⟨h1, h2⟩
  · obtain ⟨v, n⟩ := cl_low (o := o) h h1
    obtain ⟨v', n'⟩ := cl_low (o := o') h' h2
    exact neat_swap n n' hd st
  · exact lo (by omega) (by omega)
  · exact lo (by rcases h1 with h1 | h1 <;> omega) (by omega)
  · obtain ⟨k, ob, v', rfl, hk⟩ := cl_new (o := o') h' h2
    have key : ∃ v, v.kill [k] = v ∧ ∀ st, stepS o e st = st.putO o.dst v := by
      by_cases h0 : c.1 = 0 ∨ c.1 = 10
      · obtain ⟨v, hv, he⟩ := cl_zero (o := o) h h0
        exact ⟨v, solid_kill _ v hv, he⟩
      · obtain ⟨v, hv, he⟩ := cl_old (o := o) h (by omega)
        exact ⟨v, low_kill (one_off hk) v hv, he⟩
    obtain ⟨v, hv, he⟩ := key
    rw [he st, he, (app_step (o := o') k ob v').2.1 st o.dst v hv hd]
  · obtain ⟨v, hv, he⟩ := cl_zero (o := o) h (h1.imp id fun h => h.1)
    rw [he st, he, (cl_kill (o := o') h' h2).2.1 st o.dst v hv hd]
  · cases h with
    | @plain ks objs vs hne hl hk hv ho =>
      cases h' with
      | @alloc os v l hv' ho' => exact plain_alloc hl hk hv ho hne hv' ho' hd st hn
      | solid h _ => simp only at h2; omega
      | low h _ => simp only at h2; omega
      | val h => simp only at h2; omega
      | _ => exact absurd h2 (by simp)
    | solid h _ => simp only at h1; omega
    | low h _ => simp only at h1; omega
    | val h => simp only at h1; omega
    | _ => exact absurd h1 (by simp)

theorem step_swap {n0 : Nat} {o o' : Oper} {e e' : Option Eff} {c c' : Cls} (h : Cl n0 e c) (h' : Cl n0 e' c') (hm : meet c c' = true) (hd : ∀ t, o.dst = some t → o'.dst ≠ some t) (st : St) (hn : n0 ≤ st.nx) :
    stepS o' e' (stepS o e st) = stepS o e (stepS o' e' st) := by
  rcases meet_spec hm with hm | hm
  · exact step_swap1 h h' hm hd st hn
  · exact (step_swap1 h' h hm (fun t ht he => hd t he ht) st hn).symm

/-- What an operation of a class may see of a state that goes on. -/
structure Obs (n0 : Nat) (o : Oper) (ops : Array Oper) (c : Cls) (st st' : St) : Prop where
  zero : ∀ t ∈ o.looksAt ops, (st.tm t).solid = true ∨ (st'.tm t).solid = true → st'.tm t = st.tm t
  old : c.1 = 1 ∨ c.1 = 3 → ∀ t ∈ o.looksAt ops, (st.tm t).low n0 = true ∨ (st'.tm t).low n0 = true → st'.tm t = st.tm t
  one : c.1 = 2 ∨ (4 ≤ c.1 ∧ c.1 ≠ 10 ∧ c.1 ≠ 12) → ∀ t ∈ o.looksAt ops, st'.tm t = st.tm t
  two : c.1 = 3 → n0 ≤ st.nx → n0 ≤ st'.nx ∧ ∀ k, k < n0 → k ∈ c.2 → (st.hp k).low n0 = true ∨ (st'.hp k).low n0 = true → st'.hp k = st.hp k
  ten : c.1 = 10 → n0 ≤ st.nx → n0 ≤ st'.nx ∧ ∀ k, k < n0 → k ∈ c.2 → (st.hp k).solid = true ∨ (st'.hp k).solid = true → st'.hp k = st.hp k
  eleven : c.1 = 11 → n0 ≤ st.nx → n0 ≤ st'.nx ∧ ∀ k, k < n0 → st'.hp k = st.hp k
  twelve : c.1 = 12 → st'.nx = st.nx
  three : 4 ≤ c.1 ∧ c.1 ≠ 10 ∧ c.1 ≠ 11 ∧ c.1 ≠ 12 → st'.hp = st.hp ∧ st'.nx = st.nx

theorem obs_refl {n0 : Nat} {o : Oper} {ops : Array Oper} {c : Cls} (st : St) : Obs n0 o ops c st st := ⟨fun _ _ _ => rfl, fun _ _ _ _ => rfl, fun _ _ _ => rfl, fun _ h => ⟨h, fun _ _ _ _ => rfl⟩, fun _ h => ⟨h, fun _ _ _ _ => rfl⟩, fun _ h => ⟨h, fun _ _ => rfl⟩, fun _ => rfl, fun _ => ⟨rfl, rfl⟩⟩
theorem between {α : Type} {p : α → Bool} {x y z : α} (h1 : p x = true ∨ p y = true → y = x) (h2 : p y = true ∨ p z = true → z = y) (hs : p x = true ∨ p z = true) : z = x := by
  rcases hs with hs | hs
  · have e1 := h1 (.inl hs)
    rw [h2 (.inl (e1 ▸ hs)), e1]
  · have e2 := h2 (.inr hs)
    rw [e2, h1 (.inr (e2 ▸ hs))]
theorem obs_trans {n0 : Nat} {o : Oper} {ops : Array Oper} {c : Cls} (st st' st'' : St) (h1 : Obs n0 o ops c st st') (h2 : Obs n0 o ops c st' st'') : Obs n0 o ops c st st'' := by
  refine ⟨fun t ht hs => between (p := AV.solid) (h1.zero t ht) (h2.zero t ht) hs, fun hc t ht hs => between (p := AV.low n0) (h1.old hc t ht) (h2.old hc t ht) hs, fun hc t ht => (h2.one hc t ht).trans (h1.one hc t ht), fun hc hn => ?_, fun hc hn => ?_, fun hc hn => ?_, fun hc => (h2.twelve hc).trans (h1.twelve hc),
    fun hc => ⟨(h2.three hc).1.trans (h1.three hc).1, (h2.three hc).2.trans (h1.three hc).2⟩⟩
  · obtain ⟨a, b⟩ := h1.two hc hn
    obtain ⟨a', b'⟩ := h2.two hc a
    exact ⟨a', fun k hk hm hs => between (p := LObj.low n0) (b k hk hm) (b' k hk hm) hs⟩
  · obtain ⟨a, b⟩ := h1.ten hc hn
    obtain ⟨a', b'⟩ := h2.ten hc a
    exact ⟨a', fun k hk hm hs => between (p := LObj.solid) (b k hk hm) (b' k hk hm) hs⟩
  · obtain ⟨a, b⟩ := h1.eleven hc hn
    obtain ⟨a', b'⟩ := h2.eleven hc a
    exact ⟨a', fun k hk => (b' k hk).trans (b k hk)⟩

theorem obs_step {n0 : Nat} {o o' : Oper} {ops : Array Oper} {e' : Option Eff} {c c' : Cls} (h' : Cl n0 e' c') (hm : meet c c' = true) (hd : ∀ d, o'.dst = some d → d ∉ o.looksAt ops) (st : St) :
    Obs n0 o ops c st (stepS o' e' st) := by
  have hne : ∀ t ∈ o.looksAt ops, ∀ d, o'.dst = some d → t ≠ d := fun t ht d hdd e => hd d hdd (e ▸ ht)
  have hput : ∀ (s : St) (v : AV) (t : Nat), t ∈ o.looksAt ops → (s.putO o'.dst v).tm t = s.tm t := fun s v t ht => put_other s v t (hne t ht)
  have low : (c'.1 ≤ 4 ∨ c'.1 = 10) → Obs n0 o ops c st (stepS o' e' st) := fun h2 => by
    obtain ⟨v', n'⟩ := cl_low (o := o') h' h2
    rw [n'.eq st]
    have hh : ((id st).putO o'.dst v').hp = st.hp := put_hp _ _ _
    have hn : ((id st).putO o'.dst v').nx = st.nx := put_nx _ _ _
    refine ⟨fun t ht _ => hput _ _ t ht, fun _ t ht _ => hput _ _ t ht, fun _ t ht => hput _ _ t ht, fun _ h => ?_, fun _ h => ?_, fun _ h => ?_, fun _ => hn, fun _ => ⟨hh, hn⟩⟩
    · rw [hn, hh]
      exact ⟨h, fun _ _ _ _ => rfl⟩
    · rw [hn, hh]
      exact ⟨h, fun _ _ _ _ => rfl⟩
    · rw [hn, hh]
      exact ⟨h, fun _ _ => rfl⟩
  have news : (c.1 ≤ 3 ∨ c.1 = 10 ∨ c.1 = 11) → (c'.1 = 5 ∨ c'.1 = 12) → Obs n0 o ops c st (stepS o' e' st) := fun h1 h2 => by
    obtain ⟨m, v', n', hg, _⟩ := cl_mid (o := o') h' (by omega)
    rw [n'.eq st]
    have ht' : ∀ t ∈ o.looksAt ops, ((m st).putO o'.dst v').tm t = st.tm t := fun t ht => by rw [hput _ _ t ht, n'.tm]
    obtain ⟨g1, g2⟩ := hg (by omega) st
    refine ⟨fun t ht _ => ht' t ht, fun _ t ht _ => ht' t ht, fun _ => ht', fun _ hn => ?_, fun _ hn => ?_, fun _ hn => ?_, fun hc => by omega, fun hc => by omega⟩
    · rw [put_hp, put_nx]
      exact ⟨by omega, fun k hk _ _ => g2 k (by omega)⟩
    · rw [put_hp, put_nx]
      exact ⟨by omega, fun k hk _ _ => g2 k (by omega)⟩
    · rw [put_hp, put_nx]
      exact ⟨by omega, fun k hk => g2 k (by omega)⟩
  rcases meet_spec hm with hm | hm <;> rcases meet1_spec hm with ⟨h1, h2⟩ | ⟨h1, h2⟩ | ⟨h1, h2⟩ | ⟨h1, h2⟩ | ⟨h1, h2⟩ | ⟨h1, h2⟩
  · exact low h2
  · exact news (by omega) h2
  · obtain ⟨m, v', n', _, hg⟩ := cl_mid (o := o') h' (by omega)
    rw [n'.eq st]
    have ht' : ∀ t ∈ o.looksAt ops, ((m st).putO o'.dst v').tm t = st.tm t := fun t ht => by rw [hput _ _ t ht, n'.tm]
    obtain ⟨g1, g2⟩ := hg h2 st
    have h6 : c.1 ≤ 3 ∨ c.1 = 10 := by rcases h1 with h1 | h1 <;> omega
    refine ⟨fun t ht _ => ht' t ht, fun _ t ht _ => ht' t ht, fun _ => ht', fun hc hn => ?_, fun hc hn => ?_, fun hc => by omega, fun hc => by omega, fun hc => by omega⟩ <;>
    · rw [put_hp, put_nx]
      refine ⟨by omega, fun k hk hkm _ => g2 k ?_⟩
      rcases h1 with h1 | h1
      · omega
      · exact h1.2 k hkm
  · obtain ⟨k, ob, v', rfl, hk⟩ := cl_new (o := o') h' h2
    obtain ⟨a1, _, a3, a4⟩ := app_step (o := o') k ob v'
    refine ⟨fun t ht hs => ?_, fun _ t ht hs => ?_, fun hc => by omega, fun hc hn => ⟨by rw [a4]; exact hn, fun j hj _ hs => ?_⟩, fun hc hn => ⟨by rw [a4]; exact hn, fun j hj _ hs => ?_⟩, fun hc => by omega, fun hc => by omega, fun hc => by omega⟩
    · rw [a1 st t (hne t ht)] at hs ⊢
      exact hs.elim (fun hs => solid_kill _ _ hs) (fun hs => kill_solid _ _ hs)
    · rw [a1 st t (hne t ht)] at hs ⊢
      exact hs.elim (fun hs => low_kill (one_off hk) _ hs) (fun hs => kill_low _ hs)
    · rw [a3 st j (by omega)] at hs ⊢
      exact hs.elim (fun hs => obj_low_kill (one_off hk) hs) (fun hs => obj_kill_low hs)
    · rw [a3 st j (by omega)] at hs ⊢
      exact hs.elim (fun hs => obj_solid_kill hs) (fun hs => obj_kill_solid hs)
  · obtain ⟨k1, _, k3, _⟩ := cl_kill (o := o') h' h2
    obtain ⟨k4, k5⟩ := k3 st
    have h6 : c.1 = 0 ∨ c.1 = 10 := h1.imp id fun h => h.1
    refine ⟨fun t ht hs => ?_, fun hc => by omega, fun hc => by omega, fun hc => by omega, fun hc hn => ⟨by omega, fun j hj hjm hs => ?_⟩, fun hc => by omega, fun hc => by omega, fun hc => by omega⟩
    · obtain ⟨ks, hk⟩ := k1 st t (hne t ht)
      rw [hk] at hs ⊢
      exact hs.elim (fun hs => solid_kill ks _ hs) (fun hs => kill_solid ks _ hs)
    · have hap : j ∉ c'.2 := by
        rcases h1 with h1 | h1
        · omega
        · exact h1.2 j hjm
      obtain ⟨ks, hk⟩ := k5 j (by omega) hap
      rw [hk] at hs ⊢
      exact hs.elim (fun hs => obj_solid_kill hs) (fun hs => obj_kill_solid hs)
  · exact news (by omega) (by omega)
  · exact low h1
  · exact low (by omega)
  · exact low (by rcases h1 with h1 | h1 <;> omega)
  · exact low (by omega)
  · exact low (by rcases h1 with h1 | h1 <;> omega)
  · obtain ⟨k1, _, k3, k4⟩ := cl_kill (o := o') h' (.inr h1)
    refine ⟨fun t ht hs => ?_, fun hc => by omega, fun hc => by omega, fun hc => by omega, fun hc => by omega, fun hc => by omega, fun _ => k4 h1 st, fun hc => by omega⟩
    obtain ⟨ks, hk⟩ := k1 st t (hne t ht)
    rw [hk] at hs ⊢
    exact hs.elim (fun hs => solid_kill ks _ hs) (fun hs => kill_solid ks _ hs)

/-- Two states that go on from one. -/
theorem obs_same {n0 : Nat} {o : Oper} {ops : Array Oper} {c : Cls} {st s s' : St} (h : Obs n0 o ops c st s) (h' : Obs n0 o ops c st s') {t : Nat} (ht : t ∈ o.looksAt ops) (hs : (s.tm t).solid = true) : s'.tm t = s.tm t := by
  have e1 := h.zero t ht (.inr hs)
  rw [h'.zero t ht (.inl (e1 ▸ hs)), e1]
theorem obs_same_old {n0 : Nat} {o : Oper} {ops : Array Oper} {c : Cls} {st s s' : St} (hc : c.1 = 1 ∨ c.1 = 3) (h : Obs n0 o ops c st s) (h' : Obs n0 o ops c st s') {t : Nat} (ht : t ∈ o.looksAt ops) (hs : (s.tm t).low n0 = true) : s'.tm t = s.tm t := by
  have e1 := h.old hc t ht (.inr hs)
  rw [h'.old hc t ht (.inl (e1 ▸ hs)), e1]

theorem obs_gate {n0 : Nat} {o : Oper} {ops : Array Oper} {c : Cls} {st s s' : St} (h : Obs n0 o ops c st s) (h' : Obs n0 o ops c st s') {b : Bool} (hb : gateB ops.toList o s = some b) : gateB ops.toList o s' = some b := by
  unfold gateB at hb ⊢
  cases hg : o.guard with
  | none => rw [hg] at hb; exact hb
  | some g =>
    obtain ⟨j, want⟩ := g
    rw [hg] at hb
    simp only at hb ⊢
    cases hd : dstOf ops.toList j with
    | none => rw [hd] at hb; exact hb
    | some t =>
      rw [hd] at hb
      simp only at hb ⊢
      have hl : t ∈ o.looksAt ops := by
        unfold Oper.looksAt
        rw [hg]
        refine List.mem_append_right _ ?_
        unfold dstOf at hd
        rw [Array.getElem?_toList] at hd
        cases ho : ops[j]? with
        | none => rw [ho] at hd; cases hd
        | some x => rw [ho] at hd; simp only at hd; simp [ho, hd]
      have hs : (s.tm t).solid = true := by
        cases hx : s.tm t <;> rw [hx] at hb <;> first | rfl | cases hb
      rw [obs_same h h' hl hs]
      exact hb

theorem solidL_in : ∀ {xs : List AV}, AV.solidL xs = true → ∀ x ∈ xs, x.solid = true
  | [], _, _, h => by cases h
  | y :: ys, h, x, hx => by
    simp only [AV.solidL, Bool.and_eq_true] at h
    rcases List.mem_cons.1 hx with rfl | hx
    · exact h.1
    · exact solidL_in h.2 x hx

theorem looks_op {o : Oper} {ops : Array Oper} {t : Nat} (h : .tmp t ∈ o.op.operands.toList) : t ∈ o.looksAt ops := List.mem_append_left _ (List.mem_filterMap.2 ⟨.tmp t, h, rfl⟩)

theorem reach_near {hp hp' : Nat → LObj} : ∀ (n : Nat) (work seen : List Nat), (∀ k ∈ reach hp n work seen, hp' k = hp k) → reach hp' n work seen = reach hp n work seen
  | 0, _, _, _ => by simp only [reach]
  | n + 1, [], _, _ => by simp only [reach]
  | n + 1, k :: ks, seen, h => by
    simp only [reach] at h ⊢
    cases hc : seen.contains k with
    | true =>
      rw [hc, cond_true] at h
      simp only [cond_true]
      exact reach_near n ks seen h
    | false =>
      rw [hc, cond_false] at h
      simp only [cond_false]
      have hk : hp' k = hp k := h k (reach_seen n _ _ k (by simp))
      rw [hk]
      exact reach_near n _ _ h
where
  reach_seen {hp : Nat → LObj} : ∀ (n : Nat) (work seen : List Nat) (k : Nat), k ∈ seen → k ∈ reach hp n work seen
  | 0, _, _, _, h => by simpa only [reach] using h
  | n + 1, [], _, _, h => by simpa only [reach] using h
  | n + 1, j :: js, seen, k, h => by
    simp only [reach]
    cases seen.contains j with
    | true => exact reach_seen n js seen k h
    | false => exact reach_seen n _ _ k (by simp [h])

/-- A call that is handed objects looks at them alone. -/
theorem call_moved {T : Tab} {orc : Orc} {o : Oper} {s s' : St} {k : Nat} {ks : List Nat} {objs : List LObj} {vs : List AV} (hic : isCall o.op = true) (he : evOp T orc o.op o.type s some = some (.call [] (k :: ks) objs vs))
    (hev : ∀ x ∈ o.op.operands.toList, s'.ev x = s.ev x) (hr : ∀ j ∈ AV.refsL (opVals s o.op), s'.hp j = s.hp j) (hks : ∀ j ∈ k :: ks, s'.hp j = s.hp j) : evOp T orc o.op o.type s' some = some (.call [] (k :: ks) objs vs) := by
  cases hop : o.op <;> rw [hop] at hic <;> simp only [isCall] at hic <;> try (cases hic; done)
  rename_i c
  rw [hop] at he hev hr
  cases hc : c.callee with
  | builtin b => rw [hc] at hic; cases hic
  | invoke r n => rw [hc] at hic; cases hic
  | value f =>
    simp only [evOp, hc] at he ⊢
    have ha : c.args.toList.map s'.ev = c.args.toList.map s.ev := map_agree _ fun x hx => hev x (by simp [Op.operands, Call.operands]; right; simpa using hx)
    have hf : s'.ev f = s.ev f := hev f (by simp [Op.operands, Call.operands, hc])
    rw [ha, hf]
    split at he
    · rename_i g caps hg
      unfold callE at he ⊢
      simp only at he ⊢
      have hrefs : ∀ j ∈ AV.refsL (normArgs T c.argTypes.toList (c.args.toList.map s.ev) ++ caps), s'.hp j = s.hp j := fun j hj => by
        rw [refsL_append, normArgs_refs, List.mem_append] at hj
        refine hr j ?_
        rcases hj with hj | hj
        · obtain ⟨y, hy, hky⟩ := refsL_mem hj
          obtain ⟨x, hx, rfl⟩ := List.mem_map.1 hy
          exact refsL_in (List.mem_map.2 ⟨x, by simp [Op.operands, Call.operands]; right; simpa using hx, rfl⟩) hky
        · refine refsL_in (List.mem_map.2 ⟨f, by simp [Op.operands, Call.operands, hc], rfl⟩) ?_
          rw [hg]
          simpa only [AV.refs] using hj
      rw [rows_near _ hrefs]
      split at he
      · rename_i hrow
        obtain ⟨q, _, hq⟩ := Tr.run_some he
        split at hq
        · cases hq
        · split at hq
          · split at hq
            · cases hq
            · cases hq
          · split at hq
            · cases hq
            · cases hq
      · rename_i hrow
        rw [if_neg hrow]
        obtain ⟨q, hq1, hq2⟩ := Tr.run_some he
        simp only [Option.some.injEq, Eff.call.injEq] at hq2
        obtain ⟨_, hkk, _, _⟩ := hq2
        have hre := reach_near (hp := s.hp) (hp' := s'.hp) 1000 (AV.refsL (normArgs T c.argTypes.toList (c.args.toList.map s.ev) ++ caps)) [] fun j hj => hks j (by rw [← hkk]; exact hj)
        rw [hre]
        have hmap : ((reach s.hp 1000 (AV.refsL (normArgs T c.argTypes.toList (c.args.toList.map s.ev) ++ caps)) []).map fun k => (s'.hp k).ren fun k => posIn k (reach s.hp 1000 (AV.refsL (normArgs T c.argTypes.toList (c.args.toList.map s.ev) ++ caps)) []) 0) =
            (reach s.hp 1000 (AV.refsL (normArgs T c.argTypes.toList (c.args.toList.map s.ev) ++ caps)) []).map fun k => (s.hp k).ren fun k => posIn k (reach s.hp 1000 (AV.refsL (normArgs T c.argTypes.toList (c.args.toList.map s.ev) ++ caps)) []) 0 :=
          List.map_congr_left fun j hj => by rw [hks j (by rw [← hkk]; exact hj)]
        rw [hmap]
        exact he
    · cases he

theorem obs_op {T : Tab} {orc : Orc} {n0 : Nat} {o : Oper} {ops : Array Oper} {st s s' : St} {f : Eff} (hn : n0 ≤ st.nx) (h : Obs n0 o ops (classOf n0 s o.op f) st s) (h' : Obs n0 o ops (classOf n0 s o.op f) st s')
    (he : evOp T orc o.op o.type s some = some f) : evOp T orc o.op o.type s' some = some f := by
  have near : ∀ v, f = .val v → (∀ x ∈ o.op.operands.toList, s'.ev x = s.ev x) → (blindOp o.op = false → ∀ k ∈ AV.refsL (opVals s o.op), s'.hp k = s.hp k) → evOp T orc o.op o.type s' some = some f := fun v hv hev hk => by
    subst hv
    have h1 := evOp_near he s'.hp s'.nx hk
    rw [← h1]
    exact evOp_agree T orc o.op o.type (fun x hx => by rw [ev_mem]; exact hev x hx) rfl rfl
  have ev1 : (classOf n0 s o.op f).1 = 2 ∨ (4 ≤ (classOf n0 s o.op f).1 ∧ (classOf n0 s o.op f).1 ≠ 10 ∧ (classOf n0 s o.op f).1 ≠ 12) → ∀ x ∈ o.op.operands.toList, s'.ev x = s.ev x := fun hc x hx => by
    cases x with
    | tmp t => exact (h'.one hc t (looks_op hx)).trans (h.one hc t (looks_op hx)).symm
    | _ => rfl
  have ev2 : (classOf n0 s o.op f).1 = 1 ∨ (classOf n0 s o.op f).1 = 3 → AV.lowL n0 (opVals s o.op) = true → ∀ x ∈ o.op.operands.toList, s'.ev x = s.ev x := fun hc hl x hx => by
    cases x with
    | tmp t => exact obs_same_old hc h h' (looks_op hx) (lowL_in hl _ (List.mem_map.2 ⟨.tmp t, hx, rfl⟩))
    | _ => rfl
  have big : 4 ≤ (classOf n0 s o.op f).1 ∧ (classOf n0 s o.op f).1 ≠ 10 ∧ (classOf n0 s o.op f).1 ≠ 11 ∧ (classOf n0 s o.op f).1 ≠ 12 → evOp T orc o.op o.type s' some = some f := fun hc => by
    rw [evOp_agree T orc o.op o.type (ev1 (.inr ⟨hc.1, hc.2.1, hc.2.2.2⟩)) ((h'.three hc).1.trans (h.three hc).1.symm) ((h'.three hc).2.trans (h.three hc).2.symm), he]
  by_cases h3 : 4 ≤ (classOf n0 s o.op f).1 ∧ (classOf n0 s o.op f).1 ≠ 10 ∧ (classOf n0 s o.op f).1 ≠ 11 ∧ (classOf n0 s o.op f).1 ≠ 12
  · exact big h3
  · cases f with
    | val v =>
      have hcl : classOf n0 s o.op (.val v) = (bif (blindOp o.op || (AV.refsL (opVals s o.op)).isEmpty) && (AV.solidL (opVals s o.op) && v.solid) then (0, [])
        else bif blindOp o.op then (bif AV.lowL n0 (opVals s o.op) && v.low n0 then (1, []) else (2, [])) else bif (AV.lowL n0 (opVals s o.op) && v.low n0) && (AV.refsL (opVals s o.op)).all (fun k => (s.hp k).low n0) then
        (bif (AV.solidL (opVals s o.op) && v.solid) && (AV.refsL (opVals s o.op)).all (fun k => (s.hp k).solid) then (10, AV.refsL (opVals s o.op)) else (3, AV.refsL (opVals s o.op))) else (4, [])) := rfl
      cases hb : ((blindOp o.op || (AV.refsL (opVals s o.op)).isEmpty) && (AV.solidL (opVals s o.op) && v.solid)) with
      | true =>
        simp only [Bool.and_eq_true, Bool.or_eq_true] at hb
        refine near v rfl (fun x hx => ?_) (fun hf k hk => ?_)
        · cases x with
          | tmp t => exact obs_same h h' (looks_op hx) (solidL_in hb.2.1 _ (List.mem_map.2 ⟨.tmp t, hx, rfl⟩))
          | _ => rfl
        · rcases hb.1 with h1 | h1
          · rw [hf] at h1; cases h1
          · rw [List.isEmpty_iff.1 h1] at hk; cases hk
      | false =>
        rw [hb, cond_false] at hcl
        cases hbl : blindOp o.op with
        | true =>
          rw [hbl, cond_true] at hcl
          cases hl : (AV.lowL n0 (opVals s o.op) && v.low n0) with
          | true =>
            rw [hl, cond_true] at hcl
            simp only [Bool.and_eq_true] at hl
            exact near v rfl (ev2 (by rw [hcl]; simp) hl.1) (fun hf => by rw [hbl] at hf; cases hf)
          | false =>
            rw [hl, cond_false] at hcl
            exact near v rfl (ev1 (by rw [hcl]; simp)) (fun hf => by rw [hbl] at hf; cases hf)
        | false =>
          rw [hbl, cond_false] at hcl
          cases hr : ((AV.lowL n0 (opVals s o.op) && v.low n0) && (AV.refsL (opVals s o.op)).all (fun k => (s.hp k).low n0)) with
          | false => rw [hr, cond_false] at hcl; rw [hcl] at h3; exact absurd ⟨Nat.le_refl 4, by simp, by simp, by simp⟩ h3
          | true =>
            rw [hr, cond_true] at hcl
            simp only [Bool.and_eq_true] at hr
            cases hs : ((AV.solidL (opVals s o.op) && v.solid) && (AV.refsL (opVals s o.op)).all (fun k => (s.hp k).solid)) with
            | false =>
              rw [hs, cond_false] at hcl
              have hc3 : (classOf n0 s o.op (.val v)).1 = 3 := by rw [hcl]
              have hmem : ∀ k, k ∈ AV.refsL (opVals s o.op) → k ∈ (classOf n0 s o.op (.val v)).2 := fun k hk => by rw [hcl]; exact hk
              refine near v rfl (ev2 (.inr hc3) hr.1.1) fun _ k hk => ?_
              have hk0 : k < n0 := lowL_refs _ hr.1.1 k hk
              have hko := List.all_eq_true.1 hr.2 k hk
              have e1 := (h.two hc3 hn).2 k hk0 (hmem k hk) (.inr hko)
              rw [(h'.two hc3 hn).2 k hk0 (hmem k hk) (.inl (e1 ▸ hko)), e1]
            | true =>
              rw [hs, cond_true] at hcl
              simp only [Bool.and_eq_true] at hs
              have hc3 : (classOf n0 s o.op (.val v)).1 = 10 := by rw [hcl]
              have hmem : ∀ k, k ∈ AV.refsL (opVals s o.op) → k ∈ (classOf n0 s o.op (.val v)).2 := fun k hk => by rw [hcl]; exact hk
              refine near v rfl (fun x hx => ?_) fun _ k hk => ?_
              · cases x with
                | tmp t => exact obs_same h h' (looks_op hx) (solidL_in hs.1.1 _ (List.mem_map.2 ⟨.tmp t, hx, rfl⟩))
                | _ => rfl
              · have hk0 : k < n0 := lowL_refs _ hr.1.1 k hk
                have hko := List.all_eq_true.1 hs.2 k hk
                have e1 := (h.ten hc3 hn).2 k hk0 (hmem k hk) (.inr hko)
                rw [(h'.ten hc3 hn).2 k hk0 (hmem k hk) (.inl (e1 ▸ hko)), e1]
    | new os v =>
      have hcl : classOf n0 s o.op (.new os v) = (bif isAlloc o.op && (v.high n0 && os.all (LObj.high n0)) then (12, []) else (5, [])) := rfl
      cases ha : (isAlloc o.op && (v.high n0 && os.all (LObj.high n0))) with
      | false => rw [ha, cond_false] at hcl; rw [hcl] at h3; exact absurd ⟨by simp, by simp, by simp, by simp⟩ h3
      | true =>
        rw [ha, cond_true] at hcl
        have hc12 : (classOf n0 s o.op (.new os v)).1 = 12 := by rw [hcl]
        simp only [Bool.and_eq_true] at ha
        have hnx : s'.nx = s.nx := (h'.twelve hc12).trans (h.twelve hc12).symm
        cases hop : o.op <;> rw [hop] at ha <;> simp only [isAlloc] at ha <;> try (simp at ha; done)
        rw [hop] at he
        simp only [evOp] at he ⊢
        rw [hnx]
        exact he
    | upd k ob v => exact absurd ⟨show 4 ≤ 6 by omega, show 6 ≠ 10 by omega, show 6 ≠ 11 by omega, show 6 ≠ 12 by omega⟩ h3
    | app k ob v =>
      refine absurd ?_ h3
      simp only [classOf]
      cases Nat.ble n0 k <;> simp
    | frz ks os v => exact absurd ⟨show 4 ≤ 9 by omega, show 9 ≠ 10 by omega, show 9 ≠ 11 by omega, show 9 ≠ 12 by omega⟩ h3
    | call fz ks objs vs =>
      cases fz with
      | cons a b => exact absurd ⟨show 4 ≤ 9 by omega, show 9 ≠ 10 by omega, show 9 ≠ 11 by omega, show 9 ≠ 12 by omega⟩ h3
      | nil =>
        cases ks with
        | nil => exact absurd ⟨show 4 ≤ 8 by omega, show 8 ≠ 10 by omega, show 8 ≠ 11 by omega, show 8 ≠ 12 by omega⟩ h3
        | cons k ks =>
          have hcl : classOf n0 s o.op (.call [] (k :: ks) objs vs) = (bif plainCall n0 s o.op (k :: ks) objs vs then (11, k :: ks) else (8, k :: ks)) := rfl
          cases ha : plainCall n0 s o.op (k :: ks) objs vs with
          | false => rw [ha, cond_false] at hcl; rw [hcl] at h3; exact absurd ⟨by simp, by simp, by simp, by simp⟩ h3
          | true =>
            rw [ha, cond_true] at hcl
            have hc11 : (classOf n0 s o.op (.call [] (k :: ks) objs vs)).1 = 11 := by rw [hcl]
            simp only [plainCall, Bool.and_eq_true, List.all_eq_true] at ha
            obtain ⟨hic, _, hks, hlow, _⟩ := ha
            have hhp : ∀ j, j < n0 → s'.hp j = s.hp j := fun j hj => ((h'.eleven hc11 hn).2 j hj).trans ((h.eleven hc11 hn).2 j hj).symm
            exact call_moved hic he (ev1 (.inr ⟨by rw [hc11]; omega, by rw [hc11]; omega, by rw [hc11]; omega⟩)) (fun j hj => hhp j (lowL_refs _ hlow j hj)) (fun j hj => hhp j (by simpa using hks j hj))

/-- Names only grow. -/
theorem stepS_nx (o : Oper) (e : Option Eff) (st : St) : st.nx ≤ (stepS o e st).nx := by
  have hmem : ∀ (s : St) (v : AV), (s.putO o.dst v).nx = s.nx := fun s v => by cases o.dst <;> rfl
  cases e with
  | none => simp only [stepS, hmem]; omega
  | some f =>
    simp only [stepS, hmem]
    cases f with
    | val v => exact Nat.le_refl _
    | new os v => simp only [St.apply, news_nx]; omega
    | upd k ob v => exact Nat.le_refl _
    | app k ob v => exact Nat.le_refl _
    | frz ks os v =>
      simp only [St.apply, news_nx]
      exact Nat.le_add_right _ _
    | call fz ks objs vs =>
      simp only [St.apply, news_nx]
      cases fz <;> cases ks <;> exact Nat.le_add_right _ _

end Go.Proofs.YtfepkpindchleaaE
