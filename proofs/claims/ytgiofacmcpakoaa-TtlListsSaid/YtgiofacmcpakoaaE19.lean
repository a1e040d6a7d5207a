/- The engine, part 19: regions whose order is open. -/
import Derived.Test.YtgiofacmcpakoaaE18
namespace Go.Proofs.YtgiofacmcpakoaaE
open Go
set_option linter.unusedVariables false
set_option linter.unusedSimpArgs false

theorem rng_all {p : Nat → Bool} : ∀ (n a : Nat), (rng a n).all p = true → ∀ j, a ≤ j → j < a + n → p j = true
  | 0, a, _, j, h1, h2 => by omega
  | n + 1, a, h, j, h1, h2 => by
    simp only [rng, List.all_cons, Bool.and_eq_true] at h
    by_cases hj : j = a
    · subst hj; exact h.1
    · exact rng_all n (a + 1) h.2 j (by omega) (by omega)

/-! ### Some of the steps, in turn -/
def runS (step : Nat → St → St) (L : Nat → Bool) (st : St) : Nat → St
  | 0 => st
  | n + 1 => bif L n then step n (runS step L st n) else runS step L st n

theorem runS_congr {step : Nat → St → St} {L L' : Nat → Bool} {st : St} : ∀ (n : Nat), (∀ i, i < n → L i = L' i) → runS step L st n = runS step L' st n
  | 0, _ => rfl
  | n + 1, h => by
    simp only [runS]
    rw [h n (by omega), runS_congr n fun i hi => h i (by omega)]

def addL (L : Nat → Bool) (e : Nat) : Nat → Bool := fun i => L i || i == e

/-- One step more may be the last one. -/
theorem runS_add {step : Nat → St → St} {L : Nat → Bool} {st : St} {e : Nat} (he : L e = false) : ∀ (n : Nat), e < n → (∀ k, e < k → k < n → L k = true → ∀ s, step k (step e s) = step e (step k s)) →
    runS step (addL L e) st n = step e (runS step L st n)
  | 0, h, _ => by omega
  | n + 1, h, hc => by
    simp only [runS]
    by_cases hen : e = n
    · subst hen
      have : runS step (addL L e) st e = runS step L st e := runS_congr e fun i hi => by
        have : (i == e) = false := by simp; omega
        simp [addL, this]
      rw [this, he]
      simp [addL]
    · have h1 := runS_add (st := st) he n (by omega) fun k h1 h2 => hc k h1 (by omega)
      rw [h1]
      have : addL L e n = L n := by
        have : (n == e) = false := by simp; omega
        simp [addL, this]
      rw [this]
      cases hn : L n with
      | false => rfl
      | true => exact hc n (by omega) (by omega) hn _

/-- More steps: what none of them changes is the same. -/
theorem runS_obs {step : Nat → St → St} {L L' : Nat → Bool} {st : St} {n : Nat} {rel : St → St → Prop} (hr : ∀ s, rel s s) (ht : ∀ s s' s'', rel s s' → rel s' s'' → rel s s'')
    (hsub : ∀ i, L i = true → L' i = true) (hex : ∀ e, e < n → L e = false → L' e = true → (∀ s, rel s (step e s)) ∧ ∀ k, e < k → k < n → L k = true → ∀ s, step k (step e s) = step e (step k s)) :
    rel (runS step L st n) (runS step L' st n) := by
  have key : ∀ m, m ≤ n → rel (runS step L st n) (runS step (fun i => L i || (L' i && decide (i < m))) st n) := by
    intro m
    induction m with
    | zero =>
      intro _
      have : runS step (fun i => L i || (L' i && decide (i < 0))) st n = runS step L st n := runS_congr n fun i _ => by simp
      rw [this]
      exact hr _
    | succ m ih =>
      intro hm
      have h1 := ih (by omega)
      by_cases hL : L m = false ∧ L' m = true
      · obtain ⟨hL, hL'⟩ := hL
        obtain ⟨h2, h3⟩ := hex m (by omega) hL hL'
        have h4 := runS_add (step := step) (st := st) (L := fun i => L i || (L' i && decide (i < m))) (e := m) (by simp [hL]) n (by omega) fun k h1 h2 hk => by
          have : ¬ k < m := by omega
          simp [this] at hk
          exact h3 k h1 h2 hk
        have h5 : runS step (fun i => L i || (L' i && decide (i < m + 1))) st n = runS step (addL (fun i => L i || (L' i && decide (i < m))) m) st n := runS_congr n fun i _ => by
          by_cases him : i = m
          · subst him; simp [addL, hL, hL']
          · have h6 : (i < m + 1) ↔ i < m := by omega
            simp [addL, h6, him]
        rw [h5, h4]
        exact ht _ _ _ h1 (h2 _)
      · have h5 : runS step (fun i => L i || (L' i && decide (i < m + 1))) st n = runS step (fun i => L i || (L' i && decide (i < m))) st n := runS_congr n fun i _ => by
          by_cases him : i = m
          · subst him
            cases h6 : L i with
            | true => simp
            | false =>
              cases h7 : L' i with
              | true => exact absurd ⟨h6, h7⟩ hL
              | false => simp
          · have h6 : (i < m + 1) ↔ i < m := by omega
            simp [h6]
        rw [h5]
        exact h1
  have := key n (Nat.le_refl n)
  have h2 : runS step (fun i => L i || (L' i && decide (i < n))) st n = runS step L' st n := runS_congr n fun i hi => by
    cases h : L i with
    | true => simp [hsub i h]
    | false => simp [hi]
  rw [h2] at this
  exact this

/-! ### A step -/
def gateB (all : List Oper) (o : Oper) (st : St) : Option Bool :=
  match o.guard with
  | none => some true
  | some (j, want) => match dstOf all j with
    | none => none
    | some t => match st.tm t with
      | .bool b => some (b == want)
      | .undef => some false
      | _ => none

theorem gate_logic {R : Type} {all : List Oper} {o : Oper} {st : St} {run skip : St → Option R} {r : R} (h : gate all o st run skip = some r) :
    (gateB all o st = some true ∧ run st = some r) ∨ (gateB all o st = some false ∧ skip st = some r) := by
  unfold gate at h
  unfold gateB
  split at h
  · rename_i hg
    rw [hg]
    exact .inl ⟨rfl, h⟩
  · rename_i j want hg
    rw [hg]
    simp only
    split at h
    · cases h
    · rename_i t hd
      split at h
      · rename_i b hb
        rw [hd]
        simp only [hb]
        cases want <;> cases b <;> simp only [cond_true, cond_false] at h <;> rw [put_same hb] at h <;> simp [h]
      · rename_i hu
        rw [hd]
        simp only [hu]
        exact .inr ⟨trivial, h⟩
      · cases h

theorem gateB_wanted {c : Cx} {st : St} {a : Act} {w : World} {μ : Nat → Pl} {F : Nat → Prop} (hi : Inv c st a w μ F) {ops : Array Oper} {o : Oper} {b : Bool} (h : gateB ops.toList o st = some b) :
    Region.wanted o (yielded ops a.tmps) = b := by
  unfold gateB at h
  unfold Region.wanted
  split at h
  · rename_i hg
    rw [hg]
    cases h
    rfl
  · rename_i j want hg
    rw [hg]
    simp only
    split at h
    · cases h
    · rename_i t hd
      split at h
      · rename_i b hb
        rw [yield_bool hi hd hb]
        cases h
        cases want <;> cases b <;> rfl
      · rename_i hu
        rw [yield_undef hi hd hu]
        cases h
        rfl
      · cases h

def stepS (o : Oper) : Option Eff → St → St
  | none, st => st.putO o.dst .undef
  | some f, st => (st.apply f).2.putO o.dst (st.apply f).1

/-- What a class says of an effect. -/
def Cl (e : Option Eff) (c : Nat) : Prop :=
  (c = 0 ∧ e = none) ∨ (c ≤ 1 ∧ ∃ v, e = some (.val v)) ∨ (c = 2 ∧ ((∃ os v, e = some (.new os v)) ∨ ∃ k o v, e = some (.upd k o v))) ∨ c = 3

theorem cl_of (st : St) (o : Op) (f : Eff) : Cl (some f) (classOf st o f) := by
  unfold classOf Cl
  cases f with
  | val v =>
    right; left
    refine ⟨?_, v, rfl⟩
    generalize (_ || _ : Bool) = b
    cases b <;> simp
  | new os v => right; right; left; exact ⟨rfl, .inl ⟨os, v, rfl⟩⟩
  | upd k o v => right; right; left; exact ⟨rfl, .inr ⟨k, o, v, rfl⟩⟩
  | _ => right; right; right; rfl

/-- A step that leaves names alone: memory, then its slot. -/
structure Neat (o : Oper) (s : St → St) (m : St → St) (v : AV) : Prop where
  eq : ∀ st, s st = (m st).putO o.dst v
  tm : ∀ st, (m st).tm = st.tm
  put : ∀ st d x, m (st.putO d x) = (m st).putO d x

theorem news_put (d : Option Nat) (x : AV) : ∀ (os : List LObj) (st : St), (st.putO d x).news os = (st.news os).putO d x
  | [], _ => rfl
  | o :: os, st => by
    simp only [St.news]
    rw [← news_put d x os]
    cases d <;> rfl

theorem neat_val (o : Oper) (v : AV) : Neat o (stepS o (some (.val v))) id v := ⟨fun _ => rfl, fun _ => rfl, fun _ _ _ => rfl⟩
theorem neat_none (o : Oper) : Neat o (stepS o none) id .undef := ⟨fun _ => rfl, fun _ => rfl, fun _ _ _ => rfl⟩
theorem neat_new (o : Oper) (os : List LObj) (v : AV) : Neat o (stepS o (some (.new os v))) (fun st => st.news os) v :=
  ⟨fun _ => rfl, fun st => news_tm os st, fun st d x => news_put d x os st⟩
theorem neat_upd (o : Oper) (k : Nat) (ob : LObj) (v : AV) : Neat o (stepS o (some (.upd k ob v))) (fun st => st.upd k ob) v :=
  ⟨fun _ => rfl, fun st => rfl, fun st d x => by cases d <;> rfl⟩

theorem put_swap (st : St) {d d' : Option Nat} (h : ∀ t, d = some t → d' ≠ some t) (x y : AV) : (st.putO d x).putO d' y = (st.putO d' y).putO d x := by
  cases d with
  | none => rfl
  | some t =>
    cases d' with
    | none => rfl
    | some t' =>
      have hne : t' ≠ t := fun e => h t rfl (by rw [e])
      simp only [St.putO, St.put]
      congr 1
      funext u
      cases h1 : u == t' with
      | false => simp
      | true =>
        have := eq_of_beq h1
        subst this
        have h2 : (u == t) = false := by simp [hne]
        simp [h2]

theorem cl_low {o : Oper} {e : Option Eff} {c : Nat} (h : Cl e c) (hc : c ≤ 1) : ∃ v, Neat o (stepS o e) id v := by
  rcases h with ⟨_, rfl⟩ | ⟨_, v, rfl⟩ | ⟨rfl, _⟩ | rfl
  · exact ⟨_, neat_none o⟩
  · exact ⟨v, neat_val o v⟩
  · omega
  · omega
theorem cl_mid {o : Oper} {e : Option Eff} {c : Nat} (h : Cl e c) (hc : c ≤ 2) : ∃ m v, Neat o (stepS o e) m v := by
  rcases h with ⟨_, rfl⟩ | ⟨_, v, rfl⟩ | ⟨rfl, ⟨os, v, rfl⟩ | ⟨k, ob, v, rfl⟩⟩ | rfl
  · exact ⟨_, _, neat_none o⟩
  · exact ⟨_, v, neat_val o v⟩
  · exact ⟨_, v, neat_new o os v⟩
  · exact ⟨_, v, neat_upd o k ob v⟩
  · omega

theorem neat_swap {o o' : Oper} {s s' m : St → St} {v v' : AV} (h : Neat o s id v) (h' : Neat o' s' m v') (hd : ∀ t, o.dst = some t → o'.dst ≠ some t) (st : St) : s' (s st) = s (s' st) := by
  rw [h.eq st, h'.eq, h.eq, h'.eq st]
  simp only [id]
  rw [h'.put]
  exact put_swap _ hd _ _

theorem meet_spec {x y : Nat} (h : meet x y = true) : (x ≤ 1 ∧ y ≤ 1) ∨ (x = 0 ∧ y = 2) ∨ (x = 2 ∧ y = 0) := by
  unfold meet at h
  simp only [Bool.or_eq_true, Bool.and_eq_true, Nat.ble_eq, Nat.beq_eq_true_eq] at h
  rcases h with (h | h) | h
  · exact .inl h
  · exact .inr (.inl ⟨Nat.eq_of_beq_eq_true h.1, Nat.eq_of_beq_eq_true h.2⟩)
  · exact .inr (.inr ⟨Nat.eq_of_beq_eq_true h.1, Nat.eq_of_beq_eq_true h.2⟩)

theorem step_swap {o o' : Oper} {e e' : Option Eff} {c c' : Nat} (h : Cl e c) (h' : Cl e' c') (hm : meet c c' = true) (hd : ∀ t, o.dst = some t → o'.dst ≠ some t) (st : St) :
    stepS o' e' (stepS o e st) = stepS o e (stepS o' e' st) := by
  rcases meet_spec hm with ⟨h1, h2⟩ | ⟨h1, h2⟩ | ⟨h1, h2⟩
  · obtain ⟨v, n⟩ := cl_low (o := o) h h1
    obtain ⟨v', n'⟩ := cl_low (o := o') h' h2
    exact neat_swap n n' hd st
  · obtain ⟨v, n⟩ := cl_low (o := o) h (by omega)
    obtain ⟨m, v', n'⟩ := cl_mid (o := o') h' (by omega)
    exact neat_swap n n' hd st
  · obtain ⟨m, v, n⟩ := cl_mid (o := o) h (by omega)
    obtain ⟨v', n'⟩ := cl_low (o := o') h' (by omega)
    exact (neat_swap n' n (fun t ht he => hd t he ht) st).symm

/-- What an operation of a class may see of a state. -/
def Obs (o : Oper) (ops : Array Oper) (c : Nat) (st st' : St) : Prop :=
  (∀ t ∈ o.looksAt ops, st'.tm t = st.tm t) ∧ (1 ≤ c → st'.hp = st.hp ∧ st'.nx = st.nx)

theorem obs_step {o o' : Oper} {ops : Array Oper} {e' : Option Eff} {c c' : Nat} (h' : Cl e' c') (hm : meet c c' = true) (hd : ∀ d, o'.dst = some d → d ∉ o.looksAt ops) (st : St) :
    Obs o ops c st (stepS o' e' st) := by
  have hput : ∀ (s : St) (v : AV) (t : Nat), t ∈ o.looksAt ops → (s.putO o'.dst v).tm t = s.tm t := fun s v t ht => by
    cases hdst : o'.dst with
    | none => rfl
    | some d =>
      have hne : t ≠ d := fun e => hd d hdst (e ▸ ht)
      have : (t == d) = false := by simp [hne]
      simp [St.putO, St.put, this]
  have hmem : ∀ (s : St) (v : AV), (s.putO o'.dst v).hp = s.hp ∧ (s.putO o'.dst v).nx = s.nx := fun s v => by cases o'.dst <;> exact ⟨rfl, rfl⟩
  rcases meet_spec hm with ⟨h1, h2⟩ | ⟨h1, h2⟩ | ⟨h1, h2⟩
  · obtain ⟨v', n'⟩ := cl_low (o := o') h' h2
    rw [n'.eq st]
    exact ⟨fun t ht => hput _ _ t ht, fun _ => hmem _ _⟩
  · obtain ⟨m, v', n'⟩ := cl_mid (o := o') h' (by omega)
    rw [n'.eq st]
    exact ⟨fun t ht => by rw [hput _ _ t ht, n'.tm], fun hc => by omega⟩
  · obtain ⟨v', n'⟩ := cl_low (o := o') h' (by omega)
    rw [n'.eq st]
    exact ⟨fun t ht => hput _ _ t ht, fun _ => hmem _ _⟩

theorem obs_gate {o : Oper} {ops : Array Oper} {c : Nat} {st st' : St} (h : Obs o ops c st st') : gateB ops.toList o st' = gateB ops.toList o st := by
  unfold gateB
  cases hg : o.guard with
  | none => rfl
  | some g =>
    obtain ⟨j, want⟩ := g
    simp only
    cases hd : dstOf ops.toList j with
    | none => rfl
    | some t =>
      simp only
      rw [h.1 t]
      unfold Oper.looksAt
      rw [hg]
      refine List.mem_append_right _ ?_
      unfold dstOf at hd
      rw [Array.getElem?_toList] at hd
      cases ho : ops[j]? with
      | none => rw [ho] at hd; cases hd
      | some x => rw [ho] at hd; simp only at hd; simp [ho, hd]

theorem obs_ev {o : Oper} {ops : Array Oper} {c : Nat} {st st' : St} (h : Obs o ops c st st') : ∀ x ∈ o.op.operands.toList, st'.ev x = st.ev x := by
  intro x hx
  cases x with
  | tmp t => exact h.1 t (List.mem_append_left _ (List.mem_filterMap.2 ⟨.tmp t, hx, rfl⟩))
  | _ => rfl

theorem obs_op {T : Tab} {orc : Orc} {o : Oper} {ops : Array Oper} {st st' : St} {f : Eff} (h : Obs o ops (classOf st o.op f) st st') (he : evOp T orc o.op o.type st some = some f) :
    evOp T orc o.op o.type st' some = some f := by
  have hev := obs_ev h
  by_cases hc : 1 ≤ classOf st o.op f
  · obtain ⟨h1, h2⟩ := h.2 hc
    rw [evOp_agree T orc o.op o.type hev h1 h2, he]
  · have h0 : ∃ v, f = .val v ∧ (blindOp o.op || (AV.refsL (opVals st o.op)).isEmpty) = true := by
      unfold classOf at hc
      cases f with
      | val v =>
        refine ⟨v, rfl, ?_⟩
        simp only at hc
        cases hb : (blindOp o.op || (AV.refsL (opVals st o.op)).isEmpty) with
        | true => rfl
        | false => rw [hb] at hc; simp at hc
      | _ => simp at hc
    obtain ⟨v, rfl, hb⟩ := h0
    have h1 := evOp_mem hb he st'.hp st'.nx
    rw [← h1]
    exact evOp_agree T orc o.op o.type (fun x hx => by rw [ev_mem]; exact hev x hx) rfl rfl

end Go.Proofs.YtgiofacmcpakoaaE
