/- name.Labels: the walk. -/
import Derived.Test.YtfepkpindchleaaB2
namespace Go.Proofs.YtfepkpindchleaaB
open Go Go.RowKit Go.Shelf
attribute [local go_sem] Oper.semAt_some
set_option maxHeartbeats 1000000 in
theorem each_in (n : Nat) (s : List UInt8) (w : World) :
    CallsIn Fence.wide n Try.prog 72 #[.string ⟨s.toArray⟩] w fun e w' => e = .returned (.func (.func 74) #[] #[.pointer (some ⟨w.heap.size, 0, none⟩)]) ∧ w' = w.alloc (.cells #[.string ⟨s.toArray⟩] 9) := by
  refine callsIn_of_wp Try.func72 rfl trivial ?_ rfl
  simp only [Try.ntmps72, List.size_toArray, List.length_cons, List.length_nil, Nat.reduceAdd, Nat.reduceSub, Array.replicate_succ, Array.replicate_zero, List.push_toArray, List.append_toArray, List.nil_append, List.cons_append]
  gi_wp2
  go_ret
  exact ⟨rfl, rfl⟩
theorem info9 : (Try.prog.info? 9).map (fun i => (i.zero, i.size, i.bytes)) = some (some (.string ⟨#[]⟩), 1, 16) := by kernel_rfl
theorem under69 : Try.prog.underlying 69 = some (.slice 9) := by kernel_rfl
/-- The labels from a text's head on, and what is left behind them. -/
def eachF : List UInt8 → List (List UInt8) × List UInt8
  | [] => ([], [])
  | c :: t => if c.toNat = 0 ∨ 63 < c.toNat ∨ t.length < c.toNat then ([], c :: t) else ((t.take c.toNat) :: (eachF (t.drop c.toNat)).1, (eachF (t.drop c.toNat)).2)
termination_by s => s.length
decreasing_by all_goals (simp; omega)
theorem eachF_stop {r : List UInt8} (h : eachStop r) : eachF r = ([], r) := by
  cases r with
  | nil => rw [eachF]
  | cons c t => rw [eachF]; exact if_pos h
def strs (l : List (List UInt8)) : List Value := l.map fun s => .string ⟨s.toArray⟩

/-- What lies where, all through the loop. -/
structure JW (w : World) (rec : Loop) (st : LoopState) (v : Value) (k : Nat) (xs : List Value) (bn left : List UInt8) (W : World) : Prop where
  out : Boxed W w.heap.size 69 v
  row : W.ownsRow (w.heap.size + 5) 9 1 v k xs
  left : Boxed W (w.heap.size + 1) 9 (.string ⟨left.toArray⟩)
  box : Boxed W (w.heap.size + 2) 9 (.string ⟨bn.toArray⟩)
  bel : Below w.heap.size w W
  loop : W.heap[w.heap.size + 4]? = some (.loop { rec with state := st })
  dfr : W.heap[w.heap.size + 3]? = some (.deferred (some []))
theorem Boxed.drawn {W : World} {B : Nat} {t : TypeId} {v : Value} (h : Boxed W B t v) (d : Nat) : Boxed { W with drawn := d } B t v := h
section
variable {w : World} {rec : Loop} {st st' : LoopState} {v : Value} {k : Nat} {xs : List Value} {bn left : List UInt8} {W : World}
theorem JW.lt (h : JW w rec st v k xs bn left W) : w.heap.size + 4 < W.heap.size := (Array.getElem?_eq_some_iff.1 h.loop).1
theorem JW.drawn (h : JW w rec st v k xs bn left W) (d : Nat) : JW w rec st v k xs bn left { W with drawn := d } :=
  ⟨h.out, h.row, h.left, h.box, ⟨h.bel.os, h.bel.tape, h.bel.output, h.bel.size, h.bel.block⟩, h.loop, h.dfr⟩
theorem JW.putLoop (h : JW w rec st v k xs bn left W) {L : Loop} (hL : L = { rec with state := st' }) : JW w rec st' v k xs bn left (W.putObj (w.heap.size + 4) (.loop L)) := by
  subst hL
  have ot : ∀ j, j ≠ w.heap.size + 4 → (W.putObj (w.heap.size + 4) (.loop { rec with state := st' })).heap[j]? = W.heap[j]? := fun j hj => World.putObj_heap_other hj
  exact ⟨(ot _ (by omega)).trans h.out, ownsRow_putObj h.row _ h.loop rfl, (ot _ (by omega)).trans h.left, (ot _ (by omega)).trans h.box,
    ⟨h.bel.os, h.bel.tape, h.bel.output, by simpa using h.bel.size, fun j hj => (ot _ (by omega)).trans (h.bel.block j hj)⟩, World.putObj_heap_same h.lt, (ot _ (by omega)).trans h.dfr⟩
theorem JW.ne (h : JW w rec st v k xs bn left W) {j : Nat} (hj : j < w.heap.size + 5) : some j ≠ v.ownBlock := fun e => by
  have := (h.row.lt j e.symm).1
  omega
theorem JW.mid (h : JW w rec st v k xs bn left W) {tmp : Obj} {w1 : World} (hg : (W.alloc tmp).grownBy w1 v.ownBlock) : Boxed w1 w.heap.size 69 v := by
  have hlt := h.lt
  exact ((hg.block _ (by simp; omega) (h.ne (by omega))).trans (Below.heap_alloc _ _ _ (by omega))).trans h.out
theorem JW.grown (h : JW w rec st v k xs bn left W) {tmp : Obj} {w1 : World} {v' : Value} {k' : Nat} {ys : List Value} (hown : w1.ownsRow (w.heap.size + 5) 9 1 v' k' ys) (hg : (W.alloc tmp).grownBy w1 v.ownBlock) :
    JW w rec st v' k' ys bn left (w1.setCell ⟨w.heap.size, 0, none⟩ v') := by
  have hlt := h.lt
  have kp : ∀ j, j < w.heap.size + 5 → w1.heap[j]? = W.heap[j]? := fun j hj => (hg.block j (by simp; omega) (h.ne hj)).trans (Below.heap_alloc _ _ _ (by omega))
  have hv1 : Boxed w1 w.heap.size 69 v := (kp _ (by omega)).trans h.out
  have ot : ∀ j, j ≠ w.heap.size → (w1.setCell ⟨w.heap.size, 0, none⟩ v').heap[j]? = w1.heap[j]? := fun j hj => Below.heap_setCell _ _ _ _ hj
  refine ⟨hv1.set v', ?_, (ot _ (by omega)).trans ((kp _ (by omega)).trans h.left), (ot _ (by omega)).trans ((kp _ (by omega)).trans h.box), ?_, (ot _ (by omega)).trans ((kp _ (by omega)).trans h.loop), (ot _ (by omega)).trans ((kp _ (by omega)).trans h.dfr)⟩
  · refine hown.kept (grownBy_setCell' w1 w.heap.size v') (.inr fun e => ?_)
    have := (hown.lt _ e).1
    omega
  · refine ((h.bel.alloc (by omega) tmp).grown hg (by simp; omega) fun j ej => ?_).setCell (p := ⟨w.heap.size, 0, none⟩) (Nat.le_refl _) v'
    have := (h.row.lt j ej).1
    omega
theorem JW.setLeft (h : JW w rec st v k xs bn left W) (l : List UInt8) : JW w rec st v k xs bn l (W.setCell ⟨w.heap.size + 1, 0, none⟩ (.string ⟨l.toArray⟩)) := by
  have ot : ∀ j, j ≠ w.heap.size + 1 → (W.setCell ⟨w.heap.size + 1, 0, none⟩ (.string ⟨l.toArray⟩)).heap[j]? = W.heap[j]? := fun j hj => Below.heap_setCell _ _ _ _ hj
  refine ⟨(ot _ (by omega)).trans h.out, h.row.kept (grownBy_setCell' W _ _) (.inr (h.ne (by omega)).symm), h.left.set _, (ot _ (by omega)).trans h.box, h.bel.setCell (p := ⟨w.heap.size + 1, 0, none⟩) (by simp) _, (ot _ (by omega)).trans h.loop, (ot _ (by omega)).trans h.dfr⟩
theorem JW.setBox (h : JW w rec st v k xs bn left W) (l : List UInt8) : JW w rec st v k xs l left (W.setCell ⟨w.heap.size + 2, 0, none⟩ (.string ⟨l.toArray⟩)) := by
  have ot : ∀ j, j ≠ w.heap.size + 2 → (W.setCell ⟨w.heap.size + 2, 0, none⟩ (.string ⟨l.toArray⟩)).heap[j]? = W.heap[j]? := fun j hj => Below.heap_setCell _ _ _ _ hj
  refine ⟨(ot _ (by omega)).trans h.out, h.row.kept (grownBy_setCell' W _ _) (.inr (h.ne (by omega)).symm), (ot _ (by omega)).trans h.left, h.box.set _, h.bel.setCell (p := ⟨w.heap.size + 2, 0, none⟩) (by simp) _, (ot _ (by omega)).trans h.loop, (ot _ (by omega)).trans h.dfr⟩
end
theorem strs_len (l : List (List UInt8)) : (strs l).length = l.length := by simp [strs]
theorem strs_add (l : List (List UInt8)) (x : List UInt8) : strs l ++ [.string ⟨x.toArray⟩] = strs (l ++ [x]) := by simp [strs]
theorem eachF_step (pre : List (List UInt8)) {s t : List UInt8} {c : UInt8} (h0 : c.toNat ≠ 0) (h1 : c.toNat ≤ 63) (h2 : c.toNat ≤ t.length) (he : eachF s = (pre ++ (eachF (c :: t)).1, (eachF (c :: t)).2)) :
    eachF s = ((pre ++ [t.take c.toNat]) ++ (eachF (t.drop c.toNat)).1, (eachF (t.drop c.toNat)).2) := by
  rw [he, eachF, if_neg (by omega)]
  simp
/-- How far the loop has come: labels are taken off, what is left is told. -/
def JR (w : World) (s : List UInt8) (rec : Loop) (r : List UInt8) (W : World) : Prop :=
  ∃ pre v, JW w rec .ready v pre.length (strs pre) r r W ∧ eachF s = (pre ++ (eachF r).1, (eachF r).2) ∧ pre.length + r.length ≤ s.length
def KR (w : World) (s : List UInt8) (rec : Loop) (cs : List UInt8) (W : World) : Prop :=
  ∃ c t pre v, cs = c :: t ∧ JW w rec .ready v pre.length (strs pre) (c :: t) (t.drop c.toNat) W ∧ eachF s = (pre ++ (eachF (t.drop c.toNat)).1, (eachF (t.drop c.toNat)).2) ∧ pre.length + (t.drop c.toNat).length ≤ s.length
/-- What Labels comes to. -/
def LabPost (w : World) (s : List UInt8) (v : Value) (W' : World) : Prop :=
  ∃ u e, v = .tuple #[u, .int .i64 e] ∧ Below w.heap.size w W' ∧
    (((eachF s).2 ≠ [0] ∧ u = .slice none 0 0 ∧ e = 2) ∨ ((eachF s).2 = [0] ∧ 255 < s.length ∧ u = .slice none 0 0 ∧ e = 3) ∨
     ((eachF s).2 = [0] ∧ s.length ≤ 255 ∧ e = 0 ∧ W'.ownsRow (w.heap.size + 5) 9 1 u (eachF s).1.length (strs (eachF s).1)))

theorem range_core (n : Nat) (w : World) (s : List UInt8) (W0 : World) (L0 : Loop) (hps : L0.params.size = 2) (hn : 1 ≤ n) (hJ : JR w s L0 s (W0.alloc (.loop L0)))
    (hround : ∀ (c : UInt8) (t : List UInt8) (pre : List (List UInt8)) (v : Value) (W : World), JW w L0 .ready v pre.length (strs pre) (c :: t) (c :: t) W → c.toNat ≤ t.length → pre.length + (c :: t).length ≤ s.length →
      (L0.assign).wpIn (Fence.wide.inRound (w.heap.size + 4)) (n - 1) Try.prog (Exit.then (fun a₁ w₁ => ∃ w₂, (Instr.beginRound (w.heap.size + 4)).run Try.prog w₁ = .ok () w₂ ∧
        L0.body.wpIn (Fence.wide.inRound (w.heap.size + 4)) (n - 1) Try.prog (roundPost Try.prog (w.heap.size + 4) fun e W' => e = .returned (.bool true) ∧ ∃ v', JW w L0 .ready v' (pre ++ [t.take c.toNat]).length (strs (pre ++ [t.take c.toNat])) (c :: t) (t.drop c.toNat) W') a₁ w₂) (fun _ _ _ => False))
        { tmps := (L0.params.zip #[.string ⟨(t.take c.toNat).toArray⟩, .string ⟨(t.drop c.toNat).toArray⟩]).foldl (fun t (p, v) => t.setIfInBounds p v) L0.tmps, defers := [] } W) :
    CallsIn Fence.wide n Try.prog 74 #[.func (.yield (w.heap.size + 4)) #[] #[], .pointer (some ⟨w.heap.size + 1 + 1, 0, none⟩)] (W0.alloc (.loop L0)) fun e W' => (∃ v, e = .returned v) ∧ ∃ r, JR w s L0 r W' ∧ eachStop r := by
  refine each1_in n hn (w.heap.size + 4) (w.heap.size + 1 + 1) (JR w s L0) (KR w s L0) ?_ ?_ ?_ ?_ _ s hJ
  · rintro r W ⟨pre, v, h, _⟩
    exact h.box
  · rintro r W d ⟨pre, v, h, h2⟩
    exact ⟨pre, v, h.drawn d, h2⟩
  · rintro c t W ⟨pre, v, h, h2, h3⟩ h0 h63 hle
    have hy := run_yield (P := Try.prog) (args := #[.string ⟨(t.take c.toNat).toArray⟩, .string ⟨(t.drop c.toNat).toArray⟩]) h.loop (by simp [hps])
    refine ⟨L0.fn, _, L0.assign, L0.body, hy, roundIn_of_wpIn trivial ?_⟩
    refine wpIn_mono (hround c t pre v W h hle h3) ?_
    intro e a' W' hq
    cases e <;> try exact hq
    obtain ⟨w₂, hb, hw⟩ := hq
    refine ⟨w₂, hb, wpIn_mono hw ?_⟩
    intro e a' W' hq
    cases e with
    | normal =>
      obtain ⟨v1, w1, he, hr, v', hv'⟩ := hq
      refine ⟨v1, w1, he, hr, c, t, _, v', rfl, hv', eachF_step pre h0 h63 hle h2, ?_⟩
      simp at h3 ⊢
      omega
    | ret =>
      obtain ⟨v1, w1, he, hr, v', hv'⟩ := hq
      refine ⟨v1, w1, he, hr, c, t, _, v', rfl, hv', eachF_step pre h0 h63 hle h2, ?_⟩
      simp at h3 ⊢
      omega
    | exit id =>
      obtain ⟨v1, w1, he, hr, v', hv'⟩ := hq
      refine ⟨v1, w1, he, hr, c, t, _, v', rfl, hv', eachF_step pre h0 h63 hle h2, ?_⟩
      simp at h3 ⊢
      omega
    | goto id =>
      obtain ⟨v1, w1, he, hr, v', hv'⟩ := hq
      refine ⟨v1, w1, he, hr, c, t, _, v', rfl, hv', eachF_step pre h0 h63 hle h2, ?_⟩
      simp at h3 ⊢
      omega
    | panic ch => exact hq
    | outgrown => exact hq
  · rintro c t W ⟨c', t', pre, v, he, h, h2, h3⟩
    cases he
    exact ⟨h.box, pre, v, h.setBox _, h2, h3⟩

theorem range_labels {g : Operand} {ps : Array Tmp} {assign body : Code} {Q : Exit → Act → World → Prop} {a : Act} (n : Nat) (hn : 3 ≤ n) (w : World) (s : List UInt8) (w3 : World)
    (hg : a.eval g = .func (.func 74) #[] #[.pointer (some ⟨w.heap.size + 1 + 1, 0, none⟩)]) (hps : ps.size = 2) (hsz : w3.heap.size = w.heap.size + 3)
    (b0 : Boxed w3 w.heap.size 69 (.slice none 0 0)) (b1 : Boxed w3 (w.heap.size + 1) 9 (.string ⟨s.toArray⟩)) (b2 : Boxed w3 (w.heap.size + 2) 9 (.string ⟨s.toArray⟩)) (bB : Below w.heap.size w w3)
    (hround : ∀ (L0 : Loop) (_ : L0.pending = none) (c : UInt8) (t : List UInt8) (pre : List (List UInt8)) (v : Value) (W : World), JW w L0 .ready v pre.length (strs pre) (c :: t) (c :: t) W → c.toNat ≤ t.length → pre.length + (c :: t).length ≤ s.length →
      assign.wpIn (Fence.wide.inRound (w.heap.size + 4)) (n - 1 - 1) Try.prog (Exit.then (fun a₁ w₁ => ∃ w₂, (Instr.beginRound (w.heap.size + 4)).run Try.prog w₁ = .ok () w₂ ∧
        body.wpIn (Fence.wide.inRound (w.heap.size + 4)) (n - 1 - 1) Try.prog (roundPost Try.prog (w.heap.size + 4) fun e W' => e = .returned (.bool true) ∧ ∃ v', JW w L0 .ready v' (pre ++ [t.take c.toNat]).length (strs (pre ++ [t.take c.toNat])) (c :: t) (t.drop c.toNat) W') a₁ w₂) (fun _ _ _ => False))
        { tmps := (ps.zip #[.string ⟨(t.take c.toNat).toArray⟩, .string ⟨(t.drop c.toNat).toArray⟩]).foldl (fun t (p, v) => t.setIfInBounds p v) a.tmps, defers := [] } W)
    (hdone : ∀ (L0 : Loop) (pre : List (List UInt8)) (v : Value) (r : List UInt8) (W : World), JW w L0 .exhausted v pre.length (strs pre) r r W → eachF s = (pre, r) → Q .normal { a with defers := { target := .collected w3.heap.size, args := #[] } :: a.defers } W) :
    (Code.rangeFunc g ps assign body).wpIn Fence.wide n Try.prog Q a w3 := by
  refine wpIn_rangeFunc ?_
  intro fn hfn
  obtain ⟨L0, hL0⟩ : ∃ L0 : Loop, L0 = { state := .ready, pending := none, fn := fn, tmps := a.tmps, params := ps, assign := assign, body := body, defers := w3.heap.size } := ⟨_, rfl⟩
  have hJ : JR w s L0 s ((w3.alloc (.deferred (some []))).alloc (.loop L0)) := by
    have e0 : L0 = { L0 with state := .ready } := by rw [hL0]
    refine ⟨[], .slice none 0 0, ⟨(b0.alloc _).alloc _, World.ownsRow_nil _ _ _ _, (b1.alloc _).alloc _, (b2.alloc _).alloc _, ((bB.alloc (by omega) _).alloc (by simp; omega) _), ?_, ?_⟩, by simp, by simp⟩
    · have := World.alloc_heap_new (w3.alloc (.deferred (some []))) (.loop L0)
      rw [World.size_alloc, hsz] at this
      rw [← e0]
      exact this
    · rw [show w.heap.size + 3 = w3.heap.size by omega]
      exact (Below.heap_alloc _ _ _ (by simp)).trans (World.alloc_heap_new w3 _)
  refine ⟨w.heap.size + 4, [{ target := .collected w3.heap.size, args := #[] }], (w3.alloc (.deferred (some []))).alloc (.loop L0), { target := .fn (.func 74) #[.pointer (some ⟨w.heap.size + 1 + 1, 0, none⟩)], args := #[.func (.yield (w.heap.size + 4)) #[] #[]] }, (w3.alloc (.deferred (some []))).alloc (.loop L0), 74,
    #[.func (.yield (w.heap.size + 4)) #[] #[], .pointer (some ⟨w.heap.size + 1 + 1, 0, none⟩)], (w3.alloc (.deferred (some []))).alloc (.loop L0), ?_, ?_, ?_, ?_, fun _ => (by omega), ?_⟩
  · rw [hL0, show w.heap.size + 4 = w3.heap.size + 1 by omega]
    exact run_enterLoop_outer _ _ _ _ _
  · simp only [resolve, hg]
    simp [go_sem]
  · intro f' hf'; trivial
  · simp [invoke, go_sem]
  · refine (range_core (n - 1) w s _ L0 (by rw [hL0]; exact hps) (by omega) hJ ?_).mono ?_
    · intro c t pre v W hJ hle hb
      have := hround L0 (by rw [hL0]) c t pre v W hJ hle hb
      rw [hL0] at this ⊢
      exact this
    · rintro e W2 ⟨⟨v, rfl⟩, r, ⟨pre, v', hJ2, he, _⟩, hstop⟩
      rw [eachF_stop hstop, List.append_nil] at he
      have hend := run_endLoop (P := Try.prog) hJ2.loop (by simp)
      refine ⟨none, _, ?_, hdone L0 pre v' r _ (hJ2.putLoop (st' := .exhausted) rfl) he⟩
      rw [hend, hL0]
set_option maxRecDepth 100000 in
set_option maxHeartbeats 2000000 in
theorem Labels_in (n : Nat) (hn : 3 ≤ n) (s : List UInt8) (hs : s.length ≤ 1000000000000) (w : World) :
    CallsIn Fence.wide n Try.prog 58 #[.string ⟨s.toArray⟩] w fun e W' => ∃ v, e = .returned v ∧ LabPost w s v W' := by
  have h1 : 1 ≤ n := by omega
  obtain ⟨i0, hi, hz0, hz1, hz2⟩ := info_parts info9
  refine callsIn_of_wp_marks Try.func58 rfl trivial ?_ rfl
  simp only [Try.ntmps58, List.size_toArray, List.length_cons, List.length_nil, Nat.reduceAdd, Nat.reduceSub, Array.replicate_succ, Array.replicate_zero, List.push_toArray, List.append_toArray, List.nil_append, List.cons_append]
  gi_wp2
  refine ⟨trivial, (each_in (n - 1) s _).mono ?_⟩
  rintro e w' ⟨rfl, rfl⟩
  gi_wp2
  rename_i Q K hK
  obtain ⟨w3, hw3⟩ : ∃ w3, ((w.alloc (.cells #[.slice none 0 0] 69)).alloc (.cells #[.string ⟨s.toArray⟩] 9)).alloc (.cells #[.string ⟨s.toArray⟩] 9) = w3 := ⟨_, rfl⟩
  have hsz : w3.heap.size = w.heap.size + 3 := by rw [← hw3]; simp
  have b0 : Boxed w3 w.heap.size 69 (.slice none 0 0) := by rw [← hw3]; exact ((Boxed.new w 69 _).alloc _).alloc _
  have b1 : Boxed w3 (w.heap.size + 1) 9 (.string ⟨s.toArray⟩) := by
    rw [← hw3]
    have := (Boxed.new (w.alloc (.cells #[.slice none 0 0] 69)) 9 (.string ⟨s.toArray⟩)).alloc (.cells #[.string ⟨s.toArray⟩] 9)
    simpa using this
  have b2 : Boxed w3 (w.heap.size + 2) 9 (.string ⟨s.toArray⟩) := by
    rw [← hw3]
    have := Boxed.new ((w.alloc (.cells #[.slice none 0 0] 69)).alloc (.cells #[.string ⟨s.toArray⟩] 9)) 9 (.string ⟨s.toArray⟩)
    simpa using this
  have bB : Below w.heap.size w w3 := by
    rw [← hw3]
    exact (((Below.refl _ w).alloc (Nat.le_refl _) _).alloc (by simp) _).alloc (by simp; omega) _
  rw [hw3]
  refine range_labels n hn w s w3 rfl rfl hsz b0 b1 b2 bB ?_ ?_
  · intro L0 hpe c t pre v W hJ hle hb
    gi_wp2
    have hpl : pre.length + 1 ≤ s.length := by simp at hb; omega
    refine ⟨_, run_beginRound hJ.loop rfl, ?_⟩
    have hJ2 := hJ.putLoop (st' := .busy) (L := { { L0 with state := .ready } with state := .busy }) rfl
    obtain ⟨W2, hW2⟩ : ∃ W2, W.putObj (w.heap.size + 4) (.loop { { L0 with state := .ready } with state := .busy }) = W2 := ⟨_, rfl⟩
    rw [hW2] at hJ2 ⊢
    have hc := hJ2.out.cell
    have hlt := hJ2.lt
    gi_wp2_with (gi_at_builtin; refine wpListIn_append_own _ rfl _ _ 69 rfl (w.heap.size + 5) 9 i0 (.string ⟨#[]⟩) 1 16 under69 hi hz0 hz1 hz2 rfl (by decide) _ _ _ rfl (hJ2.row.alloc _) ⟨W2.heap.size, 0, none⟩ 1 1 [.string ⟨(t.take c.toNat).toArray⟩] rfl rfl (cell_one_new _ _ _) (by simp [Value.oneCell']) (by simp [maxLen]; omega) (by omega) (by simp; omega) ?_; intro v' w1 hown' hgrow _; obtain ⟨g', cap', rfl⟩ := ownsRow_succ hown'; have hJ3 := hJ2.grown hown' hgrow; have hm := hJ2.mid hgrow; have hc1 := hm.cell; have hf1 := hm.frozen; have hc2 := hJ3.left.cell; have hf2 := hJ3.left.frozen)
    have hJ4 := hJ3.setLeft (t.drop c.toNat)
    have hend := run_endRound (P := Try.prog) none hJ4.loop
    have hJ5 := hJ4.putLoop (st' := .ready) (L := { { L0 with state := .busy } with state := if (none : Option Code).isNone then .ready else .done, pending := none }) (by cases L0; cases hpe; rfl)
    rw [strs_add] at hJ5
    refine ⟨_, _, hend, rfl, .slice (some ⟨g', 0, none⟩) (pre.length + 1) cap', ?_⟩
    exact hJ5
  · intro L0 pre v r W hJ he
    have hc := hJ.left.cell
    have hc0 := hJ.out.cell
    have hdef : W.heap[w3.heap.size]? = some (.deferred (some [])) := by rw [hsz]; exact hJ.dfr
    have hB : Below w.heap.size w (W.putObj w3.heap.size (.deferred none)) :=
      ⟨hJ.bel.os, hJ.bel.tape, hJ.bel.output, by simpa using hJ.bel.size, fun j hj => (World.putObj_heap_other (by omega)).trans (hJ.bel.block j hj)⟩
    have hrow := ownsRow_putObj hJ.row (.deferred none) hdef rfl
    gi_wp2
    · rename_i hr
      refine ⟨by simp, .inl ⟨_, _, rfl, run_takeDeferred hdef, ?_⟩⟩
      refine ⟨_, results_tmp2 rfl _ _ _, _, rfl, _, _, rfl, hB, .inl ⟨?_, rfl, rfl⟩⟩
      rw [he]
      simpa using hr
    · rename_i hr hl
      refine ⟨by simp, .inl ⟨_, _, rfl, run_takeDeferred hdef, ?_⟩⟩
      refine ⟨_, results_tmp2 rfl _ _ _, _, rfl, _, _, rfl, hB, .inr (.inl ⟨?_, by omega, rfl, rfl⟩)⟩
      rw [he]
      simpa using hr
    · rename_i hr hl
      refine ⟨by simp, .inl ⟨_, _, rfl, run_takeDeferred hdef, ?_⟩⟩
      refine ⟨_, results_tmp2 rfl _ _ _, _, rfl, _, _, rfl, hB, .inr (.inr ⟨?_, by omega, rfl, ?_⟩)⟩
      · rw [he]
        simpa using hr
      · rw [he]
        exact hrow
end Go.Proofs.YtfepkpindchleaaB
