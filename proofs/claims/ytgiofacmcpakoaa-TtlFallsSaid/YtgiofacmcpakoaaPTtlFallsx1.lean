-- PRINTED BY print.sh 35421559b90ae4d0a3588c463048766b98c2df88dd9212a6774a882060cdf62d: not written by this session
import Derived.Test.YtgiofacmcpakoaaPTtlFallsx0
namespace Go.Proofs.Ytgiofacmcpakoaa.PTtlFalls
open Go.RowKit Go.Proofs.YtgiofacmcpakoaaW.PrintWords Go.Proofs.YtgiofacmcpakoaaW.PrintLast Go.Proofs.YtgiofacmcpakoaaW.PrintMore
attribute [local go_sem] max2_int min2_int max_two min_two max_three min_three max_four min_four   -- for this text's walks alone
set_option linter.unusedVariables false
set_option linter.unusedSimpArgs false

/-! ### ttl_Until: function 15 -/
def ttl_Until.f (a0 : Int) (a1 : Int) : Option (Int) := if (IntKind.u64.wrap (a1)) > (IntKind.u64.wrap (18446744073709551615 - a0)) then (some 18446744073709551615) else (some (IntKind.u64.wrap (a0 + (IntKind.u64.wrap (a1)))))
set_option maxHeartbeats 8000000 in
set_option maxRecDepth 100000 in
theorem ttl_Until.calls (a0 : Int) (a1 : Int) (r : Int) (w : World) (h : ttl_Until.f a0 a1 = some r) :
    Calls Try.prog 15 #[.int .u64 a0, .int .u32 a1] w fun e w' => e = .returned (.int .u64 r) ∧ Drawn0 w w' := by
  have H : (if (IntKind.u64.wrap (a1)) > (IntKind.u64.wrap (18446744073709551615 - a0)) then (some 18446744073709551615) else (some (IntKind.u64.wrap (a0 + (IntKind.u64.wrap (a1)))))) = some r := h
  clear h
  by_cases c3 : (IntKind.u64.wrap (a1)) > (IntKind.u64.wrap (18446744073709551615 - a0))
  · rw [if_pos c3] at H
    have c3b0 : decide ((IntKind.u64.wrap (18446744073709551615 - a0)) < (IntKind.u64.wrap (a1))) = true := decide_eq_true c3
    clear c3
    obtain rfl := Option.some.inj H
    go_enter Try.func15, Try.ntmps15
    go_wp2
    go_ret
    exact ⟨by first | rfl | (simp; done) | (simp [*]; done), by repeat (first | exact Drawn0.refl _ | apply Drawn0.step)⟩
  · rw [if_neg c3] at H
    have c3b0 : decide ((IntKind.u64.wrap (18446744073709551615 - a0)) < (IntKind.u64.wrap (a1))) = false := decide_eq_false c3
    clear c3
    obtain rfl := Option.some.inj H
    go_enter Try.func15, Try.ntmps15
    go_wp2
    go_ret
    exact ⟨by first | rfl | (simp; done) | (simp [*]; done), by repeat (first | exact Drawn0.refl _ | apply Drawn0.step)⟩

/-! ### ttl_Live: function 17 -/
def ttl_Live.f (a0 : Int) (a1 : Int) : Option (Bool) := some (decide (a0 > a1))
set_option maxHeartbeats 8000000 in
set_option maxRecDepth 100000 in
theorem ttl_Live.calls (a0 : Int) (a1 : Int) (r : Bool) (w : World) (h : ttl_Live.f a0 a1 = some r) :
    Calls Try.prog 17 #[.int .u64 a0, .int .u64 a1] w fun e w' => e = .returned (.bool r) ∧ Drawn0 w w' := by
  have H : (some (decide (a0 > a1))) = some r := h
  clear h
  obtain rfl := Option.some.inj H
  go_enter Try.func17, Try.ntmps17
  go_wp2
  go_ret
  exact ⟨by first | rfl | (simp; done) | (simp [*]; done), by repeat (first | exact Drawn0.refl _ | apply Drawn0.step)⟩

/-! ### ttl_Left: function 16 -/
def ttl_Left.f (a0 : Int) (a1 : Int) : Option (Int) := (ttl_Live.f a0 a1).bind fun t101 => (if t101 = true then (some ((mn (IntKind.u64.wrap (a0 - a1)) 4294967295) % 4294967296)) else (some 0))
set_option maxHeartbeats 8000000 in
set_option maxRecDepth 100000 in
theorem ttl_Left.calls (a0 : Int) (a1 : Int) (r : Int) (w : World) (h : ttl_Left.f a0 a1 = some r) :
    Calls Try.prog 16 #[.int .u64 a0, .int .u64 a1] w fun e w' => e = .returned (.int .u32 r) ∧ Below w.heap.size w w' := by
  have HB := Aside0.mk (Below.refl w.heap.size w)
  have H : ((ttl_Live.f a0 a1).bind fun t101 => (if t101 = true then (some ((mn (IntKind.u64.wrap (a0 - a1)) 4294967295) % 4294967296)) else (some 0))) = some r := h
  clear h
  replace H := Option.bind_eq_some_iff.mp H
  obtain ⟨t101, A30, H⟩ := H
  replace H : (if t101 = true then (some ((mn (IntKind.u64.wrap (a0 - a1)) 4294967295) % 4294967296)) else (some 0)) = some r := H
  have A3 := Aside0.mk A30
  clear A30
  by_cases c4 : t101 = true
  · subst c4
    have H1 : (some ((mn (IntKind.u64.wrap (a0 - a1)) 4294967295) % 4294967296)) = some r := by rw [if_pos rfl] at H; exact H
    clear H
    have H := H1
    clear H1
    obtain ⟨ji5, hji5⟩ : ∃ j_ : Int, (mn (IntKind.u64.wrap (a0 - a1)) 4294967295) = j_ := ⟨_, rfl⟩
    replace H : (some ((ji5) % 4294967296)) = some r := by first | (rw [hji5] at H; exact H) | (simp only [hji5] at H ⊢; exact H)
    (try rw [hji5] at A3)
    (try (have hji5h : ji5 ≤ 4294967295 := by (rw [← hji5]; unfold mn; (repeat' split) <;> omega)))
    (try (have hji5g : ji5 ≤ 64 := by omega))
    have hji5_ : (if 4294967295 < (IntKind.u64.wrap (a0 - a1)) then 4294967295 else (IntKind.u64.wrap (a0 - a1))) = ji5 := hji5
    obtain rfl := Option.some.inj H
    go_enter Try.func16, Try.ntmps16
    go_wp2_with (first | ((with_reducible refine gate_callee (f := 17) rfl ?_); refine goesL_ (some 7) rfl rfl Try.func17 (by kernel_rfl) rfl #[.int .u64 a0, .int .u64 a1] rfl (by (try simp only [List.map_toArray, List.map_cons, List.map_nil]); first | done | rfl | (simp only [List.length_drop, List.length_take]; rfl)) ?_; (with_reducible refine (ttl_Live.calls a0 a1 true _ A3.out).mono ?_); rintro e w' ⟨rfl, ⟨nd, rfl⟩⟩; refine ⟨_, rfl, ?_⟩))
    go_ret
    exact ⟨by first | rfl | (simp [errW_none, errW_some] <;> rfl) | (simp only [← hji5]; first | rfl | (simp [errW_none, errW_some] <;> rfl)) | (simp [*, errW_none, errW_some] <;> rfl), by repeat (first | (with_reducible first | exact HB.out | apply below_alloc | apply pw_below_drewN | apply below_drew1) | exact HB.out)⟩
  · replace c4 := Bool.eq_false_iff.mpr c4
    subst c4
    have H1 : (some 0) = some r := by rw [if_neg (show ¬ (false = true) by decide)] at H; exact H
    clear H
    have H := H1
    clear H1
    obtain rfl := Option.some.inj H
    go_enter Try.func16, Try.ntmps16
    go_wp2_with (first | ((with_reducible refine gate_callee (f := 17) rfl ?_); refine goesL_ (some 7) rfl rfl Try.func17 (by kernel_rfl) rfl #[.int .u64 a0, .int .u64 a1] rfl (by (try simp only [List.map_toArray, List.map_cons, List.map_nil]); first | done | rfl | (simp only [List.length_drop, List.length_take]; rfl)) ?_; (with_reducible refine (ttl_Live.calls a0 a1 false _ A3.out).mono ?_); rintro e w' ⟨rfl, ⟨nd, rfl⟩⟩; refine ⟨_, rfl, ?_⟩))
    go_ret
    exact ⟨by first | rfl | (simp [errW_none, errW_some] <;> rfl) | (simp [*, errW_none, errW_some] <;> rfl), by repeat (first | (with_reducible first | exact HB.out | apply below_alloc | apply pw_below_drewN | apply below_drew1) | exact HB.out)⟩

/-! ### derricklaw07_shown: function 14 -/
def derricklaw07_shown.f  : Option (Bool) := (ttl_Until.f 18446744073709551614 5).bind fun t102 => (if t102 = 18446744073709551615 then ((ttl_Until.f 7 5).bind fun t103 => (if t103 = 12 then ((ttl_Left.f 12 7).bind fun t104 => (if t104 = 5 then ((ttl_Live.f 12 7).bind fun t105 => (some t105)) else (some false))) else (some false))) else (some false))
set_option maxHeartbeats 8000000 in
set_option maxRecDepth 100000 in
theorem derricklaw07_shown.calls  (r : Bool) (w : World) (h : derricklaw07_shown.f  = some r) :
    Calls Try.prog 14 #[] w fun e w' => e = .returned (.bool r) ∧ Below w.heap.size w w' := by
  have HB := Aside0.mk (Below.refl w.heap.size w)
  have H : ((ttl_Until.f 18446744073709551614 5).bind fun t102 => (if t102 = 18446744073709551615 then ((ttl_Until.f 7 5).bind fun t103 => (if t103 = 12 then ((ttl_Left.f 12 7).bind fun t104 => (if t104 = 5 then ((ttl_Live.f 12 7).bind fun t105 => (some t105)) else (some false))) else (some false))) else (some false))) = some r := h
  clear h
  replace H := Option.bind_eq_some_iff.mp H
  obtain ⟨t102, A10, H⟩ := H
  replace H : (if t102 = 18446744073709551615 then ((ttl_Until.f 7 5).bind fun t103 => (if t103 = 12 then ((ttl_Left.f 12 7).bind fun t104 => (if t104 = 5 then ((ttl_Live.f 12 7).bind fun t105 => (some t105)) else (some false))) else (some false))) else (some false)) = some r := H
  have A1 := Aside0.mk A10
  clear A10
  by_cases c2 : t102 = 18446744073709551615
  · rw [if_pos c2] at H
    have c2b0 : (t102 == 18446744073709551615) = true := beq_iff_eq.mpr c2
    have c2b1 : (t102 != 18446744073709551615) = false := bne_eq_false_iff_eq.mpr c2
    clear c2
    replace H := Option.bind_eq_some_iff.mp H
    obtain ⟨t103, A30, H⟩ := H
    replace H : (if t103 = 12 then ((ttl_Left.f 12 7).bind fun t104 => (if t104 = 5 then ((ttl_Live.f 12 7).bind fun t105 => (some t105)) else (some false))) else (some false)) = some r := H
    have A3 := Aside0.mk A30
    clear A30
    by_cases c4 : t103 = 12
    · rw [if_pos c4] at H
      have c4b0 : (t103 == 12) = true := beq_iff_eq.mpr c4
      have c4b1 : (t103 != 12) = false := bne_eq_false_iff_eq.mpr c4
      clear c4
      replace H := Option.bind_eq_some_iff.mp H
      obtain ⟨t104, A50, H⟩ := H
      replace H : (if t104 = 5 then ((ttl_Live.f 12 7).bind fun t105 => (some t105)) else (some false)) = some r := H
      have A5 := Aside0.mk A50
      clear A50
      by_cases c6 : t104 = 5
      · rw [if_pos c6] at H
        have c6b0 : (t104 == 5) = true := beq_iff_eq.mpr c6
        have c6b1 : (t104 != 5) = false := bne_eq_false_iff_eq.mpr c6
        clear c6
        replace H := Option.bind_eq_some_iff.mp H
        obtain ⟨t105, A70, H⟩ := H
        replace H : (some t105) = some r := H
        have A7 := Aside0.mk A70
        clear A70
        obtain rfl := Option.some.inj H
        go_enter Try.func14, Try.ntmps14
        go_wp2_with (first | ((with_reducible refine gate_callee (f := 15) rfl ?_); refine goesL_ (some 1) rfl rfl Try.func15 (by kernel_rfl) rfl #[.int .u64 18446744073709551614, .int .u32 5] rfl (by (try simp only [List.map_toArray, List.map_cons, List.map_nil]); first | done | rfl | (simp only [List.length_drop, List.length_take]; rfl)) ?_; (with_reducible refine (ttl_Until.calls 18446744073709551614 5 t102 _ A1.out).mono ?_); rintro e w' ⟨rfl, ⟨nd, rfl⟩⟩; refine ⟨_, rfl, ?_⟩) | (go_at_call 15; (with_reducible refine (ttl_Until.calls 7 5 t103 _ A3.out).mono ?_); rintro e w' ⟨rfl, ⟨nd, rfl⟩⟩) | (go_at_call 16; (with_reducible refine (ttl_Left.calls 12 7 t104 _ A5.out).mono ?_); rintro e w8 ⟨rfl, hb⟩; have n0_ := Aside0.mk (below_step (by repeat (first | (with_reducible first | exact HB.out | apply below_alloc | apply pw_below_drewN | apply below_drew1) | exact HB.out)) hb); clear HB; have HB := n0_; clear n0_; (try clear hb); (try clear hb2); (try clear hk); (try clear hi)) | (go_at_call 17; (with_reducible refine (ttl_Live.calls 12 7 t105 _ A7.out).mono ?_); rintro e w' ⟨rfl, ⟨nd, rfl⟩⟩))
        go_ret
        exact ⟨by first | rfl | (simp [errW_none, errW_some] <;> rfl) | (simp [*, errW_none, errW_some] <;> rfl), by repeat (first | (with_reducible first | exact HB.out | apply below_alloc | apply pw_below_drewN | apply below_drew1) | exact HB.out)⟩
      · rw [if_neg c6] at H
        have c6b0 : (t104 == 5) = false := beq_eq_false_iff_ne.mpr c6
        have c6b1 : (t104 != 5) = true := bne_iff_ne.mpr c6
        obtain rfl := Option.some.inj H
        go_enter Try.func14, Try.ntmps14
        go_wp2_with (first | ((with_reducible refine gate_callee (f := 15) rfl ?_); refine goesL_ (some 1) rfl rfl Try.func15 (by kernel_rfl) rfl #[.int .u64 18446744073709551614, .int .u32 5] rfl (by (try simp only [List.map_toArray, List.map_cons, List.map_nil]); first | done | rfl | (simp only [List.length_drop, List.length_take]; rfl)) ?_; (with_reducible refine (ttl_Until.calls 18446744073709551614 5 t102 _ A1.out).mono ?_); rintro e w' ⟨rfl, ⟨nd, rfl⟩⟩; refine ⟨_, rfl, ?_⟩) | (go_at_call 15; (with_reducible refine (ttl_Until.calls 7 5 t103 _ A3.out).mono ?_); rintro e w' ⟨rfl, ⟨nd, rfl⟩⟩) | (go_at_call 16; (with_reducible refine (ttl_Left.calls 12 7 t104 _ A5.out).mono ?_); rintro e w9 ⟨rfl, hb⟩; have n0_ := Aside0.mk (below_step (by repeat (first | (with_reducible first | exact HB.out | apply below_alloc | apply pw_below_drewN | apply below_drew1) | exact HB.out)) hb); clear HB; have HB := n0_; clear n0_; (try clear hb); (try clear hb2); (try clear hk); (try clear hi)))
        go_ret
        exact ⟨by first | rfl | (simp [errW_none, errW_some] <;> rfl) | (simp [*, errW_none, errW_some] <;> rfl), by repeat (first | (with_reducible first | exact HB.out | apply below_alloc | apply pw_below_drewN | apply below_drew1) | exact HB.out)⟩
    · rw [if_neg c4] at H
      have c4b0 : (t103 == 12) = false := beq_eq_false_iff_ne.mpr c4
      have c4b1 : (t103 != 12) = true := bne_iff_ne.mpr c4
      obtain rfl := Option.some.inj H
      go_enter Try.func14, Try.ntmps14
      go_wp2_with (first | ((with_reducible refine gate_callee (f := 15) rfl ?_); refine goesL_ (some 1) rfl rfl Try.func15 (by kernel_rfl) rfl #[.int .u64 18446744073709551614, .int .u32 5] rfl (by (try simp only [List.map_toArray, List.map_cons, List.map_nil]); first | done | rfl | (simp only [List.length_drop, List.length_take]; rfl)) ?_; (with_reducible refine (ttl_Until.calls 18446744073709551614 5 t102 _ A1.out).mono ?_); rintro e w' ⟨rfl, ⟨nd, rfl⟩⟩; refine ⟨_, rfl, ?_⟩) | (go_at_call 15; (with_reducible refine (ttl_Until.calls 7 5 t103 _ A3.out).mono ?_); rintro e w' ⟨rfl, ⟨nd, rfl⟩⟩))
      go_ret
      exact ⟨by first | rfl | (simp [errW_none, errW_some] <;> rfl) | (simp [*, errW_none, errW_some] <;> rfl), by repeat (first | (with_reducible first | exact HB.out | apply below_alloc | apply pw_below_drewN | apply below_drew1) | exact HB.out)⟩
  · rw [if_neg c2] at H
    have c2b0 : (t102 == 18446744073709551615) = false := beq_eq_false_iff_ne.mpr c2
    have c2b1 : (t102 != 18446744073709551615) = true := bne_iff_ne.mpr c2
    obtain rfl := Option.some.inj H
    go_enter Try.func14, Try.ntmps14
    go_wp2_with (first | ((with_reducible refine gate_callee (f := 15) rfl ?_); refine goesL_ (some 1) rfl rfl Try.func15 (by kernel_rfl) rfl #[.int .u64 18446744073709551614, .int .u32 5] rfl (by (try simp only [List.map_toArray, List.map_cons, List.map_nil]); first | done | rfl | (simp only [List.length_drop, List.length_take]; rfl)) ?_; (with_reducible refine (ttl_Until.calls 18446744073709551614 5 t102 _ A1.out).mono ?_); rintro e w' ⟨rfl, ⟨nd, rfl⟩⟩; refine ⟨_, rfl, ?_⟩))
    go_ret
    exact ⟨by first | rfl | (simp [errW_none, errW_some] <;> rfl) | (simp [*, errW_none, errW_some] <;> rfl), by repeat (first | (with_reducible first | exact HB.out | apply below_alloc | apply pw_below_drewN | apply below_drew1) | exact HB.out)⟩

/-! ### derricklaw07_TtlFalls: function 3 -/
def derricklaw07_TtlFalls.j0 : Nat → Int → Int → Int → Bool → Int → Bool → Option (Bool)
  | 0, _, _, _, _, _, _ => none
  | k + 1, x0, x1, x2, x7, x8, x28 => if x28 = true then (if x7 = true then (some (decide (x8 ≥ x0))) else (some false)) else ((ttl_Left.f x8 (IntKind.u64.wrap (x0 + (IntKind.u64.wrap (x2))))).bind fun t108 => (if x2 ≥ x1 then (if x7 = true then (if t108 = 0 then ((ttl_Live.f x8 (IntKind.u64.wrap (x0 + (IntKind.u64.wrap (x2))))).bind fun t109 => (some (!t109))) else (some false)) else (some false)) else (if x7 = true then (if t108 = ((x1 - x2) % 4294967296) then ((ttl_Live.f x8 (IntKind.u64.wrap (x0 + (IntKind.u64.wrap (x2))))).bind fun t110 => (if t110 = true then ((ttl_Left.f x8 (IntKind.u64.wrap ((IntKind.u64.wrap (x0 + (IntKind.u64.wrap (x2)))) + 1))).bind fun t111 => (some (t111 == ((t108 - 1) % 4294967296)))) else (some false))) else (some false)) else (some false))))
def derricklaw07_TtlFalls.f (k : Nat) (a0 : Int) (a1 : Int) (a2 : Int) : Option (Bool) := (derricklaw07_shown.f).bind fun t106 => ((ttl_Until.f a0 a1).bind fun t107 => (if (IntKind.u64.wrap (t107 - a0)) = (IntKind.u64.wrap (a1)) then (derricklaw07_TtlFalls.j0 k a0 a1 a2 t106 t107 (decide ((IntKind.u64.wrap (a0 + (IntKind.u64.wrap (a2)))) < a0))) else (derricklaw07_TtlFalls.j0 k a0 a1 a2 t106 t107 true)))
theorem derricklaw07_TtlFalls.mono_l : ∀ k, (∀ y0 y1 y2 y3 y4 y5, LeO (derricklaw07_TtlFalls.j0 k y0 y1 y2 y3 y4 y5) (derricklaw07_TtlFalls.j0 (k + 1) y0 y1 y2 y3 y4 y5))
  | 0 => fun _ _ _ _ _ _ r h => by simp [derricklaw07_TtlFalls.j0] at h
  | k + 1 => by
    have ih0 := derricklaw07_TtlFalls.mono_l k
    · intro y0 y1 y2 y3 y4 y5
      unfold derricklaw07_TtlFalls.j0
      repeat' first
      | (with_reducible exact ih0 _ _ _ _ _ _)
      | (with_reducible exact LeO.refl _)
      | (with_reducible exact LeO.none _)
      | (with_reducible refine LeO.ite ?_ ?_)
      | (with_reducible refine LeO.bind ?_ (fun _ => ?_))
      | exact ih0 _ _ _ _ _ _
      | exact LeO.none _
      | refine LeO.ite ?_ ?_
      | refine LeO.bind ?_ (fun _ => ?_)
theorem derricklaw07_TtlFalls.mono : ∀ a0 a1 a2 k, LeO (derricklaw07_TtlFalls.f k a0 a1 a2) (derricklaw07_TtlFalls.f (k + 1) a0 a1 a2) := by
  intro a0 a1 a2 k
  have ih0 := derricklaw07_TtlFalls.mono_l k
  unfold derricklaw07_TtlFalls.f
  repeat' first
      | (with_reducible exact ih0 _ _ _ _ _ _)
      | (with_reducible exact LeO.refl _)
      | (with_reducible exact LeO.none _)
      | (with_reducible refine LeO.ite ?_ ?_)
      | (with_reducible refine LeO.bind ?_ (fun _ => ?_))
      | exact ih0 _ _ _ _ _ _
      | exact LeO.none _
      | refine LeO.ite ?_ ?_
      | refine LeO.bind ?_ (fun _ => ?_)
set_option maxHeartbeats 8000000 in
set_option maxRecDepth 100000 in
theorem derricklaw07_TtlFalls.calls (k : Nat) (a0 : Int) (a1 : Int) (a2 : Int) (r : Bool) (w : World) (h : derricklaw07_TtlFalls.f k a0 a1 a2 = some r) :
    Calls Try.prog 3 #[.int .u64 a0, .int .u32 a1, .int .u32 a2] w fun e w' => e = .returned (.bool r) ∧ Below w.heap.size w w' := by
  have HB := Aside0.mk (Below.refl w.heap.size w)
  have H : ((derricklaw07_shown.f).bind fun t106 => ((ttl_Until.f a0 a1).bind fun t107 => (if (IntKind.u64.wrap (t107 - a0)) = (IntKind.u64.wrap (a1)) then (derricklaw07_TtlFalls.j0 k a0 a1 a2 t106 t107 (decide ((IntKind.u64.wrap (a0 + (IntKind.u64.wrap (a2)))) < a0))) else (derricklaw07_TtlFalls.j0 k a0 a1 a2 t106 t107 true)))) = some r := h
  clear h
  replace H := Option.bind_eq_some_iff.mp H
  obtain ⟨t106, A40, H⟩ := H
  replace H : ((ttl_Until.f a0 a1).bind fun t107 => (if (IntKind.u64.wrap (t107 - a0)) = (IntKind.u64.wrap (a1)) then (derricklaw07_TtlFalls.j0 k a0 a1 a2 t106 t107 (decide ((IntKind.u64.wrap (a0 + (IntKind.u64.wrap (a2)))) < a0))) else (derricklaw07_TtlFalls.j0 k a0 a1 a2 t106 t107 true))) = some r := H
  have A4 := Aside0.mk A40
  clear A40
  replace H := Option.bind_eq_some_iff.mp H
  obtain ⟨t107, A50, H⟩ := H
  replace H : (if (IntKind.u64.wrap (t107 - a0)) = (IntKind.u64.wrap (a1)) then (derricklaw07_TtlFalls.j0 k a0 a1 a2 t106 t107 (decide ((IntKind.u64.wrap (a0 + (IntKind.u64.wrap (a2)))) < a0))) else (derricklaw07_TtlFalls.j0 k a0 a1 a2 t106 t107 true)) = some r := H
  have A5 := Aside0.mk A50
  clear A50
  have HC6 := Aside0.mk H
  clear H
  go_enter Try.func3, Try.ntmps3
  go_upto_region 3 with (first | ((with_reducible refine gate_callee (f := 14) rfl ?_); refine goesL_ (some 11) rfl rfl Try.func14 (by kernel_rfl) rfl #[] rfl (by (try simp only [List.map_toArray, List.map_cons, List.map_nil]); first | done | rfl | (simp only [List.length_drop, List.length_take]; rfl)) ?_; (with_reducible refine (derricklaw07_shown.calls  t106 _ A4.out).mono ?_); rintro e w7 ⟨rfl, hb⟩; refine ⟨_, rfl, ?_⟩; have n0_ := Aside0.mk (below_step (by repeat (first | (with_reducible first | exact HB.out | apply below_alloc | apply pw_below_drewN | apply below_drew1) | exact HB.out)) hb); clear HB; have HB := n0_; clear n0_; (try clear hb); (try clear hb2); (try clear hk); (try clear hi)) | ((with_reducible refine gate_callee (f := 15) rfl ?_); refine goesL_ (some 14) rfl rfl Try.func15 (by kernel_rfl) rfl #[.int .u64 a0, .int .u32 a1] rfl (by (try simp only [List.map_toArray, List.map_cons, List.map_nil]); first | done | rfl | (simp only [List.length_drop, List.length_take]; rfl)) ?_; (with_reducible refine (ttl_Until.calls a0 a1 t107 _ A5.out).mono ?_); rintro e w' ⟨rfl, ⟨nd, rfl⟩⟩; refine ⟨_, rfl, ?_⟩))
  (try simp only [Act.put, List.setIfInBounds_toArray, List.set_cons_zero, List.set_cons_succ])
  go_cut [28] (fun v28 wc => ∃ (kq : Nat) (x28_5 : Bool), v28 = .bool x28_5 ∧ Aside0 (derricklaw07_TtlFalls.j0 kq a0 a1 a2 t106 t107 x28_5 = some r) ∧ Aside0 (kq ≤ k) ∧ Aside0 (Below w.heap.size w wc))
  case first =>
    have H := HC6.out
    clear HC6
    by_cases c8 : (IntKind.u64.wrap (t107 - a0)) = (IntKind.u64.wrap (a1))
    · rw [if_pos c8] at H
      have c8b0 : ((IntKind.u64.wrap (t107 - a0)) == (IntKind.u64.wrap (a1))) = true := beq_iff_eq.mpr c8
      have c8b1 : ((IntKind.u64.wrap (t107 - a0)) != (IntKind.u64.wrap (a1))) = false := bne_eq_false_iff_eq.mpr c8
      clear c8
      (first | rw [c8b0] | (simp only [i64_w, i32_w]; rw [c8b0]) | skip)
      have H' := Aside0.mk H
      clear H
      go_wp2
      go_meet
      case rel => exact ⟨_, (decide ((IntKind.u64.wrap (a0 + (IntKind.u64.wrap (a2)))) < a0)), (by first | rfl | (simp; done) | (simp [*]; done)), H', ⟨by first | omega | exact Nat.le_refl _⟩, ⟨by repeat (first | (with_reducible first | exact HB.out | apply below_alloc | apply pw_below_drewN | apply below_drew1) | exact HB.out)⟩⟩
    · rw [if_neg c8] at H
      have c8b0 : ((IntKind.u64.wrap (t107 - a0)) == (IntKind.u64.wrap (a1))) = false := beq_eq_false_iff_ne.mpr c8
      have c8b1 : ((IntKind.u64.wrap (t107 - a0)) != (IntKind.u64.wrap (a1))) = true := bne_iff_ne.mpr c8
      (first | rw [c8b0] | (simp only [i64_w, i32_w]; rw [c8b0]) | skip)
      have H' := Aside0.mk H
      clear H
      go_wp2
      go_meet
      case rel => exact ⟨_, (true), (by first | rfl | (simp; done) | (simp [*]; done)), H', ⟨by first | omega | exact Nat.le_refl _⟩, ⟨by repeat (first | (with_reducible first | exact HB.out | apply below_alloc | apply pw_below_drewN | apply below_drew1) | exact HB.out)⟩⟩
  case rest =>
    clear HC6
    try clear c1
    try clear p2
    try clear c3
    try clear c8
    try clear c8b0
    try clear c8b1
    obtain ⟨kq, x28_5, rfl, HA, HJ5, HB⟩ := hcut
    cases kq with
    | zero => exact absurd HA.out (by simp [derricklaw07_TtlFalls.j0])
    | succ kj5 =>
      have H := HA.out
      clear HA
      simp only [derricklaw07_TtlFalls.j0] at H
      by_cases c9 : x28_5 = true
      · subst c9
        have H1 : (if t106 = true then (some (decide (t107 ≥ a0))) else (some false)) = some r := by rw [if_pos rfl] at H; exact H
        clear H
        have H := H1
        clear H1
        by_cases c10 : t106 = true
        · subst c10
          have H1 : (some (decide (t107 ≥ a0))) = some r := by rw [if_pos rfl] at H; exact H
          clear H
          have H := H1
          clear H1
          obtain rfl := Option.some.inj H
          go_wp2
          go_ret
          exact ⟨by first | rfl | (simp [errW_none, errW_some] <;> rfl) | (simp [*, errW_none, errW_some] <;> rfl), by repeat (first | (with_reducible first | exact HB.out | apply below_alloc | apply pw_below_drewN | apply below_drew1) | exact HB.out)⟩
        · replace c10 := Bool.eq_false_iff.mpr c10
          subst c10
          have H1 : (some false) = some r := by rw [if_neg (show ¬ (false = true) by decide)] at H; exact H
          clear H
          have H := H1
          clear H1
          obtain rfl := Option.some.inj H
          go_wp2
          go_ret
          exact ⟨by first | rfl | (simp [errW_none, errW_some] <;> rfl) | (simp [*, errW_none, errW_some] <;> rfl), by repeat (first | (with_reducible first | exact HB.out | apply below_alloc | apply pw_below_drewN | apply below_drew1) | exact HB.out)⟩
      · replace c9 := Bool.eq_false_iff.mpr c9
        subst c9
        have H1 : ((ttl_Left.f t107 (IntKind.u64.wrap (a0 + (IntKind.u64.wrap (a2))))).bind fun t108 => (if a2 ≥ a1 then (if t106 = true then (if t108 = 0 then ((ttl_Live.f t107 (IntKind.u64.wrap (a0 + (IntKind.u64.wrap (a2))))).bind fun t109 => (some (!t109))) else (some false)) else (some false)) else (if t106 = true then (if t108 = ((a1 - a2) % 4294967296) then ((ttl_Live.f t107 (IntKind.u64.wrap (a0 + (IntKind.u64.wrap (a2))))).bind fun t110 => (if t110 = true then ((ttl_Left.f t107 (IntKind.u64.wrap ((IntKind.u64.wrap (a0 + (IntKind.u64.wrap (a2)))) + 1))).bind fun t111 => (some (t111 == ((t108 - 1) % 4294967296)))) else (some false))) else (some false)) else (some false)))) = some r := by rw [if_neg (show ¬ (false = true) by decide)] at H; exact H
        clear H
        have H := H1
        clear H1
        replace H := Option.bind_eq_some_iff.mp H
        obtain ⟨t108, A110, H⟩ := H
        replace H : (if a2 ≥ a1 then (if t106 = true then (if t108 = 0 then ((ttl_Live.f t107 (IntKind.u64.wrap (a0 + (IntKind.u64.wrap (a2))))).bind fun t109 => (some (!t109))) else (some false)) else (some false)) else (if t106 = true then (if t108 = ((a1 - a2) % 4294967296) then ((ttl_Live.f t107 (IntKind.u64.wrap (a0 + (IntKind.u64.wrap (a2))))).bind fun t110 => (if t110 = true then ((ttl_Left.f t107 (IntKind.u64.wrap ((IntKind.u64.wrap (a0 + (IntKind.u64.wrap (a2)))) + 1))).bind fun t111 => (some (t111 == ((t108 - 1) % 4294967296)))) else (some false))) else (some false)) else (some false))) = some r := H
        have A11 := Aside0.mk A110
        clear A110
        by_cases c12 : a2 ≥ a1
        · rw [if_pos c12] at H
          have c12b0 : decide (a1 ≤ a2) = true := decide_eq_true c12
          clear c12
          by_cases c13 : t106 = true
          · subst c13
            have H1 : (if t108 = 0 then ((ttl_Live.f t107 (IntKind.u64.wrap (a0 + (IntKind.u64.wrap (a2))))).bind fun t109 => (some (!t109))) else (some false)) = some r := by rw [if_pos rfl] at H; exact H
            clear H
            have H := H1
            clear H1
            by_cases c14 : t108 = 0
            · rw [if_pos c14] at H
              have c14b0 : (t108 == 0) = true := beq_iff_eq.mpr c14
              have c14b1 : (t108 != 0) = false := bne_eq_false_iff_eq.mpr c14
              clear c14
              replace H := Option.bind_eq_some_iff.mp H
              obtain ⟨t109, A150, H⟩ := H
              replace H : (some (!t109)) = some r := H
              have A15 := Aside0.mk A150
              clear A150
              obtain rfl := Option.some.inj H
              go_wp2_with (first | ((with_reducible refine gate_callee (f := 16) rfl ?_); refine goesL_ (some 41) rfl rfl Try.func16 (by kernel_rfl) rfl #[.int .u64 t107, .int .u64 (IntKind.u64.wrap (a0 + (IntKind.u64.wrap (a2))))] rfl (by (try simp only [List.map_toArray, List.map_cons, List.map_nil]); first | done | rfl | (simp only [List.length_drop, List.length_take]; rfl)) ?_; (with_reducible refine (ttl_Left.calls t107 (IntKind.u64.wrap (a0 + (IntKind.u64.wrap (a2)))) t108 _ A11.out).mono ?_); rintro e w16 ⟨rfl, hb⟩; refine ⟨_, rfl, ?_⟩; have n0_ := Aside0.mk (below_step (by repeat (first | (with_reducible first | exact HB.out | apply below_alloc | apply pw_below_drewN | apply below_drew1) | exact HB.out)) hb); clear HB; have HB := n0_; clear n0_; (try clear hb); (try clear hb2); (try clear hk); (try clear hi)) | (go_at_call 17; (with_reducible refine (ttl_Live.calls t107 (IntKind.u64.wrap (a0 + (IntKind.u64.wrap (a2)))) t109 _ A15.out).mono ?_); rintro e w' ⟨rfl, ⟨nd, rfl⟩⟩))
              go_ret
              exact ⟨by first | rfl | (simp [errW_none, errW_some] <;> rfl) | (simp [*, errW_none, errW_some] <;> rfl), by repeat (first | (with_reducible first | exact HB.out | apply below_alloc | apply pw_below_drewN | apply below_drew1) | exact HB.out)⟩
            · rw [if_neg c14] at H
              have c14b0 : (t108 == 0) = false := beq_eq_false_iff_ne.mpr c14
              have c14b1 : (t108 != 0) = true := bne_iff_ne.mpr c14
              obtain rfl := Option.some.inj H
              go_wp2_with (first | ((with_reducible refine gate_callee (f := 16) rfl ?_); refine goesL_ (some 41) rfl rfl Try.func16 (by kernel_rfl) rfl #[.int .u64 t107, .int .u64 (IntKind.u64.wrap (a0 + (IntKind.u64.wrap (a2))))] rfl (by (try simp only [List.map_toArray, List.map_cons, List.map_nil]); first | done | rfl | (simp only [List.length_drop, List.length_take]; rfl)) ?_; (with_reducible refine (ttl_Left.calls t107 (IntKind.u64.wrap (a0 + (IntKind.u64.wrap (a2)))) t108 _ A11.out).mono ?_); rintro e w17 ⟨rfl, hb⟩; refine ⟨_, rfl, ?_⟩; have n0_ := Aside0.mk (below_step (by repeat (first | (with_reducible first | exact HB.out | apply below_alloc | apply pw_below_drewN | apply below_drew1) | exact HB.out)) hb); clear HB; have HB := n0_; clear n0_; (try clear hb); (try clear hb2); (try clear hk); (try clear hi)))
              go_ret
              exact ⟨by first | rfl | (simp [errW_none, errW_some] <;> rfl) | (simp [*, errW_none, errW_some] <;> rfl), by repeat (first | (with_reducible first | exact HB.out | apply below_alloc | apply pw_below_drewN | apply below_drew1) | exact HB.out)⟩
          · replace c13 := Bool.eq_false_iff.mpr c13
            subst c13
            have H1 : (some false) = some r := by rw [if_neg (show ¬ (false = true) by decide)] at H; exact H
            clear H
            have H := H1
            clear H1
            obtain rfl := Option.some.inj H
            go_wp2_with (first | ((with_reducible refine gate_callee (f := 16) rfl ?_); refine goesL_ (some 41) rfl rfl Try.func16 (by kernel_rfl) rfl #[.int .u64 t107, .int .u64 (IntKind.u64.wrap (a0 + (IntKind.u64.wrap (a2))))] rfl (by (try simp only [List.map_toArray, List.map_cons, List.map_nil]); first | done | rfl | (simp only [List.length_drop, List.length_take]; rfl)) ?_; (with_reducible refine (ttl_Left.calls t107 (IntKind.u64.wrap (a0 + (IntKind.u64.wrap (a2)))) t108 _ A11.out).mono ?_); rintro e w18 ⟨rfl, hb⟩; refine ⟨_, rfl, ?_⟩; have n0_ := Aside0.mk (below_step (by repeat (first | (with_reducible first | exact HB.out | apply below_alloc | apply pw_below_drewN | apply below_drew1) | exact HB.out)) hb); clear HB; have HB := n0_; clear n0_; (try clear hb); (try clear hb2); (try clear hk); (try clear hi)))
            go_ret
            exact ⟨by first | rfl | (simp [errW_none, errW_some] <;> rfl) | (simp [*, errW_none, errW_some] <;> rfl), by repeat (first | (with_reducible first | exact HB.out | apply below_alloc | apply pw_below_drewN | apply below_drew1) | exact HB.out)⟩
        · rw [if_neg c12] at H
          have c12b0 : decide (a1 ≤ a2) = false := decide_eq_false c12
          clear c12
          by_cases c19 : t106 = true
          · subst c19
            have H1 : (if t108 = ((a1 - a2) % 4294967296) then ((ttl_Live.f t107 (IntKind.u64.wrap (a0 + (IntKind.u64.wrap (a2))))).bind fun t110 => (if t110 = true then ((ttl_Left.f t107 (IntKind.u64.wrap ((IntKind.u64.wrap (a0 + (IntKind.u64.wrap (a2)))) + 1))).bind fun t111 => (some (t111 == ((t108 - 1) % 4294967296)))) else (some false))) else (some false)) = some r := by rw [if_pos rfl] at H; exact H
            clear H
            have H := H1
            clear H1
            by_cases c20 : t108 = ((a1 - a2) % 4294967296)
            · rw [if_pos c20] at H
              have c20b0 : (t108 == ((a1 - a2) % 4294967296)) = true := beq_iff_eq.mpr c20
              have c20b1 : (t108 != ((a1 - a2) % 4294967296)) = false := bne_eq_false_iff_eq.mpr c20
              clear c20
              replace H := Option.bind_eq_some_iff.mp H
              obtain ⟨t110, A210, H⟩ := H
              replace H : (if t110 = true then ((ttl_Left.f t107 (IntKind.u64.wrap ((IntKind.u64.wrap (a0 + (IntKind.u64.wrap (a2)))) + 1))).bind fun t111 => (some (t111 == ((t108 - 1) % 4294967296)))) else (some false)) = some r := H
              have A21 := Aside0.mk A210
              clear A210
              by_cases c22 : t110 = true
              · subst c22
                have H1 : ((ttl_Left.f t107 (IntKind.u64.wrap ((IntKind.u64.wrap (a0 + (IntKind.u64.wrap (a2)))) + 1))).bind fun t111 => (some (t111 == ((t108 - 1) % 4294967296)))) = some r := by rw [if_pos rfl] at H; exact H
                clear H
                have H := H1
                clear H1
                replace H := Option.bind_eq_some_iff.mp H
                obtain ⟨t111, A230, H⟩ := H
                replace H : (some (t111 == ((t108 - 1) % 4294967296))) = some r := H
                have A23 := Aside0.mk A230
                clear A230
                obtain rfl := Option.some.inj H
                go_wp2_with (first | ((with_reducible refine gate_callee (f := 16) rfl ?_); refine goesL_ (some 41) rfl rfl Try.func16 (by kernel_rfl) rfl #[.int .u64 t107, .int .u64 (IntKind.u64.wrap (a0 + (IntKind.u64.wrap (a2))))] rfl (by (try simp only [List.map_toArray, List.map_cons, List.map_nil]); first | done | rfl | (simp only [List.length_drop, List.length_take]; rfl)) ?_; (with_reducible refine (ttl_Left.calls t107 (IntKind.u64.wrap (a0 + (IntKind.u64.wrap (a2)))) t108 _ A11.out).mono ?_); rintro e w24 ⟨rfl, hb⟩; refine ⟨_, rfl, ?_⟩; have n0_ := Aside0.mk (below_step (by repeat (first | (with_reducible first | exact HB.out | apply below_alloc | apply pw_below_drewN | apply below_drew1) | exact HB.out)) hb); clear HB; have HB := n0_; clear n0_; (try clear hb); (try clear hb2); (try clear hk); (try clear hi)) | (go_at_call 17; (with_reducible refine (ttl_Live.calls t107 (IntKind.u64.wrap (a0 + (IntKind.u64.wrap (a2)))) true _ A21.out).mono ?_); rintro e w' ⟨rfl, ⟨nd, rfl⟩⟩) | (go_at_call 16; (with_reducible refine (ttl_Left.calls t107 (IntKind.u64.wrap ((IntKind.u64.wrap (a0 + (IntKind.u64.wrap (a2)))) + 1)) t111 _ A23.out).mono ?_); rintro e w25 ⟨rfl, hb⟩; have n0_ := Aside0.mk (below_step (by repeat (first | (with_reducible first | exact HB.out | apply below_alloc | apply pw_below_drewN | apply below_drew1) | exact HB.out)) hb); clear HB; have HB := n0_; clear n0_; (try clear hb); (try clear hb2); (try clear hk); (try clear hi)))
                go_ret
                exact ⟨by first | rfl | (simp [errW_none, errW_some] <;> rfl) | (simp [*, errW_none, errW_some] <;> rfl), by repeat (first | (with_reducible first | exact HB.out | apply below_alloc | apply pw_below_drewN | apply below_drew1) | exact HB.out)⟩
              · replace c22 := Bool.eq_false_iff.mpr c22
                subst c22
                have H1 : (some false) = some r := by rw [if_neg (show ¬ (false = true) by decide)] at H; exact H
                clear H
                have H := H1
                clear H1
                obtain rfl := Option.some.inj H
                go_wp2_with (first | ((with_reducible refine gate_callee (f := 16) rfl ?_); refine goesL_ (some 41) rfl rfl Try.func16 (by kernel_rfl) rfl #[.int .u64 t107, .int .u64 (IntKind.u64.wrap (a0 + (IntKind.u64.wrap (a2))))] rfl (by (try simp only [List.map_toArray, List.map_cons, List.map_nil]); first | done | rfl | (simp only [List.length_drop, List.length_take]; rfl)) ?_; (with_reducible refine (ttl_Left.calls t107 (IntKind.u64.wrap (a0 + (IntKind.u64.wrap (a2)))) t108 _ A11.out).mono ?_); rintro e w26 ⟨rfl, hb⟩; refine ⟨_, rfl, ?_⟩; have n0_ := Aside0.mk (below_step (by repeat (first | (with_reducible first | exact HB.out | apply below_alloc | apply pw_below_drewN | apply below_drew1) | exact HB.out)) hb); clear HB; have HB := n0_; clear n0_; (try clear hb); (try clear hb2); (try clear hk); (try clear hi)) | (go_at_call 17; (with_reducible refine (ttl_Live.calls t107 (IntKind.u64.wrap (a0 + (IntKind.u64.wrap (a2)))) false _ A21.out).mono ?_); rintro e w' ⟨rfl, ⟨nd, rfl⟩⟩))
                go_ret
                exact ⟨by first | rfl | (simp [errW_none, errW_some] <;> rfl) | (simp [*, errW_none, errW_some] <;> rfl), by repeat (first | (with_reducible first | exact HB.out | apply below_alloc | apply pw_below_drewN | apply below_drew1) | exact HB.out)⟩
            · rw [if_neg c20] at H
              have c20b0 : (t108 == ((a1 - a2) % 4294967296)) = false := beq_eq_false_iff_ne.mpr c20
              have c20b1 : (t108 != ((a1 - a2) % 4294967296)) = true := bne_iff_ne.mpr c20
              obtain rfl := Option.some.inj H
              go_wp2_with (first | ((with_reducible refine gate_callee (f := 16) rfl ?_); refine goesL_ (some 41) rfl rfl Try.func16 (by kernel_rfl) rfl #[.int .u64 t107, .int .u64 (IntKind.u64.wrap (a0 + (IntKind.u64.wrap (a2))))] rfl (by (try simp only [List.map_toArray, List.map_cons, List.map_nil]); first | done | rfl | (simp only [List.length_drop, List.length_take]; rfl)) ?_; (with_reducible refine (ttl_Left.calls t107 (IntKind.u64.wrap (a0 + (IntKind.u64.wrap (a2)))) t108 _ A11.out).mono ?_); rintro e w27 ⟨rfl, hb⟩; refine ⟨_, rfl, ?_⟩; have n0_ := Aside0.mk (below_step (by repeat (first | (with_reducible first | exact HB.out | apply below_alloc | apply pw_below_drewN | apply below_drew1) | exact HB.out)) hb); clear HB; have HB := n0_; clear n0_; (try clear hb); (try clear hb2); (try clear hk); (try clear hi)))
              go_ret
              exact ⟨by first | rfl | (simp [errW_none, errW_some] <;> rfl) | (simp [*, errW_none, errW_some] <;> rfl), by repeat (first | (with_reducible first | exact HB.out | apply below_alloc | apply pw_below_drewN | apply below_drew1) | exact HB.out)⟩
          · replace c19 := Bool.eq_false_iff.mpr c19
            subst c19
            have H1 : (some false) = some r := by rw [if_neg (show ¬ (false = true) by decide)] at H; exact H
            clear H
            have H := H1
            clear H1
            obtain rfl := Option.some.inj H
            go_wp2_with (first | ((with_reducible refine gate_callee (f := 16) rfl ?_); refine goesL_ (some 41) rfl rfl Try.func16 (by kernel_rfl) rfl #[.int .u64 t107, .int .u64 (IntKind.u64.wrap (a0 + (IntKind.u64.wrap (a2))))] rfl (by (try simp only [List.map_toArray, List.map_cons, List.map_nil]); first | done | rfl | (simp only [List.length_drop, List.length_take]; rfl)) ?_; (with_reducible refine (ttl_Left.calls t107 (IntKind.u64.wrap (a0 + (IntKind.u64.wrap (a2)))) t108 _ A11.out).mono ?_); rintro e w28 ⟨rfl, hb⟩; refine ⟨_, rfl, ?_⟩; have n0_ := Aside0.mk (below_step (by repeat (first | (with_reducible first | exact HB.out | apply below_alloc | apply pw_below_drewN | apply below_drew1) | exact HB.out)) hb); clear HB; have HB := n0_; clear n0_; (try clear hb); (try clear hb2); (try clear hk); (try clear hi)))
            go_ret
            exact ⟨by first | rfl | (simp [errW_none, errW_some] <;> rfl) | (simp [*, errW_none, errW_some] <;> rfl), by repeat (first | (with_reducible first | exact HB.out | apply below_alloc | apply pw_below_drewN | apply below_drew1) | exact HB.out)⟩

/-- THE ONE PURE STATEMENT of derricklaw07_TtlFalls: yours. -/
def derricklaw07_TtlFalls.Pure : Prop := ∀ (a0 : Int) (a1 : Int) (a2 : Int), (Lit.int .u64 a0).wf = true → (Lit.int .u32 a1).wf = true → (Lit.int .u32 a2).wf = true → ∃ k, derricklaw07_TtlFalls.f k a0 a1 a2 = some true
theorem derricklaw07_TtlFalls.walk (P : derricklaw07_TtlFalls.Pure) (a0 : Int) (a1 : Int) (a2 : Int) (w : World) (w0 : (Lit.int .u64 a0).wf = true) (w1 : (Lit.int .u32 a1).wf = true) (w2 : (Lit.int .u32 a2).wf = true) :
    Calls Try.prog 3 #[.int .u64 a0, .int .u32 a1, .int .u32 a2] w fun e w' => e = .returned (.bool true) ∧ Below w.heap.size w w' := by
  obtain ⟨k, h⟩ := P a0 a1 a2 w0 w1 w2
  refine (derricklaw07_TtlFalls.calls k a0 a1 a2 true w h).mono ?_
  rintro e w' ⟨rfl, hd⟩
  exact ⟨rfl, hd⟩

end Go.Proofs.Ytgiofacmcpakoaa.PTtlFalls
