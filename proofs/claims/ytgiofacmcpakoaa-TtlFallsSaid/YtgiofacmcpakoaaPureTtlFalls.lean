/- Proved: TtlFalls answers true for every now, n and later (no condition). The walk is printed; here is the law about numbers. -/
import Derived.Test.YtgiofacmcpakoaaPTtlFallsx1
namespace Go.Proofs.Ytgiofacmcpakoaa.PureTtlFalls
open Go.RowKit Go.Proofs.Ytgiofacmcpakoaa.PTtlFalls Go.Proofs.YtgiofacmcpakoaaW.PrintWords Go.Proofs.YtgiofacmcpakoaaW.PrintLast Go.Proofs.YtgiofacmcpakoaaW.PrintMore

theorem wf32 {a : Int} (h : (Lit.int .u32 a).wf = true) : 0 ≤ a ∧ a ≤ 4294967295 := by
  simp [Lit.wf, IntKind.min, IntKind.max, IntKind.signed, IntKind.bits] at h; omega
theorem wf64 {a : Int} (h : (Lit.int .u64 a).wf = true) : 0 ≤ a ∧ a ≤ 18446744073709551615 := by
  simp [Lit.wf, IntKind.min, IntKind.max, IntKind.signed, IntKind.bits] at h; omega
theorem w64 (n : Int) : IntKind.u64.wrap n = n % 18446744073709551616 := by simp [IntKind.wrap, IntKind.bits, IntKind.signed]
theorem shown_true : derricklaw07_shown.f = some true := by decide +kernel
theorem until_eq (x y : Int) (hx : 0 ≤ x ∧ x ≤ 18446744073709551615) (hy : 0 ≤ y ∧ y ≤ 4294967295) :
    ttl_Until.f x y = some (if x + y > 18446744073709551615 then 18446744073709551615 else x + y) := by
  unfold ttl_Until.f
  simp only [w64]
  by_cases h : x + y > 18446744073709551615
  · rw [if_pos h, if_pos (by omega)]
  · rw [if_neg h, if_neg (by omega)]; congr 1; omega
theorem left_eq (x y : Int) (hx : 0 ≤ x ∧ x ≤ 18446744073709551615) (hy : 0 ≤ y ∧ y ≤ 18446744073709551615) :
    ttl_Left.f x y = some (if x > y then (if x - y > 4294967295 then 4294967295 else x - y) else 0) := by
  unfold ttl_Left.f ttl_Live.f mn
  simp only [w64, Option.bind_some]
  by_cases h : x > y
  · rw [if_pos h, if_pos (decide_eq_true h)]
    by_cases h2 : x - y > 4294967295
    · rw [if_pos h2, if_pos (by omega)]; rfl
    · rw [if_neg h2, if_neg (by omega)]; congr 1; omega
  · rw [if_neg h, if_neg (by simpa using h)]

end Go.Proofs.Ytgiofacmcpakoaa.PureTtlFalls
namespace Go.Proofs.Ytgiofacmcpakoaa.Pure
open Go.RowKit Go.Proofs.Ytgiofacmcpakoaa.PTtlFalls Go.Proofs.YtgiofacmcpakoaaW.PrintWords Go.Proofs.YtgiofacmcpakoaaW.PrintLast Go.Proofs.YtgiofacmcpakoaaW.PrintMore Go.Proofs.Ytgiofacmcpakoaa.PureTtlFalls

theorem TtlFalls : derricklaw07_TtlFalls.Pure := by
  intro a0 a1 a2 h0 h1 h2
  have b0 := wf64 h0
  have b1 := wf32 h1
  have b2 := wf32 h2
  clear h0 h1 h2
  refine ⟨1, ?_⟩
  unfold derricklaw07_TtlFalls.f
  simp only [shown_true, Option.bind_some, until_eq a0 a1 b0 b1, derricklaw07_TtlFalls.j0, w64, if_true]
  by_cases hu : a0 + a1 > 18446744073709551615
  · rw [if_pos hu]
    have e1 : ¬ ((18446744073709551615 - a0) % 18446744073709551616 = a1 % 18446744073709551616) := by omega
    rw [if_neg e1]
    congr 1
    exact decide_eq_true b0.2
  · rw [if_neg hu]
    have e1 : (a0 + a1 - a0) % 18446744073709551616 = a1 % 18446744073709551616 := by omega
    rw [if_pos e1]
    have e2 : a2 % 18446744073709551616 = a2 := by omega
    rw [e2]
    by_cases hv : a0 + a2 > 18446744073709551615
    · have e3 : (a0 + a2) % 18446744073709551616 < a0 := by omega
      rw [if_pos (decide_eq_true e3)]
      congr 1
      exact decide_eq_true (by omega)
    · have e3 : (a0 + a2) % 18446744073709551616 = a0 + a2 := by omega
      rw [e3, if_neg (by simp; omega)]
      rw [left_eq (a0 + a1) (a0 + a2) (by omega) (by omega)]
      simp only [Option.bind_some, ttl_Live.f]
      by_cases hw : a2 ≥ a1
      · rw [if_pos hw, if_neg (show ¬ (a0 + a1 > a0 + a2) by omega), if_pos rfl]
        congr 1
        simp
        omega
      · have e4 : (a0 + a2 + 1) % 18446744073709551616 = a0 + a2 + 1 := by omega
        rw [if_neg hw, if_pos (show a0 + a1 > a0 + a2 by omega), if_neg (show ¬ (a0 + a1 - (a0 + a2) > 4294967295) by omega), if_pos (by omega), if_pos (by simp; omega), e4, left_eq (a0 + a1) (a0 + a2 + 1) (by omega) (by omega)]
        simp only [Option.bind_some]
        congr 1
        simp only [beq_iff_eq]
        by_cases hx : a0 + a1 > a0 + a2 + 1
        · rw [if_pos hx, if_neg (by omega)]; omega
        · rw [if_neg hx]; omega

end Go.Proofs.Ytgiofacmcpakoaa.Pure
