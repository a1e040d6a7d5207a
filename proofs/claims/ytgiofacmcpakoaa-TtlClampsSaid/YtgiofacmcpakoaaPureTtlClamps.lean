/- Proved: TtlClamps answers true for every a and most (no condition). The walk is printed; here is the law about numbers. -/
import Derived.Test.YtgiofacmcpakoaaPTtlClampsx1
namespace Go.Proofs.Ytgiofacmcpakoaa.PureTtlClamps
open Go.RowKit Go.Proofs.Ytgiofacmcpakoaa.PTtlClamps Go.Proofs.YtgiofacmcpakoaaW.PrintWords Go.Proofs.YtgiofacmcpakoaaW.PrintLast Go.Proofs.YtgiofacmcpakoaaW.PrintMore

theorem wf32 {a : Int} (h : (Lit.int .u32 a).wf = true) : 0 ≤ a ∧ a ≤ 4294967295 := by
  simp [Lit.wf, IntKind.min, IntKind.max, IntKind.signed, IntKind.bits] at h; omega
theorem wf64 {a : Int} (h : (Lit.int .u64 a).wf = true) : 0 ≤ a ∧ a ≤ 18446744073709551615 := by
  simp [Lit.wf, IntKind.min, IntKind.max, IntKind.signed, IntKind.bits] at h; omega
theorem w64 (n : Int) : IntKind.u64.wrap n = n % 18446744073709551616 := by simp [IntKind.wrap, IntKind.bits, IntKind.signed]
theorem shown_true : derricklaw07_shown.f = some true := by decide +kernel
theorem until_eq (x y : Int) (hx : 0 ≤ x ∧ x ≤ 18446744073709551615) (hy : 0 ≤ y ∧ y ≤ 4294967295) :
    ttl_Until.f x y = some (if x + y > 18446744073709551615 then 18446744073709551615 else x + y) := by
  unfold ttl_Until.f
  simp only [w64]
  by_cases h : x + y > 18446744073709551615
  · rw [if_pos h, if_pos (by omega)]
  · rw [if_neg h, if_neg (by omega)]; congr 1; omega
theorem left_eq (x y : Int) (hx : 0 ≤ x ∧ x ≤ 18446744073709551615) (hy : 0 ≤ y ∧ y ≤ 18446744073709551615) :
    ttl_Left.f x y = some (if x > y then (if x - y > 4294967295 then 4294967295 else x - y) else 0) := by
  unfold ttl_Left.f ttl_Live.f mn
  simp only [w64, Option.bind_some]
  by_cases h : x > y
  · rw [if_pos h, if_pos (decide_eq_true h)]
    by_cases h2 : x - y > 4294967295
    · rw [if_pos h2, if_pos (by omega)]; rfl
    · rw [if_neg h2, if_neg (by omega)]; congr 1; omega
  · rw [if_neg h, if_neg (by simpa using h)]

end Go.Proofs.Ytgiofacmcpakoaa.PureTtlClamps
namespace Go.Proofs.Ytgiofacmcpakoaa.Pure
open Go.RowKit Go.Proofs.Ytgiofacmcpakoaa.PTtlClamps Go.Proofs.YtgiofacmcpakoaaW.PrintWords Go.Proofs.YtgiofacmcpakoaaW.PrintLast Go.Proofs.YtgiofacmcpakoaaW.PrintMore Go.Proofs.Ytgiofacmcpakoaa.PureTtlClamps

theorem TtlClamps : derricklaw07_TtlClamps.Pure := by
  intro a0 a1 h0 h1
  have b0 := wf32 h0
  have b1 := wf32 h1
  clear h0 h1
  have hc : ∀ x y, ttl_Clamp.f x y = some (if x ≥ 2147483648 then 0 else mn x y) := by intro x y; unfold ttl_Clamp.f; split <;> rfl
  unfold derricklaw07_TtlClamps.f
  simp only [hc, Option.bind_some, shown_true, if_true]
  unfold mn
  by_cases h : a0 ≥ 2147483648
  · have e : (if (0 : Int) ≥ 2147483648 then (0 : Int) else if a1 < 0 then a1 else 0) = 0 := by rw [if_neg (by omega), if_neg (by omega)]
    rw [if_pos h, if_pos (by omega), if_pos (by omega), e, if_pos rfl, if_neg (by omega), if_pos rfl, if_pos h]
  · by_cases h2 : a1 < a0
    · have e : (if a1 ≥ 2147483648 then (0 : Int) else if a1 < a1 then a1 else a1) = a1 := by rw [if_neg (by omega), if_neg (by omega)]
      rw [if_neg h, if_pos h2, if_pos (by omega), if_pos (by omega), e, if_pos rfl, if_pos (by omega), if_neg h, if_pos (by omega)]
    · have e : (if a0 ≥ 2147483648 then (0 : Int) else if a1 < a0 then a1 else a0) = a0 := by rw [if_neg (by omega), if_neg (by omega)]
      rw [if_neg h, if_neg h2, if_pos (by omega), if_pos (by omega), e, if_pos rfl, if_pos (by omega), if_neg h, if_neg (by omega)]
      simp

end Go.Proofs.Ytgiofacmcpakoaa.Pure
