/- Proved: TtlTells answers true for every now, expire, a and most (no condition). The walk is printed; here is the law about numbers. -/
import Derived.Test.YtgiofacmcpakoaaPTtlTellsx1
namespace Go.Proofs.Ytgiofacmcpakoaa.PureTtlTells
open Go.RowKit Go.Proofs.Ytgiofacmcpakoaa.PTtlTells Go.Proofs.YtgiofacmcpakoaaW.PrintWords Go.Proofs.YtgiofacmcpakoaaW.PrintLast Go.Proofs.YtgiofacmcpakoaaW.PrintMore

theorem wf32 {a : Int} (h : (Lit.int .u32 a).wf = true) : 0 ≤ a ∧ a ≤ 4294967295 := by
  simp [Lit.wf, IntKind.min, IntKind.max, IntKind.signed, IntKind.bits] at h; omega
theorem wf64 {a : Int} (h : (Lit.int .u64 a).wf = true) : 0 ≤ a ∧ a ≤ 18446744073709551615 := by
  simp [Lit.wf, IntKind.min, IntKind.max, IntKind.signed, IntKind.bits] at h; omega
theorem w64 (n : Int) : IntKind.u64.wrap n = n % 18446744073709551616 := by simp [IntKind.wrap, IntKind.bits, IntKind.signed]
theorem shown_true : derricklaw07_shown.f = some true := by decide +kernel
theorem until_eq (x y : Int) (hx : 0 ≤ x ∧ x ≤ 18446744073709551615) (hy : 0 ≤ y ∧ y ≤ 4294967295) :
    ttl_Until.f x y = some (if x + y > 18446744073709551615 then 18446744073709551615 else x + y) := by
  unfold ttl_Until.f
  simp only [w64]
  by_cases h : x + y > 18446744073709551615
  · rw [if_pos h, if_pos (by omega)]
  · rw [if_neg h, if_neg (by omega)]; congr 1; omega
theorem left_eq (x y : Int) (hx : 0 ≤ x ∧ x ≤ 18446744073709551615) (hy : 0 ≤ y ∧ y ≤ 18446744073709551615) :
    ttl_Left.f x y = some (if x > y then (if x - y > 4294967295 then 4294967295 else x - y) else 0) := by
  unfold ttl_Left.f ttl_Live.f mn
  simp only [w64, Option.bind_some]
  by_cases h : x > y
  · rw [if_pos h, if_pos (decide_eq_true h)]
    by_cases h2 : x - y > 4294967295
    · rw [if_pos h2, if_pos (by omega)]; rfl
    · rw [if_neg h2, if_neg (by omega)]; congr 1; omega
  · rw [if_neg h, if_neg (by simpa using h)]

end Go.Proofs.Ytgiofacmcpakoaa.PureTtlTells
namespace Go.Proofs.Ytgiofacmcpakoaa.Pure
open Go.RowKit Go.Proofs.Ytgiofacmcpakoaa.PTtlTells Go.Proofs.YtgiofacmcpakoaaW.PrintWords Go.Proofs.YtgiofacmcpakoaaW.PrintLast Go.Proofs.YtgiofacmcpakoaaW.PrintMore Go.Proofs.Ytgiofacmcpakoaa.PureTtlTells

theorem TtlTells : derricklaw07_TtlTells.Pure := by
  intro a0 a1 a2 a3 h0 h1 h2 h3
  have b0 := wf64 h0
  have b1 := wf64 h1
  have b2 := wf32 h2
  have b3 := wf32 h3
  clear h0 h1 h2 h3
  have r1 : derrickref07_Until.f a0 a2 = some (if a0 + a2 > 18446744073709551615 then 18446744073709551615 else a0 + a2) := by
    unfold derrickref07_Until.f
    simp only [w64]
    by_cases h : a0 + a2 > 18446744073709551615
    · rw [if_pos h, if_pos (by omega)]
    · rw [if_neg h, if_neg (by omega)]; congr 1; omega
  have r2 : derrickref07_Left.f a1 a0 = some (if a1 > a0 then (if a1 - a0 > 4294967295 then 4294967295 else a1 - a0) else 0) := by
    unfold derrickref07_Left.f
    simp only [w64]
    by_cases h : a1 > a0
    · rw [if_pos h, if_neg (by omega)]
      by_cases h2 : a1 - a0 > 4294967295
      · rw [if_pos h2, if_pos (by omega)]
      · rw [if_neg h2, if_neg (by omega)]; congr 1; omega
    · rw [if_neg h, if_pos (by omega)]
  have r3 : derrickref07_Clamp.f a2 a3 = ttl_Clamp.f a2 a3 := by
    unfold derrickref07_Clamp.f ttl_Clamp.f mn
    have e : Int.tdiv a2 2147483648 = a2 / 2147483648 := Int.tdiv_eq_ediv_of_nonneg b2.1
    rw [e]
    by_cases h : a2 ≥ 2147483648
    · rw [if_pos h, if_pos (by omega)]
    · rw [if_neg h, if_neg (by omega)]
      by_cases h2 : a2 > a3
      · rw [if_pos h2, if_pos h2]
      · rw [if_neg h2, if_neg h2]
  obtain ⟨c, hc⟩ : ∃ c, ttl_Clamp.f a2 a3 = some c := by unfold ttl_Clamp.f; split <;> exact ⟨_, rfl⟩
  unfold derricklaw07_TtlTells.f
  simp only [shown_true, Option.bind_some, until_eq a0 a2 b0 b2, r1, left_eq a1 a0 b1 b0, r2, ttl_Live.f, r3, hc, if_true]
  simp

end Go.Proofs.Ytgiofacmcpakoaa.Pure
