/- Proved: TtlNever answers true for every expire, a, b and n (no condition). The walk is printed; here is the law about numbers. -/
import Derived.Test.YtgiofacmcpakoaaPTtlNeverx1
namespace Go.Proofs.Ytgiofacmcpakoaa.PureTtlNever
open Go.RowKit Go.Proofs.Ytgiofacmcpakoaa.PTtlNever Go.Proofs.YtgiofacmcpakoaaW.PrintWords Go.Proofs.YtgiofacmcpakoaaW.PrintLast Go.Proofs.YtgiofacmcpakoaaW.PrintMore

theorem wf32 {a : Int} (h : (Lit.int .u32 a).wf = true) : 0 ≤ a ∧ a ≤ 4294967295 := by
  simp [Lit.wf, IntKind.min, IntKind.max, IntKind.signed, IntKind.bits] at h; omega
theorem wf64 {a : Int} (h : (Lit.int .u64 a).wf = true) : 0 ≤ a ∧ a ≤ 18446744073709551615 := by
  simp [Lit.wf, IntKind.min, IntKind.max, IntKind.signed, IntKind.bits] at h; omega
theorem w64 (n : Int) : IntKind.u64.wrap n = n % 18446744073709551616 := by simp [IntKind.wrap, IntKind.bits, IntKind.signed]
theorem shown_true : derricklaw07_shown.f = some true := by decide +kernel
theorem until_eq (x y : Int) (hx : 0 ≤ x ∧ x ≤ 18446744073709551615) (hy : 0 ≤ y ∧ y ≤ 4294967295) :
    ttl_Until.f x y = some (if x + y > 18446744073709551615 then 18446744073709551615 else x + y) := by
  unfold ttl_Until.f
  simp only [w64]
  by_cases h : x + y > 18446744073709551615
  · rw [if_pos h, if_pos (by omega)]
  · rw [if_neg h, if_neg (by omega)]; congr 1; omega
theorem left_eq (x y : Int) (hx : 0 ≤ x ∧ x ≤ 18446744073709551615) (hy : 0 ≤ y ∧ y ≤ 18446744073709551615) :
    ttl_Left.f x y = some (if x > y then (if x - y > 4294967295 then 4294967295 else x - y) else 0) := by
  unfold ttl_Left.f ttl_Live.f mn
  simp only [w64, Option.bind_some]
  by_cases h : x > y
  · rw [if_pos h, if_pos (decide_eq_true h)]
    by_cases h2 : x - y > 4294967295
    · rw [if_pos h2, if_pos (by omega)]; rfl
    · rw [if_neg h2, if_neg (by omega)]; congr 1; omega
  · rw [if_neg h, if_neg (by simpa using h)]

end Go.Proofs.Ytgiofacmcpakoaa.PureTtlNever
namespace Go.Proofs.Ytgiofacmcpakoaa.Pure
open Go.RowKit Go.Proofs.Ytgiofacmcpakoaa.PTtlNever Go.Proofs.YtgiofacmcpakoaaW.PrintWords Go.Proofs.YtgiofacmcpakoaaW.PrintLast Go.Proofs.YtgiofacmcpakoaaW.PrintMore Go.Proofs.Ytgiofacmcpakoaa.PureTtlNever

theorem TtlNever : derricklaw07_TtlNever.Pure := by
  intro a0 a1 a2 a3 h0 h1 h2 h3
  have b0 := wf64 h0
  have b1 := wf64 h1
  have b2 := wf64 h2
  have b3 := wf32 h3
  clear h0 h1 h2 h3
  unfold derricklaw07_TtlNever.f
  obtain ⟨f, hf⟩ : ∃ f, mn a1 a2 = f := ⟨_, rfl⟩
  obtain ⟨g, hg⟩ : ∃ g, mx a1 a2 = g := ⟨_, rfl⟩
  have bf : 0 ≤ f ∧ f ≤ 18446744073709551615 ∧ f ≤ g ∧ g ≤ 18446744073709551615 := by unfold mn at hf; unfold mx at hg; split at hf <;> split at hg <;> omega
  rw [hf, hg]
  clear hf hg
  simp only [shown_true, Option.bind_some, left_eq a0 f b0 ⟨bf.1, bf.2.1⟩, left_eq a0 g b0 ⟨by omega, bf.2.2.2⟩, until_eq a1 a3 b1 b3, until_eq f a3 ⟨bf.1, bf.2.1⟩ b3, until_eq g a3 ⟨by omega, bf.2.2.2⟩ b3, ttl_Live.f]
  rw [left_eq _ a1 (by split <;> omega) b1]
  simp only [Option.bind_some]
  rw [if_true]
  have q1 : (if a0 > g then (if a0 - g > 4294967295 then (4294967295 : Int) else a0 - g) else 0) ≤ (if a0 > f then (if a0 - f > 4294967295 then (4294967295 : Int) else a0 - f) else 0) := by
    by_cases c1 : a0 > g
    · rw [if_pos c1, if_pos (show a0 > f by omega)]
      by_cases c2 : a0 - g > 4294967295
      · rw [if_pos c2, if_pos (by omega)]; omega
      · rw [if_neg c2]
        split <;> omega
    · rw [if_neg c1]
      split
      · split <;> omega
      · omega
  rw [if_pos q1]
  have q2 : (((if a0 > f then (if a0 - f > 4294967295 then (4294967295 : Int) else a0 - f) else 0) == 0) == !(decide (a0 > f))) = true := by
    by_cases c1 : a0 > f
    · rw [if_pos c1]
      by_cases c2 : a0 - f > 4294967295
      · rw [if_pos c2]; simp [c1]
      · rw [if_neg c2]; simp [c1]; omega
    · rw [if_neg c1]; simp [c1]
  rw [if_pos q2]
  have q3 : (if (if a1 + a3 > 18446744073709551615 then (18446744073709551615 : Int) else a1 + a3) > a1 then (if (if a1 + a3 > 18446744073709551615 then (18446744073709551615 : Int) else a1 + a3) - a1 > 4294967295 then (4294967295 : Int) else (if a1 + a3 > 18446744073709551615 then (18446744073709551615 : Int) else a1 + a3) - a1) else 0) ≤ a3 := by
    by_cases c1 : a1 + a3 > 18446744073709551615
    · simp only [if_pos c1]
      split
      · split <;> omega
      · omega
    · simp only [if_neg c1]
      split
      · split <;> omega
      · omega
  rw [if_pos q3]
  congr 1
  refine decide_eq_true ?_
  by_cases c1 : f + a3 > 18446744073709551615
  · rw [if_pos c1, if_pos (by omega)]; omega
  · rw [if_neg c1]
    split <;> omega

end Go.Proofs.Ytgiofacmcpakoaa.Pure
