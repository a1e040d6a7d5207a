/- TtlLeast. -/
import Derived.Test.YtgiofacmcpakoaaL07A
namespace Go.Proofs.YtgiofacmcpakoaaE
open Go
set_option linter.unusedVariables false

theorem min_fold (a : Int) : ∀ (ys : List Int) (y : Int), ys.foldl minI (minI a y) = minI a (ys.foldl minI y)
  | [], y => rfl
  | z :: ys, y => by
    simp only [List.foldl_cons]
    rw [show minI (minI a y) z = minI a (minI y z) by unfold minI; (repeat' split) <;> omega]
    exact min_fold a ys (minI y z)
theorem minL_append : ∀ (l k : List Int), l ≠ [] → k ≠ [] → minL (l ++ k) = minI (minL l) (minL k)
  | [], _, h, _ => absurd rfl h
  | _, [], _, h => absurd rfl h
  | x :: xs, y :: ys, _, _ => by
    simp only [List.cons_append, minL, List.foldl_append, List.foldl_cons]
    exact min_fold _ ys y
theorem fold_le : ∀ (ys : List Int) (y : Int), ys.foldl minI y ≤ y
  | [], y => Int.le_refl y
  | z :: ys, y => by
    have h := fold_le ys (minI y z)
    have : minI y z ≤ y := by unfold minI; split <;> omega
    simp only [List.foldl_cons]
    omega

theorem fn7 (l k : List RR.den) : evC T0 (orcOf [fs14, fs22]) (lpOf h7 0 (lsOf [])) c7 1000000 (startSt [.list RR l, .list RR k] [] Try.f7.ntmps) (finishK T0 false 0 Try.f7) =
    bif (l.length : Int) == 0 then some ([.bool (minL (ttls []) == 0)], []) else
    bif (k.length : Int) == 0 then some ([.bool (minL (ttls []) == 0)], []) else
    bif decide ((l.length : Int) > 200) then some ([.bool (minL (ttls []) == 0)], []) else
    bif decide ((k.length : Int) > 200) then some ([.bool (minL (ttls []) == 0)], []) else
    bif fits (([] : List RR.den).length + l.length) 40 then (bif fits (([] ++ l).length + k.length) 40 then (bif bigL ([] ++ l ++ k) then (bif bigL l then (bif bigL k then
      (bif minL (ttls ([] ++ l ++ k)) == (if minL (ttls k) < minL (ttls l) then minL (ttls k) else minL (ttls l)) then
        (bif bigL ([] ++ l ++ k) then (bif decide ((0 : Int) < l.length) then some ([.bool (decide (minL (ttls ([] ++ l ++ k)) ≤ ttlOf (l.getD (Int.toNat 0) (Ty.dflt RR))))], []) else none) else none)
        else some ([.bool false], [])) else none) else none) else none) else none) else none := by kernel_rfl

theorem sem7 (l k : List RR.den) : SemF Try.prog 7 [.list RR l, .list RR k] [] [.bool true] [] := by
  refine evFn_semF mixed0 tab0 (orcOf_sound [fs14, fs22] (by simp [ok14, ok22])) (H := h7) (d := 0) (S := lsOf []) Try.func7 (by kernel_rfl) (c := c7) (by kernel_rfl) (no_loops (by kernel_rfl)) (by omega) (by kernel_rfl) ?_
  refine (fn7 l k).trans ?_
  by_cases h1 : l.length = 0
  · rw [show ((l.length : Int) == 0) = true by simp [h1]]; rfl
  by_cases h2 : k.length = 0
  · rw [show ((k.length : Int) == 0) = true by simp [h2], show ((l.length : Int) == 0) = false by simpa using h1]; rfl
  rw [show ((l.length : Int) == 0) = false by simpa using h1, show ((k.length : Int) == 0) = false by simpa using h2]
  simp only [cond_false]
  by_cases h3 : l.length > 200
  · rw [dec_true (by omega)]; rfl
  by_cases h4 : k.length > 200
  · rw [dec_false (by omega), dec_true (by omega)]; rfl
  have e1 : bigL l = true := by simp [bigL]; omega
  have e2 : bigL k = true := by simp [bigL]; omega
  have e3 : bigL ([] ++ l ++ k) = true := by simp [bigL]; omega
  have hl : ttls l ≠ [] := by intro h; apply h1; have := congrArg List.length h; simpa [ttls] using this
  have hk : ttls k ≠ [] := by intro h; apply h2; have := congrArg List.length h; simpa [ttls] using this
  have e4 : minL (ttls ([] ++ l ++ k)) = if minL (ttls k) < minL (ttls l) then minL (ttls k) else minL (ttls l) := by
    have : ttls ([] ++ l ++ k) = ttls l ++ ttls k := by simp [ttls]
    rw [this, minL_append _ _ hl hk]
    rfl
  have e5 : minL (ttls ([] ++ l ++ k)) ≤ ttlOf (l.getD (Int.toNat 0) (Ty.dflt RR)) := by
    have : ttls ([] ++ l ++ k) = ttls l ++ ttls k := by simp [ttls]
    rw [this]
    cases l with
    | nil => simp at h1
    | cons x xs => exact fold_le _ _
  rw [dec_false (by omega), dec_false (by omega), e1, e2, e3, fits_true (by simp; omega) (by simp; omega), fits_true (by simp; omega) (by simp; omega), show (minL (ttls ([] ++ l ++ k)) == if minL (ttls k) < minL (ttls l) then minL (ttls k) else minL (ttls l)) = true by simp only [beq_iff_eq]; exact e4, dec_true (by omega), dec_true e5]
  rfl

end Go.Proofs.YtgiofacmcpakoaaE
