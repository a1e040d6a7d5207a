/- TtlLists: the law. -/
import Derived.Test.YtgiofacmcpakoaaL07D
namespace Go.Proofs.YtgiofacmcpakoaaE
open Go
set_option linter.unusedVariables false
theorem min_same (t : Int) : ∀ (l : List RR.den), ((withL l t).map ttlOf).foldl minI t = t
  | [] => rfl
  | x :: xs => by
    simp only [withL, List.map_cons, List.foldl_cons]
    rw [show minI t (ttlOf (setT x t)) = t by unfold minI; simp [setT, ttlOf]]
    exact min_same t xs
theorem fn8 (l : List RR.den) (t : Int) : evC T0 (orcOf [fs14, fs22, fs23, fs24, fs26, fs25]) (lpOf h8 0 (lsOf [])) c8 1000000 (startSt [.list RR l, .int .u32 t] [] Try.f8.ntmps) (finishK T0 false 0 Try.f8) =
    bif decide ((l.length : Int) > 200) then some ([.bool true], []) else bif fits (([] : List RR.den).length + l.length) 40 then (bif bigL l then (bif bigL l then (bif bigL l then
      (bif minL (ttls l) == minL (ttls l) then (bif bigL l then (bif bigL (withL l t) && bigL (withL l t) then (bif rrsI (withL l t) (withL l t) then (bif bigL l && bigL ([] ++ l) then (bif rrsI l ([] ++ l) then
        (bif (l.length : Int) == 0 then some ([.bool true], []) else bif bigL (withL l t) then some ([.bool (minL (ttls (withL l t)) == t)], []) else none)
        else some ([.bool false], [])) else none) else some ([.bool false], [])) else none) else none) else some ([.bool false], [])) else none) else none) else none) else none := by kernel_rfl
theorem sem8 (l : List RR.den) (t : Int) : SemF Try.prog 8 [.list RR l, .int .u32 t] [] [.bool true] [] := by
  refine evFn_semF mixed0 tab0 (orcOf_sound [fs14, fs22, fs23, fs24, fs26, fs25] (by simp [ok14, ok22, ok23, ok24, ok26, ok25])) (H := h8) (d := 0) (S := lsOf []) Try.func8 (by kernel_rfl) (c := c8) (by kernel_rfl) (no_loops (by kernel_rfl)) (by omega) (by kernel_rfl) ?_
  refine (fn8 l t).trans ?_
  by_cases h3 : l.length > 200
  · rw [dec_true (by omega)]; rfl
  have hw : (withL l t).length = l.length := by simp [withL]
  have e1 : bigL l = true := by simp [bigL]; omega
  have e2 : bigL (withL l t) = true := by simp [bigL, hw]; omega
  have e3 : rrsI (withL l t) (withL l t) = true := decide_eq_true rfl
  have e4 : rrsI l ([] ++ l) = true := decide_eq_true rfl
  rw [dec_false (by omega), fits_true (by simp; omega) (by simp; omega), e1, e2, e3, e4, show bigL ([] ++ l) = true from e1, show (minL (ttls l) == minL (ttls l)) = true by simp]
  cases l with
  | nil => rfl
  | cons x xs =>
    rw [show (((x :: xs).length : Int) == 0) = false by simp; omega]
    have : minL (ttls (withL (x :: xs) t)) = t := min_same t xs
    rw [this]
    simp

end Go.Proofs.YtgiofacmcpakoaaE
