/- WireTakes. -/
import Derived.Test.YtfepkpindchleaaW14
import Derived.Test.YtfepkpindchleaaW13
namespace Go.Proofs.YtfepkpindchleaaE
open Go Go.Proofs.YtfepkpindchleaaB
set_option linter.unusedVariables false
set_option linter.unusedSimpArgs false
/-- derricklaw03.WireTakes -/
def t5 (s : List UInt8) (at_ : Int) : Tr Res := Tr.br (decide ((↑(List.length s) : Int) > (1000 : Int))) (Tr.ret ([AV.bool true], [])) (Tr.br (bigS s) (Tr.br (bigS s) (Tr.br (tkS (takeG s at_ at_ (-1 : Int) []) == tkS (takeG s at_ at_ (-1 : Int) [])) (Tr.br (tkN (takeG s at_ at_ (-1 : Int) []) == tkN (takeG s at_ at_ (-1 : Int) [])) (Tr.ret ([AV.bool (tkE (takeG s at_ at_ (-1 : Int) []) == tkE (takeG s at_ at_ (-1 : Int) []))], [])) (Tr.ret ([AV.bool false], []))) (Tr.ret ([AV.bool false], []))) Tr.no) Tr.no)
def os5 : OSpec := { f := 5, sh := [.d .str false, .d (.int .i64) false], so := [], F := fun (s, at_, _) _ => t5 s at_ }
set_option maxRecDepth 1000000 in
theorem fn5 (s : List UInt8) (at_ : Int) : evC T0 (orcB [fs20w, fs27w, fs28w] []) (lpOf h5 0 (lsOf [])) c5 1000000 (startSt [.str s, .int .i64 at_] [] Try.f5.ntmps) (finishK T0 false 0 Try.f5) = (t5 s at_).get := by kernel_rfl
theorem ok5 : os5.Ok Try.prog := by
  refine os_ok mixed0 tab0 (orcB_sound (all_cons okf20w (all_cons okf27w (all_cons okf28w all_nil))) all_nil) h5 (d := 0) (n0 := 0) (S := lsOf []) Try.func5 (by kernel_rfl) (c := c5) (by kernel_rfl) rfl (no_loops (by kernel_rfl)) (by omega) (by kernel_rfl) ?_
  intro x'' y'' q'' hq''
  obtain ⟨(s : List UInt8), (at_ : Int), _⟩ := x''
  exact (fn5 s at_).trans hq''
def fs5 : FSpec := fsT 5 [(.str, false), ((.int .i64), false)] [(.bool, false)] fun (s, at_, _) => t5 s at_
theorem okf5 : fs5.Ok Try.prog := fsT_ok fun x'' r'' hr'' => ok5 x'' () r'' hr''
theorem wireTakes_all (s : List UInt8) (at_ : Int) : (t5 s at_).all fun x => x = ([.bool true], []) := by
  unfold t5
  by_cases h1 : (s.length : Int) > 1000
  · simp only [decide_eq_true h1, allT, allR]
  have hb : bigS s = true := by simp [bigS]; omega
  cases ho : takeG s at_ at_ (-1) [] with
  | none => simp [decide_eq_false h1, hb, tkE, tkS, tkN, allT, allF, allR]
  | some p => simp [decide_eq_false h1, hb, tkE, tkS, tkN, allT, allF, allR]
theorem sem5 (s : List UInt8) (at_ : Int) : SemF Try.prog 5 [.str s, .int .i64 at_] [] [.bool true] [] :=
  ok5 (s, at_, ()) () ([.bool true], []) (Tr.get_of_all (wireTakes_all s at_))
end Go.Proofs.YtfepkpindchleaaE
