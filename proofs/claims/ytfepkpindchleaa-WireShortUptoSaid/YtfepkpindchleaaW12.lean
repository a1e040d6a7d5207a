/- layer 3: the law's example. -/
import Derived.Test.YtfepkpindchleaaQ3
import Derived.Test.YtfepkpindchleaaW11
namespace Go.Proofs.YtfepkpindchleaaE
open Go Go.Proofs.YtfepkpindchleaaB
set_option linter.unusedVariables false
set_option linter.unusedSimpArgs false
/-- derricklaw03.shown -/
def t20 : Tr Res := Tr.ret ([AV.bool (tkE (takeG (intBytes (bytesInt (Prod.fst (nameP ([2, 97, 98, 0]) (intBytes (bytesInt (Prod.fst (nameP ([3, 119, 119, 119, 2, 97, 98, 0]) (intBytes []) [])))) (Prod.snd (nameP ([3, 119, 119, 119, 2, 97, 98, 0]) (intBytes []) [])))))) (8 : Int) (8 : Int) (-1 : Int) []) == (0 : Int))], [])
def os20 : OSpec := { f := 20, sh := [], so := [], F := fun _ _ => t20 }
set_option maxRecDepth 1000000 in
theorem fn20 : evC T0 (orcB [fs27w] [os16, os24w, os19, os26]) (lpOf h20 0 (lsOf [])) c20 1000000 (startSt [] [] Try.f20.ntmps) (finishK T0 false 0 Try.f20) = (t20).get := by kernel_rfl
theorem ok20 : os20.Ok Try.prog := by
  refine os_ok mixed0 tab0 (orcB_sound (all_cons okf27w all_nil) (all_cons ok16 (all_cons ok24w (all_cons ok19 (all_cons ok26 all_nil))))) h20 (d := 0) (n0 := 0) (S := lsOf []) Try.func20 (by kernel_rfl) (c := c20) (by kernel_rfl) rfl (no_loops (by kernel_rfl)) (by omega) (by kernel_rfl) ?_
  intro x'' y'' q'' hq''
  exact (fn20).trans hq''
def fs20 : FSpec := fsT 20 [] [(.bool, false)] fun _ => t20
theorem okf20 : fs20.Ok Try.prog := fsT_ok fun x'' r'' hr'' => ok20 x'' () r'' hr''
def fs20w : FSpec := fs20.like fun _ => .ret (true, ())
theorem okf20w : fs20w.Ok Try.prog := by
  refine flike_ok okf20 _ ?_
  intro x y h
  cases h
  refine convR_of (vs := [.bool true]) rfl rfl ?_
  show (t20).get = _
  have e : takeG (intBytes (bytesInt (Prod.fst (nameP ([2, 97, 98, 0]) (intBytes (bytesInt (Prod.fst (nameP ([3, 119, 119, 119, 2, 97, 98, 0]) (intBytes []) [])))) (Prod.snd (nameP ([3, 119, 119, 119, 2, 97, 98, 0]) (intBytes []) [])))))) (8 : Int) (8 : Int) (-1 : Int) [] = some ([2, 97, 98, 0], 10) := by
    rw [takeG_u, nameP_u, nameP_u]
    decide
  unfold t20
  rw [e]
  rfl
/-- derricklaw03.WireName -/
def t7 (s : List UInt8) (at_ : Int) (n : List UInt8) : Tr Res := Tr.br (decide ((↑(List.length s) : Int) > (1000 : Int))) (Tr.ret ([AV.bool true], [])) (Tr.br (decide ((↑(List.length n) : Int) > (400 : Int))) (Tr.ret ([AV.bool true], [])) (Tr.br (bigS s) (Tr.br (tkE (takeG s at_ at_ (-1 : Int) []) == (0 : Int)) (Tr.br (bigS (tkS (takeG s at_ at_ (-1 : Int) []))) (Tr.br (mayV (tkS (takeG s at_ at_ (-1 : Int) []))) (Tr.br (decide (tkN (takeG s at_ at_ (-1 : Int) []) > at_)) (Tr.br (decide (tkN (takeG s at_ at_ (-1 : Int) []) ≤ (↑(List.length s) : Int))) (Tr.br (Nat.ble (List.length n + List.length s) 9223372036854775807) (Tr.br (bigS (n ++ s)) (Tr.br (bigS n) (Tr.br (!mayV n) (Tr.ret ([AV.bool true], [])) (Tr.br (tkE (takeG (n ++ s) (0 : Int) (0 : Int) (-1 : Int) []) == (0 : Int)) (Tr.br (tkS (takeG (n ++ s) (0 : Int) (0 : Int) (-1 : Int) []) == n) (Tr.ret ([AV.bool (tkN (takeG (n ++ s) (0 : Int) (0 : Int) (-1 : Int) []) == (↑(List.length n) : Int))], [])) (Tr.ret ([AV.bool false], []))) (Tr.ret ([AV.bool false], [])))) Tr.no) Tr.no) Tr.no) (Tr.br (tkE (takeG s at_ at_ (-1 : Int) []) == (2 : Int)) (Tr.br (tkS (takeG s at_ at_ (-1 : Int) []) == []) (Tr.br (Nat.ble (List.length n + List.length s) 9223372036854775807) (Tr.br (bigS (n ++ s)) (Tr.br (tkN (takeG s at_ at_ (-1 : Int) []) == (0 : Int)) (Tr.br (bigS n) (Tr.br (!mayV n) (Tr.ret ([AV.bool true], [])) (Tr.br (tkE (takeG (n ++ s) (0 : Int) (0 : Int) (-1 : Int) []) == (0 : Int)) (Tr.br (tkS (takeG (n ++ s) (0 : Int) (0 : Int) (-1 : Int) []) == n) (Tr.ret ([AV.bool (tkN (takeG (n ++ s) (0 : Int) (0 : Int) (-1 : Int) []) == (↑(List.length n) : Int))], [])) (Tr.ret ([AV.bool false], []))) (Tr.ret ([AV.bool false], [])))) Tr.no) (Tr.ret ([AV.bool false], []))) Tr.no) Tr.no) (Tr.br (Nat.ble (List.length n + List.length s) 9223372036854775807) (Tr.br (bigS (n ++ s)) (Tr.ret ([AV.bool false], [])) Tr.no) Tr.no)) (Tr.br (Nat.ble (List.length n + List.length s) 9223372036854775807) (Tr.br (bigS (n ++ s)) (Tr.ret ([AV.bool false], [])) Tr.no) Tr.no))) (Tr.br (tkE (takeG s at_ at_ (-1 : Int) []) == (2 : Int)) (Tr.br (tkS (takeG s at_ at_ (-1 : Int) []) == []) (Tr.br (Nat.ble (List.length n + List.length s) 9223372036854775807) (Tr.br (bigS (n ++ s)) (Tr.br (tkN (takeG s at_ at_ (-1 : Int) []) == (0 : Int)) (Tr.br (bigS n) (Tr.br (!mayV n) (Tr.ret ([AV.bool true], [])) (Tr.br (tkE (takeG (n ++ s) (0 : Int) (0 : Int) (-1 : Int) []) == (0 : Int)) (Tr.br (tkS (takeG (n ++ s) (0 : Int) (0 : Int) (-1 : Int) []) == n) (Tr.ret ([AV.bool (tkN (takeG (n ++ s) (0 : Int) (0 : Int) (-1 : Int) []) == (↑(List.length n) : Int))], [])) (Tr.ret ([AV.bool false], []))) (Tr.ret ([AV.bool false], [])))) Tr.no) (Tr.ret ([AV.bool false], []))) Tr.no) Tr.no) (Tr.br (Nat.ble (List.length n + List.length s) 9223372036854775807) (Tr.br (bigS (n ++ s)) (Tr.ret ([AV.bool false], [])) Tr.no) Tr.no)) (Tr.br (Nat.ble (List.length n + List.length s) 9223372036854775807) (Tr.br (bigS (n ++ s)) (Tr.ret ([AV.bool false], [])) Tr.no) Tr.no))) (Tr.br (tkE (takeG s at_ at_ (-1 : Int) []) == (2 : Int)) (Tr.br (tkS (takeG s at_ at_ (-1 : Int) []) == []) (Tr.br (Nat.ble (List.length n + List.length s) 9223372036854775807) (Tr.br (bigS (n ++ s)) (Tr.br (tkN (takeG s at_ at_ (-1 : Int) []) == (0 : Int)) (Tr.br (bigS n) (Tr.br (!mayV n) (Tr.ret ([AV.bool true], [])) (Tr.br (tkE (takeG (n ++ s) (0 : Int) (0 : Int) (-1 : Int) []) == (0 : Int)) (Tr.br (tkS (takeG (n ++ s) (0 : Int) (0 : Int) (-1 : Int) []) == n) (Tr.ret ([AV.bool (tkN (takeG (n ++ s) (0 : Int) (0 : Int) (-1 : Int) []) == (↑(List.length n) : Int))], [])) (Tr.ret ([AV.bool false], []))) (Tr.ret ([AV.bool false], [])))) Tr.no) (Tr.ret ([AV.bool false], []))) Tr.no) Tr.no) (Tr.br (Nat.ble (List.length n + List.length s) 9223372036854775807) (Tr.br (bigS (n ++ s)) (Tr.ret ([AV.bool false], [])) Tr.no) Tr.no)) (Tr.br (Nat.ble (List.length n + List.length s) 9223372036854775807) (Tr.br (bigS (n ++ s)) (Tr.ret ([AV.bool false], [])) Tr.no) Tr.no))) Tr.no) (Tr.br (tkE (takeG s at_ at_ (-1 : Int) []) == (2 : Int)) (Tr.br (tkS (takeG s at_ at_ (-1 : Int) []) == []) (Tr.br (Nat.ble (List.length n + List.length s) 9223372036854775807) (Tr.br (bigS (n ++ s)) (Tr.br (tkN (takeG s at_ at_ (-1 : Int) []) == (0 : Int)) (Tr.br (bigS n) (Tr.br (!mayV n) (Tr.ret ([AV.bool true], [])) (Tr.br (tkE (takeG (n ++ s) (0 : Int) (0 : Int) (-1 : Int) []) == (0 : Int)) (Tr.br (tkS (takeG (n ++ s) (0 : Int) (0 : Int) (-1 : Int) []) == n) (Tr.ret ([AV.bool (tkN (takeG (n ++ s) (0 : Int) (0 : Int) (-1 : Int) []) == (↑(List.length n) : Int))], [])) (Tr.ret ([AV.bool false], []))) (Tr.ret ([AV.bool false], [])))) Tr.no) (Tr.ret ([AV.bool false], []))) Tr.no) Tr.no) (Tr.br (Nat.ble (List.length n + List.length s) 9223372036854775807) (Tr.br (bigS (n ++ s)) (Tr.ret ([AV.bool false], [])) Tr.no) Tr.no)) (Tr.br (Nat.ble (List.length n + List.length s) 9223372036854775807) (Tr.br (bigS (n ++ s)) (Tr.ret ([AV.bool false], [])) Tr.no) Tr.no))) Tr.no))
def os7 : OSpec := { f := 7, sh := [.d .str false, .d (.int .i64) false, .d .str false], so := [], F := fun (s, at_, n, _) _ => t7 s at_ n }
set_option maxRecDepth 1000000 in
theorem fn7 (s : List UInt8) (at_ : Int) (n : List UInt8) : evC T0 (orcB [fs20w, fs27w, fs29w] []) (lpOf h7 0 (lsOf [])) c7 1000000 (startSt [.str s, .int .i64 at_, .str n] [] Try.f7.ntmps) (finishK T0 false 0 Try.f7) = (t7 s at_ n).get := by kernel_rfl
theorem ok7 : os7.Ok Try.prog := by
  refine os_ok mixed0 tab0 (orcB_sound (all_cons okf20w (all_cons okf27w (all_cons okf29w all_nil))) all_nil) h7 (d := 0) (n0 := 0) (S := lsOf []) Try.func7 (by kernel_rfl) (c := c7) (by kernel_rfl) rfl (no_loops (by kernel_rfl)) (by omega) (by kernel_rfl) ?_
  intro x'' y'' q'' hq''
  obtain ⟨(s : List UInt8), (at_ : Int), (n : List UInt8), _⟩ := x''
  exact (fn7 s at_ n).trans hq''
def fs7 : FSpec := fsT 7 [(.str, false), ((.int .i64), false), (.str, false)] [(.bool, false)] fun (s, at_, n, _) => t7 s at_ n
theorem okf7 : fs7.Ok Try.prog := fsT_ok fun x'' r'' hr'' => ok7 x'' () r'' hr''
end Go.Proofs.YtfepkpindchleaaE
