import Derived.Test.YtfepkpindchleaaMWireSized3
import Derived.Test.YtfepkpindchleaaRows
import Derived.WalkKit
import Derived.ProofKit
import Derived.OpenShut
import Derived.ShutString
import Derived.ChangeOld
import Derived.Below
import Derived.Carry
import Derived.SizedLaws
/- strings.Builder, wire.Pack: words. -/
namespace Go.Proofs.YtfepkpindchleaaE
open Go
set_option linter.unusedVariables false
set_option linter.unusedSimpArgs false
/-- (*strings.Builder).Len -/
def t49n (b : List Int) : Tr Res := Tr.ret ([AV.int IntKind.i64 (↑(List.length b) : Int)], [LObj.boxT (some 88) [AV.np, AV.rowA 1], LObj.row (Ty.int IntKind.u8) b])
def os49n : OSpec := { f := 49, sh := [.ptr 0 0], so := [.tbox 88 [.np, .row 1], .row (.int .u8)], F := fun _ (_, b, _) => t49n b }
set_option maxRecDepth 1000000 in
theorem fn49n (b : List Int) : evC T0 (orcB [] [osNew, osUsed]) (lpOf h49 2 (lsOf [])) c49 1000000 (startSt [.ptr 0 0] [.boxT (some 88) [.np, .rowA 1], .row (.int .u8) b] Try.f49.ntmps) (finishK T0 false 2 Try.f49) = (t49n b).get := by kernel_rfl
theorem ok49n : os49n.Ok Try.prog := by
  refine os_ok mixed0 tab0 (orcB_sound all_nil (all_cons okNew (all_cons okUsed all_nil))) h49 (d := 0) (n0 := 2) (S := lsOf []) Try.func49 (by kernel_rfl) (c := c49) (by kernel_rfl) rfl (no_loops (by kernel_rfl)) (by omega) (by kernel_rfl) ?_
  intro x'' y'' q'' hq''
  obtain ⟨_, (b : List Int), _⟩ := y''
  exact (fn49n b).trans hq''
/-- (*strings.Builder).Len -/
def t49u (b : List Int) : Tr Res := Tr.ret ([AV.int IntKind.i64 (↑(List.length b) : Int)], [LObj.boxT (some 88) [AV.ptr 0 0, AV.rowA 1], LObj.row (Ty.int IntKind.u8) b])
def os49u : OSpec := { f := 49, sh := [.ptr 0 0], so := [.tbox 88 [.ptr 0 0, .row 1], .row (.int .u8)], F := fun _ (_, b, _) => t49u b }
set_option maxRecDepth 1000000 in
theorem fn49u (b : List Int) : evC T0 (orcB [] [osNew, osUsed]) (lpOf h49 2 (lsOf [])) c49 1000000 (startSt [.ptr 0 0] [.boxT (some 88) [.ptr 0 0, .rowA 1], .row (.int .u8) b] Try.f49.ntmps) (finishK T0 false 2 Try.f49) = (t49u b).get := by kernel_rfl
theorem ok49u : os49u.Ok Try.prog := by
  refine os_ok mixed0 tab0 (orcB_sound all_nil (all_cons okNew (all_cons okUsed all_nil))) h49 (d := 0) (n0 := 2) (S := lsOf []) Try.func49 (by kernel_rfl) (c := c49) (by kernel_rfl) rfl (no_loops (by kernel_rfl)) (by omega) (by kernel_rfl) ?_
  intro x'' y'' q'' hq''
  obtain ⟨_, (b : List Int), _⟩ := y''
  exact (fn49u b).trans hq''
/-- (*strings.Builder).WriteByte -/
def t50n (c : Int) (b : List Int) : Tr Res := Tr.br (fits (List.length b + 1) 1) (Tr.ret ([AV.dead], [LObj.boxT (some 88) [AV.ptr 0 0, AV.rowA 1], LObj.row (Ty.int IntKind.u8) (b ++ [c])])) Tr.no
def os50n : OSpec := { f := 50, sh := [.ptr 0 0, .d (.int .u8) false], so := [.tbox 88 [.np, .row 1], .row (.int .u8)], F := fun (c, _) (_, b, _) => t50n c b }
set_option maxRecDepth 1000000 in
theorem fn50n (c : Int) (b : List Int) : evC T0 (orcB [] [osNew, osUsed]) (lpOf h50 2 (lsOf [])) c50 1000000 (startSt [.ptr 0 0, .int .u8 c] [.boxT (some 88) [.np, .rowA 1], .row (.int .u8) b] Try.f50.ntmps) (finishK T0 false 2 Try.f50) = (t50n c b).get := by kernel_rfl
theorem ok50n : os50n.Ok Try.prog := by
  refine os_ok mixed0 tab0 (orcB_sound all_nil (all_cons okNew (all_cons okUsed all_nil))) h50 (d := 0) (n0 := 2) (S := lsOf []) Try.func50 (by kernel_rfl) (c := c50) (by kernel_rfl) rfl (no_loops (by kernel_rfl)) (by omega) (by kernel_rfl) ?_
  intro x'' y'' q'' hq''
  obtain ⟨(c : Int), _⟩ := x''
  obtain ⟨_, (b : List Int), _⟩ := y''
  exact (fn50n c b).trans hq''
/-- (*strings.Builder).WriteByte -/
def t50u (c : Int) (b : List Int) : Tr Res := Tr.br (fits (List.length b + 1) 1) (Tr.ret ([AV.dead], [LObj.boxT (some 88) [AV.ptr 0 0, AV.rowA 1], LObj.row (Ty.int IntKind.u8) (b ++ [c])])) Tr.no
def os50u : OSpec := { f := 50, sh := [.ptr 0 0, .d (.int .u8) false], so := [.tbox 88 [.ptr 0 0, .row 1], .row (.int .u8)], F := fun (c, _) (_, b, _) => t50u c b }
set_option maxRecDepth 1000000 in
theorem fn50u (c : Int) (b : List Int) : evC T0 (orcB [] [osNew, osUsed]) (lpOf h50 2 (lsOf [])) c50 1000000 (startSt [.ptr 0 0, .int .u8 c] [.boxT (some 88) [.ptr 0 0, .rowA 1], .row (.int .u8) b] Try.f50.ntmps) (finishK T0 false 2 Try.f50) = (t50u c b).get := by kernel_rfl
theorem ok50u : os50u.Ok Try.prog := by
  refine os_ok mixed0 tab0 (orcB_sound all_nil (all_cons okNew (all_cons okUsed all_nil))) h50 (d := 0) (n0 := 2) (S := lsOf []) Try.func50 (by kernel_rfl) (c := c50) (by kernel_rfl) rfl (no_loops (by kernel_rfl)) (by omega) (by kernel_rfl) ?_
  intro x'' y'' q'' hq''
  obtain ⟨(c : Int), _⟩ := x''
  obtain ⟨_, (b : List Int), _⟩ := y''
  exact (fn50u c b).trans hq''
/-- (*strings.Builder).WriteString -/
def t51u (s : List UInt8) (b : List Int) : Tr Res := Tr.br (fits (List.length b + List.length (bytesInt s)) 1) (Tr.ret ([AV.int IntKind.i64 (↑(List.length s) : Int), AV.dead], [LObj.boxT (some 88) [AV.ptr 0 0, AV.rowA 1], LObj.row (Ty.int IntKind.u8) (b ++ bytesInt s)])) Tr.no
def os51u : OSpec := { f := 51, sh := [.ptr 0 0, .d .str false], so := [.tbox 88 [.ptr 0 0, .row 1], .row (.int .u8)], F := fun (s, _) (_, b, _) => t51u s b }
set_option maxRecDepth 1000000 in
theorem fn51u (s : List UInt8) (b : List Int) : evC T0 (orcB [] [osNew, osUsed]) (lpOf h51 2 (lsOf [])) c51 1000000 (startSt [.ptr 0 0, .str s] [.boxT (some 88) [.ptr 0 0, .rowA 1], .row (.int .u8) b] Try.f51.ntmps) (finishK T0 false 2 Try.f51) = (t51u s b).get := by kernel_rfl
theorem ok51u : os51u.Ok Try.prog := by
  refine os_ok mixed0 tab0 (orcB_sound all_nil (all_cons okNew (all_cons okUsed all_nil))) h51 (d := 0) (n0 := 2) (S := lsOf []) Try.func51 (by kernel_rfl) (c := c51) (by kernel_rfl) rfl (no_loops (by kernel_rfl)) (by omega) (by kernel_rfl) ?_
  intro x'' y'' q'' hq''
  obtain ⟨(s : List UInt8), _⟩ := x''
  obtain ⟨_, (b : List Int), _⟩ := y''
  exact (fn51u s b).trans hq''
/-- wire.New -/
def t16 : Tr Res := Tr.ret ([AV.ptr 0 0], [LObj.boxT none [AV.rowA 1, AV.mp 2], LObj.row (Ty.int IntKind.u8) [], LObj.mpo Ty.str (Ty.int IntKind.i64) []])
def os16 : OSpec := { f := 16, sh := [], so := [], F := fun _ _ => t16 }
set_option maxRecDepth 1000000 in
theorem fn16 : evC T0 (orcB [] []) (lpOf (hOwn h16) 0 (lsOf [])) c16 1000000 (startSt [] [] Try.f16.ntmps) (finishK T0 true 0 Try.f16) = (t16).get := by kernel_rfl
theorem ok16 : os16.Ok Try.prog := by
  refine os_ok mixed0 tab0 (orcB_sound all_nil all_nil) (hOwn h16) (d := 0) (n0 := 0) (S := lsOf []) Try.func16 (by kernel_rfl) (c := c16) (by kernel_rfl) rfl (no_loops (by kernel_rfl)) (by omega) (by kernel_rfl) ?_
  intro x'' y'' q'' hq''
  exact (fn16).trans hq''
/-- (*wire.Pack).Add -/
def t22 (s : List UInt8) (b : List Int) (l : List (List UInt8 × Int)) : Tr Res := Tr.br (fits (List.length b + List.length (bytesInt s)) 1) (Tr.ret ([], [LObj.boxT none [AV.rowA 1, AV.mp 2], LObj.row (Ty.int IntKind.u8) (b ++ bytesInt s), LObj.mpo Ty.str (Ty.int IntKind.i64) l])) Tr.no
def os22 : OSpec := { f := 22, sh := [.ptr 0 0, .d .str false], so := [.box [.row 1, .mp 2], .row (.int .u8), .map .str (.int .i64)], F := fun (s, _) (_, b, l, _) => t22 s b l }
set_option maxRecDepth 1000000 in
theorem fn22 (s : List UInt8) (b : List Int) (l : List (List UInt8 × Int)) : evC T0 (orcB [] []) (lpOf h22 3 (lsOf [])) c22 1000000 (startSt [.ptr 0 0, .str s] [.box [.rowA 1, .mp 2], .row (.int .u8) b, .mpo .str (.int .i64) l] Try.f22.ntmps) (finishK T0 false 3 Try.f22) = (t22 s b l).get := by kernel_rfl
theorem ok22 : os22.Ok Try.prog := by
  refine os_ok mixed0 tab0 (orcB_sound all_nil all_nil) h22 (d := 0) (n0 := 3) (S := lsOf []) Try.func22 (by kernel_rfl) (c := c22) (by kernel_rfl) rfl (no_loops (by kernel_rfl)) (by omega) (by kernel_rfl) ?_
  intro x'' y'' q'' hq''
  obtain ⟨(s : List UInt8), _⟩ := x''
  obtain ⟨_, (b : List Int), (l : List (List UInt8 × Int)), _⟩ := y''
  exact (fn22 s b l).trans hq''
/-- (*wire.Pack).Add -/
def t22z (s : List UInt8) : Tr Res := Tr.ret ([], [])
def os22z : OSpec := { f := 22, sh := [.np, .d .str false], so := [], F := fun (s, _) _ => t22z s }
set_option maxRecDepth 1000000 in
theorem fn22z (s : List UInt8) : evC T0 (orcB [] []) (lpOf h22 0 (lsOf [])) c22 1000000 (startSt [.np, .str s] [] Try.f22.ntmps) (finishK T0 false 0 Try.f22) = (t22z s).get := by kernel_rfl
theorem ok22z : os22z.Ok Try.prog := by
  refine os_ok mixed0 tab0 (orcB_sound all_nil all_nil) h22 (d := 0) (n0 := 0) (S := lsOf []) Try.func22 (by kernel_rfl) (c := c22) (by kernel_rfl) rfl (no_loops (by kernel_rfl)) (by omega) (by kernel_rfl) ?_
  intro x'' y'' q'' hq''
  obtain ⟨(s : List UInt8), _⟩ := x''
  exact (fn22z s).trans hq''
/-- (*wire.Pack).Len -/
def t26 (b : List Int) (l : List (List UInt8 × Int)) : Tr Res := Tr.ret ([AV.int IntKind.i64 (↑(List.length b) : Int)], [LObj.boxT none [AV.rowA 1, AV.mp 2], LObj.row (Ty.int IntKind.u8) b, LObj.mpo Ty.str (Ty.int IntKind.i64) l])
def os26 : OSpec := { f := 26, sh := [.ptr 0 0], so := [.box [.row 1, .mp 2], .row (.int .u8), .map .str (.int .i64)], F := fun _ (_, b, l, _) => t26 b l }
set_option maxRecDepth 1000000 in
theorem fn26 (b : List Int) (l : List (List UInt8 × Int)) : evC T0 (orcB [] []) (lpOf h26 3 (lsOf [])) c26 1000000 (startSt [.ptr 0 0] [.box [.rowA 1, .mp 2], .row (.int .u8) b, .mpo .str (.int .i64) l] Try.f26.ntmps) (finishK T0 false 3 Try.f26) = (t26 b l).get := by kernel_rfl
theorem ok26 : os26.Ok Try.prog := by
  refine os_ok mixed0 tab0 (orcB_sound all_nil all_nil) h26 (d := 0) (n0 := 3) (S := lsOf []) Try.func26 (by kernel_rfl) (c := c26) (by kernel_rfl) rfl (no_loops (by kernel_rfl)) (by omega) (by kernel_rfl) ?_
  intro x'' y'' q'' hq''
  obtain ⟨_, (b : List Int), (l : List (List UInt8 × Int)), _⟩ := y''
  exact (fn26 b l).trans hq''
/-- (*wire.Pack).Len -/
def t26z : Tr Res := Tr.ret ([AV.int IntKind.i64 (0 : Int)], [])
def os26z : OSpec := { f := 26, sh := [.np], so := [], F := fun _ _ => t26z }
set_option maxRecDepth 1000000 in
theorem fn26z : evC T0 (orcB [] []) (lpOf h26 0 (lsOf [])) c26 1000000 (startSt [.np] [] Try.f26.ntmps) (finishK T0 false 0 Try.f26) = (t26z).get := by kernel_rfl
theorem ok26z : os26z.Ok Try.prog := by
  refine os_ok mixed0 tab0 (orcB_sound all_nil all_nil) h26 (d := 0) (n0 := 0) (S := lsOf []) Try.func26 (by kernel_rfl) (c := c26) (by kernel_rfl) rfl (no_loops (by kernel_rfl)) (by omega) (by kernel_rfl) ?_
  intro x'' y'' q'' hq''
  exact (fn26z).trans hq''
/-- (*wire.Pack).Out -/
def t19 (b : List Int) (l : List (List UInt8 × Int)) : Tr Res := Tr.ret ([AV.str (intBytes b)], [LObj.boxT none [AV.rowA 1, AV.mp 2], LObj.row (Ty.int IntKind.u8) b, LObj.mpo Ty.str (Ty.int IntKind.i64) l])
def os19 : OSpec := { f := 19, sh := [.ptr 0 0], so := [.box [.row 1, .mp 2], .row (.int .u8), .map .str (.int .i64)], F := fun _ (_, b, l, _) => t19 b l }
set_option maxRecDepth 1000000 in
theorem fn19 (b : List Int) (l : List (List UInt8 × Int)) : evC T0 (orcB [] []) (lpOf h19 3 (lsOf [])) c19 1000000 (startSt [.ptr 0 0] [.box [.rowA 1, .mp 2], .row (.int .u8) b, .mpo .str (.int .i64) l] Try.f19.ntmps) (finishK T0 false 3 Try.f19) = (t19 b l).get := by kernel_rfl
theorem ok19 : os19.Ok Try.prog := by
  refine os_ok mixed0 tab0 (orcB_sound all_nil all_nil) h19 (d := 0) (n0 := 3) (S := lsOf []) Try.func19 (by kernel_rfl) (c := c19) (by kernel_rfl) rfl (no_loops (by kernel_rfl)) (by omega) (by kernel_rfl) ?_
  intro x'' y'' q'' hq''
  obtain ⟨_, (b : List Int), (l : List (List UInt8 × Int)), _⟩ := y''
  exact (fn19 b l).trans hq''
/-- (*wire.Pack).Out -/
def t19z : Tr Res := Tr.ret ([AV.str []], [])
def os19z : OSpec := { f := 19, sh := [.np], so := [], F := fun _ _ => t19z }
set_option maxRecDepth 1000000 in
theorem fn19z : evC T0 (orcB [] []) (lpOf h19 0 (lsOf [])) c19 1000000 (startSt [.np] [] Try.f19.ntmps) (finishK T0 false 0 Try.f19) = (t19z).get := by kernel_rfl
theorem ok19z : os19z.Ok Try.prog := by
  refine os_ok mixed0 tab0 (orcB_sound all_nil all_nil) h19 (d := 0) (n0 := 0) (S := lsOf []) Try.func19 (by kernel_rfl) (c := c19) (by kernel_rfl) rfl (no_loops (by kernel_rfl)) (by omega) (by kernel_rfl) ?_
  intro x'' y'' q'' hq''
  exact (fn19z).trans hq''
/-- (*wire.Pack).Mark -/
def t30 (b : List Int) (l : List (List UInt8 × Int)) : Tr Res := Tr.br (fits (List.length b + List.length (bytesInt (put16 (0 : Int)))) 1) (Tr.ret ([AV.int IntKind.i64 (↑(List.length (b ++ bytesInt (put16 (0 : Int)))) : Int)], [LObj.boxT none [AV.rowA 1, AV.mp 2], LObj.row (Ty.int IntKind.u8) (b ++ bytesInt (put16 (0 : Int))), LObj.mpo Ty.str (Ty.int IntKind.i64) l])) Tr.no
def os30 : OSpec := { f := 30, sh := [.ptr 0 0], so := [.box [.row 1, .mp 2], .row (.int .u8), .map .str (.int .i64)], F := fun _ (_, b, l, _) => t30 b l }
set_option maxRecDepth 1000000 in
theorem fn30 (b : List Int) (l : List (List UInt8 × Int)) : evC T0 (orcB [fs42w] [os22, os22z, os26, os26z]) (lpOf h30 3 (lsOf [])) c30 1000000 (startSt [.ptr 0 0] [.box [.rowA 1, .mp 2], .row (.int .u8) b, .mpo .str (.int .i64) l] Try.f30.ntmps) (finishK T0 false 3 Try.f30) = (t30 b l).get := by kernel_rfl
theorem ok30 : os30.Ok Try.prog := by
  refine os_ok mixed0 tab0 (orcB_sound (all_cons okf42w all_nil) (all_cons ok22 (all_cons ok22z (all_cons ok26 (all_cons ok26z all_nil))))) h30 (d := 0) (n0 := 3) (S := lsOf []) Try.func30 (by kernel_rfl) (c := c30) (by kernel_rfl) rfl (no_loops (by kernel_rfl)) (by omega) (by kernel_rfl) ?_
  intro x'' y'' q'' hq''
  obtain ⟨_, (b : List Int), (l : List (List UInt8 × Int)), _⟩ := y''
  exact (fn30 b l).trans hq''
/-- (*wire.Pack).Mark -/
def t30z : Tr Res := Tr.ret ([AV.int IntKind.i64 (0 : Int)], [])
def os30z : OSpec := { f := 30, sh := [.np], so := [], F := fun _ _ => t30z }
set_option maxRecDepth 1000000 in
theorem fn30z : evC T0 (orcB [fs42w] [os22, os22z, os26, os26z]) (lpOf h30 0 (lsOf [])) c30 1000000 (startSt [.np] [] Try.f30.ntmps) (finishK T0 false 0 Try.f30) = (t30z).get := by kernel_rfl
theorem ok30z : os30z.Ok Try.prog := by
  refine os_ok mixed0 tab0 (orcB_sound (all_cons okf42w all_nil) (all_cons ok22 (all_cons ok22z (all_cons ok26 (all_cons ok26z all_nil))))) h30 (d := 0) (n0 := 0) (S := lsOf []) Try.func30 (by kernel_rfl) (c := c30) (by kernel_rfl) rfl (no_loops (by kernel_rfl)) (by omega) (by kernel_rfl) ?_
  intro x'' y'' q'' hq''
  exact (fn30z).trans hq''
/-- (*wire.Pack).Close -/
def t31 (at_ : Int) (b : List Int) (l : List (List UInt8 × Int)) : Tr Res := Tr.br (decide (at_ < (2 : Int))) (Tr.ret ([AV.int IntKind.i64 (1 : Int)], [LObj.boxT none [AV.rowA 1, AV.mp 2], LObj.row (Ty.int IntKind.u8) b, LObj.mpo Ty.str (Ty.int IntKind.i64) l])) (Tr.br (decide (at_ > (↑(List.length b) : Int))) (Tr.ret ([AV.int IntKind.i64 (1 : Int)], [LObj.boxT none [AV.rowA 1, AV.mp 2], LObj.row (Ty.int IntKind.u8) b, LObj.mpo Ty.str (Ty.int IntKind.i64) l])) (Tr.br (decide ((0 : Int) ≤ at_) && decide (at_ ≤ (↑(List.length b) : Int))) (Tr.br (decide ((0 : Int) ≤ IntKind.wrap IntKind.i64 (at_ - (2 : Int))) && decide (IntKind.wrap IntKind.i64 (at_ - (2 : Int)) ≤ at_)) (Tr.br (n16C (IntKind.wrap IntKind.u16 (IntKind.wrap IntKind.i64 ((↑(List.length b) : Int) - at_)))) (Tr.ret ([AV.int IntKind.i64 (0 : Int)], [LObj.boxT none [AV.rowA 1, AV.mp 2], LObj.row (Ty.int IntKind.u8) (List.take (Int.toNat (IntKind.wrap IntKind.i64 (at_ - (2 : Int)))) b ++ List.take (Int.toNat at_ - Int.toNat (IntKind.wrap IntKind.i64 (at_ - (2 : Int)))) (bytesInt (put16 (IntKind.wrap IntKind.u16 (IntKind.wrap IntKind.i64 ((↑(List.length b) : Int) - at_))))) ++ List.drop (Int.toNat (IntKind.wrap IntKind.i64 (at_ - (2 : Int))) + min (Int.toNat at_ - Int.toNat (IntKind.wrap IntKind.i64 (at_ - (2 : Int)))) (List.length (put16 (IntKind.wrap IntKind.u16 (IntKind.wrap IntKind.i64 ((↑(List.length b) : Int) - at_)))))) b), LObj.mpo Ty.str (Ty.int IntKind.i64) l])) Tr.no) Tr.no) Tr.no))
def os31 : OSpec := { f := 31, sh := [.ptr 0 0, .d (.int .i64) false], so := [.box [.row 1, .mp 2], .row (.int .u8), .map .str (.int .i64)], F := fun (at_, _) (_, b, l, _) => t31 at_ b l }
set_option maxRecDepth 1000000 in
theorem fn31 (at_ : Int) (b : List Int) (l : List (List UInt8 × Int)) : evC T0 (orcB [fs42w] [os22, os22z, os26, os26z]) (lpOf h31 3 (lsOf [])) c31 1000000 (startSt [.ptr 0 0, .int .i64 at_] [.box [.rowA 1, .mp 2], .row (.int .u8) b, .mpo .str (.int .i64) l] Try.f31.ntmps) (finishK T0 false 3 Try.f31) = (t31 at_ b l).get := by kernel_rfl
theorem ok31 : os31.Ok Try.prog := by
  refine os_ok mixed0 tab0 (orcB_sound (all_cons okf42w all_nil) (all_cons ok22 (all_cons ok22z (all_cons ok26 (all_cons ok26z all_nil))))) h31 (d := 0) (n0 := 3) (S := lsOf []) Try.func31 (by kernel_rfl) (c := c31) (by kernel_rfl) rfl (no_loops (by kernel_rfl)) (by omega) (by kernel_rfl) ?_
  intro x'' y'' q'' hq''
  obtain ⟨(at_ : Int), _⟩ := x''
  obtain ⟨_, (b : List Int), (l : List (List UInt8 × Int)), _⟩ := y''
  exact (fn31 at_ b l).trans hq''
/-- (*wire.Pack).Close -/
def t31z (at_ : Int) : Tr Res := Tr.br (decide (at_ < (2 : Int))) (Tr.ret ([AV.int IntKind.i64 (1 : Int)], [])) (Tr.br (decide (at_ > (0 : Int))) (Tr.ret ([AV.int IntKind.i64 (1 : Int)], [])) Tr.no)
def os31z : OSpec := { f := 31, sh := [.np, .d (.int .i64) false], so := [], F := fun (at_, _) _ => t31z at_ }
set_option maxRecDepth 1000000 in
theorem fn31z (at_ : Int) : evC T0 (orcB [fs42w] [os22, os22z, os26, os26z]) (lpOf h31 0 (lsOf [])) c31 1000000 (startSt [.np, .int .i64 at_] [] Try.f31.ntmps) (finishK T0 false 0 Try.f31) = (t31z at_).get := by kernel_rfl
theorem ok31z : os31z.Ok Try.prog := by
  refine os_ok mixed0 tab0 (orcB_sound (all_cons okf42w all_nil) (all_cons ok22 (all_cons ok22z (all_cons ok26 (all_cons ok26z all_nil))))) h31 (d := 0) (n0 := 0) (S := lsOf []) Try.func31 (by kernel_rfl) (c := c31) (by kernel_rfl) rfl (no_loops (by kernel_rfl)) (by omega) (by kernel_rfl) ?_
  intro x'' y'' q'' hq''
  obtain ⟨(at_ : Int), _⟩ := x''
  exact (fn31z at_).trans hq''
end Go.Proofs.YtfepkpindchleaaE

/- name.May: a plain word; the document's. -/
namespace Go.Proofs.YtfepkpindchleaaE
open Go Go.Proofs.YtfepkpindchleaaB
set_option linter.unusedVariables false
set_option linter.unusedSimpArgs false
/-- name.May -/
def t29 (n : List UInt8) : Tr Res := Tr.br (bigS n) (Tr.br (rootV n) (Tr.br (decide (List.length n > 255)) (Tr.ret ([AV.bool false], [])) (Tr.br (bigS n) (Tr.ret ([AV.bool (foldB n == n)], [])) Tr.no)) (Tr.ret ([AV.bool false], []))) Tr.no
def os29 : OSpec := { f := 29, sh := [.d .str false], so := [], F := fun (n, _) _ => t29 n }
set_option maxRecDepth 1000000 in
theorem fn29 (n : List UInt8) : evC T0 (orcB [fs58, fs52w] []) (lpOf h29 0 (lsOf [])) c29 1000000 (startSt [.str n] [] Try.f29.ntmps) (finishK T0 false 0 Try.f29) = (t29 n).get := by kernel_rfl
theorem ok29 : os29.Ok Try.prog := by
  refine os_ok mixed0 tab0 (orcB_sound (all_cons okf58 (all_cons okf52w all_nil)) all_nil) h29 (d := 0) (n0 := 0) (S := lsOf []) Try.func29 (by kernel_rfl) (c := c29) (by kernel_rfl) rfl (no_loops (by kernel_rfl)) (by omega) (by kernel_rfl) ?_
  intro x'' y'' q'' hq''
  obtain ⟨(n : List UInt8), _⟩ := x''
  exact (fn29 n).trans hq''
def fs29 : FSpec := fsT 29 [(.str, false)] [(.bool, false)] fun (n, _) => t29 n
theorem okf29 : fs29.Ok Try.prog := fsT_ok fun x'' r'' hr'' => ok29 x'' () r'' hr''
/-- Whether a text is a name. -/
def mayV (s : List UInt8) : Bool := rootV s && (Nat.ble s.length 255 && (foldB s == s))
theorem labAt_each (s : List UInt8) : ∀ (m k : Nat) (out : List (List UInt8)), s.length - k = m → k ≤ s.length →
    labAt s k out = (match (eachF (s.drop k)).2 with
      | [] => (true, s.length, out ++ (eachF (s.drop k)).1)
      | c :: t => (decide (c.toNat = 0), s.length - (t.length + 1), out ++ (eachF (s.drop k)).1)) := by
  intro m
  induction m using Nat.strongRecOn with
  | _ m ih =>
    intro k out hm hk
    by_cases hlt : k < s.length
    · obtain ⟨c, t, hct⟩ : ∃ c t, s.drop k = c :: t := by
        rw [drop_get s k 0 hlt]
        exact ⟨_, _, rfl⟩
      have hc : s.getD k 0 = c := by
        have := drop_get s k 0 hlt
        rw [hct] at this
        exact (List.cons.inj this).1.symm
      have htl : t.length = s.length - k - 1 := by
        have := congrArg List.length hct
        simp at this
        omega
      have ht : t = s.drop (k + 1) := by
        have := drop_get s k 0 hlt
        rw [hct] at this
        exact (List.cons.inj this).2
      rw [labAt, dif_pos hlt, hc, hct]
      by_cases h0 : c.toNat = 0
      · rw [if_pos h0, eachF, if_pos (.inl h0)]
        simp only [List.append_nil]
        rw [decide_eq_true h0]
        congr 2
        omega
      · rw [if_neg h0]
        by_cases h1 : c.toNat > 63 ∨ k + 1 + c.toNat > s.length
        · rw [if_pos h1, eachF, if_pos (by omega)]
          simp only [List.append_nil]
          rw [decide_eq_false h0]
          congr 2
          omega
        · rw [if_neg h1, ih (s.length - (k + 1 + c.toNat)) (by omega) (k + 1 + c.toNat) _ rfl (by omega), eachF, if_neg (by omega)]
          have e : s.drop (k + 1 + c.toNat) = t.drop c.toNat := by rw [ht, List.drop_drop]
          rw [e, ← ht]
          simp only [List.append_assoc, List.cons_append, List.nil_append]
    · rw [labAt, dif_neg hlt]
      have : s.drop k = [] := List.drop_eq_nil_of_le (by omega)
      rw [this, eachF]
      simp only [List.append_nil]
      congr 2
      omega
theorem eachF_len : ∀ (n : Nat) (s : List UInt8), s.length = n → (eachF s).2.length ≤ s.length := by
  intro n
  induction n using Nat.strongRecOn with
  | _ n ih =>
    intro s hs
    cases s with
    | nil => rw [eachF]; exact Nat.le_refl _
    | cons c t =>
      rw [eachF]
      split
      · exact Nat.le_refl _
      · have := ih (t.drop c.toNat).length (by simp at hs ⊢; omega) _ rfl
        simp at this ⊢
        omega
theorem lab_root (s : List UInt8) : (lbOk s && decide (lbAt s = (s.length : Int) - 1)) = rootV s ∧ (rootV s = true → lbOut s = labsV s) := by
  have h := labAt_each s s.length 0 [] (by omega) (by omega)
  have hl := eachF_len _ s rfl
  rw [List.drop_zero] at h
  unfold lbOk lbAt lbOut rootV labsV
  rw [h]
  cases hr : (eachF s).2 with
  | nil =>
    simp
    omega
  | cons c t =>
    rw [hr] at hl
    simp at hl
    simp only [List.nil_append, implies_true, and_true]
    rw [Bool.eq_iff_iff]
    simp only [Bool.and_eq_true, decide_eq_true_eq, beq_iff_eq, List.cons.injEq]
    constructor
    · rintro ⟨h1, h2⟩
      refine ⟨?_, List.length_eq_zero_iff.1 (by omega)⟩
      exact UInt8.toNat_inj.1 (by simpa using h1)
    · rintro ⟨rfl, rfl⟩
      simp
      simp at hl
      omega
theorem mayS_eq (s : List UInt8) : mayS s = mayV s := by
  unfold mayS mayV
  rw [← (lab_root s).1, Bool.and_assoc]
  congr 3
  by_cases h : s.length ≤ 255
  · rw [decide_eq_true h, Nat.ble_eq_true_of_le h]
  · rw [decide_eq_false h]
    cases hb : Nat.ble s.length 255 with
    | false => rfl
    | true => exact absurd (Nat.le_of_ble_eq_true hb) h
theorem ble_iff {a b : Nat} : Nat.ble a b = decide (a ≤ b) := by
  by_cases h : a ≤ b
  · rw [decide_eq_true h, Nat.ble_eq_true_of_le h]
  · rw [decide_eq_false h]
    cases hb : Nat.ble a b with
    | false => rfl
    | true => exact absurd (Nat.le_of_ble_eq_true hb) h
def fs29w : FSpec := fs29.like fun (s, _) => .on (bigS s) (mayV s, ())
theorem okf29w : fs29w.Ok Try.prog := by
  refine flike_ok okf29 _ ?_
  rintro ⟨(s : List UInt8), _⟩ y h
  obtain ⟨hb, rfl⟩ := Tr.get_on h
  refine convR_of (vs := [.bool (mayV s)]) rfl rfl (Tr.get_of_all ?_)
  show (t29 s).all _
  refine Tr.all_t hb (Tr.all_br (fun c1 => Tr.all_br (fun c2 => Tr.all_ret ?_) fun c2 => Tr.all_t hb (Tr.all_ret ?_)) fun c1 => Tr.all_ret ?_)
  · simp only [decide_eq_true_eq] at c2
    have : ¬ s.length ≤ 255 := by omega
    simp [mayV, ble_iff, this]
  · simp only [decide_eq_false_iff_not] at c2
    have : s.length ≤ 255 := by omega
    simp [mayV, ble_iff, this, c1]
  · simp [mayV, c1]
def fs43v : FSpec := fs43.like fun (s, _) => .on (bigS s) (mayV s, ())
theorem okf43v : fs43v.Ok Try.prog := by
  rintro ⟨(s : List UInt8), _⟩ y h
  obtain ⟨hb, rfl⟩ := Tr.get_on h
  have := okf43w (s, ()) (mayS s, ()) (by show (Tr.on (bigS s) _).get = _; rw [hb]; rfl)
  rw [mayS_eq] at this
  exact this
def fs66v : FSpec := fs66.like fun (s, _) => .br (bigS s) (.br (rootV s) (.br (decide (s.length > 255)) (.ret (([] : List (List UInt8)), (3 : Int), ())) (.ret (labsV s, (0 : Int), ()))) (.ret (([] : List (List UInt8)), (2 : Int), ()))) .no
theorem okf66v : fs66v.Ok Try.prog := by
  refine flike_ok okf66 _ ?_
  rintro ⟨(s : List UInt8), _⟩ y h
  simp only [Tr.get] at h
  cases hb : bigS s with
  | false => rw [hb] at h; cases h
  | true =>
    rw [hb, cond_true] at h
    have hb' := hb
    simp only [bigS, decide_eq_true_eq] at hb'
    obtain ⟨l1, l2⟩ := lab_root s
    cases hr : rootV s with
    | false =>
      rw [hr, cond_false] at h
      cases h
      refine convR_of (vs := [.list .str [], .int .i64 2]) rfl rfl (Tr.get_of_all ?_)
      show (t66 s).all _
      unfold t66
      rw [hr] at l1
      refine Tr.all_t (by simp [lbC, hb]) (Tr.all_br (fun c1 => ?_) fun c1 => Tr.all_ret rfl)
      rw [IntWalk.i64_in _ (by omega)]
      rw [c1, Bool.true_and, decide_eq_false_iff_not] at l1
      exact Tr.all_t (bne_iff_ne.2 l1) (Tr.all_ret rfl)
    | true =>
      rw [hr, cond_true] at h
      rw [hr, Bool.and_eq_true, decide_eq_true_eq] at l1
      obtain ⟨l1, l3⟩ := l1
      have l2 := l2 hr
      by_cases hl : s.length > 255
      · rw [decide_eq_true hl, cond_true] at h
        cases h
        refine convR_of (vs := [.list .str [], .int .i64 3]) rfl rfl (Tr.get_of_all ?_)
        show (t66 s).all _
        unfold t66
        rw [IntWalk.i64_in _ (by omega)]
        refine Tr.all_t (by simp [lbC, hb]) (Tr.all_t l1 (Tr.all_f (by simpa using l3) (Tr.all_t (dec_true (by omega)) (Tr.all_ret rfl))))
      · rw [decide_eq_false hl, cond_false] at h
        cases h
        refine convR_of (vs := [.list .str (labsV s), .int .i64 0]) rfl rfl (Tr.get_of_all ?_)
        show (t66 s).all _
        unfold t66
        rw [IntWalk.i64_in _ (by omega)]
        refine Tr.all_t (by simp [lbC, hb]) (Tr.all_t l1 (Tr.all_f (by simpa using l3) (Tr.all_f (dec_false (by omega)) (Tr.all_ret ?_))))
        rw [l2]
end Go.Proofs.YtfepkpindchleaaE

/- Names in packs: plain words. -/
namespace Go.Proofs.YtfepkpindchleaaE
open Go Go.Proofs.YtfepkpindchleaaB
set_option linter.unusedVariables false
set_option linter.unusedSimpArgs false
abbrev Known := List (List UInt8 × Int)
abbrev lookK (n : List UInt8) (L : Known) : Option Int := lookM .str (.int .i64) n L
/-- A name's first label, with its length; what is behind it. -/
def hdN (n : List UInt8) : List UInt8 := n.take (1 + (n.getD 0 0).toNat)
def tlN (n : List UInt8) : List UInt8 := n.drop (1 + (n.getD 0 0).toNat)
theorem tlN_lt {n : List UInt8} (h : n ≠ []) : (tlN n).length < n.length := by
  have := List.length_pos_iff.2 h
  simp [tlN]
  omega
/-- A name behind bytes, but its end: where it is known, if it is; what is left; the bytes; what is known then. -/
def nameL (n S : List UInt8) (L : Known) : Option Int × (List UInt8 × (List UInt8 × Known)) :=
  if n = [0] then (none, n, S, L)
  else match lookK n L with
    | some a => (some a, n, S, L)
    | none => if h : n = [] then (none, n, S, L) else nameL (tlN n) (S ++ hdN n) (if S.length < 16384 then L ++ [(n, (S.length : Int))] else L)
termination_by n.length
decreasing_by exact tlN_lt h
/-- How a name ends: at a known one, or with the root. -/
def endN : Option Int → List UInt8
  | some a => put16 (49152 + a)
  | none => [0]
/-- A name behind bytes. -/
def nameP (n S : List UInt8) (L : Known) : List UInt8 × Known := ((nameL n S L).2.2.1 ++ endN (nameL n S L).1, (nameL n S L).2.2.2)
def kOk (L : Known) : Bool := L.all fun e => decide (0 ≤ e.2) && decide (e.2 < 16384)
theorem kOk_look {L : Known} (h : kOk L = true) {n : List UInt8} {a : Int} (ha : lookK n L = some a) : 0 ≤ a ∧ a < 16384 := by
  induction L with
  | nil => cases ha
  | cons e L ih =>
    simp only [kOk, List.all_cons, Bool.and_eq_true, decide_eq_true_eq] at h
    unfold lookK lookM at ha
    cases hq : Ty.keq .str n e.1 with
    | true => rw [hq] at ha; cases ha; exact h.1
    | false => rw [hq] at ha; exact ih h.2 ha
theorem putK_new {L : Known} {n : List UInt8} (h : lookK n L = none) (v : Int) : putM .str (.int .i64) n v L = L ++ [(n, v)] := by
  induction L with
  | nil => rfl
  | cons e L ih =>
    unfold lookK lookM at h
    unfold putM
    cases hq : Ty.keq .str n e.1 with
    | true => rw [hq] at h; cases h
    | false => rw [hq] at h; rw [cond_false, ih h]; rfl
theorem or_far {a : Int} (h0 : 0 ≤ a) (h1 : a < 16384) : IntKind.wrap IntKind.u16 (IntKind.wrap IntKind.i64 (↑(BitVec.toNat (BitVec.ofInt (IntKind.bits IntKind.i64) (49152 : Int) ||| BitVec.ofInt (IntKind.bits IntKind.i64) a)) : Int)) = 49152 + a := by
  obtain ⟨m, rfl⟩ : ∃ m : Nat, a = m := ⟨a.toNat, by omega⟩
  have e : BitVec.toNat (BitVec.ofInt (IntKind.bits IntKind.i64) (49152 : Int) ||| BitVec.ofInt (IntKind.bits IntKind.i64) (m : Int)) = 49152 + m := by
    show BitVec.toNat (BitVec.ofInt 64 ((49152 : Nat) : Int) ||| BitVec.ofInt 64 ((m : Nat) : Int)) = _
    rw [BitVec.ofInt_natCast, BitVec.ofInt_natCast, BitVec.toNat_or, BitVec.toNat_ofNat, BitVec.toNat_ofNat, Nat.mod_eq_of_lt (by omega), Nat.mod_eq_of_lt (by omega)]
    have := Nat.shiftLeft_add_eq_or_of_lt (a := 3) (b := m) (i := 14) (by omega)
    exact this.symm
  rw [e, IntWalk.i64_in _ (by omega), IntWalk.u16_in _ (by omega)]
  omega
theorem root_cases {n : List UInt8} (h : rootV n = true) : n = [0] ∨ (n ≠ [0] ∧ n ≠ [] ∧ 1 + (n.getD 0 0).toNat < n.length ∧ (n.getD 0 0).toNat ≤ 63 ∧ (n.getD 0 0).toNat ≠ 0 ∧ rootV (tlN n) = true) := by
  unfold rootV at h
  cases n with
  | nil => rw [eachF] at h; simp at h
  | cons c t =>
    rw [eachF] at h
    split at h
    · exact .inl (by simpa using h)
    · rename_i hc
      refine .inr ⟨fun e => ?_, by simp, ?_, ?_, ?_, ?_⟩
      · cases e; simp at hc
      · have he : (t.drop c.toNat) ≠ [] := fun e => by
          rw [e, eachF] at h
          simp at h
        have := List.length_pos_iff.2 he
        simp at this ⊢
        omega
      · simp; omega
      · simp; omega
      · unfold rootV tlN
        simpa [Nat.add_comm 1] using h
theorem intB_bytes (s : List UInt8) : intBytes (bytesInt s) = s := by
  unfold intBytes bytesInt
  rw [List.map_map]
  conv => rhs; rw [← List.map_id s]
  exact List.map_congr_left fun x _ => by simp
theorem bytes_intB {b : List Int} (h : bytesOk b = true) : bytesInt (intBytes b) = b := by
  unfold intBytes bytesInt
  rw [List.map_map]
  conv => rhs; rw [← List.map_id b]
  refine List.map_congr_left fun x hx => ?_
  have := List.all_eq_true.1 h x hx
  simp only [Bool.and_eq_true, decide_eq_true_eq] at this
  simp
  omega
theorem intB_len (b : List Int) : (intBytes b).length = b.length := by simp [intBytes]
theorem intB_app (a b : List Int) : intBytes (a ++ b) = intBytes a ++ intBytes b := by simp [intBytes]
theorem bytesInt_app (a b : List UInt8) : bytesInt (a ++ b) = bytesInt a ++ bytesInt b := by simp [bytesInt]
/-- A name that has further to go. -/
theorem nameL_root (S : List UInt8) (L : Known) : nameL [0] S L = (none, [0], S, L) := by rw [nameL, if_pos rfl]
theorem nameL_known {n S : List UInt8} {L : Known} {a : Int} (h : n ≠ [0]) (ha : lookK n L = some a) : nameL n S L = (some a, n, S, L) := by
  rw [nameL, if_neg h]
  simp only [ha]
theorem nameL_next {n S : List UInt8} {L : Known} (h : n ≠ [0]) (h0 : n ≠ []) (ha : lookK n L = none) : nameL n S L = nameL (tlN n) (S ++ hdN n) (if S.length < 16384 then L ++ [(n, (S.length : Int))] else L) := by
  rw [nameL, if_neg h]
  simp only [ha, dif_neg h0]
theorem getM_some {L : Known} {n : List UInt8} {a : Int} (h : lookK n L = some a) : getM .str (.int .i64) n L = a := by
  unfold getM
  rw [show lookM .str (.int .i64) n L = some a from h]
  rfl
theorem hasM_some {L : Known} {n : List UInt8} : hasM .str (.int .i64) n L = (lookK n L).isSome := rfl
theorem kOk_add {L : Known} (h : kOk L = true) {n : List UInt8} {v : Nat} (hv : v < 16384) : kOk (L ++ [(n, (v : Int))]) = true := by
  simp only [kOk, List.all_append, List.all_cons, List.all_nil, Bool.and_true, Bool.and_eq_true, decide_eq_true_eq]
  exact ⟨h, by omega, by omega⟩
theorem bytesOk_app {a b : List Int} (ha : bytesOk a = true) (hb : bytesOk b = true) : bytesOk (a ++ b) = true := by
  simp only [bytesOk, List.all_append, Bool.and_eq_true] at *
  exact ⟨ha, hb⟩
theorem put16_len (n : Int) : (put16 n).length = 2 := rfl
theorem hdN_len {n : List UInt8} (h : 1 + (n.getD 0 0).toNat ≤ n.length) : (hdN n).length = 1 + (n.getD 0 0).toNat := by unfold hdN; rw [List.length_take]; omega
theorem tlN_len (n : List UInt8) : (tlN n).length = n.length - (1 + (n.getD 0 0).toNat) := by unfold tlN; rw [List.length_drop]
theorem szW (n : List UInt8) : IntKind.wrap IntKind.i64 ((1 : Int) + IntKind.wrap IntKind.i64 (↑(UInt8.toNat (List.getD n (Int.toNat (0 : Int)) 0)) : Int)) = ((1 + (n.getD 0 0).toNat : Nat) : Int) := by
  have := (n.getD 0 0).toNat_lt
  rw [show Int.toNat (0 : Int) = 0 from rfl]
  rw [IntWalk.i64_in (((n.getD 0 0).toNat : Nat) : Int) (by omega), IntWalk.i64_in _ (by omega)]
  omega
theorem hdW (n : List UInt8) : List.take (Int.toNat ((1 + (n.getD 0 0).toNat : Nat) : Int) - Int.toNat (0 : Int)) (List.drop (Int.toNat (0 : Int)) n) = hdN n := by
  rw [Int.toNat_natCast]; rfl
theorem tlW (n : List UInt8) : List.take (Int.toNat (↑(List.length n) : Int) - Int.toNat ((1 + (n.getD 0 0).toNat : Nat) : Int)) (List.drop (Int.toNat ((1 + (n.getD 0 0).toNat : Nat) : Int)) n) = tlN n := by
  rw [Int.toNat_natCast, Int.toNat_natCast]
  exact List.take_of_length_le (by simp)
theorem getD_some {α : Type} {o : Option α} {a d : α} (h : o = some a) : o.getD d = a := by rw [h]; rfl
/-- What is left of a name is a name, or none; nothing gets lost. -/
theorem nameL_facts : ∀ (m : Nat) (n S : List UInt8) (L : Known), n.length = m → rootV n = true → ((nameL n S L).1 = none → (nameL n S L).2.1 = [0]) ∧ (∀ a, (nameL n S L).1 = some a → lookK (nameL n S L).2.1 (nameL n S L).2.2.2 = some a) ∧
    (nameL n S L).2.2.1.length + (nameL n S L).2.1.length = S.length + n.length ∧ (kOk L = true → kOk (nameL n S L).2.2.2 = true) ∧ (nameL n S L).2.1.length ≥ 1 ∧ (nameL n S L).2.2.2.length ≤ L.length + n.length := by
  intro m
  induction m using Nat.strongRecOn with
  | _ m ih =>
    intro n S L hm hr
    rcases root_cases hr with rfl | ⟨hn0, hn1, hlt, h63, hne, hrt⟩
    · rw [nameL_root]
      refine ⟨fun _ => rfl, fun a h => (by cases h), rfl, fun h => h, ?_, ?_⟩ <;> simp
    · cases hlk : lookK n L with
      | some a =>
        rw [nameL_known hn0 hlk]
        refine ⟨fun h => (by cases h), fun a' h => ?_, rfl, fun h => h, List.length_pos_iff.2 hn1, Nat.le_add_right _ _⟩
        cases h
        exact hlk
      | none =>
        rw [nameL_next hn0 hn1 hlk]
        have hlt2 := tlN_lt hn1
        obtain ⟨a1, a2, a3, a4, a5, a6⟩ := ih (tlN n).length (by omega) (tlN n) (S ++ hdN n) (if S.length < 16384 then L ++ [(n, (S.length : Int))] else L) rfl hrt
        refine ⟨a1, a2, ?_, fun h => a4 ?_, a5, ?_⟩
        · rw [a3, List.length_append, hdN_len (by omega), tlN_len]
          omega
        · split
          · exact kOk_add h (by assumption)
          · exact h
        · refine Nat.le_trans a6 ?_
          split
          · simp; omega
          · omega
end Go.Proofs.YtfepkpindchleaaE

/- Names taken: plain words. -/
namespace Go.Proofs.YtfepkpindchleaaE
open Go Go.Proofs.YtfepkpindchleaaB
set_option linter.unusedVariables false
set_option linter.unusedSimpArgs false
theorem bits_far : ∀ i, i < 16 → (49152 : Nat).testBit i = decide (14 ≤ i) := by decide
theorem nat_far (n : Nat) (hn : n < 65536) : n &&& (2 ^ 64 - 1 - 49152) = n % 16384 := by
  refine Nat.eq_of_testBit_eq fun i => ?_
  rw [Nat.testBit_and, show (16384 : Nat) = 2 ^ 14 from rfl, Nat.testBit_mod_two_pow]
  by_cases hi : i < 16
  · have h1 := bits_far i hi
    have h2 : (2 ^ 64 - 1 - 49152 : Nat).testBit i = !(49152 : Nat).testBit i := by
      have := Nat.testBit_two_pow_sub_succ (n := 64) (x := 49152) (by decide) i
      rw [show (2 ^ 64 - 1 - 49152 : Nat) = 2 ^ 64 - (49152 + 1) by decide, this]
      simp
      omega
    rw [h2, h1]
    by_cases h14 : i < 14
    · have : ¬ 14 ≤ i := by omega
      simp [h14, this]
    · have : 14 ≤ i := by omega
      simp [h14, this]
  · have : n.testBit i = false := Nat.testBit_lt_two_pow (Nat.lt_of_lt_of_le hn (show 2 ^ 16 ≤ 2 ^ i from Nat.pow_le_pow_right (by omega) (by omega)))
    rw [this]
    simp
theorem and_far {a : Int} (h0 : 0 ≤ a) (h1 : a ≤ 65535) : IntKind.wrap IntKind.i64 (↑(BitVec.toNat (BitVec.ofInt (IntKind.bits IntKind.i64) (IntKind.wrap IntKind.i64 a) &&& ~~~BitVec.ofInt (IntKind.bits IntKind.i64) (49152 : Int))) : Int) = a % 16384 := by
  obtain ⟨m, rfl⟩ : ∃ m : Nat, a = m := ⟨a.toNat, by omega⟩
  rw [IntWalk.i64_in (m : Int) (by omega)]
  have e : BitVec.toNat (BitVec.ofInt (IntKind.bits IntKind.i64) ((m : Nat) : Int) &&& ~~~BitVec.ofInt (IntKind.bits IntKind.i64) ((49152 : Nat) : Int)) = m % 16384 := by
    show BitVec.toNat (BitVec.ofInt 64 ((m : Nat) : Int) &&& ~~~BitVec.ofInt 64 ((49152 : Nat) : Int)) = _
    rw [BitVec.ofInt_natCast, BitVec.ofInt_natCast, BitVec.toNat_and, BitVec.toNat_not, BitVec.toNat_ofNat, BitVec.toNat_ofNat, Nat.mod_eq_of_lt (by omega), Nat.mod_eq_of_lt (by omega)]
    exact nat_far m (by omega)
  rw [show ((49152 : Int)) = ((49152 : Nat) : Int) from rfl, e, IntWalk.i64_in _ (by omega)]
  rfl
/-- The byte at a place; where a pointer there leads. -/
def szT (s : List UInt8) (at_ : Int) : Nat := (s.getD at_.toNat 0).toNat
def toT (s : List UInt8) (at_ : Int) : Int := n16 s at_ % 16384
theorem szT_lt (s : List UInt8) (at_ : Int) : szT s at_ ≤ 255 := by
  have := (s.getD at_.toNat 0).toNat_lt
  unfold szT
  omega
theorem n16_in (s : List UInt8) (at_ : Int) : 0 ≤ n16 s at_ ∧ n16 s at_ ≤ 65535 := by
  have h1 := (s.getD at_.toNat 0).toNat_lt
  have h2 := (s.getD (at_.toNat + 1) 0).toNat_lt
  unfold n16
  omega
theorem toT_in (s : List UInt8) (at_ : Int) : 0 ≤ toT s at_ ∧ toT s at_ < 16384 := by
  unfold toT
  omega
/-- How much is left to do. -/
def msT (s : List UInt8) (at_ from_ : Int) : Nat := from_.toNat * (s.length + 2) + (s.length + 1 - at_.toNat)
theorem someB_iff {s : List UInt8} {at_ many : Int} : someB s at_ many = true ↔ 0 ≤ at_ ∧ 0 ≤ many ∧ at_ + many ≤ s.length := by simp [someB]
theorem msT_to {s : List UInt8} {at_ from_ to : Int} (h0 : 0 ≤ to) (h : to < from_) : msT s to to < msT s at_ from_ := by
  unfold msT
  have h1 : to.toNat + 1 ≤ from_.toNat := by omega
  have h2 : (to.toNat + 1) * (s.length + 2) ≤ from_.toNat * (s.length + 2) := Nat.mul_le_mul_right _ h1
  rw [Nat.add_mul, Nat.one_mul] at h2
  omega
theorem msT_on {s : List UInt8} {at_ from_ : Int} {c : Nat} (h0 : 0 ≤ at_) (h : at_ + 1 + c ≤ s.length) : msT s (at_ + 1 + c) from_ < msT s at_ from_ := by
  unfold msT
  omega
/-- A name taken from a place on: its text, and the place behind it. -/
def takeG (s : List UInt8) (at_ from_ behind : Int) (out : List UInt8) : Option (List UInt8 × Int) :=
  if h1 : someB s at_ 1 = true then
    if 192 ≤ szT s at_ then
      (if h3 : someB s at_ 2 = true ∧ toT s at_ < from_ then takeG s (toT s at_) (toT s at_) (if behind < 0 then at_ + 2 else behind) out else none)
    else if 63 < szT s at_ then none
    else if h4 : someB s (at_ + 1) (szT s at_) = true ∧ out.length + 1 + szT s at_ ≤ 255 then
      (if szT s at_ = 0 then some (out ++ [0], if behind < 0 then at_ + 1 else behind)
       else takeG s (at_ + 1 + szT s at_) from_ behind (out ++ s.getD at_.toNat 0 :: foldB (someV s (at_ + 1) (szT s at_))))
    else none
  else none
termination_by msT s at_ from_
decreasing_by
  · exact msT_to (toT_in s at_).1 h3.2
  · have h1 := someB_iff.1 h1
    have h4 := someB_iff.1 h4.1
    exact msT_on h1.1 h4.2.2
/-- What is told of it. -/
def tkS : Option (List UInt8 × Int) → List UInt8
  | some p => p.1
  | none => []
def tkN : Option (List UInt8 × Int) → Int
  | some p => p.2
  | none => 0
def tkE : Option (List UInt8 × Int) → Int
  | some _ => 0
  | none => 2
def resT (o : Option (List UInt8 × Int)) : List AV := [.str (tkS o), .int .i64 (tkN o), .int .i64 (tkE o)]
section
variable {s : List UInt8} {at_ from_ behind : Int} {out : List UInt8}
theorem takeG_out (h : someB s at_ 1 = false) : takeG s at_ from_ behind out = none := by rw [takeG, dif_neg (by rw [h]; simp)]
theorem takeG_ptr (h : someB s at_ 1 = true) (h2 : 192 ≤ szT s at_) (h3 : someB s at_ 2 = true) (h4 : toT s at_ < from_) : takeG s at_ from_ behind out = takeG s (toT s at_) (toT s at_) (if behind < 0 then at_ + 2 else behind) out := by
  rw [takeG, dif_pos h, if_pos h2, dif_pos ⟨h3, h4⟩]
theorem takeG_bad (h : someB s at_ 1 = true) (h2 : 192 ≤ szT s at_) (h3 : ¬ (someB s at_ 2 = true ∧ toT s at_ < from_)) : takeG s at_ from_ behind out = none := by
  rw [takeG, dif_pos h, if_pos h2, dif_neg h3]
theorem takeG_mid (h : someB s at_ 1 = true) (h2 : ¬ 192 ≤ szT s at_) (h3 : 63 < szT s at_) : takeG s at_ from_ behind out = none := by
  rw [takeG, dif_pos h, if_neg h2, if_pos h3]
theorem takeG_long (h : someB s at_ 1 = true) (h2 : szT s at_ ≤ 63) (h4 : ¬ (someB s (at_ + 1) (szT s at_) = true ∧ out.length + 1 + szT s at_ ≤ 255)) : takeG s at_ from_ behind out = none := by
  rw [takeG, dif_pos h, if_neg (by omega), if_neg (by omega), dif_neg h4]
theorem takeG_end (h : someB s at_ 1 = true) (h2 : szT s at_ = 0) (h4 : out.length + 1 ≤ 255) : takeG s at_ from_ behind out = some (out ++ [0], if behind < 0 then at_ + 1 else behind) := by
  have h5 : someB s (at_ + 1) (szT s at_) = true := by
    have := someB_iff.1 h
    rw [h2]
    exact someB_iff.2 ⟨by omega, by simp, by simp; omega⟩
  rw [takeG, dif_pos h, if_neg (by omega), if_neg (by omega), dif_pos ⟨h5, by omega⟩, if_pos h2]
theorem takeG_on (h : someB s at_ 1 = true) (h2 : szT s at_ ≤ 63) (h3 : szT s at_ ≠ 0) (h4 : someB s (at_ + 1) (szT s at_) = true) (h5 : out.length + 1 + szT s at_ ≤ 255) :
    takeG s at_ from_ behind out = takeG s (at_ + 1 + szT s at_) from_ behind (out ++ s.getD at_.toNat 0 :: foldB (someV s (at_ + 1) (szT s at_))) := by
  rw [takeG, dif_pos h, if_neg (by omega), if_neg (by omega), dif_pos ⟨h4, h5⟩, if_neg h3]
end
theorem foldB_len (s : List UInt8) : (foldB s).length = s.length := by simp [foldB]
theorem someV_len {s : List UInt8} {at_ many : Int} (h : someB s at_ many = true) : (someV s at_ many).length = many.toNat := by
  have := someB_iff.1 h
  simp [someV]
  omega
end Go.Proofs.YtfepkpindchleaaE

/- The same words, to be reckoned out. -/
namespace Go.Proofs.YtfepkpindchleaaE
open Go Go.Proofs.YtfepkpindchleaaB
set_option linter.unusedVariables false
set_option linter.unusedSimpArgs false
def eachU : Nat → List UInt8 → List (List UInt8) × List UInt8
  | 0, s => ([], s)
  | n + 1, s => match s with
    | [] => ([], [])
    | c :: t => if c.toNat = 0 ∨ 63 < c.toNat ∨ t.length < c.toNat then ([], c :: t) else ((t.take c.toNat) :: (eachU n (t.drop c.toNat)).1, (eachU n (t.drop c.toNat)).2)
theorem eachU_eq : ∀ (n : Nat) (s : List UInt8), s.length < n → eachU n s = eachF s
  | 0, s, h => by omega
  | n + 1, [], h => by rw [eachF, eachU]
  | n + 1, c :: t, h => by
    rw [eachF, eachU]
    simp at h
    rw [eachU_eq n (t.drop c.toNat) (by simp; omega)]
theorem eachF_u (s : List UInt8) : eachF s = eachU (s.length + 1) s := (eachU_eq _ s (by omega)).symm
def mayU (s : List UInt8) : Bool := (eachU (s.length + 1) s).2 == [0] && (Nat.ble s.length 255 && (foldB s == s))
theorem mayV_u (s : List UInt8) : mayV s = mayU s := by
  unfold mayV mayU rootV
  rw [eachF_u]
def nameU : Nat → List UInt8 → List UInt8 → Known → Option Int × (List UInt8 × (List UInt8 × Known))
  | 0, n, S, L => (none, n, S, L)
  | m + 1, n, S, L => if n = [0] then (none, n, S, L) else match lookK n L with
    | some a => (some a, n, S, L)
    | none => if n = [] then (none, n, S, L) else nameU m (tlN n) (S ++ hdN n) (if S.length < 16384 then L ++ [(n, (S.length : Int))] else L)
theorem nameU_eq : ∀ (m : Nat) (n S : List UInt8) (L : Known), n.length < m → nameU m n S L = nameL n S L
  | 0, n, S, L, h => by omega
  | m + 1, n, S, L, h => by
    rw [nameL, nameU]
    by_cases h0 : n = [0]
    · rw [if_pos h0, if_pos h0]
    · rw [if_neg h0, if_neg h0]
      cases lookK n L with
      | some a => rfl
      | none =>
        simp only
        by_cases h1 : n = []
        · rw [if_pos h1, dif_pos h1]
        · rw [if_neg h1, dif_neg h1, nameU_eq m _ _ _ (by have := tlN_lt h1; omega)]
def namePU (n S : List UInt8) (L : Known) : List UInt8 × Known := ((nameU (n.length + 1) n S L).2.2.1 ++ endN (nameU (n.length + 1) n S L).1, (nameU (n.length + 1) n S L).2.2.2)
theorem nameP_u (n S : List UInt8) (L : Known) : nameP n S L = namePU n S L := by
  unfold nameP namePU
  rw [nameU_eq _ n S L (by omega)]
def takeU (s : List UInt8) : Nat → Int → Int → Int → List UInt8 → Option (List UInt8 × Int)
  | 0, _, _, _, _ => none
  | m + 1, at_, from_, behind, out =>
    if someB s at_ 1 = true then
      if 192 ≤ szT s at_ then
        (if someB s at_ 2 = true ∧ toT s at_ < from_ then takeU s m (toT s at_) (toT s at_) (if behind < 0 then at_ + 2 else behind) out else none)
      else if 63 < szT s at_ then none
      else if someB s (at_ + 1) (szT s at_) = true ∧ out.length + 1 + szT s at_ ≤ 255 then
        (if szT s at_ = 0 then some (out ++ [0], if behind < 0 then at_ + 1 else behind)
         else takeU s m (at_ + 1 + szT s at_) from_ behind (out ++ s.getD at_.toNat 0 :: foldB (someV s (at_ + 1) (szT s at_))))
      else none
    else none
theorem takeU_eq (s : List UInt8) : ∀ (m : Nat) (at_ from_ behind : Int) (out : List UInt8), msT s at_ from_ < m → takeU s m at_ from_ behind out = takeG s at_ from_ behind out
  | 0, _, _, _, _, h => by omega
  | m + 1, at_, from_, behind, out, h => by
    rw [takeG, takeU]
    by_cases h1 : someB s at_ 1 = true
    · rw [if_pos h1, dif_pos h1]
      by_cases h2 : 192 ≤ szT s at_
      · rw [if_pos h2, if_pos h2]
        by_cases h3 : someB s at_ 2 = true ∧ toT s at_ < from_
        · rw [if_pos h3, dif_pos h3, takeU_eq s m _ _ _ _ (by have := msT_to (s := s) (at_ := at_) (toT_in s at_).1 h3.2; omega)]
        · rw [if_neg h3, dif_neg h3]
      · rw [if_neg h2, if_neg h2]
        by_cases h3 : 63 < szT s at_
        · rw [if_pos h3, if_pos h3]
        · rw [if_neg h3, if_neg h3]
          by_cases h4 : someB s (at_ + 1) (szT s at_) = true ∧ out.length + 1 + szT s at_ ≤ 255
          · rw [if_pos h4, dif_pos h4]
            by_cases h5 : szT s at_ = 0
            · rw [if_pos h5, if_pos h5]
            · rw [if_neg h5, if_neg h5, takeU_eq s m _ _ _ _ (by
                have a1 := someB_iff.1 h1
                have a4 := someB_iff.1 h4.1
                have := msT_on (s := s) (from_ := from_) a1.1 a4.2.2
                omega)]
          · rw [if_neg h4, dif_neg h4]
    · rw [if_neg h1, dif_neg h1]
theorem takeG_u (s : List UInt8) (at_ : Int) : takeG s at_ at_ (-1) [] = takeU s (msT s at_ at_ + 1) at_ at_ (-1) [] := (takeU_eq s _ _ _ _ _ (by omega)).symm
example : mayV [3, 119, 119, 119, 2, 97, 98, 0] = true := by rw [mayV_u]; decide
example : (nameP [3, 119, 119, 119, 2, 97, 98, 0] [] []).1 = [3, 119, 119, 119, 2, 97, 98, 0] := by rw [nameP_u]; decide
example : takeG [3, 119, 119, 119, 2, 97, 98, 0, 192, 4] 8 8 (-1) [] = some ([2, 97, 98, 0], 10) := by rw [takeG_u]; decide
end Go.Proofs.YtfepkpindchleaaE

/- Names in packs, and names taken: how they belong together. -/
namespace Go.Proofs.YtfepkpindchleaaE
open Go Go.Proofs.YtfepkpindchleaaB
set_option linter.unusedVariables false
set_option linter.unusedSimpArgs false
/-! ### Small letters -/
theorem lowB_low (c : UInt8) : lowB (lowB c) = lowB c := by
  unfold lowB
  have hlt := c.toNat_lt
  by_cases h : c.toNat ≥ 65 ∧ c.toNat ≤ 90
  · rw [show (decide (c.toNat ≥ 65) && decide (c.toNat ≤ 90)) = true by simp; omega, cond_true]
    have e : (UInt8.ofNat (c.toNat + 32)).toNat = c.toNat + 32 := by simp; omega
    rw [show (decide ((UInt8.ofNat (c.toNat + 32)).toNat ≥ 65) && decide ((UInt8.ofNat (c.toNat + 32)).toNat ≤ 90)) = false by rw [e]; simp; omega, cond_false]
  · rw [show (decide (c.toNat ≥ 65) && decide (c.toNat ≤ 90)) = false by simp; omega, cond_false]
    rw [show (decide (c.toNat ≥ 65) && decide (c.toNat ≤ 90)) = false by simp; omega, cond_false]
theorem lowB_small {c : UInt8} (h : c.toNat ≤ 63) : lowB c = c := by
  unfold lowB
  rw [show (decide (c.toNat ≥ 65) && decide (c.toNat ≤ 90)) = false by simp; omega, cond_false]
theorem foldB_fold (s : List UInt8) : foldB (foldB s) = foldB s := by
  unfold foldB
  rw [List.map_map]
  exact List.map_congr_left fun c _ => lowB_low c
theorem foldB_app (a b : List UInt8) : foldB (a ++ b) = foldB a ++ foldB b := by simp [foldB]
theorem foldB_cons (c : UInt8) (b : List UInt8) : foldB (c :: b) = lowB c :: foldB b := rfl
/-- Small letters only. -/
def isLow (s : List UInt8) : Prop := foldB s = s
theorem isLow_app {a b : List UInt8} : isLow (a ++ b) ↔ isLow a ∧ isLow b := by
  unfold isLow
  rw [foldB_app]
  constructor
  · intro h
    have h1 := (List.append_inj h (foldB_len a))
    exact h1
  · rintro ⟨h1, h2⟩
    rw [h1, h2]
/-! ### Reading -/
/-- The byte at a place, as a number. -/
def byN (s : List UInt8) (k : Nat) : Nat := (s.getD k 0).toNat
theorem szT_nat (s : List UInt8) (k : Nat) : szT s (k : Int) = byN s k := by unfold szT byN; rw [Int.toNat_natCast]
/-- A name that stands at a place, below another one: its text, and the place behind it. -/
inductive Rd (S : List UInt8) : Nat → Nat → List UInt8 → Nat → Prop where
  | root {k f : Nat} (h : k < S.length) (h0 : byN S k = 0) : Rd S k f [0] (k + 1)
  | label {k f e : Nat} {n : List UInt8} (h1 : byN S k ≠ 0) (h63 : byN S k ≤ 63) (hin : k + 1 + byN S k ≤ S.length) (h : Rd S (k + 1 + byN S k) f n e) :
      Rd S k f (S.getD k 0 :: foldB ((S.drop (k + 1)).take (byN S k)) ++ n) e
  | ptr {k f e : Nat} {n : List UInt8} {to : Nat} (h192 : 192 ≤ byN S k) (hin : k + 2 ≤ S.length) (hto : toT S (k : Int) = to) (hlt : to < f) (h : Rd S to to n e) : Rd S k f n (k + 2)
theorem someB_nat {s : List UInt8} {k m : Nat} : someB s (k : Int) (m : Int) = true ↔ k + m ≤ s.length := by
  rw [someB_iff]
  omega
theorem Rd.pos {S : List UInt8} {k f e : Nat} {n : List UInt8} (h : Rd S k f n e) : 1 ≤ n.length ∧ k < e ∧ e ≤ S.length := by
  induction h with
  | root h h0 => simp; omega
  | label h1 h63 hin h ih => simp; omega
  | ptr h192 hin hto hlt h ih => omega
theorem takeG_rd {S : List UInt8} {k f e : Nat} {n : List UInt8} (h : Rd S k f n e) : ∀ (b : Int) (out : List UInt8), out.length + n.length ≤ 255 → takeG S (k : Int) (f : Int) b out = some (out ++ n, if b < 0 then (e : Int) else b) := by
  induction h with
  | @root k f hk h0 =>
    intro b out hl
    simp at hl
    rw [takeG_end (someB_nat.2 (by omega : k + 1 ≤ S.length)) (by rw [szT_nat]; exact h0) (by omega)]
    rfl
  | @label k f e n h1 h63 hin h ih =>
    intro b out hl
    have hp := h.pos
    simp [foldB_len] at hl
    have hlen : ((S.drop (k + 1)).take (byN S k)).length = byN S k := by simp; omega
    have h4 : someB S ((k : Int) + 1) (szT S (k : Int) : Int) = true := by
      rw [szT_nat, show ((k : Int) + 1) = ((k + 1 : Nat) : Int) by omega, someB_nat]
      omega
    rw [takeG_on (someB_nat.2 (by omega : k + 1 ≤ S.length)) (by rw [szT_nat]; omega) (by rw [szT_nat]; exact h1) h4 (by rw [szT_nat]; omega)]
    have e1 : (k : Int) + 1 + (szT S (k : Int) : Int) = ((k + 1 + byN S k : Nat) : Int) := by rw [szT_nat]; omega
    have e2 : someV S ((k : Int) + 1) (szT S (k : Int) : Int) = (S.drop (k + 1)).take (byN S k) := by
      unfold someV
      rw [szT_nat, Int.toNat_natCast, show ((k : Int) + 1).toNat = k + 1 by omega]
    rw [e1, e2, ih b _ (by simp [foldB_len]; omega), Int.toNat_natCast]
    simp
  | @ptr k f e n to h192 hin hto hlt h ih =>
    intro b out hl
    rw [takeG_ptr (someB_nat.2 (by omega : k + 1 ≤ S.length)) (by rw [szT_nat]; exact h192) (someB_nat.2 (by omega : k + 2 ≤ S.length)) (by rw [hto]; omega), hto, ih _ _ hl]
    congr 2
    by_cases hb : b < 0
    · rw [if_pos hb, if_neg (by omega), if_pos hb]
      omega
    · rw [if_neg hb, if_neg hb, if_neg hb]
theorem getD_app {S X : List UInt8} {k : Nat} (h : k < S.length) : (S ++ X).getD k 0 = S.getD k 0 := by
  rw [List.getD_eq_getElem?_getD, List.getD_eq_getElem?_getD, List.getElem?_append_left h]
theorem byN_app {S X : List UInt8} {k : Nat} (h : k < S.length) : byN (S ++ X) k = byN S k := by unfold byN; rw [getD_app h]
theorem toT_app {S X : List UInt8} {k : Nat} (h : k + 2 ≤ S.length) : toT (S ++ X) (k : Int) = toT S (k : Int) := by
  unfold toT n16
  rw [Int.toNat_natCast, getD_app (by omega), getD_app (by omega)]
theorem Rd.mono {S : List UInt8} (X : List UInt8) {k f e : Nat} {n : List UInt8} (h : Rd S k f n e) : Rd (S ++ X) k f n e := by
  induction h with
  | @root k f hk h0 => exact .root (by simp; omega) (by rw [byN_app hk]; exact h0)
  | @label k f e n h1 h63 hin h ih =>
    have hb : byN (S ++ X) k = byN S k := byN_app (by omega)
    have := Rd.label (S := S ++ X) (k := k) (f := f) (e := e) (n := n) (by rw [hb]; exact h1) (by rw [hb]; exact h63) (by rw [hb]; simp; omega) (by rw [hb]; exact ih)
    rw [hb, getD_app (by omega)] at this
    rw [List.drop_append_of_le_length (by omega), List.take_append_of_le_length (by simp; omega)] at this
    exact this
  | @ptr k f e n to h192 hin hto hlt h ih => exact .ptr (by rw [byN_app (by omega)]; exact h192) (by simp; omega) (by rw [toT_app hin]; exact hto) hlt ih
theorem Rd.up {S : List UInt8} {k f f' e : Nat} {n : List UInt8} (h : Rd S k f n e) (hf : f ≤ f') : Rd S k f' n e := by
  induction h generalizing f' with
  | root h h0 => exact .root h h0
  | label h1 h63 hin h ih => exact .label h1 h63 hin (ih hf)
  | ptr h192 hin hto hlt h ih => exact .ptr h192 hin hto (by omega) h
/-! ### What is known -/
def PI (S : List UInt8) (L : Known) : Prop := ∀ n a, (n, a) ∈ L → ∃ k e : Nat, a = (k : Int) ∧ k < 16384 ∧ Rd S k k n e
theorem PI.mono {S : List UInt8} {L : Known} (h : PI S L) (X : List UInt8) : PI (S ++ X) L := fun n a hm => by
  obtain ⟨k, e, h1, h2, h3⟩ := h n a hm
  exact ⟨k, e, h1, h2, h3.mono X⟩
theorem look_mem {n : List UInt8} {L : Known} {a : Int} (h : lookK n L = some a) : (n, a) ∈ L := by
  induction L with
  | nil => cases h
  | cons e L ih =>
    unfold lookK lookM at h
    by_cases hq : n = e.1
    · rw [show Ty.keq .str n e.1 = true by simp only [Ty.keq, beq_iff_eq]; exact hq] at h
      cases h
      rw [hq]
      exact List.mem_cons_self
    · rw [show Ty.keq .str n e.1 = false by simp only [Ty.keq, beq_eq_false_iff_ne]; exact hq] at h
      exact List.mem_cons_of_mem _ (ih h)
theorem look_app {n : List UInt8} {L N : Known} (h : ∀ m b, (m, b) ∈ N → m ≠ n) : lookK n (L ++ N) = lookK n L := by
  induction L with
  | nil =>
    show lookK n N = none
    induction N with
    | nil => rfl
    | cons e N ih =>
      unfold lookK lookM
      have hq : n ≠ e.1 := fun e' => h e.1 e.2 List.mem_cons_self e'.symm
      rw [show Ty.keq .str n e.1 = false by simp only [Ty.keq, beq_eq_false_iff_ne]; exact hq]
      exact ih fun m b hm => h m b (List.mem_cons_of_mem _ hm)
  | cons e L ih =>
    simp only [List.cons_append]
    unfold lookK lookM
    cases Ty.keq .str n e.1 with
    | true => rfl
    | false => exact ih
theorem look_has {n : List UInt8} {L : Known} {a : Int} (h : (n, a) ∈ L) : (lookK n L).isSome = true := by
  induction L with
  | nil => simp at h
  | cons e L ih =>
    unfold lookK lookM
    rcases List.mem_cons.1 h with rfl | h
    · rw [show Ty.keq .str n n = true by simp [Ty.keq]]
      rfl
    · cases Ty.keq .str n e.1 with
      | true => rfl
      | false => exact ih h
theorem PI.kOk {S : List UInt8} {L : Known} (h : PI S L) : kOk L = true := by
  refine List.all_eq_true.2 fun ⟨n, a⟩ hm => ?_
  obtain ⟨k, e, rfl, h2, _⟩ := h n a hm
  simp only [Bool.and_eq_true, decide_eq_true_eq]
  omega
theorem put16_to {S X : List UInt8} {a : Nat} (ha : a < 16384) : byN (S ++ (put16 (49152 + (a : Int)) ++ X)) S.length ≥ 192 ∧ toT (S ++ (put16 (49152 + (a : Int)) ++ X)) (S.length : Int) = a := by
  have e0 : (S ++ (put16 (49152 + (a : Int)) ++ X)).getD S.length 0 = UInt8.ofNat ((49152 + (a : Int)) / 256).toNat := by
    rw [List.getD_eq_getElem?_getD, List.getElem?_append_right (Nat.le_refl _), Nat.sub_self]; rfl
  have e1 : (S ++ (put16 (49152 + (a : Int)) ++ X)).getD (S.length + 1) 0 = UInt8.ofNat ((49152 + (a : Int)) % 256).toNat := by
    rw [List.getD_eq_getElem?_getD, List.getElem?_append_right (by omega), show S.length + 1 - S.length = 1 by omega]; rfl
  have t0 : (UInt8.ofNat ((49152 + (a : Int)) / 256).toNat).toNat = 192 + a / 256 := by simp; omega
  have t1 : (UInt8.ofNat ((49152 + (a : Int)) % 256).toNat).toNat = a % 256 := by simp; omega
  constructor
  · unfold byN
    rw [e0, t0]
    omega
  · unfold toT n16
    rw [Int.toNat_natCast, e0, e1, t0, t1]
    omega
/-- A name put behind bytes: it stands there; all that is known then stands where it is said to. -/
theorem nameP_rd : ∀ (m : Nat) (n S : List UInt8) (L0 N : Known) (S0 T0 : List UInt8), n.length = m → rootV n = true → isLow n → PI S0 L0 → S = S0 ++ T0 → (∀ q b, (q, b) ∈ N → n.length < q.length) →
    ∃ T N', (nameP n S (L0 ++ N)).1 = S ++ T ∧ (nameP n S (L0 ++ N)).2 = (L0 ++ N) ++ N' ∧ Rd (S ++ T) S.length S0.length n (S ++ T).length ∧ (∀ q b, (q, b) ∈ N' → ∃ k e : Nat, b = (k : Int) ∧ k < 16384 ∧ Rd (S ++ T) k k q e) := by
  intro m
  induction m using Nat.strongRecOn with
  | _ m ih =>
    intro n S L0 N S0 T0 hm hr hlow hPI hS hN
    rcases root_cases hr with rfl | ⟨hn0, hn1, hlt, h63, hne, hrt⟩
    · refine ⟨[0], [], ?_, ?_, ?_, fun q b h => by simp at h⟩
      · unfold nameP; rw [nameL_root]; rfl
      · unfold nameP; rw [nameL_root]; simp
      · have hb : byN (S ++ [0]) S.length = 0 := by
          unfold byN
          rw [List.getD_eq_getElem?_getD, List.getElem?_append_right (Nat.le_refl _), Nat.sub_self]; rfl
        have := Rd.root (S := S ++ [0]) (k := S.length) (f := S0.length) (by simp) hb
        simpa using this
    · have hlk : lookK n (L0 ++ N) = lookK n L0 := look_app fun q b hq e => by have := hN q b hq; rw [e] at this; omega
      cases ha : lookK n L0 with
      | some a =>
        obtain ⟨k, e, rfl, hk, hrd⟩ := hPI n a (look_mem ha)
        refine ⟨put16 (49152 + (k : Int)), [], ?_, ?_, ?_, fun q b h => by simp at h⟩
        · unfold nameP; rw [nameL_known hn0 (hlk.trans ha)]; rfl
        · unfold nameP; rw [nameL_known hn0 (hlk.trans ha)]; simp
        · obtain ⟨h1, h2⟩ := put16_to (S := S) (X := []) hk
          rw [List.append_nil] at h1 h2
          have hp := hrd.pos
          have := Rd.ptr (S := S ++ put16 (49152 + (k : Int))) (k := S.length) (f := S0.length) (to := k) h1 (by simp [put16_len]) h2 (by omega) (by rw [hS, List.append_assoc]; exact hrd.mono _)
          simpa [put16_len] using this
      | none =>
        have hlt2 := tlN_lt hn1
        obtain ⟨c, t, rfl⟩ := List.exists_cons_of_ne_nil hn1
        have hc : (c :: t).getD 0 0 = c := rfl
        rw [hc] at hlt h63 hne
        have htl : tlN (c :: t) = t.drop c.toNat := by unfold tlN; rw [hc, Nat.add_comm]; rfl
        have hhd : hdN (c :: t) = c :: t.take c.toNat := by unfold hdN; rw [hc, Nat.add_comm]; rfl
        have hsplit : (c :: t) = hdN (c :: t) ++ tlN (c :: t) := by rw [hhd, htl]; simp
        have hlow2 : isLow (hdN (c :: t)) ∧ isLow (tlN (c :: t)) := isLow_app.1 (hsplit ▸ hlow)
        have hhl : (hdN (c :: t)).length = 1 + c.toNat := by rw [hhd]; simp at hlt ⊢; omega
        obtain ⟨N2, hN2, hN2len, hN2k⟩ : ∃ N2 : Known, (if S.length < 16384 then (L0 ++ N) ++ [((c :: t), (S.length : Int))] else L0 ++ N) = L0 ++ (N ++ N2) ∧ (∀ q b, (q, b) ∈ N2 → q = c :: t ∧ b = (S.length : Int) ∧ S.length < 16384) ∧ True := by
          by_cases h : S.length < 16384
          · rw [if_pos h]
            exact ⟨[((c :: t), (S.length : Int))], by simp, fun q b hq => by simp at hq; exact ⟨hq.1, hq.2, h⟩, trivial⟩
          · rw [if_neg h]
            exact ⟨[], by simp, fun q b hq => by simp at hq, trivial⟩
        obtain ⟨T, N', i1, i2, i3, i4⟩ := ih (tlN (c :: t)).length (by omega) (tlN (c :: t)) (S ++ hdN (c :: t)) L0 (N ++ N2) S0 (T0 ++ hdN (c :: t)) rfl hrt hlow2.2 hPI (by rw [hS]; simp) (fun q b hq => by
          rcases List.mem_append.1 hq with hq | hq
          · have := hN q b hq; omega
          · obtain ⟨rfl, _⟩ := hN2len q b hq; omega)
        have hP : nameP (c :: t) S (L0 ++ N) = nameP (tlN (c :: t)) (S ++ hdN (c :: t)) (L0 ++ (N ++ N2)) := by
          unfold nameP
          rw [nameL_next hn0 hn1 (hlk.trans ha), hN2]
        rw [hP]
        have hb : byN (S ++ (hdN (c :: t) ++ T)) S.length = c.toNat := by
          unfold byN
          rw [List.getD_eq_getElem?_getD, List.getElem?_append_right (Nat.le_refl _), Nat.sub_self, hhd]; rfl
        have hg : (S ++ (hdN (c :: t) ++ T)).getD S.length 0 = c := by
          rw [List.getD_eq_getElem?_getD, List.getElem?_append_right (Nat.le_refl _), Nat.sub_self, hhd]; rfl
        rw [List.append_assoc] at i1 i3 i4
        have hrd : Rd (S ++ (hdN (c :: t) ++ T)) S.length S0.length (c :: t) (S ++ (hdN (c :: t) ++ T)).length := by
          have hl := Rd.label (S := S ++ (hdN (c :: t) ++ T)) (k := S.length) (f := S0.length) (e := (S ++ (hdN (c :: t) ++ T)).length) (n := tlN (c :: t)) (by rw [hb]; exact hne) (by rw [hb]; exact h63) (by rw [hb]; simp [hhl]; omega) (by
            rw [hb]
            have : (S ++ hdN (c :: t)).length = S.length + 1 + c.toNat := by rw [List.length_append, hhl]; omega
            rw [this] at i3
            exact i3)
          rw [hb, hg] at hl
          have hv : ((S ++ (hdN (c :: t) ++ T)).drop (S.length + 1)).take c.toNat = t.take c.toNat := by
            rw [← List.drop_drop, List.drop_left, hhd]
            simp only [List.cons_append, List.drop_succ_cons, List.drop_zero]
            rw [List.take_append_of_le_length (by simp at hlt ⊢; omega), List.take_take, Nat.min_self]
          rw [hv] at hl
          have hf : foldB (t.take c.toNat) = t.take c.toNat := by
            have := hlow2.1
            rw [hhd] at this
            exact (List.cons.inj this).2
          rw [hf, htl] at hl
          have e : c :: List.take c.toNat t ++ List.drop c.toNat t = c :: t := by simp
          rw [e] at hl
          exact hl
        refine ⟨hdN (c :: t) ++ T, N2 ++ N', i1, by rw [i2]; simp, hrd, fun q b hq => ?_⟩
        rcases List.mem_append.1 hq with hq | hq
        · obtain ⟨rfl, rfl, h⟩ := hN2len q b hq
          exact ⟨S.length, _, rfl, h, hrd.up (by rw [hS]; simp)⟩
        · exact i4 q b hq
end Go.Proofs.YtfepkpindchleaaE

/- Names in packs, and names taken: what laws ask. -/
namespace Go.Proofs.YtfepkpindchleaaE
open Go Go.Proofs.YtfepkpindchleaaB
set_option linter.unusedVariables false
set_option linter.unusedSimpArgs false
theorem may_iff {n : List UInt8} : mayV n = true ↔ rootV n = true ∧ n.length ≤ 255 ∧ isLow n := by
  unfold mayV isLow
  rw [ble_iff]
  simp
/-- A name put: where it stands, what is known then, how many bytes it took. -/
theorem name_put {n S : List UInt8} {L : Known} (hm : mayV n = true) (hP : PI S L) :
    ∃ T N', (nameP n S L).1 = S ++ T ∧ (nameP n S L).2 = L ++ N' ∧ PI (S ++ T) (L ++ N') ∧ Rd (S ++ T) S.length S.length n (S ++ T).length := by
  obtain ⟨h1, h2, h3⟩ := may_iff.1 hm
  obtain ⟨T, N', a1, a2, a3, a4⟩ := nameP_rd _ n S L [] S [] rfl h1 h3 hP (by simp) (fun q b h => by simp at h)
  rw [List.append_nil] at a1 a2
  refine ⟨T, N', a1, a2, fun q b hq => ?_, a3⟩
  rcases List.mem_append.1 hq with hq | hq
  · exact hP.mono T q b hq
  · exact a4 q b hq
theorem root_len {n : List UInt8} (hr : rootV n = true) (h : n ≠ [0]) : 3 ≤ n.length := by
  rcases root_cases hr with rfl | ⟨_, _, hlt, _, hne, _⟩
  · exact absurd rfl h
  · omega
theorem nameL_mono : ∀ (m : Nat) (n S : List UInt8) (L : Known), n.length = m → S.length ≤ (nameL n S L).2.2.1.length := by
  intro m
  induction m using Nat.strongRecOn with
  | _ m ih =>
    intro n S L hm
    by_cases h0 : n = [0]
    · rw [h0, nameL_root]; exact Nat.le_refl _
    · cases hlk : lookK n L with
      | some a => rw [nameL_known h0 hlk]; exact Nat.le_refl _
      | none =>
        by_cases h1 : n = []
        · rw [nameL, if_neg h0]; simp only [hlk, dif_pos h1]; exact Nat.le_refl _
        · rw [nameL_next h0 h1 hlk]
          have := ih (tlN n).length (by have := tlN_lt h1; omega) (tlN n) (S ++ hdN n) (if S.length < 16384 then L ++ [(n, (S.length : Int))] else L) rfl
          rw [List.length_append] at this
          omega
theorem nameL_len : ∀ (m : Nat) (n S : List UInt8) (L : Known), n.length = m → rootV n = true → (nameP n S L).1.length ≤ S.length + n.length ∧ S.length + 1 ≤ (nameP n S L).1.length ∧ (nameP n S L).2.length ≤ L.length + n.length := by
  intro m n S L hm hr
  obtain ⟨f1, f2, f3, f4, f5, f6⟩ := nameL_facts _ n S L rfl hr
  have f7 := nameL_mono _ n S L rfl
  unfold nameP
  rw [List.length_append]
  cases h : (nameL n S L).1 with
  | none =>
    have := f1 h
    rw [this] at f3
    simp only [endN, List.length_cons, List.length_nil] at f3 ⊢
    omega
  | some a =>
    have hne : (nameL n S L).2.1.length ≥ 3 := by
      -- what is left is known: it is no root
      have : ∀ (m : Nat) (n S : List UInt8) (L : Known), n.length = m → rootV n = true → ∀ a, (nameL n S L).1 = some a → 3 ≤ (nameL n S L).2.1.length := by
        intro m
        induction m using Nat.strongRecOn with
        | _ m ih =>
          intro n S L hm hr a ha
          rcases root_cases hr with rfl | ⟨hn0, hn1, hlt, h63, hne, hrt⟩
          · rw [nameL_root] at ha; cases ha
          · cases hlk : lookK n L with
            | some a' => rw [nameL_known hn0 hlk]; exact root_len hr hn0
            | none =>
              rw [nameL_next hn0 hn1 hlk] at ha ⊢
              exact ih (tlN n).length (by have := tlN_lt hn1; omega) _ _ _ rfl hrt a ha
      exact this _ n S L rfl hr a h
    simp only [endN, put16_len]
    omega
/-! ### What is taken -/
/-- Labels, so far. -/
def LP (out : List UInt8) : Prop := isLow out ∧ ∀ r, (eachF (out ++ r)).2 = (eachF r).2
theorem LP_nil : LP [] := ⟨rfl, fun r => rfl⟩
theorem LP_on {out v : List UInt8} {c : UInt8} (h : LP out) (h0 : c.toNat ≠ 0) (h63 : c.toNat ≤ 63) (hv : v.length = c.toNat) : LP (out ++ c :: foldB v) := by
  refine ⟨isLow_app.2 ⟨h.1, ?_⟩, fun r => ?_⟩
  · unfold isLow
    rw [foldB_cons, lowB_small h63, foldB_fold]
  · rw [List.append_assoc, h.2, List.cons_append, eachF, if_neg (by simp [foldB_len, hv]; omega)]
    simp only
    rw [List.drop_append_of_le_length (by simp [foldB_len, hv]), List.drop_eq_nil_of_le (by simp [foldB_len, hv])]
    rfl
theorem takeG_may {s : List UInt8} : ∀ (m : Nat) (at_ from_ b : Int) (out n : List UInt8) (next : Int), msT s at_ from_ = m → LP out → takeG s at_ from_ b out = some (n, next) →
    mayV n = true ∧ (0 ≤ b → next = b) ∧ (b < 0 → at_ < next ∧ next ≤ s.length) ∧ 0 ≤ at_ := by
  intro m
  induction m using Nat.strongRecOn with
  | _ m ih =>
    intro at_ from_ b out n next hm hL h
    cases h1 : someB s at_ 1 with
    | false => rw [takeG_out h1] at h; cases h
    | true =>
      have hs1 := someB_iff.1 h1
      by_cases h192 : 192 ≤ szT s at_
      · by_cases h3 : someB s at_ 2 = true ∧ toT s at_ < from_
        · rw [takeG_ptr h1 h192 h3.1 h3.2] at h
          have hto := toT_in s at_
          obtain ⟨a1, a2, a3, a4⟩ := ih (msT s (toT s at_) (toT s at_)) (by have := msT_to (s := s) (at_ := at_) hto.1 h3.2; omega) _ _ _ _ _ _ rfl hL h
          have hs2 := someB_iff.1 h3.1
          refine ⟨a1, fun hb => ?_, fun hb => ?_, hs1.1⟩
          · rw [if_neg (by omega)] at a2
            exact a2 hb
          · rw [if_pos hb] at a2
            have := a2 (by omega)
            omega
        · rw [takeG_bad h1 h192 h3] at h; cases h
      · by_cases h63 : 63 < szT s at_
        · rw [takeG_mid h1 h192 h63] at h; cases h
        · by_cases h4 : someB s (at_ + 1) (szT s at_) = true ∧ out.length + 1 + szT s at_ ≤ 255
          · have hs4 := someB_iff.1 h4.1
            have hvl : (someV s (at_ + 1) (szT s at_ : Int)).length = szT s at_ := by rw [someV_len h4.1]; omega
            by_cases h0 : szT s at_ = 0
            · rw [takeG_end h1 h0 (by omega)] at h
              cases h
              refine ⟨may_iff.2 ⟨?_, by simp; omega, isLow_app.2 ⟨hL.1, by unfold isLow; decide⟩⟩, fun hb => by rw [if_neg (by omega)], fun hb => by rw [if_pos hb]; omega, hs1.1⟩
              unfold rootV
              rw [hL.2, eachF, if_pos (by decide)]
              rfl
            · rw [takeG_on h1 (by omega) h0 h4.1 h4.2] at h
              have hg : (s.getD at_.toNat 0).toNat = szT s at_ := rfl
              obtain ⟨a1, a2, a3, a4⟩ := ih (msT s (at_ + 1 + szT s at_) from_) (by have := msT_on (s := s) (from_ := from_) hs1.1 hs4.2.2; omega) _ _ _ _ _ _ rfl (LP_on hL (by rw [hg]; exact h0) (by rw [hg]; omega) (by rw [hg]; exact hvl)) h
              refine ⟨a1, a2, fun hb => ?_, hs1.1⟩
              have := a3 hb
              omega
          · rw [takeG_long h1 (by omega) h4] at h; cases h
/-- Nothing that is known is in the way: the name's own bytes. -/
theorem nameP_fresh : ∀ (m : Nat) (n S : List UInt8) (L : Known), n.length = m → rootV n = true → (∀ q b, (q, b) ∈ L → n.length < q.length) → (nameP n S L).1 = S ++ n := by
  intro m
  induction m using Nat.strongRecOn with
  | _ m ih =>
    intro n S L hm hr hL
    rcases root_cases hr with rfl | ⟨hn0, hn1, hlt, h63, hne, hrt⟩
    · unfold nameP; rw [nameL_root]; rfl
    · have hlk : lookK n L = none := by
        have := look_app (n := n) (L := []) (N := L) fun q b hq e => by have := hL q b hq; rw [e] at this; omega
        exact this
      have hlt2 := tlN_lt hn1
      have : nameP n S L = nameP (tlN n) (S ++ hdN n) (if S.length < 16384 then L ++ [(n, (S.length : Int))] else L) := by
        unfold nameP
        rw [nameL_next hn0 hn1 hlk]
      rw [this, ih (tlN n).length (by omega) (tlN n) _ _ rfl hrt (fun q b hq => by
        split at hq
        · rcases List.mem_append.1 hq with hq | hq
          · have := hL q b hq; omega
          · simp at hq; rw [hq.1]; exact hlt2
        · have := hL q b hq; omega)]
      rw [List.append_assoc]
      congr 1
      exact List.take_append_drop _ n
/-- A name by itself stands as it is. -/
theorem Rd_self (n A X : List UInt8) (hr : rootV n = true) (hl : isLow n) : Rd (A ++ (n ++ X)) A.length A.length n (A.length + n.length) := by
  obtain ⟨T, N', a1, a2, a3, a4⟩ := nameP_rd _ n A [] [] A [] rfl hr hl (fun q b h => by simp at h) (by simp) (fun q b h => by simp at h)
  have hk := nameP_fresh _ n A [] rfl hr (fun q b h => by simp at h)
  rw [List.append_nil] at a1
  have hT : T = n := List.append_cancel_left (a1.symm.trans hk)
  subst hT
  have := a3.mono X
  rw [List.append_assoc, List.length_append] at this
  exact this
theorem takeG_self {n X : List UInt8} (hm : mayV n = true) : takeG (n ++ X) 0 0 (-1) [] = some (n, (n.length : Int)) := by
  obtain ⟨h1, h2, h3⟩ := may_iff.1 hm
  have := takeG_rd (Rd_self n [] X h1 h3) (-1) [] (by simpa using h2)
  simpa using this
/-- A name that is put into an empty pack takes its bytes. -/
theorem nameP_self {n : List UInt8} (hm : mayV n = true) : (nameP n [] []).1 = n := by
  obtain ⟨h1, h2, h3⟩ := may_iff.1 hm
  simpa using nameP_fresh _ n [] [] rfl h1 (fun q b h => by simp at h)
end Go.Proofs.YtfepkpindchleaaE

/- Names taken, as the document has it: plain words; they are the same. -/
namespace Go.Proofs.YtfepkpindchleaaE
open Go Go.Proofs.YtfepkpindchleaaB
set_option linter.unusedVariables false
set_option linter.unusedSimpArgs false
/-- Where labels from a place on end: with a root, or at a pointer. -/
def labE (s : List UInt8) (k : Nat) : Option (Nat × Bool) :=
  if h : k < s.length then
    (if 192 ≤ byN s k then some (k, false) else if 63 < byN s k then none else if byN s k = 0 then some (k + 1, true) else labE s (k + 1 + byN s k))
  else none
termination_by s.length - k
theorem labE_ge {s : List UInt8} : ∀ (m k e : Nat) (r : Bool), s.length - k = m → labE s k = some (e, r) → k ≤ e ∧ e ≤ s.length ∧ (r = true → k < e ∧ byN s (e - 1) = 0) := by
  intro m
  induction m using Nat.strongRecOn with
  | _ m ih =>
    intro k e r hm h
    rw [labE] at h
    by_cases hk : k < s.length
    · rw [dif_pos hk] at h
      split at h
      · cases h; exact ⟨Nat.le_refl _, by omega, fun h => by cases h⟩
      · split at h
        · cases h
        · split at h
          · cases h; exact ⟨by omega, by omega, fun _ => ⟨by omega, by simpa⟩⟩
          · have := ih (s.length - (k + 1 + byN s k)) (by omega) _ e r rfl h
            exact ⟨by omega, this.2.1, fun hr => ⟨by omega, (this.2.2 hr).2⟩⟩
    · rw [dif_neg hk] at h; cases h
/-- The bytes from one place up to another. -/
def sub (s : List UInt8) (a e : Nat) : List UInt8 := (s.drop a).take (e - a)
theorem sub_len {s : List UInt8} {a e : Nat} (h : a ≤ e) (he : e ≤ s.length) : (sub s a e).length = e - a := by simp [sub]; omega
theorem sub_get {s : List UInt8} {a e j : Nat} (h : a + j < e) (he : e ≤ s.length) : byN (sub s a e) j = byN s (a + j) := by
  unfold byN sub
  rw [List.getD_eq_getElem?_getD, List.getElem?_take_of_lt (by omega), List.getElem?_drop, List.getD_eq_getElem?_getD]
theorem sub_split {s : List UInt8} {a m e : Nat} (h1 : a ≤ m) (h2 : m ≤ e) : sub s a e = sub s a m ++ sub s m e := by
  unfold sub
  have : e - a = (m - a) + (e - m) := by omega
  rw [this, List.take_add, List.drop_drop]
  congr 3
  omega
theorem sub_one {s : List UInt8} {a c : Nat} (h : a < s.length) : sub s a (a + 1 + c) = s.getD a 0 :: (s.drop (a + 1)).take c := by
  unfold sub
  rw [drop_get s a 0 h, show a + 1 + c - a = c + 1 by omega]
  rfl
/-- Whether bytes are labels, and a byte 0 behind all. -/
def endsR (p : List UInt8) (k : Nat) : Bool :=
  if h : k < p.length then (if byN p k = 0 then decide (k = p.length - 1) else endsR p (k + 1 + byN p k)) else false
termination_by p.length - k
theorem endsR_lab {s : List UInt8} : ∀ (m a k e : Nat) (r : Bool), s.length - k = m → a ≤ k → labE s k = some (e, r) → endsR (sub s a e) (k - a) = r := by
  intro m
  induction m using Nat.strongRecOn with
  | _ m ih =>
    intro a k e r hm hak h
    have hge := labE_ge _ k e r rfl h
    have hlen := sub_len (s := s) (a := a) (e := e) (by omega) hge.2.1
    have h' := h
    rw [labE] at h
    by_cases hk : k < s.length
    · rw [dif_pos hk] at h
      split at h
      · cases h
        rw [endsR, dif_neg (by omega)]
      · split at h
        · cases h
        · split at h
          · rename_i h0
            cases h
            rw [endsR, dif_pos (by omega), if_pos (by rw [sub_get (by omega) hge.2.1, show a + (k - a) = k by omega]; exact h0)]
            exact decide_eq_true (by omega)
          · rename_i h0
            have hge2 := labE_ge _ _ e r rfl h
            have hb : byN (sub s a e) (k - a) = byN s k := by rw [sub_get (by omega) hge.2.1, show a + (k - a) = k by omega]
            rw [endsR, dif_pos (by omega), if_neg (by rw [hb]; exact h0), hb, show k - a + 1 + byN s k = (k + 1 + byN s k) - a by omega]
            exact ih (s.length - (k + 1 + byN s k)) (by omega) a _ e r rfl (by omega) h
    · rw [dif_neg hk] at h; cases h
/-- A name taken, piece by piece. -/
def takeR (s : List UInt8) (a : Nat) (b : Int) (n : List UInt8) : Option (List UInt8 × Int) :=
  match labE s a with
  | none => none
  | some (e, true) => some (n ++ sub s a e, if b < 0 then (e : Int) else b)
  | some (e, false) => if h : e + 2 ≤ s.length ∧ toT s (e : Int) < (a : Int) then takeR s (toT s (e : Int)).toNat (if b < 0 then (e : Int) + 2 else b) (n ++ sub s a e) else none
termination_by a
decreasing_by
  have := toT_in s (e : Int)
  omega
theorem takeR_len {s : List UInt8} : ∀ (a : Nat) (b : Int) (n m : List UInt8) (b' : Int), takeR s a b n = some (m, b') → n.length ≤ m.length := by
  intro a
  induction a using Nat.strongRecOn with
  | _ a ih =>
    intro b n m b' h
    rw [takeR] at h
    split at h
    · cases h
    · cases h; simp
    · rename_i e _
      split at h
      · rename_i hc
        have hto := toT_in s (e : Int)
        have := ih _ (by omega) _ _ _ _ h
        simp at this
        omega
      · cases h
theorem takeG_lab {s : List UInt8} : ∀ (m k f : Nat) (b : Int) (out : List UInt8), s.length - k = m →
    (labE s k = none → takeG s (k : Int) (f : Int) b (foldB out) = none) ∧
    (∀ e, labE s k = some (e, true) → takeG s (k : Int) (f : Int) b (foldB out) = if out.length + (e - k) ≤ 255 then some (foldB (out ++ sub s k e), if b < 0 then (e : Int) else b) else none) ∧
    (∀ e, labE s k = some (e, false) → out.length ≤ 255 → takeG s (k : Int) (f : Int) b (foldB out) = if out.length + (e - k) ≤ 255 then takeG s (e : Int) (f : Int) b (foldB (out ++ sub s k e)) else none) := by
  intro m
  induction m using Nat.strongRecOn with
  | _ m ih =>
    intro k f b out hm
    by_cases hk : k < s.length
    · have h1 : someB s (k : Int) 1 = true := someB_nat.2 (by omega : k + 1 ≤ s.length)
      have hL := labE.eq_1 s k
      rw [dif_pos hk] at hL
      by_cases h192 : 192 ≤ byN s k
      · rw [if_pos h192] at hL
        refine ⟨fun h => (by rw [h] at hL; cases hL), fun e h => (by rw [h] at hL; cases hL), fun e h hl => ?_⟩
        rw [h] at hL
        cases hL
        rw [if_pos (by omega)]
        simp [sub]
      · rw [if_neg h192] at hL
        by_cases h63 : 63 < byN s k
        · rw [if_pos h63] at hL
          refine ⟨fun h => takeG_mid h1 (by rw [szT_nat]; exact h192) (by rw [szT_nat]; exact h63), fun e h => (by rw [h] at hL; cases hL), fun e h => (by rw [h] at hL; cases hL)⟩
        · rw [if_neg h63] at hL
          by_cases h0 : byN s k = 0
          · rw [if_pos h0] at hL
            have hg0 : s.getD k 0 = 0 := UInt8.toNat_inj.1 (by simpa using (show (s.getD k 0).toNat = 0 from h0))
            refine ⟨fun h => (by rw [h] at hL; cases hL), fun e h => ?_, fun e h => (by rw [h] at hL; cases hL)⟩
            rw [h] at hL
            cases hL
            have hs : sub s k (k + 1) = [0] := by
              have := sub_one (s := s) (a := k) (c := 0) hk
              rw [hg0] at this
              simpa using this
            by_cases hc : out.length + 1 ≤ 255
            · rw [if_pos (by omega), takeG_end h1 (by rw [szT_nat]; exact h0) (by rw [foldB_len]; exact hc), hs, foldB_app]
              rfl
            · rw [if_neg (by omega)]
              exact takeG_long h1 (by rw [szT_nat]; omega) (by rw [foldB_len, szT_nat]; exact fun h => hc (by omega))
          · rw [if_neg h0] at hL
            by_cases hin : k + 1 + byN s k ≤ s.length
            · have h4 : someB s ((k : Int) + 1) (szT s (k : Int) : Int) = true := by
                rw [szT_nat, show ((k : Int) + 1) = ((k + 1 : Nat) : Int) by omega, someB_nat]
                omega
              have e1 : (k : Int) + 1 + (szT s (k : Int) : Int) = ((k + 1 + byN s k : Nat) : Int) := by rw [szT_nat]; omega
              have e2 : someV s ((k : Int) + 1) (szT s (k : Int) : Int) = (s.drop (k + 1)).take (byN s k) := by
                unfold someV
                rw [szT_nat, Int.toNat_natCast, show ((k : Int) + 1).toNat = k + 1 by omega]
              have hsl : (sub s k (k + 1 + byN s k)).length = 1 + byN s k := by rw [sub_len (by omega) hin]; omega
              have hfold : foldB out ++ s.getD k 0 :: foldB ((s.drop (k + 1)).take (byN s k)) = foldB (out ++ sub s k (k + 1 + byN s k)) := by
                rw [foldB_app, sub_one hk, foldB_cons, lowB_small (show (s.getD k 0).toNat ≤ 63 from by unfold byN at h63; omega)]
              obtain ⟨i1, i2, i3⟩ := ih (s.length - (k + 1 + byN s k)) (by omega) (k + 1 + byN s k) f b (out ++ sub s k (k + 1 + byN s k)) rfl
              have hstep : out.length + 1 + byN s k ≤ 255 → takeG s (k : Int) (f : Int) b (foldB out) = takeG s ((k + 1 + byN s k : Nat) : Int) (f : Int) b (foldB (out ++ sub s k (k + 1 + byN s k))) := fun hc => by
                rw [takeG_on h1 (by rw [szT_nat]; omega) (by rw [szT_nat]; exact h0) h4 (by rw [foldB_len, szT_nat]; exact hc), e1, e2, Int.toNat_natCast, hfold]
              have hbad : ¬ out.length + 1 + byN s k ≤ 255 → takeG s (k : Int) (f : Int) b (foldB out) = none := fun hc =>
                takeG_long h1 (by rw [szT_nat]; omega) (by rw [foldB_len, szT_nat]; exact fun h => hc h.2)
              refine ⟨fun h => ?_, fun e h => ?_, fun e h hl => ?_⟩
              · rw [h] at hL
                by_cases hc : out.length + 1 + byN s k ≤ 255
                · rw [hstep hc]; exact i1 hL.symm
                · exact hbad hc
              · rw [h] at hL
                have hge := labE_ge _ _ e true rfl hL.symm
                by_cases hc : out.length + 1 + byN s k ≤ 255
                · rw [hstep hc, i2 e hL.symm, List.length_append, hsl, List.append_assoc, ← sub_split (by omega) hge.1]
                  by_cases hd : out.length + (e - k) ≤ 255
                  · rw [if_pos hd, if_pos (by omega)]
                  · rw [if_neg hd, if_neg (by omega)]
                · rw [hbad hc, if_neg (by omega)]
              · rw [h] at hL
                have hge := labE_ge _ _ e false rfl hL.symm
                by_cases hc : out.length + 1 + byN s k ≤ 255
                · rw [hstep hc, i3 e hL.symm (by rw [List.length_append, hsl]; omega), List.length_append, hsl, List.append_assoc, ← sub_split (by omega) hge.1]
                  by_cases hd : out.length + (e - k) ≤ 255
                  · rw [if_pos hd, if_pos (by omega)]
                  · rw [if_neg hd, if_neg (by omega)]
                · rw [hbad hc, if_neg (by omega)]
            · have hn : labE s (k + 1 + byN s k) = none := by rw [labE, dif_neg (by omega)]
              rw [hn] at hL
              refine ⟨fun h => ?_, fun e h => (by rw [h] at hL; cases hL), fun e h => (by rw [h] at hL; cases hL)⟩
              exact takeG_long h1 (by rw [szT_nat]; omega) (fun h => by
                have h4 := h.1
                rw [szT_nat, show ((k : Int) + 1) = ((k + 1 : Nat) : Int) by omega, someB_nat] at h4
                omega)
    · have hL : labE s k = none := by rw [labE, dif_neg hk]
      refine ⟨fun _ => takeG_out ?_, fun e h => (by rw [h] at hL; cases hL), fun e h => (by rw [h] at hL; cases hL)⟩
      cases h : someB s (k : Int) 1 with
      | false => rfl
      | true => have := (someB_nat (m := 1)).1 h; omega
/-- The two are the same. -/
theorem takeG_R {s : List UInt8} : ∀ (a : Nat) (b : Int) (out : List UInt8), out.length ≤ 255 → takeG s (a : Int) (a : Int) b (foldB out) = (match takeR s a b out with
    | none => none
    | some p => if p.1.length ≤ 255 then some (foldB p.1, p.2) else none) := by
  intro a
  induction a using Nat.strongRecOn with
  | _ a ih =>
    intro b out hl
    obtain ⟨l1, l2, l3⟩ := takeG_lab (s := s) _ a a b out rfl
    rw [takeR]
    cases hL : labE s a with
    | none => rw [l1 hL]
    | some p =>
      obtain ⟨e, r⟩ := p
      have hge := labE_ge _ a e r rfl hL
      have hsl := sub_len (s := s) hge.1 hge.2.1
      cases r with
      | true =>
        rw [l2 e hL]
        simp only [List.length_append, hsl]
      | false =>
        rw [l3 e hL hl]
        have hto := toT_in s (e : Int)
        by_cases hc : out.length + (e - a) ≤ 255
        · rw [if_pos hc]
          by_cases h2 : e + 2 ≤ s.length ∧ toT s (e : Int) < (a : Int)
          · simp only [dif_pos h2]
            have h192 : 192 ≤ szT s (e : Int) := by
              rw [szT_nat]
              have : ∀ (m k : Nat), s.length - k = m → labE s k = some (e, false) → 192 ≤ byN s e := by
                intro m
                induction m using Nat.strongRecOn with
                | _ m ih =>
                  intro k hm h
                  rw [labE] at h
                  by_cases hk : k < s.length
                  · rw [dif_pos hk] at h
                    split at h
                    · cases h; assumption
                    · split at h
                      · cases h
                      · split at h
                        · cases h
                        · exact ih (s.length - (k + 1 + byN s k)) (by omega) _ rfl h
                  · rw [dif_neg hk] at h; cases h
              exact this _ a rfl hL
            rw [takeG_ptr (someB_nat.2 (by omega : e + 1 ≤ s.length)) h192 (someB_nat.2 (by omega : e + 2 ≤ s.length)) h2.2]
            have e1 : toT s (e : Int) = (((toT s (e : Int)).toNat : Nat) : Int) := by omega
            have := ih (toT s (e : Int)).toNat (by omega) (if b < 0 then (e : Int) + 2 else b) (out ++ sub s a e) (by rw [List.length_append, hsl]; exact hc)
            rw [← e1] at this
            exact this
          · simp only [dif_neg h2]
            by_cases h1 : someB s (e : Int) 1 = true
            · have h192 : 192 ≤ szT s (e : Int) := by
                rw [szT_nat]
                have : ∀ (m k : Nat), s.length - k = m → labE s k = some (e, false) → 192 ≤ byN s e := by
                  intro m
                  induction m using Nat.strongRecOn with
                  | _ m ih =>
                    intro k hm h
                    rw [labE] at h
                    by_cases hk : k < s.length
                    · rw [dif_pos hk] at h
                      split at h
                      · cases h; assumption
                      · split at h
                        · cases h
                        · split at h
                          · cases h
                          · exact ih (s.length - (k + 1 + byN s k)) (by omega) _ rfl h
                    · rw [dif_neg hk] at h; cases h
                exact this _ a rfl hL
              exact takeG_bad h1 h192 (fun h => h2 ⟨someB_nat.1 h.1, h.2⟩)
            · exact takeG_out (by simpa using h1)
        · rw [if_neg hc]
          by_cases h2 : e + 2 ≤ s.length ∧ toT s (e : Int) < (a : Int)
          · simp only [dif_pos h2]
            cases hp : takeR s (toT s (e : Int)).toNat (if b < 0 then (e : Int) + 2 else b) (out ++ sub s a e) with
            | none => rfl
            | some p =>
              have := takeR_len _ _ _ _ _ hp
              rw [List.length_append, hsl] at this
              simp only
              rw [if_neg (by omega)]
          · simp only [dif_neg h2]
/-- Whether labels run out of the bytes. -/
def labX (s : List UInt8) (k : Nat) : Bool := if h : k < s.length then (if 192 ≤ byN s k then false else if 63 < byN s k then false else if byN s k = 0 then false else labX s (k + 1 + byN s k)) else true
termination_by s.length - k
theorem labX_E {s : List UInt8} : ∀ (m k : Nat), s.length - k = m → labX s k = true → labE s k = none := by
  intro m
  induction m using Nat.strongRecOn with
  | _ m ih =>
    intro k hm h
    rw [labX] at h
    rw [labE]
    by_cases hk : k < s.length
    · rw [dif_pos hk] at h ⊢
      split
      · rw [if_pos ‹_›] at h; cases h
      · rw [if_neg ‹_›] at h
        split
        · rfl
        · rw [if_neg ‹_›] at h
          split
          · rw [if_pos ‹_›] at h; cases h
          · rw [if_neg ‹_›] at h
            exact ih _ (by omega) _ rfl h
    · rw [dif_neg hk]
def endsX (p : List UInt8) (k : Nat) : Bool := if h : k < p.length then (if byN p k = 0 then false else endsX p (k + 1 + byN p k)) else true
termination_by p.length - k
theorem endsX_R {s : List UInt8} : ∀ (m k : Nat), s.length - k = m → endsX s k = true → endsR s k = false := by
  intro m
  induction m using Nat.strongRecOn with
  | _ m ih =>
    intro k hm h
    rw [endsX] at h
    rw [endsR]
    by_cases hk : k < s.length
    · rw [dif_pos hk] at h ⊢
      split
      · rw [if_pos ‹_›] at h; cases h
      · rw [if_neg ‹_›] at h
        exact ih _ (by omega) _ rfl h
    · rw [dif_neg hk]
def lbS3 (s : List UInt8) (a : Int) : List UInt8 := if a < 0 then [] else match labE s a.toNat with
  | some (e, _) => sub s a.toNat e
  | none => []
def lbE3 (s : List UInt8) (a : Int) : Int := if a < 0 then -1 else match labE s a.toNat with
  | some (e, _) => e
  | none => -1
def lbX3 (s : List UInt8) (a : Int) : Bool := decide (a < 0) || labX s a.toNat
theorem takeG_neg {s : List UInt8} {at_ b : Int} {f : Int} {out : List UInt8} (h : at_ < 0) : takeG s at_ f b out = none := takeG_out (by
  cases hs : someB s at_ 1 with
  | false => rfl
  | true => have := someB_iff.1 hs; omega)
/-- A name taken, piece by piece; and what there is when it goes wrong. -/
def takeS (s : List UInt8) (a : Nat) (b : Int) (n : List UInt8) : Bool × (List UInt8 × Int) :=
  match labE s a with
  | none => (false, n, b)
  | some (e, true) => (true, n ++ sub s a e, if b < 0 then (e : Int) else b)
  | some (e, false) => if h : e + 2 ≤ s.length ∧ toT s (e : Int) < (a : Int) then takeS s (toT s (e : Int)).toNat (if b < 0 then (e : Int) + 2 else b) (n ++ sub s a e) else (false, n ++ sub s a e, b)
termination_by a
decreasing_by
  have := toT_in s (e : Int)
  omega
theorem takeS_R {s : List UInt8} : ∀ (a : Nat) (b : Int) (n : List UInt8), takeR s a b n = if (takeS s a b n).1 = true then some (takeS s a b n).2 else none := by
  intro a
  induction a using Nat.strongRecOn with
  | _ a ih =>
    intro b n
    rw [takeR, takeS]
    cases hL : labE s a with
    | none => rfl
    | some p =>
      obtain ⟨e, r⟩ := p
      cases r with
      | true => rfl
      | false =>
        by_cases h2 : e + 2 ≤ s.length ∧ toT s (e : Int) < (a : Int)
        · simp only [dif_pos h2]
          have := toT_in s (e : Int)
          exact ih _ (by omega) _ _
        · simp only [dif_neg h2]
          rfl
def nilS (n : List UInt8) : Bool := n.isEmpty
def tk3 (s : List UInt8) (a b : Int) (n : List UInt8) : Bool × (List UInt8 × Int) := if a < 0 then (false, n, b) else takeS s a.toNat b n
theorem tk3_G {s : List UInt8} {a : Int} : takeG s a a (-1) [] = (bif (tk3 s a (-1) []).1 then (if (tk3 s a (-1) []).2.1.length ≤ 255 then some (foldB (tk3 s a (-1) []).2.1, (tk3 s a (-1) []).2.2) else none) else none) := by
  unfold tk3
  by_cases h0 : a < 0
  · rw [if_pos h0, takeG_neg h0]; rfl
  · rw [if_neg h0]
    have := takeG_R (s := s) a.toNat (-1) [] (by simp)
    rw [Int.toNat_of_nonneg (by omega), show foldB [] = [] from rfl] at this
    rw [this, takeS_R]
    cases (takeS s a.toNat (-1) []).1 <;> rfl
end Go.Proofs.YtfepkpindchleaaE

/- wire.Pack: names. -/
namespace Go.Proofs.YtfepkpindchleaaE
open Go Go.Proofs.YtfepkpindchleaaB
set_option linter.unusedVariables false
set_option linter.unusedSimpArgs false
def nmC (n : List UInt8) (b : List Int) (l : Known) : Bool := rootV n && (bytesOk b && (kOk l && Nat.ble (b.length + n.length) 1000000000000))
noncomputable def b24 : Code := (nthLoop c24 0)
def ls24 : LoopSpec := { bid := 0, sh := [.ptr 0 0, .d .str false], so := [.box [.row 1, .mp 2], .row (.int .u8), .map .str (.int .i64)], F := fun (n, _) (_, b, l, _) => .on2 (nmC n b l) ((nameL n (intBytes b) l).1.isSome) (.ret, [.ptr 0 0, .str (nameL n (intBytes b) l).2.1, .int .i64 0], [.box [.rowA 1, .mp 2], .row (.int .u8) (bytesInt ((nameL n (intBytes b) l).2.2.1 ++ put16 (49152 + (nameL n (intBytes b) l).1.getD 0))), .mpo .str (.int .i64) (nameL n (intBytes b) l).2.2.2]) (.exit 0, [.ptr 0 0, .str (nameL n (intBytes b) l).2.1, .dead], [.box [.rowA 1, .mp 2], .row (.int .u8) (bytesInt (nameL n (intBytes b) l).2.2.1), .mpo .str (.int .i64) (nameL n (intBytes b) l).2.2.2]) }
def r24 (n : List UInt8) (b : List Int) (l : List (List UInt8 × Int)) : Tr (St ⊕ (Ex × St)) := Tr.br (!n == [0]) (Tr.br (hasM Ty.str (Ty.int IntKind.i64) n l) (Tr.br (n16C (IntKind.wrap IntKind.u16 (IntKind.wrap IntKind.i64 (↑(BitVec.toNat (BitVec.ofInt (IntKind.bits IntKind.i64) (49152 : Int) ||| BitVec.ofInt (IntKind.bits IntKind.i64) (getM Ty.str (Ty.int IntKind.i64) n l))) : Int)))) (Tr.br (fits (List.length b + List.length (bytesInt (put16 (IntKind.wrap IntKind.u16 (IntKind.wrap IntKind.i64 (↑(BitVec.toNat (BitVec.ofInt (IntKind.bits IntKind.i64) (49152 : Int) ||| BitVec.ofInt (IntKind.bits IntKind.i64) (getM Ty.str (Ty.int IntKind.i64) n l))) : Int)))))) 1) (Tr.ret (Sum.inr (Ex.ret, stOf [0, 1, 4] [AV.ptr 0 0, AV.str n, AV.int IntKind.i64 (0 : Int)] [LObj.boxT none [AV.rowA 1, AV.mp 2], LObj.row (Ty.int IntKind.u8) (b ++ bytesInt (put16 (IntKind.wrap IntKind.u16 (IntKind.wrap IntKind.i64 (↑(BitVec.toNat (BitVec.ofInt (IntKind.bits IntKind.i64) (49152 : Int) ||| BitVec.ofInt (IntKind.bits IntKind.i64) (getM Ty.str (Ty.int IntKind.i64) n l))) : Int))))), LObj.mpo Ty.str (Ty.int IntKind.i64) l]))) Tr.no) Tr.no) (Tr.br (decide ((↑(List.length b) : Int) < (16384 : Int))) (Tr.br (decide ((0 : Int) < (↑(List.length n) : Int))) (Tr.br (decide ((0 : Int) ≤ IntKind.wrap IntKind.i64 ((1 : Int) + IntKind.wrap IntKind.i64 (↑(UInt8.toNat (List.getD n (Int.toNat (0 : Int)) 0)) : Int))) && decide (IntKind.wrap IntKind.i64 ((1 : Int) + IntKind.wrap IntKind.i64 (↑(UInt8.toNat (List.getD n (Int.toNat (0 : Int)) 0)) : Int)) ≤ (↑(List.length n) : Int))) (Tr.br (decide ((0 : Int) ≤ (0 : Int)) && decide ((0 : Int) ≤ IntKind.wrap IntKind.i64 ((1 : Int) + IntKind.wrap IntKind.i64 (↑(UInt8.toNat (List.getD n (Int.toNat (0 : Int)) 0)) : Int)))) (Tr.br (fits (List.length b + List.length (bytesInt (List.take (Int.toNat (IntKind.wrap IntKind.i64 ((1 : Int) + IntKind.wrap IntKind.i64 (↑(UInt8.toNat (List.getD n (Int.toNat (0 : Int)) 0)) : Int))) - Int.toNat (0 : Int)) (List.drop (Int.toNat (0 : Int)) n)))) 1) (Tr.br (decide ((0 : Int) ≤ (↑(List.length n) : Int)) && decide ((↑(List.length n) : Int) ≤ (↑(List.length n) : Int))) (Tr.br (decide ((0 : Int) ≤ IntKind.wrap IntKind.i64 ((1 : Int) + IntKind.wrap IntKind.i64 (↑(UInt8.toNat (List.getD n (Int.toNat (0 : Int)) 0)) : Int))) && decide (IntKind.wrap IntKind.i64 ((1 : Int) + IntKind.wrap IntKind.i64 (↑(UInt8.toNat (List.getD n (Int.toNat (0 : Int)) 0)) : Int)) ≤ (↑(List.length n) : Int))) (Tr.ret (Sum.inl (stOf [0, 1] [AV.ptr 0 0, AV.str (List.take (Int.toNat (↑(List.length n) : Int) - Int.toNat (IntKind.wrap IntKind.i64 ((1 : Int) + IntKind.wrap IntKind.i64 (↑(UInt8.toNat (List.getD n (Int.toNat (0 : Int)) 0)) : Int)))) (List.drop (Int.toNat (IntKind.wrap IntKind.i64 ((1 : Int) + IntKind.wrap IntKind.i64 (↑(UInt8.toNat (List.getD n (Int.toNat (0 : Int)) 0)) : Int)))) n))] [LObj.boxT none [AV.rowA 1, AV.mp 2], LObj.row (Ty.int IntKind.u8) (b ++ bytesInt (List.take (Int.toNat (IntKind.wrap IntKind.i64 ((1 : Int) + IntKind.wrap IntKind.i64 (↑(UInt8.toNat (List.getD n (Int.toNat (0 : Int)) 0)) : Int))) - Int.toNat (0 : Int)) (List.drop (Int.toNat (0 : Int)) n))), LObj.mpo Ty.str (Ty.int IntKind.i64) (putM Ty.str (Ty.int IntKind.i64) n (↑(List.length b) : Int) l)]))) Tr.no) Tr.no) Tr.no) Tr.no) Tr.no) Tr.no) (Tr.br (decide ((0 : Int) < (↑(List.length n) : Int))) (Tr.br (decide ((0 : Int) ≤ IntKind.wrap IntKind.i64 ((1 : Int) + IntKind.wrap IntKind.i64 (↑(UInt8.toNat (List.getD n (Int.toNat (0 : Int)) 0)) : Int))) && decide (IntKind.wrap IntKind.i64 ((1 : Int) + IntKind.wrap IntKind.i64 (↑(UInt8.toNat (List.getD n (Int.toNat (0 : Int)) 0)) : Int)) ≤ (↑(List.length n) : Int))) (Tr.br (decide ((0 : Int) ≤ (0 : Int)) && decide ((0 : Int) ≤ IntKind.wrap IntKind.i64 ((1 : Int) + IntKind.wrap IntKind.i64 (↑(UInt8.toNat (List.getD n (Int.toNat (0 : Int)) 0)) : Int)))) (Tr.br (fits (List.length b + List.length (bytesInt (List.take (Int.toNat (IntKind.wrap IntKind.i64 ((1 : Int) + IntKind.wrap IntKind.i64 (↑(UInt8.toNat (List.getD n (Int.toNat (0 : Int)) 0)) : Int))) - Int.toNat (0 : Int)) (List.drop (Int.toNat (0 : Int)) n)))) 1) (Tr.br (decide ((0 : Int) ≤ (↑(List.length n) : Int)) && decide ((↑(List.length n) : Int) ≤ (↑(List.length n) : Int))) (Tr.br (decide ((0 : Int) ≤ IntKind.wrap IntKind.i64 ((1 : Int) + IntKind.wrap IntKind.i64 (↑(UInt8.toNat (List.getD n (Int.toNat (0 : Int)) 0)) : Int))) && decide (IntKind.wrap IntKind.i64 ((1 : Int) + IntKind.wrap IntKind.i64 (↑(UInt8.toNat (List.getD n (Int.toNat (0 : Int)) 0)) : Int)) ≤ (↑(List.length n) : Int))) (Tr.ret (Sum.inl (stOf [0, 1] [AV.ptr 0 0, AV.str (List.take (Int.toNat (↑(List.length n) : Int) - Int.toNat (IntKind.wrap IntKind.i64 ((1 : Int) + IntKind.wrap IntKind.i64 (↑(UInt8.toNat (List.getD n (Int.toNat (0 : Int)) 0)) : Int)))) (List.drop (Int.toNat (IntKind.wrap IntKind.i64 ((1 : Int) + IntKind.wrap IntKind.i64 (↑(UInt8.toNat (List.getD n (Int.toNat (0 : Int)) 0)) : Int)))) n))] [LObj.boxT none [AV.rowA 1, AV.mp 2], LObj.row (Ty.int IntKind.u8) (b ++ bytesInt (List.take (Int.toNat (IntKind.wrap IntKind.i64 ((1 : Int) + IntKind.wrap IntKind.i64 (↑(UInt8.toNat (List.getD n (Int.toNat (0 : Int)) 0)) : Int))) - Int.toNat (0 : Int)) (List.drop (Int.toNat (0 : Int)) n))), LObj.mpo Ty.str (Ty.int IntKind.i64) l]))) Tr.no) Tr.no) Tr.no) Tr.no) Tr.no) Tr.no))) (Tr.ret (Sum.inr (Ex.exit 0, stOf [0, 1, 4] [AV.ptr 0 0, AV.str n, AV.dead] [LObj.boxT none [AV.rowA 1, AV.mp 2], LObj.row (Ty.int IntKind.u8) b, LObj.mpo Ty.str (Ty.int IntKind.i64) l])))
set_option maxRecDepth 1000000 in
theorem round24 (lp : Lp) (n : List UInt8) (b : List Int) (l : List (List UInt8 × Int)) : evC T0 (orcB [fs42w, fs29w] [os22]) lp b24 0 (stOf [0, 1] [.ptr 0 0, .str n] [.box [.rowA 1, .mp 2], .row (.int .u8) b, .mpo .str (.int .i64) l]) (roundK [0, 1] [0, 1, 4] 3) = (r24 n b l).get := by kernel_rfl
theorem wf24 (I'' : List UInt8 → List Int → List (List UInt8 × Int) → Prop) (m'' : List UInt8 → List Int → List (List UInt8 × Int) → Nat) (r'' : Ex × St) (h : ∀ (n : List UInt8) (b : List Int) (l : List (List UInt8 × Int)), I'' n b l → (r24 n b l).all fun x'' => x'' = .inr r'' ∨ ∃ (n' : List UInt8) (b' : List Int) (l' : List (List UInt8 × Int)), x'' = .inl (stOf [0, 1] [.ptr 0 0, .str n'] [.box [.rowA 1, .mp 2], .row (.int .u8) b', .mpo .str (.int .i64) l']) ∧ I'' n' b' l' ∧ m'' n' b' l' < m'' n b l) (lp : Lp) (n : List UInt8) (b : List Int) (l : List (List UInt8 × Int)) : I'' n b l →
    loopF (fun st => evC T0 (orcB [fs42w, fs29w] [os22]) lp b24 0 st (roundK [0, 1] [0, 1, 4] 3)) (stOf [0, 1] [.ptr 0 0, .str n] [.box [.rowA 1, .mp 2], .row (.int .u8) b, .mpo .str (.int .i64) l]) = some r'' :=
  loop_tr (fun a'' : List UInt8 × List Int × List (List UInt8 × Int) => stOf [0, 1] [.ptr 0 0, .str a''.1] [.box [.rowA 1, .mp 2], .row (.int .u8) a''.2.1, .mpo .str (.int .i64) a''.2.2]) (fun a'' => I'' a''.1 a''.2.1 a''.2.2) (fun a'' => m'' a''.1 a''.2.1 a''.2.2) r'' (fun a'' => r24 a''.1 a''.2.1 a''.2.2)
    (fun a'' x hx => (round24 lp a''.1 a''.2.1 a''.2.2).trans hx) (fun a'' ha => Tr.all_mono (fun x'' hx => hx.imp id fun ⟨n', b', l', h1, h2, h3⟩ => ⟨(n', b', l'), h1, h2, h3⟩) (h (a''.1) (a''.2.1) (a''.2.2) ha)) (n, b, l)
/-- How far the name has come. -/
def nmI (n0 : List UInt8) (b0 : List Int) (l0 : Known) (n : List UInt8) (b : List Int) (l : Known) : Prop := rootV n = true ∧ bytesOk b = true ∧ kOk l = true ∧ b.length + n.length ≤ 1000000000000 ∧ nameL n (intBytes b) l = nameL n0 (intBytes b0) l0
theorem loop24 : ls24.Ok T0 (orcB [fs42w, fs29w] [os22]) h24 3 0 b24 := by
  intro q'' hq'' x'' y'' r'' h
  obtain ⟨(n : List UInt8), _⟩ := x''
  obtain ⟨_, (b : List Int), (l : List (List UInt8 × Int)), _⟩ := y''
  obtain ⟨hc, rfl⟩ := Tr.get_on2 h
  show loopF (fun st => evC T0 (orcB [fs42w, fs29w] [os22]) (lpN T0 (orcB [fs42w, fs29w] [os22]) h24 3 q'') b24 0 st (roundK [0, 1] [0, 1, 4] 3)) (stOf [0, 1] [.ptr 0 0, .str n] [.box [.rowA 1, .mp 2], .row (.int .u8) b, .mpo .str (.int .i64) l]) = some ((bif (nameL n (intBytes b) l).1.isSome then (.ret, [.ptr 0 0, .str (nameL n (intBytes b) l).2.1, .int .i64 0], [.box [.rowA 1, .mp 2], .row (.int .u8) (bytesInt ((nameL n (intBytes b) l).2.2.1 ++ put16 (49152 + (nameL n (intBytes b) l).1.getD 0))), .mpo .str (.int .i64) (nameL n (intBytes b) l).2.2.2]) else (.exit 0, [.ptr 0 0, .str (nameL n (intBytes b) l).2.1, .dead], [.box [.rowA 1, .mp 2], .row (.int .u8) (bytesInt (nameL n (intBytes b) l).2.2.1), .mpo .str (.int .i64) (nameL n (intBytes b) l).2.2.2]) : Ex × List AV × List LObj).1, stOf [0, 1, 4] (bif (nameL n (intBytes b) l).1.isSome then (.ret, [.ptr 0 0, .str (nameL n (intBytes b) l).2.1, .int .i64 0], [.box [.rowA 1, .mp 2], .row (.int .u8) (bytesInt ((nameL n (intBytes b) l).2.2.1 ++ put16 (49152 + (nameL n (intBytes b) l).1.getD 0))), .mpo .str (.int .i64) (nameL n (intBytes b) l).2.2.2]) else (.exit 0, [.ptr 0 0, .str (nameL n (intBytes b) l).2.1, .dead], [.box [.rowA 1, .mp 2], .row (.int .u8) (bytesInt (nameL n (intBytes b) l).2.2.1), .mpo .str (.int .i64) (nameL n (intBytes b) l).2.2.2]) : Ex × List AV × List LObj).2.1 (bif (nameL n (intBytes b) l).1.isSome then (.ret, [.ptr 0 0, .str (nameL n (intBytes b) l).2.1, .int .i64 0], [.box [.rowA 1, .mp 2], .row (.int .u8) (bytesInt ((nameL n (intBytes b) l).2.2.1 ++ put16 (49152 + (nameL n (intBytes b) l).1.getD 0))), .mpo .str (.int .i64) (nameL n (intBytes b) l).2.2.2]) else (.exit 0, [.ptr 0 0, .str (nameL n (intBytes b) l).2.1, .dead], [.box [.rowA 1, .mp 2], .row (.int .u8) (bytesInt (nameL n (intBytes b) l).2.2.1), .mpo .str (.int .i64) (nameL n (intBytes b) l).2.2.2]) : Ex × List AV × List LObj).2.2)
  simp only [nmC, Bool.and_eq_true] at hc
  obtain ⟨hr, hok, hk, hb⟩ := hc
  have hb := Nat.le_of_ble_eq_true hb
  refine wf24 (nmI n b l) (fun n _ _ => n.length) _ ?_ _ n b l ⟨hr, hok, hk, hb, rfl⟩
  clear hr hok hk hb
  rename_i n0 b0 l0
  rintro n b l ⟨hr, hok, hk, hb, he⟩
  rw [← he]
  unfold r24
  have hbS : bytesInt (intBytes b) = b := bytes_intB hok
  have hSl : (intBytes b).length = b.length := intB_len b
  rcases root_cases hr with rfl | ⟨hn0, hn1, hlt, h63, hne, hrt⟩
  · rw [nameL_root]
    refine Tr.all_f (by simp) (Tr.all_ret (.inl ?_))
    simp only [Option.isSome_none, cond_false, hbS]
  · refine Tr.all_t (by simpa using hn0) ?_
    cases hlk : lookK n l with
    | some a =>
      obtain ⟨ha0, ha1⟩ := kOk_look hk hlk
      rw [nameL_known hn0 hlk]
      rw [getM_some hlk]
      simp only [or_far ha0 ha1]
      refine Tr.all_t (by rw [hasM_some, hlk]; rfl) (Tr.all_t (by simp [n16C]; omega) (Tr.all_t (fits_true (by simp [bytesInt_len, put16_len]; omega) (by simp [bytesInt_len, put16_len]; omega)) (Tr.all_ret (.inl ?_))))
      simp only [Option.isSome_some, cond_true, bytesInt_app, hbS, Option.getD_some]
    | none =>
      rw [nameL_next hn0 hn1 hlk]
      rw [putK_new hlk]
      simp only [szW, hdW, tlW]
      have hfit : fits (List.length b + List.length (bytesInt (hdN n))) 1 = true := fits_true (by rw [bytesInt_len, hdN_len (by omega)]; omega) (by rw [bytesInt_len, hdN_len (by omega)]; omega)
      have hnew : bytesOk (b ++ bytesInt (hdN n)) = true := bytesOk_app hok (bytesInt_ok _)
      have hlen : (b ++ bytesInt (hdN n)).length + (tlN n).length ≤ 1000000000000 := by
        rw [List.length_append, bytesInt_len, hdN_len (by omega), tlN_len]; omega
      have hS2 : intBytes (b ++ bytesInt (hdN n)) = intBytes b ++ hdN n := by rw [intB_app, intB_bytes]
      have hm : (tlN n).length < n.length := tlN_lt hn1
      refine Tr.all_f (by rw [hasM_some, hlk]; rfl) (Tr.all_br (fun c1 => ?_) fun c1 => ?_)
      · simp only [decide_eq_true_eq] at c1
        refine Tr.all_t (dec_true (by omega)) (Tr.all_t (by rw [dec_true (by omega), dec_true (by omega)]; rfl) (Tr.all_t (by rw [dec_true (by omega), dec_true (by omega)]; rfl) (Tr.all_t hfit (Tr.all_t (by rw [dec_true (by omega), dec_true (by omega)]; rfl) (Tr.all_t (by rw [dec_true (by omega), dec_true (by omega)]; rfl) (Tr.all_ret (.inr ⟨_, _, _, rfl, ⟨hrt, hnew, kOk_add hk (by omega), hlen, ?_⟩, hm⟩)))))))
        rw [hS2, ← he, nameL_next hn0 hn1 hlk, if_pos (by omega), hSl]
      · simp only [decide_eq_false_iff_not] at c1
        refine Tr.all_t (dec_true (by omega)) (Tr.all_t (by rw [dec_true (by omega), dec_true (by omega)]; rfl) (Tr.all_t (by rw [dec_true (by omega), dec_true (by omega)]; rfl) (Tr.all_t hfit (Tr.all_t (by rw [dec_true (by omega), dec_true (by omega)]; rfl) (Tr.all_t (by rw [dec_true (by omega), dec_true (by omega)]; rfl) (Tr.all_ret (.inr ⟨_, _, _, rfl, ⟨hrt, hnew, hk, hlen, ?_⟩, hm⟩)))))))
        rw [hS2, ← he, nameL_next hn0 hn1 hlk, if_neg (by omega)]
/-- (*wire.Pack).Name -/
def t24 (n : List UInt8) (b : List Int) (l : List (List UInt8 × Int)) : Tr Res := Tr.br (bigS n) (Tr.br (!mayV n) (Tr.ret ([AV.int IntKind.i64 (1 : Int)], [LObj.boxT none [AV.rowA 1, AV.mp 2], LObj.row (Ty.int IntKind.u8) b, LObj.mpo Ty.str (Ty.int IntKind.i64) l])) (Tr.br (nmC n b l) (Tr.br (Option.isSome (Prod.fst (nameL n (intBytes b) l))) (Tr.ret ([AV.int IntKind.i64 (0 : Int)], [LObj.boxT none [AV.rowA 1, AV.mp 2], LObj.row (Ty.int IntKind.u8) (bytesInt (Prod.fst (Prod.snd (Prod.snd (nameL n (intBytes b) l))) ++ put16 ((49152 : Int) + Option.getD (Prod.fst (nameL n (intBytes b) l)) (0 : Int)))), LObj.mpo Ty.str (Ty.int IntKind.i64) (Prod.snd (Prod.snd (Prod.snd (nameL n (intBytes b) l))))])) (Tr.br (fits (List.length (bytesInt (Prod.fst (Prod.snd (Prod.snd (nameL n (intBytes b) l))))) + List.length (bytesInt (Prod.fst (Prod.snd (nameL n (intBytes b) l))))) 1) (Tr.ret ([AV.int IntKind.i64 (0 : Int)], [LObj.boxT none [AV.rowA 1, AV.mp 2], LObj.row (Ty.int IntKind.u8) (bytesInt (Prod.fst (Prod.snd (Prod.snd (nameL n (intBytes b) l)))) ++ bytesInt (Prod.fst (Prod.snd (nameL n (intBytes b) l)))), LObj.mpo Ty.str (Ty.int IntKind.i64) (Prod.snd (Prod.snd (Prod.snd (nameL n (intBytes b) l))))])) Tr.no)) Tr.no)) Tr.no
def os24 : OSpec := { f := 24, sh := [.ptr 0 0, .d .str false], so := [.box [.row 1, .mp 2], .row (.int .u8), .map .str (.int .i64)], F := fun (n, _) (_, b, l, _) => t24 n b l }
set_option maxRecDepth 1000000 in
theorem fn24 (n : List UInt8) (b : List Int) (l : List (List UInt8 × Int)) : evC T0 (orcB [fs42w, fs29w] [os22]) (lpOf h24 3 (lsOf [ls24])) c24 1000000 (startSt [.ptr 0 0, .str n] [.box [.rowA 1, .mp 2], .row (.int .u8) b, .mpo .str (.int .i64) l] Try.f24.ntmps) (finishK T0 false 3 Try.f24) = (t24 n b l).get := by kernel_rfl
theorem ok24 : os24.Ok Try.prog := by
  refine os_ok mixed0 tab0 (orcB_sound (all_cons okf42w (all_cons okf29w all_nil)) (all_cons ok22 all_nil)) h24 (d := 0) (n0 := 3) (S := lsOf [ls24]) Try.func24 (by kernel_rfl) (c := c24) (by kernel_rfl) rfl (loops_eq (xs := [(0, b24)]) (by kernel_rfl) (all_cons (ls_here loop24) all_nil)) (by omega) (by kernel_rfl) ?_
  intro x'' y'' q'' hq''
  obtain ⟨(n : List UInt8), _⟩ := x''
  obtain ⟨_, (b : List Int), (l : List (List UInt8 × Int)), _⟩ := y''
  exact (fn24 n b l).trans hq''
/-- A pack. -/
abbrev pkO (b : List Int) (l : Known) : List LObj := [.box [.rowA 1, .mp 2], .row (.int .u8) b, .mpo .str (.int .i64) l]
def pkC (b : List Int) (l : Known) : Bool := bytesOk b && (kOk l && Nat.ble b.length 100000000000)
def os24w : OSpec := os24.like fun (n, _) (_, b, l, _) => .br (pkC b l && Nat.ble n.length 100000000000) (.br (mayV n) (.ret ([.int .i64 0], pkO (bytesInt (nameP n (intBytes b) l).1) (nameP n (intBytes b) l).2)) (.ret ([.int .i64 1], pkO b l))) .no
theorem ok24w : os24w.Ok Try.prog := by
  refine like_ok ok24 _ ?_
  rintro ⟨(n : List UInt8), _⟩ ⟨_, (b : List Int), (l : Known), _⟩ r h
  simp only [Tr.get] at h
  cases hc : (pkC b l && Nat.ble n.length 100000000000) with
  | false => rw [hc] at h; cases h
  | true =>
    rw [hc, cond_true] at h
    simp only [pkC, Bool.and_eq_true] at hc
    obtain ⟨⟨hok, hk, hb⟩, hn⟩ := hc
    have hb := Nat.le_of_ble_eq_true hb
    have hn := Nat.le_of_ble_eq_true hn
    refine Tr.get_of_all ?_
    show (t24 n b l).all _
    have hbig : bigS n = true := by simp [bigS]; omega
    cases hm : mayV n with
    | false =>
      rw [hm, cond_false] at h
      cases h
      unfold t24
      rw [hm]
      exact Tr.all_t hbig (Tr.all_t rfl (Tr.all_ret rfl))
    | true =>
      rw [hm, cond_true] at h
      cases h
      unfold t24
      rw [hm]
      have hr : rootV n = true := by simp only [mayV, Bool.and_eq_true] at hm; exact hm.1
      obtain ⟨f1, f2, f3, f4, f5, f6⟩ := nameL_facts _ n (intBytes b) l rfl hr
      rw [intB_len] at f3
      refine Tr.all_t hbig (Tr.all_f rfl (Tr.all_t (by simp only [nmC, hr, hok, hk, Bool.true_and]; exact Nat.ble_eq_true_of_le (by omega)) ?_))
      unfold nameP
      cases hf : (nameL n (intBytes b) l).1 with
      | some a =>
        refine Tr.all_t rfl (Tr.all_ret ?_)
        rfl
      | none =>
        rw [f1 hf] at f3
        refine Tr.all_f rfl (Tr.all_t (fits_true (by rw [bytesInt_len, bytesInt_len, f1 hf]; simp at f3 ⊢; omega) (by rw [bytesInt_len, bytesInt_len, f1 hf]; simp at f3 ⊢; omega)) (Tr.all_ret ?_))
        rw [f1 hf, ← bytesInt_app]
        rfl
end Go.Proofs.YtfepkpindchleaaE

/- Parts, put one behind the other: plain words. -/
namespace Go.Proofs.YtfepkpindchleaaE
open Go Go.Proofs.YtfepkpindchleaaB
set_option linter.unusedVariables false
set_option linter.unusedSimpArgs false
/-- Bytes, and what is known. -/
abbrev PKt := List UInt8 × Known
abbrev Parts := List (List UInt8 × Bool)
def fewB (l : Parts) : Bool := (l.take 41).all (fun x => decide (x.1.length ≤ 400)) && decide (l.length ≤ 40)
theorem fewB_iff {l : Parts} : fewB l = true ↔ l.length ≤ 40 ∧ ∀ x ∈ l, x.1.length ≤ 400 := by
  unfold fewB
  simp only [Bool.and_eq_true, decide_eq_true_eq, List.all_eq_true]
  constructor
  · rintro ⟨h1, h2⟩
    exact ⟨h2, fun x hx => h1 x (by rw [List.take_of_length_le (by omega)]; exact hx)⟩
  · rintro ⟨h1, h2⟩
    exact ⟨fun x hx => h2 x (List.mem_of_mem_take hx), h1⟩
def stN (p : PKt) (x : List UInt8 × Bool) : PKt := bif mayV x.1 then nameP x.1 p.1 p.2 else p
def stB (p : PKt) (x : List UInt8 × Bool) : PKt := bif x.2 then (p.1 ++ x.1, p.2) else stN p x
def stA (p : PKt) (x : List UInt8 × Bool) : PKt := bif x.2 then p else stN p x
def GoodP (k : Nat) (p : PKt) : Prop := PI p.1 p.2 ∧ p.1.length ≤ 400 * k
theorem good_nil : GoodP 0 ([], []) := ⟨fun n a h => (by cases h), by simp⟩
theorem stN_good {k : Nat} {p : PKt} {x : List UInt8 × Bool} (h : GoodP k p) (hx : x.1.length ≤ 400) : GoodP (k + 1) (stN p x) ∧ (stN p x).1.length ≤ p.1.length + x.1.length ∧ ∃ T, (stN p x).1 = p.1 ++ T := by
  unfold stN
  cases hm : mayV x.1 with
  | false => exact ⟨⟨h.1, by have := h.2; simp only [cond_false]; omega⟩, by simp, [], by simp⟩
  | true =>
    obtain ⟨T, N', a1, a2, a3, _⟩ := name_put hm h.1
    obtain ⟨l1, _, _⟩ := nameL_len _ x.1 p.1 p.2 rfl (may_iff.1 hm).1
    rw [cond_true]
    refine ⟨⟨?_, by have := h.2; omega⟩, l1, T, a1⟩
    rw [a1, a2]
    exact a3
theorem stB_good {k : Nat} {p : PKt} {x : List UInt8 × Bool} (h : GoodP k p) (hx : x.1.length ≤ 400) : GoodP (k + 1) (stB p x) ∧ ∃ T, (stB p x).1 = p.1 ++ T := by
  unfold stB
  cases x.2 with
  | true => exact ⟨⟨h.1.mono _, by have := h.2; simp only [cond_true, List.length_append]; omega⟩, x.1, rfl⟩
  | false => exact ⟨(stN_good h hx).1, (stN_good h hx).2.2⟩
theorem stA_good {k : Nat} {p : PKt} {x : List UInt8 × Bool} (h : GoodP k p) (hx : x.1.length ≤ 400) : GoodP (k + 1) (stA p x) := by
  unfold stA
  cases x.2 with
  | true => exact ⟨h.1, by have := h.2; simp only [cond_true]; omega⟩
  | false => exact (stN_good h hx).1
theorem fold_good {st : PKt → List UInt8 × Bool → PKt} (hst : ∀ k p x, GoodP k p → x.1.length ≤ 400 → GoodP (k + 1) (st p x)) : ∀ (l : Parts) (k : Nat) (p : PKt), GoodP k p → (∀ x ∈ l, x.1.length ≤ 400) → GoodP (k + l.length) (l.foldl st p)
  | [], k, p, h, _ => h
  | x :: l, k, p, h, hl => by
    have := fold_good hst l (k + 1) (st p x) (hst k p x h (hl x List.mem_cons_self)) fun y hy => hl y (List.mem_cons_of_mem _ hy)
    rw [show k + 1 + l.length = k + (x :: l).length by simp; omega] at this
    exact this
/-- Where parts begin, and end. -/
def atsB : Parts → PKt → List Int × List Int
  | [], _ => ([], [])
  | x :: l, p => ((p.1.length : Int) :: (atsB l (stB p x)).1, ((stB p x).1.length : Int) :: (atsB l (stB p x)).2)
theorem fold_pre : ∀ (l : Parts) (k : Nat) (p : PKt), GoodP k p → (∀ x ∈ l, x.1.length ≤ 400) → ∃ X, (l.foldl stB p).1 = p.1 ++ X
  | [], k, p, h, _ => ⟨[], by simp⟩
  | x :: l, k, p, h, hl => by
    obtain ⟨h1, T, h2⟩ := stB_good h (hl x List.mem_cons_self)
    obtain ⟨X, h3⟩ := fold_pre l (k + 1) (stB p x) h1 fun y hy => hl y (List.mem_cons_of_mem _ hy)
    exact ⟨T ++ X, by rw [List.foldl_cons, h3, h2, List.append_assoc]⟩
theorem ats_back : ∀ (l : Parts) (k : Nat) (p : PKt), GoodP k p → (∀ x ∈ l, x.1.length ≤ 400) → ∀ i (hi : i < l.length), l[i].2 = false → mayV l[i].1 = true →
    takeG (l.foldl stB p).1 ((atsB l p).1.getD i 0) ((atsB l p).1.getD i 0) (-1) [] = some (l[i].1, (atsB l p).2.getD i 0)
  | [], k, p, h, _, i, hi, _, _ => by simp at hi
  | x :: l, k, p, h, hl, i, hi, h2, hm => by
    obtain ⟨h1, T, hT⟩ := stB_good h (hl x List.mem_cons_self)
    have hl' : ∀ y ∈ l, y.1.length ≤ 400 := fun y hy => hl y (List.mem_cons_of_mem _ hy)
    cases i with
    | zero =>
      have h2 : x.2 = false := h2
      have hm : mayV x.1 = true := hm
      obtain ⟨X, hX⟩ := fold_pre l (k + 1) (stB p x) h1 hl'
      obtain ⟨T, N', a1, a2, a3, a4⟩ := name_put hm h.1
      have hs : (stB p x).1 = p.1 ++ T := by unfold stB stN; rw [h2, hm]; exact a1
      have hr := takeG_rd (a4.mono X) (-1) [] (by have := (may_iff.1 hm).2.1; simpa using this)
      rw [List.foldl_cons, hX, hs]
      show takeG _ (p.1.length : Int) (p.1.length : Int) (-1) [] = some (x.1, (((stB p x).1.length : Nat) : Int))
      rw [hr, hs]
      rfl
    | succ i => exact ats_back l (k + 1) (stB p x) h1 hl' i (by simpa using hi) h2 hm
theorem nameL_pre : ∀ (m : Nat) (n S : List UInt8) (L : Known), n.length = m → ∃ N, (nameL n S L).2.2.2 = L ++ N := by
  intro m
  induction m using Nat.strongRecOn with
  | _ m ih =>
    intro n S L hm
    by_cases h0 : n = [0]
    · rw [h0, nameL_root]; exact ⟨[], by simp⟩
    · cases hlk : lookK n L with
      | some a => rw [nameL_known h0 hlk]; exact ⟨[], by simp⟩
      | none =>
        by_cases h1 : n = []
        · rw [nameL, if_neg h0]; simp only [hlk, dif_pos h1]; exact ⟨[], by simp⟩
        · rw [nameL_next h0 h1 hlk]
          obtain ⟨N, hN⟩ := ih (tlN n).length (by have := tlN_lt h1; omega) (tlN n) (S ++ hdN n) (if S.length < 16384 then L ++ [(n, (S.length : Int))] else L) rfl
          rw [hN]
          split
          · exact ⟨[(n, (S.length : Int))] ++ N, by rw [List.append_assoc]⟩
          · exact ⟨N, rfl⟩
/-- A name that was put is known then. -/
theorem nameP_knows {n S : List UInt8} {L : Known} (h0 : n ≠ [0]) (h1 : n ≠ []) (hS : S.length < 16384) : (lookK n (nameP n S L).2).isSome = true := by
  unfold nameP
  cases hlk : lookK n L with
  | some a => rw [nameL_known h0 hlk]; exact look_has (look_mem hlk)
  | none =>
    rw [nameL_next h0 h1 hlk, if_pos hS]
    obtain ⟨N, hN⟩ := nameL_pre _ (tlN n) (S ++ hdN n) (L ++ [(n, (S.length : Int))]) rfl
    rw [hN]
    exact look_has (a := (S.length : Int)) (by simp)
/-- A name that was put takes two bytes; the root, one. -/
theorem nameP_twice {n S : List UInt8} {L : Known} (hm : mayV n = true) (hS : S.length < 16384) :
    (nameP n (nameP n S L).1 (nameP n S L).2).1.length = (nameP n S L).1.length + (if n = [0] then 1 else 2) := by
  by_cases h0 : n = [0]
  · rw [if_pos h0, h0]
    unfold nameP
    rw [nameL_root, nameL_root]
    simp [endN]
  · rw [if_neg h0]
    have h1 : n ≠ [] := by
      rintro rfl
      rcases root_cases (may_iff.1 hm).1 with h | ⟨_, h, _⟩
      · cases h
      · exact h rfl
    have := nameP_knows (n := n) (S := S) (L := L) h0 h1 hS
    obtain ⟨a, ha⟩ := Option.isSome_iff_exists.1 this
    generalize nameP n S L = p at *
    unfold nameP
    rw [nameL_known h0 ha]
    simp [endN, put16_len]
def backC (l : Parts) (s : List UInt8) (at_ ends : List Int) : Bool := (at_ == (atsB l ([], [])).1) && ((ends == (atsB l ([], [])).2) && (s == (l.foldl stB ([], [])).1))
theorem drop_getD {α : Type} {l : List α} {i : Int} (d : α) (h0 : 0 ≤ i) (h : i < l.length) : l.drop i.toNat = l.getD i.toNat d :: l.drop (i + 1).toNat ∧ l.getD i.toNat d ∈ l := by
  have hk : i.toNat < l.length := by omega
  rw [List.getD_eq_getElem?_getD, List.getElem?_eq_getElem hk, show (i + 1).toNat = i.toNat + 1 by omega]
  exact ⟨List.drop_eq_getElem_cons hk, List.getElem_mem hk⟩
def p0C (b : List Int) (m : Known) : Bool := b.isEmpty && m.isEmpty
theorem pkC_good {k : Nat} {p : PKt} (h : GoodP k p) (hk : k ≤ 41) : pkC (bytesInt p.1) p.2 = true := by
  unfold pkC
  rw [bytesInt_ok, h.1.kOk, bytesInt_len, Nat.ble_eq_true_of_le (by have := h.2; omega)]
  rfl
end Go.Proofs.YtfepkpindchleaaE

/- wire.Take: a word. -/
namespace Go.Proofs.YtfepkpindchleaaE
open Go Go.Proofs.YtfepkpindchleaaB
set_option linter.unusedVariables false
set_option linter.unusedSimpArgs false
/-- A loop by its rounds' trees: each way ends it, goes on with less to do, or comes to where it is known how it ends. -/
theorem loop_tr2 {α : Type} {F : St → Option (St ⊕ (Ex × St))} (mk : α → St) (I : α → Prop) (m : α → Nat) (r : Ex × St) (t : α → Tr (St ⊕ (Ex × St))) (hF : ∀ a x, (t a).get = some x → F (mk a) = some x)
    (h : ∀ a, I a → (t a).all fun x => x = .inr r ∨ (∃ a', x = .inl (mk a') ∧ I a' ∧ m a' < m a) ∨ ∃ st', x = .inl st' ∧ loopF F st' = some r) : ∀ a, I a → loopF F (mk a) = some r := by
  have key : ∀ (n : Nat) (a : α), m a = n → I a → loopF F (mk a) = some r := by
    intro n
    induction n using Nat.strongRecOn with
    | _ n ih =>
      intro a hn ha
      obtain ⟨x, h1, h2⟩ := Tr.all_get (h a ha)
      rcases h2 with rfl | ⟨a', rfl, ha', hlt⟩ | ⟨st', rfl, h3⟩
      · exact loopF_inr (hF a _ h1)
      · rw [loopF_inl (hF a _ h1)]
        exact ih (m a') (by omega) a' rfl ha'
      · rw [loopF_inl (hF a _ h1)]
        exact h3
  exact fun a ha => key _ a rfl ha
def tkC (s : List UInt8) (b : List Int) : Bool := bigS s && (bytesOk b && Nat.ble b.length 255)
def tkI (s : List UInt8) (a0 f0 h0 : Int) (b0 : List Int) (at_ from_ behind : Int) (b : List Int) : Prop := bytesOk b = true ∧ b.length ≤ 255 ∧ takeG s at_ from_ behind (intBytes b) = takeG s a0 f0 h0 (intBytes b0)
noncomputable def b27u : Code := (nthLoop c27 0)
def ls27u : LoopSpec := { bid := 0, sh := [.d .str false, .d (.int .i64) false, .ptr 0 0, .d (.int .i64) false, .d (.int .i64) false], so := [.tbox 88 [.ptr 0 0, .row 1], .row (.int .u8)], F := fun (s, at_, from_, behind, _) (_, b, _) => .on (tkC s b) (.ret, [.str (tkS (takeG s at_ from_ behind (intBytes b))), .int .i64 (tkN (takeG s at_ from_ behind (intBytes b))), .int .i64 (tkE (takeG s at_ from_ behind (intBytes b)))], []) }
def r27u (s : List UInt8) (at_ : Int) (from_ : Int) (behind : Int) (b : List Int) : Tr (St ⊕ (Ex × St)) := Tr.br (bigS s) (Tr.br (someB s at_ (1 : Int)) (Tr.br (decide ((↑(UInt8.toNat (List.getD s (Int.toNat at_) 0)) : Int) > (63 : Int))) (Tr.br (decide ((↑(UInt8.toNat (List.getD s (Int.toNat at_) 0)) : Int) < (192 : Int))) (Tr.ret (Sum.inr (Ex.ret, stOf [4, 5, 6] [AV.str [], AV.int IntKind.i64 (0 : Int), AV.int IntKind.i64 (2 : Int)] []))) (Tr.br (decide ((↑(UInt8.toNat (List.getD s (Int.toNat at_) 0)) : Int) ≥ (192 : Int))) (Tr.br (bigS s) (Tr.br (someB s at_ (2 : Int)) (Tr.br (decide (IntKind.wrap IntKind.i64 (↑(BitVec.toNat (BitVec.ofInt (IntKind.bits IntKind.i64) (IntKind.wrap IntKind.i64 (n16 s at_)) &&& ~~~BitVec.ofInt (IntKind.bits IntKind.i64) (49152 : Int))) : Int) < from_)) (Tr.br (decide (behind < (0 : Int))) (Tr.ret (Sum.inl (stOf [0, 1, 7, 8, 9] [AV.str s, AV.int IntKind.i64 (IntKind.wrap IntKind.i64 (↑(BitVec.toNat (BitVec.ofInt (IntKind.bits IntKind.i64) (IntKind.wrap IntKind.i64 (n16 s at_)) &&& ~~~BitVec.ofInt (IntKind.bits IntKind.i64) (49152 : Int))) : Int)), AV.ptr 0 0, AV.int IntKind.i64 (IntKind.wrap IntKind.i64 (↑(BitVec.toNat (BitVec.ofInt (IntKind.bits IntKind.i64) (IntKind.wrap IntKind.i64 (n16 s at_)) &&& ~~~BitVec.ofInt (IntKind.bits IntKind.i64) (49152 : Int))) : Int)), AV.int IntKind.i64 (at_ + (2 : Ty.den (Ty.int IntKind.i64)))] [LObj.boxT (some 88) [AV.ptr 0 0, AV.rowA 1], LObj.row (Ty.int IntKind.u8) b]))) (Tr.ret (Sum.inl (stOf [0, 1, 7, 8, 9] [AV.str s, AV.int IntKind.i64 (IntKind.wrap IntKind.i64 (↑(BitVec.toNat (BitVec.ofInt (IntKind.bits IntKind.i64) (IntKind.wrap IntKind.i64 (n16 s at_)) &&& ~~~BitVec.ofInt (IntKind.bits IntKind.i64) (49152 : Int))) : Int)), AV.ptr 0 0, AV.int IntKind.i64 (IntKind.wrap IntKind.i64 (↑(BitVec.toNat (BitVec.ofInt (IntKind.bits IntKind.i64) (IntKind.wrap IntKind.i64 (n16 s at_)) &&& ~~~BitVec.ofInt (IntKind.bits IntKind.i64) (49152 : Int))) : Int)), AV.int IntKind.i64 behind] [LObj.boxT (some 88) [AV.ptr 0 0, AV.rowA 1], LObj.row (Ty.int IntKind.u8) b])))) (Tr.ret (Sum.inr (Ex.ret, stOf [4, 5, 6] [AV.str [], AV.int IntKind.i64 (0 : Int), AV.int IntKind.i64 (2 : Int)] [])))) (Tr.ret (Sum.inr (Ex.ret, stOf [4, 5, 6] [AV.str [], AV.int IntKind.i64 (0 : Int), AV.int IntKind.i64 (2 : Int)] [])))) Tr.no) (Tr.br (bigS s) (Tr.br (someB s (at_ + (1 : Ty.den (Ty.int IntKind.i64))) (IntKind.wrap IntKind.i64 (↑(UInt8.toNat (List.getD s (Int.toNat at_) 0)) : Int))) (Tr.br (decide (IntKind.wrap IntKind.i64 (IntKind.wrap IntKind.i64 ((↑(List.length b) : Int) + (1 : Int)) + (↑(List.length (someV s (at_ + (1 : Ty.den (Ty.int IntKind.i64))) (IntKind.wrap IntKind.i64 (↑(UInt8.toNat (List.getD s (Int.toNat at_) 0)) : Int)))) : Int)) > (255 : Int))) (Tr.ret (Sum.inr (Ex.ret, stOf [4, 5, 6] [AV.str [], AV.int IntKind.i64 (0 : Int), AV.int IntKind.i64 (2 : Int)] []))) (Tr.br (fits (List.length b + 1) 1) (Tr.br (bigS (someV s (at_ + (1 : Ty.den (Ty.int IntKind.i64))) (IntKind.wrap IntKind.i64 (↑(UInt8.toNat (List.getD s (Int.toNat at_) 0)) : Int)))) (Tr.br (fits (List.length (b ++ [(↑(UInt8.toNat (List.getD s (Int.toNat at_) 0)) : Int)]) + List.length (bytesInt (foldB (someV s (at_ + (1 : Ty.den (Ty.int IntKind.i64))) (IntKind.wrap IntKind.i64 (↑(UInt8.toNat (List.getD s (Int.toNat at_) 0)) : Int)))))) 1) (Tr.br (decide ((↑(UInt8.toNat (List.getD s (Int.toNat at_) 0)) : Int) > (0 : Int))) (Tr.ret (Sum.inl (stOf [0, 1, 7, 8, 9] [AV.str s, AV.int IntKind.i64 (at_ + (1 : Ty.den (Ty.int IntKind.i64)) + IntKind.wrap IntKind.i64 (↑(UInt8.toNat (List.getD s (Int.toNat at_) 0)) : Int)), AV.ptr 0 0, AV.int IntKind.i64 from_, AV.int IntKind.i64 behind] [LObj.boxT (some 88) [AV.ptr 0 0, AV.rowA 1], LObj.row (Ty.int IntKind.u8) (b ++ [(↑(UInt8.toNat (List.getD s (Int.toNat at_) 0)) : Int)] ++ bytesInt (foldB (someV s (at_ + (1 : Ty.den (Ty.int IntKind.i64))) (IntKind.wrap IntKind.i64 (↑(UInt8.toNat (List.getD s (Int.toNat at_) 0)) : Int)))))]))) (Tr.br (decide (behind < (0 : Int))) (Tr.br (bytesOk (b ++ [(↑(UInt8.toNat (List.getD s (Int.toNat at_) 0)) : Int)] ++ bytesInt (foldB (someV s (at_ + (1 : Ty.den (Ty.int IntKind.i64))) (IntKind.wrap IntKind.i64 (↑(UInt8.toNat (List.getD s (Int.toNat at_) 0)) : Int))))) && (!List.isEmpty (b ++ [(↑(UInt8.toNat (List.getD s (Int.toNat at_) 0)) : Int)] ++ bytesInt (foldB (someV s (at_ + (1 : Ty.den (Ty.int IntKind.i64))) (IntKind.wrap IntKind.i64 (↑(UInt8.toNat (List.getD s (Int.toNat at_) 0)) : Int))))) && Nat.ble (List.length (b ++ [(↑(UInt8.toNat (List.getD s (Int.toNat at_) 0)) : Int)] ++ bytesInt (foldB (someV s (at_ + (1 : Ty.den (Ty.int IntKind.i64))) (IntKind.wrap IntKind.i64 (↑(UInt8.toNat (List.getD s (Int.toNat at_) 0)) : Int)))))) 9223372036854775807)) (Tr.ret (Sum.inr (Ex.ret, stOf [4, 5, 6] [AV.str (intBytes (b ++ [(↑(UInt8.toNat (List.getD s (Int.toNat at_) 0)) : Int)] ++ bytesInt (foldB (someV s (at_ + (1 : Ty.den (Ty.int IntKind.i64))) (IntKind.wrap IntKind.i64 (↑(UInt8.toNat (List.getD s (Int.toNat at_) 0)) : Int)))))), AV.int IntKind.i64 (at_ + (1 : Ty.den (Ty.int IntKind.i64)) + IntKind.wrap IntKind.i64 (↑(UInt8.toNat (List.getD s (Int.toNat at_) 0)) : Int)), AV.int IntKind.i64 (0 : Int)] []))) Tr.no) (Tr.br (bytesOk (b ++ [(↑(UInt8.toNat (List.getD s (Int.toNat at_) 0)) : Int)] ++ bytesInt (foldB (someV s (at_ + (1 : Ty.den (Ty.int IntKind.i64))) (IntKind.wrap IntKind.i64 (↑(UInt8.toNat (List.getD s (Int.toNat at_) 0)) : Int))))) && (!List.isEmpty (b ++ [(↑(UInt8.toNat (List.getD s (Int.toNat at_) 0)) : Int)] ++ bytesInt (foldB (someV s (at_ + (1 : Ty.den (Ty.int IntKind.i64))) (IntKind.wrap IntKind.i64 (↑(UInt8.toNat (List.getD s (Int.toNat at_) 0)) : Int))))) && Nat.ble (List.length (b ++ [(↑(UInt8.toNat (List.getD s (Int.toNat at_) 0)) : Int)] ++ bytesInt (foldB (someV s (at_ + (1 : Ty.den (Ty.int IntKind.i64))) (IntKind.wrap IntKind.i64 (↑(UInt8.toNat (List.getD s (Int.toNat at_) 0)) : Int)))))) 9223372036854775807)) (Tr.ret (Sum.inr (Ex.ret, stOf [4, 5, 6] [AV.str (intBytes (b ++ [(↑(UInt8.toNat (List.getD s (Int.toNat at_) 0)) : Int)] ++ bytesInt (foldB (someV s (at_ + (1 : Ty.den (Ty.int IntKind.i64))) (IntKind.wrap IntKind.i64 (↑(UInt8.toNat (List.getD s (Int.toNat at_) 0)) : Int)))))), AV.int IntKind.i64 behind, AV.int IntKind.i64 (0 : Int)] []))) Tr.no))) Tr.no) Tr.no) Tr.no)) (Tr.ret (Sum.inr (Ex.ret, stOf [4, 5, 6] [AV.str [], AV.int IntKind.i64 (0 : Int), AV.int IntKind.i64 (2 : Int)] [])))) Tr.no))) (Tr.br (decide ((↑(UInt8.toNat (List.getD s (Int.toNat at_) 0)) : Int) ≥ (192 : Int))) (Tr.br (bigS s) (Tr.br (someB s at_ (2 : Int)) (Tr.br (decide (IntKind.wrap IntKind.i64 (↑(BitVec.toNat (BitVec.ofInt (IntKind.bits IntKind.i64) (IntKind.wrap IntKind.i64 (n16 s at_)) &&& ~~~BitVec.ofInt (IntKind.bits IntKind.i64) (49152 : Int))) : Int) < from_)) (Tr.br (decide (behind < (0 : Int))) (Tr.ret (Sum.inl (stOf [0, 1, 7, 8, 9] [AV.str s, AV.int IntKind.i64 (IntKind.wrap IntKind.i64 (↑(BitVec.toNat (BitVec.ofInt (IntKind.bits IntKind.i64) (IntKind.wrap IntKind.i64 (n16 s at_)) &&& ~~~BitVec.ofInt (IntKind.bits IntKind.i64) (49152 : Int))) : Int)), AV.ptr 0 0, AV.int IntKind.i64 (IntKind.wrap IntKind.i64 (↑(BitVec.toNat (BitVec.ofInt (IntKind.bits IntKind.i64) (IntKind.wrap IntKind.i64 (n16 s at_)) &&& ~~~BitVec.ofInt (IntKind.bits IntKind.i64) (49152 : Int))) : Int)), AV.int IntKind.i64 (at_ + (2 : Ty.den (Ty.int IntKind.i64)))] [LObj.boxT (some 88) [AV.ptr 0 0, AV.rowA 1], LObj.row (Ty.int IntKind.u8) b]))) (Tr.ret (Sum.inl (stOf [0, 1, 7, 8, 9] [AV.str s, AV.int IntKind.i64 (IntKind.wrap IntKind.i64 (↑(BitVec.toNat (BitVec.ofInt (IntKind.bits IntKind.i64) (IntKind.wrap IntKind.i64 (n16 s at_)) &&& ~~~BitVec.ofInt (IntKind.bits IntKind.i64) (49152 : Int))) : Int)), AV.ptr 0 0, AV.int IntKind.i64 (IntKind.wrap IntKind.i64 (↑(BitVec.toNat (BitVec.ofInt (IntKind.bits IntKind.i64) (IntKind.wrap IntKind.i64 (n16 s at_)) &&& ~~~BitVec.ofInt (IntKind.bits IntKind.i64) (49152 : Int))) : Int)), AV.int IntKind.i64 behind] [LObj.boxT (some 88) [AV.ptr 0 0, AV.rowA 1], LObj.row (Ty.int IntKind.u8) b])))) (Tr.ret (Sum.inr (Ex.ret, stOf [4, 5, 6] [AV.str [], AV.int IntKind.i64 (0 : Int), AV.int IntKind.i64 (2 : Int)] [])))) (Tr.ret (Sum.inr (Ex.ret, stOf [4, 5, 6] [AV.str [], AV.int IntKind.i64 (0 : Int), AV.int IntKind.i64 (2 : Int)] [])))) Tr.no) (Tr.br (bigS s) (Tr.br (someB s (at_ + (1 : Ty.den (Ty.int IntKind.i64))) (IntKind.wrap IntKind.i64 (↑(UInt8.toNat (List.getD s (Int.toNat at_) 0)) : Int))) (Tr.br (decide (IntKind.wrap IntKind.i64 (IntKind.wrap IntKind.i64 ((↑(List.length b) : Int) + (1 : Int)) + (↑(List.length (someV s (at_ + (1 : Ty.den (Ty.int IntKind.i64))) (IntKind.wrap IntKind.i64 (↑(UInt8.toNat (List.getD s (Int.toNat at_) 0)) : Int)))) : Int)) > (255 : Int))) (Tr.ret (Sum.inr (Ex.ret, stOf [4, 5, 6] [AV.str [], AV.int IntKind.i64 (0 : Int), AV.int IntKind.i64 (2 : Int)] []))) (Tr.br (fits (List.length b + 1) 1) (Tr.br (bigS (someV s (at_ + (1 : Ty.den (Ty.int IntKind.i64))) (IntKind.wrap IntKind.i64 (↑(UInt8.toNat (List.getD s (Int.toNat at_) 0)) : Int)))) (Tr.br (fits (List.length (b ++ [(↑(UInt8.toNat (List.getD s (Int.toNat at_) 0)) : Int)]) + List.length (bytesInt (foldB (someV s (at_ + (1 : Ty.den (Ty.int IntKind.i64))) (IntKind.wrap IntKind.i64 (↑(UInt8.toNat (List.getD s (Int.toNat at_) 0)) : Int)))))) 1) (Tr.br (decide ((↑(UInt8.toNat (List.getD s (Int.toNat at_) 0)) : Int) > (0 : Int))) (Tr.ret (Sum.inl (stOf [0, 1, 7, 8, 9] [AV.str s, AV.int IntKind.i64 (at_ + (1 : Ty.den (Ty.int IntKind.i64)) + IntKind.wrap IntKind.i64 (↑(UInt8.toNat (List.getD s (Int.toNat at_) 0)) : Int)), AV.ptr 0 0, AV.int IntKind.i64 from_, AV.int IntKind.i64 behind] [LObj.boxT (some 88) [AV.ptr 0 0, AV.rowA 1], LObj.row (Ty.int IntKind.u8) (b ++ [(↑(UInt8.toNat (List.getD s (Int.toNat at_) 0)) : Int)] ++ bytesInt (foldB (someV s (at_ + (1 : Ty.den (Ty.int IntKind.i64))) (IntKind.wrap IntKind.i64 (↑(UInt8.toNat (List.getD s (Int.toNat at_) 0)) : Int)))))]))) (Tr.br (decide (behind < (0 : Int))) (Tr.br (bytesOk (b ++ [(↑(UInt8.toNat (List.getD s (Int.toNat at_) 0)) : Int)] ++ bytesInt (foldB (someV s (at_ + (1 : Ty.den (Ty.int IntKind.i64))) (IntKind.wrap IntKind.i64 (↑(UInt8.toNat (List.getD s (Int.toNat at_) 0)) : Int))))) && (!List.isEmpty (b ++ [(↑(UInt8.toNat (List.getD s (Int.toNat at_) 0)) : Int)] ++ bytesInt (foldB (someV s (at_ + (1 : Ty.den (Ty.int IntKind.i64))) (IntKind.wrap IntKind.i64 (↑(UInt8.toNat (List.getD s (Int.toNat at_) 0)) : Int))))) && Nat.ble (List.length (b ++ [(↑(UInt8.toNat (List.getD s (Int.toNat at_) 0)) : Int)] ++ bytesInt (foldB (someV s (at_ + (1 : Ty.den (Ty.int IntKind.i64))) (IntKind.wrap IntKind.i64 (↑(UInt8.toNat (List.getD s (Int.toNat at_) 0)) : Int)))))) 9223372036854775807)) (Tr.ret (Sum.inr (Ex.ret, stOf [4, 5, 6] [AV.str (intBytes (b ++ [(↑(UInt8.toNat (List.getD s (Int.toNat at_) 0)) : Int)] ++ bytesInt (foldB (someV s (at_ + (1 : Ty.den (Ty.int IntKind.i64))) (IntKind.wrap IntKind.i64 (↑(UInt8.toNat (List.getD s (Int.toNat at_) 0)) : Int)))))), AV.int IntKind.i64 (at_ + (1 : Ty.den (Ty.int IntKind.i64)) + IntKind.wrap IntKind.i64 (↑(UInt8.toNat (List.getD s (Int.toNat at_) 0)) : Int)), AV.int IntKind.i64 (0 : Int)] []))) Tr.no) (Tr.br (bytesOk (b ++ [(↑(UInt8.toNat (List.getD s (Int.toNat at_) 0)) : Int)] ++ bytesInt (foldB (someV s (at_ + (1 : Ty.den (Ty.int IntKind.i64))) (IntKind.wrap IntKind.i64 (↑(UInt8.toNat (List.getD s (Int.toNat at_) 0)) : Int))))) && (!List.isEmpty (b ++ [(↑(UInt8.toNat (List.getD s (Int.toNat at_) 0)) : Int)] ++ bytesInt (foldB (someV s (at_ + (1 : Ty.den (Ty.int IntKind.i64))) (IntKind.wrap IntKind.i64 (↑(UInt8.toNat (List.getD s (Int.toNat at_) 0)) : Int))))) && Nat.ble (List.length (b ++ [(↑(UInt8.toNat (List.getD s (Int.toNat at_) 0)) : Int)] ++ bytesInt (foldB (someV s (at_ + (1 : Ty.den (Ty.int IntKind.i64))) (IntKind.wrap IntKind.i64 (↑(UInt8.toNat (List.getD s (Int.toNat at_) 0)) : Int)))))) 9223372036854775807)) (Tr.ret (Sum.inr (Ex.ret, stOf [4, 5, 6] [AV.str (intBytes (b ++ [(↑(UInt8.toNat (List.getD s (Int.toNat at_) 0)) : Int)] ++ bytesInt (foldB (someV s (at_ + (1 : Ty.den (Ty.int IntKind.i64))) (IntKind.wrap IntKind.i64 (↑(UInt8.toNat (List.getD s (Int.toNat at_) 0)) : Int)))))), AV.int IntKind.i64 behind, AV.int IntKind.i64 (0 : Int)] []))) Tr.no))) Tr.no) Tr.no) Tr.no)) (Tr.ret (Sum.inr (Ex.ret, stOf [4, 5, 6] [AV.str [], AV.int IntKind.i64 (0 : Int), AV.int IntKind.i64 (2 : Int)] [])))) Tr.no))) (Tr.ret (Sum.inr (Ex.ret, stOf [4, 5, 6] [AV.str [], AV.int IntKind.i64 (0 : Int), AV.int IntKind.i64 (2 : Int)] [])))) Tr.no
set_option maxRecDepth 1000000 in
theorem round27u (lp : Lp) (s : List UInt8) (at_ : Int) (from_ : Int) (behind : Int) (b : List Int) : evC T0 (orcB [fs46w, fs47w, fs48w, fs52w] [os49n, os49u, os50n, os50u, os51u, osStr]) lp b27u 0 (stOf [0, 1, 7, 8, 9] [.str s, .int .i64 at_, .ptr 0 0, .int .i64 from_, .int .i64 behind] [.boxT (some 88) [.ptr 0 0, .rowA 1], .row (.int .u8) b]) (roundK [0, 1, 7, 8, 9] [4, 5, 6] 0) = (r27u s at_ from_ behind b).get := by kernel_rfl
theorem wf27u (s : List UInt8) (I'' : Int → Int → Int → List Int → Prop) (m'' : Int → Int → Int → List Int → Nat) (r'' : Ex × St) (h : ∀ (at_ : Int) (from_ : Int) (behind : Int) (b : List Int), I'' at_ from_ behind b → (r27u s at_ from_ behind b).all fun x'' => x'' = .inr r'' ∨ ∃ (at_' : Int) (from_' : Int) (behind' : Int) (b' : List Int), x'' = .inl (stOf [0, 1, 7, 8, 9] [.str s, .int .i64 at_', .ptr 0 0, .int .i64 from_', .int .i64 behind'] [.boxT (some 88) [.ptr 0 0, .rowA 1], .row (.int .u8) b']) ∧ I'' at_' from_' behind' b' ∧ m'' at_' from_' behind' b' < m'' at_ from_ behind b) (lp : Lp) (at_ : Int) (from_ : Int) (behind : Int) (b : List Int) : I'' at_ from_ behind b →
    loopF (fun st => evC T0 (orcB [fs46w, fs47w, fs48w, fs52w] [os49n, os49u, os50n, os50u, os51u, osStr]) lp b27u 0 st (roundK [0, 1, 7, 8, 9] [4, 5, 6] 0)) (stOf [0, 1, 7, 8, 9] [.str s, .int .i64 at_, .ptr 0 0, .int .i64 from_, .int .i64 behind] [.boxT (some 88) [.ptr 0 0, .rowA 1], .row (.int .u8) b]) = some r'' :=
  loop_tr (fun a'' : Int × Int × Int × List Int => stOf [0, 1, 7, 8, 9] [.str s, .int .i64 a''.1, .ptr 0 0, .int .i64 a''.2.1, .int .i64 a''.2.2.1] [.boxT (some 88) [.ptr 0 0, .rowA 1], .row (.int .u8) a''.2.2.2]) (fun a'' => I'' a''.1 a''.2.1 a''.2.2.1 a''.2.2.2) (fun a'' => m'' a''.1 a''.2.1 a''.2.2.1 a''.2.2.2) r'' (fun a'' => r27u s a''.1 a''.2.1 a''.2.2.1 a''.2.2.2)
    (fun a'' x hx => (round27u lp s a''.1 a''.2.1 a''.2.2.1 a''.2.2.2).trans hx) (fun a'' ha => Tr.all_mono (fun x'' hx => hx.imp id fun ⟨at_', from_', behind', b', h1, h2, h3⟩ => ⟨(at_', from_', behind', b'), h1, h2, h3⟩) (h (a''.1) (a''.2.1) (a''.2.2.1) (a''.2.2.2) ha)) (at_, from_, behind, b)
theorem loop27u : ls27u.Ok T0 (orcB [fs46w, fs47w, fs48w, fs52w] [os49n, os49u, os50n, os50u, os51u, osStr]) h27 0 0 b27u := by
  intro q'' hq'' x'' y'' r'' h
  obtain ⟨(s : List UInt8), (at_ : Int), (from_ : Int), (behind : Int), _⟩ := x''
  obtain ⟨_, (b : List Int), _⟩ := y''
  obtain ⟨hc, rfl⟩ := Tr.get_on h
  show loopF (fun st => evC T0 (orcB [fs46w, fs47w, fs48w, fs52w] [os49n, os49u, os50n, os50u, os51u, osStr]) (lpN T0 (orcB [fs46w, fs47w, fs48w, fs52w] [os49n, os49u, os50n, os50u, os51u, osStr]) h27 0 q'') b27u 0 st (roundK [0, 1, 7, 8, 9] [4, 5, 6] 0)) (stOf [0, 1, 7, 8, 9] [.str s, .int .i64 at_, .ptr 0 0, .int .i64 from_, .int .i64 behind] [.boxT (some 88) [.ptr 0 0, .rowA 1], .row (.int .u8) b]) = some (.ret, stOf [4, 5, 6] ([.str (tkS (takeG s at_ from_ behind (intBytes b))), .int .i64 (tkN (takeG s at_ from_ behind (intBytes b))), .int .i64 (tkE (takeG s at_ from_ behind (intBytes b)))]) ([]))
  simp only [tkC, Bool.and_eq_true] at hc
  obtain ⟨hbig, hok, hb⟩ := hc
  have hb := Nat.le_of_ble_eq_true hb
  refine wf27u s (tkI s at_ from_ behind b) (fun at_ from_ _ _ => msT s at_ from_) _ ?_ _ at_ from_ behind b ⟨hok, hb, rfl⟩
  clear hok hb
  rintro at_ from_ behind b ⟨hok, hb, he⟩
  rw [← he]
  unfold r27u
  have hB : s.length ≤ 1000000000000 := by simpa [bigS] using hbig
  have hc : (↑(UInt8.toNat (List.getD s (Int.toNat at_) 0)) : Int) = (szT s at_ : Int) := rfl
  have hc255 := szT_lt s at_
  have hto := toT_in s at_
  simp only [and_far (n16_in s at_).1 (n16_in s at_).2, hc]
  simp only [show n16 s at_ % 16384 = toT s at_ from rfl, IntWalk.i64_in ((szT s at_ : Nat) : Int) (by omega)]
  cases h1 : someB s at_ 1 with
  | false =>
    rw [takeG_out h1]
    exact Tr.all_t hbig (Tr.all_f rfl (Tr.all_ret (.inl rfl)))
  | true =>
    have hs1 := someB_iff.1 h1
    refine Tr.all_t hbig (Tr.all_t rfl ?_)
    by_cases h192 : 192 ≤ szT s at_
    · refine Tr.all_t (dec_true (by omega)) (Tr.all_f (dec_false (by omega)) (Tr.all_t (dec_true (by omega)) (Tr.all_t hbig ?_)))
      by_cases h3 : someB s at_ 2 = true ∧ toT s at_ < from_
      · rw [takeG_ptr h1 h192 h3.1 h3.2] at he ⊢
        refine Tr.all_t h3.1 (Tr.all_t (dec_true h3.2) (Tr.all_br (fun c1 => ?_) fun c1 => ?_))
        · simp only [decide_eq_true_eq] at c1
          rw [if_pos c1] at he
          exact Tr.all_ret (.inr ⟨_, _, _, _, rfl, ⟨hok, hb, he⟩, msT_to hto.1 h3.2⟩)
        · simp only [decide_eq_false_iff_not] at c1
          rw [if_neg c1] at he
          exact Tr.all_ret (.inr ⟨_, _, _, _, rfl, ⟨hok, hb, he⟩, msT_to hto.1 h3.2⟩)
      · rw [takeG_bad h1 h192 h3]
        cases h2 : someB s at_ 2 with
        | false => exact Tr.all_f rfl (Tr.all_ret (.inl rfl))
        | true => exact Tr.all_t rfl (Tr.all_f (dec_false (fun h => h3 ⟨h2, h⟩)) (Tr.all_ret (.inl rfl)))
    · by_cases h63 : 63 < szT s at_
      · rw [takeG_mid h1 h192 h63]
        exact Tr.all_t (dec_true (by omega)) (Tr.all_t (dec_true (by omega)) (Tr.all_ret (.inl rfl)))
      · refine Tr.all_f (dec_false (by omega)) (Tr.all_f (dec_false (by omega)) (Tr.all_t hbig ?_))
        cases h4 : someB s (at_ + 1) (szT s at_) with
        | false =>
          rw [takeG_long h1 (by omega) (by rw [h4]; simp)]
          exact Tr.all_f rfl (Tr.all_ret (.inl rfl))
        | true =>
          have hs4 := someB_iff.1 h4
          have hvl : (someV s (at_ + 1) (szT s at_ : Int)).length = szT s at_ := by rw [someV_len h4]; omega
          have hvb : bigS (someV s (at_ + 1) (szT s at_ : Int)) = true := by simp [bigS, hvl]; omega
          rw [hvl]
          rw [IntWalk.i64_in ((List.length b : Int) + 1) (by omega), IntWalk.i64_in _ (by omega)]
          refine Tr.all_t rfl ?_
          by_cases h5 : b.length + 1 + szT s at_ ≤ 255
          · have hnew : bytesOk (b ++ [((szT s at_ : Nat) : Int)] ++ bytesInt (foldB (someV s (at_ + 1) (szT s at_ : Int)))) = true := by
              refine bytesOk_app (bytesOk_app hok ?_) (bytesInt_ok _)
              simp [bytesOk]
              omega
            have hnl : (b ++ [((szT s at_ : Nat) : Int)] ++ bytesInt (foldB (someV s (at_ + 1) (szT s at_ : Int)))).length = b.length + 1 + szT s at_ := by
              simp [bytesInt_len, foldB_len, hvl]
              omega
            have hS2 : intBytes (b ++ [((szT s at_ : Nat) : Int)] ++ bytesInt (foldB (someV s (at_ + 1) (szT s at_ : Int)))) = intBytes b ++ s.getD at_.toNat 0 :: foldB (someV s (at_ + 1) (szT s at_ : Int)) := by
              rw [intB_app, intB_app, intB_bytes]
              have : intBytes [((szT s at_ : Nat) : Int)] = [s.getD at_.toNat 0] := by simp [intBytes, szT]
              rw [this]
              simp
            refine Tr.all_f (dec_false (by omega)) (Tr.all_t (fits_true (by omega) (by omega)) (Tr.all_t hvb (Tr.all_t (fits_true (by simp [bytesInt_len, foldB_len, hvl]; omega) (by simp [bytesInt_len, foldB_len, hvl]; omega)) ?_)))
            by_cases h0 : szT s at_ = 0
            · rw [takeG_end h1 h0 (by rw [intB_len]; omega)]
              have hv0 : someV s (at_ + 1) (szT s at_ : Int) = [] := List.length_eq_zero_iff.1 (by rw [hvl]; exact h0)
              have hg0 : s.getD at_.toNat 0 = 0 := by
                have : (s.getD at_.toNat 0).toNat = 0 := h0
                exact UInt8.toNat_inj.1 (by simpa using this)
              have hend : (bytesOk (b ++ [((szT s at_ : Nat) : Int)] ++ bytesInt (foldB (someV s (at_ + 1) (szT s at_ : Int)))) && (!List.isEmpty (b ++ [((szT s at_ : Nat) : Int)] ++ bytesInt (foldB (someV s (at_ + 1) (szT s at_ : Int)))) && Nat.ble (List.length (b ++ [((szT s at_ : Nat) : Int)] ++ bytesInt (foldB (someV s (at_ + 1) (szT s at_ : Int))))) 9223372036854775807)) = true := by
                rw [hnew, Nat.ble_eq_true_of_le (by omega)]
                simp
              refine Tr.all_f (dec_false (by omega)) (Tr.all_br (fun c1 => Tr.all_t hend (Tr.all_ret (.inl ?_))) fun c1 => Tr.all_t hend (Tr.all_ret (.inl ?_)))
              · simp only [decide_eq_true_eq] at c1
                rw [if_pos c1, hS2, hv0, hg0, h0]
                simp [foldB]
                rfl
              · simp only [decide_eq_false_iff_not] at c1
                rw [if_neg c1, hS2, hv0, hg0]
                rfl
            · have hG := takeG_on (s := s) (at_ := at_) (from_ := from_) (behind := behind) (out := intBytes b) h1 (by omega) h0 h4 (by rw [intB_len]; omega)
              rw [← hS2] at hG
              rw [hG] at he ⊢
              refine Tr.all_t (dec_true (by omega)) (Tr.all_ret ?_)
              exact .inr ⟨_, _, _, _, rfl, ⟨hnew, by omega, he⟩, msT_on hs1.1 hs4.2.2⟩
          · rw [takeG_long h1 (by omega) (by rw [intB_len]; exact fun h => h5 h.2)]
            exact Tr.all_t (dec_true (by omega)) (Tr.all_ret (.inl rfl))
noncomputable def b27n : Code := (nthLoop c27 0)
def ls27n : LoopSpec := { bid := 0, sh := [.d .str false, .d (.int .i64) false, .ptr 0 0, .d (.int .i64) false, .d (.int .i64) false], so := [.tbox 88 [.np, .row 1], .row (.int .u8)], F := fun (s, at_, from_, behind, _) (_, b, _) => .on (tkC s b) (.ret, [.str (tkS (takeG s at_ from_ behind (intBytes b))), .int .i64 (tkN (takeG s at_ from_ behind (intBytes b))), .int .i64 (tkE (takeG s at_ from_ behind (intBytes b)))], []) }
def r27n (s : List UInt8) (at_ : Int) (from_ : Int) (behind : Int) (b : List Int) : Tr (St ⊕ (Ex × St)) := Tr.br (bigS s) (Tr.br (someB s at_ (1 : Int)) (Tr.br (decide ((↑(UInt8.toNat (List.getD s (Int.toNat at_) 0)) : Int) > (63 : Int))) (Tr.br (decide ((↑(UInt8.toNat (List.getD s (Int.toNat at_) 0)) : Int) < (192 : Int))) (Tr.ret (Sum.inr (Ex.ret, stOf [4, 5, 6] [AV.str [], AV.int IntKind.i64 (0 : Int), AV.int IntKind.i64 (2 : Int)] []))) (Tr.br (decide ((↑(UInt8.toNat (List.getD s (Int.toNat at_) 0)) : Int) ≥ (192 : Int))) (Tr.br (bigS s) (Tr.br (someB s at_ (2 : Int)) (Tr.br (decide (IntKind.wrap IntKind.i64 (↑(BitVec.toNat (BitVec.ofInt (IntKind.bits IntKind.i64) (IntKind.wrap IntKind.i64 (n16 s at_)) &&& ~~~BitVec.ofInt (IntKind.bits IntKind.i64) (49152 : Int))) : Int) < from_)) (Tr.br (decide (behind < (0 : Int))) (Tr.ret (Sum.inl (stOf [0, 1, 7, 8, 9] [AV.str s, AV.int IntKind.i64 (IntKind.wrap IntKind.i64 (↑(BitVec.toNat (BitVec.ofInt (IntKind.bits IntKind.i64) (IntKind.wrap IntKind.i64 (n16 s at_)) &&& ~~~BitVec.ofInt (IntKind.bits IntKind.i64) (49152 : Int))) : Int)), AV.ptr 0 0, AV.int IntKind.i64 (IntKind.wrap IntKind.i64 (↑(BitVec.toNat (BitVec.ofInt (IntKind.bits IntKind.i64) (IntKind.wrap IntKind.i64 (n16 s at_)) &&& ~~~BitVec.ofInt (IntKind.bits IntKind.i64) (49152 : Int))) : Int)), AV.int IntKind.i64 (at_ + (2 : Ty.den (Ty.int IntKind.i64)))] [LObj.boxT (some 88) [AV.np, AV.rowA 1], LObj.row (Ty.int IntKind.u8) b]))) (Tr.ret (Sum.inl (stOf [0, 1, 7, 8, 9] [AV.str s, AV.int IntKind.i64 (IntKind.wrap IntKind.i64 (↑(BitVec.toNat (BitVec.ofInt (IntKind.bits IntKind.i64) (IntKind.wrap IntKind.i64 (n16 s at_)) &&& ~~~BitVec.ofInt (IntKind.bits IntKind.i64) (49152 : Int))) : Int)), AV.ptr 0 0, AV.int IntKind.i64 (IntKind.wrap IntKind.i64 (↑(BitVec.toNat (BitVec.ofInt (IntKind.bits IntKind.i64) (IntKind.wrap IntKind.i64 (n16 s at_)) &&& ~~~BitVec.ofInt (IntKind.bits IntKind.i64) (49152 : Int))) : Int)), AV.int IntKind.i64 behind] [LObj.boxT (some 88) [AV.np, AV.rowA 1], LObj.row (Ty.int IntKind.u8) b])))) (Tr.ret (Sum.inr (Ex.ret, stOf [4, 5, 6] [AV.str [], AV.int IntKind.i64 (0 : Int), AV.int IntKind.i64 (2 : Int)] [])))) (Tr.ret (Sum.inr (Ex.ret, stOf [4, 5, 6] [AV.str [], AV.int IntKind.i64 (0 : Int), AV.int IntKind.i64 (2 : Int)] [])))) Tr.no) (Tr.br (bigS s) (Tr.br (someB s (at_ + (1 : Ty.den (Ty.int IntKind.i64))) (IntKind.wrap IntKind.i64 (↑(UInt8.toNat (List.getD s (Int.toNat at_) 0)) : Int))) (Tr.br (decide (IntKind.wrap IntKind.i64 (IntKind.wrap IntKind.i64 ((↑(List.length b) : Int) + (1 : Int)) + (↑(List.length (someV s (at_ + (1 : Ty.den (Ty.int IntKind.i64))) (IntKind.wrap IntKind.i64 (↑(UInt8.toNat (List.getD s (Int.toNat at_) 0)) : Int)))) : Int)) > (255 : Int))) (Tr.ret (Sum.inr (Ex.ret, stOf [4, 5, 6] [AV.str [], AV.int IntKind.i64 (0 : Int), AV.int IntKind.i64 (2 : Int)] []))) (Tr.br (fits (List.length b + 1) 1) (Tr.br (bigS (someV s (at_ + (1 : Ty.den (Ty.int IntKind.i64))) (IntKind.wrap IntKind.i64 (↑(UInt8.toNat (List.getD s (Int.toNat at_) 0)) : Int)))) (Tr.br (fits (List.length (b ++ [(↑(UInt8.toNat (List.getD s (Int.toNat at_) 0)) : Int)]) + List.length (bytesInt (foldB (someV s (at_ + (1 : Ty.den (Ty.int IntKind.i64))) (IntKind.wrap IntKind.i64 (↑(UInt8.toNat (List.getD s (Int.toNat at_) 0)) : Int)))))) 1) (Tr.br (decide ((↑(UInt8.toNat (List.getD s (Int.toNat at_) 0)) : Int) > (0 : Int))) (Tr.ret (Sum.inl (stOf [0, 1, 7, 8, 9] [AV.str s, AV.int IntKind.i64 (at_ + (1 : Ty.den (Ty.int IntKind.i64)) + IntKind.wrap IntKind.i64 (↑(UInt8.toNat (List.getD s (Int.toNat at_) 0)) : Int)), AV.ptr 0 0, AV.int IntKind.i64 from_, AV.int IntKind.i64 behind] [LObj.boxT (some 88) [AV.ptr 0 0, AV.rowA 1], LObj.row (Ty.int IntKind.u8) (b ++ [(↑(UInt8.toNat (List.getD s (Int.toNat at_) 0)) : Int)] ++ bytesInt (foldB (someV s (at_ + (1 : Ty.den (Ty.int IntKind.i64))) (IntKind.wrap IntKind.i64 (↑(UInt8.toNat (List.getD s (Int.toNat at_) 0)) : Int)))))]))) (Tr.br (decide (behind < (0 : Int))) (Tr.br (bytesOk (b ++ [(↑(UInt8.toNat (List.getD s (Int.toNat at_) 0)) : Int)] ++ bytesInt (foldB (someV s (at_ + (1 : Ty.den (Ty.int IntKind.i64))) (IntKind.wrap IntKind.i64 (↑(UInt8.toNat (List.getD s (Int.toNat at_) 0)) : Int))))) && (!List.isEmpty (b ++ [(↑(UInt8.toNat (List.getD s (Int.toNat at_) 0)) : Int)] ++ bytesInt (foldB (someV s (at_ + (1 : Ty.den (Ty.int IntKind.i64))) (IntKind.wrap IntKind.i64 (↑(UInt8.toNat (List.getD s (Int.toNat at_) 0)) : Int))))) && Nat.ble (List.length (b ++ [(↑(UInt8.toNat (List.getD s (Int.toNat at_) 0)) : Int)] ++ bytesInt (foldB (someV s (at_ + (1 : Ty.den (Ty.int IntKind.i64))) (IntKind.wrap IntKind.i64 (↑(UInt8.toNat (List.getD s (Int.toNat at_) 0)) : Int)))))) 9223372036854775807)) (Tr.ret (Sum.inr (Ex.ret, stOf [4, 5, 6] [AV.str (intBytes (b ++ [(↑(UInt8.toNat (List.getD s (Int.toNat at_) 0)) : Int)] ++ bytesInt (foldB (someV s (at_ + (1 : Ty.den (Ty.int IntKind.i64))) (IntKind.wrap IntKind.i64 (↑(UInt8.toNat (List.getD s (Int.toNat at_) 0)) : Int)))))), AV.int IntKind.i64 (at_ + (1 : Ty.den (Ty.int IntKind.i64)) + IntKind.wrap IntKind.i64 (↑(UInt8.toNat (List.getD s (Int.toNat at_) 0)) : Int)), AV.int IntKind.i64 (0 : Int)] []))) Tr.no) (Tr.br (bytesOk (b ++ [(↑(UInt8.toNat (List.getD s (Int.toNat at_) 0)) : Int)] ++ bytesInt (foldB (someV s (at_ + (1 : Ty.den (Ty.int IntKind.i64))) (IntKind.wrap IntKind.i64 (↑(UInt8.toNat (List.getD s (Int.toNat at_) 0)) : Int))))) && (!List.isEmpty (b ++ [(↑(UInt8.toNat (List.getD s (Int.toNat at_) 0)) : Int)] ++ bytesInt (foldB (someV s (at_ + (1 : Ty.den (Ty.int IntKind.i64))) (IntKind.wrap IntKind.i64 (↑(UInt8.toNat (List.getD s (Int.toNat at_) 0)) : Int))))) && Nat.ble (List.length (b ++ [(↑(UInt8.toNat (List.getD s (Int.toNat at_) 0)) : Int)] ++ bytesInt (foldB (someV s (at_ + (1 : Ty.den (Ty.int IntKind.i64))) (IntKind.wrap IntKind.i64 (↑(UInt8.toNat (List.getD s (Int.toNat at_) 0)) : Int)))))) 9223372036854775807)) (Tr.ret (Sum.inr (Ex.ret, stOf [4, 5, 6] [AV.str (intBytes (b ++ [(↑(UInt8.toNat (List.getD s (Int.toNat at_) 0)) : Int)] ++ bytesInt (foldB (someV s (at_ + (1 : Ty.den (Ty.int IntKind.i64))) (IntKind.wrap IntKind.i64 (↑(UInt8.toNat (List.getD s (Int.toNat at_) 0)) : Int)))))), AV.int IntKind.i64 behind, AV.int IntKind.i64 (0 : Int)] []))) Tr.no))) Tr.no) Tr.no) Tr.no)) (Tr.ret (Sum.inr (Ex.ret, stOf [4, 5, 6] [AV.str [], AV.int IntKind.i64 (0 : Int), AV.int IntKind.i64 (2 : Int)] [])))) Tr.no))) (Tr.br (decide ((↑(UInt8.toNat (List.getD s (Int.toNat at_) 0)) : Int) ≥ (192 : Int))) (Tr.br (bigS s) (Tr.br (someB s at_ (2 : Int)) (Tr.br (decide (IntKind.wrap IntKind.i64 (↑(BitVec.toNat (BitVec.ofInt (IntKind.bits IntKind.i64) (IntKind.wrap IntKind.i64 (n16 s at_)) &&& ~~~BitVec.ofInt (IntKind.bits IntKind.i64) (49152 : Int))) : Int) < from_)) (Tr.br (decide (behind < (0 : Int))) (Tr.ret (Sum.inl (stOf [0, 1, 7, 8, 9] [AV.str s, AV.int IntKind.i64 (IntKind.wrap IntKind.i64 (↑(BitVec.toNat (BitVec.ofInt (IntKind.bits IntKind.i64) (IntKind.wrap IntKind.i64 (n16 s at_)) &&& ~~~BitVec.ofInt (IntKind.bits IntKind.i64) (49152 : Int))) : Int)), AV.ptr 0 0, AV.int IntKind.i64 (IntKind.wrap IntKind.i64 (↑(BitVec.toNat (BitVec.ofInt (IntKind.bits IntKind.i64) (IntKind.wrap IntKind.i64 (n16 s at_)) &&& ~~~BitVec.ofInt (IntKind.bits IntKind.i64) (49152 : Int))) : Int)), AV.int IntKind.i64 (at_ + (2 : Ty.den (Ty.int IntKind.i64)))] [LObj.boxT (some 88) [AV.np, AV.rowA 1], LObj.row (Ty.int IntKind.u8) b]))) (Tr.ret (Sum.inl (stOf [0, 1, 7, 8, 9] [AV.str s, AV.int IntKind.i64 (IntKind.wrap IntKind.i64 (↑(BitVec.toNat (BitVec.ofInt (IntKind.bits IntKind.i64) (IntKind.wrap IntKind.i64 (n16 s at_)) &&& ~~~BitVec.ofInt (IntKind.bits IntKind.i64) (49152 : Int))) : Int)), AV.ptr 0 0, AV.int IntKind.i64 (IntKind.wrap IntKind.i64 (↑(BitVec.toNat (BitVec.ofInt (IntKind.bits IntKind.i64) (IntKind.wrap IntKind.i64 (n16 s at_)) &&& ~~~BitVec.ofInt (IntKind.bits IntKind.i64) (49152 : Int))) : Int)), AV.int IntKind.i64 behind] [LObj.boxT (some 88) [AV.np, AV.rowA 1], LObj.row (Ty.int IntKind.u8) b])))) (Tr.ret (Sum.inr (Ex.ret, stOf [4, 5, 6] [AV.str [], AV.int IntKind.i64 (0 : Int), AV.int IntKind.i64 (2 : Int)] [])))) (Tr.ret (Sum.inr (Ex.ret, stOf [4, 5, 6] [AV.str [], AV.int IntKind.i64 (0 : Int), AV.int IntKind.i64 (2 : Int)] [])))) Tr.no) (Tr.br (bigS s) (Tr.br (someB s (at_ + (1 : Ty.den (Ty.int IntKind.i64))) (IntKind.wrap IntKind.i64 (↑(UInt8.toNat (List.getD s (Int.toNat at_) 0)) : Int))) (Tr.br (decide (IntKind.wrap IntKind.i64 (IntKind.wrap IntKind.i64 ((↑(List.length b) : Int) + (1 : Int)) + (↑(List.length (someV s (at_ + (1 : Ty.den (Ty.int IntKind.i64))) (IntKind.wrap IntKind.i64 (↑(UInt8.toNat (List.getD s (Int.toNat at_) 0)) : Int)))) : Int)) > (255 : Int))) (Tr.ret (Sum.inr (Ex.ret, stOf [4, 5, 6] [AV.str [], AV.int IntKind.i64 (0 : Int), AV.int IntKind.i64 (2 : Int)] []))) (Tr.br (fits (List.length b + 1) 1) (Tr.br (bigS (someV s (at_ + (1 : Ty.den (Ty.int IntKind.i64))) (IntKind.wrap IntKind.i64 (↑(UInt8.toNat (List.getD s (Int.toNat at_) 0)) : Int)))) (Tr.br (fits (List.length (b ++ [(↑(UInt8.toNat (List.getD s (Int.toNat at_) 0)) : Int)]) + List.length (bytesInt (foldB (someV s (at_ + (1 : Ty.den (Ty.int IntKind.i64))) (IntKind.wrap IntKind.i64 (↑(UInt8.toNat (List.getD s (Int.toNat at_) 0)) : Int)))))) 1) (Tr.br (decide ((↑(UInt8.toNat (List.getD s (Int.toNat at_) 0)) : Int) > (0 : Int))) (Tr.ret (Sum.inl (stOf [0, 1, 7, 8, 9] [AV.str s, AV.int IntKind.i64 (at_ + (1 : Ty.den (Ty.int IntKind.i64)) + IntKind.wrap IntKind.i64 (↑(UInt8.toNat (List.getD s (Int.toNat at_) 0)) : Int)), AV.ptr 0 0, AV.int IntKind.i64 from_, AV.int IntKind.i64 behind] [LObj.boxT (some 88) [AV.ptr 0 0, AV.rowA 1], LObj.row (Ty.int IntKind.u8) (b ++ [(↑(UInt8.toNat (List.getD s (Int.toNat at_) 0)) : Int)] ++ bytesInt (foldB (someV s (at_ + (1 : Ty.den (Ty.int IntKind.i64))) (IntKind.wrap IntKind.i64 (↑(UInt8.toNat (List.getD s (Int.toNat at_) 0)) : Int)))))]))) (Tr.br (decide (behind < (0 : Int))) (Tr.br (bytesOk (b ++ [(↑(UInt8.toNat (List.getD s (Int.toNat at_) 0)) : Int)] ++ bytesInt (foldB (someV s (at_ + (1 : Ty.den (Ty.int IntKind.i64))) (IntKind.wrap IntKind.i64 (↑(UInt8.toNat (List.getD s (Int.toNat at_) 0)) : Int))))) && (!List.isEmpty (b ++ [(↑(UInt8.toNat (List.getD s (Int.toNat at_) 0)) : Int)] ++ bytesInt (foldB (someV s (at_ + (1 : Ty.den (Ty.int IntKind.i64))) (IntKind.wrap IntKind.i64 (↑(UInt8.toNat (List.getD s (Int.toNat at_) 0)) : Int))))) && Nat.ble (List.length (b ++ [(↑(UInt8.toNat (List.getD s (Int.toNat at_) 0)) : Int)] ++ bytesInt (foldB (someV s (at_ + (1 : Ty.den (Ty.int IntKind.i64))) (IntKind.wrap IntKind.i64 (↑(UInt8.toNat (List.getD s (Int.toNat at_) 0)) : Int)))))) 9223372036854775807)) (Tr.ret (Sum.inr (Ex.ret, stOf [4, 5, 6] [AV.str (intBytes (b ++ [(↑(UInt8.toNat (List.getD s (Int.toNat at_) 0)) : Int)] ++ bytesInt (foldB (someV s (at_ + (1 : Ty.den (Ty.int IntKind.i64))) (IntKind.wrap IntKind.i64 (↑(UInt8.toNat (List.getD s (Int.toNat at_) 0)) : Int)))))), AV.int IntKind.i64 (at_ + (1 : Ty.den (Ty.int IntKind.i64)) + IntKind.wrap IntKind.i64 (↑(UInt8.toNat (List.getD s (Int.toNat at_) 0)) : Int)), AV.int IntKind.i64 (0 : Int)] []))) Tr.no) (Tr.br (bytesOk (b ++ [(↑(UInt8.toNat (List.getD s (Int.toNat at_) 0)) : Int)] ++ bytesInt (foldB (someV s (at_ + (1 : Ty.den (Ty.int IntKind.i64))) (IntKind.wrap IntKind.i64 (↑(UInt8.toNat (List.getD s (Int.toNat at_) 0)) : Int))))) && (!List.isEmpty (b ++ [(↑(UInt8.toNat (List.getD s (Int.toNat at_) 0)) : Int)] ++ bytesInt (foldB (someV s (at_ + (1 : Ty.den (Ty.int IntKind.i64))) (IntKind.wrap IntKind.i64 (↑(UInt8.toNat (List.getD s (Int.toNat at_) 0)) : Int))))) && Nat.ble (List.length (b ++ [(↑(UInt8.toNat (List.getD s (Int.toNat at_) 0)) : Int)] ++ bytesInt (foldB (someV s (at_ + (1 : Ty.den (Ty.int IntKind.i64))) (IntKind.wrap IntKind.i64 (↑(UInt8.toNat (List.getD s (Int.toNat at_) 0)) : Int)))))) 9223372036854775807)) (Tr.ret (Sum.inr (Ex.ret, stOf [4, 5, 6] [AV.str (intBytes (b ++ [(↑(UInt8.toNat (List.getD s (Int.toNat at_) 0)) : Int)] ++ bytesInt (foldB (someV s (at_ + (1 : Ty.den (Ty.int IntKind.i64))) (IntKind.wrap IntKind.i64 (↑(UInt8.toNat (List.getD s (Int.toNat at_) 0)) : Int)))))), AV.int IntKind.i64 behind, AV.int IntKind.i64 (0 : Int)] []))) Tr.no))) Tr.no) Tr.no) Tr.no)) (Tr.ret (Sum.inr (Ex.ret, stOf [4, 5, 6] [AV.str [], AV.int IntKind.i64 (0 : Int), AV.int IntKind.i64 (2 : Int)] [])))) Tr.no))) (Tr.ret (Sum.inr (Ex.ret, stOf [4, 5, 6] [AV.str [], AV.int IntKind.i64 (0 : Int), AV.int IntKind.i64 (2 : Int)] [])))) Tr.no
set_option maxRecDepth 1000000 in
theorem round27n (lp : Lp) (s : List UInt8) (at_ : Int) (from_ : Int) (behind : Int) (b : List Int) : evC T0 (orcB [fs46w, fs47w, fs48w, fs52w] [os49n, os49u, os50n, os50u, os51u, osStr]) lp b27n 0 (stOf [0, 1, 7, 8, 9] [.str s, .int .i64 at_, .ptr 0 0, .int .i64 from_, .int .i64 behind] [.boxT (some 88) [.np, .rowA 1], .row (.int .u8) b]) (roundK [0, 1, 7, 8, 9] [4, 5, 6] 0) = (r27n s at_ from_ behind b).get := by kernel_rfl
theorem loop27n : ls27n.Ok T0 (orcB [fs46w, fs47w, fs48w, fs52w] [os49n, os49u, os50n, os50u, os51u, osStr]) h27 0 0 b27n := by
  intro q'' hq'' x'' y'' r'' h
  obtain ⟨(s : List UInt8), (at_ : Int), (from_ : Int), (behind : Int), _⟩ := x''
  obtain ⟨_, (b : List Int), _⟩ := y''
  obtain ⟨hc, rfl⟩ := Tr.get_on h
  show loopF (fun st => evC T0 (orcB [fs46w, fs47w, fs48w, fs52w] [os49n, os49u, os50n, os50u, os51u, osStr]) (lpN T0 (orcB [fs46w, fs47w, fs48w, fs52w] [os49n, os49u, os50n, os50u, os51u, osStr]) h27 0 q'') b27n 0 st (roundK [0, 1, 7, 8, 9] [4, 5, 6] 0)) (stOf [0, 1, 7, 8, 9] [.str s, .int .i64 at_, .ptr 0 0, .int .i64 from_, .int .i64 behind] [.boxT (some 88) [.np, .rowA 1], .row (.int .u8) b]) = some (.ret, stOf [4, 5, 6] ([.str (tkS (takeG s at_ from_ behind (intBytes b))), .int .i64 (tkN (takeG s at_ from_ behind (intBytes b))), .int .i64 (tkE (takeG s at_ from_ behind (intBytes b)))]) ([]))
  simp only [tkC, Bool.and_eq_true] at hc
  obtain ⟨hbig, hok, hb⟩ := hc
  have hb := Nat.le_of_ble_eq_true hb
  refine loop_tr2 (fun a : Int × Int × Int × List Int => stOf [0, 1, 7, 8, 9] [.str s, .int .i64 a.1, .ptr 0 0, .int .i64 a.2.1, .int .i64 a.2.2.1] [.boxT (some 88) [.np, .rowA 1], .row (.int .u8) a.2.2.2]) (fun a => tkI s at_ from_ behind b a.1 a.2.1 a.2.2.1 a.2.2.2) (fun a => msT s a.1 a.2.1) _
    (fun a => r27n s a.1 a.2.1 a.2.2.1 a.2.2.2) (fun a x hx => (round27n _ s a.1 a.2.1 a.2.2.1 a.2.2.2).trans hx) ?_ (at_, from_, behind, b) ⟨hok, hb, rfl⟩
  clear hok hb
  rintro ⟨at_, from_, behind, b⟩ ⟨hok, hb, he⟩
  simp only at hok hb he ⊢
  rw [← he]
  unfold r27n
  have hB : s.length ≤ 1000000000000 := by simpa [bigS] using hbig
  have hc : (↑(UInt8.toNat (List.getD s (Int.toNat at_) 0)) : Int) = (szT s at_ : Int) := rfl
  have hc255 := szT_lt s at_
  have hto := toT_in s at_
  simp only [and_far (n16_in s at_).1 (n16_in s at_).2, hc]
  simp only [show n16 s at_ % 16384 = toT s at_ from rfl, IntWalk.i64_in ((szT s at_ : Nat) : Int) (by omega)]
  cases h1 : someB s at_ 1 with
  | false =>
    rw [takeG_out h1]
    exact Tr.all_t hbig (Tr.all_f rfl (Tr.all_ret (.inl rfl)))
  | true =>
    have hs1 := someB_iff.1 h1
    refine Tr.all_t hbig (Tr.all_t rfl ?_)
    by_cases h192 : 192 ≤ szT s at_
    · refine Tr.all_t (dec_true (by omega)) (Tr.all_f (dec_false (by omega)) (Tr.all_t (dec_true (by omega)) (Tr.all_t hbig ?_)))
      by_cases h3 : someB s at_ 2 = true ∧ toT s at_ < from_
      · rw [takeG_ptr h1 h192 h3.1 h3.2] at he ⊢
        refine Tr.all_t h3.1 (Tr.all_t (dec_true h3.2) (Tr.all_br (fun c1 => ?_) fun c1 => ?_))
        · simp only [decide_eq_true_eq] at c1
          rw [if_pos c1] at he
          exact Tr.all_ret (.inr (.inl ⟨(_, _, _, _), rfl, ⟨hok, hb, he⟩, msT_to hto.1 h3.2⟩))
        · simp only [decide_eq_false_iff_not] at c1
          rw [if_neg c1] at he
          exact Tr.all_ret (.inr (.inl ⟨(_, _, _, _), rfl, ⟨hok, hb, he⟩, msT_to hto.1 h3.2⟩))
      · rw [takeG_bad h1 h192 h3]
        cases h2 : someB s at_ 2 with
        | false => exact Tr.all_f rfl (Tr.all_ret (.inl rfl))
        | true => exact Tr.all_t rfl (Tr.all_f (dec_false (fun h => h3 ⟨h2, h⟩)) (Tr.all_ret (.inl rfl)))
    · by_cases h63 : 63 < szT s at_
      · rw [takeG_mid h1 h192 h63]
        exact Tr.all_t (dec_true (by omega)) (Tr.all_t (dec_true (by omega)) (Tr.all_ret (.inl rfl)))
      · refine Tr.all_f (dec_false (by omega)) (Tr.all_f (dec_false (by omega)) (Tr.all_t hbig ?_))
        cases h4 : someB s (at_ + 1) (szT s at_) with
        | false =>
          rw [takeG_long h1 (by omega) (by rw [h4]; simp)]
          exact Tr.all_f rfl (Tr.all_ret (.inl rfl))
        | true =>
          have hs4 := someB_iff.1 h4
          have hvl : (someV s (at_ + 1) (szT s at_ : Int)).length = szT s at_ := by rw [someV_len h4]; omega
          have hvb : bigS (someV s (at_ + 1) (szT s at_ : Int)) = true := by simp [bigS, hvl]; omega
          rw [hvl]
          rw [IntWalk.i64_in ((List.length b : Int) + 1) (by omega), IntWalk.i64_in _ (by omega)]
          refine Tr.all_t rfl ?_
          by_cases h5 : b.length + 1 + szT s at_ ≤ 255
          · have hnew : bytesOk (b ++ [((szT s at_ : Nat) : Int)] ++ bytesInt (foldB (someV s (at_ + 1) (szT s at_ : Int)))) = true := by
              refine bytesOk_app (bytesOk_app hok ?_) (bytesInt_ok _)
              simp [bytesOk]
              omega
            have hnl : (b ++ [((szT s at_ : Nat) : Int)] ++ bytesInt (foldB (someV s (at_ + 1) (szT s at_ : Int)))).length = b.length + 1 + szT s at_ := by
              simp [bytesInt_len, foldB_len, hvl]
              omega
            have hS2 : intBytes (b ++ [((szT s at_ : Nat) : Int)] ++ bytesInt (foldB (someV s (at_ + 1) (szT s at_ : Int)))) = intBytes b ++ s.getD at_.toNat 0 :: foldB (someV s (at_ + 1) (szT s at_ : Int)) := by
              rw [intB_app, intB_app, intB_bytes]
              have : intBytes [((szT s at_ : Nat) : Int)] = [s.getD at_.toNat 0] := by simp [intBytes, szT]
              rw [this]
              simp
            refine Tr.all_f (dec_false (by omega)) (Tr.all_t (fits_true (by omega) (by omega)) (Tr.all_t hvb (Tr.all_t (fits_true (by simp [bytesInt_len, foldB_len, hvl]; omega) (by simp [bytesInt_len, foldB_len, hvl]; omega)) ?_)))
            by_cases h0 : szT s at_ = 0
            · rw [takeG_end h1 h0 (by rw [intB_len]; omega)]
              have hv0 : someV s (at_ + 1) (szT s at_ : Int) = [] := List.length_eq_zero_iff.1 (by rw [hvl]; exact h0)
              have hg0 : s.getD at_.toNat 0 = 0 := by
                have : (s.getD at_.toNat 0).toNat = 0 := h0
                exact UInt8.toNat_inj.1 (by simpa using this)
              have hend : (bytesOk (b ++ [((szT s at_ : Nat) : Int)] ++ bytesInt (foldB (someV s (at_ + 1) (szT s at_ : Int)))) && (!List.isEmpty (b ++ [((szT s at_ : Nat) : Int)] ++ bytesInt (foldB (someV s (at_ + 1) (szT s at_ : Int)))) && Nat.ble (List.length (b ++ [((szT s at_ : Nat) : Int)] ++ bytesInt (foldB (someV s (at_ + 1) (szT s at_ : Int))))) 9223372036854775807)) = true := by
                rw [hnew, Nat.ble_eq_true_of_le (by omega)]
                simp
              refine Tr.all_f (dec_false (by omega)) (Tr.all_br (fun c1 => Tr.all_t hend (Tr.all_ret (.inl ?_))) fun c1 => Tr.all_t hend (Tr.all_ret (.inl ?_)))
              · simp only [decide_eq_true_eq] at c1
                rw [if_pos c1, hS2, hv0, hg0, h0]
                simp [foldB]
                rfl
              · simp only [decide_eq_false_iff_not] at c1
                rw [if_neg c1, hS2, hv0, hg0]
                rfl
            · have hG := takeG_on (s := s) (at_ := at_) (from_ := from_) (behind := behind) (out := intBytes b) h1 (by omega) h0 h4 (by rw [intB_len]; omega)
              rw [← hS2] at hG
              rw [hG] at he ⊢
              refine Tr.all_t (dec_true (by omega)) (Tr.all_ret ?_)
              refine .inr (.inr ⟨_, rfl, ?_⟩)
              have := loop27u q'' (Nat.zero_le _) (s, at_ + 1 + szT s at_, from_, behind, ()) ((), b ++ [((szT s at_ : Nat) : Int)] ++ bytesInt (foldB (someV s (at_ + 1) (szT s at_ : Int))), ()) (.ret, resT (takeG s (at_ + 1 + szT s at_) from_ behind (intBytes (b ++ [((szT s at_ : Nat) : Int)] ++ bytesInt (foldB (someV s (at_ + 1) (szT s at_ : Int)))))), []) (by
                show (Tr.on (tkC s _) _).get = _
                rw [show tkC s (b ++ [((szT s at_ : Nat) : Int)] ++ bytesInt (foldB (someV s (at_ + 1) (szT s at_ : Int)))) = true by simp only [tkC, hbig, hnew, Bool.true_and]; exact Nat.ble_eq_true_of_le (by omega)]
                rfl)
              exact this
          · rw [takeG_long h1 (by omega) (by rw [intB_len]; exact fun h => h5 h.2)]
            exact Tr.all_t (dec_true (by omega)) (Tr.all_ret (.inl rfl))
/-- wire.Take -/
def t27 (s : List UInt8) (at_ : Int) : Tr Res := Tr.br (tkC s []) (Tr.ret ([AV.str (tkS (takeG s at_ at_ (-1 : Int) (intBytes []))), AV.int IntKind.i64 (tkN (takeG s at_ at_ (-1 : Int) (intBytes []))), AV.int IntKind.i64 (tkE (takeG s at_ at_ (-1 : Int) (intBytes [])))], [])) Tr.no
def os27 : OSpec := { f := 27, sh := [.d .str false, .d (.int .i64) false], so := [], F := fun (s, at_, _) _ => t27 s at_ }
set_option maxRecDepth 1000000 in
theorem fn27 (s : List UInt8) (at_ : Int) : evC T0 (orcB [fs46w, fs47w, fs48w, fs52w] [os49n, os49u, os50n, os50u, os51u, osStr]) (lpOf h27 0 (lsOf [ls27n])) c27 1000000 (startSt [.str s, .int .i64 at_] [] Try.f27.ntmps) (finishK T0 false 0 Try.f27) = (t27 s at_).get := by kernel_rfl
theorem ok27 : os27.Ok Try.prog := by
  refine os_ok mixed0 tab0 (orcB_sound (all_cons okf46w (all_cons okf47w (all_cons okf48w (all_cons okf52w all_nil)))) (all_cons ok49n (all_cons ok49u (all_cons ok50n (all_cons ok50u (all_cons ok51u (all_cons okStr all_nil))))))) h27 (d := 0) (n0 := 0) (S := lsOf [ls27n]) Try.func27 (by kernel_rfl) (c := c27) (by kernel_rfl) rfl (loops_eq (xs := [(0, b27n)]) (by kernel_rfl) (all_cons (ls_here loop27n) all_nil)) (by omega) (by kernel_rfl) ?_
  intro x'' y'' q'' hq''
  obtain ⟨(s : List UInt8), (at_ : Int), _⟩ := x''
  exact (fn27 s at_).trans hq''
def fs27 : FSpec := fsT 27 [(.str, false), ((.int .i64), false)] [(.str, false), ((.int .i64), false), ((.int .i64), false)] fun (s, at_, _) => t27 s at_
theorem okf27 : fs27.Ok Try.prog := fsT_ok fun x'' r'' hr'' => ok27 x'' () r'' hr''
def fs27w : FSpec := fs27.like fun (s, at_, _) => .on (bigS s) (tkS (takeG s at_ at_ (-1) []), tkN (takeG s at_ at_ (-1) []), tkE (takeG s at_ at_ (-1) []), ())
theorem okf27w : fs27w.Ok Try.prog := by
  refine flike_ok okf27 _ ?_
  rintro ⟨(s : List UInt8), (at_ : Int), _⟩ y h
  obtain ⟨hb, rfl⟩ := Tr.get_on h
  refine convR_of (vs := resT (takeG s at_ at_ (-1) [])) rfl rfl (Tr.get_of_all ?_)
  show (t27 s at_).all _
  exact Tr.all_t (by simp only [tkC, hb]; rfl) (Tr.all_ret rfl)
end Go.Proofs.YtfepkpindchleaaE

/- layer 3: the law's example. -/
namespace Go.Proofs.YtfepkpindchleaaE
open Go Go.Proofs.YtfepkpindchleaaB
set_option linter.unusedVariables false
set_option linter.unusedSimpArgs false
/-- derricklaw03.shown -/
def t20 : Tr Res := Tr.ret ([AV.bool (tkE (takeG (intBytes (bytesInt (Prod.fst (nameP ([2, 97, 98, 0]) (intBytes (bytesInt (Prod.fst (nameP ([3, 119, 119, 119, 2, 97, 98, 0]) (intBytes []) [])))) (Prod.snd (nameP ([3, 119, 119, 119, 2, 97, 98, 0]) (intBytes []) [])))))) (8 : Int) (8 : Int) (-1 : Int) []) == (0 : Int))], [])
def os20 : OSpec := { f := 20, sh := [], so := [], F := fun _ _ => t20 }
set_option maxRecDepth 1000000 in
theorem fn20 : evC T0 (orcB [fs27w] [os16, os24w, os19, os26]) (lpOf h20 0 (lsOf [])) c20 1000000 (startSt [] [] Try.f20.ntmps) (finishK T0 false 0 Try.f20) = (t20).get := by kernel_rfl
theorem ok20 : os20.Ok Try.prog := by
  refine os_ok mixed0 tab0 (orcB_sound (all_cons okf27w all_nil) (all_cons ok16 (all_cons ok24w (all_cons ok19 (all_cons ok26 all_nil))))) h20 (d := 0) (n0 := 0) (S := lsOf []) Try.func20 (by kernel_rfl) (c := c20) (by kernel_rfl) rfl (no_loops (by kernel_rfl)) (by omega) (by kernel_rfl) ?_
  intro x'' y'' q'' hq''
  exact (fn20).trans hq''
def fs20 : FSpec := fsT 20 [] [(.bool, false)] fun _ => t20
theorem okf20 : fs20.Ok Try.prog := fsT_ok fun x'' r'' hr'' => ok20 x'' () r'' hr''
def fs20w : FSpec := fs20.like fun _ => .ret (true, ())
theorem okf20w : fs20w.Ok Try.prog := by
  refine flike_ok okf20 _ ?_
  intro x y h
  cases h
  refine convR_of (vs := [.bool true]) rfl rfl ?_
  show (t20).get = _
  have e : takeG (intBytes (bytesInt (Prod.fst (nameP ([2, 97, 98, 0]) (intBytes (bytesInt (Prod.fst (nameP ([3, 119, 119, 119, 2, 97, 98, 0]) (intBytes []) [])))) (Prod.snd (nameP ([3, 119, 119, 119, 2, 97, 98, 0]) (intBytes []) [])))))) (8 : Int) (8 : Int) (-1 : Int) [] = some ([2, 97, 98, 0], 10) := by
    rw [takeG_u, nameP_u, nameP_u]
    decide
  unfold t20
  rw [e]
  rfl
/-- derricklaw03.WireName -/
def t7 (s : List UInt8) (at_ : Int) (n : List UInt8) : Tr Res := Tr.br (decide ((↑(List.length s) : Int) > (1000 : Int))) (Tr.ret ([AV.bool true], [])) (Tr.br (decide ((↑(List.length n) : Int) > (400 : Int))) (Tr.ret ([AV.bool true], [])) (Tr.br (bigS s) (Tr.br (tkE (takeG s at_ at_ (-1 : Int) []) == (0 : Int)) (Tr.br (bigS (tkS (takeG s at_ at_ (-1 : Int) []))) (Tr.br (mayV (tkS (takeG s at_ at_ (-1 : Int) []))) (Tr.br (decide (tkN (takeG s at_ at_ (-1 : Int) []) > at_)) (Tr.br (decide (tkN (takeG s at_ at_ (-1 : Int) []) ≤ (↑(List.length s) : Int))) (Tr.br (Nat.ble (List.length n + List.length s) 9223372036854775807) (Tr.br (bigS (n ++ s)) (Tr.br (bigS n) (Tr.br (!mayV n) (Tr.ret ([AV.bool true], [])) (Tr.br (tkE (takeG (n ++ s) (0 : Int) (0 : Int) (-1 : Int) []) == (0 : Int)) (Tr.br (tkS (takeG (n ++ s) (0 : Int) (0 : Int) (-1 : Int) []) == n) (Tr.ret ([AV.bool (tkN (takeG (n ++ s) (0 : Int) (0 : Int) (-1 : Int) []) == (↑(List.length n) : Int))], [])) (Tr.ret ([AV.bool false], []))) (Tr.ret ([AV.bool false], [])))) Tr.no) Tr.no) Tr.no) (Tr.br (tkE (takeG s at_ at_ (-1 : Int) []) == (2 : Int)) (Tr.br (tkS (takeG s at_ at_ (-1 : Int) []) == []) (Tr.br (Nat.ble (List.length n + List.length s) 9223372036854775807) (Tr.br (bigS (n ++ s)) (Tr.br (tkN (takeG s at_ at_ (-1 : Int) []) == (0 : Int)) (Tr.br (bigS n) (Tr.br (!mayV n) (Tr.ret ([AV.bool true], [])) (Tr.br (tkE (takeG (n ++ s) (0 : Int) (0 : Int) (-1 : Int) []) == (0 : Int)) (Tr.br (tkS (takeG (n ++ s) (0 : Int) (0 : Int) (-1 : Int) []) == n) (Tr.ret ([AV.bool (tkN (takeG (n ++ s) (0 : Int) (0 : Int) (-1 : Int) []) == (↑(List.length n) : Int))], [])) (Tr.ret ([AV.bool false], []))) (Tr.ret ([AV.bool false], [])))) Tr.no) (Tr.ret ([AV.bool false], []))) Tr.no) Tr.no) (Tr.br (Nat.ble (List.length n + List.length s) 9223372036854775807) (Tr.br (bigS (n ++ s)) (Tr.ret ([AV.bool false], [])) Tr.no) Tr.no)) (Tr.br (Nat.ble (List.length n + List.length s) 9223372036854775807) (Tr.br (bigS (n ++ s)) (Tr.ret ([AV.bool false], [])) Tr.no) Tr.no))) (Tr.br (tkE (takeG s at_ at_ (-1 : Int) []) == (2 : Int)) (Tr.br (tkS (takeG s at_ at_ (-1 : Int) []) == []) (Tr.br (Nat.ble (List.length n + List.length s) 9223372036854775807) (Tr.br (bigS (n ++ s)) (Tr.br (tkN (takeG s at_ at_ (-1 : Int) []) == (0 : Int)) (Tr.br (bigS n) (Tr.br (!mayV n) (Tr.ret ([AV.bool true], [])) (Tr.br (tkE (takeG (n ++ s) (0 : Int) (0 : Int) (-1 : Int) []) == (0 : Int)) (Tr.br (tkS (takeG (n ++ s) (0 : Int) (0 : Int) (-1 : Int) []) == n) (Tr.ret ([AV.bool (tkN (takeG (n ++ s) (0 : Int) (0 : Int) (-1 : Int) []) == (↑(List.length n) : Int))], [])) (Tr.ret ([AV.bool false], []))) (Tr.ret ([AV.bool false], [])))) Tr.no) (Tr.ret ([AV.bool false], []))) Tr.no) Tr.no) (Tr.br (Nat.ble (List.length n + List.length s) 9223372036854775807) (Tr.br (bigS (n ++ s)) (Tr.ret ([AV.bool false], [])) Tr.no) Tr.no)) (Tr.br (Nat.ble (List.length n + List.length s) 9223372036854775807) (Tr.br (bigS (n ++ s)) (Tr.ret ([AV.bool false], [])) Tr.no) Tr.no))) (Tr.br (tkE (takeG s at_ at_ (-1 : Int) []) == (2 : Int)) (Tr.br (tkS (takeG s at_ at_ (-1 : Int) []) == []) (Tr.br (Nat.ble (List.length n + List.length s) 9223372036854775807) (Tr.br (bigS (n ++ s)) (Tr.br (tkN (takeG s at_ at_ (-1 : Int) []) == (0 : Int)) (Tr.br (bigS n) (Tr.br (!mayV n) (Tr.ret ([AV.bool true], [])) (Tr.br (tkE (takeG (n ++ s) (0 : Int) (0 : Int) (-1 : Int) []) == (0 : Int)) (Tr.br (tkS (takeG (n ++ s) (0 : Int) (0 : Int) (-1 : Int) []) == n) (Tr.ret ([AV.bool (tkN (takeG (n ++ s) (0 : Int) (0 : Int) (-1 : Int) []) == (↑(List.length n) : Int))], [])) (Tr.ret ([AV.bool false], []))) (Tr.ret ([AV.bool false], [])))) Tr.no) (Tr.ret ([AV.bool false], []))) Tr.no) Tr.no) (Tr.br (Nat.ble (List.length n + List.length s) 9223372036854775807) (Tr.br (bigS (n ++ s)) (Tr.ret ([AV.bool false], [])) Tr.no) Tr.no)) (Tr.br (Nat.ble (List.length n + List.length s) 9223372036854775807) (Tr.br (bigS (n ++ s)) (Tr.ret ([AV.bool false], [])) Tr.no) Tr.no))) Tr.no) (Tr.br (tkE (takeG s at_ at_ (-1 : Int) []) == (2 : Int)) (Tr.br (tkS (takeG s at_ at_ (-1 : Int) []) == []) (Tr.br (Nat.ble (List.length n + List.length s) 9223372036854775807) (Tr.br (bigS (n ++ s)) (Tr.br (tkN (takeG s at_ at_ (-1 : Int) []) == (0 : Int)) (Tr.br (bigS n) (Tr.br (!mayV n) (Tr.ret ([AV.bool true], [])) (Tr.br (tkE (takeG (n ++ s) (0 : Int) (0 : Int) (-1 : Int) []) == (0 : Int)) (Tr.br (tkS (takeG (n ++ s) (0 : Int) (0 : Int) (-1 : Int) []) == n) (Tr.ret ([AV.bool (tkN (takeG (n ++ s) (0 : Int) (0 : Int) (-1 : Int) []) == (↑(List.length n) : Int))], [])) (Tr.ret ([AV.bool false], []))) (Tr.ret ([AV.bool false], [])))) Tr.no) (Tr.ret ([AV.bool false], []))) Tr.no) Tr.no) (Tr.br (Nat.ble (List.length n + List.length s) 9223372036854775807) (Tr.br (bigS (n ++ s)) (Tr.ret ([AV.bool false], [])) Tr.no) Tr.no)) (Tr.br (Nat.ble (List.length n + List.length s) 9223372036854775807) (Tr.br (bigS (n ++ s)) (Tr.ret ([AV.bool false], [])) Tr.no) Tr.no))) Tr.no))
def os7 : OSpec := { f := 7, sh := [.d .str false, .d (.int .i64) false, .d .str false], so := [], F := fun (s, at_, n, _) _ => t7 s at_ n }
set_option maxRecDepth 1000000 in
theorem fn7 (s : List UInt8) (at_ : Int) (n : List UInt8) : evC T0 (orcB [fs20w, fs27w, fs29w] []) (lpOf h7 0 (lsOf [])) c7 1000000 (startSt [.str s, .int .i64 at_, .str n] [] Try.f7.ntmps) (finishK T0 false 0 Try.f7) = (t7 s at_ n).get := by kernel_rfl
theorem ok7 : os7.Ok Try.prog := by
  refine os_ok mixed0 tab0 (orcB_sound (all_cons okf20w (all_cons okf27w (all_cons okf29w all_nil))) all_nil) h7 (d := 0) (n0 := 0) (S := lsOf []) Try.func7 (by kernel_rfl) (c := c7) (by kernel_rfl) rfl (no_loops (by kernel_rfl)) (by omega) (by kernel_rfl) ?_
  intro x'' y'' q'' hq''
  obtain ⟨(s : List UInt8), (at_ : Int), (n : List UInt8), _⟩ := x''
  exact (fn7 s at_ n).trans hq''
def fs7 : FSpec := fsT 7 [(.str, false), ((.int .i64), false), (.str, false)] [(.bool, false)] fun (s, at_, n, _) => t7 s at_ n
theorem okf7 : fs7.Ok Try.prog := fsT_ok fun x'' r'' hr'' => ok7 x'' () r'' hr''
end Go.Proofs.YtfepkpindchleaaE

/- WireName. -/
namespace Go.Proofs.YtfepkpindchleaaE
open Go Go.Proofs.YtfepkpindchleaaB
set_option linter.unusedVariables false
set_option linter.unusedSimpArgs false
/-! ### Trees whose ways are known -/
theorem allT {α : Type} {P : α → Prop} {x y : Tr α} : (Tr.br true x y).all P ↔ x.all P := ⟨fun h => h.1 rfl, fun h => ⟨fun _ => h, fun e => by cases e⟩⟩
theorem allF {α : Type} {P : α → Prop} {x y : Tr α} : (Tr.br false x y).all P ↔ y.all P := ⟨fun h => h.2 rfl, fun h => ⟨(fun e => by cases e), fun _ => h⟩⟩
theorem allR {α : Type} {P : α → Prop} {a : α} : (Tr.ret a).all P ↔ P a := Iff.rfl
theorem wireName_all (s : List UInt8) (at_ : Int) (n : List UInt8) : (t7 s at_ n).all fun x => x = ([.bool true], []) := by
  unfold t7
  by_cases h1 : (s.length : Int) > 1000
  · simp only [decide_eq_true h1, allT, allR]
  by_cases h2 : (n.length : Int) > 400
  · simp only [decide_eq_false h1, decide_eq_true h2, allT, allF, allR]
  have hb : bigS s = true := by simp [bigS]; omega
  have hbn : bigS n = true := by simp [bigS]; omega
  have hbns : bigS (n ++ s) = true := by simp [bigS]; omega
  have hble : Nat.ble (List.length n + List.length s) 9223372036854775807 = true := Nat.ble_eq_true_of_le (by omega)
  have key : ∀ m next, takeG s at_ at_ (-1) [] = some (m, next) → mayV m = true ∧ bigS m = true ∧ at_ < next ∧ next ≤ s.length := fun m next h => by
    obtain ⟨a1, _, a3, _⟩ := takeG_may _ at_ at_ (-1) [] m next rfl LP_nil h
    obtain ⟨_, a4, _⟩ := may_iff.1 a1
    exact ⟨a1, by simp [bigS]; omega, a3 (by omega)⟩
  cases ho : takeG s at_ at_ (-1) [] with
  | none =>
    cases hm : mayV n with
    | false => simp [decide_eq_false h1, decide_eq_false h2, hb, hbn, hbns, hble, hm, tkE, tkS, tkN, allT, allF, allR]
    | true =>
      simp [decide_eq_false h1, decide_eq_false h2, hb, hbn, hbns, hble, hm, tkE, tkS, tkN, takeG_self (X := s) hm, allT, allF, allR]
  | some p =>
    obtain ⟨m, next⟩ := p
    obtain ⟨k1, k2, k3, k4⟩ := key m next ho
    cases hm : mayV n with
    | false => simp [decide_eq_false h1, decide_eq_false h2, hb, hbn, hbns, hble, hm, tkE, tkS, tkN, k1, k2, k3, k4, allT, allF, allR]
    | true => simp [decide_eq_false h1, decide_eq_false h2, hb, hbn, hbns, hble, hm, tkE, tkS, tkN, k1, k2, k3, k4, takeG_self (X := s) hm, allT, allF, allR]
theorem sem7 (s : List UInt8) (at_ : Int) (n : List UInt8) : SemF Try.prog 7 [.str s, .int .i64 at_, .str n] [] [.bool true] [] :=
  ok7 (s, at_, n, ()) () ([.bool true], []) (Tr.get_of_all (wireName_all s at_ n))
end Go.Proofs.YtfepkpindchleaaE

/- few; WireShort; WireSized. -/
namespace Go.Proofs.YtfepkpindchleaaE
open Go Go.Proofs.YtfepkpindchleaaB
set_option linter.unusedVariables false
set_option linter.unusedSimpArgs false
noncomputable def b21 : Code := nthLoop c21 0
def ls21 : LoopSpec := { bid := 0, sh := [.d (.list (.pair .str .bool)) false, .d (.int .i64) false], so := [], F := fun (l, i, _) _ => .on2 (decide (i = 0)) ((l.take 41).all (fun x => decide (x.1.length ≤ 400))) (.exit 0, [AV.list (.pair .str .bool) l, .dead], []) (.ret, [AV.list (.pair .str .bool) l, .bool false], []) }
def r21 (l : List (List UInt8 × Bool)) (i : Int) : Tr (St ⊕ (Ex × St)) := Tr.br (decide (i < (↑(List.length l) : Int))) (Tr.br (decide (i < (41 : Int))) (Tr.br (decide ((0 : Int) ≤ i)) (Tr.br (decide (i < (↑(List.length l) : Int))) (Tr.br (decide ((↑(List.length (Prod.fst (List.getD l (Int.toNat i) (Ty.dflt (Ty.pair Ty.str Ty.bool))))) : Int) > (400 : Int))) (Tr.ret (Sum.inr (Ex.ret, stOf [0, 2] [AV.list (Ty.pair Ty.str Ty.bool) l, AV.bool false] []))) (Tr.ret (Sum.inl (stOf [0, 3] [AV.list (Ty.pair Ty.str Ty.bool) l, AV.int IntKind.i64 (IntKind.wrap IntKind.i64 (i + (1 : Int)))] [])))) Tr.no) Tr.no) (Tr.ret (Sum.inr (Ex.exit 0, stOf [0, 2] [AV.list (Ty.pair Ty.str Ty.bool) l, AV.dead] [])))) (Tr.ret (Sum.inr (Ex.exit 0, stOf [0, 2] [AV.list (Ty.pair Ty.str Ty.bool) l, AV.dead] [])))
set_option maxRecDepth 1000000 in
theorem round21 (orc : Orc) (lp : Lp) (l : List (List UInt8 × Bool)) (i : Int) : evC T0 orc lp b21 0 (stOf [0, 3] [.list (.pair .str .bool) l, .int .i64 i] []) (roundK [0, 3] [0, 2] 0) = (r21 l i).get := by kernel_rfl
theorem wf21 (orc : Orc) (l : List (List UInt8 × Bool)) (I'' : Int → Prop) (m'' : Int → Nat) (r'' : Ex × St) (h : ∀ (i : Int), I'' i → (r21 l i).all fun x'' => x'' = .inr r'' ∨ ∃ (i' : Int), x'' = .inl (stOf [0, 3] [.list (.pair .str .bool) l, .int .i64 i'] []) ∧ I'' i' ∧ m'' i' < m'' i) (lp : Lp) (i : Int) : I'' i →
    loopF (fun st => evC T0 orc lp b21 0 st (roundK [0, 3] [0, 2] 0)) (stOf [0, 3] [.list (.pair .str .bool) l, .int .i64 i] []) = some r'' :=
  loop_tr (fun a'' : Int => stOf [0, 3] [.list (.pair .str .bool) l, .int .i64 a''] []) (fun a'' => I'' a'') (fun a'' => m'' a'') r'' (fun a'' => r21 l a'')
    (fun a'' x hx => (round21 orc lp l a'').trans hx) (fun a'' ha => Tr.all_mono (fun x'' hx => hx.imp id fun ⟨i', h1, h2, h3⟩ => ⟨(i'), h1, h2, h3⟩) (h (a'') ha)) (i)
theorem loop21 (orc : Orc) : ls21.Ok T0 orc h21 0 0 b21 := by
  intro q'' hq'' x'' y'' r'' h
  obtain ⟨(l : List (List UInt8 × Bool)), (i : Int), _⟩ := x''
  obtain ⟨hc, rfl⟩ := Tr.get_on2 h
  show loopF (fun st => evC T0 orc (lpN T0 orc h21 0 q'') b21 0 st (roundK [0, 3] [0, 2] 0)) (stOf [0, 3] [.list (.pair .str .bool) l, .int .i64 i] []) = some ((bif (l.take 41).all (fun x => decide (x.1.length ≤ 400)) then (.exit 0, [AV.list (.pair .str .bool) l, .dead], []) else (.ret, [AV.list (.pair .str .bool) l, .bool false], []) : Ex × List AV × List LObj).1, stOf [0, 2] (bif (l.take 41).all (fun x => decide (x.1.length ≤ 400)) then (.exit 0, [AV.list (.pair .str .bool) l, .dead], []) else (.ret, [AV.list (.pair .str .bool) l, .bool false], []) : Ex × List AV × List LObj).2.1 (bif (l.take 41).all (fun x => decide (x.1.length ≤ 400)) then (.exit 0, [AV.list (.pair .str .bool) l, .dead], []) else (.ret, [AV.list (.pair .str .bool) l, .bool false], []) : Ex × List AV × List LObj).2.2)
  simp only [decide_eq_true_eq] at hc
  subst hc
  refine wf21 _ l (fun i => 0 ≤ i ∧ i ≤ 41 ∧ (l.take 41).all (fun x => decide (x.1.length ≤ 400)) = ((l.drop i.toNat).take (41 - i.toNat)).all (fun x => decide (x.1.length ≤ 400))) (fun i => (41 - i).toNat) _ ?_ _ 0 ⟨by omega, by omega, by simp⟩
  rintro i ⟨h0, h1, h2⟩
  rw [h2]
  unfold r21
  by_cases hk : i.toNat < l.length
  · by_cases h41 : i < 41
    · have hg : l.getD i.toNat (Ty.dflt (Ty.pair Ty.str Ty.bool)) = l[i.toNat] := by rw [List.getD_eq_getElem?_getD, List.getElem?_eq_getElem hk]; rfl
      rw [List.drop_eq_getElem_cons hk, show 41 - i.toNat = (40 - i.toNat) + 1 by omega, List.take_succ_cons, List.all_cons, hg]
      refine Tr.all_t (dec_true (by omega)) (Tr.all_t (dec_true (by omega)) (Tr.all_t (dec_true h0) (Tr.all_t (dec_true (by omega)) (Tr.all_br (fun c1 => Tr.all_ret (.inl ?_)) fun c1 => Tr.all_ret (.inr ⟨_, rfl, ?_, ?_⟩)))))
      · simp only [decide_eq_true_eq] at c1
        rw [decide_eq_false (by omega), Bool.false_and]
        rfl
      · rw [IntWalk.i64_in _ (by omega)]
        simp only [decide_eq_false_iff_not] at c1
        refine ⟨by omega, by omega, ?_⟩
        rw [decide_eq_true (by omega), Bool.true_and, show (i + 1).toNat = i.toNat + 1 by omega, show 41 - (i.toNat + 1) = 40 - i.toNat by omega]
      · rw [IntWalk.i64_in _ (by omega)]
        omega
    · refine Tr.all_t (dec_true (by omega)) (Tr.all_f (dec_false h41) (Tr.all_ret (.inl ?_)))
      rw [show 41 - i.toNat = 0 by omega]
      simp
  · refine Tr.all_f (dec_false (by omega)) (Tr.all_ret (.inl ?_))
    rw [List.drop_eq_nil_of_le (by omega)]
    simp
/-- derricklaw03.few -/
def t21 (l : List (List UInt8 × Bool)) : Tr Res := Tr.br (List.all (List.take 41 l) fun x ↦ decide (List.length (Prod.fst x) ≤ 400)) (Tr.ret ([AV.bool (decide ((↑(List.length l) : Int) ≤ (40 : Int)))], [])) (Tr.ret ([AV.bool false], []))
def os21 : OSpec := { f := 21, sh := [.d (.list (.pair .str .bool)) false], so := [], F := fun (l, _) _ => t21 l }
set_option maxRecDepth 1000000 in
theorem fn21 (l : List (List UInt8 × Bool)) : evC T0 (orcB [] []) (lpOf h21 0 (lsOf [ls21])) c21 1000000 (startSt [.list (.pair .str .bool) l] [] Try.f21.ntmps) (finishK T0 false 0 Try.f21) = (t21 l).get := by kernel_rfl
theorem ok21 : os21.Ok Try.prog := by
  refine os_ok mixed0 tab0 (orcB_sound all_nil all_nil) h21 (d := 0) (n0 := 0) (S := lsOf [ls21]) Try.func21 (by kernel_rfl) (c := c21) (by kernel_rfl) rfl (loops_eq (xs := [(0, b21)]) (by kernel_rfl) (all_cons (ls_here (loop21 _)) all_nil)) (by omega) (by kernel_rfl) ?_
  intro x'' y'' q'' hq''
  obtain ⟨(l : List (List UInt8 × Bool)), _⟩ := x''
  exact (fn21 l).trans hq''
def fs21 : FSpec := fsT 21 [((.list (.pair .str .bool)), false)] [(.bool, false)] fun (l, _) => t21 l
theorem okf21 : fs21.Ok Try.prog := fsT_ok fun x'' r'' hr'' => ok21 x'' () r'' hr''
def fs21w : FSpec := fs21.like fun (l, _) => .ret (fewB l, ())
theorem okf21w : fs21w.Ok Try.prog := by
  refine flike_ok okf21 _ ?_
  rintro ⟨(l : List (List UInt8 × Bool)), _⟩ y h
  cases h
  refine convR_of (vs := [.bool (fewB l)]) rfl rfl (Tr.get_of_all ?_)
  show (t21 l).all _
  unfold t21 fewB
  refine Tr.all_br (fun c1 => Tr.all_ret ?_) fun c1 => Tr.all_ret ?_
  · rw [c1, Bool.true_and]
    congr 3
    rw [Bool.eq_iff_iff]
    simp
    omega
  · rw [c1]
    rfl
def ls24q : LoopSpec := { bid := 0, sh := [], so := [], F := fun _ _ => .no }
theorem loop24q (orc : Orc) : ls24q.Ok T0 orc h24 0 0 b24 := by
  intro q'' hq'' x'' y'' r'' h
  cases h
/-- (*wire.Pack).Name -/
def t24z (n : List UInt8) : Tr Res := Tr.ret ([AV.int IntKind.i64 (1 : Int)], [])
def os24z : OSpec := { f := 24, sh := [.np, .d .str false], so := [], F := fun (n, _) _ => t24z n }
set_option maxRecDepth 1000000 in
theorem fn24z (n : List UInt8) : evC T0 (orcB [fs42w, fs29w] [os22]) (lpOf h24 0 (lsOf [ls24q])) c24 1000000 (startSt [.np, .str n] [] Try.f24.ntmps) (finishK T0 false 0 Try.f24) = (t24z n).get := by kernel_rfl
theorem ok24z : os24z.Ok Try.prog := by
  refine os_ok mixed0 tab0 (orcB_sound (all_cons okf42w (all_cons okf29w all_nil)) (all_cons ok22 all_nil)) h24 (d := 0) (n0 := 0) (S := lsOf [ls24q]) Try.func24 (by kernel_rfl) (c := c24) (by kernel_rfl) rfl (loops_eq (xs := [(0, b24)]) (by kernel_rfl) (all_cons (ls_here (loop24q _)) all_nil)) (by omega) (by kernel_rfl) ?_
  intro x'' y'' q'' hq''
  obtain ⟨(n : List UInt8), _⟩ := x''
  exact (fn24z n).trans hq''
-- derricklaw03.WireShort: loop 0 keeps [0, 1, 5, 6, 7], [1, 4, 5, 6]
noncomputable def b9 : Code := nthLoop c9 0
def ls9 : LoopSpec := { bid := 0, sh := [.d (.list (.pair .str .bool)) false, .d .str false, .d .bool false, .ptr 0 0, .d (.int .i64) false], so := [.box [.row 1, .mp 2], .row (.int .u8), .map .str (.int .i64)], F := fun (l, n, up, i, _) (_, b, m, _) => .on (fewB l && (decide (i = 0) && p0C b m)) (.exit 0, [.str n, .dead, .bool up, .ptr 0 0], [.box [.rowA 1, .mp 2], .row (.int .u8) (bytesInt (l.foldl stN ([], [])).1), .mpo .str (.int .i64) (l.foldl stN ([], [])).2]) }
def r9 (l : List (List UInt8 × Bool)) (n : List UInt8) (up : Bool) (i : Int) (b : List Int) (m : List (List UInt8 × Int)) : Tr (St ⊕ (Ex × St)) := Tr.br (decide (i < (↑(List.length l) : Int))) (Tr.br (decide ((0 : Int) ≤ i)) (Tr.br (decide (i < (↑(List.length l) : Int))) (Tr.br (pkC b m && Nat.ble (List.length (Prod.fst (List.getD l (Int.toNat i) (Ty.dflt (Ty.pair Ty.str Ty.bool))))) 100000000000) (Tr.br (mayV (Prod.fst (List.getD l (Int.toNat i) (Ty.dflt (Ty.pair Ty.str Ty.bool))))) (Tr.br (decide ((0 : Int) ≤ i)) (Tr.br (decide (i < (↑(List.length l) : Int))) (Tr.br (decide ((↑(List.length (bytesInt (Prod.fst (nameP (Prod.fst (List.getD l (Int.toNat i) (Ty.dflt (Ty.pair Ty.str Ty.bool)))) (intBytes b) m)))) : Int) > IntKind.wrap IntKind.i64 ((↑(List.length b) : Int) + (↑(List.length (Prod.fst (List.getD l (Int.toNat i) (Ty.dflt (Ty.pair Ty.str Ty.bool))))) : Int)))) (Tr.ret (Sum.inr (Ex.ret, stOf [1, 4, 5, 6] [AV.str n, AV.bool false, AV.bool up, AV.ptr 0 0] [LObj.boxT none [AV.rowA 1, AV.mp 2], LObj.row (Ty.int IntKind.u8) (bytesInt (Prod.fst (nameP (Prod.fst (List.getD l (Int.toNat i) (Ty.dflt (Ty.pair Ty.str Ty.bool)))) (intBytes b) m))), LObj.mpo Ty.str (Ty.int IntKind.i64) (Prod.snd (nameP (Prod.fst (List.getD l (Int.toNat i) (Ty.dflt (Ty.pair Ty.str Ty.bool)))) (intBytes b) m))]))) (Tr.ret (Sum.inl (stOf [0, 1, 5, 6, 7] [AV.list (Ty.pair Ty.str Ty.bool) l, AV.str n, AV.bool up, AV.ptr 0 0, AV.int IntKind.i64 (IntKind.wrap IntKind.i64 (i + (1 : Int)))] [LObj.boxT none [AV.rowA 1, AV.mp 2], LObj.row (Ty.int IntKind.u8) (bytesInt (Prod.fst (nameP (Prod.fst (List.getD l (Int.toNat i) (Ty.dflt (Ty.pair Ty.str Ty.bool)))) (intBytes b) m))), LObj.mpo Ty.str (Ty.int IntKind.i64) (Prod.snd (nameP (Prod.fst (List.getD l (Int.toNat i) (Ty.dflt (Ty.pair Ty.str Ty.bool)))) (intBytes b) m))])))) Tr.no) Tr.no) (Tr.br ((↑(List.length b) : Int) != (↑(List.length b) : Int)) (Tr.ret (Sum.inr (Ex.ret, stOf [1, 4, 5, 6] [AV.str n, AV.bool false, AV.bool up, AV.ptr 0 0] [LObj.boxT none [AV.rowA 1, AV.mp 2], LObj.row (Ty.int IntKind.u8) b, LObj.mpo Ty.str (Ty.int IntKind.i64) m]))) (Tr.ret (Sum.inl (stOf [0, 1, 5, 6, 7] [AV.list (Ty.pair Ty.str Ty.bool) l, AV.str n, AV.bool up, AV.ptr 0 0, AV.int IntKind.i64 (IntKind.wrap IntKind.i64 (i + (1 : Int)))] [LObj.boxT none [AV.rowA 1, AV.mp 2], LObj.row (Ty.int IntKind.u8) b, LObj.mpo Ty.str (Ty.int IntKind.i64) m]))))) Tr.no) Tr.no) Tr.no) (Tr.ret (Sum.inr (Ex.exit 0, stOf [1, 4, 5, 6] [AV.str n, AV.dead, AV.bool up, AV.ptr 0 0] [LObj.boxT none [AV.rowA 1, AV.mp 2], LObj.row (Ty.int IntKind.u8) b, LObj.mpo Ty.str (Ty.int IntKind.i64) m])))
set_option maxRecDepth 1000000 in
theorem round9 (lp : Lp) (l : List (List UInt8 × Bool)) (n : List UInt8) (up : Bool) (i : Int) (b : List Int) (m : List (List UInt8 × Int)) : evC T0 (orcB [fs20w, fs21w, fs29w] [os16, os24w, os24z, os26, os26z, os22z, os19z, os30z, os31z]) lp b9 0 (stOf [0, 1, 5, 6, 7] [.list (.pair .str .bool) l, .str n, .bool up, .ptr 0 0, .int .i64 i] [.box [.rowA 1, .mp 2], .row (.int .u8) b, .mpo .str (.int .i64) m]) (roundK [0, 1, 5, 6, 7] [1, 4, 5, 6] 0) = (r9 l n up i b m).get := by kernel_rfl
theorem wf9 (l : List (List UInt8 × Bool)) (n : List UInt8) (up : Bool) (I'' : Int → List Int → List (List UInt8 × Int) → Prop) (m'' : Int → List Int → List (List UInt8 × Int) → Nat) (r'' : Ex × St) (h : ∀ (i : Int) (b : List Int) (m : List (List UInt8 × Int)), I'' i b m → (r9 l n up i b m).all fun x'' => x'' = .inr r'' ∨ ∃ (i' : Int) (b' : List Int) (m' : List (List UInt8 × Int)), x'' = .inl (stOf [0, 1, 5, 6, 7] [.list (.pair .str .bool) l, .str n, .bool up, .ptr 0 0, .int .i64 i'] [.box [.rowA 1, .mp 2], .row (.int .u8) b', .mpo .str (.int .i64) m']) ∧ I'' i' b' m' ∧ m'' i' b' m' < m'' i b m) (lp : Lp) (i : Int) (b : List Int) (m : List (List UInt8 × Int)) : I'' i b m →
    loopF (fun st => evC T0 (orcB [fs20w, fs21w, fs29w] [os16, os24w, os24z, os26, os26z, os22z, os19z, os30z, os31z]) lp b9 0 st (roundK [0, 1, 5, 6, 7] [1, 4, 5, 6] 0)) (stOf [0, 1, 5, 6, 7] [.list (.pair .str .bool) l, .str n, .bool up, .ptr 0 0, .int .i64 i] [.box [.rowA 1, .mp 2], .row (.int .u8) b, .mpo .str (.int .i64) m]) = some r'' :=
  loop_tr (fun a'' : Int × List Int × List (List UInt8 × Int) => stOf [0, 1, 5, 6, 7] [.list (.pair .str .bool) l, .str n, .bool up, .ptr 0 0, .int .i64 a''.1] [.box [.rowA 1, .mp 2], .row (.int .u8) a''.2.1, .mpo .str (.int .i64) a''.2.2]) (fun a'' => I'' a''.1 a''.2.1 a''.2.2) (fun a'' => m'' a''.1 a''.2.1 a''.2.2) r'' (fun a'' => r9 l n up a''.1 a''.2.1 a''.2.2)
    (fun a'' x hx => (round9 lp l n up a''.1 a''.2.1 a''.2.2).trans hx) (fun a'' ha => Tr.all_mono (fun x'' hx => hx.imp id fun ⟨i', b', m', h1, h2, h3⟩ => ⟨(i', b', m'), h1, h2, h3⟩) (h (a''.1) (a''.2.1) (a''.2.2) ha)) (i, b, m)
def shI (l : Parts) (i : Int) (b : List Int) (m : Known) : Prop := 0 ≤ i ∧ i ≤ l.length ∧ ∃ p : PKt, b = bytesInt p.1 ∧ m = p.2 ∧ GoodP i.toNat p ∧ (l.drop i.toNat).foldl stN p = l.foldl stN ([], [])
theorem loop9 : ls9.Ok T0 (orcB [fs20w, fs21w, fs29w] [os16, os24w, os24z, os26, os26z, os22z, os19z, os30z, os31z]) h9 0 0 b9 := by
  intro q'' hq'' x'' y'' r'' h
  obtain ⟨(l : List (List UInt8 × Bool)), (n : List UInt8), (up : Bool), (i : Int), _⟩ := x''
  obtain ⟨_, (b : List Int), (m : List (List UInt8 × Int)), _⟩ := y''
  obtain ⟨hc, rfl⟩ := Tr.get_on h
  show loopF (fun st => evC T0 (orcB [fs20w, fs21w, fs29w] [os16, os24w, os24z, os26, os26z, os22z, os19z, os30z, os31z]) (lpN T0 (orcB [fs20w, fs21w, fs29w] [os16, os24w, os24z, os26, os26z, os22z, os19z, os30z, os31z]) h9 0 q'') b9 0 st (roundK [0, 1, 5, 6, 7] [1, 4, 5, 6] 0)) (stOf [0, 1, 5, 6, 7] [.list (.pair .str .bool) l, .str n, .bool up, .ptr 0 0, .int .i64 i] [.box [.rowA 1, .mp 2], .row (.int .u8) b, .mpo .str (.int .i64) m]) = some (.exit 0, stOf [1, 4, 5, 6] ([.str n, .dead, .bool up, .ptr 0 0]) ([.box [.rowA 1, .mp 2], .row (.int .u8) (bytesInt (l.foldl stN ([], [])).1), .mpo .str (.int .i64) (l.foldl stN ([], [])).2]))
  simp only [p0C, Bool.and_eq_true, decide_eq_true_eq, List.isEmpty_iff] at hc
  obtain ⟨hf, rfl, rfl, rfl⟩ := hc
  obtain ⟨hl, hx⟩ := fewB_iff.1 hf
  refine wf9 l n up (shI l) (fun i _ _ => (l.length - i).toNat) _ ?_ _ 0 [] [] ⟨by omega, by omega, ([], []), rfl, rfl, good_nil, by simp⟩
  rintro i b m ⟨h0, h1, p, rfl, rfl, hg, hF⟩
  rw [← hF]
  unfold r9
  by_cases hi : i < l.length
  · obtain ⟨d1, d2⟩ := drop_getD (Ty.dflt (Ty.pair Ty.str Ty.bool)) h0 hi
    generalize List.getD l (Int.toNat i) (Ty.dflt (Ty.pair Ty.str Ty.bool)) = x at d1 d2
    have hxl := hx x d2
    rw [d1, List.foldl_cons] at hF
    obtain ⟨g1, g2, _⟩ := stN_good hg hxl
    have g1 : GoodP (i + 1).toNat (stN p x) := by rw [show (i + 1).toNat = i.toNat + 1 by omega]; exact g1
    have hpk := pkC_good hg (by omega)
    have hp := hg.2
    rw [intB_bytes]
    refine Tr.all_t (dec_true hi) (Tr.all_t (dec_true h0) (Tr.all_t (dec_true hi) (Tr.all_t (by rw [hpk, Nat.ble_eq_true_of_le (by omega)]; rfl) (Tr.all_br (fun c1 => Tr.all_t (dec_true h0) (Tr.all_t (dec_true hi) (Tr.all_f ?_ (Tr.all_ret (.inr ?_))))) fun c1 => Tr.all_f (by simp) (Tr.all_ret (.inr ?_))))))
    · unfold stN at g2
      rw [c1, cond_true] at g2
      rw [bytesInt_len, bytesInt_len, IntWalk.i64_in _ (by omega)]
      exact dec_false (by omega)
    · rw [IntWalk.i64_in _ (by omega)]
      have e : stN p x = nameP x.1 p.1 p.2 := by unfold stN; rw [c1]; rfl
      rw [← e]
      exact ⟨_, _, _, rfl, ⟨by omega, by omega, _, rfl, rfl, g1, hF⟩, by omega⟩
    · rw [IntWalk.i64_in _ (by omega)]
      have e : stN p x = p := by unfold stN; rw [c1]; rfl
      rw [e] at hF g1
      exact ⟨_, _, _, rfl, ⟨by omega, by omega, _, rfl, rfl, g1, hF⟩, by omega⟩
  · refine Tr.all_f (dec_false hi) (Tr.all_ret (.inl ?_))
    rw [List.drop_eq_nil_of_le (by omega)]
    rfl
/-- derricklaw03.WireShort -/
def t9 (l : List (List UInt8 × Bool)) (n : List UInt8) : Tr Res := Tr.br (!fewB l) (Tr.ret ([AV.bool true], [])) (Tr.br (bigS n) (Tr.br (!mayV n) (Tr.ret ([AV.bool true], [])) (Tr.br (fewB l && (decide ((0 : Int) = (0 : Ty.den (Ty.int IntKind.i64))) && p0C [] [])) (Tr.br (pkC (bytesInt (Prod.fst (List.foldl stN ([], []) l))) (Prod.snd (List.foldl stN ([], []) l)) && Nat.ble (List.length n) 100000000000) (Tr.br (mayV n) (Tr.br (pkC (bytesInt (Prod.fst (nameP n (intBytes (bytesInt (Prod.fst (List.foldl stN ([], []) l)))) (Prod.snd (List.foldl stN ([], []) l))))) (Prod.snd (nameP n (intBytes (bytesInt (Prod.fst (List.foldl stN ([], []) l)))) (Prod.snd (List.foldl stN ([], []) l)))) && Nat.ble (List.length n) 100000000000) (Tr.br (mayV n) (Tr.br (n == [0]) (Tr.br ((↑(List.length (bytesInt (Prod.fst (nameP n (intBytes (bytesInt (Prod.fst (nameP n (intBytes (bytesInt (Prod.fst (List.foldl stN ([], []) l)))) (Prod.snd (List.foldl stN ([], []) l)))))) (Prod.snd (nameP n (intBytes (bytesInt (Prod.fst (List.foldl stN ([], []) l)))) (Prod.snd (List.foldl stN ([], []) l)))))))) : Int) == IntKind.wrap IntKind.i64 ((↑(List.length (bytesInt (Prod.fst (nameP n (intBytes (bytesInt (Prod.fst (List.foldl stN ([], []) l)))) (Prod.snd (List.foldl stN ([], []) l)))))) : Int) + (1 : Int))) (Tr.ret ([AV.bool ((1 : Int) == (1 : Int))], [])) (Tr.ret ([AV.bool false], []))) (Tr.br ((↑(List.length (bytesInt (Prod.fst (nameP n (intBytes (bytesInt (Prod.fst (nameP n (intBytes (bytesInt (Prod.fst (List.foldl stN ([], []) l)))) (Prod.snd (List.foldl stN ([], []) l)))))) (Prod.snd (nameP n (intBytes (bytesInt (Prod.fst (List.foldl stN ([], []) l)))) (Prod.snd (List.foldl stN ([], []) l)))))))) : Int) == IntKind.wrap IntKind.i64 ((↑(List.length (bytesInt (Prod.fst (nameP n (intBytes (bytesInt (Prod.fst (List.foldl stN ([], []) l)))) (Prod.snd (List.foldl stN ([], []) l)))))) : Int) + (2 : Int))) (Tr.ret ([AV.bool ((1 : Int) == (1 : Int))], [])) (Tr.ret ([AV.bool false], [])))) (Tr.br (n == [0]) (Tr.br ((↑(List.length (bytesInt (Prod.fst (nameP n (intBytes (bytesInt (Prod.fst (List.foldl stN ([], []) l)))) (Prod.snd (List.foldl stN ([], []) l)))))) : Int) == IntKind.wrap IntKind.i64 ((↑(List.length (bytesInt (Prod.fst (nameP n (intBytes (bytesInt (Prod.fst (List.foldl stN ([], []) l)))) (Prod.snd (List.foldl stN ([], []) l)))))) : Int) + (1 : Int))) (Tr.ret ([AV.bool ((1 : Int) == (1 : Int))], [])) (Tr.ret ([AV.bool false], []))) (Tr.br ((↑(List.length (bytesInt (Prod.fst (nameP n (intBytes (bytesInt (Prod.fst (List.foldl stN ([], []) l)))) (Prod.snd (List.foldl stN ([], []) l)))))) : Int) == IntKind.wrap IntKind.i64 ((↑(List.length (bytesInt (Prod.fst (nameP n (intBytes (bytesInt (Prod.fst (List.foldl stN ([], []) l)))) (Prod.snd (List.foldl stN ([], []) l)))))) : Int) + (2 : Int))) (Tr.ret ([AV.bool ((1 : Int) == (1 : Int))], [])) (Tr.ret ([AV.bool false], []))))) Tr.no) (Tr.br (pkC (bytesInt (Prod.fst (List.foldl stN ([], []) l))) (Prod.snd (List.foldl stN ([], []) l)) && Nat.ble (List.length n) 100000000000) (Tr.br (mayV n) (Tr.br (n == [0]) (Tr.br ((↑(List.length (bytesInt (Prod.fst (nameP n (intBytes (bytesInt (Prod.fst (List.foldl stN ([], []) l)))) (Prod.snd (List.foldl stN ([], []) l)))))) : Int) == IntKind.wrap IntKind.i64 ((↑(List.length (bytesInt (Prod.fst (List.foldl stN ([], []) l)))) : Int) + (1 : Int))) (Tr.ret ([AV.bool ((1 : Int) == (1 : Int))], [])) (Tr.ret ([AV.bool false], []))) (Tr.br ((↑(List.length (bytesInt (Prod.fst (nameP n (intBytes (bytesInt (Prod.fst (List.foldl stN ([], []) l)))) (Prod.snd (List.foldl stN ([], []) l)))))) : Int) == IntKind.wrap IntKind.i64 ((↑(List.length (bytesInt (Prod.fst (List.foldl stN ([], []) l)))) : Int) + (2 : Int))) (Tr.ret ([AV.bool ((1 : Int) == (1 : Int))], [])) (Tr.ret ([AV.bool false], [])))) (Tr.br (n == [0]) (Tr.br ((↑(List.length (bytesInt (Prod.fst (List.foldl stN ([], []) l)))) : Int) == IntKind.wrap IntKind.i64 ((↑(List.length (bytesInt (Prod.fst (List.foldl stN ([], []) l)))) : Int) + (1 : Int))) (Tr.ret ([AV.bool ((1 : Int) == (1 : Int))], [])) (Tr.ret ([AV.bool false], []))) (Tr.br ((↑(List.length (bytesInt (Prod.fst (List.foldl stN ([], []) l)))) : Int) == IntKind.wrap IntKind.i64 ((↑(List.length (bytesInt (Prod.fst (List.foldl stN ([], []) l)))) : Int) + (2 : Int))) (Tr.ret ([AV.bool ((1 : Int) == (1 : Int))], [])) (Tr.ret ([AV.bool false], []))))) Tr.no)) Tr.no) Tr.no)) Tr.no)
def os9 : OSpec := { f := 9, sh := [.d (.list (.pair .str .bool)) false, .d .str false], so := [], F := fun (l, n, _) _ => t9 l n }
set_option maxRecDepth 1000000 in
theorem fn9 (l : List (List UInt8 × Bool)) (n : List UInt8) : evC T0 (orcB [fs20w, fs21w, fs29w] [os16, os24w, os24z, os26, os26z, os22z, os19z, os30z, os31z]) (lpOf h9 0 (lsOf [ls9])) c9 1000000 (startSt [.list (.pair .str .bool) l, .str n] [] Try.f9.ntmps) (finishK T0 false 0 Try.f9) = (t9 l n).get := by kernel_rfl
theorem ok9 : os9.Ok Try.prog := by
  refine os_ok mixed0 tab0 (orcB_sound (all_cons okf20w (all_cons okf21w (all_cons okf29w all_nil))) (all_cons ok16 (all_cons ok24w (all_cons ok24z (all_cons ok26 (all_cons ok26z (all_cons ok22z (all_cons ok19z (all_cons ok30z (all_cons ok31z all_nil)))))))))) h9 (d := 0) (n0 := 0) (S := lsOf [ls9]) Try.func9 (by kernel_rfl) (c := c9) (by kernel_rfl) rfl (loops_eq (xs := [(0, b9)]) (by kernel_rfl) (all_cons (ls_here loop9) all_nil)) (by omega) (by kernel_rfl) ?_
  intro x'' y'' q'' hq''
  obtain ⟨(l : List (List UInt8 × Bool)), (n : List UInt8), _⟩ := x''
  exact (fn9 l n).trans hq''
def fs9 : FSpec := fsT 9 [((.list (.pair .str .bool)), false), (.str, false)] [(.bool, false)] fun (l, n, _) => t9 l n
theorem okf9 : fs9.Ok Try.prog := fsT_ok fun x'' r'' hr'' => ok9 x'' () r'' hr''
end Go.Proofs.YtfepkpindchleaaE

/- WireShort: the law. -/
namespace Go.Proofs.YtfepkpindchleaaE
open Go Go.Proofs.YtfepkpindchleaaB
set_option linter.unusedVariables false
set_option linter.unusedSimpArgs false
theorem wireShort_all (l : Parts) (n : List UInt8) (hb : bigS n = true) : (t9 l n).all fun x => x = ([.bool true], []) := by
  unfold t9
  cases hf : fewB l with
  | false => exact Tr.all_t rfl (Tr.all_ret rfl)
  | true =>
    obtain ⟨hl, hx⟩ := fewB_iff.1 hf
    refine Tr.all_f rfl (Tr.all_t hb ?_)
    cases hm : mayV n with
    | false => exact Tr.all_t rfl (Tr.all_ret rfl)
    | true =>
      have hg : GoodP l.length (l.foldl stN ([], [])) := by
        have := fold_good (st := stN) (fun k p x h hx => (stN_good h hx).1) l 0 ([], []) good_nil hx
        rwa [Nat.zero_add] at this
      generalize l.foldl stN ([], []) = p at hg
      have hn := (may_iff.1 hm).2.1
      have g1 : GoodP (l.length + 1) (nameP n p.1 p.2) := by
        have := (stN_good (x := (n, false)) hg (by show n.length ≤ 400; omega)).1
        unfold stN at this
        rw [show mayV (n, false).1 = true from hm, cond_true] at this
        exact this
      have g2 : GoodP (l.length + 2) (nameP n (nameP n p.1 p.2).1 (nameP n p.1 p.2).2) := by
        have := (stN_good (x := (n, false)) g1 (by show n.length ≤ 400; omega)).1
        unfold stN at this
        rw [show mayV (n, false).1 = true from hm, cond_true] at this
        exact this
      have hp := hg.2
      have hp1 := g1.2
      have ht := nameP_twice (n := n) (S := p.1) (L := p.2) hm (by omega)
      have hw1 := IntWalk.i64_in (((nameP n p.1 p.2).1.length : Int) + 1) (by omega)
      have hw2 := IntWalk.i64_in (((nameP n p.1 p.2).1.length : Int) + 2) (by omega)
      have hbl : Nat.ble n.length 100000000000 = true := Nat.ble_eq_true_of_le (by omega)
      by_cases h0 : n = [0]
      · rw [if_pos h0] at ht
        have hz : (n == [0]) = true := beq_iff_eq.2 h0
        simp [hm, hf, p0C, intB_bytes, pkC_good hg (by omega), pkC_good g1 (by omega), hbl, allT, allF, allR, bytesInt_len, hw1, ht, hz]
      · rw [if_neg h0] at ht
        have hz : (n == [0]) = false := beq_eq_false_iff_ne.2 h0
        simp [hm, hf, p0C, intB_bytes, pkC_good hg (by omega), pkC_good g1 (by omega), hbl, allT, allF, allR, bytesInt_len, hw2, ht, hz]
theorem bulk_big {n : List UInt8} (h : bulkT .str n ≤ 1048576) : bigS n = true := by
  have : List.length n + 1 ≤ 1048576 := h
  simp [bigS]
  omega
theorem sem9 (l : Parts) (n : List UInt8) (hbk : bulkT .str n ≤ 1048576) : SemF Try.prog 9 [.list (.pair .str .bool) l, .str n] [] [.bool true] [] :=
  ok9 (l, n, ()) () ([.bool true], []) (Tr.get_of_all (wireShort_all l n (bulk_big hbk)))
end Go.Proofs.YtfepkpindchleaaE

/- Mark and Close: plain words. WireSized. -/
namespace Go.Proofs.YtfepkpindchleaaE
open Go Go.Proofs.YtfepkpindchleaaB
set_option linter.unusedVariables false
set_option linter.unusedSimpArgs false
theorem wrapU16 (n : Int) : IntKind.wrap .u16 n = n % 65536 := IntKind.wrap_u16 n
/-- Two bytes ahead of a place say how many are behind it. -/
def closeB (b : List Int) (a : Int) : List Int := b.take (a - 2).toNat ++ bytesInt (put16 (((b.length : Int) - a) % 65536)) ++ b.drop a.toNat
def os30w : OSpec := os30.like fun _ (_, b, l, _) => .on (Nat.ble b.length 100000000000) ([.int .i64 ((b.length : Int) + 2)], pkO (b ++ [0, 0]) l)
theorem ok30w : os30w.Ok Try.prog := by
  refine like_ok ok30 _ ?_
  rintro _ ⟨_, (b : List Int), (l : Known), _⟩ r h
  obtain ⟨hb, rfl⟩ := Tr.get_on h
  have hb := Nat.le_of_ble_eq_true hb
  refine Tr.get_of_all ?_
  show (t30 b l).all _
  have e : bytesInt (put16 0) = [0, 0] := by decide
  unfold t30
  rw [e]
  refine Tr.all_t (fits_true (by simp [put16_len]; omega) (by simp [put16_len]; omega)) (Tr.all_ret ?_)
  simp
def os31w : OSpec := os31.like fun (a, _) (_, b, l, _) => .br (Nat.ble b.length 100000000000) (.br (decide (2 ≤ a) && decide (a ≤ (b.length : Int))) (.ret ([.int .i64 0], pkO (closeB b a) l)) (.ret ([.int .i64 1], pkO b l))) .no
theorem ok31w : os31w.Ok Try.prog := by
  refine like_ok ok31 _ ?_
  rintro ⟨(a : Int), _⟩ ⟨_, (b : List Int), (l : Known), _⟩ r h
  simp only [Tr.get] at h
  cases hb : Nat.ble b.length 100000000000 with
  | false => rw [hb] at h; cases h
  | true =>
    rw [hb, cond_true] at h
    have hb := Nat.le_of_ble_eq_true hb
    refine Tr.get_of_all ?_
    show (t31 a b l).all _
    unfold t31
    by_cases h2 : 2 ≤ a
    · by_cases h3 : a ≤ (b.length : Int)
      · rw [dec_true h2, dec_true h3] at h
        cases h
        have hw := wrapU16 ((b.length : Int) - a)
        rw [IntWalk.i64_in (a - 2) (by omega), IntWalk.i64_in ((b.length : Int) - a) (by omega), hw]
        refine Tr.all_f (dec_false (by omega)) (Tr.all_f (dec_false (by omega)) (Tr.all_t (by rw [dec_true (by omega), dec_true (by omega)]; rfl) (Tr.all_t (by rw [dec_true (by omega), dec_true (by omega)]; rfl) (Tr.all_t ?_ (Tr.all_ret ?_)))))
        · simp [n16C]; omega
        · unfold closeB
          rw [show a.toNat - (a - 2).toNat = 2 by omega, put16_len, show min 2 2 = 2 from rfl, show (a - 2).toNat + 2 = a.toNat by omega, List.take_of_length_le (l := bytesInt (put16 _)) (by rw [bytesInt_len, put16_len]; exact Nat.le_refl _)]
      · rw [dec_true h2, dec_false h3] at h
        cases h
        exact Tr.all_f (dec_false (by omega)) (Tr.all_t (dec_true (by omega)) (Tr.all_ret rfl))
    · rw [dec_false h2] at h
      cases h
      exact Tr.all_t (dec_true (by omega)) (Tr.all_ret rfl)
/-- derricklaw03.WireSized -/
def t10 (ahead : List UInt8) (n : List UInt8) (odd : Int) : Tr Res := Tr.br (decide ((↑(List.length ahead) : Int) > (1000 : Int))) (Tr.ret ([AV.bool true], [])) (Tr.br (bigS n) (Tr.br (!mayV n) (Tr.ret ([AV.bool true], [])) (Tr.br (fits (0 + List.length (bytesInt ahead)) 1) (Tr.br (Nat.ble (List.length ([] ++ bytesInt ahead)) 100000000000) (Tr.br (pkC ([] ++ bytesInt ahead ++ [(0 : Ty.den (Ty.int IntKind.u8)), (0 : Ty.den (Ty.int IntKind.u8))]) [] && Nat.ble (List.length n) 100000000000) (Tr.br (mayV n) (Tr.br (Nat.ble (List.length (bytesInt (Prod.fst (nameP n (intBytes ([] ++ bytesInt ahead ++ [(0 : Ty.den (Ty.int IntKind.u8)), (0 : Ty.den (Ty.int IntKind.u8))])) [])))) 100000000000) (Tr.br (decide ((2 : Ty.den (Ty.int IntKind.i64)) ≤ (↑(List.length ([] ++ bytesInt ahead)) : Int) + (2 : Int)) && decide ((↑(List.length ([] ++ bytesInt ahead)) : Int) + (2 : Int) ≤ (↑(List.length (bytesInt (Prod.fst (nameP n (intBytes ([] ++ bytesInt ahead ++ [(0 : Ty.den (Ty.int IntKind.u8)), (0 : Ty.den (Ty.int IntKind.u8))])) [])))) : Int))) (Tr.br (decide ((2 : Ty.den (Ty.int IntKind.i64)) ≤ odd) && decide (odd ≤ (↑(List.length (closeB ([] ++ [(0 : Ty.den (Ty.int IntKind.u8)), (0 : Ty.den (Ty.int IntKind.u8))]) ((↑0 : Int) + (2 : Int)))) : Int))) (Tr.br ((↑(List.length ([] ++ bytesInt ahead)) : Int) + (2 : Int) == IntKind.wrap IntKind.i64 ((↑(List.length ahead) : Int) + (2 : Int))) (Tr.br (Nat.ble (List.length ahead + List.length (intBytes [(0 : Int), IntKind.wrap IntKind.u8 (↑(List.length n) : Int)])) 9223372036854775807) (Tr.br (Nat.ble (List.length (ahead ++ intBytes [(0 : Int), IntKind.wrap IntKind.u8 (↑(List.length n) : Int)]) + List.length n) 9223372036854775807) (Tr.br (intBytes (closeB (bytesInt (Prod.fst (nameP n (intBytes ([] ++ bytesInt ahead ++ [(0 : Ty.den (Ty.int IntKind.u8)), (0 : Ty.den (Ty.int IntKind.u8))])) []))) ((↑(List.length ([] ++ bytesInt ahead)) : Int) + (2 : Int))) == ahead ++ intBytes [(0 : Int), IntKind.wrap IntKind.u8 (↑(List.length n) : Int)] ++ n) (Tr.br (intBytes (closeB (closeB ([] ++ [(0 : Ty.den (Ty.int IntKind.u8)), (0 : Ty.den (Ty.int IntKind.u8))]) ((↑0 : Int) + (2 : Int))) odd) == intBytes [(0 : Int), (0 : Int)]) (Tr.ret ([AV.bool (((0 : Int) == (0 : Int)) == (odd == (2 : Int)))], [])) (Tr.ret ([AV.bool false], []))) (Tr.ret ([AV.bool false], []))) Tr.no) Tr.no) (Tr.ret ([AV.bool false], []))) (Tr.br ((↑(List.length ([] ++ bytesInt ahead)) : Int) + (2 : Int) == IntKind.wrap IntKind.i64 ((↑(List.length ahead) : Int) + (2 : Int))) (Tr.br (Nat.ble (List.length ahead + List.length (intBytes [(0 : Int), IntKind.wrap IntKind.u8 (↑(List.length n) : Int)])) 9223372036854775807) (Tr.br (Nat.ble (List.length (ahead ++ intBytes [(0 : Int), IntKind.wrap IntKind.u8 (↑(List.length n) : Int)]) + List.length n) 9223372036854775807) (Tr.br (intBytes (closeB (bytesInt (Prod.fst (nameP n (intBytes ([] ++ bytesInt ahead ++ [(0 : Ty.den (Ty.int IntKind.u8)), (0 : Ty.den (Ty.int IntKind.u8))])) []))) ((↑(List.length ([] ++ bytesInt ahead)) : Int) + (2 : Int))) == ahead ++ intBytes [(0 : Int), IntKind.wrap IntKind.u8 (↑(List.length n) : Int)] ++ n) (Tr.ret ([AV.bool (((1 : Int) == (0 : Int)) == (odd == (2 : Int)))], [])) (Tr.ret ([AV.bool false], []))) Tr.no) Tr.no) (Tr.ret ([AV.bool false], [])))) (Tr.br (decide ((2 : Ty.den (Ty.int IntKind.i64)) ≤ odd) && decide (odd ≤ (↑(List.length (closeB ([] ++ [(0 : Ty.den (Ty.int IntKind.u8)), (0 : Ty.den (Ty.int IntKind.u8))]) ((↑0 : Int) + (2 : Int)))) : Int))) (Tr.ret ([AV.bool false], [])) (Tr.ret ([AV.bool false], [])))) Tr.no) (Tr.br (Nat.ble (List.length ([] ++ bytesInt ahead ++ [(0 : Ty.den (Ty.int IntKind.u8)), (0 : Ty.den (Ty.int IntKind.u8))])) 100000000000) (Tr.br (decide ((2 : Ty.den (Ty.int IntKind.i64)) ≤ (↑(List.length ([] ++ bytesInt ahead)) : Int) + (2 : Int)) && decide ((↑(List.length ([] ++ bytesInt ahead)) : Int) + (2 : Int) ≤ (↑(List.length ([] ++ bytesInt ahead ++ [(0 : Ty.den (Ty.int IntKind.u8)), (0 : Ty.den (Ty.int IntKind.u8))])) : Int))) (Tr.br (decide ((2 : Ty.den (Ty.int IntKind.i64)) ≤ odd) && decide (odd ≤ (↑(List.length (closeB ([] ++ [(0 : Ty.den (Ty.int IntKind.u8)), (0 : Ty.den (Ty.int IntKind.u8))]) ((↑0 : Int) + (2 : Int)))) : Int))) (Tr.br ((↑(List.length ([] ++ bytesInt ahead)) : Int) + (2 : Int) == IntKind.wrap IntKind.i64 ((↑(List.length ahead) : Int) + (2 : Int))) (Tr.br (Nat.ble (List.length ahead + List.length (intBytes [(0 : Int), IntKind.wrap IntKind.u8 (↑(List.length n) : Int)])) 9223372036854775807) (Tr.br (Nat.ble (List.length (ahead ++ intBytes [(0 : Int), IntKind.wrap IntKind.u8 (↑(List.length n) : Int)]) + List.length n) 9223372036854775807) (Tr.br (intBytes (closeB ([] ++ bytesInt ahead ++ [(0 : Ty.den (Ty.int IntKind.u8)), (0 : Ty.den (Ty.int IntKind.u8))]) ((↑(List.length ([] ++ bytesInt ahead)) : Int) + (2 : Int))) == ahead ++ intBytes [(0 : Int), IntKind.wrap IntKind.u8 (↑(List.length n) : Int)] ++ n) (Tr.br (intBytes (closeB (closeB ([] ++ [(0 : Ty.den (Ty.int IntKind.u8)), (0 : Ty.den (Ty.int IntKind.u8))]) ((↑0 : Int) + (2 : Int))) odd) == intBytes [(0 : Int), (0 : Int)]) (Tr.ret ([AV.bool (((0 : Int) == (0 : Int)) == (odd == (2 : Int)))], [])) (Tr.ret ([AV.bool false], []))) (Tr.ret ([AV.bool false], []))) Tr.no) Tr.no) (Tr.ret ([AV.bool false], []))) (Tr.br ((↑(List.length ([] ++ bytesInt ahead)) : Int) + (2 : Int) == IntKind.wrap IntKind.i64 ((↑(List.length ahead) : Int) + (2 : Int))) (Tr.br (Nat.ble (List.length ahead + List.length (intBytes [(0 : Int), IntKind.wrap IntKind.u8 (↑(List.length n) : Int)])) 9223372036854775807) (Tr.br (Nat.ble (List.length (ahead ++ intBytes [(0 : Int), IntKind.wrap IntKind.u8 (↑(List.length n) : Int)]) + List.length n) 9223372036854775807) (Tr.br (intBytes (closeB ([] ++ bytesInt ahead ++ [(0 : Ty.den (Ty.int IntKind.u8)), (0 : Ty.den (Ty.int IntKind.u8))]) ((↑(List.length ([] ++ bytesInt ahead)) : Int) + (2 : Int))) == ahead ++ intBytes [(0 : Int), IntKind.wrap IntKind.u8 (↑(List.length n) : Int)] ++ n) (Tr.ret ([AV.bool (((1 : Int) == (0 : Int)) == (odd == (2 : Int)))], [])) (Tr.ret ([AV.bool false], []))) Tr.no) Tr.no) (Tr.ret ([AV.bool false], [])))) (Tr.br (decide ((2 : Ty.den (Ty.int IntKind.i64)) ≤ odd) && decide (odd ≤ (↑(List.length (closeB ([] ++ [(0 : Ty.den (Ty.int IntKind.u8)), (0 : Ty.den (Ty.int IntKind.u8))]) ((↑0 : Int) + (2 : Int)))) : Int))) (Tr.ret ([AV.bool false], [])) (Tr.ret ([AV.bool false], [])))) Tr.no)) Tr.no) Tr.no) Tr.no)) Tr.no)
def os10 : OSpec := { f := 10, sh := [.d .str false, .d .str false, .d (.int .i64) false], so := [], F := fun (ahead, n, odd, _) _ => t10 ahead n odd }
set_option maxRecDepth 1000000 in
theorem fn10 (ahead : List UInt8) (n : List UInt8) (odd : Int) : evC T0 (orcB [fs20w, fs29w] [os16, os24w, os26, os22, os19, os30w, os31w]) (lpOf h10 0 (lsOf [])) c10 1000000 (startSt [.str ahead, .str n, .int .i64 odd] [] Try.f10.ntmps) (finishK T0 false 0 Try.f10) = (t10 ahead n odd).get := by kernel_rfl
theorem ok10 : os10.Ok Try.prog := by
  refine os_ok mixed0 tab0 (orcB_sound (all_cons okf20w (all_cons okf29w all_nil)) (all_cons ok16 (all_cons ok24w (all_cons ok26 (all_cons ok22 (all_cons ok19 (all_cons ok30w (all_cons ok31w all_nil)))))))) h10 (d := 0) (n0 := 0) (S := lsOf []) Try.func10 (by kernel_rfl) (c := c10) (by kernel_rfl) rfl (no_loops (by kernel_rfl)) (by omega) (by kernel_rfl) ?_
  intro x'' y'' q'' hq''
  obtain ⟨(ahead : List UInt8), (n : List UInt8), (odd : Int), _⟩ := x''
  exact (fn10 ahead n odd).trans hq''
def fs10 : FSpec := fsT 10 [(.str, false), (.str, false), ((.int .i64), false)] [(.bool, false)] fun (ahead, n, odd, _) => t10 ahead n odd
theorem okf10 : fs10.Ok Try.prog := fsT_ok fun x'' r'' hr'' => ok10 x'' () r'' hr''
theorem closeB_put {ahead n : List UInt8} (hn : n.length ≤ 65535) : closeB (bytesInt (ahead ++ [0, 0] ++ n)) ((ahead.length : Int) + 2) = bytesInt (ahead ++ put16 (n.length : Int) ++ n) := by
  unfold closeB
  have e0 : (bytesInt (ahead ++ [0, 0] ++ n)).length = ahead.length + 2 + n.length := by rw [bytesInt_len]; simp; omega
  rw [e0, show ((ahead.length : Int) + 2 - 2).toNat = ahead.length by omega, show ((ahead.length : Int) + 2).toNat = ahead.length + 2 by omega, show (((ahead.length + 2 + n.length : Nat) : Int) - ((ahead.length : Int) + 2)) % 65536 = (n.length : Int) by omega]
  rw [bytesInt_app, bytesInt_app, bytesInt_app, bytesInt_app]
  have l1 : (bytesInt ahead).length = ahead.length := bytesInt_len _
  have l2 : (bytesInt ahead ++ bytesInt [0, 0]).length = ahead.length + 2 := by rw [List.length_append, l1]; rfl
  have t1 : List.take ahead.length (bytesInt ahead ++ bytesInt [0, 0] ++ bytesInt n) = bytesInt ahead := by rw [List.append_assoc, ← l1, List.take_left]
  have t2 : List.drop (ahead.length + 2) (bytesInt ahead ++ bytesInt [0, 0] ++ bytesInt n) = bytesInt n := by rw [← l2, List.drop_left]
  rw [t1, t2]
theorem put16_small {n : Nat} (hn : n ≤ 255) : put16 (n : Int) = intBytes [(0 : Int), IntKind.wrap .u8 (n : Int)] := by
  rw [wrap_u8 (by omega) (by omega)]
  unfold put16 intBytes
  rw [show (n : Int) / 256 = 0 by omega, show (n : Int) % 256 = n by omega]
  rfl
theorem wireSized_all (ahead n : List UInt8) (odd : Int) (hbn : bigS n = true) : (t10 ahead n odd).all fun x => x = ([.bool true], []) := by
  unfold t10
  by_cases h1 : (ahead.length : Int) > 1000
  · simp only [decide_eq_true h1, allT, allR]
  cases hm : mayV n with
  | false => simp only [decide_eq_false h1, hbn, Bool.not_false, allT, allF, allR]
  | true =>
    obtain ⟨hr, hl, _⟩ := may_iff.1 hm
    have e1 : intBytes (bytesInt ahead ++ [0, 0]) = ahead ++ [0, 0] := by rw [intB_app, intB_bytes]; rfl
    have hN := nameP_fresh _ n (ahead ++ [0, 0]) [] rfl hr (fun q b h => by simp at h)
    have hP : pkC (bytesInt ahead ++ [0, 0]) [] = true := by
      unfold pkC
      rw [bytesOk_app (bytesInt_ok ahead) (by decide), Nat.ble_eq_true_of_le (by rw [List.length_append, bytesInt_len]; simp; omega)]
      rfl
    have f1 : fits (0 + (bytesInt ahead).length) 1 = true := fits_true (by rw [bytesInt_len]; omega) (by rw [bytesInt_len]; omega)
    have b1 : Nat.ble (bytesInt ahead).length 100000000000 = true := Nat.ble_eq_true_of_le (by rw [bytesInt_len]; omega)
    have b2 : Nat.ble n.length 100000000000 = true := Nat.ble_eq_true_of_le (by omega)
    have b3 : Nat.ble (bytesInt (ahead ++ [0, 0] ++ n)).length 100000000000 = true := Nat.ble_eq_true_of_le (by rw [bytesInt_len]; simp; omega)
    have c0 : closeB [0, 0] 2 = [0, 0] := by decide
    have w1 : IntKind.wrap IntKind.i64 ((ahead.length : Int) + 2) = (ahead.length : Int) + 2 := IntWalk.i64_in _ (by omega)
    have cp := closeB_put (ahead := ahead) (n := n) (by omega)
    simp only [List.nil_append, e1, hN, decide_eq_false h1, hbn, hm, Bool.not_true, allT, allF, hP, f1, b1, b2, b3, Bool.true_and]
    have c0' : closeB [0, 0] (0 + 2) = [0, 0] := c0
    have k1 : (decide ((2 : Int) ≤ (ahead.length : Int) + 2) && decide ((ahead.length : Int) + 2 ≤ ((bytesInt (ahead ++ [0, 0] ++ n)).length : Int))) = true := by
      rw [dec_true (by omega), dec_true (by rw [bytesInt_len]; simp; omega)]
      rfl
    have il : (intBytes [(0 : Int), IntKind.wrap IntKind.u8 (n.length : Int)]).length = 2 := rfl
    have b4 : Nat.ble (ahead.length + 2) 9223372036854775807 = true := Nat.ble_eq_true_of_le (by omega)
    have b5 : Nat.ble ((ahead ++ intBytes [(0 : Int), IntKind.wrap IntKind.u8 (n.length : Int)]).length + n.length) 9223372036854775807 = true := Nat.ble_eq_true_of_le (by rw [List.length_append, il]; omega)
    have s1 : (intBytes (closeB (bytesInt (ahead ++ [0, 0] ++ n)) ((ahead.length : Int) + 2)) == ahead ++ intBytes [(0 : Int), IntKind.wrap IntKind.u8 (n.length : Int)] ++ n) = true := by
      rw [cp, intB_bytes, put16_small hl]
      exact beq_self_eq_true _
    have hlen : (bytesInt ahead).length = ahead.length := bytesInt_len _
    have i0 : (intBytes [(0 : Int), 0] == intBytes [(0 : Int), 0]) = true := by decide
    simp only [hlen, k1, c0', w1, il, b4, b5, s1, beq_self_eq_true, allT, allF]
    by_cases ho : odd = 2
    · subst ho
      have q : (decide ((2 : Int) ≤ 2) && decide ((2 : Int) ≤ (([(0 : Int), 0] : List Int).length : Int))) = true := by decide
      simp only [q, c0, i0, beq_self_eq_true, allT, allR]
    · have q : (decide ((2 : Int) ≤ odd) && decide (odd ≤ (([(0 : Int), 0] : List Int).length : Int))) = false := by
        rw [Bool.and_eq_false_iff]
        simp
        omega
      have hb : (odd == 2) = false := beq_eq_false_iff_ne.2 ho
      simp only [q, i0, beq_self_eq_true, hb, allT, allF, allR]
      rfl
theorem sem10 (ahead n : List UInt8) (odd : Int) (hbk : bulkT .str n ≤ 1048576) : SemF Try.prog 10 [.str ahead, .str n, .int .i64 odd] [] [.bool true] [] :=
  ok10 (ahead, n, odd, ()) () ([.bool true], []) (Tr.get_of_all (wireSized_all ahead n odd (bulk_big hbk)))
end Go.Proofs.YtfepkpindchleaaE

/- The row of WireSized. Printed by mklaw.py. -/
namespace Go.Proofs.Ytfepkpindchleaa.wireSized
open Go.ChangeShapes Go.WideShapes Go.ChangeAt Go.RowKit Go.Proofs.YtfepkpindchleaaE
open Go.ChangeMaps (open_string shut_string)
set_option linter.unusedVariables false
theorem own : ownKnob Try.prog.godebug = none := by kernel_rfl
theorem laidOut : laidOutB Try.prog = true := by kernel_rfl
/-- Where the data is of some size: the reading's own weights are handed on, too. -/
theorem handed_upto {H : Type} {enc : TypeId × Value → H} {C : Checked} {os : Os} {f : FuncId} {fn : Func} {s : OpenSpec} {k : (H : Type) → List (DataW H) → Bool} (hk : s.cond = some k) {F : Stop.Interp} {conds : List PathCond} {apart fresh handsOn again : Bool}
    (own : ownKnob C.prog.godebug = none) (started : os.Started) (noInit : C.prog.inits.idxOf? f = none) (hfn : C.prog.funcs[f]? = some fn)
    (witness : ∃ (w : World) (tape : Tape) (i : Input), w.os = os ∧ (w.forCall tape i).Shaped C.prog ∧ i.vars = [] ∧ Input.okWide C.prog (w.forCall tape i) .any w.heap.size f i ∧
      s.pre6 enc C.prog fn conds apart (w.forCall tape i).memory i.args ∧ Assume.holds {} C.prog (lone (Frame.enter C.prog f i.args .normal) [] (w.forCall tape i)))
    (contract : ∀ (W : World) (base : Nat) (args : Array Value) (ds gs : List (DataW H)) (before : List MemPlace),
      (∀ (j : Nat) t v, fn.params[j]? = some t → args[j]? = some v → Value.okWide C.prog W .any base t v) →
      DataW.Whole enc C.prog fn.params.toList s.vars apart W args.toList ds gs before → k H (ds ++ gs) = true →
      (DataW.weightsEach C.prog (fn.params.toList ++ s.bare.plain.varTypes C.prog) (ds ++ gs)).all (· ≤ reachBytes) = true →
      Calls C.prog f args W fun e W' => ∃ v, e = .returned v ∧ (s.at F).post enc C.prog fn apart fresh handsOn again W args v W') :
    ReturnsInHanded {} C os f .any (s.pre6 enc C.prog fn conds apart) ((s.at F).post enc C.prog fn apart fresh handsOn again) := by
  refine returnsInHanded_of_calls own started noInit witness ?_
  intro w tape i _ _ _ hok hpre _
  obtain ⟨_, _, _, fn', hfn', _, _, _, _, hval⟩ := hok
  obtain rfl : fn' = fn := Option.some.inj (hfn'.symm.trans hfn)
  obtain ⟨hp, hz⟩ := hpre
  obtain ⟨ds, gs, before, hw, _, hkk⟩ := (OpenSpec.pre_some hk conds apart _ _).1 hp
  refine (contract (w.forCall tape i) w.heap.size i.args ds gs before hval (DataW.Whole.of_heap (w' := w.forCall tape i) (by rfl) hw) hkk (hz.weights hw)).mono fun e W' ⟨v, he, hq⟩ => ?_
  subst he
  exact ChangeSpec.post_blind hq
set_option maxRecDepth 100000 in
theorem lifted (os : Os) (started : os.Started) (H : Type) (enc : TypeId × Value → H) (F0 : Stop.Interp) :
    ReturnsInHanded {} Try.checked os 10 .any ((Rows.OpenSpec.upto Rows.wireSizedSpec).pre6 enc Try.prog Try.f10 Rows.wireSizedUptoRow.domain false) (((Rows.OpenSpec.upto Rows.wireSizedSpec).at F0).post enc Try.prog Try.f10 false true false false) := by
  refine handed_upto (C := Try.checked) (s := (Rows.OpenSpec.upto Rows.wireSizedSpec)) (k := Rows.uptoSmall) rfl own started (by kernel_rfl) Try.func10
    (OpenSpec.witness (enc := enc) (C := Try.checked) (s := (Rows.OpenSpec.upto Rows.wireSizedSpec)) (k := Rows.uptoSmall) rfl false ⟨#[], #[.string ByteArray.empty, .string ByteArray.empty, .int .i64 0], []⟩ 8 (by kernel_rfl) (by kernel_rfl) (by kernel_rfl)
      (x := (DataW.whole enc Try.prog (World.plainHolding Try.prog os ⟨#[], #[.string ByteArray.empty, .string ByteArray.empty, .int .i64 0], []⟩).memory Try.f10.params.toList (Rows.OpenSpec.upto Rows.wireSizedSpec).vars false [.string ByteArray.empty, .string ByteArray.empty, .int .i64 0] 8).get (by kernel_rfl)) (Option.some_get _).symm (by kernel_rfl) (by kernel_rfl) (by kernel_rfl)) ?_
  intro W base args ds gs before hval0 hW hcnd hsz0
  have hsz : ∀ n ∈ DataW.weightsEach Try.prog (Try.f10.params.toList ++ Rows.wireSizedSpec.plain.varTypes Try.prog) (ds ++ gs), n ≤ reachBytes := fun n hn => of_decide_eq_true (List.all_eq_true.1 hsz0 n hn)
  have hval : ∀ (j : Nat) t v, Try.f10.params[j]? = some t → args[j]? = some v → Value.okWide Try.prog W .any base t v := hval0
  have hW' := hW
  obtain ⟨p, q, hA0, hV, rfl, hfz, hnd⟩ := hW
  have hA : DataW.TrodAll enc Try.prog W 0 (fun _ => true) true Try.f10.params.toList args.toList ds p := hA0
  rw [Try.params10] at hA hval hsz
  obtain ⟨v0, vs0, d0, ds0, p0, q0, hargs, rfl, rfl, k0, r0⟩ := trodAll_cons hA
  obtain ⟨v1, vs1, d1, ds1, p1, q1, rfl, rfl, rfl, k1, r1⟩ := trodAll_cons r0
  obtain ⟨v2, vs2, d2, ds2, p2, q2, rfl, rfl, rfl, k2, r2⟩ := trodAll_cons r1
  obtain ⟨rfl, rfl, rfl⟩ := trodAll_nil r2
  obtain rfl : args = #[v0, v1, v2] := by cases args; simp_all
  obtain ⟨rfl, rfl⟩ := trodVars_none hV
  have lt0 : ∀ x ∈ p0, x.block < W.heap.size := by obtain ⟨m, hm⟩ := k0; exact DataW.trod_lt m _ _ _ hm
  obtain ⟨x0, e0, w0, b0⟩ := arg_told (n := 8) (τ := .str) (agg := false) (by kernel_rfl) (hval 0 9 v0 rfl rfl) k0 (fun n hn => hsz n (DataW.weights_mem_each (j := 0) (t := 9) rfl rfl n hn)) (by kernel_rfl)
  have lt1 : ∀ x ∈ p1, x.block < W.heap.size := by obtain ⟨m, hm⟩ := k1; exact DataW.trod_lt m _ _ _ hm
  obtain ⟨x1, e1, w1, b1⟩ := arg_told (n := 8) (τ := .str) (agg := false) (by kernel_rfl) (hval 1 9 v1 rfl rfl) k1 (fun n hn => hsz n (DataW.weights_mem_each (j := 1) (t := 9) rfl rfl n hn)) (by kernel_rfl)
  have lt2 : ∀ x ∈ p2, x.block < W.heap.size := by obtain ⟨m, hm⟩ := k2; exact DataW.trod_lt m _ _ _ hm
  obtain ⟨x2, e2, w2, b2⟩ := arg_told (n := 8) (τ := .int .i64) (agg := false) (by kernel_rfl) (hval 2 3 v2 rfl rfl) k2 (fun n hn => hsz n (DataW.weights_mem_each (j := 2) (t := 3) rfl rfl n hn)) (by kernel_rfl)
  have hbk : Rows.uptoBulkAll ([d0, d1, d2] ++ []) ≤ 1048576 := of_decide_eq_true hcnd
  simp only [List.append_nil, Rows.uptoBulkAll] at hbk
  clear hA0 hval0 hsz0 hsz
  refine (law_calls ((fun x0 x1 x2 _ _ _ _ b1 _ => sem10 x0 x1 x2 b1) x0 x1 x2 w0 w1 w2 (Nat.le_trans b0 (by omega : Rows.uptoBulk d0 ≤ 1048576)) (Nat.le_trans b1 (by omega : Rows.uptoBulk d1 ≤ 1048576)) (Nat.le_trans b2 (by omega : Rows.uptoBulk d2 ≤ 1048576))) W (vs := [v0, v1, v2]) ?_).mono fun e W' ⟨he, bel⟩ => ?_
  · simp only [VRelL]
    exact ⟨_, _, rfl, e0, ⟨_, _, rfl, e1, ⟨_, _, rfl, e2, rfl⟩⟩⟩
  subst he
  exact ⟨_, rfl, _, _, _, [], _, [], hW', trodAll_mk1 (shut_bool Try.underlying4 _), (trodAll_cons_mk (Below.trod laidOut (by kernel_rfl) (of_decide_eq_true (by kernel_rfl)) k0 bel lt0) (trodAll_cons_mk (Below.trod laidOut (by kernel_rfl) (of_decide_eq_true (by kernel_rfl)) k1 bel lt1) (trodAll_cons_mk (Below.trod laidOut (by kernel_rfl) (of_decide_eq_true (by kernel_rfl)) k2 bel lt2) trodAll_mk0))), rfl, bel.frame _, fun h => by cases h⟩
theorem over : Rows.wireSizedUptoRow.holds Try.pinned (Rows.OpenSpec.upto Rows.wireSizedSpec) :=
  OpenClaim.holds_of_cond 10 Try.f10 rfl rfl rfl rfl rfl rfl rfl ⟨rfl, rfl, rfl, rfl, rfl⟩ rfl rfl rfl rfl rfl (by kernel_rfl) Try.func10 (by kernel_rfl)
    (of_decide_eq_true (by kernel_rfl)) (by unfold Func.isWrapper; first | (rw [if_pos (by decide +kernel)]; kernel_rfl) | (rw [if_neg (by decide +kernel)]; exact ⟨rfl, rfl⟩))
    (fun os started H enc _ F0 => lifted os started H enc F0)
theorem proved : Rows.WireSizedUptoSaid := over
end Go.Proofs.Ytfepkpindchleaa.wireSized
namespace Go.Proofs.Ytfepkpindchleaa
/-- The row, under a short name, for the claim. -/
theorem wireSizedUpto_holds : Rows.WireSizedUptoSaid := wireSized.proved
#print axioms wireSizedUpto_holds
end Go.Proofs.Ytfepkpindchleaa
