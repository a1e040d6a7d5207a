/- strings.Builder, wire.Pack: words. -/
import Derived.Test.YtfepkpindchleaaW6
namespace Go.Proofs.YtfepkpindchleaaE
open Go
set_option linter.unusedVariables false
set_option linter.unusedSimpArgs false
/-- (*strings.Builder).Len -/
def t49n (b : List Int) : Tr Res := Tr.ret ([AV.int IntKind.i64 (↑(List.length b) : Int)], [LObj.boxT (some 88) [AV.np, AV.rowA 1], LObj.row (Ty.int IntKind.u8) b])
def os49n : OSpec := { f := 49, sh := [.ptr 0 0], so := [.tbox 88 [.np, .row 1], .row (.int .u8)], F := fun _ (_, b, _) => t49n b }
set_option maxRecDepth 1000000 in
theorem fn49n (b : List Int) : evC T0 (orcB [] [osNew, osUsed]) (lpOf h49 2 (lsOf [])) c49 1000000 (startSt [.ptr 0 0] [.boxT (some 88) [.np, .rowA 1], .row (.int .u8) b] Try.f49.ntmps) (finishK T0 false 2 Try.f49) = (t49n b).get := by kernel_rfl
theorem ok49n : os49n.Ok Try.prog := by
  refine os_ok mixed0 tab0 (orcB_sound all_nil (all_cons okNew (all_cons okUsed all_nil))) h49 (d := 0) (n0 := 2) (S := lsOf []) Try.func49 (by kernel_rfl) (c := c49) (by kernel_rfl) rfl (no_loops (by kernel_rfl)) (by omega) (by kernel_rfl) ?_
  intro x'' y'' q'' hq''
  obtain ⟨_, (b : List Int), _⟩ := y''
  exact (fn49n b).trans hq''
/-- (*strings.Builder).Len -/
def t49u (b : List Int) : Tr Res := Tr.ret ([AV.int IntKind.i64 (↑(List.length b) : Int)], [LObj.boxT (some 88) [AV.ptr 0 0, AV.rowA 1], LObj.row (Ty.int IntKind.u8) b])
def os49u : OSpec := { f := 49, sh := [.ptr 0 0], so := [.tbox 88 [.ptr 0 0, .row 1], .row (.int .u8)], F := fun _ (_, b, _) => t49u b }
set_option maxRecDepth 1000000 in
theorem fn49u (b : List Int) : evC T0 (orcB [] [osNew, osUsed]) (lpOf h49 2 (lsOf [])) c49 1000000 (startSt [.ptr 0 0] [.boxT (some 88) [.ptr 0 0, .rowA 1], .row (.int .u8) b] Try.f49.ntmps) (finishK T0 false 2 Try.f49) = (t49u b).get := by kernel_rfl
theorem ok49u : os49u.Ok Try.prog := by
  refine os_ok mixed0 tab0 (orcB_sound all_nil (all_cons okNew (all_cons okUsed all_nil))) h49 (d := 0) (n0 := 2) (S := lsOf []) Try.func49 (by kernel_rfl) (c := c49) (by kernel_rfl) rfl (no_loops (by kernel_rfl)) (by omega) (by kernel_rfl) ?_
  intro x'' y'' q'' hq''
  obtain ⟨_, (b : List Int), _⟩ := y''
  exact (fn49u b).trans hq''
/-- (*strings.Builder).WriteByte -/
def t50n (c : Int) (b : List Int) : Tr Res := Tr.br (fits (List.length b + 1) 1) (Tr.ret ([AV.dead], [LObj.boxT (some 88) [AV.ptr 0 0, AV.rowA 1], LObj.row (Ty.int IntKind.u8) (b ++ [c])])) Tr.no
def os50n : OSpec := { f := 50, sh := [.ptr 0 0, .d (.int .u8) false], so := [.tbox 88 [.np, .row 1], .row (.int .u8)], F := fun (c, _) (_, b, _) => t50n c b }
set_option maxRecDepth 1000000 in
theorem fn50n (c : Int) (b : List Int) : evC T0 (orcB [] [osNew, osUsed]) (lpOf h50 2 (lsOf [])) c50 1000000 (startSt [.ptr 0 0, .int .u8 c] [.boxT (some 88) [.np, .rowA 1], .row (.int .u8) b] Try.f50.ntmps) (finishK T0 false 2 Try.f50) = (t50n c b).get := by kernel_rfl
theorem ok50n : os50n.Ok Try.prog := by
  refine os_ok mixed0 tab0 (orcB_sound all_nil (all_cons okNew (all_cons okUsed all_nil))) h50 (d := 0) (n0 := 2) (S := lsOf []) Try.func50 (by kernel_rfl) (c := c50) (by kernel_rfl) rfl (no_loops (by kernel_rfl)) (by omega) (by kernel_rfl) ?_
  intro x'' y'' q'' hq''
  obtain ⟨(c : Int), _⟩ := x''
  obtain ⟨_, (b : List Int), _⟩ := y''
  exact (fn50n c b).trans hq''
/-- (*strings.Builder).WriteByte -/
def t50u (c : Int) (b : List Int) : Tr Res := Tr.br (fits (List.length b + 1) 1) (Tr.ret ([AV.dead], [LObj.boxT (some 88) [AV.ptr 0 0, AV.rowA 1], LObj.row (Ty.int IntKind.u8) (b ++ [c])])) Tr.no
def os50u : OSpec := { f := 50, sh := [.ptr 0 0, .d (.int .u8) false], so := [.tbox 88 [.ptr 0 0, .row 1], .row (.int .u8)], F := fun (c, _) (_, b, _) => t50u c b }
set_option maxRecDepth 1000000 in
theorem fn50u (c : Int) (b : List Int) : evC T0 (orcB [] [osNew, osUsed]) (lpOf h50 2 (lsOf [])) c50 1000000 (startSt [.ptr 0 0, .int .u8 c] [.boxT (some 88) [.ptr 0 0, .rowA 1], .row (.int .u8) b] Try.f50.ntmps) (finishK T0 false 2 Try.f50) = (t50u c b).get := by kernel_rfl
theorem ok50u : os50u.Ok Try.prog := by
  refine os_ok mixed0 tab0 (orcB_sound all_nil (all_cons okNew (all_cons okUsed all_nil))) h50 (d := 0) (n0 := 2) (S := lsOf []) Try.func50 (by kernel_rfl) (c := c50) (by kernel_rfl) rfl (no_loops (by kernel_rfl)) (by omega) (by kernel_rfl) ?_
  intro x'' y'' q'' hq''
  obtain ⟨(c : Int), _⟩ := x''
  obtain ⟨_, (b : List Int), _⟩ := y''
  exact (fn50u c b).trans hq''
/-- (*strings.Builder).WriteString -/
def t51u (s : List UInt8) (b : List Int) : Tr Res := Tr.br (fits (List.length b + List.length (bytesInt s)) 1) (Tr.ret ([AV.int IntKind.i64 (↑(List.length s) : Int), AV.dead], [LObj.boxT (some 88) [AV.ptr 0 0, AV.rowA 1], LObj.row (Ty.int IntKind.u8) (b ++ bytesInt s)])) Tr.no
def os51u : OSpec := { f := 51, sh := [.ptr 0 0, .d .str false], so := [.tbox 88 [.ptr 0 0, .row 1], .row (.int .u8)], F := fun (s, _) (_, b, _) => t51u s b }
set_option maxRecDepth 1000000 in
theorem fn51u (s : List UInt8) (b : List Int) : evC T0 (orcB [] [osNew, osUsed]) (lpOf h51 2 (lsOf [])) c51 1000000 (startSt [.ptr 0 0, .str s] [.boxT (some 88) [.ptr 0 0, .rowA 1], .row (.int .u8) b] Try.f51.ntmps) (finishK T0 false 2 Try.f51) = (t51u s b).get := by kernel_rfl
theorem ok51u : os51u.Ok Try.prog := by
  refine os_ok mixed0 tab0 (orcB_sound all_nil (all_cons okNew (all_cons okUsed all_nil))) h51 (d := 0) (n0 := 2) (S := lsOf []) Try.func51 (by kernel_rfl) (c := c51) (by kernel_rfl) rfl (no_loops (by kernel_rfl)) (by omega) (by kernel_rfl) ?_
  intro x'' y'' q'' hq''
  obtain ⟨(s : List UInt8), _⟩ := x''
  obtain ⟨_, (b : List Int), _⟩ := y''
  exact (fn51u s b).trans hq''
/-- wire.New -/
def t16 : Tr Res := Tr.ret ([AV.ptr 0 0], [LObj.boxT none [AV.rowA 1, AV.mp 2], LObj.row (Ty.int IntKind.u8) [], LObj.mpo Ty.str (Ty.int IntKind.i64) []])
def os16 : OSpec := { f := 16, sh := [], so := [], F := fun _ _ => t16 }
set_option maxRecDepth 1000000 in
theorem fn16 : evC T0 (orcB [] []) (lpOf (hOwn h16) 0 (lsOf [])) c16 1000000 (startSt [] [] Try.f16.ntmps) (finishK T0 true 0 Try.f16) = (t16).get := by kernel_rfl
theorem ok16 : os16.Ok Try.prog := by
  refine os_ok mixed0 tab0 (orcB_sound all_nil all_nil) (hOwn h16) (d := 0) (n0 := 0) (S := lsOf []) Try.func16 (by kernel_rfl) (c := c16) (by kernel_rfl) rfl (no_loops (by kernel_rfl)) (by omega) (by kernel_rfl) ?_
  intro x'' y'' q'' hq''
  exact (fn16).trans hq''
/-- (*wire.Pack).Add -/
def t22 (s : List UInt8) (b : List Int) (l : List (List UInt8 × Int)) : Tr Res := Tr.br (fits (List.length b + List.length (bytesInt s)) 1) (Tr.ret ([], [LObj.boxT none [AV.rowA 1, AV.mp 2], LObj.row (Ty.int IntKind.u8) (b ++ bytesInt s), LObj.mpo Ty.str (Ty.int IntKind.i64) l])) Tr.no
def os22 : OSpec := { f := 22, sh := [.ptr 0 0, .d .str false], so := [.box [.row 1, .mp 2], .row (.int .u8), .map .str (.int .i64)], F := fun (s, _) (_, b, l, _) => t22 s b l }
set_option maxRecDepth 1000000 in
theorem fn22 (s : List UInt8) (b : List Int) (l : List (List UInt8 × Int)) : evC T0 (orcB [] []) (lpOf h22 3 (lsOf [])) c22 1000000 (startSt [.ptr 0 0, .str s] [.box [.rowA 1, .mp 2], .row (.int .u8) b, .mpo .str (.int .i64) l] Try.f22.ntmps) (finishK T0 false 3 Try.f22) = (t22 s b l).get := by kernel_rfl
theorem ok22 : os22.Ok Try.prog := by
  refine os_ok mixed0 tab0 (orcB_sound all_nil all_nil) h22 (d := 0) (n0 := 3) (S := lsOf []) Try.func22 (by kernel_rfl) (c := c22) (by kernel_rfl) rfl (no_loops (by kernel_rfl)) (by omega) (by kernel_rfl) ?_
  intro x'' y'' q'' hq''
  obtain ⟨(s : List UInt8), _⟩ := x''
  obtain ⟨_, (b : List Int), (l : List (List UInt8 × Int)), _⟩ := y''
  exact (fn22 s b l).trans hq''
/-- (*wire.Pack).Add -/
def t22z (s : List UInt8) : Tr Res := Tr.ret ([], [])
def os22z : OSpec := { f := 22, sh := [.np, .d .str false], so := [], F := fun (s, _) _ => t22z s }
set_option maxRecDepth 1000000 in
theorem fn22z (s : List UInt8) : evC T0 (orcB [] []) (lpOf h22 0 (lsOf [])) c22 1000000 (startSt [.np, .str s] [] Try.f22.ntmps) (finishK T0 false 0 Try.f22) = (t22z s).get := by kernel_rfl
theorem ok22z : os22z.Ok Try.prog := by
  refine os_ok mixed0 tab0 (orcB_sound all_nil all_nil) h22 (d := 0) (n0 := 0) (S := lsOf []) Try.func22 (by kernel_rfl) (c := c22) (by kernel_rfl) rfl (no_loops (by kernel_rfl)) (by omega) (by kernel_rfl) ?_
  intro x'' y'' q'' hq''
  obtain ⟨(s : List UInt8), _⟩ := x''
  exact (fn22z s).trans hq''
/-- (*wire.Pack).Len -/
def t26 (b : List Int) (l : List (List UInt8 × Int)) : Tr Res := Tr.ret ([AV.int IntKind.i64 (↑(List.length b) : Int)], [LObj.boxT none [AV.rowA 1, AV.mp 2], LObj.row (Ty.int IntKind.u8) b, LObj.mpo Ty.str (Ty.int IntKind.i64) l])
def os26 : OSpec := { f := 26, sh := [.ptr 0 0], so := [.box [.row 1, .mp 2], .row (.int .u8), .map .str (.int .i64)], F := fun _ (_, b, l, _) => t26 b l }
set_option maxRecDepth 1000000 in
theorem fn26 (b : List Int) (l : List (List UInt8 × Int)) : evC T0 (orcB [] []) (lpOf h26 3 (lsOf [])) c26 1000000 (startSt [.ptr 0 0] [.box [.rowA 1, .mp 2], .row (.int .u8) b, .mpo .str (.int .i64) l] Try.f26.ntmps) (finishK T0 false 3 Try.f26) = (t26 b l).get := by kernel_rfl
theorem ok26 : os26.Ok Try.prog := by
  refine os_ok mixed0 tab0 (orcB_sound all_nil all_nil) h26 (d := 0) (n0 := 3) (S := lsOf []) Try.func26 (by kernel_rfl) (c := c26) (by kernel_rfl) rfl (no_loops (by kernel_rfl)) (by omega) (by kernel_rfl) ?_
  intro x'' y'' q'' hq''
  obtain ⟨_, (b : List Int), (l : List (List UInt8 × Int)), _⟩ := y''
  exact (fn26 b l).trans hq''
/-- (*wire.Pack).Len -/
def t26z : Tr Res := Tr.ret ([AV.int IntKind.i64 (0 : Int)], [])
def os26z : OSpec := { f := 26, sh := [.np], so := [], F := fun _ _ => t26z }
set_option maxRecDepth 1000000 in
theorem fn26z : evC T0 (orcB [] []) (lpOf h26 0 (lsOf [])) c26 1000000 (startSt [.np] [] Try.f26.ntmps) (finishK T0 false 0 Try.f26) = (t26z).get := by kernel_rfl
theorem ok26z : os26z.Ok Try.prog := by
  refine os_ok mixed0 tab0 (orcB_sound all_nil all_nil) h26 (d := 0) (n0 := 0) (S := lsOf []) Try.func26 (by kernel_rfl) (c := c26) (by kernel_rfl) rfl (no_loops (by kernel_rfl)) (by omega) (by kernel_rfl) ?_
  intro x'' y'' q'' hq''
  exact (fn26z).trans hq''
/-- (*wire.Pack).Out -/
def t19 (b : List Int) (l : List (List UInt8 × Int)) : Tr Res := Tr.ret ([AV.str (intBytes b)], [LObj.boxT none [AV.rowA 1, AV.mp 2], LObj.row (Ty.int IntKind.u8) b, LObj.mpo Ty.str (Ty.int IntKind.i64) l])
def os19 : OSpec := { f := 19, sh := [.ptr 0 0], so := [.box [.row 1, .mp 2], .row (.int .u8), .map .str (.int .i64)], F := fun _ (_, b, l, _) => t19 b l }
set_option maxRecDepth 1000000 in
theorem fn19 (b : List Int) (l : List (List UInt8 × Int)) : evC T0 (orcB [] []) (lpOf h19 3 (lsOf [])) c19 1000000 (startSt [.ptr 0 0] [.box [.rowA 1, .mp 2], .row (.int .u8) b, .mpo .str (.int .i64) l] Try.f19.ntmps) (finishK T0 false 3 Try.f19) = (t19 b l).get := by kernel_rfl
theorem ok19 : os19.Ok Try.prog := by
  refine os_ok mixed0 tab0 (orcB_sound all_nil all_nil) h19 (d := 0) (n0 := 3) (S := lsOf []) Try.func19 (by kernel_rfl) (c := c19) (by kernel_rfl) rfl (no_loops (by kernel_rfl)) (by omega) (by kernel_rfl) ?_
  intro x'' y'' q'' hq''
  obtain ⟨_, (b : List Int), (l : List (List UInt8 × Int)), _⟩ := y''
  exact (fn19 b l).trans hq''
/-- (*wire.Pack).Out -/
def t19z : Tr Res := Tr.ret ([AV.str []], [])
def os19z : OSpec := { f := 19, sh := [.np], so := [], F := fun _ _ => t19z }
set_option maxRecDepth 1000000 in
theorem fn19z : evC T0 (orcB [] []) (lpOf h19 0 (lsOf [])) c19 1000000 (startSt [.np] [] Try.f19.ntmps) (finishK T0 false 0 Try.f19) = (t19z).get := by kernel_rfl
theorem ok19z : os19z.Ok Try.prog := by
  refine os_ok mixed0 tab0 (orcB_sound all_nil all_nil) h19 (d := 0) (n0 := 0) (S := lsOf []) Try.func19 (by kernel_rfl) (c := c19) (by kernel_rfl) rfl (no_loops (by kernel_rfl)) (by omega) (by kernel_rfl) ?_
  intro x'' y'' q'' hq''
  exact (fn19z).trans hq''
/-- (*wire.Pack).Mark -/
def t30 (b : List Int) (l : List (List UInt8 × Int)) : Tr Res := Tr.br (fits (List.length b + List.length (bytesInt (put16 (0 : Int)))) 1) (Tr.ret ([AV.int IntKind.i64 (↑(List.length (b ++ bytesInt (put16 (0 : Int)))) : Int)], [LObj.boxT none [AV.rowA 1, AV.mp 2], LObj.row (Ty.int IntKind.u8) (b ++ bytesInt (put16 (0 : Int))), LObj.mpo Ty.str (Ty.int IntKind.i64) l])) Tr.no
def os30 : OSpec := { f := 30, sh := [.ptr 0 0], so := [.box [.row 1, .mp 2], .row (.int .u8), .map .str (.int .i64)], F := fun _ (_, b, l, _) => t30 b l }
set_option maxRecDepth 1000000 in
theorem fn30 (b : List Int) (l : List (List UInt8 × Int)) : evC T0 (orcB [fs42w] [os22, os22z, os26, os26z]) (lpOf h30 3 (lsOf [])) c30 1000000 (startSt [.ptr 0 0] [.box [.rowA 1, .mp 2], .row (.int .u8) b, .mpo .str (.int .i64) l] Try.f30.ntmps) (finishK T0 false 3 Try.f30) = (t30 b l).get := by kernel_rfl
theorem ok30 : os30.Ok Try.prog := by
  refine os_ok mixed0 tab0 (orcB_sound (all_cons okf42w all_nil) (all_cons ok22 (all_cons ok22z (all_cons ok26 (all_cons ok26z all_nil))))) h30 (d := 0) (n0 := 3) (S := lsOf []) Try.func30 (by kernel_rfl) (c := c30) (by kernel_rfl) rfl (no_loops (by kernel_rfl)) (by omega) (by kernel_rfl) ?_
  intro x'' y'' q'' hq''
  obtain ⟨_, (b : List Int), (l : List (List UInt8 × Int)), _⟩ := y''
  exact (fn30 b l).trans hq''
/-- (*wire.Pack).Mark -/
def t30z : Tr Res := Tr.ret ([AV.int IntKind.i64 (0 : Int)], [])
def os30z : OSpec := { f := 30, sh := [.np], so := [], F := fun _ _ => t30z }
set_option maxRecDepth 1000000 in
theorem fn30z : evC T0 (orcB [fs42w] [os22, os22z, os26, os26z]) (lpOf h30 0 (lsOf [])) c30 1000000 (startSt [.np] [] Try.f30.ntmps) (finishK T0 false 0 Try.f30) = (t30z).get := by kernel_rfl
theorem ok30z : os30z.Ok Try.prog := by
  refine os_ok mixed0 tab0 (orcB_sound (all_cons okf42w all_nil) (all_cons ok22 (all_cons ok22z (all_cons ok26 (all_cons ok26z all_nil))))) h30 (d := 0) (n0 := 0) (S := lsOf []) Try.func30 (by kernel_rfl) (c := c30) (by kernel_rfl) rfl (no_loops (by kernel_rfl)) (by omega) (by kernel_rfl) ?_
  intro x'' y'' q'' hq''
  exact (fn30z).trans hq''
/-- (*wire.Pack).Close -/
def t31 (at_ : Int) (b : List Int) (l : List (List UInt8 × Int)) : Tr Res := Tr.br (decide (at_ < (2 : Int))) (Tr.ret ([AV.int IntKind.i64 (1 : Int)], [LObj.boxT none [AV.rowA 1, AV.mp 2], LObj.row (Ty.int IntKind.u8) b, LObj.mpo Ty.str (Ty.int IntKind.i64) l])) (Tr.br (decide (at_ > (↑(List.length b) : Int))) (Tr.ret ([AV.int IntKind.i64 (1 : Int)], [LObj.boxT none [AV.rowA 1, AV.mp 2], LObj.row (Ty.int IntKind.u8) b, LObj.mpo Ty.str (Ty.int IntKind.i64) l])) (Tr.br (decide ((0 : Int) ≤ at_) && decide (at_ ≤ (↑(List.length b) : Int))) (Tr.br (decide ((0 : Int) ≤ IntKind.wrap IntKind.i64 (at_ - (2 : Int))) && decide (IntKind.wrap IntKind.i64 (at_ - (2 : Int)) ≤ at_)) (Tr.br (n16C (IntKind.wrap IntKind.u16 (IntKind.wrap IntKind.i64 ((↑(List.length b) : Int) - at_)))) (Tr.ret ([AV.int IntKind.i64 (0 : Int)], [LObj.boxT none [AV.rowA 1, AV.mp 2], LObj.row (Ty.int IntKind.u8) (List.take (Int.toNat (IntKind.wrap IntKind.i64 (at_ - (2 : Int)))) b ++ List.take (Int.toNat at_ - Int.toNat (IntKind.wrap IntKind.i64 (at_ - (2 : Int)))) (bytesInt (put16 (IntKind.wrap IntKind.u16 (IntKind.wrap IntKind.i64 ((↑(List.length b) : Int) - at_))))) ++ List.drop (Int.toNat (IntKind.wrap IntKind.i64 (at_ - (2 : Int))) + min (Int.toNat at_ - Int.toNat (IntKind.wrap IntKind.i64 (at_ - (2 : Int)))) (List.length (put16 (IntKind.wrap IntKind.u16 (IntKind.wrap IntKind.i64 ((↑(List.length b) : Int) - at_)))))) b), LObj.mpo Ty.str (Ty.int IntKind.i64) l])) Tr.no) Tr.no) Tr.no))
def os31 : OSpec := { f := 31, sh := [.ptr 0 0, .d (.int .i64) false], so := [.box [.row 1, .mp 2], .row (.int .u8), .map .str (.int .i64)], F := fun (at_, _) (_, b, l, _) => t31 at_ b l }
set_option maxRecDepth 1000000 in
theorem fn31 (at_ : Int) (b : List Int) (l : List (List UInt8 × Int)) : evC T0 (orcB [fs42w] [os22, os22z, os26, os26z]) (lpOf h31 3 (lsOf [])) c31 1000000 (startSt [.ptr 0 0, .int .i64 at_] [.box [.rowA 1, .mp 2], .row (.int .u8) b, .mpo .str (.int .i64) l] Try.f31.ntmps) (finishK T0 false 3 Try.f31) = (t31 at_ b l).get := by kernel_rfl
theorem ok31 : os31.Ok Try.prog := by
  refine os_ok mixed0 tab0 (orcB_sound (all_cons okf42w all_nil) (all_cons ok22 (all_cons ok22z (all_cons ok26 (all_cons ok26z all_nil))))) h31 (d := 0) (n0 := 3) (S := lsOf []) Try.func31 (by kernel_rfl) (c := c31) (by kernel_rfl) rfl (no_loops (by kernel_rfl)) (by omega) (by kernel_rfl) ?_
  intro x'' y'' q'' hq''
  obtain ⟨(at_ : Int), _⟩ := x''
  obtain ⟨_, (b : List Int), (l : List (List UInt8 × Int)), _⟩ := y''
  exact (fn31 at_ b l).trans hq''
/-- (*wire.Pack).Close -/
def t31z (at_ : Int) : Tr Res := Tr.br (decide (at_ < (2 : Int))) (Tr.ret ([AV.int IntKind.i64 (1 : Int)], [])) (Tr.br (decide (at_ > (0 : Int))) (Tr.ret ([AV.int IntKind.i64 (1 : Int)], [])) Tr.no)
def os31z : OSpec := { f := 31, sh := [.np, .d (.int .i64) false], so := [], F := fun (at_, _) _ => t31z at_ }
set_option maxRecDepth 1000000 in
theorem fn31z (at_ : Int) : evC T0 (orcB [fs42w] [os22, os22z, os26, os26z]) (lpOf h31 0 (lsOf [])) c31 1000000 (startSt [.np, .int .i64 at_] [] Try.f31.ntmps) (finishK T0 false 0 Try.f31) = (t31z at_).get := by kernel_rfl
theorem ok31z : os31z.Ok Try.prog := by
  refine os_ok mixed0 tab0 (orcB_sound (all_cons okf42w all_nil) (all_cons ok22 (all_cons ok22z (all_cons ok26 (all_cons ok26z all_nil))))) h31 (d := 0) (n0 := 0) (S := lsOf []) Try.func31 (by kernel_rfl) (c := c31) (by kernel_rfl) rfl (no_loops (by kernel_rfl)) (by omega) (by kernel_rfl) ?_
  intro x'' y'' q'' hq''
  obtain ⟨(at_ : Int), _⟩ := x''
  exact (fn31z at_).trans hq''
end Go.Proofs.YtfepkpindchleaaE
