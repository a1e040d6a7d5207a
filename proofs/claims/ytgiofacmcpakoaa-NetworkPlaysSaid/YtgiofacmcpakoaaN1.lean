/- network: the net as a list of packets. -/
import Derived.Test.YtgiofacmcpakoaaETab
import Derived.Test.YtgiofacmcpakoaaE30
namespace Go.Proofs.YtgiofacmcpakoaaE
open Go
set_option linter.unusedVariables false
abbrev Ad : Ty := .pair (.int .u32) (.int .u16)
abbrev PK : Ty := .pair Ad (.pair Ad .str)
/-- network.New -/
def t28 (r : Int) : Tr Res := Tr.br (decide (r < (1 : Int))) (Tr.ret ([AV.np], [])) (Tr.ret ([AV.ptr 0 0], [LObj.box [AV.rowA 1, AV.int IntKind.i64 r, AV.int IntKind.i64 (0 : Int), AV.int IntKind.i64 (0 : Int)], LObj.row PK []]))
def os28 : OSpec := { f := 28, sh := [.d (.int .i64) false], so := [], F := fun (r, _) _ => t28 r }
theorem fn28 (r : Int) : evC T0 (orcB [] []) (lpOf h28 0 (lsOf [])) c28 1000000 (startSt [.int .i64 r] [] Try.f28.ntmps) (finishK T0 false 0 Try.f28) = (t28 r).get := by kernel_rfl
theorem ok28 : os28.Ok Try.prog := by
  refine os_ok mixed0 tab0 (orcB_sound all_nil all_nil) h28 (d := 0) (n0 := 0) (S := lsOf []) Try.func28 (by kernel_rfl) (c := c28) (by kernel_rfl) rfl (no_loops (by kernel_rfl)) (by omega) (by kernel_rfl) ?_
  intro x'' y'' q'' hq''
  obtain ⟨(r : Int), _⟩ := x''
  exact (fn28 r).trans hq''
/-- (*network.Net).Inject -/
def t37o (p : ((Int × Int) × ((Int × Int) × List UInt8))) (r : Int) (s : Int) (l : Int) (w : List ((Int × Int) × ((Int × Int) × List UInt8))) : Tr Res := Tr.br (decide ((↑(List.length w) : Int) ≥ r)) (Tr.ret ([AV.bool false], [LObj.box [AV.rowA 1, AV.int IntKind.i64 r, AV.int IntKind.i64 s, AV.int IntKind.i64 l], LObj.row PK w])) (Tr.br (fits (List.length w + 1) 32) (Tr.ret ([AV.bool true], [LObj.box [AV.rowA 1, AV.int IntKind.i64 r, AV.int IntKind.i64 s, AV.int IntKind.i64 l], LObj.row PK (w ++ [p])])) Tr.no)
def os37o : OSpec := { f := 37, sh := [.ptr 0 0, .d PK true], so := [.box [.row 1, .d (.int .i64) false, .d (.int .i64) false, .d (.int .i64) false], .row PK], F := fun (p, _) ((r, s, l, _), w, _) => t37o p r s l w }
theorem fn37o (p : ((Int × Int) × ((Int × Int) × List UInt8))) (r : Int) (s : Int) (l : Int) (w : List ((Int × Int) × ((Int × Int) × List UInt8))) : evC T0 (orcB [] []) (lpOf h37 2 (lsOf [])) c37 1000000 (startSt [.ptr 0 0, AV.ofTy PK p true] [.box [.rowA 1, .int .i64 r, .int .i64 s, .int .i64 l], .row PK w] Try.f37.ntmps) (finishK T0 false 2 Try.f37) = (t37o p r s l w).get := by kernel_rfl
theorem ok37o : os37o.Ok Try.prog := by
  refine os_ok mixed0 tab0 (orcB_sound all_nil all_nil) h37 (d := 0) (n0 := 2) (S := lsOf []) Try.func37 (by kernel_rfl) (c := c37) (by kernel_rfl) rfl (no_loops (by kernel_rfl)) (by omega) (by kernel_rfl) ?_
  intro x'' y'' q'' hq''
  obtain ⟨(p : ((Int × Int) × ((Int × Int) × List UInt8))), _⟩ := x''
  obtain ⟨⟨(r : Int), (s : Int), (l : Int), _⟩, (w : List ((Int × Int) × ((Int × Int) × List UInt8))), _⟩ := y''
  exact (fn37o p r s l w).trans hq''
/-- (*network.Net).Inject -/
def t37n (p : ((Int × Int) × ((Int × Int) × List UInt8))) : Tr Res := Tr.ret ([AV.bool false], [])
def os37n : OSpec := { f := 37, sh := [.np, .d PK true], so := [], F := fun (p, _) _ => t37n p }
theorem fn37n (p : ((Int × Int) × ((Int × Int) × List UInt8))) : evC T0 (orcB [] []) (lpOf h37 0 (lsOf [])) c37 1000000 (startSt [.np, AV.ofTy PK p true] [] Try.f37.ntmps) (finishK T0 false 0 Try.f37) = (t37n p).get := by kernel_rfl
theorem ok37n : os37n.Ok Try.prog := by
  refine os_ok mixed0 tab0 (orcB_sound all_nil all_nil) h37 (d := 0) (n0 := 0) (S := lsOf []) Try.func37 (by kernel_rfl) (c := c37) (by kernel_rfl) rfl (no_loops (by kernel_rfl)) (by omega) (by kernel_rfl) ?_
  intro x'' y'' q'' hq''
  obtain ⟨(p : ((Int × Int) × ((Int × Int) × List UInt8))), _⟩ := x''
  exact (fn37n p).trans hq''
/-- (*network.Net).Len -/
def t34o (r : Int) (s : Int) (l : Int) (w : List ((Int × Int) × ((Int × Int) × List UInt8))) : Tr Res := Tr.ret ([AV.int IntKind.i64 (↑(List.length w) : Int)], [LObj.box [AV.rowA 1, AV.int IntKind.i64 r, AV.int IntKind.i64 s, AV.int IntKind.i64 l], LObj.row PK w])
def os34o : OSpec := { f := 34, sh := [.ptr 0 0], so := [.box [.row 1, .d (.int .i64) false, .d (.int .i64) false, .d (.int .i64) false], .row PK], F := fun _ ((r, s, l, _), w, _) => t34o r s l w }
theorem fn34o (r : Int) (s : Int) (l : Int) (w : List ((Int × Int) × ((Int × Int) × List UInt8))) : evC T0 (orcB [] []) (lpOf h34 2 (lsOf [])) c34 1000000 (startSt [.ptr 0 0] [.box [.rowA 1, .int .i64 r, .int .i64 s, .int .i64 l], .row PK w] Try.f34.ntmps) (finishK T0 false 2 Try.f34) = (t34o r s l w).get := by kernel_rfl
theorem ok34o : os34o.Ok Try.prog := by
  refine os_ok mixed0 tab0 (orcB_sound all_nil all_nil) h34 (d := 0) (n0 := 2) (S := lsOf []) Try.func34 (by kernel_rfl) (c := c34) (by kernel_rfl) rfl (no_loops (by kernel_rfl)) (by omega) (by kernel_rfl) ?_
  intro x'' y'' q'' hq''
  obtain ⟨⟨(r : Int), (s : Int), (l : Int), _⟩, (w : List ((Int × Int) × ((Int × Int) × List UInt8))), _⟩ := y''
  exact (fn34o r s l w).trans hq''
/-- (*network.Net).Len -/
def t34n : Tr Res := Tr.ret ([AV.int IntKind.i64 (0 : Int)], [])
def os34n : OSpec := { f := 34, sh := [.np], so := [], F := fun _ _ => t34n }
theorem fn34n : evC T0 (orcB [] []) (lpOf h34 0 (lsOf [])) c34 1000000 (startSt [.np] [] Try.f34.ntmps) (finishK T0 false 0 Try.f34) = (t34n).get := by kernel_rfl
theorem ok34n : os34n.Ok Try.prog := by
  refine os_ok mixed0 tab0 (orcB_sound all_nil all_nil) h34 (d := 0) (n0 := 0) (S := lsOf []) Try.func34 (by kernel_rfl) (c := c34) (by kernel_rfl) rfl (no_loops (by kernel_rfl)) (by omega) (by kernel_rfl) ?_
  intro x'' y'' q'' hq''
  exact (fn34n).trans hq''
/-- (*network.Net).Sent -/
def t36o (r : Int) (s : Int) (l : Int) (w : List ((Int × Int) × ((Int × Int) × List UInt8))) : Tr Res := Tr.ret ([AV.int IntKind.i64 s], [LObj.box [AV.rowA 1, AV.int IntKind.i64 r, AV.int IntKind.i64 s, AV.int IntKind.i64 l], LObj.row PK w])
def os36o : OSpec := { f := 36, sh := [.ptr 0 0], so := [.box [.row 1, .d (.int .i64) false, .d (.int .i64) false, .d (.int .i64) false], .row PK], F := fun _ ((r, s, l, _), w, _) => t36o r s l w }
theorem fn36o (r : Int) (s : Int) (l : Int) (w : List ((Int × Int) × ((Int × Int) × List UInt8))) : evC T0 (orcB [] []) (lpOf h36 2 (lsOf [])) c36 1000000 (startSt [.ptr 0 0] [.box [.rowA 1, .int .i64 r, .int .i64 s, .int .i64 l], .row PK w] Try.f36.ntmps) (finishK T0 false 2 Try.f36) = (t36o r s l w).get := by kernel_rfl
theorem ok36o : os36o.Ok Try.prog := by
  refine os_ok mixed0 tab0 (orcB_sound all_nil all_nil) h36 (d := 0) (n0 := 2) (S := lsOf []) Try.func36 (by kernel_rfl) (c := c36) (by kernel_rfl) rfl (no_loops (by kernel_rfl)) (by omega) (by kernel_rfl) ?_
  intro x'' y'' q'' hq''
  obtain ⟨⟨(r : Int), (s : Int), (l : Int), _⟩, (w : List ((Int × Int) × ((Int × Int) × List UInt8))), _⟩ := y''
  exact (fn36o r s l w).trans hq''
/-- (*network.Net).Sent -/
def t36n : Tr Res := Tr.ret ([AV.int IntKind.i64 (0 : Int)], [])
def os36n : OSpec := { f := 36, sh := [.np], so := [], F := fun _ _ => t36n }
theorem fn36n : evC T0 (orcB [] []) (lpOf h36 0 (lsOf [])) c36 1000000 (startSt [.np] [] Try.f36.ntmps) (finishK T0 false 0 Try.f36) = (t36n).get := by kernel_rfl
theorem ok36n : os36n.Ok Try.prog := by
  refine os_ok mixed0 tab0 (orcB_sound all_nil all_nil) h36 (d := 0) (n0 := 0) (S := lsOf []) Try.func36 (by kernel_rfl) (c := c36) (by kernel_rfl) rfl (no_loops (by kernel_rfl)) (by omega) (by kernel_rfl) ?_
  intro x'' y'' q'' hq''
  exact (fn36n).trans hq''
/-- (*network.Net).Lost -/
def t35o (r : Int) (s : Int) (l : Int) (w : List ((Int × Int) × ((Int × Int) × List UInt8))) : Tr Res := Tr.ret ([AV.int IntKind.i64 l], [LObj.box [AV.rowA 1, AV.int IntKind.i64 r, AV.int IntKind.i64 s, AV.int IntKind.i64 l], LObj.row PK w])
def os35o : OSpec := { f := 35, sh := [.ptr 0 0], so := [.box [.row 1, .d (.int .i64) false, .d (.int .i64) false, .d (.int .i64) false], .row PK], F := fun _ ((r, s, l, _), w, _) => t35o r s l w }
theorem fn35o (r : Int) (s : Int) (l : Int) (w : List ((Int × Int) × ((Int × Int) × List UInt8))) : evC T0 (orcB [] []) (lpOf h35 2 (lsOf [])) c35 1000000 (startSt [.ptr 0 0] [.box [.rowA 1, .int .i64 r, .int .i64 s, .int .i64 l], .row PK w] Try.f35.ntmps) (finishK T0 false 2 Try.f35) = (t35o r s l w).get := by kernel_rfl
theorem ok35o : os35o.Ok Try.prog := by
  refine os_ok mixed0 tab0 (orcB_sound all_nil all_nil) h35 (d := 0) (n0 := 2) (S := lsOf []) Try.func35 (by kernel_rfl) (c := c35) (by kernel_rfl) rfl (no_loops (by kernel_rfl)) (by omega) (by kernel_rfl) ?_
  intro x'' y'' q'' hq''
  obtain ⟨⟨(r : Int), (s : Int), (l : Int), _⟩, (w : List ((Int × Int) × ((Int × Int) × List UInt8))), _⟩ := y''
  exact (fn35o r s l w).trans hq''
/-- (*network.Net).Lost -/
def t35n : Tr Res := Tr.ret ([AV.int IntKind.i64 (0 : Int)], [])
def os35n : OSpec := { f := 35, sh := [.np], so := [], F := fun _ _ => t35n }
theorem fn35n : evC T0 (orcB [] []) (lpOf h35 0 (lsOf [])) c35 1000000 (startSt [.np] [] Try.f35.ntmps) (finishK T0 false 0 Try.f35) = (t35n).get := by kernel_rfl
theorem ok35n : os35n.Ok Try.prog := by
  refine os_ok mixed0 tab0 (orcB_sound all_nil all_nil) h35 (d := 0) (n0 := 0) (S := lsOf []) Try.func35 (by kernel_rfl) (c := c35) (by kernel_rfl) rfl (no_loops (by kernel_rfl)) (by omega) (by kernel_rfl) ?_
  intro x'' y'' q'' hq''
  exact (fn35n).trans hq''
/-- (*network.Net).Send -/
def t29o (p : ((Int × Int) × ((Int × Int) × List UInt8))) (r : Int) (s : Int) (l : Int) (w : List ((Int × Int) × ((Int × Int) × List UInt8))) : Tr Res := Tr.br (decide ((↑(List.length w) : Int) ≥ r)) (Tr.ret ([AV.bool false], [LObj.box [AV.rowA 1, AV.int IntKind.i64 r, AV.int IntKind.i64 (IntKind.wrap IntKind.i64 (s + (1 : Int))), AV.int IntKind.i64 (IntKind.wrap IntKind.i64 (l + (1 : Int)))], LObj.row PK w])) (Tr.br (fits (List.length w + 1) 32) (Tr.ret ([AV.bool true], [LObj.box [AV.rowA 1, AV.int IntKind.i64 r, AV.int IntKind.i64 (IntKind.wrap IntKind.i64 (s + (1 : Int))), AV.int IntKind.i64 l], LObj.row PK (w ++ [p])])) Tr.no)
def os29o : OSpec := { f := 29, sh := [.ptr 0 0, .d PK true], so := [.box [.row 1, .d (.int .i64) false, .d (.int .i64) false, .d (.int .i64) false], .row PK], F := fun (p, _) ((r, s, l, _), w, _) => t29o p r s l w }
theorem fn29o (p : ((Int × Int) × ((Int × Int) × List UInt8))) (r : Int) (s : Int) (l : Int) (w : List ((Int × Int) × ((Int × Int) × List UInt8))) : evC T0 (orcB [] [os37o, os37n, os34o, os34n]) (lpOf h29 2 (lsOf [])) c29 1000000 (startSt [.ptr 0 0, AV.ofTy PK p true] [.box [.rowA 1, .int .i64 r, .int .i64 s, .int .i64 l], .row PK w] Try.f29.ntmps) (finishK T0 false 2 Try.f29) = (t29o p r s l w).get := by kernel_rfl
theorem ok29o : os29o.Ok Try.prog := by
  refine os_ok mixed0 tab0 (orcB_sound all_nil (all_cons ok37o (all_cons ok37n (all_cons ok34o (all_cons ok34n all_nil))))) h29 (d := 0) (n0 := 2) (S := lsOf []) Try.func29 (by kernel_rfl) (c := c29) (by kernel_rfl) rfl (no_loops (by kernel_rfl)) (by omega) (by kernel_rfl) ?_
  intro x'' y'' q'' hq''
  obtain ⟨(p : ((Int × Int) × ((Int × Int) × List UInt8))), _⟩ := x''
  obtain ⟨⟨(r : Int), (s : Int), (l : Int), _⟩, (w : List ((Int × Int) × ((Int × Int) × List UInt8))), _⟩ := y''
  exact (fn29o p r s l w).trans hq''
/-- (*network.Net).Send -/
def t29n (p : ((Int × Int) × ((Int × Int) × List UInt8))) : Tr Res := Tr.ret ([AV.bool false], [])
def os29n : OSpec := { f := 29, sh := [.np, .d PK true], so := [], F := fun (p, _) _ => t29n p }
theorem fn29n (p : ((Int × Int) × ((Int × Int) × List UInt8))) : evC T0 (orcB [] [os37o, os37n, os34o, os34n]) (lpOf h29 0 (lsOf [])) c29 1000000 (startSt [.np, AV.ofTy PK p true] [] Try.f29.ntmps) (finishK T0 false 0 Try.f29) = (t29n p).get := by kernel_rfl
theorem ok29n : os29n.Ok Try.prog := by
  refine os_ok mixed0 tab0 (orcB_sound all_nil (all_cons ok37o (all_cons ok37n (all_cons ok34o (all_cons ok34n all_nil))))) h29 (d := 0) (n0 := 0) (S := lsOf []) Try.func29 (by kernel_rfl) (c := c29) (by kernel_rfl) rfl (no_loops (by kernel_rfl)) (by omega) (by kernel_rfl) ?_
  intro x'' y'' q'' hq''
  obtain ⟨(p : ((Int × Int) × ((Int × Int) × List UInt8))), _⟩ := x''
  exact (fn29n p).trans hq''
/-- (*network.Net).Twice -/
def t31o (k : Int) (r : Int) (s : Int) (l : Int) (w : List ((Int × Int) × ((Int × Int) × List UInt8))) : Tr Res := Tr.br (decide (k < (0 : Int))) (Tr.ret ([AV.agg [AV.int IntKind.u32 (0 : Int), AV.int IntKind.u16 (0 : Int), AV.int IntKind.u32 (0 : Int), AV.int IntKind.u16 (0 : Int), AV.str []], AV.bool false], [LObj.box [AV.rowA 1, AV.int IntKind.i64 r, AV.int IntKind.i64 s, AV.int IntKind.i64 l], LObj.row PK w])) (Tr.br (decide (k ≥ (↑(List.length w) : Int))) (Tr.ret ([AV.agg [AV.int IntKind.u32 (0 : Int), AV.int IntKind.u16 (0 : Int), AV.int IntKind.u32 (0 : Int), AV.int IntKind.u16 (0 : Int), AV.str []], AV.bool false], [LObj.box [AV.rowA 1, AV.int IntKind.i64 r, AV.int IntKind.i64 s, AV.int IntKind.i64 l], LObj.row PK w])) (Tr.br (decide ((0 : Int) ≤ k)) (Tr.br (decide (k < (↑(List.length w) : Int))) (Tr.ret ([AV.agg [AV.int IntKind.u32 (Prod.fst (Prod.fst (List.getD w (Int.toNat k) (Ty.dflt PK)))), AV.int IntKind.u16 (Prod.snd (Prod.fst (List.getD w (Int.toNat k) (Ty.dflt PK)))), AV.int IntKind.u32 (Prod.fst (Prod.fst (Prod.snd (List.getD w (Int.toNat k) (Ty.dflt PK))))), AV.int IntKind.u16 (Prod.snd (Prod.fst (Prod.snd (List.getD w (Int.toNat k) (Ty.dflt PK))))), AV.str (Prod.snd (Prod.snd (List.getD w (Int.toNat k) (Ty.dflt PK))))], AV.bool true], [LObj.box [AV.rowA 1, AV.int IntKind.i64 r, AV.int IntKind.i64 s, AV.int IntKind.i64 l], LObj.row PK w])) Tr.no) Tr.no))
def os31o : OSpec := { f := 31, sh := [.ptr 0 0, .d (.int .i64) false], so := [.box [.row 1, .d (.int .i64) false, .d (.int .i64) false, .d (.int .i64) false], .row PK], F := fun (k, _) ((r, s, l, _), w, _) => t31o k r s l w }
theorem fn31o (k : Int) (r : Int) (s : Int) (l : Int) (w : List ((Int × Int) × ((Int × Int) × List UInt8))) : evC T0 (orcB [] [os37o, os37n, os34o, os34n]) (lpOf h31 2 (lsOf [])) c31 1000000 (startSt [.ptr 0 0, .int .i64 k] [.box [.rowA 1, .int .i64 r, .int .i64 s, .int .i64 l], .row PK w] Try.f31.ntmps) (finishK T0 false 2 Try.f31) = (t31o k r s l w).get := by kernel_rfl
theorem ok31o : os31o.Ok Try.prog := by
  refine os_ok mixed0 tab0 (orcB_sound all_nil (all_cons ok37o (all_cons ok37n (all_cons ok34o (all_cons ok34n all_nil))))) h31 (d := 0) (n0 := 2) (S := lsOf []) Try.func31 (by kernel_rfl) (c := c31) (by kernel_rfl) rfl (no_loops (by kernel_rfl)) (by omega) (by kernel_rfl) ?_
  intro x'' y'' q'' hq''
  obtain ⟨(k : Int), _⟩ := x''
  obtain ⟨⟨(r : Int), (s : Int), (l : Int), _⟩, (w : List ((Int × Int) × ((Int × Int) × List UInt8))), _⟩ := y''
  exact (fn31o k r s l w).trans hq''
/-- (*network.Net).Twice -/
def t31n (k : Int) : Tr Res := Tr.br (decide (k < (0 : Int))) (Tr.ret ([AV.agg [AV.int IntKind.u32 (0 : Int), AV.int IntKind.u16 (0 : Int), AV.int IntKind.u32 (0 : Int), AV.int IntKind.u16 (0 : Int), AV.str []], AV.bool false], [])) (Tr.br (decide (k ≥ (0 : Int))) (Tr.ret ([AV.agg [AV.int IntKind.u32 (0 : Int), AV.int IntKind.u16 (0 : Int), AV.int IntKind.u32 (0 : Int), AV.int IntKind.u16 (0 : Int), AV.str []], AV.bool false], [])) Tr.no)
def os31n : OSpec := { f := 31, sh := [.np, .d (.int .i64) false], so := [], F := fun (k, _) _ => t31n k }
theorem fn31n (k : Int) : evC T0 (orcB [] [os37o, os37n, os34o, os34n]) (lpOf h31 0 (lsOf [])) c31 1000000 (startSt [.np, .int .i64 k] [] Try.f31.ntmps) (finishK T0 false 0 Try.f31) = (t31n k).get := by kernel_rfl
theorem ok31n : os31n.Ok Try.prog := by
  refine os_ok mixed0 tab0 (orcB_sound all_nil (all_cons ok37o (all_cons ok37n (all_cons ok34o (all_cons ok34n all_nil))))) h31 (d := 0) (n0 := 0) (S := lsOf []) Try.func31 (by kernel_rfl) (c := c31) (by kernel_rfl) rfl (no_loops (by kernel_rfl)) (by omega) (by kernel_rfl) ?_
  intro x'' y'' q'' hq''
  obtain ⟨(k : Int), _⟩ := x''
  exact (fn31n k).trans hq''
/-- (*network.Net).Take -/
def t33o (k : Int) (r : Int) (s : Int) (l : Int) (w : List ((Int × Int) × ((Int × Int) × List UInt8))) : Tr Res := Tr.br (decide (k < (0 : Int))) (Tr.ret ([AV.agg [AV.int IntKind.u32 (0 : Int), AV.int IntKind.u16 (0 : Int), AV.int IntKind.u32 (0 : Int), AV.int IntKind.u16 (0 : Int), AV.str []], AV.bool false], [LObj.box [AV.rowA 1, AV.int IntKind.i64 r, AV.int IntKind.i64 s, AV.int IntKind.i64 l], LObj.row PK w])) (Tr.br (decide (k ≥ (↑(List.length w) : Int))) (Tr.ret ([AV.agg [AV.int IntKind.u32 (0 : Int), AV.int IntKind.u16 (0 : Int), AV.int IntKind.u32 (0 : Int), AV.int IntKind.u16 (0 : Int), AV.str []], AV.bool false], [LObj.box [AV.rowA 1, AV.int IntKind.i64 r, AV.int IntKind.i64 s, AV.int IntKind.i64 l], LObj.row PK w])) (Tr.br (decide ((0 : Int) ≤ k)) (Tr.br (decide (k < (↑(List.length w) : Int))) (Tr.br (decide ((0 : Int) ≤ k) && decide (k ≤ (↑(List.length w) : Int))) (Tr.br (decide ((0 : Int) ≤ (0 : Int)) && decide ((0 : Int) ≤ k)) (Tr.br (k == k) (Tr.br (decide ((0 : Int) ≤ (↑(List.length w) : Int)) && decide ((↑(List.length w) : Int) ≤ (↑(List.length w) : Int))) (Tr.br (decide ((0 : Int) ≤ IntKind.wrap IntKind.i64 (k + (1 : Int))) && decide (IntKind.wrap IntKind.i64 (k + (1 : Int)) ≤ (↑(List.length w) : Int))) (Tr.br (fits (Int.toNat k - Int.toNat (0 : Int) + List.length (List.take (Int.toNat (↑(List.length w) : Int) - Int.toNat (IntKind.wrap IntKind.i64 (k + (1 : Int)))) (List.drop (Int.toNat (IntKind.wrap IntKind.i64 (k + (1 : Int)))) w))) 32) (Tr.ret ([AV.agg [AV.int IntKind.u32 (Prod.fst (Prod.fst (List.getD w (Int.toNat k) (Ty.dflt PK)))), AV.int IntKind.u16 (Prod.snd (Prod.fst (List.getD w (Int.toNat k) (Ty.dflt PK)))), AV.int IntKind.u32 (Prod.fst (Prod.fst (Prod.snd (List.getD w (Int.toNat k) (Ty.dflt PK))))), AV.int IntKind.u16 (Prod.snd (Prod.fst (Prod.snd (List.getD w (Int.toNat k) (Ty.dflt PK))))), AV.str (Prod.snd (Prod.snd (List.getD w (Int.toNat k) (Ty.dflt PK))))], AV.bool true], [LObj.box [AV.rowA 1, AV.int IntKind.i64 r, AV.int IntKind.i64 s, AV.int IntKind.i64 l], LObj.row PK (List.take (Int.toNat k - Int.toNat (0 : Int)) (List.drop (Int.toNat (0 : Int)) w) ++ List.take (Int.toNat (↑(List.length w) : Int) - Int.toNat (IntKind.wrap IntKind.i64 (k + (1 : Int)))) (List.drop (Int.toNat (IntKind.wrap IntKind.i64 (k + (1 : Int)))) w))])) Tr.no) Tr.no) Tr.no) Tr.no) Tr.no) Tr.no) Tr.no) Tr.no))
def os33o : OSpec := { f := 33, sh := [.ptr 0 0, .d (.int .i64) false], so := [.box [.row 1, .d (.int .i64) false, .d (.int .i64) false, .d (.int .i64) false], .row PK], F := fun (k, _) ((r, s, l, _), w, _) => t33o k r s l w }
theorem fn33o (k : Int) (r : Int) (s : Int) (l : Int) (w : List ((Int × Int) × ((Int × Int) × List UInt8))) : evC T0 (orcB [] [os31o, os31n]) (lpOf h33 2 (lsOf [])) c33 1000000 (startSt [.ptr 0 0, .int .i64 k] [.box [.rowA 1, .int .i64 r, .int .i64 s, .int .i64 l], .row PK w] Try.f33.ntmps) (finishK T0 false 2 Try.f33) = (t33o k r s l w).get := by kernel_rfl
theorem ok33o : os33o.Ok Try.prog := by
  refine os_ok mixed0 tab0 (orcB_sound all_nil (all_cons ok31o (all_cons ok31n all_nil))) h33 (d := 0) (n0 := 2) (S := lsOf []) Try.func33 (by kernel_rfl) (c := c33) (by kernel_rfl) rfl (no_loops (by kernel_rfl)) (by omega) (by kernel_rfl) ?_
  intro x'' y'' q'' hq''
  obtain ⟨(k : Int), _⟩ := x''
  obtain ⟨⟨(r : Int), (s : Int), (l : Int), _⟩, (w : List ((Int × Int) × ((Int × Int) × List UInt8))), _⟩ := y''
  exact (fn33o k r s l w).trans hq''
/-- (*network.Net).Take -/
def t33n (k : Int) : Tr Res := Tr.br (decide (k < (0 : Int))) (Tr.ret ([AV.agg [AV.int IntKind.u32 (0 : Int), AV.int IntKind.u16 (0 : Int), AV.int IntKind.u32 (0 : Int), AV.int IntKind.u16 (0 : Int), AV.str []], AV.bool false], [])) (Tr.br (decide (k ≥ (0 : Int))) (Tr.ret ([AV.agg [AV.int IntKind.u32 (0 : Int), AV.int IntKind.u16 (0 : Int), AV.int IntKind.u32 (0 : Int), AV.int IntKind.u16 (0 : Int), AV.str []], AV.bool false], [])) Tr.no)
def os33n : OSpec := { f := 33, sh := [.np, .d (.int .i64) false], so := [], F := fun (k, _) _ => t33n k }
theorem fn33n (k : Int) : evC T0 (orcB [] [os31o, os31n]) (lpOf h33 0 (lsOf [])) c33 1000000 (startSt [.np, .int .i64 k] [] Try.f33.ntmps) (finishK T0 false 0 Try.f33) = (t33n k).get := by kernel_rfl
theorem ok33n : os33n.Ok Try.prog := by
  refine os_ok mixed0 tab0 (orcB_sound all_nil (all_cons ok31o (all_cons ok31n all_nil))) h33 (d := 0) (n0 := 0) (S := lsOf []) Try.func33 (by kernel_rfl) (c := c33) (by kernel_rfl) rfl (no_loops (by kernel_rfl)) (by omega) (by kernel_rfl) ?_
  intro x'' y'' q'' hq''
  obtain ⟨(k : Int), _⟩ := x''
  exact (fn33n k).trans hq''
/-- (*network.Net).Lose -/
def t38o (k : Int) (r : Int) (s : Int) (l : Int) (w : List ((Int × Int) × ((Int × Int) × List UInt8))) : Tr Res := Tr.br (decide (k < (0 : Int))) (Tr.ret ([AV.bool false], [LObj.box [AV.rowA 1, AV.int IntKind.i64 r, AV.int IntKind.i64 s, AV.int IntKind.i64 l], LObj.row PK w])) (Tr.br (decide (k ≥ (↑(List.length w) : Int))) (Tr.ret ([AV.bool false], [LObj.box [AV.rowA 1, AV.int IntKind.i64 r, AV.int IntKind.i64 s, AV.int IntKind.i64 l], LObj.row PK w])) (Tr.br (decide ((0 : Int) ≤ k)) (Tr.br (decide (k < (↑(List.length w) : Int))) (Tr.br (decide ((0 : Int) ≤ k) && decide (k ≤ (↑(List.length w) : Int))) (Tr.br (decide ((0 : Int) ≤ (0 : Int)) && decide ((0 : Int) ≤ k)) (Tr.br (k == k) (Tr.br (decide ((0 : Int) ≤ (↑(List.length w) : Int)) && decide ((↑(List.length w) : Int) ≤ (↑(List.length w) : Int))) (Tr.br (decide ((0 : Int) ≤ IntKind.wrap IntKind.i64 (k + (1 : Int))) && decide (IntKind.wrap IntKind.i64 (k + (1 : Int)) ≤ (↑(List.length w) : Int))) (Tr.br (fits (Int.toNat k - Int.toNat (0 : Int) + List.length (List.take (Int.toNat (↑(List.length w) : Int) - Int.toNat (IntKind.wrap IntKind.i64 (k + (1 : Int)))) (List.drop (Int.toNat (IntKind.wrap IntKind.i64 (k + (1 : Int)))) w))) 32) (Tr.ret ([AV.bool true], [LObj.box [AV.rowA 1, AV.int IntKind.i64 r, AV.int IntKind.i64 s, AV.int IntKind.i64 (IntKind.wrap IntKind.i64 (l + (1 : Int)))], LObj.row PK (List.take (Int.toNat k - Int.toNat (0 : Int)) (List.drop (Int.toNat (0 : Int)) w) ++ List.take (Int.toNat (↑(List.length w) : Int) - Int.toNat (IntKind.wrap IntKind.i64 (k + (1 : Int)))) (List.drop (Int.toNat (IntKind.wrap IntKind.i64 (k + (1 : Int)))) w))])) Tr.no) Tr.no) Tr.no) Tr.no) Tr.no) Tr.no) Tr.no) Tr.no))
def os38o : OSpec := { f := 38, sh := [.ptr 0 0, .d (.int .i64) false], so := [.box [.row 1, .d (.int .i64) false, .d (.int .i64) false, .d (.int .i64) false], .row PK], F := fun (k, _) ((r, s, l, _), w, _) => t38o k r s l w }
theorem fn38o (k : Int) (r : Int) (s : Int) (l : Int) (w : List ((Int × Int) × ((Int × Int) × List UInt8))) : evC T0 (orcB [] [os33o, os33n]) (lpOf h38 2 (lsOf [])) c38 1000000 (startSt [.ptr 0 0, .int .i64 k] [.box [.rowA 1, .int .i64 r, .int .i64 s, .int .i64 l], .row PK w] Try.f38.ntmps) (finishK T0 false 2 Try.f38) = (t38o k r s l w).get := by kernel_rfl
theorem ok38o : os38o.Ok Try.prog := by
  refine os_ok mixed0 tab0 (orcB_sound all_nil (all_cons ok33o (all_cons ok33n all_nil))) h38 (d := 0) (n0 := 2) (S := lsOf []) Try.func38 (by kernel_rfl) (c := c38) (by kernel_rfl) rfl (no_loops (by kernel_rfl)) (by omega) (by kernel_rfl) ?_
  intro x'' y'' q'' hq''
  obtain ⟨(k : Int), _⟩ := x''
  obtain ⟨⟨(r : Int), (s : Int), (l : Int), _⟩, (w : List ((Int × Int) × ((Int × Int) × List UInt8))), _⟩ := y''
  exact (fn38o k r s l w).trans hq''
/-- (*network.Net).Lose -/
def t38n (k : Int) : Tr Res := Tr.br (decide (k < (0 : Int))) (Tr.ret ([AV.bool false], [])) (Tr.br (decide (k ≥ (0 : Int))) (Tr.ret ([AV.bool false], [])) Tr.no)
def os38n : OSpec := { f := 38, sh := [.np, .d (.int .i64) false], so := [], F := fun (k, _) _ => t38n k }
theorem fn38n (k : Int) : evC T0 (orcB [] [os33o, os33n]) (lpOf h38 0 (lsOf [])) c38 1000000 (startSt [.np, .int .i64 k] [] Try.f38.ntmps) (finishK T0 false 0 Try.f38) = (t38n k).get := by kernel_rfl
theorem ok38n : os38n.Ok Try.prog := by
  refine os_ok mixed0 tab0 (orcB_sound all_nil (all_cons ok33o (all_cons ok33n all_nil))) h38 (d := 0) (n0 := 0) (S := lsOf []) Try.func38 (by kernel_rfl) (c := c38) (by kernel_rfl) rfl (no_loops (by kernel_rfl)) (by omega) (by kernel_rfl) ?_
  intro x'' y'' q'' hq''
  obtain ⟨(k : Int), _⟩ := x''
  exact (fn38n k).trans hq''
theorem sem51 (xs : List PK.den) (hc : fits xs.length 32 = true) : SemF Try.prog 51 [.list PK xs] [] [.rowA 0] [.row PK xs] := by
  have h : evNil T0 (orcOf []) (fun _ _ _ => .no) Try.f51 true 0 (cC c51).r0 (.seq (cC c51).cx (cC c51).cy) 3 4 (startSt [.list PK xs] [] Try.f51.ntmps) =
      bif fits (([] : List PK.den).length + xs.length) 32 then some (([.rowA 0], [.row PK []]), ([.rowA 0], [.row PK ([] ++ xs)]), xs.isEmpty) else none := by kernel_rfl
  rw [show fits (([] : List PK.den).length + xs.length) 32 = true by simpa using hc] at h
  exact nil_sem mixed0 tab0 (orcOf_sound [] (by simp)) Try.func51 (by kernel_rfl) (id := (cC c51).id) (ops := (cC c51).ops) (o1 := (cC c51).ops.getD 0 default) (o2 := (cC c51).ops.getD 1 default) (d1 := 3) (d2 := 4) (t := 68) (yt := 68) (e := 49)
    (by kernel_rfl) (by kernel_rfl) (by kernel_rfl) (by kernel_rfl) (by kernel_rfl) (by kernel_rfl) (by kernel_rfl) (by kernel_rfl) (by kernel_rfl) (by kernel_rfl) h rfl (fun he => by rw [List.isEmpty_iff.1 he])
def os51 : OSpec := cloneS 51 PK 32
theorem ok51 : os51.Ok Try.prog := cloneS_ok sem51
/-- (*network.Net).All -/
def t40o (r : Int) (s : Int) (l : Int) (w : List ((Int × Int) × ((Int × Int) × List UInt8))) : Tr Res := Tr.br (fits (List.length w) 32) (Tr.ret ([AV.list PK w], [LObj.box [AV.rowA 1, AV.int IntKind.i64 r, AV.int IntKind.i64 s, AV.int IntKind.i64 l], LObj.row PK w])) Tr.no
def os40o : OSpec := { f := 40, sh := [.ptr 0 0], so := [.box [.row 1, .d (.int .i64) false, .d (.int .i64) false, .d (.int .i64) false], .row PK], F := fun _ ((r, s, l, _), w, _) => t40o r s l w }
theorem fn40o (r : Int) (s : Int) (l : Int) (w : List ((Int × Int) × ((Int × Int) × List UInt8))) : evC T0 (orcB [] [os51]) (lpOf h40 2 (lsOf [])) c40 1000000 (startSt [.ptr 0 0] [.box [.rowA 1, .int .i64 r, .int .i64 s, .int .i64 l], .row PK w] Try.f40.ntmps) (finishK T0 false 2 Try.f40) = (t40o r s l w).get := by kernel_rfl
theorem ok40o : os40o.Ok Try.prog := by
  refine os_ok mixed0 tab0 (orcB_sound all_nil (all_cons ok51 all_nil)) h40 (d := 0) (n0 := 2) (S := lsOf []) Try.func40 (by kernel_rfl) (c := c40) (by kernel_rfl) rfl (no_loops (by kernel_rfl)) (by omega) (by kernel_rfl) ?_
  intro x'' y'' q'' hq''
  obtain ⟨⟨(r : Int), (s : Int), (l : Int), _⟩, (w : List ((Int × Int) × ((Int × Int) × List UInt8))), _⟩ := y''
  exact (fn40o r s l w).trans hq''
/-- (*network.Net).All -/
def t40n : Tr Res := Tr.ret ([AV.list PK []], [])
def os40n : OSpec := { f := 40, sh := [.np], so := [], F := fun _ _ => t40n }
theorem fn40n : evC T0 (orcB [] [os51]) (lpOf h40 0 (lsOf [])) c40 1000000 (startSt [.np] [] Try.f40.ntmps) (finishK T0 false 0 Try.f40) = (t40n).get := by kernel_rfl
theorem ok40n : os40n.Ok Try.prog := by
  refine os_ok mixed0 tab0 (orcB_sound all_nil (all_cons ok51 all_nil)) h40 (d := 0) (n0 := 0) (S := lsOf []) Try.func40 (by kernel_rfl) (c := c40) (by kernel_rfl) rfl (no_loops (by kernel_rfl)) (by omega) (by kernel_rfl) ?_
  intro x'' y'' q'' hq''
  exact (fn40n).trans hq''
-- (*network.Net).To: loop 0 keeps [3, 5, 9, 10, 11], [5]
end Go.Proofs.YtgiofacmcpakoaaE
