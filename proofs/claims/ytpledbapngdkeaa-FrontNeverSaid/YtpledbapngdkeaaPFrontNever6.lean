import Derived.Test.YtpledbapngdkeaaPFrontNever5
import Derived.Test.YtpledbapngdkeaaRows
import Derived.WalkKit
import Derived.ProofKit
import Derived.OpenShut
import Derived.ShutString
import Derived.ChangeOld
import Derived.Below
import Derived.Carry
import Derived.SizedLaws
set_option maxRecDepth 1000000
namespace Go.Proofs.YtpledbapngdkeaaE
open Go Go.Proofs.YtpledbapngdkeaaB
set_option linter.unusedVariables false
abbrev RRty : Ty := .pair .str (.pair (.int .u16) (.pair (.int .u16) (.pair (.int .u32) .str)))
abbrev QQty : Ty := .pair .str (.pair (.int .u16) (.int .u16))
theorem sem57 (xs : List QQty.den) (hc : fits xs.length 24 = true) : SemF Try.prog 57 [.list QQty xs] [] [.rowA 0] [.row QQty xs] := by
 have h : Z3b T0 (J19 []) (fun _ _ _ => .no) Try.f57 true 0 (cC c57).r0 (.seq (cC c57).cx (cC c57).cy) 3 4 (V1 [.list QQty xs] [] Try.f57.ntmps) =
     bif fits (([] : List QQty.den).length + xs.length) 24 then some (([.rowA 0], [.row QQty []]), ([.rowA 0], [.row QQty ([] ++ xs)]), xs.isEmpty) else none := by kernel_rfl
 rw [show fits (([] : List QQty.den).length + xs.length) 24 = true by simpa using hc] at h
 exact Z2u X2 tab0 (J02 [] (by simp)) Try.func57 (by kernel_rfl) (id := (cC c57).id) (ops := (cC c57).ops) (o1 := (cC c57).ops.getD 0 default) (o2 := (cC c57).ops.getD 1 default) (d1 := 3) (d2 := 4) (t := 60) (yt := 60) (e := 27)
  (by kernel_rfl) (by kernel_rfl) (by kernel_rfl) (by kernel_rfl) (by kernel_rfl) (by kernel_rfl) (by kernel_rfl) (by kernel_rfl) (by kernel_rfl) (by kernel_rfl) h rfl (fun he => by rw [List.isEmpty_iff.1 he])
def os57 : OSpec := J2f 57 QQty 24
theorem ok57 : os57.Ok Try.prog := Q1k sem57
theorem sem61 (xs : List RRty.den) (hc : fits xs.length 40 = true) : SemF Try.prog 61 [.list RRty xs] [] [.rowA 0] [.row RRty xs] := by
 have h : Z3b T0 (J19 []) (fun _ _ _ => .no) Try.f61 true 0 (cC c61).r0 (.seq (cC c61).cx (cC c61).cy) 3 4 (V1 [.list RRty xs] [] Try.f61.ntmps) =
     bif fits (([] : List RRty.den).length + xs.length) 40 then some (([.rowA 0], [.row RRty []]), ([.rowA 0], [.row RRty ([] ++ xs)]), xs.isEmpty) else none := by kernel_rfl
 rw [show fits (([] : List RRty.den).length + xs.length) 40 = true by simpa using hc] at h
 exact Z2u X2 tab0 (J02 [] (by simp)) Try.func61 (by kernel_rfl) (id := (cC c61).id) (ops := (cC c61).ops) (o1 := (cC c61).ops.getD 0 default) (o2 := (cC c61).ops.getD 1 default) (d1 := 3) (d2 := 4) (t := 61) (yt := 61) (e := 71)
  (by kernel_rfl) (by kernel_rfl) (by kernel_rfl) (by kernel_rfl) (by kernel_rfl) (by kernel_rfl) (by kernel_rfl) (by kernel_rfl) (by kernel_rfl) (by kernel_rfl) h rfl (fun he => by rw [List.isEmpty_iff.1 he])
def os61 : OSpec := J2f 61 RRty 40
theorem ok61 : os61.Ok Try.prog := Q1k sem61
noncomputable def tbl27 : Fns := [(27, T27, h27, Try.f27), (30, T30, h30, Try.f30), (31, T31, h31, Try.f31), (32, T32, h32, Try.f32), (34, T34, h34, Try.f34), (35, T35, h35, Try.f35), (55, T55, h55, Try.f55), (56, T56, h56, Try.f56), (58, T58, h58, Try.f58), (59, T59, h59, Try.f59), (60, T60, h60, Try.f60), (62, T62, h62, Try.f62), (63, T63, h63, Try.f63), (64, T64, h64, Try.f64), (65, T65, h65, Try.f65), (66, T66, h66, Try.f66), (67, T67, h67, Try.f67), (68, T68, h68, Try.f68), (69, T69, h69, Try.f69), (70, T70, h70, Try.f70), (71, T71, h71, Try.f71), (72, T72, h72, Try.f72), (81, T81, h81, Try.f81), (82, T82, h82, Try.f82), (83, T83, h83, Try.f83), (84, T84, h84, Try.f84), (85, T85, h85, Try.f85), (86, T86, h86, Try.f86), (87, T87, h87, Try.f87), (88, T88, h88, Try.f88), (89, T89, h89, Try.f89), (91, T91, h91, Try.f91), (92, T92, h92, Try.f92), (93, T93, h93, Try.f93), (94, T94, h94, Try.f94), (95, T95, h95, Try.f95), (96, T96, h96, Try.f96), (97, T97, h97, Try.f97), (98, T98, h98, Try.f98), (99, T99, h99, Try.f99), (100, T100, h100, Try.f100), (101, T101, h101, Try.f101), (102, T102, h102, Try.f102), (103, { T103 with kns := true }, h103, Try.f103), (104, T104, h104, Try.f104), (112, T112, h112, Try.f112), (113, T113, h113, Try.f113), (114, T114, h114, Try.f114), (115, T115, h115, Try.f115), (116, T116, h116, Try.f116), (117, T117, h117, Try.f117), (119, T119, h119, Try.f119), (120, T120, h120, Try.f120), (121, T121, h121, Try.f121), (122, T122, h122, Try.f122), (123, T123, h123, Try.f123), (124, T124, h124, Try.f124), (125, { T125 with kns := true }, hOwn h125, Try.f125), (133, T133, h133, Try.f133), (134, T134, h134, Try.f134), (135, T135, h135, Try.f135), (136, T136, h136, Try.f136), (137, T137, h137, Try.f137), (138, T138, h138, Try.f138), (140, T140, h140, Try.f140), (141, T141, h141, Try.f141), (142, T142, h142, Try.f142), (143, T143, h143, Try.f143), (150, T150, h150, Try.f150), (151, T151, h151, Try.f151), (152, T152, h152, Try.f152), (156, T0, h156, Try.f156)]
theorem V45 : ∀ e ∈ tbl27, FnOk Try.prog e := all_cons ⟨tab0, Try.func27, by decide⟩ (all_cons ⟨tab0, Try.func30, by decide⟩ (all_cons ⟨tab0, Try.func31, by decide⟩ (all_cons ⟨tab0, Try.func32, by decide⟩ (all_cons ⟨tab0, Try.func34, by decide⟩ (all_cons ⟨tab0, Try.func35, by decide⟩ (all_cons ⟨tab0, Try.func55, by decide⟩ (all_cons ⟨tab0, Try.func56, by decide⟩ (all_cons ⟨tab0, Try.func58, by decide⟩ (all_cons ⟨tab0, Try.func59, by decide⟩ (all_cons ⟨tab0, Try.func60, by decide⟩ (all_cons ⟨tab0, Try.func62, by decide⟩ (all_cons ⟨tab0, Try.func63, by decide⟩ (all_cons ⟨tab0, Try.func64, by decide⟩ (all_cons ⟨tab0, Try.func65, by decide⟩ (all_cons ⟨tab0, Try.func66, by decide⟩ (all_cons ⟨tab0, Try.func67, by decide⟩ (all_cons ⟨tab0, Try.func68, by decide⟩ (all_cons ⟨tab0, Try.func69, by decide⟩ (all_cons ⟨tab0, Try.func70, by decide⟩ (all_cons ⟨tab0, Try.func71, by decide⟩ (all_cons ⟨tab0, Try.func72, by decide⟩ (all_cons ⟨tab0, Try.func81, by decide⟩ (all_cons ⟨tab0, Try.func82, by decide⟩ (all_cons ⟨tab0, Try.func83, by decide⟩ (all_cons ⟨tab0, Try.func84, by decide⟩ (all_cons ⟨tab0, Try.func85, by decide⟩ (all_cons ⟨tab0, Try.func86, by decide⟩ (all_cons ⟨tab0, Try.func87, by decide⟩ (all_cons ⟨tab0, Try.func88, by decide⟩ (all_cons ⟨tab0, Try.func89, by decide⟩ (all_cons ⟨tab0, Try.func91, by decide⟩ (all_cons ⟨tab0, Try.func92, by decide⟩ (all_cons ⟨tab0, Try.func93, by decide⟩ (all_cons ⟨tab0, Try.func94, by decide⟩ (all_cons ⟨tab0, Try.func95, by decide⟩ (all_cons ⟨tab0, Try.func96, by decide⟩ (all_cons ⟨tab0, Try.func97, by decide⟩ (all_cons ⟨tab0, Try.func98, by decide⟩ (all_cons ⟨tab0, Try.func99, by decide⟩ (all_cons ⟨tab0, Try.func100, by decide⟩ (all_cons ⟨tab0, Try.func101, by decide⟩ (all_cons ⟨tab0, Try.func102, by decide⟩ (all_cons ⟨(U21 (T := T103) tab0), Try.func103, by decide⟩ (all_cons ⟨tab0, Try.func104, by decide⟩ (all_cons ⟨tab0, Try.func112, by decide⟩ (all_cons ⟨tab0, Try.func113, by decide⟩ (all_cons ⟨tab0, Try.func114, by decide⟩ (all_cons ⟨tab0, Try.func115, by decide⟩ (all_cons ⟨tab0, Try.func116, by decide⟩ (all_cons ⟨tab0, Try.func117, by decide⟩ (all_cons ⟨tab0, Try.func119, by decide⟩ (all_cons ⟨tab0, Try.func120, by decide⟩ (all_cons ⟨tab0, Try.func121, by decide⟩ (all_cons ⟨tab0, Try.func122, by decide⟩ (all_cons ⟨tab0, Try.func123, by decide⟩ (all_cons ⟨tab0, Try.func124, by decide⟩ (all_cons ⟨(U21 (T := T125) tab0), Try.func125, by decide⟩ (all_cons ⟨tab0, Try.func133, by decide⟩ (all_cons ⟨tab0, Try.func134, by decide⟩ (all_cons ⟨tab0, Try.func135, by decide⟩ (all_cons ⟨tab0, Try.func136, by decide⟩ (all_cons ⟨tab0, Try.func137, by decide⟩ (all_cons ⟨tab0, Try.func138, by decide⟩ (all_cons ⟨tab0, Try.func140, by decide⟩ (all_cons ⟨tab0, Try.func141, by decide⟩ (all_cons ⟨tab0, Try.func142, by decide⟩ (all_cons ⟨tab0, Try.func143, by decide⟩ (all_cons ⟨tab0, Try.func150, by decide⟩ (all_cons ⟨tab0, Try.func151, by decide⟩ (all_cons ⟨tab0, Try.func152, by decide⟩ (all_cons ⟨tab0, Try.func156, by decide⟩ (all_nil))))))))))))))))))))))))))))))))))))))))))))))))))))))))))))))))))))))))
theorem X4m : SemF Try.prog 27 [] [] [.bool true] [] := Z1d X2 V45 (V0 (fs := [fs90]) (os := [os57, os61]) (all_cons X4b (all_nil)) (all_cons ok57 (all_cons ok61 (all_nil)))) 80 40 27 [] [] [.bool true] [] (by kernel_rfl)
set_option linter.unusedSimpArgs false
def nrM (m : MGt) : Bool := List.isEmpty (mAn m) && (List.isEmpty (mNs m) && List.isEmpty (mAr m))
def limN (most : Int) : Int := if (65535 : Int) < most then (65535 : Int) else most
def cutN (m : MGt) (most : Int) : MGt × Int := bif mayM m then (bif decide (((bytM m).length : Int) ≤ limN most) then (m, 0) else (noM, 3)) else (noM, 1)
def Q4h : FSpec := U4f.like fun (m, most, _) => .br (okPM m && nrM m) (.ret ((cutN m most).1, (cutN m most).2, ())) .no
theorem X4s : Q4h.Ok Try.prog := by
 refine U3 U4r _ ?_
 rintro ⟨(m : MGt), (most : Int), _⟩ y h
 rcases Q4m h with ⟨hc, h⟩ | ⟨_, h⟩
 · cases h
   simp only [Bool.and_eq_true] at hc
   obtain ⟨hp, hn⟩ := hc
   obtain ⟨hb, _, _⟩ := J0r.1 hp
   simp only [nrM, Bool.and_eq_true, List.isEmpty_iff] at hn
   refine J3 (vs := [AV.ofTy MG (cutN m most).1 true, .int .i64 (cutN m most).2]) rfl rfl (Tr.get_of_all ?_)
   show (t63n m most).all _
   unfold t63n
   refine Tr.all_t hb ?_
   cases hm : mayM m with
   | false =>
     have : cutN m most = (noM, 1) := by unfold cutN; rw [hm]; rfl
     rw [this]
     exact Tr.all_t rfl (Tr.all_ret rfl)
   | true =>
     refine Tr.all_f rfl (Tr.all_t (Q25 hp hm) ?_)
     by_cases hl : ((bytM m).length : Int) ≤ limN most
     · have : cutN m most = (m, 0) := by unfold cutN; rw [hm, X0 hl]; rfl
       rw [this]
       exact Tr.all_t (X0 hl) (Tr.all_ret rfl)
     · have : cutN m most = (noM, 3) := by unfold cutN; rw [hm, U0 hl]; rfl
       rw [this]
       refine Tr.all_f (U0 hl) (Tr.all_t ?_ (Tr.all_ret rfl))
       rw [show m.2.2.2.2.2.2.2.2.2.1 = [] from hn.1, show m.2.2.2.2.2.2.2.2.2.2.1 = [] from hn.2.1, show m.2.2.2.2.2.2.2.2.2.2.2 = [] from hn.2.2]
       rfl
 · exact (X4o h).elim
def t72 (g : MGt) : Tr Res := .br (g.2.2.2.2.2.2.1 != 0) (.ret ([.int .i64 4], [])) (.br ((↑g.2.2.2.2.2.2.2.2.1.length : Int) != 1) (.ret ([.int .i64 1], [])) (.br (decide ((↑g.2.2.2.2.2.2.2.2.2.1.length : Int) > 0)) (.ret ([.int .i64 1], [])) (.br (!g.2.2.2.2.1) (.ret ([.int .i64 5], [])) (.br (decide (0 < (↑g.2.2.2.2.2.2.2.2.1.length : Int))) (.br ((List.getD g.2.2.2.2.2.2.2.2.1 (Int.toNat 0) (Ty.dflt QQ)).2.2 != 1) (.ret ([.int .i64 5], [])) (.br (decide (0 < (↑g.2.2.2.2.2.2.2.2.1.length : Int))) (.br ((List.getD g.2.2.2.2.2.2.2.2.1 (Int.toNat 0) (Ty.dflt QQ)).2.1 == 0) (.ret ([.int .i64 4], [])) (.br (decide (0 < (↑g.2.2.2.2.2.2.2.2.1.length : Int))) (.br (decide ((List.getD g.2.2.2.2.2.2.2.2.1 (Int.toNat 0) (Ty.dflt QQ)).2.1 ≥ 128)) (.ret ([.int .i64 4], [])) (.ret ([.int .i64 0], []))) .no)) .no)) .no))))
def os72 : OSpec := { f := 72, sh := [.d MG true], so := [], F := fun (g, _) _ => t72 g }
theorem fn72 (g : MGt) : evC T0 (orcB [] []) (lpOf h72 0 (lsOf [])) c72 1000000 (V1 [AV.ofTy MG g true] [] Try.f72.ntmps) (J1 T0 false 0 Try.f72) = (t72 g).get := by kernel_rfl
theorem ok72 : os72.Ok Try.prog := by
 refine V3 X2 tab0 (V0 all_nil all_nil) h72 (d := 0) (n0 := 0) (S := lsOf []) Try.func72 (by kernel_rfl) (c := c72) (by kernel_rfl) rfl (U2 (by kernel_rfl)) (by omega) (by kernel_rfl) ?_
 intro x'' y'' q'' hq''
 obtain ⟨(g : MGt), _⟩ := x''
 exact (fn72 g).trans hq''
def fs72 : FSpec := fsT 72 [(MG, true)] [((.int .i64), false)] fun (g, _) => t72 g
theorem okf72 : fs72.Ok Try.prog := V6 fun x'' r'' hr'' => ok72 x'' () r'' hr''
def Z4e : FSpec := V4b.like fun (m, rc, _) => .ret ((Prod.fst m, true, false, false, Prod.fst (Prod.snd (Prod.snd (Prod.snd (Prod.snd m)))), true, Prod.fst (Prod.snd (Prod.snd (Prod.snd (Prod.snd (Prod.snd (Prod.snd m)))))), rc, Prod.fst (Prod.snd (Prod.snd (Prod.snd (Prod.snd (Prod.snd (Prod.snd (Prod.snd (Prod.snd m)))))))), [], [], []), ())
theorem J4w : Z4e.Ok Try.prog := by
 refine U3 X4x _ ?_
 rintro ⟨(m : MGt), (rc : Int), _⟩ y h
 exact h
def putO (m : MGt) : List UInt8 := bif decide (m.1 = m.1) then (putV m).1 else []
theorem X21 (m : MGt) : putO m = (putV m).1 := by unfold putO; rw [X0 rfl]; rfl
def J4l : FSpec := Z4f.like fun (m, _) => .on (okPM m) (putO m, (putV m).2, ())
theorem J4v : J4l.Ok Try.prog := by
 refine U3 Z4r _ ?_
 rintro ⟨(m : MGt), _⟩ y h
 obtain ⟨hc, rfl⟩ := Tr.get_on h
 show (Tr.on (okPM m) ((putV m).1, (putV m).2, ())).get = some (putO m, (putV m).2, ())
 rw [X21]
 show (Tr.br (okPM m) (Tr.ret _) Tr.no).get = _
 rw [show okPM m = true from hc]
 rfl
def t30 (g : MGt) (rc : Int) (an : List RRt) : Tr Res := .br (decide (rc < 0)) (.br (decide (g.2.2.2.2.2.2.1 < 0)) (.br (fits g.2.2.2.2.2.2.2.2.1.length 24) (.br (irC g.2.2.2.2.2.2.2.2.1 (↑g.2.2.2.2.2.2.2.2.1.length : Int) 0) (.br (fits an.length 40) (.br (List.isEmpty an && (decide ((↑an.length : Int) = (0 : Ty.den (Ty.int .i64))) && decide (0 = (0 : Ty.den (Ty.int .i64))))) (.br (okPM (g.1, true, false, false, g.2.2.2.2.1, true, 0, 2, g.2.2.2.2.2.2.2.2.1, an, [], []) && nrM (g.1, true, false, false, g.2.2.2.2.1, true, 0, 2, g.2.2.2.2.2.2.2.2.1, an, [], [])) (.br ((cutN (g.1, true, false, false, g.2.2.2.2.1, true, 0, 2, g.2.2.2.2.2.2.2.2.1, an, [], []) 512).2 != 0) (.br (okPM (g.1, true, false, true, g.2.2.2.2.1, true, 0, 2, [], [], [], [])) (.ret ([.str (putO (g.1, true, false, true, g.2.2.2.2.1, true, 0, 2, [], [], [], []))], [])) .no) (.br (okPM (cutN (g.1, true, false, false, g.2.2.2.2.1, true, 0, 2, g.2.2.2.2.2.2.2.2.1, an, [], []) 512).1) (.ret ([.str (putO (cutN (g.1, true, false, false, g.2.2.2.2.1, true, 0, 2, g.2.2.2.2.2.2.2.2.1, an, [], []) 512).1)], [])) .no)) .no) .no) .no) .no) .no) (.br (decide (g.2.2.2.2.2.2.1 > 15)) (.br (fits g.2.2.2.2.2.2.2.2.1.length 24) (.br (irC g.2.2.2.2.2.2.2.2.1 (↑g.2.2.2.2.2.2.2.2.1.length : Int) 0) (.br (fits an.length 40) (.br (List.isEmpty an && (decide ((↑an.length : Int) = (0 : Ty.den (Ty.int .i64))) && decide (0 = (0 : Ty.den (Ty.int .i64))))) (.br (okPM (g.1, true, false, false, g.2.2.2.2.1, true, 0, 2, g.2.2.2.2.2.2.2.2.1, an, [], []) && nrM (g.1, true, false, false, g.2.2.2.2.1, true, 0, 2, g.2.2.2.2.2.2.2.2.1, an, [], [])) (.br ((cutN (g.1, true, false, false, g.2.2.2.2.1, true, 0, 2, g.2.2.2.2.2.2.2.2.1, an, [], []) 512).2 != 0) (.br (okPM (g.1, true, false, true, g.2.2.2.2.1, true, 0, 2, [], [], [], [])) (.ret ([.str (putO (g.1, true, false, true, g.2.2.2.2.1, true, 0, 2, [], [], [], []))], [])) .no) (.br (okPM (cutN (g.1, true, false, false, g.2.2.2.2.1, true, 0, 2, g.2.2.2.2.2.2.2.2.1, an, [], []) 512).1) (.ret ([.str (putO (cutN (g.1, true, false, false, g.2.2.2.2.1, true, 0, 2, g.2.2.2.2.2.2.2.2.1, an, [], []) 512).1)], [])) .no)) .no) .no) .no) .no) .no) (.br (fits g.2.2.2.2.2.2.2.2.1.length 24) (.br (irC g.2.2.2.2.2.2.2.2.1 (↑g.2.2.2.2.2.2.2.2.1.length : Int) 0) (.br (fits an.length 40) (.br (List.isEmpty an && (decide ((↑an.length : Int) = (0 : Ty.den (Ty.int .i64))) && decide (0 = (0 : Ty.den (Ty.int .i64))))) (.br (okPM (g.1, true, false, false, g.2.2.2.2.1, true, g.2.2.2.2.2.2.1, 2, g.2.2.2.2.2.2.2.2.1, an, [], []) && nrM (g.1, true, false, false, g.2.2.2.2.1, true, g.2.2.2.2.2.2.1, 2, g.2.2.2.2.2.2.2.2.1, an, [], [])) (.br ((cutN (g.1, true, false, false, g.2.2.2.2.1, true, g.2.2.2.2.2.2.1, 2, g.2.2.2.2.2.2.2.2.1, an, [], []) 512).2 != 0) (.br (okPM (g.1, true, false, true, g.2.2.2.2.1, true, g.2.2.2.2.2.2.1, 2, [], [], [], [])) (.ret ([.str (putO (g.1, true, false, true, g.2.2.2.2.1, true, g.2.2.2.2.2.2.1, 2, [], [], [], []))], [])) .no) (.br (okPM (cutN (g.1, true, false, false, g.2.2.2.2.1, true, g.2.2.2.2.2.2.1, 2, g.2.2.2.2.2.2.2.2.1, an, [], []) 512).1) (.ret ([.str (putO (cutN (g.1, true, false, false, g.2.2.2.2.1, true, g.2.2.2.2.2.2.1, 2, g.2.2.2.2.2.2.2.2.1, an, [], []) 512).1)], [])) .no)) .no) .no) .no) .no) .no))) (.br (decide (rc > 15)) (.br (decide (g.2.2.2.2.2.2.1 < 0)) (.br (fits g.2.2.2.2.2.2.2.2.1.length 24) (.br (irC g.2.2.2.2.2.2.2.2.1 (↑g.2.2.2.2.2.2.2.2.1.length : Int) 0) (.br (fits an.length 40) (.br (List.isEmpty an && (decide ((↑an.length : Int) = (0 : Ty.den (Ty.int .i64))) && decide (0 = (0 : Ty.den (Ty.int .i64))))) (.br (okPM (g.1, true, false, false, g.2.2.2.2.1, true, 0, 2, g.2.2.2.2.2.2.2.2.1, an, [], []) && nrM (g.1, true, false, false, g.2.2.2.2.1, true, 0, 2, g.2.2.2.2.2.2.2.2.1, an, [], [])) (.br ((cutN (g.1, true, false, false, g.2.2.2.2.1, true, 0, 2, g.2.2.2.2.2.2.2.2.1, an, [], []) 512).2 != 0) (.br (okPM (g.1, true, false, true, g.2.2.2.2.1, true, 0, 2, [], [], [], [])) (.ret ([.str (putO (g.1, true, false, true, g.2.2.2.2.1, true, 0, 2, [], [], [], []))], [])) .no) (.br (okPM (cutN (g.1, true, false, false, g.2.2.2.2.1, true, 0, 2, g.2.2.2.2.2.2.2.2.1, an, [], []) 512).1) (.ret ([.str (putO (cutN (g.1, true, false, false, g.2.2.2.2.1, true, 0, 2, g.2.2.2.2.2.2.2.2.1, an, [], []) 512).1)], [])) .no)) .no) .no) .no) .no) .no) (.br (decide (g.2.2.2.2.2.2.1 > 15)) (.br (fits g.2.2.2.2.2.2.2.2.1.length 24) (.br (irC g.2.2.2.2.2.2.2.2.1 (↑g.2.2.2.2.2.2.2.2.1.length : Int) 0) (.br (fits an.length 40) (.br (List.isEmpty an && (decide ((↑an.length : Int) = (0 : Ty.den (Ty.int .i64))) && decide (0 = (0 : Ty.den (Ty.int .i64))))) (.br (okPM (g.1, true, false, false, g.2.2.2.2.1, true, 0, 2, g.2.2.2.2.2.2.2.2.1, an, [], []) && nrM (g.1, true, false, false, g.2.2.2.2.1, true, 0, 2, g.2.2.2.2.2.2.2.2.1, an, [], [])) (.br ((cutN (g.1, true, false, false, g.2.2.2.2.1, true, 0, 2, g.2.2.2.2.2.2.2.2.1, an, [], []) 512).2 != 0) (.br (okPM (g.1, true, false, true, g.2.2.2.2.1, true, 0, 2, [], [], [], [])) (.ret ([.str (putO (g.1, true, false, true, g.2.2.2.2.1, true, 0, 2, [], [], [], []))], [])) .no) (.br (okPM (cutN (g.1, true, false, false, g.2.2.2.2.1, true, 0, 2, g.2.2.2.2.2.2.2.2.1, an, [], []) 512).1) (.ret ([.str (putO (cutN (g.1, true, false, false, g.2.2.2.2.1, true, 0, 2, g.2.2.2.2.2.2.2.2.1, an, [], []) 512).1)], [])) .no)) .no) .no) .no) .no) .no) (.br (fits g.2.2.2.2.2.2.2.2.1.length 24) (.br (irC g.2.2.2.2.2.2.2.2.1 (↑g.2.2.2.2.2.2.2.2.1.length : Int) 0) (.br (fits an.length 40) (.br (List.isEmpty an && (decide ((↑an.length : Int) = (0 : Ty.den (Ty.int .i64))) && decide (0 = (0 : Ty.den (Ty.int .i64))))) (.br (okPM (g.1, true, false, false, g.2.2.2.2.1, true, g.2.2.2.2.2.2.1, 2, g.2.2.2.2.2.2.2.2.1, an, [], []) && nrM (g.1, true, false, false, g.2.2.2.2.1, true, g.2.2.2.2.2.2.1, 2, g.2.2.2.2.2.2.2.2.1, an, [], [])) (.br ((cutN (g.1, true, false, false, g.2.2.2.2.1, true, g.2.2.2.2.2.2.1, 2, g.2.2.2.2.2.2.2.2.1, an, [], []) 512).2 != 0) (.br (okPM (g.1, true, false, true, g.2.2.2.2.1, true, g.2.2.2.2.2.2.1, 2, [], [], [], [])) (.ret ([.str (putO (g.1, true, false, true, g.2.2.2.2.1, true, g.2.2.2.2.2.2.1, 2, [], [], [], []))], [])) .no) (.br (okPM (cutN (g.1, true, false, false, g.2.2.2.2.1, true, g.2.2.2.2.2.2.1, 2, g.2.2.2.2.2.2.2.2.1, an, [], []) 512).1) (.ret ([.str (putO (cutN (g.1, true, false, false, g.2.2.2.2.1, true, g.2.2.2.2.2.2.1, 2, g.2.2.2.2.2.2.2.2.1, an, [], []) 512).1)], [])) .no)) .no) .no) .no) .no) .no))) (.br (decide (g.2.2.2.2.2.2.1 < 0)) (.br (fits g.2.2.2.2.2.2.2.2.1.length 24) (.br (irC g.2.2.2.2.2.2.2.2.1 (↑g.2.2.2.2.2.2.2.2.1.length : Int) 0) (.br (fits an.length 40) (.br (List.isEmpty an && (decide ((↑an.length : Int) = (0 : Ty.den (Ty.int .i64))) && decide (0 = (0 : Ty.den (Ty.int .i64))))) (.br (okPM (g.1, true, false, false, g.2.2.2.2.1, true, 0, rc, g.2.2.2.2.2.2.2.2.1, an, [], []) && nrM (g.1, true, false, false, g.2.2.2.2.1, true, 0, rc, g.2.2.2.2.2.2.2.2.1, an, [], [])) (.br ((cutN (g.1, true, false, false, g.2.2.2.2.1, true, 0, rc, g.2.2.2.2.2.2.2.2.1, an, [], []) 512).2 != 0) (.br (okPM (g.1, true, false, true, g.2.2.2.2.1, true, 0, rc, [], [], [], [])) (.ret ([.str (putO (g.1, true, false, true, g.2.2.2.2.1, true, 0, rc, [], [], [], []))], [])) .no) (.br (okPM (cutN (g.1, true, false, false, g.2.2.2.2.1, true, 0, rc, g.2.2.2.2.2.2.2.2.1, an, [], []) 512).1) (.ret ([.str (putO (cutN (g.1, true, false, false, g.2.2.2.2.1, true, 0, rc, g.2.2.2.2.2.2.2.2.1, an, [], []) 512).1)], [])) .no)) .no) .no) .no) .no) .no) (.br (decide (g.2.2.2.2.2.2.1 > 15)) (.br (fits g.2.2.2.2.2.2.2.2.1.length 24) (.br (irC g.2.2.2.2.2.2.2.2.1 (↑g.2.2.2.2.2.2.2.2.1.length : Int) 0) (.br (fits an.length 40) (.br (List.isEmpty an && (decide ((↑an.length : Int) = (0 : Ty.den (Ty.int .i64))) && decide (0 = (0 : Ty.den (Ty.int .i64))))) (.br (okPM (g.1, true, false, false, g.2.2.2.2.1, true, 0, rc, g.2.2.2.2.2.2.2.2.1, an, [], []) && nrM (g.1, true, false, false, g.2.2.2.2.1, true, 0, rc, g.2.2.2.2.2.2.2.2.1, an, [], [])) (.br ((cutN (g.1, true, false, false, g.2.2.2.2.1, true, 0, rc, g.2.2.2.2.2.2.2.2.1, an, [], []) 512).2 != 0) (.br (okPM (g.1, true, false, true, g.2.2.2.2.1, true, 0, rc, [], [], [], [])) (.ret ([.str (putO (g.1, true, false, true, g.2.2.2.2.1, true, 0, rc, [], [], [], []))], [])) .no) (.br (okPM (cutN (g.1, true, false, false, g.2.2.2.2.1, true, 0, rc, g.2.2.2.2.2.2.2.2.1, an, [], []) 512).1) (.ret ([.str (putO (cutN (g.1, true, false, false, g.2.2.2.2.1, true, 0, rc, g.2.2.2.2.2.2.2.2.1, an, [], []) 512).1)], [])) .no)) .no) .no) .no) .no) .no) (.br (fits g.2.2.2.2.2.2.2.2.1.length 24) (.br (irC g.2.2.2.2.2.2.2.2.1 (↑g.2.2.2.2.2.2.2.2.1.length : Int) 0) (.br (fits an.length 40) (.br (List.isEmpty an && (decide ((↑an.length : Int) = (0 : Ty.den (Ty.int .i64))) && decide (0 = (0 : Ty.den (Ty.int .i64))))) (.br (okPM (g.1, true, false, false, g.2.2.2.2.1, true, g.2.2.2.2.2.2.1, rc, g.2.2.2.2.2.2.2.2.1, an, [], []) && nrM (g.1, true, false, false, g.2.2.2.2.1, true, g.2.2.2.2.2.2.1, rc, g.2.2.2.2.2.2.2.2.1, an, [], [])) (.br ((cutN (g.1, true, false, false, g.2.2.2.2.1, true, g.2.2.2.2.2.2.1, rc, g.2.2.2.2.2.2.2.2.1, an, [], []) 512).2 != 0) (.br (okPM (g.1, true, false, true, g.2.2.2.2.1, true, g.2.2.2.2.2.2.1, rc, [], [], [], [])) (.ret ([.str (putO (g.1, true, false, true, g.2.2.2.2.1, true, g.2.2.2.2.2.2.1, rc, [], [], [], []))], [])) .no) (.br (okPM (cutN (g.1, true, false, false, g.2.2.2.2.1, true, g.2.2.2.2.2.2.1, rc, g.2.2.2.2.2.2.2.2.1, an, [], []) 512).1) (.ret ([.str (putO (cutN (g.1, true, false, false, g.2.2.2.2.1, true, g.2.2.2.2.2.2.1, rc, g.2.2.2.2.2.2.2.2.1, an, [], []) 512).1)], [])) .no)) .no) .no) .no) .no) .no))))
def os30 : OSpec := { f := 30, sh := [.d MG true, .d (.int .i64) false, .d (.list RR) false], so := [], F := fun (g, rc, an, _) _ => t30 g rc an }
theorem fn30 (g : MGt) (rc : Int) (an : List RRt) : evC T0 (orcB [Z4e, Q4h, J4l] [os57, os61, Q4j, X4l]) (lpOf h30 0 (lsOf [])) c30 1000000 (V1 [AV.ofTy MG g true, .int .i64 rc, .list RR an] [] Try.f30.ntmps) (J1 T0 false 0 Try.f30) = (t30 g rc an).get := by kernel_rfl
theorem ok30 : os30.Ok Try.prog := by
 refine V3 X2 tab0 (V0 (all_cons J4w (all_cons X4s (all_cons J4v all_nil))) (all_cons ok57 (all_cons ok61 (all_cons ok56r (all_cons ok60r all_nil))))) h30 (d := 0) (n0 := 0) (S := lsOf []) Try.func30 (by kernel_rfl) (c := c30) (by kernel_rfl) rfl (U2 (by kernel_rfl)) (by omega) (by kernel_rfl) ?_
 intro x'' y'' q'' hq''
 obtain ⟨(g : MGt), (rc : Int), (an : List RRt), _⟩ := x''
 exact (fn30 g rc an).trans hq''
def fs30 : FSpec := fsT 30 [(MG, true), ((.int .i64), false), ((.list RR), false)] [(.str, false)] fun (g, rc, an, _) => t30 g rc an
theorem okf30 : fs30.Ok Try.prog := V6 fun x'' r'' hr'' => ok30 x'' () r'' hr''
theorem Q3b (m : MGt) : (J04 m).length = 12 := rfl
def q0M (m : MGt) : QQt := List.getD (mQ m) 0 ([], 0, 0)
def Ve (m : MGt) : Int :=
 bif m.2.2.2.2.2.2.1 != 0 then 4 else bif ((mQ m).length : Int) != 1 then 1 else bif decide (((mAn m).length : Int) > 0) then 1 else bif !m.2.2.2.2.1 then 5 else
 bif (q0M m).2.2 != 1 then 5 else bif (q0M m).2.1 == 0 then 4 else bif decide ((q0M m).2.1 ≥ 128) then 4 else 0
def Z4c : FSpec := fs72.like fun (m, _) => .ret (Ve m, ())
theorem J4t : Z4c.Ok Try.prog := by
 refine U3 okf72 _ ?_
 rintro ⟨(m : MGt), _⟩ y h
 cases h
 refine J3 (vs := [.int .i64 (Ve m)]) rfl rfl (Tr.get_of_all ?_)
 show (t72 m).all _
 unfold t72
 have e : ∀ v : Int, Ve m = v → Tr.all (fun r : Res => r = ([.int .i64 (Ve m)], [])) (Tr.ret ([.int .i64 v], [])) := fun v hv => Tr.all_ret (by rw [hv])
 refine Tr.all_br (fun c1 => e _ ?_) (fun c1 => Tr.all_br (fun c2 => e _ ?_) (fun c2 => Tr.all_br (fun c3 => e _ ?_) (fun c3 => Tr.all_br (fun c4 => e _ ?_) (fun c4 => ?_))))
 · unfold Ve; rw [c1]; rfl
 · unfold Ve mQ; rw [c1, c2]; rfl
 · unfold Ve mQ mAn; rw [c1, c2, c3]; rfl
 · unfold Ve mQ mAn; rw [c1, c2, c3, c4]; rfl
 · have hl : (0 : Int) < ((mQ m).length : Int) := by
     have c2 : (!(((mQ m).length : Int) == 1)) = false := c2
     cases hb : (((mQ m).length : Int) == 1) with
     | true => have := eq_of_beq hb; omega
     | false => rw [hb] at c2; cases c2
   refine Tr.all_t (X0 hl) (Tr.all_br (fun c5 => e _ ?_) (fun c5 => Tr.all_t (X0 hl) (Tr.all_br (fun c6 => e _ ?_) (fun c6 => Tr.all_t (X0 hl) (Tr.all_br (fun c7 => e _ ?_) (fun c7 => e _ ?_))))))
   · unfold Ve mAn mQ; rw [c1, c2, c3, c4, show ((q0M m).2.2 != 1) = true from c5]; rfl
   · unfold Ve mAn mQ; rw [c1, c2, c3, c4, show ((q0M m).2.2 != 1) = false from c5, show ((q0M m).2.1 == 0) = true from c6]; rfl
   · unfold Ve mAn mQ; rw [c1, c2, c3, c4, show ((q0M m).2.2 != 1) = false from c5, show ((q0M m).2.1 == 0) = false from c6, show decide ((q0M m).2.1 ≥ 128) = true from c7]; rfl
   · unfold Ve mAn mQ; rw [c1, c2, c3, c4, show ((q0M m).2.2 != 1) = false from c5, show ((q0M m).2.1 == 0) = false from c6, show decide ((q0M m).2.1 ≥ 128) = false from c7]; rfl
def X5 (s : List UInt8) : MGt × (Int × Bool) :=
 bif (hdV s).2 != 0 then (noM, 0, false) else bif (hdV s).1.2.1 then (noM, 0, false) else bif (tkV6 s).2 != 0 then ((hdV s).1, 1, true) else ((tkV6 s).1, Ve (tkV6 s).1, true)
def t35w (s : List UInt8) : Tr Res := .br (decide (List.length s ≤ 100000000)) (.br ((hdV s).2 != 0) (.ret ([.agg [.int .u16 0, .bool false, .bool false, .bool false, .bool false, .bool false, .int .i64 0, .int .i64 0, .list QQ [], .list RR [], .list RR [], .list RR []], .int .i64 0, .bool false], [])) (.br (hdV s).1.2.1 (.ret ([.agg [.int .u16 0, .bool false, .bool false, .bool false, .bool false, .bool false, .int .i64 0, .int .i64 0, .list QQ [], .list RR [], .list RR [], .list RR []], .int .i64 0, .bool false], [])) (.br (smS s) (.br ((tkV6 s).2 != 0) (.ret ([.agg [.int .u16 (hdV s).1.1, .bool (hdV s).1.2.1, .bool (hdV s).1.2.2.1, .bool (hdV s).1.2.2.2.1, .bool (hdV s).1.2.2.2.2.1, .bool (hdV s).1.2.2.2.2.2.1, .int .i64 (hdV s).1.2.2.2.2.2.2.1, .int .i64 (hdV s).1.2.2.2.2.2.2.2.1, .list QQ (hdV s).1.2.2.2.2.2.2.2.2.1, .list RR (hdV s).1.2.2.2.2.2.2.2.2.2.1, .list RR (hdV s).1.2.2.2.2.2.2.2.2.2.2.1, .list RR (hdV s).1.2.2.2.2.2.2.2.2.2.2.2], .int .i64 1, .bool true], [])) (.ret ([.agg [.int .u16 (tkV6 s).1.1, .bool (tkV6 s).1.2.1, .bool (tkV6 s).1.2.2.1, .bool (tkV6 s).1.2.2.2.1, .bool (tkV6 s).1.2.2.2.2.1, .bool (tkV6 s).1.2.2.2.2.2.1, .int .i64 (tkV6 s).1.2.2.2.2.2.2.1, .int .i64 (tkV6 s).1.2.2.2.2.2.2.2.1, .list QQ (tkV6 s).1.2.2.2.2.2.2.2.2.1, .list RR (tkV6 s).1.2.2.2.2.2.2.2.2.2.1, .list RR (tkV6 s).1.2.2.2.2.2.2.2.2.2.2.1, .list RR (tkV6 s).1.2.2.2.2.2.2.2.2.2.2.2], .int .i64 (Ve (tkV6 s).1), .bool true], []))) .no))) .no
def os35w : OSpec := { f := 35, sh := [.d .str false], so := [], F := fun (s, _) _ => t35w s }
theorem fn35w (s : List UInt8) : evC T0 (orcB [U4c, J4h, Z4c] []) (lpOf h35 0 (lsOf [])) c35 1000000 (V1 [.str s] [] Try.f35.ntmps) (J1 T0 false 0 Try.f35) = (t35w s).get := by kernel_rfl
theorem ok35w : os35w.Ok Try.prog := by
 refine V3 X2 tab0 (V0 (all_cons Q4s (all_cons V4x (all_cons J4t all_nil))) all_nil) h35 (d := 0) (n0 := 0) (S := lsOf []) Try.func35 (by kernel_rfl) (c := c35) (by kernel_rfl) rfl (U2 (by kernel_rfl)) (by omega) (by kernel_rfl) ?_
 intro x'' y'' q'' hq''
 obtain ⟨(s : List UInt8), _⟩ := x''
 exact (fn35w s).trans hq''
def U4g : FSpec := fsT 35 [(.str, false)] [(MG, true), ((.int .i64), false), (.bool, false)] fun (s, _) => t35w s
theorem Q4y : U4g.Ok Try.prog := V6 fun x'' r'' hr'' => ok35w x'' () r'' hr''
def X4i : FSpec := U4g.like fun (s, _) => .on (smS s) ((X5 s).1, (X5 s).2.1, (X5 s).2.2, ())
theorem V4t : X4i.Ok Try.prog := by
 refine U3 Q4y _ ?_
 rintro ⟨(s : List UInt8), _⟩ y h
 obtain ⟨hc, rfl⟩ := Tr.get_on h
 have hc : smS s = true := hc
 refine J3 (vs := [AV.ofTy MG (X5 s).1 true, .int .i64 (X5 s).2.1, .bool (X5 s).2.2]) rfl rfl (Tr.get_of_all ?_)
 show (t35w s).all _
 unfold t35w
 refine Tr.all_t hc (Tr.all_br (fun c1 => ?_) (fun c1 => Tr.all_br (fun c2 => ?_) (fun c2 => Tr.all_t hc (Tr.all_br (fun c3 => ?_) (fun c3 => ?_)))))
 · have : X5 s = (noM, 0, false) := by unfold X5; rw [c1]; rfl
   rw [this]; exact Tr.all_ret rfl
 · have : X5 s = (noM, 0, false) := by unfold X5; rw [c1, c2]; rfl
   rw [this]; exact Tr.all_ret rfl
 · have : X5 s = ((hdV s).1, 1, true) := by unfold X5; rw [c1, c2, c3]; rfl
   rw [this]; exact Tr.all_ret rfl
 · have : X5 s = ((tkV6 s).1, Ve (tkV6 s).1, true) := by unfold X5; rw [c1, c2, c3]; rfl
   rw [this]; exact Tr.all_ret rfl
def trcV (m : MGt) (rc : Int) : MGt := (m.1, true, false, true, m.2.2.2.2.1, true, m.2.2.2.2.2.2.1, rc, [], [], [], [])
def Xj (m : MGt) (rc : Int) : List UInt8 := bif decide (((bytM (Zh m rc)).length : Int) ≤ 512) then bytM (Zh m rc) else bytM (trcV m rc)
def rsK (m : MGt) (rc : Int) : Bool := (decide (0 ≤ rc) && decide (rc ≤ 15)) && ((decide (0 ≤ m.2.2.2.2.2.2.1) && decide (m.2.2.2.2.2.2.1 ≤ 15)) && (n16C m.1 && (decide ((mQ m).length ≤ 1500) && (mQ m).all fun q => mayV q.1 && rngQ q)))
theorem X3m {m : MGt} {rc : Int} (h : rsK m rc = true) : (0 ≤ rc ∧ rc ≤ 15) ∧ (0 ≤ m.2.2.2.2.2.2.1 ∧ m.2.2.2.2.2.2.1 ≤ 15) ∧ n16C m.1 = true ∧ (mQ m).length ≤ 1500 ∧ (∀ q ∈ mQ m, mayV q.1 = true ∧ rngQ q = true) := by
 simp only [rsK, Bool.and_eq_true, decide_eq_true_eq, List.all_eq_true] at h
 exact ⟨h.1, h.2.1, h.2.2.1, h.2.2.2.1, h.2.2.2.2⟩
theorem Q2u {q : QQt} (h : mayV q.1 = true) : bigQ q = true := by
 obtain ⟨_, h2, _⟩ := Up.1 h
 unfold bigQ bigS
 exact decide_eq_true (by omega)
theorem V4c {i : Int} {b1 b2 b3 b4 b5 : Bool} {op rc : Int} {Q : List QQt} (hi : n16C i = true) (hl : Q.length ≤ 1500) (hq : ∀ q ∈ Q, mayV q.1 = true ∧ rngQ q = true) : okPM (i, b1, b2, b3, b4, b5, op, rc, Q, [], [], []) = true := by
 refine J0r.2 ⟨?_, ?_, ?_⟩
 · show (okQ Q && (okL [] && (okL [] && okL []))) = true
   unfold okQ
   rw [Nat.ble_eq_true_of_le (by omega), List.all_eq_true.2 fun q h => Q2u (hq q h).1]
   rfl
 · show (n16C i && (Q.all rngQ && _)) = true
   rw [hi, List.all_eq_true.2 fun q h => (hq q h).2]
   rfl
 · show (decide (Q.length ≤ 1500) && _) = true
   rw [decide_eq_true hl]
   rfl
theorem U3e {i : Int} {b1 b2 b3 b4 b5 : Bool} {op rc : Int} {Q : List QQt} (ho : 0 ≤ op ∧ op ≤ 15) (hr : 0 ≤ rc ∧ rc ≤ 15) (hl : Q.length ≤ 1500) (hq : ∀ q ∈ Q, mayV q.1 = true) : mayM (i, b1, b2, b3, b4, b5, op, rc, Q, [], [], []) = true := by
 show ((decide (0 ≤ op) && (decide (op ≤ 15) && (decide (0 ≤ rc) && decide (rc ≤ 15)))) && (Q0i Q && (Vw [] && (Vw [] && Vw [])))) = true
 have h2 : Vw [] = true := rfl
 have h3 : Q0i Q = true := by
  unfold Q0i
  rw [show Q.any noQ = false from ?_, decide_eq_true (show Q.length ≤ 65535 by omega)]
  · rfl
  · cases hb : Q.any noQ with
    | false => rfl
    | true =>
      obtain ⟨q, hx, hn⟩ := List.any_eq_true.1 hb
      unfold noQ at hn
      rw [hq q hx] at hn
      cases hn
 rw [h2, h3, X0 ho.1, X0 ho.2, X0 hr.1, X0 hr.2]
 rfl
theorem Q3r {m : MGt} (hm : mayM m = true) (hl : (bytM m).length ≤ 65535) : (putV m).1 = bytM m := by
 unfold putV
 rw [hm, cond_true, U0 (show ¬ ((bytM m).length : Int) > 65535 by omega)]
 rfl
def Z4h : FSpec := fs30.like fun (m, rc, an, _) => .on (rsK m rc && List.isEmpty an) (Xj m rc, ())
theorem U4x : Z4h.Ok Try.prog := by
 refine U3 okf30 _ ?_
 rintro ⟨(m : MGt), (rc : Int), (an : List RRt), _⟩ y h
 obtain ⟨hc, rfl⟩ := Tr.get_on h
 have hc2 : (rsK m rc && List.isEmpty an) = true := hc
 rw [Bool.and_eq_true, List.isEmpty_iff] at hc2
 obtain ⟨hc3, rfl⟩ := hc2
 obtain ⟨hr, ho, hi, hl, hq⟩ := X3m hc3
 have hqm : ∀ q ∈ mQ m, mayV q.1 = true := fun q h => (hq q h).1
 refine J3 (vs := [.str (Xj m rc)]) rfl rfl (Tr.get_of_all ?_)
 show (t30 m rc []).all _
 unfold t30
 have ir : irC (mQ m) ((mQ m).length : Int) 0 = true := by
  unfold irC
  rw [Nat.ble_eq_true_of_le (by omega), List.all_eq_true.2 fun q h => Q2u (hqm q h), List.all_eq_true.2 hqm, X0 rfl]
  rfl
 have okA : okPM (Zh m rc) = true := V4c hi hl hq
 have myA : mayM (Zh m rc) = true := U3e ho hr hl hqm
 have okT' : okPM (trcV m rc) = true := V4c hi (Nat.zero_le _) (fun q h => by cases h)
 have myT : mayM (trcV m rc) = true := U3e ho hr (Nat.zero_le _) (fun q h => by cases h)
 have lnT : (bytM (trcV m rc)).length = 12 := rfl
 refine Tr.all_f (U0 (by omega)) (Tr.all_f (U0 (by omega)) (Tr.all_f (U0 (by omega)) (Tr.all_f (U0 (by omega)) ?_)))
 refine Tr.all_t (Q6 (show (mQ m).length * 24 ≤ _ by omega) (show (mQ m).length ≤ _ by omega)) (Tr.all_t ir (Tr.all_t rfl (Tr.all_t rfl (Tr.all_t (show (okPM (Zh m rc) && nrM (Zh m rc)) = true by rw [okA]; rfl) ?_))))
 by_cases h5 : ((bytM (Zh m rc)).length : Int) ≤ 512
 · have hcut : cutN (Zh m rc) 512 = (Zh m rc, 0) := by unfold cutN; rw [myA, show limN 512 = 512 from rfl, X0 h5]; rfl
   have hresp : Xj m rc = bytM (Zh m rc) := by unfold Xj; rw [X0 h5]; rfl
   refine Tr.all_f (show (Prod.snd (cutN (Zh m rc) 512) != 0) = false by rw [hcut]; rfl) (Tr.all_t (show okPM (Prod.fst (cutN (Zh m rc) 512)) = true by rw [hcut]; exact okA) (Tr.all_ret ?_))
   rw [hresp, ← Q3r myA (by omega), ← X21]
   show ([AV.str (putO (Prod.fst (cutN (Zh m rc) 512)))], []) = _
   rw [hcut]
 · have hcut : cutN (Zh m rc) 512 = (noM, 3) := by unfold cutN; rw [myA, show limN 512 = 512 from rfl, U0 h5]; rfl
   have hresp : Xj m rc = bytM (trcV m rc) := by unfold Xj; rw [U0 h5]; rfl
   refine Tr.all_t (show (Prod.snd (cutN (Zh m rc) 512) != 0) = true by rw [hcut]; rfl) (Tr.all_t okT' (Tr.all_ret ?_))
   rw [hresp, ← Q3r myT (by omega), ← X21]
   rfl
def U4e : OSpec := { f := 27, sh := [], so := [], F := fun _ _ => .ret ([.bool true], []) }
theorem ok27d : U4e.Ok Try.prog := by
 rintro _ _ r h
 cases h
 exact X4m
theorem Z1z {α : Type} {f : Int → Option (α × Int)} {P : α → Prop} {N : Int} (hf : ∀ a x e, 0 ≤ a → f a = some (x, e) → P x ∧ a < e ∧ e ≤ N) : ∀ (n : Nat) (a : Int), 0 ≤ a → a ≤ N → (∀ x ∈ (tkF f n a).1, P x) ∧ a + ((tkF f n a).1.length : Int) ≤ (tkF f n a).2.1 ∧ (tkF f n a).2.1 ≤ N
 | 0, a, h0, h1 => ⟨fun x hx => (nomatch (show x ∈ ([] : List α) from hx)), by show a + 0 ≤ a; omega, h1⟩
 | n + 1, a, h0, h1 => by
   cases ht : f a with
   | none => rw [X06 ht]; exact ⟨fun x hx => (nomatch (show x ∈ ([] : List α) from hx)), by show a + 0 ≤ a; omega, h1⟩
   | some p =>
     obtain ⟨x, e⟩ := p
     obtain ⟨p1, p2, p3⟩ := hf a x e h0 ht
     obtain ⟨g1, g2, g3⟩ := Z1z hf n e (by omega) p3
     rw [U06 ht]
     refine ⟨fun y hy => ?_, ?_, g3⟩
     · rcases List.mem_cons.1 hy with rfl | hy
       · exact p1
       · exact g1 y hy
     · show a + (((x :: (tkF f n e).1).length : Nat) : Int) ≤ (tkF f n e).2.1
       rw [List.length_cons]
       omega
theorem Q2v {s : List UInt8} {a e : Int} {q : QQt} (h : tkQ s a = some (q, e)) : rngQ q = true := by
 unfold tkQ at h
 split at h
 · cases h
 · split at h
   · cases h
     unfold rngQ
     rw [Vo (Vi s _), Vo (Vi s _)]
     rfl
   · cases h
theorem X48 {s : List UInt8} {a e : Int} {r : RRt} (h : tkR s a = some (r, e)) : rngR r = true := by
 unfold tkR at h
 split at h
 · cases h
 · rename_i p hp
   have hq := Q2v (q := p.1) (e := p.2) hp
   split at h
   · split at h
     · cases h
       unfold rngQ at hq
       obtain ⟨h1, h2⟩ := Bool.and_eq_true_iff.1 hq
       unfold rngR
       simp only
       have h3 : n32C (n32 s p.2) = true := by
        have m1 := Vi s p.2
        have m2 := Vi s (p.2 + 2)
        unfold n32C n32
        rw [X0 (by omega), X0 (by omega)]; rfl
       rw [h1, h2, h3]
       rfl
     · cases h
   · cases h
theorem V1d {l : List RRt} (hl : l.length ≤ 65535) (h : ∀ r ∈ l, rgR r = true) : Vw l = true := by
 unfold Vw
 rw [X0 hl, Bool.and_true, Bool.not_eq_true', List.any_eq_false]
 intro r hr
 have := h r hr
 unfold rgR at this
 unfold noR
 rw [(Bool.and_eq_true_iff.1 this).1]
 decide
theorem V38 {l : List QQt} (hl : l.length ≤ 65535) (h : ∀ q ∈ l, rgQ q = true) : Q0i l = true := by
 unfold Q0i
 rw [X0 hl, Bool.and_true, Bool.not_eq_true', List.any_eq_false]
 intro q hq
 have := h q hq
 unfold rgQ at this
 unfold noQ
 rw [(Bool.and_eq_true_iff.1 this).1]
 decide
theorem Z46 {r : RRt} (h : rgR r = true) : rngR r = true := (Bool.and_eq_true_iff.1 (show (recV r && rngR r) = true from h)).2
theorem Q42 {q : QQt} (h : rgQ q = true) : rngQ q = true := (Bool.and_eq_true_iff.1 (show (mayV q.1 && rngQ q) = true from h)).2
theorem J3a {m : MGt} (h1 : mayN m = true) (h2 : n16C m.1 = true) (hl : (mQ m).length ≤ 1500 ∧ (mAn m).length ≤ 1500 ∧ (mNs m).length ≤ 1500 ∧ (mAr m).length ≤ 1500) (hq : ∀ q ∈ mQ m, rgQ q = true) (ha : ∀ r ∈ mAn m, rgR r = true) (hn : ∀ r ∈ mNs m, rgR r = true) (hr : ∀ r ∈ mAr m, rgR r = true) :
    X0a m = true ∧ bigM m = true := by
 obtain ⟨l1, l2, l3, l4⟩ := hl
 have hall : ∀ r ∈ Q0b m, rgR r = true := fun r h => by
  rcases List.mem_append.1 h with h | h
  · exact ha r h
  · rcases List.mem_append.1 h with h | h
    · exact hn r h
    · exact hr r h
 have hles := Q17.2 ⟨l1, l2, l3, l4⟩
 refine ⟨?_, Q3x hles (fun r h => by have := Q3s (hall r h); omega) fun q h => by have := Z2f (hq q h); omega⟩
 have hmay : mayM m = true := X29.2 ⟨h1, V38 (by omega) hq, V1d (by omega) ha, V1d (by omega) hn, V1d (by omega) hr⟩
 have hrng : rngM m = true := by
  unfold rngM
  have a1 : (mQ m).all rngQ = true := List.all_eq_true.2 fun q h => Q42 (hq q h)
  have a2 : (Q0b m).all rngR = true := List.all_eq_true.2 fun r h => Z46 (hall r h)
  rw [h2, a1, a2]; rfl
 unfold X0a
 rw [hmay, hrng, hles]; rfl
theorem J2z {s : List UInt8} (hs : s.length ≤ 1500) (h : isM s = true) : X0a (tkV6 s).1 = true ∧ bigM (tkV6 s).1 = true := by
 have e : tkV6 s = (V24 (hdM s) (tkqV s).1 (tkrV s).1.1 (tkrV s).1.2.1 (tkrV s).1.2.2, 0) := by unfold tkV6; rw [h]; rfl
 rw [e]
 unfold isM at h
 simp only [Bool.and_eq_true] at h
 obtain ⟨h0, hq2, hr2, _⟩ := h
 have hl := of_decide_eq_false (nt5 h0)
 have hf := Vi s 2
 obtain ⟨q1, q2, q3⟩ := Z1z (f := tkQ s) (P := fun q => rgQ q = true) (N := s.length) (fun a x e ha hx => by
  obtain ⟨g1, g2, g3⟩ := Q0f ha hx
  exact ⟨Bool.and_eq_true_iff.2 ⟨g1, Q2v hx⟩, g2, g3⟩) (n16 s 4).toNat 12 (by omega) (by omega)
 have key : ∀ n a, 0 ≤ a → a ≤ (s.length : Int) → (∀ x ∈ (kR s n a).1, rgR x = true) ∧ a + ((kR s n a).1.length : Int) ≤ (kR s n a).2.1 ∧ (kR s n a).2.1 ≤ (s.length : Int) := fun n a ha hb =>
  Z1z (f := tkR s) (P := fun r => rgR r = true) (N := s.length) (fun a x e ha hx => by
   obtain ⟨g1, g2, g3⟩ := Z05 ha hx
   exact ⟨Bool.and_eq_true_iff.2 ⟨g1, X48 hx⟩, g2, g3⟩) n.toNat a ha hb
 have q1 : ∀ x ∈ (tkqV s).1, rgQ x = true := q1
 have q2 : 12 + ((tkqV s).1.length : Int) ≤ (tkqV s).2.1 := q2
 have q3 : (tkqV s).2.1 ≤ (s.length : Int) := q3
 unfold tkrV at hr2 ⊢
 generalize tkqV s = Q at *
 generalize hx : kR s (n16 s 6) Q.2.1 = x at *
 obtain ⟨l1, a1, o1⟩ := x
 obtain ⟨x1, x2, x3⟩ := key (n16 s 6) Q.2.1 (by omega) q3
 rw [hx] at x1 x2 x3
 have x2 : Q.2.1 + (l1.length : Int) ≤ a1 := x2
 have x3 : a1 ≤ (s.length : Int) := x3
 cases o1 with
 | false => rw [k3_1 hx] at hr2; cases hr2
 | true =>
   generalize hy : kR s (n16 s 8) a1 = y at *
   obtain ⟨l2, a2, o2⟩ := y
   obtain ⟨y1, y2, y3⟩ := key (n16 s 8) a1 (by omega) x3
   rw [hy] at y1 y2 y3
   have y2 : a1 + (l2.length : Int) ≤ a2 := y2
   have y3 : a2 ≤ (s.length : Int) := y3
   cases o2 with
   | false => rw [k3_2 hx hy] at hr2; cases hr2
   | true =>
     generalize hz : kR s (n16 s 10) a2 = z at *
     obtain ⟨l3, a3, o3⟩ := z
     obtain ⟨z1, z2, z3⟩ := key (n16 s 10) a2 (by omega) y3
     rw [hz] at z1 z2 z3
     have z2 : a2 + (l3.length : Int) ≤ a3 := z2
     have z3 : a3 ≤ (s.length : Int) := z3
     rw [k3_3 hx hy hz]
     exact J3a (m := V24 (hdM s) Q.1 l1 l2 l3) (Zt.2 ⟨by show 0 ≤ n16 s 2 / 2048 % 16 ∧ n16 s 2 / 2048 % 16 ≤ 15; omega, by show 0 ≤ n16 s 2 % 16 ∧ n16 s 2 % 16 ≤ 15; omega⟩) (Vo (Vi s 0))
      ⟨by show Q.1.length ≤ _; omega, by show l1.length ≤ _; omega, by show l2.length ≤ _; omega, by show l3.length ≤ _; omega⟩ q1 x1 y1 z1
def t9 (s : List UInt8) : Tr Res := .br (decide ((↑s.length : Int) > 1500)) (.ret ([.bool true], [])) (.br (smS s) (.br (decide ((↑s.length : Int) ≥ 12)) (.br (decide (0 ≤ if IntKind.wrap .i64 ((↑s.length : Int) - 1) < 2 then IntKind.wrap .i64 ((↑s.length : Int) - 1) else 2)) (.br (decide ((if IntKind.wrap .i64 ((↑s.length : Int) - 1) < 2 then IntKind.wrap .i64 ((↑s.length : Int) - 1) else 2) < (↑s.length : Int))) (.br (!(X5 s).2.2) (.br (!decide ((↑(UInt8.toNat (s.getD (Int.toNat (if IntKind.wrap .i64 ((↑s.length : Int) - 1) < 2 then IntKind.wrap .i64 ((↑s.length : Int) - 1) else 2)) 0)) : Int) < 128)) (.br (smM (X5 s).1) (.br (Z3f (X5 s).1 (0, false, false, false, false, false, 0, 0, [], [], [], [])) (.ret ([.bool ((X5 s).2.1 == 0)], [])) (.ret ([.bool false], []))) .no) (.ret ([.bool false], []))) (.br (rsK (X5 s).1 (X5 s).2.1 && true) (.br (decide ((↑(UInt8.toNat (s.getD (Int.toNat (if IntKind.wrap .i64 ((↑s.length : Int) - 1) < 2 then IntKind.wrap .i64 ((↑s.length : Int) - 1) else 2)) 0)) : Int) < 128)) (.br (decide ((X5 s).2.1 ≥ 0)) (.br (decide ((X5 s).2.1 ≤ 5)) (.br (decide ((↑(List.length (Xj (X5 s).1 (X5 s).2.1)) : Int) ≥ 12)) (.br (decide (0 ≤ 2) && decide (2 ≤ (↑(List.length (Xj (X5 s).1 (X5 s).2.1)) : Int))) (.br (decide (0 ≤ 2) && decide (2 ≤ (↑s.length : Int))) (.br (List.take (Int.toNat 2 - Int.toNat 0) (List.drop (Int.toNat 0) (Xj (X5 s).1 (X5 s).2.1)) == List.take (Int.toNat 2 - Int.toNat 0) (List.drop (Int.toNat 0) s)) (.br (decide (2 < (↑(List.length (Xj (X5 s).1 (X5 s).2.1)) : Int))) (.ret ([.bool (decide ((↑(UInt8.toNat (List.getD (Xj (X5 s).1 (X5 s).2.1) (Int.toNat 2) 0)) : Int) ≥ 128))], [])) .no) (.ret ([.bool false], []))) .no) .no) (.ret ([.bool false], []))) (.ret ([.bool false], []))) (.ret ([.bool false], []))) (.ret ([.bool false], []))) .no)) .no) .no) (.br (!(X5 s).2.2) (.br (smM (X5 s).1) (.br (Z3f (X5 s).1 (0, false, false, false, false, false, 0, 0, [], [], [], [])) (.ret ([.bool ((X5 s).2.1 == 0)], [])) (.ret ([.bool false], []))) .no) (.br (rsK (X5 s).1 (X5 s).2.1 && true) (.ret ([.bool false], [])) .no))) .no)
def os9 : OSpec := { f := 9, sh := [.d .str false], so := [], F := fun (s, _) _ => t9 s }
theorem fn9 (s : List UInt8) : evC T9 (orcB [X4i, Z4h, Z4l] [U4e]) (lpOf h9 0 (lsOf [])) c9 1000000 (V1 [.str s] [] Try.f9.ntmps) (J1 T9 false 0 Try.f9) = (t9 s).get := by kernel_rfl
theorem ok9 : os9.Ok Try.prog := by
 refine V3 X2 (V3r tab0 v9 u9) (V0 (all_cons V4t (all_cons U4x (all_cons V4o all_nil))) (all_cons ok27d all_nil)) h9 (d := 0) (n0 := 0) (S := lsOf []) Try.func9 (by kernel_rfl) (c := c9) (by kernel_rfl) rfl (U2 (by kernel_rfl)) (by omega) (by kernel_rfl) ?_
 intro x'' y'' q'' hq''
 obtain ⟨(s : List UInt8), _⟩ := x''
 exact (fn9 s).trans hq''
theorem Q3k : ∀ (Q : List QQt) (P : List UInt8 × V7), ∃ T, (Jj Q P).1 = P.1 ++ T
 | [], P => ⟨[], by simp [Jj]⟩
 | q :: Q, P => by
   obtain ⟨T0, L', h0, _⟩ := X2f q.1 P.1 P.1 P.2 rfl
   obtain ⟨T, hT⟩ := Q3k Q (putQ q P)
   have h1 : (putQ q P).1 = P.1 ++ (T0 ++ qB q) := by
    show (Z4 q.1 P.1 P.2).1 ++ qB q = _
    rw [h0, List.append_assoc]
   exact ⟨T0 ++ qB q ++ T, by show (Jj Q (putQ q P)).1 = _; rw [hT, h1]; simp [List.append_assoc]⟩
theorem Q2r (i : Int) (b1 b2 b3 b4 b5 : Bool) (op rc : Int) (Q : List QQt) : ∃ T, bytM (i, b1, b2, b3, b4, b5, op, rc, Q, [], [], []) = J04 (i, b1, b2, b3, b4, b5, op, rc, Q, [], [], []) ++ T := by
 obtain ⟨T, hT⟩ := Q3k Q (J04 (i, b1, b2, b3, b4, b5, op, rc, Q, [], [], []), [])
 exact ⟨T, hT⟩
theorem J2u (b : UInt8) : b.toNat < 256 := b.toNat_lt
theorem V2n {s : List UInt8} (h : 2 ≤ s.length) : X1 (n16 s 0) = s.take 2 := by
 match s, h with
 | a :: b :: r, _ =>
   have ha := J2u a
   have hb := J2u b
   have e : n16 (a :: b :: r) 0 = (a.toNat * 256 + b.toNat : Nat) := rfl
   rw [e]
   unfold X1
   rw [show (((a.toNat * 256 + b.toNat : Nat) : Int) / 256).toNat = a.toNat by omega, show (((a.toNat * 256 + b.toNat : Nat) : Int) % 256).toNat = b.toNat by omega]
   show [UInt8.ofNat a.toNat, UInt8.ofNat b.toNat] = [a, b]
   rw [UInt8.ofNat_toNat, UInt8.ofNat_toNat]
theorem J4p (s : List UInt8) : bitT (n16 s 2) 32768 = !decide (((s.getD 2 0).toNat : Int) < 128) := by
 have h2 := J2u (s.getD 2 0)
 have h3 := J2u (s.getD 3 0)
 have e : n16 s 2 = ((s.getD 2 0).toNat : Int) * 256 + ((s.getD 3 0).toNat : Int) := rfl
 unfold bitT
 rw [e]
 generalize (s.getD 2 0).toNat = a at *
 generalize (s.getD 3 0).toNat = b at *
 by_cases h : (a : Int) < 128
 · rw [X0 h, show ((a : Int) * 256 + (b : Int)) / 32768 % 2 = 0 by omega]
   rfl
 · rw [U0 h, show ((a : Int) * 256 + (b : Int)) / 32768 % 2 = 1 by omega]
   rfl
theorem U43 {x : MGt} (h : mayN x = true) (hq : x.2.1 = true) : 128 ≤ (UInt8.ofNat (Xm x / 256).toNat).toNat := by
 have h1 := V26 h
 have h2 : 32768 ≤ Xm x := by
  obtain ⟨ho, hr⟩ := Zt.1 h
  unfold Xm
  rw [hq]
  have b0 : ∀ b : Bool, 0 ≤ bitI b 1 := fun b => by cases b <;> decide
  have a1 := b0 x.2.2.1
  have a2 := b0 x.2.2.2.1
  have a3 := b0 x.2.2.2.2.1
  have a4 := b0 x.2.2.2.2.2.1
  show 32768 ≤ 32768 * 1 + 2048 * _ + 1024 * _ + 512 * _ + 256 * _ + 128 * _ + _
  omega
 have h3 : (Xm x / 256).toNat < 256 := by omega
 rw [UInt8.toNat_ofNat_of_lt' h3]
 omega
theorem V3l {m : MGt} {rc : Int} (h : rsK m rc = true) : ∃ (x : MGt) (T : List UInt8), Xj m rc = J04 x ++ T ∧ x.1 = m.1 ∧ x.2.1 = true ∧ mayN x = true := by
 obtain ⟨hr, ho, _⟩ := X3m h
 unfold Xj
 cases decide (((bytM (Zh m rc)).length : Int) ≤ 512) with
 | true =>
   obtain ⟨T, hT⟩ := Q2r m.1 true false false m.2.2.2.2.1 true m.2.2.2.2.2.2.1 rc (mQ m)
   exact ⟨Zh m rc, T, hT, rfl, rfl, Zt.2 ⟨ho, hr⟩⟩
 | false =>
   obtain ⟨T, hT⟩ := Q2r m.1 true false true m.2.2.2.2.1 true m.2.2.2.2.2.2.1 rc []
   exact ⟨trcV m rc, T, hT, rfl, rfl, Zt.2 ⟨ho, hr⟩⟩
theorem X31 (m : MGt) : 0 ≤ Ve m ∧ Ve m ≤ 5 := by
 unfold Ve
 have c : ∀ (b : Bool) (x y : Int), (0 ≤ x ∧ x ≤ 5) → (0 ≤ y ∧ y ≤ 5) → 0 ≤ (bif b then x else y) ∧ (bif b then x else y) ≤ 5 := fun b x y h1 h2 => by cases b <;> assumption
 exact c _ _ _ (by omega) (c _ _ _ (by omega) (c _ _ _ (by omega) (c _ _ _ (by omega) (c _ _ _ (by omega) (c _ _ _ (by omega) (c _ _ _ (by omega) (by omega)))))))
theorem V4u {s : List UInt8} (h : (tkV6 s).2 = 0) : isM s = true := by
 unfold tkV6 at h
 cases hm : isM s with
 | true => rfl
 | false => rw [hm] at h; cases h
theorem X3o {s : List UInt8} (h1 : s.length ≤ 1500) (h2 : ¬ (s.length : Int) < 12) (hq : bitT (n16 s 2) 32768 = false) : ∃ (m : MGt) (bad : Int), X5 s = (m, bad, true) ∧ rsK m bad = true ∧ m.1 = n16 s 0 ∧ 0 ≤ bad ∧ bad ≤ 5 := by
 have e : hdV s = (hdM s, 0) := by unfold hdV; rw [U0 h2]; rfl
 have hid : n16C (n16 s 0) = true := Vo (Vi s 0)
 by_cases ht : (tkV6 s).2 = 0
 · have hm := V4u ht
   obtain ⟨hg, _⟩ := J2z h1 hm
   have hid2 : (tkV6 s).1.1 = n16 s 0 := by unfold tkV6; rw [hm]; rfl
   have hp : X5 s = ((tkV6 s).1, Ve (tkV6 s).1, true) := by
    unfold X5
    rw [e, ht]
    show (bif bitT (n16 s 2) 32768 then _ else _) = _
    rw [hq]
    rfl
   have hw := X31 (tkV6 s).1
   refine ⟨_, _, hp, ?_, hid2, hw.1, hw.2⟩
   simp only [X0a, Bool.and_eq_true] at hg
   obtain ⟨hmay, hrng, hles⟩ := hg
   simp only [mayM, Bool.and_eq_true] at hmay
   simp only [rngM, Bool.and_eq_true] at hrng
   simp only [lesM, Bool.and_eq_true] at hles
   obtain ⟨ho, _⟩ := Zt.1 hmay.1
   have hq1 := List.all_eq_true.1 (Q1o hmay.2.1)
   have hq2 := List.all_eq_true.1 hrng.2.1
   unfold rsK
   rw [hid2, hid, X0 (show 0 ≤ Ve (tkV6 s).1 from hw.1), X0 (show Ve (tkV6 s).1 ≤ 15 by omega), X0 ho.1, X0 ho.2, hles.1, List.all_eq_true.2 fun q h => Bool.and_eq_true_iff.2 ⟨hq1 q h, hq2 q h⟩]
   rfl
 · have hp : X5 s = (hdM s, 1, true) := by
     unfold X5
     rw [e, show ((tkV6 s).2 != 0) = true by rw [bne_iff_ne]; exact ht]
     show (bif bitT (n16 s 2) 32768 then _ else _) = _
     rw [hq]
     rfl
   refine ⟨_, _, hp, ?_, rfl, by decide, by decide⟩
   unfold rsK
   show ((decide ((0 : Int) ≤ 1) && decide ((1 : Int) ≤ 15)) && ((decide (0 ≤ n16 s 2 / 2048 % 16) && decide (n16 s 2 / 2048 % 16 ≤ 15)) && (n16C (n16 s 0) && (decide (([] : List QQt).length ≤ 1500) && true)))) = true
   rw [hid, X0 (show 0 ≤ n16 s 2 / 2048 % 16 by omega), X0 (show n16 s 2 / 2048 % 16 ≤ 15 by omega)]
   rfl
theorem frontNever_all (s : List UInt8) : (t9 s).all fun r => r = ([.bool true], []) := by
 unfold t9
 refine Tr.all_br (fun _ => Tr.all_ret rfl) (fun h => ?_)
 have h := of_decide_eq_false h
 have hS : smS s = true := decide_eq_true (by omega)
 refine Tr.all_t hS ?_
 by_cases h12 : (s.length : Int) ≥ 12
 · have hI : (if IntKind.wrap IntKind.i64 ((s.length : Int) - (1 : Int)) < (2 : Int) then IntKind.wrap IntKind.i64 ((s.length : Int) - (1 : Int)) else (2 : Int)) = 2 := by
     rw [IntWalk.i64_in _ (by omega), if_neg (by omega)]
   rw [hI]
   refine Tr.all_t (X0 h12) (Tr.all_t (by decide) (Tr.all_t (X0 (by omega)) ?_))
   have hb := J4p s
   cases hq : bitT (n16 s 2) 32768 with
   | true =>
     have hp : X5 s = (noM, 0, false) := by
      unfold X5
      rw [show hdV s = (hdM s, 0) by unfold hdV; rw [U0 (show ¬ (s.length : Int) < 12 by omega)]; rfl]
      show (bif bitT (n16 s 2) 32768 then _ else _) = _
      rw [hq]
      rfl
     rw [hp]
     exact Tr.all_t rfl (Tr.all_t (hb.symm.trans hq) (Tr.all_t rfl (Tr.all_t (decide_eq_true rfl) (Tr.all_ret rfl))))
   | false =>
     obtain ⟨m, bad, hp, hr, hid, b0, b5⟩ := X3o (by omega) (by omega) hq
     obtain ⟨x, T, hx, x1, x2, x3⟩ := V3l hr
     have hlt : decide (((s.getD 2 0).toNat : Int) < 128) = true := by
      rw [hq] at hb
      cases hd : decide (((s.getD 2 0).toNat : Int) < 128) with
      | true => rfl
      | false => rw [hd] at hb; cases hb
     have hlen : 12 ≤ (Xj m bad).length := by rw [hx, List.length_append, Q3b]; omega
     have htk : List.take 2 (Xj m bad) = List.take 2 s := by
      rw [hx, ← V2n (show 2 ≤ s.length by omega), ← hid, ← x1]
      rfl
     have hg2 : (List.getD (Xj m bad) 2 0).toNat ≥ 128 := by
      rw [hx]
      exact U43 x3 x2
     rw [hp]
     refine Tr.all_f rfl (Tr.all_t (by rw [hr]; rfl) (Tr.all_t hlt (Tr.all_t (X0 b0) (Tr.all_t (X0 b5) (Tr.all_t (X0 (show ((Xj m bad).length : Int) ≥ 12 by omega)) (Tr.all_t (show (decide ((0 : Int) ≤ 2) && decide ((2 : Int) ≤ ((Xj m bad).length : Int))) = true by rw [X0 (show (2 : Int) ≤ ((Xj m bad).length : Int) by omega)]; rfl) (Tr.all_t (by rw [X0 (show (2 : Int) ≤ (s.length : Int) by omega)]; rfl) (Tr.all_t (show (List.take 2 (Xj m bad) == List.take 2 s) = true by rw [htk]; exact beq_self_eq_true _) (Tr.all_t (X0 (show (2 : Int) < ((Xj m bad).length : Int) by omega)) (Tr.all_ret ?_))))))))))
     show ([AV.bool (decide (((List.getD (Xj m bad) 2 0).toNat : Int) ≥ 128))], ([] : List LObj)) = _
     rw [X0 (show ((List.getD (Xj m bad) 2 0).toNat : Int) ≥ 128 by omega)]
 · have hp : X5 s = (noM, 0, false) := by
     unfold X5
     rw [show hdV s = (noM, 2) by unfold hdV; rw [X0 (show (s.length : Int) < 12 by omega)]; rfl]
     rfl
   rw [hp]
   exact Tr.all_f (U0 h12) (Tr.all_t rfl (Tr.all_t rfl (Tr.all_t (decide_eq_true rfl) (Tr.all_ret rfl))))
theorem sem9 (s : List UInt8) : SemF Try.prog 9 [.str s] [] [.bool true] [] :=
 ok9 (s, ()) () ([.bool true], []) (Tr.get_of_all (frontNever_all s))
end Go.Proofs.YtpledbapngdkeaaE
namespace Go.Proofs.Ytpledbapngdkeaa.frontNever
open Go.ChangeShapes Go.WideShapes Go.ChangeAt Go.RowKit Go.Proofs.YtpledbapngdkeaaE
open Go.ChangeMaps (open_string shut_string)
set_option linter.unusedVariables false
theorem own : ownKnob Try.prog.godebug = none := by kernel_rfl
theorem laidOut : laidOutB Try.prog = true := by kernel_rfl
set_option maxRecDepth 100000 in
theorem lifted (os : Os) (started : os.Started) (H : Type) (enc : TypeId × Value → H) :
    ReturnsInHanded {} Try.checked os 9 .any (Rows.frontNeverSpec.pre6 enc Try.prog Try.f9 Rows.frontNeverRow.domain false) (Rows.frontNeverSpec.post enc Try.prog Try.f9 false true false false) := by
  refine returnsInHanded_of_change_sized (C := Try.checked) own started (by kernel_rfl) Try.func9
    (ChangeSpec.witness6 (enc := enc) (C := Try.checked) false ⟨#[], #[.string ByteArray.empty], []⟩ 8 (by kernel_rfl) (by kernel_rfl) (by kernel_rfl) (by kernel_rfl)) ?_
  intro W base args ds gs before hval0 hW hcnd hsz0 _
  have hsz : ∀ n ∈ DataW.weightsEach Try.prog (Try.f9.params.toList ++ Rows.frontNeverSpec.plain.varTypes Try.prog) (ds ++ gs), n ≤ reachBytes := fun n hn => of_decide_eq_true (List.all_eq_true.1 hsz0 n hn)
  have hval : ∀ (j : Nat) t v, Try.f9.params[j]? = some t → args[j]? = some v → Value.okWide Try.prog W .any base t v := hval0
  have hW' := hW
  obtain ⟨p, q, hA0, hV, rfl, hfz, hnd⟩ := hW
  have hA : DataW.TrodAll enc Try.prog W 0 (fun _ => true) true Try.f9.params.toList args.toList ds p := hA0
  rw [Try.params9] at hA hval hsz
  obtain ⟨v0, vs0, d0, ds0, p0, q0, hargs, rfl, rfl, k0, r0⟩ := trodAll_cons hA
  obtain ⟨rfl, rfl, rfl⟩ := trodAll_nil r0
  obtain rfl : args = #[v0] := by cases args; simp_all
  obtain ⟨rfl, rfl⟩ := trodVars_none hV
  have lt0 : ∀ x ∈ p0, x.block < W.heap.size := by obtain ⟨m, hm⟩ := k0; exact DataW.trod_lt m _ _ _ hm
  obtain ⟨x0, e0, w0, b0⟩ := J3f (n := 8) (τ := .str) (agg := false) (by kernel_rfl) (hval 0 9 v0 rfl rfl) k0 (fun n hn => hsz n (DataW.weights_mem_each (j := 0) (t := 9) rfl rfl n hn)) (by kernel_rfl)
  clear hA0 hval0 hsz0 hsz
  refine (X36 ((fun x0 w0 => sem9 x0) x0 w0) W (vs := [v0]) ?_).mono fun e W' ⟨he, bel⟩ => ?_
  · simp only [Q0]
    exact ⟨_, _, rfl, e0, rfl⟩
  subst he
  exact ⟨_, rfl, _, _, _, [], _, [], hW', trodAll_mk1 (shut_bool Try.underlying4 _), (trodAll_cons_mk (Below.trod laidOut (by kernel_rfl) (of_decide_eq_true (by kernel_rfl)) k0 bel lt0) trodAll_mk0), rfl, bel.frame _, fun h => by cases h⟩
theorem over : Rows.frontNeverRow.holds Try.pinned (OpenSpec.ofChange Rows.frontNeverSpec) :=
  OpenClaim.holds_of_wide 9 Try.f9 rfl rfl rfl rfl rfl rfl rfl ⟨rfl, rfl, rfl, rfl, rfl⟩ rfl rfl rfl rfl rfl (by kernel_rfl) Try.func9 (by kernel_rfl)
    (of_decide_eq_true (by kernel_rfl)) (by unfold Func.isWrapper; first | (rw [if_pos (by decide +kernel)]; kernel_rfl) | (rw [if_neg (by decide +kernel)]; exact ⟨rfl, rfl⟩))
    (fun os started H enc _ => lifted os started H enc)
theorem proved : Rows.FrontNeverSaid := over
end Go.Proofs.Ytpledbapngdkeaa.frontNever
namespace Go.Proofs.Ytpledbapngdkeaa
/-- The row, under a short name, for the claim. -/
theorem frontNever_holds : Rows.FrontNeverSaid := frontNever.proved
#print axioms frontNever_holds
end Go.Proofs.Ytpledbapngdkeaa
