import Derived.Test.YtlkpiegllammdaaPMessageTakes5
import Derived.Test.YtlkpiegllammdaaRows
import Derived.WalkKit
import Derived.ProofKit
import Derived.OpenShut
import Derived.ShutString
import Derived.ChangeOld
import Derived.Below
import Derived.Carry
import Derived.SizedLaws
set_option maxRecDepth 1000000
namespace Go.Proofs.YtlkpiegllammdaaE
open Go Go.Proofs.YtlkpiegllammdaaB
set_option linter.unusedVariables false
set_option linter.unusedSimpArgs false
def t45k (s : List UInt8) : Tr Res := .br (decide ((↑s.length : Int) < 12)) (.ret ([.agg [.int .u16 0, .bool false, .bool false, .bool false, .bool false, .bool false, .int .i64 0, .int .i64 0, .ns, .ns, .ns, .ns], .int .i64 2], [])) (.br (sxC s [] 2 0) (.ret ([.agg [.int .u16 (List.getD (sixV s (Int.toNat 2) 0) (Int.toNat 0) (Ty.dflt (Ty.int .u16))), .bool (IntKind.wrap .u16 (↑(BitVec.toNat (BitVec.ofInt (IntKind.bits IntKind.u16) (List.getD (sixV s (Int.toNat 2) 0) (Int.toNat 1) (Ty.dflt (Ty.int .u16))) &&& BitVec.ofInt (IntKind.bits IntKind.u16) 32768)) : Int) != 0), .bool (IntKind.wrap .u16 (↑(BitVec.toNat (BitVec.ofInt (IntKind.bits IntKind.u16) (List.getD (sixV s (Int.toNat 2) 0) (Int.toNat 1) (Ty.dflt (Ty.int .u16))) &&& BitVec.ofInt (IntKind.bits IntKind.u16) 1024)) : Int) != 0), .bool (IntKind.wrap .u16 (↑(BitVec.toNat (BitVec.ofInt (IntKind.bits IntKind.u16) (List.getD (sixV s (Int.toNat 2) 0) (Int.toNat 1) (Ty.dflt (Ty.int .u16))) &&& BitVec.ofInt (IntKind.bits IntKind.u16) 512)) : Int) != 0), .bool (IntKind.wrap .u16 (↑(BitVec.toNat (BitVec.ofInt (IntKind.bits IntKind.u16) (List.getD (sixV s (Int.toNat 2) 0) (Int.toNat 1) (Ty.dflt (Ty.int .u16))) &&& BitVec.ofInt (IntKind.bits IntKind.u16) 256)) : Int) != 0), .bool (IntKind.wrap .u16 (↑(BitVec.toNat (BitVec.ofInt (IntKind.bits IntKind.u16) (List.getD (sixV s (Int.toNat 2) 0) (Int.toNat 1) (Ty.dflt (Ty.int .u16))) &&& BitVec.ofInt (IntKind.bits IntKind.u16) 128)) : Int) != 0), .int .i64 (IntKind.wrap .i64 (IntKind.wrap .u16 (↑(BitVec.toNat (BitVec.ofInt (IntKind.bits IntKind.u16) (Int.fdiv (List.getD (sixV s (Int.toNat 2) 0) (Int.toNat 1) (Ty.dflt (Ty.int .u16))) (2 ^ min (Int.toNat 11) (IntKind.bits IntKind.u16))) &&& BitVec.ofInt (IntKind.bits IntKind.u16) 15)) : Int))), .int .i64 (IntKind.wrap .i64 (IntKind.wrap .u16 (↑(BitVec.toNat (BitVec.ofInt (IntKind.bits IntKind.u16) (List.getD (sixV s (Int.toNat 2) 0) (Int.toNat 1) (Ty.dflt (Ty.int .u16))) &&& BitVec.ofInt (IntKind.bits IntKind.u16) 15)) : Int))), .ns, .ns, .ns, .ns], .int .i64 0], [])) .no)
def os45k : OSpec := { f := 45, sh := [.d .str false], so := [], F := fun (s, _) _ => t45k s }
theorem fn45k (s : List UInt8) : evC TK (orcB [fs85w] []) (lpOf h45 0 (lsOf [])) c45 1000000 (startSt [.str s] [] Try.f45.ntmps) (finishK TK false 0 Try.f45) = (t45k s).get := by kernel_rfl
theorem ok45k : os45k.Ok Try.prog := by
 refine os_ok mixed0 tabK (orcB_sound (all_cons okf85w all_nil) all_nil) h45 (d := 0) (n0 := 0) (S := lsOf []) Try.func45 (by kernel_rfl) (c := c45) (by kernel_rfl) rfl (no_loops (by kernel_rfl)) (by omega) (by kernel_rfl) ?_
 intro x'' y'' q'' hq''
 obtain ⟨(s : List UInt8), _⟩ := x''
 exact (fn45k s).trans hq''
def hdA (m : MGt) : AV := .agg [.int .u16 m.1, .bool m.2.1, .bool m.2.2.1, .bool m.2.2.2.1, .bool m.2.2.2.2.1, .bool m.2.2.2.2.2.1, .int .i64 m.2.2.2.2.2.2.1, .int .i64 m.2.2.2.2.2.2.2.1, .ns, .ns, .ns, .ns]
def os45kw : OSpec := os45k.like fun (s, _) _ => .on (decide (s.length ≤ 100000000)) ([hdA (hdV s).1, .int .i64 (hdV s).2], [])
def tqC (s : List UInt8) (at_ n i : Int) (yq : List QQt) : Bool := smS s && (decide (0 ≤ at_) && (n16C n && (decide (i = 0) && decide (yq = []))))
def trC (s : List UInt8) (at_ n i : Int) (l : List RRt) : Bool := smS s && (decide (0 ≤ at_) && (n16C n && (decide (i = 0) && decide (l = []))))
abbrev kQ (s : List UInt8) (n a : Int) : List QQt × (Int × Bool) := tkF (tkQ s) n.toNat a
abbrev kR (s : List UInt8) (n a : Int) : List RRt × (Int × Bool) := tkF (tkR s) n.toNat a
noncomputable def b43 : Code := nthLoop c43 0
def ls43 : LoopSpec := { bid := 0, sh := [.d .str false, .ptr 0 0, .ptr 5 0, .d (.list (.int .u16)) false, .d (.int .i64) false, .d (.int .u16) false, .d (.int .u16) false], so := [(ROs 1), .row QQ, .row RR, .row RR, .row RR, (ROs 6), .row QQ, .row RR, .row RR, .row RR], F := fun (s, cs, at_, n, i, _) ((zi, z1, z2, z3, z4, z5, zo, zc, _), zq, za, zn, zr, (yi, y1, y2, y3, y4, y5, yo, yc, _), yq, ya, yn, yr, _) => .on2 (tqC s at_ n i yq) ((kQ s n at_).2.2) (.exit 0, [.str s, .ptr 0 0, .dead, .ptr 5 0, .list (.int .u16) cs, .int .i64 (kQ s n at_).2.1], [RO 1 zi z1 z2 z3 z4 z5 zo zc, .row QQ zq, .row RR za, .row RR zn, .row RR zr, RO 6 yi y1 y2 y3 y4 y5 yo yc, .row QQ (kQ s n at_).1, .row RR ya, .row RR yn, .row RR yr]) (.ret, [.str s, .ptr 0 0, .int .i64 2, .ptr 1 0, .list (.int .u16) cs, .int .i64 (kQ s n at_).2.1], [NO, RO 2 yi y1 y2 y3 y4 y5 yo yc, .row QQ (kQ s n at_).1, .row RR ya, .row RR yn, .row RR yr]) }
def r43 (s : List UInt8) (cs : List Int) (at_ n i zi : Int) (z1 z2 z3 z4 z5 : Bool) (zo zc : Int) (zq : List QQt) (za zn zr : List RRt) (yi : Int) (y1 y2 y3 y4 y5 : Bool) (yo yc : Int) (yq : List QQt) (ya yn yr : List RRt) : Tr (St ⊕ (Ex × St)) := .br (decide (i < n)) (.br (bigS s) (.br ((oQ (tkQ s at_)).2.2 != 0) (.ret (.inr (.ret, stOf [0, 2, 3, 4, 6, 7] [.str s, .ptr 0 0, .int .i64 (oQ (tkQ s at_)).2.2, .ptr 1 0, .list (.int .u16) cs, .int .i64 at_] [NO, RO 2 yi y1 y2 y3 y4 y5 yo yc, .row QQ yq, .row RR ya, .row RR yn, .row RR yr]))) (.br (fits (List.length yq + 1) 24) (.ret (.inl (stOf [0, 2, 4, 6, 7, 30, 31] [.str s, .ptr 0 0, .ptr 5 0, .list (.int .u16) cs, .int .i64 (oQ (tkQ s at_)).2.1, .int .u16 n, .int .u16 (IntKind.wrap .u16 (i + 1))] [RO 1 zi z1 z2 z3 z4 z5 zo zc, .row QQ zq, .row RR za, .row RR zn, .row RR zr, RO 6 yi y1 y2 y3 y4 y5 yo yc, .row QQ (yq ++ [(oQ (tkQ s at_)).1]), .row RR ya, .row RR yn, .row RR yr]))) .no)) .no) (.ret (.inr (.exit 0, stOf [0, 2, 3, 4, 6, 7] [.str s, .ptr 0 0, .dead, .ptr 5 0, .list (.int .u16) cs, .int .i64 at_] [RO 1 zi z1 z2 z3 z4 z5 zo zc, .row QQ zq, .row RR za, .row RR zn, .row RR zr, RO 6 yi y1 y2 y3 y4 y5 yo yc, .row QQ yq, .row RR ya, .row RR yn, .row RR yr])))
theorem round43 (lp : Lp) (s : List UInt8) (cs : List Int) (at_ n i zi : Int) (z1 z2 z3 z4 z5 : Bool) (zo zc : Int) (zq : List QQt) (za zn zr : List RRt) (yi : Int) (y1 y2 y3 y4 y5 : Bool) (yo yc : Int) (yq : List QQt) (ya yn yr : List RRt) : evC TK (orcB [fs85w, fs16w, fs28w] [os45kw]) lp b43 0 (stOf [0, 2, 4, 6, 7, 30, 31] [.str s, .ptr 0 0, .ptr 5 0, .list (.int .u16) cs, .int .i64 at_, .int .u16 n, .int .u16 i] [RO 1 zi z1 z2 z3 z4 z5 zo zc, .row QQ zq, .row RR za, .row RR zn, .row RR zr, RO 6 yi y1 y2 y3 y4 y5 yo yc, .row QQ yq, .row RR ya, .row RR yn, .row RR yr]) (roundK [0, 2, 4, 6, 7, 30, 31] [0, 2, 3, 4, 6, 7] 0) = (r43 s cs at_ n i zi z1 z2 z3 z4 z5 zo zc zq za zn zr yi y1 y2 y3 y4 y5 yo yc yq ya yn yr).get := by kernel_rfl
theorem wf43 (s : List UInt8) (cs : List Int) (n zi : Int) (z1 z2 z3 z4 z5 : Bool) (zo zc : Int) (zq : List QQt) (za zn zr : List RRt) (yi : Int) (y1 y2 y3 y4 y5 : Bool) (yo yc : Int) (ya yn yr : List RRt) (I'' : Int → Int → List QQt → Prop) (m'' : Int → Int → List QQt → Nat) (r'' : Ex × St) (h : ∀ (at_ i : Int) (yq : List QQt), I'' at_ i yq → (r43 s cs at_ n i zi z1 z2 z3 z4 z5 zo zc zq za zn zr yi y1 y2 y3 y4 y5 yo yc yq ya yn yr).all fun x'' => x'' = .inr r'' ∨ ∃ (at_' i' : Int) (yq' : List QQt), x'' = .inl (stOf [0, 2, 4, 6, 7, 30, 31] [.str s, .ptr 0 0, .ptr 5 0, .list (.int .u16) cs, .int .i64 at_', .int .u16 n, .int .u16 i'] [RO 1 zi z1 z2 z3 z4 z5 zo zc, .row QQ zq, .row RR za, .row RR zn, .row RR zr, RO 6 yi y1 y2 y3 y4 y5 yo yc, .row QQ yq', .row RR ya, .row RR yn, .row RR yr]) ∧ I'' at_' i' yq' ∧ m'' at_' i' yq' < m'' at_ i yq) (lp : Lp) (at_ i : Int) (yq : List QQt) : I'' at_ i yq →
    loopF (fun st => evC TK (orcB [fs85w, fs16w, fs28w] [os45kw]) lp b43 0 st (roundK [0, 2, 4, 6, 7, 30, 31] [0, 2, 3, 4, 6, 7] 0)) (stOf [0, 2, 4, 6, 7, 30, 31] [.str s, .ptr 0 0, .ptr 5 0, .list (.int .u16) cs, .int .i64 at_, .int .u16 n, .int .u16 i] [RO 1 zi z1 z2 z3 z4 z5 zo zc, .row QQ zq, .row RR za, .row RR zn, .row RR zr, RO 6 yi y1 y2 y3 y4 y5 yo yc, .row QQ yq, .row RR ya, .row RR yn, .row RR yr]) = some r'' :=
 loop_tr (fun a'' : Int × Int × List QQt => stOf [0, 2, 4, 6, 7, 30, 31] [.str s, .ptr 0 0, .ptr 5 0, .list (.int .u16) cs, .int .i64 a''.1, .int .u16 n, .int .u16 a''.2.1] [RO 1 zi z1 z2 z3 z4 z5 zo zc, .row QQ zq, .row RR za, .row RR zn, .row RR zr, RO 6 yi y1 y2 y3 y4 y5 yo yc, .row QQ a''.2.2, .row RR ya, .row RR yn, .row RR yr]) (fun a'' => I'' a''.1 a''.2.1 a''.2.2) (fun a'' => m'' a''.1 a''.2.1 a''.2.2) r'' (fun a'' => r43 s cs a''.1 n a''.2.1 zi z1 z2 z3 z4 z5 zo zc zq za zn zr yi y1 y2 y3 y4 y5 yo yc a''.2.2 ya yn yr)
  (fun a'' x hx => (round43 lp s cs a''.1 n a''.2.1 zi z1 z2 z3 z4 z5 zo zc zq za zn zr yi y1 y2 y3 y4 y5 yo yc a''.2.2 ya yn yr).trans hx) (fun a'' ha => Tr.all_mono (fun x'' hx => hx.imp id fun ⟨at_', i', yq', h1, h2, h3⟩ => ⟨(at_', i', yq'), h1, h2, h3⟩) (h (a''.1) (a''.2.1) (a''.2.2) ha)) (at_, i, yq)
noncomputable def b43a : Code := nthLoop (nthLoop c43 1) 0
def ls43a : LoopSpec := { bid := 4, sh := [.d .str false, .ptr 0 0, .ptr 5 0, .d (.list (.int .u16)) false, .d (.int .i64) false, .ptr 5 9, .psl 10 3, .d (.int .i64) false, .d (.int .i64) false, .d (.int .u16) false, .d (.int .u16) false], so := [(ROs 1), .row QQ, .row RR, .row RR, .row RR, (ROs 6), .row QQ, .row RR, .row RR, .row RR, .box [.ptr 5 9, .ptr 5 10, .ptr 5 11]], F := fun (s, cs, at_, n3, j, n, i, _) ((zi, z1, z2, z3, z4, z5, zo, zc, _), zq, za, zn, zr, (yi, y1, y2, y3, y4, y5, yo, yc, _), yq, ya, yn, yr, _, _) => .on2 (trC s at_ n i ya) ((kR s n at_).2.2) (.exit 4, [.str s, .ptr 0 0, .dead, .ptr 5 0, .list (.int .u16) cs, .int .i64 (kR s n at_).2.1, .psl 10 3, .int .i64 n3, .int .i64 j], [RO 1 zi z1 z2 z3 z4 z5 zo zc, .row QQ zq, .row RR za, .row RR zn, .row RR zr, RO 6 yi y1 y2 y3 y4 y5 yo yc, .row QQ yq, .row RR (kR s n at_).1, .row RR yn, .row RR yr, .box [.ptr 5 9, .ptr 5 10, .ptr 5 11]]) (.ret, [.str s, .ptr 0 0, .int .i64 2, .ptr 1 0, .list (.int .u16) cs, .int .i64 (kR s n at_).2.1, .psl 6 3, .int .i64 n3, .int .i64 j], [NO, RO 2 yi y1 y2 y3 y4 y5 yo yc, .row QQ yq, .row RR (kR s n at_).1, .row RR yn, .row RR yr, .box [.ptr 1 9, .ptr 1 10, .ptr 1 11]]) }
def r43a (s : List UInt8) (cs : List Int) (at_ n3 j n i zi : Int) (z1 z2 z3 z4 z5 : Bool) (zo zc : Int) (zq : List QQt) (za zn zr : List RRt) (yi : Int) (y1 y2 y3 y4 y5 : Bool) (yo yc : Int) (yq : List QQt) (ya yn yr : List RRt) : Tr (St ⊕ (Ex × St)) := .br (decide (i < n)) (.br (smS s) (.br ((oR (tkR s at_)).2.2 != 0) (.ret (.inr (.ret, stOf [0, 2, 3, 4, 6, 7, 55, 56, 57] [.str s, .ptr 0 0, .int .i64 (oR (tkR s at_)).2.2, .ptr 1 0, .list (.int .u16) cs, .int .i64 at_, .psl 6 3, .int .i64 n3, .int .i64 j] [NO, RO 2 yi y1 y2 y3 y4 y5 yo yc, .row QQ yq, .row RR ya, .row RR yn, .row RR yr, .boxT none [.ptr 1 9, .ptr 1 10, .ptr 1 11]]))) (.br (fits (List.length ya + 1) 40) (.ret (.inl (stOf [0, 2, 4, 6, 7, 12, 55, 56, 57, 66, 67] [.str s, .ptr 0 0, .ptr 5 0, .list (.int .u16) cs, .int .i64 (oR (tkR s at_)).2.1, .ptr 5 9, .psl 10 3, .int .i64 n3, .int .i64 j, .int .u16 n, .int .u16 (IntKind.wrap .u16 (i + 1))] [RO 1 zi z1 z2 z3 z4 z5 zo zc, .row QQ zq, .row RR za, .row RR zn, .row RR zr, RO 6 yi y1 y2 y3 y4 y5 yo yc, .row QQ yq, .row RR (ya ++ [(oR (tkR s at_)).1]), .row RR yn, .row RR yr, .boxT none [.ptr 5 9, .ptr 5 10, .ptr 5 11]]))) .no)) .no) (.ret (.inr (.exit 4, stOf [0, 2, 3, 4, 6, 7, 55, 56, 57] [.str s, .ptr 0 0, .dead, .ptr 5 0, .list (.int .u16) cs, .int .i64 at_, .psl 10 3, .int .i64 n3, .int .i64 j] [RO 1 zi z1 z2 z3 z4 z5 zo zc, .row QQ zq, .row RR za, .row RR zn, .row RR zr, RO 6 yi y1 y2 y3 y4 y5 yo yc, .row QQ yq, .row RR ya, .row RR yn, .row RR yr, .boxT none [.ptr 5 9, .ptr 5 10, .ptr 5 11]])))
theorem round43a (lp : Lp) (s : List UInt8) (cs : List Int) (at_ n3 j n i zi : Int) (z1 z2 z3 z4 z5 : Bool) (zo zc : Int) (zq : List QQt) (za zn zr : List RRt) (yi : Int) (y1 y2 y3 y4 y5 : Bool) (yo yc : Int) (yq : List QQt) (ya yn yr : List RRt) : evC TK (orcB [fs85w, fs16w, fs28w] [os45kw]) lp b43a 4 (stOf [0, 2, 4, 6, 7, 12, 55, 56, 57, 66, 67] [.str s, .ptr 0 0, .ptr 5 0, .list (.int .u16) cs, .int .i64 at_, .ptr 5 9, .psl 10 3, .int .i64 n3, .int .i64 j, .int .u16 n, .int .u16 i] [RO 1 zi z1 z2 z3 z4 z5 zo zc, .row QQ zq, .row RR za, .row RR zn, .row RR zr, RO 6 yi y1 y2 y3 y4 y5 yo yc, .row QQ yq, .row RR ya, .row RR yn, .row RR yr, .box [.ptr 5 9, .ptr 5 10, .ptr 5 11]]) (roundK [0, 2, 4, 6, 7, 12, 55, 56, 57, 66, 67] [0, 2, 3, 4, 6, 7, 55, 56, 57] 0) = (r43a s cs at_ n3 j n i zi z1 z2 z3 z4 z5 zo zc zq za zn zr yi y1 y2 y3 y4 y5 yo yc yq ya yn yr).get := by kernel_rfl
theorem wf43a (s : List UInt8) (cs : List Int) (n3 j n zi : Int) (z1 z2 z3 z4 z5 : Bool) (zo zc : Int) (zq : List QQt) (za zn zr : List RRt) (yi : Int) (y1 y2 y3 y4 y5 : Bool) (yo yc : Int) (yq : List QQt) (yn yr : List RRt) (I'' : Int → Int → List RRt → Prop) (m'' : Int → Int → List RRt → Nat) (r'' : Ex × St) (h : ∀ (at_ i : Int) (ya : List RRt), I'' at_ i ya → (r43a s cs at_ n3 j n i zi z1 z2 z3 z4 z5 zo zc zq za zn zr yi y1 y2 y3 y4 y5 yo yc yq ya yn yr).all fun x'' => x'' = .inr r'' ∨ ∃ (at_' i' : Int) (ya' : List RRt), x'' = .inl (stOf [0, 2, 4, 6, 7, 12, 55, 56, 57, 66, 67] [.str s, .ptr 0 0, .ptr 5 0, .list (.int .u16) cs, .int .i64 at_', .ptr 5 9, .psl 10 3, .int .i64 n3, .int .i64 j, .int .u16 n, .int .u16 i'] [RO 1 zi z1 z2 z3 z4 z5 zo zc, .row QQ zq, .row RR za, .row RR zn, .row RR zr, RO 6 yi y1 y2 y3 y4 y5 yo yc, .row QQ yq, .row RR ya', .row RR yn, .row RR yr, .box [.ptr 5 9, .ptr 5 10, .ptr 5 11]]) ∧ I'' at_' i' ya' ∧ m'' at_' i' ya' < m'' at_ i ya) (lp : Lp) (at_ i : Int) (ya : List RRt) : I'' at_ i ya →
    loopF (fun st => evC TK (orcB [fs85w, fs16w, fs28w] [os45kw]) lp b43a 4 st (roundK [0, 2, 4, 6, 7, 12, 55, 56, 57, 66, 67] [0, 2, 3, 4, 6, 7, 55, 56, 57] 0)) (stOf [0, 2, 4, 6, 7, 12, 55, 56, 57, 66, 67] [.str s, .ptr 0 0, .ptr 5 0, .list (.int .u16) cs, .int .i64 at_, .ptr 5 9, .psl 10 3, .int .i64 n3, .int .i64 j, .int .u16 n, .int .u16 i] [RO 1 zi z1 z2 z3 z4 z5 zo zc, .row QQ zq, .row RR za, .row RR zn, .row RR zr, RO 6 yi y1 y2 y3 y4 y5 yo yc, .row QQ yq, .row RR ya, .row RR yn, .row RR yr, .box [.ptr 5 9, .ptr 5 10, .ptr 5 11]]) = some r'' :=
 loop_tr (fun a'' : Int × Int × List RRt => stOf [0, 2, 4, 6, 7, 12, 55, 56, 57, 66, 67] [.str s, .ptr 0 0, .ptr 5 0, .list (.int .u16) cs, .int .i64 a''.1, .ptr 5 9, .psl 10 3, .int .i64 n3, .int .i64 j, .int .u16 n, .int .u16 a''.2.1] [RO 1 zi z1 z2 z3 z4 z5 zo zc, .row QQ zq, .row RR za, .row RR zn, .row RR zr, RO 6 yi y1 y2 y3 y4 y5 yo yc, .row QQ yq, .row RR a''.2.2, .row RR yn, .row RR yr, .box [.ptr 5 9, .ptr 5 10, .ptr 5 11]]) (fun a'' => I'' a''.1 a''.2.1 a''.2.2) (fun a'' => m'' a''.1 a''.2.1 a''.2.2) r'' (fun a'' => r43a s cs a''.1 n3 j n a''.2.1 zi z1 z2 z3 z4 z5 zo zc zq za zn zr yi y1 y2 y3 y4 y5 yo yc yq a''.2.2 yn yr)
  (fun a'' x hx => (round43a lp s cs a''.1 n3 j n a''.2.1 zi z1 z2 z3 z4 z5 zo zc zq za zn zr yi y1 y2 y3 y4 y5 yo yc yq a''.2.2 yn yr).trans hx) (fun a'' ha => Tr.all_mono (fun x'' hx => hx.imp id fun ⟨at_', i', ya', h1, h2, h3⟩ => ⟨(at_', i', ya'), h1, h2, h3⟩) (h (a''.1) (a''.2.1) (a''.2.2) ha)) (at_, i, ya)
noncomputable def b43b : Code := nthLoop (nthLoop c43 1) 0
def ls43b : LoopSpec := { bid := 4, sh := [.d .str false, .ptr 0 0, .ptr 5 0, .d (.list (.int .u16)) false, .d (.int .i64) false, .ptr 5 10, .psl 10 3, .d (.int .i64) false, .d (.int .i64) false, .d (.int .u16) false, .d (.int .u16) false], so := [(ROs 1), .row QQ, .row RR, .row RR, .row RR, (ROs 6), .row QQ, .row RR, .row RR, .row RR, .box [.ptr 5 9, .ptr 5 10, .ptr 5 11]], F := fun (s, cs, at_, n3, j, n, i, _) ((zi, z1, z2, z3, z4, z5, zo, zc, _), zq, za, zn, zr, (yi, y1, y2, y3, y4, y5, yo, yc, _), yq, ya, yn, yr, _, _) => .on2 (trC s at_ n i yn) ((kR s n at_).2.2) (.exit 4, [.str s, .ptr 0 0, .dead, .ptr 5 0, .list (.int .u16) cs, .int .i64 (kR s n at_).2.1, .psl 10 3, .int .i64 n3, .int .i64 j], [RO 1 zi z1 z2 z3 z4 z5 zo zc, .row QQ zq, .row RR za, .row RR zn, .row RR zr, RO 6 yi y1 y2 y3 y4 y5 yo yc, .row QQ yq, .row RR ya, .row RR (kR s n at_).1, .row RR yr, .box [.ptr 5 9, .ptr 5 10, .ptr 5 11]]) (.ret, [.str s, .ptr 0 0, .int .i64 2, .ptr 1 0, .list (.int .u16) cs, .int .i64 (kR s n at_).2.1, .psl 6 3, .int .i64 n3, .int .i64 j], [NO, RO 2 yi y1 y2 y3 y4 y5 yo yc, .row QQ yq, .row RR ya, .row RR (kR s n at_).1, .row RR yr, .box [.ptr 1 9, .ptr 1 10, .ptr 1 11]]) }
def r43b (s : List UInt8) (cs : List Int) (at_ n3 j n i zi : Int) (z1 z2 z3 z4 z5 : Bool) (zo zc : Int) (zq : List QQt) (za zn zr : List RRt) (yi : Int) (y1 y2 y3 y4 y5 : Bool) (yo yc : Int) (yq : List QQt) (ya yn yr : List RRt) : Tr (St ⊕ (Ex × St)) := .br (decide (i < n)) (.br (smS s) (.br ((oR (tkR s at_)).2.2 != 0) (.ret (.inr (.ret, stOf [0, 2, 3, 4, 6, 7, 55, 56, 57] [.str s, .ptr 0 0, .int .i64 (oR (tkR s at_)).2.2, .ptr 1 0, .list (.int .u16) cs, .int .i64 at_, .psl 6 3, .int .i64 n3, .int .i64 j] [NO, RO 2 yi y1 y2 y3 y4 y5 yo yc, .row QQ yq, .row RR ya, .row RR yn, .row RR yr, .boxT none [.ptr 1 9, .ptr 1 10, .ptr 1 11]]))) (.br (fits (List.length yn + 1) 40) (.ret (.inl (stOf [0, 2, 4, 6, 7, 12, 55, 56, 57, 66, 67] [.str s, .ptr 0 0, .ptr 5 0, .list (.int .u16) cs, .int .i64 (oR (tkR s at_)).2.1, .ptr 5 10, .psl 10 3, .int .i64 n3, .int .i64 j, .int .u16 n, .int .u16 (IntKind.wrap .u16 (i + 1))] [RO 1 zi z1 z2 z3 z4 z5 zo zc, .row QQ zq, .row RR za, .row RR zn, .row RR zr, RO 6 yi y1 y2 y3 y4 y5 yo yc, .row QQ yq, .row RR ya, .row RR (yn ++ [(oR (tkR s at_)).1]), .row RR yr, .boxT none [.ptr 5 9, .ptr 5 10, .ptr 5 11]]))) .no)) .no) (.ret (.inr (.exit 4, stOf [0, 2, 3, 4, 6, 7, 55, 56, 57] [.str s, .ptr 0 0, .dead, .ptr 5 0, .list (.int .u16) cs, .int .i64 at_, .psl 10 3, .int .i64 n3, .int .i64 j] [RO 1 zi z1 z2 z3 z4 z5 zo zc, .row QQ zq, .row RR za, .row RR zn, .row RR zr, RO 6 yi y1 y2 y3 y4 y5 yo yc, .row QQ yq, .row RR ya, .row RR yn, .row RR yr, .boxT none [.ptr 5 9, .ptr 5 10, .ptr 5 11]])))
theorem round43b (lp : Lp) (s : List UInt8) (cs : List Int) (at_ n3 j n i zi : Int) (z1 z2 z3 z4 z5 : Bool) (zo zc : Int) (zq : List QQt) (za zn zr : List RRt) (yi : Int) (y1 y2 y3 y4 y5 : Bool) (yo yc : Int) (yq : List QQt) (ya yn yr : List RRt) : evC TK (orcB [fs85w, fs16w, fs28w] [os45kw]) lp b43b 4 (stOf [0, 2, 4, 6, 7, 12, 55, 56, 57, 66, 67] [.str s, .ptr 0 0, .ptr 5 0, .list (.int .u16) cs, .int .i64 at_, .ptr 5 10, .psl 10 3, .int .i64 n3, .int .i64 j, .int .u16 n, .int .u16 i] [RO 1 zi z1 z2 z3 z4 z5 zo zc, .row QQ zq, .row RR za, .row RR zn, .row RR zr, RO 6 yi y1 y2 y3 y4 y5 yo yc, .row QQ yq, .row RR ya, .row RR yn, .row RR yr, .box [.ptr 5 9, .ptr 5 10, .ptr 5 11]]) (roundK [0, 2, 4, 6, 7, 12, 55, 56, 57, 66, 67] [0, 2, 3, 4, 6, 7, 55, 56, 57] 0) = (r43b s cs at_ n3 j n i zi z1 z2 z3 z4 z5 zo zc zq za zn zr yi y1 y2 y3 y4 y5 yo yc yq ya yn yr).get := by kernel_rfl
theorem wf43b (s : List UInt8) (cs : List Int) (n3 j n zi : Int) (z1 z2 z3 z4 z5 : Bool) (zo zc : Int) (zq : List QQt) (za zn zr : List RRt) (yi : Int) (y1 y2 y3 y4 y5 : Bool) (yo yc : Int) (yq : List QQt) (ya yr : List RRt) (I'' : Int → Int → List RRt → Prop) (m'' : Int → Int → List RRt → Nat) (r'' : Ex × St) (h : ∀ (at_ i : Int) (yn : List RRt), I'' at_ i yn → (r43b s cs at_ n3 j n i zi z1 z2 z3 z4 z5 zo zc zq za zn zr yi y1 y2 y3 y4 y5 yo yc yq ya yn yr).all fun x'' => x'' = .inr r'' ∨ ∃ (at_' i' : Int) (yn' : List RRt), x'' = .inl (stOf [0, 2, 4, 6, 7, 12, 55, 56, 57, 66, 67] [.str s, .ptr 0 0, .ptr 5 0, .list (.int .u16) cs, .int .i64 at_', .ptr 5 10, .psl 10 3, .int .i64 n3, .int .i64 j, .int .u16 n, .int .u16 i'] [RO 1 zi z1 z2 z3 z4 z5 zo zc, .row QQ zq, .row RR za, .row RR zn, .row RR zr, RO 6 yi y1 y2 y3 y4 y5 yo yc, .row QQ yq, .row RR ya, .row RR yn', .row RR yr, .box [.ptr 5 9, .ptr 5 10, .ptr 5 11]]) ∧ I'' at_' i' yn' ∧ m'' at_' i' yn' < m'' at_ i yn) (lp : Lp) (at_ i : Int) (yn : List RRt) : I'' at_ i yn →
    loopF (fun st => evC TK (orcB [fs85w, fs16w, fs28w] [os45kw]) lp b43b 4 st (roundK [0, 2, 4, 6, 7, 12, 55, 56, 57, 66, 67] [0, 2, 3, 4, 6, 7, 55, 56, 57] 0)) (stOf [0, 2, 4, 6, 7, 12, 55, 56, 57, 66, 67] [.str s, .ptr 0 0, .ptr 5 0, .list (.int .u16) cs, .int .i64 at_, .ptr 5 10, .psl 10 3, .int .i64 n3, .int .i64 j, .int .u16 n, .int .u16 i] [RO 1 zi z1 z2 z3 z4 z5 zo zc, .row QQ zq, .row RR za, .row RR zn, .row RR zr, RO 6 yi y1 y2 y3 y4 y5 yo yc, .row QQ yq, .row RR ya, .row RR yn, .row RR yr, .box [.ptr 5 9, .ptr 5 10, .ptr 5 11]]) = some r'' :=
 loop_tr (fun a'' : Int × Int × List RRt => stOf [0, 2, 4, 6, 7, 12, 55, 56, 57, 66, 67] [.str s, .ptr 0 0, .ptr 5 0, .list (.int .u16) cs, .int .i64 a''.1, .ptr 5 10, .psl 10 3, .int .i64 n3, .int .i64 j, .int .u16 n, .int .u16 a''.2.1] [RO 1 zi z1 z2 z3 z4 z5 zo zc, .row QQ zq, .row RR za, .row RR zn, .row RR zr, RO 6 yi y1 y2 y3 y4 y5 yo yc, .row QQ yq, .row RR ya, .row RR a''.2.2, .row RR yr, .box [.ptr 5 9, .ptr 5 10, .ptr 5 11]]) (fun a'' => I'' a''.1 a''.2.1 a''.2.2) (fun a'' => m'' a''.1 a''.2.1 a''.2.2) r'' (fun a'' => r43b s cs a''.1 n3 j n a''.2.1 zi z1 z2 z3 z4 z5 zo zc zq za zn zr yi y1 y2 y3 y4 y5 yo yc yq ya a''.2.2 yr)
  (fun a'' x hx => (round43b lp s cs a''.1 n3 j n a''.2.1 zi z1 z2 z3 z4 z5 zo zc zq za zn zr yi y1 y2 y3 y4 y5 yo yc yq ya a''.2.2 yr).trans hx) (fun a'' ha => Tr.all_mono (fun x'' hx => hx.imp id fun ⟨at_', i', yn', h1, h2, h3⟩ => ⟨(at_', i', yn'), h1, h2, h3⟩) (h (a''.1) (a''.2.1) (a''.2.2) ha)) (at_, i, yn)
noncomputable def b43c : Code := nthLoop (nthLoop c43 1) 0
def ls43c : LoopSpec := { bid := 4, sh := [.d .str false, .ptr 0 0, .ptr 5 0, .d (.list (.int .u16)) false, .d (.int .i64) false, .ptr 5 11, .psl 10 3, .d (.int .i64) false, .d (.int .i64) false, .d (.int .u16) false, .d (.int .u16) false], so := [(ROs 1), .row QQ, .row RR, .row RR, .row RR, (ROs 6), .row QQ, .row RR, .row RR, .row RR, .box [.ptr 5 9, .ptr 5 10, .ptr 5 11]], F := fun (s, cs, at_, n3, j, n, i, _) ((zi, z1, z2, z3, z4, z5, zo, zc, _), zq, za, zn, zr, (yi, y1, y2, y3, y4, y5, yo, yc, _), yq, ya, yn, yr, _, _) => .on2 (trC s at_ n i yr) ((kR s n at_).2.2) (.exit 4, [.str s, .ptr 0 0, .dead, .ptr 5 0, .list (.int .u16) cs, .int .i64 (kR s n at_).2.1, .psl 10 3, .int .i64 n3, .int .i64 j], [RO 1 zi z1 z2 z3 z4 z5 zo zc, .row QQ zq, .row RR za, .row RR zn, .row RR zr, RO 6 yi y1 y2 y3 y4 y5 yo yc, .row QQ yq, .row RR ya, .row RR yn, .row RR (kR s n at_).1, .box [.ptr 5 9, .ptr 5 10, .ptr 5 11]]) (.ret, [.str s, .ptr 0 0, .int .i64 2, .ptr 1 0, .list (.int .u16) cs, .int .i64 (kR s n at_).2.1, .psl 6 3, .int .i64 n3, .int .i64 j], [NO, RO 2 yi y1 y2 y3 y4 y5 yo yc, .row QQ yq, .row RR ya, .row RR yn, .row RR (kR s n at_).1, .box [.ptr 1 9, .ptr 1 10, .ptr 1 11]]) }
def r43c (s : List UInt8) (cs : List Int) (at_ n3 j n i zi : Int) (z1 z2 z3 z4 z5 : Bool) (zo zc : Int) (zq : List QQt) (za zn zr : List RRt) (yi : Int) (y1 y2 y3 y4 y5 : Bool) (yo yc : Int) (yq : List QQt) (ya yn yr : List RRt) : Tr (St ⊕ (Ex × St)) := .br (decide (i < n)) (.br (smS s) (.br ((oR (tkR s at_)).2.2 != 0) (.ret (.inr (.ret, stOf [0, 2, 3, 4, 6, 7, 55, 56, 57] [.str s, .ptr 0 0, .int .i64 (oR (tkR s at_)).2.2, .ptr 1 0, .list (.int .u16) cs, .int .i64 at_, .psl 6 3, .int .i64 n3, .int .i64 j] [NO, RO 2 yi y1 y2 y3 y4 y5 yo yc, .row QQ yq, .row RR ya, .row RR yn, .row RR yr, .boxT none [.ptr 1 9, .ptr 1 10, .ptr 1 11]]))) (.br (fits (List.length yr + 1) 40) (.ret (.inl (stOf [0, 2, 4, 6, 7, 12, 55, 56, 57, 66, 67] [.str s, .ptr 0 0, .ptr 5 0, .list (.int .u16) cs, .int .i64 (oR (tkR s at_)).2.1, .ptr 5 11, .psl 10 3, .int .i64 n3, .int .i64 j, .int .u16 n, .int .u16 (IntKind.wrap .u16 (i + 1))] [RO 1 zi z1 z2 z3 z4 z5 zo zc, .row QQ zq, .row RR za, .row RR zn, .row RR zr, RO 6 yi y1 y2 y3 y4 y5 yo yc, .row QQ yq, .row RR ya, .row RR yn, .row RR (yr ++ [(oR (tkR s at_)).1]), .boxT none [.ptr 5 9, .ptr 5 10, .ptr 5 11]]))) .no)) .no) (.ret (.inr (.exit 4, stOf [0, 2, 3, 4, 6, 7, 55, 56, 57] [.str s, .ptr 0 0, .dead, .ptr 5 0, .list (.int .u16) cs, .int .i64 at_, .psl 10 3, .int .i64 n3, .int .i64 j] [RO 1 zi z1 z2 z3 z4 z5 zo zc, .row QQ zq, .row RR za, .row RR zn, .row RR zr, RO 6 yi y1 y2 y3 y4 y5 yo yc, .row QQ yq, .row RR ya, .row RR yn, .row RR yr, .boxT none [.ptr 5 9, .ptr 5 10, .ptr 5 11]])))
theorem round43c (lp : Lp) (s : List UInt8) (cs : List Int) (at_ n3 j n i zi : Int) (z1 z2 z3 z4 z5 : Bool) (zo zc : Int) (zq : List QQt) (za zn zr : List RRt) (yi : Int) (y1 y2 y3 y4 y5 : Bool) (yo yc : Int) (yq : List QQt) (ya yn yr : List RRt) : evC TK (orcB [fs85w, fs16w, fs28w] [os45kw]) lp b43c 4 (stOf [0, 2, 4, 6, 7, 12, 55, 56, 57, 66, 67] [.str s, .ptr 0 0, .ptr 5 0, .list (.int .u16) cs, .int .i64 at_, .ptr 5 11, .psl 10 3, .int .i64 n3, .int .i64 j, .int .u16 n, .int .u16 i] [RO 1 zi z1 z2 z3 z4 z5 zo zc, .row QQ zq, .row RR za, .row RR zn, .row RR zr, RO 6 yi y1 y2 y3 y4 y5 yo yc, .row QQ yq, .row RR ya, .row RR yn, .row RR yr, .box [.ptr 5 9, .ptr 5 10, .ptr 5 11]]) (roundK [0, 2, 4, 6, 7, 12, 55, 56, 57, 66, 67] [0, 2, 3, 4, 6, 7, 55, 56, 57] 0) = (r43c s cs at_ n3 j n i zi z1 z2 z3 z4 z5 zo zc zq za zn zr yi y1 y2 y3 y4 y5 yo yc yq ya yn yr).get := by kernel_rfl
theorem wf43c (s : List UInt8) (cs : List Int) (n3 j n zi : Int) (z1 z2 z3 z4 z5 : Bool) (zo zc : Int) (zq : List QQt) (za zn zr : List RRt) (yi : Int) (y1 y2 y3 y4 y5 : Bool) (yo yc : Int) (yq : List QQt) (ya yn : List RRt) (I'' : Int → Int → List RRt → Prop) (m'' : Int → Int → List RRt → Nat) (r'' : Ex × St) (h : ∀ (at_ i : Int) (yr : List RRt), I'' at_ i yr → (r43c s cs at_ n3 j n i zi z1 z2 z3 z4 z5 zo zc zq za zn zr yi y1 y2 y3 y4 y5 yo yc yq ya yn yr).all fun x'' => x'' = .inr r'' ∨ ∃ (at_' i' : Int) (yr' : List RRt), x'' = .inl (stOf [0, 2, 4, 6, 7, 12, 55, 56, 57, 66, 67] [.str s, .ptr 0 0, .ptr 5 0, .list (.int .u16) cs, .int .i64 at_', .ptr 5 11, .psl 10 3, .int .i64 n3, .int .i64 j, .int .u16 n, .int .u16 i'] [RO 1 zi z1 z2 z3 z4 z5 zo zc, .row QQ zq, .row RR za, .row RR zn, .row RR zr, RO 6 yi y1 y2 y3 y4 y5 yo yc, .row QQ yq, .row RR ya, .row RR yn, .row RR yr', .box [.ptr 5 9, .ptr 5 10, .ptr 5 11]]) ∧ I'' at_' i' yr' ∧ m'' at_' i' yr' < m'' at_ i yr) (lp : Lp) (at_ i : Int) (yr : List RRt) : I'' at_ i yr →
    loopF (fun st => evC TK (orcB [fs85w, fs16w, fs28w] [os45kw]) lp b43c 4 st (roundK [0, 2, 4, 6, 7, 12, 55, 56, 57, 66, 67] [0, 2, 3, 4, 6, 7, 55, 56, 57] 0)) (stOf [0, 2, 4, 6, 7, 12, 55, 56, 57, 66, 67] [.str s, .ptr 0 0, .ptr 5 0, .list (.int .u16) cs, .int .i64 at_, .ptr 5 11, .psl 10 3, .int .i64 n3, .int .i64 j, .int .u16 n, .int .u16 i] [RO 1 zi z1 z2 z3 z4 z5 zo zc, .row QQ zq, .row RR za, .row RR zn, .row RR zr, RO 6 yi y1 y2 y3 y4 y5 yo yc, .row QQ yq, .row RR ya, .row RR yn, .row RR yr, .box [.ptr 5 9, .ptr 5 10, .ptr 5 11]]) = some r'' :=
 loop_tr (fun a'' : Int × Int × List RRt => stOf [0, 2, 4, 6, 7, 12, 55, 56, 57, 66, 67] [.str s, .ptr 0 0, .ptr 5 0, .list (.int .u16) cs, .int .i64 a''.1, .ptr 5 11, .psl 10 3, .int .i64 n3, .int .i64 j, .int .u16 n, .int .u16 a''.2.1] [RO 1 zi z1 z2 z3 z4 z5 zo zc, .row QQ zq, .row RR za, .row RR zn, .row RR zr, RO 6 yi y1 y2 y3 y4 y5 yo yc, .row QQ yq, .row RR ya, .row RR yn, .row RR a''.2.2, .box [.ptr 5 9, .ptr 5 10, .ptr 5 11]]) (fun a'' => I'' a''.1 a''.2.1 a''.2.2) (fun a'' => m'' a''.1 a''.2.1 a''.2.2) r'' (fun a'' => r43c s cs a''.1 n3 j n a''.2.1 zi z1 z2 z3 z4 z5 zo zc zq za zn zr yi y1 y2 y3 y4 y5 yo yc yq ya yn a''.2.2)
  (fun a'' x hx => (round43c lp s cs a''.1 n3 j n a''.2.1 zi z1 z2 z3 z4 z5 zo zc zq za zn zr yi y1 y2 y3 y4 y5 yo yc yq ya yn a''.2.2).trans hx) (fun a'' ha => Tr.all_mono (fun x'' hx => hx.imp id fun ⟨at_', i', yr', h1, h2, h3⟩ => ⟨(at_', i', yr'), h1, h2, h3⟩) (h (a''.1) (a''.2.1) (a''.2.2) ha)) (at_, i, yr)
theorem loop43 : ls43.Ok TK (orcB [fs85w, fs16w, fs28w] [os45kw]) h43 0 0 b43 := by
 intro q'' hq'' x'' y'' r'' h
 obtain ⟨(s : List UInt8), (cs : List Int), (at_ : Int), (n : Int), (i : Int), _⟩ := x''
 obtain ⟨⟨(zi : Int), (z1 : Bool), (z2 : Bool), (z3 : Bool), (z4 : Bool), (z5 : Bool), (zo : Int), (zc : Int), _⟩, (zq : List QQt), (za : List RRt), (zn : List RRt), (zr : List RRt), ⟨(yi : Int), (y1 : Bool), (y2 : Bool), (y3 : Bool), (y4 : Bool), (y5 : Bool), (yo : Int), (yc : Int), _⟩, (yq : List QQt), (ya : List RRt), (yn : List RRt), (yr : List RRt), _⟩ := y''
 obtain ⟨hc, rfl⟩ := Tr.get_on2 h
 show loopF (fun st => evC TK (orcB [fs85w, fs16w, fs28w] [os45kw]) (lpN TK (orcB [fs85w, fs16w, fs28w] [os45kw]) h43 0 q'') b43 0 st (roundK [0, 2, 4, 6, 7, 30, 31] [0, 2, 3, 4, 6, 7] 0)) (stOf [0, 2, 4, 6, 7, 30, 31] [.str s, .ptr 0 0, .ptr 5 0, .list (.int .u16) cs, .int .i64 at_, .int .u16 n, .int .u16 i] [RO 1 zi z1 z2 z3 z4 z5 zo zc, .row QQ zq, .row RR za, .row RR zn, .row RR zr, RO 6 yi y1 y2 y3 y4 y5 yo yc, .row QQ yq, .row RR ya, .row RR yn, .row RR yr]) = some ((bif (kQ s n at_).2.2 then (.exit 0, [.str s, .ptr 0 0, .dead, .ptr 5 0, .list (.int .u16) cs, .int .i64 (kQ s n at_).2.1], [RO 1 zi z1 z2 z3 z4 z5 zo zc, .row QQ zq, .row RR za, .row RR zn, .row RR zr, RO 6 yi y1 y2 y3 y4 y5 yo yc, .row QQ (kQ s n at_).1, .row RR ya, .row RR yn, .row RR yr]) else (.ret, [.str s, .ptr 0 0, .int .i64 2, .ptr 1 0, .list (.int .u16) cs, .int .i64 (kQ s n at_).2.1], [NO, RO 2 yi y1 y2 y3 y4 y5 yo yc, .row QQ (kQ s n at_).1, .row RR ya, .row RR yn, .row RR yr]) : Ex × List AV × List LObj).1, stOf [0, 2, 3, 4, 6, 7] (bif (kQ s n at_).2.2 then (.exit 0, [.str s, .ptr 0 0, .dead, .ptr 5 0, .list (.int .u16) cs, .int .i64 (kQ s n at_).2.1], [RO 1 zi z1 z2 z3 z4 z5 zo zc, .row QQ zq, .row RR za, .row RR zn, .row RR zr, RO 6 yi y1 y2 y3 y4 y5 yo yc, .row QQ (kQ s n at_).1, .row RR ya, .row RR yn, .row RR yr]) else (.ret, [.str s, .ptr 0 0, .int .i64 2, .ptr 1 0, .list (.int .u16) cs, .int .i64 (kQ s n at_).2.1], [NO, RO 2 yi y1 y2 y3 y4 y5 yo yc, .row QQ (kQ s n at_).1, .row RR ya, .row RR yn, .row RR yr]) : Ex × List AV × List LObj).2.1 (bif (kQ s n at_).2.2 then (.exit 0, [.str s, .ptr 0 0, .dead, .ptr 5 0, .list (.int .u16) cs, .int .i64 (kQ s n at_).2.1], [RO 1 zi z1 z2 z3 z4 z5 zo zc, .row QQ zq, .row RR za, .row RR zn, .row RR zr, RO 6 yi y1 y2 y3 y4 y5 yo yc, .row QQ (kQ s n at_).1, .row RR ya, .row RR yn, .row RR yr]) else (.ret, [.str s, .ptr 0 0, .int .i64 2, .ptr 1 0, .list (.int .u16) cs, .int .i64 (kQ s n at_).2.1], [NO, RO 2 yi y1 y2 y3 y4 y5 yo yc, .row QQ (kQ s n at_).1, .row RR ya, .row RR yn, .row RR yr]) : Ex × List AV × List LObj).2.2)
 simp only [tqC, Bool.and_eq_true, decide_eq_true_eq, n16C_iff] at hc
 obtain ⟨hs, h0a, ⟨hn, h6⟩, rfl, rfl⟩ := hc
 refine wf43 s cs n zi z1 z2 z3 z4 z5 zo zc zq za zn zr yi y1 y2 y3 y4 y5 yo yc ya yn yr (fun a i l => 0 ≤ i ∧ i ≤ n ∧ 0 ≤ a ∧ l.length = i.toNat ∧ l ++ (kQ s (n - i) a).1 = (kQ s n at_).1 ∧ (kQ s (n - i) a).2 = (kQ s n at_).2) (fun _ i _ => (n - i).toNat) _ ?_ _ at_ 0 [] ⟨by omega, by omega, h0a, rfl, by rw [Int.sub_zero]; rfl, by rw [Int.sub_zero]⟩
 rintro a i l ⟨h0, h1, ha, hl, hF, hG⟩
 rw [← hF, ← hG]
 unfold r43
 by_cases hi : i < n
 · have hw2 : IntKind.wrap .u16 (i + 1) = i + 1 := IntWalk.u16_in _ (by omega)
   rw [hw2]
   have hfit : fits (l.length + 1) 24 = true := fits_true (by omega) (by omega)
   cases ht : tkQ s a with
   | none =>
     have e : kQ s (n - i) a = ([], a, false) := by
      show tkF (tkQ s) (n - i).toNat a = _
      rw [show (n - i).toNat = (n - (i + 1)).toNat + 1 by omega]
      exact tkF_stop ht
     rw [e, List.append_nil]
     exact Tr.all_t (dec_true hi) (Tr.all_t (sm_big hs) (Tr.all_t rfl (Tr.all_ret (.inl rfl))))
   | some p =>
     obtain ⟨r, e⟩ := p
     obtain ⟨_, hp, _⟩ := tkQ_place ha ht
     have ee : kQ s (n - i) a = (r :: (kQ s (n - (i + 1)) e).1, (kQ s (n - (i + 1)) e).2) := by
      show tkF (tkQ s) (n - i).toNat a = _
      rw [show (n - i).toNat = (n - (i + 1)).toNat + 1 by omega]
      exact tkF_step ht
     refine Tr.all_t (dec_true hi) (Tr.all_t (sm_big hs) (Tr.all_f rfl (Tr.all_t hfit (Tr.all_ret (.inr ⟨_, _, _, rfl, ⟨by omega, by omega, by show 0 ≤ e; omega, by rw [List.length_append, List.length_singleton]; omega, ?_, by rw [ee]; rfl⟩, by omega⟩)))))
     rw [ee, List.append_assoc]
     rfl
 · have e : kQ s (n - i) a = ([], a, true) := by
     show tkF (tkQ s) (n - i).toNat a = _
     rw [show (n - i).toNat = 0 by omega]
     rfl
   rw [e, List.append_nil]
   exact Tr.all_f (dec_false hi) (Tr.all_ret (.inl rfl))
theorem loop43a : ls43a.Ok TK (orcB [fs85w, fs16w, fs28w] [os45kw]) h43 0 0 b43a := by
 intro q'' hq'' x'' y'' r'' h
 obtain ⟨(s : List UInt8), (cs : List Int), (at_ : Int), (n3 : Int), (j : Int), (n : Int), (i : Int), _⟩ := x''
 obtain ⟨⟨(zi : Int), (z1 : Bool), (z2 : Bool), (z3 : Bool), (z4 : Bool), (z5 : Bool), (zo : Int), (zc : Int), _⟩, (zq : List QQt), (za : List RRt), (zn : List RRt), (zr : List RRt), ⟨(yi : Int), (y1 : Bool), (y2 : Bool), (y3 : Bool), (y4 : Bool), (y5 : Bool), (yo : Int), (yc : Int), _⟩, (yq : List QQt), (ya : List RRt), (yn : List RRt), (yr : List RRt), _, _⟩ := y''
 obtain ⟨hc, rfl⟩ := Tr.get_on2 h
 show loopF (fun st => evC TK (orcB [fs85w, fs16w, fs28w] [os45kw]) (lpN TK (orcB [fs85w, fs16w, fs28w] [os45kw]) h43 0 q'') b43a 4 st (roundK [0, 2, 4, 6, 7, 12, 55, 56, 57, 66, 67] [0, 2, 3, 4, 6, 7, 55, 56, 57] 0)) (stOf [0, 2, 4, 6, 7, 12, 55, 56, 57, 66, 67] [.str s, .ptr 0 0, .ptr 5 0, .list (.int .u16) cs, .int .i64 at_, .ptr 5 9, .psl 10 3, .int .i64 n3, .int .i64 j, .int .u16 n, .int .u16 i] [RO 1 zi z1 z2 z3 z4 z5 zo zc, .row QQ zq, .row RR za, .row RR zn, .row RR zr, RO 6 yi y1 y2 y3 y4 y5 yo yc, .row QQ yq, .row RR ya, .row RR yn, .row RR yr, .box [.ptr 5 9, .ptr 5 10, .ptr 5 11]]) = some ((bif (kR s n at_).2.2 then (.exit 4, [.str s, .ptr 0 0, .dead, .ptr 5 0, .list (.int .u16) cs, .int .i64 (kR s n at_).2.1, .psl 10 3, .int .i64 n3, .int .i64 j], [RO 1 zi z1 z2 z3 z4 z5 zo zc, .row QQ zq, .row RR za, .row RR zn, .row RR zr, RO 6 yi y1 y2 y3 y4 y5 yo yc, .row QQ yq, .row RR (kR s n at_).1, .row RR yn, .row RR yr, .box [.ptr 5 9, .ptr 5 10, .ptr 5 11]]) else (.ret, [.str s, .ptr 0 0, .int .i64 2, .ptr 1 0, .list (.int .u16) cs, .int .i64 (kR s n at_).2.1, .psl 6 3, .int .i64 n3, .int .i64 j], [NO, RO 2 yi y1 y2 y3 y4 y5 yo yc, .row QQ yq, .row RR (kR s n at_).1, .row RR yn, .row RR yr, .box [.ptr 1 9, .ptr 1 10, .ptr 1 11]]) : Ex × List AV × List LObj).1, stOf [0, 2, 3, 4, 6, 7, 55, 56, 57] (bif (kR s n at_).2.2 then (.exit 4, [.str s, .ptr 0 0, .dead, .ptr 5 0, .list (.int .u16) cs, .int .i64 (kR s n at_).2.1, .psl 10 3, .int .i64 n3, .int .i64 j], [RO 1 zi z1 z2 z3 z4 z5 zo zc, .row QQ zq, .row RR za, .row RR zn, .row RR zr, RO 6 yi y1 y2 y3 y4 y5 yo yc, .row QQ yq, .row RR (kR s n at_).1, .row RR yn, .row RR yr, .box [.ptr 5 9, .ptr 5 10, .ptr 5 11]]) else (.ret, [.str s, .ptr 0 0, .int .i64 2, .ptr 1 0, .list (.int .u16) cs, .int .i64 (kR s n at_).2.1, .psl 6 3, .int .i64 n3, .int .i64 j], [NO, RO 2 yi y1 y2 y3 y4 y5 yo yc, .row QQ yq, .row RR (kR s n at_).1, .row RR yn, .row RR yr, .box [.ptr 1 9, .ptr 1 10, .ptr 1 11]]) : Ex × List AV × List LObj).2.1 (bif (kR s n at_).2.2 then (.exit 4, [.str s, .ptr 0 0, .dead, .ptr 5 0, .list (.int .u16) cs, .int .i64 (kR s n at_).2.1, .psl 10 3, .int .i64 n3, .int .i64 j], [RO 1 zi z1 z2 z3 z4 z5 zo zc, .row QQ zq, .row RR za, .row RR zn, .row RR zr, RO 6 yi y1 y2 y3 y4 y5 yo yc, .row QQ yq, .row RR (kR s n at_).1, .row RR yn, .row RR yr, .box [.ptr 5 9, .ptr 5 10, .ptr 5 11]]) else (.ret, [.str s, .ptr 0 0, .int .i64 2, .ptr 1 0, .list (.int .u16) cs, .int .i64 (kR s n at_).2.1, .psl 6 3, .int .i64 n3, .int .i64 j], [NO, RO 2 yi y1 y2 y3 y4 y5 yo yc, .row QQ yq, .row RR (kR s n at_).1, .row RR yn, .row RR yr, .box [.ptr 1 9, .ptr 1 10, .ptr 1 11]]) : Ex × List AV × List LObj).2.2)
 simp only [trC, Bool.and_eq_true, decide_eq_true_eq, n16C_iff] at hc
 obtain ⟨hs, h0a, ⟨hn, h6⟩, rfl, rfl⟩ := hc
 refine wf43a s cs n3 j n zi z1 z2 z3 z4 z5 zo zc zq za zn zr yi y1 y2 y3 y4 y5 yo yc yq yn yr (fun a i l => 0 ≤ i ∧ i ≤ n ∧ 0 ≤ a ∧ l.length = i.toNat ∧ l ++ (kR s (n - i) a).1 = (kR s n at_).1 ∧ (kR s (n - i) a).2 = (kR s n at_).2) (fun _ i _ => (n - i).toNat) _ ?_ _ at_ 0 [] ⟨by omega, by omega, h0a, rfl, by rw [Int.sub_zero]; rfl, by rw [Int.sub_zero]⟩
 rintro a i l ⟨h0, h1, ha, hl, hF, hG⟩
 rw [← hF, ← hG]
 unfold r43a
 by_cases hi : i < n
 · have hw2 : IntKind.wrap .u16 (i + 1) = i + 1 := IntWalk.u16_in _ (by omega)
   rw [hw2]
   have hfit : fits (l.length + 1) 40 = true := fits_true (by omega) (by omega)
   cases ht : tkR s a with
   | none =>
     have e : kR s (n - i) a = ([], a, false) := by
      show tkF (tkR s) (n - i).toNat a = _
      rw [show (n - i).toNat = (n - (i + 1)).toNat + 1 by omega]
      exact tkF_stop ht
     rw [e, List.append_nil]
     exact Tr.all_t (dec_true hi) (Tr.all_t hs (Tr.all_t rfl (Tr.all_ret (.inl rfl))))
   | some p =>
     obtain ⟨r, e⟩ := p
     obtain ⟨_, hp, _⟩ := tkR_place ha ht
     have ee : kR s (n - i) a = (r :: (kR s (n - (i + 1)) e).1, (kR s (n - (i + 1)) e).2) := by
      show tkF (tkR s) (n - i).toNat a = _
      rw [show (n - i).toNat = (n - (i + 1)).toNat + 1 by omega]
      exact tkF_step ht
     refine Tr.all_t (dec_true hi) (Tr.all_t hs (Tr.all_f rfl (Tr.all_t hfit (Tr.all_ret (.inr ⟨_, _, _, rfl, ⟨by omega, by omega, by show 0 ≤ e; omega, by rw [List.length_append, List.length_singleton]; omega, ?_, by rw [ee]; rfl⟩, by omega⟩)))))
     rw [ee, List.append_assoc]
     rfl
 · have e : kR s (n - i) a = ([], a, true) := by
     show tkF (tkR s) (n - i).toNat a = _
     rw [show (n - i).toNat = 0 by omega]
     rfl
   rw [e, List.append_nil]
   exact Tr.all_f (dec_false hi) (Tr.all_ret (.inl rfl))
theorem loop43b : ls43b.Ok TK (orcB [fs85w, fs16w, fs28w] [os45kw]) h43 0 0 b43b := by
 intro q'' hq'' x'' y'' r'' h
 obtain ⟨(s : List UInt8), (cs : List Int), (at_ : Int), (n3 : Int), (j : Int), (n : Int), (i : Int), _⟩ := x''
 obtain ⟨⟨(zi : Int), (z1 : Bool), (z2 : Bool), (z3 : Bool), (z4 : Bool), (z5 : Bool), (zo : Int), (zc : Int), _⟩, (zq : List QQt), (za : List RRt), (zn : List RRt), (zr : List RRt), ⟨(yi : Int), (y1 : Bool), (y2 : Bool), (y3 : Bool), (y4 : Bool), (y5 : Bool), (yo : Int), (yc : Int), _⟩, (yq : List QQt), (ya : List RRt), (yn : List RRt), (yr : List RRt), _, _⟩ := y''
 obtain ⟨hc, rfl⟩ := Tr.get_on2 h
 show loopF (fun st => evC TK (orcB [fs85w, fs16w, fs28w] [os45kw]) (lpN TK (orcB [fs85w, fs16w, fs28w] [os45kw]) h43 0 q'') b43b 4 st (roundK [0, 2, 4, 6, 7, 12, 55, 56, 57, 66, 67] [0, 2, 3, 4, 6, 7, 55, 56, 57] 0)) (stOf [0, 2, 4, 6, 7, 12, 55, 56, 57, 66, 67] [.str s, .ptr 0 0, .ptr 5 0, .list (.int .u16) cs, .int .i64 at_, .ptr 5 10, .psl 10 3, .int .i64 n3, .int .i64 j, .int .u16 n, .int .u16 i] [RO 1 zi z1 z2 z3 z4 z5 zo zc, .row QQ zq, .row RR za, .row RR zn, .row RR zr, RO 6 yi y1 y2 y3 y4 y5 yo yc, .row QQ yq, .row RR ya, .row RR yn, .row RR yr, .box [.ptr 5 9, .ptr 5 10, .ptr 5 11]]) = some ((bif (kR s n at_).2.2 then (.exit 4, [.str s, .ptr 0 0, .dead, .ptr 5 0, .list (.int .u16) cs, .int .i64 (kR s n at_).2.1, .psl 10 3, .int .i64 n3, .int .i64 j], [RO 1 zi z1 z2 z3 z4 z5 zo zc, .row QQ zq, .row RR za, .row RR zn, .row RR zr, RO 6 yi y1 y2 y3 y4 y5 yo yc, .row QQ yq, .row RR ya, .row RR (kR s n at_).1, .row RR yr, .box [.ptr 5 9, .ptr 5 10, .ptr 5 11]]) else (.ret, [.str s, .ptr 0 0, .int .i64 2, .ptr 1 0, .list (.int .u16) cs, .int .i64 (kR s n at_).2.1, .psl 6 3, .int .i64 n3, .int .i64 j], [NO, RO 2 yi y1 y2 y3 y4 y5 yo yc, .row QQ yq, .row RR ya, .row RR (kR s n at_).1, .row RR yr, .box [.ptr 1 9, .ptr 1 10, .ptr 1 11]]) : Ex × List AV × List LObj).1, stOf [0, 2, 3, 4, 6, 7, 55, 56, 57] (bif (kR s n at_).2.2 then (.exit 4, [.str s, .ptr 0 0, .dead, .ptr 5 0, .list (.int .u16) cs, .int .i64 (kR s n at_).2.1, .psl 10 3, .int .i64 n3, .int .i64 j], [RO 1 zi z1 z2 z3 z4 z5 zo zc, .row QQ zq, .row RR za, .row RR zn, .row RR zr, RO 6 yi y1 y2 y3 y4 y5 yo yc, .row QQ yq, .row RR ya, .row RR (kR s n at_).1, .row RR yr, .box [.ptr 5 9, .ptr 5 10, .ptr 5 11]]) else (.ret, [.str s, .ptr 0 0, .int .i64 2, .ptr 1 0, .list (.int .u16) cs, .int .i64 (kR s n at_).2.1, .psl 6 3, .int .i64 n3, .int .i64 j], [NO, RO 2 yi y1 y2 y3 y4 y5 yo yc, .row QQ yq, .row RR ya, .row RR (kR s n at_).1, .row RR yr, .box [.ptr 1 9, .ptr 1 10, .ptr 1 11]]) : Ex × List AV × List LObj).2.1 (bif (kR s n at_).2.2 then (.exit 4, [.str s, .ptr 0 0, .dead, .ptr 5 0, .list (.int .u16) cs, .int .i64 (kR s n at_).2.1, .psl 10 3, .int .i64 n3, .int .i64 j], [RO 1 zi z1 z2 z3 z4 z5 zo zc, .row QQ zq, .row RR za, .row RR zn, .row RR zr, RO 6 yi y1 y2 y3 y4 y5 yo yc, .row QQ yq, .row RR ya, .row RR (kR s n at_).1, .row RR yr, .box [.ptr 5 9, .ptr 5 10, .ptr 5 11]]) else (.ret, [.str s, .ptr 0 0, .int .i64 2, .ptr 1 0, .list (.int .u16) cs, .int .i64 (kR s n at_).2.1, .psl 6 3, .int .i64 n3, .int .i64 j], [NO, RO 2 yi y1 y2 y3 y4 y5 yo yc, .row QQ yq, .row RR ya, .row RR (kR s n at_).1, .row RR yr, .box [.ptr 1 9, .ptr 1 10, .ptr 1 11]]) : Ex × List AV × List LObj).2.2)
 simp only [trC, Bool.and_eq_true, decide_eq_true_eq, n16C_iff] at hc
 obtain ⟨hs, h0a, ⟨hn, h6⟩, rfl, rfl⟩ := hc
 refine wf43b s cs n3 j n zi z1 z2 z3 z4 z5 zo zc zq za zn zr yi y1 y2 y3 y4 y5 yo yc yq ya yr (fun a i l => 0 ≤ i ∧ i ≤ n ∧ 0 ≤ a ∧ l.length = i.toNat ∧ l ++ (kR s (n - i) a).1 = (kR s n at_).1 ∧ (kR s (n - i) a).2 = (kR s n at_).2) (fun _ i _ => (n - i).toNat) _ ?_ _ at_ 0 [] ⟨by omega, by omega, h0a, rfl, by rw [Int.sub_zero]; rfl, by rw [Int.sub_zero]⟩
 rintro a i l ⟨h0, h1, ha, hl, hF, hG⟩
 rw [← hF, ← hG]
 unfold r43b
 by_cases hi : i < n
 · have hw2 : IntKind.wrap .u16 (i + 1) = i + 1 := IntWalk.u16_in _ (by omega)
   rw [hw2]
   have hfit : fits (l.length + 1) 40 = true := fits_true (by omega) (by omega)
   cases ht : tkR s a with
   | none =>
     have e : kR s (n - i) a = ([], a, false) := by
      show tkF (tkR s) (n - i).toNat a = _
      rw [show (n - i).toNat = (n - (i + 1)).toNat + 1 by omega]
      exact tkF_stop ht
     rw [e, List.append_nil]
     exact Tr.all_t (dec_true hi) (Tr.all_t hs (Tr.all_t rfl (Tr.all_ret (.inl rfl))))
   | some p =>
     obtain ⟨r, e⟩ := p
     obtain ⟨_, hp, _⟩ := tkR_place ha ht
     have ee : kR s (n - i) a = (r :: (kR s (n - (i + 1)) e).1, (kR s (n - (i + 1)) e).2) := by
      show tkF (tkR s) (n - i).toNat a = _
      rw [show (n - i).toNat = (n - (i + 1)).toNat + 1 by omega]
      exact tkF_step ht
     refine Tr.all_t (dec_true hi) (Tr.all_t hs (Tr.all_f rfl (Tr.all_t hfit (Tr.all_ret (.inr ⟨_, _, _, rfl, ⟨by omega, by omega, by show 0 ≤ e; omega, by rw [List.length_append, List.length_singleton]; omega, ?_, by rw [ee]; rfl⟩, by omega⟩)))))
     rw [ee, List.append_assoc]
     rfl
 · have e : kR s (n - i) a = ([], a, true) := by
     show tkF (tkR s) (n - i).toNat a = _
     rw [show (n - i).toNat = 0 by omega]
     rfl
   rw [e, List.append_nil]
   exact Tr.all_f (dec_false hi) (Tr.all_ret (.inl rfl))
theorem loop43c : ls43c.Ok TK (orcB [fs85w, fs16w, fs28w] [os45kw]) h43 0 0 b43c := by
 intro q'' hq'' x'' y'' r'' h
 obtain ⟨(s : List UInt8), (cs : List Int), (at_ : Int), (n3 : Int), (j : Int), (n : Int), (i : Int), _⟩ := x''
 obtain ⟨⟨(zi : Int), (z1 : Bool), (z2 : Bool), (z3 : Bool), (z4 : Bool), (z5 : Bool), (zo : Int), (zc : Int), _⟩, (zq : List QQt), (za : List RRt), (zn : List RRt), (zr : List RRt), ⟨(yi : Int), (y1 : Bool), (y2 : Bool), (y3 : Bool), (y4 : Bool), (y5 : Bool), (yo : Int), (yc : Int), _⟩, (yq : List QQt), (ya : List RRt), (yn : List RRt), (yr : List RRt), _, _⟩ := y''
 obtain ⟨hc, rfl⟩ := Tr.get_on2 h
 show loopF (fun st => evC TK (orcB [fs85w, fs16w, fs28w] [os45kw]) (lpN TK (orcB [fs85w, fs16w, fs28w] [os45kw]) h43 0 q'') b43c 4 st (roundK [0, 2, 4, 6, 7, 12, 55, 56, 57, 66, 67] [0, 2, 3, 4, 6, 7, 55, 56, 57] 0)) (stOf [0, 2, 4, 6, 7, 12, 55, 56, 57, 66, 67] [.str s, .ptr 0 0, .ptr 5 0, .list (.int .u16) cs, .int .i64 at_, .ptr 5 11, .psl 10 3, .int .i64 n3, .int .i64 j, .int .u16 n, .int .u16 i] [RO 1 zi z1 z2 z3 z4 z5 zo zc, .row QQ zq, .row RR za, .row RR zn, .row RR zr, RO 6 yi y1 y2 y3 y4 y5 yo yc, .row QQ yq, .row RR ya, .row RR yn, .row RR yr, .box [.ptr 5 9, .ptr 5 10, .ptr 5 11]]) = some ((bif (kR s n at_).2.2 then (.exit 4, [.str s, .ptr 0 0, .dead, .ptr 5 0, .list (.int .u16) cs, .int .i64 (kR s n at_).2.1, .psl 10 3, .int .i64 n3, .int .i64 j], [RO 1 zi z1 z2 z3 z4 z5 zo zc, .row QQ zq, .row RR za, .row RR zn, .row RR zr, RO 6 yi y1 y2 y3 y4 y5 yo yc, .row QQ yq, .row RR ya, .row RR yn, .row RR (kR s n at_).1, .box [.ptr 5 9, .ptr 5 10, .ptr 5 11]]) else (.ret, [.str s, .ptr 0 0, .int .i64 2, .ptr 1 0, .list (.int .u16) cs, .int .i64 (kR s n at_).2.1, .psl 6 3, .int .i64 n3, .int .i64 j], [NO, RO 2 yi y1 y2 y3 y4 y5 yo yc, .row QQ yq, .row RR ya, .row RR yn, .row RR (kR s n at_).1, .box [.ptr 1 9, .ptr 1 10, .ptr 1 11]]) : Ex × List AV × List LObj).1, stOf [0, 2, 3, 4, 6, 7, 55, 56, 57] (bif (kR s n at_).2.2 then (.exit 4, [.str s, .ptr 0 0, .dead, .ptr 5 0, .list (.int .u16) cs, .int .i64 (kR s n at_).2.1, .psl 10 3, .int .i64 n3, .int .i64 j], [RO 1 zi z1 z2 z3 z4 z5 zo zc, .row QQ zq, .row RR za, .row RR zn, .row RR zr, RO 6 yi y1 y2 y3 y4 y5 yo yc, .row QQ yq, .row RR ya, .row RR yn, .row RR (kR s n at_).1, .box [.ptr 5 9, .ptr 5 10, .ptr 5 11]]) else (.ret, [.str s, .ptr 0 0, .int .i64 2, .ptr 1 0, .list (.int .u16) cs, .int .i64 (kR s n at_).2.1, .psl 6 3, .int .i64 n3, .int .i64 j], [NO, RO 2 yi y1 y2 y3 y4 y5 yo yc, .row QQ yq, .row RR ya, .row RR yn, .row RR (kR s n at_).1, .box [.ptr 1 9, .ptr 1 10, .ptr 1 11]]) : Ex × List AV × List LObj).2.1 (bif (kR s n at_).2.2 then (.exit 4, [.str s, .ptr 0 0, .dead, .ptr 5 0, .list (.int .u16) cs, .int .i64 (kR s n at_).2.1, .psl 10 3, .int .i64 n3, .int .i64 j], [RO 1 zi z1 z2 z3 z4 z5 zo zc, .row QQ zq, .row RR za, .row RR zn, .row RR zr, RO 6 yi y1 y2 y3 y4 y5 yo yc, .row QQ yq, .row RR ya, .row RR yn, .row RR (kR s n at_).1, .box [.ptr 5 9, .ptr 5 10, .ptr 5 11]]) else (.ret, [.str s, .ptr 0 0, .int .i64 2, .ptr 1 0, .list (.int .u16) cs, .int .i64 (kR s n at_).2.1, .psl 6 3, .int .i64 n3, .int .i64 j], [NO, RO 2 yi y1 y2 y3 y4 y5 yo yc, .row QQ yq, .row RR ya, .row RR yn, .row RR (kR s n at_).1, .box [.ptr 1 9, .ptr 1 10, .ptr 1 11]]) : Ex × List AV × List LObj).2.2)
 simp only [trC, Bool.and_eq_true, decide_eq_true_eq, n16C_iff] at hc
 obtain ⟨hs, h0a, ⟨hn, h6⟩, rfl, rfl⟩ := hc
 refine wf43c s cs n3 j n zi z1 z2 z3 z4 z5 zo zc zq za zn zr yi y1 y2 y3 y4 y5 yo yc yq ya yn (fun a i l => 0 ≤ i ∧ i ≤ n ∧ 0 ≤ a ∧ l.length = i.toNat ∧ l ++ (kR s (n - i) a).1 = (kR s n at_).1 ∧ (kR s (n - i) a).2 = (kR s n at_).2) (fun _ i _ => (n - i).toNat) _ ?_ _ at_ 0 [] ⟨by omega, by omega, h0a, rfl, by rw [Int.sub_zero]; rfl, by rw [Int.sub_zero]⟩
 rintro a i l ⟨h0, h1, ha, hl, hF, hG⟩
 rw [← hF, ← hG]
 unfold r43c
 by_cases hi : i < n
 · have hw2 : IntKind.wrap .u16 (i + 1) = i + 1 := IntWalk.u16_in _ (by omega)
   rw [hw2]
   have hfit : fits (l.length + 1) 40 = true := fits_true (by omega) (by omega)
   cases ht : tkR s a with
   | none =>
     have e : kR s (n - i) a = ([], a, false) := by
      show tkF (tkR s) (n - i).toNat a = _
      rw [show (n - i).toNat = (n - (i + 1)).toNat + 1 by omega]
      exact tkF_stop ht
     rw [e, List.append_nil]
     exact Tr.all_t (dec_true hi) (Tr.all_t hs (Tr.all_t rfl (Tr.all_ret (.inl rfl))))
   | some p =>
     obtain ⟨r, e⟩ := p
     obtain ⟨_, hp, _⟩ := tkR_place ha ht
     have ee : kR s (n - i) a = (r :: (kR s (n - (i + 1)) e).1, (kR s (n - (i + 1)) e).2) := by
      show tkF (tkR s) (n - i).toNat a = _
      rw [show (n - i).toNat = (n - (i + 1)).toNat + 1 by omega]
      exact tkF_step ht
     refine Tr.all_t (dec_true hi) (Tr.all_t hs (Tr.all_f rfl (Tr.all_t hfit (Tr.all_ret (.inr ⟨_, _, _, rfl, ⟨by omega, by omega, by show 0 ≤ e; omega, by rw [List.length_append, List.length_singleton]; omega, ?_, by rw [ee]; rfl⟩, by omega⟩)))))
     rw [ee, List.append_assoc]
     rfl
 · have e : kR s (n - i) a = ([], a, true) := by
     show tkF (tkR s) (n - i).toNat a = _
     rw [show (n - i).toNat = 0 by omega]
     rfl
   rw [e, List.append_nil]
   exact Tr.all_f (dec_false hi) (Tr.all_ret (.inl rfl))
def k3 (s : List UInt8) (c1 c2 c3 a : Int) : (List RRt × (List RRt × List RRt)) × (Int × Bool) :=
 bif (kR s c1 a).2.2 then
  (bif (kR s c2 (kR s c1 a).2.1).2.2 then (((kR s c1 a).1, (kR s c2 (kR s c1 a).2.1).1, (kR s c3 (kR s c2 (kR s c1 a).2.1).2.1).1), (kR s c3 (kR s c2 (kR s c1 a).2.1).2.1).2)
  else (((kR s c1 a).1, (kR s c2 (kR s c1 a).2.1).1, []), (kR s c2 (kR s c1 a).2.1).2))
 else (((kR s c1 a).1, [], []), (kR s c1 a).2)
theorem k3_1 {s : List UInt8} {c1 c2 c3 a : Int} {l : List RRt} {e : Int} (hx : kR s c1 a = (l, e, false)) : k3 s c1 c2 c3 a = ((l, [], []), e, false) := by
 unfold k3
 rw [hx]
 rfl
theorem k3_2 {s : List UInt8} {c1 c2 c3 a : Int} {l l2 : List RRt} {e e2 : Int} (hx : kR s c1 a = (l, e, true)) (hy : kR s c2 e = (l2, e2, false)) : k3 s c1 c2 c3 a = ((l, l2, []), e2, false) := by
 unfold k3
 rw [hx]
 show (bif (kR s c2 e).2.2 then _ else _) = _
 rw [hy]
 rfl
theorem k3_3 {s : List UInt8} {c1 c2 c3 a : Int} {l l2 l3 : List RRt} {e e2 e3 : Int} {ok : Bool} (hx : kR s c1 a = (l, e, true)) (hy : kR s c2 e = (l2, e2, true)) (hz : kR s c3 e2 = (l3, e3, ok)) : k3 s c1 c2 c3 a = ((l, l2, l3), e3, ok) := by
 unfold k3
 rw [hx]
 show (bif (kR s c2 e).2.2 then (((l, (kR s c2 e).1, (kR s c3 (kR s c2 e).2.1).1), (kR s c3 (kR s c2 e).2.1).2) : (List RRt × (List RRt × List RRt)) × (Int × Bool)) else _) = _
 rw [hy]
 show ((l, l2, (kR s c3 e2).1), (kR s c3 e2).2) = _
 rw [hz]
theorem tkF_pos {α : Type} {f : Int → Option (α × Int)} (hf : ∀ a x e, 0 ≤ a → f a = some (x, e) → 0 ≤ e) : ∀ (n : Nat) (a : Int), 0 ≤ a → 0 ≤ (tkF f n a).2.1
 | 0, a, h => h
 | n + 1, a, h => by
   cases ht : f a with
   | none => rw [tkF_stop ht]; exact h
   | some p =>
     obtain ⟨x, e⟩ := p
     rw [tkF_step ht]
     exact tkF_pos hf n e (hf a x e h ht)
theorem kR_pos {s : List UInt8} {n a : Int} (h : 0 ≤ a) : 0 ≤ (kR s n a).2.1 := tkF_pos (fun a x e ha hx => by have := tkR_place ha hx; omega) _ _ h
theorem kQ_pos {s : List UInt8} {n a : Int} (h : 0 ≤ a) : 0 ≤ (kQ s n a).2.1 := tkF_pos (fun a x e ha hx => by have := tkQ_place ha hx; omega) _ _ h
def toC (s : List UInt8) (cs : List Int) (at_ n3 j : Int) (ya yn yr : List RRt) : Bool := smS s && (decide (0 ≤ at_) && ((decide (cs.length = 4) && cs.all n16C) && (decide (n3 = 3) && (decide (j = 0) && (decide (ya = []) && (decide (yn = []) && decide (yr = [])))))))
theorem ok45kw : os45kw.Ok Try.prog := by
 refine like_ok ok45k _ ?_
 rintro ⟨(s : List UInt8), _⟩ _ y h
 obtain ⟨hb, rfl⟩ := Tr.get_on h
 have hb : s.length ≤ 100000000 := of_decide_eq_true hb
 refine Tr.get_of_all ?_
 show (t45k s).all _
 unfold t45k hdV
 refine Tr.all_br (fun c => Tr.all_ret (by rw [c]; rfl)) fun c => ?_
 have hl := of_decide_eq_false c
 have e0 : vn2 s 0 = n16 s 0 := by unfold vn2 vn16; rw [some_iff.2 ⟨by omega, by omega, by omega⟩]; rfl
 have e1 : vn2 s 1 = n16 s 2 := by unfold vn2 vn16; rw [some_iff.2 ⟨by omega, by omega, by omega⟩]; rfl
 have e : sixV s (Int.toNat 2) 0 = [n16 s 0, n16 s 2] := by
  show [vn2 s 0, vn2 s 1] = _
  rw [e0, e1]
 have hf := n16_le s 2
 have hfd : Int.fdiv (n16 s 2) (2 ^ min (Int.toNat 11) (IntKind.bits IntKind.u16)) = n16 s 2 / 2048 := Int.fdiv_eq_ediv_of_nonneg _ (by decide)
 rw [c, e]
 have g0 : List.getD [n16 s 0, n16 s 2] (Int.toNat 0) (Ty.dflt (Ty.int .u16)) = n16 s 0 := rfl
 have g1 : List.getD [n16 s 0, n16 s 2] (Int.toNat 1) (Ty.dflt (Ty.int .u16)) = n16 s 2 := rfl
 rw [g0, g1, hfd]
 have b15 := and_bit hf 15 (by omega)
 have b10 := and_bit hf 10 (by omega)
 have b9 := and_bit hf 9 (by omega)
 have b8 := and_bit hf 8 (by omega)
 have b7 := and_bit hf 7 (by omega)
 rw [show (((2 ^ 15 : Nat) : Int)) = 32768 from rfl] at b15
 rw [show (((2 ^ 10 : Nat) : Int)) = 1024 from rfl] at b10
 rw [show (((2 ^ 9 : Nat) : Int)) = 512 from rfl] at b9
 rw [show (((2 ^ 8 : Nat) : Int)) = 256 from rfl] at b8
 rw [show (((2 ^ 7 : Nat) : Int)) = 128 from rfl] at b7
 rw [b15, b10, b9, b8, b7, and_low hf, and_low (f := n16 s 2 / 2048) (by omega)]
 refine Tr.all_t ?_ (Tr.all_ret rfl)
 unfold sxC
 rw [dec_true hb]
 rfl
noncomputable def b43o : Code := nthLoop c43 1
def ls43o : LoopSpec := { bid := 2, sh := [.d .str false, .ptr 0 0, .ptr 5 0, .d (.list (.int .u16)) false, .d (.int .i64) false, .psl 10 3, .d (.int .i64) false, .d (.int .i64) false], so := [(ROs 1), .row QQ, .row RR, .row RR, .row RR, (ROs 6), .row QQ, .row RR, .row RR, .row RR, .box [.ptr 5 9, .ptr 5 10, .ptr 5 11]], F := fun (s, cs, at_, n3, j, _) ((zi, z1, z2, z3, z4, z5, zo, zc, _), zq, za, zn, zr, (yi, y1, y2, y3, y4, y5, yo, yc, _), yq, ya, yn, yr, _, _) => .on2 (toC s cs at_ n3 j ya yn yr) ((k3 s (cs.getD 1 0) (cs.getD 2 0) (cs.getD 3 0) at_).2.2) (.exit 2, [.str s, .ptr 0 0, .dead, .ptr 5 0, .int .i64 (k3 s (cs.getD 1 0) (cs.getD 2 0) (cs.getD 3 0) at_).2.1], [RO 1 zi z1 z2 z3 z4 z5 zo zc, .row QQ zq, .row RR za, .row RR zn, .row RR zr, RO 6 yi y1 y2 y3 y4 y5 yo yc, .row QQ yq, .row RR (k3 s (cs.getD 1 0) (cs.getD 2 0) (cs.getD 3 0) at_).1.1, .row RR (k3 s (cs.getD 1 0) (cs.getD 2 0) (cs.getD 3 0) at_).1.2.1, .row RR (k3 s (cs.getD 1 0) (cs.getD 2 0) (cs.getD 3 0) at_).1.2.2]) (.ret, [.str s, .ptr 0 0, .int .i64 2, .ptr 1 0, .int .i64 (k3 s (cs.getD 1 0) (cs.getD 2 0) (cs.getD 3 0) at_).2.1], [NO, RO 2 yi y1 y2 y3 y4 y5 yo yc, .row QQ yq, .row RR (k3 s (cs.getD 1 0) (cs.getD 2 0) (cs.getD 3 0) at_).1.1, .row RR (k3 s (cs.getD 1 0) (cs.getD 2 0) (cs.getD 3 0) at_).1.2.1, .row RR (k3 s (cs.getD 1 0) (cs.getD 2 0) (cs.getD 3 0) at_).1.2.2]) }
def r43o (s : List UInt8) (cs : List Int) (at_ n3 j zi : Int) (z1 z2 z3 z4 z5 : Bool) (zo zc : Int) (zq : List QQt) (za zn zr : List RRt) (yi : Int) (y1 y2 y3 y4 y5 : Bool) (yo yc : Int) (yq : List QQt) (ya yn yr : List RRt) : Tr (St ⊕ (Ex × St)) := .br (decide (j < n3)) (.br (decide (j = (↑0 : Int))) (.br (decide (0 ≤ IntKind.wrap .i64 (1 + j))) (.br (decide (IntKind.wrap .i64 (1 + j) < (↑cs.length : Int))) (.br (trC s at_ (List.getD cs (Int.toNat (IntKind.wrap .i64 (1 + j))) (Ty.dflt (Ty.int .u16))) 0 ya) (.br (kR s (List.getD cs (Int.toNat (IntKind.wrap .i64 (1 + j))) (Ty.dflt (Ty.int .u16))) at_).2.2 (.ret (.inl (stOf [0, 2, 4, 6, 7, 55, 56, 57] [.str s, .ptr 0 0, .ptr 5 0, .list (.int .u16) cs, .int .i64 (kR s (List.getD cs (Int.toNat (IntKind.wrap .i64 (1 + j))) (Ty.dflt (Ty.int .u16))) at_).2.1, .psl 10 3, .int .i64 n3, .int .i64 (IntKind.wrap .i64 (j + 1))] [RO 1 zi z1 z2 z3 z4 z5 zo zc, .row QQ zq, .row RR za, .row RR zn, .row RR zr, RO 6 yi y1 y2 y3 y4 y5 yo yc, .row QQ yq, .row RR (kR s (List.getD cs (Int.toNat (IntKind.wrap .i64 (1 + j))) (Ty.dflt (Ty.int .u16))) at_).1, .row RR yn, .row RR yr, .boxT none [.ptr 5 9, .ptr 5 10, .ptr 5 11]]))) (.ret (.inr (.ret, stOf [0, 2, 3, 4, 7] [.str s, .ptr 0 0, .int .i64 2, .ptr 1 0, .int .i64 (kR s (List.getD cs (Int.toNat (IntKind.wrap .i64 (1 + j))) (Ty.dflt (Ty.int .u16))) at_).2.1] [NO, RO 2 yi y1 y2 y3 y4 y5 yo yc, .row QQ yq, .row RR (kR s (List.getD cs (Int.toNat (IntKind.wrap .i64 (1 + j))) (Ty.dflt (Ty.int .u16))) at_).1, .row RR yn, .row RR yr])))) .no) .no) .no) (.br (decide (j = (↑(0 + 1) : Int))) (.br (decide (0 ≤ IntKind.wrap .i64 (1 + j))) (.br (decide (IntKind.wrap .i64 (1 + j) < (↑cs.length : Int))) (.br (trC s at_ (List.getD cs (Int.toNat (IntKind.wrap .i64 (1 + j))) (Ty.dflt (Ty.int .u16))) 0 yn) (.br (kR s (List.getD cs (Int.toNat (IntKind.wrap .i64 (1 + j))) (Ty.dflt (Ty.int .u16))) at_).2.2 (.ret (.inl (stOf [0, 2, 4, 6, 7, 55, 56, 57] [.str s, .ptr 0 0, .ptr 5 0, .list (.int .u16) cs, .int .i64 (kR s (List.getD cs (Int.toNat (IntKind.wrap .i64 (1 + j))) (Ty.dflt (Ty.int .u16))) at_).2.1, .psl 10 3, .int .i64 n3, .int .i64 (IntKind.wrap .i64 (j + 1))] [RO 1 zi z1 z2 z3 z4 z5 zo zc, .row QQ zq, .row RR za, .row RR zn, .row RR zr, RO 6 yi y1 y2 y3 y4 y5 yo yc, .row QQ yq, .row RR ya, .row RR (kR s (List.getD cs (Int.toNat (IntKind.wrap .i64 (1 + j))) (Ty.dflt (Ty.int .u16))) at_).1, .row RR yr, .boxT none [.ptr 5 9, .ptr 5 10, .ptr 5 11]]))) (.ret (.inr (.ret, stOf [0, 2, 3, 4, 7] [.str s, .ptr 0 0, .int .i64 2, .ptr 1 0, .int .i64 (kR s (List.getD cs (Int.toNat (IntKind.wrap .i64 (1 + j))) (Ty.dflt (Ty.int .u16))) at_).2.1] [NO, RO 2 yi y1 y2 y3 y4 y5 yo yc, .row QQ yq, .row RR ya, .row RR (kR s (List.getD cs (Int.toNat (IntKind.wrap .i64 (1 + j))) (Ty.dflt (Ty.int .u16))) at_).1, .row RR yr])))) .no) .no) .no) (.br (decide (j = (↑(0 + 1 + 1) : Int))) (.br (decide (0 ≤ IntKind.wrap .i64 (1 + j))) (.br (decide (IntKind.wrap .i64 (1 + j) < (↑cs.length : Int))) (.br (trC s at_ (List.getD cs (Int.toNat (IntKind.wrap .i64 (1 + j))) (Ty.dflt (Ty.int .u16))) 0 yr) (.br (kR s (List.getD cs (Int.toNat (IntKind.wrap .i64 (1 + j))) (Ty.dflt (Ty.int .u16))) at_).2.2 (.ret (.inl (stOf [0, 2, 4, 6, 7, 55, 56, 57] [.str s, .ptr 0 0, .ptr 5 0, .list (.int .u16) cs, .int .i64 (kR s (List.getD cs (Int.toNat (IntKind.wrap .i64 (1 + j))) (Ty.dflt (Ty.int .u16))) at_).2.1, .psl 10 3, .int .i64 n3, .int .i64 (IntKind.wrap .i64 (j + 1))] [RO 1 zi z1 z2 z3 z4 z5 zo zc, .row QQ zq, .row RR za, .row RR zn, .row RR zr, RO 6 yi y1 y2 y3 y4 y5 yo yc, .row QQ yq, .row RR ya, .row RR yn, .row RR (kR s (List.getD cs (Int.toNat (IntKind.wrap .i64 (1 + j))) (Ty.dflt (Ty.int .u16))) at_).1, .boxT none [.ptr 5 9, .ptr 5 10, .ptr 5 11]]))) (.ret (.inr (.ret, stOf [0, 2, 3, 4, 7] [.str s, .ptr 0 0, .int .i64 2, .ptr 1 0, .int .i64 (kR s (List.getD cs (Int.toNat (IntKind.wrap .i64 (1 + j))) (Ty.dflt (Ty.int .u16))) at_).2.1] [NO, RO 2 yi y1 y2 y3 y4 y5 yo yc, .row QQ yq, .row RR ya, .row RR yn, .row RR (kR s (List.getD cs (Int.toNat (IntKind.wrap .i64 (1 + j))) (Ty.dflt (Ty.int .u16))) at_).1])))) .no) .no) .no) .no))) (.ret (.inr (.exit 2, stOf [0, 2, 3, 4, 7] [.str s, .ptr 0 0, .dead, .ptr 5 0, .int .i64 at_] [RO 1 zi z1 z2 z3 z4 z5 zo zc, .row QQ zq, .row RR za, .row RR zn, .row RR zr, RO 6 yi y1 y2 y3 y4 y5 yo yc, .row QQ yq, .row RR ya, .row RR yn, .row RR yr])))
theorem round43o (s : List UInt8) (cs : List Int) (at_ n3 j zi : Int) (z1 z2 z3 z4 z5 : Bool) (zo zc : Int) (zq : List QQt) (za zn zr : List RRt) (yi : Int) (y1 y2 y3 y4 y5 : Bool) (yo yc : Int) (yq : List QQt) (ya yn yr : List RRt) : evC TK (orcB [fs85w, fs16w, fs28w] [os45kw]) (lpOf h43 0 (lsOr 4 [ls43a, ls43b, ls43c])) b43o 2 (stOf [0, 2, 4, 6, 7, 55, 56, 57] [.str s, .ptr 0 0, .ptr 5 0, .list (.int .u16) cs, .int .i64 at_, .psl 10 3, .int .i64 n3, .int .i64 j] [RO 1 zi z1 z2 z3 z4 z5 zo zc, .row QQ zq, .row RR za, .row RR zn, .row RR zr, RO 6 yi y1 y2 y3 y4 y5 yo yc, .row QQ yq, .row RR ya, .row RR yn, .row RR yr, .box [.ptr 5 9, .ptr 5 10, .ptr 5 11]]) (roundK [0, 2, 4, 6, 7, 55, 56, 57] [0, 2, 3, 4, 7] 0) = (r43o s cs at_ n3 j zi z1 z2 z3 z4 z5 zo zc zq za zn zr yi y1 y2 y3 y4 y5 yo yc yq ya yn yr).get := by kernel_rfl
theorem wf43o (s : List UInt8) (cs : List Int) (n3 zi : Int) (z1 z2 z3 z4 z5 : Bool) (zo zc : Int) (zq : List QQt) (za zn zr : List RRt) (yi : Int) (y1 y2 y3 y4 y5 : Bool) (yo yc : Int) (yq : List QQt) (I'' : Int → Int → List RRt → List RRt → List RRt → Prop) (m'' : Int → Int → List RRt → List RRt → List RRt → Nat) (r'' : Ex × St) (h : ∀ (at_ j : Int) (ya yn yr : List RRt), I'' at_ j ya yn yr → (r43o s cs at_ n3 j zi z1 z2 z3 z4 z5 zo zc zq za zn zr yi y1 y2 y3 y4 y5 yo yc yq ya yn yr).all fun x'' => x'' = .inr r'' ∨ ∃ (at_' j' : Int) (ya' yn' yr' : List RRt), x'' = .inl (stOf [0, 2, 4, 6, 7, 55, 56, 57] [.str s, .ptr 0 0, .ptr 5 0, .list (.int .u16) cs, .int .i64 at_', .psl 10 3, .int .i64 n3, .int .i64 j'] [RO 1 zi z1 z2 z3 z4 z5 zo zc, .row QQ zq, .row RR za, .row RR zn, .row RR zr, RO 6 yi y1 y2 y3 y4 y5 yo yc, .row QQ yq, .row RR ya', .row RR yn', .row RR yr', .box [.ptr 5 9, .ptr 5 10, .ptr 5 11]]) ∧ I'' at_' j' ya' yn' yr' ∧ m'' at_' j' ya' yn' yr' < m'' at_ j ya yn yr) (q'' : Nat) (hq'' : 1 ≤ q'') (at_ j : Int) (ya yn yr : List RRt) : I'' at_ j ya yn yr →
    loopF (fun st => evC TK (orcB [fs85w, fs16w, fs28w] [os45kw]) (lpN TK (orcB [fs85w, fs16w, fs28w] [os45kw]) h43 0 q'') b43o 2 st (roundK [0, 2, 4, 6, 7, 55, 56, 57] [0, 2, 3, 4, 7] 0)) (stOf [0, 2, 4, 6, 7, 55, 56, 57] [.str s, .ptr 0 0, .ptr 5 0, .list (.int .u16) cs, .int .i64 at_, .psl 10 3, .int .i64 n3, .int .i64 j] [RO 1 zi z1 z2 z3 z4 z5 zo zc, .row QQ zq, .row RR za, .row RR zn, .row RR zr, RO 6 yi y1 y2 y3 y4 y5 yo yc, .row QQ yq, .row RR ya, .row RR yn, .row RR yr, .box [.ptr 5 9, .ptr 5 10, .ptr 5 11]]) = some r'' :=
 loop_tr (fun a'' : Int × Int × List RRt × List RRt × List RRt => stOf [0, 2, 4, 6, 7, 55, 56, 57] [.str s, .ptr 0 0, .ptr 5 0, .list (.int .u16) cs, .int .i64 a''.1, .psl 10 3, .int .i64 n3, .int .i64 a''.2.1] [RO 1 zi z1 z2 z3 z4 z5 zo zc, .row QQ zq, .row RR za, .row RR zn, .row RR zr, RO 6 yi y1 y2 y3 y4 y5 yo yc, .row QQ yq, .row RR a''.2.2.1, .row RR a''.2.2.2.1, .row RR a''.2.2.2.2, .box [.ptr 5 9, .ptr 5 10, .ptr 5 11]]) (fun a'' => I'' a''.1 a''.2.1 a''.2.2.1 a''.2.2.2.1 a''.2.2.2.2) (fun a'' => m'' a''.1 a''.2.1 a''.2.2.1 a''.2.2.2.1 a''.2.2.2.2) r'' (fun a'' => r43o s cs a''.1 n3 a''.2.1 zi z1 z2 z3 z4 z5 zo zc zq za zn zr yi y1 y2 y3 y4 y5 yo yc yq a''.2.2.1 a''.2.2.2.1 a''.2.2.2.2)
  (fun a'' x hx => round_of (d := 0) (S := (lsOr 4 [ls43a, ls43b, ls43c])) (loops_at (xs := [(4, b43a)]) (by kernel_rfl) (all_cons (ls_or (all_cons ⟨rfl, loop43a⟩ (all_cons ⟨rfl, loop43b⟩ (all_cons ⟨rfl, loop43c⟩ all_nil)))) all_nil)) (by omega) ((round43o s cs a''.1 n3 a''.2.1 zi z1 z2 z3 z4 z5 zo zc zq za zn zr yi y1 y2 y3 y4 y5 yo yc yq a''.2.2.1 a''.2.2.2.1 a''.2.2.2.2).trans hx)) (fun a'' ha => Tr.all_mono (fun x'' hx => hx.imp id fun ⟨at_', j', ya', yn', yr', h1, h2, h3⟩ => ⟨(at_', j', ya', yn', yr'), h1, h2, h3⟩) (h (a''.1) (a''.2.1) (a''.2.2.1) (a''.2.2.2.1) (a''.2.2.2.2) ha)) (at_, j, ya, yn, yr)
def toI (s : List UInt8) (c1 c2 c3 a0 : Int) (a j : Int) (ya yn yr : List RRt) : Prop := 0 ≤ a ∧ ((j = 0 ∧ a = a0 ∧ ya = [] ∧ yn = [] ∧ yr = []) ∨ (j = 1 ∧ kR s c1 a0 = (ya, a, true) ∧ yn = [] ∧ yr = []) ∨
 (j = 2 ∧ ∃ e1, kR s c1 a0 = (ya, e1, true) ∧ kR s c2 e1 = (yn, a, true) ∧ yr = []) ∨ (j = 3 ∧ ∃ e1 e2, kR s c1 a0 = (ya, e1, true) ∧ kR s c2 e1 = (yn, e2, true) ∧ kR s c3 e2 = (yr, a, true)))
theorem trC_of {s : List UInt8} {a n : Int} (hs : smS s = true) (ha : 0 ≤ a) (hn : n16C n = true) : trC s a n 0 [] = true := by
 unfold trC
 rw [hs, dec_true ha, hn]
 rfl
theorem loop43o : ls43o.Ok TK (orcB [fs85w, fs16w, fs28w] [os45kw]) h43 0 1 b43o := by
 intro q'' hq'' x'' y'' r'' h
 obtain ⟨(s : List UInt8), (cs : List Int), (at_ : Int), (n3 : Int), (j : Int), _⟩ := x''
 obtain ⟨⟨(zi : Int), (z1 : Bool), (z2 : Bool), (z3 : Bool), (z4 : Bool), (z5 : Bool), (zo : Int), (zc : Int), _⟩, (zq : List QQt), (za : List RRt), (zn : List RRt), (zr : List RRt), ⟨(yi : Int), (y1 : Bool), (y2 : Bool), (y3 : Bool), (y4 : Bool), (y5 : Bool), (yo : Int), (yc : Int), _⟩, (yq : List QQt), (ya : List RRt), (yn : List RRt), (yr : List RRt), _, _⟩ := y''
 obtain ⟨hc, rfl⟩ := Tr.get_on2 h
 show loopF (fun st => evC TK (orcB [fs85w, fs16w, fs28w] [os45kw]) (lpN TK (orcB [fs85w, fs16w, fs28w] [os45kw]) h43 0 q'') b43o 2 st (roundK [0, 2, 4, 6, 7, 55, 56, 57] [0, 2, 3, 4, 7] 0)) (stOf [0, 2, 4, 6, 7, 55, 56, 57] [.str s, .ptr 0 0, .ptr 5 0, .list (.int .u16) cs, .int .i64 at_, .psl 10 3, .int .i64 n3, .int .i64 j] [RO 1 zi z1 z2 z3 z4 z5 zo zc, .row QQ zq, .row RR za, .row RR zn, .row RR zr, RO 6 yi y1 y2 y3 y4 y5 yo yc, .row QQ yq, .row RR ya, .row RR yn, .row RR yr, .box [.ptr 5 9, .ptr 5 10, .ptr 5 11]]) = some ((bif (k3 s (cs.getD 1 0) (cs.getD 2 0) (cs.getD 3 0) at_).2.2 then (.exit 2, [.str s, .ptr 0 0, .dead, .ptr 5 0, .int .i64 (k3 s (cs.getD 1 0) (cs.getD 2 0) (cs.getD 3 0) at_).2.1], [RO 1 zi z1 z2 z3 z4 z5 zo zc, .row QQ zq, .row RR za, .row RR zn, .row RR zr, RO 6 yi y1 y2 y3 y4 y5 yo yc, .row QQ yq, .row RR (k3 s (cs.getD 1 0) (cs.getD 2 0) (cs.getD 3 0) at_).1.1, .row RR (k3 s (cs.getD 1 0) (cs.getD 2 0) (cs.getD 3 0) at_).1.2.1, .row RR (k3 s (cs.getD 1 0) (cs.getD 2 0) (cs.getD 3 0) at_).1.2.2]) else (.ret, [.str s, .ptr 0 0, .int .i64 2, .ptr 1 0, .int .i64 (k3 s (cs.getD 1 0) (cs.getD 2 0) (cs.getD 3 0) at_).2.1], [NO, RO 2 yi y1 y2 y3 y4 y5 yo yc, .row QQ yq, .row RR (k3 s (cs.getD 1 0) (cs.getD 2 0) (cs.getD 3 0) at_).1.1, .row RR (k3 s (cs.getD 1 0) (cs.getD 2 0) (cs.getD 3 0) at_).1.2.1, .row RR (k3 s (cs.getD 1 0) (cs.getD 2 0) (cs.getD 3 0) at_).1.2.2]) : Ex × List AV × List LObj).1, stOf [0, 2, 3, 4, 7] (bif (k3 s (cs.getD 1 0) (cs.getD 2 0) (cs.getD 3 0) at_).2.2 then (.exit 2, [.str s, .ptr 0 0, .dead, .ptr 5 0, .int .i64 (k3 s (cs.getD 1 0) (cs.getD 2 0) (cs.getD 3 0) at_).2.1], [RO 1 zi z1 z2 z3 z4 z5 zo zc, .row QQ zq, .row RR za, .row RR zn, .row RR zr, RO 6 yi y1 y2 y3 y4 y5 yo yc, .row QQ yq, .row RR (k3 s (cs.getD 1 0) (cs.getD 2 0) (cs.getD 3 0) at_).1.1, .row RR (k3 s (cs.getD 1 0) (cs.getD 2 0) (cs.getD 3 0) at_).1.2.1, .row RR (k3 s (cs.getD 1 0) (cs.getD 2 0) (cs.getD 3 0) at_).1.2.2]) else (.ret, [.str s, .ptr 0 0, .int .i64 2, .ptr 1 0, .int .i64 (k3 s (cs.getD 1 0) (cs.getD 2 0) (cs.getD 3 0) at_).2.1], [NO, RO 2 yi y1 y2 y3 y4 y5 yo yc, .row QQ yq, .row RR (k3 s (cs.getD 1 0) (cs.getD 2 0) (cs.getD 3 0) at_).1.1, .row RR (k3 s (cs.getD 1 0) (cs.getD 2 0) (cs.getD 3 0) at_).1.2.1, .row RR (k3 s (cs.getD 1 0) (cs.getD 2 0) (cs.getD 3 0) at_).1.2.2]) : Ex × List AV × List LObj).2.1 (bif (k3 s (cs.getD 1 0) (cs.getD 2 0) (cs.getD 3 0) at_).2.2 then (.exit 2, [.str s, .ptr 0 0, .dead, .ptr 5 0, .int .i64 (k3 s (cs.getD 1 0) (cs.getD 2 0) (cs.getD 3 0) at_).2.1], [RO 1 zi z1 z2 z3 z4 z5 zo zc, .row QQ zq, .row RR za, .row RR zn, .row RR zr, RO 6 yi y1 y2 y3 y4 y5 yo yc, .row QQ yq, .row RR (k3 s (cs.getD 1 0) (cs.getD 2 0) (cs.getD 3 0) at_).1.1, .row RR (k3 s (cs.getD 1 0) (cs.getD 2 0) (cs.getD 3 0) at_).1.2.1, .row RR (k3 s (cs.getD 1 0) (cs.getD 2 0) (cs.getD 3 0) at_).1.2.2]) else (.ret, [.str s, .ptr 0 0, .int .i64 2, .ptr 1 0, .int .i64 (k3 s (cs.getD 1 0) (cs.getD 2 0) (cs.getD 3 0) at_).2.1], [NO, RO 2 yi y1 y2 y3 y4 y5 yo yc, .row QQ yq, .row RR (k3 s (cs.getD 1 0) (cs.getD 2 0) (cs.getD 3 0) at_).1.1, .row RR (k3 s (cs.getD 1 0) (cs.getD 2 0) (cs.getD 3 0) at_).1.2.1, .row RR (k3 s (cs.getD 1 0) (cs.getD 2 0) (cs.getD 3 0) at_).1.2.2]) : Ex × List AV × List LObj).2.2)
 simp only [toC, Bool.and_eq_true, decide_eq_true_eq] at hc
 obtain ⟨hs, h0a, ⟨hlen, hall⟩, rfl, rfl, rfl, rfl, rfl⟩ := hc
 match cs, hlen, hall with
 | [c0, c1, c2, c3], _, hall =>
 simp only [List.all_cons, List.all_nil, Bool.and_eq_true] at hall
 obtain ⟨_, n1, n2, n3', _⟩ := hall
 have d1 : [c0, c1, c2, c3].getD 1 0 = c1 := rfl
 have d2 : [c0, c1, c2, c3].getD 2 0 = c2 := rfl
 have d3 : [c0, c1, c2, c3].getD 3 0 = c3 := rfl
 rw [d1, d2, d3]
 refine wf43o s [c0, c1, c2, c3] 3 zi z1 z2 z3 z4 z5 zo zc zq za zn zr yi y1 y2 y3 y4 y5 yo yc yq (toI s c1 c2 c3 at_) (fun _ j _ _ _ => (3 - j).toNat) _ ?_ _ hq'' at_ 0 [] [] [] ⟨h0a, .inl ⟨rfl, rfl, rfl, rfl, rfl⟩⟩
 rintro a j ya yn yr ⟨ha, hI⟩
 unfold r43o
 have hj : 0 ≤ j ∧ j ≤ 3 := by rcases hI with ⟨h, _⟩ | ⟨h, _⟩ | ⟨h, _⟩ | ⟨h, _⟩ <;> omega
 rw [IntWalk.i64_in (1 + j) (by omega), IntWalk.i64_in (j + 1) (by omega)]
 rcases hI with ⟨rfl, rfl, rfl, rfl, rfl⟩ | ⟨rfl, hx, rfl, rfl⟩ | ⟨rfl, e1, hx, hy, rfl⟩ | ⟨rfl, e1, e2, hx, hy, hz⟩
 · have g1 : List.getD [c0, c1, c2, c3] (Int.toNat (1 + 0)) (Ty.dflt (Ty.int .u16)) = c1 := rfl
   rw [g1]
   have hp := kR_pos (s := s) (n := c1) ha
   refine Tr.all_t rfl (Tr.all_t rfl (Tr.all_t rfl (Tr.all_t rfl (Tr.all_t (trC_of hs ha n1) ?_))))
   generalize hx : kR s c1 a = x at *
   obtain ⟨l, e, ok⟩ := x
   cases ok with
   | true => exact Tr.all_t rfl (Tr.all_ret (.inr ⟨_, _, _, _, _, rfl, ⟨hp, .inr (.inl ⟨rfl, hx, rfl, rfl⟩)⟩, by decide⟩))
   | false =>
     rw [k3_1 hx]
     exact Tr.all_f rfl (Tr.all_ret (.inl rfl))
 · have g1 : List.getD [c0, c1, c2, c3] (Int.toNat (1 + 1)) (Ty.dflt (Ty.int .u16)) = c2 := rfl
   rw [g1]
   have hp := kR_pos (s := s) (n := c2) ha
   refine Tr.all_t rfl (Tr.all_f rfl (Tr.all_t rfl (Tr.all_t rfl (Tr.all_t rfl (Tr.all_t (trC_of hs ha n2) ?_)))))
   generalize hy : kR s c2 a = x at *
   obtain ⟨l, e, ok⟩ := x
   cases ok with
   | true => exact Tr.all_t rfl (Tr.all_ret (.inr ⟨_, _, _, _, _, rfl, ⟨hp, .inr (.inr (.inl ⟨rfl, _, hx, hy, rfl⟩))⟩, by decide⟩))
   | false =>
     rw [k3_2 hx hy]
     exact Tr.all_f rfl (Tr.all_ret (.inl rfl))
 · have g1 : List.getD [c0, c1, c2, c3] (Int.toNat (1 + 2)) (Ty.dflt (Ty.int .u16)) = c3 := rfl
   rw [g1]
   have hp := kR_pos (s := s) (n := c3) ha
   refine Tr.all_t rfl (Tr.all_f rfl (Tr.all_f rfl (Tr.all_t rfl (Tr.all_t rfl (Tr.all_t rfl (Tr.all_t (trC_of hs ha n3') ?_))))))
   generalize hz : kR s c3 a = x at *
   obtain ⟨l, e, ok⟩ := x
   cases ok with
   | true => exact Tr.all_t rfl (Tr.all_ret (.inr ⟨_, _, _, _, _, rfl, ⟨hp, .inr (.inr (.inr ⟨rfl, _, _, hx, hy, hz⟩))⟩, by decide⟩))
   | false =>
     rw [k3_3 hx hy hz]
     exact Tr.all_f rfl (Tr.all_ret (.inl rfl))
 · refine Tr.all_f rfl (Tr.all_ret (.inl ?_))
   rw [k3_3 hx hy hz]
   rfl
def t43 (s : List UInt8) : Tr Res := .br (decide (List.length s ≤ 100000000)) (.br ((hdV s).2 != 0) (.ret ([.agg [.int .u16 0, .bool false, .bool false, .bool false, .bool false, .bool false, .int .i64 0, .int .i64 0, .ns, .ns, .ns, .ns], .int .i64 (hdV s).2], [])) (.br (sxC s [] 6 0) (.br (tqC s 12 (List.getD (List.take (Int.toNat (↑(List.length (sixV s (Int.toNat 6) 0)) : Int) - Int.toNat 2) (List.drop (Int.toNat 2) (sixV s (Int.toNat 6) 0))) (Int.toNat 0) (Ty.dflt (Ty.int .u16))) 0 []) (.br (kQ s (List.getD (List.take (Int.toNat (↑(List.length (sixV s (Int.toNat 6) 0)) : Int) - Int.toNat 2) (List.drop (Int.toNat 2) (sixV s (Int.toNat 6) 0))) (Int.toNat 0) (Ty.dflt (Ty.int .u16))) 12).2.2 (.br (toC s (List.take (Int.toNat (↑(List.length (sixV s (Int.toNat 6) 0)) : Int) - Int.toNat 2) (List.drop (Int.toNat 2) (sixV s (Int.toNat 6) 0))) (kQ s (List.getD (List.take (Int.toNat (↑(List.length (sixV s (Int.toNat 6) 0)) : Int) - Int.toNat 2) (List.drop (Int.toNat 2) (sixV s (Int.toNat 6) 0))) (Int.toNat 0) (Ty.dflt (Ty.int .u16))) 12).2.1 (↑3 : Int) 0 [] [] []) (.br (k3 s (List.getD (List.take (Int.toNat (↑(List.length (sixV s (Int.toNat 6) 0)) : Int) - Int.toNat 2) (List.drop (Int.toNat 2) (sixV s (Int.toNat 6) 0))) 1 (0 : Ty.den (Ty.int .u16))) (List.getD (List.take (Int.toNat (↑(List.length (sixV s (Int.toNat 6) 0)) : Int) - Int.toNat 2) (List.drop (Int.toNat 2) (sixV s (Int.toNat 6) 0))) 2 (0 : Ty.den (Ty.int .u16))) (List.getD (List.take (Int.toNat (↑(List.length (sixV s (Int.toNat 6) 0)) : Int) - Int.toNat 2) (List.drop (Int.toNat 2) (sixV s (Int.toNat 6) 0))) 3 (0 : Ty.den (Ty.int .u16))) (kQ s (List.getD (List.take (Int.toNat (↑(List.length (sixV s (Int.toNat 6) 0)) : Int) - Int.toNat 2) (List.drop (Int.toNat 2) (sixV s (Int.toNat 6) 0))) (Int.toNat 0) (Ty.dflt (Ty.int .u16))) 12).2.1).2.2 (.br ((k3 s (List.getD (List.take (Int.toNat (↑(List.length (sixV s (Int.toNat 6) 0)) : Int) - Int.toNat 2) (List.drop (Int.toNat 2) (sixV s (Int.toNat 6) 0))) 1 (0 : Ty.den (Ty.int .u16))) (List.getD (List.take (Int.toNat (↑(List.length (sixV s (Int.toNat 6) 0)) : Int) - Int.toNat 2) (List.drop (Int.toNat 2) (sixV s (Int.toNat 6) 0))) 2 (0 : Ty.den (Ty.int .u16))) (List.getD (List.take (Int.toNat (↑(List.length (sixV s (Int.toNat 6) 0)) : Int) - Int.toNat 2) (List.drop (Int.toNat 2) (sixV s (Int.toNat 6) 0))) 3 (0 : Ty.den (Ty.int .u16))) (kQ s (List.getD (List.take (Int.toNat (↑(List.length (sixV s (Int.toNat 6) 0)) : Int) - Int.toNat 2) (List.drop (Int.toNat 2) (sixV s (Int.toNat 6) 0))) (Int.toNat 0) (Ty.dflt (Ty.int .u16))) 12).2.1).2.1 != (↑s.length : Int)) (.ret ([.agg [.int .u16 0, .bool false, .bool false, .bool false, .bool false, .bool false, .int .i64 0, .int .i64 0, .ns, .ns, .ns, .ns], .int .i64 2], [])) (.ret ([.agg [.int .u16 (hdV s).1.1, .bool (hdV s).1.2.1, .bool (hdV s).1.2.2.1, .bool (hdV s).1.2.2.2.1, .bool (hdV s).1.2.2.2.2.1, .bool (hdV s).1.2.2.2.2.2.1, .int .i64 (hdV s).1.2.2.2.2.2.2.1, .int .i64 (hdV s).1.2.2.2.2.2.2.2.1, .list QQ (kQ s (List.getD (List.take (Int.toNat (↑(List.length (sixV s (Int.toNat 6) 0)) : Int) - Int.toNat 2) (List.drop (Int.toNat 2) (sixV s (Int.toNat 6) 0))) (Int.toNat 0) (Ty.dflt (Ty.int .u16))) 12).1, .list RR (k3 s (List.getD (List.take (Int.toNat (↑(List.length (sixV s (Int.toNat 6) 0)) : Int) - Int.toNat 2) (List.drop (Int.toNat 2) (sixV s (Int.toNat 6) 0))) 1 (0 : Ty.den (Ty.int .u16))) (List.getD (List.take (Int.toNat (↑(List.length (sixV s (Int.toNat 6) 0)) : Int) - Int.toNat 2) (List.drop (Int.toNat 2) (sixV s (Int.toNat 6) 0))) 2 (0 : Ty.den (Ty.int .u16))) (List.getD (List.take (Int.toNat (↑(List.length (sixV s (Int.toNat 6) 0)) : Int) - Int.toNat 2) (List.drop (Int.toNat 2) (sixV s (Int.toNat 6) 0))) 3 (0 : Ty.den (Ty.int .u16))) (kQ s (List.getD (List.take (Int.toNat (↑(List.length (sixV s (Int.toNat 6) 0)) : Int) - Int.toNat 2) (List.drop (Int.toNat 2) (sixV s (Int.toNat 6) 0))) (Int.toNat 0) (Ty.dflt (Ty.int .u16))) 12).2.1).1.1, .list RR (k3 s (List.getD (List.take (Int.toNat (↑(List.length (sixV s (Int.toNat 6) 0)) : Int) - Int.toNat 2) (List.drop (Int.toNat 2) (sixV s (Int.toNat 6) 0))) 1 (0 : Ty.den (Ty.int .u16))) (List.getD (List.take (Int.toNat (↑(List.length (sixV s (Int.toNat 6) 0)) : Int) - Int.toNat 2) (List.drop (Int.toNat 2) (sixV s (Int.toNat 6) 0))) 2 (0 : Ty.den (Ty.int .u16))) (List.getD (List.take (Int.toNat (↑(List.length (sixV s (Int.toNat 6) 0)) : Int) - Int.toNat 2) (List.drop (Int.toNat 2) (sixV s (Int.toNat 6) 0))) 3 (0 : Ty.den (Ty.int .u16))) (kQ s (List.getD (List.take (Int.toNat (↑(List.length (sixV s (Int.toNat 6) 0)) : Int) - Int.toNat 2) (List.drop (Int.toNat 2) (sixV s (Int.toNat 6) 0))) (Int.toNat 0) (Ty.dflt (Ty.int .u16))) 12).2.1).1.2.1, .list RR (k3 s (List.getD (List.take (Int.toNat (↑(List.length (sixV s (Int.toNat 6) 0)) : Int) - Int.toNat 2) (List.drop (Int.toNat 2) (sixV s (Int.toNat 6) 0))) 1 (0 : Ty.den (Ty.int .u16))) (List.getD (List.take (Int.toNat (↑(List.length (sixV s (Int.toNat 6) 0)) : Int) - Int.toNat 2) (List.drop (Int.toNat 2) (sixV s (Int.toNat 6) 0))) 2 (0 : Ty.den (Ty.int .u16))) (List.getD (List.take (Int.toNat (↑(List.length (sixV s (Int.toNat 6) 0)) : Int) - Int.toNat 2) (List.drop (Int.toNat 2) (sixV s (Int.toNat 6) 0))) 3 (0 : Ty.den (Ty.int .u16))) (kQ s (List.getD (List.take (Int.toNat (↑(List.length (sixV s (Int.toNat 6) 0)) : Int) - Int.toNat 2) (List.drop (Int.toNat 2) (sixV s (Int.toNat 6) 0))) (Int.toNat 0) (Ty.dflt (Ty.int .u16))) 12).2.1).1.2.2], .int .i64 0], []))) (.ret ([.agg [.int .u16 0, .bool false, .bool false, .bool false, .bool false, .bool false, .int .i64 0, .int .i64 0, .ns, .ns, .ns, .ns], .int .i64 2], []))) .no) (.ret ([.agg [.int .u16 0, .bool false, .bool false, .bool false, .bool false, .bool false, .int .i64 0, .int .i64 0, .ns, .ns, .ns, .ns], .int .i64 2], []))) .no) .no)) .no
def os43 : OSpec := { f := 43, sh := [.d .str false], so := [], F := fun (s, _) _ => t43 s }
theorem fn43 (s : List UInt8) : evC TK (orcB [fs85w, fs16w, fs28w] [os45kw]) (lpOf h43 0 (lsOf [ls43, ls43o])) c43 1000000 (startSt [.str s] [] Try.f43.ntmps) (finishK TK false 0 Try.f43) = (t43 s).get := by kernel_rfl
theorem ok43 : os43.Ok Try.prog := by
 refine os_ok mixed0 tabK (orcB_sound (all_cons okf85w (all_cons okf16w (all_cons okf28w all_nil))) (all_cons ok45kw all_nil)) h43 (d := 1) (n0 := 0) (S := lsOf [ls43, ls43o]) Try.func43 (by kernel_rfl) (c := c43) (by kernel_rfl) rfl (loops_eq (xs := [(0, b43), (2, b43o)]) (by kernel_rfl) (all_cons (ls_here (spec_up (by omega) loop43)) (all_cons (ls_skip (by kernel_rfl) (ls_here loop43o)) all_nil))) (by omega) (by kernel_rfl) ?_
 intro x'' y'' q'' hq''
 obtain ⟨(s : List UInt8), _⟩ := x''
 exact (fn43 s).trans hq''
def fs43 : FSpec := fsT 43 [(.str, false)] [(MG, true), ((.int .i64), false)] fun (s, _) => t43 s
theorem okf43 : fs43.Ok Try.prog := fsT_ok fun x'' r'' hr'' => ok43 x'' () r'' hr''
def withL (m : MGt) (q : List QQt) (an ns ar : List RRt) : MGt := (m.1, m.2.1, m.2.2.1, m.2.2.2.1, m.2.2.2.2.1, m.2.2.2.2.2.1, m.2.2.2.2.2.2.1, m.2.2.2.2.2.2.2.1, q, an, ns, ar)
def tkqV (s : List UInt8) : List QQt × (Int × Bool) := kQ s (n16 s 4) 12
def tkrV (s : List UInt8) : (List RRt × (List RRt × List RRt)) × (Int × Bool) := k3 s (n16 s 6) (n16 s 8) (n16 s 10) (tkqV s).2.1
def isM (s : List UInt8) : Bool := !decide ((s.length : Int) < 12) && ((tkqV s).2.2 && ((tkrV s).2.2 && !((tkrV s).2.1 != (s.length : Int))))
def tkV6 (s : List UInt8) : MGt × Int := bif isM s then (withL (hdM s) (tkqV s).1 (tkrV s).1.1 (tkrV s).1.2.1 (tkrV s).1.2.2, 0) else (noM, 2)
theorem six_eq {s : List UInt8} (hl : ¬ ((s.length : Int) < 12)) : List.take (Int.toNat (↑(List.length (sixV s (Int.toNat (6 : Int)) 0)) : Int) - Int.toNat (2 : Int)) (List.drop (Int.toNat (2 : Int)) (sixV s (Int.toNat (6 : Int)) 0)) = [n16 s 4, n16 s 6, n16 s 8, n16 s 10] := by
 have v : ∀ k : Nat, k < 6 → vn2 s k = n16 s (2 * (k : Int)) := fun k hk => by
  unfold vn2 vn16
  rw [some_iff.2 ⟨by omega, by omega, by omega⟩]
  rfl
 show [vn2 s 2, vn2 s 3, vn2 s 4, vn2 s 5] = _
 rw [v 2 (by omega), v 3 (by omega), v 4 (by omega), v 5 (by omega)]
 rfl
def fs43w : FSpec := fs43.like fun (s, _) => .on (smS s) ((tkV6 s).1, (tkV6 s).2, ())
theorem okf43w : fs43w.Ok Try.prog := by
 refine flike_ok okf43 _ ?_
 rintro ⟨(s : List UInt8), _⟩ y h
 obtain ⟨hb, rfl⟩ := Tr.get_on h
 have hb : smS s = true := hb
 have hlen : s.length ≤ 100000000 := by simpa [smS] using hb
 by_cases hl : (s.length : Int) < 12
 · have e1 : hdV s = (noM, 2) := by unfold hdV; rw [decide_eq_true hl]; rfl
   have e2 : tkV6 s = (noM, 2) := by unfold tkV6 isM; rw [decide_eq_true hl]; rfl
   rw [e2]
   refine convR_of (vs := [.agg [.int .u16 0, .bool false, .bool false, .bool false, .bool false, .bool false, .int .i64 0, .int .i64 0, .ns, .ns, .ns, .ns], .int .i64 2]) rfl rfl (Tr.get_of_all ?_)
   show (t43 s).all _
   unfold t43
   rw [e1]
   exact Tr.all_t (dec_true hlen) (Tr.all_t rfl (Tr.all_ret rfl))
 · have e1 : hdV s = (hdM s, 0) := by unfold hdV; rw [decide_eq_false hl]; rfl
   have m4 := n16_le s 4
   have m6 := n16_le s 6
   have m8 := n16_le s 8
   have m10 := n16_le s 10
   have c6 : sxC s [] 6 0 = true := by unfold sxC; rw [dec_true hlen]; rfl
   have g0 : List.getD [n16 s 4, n16 s 6, n16 s 8, n16 s 10] (Int.toNat 0) (Ty.dflt (Ty.int .u16)) = n16 s 4 := rfl
   have g1 : List.getD [n16 s 4, n16 s 6, n16 s 8, n16 s 10] 1 (0 : Ty.den (Ty.int .u16)) = n16 s 6 := rfl
   have g2 : List.getD [n16 s 4, n16 s 6, n16 s 8, n16 s 10] 2 (0 : Ty.den (Ty.int .u16)) = n16 s 8 := rfl
   have g3 : List.getD [n16 s 4, n16 s 6, n16 s 8, n16 s 10] 3 (0 : Ty.den (Ty.int .u16)) = n16 s 10 := rfl
   have hq : tqC s 12 (n16 s 4) 0 [] = true := by unfold tqC; rw [hb, n16_of m4]; rfl
   have hall : [n16 s 4, n16 s 6, n16 s 8, n16 s 10].all n16C = true := by
    rw [List.all_cons, List.all_cons, List.all_cons, List.all_cons, n16_of m4, n16_of m6, n16_of m8, n16_of m10]
    rfl
   have ht : toC s [n16 s 4, n16 s 6, n16 s 8, n16 s 10] (tkqV s).2.1 3 0 [] [] [] = true := by
    unfold toC
    rw [hb, dec_true (show 0 ≤ (tkqV s).2.1 from kQ_pos (s := s) (n := n16 s 4) (a := 12) (by omega)), hall]
    rfl
   cases hm : isM s with
   | true =>
     have e2 : tkV6 s = (withL (hdM s) (tkqV s).1 (tkrV s).1.1 (tkrV s).1.2.1 (tkrV s).1.2.2, 0) := by unfold tkV6; rw [hm]; rfl
     rw [e2]
     refine convR_of (vs := [AV.ofTy MG (withL (hdM s) (tkqV s).1 (tkrV s).1.1 (tkrV s).1.2.1 (tkrV s).1.2.2) true, .int .i64 0]) rfl rfl (Tr.get_of_all ?_)
     show (t43 s).all _
     unfold t43
     unfold isM at hm
     simp only [Bool.and_eq_true] at hm
     obtain ⟨_, h1, h2, h3⟩ := hm
     rw [e1, six_eq hl, g0, g1, g2, g3]
     exact Tr.all_t (dec_true hlen) (Tr.all_f rfl (Tr.all_t c6 (Tr.all_t hq (Tr.all_t h1 (Tr.all_t ht (Tr.all_t h2 (Tr.all_f (nt5 h3) (Tr.all_ret rfl))))))))
   | false =>
     have e2 : tkV6 s = (noM, 2) := by unfold tkV6; rw [hm]; rfl
     rw [e2]
     unfold isM at hm
     rw [decide_eq_false hl] at hm
     have key : ∀ A B C : Bool, (!false && (A && (B && !C))) = false → A = false ∨ (A = true ∧ B = false) ∨ (A = true ∧ B = true ∧ C = true) := by decide
     have hz := key _ _ _ hm
     refine convR_of (vs := [.agg [.int .u16 0, .bool false, .bool false, .bool false, .bool false, .bool false, .int .i64 0, .int .i64 0, .ns, .ns, .ns, .ns], .int .i64 2]) rfl rfl (Tr.get_of_all ?_)
     show (t43 s).all _
     unfold t43
     rw [e1, six_eq hl, g0, g1, g2, g3]
     refine Tr.all_t (dec_true hlen) (Tr.all_f rfl (Tr.all_t c6 (Tr.all_t hq ?_)))
     rcases hz with h1 | ⟨h1, h2⟩ | ⟨h1, h2, h3⟩
     · exact Tr.all_f h1 (Tr.all_ret rfl)
     · exact Tr.all_t h1 (Tr.all_t ht (Tr.all_f h2 (Tr.all_ret rfl)))
     · exact Tr.all_t h1 (Tr.all_t ht (Tr.all_t h2 (Tr.all_t h3 (Tr.all_ret rfl))))
def rcV (s : List UInt8) (a n : Int) : List RRt × Int := bif (recF s n a).2.2 then ((recF s n a).1, (recF s n a).2.1) else ([], -1)
def fs86w : FSpec := fs86.like fun (s, a, n, _) => .on (smS s && n16C n) ((rcV s a n).1, (rcV s a n).2, ())
theorem okf86w : fs86w.Ok Try.prog := by
 refine flike_ok okf86 _ ?_
 rintro ⟨(s : List UInt8), (a : Int), (n : Int), _⟩ y h
 obtain ⟨hb, rfl⟩ := Tr.get_on h
 obtain ⟨h1, h2⟩ := Bool.and_eq_true_iff.1 (show (smS s && n16C n) = true from hb)
 refine convR_of (vs := [.list RR (rcV s a n).1, .int .i64 (rcV s a n).2]) rfl rfl (Tr.get_of_all ?_)
 show (t86 s a n).all _
 unfold t86 rcV
 exact Tr.all_t (by unfold rcFC; rw [h1, h2]; rfl) (Tr.all_br (fun c => Tr.all_ret (by rw [c]; rfl)) fun c => Tr.all_ret (by rw [c]; rfl))
def t46k (s : List UInt8) : Tr Res := .br (decide ((↑s.length : Int) < 12)) (.ret ([.agg [.int .u16 0, .bool false, .bool false, .bool false, .bool false, .bool false, .int .i64 0, .int .i64 0, .ns, .ns, .ns, .ns], .int .i64 2], [])) (.br (bigS s) (.br (someB s 0 2) (.br (decide (2 < (↑s.length : Int))) (.br (decide (3 < (↑s.length : Int))) (.ret ([.agg [.int .u16 (n16 s 0), .bool (IntKind.wrap .u8 (Int.tdiv (↑(UInt8.toNat (List.getD s (Int.toNat 2) 0)) : Int) 128) == 1), .bool (Int.tmod (IntKind.wrap .u8 (Int.tdiv (↑(UInt8.toNat (List.getD s (Int.toNat 2) 0)) : Int) 4)) 2 == 1), .bool (Int.tmod (IntKind.wrap .u8 (Int.tdiv (↑(UInt8.toNat (List.getD s (Int.toNat 2) 0)) : Int) 2)) 2 == 1), .bool (Int.tmod (↑(UInt8.toNat (List.getD s (Int.toNat 2) 0)) : Int) 2 == 1), .bool (IntKind.wrap .u8 (Int.tdiv (↑(UInt8.toNat (List.getD s (Int.toNat 3) 0)) : Int) 128) == 1), .int .i64 (IntKind.wrap .i64 (Int.tmod (IntKind.wrap .u8 (Int.tdiv (↑(UInt8.toNat (List.getD s (Int.toNat 2) 0)) : Int) 8)) 16)), .int .i64 (IntKind.wrap .i64 (Int.tmod (↑(UInt8.toNat (List.getD s (Int.toNat 3) 0)) : Int) 16)), .ns, .ns, .ns, .ns], .int .i64 0], [])) .no) .no) (.br (decide (2 < (↑s.length : Int))) (.br (decide (3 < (↑s.length : Int))) (.ret ([.agg [.int .u16 0, .bool (IntKind.wrap .u8 (Int.tdiv (↑(UInt8.toNat (List.getD s (Int.toNat 2) 0)) : Int) 128) == 1), .bool (Int.tmod (IntKind.wrap .u8 (Int.tdiv (↑(UInt8.toNat (List.getD s (Int.toNat 2) 0)) : Int) 4)) 2 == 1), .bool (Int.tmod (IntKind.wrap .u8 (Int.tdiv (↑(UInt8.toNat (List.getD s (Int.toNat 2) 0)) : Int) 2)) 2 == 1), .bool (Int.tmod (↑(UInt8.toNat (List.getD s (Int.toNat 2) 0)) : Int) 2 == 1), .bool (IntKind.wrap .u8 (Int.tdiv (↑(UInt8.toNat (List.getD s (Int.toNat 3) 0)) : Int) 128) == 1), .int .i64 (IntKind.wrap .i64 (Int.tmod (IntKind.wrap .u8 (Int.tdiv (↑(UInt8.toNat (List.getD s (Int.toNat 2) 0)) : Int) 8)) 16)), .int .i64 (IntKind.wrap .i64 (Int.tmod (↑(UInt8.toNat (List.getD s (Int.toNat 3) 0)) : Int) 16)), .ns, .ns, .ns, .ns], .int .i64 0], [])) .no) .no)) .no)
def os46k : OSpec := { f := 46, sh := [.d .str false], so := [], F := fun (s, _) _ => t46k s }
theorem fn46k (s : List UInt8) : evC TK (orcB [fs72w] []) (lpOf h46 0 (lsOf [])) c46 1000000 (startSt [.str s] [] Try.f46.ntmps) (finishK TK false 0 Try.f46) = (t46k s).get := by kernel_rfl
theorem ok46k : os46k.Ok Try.prog := by
 refine os_ok mixed0 tabK (orcB_sound (all_cons okf72w all_nil) all_nil) h46 (d := 0) (n0 := 0) (S := lsOf []) Try.func46 (by kernel_rfl) (c := c46) (by kernel_rfl) rfl (no_loops (by kernel_rfl)) (by omega) (by kernel_rfl) ?_
 intro x'' y'' q'' hq''
 obtain ⟨(s : List UInt8), _⟩ := x''
 exact (fn46k s).trans hq''
def os46kw : OSpec := os46k.like fun (s, _) _ => .on (decide (s.length ≤ 100000000)) ([hdA (hdV s).1, .int .i64 (hdV s).2], [])
theorem ok46kw : os46kw.Ok Try.prog := by
 refine like_ok ok46k _ ?_
 rintro ⟨(s : List UInt8), _⟩ _ y h
 obtain ⟨hb, rfl⟩ := Tr.get_on h
 have hb : s.length ≤ 100000000 := of_decide_eq_true hb
 refine Tr.get_of_all ?_
 show (t46k s).all _
 unfold t46k hdV
 refine Tr.all_br (fun c => Tr.all_ret (by rw [c]; rfl)) fun c => ?_
 have hl := of_decide_eq_false c
 have hn : n16 s 2 = ((s.getD (Int.toNat 2) 0).toNat : Int) * 256 + ((s.getD (Int.toNat 3) 0).toNat : Int) := rfl
 have ha := UInt8.toNat_lt (s.getD (Int.toNat 2) 0)
 have hb2 := UInt8.toNat_lt (s.getD (Int.toNat 3) 0)
 rw [c]
 generalize (s.getD (Int.toNat 2) 0).toNat = a at hn ha ⊢
 generalize (s.getD (Int.toNat 3) 0).toNat = b at hn hb2 ⊢
 have d1 : Int.tdiv (a : Int) 128 = (a : Int) / 128 := Int.tdiv_eq_ediv_of_nonneg (by omega)
 have d2 : Int.tdiv (a : Int) 4 = (a : Int) / 4 := Int.tdiv_eq_ediv_of_nonneg (by omega)
 have d3 : Int.tdiv (a : Int) 2 = (a : Int) / 2 := Int.tdiv_eq_ediv_of_nonneg (by omega)
 have d4 : Int.tdiv (b : Int) 128 = (b : Int) / 128 := Int.tdiv_eq_ediv_of_nonneg (by omega)
 have d5 : Int.tdiv (a : Int) 8 = (a : Int) / 8 := Int.tdiv_eq_ediv_of_nonneg (by omega)
 rw [d1, d2, d3, d4, d5]
 rw [IntWalk.u8_in ((a : Int) / 128) (by omega), IntWalk.u8_in ((a : Int) / 4) (by omega), IntWalk.u8_in ((a : Int) / 2) (by omega), IntWalk.u8_in ((b : Int) / 128) (by omega), IntWalk.u8_in ((a : Int) / 8) (by omega)]
 have t1 : Int.tmod ((a : Int) / 4) 2 = (a : Int) / 4 % 2 := Int.tmod_eq_emod_of_nonneg (by omega)
 have t2 : Int.tmod ((a : Int) / 2) 2 = (a : Int) / 2 % 2 := Int.tmod_eq_emod_of_nonneg (by omega)
 have t3 : Int.tmod (a : Int) 2 = (a : Int) % 2 := Int.tmod_eq_emod_of_nonneg (by omega)
 have t4 : Int.tmod ((a : Int) / 8) 16 = (a : Int) / 8 % 16 := Int.tmod_eq_emod_of_nonneg (by omega)
 have t5 : Int.tmod (b : Int) 16 = (b : Int) % 16 := Int.tmod_eq_emod_of_nonneg (by omega)
 rw [t1, t2, t3, t4, t5, IntWalk.i64_in ((a : Int) / 8 % 16) (by omega), IntWalk.i64_in ((b : Int) % 16) (by omega)]
 have f1 : ((a : Int) / 128 == 1) = bitT (n16 s 2) 32768 := by unfold bitT; rw [Bool.eq_iff_iff, beq_iff_eq, beq_iff_eq, hn]; omega
 have f2 : ((a : Int) / 4 % 2 == 1) = bitT (n16 s 2) 1024 := by unfold bitT; rw [Bool.eq_iff_iff, beq_iff_eq, beq_iff_eq, hn]; omega
 have f3 : ((a : Int) / 2 % 2 == 1) = bitT (n16 s 2) 512 := by unfold bitT; rw [Bool.eq_iff_iff, beq_iff_eq, beq_iff_eq, hn]; omega
 have f4 : ((a : Int) % 2 == 1) = bitT (n16 s 2) 256 := by unfold bitT; rw [Bool.eq_iff_iff, beq_iff_eq, beq_iff_eq, hn]; omega
 have f5 : ((b : Int) / 128 == 1) = bitT (n16 s 2) 128 := by unfold bitT; rw [Bool.eq_iff_iff, beq_iff_eq, beq_iff_eq, hn]; omega
 have f6 : (a : Int) / 8 % 16 = n16 s 2 / 2048 % 16 := by rw [hn]; omega
 have f7 : (b : Int) % 16 = n16 s 2 % 16 := by rw [hn]; omega
 rw [f1, f2, f3, f4, f5, f6, f7]
 exact Tr.all_t (len_big (by omega)) (Tr.all_t (some_iff.2 ⟨by omega, by omega, by omega⟩) (Tr.all_t (dec_true (by omega)) (Tr.all_t (dec_true (by omega)) (Tr.all_ret rfl))))
noncomputable def b44 : Code := nthLoop c44 0
def ls44 : LoopSpec := { bid := 0, sh := [.d .str false, .ptr 0 0, .ptr 5 0, .ptr 10 0, .d (.int .i64) false], so := [(ROs 1), .row QQ, .row RR, .row RR, .row RR, (ROs 6), .row QQ, .row RR, .row RR, .row RR, .box [.d (.int .i64) false, .d (.int .i64) false, .d (.int .i64) false, .d (.int .i64) false]], F := fun (s, i, _) ((zi, z1, z2, z3, z4, z5, zo, zc, _), zq, za, zn, zr, (yi, y1, y2, y3, y4, y5, yo, yc, _), yq, ya, yn, yr, (e0, e1, e2, e3, _), _) => .on (decide (s.length ≤ 100000000) && decide (i = 0)) (.exit 0, [.str s, .ptr 0 0, .ptr 5 0, .ptr 10 0], [RO 1 zi z1 z2 z3 z4 z5 zo zc, .row QQ zq, .row RR za, .row RR zn, .row RR zr, RO 6 yi y1 y2 y3 y4 y5 yo yc, .row QQ yq, .row RR ya, .row RR yn, .row RR yr, .box [.int .i64 (vn16 s 4), .int .i64 (vn16 s 6), .int .i64 (vn16 s 8), .int .i64 (vn16 s 10)]]) }
def r44 (s : List UInt8) (i zi : Int) (z1 z2 z3 z4 z5 : Bool) (zo zc : Int) (zq : List QQt) (za zn zr : List RRt) (yi : Int) (y1 y2 y3 y4 y5 : Bool) (yo yc : Int) (yq : List QQt) (ya yn yr : List RRt) (e0 e1 e2 e3 : Int) : Tr (St ⊕ (Ex × St)) := .br (decide (i < 4)) (.br (bigS s) (.br (someB s (IntKind.wrap .i64 (4 + IntKind.wrap .i64 (2 * i))) 2) (.br (decide (i = (↑0 : Int))) (.ret (.inl (stOf [0, 2, 4, 6, 7] [.str s, .ptr 0 0, .ptr 5 0, .ptr 10 0, .int .i64 (IntKind.wrap .i64 (i + 1))] [RO 1 zi z1 z2 z3 z4 z5 zo zc, .row QQ zq, .row RR za, .row RR zn, .row RR zr, RO 6 yi y1 y2 y3 y4 y5 yo yc, .row QQ yq, .row RR ya, .row RR yn, .row RR yr, .boxT none [.int .i64 (IntKind.wrap .i64 (n16 s (IntKind.wrap .i64 (4 + IntKind.wrap .i64 (2 * i))))), .int .i64 e1, .int .i64 e2, .int .i64 e3]]))) (.br (decide (i = (↑(0 + 1) : Int))) (.ret (.inl (stOf [0, 2, 4, 6, 7] [.str s, .ptr 0 0, .ptr 5 0, .ptr 10 0, .int .i64 (IntKind.wrap .i64 (i + 1))] [RO 1 zi z1 z2 z3 z4 z5 zo zc, .row QQ zq, .row RR za, .row RR zn, .row RR zr, RO 6 yi y1 y2 y3 y4 y5 yo yc, .row QQ yq, .row RR ya, .row RR yn, .row RR yr, .boxT none [.int .i64 e0, .int .i64 (IntKind.wrap .i64 (n16 s (IntKind.wrap .i64 (4 + IntKind.wrap .i64 (2 * i))))), .int .i64 e2, .int .i64 e3]]))) (.br (decide (i = (↑(0 + 1 + 1) : Int))) (.ret (.inl (stOf [0, 2, 4, 6, 7] [.str s, .ptr 0 0, .ptr 5 0, .ptr 10 0, .int .i64 (IntKind.wrap .i64 (i + 1))] [RO 1 zi z1 z2 z3 z4 z5 zo zc, .row QQ zq, .row RR za, .row RR zn, .row RR zr, RO 6 yi y1 y2 y3 y4 y5 yo yc, .row QQ yq, .row RR ya, .row RR yn, .row RR yr, .boxT none [.int .i64 e0, .int .i64 e1, .int .i64 (IntKind.wrap .i64 (n16 s (IntKind.wrap .i64 (4 + IntKind.wrap .i64 (2 * i))))), .int .i64 e3]]))) (.br (decide (i = (↑(0 + 1 + 1 + 1) : Int))) (.ret (.inl (stOf [0, 2, 4, 6, 7] [.str s, .ptr 0 0, .ptr 5 0, .ptr 10 0, .int .i64 (IntKind.wrap .i64 (i + 1))] [RO 1 zi z1 z2 z3 z4 z5 zo zc, .row QQ zq, .row RR za, .row RR zn, .row RR zr, RO 6 yi y1 y2 y3 y4 y5 yo yc, .row QQ yq, .row RR ya, .row RR yn, .row RR yr, .boxT none [.int .i64 e0, .int .i64 e1, .int .i64 e2, .int .i64 (IntKind.wrap .i64 (n16 s (IntKind.wrap .i64 (4 + IntKind.wrap .i64 (2 * i)))))]]))) .no)))) (.br (decide (i = (↑0 : Int))) (.ret (.inl (stOf [0, 2, 4, 6, 7] [.str s, .ptr 0 0, .ptr 5 0, .ptr 10 0, .int .i64 (IntKind.wrap .i64 (i + 1))] [RO 1 zi z1 z2 z3 z4 z5 zo zc, .row QQ zq, .row RR za, .row RR zn, .row RR zr, RO 6 yi y1 y2 y3 y4 y5 yo yc, .row QQ yq, .row RR ya, .row RR yn, .row RR yr, .boxT none [.int .i64 (IntKind.wrap .i64 0), .int .i64 e1, .int .i64 e2, .int .i64 e3]]))) (.br (decide (i = (↑(0 + 1) : Int))) (.ret (.inl (stOf [0, 2, 4, 6, 7] [.str s, .ptr 0 0, .ptr 5 0, .ptr 10 0, .int .i64 (IntKind.wrap .i64 (i + 1))] [RO 1 zi z1 z2 z3 z4 z5 zo zc, .row QQ zq, .row RR za, .row RR zn, .row RR zr, RO 6 yi y1 y2 y3 y4 y5 yo yc, .row QQ yq, .row RR ya, .row RR yn, .row RR yr, .boxT none [.int .i64 e0, .int .i64 (IntKind.wrap .i64 0), .int .i64 e2, .int .i64 e3]]))) (.br (decide (i = (↑(0 + 1 + 1) : Int))) (.ret (.inl (stOf [0, 2, 4, 6, 7] [.str s, .ptr 0 0, .ptr 5 0, .ptr 10 0, .int .i64 (IntKind.wrap .i64 (i + 1))] [RO 1 zi z1 z2 z3 z4 z5 zo zc, .row QQ zq, .row RR za, .row RR zn, .row RR zr, RO 6 yi y1 y2 y3 y4 y5 yo yc, .row QQ yq, .row RR ya, .row RR yn, .row RR yr, .boxT none [.int .i64 e0, .int .i64 e1, .int .i64 (IntKind.wrap .i64 0), .int .i64 e3]]))) (.br (decide (i = (↑(0 + 1 + 1 + 1) : Int))) (.ret (.inl (stOf [0, 2, 4, 6, 7] [.str s, .ptr 0 0, .ptr 5 0, .ptr 10 0, .int .i64 (IntKind.wrap .i64 (i + 1))] [RO 1 zi z1 z2 z3 z4 z5 zo zc, .row QQ zq, .row RR za, .row RR zn, .row RR zr, RO 6 yi y1 y2 y3 y4 y5 yo yc, .row QQ yq, .row RR ya, .row RR yn, .row RR yr, .boxT none [.int .i64 e0, .int .i64 e1, .int .i64 e2, .int .i64 (IntKind.wrap .i64 0)]]))) .no))))) .no) (.ret (.inr (.exit 0, stOf [0, 2, 4, 6] [.str s, .ptr 0 0, .ptr 5 0, .ptr 10 0] [RO 1 zi z1 z2 z3 z4 z5 zo zc, .row QQ zq, .row RR za, .row RR zn, .row RR zr, RO 6 yi y1 y2 y3 y4 y5 yo yc, .row QQ yq, .row RR ya, .row RR yn, .row RR yr, .boxT none [.int .i64 e0, .int .i64 e1, .int .i64 e2, .int .i64 e3]])))
theorem round44 (lp : Lp) (s : List UInt8) (i zi : Int) (z1 z2 z3 z4 z5 : Bool) (zo zc : Int) (zq : List QQt) (za zn zr : List RRt) (yi : Int) (y1 y2 y3 y4 y5 : Bool) (yo yc : Int) (yq : List QQt) (ya yn yr : List RRt) (e0 e1 e2 e3 : Int) : evC TK (orcB [fs72w, fs29w, fs86w] [os46kw]) lp b44 0 (stOf [0, 2, 4, 6, 7] [.str s, .ptr 0 0, .ptr 5 0, .ptr 10 0, .int .i64 i] [RO 1 zi z1 z2 z3 z4 z5 zo zc, .row QQ zq, .row RR za, .row RR zn, .row RR zr, RO 6 yi y1 y2 y3 y4 y5 yo yc, .row QQ yq, .row RR ya, .row RR yn, .row RR yr, .box [.int .i64 e0, .int .i64 e1, .int .i64 e2, .int .i64 e3]]) (roundK [0, 2, 4, 6, 7] [0, 2, 4, 6] 0) = (r44 s i zi z1 z2 z3 z4 z5 zo zc zq za zn zr yi y1 y2 y3 y4 y5 yo yc yq ya yn yr e0 e1 e2 e3).get := by kernel_rfl
theorem wf44 (s : List UInt8) (zi : Int) (z1 z2 z3 z4 z5 : Bool) (zo zc : Int) (zq : List QQt) (za zn zr : List RRt) (yi : Int) (y1 y2 y3 y4 y5 : Bool) (yo yc : Int) (yq : List QQt) (ya yn yr : List RRt) (I'' : Int → Int → Int → Int → Int → Prop) (m'' : Int → Int → Int → Int → Int → Nat) (r'' : Ex × St) (h : ∀ (i e0 e1 e2 e3 : Int), I'' i e0 e1 e2 e3 → (r44 s i zi z1 z2 z3 z4 z5 zo zc zq za zn zr yi y1 y2 y3 y4 y5 yo yc yq ya yn yr e0 e1 e2 e3).all fun x'' => x'' = .inr r'' ∨ ∃ (i' e0' e1' e2' e3' : Int), x'' = .inl (stOf [0, 2, 4, 6, 7] [.str s, .ptr 0 0, .ptr 5 0, .ptr 10 0, .int .i64 i'] [RO 1 zi z1 z2 z3 z4 z5 zo zc, .row QQ zq, .row RR za, .row RR zn, .row RR zr, RO 6 yi y1 y2 y3 y4 y5 yo yc, .row QQ yq, .row RR ya, .row RR yn, .row RR yr, .box [.int .i64 e0', .int .i64 e1', .int .i64 e2', .int .i64 e3']]) ∧ I'' i' e0' e1' e2' e3' ∧ m'' i' e0' e1' e2' e3' < m'' i e0 e1 e2 e3) (lp : Lp) (i e0 e1 e2 e3 : Int) : I'' i e0 e1 e2 e3 →
    loopF (fun st => evC TK (orcB [fs72w, fs29w, fs86w] [os46kw]) lp b44 0 st (roundK [0, 2, 4, 6, 7] [0, 2, 4, 6] 0)) (stOf [0, 2, 4, 6, 7] [.str s, .ptr 0 0, .ptr 5 0, .ptr 10 0, .int .i64 i] [RO 1 zi z1 z2 z3 z4 z5 zo zc, .row QQ zq, .row RR za, .row RR zn, .row RR zr, RO 6 yi y1 y2 y3 y4 y5 yo yc, .row QQ yq, .row RR ya, .row RR yn, .row RR yr, .box [.int .i64 e0, .int .i64 e1, .int .i64 e2, .int .i64 e3]]) = some r'' :=
 loop_tr (fun a'' : Int × Int × Int × Int × Int => stOf [0, 2, 4, 6, 7] [.str s, .ptr 0 0, .ptr 5 0, .ptr 10 0, .int .i64 a''.1] [RO 1 zi z1 z2 z3 z4 z5 zo zc, .row QQ zq, .row RR za, .row RR zn, .row RR zr, RO 6 yi y1 y2 y3 y4 y5 yo yc, .row QQ yq, .row RR ya, .row RR yn, .row RR yr, .box [.int .i64 a''.2.1, .int .i64 a''.2.2.1, .int .i64 a''.2.2.2.1, .int .i64 a''.2.2.2.2]]) (fun a'' => I'' a''.1 a''.2.1 a''.2.2.1 a''.2.2.2.1 a''.2.2.2.2) (fun a'' => m'' a''.1 a''.2.1 a''.2.2.1 a''.2.2.2.1 a''.2.2.2.2) r'' (fun a'' => r44 s a''.1 zi z1 z2 z3 z4 z5 zo zc zq za zn zr yi y1 y2 y3 y4 y5 yo yc yq ya yn yr a''.2.1 a''.2.2.1 a''.2.2.2.1 a''.2.2.2.2)
  (fun a'' x hx => (round44 lp s a''.1 zi z1 z2 z3 z4 z5 zo zc zq za zn zr yi y1 y2 y3 y4 y5 yo yc yq ya yn yr a''.2.1 a''.2.2.1 a''.2.2.2.1 a''.2.2.2.2).trans hx) (fun a'' ha => Tr.all_mono (fun x'' hx => hx.imp id fun ⟨i', e0', e1', e2', e3', h1, h2, h3⟩ => ⟨(i', e0', e1', e2', e3'), h1, h2, h3⟩) (h (a''.1) (a''.2.1) (a''.2.2.1) (a''.2.2.2.1) (a''.2.2.2.2) ha)) (i, e0, e1, e2, e3)
noncomputable def b44q : Code := nthLoop c44 1
def ls44q : LoopSpec := { bid := 2, sh := [.d .str false, .ptr 0 0, .ptr 5 0, .ptr 10 0, .d (.int .i64) false, .d (.int .i64) false], so := [(ROs 1), .row QQ, .row RR, .row RR, .row RR, (ROs 6), .row QQ, .row RR, .row RR, .row RR, .box [.d (.int .i64) false, .d (.int .i64) false, .d (.int .i64) false, .d (.int .i64) false]], F := fun (s, at_, i, _) ((zi, z1, z2, z3, z4, z5, zo, zc, _), zq, za, zn, zr, (yi, y1, y2, y3, y4, y5, yo, yc, _), yq, ya, yn, yr, (e0, e1, e2, e3, _), _) => .on2 (tqC s at_ e0 i yq) ((kQ s e0 at_).2.2) (.exit 2, [.str s, .ptr 0 0, .dead, .ptr 5 0, .ptr 10 0, .int .i64 (kQ s e0 at_).2.1], [RO 1 zi z1 z2 z3 z4 z5 zo zc, .row QQ zq, .row RR za, .row RR zn, .row RR zr, RO 6 yi y1 y2 y3 y4 y5 yo yc, .row QQ (kQ s e0 at_).1, .row RR ya, .row RR yn, .row RR yr, .box [.int .i64 e0, .int .i64 e1, .int .i64 e2, .int .i64 e3]]) (.ret, [.str s, .ptr 0 0, .int .i64 2, .ptr 1 0, .ptr 6 0, .int .i64 (kQ s e0 at_).2.1], [NO, RO 2 yi y1 y2 y3 y4 y5 yo yc, .row QQ (kQ s e0 at_).1, .row RR ya, .row RR yn, .row RR yr, .box [.int .i64 e0, .int .i64 e1, .int .i64 e2, .int .i64 e3]]) }
def r44q (s : List UInt8) (at_ i zi : Int) (z1 z2 z3 z4 z5 : Bool) (zo zc : Int) (zq : List QQt) (za zn zr : List RRt) (yi : Int) (y1 y2 y3 y4 y5 : Bool) (yo yc : Int) (yq : List QQt) (ya yn yr : List RRt) (e0 e1 e2 e3 : Int) : Tr (St ⊕ (Ex × St)) := .br (decide (i < e0)) (.br (bigS s) (.br ((oQ (tkQ s at_)).2.2 != 0) (.ret (.inr (.ret, stOf [0, 2, 3, 4, 6, 11] [.str s, .ptr 0 0, .int .i64 2, .ptr 1 0, .ptr 6 0, .int .i64 at_] [NO, RO 2 yi y1 y2 y3 y4 y5 yo yc, .row QQ yq, .row RR ya, .row RR yn, .row RR yr, .boxT none [.int .i64 e0, .int .i64 e1, .int .i64 e2, .int .i64 e3]]))) (.br (fits (List.length yq + 1) 24) (.ret (.inl (stOf [0, 2, 4, 6, 11, 12] [.str s, .ptr 0 0, .ptr 5 0, .ptr 10 0, .int .i64 (oQ (tkQ s at_)).2.1, .int .i64 (IntKind.wrap .i64 (i + 1))] [RO 1 zi z1 z2 z3 z4 z5 zo zc, .row QQ zq, .row RR za, .row RR zn, .row RR zr, RO 6 yi y1 y2 y3 y4 y5 yo yc, .row QQ (yq ++ [(oQ (tkQ s at_)).1]), .row RR ya, .row RR yn, .row RR yr, .boxT none [.int .i64 e0, .int .i64 e1, .int .i64 e2, .int .i64 e3]]))) .no)) .no) (.ret (.inr (.exit 2, stOf [0, 2, 3, 4, 6, 11] [.str s, .ptr 0 0, .dead, .ptr 5 0, .ptr 10 0, .int .i64 at_] [RO 1 zi z1 z2 z3 z4 z5 zo zc, .row QQ zq, .row RR za, .row RR zn, .row RR zr, RO 6 yi y1 y2 y3 y4 y5 yo yc, .row QQ yq, .row RR ya, .row RR yn, .row RR yr, .boxT none [.int .i64 e0, .int .i64 e1, .int .i64 e2, .int .i64 e3]])))
theorem round44q (lp : Lp) (s : List UInt8) (at_ i zi : Int) (z1 z2 z3 z4 z5 : Bool) (zo zc : Int) (zq : List QQt) (za zn zr : List RRt) (yi : Int) (y1 y2 y3 y4 y5 : Bool) (yo yc : Int) (yq : List QQt) (ya yn yr : List RRt) (e0 e1 e2 e3 : Int) : evC TK (orcB [fs72w, fs29w, fs86w] [os46kw]) lp b44q 2 (stOf [0, 2, 4, 6, 11, 12] [.str s, .ptr 0 0, .ptr 5 0, .ptr 10 0, .int .i64 at_, .int .i64 i] [RO 1 zi z1 z2 z3 z4 z5 zo zc, .row QQ zq, .row RR za, .row RR zn, .row RR zr, RO 6 yi y1 y2 y3 y4 y5 yo yc, .row QQ yq, .row RR ya, .row RR yn, .row RR yr, .box [.int .i64 e0, .int .i64 e1, .int .i64 e2, .int .i64 e3]]) (roundK [0, 2, 4, 6, 11, 12] [0, 2, 3, 4, 6, 11] 0) = (r44q s at_ i zi z1 z2 z3 z4 z5 zo zc zq za zn zr yi y1 y2 y3 y4 y5 yo yc yq ya yn yr e0 e1 e2 e3).get := by kernel_rfl
theorem wf44q (s : List UInt8) (zi : Int) (z1 z2 z3 z4 z5 : Bool) (zo zc : Int) (zq : List QQt) (za zn zr : List RRt) (yi : Int) (y1 y2 y3 y4 y5 : Bool) (yo yc : Int) (ya yn yr : List RRt) (e0 e1 e2 e3 : Int) (I'' : Int → Int → List QQt → Prop) (m'' : Int → Int → List QQt → Nat) (r'' : Ex × St) (h : ∀ (at_ i : Int) (yq : List QQt), I'' at_ i yq → (r44q s at_ i zi z1 z2 z3 z4 z5 zo zc zq za zn zr yi y1 y2 y3 y4 y5 yo yc yq ya yn yr e0 e1 e2 e3).all fun x'' => x'' = .inr r'' ∨ ∃ (at_' i' : Int) (yq' : List QQt), x'' = .inl (stOf [0, 2, 4, 6, 11, 12] [.str s, .ptr 0 0, .ptr 5 0, .ptr 10 0, .int .i64 at_', .int .i64 i'] [RO 1 zi z1 z2 z3 z4 z5 zo zc, .row QQ zq, .row RR za, .row RR zn, .row RR zr, RO 6 yi y1 y2 y3 y4 y5 yo yc, .row QQ yq', .row RR ya, .row RR yn, .row RR yr, .box [.int .i64 e0, .int .i64 e1, .int .i64 e2, .int .i64 e3]]) ∧ I'' at_' i' yq' ∧ m'' at_' i' yq' < m'' at_ i yq) (lp : Lp) (at_ i : Int) (yq : List QQt) : I'' at_ i yq →
    loopF (fun st => evC TK (orcB [fs72w, fs29w, fs86w] [os46kw]) lp b44q 2 st (roundK [0, 2, 4, 6, 11, 12] [0, 2, 3, 4, 6, 11] 0)) (stOf [0, 2, 4, 6, 11, 12] [.str s, .ptr 0 0, .ptr 5 0, .ptr 10 0, .int .i64 at_, .int .i64 i] [RO 1 zi z1 z2 z3 z4 z5 zo zc, .row QQ zq, .row RR za, .row RR zn, .row RR zr, RO 6 yi y1 y2 y3 y4 y5 yo yc, .row QQ yq, .row RR ya, .row RR yn, .row RR yr, .box [.int .i64 e0, .int .i64 e1, .int .i64 e2, .int .i64 e3]]) = some r'' :=
 loop_tr (fun a'' : Int × Int × List QQt => stOf [0, 2, 4, 6, 11, 12] [.str s, .ptr 0 0, .ptr 5 0, .ptr 10 0, .int .i64 a''.1, .int .i64 a''.2.1] [RO 1 zi z1 z2 z3 z4 z5 zo zc, .row QQ zq, .row RR za, .row RR zn, .row RR zr, RO 6 yi y1 y2 y3 y4 y5 yo yc, .row QQ a''.2.2, .row RR ya, .row RR yn, .row RR yr, .box [.int .i64 e0, .int .i64 e1, .int .i64 e2, .int .i64 e3]]) (fun a'' => I'' a''.1 a''.2.1 a''.2.2) (fun a'' => m'' a''.1 a''.2.1 a''.2.2) r'' (fun a'' => r44q s a''.1 a''.2.1 zi z1 z2 z3 z4 z5 zo zc zq za zn zr yi y1 y2 y3 y4 y5 yo yc a''.2.2 ya yn yr e0 e1 e2 e3)
  (fun a'' x hx => (round44q lp s a''.1 a''.2.1 zi z1 z2 z3 z4 z5 zo zc zq za zn zr yi y1 y2 y3 y4 y5 yo yc a''.2.2 ya yn yr e0 e1 e2 e3).trans hx) (fun a'' ha => Tr.all_mono (fun x'' hx => hx.imp id fun ⟨at_', i', yq', h1, h2, h3⟩ => ⟨(at_', i', yq'), h1, h2, h3⟩) (h (a''.1) (a''.2.1) (a''.2.2) ha)) (at_, i, yq)
def ctI (s : List UInt8) (i e0 e1 e2 e3 : Int) : Prop := (0 ≤ i ∧ i ≤ 4) ∧ (1 ≤ i → e0 = vn16 s 4) ∧ (2 ≤ i → e1 = vn16 s 6) ∧ (3 ≤ i → e2 = vn16 s 8) ∧ (4 ≤ i → e3 = vn16 s 10)
theorem vn16_t {s : List UInt8} {a : Int} (h : someB s a 2 = true) : IntKind.wrap IntKind.i64 (n16 s a) = vn16 s a := by
 rw [n16_wrap]
 unfold vn16
 rw [h]; rfl
theorem vn16_f {s : List UInt8} {a : Int} (h : someB s a 2 = false) : IntKind.wrap IntKind.i64 (0 : Int) = vn16 s a := by
 unfold vn16
 rw [h]; rfl
theorem loop44 : ls44.Ok TK (orcB [fs72w, fs29w, fs86w] [os46kw]) h44 0 0 b44 := by
 intro q'' hq'' x'' y'' r'' h
 obtain ⟨(s : List UInt8), (i : Int), _⟩ := x''
 obtain ⟨⟨(zi : Int), (z1 : Bool), (z2 : Bool), (z3 : Bool), (z4 : Bool), (z5 : Bool), (zo : Int), (zc : Int), _⟩, (zq : List QQt), (za : List RRt), (zn : List RRt), (zr : List RRt), ⟨(yi : Int), (y1 : Bool), (y2 : Bool), (y3 : Bool), (y4 : Bool), (y5 : Bool), (yo : Int), (yc : Int), _⟩, (yq : List QQt), (ya : List RRt), (yn : List RRt), (yr : List RRt), ⟨(e0 : Int), (e1 : Int), (e2 : Int), (e3 : Int), _⟩, _⟩ := y''
 obtain ⟨hc, rfl⟩ := Tr.get_on h
 show loopF (fun st => evC TK (orcB [fs72w, fs29w, fs86w] [os46kw]) (lpN TK (orcB [fs72w, fs29w, fs86w] [os46kw]) h44 0 q'') b44 0 st (roundK [0, 2, 4, 6, 7] [0, 2, 4, 6] 0)) (stOf [0, 2, 4, 6, 7] [.str s, .ptr 0 0, .ptr 5 0, .ptr 10 0, .int .i64 i] [RO 1 zi z1 z2 z3 z4 z5 zo zc, .row QQ zq, .row RR za, .row RR zn, .row RR zr, RO 6 yi y1 y2 y3 y4 y5 yo yc, .row QQ yq, .row RR ya, .row RR yn, .row RR yr, .box [.int .i64 e0, .int .i64 e1, .int .i64 e2, .int .i64 e3]]) = some (.exit 0, stOf [0, 2, 4, 6] ([.str s, .ptr 0 0, .ptr 5 0, .ptr 10 0]) ([RO 1 zi z1 z2 z3 z4 z5 zo zc, .row QQ zq, .row RR za, .row RR zn, .row RR zr, RO 6 yi y1 y2 y3 y4 y5 yo yc, .row QQ yq, .row RR ya, .row RR yn, .row RR yr, .box [.int .i64 (vn16 s 4), .int .i64 (vn16 s 6), .int .i64 (vn16 s 8), .int .i64 (vn16 s 10)]]))
 simp only [Bool.and_eq_true, decide_eq_true_eq] at hc
 obtain ⟨hs, rfl⟩ := hc
 refine wf44 s zi z1 z2 z3 z4 z5 zo zc zq za zn zr yi y1 y2 y3 y4 y5 yo yc yq ya yn yr (ctI s) (fun i _ _ _ _ => (4 - i).toNat) _ ?_ _ 0 e0 e1 e2 e3 ⟨by omega, fun h => by omega, fun h => by omega, fun h => by omega, fun h => by omega⟩
 rintro i e0 e1 e2 e3 ⟨⟨h0, h1⟩, i0, i1, i2, i3⟩
 unfold r44
 rw [IntWalk.i64_in (2 * i) (by omega), IntWalk.i64_in (4 + 2 * i) (by omega), IntWalk.i64_in (i + 1) (by omega)]
 have hcase : i = 0 ∨ i = 1 ∨ i = 2 ∨ i = 3 ∨ i = 4 := by omega
 have hb : bigS s = true := len_big (by omega)
 rcases hcase with rfl | rfl | rfl | rfl | rfl
 · refine Tr.all_t rfl (Tr.all_t hb (Tr.all_br (fun c => Tr.all_t rfl (Tr.all_ret (.inr ⟨_, _, _, _, _, rfl, ⟨by omega, fun _ => vn16_t c, fun h => by omega, fun h => by omega, fun h => by omega⟩, by decide⟩))) fun c => Tr.all_t rfl (Tr.all_ret (.inr ⟨_, _, _, _, _, rfl, ⟨by omega, fun _ => vn16_f c, fun h => by omega, fun h => by omega, fun h => by omega⟩, by decide⟩))))
 · refine Tr.all_t rfl (Tr.all_t hb (Tr.all_br (fun c => Tr.all_f rfl (Tr.all_t rfl (Tr.all_ret (.inr ⟨_, _, _, _, _, rfl, ⟨by omega, fun _ => i0 (by omega), fun _ => vn16_t c, fun h => by omega, fun h => by omega⟩, by decide⟩)))) fun c => Tr.all_f rfl (Tr.all_t rfl (Tr.all_ret (.inr ⟨_, _, _, _, _, rfl, ⟨by omega, fun _ => i0 (by omega), fun _ => vn16_f c, fun h => by omega, fun h => by omega⟩, by decide⟩)))))
 · refine Tr.all_t rfl (Tr.all_t hb (Tr.all_br (fun c => Tr.all_f rfl (Tr.all_f rfl (Tr.all_t rfl (Tr.all_ret (.inr ⟨_, _, _, _, _, rfl, ⟨by omega, fun _ => i0 (by omega), fun _ => i1 (by omega), fun _ => vn16_t c, fun h => by omega⟩, by decide⟩))))) fun c => Tr.all_f rfl (Tr.all_f rfl (Tr.all_t rfl (Tr.all_ret (.inr ⟨_, _, _, _, _, rfl, ⟨by omega, fun _ => i0 (by omega), fun _ => i1 (by omega), fun _ => vn16_f c, fun h => by omega⟩, by decide⟩))))))
 · refine Tr.all_t rfl (Tr.all_t hb (Tr.all_br (fun c => Tr.all_f rfl (Tr.all_f rfl (Tr.all_f rfl (Tr.all_t rfl (Tr.all_ret (.inr ⟨_, _, _, _, _, rfl, ⟨by omega, fun _ => i0 (by omega), fun _ => i1 (by omega), fun _ => i2 (by omega), fun _ => vn16_t c⟩, by decide⟩)))))) fun c => Tr.all_f rfl (Tr.all_f rfl (Tr.all_f rfl (Tr.all_t rfl (Tr.all_ret (.inr ⟨_, _, _, _, _, rfl, ⟨by omega, fun _ => i0 (by omega), fun _ => i1 (by omega), fun _ => i2 (by omega), fun _ => vn16_f c⟩, by decide⟩)))))))
 · refine Tr.all_f rfl (Tr.all_ret (.inl ?_))
   rw [i0 (by omega), i1 (by omega), i2 (by omega), i3 (by omega)]
theorem loop44q : ls44q.Ok TK (orcB [fs72w, fs29w, fs86w] [os46kw]) h44 0 0 b44q := by
 intro q'' hq'' x'' y'' r'' h
 obtain ⟨(s : List UInt8), (at_ : Int), (i : Int), _⟩ := x''
 obtain ⟨⟨(zi : Int), (z1 : Bool), (z2 : Bool), (z3 : Bool), (z4 : Bool), (z5 : Bool), (zo : Int), (zc : Int), _⟩, (zq : List QQt), (za : List RRt), (zn : List RRt), (zr : List RRt), ⟨(yi : Int), (y1 : Bool), (y2 : Bool), (y3 : Bool), (y4 : Bool), (y5 : Bool), (yo : Int), (yc : Int), _⟩, (yq : List QQt), (ya : List RRt), (yn : List RRt), (yr : List RRt), ⟨(e0 : Int), (e1 : Int), (e2 : Int), (e3 : Int), _⟩, _⟩ := y''
 obtain ⟨hc, rfl⟩ := Tr.get_on2 h
 show loopF (fun st => evC TK (orcB [fs72w, fs29w, fs86w] [os46kw]) (lpN TK (orcB [fs72w, fs29w, fs86w] [os46kw]) h44 0 q'') b44q 2 st (roundK [0, 2, 4, 6, 11, 12] [0, 2, 3, 4, 6, 11] 0)) (stOf [0, 2, 4, 6, 11, 12] [.str s, .ptr 0 0, .ptr 5 0, .ptr 10 0, .int .i64 at_, .int .i64 i] [RO 1 zi z1 z2 z3 z4 z5 zo zc, .row QQ zq, .row RR za, .row RR zn, .row RR zr, RO 6 yi y1 y2 y3 y4 y5 yo yc, .row QQ yq, .row RR ya, .row RR yn, .row RR yr, .box [.int .i64 e0, .int .i64 e1, .int .i64 e2, .int .i64 e3]]) = some ((bif (kQ s e0 at_).2.2 then (.exit 2, [.str s, .ptr 0 0, .dead, .ptr 5 0, .ptr 10 0, .int .i64 (kQ s e0 at_).2.1], [RO 1 zi z1 z2 z3 z4 z5 zo zc, .row QQ zq, .row RR za, .row RR zn, .row RR zr, RO 6 yi y1 y2 y3 y4 y5 yo yc, .row QQ (kQ s e0 at_).1, .row RR ya, .row RR yn, .row RR yr, .box [.int .i64 e0, .int .i64 e1, .int .i64 e2, .int .i64 e3]]) else (.ret, [.str s, .ptr 0 0, .int .i64 2, .ptr 1 0, .ptr 6 0, .int .i64 (kQ s e0 at_).2.1], [NO, RO 2 yi y1 y2 y3 y4 y5 yo yc, .row QQ (kQ s e0 at_).1, .row RR ya, .row RR yn, .row RR yr, .box [.int .i64 e0, .int .i64 e1, .int .i64 e2, .int .i64 e3]]) : Ex × List AV × List LObj).1, stOf [0, 2, 3, 4, 6, 11] (bif (kQ s e0 at_).2.2 then (.exit 2, [.str s, .ptr 0 0, .dead, .ptr 5 0, .ptr 10 0, .int .i64 (kQ s e0 at_).2.1], [RO 1 zi z1 z2 z3 z4 z5 zo zc, .row QQ zq, .row RR za, .row RR zn, .row RR zr, RO 6 yi y1 y2 y3 y4 y5 yo yc, .row QQ (kQ s e0 at_).1, .row RR ya, .row RR yn, .row RR yr, .box [.int .i64 e0, .int .i64 e1, .int .i64 e2, .int .i64 e3]]) else (.ret, [.str s, .ptr 0 0, .int .i64 2, .ptr 1 0, .ptr 6 0, .int .i64 (kQ s e0 at_).2.1], [NO, RO 2 yi y1 y2 y3 y4 y5 yo yc, .row QQ (kQ s e0 at_).1, .row RR ya, .row RR yn, .row RR yr, .box [.int .i64 e0, .int .i64 e1, .int .i64 e2, .int .i64 e3]]) : Ex × List AV × List LObj).2.1 (bif (kQ s e0 at_).2.2 then (.exit 2, [.str s, .ptr 0 0, .dead, .ptr 5 0, .ptr 10 0, .int .i64 (kQ s e0 at_).2.1], [RO 1 zi z1 z2 z3 z4 z5 zo zc, .row QQ zq, .row RR za, .row RR zn, .row RR zr, RO 6 yi y1 y2 y3 y4 y5 yo yc, .row QQ (kQ s e0 at_).1, .row RR ya, .row RR yn, .row RR yr, .box [.int .i64 e0, .int .i64 e1, .int .i64 e2, .int .i64 e3]]) else (.ret, [.str s, .ptr 0 0, .int .i64 2, .ptr 1 0, .ptr 6 0, .int .i64 (kQ s e0 at_).2.1], [NO, RO 2 yi y1 y2 y3 y4 y5 yo yc, .row QQ (kQ s e0 at_).1, .row RR ya, .row RR yn, .row RR yr, .box [.int .i64 e0, .int .i64 e1, .int .i64 e2, .int .i64 e3]]) : Ex × List AV × List LObj).2.2)
 simp only [tqC, Bool.and_eq_true, decide_eq_true_eq, n16C_iff] at hc
 obtain ⟨hs, h0a, ⟨hn, h6⟩, rfl, rfl⟩ := hc
 refine wf44q s zi z1 z2 z3 z4 z5 zo zc zq za zn zr yi y1 y2 y3 y4 y5 yo yc ya yn yr e0 e1 e2 e3 (fun a i l => 0 ≤ i ∧ i ≤ e0 ∧ 0 ≤ a ∧ l.length = i.toNat ∧ l ++ (kQ s (e0 - i) a).1 = (kQ s e0 at_).1 ∧ (kQ s (e0 - i) a).2 = (kQ s e0 at_).2) (fun _ i _ => (e0 - i).toNat) _ ?_ _ at_ 0 [] ⟨by omega, by omega, h0a, rfl, by rw [Int.sub_zero]; rfl, by rw [Int.sub_zero]⟩
 rintro a i l ⟨h0, h1, ha, hl, hF, hG⟩
 rw [← hF, ← hG]
 unfold r44q
 by_cases hi : i < e0
 · have hw2 : IntKind.wrap .i64 (i + 1) = i + 1 := IntWalk.i64_in _ (by omega)
   rw [hw2]
   have hfit : fits (l.length + 1) 24 = true := fits_true (by omega) (by omega)
   cases ht : tkQ s a with
   | none =>
     have e : kQ s (e0 - i) a = ([], a, false) := by
      show tkF (tkQ s) (e0 - i).toNat a = _
      rw [show (e0 - i).toNat = (e0 - (i + 1)).toNat + 1 by omega]
      exact tkF_stop ht
     rw [e, List.append_nil]
     exact Tr.all_t (dec_true hi) (Tr.all_t (sm_big hs) (Tr.all_t rfl (Tr.all_ret (.inl rfl))))
   | some p =>
     obtain ⟨r, e⟩ := p
     obtain ⟨_, hp, _⟩ := tkQ_place ha ht
     have ee : kQ s (e0 - i) a = (r :: (kQ s (e0 - (i + 1)) e).1, (kQ s (e0 - (i + 1)) e).2) := by
      show tkF (tkQ s) (e0 - i).toNat a = _
      rw [show (e0 - i).toNat = (e0 - (i + 1)).toNat + 1 by omega]
      exact tkF_step ht
     refine Tr.all_t (dec_true hi) (Tr.all_t (sm_big hs) (Tr.all_f rfl (Tr.all_t hfit (Tr.all_ret (.inr ⟨_, _, _, rfl, ⟨by omega, by omega, by show 0 ≤ e; omega, by rw [List.length_append, List.length_singleton]; omega, ?_, by rw [ee]; rfl⟩, by omega⟩)))))
     rw [ee, List.append_assoc]
     rfl
 · have e : kQ s (e0 - i) a = ([], a, true) := by
     show tkF (tkQ s) (e0 - i).toNat a = _
     rw [show (e0 - i).toNat = 0 by omega]
     rfl
   rw [e, List.append_nil]
   exact Tr.all_f (dec_false hi) (Tr.all_ret (.inl rfl))
def t44 (s : List UInt8) : Tr Res := .br (decide (List.length s ≤ 100000000)) (.br ((hdV s).2 != 0) (.ret ([.agg [.int .u16 0, .bool false, .bool false, .bool false, .bool false, .bool false, .int .i64 0, .int .i64 0, .ns, .ns, .ns, .ns], .int .i64 2], [])) (.br (decide (List.length s ≤ 100000000) && decide (0 = (0 : Ty.den (Ty.int .i64)))) (.br (tqC s 12 (vn16 s 4) 0 []) (.br (kQ s (vn16 s 4) 12).2.2 (.br (smS s && n16C (vn16 s 6)) (.br (smS s && n16C (vn16 s 8)) (.br (smS s && n16C (vn16 s 10)) (.br (decide ((rcV s (kQ s (vn16 s 4) 12).2.1 (vn16 s 6)).2 < 0)) (.ret ([.agg [.int .u16 0, .bool false, .bool false, .bool false, .bool false, .bool false, .int .i64 0, .int .i64 0, .ns, .ns, .ns, .ns], .int .i64 2], [])) (.br (decide ((rcV s (rcV s (kQ s (vn16 s 4) 12).2.1 (vn16 s 6)).2 (vn16 s 8)).2 < 0)) (.ret ([.agg [.int .u16 0, .bool false, .bool false, .bool false, .bool false, .bool false, .int .i64 0, .int .i64 0, .ns, .ns, .ns, .ns], .int .i64 2], [])) (.br ((rcV s (rcV s (rcV s (kQ s (vn16 s 4) 12).2.1 (vn16 s 6)).2 (vn16 s 8)).2 (vn16 s 10)).2 != (↑s.length : Int)) (.ret ([.agg [.int .u16 0, .bool false, .bool false, .bool false, .bool false, .bool false, .int .i64 0, .int .i64 0, .ns, .ns, .ns, .ns], .int .i64 2], [])) (.ret ([.agg [.int .u16 (hdV s).1.1, .bool (hdV s).1.2.1, .bool (hdV s).1.2.2.1, .bool (hdV s).1.2.2.2.1, .bool (hdV s).1.2.2.2.2.1, .bool (hdV s).1.2.2.2.2.2.1, .int .i64 (hdV s).1.2.2.2.2.2.2.1, .int .i64 (hdV s).1.2.2.2.2.2.2.2.1, .list QQ (kQ s (vn16 s 4) 12).1, .list RR (rcV s (kQ s (vn16 s 4) 12).2.1 (vn16 s 6)).1, .list RR (rcV s (rcV s (kQ s (vn16 s 4) 12).2.1 (vn16 s 6)).2 (vn16 s 8)).1, .list RR (rcV s (rcV s (rcV s (kQ s (vn16 s 4) 12).2.1 (vn16 s 6)).2 (vn16 s 8)).2 (vn16 s 10)).1], .int .i64 0], []))))) .no) .no) .no) (.ret ([.agg [.int .u16 0, .bool false, .bool false, .bool false, .bool false, .bool false, .int .i64 0, .int .i64 0, .ns, .ns, .ns, .ns], .int .i64 2], []))) .no) .no)) .no
def os44 : OSpec := { f := 44, sh := [.d .str false], so := [], F := fun (s, _) _ => t44 s }
theorem fn44 (s : List UInt8) : evC TK (orcB [fs72w, fs29w, fs86w] [os46kw]) (lpOf h44 0 (lsOf [ls44, ls44q])) c44 1000000 (startSt [.str s] [] Try.f44.ntmps) (finishK TK false 0 Try.f44) = (t44 s).get := by kernel_rfl
theorem ok44 : os44.Ok Try.prog := by
 refine os_ok mixed0 tabK (orcB_sound (all_cons okf72w (all_cons okf29w (all_cons okf86w all_nil))) (all_cons ok46kw all_nil)) h44 (d := 0) (n0 := 0) (S := lsOf [ls44, ls44q]) Try.func44 (by kernel_rfl) (c := c44) (by kernel_rfl) rfl (loops_eq (xs := [(0, b44), (2, b44q)]) (by kernel_rfl) (all_cons (ls_here loop44) (all_cons (ls_skip (by kernel_rfl) (ls_here loop44q)) all_nil))) (by omega) (by kernel_rfl) ?_
 intro x'' y'' q'' hq''
 obtain ⟨(s : List UInt8), _⟩ := x''
 exact (fn44 s).trans hq''
def fs44 : FSpec := fsT 44 [(.str, false)] [(MG, true), ((.int .i64), false)] fun (s, _) => t44 s
theorem okf44 : fs44.Ok Try.prog := fsT_ok fun x'' r'' hr'' => ok44 x'' () r'' hr''
theorem recF_pos {s : List UInt8} {a n : Int} (h : 0 ≤ a) : recF s n a = kR s n a := by
 unfold recF
 rw [if_neg (by omega)]
theorem rcV_t {s : List UInt8} {a n e : Int} {l : List RRt} (h : 0 ≤ a) (hx : kR s n a = (l, e, true)) : rcV s a n = (l, e) := by
 unfold rcV
 rw [recF_pos h, hx]
 rfl
theorem rcV_f {s : List UInt8} {a n e : Int} {l : List RRt} (h : 0 ≤ a) (hx : kR s n a = (l, e, false)) : rcV s a n = ([], -1) := by
 unfold rcV
 rw [recF_pos h, hx]
 rfl
theorem isM_of {s : List UInt8} (hl : ¬ ((s.length : Int) < 12)) (hq : (tkqV s).2.2 = true) : isM s = ((tkrV s).2.2 && !((tkrV s).2.1 != (s.length : Int))) := by
 unfold isM
 rw [decide_eq_false hl, hq]
 rfl
def nilM : List AV := [.agg [.int .u16 0, .bool false, .bool false, .bool false, .bool false, .bool false, .int .i64 0, .int .i64 0, .ns, .ns, .ns, .ns], .int .i64 2]
theorem refTake_all (s : List UInt8) (hb : smS s = true) : (t44 s).all fun x => x = bif isM s then ([AV.ofTy MG (withL (hdM s) (tkqV s).1 (tkrV s).1.1 (tkrV s).1.2.1 (tkrV s).1.2.2) true, .int .i64 0], []) else (nilM, []) := by
 have hlen : s.length ≤ 100000000 := by simpa [smS] using hb
 unfold t44
 by_cases hl : (s.length : Int) < 12
 · have e1 : hdV s = (noM, 2) := by unfold hdV; rw [decide_eq_true hl]; rfl
   have e2 : isM s = false := by unfold isM; rw [decide_eq_true hl]; rfl
   rw [e1, e2]
   exact Tr.all_t (dec_true hlen) (Tr.all_t rfl (Tr.all_ret rfl))
 · have e1 : hdV s = (hdM s, 0) := by unfold hdV; rw [decide_eq_false hl]; rfl
   have m4 := n16_le s 4
   have m6 := n16_le s 6
   have m8 := n16_le s 8
   have m10 := n16_le s 10
   have v : ∀ a : Int, 0 ≤ a → a + 2 ≤ s.length → vn16 s a = n16 s a := fun a h0 h1 => by
    unfold vn16
    rw [some_iff.2 ⟨h0, by omega, h1⟩]
    rfl
   rw [e1, v 4 (by omega) (by omega), v 6 (by omega) (by omega), v 8 (by omega) (by omega), v 10 (by omega) (by omega)]
   have hq : tqC s 12 (n16 s 4) 0 [] = true := by unfold tqC; rw [hb, n16_of m4]; rfl
   have hw : ∀ n : Int, 0 ≤ n ∧ n ≤ 65535 → (smS s && n16C n) = true := fun n hn => by rw [hb, n16_of hn]; rfl
   refine Tr.all_t (dec_true hlen) (Tr.all_f rfl (Tr.all_t (by rw [dec_true hlen]; rfl) (Tr.all_t hq ?_)))
   cases hq2 : (tkqV s).2.2 with
   | false =>
     have e2 : isM s = false := by unfold isM; rw [hq2, Bool.false_and, Bool.and_false]
     rw [e2]
     exact Tr.all_f hq2 (Tr.all_ret rfl)
   | true =>
     refine Tr.all_t hq2 (Tr.all_t (hw _ m6) (Tr.all_t (hw _ m8) (Tr.all_t (hw _ m10) ?_)))
     rw [isM_of hl hq2]
     unfold tkrV
     have hp0 : 0 ≤ (tkqV s).2.1 := kQ_pos (by omega)
     show Tr.all _ (Tr.br (decide ((rcV s (tkqV s).2.1 (n16 s 6)).2 < 0)) _ _)
     generalize hQ : tkqV s = Q at *
     have hQ' : kQ s (n16 s 4) 12 = Q := hQ
     rw [hQ']
     generalize hx : kR s (n16 s 6) Q.2.1 = x
     obtain ⟨l1, a1, o1⟩ := x
     cases o1 with
     | false =>
       rw [k3_1 hx, rcV_f hp0 hx]
       exact Tr.all_t rfl (Tr.all_ret rfl)
     | true =>
       have hp1 := kR_pos (s := s) (n := n16 s 6) hp0
       rw [hx] at hp1
       have hp1 : 0 ≤ a1 := hp1
       rw [rcV_t hp0 hx]
       generalize hy : kR s (n16 s 8) a1 = y
       obtain ⟨l2, a2, o2⟩ := y
       cases o2 with
       | false =>
         rw [k3_2 hx hy]
         simp only [rcV_f hp1 hy]
         exact Tr.all_f (decide_eq_false (by omega)) (Tr.all_t rfl (Tr.all_ret rfl))
       | true =>
         have hp2 := kR_pos (s := s) (n := n16 s 8) hp1
         rw [hy] at hp2
         have hp2 : 0 ≤ a2 := hp2
         simp only [rcV_t hp1 hy]
         generalize hz : kR s (n16 s 10) a2 = z
         obtain ⟨l3, a3, o3⟩ := z
         rw [k3_3 hx hy hz]
         cases o3 with
         | false =>
           simp only [rcV_f hp2 hz]
           refine Tr.all_f (decide_eq_false (by omega)) (Tr.all_f (decide_eq_false (by omega)) (Tr.all_t ?_ (Tr.all_ret rfl)))
           rw [bne_iff_ne]
           omega
         | true =>
           simp only [rcV_t hp2 hz]
           refine Tr.all_f (decide_eq_false (by omega)) (Tr.all_f (decide_eq_false (by omega)) (Tr.all_br (fun c => Tr.all_ret ?_) fun c => Tr.all_ret ?_))
           · rw [c]; rfl
           · rw [c]; rfl
def fs44w : FSpec := fs44.like fun (s, _) => .on (smS s) ((tkV6 s).1, (tkV6 s).2, ())
theorem okf44w : fs44w.Ok Try.prog := by
 refine flike_ok okf44 _ ?_
 rintro ⟨(s : List UInt8), _⟩ y h
 obtain ⟨hb, rfl⟩ := Tr.get_on h
 have hb : smS s = true := hb
 have ha := Tr.get_of_all (refTake_all s hb)
 unfold tkV6
 cases hm : isM s with
 | true => rw [hm] at ha; exact convR_of (vs := [AV.ofTy MG (withL (hdM s) (tkqV s).1 (tkrV s).1.1 (tkrV s).1.2.1 (tkrV s).1.2.2) true, .int .i64 0]) rfl rfl ha
 | false => rw [hm] at ha; exact convR_of (vs := nilM) rfl rfl ha
def t34 : Tr Res := .ret ([.bool ((tkV6 (putV (7, true, false, false, false, true, 0, 2, [], [], [], [])).1).1.2.2.2.2.2.2.2.1 == 2)], [])
def os34 : OSpec := { f := 34, sh := [], so := [], F := fun _ _ => t34 }
theorem fn34 : evC T0 (orcB [fs36w, fs43w, fs41] []) (lpOf h34 0 (lsOf [])) c34 1000000 (startSt [] [] Try.f34.ntmps) (finishK T0 false 0 Try.f34) = (t34).get := by kernel_rfl
theorem ok34 : os34.Ok Try.prog := by
 refine os_ok mixed0 tab0 (orcB_sound (all_cons okf36w (all_cons okf43w (all_cons okf41 all_nil))) all_nil) h34 (d := 0) (n0 := 0) (S := lsOf []) Try.func34 (by kernel_rfl) (c := c34) (by kernel_rfl) rfl (no_loops (by kernel_rfl)) (by omega) (by kernel_rfl) ?_
 intro x'' y'' q'' hq''
 exact (fn34).trans hq''
def fs34 : FSpec := fsT 34 [] [(.bool, false)] fun _ => t34
theorem okf34 : fs34.Ok Try.prog := fsT_ok fun x'' r'' hr'' => ok34 x'' () r'' hr''
theorem shown06 : t34 = .ret ([.bool true], []) := by kernel_rfl
def fs34w : FSpec := fs34.like fun _ => .ret (true, ())
theorem okf34w : fs34w.Ok Try.prog := by
 refine flike_ok okf34 _ ?_
 intro x y h
 cases h
 refine convR_of (vs := [.bool true]) rfl rfl ?_
 show (t34).get = _
 rw [shown06]
 rfl
def sameM (m n : MGt) : Bool := decide (m = n)
def fs40s : FSpec := fs40.like fun (m, n, _) => .on (smM m) (sameM m n, ())
theorem okf40s : fs40s.Ok Try.prog := okf40w
def t9 (s : List UInt8) : Tr Res := .br (decide ((↑s.length : Int) > 1500)) (.ret ([.bool true], [])) (.br (smS s) (.br (smS s) (.br (decide (List.length s ≤ 100000000)) (.br (decide (List.length s ≤ 100000000)) (.br (smM (tkV6 s).1) (.br (sameM (tkV6 s).1 (tkV6 s).1) (.br ((tkV6 s).2 == (tkV6 s).2) (.br (smM (hdV s).1) (.br (sameM (hdV s).1 (hdV s).1) (.ret ([.bool ((hdV s).2 == (hdV s).2)], [])) (.ret ([.bool false], []))) .no) (.ret ([.bool false], []))) (.ret ([.bool false], []))) .no) .no) .no) .no) .no)
def os9 : OSpec := { f := 9, sh := [.d .str false], so := [], F := fun (s, _) _ => t9 s }
theorem fn9 (s : List UInt8) : evC T0 (orcB [fs34w, fs43w, fs44w, fs45w, fs46w, fs40s] []) (lpOf h9 0 (lsOf [])) c9 1000000 (startSt [.str s] [] Try.f9.ntmps) (finishK T0 false 0 Try.f9) = (t9 s).get := by kernel_rfl
theorem ok9 : os9.Ok Try.prog := by
 refine os_ok mixed0 tab0 (orcB_sound (all_cons okf34w (all_cons okf43w (all_cons okf44w (all_cons okf45w (all_cons okf46w (all_cons okf40s all_nil)))))) all_nil) h9 (d := 0) (n0 := 0) (S := lsOf []) Try.func9 (by kernel_rfl) (c := c9) (by kernel_rfl) rfl (no_loops (by kernel_rfl)) (by omega) (by kernel_rfl) ?_
 intro x'' y'' q'' hq''
 obtain ⟨(s : List UInt8), _⟩ := x''
 exact (fn9 s).trans hq''
theorem smM_of {m : MGt} (h : (mQ m).length ≤ 1000000 ∧ (mAn m).length ≤ 1000000 ∧ (mNs m).length ≤ 1000000 ∧ (mAr m).length ≤ 1000000) : smM m = true := by
 obtain ⟨h1, h2, h3, h4⟩ := h
 unfold smM
 rw [Nat.ble_eq_true_of_le h1, Nat.ble_eq_true_of_le h2, Nat.ble_eq_true_of_le h3, Nat.ble_eq_true_of_le h4]; rfl
theorem same_self (m : MGt) : sameM m m = true := decide_eq_true rfl
theorem tkF_len {α : Type} {f : Int → Option (α × Int)} : ∀ (n : Nat) (a : Int), (tkF f n a).1.length ≤ n
 | 0, a => Nat.le_refl _
 | n + 1, a => by
   cases ht : f a with
   | none => rw [tkF_stop ht]; simp
   | some p =>
     obtain ⟨x, e⟩ := p
     rw [tkF_step ht, List.length_cons]
     have := tkF_len (f := f) n e
     omega
theorem k3_len (s : List UInt8) (c1 c2 c3 a : Int) (h : (c1 ≤ 65535 ∧ c2 ≤ 65535) ∧ c3 ≤ 65535) : (k3 s c1 c2 c3 a).1.1.length ≤ 65535 ∧ (k3 s c1 c2 c3 a).1.2.1.length ≤ 65535 ∧ (k3 s c1 c2 c3 a).1.2.2.length ≤ 65535 := by
 unfold k3
 have h1 : ∀ c a, c ≤ 65535 → (kR s c a).1.length ≤ 65535 := fun c a hc => by have := tkF_len (f := tkR s) c.toNat a; show (tkF (tkR s) c.toNat a).1.length ≤ _; omega
 cases (kR s c1 a).2.2
 · exact ⟨h1 _ _ h.1.1, by simp, by simp⟩
 · cases (kR s c2 (kR s c1 a).2.1).2.2
   · exact ⟨h1 _ _ h.1.1, h1 _ _ h.1.2, by simp⟩
   · exact ⟨h1 _ _ h.1.1, h1 _ _ h.1.2, h1 _ _ h.2⟩
theorem take_sm (s : List UInt8) : smM (tkV6 s).1 = true := by
 unfold tkV6
 cases isM s
 · rfl
 · have m4 := n16_le s 4
   obtain ⟨h1, h2, h3⟩ := k3_len s (n16 s 6) (n16 s 8) (n16 s 10) (tkqV s).2.1 ⟨⟨(n16_le s 6).2, (n16_le s 8).2⟩, (n16_le s 10).2⟩
   have h0 : (tkqV s).1.length ≤ 65535 := by have := tkF_len (f := tkQ s) (n16 s 4).toNat 12; show (tkF (tkQ s) (n16 s 4).toNat 12).1.length ≤ _; omega
   exact smM_of ⟨by show (tkqV s).1.length ≤ _; omega, by show (tkrV s).1.1.length ≤ _; unfold tkrV; omega, by show (tkrV s).1.2.1.length ≤ _; unfold tkrV; omega, by show (tkrV s).1.2.2.length ≤ _; unfold tkrV; omega⟩
theorem messageTakes_all (s : List UInt8) : (t9 s).all fun r => r = ([.bool true], []) := by
 unfold t9
 refine Tr.all_br (fun _ => Tr.all_ret rfl) fun h => ?_
 have h := of_decide_eq_false h
 have hs : smS s = true := by unfold smS; exact decide_eq_true (by omega)
 have hl : decide (s.length ≤ 100000000) = true := dec_true (by omega)
 have hh : smM (hdV s).1 = true := by unfold hdV; cases decide ((s.length : Int) < 12) <;> rfl
 refine Tr.all_t hs (Tr.all_t hs (Tr.all_t hl (Tr.all_t hl (Tr.all_t (take_sm s) (Tr.all_t (same_self _) (Tr.all_t (beq_self_eq_true _) (Tr.all_t hh (Tr.all_t (same_self _) (Tr.all_ret ?_)))))))))
 rw [beq_self_eq_true]
theorem sem9 (s : List UInt8) : SemF Try.prog 9 [.str s] [] [.bool true] [] :=
 ok9 (s, ()) () ([.bool true], []) (Tr.get_of_all (messageTakes_all s))
end Go.Proofs.YtlkpiegllammdaaE
namespace Go.Proofs.Ytlkpiegllammdaa.messageTakes
open Go.ChangeShapes Go.WideShapes Go.ChangeAt Go.RowKit Go.Proofs.YtlkpiegllammdaaE
open Go.ChangeMaps (open_string shut_string)
set_option linter.unusedVariables false
theorem own : ownKnob Try.prog.godebug = none := by kernel_rfl
theorem laidOut : laidOutB Try.prog = true := by kernel_rfl
set_option maxRecDepth 100000 in
theorem lifted (os : Os) (started : os.Started) (H : Type) (enc : TypeId × Value → H) :
    ReturnsInHanded {} Try.checked os 9 .any (Rows.messageTakesSpec.pre6 enc Try.prog Try.f9 Rows.messageTakesRow.domain false) (Rows.messageTakesSpec.post enc Try.prog Try.f9 false true false false) := by
  refine returnsInHanded_of_change_sized (C := Try.checked) own started (by kernel_rfl) Try.func9
    (ChangeSpec.witness6 (enc := enc) (C := Try.checked) false ⟨#[], #[.string ByteArray.empty], []⟩ 8 (by kernel_rfl) (by kernel_rfl) (by kernel_rfl) (by kernel_rfl)) ?_
  intro W base args ds gs before hval0 hW hcnd hsz0 _
  have hsz : ∀ n ∈ DataW.weightsEach Try.prog (Try.f9.params.toList ++ Rows.messageTakesSpec.plain.varTypes Try.prog) (ds ++ gs), n ≤ reachBytes := fun n hn => of_decide_eq_true (List.all_eq_true.1 hsz0 n hn)
  have hval : ∀ (j : Nat) t v, Try.f9.params[j]? = some t → args[j]? = some v → Value.okWide Try.prog W .any base t v := hval0
  have hW' := hW
  obtain ⟨p, q, hA0, hV, rfl, hfz, hnd⟩ := hW
  have hA : DataW.TrodAll enc Try.prog W 0 (fun _ => true) true Try.f9.params.toList args.toList ds p := hA0
  rw [Try.params9] at hA hval hsz
  obtain ⟨v0, vs0, d0, ds0, p0, q0, hargs, rfl, rfl, k0, r0⟩ := trodAll_cons hA
  obtain ⟨rfl, rfl, rfl⟩ := trodAll_nil r0
  obtain rfl : args = #[v0] := by cases args; simp_all
  obtain ⟨rfl, rfl⟩ := trodVars_none hV
  have lt0 : ∀ x ∈ p0, x.block < W.heap.size := by obtain ⟨m, hm⟩ := k0; exact DataW.trod_lt m _ _ _ hm
  obtain ⟨x0, e0, w0, b0⟩ := arg_told (n := 8) (τ := .str) (agg := false) (by kernel_rfl) (hval 0 9 v0 rfl rfl) k0 (fun n hn => hsz n (DataW.weights_mem_each (j := 0) (t := 9) rfl rfl n hn)) (by kernel_rfl)
  clear hA0 hval0 hsz0 hsz
  refine (law_calls ((fun x0 w0 => sem9 x0) x0 w0) W (vs := [v0]) ?_).mono fun e W' ⟨he, bel⟩ => ?_
  · simp only [VRelL]
    exact ⟨_, _, rfl, e0, rfl⟩
  subst he
  exact ⟨_, rfl, _, _, _, [], _, [], hW', trodAll_mk1 (shut_bool Try.underlying4 _), (trodAll_cons_mk (Below.trod laidOut (by kernel_rfl) (of_decide_eq_true (by kernel_rfl)) k0 bel lt0) trodAll_mk0), rfl, bel.frame _, fun h => by cases h⟩
theorem over : Rows.messageTakesRow.holds Try.pinned (OpenSpec.ofChange Rows.messageTakesSpec) :=
  OpenClaim.holds_of_wide 9 Try.f9 rfl rfl rfl rfl rfl rfl rfl ⟨rfl, rfl, rfl, rfl, rfl⟩ rfl rfl rfl rfl rfl (by kernel_rfl) Try.func9 (by kernel_rfl)
    (of_decide_eq_true (by kernel_rfl)) (by unfold Func.isWrapper; first | (rw [if_pos (by decide +kernel)]; kernel_rfl) | (rw [if_neg (by decide +kernel)]; exact ⟨rfl, rfl⟩))
    (fun os started H enc _ => lifted os started H enc)
theorem proved : Rows.MessageTakesSaid := over
end Go.Proofs.Ytlkpiegllammdaa.messageTakes
namespace Go.Proofs.Ytlkpiegllammdaa
/-- The row, under a short name, for the claim. -/
theorem messageTakes_holds : Rows.MessageTakesSaid := messageTakes.proved
#print axioms messageTakes_holds
end Go.Proofs.Ytlkpiegllammdaa
