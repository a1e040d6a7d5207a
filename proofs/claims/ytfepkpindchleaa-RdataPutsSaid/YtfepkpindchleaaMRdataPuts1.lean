import Derived.Test.YtfepkpindchleaaME3
import Derived.RangeFuncBox
import Derived.RangeFuncLeaves
import Derived.RangeFuncNested
import Derived.RangeFuncBound
import Derived.RangeFuncCalls
import Derived.Shelf.Abstract
import Derived.Shelf.RegionOpen
import Derived.WalkKit
import Derived.OwnWalkIn
import Derived.TacticsInMore
import Derived.LoopNIn
import Derived.LoopIn
import Derived.Maps.AppendAt
import Derived.Shelf.RegionOpenPlain
import Derived.Lib.Strings
import Derived.Lib.Slices
import Derived.Lib.Walk
import Derived.Lib.Builder
import Derived.Lib.UnsafeStr
import Derived.Laws.Externs
/- octets; small letters. -/
namespace Go.Proofs.YtfepkpindchleaaE
open Go
set_option linter.unusedVariables false
set_option linter.unusedSimpArgs false
/-- octet.Some -/
def t48 (s : List UInt8) (at_ : Int) (many : Int) : Tr Res := Tr.br (decide (at_ < (0 : Int))) (Tr.ret ([AV.str [], AV.int IntKind.i64 (0 : Int), AV.int IntKind.i64 (2 : Int)], [])) (Tr.br (decide (many < (0 : Int))) (Tr.ret ([AV.str [], AV.int IntKind.i64 (0 : Int), AV.int IntKind.i64 (2 : Int)], [])) (Tr.br (decide (at_ > (↑(List.length s) : Int))) (Tr.ret ([AV.str [], AV.int IntKind.i64 (0 : Int), AV.int IntKind.i64 (2 : Int)], [])) (Tr.br (decide (many > IntKind.wrap IntKind.i64 ((↑(List.length s) : Int) - at_))) (Tr.ret ([AV.str [], AV.int IntKind.i64 (0 : Int), AV.int IntKind.i64 (2 : Int)], [])) (Tr.br (decide ((0 : Int) ≤ IntKind.wrap IntKind.i64 (at_ + many)) && decide (IntKind.wrap IntKind.i64 (at_ + many) ≤ (↑(List.length s) : Int))) (Tr.br (decide ((0 : Int) ≤ at_) && decide (at_ ≤ IntKind.wrap IntKind.i64 (at_ + many))) (Tr.ret ([AV.str (List.take (Int.toNat (IntKind.wrap IntKind.i64 (at_ + many)) - Int.toNat at_) (List.drop (Int.toNat at_) s)), AV.int IntKind.i64 (IntKind.wrap IntKind.i64 (at_ + many)), AV.int IntKind.i64 (0 : Int)], [])) Tr.no) Tr.no))))
def os48 : OSpec := { f := 48, sh := [.d .str false, .d (.int .i64) false, .d (.int .i64) false], so := [], F := fun (s, at_, many, _) _ => t48 s at_ many }
set_option maxRecDepth 1000000 in
theorem fn48 (s : List UInt8) (at_ : Int) (many : Int) : evC T0 (orcB [] []) (lpOf h48 0 (lsOf [])) c48 1000000 (startSt [.str s, .int .i64 at_, .int .i64 many] [] Try.f48.ntmps) (finishK T0 false 0 Try.f48) = (t48 s at_ many).get := by kernel_rfl
theorem ok48 : os48.Ok Try.prog := by
  refine os_ok mixed0 tab0 (orcB_sound all_nil all_nil) h48 (d := 0) (n0 := 0) (S := lsOf []) Try.func48 (by kernel_rfl) (c := c48) (by kernel_rfl) rfl (no_loops (by kernel_rfl)) (by omega) (by kernel_rfl) ?_
  intro x'' y'' q'' hq''
  obtain ⟨(s : List UInt8), (at_ : Int), (many : Int), _⟩ := x''
  exact (fn48 s at_ many).trans hq''
def fs48 : FSpec := fsT 48 [(.str, false), ((.int .i64), false), ((.int .i64), false)] [(.str, false), ((.int .i64), false), ((.int .i64), false)] fun (s, at_, many, _) => t48 s at_ many
theorem okf48 : fs48.Ok Try.prog := fsT_ok fun x'' r'' hr'' => ok48 x'' () r'' hr''
/-- derrickref01.there -/
def t70 (s : List UInt8) (at_ : Int) (many : Int) : Tr Res := Tr.br (decide (at_ ≥ (0 : Int))) (Tr.br (decide (at_ ≤ (↑(List.length s) : Int))) (Tr.br (decide (many ≥ (0 : Int))) (Tr.br (decide (many ≤ (↑(List.length s) : Int))) (Tr.ret ([AV.bool (decide (IntKind.wrap IntKind.i64 (at_ + many) ≤ (↑(List.length s) : Int)))], [])) (Tr.ret ([AV.bool false], []))) (Tr.ret ([AV.bool false], []))) (Tr.ret ([AV.bool false], []))) (Tr.ret ([AV.bool false], []))
def os70 : OSpec := { f := 70, sh := [.d .str false, .d (.int .i64) false, .d (.int .i64) false], so := [], F := fun (s, at_, many, _) _ => t70 s at_ many }
set_option maxRecDepth 1000000 in
theorem fn70 (s : List UInt8) (at_ : Int) (many : Int) : evC T0 (orcB [] []) (lpOf h70 0 (lsOf [])) c70 1000000 (startSt [.str s, .int .i64 at_, .int .i64 many] [] Try.f70.ntmps) (finishK T0 false 0 Try.f70) = (t70 s at_ many).get := by kernel_rfl
theorem ok70 : os70.Ok Try.prog := by
  refine os_ok mixed0 tab0 (orcB_sound all_nil all_nil) h70 (d := 0) (n0 := 0) (S := lsOf []) Try.func70 (by kernel_rfl) (c := c70) (by kernel_rfl) rfl (no_loops (by kernel_rfl)) (by omega) (by kernel_rfl) ?_
  intro x'' y'' q'' hq''
  obtain ⟨(s : List UInt8), (at_ : Int), (many : Int), _⟩ := x''
  exact (fn70 s at_ many).trans hq''
def fs70 : FSpec := fsT 70 [(.str, false), ((.int .i64), false), ((.int .i64), false)] [(.bool, false)] fun (s, at_, many, _) => t70 s at_ many
theorem okf70 : fs70.Ok Try.prog := fsT_ok fun x'' r'' hr'' => ok70 x'' () r'' hr''
/-- derrickref02.low -/
def t71 (c : Int) : Tr Res := Tr.br (decide (c ≥ (65 : Int))) (Tr.br (decide (c ≤ (90 : Int))) (Tr.ret ([AV.int IntKind.u8 (IntKind.wrap IntKind.u8 (c + (32 : Int)))], [])) (Tr.ret ([AV.int IntKind.u8 c], []))) (Tr.ret ([AV.int IntKind.u8 c], []))
def os71 : OSpec := { f := 71, sh := [.d (.int .u8) false], so := [], F := fun (c, _) _ => t71 c }
set_option maxRecDepth 1000000 in
theorem fn71 (c : Int) : evC T0 (orcB [] []) (lpOf h71 0 (lsOf [])) c71 1000000 (startSt [.int .u8 c] [] Try.f71.ntmps) (finishK T0 false 0 Try.f71) = (t71 c).get := by kernel_rfl
theorem ok71 : os71.Ok Try.prog := by
  refine os_ok mixed0 tab0 (orcB_sound all_nil all_nil) h71 (d := 0) (n0 := 0) (S := lsOf []) Try.func71 (by kernel_rfl) (c := c71) (by kernel_rfl) rfl (no_loops (by kernel_rfl)) (by omega) (by kernel_rfl) ?_
  intro x'' y'' q'' hq''
  obtain ⟨(c : Int), _⟩ := x''
  exact (fn71 c).trans hq''
def fs71 : FSpec := fsT 71 [((.int .u8), false)] [((.int .u8), false)] fun (c, _) => t71 c
theorem okf71 : fs71.Ok Try.prog := fsT_ok fun x'' r'' hr'' => ok71 x'' () r'' hr''
/-- derrickref01.Put16 -/
def t45 (n : Int) : Tr Res := Tr.ret ([AV.str [UInt8.ofNat (Int.toNat (IntKind.wrap IntKind.u8 (IntKind.wrap IntKind.u16 (Int.tdiv n (256 : Int))))), UInt8.ofNat (Int.toNat (IntKind.wrap IntKind.u8 (Int.tmod n (256 : Int))))]], [])
def os45 : OSpec := { f := 45, sh := [.d (.int .u16) false], so := [], F := fun (n, _) _ => t45 n }
set_option maxRecDepth 1000000 in
theorem fn45 (n : Int) : evC T0 (orcB [] []) (lpOf h45 0 (lsOf [])) c45 1000000 (startSt [.int .u16 n] [] Try.f45.ntmps) (finishK T0 false 0 Try.f45) = (t45 n).get := by kernel_rfl
theorem ok45 : os45.Ok Try.prog := by
  refine os_ok mixed0 tab0 (orcB_sound all_nil all_nil) h45 (d := 0) (n0 := 0) (S := lsOf []) Try.func45 (by kernel_rfl) (c := c45) (by kernel_rfl) rfl (no_loops (by kernel_rfl)) (by omega) (by kernel_rfl) ?_
  intro x'' y'' q'' hq''
  obtain ⟨(n : Int), _⟩ := x''
  exact (fn45 n).trans hq''
def fs45 : FSpec := fsT 45 [((.int .u16), false)] [(.str, false)] fun (n, _) => t45 n
theorem okf45 : fs45.Ok Try.prog := fsT_ok fun x'' r'' hr'' => ok45 x'' () r'' hr''
/-- derrickref01.U16 -/
def t56 (s : List UInt8) (at_ : Int) : Tr Res := Tr.br (decide (at_ ≥ (0 : Int))) (Tr.br (decide (at_ ≤ (↑(List.length s) : Int))) (Tr.br (decide ((2 : Int) ≤ (↑(List.length s) : Int))) (Tr.br (!decide (IntKind.wrap IntKind.i64 (at_ + (2 : Int)) ≤ (↑(List.length s) : Int))) (Tr.ret ([AV.int IntKind.u16 (0 : Int), AV.int IntKind.i64 (0 : Int), AV.int IntKind.i64 (2 : Int)], [])) (Tr.br (decide ((0 : Int) ≤ at_)) (Tr.br (decide (at_ < (↑(List.length s) : Int))) (Tr.br (decide ((0 : Int) ≤ IntKind.wrap IntKind.i64 (at_ + (1 : Int)))) (Tr.br (decide (IntKind.wrap IntKind.i64 (at_ + (1 : Int)) < (↑(List.length s) : Int))) (Tr.ret ([AV.int IntKind.u16 (IntKind.wrap IntKind.u16 (IntKind.wrap IntKind.u16 ((256 : Int) * IntKind.wrap IntKind.u16 (↑(UInt8.toNat (List.getD s (Int.toNat at_) 0)) : Int)) + IntKind.wrap IntKind.u16 (↑(UInt8.toNat (List.getD s (Int.toNat (IntKind.wrap IntKind.i64 (at_ + (1 : Int)))) 0)) : Int))), AV.int IntKind.i64 (IntKind.wrap IntKind.i64 (at_ + (2 : Int))), AV.int IntKind.i64 (0 : Int)], [])) Tr.no) Tr.no) Tr.no) Tr.no)) (Tr.ret ([AV.int IntKind.u16 (0 : Int), AV.int IntKind.i64 (0 : Int), AV.int IntKind.i64 (2 : Int)], []))) (Tr.ret ([AV.int IntKind.u16 (0 : Int), AV.int IntKind.i64 (0 : Int), AV.int IntKind.i64 (2 : Int)], []))) (Tr.ret ([AV.int IntKind.u16 (0 : Int), AV.int IntKind.i64 (0 : Int), AV.int IntKind.i64 (2 : Int)], []))
def os56 : OSpec := { f := 56, sh := [.d .str false, .d (.int .i64) false], so := [], F := fun (s, at_, _) _ => t56 s at_ }
set_option maxRecDepth 1000000 in
theorem fn56 (s : List UInt8) (at_ : Int) : evC T0 (orcB [fs70] []) (lpOf h56 0 (lsOf [])) c56 1000000 (startSt [.str s, .int .i64 at_] [] Try.f56.ntmps) (finishK T0 false 0 Try.f56) = (t56 s at_).get := by kernel_rfl
theorem ok56 : os56.Ok Try.prog := by
  refine os_ok mixed0 tab0 (orcB_sound (all_cons okf70 all_nil) all_nil) h56 (d := 0) (n0 := 0) (S := lsOf []) Try.func56 (by kernel_rfl) (c := c56) (by kernel_rfl) rfl (no_loops (by kernel_rfl)) (by omega) (by kernel_rfl) ?_
  intro x'' y'' q'' hq''
  obtain ⟨(s : List UInt8), (at_ : Int), _⟩ := x''
  exact (fn56 s at_).trans hq''
def fs56 : FSpec := fsT 56 [(.str, false), ((.int .i64), false)] [((.int .u16), false), ((.int .i64), false), ((.int .i64), false)] fun (s, at_, _) => t56 s at_
theorem okf56 : fs56.Ok Try.prog := fsT_ok fun x'' r'' hr'' => ok56 x'' () r'' hr''
/-! ### Small letters -/
def lowI (c : Int) : Int := bif decide (c ≥ 65) && decide (c ≤ 90) then c + 32 else c
def lowB (c : UInt8) : UInt8 := bif decide (c.toNat ≥ 65) && decide (c.toNat ≤ 90) then UInt8.ofNat (c.toNat + 32) else c
def foldB (s : List UInt8) : List UInt8 := s.map lowB
def bytesOk (b : List Int) : Bool := b.all fun x => decide (0 ≤ x) && decide (x ≤ 255)
theorem bytesOk_get {b : List Int} (h : bytesOk b = true) (i : Nat) : 0 ≤ b.getD i 0 ∧ b.getD i 0 ≤ 255 := by
  rw [List.getD_eq_getElem?_getD]
  cases hx : b[i]? with
  | none => simp
  | some x =>
    have := List.all_eq_true.1 h x (List.mem_of_getElem? hx)
    simpa using this
theorem set_same {α : Type} (l : List α) (i : Nat) (dd : α) (h : i < l.length) : l.set i (l.getD i dd) = l := by
  rw [List.getD_eq_getElem?_getD, List.getElem?_eq_getElem h]
  exact List.set_getElem_self h
theorem wrap_u8 {n : Int} (h0 : 0 ≤ n) (h1 : n ≤ 255) : IntKind.wrap .u8 n = n := by
  rw [IntKind.wrap]
  simp [IntKind.bits, IntKind.signed]
  omega
def fdC (n i : Int) (b : List Int) : Bool := decide (i = 0) && decide (n = b.length) && bytesOk b && decide (b.length ≤ 1000000000000)
noncomputable def b52 : Code := nthLoop c52 0
def ls52 : LoopSpec := { bid := 0, sh := [.row 0, .row 0, .d (.int .i64) false, .d (.int .i64) false], so := [.row (.int .u8)], F := fun (n, i, _) (b, _) => .on (fdC n i b) (.exit 0, [.rowA 0], [.row (.int .u8) (b.map lowI)]) }
def r52 (n : Int) (i : Int) (b : List Int) : Tr (St ⊕ (Ex × St)) := Tr.br (decide (i < n)) (Tr.br (decide ((0 : Int) ≤ i)) (Tr.br (decide (i < (↑(List.length b) : Int))) (Tr.br (decide (List.getD b (Int.toNat i) (Ty.dflt (Ty.int IntKind.u8)) ≥ (65 : Int))) (Tr.br (decide (List.getD b (Int.toNat i) (Ty.dflt (Ty.int IntKind.u8)) ≤ (90 : Int))) (Tr.br (decide ((0 : Int) ≤ i)) (Tr.br (decide (i < (↑(List.length b) : Int))) (Tr.ret (Sum.inl (stOf [3, 8, 9, 10] [AV.rowA 0, AV.rowA 0, AV.int IntKind.i64 n, AV.int IntKind.i64 (IntKind.wrap IntKind.i64 (i + (1 : Int)))] [LObj.row (Ty.int IntKind.u8) (List.set b (Int.toNat i) (IntKind.wrap IntKind.u8 (List.getD b (Int.toNat i) (Ty.dflt (Ty.int IntKind.u8)) + (32 : Int))))]))) Tr.no) Tr.no) (Tr.ret (Sum.inl (stOf [3, 8, 9, 10] [AV.rowA 0, AV.rowA 0, AV.int IntKind.i64 n, AV.int IntKind.i64 (IntKind.wrap IntKind.i64 (i + (1 : Int)))] [LObj.row (Ty.int IntKind.u8) b])))) (Tr.ret (Sum.inl (stOf [3, 8, 9, 10] [AV.rowA 0, AV.rowA 0, AV.int IntKind.i64 n, AV.int IntKind.i64 (IntKind.wrap IntKind.i64 (i + (1 : Int)))] [LObj.row (Ty.int IntKind.u8) b])))) Tr.no) Tr.no) (Tr.ret (Sum.inr (Ex.exit 0, stOf [3] [AV.rowA 0] [LObj.row (Ty.int IntKind.u8) b])))
set_option maxRecDepth 1000000 in
theorem round52 (orc : Orc) (lp : Lp) (n : Int) (i : Int) (b : List Int) : evC T0 orc lp b52 0 (stOf [3, 8, 9, 10] [.rowA 0, .rowA 0, .int .i64 n, .int .i64 i] [.row (.int .u8) b]) (roundK [3, 8, 9, 10] [3] 0) = (r52 n i b).get := by kernel_rfl
theorem wf52 (orc : Orc) (n : Int) (I'' : Int → List Int → Prop) (m'' : Int → List Int → Nat) (r'' : Ex × St) (h : ∀ (i : Int) (b : List Int), I'' i b → (r52 n i b).all fun x'' => x'' = .inr r'' ∨ ∃ (i' : Int) (b' : List Int), x'' = .inl (stOf [3, 8, 9, 10] [.rowA 0, .rowA 0, .int .i64 n, .int .i64 i'] [.row (.int .u8) b']) ∧ I'' i' b' ∧ m'' i' b' < m'' i b) (lp : Lp) (i : Int) (b : List Int) : I'' i b →
    loopF (fun st => evC T0 orc lp b52 0 st (roundK [3, 8, 9, 10] [3] 0)) (stOf [3, 8, 9, 10] [.rowA 0, .rowA 0, .int .i64 n, .int .i64 i] [.row (.int .u8) b]) = some r'' :=
  loop_tr (fun a'' : Int × List Int => stOf [3, 8, 9, 10] [.rowA 0, .rowA 0, .int .i64 n, .int .i64 a''.1] [.row (.int .u8) a''.2]) (fun a'' => I'' a''.1 a''.2) (fun a'' => m'' a''.1 a''.2) r'' (fun a'' => r52 n a''.1 a''.2)
    (fun a'' x hx => (round52 orc lp n a''.1 a''.2).trans hx) (fun a'' ha => Tr.all_mono (fun x'' hx => hx.imp id fun ⟨i', b', h1, h2, h3⟩ => ⟨(i', b'), h1, h2, h3⟩) (h (a''.1) (a''.2) ha)) (i, b)
def fdI (b0 : List Int) (i : Int) (b : List Int) : Prop := 0 ≤ i ∧ i ≤ b0.length ∧ b = (b0.take i.toNat).map lowI ++ b0.drop i.toNat
theorem fd_step {b0 : List Int} {i : Nat} (hi : i < b0.length) : ((b0.take i).map lowI ++ b0.drop i).set i (lowI (b0.getD i 0)) = (b0.take (i + 1)).map lowI ++ b0.drop (i + 1) := by
  have hl : ((b0.take i).map lowI).length = i := by simp; omega
  rw [List.set_append_right _ _ (by omega), hl, Nat.sub_self, drop_get b0 i 0 hi, List.set_cons_zero, List.take_add_one, List.map_append, List.append_assoc]
  rw [List.getD_eq_getElem?_getD, List.getElem?_eq_getElem hi]
  rfl
theorem fd_get {b0 : List Int} {i : Nat} (hi : i < b0.length) (dd : Int) : ((b0.take i).map lowI ++ b0.drop i).getD i dd = b0.getD i 0 := by
  have hl : ((b0.take i).map lowI).length = i := by simp; omega
  rw [List.getD_eq_getElem?_getD, List.getElem?_append_right (by omega), hl, Nat.sub_self, List.getElem?_drop, List.getD_eq_getElem?_getD, Nat.add_zero, List.getElem?_eq_getElem hi]
  rfl
theorem loop52 (orc : Orc) : ls52.Ok T0 orc h52 0 0 b52 := by
  intro q'' hq'' x'' y'' r'' h
  obtain ⟨(n : Int), (i : Int), _⟩ := x''
  obtain ⟨(b : List Int), _⟩ := y''
  obtain ⟨hc, rfl⟩ := Tr.get_on h
  show loopF (fun st => evC T0 orc (lpN T0 orc h52 0 q'') b52 0 st (roundK [3, 8, 9, 10] [3] 0)) (stOf [3, 8, 9, 10] [.rowA 0, .rowA 0, .int .i64 n, .int .i64 i] [.row (.int .u8) b]) = some (.exit 0, stOf [3] ([.rowA 0]) ([.row (.int .u8) (b.map lowI)]))
  simp only [fdC, Bool.and_eq_true, decide_eq_true_eq] at hc
  obtain ⟨⟨⟨rfl, rfl⟩, hok⟩, hb⟩ := hc
  refine wf52 _ b.length (fdI b) (fun i _ => (b.length - i).toNat) _ ?_ _ 0 b ⟨by omega, by omega, by simp⟩
  rintro i c ⟨h0, h1, rfl⟩
  unfold r52
  by_cases hlt : i < b.length
  · have hn : i.toNat < b.length := by omega
    have hlen : (i : Int) < (((b.take i.toNat).map lowI ++ b.drop i.toNat).length : Int) := by simp; omega
    have e1 : (i + 1).toNat = i.toNat + 1 := by omega
    obtain ⟨g0, g1⟩ := bytesOk_get hok i.toNat
    rw [fd_get hn]
    refine Tr.all_t (dec_true hlt) (Tr.all_t (dec_true h0) (Tr.all_t (dec_true hlen) ?_))
    have hsame : lowI (b.getD i.toNat 0) = b.getD i.toNat 0 → (b.take i.toNat).map lowI ++ b.drop i.toNat = (b.take (i.toNat + 1)).map lowI ++ b.drop (i.toNat + 1) := fun h => by
      rw [← fd_step hn, h, ← fd_get hn 0]
      exact (set_same _ _ _ (by simp; omega)).symm
    refine Tr.all_br (fun c1 => Tr.all_br (fun c2 => ?_) fun c2 => ?_) fun c1 => ?_
    · refine Tr.all_t (dec_true h0) (Tr.all_t (dec_true hlen) (Tr.all_ret (.inr ⟨_, _, rfl, ?_, ?_⟩)))
      · have q1 := of_decide_eq_true c1
        have q2 := of_decide_eq_true c2
        simp (disch := omega) only [IntWalk.i64_in, wrap_u8]
        refine ⟨by omega, by omega, ?_⟩
        rw [e1, ← fd_step hn]
        congr 1
        unfold lowI
        rw [c1, c2]
        rfl
      · simp (disch := omega) only [IntWalk.i64_in]
        omega
    · refine Tr.all_ret (.inr ⟨_, _, rfl, ?_, ?_⟩)
      · simp (disch := omega) only [IntWalk.i64_in]
        refine ⟨by omega, by omega, ?_⟩
        rw [e1]
        refine hsame ?_
        simp only [lowI, c2, Bool.and_false, cond_false]
      · simp (disch := omega) only [IntWalk.i64_in]
        omega
    · refine Tr.all_ret (.inr ⟨_, _, rfl, ?_, ?_⟩)
      · simp (disch := omega) only [IntWalk.i64_in]
        refine ⟨by omega, by omega, ?_⟩
        rw [e1]
        refine hsame ?_
        simp only [lowI, c1, Bool.false_and, cond_false]
      · simp (disch := omega) only [IntWalk.i64_in]
        omega
  · refine Tr.all_f (dec_false hlt) (Tr.all_ret (.inl ?_))
    rw [List.take_of_length_le (by omega), List.drop_of_length_le (by omega), List.append_nil]
/-- name.Fold -/
def t52 (s : List UInt8) : Tr Res := Tr.br (fits (List.length s) 1) (Tr.br (fdC (↑(List.length (bytesInt s)) : Int) (0 : Int) (bytesInt s)) (Tr.ret ([AV.str (intBytes (List.map lowI (bytesInt s)))], [])) Tr.no) Tr.no
def os52 : OSpec := { f := 52, sh := [.d .str false], so := [], F := fun (s, _) _ => t52 s }
set_option maxRecDepth 1000000 in
theorem fn52 (s : List UInt8) : evC T0 (orcB [] []) (lpOf h52 0 (lsOf [ls52])) c52 1000000 (startSt [.str s] [] Try.f52.ntmps) (finishK T0 false 0 Try.f52) = (t52 s).get := by kernel_rfl
theorem ok52 : os52.Ok Try.prog := by
  refine os_ok mixed0 tab0 (orcB_sound all_nil all_nil) h52 (d := 0) (n0 := 0) (S := lsOf [ls52]) Try.func52 (by kernel_rfl) (c := c52) (by kernel_rfl) rfl (loops_eq (xs := [(0, b52)]) (by kernel_rfl) (all_cons (ls_here (loop52 _)) all_nil)) (by omega) (by kernel_rfl) ?_
  intro x'' y'' q'' hq''
  obtain ⟨(s : List UInt8), _⟩ := x''
  exact (fn52 s).trans hq''
def fs52 : FSpec := fsT 52 [(.str, false)] [(.str, false)] fun (s, _) => t52 s
theorem okf52 : fs52.Ok Try.prog := fsT_ok fun x'' r'' hr'' => ok52 x'' () r'' hr''
def rfC (i : Int) (s : List UInt8) (b : List Int) : Bool := decide (i = 0) && b.isEmpty && decide (s.length ≤ 1000000000000)
noncomputable def b57 : Code := nthLoop c57 0
def ls57 : LoopSpec := { bid := 0, sh := [.d .str false, .row 0, .d (.int .i64) false], so := [.row (.int .u8)], F := fun (s, i, _) (b, _) => .on (rfC i s b) (.exit 0, [.rowA 0], [.row (.int .u8) ((bytesInt s).map lowI)]) }
def r57 (s : List UInt8) (i : Int) (b : List Int) : Tr (St ⊕ (Ex × St)) := Tr.br (decide (i < (↑(List.length s) : Int))) (Tr.br (decide ((0 : Int) ≤ i)) (Tr.br (decide (i < (↑(List.length s) : Int))) (Tr.br (decide ((↑(UInt8.toNat (List.getD s (Int.toNat i) 0)) : Int) ≥ (65 : Int))) (Tr.br (decide ((↑(UInt8.toNat (List.getD s (Int.toNat i) 0)) : Int) ≤ (90 : Int))) (Tr.br (fits (List.length b + 1) 1) (Tr.ret (Sum.inl (stOf [0, 3, 4] [AV.str s, AV.rowA 0, AV.int IntKind.i64 (IntKind.wrap IntKind.i64 (i + (1 : Int)))] [LObj.row (Ty.int IntKind.u8) (b ++ [IntKind.wrap IntKind.u8 ((↑(UInt8.toNat (List.getD s (Int.toNat i) 0)) : Int) + (32 : Int))])]))) Tr.no) (Tr.br (fits (List.length b + 1) 1) (Tr.ret (Sum.inl (stOf [0, 3, 4] [AV.str s, AV.rowA 0, AV.int IntKind.i64 (IntKind.wrap IntKind.i64 (i + (1 : Int)))] [LObj.row (Ty.int IntKind.u8) (b ++ [(↑(UInt8.toNat (List.getD s (Int.toNat i) 0)) : Int)])]))) Tr.no)) (Tr.br (fits (List.length b + 1) 1) (Tr.ret (Sum.inl (stOf [0, 3, 4] [AV.str s, AV.rowA 0, AV.int IntKind.i64 (IntKind.wrap IntKind.i64 (i + (1 : Int)))] [LObj.row (Ty.int IntKind.u8) (b ++ [(↑(UInt8.toNat (List.getD s (Int.toNat i) 0)) : Int)])]))) Tr.no)) Tr.no) Tr.no) (Tr.ret (Sum.inr (Ex.exit 0, stOf [3] [AV.rowA 0] [LObj.row (Ty.int IntKind.u8) b])))
set_option maxRecDepth 1000000 in
theorem round57 (lp : Lp) (s : List UInt8) (i : Int) (b : List Int) : evC T0 (orcB [fs71] []) lp b57 0 (stOf [0, 3, 4] [.str s, .rowA 0, .int .i64 i] [.row (.int .u8) b]) (roundK [0, 3, 4] [3] 0) = (r57 s i b).get := by kernel_rfl
theorem wf57 (s : List UInt8) (I'' : Int → List Int → Prop) (m'' : Int → List Int → Nat) (r'' : Ex × St) (h : ∀ (i : Int) (b : List Int), I'' i b → (r57 s i b).all fun x'' => x'' = .inr r'' ∨ ∃ (i' : Int) (b' : List Int), x'' = .inl (stOf [0, 3, 4] [.str s, .rowA 0, .int .i64 i'] [.row (.int .u8) b']) ∧ I'' i' b' ∧ m'' i' b' < m'' i b) (lp : Lp) (i : Int) (b : List Int) : I'' i b →
    loopF (fun st => evC T0 (orcB [fs71] []) lp b57 0 st (roundK [0, 3, 4] [3] 0)) (stOf [0, 3, 4] [.str s, .rowA 0, .int .i64 i] [.row (.int .u8) b]) = some r'' :=
  loop_tr (fun a'' : Int × List Int => stOf [0, 3, 4] [.str s, .rowA 0, .int .i64 a''.1] [.row (.int .u8) a''.2]) (fun a'' => I'' a''.1 a''.2) (fun a'' => m'' a''.1 a''.2) r'' (fun a'' => r57 s a''.1 a''.2)
    (fun a'' x hx => (round57 lp s a''.1 a''.2).trans hx) (fun a'' ha => Tr.all_mono (fun x'' hx => hx.imp id fun ⟨i', b', h1, h2, h3⟩ => ⟨(i', b'), h1, h2, h3⟩) (h (a''.1) (a''.2) ha)) (i, b)
def rfI (s : List UInt8) (i : Int) (b : List Int) : Prop := 0 ≤ i ∧ i ≤ s.length ∧ b = (bytesInt (s.take i.toNat)).map lowI
theorem rf_step {s : List UInt8} {i : Nat} (hi : i < s.length) : (bytesInt (s.take (i + 1))).map lowI = (bytesInt (s.take i)).map lowI ++ [lowI ((s.getD i 0).toNat : Int)] := by
  rw [List.take_add_one, List.getD_eq_getElem?_getD, List.getElem?_eq_getElem hi, bytesInt, bytesInt, List.map_append, List.map_append]
  rfl
theorem byte_in (c : UInt8) : 0 ≤ (c.toNat : Int) ∧ (c.toNat : Int) ≤ 255 := by
  have := c.toNat_lt
  omega
theorem loop57 : ls57.Ok T0 (orcB [fs71] []) h57 0 0 b57 := by
  intro q'' hq'' x'' y'' r'' h
  obtain ⟨(s : List UInt8), (i : Int), _⟩ := x''
  obtain ⟨(b : List Int), _⟩ := y''
  obtain ⟨hc, rfl⟩ := Tr.get_on h
  show loopF (fun st => evC T0 (orcB [fs71] []) (lpN T0 (orcB [fs71] []) h57 0 q'') b57 0 st (roundK [0, 3, 4] [3] 0)) (stOf [0, 3, 4] [.str s, .rowA 0, .int .i64 i] [.row (.int .u8) b]) = some (.exit 0, stOf [3] ([.rowA 0]) ([.row (.int .u8) ((bytesInt s).map lowI)]))
  simp only [rfC, Bool.and_eq_true, decide_eq_true_eq, List.isEmpty_iff] at hc
  obtain ⟨⟨rfl, rfl⟩, hb⟩ := hc
  refine wf57 s (rfI s) (fun i _ => (s.length - i).toNat) _ ?_ _ 0 [] ⟨by omega, by omega, by simp [bytesInt]⟩
  rintro i b ⟨h0, h1, rfl⟩
  unfold r57
  by_cases hlt : i < s.length
  · have hn : i.toNat < s.length := by omega
    have hlen : ((bytesInt (s.take i.toNat)).map lowI).length = i.toNat := by simp [bytesInt]; omega
    have e1 : (i + 1).toNat = i.toNat + 1 := by omega
    have hf : fits (((bytesInt (s.take i.toNat)).map lowI).length + 1) 1 = true := fits_true (by omega) (by omega)
    obtain ⟨g0, g1⟩ := byte_in (s.getD i.toNat 0)
    have hst := rf_step hn
    have key : ∀ x : Int, x = lowI ((s.getD i.toNat 0).toNat : Int) → (Tr.ret (Sum.inl (stOf [0, 3, 4] [AV.str s, AV.rowA 0, AV.int IntKind.i64 (IntKind.wrap IntKind.i64 (i + (1 : Int)))] [LObj.row (Ty.int IntKind.u8) ((bytesInt (s.take i.toNat)).map lowI ++ [x])])) : Tr (St ⊕ (Ex × St))).all fun x'' => x'' = .inr (.exit 0, stOf [3] [.rowA 0] [.row (.int .u8) ((bytesInt s).map lowI)]) ∨
        ∃ (i' : Int) (b' : List Int), x'' = .inl (stOf [0, 3, 4] [.str s, .rowA 0, .int .i64 i'] [.row (.int .u8) b']) ∧ rfI s i' b' ∧ (s.length - i').toNat < (s.length - i).toNat := fun x hx => by
      refine Tr.all_ret (.inr ⟨_, _, rfl, ?_, ?_⟩)
      · simp (disch := omega) only [IntWalk.i64_in]
        exact ⟨by omega, by omega, by rw [e1, hst, hx]⟩
      · simp (disch := omega) only [IntWalk.i64_in]
        omega
    refine Tr.all_t (dec_true hlt) (Tr.all_t (dec_true h0) (Tr.all_t (dec_true hlt) (Tr.all_br (fun c1 => Tr.all_br (fun c2 => Tr.all_t hf (key _ ?_)) fun c2 => Tr.all_t hf (key _ ?_)) fun c1 => Tr.all_t hf (key _ ?_))))
    · have q2 := of_decide_eq_true c2
      rw [IntWalk.u8_in _ (by omega)]
      unfold lowI
      rw [c1, c2]
      rfl
    · unfold lowI
      rw [c1, c2]
      rfl
    · unfold lowI
      rw [c1]
      rfl
  · refine Tr.all_f (dec_false hlt) (Tr.all_ret (.inl ?_))
    rw [List.take_of_length_le (by omega)]
/-- derrickref02.Fold -/
def t57 (s : List UInt8) : Tr Res := Tr.br (rfC (0 : Int) s []) (Tr.ret ([AV.str (intBytes (List.map lowI (bytesInt s)))], [])) Tr.no
def os57 : OSpec := { f := 57, sh := [.d .str false], so := [], F := fun (s, _) _ => t57 s }
set_option maxRecDepth 1000000 in
theorem fn57 (s : List UInt8) : evC T0 (orcB [fs71] []) (lpOf h57 0 (lsOf [ls57])) c57 1000000 (startSt [.str s] [] Try.f57.ntmps) (finishK T0 false 0 Try.f57) = (t57 s).get := by kernel_rfl
theorem ok57 : os57.Ok Try.prog := by
  refine os_ok mixed0 tab0 (orcB_sound (all_cons okf71 all_nil) all_nil) h57 (d := 0) (n0 := 0) (S := lsOf [ls57]) Try.func57 (by kernel_rfl) (c := c57) (by kernel_rfl) rfl (loops_eq (xs := [(0, b57)]) (by kernel_rfl) (all_cons (ls_here loop57) all_nil)) (by omega) (by kernel_rfl) ?_
  intro x'' y'' q'' hq''
  obtain ⟨(s : List UInt8), _⟩ := x''
  exact (fn57 s).trans hq''
def fs57 : FSpec := fsT 57 [(.str, false)] [(.str, false)] fun (s, _) => t57 s
theorem okf57 : fs57.Ok Try.prog := fsT_ok fun x'' r'' hr'' => ok57 x'' () r'' hr''

theorem fold_eq (s : List UInt8) : intBytes ((bytesInt s).map lowI) = foldB s := by
  simp only [intBytes, bytesInt, foldB, List.map_map]
  refine List.map_congr_left fun c _ => ?_
  simp only [Function.comp, lowI, lowB]
  have hlt := c.toNat_lt
  by_cases h : c.toNat ≥ 65 ∧ c.toNat ≤ 90
  · rw [show (decide ((c.toNat : Int) ≥ 65) && decide ((c.toNat : Int) ≤ 90)) = true by simp; omega, show (decide (c.toNat ≥ 65) && decide (c.toNat ≤ 90)) = true by simp; omega, cond_true, cond_true]
    congr 1
  · rw [show (decide ((c.toNat : Int) ≥ 65) && decide ((c.toNat : Int) ≤ 90)) = false by simp; omega, show (decide (c.toNat ≥ 65) && decide (c.toNat ≤ 90)) = false by simp; omega, cond_false, cond_false]
    simp
def bigS (s : List UInt8) : Bool := decide (s.length ≤ 1000000000000)
theorem bytesInt_len (s : List UInt8) : (bytesInt s).length = s.length := by simp [bytesInt]
theorem bytesInt_ok (s : List UInt8) : bytesOk (bytesInt s) = true := by
  refine List.all_eq_true.2 fun x hx => ?_
  obtain ⟨c, _, rfl⟩ := List.mem_map.1 hx
  have := byte_in c
  simp only [Bool.and_eq_true, decide_eq_true_eq]
  exact this
def fs52w : FSpec := fs52.like fun (s, _) => .on (bigS s) (foldB s, ())
theorem okf52w : fs52w.Ok Try.prog := by
  refine flike_ok okf52 _ ?_
  rintro ⟨(s : List UInt8), _⟩ y h
  obtain ⟨hc, rfl⟩ := Tr.get_on h
  simp only [bigS, decide_eq_true_eq] at hc
  refine convR_of (vs := [.str (foldB s)]) rfl rfl (Tr.get_of_all ?_)
  show (t52 s).all _
  refine Tr.all_t (fits_true (by omega) (by omega)) (Tr.all_t ?_ (Tr.all_ret ?_))
  · simp only [fdC, bytesInt_len, bytesInt_ok, decide_true, Bool.true_and, Bool.and_true]
    exact dec_true hc
  · rw [fold_eq]
def fs57w : FSpec := fs57.like fun (s, _) => .on (bigS s) (foldB s, ())
theorem okf57w : fs57w.Ok Try.prog := by
  refine flike_ok okf57 _ ?_
  rintro ⟨(s : List UInt8), _⟩ y h
  obtain ⟨hc, rfl⟩ := Tr.get_on h
  simp only [bigS, decide_eq_true_eq] at hc
  refine convR_of (vs := [.str (foldB s)]) rfl rfl (Tr.get_of_all ?_)
  show (t57 s).all _
  refine Tr.all_t ?_ (Tr.all_ret ?_)
  · simp only [rfC, List.isEmpty_nil, decide_true, Bool.true_and]
    exact dec_true hc
  · rw [fold_eq]
end Go.Proofs.YtfepkpindchleaaE

/- octets. -/
namespace Go.Proofs.YtfepkpindchleaaE
open Go
set_option linter.unusedVariables false
set_option linter.unusedSimpArgs false
def someB (s : List UInt8) (at_ many : Int) : Bool := decide (0 ≤ at_) && (decide (0 ≤ many) && decide (at_ + many ≤ s.length))
def someV (s : List UInt8) (at_ many : Int) : List UInt8 := (s.drop at_.toNat).take many.toNat
def fs48w : FSpec := fs48.like fun (s, at_, many, _) => .br (bigS s) (.br (someB s at_ many) (.ret (someV s at_ many, at_ + many, (0 : Int), ())) (.ret (([] : List UInt8), (0 : Int), (2 : Int), ()))) .no
theorem okf48w : fs48w.Ok Try.prog := by
  refine flike_ok okf48 _ ?_
  rintro ⟨(s : List UInt8), (at_ : Int), (many : Int), _⟩ y h
  simp only [Tr.get] at h
  cases hb : bigS s with
  | false => rw [hb] at h; cases h
  | true =>
    rw [hb, cond_true] at h
    simp only [bigS, decide_eq_true_eq] at hb
    cases hs : someB s at_ many with
    | true =>
      rw [hs, cond_true] at h
      cases h
      simp only [someB, Bool.and_eq_true, decide_eq_true_eq] at hs
      obtain ⟨h0, h1, h2⟩ := hs
      refine convR_of (vs := [.str (someV s at_ many), .int .i64 (at_ + many), .int .i64 0]) rfl rfl (Tr.get_of_all ?_)
      show (t48 s at_ many).all _
      unfold t48
      simp (disch := omega) only [IntWalk.i64_in]
      refine Tr.all_f (dec_false (by omega)) (Tr.all_f (dec_false (by omega)) (Tr.all_f (dec_false (by omega)) (Tr.all_f (dec_false (by omega)) (Tr.all_t ?_ (Tr.all_t ?_ (Tr.all_ret ?_))))))
      · rw [dec_true (by omega), dec_true (by omega)]; rfl
      · rw [dec_true (by omega), dec_true (by omega)]; rfl
      · rw [show Int.toNat (at_ + many) - Int.toNat at_ = many.toNat by omega]
        rfl
    | false =>
      rw [hs, cond_false] at h
      cases h
      refine convR_of (vs := [.str [], .int .i64 0, .int .i64 2]) rfl rfl (Tr.get_of_all ?_)
      show (t48 s at_ many).all _
      unfold t48
      have hn : ¬ (0 ≤ at_ ∧ 0 ≤ many ∧ at_ + many ≤ s.length) := fun ⟨a, b, c⟩ => by
        simp [someB, a, b, c] at hs
      refine Tr.all_br (fun _ => Tr.all_ret rfl) fun c1 => Tr.all_br (fun _ => Tr.all_ret rfl) fun c2 => Tr.all_br (fun _ => Tr.all_ret rfl) fun c3 => Tr.all_br (fun _ => Tr.all_ret rfl) fun c4 => ?_
      simp only [decide_eq_false_iff_not] at c1 c2 c3
      rw [IntWalk.i64_in _ (by omega)] at c4
      simp only [decide_eq_false_iff_not] at c4
      exact absurd ⟨by omega, by omega, by omega⟩ hn
/-- A byte more behind a number. -/
def stepN (n : Int) (c : UInt8) : Int := IntKind.wrap IntKind.u32 (↑(BitVec.toNat (BitVec.ofInt (IntKind.bits IntKind.u32) (IntKind.wrap IntKind.u32 (n * (2 : Int) ^ min (Int.toNat (8 : Int)) (IntKind.bits IntKind.u32))) ||| BitVec.ofInt (IntKind.bits IntKind.u32) (IntKind.wrap IntKind.u32 (↑(UInt8.toNat c) : Int)))) : Int)
theorem stepN_eq {n : Nat} (hn : n < 65536) (c : UInt8) : stepN n c = ((n * 256 + c.toNat : Nat) : Int) := by
  have hc := c.toNat_lt
  have e1 : ((n : Int) * (2 : Int) ^ min (Int.toNat (8 : Int)) (IntKind.bits IntKind.u32)) = ((n * 256 : Nat) : Int) := by
    simp [IntKind.bits]
  have e2 : ∀ m : Nat, m < 4294967296 → BitVec.ofInt (IntKind.bits IntKind.u32) (m : Int) = BitVec.ofNat 32 m := fun m _ => by
    simp [IntKind.bits, BitVec.ofInt_natCast]
  unfold stepN
  rw [e1, IntWalk.u32_in ((n * 256 : Nat) : Int) (by omega), IntWalk.u32_in ((c.toNat : Nat) : Int) (by omega)]
  have e3 : BitVec.toNat (BitVec.ofInt (IntKind.bits IntKind.u32) ((n * 256 : Nat) : Int) ||| BitVec.ofInt (IntKind.bits IntKind.u32) ((c.toNat : Nat) : Int)) = n * 256 + c.toNat := by
    show BitVec.toNat (BitVec.ofInt 32 ((n * 256 : Nat) : Int) ||| BitVec.ofInt 32 ((c.toNat : Nat) : Int)) = _
    rw [BitVec.ofInt_natCast, BitVec.ofInt_natCast, BitVec.toNat_or, BitVec.toNat_ofNat, BitVec.toNat_ofNat, Nat.mod_eq_of_lt (by omega), Nat.mod_eq_of_lt (by omega)]
    have := Nat.shiftLeft_add_eq_or_of_lt (a := n) (b := c.toNat) (i := 8) (by omega)
    rw [Nat.shiftLeft_eq] at this
    exact this.symm
  rw [e3, IntWalk.u32_in _ (by omega)]
def numB : List UInt8 → Int := fun b => ((b.foldl (fun n c => n * 256 + c.toNat) 0 : Nat) : Int)
def nbC (b : List UInt8) (n len i : Int) : Bool := decide (n = 0) && decide (i = 0) && decide (len = b.length) && decide (b.length ≤ 2)
def nbI (b : List UInt8) (n i : Int) : Prop := 0 ≤ i ∧ i ≤ b.length ∧ n = numB (b.take i.toNat)
theorem nb_step {b : List UInt8} {i : Nat} (hi : i < b.length) (h2 : b.length ≤ 2) : stepN (numB (b.take i)) (b.getD i 0) = numB (b.take (i + 1)) := by
  rw [List.take_add_one, List.getElem?_eq_getElem hi, List.getD_eq_getElem?_getD, List.getElem?_eq_getElem hi]
  match b, i, hi, h2 with
  | [x], 0, _, _ =>
    have := stepN_eq (n := 0) (by omega) x
    simpa [numB] using this
  | [x, y], 0, _, _ =>
    have := stepN_eq (n := 0) (by omega) x
    simpa [numB] using this
  | [x, y], 1, _, _ =>
    have hx := x.toNat_lt
    have := stepN_eq (n := x.toNat) (by omega) y
    simpa [numB] using this
  | _ :: _ :: _ :: _, _, _, h => simp at h
noncomputable def b67 : Code := nthLoop c67 0
def ls67 : LoopSpec := { bid := 0, sh := [.d .str false, .d (.int .i64) false, .d (.int .i64) false, .d (.int .u32) false, .d (.int .i64) false, .d (.int .i64) false], so := [], F := fun (b, nx, e, n, len, i, _) _ => .on (nbC b n len i) (.exit 0, [.int .i64 nx, .int .i64 e, .int .u32 (numB b)], []) }
def r67 (b : List UInt8) (nx : Int) (e : Int) (n : Int) (len : Int) (i : Int) : Tr (St ⊕ (Ex × St)) := Tr.br (decide (i < len)) (Tr.br (decide ((0 : Int) ≤ i)) (Tr.br (decide (i < (↑(List.length b) : Int))) (Tr.ret (Sum.inl (stOf [9, 10, 11, 12, 23, 24] [AV.str b, AV.int IntKind.i64 nx, AV.int IntKind.i64 e, AV.int IntKind.u32 (IntKind.wrap IntKind.u32 (↑(BitVec.toNat (BitVec.ofInt (IntKind.bits IntKind.u32) (IntKind.wrap IntKind.u32 (n * (2 : Int) ^ min (Int.toNat (8 : Int)) (IntKind.bits IntKind.u32))) ||| BitVec.ofInt (IntKind.bits IntKind.u32) (IntKind.wrap IntKind.u32 (↑(UInt8.toNat (List.getD b (Int.toNat i) 0)) : Int)))) : Int)), AV.int IntKind.i64 len, AV.int IntKind.i64 (IntKind.wrap IntKind.i64 (i + (1 : Int)))] []))) Tr.no) Tr.no) (Tr.ret (Sum.inr (Ex.exit 0, stOf [10, 11, 12] [AV.int IntKind.i64 nx, AV.int IntKind.i64 e, AV.int IntKind.u32 n] [])))
set_option maxRecDepth 1000000 in
theorem round67 (orc : Orc) (lp : Lp) (b : List UInt8) (nx : Int) (e : Int) (n : Int) (len : Int) (i : Int) : evC T0 orc lp b67 0 (stOf [9, 10, 11, 12, 23, 24] [.str b, .int .i64 nx, .int .i64 e, .int .u32 n, .int .i64 len, .int .i64 i] []) (roundK [9, 10, 11, 12, 23, 24] [10, 11, 12] 0) = (r67 b nx e n len i).get := by kernel_rfl
theorem wf67 (orc : Orc) (b : List UInt8) (nx : Int) (e : Int) (len : Int) (I'' : Int → Int → Prop) (m'' : Int → Int → Nat) (r'' : Ex × St) (h : ∀ (n : Int) (i : Int), I'' n i → (r67 b nx e n len i).all fun x'' => x'' = .inr r'' ∨ ∃ (n' : Int) (i' : Int), x'' = .inl (stOf [9, 10, 11, 12, 23, 24] [.str b, .int .i64 nx, .int .i64 e, .int .u32 n', .int .i64 len, .int .i64 i'] []) ∧ I'' n' i' ∧ m'' n' i' < m'' n i) (lp : Lp) (n : Int) (i : Int) : I'' n i →
    loopF (fun st => evC T0 orc lp b67 0 st (roundK [9, 10, 11, 12, 23, 24] [10, 11, 12] 0)) (stOf [9, 10, 11, 12, 23, 24] [.str b, .int .i64 nx, .int .i64 e, .int .u32 n, .int .i64 len, .int .i64 i] []) = some r'' :=
  loop_tr (fun a'' : Int × Int => stOf [9, 10, 11, 12, 23, 24] [.str b, .int .i64 nx, .int .i64 e, .int .u32 a''.1, .int .i64 len, .int .i64 a''.2] []) (fun a'' => I'' a''.1 a''.2) (fun a'' => m'' a''.1 a''.2) r'' (fun a'' => r67 b nx e a''.1 len a''.2)
    (fun a'' x hx => (round67 orc lp b nx e a''.1 len a''.2).trans hx) (fun a'' ha => Tr.all_mono (fun x'' hx => hx.imp id fun ⟨n', i', h1, h2, h3⟩ => ⟨(n', i'), h1, h2, h3⟩) (h (a''.1) (a''.2) ha)) (n, i)
theorem loop67 (orc : Orc) : ls67.Ok T0 orc h67 0 0 b67 := by
  intro q'' hq'' x'' y'' r'' h
  obtain ⟨(b : List UInt8), (nx : Int), (e : Int), (n : Int), (len : Int), (i : Int), _⟩ := x''
  obtain ⟨hc, rfl⟩ := Tr.get_on h
  show loopF (fun st => evC T0 orc (lpN T0 orc h67 0 q'') b67 0 st (roundK [9, 10, 11, 12, 23, 24] [10, 11, 12] 0)) (stOf [9, 10, 11, 12, 23, 24] [.str b, .int .i64 nx, .int .i64 e, .int .u32 n, .int .i64 len, .int .i64 i] []) = some (.exit 0, stOf [10, 11, 12] ([.int .i64 nx, .int .i64 e, .int .u32 (numB b)]) ([]))
  simp only [nbC, Bool.and_eq_true, decide_eq_true_eq] at hc
  obtain ⟨⟨⟨rfl, rfl⟩, rfl⟩, h2⟩ := hc
  refine wf67 _ b nx e b.length (nbI b) (fun _ i => (b.length - i).toNat) _ ?_ _ 0 0 ⟨by omega, by omega, by simp [numB]⟩
  rintro n i ⟨h0, h1, rfl⟩
  unfold r67
  by_cases hlt : i < b.length
  · refine Tr.all_t (dec_true hlt) (Tr.all_t (dec_true h0) (Tr.all_t (dec_true hlt) (Tr.all_ret (.inr ⟨_, _, rfl, ?_, ?_⟩))))
    · rw [IntWalk.i64_in _ (by omega)]
      exact ⟨by omega, by omega, by rw [show (i + 1).toNat = i.toNat + 1 by omega]; exact nb_step (by omega) h2⟩
    · rw [IntWalk.i64_in _ (by omega)]
      omega
  · refine Tr.all_f (dec_false hlt) (Tr.all_ret (.inl ?_))
    rw [List.take_of_length_le (by omega)]
noncomputable def b68 : Code := nthLoop c68 0
def ls68 : LoopSpec := { bid := 0, sh := [.d .str false, .d (.int .i64) false, .d (.int .i64) false, .d (.int .u32) false, .d (.int .i64) false, .d (.int .i64) false], so := [], F := fun (b, nx, e, n, len, i, _) _ => .on (nbC b n len i) (.exit 0, [.int .i64 nx, .int .i64 e, .int .u32 (numB b)], []) }
def r68 (b : List UInt8) (nx : Int) (e : Int) (n : Int) (len : Int) (i : Int) : Tr (St ⊕ (Ex × St)) := Tr.br (decide (i < len)) (Tr.br (decide ((0 : Int) ≤ i)) (Tr.br (decide (i < (↑(List.length b) : Int))) (Tr.ret (Sum.inl (stOf [9, 10, 11, 12, 23, 24] [AV.str b, AV.int IntKind.i64 nx, AV.int IntKind.i64 e, AV.int IntKind.u32 (IntKind.wrap IntKind.u32 (↑(BitVec.toNat (BitVec.ofInt (IntKind.bits IntKind.u32) (IntKind.wrap IntKind.u32 (n * (2 : Int) ^ min (Int.toNat (8 : Int)) (IntKind.bits IntKind.u32))) ||| BitVec.ofInt (IntKind.bits IntKind.u32) (IntKind.wrap IntKind.u32 (↑(UInt8.toNat (List.getD b (Int.toNat i) 0)) : Int)))) : Int)), AV.int IntKind.i64 len, AV.int IntKind.i64 (IntKind.wrap IntKind.i64 (i + (1 : Int)))] []))) Tr.no) Tr.no) (Tr.ret (Sum.inr (Ex.exit 0, stOf [10, 11, 12] [AV.int IntKind.i64 nx, AV.int IntKind.i64 e, AV.int IntKind.u32 n] [])))
set_option maxRecDepth 1000000 in
theorem round68 (orc : Orc) (lp : Lp) (b : List UInt8) (nx : Int) (e : Int) (n : Int) (len : Int) (i : Int) : evC T0 orc lp b68 0 (stOf [9, 10, 11, 12, 23, 24] [.str b, .int .i64 nx, .int .i64 e, .int .u32 n, .int .i64 len, .int .i64 i] []) (roundK [9, 10, 11, 12, 23, 24] [10, 11, 12] 0) = (r68 b nx e n len i).get := by kernel_rfl
theorem wf68 (orc : Orc) (b : List UInt8) (nx : Int) (e : Int) (len : Int) (I'' : Int → Int → Prop) (m'' : Int → Int → Nat) (r'' : Ex × St) (h : ∀ (n : Int) (i : Int), I'' n i → (r68 b nx e n len i).all fun x'' => x'' = .inr r'' ∨ ∃ (n' : Int) (i' : Int), x'' = .inl (stOf [9, 10, 11, 12, 23, 24] [.str b, .int .i64 nx, .int .i64 e, .int .u32 n', .int .i64 len, .int .i64 i'] []) ∧ I'' n' i' ∧ m'' n' i' < m'' n i) (lp : Lp) (n : Int) (i : Int) : I'' n i →
    loopF (fun st => evC T0 orc lp b68 0 st (roundK [9, 10, 11, 12, 23, 24] [10, 11, 12] 0)) (stOf [9, 10, 11, 12, 23, 24] [.str b, .int .i64 nx, .int .i64 e, .int .u32 n, .int .i64 len, .int .i64 i] []) = some r'' :=
  loop_tr (fun a'' : Int × Int => stOf [9, 10, 11, 12, 23, 24] [.str b, .int .i64 nx, .int .i64 e, .int .u32 a''.1, .int .i64 len, .int .i64 a''.2] []) (fun a'' => I'' a''.1 a''.2) (fun a'' => m'' a''.1 a''.2) r'' (fun a'' => r68 b nx e a''.1 len a''.2)
    (fun a'' x hx => (round68 orc lp b nx e a''.1 len a''.2).trans hx) (fun a'' ha => Tr.all_mono (fun x'' hx => hx.imp id fun ⟨n', i', h1, h2, h3⟩ => ⟨(n', i'), h1, h2, h3⟩) (h (a''.1) (a''.2) ha)) (n, i)
theorem loop68 (orc : Orc) : ls68.Ok T0 orc h68 0 0 b68 := by
  intro q'' hq'' x'' y'' r'' h
  obtain ⟨(b : List UInt8), (nx : Int), (e : Int), (n : Int), (len : Int), (i : Int), _⟩ := x''
  obtain ⟨hc, rfl⟩ := Tr.get_on h
  show loopF (fun st => evC T0 orc (lpN T0 orc h68 0 q'') b68 0 st (roundK [9, 10, 11, 12, 23, 24] [10, 11, 12] 0)) (stOf [9, 10, 11, 12, 23, 24] [.str b, .int .i64 nx, .int .i64 e, .int .u32 n, .int .i64 len, .int .i64 i] []) = some (.exit 0, stOf [10, 11, 12] ([.int .i64 nx, .int .i64 e, .int .u32 (numB b)]) ([]))
  simp only [nbC, Bool.and_eq_true, decide_eq_true_eq] at hc
  obtain ⟨⟨⟨rfl, rfl⟩, rfl⟩, h2⟩ := hc
  refine wf68 _ b nx e b.length (nbI b) (fun _ i => (b.length - i).toNat) _ ?_ _ 0 0 ⟨by omega, by omega, by simp [numB]⟩
  rintro n i ⟨h0, h1, rfl⟩
  unfold r68
  by_cases hlt : i < b.length
  · refine Tr.all_t (dec_true hlt) (Tr.all_t (dec_true h0) (Tr.all_t (dec_true hlt) (Tr.all_ret (.inr ⟨_, _, rfl, ?_, ?_⟩))))
    · rw [IntWalk.i64_in _ (by omega)]
      exact ⟨by omega, by omega, by rw [show (i + 1).toNat = i.toNat + 1 by omega]; exact nb_step (by omega) h2⟩
    · rw [IntWalk.i64_in _ (by omega)]
      omega
  · refine Tr.all_f (dec_false hlt) (Tr.all_ret (.inl ?_))
    rw [List.take_of_length_le (by omega)]
/-- octet.number[uint8] -/
def t67 (s : List UInt8) (at_ : Int) (many : Int) : Tr Res := Tr.br (bigS s) (Tr.br (someB s at_ many) (Tr.br (nbC (someV s at_ many) (0 : Int) (↑(List.length (someV s at_ many)) : Int) (0 : Int)) (Tr.ret ([AV.int IntKind.u8 (IntKind.wrap IntKind.u8 (numB (someV s at_ many))), AV.int IntKind.i64 (at_ + many), AV.int IntKind.i64 (0 : Int)], [])) Tr.no) (Tr.ret ([AV.int IntKind.u8 (IntKind.wrap IntKind.u8 (numB [])), AV.int IntKind.i64 (0 : Int), AV.int IntKind.i64 (2 : Int)], []))) Tr.no
def os67 : OSpec := { f := 67, sh := [.d .str false, .d (.int .i64) false, .d (.int .i64) false], so := [], F := fun (s, at_, many, _) _ => t67 s at_ many }
set_option maxRecDepth 1000000 in
theorem fn67 (s : List UInt8) (at_ : Int) (many : Int) : evC T0 (orcB [fs48w] []) (lpOf h67 0 (lsOf [ls67])) c67 1000000 (startSt [.str s, .int .i64 at_, .int .i64 many] [] Try.f67.ntmps) (finishK T0 false 0 Try.f67) = (t67 s at_ many).get := by kernel_rfl
theorem ok67 : os67.Ok Try.prog := by
  refine os_ok mixed0 tab0 (orcB_sound (all_cons okf48w all_nil) all_nil) h67 (d := 0) (n0 := 0) (S := lsOf [ls67]) Try.func67 (by kernel_rfl) (c := c67) (by kernel_rfl) rfl (loops_eq (xs := [(0, b67)]) (by kernel_rfl) (all_cons (ls_here (loop67 _)) all_nil)) (by omega) (by kernel_rfl) ?_
  intro x'' y'' q'' hq''
  obtain ⟨(s : List UInt8), (at_ : Int), (many : Int), _⟩ := x''
  exact (fn67 s at_ many).trans hq''
def fs67 : FSpec := fsT 67 [(.str, false), ((.int .i64), false), ((.int .i64), false)] [((.int .u8), false), ((.int .i64), false), ((.int .i64), false)] fun (s, at_, many, _) => t67 s at_ many
theorem okf67 : fs67.Ok Try.prog := fsT_ok fun x'' r'' hr'' => ok67 x'' () r'' hr''
/-- octet.number[uint16] -/
def t68 (s : List UInt8) (at_ : Int) (many : Int) : Tr Res := Tr.br (bigS s) (Tr.br (someB s at_ many) (Tr.br (nbC (someV s at_ many) (0 : Int) (↑(List.length (someV s at_ many)) : Int) (0 : Int)) (Tr.ret ([AV.int IntKind.u16 (IntKind.wrap IntKind.u16 (numB (someV s at_ many))), AV.int IntKind.i64 (at_ + many), AV.int IntKind.i64 (0 : Int)], [])) Tr.no) (Tr.ret ([AV.int IntKind.u16 (IntKind.wrap IntKind.u16 (numB [])), AV.int IntKind.i64 (0 : Int), AV.int IntKind.i64 (2 : Int)], []))) Tr.no
def os68 : OSpec := { f := 68, sh := [.d .str false, .d (.int .i64) false, .d (.int .i64) false], so := [], F := fun (s, at_, many, _) _ => t68 s at_ many }
set_option maxRecDepth 1000000 in
theorem fn68 (s : List UInt8) (at_ : Int) (many : Int) : evC T0 (orcB [fs48w] []) (lpOf h68 0 (lsOf [ls68])) c68 1000000 (startSt [.str s, .int .i64 at_, .int .i64 many] [] Try.f68.ntmps) (finishK T0 false 0 Try.f68) = (t68 s at_ many).get := by kernel_rfl
theorem ok68 : os68.Ok Try.prog := by
  refine os_ok mixed0 tab0 (orcB_sound (all_cons okf48w all_nil) all_nil) h68 (d := 0) (n0 := 0) (S := lsOf [ls68]) Try.func68 (by kernel_rfl) (c := c68) (by kernel_rfl) rfl (loops_eq (xs := [(0, b68)]) (by kernel_rfl) (all_cons (ls_here (loop68 _)) all_nil)) (by omega) (by kernel_rfl) ?_
  intro x'' y'' q'' hq''
  obtain ⟨(s : List UInt8), (at_ : Int), (many : Int), _⟩ := x''
  exact (fn68 s at_ many).trans hq''
def fs68 : FSpec := fsT 68 [(.str, false), ((.int .i64), false), ((.int .i64), false)] [((.int .u16), false), ((.int .i64), false), ((.int .i64), false)] fun (s, at_, many, _) => t68 s at_ many
theorem okf68 : fs68.Ok Try.prog := fsT_ok fun x'' r'' hr'' => ok68 x'' () r'' hr''
/-- octet.U8 -/
def t46 (s : List UInt8) (at_ : Int) : Tr Res := Tr.br (bigS s) (Tr.br (someB s at_ (1 : Int)) (Tr.br (nbC (someV s at_ (1 : Int)) (0 : Int) (↑(List.length (someV s at_ (1 : Int))) : Int) (0 : Int)) (Tr.ret ([AV.int IntKind.u8 (IntKind.wrap IntKind.u8 (numB (someV s at_ (1 : Int)))), AV.int IntKind.i64 (at_ + (1 : Int)), AV.int IntKind.i64 (0 : Int)], [])) Tr.no) (Tr.ret ([AV.int IntKind.u8 (IntKind.wrap IntKind.u8 (numB [])), AV.int IntKind.i64 (0 : Int), AV.int IntKind.i64 (2 : Int)], []))) Tr.no
def os46 : OSpec := { f := 46, sh := [.d .str false, .d (.int .i64) false], so := [], F := fun (s, at_, _) _ => t46 s at_ }
set_option maxRecDepth 1000000 in
theorem fn46 (s : List UInt8) (at_ : Int) : evC T0 (orcB [fs67, fs68] []) (lpOf h46 0 (lsOf [])) c46 1000000 (startSt [.str s, .int .i64 at_] [] Try.f46.ntmps) (finishK T0 false 0 Try.f46) = (t46 s at_).get := by kernel_rfl
theorem ok46 : os46.Ok Try.prog := by
  refine os_ok mixed0 tab0 (orcB_sound (all_cons okf67 (all_cons okf68 all_nil)) all_nil) h46 (d := 0) (n0 := 0) (S := lsOf []) Try.func46 (by kernel_rfl) (c := c46) (by kernel_rfl) rfl (no_loops (by kernel_rfl)) (by omega) (by kernel_rfl) ?_
  intro x'' y'' q'' hq''
  obtain ⟨(s : List UInt8), (at_ : Int), _⟩ := x''
  exact (fn46 s at_).trans hq''
def fs46 : FSpec := fsT 46 [(.str, false), ((.int .i64), false)] [((.int .u8), false), ((.int .i64), false), ((.int .i64), false)] fun (s, at_, _) => t46 s at_
theorem okf46 : fs46.Ok Try.prog := fsT_ok fun x'' r'' hr'' => ok46 x'' () r'' hr''
/-- octet.U16 -/
def t47 (s : List UInt8) (at_ : Int) : Tr Res := Tr.br (bigS s) (Tr.br (someB s at_ (2 : Int)) (Tr.br (nbC (someV s at_ (2 : Int)) (0 : Int) (↑(List.length (someV s at_ (2 : Int))) : Int) (0 : Int)) (Tr.ret ([AV.int IntKind.u16 (IntKind.wrap IntKind.u16 (numB (someV s at_ (2 : Int)))), AV.int IntKind.i64 (at_ + (2 : Int)), AV.int IntKind.i64 (0 : Int)], [])) Tr.no) (Tr.ret ([AV.int IntKind.u16 (IntKind.wrap IntKind.u16 (numB [])), AV.int IntKind.i64 (0 : Int), AV.int IntKind.i64 (2 : Int)], []))) Tr.no
def os47 : OSpec := { f := 47, sh := [.d .str false, .d (.int .i64) false], so := [], F := fun (s, at_, _) _ => t47 s at_ }
set_option maxRecDepth 1000000 in
theorem fn47 (s : List UInt8) (at_ : Int) : evC T0 (orcB [fs67, fs68] []) (lpOf h47 0 (lsOf [])) c47 1000000 (startSt [.str s, .int .i64 at_] [] Try.f47.ntmps) (finishK T0 false 0 Try.f47) = (t47 s at_).get := by kernel_rfl
theorem ok47 : os47.Ok Try.prog := by
  refine os_ok mixed0 tab0 (orcB_sound (all_cons okf67 (all_cons okf68 all_nil)) all_nil) h47 (d := 0) (n0 := 0) (S := lsOf []) Try.func47 (by kernel_rfl) (c := c47) (by kernel_rfl) rfl (no_loops (by kernel_rfl)) (by omega) (by kernel_rfl) ?_
  intro x'' y'' q'' hq''
  obtain ⟨(s : List UInt8), (at_ : Int), _⟩ := x''
  exact (fn47 s at_).trans hq''
def fs47 : FSpec := fsT 47 [(.str, false), ((.int .i64), false)] [((.int .u16), false), ((.int .i64), false), ((.int .i64), false)] fun (s, at_, _) => t47 s at_
theorem okf47 : fs47.Ok Try.prog := fsT_ok fun x'' r'' hr'' => ok47 x'' () r'' hr''

/-- The number of two bytes. -/
def n16 (s : List UInt8) (at_ : Int) : Int := (s.getD at_.toNat 0).toNat * 256 + (s.getD (at_.toNat + 1) 0).toNat
theorem some1 {s : List UInt8} {at_ : Int} (h : someB s at_ 1 = true) : someV s at_ 1 = [s.getD at_.toNat 0] := by
  simp only [someB, Bool.and_eq_true, decide_eq_true_eq] at h
  unfold someV
  rw [drop_get s at_.toNat 0 (by omega)]
  rfl
theorem some2 {s : List UInt8} {at_ : Int} (h : someB s at_ 2 = true) : someV s at_ 2 = [s.getD at_.toNat 0, s.getD (at_.toNat + 1) 0] := by
  simp only [someB, Bool.and_eq_true, decide_eq_true_eq] at h
  unfold someV
  rw [drop_get s at_.toNat 0 (by omega), drop_get s (at_.toNat + 1) 0 (by omega)]
  rfl
def fs46w : FSpec := fs46.like fun (s, at_, _) => .br (bigS s) (.br (someB s at_ 1) (.ret (((s.getD at_.toNat 0).toNat : Int), at_ + 1, (0 : Int), ())) (.ret ((0 : Int), (0 : Int), (2 : Int), ()))) .no
theorem okf46w : fs46w.Ok Try.prog := by
  refine flike_ok okf46 _ ?_
  rintro ⟨(s : List UInt8), (at_ : Int), _⟩ y h
  simp only [Tr.get] at h
  cases hb : bigS s with
  | false => rw [hb] at h; cases h
  | true =>
    rw [hb, cond_true] at h
    cases hs : someB s at_ 1 with
    | true =>
      rw [hs, cond_true] at h
      cases h
      have hc := byte_in (s.getD at_.toNat 0)
      refine convR_of (vs := [.int .u8 ((s.getD at_.toNat 0).toNat : Int), .int .i64 (at_ + 1), .int .i64 0]) rfl rfl (Tr.get_of_all ?_)
      show (t46 s at_).all _
      unfold t46
      refine Tr.all_t hb (Tr.all_t hs ?_)
      rw [some1 hs]
      refine Tr.all_t (by simp [nbC]) (Tr.all_ret ?_)
      rw [show numB [s.getD at_.toNat 0] = ((s.getD at_.toNat 0).toNat : Int) by simp [numB], IntWalk.u8_in _ hc]
    | false =>
      rw [hs, cond_false] at h
      cases h
      refine convR_of (vs := [.int .u8 0, .int .i64 0, .int .i64 2]) rfl rfl (Tr.get_of_all ?_)
      show (t46 s at_).all _
      exact Tr.all_t hb (Tr.all_f hs (Tr.all_ret rfl))
def fs47w : FSpec := fs47.like fun (s, at_, _) => .br (bigS s) (.br (someB s at_ 2) (.ret (n16 s at_, at_ + 2, (0 : Int), ())) (.ret ((0 : Int), (0 : Int), (2 : Int), ()))) .no
theorem okf47w : fs47w.Ok Try.prog := by
  refine flike_ok okf47 _ ?_
  rintro ⟨(s : List UInt8), (at_ : Int), _⟩ y h
  simp only [Tr.get] at h
  cases hb : bigS s with
  | false => rw [hb] at h; cases h
  | true =>
    rw [hb, cond_true] at h
    cases hs : someB s at_ 2 with
    | true =>
      rw [hs, cond_true] at h
      cases h
      have hc := byte_in (s.getD at_.toNat 0)
      have hd := byte_in (s.getD (at_.toNat + 1) 0)
      refine convR_of (vs := [.int .u16 (n16 s at_), .int .i64 (at_ + 2), .int .i64 0]) rfl rfl (Tr.get_of_all ?_)
      show (t47 s at_).all _
      unfold t47
      refine Tr.all_t hb (Tr.all_t hs ?_)
      rw [some2 hs]
      refine Tr.all_t (by simp [nbC]) (Tr.all_ret ?_)
      rw [show numB [s.getD at_.toNat 0, s.getD (at_.toNat + 1) 0] = n16 s at_ by simp [numB, n16], IntWalk.u16_in _ (by unfold n16; omega)]
    | false =>
      rw [hs, cond_false] at h
      cases h
      refine convR_of (vs := [.int .u16 0, .int .i64 0, .int .i64 2]) rfl rfl (Tr.get_of_all ?_)
      show (t47 s at_).all _
      exact Tr.all_t hb (Tr.all_f hs (Tr.all_ret rfl))
def fs56w : FSpec := fs56.like fun (s, at_, _) => .br (bigS s) (.br (someB s at_ 2) (.ret (n16 s at_, at_ + 2, (0 : Int), ())) (.ret ((0 : Int), (0 : Int), (2 : Int), ()))) .no
theorem okf56w : fs56w.Ok Try.prog := by
  refine flike_ok okf56 _ ?_
  rintro ⟨(s : List UInt8), (at_ : Int), _⟩ y h
  simp only [Tr.get] at h
  cases hb : bigS s with
  | false => rw [hb] at h; cases h
  | true =>
    rw [hb, cond_true] at h
    simp only [bigS, decide_eq_true_eq] at hb
    cases hs : someB s at_ 2 with
    | true =>
      rw [hs, cond_true] at h
      cases h
      simp only [someB, Bool.and_eq_true, decide_eq_true_eq] at hs
      obtain ⟨h0, h1, h2⟩ := hs
      have hc := byte_in (s.getD at_.toNat 0)
      have hd := byte_in (s.getD (at_.toNat + 1) 0)
      refine convR_of (vs := [.int .u16 (n16 s at_), .int .i64 (at_ + 2), .int .i64 0]) rfl rfl (Tr.get_of_all ?_)
      show (t56 s at_).all _
      unfold t56
      simp (disch := omega) only [IntWalk.i64_in]
      refine Tr.all_t (dec_true (by omega)) (Tr.all_t (dec_true (by omega)) (Tr.all_t (dec_true (by omega)) (Tr.all_f (by rw [dec_true (by omega)]; rfl) (Tr.all_t (dec_true (by omega)) (Tr.all_t (dec_true (by omega)) (Tr.all_t (dec_true (by omega)) (Tr.all_t (dec_true (by omega)) (Tr.all_ret ?_))))))))
      rw [show (at_ + 1).toNat = at_.toNat + 1 by omega]
      simp (disch := omega) only [IntWalk.u16_in]
      rw [show (256 : Int) * ((s.getD at_.toNat 0).toNat : Int) + ((s.getD (at_.toNat + 1) 0).toNat : Int) = n16 s at_ by unfold n16; omega]
    | false =>
      rw [hs, cond_false] at h
      cases h
      refine convR_of (vs := [.int .u16 0, .int .i64 0, .int .i64 2]) rfl rfl (Tr.get_of_all ?_)
      show (t56 s at_).all _
      unfold t56
      have hn : ¬ (0 ≤ at_ ∧ at_ + 2 ≤ s.length) := fun ⟨a, c⟩ => by
        simp [someB, a, c] at hs
      refine Tr.all_br (fun c1 => Tr.all_br (fun c2 => Tr.all_br (fun c3 => Tr.all_br (fun _ => Tr.all_ret rfl) fun c4 => ?_) fun _ => ?_) fun _ => ?_) fun _ => ?_
      · simp only [decide_eq_true_eq] at c1 c2 c3
        rw [IntWalk.i64_in _ (by omega)] at c4
        simp only [Bool.not_eq_false', decide_eq_true_eq] at c4
        exact absurd ⟨by omega, by omega⟩ hn
      all_goals exact Tr.all_ret rfl
end Go.Proofs.YtfepkpindchleaaE

/- numbers as bytes. -/
namespace Go.Proofs.YtfepkpindchleaaE
open Go
set_option linter.unusedVariables false
set_option linter.unusedSimpArgs false
def hiI (n : Int) : Int := IntKind.wrap .u8 (Int.fdiv n 256)
def loI (n : Int) : Int := IntKind.wrap .u8 n
def btC (n many m i : Int) (b : List Int) : Bool := decide (many = 2) && decide (m = 2) && decide (i = 0) && decide (b = [0, 0])
noncomputable def b65 : Code := nthLoop c65 0
def ls65 : LoopSpec := { bid := 0, sh := [.d (.int .u32) false, .d (.int .i64) false, .row 0, .d (.int .i64) false, .d (.int .i64) false], so := [.row (.int .u8)], F := fun (n, many, m, i, _) (b, _) => .on (btC n many m i b) (.exit 0, [.rowA 0], [.row (.int .u8) [hiI n, loI n]]) }
def r65 (n : Int) (many : Int) (m : Int) (i : Int) (b : List Int) : Tr (St ⊕ (Ex × St)) := Tr.br (decide (i < m)) (Tr.br (decide ((0 : Int) ≤ IntKind.wrap IntKind.i64 ((8 : Int) * i))) (Tr.br (decide ((0 : Int) ≤ IntKind.wrap IntKind.i64 (IntKind.wrap IntKind.i64 (many - (1 : Int)) - i))) (Tr.br (decide (IntKind.wrap IntKind.i64 (IntKind.wrap IntKind.i64 (many - (1 : Int)) - i) < (↑(List.length b) : Int))) (Tr.ret (Sum.inl (stOf [0, 1, 5, 9, 10] [AV.int IntKind.u32 n, AV.int IntKind.i64 many, AV.rowA 0, AV.int IntKind.i64 m, AV.int IntKind.i64 (IntKind.wrap IntKind.i64 (i + (1 : Int)))] [LObj.row (Ty.int IntKind.u8) (List.set b (Int.toNat (IntKind.wrap IntKind.i64 (IntKind.wrap IntKind.i64 (many - (1 : Int)) - i))) (IntKind.wrap IntKind.u8 (Int.fdiv n ((2 : Int) ^ min (Int.toNat (IntKind.wrap IntKind.i64 ((8 : Int) * i))) (IntKind.bits IntKind.u32)))))]))) Tr.no) Tr.no) Tr.no) (Tr.ret (Sum.inr (Ex.exit 0, stOf [5] [AV.rowA 0] [LObj.row (Ty.int IntKind.u8) b])))
set_option maxRecDepth 1000000 in
theorem round65 (orc : Orc) (lp : Lp) (n : Int) (many : Int) (m : Int) (i : Int) (b : List Int) : evC T0 orc lp b65 0 (stOf [0, 1, 5, 9, 10] [.int .u32 n, .int .i64 many, .rowA 0, .int .i64 m, .int .i64 i] [.row (.int .u8) b]) (roundK [0, 1, 5, 9, 10] [5] 0) = (r65 n many m i b).get := by kernel_rfl
theorem wf65 (orc : Orc) (n : Int) (many : Int) (m : Int) (I'' : Int → List Int → Prop) (m'' : Int → List Int → Nat) (r'' : Ex × St) (h : ∀ (i : Int) (b : List Int), I'' i b → (r65 n many m i b).all fun x'' => x'' = .inr r'' ∨ ∃ (i' : Int) (b' : List Int), x'' = .inl (stOf [0, 1, 5, 9, 10] [.int .u32 n, .int .i64 many, .rowA 0, .int .i64 m, .int .i64 i'] [.row (.int .u8) b']) ∧ I'' i' b' ∧ m'' i' b' < m'' i b) (lp : Lp) (i : Int) (b : List Int) : I'' i b →
    loopF (fun st => evC T0 orc lp b65 0 st (roundK [0, 1, 5, 9, 10] [5] 0)) (stOf [0, 1, 5, 9, 10] [.int .u32 n, .int .i64 many, .rowA 0, .int .i64 m, .int .i64 i] [.row (.int .u8) b]) = some r'' :=
  loop_tr (fun a'' : Int × List Int => stOf [0, 1, 5, 9, 10] [.int .u32 n, .int .i64 many, .rowA 0, .int .i64 m, .int .i64 a''.1] [.row (.int .u8) a''.2]) (fun a'' => I'' a''.1 a''.2) (fun a'' => m'' a''.1 a''.2) r'' (fun a'' => r65 n many m a''.1 a''.2)
    (fun a'' x hx => (round65 orc lp n many m a''.1 a''.2).trans hx) (fun a'' ha => Tr.all_mono (fun x'' hx => hx.imp id fun ⟨i', b', h1, h2, h3⟩ => ⟨(i', b'), h1, h2, h3⟩) (h (a''.1) (a''.2) ha)) (i, b)
theorem loop65 (orc : Orc) : ls65.Ok T0 orc h65 0 0 b65 := by
  intro q'' hq'' x'' y'' r'' h
  obtain ⟨(n : Int), (many : Int), (m : Int), (i : Int), _⟩ := x''
  obtain ⟨(b : List Int), _⟩ := y''
  obtain ⟨hc, rfl⟩ := Tr.get_on h
  show loopF (fun st => evC T0 orc (lpN T0 orc h65 0 q'') b65 0 st (roundK [0, 1, 5, 9, 10] [5] 0)) (stOf [0, 1, 5, 9, 10] [.int .u32 n, .int .i64 many, .rowA 0, .int .i64 m, .int .i64 i] [.row (.int .u8) b]) = some (.exit 0, stOf [5] ([.rowA 0]) ([.row (.int .u8) [hiI n, loI n]]))
  simp only [btC, Bool.and_eq_true, decide_eq_true_eq] at hc
  obtain ⟨⟨⟨rfl, rfl⟩, rfl⟩, rfl⟩ := hc
  refine wf65 _ n 2 2 (fun i b => (i = 0 ∧ b = [0, 0]) ∨ (i = 1 ∧ b = [0, loI n]) ∨ (i = 2 ∧ b = [hiI n, loI n])) (fun i _ => (2 - i).toNat) _ ?_ _ 0 [0, 0] (.inl ⟨rfl, rfl⟩)
  rintro i b (⟨rfl, rfl⟩ | ⟨rfl, rfl⟩ | ⟨rfl, rfl⟩)
  · refine Tr.all_t rfl (Tr.all_t (by decide) (Tr.all_t (by decide) (Tr.all_t (by decide) (Tr.all_ret (.inr ⟨_, _, rfl, .inr (.inl ⟨by decide, ?_⟩), by decide⟩)))))
    show [0, IntKind.wrap .u8 (Int.fdiv n 1)] = _
    simp [loI]
  · refine Tr.all_t rfl (Tr.all_t (by decide) (Tr.all_t (by decide) (Tr.all_t rfl (Tr.all_ret (.inr ⟨_, _, rfl, .inr (.inr ⟨by decide, rfl⟩), by decide⟩)))))
  · exact Tr.all_f rfl (Tr.all_ret (.inl rfl))
/-- octet.bytes -/
def t65 (n : Int) (many : Int) : Tr Res := Tr.br (decide ((0 : Int) ≤ many) && many == many && fits (Int.toNat many) 1) (Tr.br (btC n many many (0 : Int) (List.replicate (Int.toNat many) (Ty.dflt (Ty.int IntKind.u8)))) (Tr.ret ([AV.str [UInt8.ofNat (Int.toNat (hiI n)), UInt8.ofNat (Int.toNat (loI n))]], [])) Tr.no) Tr.no
def os65 : OSpec := { f := 65, sh := [.d (.int .u32) false, .d (.int .i64) false], so := [], F := fun (n, many, _) _ => t65 n many }
set_option maxRecDepth 1000000 in
theorem fn65 (n : Int) (many : Int) : evC T0 (orcB [] []) (lpOf h65 0 (lsOf [ls65])) c65 1000000 (startSt [.int .u32 n, .int .i64 many] [] Try.f65.ntmps) (finishK T0 false 0 Try.f65) = (t65 n many).get := by kernel_rfl
theorem ok65 : os65.Ok Try.prog := by
  refine os_ok mixed0 tab0 (orcB_sound all_nil all_nil) h65 (d := 0) (n0 := 0) (S := lsOf [ls65]) Try.func65 (by kernel_rfl) (c := c65) (by kernel_rfl) rfl (loops_eq (xs := [(0, b65)]) (by kernel_rfl) (all_cons (ls_here (loop65 _)) all_nil)) (by omega) (by kernel_rfl) ?_
  intro x'' y'' q'' hq''
  obtain ⟨(n : Int), (many : Int), _⟩ := x''
  exact (fn65 n many).trans hq''
def fs65 : FSpec := fsT 65 [((.int .u32), false), ((.int .i64), false)] [(.str, false)] fun (n, many, _) => t65 n many
theorem okf65 : fs65.Ok Try.prog := fsT_ok fun x'' r'' hr'' => ok65 x'' () r'' hr''
/-- octet.Put16 -/
def t42 (n : Int) : Tr Res := Tr.ret ([AV.str [UInt8.ofNat (Int.toNat (hiI (IntKind.wrap IntKind.u32 n))), UInt8.ofNat (Int.toNat (loI (IntKind.wrap IntKind.u32 n)))]], [])
def os42 : OSpec := { f := 42, sh := [.d (.int .u16) false], so := [], F := fun (n, _) _ => t42 n }
set_option maxRecDepth 1000000 in
theorem fn42 (n : Int) : evC T0 (orcB [fs65] []) (lpOf h42 0 (lsOf [])) c42 1000000 (startSt [.int .u16 n] [] Try.f42.ntmps) (finishK T0 false 0 Try.f42) = (t42 n).get := by kernel_rfl
theorem ok42 : os42.Ok Try.prog := by
  refine os_ok mixed0 tab0 (orcB_sound (all_cons okf65 all_nil) all_nil) h42 (d := 0) (n0 := 0) (S := lsOf []) Try.func42 (by kernel_rfl) (c := c42) (by kernel_rfl) rfl (no_loops (by kernel_rfl)) (by omega) (by kernel_rfl) ?_
  intro x'' y'' q'' hq''
  obtain ⟨(n : Int), _⟩ := x''
  exact (fn42 n).trans hq''
def fs42 : FSpec := fsT 42 [((.int .u16), false)] [(.str, false)] fun (n, _) => t42 n
theorem okf42 : fs42.Ok Try.prog := fsT_ok fun x'' r'' hr'' => ok42 x'' () r'' hr''
/-- A number as two bytes. -/
def put16 (n : Int) : List UInt8 := [UInt8.ofNat (n / 256).toNat, UInt8.ofNat (n % 256).toNat]
def n16C (n : Int) : Bool := decide (0 ≤ n) && decide (n ≤ 65535)
def fs42w : FSpec := fs42.like fun (n, _) => .on (n16C n) (put16 n, ())
def fs45w : FSpec := fs45.like fun (n, _) => .on (n16C n) (put16 n, ())
theorem okf45w : fs45w.Ok Try.prog := by
  refine flike_ok okf45 _ ?_
  rintro ⟨(n : Int), _⟩ y h
  obtain ⟨hc, rfl⟩ := Tr.get_on h
  simp only [n16C, Bool.and_eq_true, decide_eq_true_eq] at hc
  refine convR_of (vs := [.str (put16 n)]) rfl rfl (Tr.get_of_all ?_)
  show (t45 n).all _
  unfold t45
  refine Tr.all_ret ?_
  rw [Int.tdiv_eq_ediv_of_nonneg hc.1, Int.tmod_eq_emod_of_nonneg hc.1, IntWalk.u16_in _ (by omega), IntWalk.u8_in _ (by omega), IntWalk.u8_in _ (by omega)]
  rfl
theorem okf42w : fs42w.Ok Try.prog := by
  refine flike_ok okf42 _ ?_
  rintro ⟨(n : Int), _⟩ y h
  obtain ⟨hc, rfl⟩ := Tr.get_on h
  simp only [n16C, Bool.and_eq_true, decide_eq_true_eq] at hc
  refine convR_of (vs := [.str (put16 n)]) rfl rfl (Tr.get_of_all ?_)
  show (t42 n).all _
  unfold t42
  refine Tr.all_ret ?_
  rw [IntWalk.u32_in _ (by omega)]
  unfold hiI loI put16
  rw [Int.fdiv_eq_ediv_of_nonneg _ (by omega), IntWalk.u8_in (n / 256) (by omega), IntKind.wrap_u8]
end Go.Proofs.YtfepkpindchleaaE

/- labels, by definition. -/
namespace Go.Proofs.YtfepkpindchleaaE
open Go
set_option linter.unusedVariables false
set_option linter.unusedSimpArgs false
/-- Labels from a place on: are they right; where they end (or aren't); which. -/
def labAt (s : List UInt8) (k : Nat) (out : List (List UInt8)) : Bool × (Nat × List (List UInt8)) :=
  if h : k < s.length then
    (if (s.getD k 0).toNat = 0 then (true, k, out)
    else if (s.getD k 0).toNat > 63 ∨ k + 1 + (s.getD k 0).toNat > s.length then (false, k, out)
    else labAt s (k + 1 + (s.getD k 0).toNat) (out ++ [(s.drop (k + 1)).take (s.getD k 0).toNat]))
  else (true, k, out)
termination_by s.length - k
def lbC (s : List UInt8) (at_ : Int) (out : List (List UInt8)) : Bool := decide (at_ = 0) && out.isEmpty && bigS s
def lbOk (s : List UInt8) : Bool := (labAt s 0 []).1
def lbAt (s : List UInt8) : Int := (labAt s 0 []).2.1
def lbOut (s : List UInt8) : List (List UInt8) := (labAt s 0 []).2.2
noncomputable def b66 : Code := nthLoop c66 0
def ls66 : LoopSpec := { bid := 0, sh := [.d .str false, .row 0, .d (.int .i64) false], so := [.row .str], F := fun (s, at_, _) (out, _) => .on2 (lbC s at_ out) (lbOk s) (.exit 0, [.str s, .dead, .dead, .rowA 0, .int .i64 (lbAt s)], [.row .str (lbOut s)]) (.ret, [.str s, .rowA 0, .int .i64 2, .rowA 1, .int .i64 (lbAt s)], [.row .str [], .row .str (lbOut s)]) }
def r66 (s : List UInt8) (at_ : Int) (out : List (List UInt8)) : Tr (St ⊕ (Ex × St)) := Tr.br (decide (at_ < (↑(List.length s) : Int))) (Tr.br (decide ((0 : Int) ≤ at_)) (Tr.br (decide (at_ < (↑(List.length s) : Int))) (Tr.br ((↑(UInt8.toNat (List.getD s (Int.toNat at_) 0)) : Int) != (0 : Int)) (Tr.br (decide ((0 : Int) ≤ at_)) (Tr.br (decide (at_ < (↑(List.length s) : Int))) (Tr.br (decide (IntKind.wrap IntKind.i64 (↑(UInt8.toNat (List.getD s (Int.toNat at_) 0)) : Int) > (63 : Int))) (Tr.ret (Sum.inr (Ex.ret, stOf [0, 2, 3, 4, 5] [AV.str s, AV.rowA 0, AV.int IntKind.i64 (2 : Int), AV.rowA 1, AV.int IntKind.i64 at_] [LObj.row Ty.str [], LObj.row Ty.str out]))) (Tr.br (decide (IntKind.wrap IntKind.i64 (IntKind.wrap IntKind.i64 (at_ + (1 : Int)) + IntKind.wrap IntKind.i64 (↑(UInt8.toNat (List.getD s (Int.toNat at_) 0)) : Int)) > (↑(List.length s) : Int))) (Tr.ret (Sum.inr (Ex.ret, stOf [0, 2, 3, 4, 5] [AV.str s, AV.rowA 0, AV.int IntKind.i64 (2 : Int), AV.rowA 1, AV.int IntKind.i64 at_] [LObj.row Ty.str [], LObj.row Ty.str out]))) (Tr.br (decide ((0 : Int) ≤ IntKind.wrap IntKind.i64 (IntKind.wrap IntKind.i64 (at_ + (1 : Int)) + IntKind.wrap IntKind.i64 (↑(UInt8.toNat (List.getD s (Int.toNat at_) 0)) : Int))) && decide (IntKind.wrap IntKind.i64 (IntKind.wrap IntKind.i64 (at_ + (1 : Int)) + IntKind.wrap IntKind.i64 (↑(UInt8.toNat (List.getD s (Int.toNat at_) 0)) : Int)) ≤ (↑(List.length s) : Int))) (Tr.br (decide ((0 : Int) ≤ IntKind.wrap IntKind.i64 (at_ + (1 : Int))) && decide (IntKind.wrap IntKind.i64 (at_ + (1 : Int)) ≤ IntKind.wrap IntKind.i64 (IntKind.wrap IntKind.i64 (at_ + (1 : Int)) + IntKind.wrap IntKind.i64 (↑(UInt8.toNat (List.getD s (Int.toNat at_) 0)) : Int)))) (Tr.br (fits (List.length out + 1) 16) (Tr.ret (Sum.inl (stOf [0, 4, 5] [AV.str s, AV.rowA 0, AV.int IntKind.i64 (IntKind.wrap IntKind.i64 (IntKind.wrap IntKind.i64 (at_ + (1 : Int)) + IntKind.wrap IntKind.i64 (↑(UInt8.toNat (List.getD s (Int.toNat at_) 0)) : Int)))] [LObj.row Ty.str (out ++ [List.take (Int.toNat (IntKind.wrap IntKind.i64 (IntKind.wrap IntKind.i64 (at_ + (1 : Int)) + IntKind.wrap IntKind.i64 (↑(UInt8.toNat (List.getD s (Int.toNat at_) 0)) : Int))) - Int.toNat (IntKind.wrap IntKind.i64 (at_ + (1 : Int)))) (List.drop (Int.toNat (IntKind.wrap IntKind.i64 (at_ + (1 : Int)))) s)])]))) Tr.no) Tr.no) Tr.no))) Tr.no) Tr.no) (Tr.ret (Sum.inr (Ex.exit 0, stOf [0, 2, 3, 4, 5] [AV.str s, AV.dead, AV.dead, AV.rowA 0, AV.int IntKind.i64 at_] [LObj.row Ty.str out])))) Tr.no) Tr.no) (Tr.ret (Sum.inr (Ex.exit 0, stOf [0, 2, 3, 4, 5] [AV.str s, AV.dead, AV.dead, AV.rowA 0, AV.int IntKind.i64 at_] [LObj.row Ty.str out])))
set_option maxRecDepth 1000000 in
theorem round66 (orc : Orc) (lp : Lp) (s : List UInt8) (at_ : Int) (out : List (List UInt8)) : evC T0 orc lp b66 0 (stOf [0, 4, 5] [.str s, .rowA 0, .int .i64 at_] [.row .str out]) (roundK [0, 4, 5] [0, 2, 3, 4, 5] 0) = (r66 s at_ out).get := by kernel_rfl
theorem wf66 (orc : Orc) (s : List UInt8) (I'' : Int → List (List UInt8) → Prop) (m'' : Int → List (List UInt8) → Nat) (r'' : Ex × St) (h : ∀ (at_ : Int) (out : List (List UInt8)), I'' at_ out → (r66 s at_ out).all fun x'' => x'' = .inr r'' ∨ ∃ (at_' : Int) (out' : List (List UInt8)), x'' = .inl (stOf [0, 4, 5] [.str s, .rowA 0, .int .i64 at_'] [.row .str out']) ∧ I'' at_' out' ∧ m'' at_' out' < m'' at_ out) (lp : Lp) (at_ : Int) (out : List (List UInt8)) : I'' at_ out →
    loopF (fun st => evC T0 orc lp b66 0 st (roundK [0, 4, 5] [0, 2, 3, 4, 5] 0)) (stOf [0, 4, 5] [.str s, .rowA 0, .int .i64 at_] [.row .str out]) = some r'' :=
  loop_tr (fun a'' : Int × List (List UInt8) => stOf [0, 4, 5] [.str s, .rowA 0, .int .i64 a''.1] [.row .str a''.2]) (fun a'' => I'' a''.1 a''.2) (fun a'' => m'' a''.1 a''.2) r'' (fun a'' => r66 s a''.1 a''.2)
    (fun a'' x hx => (round66 orc lp s a''.1 a''.2).trans hx) (fun a'' ha => Tr.all_mono (fun x'' hx => hx.imp id fun ⟨at_', out', h1, h2, h3⟩ => ⟨(at_', out'), h1, h2, h3⟩) (h (a''.1) (a''.2) ha)) (at_, out)
def lbI (s : List UInt8) (at_ : Int) (out : List (List UInt8)) : Prop := 0 ≤ at_ ∧ at_ ≤ s.length ∧ (out.length : Int) ≤ at_ ∧ labAt s at_.toNat out = labAt s 0 []
theorem loop66 (orc : Orc) : ls66.Ok T0 orc h66 0 0 b66 := by
  intro q'' hq'' x'' y'' r'' h
  obtain ⟨(s : List UInt8), (at_ : Int), _⟩ := x''
  obtain ⟨(out : List (List UInt8)), _⟩ := y''
  obtain ⟨hc, rfl⟩ := Tr.get_on2 h
  show loopF (fun st => evC T0 orc (lpN T0 orc h66 0 q'') b66 0 st (roundK [0, 4, 5] [0, 2, 3, 4, 5] 0)) (stOf [0, 4, 5] [.str s, .rowA 0, .int .i64 at_] [.row .str out]) = some ((bif lbOk s then (.exit 0, [.str s, .dead, .dead, .rowA 0, .int .i64 (lbAt s)], [.row .str (lbOut s)]) else (.ret, [.str s, .rowA 0, .int .i64 2, .rowA 1, .int .i64 (lbAt s)], [.row .str [], .row .str (lbOut s)]) : Ex × List AV × List LObj).1, stOf [0, 2, 3, 4, 5] (bif lbOk s then (.exit 0, [.str s, .dead, .dead, .rowA 0, .int .i64 (lbAt s)], [.row .str (lbOut s)]) else (.ret, [.str s, .rowA 0, .int .i64 2, .rowA 1, .int .i64 (lbAt s)], [.row .str [], .row .str (lbOut s)]) : Ex × List AV × List LObj).2.1 (bif lbOk s then (.exit 0, [.str s, .dead, .dead, .rowA 0, .int .i64 (lbAt s)], [.row .str (lbOut s)]) else (.ret, [.str s, .rowA 0, .int .i64 2, .rowA 1, .int .i64 (lbAt s)], [.row .str [], .row .str (lbOut s)]) : Ex × List AV × List LObj).2.2)
  simp only [lbC, Bool.and_eq_true, decide_eq_true_eq, List.isEmpty_iff, bigS] at hc
  obtain ⟨⟨rfl, rfl⟩, hb⟩ := hc
  refine wf66 _ s (lbI s) (fun at_ _ => (s.length - at_).toNat) _ ?_ _ 0 [] ⟨by omega, by omega, by simp, rfl⟩
  rintro at_ out ⟨h0, h1, h2, h3⟩
  unfold r66
  have hgood : ∀ k' out', labAt s at_.toNat out = (true, k', out') → lbOk s = true ∧ lbAt s = k' ∧ lbOut s = out' := fun k' out' h => by
    unfold lbOk lbAt lbOut
    rw [← h3, h]
    exact ⟨rfl, rfl, rfl⟩
  have hbad : ∀ k' out', labAt s at_.toNat out = (false, k', out') → lbOk s = false ∧ lbAt s = k' ∧ lbOut s = out' := fun k' out' h => by
    unfold lbOk lbAt lbOut
    rw [← h3, h]
    exact ⟨rfl, rfl, rfl⟩
  have hto : ((at_.toNat : Nat) : Int) = at_ := Int.toNat_of_nonneg h0
  by_cases hlt : at_ < s.length
  · have hn : at_.toNat < s.length := by omega
    refine Tr.all_t (dec_true hlt) (Tr.all_t (dec_true h0) (Tr.all_t (dec_true hlt) (Tr.all_br (fun c1 => ?_) fun c1 => ?_)))
    · have hk := byte_in (s.getD at_.toNat 0)
      have hk0 : (s.getD at_.toNat 0).toNat ≠ 0 := by
        have := bne_iff_ne.1 c1
        omega
      simp (disch := omega) only [IntWalk.i64_in]
      refine Tr.all_t (dec_true h0) (Tr.all_t (dec_true hlt) (Tr.all_br (fun c2 => ?_) fun c2 => Tr.all_br (fun c3 => ?_) fun c3 => ?_))
      · simp only [decide_eq_true_eq] at c2
        obtain ⟨e1, e2, e3⟩ := hbad at_.toNat out (by rw [labAt, dif_pos hn, if_neg hk0, if_pos (by omega)])
        rw [e1, e2, e3, hto]
        exact Tr.all_ret (.inl rfl)
      · simp only [decide_eq_true_eq] at c3
        obtain ⟨e1, e2, e3⟩ := hbad at_.toNat out (by rw [labAt, dif_pos hn, if_neg hk0, if_pos (by omega)])
        rw [e1, e2, e3, hto]
        exact Tr.all_ret (.inl rfl)
      · simp only [decide_eq_false_iff_not] at c2 c3
        refine Tr.all_t (by rw [dec_true (by omega), dec_true (by omega)]; rfl) (Tr.all_t (by rw [dec_true (by omega), dec_true (by omega)]; rfl) (Tr.all_t (fits_true (by omega) (by omega)) (Tr.all_ret (.inr ⟨_, _, rfl, ⟨by omega, by omega, by simp; omega, ?_⟩, by omega⟩))))
        rw [← h3, labAt.eq_1 s at_.toNat out, dif_pos hn, if_neg hk0, if_neg (by omega)]
        rw [show (at_ + 1 + ((s.getD at_.toNat 0).toNat : Int)).toNat = at_.toNat + 1 + (s.getD at_.toNat 0).toNat by omega, show (at_ + 1).toNat = at_.toNat + 1 by omega, show at_.toNat + 1 + (s.getD at_.toNat 0).toNat - (at_.toNat + 1) = (s.getD at_.toNat 0).toNat by omega]
    · have hk0 : (s.getD at_.toNat 0).toNat = 0 := by
        have := bne_eq_false_iff_eq.1 c1
        omega
      obtain ⟨e1, e2, e3⟩ := hgood at_.toNat out (by rw [labAt, dif_pos hn, if_pos hk0])
      rw [e1, e2, e3, hto]
      exact Tr.all_ret (.inl rfl)
  · obtain ⟨e1, e2, e3⟩ := hgood at_.toNat out (by rw [labAt, dif_neg (by omega)])
    rw [e1, e2, e3, hto]
    exact Tr.all_f (dec_false hlt) (Tr.all_ret (.inl rfl))
/-- derrickref02.Labels -/
def t66 (s : List UInt8) : Tr Res := Tr.br (lbC s (0 : Int) []) (Tr.br (lbOk s) (Tr.br (lbAt s != IntKind.wrap IntKind.i64 ((↑(List.length s) : Int) - (1 : Int))) (Tr.ret ([AV.list Ty.str [], AV.int IntKind.i64 (2 : Int)], [])) (Tr.br (decide ((↑(List.length s) : Int) > (255 : Int))) (Tr.ret ([AV.list Ty.str [], AV.int IntKind.i64 (3 : Int)], [])) (Tr.ret ([AV.list Ty.str (lbOut s), AV.int IntKind.i64 (0 : Int)], [])))) (Tr.ret ([AV.list Ty.str [], AV.int IntKind.i64 (2 : Int)], []))) Tr.no
def os66 : OSpec := { f := 66, sh := [.d .str false], so := [], F := fun (s, _) _ => t66 s }
set_option maxRecDepth 1000000 in
theorem fn66 (s : List UInt8) : evC T0 (orcB [] []) (lpOf h66 0 (lsOf [ls66])) c66 1000000 (startSt [.str s] [] Try.f66.ntmps) (finishK T0 false 0 Try.f66) = (t66 s).get := by kernel_rfl
theorem ok66 : os66.Ok Try.prog := by
  refine os_ok mixed0 tab0 (orcB_sound all_nil all_nil) h66 (d := 0) (n0 := 0) (S := lsOf [ls66]) Try.func66 (by kernel_rfl) (c := c66) (by kernel_rfl) rfl (loops_eq (xs := [(0, b66)]) (by kernel_rfl) (all_cons (ls_here (loop66 _)) all_nil)) (by omega) (by kernel_rfl) ?_
  intro x'' y'' q'' hq''
  obtain ⟨(s : List UInt8), _⟩ := x''
  exact (fn66 s).trans hq''
def fs66 : FSpec := fsT 66 [(.str, false)] [((.list .str), false), ((.int .i64), false)] fun (s, _) => t66 s
theorem okf66 : fs66.Ok Try.prog := fsT_ok fun x'' r'' hr'' => ok66 x'' () r'' hr''
/-- derrickref02.May -/
def t43 (s : List UInt8) : Tr Res := Tr.br (lbC s (0 : Int) []) (Tr.br (lbOk s) (Tr.br (lbAt s != IntKind.wrap IntKind.i64 ((↑(List.length s) : Int) - (1 : Int))) (Tr.ret ([AV.bool false], [])) (Tr.br (decide ((↑(List.length s) : Int) > (255 : Int))) (Tr.ret ([AV.bool false], [])) (Tr.br (bigS s) (Tr.ret ([AV.bool (foldB s == s)], [])) Tr.no))) (Tr.ret ([AV.bool false], []))) Tr.no
def os43 : OSpec := { f := 43, sh := [.d .str false], so := [], F := fun (s, _) _ => t43 s }
set_option maxRecDepth 1000000 in
theorem fn43 (s : List UInt8) : evC T0 (orcB [fs66, fs57w] []) (lpOf h43 0 (lsOf [])) c43 1000000 (startSt [.str s] [] Try.f43.ntmps) (finishK T0 false 0 Try.f43) = (t43 s).get := by kernel_rfl
theorem ok43 : os43.Ok Try.prog := by
  refine os_ok mixed0 tab0 (orcB_sound (all_cons okf66 (all_cons okf57w all_nil)) all_nil) h43 (d := 0) (n0 := 0) (S := lsOf []) Try.func43 (by kernel_rfl) (c := c43) (by kernel_rfl) rfl (no_loops (by kernel_rfl)) (by omega) (by kernel_rfl) ?_
  intro x'' y'' q'' hq''
  obtain ⟨(s : List UInt8), _⟩ := x''
  exact (fn43 s).trans hq''
def fs43 : FSpec := fsT 43 [(.str, false)] [(.bool, false)] fun (s, _) => t43 s
theorem okf43 : fs43.Ok Try.prog := fsT_ok fun x'' r'' hr'' => ok43 x'' () r'' hr''
/-- Whether a text is a name. -/
def mayS (s : List UInt8) : Bool := lbOk s && (decide (lbAt s = (s.length : Int) - 1) && (decide (s.length ≤ 255) && (foldB s == s)))
def fs43w : FSpec := fs43.like fun (s, _) => .on (bigS s) (mayS s, ())
theorem okf43w : fs43w.Ok Try.prog := by
  refine flike_ok okf43 _ ?_
  rintro ⟨(s : List UInt8), _⟩ y h
  obtain ⟨hb, rfl⟩ := Tr.get_on h
  have hb' := hb
  simp only [bigS, decide_eq_true_eq] at hb'
  refine convR_of (vs := [.bool (mayS s)]) rfl rfl (Tr.get_of_all ?_)
  show (t43 s).all _
  unfold t43
  rw [IntWalk.i64_in _ (by omega)]
  refine Tr.all_t (by simp [lbC, hb]) (Tr.all_br (fun c1 => Tr.all_br (fun c2 => Tr.all_ret ?_) fun c2 => Tr.all_br (fun c3 => Tr.all_ret ?_) fun c3 => Tr.all_t hb (Tr.all_ret ?_)) fun c1 => Tr.all_ret ?_)
  · have := bne_iff_ne.1 c2
    simp [mayS, this]
  · simp only [decide_eq_true_eq] at c3
    have : ¬ s.length ≤ 255 := by omega
    simp [mayS, this]
  · have h2 := bne_eq_false_iff_eq.1 c2
    simp only [decide_eq_false_iff_not] at c3
    have : s.length ≤ 255 := by omega
    simp [mayS, c1, h2, this]
  · simp [mayS, c1]
end Go.Proofs.YtfepkpindchleaaE

/- name.each: what it yields. -/
namespace Go.Proofs.YtfepkpindchleaaB
open Go Go.RowKit Go.Shelf
attribute [local go_sem] Oper.semAt_some
theorem under9 : Try.prog.underlying 9 = some .string := by kernel_rfl
theorem run_slice2 (s : List UInt8) (a b : Nat) (hab : a ≤ b) (hb : b ≤ s.length) (i j : Int) (hi : i = a) (hj : j = b) (W : World) :
    (Instr.slice 9 (.string ⟨s.toArray⟩) (some (.int .i64 i)) (some (.int .i64 j)) none).run Try.prog W = .ok (.string ⟨((s.drop a).take (b - a)).toArray⟩) W := by
  subst hi hj
  have hs : (⟨s.toArray⟩ : ByteArray).size = s.length := by simp [ByteArray.size]
  have h2 : (Instr.sliceBounds false s.length s.length (some (.int .i64 (a : Int))) (some (.int .i64 (b : Int))) none).run Try.prog W = .ok (a, b, s.length) W := by
    have s1 : ∀ code, (Instr.sliceBound (.int .i64 (a : Int)) b code).run Try.prog W = .ok a W := fun code => by
      have := Go.Proofs.YtfepkpindchleaaE.bound_run (P := Try.prog) (w := W) (k := .i64) (i := (a : Int)) (y := b) (by omega) code
      simpa using this
    have s2 : ∀ code, (Instr.sliceBound (.int .i64 (b : Int)) s.length code).run Try.prog W = .ok b W := fun code => by
      have := Go.Proofs.YtfepkpindchleaaE.bound_run (P := Try.prog) (w := W) (k := .i64) (i := (b : Int)) (y := s.length) (by omega) code
      simpa using this
    simp only [Instr.sliceBounds, Sem.run_bind, Sem.run_pure, Result.andThen_ok, s1, s2, Bool.false_eq_true, if_false]
  simp [Instr.slice, run_underlying under9, hs, h2, ByteArray.extract_mk]
theorem run_slice1 (s : List UInt8) (a : Nat) (ha : a ≤ s.length) (i : Int) (hi : i = a) (W : World) :
    (Instr.slice 9 (.string ⟨s.toArray⟩) (some (.int .i64 i)) none none).run Try.prog W = .ok (.string ⟨(s.drop a).toArray⟩) W := by
  subst hi
  have hs : (⟨s.toArray⟩ : ByteArray).size = s.length := by simp [ByteArray.size]
  have h2 : (Instr.sliceBounds false s.length s.length (some (.int .i64 (a : Int))) none none).run Try.prog W = .ok (a, s.length, s.length) W := by
    have s1 : ∀ code, (Instr.sliceBound (.int .i64 (a : Int)) s.length code).run Try.prog W = .ok a W := fun code => by
      have := Go.Proofs.YtfepkpindchleaaE.bound_run (P := Try.prog) (w := W) (k := .i64) (i := (a : Int)) (y := s.length) (by omega) code
      simpa using this
    simp only [Instr.sliceBounds, Sem.run_bind, Sem.run_pure, Result.andThen_ok, s1, Bool.false_eq_true, if_false]
  simp [Instr.slice, run_underlying under9, hs, h2, ByteArray.extract_mk]
  exact List.take_of_length_le (by simp)
def eachStop : List UInt8 → Prop
  | [] => True
  | c :: t => c.toNat = 0 ∨ 63 < c.toNat ∨ t.length < c.toNat
set_option maxRecDepth 100000 in
set_option maxHeartbeats 1000000 in
theorem each1_in (n : Nat) (hn : 1 ≤ n) (l Bn : Nat) (J K : List UInt8 → World → Prop)
    (hB : ∀ r W, J r W → Boxed W Bn 9 (.string ⟨r.toArray⟩)) (hd : ∀ r W d, J r W → J r { W with drawn := d })
    (hY : ∀ (c : UInt8) (t : List UInt8) W, J (c :: t) W → c.toNat ≠ 0 → c.toNat ≤ 63 → c.toNat ≤ t.length →
      YieldAt Fence.wide (n - 1) Try.prog l #[.string ⟨(t.take c.toNat).toArray⟩, .string ⟨(t.drop c.toNat).toArray⟩] W fun e W' => e = .returned (.bool true) ∧ K (c :: t) W')
    (hK : ∀ c t W, K (c :: t) W → Boxed W Bn 9 (.string ⟨(c :: t).toArray⟩) ∧ J (t.drop c.toNat) (W.setCell ⟨Bn, 0, none⟩ (.string ⟨(t.drop c.toNat).toArray⟩)))
    (W : World) (r0 : List UInt8) (h0 : J r0 W) :
    CallsIn Fence.wide n Try.prog 74 #[.func (.yield l) #[] #[], .pointer (some ⟨Bn, 0, none⟩)] W fun e W' => (∃ v, e = .returned v) ∧ ∃ r, J r W' ∧ eachStop r := by
  refine callsIn_of_wp Try.func74 rfl trivial ?_ rfl
  simp only [Try.ntmps74, List.size_toArray, List.length_cons, List.length_nil, Nat.reduceAdd, Nat.reduceSub, Array.replicate_succ, Array.replicate_zero, List.push_toArray, List.append_toArray, List.nil_append, List.cons_append]
  gi_wp2
  gi_loopw [3] (fun p wr => ∃ (r : List UInt8), J r wr)
    (fun p wr => match wr.cell? ⟨Bn, 0, none⟩ with | some (.string b) => b.size | _ => 0)
  case atStart =>
    exact ⟨r0, h0⟩
  case round =>
    obtain ⟨r, hJ⟩ := hrel
    have hb := hB r _ hJ
    have hc := hb.cell
    cases r with
    | nil =>
      gi_wp2
      gi_quiet (fail)
      gi_wp2
      go_end0
      exact ⟨⟨_, rfl⟩, _, hd _ wr _ hJ, trivial⟩
    | cons c t =>
      have hget : ({ data := (c :: t).toArray } : ByteArray)[0]'(by simp [ByteArray.size]) = c := rfl
      have hsz : ({ data := (c :: t).toArray } : ByteArray).size = t.length + 1 := by simp [ByteArray.size]
      by_cases c0 : c.toNat = 0
      · gi_wp2
        gi_quiet (fail)
        gi_wp2
        go_end0
        exact ⟨⟨_, rfl⟩, _, hd _ wr _ hJ, .inl c0⟩
      have p0 : 0 < c.toNat := by omega
      have d0 : decide (0 < c.toNat) = true := by simpa using p0
      by_cases c1 : c.toNat ≤ 63
      · have d1 : decide ((c.toNat : Int) ≤ 63) = true := by simp; omega
        by_cases c2 : c.toNat ≤ t.length
        · have d2 : decide ((c.toNat : Int) < (t.length : Int) + 1) = true := by simp; omega
          gi_wp2
          gi_quiet (fail)
          gi_wp2
          rename_i nq _ _ _ _
          have hJ2 : J (c :: t) (wr.drewN (nq + 1)) := hd _ wr _ hJ
          have hb2 := hB _ _ hJ2
          have hc2 := hb2.cell
          obtain ⟨fn, tmps, assign, body, hy, hR⟩ := hY c t _ hJ2 c0 c1 c2
          have hs1 : ∀ W : World, (Instr.slice 9 (.string ⟨(c :: t).toArray⟩) (some (.int .i64 1)) (some (.int .i64 (1 + (c.toNat : Int)))) none).run Try.prog W = .ok (.string ⟨(t.take c.toNat).toArray⟩) W := fun W => by
            rw [run_slice2 (c :: t) 1 (1 + c.toNat) (by omega) (by simp; omega) 1 _ rfl (by omega) W]
            simp
          have hs2 : ∀ W : World, (Instr.slice 9 (.string ⟨(c :: t).toArray⟩) (some (.int .i64 (1 + (c.toNat : Int)))) none none).run Try.prog W = .ok (.string ⟨(t.drop c.toNat).toArray⟩) W := fun W => by
            rw [run_slice1 (c :: t) (1 + c.toNat) (by simp; omega) _ (by omega) W]
            simp [Nat.add_comm 1]
          gi_region_with (refine RoundIn.mono hR ?_; rintro e W3 ⟨rfl, hK3⟩; obtain ⟨hb3, hJ3⟩ := hK c t _ hK3; have hc3 := hb3.cell; have hf3 := hb3.frozen)
          all_goals gi_wp2
          all_goals (refine ⟨⟨_, hJ3⟩, ?_⟩; rw [hb3.set _ |>.cell, hc]; simp [ByteArray.size]; omega)
        · have d2 : decide ((c.toNat : Int) < (t.length : Int) + 1) = false := by simp; omega
          gi_wp2
          gi_quiet (fail)
          gi_wp2
          go_end0
          exact ⟨⟨_, rfl⟩, _, hd _ wr _ hJ, .inr (.inr (by omega))⟩
      · have d1 : decide ((c.toNat : Int) ≤ 63) = false := by simp; omega
        gi_wp2
        gi_quiet (fail)
        gi_wp2
        go_end0
        exact ⟨⟨_, rfl⟩, _, hd _ wr _ hJ, .inr (.inl (by omega))⟩
end Go.Proofs.YtfepkpindchleaaB

/- name.Labels: the walk. -/
namespace Go.Proofs.YtfepkpindchleaaB
open Go Go.RowKit Go.Shelf
attribute [local go_sem] Oper.semAt_some
set_option maxHeartbeats 1000000 in
theorem each_in (n : Nat) (s : List UInt8) (w : World) :
    CallsIn Fence.wide n Try.prog 72 #[.string ⟨s.toArray⟩] w fun e w' => e = .returned (.func (.func 74) #[] #[.pointer (some ⟨w.heap.size, 0, none⟩)]) ∧ w' = w.alloc (.cells #[.string ⟨s.toArray⟩] 9) := by
  refine callsIn_of_wp Try.func72 rfl trivial ?_ rfl
  simp only [Try.ntmps72, List.size_toArray, List.length_cons, List.length_nil, Nat.reduceAdd, Nat.reduceSub, Array.replicate_succ, Array.replicate_zero, List.push_toArray, List.append_toArray, List.nil_append, List.cons_append]
  gi_wp2
  go_ret
  exact ⟨rfl, rfl⟩
theorem info9 : (Try.prog.info? 9).map (fun i => (i.zero, i.size, i.bytes)) = some (some (.string ⟨#[]⟩), 1, 16) := by kernel_rfl
theorem under69 : Try.prog.underlying 69 = some (.slice 9) := by kernel_rfl
/-- The labels from a text's head on, and what is left behind them. -/
def eachF : List UInt8 → List (List UInt8) × List UInt8
  | [] => ([], [])
  | c :: t => if c.toNat = 0 ∨ 63 < c.toNat ∨ t.length < c.toNat then ([], c :: t) else ((t.take c.toNat) :: (eachF (t.drop c.toNat)).1, (eachF (t.drop c.toNat)).2)
termination_by s => s.length
decreasing_by all_goals (simp; omega)
theorem eachF_stop {r : List UInt8} (h : eachStop r) : eachF r = ([], r) := by
  cases r with
  | nil => rw [eachF]
  | cons c t => rw [eachF]; exact if_pos h
def strs (l : List (List UInt8)) : List Value := l.map fun s => .string ⟨s.toArray⟩

/-- What lies where, all through the loop. -/
structure JW (w : World) (rec : Loop) (st : LoopState) (v : Value) (k : Nat) (xs : List Value) (bn left : List UInt8) (W : World) : Prop where
  out : Boxed W w.heap.size 69 v
  row : W.ownsRow (w.heap.size + 5) 9 1 v k xs
  left : Boxed W (w.heap.size + 1) 9 (.string ⟨left.toArray⟩)
  box : Boxed W (w.heap.size + 2) 9 (.string ⟨bn.toArray⟩)
  bel : Below w.heap.size w W
  loop : W.heap[w.heap.size + 4]? = some (.loop { rec with state := st })
  dfr : W.heap[w.heap.size + 3]? = some (.deferred (some []))
theorem Boxed.drawn {W : World} {B : Nat} {t : TypeId} {v : Value} (h : Boxed W B t v) (d : Nat) : Boxed { W with drawn := d } B t v := h
section
variable {w : World} {rec : Loop} {st st' : LoopState} {v : Value} {k : Nat} {xs : List Value} {bn left : List UInt8} {W : World}
theorem JW.lt (h : JW w rec st v k xs bn left W) : w.heap.size + 4 < W.heap.size := (Array.getElem?_eq_some_iff.1 h.loop).1
theorem JW.drawn (h : JW w rec st v k xs bn left W) (d : Nat) : JW w rec st v k xs bn left { W with drawn := d } :=
  ⟨h.out, h.row, h.left, h.box, ⟨h.bel.os, h.bel.tape, h.bel.output, h.bel.size, h.bel.block⟩, h.loop, h.dfr⟩
theorem JW.putLoop (h : JW w rec st v k xs bn left W) {L : Loop} (hL : L = { rec with state := st' }) : JW w rec st' v k xs bn left (W.putObj (w.heap.size + 4) (.loop L)) := by
  subst hL
  have ot : ∀ j, j ≠ w.heap.size + 4 → (W.putObj (w.heap.size + 4) (.loop { rec with state := st' })).heap[j]? = W.heap[j]? := fun j hj => World.putObj_heap_other hj
  exact ⟨(ot _ (by omega)).trans h.out, ownsRow_putObj h.row _ h.loop rfl, (ot _ (by omega)).trans h.left, (ot _ (by omega)).trans h.box,
    ⟨h.bel.os, h.bel.tape, h.bel.output, by simpa using h.bel.size, fun j hj => (ot _ (by omega)).trans (h.bel.block j hj)⟩, World.putObj_heap_same h.lt, (ot _ (by omega)).trans h.dfr⟩
theorem JW.ne (h : JW w rec st v k xs bn left W) {j : Nat} (hj : j < w.heap.size + 5) : some j ≠ v.ownBlock := fun e => by
  have := (h.row.lt j e.symm).1
  omega
theorem JW.mid (h : JW w rec st v k xs bn left W) {tmp : Obj} {w1 : World} (hg : (W.alloc tmp).grownBy w1 v.ownBlock) : Boxed w1 w.heap.size 69 v := by
  have hlt := h.lt
  exact ((hg.block _ (by simp; omega) (h.ne (by omega))).trans (Below.heap_alloc _ _ _ (by omega))).trans h.out
theorem JW.grown (h : JW w rec st v k xs bn left W) {tmp : Obj} {w1 : World} {v' : Value} {k' : Nat} {ys : List Value} (hown : w1.ownsRow (w.heap.size + 5) 9 1 v' k' ys) (hg : (W.alloc tmp).grownBy w1 v.ownBlock) :
    JW w rec st v' k' ys bn left (w1.setCell ⟨w.heap.size, 0, none⟩ v') := by
  have hlt := h.lt
  have kp : ∀ j, j < w.heap.size + 5 → w1.heap[j]? = W.heap[j]? := fun j hj => (hg.block j (by simp; omega) (h.ne hj)).trans (Below.heap_alloc _ _ _ (by omega))
  have hv1 : Boxed w1 w.heap.size 69 v := (kp _ (by omega)).trans h.out
  have ot : ∀ j, j ≠ w.heap.size → (w1.setCell ⟨w.heap.size, 0, none⟩ v').heap[j]? = w1.heap[j]? := fun j hj => Below.heap_setCell _ _ _ _ hj
  refine ⟨hv1.set v', ?_, (ot _ (by omega)).trans ((kp _ (by omega)).trans h.left), (ot _ (by omega)).trans ((kp _ (by omega)).trans h.box), ?_, (ot _ (by omega)).trans ((kp _ (by omega)).trans h.loop), (ot _ (by omega)).trans ((kp _ (by omega)).trans h.dfr)⟩
  · refine hown.kept (grownBy_setCell' w1 w.heap.size v') (.inr fun e => ?_)
    have := (hown.lt _ e).1
    omega
  · refine ((h.bel.alloc (by omega) tmp).grown hg (by simp; omega) fun j ej => ?_).setCell (p := ⟨w.heap.size, 0, none⟩) (Nat.le_refl _) v'
    have := (h.row.lt j ej).1
    omega
theorem JW.setLeft (h : JW w rec st v k xs bn left W) (l : List UInt8) : JW w rec st v k xs bn l (W.setCell ⟨w.heap.size + 1, 0, none⟩ (.string ⟨l.toArray⟩)) := by
  have ot : ∀ j, j ≠ w.heap.size + 1 → (W.setCell ⟨w.heap.size + 1, 0, none⟩ (.string ⟨l.toArray⟩)).heap[j]? = W.heap[j]? := fun j hj => Below.heap_setCell _ _ _ _ hj
  refine ⟨(ot _ (by omega)).trans h.out, h.row.kept (grownBy_setCell' W _ _) (.inr (h.ne (by omega)).symm), h.left.set _, (ot _ (by omega)).trans h.box, h.bel.setCell (p := ⟨w.heap.size + 1, 0, none⟩) (by simp) _, (ot _ (by omega)).trans h.loop, (ot _ (by omega)).trans h.dfr⟩
theorem JW.setBox (h : JW w rec st v k xs bn left W) (l : List UInt8) : JW w rec st v k xs l left (W.setCell ⟨w.heap.size + 2, 0, none⟩ (.string ⟨l.toArray⟩)) := by
  have ot : ∀ j, j ≠ w.heap.size + 2 → (W.setCell ⟨w.heap.size + 2, 0, none⟩ (.string ⟨l.toArray⟩)).heap[j]? = W.heap[j]? := fun j hj => Below.heap_setCell _ _ _ _ hj
  refine ⟨(ot _ (by omega)).trans h.out, h.row.kept (grownBy_setCell' W _ _) (.inr (h.ne (by omega)).symm), (ot _ (by omega)).trans h.left, h.box.set _, h.bel.setCell (p := ⟨w.heap.size + 2, 0, none⟩) (by simp) _, (ot _ (by omega)).trans h.loop, (ot _ (by omega)).trans h.dfr⟩
end
theorem strs_len (l : List (List UInt8)) : (strs l).length = l.length := by simp [strs]
theorem strs_add (l : List (List UInt8)) (x : List UInt8) : strs l ++ [.string ⟨x.toArray⟩] = strs (l ++ [x]) := by simp [strs]
theorem eachF_step (pre : List (List UInt8)) {s t : List UInt8} {c : UInt8} (h0 : c.toNat ≠ 0) (h1 : c.toNat ≤ 63) (h2 : c.toNat ≤ t.length) (he : eachF s = (pre ++ (eachF (c :: t)).1, (eachF (c :: t)).2)) :
    eachF s = ((pre ++ [t.take c.toNat]) ++ (eachF (t.drop c.toNat)).1, (eachF (t.drop c.toNat)).2) := by
  rw [he, eachF, if_neg (by omega)]
  simp
/-- How far the loop has come: labels are taken off, what is left is told. -/
def JR (w : World) (s : List UInt8) (rec : Loop) (r : List UInt8) (W : World) : Prop :=
  ∃ pre v, JW w rec .ready v pre.length (strs pre) r r W ∧ eachF s = (pre ++ (eachF r).1, (eachF r).2) ∧ pre.length + r.length ≤ s.length
def KR (w : World) (s : List UInt8) (rec : Loop) (cs : List UInt8) (W : World) : Prop :=
  ∃ c t pre v, cs = c :: t ∧ JW w rec .ready v pre.length (strs pre) (c :: t) (t.drop c.toNat) W ∧ eachF s = (pre ++ (eachF (t.drop c.toNat)).1, (eachF (t.drop c.toNat)).2) ∧ pre.length + (t.drop c.toNat).length ≤ s.length
/-- What Labels comes to. -/
def LabPost (w : World) (s : List UInt8) (v : Value) (W' : World) : Prop :=
  ∃ u e, v = .tuple #[u, .int .i64 e] ∧ Below w.heap.size w W' ∧
    (((eachF s).2 ≠ [0] ∧ u = .slice none 0 0 ∧ e = 2) ∨ ((eachF s).2 = [0] ∧ 255 < s.length ∧ u = .slice none 0 0 ∧ e = 3) ∨
     ((eachF s).2 = [0] ∧ s.length ≤ 255 ∧ e = 0 ∧ W'.ownsRow (w.heap.size + 5) 9 1 u (eachF s).1.length (strs (eachF s).1)))

theorem range_core (n : Nat) (w : World) (s : List UInt8) (W0 : World) (L0 : Loop) (hps : L0.params.size = 2) (hn : 1 ≤ n) (hJ : JR w s L0 s (W0.alloc (.loop L0)))
    (hround : ∀ (c : UInt8) (t : List UInt8) (pre : List (List UInt8)) (v : Value) (W : World), JW w L0 .ready v pre.length (strs pre) (c :: t) (c :: t) W → c.toNat ≤ t.length → pre.length + (c :: t).length ≤ s.length →
      (L0.assign).wpIn (Fence.wide.inRound (w.heap.size + 4)) (n - 1) Try.prog (Exit.then (fun a₁ w₁ => ∃ w₂, (Instr.beginRound (w.heap.size + 4)).run Try.prog w₁ = .ok () w₂ ∧
        L0.body.wpIn (Fence.wide.inRound (w.heap.size + 4)) (n - 1) Try.prog (roundPost Try.prog (w.heap.size + 4) fun e W' => e = .returned (.bool true) ∧ ∃ v', JW w L0 .ready v' (pre ++ [t.take c.toNat]).length (strs (pre ++ [t.take c.toNat])) (c :: t) (t.drop c.toNat) W') a₁ w₂) (fun _ _ _ => False))
        { tmps := (L0.params.zip #[.string ⟨(t.take c.toNat).toArray⟩, .string ⟨(t.drop c.toNat).toArray⟩]).foldl (fun t (p, v) => t.setIfInBounds p v) L0.tmps, defers := [] } W) :
    CallsIn Fence.wide n Try.prog 74 #[.func (.yield (w.heap.size + 4)) #[] #[], .pointer (some ⟨w.heap.size + 1 + 1, 0, none⟩)] (W0.alloc (.loop L0)) fun e W' => (∃ v, e = .returned v) ∧ ∃ r, JR w s L0 r W' ∧ eachStop r := by
  refine each1_in n hn (w.heap.size + 4) (w.heap.size + 1 + 1) (JR w s L0) (KR w s L0) ?_ ?_ ?_ ?_ _ s hJ
  · rintro r W ⟨pre, v, h, _⟩
    exact h.box
  · rintro r W d ⟨pre, v, h, h2⟩
    exact ⟨pre, v, h.drawn d, h2⟩
  · rintro c t W ⟨pre, v, h, h2, h3⟩ h0 h63 hle
    have hy := run_yield (P := Try.prog) (args := #[.string ⟨(t.take c.toNat).toArray⟩, .string ⟨(t.drop c.toNat).toArray⟩]) h.loop (by simp [hps])
    refine ⟨L0.fn, _, L0.assign, L0.body, hy, roundIn_of_wpIn trivial ?_⟩
    refine wpIn_mono (hround c t pre v W h hle h3) ?_
    intro e a' W' hq
    cases e <;> try exact hq
    obtain ⟨w₂, hb, hw⟩ := hq
    refine ⟨w₂, hb, wpIn_mono hw ?_⟩
    intro e a' W' hq
    cases e with
    | normal =>
      obtain ⟨v1, w1, he, hr, v', hv'⟩ := hq
      refine ⟨v1, w1, he, hr, c, t, _, v', rfl, hv', eachF_step pre h0 h63 hle h2, ?_⟩
      simp at h3 ⊢
      omega
    | ret =>
      obtain ⟨v1, w1, he, hr, v', hv'⟩ := hq
      refine ⟨v1, w1, he, hr, c, t, _, v', rfl, hv', eachF_step pre h0 h63 hle h2, ?_⟩
      simp at h3 ⊢
      omega
    | exit id =>
      obtain ⟨v1, w1, he, hr, v', hv'⟩ := hq
      refine ⟨v1, w1, he, hr, c, t, _, v', rfl, hv', eachF_step pre h0 h63 hle h2, ?_⟩
      simp at h3 ⊢
      omega
    | goto id =>
      obtain ⟨v1, w1, he, hr, v', hv'⟩ := hq
      refine ⟨v1, w1, he, hr, c, t, _, v', rfl, hv', eachF_step pre h0 h63 hle h2, ?_⟩
      simp at h3 ⊢
      omega
    | panic ch => exact hq
    | outgrown => exact hq
  · rintro c t W ⟨c', t', pre, v, he, h, h2, h3⟩
    cases he
    exact ⟨h.box, pre, v, h.setBox _, h2, h3⟩

theorem range_labels {g : Operand} {ps : Array Tmp} {assign body : Code} {Q : Exit → Act → World → Prop} {a : Act} (n : Nat) (hn : 3 ≤ n) (w : World) (s : List UInt8) (w3 : World)
    (hg : a.eval g = .func (.func 74) #[] #[.pointer (some ⟨w.heap.size + 1 + 1, 0, none⟩)]) (hps : ps.size = 2) (hsz : w3.heap.size = w.heap.size + 3)
    (b0 : Boxed w3 w.heap.size 69 (.slice none 0 0)) (b1 : Boxed w3 (w.heap.size + 1) 9 (.string ⟨s.toArray⟩)) (b2 : Boxed w3 (w.heap.size + 2) 9 (.string ⟨s.toArray⟩)) (bB : Below w.heap.size w w3)
    (hround : ∀ (L0 : Loop) (_ : L0.pending = none) (c : UInt8) (t : List UInt8) (pre : List (List UInt8)) (v : Value) (W : World), JW w L0 .ready v pre.length (strs pre) (c :: t) (c :: t) W → c.toNat ≤ t.length → pre.length + (c :: t).length ≤ s.length →
      assign.wpIn (Fence.wide.inRound (w.heap.size + 4)) (n - 1 - 1) Try.prog (Exit.then (fun a₁ w₁ => ∃ w₂, (Instr.beginRound (w.heap.size + 4)).run Try.prog w₁ = .ok () w₂ ∧
        body.wpIn (Fence.wide.inRound (w.heap.size + 4)) (n - 1 - 1) Try.prog (roundPost Try.prog (w.heap.size + 4) fun e W' => e = .returned (.bool true) ∧ ∃ v', JW w L0 .ready v' (pre ++ [t.take c.toNat]).length (strs (pre ++ [t.take c.toNat])) (c :: t) (t.drop c.toNat) W') a₁ w₂) (fun _ _ _ => False))
        { tmps := (ps.zip #[.string ⟨(t.take c.toNat).toArray⟩, .string ⟨(t.drop c.toNat).toArray⟩]).foldl (fun t (p, v) => t.setIfInBounds p v) a.tmps, defers := [] } W)
    (hdone : ∀ (L0 : Loop) (pre : List (List UInt8)) (v : Value) (r : List UInt8) (W : World), JW w L0 .exhausted v pre.length (strs pre) r r W → eachF s = (pre, r) → Q .normal { a with defers := { target := .collected w3.heap.size, args := #[] } :: a.defers } W) :
    (Code.rangeFunc g ps assign body).wpIn Fence.wide n Try.prog Q a w3 := by
  refine wpIn_rangeFunc ?_
  intro fn hfn
  obtain ⟨L0, hL0⟩ : ∃ L0 : Loop, L0 = { state := .ready, pending := none, fn := fn, tmps := a.tmps, params := ps, assign := assign, body := body, defers := w3.heap.size } := ⟨_, rfl⟩
  have hJ : JR w s L0 s ((w3.alloc (.deferred (some []))).alloc (.loop L0)) := by
    have e0 : L0 = { L0 with state := .ready } := by rw [hL0]
    refine ⟨[], .slice none 0 0, ⟨(b0.alloc _).alloc _, World.ownsRow_nil _ _ _ _, (b1.alloc _).alloc _, (b2.alloc _).alloc _, ((bB.alloc (by omega) _).alloc (by simp; omega) _), ?_, ?_⟩, by simp, by simp⟩
    · have := World.alloc_heap_new (w3.alloc (.deferred (some []))) (.loop L0)
      rw [World.size_alloc, hsz] at this
      rw [← e0]
      exact this
    · rw [show w.heap.size + 3 = w3.heap.size by omega]
      exact (Below.heap_alloc _ _ _ (by simp)).trans (World.alloc_heap_new w3 _)
  refine ⟨w.heap.size + 4, [{ target := .collected w3.heap.size, args := #[] }], (w3.alloc (.deferred (some []))).alloc (.loop L0), { target := .fn (.func 74) #[.pointer (some ⟨w.heap.size + 1 + 1, 0, none⟩)], args := #[.func (.yield (w.heap.size + 4)) #[] #[]] }, (w3.alloc (.deferred (some []))).alloc (.loop L0), 74,
    #[.func (.yield (w.heap.size + 4)) #[] #[], .pointer (some ⟨w.heap.size + 1 + 1, 0, none⟩)], (w3.alloc (.deferred (some []))).alloc (.loop L0), ?_, ?_, ?_, ?_, fun _ => (by omega), ?_⟩
  · rw [hL0, show w.heap.size + 4 = w3.heap.size + 1 by omega]
    exact run_enterLoop_outer _ _ _ _ _
  · simp only [resolve, hg]
    simp [go_sem]
  · intro f' hf'; trivial
  · simp [invoke, go_sem]
  · refine (range_core (n - 1) w s _ L0 (by rw [hL0]; exact hps) (by omega) hJ ?_).mono ?_
    · intro c t pre v W hJ hle hb
      have := hround L0 (by rw [hL0]) c t pre v W hJ hle hb
      rw [hL0] at this ⊢
      exact this
    · rintro e W2 ⟨⟨v, rfl⟩, r, ⟨pre, v', hJ2, he, _⟩, hstop⟩
      rw [eachF_stop hstop, List.append_nil] at he
      have hend := run_endLoop (P := Try.prog) hJ2.loop (by simp)
      refine ⟨none, _, ?_, hdone L0 pre v' r _ (hJ2.putLoop (st' := .exhausted) rfl) he⟩
      rw [hend, hL0]
set_option maxRecDepth 100000 in
set_option maxHeartbeats 2000000 in
theorem Labels_in (n : Nat) (hn : 3 ≤ n) (s : List UInt8) (hs : s.length ≤ 1000000000000) (w : World) :
    CallsIn Fence.wide n Try.prog 58 #[.string ⟨s.toArray⟩] w fun e W' => ∃ v, e = .returned v ∧ LabPost w s v W' := by
  have h1 : 1 ≤ n := by omega
  obtain ⟨i0, hi, hz0, hz1, hz2⟩ := info_parts info9
  refine callsIn_of_wp_marks Try.func58 rfl trivial ?_ rfl
  simp only [Try.ntmps58, List.size_toArray, List.length_cons, List.length_nil, Nat.reduceAdd, Nat.reduceSub, Array.replicate_succ, Array.replicate_zero, List.push_toArray, List.append_toArray, List.nil_append, List.cons_append]
  gi_wp2
  refine ⟨trivial, (each_in (n - 1) s _).mono ?_⟩
  rintro e w' ⟨rfl, rfl⟩
  gi_wp2
  rename_i Q K hK
  obtain ⟨w3, hw3⟩ : ∃ w3, ((w.alloc (.cells #[.slice none 0 0] 69)).alloc (.cells #[.string ⟨s.toArray⟩] 9)).alloc (.cells #[.string ⟨s.toArray⟩] 9) = w3 := ⟨_, rfl⟩
  have hsz : w3.heap.size = w.heap.size + 3 := by rw [← hw3]; simp
  have b0 : Boxed w3 w.heap.size 69 (.slice none 0 0) := by rw [← hw3]; exact ((Boxed.new w 69 _).alloc _).alloc _
  have b1 : Boxed w3 (w.heap.size + 1) 9 (.string ⟨s.toArray⟩) := by
    rw [← hw3]
    have := (Boxed.new (w.alloc (.cells #[.slice none 0 0] 69)) 9 (.string ⟨s.toArray⟩)).alloc (.cells #[.string ⟨s.toArray⟩] 9)
    simpa using this
  have b2 : Boxed w3 (w.heap.size + 2) 9 (.string ⟨s.toArray⟩) := by
    rw [← hw3]
    have := Boxed.new ((w.alloc (.cells #[.slice none 0 0] 69)).alloc (.cells #[.string ⟨s.toArray⟩] 9)) 9 (.string ⟨s.toArray⟩)
    simpa using this
  have bB : Below w.heap.size w w3 := by
    rw [← hw3]
    exact (((Below.refl _ w).alloc (Nat.le_refl _) _).alloc (by simp) _).alloc (by simp; omega) _
  rw [hw3]
  refine range_labels n hn w s w3 rfl rfl hsz b0 b1 b2 bB ?_ ?_
  · intro L0 hpe c t pre v W hJ hle hb
    gi_wp2
    have hpl : pre.length + 1 ≤ s.length := by simp at hb; omega
    refine ⟨_, run_beginRound hJ.loop rfl, ?_⟩
    have hJ2 := hJ.putLoop (st' := .busy) (L := { { L0 with state := .ready } with state := .busy }) rfl
    obtain ⟨W2, hW2⟩ : ∃ W2, W.putObj (w.heap.size + 4) (.loop { { L0 with state := .ready } with state := .busy }) = W2 := ⟨_, rfl⟩
    rw [hW2] at hJ2 ⊢
    have hc := hJ2.out.cell
    have hlt := hJ2.lt
    gi_wp2_with (gi_at_builtin; refine wpListIn_append_own _ rfl _ _ 69 rfl (w.heap.size + 5) 9 i0 (.string ⟨#[]⟩) 1 16 under69 hi hz0 hz1 hz2 rfl (by decide) _ _ _ rfl (hJ2.row.alloc _) ⟨W2.heap.size, 0, none⟩ 1 1 [.string ⟨(t.take c.toNat).toArray⟩] rfl rfl (cell_one_new _ _ _) (by simp [Value.oneCell']) (by simp [maxLen]; omega) (by omega) (by simp; omega) ?_; intro v' w1 hown' hgrow _; obtain ⟨g', cap', rfl⟩ := ownsRow_succ hown'; have hJ3 := hJ2.grown hown' hgrow; have hm := hJ2.mid hgrow; have hc1 := hm.cell; have hf1 := hm.frozen; have hc2 := hJ3.left.cell; have hf2 := hJ3.left.frozen)
    have hJ4 := hJ3.setLeft (t.drop c.toNat)
    have hend := run_endRound (P := Try.prog) none hJ4.loop
    have hJ5 := hJ4.putLoop (st' := .ready) (L := { { L0 with state := .busy } with state := if (none : Option Code).isNone then .ready else .done, pending := none }) (by cases L0; cases hpe; rfl)
    rw [strs_add] at hJ5
    refine ⟨_, _, hend, rfl, .slice (some ⟨g', 0, none⟩) (pre.length + 1) cap', ?_⟩
    exact hJ5
  · intro L0 pre v r W hJ he
    have hc := hJ.left.cell
    have hc0 := hJ.out.cell
    have hdef : W.heap[w3.heap.size]? = some (.deferred (some [])) := by rw [hsz]; exact hJ.dfr
    have hB : Below w.heap.size w (W.putObj w3.heap.size (.deferred none)) :=
      ⟨hJ.bel.os, hJ.bel.tape, hJ.bel.output, by simpa using hJ.bel.size, fun j hj => (World.putObj_heap_other (by omega)).trans (hJ.bel.block j hj)⟩
    have hrow := ownsRow_putObj hJ.row (.deferred none) hdef rfl
    gi_wp2
    · rename_i hr
      refine ⟨by simp, .inl ⟨_, _, rfl, run_takeDeferred hdef, ?_⟩⟩
      refine ⟨_, results_tmp2 rfl _ _ _, _, rfl, _, _, rfl, hB, .inl ⟨?_, rfl, rfl⟩⟩
      rw [he]
      simpa using hr
    · rename_i hr hl
      refine ⟨by simp, .inl ⟨_, _, rfl, run_takeDeferred hdef, ?_⟩⟩
      refine ⟨_, results_tmp2 rfl _ _ _, _, rfl, _, _, rfl, hB, .inr (.inl ⟨?_, by omega, rfl, rfl⟩)⟩
      rw [he]
      simpa using hr
    · rename_i hr hl
      refine ⟨by simp, .inl ⟨_, _, rfl, run_takeDeferred hdef, ?_⟩⟩
      refine ⟨_, results_tmp2 rfl _ _ _, _, rfl, _, _, rfl, hB, .inr (.inr ⟨?_, by omega, rfl, ?_⟩)⟩
      · rw [he]
        simpa using hr
      · rw [he]
        exact hrow
end Go.Proofs.YtfepkpindchleaaB

/- strings.Builder: copyCheck, String: the walks. -/
namespace Go.Proofs.YtfepkpindchleaaB
open Go Go.RowKit Go.Shelf
theorem under88 : Try.prog.underlying 86 = some (.pointer 88) := by kernel_rfl
theorem under123 : Try.prog.underlying 123 = some .unsafePointer := by kernel_rfl
theorem info88 : (Try.prog.info? 88).map (·.size) = some 2 := by kernel_rfl
theorem lies88 : liesAt Try.prog Try.prog.depth 88 (2 / Try.prog.cellsOf 88) 0 88 1 = true := by kernel_rfl
set_option maxRecDepth 100000 in
set_option maxHeartbeats 2000000 in
theorem check_new (b : Nat) (v : Value) (fz : Nat × Nat) (w : World) (h : w.heap[b]? = some (.cells #[.pointer none, v] 88 fz)) (hfz : ¬ (fz.1 ≤ 0 ∧ 0 < fz.2)) :
    Calls Try.prog 69 #[.pointer (some ⟨b, 0, none⟩)] w fun e W' => e = .returned (.tuple #[]) ∧ W' = w.setCell ⟨b, 0, none⟩ (.pointer (some ⟨b, 0, none⟩)) := by
  obtain ⟨j, hj, hjs⟩ := Option.map_eq_some_iff.1 info88
  have hc : w.cell? ⟨b, 0, none⟩ = some (.pointer none) := by simp [World.cell?, h]
  have hf : w.frozen? ⟨b, 0, none⟩ = false := by
    simp only [World.frozen?, h]
    simp
    intro h1
    simp at hfz
    omega
  have hsh : w.shape? b = some (88, 2) := by simp [World.shape?, h]
  go_enter Try.func69, Try.ntmps69
  go_wp2
  rw [Lib.run_to_unsafe w ⟨b, 0, none⟩ under88 under123 hj (by rw [hjs]; decide) hsh (Nat.zero_lt_succ 1)]
  simp only [Result.andThen]
  rw [Oper.upon_value]
  go_wp2
  rw [run_callFunc_extern Try.func73 (by kernel_rfl) (by kernel_rfl) (by kernel_rfl) (e := Extern.AbiNoEscape.same) (by kernel_rfl)]
  rw [Lib.run_noEscape]
  simp only [Result.andThen]
  rw [Oper.upon_value]
  go_wp2
  rw [Lib.run_from_unsafe w ⟨b, 0, none⟩ under123 under88 hj hsh lies88]
  simp only [Result.andThen]
  rw [Oper.upon_value]
  go_wp2
  go_end0
  exact ⟨rfl, rfl⟩
set_option maxRecDepth 100000 in
set_option maxHeartbeats 2000000 in
theorem check_used (b : Nat) (w : World) (hc : w.cell? ⟨b, 0, none⟩ = some (.pointer (some ⟨b, 0, none⟩))) :
    Calls Try.prog 69 #[.pointer (some ⟨b, 0, none⟩)] w fun e W' => e = .returned (.tuple #[]) ∧ W' = w := by
  obtain ⟨j, hj, hjs⟩ := Option.map_eq_some_iff.1 info88
  go_enter Try.func69, Try.ntmps69
  go_wp2
  rw [Lib.run_neq_ptr_same w _ under88 hj]
  go_wp2
  go_end0
  exact ⟨rfl, rfl⟩

theorem lies_at {P : Program} {e : TypeId} (hc : P.cellsOf e = 1) (count off n : Nat) (hn : off + n ≤ count) : liesAt P P.depth e count off e n = true := by
  have hd : P.depth = (2 * (P.types.size + Made.depth) + 1) + 1 := rfl
  rw [hd]
  simp only [liesAt, Bool.or_eq_true]
  left
  rw [hd]
  simp [rowAt, hc, hn, sameLayout, Nat.mod_one]
theorem under116 : Try.prog.underlying 116 = some (.pointer 5) := by kernel_rfl
theorem cells5 : Try.prog.cellsOf 5 = 1 := by kernel_rfl
theorem run_str (w : World) (g o cells : Nat) (hsh : w.shape? g = some (5, cells)) (l : List UInt8) (h0 : l ≠ []) (hn : o + l.length ≤ cells) (h63 : l.length ≤ 9223372036854775807)
    (hcell : ∀ j x, l[j]? = some x → w.cell? ((⟨g, o, none⟩ : Addr).add j) = some (.int .u8 x.toNat)) :
    (Builtin.unsafeString_ #[116, 3] 9 #[.pointer (some ⟨g, o, none⟩), .int .i64 l.length]).run Try.prog w = .ok (.string ⟨l.toArray⟩) (w.freeze ⟨g, o, none⟩ l.length) := by
  have hl : l.length ≠ 0 := by simpa using h0
  have hlb := Lib.run_loadBytes (P := Try.prog) w l ⟨g, o, none⟩ .empty hcell
  have hlies := lies_at (P := Try.prog) cells5 (cells / Try.prog.cellsOf 5) o l.length (by rw [cells5]; simpa using hn)
  have h63' : ¬ (9223372036854775807 : Int) < (l.length : Int) := by omega
  have hdef : Builtin.unsafeString_ #[116, 3] 9 #[.pointer (some ⟨g, o, none⟩), .int .i64 l.length] =
      (do
        let n ← asInt (.int .i64 l.length)
        if n < 0 then runtimePanic (.error "unsafe.String: len out of range")
        if n > IntKind.i64.max then unsupported (.unsafePointer "String: a length above the largest int")
        if n = 0 then pure (.string .empty)
        else if ← variablesAt ⟨g, o, none⟩ (← elemOf 116) n.toNat then do
          let s ← loadBytes ⟨g, o, none⟩ .empty n.toNat
          freeze ⟨g, o, none⟩ n.toNat
          pure (.string s)
        else unsupported (.unsafePointer "String: not so many bytes at ptr")) := rfl
  rw [hdef]
  have hmax : IntKind.i64.max = 9223372036854775807 := rfl
  have hneg : ¬ (l.length : Int) < 0 := by omega
  simp [asInt, asIntOf, hmax, h63', hneg, hl, variablesAt, hsh, elemOf, run_underlying under116, hlies, hlb]
set_option maxRecDepth 100000 in
set_option maxHeartbeats 2000000 in
theorem string_walk (b g o cap cells : Nat) (l : List UInt8) (w : World) (hb : w.cell? ⟨b, 1, none⟩ = some (.slice (some ⟨g, o, none⟩) l.length cap)) (hcap : cap ≠ 0) (hsh : w.shape? g = some (5, cells)) (h0 : l ≠ []) (hn : o + l.length ≤ cells) (h63 : l.length ≤ 9223372036854775807)
    (hcell : ∀ j x, l[j]? = some x → w.cell? ((⟨g, o, none⟩ : Addr).add j) = some (.int .u8 x.toNat)) :
    Calls Try.prog 53 #[.pointer (some ⟨b, 0, none⟩)] w fun e w' => e = .returned (.string ⟨l.toArray⟩) ∧ w' = w.drew.freeze ⟨g, o, none⟩ l.length := by
  have c1 : w.drew.cell? ⟨b, 1, none⟩ = some (.slice (some ⟨g, o, none⟩) l.length cap) := hb
  have hSD : (Builtin.unsafeSliceData_ #[40] 116 #[.slice (some ⟨g, o, none⟩) l.length cap]).run Try.prog w.drew = .ok (.pointer (some ⟨g, o, none⟩)) w.drew := Lib.run_unsafeSliceData_row _ _ _ _ _ _ hcap
  have hUS := run_str w.drew g o cells hsh l h0 hn h63 hcell
  go_enter Try.func53, Try.ntmps53
  go_wp2
  go_region
  all_goals (go_wp2; go_ret; exact ⟨rfl, rfl⟩)
end Go.Proofs.YtfepkpindchleaaB

/- name.Labels: a function on data. -/
namespace Go.Proofs.YtfepkpindchleaaE
open Go Go.Proofs.YtfepkpindchleaaB
set_option linter.unusedVariables false
set_option linter.unusedSimpArgs false
/-- A text's labels; whether they end in the root. -/
def labsV (s : List UInt8) : List (List UInt8) := (eachF s).1
def rootV (s : List UInt8) : Bool := (eachF s).2 == [0]
theorem strs_enc {F : Nat → Prop} {w : World} : ∀ (l : List (List UInt8)), EncL F w .str l (strs l)
  | [] => by simp [EncL, strs]
  | x :: l => by
    simp only [EncL]
    exact ⟨[.string ⟨x.toArray⟩], strs l, rfl, rfl, strs_enc l⟩
/-- A row that the callee made, as data. -/
theorem row_enc {w : World} {base : Nat} {v : Value} {l : List (List UInt8)} (h : w.ownsRow base 9 1 v l.length (strs l)) {F : Nat → Prop} (hF : ∀ b, v.ownBlock = some b → F b) : Enc F w (.list .str) l [v] := by
  refine enc_list.2 ?_
  rcases h.2 with ⟨rfl, h0⟩ | ⟨g, cap, cur, rfl, hb, hg, hle, hcap, hcs, htk⟩
  · have : l = [] := List.length_eq_zero_iff.1 h0
    subst this
    exact ⟨none, 0, rfl, by simp, fun _ => rfl, fun a ha => by cases ha⟩
  · refine ⟨some ⟨g, 0, none⟩, cap, rfl, hle, fun h => (by cases h), fun a ha _ => ?_⟩
    cases ha
    refine ⟨rfl, hF g rfl, encL_lies (strs_enc l) fun j u hu => ?_⟩
    have := h.cells (g := g) rfl j u hu
    rw [addr_add] at this
    exact this
theorem labels_sem (s : List UInt8) (hb : bigS s = true) : SemF Try.prog 58 [.str s] []
    (if (eachF s).2 = [0] then (if s.length ≤ 255 then [.list .str (labsV s), .int .i64 0] else [.list .str [], .int .i64 3]) else [.list .str [], .int .i64 2]) [] := by
  have hs : s.length ≤ 1000000000000 := by simpa [bigS] using hb
  refine ⟨⟨_, Try.func58, by decide, by kernel_rfl⟩, fun w μ F us hh hv => ?_⟩
  simp only [VRelL, VRel] at hv
  obtain ⟨u, us', rfl, rfl, rfl⟩ := hv
  have h := callsIn_wide.1 (Labels_in 3 (by omega) s hs w)
  refine h.mono ?_
  rintro e w' ⟨v, rfl, u, en, rfl, hB, hc⟩
  have hμ : ∀ k, μ k = .none := fun k => hh.top k (by simp)
  refine ⟨_, rfl, fun _ => .none, fun b => F b ∨ (w.heap.size ≤ b ∧ b < w'.heap.size), ?_, ⟨fun k hk => by simp at hk, fun _ _ => rfl, fun k k' b h => by simp [Pl.owns] at h, fun k b h => by simp [Pl.owns] at h, fun b hb => ?_⟩,
    ⟨hB.os, hB.tape, hB.output, hB.size, fun b hb _ => hB.block b hb, fun b hb => .inl hb, fun b hb => ?_, fun k b h => by simp [Pl.owns] at h⟩, by simp, fun k b hk => by simp at hk, fun k b hk => by simp at hk⟩
  · rcases hc with ⟨h1, rfl, rfl⟩ | ⟨h1, h2, rfl, rfl⟩ | ⟨h1, h2, rfl, hrow⟩
    · rw [if_neg h1]
      simp only [tupled, VRel, VRelL]
      exact ⟨_, rfl, _, _, rfl, ⟨none, 0, rfl, by simp, fun _ => rfl, fun a ha => by cases ha⟩, _, _, rfl, rfl, rfl⟩
    · rw [if_pos h1, if_neg (by omega)]
      simp only [tupled, VRel, VRelL]
      exact ⟨_, rfl, _, _, rfl, ⟨none, 0, rfl, by simp, fun _ => rfl, fun a ha => by cases ha⟩, _, _, rfl, rfl, rfl⟩
    · rw [if_pos h1, if_pos h2]
      simp only [tupled, VRel, VRelL]
      refine ⟨_, rfl, _, _, rfl, row_enc hrow (fun b hb => .inr ?_), _, _, rfl, rfl, rfl⟩
      have := hrow.lt b hb
      omega
  · rcases hb with hb | hb
    · exact Nat.lt_of_lt_of_le (hh.inn b hb) hB.size
    · exact hb.2
  · rcases hb with hb | hb
    · exact .inl hb
    · exact .inr (.inr hb.1)
def fs58 : FSpec := { f := 58, ins := [(.str, false)], outs := [(.list .str, false), (.int .i64, false)], F := fun (s, _) => .br (bigS s) (.br (rootV s) (.br (decide (s.length > 255)) (.ret (([] : List (List UInt8)), (3 : Int), ())) (.ret (labsV s, (0 : Int), ()))) (.ret (([] : List (List UInt8)), (2 : Int), ()))) .no }
theorem okf58 : fs58.Ok Try.prog := by
  rintro ⟨(s : List UInt8), _⟩ y h
  simp only [fs58, Tr.get] at h
  cases hb : bigS s with
  | false => rw [hb] at h; cases h
  | true =>
    rw [hb, cond_true] at h
    have := labels_sem s hb
    cases hr : rootV s with
    | false =>
      rw [hr, cond_false] at h
      cases h
      have hne : (eachF s).2 ≠ [0] := by simpa [rootV] using hr
      rw [if_neg hne] at this
      exact this
    | true =>
      rw [hr, cond_true] at h
      have he : (eachF s).2 = [0] := by simpa [rootV] using hr
      rw [if_pos he] at this
      by_cases hl : s.length ≤ 255
      · rw [if_pos hl] at this
        rw [show decide (s.length > 255) = false by simp; omega, cond_false] at h
        cases h
        exact this
      · rw [if_neg hl] at this
        rw [show decide (s.length > 255) = true by simp; omega, cond_true] at h
        cases h
        exact this
end Go.Proofs.YtfepkpindchleaaE

/- strings.Builder: words. -/
namespace Go.Proofs.YtfepkpindchleaaE
open Go Go.Proofs.YtfepkpindchleaaB
set_option linter.unusedVariables false
set_option linter.unusedSimpArgs false
def bldO (self : AV) (r : AV) : LObj := .boxT (some 88) [self, r]
theorem cells_two {us : List Value} {μ : Nat → Pl} {F : Nat → Prop} {w : World} {x y : AV} (h : VRelL μ F w [x, y] us) : ∃ u v, us = [u, v] ∧ VRel μ F w x u ∧ VRel μ F w y v := by
  simp only [VRelL] at h
  obtain ⟨u, _, rfl, h1, v, _, rfl, h2, rfl⟩ := h
  exact ⟨u, v, rfl, h1, h2⟩
theorem check_sem (new : Bool) (xs : List Int) : SemF Try.prog 69 [.ptr 0 0] [bldO (if new then .np else .ptr 0 0) (.rowA 1), .row (.int .u8) xs] [] [bldO (.ptr 0 0) (.rowA 1), .row (.int .u8) xs] := by
  refine ⟨⟨_, Try.func69, by decide, by kernel_rfl⟩, fun w μ F us hh hv => ?_⟩
  simp only [VRelL, VRel] at hv
  obtain ⟨u, us', rfl, ⟨b, hb, rfl⟩, rfl⟩ := hv
  have h0 := hh.obj 0 (by simp)
  have h1 := hh.obj 1 (by simp)
  rw [hb] at h0
  simp only [ofHp, bldO, ORel] at h0
  obtain ⟨us, E, fz, g1, g2, g3, g4, g5⟩ := h0
  obtain ⟨u0, u1, rfl, r0, r1⟩ := cells_two g3
  have hE : E = 88 := g5 88 rfl
  subst hE
  have hF0 := hh.out 0 b (by rw [hb]; rfl)
  cases new with
  | false =>
    simp only [Bool.false_eq_true, if_false, VRel] at r0
    obtain ⟨b', hb', rfl⟩ := r0
    rw [hb] at hb'
    cases hb'
    have h := check_used b w (by simp [World.cell?, g1])
    refine h.mono ?_
    rintro e w' ⟨rfl, rfl⟩
    refine ⟨_, rfl, μ, F, by simp [tupled, VRel, VRelL], ?_, ⟨rfl, rfl, rfl, Nat.le_refl _, fun _ _ _ => rfl, fun _ h => h, fun _ h => .inl h, fun k b h => .inl ⟨k, h⟩⟩, by simp, fun k b _ h => h, fun k b _ h => h⟩
    simpa using hh
  | true =>
    simp only [if_true, VRel] at r0
    subst r0
    have hfree := g2 0 (by simp)
    have h := check_new b u1 fz w g1 (by simpa using hfree)
    refine h.mono ?_
    rintro e w' ⟨rfl, rfl⟩
    have ot : ∀ j, j ≠ b → (w.setCell ⟨b, 0, none⟩ (.pointer (some ⟨b, 0, none⟩))).heap[j]? = w.heap[j]? := fun j hj => Go.RowKit.Below.heap_setCell _ _ _ _ hj
    have at_ : (w.setCell ⟨b, 0, none⟩ (.pointer (some ⟨b, 0, none⟩))).heap[b]? = some (.cells #[.pointer (some ⟨b, 0, none⟩), u1] 88 fz) := by
      simp [World.setCell, Array.getElem?_modify, g1]
    have hFw : ∀ b', F b' → (w.setCell ⟨b, 0, none⟩ (.pointer (some ⟨b, 0, none⟩))).heap[b']? = w.heap[b']? := fun b' hb' => ot b' (fun e => hF0.1 (e ▸ hb'))
    have hsz : (w.setCell ⟨b, 0, none⟩ (.pointer (some ⟨b, 0, none⟩))).heap.size = w.heap.size := by simp [World.setCell]
    refine ⟨_, rfl, μ, F, by simp [tupled, VRel, VRelL], ⟨fun k hk => ?_, hh.top, hh.one, fun k b' hk => by rw [hsz]; exact hh.out k b' hk, fun b' hb' => by rw [hsz]; exact hh.inn b' hb'⟩,
      ⟨rfl, rfl, rfl, by rw [hsz]; exact Nat.le_refl _, fun b' _ hn => ot b' (fun e => hn ⟨0, by rw [hb, e]; rfl⟩), fun _ h => h, fun _ h => .inl h, fun k b h => .inl ⟨k, h⟩⟩, by simp, fun k b _ h => h, fun k b _ h => h⟩
    match k, hk with
    | 0, _ =>
      rw [hb]
      simp only [ofHp, bldO, ORel]
      refine ⟨[.pointer (some ⟨b, 0, none⟩), u1], 88, fz, at_, g2, ?_, ?_, fun n hn => (Option.some.inj hn)⟩
      · simp only [VRelL]
        exact ⟨_, _, rfl, by simp only [VRel]; exact ⟨b, hb, rfl⟩, _, _, rfl, vrel_mono (fun _ h => h) hFw (fun _ _ => rfl) r1, rfl⟩
      · intro u hu
        simp at hu
        rcases hu with rfl | rfl
        · rfl
        · exact g4 _ (by simp)
    | 1, _ =>
      simp only [ofHp] at h1 ⊢
      exact orel_mono (fun _ h => h) hFw (fun b' hb' => ot b' (fun e => by
        have := hh.one 1 0 b' hb' (by rw [hb, e]; rfl)
        omega)) (by simp [LObj.refs]) h1
def osNew : OSpec := { f := 69, sh := [.ptr 0 0], so := [.tbox 88 [.np, .row 1], .row (.int .u8)], F := fun _ (_, xs, _) => .ret ([], [.boxT (some 88) [.ptr 0 0, .rowA 1], .row (.int .u8) xs]) }
def osUsed : OSpec := { f := 69, sh := [.ptr 0 0], so := [.tbox 88 [.ptr 0 0, .row 1], .row (.int .u8)], F := fun _ (_, xs, _) => .ret ([], [.boxT (some 88) [.ptr 0 0, .rowA 1], .row (.int .u8) xs]) }
theorem okNew : osNew.Ok Try.prog := by
  rintro x y r h
  obtain ⟨_, (xs : List Int), _⟩ := y
  cases h
  exact check_sem true xs
theorem okUsed : osUsed.Ok Try.prog := by
  rintro x y r h
  obtain ⟨_, (xs : List Int), _⟩ := y
  cases h
  exact check_sem false xs
theorem bytes_back {xs : List Int} (h : bytesOk xs = true) : ∀ (j : Nat) (x : UInt8), (intBytes xs)[j]? = some x → xs[j]? = some (x.toNat : Int) := fun j x hx => by
  simp only [intBytes, List.getElem?_map, Option.map_eq_some_iff] at hx
  obtain ⟨n, hn, rfl⟩ := hx
  have := List.all_eq_true.1 h n (List.mem_of_getElem? hn)
  simp only [Bool.and_eq_true, decide_eq_true_eq] at this
  rw [hn]
  congr 1
  simp
  omega
theorem string_sem (xs : List Int) (hok : bytesOk xs = true) (hne : xs ≠ []) (hlen : xs.length ≤ 9223372036854775807) : SemF Try.prog 53 [.ptr 0 0] [bldO (.ptr 0 0) (.rowA 1), .row (.int .u8) xs] [.str (intBytes xs)] [bldO (.ptr 0 0) .dead, .gone] := by
  refine ⟨⟨_, Try.func53, by decide, by kernel_rfl⟩, fun w μ F us hh hv => ?_⟩
  simp only [VRelL, VRel] at hv
  obtain ⟨u, us', rfl, ⟨b, hb, rfl⟩, rfl⟩ := hv
  have h0 := hh.obj 0 (by simp)
  have h1 := hh.obj 1 (by simp)
  rw [hb] at h0
  simp only [ofHp, bldO, ORel] at h0
  obtain ⟨us, E, fz, g1, g2, g3, g4, g5⟩ := h0
  obtain ⟨u0, u1, rfl, r0, r1⟩ := cells_two g3
  simp only [VRel] at r0 r1
  obtain ⟨b', hb', rfl⟩ := r0
  rw [hb] at hb'
  cases hb'
  obtain ⟨al, len, cap, sz, A, hμ1, rfl, hA⟩ := r1
  simp only [ofHp] at h1
  rw [hμ1] at h1
  simp only [ORel] at h1
  obtain ⟨rfl, rfl, hle, hcap0, hrow⟩ := h1
  have hpos : 0 < xs.length := List.length_pos_iff.2 hne
  have hcapne : cap ≠ 0 := by omega
  cases al with
  | none => exact absurd (hcap0 rfl) hcapne
  | some go =>
    obtain ⟨g, o⟩ := go
    have hAeq := hA hcapne
    simp only [rowAddr] at hAeq
    subst hAeq
    obtain ⟨cs, E2, fz2, k1, k2, k3, k4, k5⟩ := hrow g o rfl hcapne
    have hE2 : E2 = 5 := k5 rfl
    subst hE2
    simp only [Ty.sz, Nat.mul_one] at k3 k4
    have hl : (intBytes xs).length = xs.length := by simp [intBytes]
    have hgb : g ≠ b := fun e => by
      have := hh.one 1 0 b (by rw [hμ1]; simp [Pl.owns, hcapne, e]) (by rw [hb]; rfl)
      omega
    have h := string_walk b g o cap cs.length (intBytes xs) w (by rw [hl]; simp [World.cell?, g1]) hcapne (by simp [World.shape?, k1]) (by simpa [intBytes] using hne) (by omega) (by omega) (fun j x hx => by
      have hb := bytes_back hok j x hx
      obtain ⟨vs, e1, e2, e3⟩ := k4 j _ hb
      simp only [Enc] at e1
      subst e1
      have := e3 0 _ rfl
      rw [addr_add]
      simp [World.cell?, k1, this]
      simpa using this)
    refine h.mono ?_
    rintro e w' ⟨rfl, rfl⟩
    have ot : ∀ j, j ≠ g → (w.drew.freeze ⟨g, o, none⟩ (intBytes xs).length).heap[j]? = w.heap[j]? := fun j hj => by
      unfold World.freeze
      split
      · rfl
      · simp only [Array.getElem?_modify]
        rw [if_neg (by omega)]
        rfl
    have hsz : (w.drew.freeze ⟨g, o, none⟩ (intBytes xs).length).heap.size = w.heap.size := by
      unfold World.freeze
      split
      · rfl
      · simp
    have hF1 := hh.out 1 g (by rw [hμ1]; simp [Pl.owns, hcapne])
    have how : ∀ k b', (setPl μ 1 .none k).owns = some b' → (μ k).owns = some b' := fun k b' hk => by
      by_cases h : k = 1
      · subst h; rw [setPl_at] at hk; cases hk
      · rwa [setPl_ne h] at hk
    refine ⟨_, rfl, setPl μ 1 .none, F, by simp [tupled, VRel], ⟨fun k hk => ?_, fun k hk => ?_, fun k k' b' h1 h2 => hh.one k k' b' (how k b' h1) (how k' b' h2), fun k b' hk => by rw [hsz]; exact hh.out k b' (how k b' hk), fun b' hb' => by rw [hsz]; exact hh.inn b' hb'⟩,
      ⟨?_, ?_, ?_, by rw [hsz]; exact Nat.le_refl _, fun b' _ hn => ot b' (fun e => hn ⟨1, by rw [hμ1, e]; simp [Pl.owns, hcapne]⟩), fun _ h => h, fun _ h => .inl h, fun k b' h => .inl ⟨k, how k b' h⟩⟩, by simp, fun k b' hk h => ?_, fun k b' hk h => ?_⟩
    · match k, hk with
      | 0, _ =>
        rw [setPl_ne (by omega), hb]
        simp only [ofHp, bldO, ORel]
        refine ⟨_, 88, fz, by rw [ot b (fun e => hgb e.symm), g1, g5 88 rfl], g2, ?_, g4, fun n hn => (Option.some.inj hn)⟩
        simp only [VRelL, VRel]
        exact ⟨_, _, rfl, ⟨b, by rw [setPl_ne (by omega)]; exact hb, rfl⟩, _, _, rfl, trivial, rfl⟩
      | 1, _ =>
        rw [setPl_at]
        simp only [ofHp, ORel]
    · by_cases h : k = 1
      · subst h; exact setPl_at _ _ _
      · rw [setPl_ne h]; exact hh.top k hk
    · unfold World.freeze; split <;> rfl
    · unfold World.freeze; split <;> rfl
    · unfold World.freeze; split <;> rfl
    · have : k ≠ 1 := fun e => by subst e; rw [hμ1] at h; cases h
      rw [setPl_ne this]; exact h
    · have : k ≠ 1 := fun e => by subst e; rw [hμ1] at h; cases h
      rw [setPl_ne this]; exact h
def osStr : OSpec := { f := 53, sh := [.ptr 0 0], so := [.tbox 88 [.ptr 0 0, .row 1], .row (.int .u8)], F := fun _ (_, xs, _) => .on (bytesOk xs && (!xs.isEmpty && Nat.ble xs.length 9223372036854775807)) ([.str (intBytes xs)], [.boxT (some 88) [.ptr 0 0, .dead], .gone]) }
theorem okStr : osStr.Ok Try.prog := by
  rintro x y r h
  obtain ⟨_, (xs : List Int), _⟩ := y
  obtain ⟨hc, rfl⟩ := Tr.get_on h
  simp only [Bool.and_eq_true] at hc
  exact string_sem xs hc.1 (by intro e; rw [e] at hc; simp at hc) (Nat.le_of_ble_eq_true hc.2.2)
end Go.Proofs.YtfepkpindchleaaE

/- strings.Builder, wire.Pack: words. -/
namespace Go.Proofs.YtfepkpindchleaaE
open Go
set_option linter.unusedVariables false
set_option linter.unusedSimpArgs false
/-- (*strings.Builder).Len -/
def t49n (b : List Int) : Tr Res := Tr.ret ([AV.int IntKind.i64 (↑(List.length b) : Int)], [LObj.boxT (some 88) [AV.np, AV.rowA 1], LObj.row (Ty.int IntKind.u8) b])
def os49n : OSpec := { f := 49, sh := [.ptr 0 0], so := [.tbox 88 [.np, .row 1], .row (.int .u8)], F := fun _ (_, b, _) => t49n b }
set_option maxRecDepth 1000000 in
theorem fn49n (b : List Int) : evC T0 (orcB [] [osNew, osUsed]) (lpOf h49 2 (lsOf [])) c49 1000000 (startSt [.ptr 0 0] [.boxT (some 88) [.np, .rowA 1], .row (.int .u8) b] Try.f49.ntmps) (finishK T0 false 2 Try.f49) = (t49n b).get := by kernel_rfl
theorem ok49n : os49n.Ok Try.prog := by
  refine os_ok mixed0 tab0 (orcB_sound all_nil (all_cons okNew (all_cons okUsed all_nil))) h49 (d := 0) (n0 := 2) (S := lsOf []) Try.func49 (by kernel_rfl) (c := c49) (by kernel_rfl) rfl (no_loops (by kernel_rfl)) (by omega) (by kernel_rfl) ?_
  intro x'' y'' q'' hq''
  obtain ⟨_, (b : List Int), _⟩ := y''
  exact (fn49n b).trans hq''
/-- (*strings.Builder).Len -/
def t49u (b : List Int) : Tr Res := Tr.ret ([AV.int IntKind.i64 (↑(List.length b) : Int)], [LObj.boxT (some 88) [AV.ptr 0 0, AV.rowA 1], LObj.row (Ty.int IntKind.u8) b])
def os49u : OSpec := { f := 49, sh := [.ptr 0 0], so := [.tbox 88 [.ptr 0 0, .row 1], .row (.int .u8)], F := fun _ (_, b, _) => t49u b }
set_option maxRecDepth 1000000 in
theorem fn49u (b : List Int) : evC T0 (orcB [] [osNew, osUsed]) (lpOf h49 2 (lsOf [])) c49 1000000 (startSt [.ptr 0 0] [.boxT (some 88) [.ptr 0 0, .rowA 1], .row (.int .u8) b] Try.f49.ntmps) (finishK T0 false 2 Try.f49) = (t49u b).get := by kernel_rfl
theorem ok49u : os49u.Ok Try.prog := by
  refine os_ok mixed0 tab0 (orcB_sound all_nil (all_cons okNew (all_cons okUsed all_nil))) h49 (d := 0) (n0 := 2) (S := lsOf []) Try.func49 (by kernel_rfl) (c := c49) (by kernel_rfl) rfl (no_loops (by kernel_rfl)) (by omega) (by kernel_rfl) ?_
  intro x'' y'' q'' hq''
  obtain ⟨_, (b : List Int), _⟩ := y''
  exact (fn49u b).trans hq''
/-- (*strings.Builder).WriteByte -/
def t50n (c : Int) (b : List Int) : Tr Res := Tr.br (fits (List.length b + 1) 1) (Tr.ret ([AV.dead], [LObj.boxT (some 88) [AV.ptr 0 0, AV.rowA 1], LObj.row (Ty.int IntKind.u8) (b ++ [c])])) Tr.no
def os50n : OSpec := { f := 50, sh := [.ptr 0 0, .d (.int .u8) false], so := [.tbox 88 [.np, .row 1], .row (.int .u8)], F := fun (c, _) (_, b, _) => t50n c b }
set_option maxRecDepth 1000000 in
theorem fn50n (c : Int) (b : List Int) : evC T0 (orcB [] [osNew, osUsed]) (lpOf h50 2 (lsOf [])) c50 1000000 (startSt [.ptr 0 0, .int .u8 c] [.boxT (some 88) [.np, .rowA 1], .row (.int .u8) b] Try.f50.ntmps) (finishK T0 false 2 Try.f50) = (t50n c b).get := by kernel_rfl
theorem ok50n : os50n.Ok Try.prog := by
  refine os_ok mixed0 tab0 (orcB_sound all_nil (all_cons okNew (all_cons okUsed all_nil))) h50 (d := 0) (n0 := 2) (S := lsOf []) Try.func50 (by kernel_rfl) (c := c50) (by kernel_rfl) rfl (no_loops (by kernel_rfl)) (by omega) (by kernel_rfl) ?_
  intro x'' y'' q'' hq''
  obtain ⟨(c : Int), _⟩ := x''
  obtain ⟨_, (b : List Int), _⟩ := y''
  exact (fn50n c b).trans hq''
/-- (*strings.Builder).WriteByte -/
def t50u (c : Int) (b : List Int) : Tr Res := Tr.br (fits (List.length b + 1) 1) (Tr.ret ([AV.dead], [LObj.boxT (some 88) [AV.ptr 0 0, AV.rowA 1], LObj.row (Ty.int IntKind.u8) (b ++ [c])])) Tr.no
def os50u : OSpec := { f := 50, sh := [.ptr 0 0, .d (.int .u8) false], so := [.tbox 88 [.ptr 0 0, .row 1], .row (.int .u8)], F := fun (c, _) (_, b, _) => t50u c b }
set_option maxRecDepth 1000000 in
theorem fn50u (c : Int) (b : List Int) : evC T0 (orcB [] [osNew, osUsed]) (lpOf h50 2 (lsOf [])) c50 1000000 (startSt [.ptr 0 0, .int .u8 c] [.boxT (some 88) [.ptr 0 0, .rowA 1], .row (.int .u8) b] Try.f50.ntmps) (finishK T0 false 2 Try.f50) = (t50u c b).get := by kernel_rfl
theorem ok50u : os50u.Ok Try.prog := by
  refine os_ok mixed0 tab0 (orcB_sound all_nil (all_cons okNew (all_cons okUsed all_nil))) h50 (d := 0) (n0 := 2) (S := lsOf []) Try.func50 (by kernel_rfl) (c := c50) (by kernel_rfl) rfl (no_loops (by kernel_rfl)) (by omega) (by kernel_rfl) ?_
  intro x'' y'' q'' hq''
  obtain ⟨(c : Int), _⟩ := x''
  obtain ⟨_, (b : List Int), _⟩ := y''
  exact (fn50u c b).trans hq''
/-- (*strings.Builder).WriteString -/
def t51u (s : List UInt8) (b : List Int) : Tr Res := Tr.br (fits (List.length b + List.length (bytesInt s)) 1) (Tr.ret ([AV.int IntKind.i64 (↑(List.length s) : Int), AV.dead], [LObj.boxT (some 88) [AV.ptr 0 0, AV.rowA 1], LObj.row (Ty.int IntKind.u8) (b ++ bytesInt s)])) Tr.no
def os51u : OSpec := { f := 51, sh := [.ptr 0 0, .d .str false], so := [.tbox 88 [.ptr 0 0, .row 1], .row (.int .u8)], F := fun (s, _) (_, b, _) => t51u s b }
set_option maxRecDepth 1000000 in
theorem fn51u (s : List UInt8) (b : List Int) : evC T0 (orcB [] [osNew, osUsed]) (lpOf h51 2 (lsOf [])) c51 1000000 (startSt [.ptr 0 0, .str s] [.boxT (some 88) [.ptr 0 0, .rowA 1], .row (.int .u8) b] Try.f51.ntmps) (finishK T0 false 2 Try.f51) = (t51u s b).get := by kernel_rfl
theorem ok51u : os51u.Ok Try.prog := by
  refine os_ok mixed0 tab0 (orcB_sound all_nil (all_cons okNew (all_cons okUsed all_nil))) h51 (d := 0) (n0 := 2) (S := lsOf []) Try.func51 (by kernel_rfl) (c := c51) (by kernel_rfl) rfl (no_loops (by kernel_rfl)) (by omega) (by kernel_rfl) ?_
  intro x'' y'' q'' hq''
  obtain ⟨(s : List UInt8), _⟩ := x''
  obtain ⟨_, (b : List Int), _⟩ := y''
  exact (fn51u s b).trans hq''
/-- wire.New -/
def t16 : Tr Res := Tr.ret ([AV.ptr 0 0], [LObj.boxT none [AV.rowA 1, AV.mp 2], LObj.row (Ty.int IntKind.u8) [], LObj.mpo Ty.str (Ty.int IntKind.i64) []])
def os16 : OSpec := { f := 16, sh := [], so := [], F := fun _ _ => t16 }
set_option maxRecDepth 1000000 in
theorem fn16 : evC T0 (orcB [] []) (lpOf (hOwn h16) 0 (lsOf [])) c16 1000000 (startSt [] [] Try.f16.ntmps) (finishK T0 true 0 Try.f16) = (t16).get := by kernel_rfl
theorem ok16 : os16.Ok Try.prog := by
  refine os_ok mixed0 tab0 (orcB_sound all_nil all_nil) (hOwn h16) (d := 0) (n0 := 0) (S := lsOf []) Try.func16 (by kernel_rfl) (c := c16) (by kernel_rfl) rfl (no_loops (by kernel_rfl)) (by omega) (by kernel_rfl) ?_
  intro x'' y'' q'' hq''
  exact (fn16).trans hq''
/-- (*wire.Pack).Add -/
def t22 (s : List UInt8) (b : List Int) (l : List (List UInt8 × Int)) : Tr Res := Tr.br (fits (List.length b + List.length (bytesInt s)) 1) (Tr.ret ([], [LObj.boxT none [AV.rowA 1, AV.mp 2], LObj.row (Ty.int IntKind.u8) (b ++ bytesInt s), LObj.mpo Ty.str (Ty.int IntKind.i64) l])) Tr.no
def os22 : OSpec := { f := 22, sh := [.ptr 0 0, .d .str false], so := [.box [.row 1, .mp 2], .row (.int .u8), .map .str (.int .i64)], F := fun (s, _) (_, b, l, _) => t22 s b l }
set_option maxRecDepth 1000000 in
theorem fn22 (s : List UInt8) (b : List Int) (l : List (List UInt8 × Int)) : evC T0 (orcB [] []) (lpOf h22 3 (lsOf [])) c22 1000000 (startSt [.ptr 0 0, .str s] [.box [.rowA 1, .mp 2], .row (.int .u8) b, .mpo .str (.int .i64) l] Try.f22.ntmps) (finishK T0 false 3 Try.f22) = (t22 s b l).get := by kernel_rfl
theorem ok22 : os22.Ok Try.prog := by
  refine os_ok mixed0 tab0 (orcB_sound all_nil all_nil) h22 (d := 0) (n0 := 3) (S := lsOf []) Try.func22 (by kernel_rfl) (c := c22) (by kernel_rfl) rfl (no_loops (by kernel_rfl)) (by omega) (by kernel_rfl) ?_
  intro x'' y'' q'' hq''
  obtain ⟨(s : List UInt8), _⟩ := x''
  obtain ⟨_, (b : List Int), (l : List (List UInt8 × Int)), _⟩ := y''
  exact (fn22 s b l).trans hq''
/-- (*wire.Pack).Add -/
def t22z (s : List UInt8) : Tr Res := Tr.ret ([], [])
def os22z : OSpec := { f := 22, sh := [.np, .d .str false], so := [], F := fun (s, _) _ => t22z s }
set_option maxRecDepth 1000000 in
theorem fn22z (s : List UInt8) : evC T0 (orcB [] []) (lpOf h22 0 (lsOf [])) c22 1000000 (startSt [.np, .str s] [] Try.f22.ntmps) (finishK T0 false 0 Try.f22) = (t22z s).get := by kernel_rfl
theorem ok22z : os22z.Ok Try.prog := by
  refine os_ok mixed0 tab0 (orcB_sound all_nil all_nil) h22 (d := 0) (n0 := 0) (S := lsOf []) Try.func22 (by kernel_rfl) (c := c22) (by kernel_rfl) rfl (no_loops (by kernel_rfl)) (by omega) (by kernel_rfl) ?_
  intro x'' y'' q'' hq''
  obtain ⟨(s : List UInt8), _⟩ := x''
  exact (fn22z s).trans hq''
/-- (*wire.Pack).Len -/
def t26 (b : List Int) (l : List (List UInt8 × Int)) : Tr Res := Tr.ret ([AV.int IntKind.i64 (↑(List.length b) : Int)], [LObj.boxT none [AV.rowA 1, AV.mp 2], LObj.row (Ty.int IntKind.u8) b, LObj.mpo Ty.str (Ty.int IntKind.i64) l])
def os26 : OSpec := { f := 26, sh := [.ptr 0 0], so := [.box [.row 1, .mp 2], .row (.int .u8), .map .str (.int .i64)], F := fun _ (_, b, l, _) => t26 b l }
set_option maxRecDepth 1000000 in
theorem fn26 (b : List Int) (l : List (List UInt8 × Int)) : evC T0 (orcB [] []) (lpOf h26 3 (lsOf [])) c26 1000000 (startSt [.ptr 0 0] [.box [.rowA 1, .mp 2], .row (.int .u8) b, .mpo .str (.int .i64) l] Try.f26.ntmps) (finishK T0 false 3 Try.f26) = (t26 b l).get := by kernel_rfl
theorem ok26 : os26.Ok Try.prog := by
  refine os_ok mixed0 tab0 (orcB_sound all_nil all_nil) h26 (d := 0) (n0 := 3) (S := lsOf []) Try.func26 (by kernel_rfl) (c := c26) (by kernel_rfl) rfl (no_loops (by kernel_rfl)) (by omega) (by kernel_rfl) ?_
  intro x'' y'' q'' hq''
  obtain ⟨_, (b : List Int), (l : List (List UInt8 × Int)), _⟩ := y''
  exact (fn26 b l).trans hq''
/-- (*wire.Pack).Len -/
def t26z : Tr Res := Tr.ret ([AV.int IntKind.i64 (0 : Int)], [])
def os26z : OSpec := { f := 26, sh := [.np], so := [], F := fun _ _ => t26z }
set_option maxRecDepth 1000000 in
theorem fn26z : evC T0 (orcB [] []) (lpOf h26 0 (lsOf [])) c26 1000000 (startSt [.np] [] Try.f26.ntmps) (finishK T0 false 0 Try.f26) = (t26z).get := by kernel_rfl
theorem ok26z : os26z.Ok Try.prog := by
  refine os_ok mixed0 tab0 (orcB_sound all_nil all_nil) h26 (d := 0) (n0 := 0) (S := lsOf []) Try.func26 (by kernel_rfl) (c := c26) (by kernel_rfl) rfl (no_loops (by kernel_rfl)) (by omega) (by kernel_rfl) ?_
  intro x'' y'' q'' hq''
  exact (fn26z).trans hq''
/-- (*wire.Pack).Out -/
def t19 (b : List Int) (l : List (List UInt8 × Int)) : Tr Res := Tr.ret ([AV.str (intBytes b)], [LObj.boxT none [AV.rowA 1, AV.mp 2], LObj.row (Ty.int IntKind.u8) b, LObj.mpo Ty.str (Ty.int IntKind.i64) l])
def os19 : OSpec := { f := 19, sh := [.ptr 0 0], so := [.box [.row 1, .mp 2], .row (.int .u8), .map .str (.int .i64)], F := fun _ (_, b, l, _) => t19 b l }
set_option maxRecDepth 1000000 in
theorem fn19 (b : List Int) (l : List (List UInt8 × Int)) : evC T0 (orcB [] []) (lpOf h19 3 (lsOf [])) c19 1000000 (startSt [.ptr 0 0] [.box [.rowA 1, .mp 2], .row (.int .u8) b, .mpo .str (.int .i64) l] Try.f19.ntmps) (finishK T0 false 3 Try.f19) = (t19 b l).get := by kernel_rfl
theorem ok19 : os19.Ok Try.prog := by
  refine os_ok mixed0 tab0 (orcB_sound all_nil all_nil) h19 (d := 0) (n0 := 3) (S := lsOf []) Try.func19 (by kernel_rfl) (c := c19) (by kernel_rfl) rfl (no_loops (by kernel_rfl)) (by omega) (by kernel_rfl) ?_
  intro x'' y'' q'' hq''
  obtain ⟨_, (b : List Int), (l : List (List UInt8 × Int)), _⟩ := y''
  exact (fn19 b l).trans hq''
/-- (*wire.Pack).Out -/
def t19z : Tr Res := Tr.ret ([AV.str []], [])
def os19z : OSpec := { f := 19, sh := [.np], so := [], F := fun _ _ => t19z }
set_option maxRecDepth 1000000 in
theorem fn19z : evC T0 (orcB [] []) (lpOf h19 0 (lsOf [])) c19 1000000 (startSt [.np] [] Try.f19.ntmps) (finishK T0 false 0 Try.f19) = (t19z).get := by kernel_rfl
theorem ok19z : os19z.Ok Try.prog := by
  refine os_ok mixed0 tab0 (orcB_sound all_nil all_nil) h19 (d := 0) (n0 := 0) (S := lsOf []) Try.func19 (by kernel_rfl) (c := c19) (by kernel_rfl) rfl (no_loops (by kernel_rfl)) (by omega) (by kernel_rfl) ?_
  intro x'' y'' q'' hq''
  exact (fn19z).trans hq''
/-- (*wire.Pack).Mark -/
def t30 (b : List Int) (l : List (List UInt8 × Int)) : Tr Res := Tr.br (fits (List.length b + List.length (bytesInt (put16 (0 : Int)))) 1) (Tr.ret ([AV.int IntKind.i64 (↑(List.length (b ++ bytesInt (put16 (0 : Int)))) : Int)], [LObj.boxT none [AV.rowA 1, AV.mp 2], LObj.row (Ty.int IntKind.u8) (b ++ bytesInt (put16 (0 : Int))), LObj.mpo Ty.str (Ty.int IntKind.i64) l])) Tr.no
def os30 : OSpec := { f := 30, sh := [.ptr 0 0], so := [.box [.row 1, .mp 2], .row (.int .u8), .map .str (.int .i64)], F := fun _ (_, b, l, _) => t30 b l }
set_option maxRecDepth 1000000 in
theorem fn30 (b : List Int) (l : List (List UInt8 × Int)) : evC T0 (orcB [fs42w] [os22, os22z, os26, os26z]) (lpOf h30 3 (lsOf [])) c30 1000000 (startSt [.ptr 0 0] [.box [.rowA 1, .mp 2], .row (.int .u8) b, .mpo .str (.int .i64) l] Try.f30.ntmps) (finishK T0 false 3 Try.f30) = (t30 b l).get := by kernel_rfl
theorem ok30 : os30.Ok Try.prog := by
  refine os_ok mixed0 tab0 (orcB_sound (all_cons okf42w all_nil) (all_cons ok22 (all_cons ok22z (all_cons ok26 (all_cons ok26z all_nil))))) h30 (d := 0) (n0 := 3) (S := lsOf []) Try.func30 (by kernel_rfl) (c := c30) (by kernel_rfl) rfl (no_loops (by kernel_rfl)) (by omega) (by kernel_rfl) ?_
  intro x'' y'' q'' hq''
  obtain ⟨_, (b : List Int), (l : List (List UInt8 × Int)), _⟩ := y''
  exact (fn30 b l).trans hq''
/-- (*wire.Pack).Mark -/
def t30z : Tr Res := Tr.ret ([AV.int IntKind.i64 (0 : Int)], [])
def os30z : OSpec := { f := 30, sh := [.np], so := [], F := fun _ _ => t30z }
set_option maxRecDepth 1000000 in
theorem fn30z : evC T0 (orcB [fs42w] [os22, os22z, os26, os26z]) (lpOf h30 0 (lsOf [])) c30 1000000 (startSt [.np] [] Try.f30.ntmps) (finishK T0 false 0 Try.f30) = (t30z).get := by kernel_rfl
theorem ok30z : os30z.Ok Try.prog := by
  refine os_ok mixed0 tab0 (orcB_sound (all_cons okf42w all_nil) (all_cons ok22 (all_cons ok22z (all_cons ok26 (all_cons ok26z all_nil))))) h30 (d := 0) (n0 := 0) (S := lsOf []) Try.func30 (by kernel_rfl) (c := c30) (by kernel_rfl) rfl (no_loops (by kernel_rfl)) (by omega) (by kernel_rfl) ?_
  intro x'' y'' q'' hq''
  exact (fn30z).trans hq''
/-- (*wire.Pack).Close -/
def t31 (at_ : Int) (b : List Int) (l : List (List UInt8 × Int)) : Tr Res := Tr.br (decide (at_ < (2 : Int))) (Tr.ret ([AV.int IntKind.i64 (1 : Int)], [LObj.boxT none [AV.rowA 1, AV.mp 2], LObj.row (Ty.int IntKind.u8) b, LObj.mpo Ty.str (Ty.int IntKind.i64) l])) (Tr.br (decide (at_ > (↑(List.length b) : Int))) (Tr.ret ([AV.int IntKind.i64 (1 : Int)], [LObj.boxT none [AV.rowA 1, AV.mp 2], LObj.row (Ty.int IntKind.u8) b, LObj.mpo Ty.str (Ty.int IntKind.i64) l])) (Tr.br (decide ((0 : Int) ≤ at_) && decide (at_ ≤ (↑(List.length b) : Int))) (Tr.br (decide ((0 : Int) ≤ IntKind.wrap IntKind.i64 (at_ - (2 : Int))) && decide (IntKind.wrap IntKind.i64 (at_ - (2 : Int)) ≤ at_)) (Tr.br (n16C (IntKind.wrap IntKind.u16 (IntKind.wrap IntKind.i64 ((↑(List.length b) : Int) - at_)))) (Tr.ret ([AV.int IntKind.i64 (0 : Int)], [LObj.boxT none [AV.rowA 1, AV.mp 2], LObj.row (Ty.int IntKind.u8) (List.take (Int.toNat (IntKind.wrap IntKind.i64 (at_ - (2 : Int)))) b ++ List.take (Int.toNat at_ - Int.toNat (IntKind.wrap IntKind.i64 (at_ - (2 : Int)))) (bytesInt (put16 (IntKind.wrap IntKind.u16 (IntKind.wrap IntKind.i64 ((↑(List.length b) : Int) - at_))))) ++ List.drop (Int.toNat (IntKind.wrap IntKind.i64 (at_ - (2 : Int))) + min (Int.toNat at_ - Int.toNat (IntKind.wrap IntKind.i64 (at_ - (2 : Int)))) (List.length (put16 (IntKind.wrap IntKind.u16 (IntKind.wrap IntKind.i64 ((↑(List.length b) : Int) - at_)))))) b), LObj.mpo Ty.str (Ty.int IntKind.i64) l])) Tr.no) Tr.no) Tr.no))
def os31 : OSpec := { f := 31, sh := [.ptr 0 0, .d (.int .i64) false], so := [.box [.row 1, .mp 2], .row (.int .u8), .map .str (.int .i64)], F := fun (at_, _) (_, b, l, _) => t31 at_ b l }
set_option maxRecDepth 1000000 in
theorem fn31 (at_ : Int) (b : List Int) (l : List (List UInt8 × Int)) : evC T0 (orcB [fs42w] [os22, os22z, os26, os26z]) (lpOf h31 3 (lsOf [])) c31 1000000 (startSt [.ptr 0 0, .int .i64 at_] [.box [.rowA 1, .mp 2], .row (.int .u8) b, .mpo .str (.int .i64) l] Try.f31.ntmps) (finishK T0 false 3 Try.f31) = (t31 at_ b l).get := by kernel_rfl
theorem ok31 : os31.Ok Try.prog := by
  refine os_ok mixed0 tab0 (orcB_sound (all_cons okf42w all_nil) (all_cons ok22 (all_cons ok22z (all_cons ok26 (all_cons ok26z all_nil))))) h31 (d := 0) (n0 := 3) (S := lsOf []) Try.func31 (by kernel_rfl) (c := c31) (by kernel_rfl) rfl (no_loops (by kernel_rfl)) (by omega) (by kernel_rfl) ?_
  intro x'' y'' q'' hq''
  obtain ⟨(at_ : Int), _⟩ := x''
  obtain ⟨_, (b : List Int), (l : List (List UInt8 × Int)), _⟩ := y''
  exact (fn31 at_ b l).trans hq''
/-- (*wire.Pack).Close -/
def t31z (at_ : Int) : Tr Res := Tr.br (decide (at_ < (2 : Int))) (Tr.ret ([AV.int IntKind.i64 (1 : Int)], [])) (Tr.br (decide (at_ > (0 : Int))) (Tr.ret ([AV.int IntKind.i64 (1 : Int)], [])) Tr.no)
def os31z : OSpec := { f := 31, sh := [.np, .d (.int .i64) false], so := [], F := fun (at_, _) _ => t31z at_ }
set_option maxRecDepth 1000000 in
theorem fn31z (at_ : Int) : evC T0 (orcB [fs42w] [os22, os22z, os26, os26z]) (lpOf h31 0 (lsOf [])) c31 1000000 (startSt [.np, .int .i64 at_] [] Try.f31.ntmps) (finishK T0 false 0 Try.f31) = (t31z at_).get := by kernel_rfl
theorem ok31z : os31z.Ok Try.prog := by
  refine os_ok mixed0 tab0 (orcB_sound (all_cons okf42w all_nil) (all_cons ok22 (all_cons ok22z (all_cons ok26 (all_cons ok26z all_nil))))) h31 (d := 0) (n0 := 0) (S := lsOf []) Try.func31 (by kernel_rfl) (c := c31) (by kernel_rfl) rfl (no_loops (by kernel_rfl)) (by omega) (by kernel_rfl) ?_
  intro x'' y'' q'' hq''
  obtain ⟨(at_ : Int), _⟩ := x''
  exact (fn31z at_).trans hq''
end Go.Proofs.YtfepkpindchleaaE

/- name.May: a plain word; the document's. -/
namespace Go.Proofs.YtfepkpindchleaaE
open Go Go.Proofs.YtfepkpindchleaaB
set_option linter.unusedVariables false
set_option linter.unusedSimpArgs false
/-- name.May -/
def t29 (n : List UInt8) : Tr Res := Tr.br (bigS n) (Tr.br (rootV n) (Tr.br (decide (List.length n > 255)) (Tr.ret ([AV.bool false], [])) (Tr.br (bigS n) (Tr.ret ([AV.bool (foldB n == n)], [])) Tr.no)) (Tr.ret ([AV.bool false], []))) Tr.no
def os29 : OSpec := { f := 29, sh := [.d .str false], so := [], F := fun (n, _) _ => t29 n }
set_option maxRecDepth 1000000 in
theorem fn29 (n : List UInt8) : evC T0 (orcB [fs58, fs52w] []) (lpOf h29 0 (lsOf [])) c29 1000000 (startSt [.str n] [] Try.f29.ntmps) (finishK T0 false 0 Try.f29) = (t29 n).get := by kernel_rfl
theorem ok29 : os29.Ok Try.prog := by
  refine os_ok mixed0 tab0 (orcB_sound (all_cons okf58 (all_cons okf52w all_nil)) all_nil) h29 (d := 0) (n0 := 0) (S := lsOf []) Try.func29 (by kernel_rfl) (c := c29) (by kernel_rfl) rfl (no_loops (by kernel_rfl)) (by omega) (by kernel_rfl) ?_
  intro x'' y'' q'' hq''
  obtain ⟨(n : List UInt8), _⟩ := x''
  exact (fn29 n).trans hq''
def fs29 : FSpec := fsT 29 [(.str, false)] [(.bool, false)] fun (n, _) => t29 n
theorem okf29 : fs29.Ok Try.prog := fsT_ok fun x'' r'' hr'' => ok29 x'' () r'' hr''
/-- Whether a text is a name. -/
def mayV (s : List UInt8) : Bool := rootV s && (Nat.ble s.length 255 && (foldB s == s))
theorem labAt_each (s : List UInt8) : ∀ (m k : Nat) (out : List (List UInt8)), s.length - k = m → k ≤ s.length →
    labAt s k out = (match (eachF (s.drop k)).2 with
      | [] => (true, s.length, out ++ (eachF (s.drop k)).1)
      | c :: t => (decide (c.toNat = 0), s.length - (t.length + 1), out ++ (eachF (s.drop k)).1)) := by
  intro m
  induction m using Nat.strongRecOn with
  | _ m ih =>
    intro k out hm hk
    by_cases hlt : k < s.length
    · obtain ⟨c, t, hct⟩ : ∃ c t, s.drop k = c :: t := by
        rw [drop_get s k 0 hlt]
        exact ⟨_, _, rfl⟩
      have hc : s.getD k 0 = c := by
        have := drop_get s k 0 hlt
        rw [hct] at this
        exact (List.cons.inj this).1.symm
      have htl : t.length = s.length - k - 1 := by
        have := congrArg List.length hct
        simp at this
        omega
      have ht : t = s.drop (k + 1) := by
        have := drop_get s k 0 hlt
        rw [hct] at this
        exact (List.cons.inj this).2
      rw [labAt, dif_pos hlt, hc, hct]
      by_cases h0 : c.toNat = 0
      · rw [if_pos h0, eachF, if_pos (.inl h0)]
        simp only [List.append_nil]
        rw [decide_eq_true h0]
        congr 2
        omega
      · rw [if_neg h0]
        by_cases h1 : c.toNat > 63 ∨ k + 1 + c.toNat > s.length
        · rw [if_pos h1, eachF, if_pos (by omega)]
          simp only [List.append_nil]
          rw [decide_eq_false h0]
          congr 2
          omega
        · rw [if_neg h1, ih (s.length - (k + 1 + c.toNat)) (by omega) (k + 1 + c.toNat) _ rfl (by omega), eachF, if_neg (by omega)]
          have e : s.drop (k + 1 + c.toNat) = t.drop c.toNat := by rw [ht, List.drop_drop]
          rw [e, ← ht]
          simp only [List.append_assoc, List.cons_append, List.nil_append]
    · rw [labAt, dif_neg hlt]
      have : s.drop k = [] := List.drop_eq_nil_of_le (by omega)
      rw [this, eachF]
      simp only [List.append_nil]
      congr 2
      omega
theorem eachF_len : ∀ (n : Nat) (s : List UInt8), s.length = n → (eachF s).2.length ≤ s.length := by
  intro n
  induction n using Nat.strongRecOn with
  | _ n ih =>
    intro s hs
    cases s with
    | nil => rw [eachF]; exact Nat.le_refl _
    | cons c t =>
      rw [eachF]
      split
      · exact Nat.le_refl _
      · have := ih (t.drop c.toNat).length (by simp at hs ⊢; omega) _ rfl
        simp at this ⊢
        omega
theorem lab_root (s : List UInt8) : (lbOk s && decide (lbAt s = (s.length : Int) - 1)) = rootV s ∧ (rootV s = true → lbOut s = labsV s) := by
  have h := labAt_each s s.length 0 [] (by omega) (by omega)
  have hl := eachF_len _ s rfl
  rw [List.drop_zero] at h
  unfold lbOk lbAt lbOut rootV labsV
  rw [h]
  cases hr : (eachF s).2 with
  | nil =>
    simp
    omega
  | cons c t =>
    rw [hr] at hl
    simp at hl
    simp only [List.nil_append, implies_true, and_true]
    rw [Bool.eq_iff_iff]
    simp only [Bool.and_eq_true, decide_eq_true_eq, beq_iff_eq, List.cons.injEq]
    constructor
    · rintro ⟨h1, h2⟩
      refine ⟨?_, List.length_eq_zero_iff.1 (by omega)⟩
      exact UInt8.toNat_inj.1 (by simpa using h1)
    · rintro ⟨rfl, rfl⟩
      simp
      simp at hl
      omega
theorem mayS_eq (s : List UInt8) : mayS s = mayV s := by
  unfold mayS mayV
  rw [← (lab_root s).1, Bool.and_assoc]
  congr 3
  by_cases h : s.length ≤ 255
  · rw [decide_eq_true h, Nat.ble_eq_true_of_le h]
  · rw [decide_eq_false h]
    cases hb : Nat.ble s.length 255 with
    | false => rfl
    | true => exact absurd (Nat.le_of_ble_eq_true hb) h
theorem ble_iff {a b : Nat} : Nat.ble a b = decide (a ≤ b) := by
  by_cases h : a ≤ b
  · rw [decide_eq_true h, Nat.ble_eq_true_of_le h]
  · rw [decide_eq_false h]
    cases hb : Nat.ble a b with
    | false => rfl
    | true => exact absurd (Nat.le_of_ble_eq_true hb) h
def fs29w : FSpec := fs29.like fun (s, _) => .on (bigS s) (mayV s, ())
theorem okf29w : fs29w.Ok Try.prog := by
  refine flike_ok okf29 _ ?_
  rintro ⟨(s : List UInt8), _⟩ y h
  obtain ⟨hb, rfl⟩ := Tr.get_on h
  refine convR_of (vs := [.bool (mayV s)]) rfl rfl (Tr.get_of_all ?_)
  show (t29 s).all _
  refine Tr.all_t hb (Tr.all_br (fun c1 => Tr.all_br (fun c2 => Tr.all_ret ?_) fun c2 => Tr.all_t hb (Tr.all_ret ?_)) fun c1 => Tr.all_ret ?_)
  · simp only [decide_eq_true_eq] at c2
    have : ¬ s.length ≤ 255 := by omega
    simp [mayV, ble_iff, this]
  · simp only [decide_eq_false_iff_not] at c2
    have : s.length ≤ 255 := by omega
    simp [mayV, ble_iff, this, c1]
  · simp [mayV, c1]
def fs43v : FSpec := fs43.like fun (s, _) => .on (bigS s) (mayV s, ())
theorem okf43v : fs43v.Ok Try.prog := by
  rintro ⟨(s : List UInt8), _⟩ y h
  obtain ⟨hb, rfl⟩ := Tr.get_on h
  have := okf43w (s, ()) (mayS s, ()) (by show (Tr.on (bigS s) _).get = _; rw [hb]; rfl)
  rw [mayS_eq] at this
  exact this
def fs66v : FSpec := fs66.like fun (s, _) => .br (bigS s) (.br (rootV s) (.br (decide (s.length > 255)) (.ret (([] : List (List UInt8)), (3 : Int), ())) (.ret (labsV s, (0 : Int), ()))) (.ret (([] : List (List UInt8)), (2 : Int), ()))) .no
theorem okf66v : fs66v.Ok Try.prog := by
  refine flike_ok okf66 _ ?_
  rintro ⟨(s : List UInt8), _⟩ y h
  simp only [Tr.get] at h
  cases hb : bigS s with
  | false => rw [hb] at h; cases h
  | true =>
    rw [hb, cond_true] at h
    have hb' := hb
    simp only [bigS, decide_eq_true_eq] at hb'
    obtain ⟨l1, l2⟩ := lab_root s
    cases hr : rootV s with
    | false =>
      rw [hr, cond_false] at h
      cases h
      refine convR_of (vs := [.list .str [], .int .i64 2]) rfl rfl (Tr.get_of_all ?_)
      show (t66 s).all _
      unfold t66
      rw [hr] at l1
      refine Tr.all_t (by simp [lbC, hb]) (Tr.all_br (fun c1 => ?_) fun c1 => Tr.all_ret rfl)
      rw [IntWalk.i64_in _ (by omega)]
      rw [c1, Bool.true_and, decide_eq_false_iff_not] at l1
      exact Tr.all_t (bne_iff_ne.2 l1) (Tr.all_ret rfl)
    | true =>
      rw [hr, cond_true] at h
      rw [hr, Bool.and_eq_true, decide_eq_true_eq] at l1
      obtain ⟨l1, l3⟩ := l1
      have l2 := l2 hr
      by_cases hl : s.length > 255
      · rw [decide_eq_true hl, cond_true] at h
        cases h
        refine convR_of (vs := [.list .str [], .int .i64 3]) rfl rfl (Tr.get_of_all ?_)
        show (t66 s).all _
        unfold t66
        rw [IntWalk.i64_in _ (by omega)]
        refine Tr.all_t (by simp [lbC, hb]) (Tr.all_t l1 (Tr.all_f (by simpa using l3) (Tr.all_t (dec_true (by omega)) (Tr.all_ret rfl))))
      · rw [decide_eq_false hl, cond_false] at h
        cases h
        refine convR_of (vs := [.list .str (labsV s), .int .i64 0]) rfl rfl (Tr.get_of_all ?_)
        show (t66 s).all _
        unfold t66
        rw [IntWalk.i64_in _ (by omega)]
        refine Tr.all_t (by simp [lbC, hb]) (Tr.all_t l1 (Tr.all_f (by simpa using l3) (Tr.all_f (dec_false (by omega)) (Tr.all_ret ?_))))
        rw [l2]
end Go.Proofs.YtfepkpindchleaaE

/- Names in packs: plain words. -/
namespace Go.Proofs.YtfepkpindchleaaE
open Go Go.Proofs.YtfepkpindchleaaB
set_option linter.unusedVariables false
set_option linter.unusedSimpArgs false
abbrev Known := List (List UInt8 × Int)
abbrev lookK (n : List UInt8) (L : Known) : Option Int := lookM .str (.int .i64) n L
/-- A name's first label, with its length; what is behind it. -/
def hdN (n : List UInt8) : List UInt8 := n.take (1 + (n.getD 0 0).toNat)
def tlN (n : List UInt8) : List UInt8 := n.drop (1 + (n.getD 0 0).toNat)
theorem tlN_lt {n : List UInt8} (h : n ≠ []) : (tlN n).length < n.length := by
  have := List.length_pos_iff.2 h
  simp [tlN]
  omega
/-- A name behind bytes, but its end: where it is known, if it is; what is left; the bytes; what is known then. -/
def nameL (n S : List UInt8) (L : Known) : Option Int × (List UInt8 × (List UInt8 × Known)) :=
  if n = [0] then (none, n, S, L)
  else match lookK n L with
    | some a => (some a, n, S, L)
    | none => if h : n = [] then (none, n, S, L) else nameL (tlN n) (S ++ hdN n) (if S.length < 16384 then L ++ [(n, (S.length : Int))] else L)
termination_by n.length
decreasing_by exact tlN_lt h
/-- How a name ends: at a known one, or with the root. -/
def endN : Option Int → List UInt8
  | some a => put16 (49152 + a)
  | none => [0]
/-- A name behind bytes. -/
def nameP (n S : List UInt8) (L : Known) : List UInt8 × Known := ((nameL n S L).2.2.1 ++ endN (nameL n S L).1, (nameL n S L).2.2.2)
def kOk (L : Known) : Bool := L.all fun e => decide (0 ≤ e.2) && decide (e.2 < 16384)
theorem kOk_look {L : Known} (h : kOk L = true) {n : List UInt8} {a : Int} (ha : lookK n L = some a) : 0 ≤ a ∧ a < 16384 := by
  induction L with
  | nil => cases ha
  | cons e L ih =>
    simp only [kOk, List.all_cons, Bool.and_eq_true, decide_eq_true_eq] at h
    unfold lookK lookM at ha
    cases hq : Ty.keq .str n e.1 with
    | true => rw [hq] at ha; cases ha; exact h.1
    | false => rw [hq] at ha; exact ih h.2 ha
theorem putK_new {L : Known} {n : List UInt8} (h : lookK n L = none) (v : Int) : putM .str (.int .i64) n v L = L ++ [(n, v)] := by
  induction L with
  | nil => rfl
  | cons e L ih =>
    unfold lookK lookM at h
    unfold putM
    cases hq : Ty.keq .str n e.1 with
    | true => rw [hq] at h; cases h
    | false => rw [hq] at h; rw [cond_false, ih h]; rfl
theorem or_far {a : Int} (h0 : 0 ≤ a) (h1 : a < 16384) : IntKind.wrap IntKind.u16 (IntKind.wrap IntKind.i64 (↑(BitVec.toNat (BitVec.ofInt (IntKind.bits IntKind.i64) (49152 : Int) ||| BitVec.ofInt (IntKind.bits IntKind.i64) a)) : Int)) = 49152 + a := by
  obtain ⟨m, rfl⟩ : ∃ m : Nat, a = m := ⟨a.toNat, by omega⟩
  have e : BitVec.toNat (BitVec.ofInt (IntKind.bits IntKind.i64) (49152 : Int) ||| BitVec.ofInt (IntKind.bits IntKind.i64) (m : Int)) = 49152 + m := by
    show BitVec.toNat (BitVec.ofInt 64 ((49152 : Nat) : Int) ||| BitVec.ofInt 64 ((m : Nat) : Int)) = _
    rw [BitVec.ofInt_natCast, BitVec.ofInt_natCast, BitVec.toNat_or, BitVec.toNat_ofNat, BitVec.toNat_ofNat, Nat.mod_eq_of_lt (by omega), Nat.mod_eq_of_lt (by omega)]
    have := Nat.shiftLeft_add_eq_or_of_lt (a := 3) (b := m) (i := 14) (by omega)
    exact this.symm
  rw [e, IntWalk.i64_in _ (by omega), IntWalk.u16_in _ (by omega)]
  omega
theorem root_cases {n : List UInt8} (h : rootV n = true) : n = [0] ∨ (n ≠ [0] ∧ n ≠ [] ∧ 1 + (n.getD 0 0).toNat < n.length ∧ (n.getD 0 0).toNat ≤ 63 ∧ (n.getD 0 0).toNat ≠ 0 ∧ rootV (tlN n) = true) := by
  unfold rootV at h
  cases n with
  | nil => rw [eachF] at h; simp at h
  | cons c t =>
    rw [eachF] at h
    split at h
    · exact .inl (by simpa using h)
    · rename_i hc
      refine .inr ⟨fun e => ?_, by simp, ?_, ?_, ?_, ?_⟩
      · cases e; simp at hc
      · have he : (t.drop c.toNat) ≠ [] := fun e => by
          rw [e, eachF] at h
          simp at h
        have := List.length_pos_iff.2 he
        simp at this ⊢
        omega
      · simp; omega
      · simp; omega
      · unfold rootV tlN
        simpa [Nat.add_comm 1] using h
theorem intB_bytes (s : List UInt8) : intBytes (bytesInt s) = s := by
  unfold intBytes bytesInt
  rw [List.map_map]
  conv => rhs; rw [← List.map_id s]
  exact List.map_congr_left fun x _ => by simp
theorem bytes_intB {b : List Int} (h : bytesOk b = true) : bytesInt (intBytes b) = b := by
  unfold intBytes bytesInt
  rw [List.map_map]
  conv => rhs; rw [← List.map_id b]
  refine List.map_congr_left fun x hx => ?_
  have := List.all_eq_true.1 h x hx
  simp only [Bool.and_eq_true, decide_eq_true_eq] at this
  simp
  omega
theorem intB_len (b : List Int) : (intBytes b).length = b.length := by simp [intBytes]
theorem intB_app (a b : List Int) : intBytes (a ++ b) = intBytes a ++ intBytes b := by simp [intBytes]
theorem bytesInt_app (a b : List UInt8) : bytesInt (a ++ b) = bytesInt a ++ bytesInt b := by simp [bytesInt]
/-- A name that has further to go. -/
theorem nameL_root (S : List UInt8) (L : Known) : nameL [0] S L = (none, [0], S, L) := by rw [nameL, if_pos rfl]
theorem nameL_known {n S : List UInt8} {L : Known} {a : Int} (h : n ≠ [0]) (ha : lookK n L = some a) : nameL n S L = (some a, n, S, L) := by
  rw [nameL, if_neg h]
  simp only [ha]
theorem nameL_next {n S : List UInt8} {L : Known} (h : n ≠ [0]) (h0 : n ≠ []) (ha : lookK n L = none) : nameL n S L = nameL (tlN n) (S ++ hdN n) (if S.length < 16384 then L ++ [(n, (S.length : Int))] else L) := by
  rw [nameL, if_neg h]
  simp only [ha, dif_neg h0]
theorem getM_some {L : Known} {n : List UInt8} {a : Int} (h : lookK n L = some a) : getM .str (.int .i64) n L = a := by
  unfold getM
  rw [show lookM .str (.int .i64) n L = some a from h]
  rfl
theorem hasM_some {L : Known} {n : List UInt8} : hasM .str (.int .i64) n L = (lookK n L).isSome := rfl
theorem kOk_add {L : Known} (h : kOk L = true) {n : List UInt8} {v : Nat} (hv : v < 16384) : kOk (L ++ [(n, (v : Int))]) = true := by
  simp only [kOk, List.all_append, List.all_cons, List.all_nil, Bool.and_true, Bool.and_eq_true, decide_eq_true_eq]
  exact ⟨h, by omega, by omega⟩
theorem bytesOk_app {a b : List Int} (ha : bytesOk a = true) (hb : bytesOk b = true) : bytesOk (a ++ b) = true := by
  simp only [bytesOk, List.all_append, Bool.and_eq_true] at *
  exact ⟨ha, hb⟩
theorem put16_len (n : Int) : (put16 n).length = 2 := rfl
theorem hdN_len {n : List UInt8} (h : 1 + (n.getD 0 0).toNat ≤ n.length) : (hdN n).length = 1 + (n.getD 0 0).toNat := by unfold hdN; rw [List.length_take]; omega
theorem tlN_len (n : List UInt8) : (tlN n).length = n.length - (1 + (n.getD 0 0).toNat) := by unfold tlN; rw [List.length_drop]
theorem szW (n : List UInt8) : IntKind.wrap IntKind.i64 ((1 : Int) + IntKind.wrap IntKind.i64 (↑(UInt8.toNat (List.getD n (Int.toNat (0 : Int)) 0)) : Int)) = ((1 + (n.getD 0 0).toNat : Nat) : Int) := by
  have := (n.getD 0 0).toNat_lt
  rw [show Int.toNat (0 : Int) = 0 from rfl]
  rw [IntWalk.i64_in (((n.getD 0 0).toNat : Nat) : Int) (by omega), IntWalk.i64_in _ (by omega)]
  omega
theorem hdW (n : List UInt8) : List.take (Int.toNat ((1 + (n.getD 0 0).toNat : Nat) : Int) - Int.toNat (0 : Int)) (List.drop (Int.toNat (0 : Int)) n) = hdN n := by
  rw [Int.toNat_natCast]; rfl
theorem tlW (n : List UInt8) : List.take (Int.toNat (↑(List.length n) : Int) - Int.toNat ((1 + (n.getD 0 0).toNat : Nat) : Int)) (List.drop (Int.toNat ((1 + (n.getD 0 0).toNat : Nat) : Int)) n) = tlN n := by
  rw [Int.toNat_natCast, Int.toNat_natCast]
  exact List.take_of_length_le (by simp)
theorem getD_some {α : Type} {o : Option α} {a d : α} (h : o = some a) : o.getD d = a := by rw [h]; rfl
/-- What is left of a name is a name, or none; nothing gets lost. -/
theorem nameL_facts : ∀ (m : Nat) (n S : List UInt8) (L : Known), n.length = m → rootV n = true → ((nameL n S L).1 = none → (nameL n S L).2.1 = [0]) ∧ (∀ a, (nameL n S L).1 = some a → lookK (nameL n S L).2.1 (nameL n S L).2.2.2 = some a) ∧
    (nameL n S L).2.2.1.length + (nameL n S L).2.1.length = S.length + n.length ∧ (kOk L = true → kOk (nameL n S L).2.2.2 = true) ∧ (nameL n S L).2.1.length ≥ 1 ∧ (nameL n S L).2.2.2.length ≤ L.length + n.length := by
  intro m
  induction m using Nat.strongRecOn with
  | _ m ih =>
    intro n S L hm hr
    rcases root_cases hr with rfl | ⟨hn0, hn1, hlt, h63, hne, hrt⟩
    · rw [nameL_root]
      refine ⟨fun _ => rfl, fun a h => (by cases h), rfl, fun h => h, ?_, ?_⟩ <;> simp
    · cases hlk : lookK n L with
      | some a =>
        rw [nameL_known hn0 hlk]
        refine ⟨fun h => (by cases h), fun a' h => ?_, rfl, fun h => h, List.length_pos_iff.2 hn1, Nat.le_add_right _ _⟩
        cases h
        exact hlk
      | none =>
        rw [nameL_next hn0 hn1 hlk]
        have hlt2 := tlN_lt hn1
        obtain ⟨a1, a2, a3, a4, a5, a6⟩ := ih (tlN n).length (by omega) (tlN n) (S ++ hdN n) (if S.length < 16384 then L ++ [(n, (S.length : Int))] else L) rfl hrt
        refine ⟨a1, a2, ?_, fun h => a4 ?_, a5, ?_⟩
        · rw [a3, List.length_append, hdN_len (by omega), tlN_len]
          omega
        · split
          · exact kOk_add h (by assumption)
          · exact h
        · refine Nat.le_trans a6 ?_
          split
          · simp; omega
          · omega
end Go.Proofs.YtfepkpindchleaaE

/- Names taken: plain words. -/
namespace Go.Proofs.YtfepkpindchleaaE
open Go Go.Proofs.YtfepkpindchleaaB
set_option linter.unusedVariables false
set_option linter.unusedSimpArgs false
theorem bits_far : ∀ i, i < 16 → (49152 : Nat).testBit i = decide (14 ≤ i) := by decide
theorem nat_far (n : Nat) (hn : n < 65536) : n &&& (2 ^ 64 - 1 - 49152) = n % 16384 := by
  refine Nat.eq_of_testBit_eq fun i => ?_
  rw [Nat.testBit_and, show (16384 : Nat) = 2 ^ 14 from rfl, Nat.testBit_mod_two_pow]
  by_cases hi : i < 16
  · have h1 := bits_far i hi
    have h2 : (2 ^ 64 - 1 - 49152 : Nat).testBit i = !(49152 : Nat).testBit i := by
      have := Nat.testBit_two_pow_sub_succ (n := 64) (x := 49152) (by decide) i
      rw [show (2 ^ 64 - 1 - 49152 : Nat) = 2 ^ 64 - (49152 + 1) by decide, this]
      simp
      omega
    rw [h2, h1]
    by_cases h14 : i < 14
    · have : ¬ 14 ≤ i := by omega
      simp [h14, this]
    · have : 14 ≤ i := by omega
      simp [h14, this]
  · have : n.testBit i = false := Nat.testBit_lt_two_pow (Nat.lt_of_lt_of_le hn (show 2 ^ 16 ≤ 2 ^ i from Nat.pow_le_pow_right (by omega) (by omega)))
    rw [this]
    simp
theorem and_far {a : Int} (h0 : 0 ≤ a) (h1 : a ≤ 65535) : IntKind.wrap IntKind.i64 (↑(BitVec.toNat (BitVec.ofInt (IntKind.bits IntKind.i64) (IntKind.wrap IntKind.i64 a) &&& ~~~BitVec.ofInt (IntKind.bits IntKind.i64) (49152 : Int))) : Int) = a % 16384 := by
  obtain ⟨m, rfl⟩ : ∃ m : Nat, a = m := ⟨a.toNat, by omega⟩
  rw [IntWalk.i64_in (m : Int) (by omega)]
  have e : BitVec.toNat (BitVec.ofInt (IntKind.bits IntKind.i64) ((m : Nat) : Int) &&& ~~~BitVec.ofInt (IntKind.bits IntKind.i64) ((49152 : Nat) : Int)) = m % 16384 := by
    show BitVec.toNat (BitVec.ofInt 64 ((m : Nat) : Int) &&& ~~~BitVec.ofInt 64 ((49152 : Nat) : Int)) = _
    rw [BitVec.ofInt_natCast, BitVec.ofInt_natCast, BitVec.toNat_and, BitVec.toNat_not, BitVec.toNat_ofNat, BitVec.toNat_ofNat, Nat.mod_eq_of_lt (by omega), Nat.mod_eq_of_lt (by omega)]
    exact nat_far m (by omega)
  rw [show ((49152 : Int)) = ((49152 : Nat) : Int) from rfl, e, IntWalk.i64_in _ (by omega)]
  rfl
/-- The byte at a place; where a pointer there leads. -/
def szT (s : List UInt8) (at_ : Int) : Nat := (s.getD at_.toNat 0).toNat
def toT (s : List UInt8) (at_ : Int) : Int := n16 s at_ % 16384
theorem szT_lt (s : List UInt8) (at_ : Int) : szT s at_ ≤ 255 := by
  have := (s.getD at_.toNat 0).toNat_lt
  unfold szT
  omega
theorem n16_in (s : List UInt8) (at_ : Int) : 0 ≤ n16 s at_ ∧ n16 s at_ ≤ 65535 := by
  have h1 := (s.getD at_.toNat 0).toNat_lt
  have h2 := (s.getD (at_.toNat + 1) 0).toNat_lt
  unfold n16
  omega
theorem toT_in (s : List UInt8) (at_ : Int) : 0 ≤ toT s at_ ∧ toT s at_ < 16384 := by
  unfold toT
  omega
/-- How much is left to do. -/
def msT (s : List UInt8) (at_ from_ : Int) : Nat := from_.toNat * (s.length + 2) + (s.length + 1 - at_.toNat)
theorem someB_iff {s : List UInt8} {at_ many : Int} : someB s at_ many = true ↔ 0 ≤ at_ ∧ 0 ≤ many ∧ at_ + many ≤ s.length := by simp [someB]
theorem msT_to {s : List UInt8} {at_ from_ to : Int} (h0 : 0 ≤ to) (h : to < from_) : msT s to to < msT s at_ from_ := by
  unfold msT
  have h1 : to.toNat + 1 ≤ from_.toNat := by omega
  have h2 : (to.toNat + 1) * (s.length + 2) ≤ from_.toNat * (s.length + 2) := Nat.mul_le_mul_right _ h1
  rw [Nat.add_mul, Nat.one_mul] at h2
  omega
theorem msT_on {s : List UInt8} {at_ from_ : Int} {c : Nat} (h0 : 0 ≤ at_) (h : at_ + 1 + c ≤ s.length) : msT s (at_ + 1 + c) from_ < msT s at_ from_ := by
  unfold msT
  omega
/-- A name taken from a place on: its text, and the place behind it. -/
def takeG (s : List UInt8) (at_ from_ behind : Int) (out : List UInt8) : Option (List UInt8 × Int) :=
  if h1 : someB s at_ 1 = true then
    if 192 ≤ szT s at_ then
      (if h3 : someB s at_ 2 = true ∧ toT s at_ < from_ then takeG s (toT s at_) (toT s at_) (if behind < 0 then at_ + 2 else behind) out else none)
    else if 63 < szT s at_ then none
    else if h4 : someB s (at_ + 1) (szT s at_) = true ∧ out.length + 1 + szT s at_ ≤ 255 then
      (if szT s at_ = 0 then some (out ++ [0], if behind < 0 then at_ + 1 else behind)
       else takeG s (at_ + 1 + szT s at_) from_ behind (out ++ s.getD at_.toNat 0 :: foldB (someV s (at_ + 1) (szT s at_))))
    else none
  else none
termination_by msT s at_ from_
decreasing_by
  · exact msT_to (toT_in s at_).1 h3.2
  · have h1 := someB_iff.1 h1
    have h4 := someB_iff.1 h4.1
    exact msT_on h1.1 h4.2.2
/-- What is told of it. -/
def tkS : Option (List UInt8 × Int) → List UInt8
  | some p => p.1
  | none => []
def tkN : Option (List UInt8 × Int) → Int
  | some p => p.2
  | none => 0
def tkE : Option (List UInt8 × Int) → Int
  | some _ => 0
  | none => 2
def resT (o : Option (List UInt8 × Int)) : List AV := [.str (tkS o), .int .i64 (tkN o), .int .i64 (tkE o)]
section
variable {s : List UInt8} {at_ from_ behind : Int} {out : List UInt8}
theorem takeG_out (h : someB s at_ 1 = false) : takeG s at_ from_ behind out = none := by rw [takeG, dif_neg (by rw [h]; simp)]
theorem takeG_ptr (h : someB s at_ 1 = true) (h2 : 192 ≤ szT s at_) (h3 : someB s at_ 2 = true) (h4 : toT s at_ < from_) : takeG s at_ from_ behind out = takeG s (toT s at_) (toT s at_) (if behind < 0 then at_ + 2 else behind) out := by
  rw [takeG, dif_pos h, if_pos h2, dif_pos ⟨h3, h4⟩]
theorem takeG_bad (h : someB s at_ 1 = true) (h2 : 192 ≤ szT s at_) (h3 : ¬ (someB s at_ 2 = true ∧ toT s at_ < from_)) : takeG s at_ from_ behind out = none := by
  rw [takeG, dif_pos h, if_pos h2, dif_neg h3]
theorem takeG_mid (h : someB s at_ 1 = true) (h2 : ¬ 192 ≤ szT s at_) (h3 : 63 < szT s at_) : takeG s at_ from_ behind out = none := by
  rw [takeG, dif_pos h, if_neg h2, if_pos h3]
theorem takeG_long (h : someB s at_ 1 = true) (h2 : szT s at_ ≤ 63) (h4 : ¬ (someB s (at_ + 1) (szT s at_) = true ∧ out.length + 1 + szT s at_ ≤ 255)) : takeG s at_ from_ behind out = none := by
  rw [takeG, dif_pos h, if_neg (by omega), if_neg (by omega), dif_neg h4]
theorem takeG_end (h : someB s at_ 1 = true) (h2 : szT s at_ = 0) (h4 : out.length + 1 ≤ 255) : takeG s at_ from_ behind out = some (out ++ [0], if behind < 0 then at_ + 1 else behind) := by
  have h5 : someB s (at_ + 1) (szT s at_) = true := by
    have := someB_iff.1 h
    rw [h2]
    exact someB_iff.2 ⟨by omega, by simp, by simp; omega⟩
  rw [takeG, dif_pos h, if_neg (by omega), if_neg (by omega), dif_pos ⟨h5, by omega⟩, if_pos h2]
theorem takeG_on (h : someB s at_ 1 = true) (h2 : szT s at_ ≤ 63) (h3 : szT s at_ ≠ 0) (h4 : someB s (at_ + 1) (szT s at_) = true) (h5 : out.length + 1 + szT s at_ ≤ 255) :
    takeG s at_ from_ behind out = takeG s (at_ + 1 + szT s at_) from_ behind (out ++ s.getD at_.toNat 0 :: foldB (someV s (at_ + 1) (szT s at_))) := by
  rw [takeG, dif_pos h, if_neg (by omega), if_neg (by omega), dif_pos ⟨h4, h5⟩, if_neg h3]
end
theorem foldB_len (s : List UInt8) : (foldB s).length = s.length := by simp [foldB]
theorem someV_len {s : List UInt8} {at_ many : Int} (h : someB s at_ many = true) : (someV s at_ many).length = many.toNat := by
  have := someB_iff.1 h
  simp [someV]
  omega
end Go.Proofs.YtfepkpindchleaaE

/- The same words, to be reckoned out. -/
namespace Go.Proofs.YtfepkpindchleaaE
open Go Go.Proofs.YtfepkpindchleaaB
set_option linter.unusedVariables false
set_option linter.unusedSimpArgs false
def eachU : Nat → List UInt8 → List (List UInt8) × List UInt8
  | 0, s => ([], s)
  | n + 1, s => match s with
    | [] => ([], [])
    | c :: t => if c.toNat = 0 ∨ 63 < c.toNat ∨ t.length < c.toNat then ([], c :: t) else ((t.take c.toNat) :: (eachU n (t.drop c.toNat)).1, (eachU n (t.drop c.toNat)).2)
theorem eachU_eq : ∀ (n : Nat) (s : List UInt8), s.length < n → eachU n s = eachF s
  | 0, s, h => by omega
  | n + 1, [], h => by rw [eachF, eachU]
  | n + 1, c :: t, h => by
    rw [eachF, eachU]
    simp at h
    rw [eachU_eq n (t.drop c.toNat) (by simp; omega)]
theorem eachF_u (s : List UInt8) : eachF s = eachU (s.length + 1) s := (eachU_eq _ s (by omega)).symm
def mayU (s : List UInt8) : Bool := (eachU (s.length + 1) s).2 == [0] && (Nat.ble s.length 255 && (foldB s == s))
theorem mayV_u (s : List UInt8) : mayV s = mayU s := by
  unfold mayV mayU rootV
  rw [eachF_u]
def nameU : Nat → List UInt8 → List UInt8 → Known → Option Int × (List UInt8 × (List UInt8 × Known))
  | 0, n, S, L => (none, n, S, L)
  | m + 1, n, S, L => if n = [0] then (none, n, S, L) else match lookK n L with
    | some a => (some a, n, S, L)
    | none => if n = [] then (none, n, S, L) else nameU m (tlN n) (S ++ hdN n) (if S.length < 16384 then L ++ [(n, (S.length : Int))] else L)
theorem nameU_eq : ∀ (m : Nat) (n S : List UInt8) (L : Known), n.length < m → nameU m n S L = nameL n S L
  | 0, n, S, L, h => by omega
  | m + 1, n, S, L, h => by
    rw [nameL, nameU]
    by_cases h0 : n = [0]
    · rw [if_pos h0, if_pos h0]
    · rw [if_neg h0, if_neg h0]
      cases lookK n L with
      | some a => rfl
      | none =>
        simp only
        by_cases h1 : n = []
        · rw [if_pos h1, dif_pos h1]
        · rw [if_neg h1, dif_neg h1, nameU_eq m _ _ _ (by have := tlN_lt h1; omega)]
def namePU (n S : List UInt8) (L : Known) : List UInt8 × Known := ((nameU (n.length + 1) n S L).2.2.1 ++ endN (nameU (n.length + 1) n S L).1, (nameU (n.length + 1) n S L).2.2.2)
theorem nameP_u (n S : List UInt8) (L : Known) : nameP n S L = namePU n S L := by
  unfold nameP namePU
  rw [nameU_eq _ n S L (by omega)]
def takeU (s : List UInt8) : Nat → Int → Int → Int → List UInt8 → Option (List UInt8 × Int)
  | 0, _, _, _, _ => none
  | m + 1, at_, from_, behind, out =>
    if someB s at_ 1 = true then
      if 192 ≤ szT s at_ then
        (if someB s at_ 2 = true ∧ toT s at_ < from_ then takeU s m (toT s at_) (toT s at_) (if behind < 0 then at_ + 2 else behind) out else none)
      else if 63 < szT s at_ then none
      else if someB s (at_ + 1) (szT s at_) = true ∧ out.length + 1 + szT s at_ ≤ 255 then
        (if szT s at_ = 0 then some (out ++ [0], if behind < 0 then at_ + 1 else behind)
         else takeU s m (at_ + 1 + szT s at_) from_ behind (out ++ s.getD at_.toNat 0 :: foldB (someV s (at_ + 1) (szT s at_))))
      else none
    else none
theorem takeU_eq (s : List UInt8) : ∀ (m : Nat) (at_ from_ behind : Int) (out : List UInt8), msT s at_ from_ < m → takeU s m at_ from_ behind out = takeG s at_ from_ behind out
  | 0, _, _, _, _, h => by omega
  | m + 1, at_, from_, behind, out, h => by
    rw [takeG, takeU]
    by_cases h1 : someB s at_ 1 = true
    · rw [if_pos h1, dif_pos h1]
      by_cases h2 : 192 ≤ szT s at_
      · rw [if_pos h2, if_pos h2]
        by_cases h3 : someB s at_ 2 = true ∧ toT s at_ < from_
        · rw [if_pos h3, dif_pos h3, takeU_eq s m _ _ _ _ (by have := msT_to (s := s) (at_ := at_) (toT_in s at_).1 h3.2; omega)]
        · rw [if_neg h3, dif_neg h3]
      · rw [if_neg h2, if_neg h2]
        by_cases h3 : 63 < szT s at_
        · rw [if_pos h3, if_pos h3]
        · rw [if_neg h3, if_neg h3]
          by_cases h4 : someB s (at_ + 1) (szT s at_) = true ∧ out.length + 1 + szT s at_ ≤ 255
          · rw [if_pos h4, dif_pos h4]
            by_cases h5 : szT s at_ = 0
            · rw [if_pos h5, if_pos h5]
            · rw [if_neg h5, if_neg h5, takeU_eq s m _ _ _ _ (by
                have a1 := someB_iff.1 h1
                have a4 := someB_iff.1 h4.1
                have := msT_on (s := s) (from_ := from_) a1.1 a4.2.2
                omega)]
          · rw [if_neg h4, dif_neg h4]
    · rw [if_neg h1, dif_neg h1]
theorem takeG_u (s : List UInt8) (at_ : Int) : takeG s at_ at_ (-1) [] = takeU s (msT s at_ at_ + 1) at_ at_ (-1) [] := (takeU_eq s _ _ _ _ _ (by omega)).symm
example : mayV [3, 119, 119, 119, 2, 97, 98, 0] = true := by rw [mayV_u]; decide
example : (nameP [3, 119, 119, 119, 2, 97, 98, 0] [] []).1 = [3, 119, 119, 119, 2, 97, 98, 0] := by rw [nameP_u]; decide
example : takeG [3, 119, 119, 119, 2, 97, 98, 0, 192, 4] 8 8 (-1) [] = some ([2, 97, 98, 0], 10) := by rw [takeG_u]; decide
end Go.Proofs.YtfepkpindchleaaE

/- Names in packs, and names taken: how they belong together. -/
namespace Go.Proofs.YtfepkpindchleaaE
open Go Go.Proofs.YtfepkpindchleaaB
set_option linter.unusedVariables false
set_option linter.unusedSimpArgs false
/-! ### Small letters -/
theorem lowB_low (c : UInt8) : lowB (lowB c) = lowB c := by
  unfold lowB
  have hlt := c.toNat_lt
  by_cases h : c.toNat ≥ 65 ∧ c.toNat ≤ 90
  · rw [show (decide (c.toNat ≥ 65) && decide (c.toNat ≤ 90)) = true by simp; omega, cond_true]
    have e : (UInt8.ofNat (c.toNat + 32)).toNat = c.toNat + 32 := by simp; omega
    rw [show (decide ((UInt8.ofNat (c.toNat + 32)).toNat ≥ 65) && decide ((UInt8.ofNat (c.toNat + 32)).toNat ≤ 90)) = false by rw [e]; simp; omega, cond_false]
  · rw [show (decide (c.toNat ≥ 65) && decide (c.toNat ≤ 90)) = false by simp; omega, cond_false]
    rw [show (decide (c.toNat ≥ 65) && decide (c.toNat ≤ 90)) = false by simp; omega, cond_false]
theorem lowB_small {c : UInt8} (h : c.toNat ≤ 63) : lowB c = c := by
  unfold lowB
  rw [show (decide (c.toNat ≥ 65) && decide (c.toNat ≤ 90)) = false by simp; omega, cond_false]
theorem foldB_fold (s : List UInt8) : foldB (foldB s) = foldB s := by
  unfold foldB
  rw [List.map_map]
  exact List.map_congr_left fun c _ => lowB_low c
theorem foldB_app (a b : List UInt8) : foldB (a ++ b) = foldB a ++ foldB b := by simp [foldB]
theorem foldB_cons (c : UInt8) (b : List UInt8) : foldB (c :: b) = lowB c :: foldB b := rfl
/-- Small letters only. -/
def isLow (s : List UInt8) : Prop := foldB s = s
theorem isLow_app {a b : List UInt8} : isLow (a ++ b) ↔ isLow a ∧ isLow b := by
  unfold isLow
  rw [foldB_app]
  constructor
  · intro h
    have h1 := (List.append_inj h (foldB_len a))
    exact h1
  · rintro ⟨h1, h2⟩
    rw [h1, h2]
/-! ### Reading -/
/-- The byte at a place, as a number. -/
def byN (s : List UInt8) (k : Nat) : Nat := (s.getD k 0).toNat
theorem szT_nat (s : List UInt8) (k : Nat) : szT s (k : Int) = byN s k := by unfold szT byN; rw [Int.toNat_natCast]
/-- A name that stands at a place, below another one: its text, and the place behind it. -/
inductive Rd (S : List UInt8) : Nat → Nat → List UInt8 → Nat → Prop where
  | root {k f : Nat} (h : k < S.length) (h0 : byN S k = 0) : Rd S k f [0] (k + 1)
  | label {k f e : Nat} {n : List UInt8} (h1 : byN S k ≠ 0) (h63 : byN S k ≤ 63) (hin : k + 1 + byN S k ≤ S.length) (h : Rd S (k + 1 + byN S k) f n e) :
      Rd S k f (S.getD k 0 :: foldB ((S.drop (k + 1)).take (byN S k)) ++ n) e
  | ptr {k f e : Nat} {n : List UInt8} {to : Nat} (h192 : 192 ≤ byN S k) (hin : k + 2 ≤ S.length) (hto : toT S (k : Int) = to) (hlt : to < f) (h : Rd S to to n e) : Rd S k f n (k + 2)
theorem someB_nat {s : List UInt8} {k m : Nat} : someB s (k : Int) (m : Int) = true ↔ k + m ≤ s.length := by
  rw [someB_iff]
  omega
theorem Rd.pos {S : List UInt8} {k f e : Nat} {n : List UInt8} (h : Rd S k f n e) : 1 ≤ n.length ∧ k < e ∧ e ≤ S.length := by
  induction h with
  | root h h0 => simp; omega
  | label h1 h63 hin h ih => simp; omega
  | ptr h192 hin hto hlt h ih => omega
theorem takeG_rd {S : List UInt8} {k f e : Nat} {n : List UInt8} (h : Rd S k f n e) : ∀ (b : Int) (out : List UInt8), out.length + n.length ≤ 255 → takeG S (k : Int) (f : Int) b out = some (out ++ n, if b < 0 then (e : Int) else b) := by
  induction h with
  | @root k f hk h0 =>
    intro b out hl
    simp at hl
    rw [takeG_end (someB_nat.2 (by omega : k + 1 ≤ S.length)) (by rw [szT_nat]; exact h0) (by omega)]
    rfl
  | @label k f e n h1 h63 hin h ih =>
    intro b out hl
    have hp := h.pos
    simp [foldB_len] at hl
    have hlen : ((S.drop (k + 1)).take (byN S k)).length = byN S k := by simp; omega
    have h4 : someB S ((k : Int) + 1) (szT S (k : Int) : Int) = true := by
      rw [szT_nat, show ((k : Int) + 1) = ((k + 1 : Nat) : Int) by omega, someB_nat]
      omega
    rw [takeG_on (someB_nat.2 (by omega : k + 1 ≤ S.length)) (by rw [szT_nat]; omega) (by rw [szT_nat]; exact h1) h4 (by rw [szT_nat]; omega)]
    have e1 : (k : Int) + 1 + (szT S (k : Int) : Int) = ((k + 1 + byN S k : Nat) : Int) := by rw [szT_nat]; omega
    have e2 : someV S ((k : Int) + 1) (szT S (k : Int) : Int) = (S.drop (k + 1)).take (byN S k) := by
      unfold someV
      rw [szT_nat, Int.toNat_natCast, show ((k : Int) + 1).toNat = k + 1 by omega]
    rw [e1, e2, ih b _ (by simp [foldB_len]; omega), Int.toNat_natCast]
    simp
  | @ptr k f e n to h192 hin hto hlt h ih =>
    intro b out hl
    rw [takeG_ptr (someB_nat.2 (by omega : k + 1 ≤ S.length)) (by rw [szT_nat]; exact h192) (someB_nat.2 (by omega : k + 2 ≤ S.length)) (by rw [hto]; omega), hto, ih _ _ hl]
    congr 2
    by_cases hb : b < 0
    · rw [if_pos hb, if_neg (by omega), if_pos hb]
      omega
    · rw [if_neg hb, if_neg hb, if_neg hb]
theorem getD_app {S X : List UInt8} {k : Nat} (h : k < S.length) : (S ++ X).getD k 0 = S.getD k 0 := by
  rw [List.getD_eq_getElem?_getD, List.getD_eq_getElem?_getD, List.getElem?_append_left h]
theorem byN_app {S X : List UInt8} {k : Nat} (h : k < S.length) : byN (S ++ X) k = byN S k := by unfold byN; rw [getD_app h]
theorem toT_app {S X : List UInt8} {k : Nat} (h : k + 2 ≤ S.length) : toT (S ++ X) (k : Int) = toT S (k : Int) := by
  unfold toT n16
  rw [Int.toNat_natCast, getD_app (by omega), getD_app (by omega)]
theorem Rd.mono {S : List UInt8} (X : List UInt8) {k f e : Nat} {n : List UInt8} (h : Rd S k f n e) : Rd (S ++ X) k f n e := by
  induction h with
  | @root k f hk h0 => exact .root (by simp; omega) (by rw [byN_app hk]; exact h0)
  | @label k f e n h1 h63 hin h ih =>
    have hb : byN (S ++ X) k = byN S k := byN_app (by omega)
    have := Rd.label (S := S ++ X) (k := k) (f := f) (e := e) (n := n) (by rw [hb]; exact h1) (by rw [hb]; exact h63) (by rw [hb]; simp; omega) (by rw [hb]; exact ih)
    rw [hb, getD_app (by omega)] at this
    rw [List.drop_append_of_le_length (by omega), List.take_append_of_le_length (by simp; omega)] at this
    exact this
  | @ptr k f e n to h192 hin hto hlt h ih => exact .ptr (by rw [byN_app (by omega)]; exact h192) (by simp; omega) (by rw [toT_app hin]; exact hto) hlt ih
theorem Rd.up {S : List UInt8} {k f f' e : Nat} {n : List UInt8} (h : Rd S k f n e) (hf : f ≤ f') : Rd S k f' n e := by
  induction h generalizing f' with
  | root h h0 => exact .root h h0
  | label h1 h63 hin h ih => exact .label h1 h63 hin (ih hf)
  | ptr h192 hin hto hlt h ih => exact .ptr h192 hin hto (by omega) h
/-! ### What is known -/
def PI (S : List UInt8) (L : Known) : Prop := ∀ n a, (n, a) ∈ L → ∃ k e : Nat, a = (k : Int) ∧ k < 16384 ∧ Rd S k k n e
theorem PI.mono {S : List UInt8} {L : Known} (h : PI S L) (X : List UInt8) : PI (S ++ X) L := fun n a hm => by
  obtain ⟨k, e, h1, h2, h3⟩ := h n a hm
  exact ⟨k, e, h1, h2, h3.mono X⟩
theorem look_mem {n : List UInt8} {L : Known} {a : Int} (h : lookK n L = some a) : (n, a) ∈ L := by
  induction L with
  | nil => cases h
  | cons e L ih =>
    unfold lookK lookM at h
    by_cases hq : n = e.1
    · rw [show Ty.keq .str n e.1 = true by simp only [Ty.keq, beq_iff_eq]; exact hq] at h
      cases h
      rw [hq]
      exact List.mem_cons_self
    · rw [show Ty.keq .str n e.1 = false by simp only [Ty.keq, beq_eq_false_iff_ne]; exact hq] at h
      exact List.mem_cons_of_mem _ (ih h)
theorem look_app {n : List UInt8} {L N : Known} (h : ∀ m b, (m, b) ∈ N → m ≠ n) : lookK n (L ++ N) = lookK n L := by
  induction L with
  | nil =>
    show lookK n N = none
    induction N with
    | nil => rfl
    | cons e N ih =>
      unfold lookK lookM
      have hq : n ≠ e.1 := fun e' => h e.1 e.2 List.mem_cons_self e'.symm
      rw [show Ty.keq .str n e.1 = false by simp only [Ty.keq, beq_eq_false_iff_ne]; exact hq]
      exact ih fun m b hm => h m b (List.mem_cons_of_mem _ hm)
  | cons e L ih =>
    simp only [List.cons_append]
    unfold lookK lookM
    cases Ty.keq .str n e.1 with
    | true => rfl
    | false => exact ih
theorem look_has {n : List UInt8} {L : Known} {a : Int} (h : (n, a) ∈ L) : (lookK n L).isSome = true := by
  induction L with
  | nil => simp at h
  | cons e L ih =>
    unfold lookK lookM
    rcases List.mem_cons.1 h with rfl | h
    · rw [show Ty.keq .str n n = true by simp [Ty.keq]]
      rfl
    · cases Ty.keq .str n e.1 with
      | true => rfl
      | false => exact ih h
theorem PI.kOk {S : List UInt8} {L : Known} (h : PI S L) : kOk L = true := by
  refine List.all_eq_true.2 fun ⟨n, a⟩ hm => ?_
  obtain ⟨k, e, rfl, h2, _⟩ := h n a hm
  simp only [Bool.and_eq_true, decide_eq_true_eq]
  omega
theorem put16_to {S X : List UInt8} {a : Nat} (ha : a < 16384) : byN (S ++ (put16 (49152 + (a : Int)) ++ X)) S.length ≥ 192 ∧ toT (S ++ (put16 (49152 + (a : Int)) ++ X)) (S.length : Int) = a := by
  have e0 : (S ++ (put16 (49152 + (a : Int)) ++ X)).getD S.length 0 = UInt8.ofNat ((49152 + (a : Int)) / 256).toNat := by
    rw [List.getD_eq_getElem?_getD, List.getElem?_append_right (Nat.le_refl _), Nat.sub_self]; rfl
  have e1 : (S ++ (put16 (49152 + (a : Int)) ++ X)).getD (S.length + 1) 0 = UInt8.ofNat ((49152 + (a : Int)) % 256).toNat := by
    rw [List.getD_eq_getElem?_getD, List.getElem?_append_right (by omega), show S.length + 1 - S.length = 1 by omega]; rfl
  have t0 : (UInt8.ofNat ((49152 + (a : Int)) / 256).toNat).toNat = 192 + a / 256 := by simp; omega
  have t1 : (UInt8.ofNat ((49152 + (a : Int)) % 256).toNat).toNat = a % 256 := by simp; omega
  constructor
  · unfold byN
    rw [e0, t0]
    omega
  · unfold toT n16
    rw [Int.toNat_natCast, e0, e1, t0, t1]
    omega
/-- A name put behind bytes: it stands there; all that is known then stands where it is said to. -/
theorem nameP_rd : ∀ (m : Nat) (n S : List UInt8) (L0 N : Known) (S0 T0 : List UInt8), n.length = m → rootV n = true → isLow n → PI S0 L0 → S = S0 ++ T0 → (∀ q b, (q, b) ∈ N → n.length < q.length) →
    ∃ T N', (nameP n S (L0 ++ N)).1 = S ++ T ∧ (nameP n S (L0 ++ N)).2 = (L0 ++ N) ++ N' ∧ Rd (S ++ T) S.length S0.length n (S ++ T).length ∧ (∀ q b, (q, b) ∈ N' → ∃ k e : Nat, b = (k : Int) ∧ k < 16384 ∧ Rd (S ++ T) k k q e) := by
  intro m
  induction m using Nat.strongRecOn with
  | _ m ih =>
    intro n S L0 N S0 T0 hm hr hlow hPI hS hN
    rcases root_cases hr with rfl | ⟨hn0, hn1, hlt, h63, hne, hrt⟩
    · refine ⟨[0], [], ?_, ?_, ?_, fun q b h => by simp at h⟩
      · unfold nameP; rw [nameL_root]; rfl
      · unfold nameP; rw [nameL_root]; simp
      · have hb : byN (S ++ [0]) S.length = 0 := by
          unfold byN
          rw [List.getD_eq_getElem?_getD, List.getElem?_append_right (Nat.le_refl _), Nat.sub_self]; rfl
        have := Rd.root (S := S ++ [0]) (k := S.length) (f := S0.length) (by simp) hb
        simpa using this
    · have hlk : lookK n (L0 ++ N) = lookK n L0 := look_app fun q b hq e => by have := hN q b hq; rw [e] at this; omega
      cases ha : lookK n L0 with
      | some a =>
        obtain ⟨k, e, rfl, hk, hrd⟩ := hPI n a (look_mem ha)
        refine ⟨put16 (49152 + (k : Int)), [], ?_, ?_, ?_, fun q b h => by simp at h⟩
        · unfold nameP; rw [nameL_known hn0 (hlk.trans ha)]; rfl
        · unfold nameP; rw [nameL_known hn0 (hlk.trans ha)]; simp
        · obtain ⟨h1, h2⟩ := put16_to (S := S) (X := []) hk
          rw [List.append_nil] at h1 h2
          have hp := hrd.pos
          have := Rd.ptr (S := S ++ put16 (49152 + (k : Int))) (k := S.length) (f := S0.length) (to := k) h1 (by simp [put16_len]) h2 (by omega) (by rw [hS, List.append_assoc]; exact hrd.mono _)
          simpa [put16_len] using this
      | none =>
        have hlt2 := tlN_lt hn1
        obtain ⟨c, t, rfl⟩ := List.exists_cons_of_ne_nil hn1
        have hc : (c :: t).getD 0 0 = c := rfl
        rw [hc] at hlt h63 hne
        have htl : tlN (c :: t) = t.drop c.toNat := by unfold tlN; rw [hc, Nat.add_comm]; rfl
        have hhd : hdN (c :: t) = c :: t.take c.toNat := by unfold hdN; rw [hc, Nat.add_comm]; rfl
        have hsplit : (c :: t) = hdN (c :: t) ++ tlN (c :: t) := by rw [hhd, htl]; simp
        have hlow2 : isLow (hdN (c :: t)) ∧ isLow (tlN (c :: t)) := isLow_app.1 (hsplit ▸ hlow)
        have hhl : (hdN (c :: t)).length = 1 + c.toNat := by rw [hhd]; simp at hlt ⊢; omega
        obtain ⟨N2, hN2, hN2len, hN2k⟩ : ∃ N2 : Known, (if S.length < 16384 then (L0 ++ N) ++ [((c :: t), (S.length : Int))] else L0 ++ N) = L0 ++ (N ++ N2) ∧ (∀ q b, (q, b) ∈ N2 → q = c :: t ∧ b = (S.length : Int) ∧ S.length < 16384) ∧ True := by
          by_cases h : S.length < 16384
          · rw [if_pos h]
            exact ⟨[((c :: t), (S.length : Int))], by simp, fun q b hq => by simp at hq; exact ⟨hq.1, hq.2, h⟩, trivial⟩
          · rw [if_neg h]
            exact ⟨[], by simp, fun q b hq => by simp at hq, trivial⟩
        obtain ⟨T, N', i1, i2, i3, i4⟩ := ih (tlN (c :: t)).length (by omega) (tlN (c :: t)) (S ++ hdN (c :: t)) L0 (N ++ N2) S0 (T0 ++ hdN (c :: t)) rfl hrt hlow2.2 hPI (by rw [hS]; simp) (fun q b hq => by
          rcases List.mem_append.1 hq with hq | hq
          · have := hN q b hq; omega
          · obtain ⟨rfl, _⟩ := hN2len q b hq; omega)
        have hP : nameP (c :: t) S (L0 ++ N) = nameP (tlN (c :: t)) (S ++ hdN (c :: t)) (L0 ++ (N ++ N2)) := by
          unfold nameP
          rw [nameL_next hn0 hn1 (hlk.trans ha), hN2]
        rw [hP]
        have hb : byN (S ++ (hdN (c :: t) ++ T)) S.length = c.toNat := by
          unfold byN
          rw [List.getD_eq_getElem?_getD, List.getElem?_append_right (Nat.le_refl _), Nat.sub_self, hhd]; rfl
        have hg : (S ++ (hdN (c :: t) ++ T)).getD S.length 0 = c := by
          rw [List.getD_eq_getElem?_getD, List.getElem?_append_right (Nat.le_refl _), Nat.sub_self, hhd]; rfl
        rw [List.append_assoc] at i1 i3 i4
        have hrd : Rd (S ++ (hdN (c :: t) ++ T)) S.length S0.length (c :: t) (S ++ (hdN (c :: t) ++ T)).length := by
          have hl := Rd.label (S := S ++ (hdN (c :: t) ++ T)) (k := S.length) (f := S0.length) (e := (S ++ (hdN (c :: t) ++ T)).length) (n := tlN (c :: t)) (by rw [hb]; exact hne) (by rw [hb]; exact h63) (by rw [hb]; simp [hhl]; omega) (by
            rw [hb]
            have : (S ++ hdN (c :: t)).length = S.length + 1 + c.toNat := by rw [List.length_append, hhl]; omega
            rw [this] at i3
            exact i3)
          rw [hb, hg] at hl
          have hv : ((S ++ (hdN (c :: t) ++ T)).drop (S.length + 1)).take c.toNat = t.take c.toNat := by
            rw [← List.drop_drop, List.drop_left, hhd]
            simp only [List.cons_append, List.drop_succ_cons, List.drop_zero]
            rw [List.take_append_of_le_length (by simp at hlt ⊢; omega), List.take_take, Nat.min_self]
          rw [hv] at hl
          have hf : foldB (t.take c.toNat) = t.take c.toNat := by
            have := hlow2.1
            rw [hhd] at this
            exact (List.cons.inj this).2
          rw [hf, htl] at hl
          have e : c :: List.take c.toNat t ++ List.drop c.toNat t = c :: t := by simp
          rw [e] at hl
          exact hl
        refine ⟨hdN (c :: t) ++ T, N2 ++ N', i1, by rw [i2]; simp, hrd, fun q b hq => ?_⟩
        rcases List.mem_append.1 hq with hq | hq
        · obtain ⟨rfl, rfl, h⟩ := hN2len q b hq
          exact ⟨S.length, _, rfl, h, hrd.up (by rw [hS]; simp)⟩
        · exact i4 q b hq
end Go.Proofs.YtfepkpindchleaaE

/- Names in packs, and names taken: what laws ask. -/
namespace Go.Proofs.YtfepkpindchleaaE
open Go Go.Proofs.YtfepkpindchleaaB
set_option linter.unusedVariables false
set_option linter.unusedSimpArgs false
theorem may_iff {n : List UInt8} : mayV n = true ↔ rootV n = true ∧ n.length ≤ 255 ∧ isLow n := by
  unfold mayV isLow
  rw [ble_iff]
  simp
/-- A name put: where it stands, what is known then, how many bytes it took. -/
theorem name_put {n S : List UInt8} {L : Known} (hm : mayV n = true) (hP : PI S L) :
    ∃ T N', (nameP n S L).1 = S ++ T ∧ (nameP n S L).2 = L ++ N' ∧ PI (S ++ T) (L ++ N') ∧ Rd (S ++ T) S.length S.length n (S ++ T).length := by
  obtain ⟨h1, h2, h3⟩ := may_iff.1 hm
  obtain ⟨T, N', a1, a2, a3, a4⟩ := nameP_rd _ n S L [] S [] rfl h1 h3 hP (by simp) (fun q b h => by simp at h)
  rw [List.append_nil] at a1 a2
  refine ⟨T, N', a1, a2, fun q b hq => ?_, a3⟩
  rcases List.mem_append.1 hq with hq | hq
  · exact hP.mono T q b hq
  · exact a4 q b hq
theorem root_len {n : List UInt8} (hr : rootV n = true) (h : n ≠ [0]) : 3 ≤ n.length := by
  rcases root_cases hr with rfl | ⟨_, _, hlt, _, hne, _⟩
  · exact absurd rfl h
  · omega
theorem nameL_mono : ∀ (m : Nat) (n S : List UInt8) (L : Known), n.length = m → S.length ≤ (nameL n S L).2.2.1.length := by
  intro m
  induction m using Nat.strongRecOn with
  | _ m ih =>
    intro n S L hm
    by_cases h0 : n = [0]
    · rw [h0, nameL_root]; exact Nat.le_refl _
    · cases hlk : lookK n L with
      | some a => rw [nameL_known h0 hlk]; exact Nat.le_refl _
      | none =>
        by_cases h1 : n = []
        · rw [nameL, if_neg h0]; simp only [hlk, dif_pos h1]; exact Nat.le_refl _
        · rw [nameL_next h0 h1 hlk]
          have := ih (tlN n).length (by have := tlN_lt h1; omega) (tlN n) (S ++ hdN n) (if S.length < 16384 then L ++ [(n, (S.length : Int))] else L) rfl
          rw [List.length_append] at this
          omega
theorem nameL_len : ∀ (m : Nat) (n S : List UInt8) (L : Known), n.length = m → rootV n = true → (nameP n S L).1.length ≤ S.length + n.length ∧ S.length + 1 ≤ (nameP n S L).1.length ∧ (nameP n S L).2.length ≤ L.length + n.length := by
  intro m n S L hm hr
  obtain ⟨f1, f2, f3, f4, f5, f6⟩ := nameL_facts _ n S L rfl hr
  have f7 := nameL_mono _ n S L rfl
  unfold nameP
  rw [List.length_append]
  cases h : (nameL n S L).1 with
  | none =>
    have := f1 h
    rw [this] at f3
    simp only [endN, List.length_cons, List.length_nil] at f3 ⊢
    omega
  | some a =>
    have hne : (nameL n S L).2.1.length ≥ 3 := by
      -- what is left is known: it is no root
      have : ∀ (m : Nat) (n S : List UInt8) (L : Known), n.length = m → rootV n = true → ∀ a, (nameL n S L).1 = some a → 3 ≤ (nameL n S L).2.1.length := by
        intro m
        induction m using Nat.strongRecOn with
        | _ m ih =>
          intro n S L hm hr a ha
          rcases root_cases hr with rfl | ⟨hn0, hn1, hlt, h63, hne, hrt⟩
          · rw [nameL_root] at ha; cases ha
          · cases hlk : lookK n L with
            | some a' => rw [nameL_known hn0 hlk]; exact root_len hr hn0
            | none =>
              rw [nameL_next hn0 hn1 hlk] at ha ⊢
              exact ih (tlN n).length (by have := tlN_lt hn1; omega) _ _ _ rfl hrt a ha
      exact this _ n S L rfl hr a h
    simp only [endN, put16_len]
    omega
/-! ### What is taken -/
/-- Labels, so far. -/
def LP (out : List UInt8) : Prop := isLow out ∧ ∀ r, (eachF (out ++ r)).2 = (eachF r).2
theorem LP_nil : LP [] := ⟨rfl, fun r => rfl⟩
theorem LP_on {out v : List UInt8} {c : UInt8} (h : LP out) (h0 : c.toNat ≠ 0) (h63 : c.toNat ≤ 63) (hv : v.length = c.toNat) : LP (out ++ c :: foldB v) := by
  refine ⟨isLow_app.2 ⟨h.1, ?_⟩, fun r => ?_⟩
  · unfold isLow
    rw [foldB_cons, lowB_small h63, foldB_fold]
  · rw [List.append_assoc, h.2, List.cons_append, eachF, if_neg (by simp [foldB_len, hv]; omega)]
    simp only
    rw [List.drop_append_of_le_length (by simp [foldB_len, hv]), List.drop_eq_nil_of_le (by simp [foldB_len, hv])]
    rfl
theorem takeG_may {s : List UInt8} : ∀ (m : Nat) (at_ from_ b : Int) (out n : List UInt8) (next : Int), msT s at_ from_ = m → LP out → takeG s at_ from_ b out = some (n, next) →
    mayV n = true ∧ (0 ≤ b → next = b) ∧ (b < 0 → at_ < next ∧ next ≤ s.length) ∧ 0 ≤ at_ := by
  intro m
  induction m using Nat.strongRecOn with
  | _ m ih =>
    intro at_ from_ b out n next hm hL h
    cases h1 : someB s at_ 1 with
    | false => rw [takeG_out h1] at h; cases h
    | true =>
      have hs1 := someB_iff.1 h1
      by_cases h192 : 192 ≤ szT s at_
      · by_cases h3 : someB s at_ 2 = true ∧ toT s at_ < from_
        · rw [takeG_ptr h1 h192 h3.1 h3.2] at h
          have hto := toT_in s at_
          obtain ⟨a1, a2, a3, a4⟩ := ih (msT s (toT s at_) (toT s at_)) (by have := msT_to (s := s) (at_ := at_) hto.1 h3.2; omega) _ _ _ _ _ _ rfl hL h
          have hs2 := someB_iff.1 h3.1
          refine ⟨a1, fun hb => ?_, fun hb => ?_, hs1.1⟩
          · rw [if_neg (by omega)] at a2
            exact a2 hb
          · rw [if_pos hb] at a2
            have := a2 (by omega)
            omega
        · rw [takeG_bad h1 h192 h3] at h; cases h
      · by_cases h63 : 63 < szT s at_
        · rw [takeG_mid h1 h192 h63] at h; cases h
        · by_cases h4 : someB s (at_ + 1) (szT s at_) = true ∧ out.length + 1 + szT s at_ ≤ 255
          · have hs4 := someB_iff.1 h4.1
            have hvl : (someV s (at_ + 1) (szT s at_ : Int)).length = szT s at_ := by rw [someV_len h4.1]; omega
            by_cases h0 : szT s at_ = 0
            · rw [takeG_end h1 h0 (by omega)] at h
              cases h
              refine ⟨may_iff.2 ⟨?_, by simp; omega, isLow_app.2 ⟨hL.1, by unfold isLow; decide⟩⟩, fun hb => by rw [if_neg (by omega)], fun hb => by rw [if_pos hb]; omega, hs1.1⟩
              unfold rootV
              rw [hL.2, eachF, if_pos (by decide)]
              rfl
            · rw [takeG_on h1 (by omega) h0 h4.1 h4.2] at h
              have hg : (s.getD at_.toNat 0).toNat = szT s at_ := rfl
              obtain ⟨a1, a2, a3, a4⟩ := ih (msT s (at_ + 1 + szT s at_) from_) (by have := msT_on (s := s) (from_ := from_) hs1.1 hs4.2.2; omega) _ _ _ _ _ _ rfl (LP_on hL (by rw [hg]; exact h0) (by rw [hg]; omega) (by rw [hg]; exact hvl)) h
              refine ⟨a1, a2, fun hb => ?_, hs1.1⟩
              have := a3 hb
              omega
          · rw [takeG_long h1 (by omega) h4] at h; cases h
/-- Nothing that is known is in the way: the name's own bytes. -/
theorem nameP_fresh : ∀ (m : Nat) (n S : List UInt8) (L : Known), n.length = m → rootV n = true → (∀ q b, (q, b) ∈ L → n.length < q.length) → (nameP n S L).1 = S ++ n := by
  intro m
  induction m using Nat.strongRecOn with
  | _ m ih =>
    intro n S L hm hr hL
    rcases root_cases hr with rfl | ⟨hn0, hn1, hlt, h63, hne, hrt⟩
    · unfold nameP; rw [nameL_root]; rfl
    · have hlk : lookK n L = none := by
        have := look_app (n := n) (L := []) (N := L) fun q b hq e => by have := hL q b hq; rw [e] at this; omega
        exact this
      have hlt2 := tlN_lt hn1
      have : nameP n S L = nameP (tlN n) (S ++ hdN n) (if S.length < 16384 then L ++ [(n, (S.length : Int))] else L) := by
        unfold nameP
        rw [nameL_next hn0 hn1 hlk]
      rw [this, ih (tlN n).length (by omega) (tlN n) _ _ rfl hrt (fun q b hq => by
        split at hq
        · rcases List.mem_append.1 hq with hq | hq
          · have := hL q b hq; omega
          · simp at hq; rw [hq.1]; exact hlt2
        · have := hL q b hq; omega)]
      rw [List.append_assoc]
      congr 1
      exact List.take_append_drop _ n
/-- A name by itself stands as it is. -/
theorem Rd_self (n A X : List UInt8) (hr : rootV n = true) (hl : isLow n) : Rd (A ++ (n ++ X)) A.length A.length n (A.length + n.length) := by
  obtain ⟨T, N', a1, a2, a3, a4⟩ := nameP_rd _ n A [] [] A [] rfl hr hl (fun q b h => by simp at h) (by simp) (fun q b h => by simp at h)
  have hk := nameP_fresh _ n A [] rfl hr (fun q b h => by simp at h)
  rw [List.append_nil] at a1
  have hT : T = n := List.append_cancel_left (a1.symm.trans hk)
  subst hT
  have := a3.mono X
  rw [List.append_assoc, List.length_append] at this
  exact this
theorem takeG_self {n X : List UInt8} (hm : mayV n = true) : takeG (n ++ X) 0 0 (-1) [] = some (n, (n.length : Int)) := by
  obtain ⟨h1, h2, h3⟩ := may_iff.1 hm
  have := takeG_rd (Rd_self n [] X h1 h3) (-1) [] (by simpa using h2)
  simpa using this
/-- A name that is put into an empty pack takes its bytes. -/
theorem nameP_self {n : List UInt8} (hm : mayV n = true) : (nameP n [] []).1 = n := by
  obtain ⟨h1, h2, h3⟩ := may_iff.1 hm
  simpa using nameP_fresh _ n [] [] rfl h1 (fun q b h => by simp at h)
end Go.Proofs.YtfepkpindchleaaE

/- Names taken, as the document has it: plain words; they are the same. -/
namespace Go.Proofs.YtfepkpindchleaaE
open Go Go.Proofs.YtfepkpindchleaaB
set_option linter.unusedVariables false
set_option linter.unusedSimpArgs false
/-- Where labels from a place on end: with a root, or at a pointer. -/
def labE (s : List UInt8) (k : Nat) : Option (Nat × Bool) :=
  if h : k < s.length then
    (if 192 ≤ byN s k then some (k, false) else if 63 < byN s k then none else if byN s k = 0 then some (k + 1, true) else labE s (k + 1 + byN s k))
  else none
termination_by s.length - k
theorem labE_ge {s : List UInt8} : ∀ (m k e : Nat) (r : Bool), s.length - k = m → labE s k = some (e, r) → k ≤ e ∧ e ≤ s.length ∧ (r = true → k < e ∧ byN s (e - 1) = 0) := by
  intro m
  induction m using Nat.strongRecOn with
  | _ m ih =>
    intro k e r hm h
    rw [labE] at h
    by_cases hk : k < s.length
    · rw [dif_pos hk] at h
      split at h
      · cases h; exact ⟨Nat.le_refl _, by omega, fun h => by cases h⟩
      · split at h
        · cases h
        · split at h
          · cases h; exact ⟨by omega, by omega, fun _ => ⟨by omega, by simpa⟩⟩
          · have := ih (s.length - (k + 1 + byN s k)) (by omega) _ e r rfl h
            exact ⟨by omega, this.2.1, fun hr => ⟨by omega, (this.2.2 hr).2⟩⟩
    · rw [dif_neg hk] at h; cases h
/-- The bytes from one place up to another. -/
def sub (s : List UInt8) (a e : Nat) : List UInt8 := (s.drop a).take (e - a)
theorem sub_len {s : List UInt8} {a e : Nat} (h : a ≤ e) (he : e ≤ s.length) : (sub s a e).length = e - a := by simp [sub]; omega
theorem sub_get {s : List UInt8} {a e j : Nat} (h : a + j < e) (he : e ≤ s.length) : byN (sub s a e) j = byN s (a + j) := by
  unfold byN sub
  rw [List.getD_eq_getElem?_getD, List.getElem?_take_of_lt (by omega), List.getElem?_drop, List.getD_eq_getElem?_getD]
theorem sub_split {s : List UInt8} {a m e : Nat} (h1 : a ≤ m) (h2 : m ≤ e) : sub s a e = sub s a m ++ sub s m e := by
  unfold sub
  have : e - a = (m - a) + (e - m) := by omega
  rw [this, List.take_add, List.drop_drop]
  congr 3
  omega
theorem sub_one {s : List UInt8} {a c : Nat} (h : a < s.length) : sub s a (a + 1 + c) = s.getD a 0 :: (s.drop (a + 1)).take c := by
  unfold sub
  rw [drop_get s a 0 h, show a + 1 + c - a = c + 1 by omega]
  rfl
/-- Whether bytes are labels, and a byte 0 behind all. -/
def endsR (p : List UInt8) (k : Nat) : Bool :=
  if h : k < p.length then (if byN p k = 0 then decide (k = p.length - 1) else endsR p (k + 1 + byN p k)) else false
termination_by p.length - k
theorem endsR_lab {s : List UInt8} : ∀ (m a k e : Nat) (r : Bool), s.length - k = m → a ≤ k → labE s k = some (e, r) → endsR (sub s a e) (k - a) = r := by
  intro m
  induction m using Nat.strongRecOn with
  | _ m ih =>
    intro a k e r hm hak h
    have hge := labE_ge _ k e r rfl h
    have hlen := sub_len (s := s) (a := a) (e := e) (by omega) hge.2.1
    have h' := h
    rw [labE] at h
    by_cases hk : k < s.length
    · rw [dif_pos hk] at h
      split at h
      · cases h
        rw [endsR, dif_neg (by omega)]
      · split at h
        · cases h
        · split at h
          · rename_i h0
            cases h
            rw [endsR, dif_pos (by omega), if_pos (by rw [sub_get (by omega) hge.2.1, show a + (k - a) = k by omega]; exact h0)]
            exact decide_eq_true (by omega)
          · rename_i h0
            have hge2 := labE_ge _ _ e r rfl h
            have hb : byN (sub s a e) (k - a) = byN s k := by rw [sub_get (by omega) hge.2.1, show a + (k - a) = k by omega]
            rw [endsR, dif_pos (by omega), if_neg (by rw [hb]; exact h0), hb, show k - a + 1 + byN s k = (k + 1 + byN s k) - a by omega]
            exact ih (s.length - (k + 1 + byN s k)) (by omega) a _ e r rfl (by omega) h
    · rw [dif_neg hk] at h; cases h
/-- A name taken, piece by piece. -/
def takeR (s : List UInt8) (a : Nat) (b : Int) (n : List UInt8) : Option (List UInt8 × Int) :=
  match labE s a with
  | none => none
  | some (e, true) => some (n ++ sub s a e, if b < 0 then (e : Int) else b)
  | some (e, false) => if h : e + 2 ≤ s.length ∧ toT s (e : Int) < (a : Int) then takeR s (toT s (e : Int)).toNat (if b < 0 then (e : Int) + 2 else b) (n ++ sub s a e) else none
termination_by a
decreasing_by
  have := toT_in s (e : Int)
  omega
theorem takeR_len {s : List UInt8} : ∀ (a : Nat) (b : Int) (n m : List UInt8) (b' : Int), takeR s a b n = some (m, b') → n.length ≤ m.length := by
  intro a
  induction a using Nat.strongRecOn with
  | _ a ih =>
    intro b n m b' h
    rw [takeR] at h
    split at h
    · cases h
    · cases h; simp
    · rename_i e _
      split at h
      · rename_i hc
        have hto := toT_in s (e : Int)
        have := ih _ (by omega) _ _ _ _ h
        simp at this
        omega
      · cases h
theorem takeG_lab {s : List UInt8} : ∀ (m k f : Nat) (b : Int) (out : List UInt8), s.length - k = m →
    (labE s k = none → takeG s (k : Int) (f : Int) b (foldB out) = none) ∧
    (∀ e, labE s k = some (e, true) → takeG s (k : Int) (f : Int) b (foldB out) = if out.length + (e - k) ≤ 255 then some (foldB (out ++ sub s k e), if b < 0 then (e : Int) else b) else none) ∧
    (∀ e, labE s k = some (e, false) → out.length ≤ 255 → takeG s (k : Int) (f : Int) b (foldB out) = if out.length + (e - k) ≤ 255 then takeG s (e : Int) (f : Int) b (foldB (out ++ sub s k e)) else none) := by
  intro m
  induction m using Nat.strongRecOn with
  | _ m ih =>
    intro k f b out hm
    by_cases hk : k < s.length
    · have h1 : someB s (k : Int) 1 = true := someB_nat.2 (by omega : k + 1 ≤ s.length)
      have hL := labE.eq_1 s k
      rw [dif_pos hk] at hL
      by_cases h192 : 192 ≤ byN s k
      · rw [if_pos h192] at hL
        refine ⟨fun h => (by rw [h] at hL; cases hL), fun e h => (by rw [h] at hL; cases hL), fun e h hl => ?_⟩
        rw [h] at hL
        cases hL
        rw [if_pos (by omega)]
        simp [sub]
      · rw [if_neg h192] at hL
        by_cases h63 : 63 < byN s k
        · rw [if_pos h63] at hL
          refine ⟨fun h => takeG_mid h1 (by rw [szT_nat]; exact h192) (by rw [szT_nat]; exact h63), fun e h => (by rw [h] at hL; cases hL), fun e h => (by rw [h] at hL; cases hL)⟩
        · rw [if_neg h63] at hL
          by_cases h0 : byN s k = 0
          · rw [if_pos h0] at hL
            have hg0 : s.getD k 0 = 0 := UInt8.toNat_inj.1 (by simpa using (show (s.getD k 0).toNat = 0 from h0))
            refine ⟨fun h => (by rw [h] at hL; cases hL), fun e h => ?_, fun e h => (by rw [h] at hL; cases hL)⟩
            rw [h] at hL
            cases hL
            have hs : sub s k (k + 1) = [0] := by
              have := sub_one (s := s) (a := k) (c := 0) hk
              rw [hg0] at this
              simpa using this
            by_cases hc : out.length + 1 ≤ 255
            · rw [if_pos (by omega), takeG_end h1 (by rw [szT_nat]; exact h0) (by rw [foldB_len]; exact hc), hs, foldB_app]
              rfl
            · rw [if_neg (by omega)]
              exact takeG_long h1 (by rw [szT_nat]; omega) (by rw [foldB_len, szT_nat]; exact fun h => hc (by omega))
          · rw [if_neg h0] at hL
            by_cases hin : k + 1 + byN s k ≤ s.length
            · have h4 : someB s ((k : Int) + 1) (szT s (k : Int) : Int) = true := by
                rw [szT_nat, show ((k : Int) + 1) = ((k + 1 : Nat) : Int) by omega, someB_nat]
                omega
              have e1 : (k : Int) + 1 + (szT s (k : Int) : Int) = ((k + 1 + byN s k : Nat) : Int) := by rw [szT_nat]; omega
              have e2 : someV s ((k : Int) + 1) (szT s (k : Int) : Int) = (s.drop (k + 1)).take (byN s k) := by
                unfold someV
                rw [szT_nat, Int.toNat_natCast, show ((k : Int) + 1).toNat = k + 1 by omega]
              have hsl : (sub s k (k + 1 + byN s k)).length = 1 + byN s k := by rw [sub_len (by omega) hin]; omega
              have hfold : foldB out ++ s.getD k 0 :: foldB ((s.drop (k + 1)).take (byN s k)) = foldB (out ++ sub s k (k + 1 + byN s k)) := by
                rw [foldB_app, sub_one hk, foldB_cons, lowB_small (show (s.getD k 0).toNat ≤ 63 from by unfold byN at h63; omega)]
              obtain ⟨i1, i2, i3⟩ := ih (s.length - (k + 1 + byN s k)) (by omega) (k + 1 + byN s k) f b (out ++ sub s k (k + 1 + byN s k)) rfl
              have hstep : out.length + 1 + byN s k ≤ 255 → takeG s (k : Int) (f : Int) b (foldB out) = takeG s ((k + 1 + byN s k : Nat) : Int) (f : Int) b (foldB (out ++ sub s k (k + 1 + byN s k))) := fun hc => by
                rw [takeG_on h1 (by rw [szT_nat]; omega) (by rw [szT_nat]; exact h0) h4 (by rw [foldB_len, szT_nat]; exact hc), e1, e2, Int.toNat_natCast, hfold]
              have hbad : ¬ out.length + 1 + byN s k ≤ 255 → takeG s (k : Int) (f : Int) b (foldB out) = none := fun hc =>
                takeG_long h1 (by rw [szT_nat]; omega) (by rw [foldB_len, szT_nat]; exact fun h => hc h.2)
              refine ⟨fun h => ?_, fun e h => ?_, fun e h hl => ?_⟩
              · rw [h] at hL
                by_cases hc : out.length + 1 + byN s k ≤ 255
                · rw [hstep hc]; exact i1 hL.symm
                · exact hbad hc
              · rw [h] at hL
                have hge := labE_ge _ _ e true rfl hL.symm
                by_cases hc : out.length + 1 + byN s k ≤ 255
                · rw [hstep hc, i2 e hL.symm, List.length_append, hsl, List.append_assoc, ← sub_split (by omega) hge.1]
                  by_cases hd : out.length + (e - k) ≤ 255
                  · rw [if_pos hd, if_pos (by omega)]
                  · rw [if_neg hd, if_neg (by omega)]
                · rw [hbad hc, if_neg (by omega)]
              · rw [h] at hL
                have hge := labE_ge _ _ e false rfl hL.symm
                by_cases hc : out.length + 1 + byN s k ≤ 255
                · rw [hstep hc, i3 e hL.symm (by rw [List.length_append, hsl]; omega), List.length_append, hsl, List.append_assoc, ← sub_split (by omega) hge.1]
                  by_cases hd : out.length + (e - k) ≤ 255
                  · rw [if_pos hd, if_pos (by omega)]
                  · rw [if_neg hd, if_neg (by omega)]
                · rw [hbad hc, if_neg (by omega)]
            · have hn : labE s (k + 1 + byN s k) = none := by rw [labE, dif_neg (by omega)]
              rw [hn] at hL
              refine ⟨fun h => ?_, fun e h => (by rw [h] at hL; cases hL), fun e h => (by rw [h] at hL; cases hL)⟩
              exact takeG_long h1 (by rw [szT_nat]; omega) (fun h => by
                have h4 := h.1
                rw [szT_nat, show ((k : Int) + 1) = ((k + 1 : Nat) : Int) by omega, someB_nat] at h4
                omega)
    · have hL : labE s k = none := by rw [labE, dif_neg hk]
      refine ⟨fun _ => takeG_out ?_, fun e h => (by rw [h] at hL; cases hL), fun e h => (by rw [h] at hL; cases hL)⟩
      cases h : someB s (k : Int) 1 with
      | false => rfl
      | true => have := (someB_nat (m := 1)).1 h; omega
/-- The two are the same. -/
theorem takeG_R {s : List UInt8} : ∀ (a : Nat) (b : Int) (out : List UInt8), out.length ≤ 255 → takeG s (a : Int) (a : Int) b (foldB out) = (match takeR s a b out with
    | none => none
    | some p => if p.1.length ≤ 255 then some (foldB p.1, p.2) else none) := by
  intro a
  induction a using Nat.strongRecOn with
  | _ a ih =>
    intro b out hl
    obtain ⟨l1, l2, l3⟩ := takeG_lab (s := s) _ a a b out rfl
    rw [takeR]
    cases hL : labE s a with
    | none => rw [l1 hL]
    | some p =>
      obtain ⟨e, r⟩ := p
      have hge := labE_ge _ a e r rfl hL
      have hsl := sub_len (s := s) hge.1 hge.2.1
      cases r with
      | true =>
        rw [l2 e hL]
        simp only [List.length_append, hsl]
      | false =>
        rw [l3 e hL hl]
        have hto := toT_in s (e : Int)
        by_cases hc : out.length + (e - a) ≤ 255
        · rw [if_pos hc]
          by_cases h2 : e + 2 ≤ s.length ∧ toT s (e : Int) < (a : Int)
          · simp only [dif_pos h2]
            have h192 : 192 ≤ szT s (e : Int) := by
              rw [szT_nat]
              have : ∀ (m k : Nat), s.length - k = m → labE s k = some (e, false) → 192 ≤ byN s e := by
                intro m
                induction m using Nat.strongRecOn with
                | _ m ih =>
                  intro k hm h
                  rw [labE] at h
                  by_cases hk : k < s.length
                  · rw [dif_pos hk] at h
                    split at h
                    · cases h; assumption
                    · split at h
                      · cases h
                      · split at h
                        · cases h
                        · exact ih (s.length - (k + 1 + byN s k)) (by omega) _ rfl h
                  · rw [dif_neg hk] at h; cases h
              exact this _ a rfl hL
            rw [takeG_ptr (someB_nat.2 (by omega : e + 1 ≤ s.length)) h192 (someB_nat.2 (by omega : e + 2 ≤ s.length)) h2.2]
            have e1 : toT s (e : Int) = (((toT s (e : Int)).toNat : Nat) : Int) := by omega
            have := ih (toT s (e : Int)).toNat (by omega) (if b < 0 then (e : Int) + 2 else b) (out ++ sub s a e) (by rw [List.length_append, hsl]; exact hc)
            rw [← e1] at this
            exact this
          · simp only [dif_neg h2]
            by_cases h1 : someB s (e : Int) 1 = true
            · have h192 : 192 ≤ szT s (e : Int) := by
                rw [szT_nat]
                have : ∀ (m k : Nat), s.length - k = m → labE s k = some (e, false) → 192 ≤ byN s e := by
                  intro m
                  induction m using Nat.strongRecOn with
                  | _ m ih =>
                    intro k hm h
                    rw [labE] at h
                    by_cases hk : k < s.length
                    · rw [dif_pos hk] at h
                      split at h
                      · cases h; assumption
                      · split at h
                        · cases h
                        · split at h
                          · cases h
                          · exact ih (s.length - (k + 1 + byN s k)) (by omega) _ rfl h
                    · rw [dif_neg hk] at h; cases h
                exact this _ a rfl hL
              exact takeG_bad h1 h192 (fun h => h2 ⟨someB_nat.1 h.1, h.2⟩)
            · exact takeG_out (by simpa using h1)
        · rw [if_neg hc]
          by_cases h2 : e + 2 ≤ s.length ∧ toT s (e : Int) < (a : Int)
          · simp only [dif_pos h2]
            cases hp : takeR s (toT s (e : Int)).toNat (if b < 0 then (e : Int) + 2 else b) (out ++ sub s a e) with
            | none => rfl
            | some p =>
              have := takeR_len _ _ _ _ _ hp
              rw [List.length_append, hsl] at this
              simp only
              rw [if_neg (by omega)]
          · simp only [dif_neg h2]
/-- Whether labels run out of the bytes. -/
def labX (s : List UInt8) (k : Nat) : Bool := if h : k < s.length then (if 192 ≤ byN s k then false else if 63 < byN s k then false else if byN s k = 0 then false else labX s (k + 1 + byN s k)) else true
termination_by s.length - k
theorem labX_E {s : List UInt8} : ∀ (m k : Nat), s.length - k = m → labX s k = true → labE s k = none := by
  intro m
  induction m using Nat.strongRecOn with
  | _ m ih =>
    intro k hm h
    rw [labX] at h
    rw [labE]
    by_cases hk : k < s.length
    · rw [dif_pos hk] at h ⊢
      split
      · rw [if_pos ‹_›] at h; cases h
      · rw [if_neg ‹_›] at h
        split
        · rfl
        · rw [if_neg ‹_›] at h
          split
          · rw [if_pos ‹_›] at h; cases h
          · rw [if_neg ‹_›] at h
            exact ih _ (by omega) _ rfl h
    · rw [dif_neg hk]
def endsX (p : List UInt8) (k : Nat) : Bool := if h : k < p.length then (if byN p k = 0 then false else endsX p (k + 1 + byN p k)) else true
termination_by p.length - k
theorem endsX_R {s : List UInt8} : ∀ (m k : Nat), s.length - k = m → endsX s k = true → endsR s k = false := by
  intro m
  induction m using Nat.strongRecOn with
  | _ m ih =>
    intro k hm h
    rw [endsX] at h
    rw [endsR]
    by_cases hk : k < s.length
    · rw [dif_pos hk] at h ⊢
      split
      · rw [if_pos ‹_›] at h; cases h
      · rw [if_neg ‹_›] at h
        exact ih _ (by omega) _ rfl h
    · rw [dif_neg hk]
def lbS3 (s : List UInt8) (a : Int) : List UInt8 := if a < 0 then [] else match labE s a.toNat with
  | some (e, _) => sub s a.toNat e
  | none => []
def lbE3 (s : List UInt8) (a : Int) : Int := if a < 0 then -1 else match labE s a.toNat with
  | some (e, _) => e
  | none => -1
def lbX3 (s : List UInt8) (a : Int) : Bool := decide (a < 0) || labX s a.toNat
theorem takeG_neg {s : List UInt8} {at_ b : Int} {f : Int} {out : List UInt8} (h : at_ < 0) : takeG s at_ f b out = none := takeG_out (by
  cases hs : someB s at_ 1 with
  | false => rfl
  | true => have := someB_iff.1 hs; omega)
/-- A name taken, piece by piece; and what there is when it goes wrong. -/
def takeS (s : List UInt8) (a : Nat) (b : Int) (n : List UInt8) : Bool × (List UInt8 × Int) :=
  match labE s a with
  | none => (false, n, b)
  | some (e, true) => (true, n ++ sub s a e, if b < 0 then (e : Int) else b)
  | some (e, false) => if h : e + 2 ≤ s.length ∧ toT s (e : Int) < (a : Int) then takeS s (toT s (e : Int)).toNat (if b < 0 then (e : Int) + 2 else b) (n ++ sub s a e) else (false, n ++ sub s a e, b)
termination_by a
decreasing_by
  have := toT_in s (e : Int)
  omega
theorem takeS_R {s : List UInt8} : ∀ (a : Nat) (b : Int) (n : List UInt8), takeR s a b n = if (takeS s a b n).1 = true then some (takeS s a b n).2 else none := by
  intro a
  induction a using Nat.strongRecOn with
  | _ a ih =>
    intro b n
    rw [takeR, takeS]
    cases hL : labE s a with
    | none => rfl
    | some p =>
      obtain ⟨e, r⟩ := p
      cases r with
      | true => rfl
      | false =>
        by_cases h2 : e + 2 ≤ s.length ∧ toT s (e : Int) < (a : Int)
        · simp only [dif_pos h2]
          have := toT_in s (e : Int)
          exact ih _ (by omega) _ _
        · simp only [dif_neg h2]
          rfl
def nilS (n : List UInt8) : Bool := n.isEmpty
def tk3 (s : List UInt8) (a b : Int) (n : List UInt8) : Bool × (List UInt8 × Int) := if a < 0 then (false, n, b) else takeS s a.toNat b n
theorem tk3_G {s : List UInt8} {a : Int} : takeG s a a (-1) [] = (bif (tk3 s a (-1) []).1 then (if (tk3 s a (-1) []).2.1.length ≤ 255 then some (foldB (tk3 s a (-1) []).2.1, (tk3 s a (-1) []).2.2) else none) else none) := by
  unfold tk3
  by_cases h0 : a < 0
  · rw [if_pos h0, takeG_neg h0]; rfl
  · rw [if_neg h0]
    have := takeG_R (s := s) a.toNat (-1) [] (by simp)
    rw [Int.toNat_of_nonneg (by omega), show foldB [] = [] from rfl] at this
    rw [this, takeS_R]
    cases (takeS s a.toNat (-1) []).1 <;> rfl
end Go.Proofs.YtfepkpindchleaaE

/- wire.Pack: names. -/
namespace Go.Proofs.YtfepkpindchleaaE
open Go Go.Proofs.YtfepkpindchleaaB
set_option linter.unusedVariables false
set_option linter.unusedSimpArgs false
def nmC (n : List UInt8) (b : List Int) (l : Known) : Bool := rootV n && (bytesOk b && (kOk l && Nat.ble (b.length + n.length) 1000000000000))
noncomputable def b24 : Code := (nthLoop c24 0)
def ls24 : LoopSpec := { bid := 0, sh := [.ptr 0 0, .d .str false], so := [.box [.row 1, .mp 2], .row (.int .u8), .map .str (.int .i64)], F := fun (n, _) (_, b, l, _) => .on2 (nmC n b l) ((nameL n (intBytes b) l).1.isSome) (.ret, [.ptr 0 0, .str (nameL n (intBytes b) l).2.1, .int .i64 0], [.box [.rowA 1, .mp 2], .row (.int .u8) (bytesInt ((nameL n (intBytes b) l).2.2.1 ++ put16 (49152 + (nameL n (intBytes b) l).1.getD 0))), .mpo .str (.int .i64) (nameL n (intBytes b) l).2.2.2]) (.exit 0, [.ptr 0 0, .str (nameL n (intBytes b) l).2.1, .dead], [.box [.rowA 1, .mp 2], .row (.int .u8) (bytesInt (nameL n (intBytes b) l).2.2.1), .mpo .str (.int .i64) (nameL n (intBytes b) l).2.2.2]) }
def r24 (n : List UInt8) (b : List Int) (l : List (List UInt8 × Int)) : Tr (St ⊕ (Ex × St)) := Tr.br (!n == [0]) (Tr.br (hasM Ty.str (Ty.int IntKind.i64) n l) (Tr.br (n16C (IntKind.wrap IntKind.u16 (IntKind.wrap IntKind.i64 (↑(BitVec.toNat (BitVec.ofInt (IntKind.bits IntKind.i64) (49152 : Int) ||| BitVec.ofInt (IntKind.bits IntKind.i64) (getM Ty.str (Ty.int IntKind.i64) n l))) : Int)))) (Tr.br (fits (List.length b + List.length (bytesInt (put16 (IntKind.wrap IntKind.u16 (IntKind.wrap IntKind.i64 (↑(BitVec.toNat (BitVec.ofInt (IntKind.bits IntKind.i64) (49152 : Int) ||| BitVec.ofInt (IntKind.bits IntKind.i64) (getM Ty.str (Ty.int IntKind.i64) n l))) : Int)))))) 1) (Tr.ret (Sum.inr (Ex.ret, stOf [0, 1, 4] [AV.ptr 0 0, AV.str n, AV.int IntKind.i64 (0 : Int)] [LObj.boxT none [AV.rowA 1, AV.mp 2], LObj.row (Ty.int IntKind.u8) (b ++ bytesInt (put16 (IntKind.wrap IntKind.u16 (IntKind.wrap IntKind.i64 (↑(BitVec.toNat (BitVec.ofInt (IntKind.bits IntKind.i64) (49152 : Int) ||| BitVec.ofInt (IntKind.bits IntKind.i64) (getM Ty.str (Ty.int IntKind.i64) n l))) : Int))))), LObj.mpo Ty.str (Ty.int IntKind.i64) l]))) Tr.no) Tr.no) (Tr.br (decide ((↑(List.length b) : Int) < (16384 : Int))) (Tr.br (decide ((0 : Int) < (↑(List.length n) : Int))) (Tr.br (decide ((0 : Int) ≤ IntKind.wrap IntKind.i64 ((1 : Int) + IntKind.wrap IntKind.i64 (↑(UInt8.toNat (List.getD n (Int.toNat (0 : Int)) 0)) : Int))) && decide (IntKind.wrap IntKind.i64 ((1 : Int) + IntKind.wrap IntKind.i64 (↑(UInt8.toNat (List.getD n (Int.toNat (0 : Int)) 0)) : Int)) ≤ (↑(List.length n) : Int))) (Tr.br (decide ((0 : Int) ≤ (0 : Int)) && decide ((0 : Int) ≤ IntKind.wrap IntKind.i64 ((1 : Int) + IntKind.wrap IntKind.i64 (↑(UInt8.toNat (List.getD n (Int.toNat (0 : Int)) 0)) : Int)))) (Tr.br (fits (List.length b + List.length (bytesInt (List.take (Int.toNat (IntKind.wrap IntKind.i64 ((1 : Int) + IntKind.wrap IntKind.i64 (↑(UInt8.toNat (List.getD n (Int.toNat (0 : Int)) 0)) : Int))) - Int.toNat (0 : Int)) (List.drop (Int.toNat (0 : Int)) n)))) 1) (Tr.br (decide ((0 : Int) ≤ (↑(List.length n) : Int)) && decide ((↑(List.length n) : Int) ≤ (↑(List.length n) : Int))) (Tr.br (decide ((0 : Int) ≤ IntKind.wrap IntKind.i64 ((1 : Int) + IntKind.wrap IntKind.i64 (↑(UInt8.toNat (List.getD n (Int.toNat (0 : Int)) 0)) : Int))) && decide (IntKind.wrap IntKind.i64 ((1 : Int) + IntKind.wrap IntKind.i64 (↑(UInt8.toNat (List.getD n (Int.toNat (0 : Int)) 0)) : Int)) ≤ (↑(List.length n) : Int))) (Tr.ret (Sum.inl (stOf [0, 1] [AV.ptr 0 0, AV.str (List.take (Int.toNat (↑(List.length n) : Int) - Int.toNat (IntKind.wrap IntKind.i64 ((1 : Int) + IntKind.wrap IntKind.i64 (↑(UInt8.toNat (List.getD n (Int.toNat (0 : Int)) 0)) : Int)))) (List.drop (Int.toNat (IntKind.wrap IntKind.i64 ((1 : Int) + IntKind.wrap IntKind.i64 (↑(UInt8.toNat (List.getD n (Int.toNat (0 : Int)) 0)) : Int)))) n))] [LObj.boxT none [AV.rowA 1, AV.mp 2], LObj.row (Ty.int IntKind.u8) (b ++ bytesInt (List.take (Int.toNat (IntKind.wrap IntKind.i64 ((1 : Int) + IntKind.wrap IntKind.i64 (↑(UInt8.toNat (List.getD n (Int.toNat (0 : Int)) 0)) : Int))) - Int.toNat (0 : Int)) (List.drop (Int.toNat (0 : Int)) n))), LObj.mpo Ty.str (Ty.int IntKind.i64) (putM Ty.str (Ty.int IntKind.i64) n (↑(List.length b) : Int) l)]))) Tr.no) Tr.no) Tr.no) Tr.no) Tr.no) Tr.no) (Tr.br (decide ((0 : Int) < (↑(List.length n) : Int))) (Tr.br (decide ((0 : Int) ≤ IntKind.wrap IntKind.i64 ((1 : Int) + IntKind.wrap IntKind.i64 (↑(UInt8.toNat (List.getD n (Int.toNat (0 : Int)) 0)) : Int))) && decide (IntKind.wrap IntKind.i64 ((1 : Int) + IntKind.wrap IntKind.i64 (↑(UInt8.toNat (List.getD n (Int.toNat (0 : Int)) 0)) : Int)) ≤ (↑(List.length n) : Int))) (Tr.br (decide ((0 : Int) ≤ (0 : Int)) && decide ((0 : Int) ≤ IntKind.wrap IntKind.i64 ((1 : Int) + IntKind.wrap IntKind.i64 (↑(UInt8.toNat (List.getD n (Int.toNat (0 : Int)) 0)) : Int)))) (Tr.br (fits (List.length b + List.length (bytesInt (List.take (Int.toNat (IntKind.wrap IntKind.i64 ((1 : Int) + IntKind.wrap IntKind.i64 (↑(UInt8.toNat (List.getD n (Int.toNat (0 : Int)) 0)) : Int))) - Int.toNat (0 : Int)) (List.drop (Int.toNat (0 : Int)) n)))) 1) (Tr.br (decide ((0 : Int) ≤ (↑(List.length n) : Int)) && decide ((↑(List.length n) : Int) ≤ (↑(List.length n) : Int))) (Tr.br (decide ((0 : Int) ≤ IntKind.wrap IntKind.i64 ((1 : Int) + IntKind.wrap IntKind.i64 (↑(UInt8.toNat (List.getD n (Int.toNat (0 : Int)) 0)) : Int))) && decide (IntKind.wrap IntKind.i64 ((1 : Int) + IntKind.wrap IntKind.i64 (↑(UInt8.toNat (List.getD n (Int.toNat (0 : Int)) 0)) : Int)) ≤ (↑(List.length n) : Int))) (Tr.ret (Sum.inl (stOf [0, 1] [AV.ptr 0 0, AV.str (List.take (Int.toNat (↑(List.length n) : Int) - Int.toNat (IntKind.wrap IntKind.i64 ((1 : Int) + IntKind.wrap IntKind.i64 (↑(UInt8.toNat (List.getD n (Int.toNat (0 : Int)) 0)) : Int)))) (List.drop (Int.toNat (IntKind.wrap IntKind.i64 ((1 : Int) + IntKind.wrap IntKind.i64 (↑(UInt8.toNat (List.getD n (Int.toNat (0 : Int)) 0)) : Int)))) n))] [LObj.boxT none [AV.rowA 1, AV.mp 2], LObj.row (Ty.int IntKind.u8) (b ++ bytesInt (List.take (Int.toNat (IntKind.wrap IntKind.i64 ((1 : Int) + IntKind.wrap IntKind.i64 (↑(UInt8.toNat (List.getD n (Int.toNat (0 : Int)) 0)) : Int))) - Int.toNat (0 : Int)) (List.drop (Int.toNat (0 : Int)) n))), LObj.mpo Ty.str (Ty.int IntKind.i64) l]))) Tr.no) Tr.no) Tr.no) Tr.no) Tr.no) Tr.no))) (Tr.ret (Sum.inr (Ex.exit 0, stOf [0, 1, 4] [AV.ptr 0 0, AV.str n, AV.dead] [LObj.boxT none [AV.rowA 1, AV.mp 2], LObj.row (Ty.int IntKind.u8) b, LObj.mpo Ty.str (Ty.int IntKind.i64) l])))
set_option maxRecDepth 1000000 in
theorem round24 (lp : Lp) (n : List UInt8) (b : List Int) (l : List (List UInt8 × Int)) : evC T0 (orcB [fs42w, fs29w] [os22]) lp b24 0 (stOf [0, 1] [.ptr 0 0, .str n] [.box [.rowA 1, .mp 2], .row (.int .u8) b, .mpo .str (.int .i64) l]) (roundK [0, 1] [0, 1, 4] 3) = (r24 n b l).get := by kernel_rfl
theorem wf24 (I'' : List UInt8 → List Int → List (List UInt8 × Int) → Prop) (m'' : List UInt8 → List Int → List (List UInt8 × Int) → Nat) (r'' : Ex × St) (h : ∀ (n : List UInt8) (b : List Int) (l : List (List UInt8 × Int)), I'' n b l → (r24 n b l).all fun x'' => x'' = .inr r'' ∨ ∃ (n' : List UInt8) (b' : List Int) (l' : List (List UInt8 × Int)), x'' = .inl (stOf [0, 1] [.ptr 0 0, .str n'] [.box [.rowA 1, .mp 2], .row (.int .u8) b', .mpo .str (.int .i64) l']) ∧ I'' n' b' l' ∧ m'' n' b' l' < m'' n b l) (lp : Lp) (n : List UInt8) (b : List Int) (l : List (List UInt8 × Int)) : I'' n b l →
    loopF (fun st => evC T0 (orcB [fs42w, fs29w] [os22]) lp b24 0 st (roundK [0, 1] [0, 1, 4] 3)) (stOf [0, 1] [.ptr 0 0, .str n] [.box [.rowA 1, .mp 2], .row (.int .u8) b, .mpo .str (.int .i64) l]) = some r'' :=
  loop_tr (fun a'' : List UInt8 × List Int × List (List UInt8 × Int) => stOf [0, 1] [.ptr 0 0, .str a''.1] [.box [.rowA 1, .mp 2], .row (.int .u8) a''.2.1, .mpo .str (.int .i64) a''.2.2]) (fun a'' => I'' a''.1 a''.2.1 a''.2.2) (fun a'' => m'' a''.1 a''.2.1 a''.2.2) r'' (fun a'' => r24 a''.1 a''.2.1 a''.2.2)
    (fun a'' x hx => (round24 lp a''.1 a''.2.1 a''.2.2).trans hx) (fun a'' ha => Tr.all_mono (fun x'' hx => hx.imp id fun ⟨n', b', l', h1, h2, h3⟩ => ⟨(n', b', l'), h1, h2, h3⟩) (h (a''.1) (a''.2.1) (a''.2.2) ha)) (n, b, l)
/-- How far the name has come. -/
def nmI (n0 : List UInt8) (b0 : List Int) (l0 : Known) (n : List UInt8) (b : List Int) (l : Known) : Prop := rootV n = true ∧ bytesOk b = true ∧ kOk l = true ∧ b.length + n.length ≤ 1000000000000 ∧ nameL n (intBytes b) l = nameL n0 (intBytes b0) l0
theorem loop24 : ls24.Ok T0 (orcB [fs42w, fs29w] [os22]) h24 3 0 b24 := by
  intro q'' hq'' x'' y'' r'' h
  obtain ⟨(n : List UInt8), _⟩ := x''
  obtain ⟨_, (b : List Int), (l : List (List UInt8 × Int)), _⟩ := y''
  obtain ⟨hc, rfl⟩ := Tr.get_on2 h
  show loopF (fun st => evC T0 (orcB [fs42w, fs29w] [os22]) (lpN T0 (orcB [fs42w, fs29w] [os22]) h24 3 q'') b24 0 st (roundK [0, 1] [0, 1, 4] 3)) (stOf [0, 1] [.ptr 0 0, .str n] [.box [.rowA 1, .mp 2], .row (.int .u8) b, .mpo .str (.int .i64) l]) = some ((bif (nameL n (intBytes b) l).1.isSome then (.ret, [.ptr 0 0, .str (nameL n (intBytes b) l).2.1, .int .i64 0], [.box [.rowA 1, .mp 2], .row (.int .u8) (bytesInt ((nameL n (intBytes b) l).2.2.1 ++ put16 (49152 + (nameL n (intBytes b) l).1.getD 0))), .mpo .str (.int .i64) (nameL n (intBytes b) l).2.2.2]) else (.exit 0, [.ptr 0 0, .str (nameL n (intBytes b) l).2.1, .dead], [.box [.rowA 1, .mp 2], .row (.int .u8) (bytesInt (nameL n (intBytes b) l).2.2.1), .mpo .str (.int .i64) (nameL n (intBytes b) l).2.2.2]) : Ex × List AV × List LObj).1, stOf [0, 1, 4] (bif (nameL n (intBytes b) l).1.isSome then (.ret, [.ptr 0 0, .str (nameL n (intBytes b) l).2.1, .int .i64 0], [.box [.rowA 1, .mp 2], .row (.int .u8) (bytesInt ((nameL n (intBytes b) l).2.2.1 ++ put16 (49152 + (nameL n (intBytes b) l).1.getD 0))), .mpo .str (.int .i64) (nameL n (intBytes b) l).2.2.2]) else (.exit 0, [.ptr 0 0, .str (nameL n (intBytes b) l).2.1, .dead], [.box [.rowA 1, .mp 2], .row (.int .u8) (bytesInt (nameL n (intBytes b) l).2.2.1), .mpo .str (.int .i64) (nameL n (intBytes b) l).2.2.2]) : Ex × List AV × List LObj).2.1 (bif (nameL n (intBytes b) l).1.isSome then (.ret, [.ptr 0 0, .str (nameL n (intBytes b) l).2.1, .int .i64 0], [.box [.rowA 1, .mp 2], .row (.int .u8) (bytesInt ((nameL n (intBytes b) l).2.2.1 ++ put16 (49152 + (nameL n (intBytes b) l).1.getD 0))), .mpo .str (.int .i64) (nameL n (intBytes b) l).2.2.2]) else (.exit 0, [.ptr 0 0, .str (nameL n (intBytes b) l).2.1, .dead], [.box [.rowA 1, .mp 2], .row (.int .u8) (bytesInt (nameL n (intBytes b) l).2.2.1), .mpo .str (.int .i64) (nameL n (intBytes b) l).2.2.2]) : Ex × List AV × List LObj).2.2)
  simp only [nmC, Bool.and_eq_true] at hc
  obtain ⟨hr, hok, hk, hb⟩ := hc
  have hb := Nat.le_of_ble_eq_true hb
  refine wf24 (nmI n b l) (fun n _ _ => n.length) _ ?_ _ n b l ⟨hr, hok, hk, hb, rfl⟩
  clear hr hok hk hb
  rename_i n0 b0 l0
  rintro n b l ⟨hr, hok, hk, hb, he⟩
  rw [← he]
  unfold r24
  have hbS : bytesInt (intBytes b) = b := bytes_intB hok
  have hSl : (intBytes b).length = b.length := intB_len b
  rcases root_cases hr with rfl | ⟨hn0, hn1, hlt, h63, hne, hrt⟩
  · rw [nameL_root]
    refine Tr.all_f (by simp) (Tr.all_ret (.inl ?_))
    simp only [Option.isSome_none, cond_false, hbS]
  · refine Tr.all_t (by simpa using hn0) ?_
    cases hlk : lookK n l with
    | some a =>
      obtain ⟨ha0, ha1⟩ := kOk_look hk hlk
      rw [nameL_known hn0 hlk]
      rw [getM_some hlk]
      simp only [or_far ha0 ha1]
      refine Tr.all_t (by rw [hasM_some, hlk]; rfl) (Tr.all_t (by simp [n16C]; omega) (Tr.all_t (fits_true (by simp [bytesInt_len, put16_len]; omega) (by simp [bytesInt_len, put16_len]; omega)) (Tr.all_ret (.inl ?_))))
      simp only [Option.isSome_some, cond_true, bytesInt_app, hbS, Option.getD_some]
    | none =>
      rw [nameL_next hn0 hn1 hlk]
      rw [putK_new hlk]
      simp only [szW, hdW, tlW]
      have hfit : fits (List.length b + List.length (bytesInt (hdN n))) 1 = true := fits_true (by rw [bytesInt_len, hdN_len (by omega)]; omega) (by rw [bytesInt_len, hdN_len (by omega)]; omega)
      have hnew : bytesOk (b ++ bytesInt (hdN n)) = true := bytesOk_app hok (bytesInt_ok _)
      have hlen : (b ++ bytesInt (hdN n)).length + (tlN n).length ≤ 1000000000000 := by
        rw [List.length_append, bytesInt_len, hdN_len (by omega), tlN_len]; omega
      have hS2 : intBytes (b ++ bytesInt (hdN n)) = intBytes b ++ hdN n := by rw [intB_app, intB_bytes]
      have hm : (tlN n).length < n.length := tlN_lt hn1
      refine Tr.all_f (by rw [hasM_some, hlk]; rfl) (Tr.all_br (fun c1 => ?_) fun c1 => ?_)
      · simp only [decide_eq_true_eq] at c1
        refine Tr.all_t (dec_true (by omega)) (Tr.all_t (by rw [dec_true (by omega), dec_true (by omega)]; rfl) (Tr.all_t (by rw [dec_true (by omega), dec_true (by omega)]; rfl) (Tr.all_t hfit (Tr.all_t (by rw [dec_true (by omega), dec_true (by omega)]; rfl) (Tr.all_t (by rw [dec_true (by omega), dec_true (by omega)]; rfl) (Tr.all_ret (.inr ⟨_, _, _, rfl, ⟨hrt, hnew, kOk_add hk (by omega), hlen, ?_⟩, hm⟩)))))))
        rw [hS2, ← he, nameL_next hn0 hn1 hlk, if_pos (by omega), hSl]
      · simp only [decide_eq_false_iff_not] at c1
        refine Tr.all_t (dec_true (by omega)) (Tr.all_t (by rw [dec_true (by omega), dec_true (by omega)]; rfl) (Tr.all_t (by rw [dec_true (by omega), dec_true (by omega)]; rfl) (Tr.all_t hfit (Tr.all_t (by rw [dec_true (by omega), dec_true (by omega)]; rfl) (Tr.all_t (by rw [dec_true (by omega), dec_true (by omega)]; rfl) (Tr.all_ret (.inr ⟨_, _, _, rfl, ⟨hrt, hnew, hk, hlen, ?_⟩, hm⟩)))))))
        rw [hS2, ← he, nameL_next hn0 hn1 hlk, if_neg (by omega)]
/-- (*wire.Pack).Name -/
def t24 (n : List UInt8) (b : List Int) (l : List (List UInt8 × Int)) : Tr Res := Tr.br (bigS n) (Tr.br (!mayV n) (Tr.ret ([AV.int IntKind.i64 (1 : Int)], [LObj.boxT none [AV.rowA 1, AV.mp 2], LObj.row (Ty.int IntKind.u8) b, LObj.mpo Ty.str (Ty.int IntKind.i64) l])) (Tr.br (nmC n b l) (Tr.br (Option.isSome (Prod.fst (nameL n (intBytes b) l))) (Tr.ret ([AV.int IntKind.i64 (0 : Int)], [LObj.boxT none [AV.rowA 1, AV.mp 2], LObj.row (Ty.int IntKind.u8) (bytesInt (Prod.fst (Prod.snd (Prod.snd (nameL n (intBytes b) l))) ++ put16 ((49152 : Int) + Option.getD (Prod.fst (nameL n (intBytes b) l)) (0 : Int)))), LObj.mpo Ty.str (Ty.int IntKind.i64) (Prod.snd (Prod.snd (Prod.snd (nameL n (intBytes b) l))))])) (Tr.br (fits (List.length (bytesInt (Prod.fst (Prod.snd (Prod.snd (nameL n (intBytes b) l))))) + List.length (bytesInt (Prod.fst (Prod.snd (nameL n (intBytes b) l))))) 1) (Tr.ret ([AV.int IntKind.i64 (0 : Int)], [LObj.boxT none [AV.rowA 1, AV.mp 2], LObj.row (Ty.int IntKind.u8) (bytesInt (Prod.fst (Prod.snd (Prod.snd (nameL n (intBytes b) l)))) ++ bytesInt (Prod.fst (Prod.snd (nameL n (intBytes b) l)))), LObj.mpo Ty.str (Ty.int IntKind.i64) (Prod.snd (Prod.snd (Prod.snd (nameL n (intBytes b) l))))])) Tr.no)) Tr.no)) Tr.no
def os24 : OSpec := { f := 24, sh := [.ptr 0 0, .d .str false], so := [.box [.row 1, .mp 2], .row (.int .u8), .map .str (.int .i64)], F := fun (n, _) (_, b, l, _) => t24 n b l }
set_option maxRecDepth 1000000 in
theorem fn24 (n : List UInt8) (b : List Int) (l : List (List UInt8 × Int)) : evC T0 (orcB [fs42w, fs29w] [os22]) (lpOf h24 3 (lsOf [ls24])) c24 1000000 (startSt [.ptr 0 0, .str n] [.box [.rowA 1, .mp 2], .row (.int .u8) b, .mpo .str (.int .i64) l] Try.f24.ntmps) (finishK T0 false 3 Try.f24) = (t24 n b l).get := by kernel_rfl
theorem ok24 : os24.Ok Try.prog := by
  refine os_ok mixed0 tab0 (orcB_sound (all_cons okf42w (all_cons okf29w all_nil)) (all_cons ok22 all_nil)) h24 (d := 0) (n0 := 3) (S := lsOf [ls24]) Try.func24 (by kernel_rfl) (c := c24) (by kernel_rfl) rfl (loops_eq (xs := [(0, b24)]) (by kernel_rfl) (all_cons (ls_here loop24) all_nil)) (by omega) (by kernel_rfl) ?_
  intro x'' y'' q'' hq''
  obtain ⟨(n : List UInt8), _⟩ := x''
  obtain ⟨_, (b : List Int), (l : List (List UInt8 × Int)), _⟩ := y''
  exact (fn24 n b l).trans hq''
/-- A pack. -/
abbrev pkO (b : List Int) (l : Known) : List LObj := [.box [.rowA 1, .mp 2], .row (.int .u8) b, .mpo .str (.int .i64) l]
def pkC (b : List Int) (l : Known) : Bool := bytesOk b && (kOk l && Nat.ble b.length 100000000000)
def os24w : OSpec := os24.like fun (n, _) (_, b, l, _) => .br (pkC b l && Nat.ble n.length 100000000000) (.br (mayV n) (.ret ([.int .i64 0], pkO (bytesInt (nameP n (intBytes b) l).1) (nameP n (intBytes b) l).2)) (.ret ([.int .i64 1], pkO b l))) .no
theorem ok24w : os24w.Ok Try.prog := by
  refine like_ok ok24 _ ?_
  rintro ⟨(n : List UInt8), _⟩ ⟨_, (b : List Int), (l : Known), _⟩ r h
  simp only [Tr.get] at h
  cases hc : (pkC b l && Nat.ble n.length 100000000000) with
  | false => rw [hc] at h; cases h
  | true =>
    rw [hc, cond_true] at h
    simp only [pkC, Bool.and_eq_true] at hc
    obtain ⟨⟨hok, hk, hb⟩, hn⟩ := hc
    have hb := Nat.le_of_ble_eq_true hb
    have hn := Nat.le_of_ble_eq_true hn
    refine Tr.get_of_all ?_
    show (t24 n b l).all _
    have hbig : bigS n = true := by simp [bigS]; omega
    cases hm : mayV n with
    | false =>
      rw [hm, cond_false] at h
      cases h
      unfold t24
      rw [hm]
      exact Tr.all_t hbig (Tr.all_t rfl (Tr.all_ret rfl))
    | true =>
      rw [hm, cond_true] at h
      cases h
      unfold t24
      rw [hm]
      have hr : rootV n = true := by simp only [mayV, Bool.and_eq_true] at hm; exact hm.1
      obtain ⟨f1, f2, f3, f4, f5, f6⟩ := nameL_facts _ n (intBytes b) l rfl hr
      rw [intB_len] at f3
      refine Tr.all_t hbig (Tr.all_f rfl (Tr.all_t (by simp only [nmC, hr, hok, hk, Bool.true_and]; exact Nat.ble_eq_true_of_le (by omega)) ?_))
      unfold nameP
      cases hf : (nameL n (intBytes b) l).1 with
      | some a =>
        refine Tr.all_t rfl (Tr.all_ret ?_)
        rfl
      | none =>
        rw [f1 hf] at f3
        refine Tr.all_f rfl (Tr.all_t (fits_true (by rw [bytesInt_len, bytesInt_len, f1 hf]; simp at f3 ⊢; omega) (by rw [bytesInt_len, bytesInt_len, f1 hf]; simp at f3 ⊢; omega)) (Tr.all_ret ?_))
        rw [f1 hf, ← bytesInt_app]
        rfl
end Go.Proofs.YtfepkpindchleaaE

/- Parts, put one behind the other: plain words. -/
namespace Go.Proofs.YtfepkpindchleaaE
open Go Go.Proofs.YtfepkpindchleaaB
set_option linter.unusedVariables false
set_option linter.unusedSimpArgs false
/-- Bytes, and what is known. -/
abbrev PKt := List UInt8 × Known
abbrev Parts := List (List UInt8 × Bool)
def fewB (l : Parts) : Bool := (l.take 41).all (fun x => decide (x.1.length ≤ 400)) && decide (l.length ≤ 40)
theorem fewB_iff {l : Parts} : fewB l = true ↔ l.length ≤ 40 ∧ ∀ x ∈ l, x.1.length ≤ 400 := by
  unfold fewB
  simp only [Bool.and_eq_true, decide_eq_true_eq, List.all_eq_true]
  constructor
  · rintro ⟨h1, h2⟩
    exact ⟨h2, fun x hx => h1 x (by rw [List.take_of_length_le (by omega)]; exact hx)⟩
  · rintro ⟨h1, h2⟩
    exact ⟨fun x hx => h2 x (List.mem_of_mem_take hx), h1⟩
def stN (p : PKt) (x : List UInt8 × Bool) : PKt := bif mayV x.1 then nameP x.1 p.1 p.2 else p
def stB (p : PKt) (x : List UInt8 × Bool) : PKt := bif x.2 then (p.1 ++ x.1, p.2) else stN p x
def stA (p : PKt) (x : List UInt8 × Bool) : PKt := bif x.2 then p else stN p x
def GoodP (k : Nat) (p : PKt) : Prop := PI p.1 p.2 ∧ p.1.length ≤ 400 * k
theorem good_nil : GoodP 0 ([], []) := ⟨fun n a h => (by cases h), by simp⟩
theorem stN_good {k : Nat} {p : PKt} {x : List UInt8 × Bool} (h : GoodP k p) (hx : x.1.length ≤ 400) : GoodP (k + 1) (stN p x) ∧ (stN p x).1.length ≤ p.1.length + x.1.length ∧ ∃ T, (stN p x).1 = p.1 ++ T := by
  unfold stN
  cases hm : mayV x.1 with
  | false => exact ⟨⟨h.1, by have := h.2; simp only [cond_false]; omega⟩, by simp, [], by simp⟩
  | true =>
    obtain ⟨T, N', a1, a2, a3, _⟩ := name_put hm h.1
    obtain ⟨l1, _, _⟩ := nameL_len _ x.1 p.1 p.2 rfl (may_iff.1 hm).1
    rw [cond_true]
    refine ⟨⟨?_, by have := h.2; omega⟩, l1, T, a1⟩
    rw [a1, a2]
    exact a3
theorem stB_good {k : Nat} {p : PKt} {x : List UInt8 × Bool} (h : GoodP k p) (hx : x.1.length ≤ 400) : GoodP (k + 1) (stB p x) ∧ ∃ T, (stB p x).1 = p.1 ++ T := by
  unfold stB
  cases x.2 with
  | true => exact ⟨⟨h.1.mono _, by have := h.2; simp only [cond_true, List.length_append]; omega⟩, x.1, rfl⟩
  | false => exact ⟨(stN_good h hx).1, (stN_good h hx).2.2⟩
theorem stA_good {k : Nat} {p : PKt} {x : List UInt8 × Bool} (h : GoodP k p) (hx : x.1.length ≤ 400) : GoodP (k + 1) (stA p x) := by
  unfold stA
  cases x.2 with
  | true => exact ⟨h.1, by have := h.2; simp only [cond_true]; omega⟩
  | false => exact (stN_good h hx).1
theorem fold_good {st : PKt → List UInt8 × Bool → PKt} (hst : ∀ k p x, GoodP k p → x.1.length ≤ 400 → GoodP (k + 1) (st p x)) : ∀ (l : Parts) (k : Nat) (p : PKt), GoodP k p → (∀ x ∈ l, x.1.length ≤ 400) → GoodP (k + l.length) (l.foldl st p)
  | [], k, p, h, _ => h
  | x :: l, k, p, h, hl => by
    have := fold_good hst l (k + 1) (st p x) (hst k p x h (hl x List.mem_cons_self)) fun y hy => hl y (List.mem_cons_of_mem _ hy)
    rw [show k + 1 + l.length = k + (x :: l).length by simp; omega] at this
    exact this
/-- Where parts begin, and end. -/
def atsB : Parts → PKt → List Int × List Int
  | [], _ => ([], [])
  | x :: l, p => ((p.1.length : Int) :: (atsB l (stB p x)).1, ((stB p x).1.length : Int) :: (atsB l (stB p x)).2)
theorem fold_pre : ∀ (l : Parts) (k : Nat) (p : PKt), GoodP k p → (∀ x ∈ l, x.1.length ≤ 400) → ∃ X, (l.foldl stB p).1 = p.1 ++ X
  | [], k, p, h, _ => ⟨[], by simp⟩
  | x :: l, k, p, h, hl => by
    obtain ⟨h1, T, h2⟩ := stB_good h (hl x List.mem_cons_self)
    obtain ⟨X, h3⟩ := fold_pre l (k + 1) (stB p x) h1 fun y hy => hl y (List.mem_cons_of_mem _ hy)
    exact ⟨T ++ X, by rw [List.foldl_cons, h3, h2, List.append_assoc]⟩
theorem ats_back : ∀ (l : Parts) (k : Nat) (p : PKt), GoodP k p → (∀ x ∈ l, x.1.length ≤ 400) → ∀ i (hi : i < l.length), l[i].2 = false → mayV l[i].1 = true →
    takeG (l.foldl stB p).1 ((atsB l p).1.getD i 0) ((atsB l p).1.getD i 0) (-1) [] = some (l[i].1, (atsB l p).2.getD i 0)
  | [], k, p, h, _, i, hi, _, _ => by simp at hi
  | x :: l, k, p, h, hl, i, hi, h2, hm => by
    obtain ⟨h1, T, hT⟩ := stB_good h (hl x List.mem_cons_self)
    have hl' : ∀ y ∈ l, y.1.length ≤ 400 := fun y hy => hl y (List.mem_cons_of_mem _ hy)
    cases i with
    | zero =>
      have h2 : x.2 = false := h2
      have hm : mayV x.1 = true := hm
      obtain ⟨X, hX⟩ := fold_pre l (k + 1) (stB p x) h1 hl'
      obtain ⟨T, N', a1, a2, a3, a4⟩ := name_put hm h.1
      have hs : (stB p x).1 = p.1 ++ T := by unfold stB stN; rw [h2, hm]; exact a1
      have hr := takeG_rd (a4.mono X) (-1) [] (by have := (may_iff.1 hm).2.1; simpa using this)
      rw [List.foldl_cons, hX, hs]
      show takeG _ (p.1.length : Int) (p.1.length : Int) (-1) [] = some (x.1, (((stB p x).1.length : Nat) : Int))
      rw [hr, hs]
      rfl
    | succ i => exact ats_back l (k + 1) (stB p x) h1 hl' i (by simpa using hi) h2 hm
theorem nameL_pre : ∀ (m : Nat) (n S : List UInt8) (L : Known), n.length = m → ∃ N, (nameL n S L).2.2.2 = L ++ N := by
  intro m
  induction m using Nat.strongRecOn with
  | _ m ih =>
    intro n S L hm
    by_cases h0 : n = [0]
    · rw [h0, nameL_root]; exact ⟨[], by simp⟩
    · cases hlk : lookK n L with
      | some a => rw [nameL_known h0 hlk]; exact ⟨[], by simp⟩
      | none =>
        by_cases h1 : n = []
        · rw [nameL, if_neg h0]; simp only [hlk, dif_pos h1]; exact ⟨[], by simp⟩
        · rw [nameL_next h0 h1 hlk]
          obtain ⟨N, hN⟩ := ih (tlN n).length (by have := tlN_lt h1; omega) (tlN n) (S ++ hdN n) (if S.length < 16384 then L ++ [(n, (S.length : Int))] else L) rfl
          rw [hN]
          split
          · exact ⟨[(n, (S.length : Int))] ++ N, by rw [List.append_assoc]⟩
          · exact ⟨N, rfl⟩
/-- A name that was put is known then. -/
theorem nameP_knows {n S : List UInt8} {L : Known} (h0 : n ≠ [0]) (h1 : n ≠ []) (hS : S.length < 16384) : (lookK n (nameP n S L).2).isSome = true := by
  unfold nameP
  cases hlk : lookK n L with
  | some a => rw [nameL_known h0 hlk]; exact look_has (look_mem hlk)
  | none =>
    rw [nameL_next h0 h1 hlk, if_pos hS]
    obtain ⟨N, hN⟩ := nameL_pre _ (tlN n) (S ++ hdN n) (L ++ [(n, (S.length : Int))]) rfl
    rw [hN]
    exact look_has (a := (S.length : Int)) (by simp)
/-- A name that was put takes two bytes; the root, one. -/
theorem nameP_twice {n S : List UInt8} {L : Known} (hm : mayV n = true) (hS : S.length < 16384) :
    (nameP n (nameP n S L).1 (nameP n S L).2).1.length = (nameP n S L).1.length + (if n = [0] then 1 else 2) := by
  by_cases h0 : n = [0]
  · rw [if_pos h0, h0]
    unfold nameP
    rw [nameL_root, nameL_root]
    simp [endN]
  · rw [if_neg h0]
    have h1 : n ≠ [] := by
      rintro rfl
      rcases root_cases (may_iff.1 hm).1 with h | ⟨_, h, _⟩
      · cases h
      · exact h rfl
    have := nameP_knows (n := n) (S := S) (L := L) h0 h1 hS
    obtain ⟨a, ha⟩ := Option.isSome_iff_exists.1 this
    generalize nameP n S L = p at *
    unfold nameP
    rw [nameL_known h0 ha]
    simp [endN, put16_len]
def backC (l : Parts) (s : List UInt8) (at_ ends : List Int) : Bool := (at_ == (atsB l ([], [])).1) && ((ends == (atsB l ([], [])).2) && (s == (l.foldl stB ([], [])).1))
theorem drop_getD {α : Type} {l : List α} {i : Int} (d : α) (h0 : 0 ≤ i) (h : i < l.length) : l.drop i.toNat = l.getD i.toNat d :: l.drop (i + 1).toNat ∧ l.getD i.toNat d ∈ l := by
  have hk : i.toNat < l.length := by omega
  rw [List.getD_eq_getElem?_getD, List.getElem?_eq_getElem hk, show (i + 1).toNat = i.toNat + 1 by omega]
  exact ⟨List.drop_eq_getElem_cons hk, List.getElem_mem hk⟩
def p0C (b : List Int) (m : Known) : Bool := b.isEmpty && m.isEmpty
def p0E (a e : List Int) : Bool := a.isEmpty && e.isEmpty
theorem pkC_good {k : Nat} {p : PKt} (h : GoodP k p) (hk : k ≤ 41) : pkC (bytesInt p.1) p.2 = true := by
  unfold pkC
  rw [bytesInt_ok, h.1.kOk, bytesInt_len, Nat.ble_eq_true_of_le (by have := h.2; omega)]
  rfl
end Go.Proofs.YtfepkpindchleaaE

/- Data of records: plain words. -/
namespace Go.Proofs.YtfepkpindchleaaE
open Go Go.Proofs.YtfepkpindchleaaB
set_option linter.unusedVariables false
set_option linter.unusedSimpArgs false
/-- The parts of a type's data. -/
def layV (k : Int) : List Int := if k = 1 then [4] else if k = 28 then [16] else if k = 2 ∨ k = 5 ∨ k = 12 then [-1] else if k = 15 then [2, -1] else if k = 6 then [-1, -1, 20] else if k = 16 then [-2] else [-3]
/-- Where a byte 0 stands, label by label; or behind all. -/
def whAt (s : List UInt8) (k : Nat) : Nat := if h : k < s.length ∧ 0 < byN s k then whAt s (k + 1 + byN s k) else k
termination_by s.length - k
def wholeV (s : List UInt8) : Nat := if whAt s 0 < s.length ∧ mayV (s.take (whAt s 0 + 1)) = true then whAt s 0 + 1 else 0
theorem wholeV_le (s : List UInt8) : wholeV s ≤ s.length := by
  unfold wholeV
  split <;> omega
/-- Where texts end. -/
def txAt (s : List UInt8) (k : Nat) : Nat := if h : k < s.length then txAt s (k + 1 + byN s k) else k
termination_by s.length - k
def textsV (s : List UInt8) : Bool := !s.isEmpty && decide (txAt s 0 = s.length)
/-- How many bytes a part takes; whether it can. -/
def szP (p : Int) (d : List UInt8) : Int := if p = -1 then (wholeV d : Int) else if p = -2 ∧ textsV d = true ∨ p = -3 then (d.length : Int) else p
def okP (p : Int) (d : List UInt8) : Bool := decide (0 ≤ szP p d) && (decide (szP p d ≤ (d.length : Int)) && !(decide (p = -1) && decide (szP p d = 0)))
/-- Data cut into parts: whether it can be; what is left; the parts. -/
def cutS : List Int → List UInt8 → List (List UInt8) → Bool × (List UInt8 × List (List UInt8))
  | [], d, out => (true, d, out)
  | p :: ps, d, out => if okP p d = true then cutS ps (d.drop (szP p d).toNat) (out ++ [d.take (szP p d).toNat]) else (false, d, out)
def noS (l : List (List UInt8)) : Bool := l.isEmpty
def cutC (d : List UInt8) (ps : List Int) (n i : Int) (l : List (List UInt8)) : Bool := bigS d && (decide (n = ps.length) && (decide (i = 0) && (noS l && decide (ps.length ≤ 10))))
def okV (k : Int) (d : List UInt8) : Bool := (cutS (layV k) d []).1
def restV (k : Int) (d : List UInt8) : List UInt8 := (cutS (layV k) d []).2.1
def partsV (k : Int) (d : List UInt8) : List (List UInt8) := (cutS (layV k) d []).2.2
/-- Whether data may be. -/
def mayR (k : Int) (d : List UInt8) : Bool := (okV k d && (restV k d).isEmpty) && Nat.ble d.length 65535
/-- Parts, put one behind the other. -/
def putS : List Int → List (List UInt8) → PKt → PKt
  | [], _, p => p
  | x :: ps, ls, p => putS ps ls.tail (bif x == -1 then stN p (ls.headD [], false) else (p.1 ++ ls.headD [], p.2))
def putC (ls : List (List UInt8)) (ps : List Int) (n i : Int) (b : List Int) (m : Known) : Bool := (bytesOk b && (kOk m && Nat.ble b.length 1000000000)) && (decide (n = ps.length) && (decide (i = 0) && (decide (ls.length = ps.length) && (decide (ps.length ≤ 10) && ls.all fun x => decide (x.length ≤ 1000000)))))
/-- Parts, taken one behind the other: whether they are there; where they end; the data. -/
def takeD : List Int → List UInt8 → Int → Int → List UInt8 → Bool × (Int × List UInt8)
  | [], _, a, _, d => (true, a, d)
  | x :: ps, s, a, e, d =>
    if x = -1 then
      (match takeG s a a (-1) [] with
      | none => (false, a, d)
      | some (n, next) => if next > e then (false, a, d) else takeD ps s next e (d ++ n))
    else
      (if someB s a (if x = -2 ∨ x = -3 then e - a else x) = true ∧ a + (if x = -2 ∨ x = -3 then e - a else x) ≤ e then takeD ps s (a + (if x = -2 ∨ x = -3 then e - a else x)) e (d ++ someV s a (if x = -2 ∨ x = -3 then e - a else x)) else (false, a, d))
def noT (d : List UInt8) : Bool := d.isEmpty
def smS (s : List UInt8) : Bool := decide (s.length ≤ 100000000)
def takeC (s : List UInt8) (a e : Int) (d : List UInt8) (ps : List Int) (n i : Int) : Bool := smS s && (decide (n = ps.length) && (decide (i = 0) && (decide (0 ≤ a) && (decide (a ≤ e) && (decide (e ≤ s.length) && (noT d && decide (ps.length ≤ 10)))))))
def pkT (b : List Int) (m : Known) : Bool := bytesOk b && (kOk m && Nat.ble b.length 1000000000)
/-- Data put behind bytes. -/
def putR (k : Int) (d : List UInt8) (p : PKt) : PKt := putS (layV k) (partsV k d) p
/-- The data that so many bytes are. -/
def takeV (s : List UInt8) (a n k : Int) : Option (List UInt8) := if someB s a n = true then (if (takeD (layV k) s a (a + n) []).1 = true ∧ (takeD (layV k) s a (a + n) []).2.1 = a + n ∧ mayR k (takeD (layV k) s a (a + n) []).2.2 = true then some (takeD (layV k) s a (a + n) []).2.2 else none) else none
theorem stN_k {p : PKt} {x : List UInt8 × Bool} (h : kOk p.2 = true) : kOk (stN p x).2 = true ∧ (stN p x).1.length ≤ p.1.length + x.1.length := by
  unfold stN
  cases hm : mayV x.1 with
  | false => exact ⟨h, by simp⟩
  | true =>
    obtain ⟨_, _, _, f4, _⟩ := nameL_facts _ x.1 p.1 p.2 rfl (may_iff.1 hm).1
    obtain ⟨l1, _⟩ := nameL_len _ x.1 p.1 p.2 rfl (may_iff.1 hm).1
    exact ⟨f4 h, l1⟩
theorem takeG_place {s : List UInt8} {a : Int} {n : List UInt8} {next : Int} (h0 : 0 ≤ a) (h : takeG s a a (-1) [] = some (n, next)) : mayV n = true ∧ a < next ∧ next ≤ s.length := by
  obtain ⟨a1, _, a3, _⟩ := takeG_may _ a a (-1) [] n next rfl LP_nil h
  exact ⟨a1, a3 (by omega)⟩
end Go.Proofs.YtfepkpindchleaaE
