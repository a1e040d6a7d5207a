/- octets; small letters. -/
import Derived.Test.YtfepkpindchleaaETab
import Derived.Test.YtfepkpindchleaaE30
namespace Go.Proofs.YtfepkpindchleaaE
open Go
set_option linter.unusedVariables false
set_option linter.unusedSimpArgs false
/-- octet.Some -/
def t48 (s : List UInt8) (at_ : Int) (many : Int) : Tr Res := Tr.br (decide (at_ < (0 : Int))) (Tr.ret ([AV.str [], AV.int IntKind.i64 (0 : Int), AV.int IntKind.i64 (2 : Int)], [])) (Tr.br (decide (many < (0 : Int))) (Tr.ret ([AV.str [], AV.int IntKind.i64 (0 : Int), AV.int IntKind.i64 (2 : Int)], [])) (Tr.br (decide (at_ > (↑(List.length s) : Int))) (Tr.ret ([AV.str [], AV.int IntKind.i64 (0 : Int), AV.int IntKind.i64 (2 : Int)], [])) (Tr.br (decide (many > IntKind.wrap IntKind.i64 ((↑(List.length s) : Int) - at_))) (Tr.ret ([AV.str [], AV.int IntKind.i64 (0 : Int), AV.int IntKind.i64 (2 : Int)], [])) (Tr.br (decide ((0 : Int) ≤ IntKind.wrap IntKind.i64 (at_ + many)) && decide (IntKind.wrap IntKind.i64 (at_ + many) ≤ (↑(List.length s) : Int))) (Tr.br (decide ((0 : Int) ≤ at_) && decide (at_ ≤ IntKind.wrap IntKind.i64 (at_ + many))) (Tr.ret ([AV.str (List.take (Int.toNat (IntKind.wrap IntKind.i64 (at_ + many)) - Int.toNat at_) (List.drop (Int.toNat at_) s)), AV.int IntKind.i64 (IntKind.wrap IntKind.i64 (at_ + many)), AV.int IntKind.i64 (0 : Int)], [])) Tr.no) Tr.no))))
def os48 : OSpec := { f := 48, sh := [.d .str false, .d (.int .i64) false, .d (.int .i64) false], so := [], F := fun (s, at_, many, _) _ => t48 s at_ many }
set_option maxRecDepth 1000000 in
theorem fn48 (s : List UInt8) (at_ : Int) (many : Int) : evC T0 (orcB [] []) (lpOf h48 0 (lsOf [])) c48 1000000 (startSt [.str s, .int .i64 at_, .int .i64 many] [] Try.f48.ntmps) (finishK T0 false 0 Try.f48) = (t48 s at_ many).get := by kernel_rfl
theorem ok48 : os48.Ok Try.prog := by
  refine os_ok mixed0 tab0 (orcB_sound all_nil all_nil) h48 (d := 0) (n0 := 0) (S := lsOf []) Try.func48 (by kernel_rfl) (c := c48) (by kernel_rfl) rfl (no_loops (by kernel_rfl)) (by omega) (by kernel_rfl) ?_
  intro x'' y'' q'' hq''
  obtain ⟨(s : List UInt8), (at_ : Int), (many : Int), _⟩ := x''
  exact (fn48 s at_ many).trans hq''
def fs48 : FSpec := fsT 48 [(.str, false), ((.int .i64), false), ((.int .i64), false)] [(.str, false), ((.int .i64), false), ((.int .i64), false)] fun (s, at_, many, _) => t48 s at_ many
theorem okf48 : fs48.Ok Try.prog := fsT_ok fun x'' r'' hr'' => ok48 x'' () r'' hr''
/-- derrickref01.there -/
def t70 (s : List UInt8) (at_ : Int) (many : Int) : Tr Res := Tr.br (decide (at_ ≥ (0 : Int))) (Tr.br (decide (at_ ≤ (↑(List.length s) : Int))) (Tr.br (decide (many ≥ (0 : Int))) (Tr.br (decide (many ≤ (↑(List.length s) : Int))) (Tr.ret ([AV.bool (decide (IntKind.wrap IntKind.i64 (at_ + many) ≤ (↑(List.length s) : Int)))], [])) (Tr.ret ([AV.bool false], []))) (Tr.ret ([AV.bool false], []))) (Tr.ret ([AV.bool false], []))) (Tr.ret ([AV.bool false], []))
def os70 : OSpec := { f := 70, sh := [.d .str false, .d (.int .i64) false, .d (.int .i64) false], so := [], F := fun (s, at_, many, _) _ => t70 s at_ many }
set_option maxRecDepth 1000000 in
theorem fn70 (s : List UInt8) (at_ : Int) (many : Int) : evC T0 (orcB [] []) (lpOf h70 0 (lsOf [])) c70 1000000 (startSt [.str s, .int .i64 at_, .int .i64 many] [] Try.f70.ntmps) (finishK T0 false 0 Try.f70) = (t70 s at_ many).get := by kernel_rfl
theorem ok70 : os70.Ok Try.prog := by
  refine os_ok mixed0 tab0 (orcB_sound all_nil all_nil) h70 (d := 0) (n0 := 0) (S := lsOf []) Try.func70 (by kernel_rfl) (c := c70) (by kernel_rfl) rfl (no_loops (by kernel_rfl)) (by omega) (by kernel_rfl) ?_
  intro x'' y'' q'' hq''
  obtain ⟨(s : List UInt8), (at_ : Int), (many : Int), _⟩ := x''
  exact (fn70 s at_ many).trans hq''
def fs70 : FSpec := fsT 70 [(.str, false), ((.int .i64), false), ((.int .i64), false)] [(.bool, false)] fun (s, at_, many, _) => t70 s at_ many
theorem okf70 : fs70.Ok Try.prog := fsT_ok fun x'' r'' hr'' => ok70 x'' () r'' hr''
/-- derrickref02.low -/
def t71 (c : Int) : Tr Res := Tr.br (decide (c ≥ (65 : Int))) (Tr.br (decide (c ≤ (90 : Int))) (Tr.ret ([AV.int IntKind.u8 (IntKind.wrap IntKind.u8 (c + (32 : Int)))], [])) (Tr.ret ([AV.int IntKind.u8 c], []))) (Tr.ret ([AV.int IntKind.u8 c], []))
def os71 : OSpec := { f := 71, sh := [.d (.int .u8) false], so := [], F := fun (c, _) _ => t71 c }
set_option maxRecDepth 1000000 in
theorem fn71 (c : Int) : evC T0 (orcB [] []) (lpOf h71 0 (lsOf [])) c71 1000000 (startSt [.int .u8 c] [] Try.f71.ntmps) (finishK T0 false 0 Try.f71) = (t71 c).get := by kernel_rfl
theorem ok71 : os71.Ok Try.prog := by
  refine os_ok mixed0 tab0 (orcB_sound all_nil all_nil) h71 (d := 0) (n0 := 0) (S := lsOf []) Try.func71 (by kernel_rfl) (c := c71) (by kernel_rfl) rfl (no_loops (by kernel_rfl)) (by omega) (by kernel_rfl) ?_
  intro x'' y'' q'' hq''
  obtain ⟨(c : Int), _⟩ := x''
  exact (fn71 c).trans hq''
def fs71 : FSpec := fsT 71 [((.int .u8), false)] [((.int .u8), false)] fun (c, _) => t71 c
theorem okf71 : fs71.Ok Try.prog := fsT_ok fun x'' r'' hr'' => ok71 x'' () r'' hr''
/-- derrickref01.Put16 -/
def t45 (n : Int) : Tr Res := Tr.ret ([AV.str [UInt8.ofNat (Int.toNat (IntKind.wrap IntKind.u8 (IntKind.wrap IntKind.u16 (Int.tdiv n (256 : Int))))), UInt8.ofNat (Int.toNat (IntKind.wrap IntKind.u8 (Int.tmod n (256 : Int))))]], [])
def os45 : OSpec := { f := 45, sh := [.d (.int .u16) false], so := [], F := fun (n, _) _ => t45 n }
set_option maxRecDepth 1000000 in
theorem fn45 (n : Int) : evC T0 (orcB [] []) (lpOf h45 0 (lsOf [])) c45 1000000 (startSt [.int .u16 n] [] Try.f45.ntmps) (finishK T0 false 0 Try.f45) = (t45 n).get := by kernel_rfl
theorem ok45 : os45.Ok Try.prog := by
  refine os_ok mixed0 tab0 (orcB_sound all_nil all_nil) h45 (d := 0) (n0 := 0) (S := lsOf []) Try.func45 (by kernel_rfl) (c := c45) (by kernel_rfl) rfl (no_loops (by kernel_rfl)) (by omega) (by kernel_rfl) ?_
  intro x'' y'' q'' hq''
  obtain ⟨(n : Int), _⟩ := x''
  exact (fn45 n).trans hq''
def fs45 : FSpec := fsT 45 [((.int .u16), false)] [(.str, false)] fun (n, _) => t45 n
theorem okf45 : fs45.Ok Try.prog := fsT_ok fun x'' r'' hr'' => ok45 x'' () r'' hr''
/-- derrickref01.U16 -/
def t56 (s : List UInt8) (at_ : Int) : Tr Res := Tr.br (decide (at_ ≥ (0 : Int))) (Tr.br (decide (at_ ≤ (↑(List.length s) : Int))) (Tr.br (decide ((2 : Int) ≤ (↑(List.length s) : Int))) (Tr.br (!decide (IntKind.wrap IntKind.i64 (at_ + (2 : Int)) ≤ (↑(List.length s) : Int))) (Tr.ret ([AV.int IntKind.u16 (0 : Int), AV.int IntKind.i64 (0 : Int), AV.int IntKind.i64 (2 : Int)], [])) (Tr.br (decide ((0 : Int) ≤ at_)) (Tr.br (decide (at_ < (↑(List.length s) : Int))) (Tr.br (decide ((0 : Int) ≤ IntKind.wrap IntKind.i64 (at_ + (1 : Int)))) (Tr.br (decide (IntKind.wrap IntKind.i64 (at_ + (1 : Int)) < (↑(List.length s) : Int))) (Tr.ret ([AV.int IntKind.u16 (IntKind.wrap IntKind.u16 (IntKind.wrap IntKind.u16 ((256 : Int) * IntKind.wrap IntKind.u16 (↑(UInt8.toNat (List.getD s (Int.toNat at_) 0)) : Int)) + IntKind.wrap IntKind.u16 (↑(UInt8.toNat (List.getD s (Int.toNat (IntKind.wrap IntKind.i64 (at_ + (1 : Int)))) 0)) : Int))), AV.int IntKind.i64 (IntKind.wrap IntKind.i64 (at_ + (2 : Int))), AV.int IntKind.i64 (0 : Int)], [])) Tr.no) Tr.no) Tr.no) Tr.no)) (Tr.ret ([AV.int IntKind.u16 (0 : Int), AV.int IntKind.i64 (0 : Int), AV.int IntKind.i64 (2 : Int)], []))) (Tr.ret ([AV.int IntKind.u16 (0 : Int), AV.int IntKind.i64 (0 : Int), AV.int IntKind.i64 (2 : Int)], []))) (Tr.ret ([AV.int IntKind.u16 (0 : Int), AV.int IntKind.i64 (0 : Int), AV.int IntKind.i64 (2 : Int)], []))
def os56 : OSpec := { f := 56, sh := [.d .str false, .d (.int .i64) false], so := [], F := fun (s, at_, _) _ => t56 s at_ }
set_option maxRecDepth 1000000 in
theorem fn56 (s : List UInt8) (at_ : Int) : evC T0 (orcB [fs70] []) (lpOf h56 0 (lsOf [])) c56 1000000 (startSt [.str s, .int .i64 at_] [] Try.f56.ntmps) (finishK T0 false 0 Try.f56) = (t56 s at_).get := by kernel_rfl
theorem ok56 : os56.Ok Try.prog := by
  refine os_ok mixed0 tab0 (orcB_sound (all_cons okf70 all_nil) all_nil) h56 (d := 0) (n0 := 0) (S := lsOf []) Try.func56 (by kernel_rfl) (c := c56) (by kernel_rfl) rfl (no_loops (by kernel_rfl)) (by omega) (by kernel_rfl) ?_
  intro x'' y'' q'' hq''
  obtain ⟨(s : List UInt8), (at_ : Int), _⟩ := x''
  exact (fn56 s at_).trans hq''
def fs56 : FSpec := fsT 56 [(.str, false), ((.int .i64), false)] [((.int .u16), false), ((.int .i64), false), ((.int .i64), false)] fun (s, at_, _) => t56 s at_
theorem okf56 : fs56.Ok Try.prog := fsT_ok fun x'' r'' hr'' => ok56 x'' () r'' hr''
/-! ### Small letters -/
def lowI (c : Int) : Int := bif decide (c ≥ 65) && decide (c ≤ 90) then c + 32 else c
def lowB (c : UInt8) : UInt8 := bif decide (c.toNat ≥ 65) && decide (c.toNat ≤ 90) then UInt8.ofNat (c.toNat + 32) else c
def foldB (s : List UInt8) : List UInt8 := s.map lowB
def bytesOk (b : List Int) : Bool := b.all fun x => decide (0 ≤ x) && decide (x ≤ 255)
theorem bytesOk_get {b : List Int} (h : bytesOk b = true) (i : Nat) : 0 ≤ b.getD i 0 ∧ b.getD i 0 ≤ 255 := by
  rw [List.getD_eq_getElem?_getD]
  cases hx : b[i]? with
  | none => simp
  | some x =>
    have := List.all_eq_true.1 h x (List.mem_of_getElem? hx)
    simpa using this
theorem set_same {α : Type} (l : List α) (i : Nat) (dd : α) (h : i < l.length) : l.set i (l.getD i dd) = l := by
  rw [List.getD_eq_getElem?_getD, List.getElem?_eq_getElem h]
  exact List.set_getElem_self h
theorem wrap_u8 {n : Int} (h0 : 0 ≤ n) (h1 : n ≤ 255) : IntKind.wrap .u8 n = n := by
  rw [IntKind.wrap]
  simp [IntKind.bits, IntKind.signed]
  omega
def fdC (n i : Int) (b : List Int) : Bool := decide (i = 0) && decide (n = b.length) && bytesOk b && decide (b.length ≤ 1000000000000)
noncomputable def b52 : Code := nthLoop c52 0
def ls52 : LoopSpec := { bid := 0, sh := [.row 0, .row 0, .d (.int .i64) false, .d (.int .i64) false], so := [.row (.int .u8)], F := fun (n, i, _) (b, _) => .on (fdC n i b) (.exit 0, [.rowA 0], [.row (.int .u8) (b.map lowI)]) }
def r52 (n : Int) (i : Int) (b : List Int) : Tr (St ⊕ (Ex × St)) := Tr.br (decide (i < n)) (Tr.br (decide ((0 : Int) ≤ i)) (Tr.br (decide (i < (↑(List.length b) : Int))) (Tr.br (decide (List.getD b (Int.toNat i) (Ty.dflt (Ty.int IntKind.u8)) ≥ (65 : Int))) (Tr.br (decide (List.getD b (Int.toNat i) (Ty.dflt (Ty.int IntKind.u8)) ≤ (90 : Int))) (Tr.br (decide ((0 : Int) ≤ i)) (Tr.br (decide (i < (↑(List.length b) : Int))) (Tr.ret (Sum.inl (stOf [3, 8, 9, 10] [AV.rowA 0, AV.rowA 0, AV.int IntKind.i64 n, AV.int IntKind.i64 (IntKind.wrap IntKind.i64 (i + (1 : Int)))] [LObj.row (Ty.int IntKind.u8) (List.set b (Int.toNat i) (IntKind.wrap IntKind.u8 (List.getD b (Int.toNat i) (Ty.dflt (Ty.int IntKind.u8)) + (32 : Int))))]))) Tr.no) Tr.no) (Tr.ret (Sum.inl (stOf [3, 8, 9, 10] [AV.rowA 0, AV.rowA 0, AV.int IntKind.i64 n, AV.int IntKind.i64 (IntKind.wrap IntKind.i64 (i + (1 : Int)))] [LObj.row (Ty.int IntKind.u8) b])))) (Tr.ret (Sum.inl (stOf [3, 8, 9, 10] [AV.rowA 0, AV.rowA 0, AV.int IntKind.i64 n, AV.int IntKind.i64 (IntKind.wrap IntKind.i64 (i + (1 : Int)))] [LObj.row (Ty.int IntKind.u8) b])))) Tr.no) Tr.no) (Tr.ret (Sum.inr (Ex.exit 0, stOf [3] [AV.rowA 0] [LObj.row (Ty.int IntKind.u8) b])))
set_option maxRecDepth 1000000 in
theorem round52 (orc : Orc) (lp : Lp) (n : Int) (i : Int) (b : List Int) : evC T0 orc lp b52 0 (stOf [3, 8, 9, 10] [.rowA 0, .rowA 0, .int .i64 n, .int .i64 i] [.row (.int .u8) b]) (roundK [3, 8, 9, 10] [3] 0) = (r52 n i b).get := by kernel_rfl
theorem wf52 (orc : Orc) (n : Int) (I'' : Int → List Int → Prop) (m'' : Int → List Int → Nat) (r'' : Ex × St) (h : ∀ (i : Int) (b : List Int), I'' i b → (r52 n i b).all fun x'' => x'' = .inr r'' ∨ ∃ (i' : Int) (b' : List Int), x'' = .inl (stOf [3, 8, 9, 10] [.rowA 0, .rowA 0, .int .i64 n, .int .i64 i'] [.row (.int .u8) b']) ∧ I'' i' b' ∧ m'' i' b' < m'' i b) (lp : Lp) (i : Int) (b : List Int) : I'' i b →
    loopF (fun st => evC T0 orc lp b52 0 st (roundK [3, 8, 9, 10] [3] 0)) (stOf [3, 8, 9, 10] [.rowA 0, .rowA 0, .int .i64 n, .int .i64 i] [.row (.int .u8) b]) = some r'' :=
  loop_tr (fun a'' : Int × List Int => stOf [3, 8, 9, 10] [.rowA 0, .rowA 0, .int .i64 n, .int .i64 a''.1] [.row (.int .u8) a''.2]) (fun a'' => I'' a''.1 a''.2) (fun a'' => m'' a''.1 a''.2) r'' (fun a'' => r52 n a''.1 a''.2)
    (fun a'' x hx => (round52 orc lp n a''.1 a''.2).trans hx) (fun a'' ha => Tr.all_mono (fun x'' hx => hx.imp id fun ⟨i', b', h1, h2, h3⟩ => ⟨(i', b'), h1, h2, h3⟩) (h (a''.1) (a''.2) ha)) (i, b)
def fdI (b0 : List Int) (i : Int) (b : List Int) : Prop := 0 ≤ i ∧ i ≤ b0.length ∧ b = (b0.take i.toNat).map lowI ++ b0.drop i.toNat
theorem fd_step {b0 : List Int} {i : Nat} (hi : i < b0.length) : ((b0.take i).map lowI ++ b0.drop i).set i (lowI (b0.getD i 0)) = (b0.take (i + 1)).map lowI ++ b0.drop (i + 1) := by
  have hl : ((b0.take i).map lowI).length = i := by simp; omega
  rw [List.set_append_right _ _ (by omega), hl, Nat.sub_self, drop_get b0 i 0 hi, List.set_cons_zero, List.take_add_one, List.map_append, List.append_assoc]
  rw [List.getD_eq_getElem?_getD, List.getElem?_eq_getElem hi]
  rfl
theorem fd_get {b0 : List Int} {i : Nat} (hi : i < b0.length) (dd : Int) : ((b0.take i).map lowI ++ b0.drop i).getD i dd = b0.getD i 0 := by
  have hl : ((b0.take i).map lowI).length = i := by simp; omega
  rw [List.getD_eq_getElem?_getD, List.getElem?_append_right (by omega), hl, Nat.sub_self, List.getElem?_drop, List.getD_eq_getElem?_getD, Nat.add_zero, List.getElem?_eq_getElem hi]
  rfl
theorem loop52 (orc : Orc) : ls52.Ok T0 orc h52 0 0 b52 := by
  intro q'' hq'' x'' y'' r'' h
  obtain ⟨(n : Int), (i : Int), _⟩ := x''
  obtain ⟨(b : List Int), _⟩ := y''
  obtain ⟨hc, rfl⟩ := Tr.get_on h
  show loopF (fun st => evC T0 orc (lpN T0 orc h52 0 q'') b52 0 st (roundK [3, 8, 9, 10] [3] 0)) (stOf [3, 8, 9, 10] [.rowA 0, .rowA 0, .int .i64 n, .int .i64 i] [.row (.int .u8) b]) = some (.exit 0, stOf [3] ([.rowA 0]) ([.row (.int .u8) (b.map lowI)]))
  simp only [fdC, Bool.and_eq_true, decide_eq_true_eq] at hc
  obtain ⟨⟨⟨rfl, rfl⟩, hok⟩, hb⟩ := hc
  refine wf52 _ b.length (fdI b) (fun i _ => (b.length - i).toNat) _ ?_ _ 0 b ⟨by omega, by omega, by simp⟩
  rintro i c ⟨h0, h1, rfl⟩
  unfold r52
  by_cases hlt : i < b.length
  · have hn : i.toNat < b.length := by omega
    have hlen : (i : Int) < (((b.take i.toNat).map lowI ++ b.drop i.toNat).length : Int) := by simp; omega
    have e1 : (i + 1).toNat = i.toNat + 1 := by omega
    obtain ⟨g0, g1⟩ := bytesOk_get hok i.toNat
    rw [fd_get hn]
    refine Tr.all_t (dec_true hlt) (Tr.all_t (dec_true h0) (Tr.all_t (dec_true hlen) ?_))
    have hsame : lowI (b.getD i.toNat 0) = b.getD i.toNat 0 → (b.take i.toNat).map lowI ++ b.drop i.toNat = (b.take (i.toNat + 1)).map lowI ++ b.drop (i.toNat + 1) := fun h => by
      rw [← fd_step hn, h, ← fd_get hn 0]
      exact (set_same _ _ _ (by simp; omega)).symm
    refine Tr.all_br (fun c1 => Tr.all_br (fun c2 => ?_) fun c2 => ?_) fun c1 => ?_
    · refine Tr.all_t (dec_true h0) (Tr.all_t (dec_true hlen) (Tr.all_ret (.inr ⟨_, _, rfl, ?_, ?_⟩)))
      · have q1 := of_decide_eq_true c1
        have q2 := of_decide_eq_true c2
        simp (disch := omega) only [IntWalk.i64_in, wrap_u8]
        refine ⟨by omega, by omega, ?_⟩
        rw [e1, ← fd_step hn]
        congr 1
        unfold lowI
        rw [c1, c2]
        rfl
      · simp (disch := omega) only [IntWalk.i64_in]
        omega
    · refine Tr.all_ret (.inr ⟨_, _, rfl, ?_, ?_⟩)
      · simp (disch := omega) only [IntWalk.i64_in]
        refine ⟨by omega, by omega, ?_⟩
        rw [e1]
        refine hsame ?_
        simp only [lowI, c2, Bool.and_false, cond_false]
      · simp (disch := omega) only [IntWalk.i64_in]
        omega
    · refine Tr.all_ret (.inr ⟨_, _, rfl, ?_, ?_⟩)
      · simp (disch := omega) only [IntWalk.i64_in]
        refine ⟨by omega, by omega, ?_⟩
        rw [e1]
        refine hsame ?_
        simp only [lowI, c1, Bool.false_and, cond_false]
      · simp (disch := omega) only [IntWalk.i64_in]
        omega
  · refine Tr.all_f (dec_false hlt) (Tr.all_ret (.inl ?_))
    rw [List.take_of_length_le (by omega), List.drop_of_length_le (by omega), List.append_nil]
/-- name.Fold -/
def t52 (s : List UInt8) : Tr Res := Tr.br (fits (List.length s) 1) (Tr.br (fdC (↑(List.length (bytesInt s)) : Int) (0 : Int) (bytesInt s)) (Tr.ret ([AV.str (intBytes (List.map lowI (bytesInt s)))], [])) Tr.no) Tr.no
def os52 : OSpec := { f := 52, sh := [.d .str false], so := [], F := fun (s, _) _ => t52 s }
set_option maxRecDepth 1000000 in
theorem fn52 (s : List UInt8) : evC T0 (orcB [] []) (lpOf h52 0 (lsOf [ls52])) c52 1000000 (startSt [.str s] [] Try.f52.ntmps) (finishK T0 false 0 Try.f52) = (t52 s).get := by kernel_rfl
theorem ok52 : os52.Ok Try.prog := by
  refine os_ok mixed0 tab0 (orcB_sound all_nil all_nil) h52 (d := 0) (n0 := 0) (S := lsOf [ls52]) Try.func52 (by kernel_rfl) (c := c52) (by kernel_rfl) rfl (loops_eq (xs := [(0, b52)]) (by kernel_rfl) (all_cons (ls_here (loop52 _)) all_nil)) (by omega) (by kernel_rfl) ?_
  intro x'' y'' q'' hq''
  obtain ⟨(s : List UInt8), _⟩ := x''
  exact (fn52 s).trans hq''
def fs52 : FSpec := fsT 52 [(.str, false)] [(.str, false)] fun (s, _) => t52 s
theorem okf52 : fs52.Ok Try.prog := fsT_ok fun x'' r'' hr'' => ok52 x'' () r'' hr''
def rfC (i : Int) (s : List UInt8) (b : List Int) : Bool := decide (i = 0) && b.isEmpty && decide (s.length ≤ 1000000000000)
noncomputable def b57 : Code := nthLoop c57 0
def ls57 : LoopSpec := { bid := 0, sh := [.d .str false, .row 0, .d (.int .i64) false], so := [.row (.int .u8)], F := fun (s, i, _) (b, _) => .on (rfC i s b) (.exit 0, [.rowA 0], [.row (.int .u8) ((bytesInt s).map lowI)]) }
def r57 (s : List UInt8) (i : Int) (b : List Int) : Tr (St ⊕ (Ex × St)) := Tr.br (decide (i < (↑(List.length s) : Int))) (Tr.br (decide ((0 : Int) ≤ i)) (Tr.br (decide (i < (↑(List.length s) : Int))) (Tr.br (decide ((↑(UInt8.toNat (List.getD s (Int.toNat i) 0)) : Int) ≥ (65 : Int))) (Tr.br (decide ((↑(UInt8.toNat (List.getD s (Int.toNat i) 0)) : Int) ≤ (90 : Int))) (Tr.br (fits (List.length b + 1) 1) (Tr.ret (Sum.inl (stOf [0, 3, 4] [AV.str s, AV.rowA 0, AV.int IntKind.i64 (IntKind.wrap IntKind.i64 (i + (1 : Int)))] [LObj.row (Ty.int IntKind.u8) (b ++ [IntKind.wrap IntKind.u8 ((↑(UInt8.toNat (List.getD s (Int.toNat i) 0)) : Int) + (32 : Int))])]))) Tr.no) (Tr.br (fits (List.length b + 1) 1) (Tr.ret (Sum.inl (stOf [0, 3, 4] [AV.str s, AV.rowA 0, AV.int IntKind.i64 (IntKind.wrap IntKind.i64 (i + (1 : Int)))] [LObj.row (Ty.int IntKind.u8) (b ++ [(↑(UInt8.toNat (List.getD s (Int.toNat i) 0)) : Int)])]))) Tr.no)) (Tr.br (fits (List.length b + 1) 1) (Tr.ret (Sum.inl (stOf [0, 3, 4] [AV.str s, AV.rowA 0, AV.int IntKind.i64 (IntKind.wrap IntKind.i64 (i + (1 : Int)))] [LObj.row (Ty.int IntKind.u8) (b ++ [(↑(UInt8.toNat (List.getD s (Int.toNat i) 0)) : Int)])]))) Tr.no)) Tr.no) Tr.no) (Tr.ret (Sum.inr (Ex.exit 0, stOf [3] [AV.rowA 0] [LObj.row (Ty.int IntKind.u8) b])))
set_option maxRecDepth 1000000 in
theorem round57 (lp : Lp) (s : List UInt8) (i : Int) (b : List Int) : evC T0 (orcB [fs71] []) lp b57 0 (stOf [0, 3, 4] [.str s, .rowA 0, .int .i64 i] [.row (.int .u8) b]) (roundK [0, 3, 4] [3] 0) = (r57 s i b).get := by kernel_rfl
theorem wf57 (s : List UInt8) (I'' : Int → List Int → Prop) (m'' : Int → List Int → Nat) (r'' : Ex × St) (h : ∀ (i : Int) (b : List Int), I'' i b → (r57 s i b).all fun x'' => x'' = .inr r'' ∨ ∃ (i' : Int) (b' : List Int), x'' = .inl (stOf [0, 3, 4] [.str s, .rowA 0, .int .i64 i'] [.row (.int .u8) b']) ∧ I'' i' b' ∧ m'' i' b' < m'' i b) (lp : Lp) (i : Int) (b : List Int) : I'' i b →
    loopF (fun st => evC T0 (orcB [fs71] []) lp b57 0 st (roundK [0, 3, 4] [3] 0)) (stOf [0, 3, 4] [.str s, .rowA 0, .int .i64 i] [.row (.int .u8) b]) = some r'' :=
  loop_tr (fun a'' : Int × List Int => stOf [0, 3, 4] [.str s, .rowA 0, .int .i64 a''.1] [.row (.int .u8) a''.2]) (fun a'' => I'' a''.1 a''.2) (fun a'' => m'' a''.1 a''.2) r'' (fun a'' => r57 s a''.1 a''.2)
    (fun a'' x hx => (round57 lp s a''.1 a''.2).trans hx) (fun a'' ha => Tr.all_mono (fun x'' hx => hx.imp id fun ⟨i', b', h1, h2, h3⟩ => ⟨(i', b'), h1, h2, h3⟩) (h (a''.1) (a''.2) ha)) (i, b)
def rfI (s : List UInt8) (i : Int) (b : List Int) : Prop := 0 ≤ i ∧ i ≤ s.length ∧ b = (bytesInt (s.take i.toNat)).map lowI
theorem rf_step {s : List UInt8} {i : Nat} (hi : i < s.length) : (bytesInt (s.take (i + 1))).map lowI = (bytesInt (s.take i)).map lowI ++ [lowI ((s.getD i 0).toNat : Int)] := by
  rw [List.take_add_one, List.getD_eq_getElem?_getD, List.getElem?_eq_getElem hi, bytesInt, bytesInt, List.map_append, List.map_append]
  rfl
theorem byte_in (c : UInt8) : 0 ≤ (c.toNat : Int) ∧ (c.toNat : Int) ≤ 255 := by
  have := c.toNat_lt
  omega
theorem loop57 : ls57.Ok T0 (orcB [fs71] []) h57 0 0 b57 := by
  intro q'' hq'' x'' y'' r'' h
  obtain ⟨(s : List UInt8), (i : Int), _⟩ := x''
  obtain ⟨(b : List Int), _⟩ := y''
  obtain ⟨hc, rfl⟩ := Tr.get_on h
  show loopF (fun st => evC T0 (orcB [fs71] []) (lpN T0 (orcB [fs71] []) h57 0 q'') b57 0 st (roundK [0, 3, 4] [3] 0)) (stOf [0, 3, 4] [.str s, .rowA 0, .int .i64 i] [.row (.int .u8) b]) = some (.exit 0, stOf [3] ([.rowA 0]) ([.row (.int .u8) ((bytesInt s).map lowI)]))
  simp only [rfC, Bool.and_eq_true, decide_eq_true_eq, List.isEmpty_iff] at hc
  obtain ⟨⟨rfl, rfl⟩, hb⟩ := hc
  refine wf57 s (rfI s) (fun i _ => (s.length - i).toNat) _ ?_ _ 0 [] ⟨by omega, by omega, by simp [bytesInt]⟩
  rintro i b ⟨h0, h1, rfl⟩
  unfold r57
  by_cases hlt : i < s.length
  · have hn : i.toNat < s.length := by omega
    have hlen : ((bytesInt (s.take i.toNat)).map lowI).length = i.toNat := by simp [bytesInt]; omega
    have e1 : (i + 1).toNat = i.toNat + 1 := by omega
    have hf : fits (((bytesInt (s.take i.toNat)).map lowI).length + 1) 1 = true := fits_true (by omega) (by omega)
    obtain ⟨g0, g1⟩ := byte_in (s.getD i.toNat 0)
    have hst := rf_step hn
    have key : ∀ x : Int, x = lowI ((s.getD i.toNat 0).toNat : Int) → (Tr.ret (Sum.inl (stOf [0, 3, 4] [AV.str s, AV.rowA 0, AV.int IntKind.i64 (IntKind.wrap IntKind.i64 (i + (1 : Int)))] [LObj.row (Ty.int IntKind.u8) ((bytesInt (s.take i.toNat)).map lowI ++ [x])])) : Tr (St ⊕ (Ex × St))).all fun x'' => x'' = .inr (.exit 0, stOf [3] [.rowA 0] [.row (.int .u8) ((bytesInt s).map lowI)]) ∨
        ∃ (i' : Int) (b' : List Int), x'' = .inl (stOf [0, 3, 4] [.str s, .rowA 0, .int .i64 i'] [.row (.int .u8) b']) ∧ rfI s i' b' ∧ (s.length - i').toNat < (s.length - i).toNat := fun x hx => by
      refine Tr.all_ret (.inr ⟨_, _, rfl, ?_, ?_⟩)
      · simp (disch := omega) only [IntWalk.i64_in]
        exact ⟨by omega, by omega, by rw [e1, hst, hx]⟩
      · simp (disch := omega) only [IntWalk.i64_in]
        omega
    refine Tr.all_t (dec_true hlt) (Tr.all_t (dec_true h0) (Tr.all_t (dec_true hlt) (Tr.all_br (fun c1 => Tr.all_br (fun c2 => Tr.all_t hf (key _ ?_)) fun c2 => Tr.all_t hf (key _ ?_)) fun c1 => Tr.all_t hf (key _ ?_))))
    · have q2 := of_decide_eq_true c2
      rw [IntWalk.u8_in _ (by omega)]
      unfold lowI
      rw [c1, c2]
      rfl
    · unfold lowI
      rw [c1, c2]
      rfl
    · unfold lowI
      rw [c1]
      rfl
  · refine Tr.all_f (dec_false hlt) (Tr.all_ret (.inl ?_))
    rw [List.take_of_length_le (by omega)]
/-- derrickref02.Fold -/
def t57 (s : List UInt8) : Tr Res := Tr.br (rfC (0 : Int) s []) (Tr.ret ([AV.str (intBytes (List.map lowI (bytesInt s)))], [])) Tr.no
def os57 : OSpec := { f := 57, sh := [.d .str false], so := [], F := fun (s, _) _ => t57 s }
set_option maxRecDepth 1000000 in
theorem fn57 (s : List UInt8) : evC T0 (orcB [fs71] []) (lpOf h57 0 (lsOf [ls57])) c57 1000000 (startSt [.str s] [] Try.f57.ntmps) (finishK T0 false 0 Try.f57) = (t57 s).get := by kernel_rfl
theorem ok57 : os57.Ok Try.prog := by
  refine os_ok mixed0 tab0 (orcB_sound (all_cons okf71 all_nil) all_nil) h57 (d := 0) (n0 := 0) (S := lsOf [ls57]) Try.func57 (by kernel_rfl) (c := c57) (by kernel_rfl) rfl (loops_eq (xs := [(0, b57)]) (by kernel_rfl) (all_cons (ls_here loop57) all_nil)) (by omega) (by kernel_rfl) ?_
  intro x'' y'' q'' hq''
  obtain ⟨(s : List UInt8), _⟩ := x''
  exact (fn57 s).trans hq''
def fs57 : FSpec := fsT 57 [(.str, false)] [(.str, false)] fun (s, _) => t57 s
theorem okf57 : fs57.Ok Try.prog := fsT_ok fun x'' r'' hr'' => ok57 x'' () r'' hr''

theorem fold_eq (s : List UInt8) : intBytes ((bytesInt s).map lowI) = foldB s := by
  simp only [intBytes, bytesInt, foldB, List.map_map]
  refine List.map_congr_left fun c _ => ?_
  simp only [Function.comp, lowI, lowB]
  have hlt := c.toNat_lt
  by_cases h : c.toNat ≥ 65 ∧ c.toNat ≤ 90
  · rw [show (decide ((c.toNat : Int) ≥ 65) && decide ((c.toNat : Int) ≤ 90)) = true by simp; omega, show (decide (c.toNat ≥ 65) && decide (c.toNat ≤ 90)) = true by simp; omega, cond_true, cond_true]
    congr 1
  · rw [show (decide ((c.toNat : Int) ≥ 65) && decide ((c.toNat : Int) ≤ 90)) = false by simp; omega, show (decide (c.toNat ≥ 65) && decide (c.toNat ≤ 90)) = false by simp; omega, cond_false, cond_false]
    simp
def bigS (s : List UInt8) : Bool := decide (s.length ≤ 1000000000000)
theorem bytesInt_len (s : List UInt8) : (bytesInt s).length = s.length := by simp [bytesInt]
theorem bytesInt_ok (s : List UInt8) : bytesOk (bytesInt s) = true := by
  refine List.all_eq_true.2 fun x hx => ?_
  obtain ⟨c, _, rfl⟩ := List.mem_map.1 hx
  have := byte_in c
  simp only [Bool.and_eq_true, decide_eq_true_eq]
  exact this
def fs52w : FSpec := fs52.like fun (s, _) => .on (bigS s) (foldB s, ())
theorem okf52w : fs52w.Ok Try.prog := by
  refine flike_ok okf52 _ ?_
  rintro ⟨(s : List UInt8), _⟩ y h
  obtain ⟨hc, rfl⟩ := Tr.get_on h
  simp only [bigS, decide_eq_true_eq] at hc
  refine convR_of (vs := [.str (foldB s)]) rfl rfl (Tr.get_of_all ?_)
  show (t52 s).all _
  refine Tr.all_t (fits_true (by omega) (by omega)) (Tr.all_t ?_ (Tr.all_ret ?_))
  · simp only [fdC, bytesInt_len, bytesInt_ok, decide_true, Bool.true_and, Bool.and_true]
    exact dec_true hc
  · rw [fold_eq]
def fs57w : FSpec := fs57.like fun (s, _) => .on (bigS s) (foldB s, ())
theorem okf57w : fs57w.Ok Try.prog := by
  refine flike_ok okf57 _ ?_
  rintro ⟨(s : List UInt8), _⟩ y h
  obtain ⟨hc, rfl⟩ := Tr.get_on h
  simp only [bigS, decide_eq_true_eq] at hc
  refine convR_of (vs := [.str (foldB s)]) rfl rfl (Tr.get_of_all ?_)
  show (t57 s).all _
  refine Tr.all_t ?_ (Tr.all_ret ?_)
  · simp only [rfC, List.isEmpty_nil, decide_true, Bool.true_and]
    exact dec_true hc
  · rw [fold_eq]
end Go.Proofs.YtfepkpindchleaaE
