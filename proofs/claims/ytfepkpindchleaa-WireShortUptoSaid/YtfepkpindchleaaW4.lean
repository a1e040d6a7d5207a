/- labels, by definition. -/
import Derived.Test.YtfepkpindchleaaW3
namespace Go.Proofs.YtfepkpindchleaaE
open Go
set_option linter.unusedVariables false
set_option linter.unusedSimpArgs false
/-- Labels from a place on: are they right; where they end (or aren't); which. -/
def labAt (s : List UInt8) (k : Nat) (out : List (List UInt8)) : Bool × (Nat × List (List UInt8)) :=
  if h : k < s.length then
    (if (s.getD k 0).toNat = 0 then (true, k, out)
    else if (s.getD k 0).toNat > 63 ∨ k + 1 + (s.getD k 0).toNat > s.length then (false, k, out)
    else labAt s (k + 1 + (s.getD k 0).toNat) (out ++ [(s.drop (k + 1)).take (s.getD k 0).toNat]))
  else (true, k, out)
termination_by s.length - k
def lbC (s : List UInt8) (at_ : Int) (out : List (List UInt8)) : Bool := decide (at_ = 0) && out.isEmpty && bigS s
def lbOk (s : List UInt8) : Bool := (labAt s 0 []).1
def lbAt (s : List UInt8) : Int := (labAt s 0 []).2.1
def lbOut (s : List UInt8) : List (List UInt8) := (labAt s 0 []).2.2
noncomputable def b66 : Code := nthLoop c66 0
def ls66 : LoopSpec := { bid := 0, sh := [.d .str false, .row 0, .d (.int .i64) false], so := [.row .str], F := fun (s, at_, _) (out, _) => .on2 (lbC s at_ out) (lbOk s) (.exit 0, [.str s, .dead, .dead, .rowA 0, .int .i64 (lbAt s)], [.row .str (lbOut s)]) (.ret, [.str s, .rowA 0, .int .i64 2, .rowA 1, .int .i64 (lbAt s)], [.row .str [], .row .str (lbOut s)]) }
def r66 (s : List UInt8) (at_ : Int) (out : List (List UInt8)) : Tr (St ⊕ (Ex × St)) := Tr.br (decide (at_ < (↑(List.length s) : Int))) (Tr.br (decide ((0 : Int) ≤ at_)) (Tr.br (decide (at_ < (↑(List.length s) : Int))) (Tr.br ((↑(UInt8.toNat (List.getD s (Int.toNat at_) 0)) : Int) != (0 : Int)) (Tr.br (decide ((0 : Int) ≤ at_)) (Tr.br (decide (at_ < (↑(List.length s) : Int))) (Tr.br (decide (IntKind.wrap IntKind.i64 (↑(UInt8.toNat (List.getD s (Int.toNat at_) 0)) : Int) > (63 : Int))) (Tr.ret (Sum.inr (Ex.ret, stOf [0, 2, 3, 4, 5] [AV.str s, AV.rowA 0, AV.int IntKind.i64 (2 : Int), AV.rowA 1, AV.int IntKind.i64 at_] [LObj.row Ty.str [], LObj.row Ty.str out]))) (Tr.br (decide (IntKind.wrap IntKind.i64 (IntKind.wrap IntKind.i64 (at_ + (1 : Int)) + IntKind.wrap IntKind.i64 (↑(UInt8.toNat (List.getD s (Int.toNat at_) 0)) : Int)) > (↑(List.length s) : Int))) (Tr.ret (Sum.inr (Ex.ret, stOf [0, 2, 3, 4, 5] [AV.str s, AV.rowA 0, AV.int IntKind.i64 (2 : Int), AV.rowA 1, AV.int IntKind.i64 at_] [LObj.row Ty.str [], LObj.row Ty.str out]))) (Tr.br (decide ((0 : Int) ≤ IntKind.wrap IntKind.i64 (IntKind.wrap IntKind.i64 (at_ + (1 : Int)) + IntKind.wrap IntKind.i64 (↑(UInt8.toNat (List.getD s (Int.toNat at_) 0)) : Int))) && decide (IntKind.wrap IntKind.i64 (IntKind.wrap IntKind.i64 (at_ + (1 : Int)) + IntKind.wrap IntKind.i64 (↑(UInt8.toNat (List.getD s (Int.toNat at_) 0)) : Int)) ≤ (↑(List.length s) : Int))) (Tr.br (decide ((0 : Int) ≤ IntKind.wrap IntKind.i64 (at_ + (1 : Int))) && decide (IntKind.wrap IntKind.i64 (at_ + (1 : Int)) ≤ IntKind.wrap IntKind.i64 (IntKind.wrap IntKind.i64 (at_ + (1 : Int)) + IntKind.wrap IntKind.i64 (↑(UInt8.toNat (List.getD s (Int.toNat at_) 0)) : Int)))) (Tr.br (fits (List.length out + 1) 16) (Tr.ret (Sum.inl (stOf [0, 4, 5] [AV.str s, AV.rowA 0, AV.int IntKind.i64 (IntKind.wrap IntKind.i64 (IntKind.wrap IntKind.i64 (at_ + (1 : Int)) + IntKind.wrap IntKind.i64 (↑(UInt8.toNat (List.getD s (Int.toNat at_) 0)) : Int)))] [LObj.row Ty.str (out ++ [List.take (Int.toNat (IntKind.wrap IntKind.i64 (IntKind.wrap IntKind.i64 (at_ + (1 : Int)) + IntKind.wrap IntKind.i64 (↑(UInt8.toNat (List.getD s (Int.toNat at_) 0)) : Int))) - Int.toNat (IntKind.wrap IntKind.i64 (at_ + (1 : Int)))) (List.drop (Int.toNat (IntKind.wrap IntKind.i64 (at_ + (1 : Int)))) s)])]))) Tr.no) Tr.no) Tr.no))) Tr.no) Tr.no) (Tr.ret (Sum.inr (Ex.exit 0, stOf [0, 2, 3, 4, 5] [AV.str s, AV.dead, AV.dead, AV.rowA 0, AV.int IntKind.i64 at_] [LObj.row Ty.str out])))) Tr.no) Tr.no) (Tr.ret (Sum.inr (Ex.exit 0, stOf [0, 2, 3, 4, 5] [AV.str s, AV.dead, AV.dead, AV.rowA 0, AV.int IntKind.i64 at_] [LObj.row Ty.str out])))
set_option maxRecDepth 1000000 in
theorem round66 (orc : Orc) (lp : Lp) (s : List UInt8) (at_ : Int) (out : List (List UInt8)) : evC T0 orc lp b66 0 (stOf [0, 4, 5] [.str s, .rowA 0, .int .i64 at_] [.row .str out]) (roundK [0, 4, 5] [0, 2, 3, 4, 5] 0) = (r66 s at_ out).get := by kernel_rfl
theorem wf66 (orc : Orc) (s : List UInt8) (I'' : Int → List (List UInt8) → Prop) (m'' : Int → List (List UInt8) → Nat) (r'' : Ex × St) (h : ∀ (at_ : Int) (out : List (List UInt8)), I'' at_ out → (r66 s at_ out).all fun x'' => x'' = .inr r'' ∨ ∃ (at_' : Int) (out' : List (List UInt8)), x'' = .inl (stOf [0, 4, 5] [.str s, .rowA 0, .int .i64 at_'] [.row .str out']) ∧ I'' at_' out' ∧ m'' at_' out' < m'' at_ out) (lp : Lp) (at_ : Int) (out : List (List UInt8)) : I'' at_ out →
    loopF (fun st => evC T0 orc lp b66 0 st (roundK [0, 4, 5] [0, 2, 3, 4, 5] 0)) (stOf [0, 4, 5] [.str s, .rowA 0, .int .i64 at_] [.row .str out]) = some r'' :=
  loop_tr (fun a'' : Int × List (List UInt8) => stOf [0, 4, 5] [.str s, .rowA 0, .int .i64 a''.1] [.row .str a''.2]) (fun a'' => I'' a''.1 a''.2) (fun a'' => m'' a''.1 a''.2) r'' (fun a'' => r66 s a''.1 a''.2)
    (fun a'' x hx => (round66 orc lp s a''.1 a''.2).trans hx) (fun a'' ha => Tr.all_mono (fun x'' hx => hx.imp id fun ⟨at_', out', h1, h2, h3⟩ => ⟨(at_', out'), h1, h2, h3⟩) (h (a''.1) (a''.2) ha)) (at_, out)
def lbI (s : List UInt8) (at_ : Int) (out : List (List UInt8)) : Prop := 0 ≤ at_ ∧ at_ ≤ s.length ∧ (out.length : Int) ≤ at_ ∧ labAt s at_.toNat out = labAt s 0 []
theorem loop66 (orc : Orc) : ls66.Ok T0 orc h66 0 0 b66 := by
  intro q'' hq'' x'' y'' r'' h
  obtain ⟨(s : List UInt8), (at_ : Int), _⟩ := x''
  obtain ⟨(out : List (List UInt8)), _⟩ := y''
  obtain ⟨hc, rfl⟩ := Tr.get_on2 h
  show loopF (fun st => evC T0 orc (lpN T0 orc h66 0 q'') b66 0 st (roundK [0, 4, 5] [0, 2, 3, 4, 5] 0)) (stOf [0, 4, 5] [.str s, .rowA 0, .int .i64 at_] [.row .str out]) = some ((bif lbOk s then (.exit 0, [.str s, .dead, .dead, .rowA 0, .int .i64 (lbAt s)], [.row .str (lbOut s)]) else (.ret, [.str s, .rowA 0, .int .i64 2, .rowA 1, .int .i64 (lbAt s)], [.row .str [], .row .str (lbOut s)]) : Ex × List AV × List LObj).1, stOf [0, 2, 3, 4, 5] (bif lbOk s then (.exit 0, [.str s, .dead, .dead, .rowA 0, .int .i64 (lbAt s)], [.row .str (lbOut s)]) else (.ret, [.str s, .rowA 0, .int .i64 2, .rowA 1, .int .i64 (lbAt s)], [.row .str [], .row .str (lbOut s)]) : Ex × List AV × List LObj).2.1 (bif lbOk s then (.exit 0, [.str s, .dead, .dead, .rowA 0, .int .i64 (lbAt s)], [.row .str (lbOut s)]) else (.ret, [.str s, .rowA 0, .int .i64 2, .rowA 1, .int .i64 (lbAt s)], [.row .str [], .row .str (lbOut s)]) : Ex × List AV × List LObj).2.2)
  simp only [lbC, Bool.and_eq_true, decide_eq_true_eq, List.isEmpty_iff, bigS] at hc
  obtain ⟨⟨rfl, rfl⟩, hb⟩ := hc
  refine wf66 _ s (lbI s) (fun at_ _ => (s.length - at_).toNat) _ ?_ _ 0 [] ⟨by omega, by omega, by simp, rfl⟩
  rintro at_ out ⟨h0, h1, h2, h3⟩
  unfold r66
  have hgood : ∀ k' out', labAt s at_.toNat out = (true, k', out') → lbOk s = true ∧ lbAt s = k' ∧ lbOut s = out' := fun k' out' h => by
    unfold lbOk lbAt lbOut
    rw [← h3, h]
    exact ⟨rfl, rfl, rfl⟩
  have hbad : ∀ k' out', labAt s at_.toNat out = (false, k', out') → lbOk s = false ∧ lbAt s = k' ∧ lbOut s = out' := fun k' out' h => by
    unfold lbOk lbAt lbOut
    rw [← h3, h]
    exact ⟨rfl, rfl, rfl⟩
  have hto : ((at_.toNat : Nat) : Int) = at_ := Int.toNat_of_nonneg h0
  by_cases hlt : at_ < s.length
  · have hn : at_.toNat < s.length := by omega
    refine Tr.all_t (dec_true hlt) (Tr.all_t (dec_true h0) (Tr.all_t (dec_true hlt) (Tr.all_br (fun c1 => ?_) fun c1 => ?_)))
    · have hk := byte_in (s.getD at_.toNat 0)
      have hk0 : (s.getD at_.toNat 0).toNat ≠ 0 := by
        have := bne_iff_ne.1 c1
        omega
      simp (disch := omega) only [IntWalk.i64_in]
      refine Tr.all_t (dec_true h0) (Tr.all_t (dec_true hlt) (Tr.all_br (fun c2 => ?_) fun c2 => Tr.all_br (fun c3 => ?_) fun c3 => ?_))
      · simp only [decide_eq_true_eq] at c2
        obtain ⟨e1, e2, e3⟩ := hbad at_.toNat out (by rw [labAt, dif_pos hn, if_neg hk0, if_pos (by omega)])
        rw [e1, e2, e3, hto]
        exact Tr.all_ret (.inl rfl)
      · simp only [decide_eq_true_eq] at c3
        obtain ⟨e1, e2, e3⟩ := hbad at_.toNat out (by rw [labAt, dif_pos hn, if_neg hk0, if_pos (by omega)])
        rw [e1, e2, e3, hto]
        exact Tr.all_ret (.inl rfl)
      · simp only [decide_eq_false_iff_not] at c2 c3
        refine Tr.all_t (by rw [dec_true (by omega), dec_true (by omega)]; rfl) (Tr.all_t (by rw [dec_true (by omega), dec_true (by omega)]; rfl) (Tr.all_t (fits_true (by omega) (by omega)) (Tr.all_ret (.inr ⟨_, _, rfl, ⟨by omega, by omega, by simp; omega, ?_⟩, by omega⟩))))
        rw [← h3, labAt.eq_1 s at_.toNat out, dif_pos hn, if_neg hk0, if_neg (by omega)]
        rw [show (at_ + 1 + ((s.getD at_.toNat 0).toNat : Int)).toNat = at_.toNat + 1 + (s.getD at_.toNat 0).toNat by omega, show (at_ + 1).toNat = at_.toNat + 1 by omega, show at_.toNat + 1 + (s.getD at_.toNat 0).toNat - (at_.toNat + 1) = (s.getD at_.toNat 0).toNat by omega]
    · have hk0 : (s.getD at_.toNat 0).toNat = 0 := by
        have := bne_eq_false_iff_eq.1 c1
        omega
      obtain ⟨e1, e2, e3⟩ := hgood at_.toNat out (by rw [labAt, dif_pos hn, if_pos hk0])
      rw [e1, e2, e3, hto]
      exact Tr.all_ret (.inl rfl)
  · obtain ⟨e1, e2, e3⟩ := hgood at_.toNat out (by rw [labAt, dif_neg (by omega)])
    rw [e1, e2, e3, hto]
    exact Tr.all_f (dec_false hlt) (Tr.all_ret (.inl rfl))
/-- derrickref02.Labels -/
def t66 (s : List UInt8) : Tr Res := Tr.br (lbC s (0 : Int) []) (Tr.br (lbOk s) (Tr.br (lbAt s != IntKind.wrap IntKind.i64 ((↑(List.length s) : Int) - (1 : Int))) (Tr.ret ([AV.list Ty.str [], AV.int IntKind.i64 (2 : Int)], [])) (Tr.br (decide ((↑(List.length s) : Int) > (255 : Int))) (Tr.ret ([AV.list Ty.str [], AV.int IntKind.i64 (3 : Int)], [])) (Tr.ret ([AV.list Ty.str (lbOut s), AV.int IntKind.i64 (0 : Int)], [])))) (Tr.ret ([AV.list Ty.str [], AV.int IntKind.i64 (2 : Int)], []))) Tr.no
def os66 : OSpec := { f := 66, sh := [.d .str false], so := [], F := fun (s, _) _ => t66 s }
set_option maxRecDepth 1000000 in
theorem fn66 (s : List UInt8) : evC T0 (orcB [] []) (lpOf h66 0 (lsOf [ls66])) c66 1000000 (startSt [.str s] [] Try.f66.ntmps) (finishK T0 false 0 Try.f66) = (t66 s).get := by kernel_rfl
theorem ok66 : os66.Ok Try.prog := by
  refine os_ok mixed0 tab0 (orcB_sound all_nil all_nil) h66 (d := 0) (n0 := 0) (S := lsOf [ls66]) Try.func66 (by kernel_rfl) (c := c66) (by kernel_rfl) rfl (loops_eq (xs := [(0, b66)]) (by kernel_rfl) (all_cons (ls_here (loop66 _)) all_nil)) (by omega) (by kernel_rfl) ?_
  intro x'' y'' q'' hq''
  obtain ⟨(s : List UInt8), _⟩ := x''
  exact (fn66 s).trans hq''
def fs66 : FSpec := fsT 66 [(.str, false)] [((.list .str), false), ((.int .i64), false)] fun (s, _) => t66 s
theorem okf66 : fs66.Ok Try.prog := fsT_ok fun x'' r'' hr'' => ok66 x'' () r'' hr''
/-- derrickref02.May -/
def t43 (s : List UInt8) : Tr Res := Tr.br (lbC s (0 : Int) []) (Tr.br (lbOk s) (Tr.br (lbAt s != IntKind.wrap IntKind.i64 ((↑(List.length s) : Int) - (1 : Int))) (Tr.ret ([AV.bool false], [])) (Tr.br (decide ((↑(List.length s) : Int) > (255 : Int))) (Tr.ret ([AV.bool false], [])) (Tr.br (bigS s) (Tr.ret ([AV.bool (foldB s == s)], [])) Tr.no))) (Tr.ret ([AV.bool false], []))) Tr.no
def os43 : OSpec := { f := 43, sh := [.d .str false], so := [], F := fun (s, _) _ => t43 s }
set_option maxRecDepth 1000000 in
theorem fn43 (s : List UInt8) : evC T0 (orcB [fs66, fs57w] []) (lpOf h43 0 (lsOf [])) c43 1000000 (startSt [.str s] [] Try.f43.ntmps) (finishK T0 false 0 Try.f43) = (t43 s).get := by kernel_rfl
theorem ok43 : os43.Ok Try.prog := by
  refine os_ok mixed0 tab0 (orcB_sound (all_cons okf66 (all_cons okf57w all_nil)) all_nil) h43 (d := 0) (n0 := 0) (S := lsOf []) Try.func43 (by kernel_rfl) (c := c43) (by kernel_rfl) rfl (no_loops (by kernel_rfl)) (by omega) (by kernel_rfl) ?_
  intro x'' y'' q'' hq''
  obtain ⟨(s : List UInt8), _⟩ := x''
  exact (fn43 s).trans hq''
def fs43 : FSpec := fsT 43 [(.str, false)] [(.bool, false)] fun (s, _) => t43 s
theorem okf43 : fs43.Ok Try.prog := fsT_ok fun x'' r'' hr'' => ok43 x'' () r'' hr''
/-- Whether a text is a name. -/
def mayS (s : List UInt8) : Bool := lbOk s && (decide (lbAt s = (s.length : Int) - 1) && (decide (s.length ≤ 255) && (foldB s == s)))
def fs43w : FSpec := fs43.like fun (s, _) => .on (bigS s) (mayS s, ())
theorem okf43w : fs43w.Ok Try.prog := by
  refine flike_ok okf43 _ ?_
  rintro ⟨(s : List UInt8), _⟩ y h
  obtain ⟨hb, rfl⟩ := Tr.get_on h
  have hb' := hb
  simp only [bigS, decide_eq_true_eq] at hb'
  refine convR_of (vs := [.bool (mayS s)]) rfl rfl (Tr.get_of_all ?_)
  show (t43 s).all _
  unfold t43
  rw [IntWalk.i64_in _ (by omega)]
  refine Tr.all_t (by simp [lbC, hb]) (Tr.all_br (fun c1 => Tr.all_br (fun c2 => Tr.all_ret ?_) fun c2 => Tr.all_br (fun c3 => Tr.all_ret ?_) fun c3 => Tr.all_t hb (Tr.all_ret ?_)) fun c1 => Tr.all_ret ?_)
  · have := bne_iff_ne.1 c2
    simp [mayS, this]
  · simp only [decide_eq_true_eq] at c3
    have : ¬ s.length ≤ 255 := by omega
    simp [mayS, this]
  · have h2 := bne_eq_false_iff_eq.1 c2
    simp only [decide_eq_false_iff_not] at c3
    have : s.length ≤ 255 := by omega
    simp [mayS, c1, h2, this]
  · simp [mayS, c1]
end Go.Proofs.YtfepkpindchleaaE
