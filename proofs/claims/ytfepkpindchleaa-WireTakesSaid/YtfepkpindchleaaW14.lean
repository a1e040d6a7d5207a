/- The document's Take: words. -/
import Derived.Test.YtfepkpindchleaaQ6
import Derived.Test.YtfepkpindchleaaW12
namespace Go.Proofs.YtfepkpindchleaaE
open Go Go.Proofs.YtfepkpindchleaaB
set_option linter.unusedVariables false
set_option linter.unusedSimpArgs false
noncomputable def b54 : Code := nthLoop c54 0
def ls54 : LoopSpec := { bid := 0, sh := [.d .str false, .d (.int .i64) false, .d (.int .i64) false], so := [], F := fun (s, at_, from_, _) _ => .on2 (bigS s && decide (from_ = at_)) (lbX3 s at_) (.exit 0, [.dead, .dead], []) (.ret, [.str (lbS3 s at_), .int .i64 (lbE3 s at_)], []) }
def r54 (s : List UInt8) (at_ : Int) (from_ : Int) : Tr (St ⊕ (Ex × St)) := Tr.br (decide (at_ ≥ (0 : Int))) (Tr.br (decide (at_ < (↑(List.length s) : Int))) (Tr.br (decide ((0 : Int) ≤ at_)) (Tr.br (decide (at_ < (↑(List.length s) : Int))) (Tr.br (decide (IntKind.wrap IntKind.i64 (↑(UInt8.toNat (List.getD s (Int.toNat at_) 0)) : Int) ≥ (192 : Int))) (Tr.br (decide ((0 : Int) ≤ at_) && decide (at_ ≤ (↑(List.length s) : Int))) (Tr.br (decide ((0 : Int) ≤ from_) && decide (from_ ≤ at_)) (Tr.ret (Sum.inr (Ex.ret, stOf [4, 5] [AV.str (List.take (Int.toNat at_ - Int.toNat from_) (List.drop (Int.toNat from_) s)), AV.int IntKind.i64 at_] []))) Tr.no) Tr.no) (Tr.br (decide (IntKind.wrap IntKind.i64 (↑(UInt8.toNat (List.getD s (Int.toNat at_) 0)) : Int) > (63 : Int))) (Tr.ret (Sum.inr (Ex.ret, stOf [4, 5] [AV.str [], AV.int IntKind.i64 (-1 : Int)] []))) (Tr.br (IntKind.wrap IntKind.i64 (↑(UInt8.toNat (List.getD s (Int.toNat at_) 0)) : Int) == (0 : Int)) (Tr.br (decide ((0 : Int) ≤ IntKind.wrap IntKind.i64 (at_ + (1 : Int))) && decide (IntKind.wrap IntKind.i64 (at_ + (1 : Int)) ≤ (↑(List.length s) : Int))) (Tr.br (decide ((0 : Int) ≤ from_) && decide (from_ ≤ IntKind.wrap IntKind.i64 (at_ + (1 : Int)))) (Tr.ret (Sum.inr (Ex.ret, stOf [4, 5] [AV.str (List.take (Int.toNat (IntKind.wrap IntKind.i64 (at_ + (1 : Int))) - Int.toNat from_) (List.drop (Int.toNat from_) s)), AV.int IntKind.i64 (IntKind.wrap IntKind.i64 (at_ + (1 : Int)))] []))) Tr.no) Tr.no) (Tr.ret (Sum.inl (stOf [0, 1, 6] [AV.str s, AV.int IntKind.i64 (IntKind.wrap IntKind.i64 (IntKind.wrap IntKind.i64 (at_ + (1 : Int)) + IntKind.wrap IntKind.i64 (↑(UInt8.toNat (List.getD s (Int.toNat at_) 0)) : Int))), AV.int IntKind.i64 from_] [])))))) Tr.no) Tr.no) (Tr.ret (Sum.inr (Ex.exit 0, stOf [4, 5] [AV.dead, AV.dead] [])))) (Tr.ret (Sum.inr (Ex.exit 0, stOf [4, 5] [AV.dead, AV.dead] [])))
set_option maxRecDepth 1000000 in
theorem round54 (orc : Orc) (lp : Lp) (s : List UInt8) (at_ : Int) (from_ : Int) : evC T0 orc lp b54 0 (stOf [0, 1, 6] [.str s, .int .i64 at_, .int .i64 from_] []) (roundK [0, 1, 6] [4, 5] 0) = (r54 s at_ from_).get := by kernel_rfl
theorem wf54 (orc : Orc) (s : List UInt8) (from_ : Int) (I'' : Int → Prop) (m'' : Int → Nat) (r'' : Ex × St) (h : ∀ (at_ : Int), I'' at_ → (r54 s at_ from_).all fun x'' => x'' = .inr r'' ∨ ∃ (at_' : Int), x'' = .inl (stOf [0, 1, 6] [.str s, .int .i64 at_', .int .i64 from_] []) ∧ I'' at_' ∧ m'' at_' < m'' at_) (lp : Lp) (at_ : Int) : I'' at_ →
    loopF (fun st => evC T0 orc lp b54 0 st (roundK [0, 1, 6] [4, 5] 0)) (stOf [0, 1, 6] [.str s, .int .i64 at_, .int .i64 from_] []) = some r'' :=
  loop_tr (fun a'' : Int => stOf [0, 1, 6] [.str s, .int .i64 a'', .int .i64 from_] []) (fun a'' => I'' a'') (fun a'' => m'' a'') r'' (fun a'' => r54 s a'' from_)
    (fun a'' x hx => (round54 orc lp s a'' from_).trans hx) (fun a'' ha => Tr.all_mono (fun x'' hx => hx.imp id fun ⟨at_', h1, h2, h3⟩ => ⟨(at_'), h1, h2, h3⟩) (h (a'') ha)) (at_)
def lb3I (s : List UInt8) (f at_ : Int) : Prop := f ≤ at_ ∧ labE s at_.toNat = labE s f.toNat ∧ labX s at_.toNat = labX s f.toNat
theorem loop54 (orc : Orc) : ls54.Ok T0 orc h54 0 0 b54 := by
  intro q'' hq'' x'' y'' r'' h
  obtain ⟨(s : List UInt8), (at_ : Int), (from_ : Int), _⟩ := x''
  obtain ⟨hc, rfl⟩ := Tr.get_on2 h
  show loopF (fun st => evC T0 orc (lpN T0 orc h54 0 q'') b54 0 st (roundK [0, 1, 6] [4, 5] 0)) (stOf [0, 1, 6] [.str s, .int .i64 at_, .int .i64 from_] []) = some ((bif lbX3 s at_ then (.exit 0, [.dead, .dead], []) else (.ret, [.str (lbS3 s at_), .int .i64 (lbE3 s at_)], []) : Ex × List AV × List LObj).1, stOf [4, 5] (bif lbX3 s at_ then (.exit 0, [.dead, .dead], []) else (.ret, [.str (lbS3 s at_), .int .i64 (lbE3 s at_)], []) : Ex × List AV × List LObj).2.1 (bif lbX3 s at_ then (.exit 0, [.dead, .dead], []) else (.ret, [.str (lbS3 s at_), .int .i64 (lbE3 s at_)], []) : Ex × List AV × List LObj).2.2)
  simp only [Bool.and_eq_true, decide_eq_true_eq] at hc
  obtain ⟨hb, rfl⟩ := hc
  by_cases h0 : from_ < 0
  · refine wf54 _ s from_ (fun a => a = from_) (fun _ => 0) _ ?_ _ from_ rfl
    rintro at_ rfl
    rw [show lbX3 s at_ = true by simp [lbX3, h0]]
    unfold r54
    exact Tr.all_f (dec_false (by omega)) (Tr.all_ret (.inl rfl))
  refine wf54 _ s from_ (lb3I s from_) (fun a => (s.length - a).toNat) _ ?_ _ from_ ⟨by omega, rfl, rfl⟩
  rintro at_ ⟨h1, h2, h3⟩
  have hB : s.length ≤ 1000000000000 := by simpa [bigS] using hb
  unfold r54 lbX3 lbS3 lbE3
  rw [if_neg h0, if_neg h0, decide_eq_false h0, Bool.false_or, ← h2, ← h3]
  have hto : ((at_.toNat : Nat) : Int) = at_ := Int.toNat_of_nonneg (by omega)
  by_cases hk : at_.toNat < s.length
  · have hb0 : (↑(UInt8.toNat (List.getD s (Int.toNat at_) 0)) : Int) = (byN s at_.toNat : Int) := rfl
    have hbl : byN s at_.toNat < 256 := (s.getD at_.toNat 0).toNat_lt
    refine Tr.all_t (dec_true (by omega)) (Tr.all_t (dec_true (by omega)) (Tr.all_t (dec_true (by omega)) (Tr.all_t (dec_true (by omega)) ?_)))
    rw [hb0, IntWalk.i64_in ((byN s at_.toNat : Nat) : Int) (by omega), IntWalk.i64_in (at_ + 1) (by omega), IntWalk.i64_in _ (by omega), labE.eq_1 s at_.toNat, labX.eq_1 s at_.toNat, dif_pos hk, dif_pos hk]
    by_cases c1 : 192 ≤ byN s at_.toNat
    · rw [if_pos c1, if_pos c1]
      refine Tr.all_t (dec_true (by omega)) (Tr.all_t (by rw [dec_true (by omega), dec_true (by omega)]; rfl) (Tr.all_t (by rw [dec_true (by omega), dec_true (by omega)]; rfl) (Tr.all_ret (.inl ?_))))
      simp only [hto, sub]
      rfl
    rw [if_neg c1, if_neg c1]
    by_cases c2 : 63 < byN s at_.toNat
    · rw [if_pos c2, if_pos c2]
      exact Tr.all_f (dec_false (by omega)) (Tr.all_t (dec_true (by omega)) (Tr.all_ret (.inl rfl)))
    rw [if_neg c2, if_neg c2]
    by_cases c3 : byN s at_.toNat = 0
    · rw [if_pos c3, if_pos c3]
      refine Tr.all_f (dec_false (by omega)) (Tr.all_f (dec_false (by omega)) (Tr.all_t (beq_iff_eq.2 (by omega)) (Tr.all_t (by rw [dec_true (by omega), dec_true (by omega)]; rfl) (Tr.all_t (by rw [dec_true (by omega), dec_true (by omega)]; rfl) (Tr.all_ret (.inl ?_))))))
      have : (((at_.toNat + 1 : Nat)) : Int) = at_ + 1 := by omega
      simp only [this, sub, show (at_ + 1).toNat = at_.toNat + 1 by omega]
      rfl
    rw [if_neg c3, if_neg c3]
    refine Tr.all_f (dec_false (by omega)) (Tr.all_f (dec_false (by omega)) (Tr.all_f (beq_eq_false_iff_ne.2 (by omega)) (Tr.all_ret (.inr ⟨_, rfl, ⟨by omega, ?_, ?_⟩, by omega⟩))))
    · rw [← h2, labE.eq_1 s at_.toNat, dif_pos hk, if_neg c1, if_neg c2, if_neg c3, show (at_ + 1 + (byN s at_.toNat : Int)).toNat = at_.toNat + 1 + byN s at_.toNat by omega]
    · rw [← h3, labX.eq_1 s at_.toNat, dif_pos hk, if_neg c1, if_neg c2, if_neg c3, show (at_ + 1 + (byN s at_.toNat : Int)).toNat = at_.toNat + 1 + byN s at_.toNat by omega]
  · rw [labX.eq_1 s at_.toNat, dif_neg hk]
    exact Tr.all_t (dec_true (by omega)) (Tr.all_f (dec_false (by omega)) (Tr.all_ret (.inl rfl)))
noncomputable def b55 : Code := nthLoop c55 0
def ls55 : LoopSpec := { bid := 0, sh := [.d .str false, .d (.int .i64) false], so := [], F := fun (s, at_, _) _ => .on2 (bigS s && decide (at_ = 0)) (endsX s 0) (.exit 0, [.dead], []) (.ret, [.bool (endsR s 0)], []) }
def r55 (s : List UInt8) (at_ : Int) : Tr (St ⊕ (Ex × St)) := Tr.br (decide (at_ < (↑(List.length s) : Int))) (Tr.br (decide ((0 : Int) ≤ at_)) (Tr.br (decide (at_ < (↑(List.length s) : Int))) (Tr.br ((↑(UInt8.toNat (List.getD s (Int.toNat at_) 0)) : Int) == (0 : Int)) (Tr.ret (Sum.inr (Ex.ret, stOf [2] [AV.bool (at_ == IntKind.wrap IntKind.i64 ((↑(List.length s) : Int) - (1 : Int)))] []))) (Tr.br (decide ((0 : Int) ≤ at_)) (Tr.br (decide (at_ < (↑(List.length s) : Int))) (Tr.ret (Sum.inl (stOf [0, 3] [AV.str s, AV.int IntKind.i64 (IntKind.wrap IntKind.i64 (IntKind.wrap IntKind.i64 (at_ + (1 : Int)) + IntKind.wrap IntKind.i64 (↑(UInt8.toNat (List.getD s (Int.toNat at_) 0)) : Int)))] []))) Tr.no) Tr.no)) Tr.no) Tr.no) (Tr.ret (Sum.inr (Ex.exit 0, stOf [2] [AV.dead] [])))
set_option maxRecDepth 1000000 in
theorem round55 (orc : Orc) (lp : Lp) (s : List UInt8) (at_ : Int) : evC T0 orc lp b55 0 (stOf [0, 3] [.str s, .int .i64 at_] []) (roundK [0, 3] [2] 0) = (r55 s at_).get := by kernel_rfl
theorem wf55 (orc : Orc) (s : List UInt8) (I'' : Int → Prop) (m'' : Int → Nat) (r'' : Ex × St) (h : ∀ (at_ : Int), I'' at_ → (r55 s at_).all fun x'' => x'' = .inr r'' ∨ ∃ (at_' : Int), x'' = .inl (stOf [0, 3] [.str s, .int .i64 at_'] []) ∧ I'' at_' ∧ m'' at_' < m'' at_) (lp : Lp) (at_ : Int) : I'' at_ →
    loopF (fun st => evC T0 orc lp b55 0 st (roundK [0, 3] [2] 0)) (stOf [0, 3] [.str s, .int .i64 at_] []) = some r'' :=
  loop_tr (fun a'' : Int => stOf [0, 3] [.str s, .int .i64 a''] []) (fun a'' => I'' a'') (fun a'' => m'' a'') r'' (fun a'' => r55 s a'')
    (fun a'' x hx => (round55 orc lp s a'').trans hx) (fun a'' ha => Tr.all_mono (fun x'' hx => hx.imp id fun ⟨at_', h1, h2, h3⟩ => ⟨(at_'), h1, h2, h3⟩) (h (a'') ha)) (at_)
def en3I (s : List UInt8) (at_ : Int) : Prop := 0 ≤ at_ ∧ endsX s at_.toNat = endsX s 0 ∧ endsR s at_.toNat = endsR s 0
theorem loop55 (orc : Orc) : ls55.Ok T0 orc h55 0 0 b55 := by
  intro q'' hq'' x'' y'' r'' h
  obtain ⟨(s : List UInt8), (at_ : Int), _⟩ := x''
  obtain ⟨hc, rfl⟩ := Tr.get_on2 h
  show loopF (fun st => evC T0 orc (lpN T0 orc h55 0 q'') b55 0 st (roundK [0, 3] [2] 0)) (stOf [0, 3] [.str s, .int .i64 at_] []) = some ((bif endsX s 0 then (.exit 0, [.dead], []) else (.ret, [.bool (endsR s 0)], []) : Ex × List AV × List LObj).1, stOf [2] (bif endsX s 0 then (.exit 0, [.dead], []) else (.ret, [.bool (endsR s 0)], []) : Ex × List AV × List LObj).2.1 (bif endsX s 0 then (.exit 0, [.dead], []) else (.ret, [.bool (endsR s 0)], []) : Ex × List AV × List LObj).2.2)
  simp only [Bool.and_eq_true, decide_eq_true_eq] at hc
  obtain ⟨hb, rfl⟩ := hc
  refine wf55 _ s (en3I s) (fun a => (s.length - a).toNat) _ ?_ _ 0 ⟨by omega, rfl, rfl⟩
  rintro at_ ⟨h1, h2, h3⟩
  have hB : s.length ≤ 1000000000000 := by simpa [bigS] using hb
  unfold r55
  rw [← h2, ← h3]
  have hto : ((at_.toNat : Nat) : Int) = at_ := Int.toNat_of_nonneg (by omega)
  by_cases hk : at_.toNat < s.length
  · have hb0 : (↑(UInt8.toNat (List.getD s (Int.toNat at_) 0)) : Int) = (byN s at_.toNat : Int) := rfl
    have hbl : byN s at_.toNat < 256 := (s.getD at_.toNat 0).toNat_lt
    refine Tr.all_t (dec_true (by omega)) (Tr.all_t (dec_true (by omega)) (Tr.all_t (dec_true (by omega)) ?_))
    simp only [hb0]
    rw [IntWalk.i64_in ((byN s at_.toNat : Nat) : Int) (by omega), IntWalk.i64_in (at_ + 1) (by omega), IntWalk.i64_in (at_ + 1 + _) (by omega), IntWalk.i64_in (_ - 1) (by omega), endsX.eq_1 s at_.toNat, endsR.eq_1 s at_.toNat, dif_pos hk, dif_pos hk]
    by_cases c3 : byN s at_.toNat = 0
    · rw [if_pos c3, if_pos c3]
      refine Tr.all_t (beq_iff_eq.2 (by omega)) (Tr.all_ret (.inl ?_))
      have : (at_ == (s.length : Int) - 1) = decide (at_.toNat = s.length - 1) := by
        rw [Bool.eq_iff_iff]
        simp
        omega
      rw [this]
      rfl
    rw [if_neg c3, if_neg c3]
    refine Tr.all_f (beq_eq_false_iff_ne.2 (by omega)) (Tr.all_t (dec_true (by omega)) (Tr.all_t (dec_true (by omega)) (Tr.all_ret (.inr ⟨_, rfl, ⟨by omega, ?_, ?_⟩, by omega⟩))))
    · rw [← h2, endsX.eq_1 s at_.toNat, dif_pos hk, if_neg c3, show (at_ + 1 + (byN s at_.toNat : Int)).toNat = at_.toNat + 1 + byN s at_.toNat by omega]
    · rw [← h3, endsR.eq_1 s at_.toNat, dif_pos hk, if_neg c3, show (at_ + 1 + (byN s at_.toNat : Int)).toNat = at_.toNat + 1 + byN s at_.toNat by omega]
  · rw [endsX.eq_1 s at_.toNat, dif_neg hk]
    exact Tr.all_f (dec_false (by omega)) (Tr.all_ret (.inl rfl))
/-- derrickref03.labels -/
def t54 (s : List UInt8) (at_ : Int) : Tr Res := Tr.br (bigS s && decide (at_ = at_)) (Tr.br (lbX3 s at_) (Tr.ret ([AV.str [], AV.int IntKind.i64 (-1 : Int)], [])) (Tr.ret ([AV.str (lbS3 s at_), AV.int IntKind.i64 (lbE3 s at_)], []))) Tr.no
def os54 : OSpec := { f := 54, sh := [.d .str false, .d (.int .i64) false], so := [], F := fun (s, at_, _) _ => t54 s at_ }
set_option maxRecDepth 1000000 in
theorem fn54 (s : List UInt8) (at_ : Int) : evC T0 (orcB [] []) (lpOf h54 0 (lsOf [ls54])) c54 1000000 (startSt [.str s, .int .i64 at_] [] Try.f54.ntmps) (finishK T0 false 0 Try.f54) = (t54 s at_).get := by kernel_rfl
theorem ok54 : os54.Ok Try.prog := by
  refine os_ok mixed0 tab0 (orcB_sound all_nil all_nil) h54 (d := 0) (n0 := 0) (S := lsOf [ls54]) Try.func54 (by kernel_rfl) (c := c54) (by kernel_rfl) rfl (loops_eq (xs := [(0, b54)]) (by kernel_rfl) (all_cons (ls_here (loop54 _)) all_nil)) (by omega) (by kernel_rfl) ?_
  intro x'' y'' q'' hq''
  obtain ⟨(s : List UInt8), (at_ : Int), _⟩ := x''
  exact (fn54 s at_).trans hq''
def fs54 : FSpec := fsT 54 [(.str, false), ((.int .i64), false)] [(.str, false), ((.int .i64), false)] fun (s, at_, _) => t54 s at_
theorem okf54 : fs54.Ok Try.prog := fsT_ok fun x'' r'' hr'' => ok54 x'' () r'' hr''
/-- derrickref03.ends -/
def t55 (s : List UInt8) : Tr Res := Tr.br (bigS s && decide ((0 : Int) = (0 : Ty.den (Ty.int IntKind.i64)))) (Tr.br (endsX s 0) (Tr.ret ([AV.bool false], [])) (Tr.ret ([AV.bool (endsR s 0)], []))) Tr.no
def os55 : OSpec := { f := 55, sh := [.d .str false], so := [], F := fun (s, _) _ => t55 s }
set_option maxRecDepth 1000000 in
theorem fn55 (s : List UInt8) : evC T0 (orcB [] []) (lpOf h55 0 (lsOf [ls55])) c55 1000000 (startSt [.str s] [] Try.f55.ntmps) (finishK T0 false 0 Try.f55) = (t55 s).get := by kernel_rfl
theorem ok55 : os55.Ok Try.prog := by
  refine os_ok mixed0 tab0 (orcB_sound all_nil all_nil) h55 (d := 0) (n0 := 0) (S := lsOf [ls55]) Try.func55 (by kernel_rfl) (c := c55) (by kernel_rfl) rfl (loops_eq (xs := [(0, b55)]) (by kernel_rfl) (all_cons (ls_here (loop55 _)) all_nil)) (by omega) (by kernel_rfl) ?_
  intro x'' y'' q'' hq''
  obtain ⟨(s : List UInt8), _⟩ := x''
  exact (fn55 s).trans hq''
def fs55 : FSpec := fsT 55 [(.str, false)] [(.bool, false)] fun (s, _) => t55 s
theorem okf55 : fs55.Ok Try.prog := fsT_ok fun x'' r'' hr'' => ok55 x'' () r'' hr''
def fs54w : FSpec := fs54.like fun (s, a, _) => .on (bigS s) (lbS3 s a, lbE3 s a, ())
theorem okf54w : fs54w.Ok Try.prog := by
  refine flike_ok okf54 _ ?_
  rintro ⟨(s : List UInt8), (a : Int), _⟩ y h
  obtain ⟨hb, rfl⟩ := Tr.get_on h
  refine convR_of (vs := [.str (lbS3 s a), .int .i64 (lbE3 s a)]) rfl rfl (Tr.get_of_all ?_)
  show (t54 s a).all _
  refine Tr.all_t (by simp [hb]) (Tr.all_br (fun c1 => Tr.all_ret ?_) fun c1 => Tr.all_ret rfl)
  unfold lbX3 at c1
  unfold lbS3 lbE3
  by_cases h0 : a < 0
  · rw [if_pos h0, if_pos h0]
  · rw [decide_eq_false h0, Bool.false_or] at c1
    rw [if_neg h0, if_neg h0, labX_E _ _ rfl c1]
def fs55w : FSpec := fs55.like fun (s, _) => .on (bigS s) (endsR s 0, ())
theorem okf55w : fs55w.Ok Try.prog := by
  refine flike_ok okf55 _ ?_
  rintro ⟨(s : List UInt8), _⟩ y h
  obtain ⟨hb, rfl⟩ := Tr.get_on h
  refine convR_of (vs := [.bool (endsR s 0)]) rfl rfl (Tr.get_of_all ?_)
  show (t55 s).all _
  refine Tr.all_t (by rw [hb]; rfl) (Tr.all_br (fun c1 => Tr.all_ret ?_) fun c1 => Tr.all_ret rfl)
  rw [endsX_R _ _ rfl c1]
noncomputable def b28 : Code := nthLoop c28 0
def ls28 : LoopSpec := { bid := 0, sh := [.d .str false, .d (.int .i64) false, .d .str false, .d (.int .i64) false], so := [], F := fun (s, at_, n, behind, _) _ => .on2 (bigS s && nilS n) ((tk3 s at_ behind n).1) (.exit 0, [.dead, .dead, .dead, .str (tk3 s at_ behind n).2.1, .int .i64 (tk3 s at_ behind n).2.2], []) (.ret, [.str [], .int .i64 0, .int .i64 2, .str (tk3 s at_ behind n).2.1, .int .i64 (tk3 s at_ behind n).2.2], []) }
def r28 (s : List UInt8) (at_ : Int) (n : List UInt8) (behind : Int) : Tr (St ⊕ (Ex × St)) := Tr.br (bigS s) (Tr.br (decide (lbE3 s at_ < (0 : Int))) (Tr.ret (Sum.inr (Ex.ret, stOf [4, 5, 6, 7, 8] [AV.str [], AV.int IntKind.i64 (0 : Int), AV.int IntKind.i64 (2 : Int), AV.str n, AV.int IntKind.i64 behind] []))) (Tr.br (Nat.ble (List.length n + List.length (lbS3 s at_)) 9223372036854775807) (Tr.br (!lbS3 s at_ == []) (Tr.br (decide ((0 : Int) ≤ IntKind.wrap IntKind.i64 ((↑(List.length (lbS3 s at_)) : Int) - (1 : Int)))) (Tr.br (decide (IntKind.wrap IntKind.i64 ((↑(List.length (lbS3 s at_)) : Int) - (1 : Int)) < (↑(List.length (lbS3 s at_)) : Int))) (Tr.br ((↑(UInt8.toNat (List.getD (lbS3 s at_) (Int.toNat (IntKind.wrap IntKind.i64 ((↑(List.length (lbS3 s at_)) : Int) - (1 : Int)))) 0)) : Int) == (0 : Int)) (Tr.br (bigS (lbS3 s at_)) (Tr.br (endsR (lbS3 s at_) 0) (Tr.br (decide (behind < (0 : Int))) (Tr.ret (Sum.inr (Ex.exit 0, stOf [4, 5, 6, 7, 8] [AV.dead, AV.dead, AV.dead, AV.str (n ++ lbS3 s at_), AV.int IntKind.i64 (lbE3 s at_)] []))) (Tr.ret (Sum.inr (Ex.exit 0, stOf [4, 5, 6, 7, 8] [AV.dead, AV.dead, AV.dead, AV.str (n ++ lbS3 s at_), AV.int IntKind.i64 behind] [])))) (Tr.br (bigS s) (Tr.br (someB s (lbE3 s at_) (2 : Int)) (Tr.br (decide (Int.tmod (IntKind.wrap IntKind.i64 (n16 s (lbE3 s at_))) (16384 : Int) ≥ at_)) (Tr.ret (Sum.inr (Ex.ret, stOf [4, 5, 6, 7, 8] [AV.str [], AV.int IntKind.i64 (0 : Int), AV.int IntKind.i64 (2 : Int), AV.str (n ++ lbS3 s at_), AV.int IntKind.i64 behind] []))) (Tr.br (decide (behind < (0 : Int))) (Tr.ret (Sum.inl (stOf [0, 1, 7, 8] [AV.str s, AV.int IntKind.i64 (Int.tmod (IntKind.wrap IntKind.i64 (n16 s (lbE3 s at_))) (16384 : Int)), AV.str (n ++ lbS3 s at_), AV.int IntKind.i64 (lbE3 s at_ + (2 : Ty.den (Ty.int IntKind.i64)))] []))) (Tr.ret (Sum.inl (stOf [0, 1, 7, 8] [AV.str s, AV.int IntKind.i64 (Int.tmod (IntKind.wrap IntKind.i64 (n16 s (lbE3 s at_))) (16384 : Int)), AV.str (n ++ lbS3 s at_), AV.int IntKind.i64 behind] []))))) (Tr.ret (Sum.inr (Ex.ret, stOf [4, 5, 6, 7, 8] [AV.str [], AV.int IntKind.i64 (0 : Int), AV.int IntKind.i64 (2 : Int), AV.str (n ++ lbS3 s at_), AV.int IntKind.i64 behind] [])))) Tr.no)) Tr.no) (Tr.br (bigS s) (Tr.br (someB s (lbE3 s at_) (2 : Int)) (Tr.br (decide (Int.tmod (IntKind.wrap IntKind.i64 (n16 s (lbE3 s at_))) (16384 : Int) ≥ at_)) (Tr.ret (Sum.inr (Ex.ret, stOf [4, 5, 6, 7, 8] [AV.str [], AV.int IntKind.i64 (0 : Int), AV.int IntKind.i64 (2 : Int), AV.str (n ++ lbS3 s at_), AV.int IntKind.i64 behind] []))) (Tr.br (decide (behind < (0 : Int))) (Tr.ret (Sum.inl (stOf [0, 1, 7, 8] [AV.str s, AV.int IntKind.i64 (Int.tmod (IntKind.wrap IntKind.i64 (n16 s (lbE3 s at_))) (16384 : Int)), AV.str (n ++ lbS3 s at_), AV.int IntKind.i64 (lbE3 s at_ + (2 : Ty.den (Ty.int IntKind.i64)))] []))) (Tr.ret (Sum.inl (stOf [0, 1, 7, 8] [AV.str s, AV.int IntKind.i64 (Int.tmod (IntKind.wrap IntKind.i64 (n16 s (lbE3 s at_))) (16384 : Int)), AV.str (n ++ lbS3 s at_), AV.int IntKind.i64 behind] []))))) (Tr.ret (Sum.inr (Ex.ret, stOf [4, 5, 6, 7, 8] [AV.str [], AV.int IntKind.i64 (0 : Int), AV.int IntKind.i64 (2 : Int), AV.str (n ++ lbS3 s at_), AV.int IntKind.i64 behind] [])))) Tr.no)) Tr.no) Tr.no) (Tr.br (bigS s) (Tr.br (someB s (lbE3 s at_) (2 : Int)) (Tr.br (decide (Int.tmod (IntKind.wrap IntKind.i64 (n16 s (lbE3 s at_))) (16384 : Int) ≥ at_)) (Tr.ret (Sum.inr (Ex.ret, stOf [4, 5, 6, 7, 8] [AV.str [], AV.int IntKind.i64 (0 : Int), AV.int IntKind.i64 (2 : Int), AV.str (n ++ lbS3 s at_), AV.int IntKind.i64 behind] []))) (Tr.br (decide (behind < (0 : Int))) (Tr.ret (Sum.inl (stOf [0, 1, 7, 8] [AV.str s, AV.int IntKind.i64 (Int.tmod (IntKind.wrap IntKind.i64 (n16 s (lbE3 s at_))) (16384 : Int)), AV.str (n ++ lbS3 s at_), AV.int IntKind.i64 (lbE3 s at_ + (2 : Ty.den (Ty.int IntKind.i64)))] []))) (Tr.ret (Sum.inl (stOf [0, 1, 7, 8] [AV.str s, AV.int IntKind.i64 (Int.tmod (IntKind.wrap IntKind.i64 (n16 s (lbE3 s at_))) (16384 : Int)), AV.str (n ++ lbS3 s at_), AV.int IntKind.i64 behind] []))))) (Tr.ret (Sum.inr (Ex.ret, stOf [4, 5, 6, 7, 8] [AV.str [], AV.int IntKind.i64 (0 : Int), AV.int IntKind.i64 (2 : Int), AV.str (n ++ lbS3 s at_), AV.int IntKind.i64 behind] [])))) Tr.no)) Tr.no)) Tr.no
set_option maxRecDepth 1000000 in
theorem round28 (lp : Lp) (s : List UInt8) (at_ : Int) (n : List UInt8) (behind : Int) : evC T0 (orcB [fs54w, fs55w, fs56w, fs57w] []) lp b28 0 (stOf [0, 1, 7, 8] [.str s, .int .i64 at_, .str n, .int .i64 behind] []) (roundK [0, 1, 7, 8] [4, 5, 6, 7, 8] 0) = (r28 s at_ n behind).get := by kernel_rfl
theorem wf28 (s : List UInt8) (I'' : Int → List UInt8 → Int → Prop) (m'' : Int → List UInt8 → Int → Nat) (r'' : Ex × St) (h : ∀ (at_ : Int) (n : List UInt8) (behind : Int), I'' at_ n behind → (r28 s at_ n behind).all fun x'' => x'' = .inr r'' ∨ ∃ (at_' : Int) (n' : List UInt8) (behind' : Int), x'' = .inl (stOf [0, 1, 7, 8] [.str s, .int .i64 at_', .str n', .int .i64 behind'] []) ∧ I'' at_' n' behind' ∧ m'' at_' n' behind' < m'' at_ n behind) (lp : Lp) (at_ : Int) (n : List UInt8) (behind : Int) : I'' at_ n behind →
    loopF (fun st => evC T0 (orcB [fs54w, fs55w, fs56w, fs57w] []) lp b28 0 st (roundK [0, 1, 7, 8] [4, 5, 6, 7, 8] 0)) (stOf [0, 1, 7, 8] [.str s, .int .i64 at_, .str n, .int .i64 behind] []) = some r'' :=
  loop_tr (fun a'' : Int × List UInt8 × Int => stOf [0, 1, 7, 8] [.str s, .int .i64 a''.1, .str a''.2.1, .int .i64 a''.2.2] []) (fun a'' => I'' a''.1 a''.2.1 a''.2.2) (fun a'' => m'' a''.1 a''.2.1 a''.2.2) r'' (fun a'' => r28 s a''.1 a''.2.1 a''.2.2)
    (fun a'' x hx => (round28 lp s a''.1 a''.2.1 a''.2.2).trans hx) (fun a'' ha => Tr.all_mono (fun x'' hx => hx.imp id fun ⟨at_', n', behind', h1, h2, h3⟩ => ⟨(at_', n', behind'), h1, h2, h3⟩) (h (a''.1) (a''.2.1) (a''.2.2) ha)) (at_, n, behind)
def tk3I (s : List UInt8) (a0 b0 : Int) (n0 : List UInt8) (a : Int) (n : List UInt8) (b : Int) : Prop := (n = [] ∨ 0 ≤ a ∧ a < 16384 ∧ (n.length : Int) ≤ 1000000000000 * (16385 - a)) ∧ tk3 s a b n = tk3 s a0 b0 n0
theorem loop28 : ls28.Ok T0 (orcB [fs54w, fs55w, fs56w, fs57w] []) h28 0 0 b28 := by
  intro q'' hq'' x'' y'' r'' h
  obtain ⟨(s : List UInt8), (at_ : Int), (n : List UInt8), (behind : Int), _⟩ := x''
  obtain ⟨hc, rfl⟩ := Tr.get_on2 h
  show loopF (fun st => evC T0 (orcB [fs54w, fs55w, fs56w, fs57w] []) (lpN T0 (orcB [fs54w, fs55w, fs56w, fs57w] []) h28 0 q'') b28 0 st (roundK [0, 1, 7, 8] [4, 5, 6, 7, 8] 0)) (stOf [0, 1, 7, 8] [.str s, .int .i64 at_, .str n, .int .i64 behind] []) = some ((bif (tk3 s at_ behind n).1 then (.exit 0, [.dead, .dead, .dead, .str (tk3 s at_ behind n).2.1, .int .i64 (tk3 s at_ behind n).2.2], []) else (.ret, [.str [], .int .i64 0, .int .i64 2, .str (tk3 s at_ behind n).2.1, .int .i64 (tk3 s at_ behind n).2.2], []) : Ex × List AV × List LObj).1, stOf [4, 5, 6, 7, 8] (bif (tk3 s at_ behind n).1 then (.exit 0, [.dead, .dead, .dead, .str (tk3 s at_ behind n).2.1, .int .i64 (tk3 s at_ behind n).2.2], []) else (.ret, [.str [], .int .i64 0, .int .i64 2, .str (tk3 s at_ behind n).2.1, .int .i64 (tk3 s at_ behind n).2.2], []) : Ex × List AV × List LObj).2.1 (bif (tk3 s at_ behind n).1 then (.exit 0, [.dead, .dead, .dead, .str (tk3 s at_ behind n).2.1, .int .i64 (tk3 s at_ behind n).2.2], []) else (.ret, [.str [], .int .i64 0, .int .i64 2, .str (tk3 s at_ behind n).2.1, .int .i64 (tk3 s at_ behind n).2.2], []) : Ex × List AV × List LObj).2.2)
  simp only [Bool.and_eq_true, nilS, List.isEmpty_iff] at hc
  obtain ⟨hb, hn⟩ := hc
  refine wf28 s (tk3I s at_ behind n) (fun a _ _ => a.toNat) _ ?_ _ at_ n behind ⟨.inl hn, rfl⟩
  clear hn
  rintro a n' b' ⟨h1, h2⟩
  rw [← h2]
  have hB : s.length ≤ 1000000000000 := by simpa [bigS] using hb
  unfold r28
  refine Tr.all_t hb ?_
  by_cases h0 : a < 0
  · rw [show lbE3 s a = -1 by simp [lbE3, h0], show tk3 s a b' n' = (false, n', b') by simp [tk3, h0]]
    exact Tr.all_t rfl (Tr.all_ret (.inl rfl))
  have hto : ((a.toNat : Nat) : Int) = a := Int.toNat_of_nonneg (by omega)
  have ht : tk3 s a b' n' = takeS s a.toNat b' n' := by simp [tk3, h0]
  cases hL : labE s a.toNat with
  | none =>
    rw [show lbE3 s a = -1 by simp [lbE3, h0, hL], ht, takeS.eq_1, hL]
    exact Tr.all_t rfl (Tr.all_ret (.inl rfl))
  | some p =>
    obtain ⟨e, r⟩ := p
    have hge := labE_ge _ _ e r rfl hL
    have hsl := sub_len (s := s) hge.1 hge.2.1
    have hE : lbE3 s a = e := by simp [lbE3, h0, hL]
    have hS : lbS3 s a = sub s a.toNat e := by simp [lbS3, h0, hL]
    have hend := endsR_lab (s := s) _ a.toNat a.toNat e r rfl (Nat.le_refl _) hL
    rw [Nat.sub_self] at hend
    rw [hE, hS, ht, takeS.eq_1, hL]
    have hnl : n'.length + (sub s a.toNat e).length ≤ 9223372036854775807 := by
      rw [hsl]
      rcases h1 with rfl | h1
      · simp; omega
      · omega
    refine Tr.all_f (dec_false (by omega)) (Tr.all_t (Nat.ble_eq_true_of_le hnl) ?_)
    have hbs : bigS (sub s a.toNat e) = true := by simp [bigS, hsl]; omega
    have hwi : IntKind.wrap IntKind.i64 ((List.length (sub s a.toNat e) : Int) - 1) = (List.length (sub s a.toNat e) : Int) - 1 := IntWalk.i64_in _ (by omega)
    rw [hwi]
    cases r with
    | true =>
      have hlt := (hge.2.2 rfl).1
      have hlast : (↑(UInt8.toNat (List.getD (sub s a.toNat e) (Int.toNat ((List.length (sub s a.toNat e) : Int) - 1)) 0)) : Int) = 0 := by
        have : byN (sub s a.toNat e) (e - a.toNat - 1) = 0 := by rw [sub_get (by omega) hge.2.1, show a.toNat + (e - a.toNat - 1) = e - 1 by omega]; exact (hge.2.2 rfl).2
        rw [show Int.toNat ((List.length (sub s a.toNat e) : Int) - 1) = e - a.toNat - 1 by rw [hsl]; omega]
        have h3 : (List.getD (sub s a.toNat e) (e - a.toNat - 1) 0).toNat = 0 := this
        omega
      refine Tr.all_t ?_ (Tr.all_t (dec_true (by omega)) (Tr.all_t (dec_true (by omega)) (Tr.all_t (beq_iff_eq.2 hlast) (Tr.all_t hbs (Tr.all_t hend (Tr.all_br (fun c1 => Tr.all_ret (.inl ?_)) fun c1 => Tr.all_ret (.inl ?_)))))))
      · cases hq : sub s a.toNat e with
        | nil => rw [hq] at hsl; simp at hsl; omega
        | cons _ _ => rfl
      · simp only [decide_eq_true_eq] at c1
        simp only [if_pos c1]
        rfl
      · simp only [decide_eq_false_iff_not] at c1
        simp only [if_neg c1]
        rfl
    | false =>
      have hm : Int.tmod (IntKind.wrap IntKind.i64 (n16 s (e : Int))) 16384 = toT s (e : Int) := by
        have := n16_in s (e : Int)
        rw [IntWalk.i64_in _ (by omega), Int.tmod_eq_emod_of_nonneg this.1]
        rfl
      have hti := toT_in s (e : Int)
      rw [hm]
      refine Tr.all_br (fun c0 => Tr.all_t (dec_true ?_) (Tr.all_t (dec_true (by omega)) (Tr.all_br (fun _ => Tr.all_t hbs (Tr.all_f hend ?_)) fun _ => ?_))) fun _ => ?_
      · cases hq : sub s a.toNat e with
        | nil => rw [hq] at c0; cases c0
        | cons _ _ => simp
      all_goals
        by_cases h3 : e + 2 ≤ s.length ∧ toT s (e : Int) < (a.toNat : Int)
        · simp only [dif_pos h3]
          have hstep : tk3 s (toT s (e : Int)) (if b' < 0 then (e : Int) + 2 else b') (n' ++ sub s a.toNat e) = tk3 s at_ behind n := by
            rw [← h2, ht, takeS.eq_1 s a.toNat, hL]
            simp only [dif_pos h3]
            unfold tk3
            rw [if_neg (by omega)]
          have hl2 : ((n' ++ sub s a.toNat e).length : Int) ≤ 1000000000000 * (16385 - toT s (e : Int)) := by
            rw [List.length_append, hsl]
            rcases h1 with rfl | h1
            · simp; omega
            · omega
          refine Tr.all_t hb (Tr.all_t (someB_nat.2 (by omega : e + 2 ≤ s.length)) (Tr.all_f (dec_false (by omega)) (Tr.all_br (fun c1 => Tr.all_ret (.inr ?_)) fun c1 => Tr.all_ret (.inr ?_))))
          · simp only [decide_eq_true_eq] at c1
            rw [if_pos c1] at hstep
            exact ⟨_, _, _, rfl, ⟨.inr ⟨by omega, by omega, hl2⟩, hstep⟩, by omega⟩
          · simp only [decide_eq_false_iff_not] at c1
            rw [if_neg c1] at hstep
            exact ⟨_, _, _, rfl, ⟨.inr ⟨by omega, by omega, hl2⟩, hstep⟩, by omega⟩
        · simp only [dif_neg h3]
          cases h4 : someB s (e : Int) 2 with
          | false => exact Tr.all_t hb (Tr.all_f rfl (Tr.all_ret (.inl rfl)))
          | true =>
            have := (someB_nat (m := 2)).1 h4
            exact Tr.all_t hb (Tr.all_t rfl (Tr.all_t (dec_true (by omega)) (Tr.all_ret (.inl rfl))))
/-- derrickref03.Take -/
def t28 (s : List UInt8) (at_ : Int) : Tr Res := Tr.br (bigS s && nilS ([])) (Tr.br (Prod.fst (tk3 s at_ (-1 : Int) ([]))) (Tr.br (decide ((↑(List.length (Prod.fst (Prod.snd (tk3 s at_ (-1 : Int) ([]))))) : Int) > (255 : Int))) (Tr.ret ([AV.str [], AV.int IntKind.i64 (0 : Int), AV.int IntKind.i64 (2 : Int)], [])) (Tr.br (bigS (Prod.fst (Prod.snd (tk3 s at_ (-1 : Int) ([]))))) (Tr.ret ([AV.str (foldB (Prod.fst (Prod.snd (tk3 s at_ (-1 : Int) ([]))))), AV.int IntKind.i64 (Prod.snd (Prod.snd (tk3 s at_ (-1 : Int) ([])))), AV.int IntKind.i64 (0 : Int)], [])) Tr.no)) (Tr.ret ([AV.str [], AV.int IntKind.i64 (0 : Int), AV.int IntKind.i64 (2 : Int)], []))) Tr.no
def os28 : OSpec := { f := 28, sh := [.d .str false, .d (.int .i64) false], so := [], F := fun (s, at_, _) _ => t28 s at_ }
set_option maxRecDepth 1000000 in
theorem fn28 (s : List UInt8) (at_ : Int) : evC T0 (orcB [fs54w, fs55w, fs56w, fs57w] []) (lpOf h28 0 (lsOf [ls28])) c28 1000000 (startSt [.str s, .int .i64 at_] [] Try.f28.ntmps) (finishK T0 false 0 Try.f28) = (t28 s at_).get := by kernel_rfl
theorem ok28 : os28.Ok Try.prog := by
  refine os_ok mixed0 tab0 (orcB_sound (all_cons okf54w (all_cons okf55w (all_cons okf56w (all_cons okf57w all_nil)))) all_nil) h28 (d := 0) (n0 := 0) (S := lsOf [ls28]) Try.func28 (by kernel_rfl) (c := c28) (by kernel_rfl) rfl (loops_eq (xs := [(0, b28)]) (by kernel_rfl) (all_cons (ls_here loop28) all_nil)) (by omega) (by kernel_rfl) ?_
  intro x'' y'' q'' hq''
  obtain ⟨(s : List UInt8), (at_ : Int), _⟩ := x''
  exact (fn28 s at_).trans hq''
def fs28 : FSpec := fsT 28 [(.str, false), ((.int .i64), false)] [(.str, false), ((.int .i64), false), ((.int .i64), false)] fun (s, at_, _) => t28 s at_
theorem okf28 : fs28.Ok Try.prog := fsT_ok fun x'' r'' hr'' => ok28 x'' () r'' hr''
def fs28w : FSpec := fs28.like fun (s, at_, _) => .on (bigS s) (tkS (takeG s at_ at_ (-1) []), tkN (takeG s at_ at_ (-1) []), tkE (takeG s at_ at_ (-1) []), ())
theorem okf28w : fs28w.Ok Try.prog := by
  refine flike_ok okf28 _ ?_
  rintro ⟨(s : List UInt8), (at_ : Int), _⟩ y h
  obtain ⟨hb, rfl⟩ := Tr.get_on h
  refine convR_of (vs := resT (takeG s at_ at_ (-1) [])) rfl rfl (Tr.get_of_all ?_)
  show (t28 s at_).all _
  rw [tk3_G]
  refine Tr.all_t (by rw [hb]; rfl) (Tr.all_br (fun c1 => Tr.all_br (fun c2 => Tr.all_ret ?_) fun c2 => Tr.all_t ?_ (Tr.all_ret ?_)) fun c1 => Tr.all_ret ?_)
  · simp only [decide_eq_true_eq] at c2
    rw [c1, cond_true, if_neg (by omega)]
    rfl
  · simp only [decide_eq_false_iff_not] at c2
    simp [bigS]
    omega
  · simp only [decide_eq_false_iff_not] at c2
    rw [c1, cond_true, if_pos (by omega)]
    rfl
  · rw [c1]
    rfl
end Go.Proofs.YtfepkpindchleaaE
