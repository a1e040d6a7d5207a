import Derived.Test.YtpledbapngdkeaaPAskPackets4
import Derived.Test.YtpledbapngdkeaaRows
import Derived.WalkKit
import Derived.ProofKit
import Derived.OpenShut
import Derived.ShutString
import Derived.ChangeOld
import Derived.Below
import Derived.Carry
import Derived.SizedLaws
set_option maxRecDepth 1000000
namespace Go.Proofs.YtpledbapngdkeaaE
open Go Go.Proofs.YtpledbapngdkeaaB
set_option linter.unusedVariables false
set_option linter.unusedSimpArgs false
def alC (l : List RRt) (i : Int) : Bool := Nat.ble l.length 1000000 && (l.all rrBig && decide (i = 0))
noncomputable def b106 : Code := nthLoop c106 0
def ls106 : LoopSpec := { bid := 0, sh := [.d (.list RR) false, .d (.int .i64) false], so := [], F := fun (l, i, _) _ => .on2 (alC l i) (!l.any noR) (.exit 0, [.list RR l, .dead], []) (.ret, [.list RR l, .bool false], []) }
def r106 (l : List RRt) (i : Int) : Tr (St ⊕ (Ex × St)) := .br (decide (i < (↑l.length : Int))) (.br (decide (0 ≤ i)) (.br (decide (i < (↑l.length : Int))) (.br (rrBig (l.getD i.toNat (Ty.dflt RR))) (.br (!recV (l.getD i.toNat (Ty.dflt RR))) (.ret (.inr (.ret, stOf [0, 2] [.list RR l, .bool false] []))) (.ret (.inl (stOf [0, 3] [.list RR l, .int .i64 (IntKind.wrap .i64 (i + 1))] [])))) .no) .no) .no) (.ret (.inr (.exit 0, stOf [0, 2] [.list RR l, .dead] [])))
theorem round106 (lp : Lp) (l : List RRt) (i : Int) : evC T0 (orcB [fs127w, fs105w] []) lp b106 0 (stOf [0, 3] [.list RR l, .int .i64 i] []) (roundK [0, 3] [0, 2] 0) = (r106 l i).get := by kernel_rfl
theorem wf106 (l : List RRt) (I'' : Int → Prop) (m'' : Int → Nat) (r'' : Ex × St) (h : ∀ (i : Int), I'' i → (r106 l i).all fun x'' => x'' = .inr r'' ∨ ∃ (i' : Int), x'' = .inl (stOf [0, 3] [.list RR l, .int .i64 i'] []) ∧ I'' i' ∧ m'' i' < m'' i) (lp : Lp) (i : Int) : I'' i →
    loopF (fun st => evC T0 (orcB [fs127w, fs105w] []) lp b106 0 st (roundK [0, 3] [0, 2] 0)) (stOf [0, 3] [.list RR l, .int .i64 i] []) = some r'' :=
 loop_tr (fun a'' : Int => stOf [0, 3] [.list RR l, .int .i64 a''] []) (fun a'' => I'' a'') (fun a'' => m'' a'') r'' (fun a'' => r106 l a'')
  (fun a'' x hx => (round106 lp l a'').trans hx) (fun a'' ha => Tr.all_mono (fun x'' hx => hx.imp id fun ⟨i', h1, h2, h3⟩ => ⟨(i'), h1, h2, h3⟩) (h (a'') ha)) (i)
def mqC (q : List QQt) (i : Int) : Bool := Nat.ble q.length 1000000 && (q.all bigQ && decide (i = 0))
noncomputable def b74x : Code := nthLoop c74 0
def ls74x : LoopSpec := { bid := 0, sh := [.ptr 0 0, .d (.int .i64) false], so := [.box [.d (.int .u16) false, .d .bool false, .d .bool false, .d .bool false, .d .bool false, .d .bool false, .d (.int .i64) false, .d (.int .i64) false, .d (.list QQ) false, .d (.list RR) false, .d (.list RR) false, .d (.list RR) false]], F := fun (i, _) ((mi, mqr, maa, mtc, mrd, mra, mop, mrc, mq, man, mns, mar, _), _) => .on2 (mqC mq i) (!mq.any noQ) (.exit 0, [.ptr 0 0, .dead], [.box [.int .u16 mi, .bool mqr, .bool maa, .bool mtc, .bool mrd, .bool mra, .int .i64 mop, .int .i64 mrc, .list QQ mq, .list RR man, .list RR mns, .list RR mar]]) (.ret, [.ptr 0 0, .bool false], [.box [.int .u16 mi, .bool mqr, .bool maa, .bool mtc, .bool mrd, .bool mra, .int .i64 mop, .int .i64 mrc, .list QQ mq, .list RR man, .list RR mns, .list RR mar]]) }
def r74x (i mi : Int) (mqr maa mtc mrd mra : Bool) (mop mrc : Int) (mq : List QQt) (man mns mar : List RRt) : Tr (St ⊕ (Ex × St)) := .br (decide (i < (↑mq.length : Int))) (.br (decide (0 ≤ i)) (.br (decide (i < (↑mq.length : Int))) (.br (bigS (mq.getD i.toNat (Ty.dflt QQ)).1) (.br (!mayV (mq.getD i.toNat (Ty.dflt QQ)).1) (.ret (.inr (.ret, stOf [1, 2] [.ptr 0 0, .bool false] [.boxT none [.int .u16 mi, .bool mqr, .bool maa, .bool mtc, .bool mrd, .bool mra, .int .i64 mop, .int .i64 mrc, .list QQ mq, .list RR man, .list RR mns, .list RR mar]]))) (.ret (.inl (stOf [1, 3] [.ptr 0 0, .int .i64 (IntKind.wrap .i64 (i + 1))] [.boxT none [.int .u16 mi, .bool mqr, .bool maa, .bool mtc, .bool mrd, .bool mra, .int .i64 mop, .int .i64 mrc, .list QQ mq, .list RR man, .list RR mns, .list RR mar]])))) .no) .no) .no) (.ret (.inr (.exit 0, stOf [1, 2] [.ptr 0 0, .dead] [.boxT none [.int .u16 mi, .bool mqr, .bool maa, .bool mtc, .bool mrd, .bool mra, .int .i64 mop, .int .i64 mrc, .list QQ mq, .list RR man, .list RR mns, .list RR mar]])))
theorem round74x (lp : Lp) (i mi : Int) (mqr maa mtc mrd mra : Bool) (mop mrc : Int) (mq : List QQt) (man mns mar : List RRt) : evC T0 (orcB [fs127w, fs105w] []) lp b74x 0 (stOf [1, 3] [.ptr 0 0, .int .i64 i] [.box [.int .u16 mi, .bool mqr, .bool maa, .bool mtc, .bool mrd, .bool mra, .int .i64 mop, .int .i64 mrc, .list QQ mq, .list RR man, .list RR mns, .list RR mar]]) (roundK [1, 3] [1, 2] 0) = (r74x i mi mqr maa mtc mrd mra mop mrc mq man mns mar).get := by kernel_rfl
theorem wf74x (mi : Int) (mqr maa mtc mrd mra : Bool) (mop mrc : Int) (mq : List QQt) (man mns mar : List RRt) (I'' : Int → Prop) (m'' : Int → Nat) (r'' : Ex × St) (h : ∀ (i : Int), I'' i → (r74x i mi mqr maa mtc mrd mra mop mrc mq man mns mar).all fun x'' => x'' = .inr r'' ∨ ∃ (i' : Int), x'' = .inl (stOf [1, 3] [.ptr 0 0, .int .i64 i'] [.box [.int .u16 mi, .bool mqr, .bool maa, .bool mtc, .bool mrd, .bool mra, .int .i64 mop, .int .i64 mrc, .list QQ mq, .list RR man, .list RR mns, .list RR mar]]) ∧ I'' i' ∧ m'' i' < m'' i) (lp : Lp) (i : Int) : I'' i →
    loopF (fun st => evC T0 (orcB [fs127w, fs105w] []) lp b74x 0 st (roundK [1, 3] [1, 2] 0)) (stOf [1, 3] [.ptr 0 0, .int .i64 i] [.box [.int .u16 mi, .bool mqr, .bool maa, .bool mtc, .bool mrd, .bool mra, .int .i64 mop, .int .i64 mrc, .list QQ mq, .list RR man, .list RR mns, .list RR mar]]) = some r'' :=
 loop_tr (fun a'' : Int => stOf [1, 3] [.ptr 0 0, .int .i64 a''] [.box [.int .u16 mi, .bool mqr, .bool maa, .bool mtc, .bool mrd, .bool mra, .int .i64 mop, .int .i64 mrc, .list QQ mq, .list RR man, .list RR mns, .list RR mar]]) (fun a'' => I'' a'') (fun a'' => m'' a'') r'' (fun a'' => r74x a'' mi mqr maa mtc mrd mra mop mrc mq man mns mar)
  (fun a'' x hx => (round74x lp a'' mi mqr maa mtc mrd mra mop mrc mq man mns mar).trans hx) (fun a'' ha => Tr.all_mono (fun x'' hx => hx.imp id fun ⟨i', h1, h2, h3⟩ => ⟨(i'), h1, h2, h3⟩) (h (a'') ha)) (i)
theorem loop106 : ls106.Ok T0 (orcB [fs127w, fs105w] []) h106 0 0 b106 := by
 intro q'' hq'' x'' y'' r'' h
 obtain ⟨(l : List RRt), (i : Int), _⟩ := x''
 obtain ⟨hc, rfl⟩ := Tr.get_on2 h
 show loopF (fun st => evC T0 (orcB [fs127w, fs105w] []) (lpN T0 (orcB [fs127w, fs105w] []) h106 0 q'') b106 0 st (roundK [0, 3] [0, 2] 0)) (stOf [0, 3] [.list RR l, .int .i64 i] []) = some ((bif !l.any noR then (.exit 0, [.list RR l, .dead], []) else (.ret, [.list RR l, .bool false], []) : Ex × List AV × List LObj).1, stOf [0, 2] (bif !l.any noR then (.exit 0, [.list RR l, .dead], []) else (.ret, [.list RR l, .bool false], []) : Ex × List AV × List LObj).2.1 (bif !l.any noR then (.exit 0, [.list RR l, .dead], []) else (.ret, [.list RR l, .bool false], []) : Ex × List AV × List LObj).2.2)
 simp only [alC, Bool.and_eq_true, decide_eq_true_eq, List.all_eq_true] at hc
 obtain ⟨hl, hall, rfl⟩ := hc
 have hl := Nat.le_of_ble_eq_true hl
 refine wf106 l (fun i => 0 ≤ i ∧ i ≤ l.length ∧ (l.drop i.toNat).any noR = l.any noR) (fun i => (l.length - i).toNat) _ ?_ _ 0 ⟨by omega, by omega, rfl⟩
 rintro i ⟨h0, h1, he⟩
 unfold r106
 rw [wrap_succ h0 h1 (by omega)]
 by_cases hi : i < l.length
 · have hx := hall _ (mem_getD5 (l := l) (k := i.toNat) (by omega) (Ty.dflt RR))
   rw [any_next (l := l) (k := i.toNat) (by omega) (Ty.dflt RR)] at he
   generalize l.getD i.toNat (Ty.dflt RR) = x at *
   refine Tr.all_t (dec_true hi) (Tr.all_t (dec_true h0) (Tr.all_t (dec_true hi) (Tr.all_t hx (Tr.all_br (fun c => ?_) fun c => ?_))))
   · rw [show noR x = true from c] at he
     rw [← he]
     exact Tr.all_ret (.inl rfl)
   · rw [show noR x = false from c, Bool.false_or] at he
     exact Tr.all_ret (.inr ⟨_, rfl, ⟨by omega, by omega, by rw [show (i + 1).toNat = i.toNat + 1 by omega]; exact he⟩, by omega⟩)
 · refine Tr.all_f (dec_false hi) (Tr.all_ret (.inl ?_))
   rw [List.drop_eq_nil_of_le (by omega)] at he
   rw [← he]
   rfl
theorem loop74x : ls74x.Ok T0 (orcB [fs127w, fs105w] []) h74 0 0 b74x := by
 intro q'' hq'' x'' y'' r'' h
 obtain ⟨(i : Int), _⟩ := x''
 obtain ⟨⟨(mi : Int), (mqr : Bool), (maa : Bool), (mtc : Bool), (mrd : Bool), (mra : Bool), (mop : Int), (mrc : Int), (mq : List QQt), (man : List RRt), (mns : List RRt), (mar : List RRt), _⟩, _⟩ := y''
 obtain ⟨hc, rfl⟩ := Tr.get_on2 h
 show loopF (fun st => evC T0 (orcB [fs127w, fs105w] []) (lpN T0 (orcB [fs127w, fs105w] []) h74 0 q'') b74x 0 st (roundK [1, 3] [1, 2] 0)) (stOf [1, 3] [.ptr 0 0, .int .i64 i] [.box [.int .u16 mi, .bool mqr, .bool maa, .bool mtc, .bool mrd, .bool mra, .int .i64 mop, .int .i64 mrc, .list QQ mq, .list RR man, .list RR mns, .list RR mar]]) = some ((bif !mq.any noQ then (.exit 0, [.ptr 0 0, .dead], [.box [.int .u16 mi, .bool mqr, .bool maa, .bool mtc, .bool mrd, .bool mra, .int .i64 mop, .int .i64 mrc, .list QQ mq, .list RR man, .list RR mns, .list RR mar]]) else (.ret, [.ptr 0 0, .bool false], [.box [.int .u16 mi, .bool mqr, .bool maa, .bool mtc, .bool mrd, .bool mra, .int .i64 mop, .int .i64 mrc, .list QQ mq, .list RR man, .list RR mns, .list RR mar]]) : Ex × List AV × List LObj).1, stOf [1, 2] (bif !mq.any noQ then (.exit 0, [.ptr 0 0, .dead], [.box [.int .u16 mi, .bool mqr, .bool maa, .bool mtc, .bool mrd, .bool mra, .int .i64 mop, .int .i64 mrc, .list QQ mq, .list RR man, .list RR mns, .list RR mar]]) else (.ret, [.ptr 0 0, .bool false], [.box [.int .u16 mi, .bool mqr, .bool maa, .bool mtc, .bool mrd, .bool mra, .int .i64 mop, .int .i64 mrc, .list QQ mq, .list RR man, .list RR mns, .list RR mar]]) : Ex × List AV × List LObj).2.1 (bif !mq.any noQ then (.exit 0, [.ptr 0 0, .dead], [.box [.int .u16 mi, .bool mqr, .bool maa, .bool mtc, .bool mrd, .bool mra, .int .i64 mop, .int .i64 mrc, .list QQ mq, .list RR man, .list RR mns, .list RR mar]]) else (.ret, [.ptr 0 0, .bool false], [.box [.int .u16 mi, .bool mqr, .bool maa, .bool mtc, .bool mrd, .bool mra, .int .i64 mop, .int .i64 mrc, .list QQ mq, .list RR man, .list RR mns, .list RR mar]]) : Ex × List AV × List LObj).2.2)
 simp only [mqC, Bool.and_eq_true, decide_eq_true_eq, List.all_eq_true] at hc
 obtain ⟨hl, hall, rfl⟩ := hc
 have hl := Nat.le_of_ble_eq_true hl
 refine wf74x mi mqr maa mtc mrd mra mop mrc mq man mns mar (fun i => 0 ≤ i ∧ i ≤ mq.length ∧ (mq.drop i.toNat).any noQ = mq.any noQ) (fun i => (mq.length - i).toNat) _ ?_ _ 0 ⟨by omega, by omega, rfl⟩
 rintro i ⟨h0, h1, he⟩
 unfold r74x
 rw [wrap_succ h0 h1 (by omega)]
 by_cases hi : i < mq.length
 · have hx := hall _ (mem_getD5 (l := mq) (k := i.toNat) (by omega) (Ty.dflt QQ))
   rw [any_next (l := mq) (k := i.toNat) (by omega) (Ty.dflt QQ)] at he
   generalize mq.getD i.toNat (Ty.dflt QQ) = x at *
   refine Tr.all_t (dec_true hi) (Tr.all_t (dec_true h0) (Tr.all_t (dec_true hi) (Tr.all_t hx (Tr.all_br (fun c => ?_) fun c => ?_))))
   · rw [show noQ x = true from c] at he
     rw [← he]
     exact Tr.all_ret (.inl rfl)
   · rw [show noQ x = false from c, Bool.false_or] at he
     exact Tr.all_ret (.inr ⟨_, rfl, ⟨by omega, by omega, by rw [show (i + 1).toNat = i.toNat + 1 by omega]; exact he⟩, by omega⟩)
 · refine Tr.all_f (dec_false hi) (Tr.all_ret (.inl ?_))
   rw [List.drop_eq_nil_of_le (by omega)] at he
   rw [← he]
   rfl
def t106 (l : List RRt) : Tr Res := .br (alC l 0) (.br (!List.any l noR) (.ret ([.bool (decide ((↑l.length : Int) ≤ 65535))], [])) (.ret ([.bool false], []))) .no
def os106 : OSpec := { f := 106, sh := [.d (.list RR) false], so := [], F := fun (l, _) _ => t106 l }
theorem fn106 (l : List RRt) : evC T0 (orcB [fs127w, fs105w] []) (lpOf h106 0 (lsOf [ls106])) c106 1000000 (startSt [.list RR l] [] Try.f106.ntmps) (finishK T0 false 0 Try.f106) = (t106 l).get := by kernel_rfl
theorem ok106 : os106.Ok Try.prog := by
 refine os_ok mixed0 tab0 (orcB_sound (all_cons okf127w (all_cons okf105w all_nil)) all_nil) h106 (d := 0) (n0 := 0) (S := lsOf [ls106]) Try.func106 (by kernel_rfl) (c := c106) (by kernel_rfl) rfl (loops_eq (xs := [(0, b106)]) (by kernel_rfl) (all_cons (ls_here loop106) all_nil)) (by omega) (by kernel_rfl) ?_
 intro x'' y'' q'' hq''
 obtain ⟨(l : List RRt), _⟩ := x''
 exact (fn106 l).trans hq''
def fs106 : FSpec := fsT 106 [((.list RR), false)] [(.bool, false)] fun (l, _) => t106 l
theorem okf106 : fs106.Ok Try.prog := fsT_ok fun x'' r'' hr'' => ok106 x'' () r'' hr''
def goodL (l : List RRt) : Bool := !l.any noR && decide (l.length ≤ 65535)
def fs106w : FSpec := fs106.like fun (l, _) => .on (okL l) (goodL l, ())
theorem okf106w : fs106w.Ok Try.prog := by
 refine flike_ok okf106 _ ?_
 rintro ⟨(l : List RRt), _⟩ y h
 obtain ⟨hb, rfl⟩ := Tr.get_on h
 have hb : okL l = true := hb
 unfold okL at hb
 obtain ⟨h1, h2⟩ := Bool.and_eq_true_iff.1 hb
 refine convR_of (vs := [.bool (goodL l)]) rfl rfl (Tr.get_of_all ?_)
 show (t106 l).all _
 unfold t106 goodL
 refine Tr.all_t (by unfold alC; rw [h1, h2]; rfl) (Tr.all_br (fun c => Tr.all_ret ?_) fun c => Tr.all_ret ?_)
 · rw [c, Bool.true_and, decide_eq_decide.2 (show ((l.length : Int) ≤ 65535) ↔ l.length ≤ 65535 by omega)]
 · rw [c]; rfl
def t74 (m : MGt) : Tr Res := .br (mqC m.2.2.2.2.2.2.2.2.1 0) (.br (!List.any m.2.2.2.2.2.2.2.2.1 noQ) (.br (decide (m.2.2.2.2.2.2.1 ≥ 0)) (.br (decide (m.2.2.2.2.2.2.1 ≤ 15)) (.br (decide (m.2.2.2.2.2.2.2.1 ≥ 0)) (.br (decide (m.2.2.2.2.2.2.2.1 ≤ 15)) (.br (decide ((↑m.2.2.2.2.2.2.2.2.1.length : Int) ≤ 65535)) (.br (okL m.2.2.2.2.2.2.2.2.2.1) (.br (goodL m.2.2.2.2.2.2.2.2.2.1) (.br (okL m.2.2.2.2.2.2.2.2.2.2.1) (.br (goodL m.2.2.2.2.2.2.2.2.2.2.1) (.br (okL m.2.2.2.2.2.2.2.2.2.2.2) (.ret ([.bool (goodL m.2.2.2.2.2.2.2.2.2.2.2)], [])) .no) (.ret ([.bool false], []))) .no) (.ret ([.bool false], []))) .no) (.ret ([.bool false], []))) (.ret ([.bool false], []))) (.ret ([.bool false], []))) (.ret ([.bool false], []))) (.ret ([.bool false], []))) (.ret ([.bool false], []))) .no
def os74 : OSpec := { f := 74, sh := [.d MG true], so := [], F := fun (m, _) _ => t74 m }
theorem fn74 (m : MGt) : evC T0 (orcB [fs127w, fs105w, fs106w] []) (lpOf h74 0 (lsOf [ls74x])) c74 1000000 (startSt [AV.ofTy MG m true] [] Try.f74.ntmps) (finishK T0 false 0 Try.f74) = (t74 m).get := by kernel_rfl
theorem ok74 : os74.Ok Try.prog := by
 refine os_ok mixed0 tab0 (orcB_sound (all_cons okf127w (all_cons okf105w (all_cons okf106w all_nil))) all_nil) h74 (d := 0) (n0 := 0) (S := lsOf [ls74x]) Try.func74 (by kernel_rfl) (c := c74) (by kernel_rfl) rfl (loops_eq (xs := [(0, b74x)]) (by kernel_rfl) (all_cons (ls_here loop74x) all_nil)) (by omega) (by kernel_rfl) ?_
 intro x'' y'' q'' hq''
 obtain ⟨(m : MGt), _⟩ := x''
 exact (fn74 m).trans hq''
def fs74 : FSpec := fsT 74 [(MG, true)] [(.bool, false)] fun (m, _) => t74 m
theorem okf74 : fs74.Ok Try.prog := fsT_ok fun x'' r'' hr'' => ok74 x'' () r'' hr''
def okQ (l : List QQt) : Bool := Nat.ble l.length 1000000 && l.all bigQ
def goodQ (l : List QQt) : Bool := !l.any noQ && decide (l.length ≤ 65535)
def bigM (m : MGt) : Bool := okQ (mQ m) && (okL (mAn m) && (okL (mNs m) && okL (mAr m)))
def mayN (m : MGt) : Bool := decide (0 ≤ m.2.2.2.2.2.2.1) && (decide (m.2.2.2.2.2.2.1 ≤ 15) && (decide (0 ≤ m.2.2.2.2.2.2.2.1) && decide (m.2.2.2.2.2.2.2.1 ≤ 15)))
def mayM (m : MGt) : Bool := mayN m && (goodQ (mQ m) && (goodL (mAn m) && (goodL (mNs m) && goodL (mAr m))))
theorem bigM_iff {m : MGt} : bigM m = true ↔ okQ (mQ m) = true ∧ okL (mAn m) = true ∧ okL (mNs m) = true ∧ okL (mAr m) = true := by
 unfold bigM
 rw [Bool.and_eq_true, Bool.and_eq_true, Bool.and_eq_true]
def fs74w : FSpec := fs74.like fun (m, _) => .on (bigM m) (mayM m, ())
theorem okf74w : fs74w.Ok Try.prog := by
 refine flike_ok okf74 _ ?_
 rintro ⟨(m : MGt), _⟩ y h
 obtain ⟨hb, rfl⟩ := Tr.get_on h
 obtain ⟨h1, h2, h3, h4⟩ := bigM_iff.1 hb
 have h1' : mqC (mQ m) 0 = true := by
  obtain ⟨a, b⟩ := Bool.and_eq_true_iff.1 (show (Nat.ble (mQ m).length 1000000 && (mQ m).all bigQ) = true from h1)
  unfold mqC
  rw [a, b]; rfl
 refine convR_of (vs := [.bool (mayM m)]) rfl rfl (Tr.get_of_all ?_)
 show (t74 m).all _
 obtain ⟨id, qr, aa, tc, rd, ra, op, rc, q, an, ns, ar⟩ := m
 unfold t74 mayM mayN goodQ mQ mAn mNs mAr at *
 simp only at *
 generalize goodL an = A
 generalize goodL ns = B
 generalize goodL ar = C
 generalize q.any noQ = D at *
 have hl : decide ((q.length : Int) ≤ 65535) = decide (q.length ≤ 65535) := decide_eq_decide.2 (by omega)
 rw [hl]
 generalize decide (q.length ≤ 65535) = E
 simp only [ge_iff_le]
 generalize decide (0 ≤ op) = F
 generalize decide (op ≤ 15) = G
 generalize decide (0 ≤ rc) = H
 generalize decide (rc ≤ 15) = I
 rw [h1', h2, h3, h4]
 cases D <;> repeat' first
  | refine Tr.all_t rfl ?_
  | refine Tr.all_f rfl ?_
  | (refine Tr.all_br (fun c => ?_) (fun c => ?_) <;> subst c)
  | refine Tr.all_ret (by first | rfl | simp)
def fs70w : FSpec := fs70.like fun (m, _) => .on (bigM m) (mayM m, ())
theorem goodL_bad (l : List RRt) : goodL l = !badL l := by
 unfold goodL badL
 by_cases h : l.length ≤ 65535
 · rw [dec_true h, dec_false (show ¬ ((l.length : Int) > 65535) by omega), Bool.and_true, Bool.false_or]
 · rw [dec_false h, dec_true (show ((l.length : Int) > 65535) by omega), Bool.and_false, Bool.true_or]; rfl
theorem okf70w : fs70w.Ok Try.prog := by
 refine flike_ok okf70 _ ?_
 rintro ⟨(m : MGt), _⟩ y h
 obtain ⟨hb, rfl⟩ := Tr.get_on h
 obtain ⟨h1, h2, h3, h4⟩ := bigM_iff.1 hb
 have h0 : myC [mAn m, mNs m, mAr m] 3 0 = true := by
  unfold myC
  rw [List.all_cons, List.all_cons, List.all_cons, h2, h3, h4]; rfl
 refine convR_of (vs := [.bool (mayM m)]) rfl rfl (Tr.get_of_all ?_)
 show (t70 m).all _
 obtain ⟨id, qr, aa, tc, rd, ra, op, rc, q, an, ns, ar⟩ := m
 unfold t70 mayM mayN goodQ
 simp only [goodL_bad]
 unfold okQ at h1
 unfold mQ mAn mNs mAr at *
 simp only at *
 refine Tr.all_t h0 ?_
 rw [h1]
 rw [show [an, ns, ar].any badL = (badL an || (badL ns || (badL ar || false))) from rfl]
 generalize badL an = A
 generalize badL ns = B
 generalize badL ar = C
 generalize q.any noQ = D
 have hl : decide ((q.length : Int) ≤ 65535) = decide (q.length ≤ 65535) := decide_eq_decide.2 (by omega)
 rw [hl]
 generalize decide (q.length ≤ 65535) = E
 simp only [ge_iff_le]
 generalize decide (0 ≤ op) = F
 generalize decide (op ≤ 15) = G
 generalize decide (0 ≤ rc) = H
 generalize decide (rc ≤ 15) = I
 clear hl hb h0 h1 h2 h3 h4
 cases D <;> cases A <;> cases B <;> cases C <;> repeat' first
  | refine Tr.all_t rfl ?_
  | refine Tr.all_f rfl ?_
  | (refine Tr.all_br (fun c => ?_) (fun c => ?_) <;> subst c)
  | refine Tr.all_ret (by first | rfl | simp)
noncomputable def TK : Tab := { T0 with kns := true }
theorem tabK : TabOk Try.prog TK := tab_kns tab0
def t125r (n : Int) : Tr Res := .br (decide (n < 0)) .no (.br (decide (IntKind.wrap .i64 (n - IntKind.wrap .i64 (0 - (↑0 : Int))) > 0)) (.br (decide (0 ≤ IntKind.wrap .i64 (n - IntKind.wrap .i64 (0 - (↑0 : Int)))) && fits (Int.toNat (IntKind.wrap .i64 (n - IntKind.wrap .i64 (0 - (↑0 : Int))))) 40) (.ret ([.rowS 0 0 0 false], [.row RR (List.replicate (Int.toNat (IntKind.wrap .i64 (n - IntKind.wrap .i64 (0 - (↑0 : Int))))) (Ty.dflt RR))])) .no) (.ret ([.rowA 0], [.row RR []])))
def os125r : OSpec := { f := 125, sh := [.ns, .d (.int .i64) false], so := [], F := fun (n, _) _ => t125r n }
theorem fn125r (n : Int) : evC TK (orcB [] []) (lpOf (hOwn h125) 0 (lsOf [])) c125 1000000 (startSt [.ns, .int .i64 n] [] Try.f125.ntmps) (finishK TK true 0 Try.f125) = (t125r n).get := by kernel_rfl
theorem ok125r : os125r.Ok Try.prog := by
 refine os_ok mixed0 tabK (orcB_sound all_nil all_nil) (hOwn h125) (d := 0) (n0 := 0) (S := lsOf []) Try.func125 (by kernel_rfl) (c := c125) (by kernel_rfl) rfl (no_loops (by kernel_rfl)) (by omega) (by kernel_rfl) ?_
 intro x'' y'' q'' hq''
 obtain ⟨(n : Int), _⟩ := x''
 exact (fn125r n).trans hq''
def growC (n : Int) : Bool := decide (0 ≤ n) && decide (n ≤ 100000000)
def os125g : OSpec := os125r.like fun (n, _) _ => .on (growC n) ([.rowA 0], [.row RR []])
theorem ok125g : os125g.Ok Try.prog := by
 rintro ⟨(n : Int), _⟩ y r h
 obtain ⟨hc, rfl⟩ := Tr.get_on h
 have hc : growC n = true := hc
 simp only [growC, Bool.and_eq_true, decide_eq_true_eq] at hc
 have hw : IntKind.wrap .i64 (n - IntKind.wrap .i64 (0 - 0)) = n := by
  rw [show IntKind.wrap .i64 (0 - 0) = 0 from rfl, Int.sub_zero, IntWalk.i64_in _ (by omega)]
 by_cases hn : n = 0
 · refine ok125r (n, ()) y ([.rowA 0], [.row RR []]) (Tr.get_of_all ?_)
   show (t125r n).all _
   unfold t125r
   rw [hw]
   exact Tr.all_f (dec_false (by omega)) (Tr.all_f (dec_false (by omega)) (Tr.all_ret rfl))
 · refine semF_cut (n := 0) (ok125r (n, ()) y ([.rowS 0 0 0 false], [.row RR (List.replicate n.toNat (Ty.dflt RR))]) (Tr.get_of_all ?_))
   show (t125r n).all _
   unfold t125r
   rw [hw]
   exact Tr.all_f (dec_false (by omega)) (Tr.all_t (dec_true (by omega)) (Tr.all_t (Bool.and_eq_true_iff.2 ⟨decide_eq_true (by omega), fits_true (by omega) (by omega)⟩) (Tr.all_ret rfl)))
def sumL (ll : List (List RRt)) : Int := (ll.flatten.length : Int)
def catB (ll : List (List RRt)) : Bool := decide (ll.length ≤ 3) && ll.all fun l => decide (l.length ≤ 1000000)
def catC (ll l2 : List (List RRt)) (z m i : Int) : Bool := catB ll && (decide (l2 = ll) && (decide (m = (ll.length : Int)) && (decide (z = 0) && decide (i = 0))))
def catD (ll : List (List RRt)) (w : List RRt) (m i : Int) : Bool := catB ll && (decide (w = []) && (decide (m = (ll.length : Int)) && decide (i = 0)))
noncomputable def b103 : Code := nthLoop c103 0
def ls103 : LoopSpec := { bid := 0, sh := [.d (.list (.list RR)) false, .d (.int .i64) false, .d (.list (.list RR)) false, .d (.int .i64) false, .d (.int .i64) false], so := [], F := fun (ll, z, l2, m, i, _) _ => .on (catC ll l2 z m i) (.exit 0, [.list (.list RR) ll, .int .i64 (sumL ll)], []) }
def r103 (ll : List (List RRt)) (z : Int) (l2 : List (List RRt)) (m i : Int) : Tr (St ⊕ (Ex × St)) := .br (decide (i < m)) (.br (decide (0 ≤ i)) (.br (decide (i < (↑l2.length : Int))) (.br (decide (IntKind.wrap .i64 (z + (↑(List.length (l2.getD i.toNat (Ty.dflt (Ty.list RR)))) : Int)) < 0)) .no (.ret (.inl (stOf [0, 3, 9, 10, 11] [.list (Ty.list RR) ll, .int .i64 (IntKind.wrap .i64 (z + (↑(List.length (l2.getD i.toNat (Ty.dflt (Ty.list RR)))) : Int))), .list (Ty.list RR) l2, .int .i64 m, .int .i64 (IntKind.wrap .i64 (i + 1))] [])))) .no) .no) (.ret (.inr (.exit 0, stOf [0, 3] [.list (Ty.list RR) ll, .int .i64 z] [])))
theorem round103 (lp : Lp) (ll : List (List RRt)) (z : Int) (l2 : List (List RRt)) (m i : Int) : evC TK (orcB [] [os125g]) lp b103 0 (stOf [0, 3, 9, 10, 11] [.list (.list RR) ll, .int .i64 z, .list (.list RR) l2, .int .i64 m, .int .i64 i] []) (roundK [0, 3, 9, 10, 11] [0, 3] 0) = (r103 ll z l2 m i).get := by kernel_rfl
theorem wf103 (ll l2 : List (List RRt)) (m : Int) (I'' : Int → Int → Prop) (m'' : Int → Int → Nat) (r'' : Ex × St) (h : ∀ (z i : Int), I'' z i → (r103 ll z l2 m i).all fun x'' => x'' = .inr r'' ∨ ∃ (z' i' : Int), x'' = .inl (stOf [0, 3, 9, 10, 11] [.list (.list RR) ll, .int .i64 z', .list (.list RR) l2, .int .i64 m, .int .i64 i'] []) ∧ I'' z' i' ∧ m'' z' i' < m'' z i) (lp : Lp) (z i : Int) : I'' z i →
    loopF (fun st => evC TK (orcB [] [os125g]) lp b103 0 st (roundK [0, 3, 9, 10, 11] [0, 3] 0)) (stOf [0, 3, 9, 10, 11] [.list (.list RR) ll, .int .i64 z, .list (.list RR) l2, .int .i64 m, .int .i64 i] []) = some r'' :=
 loop_tr (fun a'' : Int × Int => stOf [0, 3, 9, 10, 11] [.list (.list RR) ll, .int .i64 a''.1, .list (.list RR) l2, .int .i64 m, .int .i64 a''.2] []) (fun a'' => I'' a''.1 a''.2) (fun a'' => m'' a''.1 a''.2) r'' (fun a'' => r103 ll a''.1 l2 m a''.2)
  (fun a'' x hx => (round103 lp ll a''.1 l2 m a''.2).trans hx) (fun a'' ha => Tr.all_mono (fun x'' hx => hx.imp id fun ⟨z', i', h1, h2, h3⟩ => ⟨(z', i'), h1, h2, h3⟩) (h (a''.1) (a''.2) ha)) (z, i)
noncomputable def b103b : Code := nthLoop c103 1
def ls103b : LoopSpec := { bid := 2, sh := [.row 0, .d (.list (.list RR)) false, .d (.int .i64) false, .d (.int .i64) false], so := [.row RR], F := fun (ll, m, i, _) (w, _) => .on (catD ll w m i) (.exit 2, [.rowA 0], [.row RR ll.flatten]) }
def r103b (ll : List (List RRt)) (m i : Int) (w : List RRt) : Tr (St ⊕ (Ex × St)) := .br (decide (i < m)) (.br (decide (0 ≤ i)) (.br (decide (i < (↑ll.length : Int))) (.br (fits (List.length w + List.length (ll.getD i.toNat (Ty.dflt (Ty.list RR)))) 40) (.ret (.inl (stOf [6, 25, 26, 27] [.rowA 0, .list (Ty.list RR) ll, .int .i64 m, .int .i64 (IntKind.wrap .i64 (i + 1))] [.row RR (w ++ List.getD ll i.toNat (Ty.dflt (Ty.list RR)))]))) .no) .no) .no) (.ret (.inr (.exit 2, stOf [6] [.rowA 0] [.row RR w])))
theorem round103b (lp : Lp) (ll : List (List RRt)) (m i : Int) (w : List RRt) : evC TK (orcB [] [os125g]) lp b103b 2 (stOf [6, 25, 26, 27] [.rowA 0, .list (.list RR) ll, .int .i64 m, .int .i64 i] [.row RR w]) (roundK [6, 25, 26, 27] [6] 0) = (r103b ll m i w).get := by kernel_rfl
theorem wf103b (ll : List (List RRt)) (m : Int) (I'' : Int → List RRt → Prop) (m'' : Int → List RRt → Nat) (r'' : Ex × St) (h : ∀ (i : Int) (w : List RRt), I'' i w → (r103b ll m i w).all fun x'' => x'' = .inr r'' ∨ ∃ (i' : Int) (w' : List RRt), x'' = .inl (stOf [6, 25, 26, 27] [.rowA 0, .list (.list RR) ll, .int .i64 m, .int .i64 i'] [.row RR w']) ∧ I'' i' w' ∧ m'' i' w' < m'' i w) (lp : Lp) (i : Int) (w : List RRt) : I'' i w →
    loopF (fun st => evC TK (orcB [] [os125g]) lp b103b 2 st (roundK [6, 25, 26, 27] [6] 0)) (stOf [6, 25, 26, 27] [.rowA 0, .list (.list RR) ll, .int .i64 m, .int .i64 i] [.row RR w]) = some r'' :=
 loop_tr (fun a'' : Int × List RRt => stOf [6, 25, 26, 27] [.rowA 0, .list (.list RR) ll, .int .i64 m, .int .i64 a''.1] [.row RR a''.2]) (fun a'' => I'' a''.1 a''.2) (fun a'' => m'' a''.1 a''.2) r'' (fun a'' => r103b ll m a''.1 a''.2)
  (fun a'' x hx => (round103b lp ll m a''.1 a''.2).trans hx) (fun a'' ha => Tr.all_mono (fun x'' hx => hx.imp id fun ⟨i', w', h1, h2, h3⟩ => ⟨(i', w'), h1, h2, h3⟩) (h (a''.1) (a''.2) ha)) (i, w)
theorem flat_len {ll : List (List RRt)} (h : ∀ l ∈ ll, l.length ≤ 1000000) : ll.flatten.length ≤ 1000000 * ll.length := by
 induction ll with
 | nil => simp
 | cons l ll ih =>
   have h1 := h l (by simp)
   have h2 := ih fun x hx => h x (List.mem_cons_of_mem _ hx)
   rw [List.flatten_cons, List.length_append, List.length_cons]
   omega
theorem catB_len {ll : List (List RRt)} (h : catB ll = true) : ll.length ≤ 3 ∧ ll.flatten.length ≤ 3000000 := by
 simp only [catB, Bool.and_eq_true, decide_eq_true_eq, List.all_eq_true] at h
 have := flat_len h.2
 omega
theorem flat_next {ll : List (List RRt)} {k : Nat} (hk : k < ll.length) (x : List RRt) : (ll.drop k).flatten = ll.getD k x ++ (ll.drop (k + 1)).flatten := by
 rw [drop_cons2 hk x, List.flatten_cons]
theorem loop103 : ls103.Ok TK (orcB [] [os125g]) h103 0 0 b103 := by
 intro q'' hq'' x'' y'' r'' h
 obtain ⟨(ll : List (List RRt)), (z : Int), (l2 : List (List RRt)), (m : Int), (i : Int), _⟩ := x''
 obtain ⟨hc, rfl⟩ := Tr.get_on h
 show loopF (fun st => evC TK (orcB [] [os125g]) (lpN TK (orcB [] [os125g]) h103 0 q'') b103 0 st (roundK [0, 3, 9, 10, 11] [0, 3] 0)) (stOf [0, 3, 9, 10, 11] [.list (.list RR) ll, .int .i64 z, .list (.list RR) l2, .int .i64 m, .int .i64 i] []) = some (.exit 0, stOf [0, 3] ([.list (.list RR) ll, .int .i64 (sumL ll)]) ([]))
 simp only [catC, Bool.and_eq_true, decide_eq_true_eq] at hc
 obtain ⟨hb, rfl, rfl, rfl, rfl⟩ := hc
 obtain ⟨hl, hf⟩ := catB_len hb
 refine wf103 l2 l2 l2.length (fun z i => 0 ≤ i ∧ i ≤ l2.length ∧ 0 ≤ z ∧ z + (l2.drop i.toNat).flatten.length = sumL l2) (fun _ i => (l2.length - i).toNat) _ ?_ _ 0 0 ⟨by omega, by omega, by omega, by unfold sumL; simp⟩
 rintro z i ⟨h0, h1, hz, he⟩
 unfold r103
 rw [wrap_succ h0 h1 (by omega)]
 have hs : sumL l2 = (l2.flatten.length : Int) := rfl
 by_cases hi : i < l2.length
 · rw [flat_next (ll := l2) (k := i.toNat) (by omega) (Ty.dflt (Ty.list RR)), List.length_append] at he
   generalize l2.getD i.toNat (Ty.dflt (Ty.list RR)) = x at *
   have hw : IntKind.wrap .i64 (z + (x.length : Int)) = z + x.length := IntWalk.i64_in _ (by omega)
   rw [hw]
   exact Tr.all_t (dec_true hi) (Tr.all_t (dec_true h0) (Tr.all_t (dec_true hi) (Tr.all_f (dec_false (by omega)) (Tr.all_ret (.inr ⟨_, _, rfl, ⟨by omega, by omega, by omega, by rw [show (i + 1).toNat = i.toNat + 1 by omega]; omega⟩, by omega⟩)))))
 · refine Tr.all_f (dec_false hi) (Tr.all_ret (.inl ?_))
   rw [List.drop_eq_nil_of_le (by omega)] at he
   rw [← he]
   simp
theorem loop103b : ls103b.Ok TK (orcB [] [os125g]) h103 0 0 b103b := by
 intro q'' hq'' x'' y'' r'' h
 obtain ⟨(ll : List (List RRt)), (m : Int), (i : Int), _⟩ := x''
 obtain ⟨(w : List RRt), _⟩ := y''
 obtain ⟨hc, rfl⟩ := Tr.get_on h
 show loopF (fun st => evC TK (orcB [] [os125g]) (lpN TK (orcB [] [os125g]) h103 0 q'') b103b 2 st (roundK [6, 25, 26, 27] [6] 0)) (stOf [6, 25, 26, 27] [.rowA 0, .list (.list RR) ll, .int .i64 m, .int .i64 i] [.row RR w]) = some (.exit 2, stOf [6] ([.rowA 0]) ([.row RR ll.flatten]))
 simp only [catD, Bool.and_eq_true, decide_eq_true_eq] at hc
 obtain ⟨hb, rfl, rfl, rfl⟩ := hc
 obtain ⟨hl, hf⟩ := catB_len hb
 refine wf103b ll ll.length (fun i w => 0 ≤ i ∧ i ≤ ll.length ∧ w ++ (ll.drop i.toNat).flatten = ll.flatten) (fun i _ => (ll.length - i).toNat) _ ?_ _ 0 [] ⟨by omega, by omega, by simp⟩
 rintro i w ⟨h0, h1, he⟩
 unfold r103b
 rw [wrap_succ h0 h1 (by omega)]
 by_cases hi : i < ll.length
 · rw [flat_next (ll := ll) (k := i.toNat) (by omega) (Ty.dflt (Ty.list RR))] at he
   generalize ll.getD i.toNat (Ty.dflt (Ty.list RR)) = x at *
   have hx : w.length + (x.length + (ll.drop (i.toNat + 1)).flatten.length) = ll.flatten.length := by rw [← he, List.length_append, List.length_append]
   refine Tr.all_t (dec_true hi) (Tr.all_t (dec_true h0) (Tr.all_t (dec_true hi) (Tr.all_t (fits_true (by omega) (by omega)) (Tr.all_ret (.inr ⟨_, _, rfl, ⟨by omega, by omega, ?_⟩, by omega⟩)))))
   rw [show (i + 1).toNat = i.toNat + 1 by omega, List.append_assoc]
   exact he
 · refine Tr.all_f (dec_false hi) (Tr.all_ret (.inl ?_))
   rw [List.drop_eq_nil_of_le (by omega), List.flatten_nil, List.append_nil] at he
   rw [he]
def t103 (ll : List (List RRt)) : Tr Res := .br (catC ll ll 0 (↑ll.length : Int) 0) (.br (growC (sumL ll)) (.br (catD ll [] (↑ll.length : Int) 0) (.ret ([.list RR (List.flatten ll)], [])) .no) .no) .no
def os103 : OSpec := { f := 103, sh := [.d (.list (.list RR)) false], so := [], F := fun (ll, _) _ => t103 ll }
theorem fn103 (ll : List (List RRt)) : evC TK (orcB [] [os125g]) (lpOf h103 0 (lsOf [ls103, ls103b])) c103 1000000 (startSt [.list (.list RR) ll] [] Try.f103.ntmps) (finishK TK false 0 Try.f103) = (t103 ll).get := by kernel_rfl
theorem ok103 : os103.Ok Try.prog := by
 refine os_ok mixed0 tabK (orcB_sound all_nil (all_cons ok125g all_nil)) h103 (d := 0) (n0 := 0) (S := lsOf [ls103, ls103b]) Try.func103 (by kernel_rfl) (c := c103) (by kernel_rfl) rfl (loops_eq (xs := [(0, b103), (2, b103b)]) (by kernel_rfl) (all_cons (ls_here loop103) (all_cons (ls_skip (by kernel_rfl) (ls_here loop103b)) all_nil))) (by omega) (by kernel_rfl) ?_
 intro x'' y'' q'' hq''
 obtain ⟨(ll : List (List RRt)), _⟩ := x''
 exact (fn103 ll).trans hq''
def fs103 : FSpec := fsT 103 [((.list (.list RR)), false)] [((.list RR), false)] fun (ll, _) => t103 ll
theorem okf103 : fs103.Ok Try.prog := fsT_ok fun x'' r'' hr'' => ok103 x'' () r'' hr''
def fs103w : FSpec := fs103.like fun (ll, _) => .on (catB ll) (ll.flatten, ())
theorem okf103w : fs103w.Ok Try.prog := by
 refine flike_ok okf103 _ ?_
 rintro ⟨(ll : List (List RRt)), _⟩ y h
 obtain ⟨hb, rfl⟩ := Tr.get_on h
 have hb : catB ll = true := hb
 refine convR_of (vs := [.list RR ll.flatten]) rfl rfl (Tr.get_of_all ?_)
 show (t103 ll).all _
 unfold t103
 obtain ⟨_, hl⟩ := catB_len hb
 have hs : sumL ll = (ll.flatten.length : Int) := rfl
 refine Tr.all_t ?_ (Tr.all_t ?_ (Tr.all_t ?_ (Tr.all_ret rfl)))
 · unfold catC
   rw [hb, decide_eq_true rfl, decide_eq_true rfl]; rfl
 · unfold growC
   rw [dec_true (by omega), dec_true (by omega)]; rfl
 · unfold catD
   rw [hb, decide_eq_true rfl, decide_eq_true rfl]; rfl
def t122 (x : Bool) (n : Int) : Tr Res := .br x (.ret ([.int .u16 n], [])) (.ret ([.int .u16 0], []))
def os122 : OSpec := { f := 122, sh := [.d .bool false, .d (.int .u16) false], so := [], F := fun (x, n, _) _ => t122 x n }
theorem fn122 (x : Bool) (n : Int) : evC T0 (orcB [] []) (lpOf h122 0 (lsOf [])) c122 1000000 (startSt [.bool x, .int .u16 n] [] Try.f122.ntmps) (finishK T0 false 0 Try.f122) = (t122 x n).get := by kernel_rfl
theorem ok122 : os122.Ok Try.prog := by
 refine os_ok mixed0 tab0 (orcB_sound all_nil all_nil) h122 (d := 0) (n0 := 0) (S := lsOf []) Try.func122 (by kernel_rfl) (c := c122) (by kernel_rfl) rfl (no_loops (by kernel_rfl)) (by omega) (by kernel_rfl) ?_
 intro x'' y'' q'' hq''
 obtain ⟨(x : Bool), (n : Int), _⟩ := x''
 exact (fn122 x n).trans hq''
def fs122 : FSpec := fsT 122 [(.bool, false), ((.int .u16), false)] [((.int .u16), false)] fun (x, n, _) => t122 x n
theorem okf122 : fs122.Ok Try.prog := fsT_ok fun x'' r'' hr'' => ok122 x'' () r'' hr''
def t128 (x : Bool) : Tr Res := .br x (.ret ([.int .i64 1], [])) (.ret ([.int .i64 0], []))
def os128 : OSpec := { f := 128, sh := [.d .bool false], so := [], F := fun (x, _) _ => t128 x }
theorem fn128 (x : Bool) : evC T0 (orcB [] []) (lpOf h128 0 (lsOf [])) c128 1000000 (startSt [.bool x] [] Try.f128.ntmps) (finishK T0 false 0 Try.f128) = (t128 x).get := by kernel_rfl
theorem ok128 : os128.Ok Try.prog := by
 refine os_ok mixed0 tab0 (orcB_sound all_nil all_nil) h128 (d := 0) (n0 := 0) (S := lsOf []) Try.func128 (by kernel_rfl) (c := c128) (by kernel_rfl) rfl (no_loops (by kernel_rfl)) (by omega) (by kernel_rfl) ?_
 intro x'' y'' q'' hq''
 obtain ⟨(x : Bool), _⟩ := x''
 exact (fn128 x).trans hq''
def fs128 : FSpec := fsT 128 [(.bool, false)] [((.int .i64), false)] fun (x, _) => t128 x
theorem okf128 : fs128.Ok Try.prog := fsT_ok fun x'' r'' hr'' => ok128 x'' () r'' hr''
def bitI (x : Bool) (n : Int) : Int := bif x then n else 0
def fs122w : FSpec := fs122.like fun (x, n, _) => .ret (bitI x n, ())
theorem okf122w : fs122w.Ok Try.prog := by
 refine flike_ok okf122 _ ?_
 rintro ⟨(x : Bool), (n : Int), _⟩ y h
 cases h
 refine convR_of (vs := [.int .u16 (bitI x n)]) rfl rfl (Tr.get_of_all ?_)
 cases x
 · exact Tr.all_f rfl (Tr.all_ret rfl)
 · exact Tr.all_t rfl (Tr.all_ret rfl)
def fs128w : FSpec := fs128.like fun (x, _) => .ret (bitI x 1, ())
theorem okf128w : fs128w.Ok Try.prog := by
 refine flike_ok okf128 _ ?_
 rintro ⟨(x : Bool), _⟩ y h
 cases h
 refine convR_of (vs := [.int .i64 (bitI x 1)]) rfl rfl (Tr.get_of_all ?_)
 cases x
 · exact Tr.all_f rfl (Tr.all_ret rfl)
 · exact Tr.all_t rfl (Tr.all_ret rfl)
def t100 (m : MGt) : Tr Res := .ret ([.int .u16 (IntKind.wrap .u16 (↑(BitVec.toNat (BitVec.ofInt (IntKind.bits IntKind.u16) (IntKind.wrap .u16 (↑(BitVec.toNat (BitVec.ofInt (IntKind.bits IntKind.u16) (IntKind.wrap .u16 (↑(BitVec.toNat (BitVec.ofInt (IntKind.bits IntKind.u16) (IntKind.wrap .u16 (↑(BitVec.toNat (BitVec.ofInt (IntKind.bits IntKind.u16) (IntKind.wrap .u16 (↑(BitVec.toNat (BitVec.ofInt (IntKind.bits IntKind.u16) (IntKind.wrap .u16 (↑(BitVec.toNat (BitVec.ofInt (IntKind.bits IntKind.u16) (bitI m.2.1 32768) ||| BitVec.ofInt (IntKind.bits IntKind.u16) (bitI m.2.2.1 1024))) : Int)) ||| BitVec.ofInt (IntKind.bits IntKind.u16) (bitI m.2.2.2.1 512))) : Int)) ||| BitVec.ofInt (IntKind.bits IntKind.u16) (bitI m.2.2.2.2.1 256))) : Int)) ||| BitVec.ofInt (IntKind.bits IntKind.u16) (bitI m.2.2.2.2.2.1 128))) : Int)) ||| BitVec.ofInt (IntKind.bits IntKind.u16) (IntKind.wrap .u16 (IntKind.wrap .u16 m.2.2.2.2.2.2.1 * 2 ^ min (Int.toNat 11) (IntKind.bits IntKind.u16))))) : Int)) ||| BitVec.ofInt (IntKind.bits IntKind.u16) (IntKind.wrap .u16 m.2.2.2.2.2.2.2.1))) : Int))], [])
def os100 : OSpec := { f := 100, sh := [.d MG true], so := [], F := fun (m, _) _ => t100 m }
theorem fn100 (m : MGt) : evC T0 (orcB [fs122w] []) (lpOf h100 0 (lsOf [])) c100 1000000 (startSt [AV.ofTy MG m true] [] Try.f100.ntmps) (finishK T0 false 0 Try.f100) = (t100 m).get := by kernel_rfl
theorem ok100 : os100.Ok Try.prog := by
 refine os_ok mixed0 tab0 (orcB_sound (all_cons okf122w all_nil) all_nil) h100 (d := 0) (n0 := 0) (S := lsOf []) Try.func100 (by kernel_rfl) (c := c100) (by kernel_rfl) rfl (no_loops (by kernel_rfl)) (by omega) (by kernel_rfl) ?_
 intro x'' y'' q'' hq''
 obtain ⟨(m : MGt), _⟩ := x''
 exact (fn100 m).trans hq''
def fs100 : FSpec := fsT 100 [(MG, true)] [((.int .u16), false)] fun (m, _) => t100 m
theorem okf100 : fs100.Ok Try.prog := fsT_ok fun x'' r'' hr'' => ok100 x'' () r'' hr''
def t107 (m : MGt) : Tr Res := .br (n16C m.1) (.br (n16C (IntKind.wrap .u16 (↑m.2.2.2.2.2.2.2.2.1.length : Int))) (.br (n16C (IntKind.wrap .u16 (↑m.2.2.2.2.2.2.2.2.2.1.length : Int))) (.br (n16C (IntKind.wrap .u16 (↑m.2.2.2.2.2.2.2.2.2.2.1.length : Int))) (.br (n16C (IntKind.wrap .u16 (↑m.2.2.2.2.2.2.2.2.2.2.2.length : Int))) (.ret ([.str [UInt8.ofNat (Int.toNat (m.1 / 256)), UInt8.ofNat (Int.toNat (m.1 % 256)), UInt8.ofNat (Int.toNat (IntKind.wrap .u8 (IntKind.wrap .i64 (IntKind.wrap .i64 (IntKind.wrap .i64 (IntKind.wrap .i64 (IntKind.wrap .i64 (128 * bitI m.2.1 1) + IntKind.wrap .i64 (8 * m.2.2.2.2.2.2.1)) + IntKind.wrap .i64 (4 * bitI m.2.2.1 1)) + IntKind.wrap .i64 (2 * bitI m.2.2.2.1 1)) + bitI m.2.2.2.2.1 1)))), UInt8.ofNat (Int.toNat (IntKind.wrap .u8 (IntKind.wrap .i64 (IntKind.wrap .i64 (128 * bitI m.2.2.2.2.2.1 1) + m.2.2.2.2.2.2.2.1)))), UInt8.ofNat (Int.toNat (IntKind.wrap .u16 (↑m.2.2.2.2.2.2.2.2.1.length : Int) / 256)), UInt8.ofNat (Int.toNat (IntKind.wrap .u16 (↑m.2.2.2.2.2.2.2.2.1.length : Int) % 256)), UInt8.ofNat (Int.toNat (IntKind.wrap .u16 (↑m.2.2.2.2.2.2.2.2.2.1.length : Int) / 256)), UInt8.ofNat (Int.toNat (IntKind.wrap .u16 (↑m.2.2.2.2.2.2.2.2.2.1.length : Int) % 256)), UInt8.ofNat (Int.toNat (IntKind.wrap .u16 (↑m.2.2.2.2.2.2.2.2.2.2.1.length : Int) / 256)), UInt8.ofNat (Int.toNat (IntKind.wrap .u16 (↑m.2.2.2.2.2.2.2.2.2.2.1.length : Int) % 256)), UInt8.ofNat (Int.toNat (IntKind.wrap .u16 (↑m.2.2.2.2.2.2.2.2.2.2.2.length : Int) / 256)), UInt8.ofNat (Int.toNat (IntKind.wrap .u16 (↑m.2.2.2.2.2.2.2.2.2.2.2.length : Int) % 256))]], [])) .no) .no) .no) .no) .no
def os107 : OSpec := { f := 107, sh := [.d MG true], so := [], F := fun (m, _) _ => t107 m }
theorem fn107 (m : MGt) : evC T0 (orcB [fs128w, fs129w] []) (lpOf h107 0 (lsOf [])) c107 1000000 (startSt [AV.ofTy MG m true] [] Try.f107.ntmps) (finishK T0 false 0 Try.f107) = (t107 m).get := by kernel_rfl
theorem ok107 : os107.Ok Try.prog := by
 refine os_ok mixed0 tab0 (orcB_sound (all_cons okf128w (all_cons okf129w all_nil)) all_nil) h107 (d := 0) (n0 := 0) (S := lsOf []) Try.func107 (by kernel_rfl) (c := c107) (by kernel_rfl) rfl (no_loops (by kernel_rfl)) (by omega) (by kernel_rfl) ?_
 intro x'' y'' q'' hq''
 obtain ⟨(m : MGt), _⟩ := x''
 exact (fn107 m).trans hq''
def fs107 : FSpec := fsT 107 [(MG, true)] [(.str, false)] fun (m, _) => t107 m
theorem okf107 : fs107.Ok Try.prog := fsT_ok fun x'' r'' hr'' => ok107 x'' () r'' hr''
def flagV (m : MGt) : Int := 32768 * bitI m.2.1 1 + 2048 * m.2.2.2.2.2.2.1 + 1024 * bitI m.2.2.1 1 + 512 * bitI m.2.2.2.1 1 + 256 * bitI m.2.2.2.2.1 1 + 128 * bitI m.2.2.2.2.2.1 1 + m.2.2.2.2.2.2.2.1
def flOr (a b : Int) : Int := IntKind.wrap IntKind.u16 ((BitVec.toNat (BitVec.ofInt (IntKind.bits IntKind.u16) a ||| BitVec.ofInt (IntKind.bits IntKind.u16) b) : Nat) : Int)
def flHi (qr aa tc rd ra : Bool) : Int := flOr (flOr (flOr (flOr (bitI qr 32768) (bitI aa 1024)) (bitI tc 512)) (bitI rd 256)) (bitI ra 128)
def flHv (qr aa tc rd ra : Bool) : Int := 32768 * bitI qr 1 + 1024 * bitI aa 1 + 512 * bitI tc 1 + 256 * bitI rd 1 + 128 * bitI ra 1
def flTest : Bool := [true, false].all fun qr => [true, false].all fun aa => [true, false].all fun tc => [true, false].all fun rd => [true, false].all fun ra => (List.range 16).all fun op =>
 flOr (flHi qr aa tc rd ra) ((op * 2048 : Nat) : Int) == flHv qr aa tc rd ra + ((op * 2048 : Nat) : Int)
theorem fl_test : flTest = true := by kernel_rfl
theorem flHi_or (qr aa tc rd ra : Bool) {op : Int} (h : 0 ≤ op ∧ op ≤ 15) : flOr (flHi qr aa tc rd ra) (op * 2048) = flHv qr aa tc rd ra + op * 2048 := by
 have ht := fl_test
 unfold flTest at ht
 simp only [List.all_eq_true] at ht
 have hm : ∀ b : Bool, b ∈ [true, false] := fun b => by cases b <;> simp
 have := ht qr (hm _) aa (hm _) tc (hm _) rd (hm _) ra (hm _) op.toNat (List.mem_range.2 (by omega))
 rw [beq_iff_eq, show ((op.toNat * 2048 : Nat) : Int) = op * 2048 by omega] at this
 exact this
theorem lo_or {x : Int} {rc : Int} (hx : 0 ≤ x ∧ x < 4096) (h : 0 ≤ rc ∧ rc ≤ 15) : flOr (16 * x) rc = 16 * x + rc := by
 obtain ⟨a, rfl⟩ := Int.eq_ofNat_of_zero_le hx.1
 obtain ⟨b, rfl⟩ := Int.eq_ofNat_of_zero_le h.1
 have h1 : (BitVec.ofInt (IntKind.bits IntKind.u16) (16 * (a : Int))).toNat = 2 ^ 4 * a := by
  rw [BitVec.toNat_ofInt]
  show ((16 * (a : Int)) % ((2 ^ 16 : Nat) : Int)).toNat = _
  rw [Int.emod_eq_of_lt (by omega) (by omega)]
  omega
 have h2 : (BitVec.ofInt (IntKind.bits IntKind.u16) (b : Int)).toNat = b := by
  rw [BitVec.toNat_ofInt]
  show ((b : Int) % ((2 ^ 16 : Nat) : Int)).toNat = _
  rw [Int.emod_eq_of_lt (by omega) (by omega)]
  omega
 unfold flOr
 rw [BitVec.toNat_or, h1, h2, ← Nat.two_pow_add_eq_or_of_lt (by omega), IntWalk.u16_in _ (by omega)]
 omega
theorem bit_le (x : Bool) : 0 ≤ bitI x 1 ∧ bitI x 1 ≤ 1 := by cases x <;> decide
theorem mayN_iff {m : MGt} : mayN m = true ↔ (0 ≤ m.2.2.2.2.2.2.1 ∧ m.2.2.2.2.2.2.1 ≤ 15) ∧ 0 ≤ m.2.2.2.2.2.2.2.1 ∧ m.2.2.2.2.2.2.2.1 ≤ 15 := by
 unfold mayN
 rw [Bool.and_eq_true, Bool.and_eq_true, Bool.and_eq_true, decide_eq_true_eq, decide_eq_true_eq, decide_eq_true_eq, decide_eq_true_eq]
 exact ⟨fun ⟨a, b, c, d⟩ => ⟨⟨a, b⟩, c, d⟩, fun ⟨⟨a, b⟩, c, d⟩ => ⟨a, b, c, d⟩⟩
theorem flagV_eq {m : MGt} (h : mayN m = true) : flOr (flOr (flHi m.2.1 m.2.2.1 m.2.2.2.1 m.2.2.2.2.1 m.2.2.2.2.2.1) (m.2.2.2.2.2.2.1 * 2048)) m.2.2.2.2.2.2.2.1 = flagV m := by
 obtain ⟨h1, h2⟩ := mayN_iff.1 h
 obtain ⟨id, qr, aa, tc, rd, ra, op, rc, _⟩ := m
 simp only at h1 h2 ⊢
 unfold flagV
 simp only
 have b1 := bit_le qr
 have b2 := bit_le aa
 have b3 := bit_le tc
 have b4 := bit_le rd
 have b5 := bit_le ra
 rw [flHi_or _ _ _ _ _ h1]
 unfold flHv
 have := lo_or (x := 2048 * bitI qr 1 + 64 * bitI aa 1 + 32 * bitI tc 1 + 16 * bitI rd 1 + 8 * bitI ra 1 + 128 * op) (by omega) h2
 rw [show 32768 * bitI qr 1 + 1024 * bitI aa 1 + 512 * bitI tc 1 + 256 * bitI rd 1 + 128 * bitI ra 1 + op * 2048 = 16 * (2048 * bitI qr 1 + 64 * bitI aa 1 + 32 * bitI tc 1 + 16 * bitI rd 1 + 8 * bitI ra 1 + 128 * op) by omega, this]
 omega
theorem flagV_in {m : MGt} (h : mayN m = true) : 0 ≤ flagV m ∧ flagV m ≤ 65535 := by
 obtain ⟨h1, h2⟩ := mayN_iff.1 h
 obtain ⟨id, qr, aa, tc, rd, ra, op, rc, _⟩ := m
 simp only at h1 h2
 unfold flagV
 simp only
 have b1 := bit_le qr
 have b2 := bit_le aa
 have b3 := bit_le tc
 have b4 := bit_le rd
 have b5 := bit_le ra
 omega
def fs100w : FSpec := fs100.like fun (m, _) => .on (mayN m) (flagV m, ())
theorem okf100w : fs100w.Ok Try.prog := by
 refine flike_ok okf100 _ ?_
 rintro ⟨(m : MGt), _⟩ y h
 obtain ⟨hb, rfl⟩ := Tr.get_on h
 have hb : mayN m = true := hb
 refine convR_of (vs := [.int .u16 (flagV m)]) rfl rfl (Tr.get_of_all ?_)
 show (t100 m).all _
 obtain ⟨h1, h2⟩ := mayN_iff.1 hb
 have e := flagV_eq hb
 have e1 : IntKind.wrap .u16 (IntKind.wrap .u16 m.2.2.2.2.2.2.1 * (2 : Int) ^ min (Int.toNat (11 : Int)) (IntKind.bits IntKind.u16)) = m.2.2.2.2.2.2.1 * 2048 := by
  rw [show (2 : Int) ^ min (Int.toNat (11 : Int)) (IntKind.bits IntKind.u16) = 2048 from rfl, IntWalk.u16_in m.2.2.2.2.2.2.1 (by omega), IntWalk.u16_in _ (by omega)]
 have e2 : IntKind.wrap .u16 m.2.2.2.2.2.2.2.1 = m.2.2.2.2.2.2.2.1 := IntWalk.u16_in _ (by omega)
 refine Tr.all_ret ?_
 rw [e1, e2, ← e]
 rfl
def headB (m : MGt) : List UInt8 := put16 m.1 ++ put16 (flagV m) ++ (put16 ((mQ m).length : Int) ++ put16 ((mAn m).length : Int) ++ put16 ((mNs m).length : Int) ++ put16 ((mAr m).length : Int))
def lesM (m : MGt) : Bool := decide ((mQ m).length ≤ 1500) && (decide ((mAn m).length ≤ 1500) && (decide ((mNs m).length ≤ 1500) && decide ((mAr m).length ≤ 1500)))
theorem lesM_iff {m : MGt} : lesM m = true ↔ (mQ m).length ≤ 1500 ∧ (mAn m).length ≤ 1500 ∧ (mNs m).length ≤ 1500 ∧ (mAr m).length ≤ 1500 := by
 unfold lesM
 simp only [Bool.and_eq_true, decide_eq_true_eq]
def fs107w : FSpec := fs107.like fun (m, _) => .on (mayN m && (n16C m.1 && lesM m)) (headB m, ())
theorem n16_of {n : Int} (h : 0 ≤ n ∧ n ≤ 65535) : n16C n = true := by
 unfold n16C
 rw [dec_true h.1, dec_true h.2]; rfl
theorem okf107w : fs107w.Ok Try.prog := by
 refine flike_ok okf107 _ ?_
 rintro ⟨(m : MGt), _⟩ y h
 obtain ⟨hb, rfl⟩ := Tr.get_on h
 have hb : (mayN m && (n16C m.1 && lesM m)) = true := hb
 rw [Bool.and_eq_true, Bool.and_eq_true, lesM_iff] at hb
 obtain ⟨hn, hi, l1, l2, l3, l4⟩ := hb
 refine convR_of (vs := [.str (headB m)]) rfl rfl (Tr.get_of_all ?_)
 show (t107 m).all _
 obtain ⟨h1, h2⟩ := mayN_iff.1 hn
 obtain ⟨id, qr, aa, tc, rd, ra, op, rc, q, an, ns, ar⟩ := m
 unfold t107 headB mQ mAn mNs mAr at *
 simp only at *
 have b1 := bit_le qr
 have b2 := bit_le aa
 have b3 := bit_le tc
 have b4 := bit_le rd
 have b5 := bit_le ra
 have w1 : IntKind.wrap .u16 (q.length : Int) = q.length := IntWalk.u16_in _ (by omega)
 have w2 : IntKind.wrap .u16 (an.length : Int) = an.length := IntWalk.u16_in _ (by omega)
 have w3 : IntKind.wrap .u16 (ns.length : Int) = ns.length := IntWalk.u16_in _ (by omega)
 have w4 : IntKind.wrap .u16 (ar.length : Int) = ar.length := IntWalk.u16_in _ (by omega)
 rw [w1, w2, w3, w4]
 refine Tr.all_t hi (Tr.all_t (n16_of (by omega)) (Tr.all_t (n16_of (by omega)) (Tr.all_t (n16_of (by omega)) (Tr.all_t (n16_of (by omega)) (Tr.all_ret ?_)))))
 have f : flagV (id, qr, aa, tc, rd, ra, op, rc, q, an, ns, ar) = 32768 * bitI qr 1 + 2048 * op + 1024 * bitI aa 1 + 512 * bitI tc 1 + 256 * bitI rd 1 + 128 * bitI ra 1 + rc := rfl
 have e1 : IntKind.wrap .u8 (IntKind.wrap .i64 (IntKind.wrap .i64 (IntKind.wrap .i64 (IntKind.wrap .i64 (IntKind.wrap .i64 ((128 : Int) * bitI qr (1 : Int)) + IntKind.wrap .i64 ((8 : Int) * op)) + IntKind.wrap .i64 ((4 : Int) * bitI aa (1 : Int))) + IntKind.wrap .i64 ((2 : Int) * bitI tc (1 : Int))) + bitI rd (1 : Int))) = flagV (id, qr, aa, tc, rd, ra, op, rc, q, an, ns, ar) / 256 := by
  simp (disch := omega) only [IntWalk.i64_in]
  rw [IntWalk.u8_in _ (by omega), f]
  omega
 have e2 : IntKind.wrap .u8 (IntKind.wrap .i64 (IntKind.wrap .i64 ((128 : Int) * bitI ra (1 : Int)) + rc)) = flagV (id, qr, aa, tc, rd, ra, op, rc, q, an, ns, ar) % 256 := by
  simp (disch := omega) only [IntWalk.i64_in]
  rw [IntWalk.u8_in _ (by omega), f]
  omega
 rw [e1, e2]
 rfl
abbrev MO (mi : Int) (mqr maa mtc mrd mra : Bool) (mop mrc : Int) (mq : List QQt) (man mns mar : List RRt) : LObj := .box [.int .u16 mi, .bool mqr, .bool maa, .bool mtc, .bool mrd, .bool mra, .int .i64 mop, .int .i64 mrc, .list QQ mq, .list RR man, .list RR mns, .list RR mar]
abbrev MOs : ShO := .box [.d (.int .u16) false, .d .bool false, .d .bool false, .d .bool false, .d .bool false, .d .bool false, .d (.int .i64) false, .d (.int .i64) false, .d (.list QQ) false, .d (.list RR) false, .d (.list RR) false, .d (.list RR) false]
def putQs : List QQt → PKt → PKt
 | [], p => p
 | q :: l, p => putQs l (putQ q p)
def putRs : List RRt → PKt → PKt
 | [], p => p
 | r :: l, p => putRs l (recP r p)
def rgR (r : RRt) : Bool := recV r && rngR r
def rgQ (q : QQt) : Bool := mayV q.1 && (n16C q.2.1 && n16C q.2.2)
theorem rgR_ok {r : RRt} (h : rgR r = true) : recV r = true ∧ rOk r = true ∧ r.1.length ≤ 255 ∧ r.2.2.2.2.length ≤ 65535 := by
 obtain ⟨h1, h2⟩ := Bool.and_eq_true_iff.1 h
 obtain ⟨m1, m2⟩ := Bool.and_eq_true_iff.1 (show (mayV r.1 && mayR r.2.1 r.2.2.2.2) = true from h1)
 have hn := (may_iff.1 m1).2.1
 have hd := (may_parts m2).2.2.1
 unfold rngR at h2
 rw [Bool.and_eq_true, Bool.and_eq_true] at h2
 exact ⟨h1, rOk_iff.2 ⟨by omega, h2.1, h2.2.1, h2.2.2, by omega⟩, by omega, by omega⟩
theorem rgQ_ok {q : QQt} (h : rgQ q = true) : mayV q.1 = true ∧ qOk q = true ∧ q.1.length ≤ 255 := by
 unfold rgQ at h
 rw [Bool.and_eq_true, Bool.and_eq_true] at h
 have hn := (may_iff.1 h.1).2.1
 exact ⟨h.1, qOk_iff.2 ⟨by omega, h.2.1, h.2.2⟩, by omega⟩
theorem putQs_good : ∀ {l : List QQt} {P : PKt}, l.all rgQ = true → kOk P.2 = true → kOk (putQs l P).2 = true ∧ (putQs l P).1.length ≤ P.1.length + 300 * l.length ∧ (putQs l P).2.length ≤ P.2.length + 300 * l.length
 | [], P, _, hk => ⟨hk, by simp [putQs], by simp [putQs]⟩
 | q :: l, P, h, hk => by
   rw [List.all_cons, Bool.and_eq_true] at h
   obtain ⟨q1, _, q3⟩ := rgQ_ok h.1
   obtain ⟨a, b, c⟩ := putQ_good (P := P) q1 hk
   obtain ⟨d, e, f⟩ := putQs_good (P := putQ q P) h.2 a
   rw [putQs, List.length_cons]
   exact ⟨d, by omega, by omega⟩
theorem putRs_good : ∀ {l : List RRt} {P : PKt}, l.all rgR = true → kOk P.2 = true → kOk (putRs l P).2 = true ∧ (putRs l P).1.length ≤ P.1.length + 66000 * l.length ∧ (putRs l P).2.length ≤ P.2.length + 66000 * l.length
 | [], P, _, hk => ⟨hk, by simp [putRs], by simp [putRs]⟩
 | r :: l, P, h, hk => by
   rw [List.all_cons, Bool.and_eq_true] at h
   obtain ⟨q1, _, q3, q4⟩ := rgR_ok h.1
   obtain ⟨a, b, c⟩ := recP_good (P := P) q1 hk
   obtain ⟨d, e, f⟩ := putRs_good (P := recP r P) h.2 a
   rw [putRs, List.length_cons]
   exact ⟨d, by omega, by omega⟩
theorem putRs_app : ∀ (l l' : List RRt) (P : PKt), putRs (l ++ l') P = putRs l' (putRs l P)
 | [], l', P => rfl
 | r :: l, l', P => putRs_app l l' (recP r P)
def bgB (b : List Int) (m : Known) (n : Nat) : Bool := bytesOk b && (kOk m && Nat.ble b.length n)
theorem bgB_iff {b : List Int} {m : Known} {n : Nat} : bgB b m n = true ↔ bytesOk b = true ∧ kOk m = true ∧ b.length ≤ n := by
 unfold bgB
 rw [Bool.and_eq_true, Bool.and_eq_true]
 exact ⟨fun ⟨a, b, c⟩ => ⟨a, b, Nat.le_of_ble_eq_true c⟩, fun ⟨a, b, c⟩ => ⟨a, b, Nat.ble_eq_true_of_le c⟩⟩
def rcsC (l : List RRt) (b : List Int) (m : Known) (k i : Int) : Bool := (l.all rgR && Nat.ble l.length 4500) && (decide (k = (l.length : Int)) && (decide (i = 0) && bgB b m 10000000))
def qsC (l : List QQt) (b : List Int) (m : Known) (k i : Int) : Bool := (l.all rgQ && Nat.ble l.length 1500) && (decide (k = (l.length : Int)) && (decide (i = 0) && bgB b m 1000))
def cntB (l : List Int) : List UInt8 := (l.map put16).flatten
def cnC (l : List Int) (b : List Int) (k i : Int) : Bool := (l.all n16C && Nat.ble l.length 4) && (decide (k = (l.length : Int)) && (decide (i = 0) && Nat.ble b.length 100))
noncomputable def b102 : Code := nthLoop c102 0
def ls102 : LoopSpec := { bid := 0, sh := [.ptr 0 0, .d (.list RR) false, .d (.int .i64) false, .d (.int .i64) false], so := [.box [.row 1, .mp 2], .row (.int .u8), .map .str (.int .i64)], F := fun (l, k, i, _) (_, b, m, _) => .on (rcsC l b m k i) (.exit 0, [], [.box [.rowA 1, .mp 2], .row (.int .u8) (bytesInt (putRs l (intBytes b, m)).1), .mpo .str (.int .i64) (putRs l (intBytes b, m)).2]) }
def r102 (l : List RRt) (k i : Int) (b : List Int) (m : List (List UInt8 × Int)) : Tr (St ⊕ (Ex × St)) := .br (decide (i < k)) (.br (decide (0 ≤ i)) (.br (decide (i < (↑l.length : Int))) (.br (pkS b m && rOk (l.getD i.toNat (Ty.dflt RR))) (.br (recV (l.getD i.toNat (Ty.dflt RR))) (.ret (.inl (stOf [0, 6, 7, 8] [.ptr 0 0, .list RR l, .int .i64 k, .int .i64 (IntKind.wrap .i64 (i + 1))] [.boxT none [.rowA 1, .mp 2], .row (.int .u8) (bytesInt (recP (l.getD i.toNat (Ty.dflt RR)) (intBytes b, m)).1), .mpo .str (.int .i64) (recP (l.getD i.toNat (Ty.dflt RR)) (intBytes b, m)).2]))) (.ret (.inl (stOf [0, 6, 7, 8] [.ptr 0 0, .list RR l, .int .i64 k, .int .i64 (IntKind.wrap .i64 (i + 1))] [.boxT none [.rowA 1, .mp 2], .row (.int .u8) b, .mpo .str (.int .i64) m])))) .no) .no) .no) (.ret (.inr (.exit 0, stOf [] [] [.boxT none [.rowA 1, .mp 2], .row (.int .u8) b, .mpo .str (.int .i64) m])))
theorem round102 (lp : Lp) (l : List RRt) (k i : Int) (b : List Int) (m : List (List UInt8 × Int)) : evC T0 (orcB [] [os124w]) lp b102 0 (stOf [0, 6, 7, 8] [.ptr 0 0, .list RR l, .int .i64 k, .int .i64 i] [.box [.rowA 1, .mp 2], .row (.int .u8) b, .mpo .str (.int .i64) m]) (roundK [0, 6, 7, 8] [] 3) = (r102 l k i b m).get := by kernel_rfl
theorem wf102 (l : List RRt) (k : Int) (I'' : List Int → List (List UInt8 × Int) → Int → Prop) (m'' : List Int → List (List UInt8 × Int) → Int → Nat) (r'' : Ex × St) (h : ∀ (b : List Int) (m : List (List UInt8 × Int)) (i : Int), I'' b m i → (r102 l k i b m).all fun x'' => x'' = .inr r'' ∨ ∃ (b' : List Int) (m' : List (List UInt8 × Int)) (i' : Int), x'' = .inl (stOf [0, 6, 7, 8] [.ptr 0 0, .list RR l, .int .i64 k, .int .i64 i'] [.box [.rowA 1, .mp 2], .row (.int .u8) b', .mpo .str (.int .i64) m']) ∧ I'' b' m' i' ∧ m'' b' m' i' < m'' b m i) (lp : Lp) (b : List Int) (m : List (List UInt8 × Int)) (i : Int) : I'' b m i →
    loopF (fun st => evC T0 (orcB [] [os124w]) lp b102 0 st (roundK [0, 6, 7, 8] [] 3)) (stOf [0, 6, 7, 8] [.ptr 0 0, .list RR l, .int .i64 k, .int .i64 i] [.box [.rowA 1, .mp 2], .row (.int .u8) b, .mpo .str (.int .i64) m]) = some r'' :=
 loop_tr (fun a'' : List Int × List (List UInt8 × Int) × Int => stOf [0, 6, 7, 8] [.ptr 0 0, .list RR l, .int .i64 k, .int .i64 a''.2.2] [.box [.rowA 1, .mp 2], .row (.int .u8) a''.1, .mpo .str (.int .i64) a''.2.1]) (fun a'' => I'' a''.1 a''.2.1 a''.2.2) (fun a'' => m'' a''.1 a''.2.1 a''.2.2) r'' (fun a'' => r102 l k a''.2.2 a''.1 a''.2.1)
  (fun a'' x hx => (round102 lp l k a''.2.2 a''.1 a''.2.1).trans hx) (fun a'' ha => Tr.all_mono (fun x'' hx => hx.imp id fun ⟨b', m', i', h1, h2, h3⟩ => ⟨(b', m', i'), h1, h2, h3⟩) (h (a''.1) (a''.2.1) (a''.2.2) ha)) (b, m, i)
def rcsI (l : List RRt) (p0 : PKt) (b : List Int) (m : Known) (i : Int) : Prop := 0 ≤ i ∧ i ≤ l.length ∧ ∃ p : PKt, b = bytesInt p.1 ∧ m = p.2 ∧ kOk p.2 = true ∧ p.1.length ≤ 10000000 + 66000 * i.toNat ∧ putRs (l.drop i.toNat) p = putRs l p0
theorem loop102 : ls102.Ok T0 (orcB [] [os124w]) h102 3 0 b102 := by
 intro q'' hq'' x'' y'' r'' h
 obtain ⟨(l : List RRt), (k : Int), (i : Int), _⟩ := x''
 obtain ⟨_, (b : List Int), (m : List (List UInt8 × Int)), _⟩ := y''
 obtain ⟨hc, rfl⟩ := Tr.get_on h
 show loopF (fun st => evC T0 (orcB [] [os124w]) (lpN T0 (orcB [] [os124w]) h102 3 q'') b102 0 st (roundK [0, 6, 7, 8] [] 3)) (stOf [0, 6, 7, 8] [.ptr 0 0, .list RR l, .int .i64 k, .int .i64 i] [.box [.rowA 1, .mp 2], .row (.int .u8) b, .mpo .str (.int .i64) m]) = some (.exit 0, stOf [] ([]) ([.box [.rowA 1, .mp 2], .row (.int .u8) (bytesInt (putRs l (intBytes b, m)).1), .mpo .str (.int .i64) (putRs l (intBytes b, m)).2]))
 simp only [rcsC, Bool.and_eq_true, decide_eq_true_eq, bgB_iff] at hc
 obtain ⟨⟨hall, hl⟩, rfl, rfl, hok, hk, hb⟩ := hc
 have hl := Nat.le_of_ble_eq_true hl
 refine wf102 l l.length (rcsI l (intBytes b, m)) (fun _ _ i => (l.length - i).toNat) _ ?_ _ b m 0 ⟨by omega, by omega, (intBytes b, m), (bytes_intB hok).symm, rfl, hk, by rw [intB_len]; omega, rfl⟩
 clear hok hk hb
 rintro b' m' i ⟨h0, h1, p, rfl, rfl, hk, hpl, hF⟩
 rw [← hF]
 unfold r102
 by_cases hi : i < l.length
 · obtain ⟨d1, d2⟩ := drop_getD (Ty.dflt RR) h0 hi
   generalize List.getD l (Int.toNat i) (Ty.dflt RR) = r at d1 d2
   rw [d1, putRs] at hF
   obtain ⟨q1, q2, q3, q4⟩ := rgR_ok (List.all_eq_true.1 hall r d2)
   obtain ⟨k1, k2, k3⟩ := recP_good (P := p) q1 hk
   have hpk : (pkS (bytesInt p.1) p.2 && rOk r) = true := by rw [pkS_iff.2 ⟨bytesInt_ok _, hk, by rw [bytesInt_len]; omega⟩, q2]; rfl
   rw [intB_bytes, wrap_succ h0 h1 (by omega)]
   exact Tr.all_t (dec_true hi) (Tr.all_t (dec_true h0) (Tr.all_t (dec_true hi) (Tr.all_t hpk (Tr.all_t q1 (Tr.all_ret (.inr ⟨_, _, _, rfl, ⟨by omega, by omega, recP r p, rfl, rfl, k1, by omega, hF⟩, by omega⟩))))))
 · refine Tr.all_f (dec_false hi) (Tr.all_ret (.inl ?_))
   rw [List.drop_eq_nil_of_le (by omega)]
   rfl
def t102 (l : List RRt) (b : List Int) (m : List (List UInt8 × Int)) : Tr Res := .br (rcsC l b m (↑l.length : Int) 0) (.ret ([], [.boxT none [.rowA 1, .mp 2], .row (.int .u8) (bytesInt (putRs l (intBytes b, m)).1), .mpo .str (.int .i64) (putRs l (intBytes b, m)).2])) .no
def os102 : OSpec := { f := 102, sh := [.ptr 0 0, .d (.list RR) false], so := [.box [.row 1, .mp 2], .row (.int .u8), .map .str (.int .i64)], F := fun (l, _) (_, b, m, _) => t102 l b m }
theorem fn102 (l : List RRt) (b : List Int) (m : List (List UInt8 × Int)) : evC T0 (orcB [] [os124w]) (lpOf h102 3 (lsOf [ls102])) c102 1000000 (startSt [.ptr 0 0, .list RR l] [.box [.rowA 1, .mp 2], .row (.int .u8) b, .mpo .str (.int .i64) m] Try.f102.ntmps) (finishK T0 false 3 Try.f102) = (t102 l b m).get := by kernel_rfl
theorem ok102 : os102.Ok Try.prog := by
 refine os_ok mixed0 tab0 (orcB_sound all_nil (all_cons ok124w all_nil)) h102 (d := 0) (n0 := 3) (S := lsOf [ls102]) Try.func102 (by kernel_rfl) (c := c102) (by kernel_rfl) rfl (loops_eq (xs := [(0, b102)]) (by kernel_rfl) (all_cons (ls_here loop102) all_nil)) (by omega) (by kernel_rfl) ?_
 intro x'' y'' q'' hq''
 obtain ⟨(l : List RRt), _⟩ := x''
 obtain ⟨_, (b : List Int), (m : List (List UInt8 × Int)), _⟩ := y''
 exact (fn102 l b m).trans hq''
def os102w : OSpec := os102.like fun (l, _) (_, b, m, _) => .on (rcsC l b m (l.length : Int) 0) ([], pkO (bytesInt (putRs l (intBytes b, m)).1) (putRs l (intBytes b, m)).2)
theorem ok102w : os102w.Ok Try.prog := by
 refine like_ok ok102 _ ?_
 rintro ⟨(l : List RRt), _⟩ ⟨_, (b : List Int), (m : Known), _⟩ r h
 obtain ⟨hc, rfl⟩ := Tr.get_on h
 refine Tr.get_of_all ?_
 show (t102 l b m).all _
 exact Tr.all_t hc (Tr.all_ret rfl)
noncomputable def b71 : Code := nthLoop c71 0
def ls71 : LoopSpec := { bid := 0, sh := [.ptr 0 0, .ptr 1 0, .row 4, .d (.int .i64) false, .d (.int .i64) false], so := [MOs, .box [.row 2, .mp 3], .row (.int .u8), .map .str (.int .i64), .row (.int .i64)], F := fun (k, i, _) ((mi, mqr, maa, mtc, mrd, mra, mop, mrc, mq, man, mns, mar, _), _, b, m, cs, _) => .on (cnC cs b k i) (.exit 0, [.ptr 0 0, .ptr 1 0], [MO mi mqr maa mtc mrd mra mop mrc mq man mns mar, .box [.rowA 2, .mp 3], .row (.int .u8) (b ++ bytesInt (cntB cs)), .mpo .str (.int .i64) m]) }
def r71 (k i mi : Int) (mqr maa mtc mrd mra : Bool) (mop mrc : Int) (mq : List QQt) (man mns mar : List RRt) (b : List Int) (m : List (List UInt8 × Int)) (cs : List Int) : Tr (St ⊕ (Ex × St)) := .br (decide (i < k)) (.br (decide (0 ≤ i)) (.br (decide (i < (↑cs.length : Int))) (.br (n16C (IntKind.wrap .u16 (cs.getD i.toNat (Ty.dflt (Ty.int .i64))))) (.br (fits (List.length b + List.length (bytesInt (put16 (IntKind.wrap .u16 (cs.getD i.toNat (Ty.dflt (Ty.int .i64))))))) 1) (.ret (.inl (stOf [1, 3, 30, 31, 32] [.ptr 0 0, .ptr 1 0, .rowA 4, .int .i64 k, .int .i64 (IntKind.wrap .i64 (i + 1))] [MO mi mqr maa mtc mrd mra mop mrc mq man mns mar, .boxT none [.rowA 2, .mp 3], .row (.int .u8) (b ++ bytesInt (put16 (IntKind.wrap .u16 (cs.getD i.toNat (Ty.dflt (Ty.int .i64)))))), .mpo .str (.int .i64) m, .row (.int .i64) cs]))) .no) .no) .no) .no) (.ret (.inr (.exit 0, stOf [1, 3] [.ptr 0 0, .ptr 1 0] [MO mi mqr maa mtc mrd mra mop mrc mq man mns mar, .boxT none [.rowA 2, .mp 3], .row (.int .u8) b, .mpo .str (.int .i64) m])))
theorem round71 (lp : Lp) (k i mi : Int) (mqr maa mtc mrd mra : Bool) (mop mrc : Int) (mq : List QQt) (man mns mar : List RRt) (b : List Int) (m : List (List UInt8 × Int)) (cs : List Int) : evC T0 (orcB [fs99w, fs100w, fs103w] [os97, os98, os104, os101w, os102w]) lp b71 0 (stOf [1, 3, 30, 31, 32] [.ptr 0 0, .ptr 1 0, .rowA 4, .int .i64 k, .int .i64 i] [MO mi mqr maa mtc mrd mra mop mrc mq man mns mar, .box [.rowA 2, .mp 3], .row (.int .u8) b, .mpo .str (.int .i64) m, .row (.int .i64) cs]) (roundK [1, 3, 30, 31, 32] [1, 3] 0) = (r71 k i mi mqr maa mtc mrd mra mop mrc mq man mns mar b m cs).get := by kernel_rfl
theorem wf71 (k mi : Int) (mqr maa mtc mrd mra : Bool) (mop mrc : Int) (mq : List QQt) (man mns mar : List RRt) (m : List (List UInt8 × Int)) (cs : List Int) (I'' : List Int → Int → Prop) (m'' : List Int → Int → Nat) (r'' : Ex × St) (h : ∀ (b : List Int) (i : Int), I'' b i → (r71 k i mi mqr maa mtc mrd mra mop mrc mq man mns mar b m cs).all fun x'' => x'' = .inr r'' ∨ ∃ (b' : List Int) (i' : Int), x'' = .inl (stOf [1, 3, 30, 31, 32] [.ptr 0 0, .ptr 1 0, .rowA 4, .int .i64 k, .int .i64 i'] [MO mi mqr maa mtc mrd mra mop mrc mq man mns mar, .box [.rowA 2, .mp 3], .row (.int .u8) b', .mpo .str (.int .i64) m, .row (.int .i64) cs]) ∧ I'' b' i' ∧ m'' b' i' < m'' b i) (lp : Lp) (b : List Int) (i : Int) : I'' b i →
    loopF (fun st => evC T0 (orcB [fs99w, fs100w, fs103w] [os97, os98, os104, os101w, os102w]) lp b71 0 st (roundK [1, 3, 30, 31, 32] [1, 3] 0)) (stOf [1, 3, 30, 31, 32] [.ptr 0 0, .ptr 1 0, .rowA 4, .int .i64 k, .int .i64 i] [MO mi mqr maa mtc mrd mra mop mrc mq man mns mar, .box [.rowA 2, .mp 3], .row (.int .u8) b, .mpo .str (.int .i64) m, .row (.int .i64) cs]) = some r'' :=
 loop_tr (fun a'' : List Int × Int => stOf [1, 3, 30, 31, 32] [.ptr 0 0, .ptr 1 0, .rowA 4, .int .i64 k, .int .i64 a''.2] [MO mi mqr maa mtc mrd mra mop mrc mq man mns mar, .box [.rowA 2, .mp 3], .row (.int .u8) a''.1, .mpo .str (.int .i64) m, .row (.int .i64) cs]) (fun a'' => I'' a''.1 a''.2) (fun a'' => m'' a''.1 a''.2) r'' (fun a'' => r71 k a''.2 mi mqr maa mtc mrd mra mop mrc mq man mns mar a''.1 m cs)
  (fun a'' x hx => (round71 lp k a''.2 mi mqr maa mtc mrd mra mop mrc mq man mns mar a''.1 m cs).trans hx) (fun a'' ha => Tr.all_mono (fun x'' hx => hx.imp id fun ⟨b', i', h1, h2, h3⟩ => ⟨(b', i'), h1, h2, h3⟩) (h (a''.1) (a''.2) ha)) (b, i)
noncomputable def b71q : Code := nthLoop c71 1
def ls71q : LoopSpec := { bid := 2, sh := [.ptr 0 0, .ptr 1 0, .d (.list QQ) false, .d (.int .i64) false, .d (.int .i64) false], so := [MOs, .box [.row 2, .mp 3], .row (.int .u8), .map .str (.int .i64)], F := fun (qs, k, i, _) ((mi, mqr, maa, mtc, mrd, mra, mop, mrc, mq, man, mns, mar, _), _, b, m, _) => .on (qsC qs b m k i) (.exit 2, [.ptr 0 0, .ptr 1 0], [MO mi mqr maa mtc mrd mra mop mrc mq man mns mar, .box [.rowA 2, .mp 3], .row (.int .u8) (bytesInt (putQs qs (intBytes b, m)).1), .mpo .str (.int .i64) (putQs qs (intBytes b, m)).2]) }
def r71q (qs : List QQt) (k i mi : Int) (mqr maa mtc mrd mra : Bool) (mop mrc : Int) (mq : List QQt) (man mns mar : List RRt) (b : List Int) (m : List (List UInt8 × Int)) : Tr (St ⊕ (Ex × St)) := .br (decide (i < k)) (.br (decide (0 ≤ i)) (.br (decide (i < (↑qs.length : Int))) (.br (pkT b m && qOk (qs.getD i.toNat (Ty.dflt QQ))) (.br (mayV (qs.getD i.toNat (Ty.dflt QQ)).1) (.ret (.inl (stOf [1, 3, 43, 44, 45] [.ptr 0 0, .ptr 1 0, .list QQ qs, .int .i64 k, .int .i64 (IntKind.wrap .i64 (i + 1))] [MO mi mqr maa mtc mrd mra mop mrc mq man mns mar, .boxT none [.rowA 2, .mp 3], .row (.int .u8) (bytesInt (putQ (qs.getD i.toNat (Ty.dflt QQ)) (intBytes b, m)).1), .mpo .str (.int .i64) (putQ (qs.getD i.toNat (Ty.dflt QQ)) (intBytes b, m)).2]))) (.ret (.inl (stOf [1, 3, 43, 44, 45] [.ptr 0 0, .ptr 1 0, .list QQ qs, .int .i64 k, .int .i64 (IntKind.wrap .i64 (i + 1))] [MO mi mqr maa mtc mrd mra mop mrc mq man mns mar, .boxT none [.rowA 2, .mp 3], .row (.int .u8) b, .mpo .str (.int .i64) m])))) .no) .no) .no) (.ret (.inr (.exit 2, stOf [1, 3] [.ptr 0 0, .ptr 1 0] [MO mi mqr maa mtc mrd mra mop mrc mq man mns mar, .boxT none [.rowA 2, .mp 3], .row (.int .u8) b, .mpo .str (.int .i64) m])))
theorem round71q (lp : Lp) (qs : List QQt) (k i mi : Int) (mqr maa mtc mrd mra : Bool) (mop mrc : Int) (mq : List QQt) (man mns mar : List RRt) (b : List Int) (m : List (List UInt8 × Int)) : evC T0 (orcB [fs99w, fs100w, fs103w] [os97, os98, os104, os101w, os102w]) lp b71q 2 (stOf [1, 3, 43, 44, 45] [.ptr 0 0, .ptr 1 0, .list QQ qs, .int .i64 k, .int .i64 i] [MO mi mqr maa mtc mrd mra mop mrc mq man mns mar, .box [.rowA 2, .mp 3], .row (.int .u8) b, .mpo .str (.int .i64) m]) (roundK [1, 3, 43, 44, 45] [1, 3] 0) = (r71q qs k i mi mqr maa mtc mrd mra mop mrc mq man mns mar b m).get := by kernel_rfl
theorem wf71q (qs : List QQt) (k mi : Int) (mqr maa mtc mrd mra : Bool) (mop mrc : Int) (mq : List QQt) (man mns mar : List RRt) (I'' : List Int → List (List UInt8 × Int) → Int → Prop) (m'' : List Int → List (List UInt8 × Int) → Int → Nat) (r'' : Ex × St) (h : ∀ (b : List Int) (m : List (List UInt8 × Int)) (i : Int), I'' b m i → (r71q qs k i mi mqr maa mtc mrd mra mop mrc mq man mns mar b m).all fun x'' => x'' = .inr r'' ∨ ∃ (b' : List Int) (m' : List (List UInt8 × Int)) (i' : Int), x'' = .inl (stOf [1, 3, 43, 44, 45] [.ptr 0 0, .ptr 1 0, .list QQ qs, .int .i64 k, .int .i64 i'] [MO mi mqr maa mtc mrd mra mop mrc mq man mns mar, .box [.rowA 2, .mp 3], .row (.int .u8) b', .mpo .str (.int .i64) m']) ∧ I'' b' m' i' ∧ m'' b' m' i' < m'' b m i) (lp : Lp) (b : List Int) (m : List (List UInt8 × Int)) (i : Int) : I'' b m i →
    loopF (fun st => evC T0 (orcB [fs99w, fs100w, fs103w] [os97, os98, os104, os101w, os102w]) lp b71q 2 st (roundK [1, 3, 43, 44, 45] [1, 3] 0)) (stOf [1, 3, 43, 44, 45] [.ptr 0 0, .ptr 1 0, .list QQ qs, .int .i64 k, .int .i64 i] [MO mi mqr maa mtc mrd mra mop mrc mq man mns mar, .box [.rowA 2, .mp 3], .row (.int .u8) b, .mpo .str (.int .i64) m]) = some r'' :=
 loop_tr (fun a'' : List Int × List (List UInt8 × Int) × Int => stOf [1, 3, 43, 44, 45] [.ptr 0 0, .ptr 1 0, .list QQ qs, .int .i64 k, .int .i64 a''.2.2] [MO mi mqr maa mtc mrd mra mop mrc mq man mns mar, .box [.rowA 2, .mp 3], .row (.int .u8) a''.1, .mpo .str (.int .i64) a''.2.1]) (fun a'' => I'' a''.1 a''.2.1 a''.2.2) (fun a'' => m'' a''.1 a''.2.1 a''.2.2) r'' (fun a'' => r71q qs k a''.2.2 mi mqr maa mtc mrd mra mop mrc mq man mns mar a''.1 a''.2.1)
  (fun a'' x hx => (round71q lp qs k a''.2.2 mi mqr maa mtc mrd mra mop mrc mq man mns mar a''.1 a''.2.1).trans hx) (fun a'' ha => Tr.all_mono (fun x'' hx => hx.imp id fun ⟨b', m', i', h1, h2, h3⟩ => ⟨(b', m', i'), h1, h2, h3⟩) (h (a''.1) (a''.2.1) (a''.2.2) ha)) (b, m, i)
def cnI (l : List Int) (b0 : List Int) (b : List Int) (i : Int) : Prop := 0 ≤ i ∧ i ≤ l.length ∧ b.length ≤ 100 + 2 * i.toNat ∧ b ++ bytesInt (cntB (l.drop i.toNat)) = b0 ++ bytesInt (cntB l)
theorem n16C_iff {n : Int} : n16C n = true ↔ 0 ≤ n ∧ n ≤ 65535 := by
 unfold n16C
 rw [Bool.and_eq_true, decide_eq_true_eq, decide_eq_true_eq]
theorem loop71 : ls71.Ok T0 (orcB [fs99w, fs100w, fs103w] [os97, os98, os104, os101w, os102w]) h71 0 0 b71 := by
 intro q'' hq'' x'' y'' r'' h
 obtain ⟨(k : Int), (i : Int), _⟩ := x''
 obtain ⟨⟨(mi : Int), (mqr : Bool), (maa : Bool), (mtc : Bool), (mrd : Bool), (mra : Bool), (mop : Int), (mrc : Int), (mq : List QQt), (man : List RRt), (mns : List RRt), (mar : List RRt), _⟩, _, (b : List Int), (m : List (List UInt8 × Int)), (cs : List Int), _⟩ := y''
 obtain ⟨hc, rfl⟩ := Tr.get_on h
 show loopF (fun st => evC T0 (orcB [fs99w, fs100w, fs103w] [os97, os98, os104, os101w, os102w]) (lpN T0 (orcB [fs99w, fs100w, fs103w] [os97, os98, os104, os101w, os102w]) h71 0 q'') b71 0 st (roundK [1, 3, 30, 31, 32] [1, 3] 0)) (stOf [1, 3, 30, 31, 32] [.ptr 0 0, .ptr 1 0, .rowA 4, .int .i64 k, .int .i64 i] [MO mi mqr maa mtc mrd mra mop mrc mq man mns mar, .box [.rowA 2, .mp 3], .row (.int .u8) b, .mpo .str (.int .i64) m, .row (.int .i64) cs]) = some (.exit 0, stOf [1, 3] ([.ptr 0 0, .ptr 1 0]) ([MO mi mqr maa mtc mrd mra mop mrc mq man mns mar, .box [.rowA 2, .mp 3], .row (.int .u8) (b ++ bytesInt (cntB cs)), .mpo .str (.int .i64) m]))
 simp only [cnC, Bool.and_eq_true, decide_eq_true_eq] at hc
 obtain ⟨⟨hall, hl⟩, rfl, rfl, hb⟩ := hc
 have hl := Nat.le_of_ble_eq_true hl
 have hb := Nat.le_of_ble_eq_true hb
 refine wf71 cs.length mi mqr maa mtc mrd mra mop mrc mq man mns mar m cs (cnI cs b) (fun _ i => (cs.length - i).toNat) _ ?_ _ b 0 ⟨by omega, by omega, by omega, rfl⟩
 rintro b' i ⟨h0, h1, hbl, hF⟩
 rw [← hF]
 unfold r71
 by_cases hi : i < cs.length
 · obtain ⟨d1, d2⟩ := drop_getD (Ty.dflt (Ty.int .i64)) h0 hi
   generalize List.getD cs (Int.toNat i) (Ty.dflt (Ty.int .i64)) = n at d1 d2
   have hn := List.all_eq_true.1 hall n d2
   have hw : IntKind.wrap .u16 n = n := IntWalk.u16_in n (by have := n16C_iff.1 hn; omega)
   have e : cntB (cs.drop i.toNat) = put16 n ++ cntB (cs.drop (i + 1).toNat) := by rw [d1]; rfl
   rw [e, bytesInt_app, ← List.append_assoc] at hF
   rw [wrap_succ h0 h1 (by omega), hw, e, bytesInt_app, ← List.append_assoc]
   have hp2 : (bytesInt (put16 n)).length = 2 := by rw [bytesInt_len]; rfl
   refine Tr.all_t (dec_true hi) (Tr.all_t (dec_true h0) (Tr.all_t (dec_true hi) (Tr.all_t hn (Tr.all_t (fits_true (by rw [hp2]; omega) (by rw [hp2]; omega)) (Tr.all_ret (.inr ⟨_, _, rfl, ⟨by omega, by omega, ?_, hF⟩, by omega⟩))))))
   rw [List.length_append, hp2]
   omega
 · refine Tr.all_f (dec_false hi) (Tr.all_ret (.inl ?_))
   rw [List.drop_eq_nil_of_le (by omega), show bytesInt (cntB []) = [] from rfl, List.append_nil]
def qsI (l : List QQt) (p0 : PKt) (b : List Int) (m : Known) (i : Int) : Prop := 0 ≤ i ∧ i ≤ l.length ∧ ∃ p : PKt, b = bytesInt p.1 ∧ m = p.2 ∧ kOk p.2 = true ∧ p.1.length ≤ 1000 + 300 * i.toNat ∧ putQs (l.drop i.toNat) p = putQs l p0
theorem loop71q : ls71q.Ok T0 (orcB [fs99w, fs100w, fs103w] [os97, os98, os104, os101w, os102w]) h71 0 0 b71q := by
 intro q'' hq'' x'' y'' r'' h
 obtain ⟨(qs : List QQt), (k : Int), (i : Int), _⟩ := x''
 obtain ⟨⟨(mi : Int), (mqr : Bool), (maa : Bool), (mtc : Bool), (mrd : Bool), (mra : Bool), (mop : Int), (mrc : Int), (mq : List QQt), (man : List RRt), (mns : List RRt), (mar : List RRt), _⟩, _, (b : List Int), (m : List (List UInt8 × Int)), _⟩ := y''
 obtain ⟨hc, rfl⟩ := Tr.get_on h
 show loopF (fun st => evC T0 (orcB [fs99w, fs100w, fs103w] [os97, os98, os104, os101w, os102w]) (lpN T0 (orcB [fs99w, fs100w, fs103w] [os97, os98, os104, os101w, os102w]) h71 0 q'') b71q 2 st (roundK [1, 3, 43, 44, 45] [1, 3] 0)) (stOf [1, 3, 43, 44, 45] [.ptr 0 0, .ptr 1 0, .list QQ qs, .int .i64 k, .int .i64 i] [MO mi mqr maa mtc mrd mra mop mrc mq man mns mar, .box [.rowA 2, .mp 3], .row (.int .u8) b, .mpo .str (.int .i64) m]) = some (.exit 2, stOf [1, 3] ([.ptr 0 0, .ptr 1 0]) ([MO mi mqr maa mtc mrd mra mop mrc mq man mns mar, .box [.rowA 2, .mp 3], .row (.int .u8) (bytesInt (putQs qs (intBytes b, m)).1), .mpo .str (.int .i64) (putQs qs (intBytes b, m)).2]))
 simp only [qsC, Bool.and_eq_true, decide_eq_true_eq, bgB_iff] at hc
 obtain ⟨⟨hall, hl⟩, rfl, rfl, hok, hk, hb⟩ := hc
 have hl := Nat.le_of_ble_eq_true hl
 refine wf71q qs qs.length mi mqr maa mtc mrd mra mop mrc mq man mns mar (qsI qs (intBytes b, m)) (fun _ _ i => (qs.length - i).toNat) _ ?_ _ b m 0 ⟨by omega, by omega, (intBytes b, m), (bytes_intB hok).symm, rfl, hk, by rw [intB_len]; omega, rfl⟩
 clear hok hk hb
 rintro b' m' i ⟨h0, h1, p, rfl, rfl, hk, hpl, hF⟩
 rw [← hF]
 unfold r71q
 by_cases hi : i < qs.length
 · obtain ⟨d1, d2⟩ := drop_getD (Ty.dflt QQ) h0 hi
   generalize List.getD qs (Int.toNat i) (Ty.dflt QQ) = q at d1 d2
   rw [d1, putQs] at hF
   obtain ⟨q1, q2, q3⟩ := rgQ_ok (List.all_eq_true.1 hall q d2)
   obtain ⟨k1, k2, k3⟩ := putQ_good (P := p) q1 hk
   have hpk : (pkT (bytesInt p.1) p.2 && qOk q) = true := by rw [pkT_iff.2 ⟨bytesInt_ok _, hk, by rw [bytesInt_len]; omega⟩, q2]; rfl
   rw [intB_bytes, wrap_succ h0 h1 (by omega)]
   exact Tr.all_t (dec_true hi) (Tr.all_t (dec_true h0) (Tr.all_t (dec_true hi) (Tr.all_t hpk (Tr.all_t q1 (Tr.all_ret (.inr ⟨_, _, _, rfl, ⟨by omega, by omega, putQ q p, rfl, rfl, k1, by omega, hF⟩, by omega⟩))))))
 · refine Tr.all_f (dec_false hi) (Tr.all_ret (.inl ?_))
   rw [List.drop_eq_nil_of_le (by omega)]
   rfl
def t71 (g : MGt) : Tr Res := .br (n16C g.1) (.br (mayN g) (.br (n16C (flagV g)) (.br (cnC [(↑g.2.2.2.2.2.2.2.2.1.length : Int), (↑g.2.2.2.2.2.2.2.2.2.1.length : Int), (↑g.2.2.2.2.2.2.2.2.2.2.1.length : Int), (↑g.2.2.2.2.2.2.2.2.2.2.2.length : Int)] ([] ++ bytesInt (put16 g.1 ++ put16 (flagV g))) (↑4 : Int) 0) (.br (qsC g.2.2.2.2.2.2.2.2.1 ([] ++ bytesInt (put16 g.1 ++ put16 (flagV g)) ++ bytesInt (cntB [(↑g.2.2.2.2.2.2.2.2.1.length : Int), (↑g.2.2.2.2.2.2.2.2.2.1.length : Int), (↑g.2.2.2.2.2.2.2.2.2.2.1.length : Int), (↑g.2.2.2.2.2.2.2.2.2.2.2.length : Int)])) [] (↑g.2.2.2.2.2.2.2.2.1.length : Int) 0) (.br (catB [g.2.2.2.2.2.2.2.2.2.1, g.2.2.2.2.2.2.2.2.2.2.1, g.2.2.2.2.2.2.2.2.2.2.2]) (.br (rcsC (List.flatten [g.2.2.2.2.2.2.2.2.2.1, g.2.2.2.2.2.2.2.2.2.2.1, g.2.2.2.2.2.2.2.2.2.2.2]) (bytesInt (putQs g.2.2.2.2.2.2.2.2.1 (intBytes ([] ++ bytesInt (put16 g.1 ++ put16 (flagV g)) ++ bytesInt (cntB [(↑g.2.2.2.2.2.2.2.2.1.length : Int), (↑g.2.2.2.2.2.2.2.2.2.1.length : Int), (↑g.2.2.2.2.2.2.2.2.2.2.1.length : Int), (↑g.2.2.2.2.2.2.2.2.2.2.2.length : Int)])), [])).1) (putQs g.2.2.2.2.2.2.2.2.1 (intBytes ([] ++ bytesInt (put16 g.1 ++ put16 (flagV g)) ++ bytesInt (cntB [(↑g.2.2.2.2.2.2.2.2.1.length : Int), (↑g.2.2.2.2.2.2.2.2.2.1.length : Int), (↑g.2.2.2.2.2.2.2.2.2.2.1.length : Int), (↑g.2.2.2.2.2.2.2.2.2.2.2.length : Int)])), [])).2 (↑(List.length (List.flatten [g.2.2.2.2.2.2.2.2.2.1, g.2.2.2.2.2.2.2.2.2.2.1, g.2.2.2.2.2.2.2.2.2.2.2])) : Int) 0) (.ret ([.str (intBytes (bytesInt (putRs (List.flatten [g.2.2.2.2.2.2.2.2.2.1, g.2.2.2.2.2.2.2.2.2.2.1, g.2.2.2.2.2.2.2.2.2.2.2]) (intBytes (bytesInt (putQs g.2.2.2.2.2.2.2.2.1 (intBytes ([] ++ bytesInt (put16 g.1 ++ put16 (flagV g)) ++ bytesInt (cntB [(↑g.2.2.2.2.2.2.2.2.1.length : Int), (↑g.2.2.2.2.2.2.2.2.2.1.length : Int), (↑g.2.2.2.2.2.2.2.2.2.2.1.length : Int), (↑g.2.2.2.2.2.2.2.2.2.2.2.length : Int)])), [])).1), (putQs g.2.2.2.2.2.2.2.2.1 (intBytes ([] ++ bytesInt (put16 g.1 ++ put16 (flagV g)) ++ bytesInt (cntB [(↑g.2.2.2.2.2.2.2.2.1.length : Int), (↑g.2.2.2.2.2.2.2.2.2.1.length : Int), (↑g.2.2.2.2.2.2.2.2.2.2.1.length : Int), (↑g.2.2.2.2.2.2.2.2.2.2.2.length : Int)])), [])).2)).1))], [])) .no) .no) .no) .no) .no) .no) .no
def os71 : OSpec := { f := 71, sh := [.d MG true], so := [], F := fun (g, _) _ => t71 g }
theorem fn71 (g : MGt) : evC T0 (orcB [fs99w, fs100w, fs103w] [os97, os98, os104, os101w, os102w]) (lpOf h71 0 (lsOf [ls71, ls71q])) c71 1000000 (startSt [AV.ofTy MG g true] [] Try.f71.ntmps) (finishK T0 false 0 Try.f71) = (t71 g).get := by kernel_rfl
theorem ok71 : os71.Ok Try.prog := by
 refine os_ok mixed0 tab0 (orcB_sound (all_cons okf99w (all_cons okf100w (all_cons okf103w all_nil))) (all_cons ok97 (all_cons ok98 (all_cons ok104 (all_cons ok101w (all_cons ok102w all_nil)))))) h71 (d := 0) (n0 := 0) (S := lsOf [ls71, ls71q]) Try.func71 (by kernel_rfl) (c := c71) (by kernel_rfl) rfl (loops_eq (xs := [(0, b71), (2, b71q)]) (by kernel_rfl) (all_cons (ls_here loop71) (all_cons (ls_skip (by kernel_rfl) (ls_here loop71q)) all_nil))) (by omega) (by kernel_rfl) ?_
 intro x'' y'' q'' hq''
 obtain ⟨(g : MGt), _⟩ := x''
 exact (fn71 g).trans hq''
def fs71 : FSpec := fsT 71 [(MG, true)] [(.str, false)] fun (g, _) => t71 g
theorem okf71 : fs71.Ok Try.prog := fsT_ok fun x'' r'' hr'' => ok71 x'' () r'' hr''
def recsM (m : MGt) : List RRt := mAn m ++ (mNs m ++ mAr m)
def bytP (m : MGt) : PKt := putRs (recsM m) (putQs (mQ m) (headB m, []))
def bytM (m : MGt) : List UInt8 := (bytP m).1
def rngQ (q : QQt) : Bool := n16C q.2.1 && n16C q.2.2
def rngM (m : MGt) : Bool := n16C m.1 && ((mQ m).all rngQ && (recsM m).all rngR)
def goodM (m : MGt) : Bool := mayM m && (rngM m && lesM m)
theorem goodL_all {l : List RRt} (h : goodL l = true) : l.all recV = true := by
 unfold goodL at h
 obtain ⟨h1, _⟩ := Bool.and_eq_true_iff.1 h
 rw [List.all_eq_true]
 intro r hr
 rw [Bool.not_eq_true', List.any_eq_false] at h1
 have := h1 r hr
 unfold noR at this
 simpa using this
theorem goodQ_all {l : List QQt} (h : goodQ l = true) : (l.all fun q => mayV q.1) = true := by
 unfold goodQ at h
 obtain ⟨h1, _⟩ := Bool.and_eq_true_iff.1 h
 rw [List.all_eq_true]
 intro r hr
 rw [Bool.not_eq_true', List.any_eq_false] at h1
 have := h1 r hr
 unfold noQ at this
 simpa using this
theorem mayM_iff {m : MGt} : mayM m = true ↔ mayN m = true ∧ goodQ (mQ m) = true ∧ goodL (mAn m) = true ∧ goodL (mNs m) = true ∧ goodL (mAr m) = true := by
 unfold mayM
 rw [Bool.and_eq_true, Bool.and_eq_true, Bool.and_eq_true, Bool.and_eq_true]
theorem all_and' {α : Type} {f g : α → Bool} {l : List α} (h1 : l.all f = true) (h2 : l.all g = true) : (l.all fun x => f x && g x) = true := by
 rw [List.all_eq_true] at *
 exact fun x hx => by rw [h1 x hx, h2 x hx]; rfl
theorem goodM_facts {m : MGt} (h : goodM m = true) : mayN m = true ∧ n16C m.1 = true ∧ ((mQ m).length ≤ 1500 ∧ (mAn m).length ≤ 1500 ∧ (mNs m).length ≤ 1500 ∧ (mAr m).length ≤ 1500) ∧ (mQ m).all rgQ = true ∧ (recsM m).all rgR = true ∧ (recsM m).length ≤ 4500 := by
 unfold goodM at h
 rw [Bool.and_eq_true, Bool.and_eq_true, lesM_iff, mayM_iff] at h
 obtain ⟨⟨h1, h2, h3, h4, h5⟩, h6, h7⟩ := h
 unfold rngM at h6
 rw [Bool.and_eq_true, Bool.and_eq_true] at h6
 obtain ⟨g1, g2, g3⟩ := h6
 refine ⟨h1, g1, h7, all_and' (goodQ_all h2) g2, all_and' ?_ g3, ?_⟩
 · unfold recsM
   rw [List.all_append, List.all_append, goodL_all h3, goodL_all h4, goodL_all h5]
   rfl
 · unfold recsM
   rw [List.length_append, List.length_append]
   omega
theorem headB_len (m : MGt) : (headB m).length = 12 := rfl
def fs71w : FSpec := fs71.like fun (m, _) => .on (goodM m) (bytM m, ())
theorem okf71w : fs71w.Ok Try.prog := by
 refine flike_ok okf71 _ ?_
 rintro ⟨(m : MGt), _⟩ y h
 obtain ⟨hb, rfl⟩ := Tr.get_on h
 have hb : goodM m = true := hb
 obtain ⟨h1, h2, ⟨l1, l2, l3, l4⟩, hq, hr, hl⟩ := goodM_facts hb
 refine convR_of (vs := [.str (bytM m)]) rfl rfl (Tr.get_of_all ?_)
 show (t71 m).all _
 have hf := flagV_in h1
 have hH : [] ++ bytesInt (put16 m.1 ++ put16 (flagV m)) ++ bytesInt (cntB [((mQ m).length : Int), ((mAn m).length : Int), ((mNs m).length : Int), ((mAr m).length : Int)]) = bytesInt (headB m) := rfl
 have hA : List.flatten [mAn m, mNs m, mAr m] = recsM m := by
  show mAn m ++ (mNs m ++ (mAr m ++ [])) = _
  rw [List.append_nil]; rfl
 have hA' : List.flatten [m.2.2.2.2.2.2.2.2.2.1, m.2.2.2.2.2.2.2.2.2.2.1, m.2.2.2.2.2.2.2.2.2.2.2] = recsM m := hA
 have hH' : [] ++ bytesInt (put16 m.1 ++ put16 (flagV m)) ++ bytesInt (cntB [(m.2.2.2.2.2.2.2.2.1.length : Int), (m.2.2.2.2.2.2.2.2.2.1.length : Int), (m.2.2.2.2.2.2.2.2.2.2.1.length : Int), (m.2.2.2.2.2.2.2.2.2.2.2.length : Int)]) = bytesInt (headB m) := rfl
 obtain ⟨a1, a2, a3⟩ := putQs_good (P := (headB m, [])) hq rfl
 have e : (headB m, ([] : Known)).1.length = 12 := rfl
 unfold t71
 rw [hH', hA']
 simp only [intB_bytes]
 refine Tr.all_t h2 (Tr.all_t h1 (Tr.all_t (n16_of hf) (Tr.all_t ?_ (Tr.all_t ?_ (Tr.all_t ?_ (Tr.all_t ?_ (Tr.all_ret rfl)))))))
 · unfold cnC
   have c1 : n16C (m.2.2.2.2.2.2.2.2.1.length : Int) = true := n16_of (by have : m.2.2.2.2.2.2.2.2.1.length ≤ 1500 := l1; omega)
   have c2 : n16C (m.2.2.2.2.2.2.2.2.2.1.length : Int) = true := n16_of (by have : m.2.2.2.2.2.2.2.2.2.1.length ≤ 1500 := l2; omega)
   have c3 : n16C (m.2.2.2.2.2.2.2.2.2.2.1.length : Int) = true := n16_of (by have : m.2.2.2.2.2.2.2.2.2.2.1.length ≤ 1500 := l3; omega)
   have c4 : n16C (m.2.2.2.2.2.2.2.2.2.2.2.length : Int) = true := n16_of (by have : m.2.2.2.2.2.2.2.2.2.2.2.length ≤ 1500 := l4; omega)
   rw [List.all_cons, List.all_cons, List.all_cons, List.all_cons, c1, c2, c3, c4]
   rfl
 · unfold qsC
   rw [show m.2.2.2.2.2.2.2.2.1.all rgQ = true from hq, Nat.ble_eq_true_of_le (show m.2.2.2.2.2.2.2.2.1.length ≤ 1500 from l1), dec_true rfl, dec_true rfl, bgB_iff.2 ⟨bytesInt_ok _, rfl, by rw [bytesInt_len, headB_len]; omega⟩]
   rfl
 · unfold catB
   have c2 : decide (m.2.2.2.2.2.2.2.2.2.1.length ≤ 1000000) = true := dec_true (by have : m.2.2.2.2.2.2.2.2.2.1.length ≤ 1500 := l2; omega)
   have c3 : decide (m.2.2.2.2.2.2.2.2.2.2.1.length ≤ 1000000) = true := dec_true (by have : m.2.2.2.2.2.2.2.2.2.2.1.length ≤ 1500 := l3; omega)
   have c4 : decide (m.2.2.2.2.2.2.2.2.2.2.2.length ≤ 1000000) = true := dec_true (by have : m.2.2.2.2.2.2.2.2.2.2.2.length ≤ 1500 := l4; omega)
   rw [List.all_cons, List.all_cons, List.all_cons, c2, c3, c4]
   rfl
 · unfold rcsC
   have a1 : kOk (putQs m.2.2.2.2.2.2.2.2.1 (headB m, [])).2 = true := a1
   have a2 : (putQs m.2.2.2.2.2.2.2.2.1 (headB m, [])).1.length ≤ (headB m, ([] : Known)).1.length + 300 * m.2.2.2.2.2.2.2.2.1.length := a2
   have l1 : m.2.2.2.2.2.2.2.2.1.length ≤ 1500 := l1
   rw [hr, Nat.ble_eq_true_of_le hl, dec_true rfl, dec_true rfl, bgB_iff.2 ⟨bytesInt_ok _, a1, by rw [bytesInt_len]; omega⟩]
   rfl
def t34 (g : MGt) : Tr Res := .br (bigM g) (.br (!mayM g) (.ret ([.str [], .int .i64 1], [])) (.br (goodM g) (.br (decide ((↑(List.length (bytM g)) : Int) > 65535)) (.ret ([.str [], .int .i64 3], [])) (.ret ([.str (bytM g), .int .i64 0], []))) .no)) .no
def os34 : OSpec := { f := 34, sh := [.d MG true], so := [], F := fun (g, _) _ => t34 g }
theorem fn34 (g : MGt) : evC T0 (orcB [fs70w, fs71w] []) (lpOf h34 0 (lsOf [])) c34 1000000 (startSt [AV.ofTy MG g true] [] Try.f34.ntmps) (finishK T0 false 0 Try.f34) = (t34 g).get := by kernel_rfl
theorem ok34 : os34.Ok Try.prog := by
 refine os_ok mixed0 tab0 (orcB_sound (all_cons okf70w (all_cons okf71w all_nil)) all_nil) h34 (d := 0) (n0 := 0) (S := lsOf []) Try.func34 (by kernel_rfl) (c := c34) (by kernel_rfl) rfl (no_loops (by kernel_rfl)) (by omega) (by kernel_rfl) ?_
 intro x'' y'' q'' hq''
 obtain ⟨(g : MGt), _⟩ := x''
 exact (fn34 g).trans hq''
def fs34 : FSpec := fsT 34 [(MG, true)] [(.str, false), ((.int .i64), false)] fun (g, _) => t34 g
theorem okf34 : fs34.Ok Try.prog := fsT_ok fun x'' r'' hr'' => ok34 x'' () r'' hr''
def putV (m : MGt) : List UInt8 × Int := bif mayM m then (bif decide (((bytM m).length : Int) > 65535) then ([], 3) else (bytM m, 0)) else ([], 1)
def okPM (m : MGt) : Bool := bigM m && (rngM m && lesM m)
theorem okPM_iff {m : MGt} : okPM m = true ↔ bigM m = true ∧ rngM m = true ∧ lesM m = true := by
 unfold okPM
 rw [Bool.and_eq_true, Bool.and_eq_true]
theorem goodM_of {m : MGt} (h : okPM m = true) (hm : mayM m = true) : goodM m = true := by
 obtain ⟨_, h2, h3⟩ := okPM_iff.1 h
 unfold goodM
 rw [hm, h2, h3]; rfl
def fs34w : FSpec := fs34.like fun (m, _) => .on (okPM m) ((putV m).1, (putV m).2, ())
theorem okf34w : fs34w.Ok Try.prog := by
 refine flike_ok okf34 _ ?_
 rintro ⟨(m : MGt), _⟩ y h
 obtain ⟨hb, rfl⟩ := Tr.get_on h
 have hb : okPM m = true := hb
 refine convR_of (vs := [.str (putV m).1, .int .i64 (putV m).2]) rfl rfl (Tr.get_of_all ?_)
 show (t34 m).all _
 unfold t34 putV
 refine Tr.all_t (okPM_iff.1 hb).1 ?_
 cases hm : mayM m with
 | false => exact Tr.all_t rfl (Tr.all_ret rfl)
 | true => exact Tr.all_f rfl (Tr.all_t (goodM_of hb hm) (Tr.all_br (fun c => Tr.all_ret (by rw [c]; rfl)) fun c => Tr.all_ret (by rw [c]; rfl)))
def rpsC (l : List RRt) (S : List UInt8) (L : Known) (i : Int) : Bool := (l.all rgR && Nat.ble l.length 1500) && (decide (i = 0) && (kOk L && (Nat.ble S.length 500000000 && Nat.ble L.length 500000000)))
def rqsC (l : List QQt) (S : List UInt8) (L : Known) (i : Int) : Bool := (l.all rgQ && Nat.ble l.length 1500) && (decide (i = 0) && (kOk L && (Nat.ble S.length 1000 && Nat.ble L.length 1000)))
noncomputable def b109 : Code := nthLoop c109 0
def ls109 : LoopSpec := { bid := 0, sh := [.d (.list RR) false, .ptr 0 0, .ptr 1 0, .d (.int .i64) false], so := [.box [.d .str false, .d (.list (.pair .str (.int .i64))) false], .box [.d .str false, .row 2], .row (.pair .str (.int .i64))], F := fun (l, i, _) ((S, L, _), (Z, _), zl, _) => .on (rpsC l S L i) (.exit 0, [.ptr 0 0, .ptr 1 0], [.box [.str (putRs l (S, L)).1, .list (.pair .str (.int .i64)) (putRs l (S, L)).2], .box [.str Z, .rowA 2], .row (.pair .str (.int .i64)) zl]) }
def r109 (l : List RRt) (i : Int) (S : List UInt8) (L : List (List UInt8 × Int)) (Z : List UInt8) (zl : List (List UInt8 × Int)) : Tr (St ⊕ (Ex × St)) := .br (decide (i < (↑l.length : Int))) (.br (decide (0 ≤ i)) (.br (decide (i < (↑l.length : Int))) (.br (ptS (S, L) && rOk (l.getD i.toNat (Ty.dflt RR))) (.br (recV (l.getD i.toNat (Ty.dflt RR))) (.ret (.inl (stOf [1, 2, 4, 5] [.list RR l, .ptr 0 0, .ptr 1 0, .int .i64 (IntKind.wrap .i64 (i + 1))] [.boxT none [.str (recP (l.getD i.toNat (Ty.dflt RR)) (S, L)).1, .list (Ty.pair Ty.str (Ty.int .i64)) (recP (l.getD i.toNat (Ty.dflt RR)) (S, L)).2], .boxT none [.str Z, .rowA 2], .row (Ty.pair Ty.str (Ty.int .i64)) zl]))) (.ret (.inl (stOf [1, 2, 4, 5] [.list RR l, .ptr 0 0, .ptr 1 0, .int .i64 (IntKind.wrap .i64 (i + 1))] [.boxT none [.str S, .list (Ty.pair Ty.str (Ty.int .i64)) L], .boxT none [.str Z, .rowA 2], .row (Ty.pair Ty.str (Ty.int .i64)) zl])))) .no) .no) .no) (.ret (.inr (.exit 0, stOf [2, 4] [.ptr 0 0, .ptr 1 0] [.boxT none [.str S, .list (Ty.pair Ty.str (Ty.int .i64)) L], .boxT none [.str Z, .rowA 2], .row (Ty.pair Ty.str (Ty.int .i64)) zl])))
theorem round109 (lp : Lp) (l : List RRt) (i : Int) (S : List UInt8) (L : List (List UInt8 × Int)) (Z : List UInt8) (zl : List (List UInt8 × Int)) : evC TN (orcB [fs132w] []) lp b109 0 (stOf [1, 2, 4, 5] [.list RR l, .ptr 0 0, .ptr 1 0, .int .i64 i] [.box [.str S, .list (.pair .str (.int .i64)) L], .box [.str Z, .rowA 2], .row (.pair .str (.int .i64)) zl]) (roundK [1, 2, 4, 5] [2, 4] 0) = (r109 l i S L Z zl).get := by kernel_rfl
theorem wf109 (l : List RRt) (Z : List UInt8) (zl : List (List UInt8 × Int)) (I'' : Int → List UInt8 → List (List UInt8 × Int) → Prop) (m'' : Int → List UInt8 → List (List UInt8 × Int) → Nat) (r'' : Ex × St) (h : ∀ (i : Int) (S : List UInt8) (L : List (List UInt8 × Int)), I'' i S L → (r109 l i S L Z zl).all fun x'' => x'' = .inr r'' ∨ ∃ (i' : Int) (S' : List UInt8) (L' : List (List UInt8 × Int)), x'' = .inl (stOf [1, 2, 4, 5] [.list RR l, .ptr 0 0, .ptr 1 0, .int .i64 i'] [.box [.str S', .list (.pair .str (.int .i64)) L'], .box [.str Z, .rowA 2], .row (.pair .str (.int .i64)) zl]) ∧ I'' i' S' L' ∧ m'' i' S' L' < m'' i S L) (lp : Lp) (i : Int) (S : List UInt8) (L : List (List UInt8 × Int)) : I'' i S L →
    loopF (fun st => evC TN (orcB [fs132w] []) lp b109 0 st (roundK [1, 2, 4, 5] [2, 4] 0)) (stOf [1, 2, 4, 5] [.list RR l, .ptr 0 0, .ptr 1 0, .int .i64 i] [.box [.str S, .list (.pair .str (.int .i64)) L], .box [.str Z, .rowA 2], .row (.pair .str (.int .i64)) zl]) = some r'' :=
 loop_tr (fun a'' : Int × List UInt8 × List (List UInt8 × Int) => stOf [1, 2, 4, 5] [.list RR l, .ptr 0 0, .ptr 1 0, .int .i64 a''.1] [.box [.str a''.2.1, .list (.pair .str (.int .i64)) a''.2.2], .box [.str Z, .rowA 2], .row (.pair .str (.int .i64)) zl]) (fun a'' => I'' a''.1 a''.2.1 a''.2.2) (fun a'' => m'' a''.1 a''.2.1 a''.2.2) r'' (fun a'' => r109 l a''.1 a''.2.1 a''.2.2 Z zl)
  (fun a'' x hx => (round109 lp l a''.1 a''.2.1 a''.2.2 Z zl).trans hx) (fun a'' ha => Tr.all_mono (fun x'' hx => hx.imp id fun ⟨i', S', L', h1, h2, h3⟩ => ⟨(i', S', L'), h1, h2, h3⟩) (h (a''.1) (a''.2.1) (a''.2.2) ha)) (i, S, L)
def rpsI (l : List RRt) (p0 : PKt) (i : Int) (S : List UInt8) (L : Known) : Prop := 0 ≤ i ∧ i ≤ l.length ∧ kOk L = true ∧ S.length ≤ 500000000 + 66000 * i.toNat ∧ L.length ≤ 500000000 + 66000 * i.toNat ∧ putRs (l.drop i.toNat) (S, L) = putRs l p0
theorem loop109 : ls109.Ok TN (orcB [fs132w] []) h109 0 0 b109 := by
 intro q'' hq'' x'' y'' r'' h
 obtain ⟨(l : List RRt), (i : Int), _⟩ := x''
 obtain ⟨⟨(S : List UInt8), (L : List (List UInt8 × Int)), _⟩, ⟨(Z : List UInt8), _⟩, (zl : List (List UInt8 × Int)), _⟩ := y''
 obtain ⟨hc, rfl⟩ := Tr.get_on h
 show loopF (fun st => evC TN (orcB [fs132w] []) (lpN TN (orcB [fs132w] []) h109 0 q'') b109 0 st (roundK [1, 2, 4, 5] [2, 4] 0)) (stOf [1, 2, 4, 5] [.list RR l, .ptr 0 0, .ptr 1 0, .int .i64 i] [.box [.str S, .list (.pair .str (.int .i64)) L], .box [.str Z, .rowA 2], .row (.pair .str (.int .i64)) zl]) = some (.exit 0, stOf [2, 4] ([.ptr 0 0, .ptr 1 0]) ([.box [.str (putRs l (S, L)).1, .list (.pair .str (.int .i64)) (putRs l (S, L)).2], .box [.str Z, .rowA 2], .row (.pair .str (.int .i64)) zl]))
 simp only [rpsC, Bool.and_eq_true, decide_eq_true_eq] at hc
 obtain ⟨⟨hall, hl⟩, rfl, hk, hb, hb2⟩ := hc
 have hl := Nat.le_of_ble_eq_true hl
 have hb := Nat.le_of_ble_eq_true hb
 have hb2 := Nat.le_of_ble_eq_true hb2
 refine wf109 l Z zl (rpsI l (S, L)) (fun i _ _ => (l.length - i).toNat) _ ?_ _ 0 S L ⟨by omega, by omega, hk, by omega, by omega, rfl⟩
 clear hk hb hb2
 rintro i S' L' ⟨h0, h1, hk, hpl, hpl2, hF⟩
 rw [← hF]
 unfold r109
 by_cases hi : i < l.length
 · obtain ⟨d1, d2⟩ := drop_getD (Ty.dflt RR) h0 hi
   generalize List.getD l (Int.toNat i) (Ty.dflt RR) = r at d1 d2
   rw [d1, putRs] at hF
   obtain ⟨q1, q2, q3, q4⟩ := rgR_ok (List.all_eq_true.1 hall r d2)
   obtain ⟨k1, k2, k3⟩ := recP_good (P := (S', L')) q1 hk
   have hpk : (ptS (S', L') && rOk r) = true := by rw [ptS_iff.2 ⟨hk, by show S'.length ≤ _; omega, by show L'.length ≤ _; omega⟩, q2]; rfl
   have k2 : (recP r (S', L')).1.length ≤ S'.length + r.1.length + r.2.2.2.2.length + 10 := k2
   have k3 : (recP r (S', L')).2.length ≤ L'.length + r.1.length + r.2.2.2.2.length := k3
   rw [wrap_succ h0 h1 (by omega)]
   exact Tr.all_t (dec_true hi) (Tr.all_t (dec_true h0) (Tr.all_t (dec_true hi) (Tr.all_t hpk (Tr.all_t q1 (Tr.all_ret (.inr ⟨_, _, _, rfl, ⟨by omega, by omega, k1, by omega, by omega, hF⟩, by omega⟩))))))
 · refine Tr.all_f (dec_false hi) (Tr.all_ret (.inl ?_))
   rw [List.drop_eq_nil_of_le (by omega)]
   rfl
def t109 (p : (List UInt8 × List (List UInt8 × Int))) (l : List RRt) : Tr Res := .br (rpsC l p.1 p.2 0) (.ret ([.agg [.str (putRs l p).1, .list (Ty.pair Ty.str (Ty.int .i64)) (putRs l p).2]], [])) .no
def os109 : OSpec := { f := 109, sh := [.d (.pair .str (.list (.pair .str (.int .i64)))) true, .d (.list RR) false], so := [], F := fun (p, l, _) _ => t109 p l }
theorem fn109 (p : (List UInt8 × List (List UInt8 × Int))) (l : List RRt) : evC TN (orcB [fs132w] []) (lpOf h109 0 (lsOf [ls109])) c109 1000000 (startSt [AV.ofTy (.pair .str (.list (.pair .str (.int .i64)))) p true, .list RR l] [] Try.f109.ntmps) (finishK TN false 0 Try.f109) = (t109 p l).get := by kernel_rfl
theorem ok109 : os109.Ok Try.prog := by
 refine os_ok mixed0 tabN (orcB_sound (all_cons okf132w all_nil) all_nil) h109 (d := 0) (n0 := 0) (S := lsOf [ls109]) Try.func109 (by kernel_rfl) (c := c109) (by kernel_rfl) rfl (loops_eq (xs := [(0, b109)]) (by kernel_rfl) (all_cons (ls_here loop109) all_nil)) (by omega) (by kernel_rfl) ?_
 intro x'' y'' q'' hq''
 obtain ⟨(p : (List UInt8 × List (List UInt8 × Int))), (l : List RRt), _⟩ := x''
 exact (fn109 p l).trans hq''
def fs109 : FSpec := fsT 109 [((.pair .str (.list (.pair .str (.int .i64)))), true), ((.list RR), false)] [((.pair .str (.list (.pair .str (.int .i64)))), true)] fun (p, l, _) => t109 p l
theorem okf109 : fs109.Ok Try.prog := fsT_ok fun x'' r'' hr'' => ok109 x'' () r'' hr''
def fs109w : FSpec := fs109.like fun (p, l, _) => .on (rpsC l p.1 p.2 0) (putRs l p, ())
theorem okf109w : fs109w.Ok Try.prog := by
 refine flike_ok okf109 _ ?_
 rintro ⟨(p : PKt), (l : List RRt), _⟩ y h
 obtain ⟨hb, rfl⟩ := Tr.get_on h
 refine convR_of (vs := [AV.agg [.str (putRs l p).1, .list (.pair .str (.int .i64)) (putRs l p).2]]) rfl rfl (Tr.get_of_all ?_)
 show (t109 p l).all _
 exact Tr.all_t hb (Tr.all_ret rfl)
noncomputable def b75 : Code := nthLoop c75 0
def ls75 : LoopSpec := { bid := 0, sh := [.ptr 0 0, .ptr 1 0, .d (.int .i64) false], so := [MOs, .box [.d .str false, .d (.list (.pair .str (.int .i64))) false]], F := fun (i, _) ((mi, mqr, maa, mtc, mrd, mra, mop, mrc, mq, man, mns, mar, _), (S, L, _), _) => .on (rqsC mq S L i) (.exit 0, [.ptr 0 0, .ptr 1 0], [MO mi mqr maa mtc mrd mra mop mrc mq man mns mar, .box [.str (putQs mq (S, L)).1, .list (.pair .str (.int .i64)) (putQs mq (S, L)).2]]) }
def r75 (i mi : Int) (mqr maa mtc mrd mra : Bool) (mop mrc : Int) (mq : List QQt) (man mns mar : List RRt) (S : List UInt8) (L : List (List UInt8 × Int)) : Tr (St ⊕ (Ex × St)) := .br (decide (i < (↑mq.length : Int))) (.br (decide (0 ≤ i)) (.br (decide (i < (↑mq.length : Int))) (.br (ptOk (S, L) (mq.getD i.toNat (Ty.dflt QQ)).1 && qOk (mq.getD i.toNat (Ty.dflt QQ))) (.br (mayV (mq.getD i.toNat (Ty.dflt QQ)).1) (.ret (.inl (stOf [1, 3, 4] [.ptr 0 0, .ptr 1 0, .int .i64 (IntKind.wrap .i64 (i + 1))] [MO mi mqr maa mtc mrd mra mop mrc mq man mns mar, .boxT none [.str (putQ (mq.getD i.toNat (Ty.dflt QQ)) (S, L)).1, .list (Ty.pair Ty.str (Ty.int .i64)) (putQ (mq.getD i.toNat (Ty.dflt QQ)) (S, L)).2]]))) (.ret (.inl (stOf [1, 3, 4] [.ptr 0 0, .ptr 1 0, .int .i64 (IntKind.wrap .i64 (i + 1))] [MO mi mqr maa mtc mrd mra mop mrc mq man mns mar, .boxT none [.str S, .list (Ty.pair Ty.str (Ty.int .i64)) L]])))) .no) .no) .no) (.ret (.inr (.exit 0, stOf [1, 3] [.ptr 0 0, .ptr 1 0] [MO mi mqr maa mtc mrd mra mop mrc mq man mns mar, .boxT none [.str S, .list (Ty.pair Ty.str (Ty.int .i64)) L]])))
theorem round75 (lp : Lp) (i mi : Int) (mqr maa mtc mrd mra : Bool) (mop mrc : Int) (mq : List QQt) (man mns mar : List RRt) (S : List UInt8) (L : List (List UInt8 × Int)) : evC TN (orcB [fs107w, fs108w, fs109w] []) lp b75 0 (stOf [1, 3, 4] [.ptr 0 0, .ptr 1 0, .int .i64 i] [MO mi mqr maa mtc mrd mra mop mrc mq man mns mar, .box [.str S, .list (.pair .str (.int .i64)) L]]) (roundK [1, 3, 4] [1, 3] 0) = (r75 i mi mqr maa mtc mrd mra mop mrc mq man mns mar S L).get := by kernel_rfl
theorem wf75 (mi : Int) (mqr maa mtc mrd mra : Bool) (mop mrc : Int) (mq : List QQt) (man mns mar : List RRt) (I'' : Int → List UInt8 → List (List UInt8 × Int) → Prop) (m'' : Int → List UInt8 → List (List UInt8 × Int) → Nat) (r'' : Ex × St) (h : ∀ (i : Int) (S : List UInt8) (L : List (List UInt8 × Int)), I'' i S L → (r75 i mi mqr maa mtc mrd mra mop mrc mq man mns mar S L).all fun x'' => x'' = .inr r'' ∨ ∃ (i' : Int) (S' : List UInt8) (L' : List (List UInt8 × Int)), x'' = .inl (stOf [1, 3, 4] [.ptr 0 0, .ptr 1 0, .int .i64 i'] [MO mi mqr maa mtc mrd mra mop mrc mq man mns mar, .box [.str S', .list (.pair .str (.int .i64)) L']]) ∧ I'' i' S' L' ∧ m'' i' S' L' < m'' i S L) (lp : Lp) (i : Int) (S : List UInt8) (L : List (List UInt8 × Int)) : I'' i S L →
    loopF (fun st => evC TN (orcB [fs107w, fs108w, fs109w] []) lp b75 0 st (roundK [1, 3, 4] [1, 3] 0)) (stOf [1, 3, 4] [.ptr 0 0, .ptr 1 0, .int .i64 i] [MO mi mqr maa mtc mrd mra mop mrc mq man mns mar, .box [.str S, .list (.pair .str (.int .i64)) L]]) = some r'' :=
 loop_tr (fun a'' : Int × List UInt8 × List (List UInt8 × Int) => stOf [1, 3, 4] [.ptr 0 0, .ptr 1 0, .int .i64 a''.1] [MO mi mqr maa mtc mrd mra mop mrc mq man mns mar, .box [.str a''.2.1, .list (.pair .str (.int .i64)) a''.2.2]]) (fun a'' => I'' a''.1 a''.2.1 a''.2.2) (fun a'' => m'' a''.1 a''.2.1 a''.2.2) r'' (fun a'' => r75 a''.1 mi mqr maa mtc mrd mra mop mrc mq man mns mar a''.2.1 a''.2.2)
  (fun a'' x hx => (round75 lp a''.1 mi mqr maa mtc mrd mra mop mrc mq man mns mar a''.2.1 a''.2.2).trans hx) (fun a'' ha => Tr.all_mono (fun x'' hx => hx.imp id fun ⟨i', S', L', h1, h2, h3⟩ => ⟨(i', S', L'), h1, h2, h3⟩) (h (a''.1) (a''.2.1) (a''.2.2) ha)) (i, S, L)
def rqsI (l : List QQt) (p0 : PKt) (i : Int) (S : List UInt8) (L : Known) : Prop := 0 ≤ i ∧ i ≤ l.length ∧ kOk L = true ∧ S.length ≤ 1000 + 300 * i.toNat ∧ L.length ≤ 1000 + 300 * i.toNat ∧ putQs (l.drop i.toNat) (S, L) = putQs l p0
theorem loop75 : ls75.Ok TN (orcB [fs107w, fs108w, fs109w] []) h75 0 0 b75 := by
 intro q'' hq'' x'' y'' r'' h
 obtain ⟨(i : Int), _⟩ := x''
 obtain ⟨⟨(mi : Int), (mqr : Bool), (maa : Bool), (mtc : Bool), (mrd : Bool), (mra : Bool), (mop : Int), (mrc : Int), (mq : List QQt), (man : List RRt), (mns : List RRt), (mar : List RRt), _⟩, ⟨(S : List UInt8), (L : List (List UInt8 × Int)), _⟩, _⟩ := y''
 obtain ⟨hc, rfl⟩ := Tr.get_on h
 show loopF (fun st => evC TN (orcB [fs107w, fs108w, fs109w] []) (lpN TN (orcB [fs107w, fs108w, fs109w] []) h75 0 q'') b75 0 st (roundK [1, 3, 4] [1, 3] 0)) (stOf [1, 3, 4] [.ptr 0 0, .ptr 1 0, .int .i64 i] [MO mi mqr maa mtc mrd mra mop mrc mq man mns mar, .box [.str S, .list (.pair .str (.int .i64)) L]]) = some (.exit 0, stOf [1, 3] ([.ptr 0 0, .ptr 1 0]) ([MO mi mqr maa mtc mrd mra mop mrc mq man mns mar, .box [.str (putQs mq (S, L)).1, .list (.pair .str (.int .i64)) (putQs mq (S, L)).2]]))
 simp only [rqsC, Bool.and_eq_true, decide_eq_true_eq] at hc
 obtain ⟨⟨hall, hl⟩, rfl, hk, hb, hb2⟩ := hc
 have hl := Nat.le_of_ble_eq_true hl
 have hb := Nat.le_of_ble_eq_true hb
 have hb2 := Nat.le_of_ble_eq_true hb2
 refine wf75 mi mqr maa mtc mrd mra mop mrc mq man mns mar (rqsI mq (S, L)) (fun i _ _ => (mq.length - i).toNat) _ ?_ _ 0 S L ⟨by omega, by omega, hk, by omega, by omega, rfl⟩
 clear hk hb hb2
 rintro i S' L' ⟨h0, h1, hk, hpl, hpl2, hF⟩
 rw [← hF]
 unfold r75
 by_cases hi : i < mq.length
 · obtain ⟨d1, d2⟩ := drop_getD (Ty.dflt QQ) h0 hi
   generalize List.getD mq (Int.toNat i) (Ty.dflt QQ) = q at d1 d2
   rw [d1, putQs] at hF
   obtain ⟨q1, q2, q3⟩ := rgQ_ok (List.all_eq_true.1 hall q d2)
   obtain ⟨k1, k2, k3⟩ := putQ_good (P := (S', L')) q1 hk
   have hpk : (ptOk (S', L') q.1 && qOk q) = true := by rw [ptOk_iff.2 ⟨len_big (by omega), hk, by show S'.length ≤ _; omega, by show L'.length ≤ _; omega⟩, q2]; rfl
   have k2 : (putQ q (S', L')).1.length ≤ S'.length + q.1.length + 4 := k2
   have k3 : (putQ q (S', L')).2.length ≤ L'.length + q.1.length := k3
   rw [wrap_succ h0 h1 (by omega)]
   exact Tr.all_t (dec_true hi) (Tr.all_t (dec_true h0) (Tr.all_t (dec_true hi) (Tr.all_t hpk (Tr.all_t q1 (Tr.all_ret (.inr ⟨_, _, _, rfl, ⟨by omega, by omega, k1, by omega, by omega, hF⟩, by omega⟩))))))
 · refine Tr.all_f (dec_false hi) (Tr.all_ret (.inl ?_))
   rw [List.drop_eq_nil_of_le (by omega)]
   rfl
def t75 (g : MGt) : Tr Res := .br (mayN g && (n16C g.1 && lesM g)) (.br (rqsC g.2.2.2.2.2.2.2.2.1 (headB g) [] 0) (.br (rpsC g.2.2.2.2.2.2.2.2.2.1 (putQs g.2.2.2.2.2.2.2.2.1 (headB g, [])).1 (putQs g.2.2.2.2.2.2.2.2.1 (headB g, [])).2 0) (.br (rpsC g.2.2.2.2.2.2.2.2.2.2.1 (putRs g.2.2.2.2.2.2.2.2.2.1 (putQs g.2.2.2.2.2.2.2.2.1 (headB g, []))).1 (putRs g.2.2.2.2.2.2.2.2.2.1 (putQs g.2.2.2.2.2.2.2.2.1 (headB g, []))).2 0) (.br (rpsC g.2.2.2.2.2.2.2.2.2.2.2 (putRs g.2.2.2.2.2.2.2.2.2.2.1 (putRs g.2.2.2.2.2.2.2.2.2.1 (putQs g.2.2.2.2.2.2.2.2.1 (headB g, [])))).1 (putRs g.2.2.2.2.2.2.2.2.2.2.1 (putRs g.2.2.2.2.2.2.2.2.2.1 (putQs g.2.2.2.2.2.2.2.2.1 (headB g, [])))).2 0) (.ret ([.str (putRs g.2.2.2.2.2.2.2.2.2.2.2 (putRs g.2.2.2.2.2.2.2.2.2.2.1 (putRs g.2.2.2.2.2.2.2.2.2.1 (putQs g.2.2.2.2.2.2.2.2.1 (headB g, []))))).1], [])) .no) .no) .no) .no) .no
def os75 : OSpec := { f := 75, sh := [.d MG true], so := [], F := fun (g, _) _ => t75 g }
theorem fn75 (g : MGt) : evC TN (orcB [fs107w, fs108w, fs109w] []) (lpOf h75 0 (lsOf [ls75])) c75 1000000 (startSt [AV.ofTy MG g true] [] Try.f75.ntmps) (finishK TN false 0 Try.f75) = (t75 g).get := by kernel_rfl
theorem ok75 : os75.Ok Try.prog := by
 refine os_ok mixed0 tabN (orcB_sound (all_cons okf107w (all_cons okf108w (all_cons okf109w all_nil))) all_nil) h75 (d := 0) (n0 := 0) (S := lsOf [ls75]) Try.func75 (by kernel_rfl) (c := c75) (by kernel_rfl) rfl (loops_eq (xs := [(0, b75)]) (by kernel_rfl) (all_cons (ls_here loop75) all_nil)) (by omega) (by kernel_rfl) ?_
 intro x'' y'' q'' hq''
 obtain ⟨(g : MGt), _⟩ := x''
 exact (fn75 g).trans hq''
def fs75 : FSpec := fsT 75 [(MG, true)] [(.str, false)] fun (g, _) => t75 g
theorem okf75 : fs75.Ok Try.prog := fsT_ok fun x'' r'' hr'' => ok75 x'' () r'' hr''
def fs75w : FSpec := fs75.like fun (m, _) => .on (goodM m) (bytM m, ())
theorem okf75w : fs75w.Ok Try.prog := by
 refine flike_ok okf75 _ ?_
 rintro ⟨(m : MGt), _⟩ y h
 obtain ⟨hb, rfl⟩ := Tr.get_on h
 have hb : goodM m = true := hb
 obtain ⟨h1, h2, ⟨l1, l2, l3, l4⟩, hq, hr, hl⟩ := goodM_facts hb
 refine convR_of (vs := [.str (bytM m)]) rfl rfl (Tr.get_of_all ?_)
 show (t75 m).all _
 have hlm : lesM m = true := lesM_iff.2 ⟨l1, l2, l3, l4⟩
 unfold recsM at hr
 rw [List.all_append, List.all_append, Bool.and_eq_true, Bool.and_eq_true] at hr
 obtain ⟨r1, r2, r3⟩ := hr
 obtain ⟨a1, a2, a3⟩ := putQs_good (P := (headB m, [])) hq rfl
 have e : (headB m, ([] : Known)).1.length = 12 := rfl
 have e2 : (headB m, ([] : Known)).2.length = 0 := rfl
 obtain ⟨b1, b2, b3⟩ := putRs_good (P := putQs (mQ m) (headB m, [])) r1 a1
 obtain ⟨c1, c2, c3⟩ := putRs_good (P := putRs (mAn m) (putQs (mQ m) (headB m, []))) r2 b1
 have hF : putRs (mAr m) (putRs (mNs m) (putRs (mAn m) (putQs (mQ m) (headB m, [])))) = bytP m := by
  unfold bytP recsM
  rw [putRs_app, putRs_app]
 unfold t75
 refine Tr.all_t (by rw [h1, h2, hlm]; rfl) (Tr.all_t ?_ (Tr.all_t ?_ (Tr.all_t ?_ (Tr.all_t ?_ (Tr.all_ret (by unfold bytM; rw [← hF]; rfl))))))
 · show rqsC (mQ m) (headB m) [] 0 = true
   unfold rqsC
   rw [hq, Nat.ble_eq_true_of_le l1, dec_true rfl]
   rfl
 · show rpsC (mAn m) (putQs (mQ m) (headB m, [])).1 (putQs (mQ m) (headB m, [])).2 0 = true
   unfold rpsC
   rw [r1, Nat.ble_eq_true_of_le l2, dec_true rfl, a1, Nat.ble_eq_true_of_le (by omega), Nat.ble_eq_true_of_le (by omega)]
   rfl
 · show rpsC (mNs m) (putRs (mAn m) (putQs (mQ m) (headB m, []))).1 (putRs (mAn m) (putQs (mQ m) (headB m, []))).2 0 = true
   unfold rpsC
   rw [r2, Nat.ble_eq_true_of_le l3, dec_true rfl, b1, Nat.ble_eq_true_of_le (by omega), Nat.ble_eq_true_of_le (by omega)]
   rfl
 · show rpsC (mAr m) (putRs (mNs m) (putRs (mAn m) (putQs (mQ m) (headB m, [])))).1 (putRs (mNs m) (putRs (mAn m) (putQs (mQ m) (headB m, [])))).2 0 = true
   unfold rpsC
   rw [r3, Nat.ble_eq_true_of_le l4, dec_true rfl, c1, Nat.ble_eq_true_of_le (by omega), Nat.ble_eq_true_of_le (by omega)]
   rfl
def t44 (g : MGt) : Tr Res := .br (bigM g) (.br (!mayM g) (.ret ([.str [], .int .i64 1], [])) (.br (goodM g) (.br (decide ((↑(List.length (bytM g)) : Int) > 65535)) (.ret ([.str [], .int .i64 3], [])) (.ret ([.str (bytM g), .int .i64 0], []))) .no)) .no
def os44 : OSpec := { f := 44, sh := [.d MG true], so := [], F := fun (g, _) _ => t44 g }
theorem fn44 (g : MGt) : evC TN (orcB [fs74w, fs75w] []) (lpOf h44 0 (lsOf [])) c44 1000000 (startSt [AV.ofTy MG g true] [] Try.f44.ntmps) (finishK TN false 0 Try.f44) = (t44 g).get := by kernel_rfl
theorem ok44 : os44.Ok Try.prog := by
 refine os_ok mixed0 tabN (orcB_sound (all_cons okf74w (all_cons okf75w all_nil)) all_nil) h44 (d := 0) (n0 := 0) (S := lsOf []) Try.func44 (by kernel_rfl) (c := c44) (by kernel_rfl) rfl (no_loops (by kernel_rfl)) (by omega) (by kernel_rfl) ?_
 intro x'' y'' q'' hq''
 obtain ⟨(g : MGt), _⟩ := x''
 exact (fn44 g).trans hq''
def fs44 : FSpec := fsT 44 [(MG, true)] [(.str, false), ((.int .i64), false)] fun (g, _) => t44 g
theorem okf44 : fs44.Ok Try.prog := fsT_ok fun x'' r'' hr'' => ok44 x'' () r'' hr''
def fs44w : FSpec := fs44.like fun (m, _) => .on (okPM m) ((putV m).1, (putV m).2, ())
theorem okf44w : fs44w.Ok Try.prog := by
 refine flike_ok okf44 _ ?_
 rintro ⟨(m : MGt), _⟩ y h
 obtain ⟨hb, rfl⟩ := Tr.get_on h
 have hb : okPM m = true := hb
 refine convR_of (vs := [.str (putV m).1, .int .i64 (putV m).2]) rfl rfl (Tr.get_of_all ?_)
 show (t44 m).all _
 unfold t44 putV
 refine Tr.all_t (okPM_iff.1 hb).1 ?_
 cases hm : mayM m with
 | false => exact Tr.all_t rfl (Tr.all_ret rfl)
 | true => exact Tr.all_f rfl (Tr.all_t (goodM_of hb hm) (Tr.all_br (fun c => Tr.all_ret (by rw [c]; rfl)) fun c => Tr.all_ret (by rw [c]; rfl)))
theorem okT_rngQ {q : QQt} (h : okT QQ q) : rngQ q = true := by
 obtain ⟨_, h2, h3⟩ := h
 unfold rngQ
 rw [okT_u16 h2, okT_u16 h3]
 rfl
abbrev AD : Ty := .pair (.int .u32) (.int .u16)
abbrev QR : Ty := .pair (.int .u16) (.pair (.int .u16) (.pair AD (.pair QQ (.pair .str (.pair (.int .i64) (.int .u64))))))
abbrev QRt := Int × (Int × ((Int × Int) × (QQt × QQt)))
def t14 (host room : Int) : Tr Res := .br (decide (room < 1)) (.ret ([.np], [])) (.br (decide (room > 256)) (.ret ([.np], [])) (.ret ([.ptr 0 0], [.boxT none [.int .u32 host, .int .i64 room, .rowA 1], .row QR []])))
def os14 : OSpec := { f := 14, sh := [.d (.int .u32) false, .d (.int .i64) false], so := [], F := fun (host, room, _) _ => t14 host room }
theorem fn14 (host room : Int) : evC T0 (orcB [] []) (lpOf h14 0 (lsOf [])) c14 1000000 (startSt [.int .u32 host, .int .i64 room] [] Try.f14.ntmps) (finishK T0 false 0 Try.f14) = (t14 host room).get := by kernel_rfl
theorem ok14 : os14.Ok Try.prog := by
 refine os_ok mixed0 tab0 (orcB_sound all_nil all_nil) h14 (d := 0) (n0 := 0) (S := lsOf []) Try.func14 (by kernel_rfl) (c := c14) (by kernel_rfl) rfl (no_loops (by kernel_rfl)) (by omega) (by kernel_rfl) ?_
 intro x'' y'' q'' hq''
 obtain ⟨(host : Int), (room : Int), _⟩ := x''
 exact (fn14 host room).trans hq''
def ipB (xi xp : Int) (q : QRt) : Bool := q.1 == xi && q.2.1 == xp
def takenB (all : List QRt) (p id : Int) : Bool := all.any (ipB id p)
def nextF (all : List QRt) (p : Int) : Nat → Int → Int
 | 0, id => id
 | k + 1, id => bif takenB all p id then nextF all p k ((id + 1) % 65536) else id
def nextI (all : List QRt) (p id : Int) : Int := nextF all p (all.length + 1) id
def t16 (x : (Int × (Int × ((Int × Int) × (QQt × QQt))))) : Tr Res := .ret ([.agg [.int .u16 x.1, .int .u16 x.2.1, .int .u32 x.2.2.1.1, .int .u16 x.2.2.1.2, .str x.2.2.2.1.1, .int .u16 x.2.2.2.1.2.1, .int .u16 x.2.2.2.1.2.2, .str x.2.2.2.2.1, .int .i64 x.2.2.2.2.2.1, .int .u64 x.2.2.2.2.2.2]], [])
def os16 : OSpec := { f := 16, sh := [.d QR true], so := [], F := fun (x, _) _ => t16 x }
theorem fn16 (x : (Int × (Int × ((Int × Int) × (QQt × QQt))))) : evC T0 (orcB [] []) (lpOf h16 0 (lsOf [])) c16 1000000 (startSt [AV.ofTy QR x true] [] Try.f16.ntmps) (finishK T0 false 0 Try.f16) = (t16 x).get := by kernel_rfl
theorem ok16 : os16.Ok Try.prog := by
 refine os_ok mixed0 tab0 (orcB_sound all_nil all_nil) h16 (d := 0) (n0 := 0) (S := lsOf []) Try.func16 (by kernel_rfl) (c := c16) (by kernel_rfl) rfl (no_loops (by kernel_rfl)) (by omega) (by kernel_rfl) ?_
 intro x'' y'' q'' hq''
 obtain ⟨(x : (Int × (Int × ((Int × Int) × (QQt × QQt))))), _⟩ := x''
 exact (fn16 x).trans hq''
def fs16 : FSpec := fsT 16 [(QR, true)] [(QR, true)] fun (x, _) => t16 x
theorem okf16 : fs16.Ok Try.prog := fsT_ok fun x'' r'' hr'' => ok16 x'' () r'' hr''
theorem u16_in {x : Int} (h0 : 0 ≤ x) (h : x < 65536) : IntKind.wrap IntKind.u16 x = x := by
 show x % 65536 = x
 omega
open Go
def forceNat {R : Type} (n : Nat) (K : Nat → Option R) : Option R := match n with | 0 => K 0 | m + 1 => K (Nat.succ m)
theorem forceNat_eq {R : Type} (n : Nat) (K : Nat → Option R) : forceNat n K = K n := by cases n <;> rfl
def forceInt {R : Type} (n : Int) (K : Int → Option R) : Option R := match n with | .ofNat m => forceNat m fun m => K (.ofNat m) | .negSucc m => forceNat m fun m => K (.negSucc m)
theorem forceInt_eq {R : Type} (n : Int) (K : Int → Option R) : forceInt n K = K n := by cases n <;> simp only [forceInt, forceNat_eq]
def forceList {α R : Type} (f : α → (α → Option R) → Option R) : List α → (List α → Option R) → Option R
 | [], K => K []
 | x :: xs, K => f x fun x => forceList f xs fun xs => K (x :: xs)
theorem forceList_eq {α R : Type} {f : α → (α → Option R) → Option R} (hf : ∀ x K, f x K = K x) : ∀ (xs : List α) (K : List α → Option R), forceList f xs K = K xs
 | [], K => rfl
 | x :: xs, K => by simp only [forceList]; rw [hf, forceList_eq hf xs]
def forceU8 {R : Type} (b : UInt8) (K : UInt8 → Option R) : Option R := forceNat b.toNat fun n => K (UInt8.ofNat n)
theorem forceU8_eq {R : Type} (b : UInt8) (K : UInt8 → Option R) : forceU8 b K = K b := by
 simp only [forceU8, forceNat_eq]
 congr 1
 exact UInt8.ofNat_toNat
def forceB {R : Type} (b : Bool) (K : Bool → Option R) : Option R := match b with | true => K true | false => K false
theorem forceB_eq {R : Type} (b : Bool) (K : Bool → Option R) : forceB b K = K b := by cases b <;> rfl
def forceD {R : Type} : (t : Ty) → t.den → (t.den → Option R) → Option R
 | .int _, n, K => forceInt n K
 | .bool, b, K => forceB b K
 | .str, s, K => forceList forceU8 s K
 | .unit, _, K => K ()
 | .list t, xs, K => forceList (forceD t) xs K
 | .pair a b, x, K => forceD a x.1 fun y => forceD b x.2 fun z => K (y, z)
theorem forceD_eq {R : Type} : ∀ (t : Ty) (x : t.den) (K : t.den → Option R), forceD t x K = K x
 | .int _, n, K => forceInt_eq n K
 | .bool, b, K => forceB_eq b K
 | .str, s, K => forceList_eq (fun x K => forceU8_eq x K) s K
 | .unit, _, K => rfl
 | .list t, xs, K => forceList_eq (fun x K => forceD_eq t x K) xs K
 | .pair a b, x, K => by simp only [forceD]; rw [forceD_eq a, forceD_eq b]
mutual
def forceW {R : Type} : AV → (AV → Option R) → Option R
 | .int k n, K => forceInt n fun n => K (.int k n)
 | .bool b, K => forceB b fun b => K (.bool b)
 | .str s, K => forceList forceU8 s fun s => K (.str s)
 | .list t xs, K => forceList (forceD t) xs fun xs => K (.list t xs)
 | .agg cs, K => forceWs cs fun cs => K (.agg cs)
 | .tup cs, K => forceWs cs fun cs => K (.tup cs)
 | .np, K => K .np
 | .nm, K => K .nm
 | .nf, K => K .nf
 | .ns, K => K .ns
 | .ptr k off, K => forceNat k fun k => forceNat off fun off => K (.ptr k off)
 | .rptr k t i off, K => forceNat k fun k => forceNat i fun i => forceNat off fun off => K (.rptr k t i off)
 | .lptr t xs i off, K => forceList (forceD t) xs fun xs => forceNat i fun i => forceNat off fun off => K (.lptr t xs i off)
 | .rowA k, K => forceNat k fun k => K (.rowA k)
 | .rowS k off n c, K => forceNat k fun k => forceNat off fun off => forceNat n fun n => forceB c fun c => K (.rowS k off n c)
 | .mp k, K => forceNat k fun k => K (.mp k)
 | .psl k n, K => forceNat k fun k => forceNat n fun n => K (.psl k n)
 | .fn g cs, K => forceWs cs fun cs => K (.fn g cs)
 | .undef, K => K .undef
 | .dead, K => K .dead
def forceWs {R : Type} : List AV → (List AV → Option R) → Option R
 | [], K => K []
 | v :: vs, K => forceW v fun v => forceWs vs fun vs => K (v :: vs)
end
mutual
theorem forceW_eq {R : Type} : ∀ (v : AV) (K : AV → Option R), forceW v K = K v
 | .int k n, K => by simp only [forceW, forceInt_eq]
 | .bool b, K => by simp only [forceW, forceB_eq]
 | .str s, K => by simp only [forceW]; rw [forceList_eq (fun x K => forceU8_eq x K)]
 | .list t xs, K => by simp only [forceW]; rw [forceList_eq (fun x K => forceD_eq t x K)]
 | .agg cs, K => by simp only [forceW]; rw [forceWs_eq cs]
 | .tup cs, K => by simp only [forceW]; rw [forceWs_eq cs]
 | .np, K => by simp only [forceW]
 | .nm, K => by simp only [forceW]
 | .nf, K => by simp only [forceW]
 | .ns, K => by simp only [forceW]
 | .ptr k off, K => by simp only [forceW, forceNat_eq]
 | .rptr k t i off, K => by simp only [forceW, forceNat_eq]
 | .lptr t xs i off, K => by simp only [forceW]; rw [forceList_eq (fun x K => forceD_eq t x K)]; simp only [forceNat_eq]
 | .rowA k, K => by simp only [forceW, forceNat_eq]
 | .rowS k off n c, K => by simp only [forceW, forceNat_eq, forceB_eq]
 | .mp k, K => by simp only [forceW, forceNat_eq]
 | .psl k n, K => by simp only [forceW, forceNat_eq]
 | .fn g cs, K => by simp only [forceW]; rw [forceWs_eq cs]
 | .undef, K => by simp only [forceW]
 | .dead, K => by simp only [forceW]
theorem forceWs_eq {R : Type} : ∀ (vs : List AV) (K : List AV → Option R), forceWs vs K = K vs
 | [], K => by simp only [forceWs]
 | v :: vs, K => by simp only [forceWs]; rw [forceW_eq v, forceWs_eq vs]
end
def forceWO {R : Type} (o : LObj) (K : LObj → Option R) : Option R :=
 match o with
 | .boxT g cs => forceWs cs fun cs => (match g with | none => K (.boxT none cs) | some n => forceNat n fun n => K (.boxT (some n) cs))
 | .row t xs => forceList (forceD t) xs fun xs => K (.row t xs)
 | .mpo kt vt es => forceList (fun e K => forceD kt e.1 fun a => forceD vt e.2 fun b => K (a, b)) es fun es => K (.mpo kt vt es)
 | .gone => K .gone
theorem forceWO_eq {R : Type} (o : LObj) (K : LObj → Option R) : forceWO o K = K o := by
 cases o with
 | boxT g cs => simp only [forceWO]; rw [forceWs_eq]; cases g <;> simp only [forceNat_eq]
 | row t xs => simp only [forceWO]; rw [forceList_eq (fun x K => forceD_eq t x K)]
 | mpo kt vt es => simp only [forceWO]; rw [forceList_eq (fun e K => by rw [forceD_eq, forceD_eq])]
 | gone => rfl
def forceWOs {R : Type} (os : List LObj) (K : List LObj → Option R) : Option R := forceList forceWO os K
theorem forceWOs_eq {R : Type} (os : List LObj) (K : List LObj → Option R) : forceWOs os K = K os := forceList_eq (fun o K => forceWO_eq o K) os K
def normC {R : Type} (keep : List Nat) (n0 : Nat) (st : St) (K : St → Option R) : Option R :=
 forceWs (normL keep n0 st).1 fun vs => forceWOs (normL keep n0 st).2 fun os => K (stOf keep vs os)
theorem normC_eq {R : Type} (keep : List Nat) (n0 : Nat) (st : St) (K : St → Option R) : normC keep n0 st K = K (norm keep n0 st) := by
 simp only [normC, forceWs_eq, forceWOs_eq]
 rfl
def roundC (keep keepX : List Nat) (n0 : Nat) : Ex → St → Option (St ⊕ (Ex × St))
 | .normal, st => normC keep n0 st fun st => some (.inl st)
 | .exit i, st => normC keepX n0 st fun st => some (.inr (.exit i, st))
 | .ret, st => normC keepX n0 st fun st => some (.inr (.ret, st))
theorem roundC_eq (keep keepX : List Nat) (n0 : Nat) : roundC keep keepX n0 = roundK keep keepX n0 := by
 funext e st
 cases e <;> simp only [roundC, normC_eq, roundK]
def lpC (T : Tab) (orc : Orc) (H : Hint) (n0 fuel : Nat) : Nat → Lp
 | 0 => fun _ _ _ => .no
 | n + 1 => fun bid body st =>
   .of (normC (H.keep bid) n0 st fun st => loopN (fun st => evC T orc (lpC T orc H n0 fuel n) body bid st (roundC (H.keep bid) (H.keepX bid) n0)) fuel st)
theorem loopN_mono {F F' : St → Option (St ⊕ (Ex × St))} (h : ∀ st r, F st = some r → F' st = some r) {r : Ex × St} : ∀ (n : Nat) (st : St), loopN F n st = some r → loopN F' n st = some r
 | 0, _, h0 => by simp [loopN] at h0
 | n + 1, st, h0 => by
   simp only [loopN] at h0 ⊢
   split at h0
   · cases h0
   · rename_i r' hr
     rw [h _ _ hr]
     exact h0
   · rename_i st' hr
     rw [h _ _ hr]
     exact loopN_mono h n st' h0
theorem lpC_sub {T : Tab} {orc : Orc} {H : Hint} {n0 fuel : Nat} : ∀ (n : Nat) (bid : Nat) (body : Code) (st : St) (q : Ex × St), (lpC T orc H n0 fuel n bid body st).get = some q → (lpN T orc H n0 n bid body st).get = some q
 | 0, _, _, _, _, h => by simp [lpC, Tr.get] at h
 | n + 1, bid, body, st, q, h => by
   simp only [lpC, lpN, Tr.get_of, normC_eq, roundC_eq] at h ⊢
   exact loopF_of (loopN_mono (fun st r hr => evC_mono body bid st _ _ (fun x _ st q hq => lpC_sub n x.1 x.2 st q hq) (fun _ _ h => h) hr) _ _ h)
def evFnC (T : Tab) (orc : Orc) (H : Hint) (fuel : Nat) (fn : Func) (args : List AV) (objs : List LObj) : Option Res :=
 match fn.body with
 | none => none
 | some c => bif dstOk fn.ntmps c && Nat.ble args.length fn.ntmps then evC T orc (lpC T orc H objs.length fuel 8) c 1000000 (startSt args objs fn.ntmps) (finishK T H.own objs.length fn) else none
theorem evFnC_sub {T : Tab} {orc : Orc} {H : Hint} {fuel : Nat} {fn : Func} {args : List AV} {objs : List LObj} {r : Res} (h : evFnC T orc H fuel fn args objs = some r) : evFn T orc H fn args objs = some r := by
 unfold evFnC at h
 unfold evFn
 split at h
 · cases h
 · rename_i c hb
   rw [hb]
   simp only
   cases hd : (dstOk fn.ntmps c && Nat.ble args.length fn.ntmps) with
   | false => rw [hd] at h; cases h
   | true =>
     rw [hd] at h
     simp only [cond_true] at h ⊢
     exact evC_mono c 1000000 _ _ _ (fun x _ st q hq => lpC_sub 8 x.1 x.2 st q hq) (fun _ _ h => h) h
abbrev Fns := List (Nat × (Tab × Hint × Func))
def fnAt : Fns → Nat → Option (Tab × Hint × Func)
 | [], _ => none
 | e :: es, f => bif Nat.beq e.1 f then some e.2 else fnAt es f
def orcD (tb : Fns) (base : Orc) (fuel : Nat) : Nat → Orc
 | 0 => fun _ _ _ => .no
 | n + 1 => fun f args objs => match fnAt tb f with
   | none => base f args objs
   | some e => .of (forceWs args fun args => forceWOs objs fun objs => match evFnC e.1 (orcD tb base fuel n) e.2.1 fuel e.2.2 args objs with
     | none => none
     | some r => forceWs r.1 fun vs => forceWOs r.2 fun os => some (vs, os))
def FnOk (P : Program) (e : Nat × (Tab × Hint × Func)) : Prop := TabOk P e.2.1 ∧ P.funcs[e.1]? = some e.2.2.2 ∧ e.2.2.2.name ≠ "runtime.NumGoroutine"
theorem fnAt_ok {P : Program} : ∀ {tb : Fns}, (∀ e ∈ tb, FnOk P e) → ∀ {f : Nat} {e : Tab × Hint × Func}, fnAt tb f = some e → FnOk P (f, e)
 | [], _, _, _, h => by cases h
 | x :: xs, hx, f, e, h => by
   simp only [fnAt] at h
   cases hb : Nat.beq x.1 f with
   | true =>
     rw [hb] at h
     simp only [cond_true, Option.some.injEq] at h
     have h1 := hx x (by simp)
     subst h
     obtain rfl := Nat.eq_of_beq_eq_true hb
     exact h1
   | false =>
     rw [hb] at h
     exact fnAt_ok (fun y hy => hx y (List.mem_cons_of_mem _ hy)) h
theorem orcD_sound {P : Program} (hmo : P.follows .mixedOrders = true) {tb : Fns} (htb : ∀ e ∈ tb, FnOk P e) {base : Orc} (hB : SoundOrc P base) (fuel : Nat) : ∀ n, SoundOrc P (orcD tb base fuel n)
 | 0 => fun f args objs res objs' h => by simp [orcD, Tr.get] at h
 | n + 1 => fun f args objs res objs' h => by
   simp only [orcD] at h
   split at h
   · exact hB _ _ _ _ _ h
   · rename_i e he
     obtain ⟨h1, h2, h3⟩ := fnAt_ok htb he
     simp only [Tr.get_of, forceWs_eq, forceWOs_eq] at h
     split at h
     · cases h
     · rename_i r hr
       have h := Option.some.inj h
       rw [Prod.eta] at h
       subst h
       exact evFn_sound hmo h1 (orcD_sound hmo htb hB fuel n) h2 h3 (evFnC_sub hr)
noncomputable def tbl13 : Fns := [(13, T13, h13, Try.f13), (14, T14, h14, Try.f14), (15, T15, h15, Try.f15), (19, T19, h19, Try.f19), (20, T20, h20, Try.f20), (32, T32, h32, Try.f32), (34, T34, h34, Try.f34), (45, T45, h45, Try.f45), (59, T59, h59, Try.f59), (68, T68, h68, Try.f68), (69, T69, h69, Try.f69), (70, T70, h70, Try.f70), (71, T71, h71, Try.f71), (76, T76, h76, Try.f76), (77, T77, h77, Try.f77), (81, T81, h81, Try.f81), (82, T82, h82, Try.f82), (91, T91, h91, Try.f91), (92, T92, h92, Try.f92), (93, T93, h93, Try.f93), (94, T94, h94, Try.f94), (95, T95, h95, Try.f95), (96, T96, h96, Try.f96), (97, T97, h97, Try.f97), (98, T98, h98, Try.f98), (99, T99, h99, Try.f99), (100, T100, h100, Try.f100), (101, T101, h101, Try.f101), (102, T102, h102, Try.f102), (103, { T103 with kns := true }, h103, Try.f103), (104, T104, h104, Try.f104), (117, T117, h117, Try.f117), (119, T119, h119, Try.f119), (120, T120, h120, Try.f120), (121, T121, h121, Try.f121), (122, T122, h122, Try.f122), (123, T123, h123, Try.f123), (124, T124, h124, Try.f124), (125, { T125 with kns := true }, hOwn h125, Try.f125), (138, T138, h138, Try.f138), (140, T140, h140, Try.f140), (141, T141, h141, Try.f141), (142, T142, h142, Try.f142), (143, T143, h143, Try.f143), (152, T152, h152, Try.f152)]
theorem tblok13 : ∀ e ∈ tbl13, FnOk Try.prog e := all_cons ⟨tab0, Try.func13, by decide⟩ (all_cons ⟨tab0, Try.func14, by decide⟩ (all_cons ⟨tab0, Try.func15, by decide⟩ (all_cons ⟨tab0, Try.func19, by decide⟩ (all_cons ⟨tab0, Try.func20, by decide⟩ (all_cons ⟨tab0, Try.func32, by decide⟩ (all_cons ⟨tab0, Try.func34, by decide⟩ (all_cons ⟨tab0, Try.func45, by decide⟩ (all_cons ⟨tab0, Try.func59, by decide⟩ (all_cons ⟨tab0, Try.func68, by decide⟩ (all_cons ⟨tab0, Try.func69, by decide⟩ (all_cons ⟨tab0, Try.func70, by decide⟩ (all_cons ⟨tab0, Try.func71, by decide⟩ (all_cons ⟨tab0, Try.func76, by decide⟩ (all_cons ⟨tab0, Try.func77, by decide⟩ (all_cons ⟨tab0, Try.func81, by decide⟩ (all_cons ⟨tab0, Try.func82, by decide⟩ (all_cons ⟨tab0, Try.func91, by decide⟩ (all_cons ⟨tab0, Try.func92, by decide⟩ (all_cons ⟨tab0, Try.func93, by decide⟩ (all_cons ⟨tab0, Try.func94, by decide⟩ (all_cons ⟨tab0, Try.func95, by decide⟩ (all_cons ⟨tab0, Try.func96, by decide⟩ (all_cons ⟨tab0, Try.func97, by decide⟩ (all_cons ⟨tab0, Try.func98, by decide⟩ (all_cons ⟨tab0, Try.func99, by decide⟩ (all_cons ⟨tab0, Try.func100, by decide⟩ (all_cons ⟨tab0, Try.func101, by decide⟩ (all_cons ⟨tab0, Try.func102, by decide⟩ (all_cons ⟨(tab_kns (T := T103) tab0), Try.func103, by decide⟩ (all_cons ⟨tab0, Try.func104, by decide⟩ (all_cons ⟨tab0, Try.func117, by decide⟩ (all_cons ⟨tab0, Try.func119, by decide⟩ (all_cons ⟨tab0, Try.func120, by decide⟩ (all_cons ⟨tab0, Try.func121, by decide⟩ (all_cons ⟨tab0, Try.func122, by decide⟩ (all_cons ⟨tab0, Try.func123, by decide⟩ (all_cons ⟨tab0, Try.func124, by decide⟩ (all_cons ⟨(tab_kns (T := T125) tab0), Try.func125, by decide⟩ (all_cons ⟨tab0, Try.func138, by decide⟩ (all_cons ⟨tab0, Try.func140, by decide⟩ (all_cons ⟨tab0, Try.func141, by decide⟩ (all_cons ⟨tab0, Try.func142, by decide⟩ (all_cons ⟨tab0, Try.func143, by decide⟩ (all_cons ⟨tab0, Try.func152, by decide⟩ (all_nil)))))))))))))))))))))))))))))))))))))))))))))
theorem semD13 : SemF Try.prog 13 [] [] [.bool true] [] := orcD_sound mixed0 tblok13 (orcB_sound (fs := [fs90]) (os := []) (all_cons okf90 (all_nil)) (all_nil)) 80 40 13 [] [] [.bool true] [] (by kernel_rfl)
def os13d : OSpec := { f := 13, sh := [], so := [], F := fun _ _ => .ret ([.bool true], []) }
theorem ok13d : os13d.Ok Try.prog := by
 rintro _ _ r h
 cases h
 exact semD13
def t15 (x : (Int × (Int × ((Int × Int) × (QQt × QQt))))) (host room : Int) (all : List (Int × (Int × ((Int × Int) × (QQt × QQt))))) : Tr Res := .br (okPM (x.1, false, false, false, false, false, 0, 0, [x.2.2.2.1], [], [], [])) (.ret ([.agg [.int .u32 host, .int .u16 x.2.1, .int .u32 x.2.2.1.1, .int .u16 x.2.2.1.2, .str (putV (x.1, false, false, false, false, false, 0, 0, [x.2.2.2.1], [], [], [])).1]], [.boxT none [.int .u32 host, .int .i64 room, .rowA 1], .row QR all])) .no
def os15 : OSpec := { f := 15, sh := [.ptr 0 0, .d QR true], so := [.box [.d (.int .u32) false, .d (.int .i64) false, .row 1], .row QR], F := fun (x, _) ((host, room, _), all, _) => t15 x host room all }
theorem fn15 (x : (Int × (Int × ((Int × Int) × (QQt × QQt))))) (host room : Int) (all : List (Int × (Int × ((Int × Int) × (QQt × QQt))))) : evC T0 (orcB [fs34w] []) (lpOf h15 2 (lsOf [])) c15 1000000 (startSt [.ptr 0 0, AV.ofTy QR x true] [.box [.int .u32 host, .int .i64 room, .rowA 1], .row QR all] Try.f15.ntmps) (finishK T0 false 2 Try.f15) = (t15 x host room all).get := by kernel_rfl
theorem ok15 : os15.Ok Try.prog := by
 refine os_ok mixed0 tab0 (orcB_sound (all_cons okf34w all_nil) all_nil) h15 (d := 0) (n0 := 2) (S := lsOf []) Try.func15 (by kernel_rfl) (c := c15) (by kernel_rfl) rfl (no_loops (by kernel_rfl)) (by omega) (by kernel_rfl) ?_
 intro x'' y'' q'' hq''
 obtain ⟨(x : (Int × (Int × ((Int × Int) × (QQt × QQt))))), _⟩ := x''
 obtain ⟨⟨(host : Int), (room : Int), _⟩, (all : List (Int × (Int × ((Int × Int) × (QQt × QQt))))), _⟩ := y''
 exact (fn15 x host room all).trans hq''
def t15z (x : (Int × (Int × ((Int × Int) × (QQt × QQt))))) : Tr Res := .ret ([.agg [.int .u32 0, .int .u16 0, .int .u32 0, .int .u16 0, .str []]], [])
def os15z : OSpec := { f := 15, sh := [.np, .d QR true], so := [], F := fun (x, _) _ => t15z x }
theorem fn15z (x : (Int × (Int × ((Int × Int) × (QQt × QQt))))) : evC T0 (orcB [fs34w] []) (lpOf h15 0 (lsOf [])) c15 1000000 (startSt [.np, AV.ofTy QR x true] [] Try.f15.ntmps) (finishK T0 false 0 Try.f15) = (t15z x).get := by kernel_rfl
theorem ok15z : os15z.Ok Try.prog := by
 refine os_ok mixed0 tab0 (orcB_sound (all_cons okf34w all_nil) all_nil) h15 (d := 0) (n0 := 0) (S := lsOf []) Try.func15 (by kernel_rfl) (c := c15) (by kernel_rfl) rfl (no_loops (by kernel_rfl)) (by omega) (by kernel_rfl) ?_
 intro x'' y'' q'' hq''
 obtain ⟨(x : (Int × (Int × ((Int × Int) × (QQt × QQt))))), _⟩ := x''
 exact (fn15z x).trans hq''
def t17 (host : Int) (x : (Int × (Int × ((Int × Int) × (QQt × QQt))))) : Tr Res := .br (okPM (x.1, false, false, false, false, false, 0, 0, [x.2.2.2.1], [], [], [])) (.ret ([.agg [.int .u32 host, .int .u16 x.2.1, .int .u32 x.2.2.1.1, .int .u16 x.2.2.1.2, .str (putV (x.1, false, false, false, false, false, 0, 0, [x.2.2.2.1], [], [], [])).1]], [])) .no
def os17 : OSpec := { f := 17, sh := [.d (.int .u32) false, .d QR true], so := [], F := fun (host, x, _) _ => t17 host x }
theorem fn17 (host : Int) (x : (Int × (Int × ((Int × Int) × (QQt × QQt))))) : evC T0 (orcB [fs44w] []) (lpOf h17 0 (lsOf [])) c17 1000000 (startSt [.int .u32 host, AV.ofTy QR x true] [] Try.f17.ntmps) (finishK T0 false 0 Try.f17) = (t17 host x).get := by kernel_rfl
theorem ok17 : os17.Ok Try.prog := by
 refine os_ok mixed0 tab0 (orcB_sound (all_cons okf44w all_nil) all_nil) h17 (d := 0) (n0 := 0) (S := lsOf []) Try.func17 (by kernel_rfl) (c := c17) (by kernel_rfl) rfl (no_loops (by kernel_rfl)) (by omega) (by kernel_rfl) ?_
 intro x'' y'' q'' hq''
 obtain ⟨(host : Int), (x : (Int × (Int × ((Int × Int) × (QQt × QQt))))), _⟩ := x''
 exact (fn17 host x).trans hq''
def fs17 : FSpec := fsT 17 [((.int .u32), false), (QR, true)] [((.pair AD (.pair AD .str)), true)] fun (host, x, _) => t17 host x
theorem okf17 : fs17.Ok Try.prog := fsT_ok fun x'' r'' hr'' => ok17 x'' () r'' hr''
def t3 (host : Int) (x : (Int × (Int × ((Int × Int) × (QQt × QQt))))) : Tr Res := .br (decide ((↑x.2.2.2.1.1.length : Int) > 300)) (.ret ([.bool true], [])) (.br (okPM (x.1, false, false, false, false, false, 0, 0, [x.2.2.2.1], [], [], [])) (.br (okPM (x.1, false, false, false, false, false, 0, 0, [x.2.2.2.1], [], [], [])) (.br (host == host && (x.2.1 == x.2.1 && true)) (.br (x.2.2.1.1 == x.2.2.1.1 && (x.2.2.1.2 == x.2.2.1.2 && true)) (.br ((putV (x.1, false, false, false, false, false, 0, 0, [x.2.2.2.1], [], [], [])).1 == (putV (x.1, false, false, false, false, false, 0, 0, [x.2.2.2.1], [], [], [])).1) (.ret ([.bool true], [])) (.ret ([.bool false], []))) (.ret ([.bool false], []))) (.ret ([.bool false], []))) .no) .no)
def os3 : OSpec := { f := 3, sh := [.d (.int .u32) false, .d QR true], so := [], F := fun (host, x, _) _ => t3 host x }
theorem fn3 (host : Int) (x : (Int × (Int × ((Int × Int) × (QQt × QQt))))) : evC T0 (orcB [fs16, fs17] [os13d, os14, os15, os15z]) (lpOf h3 0 (lsOf [])) c3 1000000 (startSt [.int .u32 host, AV.ofTy QR x true] [] Try.f3.ntmps) (finishK T0 false 0 Try.f3) = (t3 host x).get := by kernel_rfl
theorem ok3 : os3.Ok Try.prog := by
 refine os_ok mixed0 tab0 (orcB_sound (all_cons okf16 (all_cons okf17 all_nil)) (all_cons ok13d (all_cons ok14 (all_cons ok15 (all_cons ok15z all_nil))))) h3 (d := 0) (n0 := 0) (S := lsOf []) Try.func3 (by kernel_rfl) (c := c3) (by kernel_rfl) rfl (no_loops (by kernel_rfl)) (by omega) (by kernel_rfl) ?_
 intro x'' y'' q'' hq''
 obtain ⟨(host : Int), (x : (Int × (Int × ((Int × Int) × (QQt × QQt))))), _⟩ := x''
 exact (fn3 host x).trans hq''
theorem one_okP {x : QRt} (h : okT QR x) (hn : ¬ (x.2.2.2.1.1.length : Int) > 300) : okPM (x.1, false, false, false, false, false, (0 : Int), (0 : Int), [x.2.2.2.1], [], [], []) = true := by
 obtain ⟨h1, _, _, h2, _⟩ := h
 refine okPM_iff.2 ⟨?_, ?_, rfl⟩
 · show (okQ [x.2.2.2.1] && (okL [] && (okL [] && okL []))) = true
   have : bigQ x.2.2.2.1 = true := by
    unfold bigQ bigS
    exact decide_eq_true (by omega)
   unfold okQ
   rw [List.all_cons, this]
   rfl
 · show (n16C x.1 && ([x.2.2.2.1].all rngQ && _)) = true
   rw [okT_u16 h1, List.all_cons, okT_rngQ h2]
   rfl
theorem askPackets_all (host : Int) (x : QRt) (h : okT QR x) : (t3 host x).all fun r => r = ([.bool true], []) := by
 unfold t3
 refine Tr.all_br (fun _ => Tr.all_ret rfl) (fun hn => ?_)
 have hp := one_okP h (of_decide_eq_false hn)
 refine Tr.all_t hp (Tr.all_t hp (Tr.all_t ?_ (Tr.all_t ?_ (Tr.all_t (beq_self_eq_true _) (Tr.all_ret rfl)))))
 · simp only [beq_self_eq_true, Bool.and_true]
 · simp only [beq_self_eq_true, Bool.and_true]
theorem sem3 (host : Int) (x : QRt) (h : okT QR x) : SemF Try.prog 3 [.int .u32 host, AV.ofTy QR x true] [] [.bool true] [] :=
 ok3 (host, x, ()) () ([.bool true], []) (Tr.get_of_all (askPackets_all host x h))
end Go.Proofs.YtpledbapngdkeaaE
namespace Go.Proofs.Ytpledbapngdkeaa.askPackets
open Go.ChangeShapes Go.WideShapes Go.ChangeAt Go.RowKit Go.Proofs.YtpledbapngdkeaaE
open Go.ChangeMaps (open_string shut_string)
set_option linter.unusedVariables false
theorem own : ownKnob Try.prog.godebug = none := by kernel_rfl
theorem laidOut : laidOutB Try.prog = true := by kernel_rfl
set_option maxRecDepth 100000 in
theorem lifted (os : Os) (started : os.Started) (H : Type) (enc : TypeId × Value → H) :
    ReturnsInHanded {} Try.checked os 3 .any (Rows.askPacketsSpec.pre6 enc Try.prog Try.f3 Rows.askPacketsRow.domain false) (Rows.askPacketsSpec.post enc Try.prog Try.f3 false true false false) := by
  refine returnsInHanded_of_change_sized (C := Try.checked) own started (by kernel_rfl) Try.func3
    (ChangeSpec.witness6 (enc := enc) (C := Try.checked) false ⟨#[], #[.int .u32 0, .agg #[.int .u16 0, .int .u16 0, .int .u32 0, .int .u16 0, .string ByteArray.empty, .int .u16 0, .int .u16 0, .string ByteArray.empty, .int .i64 0, .int .u64 0]], []⟩ 8 (by kernel_rfl) (by kernel_rfl) (by kernel_rfl) (by kernel_rfl)) ?_
  intro W base args ds gs before hval0 hW hcnd hsz0 _
  have hsz : ∀ n ∈ DataW.weightsEach Try.prog (Try.f3.params.toList ++ Rows.askPacketsSpec.plain.varTypes Try.prog) (ds ++ gs), n ≤ reachBytes := fun n hn => of_decide_eq_true (List.all_eq_true.1 hsz0 n hn)
  have hval : ∀ (j : Nat) t v, Try.f3.params[j]? = some t → args[j]? = some v → Value.okWide Try.prog W .any base t v := hval0
  have hW' := hW
  obtain ⟨p, q, hA0, hV, rfl, hfz, hnd⟩ := hW
  have hA : DataW.TrodAll enc Try.prog W 0 (fun _ => true) true Try.f3.params.toList args.toList ds p := hA0
  rw [Try.params3] at hA hval hsz
  obtain ⟨v0, vs0, d0, ds0, p0, q0, hargs, rfl, rfl, k0, r0⟩ := trodAll_cons hA
  obtain ⟨v1, vs1, d1, ds1, p1, q1, rfl, rfl, rfl, k1, r1⟩ := trodAll_cons r0
  obtain ⟨rfl, rfl, rfl⟩ := trodAll_nil r1
  obtain rfl : args = #[v0, v1] := by cases args; simp_all
  obtain ⟨rfl, rfl⟩ := trodVars_none hV
  have lt0 : ∀ x ∈ p0, x.block < W.heap.size := by obtain ⟨m, hm⟩ := k0; exact DataW.trod_lt m _ _ _ hm
  obtain ⟨x0, e0, w0, b0⟩ := arg_told (n := 8) (τ := .int .u32) (agg := false) (by kernel_rfl) (hval 0 22 v0 rfl rfl) k0 (fun n hn => hsz n (DataW.weights_mem_each (j := 0) (t := 22) rfl rfl n hn)) (by kernel_rfl)
  have lt1 : ∀ x ∈ p1, x.block < W.heap.size := by obtain ⟨m, hm⟩ := k1; exact DataW.trod_lt m _ _ _ hm
  obtain ⟨x1, e1, w1, b1⟩ := arg_told (n := 8) (τ := (.pair (.int .u16) (.pair (.int .u16) (.pair (.pair (.int .u32) (.int .u16)) (.pair (.pair .str (.pair (.int .u16) (.int .u16))) (.pair .str (.pair (.int .i64) (.int .u64)))))))) (agg := true) (by kernel_rfl) (hval 1 30 v1 rfl rfl) k1 (fun n hn => hsz n (DataW.weights_mem_each (j := 1) (t := 30) rfl rfl n hn)) (by kernel_rfl)
  clear hA0 hval0 hsz0 hsz
  refine (law_calls ((fun x0 x1 w0 w1 => sem3 x0 x1 w1) x0 x1 w0 w1) W (vs := [v0, v1]) ?_).mono fun e W' ⟨he, bel⟩ => ?_
  · simp only [VRelL]
    exact ⟨_, _, rfl, e0, ⟨_, _, rfl, e1, rfl⟩⟩
  subst he
  exact ⟨_, rfl, _, _, _, [], _, [], hW', trodAll_mk1 (shut_bool Try.underlying4 _), (trodAll_cons_mk (Below.trod laidOut (by kernel_rfl) (of_decide_eq_true (by kernel_rfl)) k0 bel lt0) (trodAll_cons_mk (Below.trod laidOut (by kernel_rfl) (of_decide_eq_true (by kernel_rfl)) k1 bel lt1) trodAll_mk0)), rfl, bel.frame _, fun h => by cases h⟩
theorem over : Rows.askPacketsRow.holds Try.pinned (OpenSpec.ofChange Rows.askPacketsSpec) :=
  OpenClaim.holds_of_wide 3 Try.f3 rfl rfl rfl rfl rfl rfl rfl ⟨rfl, rfl, rfl, rfl, rfl⟩ rfl rfl rfl rfl rfl (by kernel_rfl) Try.func3 (by kernel_rfl)
    (of_decide_eq_true (by kernel_rfl)) (by unfold Func.isWrapper; first | (rw [if_pos (by decide +kernel)]; kernel_rfl) | (rw [if_neg (by decide +kernel)]; exact ⟨rfl, rfl⟩))
    (fun os started H enc _ => lifted os started H enc)
theorem proved : Rows.AskPacketsSaid := over
end Go.Proofs.Ytpledbapngdkeaa.askPackets
namespace Go.Proofs.Ytpledbapngdkeaa
/-- The row, under a short name, for the claim. -/
theorem askPackets_holds : Rows.AskPacketsSaid := askPackets.proved
#print axioms askPackets_holds
end Go.Proofs.Ytpledbapngdkeaa
