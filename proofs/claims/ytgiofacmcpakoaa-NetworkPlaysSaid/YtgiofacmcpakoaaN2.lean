/- network: plainer words; the law NetworkOrder. -/
import Derived.Test.YtgiofacmcpakoaaN1
namespace Go.Proofs.YtgiofacmcpakoaaE
open Go
set_option linter.unusedVariables false
abbrev NW := List ((Int × Int) × ((Int × Int) × List UInt8))
def bigW (w : NW) : Bool := decide (w.length ≤ 1000000000)
def boxN (r s l : Int) (w : NW) : List LObj := [.box [.rowA 1, .int .i64 r, .int .i64 s, .int .i64 l], .row PK w]
def hasK (w : NW) (k : Int) : Bool := decide (0 ≤ k) && decide (k < (w.length : Int))
def atK (w : NW) (k : Int) : (Int × Int) × ((Int × Int) × List UInt8) := w.getD k.toNat (Ty.dflt PK)
def pkV (p : (Int × Int) × ((Int × Int) × List UInt8)) : AV := AV.ofTy PK p true
def pk0 : AV := .agg [.int .u32 0, .int .u16 0, .int .u32 0, .int .u16 0, .str []]

theorem fits32 {n : Nat} (h : n ≤ 2000000000) : fits n 32 = true := fits_true (by omega) (by omega)

def os29 : OSpec := os29o.like fun (p, _) ((r, s, l, _), w, _) => .br (bigW w) (.br (decide ((w.length : Int) ≥ r)) (.ret ([.bool false], boxN r (IntKind.wrap .i64 (s + 1)) (IntKind.wrap .i64 (l + 1)) w)) (.ret ([.bool true], boxN r (IntKind.wrap .i64 (s + 1)) l (w ++ [p])))) .no
theorem ok29 : os29.Ok Try.prog := by
  refine like_ok ok29o _ ?_
  rintro ⟨p, _⟩ ⟨⟨(r : Int), (s : Int), (l : Int), _⟩, (w : NW), _⟩ q h
  simp only [Tr.get] at h
  show (t29o p r s l w).get = some q
  cases hb : bigW w with
  | false => rw [hb] at h; cases h
  | true =>
    rw [hb] at h
    simp only [bigW, decide_eq_true_eq] at hb
    simp only [cond_true] at h
    simp only [t29o, Tr.get, fits32 (show w.length + 1 ≤ 2000000000 by omega), cond_true]
    exact h

def os31 : OSpec := os31o.like fun (k, _) ((r, s, l, _), w, _) => .br (hasK w k) (.ret ([pkV (atK w k), .bool true], boxN r s l w)) (.ret ([pk0, .bool false], boxN r s l w))
theorem ok31 : os31.Ok Try.prog := by
  refine like_ok ok31o _ ?_
  rintro ⟨(k : Int), _⟩ ⟨⟨(r : Int), (s : Int), (l : Int), _⟩, (w : NW), _⟩ q h
  simp only [Tr.get] at h
  show (t31o k r s l w).get = some q
  simp only [t31o, Tr.get]
  by_cases h0 : k < 0
  · rw [show hasK w k = false by simp [hasK]; omega] at h
    rw [dec_true h0]
    exact h
  · rw [dec_false h0]
    by_cases h1 : k ≥ (w.length : Int)
    · rw [show hasK w k = false by simp [hasK]; omega] at h
      rw [dec_true h1]
      exact h
    · rw [show hasK w k = true by simp [hasK]; omega] at h
      rw [dec_false h1, dec_true (show (0 : Int) ≤ k by omega), dec_true (show k < (w.length : Int) by omega)]
      exact h

def os33 : OSpec := os33o.like fun (k, _) ((r, s, l, _), w, _) => .br (bigW w) (.br (hasK w k) (.ret ([pkV (atK w k), .bool true], boxN r s l (w.eraseIdx k.toNat))) (.ret ([pk0, .bool false], boxN r s l w))) .no
theorem rm_eq {w : NW} {k : Int} (h0 : 0 ≤ k) (h1 : k < (w.length : Int)) (h2 : w.length ≤ 1000000000) :
    List.take (Int.toNat k - Int.toNat (0 : Int)) (List.drop (Int.toNat (0 : Int)) w) ++ List.take (Int.toNat (↑(List.length w) : Int) - Int.toNat (IntKind.wrap IntKind.i64 (k + (1 : Int)))) (List.drop (Int.toNat (IntKind.wrap IntKind.i64 (k + (1 : Int)))) w) = w.eraseIdx k.toNat := by
  rw [IntWalk.i64_in (k + 1) (by omega), List.eraseIdx_eq_take_drop_succ]
  have e1 : Int.toNat (k + 1) = k.toNat + 1 := by omega
  simp only [Int.toNat_zero, Nat.sub_zero, List.drop_zero, e1, Int.toNat_natCast]
  congr 1
  exact List.take_of_length_le (by simp)
theorem ok33 : os33.Ok Try.prog := by
  refine like_ok ok33o _ ?_
  rintro ⟨(k : Int), _⟩ ⟨⟨(r : Int), (s : Int), (l : Int), _⟩, (w : NW), _⟩ q h
  simp only [Tr.get] at h
  show (t33o k r s l w).get = some q
  cases hb : bigW w with
  | false => rw [hb] at h; cases h
  | true =>
    rw [hb] at h
    simp only [bigW, decide_eq_true_eq] at hb
    simp only [cond_true] at h
    simp only [t33o, Tr.get]
    by_cases h0 : k < 0
    · rw [show hasK w k = false by simp [hasK]; omega] at h
      rw [dec_true h0]
      exact h
    · rw [dec_false h0]
      by_cases h1 : k ≥ (w.length : Int)
      · rw [show hasK w k = false by simp [hasK]; omega] at h
        rw [dec_true h1]
        exact h
      · rw [show hasK w k = true by simp [hasK]; omega] at h
        rw [rm_eq (by omega) (by omega) hb, IntWalk.i64_in (k + 1) (by omega)]
        rw [dec_false h1, dec_true (show (0 : Int) ≤ k by omega), dec_true (show k < (w.length : Int) by omega), dec_true (show k ≤ (w.length : Int) by omega), dec_true (show (0 : Int) ≤ 0 by omega), dec_true (show (0 : Int) ≤ (w.length : Int) by omega),
          dec_true (show (w.length : Int) ≤ (w.length : Int) by omega), dec_true (show (0 : Int) ≤ k + 1 by omega), dec_true (show k + 1 ≤ (w.length : Int) by omega), show (k == k) = true by simp,
          fits32 (by simp only [List.length_take, List.length_drop]; omega)]
        exact h
/-- derricklaw18.made -/
def t30 (p : ((Int × Int) × ((Int × Int) × List UInt8))) : Tr Res := Tr.ret ([AV.agg [AV.int IntKind.u32 (Prod.fst (Prod.fst p)), AV.int IntKind.u16 (Prod.snd (Prod.fst p)), AV.int IntKind.u32 (Prod.fst (Prod.fst (Prod.snd p))), AV.int IntKind.u16 (Prod.snd (Prod.fst (Prod.snd p))), AV.str (Prod.snd (Prod.snd p))]], [])
def os30 : OSpec := { f := 30, sh := [.d PK true], so := [], F := fun (p, _) _ => t30 p }
theorem fn30 (p : ((Int × Int) × ((Int × Int) × List UInt8))) : evC T0 (orcB [] []) (lpOf h30 0 (lsOf [])) c30 1000000 (startSt [AV.ofTy PK p true] [] Try.f30.ntmps) (finishK T0 false 0 Try.f30) = (t30 p).get := by kernel_rfl
theorem ok30 : os30.Ok Try.prog := by
  refine os_ok mixed0 tab0 (orcB_sound all_nil all_nil) h30 (d := 0) (n0 := 0) (S := lsOf []) Try.func30 (by kernel_rfl) (c := c30) (by kernel_rfl) rfl (no_loops (by kernel_rfl)) (by omega) (by kernel_rfl) ?_
  intro x'' y'' q'' hq''
  obtain ⟨(p : ((Int × Int) × ((Int × Int) × List UInt8))), _⟩ := x''
  exact (fn30 p).trans hq''
/-- derricklaw18.real -/
def t32 (p : ((Int × Int) × ((Int × Int) × List UInt8))) : Tr Res := Tr.ret ([AV.agg [AV.int IntKind.u32 (Prod.fst (Prod.fst p)), AV.int IntKind.u16 (Prod.snd (Prod.fst p)), AV.int IntKind.u32 (Prod.fst (Prod.fst (Prod.snd p))), AV.int IntKind.u16 (Prod.snd (Prod.fst (Prod.snd p))), AV.str (Prod.snd (Prod.snd p))]], [])
def os32 : OSpec := { f := 32, sh := [.d PK true], so := [], F := fun (p, _) _ => t32 p }
theorem fn32 (p : ((Int × Int) × ((Int × Int) × List UInt8))) : evC T0 (orcB [] []) (lpOf h32 0 (lsOf [])) c32 1000000 (startSt [AV.ofTy PK p true] [] Try.f32.ntmps) (finishK T0 false 0 Try.f32) = (t32 p).get := by kernel_rfl
theorem ok32 : os32.Ok Try.prog := by
  refine os_ok mixed0 tab0 (orcB_sound all_nil all_nil) h32 (d := 0) (n0 := 0) (S := lsOf []) Try.func32 (by kernel_rfl) (c := c32) (by kernel_rfl) rfl (no_loops (by kernel_rfl)) (by omega) (by kernel_rfl) ?_
  intro x'' y'' q'' hq''
  obtain ⟨(p : ((Int × Int) × ((Int × Int) × List UInt8))), _⟩ := x''
  exact (fn32 p).trans hq''
/-- derricklaw18.shown -/
def t27 : Tr Res := Tr.ret ([AV.bool ((0 : Int) == (0 : Int))], [])
def os27 : OSpec := { f := 27, sh := [], so := [], F := fun _ _ => t27 }
theorem fn27 : evC T0 (orcB [] [os28, os29, os33, os40o, os34o, os36o, os35o]) (lpOf h27 0 (lsOf [])) c27 1000000 (startSt [] [] Try.f27.ntmps) (finishK T0 false 0 Try.f27) = (t27).get := by kernel_rfl
theorem ok27 : os27.Ok Try.prog := by
  refine os_ok mixed0 tab0 (orcB_sound all_nil (all_cons ok28 (all_cons ok29 (all_cons ok33 (all_cons ok40o (all_cons ok34o (all_cons ok36o (all_cons ok35o all_nil)))))))) h27 (d := 0) (n0 := 0) (S := lsOf []) Try.func27 (by kernel_rfl) (c := c27) (by kernel_rfl) rfl (no_loops (by kernel_rfl)) (by omega) (by kernel_rfl) ?_
  intro x'' y'' q'' hq''
  exact (fn27).trans hq''
def m100 (l : NW) : Nat := min l.length 100
def oa (i r s lo : Int) (w : NW) : Bool := decide (i = 0) && decide (r = 100) && decide (s = 0) && decide (lo = 0) && w.isEmpty
def ob (l : NW) (i r s lo : Int) (w : NW) : Bool := decide (i = 0) && decide (r = 100) && decide (s = (m100 l : Int)) && decide (lo = 0) && decide (w = l.take 100)
noncomputable def b9a : Code := nthLoop c9 0
def ls9a : LoopSpec := { bid := 0, sh := [.d (.list PK) false, .d (.list .bool) false, .d .bool false, .ptr 0 0, .d (.int .i64) false], so := [.box [.row 1, .d (.int .i64) false, .d (.int .i64) false, .d (.int .i64) false], .row PK], F := fun (l, tw, up, i, _) ((r, s, lo, _), w, _) => .on (oa i r s lo w) (.exit 0, [.list PK l, .list .bool tw, .dead, .bool up, .ptr 0 0], boxN 100 (m100 l) 0 (l.take 100)) }
def r9a (l : List ((Int × Int) × ((Int × Int) × List UInt8))) (tw : List Bool) (up : Bool) (i : Int) (r : Int) (s : Int) (lo : Int) (w : List ((Int × Int) × ((Int × Int) × List UInt8))) : Tr (St ⊕ (Ex × St)) := Tr.br (decide (i < (↑(List.length l) : Int))) (Tr.br (decide (i < (100 : Int))) (Tr.br (decide ((0 : Int) ≤ i)) (Tr.br (decide (i < (↑(List.length l) : Int))) (Tr.br (bigW w) (Tr.br (decide ((↑(List.length w) : Int) ≥ r)) (Tr.ret (Sum.inr (Ex.ret, stOf [0, 1, 4, 5, 6] [AV.list PK l, AV.list Ty.bool tw, AV.bool false, AV.bool up, AV.ptr 0 0] [LObj.box [AV.rowA 1, AV.int IntKind.i64 r, AV.int IntKind.i64 (IntKind.wrap IntKind.i64 (s + (1 : Int))), AV.int IntKind.i64 (IntKind.wrap IntKind.i64 (lo + (1 : Int)))], LObj.row PK w]))) (Tr.ret (Sum.inl (stOf [0, 1, 5, 6, 7] [AV.list PK l, AV.list Ty.bool tw, AV.bool up, AV.ptr 0 0, AV.int IntKind.i64 (IntKind.wrap IntKind.i64 (i + (1 : Int)))] [LObj.box [AV.rowA 1, AV.int IntKind.i64 r, AV.int IntKind.i64 (IntKind.wrap IntKind.i64 (s + (1 : Int))), AV.int IntKind.i64 lo], LObj.row PK (w ++ [List.getD l (Int.toNat i) (Ty.dflt PK)])])))) Tr.no) Tr.no) Tr.no) (Tr.ret (Sum.inr (Ex.exit 0, stOf [0, 1, 4, 5, 6] [AV.list PK l, AV.list Ty.bool tw, AV.dead, AV.bool up, AV.ptr 0 0] [LObj.box [AV.rowA 1, AV.int IntKind.i64 r, AV.int IntKind.i64 s, AV.int IntKind.i64 lo], LObj.row PK w])))) (Tr.ret (Sum.inr (Ex.exit 0, stOf [0, 1, 4, 5, 6] [AV.list PK l, AV.list Ty.bool tw, AV.dead, AV.bool up, AV.ptr 0 0] [LObj.box [AV.rowA 1, AV.int IntKind.i64 r, AV.int IntKind.i64 s, AV.int IntKind.i64 lo], LObj.row PK w])))
theorem round9a (lp : Lp) (l : List ((Int × Int) × ((Int × Int) × List UInt8))) (tw : List Bool) (up : Bool) (i : Int) (r : Int) (s : Int) (lo : Int) (w : List ((Int × Int) × ((Int × Int) × List UInt8))) : evC T0 (orcB [] [os28, os29, os33, os31, os30, os32, os27, os34o, os35o]) lp b9a 0 (stOf [0, 1, 5, 6, 7] [.list PK l, .list .bool tw, .bool up, .ptr 0 0, .int .i64 i] [.box [.rowA 1, .int .i64 r, .int .i64 s, .int .i64 lo], .row PK w]) (roundK [0, 1, 5, 6, 7] [0, 1, 4, 5, 6] 0) = (r9a l tw up i r s lo w).get := by kernel_rfl
theorem loop9a : ls9a.Ok T0 (orcB [] [os28, os29, os33, os31, os30, os32, os27, os34o, os35o]) h9 0 0 b9a := by
  intro q'' hq'' x'' y'' r'' h
  obtain ⟨(l : List ((Int × Int) × ((Int × Int) × List UInt8))), (tw : List Bool), (up : Bool), (i : Int), _⟩ := x''
  obtain ⟨⟨(r : Int), (s : Int), (lo : Int), _⟩, (w : List ((Int × Int) × ((Int × Int) × List UInt8))), _⟩ := y''
  obtain ⟨hc, rfl⟩ := Tr.get_on h
  show loopF (fun st => evC T0 (orcB [] [os28, os29, os33, os31, os30, os32, os27, os34o, os35o]) (lpN T0 (orcB [] [os28, os29, os33, os31, os30, os32, os27, os34o, os35o]) h9 0 q'') b9a 0 st (roundK [0, 1, 5, 6, 7] [0, 1, 4, 5, 6] 0)) (stOf [0, 1, 5, 6, 7] [.list PK l, .list .bool tw, .bool up, .ptr 0 0, .int .i64 i] [.box [.rowA 1, .int .i64 r, .int .i64 s, .int .i64 lo], .row PK w]) = some (.exit 0, stOf [0, 1, 4, 5, 6] ([.list PK l, .list .bool tw, .dead, .bool up, .ptr 0 0]) (boxN 100 (m100 l) 0 (l.take 100)))
  simp only [oa, Bool.and_eq_true, decide_eq_true_eq, List.isEmpty_iff] at hc
  obtain ⟨⟨⟨⟨rfl, rfl⟩, rfl⟩, rfl⟩, rfl⟩ := hc
  refine loop_wf (fun k : Nat => stOf [0, 1, 5, 6, 7] [.list PK l, .list .bool tw, .bool up, .ptr 0 0, .int .i64 k] (boxN 100 k 0 (l.take k))) (fun k => k ≤ m100 l) (fun k => 100 - k) _ ?_ 0 (Nat.zero_le _)
  intro k hk
  have hk1 : k ≤ l.length ∧ k ≤ 100 := ⟨Nat.le_trans hk (Nat.min_le_left _ _), Nat.le_trans hk (Nat.min_le_right _ _)⟩
  simp only [boxN]
  rw [round9a]
  unfold r9a
  have hlen : (l.take k).length = k := by simp; omega
  by_cases h1 : k < l.length
  · by_cases h2 : k < 100
    · refine .inr ⟨k + 1, ?_, by simp only [m100]; omega, by omega⟩
      simp only [Tr.get, hlen, dec_true (show (k : Int) < l.length by omega), dec_true (show (k : Int) < 100 by omega), dec_true (show (0 : Int) ≤ k by omega), dec_false (show ¬ ((k : Int) ≥ 100) by omega), cond_true, cond_false, IntWalk.i64_in (k + 1 : Int) (by omega), int_nat]
      rw [show bigW (l.take k) = true by simp [bigW]; omega, cond_true, show l.take (k + 1) = l.take k ++ [l.getD k (Ty.dflt PK)] by rw [List.take_add_one, List.getD_eq_getElem?_getD, List.getElem?_eq_getElem h1]; rfl]
      rfl
    · refine .inl ?_
      have e : k = 100 := by omega
      subst e
      simp only [Tr.get, dec_true (show ((100 : Nat) : Int) < l.length by omega), dec_false (show ¬ (((100 : Nat) : Int) < 100) by omega), cond_true, cond_false]
      rw [show m100 l = 100 by simp only [m100]; omega]
  · refine .inl ?_
    have e : k = l.length := by omega
    subst e
    simp only [Tr.get, dec_false (show ¬ ((l.length : Int) < l.length) by omega), cond_false]
    rw [show m100 l = l.length by simp only [m100]; omega, List.take_length, List.take_of_length_le (show l.length ≤ 100 by omega)]

def pkEq (a b : (Int × Int) × ((Int × Int) × List UInt8)) : Bool := (a.1.1 == b.1.1 && (a.1.2 == b.1.2 && true) && (a.2.1.1 == b.2.1.1 && (a.2.1.2 == b.2.1.2 && true) && (a.2.2 == b.2.2 && true)))
theorem pkEq_refl (a : (Int × Int) × ((Int × Int) × List UInt8)) : pkEq a a = true := by simp [pkEq]
noncomputable def b9b : Code := nthLoop c9 1
def ls9b : LoopSpec := { bid := 2, sh := [.d (.list PK) false, .d (.list .bool) false, .d .bool false, .ptr 0 0, .d (.int .i64) false], so := [.box [.row 1, .d (.int .i64) false, .d (.int .i64) false, .d (.int .i64) false], .row PK], F := fun (l, tw, up, i, _) ((r, s, lo, _), w, _) => .on (ob l i r s lo w) (.exit 2, [.dead, .bool up, .ptr 0 0], boxN 100 (m100 l) 0 []) }
def r9b (l : List ((Int × Int) × ((Int × Int) × List UInt8))) (tw : List Bool) (up : Bool) (i : Int) (r : Int) (s : Int) (lo : Int) (w : List ((Int × Int) × ((Int × Int) × List UInt8))) : Tr (St ⊕ (Ex × St)) := Tr.br (decide (i < (↑(List.length l) : Int))) (Tr.br (decide (i < (100 : Int))) (Tr.br (decide (i < (↑(List.length tw) : Int))) (Tr.br (decide ((0 : Int) ≤ i)) (Tr.br (decide (i < (↑(List.length tw) : Int))) (Tr.br (List.getD tw (Int.toNat i) (Ty.dflt Ty.bool)) (Tr.br (hasK w (0 : Int)) (Tr.br (decide ((0 : Int) ≤ i)) (Tr.br (decide (i < (↑(List.length l) : Int))) (Tr.br (!(Prod.fst (Prod.fst (atK w (0 : Int))) == Prod.fst (Prod.fst (List.getD l (Int.toNat i) (Ty.dflt PK))) && (Prod.snd (Prod.fst (atK w (0 : Int))) == Prod.snd (Prod.fst (List.getD l (Int.toNat i) (Ty.dflt PK))) && true) && (Prod.fst (Prod.fst (Prod.snd (atK w (0 : Int)))) == Prod.fst (Prod.fst (Prod.snd (List.getD l (Int.toNat i) (Ty.dflt PK)))) && (Prod.snd (Prod.fst (Prod.snd (atK w (0 : Int)))) == Prod.snd (Prod.fst (Prod.snd (List.getD l (Int.toNat i) (Ty.dflt PK)))) && true) && (Prod.snd (Prod.snd (atK w (0 : Int))) == Prod.snd (Prod.snd (List.getD l (Int.toNat i) (Ty.dflt PK))) && true)))) (Tr.ret (Sum.inr (Ex.ret, stOf [4, 5, 6] [AV.bool false, AV.bool up, AV.ptr 0 0] [LObj.box [AV.rowA 1, AV.int IntKind.i64 r, AV.int IntKind.i64 s, AV.int IntKind.i64 lo], LObj.row PK w]))) (Tr.br (bigW w) (Tr.br (hasK w (0 : Int)) (Tr.br (decide ((0 : Int) ≤ i)) (Tr.br (decide (i < (↑(List.length l) : Int))) (Tr.br (!(Prod.fst (Prod.fst (atK w (0 : Int))) == Prod.fst (Prod.fst (List.getD l (Int.toNat i) (Ty.dflt PK))) && (Prod.snd (Prod.fst (atK w (0 : Int))) == Prod.snd (Prod.fst (List.getD l (Int.toNat i) (Ty.dflt PK))) && true) && (Prod.fst (Prod.fst (Prod.snd (atK w (0 : Int)))) == Prod.fst (Prod.fst (Prod.snd (List.getD l (Int.toNat i) (Ty.dflt PK)))) && (Prod.snd (Prod.fst (Prod.snd (atK w (0 : Int)))) == Prod.snd (Prod.fst (Prod.snd (List.getD l (Int.toNat i) (Ty.dflt PK)))) && true) && (Prod.snd (Prod.snd (atK w (0 : Int))) == Prod.snd (Prod.snd (List.getD l (Int.toNat i) (Ty.dflt PK))) && true)))) (Tr.ret (Sum.inr (Ex.ret, stOf [4, 5, 6] [AV.bool false, AV.bool up, AV.ptr 0 0] [LObj.box [AV.rowA 1, AV.int IntKind.i64 r, AV.int IntKind.i64 s, AV.int IntKind.i64 lo], LObj.row PK (List.eraseIdx w (Int.toNat (0 : Int)))]))) (Tr.ret (Sum.inl (stOf [0, 1, 5, 6, 8] [AV.list PK l, AV.list Ty.bool tw, AV.bool up, AV.ptr 0 0, AV.int IntKind.i64 (IntKind.wrap IntKind.i64 (i + (1 : Int)))] [LObj.box [AV.rowA 1, AV.int IntKind.i64 r, AV.int IntKind.i64 s, AV.int IntKind.i64 lo], LObj.row PK (List.eraseIdx w (Int.toNat (0 : Int)))])))) Tr.no) Tr.no) (Tr.ret (Sum.inr (Ex.ret, stOf [4, 5, 6] [AV.bool false, AV.bool up, AV.ptr 0 0] [LObj.box [AV.rowA 1, AV.int IntKind.i64 r, AV.int IntKind.i64 s, AV.int IntKind.i64 lo], LObj.row PK w])))) Tr.no)) Tr.no) Tr.no) (Tr.ret (Sum.inr (Ex.ret, stOf [4, 5, 6] [AV.bool false, AV.bool up, AV.ptr 0 0] [LObj.box [AV.rowA 1, AV.int IntKind.i64 r, AV.int IntKind.i64 s, AV.int IntKind.i64 lo], LObj.row PK w])))) (Tr.br (bigW w) (Tr.br (hasK w (0 : Int)) (Tr.br (decide ((0 : Int) ≤ i)) (Tr.br (decide (i < (↑(List.length l) : Int))) (Tr.br (!(Prod.fst (Prod.fst (atK w (0 : Int))) == Prod.fst (Prod.fst (List.getD l (Int.toNat i) (Ty.dflt PK))) && (Prod.snd (Prod.fst (atK w (0 : Int))) == Prod.snd (Prod.fst (List.getD l (Int.toNat i) (Ty.dflt PK))) && true) && (Prod.fst (Prod.fst (Prod.snd (atK w (0 : Int)))) == Prod.fst (Prod.fst (Prod.snd (List.getD l (Int.toNat i) (Ty.dflt PK)))) && (Prod.snd (Prod.fst (Prod.snd (atK w (0 : Int)))) == Prod.snd (Prod.fst (Prod.snd (List.getD l (Int.toNat i) (Ty.dflt PK)))) && true) && (Prod.snd (Prod.snd (atK w (0 : Int))) == Prod.snd (Prod.snd (List.getD l (Int.toNat i) (Ty.dflt PK))) && true)))) (Tr.ret (Sum.inr (Ex.ret, stOf [4, 5, 6] [AV.bool false, AV.bool up, AV.ptr 0 0] [LObj.box [AV.rowA 1, AV.int IntKind.i64 r, AV.int IntKind.i64 s, AV.int IntKind.i64 lo], LObj.row PK (List.eraseIdx w (Int.toNat (0 : Int)))]))) (Tr.ret (Sum.inl (stOf [0, 1, 5, 6, 8] [AV.list PK l, AV.list Ty.bool tw, AV.bool up, AV.ptr 0 0, AV.int IntKind.i64 (IntKind.wrap IntKind.i64 (i + (1 : Int)))] [LObj.box [AV.rowA 1, AV.int IntKind.i64 r, AV.int IntKind.i64 s, AV.int IntKind.i64 lo], LObj.row PK (List.eraseIdx w (Int.toNat (0 : Int)))])))) Tr.no) Tr.no) (Tr.ret (Sum.inr (Ex.ret, stOf [4, 5, 6] [AV.bool false, AV.bool up, AV.ptr 0 0] [LObj.box [AV.rowA 1, AV.int IntKind.i64 r, AV.int IntKind.i64 s, AV.int IntKind.i64 lo], LObj.row PK w])))) Tr.no)) Tr.no) Tr.no) (Tr.br (bigW w) (Tr.br (hasK w (0 : Int)) (Tr.br (decide ((0 : Int) ≤ i)) (Tr.br (decide (i < (↑(List.length l) : Int))) (Tr.br (!(Prod.fst (Prod.fst (atK w (0 : Int))) == Prod.fst (Prod.fst (List.getD l (Int.toNat i) (Ty.dflt PK))) && (Prod.snd (Prod.fst (atK w (0 : Int))) == Prod.snd (Prod.fst (List.getD l (Int.toNat i) (Ty.dflt PK))) && true) && (Prod.fst (Prod.fst (Prod.snd (atK w (0 : Int)))) == Prod.fst (Prod.fst (Prod.snd (List.getD l (Int.toNat i) (Ty.dflt PK)))) && (Prod.snd (Prod.fst (Prod.snd (atK w (0 : Int)))) == Prod.snd (Prod.fst (Prod.snd (List.getD l (Int.toNat i) (Ty.dflt PK)))) && true) && (Prod.snd (Prod.snd (atK w (0 : Int))) == Prod.snd (Prod.snd (List.getD l (Int.toNat i) (Ty.dflt PK))) && true)))) (Tr.ret (Sum.inr (Ex.ret, stOf [4, 5, 6] [AV.bool false, AV.bool up, AV.ptr 0 0] [LObj.box [AV.rowA 1, AV.int IntKind.i64 r, AV.int IntKind.i64 s, AV.int IntKind.i64 lo], LObj.row PK (List.eraseIdx w (Int.toNat (0 : Int)))]))) (Tr.ret (Sum.inl (stOf [0, 1, 5, 6, 8] [AV.list PK l, AV.list Ty.bool tw, AV.bool up, AV.ptr 0 0, AV.int IntKind.i64 (IntKind.wrap IntKind.i64 (i + (1 : Int)))] [LObj.box [AV.rowA 1, AV.int IntKind.i64 r, AV.int IntKind.i64 s, AV.int IntKind.i64 lo], LObj.row PK (List.eraseIdx w (Int.toNat (0 : Int)))])))) Tr.no) Tr.no) (Tr.ret (Sum.inr (Ex.ret, stOf [4, 5, 6] [AV.bool false, AV.bool up, AV.ptr 0 0] [LObj.box [AV.rowA 1, AV.int IntKind.i64 r, AV.int IntKind.i64 s, AV.int IntKind.i64 lo], LObj.row PK w])))) Tr.no)) (Tr.ret (Sum.inr (Ex.exit 2, stOf [4, 5, 6] [AV.dead, AV.bool up, AV.ptr 0 0] [LObj.box [AV.rowA 1, AV.int IntKind.i64 r, AV.int IntKind.i64 s, AV.int IntKind.i64 lo], LObj.row PK w])))) (Tr.ret (Sum.inr (Ex.exit 2, stOf [4, 5, 6] [AV.dead, AV.bool up, AV.ptr 0 0] [LObj.box [AV.rowA 1, AV.int IntKind.i64 r, AV.int IntKind.i64 s, AV.int IntKind.i64 lo], LObj.row PK w])))
theorem round9b (lp : Lp) (l : List ((Int × Int) × ((Int × Int) × List UInt8))) (tw : List Bool) (up : Bool) (i : Int) (r : Int) (s : Int) (lo : Int) (w : List ((Int × Int) × ((Int × Int) × List UInt8))) : evC T0 (orcB [] [os28, os29, os33, os31, os30, os32, os27, os34o, os35o]) lp b9b 2 (stOf [0, 1, 5, 6, 8] [.list PK l, .list .bool tw, .bool up, .ptr 0 0, .int .i64 i] [.box [.rowA 1, .int .i64 r, .int .i64 s, .int .i64 lo], .row PK w]) (roundK [0, 1, 5, 6, 8] [4, 5, 6] 0) = (r9b l tw up i r s lo w).get := by kernel_rfl
theorem loop9b : ls9b.Ok T0 (orcB [] [os28, os29, os33, os31, os30, os32, os27, os34o, os35o]) h9 0 0 b9b := by
  intro q'' hq'' x'' y'' r'' h
  obtain ⟨(l : List ((Int × Int) × ((Int × Int) × List UInt8))), (tw : List Bool), (up : Bool), (i : Int), _⟩ := x''
  obtain ⟨⟨(r : Int), (s : Int), (lo : Int), _⟩, (w : List ((Int × Int) × ((Int × Int) × List UInt8))), _⟩ := y''
  obtain ⟨hc, rfl⟩ := Tr.get_on h
  show loopF (fun st => evC T0 (orcB [] [os28, os29, os33, os31, os30, os32, os27, os34o, os35o]) (lpN T0 (orcB [] [os28, os29, os33, os31, os30, os32, os27, os34o, os35o]) h9 0 q'') b9b 2 st (roundK [0, 1, 5, 6, 8] [4, 5, 6] 0)) (stOf [0, 1, 5, 6, 8] [.list PK l, .list .bool tw, .bool up, .ptr 0 0, .int .i64 i] [.box [.rowA 1, .int .i64 r, .int .i64 s, .int .i64 lo], .row PK w]) = some (.exit 2, stOf [4, 5, 6] ([.dead, .bool up, .ptr 0 0]) (boxN 100 (m100 l) 0 []))
  simp only [ob, Bool.and_eq_true, decide_eq_true_eq] at hc
  obtain ⟨⟨⟨⟨rfl, rfl⟩, rfl⟩, rfl⟩, rfl⟩ := hc
  refine loop_wf (fun k : Nat => stOf [0, 1, 5, 6, 8] [.list PK l, .list .bool tw, .bool up, .ptr 0 0, .int .i64 k] (boxN 100 (m100 l) 0 ((l.take 100).drop k))) (fun k => k ≤ m100 l) (fun k => 100 - k) _ ?_ 0 (Nat.zero_le _)
  intro k hk
  have hk1 : k ≤ l.length ∧ k ≤ 100 := ⟨Nat.le_trans hk (Nat.min_le_left _ _), Nat.le_trans hk (Nat.min_le_right _ _)⟩
  simp only [boxN]
  rw [round9b]
  unfold r9b
  have hlen : ((l.take 100).drop k).length = m100 l - k := by simp [m100]; omega
  by_cases h1 : k < l.length
  · by_cases h2 : k < 100
    · refine .inr ⟨k + 1, ?_, by simp only [m100]; omega, by omega⟩
      have hw : hasK ((l.take 100).drop k) 0 = true := by simp only [hasK, hlen, m100, Bool.and_eq_true, decide_eq_true_eq]; omega
      have hat : atK ((l.take 100).drop k) 0 = l.getD k (Ty.dflt PK) := by
        simp only [atK, Int.toNat_zero, List.getD_eq_getElem?_getD, List.getElem?_drop, Nat.add_zero, List.getElem?_take, if_pos h2]
      have hrm : ((l.take 100).drop k).eraseIdx (Int.toNat 0) = (l.take 100).drop (k + 1) := by
        simp only [Int.toNat_zero, List.eraseIdx_zero, List.tail_drop]
      have hbig : bigW ((l.take 100).drop k) = true := by simp only [bigW, hlen, m100, decide_eq_true_eq]; omega
      have heq := pkEq_refl (l.getD k (Ty.dflt PK))
      unfold pkEq at heq
      simp only [Tr.get, dec_true (show (k : Int) < l.length by omega), dec_true (show (k : Int) < 100 by omega), dec_true (show (0 : Int) ≤ k by omega), cond_true, cond_false, IntWalk.i64_in (k + 1 : Int) (by omega), int_nat, hw, hat, hrm, hbig, heq, Bool.not_true]
      cases hd : decide ((k : Int) < tw.length) with
      | false => rfl
      | true =>
        simp only [cond_true]
        cases tw.getD k (Ty.dflt Ty.bool) <;> rfl
    · refine .inl ?_
      have e : k = 100 := by omega
      subst e
      simp only [Tr.get, dec_true (show ((100 : Nat) : Int) < l.length by omega), dec_false (show ¬ (((100 : Nat) : Int) < 100) by omega), cond_true, cond_false]
      rw [List.drop_of_length_le (show (l.take 100).length ≤ 100 by simp; omega)]
  · refine .inl ?_
    have e : k = l.length := by omega
    subst e
    simp only [Tr.get, dec_false (show ¬ ((l.length : Int) < l.length) by omega), cond_false]
    rw [List.drop_of_length_le (show (l.take 100).length ≤ l.length by simp; omega)]
/-- derricklaw18.NetworkOrder -/
def t9 (l : List ((Int × Int) × ((Int × Int) × List UInt8))) (tw : List Bool) : Tr Res := Tr.br (ob l (0 : Int) (100 : Int) (↑(m100 l) : Int) (0 : Int) (List.take 100 l)) (Tr.ret ([AV.bool ((0 : Int) == (0 : Int))], [])) Tr.no
def os9 : OSpec := { f := 9, sh := [.d (.list PK) false, .d (.list .bool) false], so := [], F := fun (l, tw, _) _ => t9 l tw }
theorem fn9 (l : List ((Int × Int) × ((Int × Int) × List UInt8))) (tw : List Bool) : evC T0 (orcB [] [os28, os29, os33, os31, os30, os32, os27, os34o, os35o]) (lpOf h9 0 (lsOf [ls9a, ls9b])) c9 1000000 (startSt [.list PK l, .list .bool tw] [] Try.f9.ntmps) (finishK T0 false 0 Try.f9) = (t9 l tw).get := by kernel_rfl
theorem ok9 : os9.Ok Try.prog := by
  refine os_ok mixed0 tab0 (orcB_sound all_nil (all_cons ok28 (all_cons ok29 (all_cons ok33 (all_cons ok31 (all_cons ok30 (all_cons ok32 (all_cons ok27 (all_cons ok34o (all_cons ok35o all_nil)))))))))) h9 (d := 0) (n0 := 0) (S := lsOf [ls9a, ls9b]) Try.func9 (by kernel_rfl) (c := c9) (by kernel_rfl) rfl (loops_eq (xs := [(0, b9a), (2, b9b)]) (by kernel_rfl) (all_cons (ls_here loop9a) (all_cons (ls_skip (by kernel_rfl) (ls_here loop9b)) all_nil))) (by omega) (by kernel_rfl) ?_
  intro x'' y'' q'' hq''
  obtain ⟨(l : List ((Int × Int) × ((Int × Int) × List UInt8))), (tw : List Bool), _⟩ := x''
  exact (fn9 l tw).trans hq''
theorem sem9 (l : NW) (tw : List Bool) : SemF Try.prog 9 [.list PK l, .list .bool tw] [] [.bool true] [] := by
  refine ok9 (l, tw, ()) () ([.bool true], []) ?_
  show (t9 l tw).get = _
  unfold t9
  rw [show ob l 0 100 (m100 l : Int) 0 (l.take 100) = true by simp [ob]]
  rfl

end Go.Proofs.YtgiofacmcpakoaaE
