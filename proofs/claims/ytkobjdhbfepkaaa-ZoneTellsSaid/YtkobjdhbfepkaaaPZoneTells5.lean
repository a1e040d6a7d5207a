import Derived.Test.YtkobjdhbfepkaaaPZoneTells4
import Derived.Test.YtkobjdhbfepkaaaRows
import Derived.WalkKit
import Derived.ProofKit
import Derived.OpenShut
import Derived.ShutString
import Derived.ChangeOld
import Derived.Below
import Derived.Carry
import Derived.SizedLaws
namespace Go.Proofs.YtkobjdhbfepkaaaE
open Go Go.Proofs.YtkobjdhbfepkaaaB
set_option linter.unusedVariables false
set_option linter.unusedSimpArgs false
set_option maxRecDepth 100000
theorem sem81 (xs : List RR.den) (hc : fits xs.length 40 = true) : SemF Try.prog 81 [.list RR xs] [] [.rowA 0] [.row RR xs] := by
  have h : evNil T0 (orcOf []) (fun _ _ _ => .no) Try.f81 true 0 (cC c81).r0 (.seq (cC c81).cx (cC c81).cy) 3 4 (startSt [.list RR xs] [] Try.f81.ntmps) =
      bif fits (([] : List RR.den).length + xs.length) 40 then some (([.rowA 0], [.row RR []]), ([.rowA 0], [.row RR ([] ++ xs)]), xs.isEmpty) else none := by kernel_rfl
  rw [show fits (([] : List RR.den).length + xs.length) 40 = true by simpa using hc] at h
  exact nil_sem mixed0 tab0 (orcOf_sound [] (by simp)) Try.func81 (by kernel_rfl) (id := (cC c81).id) (ops := (cC c81).ops) (o1 := (cC c81).ops.getD 0 default) (o2 := (cC c81).ops.getD 1 default) (d1 := 3) (d2 := 4) (t := 23) (yt := 23) (e := 56)
    (by kernel_rfl) (by kernel_rfl) (by kernel_rfl) (by kernel_rfl) (by kernel_rfl) (by kernel_rfl) (by kernel_rfl) (by kernel_rfl) (by kernel_rfl) (by kernel_rfl) h rfl (fun he => by rw [List.isEmpty_iff.1 he])
def os81 : OSpec := cloneS 81 RR 40
theorem ok81 : os81.Ok Try.prog := cloneS_ok sem81
def t82 (r : (List UInt8 × (Int × (Int × (Int × List UInt8))))) : Tr Res := Tr.br (Prod.fst (Prod.snd r) != (2 : Int)) (Tr.ret ([AV.bool (Prod.fst (Prod.snd r) != (15 : Int))], [])) (Tr.ret ([AV.bool false], []))
def os82 : OSpec := { f := 82, sh := [.d RR true], so := [], F := fun (r, _) _ => t82 r }
set_option maxRecDepth 1000000 in
theorem fn82 (r : (List UInt8 × (Int × (Int × (Int × List UInt8))))) : evC T0 (orcB [] []) (lpOf h82 0 (lsOf [])) c82 1000000 (startSt [AV.ofTy RR r true] [] Try.f82.ntmps) (finishK T0 false 0 Try.f82) = (t82 r).get := by kernel_rfl
theorem ok82 : os82.Ok Try.prog := by
  refine os_ok mixed0 tab0 (orcB_sound all_nil all_nil) h82 (d := 0) (n0 := 0) (S := lsOf []) Try.func82 (by kernel_rfl) (c := c82) (by kernel_rfl) rfl (no_loops (by kernel_rfl)) (by omega) (by kernel_rfl) ?_
  intro x'' y'' q'' hq''
  obtain ⟨(r : (List UInt8 × (Int × (Int × (Int × List UInt8))))), _⟩ := x''
  exact (fn82 r).trans hq''
def leadB (r : RRt) : Bool := r.2.1 == 2 || r.2.1 == 15
def os82w : OSpec := os82.like fun (r, _) _ => .ret ([.bool (!leadB r)], [])
theorem ok82w : os82w.Ok Try.prog := by
  refine like_ok ok82 _ ?_
  rintro ⟨(r : RRt), _⟩ _ r' h
  cases h
  refine Tr.get_of_all ?_
  show (t82 r).all _
  unfold t82 leadB
  refine Tr.all_br (fun c => Tr.all_ret ?_) fun c => Tr.all_ret ?_
  · cases h : r.2.1 == 2
    · simp [bne]
    · simp [bne, h] at c
  · cases h : r.2.1 == 2
    · simp [bne, h] at c
    · rfl
def fnL : List RRt → Nat → Int
  | [], _ => -1
  | x :: l, k => if leadB x = true then fnL l (k + 1) else (k : Int)
def fnC (l : List RRt) (m i : Int) : Bool := Nat.ble l.length 1000000 && (decide (m = (l.length : Int)) && decide (i = 0))
noncomputable def b88d : Code := nthLoop c88 0
def ls88d : LoopSpec := { bid := 0, sh := [.d (.list RR) false, .fnp 82 [], .d (.int .i64) false, .d (.int .i64) false], so := [], F := fun (l, m, i, _) _ => .on2 (fnC l m i) (decide (fnL l 0 < 0)) (.exit 0, [.dead], []) (.ret, [.int .i64 (fnL l 0)], []) }
def r88d (l : List (List UInt8 × (Int × (Int × (Int × List UInt8))))) (m : Int) (i : Int) : Tr (St ⊕ (Ex × St)) := Tr.br (decide (i < m)) (Tr.br (decide ((0 : Int) ≤ i)) (Tr.br (decide (i < (↑(List.length l) : Int))) (Tr.br (!leadB (List.getD l (Int.toNat i) (Ty.dflt RR))) (Tr.ret (Sum.inr (Ex.ret, stOf [4] [AV.int IntKind.i64 i] []))) (Tr.ret (Sum.inl (stOf [0, 1, 7, 8] [AV.list RR l, AV.fn 82 [], AV.int IntKind.i64 m, AV.int IntKind.i64 (IntKind.wrap IntKind.i64 (i + (1 : Int)))] [])))) Tr.no) Tr.no) (Tr.ret (Sum.inr (Ex.exit 0, stOf [4] [AV.dead] [])))
set_option maxRecDepth 1000000 in
theorem round88d (lp : Lp) (l : List (List UInt8 × (Int × (Int × (Int × List UInt8))))) (m : Int) (i : Int) : evC T0 (orcB [] [os82w]) lp b88d 0 (stOf [0, 1, 7, 8] [.list RR l, .fn 82 [], .int .i64 m, .int .i64 i] []) (roundK [0, 1, 7, 8] [4] 0) = (r88d l m i).get := by kernel_rfl
theorem wf88d (l : List (List UInt8 × (Int × (Int × (Int × List UInt8))))) (m : Int) (I'' : Int → Prop) (m'' : Int → Nat) (r'' : Ex × St) (h : ∀ (i : Int), I'' i → (r88d l m i).all fun x'' => x'' = .inr r'' ∨ ∃ (i' : Int), x'' = .inl (stOf [0, 1, 7, 8] [.list RR l, .fn 82 [], .int .i64 m, .int .i64 i'] []) ∧ I'' i' ∧ m'' i' < m'' i) (lp : Lp) (i : Int) : I'' i →
    loopF (fun st => evC T0 (orcB [] [os82w]) lp b88d 0 st (roundK [0, 1, 7, 8] [4] 0)) (stOf [0, 1, 7, 8] [.list RR l, .fn 82 [], .int .i64 m, .int .i64 i] []) = some r'' :=
  loop_tr (fun a'' : Int => stOf [0, 1, 7, 8] [.list RR l, .fn 82 [], .int .i64 m, .int .i64 a''] []) (fun a'' => I'' a'') (fun a'' => m'' a'') r'' (fun a'' => r88d l m a'')
    (fun a'' x hx => (round88d lp l m a'').trans hx) (fun a'' ha => Tr.all_mono (fun x'' hx => hx.imp id fun ⟨i', h1, h2, h3⟩ => ⟨(i'), h1, h2, h3⟩) (h (a'') ha)) (i)
theorem fnL_neg : ∀ (l : List RRt) (k : Nat), fnL l k = -1 ∨ (k : Int) ≤ fnL l k
  | [], _ => .inl rfl
  | x :: l, k => by
    unfold fnL
    split
    · rcases fnL_neg l (k + 1) with h | h
      · exact .inl h
      · exact .inr (by omega)
    · exact .inr (Int.le_refl _)
theorem loop88d : ls88d.Ok T0 (orcB [] [os82w]) h88 0 0 b88d := by
  intro q'' hq'' x'' y'' r'' h
  obtain ⟨(l : List (List UInt8 × (Int × (Int × (Int × List UInt8))))), (m : Int), (i : Int), _⟩ := x''
  obtain ⟨hc, rfl⟩ := Tr.get_on2 h
  show loopF (fun st => evC T0 (orcB [] [os82w]) (lpN T0 (orcB [] [os82w]) h88 0 q'') b88d 0 st (roundK [0, 1, 7, 8] [4] 0)) (stOf [0, 1, 7, 8] [.list RR l, .fn 82 [], .int .i64 m, .int .i64 i] []) = some ((bif decide (fnL l 0 < 0) then (.exit 0, [.dead], []) else (.ret, [.int .i64 (fnL l 0)], []) : Ex × List AV × List LObj).1, stOf [4] (bif decide (fnL l 0 < 0) then (.exit 0, [.dead], []) else (.ret, [.int .i64 (fnL l 0)], []) : Ex × List AV × List LObj).2.1 (bif decide (fnL l 0 < 0) then (.exit 0, [.dead], []) else (.ret, [.int .i64 (fnL l 0)], []) : Ex × List AV × List LObj).2.2)
  simp only [fnC, Bool.and_eq_true, decide_eq_true_eq] at hc
  obtain ⟨hl, rfl, rfl⟩ := hc
  have hl := Nat.le_of_ble_eq_true hl
  refine wf88d l l.length (fun i => 0 ≤ i ∧ i ≤ l.length ∧ fnL (l.drop i.toNat) i.toNat = fnL l 0) (fun i => (l.length - i).toNat) _ ?_ _ 0 ⟨by omega, by omega, rfl⟩
  rintro i ⟨h0, h1, he⟩
  unfold r88d
  rw [wrap_succ h0 h1 (by omega)]
  by_cases hi : i < l.length
  · rw [drop_cons2 (l := l) (k := i.toNat) (by omega) (Ty.dflt RR), fnL] at he
    generalize l.getD i.toNat (Ty.dflt RR) = x at *
    refine Tr.all_t (dec_true hi) (Tr.all_t (dec_true h0) (Tr.all_t (dec_true hi) (Tr.all_br (fun h => ?_) fun h => ?_)))
    · rw [if_neg (by cases hx : leadB x; simp; (rw [hx] at h; cases h))] at he
      rw [← he, show ((i.toNat : Nat) : Int) = i by omega, dec_false (show ¬ i < 0 by omega)]
      exact Tr.all_ret (.inl rfl)
    · rw [if_pos (by cases hx : leadB x; (rw [hx] at h; cases h); rfl)] at he
      exact Tr.all_ret (.inr ⟨_, rfl, ⟨by omega, by omega, by rw [show (i + 1).toNat = i.toNat + 1 by omega]; exact he⟩, by omega⟩)
  · refine Tr.all_f (dec_false hi) (Tr.all_ret (.inl ?_))
    rw [List.drop_eq_nil_of_le (by omega)] at he
    rw [← he]
    rfl
def t88d (l : List (List UInt8 × (Int × (Int × (Int × List UInt8))))) : Tr Res := Tr.br (fnC l (↑(List.length l) : Int) (0 : Int)) (Tr.br (decide (fnL l 0 < (0 : Int))) (Tr.ret ([AV.int IntKind.i64 (-1 : Int)], [])) (Tr.ret ([AV.int IntKind.i64 (fnL l 0)], []))) Tr.no
def os88d : OSpec := { f := 88, sh := [.d (.list RR) false, .fnp 82 []], so := [], F := fun (l, _) _ => t88d l }
set_option maxRecDepth 1000000 in
theorem fn88d (l : List (List UInt8 × (Int × (Int × (Int × List UInt8))))) : evC T0 (orcB [] [os82w]) (lpOf h88 0 (lsOf [ls88d])) c88 1000000 (startSt [.list RR l, .fn 82 []] [] Try.f88.ntmps) (finishK T0 false 0 Try.f88) = (t88d l).get := by kernel_rfl
theorem ok88d : os88d.Ok Try.prog := by
  refine os_ok mixed0 tab0 (orcB_sound all_nil (all_cons ok82w all_nil)) h88 (d := 0) (n0 := 0) (S := lsOf [ls88d]) Try.func88 (by kernel_rfl) (c := c88) (by kernel_rfl) rfl (loops_eq (xs := [(0, b88d)]) (by kernel_rfl) (all_cons (ls_here loop88d) all_nil)) (by omega) (by kernel_rfl) ?_
  intro x'' y'' q'' hq''
  obtain ⟨(l : List (List UInt8 × (Int × (Int × (Int × List UInt8))))), _⟩ := x''
  exact (fn88d l).trans hq''
def os88e : OSpec := os88d.like fun (l, _) _ => .on (lrB l) ([.int .i64 (fnL l 0)], [])
theorem ok88e : os88e.Ok Try.prog := by
  refine like_ok ok88d _ ?_
  rintro ⟨(l : List RRt), _⟩ _ r' h
  obtain ⟨hb, rfl⟩ := Tr.get_on h
  have hb : lrB l = true := hb
  refine Tr.get_of_all ?_
  show (t88d l).all _
  unfold t88d
  refine Tr.all_t (by unfold fnC; unfold lrB at hb; rw [hb, decide_eq_true rfl]; rfl) (Tr.all_br (fun h => Tr.all_ret ?_) fun h => Tr.all_ret rfl)
  have h := of_decide_eq_true h
  rcases fnL_neg l 0 with h2 | h2
  · rw [h2]
  · omega
def ndV (l : List RRt) : List RRt := l.filter leadB
def dlC (l : List RRt) (i j : Int) : Bool := Nat.ble l.length 1000000 && (decide (0 ≤ i) && (decide (i < (l.length : Int)) && (decide (j = i + 1) && decide (ndV (l.take j.toNat) = l.take i.toNat))))
noncomputable def b80d : Code := nthLoop c80 0
def ls80d : LoopSpec := { bid := 0, sh := [.row 0, .fnp 82 [], .d (.int .i64) false, .d (.int .i64) false], so := [.row RR], F := fun (i, j, _) (l, _) => .on (dlC l i j) (.exit 0, [.rowA 0, .int .i64 ((ndV l).length : Nat)], [.row RR (ndV l ++ l.drop (ndV l).length)]) }
def r80d (i : Int) (j : Int) (l : List (List UInt8 × (Int × (Int × (Int × List UInt8))))) : Tr (St ⊕ (Ex × St)) := Tr.br (decide (j < (↑(List.length l) : Int))) (Tr.br (decide ((0 : Int) ≤ j)) (Tr.br (decide (j < (↑(List.length l) : Int))) (Tr.br (!!leadB (List.getD l (Int.toNat j) (Ty.dflt RR))) (Tr.br (decide ((0 : Int) ≤ i)) (Tr.br (decide (i < (↑(List.length l) : Int))) (Tr.ret (Sum.inl (stOf [0, 1, 5, 6] [AV.rowA 0, AV.fn 82 [], AV.int IntKind.i64 (IntKind.wrap IntKind.i64 (i + (1 : Int))), AV.int IntKind.i64 (IntKind.wrap IntKind.i64 (j + (1 : Int)))] [LObj.row RR (List.set l (Int.toNat i) (List.getD l (Int.toNat j) (Ty.dflt RR)))]))) Tr.no) Tr.no) (Tr.ret (Sum.inl (stOf [0, 1, 5, 6] [AV.rowA 0, AV.fn 82 [], AV.int IntKind.i64 i, AV.int IntKind.i64 (IntKind.wrap IntKind.i64 (j + (1 : Int)))] [LObj.row RR l])))) Tr.no) Tr.no) (Tr.ret (Sum.inr (Ex.exit 0, stOf [0, 5] [AV.rowA 0, AV.int IntKind.i64 i] [LObj.row RR l])))
set_option maxRecDepth 1000000 in
theorem round80d (lp : Lp) (i : Int) (j : Int) (l : List (List UInt8 × (Int × (Int × (Int × List UInt8))))) : evC T0 (orcB [] [os82w, os88e]) lp b80d 0 (stOf [0, 1, 5, 6] [.rowA 0, .fn 82 [], .int .i64 i, .int .i64 j] [.row RR l]) (roundK [0, 1, 5, 6] [0, 5] 1) = (r80d i j l).get := by kernel_rfl
theorem wf80d (I'' : Int → Int → List (List UInt8 × (Int × (Int × (Int × List UInt8)))) → Prop) (m'' : Int → Int → List (List UInt8 × (Int × (Int × (Int × List UInt8)))) → Nat) (r'' : Ex × St) (h : ∀ (i : Int) (j : Int) (l : List (List UInt8 × (Int × (Int × (Int × List UInt8))))), I'' i j l → (r80d i j l).all fun x'' => x'' = .inr r'' ∨ ∃ (i' : Int) (j' : Int) (l' : List (List UInt8 × (Int × (Int × (Int × List UInt8))))), x'' = .inl (stOf [0, 1, 5, 6] [.rowA 0, .fn 82 [], .int .i64 i', .int .i64 j'] [.row RR l']) ∧ I'' i' j' l' ∧ m'' i' j' l' < m'' i j l) (lp : Lp) (i : Int) (j : Int) (l : List (List UInt8 × (Int × (Int × (Int × List UInt8))))) : I'' i j l →
    loopF (fun st => evC T0 (orcB [] [os82w, os88e]) lp b80d 0 st (roundK [0, 1, 5, 6] [0, 5] 1)) (stOf [0, 1, 5, 6] [.rowA 0, .fn 82 [], .int .i64 i, .int .i64 j] [.row RR l]) = some r'' :=
  loop_tr (fun a'' : Int × Int × List (List UInt8 × (Int × (Int × (Int × List UInt8)))) => stOf [0, 1, 5, 6] [.rowA 0, .fn 82 [], .int .i64 a''.1, .int .i64 a''.2.1] [.row RR a''.2.2]) (fun a'' => I'' a''.1 a''.2.1 a''.2.2) (fun a'' => m'' a''.1 a''.2.1 a''.2.2) r'' (fun a'' => r80d a''.1 a''.2.1 a''.2.2)
    (fun a'' x hx => (round80d lp a''.1 a''.2.1 a''.2.2).trans hx) (fun a'' ha => Tr.all_mono (fun x'' hx => hx.imp id fun ⟨i', j', l', h1, h2, h3⟩ => ⟨(i', j', l'), h1, h2, h3⟩) (h (a''.1) (a''.2.1) (a''.2.2) ha)) (i, j, l)
theorem ndV_take {l : List RRt} {j : Nat} (hj : j < l.length) (d : RRt) : ndV (l.take (j + 1)) = ndV (l.take j) ++ if leadB (l.getD j d) = true then [l.getD j d] else [] := by
  have hg : l.getD j d = l[j] := by rw [List.getD_eq_getElem?_getD, List.getElem?_eq_getElem hj]; rfl
  rw [hg, List.take_succ_eq_append_getElem hj]
  unfold ndV
  rw [List.filter_append]
  congr 1
  by_cases h : leadB l[j] = true
  · rw [if_pos h, List.filter_cons_of_pos h]; rfl
  · rw [if_neg h, List.filter_cons_of_neg h]; rfl
theorem ndV_le (l : List RRt) (j : Nat) : (ndV (l.take j)).length ≤ j := by
  have := List.length_filter_le leadB (l.take j)
  rw [List.length_take] at this
  unfold ndV
  omega
def dlW (l : List RRt) (j : Nat) : List RRt := ndV (l.take j) ++ l.drop (ndV (l.take j)).length
theorem dlW_len {l : List RRt} {j : Nat} (hj : j ≤ l.length) : (dlW l j).length = l.length := by
  have := ndV_le l j
  unfold dlW
  rw [List.length_append, List.length_drop]
  omega
theorem dlW_get {l : List RRt} {j : Nat} (hj : j < l.length) (d : RRt) : (dlW l j).getD j d = l.getD j d := by
  have := ndV_le l j
  unfold dlW
  rw [List.getD_eq_getElem?_getD, List.getElem?_append_right this, List.getElem?_drop, List.getD_eq_getElem?_getD]
  congr 2
  omega
theorem dlW_set {l : List RRt} {j : Nat} (hj : j < l.length) (d : RRt) (h : leadB (l.getD j d) = true) : (dlW l j).set (ndV (l.take j)).length (l.getD j d) = dlW l (j + 1) := by
  have := ndV_le l j
  unfold dlW
  rw [ndV_take hj d, if_pos h, List.length_append, List.length_singleton, List.set_append_right _ _ (Nat.le_refl _), Nat.sub_self, drop_cons2 (l := l) (k := (ndV (l.take j)).length) (by omega) d]
  simp
theorem dlW_not {l : List RRt} {j : Nat} (hj : j < l.length) (d : RRt) (h : leadB (l.getD j d) = false) : dlW l (j + 1) = dlW l j := by
  unfold dlW
  rw [ndV_take hj d, if_neg (by rw [h]; simp), List.append_nil]
theorem loop80d : ls80d.Ok T0 (orcB [] [os82w, os88e]) h80 1 0 b80d := by
  intro q'' hq'' x'' y'' r'' h
  obtain ⟨(i : Int), (j : Int), _⟩ := x''
  obtain ⟨(l : List (List UInt8 × (Int × (Int × (Int × List UInt8))))), _⟩ := y''
  obtain ⟨hc, rfl⟩ := Tr.get_on h
  show loopF (fun st => evC T0 (orcB [] [os82w, os88e]) (lpN T0 (orcB [] [os82w, os88e]) h80 1 q'') b80d 0 st (roundK [0, 1, 5, 6] [0, 5] 1)) (stOf [0, 1, 5, 6] [.rowA 0, .fn 82 [], .int .i64 i, .int .i64 j] [.row RR l]) = some (.exit 0, stOf [0, 5] ([.rowA 0, .int .i64 ((ndV l).length : Nat)]) ([.row RR (ndV l ++ l.drop (ndV l).length)]))
  simp only [dlC, Bool.and_eq_true, decide_eq_true_eq] at hc
  obtain ⟨hl, h0, h1, rfl, ht⟩ := hc
  have hl := Nat.le_of_ble_eq_true hl
  have hti : (l.take i.toNat).length = i.toNat := by rw [List.length_take]; omega
  have hc0 : (ndV (l.take (i + 1).toNat)).length = i.toNat := by rw [ht, hti]
  have hw0 : dlW l (i + 1).toNat = l := by unfold dlW; rw [hc0, ht]; exact List.take_append_drop _ _
  refine wf80d (fun i j w => 0 ≤ i ∧ i < j ∧ j ≤ l.length ∧ i = ((ndV (l.take j.toNat)).length : Nat) ∧ w = dlW l j.toNat) (fun i j w => (l.length - j).toNat) _ ?_ _ i (i + 1) l ⟨h0, by omega, by omega, by rw [hc0]; omega, hw0.symm⟩
  clear hti hc0 hw0 ht h0 h1
  rintro i j w ⟨h0, h1, h2, he, rfl⟩
  unfold r80d
  rw [dlW_len (by omega), wrap_succ (show 0 ≤ j by omega) h2 (by omega), IntWalk.i64_in (i + 1) (by omega)]
  by_cases hj : j < l.length
  · rw [dlW_get (by omega) (Ty.dflt RR)]
    refine Tr.all_t (dec_true hj) (Tr.all_t (dec_true (by omega)) (Tr.all_t (dec_true hj) (Tr.all_br (fun h => Tr.all_t (dec_true h0) (Tr.all_t (dec_true (by omega)) (Tr.all_ret (.inr ?_)))) fun h => Tr.all_ret (.inr ?_))))
    · have h : leadB (l.getD j.toNat (Ty.dflt RR)) = true := by cases hx : leadB (l.getD j.toNat (Ty.dflt RR)); (rw [hx] at h; cases h); rfl
      refine ⟨_, _, _, rfl, ⟨by omega, by omega, by omega, ?_, ?_⟩, by omega⟩
      · rw [show (j + 1).toNat = j.toNat + 1 by omega, ndV_take (by omega) (Ty.dflt RR), if_pos h, List.length_append, List.length_singleton]
        omega
      · rw [show (j + 1).toNat = j.toNat + 1 by omega, ← dlW_set (by omega) (Ty.dflt RR) h]
        congr 1
        omega
    · have h : leadB (l.getD j.toNat (Ty.dflt RR)) = false := by cases hx : leadB (l.getD j.toNat (Ty.dflt RR)); rfl; (rw [hx] at h; cases h)
      refine ⟨_, _, _, rfl, ⟨by omega, by omega, by omega, ?_, ?_⟩, by omega⟩
      · rw [show (j + 1).toNat = j.toNat + 1 by omega, ndV_take (by omega) (Ty.dflt RR), if_neg (by rw [h]; simp), List.append_nil]
        exact he
      · rw [show (j + 1).toNat = j.toNat + 1 by omega, dlW_not (by omega) (Ty.dflt RR) h]
  · refine Tr.all_f (dec_false hj) (Tr.all_ret (.inl ?_))
    have hj : j.toNat = l.length := by omega
    rw [he]
    unfold dlW
    rw [hj, List.take_length]
def t80d (l : List (List UInt8 × (Int × (Int × (Int × List UInt8))))) : Tr Res := Tr.br (lrB l) (Tr.br (fnL l 0 == (-1 : Int)) (Tr.ret ([AV.rowA 0], [LObj.row RR l])) (Tr.br (dlC l (fnL l 0) (IntKind.wrap IntKind.i64 (fnL l 0 + (1 : Int)))) (Tr.br (decide ((0 : Int) ≤ (↑(List.length (ndV l ++ List.drop (List.length (ndV l)) l)) : Int)) && decide ((↑(List.length (ndV l ++ List.drop (List.length (ndV l)) l)) : Int) ≤ (↑(List.length (ndV l ++ List.drop (List.length (ndV l)) l)) : Int))) (Tr.br (decide ((0 : Int) ≤ (↑(List.length (ndV l)) : Int)) && decide ((↑(List.length (ndV l)) : Int) ≤ (↑(List.length (ndV l ++ List.drop (List.length (ndV l)) l)) : Int))) (Tr.br (decide ((0 : Int) ≤ (↑(List.length (ndV l)) : Int)) && decide ((↑(List.length (ndV l)) : Int) ≤ (↑(List.length (List.take (Int.toNat (↑(List.length (ndV l)) : Int)) (ndV l ++ List.drop (List.length (ndV l)) l) ++ List.replicate (Int.toNat (↑(List.length (ndV l ++ List.drop (List.length (ndV l)) l)) : Int) - Int.toNat (↑(List.length (ndV l)) : Int)) (Ty.dflt RR) ++ List.drop (Int.toNat (↑(List.length (ndV l)) : Int) + (Int.toNat (↑(List.length (ndV l ++ List.drop (List.length (ndV l)) l)) : Int) - Int.toNat (↑(List.length (ndV l)) : Int))) (ndV l ++ List.drop (List.length (ndV l)) l))) : Int))) (Tr.ret ([AV.rowS 0 0 (Int.toNat (↑(List.length (ndV l)) : Int) - Int.toNat (0 : Int)) false], [LObj.row RR (List.take (Int.toNat (↑(List.length (ndV l)) : Int)) (ndV l ++ List.drop (List.length (ndV l)) l) ++ List.replicate (Int.toNat (↑(List.length (ndV l ++ List.drop (List.length (ndV l)) l)) : Int) - Int.toNat (↑(List.length (ndV l)) : Int)) (Ty.dflt RR) ++ List.drop (Int.toNat (↑(List.length (ndV l)) : Int) + (Int.toNat (↑(List.length (ndV l ++ List.drop (List.length (ndV l)) l)) : Int) - Int.toNat (↑(List.length (ndV l)) : Int))) (ndV l ++ List.drop (List.length (ndV l)) l))])) Tr.no) Tr.no) Tr.no) Tr.no)) Tr.no
def os80d : OSpec := { f := 80, sh := [.row 0, .fnp 82 []], so := [.row RR], F := fun _ (l, _) => t80d l }
set_option maxRecDepth 1000000 in
theorem fn80d (l : List (List UInt8 × (Int × (Int × (Int × List UInt8))))) : evC T0 (orcB [] [os82w, os88e]) (lpOf h80 1 (lsOf [ls80d])) c80 1000000 (startSt [.rowA 0, .fn 82 []] [.row RR l] Try.f80.ntmps) (finishK T0 false 1 Try.f80) = (t80d l).get := by kernel_rfl
theorem ok80d : os80d.Ok Try.prog := by
  refine os_ok mixed0 tab0 (orcB_sound all_nil (all_cons ok82w (all_cons ok88e all_nil))) h80 (d := 0) (n0 := 1) (S := lsOf [ls80d]) Try.func80 (by kernel_rfl) (c := c80) (by kernel_rfl) rfl (loops_eq (xs := [(0, b80d)]) (by kernel_rfl) (all_cons (ls_here loop80d) all_nil)) (by omega) (by kernel_rfl) ?_
  intro x'' y'' q'' hq''
  obtain ⟨(l : List (List UInt8 × (Int × (Int × (Int × List UInt8))))), _⟩ := y''
  exact (fn80d l).trans hq''
end Go.Proofs.YtkobjdhbfepkaaaE
namespace Go.Proofs.YtkobjdhbfepkaaaE
open Go Go.Proofs.YtkobjdhbfepkaaaB
set_option linter.unusedVariables false
set_option linter.unusedSimpArgs false
set_option maxRecDepth 100000
theorem fnL_spec : ∀ (l : List RRt) (k : Nat), (fnL l k = -1 ∧ ndV l = l) ∨ ∃ j, j < l.length ∧ fnL l k = ((k + j : Nat) : Int) ∧ ndV (l.take (j + 1)) = l.take j
  | [], _ => .inl ⟨rfl, rfl⟩
  | x :: l, k => by
    unfold fnL
    by_cases h : leadB x = true
    · rw [if_pos h]
      rcases fnL_spec l (k + 1) with ⟨h1, h2⟩ | ⟨j, h1, h2, h3⟩
      · refine .inl ⟨h1, ?_⟩
        unfold ndV at h2 ⊢
        rw [List.filter_cons_of_pos h, h2]
      · refine .inr ⟨j + 1, by simpa using h1, by rw [h2]; omega, ?_⟩
        unfold ndV at h3 ⊢
        rw [List.take_succ_cons, List.take_succ_cons, List.filter_cons_of_pos h, h3]
    · rw [if_neg h]
      refine .inr ⟨0, by simp, by simp, ?_⟩
      unfold ndV
      rw [List.take_succ_cons, List.take_zero, List.take_zero, List.filter_cons_of_neg h]
      rfl
def os80w : OSpec := os80d.like fun _ (l, _) => .br (lrB l) (.br (fnL l 0 == -1) (.ret ([.rowA 0], [.row RR l])) (.ret ([.rowS 0 0 (ndV l).length false], [.row RR (ndV l ++ List.replicate (l.length - (ndV l).length) (Ty.dflt RR))]))) .no
theorem ok80w : os80w.Ok Try.prog := by
  refine like_ok ok80d _ ?_
  rintro _ ⟨(l : List RRt), _⟩ r' h
  simp only [Tr.get] at h
  cases hb : lrB l with
  | false => rw [hb] at h; cases h
  | true =>
    rw [hb, cond_true] at h
    have hl := Nat.le_of_ble_eq_true hb
    refine Tr.get_of_all ?_
    show (t80d l).all _
    unfold t80d
    rcases fnL_spec l 0 with ⟨h1, h2⟩ | ⟨j, h1, h2, h3⟩
    · rw [h1] at h
      rw [h1]
      cases h
      exact Tr.all_t hb (Tr.all_t rfl (Tr.all_ret rfl))
    · rw [Nat.zero_add] at h2
      rw [h2] at h
      rw [h2]
      have hne : (((j : Nat) : Int) == -1) = false := beq_eq_false_iff_ne.2 (by omega)
      rw [hne] at h
      cases h
      have hw : IntKind.wrap IntKind.i64 ((j : Int) + 1) = (j : Int) + 1 := IntWalk.i64_in _ (by omega)
      rw [hw]
      have hc : dlC l j ((j : Int) + 1) = true := by
        unfold dlC
        rw [show Nat.ble l.length 1000000 = true from hb, show ((j : Int) + 1).toNat = j + 1 by omega, show ((j : Int)).toNat = j by omega, h3, dec_true (by omega), dec_true (by omega), dec_true rfl, dec_true rfl]
        rfl
      have hnl : (ndV l).length ≤ l.length := List.length_filter_le _ _
      have hlen : (ndV l ++ List.drop (List.length (ndV l)) l).length = l.length := by rw [List.length_append, List.length_drop]; omega
      have hX : List.take (Int.toNat (((ndV l).length : Nat) : Int)) (ndV l ++ List.drop (List.length (ndV l)) l) ++ List.replicate (Int.toNat ((l.length : Nat) : Int) - Int.toNat (((ndV l).length : Nat) : Int)) (Ty.dflt RR) ++ List.drop (Int.toNat (((ndV l).length : Nat) : Int) + (Int.toNat ((l.length : Nat) : Int) - Int.toNat (((ndV l).length : Nat) : Int))) (ndV l ++ List.drop (List.length (ndV l)) l) = ndV l ++ List.replicate (l.length - (ndV l).length) (Ty.dflt RR) := by
        rw [Int.toNat_natCast, Int.toNat_natCast, List.take_left, List.drop_eq_nil_of_le (by rw [hlen]; omega), List.append_nil]
      rw [hlen, hX]
      have hlen2 : (ndV l ++ List.replicate (l.length - (ndV l).length) (Ty.dflt RR)).length = l.length := by rw [List.length_append, List.length_replicate]; omega
      rw [hlen2]
      refine Tr.all_t hb (Tr.all_f hne (Tr.all_t hc (Tr.all_t (by rw [dec_true (by omega), dec_true (by omega)]; rfl) (Tr.all_t (by rw [dec_true (by omega), dec_true (by omega)]; rfl) (Tr.all_t (by rw [dec_true (by omega), dec_true (by omega)]; rfl) (Tr.all_ret ?_))))))
      rw [Int.toNat_natCast, show Int.toNat (0 : Int) = 0 from rfl, Nat.sub_zero]
def t56 (z : (List UInt8 × List (List UInt8 × (Int × (Int × (Int × List UInt8)))))) (m : (Int × (Bool × (Bool × (Bool × (Bool × (Bool × (Int × (Int × (List (List UInt8 × (Int × Int)) × (List (List UInt8 × (Int × (Int × (Int × List UInt8)))) × (List (List UInt8 × (Int × (Int × (Int × List UInt8)))) × List (List UInt8 × (Int × (Int × (Int × List UInt8)))))))))))))))) (q : (List UInt8 × (Int × Int))) : Tr Res := Tr.br (smZ z && smN (Prod.fst q)) (Tr.br (Prod.snd (cutV z (Prod.fst q))) (Tr.br (smZ z) (Tr.br (gnOk z (ofV z (Prod.fst (cutV z (Prod.fst q))) (2 : Int))) (Tr.ret ([AV.agg [AV.int IntKind.u16 (Prod.fst m), AV.bool (Prod.fst (Prod.snd m)), AV.bool (Prod.fst (Prod.snd (Prod.snd m))), AV.bool (Prod.fst (Prod.snd (Prod.snd (Prod.snd m)))), AV.bool (Prod.fst (Prod.snd (Prod.snd (Prod.snd (Prod.snd m))))), AV.bool (Prod.fst (Prod.snd (Prod.snd (Prod.snd (Prod.snd (Prod.snd m)))))), AV.int IntKind.i64 (Prod.fst (Prod.snd (Prod.snd (Prod.snd (Prod.snd (Prod.snd (Prod.snd m))))))), AV.int IntKind.i64 (Prod.fst (Prod.snd (Prod.snd (Prod.snd (Prod.snd (Prod.snd (Prod.snd (Prod.snd m)))))))), AV.list QQ (Prod.fst (Prod.snd (Prod.snd (Prod.snd (Prod.snd (Prod.snd (Prod.snd (Prod.snd (Prod.snd m))))))))), AV.list RR (Prod.fst (Prod.snd (Prod.snd (Prod.snd (Prod.snd (Prod.snd (Prod.snd (Prod.snd (Prod.snd (Prod.snd m)))))))))), AV.list RR (ofV z (Prod.fst (cutV z (Prod.fst q))) (2 : Int)), AV.list RR (glueV z (ofV z (Prod.fst (cutV z (Prod.fst q))) (2 : Int)))]], [])) Tr.no) Tr.no) (Tr.br (smZ z) (Tr.br ((↑(List.length (ofV z (Prod.fst q) (Prod.fst (Prod.snd q)))) : Int) == (0 : Int)) (Tr.br (smZ z) (Tr.br (fits (List.length (ofV z (Prod.fst q) (5 : Int))) 40) (Tr.br (lrB (ofV z (Prod.fst q) (5 : Int))) (Tr.br (fnL (ofV z (Prod.fst q) (5 : Int)) 0 == (-1 : Int)) (Tr.br (gnOk z (ofV z (Prod.fst q) (5 : Int))) (Tr.br (decide ((↑(List.length (ofV z (Prod.fst q) (5 : Int))) : Int) > (0 : Int))) (Tr.ret ([AV.agg [AV.int IntKind.u16 (Prod.fst m), AV.bool (Prod.fst (Prod.snd m)), AV.bool true, AV.bool (Prod.fst (Prod.snd (Prod.snd (Prod.snd m)))), AV.bool (Prod.fst (Prod.snd (Prod.snd (Prod.snd (Prod.snd m))))), AV.bool (Prod.fst (Prod.snd (Prod.snd (Prod.snd (Prod.snd (Prod.snd m)))))), AV.int IntKind.i64 (Prod.fst (Prod.snd (Prod.snd (Prod.snd (Prod.snd (Prod.snd (Prod.snd m))))))), AV.int IntKind.i64 (Prod.fst (Prod.snd (Prod.snd (Prod.snd (Prod.snd (Prod.snd (Prod.snd (Prod.snd m)))))))), AV.list QQ (Prod.fst (Prod.snd (Prod.snd (Prod.snd (Prod.snd (Prod.snd (Prod.snd (Prod.snd (Prod.snd m))))))))), AV.list RR (ofV z (Prod.fst q) (5 : Int)), AV.list RR (Prod.fst (Prod.snd (Prod.snd (Prod.snd (Prod.snd (Prod.snd (Prod.snd (Prod.snd (Prod.snd (Prod.snd (Prod.snd m))))))))))), AV.list RR (glueV z (ofV z (Prod.fst q) (5 : Int)))]], [])) (Tr.br (smZ z) (Tr.br (smZ z && smN (Prod.fst q)) (Tr.br (!thereV z (Prod.fst q)) (Tr.ret ([AV.agg [AV.int IntKind.u16 (Prod.fst m), AV.bool (Prod.fst (Prod.snd m)), AV.bool true, AV.bool (Prod.fst (Prod.snd (Prod.snd (Prod.snd m)))), AV.bool (Prod.fst (Prod.snd (Prod.snd (Prod.snd (Prod.snd m))))), AV.bool (Prod.fst (Prod.snd (Prod.snd (Prod.snd (Prod.snd (Prod.snd m)))))), AV.int IntKind.i64 (Prod.fst (Prod.snd (Prod.snd (Prod.snd (Prod.snd (Prod.snd (Prod.snd m))))))), AV.int IntKind.i64 (3 : Int), AV.list QQ (Prod.fst (Prod.snd (Prod.snd (Prod.snd (Prod.snd (Prod.snd (Prod.snd (Prod.snd (Prod.snd m))))))))), AV.list RR (ofV z (Prod.fst q) (5 : Int)), AV.list RR (ofV z (Prod.fst z) (6 : Int)), AV.list RR (glueV z (ofV z (Prod.fst q) (5 : Int)))]], [])) (Tr.ret ([AV.agg [AV.int IntKind.u16 (Prod.fst m), AV.bool (Prod.fst (Prod.snd m)), AV.bool true, AV.bool (Prod.fst (Prod.snd (Prod.snd (Prod.snd m)))), AV.bool (Prod.fst (Prod.snd (Prod.snd (Prod.snd (Prod.snd m))))), AV.bool (Prod.fst (Prod.snd (Prod.snd (Prod.snd (Prod.snd (Prod.snd m)))))), AV.int IntKind.i64 (Prod.fst (Prod.snd (Prod.snd (Prod.snd (Prod.snd (Prod.snd (Prod.snd m))))))), AV.int IntKind.i64 (Prod.fst (Prod.snd (Prod.snd (Prod.snd (Prod.snd (Prod.snd (Prod.snd (Prod.snd m)))))))), AV.list QQ (Prod.fst (Prod.snd (Prod.snd (Prod.snd (Prod.snd (Prod.snd (Prod.snd (Prod.snd (Prod.snd m))))))))), AV.list RR (ofV z (Prod.fst q) (5 : Int)), AV.list RR (ofV z (Prod.fst z) (6 : Int)), AV.list RR (glueV z (ofV z (Prod.fst q) (5 : Int)))]], []))) Tr.no) Tr.no)) Tr.no) (Tr.br (gnOk z (List.take (List.length (ndV (ofV z (Prod.fst q) (5 : Int)))) (List.drop 0 (ndV (ofV z (Prod.fst q) (5 : Int)) ++ List.replicate (List.length (ofV z (Prod.fst q) (5 : Int)) - List.length (ndV (ofV z (Prod.fst q) (5 : Int)))) (Ty.dflt RR))))) (Tr.br (decide ((↑(List.length (ofV z (Prod.fst q) (5 : Int))) : Int) > (0 : Int))) (Tr.ret ([AV.agg [AV.int IntKind.u16 (Prod.fst m), AV.bool (Prod.fst (Prod.snd m)), AV.bool true, AV.bool (Prod.fst (Prod.snd (Prod.snd (Prod.snd m)))), AV.bool (Prod.fst (Prod.snd (Prod.snd (Prod.snd (Prod.snd m))))), AV.bool (Prod.fst (Prod.snd (Prod.snd (Prod.snd (Prod.snd (Prod.snd m)))))), AV.int IntKind.i64 (Prod.fst (Prod.snd (Prod.snd (Prod.snd (Prod.snd (Prod.snd (Prod.snd m))))))), AV.int IntKind.i64 (Prod.fst (Prod.snd (Prod.snd (Prod.snd (Prod.snd (Prod.snd (Prod.snd (Prod.snd m)))))))), AV.list QQ (Prod.fst (Prod.snd (Prod.snd (Prod.snd (Prod.snd (Prod.snd (Prod.snd (Prod.snd (Prod.snd m))))))))), AV.list RR (ofV z (Prod.fst q) (5 : Int)), AV.list RR (Prod.fst (Prod.snd (Prod.snd (Prod.snd (Prod.snd (Prod.snd (Prod.snd (Prod.snd (Prod.snd (Prod.snd (Prod.snd m))))))))))), AV.list RR (glueV z (List.take (List.length (ndV (ofV z (Prod.fst q) (5 : Int)))) (List.drop 0 (ndV (ofV z (Prod.fst q) (5 : Int)) ++ List.replicate (List.length (ofV z (Prod.fst q) (5 : Int)) - List.length (ndV (ofV z (Prod.fst q) (5 : Int)))) (Ty.dflt RR)))))]], [])) (Tr.br (smZ z) (Tr.br (smZ z && smN (Prod.fst q)) (Tr.br (!thereV z (Prod.fst q)) (Tr.ret ([AV.agg [AV.int IntKind.u16 (Prod.fst m), AV.bool (Prod.fst (Prod.snd m)), AV.bool true, AV.bool (Prod.fst (Prod.snd (Prod.snd (Prod.snd m)))), AV.bool (Prod.fst (Prod.snd (Prod.snd (Prod.snd (Prod.snd m))))), AV.bool (Prod.fst (Prod.snd (Prod.snd (Prod.snd (Prod.snd (Prod.snd m)))))), AV.int IntKind.i64 (Prod.fst (Prod.snd (Prod.snd (Prod.snd (Prod.snd (Prod.snd (Prod.snd m))))))), AV.int IntKind.i64 (3 : Int), AV.list QQ (Prod.fst (Prod.snd (Prod.snd (Prod.snd (Prod.snd (Prod.snd (Prod.snd (Prod.snd (Prod.snd m))))))))), AV.list RR (ofV z (Prod.fst q) (5 : Int)), AV.list RR (ofV z (Prod.fst z) (6 : Int)), AV.list RR (glueV z (List.take (List.length (ndV (ofV z (Prod.fst q) (5 : Int)))) (List.drop 0 (ndV (ofV z (Prod.fst q) (5 : Int)) ++ List.replicate (List.length (ofV z (Prod.fst q) (5 : Int)) - List.length (ndV (ofV z (Prod.fst q) (5 : Int)))) (Ty.dflt RR)))))]], [])) (Tr.ret ([AV.agg [AV.int IntKind.u16 (Prod.fst m), AV.bool (Prod.fst (Prod.snd m)), AV.bool true, AV.bool (Prod.fst (Prod.snd (Prod.snd (Prod.snd m)))), AV.bool (Prod.fst (Prod.snd (Prod.snd (Prod.snd (Prod.snd m))))), AV.bool (Prod.fst (Prod.snd (Prod.snd (Prod.snd (Prod.snd (Prod.snd m)))))), AV.int IntKind.i64 (Prod.fst (Prod.snd (Prod.snd (Prod.snd (Prod.snd (Prod.snd (Prod.snd m))))))), AV.int IntKind.i64 (Prod.fst (Prod.snd (Prod.snd (Prod.snd (Prod.snd (Prod.snd (Prod.snd (Prod.snd m)))))))), AV.list QQ (Prod.fst (Prod.snd (Prod.snd (Prod.snd (Prod.snd (Prod.snd (Prod.snd (Prod.snd (Prod.snd m))))))))), AV.list RR (ofV z (Prod.fst q) (5 : Int)), AV.list RR (ofV z (Prod.fst z) (6 : Int)), AV.list RR (glueV z (List.take (List.length (ndV (ofV z (Prod.fst q) (5 : Int)))) (List.drop 0 (ndV (ofV z (Prod.fst q) (5 : Int)) ++ List.replicate (List.length (ofV z (Prod.fst q) (5 : Int)) - List.length (ndV (ofV z (Prod.fst q) (5 : Int)))) (Ty.dflt RR)))))]], []))) Tr.no) Tr.no)) Tr.no)) Tr.no) Tr.no) Tr.no) (Tr.br (fits (List.length (ofV z (Prod.fst q) (Prod.fst (Prod.snd q)))) 40) (Tr.br (lrB (ofV z (Prod.fst q) (Prod.fst (Prod.snd q)))) (Tr.br (fnL (ofV z (Prod.fst q) (Prod.fst (Prod.snd q))) 0 == (-1 : Int)) (Tr.br (gnOk z (ofV z (Prod.fst q) (Prod.fst (Prod.snd q)))) (Tr.br (decide ((↑(List.length (ofV z (Prod.fst q) (Prod.fst (Prod.snd q)))) : Int) > (0 : Int))) (Tr.ret ([AV.agg [AV.int IntKind.u16 (Prod.fst m), AV.bool (Prod.fst (Prod.snd m)), AV.bool true, AV.bool (Prod.fst (Prod.snd (Prod.snd (Prod.snd m)))), AV.bool (Prod.fst (Prod.snd (Prod.snd (Prod.snd (Prod.snd m))))), AV.bool (Prod.fst (Prod.snd (Prod.snd (Prod.snd (Prod.snd (Prod.snd m)))))), AV.int IntKind.i64 (Prod.fst (Prod.snd (Prod.snd (Prod.snd (Prod.snd (Prod.snd (Prod.snd m))))))), AV.int IntKind.i64 (Prod.fst (Prod.snd (Prod.snd (Prod.snd (Prod.snd (Prod.snd (Prod.snd (Prod.snd m)))))))), AV.list QQ (Prod.fst (Prod.snd (Prod.snd (Prod.snd (Prod.snd (Prod.snd (Prod.snd (Prod.snd (Prod.snd m))))))))), AV.list RR (ofV z (Prod.fst q) (Prod.fst (Prod.snd q))), AV.list RR (Prod.fst (Prod.snd (Prod.snd (Prod.snd (Prod.snd (Prod.snd (Prod.snd (Prod.snd (Prod.snd (Prod.snd (Prod.snd m))))))))))), AV.list RR (glueV z (ofV z (Prod.fst q) (Prod.fst (Prod.snd q))))]], [])) (Tr.br (smZ z) (Tr.br (smZ z && smN (Prod.fst q)) (Tr.br (!thereV z (Prod.fst q)) (Tr.ret ([AV.agg [AV.int IntKind.u16 (Prod.fst m), AV.bool (Prod.fst (Prod.snd m)), AV.bool true, AV.bool (Prod.fst (Prod.snd (Prod.snd (Prod.snd m)))), AV.bool (Prod.fst (Prod.snd (Prod.snd (Prod.snd (Prod.snd m))))), AV.bool (Prod.fst (Prod.snd (Prod.snd (Prod.snd (Prod.snd (Prod.snd m)))))), AV.int IntKind.i64 (Prod.fst (Prod.snd (Prod.snd (Prod.snd (Prod.snd (Prod.snd (Prod.snd m))))))), AV.int IntKind.i64 (3 : Int), AV.list QQ (Prod.fst (Prod.snd (Prod.snd (Prod.snd (Prod.snd (Prod.snd (Prod.snd (Prod.snd (Prod.snd m))))))))), AV.list RR (ofV z (Prod.fst q) (Prod.fst (Prod.snd q))), AV.list RR (ofV z (Prod.fst z) (6 : Int)), AV.list RR (glueV z (ofV z (Prod.fst q) (Prod.fst (Prod.snd q))))]], [])) (Tr.ret ([AV.agg [AV.int IntKind.u16 (Prod.fst m), AV.bool (Prod.fst (Prod.snd m)), AV.bool true, AV.bool (Prod.fst (Prod.snd (Prod.snd (Prod.snd m)))), AV.bool (Prod.fst (Prod.snd (Prod.snd (Prod.snd (Prod.snd m))))), AV.bool (Prod.fst (Prod.snd (Prod.snd (Prod.snd (Prod.snd (Prod.snd m)))))), AV.int IntKind.i64 (Prod.fst (Prod.snd (Prod.snd (Prod.snd (Prod.snd (Prod.snd (Prod.snd m))))))), AV.int IntKind.i64 (Prod.fst (Prod.snd (Prod.snd (Prod.snd (Prod.snd (Prod.snd (Prod.snd (Prod.snd m)))))))), AV.list QQ (Prod.fst (Prod.snd (Prod.snd (Prod.snd (Prod.snd (Prod.snd (Prod.snd (Prod.snd (Prod.snd m))))))))), AV.list RR (ofV z (Prod.fst q) (Prod.fst (Prod.snd q))), AV.list RR (ofV z (Prod.fst z) (6 : Int)), AV.list RR (glueV z (ofV z (Prod.fst q) (Prod.fst (Prod.snd q))))]], []))) Tr.no) Tr.no)) Tr.no) (Tr.br (gnOk z (List.take (List.length (ndV (ofV z (Prod.fst q) (Prod.fst (Prod.snd q))))) (List.drop 0 (ndV (ofV z (Prod.fst q) (Prod.fst (Prod.snd q))) ++ List.replicate (List.length (ofV z (Prod.fst q) (Prod.fst (Prod.snd q))) - List.length (ndV (ofV z (Prod.fst q) (Prod.fst (Prod.snd q))))) (Ty.dflt RR))))) (Tr.br (decide ((↑(List.length (ofV z (Prod.fst q) (Prod.fst (Prod.snd q)))) : Int) > (0 : Int))) (Tr.ret ([AV.agg [AV.int IntKind.u16 (Prod.fst m), AV.bool (Prod.fst (Prod.snd m)), AV.bool true, AV.bool (Prod.fst (Prod.snd (Prod.snd (Prod.snd m)))), AV.bool (Prod.fst (Prod.snd (Prod.snd (Prod.snd (Prod.snd m))))), AV.bool (Prod.fst (Prod.snd (Prod.snd (Prod.snd (Prod.snd (Prod.snd m)))))), AV.int IntKind.i64 (Prod.fst (Prod.snd (Prod.snd (Prod.snd (Prod.snd (Prod.snd (Prod.snd m))))))), AV.int IntKind.i64 (Prod.fst (Prod.snd (Prod.snd (Prod.snd (Prod.snd (Prod.snd (Prod.snd (Prod.snd m)))))))), AV.list QQ (Prod.fst (Prod.snd (Prod.snd (Prod.snd (Prod.snd (Prod.snd (Prod.snd (Prod.snd (Prod.snd m))))))))), AV.list RR (ofV z (Prod.fst q) (Prod.fst (Prod.snd q))), AV.list RR (Prod.fst (Prod.snd (Prod.snd (Prod.snd (Prod.snd (Prod.snd (Prod.snd (Prod.snd (Prod.snd (Prod.snd (Prod.snd m))))))))))), AV.list RR (glueV z (List.take (List.length (ndV (ofV z (Prod.fst q) (Prod.fst (Prod.snd q))))) (List.drop 0 (ndV (ofV z (Prod.fst q) (Prod.fst (Prod.snd q))) ++ List.replicate (List.length (ofV z (Prod.fst q) (Prod.fst (Prod.snd q))) - List.length (ndV (ofV z (Prod.fst q) (Prod.fst (Prod.snd q))))) (Ty.dflt RR)))))]], [])) (Tr.br (smZ z) (Tr.br (smZ z && smN (Prod.fst q)) (Tr.br (!thereV z (Prod.fst q)) (Tr.ret ([AV.agg [AV.int IntKind.u16 (Prod.fst m), AV.bool (Prod.fst (Prod.snd m)), AV.bool true, AV.bool (Prod.fst (Prod.snd (Prod.snd (Prod.snd m)))), AV.bool (Prod.fst (Prod.snd (Prod.snd (Prod.snd (Prod.snd m))))), AV.bool (Prod.fst (Prod.snd (Prod.snd (Prod.snd (Prod.snd (Prod.snd m)))))), AV.int IntKind.i64 (Prod.fst (Prod.snd (Prod.snd (Prod.snd (Prod.snd (Prod.snd (Prod.snd m))))))), AV.int IntKind.i64 (3 : Int), AV.list QQ (Prod.fst (Prod.snd (Prod.snd (Prod.snd (Prod.snd (Prod.snd (Prod.snd (Prod.snd (Prod.snd m))))))))), AV.list RR (ofV z (Prod.fst q) (Prod.fst (Prod.snd q))), AV.list RR (ofV z (Prod.fst z) (6 : Int)), AV.list RR (glueV z (List.take (List.length (ndV (ofV z (Prod.fst q) (Prod.fst (Prod.snd q))))) (List.drop 0 (ndV (ofV z (Prod.fst q) (Prod.fst (Prod.snd q))) ++ List.replicate (List.length (ofV z (Prod.fst q) (Prod.fst (Prod.snd q))) - List.length (ndV (ofV z (Prod.fst q) (Prod.fst (Prod.snd q))))) (Ty.dflt RR)))))]], [])) (Tr.ret ([AV.agg [AV.int IntKind.u16 (Prod.fst m), AV.bool (Prod.fst (Prod.snd m)), AV.bool true, AV.bool (Prod.fst (Prod.snd (Prod.snd (Prod.snd m)))), AV.bool (Prod.fst (Prod.snd (Prod.snd (Prod.snd (Prod.snd m))))), AV.bool (Prod.fst (Prod.snd (Prod.snd (Prod.snd (Prod.snd (Prod.snd m)))))), AV.int IntKind.i64 (Prod.fst (Prod.snd (Prod.snd (Prod.snd (Prod.snd (Prod.snd (Prod.snd m))))))), AV.int IntKind.i64 (Prod.fst (Prod.snd (Prod.snd (Prod.snd (Prod.snd (Prod.snd (Prod.snd (Prod.snd m)))))))), AV.list QQ (Prod.fst (Prod.snd (Prod.snd (Prod.snd (Prod.snd (Prod.snd (Prod.snd (Prod.snd (Prod.snd m))))))))), AV.list RR (ofV z (Prod.fst q) (Prod.fst (Prod.snd q))), AV.list RR (ofV z (Prod.fst z) (6 : Int)), AV.list RR (glueV z (List.take (List.length (ndV (ofV z (Prod.fst q) (Prod.fst (Prod.snd q))))) (List.drop 0 (ndV (ofV z (Prod.fst q) (Prod.fst (Prod.snd q))) ++ List.replicate (List.length (ofV z (Prod.fst q) (Prod.fst (Prod.snd q))) - List.length (ndV (ofV z (Prod.fst q) (Prod.fst (Prod.snd q))))) (Ty.dflt RR)))))]], []))) Tr.no) Tr.no)) Tr.no)) Tr.no) Tr.no)) Tr.no)) Tr.no
def os56 : OSpec := { f := 56, sh := [.d ZN true, .d MG true, .d QQ true], so := [], F := fun (z, m, q, _) _ => t56 z m q }
set_option maxRecDepth 1000000 in
theorem fn56 (z : (List UInt8 × List (List UInt8 × (Int × (Int × (Int × List UInt8)))))) (m : (Int × (Bool × (Bool × (Bool × (Bool × (Bool × (Int × (Int × (List (List UInt8 × (Int × Int)) × (List (List UInt8 × (Int × (Int × (Int × List UInt8)))) × (List (List UInt8 × (Int × (Int × (Int × List UInt8)))) × List (List UInt8 × (Int × (Int × (Int × List UInt8)))))))))))))))) (q : (List UInt8 × (Int × Int))) : evC T0 (orcB [fs17w, fs43w, fs22w, fs19w] [os81, os80w]) (lpOf h56 0 (lsOf [])) c56 1000000 (startSt [AV.ofTy ZN z true, AV.ofTy MG m true, AV.ofTy QQ q true] [] Try.f56.ntmps) (finishK T0 false 0 Try.f56) = (t56 z m q).get := by kernel_rfl
theorem ok56 : os56.Ok Try.prog := by
  refine os_ok mixed0 tab0 (orcB_sound (all_cons okf17w (all_cons okf43w (all_cons okf22w (all_cons okf19w all_nil)))) (all_cons ok81 (all_cons ok80w all_nil))) h56 (d := 0) (n0 := 0) (S := lsOf []) Try.func56 (by kernel_rfl) (c := c56) (by kernel_rfl) rfl (no_loops (by kernel_rfl)) (by omega) (by kernel_rfl) ?_
  intro x'' y'' q'' hq''
  obtain ⟨(z : (List UInt8 × List (List UInt8 × (Int × (Int × (Int × List UInt8)))))), (m : (Int × (Bool × (Bool × (Bool × (Bool × (Bool × (Int × (Int × (List (List UInt8 × (Int × Int)) × (List (List UInt8 × (Int × (Int × (Int × List UInt8)))) × (List (List UInt8 × (Int × (Int × (Int × List UInt8)))) × List (List UInt8 × (Int × (Int × (Int × List UInt8)))))))))))))))), (q : (List UInt8 × (Int × Int))), _⟩ := x''
  exact (fn56 z m q).trans hq''
def fs56 : FSpec := fsT 56 [(ZN, true), (MG, true), (QQ, true)] [(MG, true)] fun (z, m, q, _) => t56 z m q
theorem okf56 : fs56.Ok Try.prog := fsT_ok fun x'' r'' hr'' => ok56 x'' () r'' hr''
def zOk (z : ZNt) : Bool := smZ z && (smD z.2 && Nat.ble z.2.length 1000)
theorem zOk_gn {z : ZNt} (h : zOk z = true) {X : List RRt} (hX : X.Sublist z.2) : gnOk z X = true := by
  unfold zOk at h
  rw [Bool.and_eq_true, Bool.and_eq_true] at h
  obtain ⟨h1, h2, h3⟩ := h
  have h3 := Nat.le_of_ble_eq_true h3
  have hl := hX.length_le
  have hm : X.length * z.2.length ≤ 1000 * 1000 := Nat.mul_le_mul (by omega) h3
  unfold gnOk
  rw [h1, Nat.ble_eq_true_of_le (by omega), Nat.ble_eq_true_of_le (by omega)]
  unfold smD at h2 ⊢
  rw [List.all_eq_true] at h2
  rw [show (X.all fun r => bigS r.2.2.2.2) = true from List.all_eq_true.2 fun x hx => h2 x (hX.subset hx)]
  rfl
theorem ofV_sub (z : ZNt) (n : List UInt8) (k : Int) : (ofV z n k).Sublist z.2 := List.filter_sublist
theorem ndV_sub (l : List RRt) : (ndV l).Sublist l := List.filter_sublist
def anV (z : ZNt) (q : QQt) : List RRt := bif ((ofV z q.1 q.2.1).length : Int) == 0 then ofV z q.1 5 else ofV z q.1 q.2.1
def fillV (z : ZNt) (m : MGt) (q : QQt) : MGt :=
  bif (cutV z q.1).2 then (m.1, m.2.1, m.2.2.1, m.2.2.2.1, m.2.2.2.2.1, m.2.2.2.2.2.1, m.2.2.2.2.2.2.1, m.2.2.2.2.2.2.2.1, m.2.2.2.2.2.2.2.2.1, m.2.2.2.2.2.2.2.2.2.1, ofV z (cutV z q.1).1 2, glueV z (ofV z (cutV z q.1).1 2))
  else bif decide (((anV z q).length : Int) > 0) then (m.1, m.2.1, true, m.2.2.2.1, m.2.2.2.2.1, m.2.2.2.2.2.1, m.2.2.2.2.2.2.1, m.2.2.2.2.2.2.2.1, m.2.2.2.2.2.2.2.2.1, anV z q, m.2.2.2.2.2.2.2.2.2.2.1, glueV z (ndV (anV z q)))
  else (m.1, m.2.1, true, m.2.2.2.1, m.2.2.2.2.1, m.2.2.2.2.2.1, m.2.2.2.2.2.2.1, (bif thereV z q.1 then m.2.2.2.2.2.2.2.1 else 3), m.2.2.2.2.2.2.2.2.1, anV z q, ofV z z.1 6, glueV z (ndV (anV z q)))
def mgA (m : MGt) : AV := .agg [.int .u16 m.1, .bool m.2.1, .bool m.2.2.1, .bool m.2.2.2.1, .bool m.2.2.2.2.1, .bool m.2.2.2.2.2.1, .int .i64 m.2.2.2.2.2.2.1, .int .i64 m.2.2.2.2.2.2.2.1, .list QQ m.2.2.2.2.2.2.2.2.1, .list RR m.2.2.2.2.2.2.2.2.2.1, .list RR m.2.2.2.2.2.2.2.2.2.2.1, .list RR m.2.2.2.2.2.2.2.2.2.2.2]
theorem not_t {b : Bool} (h : (!b) = true) : b = false := by cases b; rfl; cases h
theorem not_f {b : Bool} (h : (!b) = false) : b = true := by cases b; cases h; rfl
theorem take_nd (l w : List RRt) : List.take (ndV l).length (List.drop 0 (ndV l ++ w)) = ndV l := by rw [List.drop_zero, List.take_left]
set_option maxHeartbeats 1000000 in
theorem fill_all (z : ZNt) (m : MGt) (q : QQt) (hz : zOk z = true) (hq : smN q.1 = true) : Tr.all (fun r : Res => r = ([mgA (fillV z m q)], [])) (t56 z m q) := by
  have h1 : smZ z = true := by unfold zOk at hz; rw [Bool.and_eq_true] at hz; exact hz.1
  have h1000 : z.2.length ≤ 1000 := by
    unfold zOk at hz
    rw [Bool.and_eq_true, Bool.and_eq_true] at hz
    exact Nat.le_of_ble_eq_true hz.2.2
  have h2 : (smZ z && smN q.1) = true := by rw [h1, hq]; rfl
  have hgo : ∀ n k, gnOk z (ofV z n k) = true := fun n k => zOk_gn hz (ofV_sub _ _ _)
  have hgn : ∀ n k, gnOk z (ndV (ofV z n k)) = true := fun n k => zOk_gn hz ((ndV_sub _).trans (ofV_sub _ _ _))
  have hlen : ∀ n k, (ofV z n k).length ≤ 1000 := fun n k => by have := ofV_len z n k; omega
  have hlr : ∀ n k, lrB (ofV z n k) = true := fun n k => Nat.ble_eq_true_of_le (by have := hlen n k; omega)
  have hfit : ∀ n k, fits (ofV z n k).length 40 = true := fun n k => fits_true (by have := hlen n k; omega) (by have := hlen n k; omega)
  have hnd : ∀ l : List RRt, (fnL l 0 == -1) = true → ndV l = l := fun l hl => by
    have hl := beq_iff_eq.1 hl
    rcases fnL_spec l 0 with ⟨_, h⟩ | ⟨j, _, h, _⟩
    · exact h
    · omega
  unfold t56
  simp only [take_nd]
  refine Tr.all_t h2 (Tr.all_br (fun hc => Tr.all_t h1 (Tr.all_t (hgo _ _) (Tr.all_ret ?_))) fun hc => Tr.all_t h1 (Tr.all_br (fun he => Tr.all_t h1 ?_) fun he => ?_))
  · unfold fillV; rw [hc]; rfl
  · have ha : anV z q = ofV z q.1 5 := by unfold anV; rw [he]; rfl
    unfold fillV
    rw [hc, cond_false, ha]
    refine Tr.all_t (hfit _ _) (Tr.all_t (hlr _ _) (Tr.all_br (fun hf => Tr.all_t (hgo _ _) (Tr.all_br (fun hp => Tr.all_ret ?_) fun hp => Tr.all_t h1 (Tr.all_t h2 (Tr.all_br (fun ht => Tr.all_ret ?_) fun ht => Tr.all_ret ?_)))) fun hf => Tr.all_t (hgn _ _) (Tr.all_br (fun hp => Tr.all_ret ?_) fun hp => Tr.all_t h1 (Tr.all_t h2 (Tr.all_br (fun ht => Tr.all_ret ?_) fun ht => Tr.all_ret ?_)))))
    all_goals rw [hp]
    all_goals try rw [hnd _ hf]
    all_goals try rw [not_t ht]
    all_goals try rw [not_f ht]
    all_goals rfl
  · have ha : anV z q = ofV z q.1 q.2.1 := by unfold anV; rw [he]; rfl
    unfold fillV
    rw [hc, cond_false, ha]
    refine Tr.all_t (hfit _ _) (Tr.all_t (hlr _ _) (Tr.all_br (fun hf => Tr.all_t (hgo _ _) (Tr.all_br (fun hp => Tr.all_ret ?_) fun hp => Tr.all_t h1 (Tr.all_t h2 (Tr.all_br (fun ht => Tr.all_ret ?_) fun ht => Tr.all_ret ?_)))) fun hf => Tr.all_t (hgn _ _) (Tr.all_br (fun hp => Tr.all_ret ?_) fun hp => Tr.all_t h1 (Tr.all_t h2 (Tr.all_br (fun ht => Tr.all_ret ?_) fun ht => Tr.all_ret ?_)))))
    all_goals rw [hp]
    all_goals try rw [hnd _ hf]
    all_goals try rw [not_t ht]
    all_goals try rw [not_f ht]
    all_goals rfl
def fs56w : FSpec := fs56.like fun (z, m, q, _) => .on (zOk z && smN q.1) (fillV z m q, ())
theorem okf56w : fs56w.Ok Try.prog := by
  refine flike_ok okf56 _ ?_
  rintro ⟨(z : ZNt), (m : MGt), (q : QQt), _⟩ y h
  obtain ⟨hb, rfl⟩ := Tr.get_on h
  obtain ⟨hz, hq⟩ := Bool.and_eq_true_iff.1 (show (zOk z && smN q.1) = true from hb)
  exact convR_of (vs := [mgA (fillV z m q)]) rfl rfl (Tr.get_of_all (fill_all z m q hz hq))
def qAt (m : MGt) : QQt := m.2.2.2.2.2.2.2.2.1.getD 0 (Ty.dflt QQ)
def repV (m : MGt) (rc : Int) : MGt := (m.1, true, false, false, m.2.2.2.2.1, false, m.2.2.2.2.2.2.1, rc, m.2.2.2.2.2.2.2.2.1, [], [], [])
def ansV (l : List ZNt) (m : MGt) : MGt :=
  bif (m.2.2.2.2.2.2.2.2.1.length : Int) != 1 then repV m 1
  else bif m.2.2.2.2.2.2.1 != 0 then repV m 4
  else bif decide (bestV l (qAt m).1 < 0) || (qAt m).2.2 != 1 then repV m 5
  else fillV (l.getD (bestV l (qAt m).1).toNat (Ty.dflt ZN)) (repV m 0) (qAt m)
def zsOk (l : List ZNt) : Bool := (l.all zOk) && Nat.ble l.length 1000
theorem zsOk_L {l : List ZNt} (h : zsOk l = true) : smL l = true := by
  unfold zsOk at h
  rw [Bool.and_eq_true, List.all_eq_true] at h
  have := Nat.le_of_ble_eq_true h.2
  unfold smL
  rw [Nat.ble_eq_true_of_le (by omega), Bool.true_and, List.all_eq_true]
  intro z hz
  have h1 := h.1 z hz
  unfold zOk smZ at h1
  rw [Bool.and_eq_true, Bool.and_eq_true] at h1
  exact h1.1.1
theorem zsOk_get {l : List ZNt} (h : zsOk l = true) {k : Nat} (hk : k < l.length) (d : ZNt) : zOk (l.getD k d) = true := by
  unfold zsOk at h
  rw [Bool.and_eq_true, List.all_eq_true] at h
  exact h.1 _ (mem_getD hk d)
theorem bestV_lt (l : List ZNt) (n : List UInt8) (h : ¬ bestV l n < 0) : 0 ≤ bestV l n ∧ bestV l n < l.length := by
  rcases bestAt_is l n l.length with ⟨e, _⟩ | ⟨h1, h2, _⟩
  · unfold bestV at h; omega
  · exact ⟨h1, h2⟩
def t28 (l : List (List UInt8 × List (List UInt8 × (Int × (Int × (Int × List UInt8)))))) (m : (Int × (Bool × (Bool × (Bool × (Bool × (Bool × (Int × (Int × (List (List UInt8 × (Int × Int)) × (List (List UInt8 × (Int × (Int × (Int × List UInt8)))) × (List (List UInt8 × (Int × (Int × (Int × List UInt8)))) × List (List UInt8 × (Int × (Int × (Int × List UInt8)))))))))))))))) : Tr Res := Tr.br ((↑(List.length (Prod.fst (Prod.snd (Prod.snd (Prod.snd (Prod.snd (Prod.snd (Prod.snd (Prod.snd (Prod.snd m)))))))))) : Int) != (1 : Int)) (Tr.ret ([AV.agg [AV.int IntKind.u16 (Prod.fst m), AV.bool true, AV.bool false, AV.bool false, AV.bool (Prod.fst (Prod.snd (Prod.snd (Prod.snd (Prod.snd m))))), AV.bool false, AV.int IntKind.i64 (Prod.fst (Prod.snd (Prod.snd (Prod.snd (Prod.snd (Prod.snd (Prod.snd m))))))), AV.int IntKind.i64 (1 : Int), AV.list QQ (Prod.fst (Prod.snd (Prod.snd (Prod.snd (Prod.snd (Prod.snd (Prod.snd (Prod.snd (Prod.snd m))))))))), AV.list RR [], AV.list RR [], AV.list RR []]], [])) (Tr.br (Prod.fst (Prod.snd (Prod.snd (Prod.snd (Prod.snd (Prod.snd (Prod.snd m)))))) != (0 : Int)) (Tr.ret ([AV.agg [AV.int IntKind.u16 (Prod.fst m), AV.bool true, AV.bool false, AV.bool false, AV.bool (Prod.fst (Prod.snd (Prod.snd (Prod.snd (Prod.snd m))))), AV.bool false, AV.int IntKind.i64 (Prod.fst (Prod.snd (Prod.snd (Prod.snd (Prod.snd (Prod.snd (Prod.snd m))))))), AV.int IntKind.i64 (4 : Int), AV.list QQ (Prod.fst (Prod.snd (Prod.snd (Prod.snd (Prod.snd (Prod.snd (Prod.snd (Prod.snd (Prod.snd m))))))))), AV.list RR [], AV.list RR [], AV.list RR []]], [])) (Tr.br (decide ((0 : Int) < (↑(List.length (Prod.fst (Prod.snd (Prod.snd (Prod.snd (Prod.snd (Prod.snd (Prod.snd (Prod.snd (Prod.snd m)))))))))) : Int))) (Tr.br (smL l && smN (Prod.fst (List.getD (Prod.fst (Prod.snd (Prod.snd (Prod.snd (Prod.snd (Prod.snd (Prod.snd (Prod.snd (Prod.snd m))))))))) (Int.toNat (0 : Int)) (Ty.dflt QQ)))) (Tr.br (decide (bestV l (Prod.fst (List.getD (Prod.fst (Prod.snd (Prod.snd (Prod.snd (Prod.snd (Prod.snd (Prod.snd (Prod.snd (Prod.snd m))))))))) (Int.toNat (0 : Int)) (Ty.dflt QQ))) < (0 : Int))) (Tr.ret ([AV.agg [AV.int IntKind.u16 (Prod.fst m), AV.bool true, AV.bool false, AV.bool false, AV.bool (Prod.fst (Prod.snd (Prod.snd (Prod.snd (Prod.snd m))))), AV.bool false, AV.int IntKind.i64 (Prod.fst (Prod.snd (Prod.snd (Prod.snd (Prod.snd (Prod.snd (Prod.snd m))))))), AV.int IntKind.i64 (5 : Int), AV.list QQ (Prod.fst (Prod.snd (Prod.snd (Prod.snd (Prod.snd (Prod.snd (Prod.snd (Prod.snd (Prod.snd m))))))))), AV.list RR [], AV.list RR [], AV.list RR []]], [])) (Tr.br (Prod.snd (Prod.snd (List.getD (Prod.fst (Prod.snd (Prod.snd (Prod.snd (Prod.snd (Prod.snd (Prod.snd (Prod.snd (Prod.snd m))))))))) (Int.toNat (0 : Int)) (Ty.dflt QQ))) != (1 : Int)) (Tr.ret ([AV.agg [AV.int IntKind.u16 (Prod.fst m), AV.bool true, AV.bool false, AV.bool false, AV.bool (Prod.fst (Prod.snd (Prod.snd (Prod.snd (Prod.snd m))))), AV.bool false, AV.int IntKind.i64 (Prod.fst (Prod.snd (Prod.snd (Prod.snd (Prod.snd (Prod.snd (Prod.snd m))))))), AV.int IntKind.i64 (5 : Int), AV.list QQ (Prod.fst (Prod.snd (Prod.snd (Prod.snd (Prod.snd (Prod.snd (Prod.snd (Prod.snd (Prod.snd m))))))))), AV.list RR [], AV.list RR [], AV.list RR []]], [])) (Tr.br (decide ((0 : Int) ≤ bestV l (Prod.fst (List.getD (Prod.fst (Prod.snd (Prod.snd (Prod.snd (Prod.snd (Prod.snd (Prod.snd (Prod.snd (Prod.snd m))))))))) (Int.toNat (0 : Int)) (Ty.dflt QQ))))) (Tr.br (decide (bestV l (Prod.fst (List.getD (Prod.fst (Prod.snd (Prod.snd (Prod.snd (Prod.snd (Prod.snd (Prod.snd (Prod.snd (Prod.snd m))))))))) (Int.toNat (0 : Int)) (Ty.dflt QQ))) < (↑(List.length l) : Int))) (Tr.br (zOk (List.getD l (Int.toNat (bestV l (Prod.fst (List.getD (Prod.fst (Prod.snd (Prod.snd (Prod.snd (Prod.snd (Prod.snd (Prod.snd (Prod.snd (Prod.snd m))))))))) (Int.toNat (0 : Int)) (Ty.dflt QQ))))) (Ty.dflt ZN)) && smN (Prod.fst (List.getD (Prod.fst (Prod.snd (Prod.snd (Prod.snd (Prod.snd (Prod.snd (Prod.snd (Prod.snd (Prod.snd m))))))))) (Int.toNat (0 : Int)) (Ty.dflt QQ)))) (Tr.ret ([AV.agg [AV.int IntKind.u16 (Prod.fst (fillV (List.getD l (Int.toNat (bestV l (Prod.fst (List.getD (Prod.fst (Prod.snd (Prod.snd (Prod.snd (Prod.snd (Prod.snd (Prod.snd (Prod.snd (Prod.snd m))))))))) (Int.toNat (0 : Int)) (Ty.dflt QQ))))) (Ty.dflt ZN)) (Prod.fst m, true, false, false, Prod.fst (Prod.snd (Prod.snd (Prod.snd (Prod.snd m)))), false, Prod.fst (Prod.snd (Prod.snd (Prod.snd (Prod.snd (Prod.snd (Prod.snd m)))))), (0 : Int), Prod.fst (Prod.snd (Prod.snd (Prod.snd (Prod.snd (Prod.snd (Prod.snd (Prod.snd (Prod.snd m)))))))), [], [], []) (List.getD (Prod.fst (Prod.snd (Prod.snd (Prod.snd (Prod.snd (Prod.snd (Prod.snd (Prod.snd (Prod.snd m))))))))) (Int.toNat (0 : Int)) (Ty.dflt QQ)))), AV.bool (Prod.fst (Prod.snd (fillV (List.getD l (Int.toNat (bestV l (Prod.fst (List.getD (Prod.fst (Prod.snd (Prod.snd (Prod.snd (Prod.snd (Prod.snd (Prod.snd (Prod.snd (Prod.snd m))))))))) (Int.toNat (0 : Int)) (Ty.dflt QQ))))) (Ty.dflt ZN)) (Prod.fst m, true, false, false, Prod.fst (Prod.snd (Prod.snd (Prod.snd (Prod.snd m)))), false, Prod.fst (Prod.snd (Prod.snd (Prod.snd (Prod.snd (Prod.snd (Prod.snd m)))))), (0 : Int), Prod.fst (Prod.snd (Prod.snd (Prod.snd (Prod.snd (Prod.snd (Prod.snd (Prod.snd (Prod.snd m)))))))), [], [], []) (List.getD (Prod.fst (Prod.snd (Prod.snd (Prod.snd (Prod.snd (Prod.snd (Prod.snd (Prod.snd (Prod.snd m))))))))) (Int.toNat (0 : Int)) (Ty.dflt QQ))))), AV.bool (Prod.fst (Prod.snd (Prod.snd (fillV (List.getD l (Int.toNat (bestV l (Prod.fst (List.getD (Prod.fst (Prod.snd (Prod.snd (Prod.snd (Prod.snd (Prod.snd (Prod.snd (Prod.snd (Prod.snd m))))))))) (Int.toNat (0 : Int)) (Ty.dflt QQ))))) (Ty.dflt ZN)) (Prod.fst m, true, false, false, Prod.fst (Prod.snd (Prod.snd (Prod.snd (Prod.snd m)))), false, Prod.fst (Prod.snd (Prod.snd (Prod.snd (Prod.snd (Prod.snd (Prod.snd m)))))), (0 : Int), Prod.fst (Prod.snd (Prod.snd (Prod.snd (Prod.snd (Prod.snd (Prod.snd (Prod.snd (Prod.snd m)))))))), [], [], []) (List.getD (Prod.fst (Prod.snd (Prod.snd (Prod.snd (Prod.snd (Prod.snd (Prod.snd (Prod.snd (Prod.snd m))))))))) (Int.toNat (0 : Int)) (Ty.dflt QQ)))))), AV.bool (Prod.fst (Prod.snd (Prod.snd (Prod.snd (fillV (List.getD l (Int.toNat (bestV l (Prod.fst (List.getD (Prod.fst (Prod.snd (Prod.snd (Prod.snd (Prod.snd (Prod.snd (Prod.snd (Prod.snd (Prod.snd m))))))))) (Int.toNat (0 : Int)) (Ty.dflt QQ))))) (Ty.dflt ZN)) (Prod.fst m, true, false, false, Prod.fst (Prod.snd (Prod.snd (Prod.snd (Prod.snd m)))), false, Prod.fst (Prod.snd (Prod.snd (Prod.snd (Prod.snd (Prod.snd (Prod.snd m)))))), (0 : Int), Prod.fst (Prod.snd (Prod.snd (Prod.snd (Prod.snd (Prod.snd (Prod.snd (Prod.snd (Prod.snd m)))))))), [], [], []) (List.getD (Prod.fst (Prod.snd (Prod.snd (Prod.snd (Prod.snd (Prod.snd (Prod.snd (Prod.snd (Prod.snd m))))))))) (Int.toNat (0 : Int)) (Ty.dflt QQ))))))), AV.bool (Prod.fst (Prod.snd (Prod.snd (Prod.snd (Prod.snd (fillV (List.getD l (Int.toNat (bestV l (Prod.fst (List.getD (Prod.fst (Prod.snd (Prod.snd (Prod.snd (Prod.snd (Prod.snd (Prod.snd (Prod.snd (Prod.snd m))))))))) (Int.toNat (0 : Int)) (Ty.dflt QQ))))) (Ty.dflt ZN)) (Prod.fst m, true, false, false, Prod.fst (Prod.snd (Prod.snd (Prod.snd (Prod.snd m)))), false, Prod.fst (Prod.snd (Prod.snd (Prod.snd (Prod.snd (Prod.snd (Prod.snd m)))))), (0 : Int), Prod.fst (Prod.snd (Prod.snd (Prod.snd (Prod.snd (Prod.snd (Prod.snd (Prod.snd (Prod.snd m)))))))), [], [], []) (List.getD (Prod.fst (Prod.snd (Prod.snd (Prod.snd (Prod.snd (Prod.snd (Prod.snd (Prod.snd (Prod.snd m))))))))) (Int.toNat (0 : Int)) (Ty.dflt QQ)))))))), AV.bool (Prod.fst (Prod.snd (Prod.snd (Prod.snd (Prod.snd (Prod.snd (fillV (List.getD l (Int.toNat (bestV l (Prod.fst (List.getD (Prod.fst (Prod.snd (Prod.snd (Prod.snd (Prod.snd (Prod.snd (Prod.snd (Prod.snd (Prod.snd m))))))))) (Int.toNat (0 : Int)) (Ty.dflt QQ))))) (Ty.dflt ZN)) (Prod.fst m, true, false, false, Prod.fst (Prod.snd (Prod.snd (Prod.snd (Prod.snd m)))), false, Prod.fst (Prod.snd (Prod.snd (Prod.snd (Prod.snd (Prod.snd (Prod.snd m)))))), (0 : Int), Prod.fst (Prod.snd (Prod.snd (Prod.snd (Prod.snd (Prod.snd (Prod.snd (Prod.snd (Prod.snd m)))))))), [], [], []) (List.getD (Prod.fst (Prod.snd (Prod.snd (Prod.snd (Prod.snd (Prod.snd (Prod.snd (Prod.snd (Prod.snd m))))))))) (Int.toNat (0 : Int)) (Ty.dflt QQ))))))))), AV.int IntKind.i64 (Prod.fst (Prod.snd (Prod.snd (Prod.snd (Prod.snd (Prod.snd (Prod.snd (fillV (List.getD l (Int.toNat (bestV l (Prod.fst (List.getD (Prod.fst (Prod.snd (Prod.snd (Prod.snd (Prod.snd (Prod.snd (Prod.snd (Prod.snd (Prod.snd m))))))))) (Int.toNat (0 : Int)) (Ty.dflt QQ))))) (Ty.dflt ZN)) (Prod.fst m, true, false, false, Prod.fst (Prod.snd (Prod.snd (Prod.snd (Prod.snd m)))), false, Prod.fst (Prod.snd (Prod.snd (Prod.snd (Prod.snd (Prod.snd (Prod.snd m)))))), (0 : Int), Prod.fst (Prod.snd (Prod.snd (Prod.snd (Prod.snd (Prod.snd (Prod.snd (Prod.snd (Prod.snd m)))))))), [], [], []) (List.getD (Prod.fst (Prod.snd (Prod.snd (Prod.snd (Prod.snd (Prod.snd (Prod.snd (Prod.snd (Prod.snd m))))))))) (Int.toNat (0 : Int)) (Ty.dflt QQ)))))))))), AV.int IntKind.i64 (Prod.fst (Prod.snd (Prod.snd (Prod.snd (Prod.snd (Prod.snd (Prod.snd (Prod.snd (fillV (List.getD l (Int.toNat (bestV l (Prod.fst (List.getD (Prod.fst (Prod.snd (Prod.snd (Prod.snd (Prod.snd (Prod.snd (Prod.snd (Prod.snd (Prod.snd m))))))))) (Int.toNat (0 : Int)) (Ty.dflt QQ))))) (Ty.dflt ZN)) (Prod.fst m, true, false, false, Prod.fst (Prod.snd (Prod.snd (Prod.snd (Prod.snd m)))), false, Prod.fst (Prod.snd (Prod.snd (Prod.snd (Prod.snd (Prod.snd (Prod.snd m)))))), (0 : Int), Prod.fst (Prod.snd (Prod.snd (Prod.snd (Prod.snd (Prod.snd (Prod.snd (Prod.snd (Prod.snd m)))))))), [], [], []) (List.getD (Prod.fst (Prod.snd (Prod.snd (Prod.snd (Prod.snd (Prod.snd (Prod.snd (Prod.snd (Prod.snd m))))))))) (Int.toNat (0 : Int)) (Ty.dflt QQ))))))))))), AV.list QQ (Prod.fst (Prod.snd (Prod.snd (Prod.snd (Prod.snd (Prod.snd (Prod.snd (Prod.snd (Prod.snd (fillV (List.getD l (Int.toNat (bestV l (Prod.fst (List.getD (Prod.fst (Prod.snd (Prod.snd (Prod.snd (Prod.snd (Prod.snd (Prod.snd (Prod.snd (Prod.snd m))))))))) (Int.toNat (0 : Int)) (Ty.dflt QQ))))) (Ty.dflt ZN)) (Prod.fst m, true, false, false, Prod.fst (Prod.snd (Prod.snd (Prod.snd (Prod.snd m)))), false, Prod.fst (Prod.snd (Prod.snd (Prod.snd (Prod.snd (Prod.snd (Prod.snd m)))))), (0 : Int), Prod.fst (Prod.snd (Prod.snd (Prod.snd (Prod.snd (Prod.snd (Prod.snd (Prod.snd (Prod.snd m)))))))), [], [], []) (List.getD (Prod.fst (Prod.snd (Prod.snd (Prod.snd (Prod.snd (Prod.snd (Prod.snd (Prod.snd (Prod.snd m))))))))) (Int.toNat (0 : Int)) (Ty.dflt QQ)))))))))))), AV.list RR (Prod.fst (Prod.snd (Prod.snd (Prod.snd (Prod.snd (Prod.snd (Prod.snd (Prod.snd (Prod.snd (Prod.snd (fillV (List.getD l (Int.toNat (bestV l (Prod.fst (List.getD (Prod.fst (Prod.snd (Prod.snd (Prod.snd (Prod.snd (Prod.snd (Prod.snd (Prod.snd (Prod.snd m))))))))) (Int.toNat (0 : Int)) (Ty.dflt QQ))))) (Ty.dflt ZN)) (Prod.fst m, true, false, false, Prod.fst (Prod.snd (Prod.snd (Prod.snd (Prod.snd m)))), false, Prod.fst (Prod.snd (Prod.snd (Prod.snd (Prod.snd (Prod.snd (Prod.snd m)))))), (0 : Int), Prod.fst (Prod.snd (Prod.snd (Prod.snd (Prod.snd (Prod.snd (Prod.snd (Prod.snd (Prod.snd m)))))))), [], [], []) (List.getD (Prod.fst (Prod.snd (Prod.snd (Prod.snd (Prod.snd (Prod.snd (Prod.snd (Prod.snd (Prod.snd m))))))))) (Int.toNat (0 : Int)) (Ty.dflt QQ))))))))))))), AV.list RR (Prod.fst (Prod.snd (Prod.snd (Prod.snd (Prod.snd (Prod.snd (Prod.snd (Prod.snd (Prod.snd (Prod.snd (Prod.snd (fillV (List.getD l (Int.toNat (bestV l (Prod.fst (List.getD (Prod.fst (Prod.snd (Prod.snd (Prod.snd (Prod.snd (Prod.snd (Prod.snd (Prod.snd (Prod.snd m))))))))) (Int.toNat (0 : Int)) (Ty.dflt QQ))))) (Ty.dflt ZN)) (Prod.fst m, true, false, false, Prod.fst (Prod.snd (Prod.snd (Prod.snd (Prod.snd m)))), false, Prod.fst (Prod.snd (Prod.snd (Prod.snd (Prod.snd (Prod.snd (Prod.snd m)))))), (0 : Int), Prod.fst (Prod.snd (Prod.snd (Prod.snd (Prod.snd (Prod.snd (Prod.snd (Prod.snd (Prod.snd m)))))))), [], [], []) (List.getD (Prod.fst (Prod.snd (Prod.snd (Prod.snd (Prod.snd (Prod.snd (Prod.snd (Prod.snd (Prod.snd m))))))))) (Int.toNat (0 : Int)) (Ty.dflt QQ)))))))))))))), AV.list RR (Prod.snd (Prod.snd (Prod.snd (Prod.snd (Prod.snd (Prod.snd (Prod.snd (Prod.snd (Prod.snd (Prod.snd (Prod.snd (fillV (List.getD l (Int.toNat (bestV l (Prod.fst (List.getD (Prod.fst (Prod.snd (Prod.snd (Prod.snd (Prod.snd (Prod.snd (Prod.snd (Prod.snd (Prod.snd m))))))))) (Int.toNat (0 : Int)) (Ty.dflt QQ))))) (Ty.dflt ZN)) (Prod.fst m, true, false, false, Prod.fst (Prod.snd (Prod.snd (Prod.snd (Prod.snd m)))), false, Prod.fst (Prod.snd (Prod.snd (Prod.snd (Prod.snd (Prod.snd (Prod.snd m)))))), (0 : Int), Prod.fst (Prod.snd (Prod.snd (Prod.snd (Prod.snd (Prod.snd (Prod.snd (Prod.snd (Prod.snd m)))))))), [], [], []) (List.getD (Prod.fst (Prod.snd (Prod.snd (Prod.snd (Prod.snd (Prod.snd (Prod.snd (Prod.snd (Prod.snd m))))))))) (Int.toNat (0 : Int)) (Ty.dflt QQ))))))))))))))]], [])) Tr.no) Tr.no) Tr.no))) Tr.no) Tr.no))
def os28 : OSpec := { f := 28, sh := [.d (.list ZN) false, .d MG true], so := [], F := fun (l, m, _) _ => t28 l m }
set_option maxRecDepth 1000000 in
theorem fn28 (l : List (List UInt8 × List (List UInt8 × (Int × (Int × (Int × List UInt8)))))) (m : (Int × (Bool × (Bool × (Bool × (Bool × (Bool × (Int × (Int × (List (List UInt8 × (Int × Int)) × (List (List UInt8 × (Int × (Int × (Int × List UInt8)))) × (List (List UInt8 × (Int × (Int × (Int × List UInt8)))) × List (List UInt8 × (Int × (Int × (Int × List UInt8)))))))))))))))) : evC T0 (orcB [fs55, fs24w, fs56w] []) (lpOf h28 0 (lsOf [])) c28 1000000 (startSt [.list ZN l, AV.ofTy MG m true] [] Try.f28.ntmps) (finishK T0 false 0 Try.f28) = (t28 l m).get := by kernel_rfl
theorem ok28 : os28.Ok Try.prog := by
  refine os_ok mixed0 tab0 (orcB_sound (all_cons okf55 (all_cons okf24w (all_cons okf56w all_nil))) all_nil) h28 (d := 0) (n0 := 0) (S := lsOf []) Try.func28 (by kernel_rfl) (c := c28) (by kernel_rfl) rfl (no_loops (by kernel_rfl)) (by omega) (by kernel_rfl) ?_
  intro x'' y'' q'' hq''
  obtain ⟨(l : List (List UInt8 × List (List UInt8 × (Int × (Int × (Int × List UInt8)))))), (m : (Int × (Bool × (Bool × (Bool × (Bool × (Bool × (Int × (Int × (List (List UInt8 × (Int × Int)) × (List (List UInt8 × (Int × (Int × (Int × List UInt8)))) × (List (List UInt8 × (Int × (Int × (Int × List UInt8)))) × List (List UInt8 × (Int × (Int × (Int × List UInt8)))))))))))))))), _⟩ := x''
  exact (fn28 l m).trans hq''
def fs28 : FSpec := fsT 28 [((.list ZN), false), (MG, true)] [(MG, true)] fun (l, m, _) => t28 l m
theorem okf28 : fs28.Ok Try.prog := fsT_ok fun x'' r'' hr'' => ok28 x'' () r'' hr''
theorem ans_all (l : List ZNt) (m : MGt) (hl : zsOk l = true) (hq : smN (qAt m).1 = true) : Tr.all (fun r : Res => r = ([mgA (ansV l m)], [])) (t28 l m) := by
  unfold t28 ansV
  have hqq : (Prod.fst (Prod.snd (Prod.snd (Prod.snd (Prod.snd (Prod.snd (Prod.snd (Prod.snd (Prod.snd m)))))))) ).getD (Int.toNat (0 : Int)) (Ty.dflt QQ) = qAt m := rfl
  rw [hqq]
  refine Tr.all_br (fun h1 => Tr.all_ret (by rw [h1]; rfl)) fun h1 => ?_
  rw [h1, cond_false]
  have hl1 : m.2.2.2.2.2.2.2.2.1.length = 1 := by
    have : ((m.2.2.2.2.2.2.2.2.1.length : Int) != 1) = false := h1
    simp at this
    omega
  refine Tr.all_br (fun h2 => Tr.all_ret (by rw [h2]; rfl)) fun h2 => Tr.all_t (dec_true (by omega)) (Tr.all_t (by rw [zsOk_L hl, hq]; rfl) ?_)
  rw [h2, cond_false]
  refine Tr.all_br (fun h3 => Tr.all_ret (by rw [h3]; rfl)) fun h3 => Tr.all_br (fun h4 => Tr.all_ret (by rw [h4, h3]; rfl)) fun h4 => ?_
  obtain ⟨b1, b2⟩ := bestV_lt l (qAt m).1 (of_decide_eq_false h3)
  refine Tr.all_t (dec_true b1) (Tr.all_t (dec_true b2) (Tr.all_t (by rw [zsOk_get hl (by omega), hq]; rfl) (Tr.all_ret ?_)))
  rw [h3, h4]
  rfl
def fs28w : FSpec := fs28.like fun (l, m, _) => .on (zsOk l && smN (qAt m).1) (ansV l m, ())
theorem okf28w : fs28w.Ok Try.prog := by
  refine flike_ok okf28 _ ?_
  rintro ⟨(l : List ZNt), (m : MGt), _⟩ y h
  obtain ⟨hb, rfl⟩ := Tr.get_on h
  obtain ⟨hz, hq⟩ := Bool.and_eq_true_iff.1 (show (zsOk l && smN (qAt m).1) = true from hb)
  exact convR_of (vs := [mgA (ansV l m)]) rfl rfl (Tr.get_of_all (ans_all l m hz hq))
end Go.Proofs.YtkobjdhbfepkaaaE
namespace Go.Proofs.YtkobjdhbfepkaaaE
open Go Go.Proofs.YtkobjdhbfepkaaaB
set_option linter.unusedVariables false
set_option linter.unusedSimpArgs false
set_option maxRecDepth 100000
def t14 : Tr Res := Tr.ret ([AV.bool (Prod.fst (List.getD (Prod.fst (Prod.snd (Prod.snd (Prod.snd (Prod.snd (Prod.snd (Prod.snd (Prod.snd (Prod.snd (Prod.snd (Prod.snd (ansV [([2, 97, 98, 0], [([1, 99, 2, 97, 98, 0], (2 : Int), (1 : Int), (0 : Int), [1, 110, 0])])] ((0 : Int), false, false, false, false, false, (0 : Int), (0 : Int), [([3, 119, 119, 119, 1, 99, 2, 97, 98, 0], (1 : Int), (1 : Int))], [], [], []))))))))))))) (Int.toNat (0 : Int)) (Ty.dflt RR)) == [1, 99, 2, 97, 98, 0])], [])
def os14 : OSpec := { f := 14, sh := [], so := [], F := fun _ _ => t14 }
set_option maxRecDepth 1000000 in
theorem fn14 : evC T0 (orcB [fs28w] []) (lpOf h14 0 (lsOf [])) c14 1000000 (startSt [] [] Try.f14.ntmps) (finishK T0 false 0 Try.f14) = (t14).get := by kernel_rfl
theorem ok14 : os14.Ok Try.prog := by
  refine os_ok mixed0 tab0 (orcB_sound (all_cons okf28w all_nil) all_nil) h14 (d := 0) (n0 := 0) (S := lsOf []) Try.func14 (by kernel_rfl) (c := c14) (by kernel_rfl) rfl (no_loops (by kernel_rfl)) (by omega) (by kernel_rfl) ?_
  intro x'' y'' q'' hq''
  exact (fn14).trans hq''
def fs14 : FSpec := fsT 14 [] [(.bool, false)] fun _ => t14
theorem okf14 : fs14.Ok Try.prog := fsT_ok fun x'' r'' hr'' => ok14 x'' () r'' hr''
theorem shown17 : t14 = .ret ([.bool true], []) := by kernel_rfl
def fs14w : FSpec := fs14.like fun _ => .ret (true, ())
theorem okf14w : fs14w.Ok Try.prog := by
  refine flike_ok okf14 _ ?_
  rintro _ y h
  cases h
  refine convR_of (vs := [.bool true]) rfl rfl (Tr.get_of_all ?_)
  show t14.all _
  rw [shown17]
  exact Tr.all_ret rfl
theorem rrFew_iff {rs : List RRt} : rrFew rs = true ↔ ∀ r ∈ rs, r.1.length ≤ 300 ∧ r.2.2.2.2.length ≤ 300 := by
  unfold rrFew
  rw [List.all_eq_true]
  exact forall_congr' fun r => forall_congr' fun _ => by rw [Bool.and_eq_true, decide_eq_true_eq, decide_eq_true_eq]
theorem znFew_iff {z : ZNt} : znFew z = true ↔ z.2.length ≤ 40 ∧ z.1.length ≤ 300 ∧ rrFew z.2 = true := by
  unfold znFew
  rw [Bool.and_eq_true, Bool.and_eq_true, decide_eq_true_eq, decide_eq_true_eq]
theorem znFew_ok {z : ZNt} (h : znFew z = true) : zOk z = true := by
  obtain ⟨h1, h2, h3⟩ := znFew_iff.1 h
  have h3 := rrFew_iff.1 h3
  unfold zOk smZ smR smD
  rw [smN_iff.2 (by omega), Nat.ble_eq_true_of_le (show z.2.length ≤ 1000000 by omega), Nat.ble_eq_true_of_le (show z.2.length ≤ 1000 by omega)]
  rw [show (z.2.all fun r => smN r.1) = true from List.all_eq_true.2 fun r hr => smN_iff.2 (by have := (h3 r hr).1; omega)]
  rw [show (z.2.all fun r => bigS r.2.2.2.2) = true from List.all_eq_true.2 fun r hr => len_big (by have := (h3 r hr).2; omega)]
  rfl
theorem few_zs {l : List ZNt} (h : fewZ l = true) : zsOk l = true := by
  obtain ⟨h1, h2⟩ := fewZ_iff.1 h
  unfold zsOk
  rw [show l.all zOk = true from List.all_eq_true.2 fun z hz => znFew_ok (h2 z hz), Nat.ble_eq_true_of_le (by omega)]
  rfl
def t16o (l : List (List UInt8 × List (List UInt8 × (Int × (Int × (Int × List UInt8)))))) : Tr Res := Tr.br (maC l [] (0 : Int)) (Tr.ret ([AV.rowA 0], [LObj.row ZN l])) Tr.no
def os16o : OSpec := { f := 16, sh := [.d (.list ZN) false], so := [], F := fun (l, _) _ => t16o l }
set_option maxRecDepth 1000000 in
theorem fn16o (l : List (List UInt8 × List (List UInt8 × (Int × (Int × (Int × List UInt8)))))) : evC T0 (orcB [] []) (lpOf (hOwn h16) 0 (lsOf [ls16])) c16 1000000 (startSt [.list ZN l] [] Try.f16.ntmps) (finishK T0 true 0 Try.f16) = (t16o l).get := by kernel_rfl
def os16w : OSpec := os16o.like fun (l, _) _ => .on (Nat.ble l.length 1000000) ([.rowA 0], [.row ZN l])
def wbC (l l2 : List ZNt) (n : List UInt8) (b k : Int) : Bool := smL l && (smN n && (decide (b = bestV l n) && (decide (k = 0) && decide (l2 = l))))
noncomputable def b7 : Code := nthLoop c7 0
def ls7 : LoopSpec := { bid := 0, sh := [.d (.list ZN) false, .d .str false, .ptr 0 0, .d .bool false, .row 1, .d (.int .i64) false, .d (.int .i64) false], so := [.box [.d .str false, .d (.list RR) false], .row ZN], F := fun (l, n, up, b, k, _) ((za, zr, _), l2, _) => .on (wbC l l2 n b k) (.exit 0, [.list ZN l, .str n, .ptr 0 0, .dead, .bool up, .rowA 1, .int .i64 b], [.box [.str za, .list RR zr], .row ZN l2]) }
def r7 (l : List (List UInt8 × List (List UInt8 × (Int × (Int × (Int × List UInt8)))))) (n : List UInt8) (up : Bool) (b : Int) (k : Int) (za : List UInt8) (zr : List (List UInt8 × (Int × (Int × (Int × List UInt8))))) (l2 : List (List UInt8 × List (List UInt8 × (Int × (Int × (Int × List UInt8)))))) : Tr (St ⊕ (Ex × St)) := Tr.br (decide (k < (↑(List.length l) : Int))) (Tr.br (decide ((0 : Int) ≤ k)) (Tr.br (decide (k < (↑(List.length l) : Int))) (Tr.br (smN n && smN (Prod.fst (List.getD l (Int.toNat k) (Ty.dflt ZN)))) (Tr.br (undV n (Prod.fst (List.getD l (Int.toNat k) (Ty.dflt ZN)))) (Tr.br (decide (b < (0 : Int))) (Tr.ret (Sum.inr (Ex.ret, stOf [0, 2, 4, 6, 7, 8, 9] [AV.list ZN l, AV.str n, AV.ptr 0 0, AV.bool false, AV.bool up, AV.rowA 1, AV.int IntKind.i64 b] [LObj.boxT none [AV.str za, AV.list RR zr], LObj.row ZN l2]))) (Tr.br (decide ((0 : Int) ≤ k)) (Tr.br (decide (k < (↑(List.length l) : Int))) (Tr.br (bigS (Prod.fst (List.getD l (Int.toNat k) (Ty.dflt ZN)))) (Tr.br (decide ((0 : Int) ≤ b)) (Tr.br (decide (b < (↑(List.length l) : Int))) (Tr.br (bigS (Prod.fst (List.getD l (Int.toNat b) (Ty.dflt ZN)))) (Tr.br (decide (depV (Prod.fst (List.getD l (Int.toNat k) (Ty.dflt ZN))) > depV (Prod.fst (List.getD l (Int.toNat b) (Ty.dflt ZN))))) (Tr.ret (Sum.inr (Ex.ret, stOf [0, 2, 4, 6, 7, 8, 9] [AV.list ZN l, AV.str n, AV.ptr 0 0, AV.bool false, AV.bool up, AV.rowA 1, AV.int IntKind.i64 b] [LObj.boxT none [AV.str za, AV.list RR zr], LObj.row ZN l2]))) (Tr.ret (Sum.inl (stOf [0, 2, 4, 7, 8, 9, 10] [AV.list ZN l, AV.str n, AV.ptr 0 0, AV.bool up, AV.rowA 1, AV.int IntKind.i64 b, AV.int IntKind.i64 (IntKind.wrap IntKind.i64 (k + (1 : Int)))] [LObj.boxT none [AV.str za, AV.list RR zr], LObj.row ZN l2])))) Tr.no) Tr.no) Tr.no) Tr.no) Tr.no) Tr.no)) (Tr.ret (Sum.inl (stOf [0, 2, 4, 7, 8, 9, 10] [AV.list ZN l, AV.str n, AV.ptr 0 0, AV.bool up, AV.rowA 1, AV.int IntKind.i64 b, AV.int IntKind.i64 (IntKind.wrap IntKind.i64 (k + (1 : Int)))] [LObj.boxT none [AV.str za, AV.list RR zr], LObj.row ZN l2])))) Tr.no) Tr.no) Tr.no) (Tr.ret (Sum.inr (Ex.exit 0, stOf [0, 2, 4, 6, 7, 8, 9] [AV.list ZN l, AV.str n, AV.ptr 0 0, AV.dead, AV.bool up, AV.rowA 1, AV.int IntKind.i64 b] [LObj.boxT none [AV.str za, AV.list RR zr], LObj.row ZN l2])))
set_option maxRecDepth 1000000 in
theorem round7 (lp : Lp) (l : List (List UInt8 × List (List UInt8 × (Int × (Int × (Int × List UInt8)))))) (n : List UInt8) (up : Bool) (b : Int) (k : Int) (za : List UInt8) (zr : List (List UInt8 × (Int × (Int × (Int × List UInt8))))) (l2 : List (List UInt8 × List (List UInt8 × (Int × (Int × (Int × List UInt8)))))) : evC T0 (orcB [fs14w, fs15w, fs31w, fs32w, fs24w] [os16w]) lp b7 0 (stOf [0, 2, 4, 7, 8, 9, 10] [.list ZN l, .str n, .ptr 0 0, .bool up, .rowA 1, .int .i64 b, .int .i64 k] [.box [.str za, .list RR zr], .row ZN l2]) (roundK [0, 2, 4, 7, 8, 9, 10] [0, 2, 4, 6, 7, 8, 9] 0) = (r7 l n up b k za zr l2).get := by kernel_rfl
def t7 (l : List (List UInt8 × List (List UInt8 × (Int × (Int × (Int × List UInt8)))))) (z : (List UInt8 × List (List UInt8 × (Int × (Int × (Int × List UInt8)))))) (n : List UInt8) : Tr Res := Tr.br (!fewZ l) (Tr.ret ([AV.bool true], [])) (Tr.br (!fewZ [z]) (Tr.ret ([AV.bool true], [])) (Tr.br (decide ((↑(List.length n) : Int) > (300 : Int))) (Tr.ret ([AV.bool true], [])) (Tr.br (Nat.ble (List.length l) 1000000) (Tr.br (smL l && smN n) (Tr.br (wbC l l n (bestV l n) (0 : Int)) (Tr.br (fits (List.length l + 1) 40) (Tr.br (smL (l ++ [z]) && smN n) (Tr.br (decide (bestV l n ≥ (-1 : Int))) (Tr.br (decide (bestV l n < (↑(List.length l) : Int))) (Tr.br (decide (bestV l n < (0 : Int))) (Tr.br (bestV (l ++ [z]) n == bestV l n) (Tr.br (bestV (l ++ [z]) n != (↑(List.length l) : Int)) (Tr.ret ([AV.bool true], [])) (Tr.br (smN n && smN (Prod.fst z)) (Tr.ret ([AV.bool (undV n (Prod.fst z))], [])) Tr.no)) (Tr.br (bestV (l ++ [z]) n == (↑(List.length l) : Int)) (Tr.br (bestV (l ++ [z]) n != (↑(List.length l) : Int)) (Tr.ret ([AV.bool true], [])) (Tr.br (smN n && smN (Prod.fst z)) (Tr.ret ([AV.bool (undV n (Prod.fst z))], [])) Tr.no)) (Tr.ret ([AV.bool false], [])))) (Tr.br (decide ((0 : Int) ≤ bestV l n)) (Tr.br (decide (bestV l n < (↑(List.length l) : Int))) (Tr.br (smN n && smN (Prod.fst (List.getD l (Int.toNat (bestV l n)) (Ty.dflt ZN)))) (Tr.br (undV n (Prod.fst (List.getD l (Int.toNat (bestV l n)) (Ty.dflt ZN)))) (Tr.br (bestV (l ++ [z]) n == bestV l n) (Tr.br (bestV (l ++ [z]) n != (↑(List.length l) : Int)) (Tr.ret ([AV.bool true], [])) (Tr.br (smN n && smN (Prod.fst z)) (Tr.ret ([AV.bool (undV n (Prod.fst z))], [])) Tr.no)) (Tr.br (bestV (l ++ [z]) n == (↑(List.length l) : Int)) (Tr.br (bestV (l ++ [z]) n != (↑(List.length l) : Int)) (Tr.ret ([AV.bool true], [])) (Tr.br (smN n && smN (Prod.fst z)) (Tr.ret ([AV.bool (undV n (Prod.fst z))], [])) Tr.no)) (Tr.ret ([AV.bool false], [])))) (Tr.ret ([AV.bool false], []))) Tr.no) Tr.no) Tr.no)) (Tr.ret ([AV.bool false], []))) (Tr.ret ([AV.bool false], []))) Tr.no) Tr.no) Tr.no) Tr.no) Tr.no)))
set_option maxRecDepth 1000000 in
theorem fn7 (l : List (List UInt8 × List (List UInt8 × (Int × (Int × (Int × List UInt8)))))) (z : (List UInt8 × List (List UInt8 × (Int × (Int × (Int × List UInt8)))))) (n : List UInt8) : evC T0 (orcB [fs14w, fs15w, fs31w, fs32w, fs24w] [os16w]) (lpOf h7 0 (lsOf [ls7])) c7 1000000 (startSt [.list ZN l, AV.ofTy ZN z true, .str n] [] Try.f7.ntmps) (finishK T0 false 0 Try.f7) = (t7 l z n).get := by kernel_rfl
end Go.Proofs.YtkobjdhbfepkaaaE
namespace Go.Proofs.YtkobjdhbfepkaaaE
open Go Go.Proofs.YtkobjdhbfepkaaaB
set_option linter.unusedVariables false
set_option linter.unusedSimpArgs false
set_option maxRecDepth 100000
def gbK (ap : List UInt8) (b : List RRt) : Bool := smN ap && (Nat.ble b.length 1000000 && ((b.all fun r => r.2.1 == 1 && (smN r.1 && undV r.1 ap)) && decide b.Nodup))
def gbI (b : List RRt) (i k : Int) : Bool := Nat.ble b.length 1000000 && (decide b.Nodup && (decide (0 ≤ i) && (decide (i < (b.length : Int)) && decide (k = 0))))
noncomputable def b8i : Code := nthLoop (nthLoop c8 0) 0
def ls8i : LoopSpec := { bid := 2, sh := [.ptr 0 0, .d .bool false, .d (.list RR) false, .d (.int .i64) false, .d (.int .i64) false], so := [.box [.d .str false, .d (.list RR) false]], F := fun (up, b, i, k, _) ((ap, zr, _), _) => .on (gbI b i k) (.exit 2, [.ptr 0 0, .dead, .bool up, .list RR b, .int .i64 i], [.box [.str ap, .list RR zr]]) }
def r8i (up : Bool) (b : List (List UInt8 × (Int × (Int × (Int × List UInt8))))) (i : Int) (k : Int) (ap : List UInt8) (zr : List (List UInt8 × (Int × (Int × (Int × List UInt8))))) : Tr (St ⊕ (Ex × St)) := Tr.br (decide (k < i)) (Tr.br (decide ((0 : Int) ≤ k)) (Tr.br (decide (k < (↑(List.length b) : Int))) (Tr.br (decide ((0 : Int) ≤ i)) (Tr.br (decide (i < (↑(List.length b) : Int))) (Tr.br (Prod.fst (List.getD b (Int.toNat k) (Ty.dflt RR)) == Prod.fst (List.getD b (Int.toNat i) (Ty.dflt RR)) && (Prod.fst (Prod.snd (List.getD b (Int.toNat k) (Ty.dflt RR))) == Prod.fst (Prod.snd (List.getD b (Int.toNat i) (Ty.dflt RR))) && (Prod.fst (Prod.snd (Prod.snd (List.getD b (Int.toNat k) (Ty.dflt RR)))) == Prod.fst (Prod.snd (Prod.snd (List.getD b (Int.toNat i) (Ty.dflt RR)))) && (Prod.fst (Prod.snd (Prod.snd (Prod.snd (List.getD b (Int.toNat k) (Ty.dflt RR))))) == Prod.fst (Prod.snd (Prod.snd (Prod.snd (List.getD b (Int.toNat i) (Ty.dflt RR))))) && (Prod.snd (Prod.snd (Prod.snd (Prod.snd (List.getD b (Int.toNat k) (Ty.dflt RR))))) == Prod.snd (Prod.snd (Prod.snd (Prod.snd (List.getD b (Int.toNat i) (Ty.dflt RR))))) && true))))) (Tr.ret (Sum.inr (Ex.ret, stOf [3, 6, 7, 11, 12] [AV.ptr 0 0, AV.bool false, AV.bool up, AV.list RR b, AV.int IntKind.i64 i] [LObj.boxT none [AV.str ap, AV.list RR zr]]))) (Tr.ret (Sum.inl (stOf [3, 7, 11, 12, 13] [AV.ptr 0 0, AV.bool up, AV.list RR b, AV.int IntKind.i64 i, AV.int IntKind.i64 (IntKind.wrap IntKind.i64 (k + (1 : Int)))] [LObj.boxT none [AV.str ap, AV.list RR zr]])))) Tr.no) Tr.no) Tr.no) Tr.no) (Tr.ret (Sum.inr (Ex.exit 2, stOf [3, 6, 7, 11, 12] [AV.ptr 0 0, AV.dead, AV.bool up, AV.list RR b, AV.int IntKind.i64 i] [LObj.boxT none [AV.str ap, AV.list RR zr]])))
set_option maxRecDepth 1000000 in
theorem round8i (lp : Lp) (up : Bool) (b : List (List UInt8 × (Int × (Int × (Int × List UInt8))))) (i : Int) (k : Int) (ap : List UInt8) (zr : List (List UInt8 × (Int × (Int × (Int × List UInt8))))) : evC T0 (orcB [fs14w, fs15w, fs31w, fs22w, fs21w] []) lp b8i 2 (stOf [3, 7, 11, 12, 13] [.ptr 0 0, .bool up, .list RR b, .int .i64 i, .int .i64 k] [.box [.str ap, .list RR zr]]) (roundK [3, 7, 11, 12, 13] [3, 6, 7, 11, 12] 0) = (r8i up b i k ap zr).get := by kernel_rfl
noncomputable def b8o : Code := nthLoop c8 0
def ls8o : LoopSpec := { bid := 0, sh := [.ptr 0 0, .d .bool false, .d (.list RR) false, .d (.int .i64) false], so := [.box [.d .str false, .d (.list RR) false]], F := fun (up, b, i, _) ((ap, zr, _), _) => .on (gbK ap b && decide (i = 0)) (.exit 0, [.dead, .bool up], []) }
def r8o (up : Bool) (b : List (List UInt8 × (Int × (Int × (Int × List UInt8))))) (i : Int) (ap : List UInt8) (zr : List (List UInt8 × (Int × (Int × (Int × List UInt8))))) : Tr (St ⊕ (Ex × St)) := Tr.br (decide (i < (↑(List.length b) : Int))) (Tr.br (decide ((0 : Int) ≤ i)) (Tr.br (decide (i < (↑(List.length b) : Int))) (Tr.br (Prod.fst (Prod.snd (List.getD b (Int.toNat i) (Ty.dflt RR))) != (1 : Int)) (Tr.ret (Sum.inr (Ex.ret, stOf [6, 7] [AV.bool false, AV.bool up] []))) (Tr.br (decide ((0 : Int) ≤ i)) (Tr.br (decide (i < (↑(List.length b) : Int))) (Tr.br (smN (Prod.fst (List.getD b (Int.toNat i) (Ty.dflt RR))) && smN ap) (Tr.br (!undV (Prod.fst (List.getD b (Int.toNat i) (Ty.dflt RR))) ap) (Tr.ret (Sum.inr (Ex.ret, stOf [6, 7] [AV.bool false, AV.bool up] []))) (Tr.br (gbI b i (0 : Int)) (Tr.ret (Sum.inl (stOf [3, 7, 11, 12] [AV.ptr 0 0, AV.bool up, AV.list RR b, AV.int IntKind.i64 (IntKind.wrap IntKind.i64 (i + (1 : Int)))] [LObj.boxT none [AV.str ap, AV.list RR zr]]))) Tr.no)) Tr.no) Tr.no) Tr.no)) Tr.no) Tr.no) (Tr.ret (Sum.inr (Ex.exit 0, stOf [6, 7] [AV.dead, AV.bool up] [])))
set_option maxRecDepth 1000000 in
theorem round8o (up : Bool) (b : List (List UInt8 × (Int × (Int × (Int × List UInt8))))) (i : Int) (ap : List UInt8) (zr : List (List UInt8 × (Int × (Int × (Int × List UInt8))))) : evC T0 (orcB [fs14w, fs15w, fs31w, fs22w, fs21w] []) (lpOf h8 0 (lsOf [ls8i])) b8o 0 (stOf [3, 7, 11, 12] [.ptr 0 0, .bool up, .list RR b, .int .i64 i] [.box [.str ap, .list RR zr]]) (roundK [3, 7, 11, 12] [6, 7] 0) = (r8o up b i ap zr).get := by kernel_rfl
def t8 (z : (List UInt8 × List (List UInt8 × (Int × (Int × (Int × List UInt8)))))) (ns : List (List UInt8 × (Int × (Int × (Int × List UInt8))))) (more : List (List UInt8 × (Int × (Int × (Int × List UInt8))))) : Tr Res := Tr.br (!fewZ [z, ([], ns), ([], more)]) (Tr.ret ([AV.bool true], [])) (Tr.br (gnOk z ns) (Tr.br (fits (0 + List.length ns) 40) (Tr.br (fits (List.length ([] ++ ns) + List.length more) 40) (Tr.br (gnOk z ([] ++ ns ++ more)) (Tr.br (decide ((↑(List.length (glueV z ([] ++ ns ++ more))) : Int) < (↑(List.length (glueV z ns)) : Int))) (Tr.ret ([AV.bool false], [])) (Tr.br (decide ((0 : Int) ≤ (↑(List.length (glueV z ns)) : Int)) && decide ((↑(List.length (glueV z ns)) : Int) ≤ (↑(List.length (glueV z ([] ++ ns ++ more))) : Int))) (Tr.br (Nat.ble (List.length (List.take (Int.toNat (↑(List.length (glueV z ns)) : Int) - Int.toNat (0 : Int)) (List.drop (Int.toNat (0 : Int)) (glueV z ([] ++ ns ++ more))))) 1000000) (Tr.br (!decide (List.take (Int.toNat (↑(List.length (glueV z ns)) : Int) - Int.toNat (0 : Int)) (List.drop (Int.toNat (0 : Int)) (glueV z ([] ++ ns ++ more))) = glueV z ns)) (Tr.ret ([AV.bool false], [])) (Tr.br (gbK (Prod.fst z) (glueV z ([] ++ ns ++ more)) && decide ((0 : Int) = (0 : Ty.den (Ty.int IntKind.i64)))) (Tr.ret ([AV.bool true], [])) Tr.no)) Tr.no) Tr.no)) Tr.no) Tr.no) Tr.no) Tr.no)
set_option maxRecDepth 1000000 in
theorem fn8 (z : (List UInt8 × List (List UInt8 × (Int × (Int × (Int × List UInt8)))))) (ns : List (List UInt8 × (Int × (Int × (Int × List UInt8))))) (more : List (List UInt8 × (Int × (Int × (Int × List UInt8))))) : evC T0 (orcB [fs14w, fs15w, fs31w, fs22w, fs21w] []) (lpOf h8 0 (lsOf [ls8o])) c8 1000000 (startSt [AV.ofTy ZN z true, .list RR ns, .list RR more] [] Try.f8.ntmps) (finishK T0 false 0 Try.f8) = (t8 z ns more).get := by kernel_rfl
theorem rr_gn {z : ZNt} {ns : List RRt} (hz : znFew z = true) (hl : ns.length ≤ 100) (hn : ∀ r ∈ ns, r.2.2.2.2.length ≤ 300) : gnOk z ns = true := by
  have h1 := znFew_ok hz
  unfold zOk at h1
  rw [Bool.and_eq_true] at h1
  obtain ⟨z1, _, _⟩ := znFew_iff.1 hz
  have hm : ns.length * z.2.length ≤ 100 * 40 := Nat.mul_le_mul hl z1
  unfold gnOk smD
  rw [h1.1, Nat.ble_eq_true_of_le (by omega), Nat.ble_eq_true_of_le (by omega)]
  rw [show (ns.all fun r => bigS r.2.2.2.2) = true from List.all_eq_true.2 fun r hr => len_big (by have := hn r hr; omega)]
  rfl
theorem glueV_len {z : ZNt} {ns : List RRt} : (glueV z ns).length ≤ ns.length * z.2.length := by
  have : ∀ (ns l : List RRt), (glueL z l ns).length ≤ l.length + ns.length * z.2.length := by
    intro ns
    induction ns with
    | nil => intro l; simp [glueL]
    | cons r ns ih =>
      intro l
      have h1 := ih (glue1 z l r)
      have h2 := glue1_len z l r
      rw [glueL, List.length_cons, Nat.add_mul, Nat.one_mul]
      omega
  have := this ns []
  rw [List.length_nil, Nat.zero_add] at this
  exact this
end Go.Proofs.YtkobjdhbfepkaaaE
namespace Go.Proofs.YtkobjdhbfepkaaaE
open Go Go.Proofs.YtkobjdhbfepkaaaB
set_option linter.unusedVariables false
set_option linter.unusedSimpArgs false
set_option maxRecDepth 100000
def ztC (l l2 : List ZNt) (n : List UInt8) (ns : List RRt) (i : Int) : Bool := fewZ l && (fewZ [([], ns)] && (smN n && (decide (l2 = l) && decide (i = 0))))
noncomputable def b3 : Code := nthLoop c3 0
def ls3 : LoopSpec := { bid := 0, sh := [.d (.list ZN) false, .d .str false, .d (.list RR) false, .d .bool false, .d (.list ZN) false, .d (.int .i64) false], so := [], F := fun (l, n, ns, up, l2, i, _) _ => .on (ztC l l2 n ns i) (.exit 0, [.list ZN l, .str n, .dead, .bool up, .list ZN l2], []) }
def r3 (l : List (List UInt8 × List (List UInt8 × (Int × (Int × (Int × List UInt8)))))) (n : List UInt8) (ns : List (List UInt8 × (Int × (Int × (Int × List UInt8))))) (up : Bool) (l2 : List (List UInt8 × List (List UInt8 × (Int × (Int × (Int × List UInt8)))))) (i : Int) : Tr (St ⊕ (Ex × St)) := Tr.br (decide (i < (↑(List.length l) : Int))) (Tr.br (decide ((0 : Int) ≤ i)) (Tr.br (decide (i < (↑(List.length l2) : Int))) (Tr.br (smZ (List.getD l2 (Int.toNat i) (Ty.dflt ZN)) && smN n) (Tr.br (decide ((0 : Int) ≤ i)) (Tr.br (decide (i < (↑(List.length l) : Int))) (Tr.br (smZ (List.getD l (Int.toNat i) (Ty.dflt ZN)) && smN n) (Tr.br (!Prod.fst (cutV (List.getD l2 (Int.toNat i) (Ty.dflt ZN)) n) == Prod.fst (cutV (List.getD l (Int.toNat i) (Ty.dflt ZN)) n)) (Tr.ret (Sum.inr (Ex.ret, stOf [0, 1, 6, 7, 8] [AV.list ZN l, AV.str n, AV.bool false, AV.bool up, AV.list ZN l2] []))) (Tr.br (!Prod.snd (cutV (List.getD l2 (Int.toNat i) (Ty.dflt ZN)) n) == Prod.snd (cutV (List.getD l (Int.toNat i) (Ty.dflt ZN)) n)) (Tr.ret (Sum.inr (Ex.ret, stOf [0, 1, 6, 7, 8] [AV.list ZN l, AV.str n, AV.bool false, AV.bool up, AV.list ZN l2] []))) (Tr.br (decide ((0 : Int) ≤ i)) (Tr.br (decide (i < (↑(List.length l2) : Int))) (Tr.br (smZ (List.getD l2 (Int.toNat i) (Ty.dflt ZN)) && smN n) (Tr.br (decide ((0 : Int) ≤ i)) (Tr.br (decide (i < (↑(List.length l) : Int))) (Tr.br (smZ (List.getD l (Int.toNat i) (Ty.dflt ZN)) && smN n) (Tr.br (!thereV (List.getD l2 (Int.toNat i) (Ty.dflt ZN)) n == thereV (List.getD l (Int.toNat i) (Ty.dflt ZN)) n) (Tr.ret (Sum.inr (Ex.ret, stOf [0, 1, 6, 7, 8] [AV.list ZN l, AV.str n, AV.bool false, AV.bool up, AV.list ZN l2] []))) (Tr.br (decide ((0 : Int) ≤ i)) (Tr.br (decide (i < (↑(List.length l2) : Int))) (Tr.br (gnOk (List.getD l2 (Int.toNat i) (Ty.dflt ZN)) ns) (Tr.br (decide ((0 : Int) ≤ i)) (Tr.br (decide (i < (↑(List.length l) : Int))) (Tr.br (gnOk (List.getD l (Int.toNat i) (Ty.dflt ZN)) ns) (Tr.br (Nat.ble (List.length (glueV (List.getD l2 (Int.toNat i) (Ty.dflt ZN)) ns)) 1000000) (Tr.br (!decide (glueV (List.getD l2 (Int.toNat i) (Ty.dflt ZN)) ns = glueV (List.getD l (Int.toNat i) (Ty.dflt ZN)) ns)) (Tr.ret (Sum.inr (Ex.ret, stOf [0, 1, 6, 7, 8] [AV.list ZN l, AV.str n, AV.bool false, AV.bool up, AV.list ZN l2] []))) (Tr.ret (Sum.inl (stOf [0, 1, 2, 7, 8, 9] [AV.list ZN l, AV.str n, AV.list RR ns, AV.bool up, AV.list ZN l2, AV.int IntKind.i64 (IntKind.wrap IntKind.i64 (i + (1 : Int)))] [])))) Tr.no) Tr.no) Tr.no) Tr.no) Tr.no) Tr.no) Tr.no)) Tr.no) Tr.no) Tr.no) Tr.no) Tr.no) Tr.no))) Tr.no) Tr.no) Tr.no) Tr.no) Tr.no) Tr.no) (Tr.ret (Sum.inr (Ex.exit 0, stOf [0, 1, 6, 7, 8] [AV.list ZN l, AV.str n, AV.dead, AV.bool up, AV.list ZN l2] [])))
set_option maxRecDepth 1000000 in
theorem round3 (lp : Lp) (l : List (List UInt8 × List (List UInt8 × (Int × (Int × (Int × List UInt8)))))) (n : List UInt8) (ns : List (List UInt8 × (Int × (Int × (Int × List UInt8))))) (up : Bool) (l2 : List (List UInt8 × List (List UInt8 × (Int × (Int × (Int × List UInt8)))))) (i : Int) : evC T0 (orcB [fs14w, fs15w, fs16w, fs17w, fs18w, fs19w, fs20w, fs22w, fs23w, fs21w, fs24w, fs25w] []) lp b3 0 (stOf [0, 1, 2, 7, 8, 9] [.list ZN l, .str n, .list RR ns, .bool up, .list ZN l2, .int .i64 i] []) (roundK [0, 1, 2, 7, 8, 9] [0, 1, 6, 7, 8] 0) = (r3 l n ns up l2 i).get := by kernel_rfl
theorem wf3 (l : List (List UInt8 × List (List UInt8 × (Int × (Int × (Int × List UInt8)))))) (n : List UInt8) (ns : List (List UInt8 × (Int × (Int × (Int × List UInt8))))) (up : Bool) (l2 : List (List UInt8 × List (List UInt8 × (Int × (Int × (Int × List UInt8)))))) (I'' : Int → Prop) (m'' : Int → Nat) (r'' : Ex × St) (h : ∀ (i : Int), I'' i → (r3 l n ns up l2 i).all fun x'' => x'' = .inr r'' ∨ ∃ (i' : Int), x'' = .inl (stOf [0, 1, 2, 7, 8, 9] [.list ZN l, .str n, .list RR ns, .bool up, .list ZN l2, .int .i64 i'] []) ∧ I'' i' ∧ m'' i' < m'' i) (lp : Lp) (i : Int) : I'' i →
    loopF (fun st => evC T0 (orcB [fs14w, fs15w, fs16w, fs17w, fs18w, fs19w, fs20w, fs22w, fs23w, fs21w, fs24w, fs25w] []) lp b3 0 st (roundK [0, 1, 2, 7, 8, 9] [0, 1, 6, 7, 8] 0)) (stOf [0, 1, 2, 7, 8, 9] [.list ZN l, .str n, .list RR ns, .bool up, .list ZN l2, .int .i64 i] []) = some r'' :=
  loop_tr (fun a'' : Int => stOf [0, 1, 2, 7, 8, 9] [.list ZN l, .str n, .list RR ns, .bool up, .list ZN l2, .int .i64 a''] []) (fun a'' => I'' a'') (fun a'' => m'' a'') r'' (fun a'' => r3 l n ns up l2 a'')
    (fun a'' x hx => (round3 lp l n ns up l2 a'').trans hx) (fun a'' ha => Tr.all_mono (fun x'' hx => hx.imp id fun ⟨i', h1, h2, h3⟩ => ⟨(i'), h1, h2, h3⟩) (h (a'') ha)) (i)
theorem loop3 : ls3.Ok T0 (orcB [fs14w, fs15w, fs16w, fs17w, fs18w, fs19w, fs20w, fs22w, fs23w, fs21w, fs24w, fs25w] []) h3 0 0 b3 := by
  intro q'' hq'' x'' y'' r'' h
  obtain ⟨(l : List (List UInt8 × List (List UInt8 × (Int × (Int × (Int × List UInt8)))))), (n : List UInt8), (ns : List (List UInt8 × (Int × (Int × (Int × List UInt8))))), (up : Bool), (l2 : List (List UInt8 × List (List UInt8 × (Int × (Int × (Int × List UInt8)))))), (i : Int), _⟩ := x''
  obtain ⟨hc, rfl⟩ := Tr.get_on h
  show loopF (fun st => evC T0 (orcB [fs14w, fs15w, fs16w, fs17w, fs18w, fs19w, fs20w, fs22w, fs23w, fs21w, fs24w, fs25w] []) (lpN T0 (orcB [fs14w, fs15w, fs16w, fs17w, fs18w, fs19w, fs20w, fs22w, fs23w, fs21w, fs24w, fs25w] []) h3 0 q'') b3 0 st (roundK [0, 1, 2, 7, 8, 9] [0, 1, 6, 7, 8] 0)) (stOf [0, 1, 2, 7, 8, 9] [.list ZN l, .str n, .list RR ns, .bool up, .list ZN l2, .int .i64 i] []) = some (.exit 0, stOf [0, 1, 6, 7, 8] ([.list ZN l, .str n, .dead, .bool up, .list ZN l2]) ([]))
  simp only [ztC, Bool.and_eq_true, decide_eq_true_eq] at hc
  obtain ⟨hl, hns, hn, rfl, rfl⟩ := hc
  obtain ⟨hl8, hzs⟩ := fewZ_iff.1 hl
  obtain ⟨n1, _, n3⟩ := znFew_iff.1 ((fewZ_iff.1 hns).2 (([] : List UInt8), ns) (by simp))
  have n3 := rrFew_iff.1 n3
  simp only at n1 n3
  refine wf3 l2 n ns up l2 (fun i => 0 ≤ i ∧ i ≤ l2.length) (fun i => (l2.length - i).toNat) _ ?_ _ 0 ⟨by omega, by omega⟩
  rintro i ⟨h0, h1⟩
  unfold r3
  rw [wrap_succ h0 h1 (by omega)]
  by_cases hi : i < l2.length
  · have hz := hzs _ (mem_getD (l := l2) (k := i.toNat) (by omega) (Ty.dflt ZN))
    generalize l2.getD i.toNat (Ty.dflt ZN) = z at *
    have h1 := znFew_ok hz
    unfold zOk at h1
    rw [Bool.and_eq_true] at h1
    have hzn : (smZ z && smN n) = true := by rw [h1.1, hn]; rfl
    have hg := rr_gn (ns := ns) hz (by omega) fun r hr => (n3 r hr).2
    have hm : ns.length * z.2.length ≤ 40 * 40 := Nat.mul_le_mul n1 (znFew_iff.1 hz).1
    have hlen := glueV_len (z := z) (ns := ns)
    have hble : Nat.ble (glueV z ns).length 1000000 = true := Nat.ble_eq_true_of_le (by omega)
    repeat (first | refine Tr.all_t (dec_true hi) ?_ | refine Tr.all_t (dec_true h0) ?_ | refine Tr.all_t hzn ?_ | refine Tr.all_t hg ?_ | refine Tr.all_t hble ?_ | refine Tr.all_f (by simp) ?_)
    exact Tr.all_ret (.inr ⟨_, rfl, ⟨by omega, by omega⟩, by omega⟩)
  · exact Tr.all_f (dec_false hi) (Tr.all_ret (.inl rfl))
def t3 (l : List (List UInt8 × List (List UInt8 × (Int × (Int × (Int × List UInt8)))))) (n : List UInt8) (ns : List (List UInt8 × (Int × (Int × (Int × List UInt8))))) : Tr Res := Tr.br (!fewZ l) (Tr.ret ([AV.bool true], [])) (Tr.br (decide ((↑(List.length n) : Int) > (300 : Int))) (Tr.ret ([AV.bool true], [])) (Tr.br (decide ((↑(List.length ns) : Int) > (40 : Int))) (Tr.ret ([AV.bool true], [])) (Tr.br (!fewZ [([], ns)]) (Tr.ret ([AV.bool true], [])) (Tr.br (Nat.ble (List.length l) 1000000) (Tr.br (ztC l l n ns (0 : Int)) (Tr.br (smL l && smN n) (Tr.br (smL l && smN n) (Tr.ret ([AV.bool (bestV l n == bestV l n)], [])) Tr.no) Tr.no) Tr.no) Tr.no))))
def os3 : OSpec := { f := 3, sh := [.d (.list ZN) false, .d .str false, .d (.list RR) false], so := [], F := fun (l, n, ns, _) _ => t3 l n ns }
set_option maxRecDepth 1000000 in
theorem fn3 (l : List (List UInt8 × List (List UInt8 × (Int × (Int × (Int × List UInt8)))))) (n : List UInt8) (ns : List (List UInt8 × (Int × (Int × (Int × List UInt8))))) : evC T0 (orcB [fs14w, fs15w, fs16w, fs17w, fs18w, fs19w, fs20w, fs22w, fs23w, fs21w, fs24w, fs25w] []) (lpOf h3 0 (lsOf [ls3])) c3 1000000 (startSt [.list ZN l, .str n, .list RR ns] [] Try.f3.ntmps) (finishK T0 false 0 Try.f3) = (t3 l n ns).get := by kernel_rfl
theorem ok3 : os3.Ok Try.prog := by
  refine os_ok mixed0 tab0 (orcB_sound (all_cons okf14w (all_cons okf15w (all_cons okf16w (all_cons okf17w (all_cons okf18w (all_cons okf19w (all_cons okf20w (all_cons okf22w (all_cons okf23w (all_cons okf21w (all_cons okf24w (all_cons okf25w all_nil)))))))))))) all_nil) h3 (d := 0) (n0 := 0) (S := lsOf [ls3]) Try.func3 (by kernel_rfl) (c := c3) (by kernel_rfl) rfl (loops_eq (xs := [(0, b3)]) (by kernel_rfl) (all_cons (ls_here loop3) all_nil)) (by omega) (by kernel_rfl) ?_
  intro x'' y'' q'' hq''
  obtain ⟨(l : List (List UInt8 × List (List UInt8 × (Int × (Int × (Int × List UInt8)))))), (n : List UInt8), (ns : List (List UInt8 × (Int × (Int × (Int × List UInt8))))), _⟩ := x''
  exact (fn3 l n ns).trans hq''
theorem zoneTells_all (l : List ZNt) (n : List UInt8) (ns : List RRt) : Tr.all (fun r : Res => r = ([.bool true], [])) (t3 l n ns) := by
  unfold t3
  refine Tr.all_br (fun _ => Tr.all_ret rfl) fun h1 => Tr.all_br (fun _ => Tr.all_ret rfl) fun h2 => Tr.all_br (fun _ => Tr.all_ret rfl) fun h3 => Tr.all_br (fun _ => Tr.all_ret rfl) fun h4 => ?_
  have h2 := of_decide_eq_false h2
  have hl := few_zs (not_f h1)
  have hn : smN n = true := smN_iff.2 (by omega)
  have hln : (smL l && smN n) = true := by rw [zsOk_L hl, hn]; rfl
  have hl8 := (fewZ_iff.1 (not_f h1)).1
  refine Tr.all_t (Nat.ble_eq_true_of_le (by omega)) (Tr.all_t ?_ (Tr.all_t hln (Tr.all_t hln (Tr.all_ret (by rw [beq_self_eq_true])))))
  unfold ztC
  rw [not_f h1, not_f h4, hn, decide_eq_true rfl, decide_eq_true rfl]
  rfl
theorem sem3 (l : List ZNt) (n : List UInt8) (ns : List RRt) : SemF Try.prog 3 [.list ZN l, .str n, .list RR ns] [] [.bool true] [] :=
  ok3 (l, n, ns, ()) () ([.bool true], []) (Tr.get_of_all (zoneTells_all l n ns))
end Go.Proofs.YtkobjdhbfepkaaaE
namespace Go.Proofs.Ytkobjdhbfepkaaa.zoneTells
open Go.ChangeShapes Go.WideShapes Go.ChangeAt Go.RowKit Go.Proofs.YtkobjdhbfepkaaaE
open Go.ChangeMaps (open_string shut_string)
set_option linter.unusedVariables false
theorem own : ownKnob Try.prog.godebug = none := by kernel_rfl
theorem laidOut : laidOutB Try.prog = true := by kernel_rfl
set_option maxRecDepth 100000 in
theorem lifted (os : Os) (started : os.Started) (H : Type) (enc : TypeId × Value → H) :
    ReturnsInHanded {} Try.checked os 3 .any (Rows.zoneTellsSpec.pre6 enc Try.prog Try.f3 Rows.zoneTellsRow.domain false) (Rows.zoneTellsSpec.post enc Try.prog Try.f3 false true false false) := by
  refine returnsInHanded_of_change_sized (C := Try.checked) own started (by kernel_rfl) Try.func3
    (ChangeSpec.witness6 (enc := enc) (C := Try.checked) false ⟨#[], #[.slice none 0 0, .string ByteArray.empty, .slice none 0 0], []⟩ 8 (by kernel_rfl) (by kernel_rfl) (by kernel_rfl) (by kernel_rfl)) ?_
  intro W base args ds gs before hval0 hW hcnd hsz0 _
  have hsz : ∀ n ∈ DataW.weightsEach Try.prog (Try.f3.params.toList ++ Rows.zoneTellsSpec.plain.varTypes Try.prog) (ds ++ gs), n ≤ reachBytes := fun n hn => of_decide_eq_true (List.all_eq_true.1 hsz0 n hn)
  have hval : ∀ (j : Nat) t v, Try.f3.params[j]? = some t → args[j]? = some v → Value.okWide Try.prog W .any base t v := hval0
  have hW' := hW
  obtain ⟨p, q, hA0, hV, rfl, hfz, hnd⟩ := hW
  have hA : DataW.TrodAll enc Try.prog W 0 (fun _ => true) true Try.f3.params.toList args.toList ds p := hA0
  rw [Try.params3] at hA hval hsz
  obtain ⟨v0, vs0, d0, ds0, p0, q0, hargs, rfl, rfl, k0, r0⟩ := trodAll_cons hA
  obtain ⟨v1, vs1, d1, ds1, p1, q1, rfl, rfl, rfl, k1, r1⟩ := trodAll_cons r0
  obtain ⟨v2, vs2, d2, ds2, p2, q2, rfl, rfl, rfl, k2, r2⟩ := trodAll_cons r1
  obtain ⟨rfl, rfl, rfl⟩ := trodAll_nil r2
  obtain rfl : args = #[v0, v1, v2] := by cases args; simp_all
  obtain ⟨rfl, rfl⟩ := trodVars_none hV
  have lt0 : ∀ x ∈ p0, x.block < W.heap.size := by obtain ⟨m, hm⟩ := k0; exact DataW.trod_lt m _ _ _ hm
  obtain ⟨x0, e0, w0, b0⟩ := arg_told (n := 8) (τ := (.list (.pair .str (.list (.pair .str (.pair (.int .u16) (.pair (.int .u16) (.pair (.int .u32) .str)))))))) (agg := false) (by kernel_rfl) (hval 0 22 v0 rfl rfl) k0 (fun n hn => hsz n (DataW.weights_mem_each (j := 0) (t := 22) rfl rfl n hn)) (by kernel_rfl)
  have lt1 : ∀ x ∈ p1, x.block < W.heap.size := by obtain ⟨m, hm⟩ := k1; exact DataW.trod_lt m _ _ _ hm
  obtain ⟨x1, e1, w1, b1⟩ := arg_told (n := 8) (τ := .str) (agg := false) (by kernel_rfl) (hval 1 9 v1 rfl rfl) k1 (fun n hn => hsz n (DataW.weights_mem_each (j := 1) (t := 9) rfl rfl n hn)) (by kernel_rfl)
  have lt2 : ∀ x ∈ p2, x.block < W.heap.size := by obtain ⟨m, hm⟩ := k2; exact DataW.trod_lt m _ _ _ hm
  obtain ⟨x2, e2, w2, b2⟩ := arg_told (n := 8) (τ := (.list (.pair .str (.pair (.int .u16) (.pair (.int .u16) (.pair (.int .u32) .str)))))) (agg := false) (by kernel_rfl) (hval 2 23 v2 rfl rfl) k2 (fun n hn => hsz n (DataW.weights_mem_each (j := 2) (t := 23) rfl rfl n hn)) (by kernel_rfl)
  clear hA0 hval0 hsz0 hsz
  refine (law_calls ((fun l n ns _ _ _ => sem3 l n ns) x0 x1 x2 w0 w1 w2) W (vs := [v0, v1, v2]) ?_).mono fun e W' ⟨he, bel⟩ => ?_
  · simp only [VRelL]
    exact ⟨_, _, rfl, e0, ⟨_, _, rfl, e1, ⟨_, _, rfl, e2, rfl⟩⟩⟩
  subst he
  exact ⟨_, rfl, _, _, _, [], _, [], hW', trodAll_mk1 (shut_bool Try.underlying4 _), (trodAll_cons_mk (Below.trod laidOut (by kernel_rfl) (of_decide_eq_true (by kernel_rfl)) k0 bel lt0) (trodAll_cons_mk (Below.trod laidOut (by kernel_rfl) (of_decide_eq_true (by kernel_rfl)) k1 bel lt1) (trodAll_cons_mk (Below.trod laidOut (by kernel_rfl) (of_decide_eq_true (by kernel_rfl)) k2 bel lt2) trodAll_mk0))), rfl, bel.frame _, fun h => by cases h⟩
theorem over : Rows.zoneTellsRow.holds Try.pinned (OpenSpec.ofChange Rows.zoneTellsSpec) :=
  OpenClaim.holds_of_wide 3 Try.f3 rfl rfl rfl rfl rfl rfl rfl ⟨rfl, rfl, rfl, rfl, rfl⟩ rfl rfl rfl rfl rfl (by kernel_rfl) Try.func3 (by kernel_rfl)
    (of_decide_eq_true (by kernel_rfl)) (by unfold Func.isWrapper; first | (rw [if_pos (by decide +kernel)]; kernel_rfl) | (rw [if_neg (by decide +kernel)]; exact ⟨rfl, rfl⟩))
    (fun os started H enc _ => lifted os started H enc)
theorem proved : Rows.ZoneTellsSaid := over
end Go.Proofs.Ytkobjdhbfepkaaa.zoneTells
namespace Go.Proofs.Ytkobjdhbfepkaaa
/-- The row, under a short name, for the claim. -/
theorem zoneTells_holds : Rows.ZoneTellsSaid := zoneTells.proved
#print axioms zoneTells_holds
end Go.Proofs.Ytkobjdhbfepkaaa
