/- few; WireShort; WireSized. -/
import Derived.Test.YtfepkpindchleaaQ7
import Derived.Test.YtfepkpindchleaaW12
import Derived.Test.YtfepkpindchleaaW13
namespace Go.Proofs.YtfepkpindchleaaE
open Go Go.Proofs.YtfepkpindchleaaB
set_option linter.unusedVariables false
set_option linter.unusedSimpArgs false
noncomputable def b21 : Code := nthLoop c21 0
def ls21 : LoopSpec := { bid := 0, sh := [.d (.list (.pair .str .bool)) false, .d (.int .i64) false], so := [], F := fun (l, i, _) _ => .on2 (decide (i = 0)) ((l.take 41).all (fun x => decide (x.1.length ≤ 400))) (.exit 0, [AV.list (.pair .str .bool) l, .dead], []) (.ret, [AV.list (.pair .str .bool) l, .bool false], []) }
def r21 (l : List (List UInt8 × Bool)) (i : Int) : Tr (St ⊕ (Ex × St)) := Tr.br (decide (i < (↑(List.length l) : Int))) (Tr.br (decide (i < (41 : Int))) (Tr.br (decide ((0 : Int) ≤ i)) (Tr.br (decide (i < (↑(List.length l) : Int))) (Tr.br (decide ((↑(List.length (Prod.fst (List.getD l (Int.toNat i) (Ty.dflt (Ty.pair Ty.str Ty.bool))))) : Int) > (400 : Int))) (Tr.ret (Sum.inr (Ex.ret, stOf [0, 2] [AV.list (Ty.pair Ty.str Ty.bool) l, AV.bool false] []))) (Tr.ret (Sum.inl (stOf [0, 3] [AV.list (Ty.pair Ty.str Ty.bool) l, AV.int IntKind.i64 (IntKind.wrap IntKind.i64 (i + (1 : Int)))] [])))) Tr.no) Tr.no) (Tr.ret (Sum.inr (Ex.exit 0, stOf [0, 2] [AV.list (Ty.pair Ty.str Ty.bool) l, AV.dead] [])))) (Tr.ret (Sum.inr (Ex.exit 0, stOf [0, 2] [AV.list (Ty.pair Ty.str Ty.bool) l, AV.dead] [])))
set_option maxRecDepth 1000000 in
theorem round21 (orc : Orc) (lp : Lp) (l : List (List UInt8 × Bool)) (i : Int) : evC T0 orc lp b21 0 (stOf [0, 3] [.list (.pair .str .bool) l, .int .i64 i] []) (roundK [0, 3] [0, 2] 0) = (r21 l i).get := by kernel_rfl
theorem wf21 (orc : Orc) (l : List (List UInt8 × Bool)) (I'' : Int → Prop) (m'' : Int → Nat) (r'' : Ex × St) (h : ∀ (i : Int), I'' i → (r21 l i).all fun x'' => x'' = .inr r'' ∨ ∃ (i' : Int), x'' = .inl (stOf [0, 3] [.list (.pair .str .bool) l, .int .i64 i'] []) ∧ I'' i' ∧ m'' i' < m'' i) (lp : Lp) (i : Int) : I'' i →
    loopF (fun st => evC T0 orc lp b21 0 st (roundK [0, 3] [0, 2] 0)) (stOf [0, 3] [.list (.pair .str .bool) l, .int .i64 i] []) = some r'' :=
  loop_tr (fun a'' : Int => stOf [0, 3] [.list (.pair .str .bool) l, .int .i64 a''] []) (fun a'' => I'' a'') (fun a'' => m'' a'') r'' (fun a'' => r21 l a'')
    (fun a'' x hx => (round21 orc lp l a'').trans hx) (fun a'' ha => Tr.all_mono (fun x'' hx => hx.imp id fun ⟨i', h1, h2, h3⟩ => ⟨(i'), h1, h2, h3⟩) (h (a'') ha)) (i)
theorem loop21 (orc : Orc) : ls21.Ok T0 orc h21 0 0 b21 := by
  intro q'' hq'' x'' y'' r'' h
  obtain ⟨(l : List (List UInt8 × Bool)), (i : Int), _⟩ := x''
  obtain ⟨hc, rfl⟩ := Tr.get_on2 h
  show loopF (fun st => evC T0 orc (lpN T0 orc h21 0 q'') b21 0 st (roundK [0, 3] [0, 2] 0)) (stOf [0, 3] [.list (.pair .str .bool) l, .int .i64 i] []) = some ((bif (l.take 41).all (fun x => decide (x.1.length ≤ 400)) then (.exit 0, [AV.list (.pair .str .bool) l, .dead], []) else (.ret, [AV.list (.pair .str .bool) l, .bool false], []) : Ex × List AV × List LObj).1, stOf [0, 2] (bif (l.take 41).all (fun x => decide (x.1.length ≤ 400)) then (.exit 0, [AV.list (.pair .str .bool) l, .dead], []) else (.ret, [AV.list (.pair .str .bool) l, .bool false], []) : Ex × List AV × List LObj).2.1 (bif (l.take 41).all (fun x => decide (x.1.length ≤ 400)) then (.exit 0, [AV.list (.pair .str .bool) l, .dead], []) else (.ret, [AV.list (.pair .str .bool) l, .bool false], []) : Ex × List AV × List LObj).2.2)
  simp only [decide_eq_true_eq] at hc
  subst hc
  refine wf21 _ l (fun i => 0 ≤ i ∧ i ≤ 41 ∧ (l.take 41).all (fun x => decide (x.1.length ≤ 400)) = ((l.drop i.toNat).take (41 - i.toNat)).all (fun x => decide (x.1.length ≤ 400))) (fun i => (41 - i).toNat) _ ?_ _ 0 ⟨by omega, by omega, by simp⟩
  rintro i ⟨h0, h1, h2⟩
  rw [h2]
  unfold r21
  by_cases hk : i.toNat < l.length
  · by_cases h41 : i < 41
    · have hg : l.getD i.toNat (Ty.dflt (Ty.pair Ty.str Ty.bool)) = l[i.toNat] := by rw [List.getD_eq_getElem?_getD, List.getElem?_eq_getElem hk]; rfl
      rw [List.drop_eq_getElem_cons hk, show 41 - i.toNat = (40 - i.toNat) + 1 by omega, List.take_succ_cons, List.all_cons, hg]
      refine Tr.all_t (dec_true (by omega)) (Tr.all_t (dec_true (by omega)) (Tr.all_t (dec_true h0) (Tr.all_t (dec_true (by omega)) (Tr.all_br (fun c1 => Tr.all_ret (.inl ?_)) fun c1 => Tr.all_ret (.inr ⟨_, rfl, ?_, ?_⟩)))))
      · simp only [decide_eq_true_eq] at c1
        rw [decide_eq_false (by omega), Bool.false_and]
        rfl
      · rw [IntWalk.i64_in _ (by omega)]
        simp only [decide_eq_false_iff_not] at c1
        refine ⟨by omega, by omega, ?_⟩
        rw [decide_eq_true (by omega), Bool.true_and, show (i + 1).toNat = i.toNat + 1 by omega, show 41 - (i.toNat + 1) = 40 - i.toNat by omega]
      · rw [IntWalk.i64_in _ (by omega)]
        omega
    · refine Tr.all_t (dec_true (by omega)) (Tr.all_f (dec_false h41) (Tr.all_ret (.inl ?_)))
      rw [show 41 - i.toNat = 0 by omega]
      simp
  · refine Tr.all_f (dec_false (by omega)) (Tr.all_ret (.inl ?_))
    rw [List.drop_eq_nil_of_le (by omega)]
    simp
/-- derricklaw03.few -/
def t21 (l : List (List UInt8 × Bool)) : Tr Res := Tr.br (List.all (List.take 41 l) fun x ↦ decide (List.length (Prod.fst x) ≤ 400)) (Tr.ret ([AV.bool (decide ((↑(List.length l) : Int) ≤ (40 : Int)))], [])) (Tr.ret ([AV.bool false], []))
def os21 : OSpec := { f := 21, sh := [.d (.list (.pair .str .bool)) false], so := [], F := fun (l, _) _ => t21 l }
set_option maxRecDepth 1000000 in
theorem fn21 (l : List (List UInt8 × Bool)) : evC T0 (orcB [] []) (lpOf h21 0 (lsOf [ls21])) c21 1000000 (startSt [.list (.pair .str .bool) l] [] Try.f21.ntmps) (finishK T0 false 0 Try.f21) = (t21 l).get := by kernel_rfl
theorem ok21 : os21.Ok Try.prog := by
  refine os_ok mixed0 tab0 (orcB_sound all_nil all_nil) h21 (d := 0) (n0 := 0) (S := lsOf [ls21]) Try.func21 (by kernel_rfl) (c := c21) (by kernel_rfl) rfl (loops_eq (xs := [(0, b21)]) (by kernel_rfl) (all_cons (ls_here (loop21 _)) all_nil)) (by omega) (by kernel_rfl) ?_
  intro x'' y'' q'' hq''
  obtain ⟨(l : List (List UInt8 × Bool)), _⟩ := x''
  exact (fn21 l).trans hq''
def fs21 : FSpec := fsT 21 [((.list (.pair .str .bool)), false)] [(.bool, false)] fun (l, _) => t21 l
theorem okf21 : fs21.Ok Try.prog := fsT_ok fun x'' r'' hr'' => ok21 x'' () r'' hr''
def fs21w : FSpec := fs21.like fun (l, _) => .ret (fewB l, ())
theorem okf21w : fs21w.Ok Try.prog := by
  refine flike_ok okf21 _ ?_
  rintro ⟨(l : List (List UInt8 × Bool)), _⟩ y h
  cases h
  refine convR_of (vs := [.bool (fewB l)]) rfl rfl (Tr.get_of_all ?_)
  show (t21 l).all _
  unfold t21 fewB
  refine Tr.all_br (fun c1 => Tr.all_ret ?_) fun c1 => Tr.all_ret ?_
  · rw [c1, Bool.true_and]
    congr 3
    rw [Bool.eq_iff_iff]
    simp
    omega
  · rw [c1]
    rfl
def ls24q : LoopSpec := { bid := 0, sh := [], so := [], F := fun _ _ => .no }
theorem loop24q (orc : Orc) : ls24q.Ok T0 orc h24 0 0 b24 := by
  intro q'' hq'' x'' y'' r'' h
  cases h
/-- (*wire.Pack).Name -/
def t24z (n : List UInt8) : Tr Res := Tr.ret ([AV.int IntKind.i64 (1 : Int)], [])
def os24z : OSpec := { f := 24, sh := [.np, .d .str false], so := [], F := fun (n, _) _ => t24z n }
set_option maxRecDepth 1000000 in
theorem fn24z (n : List UInt8) : evC T0 (orcB [fs42w, fs29w] [os22]) (lpOf h24 0 (lsOf [ls24q])) c24 1000000 (startSt [.np, .str n] [] Try.f24.ntmps) (finishK T0 false 0 Try.f24) = (t24z n).get := by kernel_rfl
theorem ok24z : os24z.Ok Try.prog := by
  refine os_ok mixed0 tab0 (orcB_sound (all_cons okf42w (all_cons okf29w all_nil)) (all_cons ok22 all_nil)) h24 (d := 0) (n0 := 0) (S := lsOf [ls24q]) Try.func24 (by kernel_rfl) (c := c24) (by kernel_rfl) rfl (loops_eq (xs := [(0, b24)]) (by kernel_rfl) (all_cons (ls_here (loop24q _)) all_nil)) (by omega) (by kernel_rfl) ?_
  intro x'' y'' q'' hq''
  obtain ⟨(n : List UInt8), _⟩ := x''
  exact (fn24z n).trans hq''
-- derricklaw03.WireShort: loop 0 keeps [0, 1, 5, 6, 7], [1, 4, 5, 6]
def p0C (b : List Int) (m : Known) : Bool := b.isEmpty && m.isEmpty
noncomputable def b9 : Code := nthLoop c9 0
def ls9 : LoopSpec := { bid := 0, sh := [.d (.list (.pair .str .bool)) false, .d .str false, .d .bool false, .ptr 0 0, .d (.int .i64) false], so := [.box [.row 1, .mp 2], .row (.int .u8), .map .str (.int .i64)], F := fun (l, n, up, i, _) (_, b, m, _) => .on (fewB l && (decide (i = 0) && p0C b m)) (.exit 0, [.str n, .dead, .bool up, .ptr 0 0], [.box [.rowA 1, .mp 2], .row (.int .u8) (bytesInt (l.foldl stN ([], [])).1), .mpo .str (.int .i64) (l.foldl stN ([], [])).2]) }
def r9 (l : List (List UInt8 × Bool)) (n : List UInt8) (up : Bool) (i : Int) (b : List Int) (m : List (List UInt8 × Int)) : Tr (St ⊕ (Ex × St)) := Tr.br (decide (i < (↑(List.length l) : Int))) (Tr.br (decide ((0 : Int) ≤ i)) (Tr.br (decide (i < (↑(List.length l) : Int))) (Tr.br (pkC b m && Nat.ble (List.length (Prod.fst (List.getD l (Int.toNat i) (Ty.dflt (Ty.pair Ty.str Ty.bool))))) 100000000000) (Tr.br (mayV (Prod.fst (List.getD l (Int.toNat i) (Ty.dflt (Ty.pair Ty.str Ty.bool))))) (Tr.br (decide ((0 : Int) ≤ i)) (Tr.br (decide (i < (↑(List.length l) : Int))) (Tr.br (decide ((↑(List.length (bytesInt (Prod.fst (nameP (Prod.fst (List.getD l (Int.toNat i) (Ty.dflt (Ty.pair Ty.str Ty.bool)))) (intBytes b) m)))) : Int) > IntKind.wrap IntKind.i64 ((↑(List.length b) : Int) + (↑(List.length (Prod.fst (List.getD l (Int.toNat i) (Ty.dflt (Ty.pair Ty.str Ty.bool))))) : Int)))) (Tr.ret (Sum.inr (Ex.ret, stOf [1, 4, 5, 6] [AV.str n, AV.bool false, AV.bool up, AV.ptr 0 0] [LObj.boxT none [AV.rowA 1, AV.mp 2], LObj.row (Ty.int IntKind.u8) (bytesInt (Prod.fst (nameP (Prod.fst (List.getD l (Int.toNat i) (Ty.dflt (Ty.pair Ty.str Ty.bool)))) (intBytes b) m))), LObj.mpo Ty.str (Ty.int IntKind.i64) (Prod.snd (nameP (Prod.fst (List.getD l (Int.toNat i) (Ty.dflt (Ty.pair Ty.str Ty.bool)))) (intBytes b) m))]))) (Tr.ret (Sum.inl (stOf [0, 1, 5, 6, 7] [AV.list (Ty.pair Ty.str Ty.bool) l, AV.str n, AV.bool up, AV.ptr 0 0, AV.int IntKind.i64 (IntKind.wrap IntKind.i64 (i + (1 : Int)))] [LObj.boxT none [AV.rowA 1, AV.mp 2], LObj.row (Ty.int IntKind.u8) (bytesInt (Prod.fst (nameP (Prod.fst (List.getD l (Int.toNat i) (Ty.dflt (Ty.pair Ty.str Ty.bool)))) (intBytes b) m))), LObj.mpo Ty.str (Ty.int IntKind.i64) (Prod.snd (nameP (Prod.fst (List.getD l (Int.toNat i) (Ty.dflt (Ty.pair Ty.str Ty.bool)))) (intBytes b) m))])))) Tr.no) Tr.no) (Tr.br ((↑(List.length b) : Int) != (↑(List.length b) : Int)) (Tr.ret (Sum.inr (Ex.ret, stOf [1, 4, 5, 6] [AV.str n, AV.bool false, AV.bool up, AV.ptr 0 0] [LObj.boxT none [AV.rowA 1, AV.mp 2], LObj.row (Ty.int IntKind.u8) b, LObj.mpo Ty.str (Ty.int IntKind.i64) m]))) (Tr.ret (Sum.inl (stOf [0, 1, 5, 6, 7] [AV.list (Ty.pair Ty.str Ty.bool) l, AV.str n, AV.bool up, AV.ptr 0 0, AV.int IntKind.i64 (IntKind.wrap IntKind.i64 (i + (1 : Int)))] [LObj.boxT none [AV.rowA 1, AV.mp 2], LObj.row (Ty.int IntKind.u8) b, LObj.mpo Ty.str (Ty.int IntKind.i64) m]))))) Tr.no) Tr.no) Tr.no) (Tr.ret (Sum.inr (Ex.exit 0, stOf [1, 4, 5, 6] [AV.str n, AV.dead, AV.bool up, AV.ptr 0 0] [LObj.boxT none [AV.rowA 1, AV.mp 2], LObj.row (Ty.int IntKind.u8) b, LObj.mpo Ty.str (Ty.int IntKind.i64) m])))
set_option maxRecDepth 1000000 in
theorem round9 (lp : Lp) (l : List (List UInt8 × Bool)) (n : List UInt8) (up : Bool) (i : Int) (b : List Int) (m : List (List UInt8 × Int)) : evC T0 (orcB [fs20w, fs21w, fs29w] [os16, os24w, os24z, os26, os26z, os22z, os19z, os30z, os31z]) lp b9 0 (stOf [0, 1, 5, 6, 7] [.list (.pair .str .bool) l, .str n, .bool up, .ptr 0 0, .int .i64 i] [.box [.rowA 1, .mp 2], .row (.int .u8) b, .mpo .str (.int .i64) m]) (roundK [0, 1, 5, 6, 7] [1, 4, 5, 6] 0) = (r9 l n up i b m).get := by kernel_rfl
theorem wf9 (l : List (List UInt8 × Bool)) (n : List UInt8) (up : Bool) (I'' : Int → List Int → List (List UInt8 × Int) → Prop) (m'' : Int → List Int → List (List UInt8 × Int) → Nat) (r'' : Ex × St) (h : ∀ (i : Int) (b : List Int) (m : List (List UInt8 × Int)), I'' i b m → (r9 l n up i b m).all fun x'' => x'' = .inr r'' ∨ ∃ (i' : Int) (b' : List Int) (m' : List (List UInt8 × Int)), x'' = .inl (stOf [0, 1, 5, 6, 7] [.list (.pair .str .bool) l, .str n, .bool up, .ptr 0 0, .int .i64 i'] [.box [.rowA 1, .mp 2], .row (.int .u8) b', .mpo .str (.int .i64) m']) ∧ I'' i' b' m' ∧ m'' i' b' m' < m'' i b m) (lp : Lp) (i : Int) (b : List Int) (m : List (List UInt8 × Int)) : I'' i b m →
    loopF (fun st => evC T0 (orcB [fs20w, fs21w, fs29w] [os16, os24w, os24z, os26, os26z, os22z, os19z, os30z, os31z]) lp b9 0 st (roundK [0, 1, 5, 6, 7] [1, 4, 5, 6] 0)) (stOf [0, 1, 5, 6, 7] [.list (.pair .str .bool) l, .str n, .bool up, .ptr 0 0, .int .i64 i] [.box [.rowA 1, .mp 2], .row (.int .u8) b, .mpo .str (.int .i64) m]) = some r'' :=
  loop_tr (fun a'' : Int × List Int × List (List UInt8 × Int) => stOf [0, 1, 5, 6, 7] [.list (.pair .str .bool) l, .str n, .bool up, .ptr 0 0, .int .i64 a''.1] [.box [.rowA 1, .mp 2], .row (.int .u8) a''.2.1, .mpo .str (.int .i64) a''.2.2]) (fun a'' => I'' a''.1 a''.2.1 a''.2.2) (fun a'' => m'' a''.1 a''.2.1 a''.2.2) r'' (fun a'' => r9 l n up a''.1 a''.2.1 a''.2.2)
    (fun a'' x hx => (round9 lp l n up a''.1 a''.2.1 a''.2.2).trans hx) (fun a'' ha => Tr.all_mono (fun x'' hx => hx.imp id fun ⟨i', b', m', h1, h2, h3⟩ => ⟨(i', b', m'), h1, h2, h3⟩) (h (a''.1) (a''.2.1) (a''.2.2) ha)) (i, b, m)
def shI (l : Parts) (i : Int) (b : List Int) (m : Known) : Prop := 0 ≤ i ∧ i ≤ l.length ∧ ∃ p : PKt, b = bytesInt p.1 ∧ m = p.2 ∧ GoodP i.toNat p ∧ (l.drop i.toNat).foldl stN p = l.foldl stN ([], [])
theorem loop9 : ls9.Ok T0 (orcB [fs20w, fs21w, fs29w] [os16, os24w, os24z, os26, os26z, os22z, os19z, os30z, os31z]) h9 0 0 b9 := by
  intro q'' hq'' x'' y'' r'' h
  obtain ⟨(l : List (List UInt8 × Bool)), (n : List UInt8), (up : Bool), (i : Int), _⟩ := x''
  obtain ⟨_, (b : List Int), (m : List (List UInt8 × Int)), _⟩ := y''
  obtain ⟨hc, rfl⟩ := Tr.get_on h
  show loopF (fun st => evC T0 (orcB [fs20w, fs21w, fs29w] [os16, os24w, os24z, os26, os26z, os22z, os19z, os30z, os31z]) (lpN T0 (orcB [fs20w, fs21w, fs29w] [os16, os24w, os24z, os26, os26z, os22z, os19z, os30z, os31z]) h9 0 q'') b9 0 st (roundK [0, 1, 5, 6, 7] [1, 4, 5, 6] 0)) (stOf [0, 1, 5, 6, 7] [.list (.pair .str .bool) l, .str n, .bool up, .ptr 0 0, .int .i64 i] [.box [.rowA 1, .mp 2], .row (.int .u8) b, .mpo .str (.int .i64) m]) = some (.exit 0, stOf [1, 4, 5, 6] ([.str n, .dead, .bool up, .ptr 0 0]) ([.box [.rowA 1, .mp 2], .row (.int .u8) (bytesInt (l.foldl stN ([], [])).1), .mpo .str (.int .i64) (l.foldl stN ([], [])).2]))
  simp only [p0C, Bool.and_eq_true, decide_eq_true_eq, List.isEmpty_iff] at hc
  obtain ⟨hf, rfl, rfl, rfl⟩ := hc
  obtain ⟨hl, hx⟩ := fewB_iff.1 hf
  refine wf9 l n up (shI l) (fun i _ _ => (l.length - i).toNat) _ ?_ _ 0 [] [] ⟨by omega, by omega, ([], []), rfl, rfl, good_nil, by simp⟩
  rintro i b m ⟨h0, h1, p, rfl, rfl, hg, hF⟩
  rw [← hF]
  unfold r9
  by_cases hi : i < l.length
  · obtain ⟨d1, d2⟩ := drop_getD (Ty.dflt (Ty.pair Ty.str Ty.bool)) h0 hi
    generalize List.getD l (Int.toNat i) (Ty.dflt (Ty.pair Ty.str Ty.bool)) = x at d1 d2
    have hxl := hx x d2
    rw [d1, List.foldl_cons] at hF
    obtain ⟨g1, g2, _⟩ := stN_good hg hxl
    have g1 : GoodP (i + 1).toNat (stN p x) := by rw [show (i + 1).toNat = i.toNat + 1 by omega]; exact g1
    have hpk := pkC_good hg (by omega)
    have hp := hg.2
    rw [intB_bytes]
    refine Tr.all_t (dec_true hi) (Tr.all_t (dec_true h0) (Tr.all_t (dec_true hi) (Tr.all_t (by rw [hpk, Nat.ble_eq_true_of_le (by omega)]; rfl) (Tr.all_br (fun c1 => Tr.all_t (dec_true h0) (Tr.all_t (dec_true hi) (Tr.all_f ?_ (Tr.all_ret (.inr ?_))))) fun c1 => Tr.all_f (by simp) (Tr.all_ret (.inr ?_))))))
    · unfold stN at g2
      rw [c1, cond_true] at g2
      rw [bytesInt_len, bytesInt_len, IntWalk.i64_in _ (by omega)]
      exact dec_false (by omega)
    · rw [IntWalk.i64_in _ (by omega)]
      have e : stN p x = nameP x.1 p.1 p.2 := by unfold stN; rw [c1]; rfl
      rw [← e]
      exact ⟨_, _, _, rfl, ⟨by omega, by omega, _, rfl, rfl, g1, hF⟩, by omega⟩
    · rw [IntWalk.i64_in _ (by omega)]
      have e : stN p x = p := by unfold stN; rw [c1]; rfl
      rw [e] at hF g1
      exact ⟨_, _, _, rfl, ⟨by omega, by omega, _, rfl, rfl, g1, hF⟩, by omega⟩
  · refine Tr.all_f (dec_false hi) (Tr.all_ret (.inl ?_))
    rw [List.drop_eq_nil_of_le (by omega)]
    rfl
/-- derricklaw03.WireShort -/
def t9 (l : List (List UInt8 × Bool)) (n : List UInt8) : Tr Res := Tr.br (!fewB l) (Tr.ret ([AV.bool true], [])) (Tr.br (bigS n) (Tr.br (!mayV n) (Tr.ret ([AV.bool true], [])) (Tr.br (fewB l && (decide ((0 : Int) = (0 : Ty.den (Ty.int IntKind.i64))) && p0C [] [])) (Tr.br (pkC (bytesInt (Prod.fst (List.foldl stN ([], []) l))) (Prod.snd (List.foldl stN ([], []) l)) && Nat.ble (List.length n) 100000000000) (Tr.br (mayV n) (Tr.br (pkC (bytesInt (Prod.fst (nameP n (intBytes (bytesInt (Prod.fst (List.foldl stN ([], []) l)))) (Prod.snd (List.foldl stN ([], []) l))))) (Prod.snd (nameP n (intBytes (bytesInt (Prod.fst (List.foldl stN ([], []) l)))) (Prod.snd (List.foldl stN ([], []) l)))) && Nat.ble (List.length n) 100000000000) (Tr.br (mayV n) (Tr.br (n == [0]) (Tr.br ((↑(List.length (bytesInt (Prod.fst (nameP n (intBytes (bytesInt (Prod.fst (nameP n (intBytes (bytesInt (Prod.fst (List.foldl stN ([], []) l)))) (Prod.snd (List.foldl stN ([], []) l)))))) (Prod.snd (nameP n (intBytes (bytesInt (Prod.fst (List.foldl stN ([], []) l)))) (Prod.snd (List.foldl stN ([], []) l)))))))) : Int) == IntKind.wrap IntKind.i64 ((↑(List.length (bytesInt (Prod.fst (nameP n (intBytes (bytesInt (Prod.fst (List.foldl stN ([], []) l)))) (Prod.snd (List.foldl stN ([], []) l)))))) : Int) + (1 : Int))) (Tr.ret ([AV.bool ((1 : Int) == (1 : Int))], [])) (Tr.ret ([AV.bool false], []))) (Tr.br ((↑(List.length (bytesInt (Prod.fst (nameP n (intBytes (bytesInt (Prod.fst (nameP n (intBytes (bytesInt (Prod.fst (List.foldl stN ([], []) l)))) (Prod.snd (List.foldl stN ([], []) l)))))) (Prod.snd (nameP n (intBytes (bytesInt (Prod.fst (List.foldl stN ([], []) l)))) (Prod.snd (List.foldl stN ([], []) l)))))))) : Int) == IntKind.wrap IntKind.i64 ((↑(List.length (bytesInt (Prod.fst (nameP n (intBytes (bytesInt (Prod.fst (List.foldl stN ([], []) l)))) (Prod.snd (List.foldl stN ([], []) l)))))) : Int) + (2 : Int))) (Tr.ret ([AV.bool ((1 : Int) == (1 : Int))], [])) (Tr.ret ([AV.bool false], [])))) (Tr.br (n == [0]) (Tr.br ((↑(List.length (bytesInt (Prod.fst (nameP n (intBytes (bytesInt (Prod.fst (List.foldl stN ([], []) l)))) (Prod.snd (List.foldl stN ([], []) l)))))) : Int) == IntKind.wrap IntKind.i64 ((↑(List.length (bytesInt (Prod.fst (nameP n (intBytes (bytesInt (Prod.fst (List.foldl stN ([], []) l)))) (Prod.snd (List.foldl stN ([], []) l)))))) : Int) + (1 : Int))) (Tr.ret ([AV.bool ((1 : Int) == (1 : Int))], [])) (Tr.ret ([AV.bool false], []))) (Tr.br ((↑(List.length (bytesInt (Prod.fst (nameP n (intBytes (bytesInt (Prod.fst (List.foldl stN ([], []) l)))) (Prod.snd (List.foldl stN ([], []) l)))))) : Int) == IntKind.wrap IntKind.i64 ((↑(List.length (bytesInt (Prod.fst (nameP n (intBytes (bytesInt (Prod.fst (List.foldl stN ([], []) l)))) (Prod.snd (List.foldl stN ([], []) l)))))) : Int) + (2 : Int))) (Tr.ret ([AV.bool ((1 : Int) == (1 : Int))], [])) (Tr.ret ([AV.bool false], []))))) Tr.no) (Tr.br (pkC (bytesInt (Prod.fst (List.foldl stN ([], []) l))) (Prod.snd (List.foldl stN ([], []) l)) && Nat.ble (List.length n) 100000000000) (Tr.br (mayV n) (Tr.br (n == [0]) (Tr.br ((↑(List.length (bytesInt (Prod.fst (nameP n (intBytes (bytesInt (Prod.fst (List.foldl stN ([], []) l)))) (Prod.snd (List.foldl stN ([], []) l)))))) : Int) == IntKind.wrap IntKind.i64 ((↑(List.length (bytesInt (Prod.fst (List.foldl stN ([], []) l)))) : Int) + (1 : Int))) (Tr.ret ([AV.bool ((1 : Int) == (1 : Int))], [])) (Tr.ret ([AV.bool false], []))) (Tr.br ((↑(List.length (bytesInt (Prod.fst (nameP n (intBytes (bytesInt (Prod.fst (List.foldl stN ([], []) l)))) (Prod.snd (List.foldl stN ([], []) l)))))) : Int) == IntKind.wrap IntKind.i64 ((↑(List.length (bytesInt (Prod.fst (List.foldl stN ([], []) l)))) : Int) + (2 : Int))) (Tr.ret ([AV.bool ((1 : Int) == (1 : Int))], [])) (Tr.ret ([AV.bool false], [])))) (Tr.br (n == [0]) (Tr.br ((↑(List.length (bytesInt (Prod.fst (List.foldl stN ([], []) l)))) : Int) == IntKind.wrap IntKind.i64 ((↑(List.length (bytesInt (Prod.fst (List.foldl stN ([], []) l)))) : Int) + (1 : Int))) (Tr.ret ([AV.bool ((1 : Int) == (1 : Int))], [])) (Tr.ret ([AV.bool false], []))) (Tr.br ((↑(List.length (bytesInt (Prod.fst (List.foldl stN ([], []) l)))) : Int) == IntKind.wrap IntKind.i64 ((↑(List.length (bytesInt (Prod.fst (List.foldl stN ([], []) l)))) : Int) + (2 : Int))) (Tr.ret ([AV.bool ((1 : Int) == (1 : Int))], [])) (Tr.ret ([AV.bool false], []))))) Tr.no)) Tr.no) Tr.no)) Tr.no)
def os9 : OSpec := { f := 9, sh := [.d (.list (.pair .str .bool)) false, .d .str false], so := [], F := fun (l, n, _) _ => t9 l n }
set_option maxRecDepth 1000000 in
theorem fn9 (l : List (List UInt8 × Bool)) (n : List UInt8) : evC T0 (orcB [fs20w, fs21w, fs29w] [os16, os24w, os24z, os26, os26z, os22z, os19z, os30z, os31z]) (lpOf h9 0 (lsOf [ls9])) c9 1000000 (startSt [.list (.pair .str .bool) l, .str n] [] Try.f9.ntmps) (finishK T0 false 0 Try.f9) = (t9 l n).get := by kernel_rfl
theorem ok9 : os9.Ok Try.prog := by
  refine os_ok mixed0 tab0 (orcB_sound (all_cons okf20w (all_cons okf21w (all_cons okf29w all_nil))) (all_cons ok16 (all_cons ok24w (all_cons ok24z (all_cons ok26 (all_cons ok26z (all_cons ok22z (all_cons ok19z (all_cons ok30z (all_cons ok31z all_nil)))))))))) h9 (d := 0) (n0 := 0) (S := lsOf [ls9]) Try.func9 (by kernel_rfl) (c := c9) (by kernel_rfl) rfl (loops_eq (xs := [(0, b9)]) (by kernel_rfl) (all_cons (ls_here loop9) all_nil)) (by omega) (by kernel_rfl) ?_
  intro x'' y'' q'' hq''
  obtain ⟨(l : List (List UInt8 × Bool)), (n : List UInt8), _⟩ := x''
  exact (fn9 l n).trans hq''
def fs9 : FSpec := fsT 9 [((.list (.pair .str .bool)), false), (.str, false)] [(.bool, false)] fun (l, n, _) => t9 l n
theorem okf9 : fs9.Ok Try.prog := fsT_ok fun x'' r'' hr'' => ok9 x'' () r'' hr''
end Go.Proofs.YtfepkpindchleaaE
