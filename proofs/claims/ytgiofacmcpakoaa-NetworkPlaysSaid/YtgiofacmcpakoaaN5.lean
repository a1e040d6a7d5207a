/- network: to whom. -/
import Derived.Test.YtgiofacmcpakoaaN4
namespace Go.Proofs.YtgiofacmcpakoaaE
open Go
set_option linter.unusedVariables false
set_option linter.unusedSimpArgs false
/-- (*network.Net).All -/
def t40r (r : Int) (s : Int) (lo : Int) (w : List ((Int × Int) × ((Int × Int) × List UInt8))) : Tr Res := Tr.br (fits (List.length w) 32) (Tr.ret ([AV.rowA 2], [LObj.box [AV.rowA 1, AV.int IntKind.i64 r, AV.int IntKind.i64 s, AV.int IntKind.i64 lo], LObj.row PK w, LObj.row PK w])) Tr.no
def os40r : OSpec := { f := 40, sh := [.ptr 0 0], so := [.box [.row 1, .d (.int .i64) false, .d (.int .i64) false, .d (.int .i64) false], .row PK], F := fun _ ((r, s, lo, _), w, _) => t40r r s lo w }
theorem fn40r (r : Int) (s : Int) (lo : Int) (w : List ((Int × Int) × ((Int × Int) × List UInt8))) : evC T0 (orcB [] [os51]) (lpOf (hOwn h40) 2 (lsOf [])) c40 1000000 (startSt [.ptr 0 0] [.box [.rowA 1, .int .i64 r, .int .i64 s, .int .i64 lo], .row PK w] Try.f40.ntmps) (finishK T0 true 2 Try.f40) = (t40r r s lo w).get := by kernel_rfl
theorem ok40r : os40r.Ok Try.prog := by
  refine os_ok mixed0 tab0 (orcB_sound all_nil (all_cons ok51 all_nil)) (hOwn h40) (d := 0) (n0 := 2) (S := lsOf []) Try.func40 (by kernel_rfl) (c := c40) (by kernel_rfl) rfl (no_loops (by kernel_rfl)) (by omega) (by kernel_rfl) ?_
  intro x'' y'' q'' hq''
  obtain ⟨⟨(r : Int), (s : Int), (lo : Int), _⟩, (w : List ((Int × Int) × ((Int × Int) × List UInt8))), _⟩ := y''
  exact (fn40r r s lo w).trans hq''
def toL (aa ap : Int) : NW → Int → List Int
  | [], _ => []
  | p :: l, i => bif (p.2.1.1 == aa && (p.2.1.2 == ap && true)) then i :: toL aa ap l (i + 1) else toL aa ap l (i + 1)
def toC (i n : Int) (acc : List Int) (al : NW) : Bool := decide (i = 0) && decide (n = al.length) && acc.isEmpty && bigW al
def toN (i n : Int) (acc : List Int) : Bool := decide (i = 0) && decide (n = 0) && acc.isEmpty
noncomputable def b42o : Code := nthLoop c42 0
def ls42o : LoopSpec := { bid := 0, sh := [.ptr 2 0, .row 3, .d (.list PK) false, .d (.int .i64) false, .d (.int .i64) false], so := [.box [.row 1, .d (.int .i64) false, .d (.int .i64) false, .d (.int .i64) false], .row PK, .box [.d (.int .u32) false, .d (.int .u16) false], .row (.int .i64)], F := fun (al, n, i, _) ((r, s, lo, _), w, (aa, ap, _), acc, _) => .on (toC i n acc al) (.exit 0, [.rowA 2], [.box [.rowA 1, .int .i64 r, .int .i64 s, .int .i64 lo], .row PK w, .row (.int .i64) (toL aa ap al 0)]) }
def r42o (al : List ((Int × Int) × ((Int × Int) × List UInt8))) (n : Int) (i : Int) (r : Int) (s : Int) (lo : Int) (w : List ((Int × Int) × ((Int × Int) × List UInt8))) (aa : Int) (ap : Int) (acc : List Int) : Tr (St ⊕ (Ex × St)) := Tr.br (decide (i < n)) (Tr.br (decide ((0 : Int) ≤ i)) (Tr.br (decide (i < (↑(List.length al) : Int))) (Tr.br (Prod.fst (Prod.fst (Prod.snd (List.getD al (Int.toNat i) (Ty.dflt PK)))) == aa && (Prod.snd (Prod.fst (Prod.snd (List.getD al (Int.toNat i) (Ty.dflt PK)))) == ap && true)) (Tr.br (fits (List.length acc + 1) 8) (Tr.ret (Sum.inl (stOf [3, 5, 9, 10, 11] [AV.ptr 2 0, AV.rowA 3, AV.list PK al, AV.int IntKind.i64 n, AV.int IntKind.i64 (IntKind.wrap IntKind.i64 (i + (1 : Int)))] [LObj.box [AV.rowA 1, AV.int IntKind.i64 r, AV.int IntKind.i64 s, AV.int IntKind.i64 lo], LObj.row PK w, LObj.box [AV.int IntKind.u32 aa, AV.int IntKind.u16 ap], LObj.row (Ty.int IntKind.i64) (acc ++ [i])]))) Tr.no) (Tr.ret (Sum.inl (stOf [3, 5, 9, 10, 11] [AV.ptr 2 0, AV.rowA 3, AV.list PK al, AV.int IntKind.i64 n, AV.int IntKind.i64 (IntKind.wrap IntKind.i64 (i + (1 : Int)))] [LObj.box [AV.rowA 1, AV.int IntKind.i64 r, AV.int IntKind.i64 s, AV.int IntKind.i64 lo], LObj.row PK w, LObj.box [AV.int IntKind.u32 aa, AV.int IntKind.u16 ap], LObj.row (Ty.int IntKind.i64) acc])))) Tr.no) Tr.no) (Tr.ret (Sum.inr (Ex.exit 0, stOf [5] [AV.rowA 2] [LObj.box [AV.rowA 1, AV.int IntKind.i64 r, AV.int IntKind.i64 s, AV.int IntKind.i64 lo], LObj.row PK w, LObj.row (Ty.int IntKind.i64) acc])))
theorem round42o (orc : Orc) (lp : Lp) (al : List ((Int × Int) × ((Int × Int) × List UInt8))) (n : Int) (i : Int) (r : Int) (s : Int) (lo : Int) (w : List ((Int × Int) × ((Int × Int) × List UInt8))) (aa : Int) (ap : Int) (acc : List Int) : evC T0 orc lp b42o 0 (stOf [3, 5, 9, 10, 11] [.ptr 2 0, .rowA 3, .list PK al, .int .i64 n, .int .i64 i] [.box [.rowA 1, .int .i64 r, .int .i64 s, .int .i64 lo], .row PK w, .box [.int .u32 aa, .int .u16 ap], .row (.int .i64) acc]) (roundK [3, 5, 9, 10, 11] [5] 2) = (r42o al n i r s lo w aa ap acc).get := by kernel_rfl
theorem wf42o (orc : Orc) (al : List ((Int × Int) × ((Int × Int) × List UInt8))) (n : Int) (r : Int) (s : Int) (lo : Int) (w : List ((Int × Int) × ((Int × Int) × List UInt8))) (aa : Int) (ap : Int) (I'' : Int → List Int → Prop) (m'' : Int → List Int → Nat) (r'' : Ex × St) (h : ∀ (i : Int) (acc : List Int), I'' i acc → (r42o al n i r s lo w aa ap acc).all fun x'' => x'' = .inr r'' ∨ ∃ (i' : Int) (acc' : List Int), x'' = .inl (stOf [3, 5, 9, 10, 11] [.ptr 2 0, .rowA 3, .list PK al, .int .i64 n, .int .i64 i'] [.box [.rowA 1, .int .i64 r, .int .i64 s, .int .i64 lo], .row PK w, .box [.int .u32 aa, .int .u16 ap], .row (.int .i64) acc']) ∧ I'' i' acc' ∧ m'' i' acc' < m'' i acc) (lp : Lp) (i : Int) (acc : List Int) : I'' i acc →
    loopF (fun st => evC T0 orc lp b42o 0 st (roundK [3, 5, 9, 10, 11] [5] 2)) (stOf [3, 5, 9, 10, 11] [.ptr 2 0, .rowA 3, .list PK al, .int .i64 n, .int .i64 i] [.box [.rowA 1, .int .i64 r, .int .i64 s, .int .i64 lo], .row PK w, .box [.int .u32 aa, .int .u16 ap], .row (.int .i64) acc]) = some r'' :=
  loop_tr (fun a'' : Int × List Int => stOf [3, 5, 9, 10, 11] [.ptr 2 0, .rowA 3, .list PK al, .int .i64 n, .int .i64 a''.1] [.box [.rowA 1, .int .i64 r, .int .i64 s, .int .i64 lo], .row PK w, .box [.int .u32 aa, .int .u16 ap], .row (.int .i64) a''.2]) (fun a'' => I'' a''.1 a''.2) (fun a'' => m'' a''.1 a''.2) r'' (fun a'' => r42o al n a''.1 r s lo w aa ap a''.2)
    (fun a'' x hx => (round42o orc lp al n a''.1 r s lo w aa ap a''.2).trans hx) (fun a'' ha => Tr.all_mono (fun x'' hx => hx.imp id fun ⟨i', acc', h1, h2, h3⟩ => ⟨(i', acc'), h1, h2, h3⟩) (h (a''.1) (a''.2) ha)) (i, acc)
def toI (aa ap : Int) (al : NW) (i : Int) (acc : List Int) : Prop := 0 ≤ i ∧ i ≤ al.length ∧ (acc.length : Int) ≤ i ∧ acc ++ toL aa ap (al.drop i.toNat) i = toL aa ap al 0
theorem loop42o (orc : Orc) : ls42o.Ok T0 orc h42 2 0 b42o := by
  intro q'' hq'' x'' y'' r'' h
  obtain ⟨(al : List ((Int × Int) × ((Int × Int) × List UInt8))), (n : Int), (i : Int), _⟩ := x''
  obtain ⟨⟨(r : Int), (s : Int), (lo : Int), _⟩, (w : List ((Int × Int) × ((Int × Int) × List UInt8))), ⟨(aa : Int), (ap : Int), _⟩, (acc : List Int), _⟩ := y''
  obtain ⟨hc, rfl⟩ := Tr.get_on h
  show loopF (fun st => evC T0 orc (lpN T0 orc h42 2 q'') b42o 0 st (roundK [3, 5, 9, 10, 11] [5] 2)) (stOf [3, 5, 9, 10, 11] [.ptr 2 0, .rowA 3, .list PK al, .int .i64 n, .int .i64 i] [.box [.rowA 1, .int .i64 r, .int .i64 s, .int .i64 lo], .row PK w, .box [.int .u32 aa, .int .u16 ap], .row (.int .i64) acc]) = some (.exit 0, stOf [5] ([.rowA 2]) ([.box [.rowA 1, .int .i64 r, .int .i64 s, .int .i64 lo], .row PK w, .row (.int .i64) (toL aa ap al 0)]))
  simp only [toC, Bool.and_eq_true, decide_eq_true_eq, List.isEmpty_iff, bigW] at hc
  obtain ⟨⟨⟨rfl, rfl⟩, rfl⟩, hb⟩ := hc
  refine wf42o _ al al.length r s lo w aa ap (toI aa ap al) (fun i _ => (al.length - i).toNat) _ ?_ _ 0 [] ⟨by omega, by omega, by simp, by simp⟩
  rintro i acc ⟨h0, h1, h2, h3⟩
  unfold r42o
  by_cases hlt : i < al.length
  · refine Tr.all_t (dec_true hlt) (Tr.all_t (dec_true h0) (Tr.all_t (dec_true hlt) ?_))
    rw [drop_get al i.toNat (Ty.dflt PK) (by omega)] at h3
    have e1 : i.toNat + 1 = (i + 1).toNat := by omega
    refine Tr.all_br (fun hc => Tr.all_t (fits_true (by omega) (by omega)) (Tr.all_ret (.inr ⟨_, _, rfl, ?_, ?_⟩))) (fun hc => Tr.all_ret (.inr ⟨_, _, rfl, ?_, ?_⟩))
    · simp (disch := omega) only [IntWalk.i64_in]
      refine ⟨by omega, by omega, by simp; omega, ?_⟩
      rw [← h3, toL, hc, e1]
      simp
    · simp (disch := omega) only [IntWalk.i64_in]
      omega
    · simp (disch := omega) only [IntWalk.i64_in]
      refine ⟨by omega, by omega, by omega, ?_⟩
      rw [← h3, toL, hc, e1]
      rfl
    · simp (disch := omega) only [IntWalk.i64_in]
      omega
  · refine Tr.all_f (dec_false hlt) (Tr.all_ret (.inl ?_))
    rw [List.drop_of_length_le (by omega)] at h3
    rw [← h3, toL, List.append_nil]
noncomputable def b42n : Code := nthLoop c42 0
def ls42n : LoopSpec := { bid := 0, sh := [.ptr 0 0, .row 1, .d (.list PK) false, .d (.int .i64) false, .d (.int .i64) false], so := [.box [.d (.int .u32) false, .d (.int .u16) false], .row (.int .i64)], F := fun (al, n, i, _) ((aa, ap, _), acc, _) => .on (toN i n acc) (.exit 0, [.rowA 0], [.row (.int .i64) []]) }
def r42n (al : List ((Int × Int) × ((Int × Int) × List UInt8))) (n : Int) (i : Int) (aa : Int) (ap : Int) (acc : List Int) : Tr (St ⊕ (Ex × St)) := Tr.br (decide (i < n)) (Tr.br (decide ((0 : Int) ≤ i)) (Tr.br (decide (i < (↑(List.length al) : Int))) (Tr.br (Prod.fst (Prod.fst (Prod.snd (List.getD al (Int.toNat i) (Ty.dflt PK)))) == aa && (Prod.snd (Prod.fst (Prod.snd (List.getD al (Int.toNat i) (Ty.dflt PK)))) == ap && true)) (Tr.br (fits (List.length acc + 1) 8) (Tr.ret (Sum.inl (stOf [3, 5, 9, 10, 11] [AV.ptr 0 0, AV.rowA 1, AV.list PK al, AV.int IntKind.i64 n, AV.int IntKind.i64 (IntKind.wrap IntKind.i64 (i + (1 : Int)))] [LObj.box [AV.int IntKind.u32 aa, AV.int IntKind.u16 ap], LObj.row (Ty.int IntKind.i64) (acc ++ [i])]))) Tr.no) (Tr.ret (Sum.inl (stOf [3, 5, 9, 10, 11] [AV.ptr 0 0, AV.rowA 1, AV.list PK al, AV.int IntKind.i64 n, AV.int IntKind.i64 (IntKind.wrap IntKind.i64 (i + (1 : Int)))] [LObj.box [AV.int IntKind.u32 aa, AV.int IntKind.u16 ap], LObj.row (Ty.int IntKind.i64) acc])))) Tr.no) Tr.no) (Tr.ret (Sum.inr (Ex.exit 0, stOf [5] [AV.rowA 0] [LObj.row (Ty.int IntKind.i64) acc])))
theorem round42n (orc : Orc) (lp : Lp) (al : List ((Int × Int) × ((Int × Int) × List UInt8))) (n : Int) (i : Int) (aa : Int) (ap : Int) (acc : List Int) : evC T0 orc lp b42n 0 (stOf [3, 5, 9, 10, 11] [.ptr 0 0, .rowA 1, .list PK al, .int .i64 n, .int .i64 i] [.box [.int .u32 aa, .int .u16 ap], .row (.int .i64) acc]) (roundK [3, 5, 9, 10, 11] [5] 0) = (r42n al n i aa ap acc).get := by kernel_rfl
theorem wf42n (orc : Orc) (al : List ((Int × Int) × ((Int × Int) × List UInt8))) (n : Int) (aa : Int) (ap : Int) (I'' : Int → List Int → Prop) (m'' : Int → List Int → Nat) (r'' : Ex × St) (h : ∀ (i : Int) (acc : List Int), I'' i acc → (r42n al n i aa ap acc).all fun x'' => x'' = .inr r'' ∨ ∃ (i' : Int) (acc' : List Int), x'' = .inl (stOf [3, 5, 9, 10, 11] [.ptr 0 0, .rowA 1, .list PK al, .int .i64 n, .int .i64 i'] [.box [.int .u32 aa, .int .u16 ap], .row (.int .i64) acc']) ∧ I'' i' acc' ∧ m'' i' acc' < m'' i acc) (lp : Lp) (i : Int) (acc : List Int) : I'' i acc →
    loopF (fun st => evC T0 orc lp b42n 0 st (roundK [3, 5, 9, 10, 11] [5] 0)) (stOf [3, 5, 9, 10, 11] [.ptr 0 0, .rowA 1, .list PK al, .int .i64 n, .int .i64 i] [.box [.int .u32 aa, .int .u16 ap], .row (.int .i64) acc]) = some r'' :=
  loop_tr (fun a'' : Int × List Int => stOf [3, 5, 9, 10, 11] [.ptr 0 0, .rowA 1, .list PK al, .int .i64 n, .int .i64 a''.1] [.box [.int .u32 aa, .int .u16 ap], .row (.int .i64) a''.2]) (fun a'' => I'' a''.1 a''.2) (fun a'' => m'' a''.1 a''.2) r'' (fun a'' => r42n al n a''.1 aa ap a''.2)
    (fun a'' x hx => (round42n orc lp al n a''.1 aa ap a''.2).trans hx) (fun a'' ha => Tr.all_mono (fun x'' hx => hx.imp id fun ⟨i', acc', h1, h2, h3⟩ => ⟨(i', acc'), h1, h2, h3⟩) (h (a''.1) (a''.2) ha)) (i, acc)
theorem loop42n (orc : Orc) : ls42n.Ok T0 orc h42 0 0 b42n := by
  intro q'' hq'' x'' y'' r'' h
  obtain ⟨(al : List ((Int × Int) × ((Int × Int) × List UInt8))), (n : Int), (i : Int), _⟩ := x''
  obtain ⟨⟨(aa : Int), (ap : Int), _⟩, (acc : List Int), _⟩ := y''
  obtain ⟨hc, rfl⟩ := Tr.get_on h
  show loopF (fun st => evC T0 orc (lpN T0 orc h42 0 q'') b42n 0 st (roundK [3, 5, 9, 10, 11] [5] 0)) (stOf [3, 5, 9, 10, 11] [.ptr 0 0, .rowA 1, .list PK al, .int .i64 n, .int .i64 i] [.box [.int .u32 aa, .int .u16 ap], .row (.int .i64) acc]) = some (.exit 0, stOf [5] ([.rowA 0]) ([.row (.int .i64) []]))
  simp only [toN, Bool.and_eq_true, decide_eq_true_eq, List.isEmpty_iff] at hc
  obtain ⟨⟨rfl, rfl⟩, rfl⟩ := hc
  refine wf42n _ al 0 aa ap (fun i acc => i = 0 ∧ acc = []) (fun _ _ => 0) _ ?_ _ 0 [] ⟨rfl, rfl⟩
  rintro i acc ⟨rfl, rfl⟩
  exact Tr.all_f rfl (Tr.all_ret (.inl rfl))
/-- (*network.Net).To -/
def t42o (a : (Int × Int)) (r : Int) (s : Int) (lo : Int) (w : List ((Int × Int) × ((Int × Int) × List UInt8))) : Tr Res := Tr.br (fits (List.length w) 32) (Tr.br (toC (0 : Int) (↑(List.length w) : Int) [] w) (Tr.ret ([AV.list (Ty.int IntKind.i64) (toL (Prod.fst a) (Prod.snd a) w (0 : Int))], [LObj.box [AV.rowA 1, AV.int IntKind.i64 r, AV.int IntKind.i64 s, AV.int IntKind.i64 lo], LObj.row PK w])) Tr.no) Tr.no
def os42o : OSpec := { f := 42, sh := [.ptr 0 0, .d Ad true], so := [.box [.row 1, .d (.int .i64) false, .d (.int .i64) false, .d (.int .i64) false], .row PK], F := fun (a, _) ((r, s, lo, _), w, _) => t42o a r s lo w }
theorem fn42o (a : (Int × Int)) (r : Int) (s : Int) (lo : Int) (w : List ((Int × Int) × ((Int × Int) × List UInt8))) : evC T0 (orcB [] [os40o, os40n]) (lpOf h42 2 (lsOf [ls42o])) c42 1000000 (startSt [.ptr 0 0, AV.ofTy Ad a true] [.box [.rowA 1, .int .i64 r, .int .i64 s, .int .i64 lo], .row PK w] Try.f42.ntmps) (finishK T0 false 2 Try.f42) = (t42o a r s lo w).get := by kernel_rfl
theorem ok42o : os42o.Ok Try.prog := by
  refine os_ok mixed0 tab0 (orcB_sound all_nil (all_cons ok40o (all_cons ok40n all_nil))) h42 (d := 0) (n0 := 2) (S := lsOf [ls42o]) Try.func42 (by kernel_rfl) (c := c42) (by kernel_rfl) rfl (loops_eq (xs := [(0, b42o)]) (by kernel_rfl) (all_cons (ls_here (loop42o _)) all_nil)) (by omega) (by kernel_rfl) ?_
  intro x'' y'' q'' hq''
  obtain ⟨(a : (Int × Int)), _⟩ := x''
  obtain ⟨⟨(r : Int), (s : Int), (lo : Int), _⟩, (w : List ((Int × Int) × ((Int × Int) × List UInt8))), _⟩ := y''
  exact (fn42o a r s lo w).trans hq''
/-- (*network.Net).To -/
def t42n (a : (Int × Int)) : Tr Res := Tr.ret ([AV.list (Ty.int IntKind.i64) []], [])
def os42n : OSpec := { f := 42, sh := [.np, .d Ad true], so := [], F := fun (a, _) _ => t42n a }
theorem fn42n (a : (Int × Int)) : evC T0 (orcB [] [os40o, os40n]) (lpOf h42 0 (lsOf [ls42n])) c42 1000000 (startSt [.np, AV.ofTy Ad a true] [] Try.f42.ntmps) (finishK T0 false 0 Try.f42) = (t42n a).get := by kernel_rfl
theorem ok42n : os42n.Ok Try.prog := by
  refine os_ok mixed0 tab0 (orcB_sound all_nil (all_cons ok40o (all_cons ok40n all_nil))) h42 (d := 0) (n0 := 0) (S := lsOf [ls42n]) Try.func42 (by kernel_rfl) (c := c42) (by kernel_rfl) rfl (loops_eq (xs := [(0, b42n)]) (by kernel_rfl) (all_cons (ls_here (loop42n _)) all_nil)) (by omega) (by kernel_rfl) ?_
  intro x'' y'' q'' hq''
  obtain ⟨(a : (Int × Int)), _⟩ := x''
  exact (fn42n a).trans hq''
end Go.Proofs.YtgiofacmcpakoaaE
