import Derived.Test.YtlkpiegllammdaaPRecordPuts4
import Derived.Test.YtlkpiegllammdaaRows
import Derived.WalkKit
import Derived.ProofKit
import Derived.OpenShut
import Derived.ShutString
import Derived.ChangeOld
import Derived.Below
import Derived.Carry
import Derived.SizedLaws
namespace Go.Proofs.YtlkpiegllammdaaE
open Go Go.Proofs.YtlkpiegllammdaaB
set_option linter.unusedVariables false
set_option linter.unusedSimpArgs false
set_option maxRecDepth 100000
def knC (n S : List UInt8) (L : Known) (i : Int) : Bool := decide (i = 0) && Nat.ble L.length 1000000000000
noncomputable def b99 : Code := (nthLoop c99 0)
def ls99 : LoopSpec := { bid := 0, sh := [.d .str false, .ptr 0 0, .d (.int .i64) false], so := [.box [.d .str false, .d (.list (.pair .str (.int .i64))) false]], F := fun (n, i, _) ((S, L, _), _) => .on2 (knC n S L i) ((lookK n L).isSome) (.ret, [.int .i64 ((lookK n L).getD 0)], []) (.exit 0, [.dead], []) }
def r99 (n : List UInt8) (i : Int) (S : List UInt8) (L : List (List UInt8 × Int)) : Tr (St ⊕ (Ex × St)) := Tr.br (decide (i < (↑(List.length L) : Int))) (Tr.br (decide ((0 : Int) ≤ i)) (Tr.br (decide (i < (↑(List.length L) : Int))) (Tr.br (Prod.fst (List.getD L (Int.toNat i) (([], 0))) == n) (Tr.br (decide ((0 : Int) ≤ i)) (Tr.br (decide (i < (↑(List.length L) : Int))) (Tr.ret (Sum.inr (Ex.ret, stOf [4] [AV.int IntKind.i64 (Prod.snd (List.getD L (Int.toNat i) (([], 0))))] []))) Tr.no) Tr.no) (Tr.ret (Sum.inl (stOf [1, 2, 5] [AV.str n, AV.ptr 0 0, AV.int IntKind.i64 (IntKind.wrap IntKind.i64 (i + (1 : Int)))] [LObj.boxT none [AV.str S, AV.list (Ty.pair Ty.str (Ty.int IntKind.i64)) L]])))) Tr.no) Tr.no) (Tr.ret (Sum.inr (Ex.exit 0, stOf [4] [AV.dead] [])))
set_option maxRecDepth 1000000 in
theorem round99 (orc : Orc) (lp : Lp) (n : List UInt8) (i : Int) (S : List UInt8) (L : List (List UInt8 × Int)) : evC T0 orc lp b99 0 (stOf [1, 2, 5] [.str n, .ptr 0 0, .int .i64 i] [.box [.str S, .list (.pair .str (.int .i64)) L]]) (roundK [1, 2, 5] [4] 0) = (r99 n i S L).get := by kernel_rfl
theorem wf99 (orc : Orc) (n : List UInt8) (S : List UInt8) (L : List (List UInt8 × Int)) (I'' : Int → Prop) (m'' : Int → Nat) (r'' : Ex × St) (h : ∀ (i : Int), I'' i → (r99 n i S L).all fun x'' => x'' = .inr r'' ∨ ∃ (i' : Int), x'' = .inl (stOf [1, 2, 5] [.str n, .ptr 0 0, .int .i64 i'] [.box [.str S, .list (.pair .str (.int .i64)) L]]) ∧ I'' i' ∧ m'' i' < m'' i) (lp : Lp) (i : Int) : I'' i →
    loopF (fun st => evC T0 orc lp b99 0 st (roundK [1, 2, 5] [4] 0)) (stOf [1, 2, 5] [.str n, .ptr 0 0, .int .i64 i] [.box [.str S, .list (.pair .str (.int .i64)) L]]) = some r'' :=
  loop_tr (fun a'' : Int => stOf [1, 2, 5] [.str n, .ptr 0 0, .int .i64 a''] [.box [.str S, .list (.pair .str (.int .i64)) L]]) (fun a'' => I'' a'') (fun a'' => m'' a'') r'' (fun a'' => r99 n a'' S L)
    (fun a'' x hx => (round99 orc lp n a'' S L).trans hx) (fun a'' ha => Tr.all_mono (fun x'' hx => hx.imp id fun ⟨i', h1, h2, h3⟩ => ⟨(i'), h1, h2, h3⟩) (h (a'') ha)) (i)
theorem keq_str (a b : List UInt8) : Ty.keq .str a b = (a == b) := rfl
theorem lookK_at {n : List UInt8} {L : Known} {k : Nat} (hk : k < L.length) : lookK n (L.drop k) = if (L.getD k ([], 0)).1 == n then some (L.getD k ([], 0)).2 else lookK n (L.drop (k + 1)) := by
  rw [drop_get L k ([], 0) hk]
  unfold lookK
  rw [lookM, keq_str]
  by_cases h : n = (L.getD k ([], 0)).1
  · rw [show (n == (L.getD k ([], 0)).1) = true by simp only [beq_iff_eq]; exact h, show ((L.getD k ([], 0)).1 == n) = true by simp only [beq_iff_eq]; exact h.symm]
    rfl
  · rw [show (n == (L.getD k ([], 0)).1) = false by simp only [beq_eq_false_iff_ne]; exact h, show ((L.getD k ([], 0)).1 == n) = false by simp only [beq_eq_false_iff_ne]; exact fun e => h e.symm]
    rfl
theorem loop99 (orc : Orc) : ls99.Ok T0 orc h99 0 0 b99 := by
  intro q'' hq'' x'' y'' r'' h
  obtain ⟨(n : List UInt8), (i : Int), _⟩ := x''
  obtain ⟨⟨(S : List UInt8), (L : List (List UInt8 × Int)), _⟩, _⟩ := y''
  obtain ⟨hc, rfl⟩ := Tr.get_on2 h
  show loopF (fun st => evC T0 orc (lpN T0 orc h99 0 q'') b99 0 st (roundK [1, 2, 5] [4] 0)) (stOf [1, 2, 5] [.str n, .ptr 0 0, .int .i64 i] [.box [.str S, .list (.pair .str (.int .i64)) L]]) = some ((bif (lookK n L).isSome then (.ret, [.int .i64 ((lookK n L).getD 0)], []) else (.exit 0, [.dead], []) : Ex × List AV × List LObj).1, stOf [4] (bif (lookK n L).isSome then (.ret, [.int .i64 ((lookK n L).getD 0)], []) else (.exit 0, [.dead], []) : Ex × List AV × List LObj).2.1 (bif (lookK n L).isSome then (.ret, [.int .i64 ((lookK n L).getD 0)], []) else (.exit 0, [.dead], []) : Ex × List AV × List LObj).2.2)
  simp only [knC, Bool.and_eq_true, decide_eq_true_eq] at hc
  obtain ⟨rfl, hb⟩ := hc
  have hb := Nat.le_of_ble_eq_true hb
  refine wf99 _ n S L (fun i => 0 ≤ i ∧ i ≤ L.length ∧ lookK n (L.drop i.toNat) = lookK n L) (fun i => (L.length - i).toNat) _ ?_ _ 0 ⟨by omega, by omega, rfl⟩
  rintro i ⟨h0, h1, he⟩
  unfold r99
  by_cases hlt : i < L.length
  · rw [lookK_at (by omega)] at he
    refine Tr.all_t (dec_true hlt) (Tr.all_t (dec_true h0) (Tr.all_t (dec_true hlt) (Tr.all_br (fun c1 => ?_) fun c1 => ?_)))
    · rw [if_pos c1] at he
      rw [← he]
      exact Tr.all_t (dec_true h0) (Tr.all_t (dec_true hlt) (Tr.all_ret (.inl rfl)))
    · rw [if_neg (by rw [c1]; simp)] at he
      rw [IntWalk.i64_in _ (by omega)]
      exact Tr.all_ret (.inr ⟨_, rfl, ⟨by omega, by omega, by rw [show (i + 1).toNat = i.toNat + 1 by omega]; exact he⟩, by omega⟩)
  · rw [List.drop_of_length_le (by omega)] at he
    rw [← he]
    exact Tr.all_f (dec_false hlt) (Tr.all_ret (.inl rfl))
def t99 (p : (List UInt8 × List (List UInt8 × Int))) (n : List UInt8) : Tr Res := Tr.br (knC n p.1 p.2 (0 : Int)) (Tr.br (Option.isSome (lookK n p.2)) (Tr.ret ([AV.int IntKind.i64 (Option.getD (lookK n p.2) (0 : Int))], [])) (Tr.ret ([AV.int IntKind.i64 (-1 : Int)], []))) Tr.no
def os99 : OSpec := { f := 99, sh := [.d (.pair .str (.list (.pair .str (.int .i64)))) true, .d .str false], so := [], F := fun (p, n, _) _ => t99 p n }
set_option maxRecDepth 1000000 in
theorem fn99 (p : (List UInt8 × List (List UInt8 × Int))) (n : List UInt8) : evC T0 (orcB [] []) (lpOf h99 0 (lsOf [ls99])) c99 1000000 (startSt [AV.ofTy (.pair .str (.list (.pair .str (.int .i64)))) p true, .str n] [] Try.f99.ntmps) (finishK T0 false 0 Try.f99) = (t99 p n).get := by kernel_rfl
theorem ok99 : os99.Ok Try.prog := by
  refine os_ok mixed0 tab0 (orcB_sound all_nil all_nil) h99 (d := 0) (n0 := 0) (S := lsOf [ls99]) Try.func99 (by kernel_rfl) (c := c99) (by kernel_rfl) rfl (loops_eq (xs := [(0, b99)]) (by kernel_rfl) (all_cons (ls_here (loop99 _)) all_nil)) (by omega) (by kernel_rfl) ?_
  intro x'' y'' q'' hq''
  obtain ⟨(p : (List UInt8 × List (List UInt8 × Int))), (n : List UInt8), _⟩ := x''
  exact (fn99 p n).trans hq''
def fs99 : FSpec := fsT 99 [((.pair .str (.list (.pair .str (.int .i64)))), true), (.str, false)] [((.int .i64), false)] fun (p, n, _) => t99 p n
theorem okf99 : fs99.Ok Try.prog := fsT_ok fun x'' r'' hr'' => ok99 x'' () r'' hr''
def t63 (p : (List UInt8 × List (List UInt8 × Int))) (s : List UInt8) : Tr Res := Tr.br (Nat.ble (List.length p.1 + List.length s) 9223372036854775807) (Tr.ret ([AV.agg [AV.str (p.1 ++ s), AV.list (Ty.pair Ty.str (Ty.int IntKind.i64)) p.2]], [])) Tr.no
def os63 : OSpec := { f := 63, sh := [.d (.pair .str (.list (.pair .str (.int .i64)))) true, .d .str false], so := [], F := fun (p, s, _) _ => t63 p s }
set_option maxRecDepth 1000000 in
theorem fn63 (p : (List UInt8 × List (List UInt8 × Int))) (s : List UInt8) : evC T0 (orcB [] []) (lpOf h63 0 (lsOf [])) c63 1000000 (startSt [AV.ofTy (.pair .str (.list (.pair .str (.int .i64)))) p true, .str s] [] Try.f63.ntmps) (finishK T0 false 0 Try.f63) = (t63 p s).get := by kernel_rfl
theorem ok63 : os63.Ok Try.prog := by
  refine os_ok mixed0 tab0 (orcB_sound all_nil all_nil) h63 (d := 0) (n0 := 0) (S := lsOf []) Try.func63 (by kernel_rfl) (c := c63) (by kernel_rfl) rfl (no_loops (by kernel_rfl)) (by omega) (by kernel_rfl) ?_
  intro x'' y'' q'' hq''
  obtain ⟨(p : (List UInt8 × List (List UInt8 × Int))), (s : List UInt8), _⟩ := x''
  exact (fn63 p s).trans hq''
def fs63 : FSpec := fsT 63 [((.pair .str (.list (.pair .str (.int .i64)))), true), (.str, false)] [((.pair .str (.list (.pair .str (.int .i64)))), true)] fun (p, s, _) => t63 p s
theorem okf63 : fs63.Ok Try.prog := fsT_ok fun x'' r'' hr'' => ok63 x'' () r'' hr''
def kLen (L : Known) : Bool := Nat.ble L.length 1000000000000
def fs99w : FSpec := fs99.like fun (p, n, _) => .on (kLen p.2) ((lookK n p.2).getD (-1), ())
theorem okf99w : fs99w.Ok Try.prog := by
  refine flike_ok okf99 _ ?_
  rintro ⟨(p : List UInt8 × Known), (n : List UInt8), _⟩ y h
  obtain ⟨hb, rfl⟩ := Tr.get_on h
  have hb' : Nat.ble p.2.length 1000000000000 = true := hb
  refine convR_of (vs := [.int .i64 ((lookK n p.2).getD (-1))]) rfl rfl (Tr.get_of_all ?_)
  show (t99 p n).all _
  refine Tr.all_t (by unfold knC; rw [hb']; rfl) ?_
  cases h : lookK n p.2 with
  | none => exact Tr.all_f rfl (Tr.all_ret rfl)
  | some a => exact Tr.all_t rfl (Tr.all_ret rfl)
def rnC (n S0 : List UInt8) (L0 : Known) (S : List UInt8) (L : Known) : Bool := rootV n && (kOk L && (Nat.ble (S.length + n.length) 100000000000 && Nat.ble (L.length + n.length) 100000000000))
noncomputable def b62 : Code := (nthLoop c62 0)
def ls62 : LoopSpec := { bid := 0, sh := [.d .str false, .ptr 0 0, .ptr 2 0], so := [.box [.d .str false, .row 1], .row (.pair .str (.int .i64)), .box [.d .str false, .row 3], .row (.pair .str (.int .i64))], F := fun (n, _) ((S0, _), L0, (S, _), L, _) => .on2 (rnC n S0 L0 S L) ((nameL n S L).1.isSome) (.ret, [.ptr 0 0, .int .i64 0, .ptr 1 0], [.box [.str ((nameL n S L).2.2.1 ++ put16 (49152 + (nameL n S L).1.getD 0)), .list (.pair .str (.int .i64)) (nameL n S L).2.2.2], .box [.str (nameL n S L).2.2.1, .list (.pair .str (.int .i64)) (nameL n S L).2.2.2]]) (.exit 0, [.ptr 0 0, .dead, .ptr 2 0], [.box [.str S0, .rowA 1], .row (.pair .str (.int .i64)) L0, .box [.str (nameL n S L).2.2.1, .rowA 3], .row (.pair .str (.int .i64)) (nameL n S L).2.2.2]) }
def r62 (n : List UInt8) (S0 : List UInt8) (L0 : List (List UInt8 × Int)) (S : List UInt8) (L : List (List UInt8 × Int)) : Tr (St ⊕ (Ex × St)) := Tr.br (!n == [0]) (Tr.br (kLen L) (Tr.br (decide (Option.getD (lookK n L) (-1 : Int) ≥ (0 : Int))) (Tr.br (n16C (IntKind.wrap IntKind.u16 (IntKind.wrap IntKind.i64 ((49152 : Int) + Option.getD (lookK n L) (-1 : Int))))) (Tr.br (Nat.ble (List.length S + List.length (put16 (IntKind.wrap IntKind.u16 (IntKind.wrap IntKind.i64 ((49152 : Int) + Option.getD (lookK n L) (-1 : Int)))))) 9223372036854775807) (Tr.ret (Sum.inr (Ex.ret, stOf [4, 5, 6] [AV.ptr 0 0, AV.int IntKind.i64 (0 : Int), AV.ptr 1 0] [LObj.boxT none [AV.str (S ++ put16 (IntKind.wrap IntKind.u16 (IntKind.wrap IntKind.i64 ((49152 : Int) + Option.getD (lookK n L) (-1 : Int))))), AV.list (Ty.pair Ty.str (Ty.int IntKind.i64)) L], LObj.boxT none [AV.str S, AV.list (Ty.pair Ty.str (Ty.int IntKind.i64)) L]]))) Tr.no) Tr.no) (Tr.br (decide ((↑(List.length S) : Int) < (16384 : Int))) (Tr.br (fits (List.length L + 1) 24) (Tr.br (decide ((0 : Int) < (↑(List.length n) : Int))) (Tr.br (decide ((0 : Int) ≤ IntKind.wrap IntKind.i64 ((1 : Int) + IntKind.wrap IntKind.i64 (↑(UInt8.toNat (List.getD n (Int.toNat (0 : Int)) 0)) : Int))) && decide (IntKind.wrap IntKind.i64 ((1 : Int) + IntKind.wrap IntKind.i64 (↑(UInt8.toNat (List.getD n (Int.toNat (0 : Int)) 0)) : Int)) ≤ (↑(List.length n) : Int))) (Tr.br (decide ((0 : Int) ≤ (0 : Int)) && decide ((0 : Int) ≤ IntKind.wrap IntKind.i64 ((1 : Int) + IntKind.wrap IntKind.i64 (↑(UInt8.toNat (List.getD n (Int.toNat (0 : Int)) 0)) : Int)))) (Tr.br (Nat.ble (List.length S + List.length (List.take (Int.toNat (IntKind.wrap IntKind.i64 ((1 : Int) + IntKind.wrap IntKind.i64 (↑(UInt8.toNat (List.getD n (Int.toNat (0 : Int)) 0)) : Int))) - Int.toNat (0 : Int)) (List.drop (Int.toNat (0 : Int)) n))) 9223372036854775807) (Tr.br (decide ((0 : Int) ≤ (↑(List.length n) : Int)) && decide ((↑(List.length n) : Int) ≤ (↑(List.length n) : Int))) (Tr.br (decide ((0 : Int) ≤ IntKind.wrap IntKind.i64 ((1 : Int) + IntKind.wrap IntKind.i64 (↑(UInt8.toNat (List.getD n (Int.toNat (0 : Int)) 0)) : Int))) && decide (IntKind.wrap IntKind.i64 ((1 : Int) + IntKind.wrap IntKind.i64 (↑(UInt8.toNat (List.getD n (Int.toNat (0 : Int)) 0)) : Int)) ≤ (↑(List.length n) : Int))) (Tr.ret (Sum.inl (stOf [1, 4, 6] [AV.str (List.take (Int.toNat (↑(List.length n) : Int) - Int.toNat (IntKind.wrap IntKind.i64 ((1 : Int) + IntKind.wrap IntKind.i64 (↑(UInt8.toNat (List.getD n (Int.toNat (0 : Int)) 0)) : Int)))) (List.drop (Int.toNat (IntKind.wrap IntKind.i64 ((1 : Int) + IntKind.wrap IntKind.i64 (↑(UInt8.toNat (List.getD n (Int.toNat (0 : Int)) 0)) : Int)))) n)), AV.ptr 0 0, AV.ptr 2 0] [LObj.boxT none [AV.str S0, AV.rowA 1], LObj.row (Ty.pair Ty.str (Ty.int IntKind.i64)) L0, LObj.boxT none [AV.str (S ++ List.take (Int.toNat (IntKind.wrap IntKind.i64 ((1 : Int) + IntKind.wrap IntKind.i64 (↑(UInt8.toNat (List.getD n (Int.toNat (0 : Int)) 0)) : Int))) - Int.toNat (0 : Int)) (List.drop (Int.toNat (0 : Int)) n)), AV.rowA 3], LObj.row (Ty.pair Ty.str (Ty.int IntKind.i64)) (L ++ [(n, (↑(List.length S) : Int))])]))) Tr.no) Tr.no) Tr.no) Tr.no) Tr.no) Tr.no) Tr.no) (Tr.br (decide ((0 : Int) < (↑(List.length n) : Int))) (Tr.br (decide ((0 : Int) ≤ IntKind.wrap IntKind.i64 ((1 : Int) + IntKind.wrap IntKind.i64 (↑(UInt8.toNat (List.getD n (Int.toNat (0 : Int)) 0)) : Int))) && decide (IntKind.wrap IntKind.i64 ((1 : Int) + IntKind.wrap IntKind.i64 (↑(UInt8.toNat (List.getD n (Int.toNat (0 : Int)) 0)) : Int)) ≤ (↑(List.length n) : Int))) (Tr.br (decide ((0 : Int) ≤ (0 : Int)) && decide ((0 : Int) ≤ IntKind.wrap IntKind.i64 ((1 : Int) + IntKind.wrap IntKind.i64 (↑(UInt8.toNat (List.getD n (Int.toNat (0 : Int)) 0)) : Int)))) (Tr.br (Nat.ble (List.length S + List.length (List.take (Int.toNat (IntKind.wrap IntKind.i64 ((1 : Int) + IntKind.wrap IntKind.i64 (↑(UInt8.toNat (List.getD n (Int.toNat (0 : Int)) 0)) : Int))) - Int.toNat (0 : Int)) (List.drop (Int.toNat (0 : Int)) n))) 9223372036854775807) (Tr.br (decide ((0 : Int) ≤ (↑(List.length n) : Int)) && decide ((↑(List.length n) : Int) ≤ (↑(List.length n) : Int))) (Tr.br (decide ((0 : Int) ≤ IntKind.wrap IntKind.i64 ((1 : Int) + IntKind.wrap IntKind.i64 (↑(UInt8.toNat (List.getD n (Int.toNat (0 : Int)) 0)) : Int))) && decide (IntKind.wrap IntKind.i64 ((1 : Int) + IntKind.wrap IntKind.i64 (↑(UInt8.toNat (List.getD n (Int.toNat (0 : Int)) 0)) : Int)) ≤ (↑(List.length n) : Int))) (Tr.ret (Sum.inl (stOf [1, 4, 6] [AV.str (List.take (Int.toNat (↑(List.length n) : Int) - Int.toNat (IntKind.wrap IntKind.i64 ((1 : Int) + IntKind.wrap IntKind.i64 (↑(UInt8.toNat (List.getD n (Int.toNat (0 : Int)) 0)) : Int)))) (List.drop (Int.toNat (IntKind.wrap IntKind.i64 ((1 : Int) + IntKind.wrap IntKind.i64 (↑(UInt8.toNat (List.getD n (Int.toNat (0 : Int)) 0)) : Int)))) n)), AV.ptr 0 0, AV.ptr 2 0] [LObj.boxT none [AV.str S0, AV.rowA 1], LObj.row (Ty.pair Ty.str (Ty.int IntKind.i64)) L0, LObj.boxT none [AV.str (S ++ List.take (Int.toNat (IntKind.wrap IntKind.i64 ((1 : Int) + IntKind.wrap IntKind.i64 (↑(UInt8.toNat (List.getD n (Int.toNat (0 : Int)) 0)) : Int))) - Int.toNat (0 : Int)) (List.drop (Int.toNat (0 : Int)) n)), AV.rowA 3], LObj.row (Ty.pair Ty.str (Ty.int IntKind.i64)) L]))) Tr.no) Tr.no) Tr.no) Tr.no) Tr.no) Tr.no))) Tr.no) (Tr.ret (Sum.inr (Ex.exit 0, stOf [4, 5, 6] [AV.ptr 0 0, AV.dead, AV.ptr 2 0] [LObj.boxT none [AV.str S0, AV.rowA 1], LObj.row (Ty.pair Ty.str (Ty.int IntKind.i64)) L0, LObj.boxT none [AV.str S, AV.rowA 3], LObj.row (Ty.pair Ty.str (Ty.int IntKind.i64)) L])))
set_option maxRecDepth 1000000 in
theorem round62 (lp : Lp) (n : List UInt8) (S0 : List UInt8) (L0 : List (List UInt8 × Int)) (S : List UInt8) (L : List (List UInt8 × Int)) : evC T0 (orcB [fs75v, fs99w, fs63, fs64w] []) lp b62 0 (stOf [1, 4, 6] [.str n, .ptr 0 0, .ptr 2 0] [.box [.str S0, .rowA 1], .row (.pair .str (.int .i64)) L0, .box [.str S, .rowA 3], .row (.pair .str (.int .i64)) L]) (roundK [1, 4, 6] [4, 5, 6] 0) = (r62 n S0 L0 S L).get := by kernel_rfl
theorem wf62 (S0 : List UInt8) (L0 : List (List UInt8 × Int)) (I'' : List UInt8 → List UInt8 → List (List UInt8 × Int) → Prop) (m'' : List UInt8 → List UInt8 → List (List UInt8 × Int) → Nat) (r'' : Ex × St) (h : ∀ (n : List UInt8) (S : List UInt8) (L : List (List UInt8 × Int)), I'' n S L → (r62 n S0 L0 S L).all fun x'' => x'' = .inr r'' ∨ ∃ (n' : List UInt8) (S' : List UInt8) (L' : List (List UInt8 × Int)), x'' = .inl (stOf [1, 4, 6] [.str n', .ptr 0 0, .ptr 2 0] [.box [.str S0, .rowA 1], .row (.pair .str (.int .i64)) L0, .box [.str S', .rowA 3], .row (.pair .str (.int .i64)) L']) ∧ I'' n' S' L' ∧ m'' n' S' L' < m'' n S L) (lp : Lp) (n : List UInt8) (S : List UInt8) (L : List (List UInt8 × Int)) : I'' n S L →
    loopF (fun st => evC T0 (orcB [fs75v, fs99w, fs63, fs64w] []) lp b62 0 st (roundK [1, 4, 6] [4, 5, 6] 0)) (stOf [1, 4, 6] [.str n, .ptr 0 0, .ptr 2 0] [.box [.str S0, .rowA 1], .row (.pair .str (.int .i64)) L0, .box [.str S, .rowA 3], .row (.pair .str (.int .i64)) L]) = some r'' :=
  loop_tr (fun a'' : List UInt8 × List UInt8 × List (List UInt8 × Int) => stOf [1, 4, 6] [.str a''.1, .ptr 0 0, .ptr 2 0] [.box [.str S0, .rowA 1], .row (.pair .str (.int .i64)) L0, .box [.str a''.2.1, .rowA 3], .row (.pair .str (.int .i64)) a''.2.2]) (fun a'' => I'' a''.1 a''.2.1 a''.2.2) (fun a'' => m'' a''.1 a''.2.1 a''.2.2) r'' (fun a'' => r62 a''.1 S0 L0 a''.2.1 a''.2.2)
    (fun a'' x hx => (round62 lp a''.1 S0 L0 a''.2.1 a''.2.2).trans hx) (fun a'' ha => Tr.all_mono (fun x'' hx => hx.imp id fun ⟨n', S', L', h1, h2, h3⟩ => ⟨(n', S', L'), h1, h2, h3⟩) (h (a''.1) (a''.2.1) (a''.2.2) ha)) (n, S, L)
def rnI (n S : List UInt8) (L : Known) (n' S' : List UInt8) (L' : Known) : Prop := rootV n' = true ∧ kOk L' = true ∧ S'.length + n'.length ≤ 100000000000 ∧ L'.length + n'.length ≤ 100000000000 ∧ nameL n' S' L' = nameL n S L
theorem loop62 : ls62.Ok T0 (orcB [fs75v, fs99w, fs63, fs64w] []) h62 0 0 b62 := by
  intro q'' hq'' x'' y'' r'' h
  obtain ⟨(n : List UInt8), _⟩ := x''
  obtain ⟨⟨(S0 : List UInt8), _⟩, (L0 : List (List UInt8 × Int)), ⟨(S : List UInt8), _⟩, (L : List (List UInt8 × Int)), _⟩ := y''
  obtain ⟨hc, rfl⟩ := Tr.get_on2 h
  show loopF (fun st => evC T0 (orcB [fs75v, fs99w, fs63, fs64w] []) (lpN T0 (orcB [fs75v, fs99w, fs63, fs64w] []) h62 0 q'') b62 0 st (roundK [1, 4, 6] [4, 5, 6] 0)) (stOf [1, 4, 6] [.str n, .ptr 0 0, .ptr 2 0] [.box [.str S0, .rowA 1], .row (.pair .str (.int .i64)) L0, .box [.str S, .rowA 3], .row (.pair .str (.int .i64)) L]) = some ((bif (nameL n S L).1.isSome then (.ret, [.ptr 0 0, .int .i64 0, .ptr 1 0], [.box [.str ((nameL n S L).2.2.1 ++ put16 (49152 + (nameL n S L).1.getD 0)), .list (.pair .str (.int .i64)) (nameL n S L).2.2.2], .box [.str (nameL n S L).2.2.1, .list (.pair .str (.int .i64)) (nameL n S L).2.2.2]]) else (.exit 0, [.ptr 0 0, .dead, .ptr 2 0], [.box [.str S0, .rowA 1], .row (.pair .str (.int .i64)) L0, .box [.str (nameL n S L).2.2.1, .rowA 3], .row (.pair .str (.int .i64)) (nameL n S L).2.2.2]) : Ex × List AV × List LObj).1, stOf [4, 5, 6] (bif (nameL n S L).1.isSome then (.ret, [.ptr 0 0, .int .i64 0, .ptr 1 0], [.box [.str ((nameL n S L).2.2.1 ++ put16 (49152 + (nameL n S L).1.getD 0)), .list (.pair .str (.int .i64)) (nameL n S L).2.2.2], .box [.str (nameL n S L).2.2.1, .list (.pair .str (.int .i64)) (nameL n S L).2.2.2]]) else (.exit 0, [.ptr 0 0, .dead, .ptr 2 0], [.box [.str S0, .rowA 1], .row (.pair .str (.int .i64)) L0, .box [.str (nameL n S L).2.2.1, .rowA 3], .row (.pair .str (.int .i64)) (nameL n S L).2.2.2]) : Ex × List AV × List LObj).2.1 (bif (nameL n S L).1.isSome then (.ret, [.ptr 0 0, .int .i64 0, .ptr 1 0], [.box [.str ((nameL n S L).2.2.1 ++ put16 (49152 + (nameL n S L).1.getD 0)), .list (.pair .str (.int .i64)) (nameL n S L).2.2.2], .box [.str (nameL n S L).2.2.1, .list (.pair .str (.int .i64)) (nameL n S L).2.2.2]]) else (.exit 0, [.ptr 0 0, .dead, .ptr 2 0], [.box [.str S0, .rowA 1], .row (.pair .str (.int .i64)) L0, .box [.str (nameL n S L).2.2.1, .rowA 3], .row (.pair .str (.int .i64)) (nameL n S L).2.2.2]) : Ex × List AV × List LObj).2.2)
  simp only [rnC, Bool.and_eq_true] at hc
  obtain ⟨hr, hk, hb, hb2⟩ := hc
  have hb := Nat.le_of_ble_eq_true hb
  have hb2 := Nat.le_of_ble_eq_true hb2
  refine wf62 S0 L0 (rnI n S L) (fun n _ _ => n.length) _ ?_ _ n S L ⟨hr, hk, hb, hb2, rfl⟩
  clear hr hk hb hb2
  rintro n S L ⟨hr, hk, hb, hb2, he⟩
  rw [← he]
  unfold r62
  have hkl : kLen L = true := Nat.ble_eq_true_of_le (by omega)
  rcases root_cases hr with rfl | ⟨hn0, hn1, hlt, h63, hne, hrt⟩
  · rw [nameL_root]
    exact Tr.all_f (by simp) (Tr.all_ret (.inl rfl))
  · refine Tr.all_t (by simpa using hn0) (Tr.all_t hkl ?_)
    cases hlk : lookK n L with
    | some a =>
      obtain ⟨ha0, ha1⟩ := kOk_look hk hlk
      rw [nameL_known hn0 hlk]
      have hw : IntKind.wrap IntKind.u16 (IntKind.wrap IntKind.i64 ((49152 : Int) + a)) = 49152 + a := by
        rw [IntWalk.i64_in _ (by omega), IntWalk.u16_in _ (by omega)]
      simp only [Option.getD_some, hw]
      exact Tr.all_t (dec_true (by omega)) (Tr.all_t (by simp [n16C]; omega) (Tr.all_t (Nat.ble_eq_true_of_le (by rw [put16_len]; omega)) (Tr.all_ret (.inl rfl))))
    | none =>
      rw [nameL_next hn0 hn1 hlk]
      simp only [szW, hdW, tlW, Option.getD_none]
      have hl := hdN_len (n := n) (by omega)
      have hl2 := tlN_len n
      have hm : (tlN n).length < n.length := tlN_lt hn1
      refine Tr.all_f (by decide) (Tr.all_br (fun c1 => ?_) fun c1 => ?_)
      · simp only [decide_eq_true_eq] at c1
        refine Tr.all_t (fits_true (by omega) (by omega)) (Tr.all_t (dec_true (by omega)) (Tr.all_t (by rw [dec_true (by omega), dec_true (by omega)]; rfl) (Tr.all_t (by rw [dec_true (by omega), dec_true (by omega)]; rfl) (Tr.all_t (Nat.ble_eq_true_of_le (by omega)) (Tr.all_t (by rw [dec_true (by omega), dec_true (by omega)]; rfl) (Tr.all_t (by rw [dec_true (by omega), dec_true (by omega)]; rfl) (Tr.all_ret (.inr ⟨_, _, _, rfl, ⟨hrt, kOk_add hk (by omega), by rw [List.length_append]; omega, by simp; omega, ?_⟩, hm⟩))))))))
        rw [← he, nameL_next hn0 hn1 hlk, if_pos (by omega)]
      · simp only [decide_eq_false_iff_not] at c1
        refine Tr.all_t (dec_true (by omega)) (Tr.all_t (by rw [dec_true (by omega), dec_true (by omega)]; rfl) (Tr.all_t (by rw [dec_true (by omega), dec_true (by omega)]; rfl) (Tr.all_t (Nat.ble_eq_true_of_le (by omega)) (Tr.all_t (by rw [dec_true (by omega), dec_true (by omega)]; rfl) (Tr.all_t (by rw [dec_true (by omega), dec_true (by omega)]; rfl) (Tr.all_ret (.inr ⟨_, _, _, rfl, ⟨hrt, hk, by rw [List.length_append]; omega, by omega, ?_⟩, hm⟩)))))))
        rw [← he, nameL_next hn0 hn1 hlk, if_neg (by omega)]
def t62 (p : (List UInt8 × List (List UInt8 × Int))) (n : List UInt8) : Tr Res := Tr.br (bigS n) (Tr.br (!mayV n) (Tr.ret ([AV.agg [AV.str p.1, AV.list (Ty.pair Ty.str (Ty.int IntKind.i64)) p.2], AV.int IntKind.i64 (1 : Int)], [])) (Tr.br (fits (0 + List.length p.2) 24) (Tr.br (rnC n [] [] p.1 ([] ++ p.2)) (Tr.br (Option.isSome (Prod.fst (nameL n p.1 ([] ++ p.2)))) (Tr.ret ([AV.agg [AV.str (Prod.fst (Prod.snd (Prod.snd (nameL n p.1 ([] ++ p.2)))) ++ put16 ((49152 : Int) + Option.getD (Prod.fst (nameL n p.1 ([] ++ p.2))) (0 : Int))), AV.list (Ty.pair Ty.str (Ty.int IntKind.i64)) (Prod.snd (Prod.snd (Prod.snd (nameL n p.1 ([] ++ p.2)))))], AV.int IntKind.i64 (0 : Int)], [])) (Tr.br (Nat.ble (List.length (Prod.fst (Prod.snd (Prod.snd (nameL n p.1 ([] ++ p.2))))) + List.length ([0])) 9223372036854775807) (Tr.ret ([AV.agg [AV.str (Prod.fst (Prod.snd (Prod.snd (nameL n p.1 ([] ++ p.2)))) ++ [0]), AV.list (Ty.pair Ty.str (Ty.int IntKind.i64)) (Prod.snd (Prod.snd (Prod.snd (nameL n p.1 ([] ++ p.2)))))], AV.int IntKind.i64 (0 : Int)], [])) Tr.no)) Tr.no) Tr.no)) Tr.no
def os62 : OSpec := { f := 62, sh := [.d (.pair .str (.list (.pair .str (.int .i64)))) true, .d .str false], so := [], F := fun (p, n, _) _ => t62 p n }
set_option maxRecDepth 1000000 in
theorem fn62 (p : (List UInt8 × List (List UInt8 × Int))) (n : List UInt8) : evC T0 (orcB [fs75v, fs99w, fs63, fs64w] []) (lpOf h62 0 (lsOf [ls62])) c62 1000000 (startSt [AV.ofTy (.pair .str (.list (.pair .str (.int .i64)))) p true, .str n] [] Try.f62.ntmps) (finishK T0 false 0 Try.f62) = (t62 p n).get := by kernel_rfl
theorem ok62 : os62.Ok Try.prog := by
  refine os_ok mixed0 tab0 (orcB_sound (all_cons okf75v (all_cons okf99w (all_cons okf63 (all_cons okf64w all_nil)))) all_nil) h62 (d := 0) (n0 := 0) (S := lsOf [ls62]) Try.func62 (by kernel_rfl) (c := c62) (by kernel_rfl) rfl (loops_eq (xs := [(0, b62)]) (by kernel_rfl) (all_cons (ls_here loop62) all_nil)) (by omega) (by kernel_rfl) ?_
  intro x'' y'' q'' hq''
  obtain ⟨(p : (List UInt8 × List (List UInt8 × Int))), (n : List UInt8), _⟩ := x''
  exact (fn62 p n).trans hq''
def fs62 : FSpec := fsT 62 [((.pair .str (.list (.pair .str (.int .i64)))), true), (.str, false)] [((.pair .str (.list (.pair .str (.int .i64)))), true), ((.int .i64), false)] fun (p, n, _) => t62 p n
theorem okf62 : fs62.Ok Try.prog := fsT_ok fun x'' r'' hr'' => ok62 x'' () r'' hr''
def nmOk (p : List UInt8 × Known) (n : List UInt8) : Bool := bigS n && (kOk p.2 && (Nat.ble p.1.length 10000000000 && Nat.ble p.2.length 10000000000))
def fs62w : FSpec := fs62.like fun (p, n, _) => .br (nmOk p n) (.br (mayV n) (.ret (nameP n p.1 p.2, (0 : Int), ())) (.ret (p, (1 : Int), ()))) .no
theorem okf62w : fs62w.Ok Try.prog := by
  refine flike_ok okf62 _ ?_
  rintro ⟨(p : List UInt8 × Known), (n : List UInt8), _⟩ y h
  simp only [Tr.get] at h
  cases hc : nmOk p n with
  | false => rw [hc] at h; cases h
  | true =>
    rw [hc, cond_true] at h
    simp only [nmOk, Bool.and_eq_true] at hc
    obtain ⟨hbn, hk, h1, h2⟩ := hc
    have h1 := Nat.le_of_ble_eq_true h1
    have h2 := Nat.le_of_ble_eq_true h2
    obtain ⟨S, L⟩ := p
    simp only at hk h1 h2
    cases hm : mayV n with
    | false =>
      rw [hm, cond_false] at h
      cases h
      refine convR_of (vs := [AV.agg [.str S, .list (.pair .str (.int .i64)) L], .int .i64 1]) rfl rfl (Tr.get_of_all ?_)
      show (t62 (S, L) n).all _
      unfold t62
      rw [hm]
      exact Tr.all_t hbn (Tr.all_t rfl (Tr.all_ret rfl))
    | true =>
      rw [hm, cond_true] at h
      cases h
      refine convR_of (vs := [AV.agg [.str (nameP n S L).1, .list (.pair .str (.int .i64)) (nameP n S L).2], .int .i64 0]) rfl rfl (Tr.get_of_all ?_)
      show (t62 (S, L) n).all _
      unfold t62
      obtain ⟨r1, r2⟩ := show rootV n = true ∧ n.length ≤ 255 by simp only [mayV, Bool.and_eq_true] at hm; exact ⟨hm.1, Nat.le_of_ble_eq_true hm.2.1⟩
      obtain ⟨f1, f2, f3, f4, f5, f6⟩ := nameL_facts _ n S L rfl r1
      rw [hm, List.nil_append]
      have hrn : rnC n [] [] S L = true := by unfold rnC; rw [r1, hk, Nat.ble_eq_true_of_le (by omega), Nat.ble_eq_true_of_le (by omega)]; rfl
      refine Tr.all_t hbn (Tr.all_f rfl (Tr.all_t (fits_true (show (0 + L.length) * 24 ≤ _ by omega) (show 0 + L.length ≤ _ by omega)) (Tr.all_t hrn ?_)))
      unfold nameP
      cases hl : (nameL n S L).1 with
      | none => exact Tr.all_f rfl (Tr.all_t (Nat.ble_eq_true_of_le (by simp; omega)) (Tr.all_ret rfl))
      | some a => exact Tr.all_t rfl (Tr.all_ret rfl)
end Go.Proofs.YtlkpiegllammdaaE
namespace Go.Proofs.YtlkpiegllammdaaE
open Go Go.Proofs.YtlkpiegllammdaaB
set_option linter.unusedVariables false
set_option linter.unusedSimpArgs false
set_option maxRecDepth 100000
def TN : Tab := { T0 with nild := true }
theorem tabN : TabOk Try.prog TN := tab_nild tab0 _ _
def t70 (p : (List UInt8 × List (List UInt8 × Int))) (k : Int) (d : List UInt8) : Tr Res := Tr.br (bigS d) (Tr.br (!mayR k d) (Tr.ret ([AV.agg [AV.str p.1, AV.list (Ty.pair Ty.str (Ty.int IntKind.i64)) p.2], AV.int IntKind.i64 (1 : Int)], [])) (Tr.br (k == (2 : Int)) (Tr.br (nmOk p d) (Tr.br (mayV d) (Tr.ret ([AV.agg [AV.str (Prod.fst (nameP d p.1 p.2)), AV.list (Ty.pair Ty.str (Ty.int IntKind.i64)) (Prod.snd (nameP d p.1 p.2))], AV.int IntKind.i64 (0 : Int)], [])) (Tr.ret ([AV.agg [AV.str p.1, AV.list (Ty.pair Ty.str (Ty.int IntKind.i64)) p.2], AV.int IntKind.i64 (0 : Int)], []))) Tr.no) (Tr.br (k == (5 : Int)) (Tr.br (nmOk p d) (Tr.br (mayV d) (Tr.ret ([AV.agg [AV.str (Prod.fst (nameP d p.1 p.2)), AV.list (Ty.pair Ty.str (Ty.int IntKind.i64)) (Prod.snd (nameP d p.1 p.2))], AV.int IntKind.i64 (0 : Int)], [])) (Tr.ret ([AV.agg [AV.str p.1, AV.list (Ty.pair Ty.str (Ty.int IntKind.i64)) p.2], AV.int IntKind.i64 (0 : Int)], []))) Tr.no) (Tr.br (k == (12 : Int)) (Tr.br (nmOk p d) (Tr.br (mayV d) (Tr.ret ([AV.agg [AV.str (Prod.fst (nameP d p.1 p.2)), AV.list (Ty.pair Ty.str (Ty.int IntKind.i64)) (Prod.snd (nameP d p.1 p.2))], AV.int IntKind.i64 (0 : Int)], [])) (Tr.ret ([AV.agg [AV.str p.1, AV.list (Ty.pair Ty.str (Ty.int IntKind.i64)) p.2], AV.int IntKind.i64 (0 : Int)], []))) Tr.no) (Tr.br (k == (15 : Int)) (Tr.br (decide ((0 : Int) ≤ (2 : Int)) && decide ((2 : Int) ≤ (↑(List.length d) : Int))) (Tr.br (Nat.ble (List.length p.1 + List.length (List.take (Int.toNat (2 : Int) - Int.toNat (0 : Int)) (List.drop (Int.toNat (0 : Int)) d))) 9223372036854775807) (Tr.br (decide ((0 : Int) ≤ (↑(List.length d) : Int)) && decide ((↑(List.length d) : Int) ≤ (↑(List.length d) : Int))) (Tr.br (decide ((0 : Int) ≤ (2 : Int)) && decide ((2 : Int) ≤ (↑(List.length d) : Int))) (Tr.br (nmOk (p.1 ++ List.take (Int.toNat (2 : Int) - Int.toNat (0 : Int)) (List.drop (Int.toNat (0 : Int)) d), p.2) (List.take (Int.toNat (↑(List.length d) : Int) - Int.toNat (2 : Int)) (List.drop (Int.toNat (2 : Int)) d))) (Tr.br (mayV (List.take (Int.toNat (↑(List.length d) : Int) - Int.toNat (2 : Int)) (List.drop (Int.toNat (2 : Int)) d))) (Tr.ret ([AV.agg [AV.str (Prod.fst (nameP (List.take (Int.toNat (↑(List.length d) : Int) - Int.toNat (2 : Int)) (List.drop (Int.toNat (2 : Int)) d)) (p.1 ++ List.take (Int.toNat (2 : Int) - Int.toNat (0 : Int)) (List.drop (Int.toNat (0 : Int)) d)) p.2)), AV.list (Ty.pair Ty.str (Ty.int IntKind.i64)) (Prod.snd (nameP (List.take (Int.toNat (↑(List.length d) : Int) - Int.toNat (2 : Int)) (List.drop (Int.toNat (2 : Int)) d)) (p.1 ++ List.take (Int.toNat (2 : Int) - Int.toNat (0 : Int)) (List.drop (Int.toNat (0 : Int)) d)) p.2))], AV.int IntKind.i64 (0 : Int)], [])) (Tr.ret ([AV.agg [AV.str (p.1 ++ List.take (Int.toNat (2 : Int) - Int.toNat (0 : Int)) (List.drop (Int.toNat (0 : Int)) d)), AV.list (Ty.pair Ty.str (Ty.int IntKind.i64)) p.2], AV.int IntKind.i64 (0 : Int)], []))) Tr.no) Tr.no) Tr.no) Tr.no) Tr.no) (Tr.br (k == (6 : Int)) (Tr.br (bigS d) (Tr.br (decide ((0 : Int) ≤ (↑(List.length d) : Int)) && decide ((↑(List.length d) : Int) ≤ (↑(List.length d) : Int))) (Tr.br (decide ((0 : Int) ≤ (↑(wholeV d) : Int)) && decide ((↑(wholeV d) : Int) ≤ (↑(List.length d) : Int))) (Tr.br (bigS (List.take (Int.toNat (↑(List.length d) : Int) - Int.toNat (↑(wholeV d) : Int)) (List.drop (Int.toNat (↑(wholeV d) : Int)) d))) (Tr.br (decide ((0 : Int) ≤ (↑(wholeV d) : Int)) && decide ((↑(wholeV d) : Int) ≤ (↑(List.length d) : Int))) (Tr.br (nmOk p (List.take (Int.toNat (↑(wholeV d) : Int) - Int.toNat (0 : Int)) (List.drop (Int.toNat (0 : Int)) d))) (Tr.br (mayV (List.take (Int.toNat (↑(wholeV d) : Int) - Int.toNat (0 : Int)) (List.drop (Int.toNat (0 : Int)) d))) (Tr.br (decide ((0 : Int) ≤ IntKind.wrap IntKind.i64 ((↑(wholeV d) : Int) + (↑(wholeV (List.take (Int.toNat (↑(List.length d) : Int) - Int.toNat (↑(wholeV d) : Int)) (List.drop (Int.toNat (↑(wholeV d) : Int)) d))) : Int))) && decide (IntKind.wrap IntKind.i64 ((↑(wholeV d) : Int) + (↑(wholeV (List.take (Int.toNat (↑(List.length d) : Int) - Int.toNat (↑(wholeV d) : Int)) (List.drop (Int.toNat (↑(wholeV d) : Int)) d))) : Int)) ≤ (↑(List.length d) : Int))) (Tr.br (decide ((0 : Int) ≤ (↑(wholeV d) : Int)) && decide ((↑(wholeV d) : Int) ≤ IntKind.wrap IntKind.i64 ((↑(wholeV d) : Int) + (↑(wholeV (List.take (Int.toNat (↑(List.length d) : Int) - Int.toNat (↑(wholeV d) : Int)) (List.drop (Int.toNat (↑(wholeV d) : Int)) d))) : Int)))) (Tr.br (nmOk (nameP (List.take (Int.toNat (↑(wholeV d) : Int) - Int.toNat (0 : Int)) (List.drop (Int.toNat (0 : Int)) d)) p.1 p.2) (List.take (Int.toNat (IntKind.wrap IntKind.i64 ((↑(wholeV d) : Int) + (↑(wholeV (List.take (Int.toNat (↑(List.length d) : Int) - Int.toNat (↑(wholeV d) : Int)) (List.drop (Int.toNat (↑(wholeV d) : Int)) d))) : Int))) - Int.toNat (↑(wholeV d) : Int)) (List.drop (Int.toNat (↑(wholeV d) : Int)) d))) (Tr.br (mayV (List.take (Int.toNat (IntKind.wrap IntKind.i64 ((↑(wholeV d) : Int) + (↑(wholeV (List.take (Int.toNat (↑(List.length d) : Int) - Int.toNat (↑(wholeV d) : Int)) (List.drop (Int.toNat (↑(wholeV d) : Int)) d))) : Int))) - Int.toNat (↑(wholeV d) : Int)) (List.drop (Int.toNat (↑(wholeV d) : Int)) d))) (Tr.br (decide ((0 : Int) ≤ (↑(List.length d) : Int)) && decide ((↑(List.length d) : Int) ≤ (↑(List.length d) : Int))) (Tr.br (decide ((0 : Int) ≤ IntKind.wrap IntKind.i64 ((↑(wholeV d) : Int) + (↑(wholeV (List.take (Int.toNat (↑(List.length d) : Int) - Int.toNat (↑(wholeV d) : Int)) (List.drop (Int.toNat (↑(wholeV d) : Int)) d))) : Int))) && decide (IntKind.wrap IntKind.i64 ((↑(wholeV d) : Int) + (↑(wholeV (List.take (Int.toNat (↑(List.length d) : Int) - Int.toNat (↑(wholeV d) : Int)) (List.drop (Int.toNat (↑(wholeV d) : Int)) d))) : Int)) ≤ (↑(List.length d) : Int))) (Tr.br (Nat.ble (List.length (Prod.fst (nameP (List.take (Int.toNat (IntKind.wrap IntKind.i64 ((↑(wholeV d) : Int) + (↑(wholeV (List.take (Int.toNat (↑(List.length d) : Int) - Int.toNat (↑(wholeV d) : Int)) (List.drop (Int.toNat (↑(wholeV d) : Int)) d))) : Int))) - Int.toNat (↑(wholeV d) : Int)) (List.drop (Int.toNat (↑(wholeV d) : Int)) d)) (Prod.fst (nameP (List.take (Int.toNat (↑(wholeV d) : Int) - Int.toNat (0 : Int)) (List.drop (Int.toNat (0 : Int)) d)) p.1 p.2)) (Prod.snd (nameP (List.take (Int.toNat (↑(wholeV d) : Int) - Int.toNat (0 : Int)) (List.drop (Int.toNat (0 : Int)) d)) p.1 p.2)))) + List.length (List.take (Int.toNat (↑(List.length d) : Int) - Int.toNat (IntKind.wrap IntKind.i64 ((↑(wholeV d) : Int) + (↑(wholeV (List.take (Int.toNat (↑(List.length d) : Int) - Int.toNat (↑(wholeV d) : Int)) (List.drop (Int.toNat (↑(wholeV d) : Int)) d))) : Int)))) (List.drop (Int.toNat (IntKind.wrap IntKind.i64 ((↑(wholeV d) : Int) + (↑(wholeV (List.take (Int.toNat (↑(List.length d) : Int) - Int.toNat (↑(wholeV d) : Int)) (List.drop (Int.toNat (↑(wholeV d) : Int)) d))) : Int)))) d))) 9223372036854775807) (Tr.ret ([AV.agg [AV.str (Prod.fst (nameP (List.take (Int.toNat (IntKind.wrap IntKind.i64 ((↑(wholeV d) : Int) + (↑(wholeV (List.take (Int.toNat (↑(List.length d) : Int) - Int.toNat (↑(wholeV d) : Int)) (List.drop (Int.toNat (↑(wholeV d) : Int)) d))) : Int))) - Int.toNat (↑(wholeV d) : Int)) (List.drop (Int.toNat (↑(wholeV d) : Int)) d)) (Prod.fst (nameP (List.take (Int.toNat (↑(wholeV d) : Int) - Int.toNat (0 : Int)) (List.drop (Int.toNat (0 : Int)) d)) p.1 p.2)) (Prod.snd (nameP (List.take (Int.toNat (↑(wholeV d) : Int) - Int.toNat (0 : Int)) (List.drop (Int.toNat (0 : Int)) d)) p.1 p.2))) ++ List.take (Int.toNat (↑(List.length d) : Int) - Int.toNat (IntKind.wrap IntKind.i64 ((↑(wholeV d) : Int) + (↑(wholeV (List.take (Int.toNat (↑(List.length d) : Int) - Int.toNat (↑(wholeV d) : Int)) (List.drop (Int.toNat (↑(wholeV d) : Int)) d))) : Int)))) (List.drop (Int.toNat (IntKind.wrap IntKind.i64 ((↑(wholeV d) : Int) + (↑(wholeV (List.take (Int.toNat (↑(List.length d) : Int) - Int.toNat (↑(wholeV d) : Int)) (List.drop (Int.toNat (↑(wholeV d) : Int)) d))) : Int)))) d)), AV.list (Ty.pair Ty.str (Ty.int IntKind.i64)) (Prod.snd (nameP (List.take (Int.toNat (IntKind.wrap IntKind.i64 ((↑(wholeV d) : Int) + (↑(wholeV (List.take (Int.toNat (↑(List.length d) : Int) - Int.toNat (↑(wholeV d) : Int)) (List.drop (Int.toNat (↑(wholeV d) : Int)) d))) : Int))) - Int.toNat (↑(wholeV d) : Int)) (List.drop (Int.toNat (↑(wholeV d) : Int)) d)) (Prod.fst (nameP (List.take (Int.toNat (↑(wholeV d) : Int) - Int.toNat (0 : Int)) (List.drop (Int.toNat (0 : Int)) d)) p.1 p.2)) (Prod.snd (nameP (List.take (Int.toNat (↑(wholeV d) : Int) - Int.toNat (0 : Int)) (List.drop (Int.toNat (0 : Int)) d)) p.1 p.2))))], AV.int IntKind.i64 (0 : Int)], [])) Tr.no) Tr.no) Tr.no) (Tr.br (decide ((0 : Int) ≤ (↑(List.length d) : Int)) && decide ((↑(List.length d) : Int) ≤ (↑(List.length d) : Int))) (Tr.br (decide ((0 : Int) ≤ IntKind.wrap IntKind.i64 ((↑(wholeV d) : Int) + (↑(wholeV (List.take (Int.toNat (↑(List.length d) : Int) - Int.toNat (↑(wholeV d) : Int)) (List.drop (Int.toNat (↑(wholeV d) : Int)) d))) : Int))) && decide (IntKind.wrap IntKind.i64 ((↑(wholeV d) : Int) + (↑(wholeV (List.take (Int.toNat (↑(List.length d) : Int) - Int.toNat (↑(wholeV d) : Int)) (List.drop (Int.toNat (↑(wholeV d) : Int)) d))) : Int)) ≤ (↑(List.length d) : Int))) (Tr.br (Nat.ble (List.length (Prod.fst (nameP (List.take (Int.toNat (↑(wholeV d) : Int) - Int.toNat (0 : Int)) (List.drop (Int.toNat (0 : Int)) d)) p.1 p.2)) + List.length (List.take (Int.toNat (↑(List.length d) : Int) - Int.toNat (IntKind.wrap IntKind.i64 ((↑(wholeV d) : Int) + (↑(wholeV (List.take (Int.toNat (↑(List.length d) : Int) - Int.toNat (↑(wholeV d) : Int)) (List.drop (Int.toNat (↑(wholeV d) : Int)) d))) : Int)))) (List.drop (Int.toNat (IntKind.wrap IntKind.i64 ((↑(wholeV d) : Int) + (↑(wholeV (List.take (Int.toNat (↑(List.length d) : Int) - Int.toNat (↑(wholeV d) : Int)) (List.drop (Int.toNat (↑(wholeV d) : Int)) d))) : Int)))) d))) 9223372036854775807) (Tr.ret ([AV.agg [AV.str (Prod.fst (nameP (List.take (Int.toNat (↑(wholeV d) : Int) - Int.toNat (0 : Int)) (List.drop (Int.toNat (0 : Int)) d)) p.1 p.2) ++ List.take (Int.toNat (↑(List.length d) : Int) - Int.toNat (IntKind.wrap IntKind.i64 ((↑(wholeV d) : Int) + (↑(wholeV (List.take (Int.toNat (↑(List.length d) : Int) - Int.toNat (↑(wholeV d) : Int)) (List.drop (Int.toNat (↑(wholeV d) : Int)) d))) : Int)))) (List.drop (Int.toNat (IntKind.wrap IntKind.i64 ((↑(wholeV d) : Int) + (↑(wholeV (List.take (Int.toNat (↑(List.length d) : Int) - Int.toNat (↑(wholeV d) : Int)) (List.drop (Int.toNat (↑(wholeV d) : Int)) d))) : Int)))) d)), AV.list (Ty.pair Ty.str (Ty.int IntKind.i64)) (Prod.snd (nameP (List.take (Int.toNat (↑(wholeV d) : Int) - Int.toNat (0 : Int)) (List.drop (Int.toNat (0 : Int)) d)) p.1 p.2))], AV.int IntKind.i64 (0 : Int)], [])) Tr.no) Tr.no) Tr.no)) Tr.no) Tr.no) Tr.no) (Tr.br (decide ((0 : Int) ≤ IntKind.wrap IntKind.i64 ((↑(wholeV d) : Int) + (↑(wholeV (List.take (Int.toNat (↑(List.length d) : Int) - Int.toNat (↑(wholeV d) : Int)) (List.drop (Int.toNat (↑(wholeV d) : Int)) d))) : Int))) && decide (IntKind.wrap IntKind.i64 ((↑(wholeV d) : Int) + (↑(wholeV (List.take (Int.toNat (↑(List.length d) : Int) - Int.toNat (↑(wholeV d) : Int)) (List.drop (Int.toNat (↑(wholeV d) : Int)) d))) : Int)) ≤ (↑(List.length d) : Int))) (Tr.br (decide ((0 : Int) ≤ (↑(wholeV d) : Int)) && decide ((↑(wholeV d) : Int) ≤ IntKind.wrap IntKind.i64 ((↑(wholeV d) : Int) + (↑(wholeV (List.take (Int.toNat (↑(List.length d) : Int) - Int.toNat (↑(wholeV d) : Int)) (List.drop (Int.toNat (↑(wholeV d) : Int)) d))) : Int)))) (Tr.br (nmOk p (List.take (Int.toNat (IntKind.wrap IntKind.i64 ((↑(wholeV d) : Int) + (↑(wholeV (List.take (Int.toNat (↑(List.length d) : Int) - Int.toNat (↑(wholeV d) : Int)) (List.drop (Int.toNat (↑(wholeV d) : Int)) d))) : Int))) - Int.toNat (↑(wholeV d) : Int)) (List.drop (Int.toNat (↑(wholeV d) : Int)) d))) (Tr.br (mayV (List.take (Int.toNat (IntKind.wrap IntKind.i64 ((↑(wholeV d) : Int) + (↑(wholeV (List.take (Int.toNat (↑(List.length d) : Int) - Int.toNat (↑(wholeV d) : Int)) (List.drop (Int.toNat (↑(wholeV d) : Int)) d))) : Int))) - Int.toNat (↑(wholeV d) : Int)) (List.drop (Int.toNat (↑(wholeV d) : Int)) d))) (Tr.br (decide ((0 : Int) ≤ (↑(List.length d) : Int)) && decide ((↑(List.length d) : Int) ≤ (↑(List.length d) : Int))) (Tr.br (decide ((0 : Int) ≤ IntKind.wrap IntKind.i64 ((↑(wholeV d) : Int) + (↑(wholeV (List.take (Int.toNat (↑(List.length d) : Int) - Int.toNat (↑(wholeV d) : Int)) (List.drop (Int.toNat (↑(wholeV d) : Int)) d))) : Int))) && decide (IntKind.wrap IntKind.i64 ((↑(wholeV d) : Int) + (↑(wholeV (List.take (Int.toNat (↑(List.length d) : Int) - Int.toNat (↑(wholeV d) : Int)) (List.drop (Int.toNat (↑(wholeV d) : Int)) d))) : Int)) ≤ (↑(List.length d) : Int))) (Tr.br (Nat.ble (List.length (Prod.fst (nameP (List.take (Int.toNat (IntKind.wrap IntKind.i64 ((↑(wholeV d) : Int) + (↑(wholeV (List.take (Int.toNat (↑(List.length d) : Int) - Int.toNat (↑(wholeV d) : Int)) (List.drop (Int.toNat (↑(wholeV d) : Int)) d))) : Int))) - Int.toNat (↑(wholeV d) : Int)) (List.drop (Int.toNat (↑(wholeV d) : Int)) d)) p.1 p.2)) + List.length (List.take (Int.toNat (↑(List.length d) : Int) - Int.toNat (IntKind.wrap IntKind.i64 ((↑(wholeV d) : Int) + (↑(wholeV (List.take (Int.toNat (↑(List.length d) : Int) - Int.toNat (↑(wholeV d) : Int)) (List.drop (Int.toNat (↑(wholeV d) : Int)) d))) : Int)))) (List.drop (Int.toNat (IntKind.wrap IntKind.i64 ((↑(wholeV d) : Int) + (↑(wholeV (List.take (Int.toNat (↑(List.length d) : Int) - Int.toNat (↑(wholeV d) : Int)) (List.drop (Int.toNat (↑(wholeV d) : Int)) d))) : Int)))) d))) 9223372036854775807) (Tr.ret ([AV.agg [AV.str (Prod.fst (nameP (List.take (Int.toNat (IntKind.wrap IntKind.i64 ((↑(wholeV d) : Int) + (↑(wholeV (List.take (Int.toNat (↑(List.length d) : Int) - Int.toNat (↑(wholeV d) : Int)) (List.drop (Int.toNat (↑(wholeV d) : Int)) d))) : Int))) - Int.toNat (↑(wholeV d) : Int)) (List.drop (Int.toNat (↑(wholeV d) : Int)) d)) p.1 p.2) ++ List.take (Int.toNat (↑(List.length d) : Int) - Int.toNat (IntKind.wrap IntKind.i64 ((↑(wholeV d) : Int) + (↑(wholeV (List.take (Int.toNat (↑(List.length d) : Int) - Int.toNat (↑(wholeV d) : Int)) (List.drop (Int.toNat (↑(wholeV d) : Int)) d))) : Int)))) (List.drop (Int.toNat (IntKind.wrap IntKind.i64 ((↑(wholeV d) : Int) + (↑(wholeV (List.take (Int.toNat (↑(List.length d) : Int) - Int.toNat (↑(wholeV d) : Int)) (List.drop (Int.toNat (↑(wholeV d) : Int)) d))) : Int)))) d)), AV.list (Ty.pair Ty.str (Ty.int IntKind.i64)) (Prod.snd (nameP (List.take (Int.toNat (IntKind.wrap IntKind.i64 ((↑(wholeV d) : Int) + (↑(wholeV (List.take (Int.toNat (↑(List.length d) : Int) - Int.toNat (↑(wholeV d) : Int)) (List.drop (Int.toNat (↑(wholeV d) : Int)) d))) : Int))) - Int.toNat (↑(wholeV d) : Int)) (List.drop (Int.toNat (↑(wholeV d) : Int)) d)) p.1 p.2))], AV.int IntKind.i64 (0 : Int)], [])) Tr.no) Tr.no) Tr.no) (Tr.br (decide ((0 : Int) ≤ (↑(List.length d) : Int)) && decide ((↑(List.length d) : Int) ≤ (↑(List.length d) : Int))) (Tr.br (decide ((0 : Int) ≤ IntKind.wrap IntKind.i64 ((↑(wholeV d) : Int) + (↑(wholeV (List.take (Int.toNat (↑(List.length d) : Int) - Int.toNat (↑(wholeV d) : Int)) (List.drop (Int.toNat (↑(wholeV d) : Int)) d))) : Int))) && decide (IntKind.wrap IntKind.i64 ((↑(wholeV d) : Int) + (↑(wholeV (List.take (Int.toNat (↑(List.length d) : Int) - Int.toNat (↑(wholeV d) : Int)) (List.drop (Int.toNat (↑(wholeV d) : Int)) d))) : Int)) ≤ (↑(List.length d) : Int))) (Tr.br (Nat.ble (List.length p.1 + List.length (List.take (Int.toNat (↑(List.length d) : Int) - Int.toNat (IntKind.wrap IntKind.i64 ((↑(wholeV d) : Int) + (↑(wholeV (List.take (Int.toNat (↑(List.length d) : Int) - Int.toNat (↑(wholeV d) : Int)) (List.drop (Int.toNat (↑(wholeV d) : Int)) d))) : Int)))) (List.drop (Int.toNat (IntKind.wrap IntKind.i64 ((↑(wholeV d) : Int) + (↑(wholeV (List.take (Int.toNat (↑(List.length d) : Int) - Int.toNat (↑(wholeV d) : Int)) (List.drop (Int.toNat (↑(wholeV d) : Int)) d))) : Int)))) d))) 9223372036854775807) (Tr.ret ([AV.agg [AV.str (p.1 ++ List.take (Int.toNat (↑(List.length d) : Int) - Int.toNat (IntKind.wrap IntKind.i64 ((↑(wholeV d) : Int) + (↑(wholeV (List.take (Int.toNat (↑(List.length d) : Int) - Int.toNat (↑(wholeV d) : Int)) (List.drop (Int.toNat (↑(wholeV d) : Int)) d))) : Int)))) (List.drop (Int.toNat (IntKind.wrap IntKind.i64 ((↑(wholeV d) : Int) + (↑(wholeV (List.take (Int.toNat (↑(List.length d) : Int) - Int.toNat (↑(wholeV d) : Int)) (List.drop (Int.toNat (↑(wholeV d) : Int)) d))) : Int)))) d)), AV.list (Ty.pair Ty.str (Ty.int IntKind.i64)) p.2], AV.int IntKind.i64 (0 : Int)], [])) Tr.no) Tr.no) Tr.no)) Tr.no) Tr.no) Tr.no)) Tr.no) Tr.no) Tr.no) Tr.no) Tr.no) Tr.no) (Tr.br (Nat.ble (List.length p.1 + List.length d) 9223372036854775807) (Tr.ret ([AV.agg [AV.str (p.1 ++ d), AV.list (Ty.pair Ty.str (Ty.int IntKind.i64)) p.2], AV.int IntKind.i64 (0 : Int)], [])) Tr.no))))))) Tr.no
def os70 : OSpec := { f := 70, sh := [.d (.pair .str (.list (.pair .str (.int .i64)))) true, .d (.int .u16) false, .d .str false], so := [], F := fun (p, k, d, _) _ => t70 p k d }
set_option maxRecDepth 1000000 in
theorem fn70 (p : (List UInt8 × List (List UInt8 × Int))) (k : Int) (d : List UInt8) : evC TN (orcB [fs76w, fs100w, fs62w, fs63] []) (lpOf h70 0 (lsOf [])) c70 1000000 (startSt [AV.ofTy (.pair .str (.list (.pair .str (.int .i64)))) p true, .int .u16 k, .str d] [] Try.f70.ntmps) (finishK TN false 0 Try.f70) = (t70 p k d).get := by kernel_rfl
theorem ok70 : os70.Ok Try.prog := by
  refine os_ok mixed0 tabN (orcB_sound (all_cons okf76w (all_cons okf100w (all_cons okf62w (all_cons okf63 all_nil)))) all_nil) h70 (d := 0) (n0 := 0) (S := lsOf []) Try.func70 (by kernel_rfl) (c := c70) (by kernel_rfl) rfl (no_loops (by kernel_rfl)) (by omega) (by kernel_rfl) ?_
  intro x'' y'' q'' hq''
  obtain ⟨(p : (List UInt8 × List (List UInt8 × Int))), (k : Int), (d : List UInt8), _⟩ := x''
  exact (fn70 p k d).trans hq''
def fs70 : FSpec := fsT 70 [((.pair .str (.list (.pair .str (.int .i64)))), true), ((.int .u16), false), (.str, false)] [((.pair .str (.list (.pair .str (.int .i64)))), true), ((.int .i64), false)] fun (p, k, d, _) => t70 p k d
theorem okf70 : fs70.Ok Try.prog := fsT_ok fun x'' r'' hr'' => ok70 x'' () r'' hr''
theorem parts_SOA {d : List UInt8} (h : mayR 6 d = true) : partsV 6 d = [d.take (wholeV d), (d.drop (wholeV d)).take (wholeV (d.drop (wholeV d))), (d.drop (wholeV d)).drop (wholeV (d.drop (wholeV d)))] := by
  rw [may_SOA, Bool.and_eq_true, Bool.and_eq_true, Bool.and_eq_true, decide_eq_true_eq] at h
  obtain ⟨⟨h0, h1, h2⟩, _⟩ := h
  obtain ⟨e1, e2⟩ := okP_name d
  obtain ⟨e3, e4⟩ := okP_name (d.drop (wholeV d))
  obtain ⟨e5, e6⟩ := okP_fix (x := 20) (by omega) ((d.drop (wholeV d)).drop (wholeV (d.drop (wholeV d))))
  unfold partsV
  rw [show layV 6 = [-1, -1, 20] from rfl, cutS, e2, e1, if_pos h0, Int.toNat_natCast, cutS, e4, e3, if_pos h1, Int.toNat_natCast, cutS, e6, e5, if_pos (by rw [h2]; rfl), show (20 : Int).toNat = 20 from rfl, List.take_of_length_le (show ((d.drop (wholeV d)).drop (wholeV (d.drop (wholeV d)))).length ≤ 20 by omega)]
  rfl
theorem tk_end (d : List UInt8) (a : Nat) : List.take (Int.toNat (d.length : Int) - Int.toNat (a : Int)) (List.drop (Int.toNat (a : Int)) d) = d.drop a := by
  simp only [Int.toNat_natCast]
  exact List.take_of_length_le (by rw [List.length_drop]; omega)
theorem tk_end2 (d : List UInt8) (a b : Nat) : List.take (Int.toNat (d.length : Int) - Int.toNat ((a : Int) + (b : Int))) (List.drop (Int.toNat ((a : Int) + (b : Int))) d) = (d.drop a).drop b := by
  rw [show Int.toNat ((a : Int) + (b : Int)) = a + b by omega, List.drop_drop]
  exact List.take_of_length_le (by rw [List.length_drop]; omega)
theorem tk_mid (d : List UInt8) (a b : Nat) : List.take (Int.toNat ((a : Int) + (b : Int)) - Int.toNat (a : Int)) (List.drop (Int.toNat (a : Int)) d) = (d.drop a).take b := by
  rw [show Int.toNat ((a : Int) + (b : Int)) - Int.toNat (a : Int) = b by omega, Int.toNat_natCast]
theorem tk_beg (d : List UInt8) (a : Nat) : List.take (Int.toNat (a : Int) - Int.toNat (0 : Int)) (List.drop (Int.toNat (0 : Int)) d) = d.take a := by
  rw [show Int.toNat (a : Int) - Int.toNat (0 : Int) = a by omega, show Int.toNat (0 : Int) = 0 from rfl, List.drop_zero]
def ptOk (p : PKt) (d : List UInt8) : Bool := bigS d && (kOk p.2 && (Nat.ble p.1.length 1000000000 && Nat.ble p.2.length 1000000000))
theorem nmOk_of {p : PKt} {n : List UInt8} (hn : n.length ≤ 70000) (hk : kOk p.2 = true) (h1 : p.1.length ≤ 10000000000) (h2 : p.2.length ≤ 10000000000) : nmOk p n = true := by
  unfold nmOk
  rw [hk, show bigS n = true by simp [bigS]; omega, Nat.ble_eq_true_of_le h1, Nat.ble_eq_true_of_le h2]
  rfl
theorem nameP_k {p : PKt} {n : List UInt8} (hm : mayV n = true) (hk : kOk p.2 = true) : kOk (nameP n p.1 p.2).2 = true ∧ (nameP n p.1 p.2).1.length ≤ p.1.length + n.length ∧ (nameP n p.1 p.2).2.length ≤ p.2.length + n.length := by
  have hk2 := (stN_k (p := p) (x := (n, false)) hk).1
  unfold stN at hk2
  rw [show mayV (n, false).1 = true from hm, cond_true] at hk2
  obtain ⟨l1, _, l3⟩ := nameL_len _ n p.1 p.2 rfl (may_iff.1 hm).1
  exact ⟨hk2, by omega, by omega⟩
theorem putR_one {k x : Int} {d : List UInt8} {p : PKt} (hlay : layV k = [x]) (hx : (x == -1) = false) (h : mayR k d = true) : putR k d p = (p.1 ++ d, p.2) := by
  unfold putR
  rw [parts_one hlay h, hlay, putS, hx]
  rfl
theorem putR_name {k : Int} {d : List UInt8} {p : PKt} (hk : k = 2 ∨ k = 5 ∨ k = 12) (h : mayR k d = true) (hm : mayV d = true) : putR k d p = nameP d p.1 p.2 := by
  unfold putR
  rw [parts_name hk h, show layV k = [-1] by rcases hk with rfl | rfl | rfl <;> rfl, putS, putS]
  show (bif mayV d then nameP d p.1 p.2 else p) = _
  rw [hm, cond_true]
theorem putR_MX {d : List UInt8} {p : PKt} (h : mayR 15 d = true) (hm : mayV (d.drop 2) = true) : putR 15 d p = nameP (d.drop 2) (p.1 ++ d.take 2) p.2 := by
  unfold putR
  rw [parts_MX h, show layV 15 = [2, -1] from rfl, putS, putS, putS]
  show (bif mayV (d.drop 2) then nameP (d.drop 2) (p.1 ++ d.take 2) p.2 else _) = _
  rw [hm, cond_true]
theorem putR_SOA {d x y z : List UInt8} {p : PKt} (hp : partsV 6 d = [x, y, z]) (hx : mayV x = true) (hy : mayV y = true) : putR 6 d p = ((nameP y (nameP x p.1 p.2).1 (nameP x p.1 p.2).2).1 ++ z, (nameP y (nameP x p.1 p.2).1 (nameP x p.1 p.2).2).2) := by
  unfold putR
  rw [hp, show layV 6 = [-1, -1, 20] from rfl, putS, putS, putS, putS]
  have e1 : stN p (List.headD [x, y, z] [], false) = nameP x p.1 p.2 := by
    show (bif mayV x then nameP x p.1 p.2 else p) = _
    rw [hx, cond_true]
  rw [show ((-1 : Int) == -1) = true from rfl, show ((20 : Int) == -1) = false from rfl, cond_true, cond_true, cond_false, e1]
  have e2 : stN (nameP x p.1 p.2) (List.headD [x, y, z].tail [], false) = nameP y (nameP x p.1 p.2).1 (nameP x p.1 p.2).2 := by
    show (bif mayV y then nameP y (nameP x p.1 p.2).1 (nameP x p.1 p.2).2 else _) = _
    rw [hy, cond_true]
  rw [e2]
  rfl
def pkV (p : PKt) (e : Int) : Res := ([.agg [.str p.1, .list (.pair .str (.int .i64)) p.2], .int .i64 e], [])
theorem put4_all (p : PKt) (k : Int) (d : List UInt8) (h : ptOk p d = true) : Tr.all (fun r : Res => r = bif mayR k d then pkV (putR k d p) 0 else pkV p 1) (t70 p k d) := by
  simp only [ptOk, Bool.and_eq_true] at h
  obtain ⟨hd, hk, h1, h2⟩ := h
  have h1 := Nat.le_of_ble_eq_true h1
  have h2 := Nat.le_of_ble_eq_true h2
  have hlen : d.length ≤ 1000000000000 := by simpa [bigS] using hd
  unfold t70
  cases hm : mayR k d with
  | false => exact Tr.all_t hd (Tr.all_t rfl (Tr.all_ret rfl))
  | true =>
    rw [cond_true]
    have h65 := (may_parts hm).2.2.1
    have hname : (k = 2 ∨ k = 5 ∨ k = 12) → mayV d = true ∧ nmOk p d = true ∧ putR k d p = nameP d p.1 p.2 := fun hk3 => by
      have h3 := hm
      rw [may_name hk3, Bool.and_eq_true] at h3
      exact ⟨h3.1, nmOk_of (by omega) hk (by omega) (by omega), putR_name hk3 hm h3.1⟩
    refine Tr.all_t hd (Tr.all_f rfl ?_)
    refine Tr.all_br (fun c => ?_) fun c2 => Tr.all_br (fun c => ?_) fun c5 => Tr.all_br (fun c => ?_) fun c12 => Tr.all_br (fun c => ?_) fun c15 => Tr.all_br (fun c => ?_) fun c6 => ?_
    · obtain ⟨a, b, e⟩ := hname (.inl (beq_iff_eq.1 c))
      rw [e]; exact Tr.all_t b (Tr.all_t a (Tr.all_ret rfl))
    · obtain ⟨a, b, e⟩ := hname (.inr (.inl (beq_iff_eq.1 c)))
      rw [e]; exact Tr.all_t b (Tr.all_t a (Tr.all_ret rfl))
    · obtain ⟨a, b, e⟩ := hname (.inr (.inr (beq_iff_eq.1 c)))
      rw [e]; exact Tr.all_t b (Tr.all_t a (Tr.all_ret rfl))
    · obtain rfl := beq_iff_eq.1 c
      have h3 := hm
      rw [may_MX, Bool.and_eq_true, Bool.and_eq_true, decide_eq_true_eq] at h3
      obtain ⟨⟨h3, h4⟩, _⟩ := h3
      have e1 : List.take (Int.toNat (d.length : Int) - Int.toNat (2 : Int)) (List.drop (Int.toNat (2 : Int)) d) = d.drop 2 := tk_end d 2
      have e2 : List.take (Int.toNat (2 : Int) - Int.toNat (0 : Int)) (List.drop (Int.toNat (0 : Int)) d) = d.take 2 := tk_beg d 2
      rw [e1, e2, putR_MX hm h4]
      have hl2 := List.length_drop (l := d) (i := 2)
      have hl3 := List.length_take (l := d) (i := 2)
      exact Tr.all_t (by rw [dec_true (by omega), dec_true (by omega)]; rfl) (Tr.all_t (Nat.ble_eq_true_of_le (by omega)) (Tr.all_t (by rw [dec_true (by omega), dec_true (by omega)]; rfl) (Tr.all_t (by rw [dec_true (by omega), dec_true (by omega)]; rfl) (Tr.all_t (nmOk_of (by omega) hk (by rw [List.length_append]; omega) (show p.2.length ≤ _ by omega)) (Tr.all_t h4 (Tr.all_ret rfl))))))
    · obtain rfl := beq_iff_eq.1 c
      have h3 := hm
      rw [may_SOA, Bool.and_eq_true, Bool.and_eq_true, Bool.and_eq_true, decide_eq_true_eq] at h3
      obtain ⟨⟨h3, h4, h5⟩, _⟩ := h3
      have m1 := whole_may (d := d) (by simpa using h3)
      have m2 := whole_may (d := d.drop (wholeV d)) (by simpa using h4)
      have l1 := wholeV_le d
      have l2 := wholeV_le (d.drop (wholeV d))
      have l3 := List.length_drop (l := d) (i := wholeV d)
      rw [tk_end, IntWalk.i64_in ((wholeV d : Int) + (wholeV (d.drop (wholeV d)) : Int)) (by omega), tk_end2, tk_mid, tk_beg, putR_SOA (parts_SOA hm) m1 m2]
      generalize wholeV (d.drop (wholeV d)) = b at *
      generalize wholeV d = a at *
      have l4 := List.length_take (l := d) (i := a)
      have l5 := List.length_take (l := d.drop a) (i := b)
      obtain ⟨k1, k2, k3⟩ := nameP_k m1 hk
      obtain ⟨k4, k5, k6⟩ := nameP_k m2 k1
      refine Tr.all_t ?_ (Tr.all_t ?_ (Tr.all_t ?_ (Tr.all_t ?_ (Tr.all_t ?_ (Tr.all_t (nmOk_of (by omega) hk (by omega) (by omega)) (Tr.all_t m1 (Tr.all_t ?_ (Tr.all_t ?_ (Tr.all_t (nmOk_of (by omega) k1 (by omega) (by omega)) (Tr.all_t m2 (Tr.all_t ?_ (Tr.all_t ?_ (Tr.all_t (Nat.ble_eq_true_of_le (by omega)) (Tr.all_ret rfl))))))))))))))
      all_goals first | (rw [dec_true (by omega), dec_true (by omega)]; rfl) | (simp [bigS]; omega) | exact hd
    · have hx : ∃ x, layV k = [x] ∧ (x == -1) = false := by
        have h2 : k ≠ 2 := by simpa using c2
        have h5 : k ≠ 5 := by simpa using c5
        have h12 : k ≠ 12 := by simpa using c12
        have h15 : k ≠ 15 := by simpa using c15
        have h6 : k ≠ 6 := by simpa using c6
        unfold layV
        by_cases a1 : k = 1
        · exact ⟨_, if_pos a1, rfl⟩
        rw [if_neg a1]
        by_cases a2 : k = 28
        · exact ⟨_, if_pos a2, rfl⟩
        rw [if_neg a2, if_neg (by omega), if_neg h15, if_neg h6]
        by_cases a3 : k = 16
        · exact ⟨_, if_pos a3, rfl⟩
        · exact ⟨_, if_neg a3, rfl⟩
      obtain ⟨x, e1, e2⟩ := hx
      rw [putR_one e1 e2 hm]
      exact Tr.all_t (Nat.ble_eq_true_of_le (by omega)) (Tr.all_ret rfl)
def fs70w : FSpec := fs70.like fun (p, k, d, _) => .br (ptOk p d) (.br (mayR k d) (.ret (putR k d p, (0 : Int), ())) (.ret (p, (1 : Int), ()))) .no
theorem okf70w : fs70w.Ok Try.prog := by
  refine flike_ok okf70 _ ?_
  rintro ⟨(p : List UInt8 × Known), (k : Int), (d : List UInt8), _⟩ y h
  simp only [Tr.get] at h
  cases hc : ptOk p d with
  | false => rw [hc] at h; cases h
  | true =>
    rw [hc, cond_true] at h
    have ha := put4_all p k d hc
    cases hm : mayR k d with
    | false =>
      rw [hm, cond_false] at h ha
      cases h
      exact convR_of (vs := (pkV p 1).1) rfl rfl (Tr.get_of_all ha)
    | true =>
      rw [hm, cond_true] at h ha
      cases h
      exact convR_of (vs := (pkV (putR k d p) 0).1) rfl rfl (Tr.get_of_all ha)
def ls67q : LoopSpec := { bid := 0, sh := [], so := [], F := fun _ _ => .no }
def t67z (k : Int) (d : List UInt8) : Tr Res := Tr.ret ([AV.int IntKind.i64 (1 : Int)], [])
set_option maxRecDepth 1000000 in
theorem fn67z (k : Int) (d : List UInt8) : evC TN (orcB [] []) (lpOf h67 0 (lsOf [ls67q])) c67 1000000 (startSt [.np, .int .u16 k, .str d] [] Try.f67.ntmps) (finishK TN false 0 Try.f67) = (t67z k d).get := by kernel_rfl
def rpC (b : List Int) (m : Known) (S : List UInt8) (L : Known) (i : Int) : Bool := b.isEmpty && (m.isEmpty && (S.isEmpty && (L.isEmpty && decide (i = 0))))
theorem putS_len2 : ∀ (ps : List Int) (ls : List (List UInt8)) (p : PKt), (putS ps ls p).2.length ≤ p.2.length + ls.flatten.length
  | [], _, p => by simp [putS]
  | x :: ps, ls, p => by
    rw [putS]
    have hl : ls.flatten.length = (ls.headD []).length + ls.tail.flatten.length := by cases ls <;> simp
    cases hx : x == -1 with
    | true =>
      have q2 := putS_len2 ps ls.tail (stN p (ls.headD [], false))
      rw [cond_true, hl]
      have k2 : (stN p (ls.headD [], false)).2.length ≤ p.2.length + (ls.headD []).length := by
        show (bif mayV (ls.headD []) then nameP (ls.headD []) p.1 p.2 else p).2.length ≤ _
        cases hm : mayV (ls.headD []) with
        | false => rw [cond_false]; omega
        | true =>
          rw [cond_true]
          obtain ⟨_, _, l3⟩ := nameL_len _ (ls.headD []) p.1 p.2 rfl (may_iff.1 hm).1
          omega
      omega
    | false =>
      have q2 : (putS ps ls.tail (p.1 ++ ls.headD [], p.2)).2.length ≤ p.2.length + ls.tail.flatten.length := putS_len2 ps ls.tail (p.1 ++ ls.headD [], p.2)
      rw [cond_false, hl]
      omega
theorem putR_len {k : Int} {d : List UInt8} {p : PKt} (hm : mayR k d = true) (hk : kOk p.2 = true) : kOk (putR k d p).2 = true ∧ (putR k d p).1.length ≤ p.1.length + d.length ∧ (putR k d p).2.length ≤ p.2.length + d.length := by
  obtain ⟨q1, q2⟩ := putS_len (layV k) (partsV k d) p hk
  have q3 := putS_len2 (layV k) (partsV k d) p
  rw [(may_parts hm).2.2.2.2.2] at q2 q3
  exact ⟨q1, q2, q3⟩
end Go.Proofs.YtlkpiegllammdaaE
namespace Go.Proofs.YtlkpiegllammdaaE
open Go Go.Proofs.YtlkpiegllammdaaB
set_option linter.unusedVariables false
set_option linter.unusedSimpArgs false
theorem wrapU16 (n : Int) : IntKind.wrap .u16 n = n % 65536 := IntKind.wrap_u16 n
def closeB (b : List Int) (a : Int) : List Int := b.take (a - 2).toNat ++ bytesInt (put16 (((b.length : Int) - a) % 65536)) ++ b.drop a.toNat
def os66w : OSpec := os66.like fun _ (_, b, l, _) => .on (Nat.ble b.length 100000000000) ([.int .i64 ((b.length : Int) + 2)], pkO (b ++ [0, 0]) l)
theorem ok66w : os66w.Ok Try.prog := by
  refine like_ok ok66 _ ?_
  rintro _ ⟨_, (b : List Int), (l : Known), _⟩ r h
  obtain ⟨hb, rfl⟩ := Tr.get_on h
  have hb := Nat.le_of_ble_eq_true hb
  refine Tr.get_of_all ?_
  show (t66 b l).all _
  have e : bytesInt (put16 0) = [0, 0] := by decide
  unfold t66
  rw [e]
  refine Tr.all_t (fits_true (by simp [put16_len]; omega) (by simp [put16_len]; omega)) (Tr.all_ret ?_)
  simp
def os68w : OSpec := os68.like fun (a, _) (_, b, l, _) => .br (Nat.ble b.length 100000000000) (.br (decide (2 ≤ a) && decide (a ≤ (b.length : Int))) (.ret ([.int .i64 0], pkO (closeB b a) l)) (.ret ([.int .i64 1], pkO b l))) .no
theorem ok68w : os68w.Ok Try.prog := by
  refine like_ok ok68 _ ?_
  rintro ⟨(a : Int), _⟩ ⟨_, (b : List Int), (l : Known), _⟩ r h
  simp only [Tr.get] at h
  cases hb : Nat.ble b.length 100000000000 with
  | false => rw [hb] at h; cases h
  | true =>
    rw [hb, cond_true] at h
    have hb := Nat.le_of_ble_eq_true hb
    refine Tr.get_of_all ?_
    show (t68 a b l).all _
    unfold t68
    by_cases h2 : 2 ≤ a
    · by_cases h3 : a ≤ (b.length : Int)
      · rw [dec_true h2, dec_true h3] at h
        cases h
        have hw := wrapU16 ((b.length : Int) - a)
        rw [IntWalk.i64_in (a - 2) (by omega), IntWalk.i64_in ((b.length : Int) - a) (by omega), hw]
        refine Tr.all_f (dec_false (by omega)) (Tr.all_f (dec_false (by omega)) (Tr.all_t (by rw [dec_true (by omega), dec_true (by omega)]; rfl) (Tr.all_t (by rw [dec_true (by omega), dec_true (by omega)]; rfl) (Tr.all_t ?_ (Tr.all_ret ?_)))))
        · simp [n16C]; omega
        · unfold closeB
          rw [show a.toNat - (a - 2).toNat = 2 by omega, put16_len, show min 2 2 = 2 from rfl, show (a - 2).toNat + 2 = a.toNat by omega, List.take_of_length_le (l := bytesInt (put16 _)) (by rw [bytesInt_len, put16_len]; exact Nat.le_refl _)]
      · rw [dec_true h2, dec_false h3] at h
        cases h
        exact Tr.all_f (dec_false (by omega)) (Tr.all_t (dec_true (by omega)) (Tr.all_ret rfl))
    · rw [dec_false h2] at h
      cases h
      exact Tr.all_t (dec_true (by omega)) (Tr.all_ret rfl)
end Go.Proofs.YtlkpiegllammdaaE
namespace Go.Proofs.YtlkpiegllammdaaE
open Go Go.Proofs.YtlkpiegllammdaaB
set_option linter.unusedVariables false
set_option linter.unusedSimpArgs false
set_option maxRecDepth 100000
def btC4 (n many m i : Int) (b : List Int) : Bool := decide (many = 4) && (decide (m = 4) && (decide (i = 0) && decide (b = [0, 0, 0, 0])))
def byN4 (n : Int) (k : Nat) : Int := IntKind.wrap .u8 (Int.fdiv n (2 ^ (8 * k)))
noncomputable def b98f : Code := nthLoop c98 0
def ls98f : LoopSpec := { bid := 0, sh := [.d (.int .u32) false, .d (.int .i64) false, .row 0, .d (.int .i64) false, .d (.int .i64) false], so := [.row (.int .u8)], F := fun (n, many, m, i, _) (b, _) => .on (btC4 n many m i b) (.exit 0, [.rowA 0], [.row (.int .u8) [byN4 n 3, byN4 n 2, byN4 n 1, byN4 n 0]]) }
def r98f (n : Int) (many : Int) (m : Int) (i : Int) (b : List Int) : Tr (St ⊕ (Ex × St)) := Tr.br (decide (i < m)) (Tr.br (decide ((0 : Int) ≤ IntKind.wrap IntKind.i64 ((8 : Int) * i))) (Tr.br (decide ((0 : Int) ≤ IntKind.wrap IntKind.i64 (IntKind.wrap IntKind.i64 (many - (1 : Int)) - i))) (Tr.br (decide (IntKind.wrap IntKind.i64 (IntKind.wrap IntKind.i64 (many - (1 : Int)) - i) < (↑(List.length b) : Int))) (Tr.ret (Sum.inl (stOf [0, 1, 5, 9, 10] [AV.int IntKind.u32 n, AV.int IntKind.i64 many, AV.rowA 0, AV.int IntKind.i64 m, AV.int IntKind.i64 (IntKind.wrap IntKind.i64 (i + (1 : Int)))] [LObj.row (Ty.int IntKind.u8) (List.set b (Int.toNat (IntKind.wrap IntKind.i64 (IntKind.wrap IntKind.i64 (many - (1 : Int)) - i))) (IntKind.wrap IntKind.u8 (Int.fdiv n ((2 : Int) ^ min (Int.toNat (IntKind.wrap IntKind.i64 ((8 : Int) * i))) (IntKind.bits IntKind.u32)))))]))) Tr.no) Tr.no) Tr.no) (Tr.ret (Sum.inr (Ex.exit 0, stOf [5] [AV.rowA 0] [LObj.row (Ty.int IntKind.u8) b])))
set_option maxRecDepth 1000000 in
theorem round98f (orc : Orc) (lp : Lp) (n : Int) (many : Int) (m : Int) (i : Int) (b : List Int) : evC T0 orc lp b98f 0 (stOf [0, 1, 5, 9, 10] [.int .u32 n, .int .i64 many, .rowA 0, .int .i64 m, .int .i64 i] [.row (.int .u8) b]) (roundK [0, 1, 5, 9, 10] [5] 0) = (r98f n many m i b).get := by kernel_rfl
theorem wf98f (orc : Orc) (n : Int) (many : Int) (m : Int) (I'' : Int → List Int → Prop) (m'' : Int → List Int → Nat) (r'' : Ex × St) (h : ∀ (i : Int) (b : List Int), I'' i b → (r98f n many m i b).all fun x'' => x'' = .inr r'' ∨ ∃ (i' : Int) (b' : List Int), x'' = .inl (stOf [0, 1, 5, 9, 10] [.int .u32 n, .int .i64 many, .rowA 0, .int .i64 m, .int .i64 i'] [.row (.int .u8) b']) ∧ I'' i' b' ∧ m'' i' b' < m'' i b) (lp : Lp) (i : Int) (b : List Int) : I'' i b →
    loopF (fun st => evC T0 orc lp b98f 0 st (roundK [0, 1, 5, 9, 10] [5] 0)) (stOf [0, 1, 5, 9, 10] [.int .u32 n, .int .i64 many, .rowA 0, .int .i64 m, .int .i64 i] [.row (.int .u8) b]) = some r'' :=
  loop_tr (fun a'' : Int × List Int => stOf [0, 1, 5, 9, 10] [.int .u32 n, .int .i64 many, .rowA 0, .int .i64 m, .int .i64 a''.1] [.row (.int .u8) a''.2]) (fun a'' => I'' a''.1 a''.2) (fun a'' => m'' a''.1 a''.2) r'' (fun a'' => r98f n many m a''.1 a''.2)
    (fun a'' x hx => (round98f orc lp n many m a''.1 a''.2).trans hx) (fun a'' ha => Tr.all_mono (fun x'' hx => hx.imp id fun ⟨i', b', h1, h2, h3⟩ => ⟨(i', b'), h1, h2, h3⟩) (h (a''.1) (a''.2) ha)) (i, b)
theorem byN4_eq {n : Int} (h : 0 ≤ n) (k : Nat) : Int.fdiv n (2 ^ k) = n / 2 ^ k := Int.fdiv_eq_ediv_of_nonneg _ (by have : (0 : Int) < 2 ^ k := Int.pow_pos (by omega); omega)
theorem loop98f (orc : Orc) : ls98f.Ok T0 orc h98 0 0 b98f := by
  intro q'' hq'' x'' y'' r'' h
  obtain ⟨(n : Int), (many : Int), (m : Int), (i : Int), _⟩ := x''
  obtain ⟨(b : List Int), _⟩ := y''
  obtain ⟨hc, rfl⟩ := Tr.get_on h
  show loopF (fun st => evC T0 orc (lpN T0 orc h98 0 q'') b98f 0 st (roundK [0, 1, 5, 9, 10] [5] 0)) (stOf [0, 1, 5, 9, 10] [.int .u32 n, .int .i64 many, .rowA 0, .int .i64 m, .int .i64 i] [.row (.int .u8) b]) = some (.exit 0, stOf [5] ([.rowA 0]) ([.row (.int .u8) [byN4 n 3, byN4 n 2, byN4 n 1, byN4 n 0]]))
  simp only [btC4, Bool.and_eq_true, decide_eq_true_eq] at hc
  obtain ⟨rfl, rfl, rfl, rfl⟩ := hc
  refine wf98f _ n 4 4 (fun i b => (i = 0 ∧ b = [0, 0, 0, 0]) ∨ (i = 1 ∧ b = [0, 0, 0, byN4 n 0]) ∨ (i = 2 ∧ b = [0, 0, byN4 n 1, byN4 n 0]) ∨ (i = 3 ∧ b = [0, byN4 n 2, byN4 n 1, byN4 n 0]) ∨ (i = 4 ∧ b = [byN4 n 3, byN4 n 2, byN4 n 1, byN4 n 0])) (fun i _ => (4 - i).toNat) _ ?_ _ 0 [0, 0, 0, 0] (.inl ⟨rfl, rfl⟩)
  rintro i b (⟨rfl, rfl⟩ | ⟨rfl, rfl⟩ | ⟨rfl, rfl⟩ | ⟨rfl, rfl⟩ | ⟨rfl, rfl⟩)
  · exact Tr.all_t rfl (Tr.all_t (by decide) (Tr.all_t (by decide) (Tr.all_t (by decide) (Tr.all_ret (.inr ⟨_, _, rfl, .inr (.inl ⟨by decide, rfl⟩), by decide⟩)))))
  · exact Tr.all_t rfl (Tr.all_t (by decide) (Tr.all_t (by decide) (Tr.all_t rfl (Tr.all_ret (.inr ⟨_, _, rfl, .inr (.inr (.inl ⟨by decide, rfl⟩)), by decide⟩)))))
  · exact Tr.all_t rfl (Tr.all_t (by decide) (Tr.all_t (by decide) (Tr.all_t rfl (Tr.all_ret (.inr ⟨_, _, rfl, .inr (.inr (.inr (.inl ⟨by decide, rfl⟩))), by decide⟩)))))
  · exact Tr.all_t rfl (Tr.all_t (by decide) (Tr.all_t (by decide) (Tr.all_t rfl (Tr.all_ret (.inr ⟨_, _, rfl, .inr (.inr (.inr (.inr ⟨by decide, rfl⟩))), by decide⟩)))))
  · exact Tr.all_f rfl (Tr.all_ret (.inl rfl))
def t98f (n : Int) (many : Int) : Tr Res := Tr.br (decide ((0 : Int) ≤ many) && many == many && fits (Int.toNat many) 1) (Tr.br (btC4 n many many (0 : Int) (List.replicate (Int.toNat many) (Ty.dflt (Ty.int IntKind.u8)))) (Tr.ret ([AV.str [UInt8.ofNat (Int.toNat (byN4 n 3)), UInt8.ofNat (Int.toNat (byN4 n 2)), UInt8.ofNat (Int.toNat (byN4 n 1)), UInt8.ofNat (Int.toNat (byN4 n 0))]], [])) Tr.no) Tr.no
def os98f : OSpec := { f := 98, sh := [.d (.int .u32) false, .d (.int .i64) false], so := [], F := fun (n, many, _) _ => t98f n many }
set_option maxRecDepth 1000000 in
theorem fn98f (n : Int) (many : Int) : evC T0 (orcB [] []) (lpOf h98 0 (lsOf [ls98f])) c98 1000000 (startSt [.int .u32 n, .int .i64 many] [] Try.f98.ntmps) (finishK T0 false 0 Try.f98) = (t98f n many).get := by kernel_rfl
theorem ok98f : os98f.Ok Try.prog := by
  refine os_ok mixed0 tab0 (orcB_sound all_nil all_nil) h98 (d := 0) (n0 := 0) (S := lsOf [ls98f]) Try.func98 (by kernel_rfl) (c := c98) (by kernel_rfl) rfl (loops_eq (xs := [(0, b98f)]) (by kernel_rfl) (all_cons (ls_here (loop98f _)) all_nil)) (by omega) (by kernel_rfl) ?_
  intro x'' y'' q'' hq''
  obtain ⟨(n : Int), (many : Int), _⟩ := x''
  exact (fn98f n many).trans hq''
def fs98f : FSpec := fsT 98 [((.int .u32), false), ((.int .i64), false)] [(.str, false)] fun (n, many, _) => t98f n many
theorem okf98f : fs98f.Ok Try.prog := fsT_ok fun x'' r'' hr'' => ok98f x'' () r'' hr''
def t65 (n : Int) : Tr Res := Tr.ret ([AV.str [UInt8.ofNat (Int.toNat (byN4 n 3)), UInt8.ofNat (Int.toNat (byN4 n 2)), UInt8.ofNat (Int.toNat (byN4 n 1)), UInt8.ofNat (Int.toNat (byN4 n 0))]], [])
def os65 : OSpec := { f := 65, sh := [.d (.int .u32) false], so := [], F := fun (n, _) _ => t65 n }
set_option maxRecDepth 1000000 in
theorem fn65 (n : Int) : evC T0 (orcB [fs98f] []) (lpOf h65 0 (lsOf [])) c65 1000000 (startSt [.int .u32 n] [] Try.f65.ntmps) (finishK T0 false 0 Try.f65) = (t65 n).get := by kernel_rfl
theorem ok65 : os65.Ok Try.prog := by
  refine os_ok mixed0 tab0 (orcB_sound (all_cons okf98f all_nil) all_nil) h65 (d := 0) (n0 := 0) (S := lsOf []) Try.func65 (by kernel_rfl) (c := c65) (by kernel_rfl) rfl (no_loops (by kernel_rfl)) (by omega) (by kernel_rfl) ?_
  intro x'' y'' q'' hq''
  obtain ⟨(n : Int), _⟩ := x''
  exact (fn65 n).trans hq''
def fs65 : FSpec := fsT 65 [((.int .u32), false)] [(.str, false)] fun (n, _) => t65 n
theorem okf65 : fs65.Ok Try.prog := fsT_ok fun x'' r'' hr'' => ok65 x'' () r'' hr''
def t69 (n : Int) : Tr Res := Tr.br (n16C (IntKind.wrap IntKind.u16 (IntKind.wrap IntKind.u32 (Int.tdiv n (65536 : Int))))) (Tr.br (n16C (IntKind.wrap IntKind.u16 (Int.tmod n (65536 : Int)))) (Tr.ret ([AV.str [UInt8.ofNat (Int.toNat (IntKind.wrap IntKind.u16 (IntKind.wrap IntKind.u32 (Int.tdiv n (65536 : Int))) / (256 : Int))), UInt8.ofNat (Int.toNat (IntKind.wrap IntKind.u16 (IntKind.wrap IntKind.u32 (Int.tdiv n (65536 : Int))) % (256 : Int))), UInt8.ofNat (Int.toNat (IntKind.wrap IntKind.u16 (Int.tmod n (65536 : Int)) / (256 : Int))), UInt8.ofNat (Int.toNat (IntKind.wrap IntKind.u16 (Int.tmod n (65536 : Int)) % (256 : Int)))]], [])) Tr.no) Tr.no
def os69 : OSpec := { f := 69, sh := [.d (.int .u32) false], so := [], F := fun (n, _) _ => t69 n }
set_option maxRecDepth 1000000 in
theorem fn69 (n : Int) : evC T0 (orcB [fs64w] []) (lpOf h69 0 (lsOf [])) c69 1000000 (startSt [.int .u32 n] [] Try.f69.ntmps) (finishK T0 false 0 Try.f69) = (t69 n).get := by kernel_rfl
theorem ok69 : os69.Ok Try.prog := by
  refine os_ok mixed0 tab0 (orcB_sound (all_cons okf64w all_nil) all_nil) h69 (d := 0) (n0 := 0) (S := lsOf []) Try.func69 (by kernel_rfl) (c := c69) (by kernel_rfl) rfl (no_loops (by kernel_rfl)) (by omega) (by kernel_rfl) ?_
  intro x'' y'' q'' hq''
  obtain ⟨(n : Int), _⟩ := x''
  exact (fn69 n).trans hq''
def fs69 : FSpec := fsT 69 [((.int .u32), false)] [(.str, false)] fun (n, _) => t69 n
theorem okf69 : fs69.Ok Try.prog := fsT_ok fun x'' r'' hr'' => ok69 x'' () r'' hr''
def put32 (n : Int) : List UInt8 := put16 (n / 65536) ++ put16 (n % 65536)
def n32C (n : Int) : Bool := decide (0 ≤ n) && decide (n ≤ 4294967295)
def fs65w : FSpec := fs65.like fun (n, _) => .on (n32C n) (put32 n, ())
theorem okf65w : fs65w.Ok Try.prog := by
  refine flike_ok okf65 _ ?_
  rintro ⟨(n : Int), _⟩ y h
  obtain ⟨hc, rfl⟩ := Tr.get_on h
  simp only [n32C, Bool.and_eq_true, decide_eq_true_eq] at hc
  refine convR_of (vs := [.str (put32 n)]) rfl rfl (Tr.get_of_all ?_)
  show (t65 n).all _
  unfold t65
  have e : intBytes [byN4 n 3, byN4 n 2, byN4 n 1, byN4 n 0] = put32 n := by
    unfold byN4
    rw [byN4_eq hc.1, byN4_eq hc.1, byN4_eq hc.1, byN4_eq hc.1]
    simp only [IntKind.wrap_u8]
    unfold intBytes put32 put16
    simp only [List.map_cons, List.map_nil, List.cons_append, List.nil_append]
    have e1 : n / 2 ^ (8 * 3) % 256 = n / 65536 / 256 := by
      rw [show (2 : Int) ^ (8 * 3) = 16777216 from rfl]; omega
    have e2 : n / 2 ^ (8 * 2) % 256 = n / 65536 % 256 := by rw [show (2 : Int) ^ (8 * 2) = 65536 from rfl]
    have e3 : n / 2 ^ (8 * 1) % 256 = n % 65536 / 256 := by rw [show (2 : Int) ^ (8 * 1) = 256 from rfl]; omega
    have e4 : n / 2 ^ (8 * 0) % 256 = n % 65536 % 256 := by rw [show (2 : Int) ^ (8 * 0) = 1 from rfl]; omega
    rw [e1, e2, e3, e4]
  refine Tr.all_ret ?_
  rw [← e]
  rfl
def fs69w : FSpec := fs69.like fun (n, _) => .on (n32C n) (put32 n, ())
theorem okf69w : fs69w.Ok Try.prog := by
  refine flike_ok okf69 _ ?_
  rintro ⟨(n : Int), _⟩ y h
  obtain ⟨hc, rfl⟩ := Tr.get_on h
  simp only [n32C, Bool.and_eq_true, decide_eq_true_eq] at hc
  refine convR_of (vs := [.str (put32 n)]) rfl rfl (Tr.get_of_all ?_)
  show (t69 n).all _
  unfold t69
  have e1 : IntKind.wrap IntKind.u16 (IntKind.wrap IntKind.u32 (Int.tdiv n 65536)) = n / 65536 := by
    rw [Int.tdiv_eq_ediv_of_nonneg hc.1, IntWalk.u32_in _ (by omega), IntWalk.u16_in _ (by omega)]
  have e2 : IntKind.wrap IntKind.u16 (Int.tmod n 65536) = n % 65536 := by
    rw [Int.tmod_eq_emod_of_nonneg hc.1, IntWalk.u16_in _ (by omega)]
  rw [e1, e2]
  exact Tr.all_t (by simp [n16C]; omega) (Tr.all_t (by simp [n16C]; omega) (Tr.all_ret rfl))
def t22 (q : QQt) (b : List Int) (m : List (List UInt8 × Int)) : Tr Res := Tr.br (bigS q.1) (Tr.br (!mayV q.1) (Tr.ret ([AV.int IntKind.i64 (1 : Int)], [LObj.boxT none [AV.rowA 1, AV.mp 2], LObj.row (Ty.int IntKind.u8) b, LObj.mpo Ty.str (Ty.int IntKind.i64) m])) (Tr.br (pkC b m && Nat.ble (List.length q.1) 100000000000) (Tr.br (mayV q.1) (Tr.br (n16C q.2.1) (Tr.br (n16C q.2.2) (Tr.br (fits (List.length (bytesInt (Prod.fst (nameP q.1 (intBytes b) m))) + List.length (bytesInt (put16 q.2.1 ++ put16 q.2.2))) 1) (Tr.ret ([AV.int IntKind.i64 (0 : Int)], [LObj.boxT none [AV.rowA 1, AV.mp 2], LObj.row (Ty.int IntKind.u8) (bytesInt (Prod.fst (nameP q.1 (intBytes b) m)) ++ bytesInt (put16 q.2.1 ++ put16 q.2.2)), LObj.mpo Ty.str (Ty.int IntKind.i64) (Prod.snd (nameP q.1 (intBytes b) m))])) Tr.no) Tr.no) Tr.no) (Tr.br (n16C q.2.1) (Tr.br (n16C q.2.2) (Tr.br (fits (List.length b + List.length (bytesInt (put16 q.2.1 ++ put16 q.2.2))) 1) (Tr.ret ([AV.int IntKind.i64 (0 : Int)], [LObj.boxT none [AV.rowA 1, AV.mp 2], LObj.row (Ty.int IntKind.u8) (b ++ bytesInt (put16 q.2.1 ++ put16 q.2.2)), LObj.mpo Ty.str (Ty.int IntKind.i64) m])) Tr.no) Tr.no) Tr.no)) Tr.no)) Tr.no
def os22 : OSpec := { f := 22, sh := [.ptr 0 0, .d QQ true], so := [.box [.row 1, .mp 2], .row (.int .u8), .map .str (.int .i64)], F := fun (q, _) (_, b, m, _) => t22 q b m }
set_option maxRecDepth 1000000 in
theorem fn22 (q : QQt) (b : List Int) (m : List (List UInt8 × Int)) : evC T0 (orcB [fs31w, fs17w, fs61w] [os59w, os60]) (lpOf h22 3 (lsOf [])) c22 1000000 (startSt [.ptr 0 0, AV.ofTy QQ q true] [.box [.rowA 1, .mp 2], .row (.int .u8) b, .mpo .str (.int .i64) m] Try.f22.ntmps) (finishK T0 false 3 Try.f22) = (t22 q b m).get := by kernel_rfl
theorem ok22 : os22.Ok Try.prog := by
  refine os_ok mixed0 tab0 (orcB_sound (all_cons okf31w (all_cons okf17w (all_cons okf61w all_nil))) (all_cons ok59w (all_cons ok60 all_nil))) h22 (d := 0) (n0 := 3) (S := lsOf []) Try.func22 (by kernel_rfl) (c := c22) (by kernel_rfl) rfl (no_loops (by kernel_rfl)) (by omega) (by kernel_rfl) ?_
  intro x'' y'' q'' hq''
  obtain ⟨(q : QQt), _⟩ := x''
  obtain ⟨_, (b : List Int), (m : List (List UInt8 × Int)), _⟩ := y''
  exact (fn22 q b m).trans hq''
def t22z (q : QQt) : Tr Res := Tr.ret ([AV.int IntKind.i64 (1 : Int)], [])
def os22z : OSpec := { f := 22, sh := [.np, .d QQ true], so := [], F := fun (q, _) _ => t22z q }
set_option maxRecDepth 1000000 in
theorem fn22z (q : QQt) : evC T0 (orcB [fs31w, fs17w, fs61w] [os59w, os60]) (lpOf h22 0 (lsOf [])) c22 1000000 (startSt [.np, AV.ofTy QQ q true] [] Try.f22.ntmps) (finishK T0 false 0 Try.f22) = (t22z q).get := by kernel_rfl
theorem ok22z : os22z.Ok Try.prog := by
  refine os_ok mixed0 tab0 (orcB_sound (all_cons okf31w (all_cons okf17w (all_cons okf61w all_nil))) (all_cons ok59w (all_cons ok60 all_nil))) h22 (d := 0) (n0 := 0) (S := lsOf []) Try.func22 (by kernel_rfl) (c := c22) (by kernel_rfl) rfl (no_loops (by kernel_rfl)) (by omega) (by kernel_rfl) ?_
  intro x'' y'' q'' hq''
  obtain ⟨(q : QQt), _⟩ := x''
  exact (fn22z q).trans hq''
def t23 (p : (List UInt8 × List (List UInt8 × Int))) (q : QQt) : Tr Res := Tr.br (bigS q.1) (Tr.br (!mayV q.1) (Tr.ret ([AV.agg [AV.str p.1, AV.list (Ty.pair Ty.str (Ty.int IntKind.i64)) p.2], AV.int IntKind.i64 (1 : Int)], [])) (Tr.br (nmOk p q.1) (Tr.br (mayV q.1) (Tr.br (n16C q.2.1) (Tr.br (n16C q.2.2) (Tr.br (Nat.ble (List.length (Prod.fst (nameP q.1 p.1 p.2)) + List.length (put16 q.2.1 ++ put16 q.2.2)) 9223372036854775807) (Tr.ret ([AV.agg [AV.str (Prod.fst (nameP q.1 p.1 p.2) ++ (put16 q.2.1 ++ put16 q.2.2)), AV.list (Ty.pair Ty.str (Ty.int IntKind.i64)) (Prod.snd (nameP q.1 p.1 p.2))], AV.int IntKind.i64 (0 : Int)], [])) Tr.no) Tr.no) Tr.no) (Tr.br (n16C q.2.1) (Tr.br (n16C q.2.2) (Tr.br (Nat.ble (List.length p.1 + List.length (put16 q.2.1 ++ put16 q.2.2)) 9223372036854775807) (Tr.ret ([AV.agg [AV.str (p.1 ++ (put16 q.2.1 ++ put16 q.2.2)), AV.list (Ty.pair Ty.str (Ty.int IntKind.i64)) p.2], AV.int IntKind.i64 (0 : Int)], [])) Tr.no) Tr.no) Tr.no)) Tr.no)) Tr.no
def os23 : OSpec := { f := 23, sh := [.d (.pair .str (.list (.pair .str (.int .i64)))) true, .d QQ true], so := [], F := fun (p, q, _) _ => t23 p q }
set_option maxRecDepth 1000000 in
theorem fn23 (p : (List UInt8 × List (List UInt8 × Int))) (q : QQt) : evC T0 (orcB [fs32w, fs62w, fs63, fs64w] []) (lpOf h23 0 (lsOf [])) c23 1000000 (startSt [AV.ofTy (.pair .str (.list (.pair .str (.int .i64)))) p true, AV.ofTy QQ q true] [] Try.f23.ntmps) (finishK T0 false 0 Try.f23) = (t23 p q).get := by kernel_rfl
theorem ok23 : os23.Ok Try.prog := by
  refine os_ok mixed0 tab0 (orcB_sound (all_cons okf32w (all_cons okf62w (all_cons okf63 (all_cons okf64w all_nil)))) all_nil) h23 (d := 0) (n0 := 0) (S := lsOf []) Try.func23 (by kernel_rfl) (c := c23) (by kernel_rfl) rfl (no_loops (by kernel_rfl)) (by omega) (by kernel_rfl) ?_
  intro x'' y'' q'' hq''
  obtain ⟨(p : (List UInt8 × List (List UInt8 × Int))), (q : QQt), _⟩ := x''
  exact (fn23 p q).trans hq''
def fs23 : FSpec := fsT 23 [((.pair .str (.list (.pair .str (.int .i64)))), true), (QQ, true)] [((.pair .str (.list (.pair .str (.int .i64)))), true), ((.int .i64), false)] fun (p, q, _) => t23 p q
theorem okf23 : fs23.Ok Try.prog := fsT_ok fun x'' r'' hr'' => ok23 x'' () r'' hr''
def qOk (q : QQt) : Bool := Nat.ble q.1.length 1000000 && (n16C q.2.1 && n16C q.2.2)
def qB (q : QQt) : List UInt8 := put16 q.2.1 ++ put16 q.2.2
def putQ (q : QQt) (p : PKt) : PKt := ((nameP q.1 p.1 p.2).1 ++ qB q, (nameP q.1 p.1 p.2).2)
theorem qB_len (q : QQt) : (qB q).length = 4 := rfl
theorem qOk_iff {q : QQt} : qOk q = true ↔ q.1.length ≤ 1000000 ∧ n16C q.2.1 = true ∧ n16C q.2.2 = true := by
  unfold qOk
  rw [Bool.and_eq_true, Bool.and_eq_true]
  exact ⟨fun ⟨a, b⟩ => ⟨Nat.le_of_ble_eq_true a, b⟩, fun ⟨a, b⟩ => ⟨Nat.ble_eq_true_of_le a, b⟩⟩
theorem pkT_iff {b : List Int} {m : Known} : pkT b m = true ↔ bytesOk b = true ∧ kOk m = true ∧ b.length ≤ 1000000000 := by
  unfold pkT
  rw [Bool.and_eq_true, Bool.and_eq_true]
  exact ⟨fun ⟨a, b, c⟩ => ⟨a, b, Nat.le_of_ble_eq_true c⟩, fun ⟨a, b, c⟩ => ⟨a, b, Nat.ble_eq_true_of_le c⟩⟩
def os22w : OSpec := os22.like fun (q, _) (_, b, m, _) => .br (pkT b m && qOk q) (.br (mayV q.1) (.ret ([.int .i64 0], pkO (bytesInt (putQ q (intBytes b, m)).1) (putQ q (intBytes b, m)).2)) (.ret ([.int .i64 1], pkO b m))) .no
theorem ok22w : os22w.Ok Try.prog := by
  refine like_ok ok22 _ ?_
  rintro ⟨(q : QQt), _⟩ ⟨_, (b : List Int), (m : Known), _⟩ r h
  simp only [Tr.get] at h
  cases hc : pkT b m && qOk q with
  | false => rw [hc] at h; cases h
  | true =>
    rw [hc, cond_true] at h
    obtain ⟨h1, h2⟩ := Bool.and_eq_true_iff.1 hc
    obtain ⟨b1, b2, b3⟩ := pkT_iff.1 h1
    obtain ⟨q1, q2, q3⟩ := qOk_iff.1 h2
    refine Tr.get_of_all ?_
    show (t22 q b m).all _
    unfold t22
    cases hm : mayV q.1 with
    | false =>
      rw [hm, cond_false] at h
      cases h
      exact Tr.all_t (len_big (by omega)) (Tr.all_t rfl (Tr.all_ret rfl))
    | true =>
      rw [hm, cond_true] at h
      cases h
      obtain ⟨_, k2, _⟩ := nameP_k (p := (intBytes b, m)) hm b2
      have hl := intB_len b
      have k2 : (nameP q.1 (intBytes b) m).1.length ≤ (intBytes b).length + q.1.length := k2
      refine Tr.all_t (len_big (by omega)) (Tr.all_f rfl (Tr.all_t ?_ (Tr.all_t rfl (Tr.all_t q2 (Tr.all_t q3 (Tr.all_t ?_ (Tr.all_ret ?_)))))))
      · unfold pkC
        rw [b1, b2, Nat.ble_eq_true_of_le (by omega), Nat.ble_eq_true_of_le (by omega)]
        rfl
      · have e : (bytesInt (put16 q.2.1 ++ put16 q.2.2)).length = 4 := rfl
        exact fits_true (by rw [bytesInt_len, e]; omega) (by rw [bytesInt_len, e]; omega)
      · rw [← bytesInt_app]
        rfl
def fs23w : FSpec := fs23.like fun (p, q, _) => .br (ptOk p q.1 && qOk q) (.br (mayV q.1) (.ret (putQ q p, (0 : Int), ())) (.ret (p, (1 : Int), ()))) .no
theorem ptOk_iff {p : PKt} {d : List UInt8} : ptOk p d = true ↔ bigS d = true ∧ kOk p.2 = true ∧ p.1.length ≤ 1000000000 ∧ p.2.length ≤ 1000000000 := by
  unfold ptOk
  rw [Bool.and_eq_true, Bool.and_eq_true, Bool.and_eq_true]
  exact ⟨fun ⟨a, b, c, d⟩ => ⟨a, b, Nat.le_of_ble_eq_true c, Nat.le_of_ble_eq_true d⟩, fun ⟨a, b, c, d⟩ => ⟨a, b, Nat.ble_eq_true_of_le c, Nat.ble_eq_true_of_le d⟩⟩
theorem okf23w : fs23w.Ok Try.prog := by
  refine flike_ok okf23 _ ?_
  rintro ⟨(p : PKt), (q : QQt), _⟩ y h
  simp only [Tr.get] at h
  cases hc : ptOk p q.1 && qOk q with
  | false => rw [hc] at h; cases h
  | true =>
    rw [hc, cond_true] at h
    obtain ⟨h1, h2⟩ := Bool.and_eq_true_iff.1 hc
    obtain ⟨p0, p1, p2, p3⟩ := ptOk_iff.1 h1
    obtain ⟨q1, q2, q3⟩ := qOk_iff.1 h2
    cases hm : mayV q.1 with
    | false =>
      rw [hm, cond_false] at h
      cases h
      refine convR_of (vs := [AV.agg [.str p.1, .list (.pair .str (.int .i64)) p.2], .int .i64 1]) rfl rfl (Tr.get_of_all ?_)
      show (t23 p q).all _
      unfold t23
      rw [hm]
      exact Tr.all_t p0 (Tr.all_t rfl (Tr.all_ret rfl))
    | true =>
      rw [hm, cond_true] at h
      cases h
      refine convR_of (vs := [AV.agg [.str (putQ q p).1, .list (.pair .str (.int .i64)) (putQ q p).2], .int .i64 0]) rfl rfl (Tr.get_of_all ?_)
      show (t23 p q).all _
      unfold t23
      rw [hm]
      obtain ⟨_, k2, _⟩ := nameP_k (p := p) hm p1
      have e : (put16 q.2.1 ++ put16 q.2.2).length = 4 := rfl
      have hn1 := (may_iff.1 hm).2.1
      exact Tr.all_t p0 (Tr.all_f rfl (Tr.all_t (nmOk_of (by omega) p1 (by omega) (by omega)) (Tr.all_t rfl (Tr.all_t q2 (Tr.all_t q3 (Tr.all_t (Nat.ble_eq_true_of_le (by rw [e]; omega)) (Tr.all_ret rfl)))))))
def t24 (r : RRt) (b : List Int) (m : List (List UInt8 × Int)) : Tr Res := Tr.br (rrBig r) (Tr.br (!recV r) (Tr.ret ([AV.int IntKind.i64 (1 : Int)], [LObj.boxT none [AV.rowA 1, AV.mp 2], LObj.row (Ty.int IntKind.u8) b, LObj.mpo Ty.str (Ty.int IntKind.i64) m])) (Tr.br (pkC b m && Nat.ble (List.length r.1) 100000000000) (Tr.br (mayV r.1) (Tr.br (n16C r.2.1) (Tr.br (n16C r.2.2.1) (Tr.br (n32C r.2.2.2.1) (Tr.br (fits (List.length (bytesInt (Prod.fst (nameP r.1 (intBytes b) m))) + List.length (bytesInt (put16 r.2.1 ++ put16 r.2.2.1 ++ put32 r.2.2.2.1))) 1) (Tr.br (Nat.ble (List.length (bytesInt (Prod.fst (nameP r.1 (intBytes b) m)) ++ bytesInt (put16 r.2.1 ++ put16 r.2.2.1 ++ put32 r.2.2.2.1))) 100000000000) (Tr.br (pkT (bytesInt (Prod.fst (nameP r.1 (intBytes b) m)) ++ bytesInt (put16 r.2.1 ++ put16 r.2.2.1 ++ put32 r.2.2.2.1) ++ [(0 : Ty.den (Ty.int IntKind.u8)), (0 : Ty.den (Ty.int IntKind.u8))]) (Prod.snd (nameP r.1 (intBytes b) m)) && Nat.ble (List.length r.2.2.2.2) 1000000) (Tr.br (mayR r.2.1 r.2.2.2.2) (Tr.br (Nat.ble (List.length (bytesInt (Prod.fst (putR r.2.1 r.2.2.2.2 (intBytes (bytesInt (Prod.fst (nameP r.1 (intBytes b) m)) ++ bytesInt (put16 r.2.1 ++ put16 r.2.2.1 ++ put32 r.2.2.2.1) ++ [(0 : Ty.den (Ty.int IntKind.u8)), (0 : Ty.den (Ty.int IntKind.u8))]), Prod.snd (nameP r.1 (intBytes b) m)))))) 100000000000) (Tr.br (decide ((2 : Ty.den (Ty.int IntKind.i64)) ≤ (↑(List.length (bytesInt (Prod.fst (nameP r.1 (intBytes b) m)) ++ bytesInt (put16 r.2.1 ++ put16 r.2.2.1 ++ put32 r.2.2.2.1))) : Int) + (2 : Int)) && decide ((↑(List.length (bytesInt (Prod.fst (nameP r.1 (intBytes b) m)) ++ bytesInt (put16 r.2.1 ++ put16 r.2.2.1 ++ put32 r.2.2.2.1))) : Int) + (2 : Int) ≤ (↑(List.length (bytesInt (Prod.fst (putR r.2.1 r.2.2.2.2 (intBytes (bytesInt (Prod.fst (nameP r.1 (intBytes b) m)) ++ bytesInt (put16 r.2.1 ++ put16 r.2.2.1 ++ put32 r.2.2.2.1) ++ [(0 : Ty.den (Ty.int IntKind.u8)), (0 : Ty.den (Ty.int IntKind.u8))]), Prod.snd (nameP r.1 (intBytes b) m)))))) : Int))) (Tr.ret ([AV.int IntKind.i64 (0 : Int)], [LObj.boxT none [AV.rowA 1, AV.mp 2], LObj.row (Ty.int IntKind.u8) (closeB (bytesInt (Prod.fst (putR r.2.1 r.2.2.2.2 (intBytes (bytesInt (Prod.fst (nameP r.1 (intBytes b) m)) ++ bytesInt (put16 r.2.1 ++ put16 r.2.2.1 ++ put32 r.2.2.2.1) ++ [(0 : Ty.den (Ty.int IntKind.u8)), (0 : Ty.den (Ty.int IntKind.u8))]), Prod.snd (nameP r.1 (intBytes b) m))))) ((↑(List.length (bytesInt (Prod.fst (nameP r.1 (intBytes b) m)) ++ bytesInt (put16 r.2.1 ++ put16 r.2.2.1 ++ put32 r.2.2.2.1))) : Int) + (2 : Int))), LObj.mpo Ty.str (Ty.int IntKind.i64) (Prod.snd (putR r.2.1 r.2.2.2.2 (intBytes (bytesInt (Prod.fst (nameP r.1 (intBytes b) m)) ++ bytesInt (put16 r.2.1 ++ put16 r.2.2.1 ++ put32 r.2.2.2.1) ++ [(0 : Ty.den (Ty.int IntKind.u8)), (0 : Ty.den (Ty.int IntKind.u8))]), Prod.snd (nameP r.1 (intBytes b) m))))])) (Tr.ret ([AV.int IntKind.i64 (1 : Int)], [LObj.boxT none [AV.rowA 1, AV.mp 2], LObj.row (Ty.int IntKind.u8) (bytesInt (Prod.fst (putR r.2.1 r.2.2.2.2 (intBytes (bytesInt (Prod.fst (nameP r.1 (intBytes b) m)) ++ bytesInt (put16 r.2.1 ++ put16 r.2.2.1 ++ put32 r.2.2.2.1) ++ [(0 : Ty.den (Ty.int IntKind.u8)), (0 : Ty.den (Ty.int IntKind.u8))]), Prod.snd (nameP r.1 (intBytes b) m))))), LObj.mpo Ty.str (Ty.int IntKind.i64) (Prod.snd (putR r.2.1 r.2.2.2.2 (intBytes (bytesInt (Prod.fst (nameP r.1 (intBytes b) m)) ++ bytesInt (put16 r.2.1 ++ put16 r.2.2.1 ++ put32 r.2.2.2.1) ++ [(0 : Ty.den (Ty.int IntKind.u8)), (0 : Ty.den (Ty.int IntKind.u8))]), Prod.snd (nameP r.1 (intBytes b) m))))]))) Tr.no) (Tr.br (Nat.ble (List.length (bytesInt (Prod.fst (nameP r.1 (intBytes b) m)) ++ bytesInt (put16 r.2.1 ++ put16 r.2.2.1 ++ put32 r.2.2.2.1) ++ [(0 : Ty.den (Ty.int IntKind.u8)), (0 : Ty.den (Ty.int IntKind.u8))])) 100000000000) (Tr.br (decide ((2 : Ty.den (Ty.int IntKind.i64)) ≤ (↑(List.length (bytesInt (Prod.fst (nameP r.1 (intBytes b) m)) ++ bytesInt (put16 r.2.1 ++ put16 r.2.2.1 ++ put32 r.2.2.2.1))) : Int) + (2 : Int)) && decide ((↑(List.length (bytesInt (Prod.fst (nameP r.1 (intBytes b) m)) ++ bytesInt (put16 r.2.1 ++ put16 r.2.2.1 ++ put32 r.2.2.2.1))) : Int) + (2 : Int) ≤ (↑(List.length (bytesInt (Prod.fst (nameP r.1 (intBytes b) m)) ++ bytesInt (put16 r.2.1 ++ put16 r.2.2.1 ++ put32 r.2.2.2.1) ++ [(0 : Ty.den (Ty.int IntKind.u8)), (0 : Ty.den (Ty.int IntKind.u8))])) : Int))) (Tr.ret ([AV.int IntKind.i64 (0 : Int)], [LObj.boxT none [AV.rowA 1, AV.mp 2], LObj.row (Ty.int IntKind.u8) (closeB (bytesInt (Prod.fst (nameP r.1 (intBytes b) m)) ++ bytesInt (put16 r.2.1 ++ put16 r.2.2.1 ++ put32 r.2.2.2.1) ++ [(0 : Ty.den (Ty.int IntKind.u8)), (0 : Ty.den (Ty.int IntKind.u8))]) ((↑(List.length (bytesInt (Prod.fst (nameP r.1 (intBytes b) m)) ++ bytesInt (put16 r.2.1 ++ put16 r.2.2.1 ++ put32 r.2.2.2.1))) : Int) + (2 : Int))), LObj.mpo Ty.str (Ty.int IntKind.i64) (Prod.snd (nameP r.1 (intBytes b) m))])) (Tr.ret ([AV.int IntKind.i64 (1 : Int)], [LObj.boxT none [AV.rowA 1, AV.mp 2], LObj.row (Ty.int IntKind.u8) (bytesInt (Prod.fst (nameP r.1 (intBytes b) m)) ++ bytesInt (put16 r.2.1 ++ put16 r.2.2.1 ++ put32 r.2.2.2.1) ++ [(0 : Ty.den (Ty.int IntKind.u8)), (0 : Ty.den (Ty.int IntKind.u8))]), LObj.mpo Ty.str (Ty.int IntKind.i64) (Prod.snd (nameP r.1 (intBytes b) m))]))) Tr.no)) Tr.no) Tr.no) Tr.no) Tr.no) Tr.no) Tr.no) (Tr.br (n16C r.2.1) (Tr.br (n16C r.2.2.1) (Tr.br (n32C r.2.2.2.1) (Tr.br (fits (List.length b + List.length (bytesInt (put16 r.2.1 ++ put16 r.2.2.1 ++ put32 r.2.2.2.1))) 1) (Tr.br (Nat.ble (List.length (b ++ bytesInt (put16 r.2.1 ++ put16 r.2.2.1 ++ put32 r.2.2.2.1))) 100000000000) (Tr.br (pkT (b ++ bytesInt (put16 r.2.1 ++ put16 r.2.2.1 ++ put32 r.2.2.2.1) ++ [(0 : Ty.den (Ty.int IntKind.u8)), (0 : Ty.den (Ty.int IntKind.u8))]) m && Nat.ble (List.length r.2.2.2.2) 1000000) (Tr.br (mayR r.2.1 r.2.2.2.2) (Tr.br (Nat.ble (List.length (bytesInt (Prod.fst (putR r.2.1 r.2.2.2.2 (intBytes (b ++ bytesInt (put16 r.2.1 ++ put16 r.2.2.1 ++ put32 r.2.2.2.1) ++ [(0 : Ty.den (Ty.int IntKind.u8)), (0 : Ty.den (Ty.int IntKind.u8))]), m))))) 100000000000) (Tr.br (decide ((2 : Ty.den (Ty.int IntKind.i64)) ≤ (↑(List.length (b ++ bytesInt (put16 r.2.1 ++ put16 r.2.2.1 ++ put32 r.2.2.2.1))) : Int) + (2 : Int)) && decide ((↑(List.length (b ++ bytesInt (put16 r.2.1 ++ put16 r.2.2.1 ++ put32 r.2.2.2.1))) : Int) + (2 : Int) ≤ (↑(List.length (bytesInt (Prod.fst (putR r.2.1 r.2.2.2.2 (intBytes (b ++ bytesInt (put16 r.2.1 ++ put16 r.2.2.1 ++ put32 r.2.2.2.1) ++ [(0 : Ty.den (Ty.int IntKind.u8)), (0 : Ty.den (Ty.int IntKind.u8))]), m))))) : Int))) (Tr.ret ([AV.int IntKind.i64 (0 : Int)], [LObj.boxT none [AV.rowA 1, AV.mp 2], LObj.row (Ty.int IntKind.u8) (closeB (bytesInt (Prod.fst (putR r.2.1 r.2.2.2.2 (intBytes (b ++ bytesInt (put16 r.2.1 ++ put16 r.2.2.1 ++ put32 r.2.2.2.1) ++ [(0 : Ty.den (Ty.int IntKind.u8)), (0 : Ty.den (Ty.int IntKind.u8))]), m)))) ((↑(List.length (b ++ bytesInt (put16 r.2.1 ++ put16 r.2.2.1 ++ put32 r.2.2.2.1))) : Int) + (2 : Int))), LObj.mpo Ty.str (Ty.int IntKind.i64) (Prod.snd (putR r.2.1 r.2.2.2.2 (intBytes (b ++ bytesInt (put16 r.2.1 ++ put16 r.2.2.1 ++ put32 r.2.2.2.1) ++ [(0 : Ty.den (Ty.int IntKind.u8)), (0 : Ty.den (Ty.int IntKind.u8))]), m)))])) (Tr.ret ([AV.int IntKind.i64 (1 : Int)], [LObj.boxT none [AV.rowA 1, AV.mp 2], LObj.row (Ty.int IntKind.u8) (bytesInt (Prod.fst (putR r.2.1 r.2.2.2.2 (intBytes (b ++ bytesInt (put16 r.2.1 ++ put16 r.2.2.1 ++ put32 r.2.2.2.1) ++ [(0 : Ty.den (Ty.int IntKind.u8)), (0 : Ty.den (Ty.int IntKind.u8))]), m)))), LObj.mpo Ty.str (Ty.int IntKind.i64) (Prod.snd (putR r.2.1 r.2.2.2.2 (intBytes (b ++ bytesInt (put16 r.2.1 ++ put16 r.2.2.1 ++ put32 r.2.2.2.1) ++ [(0 : Ty.den (Ty.int IntKind.u8)), (0 : Ty.den (Ty.int IntKind.u8))]), m)))]))) Tr.no) (Tr.br (Nat.ble (List.length (b ++ bytesInt (put16 r.2.1 ++ put16 r.2.2.1 ++ put32 r.2.2.2.1) ++ [(0 : Ty.den (Ty.int IntKind.u8)), (0 : Ty.den (Ty.int IntKind.u8))])) 100000000000) (Tr.br (decide ((2 : Ty.den (Ty.int IntKind.i64)) ≤ (↑(List.length (b ++ bytesInt (put16 r.2.1 ++ put16 r.2.2.1 ++ put32 r.2.2.2.1))) : Int) + (2 : Int)) && decide ((↑(List.length (b ++ bytesInt (put16 r.2.1 ++ put16 r.2.2.1 ++ put32 r.2.2.2.1))) : Int) + (2 : Int) ≤ (↑(List.length (b ++ bytesInt (put16 r.2.1 ++ put16 r.2.2.1 ++ put32 r.2.2.2.1) ++ [(0 : Ty.den (Ty.int IntKind.u8)), (0 : Ty.den (Ty.int IntKind.u8))])) : Int))) (Tr.ret ([AV.int IntKind.i64 (0 : Int)], [LObj.boxT none [AV.rowA 1, AV.mp 2], LObj.row (Ty.int IntKind.u8) (closeB (b ++ bytesInt (put16 r.2.1 ++ put16 r.2.2.1 ++ put32 r.2.2.2.1) ++ [(0 : Ty.den (Ty.int IntKind.u8)), (0 : Ty.den (Ty.int IntKind.u8))]) ((↑(List.length (b ++ bytesInt (put16 r.2.1 ++ put16 r.2.2.1 ++ put32 r.2.2.2.1))) : Int) + (2 : Int))), LObj.mpo Ty.str (Ty.int IntKind.i64) m])) (Tr.ret ([AV.int IntKind.i64 (1 : Int)], [LObj.boxT none [AV.rowA 1, AV.mp 2], LObj.row (Ty.int IntKind.u8) (b ++ bytesInt (put16 r.2.1 ++ put16 r.2.2.1 ++ put32 r.2.2.2.1) ++ [(0 : Ty.den (Ty.int IntKind.u8)), (0 : Ty.den (Ty.int IntKind.u8))]), LObj.mpo Ty.str (Ty.int IntKind.i64) m]))) Tr.no)) Tr.no) Tr.no) Tr.no) Tr.no) Tr.no) Tr.no)) Tr.no)) Tr.no
def os24 : OSpec := { f := 24, sh := [.ptr 0 0, .d RR true], so := [.box [.row 1, .mp 2], .row (.int .u8), .map .str (.int .i64)], F := fun (r, _) (_, b, m, _) => t24 r b m }
set_option maxRecDepth 1000000 in
theorem fn24 (r : RRt) (b : List Int) (m : List (List UInt8 × Int)) : evC T0 (orcB [fs17w, fs61w, fs65w] [os59w, os60, os66w, os68w, os67w]) (lpOf h24 3 (lsOf [])) c24 1000000 (startSt [.ptr 0 0, AV.ofTy RR r true] [.box [.rowA 1, .mp 2], .row (.int .u8) b, .mpo .str (.int .i64) m] Try.f24.ntmps) (finishK T0 false 3 Try.f24) = (t24 r b m).get := by kernel_rfl
theorem ok24 : os24.Ok Try.prog := by
  refine os_ok mixed0 tab0 (orcB_sound (all_cons okf17w (all_cons okf61w (all_cons okf65w all_nil))) (all_cons ok59w (all_cons ok60 (all_cons ok66w (all_cons ok68w (all_cons ok67w all_nil)))))) h24 (d := 0) (n0 := 3) (S := lsOf []) Try.func24 (by kernel_rfl) (c := c24) (by kernel_rfl) rfl (no_loops (by kernel_rfl)) (by omega) (by kernel_rfl) ?_
  intro x'' y'' q'' hq''
  obtain ⟨(r : RRt), _⟩ := x''
  obtain ⟨_, (b : List Int), (m : List (List UInt8 × Int)), _⟩ := y''
  exact (fn24 r b m).trans hq''
def t24z (r : RRt) : Tr Res := Tr.ret ([AV.int IntKind.i64 (1 : Int)], [])
def os24z : OSpec := { f := 24, sh := [.np, .d RR true], so := [], F := fun (r, _) _ => t24z r }
set_option maxRecDepth 1000000 in
theorem fn24z (r : RRt) : evC T0 (orcB [fs17w, fs61w, fs65w] [os59w, os60, os66w, os68w, os67w]) (lpOf h24 0 (lsOf [])) c24 1000000 (startSt [.np, AV.ofTy RR r true] [] Try.f24.ntmps) (finishK T0 false 0 Try.f24) = (t24z r).get := by kernel_rfl
theorem ok24z : os24z.Ok Try.prog := by
  refine os_ok mixed0 tab0 (orcB_sound (all_cons okf17w (all_cons okf61w (all_cons okf65w all_nil))) (all_cons ok59w (all_cons ok60 (all_cons ok66w (all_cons ok68w (all_cons ok67w all_nil)))))) h24 (d := 0) (n0 := 0) (S := lsOf []) Try.func24 (by kernel_rfl) (c := c24) (by kernel_rfl) rfl (no_loops (by kernel_rfl)) (by omega) (by kernel_rfl) ?_
  intro x'' y'' q'' hq''
  obtain ⟨(r : RRt), _⟩ := x''
  exact (fn24z r).trans hq''
def t25 (p : (List UInt8 × List (List UInt8 × Int))) (r : RRt) : Tr Res := Tr.br (rrBig r) (Tr.br (!recV r) (Tr.ret ([AV.agg [AV.str p.1, AV.list (Ty.pair Ty.str (Ty.int IntKind.i64)) p.2], AV.int IntKind.i64 (1 : Int)], [])) (Tr.br (ptOk p r.1 && qOk (r.1, r.2.1, r.2.2.1)) (Tr.br (mayV r.1) (Tr.br (n32C r.2.2.2.1) (Tr.br (Nat.ble (List.length (Prod.fst (putQ (r.1, r.2.1, r.2.2.1) p)) + List.length (put32 r.2.2.2.1 ++ [0, 0])) 9223372036854775807) (Tr.br (ptOk (Prod.fst (putQ (r.1, r.2.1, r.2.2.1) p) ++ (put32 r.2.2.2.1 ++ [0, 0]), Prod.snd (putQ (r.1, r.2.1, r.2.2.1) p)) r.2.2.2.2) (Tr.br (mayR r.2.1 r.2.2.2.2) (Tr.br (decide ((0 : Int) ≤ IntKind.wrap IntKind.i64 ((↑(List.length (Prod.fst (putQ (r.1, r.2.1, r.2.2.1) p) ++ (put32 r.2.2.2.1 ++ [0, 0]))) : Int) - (2 : Int))) && decide (IntKind.wrap IntKind.i64 ((↑(List.length (Prod.fst (putQ (r.1, r.2.1, r.2.2.1) p) ++ (put32 r.2.2.2.1 ++ [0, 0]))) : Int) - (2 : Int)) ≤ (↑(List.length (Prod.fst (putR r.2.1 r.2.2.2.2 (Prod.fst (putQ (r.1, r.2.1, r.2.2.1) p) ++ (put32 r.2.2.2.1 ++ [0, 0]), Prod.snd (putQ (r.1, r.2.1, r.2.2.1) p))))) : Int))) (Tr.br (decide ((0 : Int) ≤ (0 : Int)) && decide ((0 : Int) ≤ IntKind.wrap IntKind.i64 ((↑(List.length (Prod.fst (putQ (r.1, r.2.1, r.2.2.1) p) ++ (put32 r.2.2.2.1 ++ [0, 0]))) : Int) - (2 : Int)))) (Tr.br (n16C (IntKind.wrap IntKind.u16 (IntKind.wrap IntKind.i64 ((↑(List.length (Prod.fst (putR r.2.1 r.2.2.2.2 (Prod.fst (putQ (r.1, r.2.1, r.2.2.1) p) ++ (put32 r.2.2.2.1 ++ [0, 0]), Prod.snd (putQ (r.1, r.2.1, r.2.2.1) p))))) : Int) - (↑(List.length (Prod.fst (putQ (r.1, r.2.1, r.2.2.1) p) ++ (put32 r.2.2.2.1 ++ [0, 0]))) : Int))))) (Tr.br (Nat.ble (List.length (List.take (Int.toNat (IntKind.wrap IntKind.i64 ((↑(List.length (Prod.fst (putQ (r.1, r.2.1, r.2.2.1) p) ++ (put32 r.2.2.2.1 ++ [0, 0]))) : Int) - (2 : Int))) - Int.toNat (0 : Int)) (List.drop (Int.toNat (0 : Int)) (Prod.fst (putR r.2.1 r.2.2.2.2 (Prod.fst (putQ (r.1, r.2.1, r.2.2.1) p) ++ (put32 r.2.2.2.1 ++ [0, 0]), Prod.snd (putQ (r.1, r.2.1, r.2.2.1) p)))))) + List.length (put16 (IntKind.wrap IntKind.u16 (IntKind.wrap IntKind.i64 ((↑(List.length (Prod.fst (putR r.2.1 r.2.2.2.2 (Prod.fst (putQ (r.1, r.2.1, r.2.2.1) p) ++ (put32 r.2.2.2.1 ++ [0, 0]), Prod.snd (putQ (r.1, r.2.1, r.2.2.1) p))))) : Int) - (↑(List.length (Prod.fst (putQ (r.1, r.2.1, r.2.2.1) p) ++ (put32 r.2.2.2.1 ++ [0, 0]))) : Int)))))) 9223372036854775807) (Tr.br (decide ((0 : Int) ≤ (↑(List.length (Prod.fst (putR r.2.1 r.2.2.2.2 (Prod.fst (putQ (r.1, r.2.1, r.2.2.1) p) ++ (put32 r.2.2.2.1 ++ [0, 0]), Prod.snd (putQ (r.1, r.2.1, r.2.2.1) p))))) : Int)) && decide ((↑(List.length (Prod.fst (putR r.2.1 r.2.2.2.2 (Prod.fst (putQ (r.1, r.2.1, r.2.2.1) p) ++ (put32 r.2.2.2.1 ++ [0, 0]), Prod.snd (putQ (r.1, r.2.1, r.2.2.1) p))))) : Int) ≤ (↑(List.length (Prod.fst (putR r.2.1 r.2.2.2.2 (Prod.fst (putQ (r.1, r.2.1, r.2.2.1) p) ++ (put32 r.2.2.2.1 ++ [0, 0]), Prod.snd (putQ (r.1, r.2.1, r.2.2.1) p))))) : Int))) (Tr.br (decide ((0 : Int) ≤ (↑(List.length (Prod.fst (putQ (r.1, r.2.1, r.2.2.1) p) ++ (put32 r.2.2.2.1 ++ [0, 0]))) : Int)) && decide ((↑(List.length (Prod.fst (putQ (r.1, r.2.1, r.2.2.1) p) ++ (put32 r.2.2.2.1 ++ [0, 0]))) : Int) ≤ (↑(List.length (Prod.fst (putR r.2.1 r.2.2.2.2 (Prod.fst (putQ (r.1, r.2.1, r.2.2.1) p) ++ (put32 r.2.2.2.1 ++ [0, 0]), Prod.snd (putQ (r.1, r.2.1, r.2.2.1) p))))) : Int))) (Tr.br (Nat.ble (List.length (List.take (Int.toNat (IntKind.wrap IntKind.i64 ((↑(List.length (Prod.fst (putQ (r.1, r.2.1, r.2.2.1) p) ++ (put32 r.2.2.2.1 ++ [0, 0]))) : Int) - (2 : Int))) - Int.toNat (0 : Int)) (List.drop (Int.toNat (0 : Int)) (Prod.fst (putR r.2.1 r.2.2.2.2 (Prod.fst (putQ (r.1, r.2.1, r.2.2.1) p) ++ (put32 r.2.2.2.1 ++ [0, 0]), Prod.snd (putQ (r.1, r.2.1, r.2.2.1) p))))) ++ put16 (IntKind.wrap IntKind.u16 (IntKind.wrap IntKind.i64 ((↑(List.length (Prod.fst (putR r.2.1 r.2.2.2.2 (Prod.fst (putQ (r.1, r.2.1, r.2.2.1) p) ++ (put32 r.2.2.2.1 ++ [0, 0]), Prod.snd (putQ (r.1, r.2.1, r.2.2.1) p))))) : Int) - (↑(List.length (Prod.fst (putQ (r.1, r.2.1, r.2.2.1) p) ++ (put32 r.2.2.2.1 ++ [0, 0]))) : Int))))) + List.length (List.take (Int.toNat (↑(List.length (Prod.fst (putR r.2.1 r.2.2.2.2 (Prod.fst (putQ (r.1, r.2.1, r.2.2.1) p) ++ (put32 r.2.2.2.1 ++ [0, 0]), Prod.snd (putQ (r.1, r.2.1, r.2.2.1) p))))) : Int) - Int.toNat (↑(List.length (Prod.fst (putQ (r.1, r.2.1, r.2.2.1) p) ++ (put32 r.2.2.2.1 ++ [0, 0]))) : Int)) (List.drop (Int.toNat (↑(List.length (Prod.fst (putQ (r.1, r.2.1, r.2.2.1) p) ++ (put32 r.2.2.2.1 ++ [0, 0]))) : Int)) (Prod.fst (putR r.2.1 r.2.2.2.2 (Prod.fst (putQ (r.1, r.2.1, r.2.2.1) p) ++ (put32 r.2.2.2.1 ++ [0, 0]), Prod.snd (putQ (r.1, r.2.1, r.2.2.1) p))))))) 9223372036854775807) (Tr.ret ([AV.agg [AV.str (List.take (Int.toNat (IntKind.wrap IntKind.i64 ((↑(List.length (Prod.fst (putQ (r.1, r.2.1, r.2.2.1) p) ++ (put32 r.2.2.2.1 ++ [0, 0]))) : Int) - (2 : Int))) - Int.toNat (0 : Int)) (List.drop (Int.toNat (0 : Int)) (Prod.fst (putR r.2.1 r.2.2.2.2 (Prod.fst (putQ (r.1, r.2.1, r.2.2.1) p) ++ (put32 r.2.2.2.1 ++ [0, 0]), Prod.snd (putQ (r.1, r.2.1, r.2.2.1) p))))) ++ put16 (IntKind.wrap IntKind.u16 (IntKind.wrap IntKind.i64 ((↑(List.length (Prod.fst (putR r.2.1 r.2.2.2.2 (Prod.fst (putQ (r.1, r.2.1, r.2.2.1) p) ++ (put32 r.2.2.2.1 ++ [0, 0]), Prod.snd (putQ (r.1, r.2.1, r.2.2.1) p))))) : Int) - (↑(List.length (Prod.fst (putQ (r.1, r.2.1, r.2.2.1) p) ++ (put32 r.2.2.2.1 ++ [0, 0]))) : Int)))) ++ List.take (Int.toNat (↑(List.length (Prod.fst (putR r.2.1 r.2.2.2.2 (Prod.fst (putQ (r.1, r.2.1, r.2.2.1) p) ++ (put32 r.2.2.2.1 ++ [0, 0]), Prod.snd (putQ (r.1, r.2.1, r.2.2.1) p))))) : Int) - Int.toNat (↑(List.length (Prod.fst (putQ (r.1, r.2.1, r.2.2.1) p) ++ (put32 r.2.2.2.1 ++ [0, 0]))) : Int)) (List.drop (Int.toNat (↑(List.length (Prod.fst (putQ (r.1, r.2.1, r.2.2.1) p) ++ (put32 r.2.2.2.1 ++ [0, 0]))) : Int)) (Prod.fst (putR r.2.1 r.2.2.2.2 (Prod.fst (putQ (r.1, r.2.1, r.2.2.1) p) ++ (put32 r.2.2.2.1 ++ [0, 0]), Prod.snd (putQ (r.1, r.2.1, r.2.2.1) p)))))), AV.list (Ty.pair Ty.str (Ty.int IntKind.i64)) (Prod.snd (putR r.2.1 r.2.2.2.2 (Prod.fst (putQ (r.1, r.2.1, r.2.2.1) p) ++ (put32 r.2.2.2.1 ++ [0, 0]), Prod.snd (putQ (r.1, r.2.1, r.2.2.1) p))))], AV.int IntKind.i64 (0 : Int)], [])) Tr.no) Tr.no) Tr.no) Tr.no) Tr.no) Tr.no) Tr.no) (Tr.br (decide ((0 : Int) ≤ IntKind.wrap IntKind.i64 ((↑(List.length (Prod.fst (putQ (r.1, r.2.1, r.2.2.1) p) ++ (put32 r.2.2.2.1 ++ [0, 0]))) : Int) - (2 : Int))) && decide (IntKind.wrap IntKind.i64 ((↑(List.length (Prod.fst (putQ (r.1, r.2.1, r.2.2.1) p) ++ (put32 r.2.2.2.1 ++ [0, 0]))) : Int) - (2 : Int)) ≤ (↑(List.length (Prod.fst (putQ (r.1, r.2.1, r.2.2.1) p) ++ (put32 r.2.2.2.1 ++ [0, 0]))) : Int))) (Tr.br (decide ((0 : Int) ≤ (0 : Int)) && decide ((0 : Int) ≤ IntKind.wrap IntKind.i64 ((↑(List.length (Prod.fst (putQ (r.1, r.2.1, r.2.2.1) p) ++ (put32 r.2.2.2.1 ++ [0, 0]))) : Int) - (2 : Int)))) (Tr.br (n16C (IntKind.wrap IntKind.u16 (IntKind.wrap IntKind.i64 ((↑(List.length (Prod.fst (putQ (r.1, r.2.1, r.2.2.1) p) ++ (put32 r.2.2.2.1 ++ [0, 0]))) : Int) - (↑(List.length (Prod.fst (putQ (r.1, r.2.1, r.2.2.1) p) ++ (put32 r.2.2.2.1 ++ [0, 0]))) : Int))))) (Tr.br (Nat.ble (List.length (List.take (Int.toNat (IntKind.wrap IntKind.i64 ((↑(List.length (Prod.fst (putQ (r.1, r.2.1, r.2.2.1) p) ++ (put32 r.2.2.2.1 ++ [0, 0]))) : Int) - (2 : Int))) - Int.toNat (0 : Int)) (List.drop (Int.toNat (0 : Int)) (Prod.fst (putQ (r.1, r.2.1, r.2.2.1) p) ++ (put32 r.2.2.2.1 ++ [0, 0])))) + List.length (put16 (IntKind.wrap IntKind.u16 (IntKind.wrap IntKind.i64 ((↑(List.length (Prod.fst (putQ (r.1, r.2.1, r.2.2.1) p) ++ (put32 r.2.2.2.1 ++ [0, 0]))) : Int) - (↑(List.length (Prod.fst (putQ (r.1, r.2.1, r.2.2.1) p) ++ (put32 r.2.2.2.1 ++ [0, 0]))) : Int)))))) 9223372036854775807) (Tr.br (decide ((0 : Int) ≤ (↑(List.length (Prod.fst (putQ (r.1, r.2.1, r.2.2.1) p) ++ (put32 r.2.2.2.1 ++ [0, 0]))) : Int)) && decide ((↑(List.length (Prod.fst (putQ (r.1, r.2.1, r.2.2.1) p) ++ (put32 r.2.2.2.1 ++ [0, 0]))) : Int) ≤ (↑(List.length (Prod.fst (putQ (r.1, r.2.1, r.2.2.1) p) ++ (put32 r.2.2.2.1 ++ [0, 0]))) : Int))) (Tr.br (decide ((0 : Int) ≤ (↑(List.length (Prod.fst (putQ (r.1, r.2.1, r.2.2.1) p) ++ (put32 r.2.2.2.1 ++ [0, 0]))) : Int)) && decide ((↑(List.length (Prod.fst (putQ (r.1, r.2.1, r.2.2.1) p) ++ (put32 r.2.2.2.1 ++ [0, 0]))) : Int) ≤ (↑(List.length (Prod.fst (putQ (r.1, r.2.1, r.2.2.1) p) ++ (put32 r.2.2.2.1 ++ [0, 0]))) : Int))) (Tr.br (Nat.ble (List.length (List.take (Int.toNat (IntKind.wrap IntKind.i64 ((↑(List.length (Prod.fst (putQ (r.1, r.2.1, r.2.2.1) p) ++ (put32 r.2.2.2.1 ++ [0, 0]))) : Int) - (2 : Int))) - Int.toNat (0 : Int)) (List.drop (Int.toNat (0 : Int)) (Prod.fst (putQ (r.1, r.2.1, r.2.2.1) p) ++ (put32 r.2.2.2.1 ++ [0, 0]))) ++ put16 (IntKind.wrap IntKind.u16 (IntKind.wrap IntKind.i64 ((↑(List.length (Prod.fst (putQ (r.1, r.2.1, r.2.2.1) p) ++ (put32 r.2.2.2.1 ++ [0, 0]))) : Int) - (↑(List.length (Prod.fst (putQ (r.1, r.2.1, r.2.2.1) p) ++ (put32 r.2.2.2.1 ++ [0, 0]))) : Int))))) + List.length (List.take (Int.toNat (↑(List.length (Prod.fst (putQ (r.1, r.2.1, r.2.2.1) p) ++ (put32 r.2.2.2.1 ++ [0, 0]))) : Int) - Int.toNat (↑(List.length (Prod.fst (putQ (r.1, r.2.1, r.2.2.1) p) ++ (put32 r.2.2.2.1 ++ [0, 0]))) : Int)) (List.drop (Int.toNat (↑(List.length (Prod.fst (putQ (r.1, r.2.1, r.2.2.1) p) ++ (put32 r.2.2.2.1 ++ [0, 0]))) : Int)) (Prod.fst (putQ (r.1, r.2.1, r.2.2.1) p) ++ (put32 r.2.2.2.1 ++ [0, 0]))))) 9223372036854775807) (Tr.ret ([AV.agg [AV.str (List.take (Int.toNat (IntKind.wrap IntKind.i64 ((↑(List.length (Prod.fst (putQ (r.1, r.2.1, r.2.2.1) p) ++ (put32 r.2.2.2.1 ++ [0, 0]))) : Int) - (2 : Int))) - Int.toNat (0 : Int)) (List.drop (Int.toNat (0 : Int)) (Prod.fst (putQ (r.1, r.2.1, r.2.2.1) p) ++ (put32 r.2.2.2.1 ++ [0, 0]))) ++ put16 (IntKind.wrap IntKind.u16 (IntKind.wrap IntKind.i64 ((↑(List.length (Prod.fst (putQ (r.1, r.2.1, r.2.2.1) p) ++ (put32 r.2.2.2.1 ++ [0, 0]))) : Int) - (↑(List.length (Prod.fst (putQ (r.1, r.2.1, r.2.2.1) p) ++ (put32 r.2.2.2.1 ++ [0, 0]))) : Int)))) ++ List.take (Int.toNat (↑(List.length (Prod.fst (putQ (r.1, r.2.1, r.2.2.1) p) ++ (put32 r.2.2.2.1 ++ [0, 0]))) : Int) - Int.toNat (↑(List.length (Prod.fst (putQ (r.1, r.2.1, r.2.2.1) p) ++ (put32 r.2.2.2.1 ++ [0, 0]))) : Int)) (List.drop (Int.toNat (↑(List.length (Prod.fst (putQ (r.1, r.2.1, r.2.2.1) p) ++ (put32 r.2.2.2.1 ++ [0, 0]))) : Int)) (Prod.fst (putQ (r.1, r.2.1, r.2.2.1) p) ++ (put32 r.2.2.2.1 ++ [0, 0])))), AV.list (Ty.pair Ty.str (Ty.int IntKind.i64)) (Prod.snd (putQ (r.1, r.2.1, r.2.2.1) p))], AV.int IntKind.i64 (0 : Int)], [])) Tr.no) Tr.no) Tr.no) Tr.no) Tr.no) Tr.no) Tr.no)) Tr.no) Tr.no) Tr.no) (Tr.br (n32C r.2.2.2.1) (Tr.br (Nat.ble (List.length p.1 + List.length (put32 r.2.2.2.1 ++ [0, 0])) 9223372036854775807) (Tr.br (ptOk (p.1 ++ (put32 r.2.2.2.1 ++ [0, 0]), p.2) r.2.2.2.2) (Tr.br (mayR r.2.1 r.2.2.2.2) (Tr.br (decide ((0 : Int) ≤ IntKind.wrap IntKind.i64 ((↑(List.length (p.1 ++ (put32 r.2.2.2.1 ++ [0, 0]))) : Int) - (2 : Int))) && decide (IntKind.wrap IntKind.i64 ((↑(List.length (p.1 ++ (put32 r.2.2.2.1 ++ [0, 0]))) : Int) - (2 : Int)) ≤ (↑(List.length (Prod.fst (putR r.2.1 r.2.2.2.2 (p.1 ++ (put32 r.2.2.2.1 ++ [0, 0]), p.2)))) : Int))) (Tr.br (decide ((0 : Int) ≤ (0 : Int)) && decide ((0 : Int) ≤ IntKind.wrap IntKind.i64 ((↑(List.length (p.1 ++ (put32 r.2.2.2.1 ++ [0, 0]))) : Int) - (2 : Int)))) (Tr.br (n16C (IntKind.wrap IntKind.u16 (IntKind.wrap IntKind.i64 ((↑(List.length (Prod.fst (putR r.2.1 r.2.2.2.2 (p.1 ++ (put32 r.2.2.2.1 ++ [0, 0]), p.2)))) : Int) - (↑(List.length (p.1 ++ (put32 r.2.2.2.1 ++ [0, 0]))) : Int))))) (Tr.br (Nat.ble (List.length (List.take (Int.toNat (IntKind.wrap IntKind.i64 ((↑(List.length (p.1 ++ (put32 r.2.2.2.1 ++ [0, 0]))) : Int) - (2 : Int))) - Int.toNat (0 : Int)) (List.drop (Int.toNat (0 : Int)) (Prod.fst (putR r.2.1 r.2.2.2.2 (p.1 ++ (put32 r.2.2.2.1 ++ [0, 0]), p.2))))) + List.length (put16 (IntKind.wrap IntKind.u16 (IntKind.wrap IntKind.i64 ((↑(List.length (Prod.fst (putR r.2.1 r.2.2.2.2 (p.1 ++ (put32 r.2.2.2.1 ++ [0, 0]), p.2)))) : Int) - (↑(List.length (p.1 ++ (put32 r.2.2.2.1 ++ [0, 0]))) : Int)))))) 9223372036854775807) (Tr.br (decide ((0 : Int) ≤ (↑(List.length (Prod.fst (putR r.2.1 r.2.2.2.2 (p.1 ++ (put32 r.2.2.2.1 ++ [0, 0]), p.2)))) : Int)) && decide ((↑(List.length (Prod.fst (putR r.2.1 r.2.2.2.2 (p.1 ++ (put32 r.2.2.2.1 ++ [0, 0]), p.2)))) : Int) ≤ (↑(List.length (Prod.fst (putR r.2.1 r.2.2.2.2 (p.1 ++ (put32 r.2.2.2.1 ++ [0, 0]), p.2)))) : Int))) (Tr.br (decide ((0 : Int) ≤ (↑(List.length (p.1 ++ (put32 r.2.2.2.1 ++ [0, 0]))) : Int)) && decide ((↑(List.length (p.1 ++ (put32 r.2.2.2.1 ++ [0, 0]))) : Int) ≤ (↑(List.length (Prod.fst (putR r.2.1 r.2.2.2.2 (p.1 ++ (put32 r.2.2.2.1 ++ [0, 0]), p.2)))) : Int))) (Tr.br (Nat.ble (List.length (List.take (Int.toNat (IntKind.wrap IntKind.i64 ((↑(List.length (p.1 ++ (put32 r.2.2.2.1 ++ [0, 0]))) : Int) - (2 : Int))) - Int.toNat (0 : Int)) (List.drop (Int.toNat (0 : Int)) (Prod.fst (putR r.2.1 r.2.2.2.2 (p.1 ++ (put32 r.2.2.2.1 ++ [0, 0]), p.2)))) ++ put16 (IntKind.wrap IntKind.u16 (IntKind.wrap IntKind.i64 ((↑(List.length (Prod.fst (putR r.2.1 r.2.2.2.2 (p.1 ++ (put32 r.2.2.2.1 ++ [0, 0]), p.2)))) : Int) - (↑(List.length (p.1 ++ (put32 r.2.2.2.1 ++ [0, 0]))) : Int))))) + List.length (List.take (Int.toNat (↑(List.length (Prod.fst (putR r.2.1 r.2.2.2.2 (p.1 ++ (put32 r.2.2.2.1 ++ [0, 0]), p.2)))) : Int) - Int.toNat (↑(List.length (p.1 ++ (put32 r.2.2.2.1 ++ [0, 0]))) : Int)) (List.drop (Int.toNat (↑(List.length (p.1 ++ (put32 r.2.2.2.1 ++ [0, 0]))) : Int)) (Prod.fst (putR r.2.1 r.2.2.2.2 (p.1 ++ (put32 r.2.2.2.1 ++ [0, 0]), p.2)))))) 9223372036854775807) (Tr.ret ([AV.agg [AV.str (List.take (Int.toNat (IntKind.wrap IntKind.i64 ((↑(List.length (p.1 ++ (put32 r.2.2.2.1 ++ [0, 0]))) : Int) - (2 : Int))) - Int.toNat (0 : Int)) (List.drop (Int.toNat (0 : Int)) (Prod.fst (putR r.2.1 r.2.2.2.2 (p.1 ++ (put32 r.2.2.2.1 ++ [0, 0]), p.2)))) ++ put16 (IntKind.wrap IntKind.u16 (IntKind.wrap IntKind.i64 ((↑(List.length (Prod.fst (putR r.2.1 r.2.2.2.2 (p.1 ++ (put32 r.2.2.2.1 ++ [0, 0]), p.2)))) : Int) - (↑(List.length (p.1 ++ (put32 r.2.2.2.1 ++ [0, 0]))) : Int)))) ++ List.take (Int.toNat (↑(List.length (Prod.fst (putR r.2.1 r.2.2.2.2 (p.1 ++ (put32 r.2.2.2.1 ++ [0, 0]), p.2)))) : Int) - Int.toNat (↑(List.length (p.1 ++ (put32 r.2.2.2.1 ++ [0, 0]))) : Int)) (List.drop (Int.toNat (↑(List.length (p.1 ++ (put32 r.2.2.2.1 ++ [0, 0]))) : Int)) (Prod.fst (putR r.2.1 r.2.2.2.2 (p.1 ++ (put32 r.2.2.2.1 ++ [0, 0]), p.2))))), AV.list (Ty.pair Ty.str (Ty.int IntKind.i64)) (Prod.snd (putR r.2.1 r.2.2.2.2 (p.1 ++ (put32 r.2.2.2.1 ++ [0, 0]), p.2)))], AV.int IntKind.i64 (0 : Int)], [])) Tr.no) Tr.no) Tr.no) Tr.no) Tr.no) Tr.no) Tr.no) (Tr.br (decide ((0 : Int) ≤ IntKind.wrap IntKind.i64 ((↑(List.length (p.1 ++ (put32 r.2.2.2.1 ++ [0, 0]))) : Int) - (2 : Int))) && decide (IntKind.wrap IntKind.i64 ((↑(List.length (p.1 ++ (put32 r.2.2.2.1 ++ [0, 0]))) : Int) - (2 : Int)) ≤ (↑(List.length (p.1 ++ (put32 r.2.2.2.1 ++ [0, 0]))) : Int))) (Tr.br (decide ((0 : Int) ≤ (0 : Int)) && decide ((0 : Int) ≤ IntKind.wrap IntKind.i64 ((↑(List.length (p.1 ++ (put32 r.2.2.2.1 ++ [0, 0]))) : Int) - (2 : Int)))) (Tr.br (n16C (IntKind.wrap IntKind.u16 (IntKind.wrap IntKind.i64 ((↑(List.length (p.1 ++ (put32 r.2.2.2.1 ++ [0, 0]))) : Int) - (↑(List.length (p.1 ++ (put32 r.2.2.2.1 ++ [0, 0]))) : Int))))) (Tr.br (Nat.ble (List.length (List.take (Int.toNat (IntKind.wrap IntKind.i64 ((↑(List.length (p.1 ++ (put32 r.2.2.2.1 ++ [0, 0]))) : Int) - (2 : Int))) - Int.toNat (0 : Int)) (List.drop (Int.toNat (0 : Int)) (p.1 ++ (put32 r.2.2.2.1 ++ [0, 0])))) + List.length (put16 (IntKind.wrap IntKind.u16 (IntKind.wrap IntKind.i64 ((↑(List.length (p.1 ++ (put32 r.2.2.2.1 ++ [0, 0]))) : Int) - (↑(List.length (p.1 ++ (put32 r.2.2.2.1 ++ [0, 0]))) : Int)))))) 9223372036854775807) (Tr.br (decide ((0 : Int) ≤ (↑(List.length (p.1 ++ (put32 r.2.2.2.1 ++ [0, 0]))) : Int)) && decide ((↑(List.length (p.1 ++ (put32 r.2.2.2.1 ++ [0, 0]))) : Int) ≤ (↑(List.length (p.1 ++ (put32 r.2.2.2.1 ++ [0, 0]))) : Int))) (Tr.br (decide ((0 : Int) ≤ (↑(List.length (p.1 ++ (put32 r.2.2.2.1 ++ [0, 0]))) : Int)) && decide ((↑(List.length (p.1 ++ (put32 r.2.2.2.1 ++ [0, 0]))) : Int) ≤ (↑(List.length (p.1 ++ (put32 r.2.2.2.1 ++ [0, 0]))) : Int))) (Tr.br (Nat.ble (List.length (List.take (Int.toNat (IntKind.wrap IntKind.i64 ((↑(List.length (p.1 ++ (put32 r.2.2.2.1 ++ [0, 0]))) : Int) - (2 : Int))) - Int.toNat (0 : Int)) (List.drop (Int.toNat (0 : Int)) (p.1 ++ (put32 r.2.2.2.1 ++ [0, 0]))) ++ put16 (IntKind.wrap IntKind.u16 (IntKind.wrap IntKind.i64 ((↑(List.length (p.1 ++ (put32 r.2.2.2.1 ++ [0, 0]))) : Int) - (↑(List.length (p.1 ++ (put32 r.2.2.2.1 ++ [0, 0]))) : Int))))) + List.length (List.take (Int.toNat (↑(List.length (p.1 ++ (put32 r.2.2.2.1 ++ [0, 0]))) : Int) - Int.toNat (↑(List.length (p.1 ++ (put32 r.2.2.2.1 ++ [0, 0]))) : Int)) (List.drop (Int.toNat (↑(List.length (p.1 ++ (put32 r.2.2.2.1 ++ [0, 0]))) : Int)) (p.1 ++ (put32 r.2.2.2.1 ++ [0, 0]))))) 9223372036854775807) (Tr.ret ([AV.agg [AV.str (List.take (Int.toNat (IntKind.wrap IntKind.i64 ((↑(List.length (p.1 ++ (put32 r.2.2.2.1 ++ [0, 0]))) : Int) - (2 : Int))) - Int.toNat (0 : Int)) (List.drop (Int.toNat (0 : Int)) (p.1 ++ (put32 r.2.2.2.1 ++ [0, 0]))) ++ put16 (IntKind.wrap IntKind.u16 (IntKind.wrap IntKind.i64 ((↑(List.length (p.1 ++ (put32 r.2.2.2.1 ++ [0, 0]))) : Int) - (↑(List.length (p.1 ++ (put32 r.2.2.2.1 ++ [0, 0]))) : Int)))) ++ List.take (Int.toNat (↑(List.length (p.1 ++ (put32 r.2.2.2.1 ++ [0, 0]))) : Int) - Int.toNat (↑(List.length (p.1 ++ (put32 r.2.2.2.1 ++ [0, 0]))) : Int)) (List.drop (Int.toNat (↑(List.length (p.1 ++ (put32 r.2.2.2.1 ++ [0, 0]))) : Int)) (p.1 ++ (put32 r.2.2.2.1 ++ [0, 0])))), AV.list (Ty.pair Ty.str (Ty.int IntKind.i64)) p.2], AV.int IntKind.i64 (0 : Int)], [])) Tr.no) Tr.no) Tr.no) Tr.no) Tr.no) Tr.no) Tr.no)) Tr.no) Tr.no) Tr.no)) Tr.no)) Tr.no
def os25 : OSpec := { f := 25, sh := [.d (.pair .str (.list (.pair .str (.int .i64)))) true, .d RR true], so := [], F := fun (p, r, _) _ => t25 p r }
set_option maxRecDepth 1000000 in
theorem fn25 (p : (List UInt8 × List (List UInt8 × Int))) (r : RRt) : evC T0 (orcB [fs30w, fs23w, fs63, fs69w, fs70w, fs64w] []) (lpOf h25 0 (lsOf [])) c25 1000000 (startSt [AV.ofTy (.pair .str (.list (.pair .str (.int .i64)))) p true, AV.ofTy RR r true] [] Try.f25.ntmps) (finishK T0 false 0 Try.f25) = (t25 p r).get := by kernel_rfl
theorem ok25 : os25.Ok Try.prog := by
  refine os_ok mixed0 tab0 (orcB_sound (all_cons okf30w (all_cons okf23w (all_cons okf63 (all_cons okf69w (all_cons okf70w (all_cons okf64w all_nil)))))) all_nil) h25 (d := 0) (n0 := 0) (S := lsOf []) Try.func25 (by kernel_rfl) (c := c25) (by kernel_rfl) rfl (no_loops (by kernel_rfl)) (by omega) (by kernel_rfl) ?_
  intro x'' y'' q'' hq''
  obtain ⟨(p : (List UInt8 × List (List UInt8 × Int))), (r : RRt), _⟩ := x''
  exact (fn25 p r).trans hq''
def fs25 : FSpec := fsT 25 [((.pair .str (.list (.pair .str (.int .i64)))), true), (RR, true)] [((.pair .str (.list (.pair .str (.int .i64)))), true), ((.int .i64), false)] fun (p, r, _) => t25 p r
theorem okf25 : fs25.Ok Try.prog := fsT_ok fun x'' r'' hr'' => ok25 x'' () r'' hr''
end Go.Proofs.YtlkpiegllammdaaE
namespace Go.Proofs.YtlkpiegllammdaaE
open Go Go.Proofs.YtlkpiegllammdaaB
set_option linter.unusedVariables false
set_option linter.unusedSimpArgs false
set_option maxRecDepth 100000
def rOk (r : RRt) : Bool := Nat.ble r.1.length 1000000 && (n16C r.2.1 && (n16C r.2.2.1 && (n32C r.2.2.2.1 && Nat.ble r.2.2.2.2.length 1000000)))
def pkS (b : List Int) (m : Known) : Bool := bytesOk b && (kOk m && Nat.ble b.length 900000000)
def ptS (p : PKt) : Bool := kOk p.2 && (Nat.ble p.1.length 900000000 && Nat.ble p.2.length 900000000)
def hdR (r : RRt) : List UInt8 := put16 r.2.1 ++ put16 r.2.2.1 ++ put32 r.2.2.2.1
def S1R (r : RRt) (p : PKt) : List UInt8 := (nameP r.1 p.1 p.2).1 ++ hdR r ++ [0, 0]
def p2R (r : RRt) (p : PKt) : PKt := putR r.2.1 r.2.2.2.2 (S1R r p, (nameP r.1 p.1 p.2).2)
def clV (S : List UInt8) (a : Nat) : List UInt8 := S.take (a - 2) ++ put16 (((S.length : Int) - a) % 65536) ++ S.drop a
def recP (r : RRt) (p : PKt) : PKt := (clV (p2R r p).1 (S1R r p).length, (p2R r p).2)
theorem rOk_iff {r : RRt} : rOk r = true ↔ r.1.length ≤ 1000000 ∧ n16C r.2.1 = true ∧ n16C r.2.2.1 = true ∧ n32C r.2.2.2.1 = true ∧ r.2.2.2.2.length ≤ 1000000 := by
  unfold rOk
  rw [Bool.and_eq_true, Bool.and_eq_true, Bool.and_eq_true, Bool.and_eq_true]
  exact ⟨fun ⟨a, b, c, d, e⟩ => ⟨Nat.le_of_ble_eq_true a, b, c, d, Nat.le_of_ble_eq_true e⟩, fun ⟨a, b, c, d, e⟩ => ⟨Nat.ble_eq_true_of_le a, b, c, d, Nat.ble_eq_true_of_le e⟩⟩
theorem pkS_iff {b : List Int} {m : Known} : pkS b m = true ↔ bytesOk b = true ∧ kOk m = true ∧ b.length ≤ 900000000 := by
  unfold pkS
  rw [Bool.and_eq_true, Bool.and_eq_true]
  exact ⟨fun ⟨a, b, c⟩ => ⟨a, b, Nat.le_of_ble_eq_true c⟩, fun ⟨a, b, c⟩ => ⟨a, b, Nat.ble_eq_true_of_le c⟩⟩
theorem ptS_iff {p : PKt} : ptS p = true ↔ kOk p.2 = true ∧ p.1.length ≤ 900000000 ∧ p.2.length ≤ 900000000 := by
  unfold ptS
  rw [Bool.and_eq_true, Bool.and_eq_true]
  exact ⟨fun ⟨a, b, c⟩ => ⟨a, Nat.le_of_ble_eq_true b, Nat.le_of_ble_eq_true c⟩, fun ⟨a, b, c⟩ => ⟨a, Nat.ble_eq_true_of_le b, Nat.ble_eq_true_of_le c⟩⟩
theorem hdR_len (r : RRt) : (hdR r).length = 8 := rfl
theorem S1R_len (r : RRt) (p : PKt) : (S1R r p).length = (nameP r.1 p.1 p.2).1.length + 10 := by
  unfold S1R
  rw [List.length_append, List.length_append, hdR_len]
  rfl
theorem bytesInt_take (s : List UInt8) (n : Nat) : (bytesInt s).take n = bytesInt (s.take n) := by simp [bytesInt]
theorem bytesInt_drop (s : List UInt8) (n : Nat) : (bytesInt s).drop n = bytesInt (s.drop n) := by simp [bytesInt]
theorem closeB_bytes (S : List UInt8) (a : Nat) : closeB (bytesInt S) ((a : Int) + 2) = bytesInt (clV S (a + 2)) := by
  unfold closeB clV
  rw [bytesInt_len, bytesInt_take, bytesInt_drop, bytesInt_app, bytesInt_app, show ((a : Int) + 2 - 2).toNat = a + 2 - 2 by omega, show ((a : Int) + 2).toNat = a + 2 by omega, Int.natCast_add]
  rfl
theorem putS_ge : ∀ (ps : List Int) (ls : List (List UInt8)) (p : PKt), p.1.length ≤ (putS ps ls p).1.length
  | [], _, p => Nat.le_refl _
  | x :: ps, ls, p => by
    rw [putS]
    cases hx : x == -1 with
    | true =>
      have q2 := putS_ge ps ls.tail (stN p (ls.headD [], false))
      rw [cond_true]
      have k2 : p.1.length ≤ (stN p (ls.headD [], false)).1.length := by
        show p.1.length ≤ (bif mayV (ls.headD []) then nameP (ls.headD []) p.1 p.2 else p).1.length
        cases hm : mayV (ls.headD []) with
        | false => exact Nat.le_refl _
        | true =>
          rw [cond_true]
          obtain ⟨_, l2, _⟩ := nameL_len _ (ls.headD []) p.1 p.2 rfl (may_iff.1 hm).1
          omega
      omega
    | false =>
      have q2 : (p.1 ++ ls.headD []).length ≤ (putS ps ls.tail (p.1 ++ ls.headD [], p.2)).1.length := putS_ge ps ls.tail (p.1 ++ ls.headD [], p.2)
      rw [List.length_append] at q2
      rw [cond_false]
      omega
theorem putR_ge (k : Int) (d : List UInt8) (p : PKt) : p.1.length ≤ (putR k d p).1.length := putS_ge _ _ _
theorem recP_facts {r : RRt} {p : PKt} (hk : kOk p.2 = true) (hm : recV r = true) : kOk (nameP r.1 p.1 p.2).2 = true ∧ (nameP r.1 p.1 p.2).1.length ≤ p.1.length + r.1.length ∧ (nameP r.1 p.1 p.2).2.length ≤ p.2.length + r.1.length ∧ kOk (p2R r p).2 = true ∧ (S1R r p).length ≤ (p2R r p).1.length ∧ (p2R r p).1.length ≤ (S1R r p).length + r.2.2.2.2.length ∧ (p2R r p).2.length ≤ (nameP r.1 p.1 p.2).2.length + r.2.2.2.2.length := by
  obtain ⟨m1, m2⟩ := Bool.and_eq_true_iff.1 (show (mayV r.1 && mayR r.2.1 r.2.2.2.2) = true from hm)
  obtain ⟨a1, a2, a3⟩ := nameP_k (p := p) m1 hk
  obtain ⟨b1, b2, b3⟩ := putR_len (p := (S1R r p, (nameP r.1 p.1 p.2).2)) m2 a1
  exact ⟨a1, a2, a3, b1, putR_ge r.2.1 r.2.2.2.2 (S1R r p, (nameP r.1 p.1 p.2).2), b2, b3⟩
theorem clV_len {S : List UInt8} {a : Nat} (h2 : 2 ≤ a) (h : a ≤ S.length) : (clV S a).length = S.length := by
  unfold clV
  rw [List.length_append, List.length_append, List.length_take, List.length_drop, put16_len]
  omega
def os24w : OSpec := os24.like fun (r, _) (_, b, m, _) => .br (pkS b m && rOk r) (.br (recV r) (.ret ([.int .i64 0], pkO (bytesInt (recP r (intBytes b, m)).1) (recP r (intBytes b, m)).2)) (.ret ([.int .i64 1], pkO b m))) .no
theorem ok24w : os24w.Ok Try.prog := by
  refine like_ok ok24 _ ?_
  rintro ⟨(r : RRt), _⟩ ⟨_, (b : List Int), (m : Known), _⟩ y h
  simp only [Tr.get] at h
  cases hc : pkS b m && rOk r with
  | false => rw [hc] at h; cases h
  | true =>
    rw [hc, cond_true] at h
    obtain ⟨h1, h2⟩ := Bool.and_eq_true_iff.1 hc
    obtain ⟨b1, b2, b3⟩ := pkS_iff.1 h1
    obtain ⟨r1, r2, r3, r4, r5⟩ := rOk_iff.1 h2
    have hbig : rrBig r = true := by unfold rrBig; rw [len_big (show r.1.length ≤ _ by omega), len_big (show r.2.2.2.2.length ≤ _ by omega)]; rfl
    refine Tr.get_of_all ?_
    show (t24 r b m).all _
    unfold t24
    cases hm : recV r with
    | false =>
      rw [hm, cond_false] at h
      cases h
      exact Tr.all_t hbig (Tr.all_t rfl (Tr.all_ret rfl))
    | true =>
      rw [hm, cond_true] at h
      cases h
      obtain ⟨m1, m2⟩ := Bool.and_eq_true_iff.1 (show (mayV r.1 && mayR r.2.1 r.2.2.2.2) = true from hm)
      obtain ⟨a1, a2, a3, a4, a5, a6, a7⟩ := recP_facts (p := (intBytes b, m)) b2 hm
      have hl := intB_len b
      have hs1 := S1R_len r (intBytes b, m)
      have hz : [(0 : Ty.den (Ty.int IntKind.u8)), (0 : Ty.den (Ty.int IntKind.u8))] = bytesInt [0, 0] := rfl
      have hS : (nameP r.1 (intBytes b) m).1 ++ (put16 r.2.1 ++ put16 r.2.2.1 ++ put32 r.2.2.2.1) ++ [0, 0] = S1R r (intBytes b, m) := rfl
      have hp2 : putR r.2.1 r.2.2.2.2 (S1R r (intBytes b, m), (nameP r.1 (intBytes b) m).2) = p2R r (intBytes b, m) := rfl
      have hhl : (put16 r.2.1 ++ put16 r.2.2.1 ++ put32 r.2.2.2.1).length = 8 := rfl
      simp only [hz, ← bytesInt_app, intB_bytes, bytesInt_len, hS, hp2, List.length_append, hhl]
      simp only at a1 a2 a3 hs1
      have hk1 : pkC b m = true := by unfold pkC; rw [b1, b2, Nat.ble_eq_true_of_le (by omega)]; rfl
      refine Tr.all_t hbig (Tr.all_f rfl (Tr.all_t (by rw [hk1, Nat.ble_eq_true_of_le (by omega)]; rfl) (Tr.all_t m1 (Tr.all_t r2 (Tr.all_t r3 (Tr.all_t r4 (Tr.all_t (fits_true (by omega) (by omega)) (Tr.all_t (Nat.ble_eq_true_of_le (by omega)) (Tr.all_t ?_ (Tr.all_t m2 (Tr.all_t (Nat.ble_eq_true_of_le (by omega)) (Tr.all_t ?_ (Tr.all_ret ?_)))))))))))))
      · rw [pkT_iff.2 ⟨bytesInt_ok _, a1, by rw [bytesInt_len]; omega⟩, Nat.ble_eq_true_of_le r5]
        rfl
      · have h3 : (2 : Int) ≤ (((nameP r.1 (intBytes b) m).1.length + 8 : Nat) : Int) + 2 := by omega
        have h4 : (((nameP r.1 (intBytes b) m).1.length + 8 : Nat) : Int) + 2 ≤ ((p2R r (intBytes b, m)).1.length : Int) := by omega
        exact Bool.and_eq_true_iff.2 ⟨decide_eq_true h3, decide_eq_true h4⟩
      · have hcl := closeB_bytes (p2R r (intBytes b, m)).1 ((nameP r.1 (intBytes b) m).1.length + 8)
        rw [hcl, show (nameP r.1 (intBytes b) m).1.length + 8 + 2 = (S1R r (intBytes b, m)).length by omega]
        rfl
def fs25w : FSpec := fs25.like fun (p, r, _) => .br (ptS p && rOk r) (.br (recV r) (.ret (recP r p, (0 : Int), ())) (.ret (p, (1 : Int), ()))) .no
theorem put5_all (p : PKt) (r : RRt) (hp : ptS p = true) (hr : rOk r = true) : Tr.all (fun x : Res => x = bif recV r then pkV (recP r p) 0 else pkV p 1) (t25 p r) := by
  obtain ⟨p1, p2, p3⟩ := ptS_iff.1 hp
  obtain ⟨r1, r2, r3, r4, r5⟩ := rOk_iff.1 hr
  have hbig : rrBig r = true := by unfold rrBig; rw [len_big (show r.1.length ≤ _ by omega), len_big (show r.2.2.2.2.length ≤ _ by omega)]; rfl
  unfold t25
  cases hm : recV r with
  | false => exact Tr.all_t hbig (Tr.all_t rfl (Tr.all_ret rfl))
  | true =>
    rw [cond_true]
    obtain ⟨m1, m2⟩ := Bool.and_eq_true_iff.1 (show (mayV r.1 && mayR r.2.1 r.2.2.2.2) = true from hm)
    obtain ⟨a1, a2, a3, a4, a5, a6, a7⟩ := recP_facts (p := p) p1 hm
    have hs1 := S1R_len r p
    have hS : (putQ (r.1, r.2.1, r.2.2.1) p).1 ++ (put32 r.2.2.2.1 ++ [0, 0]) = S1R r p := by
      unfold putQ qB S1R hdR
      simp only [List.append_assoc]
    have hq2 : (putQ (r.1, r.2.1, r.2.2.1) p).2 = (nameP r.1 p.1 p.2).2 := rfl
    have hp2 : putR r.2.1 r.2.2.2.2 (S1R r p, (nameP r.1 p.1 p.2).2) = p2R r p := rfl
    have hql : (putQ (r.1, r.2.1, r.2.2.1) p).1.length = (nameP r.1 p.1 p.2).1.length + 4 := by
      unfold putQ
      rw [List.length_append, qB_len]
    have hpl : (put32 r.2.2.2.1 ++ [0, 0]).length = 6 := rfl
    have hw1 : IntKind.wrap IntKind.i64 (((S1R r p).length : Int) - 2) = (((S1R r p).length - 2 : Nat) : Int) := by rw [IntWalk.i64_in _ (by omega)]; omega
    have hw2 : IntKind.wrap IntKind.u16 (IntKind.wrap IntKind.i64 (((p2R r p).1.length : Int) - ((S1R r p).length : Int))) = (((p2R r p).1.length : Int) - ((S1R r p).length : Int)) % 65536 := by
      rw [IntWalk.i64_in _ (by omega), IntKind.wrap_u16]
    simp only [hS, hq2, hp2, hw1, hw2, tk_beg, tk_end]
    have hq : qOk (r.1, r.2.1, r.2.2.1) = true := qOk_iff.2 ⟨r1, r2, r3⟩
    have hmod : 0 ≤ (((p2R r p).1.length : Int) - ((S1R r p).length : Int)) % 65536 ∧ (((p2R r p).1.length : Int) - ((S1R r p).length : Int)) % 65536 ≤ 65535 := by omega
    refine Tr.all_t hbig (Tr.all_f rfl (Tr.all_t ?_ (Tr.all_t m1 (Tr.all_t r4 (Tr.all_t (Nat.ble_eq_true_of_le (by rw [hql, hpl]; omega)) (Tr.all_t ?_ (Tr.all_t m2 (Tr.all_t ?_ (Tr.all_t ?_ (Tr.all_t ?_ (Tr.all_t (Nat.ble_eq_true_of_le ?_) (Tr.all_t ?_ (Tr.all_t ?_ (Tr.all_t (Nat.ble_eq_true_of_le ?_) (Tr.all_ret ?_)))))))))))))))
    · rw [ptOk_iff.2 ⟨len_big (by omega), p1, by omega, by omega⟩, hq]; rfl
    · exact ptOk_iff.2 ⟨len_big (by omega), a1, by show (S1R r p).length ≤ _; omega, by show (nameP r.1 p.1 p.2).2.length ≤ _; omega⟩
    · rw [dec_true (by omega), dec_true (by omega)]; rfl
    · rw [dec_true (by omega), dec_true (by omega)]; rfl
    · unfold n16C
      rw [dec_true hmod.1, dec_true hmod.2]; rfl
    · rw [List.length_take, put16_len]; omega
    · rw [dec_true (by omega), dec_true (by omega)]; rfl
    · rw [dec_true (by omega), dec_true (by omega)]; rfl
    · rw [List.length_append, List.length_take, put16_len, List.length_drop]; omega
    · rfl
theorem okf25w : fs25w.Ok Try.prog := by
  refine flike_ok okf25 _ ?_
  rintro ⟨(p : PKt), (r : RRt), _⟩ y h
  simp only [Tr.get] at h
  cases hc : ptS p && rOk r with
  | false => rw [hc] at h; cases h
  | true =>
    rw [hc, cond_true] at h
    obtain ⟨h1, h2⟩ := Bool.and_eq_true_iff.1 hc
    have ha := put5_all p r h1 h2
    cases hm : recV r with
    | false =>
      rw [hm, cond_false] at h ha
      cases h
      exact convR_of (vs := (pkV p 1).1) rfl rfl (Tr.get_of_all ha)
    | true =>
      rw [hm, cond_true] at h ha
      cases h
      exact convR_of (vs := (pkV (recP r p) 0).1) rfl rfl (Tr.get_of_all ha)
def t89 (s : List UInt8) (at_ : Int) (bad : Bool) : Tr Res := Tr.br (bigS s) (Tr.br bad (Tr.ret ([AV.str (tkS (takeG s at_ at_ (-1 : Int) []))], [LObj.boxT none [AV.str s, AV.int IntKind.i64 (tkN (takeG s at_ at_ (-1 : Int) [])), AV.bool true]])) (Tr.ret ([AV.str (tkS (takeG s at_ at_ (-1 : Int) []))], [LObj.boxT none [AV.str s, AV.int IntKind.i64 (tkN (takeG s at_ at_ (-1 : Int) [])), AV.bool (tkE (takeG s at_ at_ (-1 : Int) []) != (0 : Int))]]))) Tr.no
def os89 : OSpec := { f := 89, sh := [.ptr 0 0, .fnp 90 []], so := [.box [.d .str false, .d (.int .i64) false, .d .bool false]], F := fun _ ((s, at_, bad, _), _) => t89 s at_ bad }
set_option maxRecDepth 1000000 in
theorem fn89 (s : List UInt8) (at_ : Int) (bad : Bool) : evC T0 (orcB [fs90w, fs55w, fs53w] []) (lpOf h89 1 (lsOf [])) c89 1000000 (startSt [.ptr 0 0, .fn 90 []] [.box [.str s, .int .i64 at_, .bool bad]] Try.f89.ntmps) (finishK T0 false 1 Try.f89) = (t89 s at_ bad).get := by kernel_rfl
theorem ok89 : os89.Ok Try.prog := by
  refine os_ok mixed0 tab0 (orcB_sound (all_cons okf90w (all_cons okf55w (all_cons okf53w all_nil))) all_nil) h89 (d := 0) (n0 := 1) (S := lsOf []) Try.func89 (by kernel_rfl) (c := c89) (by kernel_rfl) rfl (no_loops (by kernel_rfl)) (by omega) (by kernel_rfl) ?_
  intro x'' y'' q'' hq''
  obtain ⟨⟨(s : List UInt8), (at_ : Int), (bad : Bool), _⟩, _⟩ := y''
  exact (fn89 s at_ bad).trans hq''
def t54 (s : List UInt8) (at_ : Int) (bad : Bool) : Tr Res := Tr.br (bigS s) (Tr.br (someB s at_ (2 : Int)) (Tr.br bad (Tr.ret ([AV.int IntKind.u16 (n16 s at_)], [LObj.boxT none [AV.str s, AV.int IntKind.i64 (at_ + (2 : Ty.den (Ty.int IntKind.i64))), AV.bool true]])) (Tr.ret ([AV.int IntKind.u16 (n16 s at_)], [LObj.boxT none [AV.str s, AV.int IntKind.i64 (at_ + (2 : Ty.den (Ty.int IntKind.i64))), AV.bool ((0 : Int) != (0 : Int))]]))) (Tr.br bad (Tr.ret ([AV.int IntKind.u16 (0 : Int)], [LObj.boxT none [AV.str s, AV.int IntKind.i64 (0 : Int), AV.bool true]])) (Tr.ret ([AV.int IntKind.u16 (0 : Int)], [LObj.boxT none [AV.str s, AV.int IntKind.i64 (0 : Int), AV.bool ((2 : Int) != (0 : Int))]])))) Tr.no
def os54 : OSpec := { f := 54, sh := [.ptr 0 0, .fnp 55 []], so := [.box [.d .str false, .d (.int .i64) false, .d .bool false]], F := fun _ ((s, at_, bad, _), _) => t54 s at_ bad }
set_option maxRecDepth 1000000 in
theorem fn54 (s : List UInt8) (at_ : Int) (bad : Bool) : evC T0 (orcB [fs90w, fs55w, fs53w] []) (lpOf h54 1 (lsOf [])) c54 1000000 (startSt [.ptr 0 0, .fn 55 []] [.box [.str s, .int .i64 at_, .bool bad]] Try.f54.ntmps) (finishK T0 false 1 Try.f54) = (t54 s at_ bad).get := by kernel_rfl
theorem ok54 : os54.Ok Try.prog := by
  refine os_ok mixed0 tab0 (orcB_sound (all_cons okf90w (all_cons okf55w (all_cons okf53w all_nil))) all_nil) h54 (d := 0) (n0 := 1) (S := lsOf []) Try.func54 (by kernel_rfl) (c := c54) (by kernel_rfl) rfl (no_loops (by kernel_rfl)) (by omega) (by kernel_rfl) ?_
  intro x'' y'' q'' hq''
  obtain ⟨⟨(s : List UInt8), (at_ : Int), (bad : Bool), _⟩, _⟩ := y''
  exact (fn54 s at_ bad).trans hq''
def t52 (s : List UInt8) (at_ : Int) (bad : Bool) : Tr Res := Tr.br (bigS s) (Tr.br (someB s at_ (4 : Int)) (Tr.br bad (Tr.ret ([AV.int IntKind.u32 (n32 s at_)], [LObj.boxT none [AV.str s, AV.int IntKind.i64 (at_ + (4 : Ty.den (Ty.int IntKind.i64))), AV.bool true]])) (Tr.ret ([AV.int IntKind.u32 (n32 s at_)], [LObj.boxT none [AV.str s, AV.int IntKind.i64 (at_ + (4 : Ty.den (Ty.int IntKind.i64))), AV.bool ((0 : Int) != (0 : Int))]]))) (Tr.br bad (Tr.ret ([AV.int IntKind.u32 (0 : Int)], [LObj.boxT none [AV.str s, AV.int IntKind.i64 (0 : Int), AV.bool true]])) (Tr.ret ([AV.int IntKind.u32 (0 : Int)], [LObj.boxT none [AV.str s, AV.int IntKind.i64 (0 : Int), AV.bool ((2 : Int) != (0 : Int))]])))) Tr.no
def os52 : OSpec := { f := 52, sh := [.ptr 0 0, .fnp 53 []], so := [.box [.d .str false, .d (.int .i64) false, .d .bool false]], F := fun _ ((s, at_, bad, _), _) => t52 s at_ bad }
set_option maxRecDepth 1000000 in
theorem fn52 (s : List UInt8) (at_ : Int) (bad : Bool) : evC T0 (orcB [fs90w, fs55w, fs53w] []) (lpOf h52 1 (lsOf [])) c52 1000000 (startSt [.ptr 0 0, .fn 53 []] [.box [.str s, .int .i64 at_, .bool bad]] Try.f52.ntmps) (finishK T0 false 1 Try.f52) = (t52 s at_ bad).get := by kernel_rfl
theorem ok52 : os52.Ok Try.prog := by
  refine os_ok mixed0 tab0 (orcB_sound (all_cons okf90w (all_cons okf55w (all_cons okf53w all_nil))) all_nil) h52 (d := 0) (n0 := 1) (S := lsOf []) Try.func52 (by kernel_rfl) (c := c52) (by kernel_rfl) rfl (no_loops (by kernel_rfl)) (by omega) (by kernel_rfl) ?_
  intro x'' y'' q'' hq''
  obtain ⟨⟨(s : List UInt8), (at_ : Int), (bad : Bool), _⟩, _⟩ := y''
  exact (fn52 s at_ bad).trans hq''
end Go.Proofs.YtlkpiegllammdaaE
namespace Go.Proofs.YtlkpiegllammdaaE
open Go Go.Proofs.YtlkpiegllammdaaB
set_option linter.unusedVariables false
set_option linter.unusedSimpArgs false
set_option maxRecDepth 100000
abbrev tk0 (s : List UInt8) (a : Int) : Option (List UInt8 × Int) := takeG s a a (-1) []
def vn16 (s : List UInt8) (a : Int) : Int := bif someB s a 2 then n16 s a else 0
def xn16 (s : List UInt8) (a : Int) : Int := bif someB s a 2 then a + 2 else 0
def vn32 (s : List UInt8) (a : Int) : Int := bif someB s a 4 then n32 s a else 0
def xn32 (s : List UInt8) (a : Int) : Int := bif someB s a 4 then a + 4 else 0
def rdB (s : List UInt8) (a : Int) (bad : Bool) : LObj := .boxT none [.str s, .int .i64 a, .bool bad]
def os89w : OSpec := os89.like fun _ ((s, at_, bad, _), _) => .on (bigS s) ([.str (tkS (tk0 s at_))], [rdB s (tkN (tk0 s at_)) (bad || tkE (tk0 s at_) != 0)])
theorem ok89w : os89w.Ok Try.prog := by
  refine like_ok ok89 _ ?_
  rintro _ ⟨⟨(s : List UInt8), (at_ : Int), (bad : Bool), _⟩, _⟩ y h
  obtain ⟨hb, rfl⟩ := Tr.get_on h
  refine Tr.get_of_all ?_
  show (t89 s at_ bad).all _
  exact Tr.all_t hb (Tr.all_br (fun h => Tr.all_ret (by rw [h]; rfl)) fun h => Tr.all_ret (by rw [h]; rfl))
def os54w : OSpec := os54.like fun _ ((s, at_, bad, _), _) => .on (bigS s) ([.int .u16 (vn16 s at_)], [rdB s (xn16 s at_) (bad || !someB s at_ 2)])
theorem ok54w : os54w.Ok Try.prog := by
  refine like_ok ok54 _ ?_
  rintro _ ⟨⟨(s : List UInt8), (at_ : Int), (bad : Bool), _⟩, _⟩ y h
  obtain ⟨hb, rfl⟩ := Tr.get_on h
  refine Tr.get_of_all ?_
  show (t54 s at_ bad).all _
  unfold t54 vn16 xn16
  exact Tr.all_t hb (Tr.all_br (fun h => Tr.all_br (fun h2 => Tr.all_ret (by rw [h, h2]; rfl)) fun h2 => Tr.all_ret (by rw [h, h2]; rfl)) fun h => Tr.all_br (fun h2 => Tr.all_ret (by rw [h, h2]; rfl)) fun h2 => Tr.all_ret (by rw [h, h2]; rfl))
def os52w : OSpec := os52.like fun _ ((s, at_, bad, _), _) => .on (bigS s) ([.int .u32 (vn32 s at_)], [rdB s (xn32 s at_) (bad || !someB s at_ 4)])
theorem ok52w : os52w.Ok Try.prog := by
  refine like_ok ok52 _ ?_
  rintro _ ⟨⟨(s : List UInt8), (at_ : Int), (bad : Bool), _⟩, _⟩ y h
  obtain ⟨hb, rfl⟩ := Tr.get_on h
  refine Tr.get_of_all ?_
  show (t52 s at_ bad).all _
  unfold t52 vn32 xn32
  exact Tr.all_t hb (Tr.all_br (fun h => Tr.all_br (fun h2 => Tr.all_ret (by rw [h, h2]; rfl)) fun h2 => Tr.all_ret (by rw [h, h2]; rfl)) fun h => Tr.all_br (fun h2 => Tr.all_ret (by rw [h, h2]; rfl)) fun h2 => Tr.all_ret (by rw [h, h2]; rfl))
def t51 (s : List UInt8) (at_ : Int) (bad : Bool) : Tr Res := Tr.br (bigS s) (Tr.br (bigS s) (Tr.br (bigS s) (Tr.ret ([AV.agg [AV.str (tkS (tk0 s at_)), AV.int IntKind.u16 (vn16 s (tkN (tk0 s at_))), AV.int IntKind.u16 (vn16 s (xn16 s (tkN (tk0 s at_))))]], [LObj.boxT none [AV.str s, AV.int IntKind.i64 (xn16 s (xn16 s (tkN (tk0 s at_)))), AV.bool (bad || tkE (tk0 s at_) != (0 : Int) || !someB s (tkN (tk0 s at_)) (2 : Int) || !someB s (xn16 s (tkN (tk0 s at_))) (2 : Int))]])) Tr.no) Tr.no) Tr.no
def os51 : OSpec := { f := 51, sh := [.ptr 0 0], so := [.box [.d .str false, .d (.int .i64) false, .d .bool false]], F := fun _ ((s, at_, bad, _), _) => t51 s at_ bad }
set_option maxRecDepth 1000000 in
theorem fn51 (s : List UInt8) (at_ : Int) (bad : Bool) : evC T0 (orcB [] [os89w, os54w, os52w]) (lpOf h51 1 (lsOf [])) c51 1000000 (startSt [.ptr 0 0] [.box [.str s, .int .i64 at_, .bool bad]] Try.f51.ntmps) (finishK T0 false 1 Try.f51) = (t51 s at_ bad).get := by kernel_rfl
theorem ok51 : os51.Ok Try.prog := by
  refine os_ok mixed0 tab0 (orcB_sound all_nil (all_cons ok89w (all_cons ok54w (all_cons ok52w all_nil)))) h51 (d := 0) (n0 := 1) (S := lsOf []) Try.func51 (by kernel_rfl) (c := c51) (by kernel_rfl) rfl (no_loops (by kernel_rfl)) (by omega) (by kernel_rfl) ?_
  intro x'' y'' q'' hq''
  obtain ⟨⟨(s : List UInt8), (at_ : Int), (bad : Bool), _⟩, _⟩ := y''
  exact (fn51 s at_ bad).trans hq''
def t28 (s : List UInt8) (at_ : Int) : Tr Res := Tr.br (bigS s) (Tr.br (bigS s) (Tr.br (bigS s) (Tr.br (false || tkE (tk0 s at_) != (0 : Int) || !someB s (tkN (tk0 s at_)) (2 : Int) || !someB s (xn16 s (tkN (tk0 s at_))) (2 : Int)) (Tr.ret ([AV.agg [AV.str [], AV.int IntKind.u16 (0 : Int), AV.int IntKind.u16 (0 : Int)], AV.int IntKind.i64 (0 : Int), AV.int IntKind.i64 (2 : Int)], [])) (Tr.ret ([AV.agg [AV.str (tkS (tk0 s at_)), AV.int IntKind.u16 (vn16 s (tkN (tk0 s at_))), AV.int IntKind.u16 (vn16 s (xn16 s (tkN (tk0 s at_))))], AV.int IntKind.i64 (xn16 s (xn16 s (tkN (tk0 s at_)))), AV.int IntKind.i64 (0 : Int)], []))) Tr.no) Tr.no) Tr.no
set_option maxRecDepth 1000000 in
theorem fn28 (s : List UInt8) (at_ : Int) : evC T0 (orcB [fs56w] [os89w, os54w, os52w, os51]) (lpOf h28 0 (lsOf [])) c28 1000000 (startSt [.str s, .int .i64 at_] [] Try.f28.ntmps) (finishK T0 false 0 Try.f28) = (t28 s at_).get := by kernel_rfl
def fs28 : FSpec := fsT 28 [(.str, false), ((.int .i64), false)] [(QQ, true), ((.int .i64), false), ((.int .i64), false)] fun (s, at_, _) => t28 s at_
def t16 (s : List UInt8) (at_ : Int) : Tr Res := Tr.br (bigS s) (Tr.br (bigS s) (Tr.br (bigS s) (Tr.br (bigS s) (Tr.br (bigS s) (Tr.br (false || tkE (tk0 s at_) != (0 : Int) || !someB s (tkN (tk0 s at_)) (2 : Int) || !someB s (xn16 s (tkN (tk0 s at_))) (2 : Int) || !someB s (xn16 s (xn16 s (tkN (tk0 s at_)))) (4 : Int) || !someB s (xn32 s (xn16 s (xn16 s (tkN (tk0 s at_))))) (2 : Int)) (Tr.ret ([AV.agg [AV.str [], AV.int IntKind.u16 (0 : Int), AV.int IntKind.u16 (0 : Int), AV.int IntKind.u32 (0 : Int), AV.str []], AV.int IntKind.i64 (0 : Int), AV.int IntKind.i64 (2 : Int)], [])) (Tr.br (smS s) (Tr.br ((if Option.isSome (takeV s (xn16 s (xn32 s (xn16 s (xn16 s (tkN (tk0 s at_)))))) (IntKind.wrap IntKind.i64 (vn16 s (xn32 s (xn16 s (xn16 s (tkN (tk0 s at_))))))) (vn16 s (tkN (tk0 s at_)))) = true then (0 : Int) else (2 : Ty.den (Ty.int IntKind.i64))) != (0 : Int)) (Tr.ret ([AV.agg [AV.str [], AV.int IntKind.u16 (0 : Int), AV.int IntKind.u16 (0 : Int), AV.int IntKind.u32 (0 : Int), AV.str []], AV.int IntKind.i64 (0 : Int), AV.int IntKind.i64 (if Option.isSome (takeV s (xn16 s (xn32 s (xn16 s (xn16 s (tkN (tk0 s at_)))))) (IntKind.wrap IntKind.i64 (vn16 s (xn32 s (xn16 s (xn16 s (tkN (tk0 s at_))))))) (vn16 s (tkN (tk0 s at_)))) = true then (0 : Int) else (2 : Ty.den (Ty.int IntKind.i64)))], [])) (Tr.ret ([AV.agg [AV.str (tkS (tk0 s at_)), AV.int IntKind.u16 (vn16 s (tkN (tk0 s at_))), AV.int IntKind.u16 (vn16 s (xn16 s (tkN (tk0 s at_)))), AV.int IntKind.u32 (vn32 s (xn16 s (xn16 s (tkN (tk0 s at_))))), AV.str (Option.getD (takeV s (xn16 s (xn32 s (xn16 s (xn16 s (tkN (tk0 s at_)))))) (IntKind.wrap IntKind.i64 (vn16 s (xn32 s (xn16 s (xn16 s (tkN (tk0 s at_))))))) (vn16 s (tkN (tk0 s at_)))) [])], AV.int IntKind.i64 (IntKind.wrap IntKind.i64 (xn16 s (xn32 s (xn16 s (xn16 s (tkN (tk0 s at_))))) + IntKind.wrap IntKind.i64 (vn16 s (xn32 s (xn16 s (xn16 s (tkN (tk0 s at_)))))))), AV.int IntKind.i64 (0 : Int)], []))) Tr.no)) Tr.no) Tr.no) Tr.no) Tr.no) Tr.no
def os16 : OSpec := { f := 16, sh := [.d .str false, .d (.int .i64) false], so := [], F := fun (s, at_, _) _ => t16 s at_ }
set_option maxRecDepth 1000000 in
theorem fn16 (s : List UInt8) (at_ : Int) : evC T0 (orcB [fs56w] [os89w, os54w, os52w, os51]) (lpOf h16 0 (lsOf [])) c16 1000000 (startSt [.str s, .int .i64 at_] [] Try.f16.ntmps) (finishK T0 false 0 Try.f16) = (t16 s at_).get := by kernel_rfl
theorem ok16 : os16.Ok Try.prog := by
  refine os_ok mixed0 tab0 (orcB_sound (all_cons okf56w all_nil) (all_cons ok89w (all_cons ok54w (all_cons ok52w (all_cons ok51 all_nil))))) h16 (d := 0) (n0 := 0) (S := lsOf []) Try.func16 (by kernel_rfl) (c := c16) (by kernel_rfl) rfl (no_loops (by kernel_rfl)) (by omega) (by kernel_rfl) ?_
  intro x'' y'' q'' hq''
  obtain ⟨(s : List UInt8), (at_ : Int), _⟩ := x''
  exact (fn16 s at_).trans hq''
def fs16 : FSpec := fsT 16 [(.str, false), ((.int .i64), false)] [(RR, true), ((.int .i64), false), ((.int .i64), false)] fun (s, at_, _) => t16 s at_
theorem okf16 : fs16.Ok Try.prog := fsT_ok fun x'' r'' hr'' => ok16 x'' () r'' hr''
def t29 (s : List UInt8) (at_ : Int) : Tr Res := Tr.br (bigS s) (Tr.br (tkE (takeG s at_ at_ (-1 : Int) []) != (0 : Int)) (Tr.ret ([AV.agg [AV.str [], AV.int IntKind.u16 (0 : Int), AV.int IntKind.u16 (0 : Int)], AV.int IntKind.i64 (0 : Int), AV.int IntKind.i64 (2 : Int)], [])) (Tr.br (bigS s) (Tr.br (someB s (tkN (takeG s at_ at_ (-1 : Int) [])) (2 : Int)) (Tr.br (bigS s) (Tr.br (someB s (tkN (takeG s at_ at_ (-1 : Int) []) + (2 : Ty.den (Ty.int IntKind.i64))) (2 : Int)) (Tr.ret ([AV.agg [AV.str (tkS (takeG s at_ at_ (-1 : Int) [])), AV.int IntKind.u16 (n16 s (tkN (takeG s at_ at_ (-1 : Int) []))), AV.int IntKind.u16 (n16 s (tkN (takeG s at_ at_ (-1 : Int) []) + (2 : Ty.den (Ty.int IntKind.i64))))], AV.int IntKind.i64 (tkN (takeG s at_ at_ (-1 : Int) []) + (2 : Ty.den (Ty.int IntKind.i64)) + (2 : Ty.den (Ty.int IntKind.i64))), AV.int IntKind.i64 (0 : Int)], [])) (Tr.ret ([AV.agg [AV.str [], AV.int IntKind.u16 (0 : Int), AV.int IntKind.u16 (0 : Int)], AV.int IntKind.i64 (0 : Int), AV.int IntKind.i64 (2 : Int)], []))) Tr.no) (Tr.br (bigS s) (Tr.br (someB s (0 : Int) (2 : Int)) (Tr.ret ([AV.agg [AV.str [], AV.int IntKind.u16 (0 : Int), AV.int IntKind.u16 (0 : Int)], AV.int IntKind.i64 (0 : Int), AV.int IntKind.i64 (2 : Int)], [])) (Tr.ret ([AV.agg [AV.str [], AV.int IntKind.u16 (0 : Int), AV.int IntKind.u16 (0 : Int)], AV.int IntKind.i64 (0 : Int), AV.int IntKind.i64 (2 : Int)], []))) Tr.no)) Tr.no)) Tr.no
set_option maxRecDepth 1000000 in
theorem fn29 (s : List UInt8) (at_ : Int) : evC T0 (orcB [fs74w, fs72w] []) (lpOf h29 0 (lsOf [])) c29 1000000 (startSt [.str s, .int .i64 at_] [] Try.f29.ntmps) (finishK T0 false 0 Try.f29) = (t29 s at_).get := by kernel_rfl
def fs29 : FSpec := fsT 29 [(.str, false), ((.int .i64), false)] [(QQ, true), ((.int .i64), false), ((.int .i64), false)] fun (s, at_, _) => t29 s at_
theorem some_iff {s : List UInt8} {a n : Int} : someB s a n = true ↔ 0 ≤ a ∧ 0 ≤ n ∧ a + n ≤ s.length := by
  unfold someB
  rw [Bool.and_eq_true, Bool.and_eq_true, decide_eq_true_eq, decide_eq_true_eq, decide_eq_true_eq]
theorem some_not {s : List UInt8} {a n : Int} (h : ¬ (0 ≤ a ∧ 0 ≤ n ∧ a + n ≤ s.length)) : someB s a n = false := by
  cases hb : someB s a n
  · rfl
  · exact absurd (some_iff.1 hb) h
def tkQ (s : List UInt8) (a : Int) : Option (QQt × Int) := match tk0 s a with
  | none => none
  | some p => if someB s p.2 4 = true then some ((p.1, n16 s p.2, n16 s (p.2 + 2)), p.2 + 4) else none
def tkR (s : List UInt8) (a : Int) : Option (RRt × Int) := match tkQ s a with
  | none => none
  | some p => if someB s p.2 6 = true then (match takeV s (p.2 + 6) (n16 s (p.2 + 4)) p.1.2.1 with
    | some d => some ((p.1.1, p.1.2.1, p.1.2.2, n32 s p.2, d), p.2 + 6 + n16 s (p.2 + 4))
    | none => none) else none
def oQ : Option (QQt × Int) → QQt × (Int × Int)
  | some p => (p.1, p.2, 0)
  | none => (([], 0, 0), 0, 2)
def oR : Option (RRt × Int) → RRt × (Int × Int)
  | some p => (p.1, p.2, 0)
  | none => (([], 0, 0, 0, []), 0, 2)
def rrA (r : RRt) : AV := .agg [.str r.1, .int .u16 r.2.1, .int .u16 r.2.2.1, .int .u32 r.2.2.2.1, .str r.2.2.2.2]
def fs28w : FSpec := fs28.like fun (s, a, _) => .on (bigS s) ((oQ (tkQ s a)).1, (oQ (tkQ s a)).2.1, (oQ (tkQ s a)).2.2, ())
def fs29w : FSpec := fs29.like fun (s, a, _) => .on (bigS s) ((oQ (tkQ s a)).1, (oQ (tkQ s a)).2.1, (oQ (tkQ s a)).2.2, ())
theorem sm_big {s : List UInt8} (h : smS s = true) : bigS s = true := by
  simp only [smS, decide_eq_true_eq] at h
  exact len_big (by omega)
theorem n16_wrap (s : List UInt8) (a : Int) : IntKind.wrap IntKind.i64 (n16 s a) = n16 s a := by
  have := n16_le s a
  exact IntWalk.i64_in _ (by omega)
theorem takeR_all (s : List UInt8) (a : Int) (hs : smS s = true) : Tr.all (fun r : Res => r = ([rrA (oR (tkR s a)).1, .int .i64 (oR (tkR s a)).2.1, .int .i64 (oR (tkR s a)).2.2], [])) (t16 s a) := by
  have hb := sm_big hs
  have hlen : s.length ≤ 100000000 := by simpa [smS] using hs
  unfold t16 tkR tkQ
  refine Tr.all_t hb (Tr.all_t hb (Tr.all_t hb (Tr.all_t hb (Tr.all_t hb ?_))))
  cases ht : tk0 s a with
  | none => exact Tr.all_t rfl (Tr.all_ret rfl)
  | some p =>
    obtain ⟨n, e⟩ := p
    rw [show tkN (some (n, e)) = e from rfl, show tkS (some (n, e)) = n from rfl, show tkE (some (n, e)) = 0 from rfl]
    by_cases h : 0 ≤ e ∧ e + 10 ≤ s.length
    · have h1 : someB s e 2 = true := some_iff.2 ⟨by omega, by omega, by omega⟩
      have h2 : someB s (e + 2) 2 = true := some_iff.2 ⟨by omega, by omega, by omega⟩
      have h4 : someB s e 4 = true := some_iff.2 ⟨by omega, by omega, by omega⟩
      have h5 : someB s (e + 4) 4 = true := some_iff.2 ⟨by omega, by omega, by omega⟩
      have h6 : someB s (e + 8) 2 = true := some_iff.2 ⟨by omega, by omega, by omega⟩
      have h7 : someB s (e + 4) 6 = true := some_iff.2 ⟨by omega, by omega, by omega⟩
      have e1 : xn16 s e = e + 2 := by unfold xn16; rw [h1]; rfl
      have e2 : xn16 s (e + 2) = e + 4 := by unfold xn16; rw [h2, cond_true]; omega
      have e3 : vn16 s e = n16 s e := by unfold vn16; rw [h1]; rfl
      have e4 : vn16 s (e + 2) = n16 s (e + 2) := by unfold vn16; rw [h2]; rfl
      have e5 : xn32 s (e + 4) = e + 8 := by unfold xn32; rw [h5, cond_true]; omega
      have e6 : vn32 s (e + 4) = n32 s (e + 4) := by unfold vn32; rw [h5]; rfl
      have e7 : xn16 s (e + 8) = e + 10 := by unfold xn16; rw [h6, cond_true]; omega
      have e8 : vn16 s (e + 8) = n16 s (e + 8) := by unfold vn16; rw [h6]; rfl
      have hn := n16_le s (e + 8)
      have e9 : IntKind.wrap IntKind.i64 (e + 10 + n16 s (e + 8)) = e + 10 + n16 s (e + 8) := IntWalk.i64_in _ (by omega)
      rw [e1, e2, e3, e4, e5, e6, e7, e8, n16_wrap, e9, h1, h2, h5, h6]
      simp only [if_pos h4]
      simp only [if_pos h7, show e + 4 + 6 = e + 10 by omega, show e + 4 + 4 = e + 8 by omega]
      refine Tr.all_f rfl (Tr.all_t hs ?_)
      cases takeV s (e + 10) (n16 s (e + 8)) (n16 s e) with
      | none => exact Tr.all_t rfl (Tr.all_ret rfl)
      | some d => exact Tr.all_f rfl (Tr.all_ret rfl)
    · have hres : (match (if someB s e 4 = true then some ((n, n16 s e, n16 s (e + 2)), e + 4) else none : Option (QQt × Int)) with
          | none => none
          | some p => if someB s p.2 6 = true then (match takeV s (p.2 + 6) (n16 s (p.2 + 4)) p.1.2.1 with
            | some d => some ((p.1.1, p.1.2.1, p.1.2.2, n32 s p.2, d), p.2 + 6 + n16 s (p.2 + 4))
            | none => none) else none : Option (RRt × Int)) = none := by
        by_cases h4 : someB s e 4 = true
        · have := some_iff.1 h4
          rw [if_pos h4]
          simp only
          rw [if_neg (fun hh => by have := some_iff.1 hh; omega)]
        · rw [if_neg h4]
      simp only at hres ⊢
      rw [hres]
      refine Tr.all_t ?_ (Tr.all_ret rfl)
      cases h1 : someB s e 2 with
      | false => simp
      | true =>
        have a1 := some_iff.1 h1
        have e1 : xn16 s e = e + 2 := by unfold xn16; rw [h1]; rfl
        rw [e1]
        cases h2 : someB s (e + 2) 2 with
        | false => simp
        | true =>
          have a2 := some_iff.1 h2
          have e2 : xn16 s (e + 2) = e + 4 := by unfold xn16; rw [h2, cond_true]; omega
          rw [e2]
          cases h3 : someB s (e + 4) 4 with
          | false => simp
          | true =>
            have a3 := some_iff.1 h3
            have e5 : xn32 s (e + 4) = e + 8 := by unfold xn32; rw [h3, cond_true]; omega
            rw [e5, some_not (s := s) (a := e + 8) (by omega)]
            simp
def fs16w : FSpec := fs16.like fun (s, a, _) => .on (smS s) ((oR (tkR s a)).1, (oR (tkR s a)).2.1, (oR (tkR s a)).2.2, ())
theorem okf16w : fs16w.Ok Try.prog := by
  refine flike_ok okf16 _ ?_
  rintro ⟨(s : List UInt8), (a : Int), _⟩ y h
  obtain ⟨hb, rfl⟩ := Tr.get_on h
  exact convR_of (vs := [rrA (oR (tkR s a)).1, .int .i64 (oR (tkR s a)).2.1, .int .i64 (oR (tkR s a)).2.2]) rfl rfl (Tr.get_of_all (takeR_all s a hb))
end Go.Proofs.YtlkpiegllammdaaE
namespace Go.Proofs.YtlkpiegllammdaaE
open Go Go.Proofs.YtlkpiegllammdaaB
set_option linter.unusedVariables false
set_option linter.unusedSimpArgs false
set_option maxRecDepth 100000
def t71 (s : List UInt8) (at_ : Int) : Tr Res := Tr.br (decide (at_ ≥ (0 : Int))) (Tr.br (decide (at_ ≤ (↑(List.length s) : Int))) (Tr.br (decide ((4 : Int) ≤ (↑(List.length s) : Int))) (Tr.br (!decide (IntKind.wrap IntKind.i64 (at_ + (4 : Int)) ≤ (↑(List.length s) : Int))) (Tr.ret ([AV.int IntKind.u32 (0 : Int), AV.int IntKind.i64 (0 : Int), AV.int IntKind.i64 (2 : Int)], [])) (Tr.br (bigS s) (Tr.br (someB s at_ (2 : Int)) (Tr.br (bigS s) (Tr.br (someB s (at_ + (2 : Ty.den (Ty.int IntKind.i64))) (2 : Int)) (Tr.ret ([AV.int IntKind.u32 (IntKind.wrap IntKind.u32 (IntKind.wrap IntKind.u32 ((65536 : Int) * IntKind.wrap IntKind.u32 (n16 s at_)) + IntKind.wrap IntKind.u32 (n16 s (at_ + (2 : Ty.den (Ty.int IntKind.i64)))))), AV.int IntKind.i64 (at_ + (2 : Ty.den (Ty.int IntKind.i64)) + (2 : Ty.den (Ty.int IntKind.i64))), AV.int IntKind.i64 (0 : Int)], [])) (Tr.ret ([AV.int IntKind.u32 (IntKind.wrap IntKind.u32 (IntKind.wrap IntKind.u32 ((65536 : Int) * IntKind.wrap IntKind.u32 (n16 s at_)) + IntKind.wrap IntKind.u32 (0 : Int))), AV.int IntKind.i64 (0 : Int), AV.int IntKind.i64 (0 : Int)], []))) Tr.no) (Tr.br (bigS s) (Tr.br (someB s (0 : Int) (2 : Int)) (Tr.ret ([AV.int IntKind.u32 (IntKind.wrap IntKind.u32 (IntKind.wrap IntKind.u32 ((65536 : Int) * IntKind.wrap IntKind.u32 (0 : Int)) + IntKind.wrap IntKind.u32 (n16 s (0 : Int)))), AV.int IntKind.i64 ((0 : Int) + (2 : Ty.den (Ty.int IntKind.i64))), AV.int IntKind.i64 (0 : Int)], [])) (Tr.ret ([AV.int IntKind.u32 (IntKind.wrap IntKind.u32 (IntKind.wrap IntKind.u32 ((65536 : Int) * IntKind.wrap IntKind.u32 (0 : Int)) + IntKind.wrap IntKind.u32 (0 : Int))), AV.int IntKind.i64 (0 : Int), AV.int IntKind.i64 (0 : Int)], []))) Tr.no)) Tr.no)) (Tr.ret ([AV.int IntKind.u32 (0 : Int), AV.int IntKind.i64 (0 : Int), AV.int IntKind.i64 (2 : Int)], []))) (Tr.ret ([AV.int IntKind.u32 (0 : Int), AV.int IntKind.i64 (0 : Int), AV.int IntKind.i64 (2 : Int)], []))) (Tr.ret ([AV.int IntKind.u32 (0 : Int), AV.int IntKind.i64 (0 : Int), AV.int IntKind.i64 (2 : Int)], []))
set_option maxRecDepth 1000000 in
theorem fn71 (s : List UInt8) (at_ : Int) : evC T0 (orcB [fs101, fs72w] []) (lpOf h71 0 (lsOf [])) c71 1000000 (startSt [.str s, .int .i64 at_] [] Try.f71.ntmps) (finishK T0 false 0 Try.f71) = (t71 s at_).get := by kernel_rfl
def fs71 : FSpec := fsT 71 [(.str, false), ((.int .i64), false)] [((.int .u32), false), ((.int .i64), false), ((.int .i64), false)] fun (s, at_, _) => t71 s at_
def fs71w : FSpec := fs71.like fun (s, at_, _) => .br (bigS s) (.br (someB s at_ 4) (.ret (n32 s at_, at_ + 4, (0 : Int), ())) (.ret ((0 : Int), (0 : Int), (2 : Int), ()))) .no
def t27 (s : List UInt8) (at_ : Int) : Tr Res := Tr.br (bigS s) (Tr.br (Prod.snd (Prod.snd (oQ (tkQ s at_))) != (0 : Int)) (Tr.ret ([AV.agg [AV.str [], AV.int IntKind.u16 (0 : Int), AV.int IntKind.u16 (0 : Int), AV.int IntKind.u32 (0 : Int), AV.str []], AV.int IntKind.i64 (0 : Int), AV.int IntKind.i64 (2 : Int)], [])) (Tr.br (bigS s) (Tr.br (someB s (Prod.fst (Prod.snd (oQ (tkQ s at_)))) (4 : Int)) (Tr.br (bigS s) (Tr.br (someB s (Prod.fst (Prod.snd (oQ (tkQ s at_))) + (4 : Ty.den (Ty.int IntKind.i64))) (2 : Int)) (Tr.br (smS s) (Tr.br ((if Option.isSome (takeV s (Prod.fst (Prod.snd (oQ (tkQ s at_))) + (4 : Ty.den (Ty.int IntKind.i64)) + (2 : Ty.den (Ty.int IntKind.i64))) (IntKind.wrap IntKind.i64 (n16 s (Prod.fst (Prod.snd (oQ (tkQ s at_))) + (4 : Ty.den (Ty.int IntKind.i64))))) (Prod.fst (Prod.snd (Prod.fst (oQ (tkQ s at_)))))) = true then (0 : Int) else (2 : Ty.den (Ty.int IntKind.i64))) != (0 : Int)) (Tr.ret ([AV.agg [AV.str [], AV.int IntKind.u16 (0 : Int), AV.int IntKind.u16 (0 : Int), AV.int IntKind.u32 (0 : Int), AV.str []], AV.int IntKind.i64 (0 : Int), AV.int IntKind.i64 (2 : Int)], [])) (Tr.ret ([AV.agg [AV.str (Prod.fst (Prod.fst (oQ (tkQ s at_)))), AV.int IntKind.u16 (Prod.fst (Prod.snd (Prod.fst (oQ (tkQ s at_))))), AV.int IntKind.u16 (Prod.snd (Prod.snd (Prod.fst (oQ (tkQ s at_))))), AV.int IntKind.u32 (n32 s (Prod.fst (Prod.snd (oQ (tkQ s at_))))), AV.str (Option.getD (takeV s (Prod.fst (Prod.snd (oQ (tkQ s at_))) + (4 : Ty.den (Ty.int IntKind.i64)) + (2 : Ty.den (Ty.int IntKind.i64))) (IntKind.wrap IntKind.i64 (n16 s (Prod.fst (Prod.snd (oQ (tkQ s at_))) + (4 : Ty.den (Ty.int IntKind.i64))))) (Prod.fst (Prod.snd (Prod.fst (oQ (tkQ s at_)))))) [])], AV.int IntKind.i64 (IntKind.wrap IntKind.i64 (Prod.fst (Prod.snd (oQ (tkQ s at_))) + (4 : Ty.den (Ty.int IntKind.i64)) + (2 : Ty.den (Ty.int IntKind.i64)) + IntKind.wrap IntKind.i64 (n16 s (Prod.fst (Prod.snd (oQ (tkQ s at_))) + (4 : Ty.den (Ty.int IntKind.i64)))))), AV.int IntKind.i64 (0 : Int)], []))) Tr.no) (Tr.ret ([AV.agg [AV.str [], AV.int IntKind.u16 (0 : Int), AV.int IntKind.u16 (0 : Int), AV.int IntKind.u32 (0 : Int), AV.str []], AV.int IntKind.i64 (0 : Int), AV.int IntKind.i64 (2 : Int)], []))) Tr.no) (Tr.br (bigS s) (Tr.br (someB s (0 : Int) (2 : Int)) (Tr.ret ([AV.agg [AV.str [], AV.int IntKind.u16 (0 : Int), AV.int IntKind.u16 (0 : Int), AV.int IntKind.u32 (0 : Int), AV.str []], AV.int IntKind.i64 (0 : Int), AV.int IntKind.i64 (2 : Int)], [])) (Tr.ret ([AV.agg [AV.str [], AV.int IntKind.u16 (0 : Int), AV.int IntKind.u16 (0 : Int), AV.int IntKind.u32 (0 : Int), AV.str []], AV.int IntKind.i64 (0 : Int), AV.int IntKind.i64 (2 : Int)], []))) Tr.no)) Tr.no)) Tr.no
set_option maxRecDepth 1000000 in
theorem fn27 (s : List UInt8) (at_ : Int) : evC T0 (orcB [fs29w, fs71w, fs72w, fs73w] []) (lpOf h27 0 (lsOf [])) c27 1000000 (startSt [.str s, .int .i64 at_] [] Try.f27.ntmps) (finishK T0 false 0 Try.f27) = (t27 s at_).get := by kernel_rfl
def fs27 : FSpec := fsT 27 [(.str, false), ((.int .i64), false)] [(RR, true), ((.int .i64), false), ((.int .i64), false)] fun (s, at_, _) => t27 s at_
def t18 (r : RRt) : Tr Res := Tr.br (decide ((↑(List.length r.1) : Int) ≤ (700 : Int))) (Tr.ret ([AV.bool (decide ((↑(List.length r.2.2.2.2) : Int) ≤ (700 : Int)))], [])) (Tr.ret ([AV.bool false], []))
def os18 : OSpec := { f := 18, sh := [.d RR true], so := [], F := fun (r, _) _ => t18 r }
set_option maxRecDepth 1000000 in
theorem fn18 (r : RRt) : evC T0 (orcB [] [os21, os26, os50]) (lpOf h18 0 (lsOf [])) c18 1000000 (startSt [AV.ofTy RR r true] [] Try.f18.ntmps) (finishK T0 false 0 Try.f18) = (t18 r).get := by kernel_rfl
theorem ok18 : os18.Ok Try.prog := by
  refine os_ok mixed0 tab0 (orcB_sound all_nil (all_cons ok21 (all_cons ok26 (all_cons ok50 all_nil)))) h18 (d := 0) (n0 := 0) (S := lsOf []) Try.func18 (by kernel_rfl) (c := c18) (by kernel_rfl) rfl (no_loops (by kernel_rfl)) (by omega) (by kernel_rfl) ?_
  intro x'' y'' q'' hq''
  obtain ⟨(r : RRt), _⟩ := x''
  exact (fn18 r).trans hq''
def fs18 : FSpec := fsT 18 [(RR, true)] [(.bool, false)] fun (r, _) => t18 r
theorem okf18 : fs18.Ok Try.prog := fsT_ok fun x'' r'' hr'' => ok18 x'' () r'' hr''
def t15 : Tr Res := Tr.ret ([AV.bool (Prod.snd (Prod.snd (oR (tkR (intBytes (bytesInt (Prod.fst (recP ([2, 97, 98, 0], (1 : Int), (1 : Int), (5 : Int), [1, 2, 3, 4]) (intBytes [], []))))) (0 : Int)))) == (0 : Int))], [])
def os15 : OSpec := { f := 15, sh := [], so := [], F := fun _ _ => t15 }
set_option maxRecDepth 1000000 in
theorem fn15 : evC T0 (orcB [fs16w] [os21, os26, os50, os24w]) (lpOf h15 0 (lsOf [])) c15 1000000 (startSt [] [] Try.f15.ntmps) (finishK T0 false 0 Try.f15) = (t15).get := by kernel_rfl
theorem ok15 : os15.Ok Try.prog := by
  refine os_ok mixed0 tab0 (orcB_sound (all_cons okf16w all_nil) (all_cons ok21 (all_cons ok26 (all_cons ok50 (all_cons ok24w all_nil))))) h15 (d := 0) (n0 := 0) (S := lsOf []) Try.func15 (by kernel_rfl) (c := c15) (by kernel_rfl) rfl (no_loops (by kernel_rfl)) (by omega) (by kernel_rfl) ?_
  intro x'' y'' q'' hq''
  exact (fn15).trans hq''
def fs15 : FSpec := fsT 15 [] [(.bool, false)] fun _ => t15
theorem okf15 : fs15.Ok Try.prog := fsT_ok fun x'' r'' hr'' => ok15 x'' () r'' hr''
theorem shown05 : t15 = .ret ([.bool true], []) := by kernel_rfl
def fs15w : FSpec := fs15.like fun _ => .ret (true, ())
theorem okf15w : fs15w.Ok Try.prog := by
  refine flike_ok okf15 _ ?_
  rintro _ y h
  cases h
  refine convR_of (vs := [.bool true]) rfl rfl (Tr.get_of_all ?_)
  show t15.all _
  rw [shown05]
  exact Tr.all_ret rfl
def fw5 (r : RRt) : Bool := decide (r.1.length ≤ 700) && decide (r.2.2.2.2.length ≤ 700)
theorem fw5_iff {r : RRt} : fw5 r = true ↔ r.1.length ≤ 700 ∧ r.2.2.2.2.length ≤ 700 := by
  unfold fw5
  rw [Bool.and_eq_true, decide_eq_true_eq, decide_eq_true_eq]
def fs18w : FSpec := fs18.like fun (r, _) => .ret (fw5 r, ())
theorem okf18w : fs18w.Ok Try.prog := by
  refine flike_ok okf18 _ ?_
  rintro ⟨(r : RRt), _⟩ y h
  cases h
  refine convR_of (vs := [.bool (fw5 r)]) rfl rfl (Tr.get_of_all ?_)
  show (t18 r).all _
  unfold t18 fw5
  have hc : ∀ n : Nat, decide ((n : Int) ≤ 700) = decide (n ≤ 700) := fun n => by
    by_cases h : n ≤ 700
    · rw [dec_true h, dec_true (by omega)]
    · rw [dec_false h, dec_false (by omega)]
  rw [hc, hc]
  exact Tr.all_br (fun h => Tr.all_ret (by rw [h]; rfl)) fun h => Tr.all_ret (by rw [h]; rfl)
def t4 (a : RRt) (b : RRt) (ttl : Int) : Tr Res := Tr.br (!fw5 a) (Tr.ret ([AV.bool true], [])) (Tr.br (!fw5 b) (Tr.ret ([AV.bool true], [])) (Tr.br (Nat.ble (List.length a.2.2.2.2 + List.length ([120])) 9223372036854775807) (Tr.br (sayV a (a.1, a.2.1, a.2.2.1, ttl, a.2.2.2.2)) (Tr.br (!sayV a (a.1, a.2.1, a.2.2.1, a.2.2.2.1, a.2.2.2.2 ++ [120])) (Tr.br (sayV a b == sayV b a) (Tr.br (!sayV a b) (Tr.br (rrBig a) (Tr.br (rrBig (a.1, a.2.1, a.2.2.1, ttl, a.2.2.2.2)) (Tr.ret ([AV.bool (recV a == recV (a.1, a.2.1, a.2.2.1, ttl, a.2.2.2.2))], [])) Tr.no) Tr.no) (Tr.br (Prod.fst (keyV a) == Prod.fst (keyV b) && (Prod.fst (Prod.snd (keyV a)) == Prod.fst (Prod.snd (keyV b)) && (Prod.snd (Prod.snd (keyV a)) == Prod.snd (Prod.snd (keyV b)) && true))) (Tr.br (rrBig a) (Tr.br (rrBig (a.1, a.2.1, a.2.2.1, ttl, a.2.2.2.2)) (Tr.ret ([AV.bool (recV a == recV (a.1, a.2.1, a.2.2.1, ttl, a.2.2.2.2))], [])) Tr.no) Tr.no) (Tr.ret ([AV.bool false], [])))) (Tr.ret ([AV.bool false], []))) (Tr.ret ([AV.bool false], []))) (Tr.ret ([AV.bool false], []))) Tr.no))
set_option maxRecDepth 1000000 in
theorem fn4 (a : RRt) (b : RRt) (ttl : Int) : evC T0 (orcB [fs15w, fs18w, fs19w, fs20w, fs17w] []) (lpOf h4 0 (lsOf [])) c4 1000000 (startSt [AV.ofTy RR a true, AV.ofTy RR b true, .int .u32 ttl] [] Try.f4.ntmps) (finishK T0 false 0 Try.f4) = (t4 a b ttl).get := by kernel_rfl
theorem nt5 {b : Bool} (h : (!b) = true) : b = false := by cases b; rfl; cases h
theorem nf5 {b : Bool} (h : (!b) = false) : b = true := by cases b; cases h; rfl
def fs27w : FSpec := fs27.like fun (s, a, _) => .on (smS s) ((oR (tkR s a)).1, (oR (tkR s a)).2.1, (oR (tkR s a)).2.2, ())
def t6 (a : RRt) (b : RRt) (s : List UInt8) (at_ : Int) : Tr Res := Tr.br (decide ((↑(List.length s) : Int) > (1000 : Int))) (Tr.ret ([AV.bool true], [])) (Tr.br (!fw5 a) (Tr.ret ([AV.bool true], [])) (Tr.br (!fw5 b) (Tr.ret ([AV.bool true], [])) (Tr.br (smS s) (Tr.br (smS s) (Tr.br (bigS s) (Tr.br (bigS s) (Tr.br (rrBig a) (Tr.br (rrBig a) (Tr.br (recV a == recV a) (Tr.br (bigS (Prod.fst (keyV a))) (Tr.br (bigS (Prod.fst (keyV a))) (Tr.br (mayV (Prod.fst (keyV a)) == mayV (Prod.fst (keyV a))) (Tr.br (sayV a b == sayV a b) (Tr.br (Prod.fst (keyV a) == a.1) (Tr.br (Prod.fst (Prod.snd (keyV a)) == a.2.1) (Tr.br (Prod.snd (Prod.snd (keyV a)) == a.2.2.1) (Tr.br (Prod.fst (Prod.fst (oR (tkR s at_))) == Prod.fst (Prod.fst (oR (tkR s at_))) && (Prod.fst (Prod.snd (Prod.fst (oR (tkR s at_)))) == Prod.fst (Prod.snd (Prod.fst (oR (tkR s at_)))) && (Prod.fst (Prod.snd (Prod.snd (Prod.fst (oR (tkR s at_))))) == Prod.fst (Prod.snd (Prod.snd (Prod.fst (oR (tkR s at_))))) && (Prod.fst (Prod.snd (Prod.snd (Prod.snd (Prod.fst (oR (tkR s at_)))))) == Prod.fst (Prod.snd (Prod.snd (Prod.snd (Prod.fst (oR (tkR s at_)))))) && (Prod.snd (Prod.snd (Prod.snd (Prod.snd (Prod.fst (oR (tkR s at_)))))) == Prod.snd (Prod.snd (Prod.snd (Prod.snd (Prod.fst (oR (tkR s at_)))))) && true))))) (Tr.br (Prod.fst (Prod.snd (oR (tkR s at_))) == Prod.fst (Prod.snd (oR (tkR s at_)))) (Tr.br (Prod.snd (Prod.snd (oR (tkR s at_))) == Prod.snd (Prod.snd (oR (tkR s at_)))) (Tr.br (Prod.fst (Prod.fst (oQ (tkQ s at_))) == Prod.fst (Prod.fst (oQ (tkQ s at_))) && (Prod.fst (Prod.snd (Prod.fst (oQ (tkQ s at_)))) == Prod.fst (Prod.snd (Prod.fst (oQ (tkQ s at_)))) && (Prod.snd (Prod.snd (Prod.fst (oQ (tkQ s at_)))) == Prod.snd (Prod.snd (Prod.fst (oQ (tkQ s at_)))) && true))) (Tr.br (Prod.fst (Prod.snd (oQ (tkQ s at_))) == Prod.fst (Prod.snd (oQ (tkQ s at_)))) (Tr.ret ([AV.bool (Prod.snd (Prod.snd (oQ (tkQ s at_))) == Prod.snd (Prod.snd (oQ (tkQ s at_))))], [])) (Tr.ret ([AV.bool false], []))) (Tr.ret ([AV.bool false], []))) (Tr.ret ([AV.bool false], []))) (Tr.ret ([AV.bool false], []))) (Tr.ret ([AV.bool false], []))) (Tr.ret ([AV.bool false], []))) (Tr.ret ([AV.bool false], []))) (Tr.ret ([AV.bool false], []))) (Tr.ret ([AV.bool false], []))) (Tr.ret ([AV.bool false], []))) Tr.no) Tr.no) (Tr.ret ([AV.bool false], []))) Tr.no) Tr.no) Tr.no) Tr.no) Tr.no) Tr.no)))
set_option maxRecDepth 1000000 in
theorem fn6 (a : RRt) (b : RRt) (s : List UInt8) (at_ : Int) : evC T0 (orcB [fs15w, fs18w, fs19w, fs33w, fs20w, fs17w, fs30w, fs31w, fs32w, fs16w, fs27w, fs28w, fs29w] []) (lpOf h6 0 (lsOf [])) c6 1000000 (startSt [AV.ofTy RR a true, AV.ofTy RR b true, .str s, .int .i64 at_] [] Try.f6.ntmps) (finishK T0 false 0 Try.f6) = (t6 a b s at_).get := by kernel_rfl
end Go.Proofs.YtlkpiegllammdaaE
namespace Go.Proofs.YtlkpiegllammdaaE
open Go Go.Proofs.YtlkpiegllammdaaB
set_option linter.unusedVariables false
set_option linter.unusedSimpArgs false
set_option maxRecDepth 100000
def rngR (r : RRt) : Bool := n16C r.2.1 && (n16C r.2.2.1 && n32C r.2.2.2.1)
theorem P_ok {P : PKt} (hk : kOk P.2 = true) (h1 : P.1.length ≤ 100000) (h2 : P.2.length ≤ 100000) : pkT (bytesInt P.1) P.2 = true ∧ pkS (bytesInt P.1) P.2 = true ∧ ptS P = true ∧ ∀ d : List UInt8, d.length ≤ 700 → ptOk P d = true := by
  refine ⟨pkT_iff.2 ⟨bytesInt_ok _, hk, by rw [bytesInt_len]; omega⟩, pkS_iff.2 ⟨bytesInt_ok _, hk, by rw [bytesInt_len]; omega⟩, ptS_iff.2 ⟨hk, by omega, by omega⟩, fun d hd => ptOk_iff.2 ⟨len_big (by omega), hk, by omega, by omega⟩⟩
theorem putQ_good {q : QQt} {P : PKt} (hm : mayV q.1 = true) (hk : kOk P.2 = true) : kOk (putQ q P).2 = true ∧ (putQ q P).1.length ≤ P.1.length + q.1.length + 4 ∧ (putQ q P).2.length ≤ P.2.length + q.1.length := by
  obtain ⟨a, b, c⟩ := nameP_k (p := P) hm hk
  refine ⟨a, ?_, c⟩
  unfold putQ
  rw [List.length_append, qB_len]
  omega
theorem recP_good {r : RRt} {P : PKt} (hm : recV r = true) (hk : kOk P.2 = true) : kOk (recP r P).2 = true ∧ (recP r P).1.length ≤ P.1.length + r.1.length + r.2.2.2.2.length + 10 ∧ (recP r P).2.length ≤ P.2.length + r.1.length + r.2.2.2.2.length := by
  obtain ⟨a1, a2, a3, a4, a5, a6, a7⟩ := recP_facts (p := P) hk hm
  have hs := S1R_len r P
  refine ⟨a4, ?_, ?_⟩
  · show (clV (p2R r P).1 (S1R r P).length).length ≤ _
    rw [clV_len (by omega) a5]
    omega
  · show (p2R r P).2.length ≤ _
    omega
theorem rng_ok {r : RRt} (h : rngR r = true) (hf : fw5 r = true) : rOk r = true ∧ qOk (keyV r) = true := by
  unfold rngR at h
  rw [Bool.and_eq_true, Bool.and_eq_true] at h
  obtain ⟨h1, h2⟩ := fw5_iff.1 hf
  exact ⟨rOk_iff.2 ⟨by omega, h.1, h.2.1, h.2.2, by omega⟩, qOk_iff.2 ⟨show r.1.length ≤ _ by omega, h.1, h.2.1⟩⟩
theorem mem_getD5 {α : Type} {l : List α} {k : Nat} (hk : k < l.length) (x : α) : l.getD k x ∈ l := by
  rw [List.getD_eq_getElem?_getD, List.getElem?_eq_getElem hk]
  exact List.getElem_mem hk
theorem take_get {α : Type} {l : List α} {n k : Nat} (h : k < n) (d : α) : (l.take n).getD k d = l.getD k d := by
  rw [List.getD_eq_getElem?_getD, List.getD_eq_getElem?_getD, List.getElem?_take, if_pos h]
theorem all20_get {f : RRt → Bool} {l : List RRt} (h : (l.take 20).all f = true) {k : Nat} (hk : k < l.length) (h20 : k < 20) (d : RRt) : f (l.getD k d) = true := by
  rw [List.all_eq_true] at h
  rw [← take_get (n := 20) h20 d]
  exact h _ (mem_getD5 (by rw [List.length_take]; omega) d)
theorem all20_of {f : RRt → Bool} {l : List RRt} {n : Nat} (hn : n = l.length ∨ n = 20) (d : RRt) (h : ∀ j : Nat, j < n → f (l.getD j d) = true) : (l.take 20).all f = true := by
  rw [List.all_eq_true]
  intro x hx
  obtain ⟨j, hj, rfl⟩ := List.mem_iff_getElem.1 hx
  rw [List.getElem_take]
  rw [List.length_take] at hj
  have := h j (by omega)
  rw [List.getD_eq_getElem?_getD, List.getElem?_eq_getElem (by omega)] at this
  exact this
def rpS5 (l : List RRt) : Bool := (l.take 20).all fw5
def rngL (l : List RRt) : Bool := (l.take 20).all rngR
noncomputable def b5 : Code := nthLoop c5 0
def ls5 : LoopSpec := { bid := 0, sh := [.d (.list RR) false, .d (.list .bool) false, .d .bool false, .ptr 0 0, .ptr 3 0, .d (.int .i64) false], so := [.box [.row 1, .mp 2], .row (.int .u8), .map .str (.int .i64), .box [.d .str false, .d (.list (.pair .str (.int .i64))) false]], F := fun (l, asks, up, i, _) (_, b, m, (S, L, _), _) => .on2 (rngL l && rpC b m S L i) (rpS5 l) (.exit 0, [.dead, .bool up], []) (.ret, [.bool up, .bool up], []) }
def r5 (l : List RRt) (asks : List Bool) (up : Bool) (i : Int) (b : List Int) (m : List (List UInt8 × Int)) (S : List UInt8) (L : List (List UInt8 × Int)) : Tr (St ⊕ (Ex × St)) := Tr.br (decide (i < (↑(List.length l) : Int))) (Tr.br (decide (i < (20 : Int))) (Tr.br (decide ((0 : Int) ≤ i)) (Tr.br (decide (i < (↑(List.length l) : Int))) (Tr.br (!fw5 (List.getD l (Int.toNat i) (Ty.dflt RR))) (Tr.ret (Sum.inr (Ex.ret, stOf [4, 5] [AV.bool up, AV.bool up] []))) (Tr.br (decide (i < (↑(List.length asks) : Int))) (Tr.br (decide ((0 : Int) ≤ i)) (Tr.br (decide (i < (↑(List.length asks) : Int))) (Tr.br (List.getD asks (Int.toNat i) (Ty.dflt Ty.bool)) (Tr.br (decide ((0 : Int) ≤ i)) (Tr.br (decide (i < (↑(List.length l) : Int))) (Tr.br (pkT b m && qOk (keyV (List.getD l (Int.toNat i) (Ty.dflt RR)))) (Tr.br (mayV (Prod.fst (keyV (List.getD l (Int.toNat i) (Ty.dflt RR))))) (Tr.br (decide ((0 : Int) ≤ i)) (Tr.br (decide (i < (↑(List.length l) : Int))) (Tr.br (ptOk (S, L) (Prod.fst (keyV (List.getD l (Int.toNat i) (Ty.dflt RR)))) && qOk (keyV (List.getD l (Int.toNat i) (Ty.dflt RR)))) (Tr.br (mayV (Prod.fst (keyV (List.getD l (Int.toNat i) (Ty.dflt RR))))) (Tr.br (decide ((0 : Int) ≤ i)) (Tr.br (decide (i < (↑(List.length l) : Int))) (Tr.br (pkS (bytesInt (Prod.fst (putQ (keyV (List.getD l (Int.toNat i) (Ty.dflt RR))) (intBytes b, m)))) (Prod.snd (putQ (keyV (List.getD l (Int.toNat i) (Ty.dflt RR))) (intBytes b, m))) && rOk (List.getD l (Int.toNat i) (Ty.dflt RR))) (Tr.br (recV (List.getD l (Int.toNat i) (Ty.dflt RR))) (Tr.br (decide ((0 : Int) ≤ i)) (Tr.br (decide (i < (↑(List.length l) : Int))) (Tr.br (ptS (putQ (keyV (List.getD l (Int.toNat i) (Ty.dflt RR))) (S, L)) && rOk (List.getD l (Int.toNat i) (Ty.dflt RR))) (Tr.br (recV (List.getD l (Int.toNat i) (Ty.dflt RR))) (Tr.br (!intBytes (bytesInt (Prod.fst (recP (List.getD l (Int.toNat i) (Ty.dflt RR)) (intBytes (bytesInt (Prod.fst (putQ (keyV (List.getD l (Int.toNat i) (Ty.dflt RR))) (intBytes b, m)))), Prod.snd (putQ (keyV (List.getD l (Int.toNat i) (Ty.dflt RR))) (intBytes b, m)))))) == Prod.fst (recP (List.getD l (Int.toNat i) (Ty.dflt RR)) (putQ (keyV (List.getD l (Int.toNat i) (Ty.dflt RR))) (S, L)))) (Tr.ret (Sum.inr (Ex.ret, stOf [4, 5] [AV.bool false, AV.bool up] []))) (Tr.ret (Sum.inl (stOf [0, 1, 5, 6, 7, 8] [AV.list RR l, AV.list Ty.bool asks, AV.bool up, AV.ptr 0 0, AV.ptr 3 0, AV.int IntKind.i64 (IntKind.wrap IntKind.i64 (i + (1 : Int)))] [LObj.boxT none [AV.rowA 1, AV.mp 2], LObj.row (Ty.int IntKind.u8) (bytesInt (Prod.fst (recP (List.getD l (Int.toNat i) (Ty.dflt RR)) (intBytes (bytesInt (Prod.fst (putQ (keyV (List.getD l (Int.toNat i) (Ty.dflt RR))) (intBytes b, m)))), Prod.snd (putQ (keyV (List.getD l (Int.toNat i) (Ty.dflt RR))) (intBytes b, m)))))), LObj.mpo Ty.str (Ty.int IntKind.i64) (Prod.snd (recP (List.getD l (Int.toNat i) (Ty.dflt RR)) (intBytes (bytesInt (Prod.fst (putQ (keyV (List.getD l (Int.toNat i) (Ty.dflt RR))) (intBytes b, m)))), Prod.snd (putQ (keyV (List.getD l (Int.toNat i) (Ty.dflt RR))) (intBytes b, m))))), LObj.boxT none [AV.str (Prod.fst (recP (List.getD l (Int.toNat i) (Ty.dflt RR)) (putQ (keyV (List.getD l (Int.toNat i) (Ty.dflt RR))) (S, L)))), AV.list (Ty.pair Ty.str (Ty.int IntKind.i64)) (Prod.snd (recP (List.getD l (Int.toNat i) (Ty.dflt RR)) (putQ (keyV (List.getD l (Int.toNat i) (Ty.dflt RR))) (S, L))))]])))) (Tr.ret (Sum.inr (Ex.ret, stOf [4, 5] [AV.bool false, AV.bool up] [])))) Tr.no) Tr.no) Tr.no) (Tr.br (decide ((0 : Int) ≤ i)) (Tr.br (decide (i < (↑(List.length l) : Int))) (Tr.br (ptS (putQ (keyV (List.getD l (Int.toNat i) (Ty.dflt RR))) (S, L)) && rOk (List.getD l (Int.toNat i) (Ty.dflt RR))) (Tr.br (recV (List.getD l (Int.toNat i) (Ty.dflt RR))) (Tr.ret (Sum.inr (Ex.ret, stOf [4, 5] [AV.bool false, AV.bool up] []))) (Tr.br (!intBytes (bytesInt (Prod.fst (putQ (keyV (List.getD l (Int.toNat i) (Ty.dflt RR))) (intBytes b, m)))) == Prod.fst (putQ (keyV (List.getD l (Int.toNat i) (Ty.dflt RR))) (S, L))) (Tr.ret (Sum.inr (Ex.ret, stOf [4, 5] [AV.bool false, AV.bool up] []))) (Tr.ret (Sum.inl (stOf [0, 1, 5, 6, 7, 8] [AV.list RR l, AV.list Ty.bool asks, AV.bool up, AV.ptr 0 0, AV.ptr 3 0, AV.int IntKind.i64 (IntKind.wrap IntKind.i64 (i + (1 : Int)))] [LObj.boxT none [AV.rowA 1, AV.mp 2], LObj.row (Ty.int IntKind.u8) (bytesInt (Prod.fst (putQ (keyV (List.getD l (Int.toNat i) (Ty.dflt RR))) (intBytes b, m)))), LObj.mpo Ty.str (Ty.int IntKind.i64) (Prod.snd (putQ (keyV (List.getD l (Int.toNat i) (Ty.dflt RR))) (intBytes b, m))), LObj.boxT none [AV.str (Prod.fst (putQ (keyV (List.getD l (Int.toNat i) (Ty.dflt RR))) (S, L))), AV.list (Ty.pair Ty.str (Ty.int IntKind.i64)) (Prod.snd (putQ (keyV (List.getD l (Int.toNat i) (Ty.dflt RR))) (S, L)))]]))))) Tr.no) Tr.no) Tr.no)) Tr.no) Tr.no) Tr.no) (Tr.ret (Sum.inr (Ex.ret, stOf [4, 5] [AV.bool false, AV.bool up] [])))) Tr.no) Tr.no) Tr.no) (Tr.br (decide ((0 : Int) ≤ i)) (Tr.br (decide (i < (↑(List.length l) : Int))) (Tr.br (ptOk (S, L) (Prod.fst (keyV (List.getD l (Int.toNat i) (Ty.dflt RR)))) && qOk (keyV (List.getD l (Int.toNat i) (Ty.dflt RR)))) (Tr.br (mayV (Prod.fst (keyV (List.getD l (Int.toNat i) (Ty.dflt RR))))) (Tr.ret (Sum.inr (Ex.ret, stOf [4, 5] [AV.bool false, AV.bool up] []))) (Tr.br (decide ((0 : Int) ≤ i)) (Tr.br (decide (i < (↑(List.length l) : Int))) (Tr.br (pkS b m && rOk (List.getD l (Int.toNat i) (Ty.dflt RR))) (Tr.br (recV (List.getD l (Int.toNat i) (Ty.dflt RR))) (Tr.br (decide ((0 : Int) ≤ i)) (Tr.br (decide (i < (↑(List.length l) : Int))) (Tr.br (ptS (S, L) && rOk (List.getD l (Int.toNat i) (Ty.dflt RR))) (Tr.br (recV (List.getD l (Int.toNat i) (Ty.dflt RR))) (Tr.br (!intBytes (bytesInt (Prod.fst (recP (List.getD l (Int.toNat i) (Ty.dflt RR)) (intBytes b, m)))) == Prod.fst (recP (List.getD l (Int.toNat i) (Ty.dflt RR)) (S, L))) (Tr.ret (Sum.inr (Ex.ret, stOf [4, 5] [AV.bool false, AV.bool up] []))) (Tr.ret (Sum.inl (stOf [0, 1, 5, 6, 7, 8] [AV.list RR l, AV.list Ty.bool asks, AV.bool up, AV.ptr 0 0, AV.ptr 3 0, AV.int IntKind.i64 (IntKind.wrap IntKind.i64 (i + (1 : Int)))] [LObj.boxT none [AV.rowA 1, AV.mp 2], LObj.row (Ty.int IntKind.u8) (bytesInt (Prod.fst (recP (List.getD l (Int.toNat i) (Ty.dflt RR)) (intBytes b, m)))), LObj.mpo Ty.str (Ty.int IntKind.i64) (Prod.snd (recP (List.getD l (Int.toNat i) (Ty.dflt RR)) (intBytes b, m))), LObj.boxT none [AV.str (Prod.fst (recP (List.getD l (Int.toNat i) (Ty.dflt RR)) (S, L))), AV.list (Ty.pair Ty.str (Ty.int IntKind.i64)) (Prod.snd (recP (List.getD l (Int.toNat i) (Ty.dflt RR)) (S, L)))]])))) (Tr.ret (Sum.inr (Ex.ret, stOf [4, 5] [AV.bool false, AV.bool up] [])))) Tr.no) Tr.no) Tr.no) (Tr.br (decide ((0 : Int) ≤ i)) (Tr.br (decide (i < (↑(List.length l) : Int))) (Tr.br (ptS (S, L) && rOk (List.getD l (Int.toNat i) (Ty.dflt RR))) (Tr.br (recV (List.getD l (Int.toNat i) (Ty.dflt RR))) (Tr.ret (Sum.inr (Ex.ret, stOf [4, 5] [AV.bool false, AV.bool up] []))) (Tr.br (!intBytes b == S) (Tr.ret (Sum.inr (Ex.ret, stOf [4, 5] [AV.bool false, AV.bool up] []))) (Tr.ret (Sum.inl (stOf [0, 1, 5, 6, 7, 8] [AV.list RR l, AV.list Ty.bool asks, AV.bool up, AV.ptr 0 0, AV.ptr 3 0, AV.int IntKind.i64 (IntKind.wrap IntKind.i64 (i + (1 : Int)))] [LObj.boxT none [AV.rowA 1, AV.mp 2], LObj.row (Ty.int IntKind.u8) b, LObj.mpo Ty.str (Ty.int IntKind.i64) m, LObj.boxT none [AV.str S, AV.list (Ty.pair Ty.str (Ty.int IntKind.i64)) L]]))))) Tr.no) Tr.no) Tr.no)) Tr.no) Tr.no) Tr.no)) Tr.no) Tr.no) Tr.no)) Tr.no) Tr.no) Tr.no) (Tr.br (decide ((0 : Int) ≤ i)) (Tr.br (decide (i < (↑(List.length l) : Int))) (Tr.br (pkS b m && rOk (List.getD l (Int.toNat i) (Ty.dflt RR))) (Tr.br (recV (List.getD l (Int.toNat i) (Ty.dflt RR))) (Tr.br (decide ((0 : Int) ≤ i)) (Tr.br (decide (i < (↑(List.length l) : Int))) (Tr.br (ptS (S, L) && rOk (List.getD l (Int.toNat i) (Ty.dflt RR))) (Tr.br (recV (List.getD l (Int.toNat i) (Ty.dflt RR))) (Tr.br (!intBytes (bytesInt (Prod.fst (recP (List.getD l (Int.toNat i) (Ty.dflt RR)) (intBytes b, m)))) == Prod.fst (recP (List.getD l (Int.toNat i) (Ty.dflt RR)) (S, L))) (Tr.ret (Sum.inr (Ex.ret, stOf [4, 5] [AV.bool false, AV.bool up] []))) (Tr.ret (Sum.inl (stOf [0, 1, 5, 6, 7, 8] [AV.list RR l, AV.list Ty.bool asks, AV.bool up, AV.ptr 0 0, AV.ptr 3 0, AV.int IntKind.i64 (IntKind.wrap IntKind.i64 (i + (1 : Int)))] [LObj.boxT none [AV.rowA 1, AV.mp 2], LObj.row (Ty.int IntKind.u8) (bytesInt (Prod.fst (recP (List.getD l (Int.toNat i) (Ty.dflt RR)) (intBytes b, m)))), LObj.mpo Ty.str (Ty.int IntKind.i64) (Prod.snd (recP (List.getD l (Int.toNat i) (Ty.dflt RR)) (intBytes b, m))), LObj.boxT none [AV.str (Prod.fst (recP (List.getD l (Int.toNat i) (Ty.dflt RR)) (S, L))), AV.list (Ty.pair Ty.str (Ty.int IntKind.i64)) (Prod.snd (recP (List.getD l (Int.toNat i) (Ty.dflt RR)) (S, L)))]])))) (Tr.ret (Sum.inr (Ex.ret, stOf [4, 5] [AV.bool false, AV.bool up] [])))) Tr.no) Tr.no) Tr.no) (Tr.br (decide ((0 : Int) ≤ i)) (Tr.br (decide (i < (↑(List.length l) : Int))) (Tr.br (ptS (S, L) && rOk (List.getD l (Int.toNat i) (Ty.dflt RR))) (Tr.br (recV (List.getD l (Int.toNat i) (Ty.dflt RR))) (Tr.ret (Sum.inr (Ex.ret, stOf [4, 5] [AV.bool false, AV.bool up] []))) (Tr.br (!intBytes b == S) (Tr.ret (Sum.inr (Ex.ret, stOf [4, 5] [AV.bool false, AV.bool up] []))) (Tr.ret (Sum.inl (stOf [0, 1, 5, 6, 7, 8] [AV.list RR l, AV.list Ty.bool asks, AV.bool up, AV.ptr 0 0, AV.ptr 3 0, AV.int IntKind.i64 (IntKind.wrap IntKind.i64 (i + (1 : Int)))] [LObj.boxT none [AV.rowA 1, AV.mp 2], LObj.row (Ty.int IntKind.u8) b, LObj.mpo Ty.str (Ty.int IntKind.i64) m, LObj.boxT none [AV.str S, AV.list (Ty.pair Ty.str (Ty.int IntKind.i64)) L]]))))) Tr.no) Tr.no) Tr.no)) Tr.no) Tr.no) Tr.no)) Tr.no) Tr.no) (Tr.br (decide ((0 : Int) ≤ i)) (Tr.br (decide (i < (↑(List.length l) : Int))) (Tr.br (pkS b m && rOk (List.getD l (Int.toNat i) (Ty.dflt RR))) (Tr.br (recV (List.getD l (Int.toNat i) (Ty.dflt RR))) (Tr.br (decide ((0 : Int) ≤ i)) (Tr.br (decide (i < (↑(List.length l) : Int))) (Tr.br (ptS (S, L) && rOk (List.getD l (Int.toNat i) (Ty.dflt RR))) (Tr.br (recV (List.getD l (Int.toNat i) (Ty.dflt RR))) (Tr.br (!intBytes (bytesInt (Prod.fst (recP (List.getD l (Int.toNat i) (Ty.dflt RR)) (intBytes b, m)))) == Prod.fst (recP (List.getD l (Int.toNat i) (Ty.dflt RR)) (S, L))) (Tr.ret (Sum.inr (Ex.ret, stOf [4, 5] [AV.bool false, AV.bool up] []))) (Tr.ret (Sum.inl (stOf [0, 1, 5, 6, 7, 8] [AV.list RR l, AV.list Ty.bool asks, AV.bool up, AV.ptr 0 0, AV.ptr 3 0, AV.int IntKind.i64 (IntKind.wrap IntKind.i64 (i + (1 : Int)))] [LObj.boxT none [AV.rowA 1, AV.mp 2], LObj.row (Ty.int IntKind.u8) (bytesInt (Prod.fst (recP (List.getD l (Int.toNat i) (Ty.dflt RR)) (intBytes b, m)))), LObj.mpo Ty.str (Ty.int IntKind.i64) (Prod.snd (recP (List.getD l (Int.toNat i) (Ty.dflt RR)) (intBytes b, m))), LObj.boxT none [AV.str (Prod.fst (recP (List.getD l (Int.toNat i) (Ty.dflt RR)) (S, L))), AV.list (Ty.pair Ty.str (Ty.int IntKind.i64)) (Prod.snd (recP (List.getD l (Int.toNat i) (Ty.dflt RR)) (S, L)))]])))) (Tr.ret (Sum.inr (Ex.ret, stOf [4, 5] [AV.bool false, AV.bool up] [])))) Tr.no) Tr.no) Tr.no) (Tr.br (decide ((0 : Int) ≤ i)) (Tr.br (decide (i < (↑(List.length l) : Int))) (Tr.br (ptS (S, L) && rOk (List.getD l (Int.toNat i) (Ty.dflt RR))) (Tr.br (recV (List.getD l (Int.toNat i) (Ty.dflt RR))) (Tr.ret (Sum.inr (Ex.ret, stOf [4, 5] [AV.bool false, AV.bool up] []))) (Tr.br (!intBytes b == S) (Tr.ret (Sum.inr (Ex.ret, stOf [4, 5] [AV.bool false, AV.bool up] []))) (Tr.ret (Sum.inl (stOf [0, 1, 5, 6, 7, 8] [AV.list RR l, AV.list Ty.bool asks, AV.bool up, AV.ptr 0 0, AV.ptr 3 0, AV.int IntKind.i64 (IntKind.wrap IntKind.i64 (i + (1 : Int)))] [LObj.boxT none [AV.rowA 1, AV.mp 2], LObj.row (Ty.int IntKind.u8) b, LObj.mpo Ty.str (Ty.int IntKind.i64) m, LObj.boxT none [AV.str S, AV.list (Ty.pair Ty.str (Ty.int IntKind.i64)) L]]))))) Tr.no) Tr.no) Tr.no)) Tr.no) Tr.no) Tr.no))) Tr.no) Tr.no) (Tr.ret (Sum.inr (Ex.exit 0, stOf [4, 5] [AV.dead, AV.bool up] [])))) (Tr.ret (Sum.inr (Ex.exit 0, stOf [4, 5] [AV.dead, AV.bool up] [])))
set_option maxRecDepth 1000000 in
theorem round5 (lp : Lp) (l : List RRt) (asks : List Bool) (up : Bool) (i : Int) (b : List Int) (m : List (List UInt8 × Int)) (S : List UInt8) (L : List (List UInt8 × Int)) : evC TN (orcB [fs15w, fs18w, fs20w, fs23w, fs25w] [os21, os26, os22w, os24w, os22z, os24z]) lp b5 0 (stOf [0, 1, 5, 6, 7, 8] [.list RR l, .list .bool asks, .bool up, .ptr 0 0, .ptr 3 0, .int .i64 i] [.box [.rowA 1, .mp 2], .row (.int .u8) b, .mpo .str (.int .i64) m, .box [.str S, .list (.pair .str (.int .i64)) L]]) (roundK [0, 1, 5, 6, 7, 8] [4, 5] 0) = (r5 l asks up i b m S L).get := by kernel_rfl
theorem wf5 (l : List RRt) (asks : List Bool) (up : Bool) (I'' : Int → List Int → List (List UInt8 × Int) → List UInt8 → List (List UInt8 × Int) → Prop) (m'' : Int → List Int → List (List UInt8 × Int) → List UInt8 → List (List UInt8 × Int) → Nat) (r'' : Ex × St) (h : ∀ (i : Int) (b : List Int) (m : List (List UInt8 × Int)) (S : List UInt8) (L : List (List UInt8 × Int)), I'' i b m S L → (r5 l asks up i b m S L).all fun x'' => x'' = .inr r'' ∨ ∃ (i' : Int) (b' : List Int) (m' : List (List UInt8 × Int)) (S' : List UInt8) (L' : List (List UInt8 × Int)), x'' = .inl (stOf [0, 1, 5, 6, 7, 8] [.list RR l, .list .bool asks, .bool up, .ptr 0 0, .ptr 3 0, .int .i64 i'] [.box [.rowA 1, .mp 2], .row (.int .u8) b', .mpo .str (.int .i64) m', .box [.str S', .list (.pair .str (.int .i64)) L']]) ∧ I'' i' b' m' S' L' ∧ m'' i' b' m' S' L' < m'' i b m S L) (lp : Lp) (i : Int) (b : List Int) (m : List (List UInt8 × Int)) (S : List UInt8) (L : List (List UInt8 × Int)) : I'' i b m S L →
    loopF (fun st => evC TN (orcB [fs15w, fs18w, fs20w, fs23w, fs25w] [os21, os26, os22w, os24w, os22z, os24z]) lp b5 0 st (roundK [0, 1, 5, 6, 7, 8] [4, 5] 0)) (stOf [0, 1, 5, 6, 7, 8] [.list RR l, .list .bool asks, .bool up, .ptr 0 0, .ptr 3 0, .int .i64 i] [.box [.rowA 1, .mp 2], .row (.int .u8) b, .mpo .str (.int .i64) m, .box [.str S, .list (.pair .str (.int .i64)) L]]) = some r'' :=
  loop_tr (fun a'' : Int × List Int × List (List UInt8 × Int) × List UInt8 × List (List UInt8 × Int) => stOf [0, 1, 5, 6, 7, 8] [.list RR l, .list .bool asks, .bool up, .ptr 0 0, .ptr 3 0, .int .i64 a''.1] [.box [.rowA 1, .mp 2], .row (.int .u8) a''.2.1, .mpo .str (.int .i64) a''.2.2.1, .box [.str a''.2.2.2.1, .list (.pair .str (.int .i64)) a''.2.2.2.2]]) (fun a'' => I'' a''.1 a''.2.1 a''.2.2.1 a''.2.2.2.1 a''.2.2.2.2) (fun a'' => m'' a''.1 a''.2.1 a''.2.2.1 a''.2.2.2.1 a''.2.2.2.2) r'' (fun a'' => r5 l asks up a''.1 a''.2.1 a''.2.2.1 a''.2.2.2.1 a''.2.2.2.2)
    (fun a'' x hx => (round5 lp l asks up a''.1 a''.2.1 a''.2.2.1 a''.2.2.2.1 a''.2.2.2.2).trans hx) (fun a'' ha => Tr.all_mono (fun x'' hx => hx.imp id fun ⟨i', b', m', S', L', h1, h2, h3⟩ => ⟨(i', b', m', S', L'), h1, h2, h3⟩) (h (a''.1) (a''.2.1) (a''.2.2.1) (a''.2.2.2.1) (a''.2.2.2.2) ha)) (i, b, m, S, L)
def rpI5 (l : List RRt) (i : Int) (b : List Int) (m : Known) (S : List UInt8) (L : Known) : Prop := 0 ≤ i ∧ i ≤ 20 ∧ i ≤ l.length ∧ ∃ p : PKt, b = bytesInt p.1 ∧ m = p.2 ∧ S = p.1 ∧ L = p.2 ∧ kOk p.2 = true ∧ p.1.length ≤ 3000 * i.toNat ∧ p.2.length ≤ 3000 * i.toNat ∧ ∀ j : Nat, j < i.toNat → fw5 (l.getD j (Ty.dflt RR)) = true
theorem loop5 : ls5.Ok TN (orcB [fs15w, fs18w, fs20w, fs23w, fs25w] [os21, os26, os22w, os24w, os22z, os24z]) h5 0 0 b5 := by
  intro q'' hq'' x'' y'' r'' h
  obtain ⟨(l : List RRt), (asks : List Bool), (up : Bool), (i : Int), _⟩ := x''
  obtain ⟨_, (b : List Int), (m : List (List UInt8 × Int)), ⟨(S : List UInt8), (L : List (List UInt8 × Int)), _⟩, _⟩ := y''
  obtain ⟨hc, rfl⟩ := Tr.get_on2 h
  show loopF (fun st => evC TN (orcB [fs15w, fs18w, fs20w, fs23w, fs25w] [os21, os26, os22w, os24w, os22z, os24z]) (lpN TN (orcB [fs15w, fs18w, fs20w, fs23w, fs25w] [os21, os26, os22w, os24w, os22z, os24z]) h5 0 q'') b5 0 st (roundK [0, 1, 5, 6, 7, 8] [4, 5] 0)) (stOf [0, 1, 5, 6, 7, 8] [.list RR l, .list .bool asks, .bool up, .ptr 0 0, .ptr 3 0, .int .i64 i] [.box [.rowA 1, .mp 2], .row (.int .u8) b, .mpo .str (.int .i64) m, .box [.str S, .list (.pair .str (.int .i64)) L]]) = some ((bif rpS5 l then (.exit 0, [.dead, .bool up], []) else (.ret, [.bool up, .bool up], []) : Ex × List AV × List LObj).1, stOf [4, 5] (bif rpS5 l then (.exit 0, [.dead, .bool up], []) else (.ret, [.bool up, .bool up], []) : Ex × List AV × List LObj).2.1 (bif rpS5 l then (.exit 0, [.dead, .bool up], []) else (.ret, [.bool up, .bool up], []) : Ex × List AV × List LObj).2.2)
  simp only [rpC, Bool.and_eq_true, decide_eq_true_eq, List.isEmpty_iff] at hc
  obtain ⟨hrl, rfl, rfl, rfl, rfl, rfl⟩ := hc
  refine wf5 l asks up (rpI5 l) (fun i _ _ _ _ => (20 - i).toNat) _ ?_ _ 0 [] [] [] [] ⟨by omega, by omega, by omega, ([], []), rfl, rfl, rfl, rfl, rfl, by simp, by simp, fun j hj => by omega⟩
  rintro i b m S L ⟨h0, h20, h1, p, rfl, rfl, rfl, rfl, hk, hp1, hp2, hs⟩
  unfold r5
  have hpe : ((p.1, p.2) : PKt) = p := rfl
  by_cases hi : i < l.length
  · refine Tr.all_t (dec_true hi) ?_
    by_cases hi2 : i < 20
    · have hrg : rngR (l.getD i.toNat (Ty.dflt RR)) = true := all20_get hrl (by omega) (by omega) _
      have hj := fun (hx : fw5 (l.getD i.toNat (Ty.dflt RR)) = true) => show ∀ j : Nat, j < (i + 1).toNat → fw5 (l.getD j (Ty.dflt RR)) = true from fun j hj => if e : j = i.toNat then (by rw [e]; exact hx) else hs j (by omega)
      have hno := fun (hx : fw5 (l.getD i.toNat (Ty.dflt RR)) = false) => show rpS5 l = false by
        cases hh : rpS5 l
        · rfl
        · rw [all20_get hh (by omega) (by omega) (Ty.dflt RR)] at hx; cases hx
      rw [IntWalk.i64_in (i + 1) (by omega)]
      generalize l.getD i.toNat (Ty.dflt RR) = r at *
      refine Tr.all_t (dec_true hi2) (Tr.all_t (dec_true h0) (Tr.all_t (dec_true hi) (Tr.all_br (fun c => ?_) fun c => ?_)))
      · refine Tr.all_ret (.inl ?_)
        rw [hno (nt5 c)]
        rfl
      · have hf := nf5 c
        obtain ⟨f1, f2⟩ := fw5_iff.1 hf
        obtain ⟨ok1, ok2⟩ := rng_ok hrg hf
        obtain ⟨a1, a2, a3, a4⟩ := P_ok (P := p) hk (by omega) (by omega)
        have a4 := a4 r.1 (by omega)
        have b1 : (pkT (bytesInt p.1) p.2 && qOk (keyV r)) = true := by rw [a1, ok2]; rfl
        have b2 : (ptOk (p.1, p.2) (keyV r).1 && qOk (keyV r)) = true := by rw [show ptOk (p.1, p.2) (keyV r).1 = true from a4, ok2]; rfl
        have b3 : (pkS (bytesInt p.1) p.2 && rOk r) = true := by rw [a2, ok1]; rfl
        have b4 : (ptS (p.1, p.2) && rOk r) = true := by rw [show ptS (p.1, p.2) = true from a3, ok1]; rfl
        simp only [intB_bytes]
        have hst : ∀ x : St ⊕ (Ex × St), (∃ p' : PKt, x = .inl (stOf [0, 1, 5, 6, 7, 8] [.list RR l, .list .bool asks, .bool up, .ptr 0 0, .ptr 3 0, .int .i64 (i + 1)] [.box [.rowA 1, .mp 2], .row (.int .u8) (bytesInt p'.1), .mpo .str (.int .i64) p'.2, .box [.str p'.1, .list (.pair .str (.int .i64)) p'.2]]) ∧ kOk p'.2 = true ∧ p'.1.length ≤ p.1.length + 3000 ∧ p'.2.length ≤ p.2.length + 3000) → ∃ i' b' m' S' L', x = .inl (stOf [0, 1, 5, 6, 7, 8] [.list RR l, .list .bool asks, .bool up, .ptr 0 0, .ptr 3 0, .int .i64 i'] [.box [.rowA 1, .mp 2], .row (.int .u8) b', .mpo .str (.int .i64) m', .box [.str S', .list (.pair .str (.int .i64)) L']]) ∧ rpI5 l i' b' m' S' L' ∧ (20 - i').toNat < (20 - i).toNat := fun x ⟨p', hx, g1, g2, g3⟩ => ⟨_, _, _, _, _, hx, ⟨by omega, by omega, by omega, p', rfl, rfl, rfl, rfl, g1, by omega, by omega, hj hf⟩, by omega⟩
        refine Tr.all_mono (fun x hx => Or.inr (hst x hx)) ?_
        have hne : ∀ s : List UInt8, (!(s == s)) = false := fun s => by simp
        cases hm : mayV r.1 with
        | false =>
          have hr : recV r = false := by unfold recV; rw [hm]; rfl
          have hm' : mayV (keyV r).1 = false := hm
          refine Tr.all_br (fun ha => Tr.all_t (dec_true h0) (Tr.all_t ha (Tr.all_br (fun hb => ?_) fun hb => ?_))) fun ha => ?_
          all_goals repeat (first | refine Tr.all_t (dec_true hi) ?_ | refine Tr.all_t (dec_true h0) ?_ | refine Tr.all_t b1 ?_ | refine Tr.all_t b2 ?_ | refine Tr.all_t b3 ?_ | refine Tr.all_t b4 ?_ | refine Tr.all_f hm' ?_ | refine Tr.all_f hr ?_ | refine Tr.all_f (hne _) ?_)
          all_goals exact Tr.all_ret ⟨p, rfl, hk, by omega, by omega⟩
        | true =>
          have hm' : mayV (keyV r).1 = true := hm
          obtain ⟨q1, q2, q3⟩ := putQ_good (q := keyV r) (P := p) hm hk
          have q2 : (putQ (keyV r) p).1.length ≤ p.1.length + r.1.length + 4 := q2
          have q3 : (putQ (keyV r) p).2.length ≤ p.2.length + r.1.length := q3
          obtain ⟨c1, c2, c3, c4⟩ := P_ok (P := putQ (keyV r) p) q1 (by omega) (by omega)
          have d3 : (pkS (bytesInt (putQ (keyV r) (p.1, p.2)).1) (putQ (keyV r) (p.1, p.2)).2 && rOk r) = true := by rw [show pkS (bytesInt (putQ (keyV r) (p.1, p.2)).1) (putQ (keyV r) (p.1, p.2)).2 = true from c2, ok1]; rfl
          have d4 : (ptS (putQ (keyV r) (p.1, p.2)) && rOk r) = true := by rw [show ptS (putQ (keyV r) (p.1, p.2)) = true from c3, ok1]; rfl
          cases hr : recV r with
          | false =>
            refine Tr.all_br (fun ha => Tr.all_t (dec_true h0) (Tr.all_t ha (Tr.all_br (fun hb => ?_) fun hb => ?_))) fun ha => ?_
            all_goals repeat (first | refine Tr.all_t (dec_true hi) ?_ | refine Tr.all_t (dec_true h0) ?_ | refine Tr.all_t b1 ?_ | refine Tr.all_t b2 ?_ | refine Tr.all_t b3 ?_ | refine Tr.all_t b4 ?_ | refine Tr.all_t d3 ?_ | refine Tr.all_t d4 ?_ | refine Tr.all_t hm' ?_ | refine Tr.all_f hr ?_ | refine Tr.all_f rfl ?_ | refine Tr.all_f (hne _) ?_)
            · exact Tr.all_ret ⟨putQ (keyV r) p, rfl, q1, by omega, by omega⟩
            · exact Tr.all_ret ⟨p, rfl, hk, by omega, by omega⟩
            · exact Tr.all_ret ⟨p, rfl, hk, by omega, by omega⟩
          | true =>
            obtain ⟨g1, g2, g3⟩ := recP_good (P := p) hr hk
            obtain ⟨g4, g5, g6⟩ := recP_good (P := putQ (keyV r) p) hr q1
            refine Tr.all_br (fun ha => Tr.all_t (dec_true h0) (Tr.all_t ha (Tr.all_br (fun hb => ?_) fun hb => ?_))) fun ha => ?_
            all_goals repeat (first | refine Tr.all_t (dec_true hi) ?_ | refine Tr.all_t (dec_true h0) ?_ | refine Tr.all_t b1 ?_ | refine Tr.all_t b2 ?_ | refine Tr.all_t b3 ?_ | refine Tr.all_t b4 ?_ | refine Tr.all_t d3 ?_ | refine Tr.all_t d4 ?_ | refine Tr.all_t hm' ?_ | refine Tr.all_t rfl ?_ | refine Tr.all_f (hne _) ?_)
            · exact Tr.all_ret ⟨recP r (putQ (keyV r) p), rfl, g4, by omega, by omega⟩
            · exact Tr.all_ret ⟨recP r p, rfl, g1, by omega, by omega⟩
            · exact Tr.all_ret ⟨recP r p, rfl, g1, by omega, by omega⟩
    · refine Tr.all_f (dec_false hi2) (Tr.all_ret (.inl ?_))
      rw [show rpS5 l = true from all20_of (n := i.toNat) (.inr (by omega)) (Ty.dflt RR) hs]
      rfl
  · refine Tr.all_f (dec_false hi) (Tr.all_ret (.inl ?_))
    rw [show rpS5 l = true from all20_of (n := i.toNat) (.inl (by omega)) (Ty.dflt RR) hs]
    rfl
def t5 (l : List RRt) (asks : List Bool) : Tr Res := Tr.br (rngL l && rpC [] [] [] [] (0 : Int)) (Tr.br (rpS5 l) (Tr.ret ([AV.bool ((1 : Int) == (1 : Int))], [])) (Tr.ret ([AV.bool true], []))) Tr.no
def os5 : OSpec := { f := 5, sh := [.d (.list RR) false, .d (.list .bool) false], so := [], F := fun (l, asks, _) _ => t5 l asks }
set_option maxRecDepth 1000000 in
theorem fn5 (l : List RRt) (asks : List Bool) : evC TN (orcB [fs15w, fs18w, fs20w, fs23w, fs25w] [os21, os26, os22w, os24w, os22z, os24z]) (lpOf h5 0 (lsOf [ls5])) c5 1000000 (startSt [.list RR l, .list .bool asks] [] Try.f5.ntmps) (finishK TN false 0 Try.f5) = (t5 l asks).get := by kernel_rfl
theorem ok5 : os5.Ok Try.prog := by
  refine os_ok mixed0 tabN (orcB_sound (all_cons okf15w (all_cons okf18w (all_cons okf20w (all_cons okf23w (all_cons okf25w all_nil))))) (all_cons ok21 (all_cons ok26 (all_cons ok22w (all_cons ok24w (all_cons ok22z (all_cons ok24z all_nil))))))) h5 (d := 0) (n0 := 0) (S := lsOf [ls5]) Try.func5 (by kernel_rfl) (c := c5) (by kernel_rfl) rfl (loops_eq (xs := [(0, b5)]) (by kernel_rfl) (all_cons (ls_here loop5) all_nil)) (by omega) (by kernel_rfl) ?_
  intro x'' y'' q'' hq''
  obtain ⟨(l : List RRt), (asks : List Bool), _⟩ := x''
  exact (fn5 l asks).trans hq''
theorem okT_u16 {n : Int} (h : okT (.int .u16) n) : n16C n = true := by
  have hr : 0 ≤ n ∧ n ≤ 65535 := by simpa [okT, Lit.wf, IntKind.min, IntKind.max, IntKind.signed, IntKind.bits] using h
  unfold n16C
  rw [dec_true hr.1, dec_true hr.2]; rfl
theorem okT_u32 {n : Int} (h : okT (.int .u32) n) : n32C n = true := by
  have hr : 0 ≤ n ∧ n ≤ 4294967295 := by simpa [okT, Lit.wf, IntKind.min, IntKind.max, IntKind.signed, IntKind.bits] using h
  unfold n32C
  rw [dec_true hr.1, dec_true hr.2]; rfl
theorem okT_rng {r : RRt} (h : okT RR r) : rngR r = true := by
  obtain ⟨_, h2, h3, h4, _⟩ := h
  unfold rngR
  rw [okT_u16 h2, okT_u16 h3, okT_u32 h4]
  rfl
theorem okT_rngL {l : List RRt} (h : okT (.list RR) l) : rngL l = true := by
  unfold rngL
  rw [List.all_eq_true]
  exact fun r hr => okT_rng (h.2 r (List.mem_of_mem_take hr))
theorem sem5 (l : List RRt) (asks : List Bool) (h : okT (.list RR) l) : SemF Try.prog 5 [.list RR l, .list .bool asks] [] [.bool true] [] :=
  ok5 (l, asks, ()) () ([.bool true], []) (Tr.get_of_all (Tr.all_t (by rw [okT_rngL h]; rfl) (Tr.all_br (fun _ => Tr.all_ret rfl) fun _ => Tr.all_ret rfl)))
end Go.Proofs.YtlkpiegllammdaaE
namespace Go.Proofs.Ytlkpiegllammdaa.recordPuts
open Go.ChangeShapes Go.WideShapes Go.ChangeAt Go.RowKit Go.Proofs.YtlkpiegllammdaaE
open Go.ChangeMaps (open_string shut_string)
set_option linter.unusedVariables false
theorem own : ownKnob Try.prog.godebug = none := by kernel_rfl
theorem laidOut : laidOutB Try.prog = true := by kernel_rfl
set_option maxRecDepth 100000 in
theorem lifted (os : Os) (started : os.Started) (H : Type) (enc : TypeId × Value → H) :
    ReturnsInHanded {} Try.checked os 5 .any (Rows.recordPutsSpec.pre6 enc Try.prog Try.f5 Rows.recordPutsRow.domain false) (Rows.recordPutsSpec.post enc Try.prog Try.f5 false true false false) := by
  refine returnsInHanded_of_change_sized (C := Try.checked) own started (by kernel_rfl) Try.func5
    (ChangeSpec.witness6 (enc := enc) (C := Try.checked) false ⟨#[], #[.slice none 0 0, .slice none 0 0], []⟩ 8 (by kernel_rfl) (by kernel_rfl) (by kernel_rfl) (by kernel_rfl)) ?_
  intro W base args ds gs before hval0 hW hcnd hsz0 _
  have hsz : ∀ n ∈ DataW.weightsEach Try.prog (Try.f5.params.toList ++ Rows.recordPutsSpec.plain.varTypes Try.prog) (ds ++ gs), n ≤ reachBytes := fun n hn => of_decide_eq_true (List.all_eq_true.1 hsz0 n hn)
  have hval : ∀ (j : Nat) t v, Try.f5.params[j]? = some t → args[j]? = some v → Value.okWide Try.prog W .any base t v := hval0
  have hW' := hW
  obtain ⟨p, q, hA0, hV, rfl, hfz, hnd⟩ := hW
  have hA : DataW.TrodAll enc Try.prog W 0 (fun _ => true) true Try.f5.params.toList args.toList ds p := hA0
  rw [Try.params5] at hA hval hsz
  obtain ⟨v0, vs0, d0, ds0, p0, q0, hargs, rfl, rfl, k0, r0⟩ := trodAll_cons hA
  obtain ⟨v1, vs1, d1, ds1, p1, q1, rfl, rfl, rfl, k1, r1⟩ := trodAll_cons r0
  obtain ⟨rfl, rfl, rfl⟩ := trodAll_nil r1
  obtain rfl : args = #[v0, v1] := by cases args; simp_all
  obtain ⟨rfl, rfl⟩ := trodVars_none hV
  have lt0 : ∀ x ∈ p0, x.block < W.heap.size := by obtain ⟨m, hm⟩ := k0; exact DataW.trod_lt m _ _ _ hm
  obtain ⟨x0, e0, w0, b0⟩ := arg_told (n := 8) (τ := (.list (.pair .str (.pair (.int .u16) (.pair (.int .u16) (.pair (.int .u32) .str)))))) (agg := false) (by kernel_rfl) (hval 0 37 v0 rfl rfl) k0 (fun n hn => hsz n (DataW.weights_mem_each (j := 0) (t := 37) rfl rfl n hn)) (by kernel_rfl)
  have lt1 : ∀ x ∈ p1, x.block < W.heap.size := by obtain ⟨m, hm⟩ := k1; exact DataW.trod_lt m _ _ _ hm
  obtain ⟨x1, e1, w1, b1⟩ := arg_told (n := 8) (τ := (.list .bool)) (agg := false) (by kernel_rfl) (hval 1 38 v1 rfl rfl) k1 (fun n hn => hsz n (DataW.weights_mem_each (j := 1) (t := 38) rfl rfl n hn)) (by kernel_rfl)
  clear hA0 hval0 hsz0 hsz
  refine (law_calls ((fun l asks ho _ => sem5 l asks ho) x0 x1 w0 w1) W (vs := [v0, v1]) ?_).mono fun e W' ⟨he, bel⟩ => ?_
  · simp only [VRelL]
    exact ⟨_, _, rfl, e0, ⟨_, _, rfl, e1, rfl⟩⟩
  subst he
  exact ⟨_, rfl, _, _, _, [], _, [], hW', trodAll_mk1 (shut_bool Try.underlying4 _), (trodAll_cons_mk (Below.trod laidOut (by kernel_rfl) (of_decide_eq_true (by kernel_rfl)) k0 bel lt0) (trodAll_cons_mk (Below.trod laidOut (by kernel_rfl) (of_decide_eq_true (by kernel_rfl)) k1 bel lt1) trodAll_mk0)), rfl, bel.frame _, fun h => by cases h⟩
theorem over : Rows.recordPutsRow.holds Try.pinned (OpenSpec.ofChange Rows.recordPutsSpec) :=
  OpenClaim.holds_of_wide 5 Try.f5 rfl rfl rfl rfl rfl rfl rfl ⟨rfl, rfl, rfl, rfl, rfl⟩ rfl rfl rfl rfl rfl (by kernel_rfl) Try.func5 (by kernel_rfl)
    (of_decide_eq_true (by kernel_rfl)) (by unfold Func.isWrapper; first | (rw [if_pos (by decide +kernel)]; kernel_rfl) | (rw [if_neg (by decide +kernel)]; exact ⟨rfl, rfl⟩))
    (fun os started H enc _ => lifted os started H enc)
theorem proved : Rows.RecordPutsSaid := over
end Go.Proofs.Ytlkpiegllammdaa.recordPuts
namespace Go.Proofs.Ytlkpiegllammdaa
/-- The row, under a short name, for the claim. -/
theorem recordPuts_holds : Rows.RecordPutsSaid := recordPuts.proved
#print axioms recordPuts_holds
end Go.Proofs.Ytlkpiegllammdaa
