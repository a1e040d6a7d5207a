/- network: the law NetworkTurn. -/
import Derived.Test.YtgiofacmcpakoaaN2
namespace Go.Proofs.YtgiofacmcpakoaaE
open Go
set_option linter.unusedVariables false
def ta (l : NW) (i r s lo : Int) (w : NW) : Bool := decide (i = 0) && decide (r = 100) && decide (s = 0) && decide (lo = 0) && w.isEmpty && decide (l.length ≤ 60)
def tuOk (tu : List Int) : Bool := tu.all fun x => decide (0 ≤ x) && decide (x < 256)
def tb (l : NW) (tu : List Int) (i : Int) (w lf : NW) : Bool := decide (i = 0) && decide (l = w) && decide (l = lf) && decide (l.length ≤ 60) && tuOk tu
noncomputable def b10a : Code := nthLoop c10 0
def ls10a : LoopSpec := { bid := 0, sh := [.d (.list PK) false, .d (.list (.int .u8)) false, .d .bool false, .ptr 0 0, .row 2, .d (.int .i64) false], so := [.box [.row 1, .d (.int .i64) false, .d (.int .i64) false, .d (.int .i64) false], .row PK, .row PK], F := fun (l, tu, up, i, _) ((r, s, lo, _), w, lf, _) => .on (ta l i r s lo w) (.exit 0, [.list PK l, .list (.int .u8) tu, .bool up, .ptr 0 0, .rowA 2], boxN 100 l.length 0 l ++ [.row PK lf]) }
def r10a (l : List ((Int × Int) × ((Int × Int) × List UInt8))) (tu : List Int) (up : Bool) (i : Int) (r : Int) (s : Int) (lo : Int) (w : List ((Int × Int) × ((Int × Int) × List UInt8))) (lf : List ((Int × Int) × ((Int × Int) × List UInt8))) : Tr (St ⊕ (Ex × St)) := Tr.br (decide (i < (↑(List.length l) : Int))) (Tr.br (decide ((0 : Int) ≤ i)) (Tr.br (decide (i < (↑(List.length l) : Int))) (Tr.br (bigW w) (Tr.br (decide ((↑(List.length w) : Int) ≥ r)) (Tr.ret (Sum.inl (stOf [0, 1, 5, 6, 7, 8] [AV.list PK l, AV.list (Ty.int IntKind.u8) tu, AV.bool up, AV.ptr 0 0, AV.rowA 2, AV.int IntKind.i64 (IntKind.wrap IntKind.i64 (i + (1 : Int)))] [LObj.box [AV.rowA 1, AV.int IntKind.i64 r, AV.int IntKind.i64 (IntKind.wrap IntKind.i64 (s + (1 : Int))), AV.int IntKind.i64 (IntKind.wrap IntKind.i64 (lo + (1 : Int)))], LObj.row PK w, LObj.row PK lf]))) (Tr.ret (Sum.inl (stOf [0, 1, 5, 6, 7, 8] [AV.list PK l, AV.list (Ty.int IntKind.u8) tu, AV.bool up, AV.ptr 0 0, AV.rowA 2, AV.int IntKind.i64 (IntKind.wrap IntKind.i64 (i + (1 : Int)))] [LObj.box [AV.rowA 1, AV.int IntKind.i64 r, AV.int IntKind.i64 (IntKind.wrap IntKind.i64 (s + (1 : Int))), AV.int IntKind.i64 lo], LObj.row PK (w ++ [List.getD l (Int.toNat i) (Ty.dflt PK)]), LObj.row PK lf])))) Tr.no) Tr.no) Tr.no) (Tr.ret (Sum.inr (Ex.exit 0, stOf [0, 1, 5, 6, 7] [AV.list PK l, AV.list (Ty.int IntKind.u8) tu, AV.bool up, AV.ptr 0 0, AV.rowA 2] [LObj.box [AV.rowA 1, AV.int IntKind.i64 r, AV.int IntKind.i64 s, AV.int IntKind.i64 lo], LObj.row PK w, LObj.row PK lf])))
theorem round10a (lp : Lp) (l : List ((Int × Int) × ((Int × Int) × List UInt8))) (tu : List Int) (up : Bool) (i : Int) (r : Int) (s : Int) (lo : Int) (w : List ((Int × Int) × ((Int × Int) × List UInt8))) (lf : List ((Int × Int) × ((Int × Int) × List UInt8))) : evC T0 (orcB [] [os28, os29, os33, os31, os30, os32, os27, os34o, os36o]) lp b10a 0 (stOf [0, 1, 5, 6, 7, 8] [.list PK l, .list (.int .u8) tu, .bool up, .ptr 0 0, .rowA 2, .int .i64 i] [.box [.rowA 1, .int .i64 r, .int .i64 s, .int .i64 lo], .row PK w, .row PK lf]) (roundK [0, 1, 5, 6, 7, 8] [0, 1, 5, 6, 7] 0) = (r10a l tu up i r s lo w lf).get := by kernel_rfl
theorem loop10a : ls10a.Ok T0 (orcB [] [os28, os29, os33, os31, os30, os32, os27, os34o, os36o]) h10 0 0 b10a := by
  intro q'' hq'' x'' y'' r'' h
  obtain ⟨(l : List ((Int × Int) × ((Int × Int) × List UInt8))), (tu : List Int), (up : Bool), (i : Int), _⟩ := x''
  obtain ⟨⟨(r : Int), (s : Int), (lo : Int), _⟩, (w : List ((Int × Int) × ((Int × Int) × List UInt8))), (lf : List ((Int × Int) × ((Int × Int) × List UInt8))), _⟩ := y''
  obtain ⟨hc, rfl⟩ := Tr.get_on h
  show loopF (fun st => evC T0 (orcB [] [os28, os29, os33, os31, os30, os32, os27, os34o, os36o]) (lpN T0 (orcB [] [os28, os29, os33, os31, os30, os32, os27, os34o, os36o]) h10 0 q'') b10a 0 st (roundK [0, 1, 5, 6, 7, 8] [0, 1, 5, 6, 7] 0)) (stOf [0, 1, 5, 6, 7, 8] [.list PK l, .list (.int .u8) tu, .bool up, .ptr 0 0, .rowA 2, .int .i64 i] [.box [.rowA 1, .int .i64 r, .int .i64 s, .int .i64 lo], .row PK w, .row PK lf]) = some (.exit 0, stOf [0, 1, 5, 6, 7] ([.list PK l, .list (.int .u8) tu, .bool up, .ptr 0 0, .rowA 2]) (boxN 100 l.length 0 l ++ [.row PK lf]))
  simp only [ta, Bool.and_eq_true, decide_eq_true_eq, List.isEmpty_iff] at hc
  obtain ⟨⟨⟨⟨⟨rfl, rfl⟩, rfl⟩, rfl⟩, rfl⟩, h60⟩ := hc
  refine loop_wf (fun k : Nat => stOf [0, 1, 5, 6, 7, 8] [.list PK l, .list (.int .u8) tu, .bool up, .ptr 0 0, .rowA 2, .int .i64 k] (boxN 100 k 0 (l.take k) ++ [.row PK lf])) (fun k => k ≤ l.length) (fun k => l.length - k) _ ?_ 0 (Nat.zero_le _)
  intro k hk
  simp only [boxN, List.cons_append, List.nil_append]
  rw [round10a]
  unfold r10a
  have hlen : (l.take k).length = k := by simp; omega
  by_cases h1 : k < l.length
  · refine .inr ⟨k + 1, ?_, h1, by omega⟩
    simp only [Tr.get, hlen, dec_true (show (k : Int) < l.length by omega), dec_true (show (0 : Int) ≤ k by omega), dec_false (show ¬ ((k : Int) ≥ 100) by omega), cond_true, cond_false, IntWalk.i64_in (k + 1 : Int) (by omega), int_nat]
    rw [show bigW (l.take k) = true by simp [bigW]; omega, cond_true, show l.take (k + 1) = l.take k ++ [l.getD k (Ty.dflt PK)] by rw [List.take_add_one, List.getD_eq_getElem?_getD, List.getElem?_eq_getElem h1]; rfl]
    rfl
  · refine .inl ?_
    have e : k = l.length := by omega
    subst e
    simp only [Tr.get, dec_false (show ¬ ((l.length : Int) < l.length) by omega), cond_false]
    rw [List.take_length]
def turnK (tu : List Int) (i : Nat) (n : Nat) : Int := if i < tu.length then Int.tmod (IntKind.wrap .i64 (tu.getD i 0)) n else 0
theorem tuOk_get {tu : List Int} (h : tuOk tu = true) (i : Nat) : 0 ≤ tu.getD i 0 ∧ tu.getD i 0 < 256 := by
  rw [List.getD_eq_getElem?_getD]
  cases hx : tu[i]? with
  | none => simp
  | some x =>
    simp only [Option.getD_some]
    have := List.all_eq_true.1 h x (List.mem_of_getElem? hx)
    simpa using this
theorem turnK_in {tu : List Int} (h : tuOk tu = true) (i : Nat) {n : Nat} (hn : 0 < n) : 0 ≤ turnK tu i n ∧ turnK tu i n < n := by
  unfold turnK
  split
  · obtain ⟨h0, h1⟩ := tuOk_get h i
    rw [IntWalk.i64_in _ (by omega)]
    exact ⟨Int.tmod_nonneg _ h0, Int.tmod_lt_of_pos _ (by omega)⟩
  · omega
noncomputable def b10b : Code := nthLoop c10 1
def ls10b : LoopSpec := { bid := 2, sh := [.d (.list PK) false, .d (.list (.int .u8)) false, .d .bool false, .ptr 0 0, .row 2, .d (.int .i64) false], so := [.box [.row 1, .d (.int .i64) false, .d (.int .i64) false, .d (.int .i64) false], .row PK, .row PK], F := fun (l, tu, up, i, _) ((r, s, lo, _), w, lf, _) => .on (tb l tu i w lf) (.exit 2, [.list PK l, .dead, .bool up, .ptr 0 0], boxN r s lo []) }
def r10b (l : List ((Int × Int) × ((Int × Int) × List UInt8))) (tu : List Int) (up : Bool) (i : Int) (r : Int) (s : Int) (lo : Int) (w : List ((Int × Int) × ((Int × Int) × List UInt8))) (lf : List ((Int × Int) × ((Int × Int) × List UInt8))) : Tr (St ⊕ (Ex × St)) := Tr.br (decide (i < (↑(List.length l) : Int))) (Tr.br ((↑(List.length w) : Int) != (↑(List.length lf) : Int)) (Tr.ret (Sum.inr (Ex.ret, stOf [0, 4, 5, 6] [AV.list PK l, AV.bool false, AV.bool up, AV.ptr 0 0] [LObj.box [AV.rowA 1, AV.int IntKind.i64 r, AV.int IntKind.i64 s, AV.int IntKind.i64 lo], LObj.row PK w]))) (Tr.br (decide (i < (↑(List.length tu) : Int))) (Tr.br (decide ((0 : Int) ≤ i)) (Tr.br (decide (i < (↑(List.length tu) : Int))) (Tr.br ((↑(List.length w) : Int) != (0 : Int)) (Tr.br (bigW w) (Tr.br (hasK w (Int.tmod (IntKind.wrap IntKind.i64 (List.getD tu (Int.toNat i) (Ty.dflt (Ty.int IntKind.u8)))) (↑(List.length w) : Int))) (Tr.br (decide ((0 : Int) ≤ Int.tmod (IntKind.wrap IntKind.i64 (List.getD tu (Int.toNat i) (Ty.dflt (Ty.int IntKind.u8)))) (↑(List.length w) : Int))) (Tr.br (decide (Int.tmod (IntKind.wrap IntKind.i64 (List.getD tu (Int.toNat i) (Ty.dflt (Ty.int IntKind.u8)))) (↑(List.length w) : Int) < (↑(List.length lf) : Int))) (Tr.br (!(Prod.fst (Prod.fst (atK w (Int.tmod (IntKind.wrap IntKind.i64 (List.getD tu (Int.toNat i) (Ty.dflt (Ty.int IntKind.u8)))) (↑(List.length w) : Int)))) == Prod.fst (Prod.fst (List.getD lf (Int.toNat (Int.tmod (IntKind.wrap IntKind.i64 (List.getD tu (Int.toNat i) (Ty.dflt (Ty.int IntKind.u8)))) (↑(List.length w) : Int))) (Ty.dflt PK))) && (Prod.snd (Prod.fst (atK w (Int.tmod (IntKind.wrap IntKind.i64 (List.getD tu (Int.toNat i) (Ty.dflt (Ty.int IntKind.u8)))) (↑(List.length w) : Int)))) == Prod.snd (Prod.fst (List.getD lf (Int.toNat (Int.tmod (IntKind.wrap IntKind.i64 (List.getD tu (Int.toNat i) (Ty.dflt (Ty.int IntKind.u8)))) (↑(List.length w) : Int))) (Ty.dflt PK))) && true) && (Prod.fst (Prod.fst (Prod.snd (atK w (Int.tmod (IntKind.wrap IntKind.i64 (List.getD tu (Int.toNat i) (Ty.dflt (Ty.int IntKind.u8)))) (↑(List.length w) : Int))))) == Prod.fst (Prod.fst (Prod.snd (List.getD lf (Int.toNat (Int.tmod (IntKind.wrap IntKind.i64 (List.getD tu (Int.toNat i) (Ty.dflt (Ty.int IntKind.u8)))) (↑(List.length w) : Int))) (Ty.dflt PK)))) && (Prod.snd (Prod.fst (Prod.snd (atK w (Int.tmod (IntKind.wrap IntKind.i64 (List.getD tu (Int.toNat i) (Ty.dflt (Ty.int IntKind.u8)))) (↑(List.length w) : Int))))) == Prod.snd (Prod.fst (Prod.snd (List.getD lf (Int.toNat (Int.tmod (IntKind.wrap IntKind.i64 (List.getD tu (Int.toNat i) (Ty.dflt (Ty.int IntKind.u8)))) (↑(List.length w) : Int))) (Ty.dflt PK)))) && true) && (Prod.snd (Prod.snd (atK w (Int.tmod (IntKind.wrap IntKind.i64 (List.getD tu (Int.toNat i) (Ty.dflt (Ty.int IntKind.u8)))) (↑(List.length w) : Int)))) == Prod.snd (Prod.snd (List.getD lf (Int.toNat (Int.tmod (IntKind.wrap IntKind.i64 (List.getD tu (Int.toNat i) (Ty.dflt (Ty.int IntKind.u8)))) (↑(List.length w) : Int))) (Ty.dflt PK))) && true)))) (Tr.ret (Sum.inr (Ex.ret, stOf [0, 4, 5, 6] [AV.list PK l, AV.bool false, AV.bool up, AV.ptr 0 0] [LObj.box [AV.rowA 1, AV.int IntKind.i64 r, AV.int IntKind.i64 s, AV.int IntKind.i64 lo], LObj.row PK (List.eraseIdx w (Int.toNat (Int.tmod (IntKind.wrap IntKind.i64 (List.getD tu (Int.toNat i) (Ty.dflt (Ty.int IntKind.u8)))) (↑(List.length w) : Int))))]))) (Tr.br (decide ((0 : Int) ≤ Int.tmod (IntKind.wrap IntKind.i64 (List.getD tu (Int.toNat i) (Ty.dflt (Ty.int IntKind.u8)))) (↑(List.length w) : Int)) && decide (Int.tmod (IntKind.wrap IntKind.i64 (List.getD tu (Int.toNat i) (Ty.dflt (Ty.int IntKind.u8)))) (↑(List.length w) : Int) ≤ (↑(List.length lf) : Int))) (Tr.br (decide ((0 : Int) ≤ (0 : Int)) && decide ((0 : Int) ≤ Int.tmod (IntKind.wrap IntKind.i64 (List.getD tu (Int.toNat i) (Ty.dflt (Ty.int IntKind.u8)))) (↑(List.length w) : Int))) (Tr.br (fits (0 + List.length (List.take (Int.toNat (Int.tmod (IntKind.wrap IntKind.i64 (List.getD tu (Int.toNat i) (Ty.dflt (Ty.int IntKind.u8)))) (↑(List.length w) : Int)) - Int.toNat (0 : Int)) (List.drop (Int.toNat (0 : Int)) lf))) 32) (Tr.br (decide ((0 : Int) ≤ (↑(List.length lf) : Int)) && decide ((↑(List.length lf) : Int) ≤ (↑(List.length lf) : Int))) (Tr.br (decide ((0 : Int) ≤ IntKind.wrap IntKind.i64 (Int.tmod (IntKind.wrap IntKind.i64 (List.getD tu (Int.toNat i) (Ty.dflt (Ty.int IntKind.u8)))) (↑(List.length w) : Int) + (1 : Int))) && decide (IntKind.wrap IntKind.i64 (Int.tmod (IntKind.wrap IntKind.i64 (List.getD tu (Int.toNat i) (Ty.dflt (Ty.int IntKind.u8)))) (↑(List.length w) : Int) + (1 : Int)) ≤ (↑(List.length lf) : Int))) (Tr.br (fits (List.length ([] ++ List.take (Int.toNat (Int.tmod (IntKind.wrap IntKind.i64 (List.getD tu (Int.toNat i) (Ty.dflt (Ty.int IntKind.u8)))) (↑(List.length w) : Int)) - Int.toNat (0 : Int)) (List.drop (Int.toNat (0 : Int)) lf)) + List.length (List.take (Int.toNat (↑(List.length lf) : Int) - Int.toNat (IntKind.wrap IntKind.i64 (Int.tmod (IntKind.wrap IntKind.i64 (List.getD tu (Int.toNat i) (Ty.dflt (Ty.int IntKind.u8)))) (↑(List.length w) : Int) + (1 : Int)))) (List.drop (Int.toNat (IntKind.wrap IntKind.i64 (Int.tmod (IntKind.wrap IntKind.i64 (List.getD tu (Int.toNat i) (Ty.dflt (Ty.int IntKind.u8)))) (↑(List.length w) : Int) + (1 : Int)))) lf))) 32) (Tr.ret (Sum.inl (stOf [0, 1, 5, 6, 7, 9] [AV.list PK l, AV.list (Ty.int IntKind.u8) tu, AV.bool up, AV.ptr 0 0, AV.rowA 2, AV.int IntKind.i64 (IntKind.wrap IntKind.i64 (i + (1 : Int)))] [LObj.box [AV.rowA 1, AV.int IntKind.i64 r, AV.int IntKind.i64 s, AV.int IntKind.i64 lo], LObj.row PK (List.eraseIdx w (Int.toNat (Int.tmod (IntKind.wrap IntKind.i64 (List.getD tu (Int.toNat i) (Ty.dflt (Ty.int IntKind.u8)))) (↑(List.length w) : Int)))), LObj.row PK ([] ++ List.take (Int.toNat (Int.tmod (IntKind.wrap IntKind.i64 (List.getD tu (Int.toNat i) (Ty.dflt (Ty.int IntKind.u8)))) (↑(List.length w) : Int)) - Int.toNat (0 : Int)) (List.drop (Int.toNat (0 : Int)) lf) ++ List.take (Int.toNat (↑(List.length lf) : Int) - Int.toNat (IntKind.wrap IntKind.i64 (Int.tmod (IntKind.wrap IntKind.i64 (List.getD tu (Int.toNat i) (Ty.dflt (Ty.int IntKind.u8)))) (↑(List.length w) : Int) + (1 : Int)))) (List.drop (Int.toNat (IntKind.wrap IntKind.i64 (Int.tmod (IntKind.wrap IntKind.i64 (List.getD tu (Int.toNat i) (Ty.dflt (Ty.int IntKind.u8)))) (↑(List.length w) : Int) + (1 : Int)))) lf))]))) Tr.no) Tr.no) Tr.no) Tr.no) Tr.no) Tr.no)) Tr.no) Tr.no) (Tr.ret (Sum.inr (Ex.ret, stOf [0, 4, 5, 6] [AV.list PK l, AV.bool false, AV.bool up, AV.ptr 0 0] [LObj.box [AV.rowA 1, AV.int IntKind.i64 r, AV.int IntKind.i64 s, AV.int IntKind.i64 lo], LObj.row PK w])))) Tr.no) Tr.no) Tr.no) Tr.no) (Tr.br (bigW w) (Tr.br (hasK w (0 : Int)) (Tr.br (decide ((0 : Int) < (↑(List.length lf) : Int))) (Tr.br (!(Prod.fst (Prod.fst (atK w (0 : Int))) == Prod.fst (Prod.fst (List.getD lf (Int.toNat (0 : Int)) (Ty.dflt PK))) && (Prod.snd (Prod.fst (atK w (0 : Int))) == Prod.snd (Prod.fst (List.getD lf (Int.toNat (0 : Int)) (Ty.dflt PK))) && true) && (Prod.fst (Prod.fst (Prod.snd (atK w (0 : Int)))) == Prod.fst (Prod.fst (Prod.snd (List.getD lf (Int.toNat (0 : Int)) (Ty.dflt PK)))) && (Prod.snd (Prod.fst (Prod.snd (atK w (0 : Int)))) == Prod.snd (Prod.fst (Prod.snd (List.getD lf (Int.toNat (0 : Int)) (Ty.dflt PK)))) && true) && (Prod.snd (Prod.snd (atK w (0 : Int))) == Prod.snd (Prod.snd (List.getD lf (Int.toNat (0 : Int)) (Ty.dflt PK))) && true)))) (Tr.ret (Sum.inr (Ex.ret, stOf [0, 4, 5, 6] [AV.list PK l, AV.bool false, AV.bool up, AV.ptr 0 0] [LObj.box [AV.rowA 1, AV.int IntKind.i64 r, AV.int IntKind.i64 s, AV.int IntKind.i64 lo], LObj.row PK (List.eraseIdx w (Int.toNat (0 : Int)))]))) (Tr.br (decide ((0 : Int) ≤ (↑(List.length lf) : Int)) && decide ((↑(List.length lf) : Int) ≤ (↑(List.length lf) : Int))) (Tr.br (decide ((0 : Int) ≤ IntKind.wrap IntKind.i64 ((0 : Int) + (1 : Int))) && decide (IntKind.wrap IntKind.i64 ((0 : Int) + (1 : Int)) ≤ (↑(List.length lf) : Int))) (Tr.br (fits (List.length ([] ++ List.take (Int.toNat (0 : Int) - Int.toNat (0 : Int)) (List.drop (Int.toNat (0 : Int)) lf)) + List.length (List.take (Int.toNat (↑(List.length lf) : Int) - Int.toNat (IntKind.wrap IntKind.i64 ((0 : Int) + (1 : Int)))) (List.drop (Int.toNat (IntKind.wrap IntKind.i64 ((0 : Int) + (1 : Int)))) lf))) 32) (Tr.ret (Sum.inl (stOf [0, 1, 5, 6, 7, 9] [AV.list PK l, AV.list (Ty.int IntKind.u8) tu, AV.bool up, AV.ptr 0 0, AV.rowA 2, AV.int IntKind.i64 (IntKind.wrap IntKind.i64 (i + (1 : Int)))] [LObj.box [AV.rowA 1, AV.int IntKind.i64 r, AV.int IntKind.i64 s, AV.int IntKind.i64 lo], LObj.row PK (List.eraseIdx w (Int.toNat (0 : Int))), LObj.row PK ([] ++ List.take (Int.toNat (0 : Int) - Int.toNat (0 : Int)) (List.drop (Int.toNat (0 : Int)) lf) ++ List.take (Int.toNat (↑(List.length lf) : Int) - Int.toNat (IntKind.wrap IntKind.i64 ((0 : Int) + (1 : Int)))) (List.drop (Int.toNat (IntKind.wrap IntKind.i64 ((0 : Int) + (1 : Int)))) lf))]))) Tr.no) Tr.no) Tr.no)) Tr.no) (Tr.ret (Sum.inr (Ex.ret, stOf [0, 4, 5, 6] [AV.list PK l, AV.bool false, AV.bool up, AV.ptr 0 0] [LObj.box [AV.rowA 1, AV.int IntKind.i64 r, AV.int IntKind.i64 s, AV.int IntKind.i64 lo], LObj.row PK w])))) Tr.no))) (Tr.ret (Sum.inr (Ex.exit 2, stOf [0, 4, 5, 6] [AV.list PK l, AV.dead, AV.bool up, AV.ptr 0 0] [LObj.box [AV.rowA 1, AV.int IntKind.i64 r, AV.int IntKind.i64 s, AV.int IntKind.i64 lo], LObj.row PK w])))
theorem round10b (lp : Lp) (l : List ((Int × Int) × ((Int × Int) × List UInt8))) (tu : List Int) (up : Bool) (i : Int) (r : Int) (s : Int) (lo : Int) (w : List ((Int × Int) × ((Int × Int) × List UInt8))) (lf : List ((Int × Int) × ((Int × Int) × List UInt8))) : evC T0 (orcB [] [os28, os29, os33, os31, os30, os32, os27, os34o, os36o]) lp b10b 2 (stOf [0, 1, 5, 6, 7, 9] [.list PK l, .list (.int .u8) tu, .bool up, .ptr 0 0, .rowA 2, .int .i64 i] [.box [.rowA 1, .int .i64 r, .int .i64 s, .int .i64 lo], .row PK w, .row PK lf]) (roundK [0, 1, 5, 6, 7, 9] [0, 4, 5, 6] 0) = (r10b l tu up i r s lo w lf).get := by kernel_rfl
theorem rm2 {w : NW} {k : Int} (h0 : 0 ≤ k) (h1 : k < (w.length : Int)) (h2 : w.length ≤ 60) :
    ([] ++ List.take (Int.toNat k - Int.toNat (0 : Int)) (List.drop (Int.toNat (0 : Int)) w) ++ List.take (List.length w - Int.toNat (IntKind.wrap IntKind.i64 (k + (1 : Int)))) (List.drop (Int.toNat (IntKind.wrap IntKind.i64 (k + (1 : Int)))) w) : List PK.den) = w.eraseIdx k.toNat := by
  exact rm_eq h0 h1 (by omega)
theorem loop10b : ls10b.Ok T0 (orcB [] [os28, os29, os33, os31, os30, os32, os27, os34o, os36o]) h10 0 0 b10b := by
  intro q'' hq'' x'' y'' r'' h
  obtain ⟨(l : List ((Int × Int) × ((Int × Int) × List UInt8))), (tu : List Int), (up : Bool), (i : Int), _⟩ := x''
  obtain ⟨⟨(r : Int), (s : Int), (lo : Int), _⟩, (w : List ((Int × Int) × ((Int × Int) × List UInt8))), (lf : List ((Int × Int) × ((Int × Int) × List UInt8))), _⟩ := y''
  obtain ⟨hc, rfl⟩ := Tr.get_on h
  show loopF (fun st => evC T0 (orcB [] [os28, os29, os33, os31, os30, os32, os27, os34o, os36o]) (lpN T0 (orcB [] [os28, os29, os33, os31, os30, os32, os27, os34o, os36o]) h10 0 q'') b10b 2 st (roundK [0, 1, 5, 6, 7, 9] [0, 4, 5, 6] 0)) (stOf [0, 1, 5, 6, 7, 9] [.list PK l, .list (.int .u8) tu, .bool up, .ptr 0 0, .rowA 2, .int .i64 i] [.box [.rowA 1, .int .i64 r, .int .i64 s, .int .i64 lo], .row PK w, .row PK lf]) = some (.exit 2, stOf [0, 4, 5, 6] ([.list PK l, .dead, .bool up, .ptr 0 0]) (boxN r s lo []))
  simp only [tb, Bool.and_eq_true, decide_eq_true_eq] at hc
  obtain ⟨⟨⟨⟨rfl, rfl⟩, rfl⟩, h60⟩, htu⟩ := hc
  refine loop_wf (fun a : Nat × NW => stOf [0, 1, 5, 6, 7, 9] [.list PK l, .list (.int .u8) tu, .bool up, .ptr 0 0, .rowA 2, .int .i64 a.1] (boxN r s lo a.2 ++ [.row PK a.2])) (fun a => a.1 + a.2.length = l.length) (fun a => l.length - a.1) _ ?_ (0, l) (by simp)
  rintro ⟨i, v⟩ hv
  simp only at hv
  simp only [boxN, List.cons_append, List.nil_append]
  rw [round10b]
  unfold r10b
  by_cases h1 : i < l.length
  · obtain ⟨h0, hlt⟩ := turnK_in htu i (show 0 < v.length by omega)
    refine .inr ⟨(i + 1, v.eraseIdx (turnK tu i v.length).toNat), ?_, ?_, by simp only; omega⟩
    · have hself : ((v.length : Int) != (v.length : Int)) = false := by simp
      have hne : ((v.length : Int) != 0) = true := bne_iff_ne.2 (by omega)
      have hbig : bigW v = true := by simp [bigW]; omega
      simp only [Tr.get, dec_true (show (i : Int) < l.length by omega), cond_true, hself, cond_false, hbig, hne]
      unfold turnK at h0 hlt ⊢
      by_cases h2 : i < tu.length
      · rw [if_pos h2] at h0 hlt ⊢
        simp only [dec_true (show (i : Int) < tu.length by omega), dec_true (show (0 : Int) ≤ i by omega), cond_true, int_nat]
        show _ = some _
        rw [show Ty.dflt (Ty.int IntKind.u8) = (0 : Int) from rfl]
        generalize Int.tmod (IntKind.wrap IntKind.i64 (tu.getD i 0)) (v.length : Int) = k at h0 hlt ⊢
        have hk : hasK v k = true := by simp [hasK]; omega
        have heq := pkEq_refl (v.getD k.toNat (Ty.dflt PK))
        unfold pkEq at heq
        rw [rm2 h0 hlt (by omega)]
        have hf : fits (List.length (List.take (Int.toNat k - Int.toNat (0 : Int)) (List.drop (Int.toNat (0 : Int)) v)) + List.length (List.take (List.length v - Int.toNat (k + (1 : Int))) (List.drop (Int.toNat (k + (1 : Int))) v))) 32 = true := fits32 (by simp only [List.length_take, List.length_drop]; omega)
        have hf2 : fits (0 + List.length (List.take (Int.toNat k - Int.toNat (0 : Int)) (List.drop (Int.toNat (0 : Int)) v))) 32 = true := fits32 (by simp only [List.length_take, List.length_drop]; omega)
        simp only [hf, hf2, hk, atK, beq_self_eq_true, List.nil_append, IntWalk.i64_in (k + 1 : Int) (by omega), dec_true h0, dec_true hlt, dec_true (show k ≤ (v.length : Int) by omega), dec_true (show (0 : Int) ≤ k + 1 by omega), dec_true (show k + 1 ≤ (v.length : Int) by omega), dec_true (show (0 : Int) ≤ (v.length : Int) by omega), dec_true (Int.le_refl (v.length : Int)), dec_true (Int.le_refl (0 : Int)),
          Bool.and_true, Bool.not_true, cond_true, cond_false, IntWalk.i64_in (i + 1 : Int) (by omega)]
        rfl
      · rw [if_neg h2] at h0 hlt ⊢
        simp only [dec_false (show ¬ ((i : Int) < tu.length) by omega), cond_false, int_nat]
        have hk : hasK v 0 = true := by simp [hasK]; omega
        have heq := pkEq_refl (v.getD (Int.toNat 0) (Ty.dflt PK))
        unfold pkEq at heq
        rw [rm2 h0 hlt (by omega)]
        have hf : fits (List.length (List.take (Int.toNat 0 - Int.toNat (0 : Int)) (List.drop (Int.toNat (0 : Int)) v)) + List.length (List.take (List.length v - Int.toNat (0 + (1 : Int))) (List.drop (Int.toNat (0 + (1 : Int))) v))) 32 = true := fits32 (by simp only [List.length_take, List.length_drop]; omega)
        simp only [hf, hk, atK, beq_self_eq_true, List.nil_append, IntWalk.i64_in (0 + 1 : Int) (by omega), dec_true h0, dec_true hlt, dec_true (show (0 : Int) ≤ 0 + 1 by omega), dec_true (show (0 : Int) + 1 ≤ (v.length : Int) by omega), dec_true (show (0 : Int) ≤ (v.length : Int) by omega), dec_true (Int.le_refl (v.length : Int)),
          Bool.and_true, Bool.not_true, cond_true, cond_false, IntWalk.i64_in (i + 1 : Int) (by omega)]
        rfl
    · simp only
      rw [List.length_eraseIdx_of_lt (by omega)]
      omega
  · refine .inl ?_
    have e : i = l.length := by omega
    subst e
    have : v = [] := List.length_eq_zero_iff.1 (by omega)
    subst this
    simp only [Tr.get, dec_false (show ¬ ((l.length : Int) < l.length) by omega), cond_false]
/-- derricklaw18.NetworkTurn -/
def t10 (l : List ((Int × Int) × ((Int × Int) × List UInt8))) (tu : List Int) : Tr Res := Tr.br (decide ((↑(List.length l) : Int) > (60 : Int))) (Tr.ret ([AV.bool ((0 : Int) == (0 : Int))], [])) (Tr.br (fits (0 + List.length l) 32) (Tr.br (ta l (0 : Int) (100 : Int) (0 : Int) (0 : Int) []) (Tr.br (tb l tu (0 : Int) l ([] ++ l)) (Tr.ret ([AV.bool ((↑(List.length l) : Int) == (↑(List.length l) : Int))], [])) Tr.no) Tr.no) Tr.no)
def os10 : OSpec := { f := 10, sh := [.d (.list PK) false, .d (.list (.int .u8)) false], so := [], F := fun (l, tu, _) _ => t10 l tu }
theorem fn10 (l : List ((Int × Int) × ((Int × Int) × List UInt8))) (tu : List Int) : evC T0 (orcB [] [os28, os29, os33, os31, os30, os32, os27, os34o, os36o]) (lpOf h10 0 (lsOf [ls10a, ls10b])) c10 1000000 (startSt [.list PK l, .list (.int .u8) tu] [] Try.f10.ntmps) (finishK T0 false 0 Try.f10) = (t10 l tu).get := by kernel_rfl
theorem ok10 : os10.Ok Try.prog := by
  refine os_ok mixed0 tab0 (orcB_sound all_nil (all_cons ok28 (all_cons ok29 (all_cons ok33 (all_cons ok31 (all_cons ok30 (all_cons ok32 (all_cons ok27 (all_cons ok34o (all_cons ok36o all_nil)))))))))) h10 (d := 0) (n0 := 0) (S := lsOf [ls10a, ls10b]) Try.func10 (by kernel_rfl) (c := c10) (by kernel_rfl) rfl (loops_eq (xs := [(0, b10a), (2, b10b)]) (by kernel_rfl) (all_cons (ls_here loop10a) (all_cons (ls_skip (by kernel_rfl) (ls_here loop10b)) all_nil))) (by omega) (by kernel_rfl) ?_
  intro x'' y'' q'' hq''
  obtain ⟨(l : List ((Int × Int) × ((Int × Int) × List UInt8))), (tu : List Int), _⟩ := x''
  exact (fn10 l tu).trans hq''
theorem okT_tu {tu : List Int} (h : okT (.list (.int .u8)) tu) : tuOk tu = true := by
  refine List.all_eq_true.2 fun x hx => ?_
  have := h.2 x hx
  have hx2 : 0 ≤ x ∧ x ≤ 255 := by simpa [okT, Lit.wf, IntKind.min, IntKind.max, IntKind.signed, IntKind.bits] using this
  simp only [Bool.and_eq_true, decide_eq_true_eq]
  omega
theorem sem10 (l : NW) (tu : List Int) (h : okT (.list (.int .u8)) tu) : SemF Try.prog 10 [.list PK l, .list (.int .u8) tu] [] [.bool true] [] := by
  refine ok10 (l, tu, ()) () ([.bool true], []) ?_
  show (t10 l tu).get = _
  unfold t10
  simp only [Tr.get]
  by_cases h60 : l.length > 60
  · rw [dec_true (show (l.length : Int) > 60 by omega)]
    rfl
  · rw [dec_false (show ¬ (l.length : Int) > 60 by omega), fits32 (by omega), show ta l 0 100 0 0 [] = true by simp [ta]; omega, show tb l tu 0 l ([] ++ l) = true by simp [tb, okT_tu h]; omega]
    simp

end Go.Proofs.YtgiofacmcpakoaaE
