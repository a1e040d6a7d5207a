import Derived.Test.YtpledbapngdkeaaPAskLate3
import Derived.Test.YtpledbapngdkeaaRows
import Derived.WalkKit
import Derived.ProofKit
import Derived.OpenShut
import Derived.ShutString
import Derived.ChangeOld
import Derived.Below
import Derived.Carry
import Derived.SizedLaws
set_option maxRecDepth 1000000
namespace Go.Proofs.YtpledbapngdkeaaE
open Go Go.Proofs.YtpledbapngdkeaaB
set_option linter.unusedVariables false
set_option linter.unusedSimpArgs false
def t49 (a b : Int) : Tr Res := .br (decide (IntKind.wrap .u64 b > IntKind.wrap .u64 (18446744073709551615 - a))) (.ret ([.int .u64 18446744073709551615], [])) (.ret ([.int .u64 (IntKind.wrap .u64 (a + IntKind.wrap .u64 b))], []))
def os49 : OSpec := { f := 49, sh := [.d (.int .u64) false, .d (.int .u32) false], so := [], F := fun (a, b, _) _ => t49 a b }
theorem fn49 (a b : Int) : evC T0 (orcB [] []) (lpOf h49 0 (lsOf [])) c49 1000000 (startSt [.int .u64 a, .int .u32 b] [] Try.f49.ntmps) (finishK T0 false 0 Try.f49) = (t49 a b).get := by kernel_rfl
theorem ok49 : os49.Ok Try.prog := by
 refine os_ok mixed0 tab0 (orcB_sound all_nil all_nil) h49 (d := 0) (n0 := 0) (S := lsOf []) Try.func49 (by kernel_rfl) (c := c49) (by kernel_rfl) rfl (no_loops (by kernel_rfl)) (by omega) (by kernel_rfl) ?_
 intro x'' y'' q'' hq''
 obtain ⟨(a : Int), (b : Int), _⟩ := x''
 exact (fn49 a b).trans hq''
def fs49 : FSpec := fsT 49 [((.int .u64), false), ((.int .u32), false)] [((.int .u64), false)] fun (a, b, _) => t49 a b
theorem okf49 : fs49.Ok Try.prog := fsT_ok fun x'' r'' hr'' => ok49 x'' () r'' hr''
def t48 (a b : Int) : Tr Res := .ret ([.bool (decide (a > b))], [])
def os48 : OSpec := { f := 48, sh := [.d (.int .u64) false, .d (.int .u64) false], so := [], F := fun (a, b, _) _ => t48 a b }
theorem fn48 (a b : Int) : evC T0 (orcB [] []) (lpOf h48 0 (lsOf [])) c48 1000000 (startSt [.int .u64 a, .int .u64 b] [] Try.f48.ntmps) (finishK T0 false 0 Try.f48) = (t48 a b).get := by kernel_rfl
theorem ok48 : os48.Ok Try.prog := by
 refine os_ok mixed0 tab0 (orcB_sound all_nil all_nil) h48 (d := 0) (n0 := 0) (S := lsOf []) Try.func48 (by kernel_rfl) (c := c48) (by kernel_rfl) rfl (no_loops (by kernel_rfl)) (by omega) (by kernel_rfl) ?_
 intro x'' y'' q'' hq''
 obtain ⟨(a : Int), (b : Int), _⟩ := x''
 exact (fn48 a b).trans hq''
def fs48 : FSpec := fsT 48 [((.int .u64), false), ((.int .u64), false)] [(.bool, false)] fun (a, b, _) => t48 a b
theorem okf48 : fs48.Ok Try.prog := fsT_ok fun x'' r'' hr'' => ok48 x'' () r'' hr''
def t47 (x : (Int × (Int × ((Int × Int) × (QQt × QQt))))) (limit now : Int) : Tr Res := .br (decide (IntKind.wrap .u64 limit > IntKind.wrap .u64 (18446744073709551615 - x.2.2.2.2.2.2))) (.ret ([.bool !decide (18446744073709551615 > now)], [.boxT none [.int .u32 limit], .boxT none [.int .u64 now]])) (.ret ([.bool !decide (IntKind.wrap .u64 (x.2.2.2.2.2.2 + IntKind.wrap .u64 limit) > now)], [.boxT none [.int .u32 limit], .boxT none [.int .u64 now]]))
def os47 : OSpec := { f := 47, sh := [.d QR true, .ptr 0 0, .ptr 1 0], so := [.box [.d (.int .u32) false], .box [.d (.int .u64) false]], F := fun (x, _) ((limit, _), (now, _), _) => t47 x limit now }
theorem fn47 (x : (Int × (Int × ((Int × Int) × (QQt × QQt))))) (limit now : Int) : evC T0 (orcB [fs49, fs48] []) (lpOf h47 2 (lsOf [])) c47 1000000 (startSt [AV.ofTy QR x true, .ptr 0 0, .ptr 1 0] [.box [.int .u32 limit], .box [.int .u64 now]] Try.f47.ntmps) (finishK T0 false 2 Try.f47) = (t47 x limit now).get := by kernel_rfl
theorem ok47 : os47.Ok Try.prog := by
 refine os_ok mixed0 tab0 (orcB_sound (all_cons okf49 (all_cons okf48 all_nil)) all_nil) h47 (d := 0) (n0 := 2) (S := lsOf []) Try.func47 (by kernel_rfl) (c := c47) (by kernel_rfl) rfl (no_loops (by kernel_rfl)) (by omega) (by kernel_rfl) ?_
 intro x'' y'' q'' hq''
 obtain ⟨(x : (Int × (Int × ((Int × Int) × (QQt × QQt))))), _⟩ := x''
 obtain ⟨⟨(limit : Int), _⟩, ⟨(now : Int), _⟩, _⟩ := y''
 exact (fn47 x limit now).trans hq''
def t54 (x : (Int × (Int × ((Int × Int) × (QQt × QQt))))) (who : Int) : Tr Res := .ret ([.bool (x.2.2.2.2.2.1 == who)], [.boxT none [.int .i64 who]])
def os54 : OSpec := { f := 54, sh := [.d QR true, .ptr 0 0], so := [.box [.d (.int .i64) false]], F := fun (x, _) ((who, _), _) => t54 x who }
theorem fn54 (x : (Int × (Int × ((Int × Int) × (QQt × QQt))))) (who : Int) : evC T0 (orcB [fs49, fs48] []) (lpOf h54 1 (lsOf [])) c54 1000000 (startSt [AV.ofTy QR x true, .ptr 0 0] [.box [.int .i64 who]] Try.f54.ntmps) (finishK T0 false 1 Try.f54) = (t54 x who).get := by kernel_rfl
theorem ok54 : os54.Ok Try.prog := by
 refine os_ok mixed0 tab0 (orcB_sound (all_cons okf49 (all_cons okf48 all_nil)) all_nil) h54 (d := 0) (n0 := 1) (S := lsOf []) Try.func54 (by kernel_rfl) (c := c54) (by kernel_rfl) rfl (no_loops (by kernel_rfl)) (by omega) (by kernel_rfl) ?_
 intro x'' y'' q'' hq''
 obtain ⟨(x : (Int × (Int × ((Int × Int) × (QQt × QQt))))), _⟩ := x''
 obtain ⟨⟨(who : Int), _⟩, _⟩ := y''
 exact (fn54 x who).trans hq''
def untilF (a b : Int) : Int := bif decide (IntKind.wrap IntKind.u64 b > IntKind.wrap IntKind.u64 (18446744073709551615 - a)) then 18446744073709551615 else IntKind.wrap IntKind.u64 (a + IntKind.wrap IntKind.u64 b)
def lateB (now limit : Int) (q : QRt) : Bool := !decide (untilF q.2.2.2.2.2.2 limit > now)
def whoB (who : Int) (q : QRt) : Bool := q.2.2.2.2.2.1 == who
def akS (all w : List QRt) (m i : Int) : Bool := Nat.ble all.length 1000 && (decide (w = []) && (decide (m = (all.length : Int)) && decide (i = 0)))
noncomputable def b46l : Code := nthLoop c46 0
def ls46l : LoopSpec := { bid := 0, sh := [.fnp 47 [(2, 0), (3, 0)], .row 4, .row 1, .d (.int .i64) false, .d (.int .i64) false], so := [.box [.d (.int .u32) false, .d (.int .i64) false, .row 1], .row QR, .box [.d (.int .u32) false], .box [.d (.int .u64) false], .row QR], F := fun (m, i, _) ((host, room, _), all, (limit, _), (now, _), w, _) => .on (akS all w m i) (.exit 0, [.rowA 4], [.box [.int .u32 host, .int .i64 room, .rowA 1], .row QR all, .box [.int .u32 limit], .box [.int .u64 now], .row QR (all.filter (lateB now limit))]) }
def r46l (m i host room : Int) (all : List (Int × (Int × ((Int × Int) × (QQt × QQt))))) (limit now : Int) (w : List (Int × (Int × ((Int × Int) × (QQt × QQt))))) : Tr (St ⊕ (Ex × St)) := .br (decide (i < m)) (.br (decide (0 ≤ i)) (.br (decide (i < (↑all.length : Int))) (.br (decide (IntKind.wrap .u64 limit > IntKind.wrap .u64 (18446744073709551615 - (all.getD i.toNat (Ty.dflt QR)).2.2.2.2.2.2))) (.br (!decide (18446744073709551615 > now)) (.br (fits (List.length w + 1) 72) (.ret (.inl (stOf [1, 5, 13, 14, 15] [AV.fn 47 [.ptr 2 0, .ptr 3 0], .rowA 4, .rowA 1, .int .i64 m, .int .i64 (IntKind.wrap .i64 (i + 1))] [.boxT none [.int .u32 host, .int .i64 room, .rowA 1], .row QR all, .boxT none [.int .u32 limit], .boxT none [.int .u64 now], .row QR (w ++ [List.getD all i.toNat (Ty.dflt QR)])]))) .no) (.ret (.inl (stOf [1, 5, 13, 14, 15] [AV.fn 47 [.ptr 2 0, .ptr 3 0], .rowA 4, .rowA 1, .int .i64 m, .int .i64 (IntKind.wrap .i64 (i + 1))] [.boxT none [.int .u32 host, .int .i64 room, .rowA 1], .row QR all, .boxT none [.int .u32 limit], .boxT none [.int .u64 now], .row QR w])))) (.br (!decide (IntKind.wrap .u64 ((all.getD i.toNat (Ty.dflt QR)).2.2.2.2.2.2 + IntKind.wrap .u64 limit) > now)) (.br (fits (List.length w + 1) 72) (.ret (.inl (stOf [1, 5, 13, 14, 15] [AV.fn 47 [.ptr 2 0, .ptr 3 0], .rowA 4, .rowA 1, .int .i64 m, .int .i64 (IntKind.wrap .i64 (i + 1))] [.boxT none [.int .u32 host, .int .i64 room, .rowA 1], .row QR all, .boxT none [.int .u32 limit], .boxT none [.int .u64 now], .row QR (w ++ [List.getD all i.toNat (Ty.dflt QR)])]))) .no) (.ret (.inl (stOf [1, 5, 13, 14, 15] [AV.fn 47 [.ptr 2 0, .ptr 3 0], .rowA 4, .rowA 1, .int .i64 m, .int .i64 (IntKind.wrap .i64 (i + 1))] [.boxT none [.int .u32 host, .int .i64 room, .rowA 1], .row QR all, .boxT none [.int .u32 limit], .boxT none [.int .u64 now], .row QR w]))))) .no) .no) (.ret (.inr (.exit 0, stOf [5] [.rowA 4] [.boxT none [.int .u32 host, .int .i64 room, .rowA 1], .row QR all, .boxT none [.int .u32 limit], .boxT none [.int .u64 now], .row QR w])))
theorem round46l (lp : Lp) (m i host room : Int) (all : List (Int × (Int × ((Int × Int) × (QQt × QQt))))) (limit now : Int) (w : List (Int × (Int × ((Int × Int) × (QQt × QQt))))) : evC T0 (orcB [] [os47, os54]) lp b46l 0 (stOf [1, 5, 13, 14, 15] [.fn 47 [.ptr 2 0, .ptr 3 0], .rowA 4, .rowA 1, .int .i64 m, .int .i64 i] [.box [.int .u32 host, .int .i64 room, .rowA 1], .row QR all, .box [.int .u32 limit], .box [.int .u64 now], .row QR w]) (roundK [1, 5, 13, 14, 15] [5] 4) = (r46l m i host room all limit now w).get := by kernel_rfl
theorem wf46l (m host room : Int) (all : List (Int × (Int × ((Int × Int) × (QQt × QQt))))) (limit now : Int) (I'' : List (Int × (Int × ((Int × Int) × (QQt × QQt)))) → Int → Prop) (m'' : List (Int × (Int × ((Int × Int) × (QQt × QQt)))) → Int → Nat) (r'' : Ex × St) (h : ∀ (w : List (Int × (Int × ((Int × Int) × (QQt × QQt))))) (i : Int), I'' w i → (r46l m i host room all limit now w).all fun x'' => x'' = .inr r'' ∨ ∃ (w' : List (Int × (Int × ((Int × Int) × (QQt × QQt))))) (i' : Int), x'' = .inl (stOf [1, 5, 13, 14, 15] [.fn 47 [.ptr 2 0, .ptr 3 0], .rowA 4, .rowA 1, .int .i64 m, .int .i64 i'] [.box [.int .u32 host, .int .i64 room, .rowA 1], .row QR all, .box [.int .u32 limit], .box [.int .u64 now], .row QR w']) ∧ I'' w' i' ∧ m'' w' i' < m'' w i) (lp : Lp) (w : List (Int × (Int × ((Int × Int) × (QQt × QQt))))) (i : Int) : I'' w i →
    loopF (fun st => evC T0 (orcB [] [os47, os54]) lp b46l 0 st (roundK [1, 5, 13, 14, 15] [5] 4)) (stOf [1, 5, 13, 14, 15] [.fn 47 [.ptr 2 0, .ptr 3 0], .rowA 4, .rowA 1, .int .i64 m, .int .i64 i] [.box [.int .u32 host, .int .i64 room, .rowA 1], .row QR all, .box [.int .u32 limit], .box [.int .u64 now], .row QR w]) = some r'' :=
 loop_tr (fun a'' : List (Int × (Int × ((Int × Int) × (QQt × QQt)))) × Int => stOf [1, 5, 13, 14, 15] [.fn 47 [.ptr 2 0, .ptr 3 0], .rowA 4, .rowA 1, .int .i64 m, .int .i64 a''.2] [.box [.int .u32 host, .int .i64 room, .rowA 1], .row QR all, .box [.int .u32 limit], .box [.int .u64 now], .row QR a''.1]) (fun a'' => I'' a''.1 a''.2) (fun a'' => m'' a''.1 a''.2) r'' (fun a'' => r46l m a''.2 host room all limit now a''.1)
  (fun a'' x hx => (round46l lp m a''.2 host room all limit now a''.1).trans hx) (fun a'' ha => Tr.all_mono (fun x'' hx => hx.imp id fun ⟨w', i', h1, h2, h3⟩ => ⟨(w', i'), h1, h2, h3⟩) (h (a''.1) (a''.2) ha)) (w, i)
noncomputable def b46o : Code := nthLoop c46 0
def ls46o : LoopSpec := { bid := 0, sh := [.fnp 54 [(2, 0)], .row 3, .row 1, .d (.int .i64) false, .d (.int .i64) false], so := [.box [.d (.int .u32) false, .d (.int .i64) false, .row 1], .row QR, .box [.d (.int .i64) false], .row QR], F := fun (m, i, _) ((host, room, _), all, (who, _), w, _) => .on (akS all w m i) (.exit 0, [.rowA 3], [.box [.int .u32 host, .int .i64 room, .rowA 1], .row QR all, .box [.int .i64 who], .row QR (all.filter (whoB who))]) }
def r46o (m i host room : Int) (all : List (Int × (Int × ((Int × Int) × (QQt × QQt))))) (who : Int) (w : List (Int × (Int × ((Int × Int) × (QQt × QQt))))) : Tr (St ⊕ (Ex × St)) := .br (decide (i < m)) (.br (decide (0 ≤ i)) (.br (decide (i < (↑all.length : Int))) (.br ((all.getD i.toNat (Ty.dflt QR)).2.2.2.2.2.1 == who) (.br (fits (List.length w + 1) 72) (.ret (.inl (stOf [1, 5, 13, 14, 15] [AV.fn 54 [.ptr 2 0], .rowA 3, .rowA 1, .int .i64 m, .int .i64 (IntKind.wrap .i64 (i + 1))] [.boxT none [.int .u32 host, .int .i64 room, .rowA 1], .row QR all, .boxT none [.int .i64 who], .row QR (w ++ [List.getD all i.toNat (Ty.dflt QR)])]))) .no) (.ret (.inl (stOf [1, 5, 13, 14, 15] [AV.fn 54 [.ptr 2 0], .rowA 3, .rowA 1, .int .i64 m, .int .i64 (IntKind.wrap .i64 (i + 1))] [.boxT none [.int .u32 host, .int .i64 room, .rowA 1], .row QR all, .boxT none [.int .i64 who], .row QR w])))) .no) .no) (.ret (.inr (.exit 0, stOf [5] [.rowA 3] [.boxT none [.int .u32 host, .int .i64 room, .rowA 1], .row QR all, .boxT none [.int .i64 who], .row QR w])))
theorem round46o (lp : Lp) (m i host room : Int) (all : List (Int × (Int × ((Int × Int) × (QQt × QQt))))) (who : Int) (w : List (Int × (Int × ((Int × Int) × (QQt × QQt))))) : evC T0 (orcB [] [os47, os54]) lp b46o 0 (stOf [1, 5, 13, 14, 15] [.fn 54 [.ptr 2 0], .rowA 3, .rowA 1, .int .i64 m, .int .i64 i] [.box [.int .u32 host, .int .i64 room, .rowA 1], .row QR all, .box [.int .i64 who], .row QR w]) (roundK [1, 5, 13, 14, 15] [5] 3) = (r46o m i host room all who w).get := by kernel_rfl
theorem wf46o (m host room : Int) (all : List (Int × (Int × ((Int × Int) × (QQt × QQt))))) (who : Int) (I'' : List (Int × (Int × ((Int × Int) × (QQt × QQt)))) → Int → Prop) (m'' : List (Int × (Int × ((Int × Int) × (QQt × QQt)))) → Int → Nat) (r'' : Ex × St) (h : ∀ (w : List (Int × (Int × ((Int × Int) × (QQt × QQt))))) (i : Int), I'' w i → (r46o m i host room all who w).all fun x'' => x'' = .inr r'' ∨ ∃ (w' : List (Int × (Int × ((Int × Int) × (QQt × QQt))))) (i' : Int), x'' = .inl (stOf [1, 5, 13, 14, 15] [.fn 54 [.ptr 2 0], .rowA 3, .rowA 1, .int .i64 m, .int .i64 i'] [.box [.int .u32 host, .int .i64 room, .rowA 1], .row QR all, .box [.int .i64 who], .row QR w']) ∧ I'' w' i' ∧ m'' w' i' < m'' w i) (lp : Lp) (w : List (Int × (Int × ((Int × Int) × (QQt × QQt))))) (i : Int) : I'' w i →
    loopF (fun st => evC T0 (orcB [] [os47, os54]) lp b46o 0 st (roundK [1, 5, 13, 14, 15] [5] 3)) (stOf [1, 5, 13, 14, 15] [.fn 54 [.ptr 2 0], .rowA 3, .rowA 1, .int .i64 m, .int .i64 i] [.box [.int .u32 host, .int .i64 room, .rowA 1], .row QR all, .box [.int .i64 who], .row QR w]) = some r'' :=
 loop_tr (fun a'' : List (Int × (Int × ((Int × Int) × (QQt × QQt)))) × Int => stOf [1, 5, 13, 14, 15] [.fn 54 [.ptr 2 0], .rowA 3, .rowA 1, .int .i64 m, .int .i64 a''.2] [.box [.int .u32 host, .int .i64 room, .rowA 1], .row QR all, .box [.int .i64 who], .row QR a''.1]) (fun a'' => I'' a''.1 a''.2) (fun a'' => m'' a''.1 a''.2) r'' (fun a'' => r46o m a''.2 host room all who a''.1)
  (fun a'' x hx => (round46o lp m a''.2 host room all who a''.1).trans hx) (fun a'' ha => Tr.all_mono (fun x'' hx => hx.imp id fun ⟨w', i', h1, h2, h3⟩ => ⟨(w', i'), h1, h2, h3⟩) (h (a''.1) (a''.2) ha)) (w, i)
theorem fil_step {α : Type} {p : α → Bool} {l : List α} {k : Nat} (d : α) (h : k < l.length) : (l.take (k + 1)).filter p = bif p (l.getD k d) then (l.take k).filter p ++ [l.getD k d] else (l.take k).filter p := by
 rw [List.take_add_one, List.getElem?_eq_getElem h, List.filter_append, List.getD_eq_getElem?_getD, List.getElem?_eq_getElem h]
 cases hp : p l[k] <;> simp [hp]
theorem fil_le {α : Type} {p : α → Bool} {l : List α} (k : Nat) : ((l.take k).filter p).length ≤ l.length := Nat.le_trans (List.length_filter_le ..) (by rw [List.length_take]; omega)
theorem loop46o : ls46o.Ok T0 (orcB [] [os47, os54]) h46 3 0 b46o := by
 intro q'' hq'' x'' y'' r'' h
 obtain ⟨(m : Int), (i : Int), _⟩ := x''
 obtain ⟨⟨(host : Int), (room : Int), _⟩, (all : List (Int × (Int × ((Int × Int) × (QQt × QQt))))), ⟨(who : Int), _⟩, (w : List (Int × (Int × ((Int × Int) × (QQt × QQt))))), _⟩ := y''
 obtain ⟨hc, rfl⟩ := Tr.get_on h
 show loopF (fun st => evC T0 (orcB [] [os47, os54]) (lpN T0 (orcB [] [os47, os54]) h46 3 q'') b46o 0 st (roundK [1, 5, 13, 14, 15] [5] 3)) (stOf [1, 5, 13, 14, 15] [.fn 54 [.ptr 2 0], .rowA 3, .rowA 1, .int .i64 m, .int .i64 i] [.box [.int .u32 host, .int .i64 room, .rowA 1], .row QR all, .box [.int .i64 who], .row QR w]) = some (.exit 0, stOf [5] ([.rowA 3]) ([.box [.int .u32 host, .int .i64 room, .rowA 1], .row QR all, .box [.int .i64 who], .row QR (all.filter (whoB who))]))
 simp only [akS, Bool.and_eq_true, decide_eq_true_eq] at hc
 obtain ⟨hl, rfl, rfl, rfl⟩ := hc
 have hl := Nat.le_of_ble_eq_true hl
 refine wf46o all.length host room all who (fun w i => 0 ≤ i ∧ i ≤ all.length ∧ w = (all.take i.toNat).filter (whoB who)) (fun w i => (all.length - i).toNat) _ ?_ _ [] 0 ⟨by omega, by omega, rfl⟩
 rintro w i ⟨h0, h1, rfl⟩
 unfold r46o
 rw [wrap_succ h0 h1 (by omega)]
 by_cases hi : i < all.length
 · have hs := fil_step (p := whoB who) (l := all) (k := i.toNat) (Ty.dflt QR) (by omega)
   have hf := fil_le (p := whoB who) (l := all) i.toNat
   generalize all.getD i.toNat (Ty.dflt QR) = x at *
   refine Tr.all_t (dec_true hi) (Tr.all_t (dec_true h0) (Tr.all_t (dec_true hi) (Tr.all_br (fun h => ?_) (fun h => ?_))))
   · rw [show whoB who x = true from h, cond_true] at hs
     refine Tr.all_t (fits_true (by omega) (by omega)) (Tr.all_ret (.inr ⟨_, _, rfl, ⟨by omega, by omega, ?_⟩, by omega⟩))
     rw [show (i + 1).toNat = i.toNat + 1 by omega, hs]
   · rw [show whoB who x = false from h, cond_false] at hs
     refine Tr.all_ret (.inr ⟨_, _, rfl, ⟨by omega, by omega, ?_⟩, by omega⟩)
     rw [show (i + 1).toNat = i.toNat + 1 by omega, hs]
 · refine Tr.all_f (dec_false hi) (Tr.all_ret (.inl ?_))
   rw [List.take_of_length_le (by omega)]
theorem loop46l : ls46l.Ok T0 (orcB [] [os47, os54]) h46 4 0 b46l := by
 intro q'' hq'' x'' y'' r'' h
 obtain ⟨(m : Int), (i : Int), _⟩ := x''
 obtain ⟨⟨(host : Int), (room : Int), _⟩, (all : List (Int × (Int × ((Int × Int) × (QQt × QQt))))), ⟨(limit : Int), _⟩, ⟨(now : Int), _⟩, (w : List (Int × (Int × ((Int × Int) × (QQt × QQt))))), _⟩ := y''
 obtain ⟨hc, rfl⟩ := Tr.get_on h
 show loopF (fun st => evC T0 (orcB [] [os47, os54]) (lpN T0 (orcB [] [os47, os54]) h46 4 q'') b46l 0 st (roundK [1, 5, 13, 14, 15] [5] 4)) (stOf [1, 5, 13, 14, 15] [.fn 47 [.ptr 2 0, .ptr 3 0], .rowA 4, .rowA 1, .int .i64 m, .int .i64 i] [.box [.int .u32 host, .int .i64 room, .rowA 1], .row QR all, .box [.int .u32 limit], .box [.int .u64 now], .row QR w]) = some (.exit 0, stOf [5] ([.rowA 4]) ([.box [.int .u32 host, .int .i64 room, .rowA 1], .row QR all, .box [.int .u32 limit], .box [.int .u64 now], .row QR (all.filter (lateB now limit))]))
 simp only [akS, Bool.and_eq_true, decide_eq_true_eq] at hc
 obtain ⟨hl, rfl, rfl, rfl⟩ := hc
 have hl := Nat.le_of_ble_eq_true hl
 refine wf46l all.length host room all limit now (fun w i => 0 ≤ i ∧ i ≤ all.length ∧ w = (all.take i.toNat).filter (lateB now limit)) (fun w i => (all.length - i).toNat) _ ?_ _ [] 0 ⟨by omega, by omega, rfl⟩
 rintro w i ⟨h0, h1, rfl⟩
 unfold r46l
 rw [wrap_succ h0 h1 (by omega)]
 by_cases hi : i < all.length
 · have hs := fil_step (p := lateB now limit) (l := all) (k := i.toNat) (Ty.dflt QR) (by omega)
   have hf := fil_le (p := lateB now limit) (l := all) i.toNat
   generalize all.getD i.toNat (Ty.dflt QR) = x at *
   have hT : ∀ b : Bool, lateB now limit x = b → (all.take (i.toNat + 1)).filter (lateB now limit) = bif b then (all.take i.toNat).filter (lateB now limit) ++ [x] else (all.take i.toNat).filter (lateB now limit) := fun b hb => by rw [hs, hb]
   refine Tr.all_t (dec_true hi) (Tr.all_t (dec_true h0) (Tr.all_t (dec_true hi) (Tr.all_br (fun hu => Tr.all_br (fun h => ?_) (fun h => ?_)) (fun hu => Tr.all_br (fun h => ?_) (fun h => ?_)))))
   · have hT := hT true (by unfold lateB untilF; rw [hu]; exact h)
     simp only [cond_true] at hT
     refine Tr.all_t (fits_true (by omega) (by omega)) (Tr.all_ret (.inr ⟨_, _, rfl, ⟨by omega, by omega, ?_⟩, by omega⟩))
     rw [show (i + 1).toNat = i.toNat + 1 by omega, hT]
   · have hT := hT false (by unfold lateB untilF; rw [hu]; exact h)
     simp only [cond_false] at hT
     refine Tr.all_ret (.inr ⟨_, _, rfl, ⟨by omega, by omega, ?_⟩, by omega⟩)
     rw [show (i + 1).toNat = i.toNat + 1 by omega, hT]
   · have hT := hT true (by unfold lateB untilF; rw [hu]; exact h)
     simp only [cond_true] at hT
     refine Tr.all_t (fits_true (by omega) (by omega)) (Tr.all_ret (.inr ⟨_, _, rfl, ⟨by omega, by omega, ?_⟩, by omega⟩))
     rw [show (i + 1).toNat = i.toNat + 1 by omega, hT]
   · have hT := hT false (by unfold lateB untilF; rw [hu]; exact h)
     simp only [cond_false] at hT
     refine Tr.all_ret (.inr ⟨_, _, rfl, ⟨by omega, by omega, ?_⟩, by omega⟩)
     rw [show (i + 1).toNat = i.toNat + 1 by omega, hT]
 · refine Tr.all_f (dec_false hi) (Tr.all_ret (.inl ?_))
   rw [List.take_of_length_le (by omega)]
def t46l (host room : Int) (all : List (Int × (Int × ((Int × Int) × (QQt × QQt))))) (limit now : Int) : Tr Res := .br (akS all [] (↑all.length : Int) 0) (.ret ([.list QR (List.filter (lateB now limit) all)], [.boxT none [.int .u32 host, .int .i64 room, .rowA 1], .row QR all, .boxT none [.int .u32 limit], .boxT none [.int .u64 now]])) .no
def os46l : OSpec := { f := 46, sh := [.ptr 0 0, .fnp 47 [(2, 0), (3, 0)]], so := [.box [.d (.int .u32) false, .d (.int .i64) false, .row 1], .row QR, .box [.d (.int .u32) false], .box [.d (.int .u64) false]], F := fun _ ((host, room, _), all, (limit, _), (now, _), _) => t46l host room all limit now }
theorem fn46l (host room : Int) (all : List (Int × (Int × ((Int × Int) × (QQt × QQt))))) (limit now : Int) : evC T0 (orcB [] [os47, os54]) (lpOf h46 4 (lsOf [ls46l])) c46 1000000 (startSt [.ptr 0 0, .fn 47 [.ptr 2 0, .ptr 3 0]] [.box [.int .u32 host, .int .i64 room, .rowA 1], .row QR all, .box [.int .u32 limit], .box [.int .u64 now]] Try.f46.ntmps) (finishK T0 false 4 Try.f46) = (t46l host room all limit now).get := by kernel_rfl
theorem ok46l : os46l.Ok Try.prog := by
 refine os_ok mixed0 tab0 (orcB_sound all_nil (all_cons ok47 (all_cons ok54 all_nil))) h46 (d := 0) (n0 := 4) (S := lsOf [ls46l]) Try.func46 (by kernel_rfl) (c := c46) (by kernel_rfl) rfl (loops_eq (xs := [(0, b46l)]) (by kernel_rfl) (all_cons (ls_here loop46l) all_nil)) (by omega) (by kernel_rfl) ?_
 intro x'' y'' q'' hq''
 obtain ⟨⟨(host : Int), (room : Int), _⟩, (all : List (Int × (Int × ((Int × Int) × (QQt × QQt))))), ⟨(limit : Int), _⟩, ⟨(now : Int), _⟩, _⟩ := y''
 exact (fn46l host room all limit now).trans hq''
def t46o (host room : Int) (all : List (Int × (Int × ((Int × Int) × (QQt × QQt))))) (who : Int) : Tr Res := .br (akS all [] (↑all.length : Int) 0) (.ret ([.list QR (List.filter (whoB who) all)], [.boxT none [.int .u32 host, .int .i64 room, .rowA 1], .row QR all, .boxT none [.int .i64 who]])) .no
def os46o : OSpec := { f := 46, sh := [.ptr 0 0, .fnp 54 [(2, 0)]], so := [.box [.d (.int .u32) false, .d (.int .i64) false, .row 1], .row QR, .box [.d (.int .i64) false]], F := fun _ ((host, room, _), all, (who, _), _) => t46o host room all who }
theorem fn46o (host room : Int) (all : List (Int × (Int × ((Int × Int) × (QQt × QQt))))) (who : Int) : evC T0 (orcB [] [os47, os54]) (lpOf h46 3 (lsOf [ls46o])) c46 1000000 (startSt [.ptr 0 0, .fn 54 [.ptr 2 0]] [.box [.int .u32 host, .int .i64 room, .rowA 1], .row QR all, .box [.int .i64 who]] Try.f46.ntmps) (finishK T0 false 3 Try.f46) = (t46o host room all who).get := by kernel_rfl
theorem ok46o : os46o.Ok Try.prog := by
 refine os_ok mixed0 tab0 (orcB_sound all_nil (all_cons ok47 (all_cons ok54 all_nil))) h46 (d := 0) (n0 := 3) (S := lsOf [ls46o]) Try.func46 (by kernel_rfl) (c := c46) (by kernel_rfl) rfl (loops_eq (xs := [(0, b46o)]) (by kernel_rfl) (all_cons (ls_here loop46o) all_nil)) (by omega) (by kernel_rfl) ?_
 intro x'' y'' q'' hq''
 obtain ⟨⟨(host : Int), (room : Int), _⟩, (all : List (Int × (Int × ((Int × Int) × (QQt × QQt))))), ⟨(who : Int), _⟩, _⟩ := y''
 exact (fn46o host room all who).trans hq''
def ls46q : LoopSpec := { bid := 0, sh := [], so := [], F := fun _ _ => .no }
theorem loop46q (orc : Orc) : ls46q.Ok T0 orc h46 2 0 b46l := by
 intro n hn x y r h
 cases h
def t46z (limit now : Int) : Tr Res := .ret ([.list QR []], [.boxT none [.int .u32 limit], .boxT none [.int .u64 now]])
def os46z : OSpec := { f := 46, sh := [.np, .fnp 47 [(0, 0), (1, 0)]], so := [.box [.d (.int .u32) false], .box [.d (.int .u64) false]], F := fun _ ((limit, _), (now, _), _) => t46z limit now }
theorem fn46z (limit now : Int) : evC T0 (orcB [] [os47, os54]) (lpOf h46 2 (lsOf [ls46q])) c46 1000000 (startSt [.np, .fn 47 [.ptr 0 0, .ptr 1 0]] [.box [.int .u32 limit], .box [.int .u64 now]] Try.f46.ntmps) (finishK T0 false 2 Try.f46) = (t46z limit now).get := by kernel_rfl
theorem ok46z : os46z.Ok Try.prog := by
 refine os_ok mixed0 tab0 (orcB_sound all_nil (all_cons ok47 (all_cons ok54 all_nil))) h46 (d := 0) (n0 := 2) (S := lsOf [ls46q]) Try.func46 (by kernel_rfl) (c := c46) (by kernel_rfl) rfl (loops_eq (xs := [(0, b46l)]) (by kernel_rfl) (all_cons (ls_here (loop46q _)) all_nil)) (by omega) (by kernel_rfl) ?_
 intro x'' y'' q'' hq''
 obtain ⟨⟨(limit : Int), _⟩, ⟨(now : Int), _⟩, _⟩ := y''
 exact (fn46z limit now).trans hq''
def t21 (now limit host room : Int) (all : List (Int × (Int × ((Int × Int) × (QQt × QQt))))) : Tr Res := .br (akS all [] (↑all.length : Int) 0) (.ret ([.list QR (List.filter (lateB now limit) all)], [.boxT none [.int .u32 host, .int .i64 room, .rowA 1], .row QR all])) .no
def os21 : OSpec := { f := 21, sh := [.ptr 0 0, .d (.int .u64) false, .d (.int .u32) false], so := [.box [.d (.int .u32) false, .d (.int .i64) false, .row 1], .row QR], F := fun (now, limit, _) ((host, room, _), all, _) => t21 now limit host room all }
theorem fn21 (now limit host room : Int) (all : List (Int × (Int × ((Int × Int) × (QQt × QQt))))) : evC T0 (orcB [] [os46l, os46o, os46z]) (lpOf h21 2 (lsOf [])) c21 1000000 (startSt [.ptr 0 0, .int .u64 now, .int .u32 limit] [.box [.int .u32 host, .int .i64 room, .rowA 1], .row QR all] Try.f21.ntmps) (finishK T0 false 2 Try.f21) = (t21 now limit host room all).get := by kernel_rfl
theorem ok21 : os21.Ok Try.prog := by
 refine os_ok mixed0 tab0 (orcB_sound all_nil (all_cons ok46l (all_cons ok46o (all_cons ok46z all_nil)))) h21 (d := 0) (n0 := 2) (S := lsOf []) Try.func21 (by kernel_rfl) (c := c21) (by kernel_rfl) rfl (no_loops (by kernel_rfl)) (by omega) (by kernel_rfl) ?_
 intro x'' y'' q'' hq''
 obtain ⟨(now : Int), (limit : Int), _⟩ := x''
 obtain ⟨⟨(host : Int), (room : Int), _⟩, (all : List (Int × (Int × ((Int × Int) × (QQt × QQt))))), _⟩ := y''
 exact (fn21 now limit host room all).trans hq''
def t21z (now limit : Int) : Tr Res := .ret ([.list QR []], [])
def os21z : OSpec := { f := 21, sh := [.np, .d (.int .u64) false, .d (.int .u32) false], so := [], F := fun (now, limit, _) _ => t21z now limit }
theorem fn21z (now limit : Int) : evC T0 (orcB [] [os46l, os46o, os46z]) (lpOf h21 0 (lsOf [])) c21 1000000 (startSt [.np, .int .u64 now, .int .u32 limit] [] Try.f21.ntmps) (finishK T0 false 0 Try.f21) = (t21z now limit).get := by kernel_rfl
theorem ok21z : os21z.Ok Try.prog := by
 refine os_ok mixed0 tab0 (orcB_sound all_nil (all_cons ok46l (all_cons ok46o (all_cons ok46z all_nil)))) h21 (d := 0) (n0 := 0) (S := lsOf []) Try.func21 (by kernel_rfl) (c := c21) (by kernel_rfl) rfl (no_loops (by kernel_rfl)) (by omega) (by kernel_rfl) ?_
 intro x'' y'' q'' hq''
 obtain ⟨(now : Int), (limit : Int), _⟩ := x''
 exact (fn21z now limit).trans hq''
abbrev DE : Ty := .pair (.int .i64) (.pair QR (.int .u32))
abbrev DEt := Int × (QRt × Int)
def t111 (a b : Int) : Tr Res := .br (decide (IntKind.wrap .u64 (a + IntKind.wrap .u64 b) < a)) (.ret ([.int .u64 18446744073709551615], [])) (.ret ([.int .u64 (IntKind.wrap .u64 (a + IntKind.wrap .u64 b))], []))
def os111 : OSpec := { f := 111, sh := [.d (.int .u64) false, .d (.int .u32) false], so := [], F := fun (a, b, _) _ => t111 a b }
theorem fn111 (a b : Int) : evC T0 (orcB [] []) (lpOf h111 0 (lsOf [])) c111 1000000 (startSt [.int .u64 a, .int .u32 b] [] Try.f111.ntmps) (finishK T0 false 0 Try.f111) = (t111 a b).get := by kernel_rfl
theorem ok111 : os111.Ok Try.prog := by
 refine os_ok mixed0 tab0 (orcB_sound all_nil all_nil) h111 (d := 0) (n0 := 0) (S := lsOf []) Try.func111 (by kernel_rfl) (c := c111) (by kernel_rfl) rfl (no_loops (by kernel_rfl)) (by omega) (by kernel_rfl) ?_
 intro x'' y'' q'' hq''
 obtain ⟨(a : Int), (b : Int), _⟩ := x''
 exact (fn111 a b).trans hq''
def fs111 : FSpec := fsT 111 [((.int .u64), false), ((.int .u32), false)] [((.int .u64), false)] fun (a, b, _) => t111 a b
theorem okf111 : fs111.Ok Try.prog := fsT_ok fun x'' r'' hr'' => ok111 x'' () r'' hr''
def t53 (x : (Int × (Int × ((Int × Int) × (QQt × QQt))))) : Tr Res := .ret ([.agg [.int .u16 x.1, .int .u16 x.2.1, .int .u32 x.2.2.1.1, .int .u16 x.2.2.1.2, .str x.2.2.2.1.1, .int .u16 x.2.2.2.1.2.1, .int .u16 x.2.2.2.1.2.2, .str x.2.2.2.2.1, .int .i64 x.2.2.2.2.2.1, .int .u64 x.2.2.2.2.2.2]], [])
def os53 : OSpec := { f := 53, sh := [.d QR true], so := [], F := fun (x, _) _ => t53 x }
theorem fn53 (x : (Int × (Int × ((Int × Int) × (QQt × QQt))))) : evC T0 (orcB [] []) (lpOf h53 0 (lsOf [])) c53 1000000 (startSt [AV.ofTy QR x true] [] Try.f53.ntmps) (finishK T0 false 0 Try.f53) = (t53 x).get := by kernel_rfl
theorem ok53 : os53.Ok Try.prog := by
 refine os_ok mixed0 tab0 (orcB_sound all_nil all_nil) h53 (d := 0) (n0 := 0) (S := lsOf []) Try.func53 (by kernel_rfl) (c := c53) (by kernel_rfl) rfl (no_loops (by kernel_rfl)) (by omega) (by kernel_rfl) ?_
 intro x'' y'' q'' hq''
 obtain ⟨(x : (Int × (Int × ((Int × Int) × (QQt × QQt))))), _⟩ := x''
 exact (fn53 x).trans hq''
def fs53 : FSpec := fsT 53 [(QR, true)] [(QR, true)] fun (x, _) => t53 x
theorem okf53 : fs53.Ok Try.prog := fsT_ok fun x'' r'' hr'' => ok53 x'' () r'' hr''
def t16 (x : (Int × (Int × ((Int × Int) × (QQt × QQt))))) : Tr Res := .ret ([.agg [.int .u16 x.1, .int .u16 x.2.1, .int .u32 x.2.2.1.1, .int .u16 x.2.2.1.2, .str x.2.2.2.1.1, .int .u16 x.2.2.2.1.2.1, .int .u16 x.2.2.2.1.2.2, .str x.2.2.2.2.1, .int .i64 x.2.2.2.2.2.1, .int .u64 x.2.2.2.2.2.2]], [])
def os16 : OSpec := { f := 16, sh := [.d QR true], so := [], F := fun (x, _) _ => t16 x }
theorem fn16 (x : (Int × (Int × ((Int × Int) × (QQt × QQt))))) : evC T0 (orcB [] []) (lpOf h16 0 (lsOf [])) c16 1000000 (startSt [AV.ofTy QR x true] [] Try.f16.ntmps) (finishK T0 false 0 Try.f16) = (t16 x).get := by kernel_rfl
theorem ok16 : os16.Ok Try.prog := by
 refine os_ok mixed0 tab0 (orcB_sound all_nil all_nil) h16 (d := 0) (n0 := 0) (S := lsOf []) Try.func16 (by kernel_rfl) (c := c16) (by kernel_rfl) rfl (no_loops (by kernel_rfl)) (by omega) (by kernel_rfl) ?_
 intro x'' y'' q'' hq''
 obtain ⟨(x : (Int × (Int × ((Int × Int) × (QQt × QQt))))), _⟩ := x''
 exact (fn16 x).trans hq''
def fs16 : FSpec := fsT 16 [(QR, true)] [(QR, true)] fun (x, _) => t16 x
theorem okf16 : fs16.Ok Try.prog := fsT_ok fun x'' r'' hr'' => ok16 x'' () r'' hr''
def akF (l : List QRt) (i : Int) : Bool := Nat.ble l.length 1000 && decide (i = 0)
def akO (l : List QRt) (qi : Int) : Bool := Nat.ble l.length 1000 && (decide (0 ≤ qi) && decide (qi < 65536))
def eqQ (x y : QRt) : Bool := x.1 == y.1 && (x.2.1 == y.2.1 && ((x.2.2.1.1 == y.2.2.1.1 && (x.2.2.1.2 == y.2.2.1.2 && true)) && ((x.2.2.2.1.1 == y.2.2.2.1.1 && (x.2.2.2.1.2.1 == y.2.2.2.1.2.1 && (x.2.2.2.1.2.2 == y.2.2.2.1.2.2 && true))) && (x.2.2.2.2.1 == y.2.2.2.2.1 && (x.2.2.2.2.2.1 == y.2.2.2.2.2.1 && (x.2.2.2.2.2.2 == y.2.2.2.2.2.2 && true))))))
theorem eqQ_iff {x y : QRt} : eqQ x y = true ↔ x = y := by
 obtain ⟨a, b, ⟨c, d⟩, ⟨e, f, g⟩, h, i, j⟩ := x
 obtain ⟨a', b', ⟨c', d'⟩, ⟨e', f', g'⟩, h', i', j'⟩ := y
 simp only [eqQ, Bool.and_eq_true, beq_iff_eq, Bool.true_eq, and_true, Prod.mk.injEq]
def sameQ : List QRt → List QRt → Bool
 | [], [] => true
 | x :: a, y :: b => eqQ x y && sameQ a b
 | _, _ => false
theorem sameQ_iff : ∀ {a b : List QRt}, sameQ a b = true ↔ a = b
 | [], [] => by simp [sameQ]
 | [], y :: b => by simp [sameQ]
 | x :: a, [] => by simp [sameQ]
 | x :: a, y :: b => by simp only [sameQ, Bool.and_eq_true, eqQ_iff, sameQ_iff, List.cons.injEq]
def akP (a b : List QRt) (i : Int) : Bool := Nat.ble a.length 1000 && (decide (a.length = b.length) && decide (i = 0))
def akW (l w : List QRt) (i : Int) : Bool := Nat.ble l.length 1000 && (decide (w = []) && decide (i = 0))
noncomputable def b110 : Code := nthLoop c110 0
def ls110 : LoopSpec := { bid := 0, sh := [.d (.list QR) false, .d (.int .u16) false, .d (.int .u16) false, .d (.int .i64) false], so := [], F := fun (l, qi, port, i, _) _ => .on2 (akF l i) (decide (idxL (ipB qi port) l 0 < 0)) (.exit 0, [.dead], []) (.ret, [.int .i64 (idxL (ipB qi port) l 0)], []) }
def r110 (l : List (Int × (Int × ((Int × Int) × (QQt × QQt))))) (qi port i : Int) : Tr (St ⊕ (Ex × St)) := .br (decide (i < (↑l.length : Int))) (.br (decide (0 ≤ i)) (.br (decide (i < (↑l.length : Int))) (.br ((l.getD i.toNat (Ty.dflt QR)).1 == qi) (.br (decide (0 ≤ i)) (.br (decide (i < (↑l.length : Int))) (.br ((l.getD i.toNat (Ty.dflt QR)).2.1 == port) (.ret (.inr (.ret, stOf [6] [.int .i64 i] []))) (.ret (.inl (stOf [0, 1, 2, 7] [.list QR l, .int .u16 qi, .int .u16 port, .int .i64 (IntKind.wrap .i64 (i + 1))] [])))) .no) .no) (.ret (.inl (stOf [0, 1, 2, 7] [.list QR l, .int .u16 qi, .int .u16 port, .int .i64 (IntKind.wrap .i64 (i + 1))] [])))) .no) .no) (.ret (.inr (.exit 0, stOf [6] [.dead] [])))
theorem round110 (lp : Lp) (l : List (Int × (Int × ((Int × Int) × (QQt × QQt))))) (qi port i : Int) : evC T0 (orcB [] []) lp b110 0 (stOf [0, 1, 2, 7] [.list QR l, .int .u16 qi, .int .u16 port, .int .i64 i] []) (roundK [0, 1, 2, 7] [6] 0) = (r110 l qi port i).get := by kernel_rfl
theorem wf110 (l : List (Int × (Int × ((Int × Int) × (QQt × QQt))))) (qi port : Int) (I'' : Int → Prop) (m'' : Int → Nat) (r'' : Ex × St) (h : ∀ (i : Int), I'' i → (r110 l qi port i).all fun x'' => x'' = .inr r'' ∨ ∃ (i' : Int), x'' = .inl (stOf [0, 1, 2, 7] [.list QR l, .int .u16 qi, .int .u16 port, .int .i64 i'] []) ∧ I'' i' ∧ m'' i' < m'' i) (lp : Lp) (i : Int) : I'' i →
    loopF (fun st => evC T0 (orcB [] []) lp b110 0 st (roundK [0, 1, 2, 7] [6] 0)) (stOf [0, 1, 2, 7] [.list QR l, .int .u16 qi, .int .u16 port, .int .i64 i] []) = some r'' :=
 loop_tr (fun a'' : Int => stOf [0, 1, 2, 7] [.list QR l, .int .u16 qi, .int .u16 port, .int .i64 a''] []) (fun a'' => I'' a'') (fun a'' => m'' a'') r'' (fun a'' => r110 l qi port a'')
  (fun a'' x hx => (round110 lp l qi port a'').trans hx) (fun a'' ha => Tr.all_mono (fun x'' hx => hx.imp id fun ⟨i', h1, h2, h3⟩ => ⟨(i'), h1, h2, h3⟩) (h (a'') ha)) (i)
theorem loop110 : ls110.Ok T0 (orcB [] []) h110 0 0 b110 := by
 intro q'' hq'' x'' y'' r'' h
 obtain ⟨(l : List (Int × (Int × ((Int × Int) × (QQt × QQt))))), (qi : Int), (port : Int), (i : Int), _⟩ := x''
 obtain ⟨hc, rfl⟩ := Tr.get_on2 h
 show loopF (fun st => evC T0 (orcB [] []) (lpN T0 (orcB [] []) h110 0 q'') b110 0 st (roundK [0, 1, 2, 7] [6] 0)) (stOf [0, 1, 2, 7] [.list QR l, .int .u16 qi, .int .u16 port, .int .i64 i] []) = some ((bif decide (idxL (ipB qi port) l 0 < 0) then (.exit 0, [.dead], []) else (.ret, [.int .i64 (idxL (ipB qi port) l 0)], []) : Ex × List AV × List LObj).1, stOf [6] (bif decide (idxL (ipB qi port) l 0 < 0) then (.exit 0, [.dead], []) else (.ret, [.int .i64 (idxL (ipB qi port) l 0)], []) : Ex × List AV × List LObj).2.1 (bif decide (idxL (ipB qi port) l 0 < 0) then (.exit 0, [.dead], []) else (.ret, [.int .i64 (idxL (ipB qi port) l 0)], []) : Ex × List AV × List LObj).2.2)
 simp only [akF, Bool.and_eq_true, decide_eq_true_eq] at hc
 obtain ⟨hl, rfl⟩ := hc
 have hl := Nat.le_of_ble_eq_true hl
 refine wf110 l qi port (fun i => 0 ≤ i ∧ i ≤ l.length ∧ idxL (ipB qi port) (l.drop i.toNat) i.toNat = idxL (ipB qi port) l 0) (fun i => (l.length - i).toNat) _ ?_ _ 0 ⟨by omega, by omega, rfl⟩
 rintro i ⟨h0, h1, he⟩
 unfold r110
 rw [wrap_succ h0 h1 (by omega)]
 by_cases hi : i < l.length
 · rw [drop_cons2 (l := l) (k := i.toNat) (by omega) (Ty.dflt QR), idxL] at he
   generalize l.getD i.toNat (Ty.dflt QR) = x at *
   have hno : ∀ b : Bool, b = false → ipB qi port x = b → idxL (ipB qi port) (l.drop (i.toNat + 1)) (i.toNat + 1) = idxL (ipB qi port) l 0 := fun b hb h => by
    rw [if_neg (by rw [h, hb]; simp)] at he
    exact he
   refine Tr.all_t (dec_true hi) (Tr.all_t (dec_true h0) (Tr.all_t (dec_true hi) (Tr.all_br (fun h => Tr.all_t (dec_true h0) (Tr.all_t (dec_true hi) (Tr.all_br (fun h2 => ?_) fun h2 => ?_))) fun h => ?_)))
   · have h : ipB qi port x = true := by unfold ipB; rw [h, h2]; rfl
     rw [if_pos h] at he
     rw [← he, show ((i.toNat : Nat) : Int) = i by omega, dec_false (show ¬ i < 0 by omega)]
     exact Tr.all_ret (.inl rfl)
   · exact Tr.all_ret (.inr ⟨_, rfl, ⟨by omega, by omega, by rw [show (i + 1).toNat = i.toNat + 1 by omega]; exact hno false rfl (by unfold ipB; rw [h, h2]; rfl)⟩, by omega⟩)
   · exact Tr.all_ret (.inr ⟨_, rfl, ⟨by omega, by omega, by rw [show (i + 1).toNat = i.toNat + 1 by omega]; exact hno false rfl (by unfold ipB; rw [h]; rfl)⟩, by omega⟩)
 · refine Tr.all_f (dec_false hi) (Tr.all_ret (.inl ?_))
   rw [List.drop_eq_nil_of_le (by omega)] at he
   rw [← he]
   rfl
def t110 (l : List (Int × (Int × ((Int × Int) × (QQt × QQt))))) (qi port : Int) : Tr Res := .br (akF l 0) (.br (decide (idxL (ipB qi port) l 0 < 0)) (.ret ([.int .i64 (-1)], [])) (.ret ([.int .i64 (idxL (ipB qi port) l 0)], []))) .no
def os110 : OSpec := { f := 110, sh := [.d (.list QR) false, .d (.int .u16) false, .d (.int .u16) false], so := [], F := fun (l, qi, port, _) _ => t110 l qi port }
theorem fn110 (l : List (Int × (Int × ((Int × Int) × (QQt × QQt))))) (qi port : Int) : evC T0 (orcB [] []) (lpOf h110 0 (lsOf [ls110])) c110 1000000 (startSt [.list QR l, .int .u16 qi, .int .u16 port] [] Try.f110.ntmps) (finishK T0 false 0 Try.f110) = (t110 l qi port).get := by kernel_rfl
theorem ok110 : os110.Ok Try.prog := by
 refine os_ok mixed0 tab0 (orcB_sound all_nil all_nil) h110 (d := 0) (n0 := 0) (S := lsOf [ls110]) Try.func110 (by kernel_rfl) (c := c110) (by kernel_rfl) rfl (loops_eq (xs := [(0, b110)]) (by kernel_rfl) (all_cons (ls_here loop110) all_nil)) (by omega) (by kernel_rfl) ?_
 intro x'' y'' q'' hq''
 obtain ⟨(l : List (Int × (Int × ((Int × Int) × (QQt × QQt))))), (qi : Int), (port : Int), _⟩ := x''
 exact (fn110 l qi port).trans hq''
def fs110 : FSpec := fsT 110 [((.list QR), false), ((.int .u16), false), ((.int .u16), false)] [((.int .i64), false)] fun (l, qi, port, _) => t110 l qi port
theorem okf110 : fs110.Ok Try.prog := fsT_ok fun x'' r'' hr'' => ok110 x'' () r'' hr''
noncomputable def b78 : Code := nthLoop c78 0
def ls78 : LoopSpec := { bid := 0, sh := [.d (.list QR) false, .ptr 0 0, .ptr 1 0, .row 2, .d (.int .i64) false], so := [.box [.d (.int .u16) false, .d (.int .u16) false, .d (.int .u32) false, .d (.int .u16) false, .d .str false, .d (.int .u16) false, .d (.int .u16) false, .d .str false, .d (.int .i64) false, .d (.int .u64) false], .box [.d (.int .u16) false, .d (.int .u16) false, .d (.int .u32) false, .d (.int .u16) false, .d .str false, .d (.int .u16) false, .d (.int .u16) false, .d .str false, .d (.int .i64) false, .d (.int .u64) false], .row QR], F := fun (l, qi, _) ((xi, xp, xh, xo, xn, xt, xc, xz, xw, xs, _), (zi, zp, zh, zo, zn, zt, zc, zz, zw, zs, _), w, _) => .on (akO l qi) (.exit 0, [.ptr 0 0, .ptr 1 0, .rowA 2, .int .i64 (nextI l xp qi)], [.box [.int .u16 xi, .int .u16 xp, .int .u32 xh, .int .u16 xo, .str xn, .int .u16 xt, .int .u16 xc, .str xz, .int .i64 xw, .int .u64 xs], .box [.int .u16 zi, .int .u16 zp, .int .u32 zh, .int .u16 zo, .str zn, .int .u16 zt, .int .u16 zc, .str zz, .int .i64 zw, .int .u64 zs], .row QR w]) }
def r78 (l : List (Int × (Int × ((Int × Int) × (QQt × QQt))))) (qi xi xp xh xo : Int) (xn : List UInt8) (xt xc : Int) (xz : List UInt8) (xw xs zi zp zh zo : Int) (zn : List UInt8) (zt zc : Int) (zz : List UInt8) (zw zs : Int) (w : List (Int × (Int × ((Int × Int) × (QQt × QQt))))) : Tr (St ⊕ (Ex × St)) := .br (akF l 0) (.br (decide (idxL (ipB (IntKind.wrap .u16 qi) xp) l 0 < 0)) (.ret (.inr (.exit 0, stOf [6, 9, 11, 12] [.ptr 0 0, .ptr 1 0, .rowA 2, .int .i64 qi] [.boxT none [.int .u16 xi, .int .u16 xp, .int .u32 xh, .int .u16 xo, .str xn, .int .u16 xt, .int .u16 xc, .str xz, .int .i64 xw, .int .u64 xs], .boxT none [.int .u16 zi, .int .u16 zp, .int .u32 zh, .int .u16 zo, .str zn, .int .u16 zt, .int .u16 zc, .str zz, .int .i64 zw, .int .u64 zs], .row QR w]))) (.br (decide (idxL (ipB (IntKind.wrap .u16 qi) xp) l 0 ≥ 0)) (.ret (.inl (stOf [0, 6, 9, 11, 12] [.list QR l, .ptr 0 0, .ptr 1 0, .rowA 2, .int .i64 (Int.tmod (IntKind.wrap .i64 (qi + 1)) 65536)] [.boxT none [.int .u16 xi, .int .u16 xp, .int .u32 xh, .int .u16 xo, .str xn, .int .u16 xt, .int .u16 xc, .str xz, .int .i64 xw, .int .u64 xs], .boxT none [.int .u16 zi, .int .u16 zp, .int .u32 zh, .int .u16 zo, .str zn, .int .u16 zt, .int .u16 zc, .str zz, .int .i64 zw, .int .u64 zs], .row QR w]))) (.ret (.inr (.exit 0, stOf [6, 9, 11, 12] [.ptr 0 0, .ptr 1 0, .rowA 2, .int .i64 qi] [.boxT none [.int .u16 xi, .int .u16 xp, .int .u32 xh, .int .u16 xo, .str xn, .int .u16 xt, .int .u16 xc, .str xz, .int .i64 xw, .int .u64 xs], .boxT none [.int .u16 zi, .int .u16 zp, .int .u32 zh, .int .u16 zo, .str zn, .int .u16 zt, .int .u16 zc, .str zz, .int .i64 zw, .int .u64 zs], .row QR w]))))) .no
theorem round78 (lp : Lp) (l : List (Int × (Int × ((Int × Int) × (QQt × QQt))))) (qi xi xp xh xo : Int) (xn : List UInt8) (xt xc : Int) (xz : List UInt8) (xw xs zi zp zh zo : Int) (zn : List UInt8) (zt zc : Int) (zz : List UInt8) (zw zs : Int) (w : List (Int × (Int × ((Int × Int) × (QQt × QQt))))) : evC T0 (orcB [fs110] []) lp b78 0 (stOf [0, 6, 9, 11, 12] [.list QR l, .ptr 0 0, .ptr 1 0, .rowA 2, .int .i64 qi] [.box [.int .u16 xi, .int .u16 xp, .int .u32 xh, .int .u16 xo, .str xn, .int .u16 xt, .int .u16 xc, .str xz, .int .i64 xw, .int .u64 xs], .box [.int .u16 zi, .int .u16 zp, .int .u32 zh, .int .u16 zo, .str zn, .int .u16 zt, .int .u16 zc, .str zz, .int .i64 zw, .int .u64 zs], .row QR w]) (roundK [0, 6, 9, 11, 12] [6, 9, 11, 12] 0) = (r78 l qi xi xp xh xo xn xt xc xz xw xs zi zp zh zo zn zt zc zz zw zs w).get := by kernel_rfl
set_option maxHeartbeats 4000000 in
theorem wf78 (l : List (Int × (Int × ((Int × Int) × (QQt × QQt))))) (xi : Int) (xp : Int) (xh : Int) (xo : Int) (xn : List UInt8) (xt : Int) (xc : Int) (xz : List UInt8) (xw : Int) (xs : Int) (zi : Int) (zp : Int) (zh : Int) (zo : Int) (zn : List UInt8) (zt : Int) (zc : Int) (zz : List UInt8) (zw : Int) (zs : Int) (w : List (Int × (Int × ((Int × Int) × (QQt × QQt))))) (I'' : Int → Prop) (m'' : Int → Nat) (r'' : Ex × St) (h : ∀ (qi : Int), I'' qi → (r78 l qi xi xp xh xo xn xt xc xz xw xs zi zp zh zo zn zt zc zz zw zs w).all fun x'' => x'' = .inr r'' ∨ ∃ (qi' : Int), x'' = .inl (stOf [0, 6, 9, 11, 12] [.list QR l, .ptr 0 0, .ptr 1 0, .rowA 2, .int .i64 qi'] [.box [.int .u16 xi, .int .u16 xp, .int .u32 xh, .int .u16 xo, .str xn, .int .u16 xt, .int .u16 xc, .str xz, .int .i64 xw, .int .u64 xs], .box [.int .u16 zi, .int .u16 zp, .int .u32 zh, .int .u16 zo, .str zn, .int .u16 zt, .int .u16 zc, .str zz, .int .i64 zw, .int .u64 zs], .row QR w]) ∧ I'' qi' ∧ m'' qi' < m'' qi) (lp : Lp) (qi : Int) : I'' qi →
    loopF (fun st => evC T0 (orcB [fs110] []) lp b78 0 st (roundK [0, 6, 9, 11, 12] [6, 9, 11, 12] 0)) (stOf [0, 6, 9, 11, 12] [.list QR l, .ptr 0 0, .ptr 1 0, .rowA 2, .int .i64 qi] [.box [.int .u16 xi, .int .u16 xp, .int .u32 xh, .int .u16 xo, .str xn, .int .u16 xt, .int .u16 xc, .str xz, .int .i64 xw, .int .u64 xs], .box [.int .u16 zi, .int .u16 zp, .int .u32 zh, .int .u16 zo, .str zn, .int .u16 zt, .int .u16 zc, .str zz, .int .i64 zw, .int .u64 zs], .row QR w]) = some r'' :=
 loop_tr (fun a'' : Int => stOf [0, 6, 9, 11, 12] [.list QR l, .ptr 0 0, .ptr 1 0, .rowA 2, .int .i64 a''] [.box [.int .u16 xi, .int .u16 xp, .int .u32 xh, .int .u16 xo, .str xn, .int .u16 xt, .int .u16 xc, .str xz, .int .i64 xw, .int .u64 xs], .box [.int .u16 zi, .int .u16 zp, .int .u32 zh, .int .u16 zo, .str zn, .int .u16 zt, .int .u16 zc, .str zz, .int .i64 zw, .int .u64 zs], .row QR w]) (fun a'' => I'' a'') (fun a'' => m'' a'') r'' (fun a'' => r78 l a'' xi xp xh xo xn xt xc xz xw xs zi zp zh zo zn zt zc zz zw zs w)
  (fun a'' x hx => (round78 lp l a'' xi xp xh xo xn xt xc xz xw xs zi zp zh zo zn zt zc zz zw zs w).trans hx) (fun a'' ha => Tr.all_mono (fun x'' hx => hx.imp id fun ⟨qi', h1, h2, h3⟩ => ⟨(qi'), h1, h2, h3⟩) (h (a'') ha)) (qi)
theorem u16_in {x : Int} (h0 : 0 ≤ x) (h : x < 65536) : IntKind.wrap IntKind.u16 x = x := by
 show x % 65536 = x
 omega
theorem loop78 : ls78.Ok T0 (orcB [fs110] []) h78 0 0 b78 := by
 intro q'' hq'' x'' y'' r'' h
 obtain ⟨(l : List (Int × (Int × ((Int × Int) × (QQt × QQt))))), (qi : Int), _⟩ := x''
 obtain ⟨⟨(xi : Int), (xp : Int), (xh : Int), (xo : Int), (xn : List UInt8), (xt : Int), (xc : Int), (xz : List UInt8), (xw : Int), (xs : Int), _⟩, ⟨(zi : Int), (zp : Int), (zh : Int), (zo : Int), (zn : List UInt8), (zt : Int), (zc : Int), (zz : List UInt8), (zw : Int), (zs : Int), _⟩, (w : List (Int × (Int × ((Int × Int) × (QQt × QQt))))), _⟩ := y''
 obtain ⟨hc, rfl⟩ := Tr.get_on h
 show loopF (fun st => evC T0 (orcB [fs110] []) (lpN T0 (orcB [fs110] []) h78 0 q'') b78 0 st (roundK [0, 6, 9, 11, 12] [6, 9, 11, 12] 0)) (stOf [0, 6, 9, 11, 12] [.list QR l, .ptr 0 0, .ptr 1 0, .rowA 2, .int .i64 qi] [.box [.int .u16 xi, .int .u16 xp, .int .u32 xh, .int .u16 xo, .str xn, .int .u16 xt, .int .u16 xc, .str xz, .int .i64 xw, .int .u64 xs], .box [.int .u16 zi, .int .u16 zp, .int .u32 zh, .int .u16 zo, .str zn, .int .u16 zt, .int .u16 zc, .str zz, .int .i64 zw, .int .u64 zs], .row QR w]) = some (.exit 0, stOf [6, 9, 11, 12] ([.ptr 0 0, .ptr 1 0, .rowA 2, .int .i64 (nextI l xp qi)]) ([.box [.int .u16 xi, .int .u16 xp, .int .u32 xh, .int .u16 xo, .str xn, .int .u16 xt, .int .u16 xc, .str xz, .int .i64 xw, .int .u64 xs], .box [.int .u16 zi, .int .u16 zp, .int .u32 zh, .int .u16 zo, .str zn, .int .u16 zt, .int .u16 zc, .str zz, .int .i64 zw, .int .u64 zs], .row QR w]))
 simp only [akO, Bool.and_eq_true, decide_eq_true_eq] at hc
 obtain ⟨hl, h0, h1⟩ := hc
 have hl := Nat.le_of_ble_eq_true hl
 refine wf78 l xi xp xh xo xn xt xc xz xw xs zi zp zh zo zn zt zc zz zw zs w (nxI l xp qi) (nxM l qi) _ ?_ _ qi (nx_start h0 h1)
 intro j hI
 unfold r78
 rw [u16_in hI.1.1 hI.1.2]
 refine Tr.all_t (by rw [akF, Nat.ble_eq_true_of_le (by omega)]; rfl) ?_
 rcases idx_taken (all := l) (p := xp) (id := j) with ⟨ht, he⟩ | ⟨ht, he⟩
 · refine Tr.all_t (dec_true (by rw [he]; decide)) (Tr.all_ret (.inl ?_))
   rw [nx_out hI ht]
 · refine Tr.all_f (dec_false (by omega)) (Tr.all_t (dec_true he) (Tr.all_ret (.inr ⟨_, rfl, ?_⟩)))
   rw [IntWalk.i64_in (j + 1) (by have := hI.1; omega), show Int.tmod (j + 1) 65536 = (j + 1) % 65536 from Int.tmod_eq_emod_of_nonneg (by have := hI.1; omega)]
   exact nx_step hl hI ht
def t78 (l : List (Int × (Int × ((Int × Int) × (QQt × QQt))))) (room : Int) (x : (Int × (Int × ((Int × Int) × (QQt × QQt))))) (draw : Int) : Tr Res := .br (decide ((↑l.length : Int) ≥ room)) (.ret ([.list QR l, .agg [.int .u16 0, .int .u16 0, .int .u32 0, .int .u16 0, .str [], .int .u16 0, .int .u16 0, .str [], .int .i64 0, .int .u64 0], .int .i64 5], [])) (.br (fits (0 + List.length l) 72) (.br (akO l (IntKind.wrap .i64 (Int.tmod draw 65536))) (.br (fits (List.length ([] ++ l) + 1) 72) (.ret ([.list QR ([] ++ l ++ [(IntKind.wrap .u16 (nextI l (IntKind.wrap .u16 (IntKind.wrap .u32 (1024 + Int.tmod (IntKind.wrap .u32 (Int.tdiv draw 65536)) 64512))) (IntKind.wrap .i64 (Int.tmod draw 65536))), IntKind.wrap .u16 (IntKind.wrap .u32 (1024 + Int.tmod (IntKind.wrap .u32 (Int.tdiv draw 65536)) 64512)), x.2.2)]), .agg [.int .u16 (IntKind.wrap .u16 (nextI l (IntKind.wrap .u16 (IntKind.wrap .u32 (1024 + Int.tmod (IntKind.wrap .u32 (Int.tdiv draw 65536)) 64512))) (IntKind.wrap .i64 (Int.tmod draw 65536)))), .int .u16 (IntKind.wrap .u16 (IntKind.wrap .u32 (1024 + Int.tmod (IntKind.wrap .u32 (Int.tdiv draw 65536)) 64512))), .int .u32 x.2.2.1.1, .int .u16 x.2.2.1.2, .str x.2.2.2.1.1, .int .u16 x.2.2.2.1.2.1, .int .u16 x.2.2.2.1.2.2, .str x.2.2.2.2.1, .int .i64 x.2.2.2.2.2.1, .int .u64 x.2.2.2.2.2.2], .int .i64 0], [])) .no) .no) .no)
def os78 : OSpec := { f := 78, sh := [.d (.list QR) false, .d (.int .i64) false, .d QR true, .d (.int .u32) false], so := [], F := fun (l, room, x, draw, _) _ => t78 l room x draw }
theorem fn78 (l : List (Int × (Int × ((Int × Int) × (QQt × QQt))))) (room : Int) (x : (Int × (Int × ((Int × Int) × (QQt × QQt))))) (draw : Int) : evC T0 (orcB [fs110] []) (lpOf h78 0 (lsOf [ls78])) c78 1000000 (startSt [.list QR l, .int .i64 room, AV.ofTy QR x true, .int .u32 draw] [] Try.f78.ntmps) (finishK T0 false 0 Try.f78) = (t78 l room x draw).get := by kernel_rfl
theorem ok78 : os78.Ok Try.prog := by
 refine os_ok mixed0 tab0 (orcB_sound (all_cons okf110 all_nil) all_nil) h78 (d := 0) (n0 := 0) (S := lsOf [ls78]) Try.func78 (by kernel_rfl) (c := c78) (by kernel_rfl) rfl (loops_eq (xs := [(0, b78)]) (by kernel_rfl) (all_cons (ls_here loop78) all_nil)) (by omega) (by kernel_rfl) ?_
 intro x'' y'' q'' hq''
 obtain ⟨(l : List (Int × (Int × ((Int × Int) × (QQt × QQt))))), (room : Int), (x : (Int × (Int × ((Int × Int) × (QQt × QQt))))), (draw : Int), _⟩ := x''
 exact (fn78 l room x draw).trans hq''
def fs78 : FSpec := fsT 78 [((.list QR), false), ((.int .i64), false), (QR, true), ((.int .u32), false)] [((.list QR), false), (QR, true), ((.int .i64), false)] fun (l, room, x, draw, _) => t78 l room x draw
theorem okf78 : fs78.Ok Try.prog := fsT_ok fun x'' r'' hr'' => ok78 x'' () r'' hr''
noncomputable def b24 : Code := nthLoop c24 0
def ls24 : LoopSpec := { bid := 0, sh := [.d (.list QR) false, .row 0, .d (.int .i64) false], so := [.row QR], F := fun (l, i, _) (w, _) => .on (akW l w i) (.exit 0, [.rowA 0], [.row QR l]) }
def r24 (l : List (Int × (Int × ((Int × Int) × (QQt × QQt))))) (i : Int) (w : List (Int × (Int × ((Int × Int) × (QQt × QQt))))) : Tr (St ⊕ (Ex × St)) := .br (decide (i < (↑l.length : Int))) (.br (decide (0 ≤ i)) (.br (decide (i < (↑l.length : Int))) (.br (fits (List.length w + 1) 72) (.ret (.inl (stOf [0, 3, 4] [.list QR l, .rowA 0, .int .i64 (IntKind.wrap .i64 (i + 1))] [.row QR (w ++ [List.getD l i.toNat (Ty.dflt QR)])]))) .no) .no) .no) (.ret (.inr (.exit 0, stOf [3] [.rowA 0] [.row QR w])))
theorem round24 (lp : Lp) (l : List (Int × (Int × ((Int × Int) × (QQt × QQt))))) (i : Int) (w : List (Int × (Int × ((Int × Int) × (QQt × QQt))))) : evC T0 (orcB [fs53] []) lp b24 0 (stOf [0, 3, 4] [.list QR l, .rowA 0, .int .i64 i] [.row QR w]) (roundK [0, 3, 4] [3] 0) = (r24 l i w).get := by kernel_rfl
theorem wf24 (l : List (Int × (Int × ((Int × Int) × (QQt × QQt))))) (I'' : List (Int × (Int × ((Int × Int) × (QQt × QQt)))) → Int → Prop) (m'' : List (Int × (Int × ((Int × Int) × (QQt × QQt)))) → Int → Nat) (r'' : Ex × St) (h : ∀ (w : List (Int × (Int × ((Int × Int) × (QQt × QQt))))) (i : Int), I'' w i → (r24 l i w).all fun x'' => x'' = .inr r'' ∨ ∃ (w' : List (Int × (Int × ((Int × Int) × (QQt × QQt))))) (i' : Int), x'' = .inl (stOf [0, 3, 4] [.list QR l, .rowA 0, .int .i64 i'] [.row QR w']) ∧ I'' w' i' ∧ m'' w' i' < m'' w i) (lp : Lp) (w : List (Int × (Int × ((Int × Int) × (QQt × QQt))))) (i : Int) : I'' w i →
    loopF (fun st => evC T0 (orcB [fs53] []) lp b24 0 st (roundK [0, 3, 4] [3] 0)) (stOf [0, 3, 4] [.list QR l, .rowA 0, .int .i64 i] [.row QR w]) = some r'' :=
 loop_tr (fun a'' : List (Int × (Int × ((Int × Int) × (QQt × QQt)))) × Int => stOf [0, 3, 4] [.list QR l, .rowA 0, .int .i64 a''.2] [.row QR a''.1]) (fun a'' => I'' a''.1 a''.2) (fun a'' => m'' a''.1 a''.2) r'' (fun a'' => r24 l a''.2 a''.1)
  (fun a'' x hx => (round24 lp l a''.2 a''.1).trans hx) (fun a'' ha => Tr.all_mono (fun x'' hx => hx.imp id fun ⟨w', i', h1, h2, h3⟩ => ⟨(w', i'), h1, h2, h3⟩) (h (a''.1) (a''.2) ha)) (w, i)
noncomputable def b26 : Code := nthLoop c26 0
def ls26 : LoopSpec := { bid := 0, sh := [.d (.list QR) false, .d (.list QR) false, .d (.int .i64) false], so := [], F := fun (a, b, i, _) _ => .on2 (akP a b i) (sameQ a b) (.exit 0, [.dead], []) (.ret, [.bool false], []) }
def r26 (a b : List (Int × (Int × ((Int × Int) × (QQt × QQt))))) (i : Int) : Tr (St ⊕ (Ex × St)) := .br (decide (i < (↑a.length : Int))) (.br (decide (0 ≤ i)) (.br (decide (i < (↑a.length : Int))) (.br (decide (0 ≤ i)) (.br (decide (i < (↑b.length : Int))) (.br (!((a.getD i.toNat (Ty.dflt QR)).1 == (b.getD i.toNat (Ty.dflt QR)).1 && ((a.getD i.toNat (Ty.dflt QR)).2.1 == (b.getD i.toNat (Ty.dflt QR)).2.1 && ((a.getD i.toNat (Ty.dflt QR)).2.2.1.1 == (b.getD i.toNat (Ty.dflt QR)).2.2.1.1 && ((a.getD i.toNat (Ty.dflt QR)).2.2.1.2 == (b.getD i.toNat (Ty.dflt QR)).2.2.1.2 && true) && ((a.getD i.toNat (Ty.dflt QR)).2.2.2.1.1 == (b.getD i.toNat (Ty.dflt QR)).2.2.2.1.1 && ((a.getD i.toNat (Ty.dflt QR)).2.2.2.1.2.1 == (b.getD i.toNat (Ty.dflt QR)).2.2.2.1.2.1 && ((a.getD i.toNat (Ty.dflt QR)).2.2.2.1.2.2 == (b.getD i.toNat (Ty.dflt QR)).2.2.2.1.2.2 && true)) && ((a.getD i.toNat (Ty.dflt QR)).2.2.2.2.1 == (b.getD i.toNat (Ty.dflt QR)).2.2.2.2.1 && ((a.getD i.toNat (Ty.dflt QR)).2.2.2.2.2.1 == (b.getD i.toNat (Ty.dflt QR)).2.2.2.2.2.1 && ((a.getD i.toNat (Ty.dflt QR)).2.2.2.2.2.2 == (b.getD i.toNat (Ty.dflt QR)).2.2.2.2.2.2 && true)))))))) (.ret (.inr (.ret, stOf [4] [.bool false] []))) (.ret (.inl (stOf [0, 1, 5] [.list QR a, .list QR b, .int .i64 (IntKind.wrap .i64 (i + 1))] [])))) .no) .no) .no) .no) (.ret (.inr (.exit 0, stOf [4] [.dead] [])))
theorem round26 (lp : Lp) (a b : List (Int × (Int × ((Int × Int) × (QQt × QQt))))) (i : Int) : evC T0 (orcB [fs53] []) lp b26 0 (stOf [0, 1, 5] [.list QR a, .list QR b, .int .i64 i] []) (roundK [0, 1, 5] [4] 0) = (r26 a b i).get := by kernel_rfl
theorem wf26 (a b : List (Int × (Int × ((Int × Int) × (QQt × QQt))))) (I'' : Int → Prop) (m'' : Int → Nat) (r'' : Ex × St) (h : ∀ (i : Int), I'' i → (r26 a b i).all fun x'' => x'' = .inr r'' ∨ ∃ (i' : Int), x'' = .inl (stOf [0, 1, 5] [.list QR a, .list QR b, .int .i64 i'] []) ∧ I'' i' ∧ m'' i' < m'' i) (lp : Lp) (i : Int) : I'' i →
    loopF (fun st => evC T0 (orcB [fs53] []) lp b26 0 st (roundK [0, 1, 5] [4] 0)) (stOf [0, 1, 5] [.list QR a, .list QR b, .int .i64 i] []) = some r'' :=
 loop_tr (fun a'' : Int => stOf [0, 1, 5] [.list QR a, .list QR b, .int .i64 a''] []) (fun a'' => I'' a'') (fun a'' => m'' a'') r'' (fun a'' => r26 a b a'')
  (fun a'' x hx => (round26 lp a b a'').trans hx) (fun a'' ha => Tr.all_mono (fun x'' hx => hx.imp id fun ⟨i', h1, h2, h3⟩ => ⟨(i'), h1, h2, h3⟩) (h (a'') ha)) (i)
theorem loop24 : ls24.Ok T0 (orcB [fs53] []) h24 0 0 b24 := by
 intro q'' hq'' x'' y'' r'' h
 obtain ⟨(l : List (Int × (Int × ((Int × Int) × (QQt × QQt))))), (i : Int), _⟩ := x''
 obtain ⟨(w : List (Int × (Int × ((Int × Int) × (QQt × QQt))))), _⟩ := y''
 obtain ⟨hc, rfl⟩ := Tr.get_on h
 show loopF (fun st => evC T0 (orcB [fs53] []) (lpN T0 (orcB [fs53] []) h24 0 q'') b24 0 st (roundK [0, 3, 4] [3] 0)) (stOf [0, 3, 4] [.list QR l, .rowA 0, .int .i64 i] [.row QR w]) = some (.exit 0, stOf [3] ([.rowA 0]) ([.row QR l]))
 simp only [akW, Bool.and_eq_true, decide_eq_true_eq] at hc
 obtain ⟨hl, rfl, rfl⟩ := hc
 have hl := Nat.le_of_ble_eq_true hl
 refine wf24 l (fun w i => 0 ≤ i ∧ i ≤ l.length ∧ w = l.take i.toNat) (fun w i => (l.length - i).toNat) _ ?_ _ [] 0 ⟨by omega, by omega, rfl⟩
 rintro w i ⟨h0, h1, rfl⟩
 unfold r24
 rw [wrap_succ h0 h1 (by omega)]
 by_cases hi : i < l.length
 · refine Tr.all_t (dec_true hi) (Tr.all_t (dec_true h0) (Tr.all_t (dec_true hi) (Tr.all_t (fits_true (by rw [List.length_take]; omega) (by rw [List.length_take]; omega)) (Tr.all_ret (.inr ⟨_, _, rfl, ⟨by omega, by omega, ?_⟩, by omega⟩)))))
   rw [show (i + 1).toNat = i.toNat + 1 by omega, List.take_add_one, List.getElem?_eq_getElem (show i.toNat < l.length by omega), List.getD_eq_getElem?_getD, List.getElem?_eq_getElem (show i.toNat < l.length by omega)]
   rfl
 · refine Tr.all_f (dec_false hi) (Tr.all_ret (.inl ?_))
   rw [List.take_of_length_le (by omega)]
def t24 (l : List (Int × (Int × ((Int × Int) × (QQt × QQt))))) : Tr Res := .br (akW l [] 0) (.ret ([.list QR l], [])) .no
def os24 : OSpec := { f := 24, sh := [.d (.list QR) false], so := [], F := fun (l, _) _ => t24 l }
theorem fn24 (l : List (Int × (Int × ((Int × Int) × (QQt × QQt))))) : evC T0 (orcB [fs53] []) (lpOf h24 0 (lsOf [ls24])) c24 1000000 (startSt [.list QR l] [] Try.f24.ntmps) (finishK T0 false 0 Try.f24) = (t24 l).get := by kernel_rfl
theorem ok24 : os24.Ok Try.prog := by
 refine os_ok mixed0 tab0 (orcB_sound (all_cons okf53 all_nil) all_nil) h24 (d := 0) (n0 := 0) (S := lsOf [ls24]) Try.func24 (by kernel_rfl) (c := c24) (by kernel_rfl) rfl (loops_eq (xs := [(0, b24)]) (by kernel_rfl) (all_cons (ls_here loop24) all_nil)) (by omega) (by kernel_rfl) ?_
 intro x'' y'' q'' hq''
 obtain ⟨(l : List (Int × (Int × ((Int × Int) × (QQt × QQt))))), _⟩ := x''
 exact (fn24 l).trans hq''
def fs24 : FSpec := fsT 24 [((.list QR), false)] [((.list QR), false)] fun (l, _) => t24 l
theorem okf24 : fs24.Ok Try.prog := fsT_ok fun x'' r'' hr'' => ok24 x'' () r'' hr''
theorem same_drop {a b : List QRt} {k : Nat} (h : a.length = b.length) (hk : k < a.length) (d : QRt) : sameQ (a.drop k) (b.drop k) = (eqQ (a.getD k d) (b.getD k d) && sameQ (a.drop (k + 1)) (b.drop (k + 1))) := by
 rw [drop_cons2 (l := a) hk d, drop_cons2 (l := b) (k := k) (by omega) d]
 rfl
theorem loop26 : ls26.Ok T0 (orcB [fs53] []) h26 0 0 b26 := by
 intro q'' hq'' x'' y'' r'' h
 obtain ⟨(a : List (Int × (Int × ((Int × Int) × (QQt × QQt))))), (b : List (Int × (Int × ((Int × Int) × (QQt × QQt))))), (i : Int), _⟩ := x''
 obtain ⟨hc, rfl⟩ := Tr.get_on2 h
 show loopF (fun st => evC T0 (orcB [fs53] []) (lpN T0 (orcB [fs53] []) h26 0 q'') b26 0 st (roundK [0, 1, 5] [4] 0)) (stOf [0, 1, 5] [.list QR a, .list QR b, .int .i64 i] []) = some ((bif sameQ a b then (.exit 0, [.dead], []) else (.ret, [.bool false], []) : Ex × List AV × List LObj).1, stOf [4] (bif sameQ a b then (.exit 0, [.dead], []) else (.ret, [.bool false], []) : Ex × List AV × List LObj).2.1 (bif sameQ a b then (.exit 0, [.dead], []) else (.ret, [.bool false], []) : Ex × List AV × List LObj).2.2)
 simp only [akP, Bool.and_eq_true, decide_eq_true_eq] at hc
 obtain ⟨hl, hab, rfl⟩ := hc
 have hl := Nat.le_of_ble_eq_true hl
 refine wf26 a b (fun i => 0 ≤ i ∧ i ≤ a.length ∧ sameQ (a.drop i.toNat) (b.drop i.toNat) = sameQ a b) (fun i => (a.length - i).toNat) _ ?_ _ 0 ⟨by omega, by omega, rfl⟩
 rintro i ⟨h0, h1, he⟩
 unfold r26
 rw [wrap_succ h0 h1 (by omega)]
 by_cases hi : i < a.length
 · rw [same_drop hab (by omega) (Ty.dflt QR)] at he
   have hstep : ∀ b' : Bool, eqQ (a.getD i.toNat (Ty.dflt QR)) (b.getD i.toNat (Ty.dflt QR)) = b' → (b' && sameQ (a.drop (i.toNat + 1)) (b.drop (i.toNat + 1))) = sameQ a b := fun b' h => by rw [← h]; exact he
   refine Tr.all_t (dec_true hi) (Tr.all_t (dec_true h0) (Tr.all_t (dec_true hi) (Tr.all_t (dec_true h0) (Tr.all_t (dec_true (by omega)) (Tr.all_br (fun h => ?_) (fun h => ?_))))))
   · have h := hstep false (by have h : (!eqQ (a.getD i.toNat (Ty.dflt QR)) (b.getD i.toNat (Ty.dflt QR))) = true := h; cases hx : eqQ (a.getD i.toNat (Ty.dflt QR)) (b.getD i.toNat (Ty.dflt QR)) with | false => rfl | true => rw [hx] at h; cases h)
     rw [← h]
     exact Tr.all_ret (.inl rfl)
   · have h := hstep true (by have h : (!eqQ (a.getD i.toNat (Ty.dflt QR)) (b.getD i.toNat (Ty.dflt QR))) = false := h; cases hx : eqQ (a.getD i.toNat (Ty.dflt QR)) (b.getD i.toNat (Ty.dflt QR)) with | true => rfl | false => rw [hx] at h; cases h)
     exact Tr.all_ret (.inr ⟨_, rfl, ⟨by omega, by omega, by rw [show (i + 1).toNat = i.toNat + 1 by omega]; simpa using h⟩, by omega⟩)
 · refine Tr.all_f (dec_false hi) (Tr.all_ret (.inl ?_))
   rw [List.drop_eq_nil_of_le (by omega), List.drop_eq_nil_of_le (by omega)] at he
   rw [← he]
   rfl
def t26 (a b : List (Int × (Int × ((Int × Int) × (QQt × QQt))))) : Tr Res := .br ((↑a.length : Int) != (↑b.length : Int)) (.ret ([.bool false], [])) (.br (akP a b 0) (.br (sameQ a b) (.ret ([.bool true], [])) (.ret ([.bool false], []))) .no)
def os26 : OSpec := { f := 26, sh := [.d (.list QR) false, .d (.list QR) false], so := [], F := fun (a, b, _) _ => t26 a b }
theorem fn26 (a b : List (Int × (Int × ((Int × Int) × (QQt × QQt))))) : evC T0 (orcB [fs53] []) (lpOf h26 0 (lsOf [ls26])) c26 1000000 (startSt [.list QR a, .list QR b] [] Try.f26.ntmps) (finishK T0 false 0 Try.f26) = (t26 a b).get := by kernel_rfl
theorem ok26 : os26.Ok Try.prog := by
 refine os_ok mixed0 tab0 (orcB_sound (all_cons okf53 all_nil) all_nil) h26 (d := 0) (n0 := 0) (S := lsOf [ls26]) Try.func26 (by kernel_rfl) (c := c26) (by kernel_rfl) rfl (loops_eq (xs := [(0, b26)]) (by kernel_rfl) (all_cons (ls_here loop26) all_nil)) (by omega) (by kernel_rfl) ?_
 intro x'' y'' q'' hq''
 obtain ⟨(a : List (Int × (Int × ((Int × Int) × (QQt × QQt))))), (b : List (Int × (Int × ((Int × Int) × (QQt × QQt))))), _⟩ := x''
 exact (fn26 a b).trans hq''
def fs26 : FSpec := fsT 26 [((.list QR), false), ((.list QR), false)] [(.bool, false)] fun (a, b, _) => t26 a b
theorem okf26 : fs26.Ok Try.prog := fsT_ok fun x'' r'' hr'' => ok26 x'' () r'' hr''
def t79 (l : List (Int × (Int × ((Int × Int) × (QQt × QQt))))) (qi port : Int) : Tr Res := .br (akF l 0) (.br (decide (idxL (ipB qi port) l 0 < 0)) (.ret ([.list QR l, .bool false], [])) (.br (decide (idxL (ipB qi port) l 0 < 0)) (.ret ([.list QR l, .bool false], [])) (.br (decide (0 ≤ idxL (ipB qi port) l 0) && decide (idxL (ipB qi port) l 0 ≤ (↑l.length : Int))) (.br (decide (0 ≤ 0) && decide (0 ≤ idxL (ipB qi port) l 0)) (.br (fits (0 + List.length (List.take (Int.toNat (idxL (ipB qi port) l 0) - Int.toNat 0) (List.drop (Int.toNat 0) l))) 72) (.br (decide (0 ≤ (↑l.length : Int)) && decide ((↑l.length : Int) ≤ (↑l.length : Int))) (.br (decide (0 ≤ IntKind.wrap .i64 (idxL (ipB qi port) l 0 + 1)) && decide (IntKind.wrap .i64 (idxL (ipB qi port) l 0 + 1) ≤ (↑l.length : Int))) (.br (fits (List.length ([] ++ List.take (Int.toNat (idxL (ipB qi port) l 0) - Int.toNat 0) (List.drop (Int.toNat 0) l)) + List.length (List.take (Int.toNat (↑l.length : Int) - Int.toNat (IntKind.wrap .i64 (idxL (ipB qi port) l 0 + 1))) (List.drop (Int.toNat (IntKind.wrap .i64 (idxL (ipB qi port) l 0 + 1))) l))) 72) (.ret ([.list QR ([] ++ List.take (Int.toNat (idxL (ipB qi port) l 0) - Int.toNat 0) (List.drop (Int.toNat 0) l) ++ List.take (Int.toNat (↑l.length : Int) - Int.toNat (IntKind.wrap .i64 (idxL (ipB qi port) l 0 + 1))) (List.drop (Int.toNat (IntKind.wrap .i64 (idxL (ipB qi port) l 0 + 1))) l)), .bool true], [])) .no) .no) .no) .no) .no) .no))) .no
def os79 : OSpec := { f := 79, sh := [.d (.list QR) false, .d (.int .u16) false, .d (.int .u16) false], so := [], F := fun (l, qi, port, _) _ => t79 l qi port }
theorem fn79 (l : List (Int × (Int × ((Int × Int) × (QQt × QQt))))) (qi port : Int) : evC T0 (orcB [fs110] []) (lpOf h79 0 (lsOf [])) c79 1000000 (startSt [.list QR l, .int .u16 qi, .int .u16 port] [] Try.f79.ntmps) (finishK T0 false 0 Try.f79) = (t79 l qi port).get := by kernel_rfl
theorem ok79 : os79.Ok Try.prog := by
 refine os_ok mixed0 tab0 (orcB_sound (all_cons okf110 all_nil) all_nil) h79 (d := 0) (n0 := 0) (S := lsOf []) Try.func79 (by kernel_rfl) (c := c79) (by kernel_rfl) rfl (no_loops (by kernel_rfl)) (by omega) (by kernel_rfl) ?_
 intro x'' y'' q'' hq''
 obtain ⟨(l : List (Int × (Int × ((Int × Int) × (QQt × QQt))))), (qi : Int), (port : Int), _⟩ := x''
 exact (fn79 l qi port).trans hq''
def fs79 : FSpec := fsT 79 [((.list QR), false), ((.int .u16), false), ((.int .u16), false)] [((.list QR), false), (.bool, false)] fun (l, qi, port, _) => t79 l qi port
theorem okf79 : fs79.Ok Try.prog := fsT_ok fun x'' r'' hr'' => ok79 x'' () r'' hr''
def untilR (a b : Int) : Int := bif decide (IntKind.wrap IntKind.u64 (a + IntKind.wrap IntKind.u64 b) < a) then 18446744073709551615 else IntKind.wrap IntKind.u64 (a + IntKind.wrap IntKind.u64 b)
def lateR (now limit : Int) (q : QRt) : Bool := decide (untilR q.2.2.2.2.2.2 limit ≤ now)
noncomputable def b80 : Code := nthLoop c80 0
def ls80 : LoopSpec := { bid := 0, sh := [.d (.list QR) false, .d (.int .u64) false, .d (.int .u32) false, .row 0, .d (.int .i64) false], so := [.row QR], F := fun (l, now, limit, i, _) (w, _) => .on (akW l w i) (.exit 0, [.rowA 0], [.row QR (l.filter (lateR now limit))]) }
def r80 (l : List (Int × (Int × ((Int × Int) × (QQt × QQt))))) (now limit i : Int) (w : List (Int × (Int × ((Int × Int) × (QQt × QQt))))) : Tr (St ⊕ (Ex × St)) := .br (decide (i < (↑l.length : Int))) (.br (decide (0 ≤ i)) (.br (decide (i < (↑l.length : Int))) (.br (decide (IntKind.wrap .u64 ((l.getD i.toNat (Ty.dflt QR)).2.2.2.2.2.2 + IntKind.wrap .u64 limit) < (l.getD i.toNat (Ty.dflt QR)).2.2.2.2.2.2)) (.br (decide (18446744073709551615 ≤ now)) (.br (decide (0 ≤ i)) (.br (decide (i < (↑l.length : Int))) (.br (fits (List.length w + 1) 72) (.ret (.inl (stOf [0, 1, 2, 7, 8] [.list QR l, .int .u64 now, .int .u32 limit, .rowA 0, .int .i64 (IntKind.wrap .i64 (i + 1))] [.row QR (w ++ [List.getD l i.toNat (Ty.dflt QR)])]))) .no) .no) .no) (.ret (.inl (stOf [0, 1, 2, 7, 8] [.list QR l, .int .u64 now, .int .u32 limit, .rowA 0, .int .i64 (IntKind.wrap .i64 (i + 1))] [.row QR w])))) (.br (decide (IntKind.wrap .u64 ((l.getD i.toNat (Ty.dflt QR)).2.2.2.2.2.2 + IntKind.wrap .u64 limit) ≤ now)) (.br (decide (0 ≤ i)) (.br (decide (i < (↑l.length : Int))) (.br (fits (List.length w + 1) 72) (.ret (.inl (stOf [0, 1, 2, 7, 8] [.list QR l, .int .u64 now, .int .u32 limit, .rowA 0, .int .i64 (IntKind.wrap .i64 (i + 1))] [.row QR (w ++ [List.getD l i.toNat (Ty.dflt QR)])]))) .no) .no) .no) (.ret (.inl (stOf [0, 1, 2, 7, 8] [.list QR l, .int .u64 now, .int .u32 limit, .rowA 0, .int .i64 (IntKind.wrap .i64 (i + 1))] [.row QR w]))))) .no) .no) (.ret (.inr (.exit 0, stOf [7] [.rowA 0] [.row QR w])))
theorem round80 (lp : Lp) (l : List (Int × (Int × ((Int × Int) × (QQt × QQt))))) (now limit i : Int) (w : List (Int × (Int × ((Int × Int) × (QQt × QQt))))) : evC T0 (orcB [fs111] []) lp b80 0 (stOf [0, 1, 2, 7, 8] [.list QR l, .int .u64 now, .int .u32 limit, .rowA 0, .int .i64 i] [.row QR w]) (roundK [0, 1, 2, 7, 8] [7] 0) = (r80 l now limit i w).get := by kernel_rfl
theorem wf80 (l : List (Int × (Int × ((Int × Int) × (QQt × QQt))))) (now limit : Int) (I'' : List (Int × (Int × ((Int × Int) × (QQt × QQt)))) → Int → Prop) (m'' : List (Int × (Int × ((Int × Int) × (QQt × QQt)))) → Int → Nat) (r'' : Ex × St) (h : ∀ (w : List (Int × (Int × ((Int × Int) × (QQt × QQt))))) (i : Int), I'' w i → (r80 l now limit i w).all fun x'' => x'' = .inr r'' ∨ ∃ (w' : List (Int × (Int × ((Int × Int) × (QQt × QQt))))) (i' : Int), x'' = .inl (stOf [0, 1, 2, 7, 8] [.list QR l, .int .u64 now, .int .u32 limit, .rowA 0, .int .i64 i'] [.row QR w']) ∧ I'' w' i' ∧ m'' w' i' < m'' w i) (lp : Lp) (w : List (Int × (Int × ((Int × Int) × (QQt × QQt))))) (i : Int) : I'' w i →
    loopF (fun st => evC T0 (orcB [fs111] []) lp b80 0 st (roundK [0, 1, 2, 7, 8] [7] 0)) (stOf [0, 1, 2, 7, 8] [.list QR l, .int .u64 now, .int .u32 limit, .rowA 0, .int .i64 i] [.row QR w]) = some r'' :=
 loop_tr (fun a'' : List (Int × (Int × ((Int × Int) × (QQt × QQt)))) × Int => stOf [0, 1, 2, 7, 8] [.list QR l, .int .u64 now, .int .u32 limit, .rowA 0, .int .i64 a''.2] [.row QR a''.1]) (fun a'' => I'' a''.1 a''.2) (fun a'' => m'' a''.1 a''.2) r'' (fun a'' => r80 l now limit a''.2 a''.1)
  (fun a'' x hx => (round80 lp l now limit a''.2 a''.1).trans hx) (fun a'' ha => Tr.all_mono (fun x'' hx => hx.imp id fun ⟨w', i', h1, h2, h3⟩ => ⟨(w', i'), h1, h2, h3⟩) (h (a''.1) (a''.2) ha)) (w, i)
theorem loop80 : ls80.Ok T0 (orcB [fs111] []) h80 0 0 b80 := by
 intro q'' hq'' x'' y'' r'' h
 obtain ⟨(l : List (Int × (Int × ((Int × Int) × (QQt × QQt))))), (now : Int), (limit : Int), (i : Int), _⟩ := x''
 obtain ⟨(w : List (Int × (Int × ((Int × Int) × (QQt × QQt))))), _⟩ := y''
 obtain ⟨hc, rfl⟩ := Tr.get_on h
 show loopF (fun st => evC T0 (orcB [fs111] []) (lpN T0 (orcB [fs111] []) h80 0 q'') b80 0 st (roundK [0, 1, 2, 7, 8] [7] 0)) (stOf [0, 1, 2, 7, 8] [.list QR l, .int .u64 now, .int .u32 limit, .rowA 0, .int .i64 i] [.row QR w]) = some (.exit 0, stOf [7] ([.rowA 0]) ([.row QR (l.filter (lateR now limit))]))
 simp only [akW, Bool.and_eq_true, decide_eq_true_eq] at hc
 obtain ⟨hl, rfl, rfl⟩ := hc
 have hl := Nat.le_of_ble_eq_true hl
 refine wf80 l now limit (fun w i => 0 ≤ i ∧ i ≤ l.length ∧ w = (l.take i.toNat).filter (lateR now limit)) (fun w i => (l.length - i).toNat) _ ?_ _ [] 0 ⟨by omega, by omega, rfl⟩
 rintro w i ⟨h0, h1, rfl⟩
 unfold r80
 rw [wrap_succ h0 h1 (by omega)]
 by_cases hi : i < l.length
 · have hs := fil_step (p := lateR now limit) (l := l) (k := i.toNat) (Ty.dflt QR) (by omega)
   have hf := fil_le (p := lateR now limit) (l := l) i.toNat
   generalize l.getD i.toNat (Ty.dflt QR) = x at *
   have hT : ∀ b : Bool, lateR now limit x = b → (l.take (i.toNat + 1)).filter (lateR now limit) = bif b then (l.take i.toNat).filter (lateR now limit) ++ [x] else (l.take i.toNat).filter (lateR now limit) := fun b hb => by rw [hs, hb]
   have key : ∀ b : Bool, lateR now limit x = b → (Tr.br b (Tr.br (decide (0 ≤ i)) (Tr.br (decide (i < (l.length : Int))) (Tr.br (fits (((l.take i.toNat).filter (lateR now limit)).length + 1) 72) (Tr.ret (Sum.inl (stOf [0, 1, 2, 7, 8] [.list QR l, .int .u64 now, .int .u32 limit, .rowA 0, .int .i64 (i + 1)] [.row QR ((l.take i.toNat).filter (lateR now limit) ++ [x])]))) .no) .no) .no) (Tr.ret (Sum.inl (stOf [0, 1, 2, 7, 8] [.list QR l, .int .u64 now, .int .u32 limit, .rowA 0, .int .i64 (i + 1)] [.row QR ((l.take i.toNat).filter (lateR now limit))])))).all fun x'' => x'' = Sum.inr (Ex.exit 0, stOf [7] [.rowA 0] [.row QR (l.filter (lateR now limit))]) ∨ ∃ (w' : List QRt) (i' : Int), x'' = Sum.inl (stOf [0, 1, 2, 7, 8] [.list QR l, .int .u64 now, .int .u32 limit, .rowA 0, .int .i64 i'] [.row QR w']) ∧ (0 ≤ i' ∧ i' ≤ l.length ∧ w' = (l.take i'.toNat).filter (lateR now limit)) ∧ (l.length - i').toNat < (l.length - i).toNat := fun b hb => by
    have hT := hT b hb
    refine Tr.all_br (fun hbt => ?_) (fun hbf => ?_)
    · rw [hbt, cond_true] at hT
      refine Tr.all_t (dec_true h0) (Tr.all_t (dec_true hi) (Tr.all_t (fits_true (by omega) (by omega)) (Tr.all_ret (.inr ⟨_, _, rfl, ⟨by omega, by omega, ?_⟩, by omega⟩))))
      rw [show (i + 1).toNat = i.toNat + 1 by omega, hT]
    · rw [hbf, cond_false] at hT
      refine Tr.all_ret (.inr ⟨_, _, rfl, ⟨by omega, by omega, ?_⟩, by omega⟩)
      rw [show (i + 1).toNat = i.toNat + 1 by omega, hT]
   refine Tr.all_t (dec_true hi) (Tr.all_t (dec_true h0) (Tr.all_t (dec_true hi) (Tr.all_br (fun hu => ?_) (fun hu => ?_))))
   · exact key _ (by unfold lateR untilR; rw [hu]; rfl)
   · exact key _ (by unfold lateR untilR; rw [hu]; rfl)
 · refine Tr.all_f (dec_false hi) (Tr.all_ret (.inl ?_))
   rw [List.take_of_length_le (by omega)]
def t80 (l : List (Int × (Int × ((Int × Int) × (QQt × QQt))))) (now limit : Int) : Tr Res := .br (akW l [] 0) (.ret ([.list QR (List.filter (lateR now limit) l)], [])) .no
def os80 : OSpec := { f := 80, sh := [.d (.list QR) false, .d (.int .u64) false, .d (.int .u32) false], so := [], F := fun (l, now, limit, _) _ => t80 l now limit }
theorem fn80 (l : List (Int × (Int × ((Int × Int) × (QQt × QQt))))) (now limit : Int) : evC T0 (orcB [fs111] []) (lpOf h80 0 (lsOf [ls80])) c80 1000000 (startSt [.list QR l, .int .u64 now, .int .u32 limit] [] Try.f80.ntmps) (finishK T0 false 0 Try.f80) = (t80 l now limit).get := by kernel_rfl
theorem ok80 : os80.Ok Try.prog := by
 refine os_ok mixed0 tab0 (orcB_sound (all_cons okf111 all_nil) all_nil) h80 (d := 0) (n0 := 0) (S := lsOf [ls80]) Try.func80 (by kernel_rfl) (c := c80) (by kernel_rfl) rfl (loops_eq (xs := [(0, b80)]) (by kernel_rfl) (all_cons (ls_here loop80) all_nil)) (by omega) (by kernel_rfl) ?_
 intro x'' y'' q'' hq''
 obtain ⟨(l : List (Int × (Int × ((Int × Int) × (QQt × QQt))))), (now : Int), (limit : Int), _⟩ := x''
 exact (fn80 l now limit).trans hq''
def fs80 : FSpec := fsT 80 [((.list QR), false), ((.int .u64), false), ((.int .u32), false)] [((.list QR), false)] fun (l, now, limit, _) => t80 l now limit
theorem okf80 : fs80.Ok Try.prog := fsT_ok fun x'' r'' hr'' => ok80 x'' () r'' hr''
def okX (x : DEt) : Bool := !(decide ((x.2.1.2.2.2.1.1.length : Int) > 300)) && !(decide ((x.2.1.2.2.2.2.1.length : Int) > 300))
def akE (l : List DEt) (i : Int) : Bool := decide (i = 0)
def fewX (l : List DEt) : Bool := (l.take 101).all okX
noncomputable def b18 : Code := nthLoop c18 0
def ls18 : LoopSpec := { bid := 0, sh := [.d (.list DE) false, .d (.int .i64) false], so := [], F := fun (l, i, _) _ => .on2 (akE l i) (fewX l) (.exit 0, [.list DE l, .dead], []) (.ret, [.list DE l, .bool false], []) }
def r18 (l : List (Int × ((Int × (Int × ((Int × Int) × (QQt × QQt)))) × Int))) (i : Int) : Tr (St ⊕ (Ex × St)) := .br (decide (i < (↑l.length : Int))) (.br (decide (i < 101)) (.br (decide (0 ≤ i)) (.br (decide (i < (↑l.length : Int))) (.br (decide ((↑(List.length (l.getD i.toNat (Ty.dflt DE)).2.1.2.2.2.1.1) : Int) > 300)) (.ret (.inr (.ret, stOf [0, 2] [.list DE l, .bool false] []))) (.br (decide (0 ≤ i)) (.br (decide (i < (↑l.length : Int))) (.br (decide ((↑(List.length (l.getD i.toNat (Ty.dflt DE)).2.1.2.2.2.2.1) : Int) > 300)) (.ret (.inr (.ret, stOf [0, 2] [.list DE l, .bool false] []))) (.ret (.inl (stOf [0, 3] [.list DE l, .int .i64 (IntKind.wrap .i64 (i + 1))] [])))) .no) .no)) .no) .no) (.ret (.inr (.exit 0, stOf [0, 2] [.list DE l, .dead] [])))) (.ret (.inr (.exit 0, stOf [0, 2] [.list DE l, .dead] [])))
theorem round18 (lp : Lp) (l : List (Int × ((Int × (Int × ((Int × Int) × (QQt × QQt)))) × Int))) (i : Int) : evC T0 (orcB [] []) lp b18 0 (stOf [0, 3] [.list DE l, .int .i64 i] []) (roundK [0, 3] [0, 2] 0) = (r18 l i).get := by kernel_rfl
theorem wf18 (l : List (Int × ((Int × (Int × ((Int × Int) × (QQt × QQt)))) × Int))) (I'' : Int → Prop) (m'' : Int → Nat) (r'' : Ex × St) (h : ∀ (i : Int), I'' i → (r18 l i).all fun x'' => x'' = .inr r'' ∨ ∃ (i' : Int), x'' = .inl (stOf [0, 3] [.list DE l, .int .i64 i'] []) ∧ I'' i' ∧ m'' i' < m'' i) (lp : Lp) (i : Int) : I'' i →
    loopF (fun st => evC T0 (orcB [] []) lp b18 0 st (roundK [0, 3] [0, 2] 0)) (stOf [0, 3] [.list DE l, .int .i64 i] []) = some r'' :=
 loop_tr (fun a'' : Int => stOf [0, 3] [.list DE l, .int .i64 a''] []) (fun a'' => I'' a'') (fun a'' => m'' a'') r'' (fun a'' => r18 l a'')
  (fun a'' x hx => (round18 lp l a'').trans hx) (fun a'' ha => Tr.all_mono (fun x'' hx => hx.imp id fun ⟨i', h1, h2, h3⟩ => ⟨(i'), h1, h2, h3⟩) (h (a'') ha)) (i)
theorem loop18 : ls18.Ok T0 (orcB [] []) h18 0 0 b18 := by
 intro q'' hq'' x'' y'' r'' h
 obtain ⟨(l : List (Int × ((Int × (Int × ((Int × Int) × (QQt × QQt)))) × Int))), (i : Int), _⟩ := x''
 obtain ⟨hc, rfl⟩ := Tr.get_on2 h
 show loopF (fun st => evC T0 (orcB [] []) (lpN T0 (orcB [] []) h18 0 q'') b18 0 st (roundK [0, 3] [0, 2] 0)) (stOf [0, 3] [.list DE l, .int .i64 i] []) = some ((bif fewX l then (.exit 0, [.list DE l, .dead], []) else (.ret, [.list DE l, .bool false], []) : Ex × List AV × List LObj).1, stOf [0, 2] (bif fewX l then (.exit 0, [.list DE l, .dead], []) else (.ret, [.list DE l, .bool false], []) : Ex × List AV × List LObj).2.1 (bif fewX l then (.exit 0, [.list DE l, .dead], []) else (.ret, [.list DE l, .bool false], []) : Ex × List AV × List LObj).2.2)
 simp only [akE, decide_eq_true_eq] at hc
 subst hc
 refine wf18 l (fun i => 0 ≤ i ∧ i ≤ l.length ∧ i ≤ 101 ∧ ((l.take 101).drop i.toNat).all okX = fewX l) (fun i => (l.length - i).toNat) _ ?_ _ 0 ⟨by omega, by omega, by omega, rfl⟩
 rintro i ⟨h0, h1, h2, he⟩
 unfold r18
 rw [wrap_succ (n := 101) h0 (by omega) (by omega)]
 have hm : (l.take 101).length = min 101 l.length := List.length_take
 have hend : ¬ (i < (l.length : Int) ∧ i < 101) → true = fewX l := fun h => by
  rw [List.drop_eq_nil_of_le (by omega)] at he
  rw [← he]
  rfl
 by_cases hi : i < l.length
 · by_cases hj : i < 101
   · rw [drop_cons2 (l := l.take 101) (k := i.toNat) (by omega) (Ty.dflt DE), List.getD_eq_getElem?_getD, List.getElem?_take, if_pos (by omega), ← List.getD_eq_getElem?_getD, List.all_cons] at he
     generalize l.getD i.toNat (Ty.dflt DE) = x at *
     have hno : ∀ b : Bool, okX x = b → (b && ((l.take 101).drop (i.toNat + 1)).all okX) = fewX l := fun b h => by rw [← h]; exact he
     refine Tr.all_t (dec_true hi) (Tr.all_t (dec_true hj) (Tr.all_t (dec_true h0) (Tr.all_t (dec_true hi) (Tr.all_br (fun h => ?_) (fun h => Tr.all_t (dec_true h0) (Tr.all_t (dec_true hi) (Tr.all_br (fun h3 => ?_) (fun h3 => ?_))))))))
     · have := hno false (by unfold okX; rw [h]; rfl)
       rw [← this]
       exact Tr.all_ret (.inl rfl)
     · have := hno false (by unfold okX; rw [h, h3]; rfl)
       rw [← this]
       exact Tr.all_ret (.inl rfl)
     · have := hno true (by unfold okX; rw [h, h3]; rfl)
       exact Tr.all_ret (.inr ⟨_, rfl, ⟨by omega, by omega, by omega, by rw [show (i + 1).toNat = i.toNat + 1 by omega]; exact this⟩, by omega⟩)
   · rw [← hend (fun h => hj h.2)]
     exact Tr.all_t (dec_true hi) (Tr.all_f (dec_false hj) (Tr.all_ret (.inl rfl)))
 · rw [← hend (fun h => hi h.1)]
   exact Tr.all_f (dec_false hi) (Tr.all_ret (.inl rfl))
def t18 (l : List (Int × ((Int × (Int × ((Int × Int) × (QQt × QQt)))) × Int))) : Tr Res := .br (fewX l) (.ret ([.bool (decide ((↑l.length : Int) ≤ 100))], [])) (.ret ([.bool false], []))
def os18 : OSpec := { f := 18, sh := [.d (.list DE) false], so := [], F := fun (l, _) _ => t18 l }
theorem fn18 (l : List (Int × ((Int × (Int × ((Int × Int) × (QQt × QQt)))) × Int))) : evC T0 (orcB [] []) (lpOf h18 0 (lsOf [ls18])) c18 1000000 (startSt [.list DE l] [] Try.f18.ntmps) (finishK T0 false 0 Try.f18) = (t18 l).get := by kernel_rfl
theorem ok18 : os18.Ok Try.prog := by
 refine os_ok mixed0 tab0 (orcB_sound all_nil all_nil) h18 (d := 0) (n0 := 0) (S := lsOf [ls18]) Try.func18 (by kernel_rfl) (c := c18) (by kernel_rfl) rfl (loops_eq (xs := [(0, b18)]) (by kernel_rfl) (all_cons (ls_here loop18) all_nil)) (by omega) (by kernel_rfl) ?_
 intro x'' y'' q'' hq''
 obtain ⟨(l : List (Int × ((Int × (Int × ((Int × Int) × (QQt × QQt)))) × Int))), _⟩ := x''
 exact (fn18 l).trans hq''
def fs18 : FSpec := fsT 18 [((.list DE), false)] [(.bool, false)] fun (l, _) => t18 l
theorem okf18 : fs18.Ok Try.prog := fsT_ok fun x'' r'' hr'' => ok18 x'' () r'' hr''
def portD (draw : Int) : Int := 1024 + draw / 65536 % 64512
def openY (all : List QRt) (x : QRt) (draw : Int) : QRt := (nextI all (portD draw) (draw % 65536), portD draw, x.2.2)
def akT (all : List QRt) (draw : Int) : Bool := Nat.ble all.length 1000 && (decide (0 ≤ draw) && decide (draw < 4294967296))
def akL (all : List QRt) : Bool := Nat.ble all.length 1000
def zeroQ : QRt := (0, 0, (0, 0), ([], 0, 0), [], 0, 0)
theorem nextF_rng {all : List QRt} {p : Int} : ∀ {k : Nat} {i : Int}, 0 ≤ i → i < 65536 → 0 ≤ nextF all p k i ∧ nextF all p k i < 65536
 | 0, i, h0, h1 => ⟨h0, h1⟩
 | k + 1, i, h0, h1 => by
   rw [nextF]
   cases takenB all p i with
   | true => exact nextF_rng (by omega) (by omega)
   | false => exact ⟨h0, h1⟩
theorem nextI_rng {all : List QRt} {p i : Int} (h0 : 0 ≤ i) (h1 : i < 65536) : 0 ≤ nextI all p i ∧ nextI all p i < 65536 := nextF_rng h0 h1
theorem draw_lo {d : Int} (h0 : 0 ≤ d) (h1 : d < 4294967296) : IntKind.wrap IntKind.u16 d = d % 65536 := rfl
theorem draw_hi {d : Int} (h0 : 0 ≤ d) (h1 : d < 4294967296) : IntKind.wrap IntKind.u16 (IntKind.wrap IntKind.u32 ((1024 : Int) + Int.tmod (Int.fdiv d ((2 : Int) ^ min (Int.toNat (16 : Int)) (IntKind.bits IntKind.u32))) (64512 : Int))) = portD d := by
 have e1 : Int.fdiv d ((2 : Int) ^ min (Int.toNat (16 : Int)) (IntKind.bits IntKind.u32)) = d / 65536 := by
  show Int.fdiv d 65536 = _
  exact Int.fdiv_eq_ediv_of_nonneg _ (by omega)
 rw [e1, Int.tmod_eq_emod_of_nonneg (by omega)]
 show ((1024 + d / 65536 % 64512) % 4294967296) % 65536 = _
 unfold portD
 omega
theorem draw_hi2 {d : Int} (h0 : 0 ≤ d) (h1 : d < 4294967296) : IntKind.wrap IntKind.u16 (IntKind.wrap IntKind.u32 ((1024 : Int) + Int.tmod (IntKind.wrap IntKind.u32 (Int.tdiv d (65536 : Int))) (64512 : Int))) = portD d := by
 have e1 : Int.tdiv d 65536 = d / 65536 := Int.tdiv_eq_ediv_of_nonneg h0
 have e2 : IntKind.wrap IntKind.u32 (d / 65536) = d / 65536 := by
  show (d / 65536) % 4294967296 = _
  omega
 rw [e1, e2, Int.tmod_eq_emod_of_nonneg (by omega)]
 show ((1024 + d / 65536 % 64512) % 4294967296) % 65536 = _
 unfold portD
 omega
theorem draw_lo2 {d : Int} (h0 : 0 ≤ d) (h1 : d < 4294967296) : IntKind.wrap IntKind.i64 (Int.tmod d 65536) = d % 65536 := by
 rw [Int.tmod_eq_emod_of_nonneg h0, IntWalk.i64_in _ (by omega)]
def os20p : OSpec := os20.like fun (x, draw, _) ((host, room, _), all, _) => .br (akT all draw) (.br (decide (room ≤ (List.length all : Int))) (.ret ([AV.ofTy QR zeroQ true, .int .i64 5], [.box [.int .u32 host, .int .i64 room, .rowA 1], .row QR all])) (.ret ([AV.ofTy QR (openY all x draw) true, .int .i64 0], [.box [.int .u32 host, .int .i64 room, .rowA 1], .row QR (all ++ [openY all x draw])]))) .no
theorem get_br {α : Type} {c : Bool} {x y : Tr α} {r : α} (h : (Tr.br c x y).get = some r) : (c = true ∧ x.get = some r) ∨ (c = false ∧ y.get = some r) := by
 cases c
 · exact .inr ⟨rfl, h⟩
 · exact .inl ⟨rfl, h⟩
theorem get_no {α : Type} {r : α} (h : (Tr.no : Tr α).get = some r) : False := by cases h
theorem akT_all {all : List QRt} {draw : Int} (h : akT all draw = true) : all.length ≤ 1000 ∧ 0 ≤ draw ∧ draw < 4294967296 := by
 simp only [akT, Bool.and_eq_true, decide_eq_true_eq] at h
 exact ⟨Nat.le_of_ble_eq_true h.1, h.2.1, h.2.2⟩
theorem opC_ok {all : List QRt} {d : Int} (h : all.length ≤ 1000) : opC all (d % 65536) = true := by
 rw [opC, Nat.ble_eq_true_of_le h, dec_true (by omega), dec_true (by omega)]
 rfl
theorem akO_ok {all : List QRt} {d : Int} (h : all.length ≤ 1000) : akO all (d % 65536) = true := by
 rw [akO, Nat.ble_eq_true_of_le h, dec_true (by omega), dec_true (by omega)]
 rfl
theorem ok20p : os20p.Ok Try.prog := by
 refine like_ok ok20 _ ?_
 rintro ⟨(x : QRt), (draw : Int), _⟩ ⟨⟨(host : Int), (room : Int), _⟩, (all : List QRt), _⟩ r h
 refine Tr.get_of_all ?_
 show (t20 x draw host room all).all _
 rcases get_br h with ⟨hc, h⟩ | ⟨_, h⟩
 · obtain ⟨hl, h0, h1⟩ := akT_all hc
   unfold t20
   rw [draw_hi h0 h1, draw_lo h0 h1]
   rcases get_br h with ⟨hc, h⟩ | ⟨hc, h⟩
   · cases h
     have hc := of_decide_eq_true hc
     exact Tr.all_t (dec_true (by omega)) (Tr.all_ret rfl)
   · cases h
     have hc := of_decide_eq_false hc
     exact Tr.all_f (dec_false (by omega)) (Tr.all_t (opC_ok hl) (Tr.all_t (fits_true (by omega) (by omega)) (Tr.all_ret rfl)))
 · exact (get_no h).elim
def fs78p : FSpec := fs78.like fun (l, room, x, draw, _) => .br (akT l draw) (.br (decide (room ≤ (List.length l : Int))) (.ret (l, zeroQ, (5 : Int), ())) (.ret (l ++ [openY l x draw], openY l x draw, (0 : Int), ()))) .no
theorem okf78p : fs78p.Ok Try.prog := by
 refine flike_ok okf78 _ ?_
 rintro ⟨(l : List QRt), (room : Int), (x : QRt), (draw : Int), _⟩ y h
 rcases get_br h with ⟨hc, h⟩ | ⟨_, h⟩
 · obtain ⟨hl, h0, h1⟩ := akT_all hc
   have hn := nextI_rng (all := l) (p := portD draw) (i := draw % 65536) (by omega) (by omega)
   rcases get_br h with ⟨hc, h⟩ | ⟨hc, h⟩
   · cases h
     have hc := of_decide_eq_true hc
     refine convR_of (vs := [.list QR l, AV.ofTy QR zeroQ true, .int .i64 5]) rfl rfl (Tr.get_of_all ?_)
     show (t78 l room x draw).all _
     unfold t78
     exact Tr.all_t (dec_true (by omega)) (Tr.all_ret rfl)
   · cases h
     have hc := of_decide_eq_false hc
     refine convR_of (vs := [.list QR (l ++ [openY l x draw]), AV.ofTy QR (openY l x draw) true, .int .i64 0]) rfl rfl (Tr.get_of_all ?_)
     show (t78 l room x draw).all _
     unfold t78
     rw [draw_hi2 h0 h1, draw_lo2 h0 h1, u16_in hn.1 hn.2, List.nil_append]
     exact Tr.all_f (dec_false (by omega)) (Tr.all_t (fits_true (by omega) (by omega)) (Tr.all_t (akO_ok hl) (Tr.all_t (fits_true (by omega) (by omega)) (Tr.all_ret rfl))))
 · exact (get_no h).elim
def cutF (all : List QRt) (p qi : Int) : List QRt := delR all (idxL (ipB qi p) all 0)
theorem idxL_lt {α : Type} (f : α → Bool) : ∀ (l : List α) (k : Nat), idxL f l k < (k : Int) + l.length
 | [], k => by simp only [idxL, List.length_nil]; omega
 | x :: l, k => by
   simp only [idxL, List.length_cons]
   split
   · omega
   · have := idxL_lt f l (k + 1)
     omega
def os23p : OSpec := os23.like fun (x, _) ((host, room, _), all, _) => .br (akL all) (.br (takenB all (Prod.fst (Prod.snd x)) (Prod.fst x)) (.ret ([.bool true], [.box [.int .u32 host, .int .i64 room, .rowA 2], .row QR all, .row QR (cutF all (Prod.fst (Prod.snd x)) (Prod.fst x))])) (.ret ([.bool false], [.box [.int .u32 host, .int .i64 room, .rowA 1], .row QR all]))) .no
theorem ok23p : os23p.Ok Try.prog := by
 refine like_ok ok23 _ ?_
 rintro ⟨(x : QRt), _⟩ ⟨⟨(host : Int), (room : Int), _⟩, (all : List QRt), _⟩ r h
 refine Tr.get_of_all ?_
 show (t23 x host room all).all _
 rcases get_br h with ⟨hc, h⟩ | ⟨_, h⟩
 · have hl := Nat.le_of_ble_eq_true hc
   unfold t23
   have hlt := idxL_lt (ipB x.1 x.2.1) all 0
   rcases get_br h with ⟨hc, h⟩ | ⟨hc, h⟩
   · cases h
     rcases idx_taken (all := all) (p := x.2.1) (id := x.1) with ⟨ht, he⟩ | ⟨ht, he⟩
     · rw [hc] at ht; cases ht
     · rw [IntWalk.i64_in _ (by omega)]
       exact Tr.all_t (ixA_ok hl) (Tr.all_f (dec_false (by omega)) (Tr.all_f (dec_false (by omega)) (Tr.all_t (fits_true (by omega) (by omega)) (Tr.all_t (by rw [delC, Nat.ble_eq_true_of_le hl, dec_true he, dec_true (by omega), dec_true rfl]; rfl) (Tr.all_ret rfl)))))
   · cases h
     rcases idx_taken (all := all) (p := x.2.1) (id := x.1) with ⟨ht, he⟩ | ⟨ht, he⟩
     · exact Tr.all_t (ixA_ok hl) (Tr.all_t (dec_true (by rw [he]; decide)) (Tr.all_ret rfl))
     · rw [hc] at ht; cases ht
 · exact (get_no h).elim
def fs79p : FSpec := fs79.like fun (l, qi, port, _) => .br (akL l) (.br (takenB l port qi) (.ret (cutF l port qi, true, ())) (.ret (l, false, ()))) .no
theorem okf79p : fs79p.Ok Try.prog := by
 refine flike_ok okf79 _ ?_
 rintro ⟨(l : List QRt), (qi : Int), (port : Int), _⟩ y h
 rcases get_br h with ⟨hc, h⟩ | ⟨_, h⟩
 · have hl := Nat.le_of_ble_eq_true hc
   have hlt := idxL_lt (ipB qi port) l 0
   have hF : akF l 0 = true := by rw [akF, Nat.ble_eq_true_of_le (by omega)]; rfl
   rcases get_br h with ⟨hc, h⟩ | ⟨hc, h⟩
   · cases h
     rcases idx_taken (all := l) (p := port) (id := qi) with ⟨ht, he⟩ | ⟨ht, he⟩
     · rw [hc] at ht; cases ht
     · refine convR_of (vs := [.list QR (cutF l port qi), .bool true]) rfl rfl (Tr.get_of_all ?_)
       show (t79 l qi port).all _
       unfold t79
       obtain ⟨k, hk⟩ : ∃ k : Nat, idxL (ipB qi port) l 0 = k := ⟨(idxL (ipB qi port) l 0).toNat, by omega⟩
       have e1 : cutF l port qi = l.take k ++ l.drop (k + 1) := by rw [cutF, hk, delR, Int.toNat_natCast]
       rw [e1, hk, IntWalk.i64_in _ (by omega), show ((k : Int) + 1).toNat = k + 1 by omega, show ((k : Int)).toNat = k by omega, show ((l.length : Int)).toNat = l.length by omega, show Int.toNat 0 = 0 from rfl]
       rw [show List.take (l.length - (k + 1)) (List.drop (k + 1) l) = List.drop (k + 1) l from List.take_of_length_le (by rw [List.length_drop]; omega)]
       simp only [List.length_drop, List.length_append, List.length_take, List.nil_append, List.drop_zero, Nat.sub_zero, Nat.zero_add, Int.toNat_natCast]
       repeat (first
        | exact Tr.all_ret rfl
        | refine Tr.all_t hF ?_
        | refine Tr.all_t (by simp only [Bool.and_eq_true, Bool.false_or, decide_eq_true_eq, beq_iff_eq]; omega) ?_
        | refine Tr.all_f (by simp only [Bool.and_eq_false_iff, Bool.false_or, decide_eq_false_iff_not, beq_eq_false_iff_ne, ne_eq]; omega) ?_
        | refine Tr.all_t (fits_true (by omega) (by omega)) ?_)
   · cases h
     rcases idx_taken (all := l) (p := port) (id := qi) with ⟨ht, he⟩ | ⟨ht, he⟩
     · refine convR_of (vs := [.list QR l, .bool false]) rfl rfl (Tr.get_of_all ?_)
       show (t79 l qi port).all _
       unfold t79
       exact Tr.all_t hF (Tr.all_t (dec_true (by rw [he]; decide)) (Tr.all_ret rfl))
     · rw [hc] at ht; cases ht
 · exact (get_no h).elim
def t50 (l : List (Int × (Int × ((Int × Int) × (QQt × QQt))))) (room : Int) (x : (Int × ((Int × (Int × ((Int × Int) × (QQt × QQt)))) × Int))) (host room2 : Int) (all : List (Int × (Int × ((Int × Int) × (QQt × QQt))))) : Tr Res := .br (x.1 == 0) (.br (akT all x.2.2) (.br (decide (room2 ≤ (↑all.length : Int))) (.br (akT l x.2.2) (.br (decide (room ≤ (↑l.length : Int))) (.ret ([.list QR l, .bool (5 == 5)], [.boxT none [.int .u32 host, .int .i64 room2, .rowA 1], .row QR all])) (.br (zeroQ.1 == (openY l x.2.1 x.2.2).1 && (zeroQ.2.1 == (openY l x.2.1 x.2.2).2.1 && (zeroQ.2.2.1.1 == (openY l x.2.1 x.2.2).2.2.1.1 && (zeroQ.2.2.1.2 == (openY l x.2.1 x.2.2).2.2.1.2 && true) && (zeroQ.2.2.2.1.1 == (openY l x.2.1 x.2.2).2.2.2.1.1 && (zeroQ.2.2.2.1.2.1 == (openY l x.2.1 x.2.2).2.2.2.1.2.1 && (zeroQ.2.2.2.1.2.2 == (openY l x.2.1 x.2.2).2.2.2.1.2.2 && true)) && (zeroQ.2.2.2.2.1 == (openY l x.2.1 x.2.2).2.2.2.2.1 && (zeroQ.2.2.2.2.2.1 == (openY l x.2.1 x.2.2).2.2.2.2.2.1 && (zeroQ.2.2.2.2.2.2 == (openY l x.2.1 x.2.2).2.2.2.2.2.2 && true))))))) (.ret ([.list QR (l ++ [openY l x.2.1 x.2.2]), .bool (5 == 0)], [.boxT none [.int .u32 host, .int .i64 room2, .rowA 1], .row QR all])) (.ret ([.list QR (l ++ [openY l x.2.1 x.2.2]), .bool false], [.boxT none [.int .u32 host, .int .i64 room2, .rowA 1], .row QR all])))) .no) (.br (akT l x.2.2) (.br (decide (room ≤ (↑l.length : Int))) (.br ((openY all x.2.1 x.2.2).1 == zeroQ.1 && ((openY all x.2.1 x.2.2).2.1 == zeroQ.2.1 && ((openY all x.2.1 x.2.2).2.2.1.1 == zeroQ.2.2.1.1 && ((openY all x.2.1 x.2.2).2.2.1.2 == zeroQ.2.2.1.2 && true) && ((openY all x.2.1 x.2.2).2.2.2.1.1 == zeroQ.2.2.2.1.1 && ((openY all x.2.1 x.2.2).2.2.2.1.2.1 == zeroQ.2.2.2.1.2.1 && ((openY all x.2.1 x.2.2).2.2.2.1.2.2 == zeroQ.2.2.2.1.2.2 && true)) && ((openY all x.2.1 x.2.2).2.2.2.2.1 == zeroQ.2.2.2.2.1 && ((openY all x.2.1 x.2.2).2.2.2.2.2.1 == zeroQ.2.2.2.2.2.1 && ((openY all x.2.1 x.2.2).2.2.2.2.2.2 == zeroQ.2.2.2.2.2.2 && true))))))) (.ret ([.list QR l, .bool (0 == 5)], [.boxT none [.int .u32 host, .int .i64 room2, .rowA 1], .row QR (all ++ [openY all x.2.1 x.2.2])])) (.ret ([.list QR l, .bool false], [.boxT none [.int .u32 host, .int .i64 room2, .rowA 1], .row QR (all ++ [openY all x.2.1 x.2.2])]))) (.br ((openY all x.2.1 x.2.2).1 == (openY l x.2.1 x.2.2).1 && ((openY all x.2.1 x.2.2).2.1 == (openY l x.2.1 x.2.2).2.1 && ((openY all x.2.1 x.2.2).2.2.1.1 == (openY l x.2.1 x.2.2).2.2.1.1 && ((openY all x.2.1 x.2.2).2.2.1.2 == (openY l x.2.1 x.2.2).2.2.1.2 && true) && ((openY all x.2.1 x.2.2).2.2.2.1.1 == (openY l x.2.1 x.2.2).2.2.2.1.1 && ((openY all x.2.1 x.2.2).2.2.2.1.2.1 == (openY l x.2.1 x.2.2).2.2.2.1.2.1 && ((openY all x.2.1 x.2.2).2.2.2.1.2.2 == (openY l x.2.1 x.2.2).2.2.2.1.2.2 && true)) && ((openY all x.2.1 x.2.2).2.2.2.2.1 == (openY l x.2.1 x.2.2).2.2.2.2.1 && ((openY all x.2.1 x.2.2).2.2.2.2.2.1 == (openY l x.2.1 x.2.2).2.2.2.2.2.1 && ((openY all x.2.1 x.2.2).2.2.2.2.2.2 == (openY l x.2.1 x.2.2).2.2.2.2.2.2 && true))))))) (.ret ([.list QR (l ++ [openY l x.2.1 x.2.2]), .bool (0 == 0)], [.boxT none [.int .u32 host, .int .i64 room2, .rowA 1], .row QR (all ++ [openY all x.2.1 x.2.2])])) (.ret ([.list QR (l ++ [openY l x.2.1 x.2.2]), .bool false], [.boxT none [.int .u32 host, .int .i64 room2, .rowA 1], .row QR (all ++ [openY all x.2.1 x.2.2])])))) .no)) .no) (.br (x.1 == 1) (.br (akL all) (.br (takenB all x.2.1.2.1 x.2.1.1) (.br (akL l) (.br (takenB l x.2.1.2.1 x.2.1.1) (.ret ([.list QR (cutF l x.2.1.2.1 x.2.1.1), .bool (true == true)], [.boxT none [.int .u32 host, .int .i64 room2, .rowA 2], .row QR all, .row QR (cutF all x.2.1.2.1 x.2.1.1)])) (.ret ([.list QR l, .bool (true == false)], [.boxT none [.int .u32 host, .int .i64 room2, .rowA 2], .row QR all, .row QR (cutF all x.2.1.2.1 x.2.1.1)]))) .no) (.br (akL l) (.br (takenB l x.2.1.2.1 x.2.1.1) (.ret ([.list QR (cutF l x.2.1.2.1 x.2.1.1), .bool (false == true)], [.boxT none [.int .u32 host, .int .i64 room2, .rowA 1], .row QR all])) (.ret ([.list QR l, .bool (false == false)], [.boxT none [.int .u32 host, .int .i64 room2, .rowA 1], .row QR all]))) .no)) .no) (.br (akS all [] (↑all.length : Int) 0) (.br (akW (List.filter (lateB x.2.1.2.2.2.2.2.2 x.2.2) all) [] 0) (.br (akW l [] 0) (.br ((↑(List.length (List.filter (lateB x.2.1.2.2.2.2.2.2 x.2.2) all)) : Int) != (↑(List.length (List.filter (lateR x.2.1.2.2.2.2.2.2 x.2.2) l)) : Int)) (.ret ([.list QR l, .bool false], [.boxT none [.int .u32 host, .int .i64 room2, .rowA 1], .row QR all])) (.br (akP (List.filter (lateB x.2.1.2.2.2.2.2.2 x.2.2) all) (List.filter (lateR x.2.1.2.2.2.2.2.2 x.2.2) l) 0) (.br (sameQ (List.filter (lateB x.2.1.2.2.2.2.2.2 x.2.2) all) (List.filter (lateR x.2.1.2.2.2.2.2.2 x.2.2) l)) (.ret ([.list QR l, .bool true], [.boxT none [.int .u32 host, .int .i64 room2, .rowA 1], .row QR all])) (.ret ([.list QR l, .bool false], [.boxT none [.int .u32 host, .int .i64 room2, .rowA 1], .row QR all]))) .no)) .no) .no) .no))
def os50 : OSpec := { f := 50, sh := [.ptr 0 0, .d (.list QR) false, .d (.int .i64) false, .d DE true], so := [.box [.d (.int .u32) false, .d (.int .i64) false, .row 1], .row QR], F := fun (l, room, x, _) ((host, room2, _), all, _) => t50 l room x host room2 all }
theorem fn50 (l : List (Int × (Int × ((Int × Int) × (QQt × QQt))))) (room : Int) (x : (Int × ((Int × (Int × ((Int × Int) × (QQt × QQt)))) × Int))) (host room2 : Int) (all : List (Int × (Int × ((Int × Int) × (QQt × QQt))))) : evC T50 (orcB [fs16, fs53, fs24, fs78p, fs79p, fs80, fs26] [os20p, os23p, os21]) (lpOf h50 2 (lsOf [])) c50 1000000 (startSt [.ptr 0 0, .list QR l, .int .i64 room, AV.ofTy DE x true] [.box [.int .u32 host, .int .i64 room2, .rowA 1], .row QR all] Try.f50.ntmps) (finishK T50 false 2 Try.f50) = (t50 l room x host room2 all).get := by kernel_rfl
theorem ok50 : os50.Ok Try.prog := by
 refine os_ok mixed0 (tab_live tab0 v50 u50) (orcB_sound (all_cons okf16 (all_cons okf53 (all_cons okf24 (all_cons okf78p (all_cons okf79p (all_cons okf80 (all_cons okf26 all_nil))))))) (all_cons ok20p (all_cons ok23p (all_cons ok21 all_nil)))) h50 (d := 0) (n0 := 2) (S := lsOf []) Try.func50 (by kernel_rfl) (c := c50) (by kernel_rfl) rfl (no_loops (by kernel_rfl)) (by omega) (by kernel_rfl) ?_
 intro x'' y'' q'' hq''
 obtain ⟨(l : List (Int × (Int × ((Int × Int) × (QQt × QQt))))), (room : Int), (x : (Int × ((Int × (Int × ((Int × Int) × (QQt × QQt)))) × Int))), _⟩ := x''
 obtain ⟨⟨(host : Int), (room2 : Int), _⟩, (all : List (Int × (Int × ((Int × Int) × (QQt × QQt))))), _⟩ := y''
 exact (fn50 l room x host room2 all).trans hq''
def rgK (q : QRt) : Bool := decide (0 ≤ q.2.2.2.2.2.2) && decide (q.2.2.2.2.2.2 < 18446744073709551616)
def rgD (x : DEt) : Bool := (decide (0 ≤ x.2.2) && decide (x.2.2 < 4294967296)) && rgK x.2.1
def stepD (room : Int) (all : List QRt) (x : DEt) : List QRt :=
 bif x.1 == 0 then (bif decide (room ≤ (all.length : Int)) then all else all ++ [openY all x.2.1 x.2.2]) else bif x.1 == 1 then (bif takenB all x.2.1.2.1 x.2.1.1 then cutF all x.2.1.2.1 x.2.1.1 else all) else all
def akG (l all : List QRt) (room room2 : Int) (x : DEt) : Bool := sameQ l all && (decide (room = room2) && (akL all && (rgD x && all.all rgK)))
theorem until_eq {s b : Int} (hs : 0 ≤ s ∧ s < 18446744073709551616) (hb : 0 ≤ b ∧ b < 4294967296) : untilF s b = untilR s b := by
 have e1 : IntKind.wrap IntKind.u64 b = b := by show b % 18446744073709551616 = b; omega
 have e2 : IntKind.wrap IntKind.u64 (18446744073709551615 - s) = 18446744073709551615 - s := by show (18446744073709551615 - s) % 18446744073709551616 = _; omega
 have e3 : IntKind.wrap IntKind.u64 (s + b) = (s + b) % 18446744073709551616 := rfl
 unfold untilF untilR
 rw [e1, e2, e3]
 by_cases h : b > 18446744073709551615 - s
 · rw [dec_true h, dec_true (by omega)]
 · rw [dec_false h, dec_false (by omega)]
theorem late_eq {now b : Int} {q : QRt} (hq : rgK q = true) (hb : 0 ≤ b ∧ b < 4294967296) : lateB now b q = lateR now b q := by
 simp only [rgK, Bool.and_eq_true, decide_eq_true_eq] at hq
 unfold lateB lateR
 rw [until_eq hq hb]
 by_cases h : untilR q.2.2.2.2.2.2 b > now
 · rw [dec_true h, dec_false (by omega)]
   rfl
 · rw [dec_false h, dec_true (by omega)]
   rfl
theorem late_fil {now b : Int} {all : List QRt} (hq : all.all rgK = true) (hb : 0 ≤ b ∧ b < 4294967296) : all.filter (lateB now b) = all.filter (lateR now b) :=
 List.filter_congr fun q h => late_eq (List.all_eq_true.1 hq q h) hb
def os50p : OSpec := os50.like fun (l, room, x, _) ((host, room2, _), all, _) => .br (akG l all room room2 x) (.br ((Prod.fst x == 1) && takenB all (Prod.fst (Prod.snd (Prod.fst (Prod.snd x)))) (Prod.fst (Prod.fst (Prod.snd x)))) (.ret ([.list QR (stepD room2 all x), .bool true], [.box [.int .u32 host, .int .i64 room2, .rowA 2], .row QR all, .row QR (stepD room2 all x)])) (.ret ([.list QR (stepD room2 all x), .bool true], [.box [.int .u32 host, .int .i64 room2, .rowA 1], .row QR (stepD room2 all x)]))) .no
theorem ok50p : os50p.Ok Try.prog := by
 refine like_ok ok50 _ ?_
 rintro ⟨(l : List QRt), (room : Int), (x : DEt), _⟩ ⟨⟨(host : Int), (room2 : Int), _⟩, (all : List QRt), _⟩ r h
 refine Tr.get_of_all ?_
 show (t50 l room x host room2 all).all _
 rcases get_br h with ⟨hc, h⟩ | ⟨_, h⟩
 · simp only [akG, Bool.and_eq_true, decide_eq_true_eq] at hc
   obtain ⟨h1, rfl, h2, h3, h4⟩ := hc
   obtain rfl := sameQ_iff.1 h1
   have hl := Nat.le_of_ble_eq_true h2
   simp only [rgD, Bool.and_eq_true, decide_eq_true_eq] at h3
   obtain ⟨hd, hx⟩ := h3
   have hT : akT l x.2.2 = true := by rw [akT, Nat.ble_eq_true_of_le hl, dec_true hd.1, dec_true hd.2]; rfl
   unfold t50
   by_cases k0 : x.1 == 0
   · have k1 : (x.1 == 1) = false := by have := eq_of_beq k0; rw [this]; rfl
     rcases get_br h with ⟨hc, h⟩ | ⟨_, h⟩
     · simp only [Bool.and_eq_true] at hc
       have hc := hc.1
       rw [show (Prod.fst x == 1) = (x.1 == 1) from rfl, k1] at hc
       cases hc
     · cases h
       refine Tr.all_t k0 (Tr.all_t hT ?_)
       unfold stepD
       rw [k0, cond_true]
       by_cases hr : room ≤ (l.length : Int)
       · rw [dec_true hr]
         exact Tr.all_t rfl (Tr.all_t hT (Tr.all_t rfl (Tr.all_ret rfl)))
       · rw [dec_false hr]
         refine Tr.all_f rfl (Tr.all_t hT (Tr.all_f rfl (Tr.all_t ?_ (Tr.all_ret rfl))))
         exact eqQ_iff.2 rfl
   · have k0 : (x.1 == 0) = false := by simpa using k0
     refine Tr.all_f k0 ?_
     by_cases k1 : x.1 == 1
     · have hst : stepD room l x = bif takenB l x.2.1.2.1 x.2.1.1 then cutF l x.2.1.2.1 x.2.1.1 else l := by unfold stepD; rw [k0, k1, cond_false, cond_true]
       refine Tr.all_t k1 (Tr.all_t h2 ?_)
       rcases get_br h with ⟨hc, h⟩ | ⟨hc, h⟩
       · cases h
         simp only [Bool.and_eq_true] at hc
         have hc : takenB l x.2.1.2.1 x.2.1.1 = true := hc.2
         rw [hst, hc]
         exact Tr.all_t rfl (Tr.all_t h2 (Tr.all_t rfl (Tr.all_ret rfl)))
       · cases h
         have hc : ((x.1 == 1) && takenB l x.2.1.2.1 x.2.1.1) = false := hc
         rw [k1, Bool.true_and] at hc
         rw [hst, hc]
         exact Tr.all_f rfl (Tr.all_t h2 (Tr.all_f rfl (Tr.all_ret rfl)))
     · have k1 : (x.1 == 1) = false := by simpa using k1
       have hst : stepD room l x = l := by unfold stepD; rw [k0, k1]; rfl
       rcases get_br h with ⟨hc, h⟩ | ⟨hc, h⟩
       · simp only [Bool.and_eq_true] at hc
         have hc := hc.1
         rw [show (Prod.fst x == 1) = (x.1 == 1) from rfl, k1] at hc
         cases hc
       · cases h
         have hfl := List.length_filter_le (lateB x.2.1.2.2.2.2.2.2 x.2.2) l
         have hfe := late_fil (now := x.2.1.2.2.2.2.2.2) h4 hd
         rw [hst]
         refine Tr.all_f k1 (Tr.all_t (by rw [akS, Nat.ble_eq_true_of_le hl, dec_true rfl, dec_true rfl]; rfl) (Tr.all_t (by rw [akW, Nat.ble_eq_true_of_le (by omega)]; rfl) (Tr.all_t (by rw [akW, Nat.ble_eq_true_of_le hl]; rfl) ?_)))
         rw [← hfe]
         refine Tr.all_f (by simp) (Tr.all_t (by rw [akP, Nat.ble_eq_true_of_le (by omega), dec_true rfl]; rfl) (Tr.all_t (sameQ_iff.2 rfl) (Tr.all_ret rfl)))
 · exact (get_no h).elim
def ranF (l : List DEt) : List QRt := l.foldl (stepD 6) []
def akR (l : List DEt) (k all : List QRt) (host room i : Int) : Bool := Nat.ble l.length 1000000 && (l.all rgD && (decide (k = []) && (decide (all = []) && (decide (host = 7) && (decide (room = 6) && decide (i = 0))))))
theorem take_foldl {α β : Type} (f : β → α → β) (b : β) (l : List α) (k : Nat) (d : α) (h : k < l.length) : (l.take (k + 1)).foldl f b = f ((l.take k).foldl f b) (l.getD k d) := by
 rw [List.take_add_one, List.getElem?_eq_getElem h, List.foldl_append, List.getD_eq_getElem?_getD, List.getElem?_eq_getElem h]
 rfl
def okK (room : Int) (all : List QRt) : Prop := (all.length : Int) ≤ room ∧ all.all rgK = true
theorem delR_sub {all : List QRt} {i : Int} : (∀ q ∈ delR all i, q ∈ all) ∧ (delR all i).length ≤ all.length := by
 unfold delR
 refine ⟨fun q h => ?_, ?_⟩
 · rcases List.mem_append.1 h with h | h
   · exact List.mem_of_mem_take h
   · exact List.mem_of_mem_drop h
 · rw [List.length_append, List.length_take, List.length_drop]
   omega
theorem step_ok {room : Int} {all : List QRt} {x : DEt} (h : okK room all) (hx : rgD x = true) : okK room (stepD room all x) := by
 obtain ⟨h1, h2⟩ := h
 simp only [rgD, Bool.and_eq_true] at hx
 unfold stepD
 cases x.1 == 0 with
 | true =>
   rw [cond_true]
   by_cases hr : room ≤ (all.length : Int)
   · rw [dec_true hr]; exact ⟨h1, h2⟩
   · rw [dec_false hr]
     refine ⟨?_, ?_⟩
     · rw [cond_false, List.length_append, List.length_singleton]; omega
     · rw [cond_false, List.all_append, h2, List.all_cons, List.all_nil]
       exact Bool.and_eq_true_iff.2 ⟨rfl, Bool.and_eq_true_iff.2 ⟨hx.2, rfl⟩⟩
 | false =>
   rw [cond_false]
   cases x.1 == 1 with
   | false => exact ⟨h1, h2⟩
   | true =>
     rw [cond_true]
     cases takenB all x.2.1.2.1 x.2.1.1 with
     | false => exact ⟨h1, h2⟩
     | true =>
       have hs := delR_sub (all := all) (i := idxL (ipB x.2.1.1 x.2.1.2.1) all 0)
       refine ⟨?_, List.all_eq_true.2 fun q hq => List.all_eq_true.1 h2 q (hs.1 q hq)⟩
       have : (cutF all x.2.1.2.1 x.2.1.1).length ≤ all.length := hs.2
       rw [cond_true]
       omega
theorem all_getD {α : Type} {p : α → Bool} {l : List α} (h : l.all p = true) {k : Nat} (hk : k < l.length) (d : α) : p (l.getD k d) = true := by
 rw [List.getD_eq_getElem?_getD, List.getElem?_eq_getElem hk]
 exact List.all_eq_true.1 h _ (List.getElem_mem hk)
noncomputable def b22 : Code := nthLoop c22 0
def ls22 : LoopSpec := { bid := 0, sh := [.d (.list DE) false, .ptr 0 0, .d (.list QR) false, .d (.int .i64) false], so := [.box [.d (.int .u32) false, .d (.int .i64) false, .row 1], .row QR], F := fun (l, k, i, _) ((host, room, _), all, _) => .on (akR l k all host room i) (.exit 0, [.ptr 0 0], [.box [.int .u32 host, .int .i64 room, .rowA 1], .row QR (ranF l)]) }
def r22 (l : List (Int × ((Int × (Int × ((Int × Int) × (QQt × QQt)))) × Int))) (k : List (Int × (Int × ((Int × Int) × (QQt × QQt))))) (i host room : Int) (all : List (Int × (Int × ((Int × Int) × (QQt × QQt))))) : Tr (St ⊕ (Ex × St)) := .br (decide (i < (↑l.length : Int))) (.br (decide (0 ≤ i)) (.br (decide (i < (↑l.length : Int))) (.br (akG k all 6 room (l.getD i.toNat (Ty.dflt DE))) (.br ((l.getD i.toNat (Ty.dflt DE)).1 == (1 : Ty.den (Ty.int .i64)) && takenB all (l.getD i.toNat (Ty.dflt DE)).2.1.2.1 (l.getD i.toNat (Ty.dflt DE)).2.1.1) (.ret (.inl (stOf [0, 3, 4, 5] [.list DE l, .ptr 0 0, .list QR (stepD room all (l.getD i.toNat (Ty.dflt DE))), .int .i64 (IntKind.wrap .i64 (i + 1))] [.boxT none [.int .u32 host, .int .i64 room, .rowA 1], .row QR (stepD room all (l.getD i.toNat (Ty.dflt DE)))]))) (.ret (.inl (stOf [0, 3, 4, 5] [.list DE l, .ptr 0 0, .list QR (stepD room all (l.getD i.toNat (Ty.dflt DE))), .int .i64 (IntKind.wrap .i64 (i + 1))] [.boxT none [.int .u32 host, .int .i64 room, .rowA 1], .row QR (stepD room all (l.getD i.toNat (Ty.dflt DE)))])))) .no) .no) .no) (.ret (.inr (.exit 0, stOf [3] [.ptr 0 0] [.boxT none [.int .u32 host, .int .i64 room, .rowA 1], .row QR all])))
theorem round22 (lp : Lp) (l : List (Int × ((Int × (Int × ((Int × Int) × (QQt × QQt)))) × Int))) (k : List (Int × (Int × ((Int × Int) × (QQt × QQt))))) (i host room : Int) (all : List (Int × (Int × ((Int × Int) × (QQt × QQt))))) : evC TW (orcB [] [os14, os50p]) lp b22 0 (stOf [0, 3, 4, 5] [.list DE l, .ptr 0 0, .list QR k, .int .i64 i] [.box [.int .u32 host, .int .i64 room, .rowA 1], .row QR all]) (roundK [0, 3, 4, 5] [3] 0) = (r22 l k i host room all).get := by kernel_rfl
theorem wf22 (l : List (Int × ((Int × (Int × ((Int × Int) × (QQt × QQt)))) × Int))) (host room : Int) (I'' : List (Int × (Int × ((Int × Int) × (QQt × QQt)))) → List (Int × (Int × ((Int × Int) × (QQt × QQt)))) → Int → Prop) (m'' : List (Int × (Int × ((Int × Int) × (QQt × QQt)))) → List (Int × (Int × ((Int × Int) × (QQt × QQt)))) → Int → Nat) (r'' : Ex × St) (h : ∀ (k all : List (Int × (Int × ((Int × Int) × (QQt × QQt))))) (i : Int), I'' k all i → (r22 l k i host room all).all fun x'' => x'' = .inr r'' ∨ ∃ (k' all' : List (Int × (Int × ((Int × Int) × (QQt × QQt))))) (i' : Int), x'' = .inl (stOf [0, 3, 4, 5] [.list DE l, .ptr 0 0, .list QR k', .int .i64 i'] [.box [.int .u32 host, .int .i64 room, .rowA 1], .row QR all']) ∧ I'' k' all' i' ∧ m'' k' all' i' < m'' k all i) (lp : Lp) (k all : List (Int × (Int × ((Int × Int) × (QQt × QQt))))) (i : Int) : I'' k all i →
    loopF (fun st => evC TW (orcB [] [os14, os50p]) lp b22 0 st (roundK [0, 3, 4, 5] [3] 0)) (stOf [0, 3, 4, 5] [.list DE l, .ptr 0 0, .list QR k, .int .i64 i] [.box [.int .u32 host, .int .i64 room, .rowA 1], .row QR all]) = some r'' :=
 loop_tr (fun a'' : List (Int × (Int × ((Int × Int) × (QQt × QQt)))) × List (Int × (Int × ((Int × Int) × (QQt × QQt)))) × Int => stOf [0, 3, 4, 5] [.list DE l, .ptr 0 0, .list QR a''.1, .int .i64 a''.2.2] [.box [.int .u32 host, .int .i64 room, .rowA 1], .row QR a''.2.1]) (fun a'' => I'' a''.1 a''.2.1 a''.2.2) (fun a'' => m'' a''.1 a''.2.1 a''.2.2) r'' (fun a'' => r22 l a''.1 a''.2.2 host room a''.2.1)
  (fun a'' x hx => (round22 lp l a''.1 a''.2.2 host room a''.2.1).trans hx) (fun a'' ha => Tr.all_mono (fun x'' hx => hx.imp id fun ⟨k', all', i', h1, h2, h3⟩ => ⟨(k', all', i'), h1, h2, h3⟩) (h (a''.1) (a''.2.1) (a''.2.2) ha)) (k, all, i)
theorem loop22 : ls22.Ok TW (orcB [] [os14, os50p]) h22 0 0 b22 := by
 intro q'' hq'' x'' y'' r'' h
 obtain ⟨(l : List (Int × ((Int × (Int × ((Int × Int) × (QQt × QQt)))) × Int))), (k : List (Int × (Int × ((Int × Int) × (QQt × QQt))))), (i : Int), _⟩ := x''
 obtain ⟨⟨(host : Int), (room : Int), _⟩, (all : List (Int × (Int × ((Int × Int) × (QQt × QQt))))), _⟩ := y''
 obtain ⟨hc, rfl⟩ := Tr.get_on h
 show loopF (fun st => evC TW (orcB [] [os14, os50p]) (lpN TW (orcB [] [os14, os50p]) h22 0 q'') b22 0 st (roundK [0, 3, 4, 5] [3] 0)) (stOf [0, 3, 4, 5] [.list DE l, .ptr 0 0, .list QR k, .int .i64 i] [.box [.int .u32 host, .int .i64 room, .rowA 1], .row QR all]) = some (.exit 0, stOf [3] ([.ptr 0 0]) ([.box [.int .u32 host, .int .i64 room, .rowA 1], .row QR (ranF l)]))
 simp only [akR, Bool.and_eq_true, decide_eq_true_eq] at hc
 obtain ⟨hl, hg, rfl, rfl, rfl, rfl, rfl⟩ := hc
 have hl := Nat.le_of_ble_eq_true hl
 refine wf22 l 7 6 (fun k all i => 0 ≤ i ∧ i ≤ l.length ∧ k = all ∧ all = (l.take i.toNat).foldl (stepD 6) [] ∧ okK 6 all) (fun k all i => (l.length - i).toNat) _ ?_ _ [] [] 0 ⟨by omega, by omega, rfl, rfl, by decide, rfl⟩
 rintro k all i ⟨h0, h1, rfl, he, hk⟩
 unfold r22
 rw [wrap_succ h0 h1 (by omega)]
 by_cases hi : i < l.length
 · have hs := take_foldl (stepD 6) [] l i.toNat (Ty.dflt DE) (by omega)
   have hx := all_getD hg (k := i.toNat) (by omega) (Ty.dflt DE)
   generalize l.getD i.toNat (Ty.dflt DE) = x at *
   rw [← he] at hs
   have hok := step_ok hk hx
   have hk1 := hk.1
   have hG : akG k k 6 6 x = true := by
    unfold akG akL
    rw [sameQ_iff.2 rfl, dec_true rfl, Nat.ble_eq_true_of_le (show k.length ≤ 1000 by omega), hx, hk.2]
    rfl
   refine Tr.all_t (dec_true hi) (Tr.all_t (dec_true h0) (Tr.all_t (dec_true hi) (Tr.all_t hG (Tr.all_br (fun _ => ?_) (fun _ => ?_)))))
   · exact Tr.all_ret (.inr ⟨_, _, _, rfl, ⟨by omega, by omega, rfl, by rw [show (i + 1).toNat = i.toNat + 1 by omega]; exact hs.symm, hok⟩, by omega⟩)
   · exact Tr.all_ret (.inr ⟨_, _, _, rfl, ⟨by omega, by omega, rfl, by rw [show (i + 1).toNat = i.toNat + 1 by omega]; exact hs.symm, hok⟩, by omega⟩)
 · refine Tr.all_f (dec_false hi) (Tr.all_ret (.inl ?_))
   rw [List.take_of_length_le (by omega)] at he
   rw [he]
   rfl
def t22 (l : List (Int × ((Int × (Int × ((Int × Int) × (QQt × QQt)))) × Int))) : Tr Res := .br (akR l [] [] 7 6 0) (.ret ([.ptr 0 0], [.boxT none [.int .u32 7, .int .i64 6, .rowA 1], .row QR (ranF l)])) .no
def os22 : OSpec := { f := 22, sh := [.d (.list DE) false], so := [], F := fun (l, _) _ => t22 l }
theorem fn22 (l : List (Int × ((Int × (Int × ((Int × Int) × (QQt × QQt)))) × Int))) : evC TW (orcB [] [os14, os50p]) (lpOf h22 0 (lsOf [ls22])) c22 1000000 (startSt [.list DE l] [] Try.f22.ntmps) (finishK TW false 0 Try.f22) = (t22 l).get := by kernel_rfl
theorem ok22 : os22.Ok Try.prog := by
 refine os_ok mixed0 tabW (orcB_sound all_nil (all_cons ok14 (all_cons ok50p all_nil))) h22 (d := 0) (n0 := 0) (S := lsOf [ls22]) Try.func22 (by kernel_rfl) (c := c22) (by kernel_rfl) rfl (loops_eq (xs := [(0, b22)]) (by kernel_rfl) (all_cons (ls_here loop22) all_nil)) (by omega) (by kernel_rfl) ?_
 intro x'' y'' q'' hq''
 obtain ⟨(l : List (Int × ((Int × (Int × ((Int × Int) × (QQt × QQt)))) × Int))), _⟩ := x''
 exact (fn22 l).trans hq''
open Go
def forceNat {R : Type} (n : Nat) (K : Nat → Option R) : Option R := match n with | 0 => K 0 | m + 1 => K (Nat.succ m)
theorem forceNat_eq {R : Type} (n : Nat) (K : Nat → Option R) : forceNat n K = K n := by cases n <;> rfl
def forceInt {R : Type} (n : Int) (K : Int → Option R) : Option R := match n with | .ofNat m => forceNat m fun m => K (.ofNat m) | .negSucc m => forceNat m fun m => K (.negSucc m)
theorem forceInt_eq {R : Type} (n : Int) (K : Int → Option R) : forceInt n K = K n := by cases n <;> simp only [forceInt, forceNat_eq]
def forceList {α R : Type} (f : α → (α → Option R) → Option R) : List α → (List α → Option R) → Option R
 | [], K => K []
 | x :: xs, K => f x fun x => forceList f xs fun xs => K (x :: xs)
theorem forceList_eq {α R : Type} {f : α → (α → Option R) → Option R} (hf : ∀ x K, f x K = K x) : ∀ (xs : List α) (K : List α → Option R), forceList f xs K = K xs
 | [], K => rfl
 | x :: xs, K => by simp only [forceList]; rw [hf, forceList_eq hf xs]
def forceU8 {R : Type} (b : UInt8) (K : UInt8 → Option R) : Option R := forceNat b.toNat fun n => K (UInt8.ofNat n)
theorem forceU8_eq {R : Type} (b : UInt8) (K : UInt8 → Option R) : forceU8 b K = K b := by
 simp only [forceU8, forceNat_eq]
 congr 1
 exact UInt8.ofNat_toNat
def forceB {R : Type} (b : Bool) (K : Bool → Option R) : Option R := match b with | true => K true | false => K false
theorem forceB_eq {R : Type} (b : Bool) (K : Bool → Option R) : forceB b K = K b := by cases b <;> rfl
def forceD {R : Type} : (t : Ty) → t.den → (t.den → Option R) → Option R
 | .int _, n, K => forceInt n K
 | .bool, b, K => forceB b K
 | .str, s, K => forceList forceU8 s K
 | .unit, _, K => K ()
 | .list t, xs, K => forceList (forceD t) xs K
 | .pair a b, x, K => forceD a x.1 fun y => forceD b x.2 fun z => K (y, z)
theorem forceD_eq {R : Type} : ∀ (t : Ty) (x : t.den) (K : t.den → Option R), forceD t x K = K x
 | .int _, n, K => forceInt_eq n K
 | .bool, b, K => forceB_eq b K
 | .str, s, K => forceList_eq (fun x K => forceU8_eq x K) s K
 | .unit, _, K => rfl
 | .list t, xs, K => forceList_eq (fun x K => forceD_eq t x K) xs K
 | .pair a b, x, K => by simp only [forceD]; rw [forceD_eq a, forceD_eq b]
mutual
def forceW {R : Type} : AV → (AV → Option R) → Option R
 | .int k n, K => forceInt n fun n => K (.int k n)
 | .bool b, K => forceB b fun b => K (.bool b)
 | .str s, K => forceList forceU8 s fun s => K (.str s)
 | .list t xs, K => forceList (forceD t) xs fun xs => K (.list t xs)
 | .agg cs, K => forceWs cs fun cs => K (.agg cs)
 | .tup cs, K => forceWs cs fun cs => K (.tup cs)
 | .np, K => K .np
 | .nm, K => K .nm
 | .nf, K => K .nf
 | .ns, K => K .ns
 | .ptr k off, K => forceNat k fun k => forceNat off fun off => K (.ptr k off)
 | .rptr k t i off, K => forceNat k fun k => forceNat i fun i => forceNat off fun off => K (.rptr k t i off)
 | .lptr t xs i off, K => forceList (forceD t) xs fun xs => forceNat i fun i => forceNat off fun off => K (.lptr t xs i off)
 | .rowA k, K => forceNat k fun k => K (.rowA k)
 | .rowS k off n c, K => forceNat k fun k => forceNat off fun off => forceNat n fun n => forceB c fun c => K (.rowS k off n c)
 | .mp k, K => forceNat k fun k => K (.mp k)
 | .psl k n, K => forceNat k fun k => forceNat n fun n => K (.psl k n)
 | .fn g cs, K => forceWs cs fun cs => K (.fn g cs)
 | .undef, K => K .undef
 | .dead, K => K .dead
def forceWs {R : Type} : List AV → (List AV → Option R) → Option R
 | [], K => K []
 | v :: vs, K => forceW v fun v => forceWs vs fun vs => K (v :: vs)
end
mutual
theorem forceW_eq {R : Type} : ∀ (v : AV) (K : AV → Option R), forceW v K = K v
 | .int k n, K => by simp only [forceW, forceInt_eq]
 | .bool b, K => by simp only [forceW, forceB_eq]
 | .str s, K => by simp only [forceW]; rw [forceList_eq (fun x K => forceU8_eq x K)]
 | .list t xs, K => by simp only [forceW]; rw [forceList_eq (fun x K => forceD_eq t x K)]
 | .agg cs, K => by simp only [forceW]; rw [forceWs_eq cs]
 | .tup cs, K => by simp only [forceW]; rw [forceWs_eq cs]
 | .np, K => by simp only [forceW]
 | .nm, K => by simp only [forceW]
 | .nf, K => by simp only [forceW]
 | .ns, K => by simp only [forceW]
 | .ptr k off, K => by simp only [forceW, forceNat_eq]
 | .rptr k t i off, K => by simp only [forceW, forceNat_eq]
 | .lptr t xs i off, K => by simp only [forceW]; rw [forceList_eq (fun x K => forceD_eq t x K)]; simp only [forceNat_eq]
 | .rowA k, K => by simp only [forceW, forceNat_eq]
 | .rowS k off n c, K => by simp only [forceW, forceNat_eq, forceB_eq]
 | .mp k, K => by simp only [forceW, forceNat_eq]
 | .psl k n, K => by simp only [forceW, forceNat_eq]
 | .fn g cs, K => by simp only [forceW]; rw [forceWs_eq cs]
 | .undef, K => by simp only [forceW]
 | .dead, K => by simp only [forceW]
theorem forceWs_eq {R : Type} : ∀ (vs : List AV) (K : List AV → Option R), forceWs vs K = K vs
 | [], K => by simp only [forceWs]
 | v :: vs, K => by simp only [forceWs]; rw [forceW_eq v, forceWs_eq vs]
end
def forceWO {R : Type} (o : LObj) (K : LObj → Option R) : Option R :=
 match o with
 | .boxT g cs => forceWs cs fun cs => (match g with | none => K (.boxT none cs) | some n => forceNat n fun n => K (.boxT (some n) cs))
 | .row t xs => forceList (forceD t) xs fun xs => K (.row t xs)
 | .mpo kt vt es => forceList (fun e K => forceD kt e.1 fun a => forceD vt e.2 fun b => K (a, b)) es fun es => K (.mpo kt vt es)
 | .gone => K .gone
theorem forceWO_eq {R : Type} (o : LObj) (K : LObj → Option R) : forceWO o K = K o := by
 cases o with
 | boxT g cs => simp only [forceWO]; rw [forceWs_eq]; cases g <;> simp only [forceNat_eq]
 | row t xs => simp only [forceWO]; rw [forceList_eq (fun x K => forceD_eq t x K)]
 | mpo kt vt es => simp only [forceWO]; rw [forceList_eq (fun e K => by rw [forceD_eq, forceD_eq])]
 | gone => rfl
def forceWOs {R : Type} (os : List LObj) (K : List LObj → Option R) : Option R := forceList forceWO os K
theorem forceWOs_eq {R : Type} (os : List LObj) (K : List LObj → Option R) : forceWOs os K = K os := forceList_eq (fun o K => forceWO_eq o K) os K
def normC {R : Type} (keep : List Nat) (n0 : Nat) (st : St) (K : St → Option R) : Option R :=
 forceWs (normL keep n0 st).1 fun vs => forceWOs (normL keep n0 st).2 fun os => K (stOf keep vs os)
theorem normC_eq {R : Type} (keep : List Nat) (n0 : Nat) (st : St) (K : St → Option R) : normC keep n0 st K = K (norm keep n0 st) := by
 simp only [normC, forceWs_eq, forceWOs_eq]
 rfl
def roundC (keep keepX : List Nat) (n0 : Nat) : Ex → St → Option (St ⊕ (Ex × St))
 | .normal, st => normC keep n0 st fun st => some (.inl st)
 | .exit i, st => normC keepX n0 st fun st => some (.inr (.exit i, st))
 | .ret, st => normC keepX n0 st fun st => some (.inr (.ret, st))
theorem roundC_eq (keep keepX : List Nat) (n0 : Nat) : roundC keep keepX n0 = roundK keep keepX n0 := by
 funext e st
 cases e <;> simp only [roundC, normC_eq, roundK]
def lpC (T : Tab) (orc : Orc) (H : Hint) (n0 fuel : Nat) : Nat → Lp
 | 0 => fun _ _ _ => .no
 | n + 1 => fun bid body st =>
   .of (normC (H.keep bid) n0 st fun st => loopN (fun st => evC T orc (lpC T orc H n0 fuel n) body bid st (roundC (H.keep bid) (H.keepX bid) n0)) fuel st)
theorem loopN_mono {F F' : St → Option (St ⊕ (Ex × St))} (h : ∀ st r, F st = some r → F' st = some r) {r : Ex × St} : ∀ (n : Nat) (st : St), loopN F n st = some r → loopN F' n st = some r
 | 0, _, h0 => by simp [loopN] at h0
 | n + 1, st, h0 => by
   simp only [loopN] at h0 ⊢
   split at h0
   · cases h0
   · rename_i r' hr
     rw [h _ _ hr]
     exact h0
   · rename_i st' hr
     rw [h _ _ hr]
     exact loopN_mono h n st' h0
theorem lpC_sub {T : Tab} {orc : Orc} {H : Hint} {n0 fuel : Nat} : ∀ (n : Nat) (bid : Nat) (body : Code) (st : St) (q : Ex × St), (lpC T orc H n0 fuel n bid body st).get = some q → (lpN T orc H n0 n bid body st).get = some q
 | 0, _, _, _, _, h => by simp [lpC, Tr.get] at h
 | n + 1, bid, body, st, q, h => by
   simp only [lpC, lpN, Tr.get_of, normC_eq, roundC_eq] at h ⊢
   exact loopF_of (loopN_mono (fun st r hr => evC_mono body bid st _ _ (fun x _ st q hq => lpC_sub n x.1 x.2 st q hq) (fun _ _ h => h) hr) _ _ h)
def evFnC (T : Tab) (orc : Orc) (H : Hint) (fuel : Nat) (fn : Func) (args : List AV) (objs : List LObj) : Option Res :=
 match fn.body with
 | none => none
 | some c => bif dstOk fn.ntmps c && Nat.ble args.length fn.ntmps then evC T orc (lpC T orc H objs.length fuel 8) c 1000000 (startSt args objs fn.ntmps) (finishK T H.own objs.length fn) else none
theorem evFnC_sub {T : Tab} {orc : Orc} {H : Hint} {fuel : Nat} {fn : Func} {args : List AV} {objs : List LObj} {r : Res} (h : evFnC T orc H fuel fn args objs = some r) : evFn T orc H fn args objs = some r := by
 unfold evFnC at h
 unfold evFn
 split at h
 · cases h
 · rename_i c hb
   rw [hb]
   simp only
   cases hd : (dstOk fn.ntmps c && Nat.ble args.length fn.ntmps) with
   | false => rw [hd] at h; cases h
   | true =>
     rw [hd] at h
     simp only [cond_true] at h ⊢
     exact evC_mono c 1000000 _ _ _ (fun x _ st q hq => lpC_sub 8 x.1 x.2 st q hq) (fun _ _ h => h) h
abbrev Fns := List (Nat × (Tab × Hint × Func))
def fnAt : Fns → Nat → Option (Tab × Hint × Func)
 | [], _ => none
 | e :: es, f => bif Nat.beq e.1 f then some e.2 else fnAt es f
def orcD (tb : Fns) (base : Orc) (fuel : Nat) : Nat → Orc
 | 0 => fun _ _ _ => .no
 | n + 1 => fun f args objs => match fnAt tb f with
   | none => base f args objs
   | some e => .of (forceWs args fun args => forceWOs objs fun objs => match evFnC e.1 (orcD tb base fuel n) e.2.1 fuel e.2.2 args objs with
     | none => none
     | some r => forceWs r.1 fun vs => forceWOs r.2 fun os => some (vs, os))
def FnOk (P : Program) (e : Nat × (Tab × Hint × Func)) : Prop := TabOk P e.2.1 ∧ P.funcs[e.1]? = some e.2.2.2 ∧ e.2.2.2.name ≠ "runtime.NumGoroutine"
theorem fnAt_ok {P : Program} : ∀ {tb : Fns}, (∀ e ∈ tb, FnOk P e) → ∀ {f : Nat} {e : Tab × Hint × Func}, fnAt tb f = some e → FnOk P (f, e)
 | [], _, _, _, h => by cases h
 | x :: xs, hx, f, e, h => by
   simp only [fnAt] at h
   cases hb : Nat.beq x.1 f with
   | true =>
     rw [hb] at h
     simp only [cond_true, Option.some.injEq] at h
     have h1 := hx x (by simp)
     subst h
     obtain rfl := Nat.eq_of_beq_eq_true hb
     exact h1
   | false =>
     rw [hb] at h
     exact fnAt_ok (fun y hy => hx y (List.mem_cons_of_mem _ hy)) h
theorem orcD_sound {P : Program} (hmo : P.follows .mixedOrders = true) {tb : Fns} (htb : ∀ e ∈ tb, FnOk P e) {base : Orc} (hB : SoundOrc P base) (fuel : Nat) : ∀ n, SoundOrc P (orcD tb base fuel n)
 | 0 => fun f args objs res objs' h => by simp [orcD, Tr.get] at h
 | n + 1 => fun f args objs res objs' h => by
   simp only [orcD] at h
   split at h
   · exact hB _ _ _ _ _ h
   · rename_i e he
     obtain ⟨h1, h2, h3⟩ := fnAt_ok htb he
     simp only [Tr.get_of, forceWs_eq, forceWOs_eq] at h
     split at h
     · cases h
     · rename_i r hr
       have h := Option.some.inj h
       rw [Prod.eta] at h
       subst h
       exact evFn_sound hmo h1 (orcD_sound hmo htb hB fuel n) h2 h3 (evFnC_sub hr)
noncomputable def tbl13 : Fns := [(13, T13, h13, Try.f13), (14, T14, h14, Try.f14), (15, T15, h15, Try.f15), (19, T19, h19, Try.f19), (20, T20, h20, Try.f20), (32, T32, h32, Try.f32), (34, T34, h34, Try.f34), (45, T45, h45, Try.f45), (59, T59, h59, Try.f59), (68, T68, h68, Try.f68), (69, T69, h69, Try.f69), (70, T70, h70, Try.f70), (71, T71, h71, Try.f71), (76, T76, h76, Try.f76), (77, T77, h77, Try.f77), (81, T81, h81, Try.f81), (82, T82, h82, Try.f82), (91, T91, h91, Try.f91), (92, T92, h92, Try.f92), (93, T93, h93, Try.f93), (94, T94, h94, Try.f94), (95, T95, h95, Try.f95), (96, T96, h96, Try.f96), (97, T97, h97, Try.f97), (98, T98, h98, Try.f98), (99, T99, h99, Try.f99), (100, T100, h100, Try.f100), (101, T101, h101, Try.f101), (102, T102, h102, Try.f102), (103, { T103 with kns := true }, h103, Try.f103), (104, T104, h104, Try.f104), (117, T117, h117, Try.f117), (119, T119, h119, Try.f119), (120, T120, h120, Try.f120), (121, T121, h121, Try.f121), (122, T122, h122, Try.f122), (123, T123, h123, Try.f123), (124, T124, h124, Try.f124), (125, { T125 with kns := true }, hOwn h125, Try.f125), (138, T138, h138, Try.f138), (140, T140, h140, Try.f140), (141, T141, h141, Try.f141), (142, T142, h142, Try.f142), (143, T143, h143, Try.f143), (152, T152, h152, Try.f152)]
theorem tblok13 : ∀ e ∈ tbl13, FnOk Try.prog e := all_cons ⟨tab0, Try.func13, by decide⟩ (all_cons ⟨tab0, Try.func14, by decide⟩ (all_cons ⟨tab0, Try.func15, by decide⟩ (all_cons ⟨tab0, Try.func19, by decide⟩ (all_cons ⟨tab0, Try.func20, by decide⟩ (all_cons ⟨tab0, Try.func32, by decide⟩ (all_cons ⟨tab0, Try.func34, by decide⟩ (all_cons ⟨tab0, Try.func45, by decide⟩ (all_cons ⟨tab0, Try.func59, by decide⟩ (all_cons ⟨tab0, Try.func68, by decide⟩ (all_cons ⟨tab0, Try.func69, by decide⟩ (all_cons ⟨tab0, Try.func70, by decide⟩ (all_cons ⟨tab0, Try.func71, by decide⟩ (all_cons ⟨tab0, Try.func76, by decide⟩ (all_cons ⟨tab0, Try.func77, by decide⟩ (all_cons ⟨tab0, Try.func81, by decide⟩ (all_cons ⟨tab0, Try.func82, by decide⟩ (all_cons ⟨tab0, Try.func91, by decide⟩ (all_cons ⟨tab0, Try.func92, by decide⟩ (all_cons ⟨tab0, Try.func93, by decide⟩ (all_cons ⟨tab0, Try.func94, by decide⟩ (all_cons ⟨tab0, Try.func95, by decide⟩ (all_cons ⟨tab0, Try.func96, by decide⟩ (all_cons ⟨tab0, Try.func97, by decide⟩ (all_cons ⟨tab0, Try.func98, by decide⟩ (all_cons ⟨tab0, Try.func99, by decide⟩ (all_cons ⟨tab0, Try.func100, by decide⟩ (all_cons ⟨tab0, Try.func101, by decide⟩ (all_cons ⟨tab0, Try.func102, by decide⟩ (all_cons ⟨(tab_kns (T := T103) tab0), Try.func103, by decide⟩ (all_cons ⟨tab0, Try.func104, by decide⟩ (all_cons ⟨tab0, Try.func117, by decide⟩ (all_cons ⟨tab0, Try.func119, by decide⟩ (all_cons ⟨tab0, Try.func120, by decide⟩ (all_cons ⟨tab0, Try.func121, by decide⟩ (all_cons ⟨tab0, Try.func122, by decide⟩ (all_cons ⟨tab0, Try.func123, by decide⟩ (all_cons ⟨tab0, Try.func124, by decide⟩ (all_cons ⟨(tab_kns (T := T125) tab0), Try.func125, by decide⟩ (all_cons ⟨tab0, Try.func138, by decide⟩ (all_cons ⟨tab0, Try.func140, by decide⟩ (all_cons ⟨tab0, Try.func141, by decide⟩ (all_cons ⟨tab0, Try.func142, by decide⟩ (all_cons ⟨tab0, Try.func143, by decide⟩ (all_cons ⟨tab0, Try.func152, by decide⟩ (all_nil)))))))))))))))))))))))))))))))))))))))))))))
theorem semD13 : SemF Try.prog 13 [] [] [.bool true] [] := orcD_sound mixed0 tblok13 (orcB_sound (fs := [fs90]) (os := []) (all_cons okf90 (all_nil)) (all_nil)) 80 40 13 [] [] [.bool true] [] (by kernel_rfl)
def os13d : OSpec := { f := 13, sh := [], so := [], F := fun _ _ => .ret ([.bool true], []) }
theorem ok13d : os13d.Ok Try.prog := by
 rintro _ _ r h
 cases h
 exact semD13
theorem ran_ok {l : List DEt} (h : l.all rgD = true) : okK 6 (ranF l) := by
 have : ∀ (l : List DEt) (b : List QRt), l.all rgD = true → okK 6 b → okK 6 (l.foldl (stepD 6) b) := fun l => by
  induction l with
  | nil => intro b _ hb; exact hb
  | cons x l ih =>
    intro b h hb
    rw [List.all_cons, Bool.and_eq_true] at h
    exact ih _ h.2 (step_ok hb h.1)
 exact this l [] h ⟨by decide, rfl⟩
theorem okT_u32r {n : Int} (h : okT (.int .u32) n) : 0 ≤ n ∧ n < 4294967296 := by
 have hr : 0 ≤ n ∧ n ≤ 4294967295 := by simpa [okT, Lit.wf, IntKind.min, IntKind.max, IntKind.signed, IntKind.bits] using h
 omega
theorem okT_u64r {n : Int} (h : okT (.int .u64) n) : 0 ≤ n ∧ n < 18446744073709551616 := by
 have hr : 0 ≤ n ∧ n ≤ 18446744073709551615 := by simpa [okT, Lit.wf, IntKind.min, IntKind.max, IntKind.signed, IntKind.bits] using h
 omega
theorem okT_rgK {q : QRt} (h : okT QR q) : rgK q = true := by
 have h := okT_u64r h.2.2.2.2.2.2
 rw [rgK, dec_true h.1, dec_true h.2]
 rfl
theorem okT_rgL {l : List DEt} (h : okT (.list DE) l) : l.all rgD = true := by
 refine List.all_eq_true.2 fun x hx => ?_
 have h := h.2 x hx
 have hd := okT_u32r h.2.2
 rw [rgD, dec_true hd.1, dec_true hd.2, okT_rgK h.2.1]
 rfl
theorem akR_ok {l : List DEt} (h : l.all rgD = true) (hl : l.length ≤ 100) : akR l [] [] 7 6 0 = true := by
 rw [akR, Nat.ble_eq_true_of_le (by omega), h]
 rfl
theorem akS_ok {all : List QRt} (h : all.length ≤ 1000) : akS all [] (all.length : Int) 0 = true := by
 rw [akS, Nat.ble_eq_true_of_le h, dec_true rfl, dec_true rfl]
 rfl
def isIn (b : List QRt) (x : QRt) : Bool := b.any fun q => eqQ q x
def atQ (a : List QRt) (i : Int) : QRt := List.getD a (Int.toNat i) (0, 0, (0, 0), ([], 0, 0), [], 0, 0)
def akM (a b : List QRt) (is : Bool) (i k : Int) : Bool := Nat.ble a.length 1000 && (Nat.ble b.length 1000 && (decide (0 ≤ i) && (decide (i < (a.length : Int)) && ((!is) && decide (k = 0)))))
def okA (b : List QRt) (now : Int) (x : QRt) : Bool := isIn b x && !decide (x.2.2.2.2.2.2 > now)
def akN (a b : List QRt) (now i : Int) : Bool := Nat.ble a.length 1000 && (Nat.ble b.length 1000 && (a.all (okA b now) && decide (i = 0)))
def t19z : Tr Res := .ret ([.int .i64 0], [])
def os19z : OSpec := { f := 19, sh := [.np], so := [], F := fun _ _ => t19z }
theorem fn19z : evC T0 (orcB [] []) (lpOf h19 0 (lsOf [])) c19 1000000 (startSt [.np] [] Try.f19.ntmps) (finishK T0 false 0 Try.f19) = (t19z).get := by kernel_rfl
theorem ok19z : os19z.Ok Try.prog := by
 refine os_ok mixed0 tab0 (orcB_sound all_nil all_nil) h19 (d := 0) (n0 := 0) (S := lsOf []) Try.func19 (by kernel_rfl) (c := c19) (by kernel_rfl) rfl (no_loops (by kernel_rfl)) (by omega) (by kernel_rfl) ?_
 intro x'' y'' q'' hq''
 exact (fn19z).trans hq''
noncomputable def b5i : Code := nthLoop (nthLoop c5 0) 0
def ls5i : LoopSpec := { bid := 2, sh := [.d (.int .u64) false, .d (.int .u32) false, .d .bool false, .d (.list QR) false, .d (.list QR) false, .d (.int .i64) false, .d .bool false, .d (.int .i64) false], so := [], F := fun (now, limit, up, a, b, i, is, k, _) _ => .on (akM a b is i k) (.exit 2, [.int .u64 now, .int .u32 limit, .bool up, .list QR a, .list QR b, .int .i64 i, .bool (isIn b (atQ a i))], []) }
def r5i (now limit : Int) (up : Bool) (a b : List (Int × (Int × ((Int × Int) × (QQt × QQt))))) (i : Int) (is : Bool) (k : Int) : Tr (St ⊕ (Ex × St)) := .br (decide (k < (↑b.length : Int))) (.br is (.ret (.inl (stOf [1, 3, 9, 11, 13, 14, 15, 16] [.int .u64 now, .int .u32 limit, .bool up, .list QR a, .list QR b, .int .i64 i, .bool true, .int .i64 (IntKind.wrap .i64 (k + 1))] []))) (.br (decide (0 ≤ k)) (.br (decide (k < (↑b.length : Int))) (.br (decide (0 ≤ i)) (.br (decide (i < (↑a.length : Int))) (.ret (.inl (stOf [1, 3, 9, 11, 13, 14, 15, 16] [.int .u64 now, .int .u32 limit, .bool up, .list QR a, .list QR b, .int .i64 i, .bool ((b.getD k.toNat (Ty.dflt QR)).1 == (a.getD i.toNat (Ty.dflt QR)).1 && ((b.getD k.toNat (Ty.dflt QR)).2.1 == (a.getD i.toNat (Ty.dflt QR)).2.1 && ((b.getD k.toNat (Ty.dflt QR)).2.2.1.1 == (a.getD i.toNat (Ty.dflt QR)).2.2.1.1 && ((b.getD k.toNat (Ty.dflt QR)).2.2.1.2 == (a.getD i.toNat (Ty.dflt QR)).2.2.1.2 && true) && ((b.getD k.toNat (Ty.dflt QR)).2.2.2.1.1 == (a.getD i.toNat (Ty.dflt QR)).2.2.2.1.1 && ((b.getD k.toNat (Ty.dflt QR)).2.2.2.1.2.1 == (a.getD i.toNat (Ty.dflt QR)).2.2.2.1.2.1 && ((b.getD k.toNat (Ty.dflt QR)).2.2.2.1.2.2 == (a.getD i.toNat (Ty.dflt QR)).2.2.2.1.2.2 && true)) && ((b.getD k.toNat (Ty.dflt QR)).2.2.2.2.1 == (a.getD i.toNat (Ty.dflt QR)).2.2.2.2.1 && ((b.getD k.toNat (Ty.dflt QR)).2.2.2.2.2.1 == (a.getD i.toNat (Ty.dflt QR)).2.2.2.2.2.1 && ((b.getD k.toNat (Ty.dflt QR)).2.2.2.2.2.2 == (a.getD i.toNat (Ty.dflt QR)).2.2.2.2.2.2 && true))))))), .int .i64 (IntKind.wrap .i64 (k + 1))] []))) .no) .no) .no) .no)) (.ret (.inr (.exit 2, stOf [1, 3, 9, 11, 13, 14, 15] [.int .u64 now, .int .u32 limit, .bool up, .list QR a, .list QR b, .int .i64 i, .bool is] [])))
theorem round5i (lp : Lp) (now limit : Int) (up : Bool) (a b : List (Int × (Int × ((Int × Int) × (QQt × QQt))))) (i : Int) (is : Bool) (k : Int) : evC T0 (orcB [fs18] [os13d, os22, os21, os21z, os19z, os23z]) lp b5i 2 (stOf [1, 3, 9, 11, 13, 14, 15, 16] [.int .u64 now, .int .u32 limit, .bool up, .list QR a, .list QR b, .int .i64 i, .bool is, .int .i64 k] []) (roundK [1, 3, 9, 11, 13, 14, 15, 16] [1, 3, 9, 11, 13, 14, 15] 0) = (r5i now limit up a b i is k).get := by kernel_rfl
theorem wf5i (now limit : Int) (up : Bool) (a b : List (Int × (Int × ((Int × Int) × (QQt × QQt))))) (i : Int) (I'' : Bool → Int → Prop) (m'' : Bool → Int → Nat) (r'' : Ex × St) (h : ∀ (is : Bool) (k : Int), I'' is k → (r5i now limit up a b i is k).all fun x'' => x'' = .inr r'' ∨ ∃ (is' : Bool) (k' : Int), x'' = .inl (stOf [1, 3, 9, 11, 13, 14, 15, 16] [.int .u64 now, .int .u32 limit, .bool up, .list QR a, .list QR b, .int .i64 i, .bool is', .int .i64 k'] []) ∧ I'' is' k' ∧ m'' is' k' < m'' is k) (lp : Lp) (is : Bool) (k : Int) : I'' is k →
    loopF (fun st => evC T0 (orcB [fs18] [os13d, os22, os21, os21z, os19z, os23z]) lp b5i 2 st (roundK [1, 3, 9, 11, 13, 14, 15, 16] [1, 3, 9, 11, 13, 14, 15] 0)) (stOf [1, 3, 9, 11, 13, 14, 15, 16] [.int .u64 now, .int .u32 limit, .bool up, .list QR a, .list QR b, .int .i64 i, .bool is, .int .i64 k] []) = some r'' :=
 loop_tr (fun a'' : Bool × Int => stOf [1, 3, 9, 11, 13, 14, 15, 16] [.int .u64 now, .int .u32 limit, .bool up, .list QR a, .list QR b, .int .i64 i, .bool a''.1, .int .i64 a''.2] []) (fun a'' => I'' a''.1 a''.2) (fun a'' => m'' a''.1 a''.2) r'' (fun a'' => r5i now limit up a b i a''.1 a''.2)
  (fun a'' x hx => (round5i lp now limit up a b i a''.1 a''.2).trans hx) (fun a'' ha => Tr.all_mono (fun x'' hx => hx.imp id fun ⟨is', k', h1, h2, h3⟩ => ⟨(is', k'), h1, h2, h3⟩) (h (a''.1) (a''.2) ha)) (is, k)
theorem isIn_drop {b : List QRt} {x : QRt} {k : Nat} (h : k < b.length) : isIn (b.drop k) x = (eqQ (List.getD b k (Ty.dflt QR)) x || isIn (b.drop (k + 1)) x) := by
 unfold isIn
 rw [drop_cons2 h (Ty.dflt QR), List.any_cons]
theorem loop5i : ls5i.Ok T0 (orcB [fs18] [os13d, os22, os21, os21z, os19z, os23z]) h5 0 0 b5i := by
 intro q'' hq'' x'' y'' r'' h
 obtain ⟨(now : Int), (limit : Int), (up : Bool), (a : List (Int × (Int × ((Int × Int) × (QQt × QQt))))), (b : List (Int × (Int × ((Int × Int) × (QQt × QQt))))), (i : Int), (is : Bool), (k : Int), _⟩ := x''
 obtain ⟨hc, rfl⟩ := Tr.get_on h
 show loopF (fun st => evC T0 (orcB [fs18] [os13d, os22, os21, os21z, os19z, os23z]) (lpN T0 (orcB [fs18] [os13d, os22, os21, os21z, os19z, os23z]) h5 0 q'') b5i 2 st (roundK [1, 3, 9, 11, 13, 14, 15, 16] [1, 3, 9, 11, 13, 14, 15] 0)) (stOf [1, 3, 9, 11, 13, 14, 15, 16] [.int .u64 now, .int .u32 limit, .bool up, .list QR a, .list QR b, .int .i64 i, .bool is, .int .i64 k] []) = some (.exit 2, stOf [1, 3, 9, 11, 13, 14, 15] ([.int .u64 now, .int .u32 limit, .bool up, .list QR a, .list QR b, .int .i64 i, .bool (isIn b (atQ a i))]) ([]))
 simp only [akM, Bool.and_eq_true, decide_eq_true_eq] at hc
 obtain ⟨_, hl, h0, h1, his, rfl⟩ := hc
 have his : is = false := by simpa using his
 subst his
 have hl := Nat.le_of_ble_eq_true hl
 refine wf5i now limit up a b i (fun is k => 0 ≤ k ∧ k ≤ b.length ∧ (is || isIn (b.drop k.toNat) (atQ a i)) = isIn b (atQ a i)) (fun is k => (b.length - k).toNat) _ ?_ _ false 0 ⟨by omega, by omega, rfl⟩
 rintro is k ⟨k0, k1, he⟩
 unfold r5i
 rw [wrap_succ k0 k1 (by omega)]
 by_cases hk : k < b.length
 · rw [isIn_drop (by omega)] at he
   refine Tr.all_t (dec_true hk) ?_
   cases is with
   | true =>
     refine Tr.all_t rfl (Tr.all_ret (.inr ⟨_, _, rfl, ⟨by omega, by omega, ?_⟩, by omega⟩))
     rw [← he]
     rfl
   | false =>
     rw [Bool.false_or] at he
     refine Tr.all_f rfl (Tr.all_t (dec_true k0) (Tr.all_t (dec_true hk) (Tr.all_t (dec_true h0) (Tr.all_t (dec_true h1) (Tr.all_ret (.inr ⟨_, _, rfl, ⟨by omega, by omega, ?_⟩, by omega⟩))))))
     rw [show (k + 1).toNat = k.toNat + 1 by omega, ← he]
     rfl
 · refine Tr.all_f (dec_false hk) (Tr.all_ret (.inl ?_))
   rw [List.drop_eq_nil_of_le (by omega)] at he
   rw [← he, show isIn [] (atQ a i) = false from rfl, Bool.or_false]
noncomputable def b5o : Code := nthLoop c5 0
def ls5o : LoopSpec := { bid := 0, sh := [.d (.int .u64) false, .d (.int .u32) false, .d .bool false, .d (.list QR) false, .d (.list QR) false, .d (.int .i64) false], so := [], F := fun (now, limit, up, a, b, i, _) _ => .on (akN a b now i) (.exit 0, [.int .u64 now, .int .u32 limit, .dead, .bool up, .list QR a, .list QR b], []) }
def r5o (now limit : Int) (up : Bool) (a b : List (Int × (Int × ((Int × Int) × (QQt × QQt))))) (i : Int) : Tr (St ⊕ (Ex × St)) := .br (decide (i < (↑a.length : Int))) (.br (akM a b false i 0) (.br (!isIn b (atQ a i)) (.ret (.inr (.ret, stOf [1, 3, 8, 9, 11, 13] [.int .u64 now, .int .u32 limit, .bool false, .bool up, .list QR a, .list QR b] []))) (.br (decide (0 ≤ i)) (.br (decide (i < (↑a.length : Int))) (.br (decide ((a.getD i.toNat (Ty.dflt QR)).2.2.2.2.2.2 > now)) (.ret (.inr (.ret, stOf [1, 3, 8, 9, 11, 13] [.int .u64 now, .int .u32 limit, .bool false, .bool up, .list QR a, .list QR b] []))) (.ret (.inl (stOf [1, 3, 9, 11, 13, 14] [.int .u64 now, .int .u32 limit, .bool up, .list QR a, .list QR b, .int .i64 (IntKind.wrap .i64 (i + 1))] [])))) .no) .no)) .no) (.ret (.inr (.exit 0, stOf [1, 3, 8, 9, 11, 13] [.int .u64 now, .int .u32 limit, .dead, .bool up, .list QR a, .list QR b] [])))
theorem round5o (now limit : Int) (up : Bool) (a b : List (Int × (Int × ((Int × Int) × (QQt × QQt))))) (i : Int) : evC T0 (orcB [fs18] [os13d, os22, os21, os21z, os19z, os23z]) (lpOf h5 0 (lsOf [ls5i])) b5o 0 (stOf [1, 3, 9, 11, 13, 14] [.int .u64 now, .int .u32 limit, .bool up, .list QR a, .list QR b, .int .i64 i] []) (roundK [1, 3, 9, 11, 13, 14] [1, 3, 8, 9, 11, 13] 0) = (r5o now limit up a b i).get := by kernel_rfl
theorem wf5o (now limit : Int) (up : Bool) (a b : List (Int × (Int × ((Int × Int) × (QQt × QQt))))) (I'' : Int → Prop) (m'' : Int → Nat) (r'' : Ex × St) (h : ∀ (i : Int), I'' i → (r5o now limit up a b i).all fun x'' => x'' = .inr r'' ∨ ∃ (i' : Int), x'' = .inl (stOf [1, 3, 9, 11, 13, 14] [.int .u64 now, .int .u32 limit, .bool up, .list QR a, .list QR b, .int .i64 i'] []) ∧ I'' i' ∧ m'' i' < m'' i) (q'' : Nat) (hq'' : 1 ≤ q'') (i : Int) : I'' i →
    loopF (fun st => evC T0 (orcB [fs18] [os13d, os22, os21, os21z, os19z, os23z]) (lpN T0 (orcB [fs18] [os13d, os22, os21, os21z, os19z, os23z]) h5 0 q'') b5o 0 st (roundK [1, 3, 9, 11, 13, 14] [1, 3, 8, 9, 11, 13] 0)) (stOf [1, 3, 9, 11, 13, 14] [.int .u64 now, .int .u32 limit, .bool up, .list QR a, .list QR b, .int .i64 i] []) = some r'' :=
 loop_tr (fun a'' : Int => stOf [1, 3, 9, 11, 13, 14] [.int .u64 now, .int .u32 limit, .bool up, .list QR a, .list QR b, .int .i64 a''] []) (fun a'' => I'' a'') (fun a'' => m'' a'') r'' (fun a'' => r5o now limit up a b a'')
  (fun a'' x hx => round_of (d := 0) (S := lsOf [ls5i]) (loops_at (xs := [(2, b5i)]) (by kernel_rfl) (all_cons (ls_here loop5i) all_nil)) (by omega) ((round5o now limit up a b a'').trans hx)) (fun a'' ha => Tr.all_mono (fun x'' hx => hx.imp id fun ⟨i', h1, h2, h3⟩ => ⟨(i'), h1, h2, h3⟩) (h (a'') ha)) (i)
theorem loop5o : ls5o.Ok T0 (orcB [fs18] [os13d, os22, os21, os21z, os19z, os23z]) h5 0 1 b5o := by
 intro q'' hq'' x'' y'' r'' h
 obtain ⟨(now : Int), (limit : Int), (up : Bool), (a : List (Int × (Int × ((Int × Int) × (QQt × QQt))))), (b : List (Int × (Int × ((Int × Int) × (QQt × QQt))))), (i : Int), _⟩ := x''
 obtain ⟨hc, rfl⟩ := Tr.get_on h
 show loopF (fun st => evC T0 (orcB [fs18] [os13d, os22, os21, os21z, os19z, os23z]) (lpN T0 (orcB [fs18] [os13d, os22, os21, os21z, os19z, os23z]) h5 0 q'') b5o 0 st (roundK [1, 3, 9, 11, 13, 14] [1, 3, 8, 9, 11, 13] 0)) (stOf [1, 3, 9, 11, 13, 14] [.int .u64 now, .int .u32 limit, .bool up, .list QR a, .list QR b, .int .i64 i] []) = some (.exit 0, stOf [1, 3, 8, 9, 11, 13] ([.int .u64 now, .int .u32 limit, .dead, .bool up, .list QR a, .list QR b]) ([]))
 simp only [akN, Bool.and_eq_true, decide_eq_true_eq] at hc
 obtain ⟨hla, hlb, ha, rfl⟩ := hc
 have hl := Nat.le_of_ble_eq_true hla
 refine wf5o now limit up a b (fun i => 0 ≤ i ∧ i ≤ a.length) (fun i => (a.length - i).toNat) _ ?_ _ hq'' 0 ⟨by omega, by omega⟩
 rintro i ⟨h0, h1⟩
 unfold r5o
 rw [wrap_succ h0 h1 (by omega)]
 by_cases hi : i < a.length
 · have hx := all_getD ha (k := i.toNat) (by omega) (Ty.dflt QR)
   simp only [okA, Bool.and_eq_true] at hx
   have hM : akM a b false i 0 = true := by
    rw [akM, hla, hlb, dec_true h0, dec_true hi]
    rfl
   refine Tr.all_t (dec_true hi) (Tr.all_t hM (Tr.all_f ?_ (Tr.all_t (dec_true h0) (Tr.all_t (dec_true hi) (Tr.all_f ?_ (Tr.all_ret (.inr ⟨_, rfl, ⟨by omega, by omega⟩, by omega⟩)))))))
   · rw [show isIn b (atQ a i) = true from hx.1]
     rfl
   · have h2 := hx.2
     cases hd : decide ((List.getD a i.toNat (Ty.dflt QR)).2.2.2.2.2.2 > now) with
     | false => rfl
     | true => rw [hd] at h2; cases h2
 · exact Tr.all_f (dec_false hi) (Tr.all_ret (.inl rfl))
def t5 (l : List (Int × ((Int × (Int × ((Int × Int) × (QQt × QQt)))) × Int))) (now more limit : Int) : Tr Res := .br (fewX l) (.br (!decide ((↑l.length : Int) ≤ 100)) (.ret ([.bool true], [])) (.br (akR l [] [] 7 6 0) (.br (akS (ranF l) [] (↑(List.length (ranF l)) : Int) 0) (.br (decide (IntKind.wrap .u64 (now + IntKind.wrap .u64 more) < now)) (.ret ([.bool true], [])) (.br (akS (ranF l) [] (↑(List.length (ranF l)) : Int) 0) (.br (akN (List.filter (lateB now limit) (ranF l)) (List.filter (lateB (IntKind.wrap .u64 (now + IntKind.wrap .u64 more)) limit) (ranF l)) now 0) (.br (decide ((↑(List.length (List.filter (lateB now limit) (ranF l))) : Int) ≤ (↑(List.length (List.filter (lateB (IntKind.wrap .u64 (now + IntKind.wrap .u64 more)) limit) (ranF l))) : Int))) (.ret ([.bool !false], [])) (.ret ([.bool false], []))) .no) .no)) .no) .no)) (.ret ([.bool true], []))
def os5 : OSpec := { f := 5, sh := [.d (.list DE) false, .d (.int .u64) false, .d (.int .u32) false, .d (.int .u32) false], so := [], F := fun (l, now, more, limit, _) _ => t5 l now more limit }
theorem fn5 (l : List (Int × ((Int × (Int × ((Int × Int) × (QQt × QQt)))) × Int))) (now more limit : Int) : evC T0 (orcB [fs18] [os13d, os22, os21, os21z, os19z, os23z]) (lpOf h5 0 (lsOf [ls5o])) c5 1000000 (startSt [.list DE l, .int .u64 now, .int .u32 more, .int .u32 limit] [] Try.f5.ntmps) (finishK T0 false 0 Try.f5) = (t5 l now more limit).get := by kernel_rfl
theorem ok5 : os5.Ok Try.prog := by
 refine os_ok mixed0 tab0 (orcB_sound (all_cons okf18 all_nil) (all_cons ok13d (all_cons ok22 (all_cons ok21 (all_cons ok21z (all_cons ok19z (all_cons ok23z all_nil))))))) h5 (d := 1) (n0 := 0) (S := lsOf [ls5o]) Try.func5 (by kernel_rfl) (c := c5) (by kernel_rfl) rfl (loops_eq (xs := [(0, b5o)]) (by kernel_rfl) (all_cons (ls_here loop5o) all_nil)) (by omega) (by kernel_rfl) ?_
 intro x'' y'' q'' hq''
 obtain ⟨(l : List (Int × ((Int × (Int × ((Int × Int) × (QQt × QQt)))) × Int))), (now : Int), (more : Int), (limit : Int), _⟩ := x''
 exact (fn5 l now more limit).trans hq''
theorem late_sent {now b : Int} {q : QRt} (hq : rgK q = true) (hb : 0 ≤ b ∧ b < 4294967296) (hn : 0 ≤ now ∧ now < 18446744073709551616) (h : lateB now b q = true) : ¬ q.2.2.2.2.2.2 > now := by
 rw [late_eq hq hb] at h
 simp only [rgK, Bool.and_eq_true, decide_eq_true_eq] at hq
 have h := of_decide_eq_true h
 unfold untilR at h
 have e1 : IntKind.wrap IntKind.u64 b = b := by show b % 18446744073709551616 = b; omega
 have e3 : IntKind.wrap IntKind.u64 (q.2.2.2.2.2.2 + b) = (q.2.2.2.2.2.2 + b) % 18446744073709551616 := rfl
 rw [e1, e3] at h
 by_cases hc : (q.2.2.2.2.2.2 + b) % 18446744073709551616 < q.2.2.2.2.2.2
 · rw [dec_true hc, cond_true] at h
   omega
 · rw [dec_false hc, cond_false] at h
   omega
theorem late_more {now thn b : Int} (h : now ≤ thn) {q : QRt} (hq : lateB now b q = true) : lateB thn b q = true := by
 unfold lateB at hq ⊢
 have : ¬ untilF q.2.2.2.2.2.2 b > now := by simpa using hq
 rw [dec_false (show ¬ untilF q.2.2.2.2.2.2 b > thn by omega)]
 rfl
theorem fil_mono {α : Type} {p r : α → Bool} (h : ∀ q, p q = true → r q = true) (l : List α) : (l.filter p).length ≤ (l.filter r).length := by
 rw [← List.countP_eq_length_filter, ← List.countP_eq_length_filter]
 exact List.countP_mono_left fun q _ hq => h q hq
theorem askLate_all (l : List DEt) (now more limit : Int) (h1 : okT (.list DE) l) (h2 : okT (.int .u64) now) (h4 : okT (.int .u32) limit) : (t5 l now more limit).all fun r => r = ([.bool true], []) := by
 unfold t5
 refine Tr.all_br (fun _ => Tr.all_br (fun _ => Tr.all_ret rfl) (fun hl => ?_)) (fun _ => Tr.all_ret rfl)
 have hg := okT_rgL h1
 have hl : l.length ≤ 100 := by
  have : decide ((l.length : Int) ≤ 100) = true := by simpa using hl
  have := of_decide_eq_true this
  omega
 have hb := okT_u32r h4
 have hn := okT_u64r h2
 have hK := ran_ok hg
 have hL := hK.1
 generalize hLL : ranF l = L at *
 generalize IntKind.wrap IntKind.u64 (now + IntKind.wrap IntKind.u64 more) = thn at *
 have f1 := List.length_filter_le (lateB now limit) L
 have f2 := List.length_filter_le (lateB thn limit) L
 refine Tr.all_t (akR_ok hg hl) (Tr.all_t (akS_ok (by omega)) (Tr.all_br (fun _ => Tr.all_ret rfl) (fun ht => ?_)))
 have ht := of_decide_eq_false ht
 have hm := fil_mono (p := lateB now limit) (r := lateB thn limit) (fun q hq => late_more (show now ≤ thn by omega) hq) L
 have hall : (L.filter (lateB now limit)).all (okA (L.filter (lateB thn limit)) now) = true := List.all_eq_true.2 fun q hq => by
  obtain ⟨hq1, hq2⟩ := List.mem_filter.1 hq
  have e1 : isIn (L.filter (lateB thn limit)) q = true := List.any_eq_true.2 ⟨q, List.mem_filter.2 ⟨hq1, late_more (by omega) hq2⟩, eqQ_iff.2 rfl⟩
  rw [okA, e1, dec_false (late_sent (List.all_eq_true.1 hK.2 q hq1) hb hn hq2)]
  rfl
 have hN : akN (L.filter (lateB now limit)) (L.filter (lateB thn limit)) now 0 = true := by
  rw [akN, Nat.ble_eq_true_of_le (by omega), Nat.ble_eq_true_of_le (by omega), hall]
  rfl
 refine Tr.all_t (akS_ok (by omega)) (Tr.all_t hN ?_)
 refine Tr.all_t (dec_true (by omega)) ?_
 exact Tr.all_ret rfl
theorem sem5 (l : List DEt) (now more limit : Int) (h1 : okT (.list DE) l) (h2 : okT (.int .u64) now) (h4 : okT (.int .u32) limit) : SemF Try.prog 5 [.list DE l, .int .u64 now, .int .u32 more, .int .u32 limit] [] [.bool true] [] :=
 ok5 (l, now, more, limit, ()) () ([.bool true], []) (Tr.get_of_all (askLate_all l now more limit h1 h2 h4))
end Go.Proofs.YtpledbapngdkeaaE
namespace Go.Proofs.Ytpledbapngdkeaa.askLate
open Go.ChangeShapes Go.WideShapes Go.ChangeAt Go.RowKit Go.Proofs.YtpledbapngdkeaaE
open Go.ChangeMaps (open_string shut_string)
set_option linter.unusedVariables false
theorem own : ownKnob Try.prog.godebug = none := by kernel_rfl
theorem laidOut : laidOutB Try.prog = true := by kernel_rfl
set_option maxRecDepth 100000 in
theorem lifted (os : Os) (started : os.Started) (H : Type) (enc : TypeId × Value → H) :
    ReturnsInHanded {} Try.checked os 5 .any (Rows.askLateSpec.pre6 enc Try.prog Try.f5 Rows.askLateRow.domain false) (Rows.askLateSpec.post enc Try.prog Try.f5 false true false false) := by
  refine returnsInHanded_of_change_sized (C := Try.checked) own started (by kernel_rfl) Try.func5
    (ChangeSpec.witness6 (enc := enc) (C := Try.checked) false ⟨#[], #[.slice none 0 0, .int .u64 0, .int .u32 0, .int .u32 0], []⟩ 8 (by kernel_rfl) (by kernel_rfl) (by kernel_rfl) (by kernel_rfl)) ?_
  intro W base args ds gs before hval0 hW hcnd hsz0 _
  have hsz : ∀ n ∈ DataW.weightsEach Try.prog (Try.f5.params.toList ++ Rows.askLateSpec.plain.varTypes Try.prog) (ds ++ gs), n ≤ reachBytes := fun n hn => of_decide_eq_true (List.all_eq_true.1 hsz0 n hn)
  have hval : ∀ (j : Nat) t v, Try.f5.params[j]? = some t → args[j]? = some v → Value.okWide Try.prog W .any base t v := hval0
  have hW' := hW
  obtain ⟨p, q, hA0, hV, rfl, hfz, hnd⟩ := hW
  have hA : DataW.TrodAll enc Try.prog W 0 (fun _ => true) true Try.f5.params.toList args.toList ds p := hA0
  rw [Try.params5] at hA hval hsz
  obtain ⟨v0, vs0, d0, ds0, p0, q0, hargs, rfl, rfl, k0, r0⟩ := trodAll_cons hA
  obtain ⟨v1, vs1, d1, ds1, p1, q1, rfl, rfl, rfl, k1, r1⟩ := trodAll_cons r0
  obtain ⟨v2, vs2, d2, ds2, p2, q2, rfl, rfl, rfl, k2, r2⟩ := trodAll_cons r1
  obtain ⟨v3, vs3, d3, ds3, p3, q3, rfl, rfl, rfl, k3, r3⟩ := trodAll_cons r2
  obtain ⟨rfl, rfl, rfl⟩ := trodAll_nil r3
  obtain rfl : args = #[v0, v1, v2, v3] := by cases args; simp_all
  obtain ⟨rfl, rfl⟩ := trodVars_none hV
  have lt0 : ∀ x ∈ p0, x.block < W.heap.size := by obtain ⟨m, hm⟩ := k0; exact DataW.trod_lt m _ _ _ hm
  obtain ⟨x0, e0, w0, b0⟩ := arg_told (n := 8) (τ := (.list (.pair (.int .i64) (.pair (.pair (.int .u16) (.pair (.int .u16) (.pair (.pair (.int .u32) (.int .u16)) (.pair (.pair .str (.pair (.int .u16) (.int .u16))) (.pair .str (.pair (.int .i64) (.int .u64))))))) (.int .u32))))) (agg := false) (by kernel_rfl) (hval 0 42 v0 rfl rfl) k0 (fun n hn => hsz n (DataW.weights_mem_each (j := 0) (t := 42) rfl rfl n hn)) (by kernel_rfl)
  have lt1 : ∀ x ∈ p1, x.block < W.heap.size := by obtain ⟨m, hm⟩ := k1; exact DataW.trod_lt m _ _ _ hm
  obtain ⟨x1, e1, w1, b1⟩ := arg_told (n := 8) (τ := .int .u64) (agg := false) (by kernel_rfl) (hval 1 28 v1 rfl rfl) k1 (fun n hn => hsz n (DataW.weights_mem_each (j := 1) (t := 28) rfl rfl n hn)) (by kernel_rfl)
  have lt2 : ∀ x ∈ p2, x.block < W.heap.size := by obtain ⟨m, hm⟩ := k2; exact DataW.trod_lt m _ _ _ hm
  obtain ⟨x2, e2, w2, b2⟩ := arg_told (n := 8) (τ := .int .u32) (agg := false) (by kernel_rfl) (hval 2 22 v2 rfl rfl) k2 (fun n hn => hsz n (DataW.weights_mem_each (j := 2) (t := 22) rfl rfl n hn)) (by kernel_rfl)
  have lt3 : ∀ x ∈ p3, x.block < W.heap.size := by obtain ⟨m, hm⟩ := k3; exact DataW.trod_lt m _ _ _ hm
  obtain ⟨x3, e3, w3, b3⟩ := arg_told (n := 8) (τ := .int .u32) (agg := false) (by kernel_rfl) (hval 3 22 v3 rfl rfl) k3 (fun n hn => hsz n (DataW.weights_mem_each (j := 3) (t := 22) rfl rfl n hn)) (by kernel_rfl)
  clear hA0 hval0 hsz0 hsz
  refine (law_calls ((fun x0 x1 x2 x3 w0 w1 w2 w3 => sem5 x0 x1 x2 x3 w0 w1 w3) x0 x1 x2 x3 w0 w1 w2 w3) W (vs := [v0, v1, v2, v3]) ?_).mono fun e W' ⟨he, bel⟩ => ?_
  · simp only [VRelL]
    exact ⟨_, _, rfl, e0, ⟨_, _, rfl, e1, ⟨_, _, rfl, e2, ⟨_, _, rfl, e3, rfl⟩⟩⟩⟩
  subst he
  exact ⟨_, rfl, _, _, _, [], _, [], hW', trodAll_mk1 (shut_bool Try.underlying4 _), (trodAll_cons_mk (Below.trod laidOut (by kernel_rfl) (of_decide_eq_true (by kernel_rfl)) k0 bel lt0) (trodAll_cons_mk (Below.trod laidOut (by kernel_rfl) (of_decide_eq_true (by kernel_rfl)) k1 bel lt1) (trodAll_cons_mk (Below.trod laidOut (by kernel_rfl) (of_decide_eq_true (by kernel_rfl)) k2 bel lt2) (trodAll_cons_mk (Below.trod laidOut (by kernel_rfl) (of_decide_eq_true (by kernel_rfl)) k3 bel lt3) trodAll_mk0)))), rfl, bel.frame _, fun h => by cases h⟩
theorem over : Rows.askLateRow.holds Try.pinned (OpenSpec.ofChange Rows.askLateSpec) :=
  OpenClaim.holds_of_wide 5 Try.f5 rfl rfl rfl rfl rfl rfl rfl ⟨rfl, rfl, rfl, rfl, rfl⟩ rfl rfl rfl rfl rfl (by kernel_rfl) Try.func5 (by kernel_rfl)
    (of_decide_eq_true (by kernel_rfl)) (by unfold Func.isWrapper; first | (rw [if_pos (by decide +kernel)]; kernel_rfl) | (rw [if_neg (by decide +kernel)]; exact ⟨rfl, rfl⟩))
    (fun os started H enc _ => lifted os started H enc)
theorem proved : Rows.AskLateSaid := over
end Go.Proofs.Ytpledbapngdkeaa.askLate
namespace Go.Proofs.Ytpledbapngdkeaa
/-- The row, under a short name, for the claim. -/
theorem askLate_holds : Rows.AskLateSaid := askLate.proved
#print axioms askLate_holds
end Go.Proofs.Ytpledbapngdkeaa
