import Derived.Test.YtpledbapngdkeaaPAskForged5
import Derived.Test.YtpledbapngdkeaaRows
import Derived.WalkKit
import Derived.ProofKit
import Derived.OpenShut
import Derived.ShutString
import Derived.ChangeOld
import Derived.Below
import Derived.Carry
import Derived.SizedLaws
set_option maxRecDepth 1000000
namespace Go.Proofs.YtpledbapngdkeaaE
open Go Go.Proofs.YtpledbapngdkeaaB
set_option linter.unusedVariables false
set_option linter.unusedSimpArgs false
def t49 (a b : Int) : Tr Res := .br (decide (IntKind.wrap .u64 b > IntKind.wrap .u64 (18446744073709551615 - a))) (.ret ([.int .u64 18446744073709551615], [])) (.ret ([.int .u64 (IntKind.wrap .u64 (a + IntKind.wrap .u64 b))], []))
def os49 : OSpec := { f := 49, sh := [.d (.int .u64) false, .d (.int .u32) false], so := [], F := fun (a, b, _) _ => t49 a b }
theorem fn49 (a b : Int) : evC T0 (orcB [] []) (lpOf h49 0 (lsOf [])) c49 1000000 (X1 [.int .u64 a, .int .u32 b] [] Try.f49.ntmps) (J1 T0 false 0 Try.f49) = (t49 a b).get := by kernel_rfl
theorem ok49 : os49.Ok Try.prog := by
 refine X3 J2 tab0 (V0 all_nil all_nil) h49 (d := 0) (n0 := 0) (S := lsOf []) Try.func49 (by kernel_rfl) (c := c49) (by kernel_rfl) rfl (Z2 (by kernel_rfl)) (by omega) (by kernel_rfl) ?_
 intro x'' y'' q'' hq''
 obtain ⟨(a : Int), (b : Int), _⟩ := x''
 exact (fn49 a b).trans hq''
def fs49 : FSpec := fsT 49 [((.int .u64), false), ((.int .u32), false)] [((.int .u64), false)] fun (a, b, _) => t49 a b
theorem U50 : fs49.Ok Try.prog := U6 fun x'' r'' hr'' => ok49 x'' () r'' hr''
def t48 (a b : Int) : Tr Res := .ret ([.bool (decide (a > b))], [])
def os48 : OSpec := { f := 48, sh := [.d (.int .u64) false, .d (.int .u64) false], so := [], F := fun (a, b, _) _ => t48 a b }
theorem fn48 (a b : Int) : evC T0 (orcB [] []) (lpOf h48 0 (lsOf [])) c48 1000000 (X1 [.int .u64 a, .int .u64 b] [] Try.f48.ntmps) (J1 T0 false 0 Try.f48) = (t48 a b).get := by kernel_rfl
theorem ok48 : os48.Ok Try.prog := by
 refine X3 J2 tab0 (V0 all_nil all_nil) h48 (d := 0) (n0 := 0) (S := lsOf []) Try.func48 (by kernel_rfl) (c := c48) (by kernel_rfl) rfl (Z2 (by kernel_rfl)) (by omega) (by kernel_rfl) ?_
 intro x'' y'' q'' hq''
 obtain ⟨(a : Int), (b : Int), _⟩ := x''
 exact (fn48 a b).trans hq''
def fs48 : FSpec := fsT 48 [((.int .u64), false), ((.int .u64), false)] [(.bool, false)] fun (a, b, _) => t48 a b
theorem Q4u : fs48.Ok Try.prog := U6 fun x'' r'' hr'' => ok48 x'' () r'' hr''
def t47 (x : QRt) (limit now : Int) : Tr Res := .br (decide (IntKind.wrap .u64 limit > IntKind.wrap .u64 (18446744073709551615 - x.2.2.2.2.2.2))) (.ret ([.bool !decide (18446744073709551615 > now)], [.boxT none [.int .u32 limit], .boxT none [.int .u64 now]])) (.ret ([.bool !decide (IntKind.wrap .u64 (x.2.2.2.2.2.2 + IntKind.wrap .u64 limit) > now)], [.boxT none [.int .u32 limit], .boxT none [.int .u64 now]]))
def os47 : OSpec := { f := 47, sh := [.d QR true, .ptr 0 0, .ptr 1 0], so := [.box [.d (.int .u32) false], .box [.d (.int .u64) false]], F := fun (x, _) ((limit, _), (now, _), _) => t47 x limit now }
theorem fn47 (x : QRt) (limit now : Int) : evC T0 (orcB [fs49, fs48] []) (lpOf h47 2 (lsOf [])) c47 1000000 (X1 [AV.ofTy QR x true, .ptr 0 0, .ptr 1 0] [.box [.int .u32 limit], .box [.int .u64 now]] Try.f47.ntmps) (J1 T0 false 2 Try.f47) = (t47 x limit now).get := by kernel_rfl
theorem ok47 : os47.Ok Try.prog := by
 refine X3 J2 tab0 (V0 (all_cons U50 (all_cons Q4u all_nil)) all_nil) h47 (d := 0) (n0 := 2) (S := lsOf []) Try.func47 (by kernel_rfl) (c := c47) (by kernel_rfl) rfl (Z2 (by kernel_rfl)) (by omega) (by kernel_rfl) ?_
 intro x'' y'' q'' hq''
 obtain ⟨(x : QRt), _⟩ := x''
 obtain ⟨⟨(limit : Int), _⟩, ⟨(now : Int), _⟩, _⟩ := y''
 exact (fn47 x limit now).trans hq''
def t54 (x : QRt) (who : Int) : Tr Res := .ret ([.bool (x.2.2.2.2.2.1 == who)], [.boxT none [.int .i64 who]])
def os54 : OSpec := { f := 54, sh := [.d QR true, .ptr 0 0], so := [.box [.d (.int .i64) false]], F := fun (x, _) ((who, _), _) => t54 x who }
theorem fn54 (x : QRt) (who : Int) : evC T0 (orcB [fs49, fs48] []) (lpOf h54 1 (lsOf [])) c54 1000000 (X1 [AV.ofTy QR x true, .ptr 0 0] [.box [.int .i64 who]] Try.f54.ntmps) (J1 T0 false 1 Try.f54) = (t54 x who).get := by kernel_rfl
theorem ok54 : os54.Ok Try.prog := by
 refine X3 J2 tab0 (V0 (all_cons U50 (all_cons Q4u all_nil)) all_nil) h54 (d := 0) (n0 := 1) (S := lsOf []) Try.func54 (by kernel_rfl) (c := c54) (by kernel_rfl) rfl (Z2 (by kernel_rfl)) (by omega) (by kernel_rfl) ?_
 intro x'' y'' q'' hq''
 obtain ⟨(x : QRt), _⟩ := x''
 obtain ⟨⟨(who : Int), _⟩, _⟩ := y''
 exact (fn54 x who).trans hq''
def V0o (a b : Int) : Int := bif decide (IntKind.wrap IntKind.u64 b > IntKind.wrap IntKind.u64 (18446744073709551615 - a)) then 18446744073709551615 else IntKind.wrap IntKind.u64 (a + IntKind.wrap IntKind.u64 b)
def Jm (now limit : Int) (q : QRt) : Bool := !decide (V0o q.2.2.2.2.2.2 limit > now)
def whoB (who : Int) (q : QRt) : Bool := q.2.2.2.2.2.1 == who
def akS (all w : List QRt) (m i : Int) : Bool := Nat.ble all.length 1000 && (decide (w = []) && (decide (m = (all.length : Int)) && decide (i = 0)))
noncomputable def b46l : Code := J5 c46 0
def U3u : LoopSpec := { bid := 0, sh := [.fnp 47 [(2, 0), (3, 0)], .row 4, .row 1, .d (.int .i64) false, .d (.int .i64) false], so := [.box [.d (.int .u32) false, .d (.int .i64) false, .row 1], .row QR, .box [.d (.int .u32) false], .box [.d (.int .u64) false], .row QR], F := fun (m, i, _) ((host, room, _), all, (limit, _), (now, _), w, _) => .on (akS all w m i) (.exit 0, [.rowA 4], [.box [.int .u32 host, .int .i64 room, .rowA 1], .row QR all, .box [.int .u32 limit], .box [.int .u64 now], .row QR (all.filter (Jm now limit))]) }
def r46l (m i host room : Int) (all : List QRt) (limit now : Int) (w : List QRt) : Tr (St ⊕ (Ex × St)) := .br (decide (i < m)) (.br (decide (0 ≤ i)) (.br (decide (i < (↑all.length : Int))) (.br (decide (IntKind.wrap .u64 limit > IntKind.wrap .u64 (18446744073709551615 - (all.getD i.toNat (Ty.dflt QR)).2.2.2.2.2.2))) (.br (!decide (18446744073709551615 > now)) (.br (fits (List.length w + 1) 72) (.ret (.inl (stOf [1, 5, 13, 14, 15] [AV.fn 47 [.ptr 2 0, .ptr 3 0], .rowA 4, .rowA 1, .int .i64 m, .int .i64 (IntKind.wrap .i64 (i + 1))] [.boxT none [.int .u32 host, .int .i64 room, .rowA 1], .row QR all, .boxT none [.int .u32 limit], .boxT none [.int .u64 now], .row QR (w ++ [List.getD all i.toNat (Ty.dflt QR)])]))) .no) (.ret (.inl (stOf [1, 5, 13, 14, 15] [AV.fn 47 [.ptr 2 0, .ptr 3 0], .rowA 4, .rowA 1, .int .i64 m, .int .i64 (IntKind.wrap .i64 (i + 1))] [.boxT none [.int .u32 host, .int .i64 room, .rowA 1], .row QR all, .boxT none [.int .u32 limit], .boxT none [.int .u64 now], .row QR w])))) (.br (!decide (IntKind.wrap .u64 ((all.getD i.toNat (Ty.dflt QR)).2.2.2.2.2.2 + IntKind.wrap .u64 limit) > now)) (.br (fits (List.length w + 1) 72) (.ret (.inl (stOf [1, 5, 13, 14, 15] [AV.fn 47 [.ptr 2 0, .ptr 3 0], .rowA 4, .rowA 1, .int .i64 m, .int .i64 (IntKind.wrap .i64 (i + 1))] [.boxT none [.int .u32 host, .int .i64 room, .rowA 1], .row QR all, .boxT none [.int .u32 limit], .boxT none [.int .u64 now], .row QR (w ++ [List.getD all i.toNat (Ty.dflt QR)])]))) .no) (.ret (.inl (stOf [1, 5, 13, 14, 15] [AV.fn 47 [.ptr 2 0, .ptr 3 0], .rowA 4, .rowA 1, .int .i64 m, .int .i64 (IntKind.wrap .i64 (i + 1))] [.boxT none [.int .u32 host, .int .i64 room, .rowA 1], .row QR all, .boxT none [.int .u32 limit], .boxT none [.int .u64 now], .row QR w]))))) .no) .no) (.ret (.inr (.exit 0, stOf [5] [.rowA 4] [.boxT none [.int .u32 host, .int .i64 room, .rowA 1], .row QR all, .boxT none [.int .u32 limit], .boxT none [.int .u64 now], .row QR w])))
theorem V3o (lp : Lp) (m i host room : Int) (all : List QRt) (limit now : Int) (w : List QRt) : evC T0 (orcB [] [os47, os54]) lp b46l 0 (stOf [1, 5, 13, 14, 15] [.fn 47 [.ptr 2 0, .ptr 3 0], .rowA 4, .rowA 1, .int .i64 m, .int .i64 i] [.box [.int .u32 host, .int .i64 room, .rowA 1], .row QR all, .box [.int .u32 limit], .box [.int .u64 now], .row QR w]) (Z1 [1, 5, 13, 14, 15] [5] 4) = (r46l m i host room all limit now w).get := by kernel_rfl
theorem wf46l (m host room : Int) (all : List QRt) (limit now : Int) (I'' : List QRt → Int → Prop) (m'' : List QRt → Int → Nat) (r'' : Ex × St) (h : ∀ (w : List QRt) (i : Int), I'' w i → (r46l m i host room all limit now w).all fun x'' => x'' = .inr r'' ∨ ∃ (w' : List QRt) (i' : Int), x'' = .inl (stOf [1, 5, 13, 14, 15] [.fn 47 [.ptr 2 0, .ptr 3 0], .rowA 4, .rowA 1, .int .i64 m, .int .i64 i'] [.box [.int .u32 host, .int .i64 room, .rowA 1], .row QR all, .box [.int .u32 limit], .box [.int .u64 now], .row QR w']) ∧ I'' w' i' ∧ m'' w' i' < m'' w i) (lp : Lp) (w : List QRt) (i : Int) : I'' w i →
    Z3 (fun st => evC T0 (orcB [] [os47, os54]) lp b46l 0 st (Z1 [1, 5, 13, 14, 15] [5] 4)) (stOf [1, 5, 13, 14, 15] [.fn 47 [.ptr 2 0, .ptr 3 0], .rowA 4, .rowA 1, .int .i64 m, .int .i64 i] [.box [.int .u32 host, .int .i64 room, .rowA 1], .row QR all, .box [.int .u32 limit], .box [.int .u64 now], .row QR w]) = some r'' :=
 Q5 (fun a'' : List QRt × Int => stOf [1, 5, 13, 14, 15] [.fn 47 [.ptr 2 0, .ptr 3 0], .rowA 4, .rowA 1, .int .i64 m, .int .i64 a''.2] [.box [.int .u32 host, .int .i64 room, .rowA 1], .row QR all, .box [.int .u32 limit], .box [.int .u64 now], .row QR a''.1]) (fun a'' => I'' a''.1 a''.2) (fun a'' => m'' a''.1 a''.2) r'' (fun a'' => r46l m a''.2 host room all limit now a''.1)
  (fun a'' x hx => (V3o lp m a''.2 host room all limit now a''.1).trans hx) (fun a'' ha => Tr.all_mono (fun x'' hx => hx.imp id fun ⟨w', i', h1, h2, h3⟩ => ⟨(w', i'), h1, h2, h3⟩) (h (a''.1) (a''.2) ha)) (w, i)
noncomputable def b46o : Code := J5 c46 0
def Q44 : LoopSpec := { bid := 0, sh := [.fnp 54 [(2, 0)], .row 3, .row 1, .d (.int .i64) false, .d (.int .i64) false], so := [.box [.d (.int .u32) false, .d (.int .i64) false, .row 1], .row QR, .box [.d (.int .i64) false], .row QR], F := fun (m, i, _) ((host, room, _), all, (who, _), w, _) => .on (akS all w m i) (.exit 0, [.rowA 3], [.box [.int .u32 host, .int .i64 room, .rowA 1], .row QR all, .box [.int .i64 who], .row QR (all.filter (whoB who))]) }
def r46o (m i host room : Int) (all : List QRt) (who : Int) (w : List QRt) : Tr (St ⊕ (Ex × St)) := .br (decide (i < m)) (.br (decide (0 ≤ i)) (.br (decide (i < (↑all.length : Int))) (.br ((all.getD i.toNat (Ty.dflt QR)).2.2.2.2.2.1 == who) (.br (fits (List.length w + 1) 72) (.ret (.inl (stOf [1, 5, 13, 14, 15] [AV.fn 54 [.ptr 2 0], .rowA 3, .rowA 1, .int .i64 m, .int .i64 (IntKind.wrap .i64 (i + 1))] [.boxT none [.int .u32 host, .int .i64 room, .rowA 1], .row QR all, .boxT none [.int .i64 who], .row QR (w ++ [List.getD all i.toNat (Ty.dflt QR)])]))) .no) (.ret (.inl (stOf [1, 5, 13, 14, 15] [AV.fn 54 [.ptr 2 0], .rowA 3, .rowA 1, .int .i64 m, .int .i64 (IntKind.wrap .i64 (i + 1))] [.boxT none [.int .u32 host, .int .i64 room, .rowA 1], .row QR all, .boxT none [.int .i64 who], .row QR w])))) .no) .no) (.ret (.inr (.exit 0, stOf [5] [.rowA 3] [.boxT none [.int .u32 host, .int .i64 room, .rowA 1], .row QR all, .boxT none [.int .i64 who], .row QR w])))
theorem U49 (lp : Lp) (m i host room : Int) (all : List QRt) (who : Int) (w : List QRt) : evC T0 (orcB [] [os47, os54]) lp b46o 0 (stOf [1, 5, 13, 14, 15] [.fn 54 [.ptr 2 0], .rowA 3, .rowA 1, .int .i64 m, .int .i64 i] [.box [.int .u32 host, .int .i64 room, .rowA 1], .row QR all, .box [.int .i64 who], .row QR w]) (Z1 [1, 5, 13, 14, 15] [5] 3) = (r46o m i host room all who w).get := by kernel_rfl
theorem wf46o (m host room : Int) (all : List QRt) (who : Int) (I'' : List QRt → Int → Prop) (m'' : List QRt → Int → Nat) (r'' : Ex × St) (h : ∀ (w : List QRt) (i : Int), I'' w i → (r46o m i host room all who w).all fun x'' => x'' = .inr r'' ∨ ∃ (w' : List QRt) (i' : Int), x'' = .inl (stOf [1, 5, 13, 14, 15] [.fn 54 [.ptr 2 0], .rowA 3, .rowA 1, .int .i64 m, .int .i64 i'] [.box [.int .u32 host, .int .i64 room, .rowA 1], .row QR all, .box [.int .i64 who], .row QR w']) ∧ I'' w' i' ∧ m'' w' i' < m'' w i) (lp : Lp) (w : List QRt) (i : Int) : I'' w i →
    Z3 (fun st => evC T0 (orcB [] [os47, os54]) lp b46o 0 st (Z1 [1, 5, 13, 14, 15] [5] 3)) (stOf [1, 5, 13, 14, 15] [.fn 54 [.ptr 2 0], .rowA 3, .rowA 1, .int .i64 m, .int .i64 i] [.box [.int .u32 host, .int .i64 room, .rowA 1], .row QR all, .box [.int .i64 who], .row QR w]) = some r'' :=
 Q5 (fun a'' : List QRt × Int => stOf [1, 5, 13, 14, 15] [.fn 54 [.ptr 2 0], .rowA 3, .rowA 1, .int .i64 m, .int .i64 a''.2] [.box [.int .u32 host, .int .i64 room, .rowA 1], .row QR all, .box [.int .i64 who], .row QR a''.1]) (fun a'' => I'' a''.1 a''.2) (fun a'' => m'' a''.1 a''.2) r'' (fun a'' => r46o m a''.2 host room all who a''.1)
  (fun a'' x hx => (U49 lp m a''.2 host room all who a''.1).trans hx) (fun a'' ha => Tr.all_mono (fun x'' hx => hx.imp id fun ⟨w', i', h1, h2, h3⟩ => ⟨(w', i'), h1, h2, h3⟩) (h (a''.1) (a''.2) ha)) (w, i)
theorem J1d {α : Type} {p : α → Bool} {l : List α} {k : Nat} (d : α) (h : k < l.length) : (l.take (k + 1)).filter p = bif p (l.getD k d) then (l.take k).filter p ++ [l.getD k d] else (l.take k).filter p := by
 rw [List.take_add_one, List.getElem?_eq_getElem h, List.filter_append, List.getD_eq_getElem?_getD, List.getElem?_eq_getElem h]
 cases hp : p l[k] <;> simp [hp]
theorem Z2x {α : Type} {p : α → Bool} {l : List α} (k : Nat) : ((l.take k).filter p).length ≤ l.length := Nat.le_trans (List.length_filter_le ..) (by rw [List.length_take]; omega)
theorem V4r : Q44.Ok T0 (orcB [] [os47, os54]) h46 3 0 b46o := by
 intro q'' hq'' x'' y'' r'' h
 obtain ⟨(m : Int), (i : Int), _⟩ := x''
 obtain ⟨⟨(host : Int), (room : Int), _⟩, (all : List QRt), ⟨(who : Int), _⟩, (w : List QRt), _⟩ := y''
 obtain ⟨hc, rfl⟩ := Tr.get_on h
 show Z3 (fun st => evC T0 (orcB [] [os47, os54]) (lpN T0 (orcB [] [os47, os54]) h46 3 q'') b46o 0 st (Z1 [1, 5, 13, 14, 15] [5] 3)) (stOf [1, 5, 13, 14, 15] [.fn 54 [.ptr 2 0], .rowA 3, .rowA 1, .int .i64 m, .int .i64 i] [.box [.int .u32 host, .int .i64 room, .rowA 1], .row QR all, .box [.int .i64 who], .row QR w]) = some (.exit 0, stOf [5] ([.rowA 3]) ([.box [.int .u32 host, .int .i64 room, .rowA 1], .row QR all, .box [.int .i64 who], .row QR (all.filter (whoB who))]))
 simp only [akS, Bool.and_eq_true, decide_eq_true_eq] at hc
 obtain ⟨hl, rfl, rfl, rfl⟩ := hc
 have hl := Nat.le_of_ble_eq_true hl
 refine wf46o all.length host room all who (fun w i => 0 ≤ i ∧ i ≤ all.length ∧ w = (all.take i.toNat).filter (whoB who)) (fun w i => (all.length - i).toNat) _ ?_ _ [] 0 ⟨by omega, by omega, rfl⟩
 rintro w i ⟨h0, h1, rfl⟩
 unfold r46o
 rw [Ja h0 h1 (by omega)]
 by_cases hi : i < all.length
 · have hs := J1d (p := whoB who) (l := all) (k := i.toNat) (Ty.dflt QR) (by omega)
   have hf := Z2x (p := whoB who) (l := all) i.toNat
   generalize all.getD i.toNat (Ty.dflt QR) = x at *
   refine Tr.all_t (Z0 hi) (Tr.all_t (Z0 h0) (Tr.all_t (Z0 hi) (Tr.all_br (fun h => ?_) (fun h => ?_))))
   · rw [show whoB who x = true from h, cond_true] at hs
     refine Tr.all_t (Z4 (by omega) (by omega)) (Tr.all_ret (.inr ⟨_, _, rfl, ⟨by omega, by omega, ?_⟩, by omega⟩))
     rw [show (i + 1).toNat = i.toNat + 1 by omega, hs]
   · rw [show whoB who x = false from h, cond_false] at hs
     refine Tr.all_ret (.inr ⟨_, _, rfl, ⟨by omega, by omega, ?_⟩, by omega⟩)
     rw [show (i + 1).toNat = i.toNat + 1 by omega, hs]
 · refine Tr.all_f (U0 hi) (Tr.all_ret (.inl ?_))
   rw [List.take_of_length_le (by omega)]
theorem Z4p : U3u.Ok T0 (orcB [] [os47, os54]) h46 4 0 b46l := by
 intro q'' hq'' x'' y'' r'' h
 obtain ⟨(m : Int), (i : Int), _⟩ := x''
 obtain ⟨⟨(host : Int), (room : Int), _⟩, (all : List QRt), ⟨(limit : Int), _⟩, ⟨(now : Int), _⟩, (w : List QRt), _⟩ := y''
 obtain ⟨hc, rfl⟩ := Tr.get_on h
 show Z3 (fun st => evC T0 (orcB [] [os47, os54]) (lpN T0 (orcB [] [os47, os54]) h46 4 q'') b46l 0 st (Z1 [1, 5, 13, 14, 15] [5] 4)) (stOf [1, 5, 13, 14, 15] [.fn 47 [.ptr 2 0, .ptr 3 0], .rowA 4, .rowA 1, .int .i64 m, .int .i64 i] [.box [.int .u32 host, .int .i64 room, .rowA 1], .row QR all, .box [.int .u32 limit], .box [.int .u64 now], .row QR w]) = some (.exit 0, stOf [5] ([.rowA 4]) ([.box [.int .u32 host, .int .i64 room, .rowA 1], .row QR all, .box [.int .u32 limit], .box [.int .u64 now], .row QR (all.filter (Jm now limit))]))
 simp only [akS, Bool.and_eq_true, decide_eq_true_eq] at hc
 obtain ⟨hl, rfl, rfl, rfl⟩ := hc
 have hl := Nat.le_of_ble_eq_true hl
 refine wf46l all.length host room all limit now (fun w i => 0 ≤ i ∧ i ≤ all.length ∧ w = (all.take i.toNat).filter (Jm now limit)) (fun w i => (all.length - i).toNat) _ ?_ _ [] 0 ⟨by omega, by omega, rfl⟩
 rintro w i ⟨h0, h1, rfl⟩
 unfold r46l
 rw [Ja h0 h1 (by omega)]
 by_cases hi : i < all.length
 · have hs := J1d (p := Jm now limit) (l := all) (k := i.toNat) (Ty.dflt QR) (by omega)
   have hf := Z2x (p := Jm now limit) (l := all) i.toNat
   generalize all.getD i.toNat (Ty.dflt QR) = x at *
   have hT : ∀ b : Bool, Jm now limit x = b → (all.take (i.toNat + 1)).filter (Jm now limit) = bif b then (all.take i.toNat).filter (Jm now limit) ++ [x] else (all.take i.toNat).filter (Jm now limit) := fun b hb => by rw [hs, hb]
   refine Tr.all_t (Z0 hi) (Tr.all_t (Z0 h0) (Tr.all_t (Z0 hi) (Tr.all_br (fun hu => Tr.all_br (fun h => ?_) (fun h => ?_)) (fun hu => Tr.all_br (fun h => ?_) (fun h => ?_)))))
   · have hT := hT true (by unfold Jm V0o; rw [hu]; exact h)
     simp only [cond_true] at hT
     refine Tr.all_t (Z4 (by omega) (by omega)) (Tr.all_ret (.inr ⟨_, _, rfl, ⟨by omega, by omega, ?_⟩, by omega⟩))
     rw [show (i + 1).toNat = i.toNat + 1 by omega, hT]
   · have hT := hT false (by unfold Jm V0o; rw [hu]; exact h)
     simp only [cond_false] at hT
     refine Tr.all_ret (.inr ⟨_, _, rfl, ⟨by omega, by omega, ?_⟩, by omega⟩)
     rw [show (i + 1).toNat = i.toNat + 1 by omega, hT]
   · have hT := hT true (by unfold Jm V0o; rw [hu]; exact h)
     simp only [cond_true] at hT
     refine Tr.all_t (Z4 (by omega) (by omega)) (Tr.all_ret (.inr ⟨_, _, rfl, ⟨by omega, by omega, ?_⟩, by omega⟩))
     rw [show (i + 1).toNat = i.toNat + 1 by omega, hT]
   · have hT := hT false (by unfold Jm V0o; rw [hu]; exact h)
     simp only [cond_false] at hT
     refine Tr.all_ret (.inr ⟨_, _, rfl, ⟨by omega, by omega, ?_⟩, by omega⟩)
     rw [show (i + 1).toNat = i.toNat + 1 by omega, hT]
 · refine Tr.all_f (U0 hi) (Tr.all_ret (.inl ?_))
   rw [List.take_of_length_le (by omega)]
def t46l (host room : Int) (all : List QRt) (limit now : Int) : Tr Res := .br (akS all [] (↑all.length : Int) 0) (.ret ([.list QR (List.filter (Jm now limit) all)], [.boxT none [.int .u32 host, .int .i64 room, .rowA 1], .row QR all, .boxT none [.int .u32 limit], .boxT none [.int .u64 now]])) .no
def X50 : OSpec := { f := 46, sh := [.ptr 0 0, .fnp 47 [(2, 0), (3, 0)]], so := [.box [.d (.int .u32) false, .d (.int .i64) false, .row 1], .row QR, .box [.d (.int .u32) false], .box [.d (.int .u64) false]], F := fun _ ((host, room, _), all, (limit, _), (now, _), _) => t46l host room all limit now }
theorem fn46l (host room : Int) (all : List QRt) (limit now : Int) : evC T0 (orcB [] [os47, os54]) (lpOf h46 4 (lsOf [U3u])) c46 1000000 (X1 [.ptr 0 0, .fn 47 [.ptr 2 0, .ptr 3 0]] [.box [.int .u32 host, .int .i64 room, .rowA 1], .row QR all, .box [.int .u32 limit], .box [.int .u64 now]] Try.f46.ntmps) (J1 T0 false 4 Try.f46) = (t46l host room all limit now).get := by kernel_rfl
theorem ok46l : X50.Ok Try.prog := by
 refine X3 J2 tab0 (V0 all_nil (all_cons ok47 (all_cons ok54 all_nil))) h46 (d := 0) (n0 := 4) (S := lsOf [U3u]) Try.func46 (by kernel_rfl) (c := c46) (by kernel_rfl) rfl (V5 (xs := [(0, b46l)]) (by kernel_rfl) (all_cons (V6 Z4p) all_nil)) (by omega) (by kernel_rfl) ?_
 intro x'' y'' q'' hq''
 obtain ⟨⟨(host : Int), (room : Int), _⟩, (all : List QRt), ⟨(limit : Int), _⟩, ⟨(now : Int), _⟩, _⟩ := y''
 exact (fn46l host room all limit now).trans hq''
def t46o (host room : Int) (all : List QRt) (who : Int) : Tr Res := .br (akS all [] (↑all.length : Int) 0) (.ret ([.list QR (List.filter (whoB who) all)], [.boxT none [.int .u32 host, .int .i64 room, .rowA 1], .row QR all, .boxT none [.int .i64 who]])) .no
def J4y : OSpec := { f := 46, sh := [.ptr 0 0, .fnp 54 [(2, 0)]], so := [.box [.d (.int .u32) false, .d (.int .i64) false, .row 1], .row QR, .box [.d (.int .i64) false]], F := fun _ ((host, room, _), all, (who, _), _) => t46o host room all who }
theorem fn46o (host room : Int) (all : List QRt) (who : Int) : evC T0 (orcB [] [os47, os54]) (lpOf h46 3 (lsOf [Q44])) c46 1000000 (X1 [.ptr 0 0, .fn 54 [.ptr 2 0]] [.box [.int .u32 host, .int .i64 room, .rowA 1], .row QR all, .box [.int .i64 who]] Try.f46.ntmps) (J1 T0 false 3 Try.f46) = (t46o host room all who).get := by kernel_rfl
theorem ok46o : J4y.Ok Try.prog := by
 refine X3 J2 tab0 (V0 all_nil (all_cons ok47 (all_cons ok54 all_nil))) h46 (d := 0) (n0 := 3) (S := lsOf [Q44]) Try.func46 (by kernel_rfl) (c := c46) (by kernel_rfl) rfl (V5 (xs := [(0, b46o)]) (by kernel_rfl) (all_cons (V6 V4r) all_nil)) (by omega) (by kernel_rfl) ?_
 intro x'' y'' q'' hq''
 obtain ⟨⟨(host : Int), (room : Int), _⟩, (all : List QRt), ⟨(who : Int), _⟩, _⟩ := y''
 exact (fn46o host room all who).trans hq''
def V4c : LoopSpec := { bid := 0, sh := [], so := [], F := fun _ _ => .no }
theorem V4p (orc : Orc) : V4c.Ok T0 orc h46 2 0 b46l := by
 intro n hn x y r h
 cases h
def t46z (limit now : Int) : Tr Res := .ret ([.list QR []], [.boxT none [.int .u32 limit], .boxT none [.int .u64 now]])
def Z4z : OSpec := { f := 46, sh := [.np, .fnp 47 [(0, 0), (1, 0)]], so := [.box [.d (.int .u32) false], .box [.d (.int .u64) false]], F := fun _ ((limit, _), (now, _), _) => t46z limit now }
theorem fn46z (limit now : Int) : evC T0 (orcB [] [os47, os54]) (lpOf h46 2 (lsOf [V4c])) c46 1000000 (X1 [.np, .fn 47 [.ptr 0 0, .ptr 1 0]] [.box [.int .u32 limit], .box [.int .u64 now]] Try.f46.ntmps) (J1 T0 false 2 Try.f46) = (t46z limit now).get := by kernel_rfl
theorem ok46z : Z4z.Ok Try.prog := by
 refine X3 J2 tab0 (V0 all_nil (all_cons ok47 (all_cons ok54 all_nil))) h46 (d := 0) (n0 := 2) (S := lsOf [V4c]) Try.func46 (by kernel_rfl) (c := c46) (by kernel_rfl) rfl (V5 (xs := [(0, b46l)]) (by kernel_rfl) (all_cons (V6 (V4p _)) all_nil)) (by omega) (by kernel_rfl) ?_
 intro x'' y'' q'' hq''
 obtain ⟨⟨(limit : Int), _⟩, ⟨(now : Int), _⟩, _⟩ := y''
 exact (fn46z limit now).trans hq''
def t21 (now limit host room : Int) (all : List QRt) : Tr Res := .br (akS all [] (↑all.length : Int) 0) (.ret ([.list QR (List.filter (Jm now limit) all)], [.boxT none [.int .u32 host, .int .i64 room, .rowA 1], .row QR all])) .no
def os21 : OSpec := { f := 21, sh := [.ptr 0 0, .d (.int .u64) false, .d (.int .u32) false], so := [.box [.d (.int .u32) false, .d (.int .i64) false, .row 1], .row QR], F := fun (now, limit, _) ((host, room, _), all, _) => t21 now limit host room all }
theorem fn21 (now limit host room : Int) (all : List QRt) : evC T0 (orcB [] [X50, J4y, Z4z]) (lpOf h21 2 (lsOf [])) c21 1000000 (X1 [.ptr 0 0, .int .u64 now, .int .u32 limit] [.box [.int .u32 host, .int .i64 room, .rowA 1], .row QR all] Try.f21.ntmps) (J1 T0 false 2 Try.f21) = (t21 now limit host room all).get := by kernel_rfl
theorem ok21 : os21.Ok Try.prog := by
 refine X3 J2 tab0 (V0 all_nil (all_cons ok46l (all_cons ok46o (all_cons ok46z all_nil)))) h21 (d := 0) (n0 := 2) (S := lsOf []) Try.func21 (by kernel_rfl) (c := c21) (by kernel_rfl) rfl (Z2 (by kernel_rfl)) (by omega) (by kernel_rfl) ?_
 intro x'' y'' q'' hq''
 obtain ⟨(now : Int), (limit : Int), _⟩ := x''
 obtain ⟨⟨(host : Int), (room : Int), _⟩, (all : List QRt), _⟩ := y''
 exact (fn21 now limit host room all).trans hq''
abbrev DE : Ty := .pair (.int .i64) (.pair QR (.int .u32))
abbrev DEt := Int × (QRt × Int)
def t111 (a b : Int) : Tr Res := .br (decide (IntKind.wrap .u64 (a + IntKind.wrap .u64 b) < a)) (.ret ([.int .u64 18446744073709551615], [])) (.ret ([.int .u64 (IntKind.wrap .u64 (a + IntKind.wrap .u64 b))], []))
def os111 : OSpec := { f := 111, sh := [.d (.int .u64) false, .d (.int .u32) false], so := [], F := fun (a, b, _) _ => t111 a b }
theorem fn111 (a b : Int) : evC T0 (orcB [] []) (lpOf h111 0 (lsOf [])) c111 1000000 (X1 [.int .u64 a, .int .u32 b] [] Try.f111.ntmps) (J1 T0 false 0 Try.f111) = (t111 a b).get := by kernel_rfl
theorem ok111 : os111.Ok Try.prog := by
 refine X3 J2 tab0 (V0 all_nil all_nil) h111 (d := 0) (n0 := 0) (S := lsOf []) Try.func111 (by kernel_rfl) (c := c111) (by kernel_rfl) rfl (Z2 (by kernel_rfl)) (by omega) (by kernel_rfl) ?_
 intro x'' y'' q'' hq''
 obtain ⟨(a : Int), (b : Int), _⟩ := x''
 exact (fn111 a b).trans hq''
def V1n : FSpec := fsT 111 [((.int .u64), false), ((.int .u32), false)] [((.int .u64), false)] fun (a, b, _) => t111 a b
theorem X57 : V1n.Ok Try.prog := U6 fun x'' r'' hr'' => ok111 x'' () r'' hr''
def t53 (x : QRt) : Tr Res := .ret ([.agg [.int .u16 x.1, .int .u16 x.2.1, .int .u32 x.2.2.1.1, .int .u16 x.2.2.1.2, .str x.2.2.2.1.1, .int .u16 x.2.2.2.1.2.1, .int .u16 x.2.2.2.1.2.2, .str x.2.2.2.2.1, .int .i64 x.2.2.2.2.2.1, .int .u64 x.2.2.2.2.2.2]], [])
def os53 : OSpec := { f := 53, sh := [.d QR true], so := [], F := fun (x, _) _ => t53 x }
theorem fn53 (x : QRt) : evC T0 (orcB [] []) (lpOf h53 0 (lsOf [])) c53 1000000 (X1 [AV.ofTy QR x true] [] Try.f53.ntmps) (J1 T0 false 0 Try.f53) = (t53 x).get := by kernel_rfl
theorem ok53 : os53.Ok Try.prog := by
 refine X3 J2 tab0 (V0 all_nil all_nil) h53 (d := 0) (n0 := 0) (S := lsOf []) Try.func53 (by kernel_rfl) (c := c53) (by kernel_rfl) rfl (Z2 (by kernel_rfl)) (by omega) (by kernel_rfl) ?_
 intro x'' y'' q'' hq''
 obtain ⟨(x : QRt), _⟩ := x''
 exact (fn53 x).trans hq''
def fs53 : FSpec := fsT 53 [(QR, true)] [(QR, true)] fun (x, _) => t53 x
theorem X3x : fs53.Ok Try.prog := U6 fun x'' r'' hr'' => ok53 x'' () r'' hr''
def t16 (x : QRt) : Tr Res := .ret ([.agg [.int .u16 x.1, .int .u16 x.2.1, .int .u32 x.2.2.1.1, .int .u16 x.2.2.1.2, .str x.2.2.2.1.1, .int .u16 x.2.2.2.1.2.1, .int .u16 x.2.2.2.1.2.2, .str x.2.2.2.2.1, .int .i64 x.2.2.2.2.2.1, .int .u64 x.2.2.2.2.2.2]], [])
def os16 : OSpec := { f := 16, sh := [.d QR true], so := [], F := fun (x, _) _ => t16 x }
theorem fn16 (x : QRt) : evC T0 (orcB [] []) (lpOf h16 0 (lsOf [])) c16 1000000 (X1 [AV.ofTy QR x true] [] Try.f16.ntmps) (J1 T0 false 0 Try.f16) = (t16 x).get := by kernel_rfl
theorem ok16 : os16.Ok Try.prog := by
 refine X3 J2 tab0 (V0 all_nil all_nil) h16 (d := 0) (n0 := 0) (S := lsOf []) Try.func16 (by kernel_rfl) (c := c16) (by kernel_rfl) rfl (Z2 (by kernel_rfl)) (by omega) (by kernel_rfl) ?_
 intro x'' y'' q'' hq''
 obtain ⟨(x : QRt), _⟩ := x''
 exact (fn16 x).trans hq''
def fs16 : FSpec := fsT 16 [(QR, true)] [(QR, true)] fun (x, _) => t16 x
theorem X4s : fs16.Ok Try.prog := U6 fun x'' r'' hr'' => ok16 x'' () r'' hr''
def akF (l : List QRt) (i : Int) : Bool := Nat.ble l.length 1000 && decide (i = 0)
def akO (l : List QRt) (qi : Int) : Bool := Nat.ble l.length 1000 && (decide (0 ≤ qi) && decide (qi < 65536))
def eqQ (x y : QRt) : Bool := x.1 == y.1 && (x.2.1 == y.2.1 && ((x.2.2.1.1 == y.2.2.1.1 && (x.2.2.1.2 == y.2.2.1.2 && true)) && ((x.2.2.2.1.1 == y.2.2.2.1.1 && (x.2.2.2.1.2.1 == y.2.2.2.1.2.1 && (x.2.2.2.1.2.2 == y.2.2.2.1.2.2 && true))) && (x.2.2.2.2.1 == y.2.2.2.2.1 && (x.2.2.2.2.2.1 == y.2.2.2.2.2.1 && (x.2.2.2.2.2.2 == y.2.2.2.2.2.2 && true))))))
theorem X1a {x y : QRt} : eqQ x y = true ↔ x = y := by
 obtain ⟨a, b, ⟨c, d⟩, ⟨e, f, g⟩, h, i, j⟩ := x
 obtain ⟨a', b', ⟨c', d'⟩, ⟨e', f', g'⟩, h', i', j'⟩ := y
 simp only [eqQ, Bool.and_eq_true, beq_iff_eq, Bool.true_eq, and_true, Prod.mk.injEq]
def Vs : List QRt → List QRt → Bool
 | [], [] => true
 | x :: a, y :: b => eqQ x y && Vs a b
 | _, _ => false
theorem X0j : ∀ {a b : List QRt}, Vs a b = true ↔ a = b
 | [], [] => by simp [Vs]
 | [], y :: b => by simp [Vs]
 | x :: a, [] => by simp [Vs]
 | x :: a, y :: b => by simp only [Vs, Bool.and_eq_true, X1a, X0j, List.cons.injEq]
def akP (a b : List QRt) (i : Int) : Bool := Nat.ble a.length 1000 && (decide (a.length = b.length) && decide (i = 0))
def akW (l w : List QRt) (i : Int) : Bool := Nat.ble l.length 1000 && (decide (w = []) && decide (i = 0))
noncomputable def b110 : Code := J5 c110 0
def Z3k : LoopSpec := { bid := 0, sh := [.d (.list QR) false, .d (.int .u16) false, .d (.int .u16) false, .d (.int .i64) false], so := [], F := fun (l, qi, port, i, _) _ => .on2 (akF l i) (decide (idxL (ipB qi port) l 0 < 0)) (.exit 0, [.dead], []) (.ret, [.int .i64 (idxL (ipB qi port) l 0)], []) }
def r110 (l : List QRt) (qi port i : Int) : Tr (St ⊕ (Ex × St)) := .br (decide (i < (↑l.length : Int))) (.br (decide (0 ≤ i)) (.br (decide (i < (↑l.length : Int))) (.br ((l.getD i.toNat (Ty.dflt QR)).1 == qi) (.br (decide (0 ≤ i)) (.br (decide (i < (↑l.length : Int))) (.br ((l.getD i.toNat (Ty.dflt QR)).2.1 == port) (.ret (.inr (.ret, stOf [6] [.int .i64 i] []))) (.ret (.inl (stOf [0, 1, 2, 7] [.list QR l, .int .u16 qi, .int .u16 port, .int .i64 (IntKind.wrap .i64 (i + 1))] [])))) .no) .no) (.ret (.inl (stOf [0, 1, 2, 7] [.list QR l, .int .u16 qi, .int .u16 port, .int .i64 (IntKind.wrap .i64 (i + 1))] [])))) .no) .no) (.ret (.inr (.exit 0, stOf [6] [.dead] [])))
theorem U4a (lp : Lp) (l : List QRt) (qi port i : Int) : evC T0 (orcB [] []) lp b110 0 (stOf [0, 1, 2, 7] [.list QR l, .int .u16 qi, .int .u16 port, .int .i64 i] []) (Z1 [0, 1, 2, 7] [6] 0) = (r110 l qi port i).get := by kernel_rfl
theorem wf110 (l : List QRt) (qi port : Int) (I'' : Int → Prop) (m'' : Int → Nat) (r'' : Ex × St) (h : ∀ (i : Int), I'' i → (r110 l qi port i).all fun x'' => x'' = .inr r'' ∨ ∃ (i' : Int), x'' = .inl (stOf [0, 1, 2, 7] [.list QR l, .int .u16 qi, .int .u16 port, .int .i64 i'] []) ∧ I'' i' ∧ m'' i' < m'' i) (lp : Lp) (i : Int) : I'' i →
    Z3 (fun st => evC T0 (orcB [] []) lp b110 0 st (Z1 [0, 1, 2, 7] [6] 0)) (stOf [0, 1, 2, 7] [.list QR l, .int .u16 qi, .int .u16 port, .int .i64 i] []) = some r'' :=
 Q5 (fun a'' : Int => stOf [0, 1, 2, 7] [.list QR l, .int .u16 qi, .int .u16 port, .int .i64 a''] []) (fun a'' => I'' a'') (fun a'' => m'' a'') r'' (fun a'' => r110 l qi port a'')
  (fun a'' x hx => (U4a lp l qi port a'').trans hx) (fun a'' ha => Tr.all_mono (fun x'' hx => hx.imp id fun ⟨i', h1, h2, h3⟩ => ⟨(i'), h1, h2, h3⟩) (h (a'') ha)) (i)
theorem Z4n : Z3k.Ok T0 (orcB [] []) h110 0 0 b110 := by
 intro q'' hq'' x'' y'' r'' h
 obtain ⟨(l : List QRt), (qi : Int), (port : Int), (i : Int), _⟩ := x''
 obtain ⟨hc, rfl⟩ := Tr.get_on2 h
 show Z3 (fun st => evC T0 (orcB [] []) (lpN T0 (orcB [] []) h110 0 q'') b110 0 st (Z1 [0, 1, 2, 7] [6] 0)) (stOf [0, 1, 2, 7] [.list QR l, .int .u16 qi, .int .u16 port, .int .i64 i] []) = some ((bif decide (idxL (ipB qi port) l 0 < 0) then (.exit 0, [.dead], []) else (.ret, [.int .i64 (idxL (ipB qi port) l 0)], []) : Ex × List AV × List LObj).1, stOf [6] (bif decide (idxL (ipB qi port) l 0 < 0) then (.exit 0, [.dead], []) else (.ret, [.int .i64 (idxL (ipB qi port) l 0)], []) : Ex × List AV × List LObj).2.1 (bif decide (idxL (ipB qi port) l 0 < 0) then (.exit 0, [.dead], []) else (.ret, [.int .i64 (idxL (ipB qi port) l 0)], []) : Ex × List AV × List LObj).2.2)
 simp only [akF, Bool.and_eq_true, decide_eq_true_eq] at hc
 obtain ⟨hl, rfl⟩ := hc
 have hl := Nat.le_of_ble_eq_true hl
 refine wf110 l qi port (fun i => 0 ≤ i ∧ i ≤ l.length ∧ idxL (ipB qi port) (l.drop i.toNat) i.toNat = idxL (ipB qi port) l 0) (fun i => (l.length - i).toNat) _ ?_ _ 0 ⟨by omega, by omega, rfl⟩
 rintro i ⟨h0, h1, he⟩
 unfold r110
 rw [Ja h0 h1 (by omega)]
 by_cases hi : i < l.length
 · rw [Jj (l := l) (k := i.toNat) (by omega) (Ty.dflt QR), idxL] at he
   generalize l.getD i.toNat (Ty.dflt QR) = x at *
   have hno : ∀ b : Bool, b = false → ipB qi port x = b → idxL (ipB qi port) (l.drop (i.toNat + 1)) (i.toNat + 1) = idxL (ipB qi port) l 0 := fun b hb h => by
    rw [if_neg (by rw [h, hb]; simp)] at he
    exact he
   refine Tr.all_t (Z0 hi) (Tr.all_t (Z0 h0) (Tr.all_t (Z0 hi) (Tr.all_br (fun h => Tr.all_t (Z0 h0) (Tr.all_t (Z0 hi) (Tr.all_br (fun h2 => ?_) fun h2 => ?_))) fun h => ?_)))
   · have h : ipB qi port x = true := by unfold ipB; rw [h, h2]; rfl
     rw [if_pos h] at he
     rw [← he, show ((i.toNat : Nat) : Int) = i by omega, U0 (show ¬ i < 0 by omega)]
     exact Tr.all_ret (.inl rfl)
   · exact Tr.all_ret (.inr ⟨_, rfl, ⟨by omega, by omega, by rw [show (i + 1).toNat = i.toNat + 1 by omega]; exact hno false rfl (by unfold ipB; rw [h, h2]; rfl)⟩, by omega⟩)
   · exact Tr.all_ret (.inr ⟨_, rfl, ⟨by omega, by omega, by rw [show (i + 1).toNat = i.toNat + 1 by omega]; exact hno false rfl (by unfold ipB; rw [h]; rfl)⟩, by omega⟩)
 · refine Tr.all_f (U0 hi) (Tr.all_ret (.inl ?_))
   rw [List.drop_eq_nil_of_le (by omega)] at he
   rw [← he]
   rfl
def t110 (l : List QRt) (qi port : Int) : Tr Res := .br (akF l 0) (.br (decide (idxL (ipB qi port) l 0 < 0)) (.ret ([.int .i64 (-1)], [])) (.ret ([.int .i64 (idxL (ipB qi port) l 0)], []))) .no
def os110 : OSpec := { f := 110, sh := [.d (.list QR) false, .d (.int .u16) false, .d (.int .u16) false], so := [], F := fun (l, qi, port, _) _ => t110 l qi port }
theorem fn110 (l : List QRt) (qi port : Int) : evC T0 (orcB [] []) (lpOf h110 0 (lsOf [Z3k])) c110 1000000 (X1 [.list QR l, .int .u16 qi, .int .u16 port] [] Try.f110.ntmps) (J1 T0 false 0 Try.f110) = (t110 l qi port).get := by kernel_rfl
theorem ok110 : os110.Ok Try.prog := by
 refine X3 J2 tab0 (V0 all_nil all_nil) h110 (d := 0) (n0 := 0) (S := lsOf [Z3k]) Try.func110 (by kernel_rfl) (c := c110) (by kernel_rfl) rfl (V5 (xs := [(0, b110)]) (by kernel_rfl) (all_cons (V6 Z4n) all_nil)) (by omega) (by kernel_rfl) ?_
 intro x'' y'' q'' hq''
 obtain ⟨(l : List QRt), (qi : Int), (port : Int), _⟩ := x''
 exact (fn110 l qi port).trans hq''
def U15 : FSpec := fsT 110 [((.list QR), false), ((.int .u16), false), ((.int .u16), false)] [((.int .i64), false)] fun (l, qi, port, _) => t110 l qi port
theorem J3u : U15.Ok Try.prog := U6 fun x'' r'' hr'' => ok110 x'' () r'' hr''
noncomputable def b78 : Code := J5 c78 0
def ls78 : LoopSpec := { bid := 0, sh := [.d (.list QR) false, .ptr 0 0, .ptr 1 0, .row 2, .d (.int .i64) false], so := [.box [.d (.int .u16) false, .d (.int .u16) false, .d (.int .u32) false, .d (.int .u16) false, .d .str false, .d (.int .u16) false, .d (.int .u16) false, .d .str false, .d (.int .i64) false, .d (.int .u64) false], .box [.d (.int .u16) false, .d (.int .u16) false, .d (.int .u32) false, .d (.int .u16) false, .d .str false, .d (.int .u16) false, .d (.int .u16) false, .d .str false, .d (.int .i64) false, .d (.int .u64) false], .row QR], F := fun (l, qi, _) ((xi, xp, xh, xo, xn, xt, xc, xz, xw, xs, _), (zi, zp, zh, zo, zn, zt, zc, zz, zw, zs, _), w, _) => .on (akO l qi) (.exit 0, [.ptr 0 0, .ptr 1 0, .rowA 2, .int .i64 (Vq l xp qi)], [.box [.int .u16 xi, .int .u16 xp, .int .u32 xh, .int .u16 xo, .str xn, .int .u16 xt, .int .u16 xc, .str xz, .int .i64 xw, .int .u64 xs], .box [.int .u16 zi, .int .u16 zp, .int .u32 zh, .int .u16 zo, .str zn, .int .u16 zt, .int .u16 zc, .str zz, .int .i64 zw, .int .u64 zs], .row QR w]) }
def r78 (l : List QRt) (qi xi xp xh xo : Int) (xn : List UInt8) (xt xc : Int) (xz : List UInt8) (xw xs zi zp zh zo : Int) (zn : List UInt8) (zt zc : Int) (zz : List UInt8) (zw zs : Int) (w : List QRt) : Tr (St ⊕ (Ex × St)) := .br (akF l 0) (.br (decide (idxL (ipB (IntKind.wrap .u16 qi) xp) l 0 < 0)) (.ret (.inr (.exit 0, stOf [6, 9, 11, 12] [.ptr 0 0, .ptr 1 0, .rowA 2, .int .i64 qi] [.boxT none [.int .u16 xi, .int .u16 xp, .int .u32 xh, .int .u16 xo, .str xn, .int .u16 xt, .int .u16 xc, .str xz, .int .i64 xw, .int .u64 xs], .boxT none [.int .u16 zi, .int .u16 zp, .int .u32 zh, .int .u16 zo, .str zn, .int .u16 zt, .int .u16 zc, .str zz, .int .i64 zw, .int .u64 zs], .row QR w]))) (.br (decide (idxL (ipB (IntKind.wrap .u16 qi) xp) l 0 ≥ 0)) (.ret (.inl (stOf [0, 6, 9, 11, 12] [.list QR l, .ptr 0 0, .ptr 1 0, .rowA 2, .int .i64 (Int.tmod (IntKind.wrap .i64 (qi + 1)) 65536)] [.boxT none [.int .u16 xi, .int .u16 xp, .int .u32 xh, .int .u16 xo, .str xn, .int .u16 xt, .int .u16 xc, .str xz, .int .i64 xw, .int .u64 xs], .boxT none [.int .u16 zi, .int .u16 zp, .int .u32 zh, .int .u16 zo, .str zn, .int .u16 zt, .int .u16 zc, .str zz, .int .i64 zw, .int .u64 zs], .row QR w]))) (.ret (.inr (.exit 0, stOf [6, 9, 11, 12] [.ptr 0 0, .ptr 1 0, .rowA 2, .int .i64 qi] [.boxT none [.int .u16 xi, .int .u16 xp, .int .u32 xh, .int .u16 xo, .str xn, .int .u16 xt, .int .u16 xc, .str xz, .int .i64 xw, .int .u64 xs], .boxT none [.int .u16 zi, .int .u16 zp, .int .u32 zh, .int .u16 zo, .str zn, .int .u16 zt, .int .u16 zc, .str zz, .int .i64 zw, .int .u64 zs], .row QR w]))))) .no
theorem U4m (lp : Lp) (l : List QRt) (qi xi xp xh xo : Int) (xn : List UInt8) (xt xc : Int) (xz : List UInt8) (xw xs zi zp zh zo : Int) (zn : List UInt8) (zt zc : Int) (zz : List UInt8) (zw zs : Int) (w : List QRt) : evC T0 (orcB [U15] []) lp b78 0 (stOf [0, 6, 9, 11, 12] [.list QR l, .ptr 0 0, .ptr 1 0, .rowA 2, .int .i64 qi] [.box [.int .u16 xi, .int .u16 xp, .int .u32 xh, .int .u16 xo, .str xn, .int .u16 xt, .int .u16 xc, .str xz, .int .i64 xw, .int .u64 xs], .box [.int .u16 zi, .int .u16 zp, .int .u32 zh, .int .u16 zo, .str zn, .int .u16 zt, .int .u16 zc, .str zz, .int .i64 zw, .int .u64 zs], .row QR w]) (Z1 [0, 6, 9, 11, 12] [6, 9, 11, 12] 0) = (r78 l qi xi xp xh xo xn xt xc xz xw xs zi zp zh zo zn zt zc zz zw zs w).get := by kernel_rfl
set_option maxHeartbeats 4000000 in
theorem wf78 (l : List QRt) (xi : Int) (xp : Int) (xh : Int) (xo : Int) (xn : List UInt8) (xt : Int) (xc : Int) (xz : List UInt8) (xw : Int) (xs : Int) (zi : Int) (zp : Int) (zh : Int) (zo : Int) (zn : List UInt8) (zt : Int) (zc : Int) (zz : List UInt8) (zw : Int) (zs : Int) (w : List QRt) (I'' : Int → Prop) (m'' : Int → Nat) (r'' : Ex × St) (h : ∀ (qi : Int), I'' qi → (r78 l qi xi xp xh xo xn xt xc xz xw xs zi zp zh zo zn zt zc zz zw zs w).all fun x'' => x'' = .inr r'' ∨ ∃ (qi' : Int), x'' = .inl (stOf [0, 6, 9, 11, 12] [.list QR l, .ptr 0 0, .ptr 1 0, .rowA 2, .int .i64 qi'] [.box [.int .u16 xi, .int .u16 xp, .int .u32 xh, .int .u16 xo, .str xn, .int .u16 xt, .int .u16 xc, .str xz, .int .i64 xw, .int .u64 xs], .box [.int .u16 zi, .int .u16 zp, .int .u32 zh, .int .u16 zo, .str zn, .int .u16 zt, .int .u16 zc, .str zz, .int .i64 zw, .int .u64 zs], .row QR w]) ∧ I'' qi' ∧ m'' qi' < m'' qi) (lp : Lp) (qi : Int) : I'' qi →
    Z3 (fun st => evC T0 (orcB [U15] []) lp b78 0 st (Z1 [0, 6, 9, 11, 12] [6, 9, 11, 12] 0)) (stOf [0, 6, 9, 11, 12] [.list QR l, .ptr 0 0, .ptr 1 0, .rowA 2, .int .i64 qi] [.box [.int .u16 xi, .int .u16 xp, .int .u32 xh, .int .u16 xo, .str xn, .int .u16 xt, .int .u16 xc, .str xz, .int .i64 xw, .int .u64 xs], .box [.int .u16 zi, .int .u16 zp, .int .u32 zh, .int .u16 zo, .str zn, .int .u16 zt, .int .u16 zc, .str zz, .int .i64 zw, .int .u64 zs], .row QR w]) = some r'' :=
 Q5 (fun a'' : Int => stOf [0, 6, 9, 11, 12] [.list QR l, .ptr 0 0, .ptr 1 0, .rowA 2, .int .i64 a''] [.box [.int .u16 xi, .int .u16 xp, .int .u32 xh, .int .u16 xo, .str xn, .int .u16 xt, .int .u16 xc, .str xz, .int .i64 xw, .int .u64 xs], .box [.int .u16 zi, .int .u16 zp, .int .u32 zh, .int .u16 zo, .str zn, .int .u16 zt, .int .u16 zc, .str zz, .int .i64 zw, .int .u64 zs], .row QR w]) (fun a'' => I'' a'') (fun a'' => m'' a'') r'' (fun a'' => r78 l a'' xi xp xh xo xn xt xc xz xw xs zi zp zh zo zn zt zc zz zw zs w)
  (fun a'' x hx => (U4m lp l a'' xi xp xh xo xn xt xc xz xw xs zi zp zh zo zn zt zc zz zw zs w).trans hx) (fun a'' ha => Tr.all_mono (fun x'' hx => hx.imp id fun ⟨qi', h1, h2, h3⟩ => ⟨(qi'), h1, h2, h3⟩) (h (a'') ha)) (qi)
theorem u16_in {x : Int} (h0 : 0 ≤ x) (h : x < 65536) : IntKind.wrap IntKind.u16 x = x := by
 show x % 65536 = x
 omega
theorem V59 : ls78.Ok T0 (orcB [U15] []) h78 0 0 b78 := by
 intro q'' hq'' x'' y'' r'' h
 obtain ⟨(l : List QRt), (qi : Int), _⟩ := x''
 obtain ⟨⟨(xi : Int), (xp : Int), (xh : Int), (xo : Int), (xn : List UInt8), (xt : Int), (xc : Int), (xz : List UInt8), (xw : Int), (xs : Int), _⟩, ⟨(zi : Int), (zp : Int), (zh : Int), (zo : Int), (zn : List UInt8), (zt : Int), (zc : Int), (zz : List UInt8), (zw : Int), (zs : Int), _⟩, (w : List QRt), _⟩ := y''
 obtain ⟨hc, rfl⟩ := Tr.get_on h
 show Z3 (fun st => evC T0 (orcB [U15] []) (lpN T0 (orcB [U15] []) h78 0 q'') b78 0 st (Z1 [0, 6, 9, 11, 12] [6, 9, 11, 12] 0)) (stOf [0, 6, 9, 11, 12] [.list QR l, .ptr 0 0, .ptr 1 0, .rowA 2, .int .i64 qi] [.box [.int .u16 xi, .int .u16 xp, .int .u32 xh, .int .u16 xo, .str xn, .int .u16 xt, .int .u16 xc, .str xz, .int .i64 xw, .int .u64 xs], .box [.int .u16 zi, .int .u16 zp, .int .u32 zh, .int .u16 zo, .str zn, .int .u16 zt, .int .u16 zc, .str zz, .int .i64 zw, .int .u64 zs], .row QR w]) = some (.exit 0, stOf [6, 9, 11, 12] ([.ptr 0 0, .ptr 1 0, .rowA 2, .int .i64 (Vq l xp qi)]) ([.box [.int .u16 xi, .int .u16 xp, .int .u32 xh, .int .u16 xo, .str xn, .int .u16 xt, .int .u16 xc, .str xz, .int .i64 xw, .int .u64 xs], .box [.int .u16 zi, .int .u16 zp, .int .u32 zh, .int .u16 zo, .str zn, .int .u16 zt, .int .u16 zc, .str zz, .int .i64 zw, .int .u64 zs], .row QR w]))
 simp only [akO, Bool.and_eq_true, decide_eq_true_eq] at hc
 obtain ⟨hl, h0, h1⟩ := hc
 have hl := Nat.le_of_ble_eq_true hl
 refine wf78 l xi xp xh xo xn xt xc xz xw xs zi zp zh zo zn zt zc zz zw zs w (nxI l xp qi) (nxM l qi) _ ?_ _ qi (Q1e h0 h1)
 intro j hI
 unfold r78
 rw [u16_in hI.1.1 hI.1.2]
 refine Tr.all_t (by rw [akF, Nat.ble_eq_true_of_le (by omega)]; rfl) ?_
 rcases Xz (all := l) (p := xp) (id := j) with ⟨ht, he⟩ | ⟨ht, he⟩
 · refine Tr.all_t (Z0 (by rw [he]; decide)) (Tr.all_ret (.inl ?_))
   rw [U28 hI ht]
 · refine Tr.all_f (U0 (by omega)) (Tr.all_t (Z0 he) (Tr.all_ret (.inr ⟨_, rfl, ?_⟩)))
   rw [IntWalk.i64_in (j + 1) (by have := hI.1; omega), show Int.tmod (j + 1) 65536 = (j + 1) % 65536 from Int.tmod_eq_emod_of_nonneg (by have := hI.1; omega)]
   exact U19 hl hI ht
def t78 (l : List QRt) (room : Int) (x : QRt) (draw : Int) : Tr Res := .br (decide ((↑l.length : Int) ≥ room)) (.ret ([.list QR l, .agg [.int .u16 0, .int .u16 0, .int .u32 0, .int .u16 0, .str [], .int .u16 0, .int .u16 0, .str [], .int .i64 0, .int .u64 0], .int .i64 5], [])) (.br (fits (0 + List.length l) 72) (.br (akO l (IntKind.wrap .i64 (Int.tmod draw 65536))) (.br (fits (List.length ([] ++ l) + 1) 72) (.ret ([.list QR ([] ++ l ++ [(IntKind.wrap .u16 (Vq l (IntKind.wrap .u16 (IntKind.wrap .u32 (1024 + Int.tmod (IntKind.wrap .u32 (Int.tdiv draw 65536)) 64512))) (IntKind.wrap .i64 (Int.tmod draw 65536))), IntKind.wrap .u16 (IntKind.wrap .u32 (1024 + Int.tmod (IntKind.wrap .u32 (Int.tdiv draw 65536)) 64512)), x.2.2)]), .agg [.int .u16 (IntKind.wrap .u16 (Vq l (IntKind.wrap .u16 (IntKind.wrap .u32 (1024 + Int.tmod (IntKind.wrap .u32 (Int.tdiv draw 65536)) 64512))) (IntKind.wrap .i64 (Int.tmod draw 65536)))), .int .u16 (IntKind.wrap .u16 (IntKind.wrap .u32 (1024 + Int.tmod (IntKind.wrap .u32 (Int.tdiv draw 65536)) 64512))), .int .u32 x.2.2.1.1, .int .u16 x.2.2.1.2, .str x.2.2.2.1.1, .int .u16 x.2.2.2.1.2.1, .int .u16 x.2.2.2.1.2.2, .str x.2.2.2.2.1, .int .i64 x.2.2.2.2.2.1, .int .u64 x.2.2.2.2.2.2], .int .i64 0], [])) .no) .no) .no)
def os78 : OSpec := { f := 78, sh := [.d (.list QR) false, .d (.int .i64) false, .d QR true, .d (.int .u32) false], so := [], F := fun (l, room, x, draw, _) _ => t78 l room x draw }
theorem fn78 (l : List QRt) (room : Int) (x : QRt) (draw : Int) : evC T0 (orcB [U15] []) (lpOf h78 0 (lsOf [ls78])) c78 1000000 (X1 [.list QR l, .int .i64 room, AV.ofTy QR x true, .int .u32 draw] [] Try.f78.ntmps) (J1 T0 false 0 Try.f78) = (t78 l room x draw).get := by kernel_rfl
theorem ok78 : os78.Ok Try.prog := by
 refine X3 J2 tab0 (V0 (all_cons J3u all_nil) all_nil) h78 (d := 0) (n0 := 0) (S := lsOf [ls78]) Try.func78 (by kernel_rfl) (c := c78) (by kernel_rfl) rfl (V5 (xs := [(0, b78)]) (by kernel_rfl) (all_cons (V6 V59) all_nil)) (by omega) (by kernel_rfl) ?_
 intro x'' y'' q'' hq''
 obtain ⟨(l : List QRt), (room : Int), (x : QRt), (draw : Int), _⟩ := x''
 exact (fn78 l room x draw).trans hq''
def fs78 : FSpec := fsT 78 [((.list QR), false), ((.int .i64), false), (QR, true), ((.int .u32), false)] [((.list QR), false), (QR, true), ((.int .i64), false)] fun (l, room, x, draw, _) => t78 l room x draw
theorem okf78 : fs78.Ok Try.prog := U6 fun x'' r'' hr'' => ok78 x'' () r'' hr''
noncomputable def b24 : Code := J5 c24 0
def ls24 : LoopSpec := { bid := 0, sh := [.d (.list QR) false, .row 0, .d (.int .i64) false], so := [.row QR], F := fun (l, i, _) (w, _) => .on (akW l w i) (.exit 0, [.rowA 0], [.row QR l]) }
def r24 (l : List QRt) (i : Int) (w : List QRt) : Tr (St ⊕ (Ex × St)) := .br (decide (i < (↑l.length : Int))) (.br (decide (0 ≤ i)) (.br (decide (i < (↑l.length : Int))) (.br (fits (List.length w + 1) 72) (.ret (.inl (stOf [0, 3, 4] [.list QR l, .rowA 0, .int .i64 (IntKind.wrap .i64 (i + 1))] [.row QR (w ++ [List.getD l i.toNat (Ty.dflt QR)])]))) .no) .no) .no) (.ret (.inr (.exit 0, stOf [3] [.rowA 0] [.row QR w])))
theorem U4n (lp : Lp) (l : List QRt) (i : Int) (w : List QRt) : evC T0 (orcB [fs53] []) lp b24 0 (stOf [0, 3, 4] [.list QR l, .rowA 0, .int .i64 i] [.row QR w]) (Z1 [0, 3, 4] [3] 0) = (r24 l i w).get := by kernel_rfl
theorem wf24 (l : List QRt) (I'' : List QRt → Int → Prop) (m'' : List QRt → Int → Nat) (r'' : Ex × St) (h : ∀ (w : List QRt) (i : Int), I'' w i → (r24 l i w).all fun x'' => x'' = .inr r'' ∨ ∃ (w' : List QRt) (i' : Int), x'' = .inl (stOf [0, 3, 4] [.list QR l, .rowA 0, .int .i64 i'] [.row QR w']) ∧ I'' w' i' ∧ m'' w' i' < m'' w i) (lp : Lp) (w : List QRt) (i : Int) : I'' w i →
    Z3 (fun st => evC T0 (orcB [fs53] []) lp b24 0 st (Z1 [0, 3, 4] [3] 0)) (stOf [0, 3, 4] [.list QR l, .rowA 0, .int .i64 i] [.row QR w]) = some r'' :=
 Q5 (fun a'' : List QRt × Int => stOf [0, 3, 4] [.list QR l, .rowA 0, .int .i64 a''.2] [.row QR a''.1]) (fun a'' => I'' a''.1 a''.2) (fun a'' => m'' a''.1 a''.2) r'' (fun a'' => r24 l a''.2 a''.1)
  (fun a'' x hx => (U4n lp l a''.2 a''.1).trans hx) (fun a'' ha => Tr.all_mono (fun x'' hx => hx.imp id fun ⟨w', i', h1, h2, h3⟩ => ⟨(w', i'), h1, h2, h3⟩) (h (a''.1) (a''.2) ha)) (w, i)
noncomputable def b26 : Code := J5 c26 0
def ls26 : LoopSpec := { bid := 0, sh := [.d (.list QR) false, .d (.list QR) false, .d (.int .i64) false], so := [], F := fun (a, b, i, _) _ => .on2 (akP a b i) (Vs a b) (.exit 0, [.dead], []) (.ret, [.bool false], []) }
def r26 (a b : List QRt) (i : Int) : Tr (St ⊕ (Ex × St)) := .br (decide (i < (↑a.length : Int))) (.br (decide (0 ≤ i)) (.br (decide (i < (↑a.length : Int))) (.br (decide (0 ≤ i)) (.br (decide (i < (↑b.length : Int))) (.br (!((a.getD i.toNat (Ty.dflt QR)).1 == (b.getD i.toNat (Ty.dflt QR)).1 && ((a.getD i.toNat (Ty.dflt QR)).2.1 == (b.getD i.toNat (Ty.dflt QR)).2.1 && ((a.getD i.toNat (Ty.dflt QR)).2.2.1.1 == (b.getD i.toNat (Ty.dflt QR)).2.2.1.1 && ((a.getD i.toNat (Ty.dflt QR)).2.2.1.2 == (b.getD i.toNat (Ty.dflt QR)).2.2.1.2 && true) && ((a.getD i.toNat (Ty.dflt QR)).2.2.2.1.1 == (b.getD i.toNat (Ty.dflt QR)).2.2.2.1.1 && ((a.getD i.toNat (Ty.dflt QR)).2.2.2.1.2.1 == (b.getD i.toNat (Ty.dflt QR)).2.2.2.1.2.1 && ((a.getD i.toNat (Ty.dflt QR)).2.2.2.1.2.2 == (b.getD i.toNat (Ty.dflt QR)).2.2.2.1.2.2 && true)) && ((a.getD i.toNat (Ty.dflt QR)).2.2.2.2.1 == (b.getD i.toNat (Ty.dflt QR)).2.2.2.2.1 && ((a.getD i.toNat (Ty.dflt QR)).2.2.2.2.2.1 == (b.getD i.toNat (Ty.dflt QR)).2.2.2.2.2.1 && ((a.getD i.toNat (Ty.dflt QR)).2.2.2.2.2.2 == (b.getD i.toNat (Ty.dflt QR)).2.2.2.2.2.2 && true)))))))) (.ret (.inr (.ret, stOf [4] [.bool false] []))) (.ret (.inl (stOf [0, 1, 5] [.list QR a, .list QR b, .int .i64 (IntKind.wrap .i64 (i + 1))] [])))) .no) .no) .no) .no) (.ret (.inr (.exit 0, stOf [4] [.dead] [])))
theorem Q4q (lp : Lp) (a b : List QRt) (i : Int) : evC T0 (orcB [fs53] []) lp b26 0 (stOf [0, 1, 5] [.list QR a, .list QR b, .int .i64 i] []) (Z1 [0, 1, 5] [4] 0) = (r26 a b i).get := by kernel_rfl
theorem wf26 (a b : List QRt) (I'' : Int → Prop) (m'' : Int → Nat) (r'' : Ex × St) (h : ∀ (i : Int), I'' i → (r26 a b i).all fun x'' => x'' = .inr r'' ∨ ∃ (i' : Int), x'' = .inl (stOf [0, 1, 5] [.list QR a, .list QR b, .int .i64 i'] []) ∧ I'' i' ∧ m'' i' < m'' i) (lp : Lp) (i : Int) : I'' i →
    Z3 (fun st => evC T0 (orcB [fs53] []) lp b26 0 st (Z1 [0, 1, 5] [4] 0)) (stOf [0, 1, 5] [.list QR a, .list QR b, .int .i64 i] []) = some r'' :=
 Q5 (fun a'' : Int => stOf [0, 1, 5] [.list QR a, .list QR b, .int .i64 a''] []) (fun a'' => I'' a'') (fun a'' => m'' a'') r'' (fun a'' => r26 a b a'')
  (fun a'' x hx => (Q4q lp a b a'').trans hx) (fun a'' ha => Tr.all_mono (fun x'' hx => hx.imp id fun ⟨i', h1, h2, h3⟩ => ⟨(i'), h1, h2, h3⟩) (h (a'') ha)) (i)
theorem X55 : ls24.Ok T0 (orcB [fs53] []) h24 0 0 b24 := by
 intro q'' hq'' x'' y'' r'' h
 obtain ⟨(l : List QRt), (i : Int), _⟩ := x''
 obtain ⟨(w : List QRt), _⟩ := y''
 obtain ⟨hc, rfl⟩ := Tr.get_on h
 show Z3 (fun st => evC T0 (orcB [fs53] []) (lpN T0 (orcB [fs53] []) h24 0 q'') b24 0 st (Z1 [0, 3, 4] [3] 0)) (stOf [0, 3, 4] [.list QR l, .rowA 0, .int .i64 i] [.row QR w]) = some (.exit 0, stOf [3] ([.rowA 0]) ([.row QR l]))
 simp only [akW, Bool.and_eq_true, decide_eq_true_eq] at hc
 obtain ⟨hl, rfl, rfl⟩ := hc
 have hl := Nat.le_of_ble_eq_true hl
 refine wf24 l (fun w i => 0 ≤ i ∧ i ≤ l.length ∧ w = l.take i.toNat) (fun w i => (l.length - i).toNat) _ ?_ _ [] 0 ⟨by omega, by omega, rfl⟩
 rintro w i ⟨h0, h1, rfl⟩
 unfold r24
 rw [Ja h0 h1 (by omega)]
 by_cases hi : i < l.length
 · refine Tr.all_t (Z0 hi) (Tr.all_t (Z0 h0) (Tr.all_t (Z0 hi) (Tr.all_t (Z4 (by rw [List.length_take]; omega) (by rw [List.length_take]; omega)) (Tr.all_ret (.inr ⟨_, _, rfl, ⟨by omega, by omega, ?_⟩, by omega⟩)))))
   rw [show (i + 1).toNat = i.toNat + 1 by omega, List.take_add_one, List.getElem?_eq_getElem (show i.toNat < l.length by omega), List.getD_eq_getElem?_getD, List.getElem?_eq_getElem (show i.toNat < l.length by omega)]
   rfl
 · refine Tr.all_f (U0 hi) (Tr.all_ret (.inl ?_))
   rw [List.take_of_length_le (by omega)]
def t24 (l : List QRt) : Tr Res := .br (akW l [] 0) (.ret ([.list QR l], [])) .no
def os24 : OSpec := { f := 24, sh := [.d (.list QR) false], so := [], F := fun (l, _) _ => t24 l }
theorem fn24 (l : List QRt) : evC T0 (orcB [fs53] []) (lpOf h24 0 (lsOf [ls24])) c24 1000000 (X1 [.list QR l] [] Try.f24.ntmps) (J1 T0 false 0 Try.f24) = (t24 l).get := by kernel_rfl
theorem ok24 : os24.Ok Try.prog := by
 refine X3 J2 tab0 (V0 (all_cons X3x all_nil) all_nil) h24 (d := 0) (n0 := 0) (S := lsOf [ls24]) Try.func24 (by kernel_rfl) (c := c24) (by kernel_rfl) rfl (V5 (xs := [(0, b24)]) (by kernel_rfl) (all_cons (V6 X55) all_nil)) (by omega) (by kernel_rfl) ?_
 intro x'' y'' q'' hq''
 obtain ⟨(l : List QRt), _⟩ := x''
 exact (fn24 l).trans hq''
def fs24 : FSpec := fsT 24 [((.list QR), false)] [((.list QR), false)] fun (l, _) => t24 l
theorem okf24 : fs24.Ok Try.prog := U6 fun x'' r'' hr'' => ok24 x'' () r'' hr''
theorem X3b {a b : List QRt} {k : Nat} (h : a.length = b.length) (hk : k < a.length) (d : QRt) : Vs (a.drop k) (b.drop k) = (eqQ (a.getD k d) (b.getD k d) && Vs (a.drop (k + 1)) (b.drop (k + 1))) := by
 rw [Jj (l := a) hk d, Jj (l := b) (k := k) (by omega) d]
 rfl
theorem X59 : ls26.Ok T0 (orcB [fs53] []) h26 0 0 b26 := by
 intro q'' hq'' x'' y'' r'' h
 obtain ⟨(a : List QRt), (b : List QRt), (i : Int), _⟩ := x''
 obtain ⟨hc, rfl⟩ := Tr.get_on2 h
 show Z3 (fun st => evC T0 (orcB [fs53] []) (lpN T0 (orcB [fs53] []) h26 0 q'') b26 0 st (Z1 [0, 1, 5] [4] 0)) (stOf [0, 1, 5] [.list QR a, .list QR b, .int .i64 i] []) = some ((bif Vs a b then (.exit 0, [.dead], []) else (.ret, [.bool false], []) : Ex × List AV × List LObj).1, stOf [4] (bif Vs a b then (.exit 0, [.dead], []) else (.ret, [.bool false], []) : Ex × List AV × List LObj).2.1 (bif Vs a b then (.exit 0, [.dead], []) else (.ret, [.bool false], []) : Ex × List AV × List LObj).2.2)
 simp only [akP, Bool.and_eq_true, decide_eq_true_eq] at hc
 obtain ⟨hl, hab, rfl⟩ := hc
 have hl := Nat.le_of_ble_eq_true hl
 refine wf26 a b (fun i => 0 ≤ i ∧ i ≤ a.length ∧ Vs (a.drop i.toNat) (b.drop i.toNat) = Vs a b) (fun i => (a.length - i).toNat) _ ?_ _ 0 ⟨by omega, by omega, rfl⟩
 rintro i ⟨h0, h1, he⟩
 unfold r26
 rw [Ja h0 h1 (by omega)]
 by_cases hi : i < a.length
 · rw [X3b hab (by omega) (Ty.dflt QR)] at he
   have hstep : ∀ b' : Bool, eqQ (a.getD i.toNat (Ty.dflt QR)) (b.getD i.toNat (Ty.dflt QR)) = b' → (b' && Vs (a.drop (i.toNat + 1)) (b.drop (i.toNat + 1))) = Vs a b := fun b' h => by rw [← h]; exact he
   refine Tr.all_t (Z0 hi) (Tr.all_t (Z0 h0) (Tr.all_t (Z0 hi) (Tr.all_t (Z0 h0) (Tr.all_t (Z0 (by omega)) (Tr.all_br (fun h => ?_) (fun h => ?_))))))
   · have h := hstep false (by have h : (!eqQ (a.getD i.toNat (Ty.dflt QR)) (b.getD i.toNat (Ty.dflt QR))) = true := h; cases hx : eqQ (a.getD i.toNat (Ty.dflt QR)) (b.getD i.toNat (Ty.dflt QR)) with | false => rfl | true => rw [hx] at h; cases h)
     rw [← h]
     exact Tr.all_ret (.inl rfl)
   · have h := hstep true (by have h : (!eqQ (a.getD i.toNat (Ty.dflt QR)) (b.getD i.toNat (Ty.dflt QR))) = false := h; cases hx : eqQ (a.getD i.toNat (Ty.dflt QR)) (b.getD i.toNat (Ty.dflt QR)) with | true => rfl | false => rw [hx] at h; cases h)
     exact Tr.all_ret (.inr ⟨_, rfl, ⟨by omega, by omega, by rw [show (i + 1).toNat = i.toNat + 1 by omega]; simpa using h⟩, by omega⟩)
 · refine Tr.all_f (U0 hi) (Tr.all_ret (.inl ?_))
   rw [List.drop_eq_nil_of_le (by omega), List.drop_eq_nil_of_le (by omega)] at he
   rw [← he]
   rfl
def t26 (a b : List QRt) : Tr Res := .br ((↑a.length : Int) != (↑b.length : Int)) (.ret ([.bool false], [])) (.br (akP a b 0) (.br (Vs a b) (.ret ([.bool true], [])) (.ret ([.bool false], []))) .no)
def os26 : OSpec := { f := 26, sh := [.d (.list QR) false, .d (.list QR) false], so := [], F := fun (a, b, _) _ => t26 a b }
theorem fn26 (a b : List QRt) : evC T0 (orcB [fs53] []) (lpOf h26 0 (lsOf [ls26])) c26 1000000 (X1 [.list QR a, .list QR b] [] Try.f26.ntmps) (J1 T0 false 0 Try.f26) = (t26 a b).get := by kernel_rfl
theorem ok26 : os26.Ok Try.prog := by
 refine X3 J2 tab0 (V0 (all_cons X3x all_nil) all_nil) h26 (d := 0) (n0 := 0) (S := lsOf [ls26]) Try.func26 (by kernel_rfl) (c := c26) (by kernel_rfl) rfl (V5 (xs := [(0, b26)]) (by kernel_rfl) (all_cons (V6 X59) all_nil)) (by omega) (by kernel_rfl) ?_
 intro x'' y'' q'' hq''
 obtain ⟨(a : List QRt), (b : List QRt), _⟩ := x''
 exact (fn26 a b).trans hq''
def fs26 : FSpec := fsT 26 [((.list QR), false), ((.list QR), false)] [(.bool, false)] fun (a, b, _) => t26 a b
theorem okf26 : fs26.Ok Try.prog := U6 fun x'' r'' hr'' => ok26 x'' () r'' hr''
def t79 (l : List QRt) (qi port : Int) : Tr Res := .br (akF l 0) (.br (decide (idxL (ipB qi port) l 0 < 0)) (.ret ([.list QR l, .bool false], [])) (.br (decide (idxL (ipB qi port) l 0 < 0)) (.ret ([.list QR l, .bool false], [])) (.br (decide (0 ≤ idxL (ipB qi port) l 0) && decide (idxL (ipB qi port) l 0 ≤ (↑l.length : Int))) (.br (decide (0 ≤ 0) && decide (0 ≤ idxL (ipB qi port) l 0)) (.br (fits (0 + List.length (List.take (Int.toNat (idxL (ipB qi port) l 0) - Int.toNat 0) (List.drop (Int.toNat 0) l))) 72) (.br (decide (0 ≤ (↑l.length : Int)) && decide ((↑l.length : Int) ≤ (↑l.length : Int))) (.br (decide (0 ≤ IntKind.wrap .i64 (idxL (ipB qi port) l 0 + 1)) && decide (IntKind.wrap .i64 (idxL (ipB qi port) l 0 + 1) ≤ (↑l.length : Int))) (.br (fits (List.length ([] ++ List.take (Int.toNat (idxL (ipB qi port) l 0) - Int.toNat 0) (List.drop (Int.toNat 0) l)) + List.length (List.take (Int.toNat (↑l.length : Int) - Int.toNat (IntKind.wrap .i64 (idxL (ipB qi port) l 0 + 1))) (List.drop (Int.toNat (IntKind.wrap .i64 (idxL (ipB qi port) l 0 + 1))) l))) 72) (.ret ([.list QR ([] ++ List.take (Int.toNat (idxL (ipB qi port) l 0) - Int.toNat 0) (List.drop (Int.toNat 0) l) ++ List.take (Int.toNat (↑l.length : Int) - Int.toNat (IntKind.wrap .i64 (idxL (ipB qi port) l 0 + 1))) (List.drop (Int.toNat (IntKind.wrap .i64 (idxL (ipB qi port) l 0 + 1))) l)), .bool true], [])) .no) .no) .no) .no) .no) .no))) .no
def os79 : OSpec := { f := 79, sh := [.d (.list QR) false, .d (.int .u16) false, .d (.int .u16) false], so := [], F := fun (l, qi, port, _) _ => t79 l qi port }
theorem fn79 (l : List QRt) (qi port : Int) : evC T0 (orcB [U15] []) (lpOf h79 0 (lsOf [])) c79 1000000 (X1 [.list QR l, .int .u16 qi, .int .u16 port] [] Try.f79.ntmps) (J1 T0 false 0 Try.f79) = (t79 l qi port).get := by kernel_rfl
theorem ok79 : os79.Ok Try.prog := by
 refine X3 J2 tab0 (V0 (all_cons J3u all_nil) all_nil) h79 (d := 0) (n0 := 0) (S := lsOf []) Try.func79 (by kernel_rfl) (c := c79) (by kernel_rfl) rfl (Z2 (by kernel_rfl)) (by omega) (by kernel_rfl) ?_
 intro x'' y'' q'' hq''
 obtain ⟨(l : List QRt), (qi : Int), (port : Int), _⟩ := x''
 exact (fn79 l qi port).trans hq''
def fs79 : FSpec := fsT 79 [((.list QR), false), ((.int .u16), false), ((.int .u16), false)] [((.list QR), false), (.bool, false)] fun (l, qi, port, _) => t79 l qi port
theorem okf79 : fs79.Ok Try.prog := U6 fun x'' r'' hr'' => ok79 x'' () r'' hr''
def V11 (a b : Int) : Int := bif decide (IntKind.wrap IntKind.u64 (a + IntKind.wrap IntKind.u64 b) < a) then 18446744073709551615 else IntKind.wrap IntKind.u64 (a + IntKind.wrap IntKind.u64 b)
def Uk (now limit : Int) (q : QRt) : Bool := decide (V11 q.2.2.2.2.2.2 limit ≤ now)
noncomputable def b80 : Code := J5 c80 0
def ls80 : LoopSpec := { bid := 0, sh := [.d (.list QR) false, .d (.int .u64) false, .d (.int .u32) false, .row 0, .d (.int .i64) false], so := [.row QR], F := fun (l, now, limit, i, _) (w, _) => .on (akW l w i) (.exit 0, [.rowA 0], [.row QR (l.filter (Uk now limit))]) }
def r80 (l : List QRt) (now limit i : Int) (w : List QRt) : Tr (St ⊕ (Ex × St)) := .br (decide (i < (↑l.length : Int))) (.br (decide (0 ≤ i)) (.br (decide (i < (↑l.length : Int))) (.br (decide (IntKind.wrap .u64 ((l.getD i.toNat (Ty.dflt QR)).2.2.2.2.2.2 + IntKind.wrap .u64 limit) < (l.getD i.toNat (Ty.dflt QR)).2.2.2.2.2.2)) (.br (decide (18446744073709551615 ≤ now)) (.br (decide (0 ≤ i)) (.br (decide (i < (↑l.length : Int))) (.br (fits (List.length w + 1) 72) (.ret (.inl (stOf [0, 1, 2, 7, 8] [.list QR l, .int .u64 now, .int .u32 limit, .rowA 0, .int .i64 (IntKind.wrap .i64 (i + 1))] [.row QR (w ++ [List.getD l i.toNat (Ty.dflt QR)])]))) .no) .no) .no) (.ret (.inl (stOf [0, 1, 2, 7, 8] [.list QR l, .int .u64 now, .int .u32 limit, .rowA 0, .int .i64 (IntKind.wrap .i64 (i + 1))] [.row QR w])))) (.br (decide (IntKind.wrap .u64 ((l.getD i.toNat (Ty.dflt QR)).2.2.2.2.2.2 + IntKind.wrap .u64 limit) ≤ now)) (.br (decide (0 ≤ i)) (.br (decide (i < (↑l.length : Int))) (.br (fits (List.length w + 1) 72) (.ret (.inl (stOf [0, 1, 2, 7, 8] [.list QR l, .int .u64 now, .int .u32 limit, .rowA 0, .int .i64 (IntKind.wrap .i64 (i + 1))] [.row QR (w ++ [List.getD l i.toNat (Ty.dflt QR)])]))) .no) .no) .no) (.ret (.inl (stOf [0, 1, 2, 7, 8] [.list QR l, .int .u64 now, .int .u32 limit, .rowA 0, .int .i64 (IntKind.wrap .i64 (i + 1))] [.row QR w]))))) .no) .no) (.ret (.inr (.exit 0, stOf [7] [.rowA 0] [.row QR w])))
theorem X4j (lp : Lp) (l : List QRt) (now limit i : Int) (w : List QRt) : evC T0 (orcB [V1n] []) lp b80 0 (stOf [0, 1, 2, 7, 8] [.list QR l, .int .u64 now, .int .u32 limit, .rowA 0, .int .i64 i] [.row QR w]) (Z1 [0, 1, 2, 7, 8] [7] 0) = (r80 l now limit i w).get := by kernel_rfl
theorem wf80 (l : List QRt) (now limit : Int) (I'' : List QRt → Int → Prop) (m'' : List QRt → Int → Nat) (r'' : Ex × St) (h : ∀ (w : List QRt) (i : Int), I'' w i → (r80 l now limit i w).all fun x'' => x'' = .inr r'' ∨ ∃ (w' : List QRt) (i' : Int), x'' = .inl (stOf [0, 1, 2, 7, 8] [.list QR l, .int .u64 now, .int .u32 limit, .rowA 0, .int .i64 i'] [.row QR w']) ∧ I'' w' i' ∧ m'' w' i' < m'' w i) (lp : Lp) (w : List QRt) (i : Int) : I'' w i →
    Z3 (fun st => evC T0 (orcB [V1n] []) lp b80 0 st (Z1 [0, 1, 2, 7, 8] [7] 0)) (stOf [0, 1, 2, 7, 8] [.list QR l, .int .u64 now, .int .u32 limit, .rowA 0, .int .i64 i] [.row QR w]) = some r'' :=
 Q5 (fun a'' : List QRt × Int => stOf [0, 1, 2, 7, 8] [.list QR l, .int .u64 now, .int .u32 limit, .rowA 0, .int .i64 a''.2] [.row QR a''.1]) (fun a'' => I'' a''.1 a''.2) (fun a'' => m'' a''.1 a''.2) r'' (fun a'' => r80 l now limit a''.2 a''.1)
  (fun a'' x hx => (X4j lp l now limit a''.2 a''.1).trans hx) (fun a'' ha => Tr.all_mono (fun x'' hx => hx.imp id fun ⟨w', i', h1, h2, h3⟩ => ⟨(w', i'), h1, h2, h3⟩) (h (a''.1) (a''.2) ha)) (w, i)
theorem Q5e : ls80.Ok T0 (orcB [V1n] []) h80 0 0 b80 := by
 intro q'' hq'' x'' y'' r'' h
 obtain ⟨(l : List QRt), (now : Int), (limit : Int), (i : Int), _⟩ := x''
 obtain ⟨(w : List QRt), _⟩ := y''
 obtain ⟨hc, rfl⟩ := Tr.get_on h
 show Z3 (fun st => evC T0 (orcB [V1n] []) (lpN T0 (orcB [V1n] []) h80 0 q'') b80 0 st (Z1 [0, 1, 2, 7, 8] [7] 0)) (stOf [0, 1, 2, 7, 8] [.list QR l, .int .u64 now, .int .u32 limit, .rowA 0, .int .i64 i] [.row QR w]) = some (.exit 0, stOf [7] ([.rowA 0]) ([.row QR (l.filter (Uk now limit))]))
 simp only [akW, Bool.and_eq_true, decide_eq_true_eq] at hc
 obtain ⟨hl, rfl, rfl⟩ := hc
 have hl := Nat.le_of_ble_eq_true hl
 refine wf80 l now limit (fun w i => 0 ≤ i ∧ i ≤ l.length ∧ w = (l.take i.toNat).filter (Uk now limit)) (fun w i => (l.length - i).toNat) _ ?_ _ [] 0 ⟨by omega, by omega, rfl⟩
 rintro w i ⟨h0, h1, rfl⟩
 unfold r80
 rw [Ja h0 h1 (by omega)]
 by_cases hi : i < l.length
 · have hs := J1d (p := Uk now limit) (l := l) (k := i.toNat) (Ty.dflt QR) (by omega)
   have hf := Z2x (p := Uk now limit) (l := l) i.toNat
   generalize l.getD i.toNat (Ty.dflt QR) = x at *
   have hT : ∀ b : Bool, Uk now limit x = b → (l.take (i.toNat + 1)).filter (Uk now limit) = bif b then (l.take i.toNat).filter (Uk now limit) ++ [x] else (l.take i.toNat).filter (Uk now limit) := fun b hb => by rw [hs, hb]
   have key : ∀ b : Bool, Uk now limit x = b → (Tr.br b (Tr.br (decide (0 ≤ i)) (Tr.br (decide (i < (l.length : Int))) (Tr.br (fits (((l.take i.toNat).filter (Uk now limit)).length + 1) 72) (Tr.ret (Sum.inl (stOf [0, 1, 2, 7, 8] [.list QR l, .int .u64 now, .int .u32 limit, .rowA 0, .int .i64 (i + 1)] [.row QR ((l.take i.toNat).filter (Uk now limit) ++ [x])]))) .no) .no) .no) (Tr.ret (Sum.inl (stOf [0, 1, 2, 7, 8] [.list QR l, .int .u64 now, .int .u32 limit, .rowA 0, .int .i64 (i + 1)] [.row QR ((l.take i.toNat).filter (Uk now limit))])))).all fun x'' => x'' = Sum.inr (Ex.exit 0, stOf [7] [.rowA 0] [.row QR (l.filter (Uk now limit))]) ∨ ∃ (w' : List QRt) (i' : Int), x'' = Sum.inl (stOf [0, 1, 2, 7, 8] [.list QR l, .int .u64 now, .int .u32 limit, .rowA 0, .int .i64 i'] [.row QR w']) ∧ (0 ≤ i' ∧ i' ≤ l.length ∧ w' = (l.take i'.toNat).filter (Uk now limit)) ∧ (l.length - i').toNat < (l.length - i).toNat := fun b hb => by
    have hT := hT b hb
    refine Tr.all_br (fun hbt => ?_) (fun hbf => ?_)
    · rw [hbt, cond_true] at hT
      refine Tr.all_t (Z0 h0) (Tr.all_t (Z0 hi) (Tr.all_t (Z4 (by omega) (by omega)) (Tr.all_ret (.inr ⟨_, _, rfl, ⟨by omega, by omega, ?_⟩, by omega⟩))))
      rw [show (i + 1).toNat = i.toNat + 1 by omega, hT]
    · rw [hbf, cond_false] at hT
      refine Tr.all_ret (.inr ⟨_, _, rfl, ⟨by omega, by omega, ?_⟩, by omega⟩)
      rw [show (i + 1).toNat = i.toNat + 1 by omega, hT]
   refine Tr.all_t (Z0 hi) (Tr.all_t (Z0 h0) (Tr.all_t (Z0 hi) (Tr.all_br (fun hu => ?_) (fun hu => ?_))))
   · exact key _ (by unfold Uk V11; rw [hu]; rfl)
   · exact key _ (by unfold Uk V11; rw [hu]; rfl)
 · refine Tr.all_f (U0 hi) (Tr.all_ret (.inl ?_))
   rw [List.take_of_length_le (by omega)]
def t80 (l : List QRt) (now limit : Int) : Tr Res := .br (akW l [] 0) (.ret ([.list QR (List.filter (Uk now limit) l)], [])) .no
def os80 : OSpec := { f := 80, sh := [.d (.list QR) false, .d (.int .u64) false, .d (.int .u32) false], so := [], F := fun (l, now, limit, _) _ => t80 l now limit }
theorem fn80 (l : List QRt) (now limit : Int) : evC T0 (orcB [V1n] []) (lpOf h80 0 (lsOf [ls80])) c80 1000000 (X1 [.list QR l, .int .u64 now, .int .u32 limit] [] Try.f80.ntmps) (J1 T0 false 0 Try.f80) = (t80 l now limit).get := by kernel_rfl
theorem ok80 : os80.Ok Try.prog := by
 refine X3 J2 tab0 (V0 (all_cons X57 all_nil) all_nil) h80 (d := 0) (n0 := 0) (S := lsOf [ls80]) Try.func80 (by kernel_rfl) (c := c80) (by kernel_rfl) rfl (V5 (xs := [(0, b80)]) (by kernel_rfl) (all_cons (V6 Q5e) all_nil)) (by omega) (by kernel_rfl) ?_
 intro x'' y'' q'' hq''
 obtain ⟨(l : List QRt), (now : Int), (limit : Int), _⟩ := x''
 exact (fn80 l now limit).trans hq''
def fs80 : FSpec := fsT 80 [((.list QR), false), ((.int .u64), false), ((.int .u32), false)] [((.list QR), false)] fun (l, now, limit, _) => t80 l now limit
theorem okf80 : fs80.Ok Try.prog := U6 fun x'' r'' hr'' => ok80 x'' () r'' hr''
def okX (x : DEt) : Bool := !(decide ((x.2.1.2.2.2.1.1.length : Int) > 300)) && !(decide ((x.2.1.2.2.2.2.1.length : Int) > 300))
def akE (l : List DEt) (i : Int) : Bool := decide (i = 0)
def fewX (l : List DEt) : Bool := (l.take 101).all okX
noncomputable def b18 : Code := J5 c18 0
def ls18 : LoopSpec := { bid := 0, sh := [.d (.list DE) false, .d (.int .i64) false], so := [], F := fun (l, i, _) _ => .on2 (akE l i) (fewX l) (.exit 0, [.list DE l, .dead], []) (.ret, [.list DE l, .bool false], []) }
def r18 (l : List (Int × (QRt × Int))) (i : Int) : Tr (St ⊕ (Ex × St)) := .br (decide (i < (↑l.length : Int))) (.br (decide (i < 101)) (.br (decide (0 ≤ i)) (.br (decide (i < (↑l.length : Int))) (.br (decide ((↑(List.length (l.getD i.toNat (Ty.dflt DE)).2.1.2.2.2.1.1) : Int) > 300)) (.ret (.inr (.ret, stOf [0, 2] [.list DE l, .bool false] []))) (.br (decide (0 ≤ i)) (.br (decide (i < (↑l.length : Int))) (.br (decide ((↑(List.length (l.getD i.toNat (Ty.dflt DE)).2.1.2.2.2.2.1) : Int) > 300)) (.ret (.inr (.ret, stOf [0, 2] [.list DE l, .bool false] []))) (.ret (.inl (stOf [0, 3] [.list DE l, .int .i64 (IntKind.wrap .i64 (i + 1))] [])))) .no) .no)) .no) .no) (.ret (.inr (.exit 0, stOf [0, 2] [.list DE l, .dead] [])))) (.ret (.inr (.exit 0, stOf [0, 2] [.list DE l, .dead] [])))
theorem U4d (lp : Lp) (l : List (Int × (QRt × Int))) (i : Int) : evC T0 (orcB [] []) lp b18 0 (stOf [0, 3] [.list DE l, .int .i64 i] []) (Z1 [0, 3] [0, 2] 0) = (r18 l i).get := by kernel_rfl
theorem wf18 (l : List (Int × (QRt × Int))) (I'' : Int → Prop) (m'' : Int → Nat) (r'' : Ex × St) (h : ∀ (i : Int), I'' i → (r18 l i).all fun x'' => x'' = .inr r'' ∨ ∃ (i' : Int), x'' = .inl (stOf [0, 3] [.list DE l, .int .i64 i'] []) ∧ I'' i' ∧ m'' i' < m'' i) (lp : Lp) (i : Int) : I'' i →
    Z3 (fun st => evC T0 (orcB [] []) lp b18 0 st (Z1 [0, 3] [0, 2] 0)) (stOf [0, 3] [.list DE l, .int .i64 i] []) = some r'' :=
 Q5 (fun a'' : Int => stOf [0, 3] [.list DE l, .int .i64 a''] []) (fun a'' => I'' a'') (fun a'' => m'' a'') r'' (fun a'' => r18 l a'')
  (fun a'' x hx => (U4d lp l a'').trans hx) (fun a'' ha => Tr.all_mono (fun x'' hx => hx.imp id fun ⟨i', h1, h2, h3⟩ => ⟨(i'), h1, h2, h3⟩) (h (a'') ha)) (i)
theorem U5e : ls18.Ok T0 (orcB [] []) h18 0 0 b18 := by
 intro q'' hq'' x'' y'' r'' h
 obtain ⟨(l : List (Int × (QRt × Int))), (i : Int), _⟩ := x''
 obtain ⟨hc, rfl⟩ := Tr.get_on2 h
 show Z3 (fun st => evC T0 (orcB [] []) (lpN T0 (orcB [] []) h18 0 q'') b18 0 st (Z1 [0, 3] [0, 2] 0)) (stOf [0, 3] [.list DE l, .int .i64 i] []) = some ((bif fewX l then (.exit 0, [.list DE l, .dead], []) else (.ret, [.list DE l, .bool false], []) : Ex × List AV × List LObj).1, stOf [0, 2] (bif fewX l then (.exit 0, [.list DE l, .dead], []) else (.ret, [.list DE l, .bool false], []) : Ex × List AV × List LObj).2.1 (bif fewX l then (.exit 0, [.list DE l, .dead], []) else (.ret, [.list DE l, .bool false], []) : Ex × List AV × List LObj).2.2)
 simp only [akE, decide_eq_true_eq] at hc
 subst hc
 refine wf18 l (fun i => 0 ≤ i ∧ i ≤ l.length ∧ i ≤ 101 ∧ ((l.take 101).drop i.toNat).all okX = fewX l) (fun i => (l.length - i).toNat) _ ?_ _ 0 ⟨by omega, by omega, by omega, rfl⟩
 rintro i ⟨h0, h1, h2, he⟩
 unfold r18
 rw [Ja (n := 101) h0 (by omega) (by omega)]
 have hm : (l.take 101).length = min 101 l.length := List.length_take
 have hend : ¬ (i < (l.length : Int) ∧ i < 101) → true = fewX l := fun h => by
  rw [List.drop_eq_nil_of_le (by omega)] at he
  rw [← he]
  rfl
 by_cases hi : i < l.length
 · by_cases hj : i < 101
   · rw [Jj (l := l.take 101) (k := i.toNat) (by omega) (Ty.dflt DE), List.getD_eq_getElem?_getD, List.getElem?_take, if_pos (by omega), ← List.getD_eq_getElem?_getD, List.all_cons] at he
     generalize l.getD i.toNat (Ty.dflt DE) = x at *
     have hno : ∀ b : Bool, okX x = b → (b && ((l.take 101).drop (i.toNat + 1)).all okX) = fewX l := fun b h => by rw [← h]; exact he
     refine Tr.all_t (Z0 hi) (Tr.all_t (Z0 hj) (Tr.all_t (Z0 h0) (Tr.all_t (Z0 hi) (Tr.all_br (fun h => ?_) (fun h => Tr.all_t (Z0 h0) (Tr.all_t (Z0 hi) (Tr.all_br (fun h3 => ?_) (fun h3 => ?_))))))))
     · have := hno false (by unfold okX; rw [h]; rfl)
       rw [← this]
       exact Tr.all_ret (.inl rfl)
     · have := hno false (by unfold okX; rw [h, h3]; rfl)
       rw [← this]
       exact Tr.all_ret (.inl rfl)
     · have := hno true (by unfold okX; rw [h, h3]; rfl)
       exact Tr.all_ret (.inr ⟨_, rfl, ⟨by omega, by omega, by omega, by rw [show (i + 1).toNat = i.toNat + 1 by omega]; exact this⟩, by omega⟩)
   · rw [← hend (fun h => hj h.2)]
     exact Tr.all_t (Z0 hi) (Tr.all_f (U0 hj) (Tr.all_ret (.inl rfl)))
 · rw [← hend (fun h => hi h.1)]
   exact Tr.all_f (U0 hi) (Tr.all_ret (.inl rfl))
def t18 (l : List (Int × (QRt × Int))) : Tr Res := .br (fewX l) (.ret ([.bool (decide ((↑l.length : Int) ≤ 100))], [])) (.ret ([.bool false], []))
def os18 : OSpec := { f := 18, sh := [.d (.list DE) false], so := [], F := fun (l, _) _ => t18 l }
theorem fn18 (l : List (Int × (QRt × Int))) : evC T0 (orcB [] []) (lpOf h18 0 (lsOf [ls18])) c18 1000000 (X1 [.list DE l] [] Try.f18.ntmps) (J1 T0 false 0 Try.f18) = (t18 l).get := by kernel_rfl
theorem ok18 : os18.Ok Try.prog := by
 refine X3 J2 tab0 (V0 all_nil all_nil) h18 (d := 0) (n0 := 0) (S := lsOf [ls18]) Try.func18 (by kernel_rfl) (c := c18) (by kernel_rfl) rfl (V5 (xs := [(0, b18)]) (by kernel_rfl) (all_cons (V6 U5e) all_nil)) (by omega) (by kernel_rfl) ?_
 intro x'' y'' q'' hq''
 obtain ⟨(l : List (Int × (QRt × Int))), _⟩ := x''
 exact (fn18 l).trans hq''
def fs18 : FSpec := fsT 18 [((.list DE), false)] [(.bool, false)] fun (l, _) => t18 l
theorem okf18 : fs18.Ok Try.prog := U6 fun x'' r'' hr'' => ok18 x'' () r'' hr''
def V0s (draw : Int) : Int := 1024 + draw / 65536 % 64512
def Q6 (all : List QRt) (x : QRt) (draw : Int) : QRt := (Vq all (V0s draw) (draw % 65536), V0s draw, x.2.2)
def akT (all : List QRt) (draw : Int) : Bool := Nat.ble all.length 1000 && (decide (0 ≤ draw) && decide (draw < 4294967296))
def akL (all : List QRt) : Bool := Nat.ble all.length 1000
def Zl : QRt := (0, 0, (0, 0), ([], 0, 0), [], 0, 0)
theorem Q1y {all : List QRt} {p : Int} : ∀ {k : Nat} {i : Int}, 0 ≤ i → i < 65536 → 0 ≤ Z17 all p k i ∧ Z17 all p k i < 65536
 | 0, i, h0, h1 => ⟨h0, h1⟩
 | k + 1, i, h0, h1 => by
   rw [Z17]
   cases U3 all p i with
   | true => exact Q1y (by omega) (by omega)
   | false => exact ⟨h0, h1⟩
theorem V1y {all : List QRt} {p i : Int} (h0 : 0 ≤ i) (h1 : i < 65536) : 0 ≤ Vq all p i ∧ Vq all p i < 65536 := Q1y h0 h1
theorem Q4k {d : Int} (h0 : 0 ≤ d) (h1 : d < 4294967296) : IntKind.wrap IntKind.u16 d = d % 65536 := rfl
theorem V4n {d : Int} (h0 : 0 ≤ d) (h1 : d < 4294967296) : IntKind.wrap IntKind.u16 (IntKind.wrap IntKind.u32 ((1024 : Int) + Int.tmod (Int.fdiv d ((2 : Int) ^ min (Int.toNat (16 : Int)) (IntKind.bits IntKind.u32))) (64512 : Int))) = V0s d := by
 have e1 : Int.fdiv d ((2 : Int) ^ min (Int.toNat (16 : Int)) (IntKind.bits IntKind.u32)) = d / 65536 := by
  show Int.fdiv d 65536 = _
  exact Int.fdiv_eq_ediv_of_nonneg _ (by omega)
 rw [e1, Int.tmod_eq_emod_of_nonneg (by omega)]
 show ((1024 + d / 65536 % 64512) % 4294967296) % 65536 = _
 unfold V0s
 omega
theorem X4a {d : Int} (h0 : 0 ≤ d) (h1 : d < 4294967296) : IntKind.wrap IntKind.u16 (IntKind.wrap IntKind.u32 ((1024 : Int) + Int.tmod (IntKind.wrap IntKind.u32 (Int.tdiv d (65536 : Int))) (64512 : Int))) = V0s d := by
 have e1 : Int.tdiv d 65536 = d / 65536 := Int.tdiv_eq_ediv_of_nonneg h0
 have e2 : IntKind.wrap IntKind.u32 (d / 65536) = d / 65536 := by
  show (d / 65536) % 4294967296 = _
  omega
 rw [e1, e2, Int.tmod_eq_emod_of_nonneg (by omega)]
 show ((1024 + d / 65536 % 64512) % 4294967296) % 65536 = _
 unfold V0s
 omega
theorem Z48 {d : Int} (h0 : 0 ≤ d) (h1 : d < 4294967296) : IntKind.wrap IntKind.i64 (Int.tmod d 65536) = d % 65536 := by
 rw [Int.tmod_eq_emod_of_nonneg h0, IntWalk.i64_in _ (by omega)]
def J49 : OSpec := os20.like fun (x, draw, _) ((host, room, _), all, _) => .br (akT all draw) (.br (decide (room ≤ (List.length all : Int))) (.ret ([AV.ofTy QR Zl true, .int .i64 5], [.box [.int .u32 host, .int .i64 room, .rowA 1], .row QR all])) (.ret ([AV.ofTy QR (Q6 all x draw) true, .int .i64 0], [.box [.int .u32 host, .int .i64 room, .rowA 1], .row QR (all ++ [Q6 all x draw])]))) .no
theorem Xo {α : Type} {c : Bool} {x y : Tr α} {r : α} (h : (Tr.br c x y).get = some r) : (c = true ∧ x.get = some r) ∨ (c = false ∧ y.get = some r) := by
 cases c
 · exact .inr ⟨rfl, h⟩
 · exact .inl ⟨rfl, h⟩
theorem X09 {α : Type} {r : α} (h : (Tr.no : Tr α).get = some r) : False := by cases h
theorem X35 {all : List QRt} {draw : Int} (h : akT all draw = true) : all.length ≤ 1000 ∧ 0 ≤ draw ∧ draw < 4294967296 := by
 simp only [akT, Bool.and_eq_true, decide_eq_true_eq] at h
 exact ⟨Nat.le_of_ble_eq_true h.1, h.2.1, h.2.2⟩
theorem J57 {all : List QRt} {d : Int} (h : all.length ≤ 1000) : opC all (d % 65536) = true := by
 rw [opC, Nat.ble_eq_true_of_le h, Z0 (by omega), Z0 (by omega)]
 rfl
theorem X5e {all : List QRt} {d : Int} (h : all.length ≤ 1000) : akO all (d % 65536) = true := by
 rw [akO, Nat.ble_eq_true_of_le h, Z0 (by omega), Z0 (by omega)]
 rfl
theorem X4x : J49.Ok Try.prog := by
 refine Qc ok20 _ ?_
 rintro ⟨(x : QRt), (draw : Int), _⟩ ⟨⟨(host : Int), (room : Int), _⟩, (all : List QRt), _⟩ r h
 refine Tr.get_of_all ?_
 show (t20 x draw host room all).all _
 rcases Xo h with ⟨hc, h⟩ | ⟨_, h⟩
 · obtain ⟨hl, h0, h1⟩ := X35 hc
   unfold t20
   rw [V4n h0 h1, Q4k h0 h1]
   rcases Xo h with ⟨hc, h⟩ | ⟨hc, h⟩
   · cases h
     have hc := of_decide_eq_true hc
     exact Tr.all_t (Z0 (by omega)) (Tr.all_ret rfl)
   · cases h
     have hc := of_decide_eq_false hc
     exact Tr.all_f (U0 (by omega)) (Tr.all_t (J57 hl) (Tr.all_t (Z4 (by omega) (by omega)) (Tr.all_ret rfl)))
 · exact (X09 h).elim
def J4v : FSpec := fs78.like fun (l, room, x, draw, _) => .br (akT l draw) (.br (decide (room ≤ (List.length l : Int))) (.ret (l, Zl, (5 : Int), ())) (.ret (l ++ [Q6 l x draw], Q6 l x draw, (0 : Int), ()))) .no
theorem Q59 : J4v.Ok Try.prog := by
 refine Z6 okf78 _ ?_
 rintro ⟨(l : List QRt), (room : Int), (x : QRt), (draw : Int), _⟩ y h
 rcases Xo h with ⟨hc, h⟩ | ⟨_, h⟩
 · obtain ⟨hl, h0, h1⟩ := X35 hc
   have hn := V1y (all := l) (p := V0s draw) (i := draw % 65536) (by omega) (by omega)
   rcases Xo h with ⟨hc, h⟩ | ⟨hc, h⟩
   · cases h
     have hc := of_decide_eq_true hc
     refine J4 (vs := [.list QR l, AV.ofTy QR Zl true, .int .i64 5]) rfl rfl (Tr.get_of_all ?_)
     show (t78 l room x draw).all _
     unfold t78
     exact Tr.all_t (Z0 (by omega)) (Tr.all_ret rfl)
   · cases h
     have hc := of_decide_eq_false hc
     refine J4 (vs := [.list QR (l ++ [Q6 l x draw]), AV.ofTy QR (Q6 l x draw) true, .int .i64 0]) rfl rfl (Tr.get_of_all ?_)
     show (t78 l room x draw).all _
     unfold t78
     rw [X4a h0 h1, Z48 h0 h1, u16_in hn.1 hn.2, List.nil_append]
     exact Tr.all_f (U0 (by omega)) (Tr.all_t (Z4 (by omega) (by omega)) (Tr.all_t (X5e hl) (Tr.all_t (Z4 (by omega) (by omega)) (Tr.all_ret rfl))))
 · exact (X09 h).elim
def cutF (all : List QRt) (p qi : Int) : List QRt := delR all (idxL (ipB qi p) all 0)
theorem J19 {α : Type} (f : α → Bool) : ∀ (l : List α) (k : Nat), idxL f l k < (k : Int) + l.length
 | [], k => by simp only [idxL, List.length_nil]; omega
 | x :: l, k => by
   simp only [idxL, List.length_cons]
   split
   · omega
   · have := J19 f l (k + 1)
     omega
def Q3s : OSpec := os23.like fun (x, _) ((host, room, _), all, _) => .br (akL all) (.br (U3 all (Prod.fst (Prod.snd x)) (Prod.fst x)) (.ret ([.bool true], [.box [.int .u32 host, .int .i64 room, .rowA 2], .row QR all, .row QR (cutF all (Prod.fst (Prod.snd x)) (Prod.fst x))])) (.ret ([.bool false], [.box [.int .u32 host, .int .i64 room, .rowA 1], .row QR all]))) .no
theorem V52 : Q3s.Ok Try.prog := by
 refine Qc ok23 _ ?_
 rintro ⟨(x : QRt), _⟩ ⟨⟨(host : Int), (room : Int), _⟩, (all : List QRt), _⟩ r h
 refine Tr.get_of_all ?_
 show (t23 x host room all).all _
 rcases Xo h with ⟨hc, h⟩ | ⟨_, h⟩
 · have hl := Nat.le_of_ble_eq_true hc
   unfold t23
   have hlt := J19 (ipB x.1 x.2.1) all 0
   rcases Xo h with ⟨hc, h⟩ | ⟨hc, h⟩
   · cases h
     rcases Xz (all := all) (p := x.2.1) (id := x.1) with ⟨ht, he⟩ | ⟨ht, he⟩
     · rw [hc] at ht; cases ht
     · rw [IntWalk.i64_in _ (by omega)]
       exact Tr.all_t (V27 hl) (Tr.all_f (U0 (by omega)) (Tr.all_f (U0 (by omega)) (Tr.all_t (Z4 (by omega) (by omega)) (Tr.all_t (by rw [delC, Nat.ble_eq_true_of_le hl, Z0 he, Z0 (by omega), Z0 rfl]; rfl) (Tr.all_ret rfl)))))
   · cases h
     rcases Xz (all := all) (p := x.2.1) (id := x.1) with ⟨ht, he⟩ | ⟨ht, he⟩
     · exact Tr.all_t (V27 hl) (Tr.all_t (Z0 (by rw [he]; decide)) (Tr.all_ret rfl))
     · rw [hc] at ht; cases ht
 · exact (X09 h).elim
def U4t : FSpec := fs79.like fun (l, qi, port, _) => .br (akL l) (.br (U3 l port qi) (.ret (cutF l port qi, true, ())) (.ret (l, false, ()))) .no
theorem X5f : U4t.Ok Try.prog := by
 refine Z6 okf79 _ ?_
 rintro ⟨(l : List QRt), (qi : Int), (port : Int), _⟩ y h
 rcases Xo h with ⟨hc, h⟩ | ⟨_, h⟩
 · have hl := Nat.le_of_ble_eq_true hc
   have hlt := J19 (ipB qi port) l 0
   have hF : akF l 0 = true := by rw [akF, Nat.ble_eq_true_of_le (by omega)]; rfl
   rcases Xo h with ⟨hc, h⟩ | ⟨hc, h⟩
   · cases h
     rcases Xz (all := l) (p := port) (id := qi) with ⟨ht, he⟩ | ⟨ht, he⟩
     · rw [hc] at ht; cases ht
     · refine J4 (vs := [.list QR (cutF l port qi), .bool true]) rfl rfl (Tr.get_of_all ?_)
       show (t79 l qi port).all _
       unfold t79
       obtain ⟨k, hk⟩ : ∃ k : Nat, idxL (ipB qi port) l 0 = k := ⟨(idxL (ipB qi port) l 0).toNat, by omega⟩
       have e1 : cutF l port qi = l.take k ++ l.drop (k + 1) := by rw [cutF, hk, delR, Int.toNat_natCast]
       rw [e1, hk, IntWalk.i64_in _ (by omega), show ((k : Int) + 1).toNat = k + 1 by omega, show ((k : Int)).toNat = k by omega, show ((l.length : Int)).toNat = l.length by omega, show Int.toNat 0 = 0 from rfl]
       rw [show List.take (l.length - (k + 1)) (List.drop (k + 1) l) = List.drop (k + 1) l from List.take_of_length_le (by rw [List.length_drop]; omega)]
       simp only [List.length_drop, List.length_append, List.length_take, List.nil_append, List.drop_zero, Nat.sub_zero, Nat.zero_add, Int.toNat_natCast]
       repeat (first
        | exact Tr.all_ret rfl
        | refine Tr.all_t hF ?_
        | refine Tr.all_t (by simp only [Bool.and_eq_true, Bool.false_or, decide_eq_true_eq, beq_iff_eq]; omega) ?_
        | refine Tr.all_f (by simp only [Bool.and_eq_false_iff, Bool.false_or, decide_eq_false_iff_not, beq_eq_false_iff_ne, ne_eq]; omega) ?_
        | refine Tr.all_t (Z4 (by omega) (by omega)) ?_)
   · cases h
     rcases Xz (all := l) (p := port) (id := qi) with ⟨ht, he⟩ | ⟨ht, he⟩
     · refine J4 (vs := [.list QR l, .bool false]) rfl rfl (Tr.get_of_all ?_)
       show (t79 l qi port).all _
       unfold t79
       exact Tr.all_t hF (Tr.all_t (Z0 (by rw [he]; decide)) (Tr.all_ret rfl))
     · rw [hc] at ht; cases ht
 · exact (X09 h).elim
def t50 (l : List QRt) (room : Int) (x : (Int × (QRt × Int))) (host room2 : Int) (all : List QRt) : Tr Res := .br (x.1 == 0) (.br (akT all x.2.2) (.br (decide (room2 ≤ (↑all.length : Int))) (.br (akT l x.2.2) (.br (decide (room ≤ (↑l.length : Int))) (.ret ([.list QR l, .bool (5 == 5)], [.boxT none [.int .u32 host, .int .i64 room2, .rowA 1], .row QR all])) (.br (Zl.1 == (Q6 l x.2.1 x.2.2).1 && (Zl.2.1 == (Q6 l x.2.1 x.2.2).2.1 && (Zl.2.2.1.1 == (Q6 l x.2.1 x.2.2).2.2.1.1 && (Zl.2.2.1.2 == (Q6 l x.2.1 x.2.2).2.2.1.2 && true) && (Zl.2.2.2.1.1 == (Q6 l x.2.1 x.2.2).2.2.2.1.1 && (Zl.2.2.2.1.2.1 == (Q6 l x.2.1 x.2.2).2.2.2.1.2.1 && (Zl.2.2.2.1.2.2 == (Q6 l x.2.1 x.2.2).2.2.2.1.2.2 && true)) && (Zl.2.2.2.2.1 == (Q6 l x.2.1 x.2.2).2.2.2.2.1 && (Zl.2.2.2.2.2.1 == (Q6 l x.2.1 x.2.2).2.2.2.2.2.1 && (Zl.2.2.2.2.2.2 == (Q6 l x.2.1 x.2.2).2.2.2.2.2.2 && true))))))) (.ret ([.list QR (l ++ [Q6 l x.2.1 x.2.2]), .bool (5 == 0)], [.boxT none [.int .u32 host, .int .i64 room2, .rowA 1], .row QR all])) (.ret ([.list QR (l ++ [Q6 l x.2.1 x.2.2]), .bool false], [.boxT none [.int .u32 host, .int .i64 room2, .rowA 1], .row QR all])))) .no) (.br (akT l x.2.2) (.br (decide (room ≤ (↑l.length : Int))) (.br ((Q6 all x.2.1 x.2.2).1 == Zl.1 && ((Q6 all x.2.1 x.2.2).2.1 == Zl.2.1 && ((Q6 all x.2.1 x.2.2).2.2.1.1 == Zl.2.2.1.1 && ((Q6 all x.2.1 x.2.2).2.2.1.2 == Zl.2.2.1.2 && true) && ((Q6 all x.2.1 x.2.2).2.2.2.1.1 == Zl.2.2.2.1.1 && ((Q6 all x.2.1 x.2.2).2.2.2.1.2.1 == Zl.2.2.2.1.2.1 && ((Q6 all x.2.1 x.2.2).2.2.2.1.2.2 == Zl.2.2.2.1.2.2 && true)) && ((Q6 all x.2.1 x.2.2).2.2.2.2.1 == Zl.2.2.2.2.1 && ((Q6 all x.2.1 x.2.2).2.2.2.2.2.1 == Zl.2.2.2.2.2.1 && ((Q6 all x.2.1 x.2.2).2.2.2.2.2.2 == Zl.2.2.2.2.2.2 && true))))))) (.ret ([.list QR l, .bool (0 == 5)], [.boxT none [.int .u32 host, .int .i64 room2, .rowA 1], .row QR (all ++ [Q6 all x.2.1 x.2.2])])) (.ret ([.list QR l, .bool false], [.boxT none [.int .u32 host, .int .i64 room2, .rowA 1], .row QR (all ++ [Q6 all x.2.1 x.2.2])]))) (.br ((Q6 all x.2.1 x.2.2).1 == (Q6 l x.2.1 x.2.2).1 && ((Q6 all x.2.1 x.2.2).2.1 == (Q6 l x.2.1 x.2.2).2.1 && ((Q6 all x.2.1 x.2.2).2.2.1.1 == (Q6 l x.2.1 x.2.2).2.2.1.1 && ((Q6 all x.2.1 x.2.2).2.2.1.2 == (Q6 l x.2.1 x.2.2).2.2.1.2 && true) && ((Q6 all x.2.1 x.2.2).2.2.2.1.1 == (Q6 l x.2.1 x.2.2).2.2.2.1.1 && ((Q6 all x.2.1 x.2.2).2.2.2.1.2.1 == (Q6 l x.2.1 x.2.2).2.2.2.1.2.1 && ((Q6 all x.2.1 x.2.2).2.2.2.1.2.2 == (Q6 l x.2.1 x.2.2).2.2.2.1.2.2 && true)) && ((Q6 all x.2.1 x.2.2).2.2.2.2.1 == (Q6 l x.2.1 x.2.2).2.2.2.2.1 && ((Q6 all x.2.1 x.2.2).2.2.2.2.2.1 == (Q6 l x.2.1 x.2.2).2.2.2.2.2.1 && ((Q6 all x.2.1 x.2.2).2.2.2.2.2.2 == (Q6 l x.2.1 x.2.2).2.2.2.2.2.2 && true))))))) (.ret ([.list QR (l ++ [Q6 l x.2.1 x.2.2]), .bool (0 == 0)], [.boxT none [.int .u32 host, .int .i64 room2, .rowA 1], .row QR (all ++ [Q6 all x.2.1 x.2.2])])) (.ret ([.list QR (l ++ [Q6 l x.2.1 x.2.2]), .bool false], [.boxT none [.int .u32 host, .int .i64 room2, .rowA 1], .row QR (all ++ [Q6 all x.2.1 x.2.2])])))) .no)) .no) (.br (x.1 == 1) (.br (akL all) (.br (U3 all x.2.1.2.1 x.2.1.1) (.br (akL l) (.br (U3 l x.2.1.2.1 x.2.1.1) (.ret ([.list QR (cutF l x.2.1.2.1 x.2.1.1), .bool (true == true)], [.boxT none [.int .u32 host, .int .i64 room2, .rowA 2], .row QR all, .row QR (cutF all x.2.1.2.1 x.2.1.1)])) (.ret ([.list QR l, .bool (true == false)], [.boxT none [.int .u32 host, .int .i64 room2, .rowA 2], .row QR all, .row QR (cutF all x.2.1.2.1 x.2.1.1)]))) .no) (.br (akL l) (.br (U3 l x.2.1.2.1 x.2.1.1) (.ret ([.list QR (cutF l x.2.1.2.1 x.2.1.1), .bool (false == true)], [.boxT none [.int .u32 host, .int .i64 room2, .rowA 1], .row QR all])) (.ret ([.list QR l, .bool (false == false)], [.boxT none [.int .u32 host, .int .i64 room2, .rowA 1], .row QR all]))) .no)) .no) (.br (akS all [] (↑all.length : Int) 0) (.br (akW (List.filter (Jm x.2.1.2.2.2.2.2.2 x.2.2) all) [] 0) (.br (akW l [] 0) (.br ((↑(List.length (List.filter (Jm x.2.1.2.2.2.2.2.2 x.2.2) all)) : Int) != (↑(List.length (List.filter (Uk x.2.1.2.2.2.2.2.2 x.2.2) l)) : Int)) (.ret ([.list QR l, .bool false], [.boxT none [.int .u32 host, .int .i64 room2, .rowA 1], .row QR all])) (.br (akP (List.filter (Jm x.2.1.2.2.2.2.2.2 x.2.2) all) (List.filter (Uk x.2.1.2.2.2.2.2.2 x.2.2) l) 0) (.br (Vs (List.filter (Jm x.2.1.2.2.2.2.2.2 x.2.2) all) (List.filter (Uk x.2.1.2.2.2.2.2.2 x.2.2) l)) (.ret ([.list QR l, .bool true], [.boxT none [.int .u32 host, .int .i64 room2, .rowA 1], .row QR all])) (.ret ([.list QR l, .bool false], [.boxT none [.int .u32 host, .int .i64 room2, .rowA 1], .row QR all]))) .no)) .no) .no) .no))
def os50 : OSpec := { f := 50, sh := [.ptr 0 0, .d (.list QR) false, .d (.int .i64) false, .d DE true], so := [.box [.d (.int .u32) false, .d (.int .i64) false, .row 1], .row QR], F := fun (l, room, x, _) ((host, room2, _), all, _) => t50 l room x host room2 all }
theorem fn50 (l : List QRt) (room : Int) (x : (Int × (QRt × Int))) (host room2 : Int) (all : List QRt) : evC T50 (orcB [fs16, fs53, fs24, J4v, U4t, fs80, fs26] [J49, Q3s, os21]) (lpOf h50 2 (lsOf [])) c50 1000000 (X1 [.ptr 0 0, .list QR l, .int .i64 room, AV.ofTy DE x true] [.box [.int .u32 host, .int .i64 room2, .rowA 1], .row QR all] Try.f50.ntmps) (J1 T50 false 2 Try.f50) = (t50 l room x host room2 all).get := by kernel_rfl
theorem ok50 : os50.Ok Try.prog := by
 refine X3 J2 (U3v tab0 v50 u50) (V0 (all_cons X4s (all_cons X3x (all_cons okf24 (all_cons Q59 (all_cons X5f (all_cons okf80 (all_cons okf26 all_nil))))))) (all_cons X4x (all_cons V52 (all_cons ok21 all_nil)))) h50 (d := 0) (n0 := 2) (S := lsOf []) Try.func50 (by kernel_rfl) (c := c50) (by kernel_rfl) rfl (Z2 (by kernel_rfl)) (by omega) (by kernel_rfl) ?_
 intro x'' y'' q'' hq''
 obtain ⟨(l : List QRt), (room : Int), (x : (Int × (QRt × Int))), _⟩ := x''
 obtain ⟨⟨(host : Int), (room2 : Int), _⟩, (all : List QRt), _⟩ := y''
 exact (fn50 l room x host room2 all).trans hq''
def rgK (q : QRt) : Bool := decide (0 ≤ q.2.2.2.2.2.2) && decide (q.2.2.2.2.2.2 < 18446744073709551616)
def rgD (x : DEt) : Bool := (decide (0 ≤ x.2.2) && decide (x.2.2 < 4294967296)) && rgK x.2.1
def Jl (room : Int) (all : List QRt) (x : DEt) : List QRt :=
 bif x.1 == 0 then (bif decide (room ≤ (all.length : Int)) then all else all ++ [Q6 all x.2.1 x.2.2]) else bif x.1 == 1 then (bif U3 all x.2.1.2.1 x.2.1.1 then cutF all x.2.1.2.1 x.2.1.1 else all) else all
def akG (l all : List QRt) (room room2 : Int) (x : DEt) : Bool := Vs l all && (decide (room = room2) && (akL all && (rgD x && all.all rgK)))
theorem J3r {s b : Int} (hs : 0 ≤ s ∧ s < 18446744073709551616) (hb : 0 ≤ b ∧ b < 4294967296) : V0o s b = V11 s b := by
 have e1 : IntKind.wrap IntKind.u64 b = b := by show b % 18446744073709551616 = b; omega
 have e2 : IntKind.wrap IntKind.u64 (18446744073709551615 - s) = 18446744073709551615 - s := by show (18446744073709551615 - s) % 18446744073709551616 = _; omega
 have e3 : IntKind.wrap IntKind.u64 (s + b) = (s + b) % 18446744073709551616 := rfl
 unfold V0o V11
 rw [e1, e2, e3]
 by_cases h : b > 18446744073709551615 - s
 · rw [Z0 h, Z0 (by omega)]
 · rw [U0 h, U0 (by omega)]
theorem V4l {now b : Int} {q : QRt} (hq : rgK q = true) (hb : 0 ≤ b ∧ b < 4294967296) : Jm now b q = Uk now b q := by
 simp only [rgK, Bool.and_eq_true, decide_eq_true_eq] at hq
 unfold Jm Uk
 rw [J3r hq hb]
 by_cases h : V11 q.2.2.2.2.2.2 b > now
 · rw [Z0 h, U0 (by omega)]
   rfl
 · rw [U0 h, Z0 (by omega)]
   rfl
theorem V3j {now b : Int} {all : List QRt} (hq : all.all rgK = true) (hb : 0 ≤ b ∧ b < 4294967296) : all.filter (Jm now b) = all.filter (Uk now b) :=
 List.filter_congr fun q h => V4l (List.all_eq_true.1 hq q h) hb
def V1o : OSpec := os50.like fun (l, room, x, _) ((host, room2, _), all, _) => .br (akG l all room room2 x) (.br ((Prod.fst x == 1) && U3 all (Prod.fst (Prod.snd (Prod.fst (Prod.snd x)))) (Prod.fst (Prod.fst (Prod.snd x)))) (.ret ([.list QR (Jl room2 all x), .bool true], [.box [.int .u32 host, .int .i64 room2, .rowA 2], .row QR all, .row QR (Jl room2 all x)])) (.ret ([.list QR (Jl room2 all x), .bool true], [.box [.int .u32 host, .int .i64 room2, .rowA 1], .row QR (Jl room2 all x)]))) .no
theorem ok50p : V1o.Ok Try.prog := by
 refine Qc ok50 _ ?_
 rintro ⟨(l : List QRt), (room : Int), (x : DEt), _⟩ ⟨⟨(host : Int), (room2 : Int), _⟩, (all : List QRt), _⟩ r h
 refine Tr.get_of_all ?_
 show (t50 l room x host room2 all).all _
 rcases Xo h with ⟨hc, h⟩ | ⟨_, h⟩
 · simp only [akG, Bool.and_eq_true, decide_eq_true_eq] at hc
   obtain ⟨h1, rfl, h2, h3, h4⟩ := hc
   obtain rfl := X0j.1 h1
   have hl := Nat.le_of_ble_eq_true h2
   simp only [rgD, Bool.and_eq_true, decide_eq_true_eq] at h3
   obtain ⟨hd, hx⟩ := h3
   have hT : akT l x.2.2 = true := by rw [akT, Nat.ble_eq_true_of_le hl, Z0 hd.1, Z0 hd.2]; rfl
   unfold t50
   by_cases k0 : x.1 == 0
   · have k1 : (x.1 == 1) = false := by have := eq_of_beq k0; rw [this]; rfl
     rcases Xo h with ⟨hc, h⟩ | ⟨_, h⟩
     · simp only [Bool.and_eq_true] at hc
       have hc := hc.1
       rw [show (Prod.fst x == 1) = (x.1 == 1) from rfl, k1] at hc
       cases hc
     · cases h
       refine Tr.all_t k0 (Tr.all_t hT ?_)
       unfold Jl
       rw [k0, cond_true]
       by_cases hr : room ≤ (l.length : Int)
       · rw [Z0 hr]
         exact Tr.all_t rfl (Tr.all_t hT (Tr.all_t rfl (Tr.all_ret rfl)))
       · rw [U0 hr]
         refine Tr.all_f rfl (Tr.all_t hT (Tr.all_f rfl (Tr.all_t ?_ (Tr.all_ret rfl))))
         exact X1a.2 rfl
   · have k0 : (x.1 == 0) = false := by simpa using k0
     refine Tr.all_f k0 ?_
     by_cases k1 : x.1 == 1
     · have hst : Jl room l x = bif U3 l x.2.1.2.1 x.2.1.1 then cutF l x.2.1.2.1 x.2.1.1 else l := by unfold Jl; rw [k0, k1, cond_false, cond_true]
       refine Tr.all_t k1 (Tr.all_t h2 ?_)
       rcases Xo h with ⟨hc, h⟩ | ⟨hc, h⟩
       · cases h
         simp only [Bool.and_eq_true] at hc
         have hc : U3 l x.2.1.2.1 x.2.1.1 = true := hc.2
         rw [hst, hc]
         exact Tr.all_t rfl (Tr.all_t h2 (Tr.all_t rfl (Tr.all_ret rfl)))
       · cases h
         have hc : ((x.1 == 1) && U3 l x.2.1.2.1 x.2.1.1) = false := hc
         rw [k1, Bool.true_and] at hc
         rw [hst, hc]
         exact Tr.all_f rfl (Tr.all_t h2 (Tr.all_f rfl (Tr.all_ret rfl)))
     · have k1 : (x.1 == 1) = false := by simpa using k1
       have hst : Jl room l x = l := by unfold Jl; rw [k0, k1]; rfl
       rcases Xo h with ⟨hc, h⟩ | ⟨hc, h⟩
       · simp only [Bool.and_eq_true] at hc
         have hc := hc.1
         rw [show (Prod.fst x == 1) = (x.1 == 1) from rfl, k1] at hc
         cases hc
       · cases h
         have hfl := List.length_filter_le (Jm x.2.1.2.2.2.2.2.2 x.2.2) l
         have hfe := V3j (now := x.2.1.2.2.2.2.2.2) h4 hd
         rw [hst]
         refine Tr.all_f k1 (Tr.all_t (by rw [akS, Nat.ble_eq_true_of_le hl, Z0 rfl, Z0 rfl]; rfl) (Tr.all_t (by rw [akW, Nat.ble_eq_true_of_le (by omega)]; rfl) (Tr.all_t (by rw [akW, Nat.ble_eq_true_of_le hl]; rfl) ?_)))
         rw [← hfe]
         refine Tr.all_f (by simp) (Tr.all_t (by rw [akP, Nat.ble_eq_true_of_le (by omega), Z0 rfl]; rfl) (Tr.all_t (X0j.2 rfl) (Tr.all_ret rfl)))
 · exact (X09 h).elim
def ranF (l : List DEt) : List QRt := l.foldl (Jl 6) []
def akR (l : List DEt) (k all : List QRt) (host room i : Int) : Bool := Nat.ble l.length 1000000 && (l.all rgD && (decide (k = []) && (decide (all = []) && (decide (host = 7) && (decide (room = 6) && decide (i = 0))))))
theorem X2s {α β : Type} (f : β → α → β) (b : β) (l : List α) (k : Nat) (d : α) (h : k < l.length) : (l.take (k + 1)).foldl f b = f ((l.take k).foldl f b) (l.getD k d) := by
 rw [List.take_add_one, List.getElem?_eq_getElem h, List.foldl_append, List.getD_eq_getElem?_getD, List.getElem?_eq_getElem h]
 rfl
def okK (room : Int) (all : List QRt) : Prop := (all.length : Int) ≤ room ∧ all.all rgK = true
theorem J42 {all : List QRt} {i : Int} : (∀ q ∈ delR all i, q ∈ all) ∧ (delR all i).length ≤ all.length := by
 unfold delR
 refine ⟨fun q h => ?_, ?_⟩
 · rcases List.mem_append.1 h with h | h
   · exact List.mem_of_mem_take h
   · exact List.mem_of_mem_drop h
 · rw [List.length_append, List.length_take, List.length_drop]
   omega
theorem X34 {room : Int} {all : List QRt} {x : DEt} (h : okK room all) (hx : rgD x = true) : okK room (Jl room all x) := by
 obtain ⟨h1, h2⟩ := h
 simp only [rgD, Bool.and_eq_true] at hx
 unfold Jl
 cases x.1 == 0 with
 | true =>
   rw [cond_true]
   by_cases hr : room ≤ (all.length : Int)
   · rw [Z0 hr]; exact ⟨h1, h2⟩
   · rw [U0 hr]
     refine ⟨?_, ?_⟩
     · rw [cond_false, List.length_append, List.length_singleton]; omega
     · rw [cond_false, List.all_append, h2, List.all_cons, List.all_nil]
       exact Bool.and_eq_true_iff.2 ⟨rfl, Bool.and_eq_true_iff.2 ⟨hx.2, rfl⟩⟩
 | false =>
   rw [cond_false]
   cases x.1 == 1 with
   | false => exact ⟨h1, h2⟩
   | true =>
     rw [cond_true]
     cases U3 all x.2.1.2.1 x.2.1.1 with
     | false => exact ⟨h1, h2⟩
     | true =>
       have hs := J42 (all := all) (i := idxL (ipB x.2.1.1 x.2.1.2.1) all 0)
       refine ⟨?_, List.all_eq_true.2 fun q hq => List.all_eq_true.1 h2 q (hs.1 q hq)⟩
       have : (cutF all x.2.1.2.1 x.2.1.1).length ≤ all.length := hs.2
       rw [cond_true]
       omega
theorem U3j {α : Type} {p : α → Bool} {l : List α} (h : l.all p = true) {k : Nat} (hk : k < l.length) (d : α) : p (l.getD k d) = true := by
 rw [List.getD_eq_getElem?_getD, List.getElem?_eq_getElem hk]
 exact List.all_eq_true.1 h _ (List.getElem_mem hk)
noncomputable def b22 : Code := J5 c22 0
def ls22 : LoopSpec := { bid := 0, sh := [.d (.list DE) false, .ptr 0 0, .d (.list QR) false, .d (.int .i64) false], so := [.box [.d (.int .u32) false, .d (.int .i64) false, .row 1], .row QR], F := fun (l, k, i, _) ((host, room, _), all, _) => .on (akR l k all host room i) (.exit 0, [.ptr 0 0], [.box [.int .u32 host, .int .i64 room, .rowA 1], .row QR (ranF l)]) }
def r22 (l : List (Int × (QRt × Int))) (k : List QRt) (i host room : Int) (all : List QRt) : Tr (St ⊕ (Ex × St)) := .br (decide (i < (↑l.length : Int))) (.br (decide (0 ≤ i)) (.br (decide (i < (↑l.length : Int))) (.br (akG k all 6 room (l.getD i.toNat (Ty.dflt DE))) (.br ((l.getD i.toNat (Ty.dflt DE)).1 == (1 : Ty.den (Ty.int .i64)) && U3 all (l.getD i.toNat (Ty.dflt DE)).2.1.2.1 (l.getD i.toNat (Ty.dflt DE)).2.1.1) (.ret (.inl (stOf [0, 3, 4, 5] [.list DE l, .ptr 0 0, .list QR (Jl room all (l.getD i.toNat (Ty.dflt DE))), .int .i64 (IntKind.wrap .i64 (i + 1))] [.boxT none [.int .u32 host, .int .i64 room, .rowA 1], .row QR (Jl room all (l.getD i.toNat (Ty.dflt DE)))]))) (.ret (.inl (stOf [0, 3, 4, 5] [.list DE l, .ptr 0 0, .list QR (Jl room all (l.getD i.toNat (Ty.dflt DE))), .int .i64 (IntKind.wrap .i64 (i + 1))] [.boxT none [.int .u32 host, .int .i64 room, .rowA 1], .row QR (Jl room all (l.getD i.toNat (Ty.dflt DE)))])))) .no) .no) .no) (.ret (.inr (.exit 0, stOf [3] [.ptr 0 0] [.boxT none [.int .u32 host, .int .i64 room, .rowA 1], .row QR all])))
theorem Z4m (lp : Lp) (l : List (Int × (QRt × Int))) (k : List QRt) (i host room : Int) (all : List QRt) : evC TW (orcB [] [os14, V1o]) lp b22 0 (stOf [0, 3, 4, 5] [.list DE l, .ptr 0 0, .list QR k, .int .i64 i] [.box [.int .u32 host, .int .i64 room, .rowA 1], .row QR all]) (Z1 [0, 3, 4, 5] [3] 0) = (r22 l k i host room all).get := by kernel_rfl
theorem wf22 (l : List (Int × (QRt × Int))) (host room : Int) (I'' : List QRt → List QRt → Int → Prop) (m'' : List QRt → List QRt → Int → Nat) (r'' : Ex × St) (h : ∀ (k all : List QRt) (i : Int), I'' k all i → (r22 l k i host room all).all fun x'' => x'' = .inr r'' ∨ ∃ (k' all' : List QRt) (i' : Int), x'' = .inl (stOf [0, 3, 4, 5] [.list DE l, .ptr 0 0, .list QR k', .int .i64 i'] [.box [.int .u32 host, .int .i64 room, .rowA 1], .row QR all']) ∧ I'' k' all' i' ∧ m'' k' all' i' < m'' k all i) (lp : Lp) (k all : List QRt) (i : Int) : I'' k all i →
    Z3 (fun st => evC TW (orcB [] [os14, V1o]) lp b22 0 st (Z1 [0, 3, 4, 5] [3] 0)) (stOf [0, 3, 4, 5] [.list DE l, .ptr 0 0, .list QR k, .int .i64 i] [.box [.int .u32 host, .int .i64 room, .rowA 1], .row QR all]) = some r'' :=
 Q5 (fun a'' : List QRt × List QRt × Int => stOf [0, 3, 4, 5] [.list DE l, .ptr 0 0, .list QR a''.1, .int .i64 a''.2.2] [.box [.int .u32 host, .int .i64 room, .rowA 1], .row QR a''.2.1]) (fun a'' => I'' a''.1 a''.2.1 a''.2.2) (fun a'' => m'' a''.1 a''.2.1 a''.2.2) r'' (fun a'' => r22 l a''.1 a''.2.2 host room a''.2.1)
  (fun a'' x hx => (Z4m lp l a''.1 a''.2.2 host room a''.2.1).trans hx) (fun a'' ha => Tr.all_mono (fun x'' hx => hx.imp id fun ⟨k', all', i', h1, h2, h3⟩ => ⟨(k', all', i'), h1, h2, h3⟩) (h (a''.1) (a''.2.1) (a''.2.2) ha)) (k, all, i)
theorem Q5a : ls22.Ok TW (orcB [] [os14, V1o]) h22 0 0 b22 := by
 intro q'' hq'' x'' y'' r'' h
 obtain ⟨(l : List (Int × (QRt × Int))), (k : List QRt), (i : Int), _⟩ := x''
 obtain ⟨⟨(host : Int), (room : Int), _⟩, (all : List QRt), _⟩ := y''
 obtain ⟨hc, rfl⟩ := Tr.get_on h
 show Z3 (fun st => evC TW (orcB [] [os14, V1o]) (lpN TW (orcB [] [os14, V1o]) h22 0 q'') b22 0 st (Z1 [0, 3, 4, 5] [3] 0)) (stOf [0, 3, 4, 5] [.list DE l, .ptr 0 0, .list QR k, .int .i64 i] [.box [.int .u32 host, .int .i64 room, .rowA 1], .row QR all]) = some (.exit 0, stOf [3] ([.ptr 0 0]) ([.box [.int .u32 host, .int .i64 room, .rowA 1], .row QR (ranF l)]))
 simp only [akR, Bool.and_eq_true, decide_eq_true_eq] at hc
 obtain ⟨hl, hg, rfl, rfl, rfl, rfl, rfl⟩ := hc
 have hl := Nat.le_of_ble_eq_true hl
 refine wf22 l 7 6 (fun k all i => 0 ≤ i ∧ i ≤ l.length ∧ k = all ∧ all = (l.take i.toNat).foldl (Jl 6) [] ∧ okK 6 all) (fun k all i => (l.length - i).toNat) _ ?_ _ [] [] 0 ⟨by omega, by omega, rfl, rfl, by decide, rfl⟩
 rintro k all i ⟨h0, h1, rfl, he, hk⟩
 unfold r22
 rw [Ja h0 h1 (by omega)]
 by_cases hi : i < l.length
 · have hs := X2s (Jl 6) [] l i.toNat (Ty.dflt DE) (by omega)
   have hx := U3j hg (k := i.toNat) (by omega) (Ty.dflt DE)
   generalize l.getD i.toNat (Ty.dflt DE) = x at *
   rw [← he] at hs
   have hok := X34 hk hx
   have hk1 := hk.1
   have hG : akG k k 6 6 x = true := by
    unfold akG akL
    rw [X0j.2 rfl, Z0 rfl, Nat.ble_eq_true_of_le (show k.length ≤ 1000 by omega), hx, hk.2]
    rfl
   refine Tr.all_t (Z0 hi) (Tr.all_t (Z0 h0) (Tr.all_t (Z0 hi) (Tr.all_t hG (Tr.all_br (fun _ => ?_) (fun _ => ?_)))))
   · exact Tr.all_ret (.inr ⟨_, _, _, rfl, ⟨by omega, by omega, rfl, by rw [show (i + 1).toNat = i.toNat + 1 by omega]; exact hs.symm, hok⟩, by omega⟩)
   · exact Tr.all_ret (.inr ⟨_, _, _, rfl, ⟨by omega, by omega, rfl, by rw [show (i + 1).toNat = i.toNat + 1 by omega]; exact hs.symm, hok⟩, by omega⟩)
 · refine Tr.all_f (U0 hi) (Tr.all_ret (.inl ?_))
   rw [List.take_of_length_le (by omega)] at he
   rw [he]
   rfl
def t22 (l : List (Int × (QRt × Int))) : Tr Res := .br (akR l [] [] 7 6 0) (.ret ([.ptr 0 0], [.boxT none [.int .u32 7, .int .i64 6, .rowA 1], .row QR (ranF l)])) .no
def os22 : OSpec := { f := 22, sh := [.d (.list DE) false], so := [], F := fun (l, _) _ => t22 l }
theorem fn22 (l : List (Int × (QRt × Int))) : evC TW (orcB [] [os14, V1o]) (lpOf h22 0 (lsOf [ls22])) c22 1000000 (X1 [.list DE l] [] Try.f22.ntmps) (J1 TW false 0 Try.f22) = (t22 l).get := by kernel_rfl
theorem ok22 : os22.Ok Try.prog := by
 refine X3 J2 tabW (V0 all_nil (all_cons ok14 (all_cons ok50p all_nil))) h22 (d := 0) (n0 := 0) (S := lsOf [ls22]) Try.func22 (by kernel_rfl) (c := c22) (by kernel_rfl) rfl (V5 (xs := [(0, b22)]) (by kernel_rfl) (all_cons (V6 Q5a) all_nil)) (by omega) (by kernel_rfl) ?_
 intro x'' y'' q'' hq''
 obtain ⟨(l : List (Int × (QRt × Int))), _⟩ := x''
 exact (fn22 l).trans hq''
open Go
def Jb {R : Type} (n : Nat) (K : Nat → Option R) : Option R := match n with | 0 => K 0 | m + 1 => K (Nat.succ m)
theorem Je {R : Type} (n : Nat) (K : Nat → Option R) : Jb n K = K n := by cases n <;> rfl
def X0v {R : Type} (n : Int) (K : Int → Option R) : Option R := match n with | .ofNat m => Jb m fun m => K (.ofNat m) | .negSucc m => Jb m fun m => K (.negSucc m)
theorem V16 {R : Type} (n : Int) (K : Int → Option R) : X0v n K = K n := by cases n <;> simp only [X0v, Je]
def Vh {α R : Type} (f : α → (α → Option R) → Option R) : List α → (List α → Option R) → Option R
 | [], K => K []
 | x :: xs, K => f x fun x => Vh f xs fun xs => K (x :: xs)
theorem Ud {α R : Type} {f : α → (α → Option R) → Option R} (hf : ∀ x K, f x K = K x) : ∀ (xs : List α) (K : List α → Option R), Vh f xs K = K xs
 | [], K => rfl
 | x :: xs, K => by simp only [Vh]; rw [hf, Ud hf xs]
def Z18 {R : Type} (b : UInt8) (K : UInt8 → Option R) : Option R := Jb b.toNat fun n => K (UInt8.ofNat n)
theorem Q1d {R : Type} (b : UInt8) (K : UInt8 → Option R) : Z18 b K = K b := by
 simp only [Z18, Je]
 congr 1
 exact UInt8.ofNat_toNat
def U23 {R : Type} (b : Bool) (K : Bool → Option R) : Option R := match b with | true => K true | false => K false
theorem Z10 {R : Type} (b : Bool) (K : Bool → Option R) : U23 b K = K b := by cases b <;> rfl
def Z04 {R : Type} : (t : Ty) → t.den → (t.den → Option R) → Option R
 | .int _, n, K => X0v n K
 | .bool, b, K => U23 b K
 | .str, s, K => Vh Z18 s K
 | .unit, _, K => K ()
 | .list t, xs, K => Vh (Z04 t) xs K
 | .pair a b, x, K => Z04 a x.1 fun y => Z04 b x.2 fun z => K (y, z)
theorem Qp {R : Type} : ∀ (t : Ty) (x : t.den) (K : t.den → Option R), Z04 t x K = K x
 | .int _, n, K => V16 n K
 | .bool, b, K => Z10 b K
 | .str, s, K => Ud (fun x K => Q1d x K) s K
 | .unit, _, K => rfl
 | .list t, xs, K => Ud (fun x K => Qp t x K) xs K
 | .pair a b, x, K => by simp only [Z04]; rw [Qp a, Qp b]
mutual
def Xf {R : Type} : AV → (AV → Option R) → Option R
 | .int k n, K => X0v n fun n => K (.int k n)
 | .bool b, K => U23 b fun b => K (.bool b)
 | .str s, K => Vh Z18 s fun s => K (.str s)
 | .list t xs, K => Vh (Z04 t) xs fun xs => K (.list t xs)
 | .agg cs, K => Qq cs fun cs => K (.agg cs)
 | .tup cs, K => Qq cs fun cs => K (.tup cs)
 | .np, K => K .np
 | .nm, K => K .nm
 | .nf, K => K .nf
 | .ns, K => K .ns
 | .ptr k off, K => Jb k fun k => Jb off fun off => K (.ptr k off)
 | .rptr k t i off, K => Jb k fun k => Jb i fun i => Jb off fun off => K (.rptr k t i off)
 | .lptr t xs i off, K => Vh (Z04 t) xs fun xs => Jb i fun i => Jb off fun off => K (.lptr t xs i off)
 | .rowA k, K => Jb k fun k => K (.rowA k)
 | .rowS k off n c, K => Jb k fun k => Jb off fun off => Jb n fun n => U23 c fun c => K (.rowS k off n c)
 | .mp k, K => Jb k fun k => K (.mp k)
 | .psl k n, K => Jb k fun k => Jb n fun n => K (.psl k n)
 | .fn g cs, K => Qq cs fun cs => K (.fn g cs)
 | .undef, K => K .undef
 | .dead, K => K .dead
def Qq {R : Type} : List AV → (List AV → Option R) → Option R
 | [], K => K []
 | v :: vs, K => Xf v fun v => Qq vs fun vs => K (v :: vs)
end
mutual
theorem Z38 {R : Type} : ∀ (v : AV) (K : AV → Option R), Xf v K = K v
 | .int k n, K => by simp only [Xf, V16]
 | .bool b, K => by simp only [Xf, Z10]
 | .str s, K => by simp only [Xf]; rw [Ud (fun x K => Q1d x K)]
 | .list t xs, K => by simp only [Xf]; rw [Ud (fun x K => Qp t x K)]
 | .agg cs, K => by simp only [Xf]; rw [Vp cs]
 | .tup cs, K => by simp only [Xf]; rw [Vp cs]
 | .np, K => by simp only [Xf]
 | .nm, K => by simp only [Xf]
 | .nf, K => by simp only [Xf]
 | .ns, K => by simp only [Xf]
 | .ptr k off, K => by simp only [Xf, Je]
 | .rptr k t i off, K => by simp only [Xf, Je]
 | .lptr t xs i off, K => by simp only [Xf]; rw [Ud (fun x K => Qp t x K)]; simp only [Je]
 | .rowA k, K => by simp only [Xf, Je]
 | .rowS k off n c, K => by simp only [Xf, Je, Z10]
 | .mp k, K => by simp only [Xf, Je]
 | .psl k n, K => by simp only [Xf, Je]
 | .fn g cs, K => by simp only [Xf]; rw [Vp cs]
 | .undef, K => by simp only [Xf]
 | .dead, K => by simp only [Xf]
theorem Vp {R : Type} : ∀ (vs : List AV) (K : List AV → Option R), Qq vs K = K vs
 | [], K => by simp only [Qq]
 | v :: vs, K => by simp only [Qq]; rw [Z38 v, Vp vs]
end
def Z0x {R : Type} (o : LObj) (K : LObj → Option R) : Option R :=
 match o with
 | .boxT g cs => Qq cs fun cs => (match g with | none => K (.boxT none cs) | some n => Jb n fun n => K (.boxT (some n) cs))
 | .row t xs => Vh (Z04 t) xs fun xs => K (.row t xs)
 | .mpo kt vt es => Vh (fun e K => Z04 kt e.1 fun a => Z04 vt e.2 fun b => K (a, b)) es fun es => K (.mpo kt vt es)
 | .gone => K .gone
theorem V2x {R : Type} (o : LObj) (K : LObj → Option R) : Z0x o K = K o := by
 cases o with
 | boxT g cs => simp only [Z0x]; rw [Vp]; cases g <;> simp only [Je]
 | row t xs => simp only [Z0x]; rw [Ud (fun x K => Qp t x K)]
 | mpo kt vt es => simp only [Z0x]; rw [Ud (fun e K => by rw [Qp, Qp])]
 | gone => rfl
def Q0w {R : Type} (os : List LObj) (K : List LObj → Option R) : Option R := Vh Z0x os K
theorem X16 {R : Type} (os : List LObj) (K : List LObj → Option R) : Q0w os K = K os := Ud (fun o K => V2x o K) os K
def X1x {R : Type} (keep : List Nat) (n0 : Nat) (st : St) (K : St → Option R) : Option R :=
 Qq (Z1k keep n0 st).1 fun vs => Q0w (Z1k keep n0 st).2 fun os => K (stOf keep vs os)
theorem U2h {R : Type} (keep : List Nat) (n0 : Nat) (st : St) (K : St → Option R) : X1x keep n0 st K = K (norm keep n0 st) := by
 simp only [X1x, Vp, X16]
 rfl
def Q2n (keep keepX : List Nat) (n0 : Nat) : Ex → St → Option (St ⊕ (Ex × St))
 | .normal, st => X1x keep n0 st fun st => some (.inl st)
 | .exit i, st => X1x keepX n0 st fun st => some (.inr (.exit i, st))
 | .ret, st => X1x keepX n0 st fun st => some (.inr (.ret, st))
theorem Q3f (keep keepX : List Nat) (n0 : Nat) : Q2n keep keepX n0 = Z1 keep keepX n0 := by
 funext e st
 cases e <;> simp only [Q2n, U2h, Z1]
def lpC (T : Tab) (orc : Orc) (H : Hint) (n0 fuel : Nat) : Nat → Lp
 | 0 => fun _ _ _ => .no
 | n + 1 => fun bid body st =>
   .of (X1x (H.keep bid) n0 st fun st => Vo (fun st => evC T orc (lpC T orc H n0 fuel n) body bid st (Q2n (H.keep bid) (H.keepX bid) n0)) fuel st)
theorem J1p {F F' : St → Option (St ⊕ (Ex × St))} (h : ∀ st r, F st = some r → F' st = some r) {r : Ex × St} : ∀ (n : Nat) (st : St), Vo F n st = some r → Vo F' n st = some r
 | 0, _, h0 => by simp [Vo] at h0
 | n + 1, st, h0 => by
   simp only [Vo] at h0 ⊢
   split at h0
   · cases h0
   · rename_i r' hr
     rw [h _ _ hr]
     exact h0
   · rename_i st' hr
     rw [h _ _ hr]
     exact J1p h n st' h0
theorem V33 {T : Tab} {orc : Orc} {H : Hint} {n0 fuel : Nat} : ∀ (n : Nat) (bid : Nat) (body : Code) (st : St) (q : Ex × St), (lpC T orc H n0 fuel n bid body st).get = some q → (lpN T orc H n0 n bid body st).get = some q
 | 0, _, _, _, _, h => by simp [lpC, Tr.get] at h
 | n + 1, bid, body, st, q, h => by
   simp only [lpC, lpN, Tr.get_of, U2h, Q3f] at h ⊢
   exact Z0v (J1p (fun st r hr => Uv body bid st _ _ (fun x _ st q hq => V33 n x.1 x.2 st q hq) (fun _ _ h => h) hr) _ _ h)
def V44 (T : Tab) (orc : Orc) (H : Hint) (fuel : Nat) (fn : Func) (args : List AV) (objs : List LObj) : Option Res :=
 match fn.body with
 | none => none
 | some c => bif Qn fn.ntmps c && Nat.ble args.length fn.ntmps then evC T orc (lpC T orc H objs.length fuel 8) c 1000000 (X1 args objs fn.ntmps) (J1 T H.own objs.length fn) else none
theorem U3e {T : Tab} {orc : Orc} {H : Hint} {fuel : Nat} {fn : Func} {args : List AV} {objs : List LObj} {r : Res} (h : V44 T orc H fuel fn args objs = some r) : evFn T orc H fn args objs = some r := by
 unfold V44 at h
 unfold evFn
 split at h
 · cases h
 · rename_i c hb
   rw [hb]
   simp only
   cases hd : (Qn fn.ntmps c && Nat.ble args.length fn.ntmps) with
   | false => rw [hd] at h; cases h
   | true =>
     rw [hd] at h
     simp only [cond_true] at h ⊢
     exact Uv c 1000000 _ _ _ (fun x _ st q hq => V33 8 x.1 x.2 st q hq) (fun _ _ h => h) h
abbrev Fns := List (Nat × (Tab × Hint × Func))
def fnAt : Fns → Nat → Option (Tab × Hint × Func)
 | [], _ => none
 | e :: es, f => bif Nat.beq e.1 f then some e.2 else fnAt es f
def orcD (tb : Fns) (base : Orc) (fuel : Nat) : Nat → Orc
 | 0 => fun _ _ _ => .no
 | n + 1 => fun f args objs => match fnAt tb f with
   | none => base f args objs
   | some e => .of (Qq args fun args => Q0w objs fun objs => match V44 e.1 (orcD tb base fuel n) e.2.1 fuel e.2.2 args objs with
     | none => none
     | some r => Qq r.1 fun vs => Q0w r.2 fun os => some (vs, os))
def FnOk (P : Program) (e : Nat × (Tab × Hint × Func)) : Prop := Q4 P e.2.1 ∧ P.funcs[e.1]? = some e.2.2.2 ∧ e.2.2.2.name ≠ "runtime.NumGoroutine"
theorem X37 {P : Program} : ∀ {tb : Fns}, (∀ e ∈ tb, FnOk P e) → ∀ {f : Nat} {e : Tab × Hint × Func}, fnAt tb f = some e → FnOk P (f, e)
 | [], _, _, _, h => by cases h
 | x :: xs, hx, f, e, h => by
   simp only [fnAt] at h
   cases hb : Nat.beq x.1 f with
   | true =>
     rw [hb] at h
     simp only [cond_true, Option.some.injEq] at h
     have h1 := hx x (by simp)
     subst h
     obtain rfl := Nat.eq_of_beq_eq_true hb
     exact h1
   | false =>
     rw [hb] at h
     exact X37 (fun y hy => hx y (List.mem_cons_of_mem _ hy)) h
theorem V1h {P : Program} (hmo : P.follows .mixedOrders = true) {tb : Fns} (htb : ∀ e ∈ tb, FnOk P e) {base : Orc} (hB : Zc P base) (fuel : Nat) : ∀ n, Zc P (orcD tb base fuel n)
 | 0 => fun f args objs res objs' h => by simp [orcD, Tr.get] at h
 | n + 1 => fun f args objs res objs' h => by
   simp only [orcD] at h
   split at h
   · exact hB _ _ _ _ _ h
   · rename_i e he
     obtain ⟨h1, h2, h3⟩ := X37 htb he
     simp only [Tr.get_of, Vp, X16] at h
     split at h
     · cases h
     · rename_i r hr
       have h := Option.some.inj h
       rw [Prod.eta] at h
       subst h
       exact V1l hmo h1 (V1h hmo htb hB fuel n) h2 h3 (U3e hr)
noncomputable def tbl13 : Fns := [(13, T13, h13, Try.f13), (14, T14, h14, Try.f14), (15, T15, h15, Try.f15), (19, T19, h19, Try.f19), (20, T20, h20, Try.f20), (32, T32, h32, Try.f32), (34, T34, h34, Try.f34), (45, T45, h45, Try.f45), (59, T59, h59, Try.f59), (68, T68, h68, Try.f68), (69, T69, h69, Try.f69), (70, T70, h70, Try.f70), (71, T71, h71, Try.f71), (76, T76, h76, Try.f76), (77, T77, h77, Try.f77), (81, T81, h81, Try.f81), (82, T82, h82, Try.f82), (91, T91, h91, Try.f91), (92, T92, h92, Try.f92), (93, T93, h93, Try.f93), (94, T94, h94, Try.f94), (95, T95, h95, Try.f95), (96, T96, h96, Try.f96), (97, T97, h97, Try.f97), (98, T98, h98, Try.f98), (99, T99, h99, Try.f99), (100, T100, h100, Try.f100), (101, T101, h101, Try.f101), (102, T102, h102, Try.f102), (103, { T103 with kns := true }, h103, Try.f103), (104, T104, h104, Try.f104), (117, T117, h117, Try.f117), (119, T119, h119, Try.f119), (120, T120, h120, Try.f120), (121, T121, h121, Try.f121), (122, T122, h122, Try.f122), (123, T123, h123, Try.f123), (124, T124, h124, Try.f124), (125, { T125 with kns := true }, hOwn h125, Try.f125), (138, T138, h138, Try.f138), (140, T140, h140, Try.f140), (141, T141, h141, Try.f141), (142, T142, h142, Try.f142), (143, T143, h143, Try.f143), (152, T152, h152, Try.f152)]
theorem Q4m : ∀ e ∈ tbl13, FnOk Try.prog e := all_cons ⟨tab0, Try.func13, by decide⟩ (all_cons ⟨tab0, Try.func14, by decide⟩ (all_cons ⟨tab0, Try.func15, by decide⟩ (all_cons ⟨tab0, Try.func19, by decide⟩ (all_cons ⟨tab0, Try.func20, by decide⟩ (all_cons ⟨tab0, Try.func32, by decide⟩ (all_cons ⟨tab0, Try.func34, by decide⟩ (all_cons ⟨tab0, Try.func45, by decide⟩ (all_cons ⟨tab0, Try.func59, by decide⟩ (all_cons ⟨tab0, Try.func68, by decide⟩ (all_cons ⟨tab0, Try.func69, by decide⟩ (all_cons ⟨tab0, Try.func70, by decide⟩ (all_cons ⟨tab0, Try.func71, by decide⟩ (all_cons ⟨tab0, Try.func76, by decide⟩ (all_cons ⟨tab0, Try.func77, by decide⟩ (all_cons ⟨tab0, Try.func81, by decide⟩ (all_cons ⟨tab0, Try.func82, by decide⟩ (all_cons ⟨tab0, Try.func91, by decide⟩ (all_cons ⟨tab0, Try.func92, by decide⟩ (all_cons ⟨tab0, Try.func93, by decide⟩ (all_cons ⟨tab0, Try.func94, by decide⟩ (all_cons ⟨tab0, Try.func95, by decide⟩ (all_cons ⟨tab0, Try.func96, by decide⟩ (all_cons ⟨tab0, Try.func97, by decide⟩ (all_cons ⟨tab0, Try.func98, by decide⟩ (all_cons ⟨tab0, Try.func99, by decide⟩ (all_cons ⟨tab0, Try.func100, by decide⟩ (all_cons ⟨tab0, Try.func101, by decide⟩ (all_cons ⟨tab0, Try.func102, by decide⟩ (all_cons ⟨(U21 (T := T103) tab0), Try.func103, by decide⟩ (all_cons ⟨tab0, Try.func104, by decide⟩ (all_cons ⟨tab0, Try.func117, by decide⟩ (all_cons ⟨tab0, Try.func119, by decide⟩ (all_cons ⟨tab0, Try.func120, by decide⟩ (all_cons ⟨tab0, Try.func121, by decide⟩ (all_cons ⟨tab0, Try.func122, by decide⟩ (all_cons ⟨tab0, Try.func123, by decide⟩ (all_cons ⟨tab0, Try.func124, by decide⟩ (all_cons ⟨(U21 (T := T125) tab0), Try.func125, by decide⟩ (all_cons ⟨tab0, Try.func138, by decide⟩ (all_cons ⟨tab0, Try.func140, by decide⟩ (all_cons ⟨tab0, Try.func141, by decide⟩ (all_cons ⟨tab0, Try.func142, by decide⟩ (all_cons ⟨tab0, Try.func143, by decide⟩ (all_cons ⟨tab0, Try.func152, by decide⟩ (all_nil)))))))))))))))))))))))))))))))))))))))))))))
theorem J55 : SemF Try.prog 13 [] [] [.bool true] [] := V1h J2 Q4m (V0 (fs := [fs90]) (os := []) (all_cons U51 (all_nil)) (all_nil)) 80 40 13 [] [] [.bool true] [] (by kernel_rfl)
def J06 : QRt := (0, 0, (0, 0), ([], 0, 0), [], 0, 0)
def atK (l : List QRt) (i : Int) : QRt := List.getD l (Int.toNat i) J06
def q0 (mq : List QQt) : QQt := List.getD mq 0 ([], 0, 0)
def svB (fh fp : Int) (mq : List QQt) (x : QRt) : Bool := (fh == x.2.2.1.1 && (fp == x.2.2.1.2 && true)) && ((q0 mq).1 == x.2.2.2.1.1 && ((q0 mq).2.1 == x.2.2.2.1.2.1 && ((q0 mq).2.2 == x.2.2.2.1.2.2 && true)))
def rtB (host th : Int) (mqr : Bool) (mop : Int) (mq : List QQt) : Bool := (th == host) && (mqr && ((mop == 0) && ((mq.length : Int) == 1)))
def hitB (host fh fp th tp mi : Int) (mqr : Bool) (mop : Int) (mq : List QQt) (x : QRt) : Bool := rtB host th mqr mop mq && (((tp == x.2.1) && (mi == x.1)) && svB fh fp mq x)
def hitI (host fh fp th tp mi : Int) (mqr : Bool) (mop : Int) (mq : List QQt) (l : List QRt) : Int := idxL (hitB host fh fp th tp mi mqr mop mq) l 0
def t38 (p : ((Int × Int) × ((Int × Int) × List UInt8))) (host room : Int) (all : List QRt) : Tr Res := .br (smS p.2.2) (.br ((tkV6 p.2.2).2 != 0) (.ret ([.agg [.int .u16 0, .int .u16 0, .int .u32 0, .int .u16 0, .str [], .int .u16 0, .int .u16 0, .str [], .int .i64 0, .int .u64 0], .agg [.int .u16 0, .bool false, .bool false, .bool false, .bool false, .bool false, .int .i64 0, .int .i64 0, .list QQ [], .list RR [], .list RR [], .list RR []], .bool false], [.boxT none [.int .u32 host, .int .i64 room, .rowA 1], .row QR all])) (.br (p.2.1.1 != host) (.ret ([.agg [.int .u16 0, .int .u16 0, .int .u32 0, .int .u16 0, .str [], .int .u16 0, .int .u16 0, .str [], .int .i64 0, .int .u64 0], .agg [.int .u16 0, .bool false, .bool false, .bool false, .bool false, .bool false, .int .i64 0, .int .i64 0, .list QQ [], .list RR [], .list RR [], .list RR []], .bool false], [.boxT none [.int .u32 host, .int .i64 room, .rowA 1], .row QR all])) (.br (!(tkV6 p.2.2).1.2.1) (.ret ([.agg [.int .u16 0, .int .u16 0, .int .u32 0, .int .u16 0, .str [], .int .u16 0, .int .u16 0, .str [], .int .i64 0, .int .u64 0], .agg [.int .u16 0, .bool false, .bool false, .bool false, .bool false, .bool false, .int .i64 0, .int .i64 0, .list QQ [], .list RR [], .list RR [], .list RR []], .bool false], [.boxT none [.int .u32 host, .int .i64 room, .rowA 1], .row QR all])) (.br ((tkV6 p.2.2).1.2.2.2.2.2.2.1 != 0) (.ret ([.agg [.int .u16 0, .int .u16 0, .int .u32 0, .int .u16 0, .str [], .int .u16 0, .int .u16 0, .str [], .int .i64 0, .int .u64 0], .agg [.int .u16 0, .bool false, .bool false, .bool false, .bool false, .bool false, .int .i64 0, .int .i64 0, .list QQ [], .list RR [], .list RR [], .list RR []], .bool false], [.boxT none [.int .u32 host, .int .i64 room, .rowA 1], .row QR all])) (.br ((↑(List.length (tkV6 p.2.2).1.2.2.2.2.2.2.2.2.1) : Int) != 1) (.ret ([.agg [.int .u16 0, .int .u16 0, .int .u32 0, .int .u16 0, .str [], .int .u16 0, .int .u16 0, .str [], .int .i64 0, .int .u64 0], .agg [.int .u16 0, .bool false, .bool false, .bool false, .bool false, .bool false, .int .i64 0, .int .i64 0, .list QQ [], .list RR [], .list RR [], .list RR []], .bool false], [.boxT none [.int .u32 host, .int .i64 room, .rowA 1], .row QR all])) (.br (ixAC all (↑all.length : Int) 0) (.br (decide (idxL (ipB (tkV6 p.2.2).1.1 p.2.1.2) all 0 < 0)) (.ret ([.agg [.int .u16 0, .int .u16 0, .int .u32 0, .int .u16 0, .str [], .int .u16 0, .int .u16 0, .str [], .int .i64 0, .int .u64 0], .agg [.int .u16 0, .bool false, .bool false, .bool false, .bool false, .bool false, .int .i64 0, .int .i64 0, .list QQ [], .list RR [], .list RR [], .list RR []], .bool false], [.boxT none [.int .u32 host, .int .i64 room, .rowA 1], .row QR all])) (.br (decide (idxL (ipB (tkV6 p.2.2).1.1 p.2.1.2) all 0 < 0)) (.ret ([.agg [.int .u16 0, .int .u16 0, .int .u32 0, .int .u16 0, .str [], .int .u16 0, .int .u16 0, .str [], .int .i64 0, .int .u64 0], .agg [.int .u16 0, .bool false, .bool false, .bool false, .bool false, .bool false, .int .i64 0, .int .i64 0, .list QQ [], .list RR [], .list RR [], .list RR []], .bool false], [.boxT none [.int .u32 host, .int .i64 room, .rowA 1], .row QR all])) (.br (decide (0 ≤ idxL (ipB (tkV6 p.2.2).1.1 p.2.1.2) all 0)) (.br (decide (idxL (ipB (tkV6 p.2.2).1.1 p.2.1.2) all 0 < (↑all.length : Int))) (.br (!((all.getD (Int.toNat (idxL (ipB (tkV6 p.2.2).1.1 p.2.1.2) all 0)) (Ty.dflt QR)).2.2.1.1 == p.1.1 && ((all.getD (Int.toNat (idxL (ipB (tkV6 p.2.2).1.1 p.2.1.2) all 0)) (Ty.dflt QR)).2.2.1.2 == p.1.2 && true))) (.ret ([.agg [.int .u16 0, .int .u16 0, .int .u32 0, .int .u16 0, .str [], .int .u16 0, .int .u16 0, .str [], .int .i64 0, .int .u64 0], .agg [.int .u16 0, .bool false, .bool false, .bool false, .bool false, .bool false, .int .i64 0, .int .i64 0, .list QQ [], .list RR [], .list RR [], .list RR []], .bool false], [.boxT none [.int .u32 host, .int .i64 room, .rowA 1], .row QR all])) (.br (decide (0 ≤ idxL (ipB (tkV6 p.2.2).1.1 p.2.1.2) all 0)) (.br (decide (idxL (ipB (tkV6 p.2.2).1.1 p.2.1.2) all 0 < (↑all.length : Int))) (.br (decide (0 < (↑(List.length (tkV6 p.2.2).1.2.2.2.2.2.2.2.2.1) : Int))) (.br (!((all.getD (Int.toNat (idxL (ipB (tkV6 p.2.2).1.1 p.2.1.2) all 0)) (Ty.dflt QR)).2.2.2.1.1 == (List.getD (tkV6 p.2.2).1.2.2.2.2.2.2.2.2.1 (Int.toNat 0) (Ty.dflt QQ)).1 && ((all.getD (Int.toNat (idxL (ipB (tkV6 p.2.2).1.1 p.2.1.2) all 0)) (Ty.dflt QR)).2.2.2.1.2.1 == (List.getD (tkV6 p.2.2).1.2.2.2.2.2.2.2.2.1 (Int.toNat 0) (Ty.dflt QQ)).2.1 && ((all.getD (Int.toNat (idxL (ipB (tkV6 p.2.2).1.1 p.2.1.2) all 0)) (Ty.dflt QR)).2.2.2.1.2.2 == (List.getD (tkV6 p.2.2).1.2.2.2.2.2.2.2.2.1 (Int.toNat 0) (Ty.dflt QQ)).2.2 && true)))) (.ret ([.agg [.int .u16 0, .int .u16 0, .int .u32 0, .int .u16 0, .str [], .int .u16 0, .int .u16 0, .str [], .int .i64 0, .int .u64 0], .agg [.int .u16 0, .bool false, .bool false, .bool false, .bool false, .bool false, .int .i64 0, .int .i64 0, .list QQ [], .list RR [], .list RR [], .list RR []], .bool false], [.boxT none [.int .u32 host, .int .i64 room, .rowA 1], .row QR all])) (.br (decide (0 ≤ idxL (ipB (tkV6 p.2.2).1.1 p.2.1.2) all 0)) (.br (decide (idxL (ipB (tkV6 p.2.2).1.1 p.2.1.2) all 0 < (↑all.length : Int))) (.ret ([.agg [.int .u16 (all.getD (Int.toNat (idxL (ipB (tkV6 p.2.2).1.1 p.2.1.2) all 0)) (Ty.dflt QR)).1, .int .u16 (all.getD (Int.toNat (idxL (ipB (tkV6 p.2.2).1.1 p.2.1.2) all 0)) (Ty.dflt QR)).2.1, .int .u32 (all.getD (Int.toNat (idxL (ipB (tkV6 p.2.2).1.1 p.2.1.2) all 0)) (Ty.dflt QR)).2.2.1.1, .int .u16 (all.getD (Int.toNat (idxL (ipB (tkV6 p.2.2).1.1 p.2.1.2) all 0)) (Ty.dflt QR)).2.2.1.2, .str (all.getD (Int.toNat (idxL (ipB (tkV6 p.2.2).1.1 p.2.1.2) all 0)) (Ty.dflt QR)).2.2.2.1.1, .int .u16 (all.getD (Int.toNat (idxL (ipB (tkV6 p.2.2).1.1 p.2.1.2) all 0)) (Ty.dflt QR)).2.2.2.1.2.1, .int .u16 (all.getD (Int.toNat (idxL (ipB (tkV6 p.2.2).1.1 p.2.1.2) all 0)) (Ty.dflt QR)).2.2.2.1.2.2, .str (all.getD (Int.toNat (idxL (ipB (tkV6 p.2.2).1.1 p.2.1.2) all 0)) (Ty.dflt QR)).2.2.2.2.1, .int .i64 (all.getD (Int.toNat (idxL (ipB (tkV6 p.2.2).1.1 p.2.1.2) all 0)) (Ty.dflt QR)).2.2.2.2.2.1, .int .u64 (all.getD (Int.toNat (idxL (ipB (tkV6 p.2.2).1.1 p.2.1.2) all 0)) (Ty.dflt QR)).2.2.2.2.2.2], .agg [.int .u16 (tkV6 p.2.2).1.1, .bool (tkV6 p.2.2).1.2.1, .bool (tkV6 p.2.2).1.2.2.1, .bool (tkV6 p.2.2).1.2.2.2.1, .bool (tkV6 p.2.2).1.2.2.2.2.1, .bool (tkV6 p.2.2).1.2.2.2.2.2.1, .int .i64 (tkV6 p.2.2).1.2.2.2.2.2.2.1, .int .i64 (tkV6 p.2.2).1.2.2.2.2.2.2.2.1, .list QQ (tkV6 p.2.2).1.2.2.2.2.2.2.2.2.1, .list RR (tkV6 p.2.2).1.2.2.2.2.2.2.2.2.2.1, .list RR (tkV6 p.2.2).1.2.2.2.2.2.2.2.2.2.2.1, .list RR (tkV6 p.2.2).1.2.2.2.2.2.2.2.2.2.2.2], .bool true], [.boxT none [.int .u32 host, .int .i64 room, .rowA 1], .row QR all])) .no) .no)) .no) .no) .no)) .no) .no))) .no)))))) .no
def os38 : OSpec := { f := 38, sh := [.ptr 0 0, .d (.pair AD (.pair AD .str)) true], so := [.box [.d (.int .u32) false, .d (.int .i64) false, .row 1], .row QR], F := fun (p, _) ((host, room, _), all, _) => t38 p host room all }
theorem fn38 (p : ((Int × Int) × ((Int × Int) × List UInt8))) (host room : Int) (all : List QRt) : evC T0 (orcB [J50] [os45]) (lpOf h38 2 (lsOf [])) c38 1000000 (X1 [.ptr 0 0, AV.ofTy (.pair AD (.pair AD .str)) p true] [.box [.int .u32 host, .int .i64 room, .rowA 1], .row QR all] Try.f38.ntmps) (J1 T0 false 2 Try.f38) = (t38 p host room all).get := by kernel_rfl
theorem ok38 : os38.Ok Try.prog := by
 refine X3 J2 tab0 (V0 (all_cons Q58 all_nil) (all_cons ok45 all_nil)) h38 (d := 0) (n0 := 2) (S := lsOf []) Try.func38 (by kernel_rfl) (c := c38) (by kernel_rfl) rfl (Z2 (by kernel_rfl)) (by omega) (by kernel_rfl) ?_
 intro x'' y'' q'' hq''
 obtain ⟨(p : ((Int × Int) × ((Int × Int) × List UInt8))), _⟩ := x''
 obtain ⟨⟨(host : Int), (room : Int), _⟩, (all : List QRt), _⟩ := y''
 exact (fn38 p host room all).trans hq''
def V51 : OSpec := { f := 13, sh := [], so := [], F := fun _ _ => .ret ([.bool true], []) }
theorem ok13d : V51.Ok Try.prog := by
 rintro _ _ r h
 cases h
 exact J55
theorem X42 {all : List QRt} {p i0 : Int} (hl : all.length ≤ 1000) : ∀ (n : Nat) (id : Int), nxM all i0 id ≤ n → nxI all p i0 id → U3 all p (Vq all p i0) = false
 | 0, id, hm, h => by
   cases ht : U3 all p id with
   | false => rw [U28 h ht]; exact ht
   | true => have := (U19 hl h ht).2; omega
 | n + 1, id, hm, h => by
   cases ht : U3 all p id with
   | false => rw [U28 h ht]; exact ht
   | true =>
     have h2 := U19 hl h ht
     exact X42 hl n _ (by omega) h2.1
theorem X1v {all : List QRt} {x : QRt} {draw : Int} (hl : all.length ≤ 1000) : U3 all (Q6 all x draw).2.1 (Q6 all x draw).1 = false :=
 X42 hl _ _ (Nat.le_refl _) (Q1e (i0 := draw % 65536) (by omega) (by omega))
theorem U1j {n : Int} (h : okT (.int .u32) n) : 0 ≤ n ∧ n < 4294967296 := by
 have hr : 0 ≤ n ∧ n ≤ 4294967295 := by simpa [okT, Lit.wf, IntKind.min, IntKind.max, IntKind.signed, IntKind.bits] using h
 omega
theorem X41 {n : Int} (h : okT (.int .u64) n) : 0 ≤ n ∧ n < 18446744073709551616 := by
 have hr : 0 ≤ n ∧ n ≤ 18446744073709551615 := by simpa [okT, Lit.wf, IntKind.min, IntKind.max, IntKind.signed, IntKind.bits] using h
 omega
theorem Q4i {q : QRt} (h : okT QR q) : rgK q = true := by
 have h := X41 h.2.2.2.2.2.2
 rw [rgK, Z0 h.1, Z0 h.2]
 rfl
theorem Z4d {l : List DEt} (h : okT (.list DE) l) : l.all rgD = true := by
 refine List.all_eq_true.2 fun x hx => ?_
 have h := h.2 x hx
 have hd := U1j h.2.2
 rw [rgD, Z0 hd.1, Z0 hd.2, Q4i h.2.1]
 rfl
theorem Q5b {l : List DEt} (h : l.all rgD = true) (hl : l.length ≤ 100) : akR l [] [] 7 6 0 = true := by
 rw [akR, Nat.ble_eq_true_of_le (by omega), h]
 rfl
theorem X5c {all : List QRt} {draw : Int} (h : all.length ≤ 1000) (hd : 0 ≤ draw ∧ draw < 4294967296) : akT all draw = true := by
 rw [akT, Nat.ble_eq_true_of_le h, Z0 hd.1, Z0 hd.2]
 rfl
theorem Z3u {all : List QRt} (h : all.length ≤ 1000) : akL all = true := Nat.ble_eq_true_of_le h
theorem Q1f {α : Type} {f : α → Bool} {y : α} (hy : f y = true) : ∀ (l : List α) (k : Nat), l.any f = false → idxL f (l ++ [y]) k = (k : Int) + l.length
 | [], k, _ => by
   rw [List.nil_append, idxL, if_pos hy]
   simp
 | x :: l, k, h => by
   rw [List.any_cons, Bool.or_eq_false_iff] at h
   rw [List.cons_append, idxL, if_neg (by rw [h.1]; simp), Q1f hy l (k + 1) h.2, List.length_cons]
   omega
theorem V1i (y : QRt) : ipB y.1 y.2.1 y = true := by
 unfold ipB
 rw [beq_self_eq_true, beq_self_eq_true]
 rfl
theorem V43 {all : List QRt} {y : QRt} (h : U3 all y.2.1 y.1 = false) : cutF (all ++ [y]) y.2.1 y.1 = all := by
 unfold cutF
 rw [Q1f (V1i y) all 0 h]
 unfold delR
 rw [show (((0 : Nat) : Int) + all.length).toNat = all.length by omega, List.take_left' rfl, List.drop_eq_nil_of_le (by simp), List.append_nil]
theorem U2x {all : List QRt} {y : QRt} : U3 (all ++ [y]) y.2.1 y.1 = true := by
 unfold U3
 rw [List.any_append, List.any_cons, V1i]
 simp
def dstB : List QRt → Bool
 | [] => true
 | x :: l => !(U3 l x.2.1 x.1) && dstB l
theorem V5a (x y : QRt) : ipB x.1 x.2.1 y = ipB y.1 y.2.1 x := by
 unfold ipB
 rw [Bool.beq_comm (a := y.1), Bool.beq_comm (a := y.2.1)]
theorem U3b {all : List QRt} {y : QRt} {p i : Int} : U3 (all ++ [y]) p i = (U3 all p i || ipB i p y) := by
 unfold U3
 rw [List.any_append, List.any_cons, List.any_nil, Bool.or_false]
theorem V2a {y : QRt} : ∀ {all : List QRt}, dstB all = true → U3 all y.2.1 y.1 = false → dstB (all ++ [y]) = true
 | [], _, _ => rfl
 | x :: l, h, ht => by
   rw [dstB, Bool.and_eq_true] at h
   have ht : (ipB y.1 y.2.1 x || U3 l y.2.1 y.1) = false := ht
   rw [Bool.or_eq_false_iff] at ht
   have h1 : U3 l x.2.1 x.1 = false := by simpa using h.1
   rw [List.cons_append, dstB, U3b, h1, V5a, ht.1, V2a h.2 ht.2]
   rfl
abbrev PGt := (Int × Int) × ((Int × Int) × List UInt8)
def hitP (host : Int) (p : PGt) (l : List QRt) : Int := hitI host p.1.1 p.1.2 p.2.1.1 p.2.1.2 (tkV6 p.2.2).1.1 (tkV6 p.2.2).1.2.1 (tkV6 p.2.2).1.2.2.2.2.2.2.1 (mQ (tkV6 p.2.2).1) l
def mtF (host : Int) (l : List QRt) (p : PGt) : QRt × (MGt × Bool) :=
 bif !decide ((tkV6 p.2.2).2 = 0) || decide (hitP host p l < 0) then (J06, noM, false) else (atK l (hitP host p l), (tkV6 p.2.2).1, true)
theorem Q35 {mi tp : Int} {g : QRt → Bool} (hg : ∀ x, g x = true → ipB mi tp x = true) : ∀ (l : List QRt) (k : Nat), dstB l = true →
    idxL g l k = bif decide (idxL (ipB mi tp) l k < 0) then -1 else bif g (l.getD (idxL (ipB mi tp) l k - k).toNat J06) then idxL (ipB mi tp) l k else -1
 | [], k, _ => rfl
 | x :: l, k, h => by
   rw [dstB, Bool.and_eq_true] at h
   have h1 : U3 l x.2.1 x.1 = false := by simpa using h.1
   cases hx : ipB mi tp x with
   | true =>
     rw [idxL, idxL, if_pos hx, U0 (by omega), cond_false, show ((k : Int) - (k : Int)).toNat = 0 by omega]
     show (if g x = true then (k : Int) else idxL g l (k + 1)) = bif g x then (k : Int) else -1
     cases hgx : g x with
     | true => rfl
     | false =>
       rw [if_neg (by simp), cond_false]
       have hx2 := hx
       simp only [ipB, Bool.and_eq_true, beq_iff_eq] at hx2
       rw [hx2.1, hx2.2] at h1
       rcases Zd g l (k + 1) with ⟨h2, _⟩ | ⟨_, h2⟩
       · exact h2
       · obtain ⟨y, hy, hgy⟩ := List.any_eq_true.1 h2
         rw [show U3 l tp mi = true from List.any_eq_true.2 ⟨y, hy, hg y hgy⟩] at h1
         cases h1
   | false =>
     have hgx : g x = false := by
      cases hgx : g x with
      | false => rfl
      | true => rw [hg x hgx] at hx; cases hx
     rw [idxL, idxL, if_neg (by rw [hgx]; simp), if_neg (by rw [hx]; simp), Q35 hg l (k + 1) h.2]
     rcases Zd (ipB mi tp) l (k + 1) with ⟨h2, _⟩ | ⟨h2, _⟩
     · rw [h2]; rfl
     · rw [show (idxL (ipB mi tp) l (k + 1) - (k : Int)).toNat = (idxL (ipB mi tp) l (k + 1) - ((k + 1 : Nat) : Int)).toNat + 1 by omega]
       rfl
theorem U2y {host fh fp th tp mi : Int} {mqr : Bool} {mop : Int} {mq : List QQt} (x : QRt) (h : hitB host fh fp th tp mi mqr mop mq x = true) : ipB mi tp x = true := by
 simp only [hitB, Bool.and_eq_true, beq_iff_eq] at h
 unfold ipB
 rw [h.2.1.1, h.2.1.2, beq_self_eq_true, beq_self_eq_true]
 rfl
theorem V2q {host fh fp th tp mi : Int} {mqr : Bool} {mop : Int} {mq : List QQt} {l : List QRt} (h : rtB host th mqr mop mq = false) : hitI host fh fp th tp mi mqr mop mq l = -1 := by
 unfold hitI
 rcases Zd (hitB host fh fp th tp mi mqr mop mq) l 0 with ⟨h2, _⟩ | ⟨_, h2⟩
 · exact h2
 · obtain ⟨y, _, hy⟩ := List.any_eq_true.1 h2
   unfold hitB at hy
   rw [h] at hy
   cases hy
theorem Z3w {host fh fp th tp mi : Int} {mqr : Bool} {mop : Int} {mq : List QQt} {l : List QRt} (hd : dstB l = true) (h : rtB host th mqr mop mq = true) :
    hitI host fh fp th tp mi mqr mop mq l = bif decide (idxL (ipB mi tp) l 0 < 0) then -1 else bif svB fh fp mq (atK l (idxL (ipB mi tp) l 0)) then idxL (ipB mi tp) l 0 else -1 := by
 unfold hitI
 rw [Q35 U2y l 0 hd]
 by_cases hj : idxL (ipB mi tp) l 0 < 0
 · rw [Z0 hj]; rfl
 · rw [U0 hj, cond_false, cond_false]
   have e1 : List.getD l (idxL (ipB mi tp) l 0 - ((0 : Nat) : Int)).toNat J06 = atK l (idxL (ipB mi tp) l 0) := by
    unfold atK
    rw [show idxL (ipB mi tp) l 0 - ((0 : Nat) : Int) = idxL (ipB mi tp) l 0 by omega]
   rw [e1]
   have hip : ∀ (l : List QRt) (k : Nat), ¬ idxL (ipB mi tp) l k < 0 → ipB mi tp (l.getD (idxL (ipB mi tp) l k - k).toNat J06) = true := fun l => by
    induction l with
    | nil => intro k h; exact absurd (show (-1 : Int) < 0 by decide) h
    | cons x l ih =>
      intro k hn
      rw [idxL] at hn ⊢
      split
      · rename_i hx
        rw [show ((k : Int) - (k : Int)).toNat = 0 by omega]
        exact hx
      · rename_i hx
        rw [if_neg hx] at hn
        rcases Zd (ipB mi tp) l (k + 1) with ⟨h2, _⟩ | ⟨h2, _⟩
        · rw [h2] at hn; omega
        · rw [show (idxL (ipB mi tp) l (k + 1) - (k : Int)).toNat = (idxL (ipB mi tp) l (k + 1) - ((k + 1 : Nat) : Int)).toNat + 1 by omega]
          exact ih (k + 1) hn
   have hx := hip l 0 hj
   rw [e1] at hx
   generalize atK l (idxL (ipB mi tp) l 0) = x at *
   have hx2 : (tp == x.2.1 && mi == x.1) = true := by
    simp only [ipB, Bool.and_eq_true, beq_iff_eq] at hx ⊢
    exact ⟨hx.2.symm, hx.1.symm⟩
   show (bif hitB host fh fp th tp mi mqr mop mq x then _ else _) = _
   unfold hitB
   rw [h, hx2, Bool.true_and, Bool.true_and]
def V4v : OSpec := os38.like fun (p, _) ((host, room, _), all, _) => .br (smS (Prod.snd (Prod.snd p))) (.br (akL all && dstB all) (.ret ([AV.ofTy QR (mtF host all p).1 true, AV.ofTy MG (mtF host all p).2.1 true, .bool (mtF host all p).2.2], [.box [.int .u32 host, .int .i64 room, .rowA 1], .row QR all])) .no) .no
theorem ok38p : V4v.Ok Try.prog := by
 refine Qc ok38 _ ?_
 rintro ⟨(p : PGt), _⟩ ⟨⟨(host : Int), (room : Int), _⟩, (all : List QRt), _⟩ r h
 refine Tr.get_of_all ?_
 show (t38 p host room all).all _
 rcases Xo h with ⟨c1, h⟩ | ⟨_, h⟩
 · rcases Xo h with ⟨c2, h⟩ | ⟨_, h⟩
   · cases h
     simp only [Bool.and_eq_true] at c2
     obtain ⟨hl, hd⟩ := c2
     have hl := Nat.le_of_ble_eq_true hl
     have hnone : (!decide ((tkV6 p.2.2).2 = 0) || decide (hitP host p all < 0)) = true → mtF host all p = (J06, noM, false) := fun hb => by unfold mtF; rw [hb]; rfl
     have hsome : ∀ j : Int, 0 ≤ j → (tkV6 p.2.2).2 = 0 → hitP host p all = j → mtF host all p = (atK all j, (tkV6 p.2.2).1, true) := fun j h0 hb hj => by
      unfold mtF
      rw [hj, hb, Z0 rfl, U0 (show ¬ j < 0 by omega)]
      rfl
     have hrt : ∀ b : Bool, rtB host p.2.1.1 (tkV6 p.2.2).1.2.1 (tkV6 p.2.2).1.2.2.2.2.2.2.1 (mQ (tkV6 p.2.2).1) = b → b = false → mtF host all p = (J06, noM, false) := fun b h1 h2 => hnone (by
      have : hitP host p all = -1 := V2q (h1.trans h2)
      rw [this, Z0 (show (-1 : Int) < 0 by decide), Bool.or_true])
     unfold t38
     refine Tr.all_t c1 (Tr.all_br (fun h => ?_) (fun k0 => Tr.all_br (fun h => ?_) (fun k1 => Tr.all_br (fun h => ?_) (fun k2 => Tr.all_br (fun h => ?_) (fun k3 => Tr.all_br (fun h => ?_) (fun k4 => ?_))))))
     · rw [hnone (by rw [U0 (show ¬ (tkV6 p.2.2).2 = 0 by intro e; rw [e] at h; cases h)]; rfl)]
       exact Tr.all_ret rfl
     · rw [hrt _ rfl (by unfold rtB; rw [show (p.2.1.1 == host) = false by simpa [bne] using h]; rfl)]
       exact Tr.all_ret rfl
     · rw [hrt _ rfl (by unfold rtB; rw [show (tkV6 p.2.2).1.2.1 = false by simpa using h]; simp only [Bool.false_and, Bool.and_false])]
       exact Tr.all_ret rfl
     · rw [hrt _ rfl (by unfold rtB; rw [show ((tkV6 p.2.2).1.2.2.2.2.2.2.1 == 0) = false by simpa [bne] using h]; simp only [Bool.false_and, Bool.and_false])]
       exact Tr.all_ret rfl
     · rw [hrt _ rfl (by unfold rtB; rw [show (((mQ (tkV6 p.2.2).1).length : Int) == 1) = false by have h : (!(((mQ (tkV6 p.2.2).1).length : Int) == 1)) = true := h; cases hb : (((mQ (tkV6 p.2.2).1).length : Int) == 1) with | false => rfl | true => rw [hb] at h; cases h]; simp only [Bool.and_false])]
       exact Tr.all_ret rfl
     · have hb : (tkV6 p.2.2).2 = 0 := by
         cases hz : decide ((tkV6 p.2.2).2 = 0) with
         | true => exact of_decide_eq_true hz
         | false =>
           have := of_decide_eq_false hz
           have k0 : (!((tkV6 p.2.2).2 == 0)) = false := k0
           rw [show ((tkV6 p.2.2).2 == 0) = false from by simpa using this] at k0
           cases k0
       have bneF : ∀ b : Bool, (!b) = false → b = true := fun b h => by cases b <;> first | rfl | cases h
       have h1 : (p.2.1.1 == host) = true := bneF _ k1
       have h2 : (tkV6 p.2.2).1.2.1 = true := bneF _ k2
       have h3 : ((tkV6 p.2.2).1.2.2.2.2.2.2.1 == 0) = true := bneF _ k3
       have h4 : (((mQ (tkV6 p.2.2).1).length : Int) == 1) = true := bneF _ k4
       have hR : rtB host p.2.1.1 (tkV6 p.2.2).1.2.1 (tkV6 p.2.2).1.2.2.2.2.2.2.1 (mQ (tkV6 p.2.2).1) = true := by
        unfold rtB
        rw [h1, h2, h3, h4]
        rfl
       have hE : hitP host p all = _ := Z3w (fh := p.1.1) (fp := p.1.2) (tp := p.2.1.2) (mi := (tkV6 p.2.2).1.1) hd hR
       have hq0 : 0 < ((mQ (tkV6 p.2.2).1).length : Int) := by have := eq_of_beq h4; omega
       have hlt := J19 (ipB (tkV6 p.2.2).1.1 p.2.1.2) all 0
       have hst : hitP host p all = -1 → mtF host all p = (J06, noM, false) := fun h => hnone (by rw [h, Z0 (show (-1 : Int) < 0 by decide), Bool.or_true])
       refine Tr.all_t (V27 hl) ?_
       generalize hI : idxL (ipB (tkV6 p.2.2).1.1 p.2.1.2) all 0 = j at *
       by_cases hj : j < 0
       · rw [Z0 hj, cond_true] at hE
         rw [hst hE]
         exact Tr.all_t (Z0 hj) (Tr.all_ret rfl)
       · rw [U0 hj, cond_false] at hE
         have hj1 : j < (all.length : Int) := by omega
         have hno : svB p.1.1 p.1.2 (mQ (tkV6 p.2.2).1) (atK all j) = false → mtF host all p = (J06, noM, false) := fun h => hst (by rw [hE, h]; rfl)
         refine Tr.all_f (U0 hj) (Tr.all_f (U0 hj) (Tr.all_t (Z0 (by omega)) (Tr.all_t (Z0 hj1) (Tr.all_br (fun s1 => ?_) (fun s1 => Tr.all_t (Z0 (by omega)) (Tr.all_t (Z0 hj1) (Tr.all_t (Z0 hq0) (Tr.all_br (fun s2 => ?_) (fun s2 => Tr.all_t (Z0 (by omega)) (Tr.all_t (Z0 hj1) ?_))))))))))
         · have s1 : ((atK all j).2.2.1.1 == p.1.1 && ((atK all j).2.2.1.2 == p.1.2 && true)) = false := by
             have s1 : (!((atK all j).2.2.1.1 == p.1.1 && ((atK all j).2.2.1.2 == p.1.2 && true))) = true := s1
             cases hb : ((atK all j).2.2.1.1 == p.1.1 && ((atK all j).2.2.1.2 == p.1.2 && true)) with
             | false => rfl
             | true => rw [hb] at s1; cases s1
           rw [hno (by unfold svB; rw [Bool.beq_comm (a := p.1.1), Bool.beq_comm (a := p.1.2), s1]; rfl)]
           exact Tr.all_ret rfl
         · have s2 : ((atK all j).2.2.2.1.1 == (q0 (mQ (tkV6 p.2.2).1)).1 && ((atK all j).2.2.2.1.2.1 == (q0 (mQ (tkV6 p.2.2).1)).2.1 && ((atK all j).2.2.2.1.2.2 == (q0 (mQ (tkV6 p.2.2).1)).2.2 && true))) = false := by
             have s2 : (!((atK all j).2.2.2.1.1 == (q0 (mQ (tkV6 p.2.2).1)).1 && ((atK all j).2.2.2.1.2.1 == (q0 (mQ (tkV6 p.2.2).1)).2.1 && ((atK all j).2.2.2.1.2.2 == (q0 (mQ (tkV6 p.2.2).1)).2.2 && true)))) = true := s2
             cases hb : ((atK all j).2.2.2.1.1 == (q0 (mQ (tkV6 p.2.2).1)).1 && ((atK all j).2.2.2.1.2.1 == (q0 (mQ (tkV6 p.2.2).1)).2.1 && ((atK all j).2.2.2.1.2.2 == (q0 (mQ (tkV6 p.2.2).1)).2.2 && true))) with
             | false => rfl
             | true => rw [hb] at s2; cases s2
           rw [hno (by unfold svB; rw [Bool.beq_comm (a := (q0 (mQ (tkV6 p.2.2).1)).1), Bool.beq_comm (a := (q0 (mQ (tkV6 p.2.2).1)).2.1), Bool.beq_comm (a := (q0 (mQ (tkV6 p.2.2).1)).2.2), s2, Bool.and_false])]
           exact Tr.all_ret rfl
         · have s1 : ((atK all j).2.2.1.1 == p.1.1 && ((atK all j).2.2.1.2 == p.1.2 && true)) = true := bneF _ s1
           have s2 : ((atK all j).2.2.2.1.1 == (q0 (mQ (tkV6 p.2.2).1)).1 && ((atK all j).2.2.2.1.2.1 == (q0 (mQ (tkV6 p.2.2).1)).2.1 && ((atK all j).2.2.2.1.2.2 == (q0 (mQ (tkV6 p.2.2).1)).2.2 && true))) = true := bneF _ s2
           have hs : svB p.1.1 p.1.2 (mQ (tkV6 p.2.2).1) (atK all j) = true := by
            unfold svB
            rw [Bool.beq_comm (a := p.1.1), Bool.beq_comm (a := p.1.2), s1, Bool.beq_comm (a := (q0 (mQ (tkV6 p.2.2).1)).1), Bool.beq_comm (a := (q0 (mQ (tkV6 p.2.2).1)).2.1), Bool.beq_comm (a := (q0 (mQ (tkV6 p.2.2).1)).2.2), s2]
            rfl
           rw [hs, cond_true] at hE
           rw [hsome j (by omega) hb hE]
           exact Tr.all_ret rfl
   · exact (X09 h).elim
 · exact (X09 h).elim
def t15 (x : QRt) (host room : Int) (all : List QRt) : Tr Res := .br (okPM (x.1, false, false, false, false, false, 0, 0, [x.2.2.2.1], [], [], [])) (.ret ([.agg [.int .u32 host, .int .u16 x.2.1, .int .u32 x.2.2.1.1, .int .u16 x.2.2.1.2, .str (putV (x.1, false, false, false, false, false, 0, 0, [x.2.2.2.1], [], [], [])).1]], [.boxT none [.int .u32 host, .int .i64 room, .rowA 1], .row QR all])) .no
def os15 : OSpec := { f := 15, sh := [.ptr 0 0, .d QR true], so := [.box [.d (.int .u32) false, .d (.int .i64) false, .row 1], .row QR], F := fun (x, _) ((host, room, _), all, _) => t15 x host room all }
theorem fn15 (x : QRt) (host room : Int) (all : List QRt) : evC T0 (orcB [U3p] []) (lpOf h15 2 (lsOf [])) c15 1000000 (X1 [.ptr 0 0, AV.ofTy QR x true] [.box [.int .u32 host, .int .i64 room, .rowA 1], .row QR all] Try.f15.ntmps) (J1 T0 false 2 Try.f15) = (t15 x host room all).get := by kernel_rfl
theorem ok15 : os15.Ok Try.prog := by
 refine X3 J2 tab0 (V0 (all_cons V3u all_nil) all_nil) h15 (d := 0) (n0 := 2) (S := lsOf []) Try.func15 (by kernel_rfl) (c := c15) (by kernel_rfl) rfl (Z2 (by kernel_rfl)) (by omega) (by kernel_rfl) ?_
 intro x'' y'' q'' hq''
 obtain ⟨(x : QRt), _⟩ := x''
 obtain ⟨⟨(host : Int), (room : Int), _⟩, (all : List QRt), _⟩ := y''
 exact (fn15 x host room all).trans hq''
def t37 (p : PGt) (id2 : Int) (q : QQt) : Tr Res := .br (okPM (id2, true, false, false, false, false, 0, 0, [q], [], [], [])) (.ret ([.agg [.int .u32 p.2.1.1, .int .u16 p.2.1.2, .int .u32 p.1.1, .int .u16 p.1.2, .str (putV (id2, true, false, false, false, false, 0, 0, [q], [], [], [])).1]], [])) .no
def os37 : OSpec := { f := 37, sh := [.d (.pair AD (.pair AD .str)) true, .d (.int .u16) false, .d QQ true], so := [], F := fun (p, id2, q, _) _ => t37 p id2 q }
theorem fn37 (p : PGt) (id2 : Int) (q : QQt) : evC T0 (orcB [U3p] []) (lpOf h37 0 (lsOf [])) c37 1000000 (X1 [AV.ofTy (.pair AD (.pair AD .str)) p true, .int .u16 id2, AV.ofTy QQ q true] [] Try.f37.ntmps) (J1 T0 false 0 Try.f37) = (t37 p id2 q).get := by kernel_rfl
theorem ok37 : os37.Ok Try.prog := by
 refine X3 J2 tab0 (V0 (all_cons V3u all_nil) all_nil) h37 (d := 0) (n0 := 0) (S := lsOf []) Try.func37 (by kernel_rfl) (c := c37) (by kernel_rfl) rfl (Z2 (by kernel_rfl)) (by omega) (by kernel_rfl) ?_
 intro x'' y'' q'' hq''
 obtain ⟨(p : PGt), (id2 : Int), (q : QQt), _⟩ := x''
 exact (fn37 p id2 q).trans hq''
def fs37 : FSpec := fsT 37 [((.pair AD (.pair AD .str)), true), ((.int .u16), false), (QQ, true)] [((.pair AD (.pair AD .str)), true)] fun (p, id2, q, _) => t37 p id2 q
theorem okf37 : fs37.Ok Try.prog := U6 fun x'' r'' hr'' => ok37 x'' () r'' hr''
def msgA (i : Int) (qr : Bool) (q : QQt) : MGt := (i, qr, false, false, false, false, 0, 0, [q], [], [], [])
def ansP (p : PGt) (i : Int) (q : QQt) : PGt := (p.2.1, p.1, (putV (msgA i true q)).1)
def pktP (host : Int) (x : QRt) : PGt := ((host, x.2.1), x.2.2.1, (putV (msgA x.1 false x.2.2.2.1)).1)
def Z4x : FSpec := fs37.like fun (p, i, q, _) => .br (okPM (msgA i true q)) (.ret (ansP p i q, ())) .no
theorem X53 : Z4x.Ok Try.prog := by
 refine Z6 okf37 _ ?_
 rintro ⟨(p : PGt), (i : Int), (q : QQt), _⟩ y h
 rcases Xo h with ⟨c, h⟩ | ⟨_, h⟩
 · cases h
   refine J4 (vs := [AV.ofTy (.pair AD (.pair AD .str)) (ansP p i q) true]) rfl rfl (Tr.get_of_all ?_)
   show (t37 p i q).all _
   unfold t37
   exact Tr.all_t c (Tr.all_ret rfl)
 · exact (X09 h).elim
def Q4x : OSpec := os15.like fun (x, _) ((host, room, _), all, _) => .br (okPM (msgA (Prod.fst x) false (Prod.fst (Prod.snd (Prod.snd (Prod.snd x)))))) (.ret ([AV.ofTy (.pair AD (.pair AD .str)) (pktP host x) true], [.box [.int .u32 host, .int .i64 room, .rowA 1], .row QR all])) .no
theorem ok15p : Q4x.Ok Try.prog := by
 refine Qc ok15 _ ?_
 rintro ⟨(x : QRt), _⟩ ⟨⟨(host : Int), (room : Int), _⟩, (all : List QRt), _⟩ r h
 refine Tr.get_of_all ?_
 show (t15 x host room all).all _
 rcases Xo h with ⟨c, h⟩ | ⟨_, h⟩
 · cases h
   unfold t15
   exact Tr.all_t c (Tr.all_ret rfl)
 · exact (X09 h).elim
def yK (l : List DEt) (x : QRt) (draw : Int) : QRt := Q6 (ranF l) x draw
def lK (l : List DEt) (x : QRt) (draw : Int) : List QRt := ranF l ++ [yK l x draw]
def pK (l : List DEt) (x : QRt) (draw : Int) : PGt := pktP 7 (yK l x draw)
def rK (l : List DEt) (x : QRt) (draw : Int) : PGt := ansP (pK l x draw) (yK l x draw).1 (yK l x draw).2.2.2.1
def cK (l : List DEt) (x : QRt) (draw : Int) : List QRt := cutF (lK l x draw) (yK l x draw).2.1 (yK l x draw).1
def a3K (l : List DEt) (x : QRt) (draw : Int) : PGt := ansP (pK l x draw) (IntKind.wrap IntKind.u16 ((yK l x draw).1 + 1)) (yK l x draw).2.2.2.1
def b0K (l : List DEt) (x : QRt) (draw : Int) : PGt := ((IntKind.wrap IntKind.u32 ((rK l x draw).1.1 + 1), (rK l x draw).1.2), (rK l x draw).2)
def b1K (l : List DEt) (x : QRt) (draw : Int) : PGt := (((rK l x draw).1.1, IntKind.wrap IntKind.u16 ((rK l x draw).1.2 + 1)), (rK l x draw).2)
def b2K (l : List DEt) (x : QRt) (draw : Int) : PGt := ((rK l x draw).1, (IntKind.wrap IntKind.u32 ((rK l x draw).2.1.1 + 1), (rK l x draw).2.1.2), (rK l x draw).2.2)
def b3K (l : List DEt) (x : QRt) (draw : Int) : PGt := ((a3K l x draw).1, ((a3K l x draw).2.1.1, (yK l x draw).2.1), (a3K l x draw).2.2)
def b4K (l : List DEt) (x : QRt) (draw : Int) : PGt := ansP (pK l x draw) (yK l x draw).1 ((yK l x draw).2.2.2.1.1, IntKind.wrap IntKind.u16 ((yK l x draw).2.2.2.1.2.1 + 1), (yK l x draw).2.2.2.1.2.2)
def b5K (l : List DEt) (x : QRt) (draw : Int) : PGt := ((rK l x draw).1, (rK l x draw).2.1, (pK l x draw).2.2)
def t11 (l : List (Int × (QRt × Int))) (x : QRt) (draw how : Int) : Tr Res := .br (fewX l) (.br (!decide ((↑l.length : Int) ≤ 100)) (.ret ([.bool true], [])) (.br (decide ((↑x.2.2.2.1.1.length : Int) > 300)) (.ret ([.bool true], [])) (.br (akR l [] [] 7 6 0) (.br (akT (ranF l) draw) (.br (decide (6 ≤ (↑(List.length (ranF l)) : Int))) (.ret ([.bool true], [])) (.br (okPM (msgA (yK l x draw).1 false (yK l x draw).2.2.2.1)) (.br ((pK l x draw).2.2 == []) (.ret ([.bool true], [])) (.br (okPM (msgA (yK l x draw).1 true (yK l x draw).2.2.2.1)) (.br (smS (rK l x draw).2.2) (.br (akL (lK l x draw) && dstB (lK l x draw)) (.br (Int.tmod how 6 == 0) (.br (smS (rK l x draw).2.2) (.br (akL (lK l x draw) && dstB (lK l x draw)) (.br (akL (lK l x draw)) (.br (U3 (lK l x draw) (yK l x draw).2.1 (yK l x draw).1) (.br (smS (rK l x draw).2.2) (.br (akL (cK l x draw) && dstB (cK l x draw)) (.br (mtF 7 (lK l x draw) (rK l x draw)).2.2 (.br (eqQ (mtF 7 (lK l x draw) (rK l x draw)).1 (yK l x draw)) (.br ((mtF 7 (lK l x draw) (rK l x draw)).2.1.1 == (yK l x draw).1) (.br (!(mtF 7 (lK l x draw) (b0K l x draw)).2.2) (.br (!(mtF 7 (cK l x draw) (rK l x draw)).2.2) (.br (akL (cK l x draw)) (.br (U3 (cK l x draw) (yK l x draw).2.1 (yK l x draw).1) (.ret ([.bool !true], [])) (.ret ([.bool !false], []))) .no) (.ret ([.bool false], []))) (.br (!(eqQ (mtF 7 (lK l x draw) (b0K l x draw)).1 (yK l x draw))) (.br (!(mtF 7 (cK l x draw) (rK l x draw)).2.2) (.br (akL (cK l x draw)) (.br (U3 (cK l x draw) (yK l x draw).2.1 (yK l x draw).1) (.ret ([.bool !true], [])) (.ret ([.bool !false], []))) .no) (.ret ([.bool false], []))) (.ret ([.bool false], [])))) (.ret ([.bool false], []))) (.ret ([.bool false], []))) (.ret ([.bool false], []))) .no) .no) (.br (smS (rK l x draw).2.2) (.br (akL (lK l x draw) && dstB (lK l x draw)) (.br (mtF 7 (lK l x draw) (rK l x draw)).2.2 (.br (eqQ (mtF 7 (lK l x draw) (rK l x draw)).1 (yK l x draw)) (.br ((mtF 7 (lK l x draw) (rK l x draw)).2.1.1 == (yK l x draw).1) (.br (!(mtF 7 (lK l x draw) (b0K l x draw)).2.2) (.ret ([.bool false], [])) (.br (!(eqQ (mtF 7 (lK l x draw) (b0K l x draw)).1 (yK l x draw))) (.ret ([.bool false], [])) (.ret ([.bool false], [])))) (.ret ([.bool false], []))) (.ret ([.bool false], []))) (.ret ([.bool false], []))) .no) .no)) .no) .no) .no) (.br (Int.tmod how 6 == 1) (.br (smS (rK l x draw).2.2) (.br (akL (lK l x draw) && dstB (lK l x draw)) (.br (akL (lK l x draw)) (.br (U3 (lK l x draw) (yK l x draw).2.1 (yK l x draw).1) (.br (smS (rK l x draw).2.2) (.br (akL (cK l x draw) && dstB (cK l x draw)) (.br (mtF 7 (lK l x draw) (rK l x draw)).2.2 (.br (eqQ (mtF 7 (lK l x draw) (rK l x draw)).1 (yK l x draw)) (.br ((mtF 7 (lK l x draw) (rK l x draw)).2.1.1 == (yK l x draw).1) (.br (!(mtF 7 (lK l x draw) (b1K l x draw)).2.2) (.br (!(mtF 7 (cK l x draw) (rK l x draw)).2.2) (.br (akL (cK l x draw)) (.br (U3 (cK l x draw) (yK l x draw).2.1 (yK l x draw).1) (.ret ([.bool !true], [])) (.ret ([.bool !false], []))) .no) (.ret ([.bool false], []))) (.br (!(eqQ (mtF 7 (lK l x draw) (b1K l x draw)).1 (yK l x draw))) (.br (!(mtF 7 (cK l x draw) (rK l x draw)).2.2) (.br (akL (cK l x draw)) (.br (U3 (cK l x draw) (yK l x draw).2.1 (yK l x draw).1) (.ret ([.bool !true], [])) (.ret ([.bool !false], []))) .no) (.ret ([.bool false], []))) (.ret ([.bool false], [])))) (.ret ([.bool false], []))) (.ret ([.bool false], []))) (.ret ([.bool false], []))) .no) .no) (.br (smS (rK l x draw).2.2) (.br (akL (lK l x draw) && dstB (lK l x draw)) (.br (mtF 7 (lK l x draw) (rK l x draw)).2.2 (.br (eqQ (mtF 7 (lK l x draw) (rK l x draw)).1 (yK l x draw)) (.br ((mtF 7 (lK l x draw) (rK l x draw)).2.1.1 == (yK l x draw).1) (.br (!(mtF 7 (lK l x draw) (b1K l x draw)).2.2) (.ret ([.bool false], [])) (.br (!(eqQ (mtF 7 (lK l x draw) (b1K l x draw)).1 (yK l x draw))) (.ret ([.bool false], [])) (.ret ([.bool false], [])))) (.ret ([.bool false], []))) (.ret ([.bool false], []))) (.ret ([.bool false], []))) .no) .no)) .no) .no) .no) (.br (Int.tmod how 6 == 2) (.br (smS (rK l x draw).2.2) (.br (akL (lK l x draw) && dstB (lK l x draw)) (.br (akL (lK l x draw)) (.br (U3 (lK l x draw) (yK l x draw).2.1 (yK l x draw).1) (.br (smS (rK l x draw).2.2) (.br (akL (cK l x draw) && dstB (cK l x draw)) (.br (mtF 7 (lK l x draw) (rK l x draw)).2.2 (.br (eqQ (mtF 7 (lK l x draw) (rK l x draw)).1 (yK l x draw)) (.br ((mtF 7 (lK l x draw) (rK l x draw)).2.1.1 == (yK l x draw).1) (.br (!(mtF 7 (lK l x draw) (b2K l x draw)).2.2) (.br (!(mtF 7 (cK l x draw) (rK l x draw)).2.2) (.br (akL (cK l x draw)) (.br (U3 (cK l x draw) (yK l x draw).2.1 (yK l x draw).1) (.ret ([.bool !true], [])) (.ret ([.bool !false], []))) .no) (.ret ([.bool false], []))) (.br (!(eqQ (mtF 7 (lK l x draw) (b2K l x draw)).1 (yK l x draw))) (.br (!(mtF 7 (cK l x draw) (rK l x draw)).2.2) (.br (akL (cK l x draw)) (.br (U3 (cK l x draw) (yK l x draw).2.1 (yK l x draw).1) (.ret ([.bool !true], [])) (.ret ([.bool !false], []))) .no) (.ret ([.bool false], []))) (.ret ([.bool false], [])))) (.ret ([.bool false], []))) (.ret ([.bool false], []))) (.ret ([.bool false], []))) .no) .no) (.br (smS (rK l x draw).2.2) (.br (akL (lK l x draw) && dstB (lK l x draw)) (.br (mtF 7 (lK l x draw) (rK l x draw)).2.2 (.br (eqQ (mtF 7 (lK l x draw) (rK l x draw)).1 (yK l x draw)) (.br ((mtF 7 (lK l x draw) (rK l x draw)).2.1.1 == (yK l x draw).1) (.br (!(mtF 7 (lK l x draw) (b2K l x draw)).2.2) (.ret ([.bool false], [])) (.br (!(eqQ (mtF 7 (lK l x draw) (b2K l x draw)).1 (yK l x draw))) (.ret ([.bool false], [])) (.ret ([.bool false], [])))) (.ret ([.bool false], []))) (.ret ([.bool false], []))) (.ret ([.bool false], []))) .no) .no)) .no) .no) .no) (.br (Int.tmod how 6 == 3) (.br (okPM (msgA (IntKind.wrap .u16 ((yK l x draw).1 + 1)) true (yK l x draw).2.2.2.1)) (.br (smS (a3K l x draw).2.2) (.br (akL (lK l x draw) && dstB (lK l x draw)) (.br (akL (lK l x draw)) (.br (U3 (lK l x draw) (yK l x draw).2.1 (yK l x draw).1) (.br (smS (rK l x draw).2.2) (.br (akL (cK l x draw) && dstB (cK l x draw)) (.br (mtF 7 (lK l x draw) (rK l x draw)).2.2 (.br (eqQ (mtF 7 (lK l x draw) (rK l x draw)).1 (yK l x draw)) (.br ((mtF 7 (lK l x draw) (rK l x draw)).2.1.1 == (yK l x draw).1) (.br (!(mtF 7 (lK l x draw) (b3K l x draw)).2.2) (.br (!(mtF 7 (cK l x draw) (rK l x draw)).2.2) (.br (akL (cK l x draw)) (.br (U3 (cK l x draw) (yK l x draw).2.1 (yK l x draw).1) (.ret ([.bool !true], [])) (.ret ([.bool !false], []))) .no) (.ret ([.bool false], []))) (.br (!(eqQ (mtF 7 (lK l x draw) (b3K l x draw)).1 (yK l x draw))) (.br (!(mtF 7 (cK l x draw) (rK l x draw)).2.2) (.br (akL (cK l x draw)) (.br (U3 (cK l x draw) (yK l x draw).2.1 (yK l x draw).1) (.ret ([.bool !true], [])) (.ret ([.bool !false], []))) .no) (.ret ([.bool false], []))) (.ret ([.bool false], [])))) (.ret ([.bool false], []))) (.ret ([.bool false], []))) (.ret ([.bool false], []))) .no) .no) (.br (smS (rK l x draw).2.2) (.br (akL (lK l x draw) && dstB (lK l x draw)) (.br (mtF 7 (lK l x draw) (rK l x draw)).2.2 (.br (eqQ (mtF 7 (lK l x draw) (rK l x draw)).1 (yK l x draw)) (.br ((mtF 7 (lK l x draw) (rK l x draw)).2.1.1 == (yK l x draw).1) (.br (!(mtF 7 (lK l x draw) (b3K l x draw)).2.2) (.ret ([.bool false], [])) (.br (!(eqQ (mtF 7 (lK l x draw) (b3K l x draw)).1 (yK l x draw))) (.ret ([.bool false], [])) (.ret ([.bool false], [])))) (.ret ([.bool false], []))) (.ret ([.bool false], []))) (.ret ([.bool false], []))) .no) .no)) .no) .no) .no) .no) (.br (Int.tmod how 6 == 4) (.br (okPM (msgA (yK l x draw).1 true ((yK l x draw).2.2.2.1.1, IntKind.wrap .u16 ((yK l x draw).2.2.2.1.2.1 + 1), (yK l x draw).2.2.2.1.2.2))) (.br (smS (b4K l x draw).2.2) (.br (akL (lK l x draw) && dstB (lK l x draw)) (.br (akL (lK l x draw)) (.br (U3 (lK l x draw) (yK l x draw).2.1 (yK l x draw).1) (.br (smS (rK l x draw).2.2) (.br (akL (cK l x draw) && dstB (cK l x draw)) (.br (mtF 7 (lK l x draw) (rK l x draw)).2.2 (.br (eqQ (mtF 7 (lK l x draw) (rK l x draw)).1 (yK l x draw)) (.br ((mtF 7 (lK l x draw) (rK l x draw)).2.1.1 == (yK l x draw).1) (.br (!(mtF 7 (lK l x draw) (b4K l x draw)).2.2) (.br (!(mtF 7 (cK l x draw) (rK l x draw)).2.2) (.br (akL (cK l x draw)) (.br (U3 (cK l x draw) (yK l x draw).2.1 (yK l x draw).1) (.ret ([.bool !true], [])) (.ret ([.bool !false], []))) .no) (.ret ([.bool false], []))) (.br (!(eqQ (mtF 7 (lK l x draw) (b4K l x draw)).1 (yK l x draw))) (.br (!(mtF 7 (cK l x draw) (rK l x draw)).2.2) (.br (akL (cK l x draw)) (.br (U3 (cK l x draw) (yK l x draw).2.1 (yK l x draw).1) (.ret ([.bool !true], [])) (.ret ([.bool !false], []))) .no) (.ret ([.bool false], []))) (.ret ([.bool false], [])))) (.ret ([.bool false], []))) (.ret ([.bool false], []))) (.ret ([.bool false], []))) .no) .no) (.br (smS (rK l x draw).2.2) (.br (akL (lK l x draw) && dstB (lK l x draw)) (.br (mtF 7 (lK l x draw) (rK l x draw)).2.2 (.br (eqQ (mtF 7 (lK l x draw) (rK l x draw)).1 (yK l x draw)) (.br ((mtF 7 (lK l x draw) (rK l x draw)).2.1.1 == (yK l x draw).1) (.br (!(mtF 7 (lK l x draw) (b4K l x draw)).2.2) (.ret ([.bool false], [])) (.br (!(eqQ (mtF 7 (lK l x draw) (b4K l x draw)).1 (yK l x draw))) (.ret ([.bool false], [])) (.ret ([.bool false], [])))) (.ret ([.bool false], []))) (.ret ([.bool false], []))) (.ret ([.bool false], []))) .no) .no)) .no) .no) .no) .no) (.br (smS (pK l x draw).2.2) (.br (akL (lK l x draw) && dstB (lK l x draw)) (.br (akL (lK l x draw)) (.br (U3 (lK l x draw) (yK l x draw).2.1 (yK l x draw).1) (.br (smS (rK l x draw).2.2) (.br (akL (cK l x draw) && dstB (cK l x draw)) (.br (mtF 7 (lK l x draw) (rK l x draw)).2.2 (.br (eqQ (mtF 7 (lK l x draw) (rK l x draw)).1 (yK l x draw)) (.br ((mtF 7 (lK l x draw) (rK l x draw)).2.1.1 == (yK l x draw).1) (.br (!(mtF 7 (lK l x draw) (b5K l x draw)).2.2) (.br (!(mtF 7 (cK l x draw) (rK l x draw)).2.2) (.br (akL (cK l x draw)) (.br (U3 (cK l x draw) (yK l x draw).2.1 (yK l x draw).1) (.ret ([.bool !true], [])) (.ret ([.bool !false], []))) .no) (.ret ([.bool false], []))) (.br (!(eqQ (mtF 7 (lK l x draw) (b5K l x draw)).1 (yK l x draw))) (.br (!(mtF 7 (cK l x draw) (rK l x draw)).2.2) (.br (akL (cK l x draw)) (.br (U3 (cK l x draw) (yK l x draw).2.1 (yK l x draw).1) (.ret ([.bool !true], [])) (.ret ([.bool !false], []))) .no) (.ret ([.bool false], []))) (.ret ([.bool false], [])))) (.ret ([.bool false], []))) (.ret ([.bool false], []))) (.ret ([.bool false], []))) .no) .no) (.br (smS (rK l x draw).2.2) (.br (akL (lK l x draw) && dstB (lK l x draw)) (.br (mtF 7 (lK l x draw) (rK l x draw)).2.2 (.br (eqQ (mtF 7 (lK l x draw) (rK l x draw)).1 (yK l x draw)) (.br ((mtF 7 (lK l x draw) (rK l x draw)).2.1.1 == (yK l x draw).1) (.br (!(mtF 7 (lK l x draw) (b5K l x draw)).2.2) (.ret ([.bool false], [])) (.br (!(eqQ (mtF 7 (lK l x draw) (b5K l x draw)).1 (yK l x draw))) (.ret ([.bool false], [])) (.ret ([.bool false], [])))) (.ret ([.bool false], []))) (.ret ([.bool false], []))) (.ret ([.bool false], []))) .no) .no)) .no) .no) .no)))))) .no) .no) .no)) .no)) .no) .no))) (.ret ([.bool true], []))
def os11 : OSpec := { f := 11, sh := [.d (.list DE) false, .d QR true, .d (.int .u32) false, .d (.int .u8) false], so := [], F := fun (l, x, draw, how, _) _ => t11 l x draw how }
theorem fn11 (l : List (Int × (QRt × Int))) (x : QRt) (draw how : Int) : evC T0 (orcB [fs16, fs18, Z4x] [V51, os22, J49, Q4x, Q3s, V4v]) (lpOf h11 0 (lsOf [])) c11 1000000 (X1 [.list DE l, AV.ofTy QR x true, .int .u32 draw, .int .u8 how] [] Try.f11.ntmps) (J1 T0 false 0 Try.f11) = (t11 l x draw how).get := by kernel_rfl
theorem ok11 : os11.Ok Try.prog := by
 refine X3 J2 tab0 (V0 (all_cons X4s (all_cons okf18 (all_cons X53 all_nil))) (all_cons ok13d (all_cons ok22 (all_cons X4x (all_cons ok15p (all_cons V52 (all_cons ok38p all_nil))))))) h11 (d := 0) (n0 := 0) (S := lsOf []) Try.func11 (by kernel_rfl) (c := c11) (by kernel_rfl) rfl (Z2 (by kernel_rfl)) (by omega) (by kernel_rfl) ?_
 intro x'' y'' q'' hq''
 obtain ⟨(l : List (Int × (QRt × Int))), (x : QRt), (draw : Int), (how : Int), _⟩ := x''
 exact (fn11 l x draw how).trans hq''
def Q4y (room : Int) (l : List DEt) : List QRt := l.foldl (Jl room) []
theorem U3a {l m : List QRt} {p i : Int} (h : ∀ q ∈ m, q ∈ l) (ht : U3 l p i = false) : U3 m p i = false := by
 cases hb : U3 m p i with
 | false => rfl
 | true =>
   obtain ⟨q, hq, hx⟩ := List.any_eq_true.1 hb
   rw [show U3 l p i = true from List.any_eq_true.2 ⟨q, h q hq, hx⟩] at ht
   cases ht
theorem Z34 : ∀ (l : List QRt) (i : Nat), dstB l = true → dstB (l.take i ++ l.drop (i + 1)) = true
 | [], i, _ => by simp [dstB]
 | x :: l, 0, h => by
   rw [dstB, Bool.and_eq_true] at h
   exact h.2
 | x :: l, i + 1, h => by
   rw [dstB, Bool.and_eq_true] at h
   have h1 : U3 l x.2.1 x.1 = false := by simpa using h.1
   rw [List.take_succ_cons, List.drop_succ_cons, List.cons_append, dstB, Z34 l i h.2, U3a (l := l) (fun q hq => ?_) h1]
   · rfl
   · rcases List.mem_append.1 hq with hq | hq
     · exact List.mem_of_mem_take hq
     · exact List.mem_of_mem_drop hq
theorem X3q {room : Int} {all : List QRt} {x : DEt} (hl : all.length ≤ 1000) (h : dstB all = true) : dstB (Jl room all x) = true := by
 unfold Jl
 cases x.1 == 0 with
 | true =>
   rw [cond_true]
   cases decide (room ≤ (all.length : Int)) with
   | true => exact h
   | false => exact V2a h (X1v hl)
 | false =>
   rw [cond_false]
   cases x.1 == 1 with
   | false => exact h
   | true =>
     rw [cond_true]
     cases U3 all x.2.1.2.1 x.2.1.1 with
     | false => exact h
     | true => exact Z34 all _ h
theorem U4g {room : Int} (h0 : 0 ≤ room) (h1 : room ≤ 256) {l : List DEt} (h : l.all rgD = true) : okK room (Q4y room l) ∧ dstB (Q4y room l) = true := by
 have : ∀ (l : List DEt) (b : List QRt), l.all rgD = true → okK room b ∧ dstB b = true → okK room (l.foldl (Jl room) b) ∧ dstB (l.foldl (Jl room) b) = true := fun l => by
  induction l with
  | nil => intro b _ hb; exact hb
  | cons x l ih =>
    intro b h hb
    rw [List.all_cons, Bool.and_eq_true] at h
    have := hb.1.1
    exact ih _ h.2 ⟨X34 hb.1 h.1, X3q (by omega) hb.2⟩
 exact this l [] h ⟨⟨h0, rfl⟩, rfl⟩
theorem X22 (i : Int) (qr : Bool) (q : QQt) : mayM (msgA i qr q) = mayV q.1 := by
 show (mayN (msgA i qr q) && (U14 [q] && (V03 [] && (V03 [] && V03 [])))) = mayV q.1
 have h1 : mayN (msgA i qr q) = true := rfl
 have h2 : V03 [] = true := rfl
 have h3 : U14 [q] = mayV q.1 := by
  unfold U14
  rw [List.any_cons, List.any_nil, Bool.or_false]
  unfold noQ
  rw [Bool.not_not]
  show (mayV q.1 && decide (1 ≤ 65535)) = _
  rw [decide_eq_true (by omega), Bool.and_true]
 rw [h1, h2, h3]
 cases mayV q.1 <;> rfl
theorem J4l (i : Int) (qr : Bool) (q : QQt) : bytM (msgA i qr q) = (J3 q.1 (Q8 (msgA i qr q)) []).1 ++ qB q := rfl
theorem J3w (m : MGt) : (Q8 m).length = 12 := rfl
theorem Q30 {i : Int} {qr : Bool} {q : QQt} (h : mayV q.1 = true) : (bytM (msgA i qr q)).length ≤ 271 := by
 obtain ⟨h1, h2, _⟩ := Qi.1 h
 have h3 := (U05 _ q.1 (Q8 (msgA i qr q)) [] rfl h1).1
 rw [J3w] at h3
 rw [J4l, List.length_append]
 have : (qB q).length = 4 := rfl
 omega
theorem Q36 {i : Int} {qr : Bool} {q : QQt} (h : mayV q.1 = true) : putV (msgA i qr q) = (bytM (msgA i qr q), 0) := by
 have := Q30 (i := i) (qr := qr) h
 unfold putV
 rw [X22, h, cond_true, U0 (show ¬ ((bytM (msgA i qr q)).length : Int) > 65535 by omega)]
 rfl
theorem J3x {i : Int} {qr : Bool} {q : QQt} (h : mayV q.1 = false) : putV (msgA i qr q) = ([], 1) := by
 unfold putV
 rw [X22, h]
 rfl
theorem Q0h (i : Int) (qr : Bool) (q : QQt) : smS (putV (msgA i qr q)).1 = true := by
 unfold smS
 cases h : mayV q.1 with
 | true => rw [Q36 h]; have := Q30 (i := i) (qr := qr) h; exact decide_eq_true (by show (bytM (msgA i qr q)).length ≤ _; omega)
 | false => rw [J3x h]; rfl
theorem Q0q {i : Int} {qr : Bool} {q : QQt} (hp : okPM (msgA i qr q) = true) (h : mayV q.1 = true) : tkV6 (putV (msgA i qr q)).1 = (msgA i qr q, 0) := by
 rw [Q36 h]
 exact (X45 (U2e hp (by rw [X22]; exact h))).1
theorem Z0j {n : Int} : n16C n = true ↔ 0 ≤ n ∧ n ≤ 65535 := by
 unfold n16C
 rw [Bool.and_eq_true, decide_eq_true_eq, decide_eq_true_eq]
theorem Z1y (n : Int) : n16C (IntKind.wrap IntKind.u16 n) = true := Z0j.2 (by show 0 ≤ n % 65536 ∧ n % 65536 ≤ 65535; omega)
theorem V0r {i : Int} {qr : Bool} {q : QQt} (h0 : n16C i = true) (h1 : n16C q.2.1 = true) (h2 : n16C q.2.2 = true) (hn : q.1.length ≤ 300) : okPM (msgA i qr q) = true := by
 refine U1i.2 ⟨?_, ?_, rfl⟩
 · show (okQ [q] && (okL [] && (okL [] && okL []))) = true
   have : bigQ q = true := by
    unfold bigQ bigS
    exact decide_eq_true (by omega)
   unfold okQ
   rw [List.all_cons, this]
   rfl
 · show (n16C i && ([q].all rngQ && _)) = true
   have : rngQ q = true := by unfold rngQ; rw [h1, h2]; rfl
   rw [h0, List.all_cons, this]
   rfl
theorem V36 {host : Int} {l : List QRt} {p : PGt} (h : hitP host p l < 0) : mtF host l p = (J06, noM, false) := by
 unfold mtF
 rw [Z0 h, Bool.or_true]
 rfl
theorem mt_rt {host : Int} {l : List QRt} {p : PGt} (h : rtB host p.2.1.1 (tkV6 p.2.2).1.2.1 (tkV6 p.2.2).1.2.2.2.2.2.2.1 (mQ (tkV6 p.2.2).1) = false) : (mtF host l p).2.2 = false := by
 rw [V36 (show hitP host p l < 0 by rw [show hitP host p l = -1 from V2q h]; decide)]
theorem X4p {host : Int} {l : List QRt} {p : PGt} (h : U3 l p.2.1.2 (tkV6 p.2.2).1.1 = false) : (mtF host l p).2.2 = false := by
 rw [V36]
 unfold hitP hitI
 rcases Zd (hitB host p.1.1 p.1.2 p.2.1.1 p.2.1.2 (tkV6 p.2.2).1.1 (tkV6 p.2.2).1.2.1 (tkV6 p.2.2).1.2.2.2.2.2.2.1 (mQ (tkV6 p.2.2).1)) l 0 with ⟨h2, _⟩ | ⟨_, h2⟩
 · rw [h2]; decide
 · obtain ⟨x, hx, hh⟩ := List.any_eq_true.1 h2
   rw [show U3 l p.2.1.2 (tkV6 p.2.2).1.1 = true from List.any_eq_true.2 ⟨x, hx, U2y x hh⟩] at h
   cases h
theorem V37 (L : List QRt) (y : QRt) : atK (L ++ [y]) (L.length : Int) = y := by
 unfold atK
 rw [Int.toNat_natCast, List.getD_eq_getElem?_getD, List.getElem?_append_right (Nat.le_refl _), Nat.sub_self]
 rfl
theorem J3l {L : List QRt} {y : QRt} {p : PGt} {q : QQt} (hf : U3 L y.2.1 y.1 = false) (hd : dstB (L ++ [y]) = true) (ht : tkV6 p.2.2 = (msgA y.1 true q, 0)) (hp : p.2.1.2 = y.2.1) :
    mtF 7 (L ++ [y]) p = bif (p.2.1.1 == 7) && svB p.1.1 p.1.2 [q] y then (y, msgA y.1 true q, true) else (J06, noM, false) := by
 cases h7 : (p.2.1.1 == 7) with
 | false =>
   rw [Bool.false_and, cond_false]
   refine V36 ?_
   have : hitP 7 p (L ++ [y]) = -1 := V2q (by unfold rtB; rw [h7]; rfl)
   rw [this]
   decide
 | true =>
   rw [Bool.true_and]
   have hR : rtB 7 p.2.1.1 (tkV6 p.2.2).1.2.1 (tkV6 p.2.2).1.2.2.2.2.2.2.1 (mQ (tkV6 p.2.2).1) = true := by
    unfold rtB
    rw [h7, ht]
    rfl
   have hE : hitP 7 p (L ++ [y]) = _ := Z3w (fh := p.1.1) (fp := p.1.2) (tp := p.2.1.2) (mi := (tkV6 p.2.2).1.1) hd hR
   have hi1 : (tkV6 p.2.2).1.1 = y.1 := by rw [ht]; rfl
   have hJ : idxL (ipB (tkV6 p.2.2).1.1 p.2.1.2) (L ++ [y]) 0 = (L.length : Int) := by
    rw [hi1, hp, Q1f (V1i y) L 0 hf]
    simp
   rw [hJ, U0 (by omega), cond_false, V37] at hE
   have hmq : mQ (tkV6 p.2.2).1 = [q] := by rw [ht]; rfl
   rw [hmq] at hE
   cases hs : svB p.1.1 p.1.2 [q] y with
   | true =>
     rw [hs, cond_true] at hE
     unfold mtF
     rw [hE, ht, Z0 rfl, U0 (show ¬ (L.length : Int) < 0 by omega), V37]
     rfl
   | false =>
     rw [hs, cond_false] at hE
     exact V36 (by rw [hE]; decide)
theorem mt_id {host : Int} {l : List QRt} {p : PGt} (h : (mtF host l p).2.2 = true) : (mtF host l p).1.1 = (tkV6 p.2.2).1.1 := by
 unfold mtF at h ⊢
 cases hb : (!decide ((tkV6 p.2.2).2 = 0) || decide (hitP host p l < 0)) with
 | true => rw [hb] at h; cases h
 | false =>
   rw [cond_false]
   rw [Bool.or_eq_false_iff] at hb
   have hj := of_decide_eq_false hb.2
   have hip : ∀ (g : QRt → Bool) (l : List QRt) (k : Nat), ¬ idxL g l k < 0 → g (l.getD (idxL g l k - k).toNat J06) = true := fun g l => by
    induction l with
    | nil => intro k h; exact absurd (show (-1 : Int) < 0 by decide) h
    | cons x l ih =>
      intro k hn
      rw [idxL] at hn ⊢
      split
      · rename_i hx
        rw [show ((k : Int) - (k : Int)).toNat = 0 by omega]
        exact hx
      · rename_i hx
        rw [if_neg hx] at hn
        rcases Zd g l (k + 1) with ⟨h2, _⟩ | ⟨h2, _⟩
        · rw [h2] at hn; omega
        · rw [show (idxL g l (k + 1) - (k : Int)).toNat = (idxL g l (k + 1) - ((k + 1 : Nat) : Int)).toNat + 1 by omega]
          exact ih (k + 1) hn
   have h1 := hip _ l 0 hj
   have h2 := U2y _ h1
   simp only [ipB, Bool.and_eq_true, beq_iff_eq] at h2
   have e : atK l (hitP host p l) = l.getD (hitP host p l - ((0 : Nat) : Int)).toNat J06 := by
    unfold atK
    rw [show hitP host p l - ((0 : Nat) : Int) = hitP host p l by omega]
   rw [e]
   exact h2.1
theorem U3g {n : Int} (h : 0 ≤ n ∧ n < 4294967296) : ¬ IntKind.wrap IntKind.u32 (n + 1) = n := by
 show ¬ (n + 1) % 4294967296 = n
 omega
theorem Q0x {n : Int} (h : 0 ≤ n ∧ n ≤ 65535) : ¬ IntKind.wrap IntKind.u16 (n + 1) = n := by
 show ¬ (n + 1) % 65536 = n
 omega
theorem J4k (fh fp : Int) (y : QRt) (h1 : fh = y.2.2.1.1) (h2 : fp = y.2.2.1.2) : svB fh fp [y.2.2.2.1] y = true := by
 subst h1 h2
 show ((y.2.2.1.1 == y.2.2.1.1 && (y.2.2.1.2 == y.2.2.1.2 && true)) && (y.2.2.2.1.1 == y.2.2.2.1.1 && (y.2.2.2.1.2.1 == y.2.2.2.1.2.1 && (y.2.2.2.1.2.2 == y.2.2.2.1.2.2 && true)))) = true
 simp
theorem askForged_all (l : List DEt) (x : QRt) (draw how : Int) (h1 : okT (.list DE) l) (h2 : okT QR x) (h3 : okT (.int .u32) draw) : (t11 l x draw how).all fun r => r = ([.bool true], []) := by
 unfold t11
 refine Tr.all_br (fun _ => Tr.all_br (fun _ => Tr.all_ret rfl) (fun hl => Tr.all_br (fun _ => Tr.all_ret rfl) (fun hn => ?_))) (fun _ => Tr.all_ret rfl)
 have hg := Z4d h1
 have hl : l.length ≤ 100 := by
  have : decide ((l.length : Int) ≤ 100) = true := by simpa using hl
  have := of_decide_eq_true this
  omega
 have hn := of_decide_eq_false hn
 have hd := U1j h3
 obtain ⟨hK, hds⟩ := U4g (room := 6) (by omega) (by omega) hg
 have hL : (ranF l).length ≤ 6 := by have := hK.1; exact Int.ofNat_le.1 this
 have hds : dstB (ranF l) = true := hds
 refine Tr.all_t (Q5b hg hl) (Tr.all_t (X5c (by omega) hd) (Tr.all_br (fun _ => Tr.all_ret rfl) (fun hr => ?_)))
 have hr := of_decide_eq_false hr
 have hfree : U3 (ranF l) (yK l x draw).2.1 (yK l x draw).1 = false := X1v (by omega)
 have hdL : dstB (lK l x draw) = true := V2a hds hfree
 have hcK : cK l x draw = ranF l := V43 hfree
 have hlL : (lK l x draw).length = (ranF l).length + 1 := by unfold lK; simp
 have hid : n16C (yK l x draw).1 = true := by
  have := V1y (all := ranF l) (p := V0s draw) (i := draw % 65536) (by omega) (by omega)
  exact Z0j.2 ⟨this.1, by have h := this.2; show Vq (ranF l) (V0s draw) (draw % 65536) ≤ 65535; omega⟩
 have hq : (yK l x draw).2.2 = x.2.2 := rfl
 obtain ⟨_, _, hs, hqq, _⟩ := h2
 have hq1 := Z0j.1 (V24 hqq.2.1)
 have hq2 := V24 hqq.2.2
 have hs1 := U1j hs.1
 have hs2 := Z0j.1 (V24 hs.2)
 have hqn : (yK l x draw).2.2.2.1.1.length ≤ 300 := by rw [hq]; omega
 have hqt : n16C (yK l x draw).2.2.2.1.2.1 = true := by rw [hq]; exact Z0j.2 hq1
 have hqc : n16C (yK l x draw).2.2.2.1.2.2 = true := by rw [hq]; exact hq2
 refine Tr.all_t (V0r hid hqt hqc hqn) (Tr.all_br (fun _ => Tr.all_ret rfl) (fun he => ?_))
 have hmay : mayV (yK l x draw).2.2.2.1.1 = true := by
  cases hm : mayV (yK l x draw).2.2.2.1.1 with
  | true => rfl
  | false =>
    have : (pK l x draw).2.2 = [] := by show (putV (msgA _ false _)).1 = []; rw [J3x hm]
    rw [show Prod.snd (Prod.snd (pK l x draw)) = [] from this] at he
    cases he
 have hok := V0r (qr := true) hid hqt hqc hqn
 have htk : tkV6 (rK l x draw).2.2 = (msgA (yK l x draw).1 true (yK l x draw).2.2.2.1, 0) := Q0q hok hmay
 have hSr : smS (Prod.snd (Prod.snd (rK l x draw))) = true := Q0h _ _ _
 have hC0 : akL (lK l x draw) = true := Z3u (by omega)
 have hLL1 : (akL (lK l x draw) && dstB (lK l x draw)) = true := by rw [hC0, hdL]; rfl
 have hT : U3 (lK l x draw) (Prod.fst (Prod.snd (yK l x draw))) (Prod.fst (yK l x draw)) = true := U2x
 have hC2 : akL (cK l x draw) = true := by rw [hcK]; exact Z3u (by omega)
 have hC1 : (akL (cK l x draw) && dstB (cK l x draw)) = true := by rw [hC2, hcK, hds]; rfl
 have hnt : U3 (cK l x draw) (Prod.fst (Prod.snd (yK l x draw))) (Prod.fst (yK l x draw)) = false := by rw [hcK]; exact hfree
 have hm : mtF 7 (lK l x draw) (rK l x draw) = (yK l x draw, msgA (yK l x draw).1 true (yK l x draw).2.2.2.1, true) := by
  have := J3l (L := ranF l) (y := yK l x draw) (p := rK l x draw) hfree hdL htk rfl
  rw [show svB (rK l x draw).1.1 (rK l x draw).1.2 [(yK l x draw).2.2.2.1] (yK l x draw) = true from J4k _ _ _ rfl rfl] at this
  exact this
 have hF : Prod.snd (Prod.snd (mtF (7 : Int) (lK l x draw) (rK l x draw))) = true := by rw [hm]
 have hE : eqQ (mtF 7 (lK l x draw) (rK l x draw)).1 (yK l x draw) = true := by rw [hm]; exact X1a.2 rfl
 have hI : (Prod.fst (Prod.fst (Prod.snd (mtF (7 : Int) (lK l x draw) (rK l x draw)))) == Prod.fst (yK l x draw)) = true := by rw [hm]; exact beq_self_eq_true _
 have hnl : (!Prod.snd (Prod.snd (mtF (7 : Int) (cK l x draw) (rK l x draw)))) = true := by
  rw [X4p (by rw [htk, hcK]; exact hfree)]
  rfl
 have hno : ∀ b : PGt, tkV6 b.2.2 = (msgA (yK l x draw).1 true (yK l x draw).2.2.2.1, 0) → b.2.1.2 = (yK l x draw).2.1 → ((b.2.1.1 == 7) && svB b.1.1 b.1.2 [(yK l x draw).2.2.2.1] (yK l x draw)) = false → (!Prod.snd (Prod.snd (mtF (7 : Int) (lK l x draw) b))) = true := fun b hb hp hs => by
  have := J3l (L := ranF l) (y := yK l x draw) (p := b) hfree hdL hb hp
  rw [hs] at this
  rw [show mtF 7 (lK l x draw) b = _ from this]
  rfl
 have beqF : ∀ a b : Int, ¬ a = b → (a == b) = false := fun a b h => by simpa using h
 refine Tr.all_t hok (Tr.all_t hSr (Tr.all_t hLL1 (Tr.all_br (fun _ => ?_) (fun _ => Tr.all_br (fun _ => ?_) (fun _ => Tr.all_br (fun _ => ?_) (fun _ => Tr.all_br (fun _ => ?_) (fun _ => Tr.all_br (fun _ => ?_) (fun _ => ?_))))))))
 · have hb := hno (b0K l x draw) htk rfl (by
     unfold svB
     rw [beqF (b0K l x draw).1.1 (yK l x draw).2.2.1.1 (U3g hs1)]
     simp only [Bool.false_and, Bool.and_false])
   exact Tr.all_t hSr (Tr.all_t hLL1 (Tr.all_t hC0 (Tr.all_t hT (Tr.all_t hSr (Tr.all_t hC1 (Tr.all_t hF (Tr.all_t hE (Tr.all_t hI (Tr.all_t hb (Tr.all_t hnl (Tr.all_t hC2 (Tr.all_f hnt (Tr.all_ret rfl)))))))))))))
 · have hb := hno (b1K l x draw) htk rfl (by
     unfold svB
     rw [beqF (b1K l x draw).1.2 (yK l x draw).2.2.1.2 (Q0x hs2)]
     simp only [Bool.false_and, Bool.and_false])
   exact Tr.all_t hSr (Tr.all_t hLL1 (Tr.all_t hC0 (Tr.all_t hT (Tr.all_t hSr (Tr.all_t hC1 (Tr.all_t hF (Tr.all_t hE (Tr.all_t hI (Tr.all_t hb (Tr.all_t hnl (Tr.all_t hC2 (Tr.all_f hnt (Tr.all_ret rfl)))))))))))))
 · have hb := hno (b2K l x draw) htk rfl (by rw [show ((b2K l x draw).2.1.1 == 7) = false from rfl]; rfl)
   exact Tr.all_t hSr (Tr.all_t hLL1 (Tr.all_t hC0 (Tr.all_t hT (Tr.all_t hSr (Tr.all_t hC1 (Tr.all_t hF (Tr.all_t hE (Tr.all_t hI (Tr.all_t hb (Tr.all_t hnl (Tr.all_t hC2 (Tr.all_f hnt (Tr.all_ret rfl)))))))))))))
 · have hok3 := V0r (qr := true) (Z1y ((yK l x draw).1 + 1)) hqt hqc hqn
   have htk3 : tkV6 (b3K l x draw).2.2 = (msgA (IntKind.wrap IntKind.u16 ((yK l x draw).1 + 1)) true (yK l x draw).2.2.2.1, 0) := Q0q hok3 hmay
   have hne : (!Prod.snd (Prod.snd (mtF (7 : Int) (lK l x draw) (b3K l x draw)))) = false → (!(eqQ (mtF 7 (lK l x draw) (b3K l x draw)).1 (yK l x draw))) = true := fun hfo => by
    have h2 : (mtF 7 (lK l x draw) (b3K l x draw)).2.2 = true := by
     cases hb : (mtF 7 (lK l x draw) (b3K l x draw)).2.2 with
     | true => rfl
     | false => rw [show Prod.snd (Prod.snd (mtF (7 : Int) (lK l x draw) (b3K l x draw))) = false from hb] at hfo; cases hfo
    have h3 := mt_id h2
    rw [htk3] at h3
    have h3 : (mtF 7 (lK l x draw) (b3K l x draw)).1.1 = IntKind.wrap IntKind.u16 ((yK l x draw).1 + 1) := h3
    cases hb : eqQ (mtF 7 (lK l x draw) (b3K l x draw)).1 (yK l x draw) with
    | false => rfl
    | true =>
      rw [X1a.1 hb] at h3
      exact absurd h3.symm (Q0x (Z0j.1 hid))
   exact Tr.all_t hok3 (Tr.all_t (show smS (Prod.snd (Prod.snd (a3K l x draw))) = true from Q0h _ _ _) (Tr.all_t hLL1 (Tr.all_t hC0 (Tr.all_t hT (Tr.all_t hSr (Tr.all_t hC1 (Tr.all_t hF (Tr.all_t hE (Tr.all_t hI (Tr.all_br (fun _ => Tr.all_t hnl (Tr.all_t hC2 (Tr.all_f hnt (Tr.all_ret rfl)))) (fun hfo => Tr.all_t (hne hfo) (Tr.all_t hnl (Tr.all_t hC2 (Tr.all_f hnt (Tr.all_ret rfl)))))))))))))))
 · have hok4 := V0r (qr := true) (q := ((yK l x draw).2.2.2.1.1, IntKind.wrap IntKind.u16 ((yK l x draw).2.2.2.1.2.1 + 1), (yK l x draw).2.2.2.1.2.2)) hid (Z1y _) hqc hqn
   have htk4 : tkV6 (b4K l x draw).2.2 = (msgA (yK l x draw).1 true ((yK l x draw).2.2.2.1.1, IntKind.wrap IntKind.u16 ((yK l x draw).2.2.2.1.2.1 + 1), (yK l x draw).2.2.2.1.2.2), 0) := Q0q hok4 hmay
   have hb : (!Prod.snd (Prod.snd (mtF (7 : Int) (lK l x draw) (b4K l x draw)))) = true := by
    have := J3l (L := ranF l) (y := yK l x draw) (p := b4K l x draw) hfree hdL htk4 rfl
    rw [show svB (b4K l x draw).1.1 (b4K l x draw).1.2 [((yK l x draw).2.2.2.1.1, IntKind.wrap IntKind.u16 ((yK l x draw).2.2.2.1.2.1 + 1), (yK l x draw).2.2.2.1.2.2)] (yK l x draw) = false by
     unfold svB
     rw [beqF (q0 [((yK l x draw).2.2.2.1.1, IntKind.wrap IntKind.u16 ((yK l x draw).2.2.2.1.2.1 + 1), (yK l x draw).2.2.2.1.2.2)]).2.1 (yK l x draw).2.2.2.1.2.1 (Q0x hq1)]
     simp only [Bool.false_and, Bool.and_false], Bool.and_false] at this
    rw [show mtF 7 (lK l x draw) (b4K l x draw) = _ from this]
    rfl
   exact Tr.all_t hok4 (Tr.all_t (show smS (Prod.snd (Prod.snd (b4K l x draw))) = true from Q0h _ _ _) (Tr.all_t hLL1 (Tr.all_t hC0 (Tr.all_t hT (Tr.all_t hSr (Tr.all_t hC1 (Tr.all_t hF (Tr.all_t hE (Tr.all_t hI (Tr.all_t hb (Tr.all_t hnl (Tr.all_t hC2 (Tr.all_f hnt (Tr.all_ret rfl))))))))))))))
 · have hb : (!Prod.snd (Prod.snd (mtF (7 : Int) (lK l x draw) (b5K l x draw)))) = true := by
     have htk5 : tkV6 (b5K l x draw).2.2 = (msgA (yK l x draw).1 false (yK l x draw).2.2.2.1, 0) := Q0q (V0r hid hqt hqc hqn) hmay
     rw [mt_rt (by rw [htk5]; unfold rtB; rw [show (msgA (yK l x draw).1 false (yK l x draw).2.2.2.1).2.1 = false from rfl, Bool.false_and, Bool.and_false])]
     rfl
   exact Tr.all_t (show smS (Prod.snd (Prod.snd (pK l x draw))) = true from Q0h _ _ _) (Tr.all_t hLL1 (Tr.all_t hC0 (Tr.all_t hT (Tr.all_t hSr (Tr.all_t hC1 (Tr.all_t hF (Tr.all_t hE (Tr.all_t hI (Tr.all_t hb (Tr.all_t hnl (Tr.all_t hC2 (Tr.all_f hnt (Tr.all_ret rfl)))))))))))))
theorem sem11 (l : List DEt) (x : QRt) (draw how : Int) (h1 : okT (.list DE) l) (h2 : okT QR x) (h3 : okT (.int .u32) draw) : SemF Try.prog 11 [.list DE l, AV.ofTy QR x true, .int .u32 draw, .int .u8 how] [] [.bool true] [] :=
 ok11 (l, x, draw, how, ()) () ([.bool true], []) (Tr.get_of_all (askForged_all l x draw how h1 h2 h3))
end Go.Proofs.YtpledbapngdkeaaE
namespace Go.Proofs.Ytpledbapngdkeaa.askForged
open Go.ChangeShapes Go.WideShapes Go.ChangeAt Go.RowKit Go.Proofs.YtpledbapngdkeaaE
open Go.ChangeMaps (open_string shut_string)
set_option linter.unusedVariables false
theorem own : ownKnob Try.prog.godebug = none := by kernel_rfl
theorem laidOut : laidOutB Try.prog = true := by kernel_rfl
set_option maxRecDepth 100000 in
theorem lifted (os : Os) (started : os.Started) (H : Type) (enc : TypeId × Value → H) :
    ReturnsInHanded {} Try.checked os 11 .any (Rows.askForgedSpec.pre6 enc Try.prog Try.f11 Rows.askForgedRow.domain false) (Rows.askForgedSpec.post enc Try.prog Try.f11 false true false false) := by
  refine returnsInHanded_of_change_sized (C := Try.checked) own started (by kernel_rfl) Try.func11
    (ChangeSpec.witness6 (enc := enc) (C := Try.checked) false ⟨#[], #[.slice none 0 0, .agg #[.int .u16 0, .int .u16 0, .int .u32 0, .int .u16 0, .string ByteArray.empty, .int .u16 0, .int .u16 0, .string ByteArray.empty, .int .i64 0, .int .u64 0], .int .u32 0, .int .u8 0], []⟩ 8 (by kernel_rfl) (by kernel_rfl) (by kernel_rfl) (by kernel_rfl)) ?_
  intro W base args ds gs before hval0 hW hcnd hsz0 _
  have hsz : ∀ n ∈ DataW.weightsEach Try.prog (Try.f11.params.toList ++ Rows.askForgedSpec.plain.varTypes Try.prog) (ds ++ gs), n ≤ reachBytes := fun n hn => of_decide_eq_true (List.all_eq_true.1 hsz0 n hn)
  have hval : ∀ (j : Nat) t v, Try.f11.params[j]? = some t → args[j]? = some v → Value.okWide Try.prog W .any base t v := hval0
  have hW' := hW
  obtain ⟨p, q, hA0, hV, rfl, hfz, hnd⟩ := hW
  have hA : DataW.TrodAll enc Try.prog W 0 (fun _ => true) true Try.f11.params.toList args.toList ds p := hA0
  rw [Try.params11] at hA hval hsz
  obtain ⟨v0, vs0, d0, ds0, p0, q0, hargs, rfl, rfl, k0, r0⟩ := trodAll_cons hA
  obtain ⟨v1, vs1, d1, ds1, p1, q1, rfl, rfl, rfl, k1, r1⟩ := trodAll_cons r0
  obtain ⟨v2, vs2, d2, ds2, p2, q2, rfl, rfl, rfl, k2, r2⟩ := trodAll_cons r1
  obtain ⟨v3, vs3, d3, ds3, p3, q3, rfl, rfl, rfl, k3, r3⟩ := trodAll_cons r2
  obtain ⟨rfl, rfl, rfl⟩ := trodAll_nil r3
  obtain rfl : args = #[v0, v1, v2, v3] := by cases args; simp_all
  obtain ⟨rfl, rfl⟩ := trodVars_none hV
  have lt0 : ∀ x ∈ p0, x.block < W.heap.size := by obtain ⟨m, hm⟩ := k0; exact DataW.trod_lt m _ _ _ hm
  obtain ⟨x0, e0, w0, b0⟩ := X0s (n := 8) (τ := (.list (.pair (.int .i64) (.pair (.pair (.int .u16) (.pair (.int .u16) (.pair (.pair (.int .u32) (.int .u16)) (.pair (.pair .str (.pair (.int .u16) (.int .u16))) (.pair .str (.pair (.int .i64) (.int .u64))))))) (.int .u32))))) (agg := false) (by kernel_rfl) (hval 0 42 v0 rfl rfl) k0 (fun n hn => hsz n (DataW.weights_mem_each (j := 0) (t := 42) rfl rfl n hn)) (by kernel_rfl)
  have lt1 : ∀ x ∈ p1, x.block < W.heap.size := by obtain ⟨m, hm⟩ := k1; exact DataW.trod_lt m _ _ _ hm
  obtain ⟨x1, e1, w1, b1⟩ := X0s (n := 8) (τ := (.pair (.int .u16) (.pair (.int .u16) (.pair (.pair (.int .u32) (.int .u16)) (.pair (.pair .str (.pair (.int .u16) (.int .u16))) (.pair .str (.pair (.int .i64) (.int .u64)))))))) (agg := true) (by kernel_rfl) (hval 1 30 v1 rfl rfl) k1 (fun n hn => hsz n (DataW.weights_mem_each (j := 1) (t := 30) rfl rfl n hn)) (by kernel_rfl)
  have lt2 : ∀ x ∈ p2, x.block < W.heap.size := by obtain ⟨m, hm⟩ := k2; exact DataW.trod_lt m _ _ _ hm
  obtain ⟨x2, e2, w2, b2⟩ := X0s (n := 8) (τ := .int .u32) (agg := false) (by kernel_rfl) (hval 2 22 v2 rfl rfl) k2 (fun n hn => hsz n (DataW.weights_mem_each (j := 2) (t := 22) rfl rfl n hn)) (by kernel_rfl)
  have lt3 : ∀ x ∈ p3, x.block < W.heap.size := by obtain ⟨m, hm⟩ := k3; exact DataW.trod_lt m _ _ _ hm
  obtain ⟨x3, e3, w3, b3⟩ := X0s (n := 8) (τ := .int .u8) (agg := false) (by kernel_rfl) (hval 3 5 v3 rfl rfl) k3 (fun n hn => hsz n (DataW.weights_mem_each (j := 3) (t := 5) rfl rfl n hn)) (by kernel_rfl)
  clear hA0 hval0 hsz0 hsz
  refine (X3e ((fun x0 x1 x2 x3 w0 w1 w2 w3 => sem11 x0 x1 x2 x3 w0 w1 w2) x0 x1 x2 x3 w0 w1 w2 w3) W (vs := [v0, v1, v2, v3]) ?_).mono fun e W' ⟨he, bel⟩ => ?_
  · simp only [V1]
    exact ⟨_, _, rfl, e0, ⟨_, _, rfl, e1, ⟨_, _, rfl, e2, ⟨_, _, rfl, e3, rfl⟩⟩⟩⟩
  subst he
  exact ⟨_, rfl, _, _, _, [], _, [], hW', trodAll_mk1 (shut_bool Try.underlying4 _), (trodAll_cons_mk (Below.trod laidOut (by kernel_rfl) (of_decide_eq_true (by kernel_rfl)) k0 bel lt0) (trodAll_cons_mk (Below.trod laidOut (by kernel_rfl) (of_decide_eq_true (by kernel_rfl)) k1 bel lt1) (trodAll_cons_mk (Below.trod laidOut (by kernel_rfl) (of_decide_eq_true (by kernel_rfl)) k2 bel lt2) (trodAll_cons_mk (Below.trod laidOut (by kernel_rfl) (of_decide_eq_true (by kernel_rfl)) k3 bel lt3) trodAll_mk0)))), rfl, bel.frame _, fun h => by cases h⟩
theorem over : Rows.askForgedRow.holds Try.pinned (OpenSpec.ofChange Rows.askForgedSpec) :=
  OpenClaim.holds_of_wide 11 Try.f11 rfl rfl rfl rfl rfl rfl rfl ⟨rfl, rfl, rfl, rfl, rfl⟩ rfl rfl rfl rfl rfl (by kernel_rfl) Try.func11 (by kernel_rfl)
    (of_decide_eq_true (by kernel_rfl)) (by unfold Func.isWrapper; first | (rw [if_pos (by decide +kernel)]; kernel_rfl) | (rw [if_neg (by decide +kernel)]; exact ⟨rfl, rfl⟩))
    (fun os started H enc _ => lifted os started H enc)
theorem proved : Rows.AskForgedSaid := over
end Go.Proofs.Ytpledbapngdkeaa.askForged
namespace Go.Proofs.Ytpledbapngdkeaa
/-- The row, under a short name, for the claim. -/
theorem askForged_holds : Rows.AskForgedSaid := askForged.proved
#print axioms askForged_holds
end Go.Proofs.Ytpledbapngdkeaa
