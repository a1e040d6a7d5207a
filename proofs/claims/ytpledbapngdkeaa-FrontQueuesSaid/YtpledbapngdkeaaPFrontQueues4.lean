import Derived.Test.YtpledbapngdkeaaPFrontQueues3
import Derived.Test.YtpledbapngdkeaaRows
import Derived.WalkKit
import Derived.ProofKit
import Derived.OpenShut
import Derived.ShutString
import Derived.ChangeOld
import Derived.Below
import Derived.Carry
import Derived.SizedLaws
set_option maxRecDepth 1000000
namespace Go.Proofs.YtpledbapngdkeaaE
open Go Go.Proofs.YtpledbapngdkeaaB
set_option linter.unusedVariables false
set_option linter.unusedSimpArgs false
abbrev DQ : Ty := .pair (.int .i64) (.int .i64)
def os27d : OSpec := { f := 27, sh := [], so := [], F := fun _ _ => .ret ([.bool true], []) }
theorem ok27d : os27d.Ok Try.prog := by
 rintro _ _ r h
 cases h
 exact semD27
def sameI : List Int → List Int → Bool
 | [], [] => true
 | x :: a, y :: b => (x == y) && sameI a b
 | _, _ => false
theorem sameI_iff : ∀ {a b : List Int}, sameI a b = true ↔ a = b
 | [], [] => by simp [sameI]
 | [], y :: b => by simp [sameI]
 | x :: a, [] => by simp [sameI]
 | x :: a, y :: b => by simp only [sameI, Bool.and_eq_true, beq_iff_eq, sameI_iff, List.cons.injEq]
def qiA (xs a : List Int) (k : Int) : Bool := Nat.ble xs.length 1000000 && (sameI a xs && decide (k = 0))
def qiP (xs a : List Int) (off cnt : Nat) (k : Int) : Bool := Nat.ble xs.length 1000000 && (Nat.beq (off + cnt) xs.length && (sameI a (xs.drop off) && decide (k = 0)))
noncomputable def b12ia : Code := nthLoop (nthLoop c12 0) 0
def ls12ia : LoopSpec := { bid := 2, sh := [.d (.int .i64) false, .d (.list DQ) false, .d .bool false, .ptr 0 0, .row 2, .d (.int .i64) false, .d (.list (.int .i64)) false, .d (.int .i64) false], so := [.box [.row 1, .d (.int .i64) false], .row (.int .i64), .row (.int .i64)], F := fun (room, l, up, i, a, k, _) ((room2, _), w, xs, _) => .on (qiA xs a k) (.exit 2, [.int .i64 room, .list DQ l, .dead, .bool up, .ptr 0 0, .rowA 2, .int .i64 i], [.box [.rowA 1, .int .i64 room2], .row IT w, .row IT xs]) }
def r12ia (room : Int) (l : List (Int × Int)) (up : Bool) (i : Int) (a : List Int) (k room2 : Int) (w xs : List Int) : Tr (St ⊕ (Ex × St)) := .br (decide (k < (↑xs.length : Int))) (.br (decide (0 ≤ k)) (.br (decide (k < (↑a.length : Int))) (.br (decide (0 ≤ k)) (.br (decide (k < (↑xs.length : Int))) (.br (a.getD k.toNat (Ty.dflt (Ty.int .i64)) != List.getD xs k.toNat (Ty.dflt (Ty.int .i64))) (.ret (.inr (.ret, stOf [0, 1, 4, 5, 6, 7, 8] [.int .i64 room, .list DQ l, .bool false, .bool up, .ptr 0 0, .rowA 2, .int .i64 i] [.boxT none [.rowA 1, .int .i64 room2], .row (.int .i64) w, .row (.int .i64) xs]))) (.ret (.inl (stOf [0, 1, 5, 6, 7, 8, 12, 13] [.int .i64 room, .list DQ l, .bool up, .ptr 0 0, .rowA 2, .int .i64 i, .list (.int .i64) a, .int .i64 (IntKind.wrap .i64 (k + 1))] [.boxT none [.rowA 1, .int .i64 room2], .row (.int .i64) w, .row (.int .i64) xs])))) .no) .no) .no) .no) (.ret (.inr (.exit 2, stOf [0, 1, 4, 5, 6, 7, 8] [.int .i64 room, .list DQ l, .dead, .bool up, .ptr 0 0, .rowA 2, .int .i64 i] [.boxT none [.rowA 1, .int .i64 room2], .row (.int .i64) w, .row (.int .i64) xs])))
theorem round12ia (lp : Lp) (room : Int) (l : List (Int × Int)) (up : Bool) (i : Int) (a : List Int) (k room2 : Int) (w xs : List Int) : evC T0 (orcB [] [os27d, os39, os40, os40z, os41, os41z, os42, os42z, os43p]) lp b12ia 2 (stOf [0, 1, 5, 6, 7, 8, 12, 13] [.int .i64 room, .list DQ l, .bool up, .ptr 0 0, .rowA 2, .int .i64 i, .list (.int .i64) a, .int .i64 k] [.box [.rowA 1, .int .i64 room2], .row (.int .i64) w, .row (.int .i64) xs]) (roundK [0, 1, 5, 6, 7, 8, 12, 13] [0, 1, 4, 5, 6, 7, 8] 0) = (r12ia room l up i a k room2 w xs).get := by kernel_rfl
theorem wf12ia (room : Int) (l : List (Int × Int)) (up : Bool) (i : Int) (a : List Int) (room2 : Int) (w xs : List Int) (I'' : Int → Prop) (m'' : Int → Nat) (r'' : Ex × St) (h : ∀ (k : Int), I'' k → (r12ia room l up i a k room2 w xs).all fun x'' => x'' = .inr r'' ∨ ∃ (k' : Int), x'' = .inl (stOf [0, 1, 5, 6, 7, 8, 12, 13] [.int .i64 room, .list DQ l, .bool up, .ptr 0 0, .rowA 2, .int .i64 i, .list (.int .i64) a, .int .i64 k'] [.box [.rowA 1, .int .i64 room2], .row (.int .i64) w, .row (.int .i64) xs]) ∧ I'' k' ∧ m'' k' < m'' k) (lp : Lp) (k : Int) : I'' k →
    loopF (fun st => evC T0 (orcB [] [os27d, os39, os40, os40z, os41, os41z, os42, os42z, os43p]) lp b12ia 2 st (roundK [0, 1, 5, 6, 7, 8, 12, 13] [0, 1, 4, 5, 6, 7, 8] 0)) (stOf [0, 1, 5, 6, 7, 8, 12, 13] [.int .i64 room, .list DQ l, .bool up, .ptr 0 0, .rowA 2, .int .i64 i, .list (.int .i64) a, .int .i64 k] [.box [.rowA 1, .int .i64 room2], .row (.int .i64) w, .row (.int .i64) xs]) = some r'' :=
 loop_tr (fun a'' : Int => stOf [0, 1, 5, 6, 7, 8, 12, 13] [.int .i64 room, .list DQ l, .bool up, .ptr 0 0, .rowA 2, .int .i64 i, .list (.int .i64) a, .int .i64 a''] [.box [.rowA 1, .int .i64 room2], .row (.int .i64) w, .row (.int .i64) xs]) (fun a'' => I'' a'') (fun a'' => m'' a'') r'' (fun a'' => r12ia room l up i a a'' room2 w xs)
  (fun a'' x hx => (round12ia lp room l up i a a'' room2 w xs).trans hx) (fun a'' ha => Tr.all_mono (fun x'' hx => hx.imp id fun ⟨k', h1, h2, h3⟩ => ⟨(k'), h1, h2, h3⟩) (h (a'') ha)) (k)
noncomputable def b12ip : Code := nthLoop (nthLoop c12 0) 0
def ls12ip : LoopSpec := { bid := 2, sh := [.d (.int .i64) false, .d (.list DQ) false, .d .bool false, .ptr 0 0, .rowP 2, .d (.int .i64) false, .d (.list (.int .i64)) false, .d (.int .i64) false], so := [.box [.row 1, .d (.int .i64) false], .row (.int .i64), .row (.int .i64)], F := fun (room, l, up, (off, cnt), i, a, k, _) ((room2, _), w, xs, _) => .on (qiP xs a off cnt k) (.exit 2, [.int .i64 room, .list DQ l, .dead, .bool up, .ptr 0 0, .rowS 2 off cnt false, .int .i64 i], [.box [.rowA 1, .int .i64 room2], .row IT w, .row IT xs]) }
def r12ip (room : Int) (l : List (Int × Int)) (up : Bool) (off cnt : Nat) (i : Int) (a : List Int) (k room2 : Int) (w xs : List Int) : Tr (St ⊕ (Ex × St)) := .br (decide (k < (↑cnt : Int))) (.br (decide (0 ≤ k)) (.br (decide (k < (↑a.length : Int))) (.br (decide (0 ≤ k)) (.br (decide (k < (↑cnt : Int))) (.br (a.getD k.toNat (Ty.dflt (Ty.int .i64)) != List.getD xs (off + Int.toNat k) (Ty.dflt (Ty.int .i64))) (.ret (.inr (.ret, stOf [0, 1, 4, 5, 6, 7, 8] [.int .i64 room, .list DQ l, .bool false, .bool up, .ptr 0 0, .rowS 2 off cnt false, .int .i64 i] [.boxT none [.rowA 1, .int .i64 room2], .row (.int .i64) w, .row (.int .i64) xs]))) (.ret (.inl (stOf [0, 1, 5, 6, 7, 8, 12, 13] [.int .i64 room, .list DQ l, .bool up, .ptr 0 0, .rowS 2 off cnt false, .int .i64 i, .list (.int .i64) a, .int .i64 (IntKind.wrap .i64 (k + 1))] [.boxT none [.rowA 1, .int .i64 room2], .row (.int .i64) w, .row (.int .i64) xs])))) .no) .no) .no) .no) (.ret (.inr (.exit 2, stOf [0, 1, 4, 5, 6, 7, 8] [.int .i64 room, .list DQ l, .dead, .bool up, .ptr 0 0, .rowS 2 off cnt false, .int .i64 i] [.boxT none [.rowA 1, .int .i64 room2], .row (.int .i64) w, .row (.int .i64) xs])))
theorem round12ip (lp : Lp) (room : Int) (l : List (Int × Int)) (up : Bool) (off cnt : Nat) (i : Int) (a : List Int) (k room2 : Int) (w xs : List Int) : evC T0 (orcB [] [os27d, os39, os40, os40z, os41, os41z, os42, os42z, os43p]) lp b12ip 2 (stOf [0, 1, 5, 6, 7, 8, 12, 13] [.int .i64 room, .list DQ l, .bool up, .ptr 0 0, .rowS 2 off cnt false, .int .i64 i, .list (.int .i64) a, .int .i64 k] [.box [.rowA 1, .int .i64 room2], .row (.int .i64) w, .row (.int .i64) xs]) (roundK [0, 1, 5, 6, 7, 8, 12, 13] [0, 1, 4, 5, 6, 7, 8] 0) = (r12ip room l up off cnt i a k room2 w xs).get := by kernel_rfl
theorem wf12ip (room : Int) (l : List (Int × Int)) (up : Bool) (off cnt : Nat) (i : Int) (a : List Int) (room2 : Int) (w xs : List Int) (I'' : Int → Prop) (m'' : Int → Nat) (r'' : Ex × St) (h : ∀ (k : Int), I'' k → (r12ip room l up off cnt i a k room2 w xs).all fun x'' => x'' = .inr r'' ∨ ∃ (k' : Int), x'' = .inl (stOf [0, 1, 5, 6, 7, 8, 12, 13] [.int .i64 room, .list DQ l, .bool up, .ptr 0 0, .rowS 2 off cnt false, .int .i64 i, .list (.int .i64) a, .int .i64 k'] [.box [.rowA 1, .int .i64 room2], .row (.int .i64) w, .row (.int .i64) xs]) ∧ I'' k' ∧ m'' k' < m'' k) (lp : Lp) (k : Int) : I'' k →
    loopF (fun st => evC T0 (orcB [] [os27d, os39, os40, os40z, os41, os41z, os42, os42z, os43p]) lp b12ip 2 st (roundK [0, 1, 5, 6, 7, 8, 12, 13] [0, 1, 4, 5, 6, 7, 8] 0)) (stOf [0, 1, 5, 6, 7, 8, 12, 13] [.int .i64 room, .list DQ l, .bool up, .ptr 0 0, .rowS 2 off cnt false, .int .i64 i, .list (.int .i64) a, .int .i64 k] [.box [.rowA 1, .int .i64 room2], .row (.int .i64) w, .row (.int .i64) xs]) = some r'' :=
 loop_tr (fun a'' : Int => stOf [0, 1, 5, 6, 7, 8, 12, 13] [.int .i64 room, .list DQ l, .bool up, .ptr 0 0, .rowS 2 off cnt false, .int .i64 i, .list (.int .i64) a, .int .i64 a''] [.box [.rowA 1, .int .i64 room2], .row (.int .i64) w, .row (.int .i64) xs]) (fun a'' => I'' a'') (fun a'' => m'' a'') r'' (fun a'' => r12ip room l up off cnt i a a'' room2 w xs)
  (fun a'' x hx => (round12ip lp room l up off cnt i a a'' room2 w xs).trans hx) (fun a'' ha => Tr.all_mono (fun x'' hx => hx.imp id fun ⟨k', h1, h2, h3⟩ => ⟨(k'), h1, h2, h3⟩) (h (a'') ha)) (k)
theorem loop12ia : ls12ia.Ok T0 (orcB [] [os27d, os39, os40, os40z, os41, os41z, os42, os42z, os43p]) h12 0 0 b12ia := by
 intro q'' hq'' x'' y'' r'' h
 obtain ⟨(room : Int), (l : List (Int × Int)), (up : Bool), (i : Int), (a : List Int), (k : Int), _⟩ := x''
 obtain ⟨⟨(room2 : Int), _⟩, (w : List Int), (xs : List Int), _⟩ := y''
 obtain ⟨hc, rfl⟩ := Tr.get_on h
 show loopF (fun st => evC T0 (orcB [] [os27d, os39, os40, os40z, os41, os41z, os42, os42z, os43p]) (lpN T0 (orcB [] [os27d, os39, os40, os40z, os41, os41z, os42, os42z, os43p]) h12 0 q'') b12ia 2 st (roundK [0, 1, 5, 6, 7, 8, 12, 13] [0, 1, 4, 5, 6, 7, 8] 0)) (stOf [0, 1, 5, 6, 7, 8, 12, 13] [.int .i64 room, .list DQ l, .bool up, .ptr 0 0, .rowA 2, .int .i64 i, .list (.int .i64) a, .int .i64 k] [.box [.rowA 1, .int .i64 room2], .row (.int .i64) w, .row (.int .i64) xs]) = some (.exit 2, stOf [0, 1, 4, 5, 6, 7, 8] ([.int .i64 room, .list DQ l, .dead, .bool up, .ptr 0 0, .rowA 2, .int .i64 i]) ([.box [.rowA 1, .int .i64 room2], .row IT w, .row IT xs]))
 simp only [qiA, Bool.and_eq_true, decide_eq_true_eq] at hc
 obtain ⟨hl, ha, rfl⟩ := hc
 have hl := Nat.le_of_ble_eq_true hl
 obtain rfl := sameI_iff.1 ha
 refine wf12ia room l up i a room2 w a (fun k => 0 ≤ k ∧ k ≤ a.length) (fun k => (a.length - k).toNat) _ ?_ _ 0 ⟨by omega, by omega⟩
 rintro k ⟨h0, h1⟩
 unfold r12ia
 rw [wrap_succ h0 h1 (by omega)]
 by_cases hk : k < a.length
 · exact Tr.all_t (dec_true hk) (Tr.all_t (dec_true h0) (Tr.all_t (dec_true hk) (Tr.all_t (dec_true h0) (Tr.all_t (dec_true hk) (Tr.all_f (by simp) (Tr.all_ret (.inr ⟨_, rfl, ⟨by omega, by omega⟩, by omega⟩)))))))
 · exact Tr.all_f (dec_false hk) (Tr.all_ret (.inl rfl))
theorem loop12ip : ls12ip.Ok T0 (orcB [] [os27d, os39, os40, os40z, os41, os41z, os42, os42z, os43p]) h12 0 0 b12ip := by
 intro q'' hq'' x'' y'' r'' h
 obtain ⟨(room : Int), (l : List (Int × Int)), (up : Bool), ⟨(off : Nat), (cnt : Nat)⟩, (i : Int), (a : List Int), (k : Int), _⟩ := x''
 obtain ⟨⟨(room2 : Int), _⟩, (w : List Int), (xs : List Int), _⟩ := y''
 obtain ⟨hc, rfl⟩ := Tr.get_on h
 show loopF (fun st => evC T0 (orcB [] [os27d, os39, os40, os40z, os41, os41z, os42, os42z, os43p]) (lpN T0 (orcB [] [os27d, os39, os40, os40z, os41, os41z, os42, os42z, os43p]) h12 0 q'') b12ip 2 st (roundK [0, 1, 5, 6, 7, 8, 12, 13] [0, 1, 4, 5, 6, 7, 8] 0)) (stOf [0, 1, 5, 6, 7, 8, 12, 13] [.int .i64 room, .list DQ l, .bool up, .ptr 0 0, .rowS 2 off cnt false, .int .i64 i, .list (.int .i64) a, .int .i64 k] [.box [.rowA 1, .int .i64 room2], .row (.int .i64) w, .row (.int .i64) xs]) = some (.exit 2, stOf [0, 1, 4, 5, 6, 7, 8] ([.int .i64 room, .list DQ l, .dead, .bool up, .ptr 0 0, .rowS 2 off cnt false, .int .i64 i]) ([.box [.rowA 1, .int .i64 room2], .row IT w, .row IT xs]))
 simp only [qiP, Bool.and_eq_true, decide_eq_true_eq] at hc
 obtain ⟨hl, hn, ha, rfl⟩ := hc
 have hl := Nat.le_of_ble_eq_true hl
 have hn := Nat.eq_of_beq_eq_true hn
 obtain rfl := sameI_iff.1 ha
 have hlen : (xs.drop off).length = cnt := by rw [List.length_drop]; omega
 refine wf12ip room l up off cnt i (xs.drop off) room2 w xs (fun k => 0 ≤ k ∧ k ≤ cnt) (fun k => (cnt - k).toNat) _ ?_ _ 0 ⟨by omega, by omega⟩
 rintro k ⟨h0, h1⟩
 unfold r12ip
 rw [wrap_succ h0 h1 (by omega)]
 by_cases hk : k < cnt
 · refine Tr.all_t (dec_true hk) (Tr.all_t (dec_true h0) (Tr.all_t (dec_true (by omega)) (Tr.all_t (dec_true h0) (Tr.all_t (dec_true hk) (Tr.all_f ?_ (Tr.all_ret (.inr ⟨_, rfl, ⟨by omega, by omega⟩, by omega⟩)))))))
   have : List.getD (xs.drop off) k.toNat (Ty.dflt (.int .i64)) = List.getD xs (off + k.toNat) (Ty.dflt (.int .i64)) := by
    rw [List.getD_eq_getElem?_getD, List.getElem?_drop, ← List.getD_eq_getElem?_getD]
   rw [this]
   simp
 · exact Tr.all_f (dec_false hk) (Tr.all_ret (.inl rfl))
def qoA (room room2 : Int) (w xs : List Int) (i : Int) : Bool := decide (room = room2) && (decide (1 ≤ room) && (decide (w = []) && (decide (xs = []) && decide (i = 0))))
noncomputable def b12oa : Code := nthLoop c12 0
def ls12oa : LoopSpec := { bid := 0, sh := [.d (.int .i64) false, .d (.list DQ) false, .d .bool false, .ptr 0 0, .row 2, .d (.int .i64) false], so := [.box [.row 1, .d (.int .i64) false], .row (.int .i64), .row (.int .i64)], F := fun (room, l, up, i, _) ((room2, _), w, xs, _) => .on (qoA room room2 w xs i) (.exit 0, [.dead, .bool up], []) }
def r12oa (room : Int) (l : List (Int × Int)) (up : Bool) (i room2 : Int) (w xs : List Int) : Tr (St ⊕ (Ex × St)) := .br (decide (i < (↑l.length : Int))) (.br (decide (i < 300)) (.br (decide (0 ≤ i)) (.br (decide (i < (↑l.length : Int))) (.br ((l.getD i.toNat (Ty.dflt DQ)).1 == 0) (.br (decide (0 ≤ i)) (.br (decide (i < (↑l.length : Int))) (.br (decide ((↑w.length : Int) ≥ room2)) (.br (!false == decide ((↑xs.length : Int) < room)) (.ret (.inr (.ret, stOf [4, 5] [.bool false, .bool up] []))) (.br (fits w.length 8) (.br ((↑w.length : Int) != (↑xs.length : Int)) (.ret (.inr (.ret, stOf [4, 5] [.bool false, .bool up] []))) (.br ((↑w.length : Int) != (↑xs.length : Int)) (.ret (.inr (.ret, stOf [4, 5] [.bool false, .bool up] []))) (.br (decide ((↑xs.length : Int) > room)) (.ret (.inr (.ret, stOf [4, 5] [.bool false, .bool up] []))) (.br (qiA xs w 0) (.ret (.inl (stOf [0, 1, 5, 6, 7, 8] [.int .i64 room, .list DQ l, .bool up, .ptr 0 0, .rowA 2, .int .i64 (IntKind.wrap .i64 (i + 1))] [.boxT none [.rowA 1, .int .i64 room2], .row (.int .i64) w, .row (.int .i64) xs]))) .no)))) .no)) (.br (fits (List.length w + 1) 8) (.br (!true == decide ((↑xs.length : Int) < room)) (.ret (.inr (.ret, stOf [4, 5] [.bool false, .bool up] []))) (.br (decide (0 ≤ i)) (.br (decide (i < (↑l.length : Int))) (.br (fits (List.length xs + 1) 8) (.br (fits (List.length (w ++ [(l.getD i.toNat (Ty.dflt DQ)).2])) 8) (.br ((↑(List.length (w ++ [(l.getD i.toNat (Ty.dflt DQ)).2])) : Int) != (↑(List.length (xs ++ [(l.getD i.toNat (Ty.dflt DQ)).2])) : Int)) (.ret (.inr (.ret, stOf [4, 5] [.bool false, .bool up] []))) (.br ((↑(List.length (w ++ [(l.getD i.toNat (Ty.dflt DQ)).2])) : Int) != (↑(List.length (xs ++ [(l.getD i.toNat (Ty.dflt DQ)).2])) : Int)) (.ret (.inr (.ret, stOf [4, 5] [.bool false, .bool up] []))) (.br (decide ((↑(List.length (xs ++ [(l.getD i.toNat (Ty.dflt DQ)).2])) : Int) > room)) (.ret (.inr (.ret, stOf [4, 5] [.bool false, .bool up] []))) (.br (qiA (xs ++ [(l.getD i.toNat (Ty.dflt DQ)).2]) (w ++ [(l.getD i.toNat (Ty.dflt DQ)).2]) 0) (.ret (.inl (stOf [0, 1, 5, 6, 7, 8] [.int .i64 room, .list DQ l, .bool up, .ptr 0 0, .rowA 2, .int .i64 (IntKind.wrap .i64 (i + 1))] [.boxT none [.rowA 1, .int .i64 room2], .row (.int .i64) (w ++ [(l.getD i.toNat (Ty.dflt DQ)).2]), .row (.int .i64) (xs ++ [(l.getD i.toNat (Ty.dflt DQ)).2])]))) .no)))) .no) .no) .no) .no)) .no)) .no) .no) (.br ((↑w.length : Int) == 0) (.br (!false == decide ((↑xs.length : Int) > 0)) (.ret (.inr (.ret, stOf [4, 5] [.bool false, .bool up] []))) (.br (fits w.length 8) (.br ((↑w.length : Int) != (↑xs.length : Int)) (.ret (.inr (.ret, stOf [4, 5] [.bool false, .bool up] []))) (.br ((↑w.length : Int) != (↑xs.length : Int)) (.ret (.inr (.ret, stOf [4, 5] [.bool false, .bool up] []))) (.br (decide ((↑xs.length : Int) > room)) (.ret (.inr (.ret, stOf [4, 5] [.bool false, .bool up] []))) (.br (qiA xs w 0) (.ret (.inl (stOf [0, 1, 5, 6, 7, 8] [.int .i64 room, .list DQ l, .bool up, .ptr 0 0, .rowA 2, .int .i64 (IntKind.wrap .i64 (i + 1))] [.boxT none [.rowA 1, .int .i64 room2], .row (.int .i64) w, .row (.int .i64) xs]))) .no)))) .no)) (.br (!true == decide ((↑xs.length : Int) > 0)) (.ret (.inr (.ret, stOf [4, 5] [.bool false, .bool up] []))) (.br (decide (0 < (↑xs.length : Int))) (.br (w.getD 0 0 != List.getD xs (Int.toNat 0) (Ty.dflt (Ty.int .i64))) (.ret (.inr (.ret, stOf [4, 5] [.bool false, .bool up] []))) (.br (decide (0 ≤ (↑xs.length : Int)) && decide ((↑xs.length : Int) ≤ (↑xs.length : Int))) (.br (decide (0 ≤ 1) && decide (1 ≤ (↑xs.length : Int))) (.br (fits (List.length (List.drop 1 w)) 8) (.br ((↑(List.length (List.drop 1 w)) : Int) != (↑(Int.toNat (↑xs.length : Int) - Int.toNat 1) : Int)) (.ret (.inr (.ret, stOf [4, 5] [.bool false, .bool up] []))) (.br ((↑(List.length (List.drop 1 w)) : Int) != (↑(Int.toNat (↑xs.length : Int) - Int.toNat 1) : Int)) (.ret (.inr (.ret, stOf [4, 5] [.bool false, .bool up] []))) (.br (decide ((↑(Int.toNat (↑xs.length : Int) - Int.toNat 1) : Int) > room)) (.ret (.inr (.ret, stOf [4, 5] [.bool false, .bool up] []))) (.br (qiP xs (List.drop 1 w) (Int.toNat 1) (Int.toNat (↑xs.length : Int) - Int.toNat 1) 0) (.ret (.inl (stOf [0, 1, 5, 6, 7, 8] [.int .i64 room, .list DQ l, .bool up, .ptr 0 0, .rowS 2 1 (Int.toNat (↑xs.length : Int) - Int.toNat 1) false, .int .i64 (IntKind.wrap .i64 (i + 1))] [.boxT none [.rowA 1, .int .i64 room2], .row (.int .i64) (List.drop 1 w), .row (.int .i64) xs]))) .no)))) .no) .no) .no)) .no)))) .no) .no) (.ret (.inr (.exit 0, stOf [4, 5] [.dead, .bool up] [])))) (.ret (.inr (.exit 0, stOf [4, 5] [.dead, .bool up] [])))
theorem round12oa (room : Int) (l : List (Int × Int)) (up : Bool) (i room2 : Int) (w xs : List Int) : evC T0 (orcB [] [os27d, os39, os40, os40z, os41, os41z, os42, os42z, os43p]) (lpOf h12 0 (lsOr 2 [ls12ia, ls12ip])) b12oa 0 (stOf [0, 1, 5, 6, 7, 8] [.int .i64 room, .list DQ l, .bool up, .ptr 0 0, .rowA 2, .int .i64 i] [.box [.rowA 1, .int .i64 room2], .row (.int .i64) w, .row (.int .i64) xs]) (roundK [0, 1, 5, 6, 7, 8] [4, 5] 0) = (r12oa room l up i room2 w xs).get := by kernel_rfl
noncomputable def b12op : Code := nthLoop c12 0
def r12op (room : Int) (l : List (Int × Int)) (up : Bool) (off cnt : Nat) (i room2 : Int) (w xs : List Int) : Tr (St ⊕ (Ex × St)) := .br (decide (i < (↑l.length : Int))) (.br (decide (i < 300)) (.br (decide (0 ≤ i)) (.br (decide (i < (↑l.length : Int))) (.br ((l.getD i.toNat (Ty.dflt DQ)).1 == 0) (.br (decide (0 ≤ i)) (.br (decide (i < (↑l.length : Int))) (.br (decide ((↑w.length : Int) ≥ room2)) (.br (!false == decide ((↑cnt : Int) < room)) (.ret (.inr (.ret, stOf [4, 5] [.bool false, .bool up] []))) (.br (fits w.length 8) (.br ((↑w.length : Int) != (↑cnt : Int)) (.ret (.inr (.ret, stOf [4, 5] [.bool false, .bool up] []))) (.br ((↑w.length : Int) != (↑cnt : Int)) (.ret (.inr (.ret, stOf [4, 5] [.bool false, .bool up] []))) (.br (decide ((↑cnt : Int) > room)) (.ret (.inr (.ret, stOf [4, 5] [.bool false, .bool up] []))) (.br (qiP xs w off cnt 0) (.ret (.inl (stOf [0, 1, 5, 6, 7, 8] [.int .i64 room, .list DQ l, .bool up, .ptr 0 0, .rowS 2 off cnt false, .int .i64 (IntKind.wrap .i64 (i + 1))] [.boxT none [.rowA 1, .int .i64 room2], .row (.int .i64) w, .row (.int .i64) xs]))) .no)))) .no)) (.br (fits (List.length w + 1) 8) (.br (!true == decide ((↑cnt : Int) < room)) (.ret (.inr (.ret, stOf [4, 5] [.bool false, .bool up] []))) (.br (decide (0 ≤ i)) (.br (decide (i < (↑l.length : Int))) (.br (fits (cnt + 1) 8) (.br (false || decide (List.length xs < off + cnt + 1)) (.br (fits (List.length (w ++ [(l.getD i.toNat (Ty.dflt DQ)).2])) 8) (.br ((↑(List.length (w ++ [(l.getD i.toNat (Ty.dflt DQ)).2])) : Int) != (↑(List.length (List.take cnt (List.drop off xs) ++ [(l.getD i.toNat (Ty.dflt DQ)).2])) : Int)) (.ret (.inr (.ret, stOf [4, 5] [.bool false, .bool up] []))) (.br ((↑(List.length (w ++ [(l.getD i.toNat (Ty.dflt DQ)).2])) : Int) != (↑(List.length (List.take cnt (List.drop off xs) ++ [(l.getD i.toNat (Ty.dflt DQ)).2])) : Int)) (.ret (.inr (.ret, stOf [4, 5] [.bool false, .bool up] []))) (.br (decide ((↑(List.length (List.take cnt (List.drop off xs) ++ [(l.getD i.toNat (Ty.dflt DQ)).2])) : Int) > room)) (.ret (.inr (.ret, stOf [4, 5] [.bool false, .bool up] []))) (.br (qiA (List.take cnt (List.drop off xs) ++ [(l.getD i.toNat (Ty.dflt DQ)).2]) (w ++ [(l.getD i.toNat (Ty.dflt DQ)).2]) 0) (.ret (.inl (stOf [0, 1, 5, 6, 7, 8] [.int .i64 room, .list DQ l, .bool up, .ptr 0 0, .rowA 2, .int .i64 (IntKind.wrap .i64 (i + 1))] [.boxT none [.rowA 1, .int .i64 room2], .row (.int .i64) (w ++ [(l.getD i.toNat (Ty.dflt DQ)).2]), .row (.int .i64) (List.take cnt (List.drop off xs) ++ [(l.getD i.toNat (Ty.dflt DQ)).2])]))) .no)))) .no) (.br (fits (List.length (w ++ [(l.getD i.toNat (Ty.dflt DQ)).2])) 8) (.br ((↑(List.length (w ++ [(l.getD i.toNat (Ty.dflt DQ)).2])) : Int) != (↑(cnt + 1) : Int)) (.ret (.inr (.ret, stOf [4, 5] [.bool false, .bool up] []))) (.br ((↑(List.length (w ++ [(l.getD i.toNat (Ty.dflt DQ)).2])) : Int) != (↑(cnt + 1) : Int)) (.ret (.inr (.ret, stOf [4, 5] [.bool false, .bool up] []))) (.br (decide ((↑(cnt + 1) : Int) > room)) (.ret (.inr (.ret, stOf [4, 5] [.bool false, .bool up] []))) (.br (qiP (List.take (off + cnt) xs ++ [(l.getD i.toNat (Ty.dflt DQ)).2] ++ List.drop (off + cnt + 1) xs) (w ++ [(l.getD i.toNat (Ty.dflt DQ)).2]) off (cnt + 1) 0) (.ret (.inl (stOf [0, 1, 5, 6, 7, 8] [.int .i64 room, .list DQ l, .bool up, .ptr 0 0, .rowS 2 off (cnt + 1) false, .int .i64 (IntKind.wrap .i64 (i + 1))] [.boxT none [.rowA 1, .int .i64 room2], .row (.int .i64) (w ++ [(l.getD i.toNat (Ty.dflt DQ)).2]), .row (.int .i64) (List.take (off + cnt) xs ++ [(l.getD i.toNat (Ty.dflt DQ)).2] ++ List.drop (off + cnt + 1) xs)]))) .no)))) .no)) .no) .no) .no)) .no)) .no) .no) (.br ((↑w.length : Int) == 0) (.br (!false == decide ((↑cnt : Int) > 0)) (.ret (.inr (.ret, stOf [4, 5] [.bool false, .bool up] []))) (.br (fits w.length 8) (.br ((↑w.length : Int) != (↑cnt : Int)) (.ret (.inr (.ret, stOf [4, 5] [.bool false, .bool up] []))) (.br ((↑w.length : Int) != (↑cnt : Int)) (.ret (.inr (.ret, stOf [4, 5] [.bool false, .bool up] []))) (.br (decide ((↑cnt : Int) > room)) (.ret (.inr (.ret, stOf [4, 5] [.bool false, .bool up] []))) (.br (qiP xs w off cnt 0) (.ret (.inl (stOf [0, 1, 5, 6, 7, 8] [.int .i64 room, .list DQ l, .bool up, .ptr 0 0, .rowS 2 off cnt false, .int .i64 (IntKind.wrap .i64 (i + 1))] [.boxT none [.rowA 1, .int .i64 room2], .row (.int .i64) w, .row (.int .i64) xs]))) .no)))) .no)) (.br (!true == decide ((↑cnt : Int) > 0)) (.ret (.inr (.ret, stOf [4, 5] [.bool false, .bool up] []))) (.br (decide (0 < (↑cnt : Int))) (.br (w.getD 0 0 != List.getD xs (off + Int.toNat 0) (Ty.dflt (Ty.int .i64))) (.ret (.inr (.ret, stOf [4, 5] [.bool false, .bool up] []))) (.br (decide (0 ≤ (↑cnt : Int)) && decide ((↑cnt : Int) ≤ (↑cnt : Int))) (.br (decide (0 ≤ 1) && decide (1 ≤ (↑cnt : Int))) (.br (fits (List.length (List.drop 1 w)) 8) (.br ((↑(List.length (List.drop 1 w)) : Int) != (↑(Int.toNat (↑cnt : Int) - Int.toNat 1) : Int)) (.ret (.inr (.ret, stOf [4, 5] [.bool false, .bool up] []))) (.br ((↑(List.length (List.drop 1 w)) : Int) != (↑(Int.toNat (↑cnt : Int) - Int.toNat 1) : Int)) (.ret (.inr (.ret, stOf [4, 5] [.bool false, .bool up] []))) (.br (decide ((↑(Int.toNat (↑cnt : Int) - Int.toNat 1) : Int) > room)) (.ret (.inr (.ret, stOf [4, 5] [.bool false, .bool up] []))) (.br (qiP xs (List.drop 1 w) (off + Int.toNat 1) (Int.toNat (↑cnt : Int) - Int.toNat 1) 0) (.ret (.inl (stOf [0, 1, 5, 6, 7, 8] [.int .i64 room, .list DQ l, .bool up, .ptr 0 0, .rowS 2 (off + Int.toNat 1) (Int.toNat (↑cnt : Int) - Int.toNat 1) false, .int .i64 (IntKind.wrap .i64 (i + 1))] [.boxT none [.rowA 1, .int .i64 room2], .row (.int .i64) (List.drop 1 w), .row (.int .i64) xs]))) .no)))) .no) .no) .no)) .no)))) .no) .no) (.ret (.inr (.exit 0, stOf [4, 5] [.dead, .bool up] [])))) (.ret (.inr (.exit 0, stOf [4, 5] [.dead, .bool up] [])))
theorem round12op (room : Int) (l : List (Int × Int)) (up : Bool) (off cnt : Nat) (i room2 : Int) (w xs : List Int) : evC T0 (orcB [] [os27d, os39, os40, os40z, os41, os41z, os42, os42z, os43p]) (lpOf h12 0 (lsOr 2 [ls12ia, ls12ip])) b12op 0 (stOf [0, 1, 5, 6, 7, 8] [.int .i64 room, .list DQ l, .bool up, .ptr 0 0, .rowS 2 off cnt false, .int .i64 i] [.box [.rowA 1, .int .i64 room2], .row (.int .i64) w, .row (.int .i64) xs]) (roundK [0, 1, 5, 6, 7, 8] [4, 5] 0) = (r12op room l up off cnt i room2 w xs).get := by kernel_rfl
abbrev QSt := Option (Nat × Nat) × (Int × (List Int × List Int))
def mkQ (room : Int) (l : List (Int × Int)) (up : Bool) (room2 : Int) : QSt → St
 | (none, i, w, xs) => stOf [0, 1, 5, 6, 7, 8] [.int .i64 room, .list DQ l, .bool up, .ptr 0 0, .rowA 2, .int .i64 i] [.box [.rowA 1, .int .i64 room2], .row (.int .i64) w, .row (.int .i64) xs]
 | (some (off, cnt), i, w, xs) => stOf [0, 1, 5, 6, 7, 8] [.int .i64 room, .list DQ l, .bool up, .ptr 0 0, .rowS 2 off cnt false, .int .i64 i] [.box [.rowA 1, .int .i64 room2], .row (.int .i64) w, .row (.int .i64) xs]
def trQ (room : Int) (l : List (Int × Int)) (up : Bool) (room2 : Int) : QSt → Tr (St ⊕ (Ex × St))
 | (none, i, w, xs) => r12oa room l up i room2 w xs
 | (some (off, cnt), i, w, xs) => r12op room l up off cnt i room2 w xs
def prtQ : Option (Nat × Nat) → List Int → List Int → Prop
 | none, w, xs => xs = w
 | some (off, cnt), w, xs => off + cnt = xs.length ∧ xs.drop off = w
def invQ (room : Int) (a : QSt) : Prop := 0 ≤ a.2.1 ∧ a.2.1 ≤ 300 ∧ (a.2.2.1.length : Int) ≤ a.2.1 ∧ (a.2.2.1.length : Int) ≤ room ∧ (a.2.2.2.length : Int) ≤ a.2.1 ∧ prtQ a.1 a.2.2.1 a.2.2.2
def meaQ (a : QSt) : Nat := (300 - a.2.1).toNat
theorem tailQ {α : Type} {P : α → Prop} {f b1 b3 q : Bool} {n1 n2 n3 x : α} (hf : f = true) (h1 : b1 = false) (h3 : b3 = false) (hq : q = true) (hx : P x) : (Tr.br f (Tr.br b1 (Tr.ret n1) (Tr.br b1 (Tr.ret n2) (Tr.br b3 (Tr.ret n3) (Tr.br q (Tr.ret x) Tr.no)))) Tr.no).all P :=
 Tr.all_t hf (Tr.all_f h1 (Tr.all_f h1 (Tr.all_f h3 (Tr.all_t hq (Tr.all_ret hx)))))
theorem bne_len {a b : Nat} (h : a = b) : ((a : Int) != (b : Int)) = false := by subst h; simp
theorem qiA_ok {w : List Int} (h : w.length ≤ 300) : qiA w w 0 = true := by
 rw [qiA, Nat.ble_eq_true_of_le (by omega), sameI_iff.2 rfl]
 rfl
theorem qiP_ok {xs w : List Int} {off cnt : Nat} (h : xs.length ≤ 300) (hn : off + cnt = xs.length) (hw : xs.drop off = w) : qiP xs w off cnt 0 = true := by
 rw [qiP, Nat.ble_eq_true_of_le (by omega), sameI_iff.2 hw.symm, show Nat.beq (off + cnt) xs.length = true by rw [hn]; exact Nat.beq_refl _]
 rfl
theorem fits8 {n : Nat} (h : n ≤ 1000) : fits n 8 = true := fits_true (by omega) (by omega)
theorem getD_drop (xs : List Int) (off k : Nat) (d : Int) : List.getD (xs.drop off) k d = List.getD xs (off + k) d := by
 rw [List.getD_eq_getElem?_getD, List.getElem?_drop, ← List.getD_eq_getElem?_getD]
theorem roundQ {room : Int} {l : List (Int × Int)} {up : Bool} (hr : 1 ≤ room) (a : QSt) (ha : invQ room a) : (trQ room l up room a).all fun x => x = .inr (.exit 0, stOf [4, 5] [.dead, .bool up] []) ∨ ∃ a', x = .inl (mkQ room l up room a') ∧ invQ room a' ∧ meaQ a' < meaQ a := by
 obtain ⟨s, i, w, xs⟩ := a
 obtain ⟨h0, h1, hw, hwr, hx, hp⟩ := ha
 simp only at h0 h1 hw hwr hx hp
 have hwr' : IntKind.wrap IntKind.i64 (i + 1) = i + 1 := IntWalk.i64_in _ (by omega)
 have hm : ∀ a' : QSt, a'.2.1 = i + 1 → i < 300 → meaQ a' < meaQ (s, i, w, xs) := fun a' h hi => by
  unfold meaQ
  rw [h]
  show (300 - (i + 1)).toNat < (300 - i).toNat
  omega
 have h300 : w.length ≤ 300 := by omega
 cases s with
 | none =>
   have hp : xs = w := hp
   subst hp
   show (r12oa room l up i room xs xs).all _
   unfold r12oa
   rw [hwr']
   by_cases hi : i < l.length
   · by_cases hj : i < 300
     · have hsame : ∃ a' : QSt, (Sum.inl (stOf [0, 1, 5, 6, 7, 8] [.int .i64 room, .list DQ l, .bool up, .ptr 0 0, .rowA 2, .int .i64 (i + 1)] [.box [.rowA 1, .int .i64 room], .row (.int .i64) xs, .row (.int .i64) xs]) : St ⊕ (Ex × St)) = .inl (mkQ room l up room a') ∧ invQ room a' ∧ meaQ a' < meaQ (none, i, xs, xs) :=
         ⟨(none, i + 1, xs, xs), rfl, ⟨by show 0 ≤ i + 1; omega, by show i + 1 ≤ 300; omega, by show (xs.length : Int) ≤ i + 1; omega, hwr, by show (xs.length : Int) ≤ i + 1; omega, rfl⟩, hm _ rfl hj⟩
       refine Tr.all_t (dec_true hi) (Tr.all_t (dec_true hj) (Tr.all_t (dec_true h0) (Tr.all_t (dec_true hi) ?_)))
       generalize List.getD l i.toNat (Ty.dflt DQ) = x
       refine Tr.all_br (fun _ => Tr.all_t (dec_true h0) (Tr.all_t (dec_true hi) (Tr.all_br (fun hf => ?_) (fun hf => ?_)))) (fun _ => Tr.all_br (fun he => ?_) (fun he => ?_))
       · have hf := of_decide_eq_true hf
         refine Tr.all_f (by rw [dec_false (show ¬ (xs.length : Int) < room by omega)]; rfl) ?_
         exact tailQ (fits8 (by omega)) (bne_len rfl) (dec_false (by omega)) (qiA_ok h300) (.inr hsame)
       · have hf := of_decide_eq_false hf
         have hl1 : (xs ++ [x.2]).length = xs.length + 1 := by simp
         refine Tr.all_t (fits8 (by omega)) (Tr.all_f (by rw [dec_true (show (xs.length : Int) < room by omega)]; rfl) (Tr.all_t (dec_true h0) (Tr.all_t (dec_true hi) (Tr.all_t (fits8 (by omega)) ?_))))
         refine tailQ (fits8 (by omega)) (bne_len rfl) (dec_false (by omega)) (by rw [qiA, Nat.ble_eq_true_of_le (by omega), sameI_iff.2 rfl]; rfl) (.inr ⟨(none, i + 1, xs ++ [x.2], xs ++ [x.2]), rfl, ⟨?_, ?_, ?_, ?_, ?_, rfl⟩, hm _ rfl hj⟩)
         · show 0 ≤ i + 1; omega
         · show i + 1 ≤ 300; omega
         · show ((xs ++ [x.2]).length : Int) ≤ i + 1; omega
         · show ((xs ++ [x.2]).length : Int) ≤ room; omega
         · show ((xs ++ [x.2]).length : Int) ≤ i + 1; omega
       · have he : (xs.length : Int) = 0 := by simpa using he
         refine Tr.all_f (by rw [dec_false (show ¬ (xs.length : Int) > 0 by omega)]; rfl) ?_
         exact tailQ (fits8 (by omega)) (bne_len rfl) (dec_false (by omega)) (qiA_ok h300) (.inr hsame)
       · have he : ¬ (xs.length : Int) = 0 := by simpa using he
         have hl1 : (List.drop 1 xs).length = xs.length - 1 := by rw [List.length_drop]
         refine Tr.all_f (by rw [dec_true (show (xs.length : Int) > 0 by omega)]; rfl) (Tr.all_t (dec_true (by omega)) (Tr.all_f (show (!(List.getD xs 0 (0 : Int) == List.getD xs 0 (0 : Int))) = false by simp) (Tr.all_t (by simp only [Bool.and_eq_true, decide_eq_true_eq]; omega) (Tr.all_t (by simp only [Bool.and_eq_true, decide_eq_true_eq]; omega) ?_))))
         refine tailQ (fits8 (by omega)) (bne_len (by omega)) (dec_false (by omega)) (qiP_ok (by omega) (by omega) rfl) (.inr ⟨(some (1, xs.length - 1), i + 1, List.drop 1 xs, xs), rfl, ⟨?_, ?_, ?_, ?_, ?_, ?_, rfl⟩, hm _ rfl hj⟩)
         · show 0 ≤ i + 1; omega
         · show i + 1 ≤ 300; omega
         · show ((List.drop 1 xs).length : Int) ≤ i + 1; omega
         · show ((List.drop 1 xs).length : Int) ≤ room; omega
         · show (xs.length : Int) ≤ i + 1; omega
         · show 1 + (xs.length - 1) = xs.length; omega
     · exact Tr.all_t (dec_true hi) (Tr.all_f (dec_false hj) (Tr.all_ret (.inl rfl)))
   · exact Tr.all_f (dec_false hi) (Tr.all_ret (.inl rfl))
 | some oc =>
   obtain ⟨off, cnt⟩ := oc
   obtain ⟨hn, hd⟩ : off + cnt = xs.length ∧ xs.drop off = w := hp
   have hc : w.length = cnt := by rw [← hd, List.length_drop]; omega
   have htk : List.take cnt (List.drop off xs) = w := by rw [hd, List.take_of_length_le (by omega)]
   show (r12op room l up off cnt i room w xs).all _
   unfold r12op
   rw [hwr', htk]
   by_cases hi : i < l.length
   · by_cases hj : i < 300
     · have hsame : ∃ a' : QSt, (Sum.inl (stOf [0, 1, 5, 6, 7, 8] [.int .i64 room, .list DQ l, .bool up, .ptr 0 0, .rowS 2 off cnt false, .int .i64 (i + 1)] [.box [.rowA 1, .int .i64 room], .row (.int .i64) w, .row (.int .i64) xs]) : St ⊕ (Ex × St)) = .inl (mkQ room l up room a') ∧ invQ room a' ∧ meaQ a' < meaQ (some (off, cnt), i, w, xs) :=
         ⟨(some (off, cnt), i + 1, w, xs), rfl, ⟨by show 0 ≤ i + 1; omega, by show i + 1 ≤ 300; omega, by show (w.length : Int) ≤ i + 1; omega, hwr, by show (xs.length : Int) ≤ i + 1; omega, hn, hd⟩, hm _ rfl hj⟩
       refine Tr.all_t (dec_true hi) (Tr.all_t (dec_true hj) (Tr.all_t (dec_true h0) (Tr.all_t (dec_true hi) ?_)))
       generalize List.getD l i.toNat (Ty.dflt DQ) = x
       refine Tr.all_br (fun _ => Tr.all_t (dec_true h0) (Tr.all_t (dec_true hi) (Tr.all_br (fun hf => ?_) (fun hf => ?_)))) (fun _ => Tr.all_br (fun he => ?_) (fun he => ?_))
       · have hf := of_decide_eq_true hf
         refine Tr.all_f (by rw [dec_false (show ¬ (cnt : Int) < room by omega)]; rfl) ?_
         exact tailQ (fits8 (by omega)) (bne_len hc) (dec_false (by omega)) (qiP_ok (by omega) hn hd) (.inr hsame)
       · have hf := of_decide_eq_false hf
         have hl1 : (w ++ [x.2]).length = w.length + 1 := by simp
         refine Tr.all_t (fits8 (by omega)) (Tr.all_f (by rw [dec_true (show (cnt : Int) < room by omega)]; rfl) (Tr.all_t (dec_true h0) (Tr.all_t (dec_true hi) (Tr.all_t (fits8 (by omega)) (Tr.all_t (by rw [dec_true (show xs.length < off + cnt + 1 by omega)]; rfl) ?_)))))
         refine tailQ (fits8 (by omega)) (bne_len rfl) (dec_false (by omega)) (by rw [qiA, Nat.ble_eq_true_of_le (by omega), sameI_iff.2 rfl]; rfl) (.inr ⟨(none, i + 1, w ++ [x.2], w ++ [x.2]), rfl, ⟨?_, ?_, ?_, ?_, ?_, rfl⟩, hm _ rfl hj⟩)
         · show 0 ≤ i + 1; omega
         · show i + 1 ≤ 300; omega
         · show ((w ++ [x.2]).length : Int) ≤ i + 1; omega
         · show ((w ++ [x.2]).length : Int) ≤ room; omega
         · show ((w ++ [x.2]).length : Int) ≤ i + 1; omega
       · have he : (w.length : Int) = 0 := by simpa using he
         refine Tr.all_f (by rw [dec_false (show ¬ (cnt : Int) > 0 by omega)]; rfl) ?_
         exact tailQ (fits8 (by omega)) (bne_len hc) (dec_false (by omega)) (qiP_ok (by omega) hn hd) (.inr hsame)
       · have he : ¬ (w.length : Int) = 0 := by simpa using he
         have hl1 : (List.drop 1 w).length = w.length - 1 := by rw [List.length_drop]
         have hh : (List.getD w 0 (0 : Int) != List.getD xs (off + Int.toNat (0 : Int)) (Ty.dflt (Ty.int IntKind.i64))) = false := by
          rw [← hd, getD_drop]
          show (!(List.getD xs (off + 0) (0 : Int) == List.getD xs (off + 0) (0 : Int))) = false
          simp
         have hd2 : List.drop (off + 1) xs = List.drop 1 w := by rw [← hd, List.drop_drop]
         refine Tr.all_f (by rw [dec_true (show (cnt : Int) > 0 by omega)]; rfl) (Tr.all_t (dec_true (by omega)) (Tr.all_f hh (Tr.all_t (by simp only [Bool.and_eq_true, decide_eq_true_eq]; omega) (Tr.all_t (by simp only [Bool.and_eq_true, decide_eq_true_eq]; omega) ?_))))
         refine tailQ (fits8 (by omega)) (bne_len (by omega)) (dec_false (by omega)) (qiP_ok (by omega) (by omega) hd2) (.inr ⟨(some (off + 1, cnt - 1), i + 1, List.drop 1 w, xs), rfl, ⟨?_, ?_, ?_, ?_, ?_, ?_, hd2⟩, hm _ rfl hj⟩)
         · show 0 ≤ i + 1; omega
         · show i + 1 ≤ 300; omega
         · show ((List.drop 1 w).length : Int) ≤ i + 1; omega
         · show ((List.drop 1 w).length : Int) ≤ room; omega
         · show (xs.length : Int) ≤ i + 1; omega
         · show off + 1 + (cnt - 1) = xs.length; omega
     · exact Tr.all_t (dec_true hi) (Tr.all_f (dec_false hj) (Tr.all_ret (.inl rfl)))
   · exact Tr.all_f (dec_false hi) (Tr.all_ret (.inl rfl))
theorem loop12oa : ls12oa.Ok T0 (orcB [] [os27d, os39, os40, os40z, os41, os41z, os42, os42z, os43p]) h12 0 1 b12oa := by
 intro q'' hq'' x'' y'' r'' h
 obtain ⟨(room : Int), (l : List (Int × Int)), (up : Bool), (i : Int), _⟩ := x''
 obtain ⟨⟨(room2 : Int), _⟩, (w : List Int), (xs : List Int), _⟩ := y''
 obtain ⟨hc, rfl⟩ := Tr.get_on h
 show loopF (fun st => evC T0 (orcB [] [os27d, os39, os40, os40z, os41, os41z, os42, os42z, os43p]) (lpN T0 (orcB [] [os27d, os39, os40, os40z, os41, os41z, os42, os42z, os43p]) h12 0 q'') b12oa 0 st (roundK [0, 1, 5, 6, 7, 8] [4, 5] 0)) (stOf [0, 1, 5, 6, 7, 8] [.int .i64 room, .list DQ l, .bool up, .ptr 0 0, .rowA 2, .int .i64 i] [.box [.rowA 1, .int .i64 room2], .row (.int .i64) w, .row (.int .i64) xs]) = some (.exit 0, stOf [4, 5] ([.dead, .bool up]) ([]))
 simp only [qoA, Bool.and_eq_true, decide_eq_true_eq] at hc
 obtain ⟨rfl, hr, rfl, rfl, rfl⟩ := hc
 refine loop_tr (mkQ room l up room) (invQ room) meaQ _ (trQ room l up room) ?_ (fun a ha => roundQ hr a ha) (none, 0, [], []) ⟨by show (0 : Int) ≤ 0; omega, by show (0 : Int) ≤ 300; omega, by show (0 : Int) ≤ 0; omega, by show (0 : Int) ≤ room; omega, by show (0 : Int) ≤ 0; omega, rfl⟩
 rintro ⟨s, i, w, xs⟩ x hx
 cases s with
 | none => exact round_of (d := 0) (S := (lsOr 2 [ls12ia, ls12ip])) (loops_at (xs := [(2, b12ia)]) (by kernel_rfl) (all_cons (ls_or (all_cons ⟨rfl, loop12ia⟩ (all_cons ⟨rfl, loop12ip⟩ all_nil))) all_nil)) (by omega) ((round12oa room l up i room w xs).trans hx)
 | some oc =>
   obtain ⟨off, cnt⟩ := oc
   exact round_of (d := 0) (S := (lsOr 2 [ls12ia, ls12ip])) (loops_at (xs := [(2, b12ia)]) (by kernel_rfl) (all_cons (ls_or (all_cons ⟨rfl, loop12ia⟩ (all_cons ⟨rfl, loop12ip⟩ all_nil))) all_nil)) (by omega) ((round12op room l up off cnt i room w xs).trans hx)
def t12 (room : Int) (l : List (Int × Int)) : Tr Res := .br (decide (room < 1)) (.br (decide (room < 1)) (.ret ([.bool ((↑0 : Int) == 0)], [])) .no) (.br (decide (room < 1)) (.ret ([.bool false], [])) (.br (qoA room room [] [] 0) (.ret ([.bool true], [])) .no))
def os12 : OSpec := { f := 12, sh := [.d (.int .i64) false, .d (.list DQ) false], so := [], F := fun (room, l, _) _ => t12 room l }
theorem fn12 (room : Int) (l : List (Int × Int)) : evC T0 (orcB [] [os27d, os39, os40, os40z, os41, os41z, os42, os42z, os43p]) (lpOf h12 0 (lsOf [ls12oa])) c12 1000000 (startSt [.int .i64 room, .list DQ l] [] Try.f12.ntmps) (finishK T0 false 0 Try.f12) = (t12 room l).get := by kernel_rfl
theorem ok12 : os12.Ok Try.prog := by
 refine os_ok mixed0 tab0 (orcB_sound all_nil (all_cons ok27d (all_cons ok39 (all_cons ok40 (all_cons ok40z (all_cons ok41 (all_cons ok41z (all_cons ok42 (all_cons ok42z (all_cons ok43p all_nil)))))))))) h12 (d := 1) (n0 := 0) (S := lsOf [ls12oa]) Try.func12 (by kernel_rfl) (c := c12) (by kernel_rfl) rfl (loops_eq (xs := [(0, b12oa)]) (by kernel_rfl) (all_cons (ls_here loop12oa) all_nil)) (by omega) (by kernel_rfl) ?_
 intro x'' y'' q'' hq''
 obtain ⟨(room : Int), (l : List (Int × Int)), _⟩ := x''
 exact (fn12 room l).trans hq''
theorem frontQueues_all (room : Int) (l : List (Int × Int)) : (t12 room l).all fun r => r = ([.bool true], []) := by
 unfold t12
 by_cases h : room < 1
 · exact Tr.all_t (dec_true h) (Tr.all_t (dec_true h) (Tr.all_ret rfl))
 · refine Tr.all_f (dec_false h) (Tr.all_f (dec_false h) (Tr.all_t ?_ (Tr.all_ret rfl)))
   rw [qoA, dec_true rfl, dec_true (show (1 : Int) ≤ room by omega)]
   rfl
theorem sem12 (room : Int) (l : List (Int × Int)) : SemF Try.prog 12 [.int .i64 room, .list DQ l] [] [.bool true] [] :=
 ok12 (room, l, ()) () ([.bool true], []) (Tr.get_of_all (frontQueues_all room l))
end Go.Proofs.YtpledbapngdkeaaE
namespace Go.Proofs.Ytpledbapngdkeaa.frontQueues
open Go.ChangeShapes Go.WideShapes Go.ChangeAt Go.RowKit Go.Proofs.YtpledbapngdkeaaE
open Go.ChangeMaps (open_string shut_string)
set_option linter.unusedVariables false
theorem own : ownKnob Try.prog.godebug = none := by kernel_rfl
theorem laidOut : laidOutB Try.prog = true := by kernel_rfl
set_option maxRecDepth 100000 in
theorem lifted (os : Os) (started : os.Started) (H : Type) (enc : TypeId × Value → H) :
    ReturnsInHanded {} Try.checked os 12 .any (Rows.frontQueuesSpec.pre6 enc Try.prog Try.f12 Rows.frontQueuesRow.domain false) (Rows.frontQueuesSpec.post enc Try.prog Try.f12 false true false false) := by
  refine returnsInHanded_of_change_sized (C := Try.checked) own started (by kernel_rfl) Try.func12
    (ChangeSpec.witness6 (enc := enc) (C := Try.checked) false ⟨#[], #[.int .i64 0, .slice none 0 0], []⟩ 8 (by kernel_rfl) (by kernel_rfl) (by kernel_rfl) (by kernel_rfl)) ?_
  intro W base args ds gs before hval0 hW hcnd hsz0 _
  have hsz : ∀ n ∈ DataW.weightsEach Try.prog (Try.f12.params.toList ++ Rows.frontQueuesSpec.plain.varTypes Try.prog) (ds ++ gs), n ≤ reachBytes := fun n hn => of_decide_eq_true (List.all_eq_true.1 hsz0 n hn)
  have hval : ∀ (j : Nat) t v, Try.f12.params[j]? = some t → args[j]? = some v → Value.okWide Try.prog W .any base t v := hval0
  have hW' := hW
  obtain ⟨p, q, hA0, hV, rfl, hfz, hnd⟩ := hW
  have hA : DataW.TrodAll enc Try.prog W 0 (fun _ => true) true Try.f12.params.toList args.toList ds p := hA0
  rw [Try.params12] at hA hval hsz
  obtain ⟨v0, vs0, d0, ds0, p0, q0, hargs, rfl, rfl, k0, r0⟩ := trodAll_cons hA
  obtain ⟨v1, vs1, d1, ds1, p1, q1, rfl, rfl, rfl, k1, r1⟩ := trodAll_cons r0
  obtain ⟨rfl, rfl, rfl⟩ := trodAll_nil r1
  obtain rfl : args = #[v0, v1] := by cases args; simp_all
  obtain ⟨rfl, rfl⟩ := trodVars_none hV
  have lt0 : ∀ x ∈ p0, x.block < W.heap.size := by obtain ⟨m, hm⟩ := k0; exact DataW.trod_lt m _ _ _ hm
  obtain ⟨x0, e0, w0, b0⟩ := arg_told (n := 8) (τ := .int .i64) (agg := false) (by kernel_rfl) (hval 0 3 v0 rfl rfl) k0 (fun n hn => hsz n (DataW.weights_mem_each (j := 0) (t := 3) rfl rfl n hn)) (by kernel_rfl)
  have lt1 : ∀ x ∈ p1, x.block < W.heap.size := by obtain ⟨m, hm⟩ := k1; exact DataW.trod_lt m _ _ _ hm
  obtain ⟨x1, e1, w1, b1⟩ := arg_told (n := 8) (τ := (.list (.pair (.int .i64) (.int .i64)))) (agg := false) (by kernel_rfl) (hval 1 86 v1 rfl rfl) k1 (fun n hn => hsz n (DataW.weights_mem_each (j := 1) (t := 86) rfl rfl n hn)) (by kernel_rfl)
  clear hA0 hval0 hsz0 hsz
  refine (law_calls ((fun x0 x1 w0 w1 => sem12 x0 x1) x0 x1 w0 w1) W (vs := [v0, v1]) ?_).mono fun e W' ⟨he, bel⟩ => ?_
  · simp only [VRelL]
    exact ⟨_, _, rfl, e0, ⟨_, _, rfl, e1, rfl⟩⟩
  subst he
  exact ⟨_, rfl, _, _, _, [], _, [], hW', trodAll_mk1 (shut_bool Try.underlying4 _), (trodAll_cons_mk (Below.trod laidOut (by kernel_rfl) (of_decide_eq_true (by kernel_rfl)) k0 bel lt0) (trodAll_cons_mk (Below.trod laidOut (by kernel_rfl) (of_decide_eq_true (by kernel_rfl)) k1 bel lt1) trodAll_mk0)), rfl, bel.frame _, fun h => by cases h⟩
theorem over : Rows.frontQueuesRow.holds Try.pinned (OpenSpec.ofChange Rows.frontQueuesSpec) :=
  OpenClaim.holds_of_wide 12 Try.f12 rfl rfl rfl rfl rfl rfl rfl ⟨rfl, rfl, rfl, rfl, rfl⟩ rfl rfl rfl rfl rfl (by kernel_rfl) Try.func12 (by kernel_rfl)
    (of_decide_eq_true (by kernel_rfl)) (by unfold Func.isWrapper; first | (rw [if_pos (by decide +kernel)]; kernel_rfl) | (rw [if_neg (by decide +kernel)]; exact ⟨rfl, rfl⟩))
    (fun os started H enc _ => lifted os started H enc)
theorem proved : Rows.FrontQueuesSaid := over
end Go.Proofs.Ytpledbapngdkeaa.frontQueues
namespace Go.Proofs.Ytpledbapngdkeaa
/-- The row, under a short name, for the claim. -/
theorem frontQueues_holds : Rows.FrontQueuesSaid := frontQueues.proved
#print axioms frontQueues_holds
end Go.Proofs.Ytpledbapngdkeaa
