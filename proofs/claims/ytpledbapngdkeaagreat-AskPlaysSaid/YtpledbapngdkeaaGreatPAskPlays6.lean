import Derived.Test.YtpledbapngdkeaaGreatPAskPlays5
import Derived.Test.YtpledbapngdkeaaGreatRows
import Derived.WalkKit
import Derived.ProofKit
import Derived.OpenShut
import Derived.ShutString
import Derived.ChangeOld
import Derived.Below
import Derived.Carry
import Derived.SizedLaws
set_option maxRecDepth 1000000
namespace Go.Proofs.YtpledbapngdkeaaGreatE
open Go Go.Proofs.YtpledbapngdkeaaGreatB
set_option linter.unusedVariables false
set_option linter.unusedSimpArgs false
theorem sem81 (xs : List QR.den) (hc : fits xs.length 72 = true) : SemF Tryz.prog 81 [.list QR xs] [] [.rowA 0] [.row QR xs] := by
 have h : X4g T0 (U1q []) (fun _ _ _ => .no) Tryz.f81 true 0 (cC c81).r0 (.seq (cC c81).cx (cC c81).cy) 3 4 (V1 [.list QR xs] [] Tryz.f81.ntmps) =
     bif fits (([] : List QR.den).length + xs.length) 72 then some (([.rowA 0], [.row QR []]), ([.rowA 0], [.row QR ([] ++ xs)]), xs.isEmpty) else none := by kernel_rfl
 rw [show fits (([] : List QR.den).length + xs.length) 72 = true by simpa using hc] at h
 exact V41 Q1 tab0 (Q0a [] (by simp)) Tryz.func81 (by kernel_rfl) (id := (cC c81).id) (ops := (cC c81).ops) (o1 := (cC c81).ops.getD 0 default) (o2 := (cC c81).ops.getD 1 default) (d1 := 3) (d2 := 4) (t := 57) (yt := 57) (e := 60)
  (by kernel_rfl) (by kernel_rfl) (by kernel_rfl) (by kernel_rfl) (by kernel_rfl) (by kernel_rfl) (by kernel_rfl) (by kernel_rfl) (by kernel_rfl) (by kernel_rfl) h rfl (fun he => by rw [List.isEmpty_iff.1 he])
def os81 : OSpec := X3u 81 QR 72
theorem ok81 : os81.Ok Tryz.prog := J36 sem81
noncomputable def TW : Tab := { T0 with wide := true }
theorem tabW : J5 Tryz.prog TW := Q3g tab0
def t80 (i j : Int) (l : List QRt) : Tr Res := .br (decide (0 ≤ (↑l.length : Int)) && decide ((↑l.length : Int) ≤ (↑l.length : Int))) (.br (decide (0 ≤ j) && decide (j ≤ (↑l.length : Int))) (.br (decide (0 ≤ i) && decide (i ≤ j)) (.br (i == j) (.ret ([.rowA 0], [.row QR l])) (.br (decide (0 ≤ i) && decide (i ≤ (↑l.length : Int))) (.br (decide (0 ≤ 0) && decide (0 ≤ i)) (.br (decide (0 ≤ (↑l.length : Int)) && decide ((↑l.length : Int) ≤ (↑l.length : Int))) (.br (decide (0 ≤ j) && decide (j ≤ (↑l.length : Int))) (.br (fits (Int.toNat i - Int.toNat 0 + List.length (List.take (Int.toNat (↑l.length : Int) - Int.toNat j) (List.drop j.toNat l))) 72) (.br (false || decide (List.length l < Int.toNat 0 + (Int.toNat i - Int.toNat 0) + List.length (List.take (Int.toNat (↑l.length : Int) - Int.toNat j) (List.drop j.toNat l)))) (.br (decide (0 ≤ (↑l.length : Int)) && decide ((↑l.length : Int) ≤ (↑(List.length (List.take (Int.toNat i - Int.toNat 0) (List.drop (Int.toNat 0) l) ++ List.take (Int.toNat (↑l.length : Int) - Int.toNat j) (List.drop j.toNat l))) : Int))) (.br (decide (0 ≤ (↑(List.length (List.take (Int.toNat i - Int.toNat 0) (List.drop (Int.toNat 0) l) ++ List.take (Int.toNat (↑l.length : Int) - Int.toNat j) (List.drop j.toNat l))) : Int)) && decide ((↑(List.length (List.take (Int.toNat i - Int.toNat 0) (List.drop (Int.toNat 0) l) ++ List.take (Int.toNat (↑l.length : Int) - Int.toNat j) (List.drop j.toNat l))) : Int) ≤ (↑l.length : Int))) (.ret ([.rowA 0], [.row QR (List.take (Int.toNat (↑(List.length (List.take (Int.toNat i - Int.toNat 0) (List.drop (Int.toNat 0) l) ++ List.take (Int.toNat (↑l.length : Int) - Int.toNat j) (List.drop j.toNat l))) : Int)) (List.take (Int.toNat i - Int.toNat 0) (List.drop (Int.toNat 0) l) ++ List.take (Int.toNat (↑l.length : Int) - Int.toNat j) (List.drop j.toNat l)) ++ List.replicate (Int.toNat (↑l.length : Int) - Int.toNat (↑(List.length (List.take (Int.toNat i - Int.toNat 0) (List.drop (Int.toNat 0) l) ++ List.take (Int.toNat (↑l.length : Int) - Int.toNat j) (List.drop j.toNat l))) : Int)) (Ty.dflt QR) ++ List.drop (Int.toNat (↑(List.length (List.take (Int.toNat i - Int.toNat 0) (List.drop (Int.toNat 0) l) ++ List.take (Int.toNat (↑l.length : Int) - Int.toNat j) (List.drop j.toNat l))) : Int) + (Int.toNat (↑l.length : Int) - Int.toNat (↑(List.length (List.take (Int.toNat i - Int.toNat 0) (List.drop (Int.toNat 0) l) ++ List.take (Int.toNat (↑l.length : Int) - Int.toNat j) (List.drop j.toNat l))) : Int))) (List.take (Int.toNat i - Int.toNat 0) (List.drop (Int.toNat 0) l) ++ List.take (Int.toNat (↑l.length : Int) - Int.toNat j) (List.drop j.toNat l)))])) .no) .no) (.br (decide (0 ≤ (↑l.length : Int)) && decide ((↑l.length : Int) ≤ (↑(List.length (List.take (Int.toNat 0 + (Int.toNat i - Int.toNat 0)) l ++ List.take (Int.toNat (↑l.length : Int) - Int.toNat j) (List.drop j.toNat l) ++ List.drop (Int.toNat 0 + (Int.toNat i - Int.toNat 0) + List.length (List.take (Int.toNat (↑l.length : Int) - Int.toNat j) (List.drop j.toNat l))) l) - Int.toNat 0) : Int))) (.br (decide (0 ≤ (↑(Int.toNat i - Int.toNat 0 + List.length (List.take (Int.toNat (↑l.length : Int) - Int.toNat j) (List.drop j.toNat l))) : Int)) && decide ((↑(Int.toNat i - Int.toNat 0 + List.length (List.take (Int.toNat (↑l.length : Int) - Int.toNat j) (List.drop j.toNat l))) : Int) ≤ (↑l.length : Int))) (.ret ([.rowS 0 0 (Int.toNat i - Int.toNat 0 + List.length (List.take (Int.toNat (↑l.length : Int) - Int.toNat j) (List.drop j.toNat l))) false], [.row QR (List.take (Int.toNat 0 + Int.toNat (↑(Int.toNat i - Int.toNat 0 + List.length (List.take (Int.toNat (↑l.length : Int) - Int.toNat j) (List.drop j.toNat l))) : Int)) (List.take (Int.toNat 0 + (Int.toNat i - Int.toNat 0)) l ++ List.take (Int.toNat (↑l.length : Int) - Int.toNat j) (List.drop j.toNat l) ++ List.drop (Int.toNat 0 + (Int.toNat i - Int.toNat 0) + List.length (List.take (Int.toNat (↑l.length : Int) - Int.toNat j) (List.drop j.toNat l))) l) ++ List.replicate (Int.toNat (↑l.length : Int) - Int.toNat (↑(Int.toNat i - Int.toNat 0 + List.length (List.take (Int.toNat (↑l.length : Int) - Int.toNat j) (List.drop j.toNat l))) : Int)) (Ty.dflt QR) ++ List.drop (Int.toNat 0 + Int.toNat (↑(Int.toNat i - Int.toNat 0 + List.length (List.take (Int.toNat (↑l.length : Int) - Int.toNat j) (List.drop j.toNat l))) : Int) + (Int.toNat (↑l.length : Int) - Int.toNat (↑(Int.toNat i - Int.toNat 0 + List.length (List.take (Int.toNat (↑l.length : Int) - Int.toNat j) (List.drop j.toNat l))) : Int))) (List.take (Int.toNat 0 + (Int.toNat i - Int.toNat 0)) l ++ List.take (Int.toNat (↑l.length : Int) - Int.toNat j) (List.drop j.toNat l) ++ List.drop (Int.toNat 0 + (Int.toNat i - Int.toNat 0) + List.length (List.take (Int.toNat (↑l.length : Int) - Int.toNat j) (List.drop j.toNat l))) l))])) .no) .no)) .no) .no) .no) .no) .no)) .no) .no) .no
def os80 : OSpec := { f := 80, sh := [.row 0, .d (.int .i64) false, .d (.int .i64) false], so := [.row QR], F := fun (i, j, _) (l, _) => t80 i j l }
theorem fn80 (i j : Int) (l : List QRt) : evC TW (orcB [] []) (lpOf (hOwn h80) 1 (lsOf [])) c80 1000000 (V1 [.rowA 0, .int .i64 i, .int .i64 j] [.row QR l] Tryz.f80.ntmps) (J1 TW true 1 Tryz.f80) = (t80 i j l).get := by kernel_rfl
theorem ok80 : os80.Ok Tryz.prog := by
 refine V3 Q1 tabW (X0 all_nil all_nil) (hOwn h80) (d := 0) (n0 := 1) (S := lsOf []) Tryz.func80 (by kernel_rfl) (c := c80) (by kernel_rfl) rfl (Z3 (by kernel_rfl)) (by omega) (by kernel_rfl) ?_
 intro x'' y'' q'' hq''
 obtain ⟨(i : Int), (j : Int), _⟩ := x''
 obtain ⟨(l : List QRt), _⟩ := y''
 exact (fn80 i j l).trans hq''
theorem V31 {P : Program} {f : Nat} {args : List AV} {τ0 τ : Ty} {ys : List τ0.den} {xs : List τ.den} {n : Nat} (h : SemF P f args [.row τ0 ys] [.rowS 0 0 n false] [.row τ xs]) : SemF P f args [.row τ0 ys] [.rowA 0] [.row τ (xs.take n)] := by
 refine ⟨h.1, fun w μ F vs hh hv => (h.2 w μ F vs hh hv).mono ?_⟩
 rintro e w' ⟨v, rfl, μ', F', h1, h2, h3, h4, h5, h6⟩
 refine ⟨v, rfl, ?_⟩
 simp only [U8, VRel] at h1
 obtain ⟨a, len, cap, sz, A, cap', hμ, hle, hcap, rfl, hA⟩ := h1
 have ho := h2.obj 0 (by simp)
 rw [hμ] at ho
 simp only [ofHp, List.getElem?_cons_zero, Option.getD_some, ORel] at ho
 obtain ⟨hs, hl, hlc, ha, hb⟩ := ho
 have hcap : cap' = cap := by simpa using hcap
 subst hcap
 have hown : (Pl.row a n cap' sz).owns = (μ' 0).owns := by rw [hμ]; cases a <;> rfl
 have hself : ∀ j, (Vg μ' 0 (.row a n cap' sz) j).owns = (μ' j).owns := fun j => by
  by_cases hj : j = 0
  · subst hj; rw [Xa, hown]
  · rw [V9 hj]
 have hz := hh.obj 0 (by simp)
 refine ⟨Vg μ' 0 (.row a n cap' sz), F', ?_, ⟨fun k hk => ?_, fun k hk => ?_, fun k k' b x y => h2.one k k' b (by rw [← hself]; exact x) (by rw [← hself]; exact y), fun k b x => h2.out k b (by rw [← hself]; exact x), h2.inn⟩, ⟨h3.os, h3.tape, h3.output, h3.size, h3.keep, h3.old, h3.newF, fun k b x => h3.newO k b (by rw [← hself]; exact x)⟩, by simp, fun k b hk hb => ?_, fun k b hk hb => ?_⟩
 · simp only [U8, VRel]
   refine ⟨a, n, cap', sz, A, Xa _ _ _, rfl, fun hc => ?_⟩
   obtain ⟨b, o, rfl, rfl⟩ := hA hc
   simp [Xr]
 · have hk0 : k = 0 := by simpa using hk
   subst hk0
   rw [Xa]
   simp only [ofHp, List.getElem?_cons_zero, Option.getD_some, ORel]
   refine ⟨hs, by rw [List.length_take]; omega, by omega, ha, fun b o hbo hc => ?_⟩
   obtain ⟨us, E, fz, g1, g2, g3, g4, g5⟩ := hb b o hbo hc
   exact ⟨us, E, fz, g1, g2, g3, fun i x hx => g4 i x (by
    rw [List.getElem?_take] at hx
    split at hx
    · exact hx
    · cases hx), g5⟩
 · have hk : 1 ≤ k := by simpa using hk
   rw [V9 (by omega)]
   exact h2.top k (by simpa using hk)
 · have hk0 : k = 0 := by simpa using hk
   subst hk0
   simp only [ofHp] at hz
   rw [hb] at hz
   simp only [ORel] at hz
 · have hk0 : k = 0 := by simpa using hk
   subst hk0
   simp only [ofHp] at hz
   rw [hb] at hz
   simp only [ORel] at hz
def delC (l : List QRt) (i j : Int) : Bool := Nat.ble l.length 1000 && (decide (0 ≤ i) && (decide (i < (l.length : Int)) && decide (j = i + 1)))
def delR (l : List QRt) (i : Int) : List QRt := l.take i.toNat ++ l.drop (i.toNat + 1)
theorem X3p (l : List QRt) (k n : Nat) (Z R : List QRt) (hk : k < l.length) (hn : n = (l.take k ++ l.drop (k + 1)).length) : (List.take n (l.take k ++ l.drop (k + 1) ++ Z) ++ R).take n = l.take k ++ l.drop (k + 1) := by
 rw [List.take_left' hn.symm, List.take_left' hn.symm]
def Q4m : OSpec := os80.like fun (i, j, _) (l, _) => .on (delC l i j) ([.rowA 0], [.row QR (delR l i)])
theorem ok80d : Q4m.Ok Tryz.prog := by
 rintro ⟨(i : Int), (j : Int), _⟩ ⟨(l : List QRt), _⟩ r h
 obtain ⟨hc, rfl⟩ := Tr.get_on h
 have hc : delC l i j = true := hc
 simp only [delC, Bool.and_eq_true, decide_eq_true_eq] at hc
 obtain ⟨hl, h0, h1, rfl⟩ := hc
 have hl := Nat.le_of_ble_eq_true hl
 obtain ⟨k, rfl⟩ : ∃ k : Nat, i = k := ⟨i.toNat, by omega⟩
 have hk : k < l.length := by omega
 obtain ⟨r, hr, n, xs, rfl, hx⟩ := Tr.all_get (t := t80 (k : Int) ((k : Int) + 1) l) (P := fun r => ∃ n xs, r = ([.rowS 0 0 n false], [.row QR xs]) ∧ xs.take n = delR l (k : Int)) (by
  unfold t80
  rw [show ((k : Int) + 1).toNat = k + 1 by omega, show ((k : Int)).toNat = k by omega, show ((l.length : Int)).toNat = l.length by omega, show Int.toNat 0 = 0 from rfl]
  rw [show List.take (l.length - (k + 1)) (List.drop (k + 1) l) = List.drop (k + 1) l from List.take_of_length_le (by rw [List.length_drop]; omega)]
  simp only [List.length_drop, List.length_append, List.length_take, Nat.sub_zero, Nat.zero_add, Int.toNat_natCast]
  have hd : ∀ R Z : List QRt, (List.take (k + (l.length - (k + 1))) (List.take k l ++ List.drop (k + 1) l ++ Z) ++ R).take (k + (l.length - (k + 1))) = delR l (k : Int) := fun R Z => by
   rw [X3p l k _ Z R hk (by rw [List.length_append, List.length_take, List.length_drop]; omega)]
   rfl
  repeat (first
   | (refine Tr.all_ret ⟨_, _, rfl, ?_⟩; rw [List.append_assoc]; exact hd _ _)
   | refine Tr.all_t (by simp only [Bool.and_eq_true, Bool.false_or, decide_eq_true_eq, beq_iff_eq]; omega) ?_
   | refine Tr.all_f (by simp only [Bool.and_eq_false_iff, Bool.false_or, decide_eq_false_iff_not, beq_eq_false_iff_ne, ne_eq]; omega) ?_
   | refine Tr.all_t (U5 (by omega) (by omega)) ?_))
 rw [← hx]
 exact V31 (ok80 ((k : Int), (k : Int) + 1, ()) (l, ()) _ hr)
def t52 (x : QRt) (host room : Int) (all : List QRt) : Tr Res := .br (ixAC all (↑all.length : Int) 0) (.br (decide (idxL (ipB x.1 x.2.1) all 0 < 0)) (.ret ([.bool false], [.boxT none [.int .u32 host, .int .i64 room, .rowA 1], .row QR all])) (.br (decide (idxL (ipB x.1 x.2.1) all 0 < 0)) (.ret ([.bool false], [.boxT none [.int .u32 host, .int .i64 room, .rowA 1], .row QR all])) (.br (fits all.length 72) (.br (delC all (idxL (ipB x.1 x.2.1) all 0) (IntKind.wrap .i64 (idxL (ipB x.1 x.2.1) all 0 + 1))) (.ret ([.bool true], [.boxT none [.int .u32 host, .int .i64 room, .rowA 2], .row QR all, .row QR (delR all (idxL (ipB x.1 x.2.1) all 0))])) .no) .no))) .no
def os52 : OSpec := { f := 52, sh := [.ptr 0 0, .d QR true], so := [.box [.d (.int .u32) false, .d (.int .i64) false, .row 1], .row QR], F := fun (x, _) ((host, room, _), all, _) => t52 x host room all }
theorem fn52 (x : QRt) (host room : Int) (all : List QRt) : evC T0 (orcB [] [os58, os81, Q4m]) (lpOf h52 2 (lsOf [])) c52 1000000 (V1 [.ptr 0 0, AV.ofTy QR x true] [.box [.int .u32 host, .int .i64 room, .rowA 1], .row QR all] Tryz.f52.ntmps) (J1 T0 false 2 Tryz.f52) = (t52 x host room all).get := by kernel_rfl
theorem ok52 : os52.Ok Tryz.prog := by
 refine V3 Q1 tab0 (X0 all_nil (all_cons ok58 (all_cons ok81 (all_cons ok80d all_nil)))) h52 (d := 0) (n0 := 2) (S := lsOf []) Tryz.func52 (by kernel_rfl) (c := c52) (by kernel_rfl) rfl (Z3 (by kernel_rfl)) (by omega) (by kernel_rfl) ?_
 intro x'' y'' q'' hq''
 obtain ⟨(x : QRt), _⟩ := x''
 obtain ⟨⟨(host : Int), (room : Int), _⟩, (all : List QRt), _⟩ := y''
 exact (fn52 x host room all).trans hq''
def t84 (a b : Int) : Tr Res := .br (decide (IntKind.wrap .u64 b > IntKind.wrap .u64 (18446744073709551615 - a))) (.ret ([.int .u64 18446744073709551615], [])) (.ret ([.int .u64 (IntKind.wrap .u64 (a + IntKind.wrap .u64 b))], []))
def os84 : OSpec := { f := 84, sh := [.d (.int .u64) false, .d (.int .u32) false], so := [], F := fun (a, b, _) _ => t84 a b }
theorem fn84 (a b : Int) : evC T0 (orcB [] []) (lpOf h84 0 (lsOf [])) c84 1000000 (V1 [.int .u64 a, .int .u32 b] [] Tryz.f84.ntmps) (J1 T0 false 0 Tryz.f84) = (t84 a b).get := by kernel_rfl
theorem ok84 : os84.Ok Tryz.prog := by
 refine V3 Q1 tab0 (X0 all_nil all_nil) h84 (d := 0) (n0 := 0) (S := lsOf []) Tryz.func84 (by kernel_rfl) (c := c84) (by kernel_rfl) rfl (Z3 (by kernel_rfl)) (by omega) (by kernel_rfl) ?_
 intro x'' y'' q'' hq''
 obtain ⟨(a : Int), (b : Int), _⟩ := x''
 exact (fn84 a b).trans hq''
def fs84 : FSpec := fsT 84 [((.int .u64), false), ((.int .u32), false)] [((.int .u64), false)] fun (a, b, _) => t84 a b
theorem U4n : fs84.Ok Tryz.prog := V4 fun x'' r'' hr'' => ok84 x'' () r'' hr''
def t83 (a b : Int) : Tr Res := .ret ([.bool (decide (a > b))], [])
def os83 : OSpec := { f := 83, sh := [.d (.int .u64) false, .d (.int .u64) false], so := [], F := fun (a, b, _) _ => t83 a b }
theorem fn83 (a b : Int) : evC T0 (orcB [] []) (lpOf h83 0 (lsOf [])) c83 1000000 (V1 [.int .u64 a, .int .u64 b] [] Tryz.f83.ntmps) (J1 T0 false 0 Tryz.f83) = (t83 a b).get := by kernel_rfl
theorem ok83 : os83.Ok Tryz.prog := by
 refine V3 Q1 tab0 (X0 all_nil all_nil) h83 (d := 0) (n0 := 0) (S := lsOf []) Tryz.func83 (by kernel_rfl) (c := c83) (by kernel_rfl) rfl (Z3 (by kernel_rfl)) (by omega) (by kernel_rfl) ?_
 intro x'' y'' q'' hq''
 obtain ⟨(a : Int), (b : Int), _⟩ := x''
 exact (fn83 a b).trans hq''
def fs83 : FSpec := fsT 83 [((.int .u64), false), ((.int .u64), false)] [(.bool, false)] fun (a, b, _) => t83 a b
theorem Z4l : fs83.Ok Tryz.prog := V4 fun x'' r'' hr'' => ok83 x'' () r'' hr''
def t82 (x : QRt) (limit now : Int) : Tr Res := .br (decide (IntKind.wrap .u64 limit > IntKind.wrap .u64 (18446744073709551615 - x.2.2.2.2.2.2))) (.ret ([.bool !decide (18446744073709551615 > now)], [.boxT none [.int .u32 limit], .boxT none [.int .u64 now]])) (.ret ([.bool !decide (IntKind.wrap .u64 (x.2.2.2.2.2.2 + IntKind.wrap .u64 limit) > now)], [.boxT none [.int .u32 limit], .boxT none [.int .u64 now]]))
def os82 : OSpec := { f := 82, sh := [.d QR true, .ptr 0 0, .ptr 1 0], so := [.box [.d (.int .u32) false], .box [.d (.int .u64) false]], F := fun (x, _) ((limit, _), (now, _), _) => t82 x limit now }
theorem fn82 (x : QRt) (limit now : Int) : evC T0 (orcB [fs84, fs83] []) (lpOf h82 2 (lsOf [])) c82 1000000 (V1 [AV.ofTy QR x true, .ptr 0 0, .ptr 1 0] [.box [.int .u32 limit], .box [.int .u64 now]] Tryz.f82.ntmps) (J1 T0 false 2 Tryz.f82) = (t82 x limit now).get := by kernel_rfl
theorem ok82 : os82.Ok Tryz.prog := by
 refine V3 Q1 tab0 (X0 (all_cons U4n (all_cons Z4l all_nil)) all_nil) h82 (d := 0) (n0 := 2) (S := lsOf []) Tryz.func82 (by kernel_rfl) (c := c82) (by kernel_rfl) rfl (Z3 (by kernel_rfl)) (by omega) (by kernel_rfl) ?_
 intro x'' y'' q'' hq''
 obtain ⟨(x : QRt), _⟩ := x''
 obtain ⟨⟨(limit : Int), _⟩, ⟨(now : Int), _⟩, _⟩ := y''
 exact (fn82 x limit now).trans hq''
def t57 (x : QRt) (who : Int) : Tr Res := .ret ([.bool (x.2.2.2.2.2.1 == who)], [.boxT none [.int .i64 who]])
def os57 : OSpec := { f := 57, sh := [.d QR true, .ptr 0 0], so := [.box [.d (.int .i64) false]], F := fun (x, _) ((who, _), _) => t57 x who }
theorem fn57 (x : QRt) (who : Int) : evC T0 (orcB [fs84, fs83] []) (lpOf h57 1 (lsOf [])) c57 1000000 (V1 [AV.ofTy QR x true, .ptr 0 0] [.box [.int .i64 who]] Tryz.f57.ntmps) (J1 T0 false 1 Tryz.f57) = (t57 x who).get := by kernel_rfl
theorem ok57 : os57.Ok Tryz.prog := by
 refine V3 Q1 tab0 (X0 (all_cons U4n (all_cons Z4l all_nil)) all_nil) h57 (d := 0) (n0 := 1) (S := lsOf []) Tryz.func57 (by kernel_rfl) (c := c57) (by kernel_rfl) rfl (Z3 (by kernel_rfl)) (by omega) (by kernel_rfl) ?_
 intro x'' y'' q'' hq''
 obtain ⟨(x : QRt), _⟩ := x''
 obtain ⟨⟨(who : Int), _⟩, _⟩ := y''
 exact (fn57 x who).trans hq''
def U0l (a b : Int) : Int := bif decide (IntKind.wrap IntKind.u64 b > IntKind.wrap IntKind.u64 (18446744073709551615 - a)) then 18446744073709551615 else IntKind.wrap IntKind.u64 (a + IntKind.wrap IntKind.u64 b)
def Qj (now limit : Int) (q : QRt) : Bool := !decide (U0l q.2.2.2.2.2.2 limit > now)
def whoB (who : Int) (q : QRt) : Bool := q.2.2.2.2.2.1 == who
def akS (all w : List QRt) (m i : Int) : Bool := Nat.ble all.length 1000 && (decide (w = []) && (decide (m = (all.length : Int)) && decide (i = 0)))
noncomputable def b56l : Code := Z4 c56 0
def J3j : LoopSpec := { bid := 0, sh := [.fnp 82 [(2, 0), (3, 0)], .row 4, .row 1, .d (.int .i64) false, .d (.int .i64) false], so := [.box [.d (.int .u32) false, .d (.int .i64) false, .row 1], .row QR, .box [.d (.int .u32) false], .box [.d (.int .u64) false], .row QR], F := fun (m, i, _) ((host, room, _), all, (limit, _), (now, _), w, _) => .on (akS all w m i) (.exit 0, [.rowA 4], [.box [.int .u32 host, .int .i64 room, .rowA 1], .row QR all, .box [.int .u32 limit], .box [.int .u64 now], .row QR (all.filter (Qj now limit))]) }
def r56l (m i host room : Int) (all : List QRt) (limit now : Int) (w : List QRt) : Tr (St ⊕ (Ex × St)) := .br (decide (i < m)) (.br (decide (0 ≤ i)) (.br (decide (i < (↑all.length : Int))) (.br (decide (IntKind.wrap .u64 limit > IntKind.wrap .u64 (18446744073709551615 - (all.getD i.toNat (Ty.dflt QR)).2.2.2.2.2.2))) (.br (!decide (18446744073709551615 > now)) (.br (fits (List.length w + 1) 72) (.ret (.inl (stOf [1, 5, 13, 14, 15] [AV.fn 82 [.ptr 2 0, .ptr 3 0], .rowA 4, .rowA 1, .int .i64 m, .int .i64 (IntKind.wrap .i64 (i + 1))] [.boxT none [.int .u32 host, .int .i64 room, .rowA 1], .row QR all, .boxT none [.int .u32 limit], .boxT none [.int .u64 now], .row QR (w ++ [List.getD all i.toNat (Ty.dflt QR)])]))) .no) (.ret (.inl (stOf [1, 5, 13, 14, 15] [AV.fn 82 [.ptr 2 0, .ptr 3 0], .rowA 4, .rowA 1, .int .i64 m, .int .i64 (IntKind.wrap .i64 (i + 1))] [.boxT none [.int .u32 host, .int .i64 room, .rowA 1], .row QR all, .boxT none [.int .u32 limit], .boxT none [.int .u64 now], .row QR w])))) (.br (!decide (IntKind.wrap .u64 ((all.getD i.toNat (Ty.dflt QR)).2.2.2.2.2.2 + IntKind.wrap .u64 limit) > now)) (.br (fits (List.length w + 1) 72) (.ret (.inl (stOf [1, 5, 13, 14, 15] [AV.fn 82 [.ptr 2 0, .ptr 3 0], .rowA 4, .rowA 1, .int .i64 m, .int .i64 (IntKind.wrap .i64 (i + 1))] [.boxT none [.int .u32 host, .int .i64 room, .rowA 1], .row QR all, .boxT none [.int .u32 limit], .boxT none [.int .u64 now], .row QR (w ++ [List.getD all i.toNat (Ty.dflt QR)])]))) .no) (.ret (.inl (stOf [1, 5, 13, 14, 15] [AV.fn 82 [.ptr 2 0, .ptr 3 0], .rowA 4, .rowA 1, .int .i64 m, .int .i64 (IntKind.wrap .i64 (i + 1))] [.boxT none [.int .u32 host, .int .i64 room, .rowA 1], .row QR all, .boxT none [.int .u32 limit], .boxT none [.int .u64 now], .row QR w]))))) .no) .no) (.ret (.inr (.exit 0, stOf [5] [.rowA 4] [.boxT none [.int .u32 host, .int .i64 room, .rowA 1], .row QR all, .boxT none [.int .u32 limit], .boxT none [.int .u64 now], .row QR w])))
theorem V3p (lp : Lp) (m i host room : Int) (all : List QRt) (limit now : Int) (w : List QRt) : evC T0 (orcB [] [os82, os57]) lp b56l 0 (stOf [1, 5, 13, 14, 15] [.fn 82 [.ptr 2 0, .ptr 3 0], .rowA 4, .rowA 1, .int .i64 m, .int .i64 i] [.box [.int .u32 host, .int .i64 room, .rowA 1], .row QR all, .box [.int .u32 limit], .box [.int .u64 now], .row QR w]) (U0 [1, 5, 13, 14, 15] [5] 4) = (r56l m i host room all limit now w).get := by kernel_rfl
theorem wf56l (m host room : Int) (all : List QRt) (limit now : Int) (I'' : List QRt → Int → Prop) (m'' : List QRt → Int → Nat) (r'' : Ex × St) (h : ∀ (w : List QRt) (i : Int), I'' w i → (r56l m i host room all limit now w).all fun x'' => x'' = .inr r'' ∨ ∃ (w' : List QRt) (i' : Int), x'' = .inl (stOf [1, 5, 13, 14, 15] [.fn 82 [.ptr 2 0, .ptr 3 0], .rowA 4, .rowA 1, .int .i64 m, .int .i64 i'] [.box [.int .u32 host, .int .i64 room, .rowA 1], .row QR all, .box [.int .u32 limit], .box [.int .u64 now], .row QR w']) ∧ I'' w' i' ∧ m'' w' i' < m'' w i) (lp : Lp) (w : List QRt) (i : Int) : I'' w i →
    V2 (fun st => evC T0 (orcB [] [os82, os57]) lp b56l 0 st (U0 [1, 5, 13, 14, 15] [5] 4)) (stOf [1, 5, 13, 14, 15] [.fn 82 [.ptr 2 0, .ptr 3 0], .rowA 4, .rowA 1, .int .i64 m, .int .i64 i] [.box [.int .u32 host, .int .i64 room, .rowA 1], .row QR all, .box [.int .u32 limit], .box [.int .u64 now], .row QR w]) = some r'' :=
 Z5 (fun a'' : List QRt × Int => stOf [1, 5, 13, 14, 15] [.fn 82 [.ptr 2 0, .ptr 3 0], .rowA 4, .rowA 1, .int .i64 m, .int .i64 a''.2] [.box [.int .u32 host, .int .i64 room, .rowA 1], .row QR all, .box [.int .u32 limit], .box [.int .u64 now], .row QR a''.1]) (fun a'' => I'' a''.1 a''.2) (fun a'' => m'' a''.1 a''.2) r'' (fun a'' => r56l m a''.2 host room all limit now a''.1)
  (fun a'' x hx => (V3p lp m a''.2 host room all limit now a''.1).trans hx) (fun a'' ha => Tr.all_mono (fun x'' hx => hx.imp id fun ⟨w', i', h1, h2, h3⟩ => ⟨(w', i'), h1, h2, h3⟩) (h (a''.1) (a''.2) ha)) (w, i)
noncomputable def b56o : Code := Z4 c56 0
def J3s : LoopSpec := { bid := 0, sh := [.fnp 57 [(2, 0)], .row 3, .row 1, .d (.int .i64) false, .d (.int .i64) false], so := [.box [.d (.int .u32) false, .d (.int .i64) false, .row 1], .row QR, .box [.d (.int .i64) false], .row QR], F := fun (m, i, _) ((host, room, _), all, (who, _), w, _) => .on (akS all w m i) (.exit 0, [.rowA 3], [.box [.int .u32 host, .int .i64 room, .rowA 1], .row QR all, .box [.int .i64 who], .row QR (all.filter (whoB who))]) }
def r56o (m i host room : Int) (all : List QRt) (who : Int) (w : List QRt) : Tr (St ⊕ (Ex × St)) := .br (decide (i < m)) (.br (decide (0 ≤ i)) (.br (decide (i < (↑all.length : Int))) (.br ((all.getD i.toNat (Ty.dflt QR)).2.2.2.2.2.1 == who) (.br (fits (List.length w + 1) 72) (.ret (.inl (stOf [1, 5, 13, 14, 15] [AV.fn 57 [.ptr 2 0], .rowA 3, .rowA 1, .int .i64 m, .int .i64 (IntKind.wrap .i64 (i + 1))] [.boxT none [.int .u32 host, .int .i64 room, .rowA 1], .row QR all, .boxT none [.int .i64 who], .row QR (w ++ [List.getD all i.toNat (Ty.dflt QR)])]))) .no) (.ret (.inl (stOf [1, 5, 13, 14, 15] [AV.fn 57 [.ptr 2 0], .rowA 3, .rowA 1, .int .i64 m, .int .i64 (IntKind.wrap .i64 (i + 1))] [.boxT none [.int .u32 host, .int .i64 room, .rowA 1], .row QR all, .boxT none [.int .i64 who], .row QR w])))) .no) .no) (.ret (.inr (.exit 0, stOf [5] [.rowA 3] [.boxT none [.int .u32 host, .int .i64 room, .rowA 1], .row QR all, .boxT none [.int .i64 who], .row QR w])))
theorem X3g (lp : Lp) (m i host room : Int) (all : List QRt) (who : Int) (w : List QRt) : evC T0 (orcB [] [os82, os57]) lp b56o 0 (stOf [1, 5, 13, 14, 15] [.fn 57 [.ptr 2 0], .rowA 3, .rowA 1, .int .i64 m, .int .i64 i] [.box [.int .u32 host, .int .i64 room, .rowA 1], .row QR all, .box [.int .i64 who], .row QR w]) (U0 [1, 5, 13, 14, 15] [5] 3) = (r56o m i host room all who w).get := by kernel_rfl
theorem wf56o (m host room : Int) (all : List QRt) (who : Int) (I'' : List QRt → Int → Prop) (m'' : List QRt → Int → Nat) (r'' : Ex × St) (h : ∀ (w : List QRt) (i : Int), I'' w i → (r56o m i host room all who w).all fun x'' => x'' = .inr r'' ∨ ∃ (w' : List QRt) (i' : Int), x'' = .inl (stOf [1, 5, 13, 14, 15] [.fn 57 [.ptr 2 0], .rowA 3, .rowA 1, .int .i64 m, .int .i64 i'] [.box [.int .u32 host, .int .i64 room, .rowA 1], .row QR all, .box [.int .i64 who], .row QR w']) ∧ I'' w' i' ∧ m'' w' i' < m'' w i) (lp : Lp) (w : List QRt) (i : Int) : I'' w i →
    V2 (fun st => evC T0 (orcB [] [os82, os57]) lp b56o 0 st (U0 [1, 5, 13, 14, 15] [5] 3)) (stOf [1, 5, 13, 14, 15] [.fn 57 [.ptr 2 0], .rowA 3, .rowA 1, .int .i64 m, .int .i64 i] [.box [.int .u32 host, .int .i64 room, .rowA 1], .row QR all, .box [.int .i64 who], .row QR w]) = some r'' :=
 Z5 (fun a'' : List QRt × Int => stOf [1, 5, 13, 14, 15] [.fn 57 [.ptr 2 0], .rowA 3, .rowA 1, .int .i64 m, .int .i64 a''.2] [.box [.int .u32 host, .int .i64 room, .rowA 1], .row QR all, .box [.int .i64 who], .row QR a''.1]) (fun a'' => I'' a''.1 a''.2) (fun a'' => m'' a''.1 a''.2) r'' (fun a'' => r56o m a''.2 host room all who a''.1)
  (fun a'' x hx => (X3g lp m a''.2 host room all who a''.1).trans hx) (fun a'' ha => Tr.all_mono (fun x'' hx => hx.imp id fun ⟨w', i', h1, h2, h3⟩ => ⟨(w', i'), h1, h2, h3⟩) (h (a''.1) (a''.2) ha)) (w, i)
theorem V0q {α : Type} {p : α → Bool} {l : List α} {k : Nat} (d : α) (h : k < l.length) : (l.take (k + 1)).filter p = bif p (l.getD k d) then (l.take k).filter p ++ [l.getD k d] else (l.take k).filter p := by
 rw [List.take_add_one, List.getElem?_eq_getElem h, List.filter_append, List.getD_eq_getElem?_getD, List.getElem?_eq_getElem h]
 cases hp : p l[k] <;> simp [hp]
theorem Z1y {α : Type} {p : α → Bool} {l : List α} (k : Nat) : ((l.take k).filter p).length ≤ l.length := Nat.le_trans (List.length_filter_le ..) (by rw [List.length_take]; omega)
theorem J44 : J3s.Ok T0 (orcB [] [os82, os57]) h56 3 0 b56o := by
 intro q'' hq'' x'' y'' r'' h
 obtain ⟨(m : Int), (i : Int), _⟩ := x''
 obtain ⟨⟨(host : Int), (room : Int), _⟩, (all : List QRt), ⟨(who : Int), _⟩, (w : List QRt), _⟩ := y''
 obtain ⟨hc, rfl⟩ := Tr.get_on h
 show V2 (fun st => evC T0 (orcB [] [os82, os57]) (lpN T0 (orcB [] [os82, os57]) h56 3 q'') b56o 0 st (U0 [1, 5, 13, 14, 15] [5] 3)) (stOf [1, 5, 13, 14, 15] [.fn 57 [.ptr 2 0], .rowA 3, .rowA 1, .int .i64 m, .int .i64 i] [.box [.int .u32 host, .int .i64 room, .rowA 1], .row QR all, .box [.int .i64 who], .row QR w]) = some (.exit 0, stOf [5] ([.rowA 3]) ([.box [.int .u32 host, .int .i64 room, .rowA 1], .row QR all, .box [.int .i64 who], .row QR (all.filter (whoB who))]))
 simp only [akS, Bool.and_eq_true, decide_eq_true_eq] at hc
 obtain ⟨hl, rfl, rfl, rfl⟩ := hc
 have hl := Nat.le_of_ble_eq_true hl
 refine wf56o all.length host room all who (fun w i => 0 ≤ i ∧ i ≤ all.length ∧ w = (all.take i.toNat).filter (whoB who)) (fun w i => (all.length - i).toNat) _ ?_ _ [] 0 ⟨by omega, by omega, rfl⟩
 rintro w i ⟨h0, h1, rfl⟩
 unfold r56o
 rw [Vc h0 h1 (by omega)]
 by_cases hi : i < all.length
 · have hs := V0q (p := whoB who) (l := all) (k := i.toNat) (Ty.dflt QR) (by omega)
   have hf := Z1y (p := whoB who) (l := all) i.toNat
   generalize all.getD i.toNat (Ty.dflt QR) = x at *
   refine Tr.all_t (J0 hi) (Tr.all_t (J0 h0) (Tr.all_t (J0 hi) (Tr.all_br (fun h => ?_) (fun h => ?_))))
   · rw [show whoB who x = true from h, cond_true] at hs
     refine Tr.all_t (U5 (by omega) (by omega)) (Tr.all_ret (.inr ⟨_, _, rfl, ⟨by omega, by omega, ?_⟩, by omega⟩))
     rw [show (i + 1).toNat = i.toNat + 1 by omega, hs]
   · rw [show whoB who x = false from h, cond_false] at hs
     refine Tr.all_ret (.inr ⟨_, _, rfl, ⟨by omega, by omega, ?_⟩, by omega⟩)
     rw [show (i + 1).toNat = i.toNat + 1 by omega, hs]
 · refine Tr.all_f (Z0 hi) (Tr.all_ret (.inl ?_))
   rw [List.take_of_length_le (by omega)]
theorem X47 : J3j.Ok T0 (orcB [] [os82, os57]) h56 4 0 b56l := by
 intro q'' hq'' x'' y'' r'' h
 obtain ⟨(m : Int), (i : Int), _⟩ := x''
 obtain ⟨⟨(host : Int), (room : Int), _⟩, (all : List QRt), ⟨(limit : Int), _⟩, ⟨(now : Int), _⟩, (w : List QRt), _⟩ := y''
 obtain ⟨hc, rfl⟩ := Tr.get_on h
 show V2 (fun st => evC T0 (orcB [] [os82, os57]) (lpN T0 (orcB [] [os82, os57]) h56 4 q'') b56l 0 st (U0 [1, 5, 13, 14, 15] [5] 4)) (stOf [1, 5, 13, 14, 15] [.fn 82 [.ptr 2 0, .ptr 3 0], .rowA 4, .rowA 1, .int .i64 m, .int .i64 i] [.box [.int .u32 host, .int .i64 room, .rowA 1], .row QR all, .box [.int .u32 limit], .box [.int .u64 now], .row QR w]) = some (.exit 0, stOf [5] ([.rowA 4]) ([.box [.int .u32 host, .int .i64 room, .rowA 1], .row QR all, .box [.int .u32 limit], .box [.int .u64 now], .row QR (all.filter (Qj now limit))]))
 simp only [akS, Bool.and_eq_true, decide_eq_true_eq] at hc
 obtain ⟨hl, rfl, rfl, rfl⟩ := hc
 have hl := Nat.le_of_ble_eq_true hl
 refine wf56l all.length host room all limit now (fun w i => 0 ≤ i ∧ i ≤ all.length ∧ w = (all.take i.toNat).filter (Qj now limit)) (fun w i => (all.length - i).toNat) _ ?_ _ [] 0 ⟨by omega, by omega, rfl⟩
 rintro w i ⟨h0, h1, rfl⟩
 unfold r56l
 rw [Vc h0 h1 (by omega)]
 by_cases hi : i < all.length
 · have hs := V0q (p := Qj now limit) (l := all) (k := i.toNat) (Ty.dflt QR) (by omega)
   have hf := Z1y (p := Qj now limit) (l := all) i.toNat
   generalize all.getD i.toNat (Ty.dflt QR) = x at *
   have hT : ∀ b : Bool, Qj now limit x = b → (all.take (i.toNat + 1)).filter (Qj now limit) = bif b then (all.take i.toNat).filter (Qj now limit) ++ [x] else (all.take i.toNat).filter (Qj now limit) := fun b hb => by rw [hs, hb]
   refine Tr.all_t (J0 hi) (Tr.all_t (J0 h0) (Tr.all_t (J0 hi) (Tr.all_br (fun hu => Tr.all_br (fun h => ?_) (fun h => ?_)) (fun hu => Tr.all_br (fun h => ?_) (fun h => ?_)))))
   · have hT := hT true (by unfold Qj U0l; rw [hu]; exact h)
     simp only [cond_true] at hT
     refine Tr.all_t (U5 (by omega) (by omega)) (Tr.all_ret (.inr ⟨_, _, rfl, ⟨by omega, by omega, ?_⟩, by omega⟩))
     rw [show (i + 1).toNat = i.toNat + 1 by omega, hT]
   · have hT := hT false (by unfold Qj U0l; rw [hu]; exact h)
     simp only [cond_false] at hT
     refine Tr.all_ret (.inr ⟨_, _, rfl, ⟨by omega, by omega, ?_⟩, by omega⟩)
     rw [show (i + 1).toNat = i.toNat + 1 by omega, hT]
   · have hT := hT true (by unfold Qj U0l; rw [hu]; exact h)
     simp only [cond_true] at hT
     refine Tr.all_t (U5 (by omega) (by omega)) (Tr.all_ret (.inr ⟨_, _, rfl, ⟨by omega, by omega, ?_⟩, by omega⟩))
     rw [show (i + 1).toNat = i.toNat + 1 by omega, hT]
   · have hT := hT false (by unfold Qj U0l; rw [hu]; exact h)
     simp only [cond_false] at hT
     refine Tr.all_ret (.inr ⟨_, _, rfl, ⟨by omega, by omega, ?_⟩, by omega⟩)
     rw [show (i + 1).toNat = i.toNat + 1 by omega, hT]
 · refine Tr.all_f (Z0 hi) (Tr.all_ret (.inl ?_))
   rw [List.take_of_length_le (by omega)]
def t56l (host room : Int) (all : List QRt) (limit now : Int) : Tr Res := .br (akS all [] (↑all.length : Int) 0) (.ret ([.list QR (List.filter (Qj now limit) all)], [.boxT none [.int .u32 host, .int .i64 room, .rowA 1], .row QR all, .boxT none [.int .u32 limit], .boxT none [.int .u64 now]])) .no
def Q39 : OSpec := { f := 56, sh := [.ptr 0 0, .fnp 82 [(2, 0), (3, 0)]], so := [.box [.d (.int .u32) false, .d (.int .i64) false, .row 1], .row QR, .box [.d (.int .u32) false], .box [.d (.int .u64) false]], F := fun _ ((host, room, _), all, (limit, _), (now, _), _) => t56l host room all limit now }
theorem fn56l (host room : Int) (all : List QRt) (limit now : Int) : evC T0 (orcB [] [os82, os57]) (lpOf h56 4 (lsOf [J3j])) c56 1000000 (V1 [.ptr 0 0, .fn 82 [.ptr 2 0, .ptr 3 0]] [.box [.int .u32 host, .int .i64 room, .rowA 1], .row QR all, .box [.int .u32 limit], .box [.int .u64 now]] Tryz.f56.ntmps) (J1 T0 false 4 Tryz.f56) = (t56l host room all limit now).get := by kernel_rfl
theorem V4g : Q39.Ok Tryz.prog := by
 refine V3 Q1 tab0 (X0 all_nil (all_cons ok82 (all_cons ok57 all_nil))) h56 (d := 0) (n0 := 4) (S := lsOf [J3j]) Tryz.func56 (by kernel_rfl) (c := c56) (by kernel_rfl) rfl (X4 (xs := [(0, b56l)]) (by kernel_rfl) (all_cons (V5 X47) all_nil)) (by omega) (by kernel_rfl) ?_
 intro x'' y'' q'' hq''
 obtain ⟨⟨(host : Int), (room : Int), _⟩, (all : List QRt), ⟨(limit : Int), _⟩, ⟨(now : Int), _⟩, _⟩ := y''
 exact (fn56l host room all limit now).trans hq''
def t56o (host room : Int) (all : List QRt) (who : Int) : Tr Res := .br (akS all [] (↑all.length : Int) 0) (.ret ([.list QR (List.filter (whoB who) all)], [.boxT none [.int .u32 host, .int .i64 room, .rowA 1], .row QR all, .boxT none [.int .i64 who]])) .no
def X3j : OSpec := { f := 56, sh := [.ptr 0 0, .fnp 57 [(2, 0)]], so := [.box [.d (.int .u32) false, .d (.int .i64) false, .row 1], .row QR, .box [.d (.int .i64) false]], F := fun _ ((host, room, _), all, (who, _), _) => t56o host room all who }
theorem fn56o (host room : Int) (all : List QRt) (who : Int) : evC T0 (orcB [] [os82, os57]) (lpOf h56 3 (lsOf [J3s])) c56 1000000 (V1 [.ptr 0 0, .fn 57 [.ptr 2 0]] [.box [.int .u32 host, .int .i64 room, .rowA 1], .row QR all, .box [.int .i64 who]] Tryz.f56.ntmps) (J1 T0 false 3 Tryz.f56) = (t56o host room all who).get := by kernel_rfl
theorem J4h : X3j.Ok Tryz.prog := by
 refine V3 Q1 tab0 (X0 all_nil (all_cons ok82 (all_cons ok57 all_nil))) h56 (d := 0) (n0 := 3) (S := lsOf [J3s]) Tryz.func56 (by kernel_rfl) (c := c56) (by kernel_rfl) rfl (X4 (xs := [(0, b56o)]) (by kernel_rfl) (all_cons (V5 J44) all_nil)) (by omega) (by kernel_rfl) ?_
 intro x'' y'' q'' hq''
 obtain ⟨⟨(host : Int), (room : Int), _⟩, (all : List QRt), ⟨(who : Int), _⟩, _⟩ := y''
 exact (fn56o host room all who).trans hq''
def J38 : LoopSpec := { bid := 0, sh := [], so := [], F := fun _ _ => .no }
theorem Q4e (orc : Orc) : J38.Ok T0 orc h56 2 0 b56l := by
 intro n hn x y r h
 cases h
def t56z (limit now : Int) : Tr Res := .ret ([.list QR []], [.boxT none [.int .u32 limit], .boxT none [.int .u64 now]])
def U3o : OSpec := { f := 56, sh := [.np, .fnp 82 [(0, 0), (1, 0)]], so := [.box [.d (.int .u32) false], .box [.d (.int .u64) false]], F := fun _ ((limit, _), (now, _), _) => t56z limit now }
theorem fn56z (limit now : Int) : evC T0 (orcB [] [os82, os57]) (lpOf h56 2 (lsOf [J38])) c56 1000000 (V1 [.np, .fn 82 [.ptr 0 0, .ptr 1 0]] [.box [.int .u32 limit], .box [.int .u64 now]] Tryz.f56.ntmps) (J1 T0 false 2 Tryz.f56) = (t56z limit now).get := by kernel_rfl
theorem X4h : U3o.Ok Tryz.prog := by
 refine V3 Q1 tab0 (X0 all_nil (all_cons ok82 (all_cons ok57 all_nil))) h56 (d := 0) (n0 := 2) (S := lsOf [J38]) Tryz.func56 (by kernel_rfl) (c := c56) (by kernel_rfl) rfl (X4 (xs := [(0, b56l)]) (by kernel_rfl) (all_cons (V5 (Q4e _)) all_nil)) (by omega) (by kernel_rfl) ?_
 intro x'' y'' q'' hq''
 obtain ⟨⟨(limit : Int), _⟩, ⟨(now : Int), _⟩, _⟩ := y''
 exact (fn56z limit now).trans hq''
def t54 (now limit host room : Int) (all : List QRt) : Tr Res := .br (akS all [] (↑all.length : Int) 0) (.ret ([.list QR (List.filter (Qj now limit) all)], [.boxT none [.int .u32 host, .int .i64 room, .rowA 1], .row QR all])) .no
def os54 : OSpec := { f := 54, sh := [.ptr 0 0, .d (.int .u64) false, .d (.int .u32) false], so := [.box [.d (.int .u32) false, .d (.int .i64) false, .row 1], .row QR], F := fun (now, limit, _) ((host, room, _), all, _) => t54 now limit host room all }
theorem fn54 (now limit host room : Int) (all : List QRt) : evC T0 (orcB [] [Q39, X3j, U3o]) (lpOf h54 2 (lsOf [])) c54 1000000 (V1 [.ptr 0 0, .int .u64 now, .int .u32 limit] [.box [.int .u32 host, .int .i64 room, .rowA 1], .row QR all] Tryz.f54.ntmps) (J1 T0 false 2 Tryz.f54) = (t54 now limit host room all).get := by kernel_rfl
theorem ok54 : os54.Ok Tryz.prog := by
 refine V3 Q1 tab0 (X0 all_nil (all_cons V4g (all_cons J4h (all_cons X4h all_nil)))) h54 (d := 0) (n0 := 2) (S := lsOf []) Tryz.func54 (by kernel_rfl) (c := c54) (by kernel_rfl) rfl (Z3 (by kernel_rfl)) (by omega) (by kernel_rfl) ?_
 intro x'' y'' q'' hq''
 obtain ⟨(now : Int), (limit : Int), _⟩ := x''
 obtain ⟨⟨(host : Int), (room : Int), _⟩, (all : List QRt), _⟩ := y''
 exact (fn54 now limit host room all).trans hq''
def t20 (who host room : Int) (all : List QRt) : Tr Res := .br (akS all [] (↑all.length : Int) 0) (.ret ([.list QR (List.filter (whoB who) all)], [.boxT none [.int .u32 host, .int .i64 room, .rowA 1], .row QR all])) .no
def os20 : OSpec := { f := 20, sh := [.ptr 0 0, .d (.int .i64) false], so := [.box [.d (.int .u32) false, .d (.int .i64) false, .row 1], .row QR], F := fun (who, _) ((host, room, _), all, _) => t20 who host room all }
theorem fn20 (who host room : Int) (all : List QRt) : evC T0 (orcB [] [Q39, X3j, U3o]) (lpOf h20 2 (lsOf [])) c20 1000000 (V1 [.ptr 0 0, .int .i64 who] [.box [.int .u32 host, .int .i64 room, .rowA 1], .row QR all] Tryz.f20.ntmps) (J1 T0 false 2 Tryz.f20) = (t20 who host room all).get := by kernel_rfl
theorem ok20 : os20.Ok Tryz.prog := by
 refine V3 Q1 tab0 (X0 all_nil (all_cons V4g (all_cons J4h (all_cons X4h all_nil)))) h20 (d := 0) (n0 := 2) (S := lsOf []) Tryz.func20 (by kernel_rfl) (c := c20) (by kernel_rfl) rfl (Z3 (by kernel_rfl)) (by omega) (by kernel_rfl) ?_
 intro x'' y'' q'' hq''
 obtain ⟨(who : Int), _⟩ := x''
 obtain ⟨⟨(host : Int), (room : Int), _⟩, (all : List QRt), _⟩ := y''
 exact (fn20 who host room all).trans hq''
abbrev DE : Ty := .pair (.int .i64) (.pair QR (.int .u32))
abbrev DEt := Int × (QRt × Int)
def t85 (a b : Int) : Tr Res := .br (decide (IntKind.wrap .u64 (a + IntKind.wrap .u64 b) < a)) (.ret ([.int .u64 18446744073709551615], [])) (.ret ([.int .u64 (IntKind.wrap .u64 (a + IntKind.wrap .u64 b))], []))
def os85 : OSpec := { f := 85, sh := [.d (.int .u64) false, .d (.int .u32) false], so := [], F := fun (a, b, _) _ => t85 a b }
theorem fn85 (a b : Int) : evC T0 (orcB [] []) (lpOf h85 0 (lsOf [])) c85 1000000 (V1 [.int .u64 a, .int .u32 b] [] Tryz.f85.ntmps) (J1 T0 false 0 Tryz.f85) = (t85 a b).get := by kernel_rfl
theorem ok85 : os85.Ok Tryz.prog := by
 refine V3 Q1 tab0 (X0 all_nil all_nil) h85 (d := 0) (n0 := 0) (S := lsOf []) Tryz.func85 (by kernel_rfl) (c := c85) (by kernel_rfl) rfl (Z3 (by kernel_rfl)) (by omega) (by kernel_rfl) ?_
 intro x'' y'' q'' hq''
 obtain ⟨(a : Int), (b : Int), _⟩ := x''
 exact (fn85 a b).trans hq''
def fs85 : FSpec := fsT 85 [((.int .u64), false), ((.int .u32), false)] [((.int .u64), false)] fun (a, b, _) => t85 a b
theorem okf85 : fs85.Ok Tryz.prog := V4 fun x'' r'' hr'' => ok85 x'' () r'' hr''
def t25 (x : QRt) : Tr Res := .ret ([.agg [.int .u16 x.1, .int .u16 x.2.1, .int .u32 x.2.2.1.1, .int .u16 x.2.2.1.2, .str x.2.2.2.1.1, .int .u16 x.2.2.2.1.2.1, .int .u16 x.2.2.2.1.2.2, .str x.2.2.2.2.1, .int .i64 x.2.2.2.2.2.1, .int .u64 x.2.2.2.2.2.2]], [])
def os25 : OSpec := { f := 25, sh := [.d QR true], so := [], F := fun (x, _) _ => t25 x }
theorem fn25 (x : QRt) : evC T0 (orcB [] []) (lpOf h25 0 (lsOf [])) c25 1000000 (V1 [AV.ofTy QR x true] [] Tryz.f25.ntmps) (J1 T0 false 0 Tryz.f25) = (t25 x).get := by kernel_rfl
theorem ok25 : os25.Ok Tryz.prog := by
 refine V3 Q1 tab0 (X0 all_nil all_nil) h25 (d := 0) (n0 := 0) (S := lsOf []) Tryz.func25 (by kernel_rfl) (c := c25) (by kernel_rfl) rfl (Z3 (by kernel_rfl)) (by omega) (by kernel_rfl) ?_
 intro x'' y'' q'' hq''
 obtain ⟨(x : QRt), _⟩ := x''
 exact (fn25 x).trans hq''
def fs25 : FSpec := fsT 25 [(QR, true)] [(QR, true)] fun (x, _) => t25 x
theorem U2r : fs25.Ok Tryz.prog := V4 fun x'' r'' hr'' => ok25 x'' () r'' hr''
def t50 (x : QRt) : Tr Res := .ret ([.agg [.int .u16 x.1, .int .u16 x.2.1, .int .u32 x.2.2.1.1, .int .u16 x.2.2.1.2, .str x.2.2.2.1.1, .int .u16 x.2.2.2.1.2.1, .int .u16 x.2.2.2.1.2.2, .str x.2.2.2.2.1, .int .i64 x.2.2.2.2.2.1, .int .u64 x.2.2.2.2.2.2]], [])
def os50 : OSpec := { f := 50, sh := [.d QR true], so := [], F := fun (x, _) _ => t50 x }
theorem fn50 (x : QRt) : evC T0 (orcB [] []) (lpOf h50 0 (lsOf [])) c50 1000000 (V1 [AV.ofTy QR x true] [] Tryz.f50.ntmps) (J1 T0 false 0 Tryz.f50) = (t50 x).get := by kernel_rfl
theorem ok50 : os50.Ok Tryz.prog := by
 refine V3 Q1 tab0 (X0 all_nil all_nil) h50 (d := 0) (n0 := 0) (S := lsOf []) Tryz.func50 (by kernel_rfl) (c := c50) (by kernel_rfl) rfl (Z3 (by kernel_rfl)) (by omega) (by kernel_rfl) ?_
 intro x'' y'' q'' hq''
 obtain ⟨(x : QRt), _⟩ := x''
 exact (fn50 x).trans hq''
def fs50 : FSpec := fsT 50 [(QR, true)] [(QR, true)] fun (x, _) => t50 x
theorem okf50 : fs50.Ok Tryz.prog := V4 fun x'' r'' hr'' => ok50 x'' () r'' hr''
def akF (l : List QRt) (i : Int) : Bool := Nat.ble l.length 1000 && decide (i = 0)
def akO (l : List QRt) (qi : Int) : Bool := Nat.ble l.length 1000 && (decide (0 ≤ qi) && decide (qi < 65536))
def eqQ (x y : QRt) : Bool := x.1 == y.1 && (x.2.1 == y.2.1 && ((x.2.2.1.1 == y.2.2.1.1 && (x.2.2.1.2 == y.2.2.1.2 && true)) && ((x.2.2.2.1.1 == y.2.2.2.1.1 && (x.2.2.2.1.2.1 == y.2.2.2.1.2.1 && (x.2.2.2.1.2.2 == y.2.2.2.1.2.2 && true))) && (x.2.2.2.2.1 == y.2.2.2.2.1 && (x.2.2.2.2.2.1 == y.2.2.2.2.2.1 && (x.2.2.2.2.2.2 == y.2.2.2.2.2.2 && true))))))
theorem J1v {x y : QRt} : eqQ x y = true ↔ x = y := by
 obtain ⟨a, b, ⟨c, d⟩, ⟨e, f, g⟩, h, i, j⟩ := x
 obtain ⟨a', b', ⟨c', d'⟩, ⟨e', f', g'⟩, h', i', j'⟩ := y
 simp only [eqQ, Bool.and_eq_true, beq_iff_eq, Bool.true_eq, and_true, Prod.mk.injEq]
def Ql : List QRt → List QRt → Bool
 | [], [] => true
 | x :: a, y :: b => eqQ x y && Ql a b
 | _, _ => false
theorem Xx : ∀ {a b : List QRt}, Ql a b = true ↔ a = b
 | [], [] => by simp [Ql]
 | [], y :: b => by simp [Ql]
 | x :: a, [] => by simp [Ql]
 | x :: a, y :: b => by simp only [Ql, Bool.and_eq_true, J1v, Xx, List.cons.injEq]
def akP (a b : List QRt) (i : Int) : Bool := Nat.ble a.length 1000 && (decide (a.length = b.length) && decide (i = 0))
def akW (l w : List QRt) (i : Int) : Bool := Nat.ble l.length 1000 && (decide (w = []) && decide (i = 0))
noncomputable def b79 : Code := Z4 c79 0
def ls79 : LoopSpec := { bid := 0, sh := [.d (.list QR) false, .d (.int .u16) false, .d (.int .u16) false, .d (.int .i64) false], so := [], F := fun (l, qi, port, i, _) _ => .on2 (akF l i) (decide (idxL (ipB qi port) l 0 < 0)) (.exit 0, [.dead], []) (.ret, [.int .i64 (idxL (ipB qi port) l 0)], []) }
def r79 (l : List QRt) (qi port i : Int) : Tr (St ⊕ (Ex × St)) := .br (decide (i < (↑l.length : Int))) (.br (decide (0 ≤ i)) (.br (decide (i < (↑l.length : Int))) (.br ((l.getD i.toNat (Ty.dflt QR)).1 == qi) (.br (decide (0 ≤ i)) (.br (decide (i < (↑l.length : Int))) (.br ((l.getD i.toNat (Ty.dflt QR)).2.1 == port) (.ret (.inr (.ret, stOf [6] [.int .i64 i] []))) (.ret (.inl (stOf [0, 1, 2, 7] [.list QR l, .int .u16 qi, .int .u16 port, .int .i64 (IntKind.wrap .i64 (i + 1))] [])))) .no) .no) (.ret (.inl (stOf [0, 1, 2, 7] [.list QR l, .int .u16 qi, .int .u16 port, .int .i64 (IntKind.wrap .i64 (i + 1))] [])))) .no) .no) (.ret (.inr (.exit 0, stOf [6] [.dead] [])))
theorem Z3z (lp : Lp) (l : List QRt) (qi port i : Int) : evC T0 (orcB [] []) lp b79 0 (stOf [0, 1, 2, 7] [.list QR l, .int .u16 qi, .int .u16 port, .int .i64 i] []) (U0 [0, 1, 2, 7] [6] 0) = (r79 l qi port i).get := by kernel_rfl
theorem wf79 (l : List QRt) (qi port : Int) (I'' : Int → Prop) (m'' : Int → Nat) (r'' : Ex × St) (h : ∀ (i : Int), I'' i → (r79 l qi port i).all fun x'' => x'' = .inr r'' ∨ ∃ (i' : Int), x'' = .inl (stOf [0, 1, 2, 7] [.list QR l, .int .u16 qi, .int .u16 port, .int .i64 i'] []) ∧ I'' i' ∧ m'' i' < m'' i) (lp : Lp) (i : Int) : I'' i →
    V2 (fun st => evC T0 (orcB [] []) lp b79 0 st (U0 [0, 1, 2, 7] [6] 0)) (stOf [0, 1, 2, 7] [.list QR l, .int .u16 qi, .int .u16 port, .int .i64 i] []) = some r'' :=
 Z5 (fun a'' : Int => stOf [0, 1, 2, 7] [.list QR l, .int .u16 qi, .int .u16 port, .int .i64 a''] []) (fun a'' => I'' a'') (fun a'' => m'' a'') r'' (fun a'' => r79 l qi port a'')
  (fun a'' x hx => (Z3z lp l qi port a'').trans hx) (fun a'' ha => Tr.all_mono (fun x'' hx => hx.imp id fun ⟨i', h1, h2, h3⟩ => ⟨(i'), h1, h2, h3⟩) (h (a'') ha)) (i)
theorem V4w : ls79.Ok T0 (orcB [] []) h79 0 0 b79 := by
 intro q'' hq'' x'' y'' r'' h
 obtain ⟨(l : List QRt), (qi : Int), (port : Int), (i : Int), _⟩ := x''
 obtain ⟨hc, rfl⟩ := Tr.get_on2 h
 show V2 (fun st => evC T0 (orcB [] []) (lpN T0 (orcB [] []) h79 0 q'') b79 0 st (U0 [0, 1, 2, 7] [6] 0)) (stOf [0, 1, 2, 7] [.list QR l, .int .u16 qi, .int .u16 port, .int .i64 i] []) = some ((bif decide (idxL (ipB qi port) l 0 < 0) then (.exit 0, [.dead], []) else (.ret, [.int .i64 (idxL (ipB qi port) l 0)], []) : Ex × List AV × List LObj).1, stOf [6] (bif decide (idxL (ipB qi port) l 0 < 0) then (.exit 0, [.dead], []) else (.ret, [.int .i64 (idxL (ipB qi port) l 0)], []) : Ex × List AV × List LObj).2.1 (bif decide (idxL (ipB qi port) l 0 < 0) then (.exit 0, [.dead], []) else (.ret, [.int .i64 (idxL (ipB qi port) l 0)], []) : Ex × List AV × List LObj).2.2)
 simp only [akF, Bool.and_eq_true, decide_eq_true_eq] at hc
 obtain ⟨hl, rfl⟩ := hc
 have hl := Nat.le_of_ble_eq_true hl
 refine wf79 l qi port (fun i => 0 ≤ i ∧ i ≤ l.length ∧ idxL (ipB qi port) (l.drop i.toNat) i.toNat = idxL (ipB qi port) l 0) (fun i => (l.length - i).toNat) _ ?_ _ 0 ⟨by omega, by omega, rfl⟩
 rintro i ⟨h0, h1, he⟩
 unfold r79
 rw [Vc h0 h1 (by omega)]
 by_cases hi : i < l.length
 · rw [Ve (l := l) (k := i.toNat) (by omega) (Ty.dflt QR), idxL] at he
   generalize l.getD i.toNat (Ty.dflt QR) = x at *
   have hno : ∀ b : Bool, b = false → ipB qi port x = b → idxL (ipB qi port) (l.drop (i.toNat + 1)) (i.toNat + 1) = idxL (ipB qi port) l 0 := fun b hb h => by
    rw [if_neg (by rw [h, hb]; simp)] at he
    exact he
   refine Tr.all_t (J0 hi) (Tr.all_t (J0 h0) (Tr.all_t (J0 hi) (Tr.all_br (fun h => Tr.all_t (J0 h0) (Tr.all_t (J0 hi) (Tr.all_br (fun h2 => ?_) fun h2 => ?_))) fun h => ?_)))
   · have h : ipB qi port x = true := by unfold ipB; rw [h, h2]; rfl
     rw [if_pos h] at he
     rw [← he, show ((i.toNat : Nat) : Int) = i by omega, Z0 (show ¬ i < 0 by omega)]
     exact Tr.all_ret (.inl rfl)
   · exact Tr.all_ret (.inr ⟨_, rfl, ⟨by omega, by omega, by rw [show (i + 1).toNat = i.toNat + 1 by omega]; exact hno false rfl (by unfold ipB; rw [h, h2]; rfl)⟩, by omega⟩)
   · exact Tr.all_ret (.inr ⟨_, rfl, ⟨by omega, by omega, by rw [show (i + 1).toNat = i.toNat + 1 by omega]; exact hno false rfl (by unfold ipB; rw [h]; rfl)⟩, by omega⟩)
 · refine Tr.all_f (Z0 hi) (Tr.all_ret (.inl ?_))
   rw [List.drop_eq_nil_of_le (by omega)] at he
   rw [← he]
   rfl
def t79 (l : List QRt) (qi port : Int) : Tr Res := .br (akF l 0) (.br (decide (idxL (ipB qi port) l 0 < 0)) (.ret ([.int .i64 (-1)], [])) (.ret ([.int .i64 (idxL (ipB qi port) l 0)], []))) .no
def os79 : OSpec := { f := 79, sh := [.d (.list QR) false, .d (.int .u16) false, .d (.int .u16) false], so := [], F := fun (l, qi, port, _) _ => t79 l qi port }
theorem fn79 (l : List QRt) (qi port : Int) : evC T0 (orcB [] []) (lpOf h79 0 (lsOf [ls79])) c79 1000000 (V1 [.list QR l, .int .u16 qi, .int .u16 port] [] Tryz.f79.ntmps) (J1 T0 false 0 Tryz.f79) = (t79 l qi port).get := by kernel_rfl
theorem ok79 : os79.Ok Tryz.prog := by
 refine V3 Q1 tab0 (X0 all_nil all_nil) h79 (d := 0) (n0 := 0) (S := lsOf [ls79]) Tryz.func79 (by kernel_rfl) (c := c79) (by kernel_rfl) rfl (X4 (xs := [(0, b79)]) (by kernel_rfl) (all_cons (V5 V4w) all_nil)) (by omega) (by kernel_rfl) ?_
 intro x'' y'' q'' hq''
 obtain ⟨(l : List QRt), (qi : Int), (port : Int), _⟩ := x''
 exact (fn79 l qi port).trans hq''
def fs79 : FSpec := fsT 79 [((.list QR), false), ((.int .u16), false), ((.int .u16), false)] [((.int .i64), false)] fun (l, qi, port, _) => t79 l qi port
theorem Q4n : fs79.Ok Tryz.prog := V4 fun x'' r'' hr'' => ok79 x'' () r'' hr''
noncomputable def b51 : Code := Z4 c51 0
def ls51 : LoopSpec := { bid := 0, sh := [.d (.list QR) false, .ptr 0 0, .ptr 1 0, .row 2, .d (.int .i64) false], so := [.box [.d (.int .u16) false, .d (.int .u16) false, .d (.int .u32) false, .d (.int .u16) false, .d .str false, .d (.int .u16) false, .d (.int .u16) false, .d .str false, .d (.int .i64) false, .d (.int .u64) false], .box [.d (.int .u16) false, .d (.int .u16) false, .d (.int .u32) false, .d (.int .u16) false, .d .str false, .d (.int .u16) false, .d (.int .u16) false, .d .str false, .d (.int .i64) false, .d (.int .u64) false], .row QR], F := fun (l, qi, _) ((xi, xp, xh, xo, xn, xt, xc, xz, xw, xs, _), (zi, zp, zh, zo, zn, zt, zc, zz, zw, zs, _), w, _) => .on (akO l qi) (.exit 0, [.ptr 0 0, .ptr 1 0, .rowA 2, .int .i64 (Vn l xp qi)], [.box [.int .u16 xi, .int .u16 xp, .int .u32 xh, .int .u16 xo, .str xn, .int .u16 xt, .int .u16 xc, .str xz, .int .i64 xw, .int .u64 xs], .box [.int .u16 zi, .int .u16 zp, .int .u32 zh, .int .u16 zo, .str zn, .int .u16 zt, .int .u16 zc, .str zz, .int .i64 zw, .int .u64 zs], .row QR w]) }
def r51 (l : List QRt) (qi xi xp xh xo : Int) (xn : List UInt8) (xt xc : Int) (xz : List UInt8) (xw xs zi zp zh zo : Int) (zn : List UInt8) (zt zc : Int) (zz : List UInt8) (zw zs : Int) (w : List QRt) : Tr (St ⊕ (Ex × St)) := .br (akF l 0) (.br (decide (idxL (ipB (IntKind.wrap .u16 qi) xp) l 0 < 0)) (.ret (.inr (.exit 0, stOf [6, 9, 11, 12] [.ptr 0 0, .ptr 1 0, .rowA 2, .int .i64 qi] [.boxT none [.int .u16 xi, .int .u16 xp, .int .u32 xh, .int .u16 xo, .str xn, .int .u16 xt, .int .u16 xc, .str xz, .int .i64 xw, .int .u64 xs], .boxT none [.int .u16 zi, .int .u16 zp, .int .u32 zh, .int .u16 zo, .str zn, .int .u16 zt, .int .u16 zc, .str zz, .int .i64 zw, .int .u64 zs], .row QR w]))) (.br (decide (idxL (ipB (IntKind.wrap .u16 qi) xp) l 0 ≥ 0)) (.ret (.inl (stOf [0, 6, 9, 11, 12] [.list QR l, .ptr 0 0, .ptr 1 0, .rowA 2, .int .i64 (Int.tmod (IntKind.wrap .i64 (qi + 1)) 65536)] [.boxT none [.int .u16 xi, .int .u16 xp, .int .u32 xh, .int .u16 xo, .str xn, .int .u16 xt, .int .u16 xc, .str xz, .int .i64 xw, .int .u64 xs], .boxT none [.int .u16 zi, .int .u16 zp, .int .u32 zh, .int .u16 zo, .str zn, .int .u16 zt, .int .u16 zc, .str zz, .int .i64 zw, .int .u64 zs], .row QR w]))) (.ret (.inr (.exit 0, stOf [6, 9, 11, 12] [.ptr 0 0, .ptr 1 0, .rowA 2, .int .i64 qi] [.boxT none [.int .u16 xi, .int .u16 xp, .int .u32 xh, .int .u16 xo, .str xn, .int .u16 xt, .int .u16 xc, .str xz, .int .i64 xw, .int .u64 xs], .boxT none [.int .u16 zi, .int .u16 zp, .int .u32 zh, .int .u16 zo, .str zn, .int .u16 zt, .int .u16 zc, .str zz, .int .i64 zw, .int .u64 zs], .row QR w]))))) .no
theorem Q49 (lp : Lp) (l : List QRt) (qi xi xp xh xo : Int) (xn : List UInt8) (xt xc : Int) (xz : List UInt8) (xw xs zi zp zh zo : Int) (zn : List UInt8) (zt zc : Int) (zz : List UInt8) (zw zs : Int) (w : List QRt) : evC T0 (orcB [fs79] []) lp b51 0 (stOf [0, 6, 9, 11, 12] [.list QR l, .ptr 0 0, .ptr 1 0, .rowA 2, .int .i64 qi] [.box [.int .u16 xi, .int .u16 xp, .int .u32 xh, .int .u16 xo, .str xn, .int .u16 xt, .int .u16 xc, .str xz, .int .i64 xw, .int .u64 xs], .box [.int .u16 zi, .int .u16 zp, .int .u32 zh, .int .u16 zo, .str zn, .int .u16 zt, .int .u16 zc, .str zz, .int .i64 zw, .int .u64 zs], .row QR w]) (U0 [0, 6, 9, 11, 12] [6, 9, 11, 12] 0) = (r51 l qi xi xp xh xo xn xt xc xz xw xs zi zp zh zo zn zt zc zz zw zs w).get := by kernel_rfl
set_option maxHeartbeats 4000000 in
theorem wf51 (l : List QRt) (xi : Int) (xp : Int) (xh : Int) (xo : Int) (xn : List UInt8) (xt : Int) (xc : Int) (xz : List UInt8) (xw : Int) (xs : Int) (zi : Int) (zp : Int) (zh : Int) (zo : Int) (zn : List UInt8) (zt : Int) (zc : Int) (zz : List UInt8) (zw : Int) (zs : Int) (w : List QRt) (I'' : Int → Prop) (m'' : Int → Nat) (r'' : Ex × St) (h : ∀ (qi : Int), I'' qi → (r51 l qi xi xp xh xo xn xt xc xz xw xs zi zp zh zo zn zt zc zz zw zs w).all fun x'' => x'' = .inr r'' ∨ ∃ (qi' : Int), x'' = .inl (stOf [0, 6, 9, 11, 12] [.list QR l, .ptr 0 0, .ptr 1 0, .rowA 2, .int .i64 qi'] [.box [.int .u16 xi, .int .u16 xp, .int .u32 xh, .int .u16 xo, .str xn, .int .u16 xt, .int .u16 xc, .str xz, .int .i64 xw, .int .u64 xs], .box [.int .u16 zi, .int .u16 zp, .int .u32 zh, .int .u16 zo, .str zn, .int .u16 zt, .int .u16 zc, .str zz, .int .i64 zw, .int .u64 zs], .row QR w]) ∧ I'' qi' ∧ m'' qi' < m'' qi) (lp : Lp) (qi : Int) : I'' qi →
    V2 (fun st => evC T0 (orcB [fs79] []) lp b51 0 st (U0 [0, 6, 9, 11, 12] [6, 9, 11, 12] 0)) (stOf [0, 6, 9, 11, 12] [.list QR l, .ptr 0 0, .ptr 1 0, .rowA 2, .int .i64 qi] [.box [.int .u16 xi, .int .u16 xp, .int .u32 xh, .int .u16 xo, .str xn, .int .u16 xt, .int .u16 xc, .str xz, .int .i64 xw, .int .u64 xs], .box [.int .u16 zi, .int .u16 zp, .int .u32 zh, .int .u16 zo, .str zn, .int .u16 zt, .int .u16 zc, .str zz, .int .i64 zw, .int .u64 zs], .row QR w]) = some r'' :=
 Z5 (fun a'' : Int => stOf [0, 6, 9, 11, 12] [.list QR l, .ptr 0 0, .ptr 1 0, .rowA 2, .int .i64 a''] [.box [.int .u16 xi, .int .u16 xp, .int .u32 xh, .int .u16 xo, .str xn, .int .u16 xt, .int .u16 xc, .str xz, .int .i64 xw, .int .u64 xs], .box [.int .u16 zi, .int .u16 zp, .int .u32 zh, .int .u16 zo, .str zn, .int .u16 zt, .int .u16 zc, .str zz, .int .i64 zw, .int .u64 zs], .row QR w]) (fun a'' => I'' a'') (fun a'' => m'' a'') r'' (fun a'' => r51 l a'' xi xp xh xo xn xt xc xz xw xs zi zp zh zo zn zt zc zz zw zs w)
  (fun a'' x hx => (Q49 lp l a'' xi xp xh xo xn xt xc xz xw xs zi zp zh zo zn zt zc zz zw zs w).trans hx) (fun a'' ha => Tr.all_mono (fun x'' hx => hx.imp id fun ⟨qi', h1, h2, h3⟩ => ⟨(qi'), h1, h2, h3⟩) (h (a'') ha)) (qi)
theorem u16_in {x : Int} (h0 : 0 ≤ x) (h : x < 65536) : IntKind.wrap IntKind.u16 x = x := by
 show x % 65536 = x
 omega
theorem Z52 : ls51.Ok T0 (orcB [fs79] []) h51 0 0 b51 := by
 intro q'' hq'' x'' y'' r'' h
 obtain ⟨(l : List QRt), (qi : Int), _⟩ := x''
 obtain ⟨⟨(xi : Int), (xp : Int), (xh : Int), (xo : Int), (xn : List UInt8), (xt : Int), (xc : Int), (xz : List UInt8), (xw : Int), (xs : Int), _⟩, ⟨(zi : Int), (zp : Int), (zh : Int), (zo : Int), (zn : List UInt8), (zt : Int), (zc : Int), (zz : List UInt8), (zw : Int), (zs : Int), _⟩, (w : List QRt), _⟩ := y''
 obtain ⟨hc, rfl⟩ := Tr.get_on h
 show V2 (fun st => evC T0 (orcB [fs79] []) (lpN T0 (orcB [fs79] []) h51 0 q'') b51 0 st (U0 [0, 6, 9, 11, 12] [6, 9, 11, 12] 0)) (stOf [0, 6, 9, 11, 12] [.list QR l, .ptr 0 0, .ptr 1 0, .rowA 2, .int .i64 qi] [.box [.int .u16 xi, .int .u16 xp, .int .u32 xh, .int .u16 xo, .str xn, .int .u16 xt, .int .u16 xc, .str xz, .int .i64 xw, .int .u64 xs], .box [.int .u16 zi, .int .u16 zp, .int .u32 zh, .int .u16 zo, .str zn, .int .u16 zt, .int .u16 zc, .str zz, .int .i64 zw, .int .u64 zs], .row QR w]) = some (.exit 0, stOf [6, 9, 11, 12] ([.ptr 0 0, .ptr 1 0, .rowA 2, .int .i64 (Vn l xp qi)]) ([.box [.int .u16 xi, .int .u16 xp, .int .u32 xh, .int .u16 xo, .str xn, .int .u16 xt, .int .u16 xc, .str xz, .int .i64 xw, .int .u64 xs], .box [.int .u16 zi, .int .u16 zp, .int .u32 zh, .int .u16 zo, .str zn, .int .u16 zt, .int .u16 zc, .str zz, .int .i64 zw, .int .u64 zs], .row QR w]))
 simp only [akO, Bool.and_eq_true, decide_eq_true_eq] at hc
 obtain ⟨hl, h0, h1⟩ := hc
 have hl := Nat.le_of_ble_eq_true hl
 refine wf51 l xi xp xh xo xn xt xc xz xw xs zi zp zh zo zn zt zc zz zw zs w (nxI l xp qi) (nxM l qi) _ ?_ _ qi (X1d h0 h1)
 intro j hI
 unfold r51
 rw [u16_in hI.1.1 hI.1.2]
 refine Tr.all_t (by rw [akF, Nat.ble_eq_true_of_le (by omega)]; rfl) ?_
 rcases Vw (all := l) (p := xp) (id := j) with ⟨ht, he⟩ | ⟨ht, he⟩
 · refine Tr.all_t (J0 (by rw [he]; decide)) (Tr.all_ret (.inl ?_))
   rw [X22 hI ht]
 · refine Tr.all_f (Z0 (by omega)) (Tr.all_t (J0 he) (Tr.all_ret (.inr ⟨_, rfl, ?_⟩)))
   rw [IntWalk.i64_in (j + 1) (by have := hI.1; omega), show Int.tmod (j + 1) 65536 = (j + 1) % 65536 from Int.tmod_eq_emod_of_nonneg (by have := hI.1; omega)]
   exact V13 hl hI ht
def t51 (l : List QRt) (room : Int) (x : QRt) (draw : Int) : Tr Res := .br (decide ((↑l.length : Int) ≥ room)) (.ret ([.list QR l, .agg [.int .u16 0, .int .u16 0, .int .u32 0, .int .u16 0, .str [], .int .u16 0, .int .u16 0, .str [], .int .i64 0, .int .u64 0], .int .i64 5], [])) (.br (fits (0 + List.length l) 72) (.br (akO l (IntKind.wrap .i64 (Int.tmod draw 65536))) (.br (fits (List.length ([] ++ l) + 1) 72) (.ret ([.list QR ([] ++ l ++ [(IntKind.wrap .u16 (Vn l (IntKind.wrap .u16 (IntKind.wrap .u32 (1024 + Int.tmod (IntKind.wrap .u32 (Int.tdiv draw 65536)) 64512))) (IntKind.wrap .i64 (Int.tmod draw 65536))), IntKind.wrap .u16 (IntKind.wrap .u32 (1024 + Int.tmod (IntKind.wrap .u32 (Int.tdiv draw 65536)) 64512)), x.2.2)]), .agg [.int .u16 (IntKind.wrap .u16 (Vn l (IntKind.wrap .u16 (IntKind.wrap .u32 (1024 + Int.tmod (IntKind.wrap .u32 (Int.tdiv draw 65536)) 64512))) (IntKind.wrap .i64 (Int.tmod draw 65536)))), .int .u16 (IntKind.wrap .u16 (IntKind.wrap .u32 (1024 + Int.tmod (IntKind.wrap .u32 (Int.tdiv draw 65536)) 64512))), .int .u32 x.2.2.1.1, .int .u16 x.2.2.1.2, .str x.2.2.2.1.1, .int .u16 x.2.2.2.1.2.1, .int .u16 x.2.2.2.1.2.2, .str x.2.2.2.2.1, .int .i64 x.2.2.2.2.2.1, .int .u64 x.2.2.2.2.2.2], .int .i64 0], [])) .no) .no) .no)
def os51 : OSpec := { f := 51, sh := [.d (.list QR) false, .d (.int .i64) false, .d QR true, .d (.int .u32) false], so := [], F := fun (l, room, x, draw, _) _ => t51 l room x draw }
theorem fn51 (l : List QRt) (room : Int) (x : QRt) (draw : Int) : evC T0 (orcB [fs79] []) (lpOf h51 0 (lsOf [ls51])) c51 1000000 (V1 [.list QR l, .int .i64 room, AV.ofTy QR x true, .int .u32 draw] [] Tryz.f51.ntmps) (J1 T0 false 0 Tryz.f51) = (t51 l room x draw).get := by kernel_rfl
theorem ok51 : os51.Ok Tryz.prog := by
 refine V3 Q1 tab0 (X0 (all_cons Q4n all_nil) all_nil) h51 (d := 0) (n0 := 0) (S := lsOf [ls51]) Tryz.func51 (by kernel_rfl) (c := c51) (by kernel_rfl) rfl (X4 (xs := [(0, b51)]) (by kernel_rfl) (all_cons (V5 Z52) all_nil)) (by omega) (by kernel_rfl) ?_
 intro x'' y'' q'' hq''
 obtain ⟨(l : List QRt), (room : Int), (x : QRt), (draw : Int), _⟩ := x''
 exact (fn51 l room x draw).trans hq''
def fs51 : FSpec := fsT 51 [((.list QR), false), ((.int .i64), false), (QR, true), ((.int .u32), false)] [((.list QR), false), (QR, true), ((.int .i64), false)] fun (l, room, x, draw, _) => t51 l room x draw
theorem okf51 : fs51.Ok Tryz.prog := V4 fun x'' r'' hr'' => ok51 x'' () r'' hr''
noncomputable def b19 : Code := Z4 c19 0
def ls19 : LoopSpec := { bid := 0, sh := [.d (.list QR) false, .row 0, .d (.int .i64) false], so := [.row QR], F := fun (l, i, _) (w, _) => .on (akW l w i) (.exit 0, [.rowA 0], [.row QR l]) }
def r19 (l : List QRt) (i : Int) (w : List QRt) : Tr (St ⊕ (Ex × St)) := .br (decide (i < (↑l.length : Int))) (.br (decide (0 ≤ i)) (.br (decide (i < (↑l.length : Int))) (.br (fits (List.length w + 1) 72) (.ret (.inl (stOf [0, 3, 4] [.list QR l, .rowA 0, .int .i64 (IntKind.wrap .i64 (i + 1))] [.row QR (w ++ [List.getD l i.toNat (Ty.dflt QR)])]))) .no) .no) .no) (.ret (.inr (.exit 0, stOf [3] [.rowA 0] [.row QR w])))
theorem X45 (lp : Lp) (l : List QRt) (i : Int) (w : List QRt) : evC T0 (orcB [fs25] []) lp b19 0 (stOf [0, 3, 4] [.list QR l, .rowA 0, .int .i64 i] [.row QR w]) (U0 [0, 3, 4] [3] 0) = (r19 l i w).get := by kernel_rfl
theorem wf19 (l : List QRt) (I'' : List QRt → Int → Prop) (m'' : List QRt → Int → Nat) (r'' : Ex × St) (h : ∀ (w : List QRt) (i : Int), I'' w i → (r19 l i w).all fun x'' => x'' = .inr r'' ∨ ∃ (w' : List QRt) (i' : Int), x'' = .inl (stOf [0, 3, 4] [.list QR l, .rowA 0, .int .i64 i'] [.row QR w']) ∧ I'' w' i' ∧ m'' w' i' < m'' w i) (lp : Lp) (w : List QRt) (i : Int) : I'' w i →
    V2 (fun st => evC T0 (orcB [fs25] []) lp b19 0 st (U0 [0, 3, 4] [3] 0)) (stOf [0, 3, 4] [.list QR l, .rowA 0, .int .i64 i] [.row QR w]) = some r'' :=
 Z5 (fun a'' : List QRt × Int => stOf [0, 3, 4] [.list QR l, .rowA 0, .int .i64 a''.2] [.row QR a''.1]) (fun a'' => I'' a''.1 a''.2) (fun a'' => m'' a''.1 a''.2) r'' (fun a'' => r19 l a''.2 a''.1)
  (fun a'' x hx => (X45 lp l a''.2 a''.1).trans hx) (fun a'' ha => Tr.all_mono (fun x'' hx => hx.imp id fun ⟨w', i', h1, h2, h3⟩ => ⟨(w', i'), h1, h2, h3⟩) (h (a''.1) (a''.2) ha)) (w, i)
noncomputable def b18 : Code := Z4 c18 0
def ls18 : LoopSpec := { bid := 0, sh := [.d (.list QR) false, .d (.list QR) false, .d (.int .i64) false], so := [], F := fun (a, b, i, _) _ => .on2 (akP a b i) (Ql a b) (.exit 0, [.dead], []) (.ret, [.bool false], []) }
def r18 (a b : List QRt) (i : Int) : Tr (St ⊕ (Ex × St)) := .br (decide (i < (↑a.length : Int))) (.br (decide (0 ≤ i)) (.br (decide (i < (↑a.length : Int))) (.br (decide (0 ≤ i)) (.br (decide (i < (↑b.length : Int))) (.br (!((a.getD i.toNat (Ty.dflt QR)).1 == (b.getD i.toNat (Ty.dflt QR)).1 && ((a.getD i.toNat (Ty.dflt QR)).2.1 == (b.getD i.toNat (Ty.dflt QR)).2.1 && ((a.getD i.toNat (Ty.dflt QR)).2.2.1.1 == (b.getD i.toNat (Ty.dflt QR)).2.2.1.1 && ((a.getD i.toNat (Ty.dflt QR)).2.2.1.2 == (b.getD i.toNat (Ty.dflt QR)).2.2.1.2 && true) && ((a.getD i.toNat (Ty.dflt QR)).2.2.2.1.1 == (b.getD i.toNat (Ty.dflt QR)).2.2.2.1.1 && ((a.getD i.toNat (Ty.dflt QR)).2.2.2.1.2.1 == (b.getD i.toNat (Ty.dflt QR)).2.2.2.1.2.1 && ((a.getD i.toNat (Ty.dflt QR)).2.2.2.1.2.2 == (b.getD i.toNat (Ty.dflt QR)).2.2.2.1.2.2 && true)) && ((a.getD i.toNat (Ty.dflt QR)).2.2.2.2.1 == (b.getD i.toNat (Ty.dflt QR)).2.2.2.2.1 && ((a.getD i.toNat (Ty.dflt QR)).2.2.2.2.2.1 == (b.getD i.toNat (Ty.dflt QR)).2.2.2.2.2.1 && ((a.getD i.toNat (Ty.dflt QR)).2.2.2.2.2.2 == (b.getD i.toNat (Ty.dflt QR)).2.2.2.2.2.2 && true)))))))) (.ret (.inr (.ret, stOf [4] [.bool false] []))) (.ret (.inl (stOf [0, 1, 5] [.list QR a, .list QR b, .int .i64 (IntKind.wrap .i64 (i + 1))] [])))) .no) .no) .no) .no) (.ret (.inr (.exit 0, stOf [4] [.dead] [])))
theorem V49 (lp : Lp) (a b : List QRt) (i : Int) : evC T0 (orcB [fs25] []) lp b18 0 (stOf [0, 1, 5] [.list QR a, .list QR b, .int .i64 i] []) (U0 [0, 1, 5] [4] 0) = (r18 a b i).get := by kernel_rfl
theorem wf18 (a b : List QRt) (I'' : Int → Prop) (m'' : Int → Nat) (r'' : Ex × St) (h : ∀ (i : Int), I'' i → (r18 a b i).all fun x'' => x'' = .inr r'' ∨ ∃ (i' : Int), x'' = .inl (stOf [0, 1, 5] [.list QR a, .list QR b, .int .i64 i'] []) ∧ I'' i' ∧ m'' i' < m'' i) (lp : Lp) (i : Int) : I'' i →
    V2 (fun st => evC T0 (orcB [fs25] []) lp b18 0 st (U0 [0, 1, 5] [4] 0)) (stOf [0, 1, 5] [.list QR a, .list QR b, .int .i64 i] []) = some r'' :=
 Z5 (fun a'' : Int => stOf [0, 1, 5] [.list QR a, .list QR b, .int .i64 a''] []) (fun a'' => I'' a'') (fun a'' => m'' a'') r'' (fun a'' => r18 a b a'')
  (fun a'' x hx => (V49 lp a b a'').trans hx) (fun a'' ha => Tr.all_mono (fun x'' hx => hx.imp id fun ⟨i', h1, h2, h3⟩ => ⟨(i'), h1, h2, h3⟩) (h (a'') ha)) (i)
theorem U4s : ls19.Ok T0 (orcB [fs25] []) h19 0 0 b19 := by
 intro q'' hq'' x'' y'' r'' h
 obtain ⟨(l : List QRt), (i : Int), _⟩ := x''
 obtain ⟨(w : List QRt), _⟩ := y''
 obtain ⟨hc, rfl⟩ := Tr.get_on h
 show V2 (fun st => evC T0 (orcB [fs25] []) (lpN T0 (orcB [fs25] []) h19 0 q'') b19 0 st (U0 [0, 3, 4] [3] 0)) (stOf [0, 3, 4] [.list QR l, .rowA 0, .int .i64 i] [.row QR w]) = some (.exit 0, stOf [3] ([.rowA 0]) ([.row QR l]))
 simp only [akW, Bool.and_eq_true, decide_eq_true_eq] at hc
 obtain ⟨hl, rfl, rfl⟩ := hc
 have hl := Nat.le_of_ble_eq_true hl
 refine wf19 l (fun w i => 0 ≤ i ∧ i ≤ l.length ∧ w = l.take i.toNat) (fun w i => (l.length - i).toNat) _ ?_ _ [] 0 ⟨by omega, by omega, rfl⟩
 rintro w i ⟨h0, h1, rfl⟩
 unfold r19
 rw [Vc h0 h1 (by omega)]
 by_cases hi : i < l.length
 · refine Tr.all_t (J0 hi) (Tr.all_t (J0 h0) (Tr.all_t (J0 hi) (Tr.all_t (U5 (by rw [List.length_take]; omega) (by rw [List.length_take]; omega)) (Tr.all_ret (.inr ⟨_, _, rfl, ⟨by omega, by omega, ?_⟩, by omega⟩)))))
   rw [show (i + 1).toNat = i.toNat + 1 by omega, List.take_add_one, List.getElem?_eq_getElem (show i.toNat < l.length by omega), List.getD_eq_getElem?_getD, List.getElem?_eq_getElem (show i.toNat < l.length by omega)]
   rfl
 · refine Tr.all_f (Z0 hi) (Tr.all_ret (.inl ?_))
   rw [List.take_of_length_le (by omega)]
def t19 (l : List QRt) : Tr Res := .br (akW l [] 0) (.ret ([.list QR l], [])) .no
def os19 : OSpec := { f := 19, sh := [.d (.list QR) false], so := [], F := fun (l, _) _ => t19 l }
theorem fn19 (l : List QRt) : evC T0 (orcB [fs25] []) (lpOf h19 0 (lsOf [ls19])) c19 1000000 (V1 [.list QR l] [] Tryz.f19.ntmps) (J1 T0 false 0 Tryz.f19) = (t19 l).get := by kernel_rfl
theorem ok19 : os19.Ok Tryz.prog := by
 refine V3 Q1 tab0 (X0 (all_cons U2r all_nil) all_nil) h19 (d := 0) (n0 := 0) (S := lsOf [ls19]) Tryz.func19 (by kernel_rfl) (c := c19) (by kernel_rfl) rfl (X4 (xs := [(0, b19)]) (by kernel_rfl) (all_cons (V5 U4s) all_nil)) (by omega) (by kernel_rfl) ?_
 intro x'' y'' q'' hq''
 obtain ⟨(l : List QRt), _⟩ := x''
 exact (fn19 l).trans hq''
def fs19 : FSpec := fsT 19 [((.list QR), false)] [((.list QR), false)] fun (l, _) => t19 l
theorem J4n : fs19.Ok Tryz.prog := V4 fun x'' r'' hr'' => ok19 x'' () r'' hr''
theorem Q2z {a b : List QRt} {k : Nat} (h : a.length = b.length) (hk : k < a.length) (d : QRt) : Ql (a.drop k) (b.drop k) = (eqQ (a.getD k d) (b.getD k d) && Ql (a.drop (k + 1)) (b.drop (k + 1))) := by
 rw [Ve (l := a) hk d, Ve (l := b) (k := k) (by omega) d]
 rfl
theorem J4o : ls18.Ok T0 (orcB [fs25] []) h18 0 0 b18 := by
 intro q'' hq'' x'' y'' r'' h
 obtain ⟨(a : List QRt), (b : List QRt), (i : Int), _⟩ := x''
 obtain ⟨hc, rfl⟩ := Tr.get_on2 h
 show V2 (fun st => evC T0 (orcB [fs25] []) (lpN T0 (orcB [fs25] []) h18 0 q'') b18 0 st (U0 [0, 1, 5] [4] 0)) (stOf [0, 1, 5] [.list QR a, .list QR b, .int .i64 i] []) = some ((bif Ql a b then (.exit 0, [.dead], []) else (.ret, [.bool false], []) : Ex × List AV × List LObj).1, stOf [4] (bif Ql a b then (.exit 0, [.dead], []) else (.ret, [.bool false], []) : Ex × List AV × List LObj).2.1 (bif Ql a b then (.exit 0, [.dead], []) else (.ret, [.bool false], []) : Ex × List AV × List LObj).2.2)
 simp only [akP, Bool.and_eq_true, decide_eq_true_eq] at hc
 obtain ⟨hl, hab, rfl⟩ := hc
 have hl := Nat.le_of_ble_eq_true hl
 refine wf18 a b (fun i => 0 ≤ i ∧ i ≤ a.length ∧ Ql (a.drop i.toNat) (b.drop i.toNat) = Ql a b) (fun i => (a.length - i).toNat) _ ?_ _ 0 ⟨by omega, by omega, rfl⟩
 rintro i ⟨h0, h1, he⟩
 unfold r18
 rw [Vc h0 h1 (by omega)]
 by_cases hi : i < a.length
 · rw [Q2z hab (by omega) (Ty.dflt QR)] at he
   have hstep : ∀ b' : Bool, eqQ (a.getD i.toNat (Ty.dflt QR)) (b.getD i.toNat (Ty.dflt QR)) = b' → (b' && Ql (a.drop (i.toNat + 1)) (b.drop (i.toNat + 1))) = Ql a b := fun b' h => by rw [← h]; exact he
   refine Tr.all_t (J0 hi) (Tr.all_t (J0 h0) (Tr.all_t (J0 hi) (Tr.all_t (J0 h0) (Tr.all_t (J0 (by omega)) (Tr.all_br (fun h => ?_) (fun h => ?_))))))
   · have h := hstep false (by have h : (!eqQ (a.getD i.toNat (Ty.dflt QR)) (b.getD i.toNat (Ty.dflt QR))) = true := h; cases hx : eqQ (a.getD i.toNat (Ty.dflt QR)) (b.getD i.toNat (Ty.dflt QR)) with | false => rfl | true => rw [hx] at h; cases h)
     rw [← h]
     exact Tr.all_ret (.inl rfl)
   · have h := hstep true (by have h : (!eqQ (a.getD i.toNat (Ty.dflt QR)) (b.getD i.toNat (Ty.dflt QR))) = false := h; cases hx : eqQ (a.getD i.toNat (Ty.dflt QR)) (b.getD i.toNat (Ty.dflt QR)) with | true => rfl | false => rw [hx] at h; cases h)
     exact Tr.all_ret (.inr ⟨_, rfl, ⟨by omega, by omega, by rw [show (i + 1).toNat = i.toNat + 1 by omega]; simpa using h⟩, by omega⟩)
 · refine Tr.all_f (Z0 hi) (Tr.all_ret (.inl ?_))
   rw [List.drop_eq_nil_of_le (by omega), List.drop_eq_nil_of_le (by omega)] at he
   rw [← he]
   rfl
def t18 (a b : List QRt) : Tr Res := .br ((↑a.length : Int) != (↑b.length : Int)) (.ret ([.bool false], [])) (.br (akP a b 0) (.br (Ql a b) (.ret ([.bool true], [])) (.ret ([.bool false], []))) .no)
def os18 : OSpec := { f := 18, sh := [.d (.list QR) false, .d (.list QR) false], so := [], F := fun (a, b, _) _ => t18 a b }
theorem fn18 (a b : List QRt) : evC T0 (orcB [fs25] []) (lpOf h18 0 (lsOf [ls18])) c18 1000000 (V1 [.list QR a, .list QR b] [] Tryz.f18.ntmps) (J1 T0 false 0 Tryz.f18) = (t18 a b).get := by kernel_rfl
theorem ok18 : os18.Ok Tryz.prog := by
 refine V3 Q1 tab0 (X0 (all_cons U2r all_nil) all_nil) h18 (d := 0) (n0 := 0) (S := lsOf [ls18]) Tryz.func18 (by kernel_rfl) (c := c18) (by kernel_rfl) rfl (X4 (xs := [(0, b18)]) (by kernel_rfl) (all_cons (V5 J4o) all_nil)) (by omega) (by kernel_rfl) ?_
 intro x'' y'' q'' hq''
 obtain ⟨(a : List QRt), (b : List QRt), _⟩ := x''
 exact (fn18 a b).trans hq''
def fs18 : FSpec := fsT 18 [((.list QR), false), ((.list QR), false)] [(.bool, false)] fun (a, b, _) => t18 a b
theorem V4k : fs18.Ok Tryz.prog := V4 fun x'' r'' hr'' => ok18 x'' () r'' hr''
def t53 (l : List QRt) (qi port : Int) : Tr Res := .br (akF l 0) (.br (decide (idxL (ipB qi port) l 0 < 0)) (.ret ([.list QR l, .bool false], [])) (.br (decide (idxL (ipB qi port) l 0 < 0)) (.ret ([.list QR l, .bool false], [])) (.br (decide (0 ≤ idxL (ipB qi port) l 0) && decide (idxL (ipB qi port) l 0 ≤ (↑l.length : Int))) (.br (decide (0 ≤ 0) && decide (0 ≤ idxL (ipB qi port) l 0)) (.br (fits (0 + List.length (List.take (Int.toNat (idxL (ipB qi port) l 0) - Int.toNat 0) (List.drop (Int.toNat 0) l))) 72) (.br (decide (0 ≤ (↑l.length : Int)) && decide ((↑l.length : Int) ≤ (↑l.length : Int))) (.br (decide (0 ≤ IntKind.wrap .i64 (idxL (ipB qi port) l 0 + 1)) && decide (IntKind.wrap .i64 (idxL (ipB qi port) l 0 + 1) ≤ (↑l.length : Int))) (.br (fits (List.length ([] ++ List.take (Int.toNat (idxL (ipB qi port) l 0) - Int.toNat 0) (List.drop (Int.toNat 0) l)) + List.length (List.take (Int.toNat (↑l.length : Int) - Int.toNat (IntKind.wrap .i64 (idxL (ipB qi port) l 0 + 1))) (List.drop (Int.toNat (IntKind.wrap .i64 (idxL (ipB qi port) l 0 + 1))) l))) 72) (.ret ([.list QR ([] ++ List.take (Int.toNat (idxL (ipB qi port) l 0) - Int.toNat 0) (List.drop (Int.toNat 0) l) ++ List.take (Int.toNat (↑l.length : Int) - Int.toNat (IntKind.wrap .i64 (idxL (ipB qi port) l 0 + 1))) (List.drop (Int.toNat (IntKind.wrap .i64 (idxL (ipB qi port) l 0 + 1))) l)), .bool true], [])) .no) .no) .no) .no) .no) .no))) .no
def os53 : OSpec := { f := 53, sh := [.d (.list QR) false, .d (.int .u16) false, .d (.int .u16) false], so := [], F := fun (l, qi, port, _) _ => t53 l qi port }
theorem fn53 (l : List QRt) (qi port : Int) : evC T0 (orcB [fs79] []) (lpOf h53 0 (lsOf [])) c53 1000000 (V1 [.list QR l, .int .u16 qi, .int .u16 port] [] Tryz.f53.ntmps) (J1 T0 false 0 Tryz.f53) = (t53 l qi port).get := by kernel_rfl
theorem ok53 : os53.Ok Tryz.prog := by
 refine V3 Q1 tab0 (X0 (all_cons Q4n all_nil) all_nil) h53 (d := 0) (n0 := 0) (S := lsOf []) Tryz.func53 (by kernel_rfl) (c := c53) (by kernel_rfl) rfl (Z3 (by kernel_rfl)) (by omega) (by kernel_rfl) ?_
 intro x'' y'' q'' hq''
 obtain ⟨(l : List QRt), (qi : Int), (port : Int), _⟩ := x''
 exact (fn53 l qi port).trans hq''
def fs53 : FSpec := fsT 53 [((.list QR), false), ((.int .u16), false), ((.int .u16), false)] [((.list QR), false), (.bool, false)] fun (l, qi, port, _) => t53 l qi port
theorem okf53 : fs53.Ok Tryz.prog := V4 fun x'' r'' hr'' => ok53 x'' () r'' hr''
def J0w (a b : Int) : Int := bif decide (IntKind.wrap IntKind.u64 (a + IntKind.wrap IntKind.u64 b) < a) then 18446744073709551615 else IntKind.wrap IntKind.u64 (a + IntKind.wrap IntKind.u64 b)
def Zi (now limit : Int) (q : QRt) : Bool := decide (J0w q.2.2.2.2.2.2 limit ≤ now)
noncomputable def b55 : Code := Z4 c55 0
def ls55 : LoopSpec := { bid := 0, sh := [.d (.list QR) false, .d (.int .u64) false, .d (.int .u32) false, .row 0, .d (.int .i64) false], so := [.row QR], F := fun (l, now, limit, i, _) (w, _) => .on (akW l w i) (.exit 0, [.rowA 0], [.row QR (l.filter (Zi now limit))]) }
def r55 (l : List QRt) (now limit i : Int) (w : List QRt) : Tr (St ⊕ (Ex × St)) := .br (decide (i < (↑l.length : Int))) (.br (decide (0 ≤ i)) (.br (decide (i < (↑l.length : Int))) (.br (decide (IntKind.wrap .u64 ((l.getD i.toNat (Ty.dflt QR)).2.2.2.2.2.2 + IntKind.wrap .u64 limit) < (l.getD i.toNat (Ty.dflt QR)).2.2.2.2.2.2)) (.br (decide (18446744073709551615 ≤ now)) (.br (decide (0 ≤ i)) (.br (decide (i < (↑l.length : Int))) (.br (fits (List.length w + 1) 72) (.ret (.inl (stOf [0, 1, 2, 7, 8] [.list QR l, .int .u64 now, .int .u32 limit, .rowA 0, .int .i64 (IntKind.wrap .i64 (i + 1))] [.row QR (w ++ [List.getD l i.toNat (Ty.dflt QR)])]))) .no) .no) .no) (.ret (.inl (stOf [0, 1, 2, 7, 8] [.list QR l, .int .u64 now, .int .u32 limit, .rowA 0, .int .i64 (IntKind.wrap .i64 (i + 1))] [.row QR w])))) (.br (decide (IntKind.wrap .u64 ((l.getD i.toNat (Ty.dflt QR)).2.2.2.2.2.2 + IntKind.wrap .u64 limit) ≤ now)) (.br (decide (0 ≤ i)) (.br (decide (i < (↑l.length : Int))) (.br (fits (List.length w + 1) 72) (.ret (.inl (stOf [0, 1, 2, 7, 8] [.list QR l, .int .u64 now, .int .u32 limit, .rowA 0, .int .i64 (IntKind.wrap .i64 (i + 1))] [.row QR (w ++ [List.getD l i.toNat (Ty.dflt QR)])]))) .no) .no) .no) (.ret (.inl (stOf [0, 1, 2, 7, 8] [.list QR l, .int .u64 now, .int .u32 limit, .rowA 0, .int .i64 (IntKind.wrap .i64 (i + 1))] [.row QR w]))))) .no) .no) (.ret (.inr (.exit 0, stOf [7] [.rowA 0] [.row QR w])))
theorem Z3y (lp : Lp) (l : List QRt) (now limit i : Int) (w : List QRt) : evC T0 (orcB [fs85] []) lp b55 0 (stOf [0, 1, 2, 7, 8] [.list QR l, .int .u64 now, .int .u32 limit, .rowA 0, .int .i64 i] [.row QR w]) (U0 [0, 1, 2, 7, 8] [7] 0) = (r55 l now limit i w).get := by kernel_rfl
theorem wf55 (l : List QRt) (now limit : Int) (I'' : List QRt → Int → Prop) (m'' : List QRt → Int → Nat) (r'' : Ex × St) (h : ∀ (w : List QRt) (i : Int), I'' w i → (r55 l now limit i w).all fun x'' => x'' = .inr r'' ∨ ∃ (w' : List QRt) (i' : Int), x'' = .inl (stOf [0, 1, 2, 7, 8] [.list QR l, .int .u64 now, .int .u32 limit, .rowA 0, .int .i64 i'] [.row QR w']) ∧ I'' w' i' ∧ m'' w' i' < m'' w i) (lp : Lp) (w : List QRt) (i : Int) : I'' w i →
    V2 (fun st => evC T0 (orcB [fs85] []) lp b55 0 st (U0 [0, 1, 2, 7, 8] [7] 0)) (stOf [0, 1, 2, 7, 8] [.list QR l, .int .u64 now, .int .u32 limit, .rowA 0, .int .i64 i] [.row QR w]) = some r'' :=
 Z5 (fun a'' : List QRt × Int => stOf [0, 1, 2, 7, 8] [.list QR l, .int .u64 now, .int .u32 limit, .rowA 0, .int .i64 a''.2] [.row QR a''.1]) (fun a'' => I'' a''.1 a''.2) (fun a'' => m'' a''.1 a''.2) r'' (fun a'' => r55 l now limit a''.2 a''.1)
  (fun a'' x hx => (Z3y lp l now limit a''.2 a''.1).trans hx) (fun a'' ha => Tr.all_mono (fun x'' hx => hx.imp id fun ⟨w', i', h1, h2, h3⟩ => ⟨(w', i'), h1, h2, h3⟩) (h (a''.1) (a''.2) ha)) (w, i)
theorem Q4u : ls55.Ok T0 (orcB [fs85] []) h55 0 0 b55 := by
 intro q'' hq'' x'' y'' r'' h
 obtain ⟨(l : List QRt), (now : Int), (limit : Int), (i : Int), _⟩ := x''
 obtain ⟨(w : List QRt), _⟩ := y''
 obtain ⟨hc, rfl⟩ := Tr.get_on h
 show V2 (fun st => evC T0 (orcB [fs85] []) (lpN T0 (orcB [fs85] []) h55 0 q'') b55 0 st (U0 [0, 1, 2, 7, 8] [7] 0)) (stOf [0, 1, 2, 7, 8] [.list QR l, .int .u64 now, .int .u32 limit, .rowA 0, .int .i64 i] [.row QR w]) = some (.exit 0, stOf [7] ([.rowA 0]) ([.row QR (l.filter (Zi now limit))]))
 simp only [akW, Bool.and_eq_true, decide_eq_true_eq] at hc
 obtain ⟨hl, rfl, rfl⟩ := hc
 have hl := Nat.le_of_ble_eq_true hl
 refine wf55 l now limit (fun w i => 0 ≤ i ∧ i ≤ l.length ∧ w = (l.take i.toNat).filter (Zi now limit)) (fun w i => (l.length - i).toNat) _ ?_ _ [] 0 ⟨by omega, by omega, rfl⟩
 rintro w i ⟨h0, h1, rfl⟩
 unfold r55
 rw [Vc h0 h1 (by omega)]
 by_cases hi : i < l.length
 · have hs := V0q (p := Zi now limit) (l := l) (k := i.toNat) (Ty.dflt QR) (by omega)
   have hf := Z1y (p := Zi now limit) (l := l) i.toNat
   generalize l.getD i.toNat (Ty.dflt QR) = x at *
   have hT : ∀ b : Bool, Zi now limit x = b → (l.take (i.toNat + 1)).filter (Zi now limit) = bif b then (l.take i.toNat).filter (Zi now limit) ++ [x] else (l.take i.toNat).filter (Zi now limit) := fun b hb => by rw [hs, hb]
   have key : ∀ b : Bool, Zi now limit x = b → (Tr.br b (Tr.br (decide (0 ≤ i)) (Tr.br (decide (i < (l.length : Int))) (Tr.br (fits (((l.take i.toNat).filter (Zi now limit)).length + 1) 72) (Tr.ret (Sum.inl (stOf [0, 1, 2, 7, 8] [.list QR l, .int .u64 now, .int .u32 limit, .rowA 0, .int .i64 (i + 1)] [.row QR ((l.take i.toNat).filter (Zi now limit) ++ [x])]))) .no) .no) .no) (Tr.ret (Sum.inl (stOf [0, 1, 2, 7, 8] [.list QR l, .int .u64 now, .int .u32 limit, .rowA 0, .int .i64 (i + 1)] [.row QR ((l.take i.toNat).filter (Zi now limit))])))).all fun x'' => x'' = Sum.inr (Ex.exit 0, stOf [7] [.rowA 0] [.row QR (l.filter (Zi now limit))]) ∨ ∃ (w' : List QRt) (i' : Int), x'' = Sum.inl (stOf [0, 1, 2, 7, 8] [.list QR l, .int .u64 now, .int .u32 limit, .rowA 0, .int .i64 i'] [.row QR w']) ∧ (0 ≤ i' ∧ i' ≤ l.length ∧ w' = (l.take i'.toNat).filter (Zi now limit)) ∧ (l.length - i').toNat < (l.length - i).toNat := fun b hb => by
    have hT := hT b hb
    refine Tr.all_br (fun hbt => ?_) (fun hbf => ?_)
    · rw [hbt, cond_true] at hT
      refine Tr.all_t (J0 h0) (Tr.all_t (J0 hi) (Tr.all_t (U5 (by omega) (by omega)) (Tr.all_ret (.inr ⟨_, _, rfl, ⟨by omega, by omega, ?_⟩, by omega⟩))))
      rw [show (i + 1).toNat = i.toNat + 1 by omega, hT]
    · rw [hbf, cond_false] at hT
      refine Tr.all_ret (.inr ⟨_, _, rfl, ⟨by omega, by omega, ?_⟩, by omega⟩)
      rw [show (i + 1).toNat = i.toNat + 1 by omega, hT]
   refine Tr.all_t (J0 hi) (Tr.all_t (J0 h0) (Tr.all_t (J0 hi) (Tr.all_br (fun hu => ?_) (fun hu => ?_))))
   · exact key _ (by unfold Zi J0w; rw [hu]; rfl)
   · exact key _ (by unfold Zi J0w; rw [hu]; rfl)
 · refine Tr.all_f (Z0 hi) (Tr.all_ret (.inl ?_))
   rw [List.take_of_length_le (by omega)]
def t55 (l : List QRt) (now limit : Int) : Tr Res := .br (akW l [] 0) (.ret ([.list QR (List.filter (Zi now limit) l)], [])) .no
def os55 : OSpec := { f := 55, sh := [.d (.list QR) false, .d (.int .u64) false, .d (.int .u32) false], so := [], F := fun (l, now, limit, _) _ => t55 l now limit }
theorem fn55 (l : List QRt) (now limit : Int) : evC T0 (orcB [fs85] []) (lpOf h55 0 (lsOf [ls55])) c55 1000000 (V1 [.list QR l, .int .u64 now, .int .u32 limit] [] Tryz.f55.ntmps) (J1 T0 false 0 Tryz.f55) = (t55 l now limit).get := by kernel_rfl
theorem ok55 : os55.Ok Tryz.prog := by
 refine V3 Q1 tab0 (X0 (all_cons okf85 all_nil) all_nil) h55 (d := 0) (n0 := 0) (S := lsOf [ls55]) Tryz.func55 (by kernel_rfl) (c := c55) (by kernel_rfl) rfl (X4 (xs := [(0, b55)]) (by kernel_rfl) (all_cons (V5 Q4u) all_nil)) (by omega) (by kernel_rfl) ?_
 intro x'' y'' q'' hq''
 obtain ⟨(l : List QRt), (now : Int), (limit : Int), _⟩ := x''
 exact (fn55 l now limit).trans hq''
def fs55 : FSpec := fsT 55 [((.list QR), false), ((.int .u64), false), ((.int .u32), false)] [((.list QR), false)] fun (l, now, limit, _) => t55 l now limit
theorem okf55 : fs55.Ok Tryz.prog := V4 fun x'' r'' hr'' => ok55 x'' () r'' hr''
def okX (x : DEt) : Bool := !(decide ((x.2.1.2.2.2.1.1.length : Int) > 300)) && !(decide ((x.2.1.2.2.2.2.1.length : Int) > 300))
def akE (l : List DEt) (i : Int) : Bool := decide (i = 0)
def fewX (l : List DEt) : Bool := (l.take 101).all okX
noncomputable def b15 : Code := Z4 c15 0
def ls15 : LoopSpec := { bid := 0, sh := [.d (.list DE) false, .d (.int .i64) false], so := [], F := fun (l, i, _) _ => .on2 (akE l i) (fewX l) (.exit 0, [.list DE l, .dead], []) (.ret, [.list DE l, .bool false], []) }
def r15 (l : List (Int × (QRt × Int))) (i : Int) : Tr (St ⊕ (Ex × St)) := .br (decide (i < (↑l.length : Int))) (.br (decide (i < 101)) (.br (decide (0 ≤ i)) (.br (decide (i < (↑l.length : Int))) (.br (decide ((↑(List.length (l.getD i.toNat (Ty.dflt DE)).2.1.2.2.2.1.1) : Int) > 300)) (.ret (.inr (.ret, stOf [0, 2] [.list DE l, .bool false] []))) (.br (decide (0 ≤ i)) (.br (decide (i < (↑l.length : Int))) (.br (decide ((↑(List.length (l.getD i.toNat (Ty.dflt DE)).2.1.2.2.2.2.1) : Int) > 300)) (.ret (.inr (.ret, stOf [0, 2] [.list DE l, .bool false] []))) (.ret (.inl (stOf [0, 3] [.list DE l, .int .i64 (IntKind.wrap .i64 (i + 1))] [])))) .no) .no)) .no) .no) (.ret (.inr (.exit 0, stOf [0, 2] [.list DE l, .dead] [])))) (.ret (.inr (.exit 0, stOf [0, 2] [.list DE l, .dead] [])))
theorem U44 (lp : Lp) (l : List (Int × (QRt × Int))) (i : Int) : evC T0 (orcB [] []) lp b15 0 (stOf [0, 3] [.list DE l, .int .i64 i] []) (U0 [0, 3] [0, 2] 0) = (r15 l i).get := by kernel_rfl
theorem wf15 (l : List (Int × (QRt × Int))) (I'' : Int → Prop) (m'' : Int → Nat) (r'' : Ex × St) (h : ∀ (i : Int), I'' i → (r15 l i).all fun x'' => x'' = .inr r'' ∨ ∃ (i' : Int), x'' = .inl (stOf [0, 3] [.list DE l, .int .i64 i'] []) ∧ I'' i' ∧ m'' i' < m'' i) (lp : Lp) (i : Int) : I'' i →
    V2 (fun st => evC T0 (orcB [] []) lp b15 0 st (U0 [0, 3] [0, 2] 0)) (stOf [0, 3] [.list DE l, .int .i64 i] []) = some r'' :=
 Z5 (fun a'' : Int => stOf [0, 3] [.list DE l, .int .i64 a''] []) (fun a'' => I'' a'') (fun a'' => m'' a'') r'' (fun a'' => r15 l a'')
  (fun a'' x hx => (U44 lp l a'').trans hx) (fun a'' ha => Tr.all_mono (fun x'' hx => hx.imp id fun ⟨i', h1, h2, h3⟩ => ⟨(i'), h1, h2, h3⟩) (h (a'') ha)) (i)
theorem X52 : ls15.Ok T0 (orcB [] []) h15 0 0 b15 := by
 intro q'' hq'' x'' y'' r'' h
 obtain ⟨(l : List (Int × (QRt × Int))), (i : Int), _⟩ := x''
 obtain ⟨hc, rfl⟩ := Tr.get_on2 h
 show V2 (fun st => evC T0 (orcB [] []) (lpN T0 (orcB [] []) h15 0 q'') b15 0 st (U0 [0, 3] [0, 2] 0)) (stOf [0, 3] [.list DE l, .int .i64 i] []) = some ((bif fewX l then (.exit 0, [.list DE l, .dead], []) else (.ret, [.list DE l, .bool false], []) : Ex × List AV × List LObj).1, stOf [0, 2] (bif fewX l then (.exit 0, [.list DE l, .dead], []) else (.ret, [.list DE l, .bool false], []) : Ex × List AV × List LObj).2.1 (bif fewX l then (.exit 0, [.list DE l, .dead], []) else (.ret, [.list DE l, .bool false], []) : Ex × List AV × List LObj).2.2)
 simp only [akE, decide_eq_true_eq] at hc
 subst hc
 refine wf15 l (fun i => 0 ≤ i ∧ i ≤ l.length ∧ i ≤ 101 ∧ ((l.take 101).drop i.toNat).all okX = fewX l) (fun i => (l.length - i).toNat) _ ?_ _ 0 ⟨by omega, by omega, by omega, rfl⟩
 rintro i ⟨h0, h1, h2, he⟩
 unfold r15
 rw [Vc (n := 101) h0 (by omega) (by omega)]
 have hm : (l.take 101).length = min 101 l.length := List.length_take
 have hend : ¬ (i < (l.length : Int) ∧ i < 101) → true = fewX l := fun h => by
  rw [List.drop_eq_nil_of_le (by omega)] at he
  rw [← he]
  rfl
 by_cases hi : i < l.length
 · by_cases hj : i < 101
   · rw [Ve (l := l.take 101) (k := i.toNat) (by omega) (Ty.dflt DE), List.getD_eq_getElem?_getD, List.getElem?_take, if_pos (by omega), ← List.getD_eq_getElem?_getD, List.all_cons] at he
     generalize l.getD i.toNat (Ty.dflt DE) = x at *
     have hno : ∀ b : Bool, okX x = b → (b && ((l.take 101).drop (i.toNat + 1)).all okX) = fewX l := fun b h => by rw [← h]; exact he
     refine Tr.all_t (J0 hi) (Tr.all_t (J0 hj) (Tr.all_t (J0 h0) (Tr.all_t (J0 hi) (Tr.all_br (fun h => ?_) (fun h => Tr.all_t (J0 h0) (Tr.all_t (J0 hi) (Tr.all_br (fun h3 => ?_) (fun h3 => ?_))))))))
     · have := hno false (by unfold okX; rw [h]; rfl)
       rw [← this]
       exact Tr.all_ret (.inl rfl)
     · have := hno false (by unfold okX; rw [h, h3]; rfl)
       rw [← this]
       exact Tr.all_ret (.inl rfl)
     · have := hno true (by unfold okX; rw [h, h3]; rfl)
       exact Tr.all_ret (.inr ⟨_, rfl, ⟨by omega, by omega, by omega, by rw [show (i + 1).toNat = i.toNat + 1 by omega]; exact this⟩, by omega⟩)
   · rw [← hend (fun h => hj h.2)]
     exact Tr.all_t (J0 hi) (Tr.all_f (Z0 hj) (Tr.all_ret (.inl rfl)))
 · rw [← hend (fun h => hi h.1)]
   exact Tr.all_f (Z0 hi) (Tr.all_ret (.inl rfl))
def t15 (l : List (Int × (QRt × Int))) : Tr Res := .br (fewX l) (.ret ([.bool (decide ((↑l.length : Int) ≤ 100))], [])) (.ret ([.bool false], []))
def os15 : OSpec := { f := 15, sh := [.d (.list DE) false], so := [], F := fun (l, _) _ => t15 l }
theorem fn15 (l : List (Int × (QRt × Int))) : evC T0 (orcB [] []) (lpOf h15 0 (lsOf [ls15])) c15 1000000 (V1 [.list DE l] [] Tryz.f15.ntmps) (J1 T0 false 0 Tryz.f15) = (t15 l).get := by kernel_rfl
theorem ok15 : os15.Ok Tryz.prog := by
 refine V3 Q1 tab0 (X0 all_nil all_nil) h15 (d := 0) (n0 := 0) (S := lsOf [ls15]) Tryz.func15 (by kernel_rfl) (c := c15) (by kernel_rfl) rfl (X4 (xs := [(0, b15)]) (by kernel_rfl) (all_cons (V5 X52) all_nil)) (by omega) (by kernel_rfl) ?_
 intro x'' y'' q'' hq''
 obtain ⟨(l : List (Int × (QRt × Int))), _⟩ := x''
 exact (fn15 l).trans hq''
def fs15 : FSpec := fsT 15 [((.list DE), false)] [(.bool, false)] fun (l, _) => t15 l
theorem okf15 : fs15.Ok Tryz.prog := V4 fun x'' r'' hr'' => ok15 x'' () r'' hr''
def J19 (draw : Int) : Int := 1024 + draw / 65536 % 64512
def Z6 (all : List QRt) (x : QRt) (draw : Int) : QRt := (Vn all (J19 draw) (draw % 65536), J19 draw, x.2.2)
def akT (all : List QRt) (draw : Int) : Bool := Nat.ble all.length 1000 && (decide (0 ≤ draw) && decide (draw < 4294967296))
def akL (all : List QRt) : Bool := Nat.ble all.length 1000
def Ui : QRt := (0, 0, (0, 0), ([], 0, 0), [], 0, 0)
theorem X1r {all : List QRt} {p : Int} : ∀ {k : Nat} {i : Int}, 0 ≤ i → i < 65536 → 0 ≤ Z0z all p k i ∧ Z0z all p k i < 65536
 | 0, i, h0, h1 => ⟨h0, h1⟩
 | k + 1, i, h0, h1 => by
   rw [Z0z]
   cases U6 all p i with
   | true => exact X1r (by omega) (by omega)
   | false => exact ⟨h0, h1⟩
theorem J33 {all : List QRt} {p i : Int} (h0 : 0 ≤ i) (h1 : i < 65536) : 0 ≤ Vn all p i ∧ Vn all p i < 65536 := X1r h0 h1
theorem Q3x {d : Int} (h0 : 0 ≤ d) (h1 : d < 4294967296) : IntKind.wrap IntKind.u16 d = d % 65536 := rfl
theorem X49 {d : Int} (h0 : 0 ≤ d) (h1 : d < 4294967296) : IntKind.wrap IntKind.u16 (IntKind.wrap IntKind.u32 ((1024 : Int) + Int.tmod (Int.fdiv d ((2 : Int) ^ min (Int.toNat (16 : Int)) (IntKind.bits IntKind.u32))) (64512 : Int))) = J19 d := by
 have e1 : Int.fdiv d ((2 : Int) ^ min (Int.toNat (16 : Int)) (IntKind.bits IntKind.u32)) = d / 65536 := by
  show Int.fdiv d 65536 = _
  exact Int.fdiv_eq_ediv_of_nonneg _ (by omega)
 rw [e1, Int.tmod_eq_emod_of_nonneg (by omega)]
 show ((1024 + d / 65536 % 64512) % 4294967296) % 65536 = _
 unfold J19
 omega
theorem Q37 {d : Int} (h0 : 0 ≤ d) (h1 : d < 4294967296) : IntKind.wrap IntKind.u16 (IntKind.wrap IntKind.u32 ((1024 : Int) + Int.tmod (IntKind.wrap IntKind.u32 (Int.tdiv d (65536 : Int))) (64512 : Int))) = J19 d := by
 have e1 : Int.tdiv d 65536 = d / 65536 := Int.tdiv_eq_ediv_of_nonneg h0
 have e2 : IntKind.wrap IntKind.u32 (d / 65536) = d / 65536 := by
  show (d / 65536) % 4294967296 = _
  omega
 rw [e1, e2, Int.tmod_eq_emod_of_nonneg (by omega)]
 show ((1024 + d / 65536 % 64512) % 4294967296) % 65536 = _
 unfold J19
 omega
theorem Q3h {d : Int} (h0 : 0 ≤ d) (h1 : d < 4294967296) : IntKind.wrap IntKind.i64 (Int.tmod d 65536) = d % 65536 := by
 rw [Int.tmod_eq_emod_of_nonneg h0, IntWalk.i64_in _ (by omega)]
def X4f : OSpec := os48.like fun (x, draw, _) ((host, room, _), all, _) => .br (akT all draw) (.br (decide (room ≤ (List.length all : Int))) (.ret ([AV.ofTy QR Ui true, .int .i64 5], [.box [.int .u32 host, .int .i64 room, .rowA 1], .row QR all])) (.ret ([AV.ofTy QR (Z6 all x draw) true, .int .i64 0], [.box [.int .u32 host, .int .i64 room, .rowA 1], .row QR (all ++ [Z6 all x draw])]))) .no
theorem Jl {α : Type} {c : Bool} {x y : Tr α} {r : α} (h : (Tr.br c x y).get = some r) : (c = true ∧ x.get = some r) ∨ (c = false ∧ y.get = some r) := by
 cases c
 · exact .inr ⟨rfl, h⟩
 · exact .inl ⟨rfl, h⟩
theorem Z06 {α : Type} {r : α} (h : (Tr.no : Tr α).get = some r) : False := by cases h
theorem V2u {all : List QRt} {draw : Int} (h : akT all draw = true) : all.length ≤ 1000 ∧ 0 ≤ draw ∧ draw < 4294967296 := by
 simp only [akT, Bool.and_eq_true, decide_eq_true_eq] at h
 exact ⟨Nat.le_of_ble_eq_true h.1, h.2.1, h.2.2⟩
theorem X50 {all : List QRt} {d : Int} (h : all.length ≤ 1000) : opC all (d % 65536) = true := by
 rw [opC, Nat.ble_eq_true_of_le h, J0 (by omega), J0 (by omega)]
 rfl
theorem J4r {all : List QRt} {d : Int} (h : all.length ≤ 1000) : akO all (d % 65536) = true := by
 rw [akO, Nat.ble_eq_true_of_le h, J0 (by omega), J0 (by omega)]
 rfl
theorem ok48p : X4f.Ok Tryz.prog := by
 refine Uv ok48 _ ?_
 rintro ⟨(x : QRt), (draw : Int), _⟩ ⟨⟨(host : Int), (room : Int), _⟩, (all : List QRt), _⟩ r h
 refine Tr.get_of_all ?_
 show (t48 x draw host room all).all _
 rcases Jl h with ⟨hc, h⟩ | ⟨_, h⟩
 · obtain ⟨hl, h0, h1⟩ := V2u hc
   unfold t48
   rw [X49 h0 h1, Q3x h0 h1]
   rcases Jl h with ⟨hc, h⟩ | ⟨hc, h⟩
   · cases h
     have hc := of_decide_eq_true hc
     exact Tr.all_t (J0 (by omega)) (Tr.all_ret rfl)
   · cases h
     have hc := of_decide_eq_false hc
     exact Tr.all_f (Z0 (by omega)) (Tr.all_t (X50 hl) (Tr.all_t (U5 (by omega) (by omega)) (Tr.all_ret rfl)))
 · exact (Z06 h).elim
def Q4l : FSpec := fs51.like fun (l, room, x, draw, _) => .br (akT l draw) (.br (decide (room ≤ (List.length l : Int))) (.ret (l, Ui, (5 : Int), ())) (.ret (l ++ [Z6 l x draw], Z6 l x draw, (0 : Int), ()))) .no
theorem U4t : Q4l.Ok Tryz.prog := by
 refine Q3 okf51 _ ?_
 rintro ⟨(l : List QRt), (room : Int), (x : QRt), (draw : Int), _⟩ y h
 rcases Jl h with ⟨hc, h⟩ | ⟨_, h⟩
 · obtain ⟨hl, h0, h1⟩ := V2u hc
   have hn := J33 (all := l) (p := J19 draw) (i := draw % 65536) (by omega) (by omega)
   rcases Jl h with ⟨hc, h⟩ | ⟨hc, h⟩
   · cases h
     have hc := of_decide_eq_true hc
     refine X2 (vs := [.list QR l, AV.ofTy QR Ui true, .int .i64 5]) rfl rfl (Tr.get_of_all ?_)
     show (t51 l room x draw).all _
     unfold t51
     exact Tr.all_t (J0 (by omega)) (Tr.all_ret rfl)
   · cases h
     have hc := of_decide_eq_false hc
     refine X2 (vs := [.list QR (l ++ [Z6 l x draw]), AV.ofTy QR (Z6 l x draw) true, .int .i64 0]) rfl rfl (Tr.get_of_all ?_)
     show (t51 l room x draw).all _
     unfold t51
     rw [Q37 h0 h1, Q3h h0 h1, u16_in hn.1 hn.2, List.nil_append]
     exact Tr.all_f (Z0 (by omega)) (Tr.all_t (U5 (by omega) (by omega)) (Tr.all_t (J4r hl) (Tr.all_t (U5 (by omega) (by omega)) (Tr.all_ret rfl))))
 · exact (Z06 h).elim
def cutF (all : List QRt) (p qi : Int) : List QRt := delR all (idxL (ipB qi p) all 0)
theorem U13 {α : Type} (f : α → Bool) : ∀ (l : List α) (k : Nat), idxL f l k < (k : Int) + l.length
 | [], k => by simp only [idxL, List.length_nil]; omega
 | x :: l, k => by
   simp only [idxL, List.length_cons]
   split
   · omega
   · have := U13 f l (k + 1)
     omega
def U4f : OSpec := os52.like fun (x, _) ((host, room, _), all, _) => .br (akL all) (.br (U6 all (Prod.fst (Prod.snd x)) (Prod.fst x)) (.ret ([.bool true], [.box [.int .u32 host, .int .i64 room, .rowA 2], .row QR all, .row QR (cutF all (Prod.fst (Prod.snd x)) (Prod.fst x))])) (.ret ([.bool false], [.box [.int .u32 host, .int .i64 room, .rowA 1], .row QR all]))) .no
theorem ok52p : U4f.Ok Tryz.prog := by
 refine Uv ok52 _ ?_
 rintro ⟨(x : QRt), _⟩ ⟨⟨(host : Int), (room : Int), _⟩, (all : List QRt), _⟩ r h
 refine Tr.get_of_all ?_
 show (t52 x host room all).all _
 rcases Jl h with ⟨hc, h⟩ | ⟨_, h⟩
 · have hl := Nat.le_of_ble_eq_true hc
   unfold t52
   have hlt := U13 (ipB x.1 x.2.1) all 0
   rcases Jl h with ⟨hc, h⟩ | ⟨hc, h⟩
   · cases h
     rcases Vw (all := all) (p := x.2.1) (id := x.1) with ⟨ht, he⟩ | ⟨ht, he⟩
     · rw [hc] at ht; cases ht
     · rw [IntWalk.i64_in _ (by omega)]
       exact Tr.all_t (U1y hl) (Tr.all_f (Z0 (by omega)) (Tr.all_f (Z0 (by omega)) (Tr.all_t (U5 (by omega) (by omega)) (Tr.all_t (by rw [delC, Nat.ble_eq_true_of_le hl, J0 he, J0 (by omega), J0 rfl]; rfl) (Tr.all_ret rfl)))))
   · cases h
     rcases Vw (all := all) (p := x.2.1) (id := x.1) with ⟨ht, he⟩ | ⟨ht, he⟩
     · exact Tr.all_t (U1y hl) (Tr.all_t (J0 (by rw [he]; decide)) (Tr.all_ret rfl))
     · rw [hc] at ht; cases ht
 · exact (Z06 h).elim
def U4h : FSpec := fs53.like fun (l, qi, port, _) => .br (akL l) (.br (U6 l port qi) (.ret (cutF l port qi, true, ())) (.ret (l, false, ()))) .no
theorem V4z : U4h.Ok Tryz.prog := by
 refine Q3 okf53 _ ?_
 rintro ⟨(l : List QRt), (qi : Int), (port : Int), _⟩ y h
 rcases Jl h with ⟨hc, h⟩ | ⟨_, h⟩
 · have hl := Nat.le_of_ble_eq_true hc
   have hlt := U13 (ipB qi port) l 0
   have hF : akF l 0 = true := by rw [akF, Nat.ble_eq_true_of_le (by omega)]; rfl
   rcases Jl h with ⟨hc, h⟩ | ⟨hc, h⟩
   · cases h
     rcases Vw (all := l) (p := port) (id := qi) with ⟨ht, he⟩ | ⟨ht, he⟩
     · rw [hc] at ht; cases ht
     · refine X2 (vs := [.list QR (cutF l port qi), .bool true]) rfl rfl (Tr.get_of_all ?_)
       show (t53 l qi port).all _
       unfold t53
       obtain ⟨k, hk⟩ : ∃ k : Nat, idxL (ipB qi port) l 0 = k := ⟨(idxL (ipB qi port) l 0).toNat, by omega⟩
       have e1 : cutF l port qi = l.take k ++ l.drop (k + 1) := by rw [cutF, hk, delR, Int.toNat_natCast]
       rw [e1, hk, IntWalk.i64_in _ (by omega), show ((k : Int) + 1).toNat = k + 1 by omega, show ((k : Int)).toNat = k by omega, show ((l.length : Int)).toNat = l.length by omega, show Int.toNat 0 = 0 from rfl]
       rw [show List.take (l.length - (k + 1)) (List.drop (k + 1) l) = List.drop (k + 1) l from List.take_of_length_le (by rw [List.length_drop]; omega)]
       simp only [List.length_drop, List.length_append, List.length_take, List.nil_append, List.drop_zero, Nat.sub_zero, Nat.zero_add, Int.toNat_natCast]
       repeat (first
        | exact Tr.all_ret rfl
        | refine Tr.all_t hF ?_
        | refine Tr.all_t (by simp only [Bool.and_eq_true, Bool.false_or, decide_eq_true_eq, beq_iff_eq]; omega) ?_
        | refine Tr.all_f (by simp only [Bool.and_eq_false_iff, Bool.false_or, decide_eq_false_iff_not, beq_eq_false_iff_ne, ne_eq]; omega) ?_
        | refine Tr.all_t (U5 (by omega) (by omega)) ?_)
   · cases h
     rcases Vw (all := l) (p := port) (id := qi) with ⟨ht, he⟩ | ⟨ht, he⟩
     · refine X2 (vs := [.list QR l, .bool false]) rfl rfl (Tr.get_of_all ?_)
       show (t53 l qi port).all _
       unfold t53
       exact Tr.all_t hF (Tr.all_t (J0 (by rw [he]; decide)) (Tr.all_ret rfl))
     · rw [hc] at ht; cases ht
 · exact (Z06 h).elim
def t16 (l : List QRt) (room : Int) (x : (Int × (QRt × Int))) (host room2 : Int) (all : List QRt) : Tr Res := .br (x.1 == 0) (.br (akT all x.2.2) (.br (decide (room2 ≤ (↑all.length : Int))) (.br (akT l x.2.2) (.br (decide (room ≤ (↑l.length : Int))) (.ret ([.list QR l, .bool (5 == 5)], [.boxT none [.int .u32 host, .int .i64 room2, .rowA 1], .row QR all])) (.br (Ui.1 == (Z6 l x.2.1 x.2.2).1 && (Ui.2.1 == (Z6 l x.2.1 x.2.2).2.1 && (Ui.2.2.1.1 == (Z6 l x.2.1 x.2.2).2.2.1.1 && (Ui.2.2.1.2 == (Z6 l x.2.1 x.2.2).2.2.1.2 && true) && (Ui.2.2.2.1.1 == (Z6 l x.2.1 x.2.2).2.2.2.1.1 && (Ui.2.2.2.1.2.1 == (Z6 l x.2.1 x.2.2).2.2.2.1.2.1 && (Ui.2.2.2.1.2.2 == (Z6 l x.2.1 x.2.2).2.2.2.1.2.2 && true)) && (Ui.2.2.2.2.1 == (Z6 l x.2.1 x.2.2).2.2.2.2.1 && (Ui.2.2.2.2.2.1 == (Z6 l x.2.1 x.2.2).2.2.2.2.2.1 && (Ui.2.2.2.2.2.2 == (Z6 l x.2.1 x.2.2).2.2.2.2.2.2 && true))))))) (.ret ([.list QR (l ++ [Z6 l x.2.1 x.2.2]), .bool (5 == 0)], [.boxT none [.int .u32 host, .int .i64 room2, .rowA 1], .row QR all])) (.ret ([.list QR (l ++ [Z6 l x.2.1 x.2.2]), .bool false], [.boxT none [.int .u32 host, .int .i64 room2, .rowA 1], .row QR all])))) .no) (.br (akT l x.2.2) (.br (decide (room ≤ (↑l.length : Int))) (.br ((Z6 all x.2.1 x.2.2).1 == Ui.1 && ((Z6 all x.2.1 x.2.2).2.1 == Ui.2.1 && ((Z6 all x.2.1 x.2.2).2.2.1.1 == Ui.2.2.1.1 && ((Z6 all x.2.1 x.2.2).2.2.1.2 == Ui.2.2.1.2 && true) && ((Z6 all x.2.1 x.2.2).2.2.2.1.1 == Ui.2.2.2.1.1 && ((Z6 all x.2.1 x.2.2).2.2.2.1.2.1 == Ui.2.2.2.1.2.1 && ((Z6 all x.2.1 x.2.2).2.2.2.1.2.2 == Ui.2.2.2.1.2.2 && true)) && ((Z6 all x.2.1 x.2.2).2.2.2.2.1 == Ui.2.2.2.2.1 && ((Z6 all x.2.1 x.2.2).2.2.2.2.2.1 == Ui.2.2.2.2.2.1 && ((Z6 all x.2.1 x.2.2).2.2.2.2.2.2 == Ui.2.2.2.2.2.2 && true))))))) (.ret ([.list QR l, .bool (0 == 5)], [.boxT none [.int .u32 host, .int .i64 room2, .rowA 1], .row QR (all ++ [Z6 all x.2.1 x.2.2])])) (.ret ([.list QR l, .bool false], [.boxT none [.int .u32 host, .int .i64 room2, .rowA 1], .row QR (all ++ [Z6 all x.2.1 x.2.2])]))) (.br ((Z6 all x.2.1 x.2.2).1 == (Z6 l x.2.1 x.2.2).1 && ((Z6 all x.2.1 x.2.2).2.1 == (Z6 l x.2.1 x.2.2).2.1 && ((Z6 all x.2.1 x.2.2).2.2.1.1 == (Z6 l x.2.1 x.2.2).2.2.1.1 && ((Z6 all x.2.1 x.2.2).2.2.1.2 == (Z6 l x.2.1 x.2.2).2.2.1.2 && true) && ((Z6 all x.2.1 x.2.2).2.2.2.1.1 == (Z6 l x.2.1 x.2.2).2.2.2.1.1 && ((Z6 all x.2.1 x.2.2).2.2.2.1.2.1 == (Z6 l x.2.1 x.2.2).2.2.2.1.2.1 && ((Z6 all x.2.1 x.2.2).2.2.2.1.2.2 == (Z6 l x.2.1 x.2.2).2.2.2.1.2.2 && true)) && ((Z6 all x.2.1 x.2.2).2.2.2.2.1 == (Z6 l x.2.1 x.2.2).2.2.2.2.1 && ((Z6 all x.2.1 x.2.2).2.2.2.2.2.1 == (Z6 l x.2.1 x.2.2).2.2.2.2.2.1 && ((Z6 all x.2.1 x.2.2).2.2.2.2.2.2 == (Z6 l x.2.1 x.2.2).2.2.2.2.2.2 && true))))))) (.ret ([.list QR (l ++ [Z6 l x.2.1 x.2.2]), .bool (0 == 0)], [.boxT none [.int .u32 host, .int .i64 room2, .rowA 1], .row QR (all ++ [Z6 all x.2.1 x.2.2])])) (.ret ([.list QR (l ++ [Z6 l x.2.1 x.2.2]), .bool false], [.boxT none [.int .u32 host, .int .i64 room2, .rowA 1], .row QR (all ++ [Z6 all x.2.1 x.2.2])])))) .no)) .no) (.br (x.1 == 1) (.br (akL all) (.br (U6 all x.2.1.2.1 x.2.1.1) (.br (akL l) (.br (U6 l x.2.1.2.1 x.2.1.1) (.ret ([.list QR (cutF l x.2.1.2.1 x.2.1.1), .bool (true == true)], [.boxT none [.int .u32 host, .int .i64 room2, .rowA 2], .row QR all, .row QR (cutF all x.2.1.2.1 x.2.1.1)])) (.ret ([.list QR l, .bool (true == false)], [.boxT none [.int .u32 host, .int .i64 room2, .rowA 2], .row QR all, .row QR (cutF all x.2.1.2.1 x.2.1.1)]))) .no) (.br (akL l) (.br (U6 l x.2.1.2.1 x.2.1.1) (.ret ([.list QR (cutF l x.2.1.2.1 x.2.1.1), .bool (false == true)], [.boxT none [.int .u32 host, .int .i64 room2, .rowA 1], .row QR all])) (.ret ([.list QR l, .bool (false == false)], [.boxT none [.int .u32 host, .int .i64 room2, .rowA 1], .row QR all]))) .no)) .no) (.br (akS all [] (↑all.length : Int) 0) (.br (akW (List.filter (Qj x.2.1.2.2.2.2.2.2 x.2.2) all) [] 0) (.br (akW l [] 0) (.br ((↑(List.length (List.filter (Qj x.2.1.2.2.2.2.2.2 x.2.2) all)) : Int) != (↑(List.length (List.filter (Zi x.2.1.2.2.2.2.2.2 x.2.2) l)) : Int)) (.ret ([.list QR l, .bool false], [.boxT none [.int .u32 host, .int .i64 room2, .rowA 1], .row QR all])) (.br (akP (List.filter (Qj x.2.1.2.2.2.2.2.2 x.2.2) all) (List.filter (Zi x.2.1.2.2.2.2.2.2 x.2.2) l) 0) (.br (Ql (List.filter (Qj x.2.1.2.2.2.2.2.2 x.2.2) all) (List.filter (Zi x.2.1.2.2.2.2.2.2 x.2.2) l)) (.ret ([.list QR l, .bool true], [.boxT none [.int .u32 host, .int .i64 room2, .rowA 1], .row QR all])) (.ret ([.list QR l, .bool false], [.boxT none [.int .u32 host, .int .i64 room2, .rowA 1], .row QR all]))) .no)) .no) .no) .no))
def os16 : OSpec := { f := 16, sh := [.ptr 0 0, .d (.list QR) false, .d (.int .i64) false, .d DE true], so := [.box [.d (.int .u32) false, .d (.int .i64) false, .row 1], .row QR], F := fun (l, room, x, _) ((host, room2, _), all, _) => t16 l room x host room2 all }
theorem fn16 (l : List QRt) (room : Int) (x : (Int × (QRt × Int))) (host room2 : Int) (all : List QRt) : evC T16 (orcB [fs50, fs25, fs19, Q4l, U4h, fs55, fs18] [X4f, U4f, os54]) (lpOf h16 2 (lsOf [])) c16 1000000 (V1 [.ptr 0 0, .list QR l, .int .i64 room, AV.ofTy DE x true] [.box [.int .u32 host, .int .i64 room2, .rowA 1], .row QR all] Tryz.f16.ntmps) (J1 T16 false 2 Tryz.f16) = (t16 l room x host room2 all).get := by kernel_rfl
theorem ok16 : os16.Ok Tryz.prog := by
 refine V3 Q1 (U3k tab0 v16 u16) (X0 (all_cons okf50 (all_cons U2r (all_cons J4n (all_cons U4t (all_cons V4z (all_cons okf55 (all_cons V4k all_nil))))))) (all_cons ok48p (all_cons ok52p (all_cons ok54 all_nil)))) h16 (d := 0) (n0 := 2) (S := lsOf []) Tryz.func16 (by kernel_rfl) (c := c16) (by kernel_rfl) rfl (Z3 (by kernel_rfl)) (by omega) (by kernel_rfl) ?_
 intro x'' y'' q'' hq''
 obtain ⟨(l : List QRt), (room : Int), (x : (Int × (QRt × Int))), _⟩ := x''
 obtain ⟨⟨(host : Int), (room2 : Int), _⟩, (all : List QRt), _⟩ := y''
 exact (fn16 l room x host room2 all).trans hq''
def rgK (q : QRt) : Bool := decide (0 ≤ q.2.2.2.2.2.2) && decide (q.2.2.2.2.2.2 < 18446744073709551616)
def rgD (x : DEt) : Bool := (decide (0 ≤ x.2.2) && decide (x.2.2 < 4294967296)) && rgK x.2.1
def J6 (room : Int) (all : List QRt) (x : DEt) : List QRt :=
 bif x.1 == 0 then (bif decide (room ≤ (all.length : Int)) then all else all ++ [Z6 all x.2.1 x.2.2]) else bif x.1 == 1 then (bif U6 all x.2.1.2.1 x.2.1.1 then cutF all x.2.1.2.1 x.2.1.1 else all) else all
def akG (l all : List QRt) (room room2 : Int) (x : DEt) : Bool := Ql l all && (decide (room = room2) && (akL all && (rgD x && all.all rgK)))
theorem V3a {s b : Int} (hs : 0 ≤ s ∧ s < 18446744073709551616) (hb : 0 ≤ b ∧ b < 4294967296) : U0l s b = J0w s b := by
 have e1 : IntKind.wrap IntKind.u64 b = b := by show b % 18446744073709551616 = b; omega
 have e2 : IntKind.wrap IntKind.u64 (18446744073709551615 - s) = 18446744073709551615 - s := by show (18446744073709551615 - s) % 18446744073709551616 = _; omega
 have e3 : IntKind.wrap IntKind.u64 (s + b) = (s + b) % 18446744073709551616 := rfl
 unfold U0l J0w
 rw [e1, e2, e3]
 by_cases h : b > 18446744073709551615 - s
 · rw [J0 h, J0 (by omega)]
 · rw [Z0 h, Z0 (by omega)]
theorem X44 {now b : Int} {q : QRt} (hq : rgK q = true) (hb : 0 ≤ b ∧ b < 4294967296) : Qj now b q = Zi now b q := by
 simp only [rgK, Bool.and_eq_true, decide_eq_true_eq] at hq
 unfold Qj Zi
 rw [V3a hq hb]
 by_cases h : J0w q.2.2.2.2.2.2 b > now
 · rw [J0 h, Z0 (by omega)]
   rfl
 · rw [Z0 h, J0 (by omega)]
   rfl
theorem Q3w {now b : Int} {all : List QRt} (hq : all.all rgK = true) (hb : 0 ≤ b ∧ b < 4294967296) : all.filter (Qj now b) = all.filter (Zi now b) :=
 List.filter_congr fun q h => X44 (List.all_eq_true.1 hq q h) hb
def X1f : OSpec := os16.like fun (l, room, x, _) ((host, room2, _), all, _) => .br (akG l all room room2 x) (.br ((Prod.fst x == 1) && U6 all (Prod.fst (Prod.snd (Prod.fst (Prod.snd x)))) (Prod.fst (Prod.fst (Prod.snd x)))) (.ret ([.list QR (J6 room2 all x), .bool true], [.box [.int .u32 host, .int .i64 room2, .rowA 2], .row QR all, .row QR (J6 room2 all x)])) (.ret ([.list QR (J6 room2 all x), .bool true], [.box [.int .u32 host, .int .i64 room2, .rowA 1], .row QR (J6 room2 all x)]))) .no
theorem ok16p : X1f.Ok Tryz.prog := by
 refine Uv ok16 _ ?_
 rintro ⟨(l : List QRt), (room : Int), (x : DEt), _⟩ ⟨⟨(host : Int), (room2 : Int), _⟩, (all : List QRt), _⟩ r h
 refine Tr.get_of_all ?_
 show (t16 l room x host room2 all).all _
 rcases Jl h with ⟨hc, h⟩ | ⟨_, h⟩
 · simp only [akG, Bool.and_eq_true, decide_eq_true_eq] at hc
   obtain ⟨h1, rfl, h2, h3, h4⟩ := hc
   obtain rfl := Xx.1 h1
   have hl := Nat.le_of_ble_eq_true h2
   simp only [rgD, Bool.and_eq_true, decide_eq_true_eq] at h3
   obtain ⟨hd, hx⟩ := h3
   have hT : akT l x.2.2 = true := by rw [akT, Nat.ble_eq_true_of_le hl, J0 hd.1, J0 hd.2]; rfl
   unfold t16
   by_cases k0 : x.1 == 0
   · have k1 : (x.1 == 1) = false := by have := eq_of_beq k0; rw [this]; rfl
     rcases Jl h with ⟨hc, h⟩ | ⟨_, h⟩
     · simp only [Bool.and_eq_true] at hc
       have hc := hc.1
       rw [show (Prod.fst x == 1) = (x.1 == 1) from rfl, k1] at hc
       cases hc
     · cases h
       refine Tr.all_t k0 (Tr.all_t hT ?_)
       unfold J6
       rw [k0, cond_true]
       by_cases hr : room ≤ (l.length : Int)
       · rw [J0 hr]
         exact Tr.all_t rfl (Tr.all_t hT (Tr.all_t rfl (Tr.all_ret rfl)))
       · rw [Z0 hr]
         refine Tr.all_f rfl (Tr.all_t hT (Tr.all_f rfl (Tr.all_t ?_ (Tr.all_ret rfl))))
         exact J1v.2 rfl
   · have k0 : (x.1 == 0) = false := by simpa using k0
     refine Tr.all_f k0 ?_
     by_cases k1 : x.1 == 1
     · have hst : J6 room l x = bif U6 l x.2.1.2.1 x.2.1.1 then cutF l x.2.1.2.1 x.2.1.1 else l := by unfold J6; rw [k0, k1, cond_false, cond_true]
       refine Tr.all_t k1 (Tr.all_t h2 ?_)
       rcases Jl h with ⟨hc, h⟩ | ⟨hc, h⟩
       · cases h
         simp only [Bool.and_eq_true] at hc
         have hc : U6 l x.2.1.2.1 x.2.1.1 = true := hc.2
         rw [hst, hc]
         exact Tr.all_t rfl (Tr.all_t h2 (Tr.all_t rfl (Tr.all_ret rfl)))
       · cases h
         have hc : ((x.1 == 1) && U6 l x.2.1.2.1 x.2.1.1) = false := hc
         rw [k1, Bool.true_and] at hc
         rw [hst, hc]
         exact Tr.all_f rfl (Tr.all_t h2 (Tr.all_f rfl (Tr.all_ret rfl)))
     · have k1 : (x.1 == 1) = false := by simpa using k1
       have hst : J6 room l x = l := by unfold J6; rw [k0, k1]; rfl
       rcases Jl h with ⟨hc, h⟩ | ⟨hc, h⟩
       · simp only [Bool.and_eq_true] at hc
         have hc := hc.1
         rw [show (Prod.fst x == 1) = (x.1 == 1) from rfl, k1] at hc
         cases hc
       · cases h
         have hfl := List.length_filter_le (Qj x.2.1.2.2.2.2.2.2 x.2.2) l
         have hfe := Q3w (now := x.2.1.2.2.2.2.2.2) h4 hd
         rw [hst]
         refine Tr.all_f k1 (Tr.all_t (by rw [akS, Nat.ble_eq_true_of_le hl, J0 rfl, J0 rfl]; rfl) (Tr.all_t (by rw [akW, Nat.ble_eq_true_of_le (by omega)]; rfl) (Tr.all_t (by rw [akW, Nat.ble_eq_true_of_le hl]; rfl) ?_)))
         rw [← hfe]
         refine Tr.all_f (by simp) (Tr.all_t (by rw [akP, Nat.ble_eq_true_of_le (by omega), J0 rfl]; rfl) (Tr.all_t (Xx.2 rfl) (Tr.all_ret rfl)))
 · exact (Z06 h).elim
theorem X2k {α β : Type} (f : β → α → β) (b : β) (l : List α) (k : Nat) (d : α) (h : k < l.length) : (l.take (k + 1)).foldl f b = f ((l.take k).foldl f b) (l.getD k d) := by
 rw [List.take_add_one, List.getElem?_eq_getElem h, List.foldl_append, List.getD_eq_getElem?_getD, List.getElem?_eq_getElem h]
 rfl
def okK (room : Int) (all : List QRt) : Prop := (all.length : Int) ≤ room ∧ all.all rgK = true
theorem V3o {all : List QRt} {i : Int} : (∀ q ∈ delR all i, q ∈ all) ∧ (delR all i).length ≤ all.length := by
 unfold delR
 refine ⟨fun q h => ?_, ?_⟩
 · rcases List.mem_append.1 h with h | h
   · exact List.mem_of_mem_take h
   · exact List.mem_of_mem_drop h
 · rw [List.length_append, List.length_take, List.length_drop]
   omega
theorem U2q {room : Int} {all : List QRt} {x : DEt} (h : okK room all) (hx : rgD x = true) : okK room (J6 room all x) := by
 obtain ⟨h1, h2⟩ := h
 simp only [rgD, Bool.and_eq_true] at hx
 unfold J6
 cases x.1 == 0 with
 | true =>
   rw [cond_true]
   by_cases hr : room ≤ (all.length : Int)
   · rw [J0 hr]; exact ⟨h1, h2⟩
   · rw [Z0 hr]
     refine ⟨?_, ?_⟩
     · rw [cond_false, List.length_append, List.length_singleton]; omega
     · rw [cond_false, List.all_append, h2, List.all_cons, List.all_nil]
       exact Bool.and_eq_true_iff.2 ⟨rfl, Bool.and_eq_true_iff.2 ⟨hx.2, rfl⟩⟩
 | false =>
   rw [cond_false]
   cases x.1 == 1 with
   | false => exact ⟨h1, h2⟩
   | true =>
     rw [cond_true]
     cases U6 all x.2.1.2.1 x.2.1.1 with
     | false => exact ⟨h1, h2⟩
     | true =>
       have hs := V3o (all := all) (i := idxL (ipB x.2.1.1 x.2.1.2.1) all 0)
       refine ⟨?_, List.all_eq_true.2 fun q hq => List.all_eq_true.1 h2 q (hs.1 q hq)⟩
       have : (cutF all x.2.1.2.1 x.2.1.1).length ≤ all.length := hs.2
       rw [cond_true]
       omega
theorem U3b {α : Type} {p : α → Bool} {l : List α} (h : l.all p = true) {k : Nat} (hk : k < l.length) (d : α) : p (l.getD k d) = true := by
 rw [List.getD_eq_getElem?_getD, List.getElem?_eq_getElem hk]
 exact List.all_eq_true.1 h _ (List.getElem_mem hk)
open Go
def Z9 {R : Type} (n : Nat) (K : Nat → Option R) : Option R := match n with | 0 => K 0 | m + 1 => K (Nat.succ m)
theorem Xc {R : Type} (n : Nat) (K : Nat → Option R) : Z9 n K = K n := by cases n <;> rfl
def Q0n {R : Type} (n : Int) (K : Int → Option R) : Option R := match n with | .ofNat m => Z9 m fun m => K (.ofNat m) | .negSucc m => Z9 m fun m => K (.negSucc m)
theorem X11 {R : Type} (n : Int) (K : Int → Option R) : Q0n n K = K n := by cases n <;> simp only [Q0n, Xc]
def Xg {α R : Type} (f : α → (α → Option R) → Option R) : List α → (List α → Option R) → Option R
 | [], K => K []
 | x :: xs, K => f x fun x => Xg f xs fun xs => K (x :: xs)
theorem Zc {α R : Type} {f : α → (α → Option R) → Option R} (hf : ∀ x K, f x K = K x) : ∀ (xs : List α) (K : List α → Option R), Xg f xs K = K xs
 | [], K => rfl
 | x :: xs, K => by simp only [Xg]; rw [hf, Zc hf xs]
def U14 {R : Type} (b : UInt8) (K : UInt8 → Option R) : Option R := Z9 b.toNat fun n => K (UInt8.ofNat n)
theorem J1d {R : Type} (b : UInt8) (K : UInt8 → Option R) : U14 b K = K b := by
 simp only [U14, Xc]
 congr 1
 exact UInt8.ofNat_toNat
def U1w {R : Type} (b : Bool) (K : Bool → Option R) : Option R := match b with | true => K true | false => K false
theorem J0u {R : Type} (b : Bool) (K : Bool → Option R) : U1w b K = K b := by cases b <;> rfl
def V01 {R : Type} : (t : Ty) → t.den → (t.den → Option R) → Option R
 | .int _, n, K => Q0n n K
 | .bool, b, K => U1w b K
 | .str, s, K => Xg U14 s K
 | .unit, _, K => K ()
 | .list t, xs, K => Xg (V01 t) xs K
 | .pair a b, x, K => V01 a x.1 fun y => V01 b x.2 fun z => K (y, z)
theorem Qm {R : Type} : ∀ (t : Ty) (x : t.den) (K : t.den → Option R), V01 t x K = K x
 | .int _, n, K => X11 n K
 | .bool, b, K => J0u b K
 | .str, s, K => Zc (fun x K => J1d x K) s K
 | .unit, _, K => rfl
 | .list t, xs, K => Zc (fun x K => Qm t x K) xs K
 | .pair a b, x, K => by simp only [V01]; rw [Qm a, Qm b]
mutual
def Vd {R : Type} : AV → (AV → Option R) → Option R
 | .int k n, K => Q0n n fun n => K (.int k n)
 | .bool b, K => U1w b fun b => K (.bool b)
 | .str s, K => Xg U14 s fun s => K (.str s)
 | .list t xs, K => Xg (V01 t) xs fun xs => K (.list t xs)
 | .agg cs, K => Vo cs fun cs => K (.agg cs)
 | .tup cs, K => Vo cs fun cs => K (.tup cs)
 | .np, K => K .np
 | .nm, K => K .nm
 | .nf, K => K .nf
 | .ns, K => K .ns
 | .ptr k off, K => Z9 k fun k => Z9 off fun off => K (.ptr k off)
 | .rptr k t i off, K => Z9 k fun k => Z9 i fun i => Z9 off fun off => K (.rptr k t i off)
 | .lptr t xs i off, K => Xg (V01 t) xs fun xs => Z9 i fun i => Z9 off fun off => K (.lptr t xs i off)
 | .rowA k, K => Z9 k fun k => K (.rowA k)
 | .rowS k off n c, K => Z9 k fun k => Z9 off fun off => Z9 n fun n => U1w c fun c => K (.rowS k off n c)
 | .mp k, K => Z9 k fun k => K (.mp k)
 | .psl k n, K => Z9 k fun k => Z9 n fun n => K (.psl k n)
 | .fn g cs, K => Vo cs fun cs => K (.fn g cs)
 | .undef, K => K .undef
 | .dead, K => K .dead
def Vo {R : Type} : List AV → (List AV → Option R) → Option R
 | [], K => K []
 | v :: vs, K => Vd v fun v => Vo vs fun vs => K (v :: vs)
end
mutual
theorem X2w {R : Type} : ∀ (v : AV) (K : AV → Option R), Vd v K = K v
 | .int k n, K => by simp only [Vd, X11]
 | .bool b, K => by simp only [Vd, J0u]
 | .str s, K => by simp only [Vd]; rw [Zc (fun x K => J1d x K)]
 | .list t xs, K => by simp only [Vd]; rw [Zc (fun x K => Qm t x K)]
 | .agg cs, K => by simp only [Vd]; rw [Vm cs]
 | .tup cs, K => by simp only [Vd]; rw [Vm cs]
 | .np, K => by simp only [Vd]
 | .nm, K => by simp only [Vd]
 | .nf, K => by simp only [Vd]
 | .ns, K => by simp only [Vd]
 | .ptr k off, K => by simp only [Vd, Xc]
 | .rptr k t i off, K => by simp only [Vd, Xc]
 | .lptr t xs i off, K => by simp only [Vd]; rw [Zc (fun x K => Qm t x K)]; simp only [Xc]
 | .rowA k, K => by simp only [Vd, Xc]
 | .rowS k off n c, K => by simp only [Vd, Xc, J0u]
 | .mp k, K => by simp only [Vd, Xc]
 | .psl k n, K => by simp only [Vd, Xc]
 | .fn g cs, K => by simp only [Vd]; rw [Vm cs]
 | .undef, K => by simp only [Vd]
 | .dead, K => by simp only [Vd]
theorem Vm {R : Type} : ∀ (vs : List AV) (K : List AV → Option R), Vo vs K = K vs
 | [], K => by simp only [Vo]
 | v :: vs, K => by simp only [Vo]; rw [X2w v, Vm vs]
end
def Z0q {R : Type} (o : LObj) (K : LObj → Option R) : Option R :=
 match o with
 | .boxT g cs => Vo cs fun cs => (match g with | none => K (.boxT none cs) | some n => Z9 n fun n => K (.boxT (some n) cs))
 | .row t xs => Xg (V01 t) xs fun xs => K (.row t xs)
 | .mpo kt vt es => Xg (fun e K => V01 kt e.1 fun a => V01 vt e.2 fun b => K (a, b)) es fun es => K (.mpo kt vt es)
 | .gone => K .gone
theorem V2k {R : Type} (o : LObj) (K : LObj → Option R) : Z0q o K = K o := by
 cases o with
 | boxT g cs => simp only [Z0q]; rw [Vm]; cases g <;> simp only [Xc]
 | row t xs => simp only [Z0q]; rw [Zc (fun x K => Qm t x K)]
 | mpo kt vt es => simp only [Z0q]; rw [Zc (fun e K => by rw [Qm, Qm])]
 | gone => rfl
def Q0s {R : Type} (os : List LObj) (K : List LObj → Option R) : Option R := Xg Z0q os K
theorem Q0z {R : Type} (os : List LObj) (K : List LObj → Option R) : Q0s os K = K os := Zc (fun o K => V2k o K) os K
def V1n {R : Type} (keep : List Nat) (n0 : Nat) (st : St) (K : St → Option R) : Option R :=
 Vo (J1c keep n0 st).1 fun vs => Q0s (J1c keep n0 st).2 fun os => K (stOf keep vs os)
theorem X2c {R : Type} (keep : List Nat) (n0 : Nat) (st : St) (K : St → Option R) : V1n keep n0 st K = K (norm keep n0 st) := by
 simp only [V1n, Vm, Q0z]
 rfl
def Z2p (keep keepX : List Nat) (n0 : Nat) : Ex → St → Option (St ⊕ (Ex × St))
 | .normal, st => V1n keep n0 st fun st => some (.inl st)
 | .exit i, st => V1n keepX n0 st fun st => some (.inr (.exit i, st))
 | .ret, st => V1n keepX n0 st fun st => some (.inr (.ret, st))
theorem X32 (keep keepX : List Nat) (n0 : Nat) : Z2p keep keepX n0 = U0 keep keepX n0 := by
 funext e st
 cases e <;> simp only [Z2p, X2c, U0]
def lpC (T : Tab) (orc : Orc) (H : Hint) (n0 fuel : Nat) : Nat → Lp
 | 0 => fun _ _ _ => .no
 | n + 1 => fun bid body st =>
   .of (V1n (H.keep bid) n0 st fun st => Ul (fun st => evC T orc (lpC T orc H n0 fuel n) body bid st (Z2p (H.keep bid) (H.keepX bid) n0)) fuel st)
theorem J1i {F F' : St → Option (St ⊕ (Ex × St))} (h : ∀ st r, F st = some r → F' st = some r) {r : Ex × St} : ∀ (n : Nat) (st : St), Ul F n st = some r → Ul F' n st = some r
 | 0, _, h0 => by simp [Ul] at h0
 | n + 1, st, h0 => by
   simp only [Ul] at h0 ⊢
   split at h0
   · cases h0
   · rename_i r' hr
     rw [h _ _ hr]
     exact h0
   · rename_i st' hr
     rw [h _ _ hr]
     exact J1i h n st' h0
theorem U2s {T : Tab} {orc : Orc} {H : Hint} {n0 fuel : Nat} : ∀ (n : Nat) (bid : Nat) (body : Code) (st : St) (q : Ex × St), (lpC T orc H n0 fuel n bid body st).get = some q → (lpN T orc H n0 n bid body st).get = some q
 | 0, _, _, _, _, h => by simp [lpC, Tr.get] at h
 | n + 1, bid, body, st, q, h => by
   simp only [lpC, lpN, Tr.get_of, X2c, X32] at h ⊢
   exact Z0s (J1i (fun st r hr => Ju body bid st _ _ (fun x _ st q hq => U2s n x.1 x.2 st q hq) (fun _ _ h => h) hr) _ _ h)
def X3s (T : Tab) (orc : Orc) (H : Hint) (fuel : Nat) (fn : Func) (args : List AV) (objs : List LObj) : Option Res :=
 match fn.body with
 | none => none
 | some c => bif Qk fn.ntmps c && Nat.ble args.length fn.ntmps then evC T orc (lpC T orc H objs.length fuel 8) c 1000000 (V1 args objs fn.ntmps) (J1 T H.own objs.length fn) else none
theorem Z2x {T : Tab} {orc : Orc} {H : Hint} {fuel : Nat} {fn : Func} {args : List AV} {objs : List LObj} {r : Res} (h : X3s T orc H fuel fn args objs = some r) : evFn T orc H fn args objs = some r := by
 unfold X3s at h
 unfold evFn
 split at h
 · cases h
 · rename_i c hb
   rw [hb]
   simp only
   cases hd : (Qk fn.ntmps c && Nat.ble args.length fn.ntmps) with
   | false => rw [hd] at h; cases h
   | true =>
     rw [hd] at h
     simp only [cond_true] at h ⊢
     exact Ju c 1000000 _ _ _ (fun x _ st q hq => U2s 8 x.1 x.2 st q hq) (fun _ _ h => h) h
abbrev Fns := List (Nat × (Tab × Hint × Func))
def fnAt : Fns → Nat → Option (Tab × Hint × Func)
 | [], _ => none
 | e :: es, f => bif Nat.beq e.1 f then some e.2 else fnAt es f
def orcD (tb : Fns) (base : Orc) (fuel : Nat) : Nat → Orc
 | 0 => fun _ _ _ => .no
 | n + 1 => fun f args objs => match fnAt tb f with
   | none => base f args objs
   | some e => .of (Vo args fun args => Q0s objs fun objs => match X3s e.1 (orcD tb base fuel n) e.2.1 fuel e.2.2 args objs with
     | none => none
     | some r => Vo r.1 fun vs => Q0s r.2 fun os => some (vs, os))
def FnOk (P : Program) (e : Nat × (Tab × Hint × Func)) : Prop := J5 P e.2.1 ∧ P.funcs[e.1]? = some e.2.2.2 ∧ e.2.2.2.name ≠ "runtime.NumGoroutine"
theorem Q2s {P : Program} : ∀ {tb : Fns}, (∀ e ∈ tb, FnOk P e) → ∀ {f : Nat} {e : Tab × Hint × Func}, fnAt tb f = some e → FnOk P (f, e)
 | [], _, _, _, h => by cases h
 | x :: xs, hx, f, e, h => by
   simp only [fnAt] at h
   cases hb : Nat.beq x.1 f with
   | true =>
     rw [hb] at h
     simp only [cond_true, Option.some.injEq] at h
     have h1 := hx x (by simp)
     subst h
     obtain rfl := Nat.eq_of_beq_eq_true hb
     exact h1
   | false =>
     rw [hb] at h
     exact Q2s (fun y hy => hx y (List.mem_cons_of_mem _ hy)) h
theorem J1h {P : Program} (hmo : P.follows .mixedOrders = true) {tb : Fns} (htb : ∀ e ∈ tb, FnOk P e) {base : Orc} (hB : Za P base) (fuel : Nat) : ∀ n, Za P (orcD tb base fuel n)
 | 0 => fun f args objs res objs' h => by simp [orcD, Tr.get] at h
 | n + 1 => fun f args objs res objs' h => by
   simp only [orcD] at h
   split at h
   · exact hB _ _ _ _ _ h
   · rename_i e he
     obtain ⟨h1, h2, h3⟩ := Q2s htb he
     simp only [Tr.get_of, Vm, Q0z] at h
     split at h
     · cases h
     · rename_i r hr
       have h := Option.some.inj h
       rw [Prod.eta] at h
       subst h
       exact Q1g hmo h1 (J1h hmo htb hB fuel n) h2 h3 (Z2x hr)
noncomputable def tbl13 : Fns := [(13, T13, h13, Tryz.f13), (14, T14, h14, Tryz.f14), (17, T17, h17, Tryz.f17), (36, T36, h36, Tryz.f36), (40, T40, h40, Tryz.f40), (42, T42, h42, Tryz.f42), (48, T48, h48, Tryz.f48), (49, T49, h49, Tryz.f49), (58, T58, h58, Tryz.f58), (65, T65, h65, Tryz.f65), (66, T66, h66, Tryz.f66), (67, T67, h67, Tryz.f67), (68, T68, h68, Tryz.f68), (69, T69, h69, Tryz.f69), (70, T70, h70, Tryz.f70), (86, T86, h86, Tryz.f86), (87, T87, h87, Tryz.f87), (98, T98, h98, Tryz.f98), (99, T99, h99, Tryz.f99), (100, T100, h100, Tryz.f100), (101, T101, h101, Tryz.f101), (102, T102, h102, Tryz.f102), (103, T103, h103, Tryz.f103), (104, T104, h104, Tryz.f104), (105, T105, h105, Tryz.f105), (106, T106, h106, Tryz.f106), (107, T107, h107, Tryz.f107), (108, T108, h108, Tryz.f108), (109, T109, h109, Tryz.f109), (110, { T110 with kns := true }, h110, Tryz.f110), (111, T111, h111, Tryz.f111), (127, T127, h127, Tryz.f127), (133, T133, h133, Tryz.f133), (134, T134, h134, Tryz.f134), (135, T135, h135, Tryz.f135), (136, T136, h136, Tryz.f136), (137, T137, h137, Tryz.f137), (138, T138, h138, Tryz.f138), (139, { T139 with kns := true }, hOwn h139, Tryz.f139), (149, T149, h149, Tryz.f149), (153, T153, h153, Tryz.f153), (154, T154, h154, Tryz.f154), (155, T155, h155, Tryz.f155), (156, T156, h156, Tryz.f156), (159, T159, h159, Tryz.f159)]
theorem Q3z : ∀ e ∈ tbl13, FnOk Tryz.prog e := all_cons ⟨tab0, Tryz.func13, by decide⟩ (all_cons ⟨tab0, Tryz.func14, by decide⟩ (all_cons ⟨tab0, Tryz.func17, by decide⟩ (all_cons ⟨tab0, Tryz.func36, by decide⟩ (all_cons ⟨tab0, Tryz.func40, by decide⟩ (all_cons ⟨tab0, Tryz.func42, by decide⟩ (all_cons ⟨tab0, Tryz.func48, by decide⟩ (all_cons ⟨tab0, Tryz.func49, by decide⟩ (all_cons ⟨tab0, Tryz.func58, by decide⟩ (all_cons ⟨tab0, Tryz.func65, by decide⟩ (all_cons ⟨tab0, Tryz.func66, by decide⟩ (all_cons ⟨tab0, Tryz.func67, by decide⟩ (all_cons ⟨tab0, Tryz.func68, by decide⟩ (all_cons ⟨tab0, Tryz.func69, by decide⟩ (all_cons ⟨tab0, Tryz.func70, by decide⟩ (all_cons ⟨tab0, Tryz.func86, by decide⟩ (all_cons ⟨tab0, Tryz.func87, by decide⟩ (all_cons ⟨tab0, Tryz.func98, by decide⟩ (all_cons ⟨tab0, Tryz.func99, by decide⟩ (all_cons ⟨tab0, Tryz.func100, by decide⟩ (all_cons ⟨tab0, Tryz.func101, by decide⟩ (all_cons ⟨tab0, Tryz.func102, by decide⟩ (all_cons ⟨tab0, Tryz.func103, by decide⟩ (all_cons ⟨tab0, Tryz.func104, by decide⟩ (all_cons ⟨tab0, Tryz.func105, by decide⟩ (all_cons ⟨tab0, Tryz.func106, by decide⟩ (all_cons ⟨tab0, Tryz.func107, by decide⟩ (all_cons ⟨tab0, Tryz.func108, by decide⟩ (all_cons ⟨tab0, Tryz.func109, by decide⟩ (all_cons ⟨(Z1z (T := T110) tab0), Tryz.func110, by decide⟩ (all_cons ⟨tab0, Tryz.func111, by decide⟩ (all_cons ⟨tab0, Tryz.func127, by decide⟩ (all_cons ⟨tab0, Tryz.func133, by decide⟩ (all_cons ⟨tab0, Tryz.func134, by decide⟩ (all_cons ⟨tab0, Tryz.func135, by decide⟩ (all_cons ⟨tab0, Tryz.func136, by decide⟩ (all_cons ⟨tab0, Tryz.func137, by decide⟩ (all_cons ⟨tab0, Tryz.func138, by decide⟩ (all_cons ⟨(Z1z (T := T139) tab0), Tryz.func139, by decide⟩ (all_cons ⟨tab0, Tryz.func149, by decide⟩ (all_cons ⟨tab0, Tryz.func153, by decide⟩ (all_cons ⟨tab0, Tryz.func154, by decide⟩ (all_cons ⟨tab0, Tryz.func155, by decide⟩ (all_cons ⟨tab0, Tryz.func156, by decide⟩ (all_cons ⟨tab0, Tryz.func159, by decide⟩ (all_nil)))))))))))))))))))))))))))))))))))))))))))))
theorem Z50 : SemF Tryz.prog 13 [] [] [.bool true] [] := J1h Q1 Q3z (X0 (fs := [fs97]) (os := []) (all_cons J4l (all_nil)) (all_nil)) 80 40 13 [] [] [.bool true] [] (by kernel_rfl)
def V0h : QRt := (0, 0, (0, 0), ([], 0, 0), [], 0, 0)
def atK (l : List QRt) (i : Int) : QRt := List.getD l (Int.toNat i) V0h
def q0 (mq : List QQt) : QQt := List.getD mq 0 ([], 0, 0)
def svB (fh fp : Int) (mq : List QQt) (x : QRt) : Bool := (fh == x.2.2.1.1 && (fp == x.2.2.1.2 && true)) && ((q0 mq).1 == x.2.2.2.1.1 && ((q0 mq).2.1 == x.2.2.2.1.2.1 && ((q0 mq).2.2 == x.2.2.2.1.2.2 && true)))
def rtB (host th : Int) (mqr : Bool) (mop : Int) (mq : List QQt) : Bool := (th == host) && (mqr && ((mop == 0) && ((mq.length : Int) == 1)))
def hitB (host fh fp th tp mi : Int) (mqr : Bool) (mop : Int) (mq : List QQt) (x : QRt) : Bool := rtB host th mqr mop mq && (((tp == x.2.1) && (mi == x.1)) && svB fh fp mq x)
def hitI (host fh fp th tp mi : Int) (mqr : Bool) (mop : Int) (mq : List QQt) (l : List QRt) : Int := idxL (hitB host fh fp th tp mi mqr mop mq) l 0
def mtC (l : List QRt) (i : Int) : Bool := Nat.ble l.length 1000 && decide (i = 0)
noncomputable def b24 : Code := Z4 c24 0
def ls24 : LoopSpec := { bid := 0, sh := [.d (.int .u32) false, .d (.list QR) false, .ptr 0 0, .ptr 1 0, .ptr 2 0, .ptr 7 0, .d (.int .i64) false, .d (.int .i64) false], so := [.box [.d (.int .u32) false, .d (.int .u16) false, .d (.int .u32) false, .d (.int .u16) false, .d .str false], .box [.d (.int .u16) false, .d (.int .u16) false, .d (.int .u32) false, .d (.int .u16) false, .d .str false, .d (.int .u16) false, .d (.int .u16) false, .d .str false, .d (.int .i64) false, .d (.int .u64) false], .box [.d (.int .u16) false, .d .bool false, .d .bool false, .d .bool false, .d .bool false, .d .bool false, .d (.int .i64) false, .d (.int .i64) false, .row 3, .row 4, .row 5, .row 6], .row QQ, .row RR, .row RR, .row RR, .box [.d (.int .u16) false, .d .bool false, .d .bool false, .d .bool false, .d .bool false, .d .bool false, .d (.int .i64) false, .d (.int .i64) false, .d (.list QQ) false, .d (.list RR) false, .d (.list RR) false, .d (.list RR) false]], F := fun (host, l, bad, i, _) ((fh, fp, th, tp, pd, _), (xi, xp, xh, xo, xn, xt, xc, xz, xw, xs, _), (yi, yqr, yaa, ytc, yrd, yra, yop, yrc, _), zq, za, zn, zr, (mi, mqr, maa, mtc, mrd, mra, mop, mrc, mq, man, mns, mar, _), _) => .on2 (mtC l i) (!(decide (bad = 0)) || decide (hitI host fh fp th tp mi mqr mop mq l < 0)) (.exit 0, [.ptr 0 0, .ptr 1 0, .dead], [.box [.int .u16 xi, .int .u16 xp, .int .u32 xh, .int .u16 xo, .str xn, .int .u16 xt, .int .u16 xc, .str xz, .int .i64 xw, .int .u64 xs], .box [.int .u16 yi, .bool yqr, .bool yaa, .bool ytc, .bool yrd, .bool yra, .int .i64 yop, .int .i64 yrc, .rowA 2, .rowA 3, .rowA 4, .rowA 5], .row QQ zq, .row RR za, .row RR zn, .row RR zr]) (.ret, [.ptr 0 0, .ptr 1 0, .bool true], [.box (flat QR (atK l (hitI host fh fp th tp mi mqr mop mq l))), .box [.int .u16 mi, .bool mqr, .bool maa, .bool mtc, .bool mrd, .bool mra, .int .i64 mop, .int .i64 mrc, .list QQ mq, .list RR man, .list RR mns, .list RR mar]]) }
def r24 (host : Int) (l : List QRt) (bad i fh fp th tp : Int) (pd : List UInt8) (xi xp xh xo : Int) (xn : List UInt8) (xt xc : Int) (xz : List UInt8) (xw xs yi : Int) (yqr yaa ytc yrd yra : Bool) (yop yrc : Int) (zq : List QQt) (za zn zr : List RRt) (mi : Int) (mqr maa mtc mrd mra : Bool) (mop mrc : Int) (mq : List QQt) (man mns mar : List RRt) : Tr (St ⊕ (Ex × St)) := .br (decide (i < (↑l.length : Int))) (.br (bad == 0) (.br (decide (0 ≤ i)) (.br (decide (i < (↑l.length : Int))) (.br (th == host) (.br (tp == (l.getD i.toNat (Ty.dflt QR)).2.1) (.br (fh == (l.getD i.toNat (Ty.dflt QR)).2.2.1.1 && (fp == (l.getD i.toNat (Ty.dflt QR)).2.2.1.2 && true)) (.br (mi == (l.getD i.toNat (Ty.dflt QR)).1) (.br mqr (.br (mop == 0) (.br ((↑mq.length : Int) == 1) (.br (decide (0 < (↑mq.length : Int))) (.br ((mq.getD (Int.toNat 0) (Ty.dflt QQ)).1 == (l.getD i.toNat (Ty.dflt QR)).2.2.2.1.1 && ((mq.getD (Int.toNat 0) (Ty.dflt QQ)).2.1 == (l.getD i.toNat (Ty.dflt QR)).2.2.2.1.2.1 && ((mq.getD (Int.toNat 0) (Ty.dflt QQ)).2.2 == (l.getD i.toNat (Ty.dflt QR)).2.2.2.1.2.2 && true))) (.ret (.inr (.ret, stOf [6, 7, 8] [.ptr 0 0, .ptr 1 0, .bool true] [.boxT none [.int .u16 (l.getD i.toNat (Ty.dflt QR)).1, .int .u16 (l.getD i.toNat (Ty.dflt QR)).2.1, .int .u32 (l.getD i.toNat (Ty.dflt QR)).2.2.1.1, .int .u16 (l.getD i.toNat (Ty.dflt QR)).2.2.1.2, .str (l.getD i.toNat (Ty.dflt QR)).2.2.2.1.1, .int .u16 (l.getD i.toNat (Ty.dflt QR)).2.2.2.1.2.1, .int .u16 (l.getD i.toNat (Ty.dflt QR)).2.2.2.1.2.2, .str (l.getD i.toNat (Ty.dflt QR)).2.2.2.2.1, .int .i64 (l.getD i.toNat (Ty.dflt QR)).2.2.2.2.2.1, .int .u64 (l.getD i.toNat (Ty.dflt QR)).2.2.2.2.2.2], .boxT none [.int .u16 mi, .bool mqr, .bool maa, .bool mtc, .bool mrd, .bool mra, .int .i64 mop, .int .i64 mrc, .list QQ mq, .list RR man, .list RR mns, .list RR mar]]))) (.ret (.inl (stOf [0, 1, 5, 6, 7, 9, 10, 11] [.int .u32 host, .list QR l, .ptr 0 0, .ptr 1 0, .ptr 2 0, .ptr 7 0, .int .i64 bad, .int .i64 (IntKind.wrap .i64 (i + 1))] [.boxT none [.int .u32 fh, .int .u16 fp, .int .u32 th, .int .u16 tp, .str pd], .boxT none [.int .u16 xi, .int .u16 xp, .int .u32 xh, .int .u16 xo, .str xn, .int .u16 xt, .int .u16 xc, .str xz, .int .i64 xw, .int .u64 xs], .boxT none [.int .u16 yi, .bool yqr, .bool yaa, .bool ytc, .bool yrd, .bool yra, .int .i64 yop, .int .i64 yrc, .rowA 3, .rowA 4, .rowA 5, .rowA 6], .row QQ zq, .row RR za, .row RR zn, .row RR zr, .boxT none [.int .u16 mi, .bool mqr, .bool maa, .bool mtc, .bool mrd, .bool mra, .int .i64 mop, .int .i64 mrc, .list QQ mq, .list RR man, .list RR mns, .list RR mar]])))) .no) (.ret (.inl (stOf [0, 1, 5, 6, 7, 9, 10, 11] [.int .u32 host, .list QR l, .ptr 0 0, .ptr 1 0, .ptr 2 0, .ptr 7 0, .int .i64 bad, .int .i64 (IntKind.wrap .i64 (i + 1))] [.boxT none [.int .u32 fh, .int .u16 fp, .int .u32 th, .int .u16 tp, .str pd], .boxT none [.int .u16 xi, .int .u16 xp, .int .u32 xh, .int .u16 xo, .str xn, .int .u16 xt, .int .u16 xc, .str xz, .int .i64 xw, .int .u64 xs], .boxT none [.int .u16 yi, .bool yqr, .bool yaa, .bool ytc, .bool yrd, .bool yra, .int .i64 yop, .int .i64 yrc, .rowA 3, .rowA 4, .rowA 5, .rowA 6], .row QQ zq, .row RR za, .row RR zn, .row RR zr, .boxT none [.int .u16 mi, .bool mqr, .bool maa, .bool mtc, .bool mrd, .bool mra, .int .i64 mop, .int .i64 mrc, .list QQ mq, .list RR man, .list RR mns, .list RR mar]])))) (.ret (.inl (stOf [0, 1, 5, 6, 7, 9, 10, 11] [.int .u32 host, .list QR l, .ptr 0 0, .ptr 1 0, .ptr 2 0, .ptr 7 0, .int .i64 bad, .int .i64 (IntKind.wrap .i64 (i + 1))] [.boxT none [.int .u32 fh, .int .u16 fp, .int .u32 th, .int .u16 tp, .str pd], .boxT none [.int .u16 xi, .int .u16 xp, .int .u32 xh, .int .u16 xo, .str xn, .int .u16 xt, .int .u16 xc, .str xz, .int .i64 xw, .int .u64 xs], .boxT none [.int .u16 yi, .bool yqr, .bool yaa, .bool ytc, .bool yrd, .bool yra, .int .i64 yop, .int .i64 yrc, .rowA 3, .rowA 4, .rowA 5, .rowA 6], .row QQ zq, .row RR za, .row RR zn, .row RR zr, .boxT none [.int .u16 mi, .bool mqr, .bool maa, .bool mtc, .bool mrd, .bool mra, .int .i64 mop, .int .i64 mrc, .list QQ mq, .list RR man, .list RR mns, .list RR mar]])))) (.ret (.inl (stOf [0, 1, 5, 6, 7, 9, 10, 11] [.int .u32 host, .list QR l, .ptr 0 0, .ptr 1 0, .ptr 2 0, .ptr 7 0, .int .i64 bad, .int .i64 (IntKind.wrap .i64 (i + 1))] [.boxT none [.int .u32 fh, .int .u16 fp, .int .u32 th, .int .u16 tp, .str pd], .boxT none [.int .u16 xi, .int .u16 xp, .int .u32 xh, .int .u16 xo, .str xn, .int .u16 xt, .int .u16 xc, .str xz, .int .i64 xw, .int .u64 xs], .boxT none [.int .u16 yi, .bool yqr, .bool yaa, .bool ytc, .bool yrd, .bool yra, .int .i64 yop, .int .i64 yrc, .rowA 3, .rowA 4, .rowA 5, .rowA 6], .row QQ zq, .row RR za, .row RR zn, .row RR zr, .boxT none [.int .u16 mi, .bool mqr, .bool maa, .bool mtc, .bool mrd, .bool mra, .int .i64 mop, .int .i64 mrc, .list QQ mq, .list RR man, .list RR mns, .list RR mar]])))) (.ret (.inl (stOf [0, 1, 5, 6, 7, 9, 10, 11] [.int .u32 host, .list QR l, .ptr 0 0, .ptr 1 0, .ptr 2 0, .ptr 7 0, .int .i64 bad, .int .i64 (IntKind.wrap .i64 (i + 1))] [.boxT none [.int .u32 fh, .int .u16 fp, .int .u32 th, .int .u16 tp, .str pd], .boxT none [.int .u16 xi, .int .u16 xp, .int .u32 xh, .int .u16 xo, .str xn, .int .u16 xt, .int .u16 xc, .str xz, .int .i64 xw, .int .u64 xs], .boxT none [.int .u16 yi, .bool yqr, .bool yaa, .bool ytc, .bool yrd, .bool yra, .int .i64 yop, .int .i64 yrc, .rowA 3, .rowA 4, .rowA 5, .rowA 6], .row QQ zq, .row RR za, .row RR zn, .row RR zr, .boxT none [.int .u16 mi, .bool mqr, .bool maa, .bool mtc, .bool mrd, .bool mra, .int .i64 mop, .int .i64 mrc, .list QQ mq, .list RR man, .list RR mns, .list RR mar]])))) (.ret (.inl (stOf [0, 1, 5, 6, 7, 9, 10, 11] [.int .u32 host, .list QR l, .ptr 0 0, .ptr 1 0, .ptr 2 0, .ptr 7 0, .int .i64 bad, .int .i64 (IntKind.wrap .i64 (i + 1))] [.boxT none [.int .u32 fh, .int .u16 fp, .int .u32 th, .int .u16 tp, .str pd], .boxT none [.int .u16 xi, .int .u16 xp, .int .u32 xh, .int .u16 xo, .str xn, .int .u16 xt, .int .u16 xc, .str xz, .int .i64 xw, .int .u64 xs], .boxT none [.int .u16 yi, .bool yqr, .bool yaa, .bool ytc, .bool yrd, .bool yra, .int .i64 yop, .int .i64 yrc, .rowA 3, .rowA 4, .rowA 5, .rowA 6], .row QQ zq, .row RR za, .row RR zn, .row RR zr, .boxT none [.int .u16 mi, .bool mqr, .bool maa, .bool mtc, .bool mrd, .bool mra, .int .i64 mop, .int .i64 mrc, .list QQ mq, .list RR man, .list RR mns, .list RR mar]])))) (.ret (.inl (stOf [0, 1, 5, 6, 7, 9, 10, 11] [.int .u32 host, .list QR l, .ptr 0 0, .ptr 1 0, .ptr 2 0, .ptr 7 0, .int .i64 bad, .int .i64 (IntKind.wrap .i64 (i + 1))] [.boxT none [.int .u32 fh, .int .u16 fp, .int .u32 th, .int .u16 tp, .str pd], .boxT none [.int .u16 xi, .int .u16 xp, .int .u32 xh, .int .u16 xo, .str xn, .int .u16 xt, .int .u16 xc, .str xz, .int .i64 xw, .int .u64 xs], .boxT none [.int .u16 yi, .bool yqr, .bool yaa, .bool ytc, .bool yrd, .bool yra, .int .i64 yop, .int .i64 yrc, .rowA 3, .rowA 4, .rowA 5, .rowA 6], .row QQ zq, .row RR za, .row RR zn, .row RR zr, .boxT none [.int .u16 mi, .bool mqr, .bool maa, .bool mtc, .bool mrd, .bool mra, .int .i64 mop, .int .i64 mrc, .list QQ mq, .list RR man, .list RR mns, .list RR mar]])))) (.ret (.inl (stOf [0, 1, 5, 6, 7, 9, 10, 11] [.int .u32 host, .list QR l, .ptr 0 0, .ptr 1 0, .ptr 2 0, .ptr 7 0, .int .i64 bad, .int .i64 (IntKind.wrap .i64 (i + 1))] [.boxT none [.int .u32 fh, .int .u16 fp, .int .u32 th, .int .u16 tp, .str pd], .boxT none [.int .u16 xi, .int .u16 xp, .int .u32 xh, .int .u16 xo, .str xn, .int .u16 xt, .int .u16 xc, .str xz, .int .i64 xw, .int .u64 xs], .boxT none [.int .u16 yi, .bool yqr, .bool yaa, .bool ytc, .bool yrd, .bool yra, .int .i64 yop, .int .i64 yrc, .rowA 3, .rowA 4, .rowA 5, .rowA 6], .row QQ zq, .row RR za, .row RR zn, .row RR zr, .boxT none [.int .u16 mi, .bool mqr, .bool maa, .bool mtc, .bool mrd, .bool mra, .int .i64 mop, .int .i64 mrc, .list QQ mq, .list RR man, .list RR mns, .list RR mar]])))) .no) .no) (.ret (.inr (.exit 0, stOf [6, 7, 8] [.ptr 0 0, .ptr 1 0, .dead] [.boxT none [.int .u16 xi, .int .u16 xp, .int .u32 xh, .int .u16 xo, .str xn, .int .u16 xt, .int .u16 xc, .str xz, .int .i64 xw, .int .u64 xs], .boxT none [.int .u16 yi, .bool yqr, .bool yaa, .bool ytc, .bool yrd, .bool yra, .int .i64 yop, .int .i64 yrc, .rowA 2, .rowA 3, .rowA 4, .rowA 5], .row QQ zq, .row RR za, .row RR zn, .row RR zr])))) (.ret (.inr (.exit 0, stOf [6, 7, 8] [.ptr 0 0, .ptr 1 0, .dead] [.boxT none [.int .u16 xi, .int .u16 xp, .int .u32 xh, .int .u16 xo, .str xn, .int .u16 xt, .int .u16 xc, .str xz, .int .i64 xw, .int .u64 xs], .boxT none [.int .u16 yi, .bool yqr, .bool yaa, .bool ytc, .bool yrd, .bool yra, .int .i64 yop, .int .i64 yrc, .rowA 2, .rowA 3, .rowA 4, .rowA 5], .row QQ zq, .row RR za, .row RR zn, .row RR zr])))
theorem U4e (lp : Lp) (host : Int) (l : List QRt) (bad i fh fp th tp : Int) (pd : List UInt8) (xi xp xh xo : Int) (xn : List UInt8) (xt xc : Int) (xz : List UInt8) (xw xs yi : Int) (yqr yaa ytc yrd yra : Bool) (yop yrc : Int) (zq : List QQt) (za zn zr : List RRt) (mi : Int) (mqr maa mtc mrd mra : Bool) (mop mrc : Int) (mq : List QQt) (man mns mar : List RRt) : evC T0 (orcB [J17] []) lp b24 0 (stOf [0, 1, 5, 6, 7, 9, 10, 11] [.int .u32 host, .list QR l, .ptr 0 0, .ptr 1 0, .ptr 2 0, .ptr 7 0, .int .i64 bad, .int .i64 i] [.box [.int .u32 fh, .int .u16 fp, .int .u32 th, .int .u16 tp, .str pd], .box [.int .u16 xi, .int .u16 xp, .int .u32 xh, .int .u16 xo, .str xn, .int .u16 xt, .int .u16 xc, .str xz, .int .i64 xw, .int .u64 xs], .box [.int .u16 yi, .bool yqr, .bool yaa, .bool ytc, .bool yrd, .bool yra, .int .i64 yop, .int .i64 yrc, .rowA 3, .rowA 4, .rowA 5, .rowA 6], .row QQ zq, .row RR za, .row RR zn, .row RR zr, .box [.int .u16 mi, .bool mqr, .bool maa, .bool mtc, .bool mrd, .bool mra, .int .i64 mop, .int .i64 mrc, .list QQ mq, .list RR man, .list RR mns, .list RR mar]]) (U0 [0, 1, 5, 6, 7, 9, 10, 11] [6, 7, 8] 0) = (r24 host l bad i fh fp th tp pd xi xp xh xo xn xt xc xz xw xs yi yqr yaa ytc yrd yra yop yrc zq za zn zr mi mqr maa mtc mrd mra mop mrc mq man mns mar).get := by kernel_rfl
theorem wf24 (host : Int) (l : List QRt) (bad fh fp th tp : Int) (pd : List UInt8) (xi xp xh xo : Int) (xn : List UInt8) (xt xc : Int) (xz : List UInt8) (xw xs yi : Int) (yqr yaa ytc yrd yra : Bool) (yop yrc : Int) (zq : List QQt) (za zn zr : List RRt) (mi : Int) (mqr maa mtc mrd mra : Bool) (mop mrc : Int) (mq : List QQt) (man mns mar : List RRt) (I'' : Int → Prop) (m'' : Int → Nat) (r'' : Ex × St) (h : ∀ (i : Int), I'' i → (r24 host l bad i fh fp th tp pd xi xp xh xo xn xt xc xz xw xs yi yqr yaa ytc yrd yra yop yrc zq za zn zr mi mqr maa mtc mrd mra mop mrc mq man mns mar).all fun x'' => x'' = .inr r'' ∨ ∃ (i' : Int), x'' = .inl (stOf [0, 1, 5, 6, 7, 9, 10, 11] [.int .u32 host, .list QR l, .ptr 0 0, .ptr 1 0, .ptr 2 0, .ptr 7 0, .int .i64 bad, .int .i64 i'] [.box [.int .u32 fh, .int .u16 fp, .int .u32 th, .int .u16 tp, .str pd], .box [.int .u16 xi, .int .u16 xp, .int .u32 xh, .int .u16 xo, .str xn, .int .u16 xt, .int .u16 xc, .str xz, .int .i64 xw, .int .u64 xs], .box [.int .u16 yi, .bool yqr, .bool yaa, .bool ytc, .bool yrd, .bool yra, .int .i64 yop, .int .i64 yrc, .rowA 3, .rowA 4, .rowA 5, .rowA 6], .row QQ zq, .row RR za, .row RR zn, .row RR zr, .box [.int .u16 mi, .bool mqr, .bool maa, .bool mtc, .bool mrd, .bool mra, .int .i64 mop, .int .i64 mrc, .list QQ mq, .list RR man, .list RR mns, .list RR mar]]) ∧ I'' i' ∧ m'' i' < m'' i) (lp : Lp) (i : Int) : I'' i →
    V2 (fun st => evC T0 (orcB [J17] []) lp b24 0 st (U0 [0, 1, 5, 6, 7, 9, 10, 11] [6, 7, 8] 0)) (stOf [0, 1, 5, 6, 7, 9, 10, 11] [.int .u32 host, .list QR l, .ptr 0 0, .ptr 1 0, .ptr 2 0, .ptr 7 0, .int .i64 bad, .int .i64 i] [.box [.int .u32 fh, .int .u16 fp, .int .u32 th, .int .u16 tp, .str pd], .box [.int .u16 xi, .int .u16 xp, .int .u32 xh, .int .u16 xo, .str xn, .int .u16 xt, .int .u16 xc, .str xz, .int .i64 xw, .int .u64 xs], .box [.int .u16 yi, .bool yqr, .bool yaa, .bool ytc, .bool yrd, .bool yra, .int .i64 yop, .int .i64 yrc, .rowA 3, .rowA 4, .rowA 5, .rowA 6], .row QQ zq, .row RR za, .row RR zn, .row RR zr, .box [.int .u16 mi, .bool mqr, .bool maa, .bool mtc, .bool mrd, .bool mra, .int .i64 mop, .int .i64 mrc, .list QQ mq, .list RR man, .list RR mns, .list RR mar]]) = some r'' :=
 Z5 (fun a'' : Int => stOf [0, 1, 5, 6, 7, 9, 10, 11] [.int .u32 host, .list QR l, .ptr 0 0, .ptr 1 0, .ptr 2 0, .ptr 7 0, .int .i64 bad, .int .i64 a''] [.box [.int .u32 fh, .int .u16 fp, .int .u32 th, .int .u16 tp, .str pd], .box [.int .u16 xi, .int .u16 xp, .int .u32 xh, .int .u16 xo, .str xn, .int .u16 xt, .int .u16 xc, .str xz, .int .i64 xw, .int .u64 xs], .box [.int .u16 yi, .bool yqr, .bool yaa, .bool ytc, .bool yrd, .bool yra, .int .i64 yop, .int .i64 yrc, .rowA 3, .rowA 4, .rowA 5, .rowA 6], .row QQ zq, .row RR za, .row RR zn, .row RR zr, .box [.int .u16 mi, .bool mqr, .bool maa, .bool mtc, .bool mrd, .bool mra, .int .i64 mop, .int .i64 mrc, .list QQ mq, .list RR man, .list RR mns, .list RR mar]]) (fun a'' => I'' a'') (fun a'' => m'' a'') r'' (fun a'' => r24 host l bad a'' fh fp th tp pd xi xp xh xo xn xt xc xz xw xs yi yqr yaa ytc yrd yra yop yrc zq za zn zr mi mqr maa mtc mrd mra mop mrc mq man mns mar)
  (fun a'' x hx => (U4e lp host l bad a'' fh fp th tp pd xi xp xh xo xn xt xc xz xw xs yi yqr yaa ytc yrd yra yop yrc zq za zn zr mi mqr maa mtc mrd mra mop mrc mq man mns mar).trans hx) (fun a'' ha => Tr.all_mono (fun x'' hx => hx.imp id fun ⟨i', h1, h2, h3⟩ => ⟨(i'), h1, h2, h3⟩) (h (a'') ha)) (i)
theorem J3i {l : List QRt} {p : QRt → Bool} {k : Nat} (h : k < l.length) : idxL p (l.drop k) k = bif p (List.getD l k (Ty.dflt QR)) then (k : Int) else idxL p (l.drop (k + 1)) (k + 1) := by
 rw [Ve h (Ty.dflt QR), idxL]
 cases p (List.getD l k (Ty.dflt QR)) <;> rfl
theorem V4v : ls24.Ok T0 (orcB [J17] []) h24 0 0 b24 := by
 intro q'' hq'' x'' y'' r'' h
 obtain ⟨(host : Int), (l : List QRt), (bad : Int), (i : Int), _⟩ := x''
 obtain ⟨⟨(fh : Int), (fp : Int), (th : Int), (tp : Int), (pd : List UInt8), _⟩, ⟨(xi : Int), (xp : Int), (xh : Int), (xo : Int), (xn : List UInt8), (xt : Int), (xc : Int), (xz : List UInt8), (xw : Int), (xs : Int), _⟩, ⟨(yi : Int), (yqr : Bool), (yaa : Bool), (ytc : Bool), (yrd : Bool), (yra : Bool), (yop : Int), (yrc : Int), _⟩, (zq : List QQt), (za : List RRt), (zn : List RRt), (zr : List RRt), ⟨(mi : Int), (mqr : Bool), (maa : Bool), (mtc : Bool), (mrd : Bool), (mra : Bool), (mop : Int), (mrc : Int), (mq : List QQt), (man : List RRt), (mns : List RRt), (mar : List RRt), _⟩, _⟩ := y''
 obtain ⟨hc, rfl⟩ := Tr.get_on2 h
 show V2 (fun st => evC T0 (orcB [J17] []) (lpN T0 (orcB [J17] []) h24 0 q'') b24 0 st (U0 [0, 1, 5, 6, 7, 9, 10, 11] [6, 7, 8] 0)) (stOf [0, 1, 5, 6, 7, 9, 10, 11] [.int .u32 host, .list QR l, .ptr 0 0, .ptr 1 0, .ptr 2 0, .ptr 7 0, .int .i64 bad, .int .i64 i] [.box [.int .u32 fh, .int .u16 fp, .int .u32 th, .int .u16 tp, .str pd], .box [.int .u16 xi, .int .u16 xp, .int .u32 xh, .int .u16 xo, .str xn, .int .u16 xt, .int .u16 xc, .str xz, .int .i64 xw, .int .u64 xs], .box [.int .u16 yi, .bool yqr, .bool yaa, .bool ytc, .bool yrd, .bool yra, .int .i64 yop, .int .i64 yrc, .rowA 3, .rowA 4, .rowA 5, .rowA 6], .row QQ zq, .row RR za, .row RR zn, .row RR zr, .box [.int .u16 mi, .bool mqr, .bool maa, .bool mtc, .bool mrd, .bool mra, .int .i64 mop, .int .i64 mrc, .list QQ mq, .list RR man, .list RR mns, .list RR mar]]) = some ((bif !(decide (bad = 0)) || decide (hitI host fh fp th tp mi mqr mop mq l < 0) then (.exit 0, [.ptr 0 0, .ptr 1 0, .dead], [.box [.int .u16 xi, .int .u16 xp, .int .u32 xh, .int .u16 xo, .str xn, .int .u16 xt, .int .u16 xc, .str xz, .int .i64 xw, .int .u64 xs], .box [.int .u16 yi, .bool yqr, .bool yaa, .bool ytc, .bool yrd, .bool yra, .int .i64 yop, .int .i64 yrc, .rowA 2, .rowA 3, .rowA 4, .rowA 5], .row QQ zq, .row RR za, .row RR zn, .row RR zr]) else (.ret, [.ptr 0 0, .ptr 1 0, .bool true], [.box (flat QR (atK l (hitI host fh fp th tp mi mqr mop mq l))), .box [.int .u16 mi, .bool mqr, .bool maa, .bool mtc, .bool mrd, .bool mra, .int .i64 mop, .int .i64 mrc, .list QQ mq, .list RR man, .list RR mns, .list RR mar]]) : Ex × List AV × List LObj).1, stOf [6, 7, 8] (bif !(decide (bad = 0)) || decide (hitI host fh fp th tp mi mqr mop mq l < 0) then (.exit 0, [.ptr 0 0, .ptr 1 0, .dead], [.box [.int .u16 xi, .int .u16 xp, .int .u32 xh, .int .u16 xo, .str xn, .int .u16 xt, .int .u16 xc, .str xz, .int .i64 xw, .int .u64 xs], .box [.int .u16 yi, .bool yqr, .bool yaa, .bool ytc, .bool yrd, .bool yra, .int .i64 yop, .int .i64 yrc, .rowA 2, .rowA 3, .rowA 4, .rowA 5], .row QQ zq, .row RR za, .row RR zn, .row RR zr]) else (.ret, [.ptr 0 0, .ptr 1 0, .bool true], [.box (flat QR (atK l (hitI host fh fp th tp mi mqr mop mq l))), .box [.int .u16 mi, .bool mqr, .bool maa, .bool mtc, .bool mrd, .bool mra, .int .i64 mop, .int .i64 mrc, .list QQ mq, .list RR man, .list RR mns, .list RR mar]]) : Ex × List AV × List LObj).2.1 (bif !(decide (bad = 0)) || decide (hitI host fh fp th tp mi mqr mop mq l < 0) then (.exit 0, [.ptr 0 0, .ptr 1 0, .dead], [.box [.int .u16 xi, .int .u16 xp, .int .u32 xh, .int .u16 xo, .str xn, .int .u16 xt, .int .u16 xc, .str xz, .int .i64 xw, .int .u64 xs], .box [.int .u16 yi, .bool yqr, .bool yaa, .bool ytc, .bool yrd, .bool yra, .int .i64 yop, .int .i64 yrc, .rowA 2, .rowA 3, .rowA 4, .rowA 5], .row QQ zq, .row RR za, .row RR zn, .row RR zr]) else (.ret, [.ptr 0 0, .ptr 1 0, .bool true], [.box (flat QR (atK l (hitI host fh fp th tp mi mqr mop mq l))), .box [.int .u16 mi, .bool mqr, .bool maa, .bool mtc, .bool mrd, .bool mra, .int .i64 mop, .int .i64 mrc, .list QQ mq, .list RR man, .list RR mns, .list RR mar]]) : Ex × List AV × List LObj).2.2)
 simp only [mtC, Bool.and_eq_true, decide_eq_true_eq] at hc
 obtain ⟨hl, rfl⟩ := hc
 have hl := Nat.le_of_ble_eq_true hl
 refine wf24 host l bad fh fp th tp pd xi xp xh xo xn xt xc xz xw xs yi yqr yaa ytc yrd yra yop yrc zq za zn zr mi mqr maa mtc mrd mra mop mrc mq man mns mar (fun i => 0 ≤ i ∧ i ≤ l.length ∧ idxL (hitB host fh fp th tp mi mqr mop mq) (l.drop i.toNat) i.toNat = hitI host fh fp th tp mi mqr mop mq l) (fun i => (l.length - i).toNat) _ ?_ _ 0 ⟨by omega, by omega, rfl⟩
 rintro i ⟨h0, h1, he⟩
 unfold r24
 rw [Vc h0 h1 (by omega)]
 by_cases hb : bad = 0
 · subst hb
   by_cases hi : i < l.length
   · rw [J3i (by omega)] at he
     have hno : hitB host fh fp th tp mi mqr mop mq (List.getD l i.toNat (Ty.dflt QR)) = false → 0 ≤ i + 1 ∧ i + 1 ≤ l.length ∧ idxL (hitB host fh fp th tp mi mqr mop mq) (l.drop (i + 1).toNat) (i + 1).toNat = hitI host fh fp th tp mi mqr mop mq l := fun h => by
      rw [h, cond_false] at he
      rw [show (i + 1).toNat = i.toNat + 1 by omega]
      exact ⟨by omega, by omega, he⟩
     have hyes : hitB host fh fp th tp mi mqr mop mq (List.getD l i.toNat (Ty.dflt QR)) = true → hitI host fh fp th tp mi mqr mop mq l = i := fun h => by
      rw [h, cond_true] at he
      omega
     have hat : ∀ j : Int, j = i → atK l j = List.getD l i.toNat (Ty.dflt QR) := fun j hj => by rw [hj]; rfl
     refine Tr.all_t (J0 hi) (Tr.all_t rfl (Tr.all_t (J0 h0) (Tr.all_t (J0 hi) ?_)))
     generalize hx : List.getD l i.toNat (Ty.dflt QR) = x at *
     refine Tr.all_br (fun c1 => Tr.all_br (fun c2 => Tr.all_br (fun c3 => Tr.all_br (fun c4 => Tr.all_br (fun c5 => Tr.all_br (fun c6 => Tr.all_br (fun c7 => Tr.all_t (J0 (by have := eq_of_beq c7; omega)) (Tr.all_br (fun c8 => ?_) (fun c8 => ?_))) (fun c7 => ?_)) (fun c6 => ?_)) (fun c5 => ?_)) (fun c4 => ?_)) (fun c3 => ?_)) (fun c2 => ?_)) (fun c1 => ?_)
     · have hh : hitB host fh fp th tp mi mqr mop mq x = true := by
         unfold hitB rtB svB
         rw [c1, c2, c3, c4, c5, c6, c7, show ((q0 mq).1 == x.2.2.2.1.1 && ((q0 mq).2.1 == x.2.2.2.1.2.1 && ((q0 mq).2.2 == x.2.2.2.1.2.2 && true))) = true from c8]
         rfl
       have hj := hyes hh
       rw [hj, hat i rfl, Z0 (show ¬ i < 0 by omega)]
       exact Tr.all_ret (.inl rfl)
     · refine Tr.all_ret (.inr ⟨_, rfl, hno ?_, by omega⟩)
       unfold hitB rtB svB
       rw [show ((q0 mq).1 == x.2.2.2.1.1 && ((q0 mq).2.1 == x.2.2.2.1.2.1 && ((q0 mq).2.2 == x.2.2.2.1.2.2 && true))) = false from c8]
       simp only [Bool.and_false]
     · refine Tr.all_ret (.inr ⟨_, rfl, hno ?_, by omega⟩)
       unfold hitB rtB
       rw [c7]
       simp only [Bool.and_false, Bool.false_and]
     · refine Tr.all_ret (.inr ⟨_, rfl, hno ?_, by omega⟩)
       unfold hitB rtB
       rw [c6]
       simp only [Bool.and_false, Bool.false_and]
     · refine Tr.all_ret (.inr ⟨_, rfl, hno ?_, by omega⟩)
       unfold hitB rtB
       rw [c5]
       simp only [Bool.and_false, Bool.false_and]
     · refine Tr.all_ret (.inr ⟨_, rfl, hno ?_, by omega⟩)
       unfold hitB
       rw [c4]
       simp only [Bool.and_false, Bool.false_and]
     · refine Tr.all_ret (.inr ⟨_, rfl, hno ?_, by omega⟩)
       unfold hitB svB
       rw [c3]
       simp only [Bool.and_false, Bool.false_and]
     · refine Tr.all_ret (.inr ⟨_, rfl, hno ?_, by omega⟩)
       unfold hitB
       rw [c2]
       simp only [Bool.and_false, Bool.false_and]
     · refine Tr.all_ret (.inr ⟨_, rfl, hno ?_, by omega⟩)
       unfold hitB rtB
       rw [c1]
       simp only [Bool.and_false, Bool.false_and]
   · refine Tr.all_f (Z0 hi) (Tr.all_ret (.inl ?_))
     rw [List.drop_eq_nil_of_le (by omega)] at he
     rw [← he]
     rfl
 · rw [show (!decide (bad = 0)) = true by rw [Z0 hb]; rfl]
   by_cases hi : i < l.length
   · exact Tr.all_t (J0 hi) (Tr.all_f (by simpa using hb) (Tr.all_ret (.inl rfl)))
   · exact Tr.all_f (Z0 hi) (Tr.all_ret (.inl rfl))
def t24 (host : Int) (l : List QRt) (p : ((Int × Int) × ((Int × Int) × List UInt8))) : Tr Res := .br (smS p.2.2) (.br (mtC l 0) (.br (!decide ((tkV6 p.2.2).2 = (0 : Ty.den (Ty.int .i64))) || decide (hitI host p.1.1 p.1.2 p.2.1.1 p.2.1.2 (tkV6 p.2.2).1.1 (tkV6 p.2.2).1.2.1 (tkV6 p.2.2).1.2.2.2.2.2.2.1 (tkV6 p.2.2).1.2.2.2.2.2.2.2.2.1 l < 0)) (.ret ([.agg [.int .u16 0, .int .u16 0, .int .u32 0, .int .u16 0, .str [], .int .u16 0, .int .u16 0, .str [], .int .i64 0, .int .u64 0], .agg [.int .u16 0, .bool false, .bool false, .bool false, .bool false, .bool false, .int .i64 0, .int .i64 0, .list QQ [], .list RR [], .list RR [], .list RR []], .bool false], [])) (.ret ([.agg [.int .u16 (atK l (hitI host p.1.1 p.1.2 p.2.1.1 p.2.1.2 (tkV6 p.2.2).1.1 (tkV6 p.2.2).1.2.1 (tkV6 p.2.2).1.2.2.2.2.2.2.1 (tkV6 p.2.2).1.2.2.2.2.2.2.2.2.1 l)).1, .int .u16 (atK l (hitI host p.1.1 p.1.2 p.2.1.1 p.2.1.2 (tkV6 p.2.2).1.1 (tkV6 p.2.2).1.2.1 (tkV6 p.2.2).1.2.2.2.2.2.2.1 (tkV6 p.2.2).1.2.2.2.2.2.2.2.2.1 l)).2.1, .int .u32 (atK l (hitI host p.1.1 p.1.2 p.2.1.1 p.2.1.2 (tkV6 p.2.2).1.1 (tkV6 p.2.2).1.2.1 (tkV6 p.2.2).1.2.2.2.2.2.2.1 (tkV6 p.2.2).1.2.2.2.2.2.2.2.2.1 l)).2.2.1.1, .int .u16 (atK l (hitI host p.1.1 p.1.2 p.2.1.1 p.2.1.2 (tkV6 p.2.2).1.1 (tkV6 p.2.2).1.2.1 (tkV6 p.2.2).1.2.2.2.2.2.2.1 (tkV6 p.2.2).1.2.2.2.2.2.2.2.2.1 l)).2.2.1.2, .str (atK l (hitI host p.1.1 p.1.2 p.2.1.1 p.2.1.2 (tkV6 p.2.2).1.1 (tkV6 p.2.2).1.2.1 (tkV6 p.2.2).1.2.2.2.2.2.2.1 (tkV6 p.2.2).1.2.2.2.2.2.2.2.2.1 l)).2.2.2.1.1, .int .u16 (atK l (hitI host p.1.1 p.1.2 p.2.1.1 p.2.1.2 (tkV6 p.2.2).1.1 (tkV6 p.2.2).1.2.1 (tkV6 p.2.2).1.2.2.2.2.2.2.1 (tkV6 p.2.2).1.2.2.2.2.2.2.2.2.1 l)).2.2.2.1.2.1, .int .u16 (atK l (hitI host p.1.1 p.1.2 p.2.1.1 p.2.1.2 (tkV6 p.2.2).1.1 (tkV6 p.2.2).1.2.1 (tkV6 p.2.2).1.2.2.2.2.2.2.1 (tkV6 p.2.2).1.2.2.2.2.2.2.2.2.1 l)).2.2.2.1.2.2, .str (atK l (hitI host p.1.1 p.1.2 p.2.1.1 p.2.1.2 (tkV6 p.2.2).1.1 (tkV6 p.2.2).1.2.1 (tkV6 p.2.2).1.2.2.2.2.2.2.1 (tkV6 p.2.2).1.2.2.2.2.2.2.2.2.1 l)).2.2.2.2.1, .int .i64 (atK l (hitI host p.1.1 p.1.2 p.2.1.1 p.2.1.2 (tkV6 p.2.2).1.1 (tkV6 p.2.2).1.2.1 (tkV6 p.2.2).1.2.2.2.2.2.2.1 (tkV6 p.2.2).1.2.2.2.2.2.2.2.2.1 l)).2.2.2.2.2.1, .int .u64 (atK l (hitI host p.1.1 p.1.2 p.2.1.1 p.2.1.2 (tkV6 p.2.2).1.1 (tkV6 p.2.2).1.2.1 (tkV6 p.2.2).1.2.2.2.2.2.2.1 (tkV6 p.2.2).1.2.2.2.2.2.2.2.2.1 l)).2.2.2.2.2.2], .agg [.int .u16 (tkV6 p.2.2).1.1, .bool (tkV6 p.2.2).1.2.1, .bool (tkV6 p.2.2).1.2.2.1, .bool (tkV6 p.2.2).1.2.2.2.1, .bool (tkV6 p.2.2).1.2.2.2.2.1, .bool (tkV6 p.2.2).1.2.2.2.2.2.1, .int .i64 (tkV6 p.2.2).1.2.2.2.2.2.2.1, .int .i64 (tkV6 p.2.2).1.2.2.2.2.2.2.2.1, .list QQ (tkV6 p.2.2).1.2.2.2.2.2.2.2.2.1, .list RR (tkV6 p.2.2).1.2.2.2.2.2.2.2.2.2.1, .list RR (tkV6 p.2.2).1.2.2.2.2.2.2.2.2.2.2.1, .list RR (tkV6 p.2.2).1.2.2.2.2.2.2.2.2.2.2.2], .bool true], []))) .no) .no
def os24 : OSpec := { f := 24, sh := [.d (.int .u32) false, .d (.list QR) false, .d (.pair AD (.pair AD .str)) true], so := [], F := fun (host, l, p, _) _ => t24 host l p }
theorem fn24 (host : Int) (l : List QRt) (p : ((Int × Int) × ((Int × Int) × List UInt8))) : evC T0 (orcB [J17] []) (lpOf h24 0 (lsOf [ls24])) c24 1000000 (V1 [.int .u32 host, .list QR l, AV.ofTy (.pair AD (.pair AD .str)) p true] [] Tryz.f24.ntmps) (J1 T0 false 0 Tryz.f24) = (t24 host l p).get := by kernel_rfl
theorem ok24 : os24.Ok Tryz.prog := by
 refine V3 Q1 tab0 (X0 (all_cons U4o all_nil) all_nil) h24 (d := 0) (n0 := 0) (S := lsOf [ls24]) Tryz.func24 (by kernel_rfl) (c := c24) (by kernel_rfl) rfl (X4 (xs := [(0, b24)]) (by kernel_rfl) (all_cons (V5 V4v) all_nil)) (by omega) (by kernel_rfl) ?_
 intro x'' y'' q'' hq''
 obtain ⟨(host : Int), (l : List QRt), (p : ((Int × Int) × ((Int × Int) × List UInt8))), _⟩ := x''
 exact (fn24 host l p).trans hq''
def fs24 : FSpec := fsT 24 [((.int .u32), false), ((.list QR), false), ((.pair AD (.pair AD .str)), true)] [(QR, true), (MG, true), (.bool, false)] fun (host, l, p, _) => t24 host l p
theorem okf24 : fs24.Ok Tryz.prog := V4 fun x'' r'' hr'' => ok24 x'' () r'' hr''
def t22 (p : ((Int × Int) × ((Int × Int) × List UInt8))) (host room : Int) (all : List QRt) : Tr Res := .br (smS p.2.2) (.br ((tkV6 p.2.2).2 != 0) (.ret ([.agg [.int .u16 0, .int .u16 0, .int .u32 0, .int .u16 0, .str [], .int .u16 0, .int .u16 0, .str [], .int .i64 0, .int .u64 0], .agg [.int .u16 0, .bool false, .bool false, .bool false, .bool false, .bool false, .int .i64 0, .int .i64 0, .list QQ [], .list RR [], .list RR [], .list RR []], .bool false], [.boxT none [.int .u32 host, .int .i64 room, .rowA 1], .row QR all])) (.br (p.2.1.1 != host) (.ret ([.agg [.int .u16 0, .int .u16 0, .int .u32 0, .int .u16 0, .str [], .int .u16 0, .int .u16 0, .str [], .int .i64 0, .int .u64 0], .agg [.int .u16 0, .bool false, .bool false, .bool false, .bool false, .bool false, .int .i64 0, .int .i64 0, .list QQ [], .list RR [], .list RR [], .list RR []], .bool false], [.boxT none [.int .u32 host, .int .i64 room, .rowA 1], .row QR all])) (.br (!(tkV6 p.2.2).1.2.1) (.ret ([.agg [.int .u16 0, .int .u16 0, .int .u32 0, .int .u16 0, .str [], .int .u16 0, .int .u16 0, .str [], .int .i64 0, .int .u64 0], .agg [.int .u16 0, .bool false, .bool false, .bool false, .bool false, .bool false, .int .i64 0, .int .i64 0, .list QQ [], .list RR [], .list RR [], .list RR []], .bool false], [.boxT none [.int .u32 host, .int .i64 room, .rowA 1], .row QR all])) (.br ((tkV6 p.2.2).1.2.2.2.2.2.2.1 != 0) (.ret ([.agg [.int .u16 0, .int .u16 0, .int .u32 0, .int .u16 0, .str [], .int .u16 0, .int .u16 0, .str [], .int .i64 0, .int .u64 0], .agg [.int .u16 0, .bool false, .bool false, .bool false, .bool false, .bool false, .int .i64 0, .int .i64 0, .list QQ [], .list RR [], .list RR [], .list RR []], .bool false], [.boxT none [.int .u32 host, .int .i64 room, .rowA 1], .row QR all])) (.br ((↑(List.length (tkV6 p.2.2).1.2.2.2.2.2.2.2.2.1) : Int) != 1) (.ret ([.agg [.int .u16 0, .int .u16 0, .int .u32 0, .int .u16 0, .str [], .int .u16 0, .int .u16 0, .str [], .int .i64 0, .int .u64 0], .agg [.int .u16 0, .bool false, .bool false, .bool false, .bool false, .bool false, .int .i64 0, .int .i64 0, .list QQ [], .list RR [], .list RR [], .list RR []], .bool false], [.boxT none [.int .u32 host, .int .i64 room, .rowA 1], .row QR all])) (.br (ixAC all (↑all.length : Int) 0) (.br (decide (idxL (ipB (tkV6 p.2.2).1.1 p.2.1.2) all 0 < 0)) (.ret ([.agg [.int .u16 0, .int .u16 0, .int .u32 0, .int .u16 0, .str [], .int .u16 0, .int .u16 0, .str [], .int .i64 0, .int .u64 0], .agg [.int .u16 0, .bool false, .bool false, .bool false, .bool false, .bool false, .int .i64 0, .int .i64 0, .list QQ [], .list RR [], .list RR [], .list RR []], .bool false], [.boxT none [.int .u32 host, .int .i64 room, .rowA 1], .row QR all])) (.br (decide (idxL (ipB (tkV6 p.2.2).1.1 p.2.1.2) all 0 < 0)) (.ret ([.agg [.int .u16 0, .int .u16 0, .int .u32 0, .int .u16 0, .str [], .int .u16 0, .int .u16 0, .str [], .int .i64 0, .int .u64 0], .agg [.int .u16 0, .bool false, .bool false, .bool false, .bool false, .bool false, .int .i64 0, .int .i64 0, .list QQ [], .list RR [], .list RR [], .list RR []], .bool false], [.boxT none [.int .u32 host, .int .i64 room, .rowA 1], .row QR all])) (.br (decide (0 ≤ idxL (ipB (tkV6 p.2.2).1.1 p.2.1.2) all 0)) (.br (decide (idxL (ipB (tkV6 p.2.2).1.1 p.2.1.2) all 0 < (↑all.length : Int))) (.br (!((all.getD (Int.toNat (idxL (ipB (tkV6 p.2.2).1.1 p.2.1.2) all 0)) (Ty.dflt QR)).2.2.1.1 == p.1.1 && ((all.getD (Int.toNat (idxL (ipB (tkV6 p.2.2).1.1 p.2.1.2) all 0)) (Ty.dflt QR)).2.2.1.2 == p.1.2 && true))) (.ret ([.agg [.int .u16 0, .int .u16 0, .int .u32 0, .int .u16 0, .str [], .int .u16 0, .int .u16 0, .str [], .int .i64 0, .int .u64 0], .agg [.int .u16 0, .bool false, .bool false, .bool false, .bool false, .bool false, .int .i64 0, .int .i64 0, .list QQ [], .list RR [], .list RR [], .list RR []], .bool false], [.boxT none [.int .u32 host, .int .i64 room, .rowA 1], .row QR all])) (.br (decide (0 ≤ idxL (ipB (tkV6 p.2.2).1.1 p.2.1.2) all 0)) (.br (decide (idxL (ipB (tkV6 p.2.2).1.1 p.2.1.2) all 0 < (↑all.length : Int))) (.br (decide (0 < (↑(List.length (tkV6 p.2.2).1.2.2.2.2.2.2.2.2.1) : Int))) (.br (!((all.getD (Int.toNat (idxL (ipB (tkV6 p.2.2).1.1 p.2.1.2) all 0)) (Ty.dflt QR)).2.2.2.1.1 == (List.getD (tkV6 p.2.2).1.2.2.2.2.2.2.2.2.1 (Int.toNat 0) (Ty.dflt QQ)).1 && ((all.getD (Int.toNat (idxL (ipB (tkV6 p.2.2).1.1 p.2.1.2) all 0)) (Ty.dflt QR)).2.2.2.1.2.1 == (List.getD (tkV6 p.2.2).1.2.2.2.2.2.2.2.2.1 (Int.toNat 0) (Ty.dflt QQ)).2.1 && ((all.getD (Int.toNat (idxL (ipB (tkV6 p.2.2).1.1 p.2.1.2) all 0)) (Ty.dflt QR)).2.2.2.1.2.2 == (List.getD (tkV6 p.2.2).1.2.2.2.2.2.2.2.2.1 (Int.toNat 0) (Ty.dflt QQ)).2.2 && true)))) (.ret ([.agg [.int .u16 0, .int .u16 0, .int .u32 0, .int .u16 0, .str [], .int .u16 0, .int .u16 0, .str [], .int .i64 0, .int .u64 0], .agg [.int .u16 0, .bool false, .bool false, .bool false, .bool false, .bool false, .int .i64 0, .int .i64 0, .list QQ [], .list RR [], .list RR [], .list RR []], .bool false], [.boxT none [.int .u32 host, .int .i64 room, .rowA 1], .row QR all])) (.br (decide (0 ≤ idxL (ipB (tkV6 p.2.2).1.1 p.2.1.2) all 0)) (.br (decide (idxL (ipB (tkV6 p.2.2).1.1 p.2.1.2) all 0 < (↑all.length : Int))) (.ret ([.agg [.int .u16 (all.getD (Int.toNat (idxL (ipB (tkV6 p.2.2).1.1 p.2.1.2) all 0)) (Ty.dflt QR)).1, .int .u16 (all.getD (Int.toNat (idxL (ipB (tkV6 p.2.2).1.1 p.2.1.2) all 0)) (Ty.dflt QR)).2.1, .int .u32 (all.getD (Int.toNat (idxL (ipB (tkV6 p.2.2).1.1 p.2.1.2) all 0)) (Ty.dflt QR)).2.2.1.1, .int .u16 (all.getD (Int.toNat (idxL (ipB (tkV6 p.2.2).1.1 p.2.1.2) all 0)) (Ty.dflt QR)).2.2.1.2, .str (all.getD (Int.toNat (idxL (ipB (tkV6 p.2.2).1.1 p.2.1.2) all 0)) (Ty.dflt QR)).2.2.2.1.1, .int .u16 (all.getD (Int.toNat (idxL (ipB (tkV6 p.2.2).1.1 p.2.1.2) all 0)) (Ty.dflt QR)).2.2.2.1.2.1, .int .u16 (all.getD (Int.toNat (idxL (ipB (tkV6 p.2.2).1.1 p.2.1.2) all 0)) (Ty.dflt QR)).2.2.2.1.2.2, .str (all.getD (Int.toNat (idxL (ipB (tkV6 p.2.2).1.1 p.2.1.2) all 0)) (Ty.dflt QR)).2.2.2.2.1, .int .i64 (all.getD (Int.toNat (idxL (ipB (tkV6 p.2.2).1.1 p.2.1.2) all 0)) (Ty.dflt QR)).2.2.2.2.2.1, .int .u64 (all.getD (Int.toNat (idxL (ipB (tkV6 p.2.2).1.1 p.2.1.2) all 0)) (Ty.dflt QR)).2.2.2.2.2.2], .agg [.int .u16 (tkV6 p.2.2).1.1, .bool (tkV6 p.2.2).1.2.1, .bool (tkV6 p.2.2).1.2.2.1, .bool (tkV6 p.2.2).1.2.2.2.1, .bool (tkV6 p.2.2).1.2.2.2.2.1, .bool (tkV6 p.2.2).1.2.2.2.2.2.1, .int .i64 (tkV6 p.2.2).1.2.2.2.2.2.2.1, .int .i64 (tkV6 p.2.2).1.2.2.2.2.2.2.2.1, .list QQ (tkV6 p.2.2).1.2.2.2.2.2.2.2.2.1, .list RR (tkV6 p.2.2).1.2.2.2.2.2.2.2.2.2.1, .list RR (tkV6 p.2.2).1.2.2.2.2.2.2.2.2.2.2.1, .list RR (tkV6 p.2.2).1.2.2.2.2.2.2.2.2.2.2.2], .bool true], [.boxT none [.int .u32 host, .int .i64 room, .rowA 1], .row QR all])) .no) .no)) .no) .no) .no)) .no) .no))) .no)))))) .no
def os22 : OSpec := { f := 22, sh := [.ptr 0 0, .d (.pair AD (.pair AD .str)) true], so := [.box [.d (.int .u32) false, .d (.int .i64) false, .row 1], .row QR], F := fun (p, _) ((host, room, _), all, _) => t22 p host room all }
theorem fn22 (p : ((Int × Int) × ((Int × Int) × List UInt8))) (host room : Int) (all : List QRt) : evC T0 (orcB [Z4i] [os58]) (lpOf h22 2 (lsOf [])) c22 1000000 (V1 [.ptr 0 0, AV.ofTy (.pair AD (.pair AD .str)) p true] [.box [.int .u32 host, .int .i64 room, .rowA 1], .row QR all] Tryz.f22.ntmps) (J1 T0 false 2 Tryz.f22) = (t22 p host room all).get := by kernel_rfl
theorem ok22 : os22.Ok Tryz.prog := by
 refine V3 Q1 tab0 (X0 (all_cons V4p all_nil) (all_cons ok58 all_nil)) h22 (d := 0) (n0 := 2) (S := lsOf []) Tryz.func22 (by kernel_rfl) (c := c22) (by kernel_rfl) rfl (Z3 (by kernel_rfl)) (by omega) (by kernel_rfl) ?_
 intro x'' y'' q'' hq''
 obtain ⟨(p : ((Int × Int) × ((Int × Int) × List UInt8))), _⟩ := x''
 obtain ⟨⟨(host : Int), (room : Int), _⟩, (all : List QRt), _⟩ := y''
 exact (fn22 p host room all).trans hq''
def t23 (p : ((Int × Int) × ((Int × Int) × List UInt8))) : Tr Res := .ret ([.agg [.int .u32 p.1.1, .int .u16 p.1.2, .int .u32 p.2.1.1, .int .u16 p.2.1.2, .str p.2.2]], [])
def os23 : OSpec := { f := 23, sh := [.d (.pair AD (.pair AD .str)) true], so := [], F := fun (p, _) _ => t23 p }
theorem fn23 (p : ((Int × Int) × ((Int × Int) × List UInt8))) : evC T0 (orcB [] []) (lpOf h23 0 (lsOf [])) c23 1000000 (V1 [AV.ofTy (.pair AD (.pair AD .str)) p true] [] Tryz.f23.ntmps) (J1 T0 false 0 Tryz.f23) = (t23 p).get := by kernel_rfl
theorem ok23 : os23.Ok Tryz.prog := by
 refine V3 Q1 tab0 (X0 all_nil all_nil) h23 (d := 0) (n0 := 0) (S := lsOf []) Tryz.func23 (by kernel_rfl) (c := c23) (by kernel_rfl) rfl (Z3 (by kernel_rfl)) (by omega) (by kernel_rfl) ?_
 intro x'' y'' q'' hq''
 obtain ⟨(p : ((Int × Int) × ((Int × Int) × List UInt8))), _⟩ := x''
 exact (fn23 p).trans hq''
def fs23 : FSpec := fsT 23 [((.pair AD (.pair AD .str)), true)] [((.pair AD (.pair AD .str)), true)] fun (p, _) => t23 p
theorem okf23 : fs23.Ok Tryz.prog := V4 fun x'' r'' hr'' => ok23 x'' () r'' hr''
def Z1g : OSpec := { f := 13, sh := [], so := [], F := fun _ _ => .ret ([.bool true], []) }
theorem ok13d : Z1g.Ok Tryz.prog := by
 rintro _ _ r h
 cases h
 exact Z50
theorem J3p {all : List QRt} {p i0 : Int} (hl : all.length ≤ 1000) : ∀ (n : Nat) (id : Int), nxM all i0 id ≤ n → nxI all p i0 id → U6 all p (Vn all p i0) = false
 | 0, id, hm, h => by
   cases ht : U6 all p id with
   | false => rw [X22 h ht]; exact ht
   | true => have := (V13 hl h ht).2; omega
 | n + 1, id, hm, h => by
   cases ht : U6 all p id with
   | false => rw [X22 h ht]; exact ht
   | true =>
     have h2 := V13 hl h ht
     exact J3p hl n _ (by omega) h2.1
theorem Q30 {all : List QRt} {x : QRt} {draw : Int} (hl : all.length ≤ 1000) : U6 all (Z6 all x draw).2.1 (Z6 all x draw).1 = false :=
 J3p hl _ _ (Nat.le_refl _) (X1d (i0 := draw % 65536) (by omega) (by omega))
theorem U3q {n : Int} (h : okT (.int .u32) n) : 0 ≤ n ∧ n < 4294967296 := by
 have hr : 0 ≤ n ∧ n ≤ 4294967295 := by simpa [okT, Lit.wf, IntKind.min, IntKind.max, IntKind.signed, IntKind.bits] using h
 omega
theorem V3k {n : Int} (h : okT (.int .u64) n) : 0 ≤ n ∧ n < 18446744073709551616 := by
 have hr : 0 ≤ n ∧ n ≤ 18446744073709551615 := by simpa [okT, Lit.wf, IntKind.min, IntKind.max, IntKind.signed, IntKind.bits] using h
 omega
theorem X4c {q : QRt} (h : okT QR q) : rgK q = true := by
 have h := V3k h.2.2.2.2.2.2
 rw [rgK, J0 h.1, J0 h.2]
 rfl
theorem U45 {l : List DEt} (h : okT (.list DE) l) : l.all rgD = true := by
 refine List.all_eq_true.2 fun x hx => ?_
 have h := h.2 x hx
 have hd := U3q h.2.2
 rw [rgD, J0 hd.1, J0 hd.2, X4c h.2.1]
 rfl
theorem Q3u {all : List QRt} (h : all.length ≤ 1000) : akS all [] (all.length : Int) 0 = true := by
 rw [akS, Nat.ble_eq_true_of_le h, J0 rfl, J0 rfl]
 rfl
theorem Z23 {all : List QRt} (h : all.length ≤ 1000) : akW all [] 0 = true := by
 rw [akW, Nat.ble_eq_true_of_le h]
 rfl
theorem Q4y {all : List QRt} (h : all.length ≤ 1000) : akL all = true := Nat.ble_eq_true_of_le h
theorem U3p {a b : List QRt} (h : a.length ≤ 1000) (hb : a.length = b.length) : akP a b 0 = true := by
 rw [akP, Nat.ble_eq_true_of_le h, J0 hb]
 rfl
def dstB : List QRt → Bool
 | [] => true
 | x :: l => !(U6 l x.2.1 x.1) && dstB l
theorem V4s (x y : QRt) : ipB x.1 x.2.1 y = ipB y.1 y.2.1 x := by
 unfold ipB
 rw [Bool.beq_comm (a := y.1), Bool.beq_comm (a := y.2.1)]
theorem U2z {all : List QRt} {y : QRt} {p i : Int} : U6 (all ++ [y]) p i = (U6 all p i || ipB i p y) := by
 unfold U6
 rw [List.any_append, List.any_cons, List.any_nil, Bool.or_false]
theorem V2t {y : QRt} : ∀ {all : List QRt}, dstB all = true → U6 all y.2.1 y.1 = false → dstB (all ++ [y]) = true
 | [], _, _ => rfl
 | x :: l, h, ht => by
   rw [dstB, Bool.and_eq_true] at h
   have ht : (ipB y.1 y.2.1 x || U6 l y.2.1 y.1) = false := ht
   rw [Bool.or_eq_false_iff] at ht
   have h1 : U6 l x.2.1 x.1 = false := by simpa using h.1
   rw [List.cons_append, dstB, U2z, h1, V4s, ht.1, V2t h.2 ht.2]
   rfl
abbrev PGt := (Int × Int) × ((Int × Int) × List UInt8)
def hitP (host : Int) (p : PGt) (l : List QRt) : Int := hitI host p.1.1 p.1.2 p.2.1.1 p.2.1.2 (tkV6 p.2.2).1.1 (tkV6 p.2.2).1.2.1 (tkV6 p.2.2).1.2.2.2.2.2.2.1 (mQ (tkV6 p.2.2).1) l
def mtF (host : Int) (l : List QRt) (p : PGt) : QRt × (MGt × Bool) :=
 bif !decide ((tkV6 p.2.2).2 = 0) || decide (hitP host p l < 0) then (V0h, noM, false) else (atK l (hitP host p l), (tkV6 p.2.2).1, true)
def J1b : FSpec := fs24.like fun (host, l, p, _) => .br (smS (Prod.snd (Prod.snd p))) (.br (mtC l 0) (.ret ((mtF host l p).1, (mtF host l p).2.1, (mtF host l p).2.2, ())) .no) .no
theorem X4q : J1b.Ok Tryz.prog := by
 refine Q3 okf24 _ ?_
 rintro ⟨(host : Int), (l : List QRt), (p : PGt), _⟩ y h
 rcases Jl h with ⟨c1, h⟩ | ⟨_, h⟩
 · rcases Jl h with ⟨c2, h⟩ | ⟨_, h⟩
   · cases h
     refine X2 (vs := [AV.ofTy QR (mtF host l p).1 true, AV.ofTy MG (mtF host l p).2.1 true, .bool (mtF host l p).2.2]) rfl rfl ?_
     have key : ∀ b : Bool, (!decide ((tkV6 p.2.2).2 = 0) || decide (hitP host p l < 0)) = b → mtF host l p = bif b then (V0h, noM, false) else (atK l (hitP host p l), (tkV6 p.2.2).1, true) := fun b hb => by rw [← hb]; rfl
     refine Tr.get_of_all ?_
     show (t24 host l p).all _
     unfold t24
     refine Tr.all_t c1 (Tr.all_t c2 (Tr.all_br (fun h => ?_) (fun h => ?_)))
     · rw [key true h]
       exact Tr.all_ret rfl
     · rw [key false h]
       exact Tr.all_ret rfl
   · exact (Z06 h).elim
 · exact (Z06 h).elim
theorem J2u {mi tp : Int} {g : QRt → Bool} (hg : ∀ x, g x = true → ipB mi tp x = true) : ∀ (l : List QRt) (k : Nat), dstB l = true →
    idxL g l k = bif decide (idxL (ipB mi tp) l k < 0) then -1 else bif g (l.getD (idxL (ipB mi tp) l k - k).toNat V0h) then idxL (ipB mi tp) l k else -1
 | [], k, _ => rfl
 | x :: l, k, h => by
   rw [dstB, Bool.and_eq_true] at h
   have h1 : U6 l x.2.1 x.1 = false := by simpa using h.1
   cases hx : ipB mi tp x with
   | true =>
     rw [idxL, idxL, if_pos hx, Z0 (by omega), cond_false, show ((k : Int) - (k : Int)).toNat = 0 by omega]
     show (if g x = true then (k : Int) else idxL g l (k + 1)) = bif g x then (k : Int) else -1
     cases hgx : g x with
     | true => rfl
     | false =>
       rw [if_neg (by simp), cond_false]
       have hx2 := hx
       simp only [ipB, Bool.and_eq_true, beq_iff_eq] at hx2
       rw [hx2.1, hx2.2] at h1
       rcases Zr g l (k + 1) with ⟨h2, _⟩ | ⟨_, h2⟩
       · exact h2
       · obtain ⟨y, hy, hgy⟩ := List.any_eq_true.1 h2
         rw [show U6 l tp mi = true from List.any_eq_true.2 ⟨y, hy, hg y hgy⟩] at h1
         cases h1
   | false =>
     have hgx : g x = false := by
      cases hgx : g x with
      | false => rfl
      | true => rw [hg x hgx] at hx; cases hx
     rw [idxL, idxL, if_neg (by rw [hgx]; simp), if_neg (by rw [hx]; simp), J2u hg l (k + 1) h.2]
     rcases Zr (ipB mi tp) l (k + 1) with ⟨h2, _⟩ | ⟨h2, _⟩
     · rw [h2]; rfl
     · rw [show (idxL (ipB mi tp) l (k + 1) - (k : Int)).toNat = (idxL (ipB mi tp) l (k + 1) - ((k + 1 : Nat) : Int)).toNat + 1 by omega]
       rfl
theorem U4q {host fh fp th tp mi : Int} {mqr : Bool} {mop : Int} {mq : List QQt} (x : QRt) (h : hitB host fh fp th tp mi mqr mop mq x = true) : ipB mi tp x = true := by
 simp only [hitB, Bool.and_eq_true, beq_iff_eq] at h
 unfold ipB
 rw [h.2.1.1, h.2.1.2, beq_self_eq_true, beq_self_eq_true]
 rfl
theorem Q4t {host fh fp th tp mi : Int} {mqr : Bool} {mop : Int} {mq : List QQt} {l : List QRt} (h : rtB host th mqr mop mq = false) : hitI host fh fp th tp mi mqr mop mq l = -1 := by
 unfold hitI
 rcases Zr (hitB host fh fp th tp mi mqr mop mq) l 0 with ⟨h2, _⟩ | ⟨_, h2⟩
 · exact h2
 · obtain ⟨y, _, hy⟩ := List.any_eq_true.1 h2
   unfold hitB at hy
   rw [h] at hy
   cases hy
theorem X4x {host fh fp th tp mi : Int} {mqr : Bool} {mop : Int} {mq : List QQt} {l : List QRt} (hd : dstB l = true) (h : rtB host th mqr mop mq = true) :
    hitI host fh fp th tp mi mqr mop mq l = bif decide (idxL (ipB mi tp) l 0 < 0) then -1 else bif svB fh fp mq (atK l (idxL (ipB mi tp) l 0)) then idxL (ipB mi tp) l 0 else -1 := by
 unfold hitI
 rw [J2u U4q l 0 hd]
 by_cases hj : idxL (ipB mi tp) l 0 < 0
 · rw [J0 hj]; rfl
 · rw [Z0 hj, cond_false, cond_false]
   have e1 : List.getD l (idxL (ipB mi tp) l 0 - ((0 : Nat) : Int)).toNat V0h = atK l (idxL (ipB mi tp) l 0) := by
    unfold atK
    rw [show idxL (ipB mi tp) l 0 - ((0 : Nat) : Int) = idxL (ipB mi tp) l 0 by omega]
   rw [e1]
   have hip : ∀ (l : List QRt) (k : Nat), ¬ idxL (ipB mi tp) l k < 0 → ipB mi tp (l.getD (idxL (ipB mi tp) l k - k).toNat V0h) = true := fun l => by
    induction l with
    | nil => intro k h; exact absurd (show (-1 : Int) < 0 by decide) h
    | cons x l ih =>
      intro k hn
      rw [idxL] at hn ⊢
      split
      · rename_i hx
        rw [show ((k : Int) - (k : Int)).toNat = 0 by omega]
        exact hx
      · rename_i hx
        rw [if_neg hx] at hn
        rcases Zr (ipB mi tp) l (k + 1) with ⟨h2, _⟩ | ⟨h2, _⟩
        · rw [h2] at hn; omega
        · rw [show (idxL (ipB mi tp) l (k + 1) - (k : Int)).toNat = (idxL (ipB mi tp) l (k + 1) - ((k + 1 : Nat) : Int)).toNat + 1 by omega]
          exact ih (k + 1) hn
   have hx := hip l 0 hj
   rw [e1] at hx
   generalize atK l (idxL (ipB mi tp) l 0) = x at *
   have hx2 : (tp == x.2.1 && mi == x.1) = true := by
    simp only [ipB, Bool.and_eq_true, beq_iff_eq] at hx ⊢
    exact ⟨hx.2.symm, hx.1.symm⟩
   show (bif hitB host fh fp th tp mi mqr mop mq x then _ else _) = _
   unfold hitB
   rw [h, hx2, Bool.true_and, Bool.true_and]
def Z1i : OSpec := os22.like fun (p, _) ((host, room, _), all, _) => .br (smS (Prod.snd (Prod.snd p))) (.br (akL all && dstB all) (.ret ([AV.ofTy QR (mtF host all p).1 true, AV.ofTy MG (mtF host all p).2.1 true, .bool (mtF host all p).2.2], [.box [.int .u32 host, .int .i64 room, .rowA 1], .row QR all])) .no) .no
theorem ok22p : Z1i.Ok Tryz.prog := by
 refine Uv ok22 _ ?_
 rintro ⟨(p : PGt), _⟩ ⟨⟨(host : Int), (room : Int), _⟩, (all : List QRt), _⟩ r h
 refine Tr.get_of_all ?_
 show (t22 p host room all).all _
 rcases Jl h with ⟨c1, h⟩ | ⟨_, h⟩
 · rcases Jl h with ⟨c2, h⟩ | ⟨_, h⟩
   · cases h
     simp only [Bool.and_eq_true] at c2
     obtain ⟨hl, hd⟩ := c2
     have hl := Nat.le_of_ble_eq_true hl
     have hnone : (!decide ((tkV6 p.2.2).2 = 0) || decide (hitP host p all < 0)) = true → mtF host all p = (V0h, noM, false) := fun hb => by unfold mtF; rw [hb]; rfl
     have hsome : ∀ j : Int, 0 ≤ j → (tkV6 p.2.2).2 = 0 → hitP host p all = j → mtF host all p = (atK all j, (tkV6 p.2.2).1, true) := fun j h0 hb hj => by
      unfold mtF
      rw [hj, hb, J0 rfl, Z0 (show ¬ j < 0 by omega)]
      rfl
     have hrt : ∀ b : Bool, rtB host p.2.1.1 (tkV6 p.2.2).1.2.1 (tkV6 p.2.2).1.2.2.2.2.2.2.1 (mQ (tkV6 p.2.2).1) = b → b = false → mtF host all p = (V0h, noM, false) := fun b h1 h2 => hnone (by
      have : hitP host p all = -1 := Q4t (h1.trans h2)
      rw [this, J0 (show (-1 : Int) < 0 by decide), Bool.or_true])
     unfold t22
     refine Tr.all_t c1 (Tr.all_br (fun h => ?_) (fun k0 => Tr.all_br (fun h => ?_) (fun k1 => Tr.all_br (fun h => ?_) (fun k2 => Tr.all_br (fun h => ?_) (fun k3 => Tr.all_br (fun h => ?_) (fun k4 => ?_))))))
     · rw [hnone (by rw [Z0 (show ¬ (tkV6 p.2.2).2 = 0 by intro e; rw [e] at h; cases h)]; rfl)]
       exact Tr.all_ret rfl
     · rw [hrt _ rfl (by unfold rtB; rw [show (p.2.1.1 == host) = false by simpa [bne] using h]; rfl)]
       exact Tr.all_ret rfl
     · rw [hrt _ rfl (by unfold rtB; rw [show (tkV6 p.2.2).1.2.1 = false by simpa using h]; simp only [Bool.false_and, Bool.and_false])]
       exact Tr.all_ret rfl
     · rw [hrt _ rfl (by unfold rtB; rw [show ((tkV6 p.2.2).1.2.2.2.2.2.2.1 == 0) = false by simpa [bne] using h]; simp only [Bool.false_and, Bool.and_false])]
       exact Tr.all_ret rfl
     · rw [hrt _ rfl (by unfold rtB; rw [show (((mQ (tkV6 p.2.2).1).length : Int) == 1) = false by have h : (!(((mQ (tkV6 p.2.2).1).length : Int) == 1)) = true := h; cases hb : (((mQ (tkV6 p.2.2).1).length : Int) == 1) with | false => rfl | true => rw [hb] at h; cases h]; simp only [Bool.and_false])]
       exact Tr.all_ret rfl
     · have hb : (tkV6 p.2.2).2 = 0 := by
         cases hz : decide ((tkV6 p.2.2).2 = 0) with
         | true => exact of_decide_eq_true hz
         | false =>
           have := of_decide_eq_false hz
           have k0 : (!((tkV6 p.2.2).2 == 0)) = false := k0
           rw [show ((tkV6 p.2.2).2 == 0) = false from by simpa using this] at k0
           cases k0
       have bneF : ∀ b : Bool, (!b) = false → b = true := fun b h => by cases b <;> first | rfl | cases h
       have h1 : (p.2.1.1 == host) = true := bneF _ k1
       have h2 : (tkV6 p.2.2).1.2.1 = true := bneF _ k2
       have h3 : ((tkV6 p.2.2).1.2.2.2.2.2.2.1 == 0) = true := bneF _ k3
       have h4 : (((mQ (tkV6 p.2.2).1).length : Int) == 1) = true := bneF _ k4
       have hR : rtB host p.2.1.1 (tkV6 p.2.2).1.2.1 (tkV6 p.2.2).1.2.2.2.2.2.2.1 (mQ (tkV6 p.2.2).1) = true := by
        unfold rtB
        rw [h1, h2, h3, h4]
        rfl
       have hE : hitP host p all = _ := X4x (fh := p.1.1) (fp := p.1.2) (tp := p.2.1.2) (mi := (tkV6 p.2.2).1.1) hd hR
       have hq0 : 0 < ((mQ (tkV6 p.2.2).1).length : Int) := by have := eq_of_beq h4; omega
       have hlt := U13 (ipB (tkV6 p.2.2).1.1 p.2.1.2) all 0
       have hst : hitP host p all = -1 → mtF host all p = (V0h, noM, false) := fun h => hnone (by rw [h, J0 (show (-1 : Int) < 0 by decide), Bool.or_true])
       refine Tr.all_t (U1y hl) ?_
       generalize hI : idxL (ipB (tkV6 p.2.2).1.1 p.2.1.2) all 0 = j at *
       by_cases hj : j < 0
       · rw [J0 hj, cond_true] at hE
         rw [hst hE]
         exact Tr.all_t (J0 hj) (Tr.all_ret rfl)
       · rw [Z0 hj, cond_false] at hE
         have hj1 : j < (all.length : Int) := by omega
         have hno : svB p.1.1 p.1.2 (mQ (tkV6 p.2.2).1) (atK all j) = false → mtF host all p = (V0h, noM, false) := fun h => hst (by rw [hE, h]; rfl)
         refine Tr.all_f (Z0 hj) (Tr.all_f (Z0 hj) (Tr.all_t (J0 (by omega)) (Tr.all_t (J0 hj1) (Tr.all_br (fun s1 => ?_) (fun s1 => Tr.all_t (J0 (by omega)) (Tr.all_t (J0 hj1) (Tr.all_t (J0 hq0) (Tr.all_br (fun s2 => ?_) (fun s2 => Tr.all_t (J0 (by omega)) (Tr.all_t (J0 hj1) ?_))))))))))
         · have s1 : ((atK all j).2.2.1.1 == p.1.1 && ((atK all j).2.2.1.2 == p.1.2 && true)) = false := by
             have s1 : (!((atK all j).2.2.1.1 == p.1.1 && ((atK all j).2.2.1.2 == p.1.2 && true))) = true := s1
             cases hb : ((atK all j).2.2.1.1 == p.1.1 && ((atK all j).2.2.1.2 == p.1.2 && true)) with
             | false => rfl
             | true => rw [hb] at s1; cases s1
           rw [hno (by unfold svB; rw [Bool.beq_comm (a := p.1.1), Bool.beq_comm (a := p.1.2), s1]; rfl)]
           exact Tr.all_ret rfl
         · have s2 : ((atK all j).2.2.2.1.1 == (q0 (mQ (tkV6 p.2.2).1)).1 && ((atK all j).2.2.2.1.2.1 == (q0 (mQ (tkV6 p.2.2).1)).2.1 && ((atK all j).2.2.2.1.2.2 == (q0 (mQ (tkV6 p.2.2).1)).2.2 && true))) = false := by
             have s2 : (!((atK all j).2.2.2.1.1 == (q0 (mQ (tkV6 p.2.2).1)).1 && ((atK all j).2.2.2.1.2.1 == (q0 (mQ (tkV6 p.2.2).1)).2.1 && ((atK all j).2.2.2.1.2.2 == (q0 (mQ (tkV6 p.2.2).1)).2.2 && true)))) = true := s2
             cases hb : ((atK all j).2.2.2.1.1 == (q0 (mQ (tkV6 p.2.2).1)).1 && ((atK all j).2.2.2.1.2.1 == (q0 (mQ (tkV6 p.2.2).1)).2.1 && ((atK all j).2.2.2.1.2.2 == (q0 (mQ (tkV6 p.2.2).1)).2.2 && true))) with
             | false => rfl
             | true => rw [hb] at s2; cases s2
           rw [hno (by unfold svB; rw [Bool.beq_comm (a := (q0 (mQ (tkV6 p.2.2).1)).1), Bool.beq_comm (a := (q0 (mQ (tkV6 p.2.2).1)).2.1), Bool.beq_comm (a := (q0 (mQ (tkV6 p.2.2).1)).2.2), s2, Bool.and_false])]
           exact Tr.all_ret rfl
         · have s1 : ((atK all j).2.2.1.1 == p.1.1 && ((atK all j).2.2.1.2 == p.1.2 && true)) = true := bneF _ s1
           have s2 : ((atK all j).2.2.2.1.1 == (q0 (mQ (tkV6 p.2.2).1)).1 && ((atK all j).2.2.2.1.2.1 == (q0 (mQ (tkV6 p.2.2).1)).2.1 && ((atK all j).2.2.2.1.2.2 == (q0 (mQ (tkV6 p.2.2).1)).2.2 && true))) = true := bneF _ s2
           have hs : svB p.1.1 p.1.2 (mQ (tkV6 p.2.2).1) (atK all j) = true := by
            unfold svB
            rw [Bool.beq_comm (a := p.1.1), Bool.beq_comm (a := p.1.2), s1, Bool.beq_comm (a := (q0 (mQ (tkV6 p.2.2).1)).1), Bool.beq_comm (a := (q0 (mQ (tkV6 p.2.2).1)).2.1), Bool.beq_comm (a := (q0 (mQ (tkV6 p.2.2).1)).2.2), s2]
            rfl
           rw [hs, cond_true] at hE
           rw [hsome j (by omega) hb hE]
           exact Tr.all_ret rfl
   · exact (Z06 h).elim
 · exact (Z06 h).elim
noncomputable def b21 : Code := Z4 c21 0
def ls21 : LoopSpec := { bid := 0, sh := [.d (.list QR) false, .d (.int .i64) false, .row 0, .d (.int .i64) false], so := [.row QR], F := fun (l, who, i, _) (w, _) => .on (akW l w i) (.exit 0, [.rowA 0], [.row QR (l.filter (whoB who))]) }
def r21 (l : List QRt) (who i : Int) (w : List QRt) : Tr (St ⊕ (Ex × St)) := .br (decide (i < (↑l.length : Int))) (.br (decide (0 ≤ i)) (.br (decide (i < (↑l.length : Int))) (.br ((l.getD i.toNat (Ty.dflt QR)).2.2.2.2.2.1 == who) (.br (decide (0 ≤ i)) (.br (decide (i < (↑l.length : Int))) (.br (fits (List.length w + 1) 72) (.ret (.inl (stOf [0, 1, 5, 6] [.list QR l, .int .i64 who, .rowA 0, .int .i64 (IntKind.wrap .i64 (i + 1))] [.row QR (w ++ [List.getD l i.toNat (Ty.dflt QR)])]))) .no) .no) .no) (.ret (.inl (stOf [0, 1, 5, 6] [.list QR l, .int .i64 who, .rowA 0, .int .i64 (IntKind.wrap .i64 (i + 1))] [.row QR w])))) .no) .no) (.ret (.inr (.exit 0, stOf [5] [.rowA 0] [.row QR w])))
theorem Z4e (lp : Lp) (l : List QRt) (who i : Int) (w : List QRt) : evC T0 (orcB [] []) lp b21 0 (stOf [0, 1, 5, 6] [.list QR l, .int .i64 who, .rowA 0, .int .i64 i] [.row QR w]) (U0 [0, 1, 5, 6] [5] 0) = (r21 l who i w).get := by kernel_rfl
theorem wf21 (l : List QRt) (who : Int) (I'' : List QRt → Int → Prop) (m'' : List QRt → Int → Nat) (r'' : Ex × St) (h : ∀ (w : List QRt) (i : Int), I'' w i → (r21 l who i w).all fun x'' => x'' = .inr r'' ∨ ∃ (w' : List QRt) (i' : Int), x'' = .inl (stOf [0, 1, 5, 6] [.list QR l, .int .i64 who, .rowA 0, .int .i64 i'] [.row QR w']) ∧ I'' w' i' ∧ m'' w' i' < m'' w i) (lp : Lp) (w : List QRt) (i : Int) : I'' w i →
    V2 (fun st => evC T0 (orcB [] []) lp b21 0 st (U0 [0, 1, 5, 6] [5] 0)) (stOf [0, 1, 5, 6] [.list QR l, .int .i64 who, .rowA 0, .int .i64 i] [.row QR w]) = some r'' :=
 Z5 (fun a'' : List QRt × Int => stOf [0, 1, 5, 6] [.list QR l, .int .i64 who, .rowA 0, .int .i64 a''.2] [.row QR a''.1]) (fun a'' => I'' a''.1 a''.2) (fun a'' => m'' a''.1 a''.2) r'' (fun a'' => r21 l who a''.2 a''.1)
  (fun a'' x hx => (Z4e lp l who a''.2 a''.1).trans hx) (fun a'' ha => Tr.all_mono (fun x'' hx => hx.imp id fun ⟨w', i', h1, h2, h3⟩ => ⟨(w', i'), h1, h2, h3⟩) (h (a''.1) (a''.2) ha)) (w, i)
theorem Z4v : ls21.Ok T0 (orcB [] []) h21 0 0 b21 := by
 intro q'' hq'' x'' y'' r'' h
 obtain ⟨(l : List QRt), (who : Int), (i : Int), _⟩ := x''
 obtain ⟨(w : List QRt), _⟩ := y''
 obtain ⟨hc, rfl⟩ := Tr.get_on h
 show V2 (fun st => evC T0 (orcB [] []) (lpN T0 (orcB [] []) h21 0 q'') b21 0 st (U0 [0, 1, 5, 6] [5] 0)) (stOf [0, 1, 5, 6] [.list QR l, .int .i64 who, .rowA 0, .int .i64 i] [.row QR w]) = some (.exit 0, stOf [5] ([.rowA 0]) ([.row QR (l.filter (whoB who))]))
 simp only [akW, Bool.and_eq_true, decide_eq_true_eq] at hc
 obtain ⟨hl, rfl, rfl⟩ := hc
 have hl := Nat.le_of_ble_eq_true hl
 refine wf21 l who (fun w i => 0 ≤ i ∧ i ≤ l.length ∧ w = (l.take i.toNat).filter (whoB who)) (fun w i => (l.length - i).toNat) _ ?_ _ [] 0 ⟨by omega, by omega, rfl⟩
 rintro w i ⟨h0, h1, rfl⟩
 unfold r21
 rw [Vc h0 h1 (by omega)]
 by_cases hi : i < l.length
 · have hs := V0q (p := whoB who) (l := l) (k := i.toNat) (Ty.dflt QR) (by omega)
   have hf := Z1y (p := whoB who) (l := l) i.toNat
   generalize l.getD i.toNat (Ty.dflt QR) = x at *
   refine Tr.all_t (J0 hi) (Tr.all_t (J0 h0) (Tr.all_t (J0 hi) (Tr.all_br (fun h => ?_) (fun h => ?_))))
   · rw [show whoB who x = true from h, cond_true] at hs
     refine Tr.all_t (J0 h0) (Tr.all_t (J0 hi) (Tr.all_t (U5 (by omega) (by omega)) (Tr.all_ret (.inr ⟨_, _, rfl, ⟨by omega, by omega, ?_⟩, by omega⟩))))
     rw [show (i + 1).toNat = i.toNat + 1 by omega, hs]
   · rw [show whoB who x = false from h, cond_false] at hs
     refine Tr.all_ret (.inr ⟨_, _, rfl, ⟨by omega, by omega, ?_⟩, by omega⟩)
     rw [show (i + 1).toNat = i.toNat + 1 by omega, hs]
 · refine Tr.all_f (Z0 hi) (Tr.all_ret (.inl ?_))
   rw [List.take_of_length_le (by omega)]
def t21 (l : List QRt) (who : Int) : Tr Res := .br (akW l [] 0) (.ret ([.list QR (List.filter (whoB who) l)], [])) .no
def os21 : OSpec := { f := 21, sh := [.d (.list QR) false, .d (.int .i64) false], so := [], F := fun (l, who, _) _ => t21 l who }
theorem fn21 (l : List QRt) (who : Int) : evC T0 (orcB [] []) (lpOf h21 0 (lsOf [ls21])) c21 1000000 (V1 [.list QR l, .int .i64 who] [] Tryz.f21.ntmps) (J1 T0 false 0 Tryz.f21) = (t21 l who).get := by kernel_rfl
theorem ok21 : os21.Ok Tryz.prog := by
 refine V3 Q1 tab0 (X0 all_nil all_nil) h21 (d := 0) (n0 := 0) (S := lsOf [ls21]) Tryz.func21 (by kernel_rfl) (c := c21) (by kernel_rfl) rfl (X4 (xs := [(0, b21)]) (by kernel_rfl) (all_cons (V5 Z4v) all_nil)) (by omega) (by kernel_rfl) ?_
 intro x'' y'' q'' hq''
 obtain ⟨(l : List QRt), (who : Int), _⟩ := x''
 exact (fn21 l who).trans hq''
def fs21 : FSpec := fsT 21 [((.list QR), false), ((.int .i64), false)] [((.list QR), false)] fun (l, who, _) => t21 l who
theorem okf21 : fs21.Ok Tryz.prog := V4 fun x'' r'' hr'' => ok21 x'' () r'' hr''
def Ua (room : Int) (l : List DEt) : List QRt := l.foldl (J6 room) []
def akY (l : List DEt) (k all : List QRt) (room0 host room i : Int) : Bool := Nat.ble l.length 1000000 && (l.all rgD && (decide (room0 = room) && (decide (k = []) && (decide (all = []) && (decide (host = 7) && (decide (0 ≤ room) && (decide (room ≤ 256) && decide (i = 0))))))))
noncomputable def b4 : Code := Z4 c4 0
def ls4 : LoopSpec := { bid := 0, sh := [.d (.int .i64) false, .d (.list DE) false, .d (.int .i64) false, .ptr 0 0, .d .bool false, .ptr 1 0, .d (.list QR) false, .d (.int .i64) false], so := [.box [.d (.int .u32) false, .d (.int .u16) false, .d (.int .u32) false, .d (.int .u16) false, .d .str false], .box [.d (.int .u32) false, .d (.int .i64) false, .row 2], .row QR], F := fun (room0, l, who, up, k, i, _) ((fh, fp, th, tp, pd, _), (host, room, _), all, _) => .on (akY l k all room0 host room i) (.exit 0, [.ptr 0 0, .dead, .bool up, .ptr 1 0, .list QR (Ua room l)], [.box [.int .u32 fh, .int .u16 fp, .int .u32 th, .int .u16 tp, .str pd], .box [.int .u32 host, .int .i64 room, .rowA 2], .row QR (Ua room l)]) }
def r4 (room0 : Int) (l : List (Int × (QRt × Int))) (who : Int) (up : Bool) (k : List QRt) (i fh fp th tp : Int) (pd : List UInt8) (host room : Int) (all : List QRt) : Tr (St ⊕ (Ex × St)) := .br (decide (i < (↑l.length : Int))) (.br (decide (0 ≤ i)) (.br (decide (i < (↑l.length : Int))) (.br (akG k all room0 room (l.getD i.toNat (Ty.dflt DE))) (.br ((l.getD i.toNat (Ty.dflt DE)).1 == (1 : Ty.den (Ty.int .i64)) && U6 all (l.getD i.toNat (Ty.dflt DE)).2.1.2.1 (l.getD i.toNat (Ty.dflt DE)).2.1.1) (.br ((↑(List.length (J6 room all (l.getD i.toNat (Ty.dflt DE)))) : Int) != (↑(List.length (J6 room all (l.getD i.toNat (Ty.dflt DE)))) : Int)) (.ret (.inr (.ret, stOf [6, 8, 9, 10, 11] [.ptr 0 0, .bool false, .bool up, .ptr 1 0, .list QR (J6 room all (l.getD i.toNat (Ty.dflt DE)))] [.boxT none [.int .u32 fh, .int .u16 fp, .int .u32 th, .int .u16 tp, .str pd], .boxT none [.int .u32 host, .int .i64 room, .rowA 2], .row QR (J6 room all (l.getD i.toNat (Ty.dflt DE)))]))) (.br (akS (J6 room all (l.getD i.toNat (Ty.dflt DE))) [] (↑(List.length (J6 room all (l.getD i.toNat (Ty.dflt DE)))) : Int) 0) (.br (akW (List.filter (whoB who) (J6 room all (l.getD i.toNat (Ty.dflt DE)))) [] 0) (.br (akW (J6 room all (l.getD i.toNat (Ty.dflt DE))) [] 0) (.br ((↑(List.length (List.filter (whoB who) (J6 room all (l.getD i.toNat (Ty.dflt DE))))) : Int) != (↑(List.length (List.filter (whoB who) (J6 room all (l.getD i.toNat (Ty.dflt DE))))) : Int)) (.ret (.inr (.ret, stOf [6, 8, 9, 10, 11] [.ptr 0 0, .bool false, .bool up, .ptr 1 0, .list QR (J6 room all (l.getD i.toNat (Ty.dflt DE)))] [.boxT none [.int .u32 fh, .int .u16 fp, .int .u32 th, .int .u16 tp, .str pd], .boxT none [.int .u32 host, .int .i64 room, .rowA 2], .row QR (J6 room all (l.getD i.toNat (Ty.dflt DE)))]))) (.br (akP (List.filter (whoB who) (J6 room all (l.getD i.toNat (Ty.dflt DE)))) (List.filter (whoB who) (J6 room all (l.getD i.toNat (Ty.dflt DE)))) 0) (.br (Ql (List.filter (whoB who) (J6 room all (l.getD i.toNat (Ty.dflt DE)))) (List.filter (whoB who) (J6 room all (l.getD i.toNat (Ty.dflt DE))))) (.ret (.inl (stOf [0, 1, 3, 6, 9, 10, 11, 12] [.int .i64 room0, .list DE l, .int .i64 who, .ptr 0 0, .bool up, .ptr 1 0, .list QR (J6 room all (l.getD i.toNat (Ty.dflt DE))), .int .i64 (IntKind.wrap .i64 (i + 1))] [.boxT none [.int .u32 fh, .int .u16 fp, .int .u32 th, .int .u16 tp, .str pd], .boxT none [.int .u32 host, .int .i64 room, .rowA 2], .row QR (J6 room all (l.getD i.toNat (Ty.dflt DE)))]))) (.ret (.inr (.ret, stOf [6, 8, 9, 10, 11] [.ptr 0 0, .bool false, .bool up, .ptr 1 0, .list QR (J6 room all (l.getD i.toNat (Ty.dflt DE)))] [.boxT none [.int .u32 fh, .int .u16 fp, .int .u32 th, .int .u16 tp, .str pd], .boxT none [.int .u32 host, .int .i64 room, .rowA 2], .row QR (J6 room all (l.getD i.toNat (Ty.dflt DE)))])))) .no)) .no) .no) .no)) (.br ((↑(List.length (J6 room all (l.getD i.toNat (Ty.dflt DE)))) : Int) != (↑(List.length (J6 room all (l.getD i.toNat (Ty.dflt DE)))) : Int)) (.ret (.inr (.ret, stOf [6, 8, 9, 10, 11] [.ptr 0 0, .bool false, .bool up, .ptr 1 0, .list QR (J6 room all (l.getD i.toNat (Ty.dflt DE)))] [.boxT none [.int .u32 fh, .int .u16 fp, .int .u32 th, .int .u16 tp, .str pd], .boxT none [.int .u32 host, .int .i64 room, .rowA 2], .row QR (J6 room all (l.getD i.toNat (Ty.dflt DE)))]))) (.br (akS (J6 room all (l.getD i.toNat (Ty.dflt DE))) [] (↑(List.length (J6 room all (l.getD i.toNat (Ty.dflt DE)))) : Int) 0) (.br (akW (List.filter (whoB who) (J6 room all (l.getD i.toNat (Ty.dflt DE)))) [] 0) (.br (akW (J6 room all (l.getD i.toNat (Ty.dflt DE))) [] 0) (.br ((↑(List.length (List.filter (whoB who) (J6 room all (l.getD i.toNat (Ty.dflt DE))))) : Int) != (↑(List.length (List.filter (whoB who) (J6 room all (l.getD i.toNat (Ty.dflt DE))))) : Int)) (.ret (.inr (.ret, stOf [6, 8, 9, 10, 11] [.ptr 0 0, .bool false, .bool up, .ptr 1 0, .list QR (J6 room all (l.getD i.toNat (Ty.dflt DE)))] [.boxT none [.int .u32 fh, .int .u16 fp, .int .u32 th, .int .u16 tp, .str pd], .boxT none [.int .u32 host, .int .i64 room, .rowA 2], .row QR (J6 room all (l.getD i.toNat (Ty.dflt DE)))]))) (.br (akP (List.filter (whoB who) (J6 room all (l.getD i.toNat (Ty.dflt DE)))) (List.filter (whoB who) (J6 room all (l.getD i.toNat (Ty.dflt DE)))) 0) (.br (Ql (List.filter (whoB who) (J6 room all (l.getD i.toNat (Ty.dflt DE)))) (List.filter (whoB who) (J6 room all (l.getD i.toNat (Ty.dflt DE))))) (.ret (.inl (stOf [0, 1, 3, 6, 9, 10, 11, 12] [.int .i64 room0, .list DE l, .int .i64 who, .ptr 0 0, .bool up, .ptr 1 0, .list QR (J6 room all (l.getD i.toNat (Ty.dflt DE))), .int .i64 (IntKind.wrap .i64 (i + 1))] [.boxT none [.int .u32 fh, .int .u16 fp, .int .u32 th, .int .u16 tp, .str pd], .boxT none [.int .u32 host, .int .i64 room, .rowA 2], .row QR (J6 room all (l.getD i.toNat (Ty.dflt DE)))]))) (.ret (.inr (.ret, stOf [6, 8, 9, 10, 11] [.ptr 0 0, .bool false, .bool up, .ptr 1 0, .list QR (J6 room all (l.getD i.toNat (Ty.dflt DE)))] [.boxT none [.int .u32 fh, .int .u16 fp, .int .u32 th, .int .u16 tp, .str pd], .boxT none [.int .u32 host, .int .i64 room, .rowA 2], .row QR (J6 room all (l.getD i.toNat (Ty.dflt DE)))])))) .no)) .no) .no) .no))) .no) .no) .no) (.ret (.inr (.exit 0, stOf [6, 8, 9, 10, 11] [.ptr 0 0, .dead, .bool up, .ptr 1 0, .list QR k] [.boxT none [.int .u32 fh, .int .u16 fp, .int .u32 th, .int .u16 tp, .str pd], .boxT none [.int .u32 host, .int .i64 room, .rowA 2], .row QR all])))
theorem Z4o (lp : Lp) (room0 : Int) (l : List (Int × (QRt × Int))) (who : Int) (up : Bool) (k : List QRt) (i fh fp th tp : Int) (pd : List UInt8) (host room : Int) (all : List QRt) : evC TW (orcB [fs15, fs23, fs19, fs25, fs18, fs21, J1b, V1b] [Z1g, os14, X1f, os20, os17, Z1i]) lp b4 0 (stOf [0, 1, 3, 6, 9, 10, 11, 12] [.int .i64 room0, .list DE l, .int .i64 who, .ptr 0 0, .bool up, .ptr 1 0, .list QR k, .int .i64 i] [.box [.int .u32 fh, .int .u16 fp, .int .u32 th, .int .u16 tp, .str pd], .box [.int .u32 host, .int .i64 room, .rowA 2], .row QR all]) (U0 [0, 1, 3, 6, 9, 10, 11, 12] [6, 8, 9, 10, 11] 0) = (r4 room0 l who up k i fh fp th tp pd host room all).get := by kernel_rfl
theorem wf4 (room0 : Int) (l : List (Int × (QRt × Int))) (who : Int) (up : Bool) (fh fp th tp : Int) (pd : List UInt8) (host room : Int) (I'' : List QRt → List QRt → Int → Prop) (m'' : List QRt → List QRt → Int → Nat) (r'' : Ex × St) (h : ∀ (k all : List QRt) (i : Int), I'' k all i → (r4 room0 l who up k i fh fp th tp pd host room all).all fun x'' => x'' = .inr r'' ∨ ∃ (k' all' : List QRt) (i' : Int), x'' = .inl (stOf [0, 1, 3, 6, 9, 10, 11, 12] [.int .i64 room0, .list DE l, .int .i64 who, .ptr 0 0, .bool up, .ptr 1 0, .list QR k', .int .i64 i'] [.box [.int .u32 fh, .int .u16 fp, .int .u32 th, .int .u16 tp, .str pd], .box [.int .u32 host, .int .i64 room, .rowA 2], .row QR all']) ∧ I'' k' all' i' ∧ m'' k' all' i' < m'' k all i) (lp : Lp) (k all : List QRt) (i : Int) : I'' k all i →
    V2 (fun st => evC TW (orcB [fs15, fs23, fs19, fs25, fs18, fs21, J1b, V1b] [Z1g, os14, X1f, os20, os17, Z1i]) lp b4 0 st (U0 [0, 1, 3, 6, 9, 10, 11, 12] [6, 8, 9, 10, 11] 0)) (stOf [0, 1, 3, 6, 9, 10, 11, 12] [.int .i64 room0, .list DE l, .int .i64 who, .ptr 0 0, .bool up, .ptr 1 0, .list QR k, .int .i64 i] [.box [.int .u32 fh, .int .u16 fp, .int .u32 th, .int .u16 tp, .str pd], .box [.int .u32 host, .int .i64 room, .rowA 2], .row QR all]) = some r'' :=
 Z5 (fun a'' : List QRt × List QRt × Int => stOf [0, 1, 3, 6, 9, 10, 11, 12] [.int .i64 room0, .list DE l, .int .i64 who, .ptr 0 0, .bool up, .ptr 1 0, .list QR a''.1, .int .i64 a''.2.2] [.box [.int .u32 fh, .int .u16 fp, .int .u32 th, .int .u16 tp, .str pd], .box [.int .u32 host, .int .i64 room, .rowA 2], .row QR a''.2.1]) (fun a'' => I'' a''.1 a''.2.1 a''.2.2) (fun a'' => m'' a''.1 a''.2.1 a''.2.2) r'' (fun a'' => r4 room0 l who up a''.1 a''.2.2 fh fp th tp pd host room a''.2.1)
  (fun a'' x hx => (Z4o lp room0 l who up a''.1 a''.2.2 fh fp th tp pd host room a''.2.1).trans hx) (fun a'' ha => Tr.all_mono (fun x'' hx => hx.imp id fun ⟨k', all', i', h1, h2, h3⟩ => ⟨(k', all', i'), h1, h2, h3⟩) (h (a''.1) (a''.2.1) (a''.2.2) ha)) (k, all, i)
theorem Q2w {l m : List QRt} {p i : Int} (h : ∀ q ∈ m, q ∈ l) (ht : U6 l p i = false) : U6 m p i = false := by
 cases hb : U6 m p i with
 | false => rfl
 | true =>
   obtain ⟨q, hq, hx⟩ := List.any_eq_true.1 hb
   rw [show U6 l p i = true from List.any_eq_true.2 ⟨q, h q hq, hx⟩] at ht
   cases ht
theorem J2v : ∀ (l : List QRt) (i : Nat), dstB l = true → dstB (l.take i ++ l.drop (i + 1)) = true
 | [], i, _ => by simp [dstB]
 | x :: l, 0, h => by
   rw [dstB, Bool.and_eq_true] at h
   exact h.2
 | x :: l, i + 1, h => by
   rw [dstB, Bool.and_eq_true] at h
   have h1 : U6 l x.2.1 x.1 = false := by simpa using h.1
   rw [List.take_succ_cons, List.drop_succ_cons, List.cons_append, dstB, J2v l i h.2, Q2w (l := l) (fun q hq => ?_) h1]
   · rfl
   · rcases List.mem_append.1 hq with hq | hq
     · exact List.mem_of_mem_take hq
     · exact List.mem_of_mem_drop hq
theorem V3g {room : Int} {all : List QRt} {x : DEt} (hl : all.length ≤ 1000) (h : dstB all = true) : dstB (J6 room all x) = true := by
 unfold J6
 cases x.1 == 0 with
 | true =>
   rw [cond_true]
   cases decide (room ≤ (all.length : Int)) with
   | true => exact h
   | false => exact V2t h (Q30 hl)
 | false =>
   rw [cond_false]
   cases x.1 == 1 with
   | false => exact h
   | true =>
     rw [cond_true]
     cases U6 all x.2.1.2.1 x.2.1.1 with
     | false => exact h
     | true => exact J2v all _ h
theorem X40 {room : Int} (h0 : 0 ≤ room) (h1 : room ≤ 256) {l : List DEt} (h : l.all rgD = true) : okK room (Ua room l) ∧ dstB (Ua room l) = true := by
 have : ∀ (l : List DEt) (b : List QRt), l.all rgD = true → okK room b ∧ dstB b = true → okK room (l.foldl (J6 room) b) ∧ dstB (l.foldl (J6 room) b) = true := fun l => by
  induction l with
  | nil => intro b _ hb; exact hb
  | cons x l ih =>
    intro b h hb
    rw [List.all_cons, Bool.and_eq_true] at h
    have := hb.1.1
    exact ih _ h.2 ⟨U2q hb.1 h.1, V3g (by omega) hb.2⟩
 exact this l [] h ⟨⟨h0, rfl⟩, rfl⟩
theorem loop4 : ls4.Ok TW (orcB [fs15, fs23, fs19, fs25, fs18, fs21, J1b, V1b] [Z1g, os14, X1f, os20, os17, Z1i]) h4 0 0 b4 := by
 intro q'' hq'' x'' y'' r'' h
 obtain ⟨(room0 : Int), (l : List (Int × (QRt × Int))), (who : Int), (up : Bool), (k : List QRt), (i : Int), _⟩ := x''
 obtain ⟨⟨(fh : Int), (fp : Int), (th : Int), (tp : Int), (pd : List UInt8), _⟩, ⟨(host : Int), (room : Int), _⟩, (all : List QRt), _⟩ := y''
 obtain ⟨hc, rfl⟩ := Tr.get_on h
 show V2 (fun st => evC TW (orcB [fs15, fs23, fs19, fs25, fs18, fs21, J1b, V1b] [Z1g, os14, X1f, os20, os17, Z1i]) (lpN TW (orcB [fs15, fs23, fs19, fs25, fs18, fs21, J1b, V1b] [Z1g, os14, X1f, os20, os17, Z1i]) h4 0 q'') b4 0 st (U0 [0, 1, 3, 6, 9, 10, 11, 12] [6, 8, 9, 10, 11] 0)) (stOf [0, 1, 3, 6, 9, 10, 11, 12] [.int .i64 room0, .list DE l, .int .i64 who, .ptr 0 0, .bool up, .ptr 1 0, .list QR k, .int .i64 i] [.box [.int .u32 fh, .int .u16 fp, .int .u32 th, .int .u16 tp, .str pd], .box [.int .u32 host, .int .i64 room, .rowA 2], .row QR all]) = some (.exit 0, stOf [6, 8, 9, 10, 11] ([.ptr 0 0, .dead, .bool up, .ptr 1 0, .list QR (Ua room l)]) ([.box [.int .u32 fh, .int .u16 fp, .int .u32 th, .int .u16 tp, .str pd], .box [.int .u32 host, .int .i64 room, .rowA 2], .row QR (Ua room l)]))
 simp only [akY, Bool.and_eq_true, decide_eq_true_eq] at hc
 obtain ⟨hl, hg, rfl, rfl, rfl, rfl, hr0, hr1, rfl⟩ := hc
 have hl := Nat.le_of_ble_eq_true hl
 refine wf4 room0 l who up fh fp th tp pd 7 room0 (fun k all i => 0 ≤ i ∧ i ≤ l.length ∧ k = all ∧ all = (l.take i.toNat).foldl (J6 room0) [] ∧ okK room0 all) (fun k all i => (l.length - i).toNat) _ ?_ _ [] [] 0 ⟨by omega, by omega, rfl, rfl, hr0, rfl⟩
 rintro k all i ⟨h0, h1, rfl, he, hk⟩
 unfold r4
 rw [Vc h0 h1 (by omega)]
 by_cases hi : i < l.length
 · have hs := X2k (J6 room0) [] l i.toNat (Ty.dflt DE) (by omega)
   have hx := U3b hg (k := i.toNat) (by omega) (Ty.dflt DE)
   generalize l.getD i.toNat (Ty.dflt DE) = x at *
   rw [← he] at hs
   have hok := U2q hk hx
   have hk1 := hk.1
   have hk2 := hok.1
   have hG : akG k k room0 room0 x = true := by
    unfold akG akL
    rw [Xx.2 rfl, J0 rfl, Nat.ble_eq_true_of_le (show k.length ≤ 1000 by omega), hx, hk.2]
    rfl
   have hf := List.length_filter_le (whoB who) (J6 room0 k x)
   generalize J6 room0 k x = nx at *
   refine Tr.all_t (J0 hi) (Tr.all_t (J0 h0) (Tr.all_t (J0 hi) (Tr.all_t hG (Tr.all_br (fun _ => ?_) (fun _ => ?_)))))
   · refine Tr.all_f (by simp) (Tr.all_t (Q3u (by omega)) (Tr.all_t (Z23 (by omega)) (Tr.all_t (Z23 (by omega)) (Tr.all_f (by simp) (Tr.all_t (U3p (by omega) rfl) (Tr.all_t (Xx.2 rfl) (Tr.all_ret (.inr ⟨_, _, _, rfl, ⟨by omega, by omega, rfl, by rw [show (i + 1).toNat = i.toNat + 1 by omega]; exact hs.symm, hok⟩, by omega⟩))))))))
   · refine Tr.all_f (by simp) (Tr.all_t (Q3u (by omega)) (Tr.all_t (Z23 (by omega)) (Tr.all_t (Z23 (by omega)) (Tr.all_f (by simp) (Tr.all_t (U3p (by omega) rfl) (Tr.all_t (Xx.2 rfl) (Tr.all_ret (.inr ⟨_, _, _, rfl, ⟨by omega, by omega, rfl, by rw [show (i + 1).toNat = i.toNat + 1 by omega]; exact hs.symm, hok⟩, by omega⟩))))))))
 · refine Tr.all_f (Z0 hi) (Tr.all_ret (.inl ?_))
   rw [List.take_of_length_le (by omega)] at he
   rw [he]
   rfl
def t4 (room0 : Int) (l : List (Int × (QRt × Int))) (p : ((Int × Int) × ((Int × Int) × List UInt8))) (who : Int) : Tr Res := .br (decide (room0 < 1)) (.br (decide (room0 < 1)) (.br (decide (room0 < 1)) (.ret ([.bool (true == true)], [])) (.ret ([.bool (true == decide (room0 > 256))], []))) (.br (decide (room0 > 256)) (.br (decide (room0 < 1)) (.ret ([.bool (true == true)], [])) (.ret ([.bool (true == decide (room0 > 256))], []))) (.br (fewX l) (.br (!decide ((↑l.length : Int) ≤ 100)) (.br (decide (room0 < 1)) (.ret ([.bool (true == true)], [])) (.ret ([.bool (true == decide (room0 > 256))], []))) (.br (decide ((↑p.2.2.length : Int) > 1500)) (.br (decide (room0 < 1)) (.ret ([.bool (true == true)], [])) (.ret ([.bool (true == decide (room0 > 256))], []))) .no)) (.br (decide (room0 < 1)) (.ret ([.bool (true == true)], [])) (.ret ([.bool (true == decide (room0 > 256))], [])))))) (.br (decide (room0 > 256)) (.br (decide (room0 < 1)) (.br (decide (room0 < 1)) (.ret ([.bool (true == true)], [])) (.ret ([.bool (true == decide (room0 > 256))], []))) (.br (decide (room0 > 256)) (.br (decide (room0 < 1)) (.ret ([.bool (true == true)], [])) (.ret ([.bool (true == decide (room0 > 256))], []))) (.br (fewX l) (.br (!decide ((↑l.length : Int) ≤ 100)) (.br (decide (room0 < 1)) (.ret ([.bool (true == true)], [])) (.ret ([.bool (true == decide (room0 > 256))], []))) (.br (decide ((↑p.2.2.length : Int) > 1500)) (.br (decide (room0 < 1)) (.ret ([.bool (true == true)], [])) (.ret ([.bool (true == decide (room0 > 256))], []))) .no)) (.br (decide (room0 < 1)) (.ret ([.bool (true == true)], [])) (.ret ([.bool (true == decide (room0 > 256))], [])))))) (.br (decide (room0 < 1)) (.br (decide (room0 < 1)) (.ret ([.bool (false == true)], [])) (.ret ([.bool (false == decide (room0 > 256))], []))) (.br (decide (room0 > 256)) (.br (decide (room0 < 1)) (.ret ([.bool (false == true)], [])) (.ret ([.bool (false == decide (room0 > 256))], []))) (.br (fewX l) (.br (!decide ((↑l.length : Int) ≤ 100)) (.br (decide (room0 < 1)) (.ret ([.bool (false == true)], [])) (.ret ([.bool (false == decide (room0 > 256))], []))) (.br (decide ((↑p.2.2.length : Int) > 1500)) (.br (decide (room0 < 1)) (.ret ([.bool (false == true)], [])) (.ret ([.bool (false == decide (room0 > 256))], []))) (.br (akY l [] [] room0 7 room0 0) (.br (smS p.2.2) (.br (akL (Ua room0 l) && dstB (Ua room0 l)) (.br (smS p.2.2) (.br (mtC (Ua room0 l) 0) (.br ((mtF 7 (Ua room0 l) p).1.1 == (mtF 7 (Ua room0 l) p).1.1 && ((mtF 7 (Ua room0 l) p).1.2.1 == (mtF 7 (Ua room0 l) p).1.2.1 && ((mtF 7 (Ua room0 l) p).1.2.2.1.1 == (mtF 7 (Ua room0 l) p).1.2.2.1.1 && ((mtF 7 (Ua room0 l) p).1.2.2.1.2 == (mtF 7 (Ua room0 l) p).1.2.2.1.2 && true) && ((mtF 7 (Ua room0 l) p).1.2.2.2.1.1 == (mtF 7 (Ua room0 l) p).1.2.2.2.1.1 && ((mtF 7 (Ua room0 l) p).1.2.2.2.1.2.1 == (mtF 7 (Ua room0 l) p).1.2.2.2.1.2.1 && ((mtF 7 (Ua room0 l) p).1.2.2.2.1.2.2 == (mtF 7 (Ua room0 l) p).1.2.2.2.1.2.2 && true)) && ((mtF 7 (Ua room0 l) p).1.2.2.2.2.1 == (mtF 7 (Ua room0 l) p).1.2.2.2.2.1 && ((mtF 7 (Ua room0 l) p).1.2.2.2.2.2.1 == (mtF 7 (Ua room0 l) p).1.2.2.2.2.2.1 && ((mtF 7 (Ua room0 l) p).1.2.2.2.2.2.2 == (mtF 7 (Ua room0 l) p).1.2.2.2.2.2.2 && true))))))) (.br (smM (mtF 7 (Ua room0 l) p).2.1) (.br (X4n (mtF 7 (Ua room0 l) p).2.1 (mtF 7 (Ua room0 l) p).2.1) (.ret ([.bool ((mtF 7 (Ua room0 l) p).2.2 == (mtF 7 (Ua room0 l) p).2.2)], [])) (.ret ([.bool false], []))) .no) (.ret ([.bool false], []))) .no) .no) .no) .no) .no))) (.br (decide (room0 < 1)) (.ret ([.bool (false == true)], [])) (.ret ([.bool (false == decide (room0 > 256))], [])))))))
def os4 : OSpec := { f := 4, sh := [.d (.int .i64) false, .d (.list DE) false, .d (.pair AD (.pair AD .str)) true, .d (.int .i64) false], so := [], F := fun (room0, l, p, who, _) _ => t4 room0 l p who }
theorem fn4 (room0 : Int) (l : List (Int × (QRt × Int))) (p : ((Int × Int) × ((Int × Int) × List UInt8))) (who : Int) : evC TW (orcB [fs15, fs23, fs19, fs25, fs18, fs21, J1b, V1b] [Z1g, os14, X1f, os20, os17, Z1i]) (lpOf h4 0 (lsOf [ls4])) c4 1000000 (V1 [.int .i64 room0, .list DE l, AV.ofTy (.pair AD (.pair AD .str)) p true, .int .i64 who] [] Tryz.f4.ntmps) (J1 TW false 0 Tryz.f4) = (t4 room0 l p who).get := by kernel_rfl
theorem ok4 : os4.Ok Tryz.prog := by
 refine V3 Q1 tabW (X0 (all_cons okf15 (all_cons okf23 (all_cons J4n (all_cons U2r (all_cons V4k (all_cons okf21 (all_cons X4q (all_cons V4u all_nil)))))))) (all_cons ok13d (all_cons ok14 (all_cons ok16p (all_cons ok20 (all_cons ok17 (all_cons ok22p all_nil))))))) h4 (d := 0) (n0 := 0) (S := lsOf [ls4]) Tryz.func4 (by kernel_rfl) (c := c4) (by kernel_rfl) rfl (X4 (xs := [(0, b4)]) (by kernel_rfl) (all_cons (V5 loop4) all_nil)) (by omega) (by kernel_rfl) ?_
 intro x'' y'' q'' hq''
 obtain ⟨(room0 : Int), (l : List (Int × (QRt × Int))), (p : ((Int × Int) × ((Int × Int) × List UInt8))), (who : Int), _⟩ := x''
 exact (fn4 room0 l p who).trans hq''
theorem mt_sm (host : Int) (l : List QRt) (p : PGt) : smM (mtF host l p).2.1 = true := by
 unfold mtF
 cases (!decide ((tkV6 p.2.2).2 = 0) || decide (hitP host p l < 0)) with
 | true => rfl
 | false => exact Q48 p.2.2
theorem askPlays_all (room0 : Int) (l : List DEt) (p : PGt) (who : Int) (h1 : okT (.list DE) l) : (t4 room0 l p who).all fun r => r = ([.bool true], []) := by
 unfold t4
 by_cases r1 : room0 < 1
 · exact Tr.all_t (J0 r1) (Tr.all_t (J0 r1) (Tr.all_t (J0 r1) (Tr.all_ret rfl)))
 refine Tr.all_f (Z0 r1) ?_
 by_cases r2 : room0 > 256
 · refine Tr.all_t (J0 r2) (Tr.all_f (Z0 r1) (Tr.all_t (J0 r2) (Tr.all_f (Z0 r1) (Tr.all_ret ?_))))
   rw [J0 r2]
   rfl
 have hout : (Tr.br (decide (room0 < (1 : Int))) (Tr.ret ([AV.bool (false == true)], ([] : List LObj))) (Tr.ret ([AV.bool (false == decide (room0 > (256 : Int)))], []))).all fun r => r = ([.bool true], []) := by
  refine Tr.all_f (Z0 r1) (Tr.all_ret ?_)
  rw [Z0 r2]
  rfl
 refine Tr.all_f (Z0 r2) (Tr.all_f (Z0 r1) (Tr.all_f (Z0 r2) (Tr.all_br (fun _ => Tr.all_br (fun _ => hout) (fun hl => Tr.all_br (fun _ => hout) (fun hp => ?_))) (fun _ => hout))))
 have hg := U45 h1
 have hl : l.length ≤ 100 := by
  have : decide ((l.length : Int) ≤ 100) = true := by simpa using hl
  have := of_decide_eq_true this
  omega
 have hp := of_decide_eq_false hp
 have hS : smS p.2.2 = true := by
  unfold smS
  exact decide_eq_true (by omega)
 obtain ⟨hK, hd⟩ := X40 (room := room0) (by omega) (by omega) hg
 have hK := hK.1
 have hM := mt_sm 7 (Ua room0 l) p
 have hY : akY l [] [] room0 7 room0 0 = true := by
  rw [akY, Nat.ble_eq_true_of_le (by omega), hg, J0 rfl, J0 rfl, J0 rfl, J0 (show (0 : Int) ≤ room0 by omega), J0 (show room0 ≤ (256 : Int) by omega)]
  rfl
 refine Tr.all_t hY (Tr.all_t hS (Tr.all_t (by rw [Q4y (by omega), hd]; rfl) (Tr.all_t hS (Tr.all_t (by rw [mtC, Nat.ble_eq_true_of_le (by omega)]; rfl) (Tr.all_t (J1v.2 rfl) (Tr.all_t hM (Tr.all_t (decide_eq_true rfl) (Tr.all_ret ?_))))))))
 rw [beq_self_eq_true]
theorem sem4 (room0 : Int) (l : List DEt) (p : PGt) (who : Int) (h1 : okT (.list DE) l) : SemF Tryz.prog 4 [.int .i64 room0, .list DE l, AV.ofTy (.pair AD (.pair AD .str)) p true, .int .i64 who] [] [.bool true] [] :=
 ok4 (room0, l, p, who, ()) () ([.bool true], []) (Tr.get_of_all (askPlays_all room0 l p who h1))
end Go.Proofs.YtpledbapngdkeaaGreatE
namespace Go.Proofs.YtpledbapngdkeaaGreat.askPlays
open Go.ChangeShapes Go.WideShapes Go.ChangeAt Go.RowKit Go.Proofs.YtpledbapngdkeaaGreatE
open Go.ChangeMaps (open_string shut_string)
set_option linter.unusedVariables false
theorem own : ownKnob Tryz.prog.godebug = none := by kernel_rfl
theorem laidOut : laidOutB Tryz.prog = true := by kernel_rfl
set_option maxRecDepth 100000 in
theorem lifted (os : Os) (started : os.Started) (H : Type) (enc : TypeId × Value → H) :
    ReturnsInHanded {} Tryz.checked os 4 .any (Rows.askPlaysSpec.pre6 enc Tryz.prog Tryz.f4 Rows.askPlaysRow.domain false) (Rows.askPlaysSpec.post enc Tryz.prog Tryz.f4 false true false false) := by
  refine returnsInHanded_of_change_sized (C := Tryz.checked) own started (by kernel_rfl) Tryz.func4
    (ChangeSpec.witness6 (enc := enc) (C := Tryz.checked) false ⟨#[], #[.int .i64 0, .slice none 0 0, .agg #[.int .u32 0, .int .u16 0, .int .u32 0, .int .u16 0, .string ByteArray.empty], .int .i64 0], []⟩ 8 (by kernel_rfl) (by kernel_rfl) (by kernel_rfl) (by kernel_rfl)) ?_
  intro W base args ds gs before hval0 hW hcnd hsz0 _
  have hsz : ∀ n ∈ DataW.weightsEach Tryz.prog (Tryz.f4.params.toList ++ Rows.askPlaysSpec.plain.varTypes Tryz.prog) (ds ++ gs), n ≤ reachBytes := fun n hn => of_decide_eq_true (List.all_eq_true.1 hsz0 n hn)
  have hval : ∀ (j : Nat) t v, Tryz.f4.params[j]? = some t → args[j]? = some v → Value.okWide Tryz.prog W .any base t v := hval0
  have hW' := hW
  obtain ⟨p, q, hA0, hV, rfl, hfz, hnd⟩ := hW
  have hA : DataW.TrodAll enc Tryz.prog W 0 (fun _ => true) true Tryz.f4.params.toList args.toList ds p := hA0
  rw [Tryz.params4] at hA hval hsz
  obtain ⟨v0, vs0, d0, ds0, p0, q0, hargs, rfl, rfl, k0, r0⟩ := trodAll_cons hA
  obtain ⟨v1, vs1, d1, ds1, p1, q1, rfl, rfl, rfl, k1, r1⟩ := trodAll_cons r0
  obtain ⟨v2, vs2, d2, ds2, p2, q2, rfl, rfl, rfl, k2, r2⟩ := trodAll_cons r1
  obtain ⟨v3, vs3, d3, ds3, p3, q3, rfl, rfl, rfl, k3, r3⟩ := trodAll_cons r2
  obtain ⟨rfl, rfl, rfl⟩ := trodAll_nil r3
  obtain rfl : args = #[v0, v1, v2, v3] := by cases args; simp_all
  obtain ⟨rfl, rfl⟩ := trodVars_none hV
  have lt0 : ∀ x ∈ p0, x.block < W.heap.size := by obtain ⟨m, hm⟩ := k0; exact DataW.trod_lt m _ _ _ hm
  obtain ⟨x0, e0, w0, b0⟩ := J0p (n := 8) (τ := .int .i64) (agg := false) (by kernel_rfl) (hval 0 3 v0 rfl rfl) k0 (fun n hn => hsz n (DataW.weights_mem_each (j := 0) (t := 3) rfl rfl n hn)) (by kernel_rfl)
  have lt1 : ∀ x ∈ p1, x.block < W.heap.size := by obtain ⟨m, hm⟩ := k1; exact DataW.trod_lt m _ _ _ hm
  obtain ⟨x1, e1, w1, b1⟩ := J0p (n := 8) (τ := (.list (.pair (.int .i64) (.pair (.pair (.int .u16) (.pair (.int .u16) (.pair (.pair (.int .u32) (.int .u16)) (.pair (.pair .str (.pair (.int .u16) (.int .u16))) (.pair .str (.pair (.int .i64) (.int .u64))))))) (.int .u32))))) (agg := false) (by kernel_rfl) (hval 1 35 v1 rfl rfl) k1 (fun n hn => hsz n (DataW.weights_mem_each (j := 1) (t := 35) rfl rfl n hn)) (by kernel_rfl)
  have lt2 : ∀ x ∈ p2, x.block < W.heap.size := by obtain ⟨m, hm⟩ := k2; exact DataW.trod_lt m _ _ _ hm
  obtain ⟨x2, e2, w2, b2⟩ := J0p (n := 8) (τ := (.pair (.pair (.int .u32) (.int .u16)) (.pair (.pair (.int .u32) (.int .u16)) .str))) (agg := true) (by kernel_rfl) (hval 2 40 v2 rfl rfl) k2 (fun n hn => hsz n (DataW.weights_mem_each (j := 2) (t := 40) rfl rfl n hn)) (by kernel_rfl)
  have lt3 : ∀ x ∈ p3, x.block < W.heap.size := by obtain ⟨m, hm⟩ := k3; exact DataW.trod_lt m _ _ _ hm
  obtain ⟨x3, e3, w3, b3⟩ := J0p (n := 8) (τ := .int .i64) (agg := false) (by kernel_rfl) (hval 3 3 v3 rfl rfl) k3 (fun n hn => hsz n (DataW.weights_mem_each (j := 3) (t := 3) rfl rfl n hn)) (by kernel_rfl)
  clear hA0 hval0 hsz0 hsz
  refine (U2y ((fun x0 x1 x2 x3 w0 w1 w2 w3 => sem4 x0 x1 x2 x3 w1) x0 x1 x2 x3 w0 w1 w2 w3) W (vs := [v0, v1, v2, v3]) ?_).mono fun e W' ⟨he, bel⟩ => ?_
  · simp only [X1]
    exact ⟨_, _, rfl, e0, ⟨_, _, rfl, e1, ⟨_, _, rfl, e2, ⟨_, _, rfl, e3, rfl⟩⟩⟩⟩
  subst he
  exact ⟨_, rfl, _, _, _, [], _, [], hW', trodAll_mk1 (shut_bool Tryz.underlying4 _), (trodAll_cons_mk (Below.trod laidOut (by kernel_rfl) (of_decide_eq_true (by kernel_rfl)) k0 bel lt0) (trodAll_cons_mk (Below.trod laidOut (by kernel_rfl) (of_decide_eq_true (by kernel_rfl)) k1 bel lt1) (trodAll_cons_mk (Below.trod laidOut (by kernel_rfl) (of_decide_eq_true (by kernel_rfl)) k2 bel lt2) (trodAll_cons_mk (Below.trod laidOut (by kernel_rfl) (of_decide_eq_true (by kernel_rfl)) k3 bel lt3) trodAll_mk0)))), rfl, bel.frame _, fun h => by cases h⟩
theorem over : Rows.askPlaysRow.holds Tryz.pinned (OpenSpec.ofChange Rows.askPlaysSpec) :=
  OpenClaim.holds_of_wide 4 Tryz.f4 rfl rfl rfl rfl rfl rfl rfl ⟨rfl, rfl, rfl, rfl, rfl⟩ rfl rfl rfl rfl rfl (by kernel_rfl) Tryz.func4 (by kernel_rfl)
    (of_decide_eq_true (by kernel_rfl)) (by unfold Func.isWrapper; first | (rw [if_pos (by decide +kernel)]; kernel_rfl) | (rw [if_neg (by decide +kernel)]; exact ⟨rfl, rfl⟩))
    (fun os started H enc _ => lifted os started H enc)
theorem proved : Rows.AskPlaysSaid := over
end Go.Proofs.YtpledbapngdkeaaGreat.askPlays
namespace Go.Proofs.YtpledbapngdkeaaGreat
/-- The row, under a short name, for the claim. -/
theorem askPlays_holds : Rows.AskPlaysSaid := askPlays.proved
#print axioms askPlays_holds
end Go.Proofs.YtpledbapngdkeaaGreat
