import Derived.Test.YtkobjdhbfepkaaaPZoneRefers4
import Derived.Test.YtkobjdhbfepkaaaRows
import Derived.WalkKit
import Derived.ProofKit
import Derived.OpenShut
import Derived.ShutString
import Derived.ChangeOld
import Derived.Below
import Derived.Carry
import Derived.SizedLaws
namespace Go.Proofs.YtkobjdhbfepkaaaE
open Go Go.Proofs.YtkobjdhbfepkaaaB
set_option linter.unusedVariables false
set_option linter.unusedSimpArgs false
set_option maxRecDepth 100000
def rfR (ap qn c : List UInt8) (r : RRt) : Bool := r.2.1 == 2 && (r.1 == c && (smN r.1 && (undV r.1 ap && (!(r.1 == ap) && undV qn r.1))))
def rfK (l : List ZNt) (qn : List UInt8) (i k : Int) (ns : List RRt) : Bool := decide (0 ≤ i) && (decide (i < (l.length : Int)) && (decide (k = 0) && (Nat.ble ns.length 1000000 && (smN qn && (smN (znAt l i).1 && ns.all (rfR (znAt l i).1 qn (ns.getD 0 (Ty.dflt RR)).1))))))
noncomputable def b6 : Code := nthLoop c6 0
def ls6 : LoopSpec := { bid := 0, sh := [.d (.list ZN) false, .ptr 0 0, .d .bool false, .ptr 1 0, .d (.int .i64) false, .d (.int .i64) false], so := [.box [.d .str false, .d (.int .u16) false, .d (.int .u16) false], .box [.d (.int .u16) false, .d .bool false, .d .bool false, .d .bool false, .d .bool false, .d .bool false, .d (.int .i64) false, .d (.int .i64) false, .d (.list QQ) false, .d (.list RR) false, .d (.list RR) false, .d (.list RR) false]], F := fun (l, up, i, k, _) ((qn, qt, qc, _), (mi, mqr, maa, mtc, mrd, mra, mop, mrc, mq, man, mns, mar, _), _) => .on (rfK l qn i k mns) (.exit 0, [.list ZN l, .dead, .bool up, .ptr 0 0, .int .i64 i], [.box [.int .u16 mi, .bool mqr, .bool maa, .bool mtc, .bool mrd, .bool mra, .int .i64 mop, .int .i64 mrc, .list QQ mq, .list RR man, .list RR mns, .list RR mar]]) }
def r6 (l : List (List UInt8 × List (List UInt8 × (Int × (Int × (Int × List UInt8)))))) (up : Bool) (i : Int) (k : Int) (qn : List UInt8) (qt : Int) (qc : Int) (mi : Int) (mqr : Bool) (maa : Bool) (mtc : Bool) (mrd : Bool) (mra : Bool) (mop : Int) (mrc : Int) (mq : List (List UInt8 × (Int × Int))) (man : List (List UInt8 × (Int × (Int × (Int × List UInt8))))) (mns : List (List UInt8 × (Int × (Int × (Int × List UInt8))))) (mar : List (List UInt8 × (Int × (Int × (Int × List UInt8))))) : Tr (St ⊕ (Ex × St)) := Tr.br (decide (k < (↑(List.length mns) : Int))) (Tr.br (decide ((0 : Int) ≤ k)) (Tr.br (decide (k < (↑(List.length mns) : Int))) (Tr.br (Prod.fst (Prod.snd (List.getD mns (Int.toNat k) (Ty.dflt RR))) != (2 : Int)) (Tr.ret (Sum.inr (Ex.ret, stOf [0, 4, 5, 7, 8] [AV.list ZN l, AV.bool false, AV.bool up, AV.ptr 0 0, AV.int IntKind.i64 i] [LObj.boxT none [AV.int IntKind.u16 mi, AV.bool mqr, AV.bool maa, AV.bool mtc, AV.bool mrd, AV.bool mra, AV.int IntKind.i64 mop, AV.int IntKind.i64 mrc, AV.list QQ mq, AV.list RR man, AV.list RR mns, AV.list RR mar]]))) (Tr.br (decide ((0 : Int) ≤ k)) (Tr.br (decide (k < (↑(List.length mns) : Int))) (Tr.br (decide ((0 : Int) < (↑(List.length mns) : Int))) (Tr.br (!Prod.fst (List.getD mns (Int.toNat k) (Ty.dflt RR)) == Prod.fst (List.getD mns (Int.toNat (0 : Int)) (Ty.dflt RR))) (Tr.ret (Sum.inr (Ex.ret, stOf [0, 4, 5, 7, 8] [AV.list ZN l, AV.bool false, AV.bool up, AV.ptr 0 0, AV.int IntKind.i64 i] [LObj.boxT none [AV.int IntKind.u16 mi, AV.bool mqr, AV.bool maa, AV.bool mtc, AV.bool mrd, AV.bool mra, AV.int IntKind.i64 mop, AV.int IntKind.i64 mrc, AV.list QQ mq, AV.list RR man, AV.list RR mns, AV.list RR mar]]))) (Tr.br (decide ((0 : Int) ≤ k)) (Tr.br (decide (k < (↑(List.length mns) : Int))) (Tr.br (decide ((0 : Int) ≤ i)) (Tr.br (decide (i < (↑(List.length l) : Int))) (Tr.br (smN (Prod.fst (List.getD mns (Int.toNat k) (Ty.dflt RR))) && smN (Prod.fst (List.getD l (Int.toNat i) (Ty.dflt ZN)))) (Tr.br (!undV (Prod.fst (List.getD mns (Int.toNat k) (Ty.dflt RR))) (Prod.fst (List.getD l (Int.toNat i) (Ty.dflt ZN)))) (Tr.ret (Sum.inr (Ex.ret, stOf [0, 4, 5, 7, 8] [AV.list ZN l, AV.bool false, AV.bool up, AV.ptr 0 0, AV.int IntKind.i64 i] [LObj.boxT none [AV.int IntKind.u16 mi, AV.bool mqr, AV.bool maa, AV.bool mtc, AV.bool mrd, AV.bool mra, AV.int IntKind.i64 mop, AV.int IntKind.i64 mrc, AV.list QQ mq, AV.list RR man, AV.list RR mns, AV.list RR mar]]))) (Tr.br (decide ((0 : Int) ≤ k)) (Tr.br (decide (k < (↑(List.length mns) : Int))) (Tr.br (decide ((0 : Int) ≤ i)) (Tr.br (decide (i < (↑(List.length l) : Int))) (Tr.br (Prod.fst (List.getD mns (Int.toNat k) (Ty.dflt RR)) == Prod.fst (List.getD l (Int.toNat i) (Ty.dflt ZN))) (Tr.ret (Sum.inr (Ex.ret, stOf [0, 4, 5, 7, 8] [AV.list ZN l, AV.bool false, AV.bool up, AV.ptr 0 0, AV.int IntKind.i64 i] [LObj.boxT none [AV.int IntKind.u16 mi, AV.bool mqr, AV.bool maa, AV.bool mtc, AV.bool mrd, AV.bool mra, AV.int IntKind.i64 mop, AV.int IntKind.i64 mrc, AV.list QQ mq, AV.list RR man, AV.list RR mns, AV.list RR mar]]))) (Tr.br (decide ((0 : Int) ≤ k)) (Tr.br (decide (k < (↑(List.length mns) : Int))) (Tr.br (smN qn && smN (Prod.fst (List.getD mns (Int.toNat k) (Ty.dflt RR)))) (Tr.br (!undV qn (Prod.fst (List.getD mns (Int.toNat k) (Ty.dflt RR)))) (Tr.ret (Sum.inr (Ex.ret, stOf [0, 4, 5, 7, 8] [AV.list ZN l, AV.bool false, AV.bool up, AV.ptr 0 0, AV.int IntKind.i64 i] [LObj.boxT none [AV.int IntKind.u16 mi, AV.bool mqr, AV.bool maa, AV.bool mtc, AV.bool mrd, AV.bool mra, AV.int IntKind.i64 mop, AV.int IntKind.i64 mrc, AV.list QQ mq, AV.list RR man, AV.list RR mns, AV.list RR mar]]))) (Tr.ret (Sum.inl (stOf [0, 3, 5, 7, 8, 9] [AV.list ZN l, AV.ptr 0 0, AV.bool up, AV.ptr 1 0, AV.int IntKind.i64 i, AV.int IntKind.i64 (IntKind.wrap IntKind.i64 (k + (1 : Int)))] [LObj.boxT none [AV.str qn, AV.int IntKind.u16 qt, AV.int IntKind.u16 qc], LObj.boxT none [AV.int IntKind.u16 mi, AV.bool mqr, AV.bool maa, AV.bool mtc, AV.bool mrd, AV.bool mra, AV.int IntKind.i64 mop, AV.int IntKind.i64 mrc, AV.list QQ mq, AV.list RR man, AV.list RR mns, AV.list RR mar]])))) Tr.no) Tr.no) Tr.no)) Tr.no) Tr.no) Tr.no) Tr.no)) Tr.no) Tr.no) Tr.no) Tr.no) Tr.no)) Tr.no) Tr.no) Tr.no)) Tr.no) Tr.no) (Tr.ret (Sum.inr (Ex.exit 0, stOf [0, 4, 5, 7, 8] [AV.list ZN l, AV.dead, AV.bool up, AV.ptr 0 0, AV.int IntKind.i64 i] [LObj.boxT none [AV.int IntKind.u16 mi, AV.bool mqr, AV.bool maa, AV.bool mtc, AV.bool mrd, AV.bool mra, AV.int IntKind.i64 mop, AV.int IntKind.i64 mrc, AV.list QQ mq, AV.list RR man, AV.list RR mns, AV.list RR mar]])))
set_option maxRecDepth 1000000 in
theorem round6 (lp : Lp) (l : List (List UInt8 × List (List UInt8 × (Int × (Int × (Int × List UInt8)))))) (up : Bool) (i : Int) (k : Int) (qn : List UInt8) (qt : Int) (qc : Int) (mi : Int) (mqr : Bool) (maa : Bool) (mtc : Bool) (mrd : Bool) (mra : Bool) (mop : Int) (mrc : Int) (mq : List (List UInt8 × (Int × Int))) (man : List (List UInt8 × (Int × (Int × (Int × List UInt8))))) (mns : List (List UInt8 × (Int × (Int × (Int × List UInt8))))) (mar : List (List UInt8 × (Int × (Int × (Int × List UInt8))))) : evC T0 (orcB [fs14w, fs15w, fs16w, fs30, fs28w, fs24w, fs31w] []) lp b6 0 (stOf [0, 3, 5, 7, 8, 9] [.list ZN l, .ptr 0 0, .bool up, .ptr 1 0, .int .i64 i, .int .i64 k] [.box [.str qn, .int .u16 qt, .int .u16 qc], .box [.int .u16 mi, .bool mqr, .bool maa, .bool mtc, .bool mrd, .bool mra, .int .i64 mop, .int .i64 mrc, .list QQ mq, .list RR man, .list RR mns, .list RR mar]]) (roundK [0, 3, 5, 7, 8, 9] [0, 4, 5, 7, 8] 0) = (r6 l up i k qn qt qc mi mqr maa mtc mrd mra mop mrc mq man mns mar).get := by kernel_rfl
theorem wf6 (l : List (List UInt8 × List (List UInt8 × (Int × (Int × (Int × List UInt8)))))) (up : Bool) (i : Int) (qn : List UInt8) (qt : Int) (qc : Int) (mi : Int) (mqr : Bool) (maa : Bool) (mtc : Bool) (mrd : Bool) (mra : Bool) (mop : Int) (mrc : Int) (mq : List (List UInt8 × (Int × Int))) (man : List (List UInt8 × (Int × (Int × (Int × List UInt8))))) (mns : List (List UInt8 × (Int × (Int × (Int × List UInt8))))) (mar : List (List UInt8 × (Int × (Int × (Int × List UInt8))))) (I'' : Int → Prop) (m'' : Int → Nat) (r'' : Ex × St) (h : ∀ (k : Int), I'' k → (r6 l up i k qn qt qc mi mqr maa mtc mrd mra mop mrc mq man mns mar).all fun x'' => x'' = .inr r'' ∨ ∃ (k' : Int), x'' = .inl (stOf [0, 3, 5, 7, 8, 9] [.list ZN l, .ptr 0 0, .bool up, .ptr 1 0, .int .i64 i, .int .i64 k'] [.box [.str qn, .int .u16 qt, .int .u16 qc], .box [.int .u16 mi, .bool mqr, .bool maa, .bool mtc, .bool mrd, .bool mra, .int .i64 mop, .int .i64 mrc, .list QQ mq, .list RR man, .list RR mns, .list RR mar]]) ∧ I'' k' ∧ m'' k' < m'' k) (lp : Lp) (k : Int) : I'' k →
    loopF (fun st => evC T0 (orcB [fs14w, fs15w, fs16w, fs30, fs28w, fs24w, fs31w] []) lp b6 0 st (roundK [0, 3, 5, 7, 8, 9] [0, 4, 5, 7, 8] 0)) (stOf [0, 3, 5, 7, 8, 9] [.list ZN l, .ptr 0 0, .bool up, .ptr 1 0, .int .i64 i, .int .i64 k] [.box [.str qn, .int .u16 qt, .int .u16 qc], .box [.int .u16 mi, .bool mqr, .bool maa, .bool mtc, .bool mrd, .bool mra, .int .i64 mop, .int .i64 mrc, .list QQ mq, .list RR man, .list RR mns, .list RR mar]]) = some r'' :=
  loop_tr (fun a'' : Int => stOf [0, 3, 5, 7, 8, 9] [.list ZN l, .ptr 0 0, .bool up, .ptr 1 0, .int .i64 i, .int .i64 a''] [.box [.str qn, .int .u16 qt, .int .u16 qc], .box [.int .u16 mi, .bool mqr, .bool maa, .bool mtc, .bool mrd, .bool mra, .int .i64 mop, .int .i64 mrc, .list QQ mq, .list RR man, .list RR mns, .list RR mar]]) (fun a'' => I'' a'') (fun a'' => m'' a'') r'' (fun a'' => r6 l up i a'' qn qt qc mi mqr maa mtc mrd mra mop mrc mq man mns mar)
    (fun a'' x hx => (round6 lp l up i a'' qn qt qc mi mqr maa mtc mrd mra mop mrc mq man mns mar).trans hx) (fun a'' ha => Tr.all_mono (fun x'' hx => hx.imp id fun ⟨k', h1, h2, h3⟩ => ⟨(k'), h1, h2, h3⟩) (h (a'') ha)) (k)
theorem loop6 : ls6.Ok T0 (orcB [fs14w, fs15w, fs16w, fs30, fs28w, fs24w, fs31w] []) h6 0 0 b6 := by
  intro q'' hq'' x'' y'' r'' h
  obtain ⟨(l : List (List UInt8 × List (List UInt8 × (Int × (Int × (Int × List UInt8)))))), (up : Bool), (i : Int), (k : Int), _⟩ := x''
  obtain ⟨⟨(qn : List UInt8), (qt : Int), (qc : Int), _⟩, ⟨(mi : Int), (mqr : Bool), (maa : Bool), (mtc : Bool), (mrd : Bool), (mra : Bool), (mop : Int), (mrc : Int), (mq : List (List UInt8 × (Int × Int))), (man : List (List UInt8 × (Int × (Int × (Int × List UInt8))))), (mns : List (List UInt8 × (Int × (Int × (Int × List UInt8))))), (mar : List (List UInt8 × (Int × (Int × (Int × List UInt8))))), _⟩, _⟩ := y''
  obtain ⟨hc, rfl⟩ := Tr.get_on h
  show loopF (fun st => evC T0 (orcB [fs14w, fs15w, fs16w, fs30, fs28w, fs24w, fs31w] []) (lpN T0 (orcB [fs14w, fs15w, fs16w, fs30, fs28w, fs24w, fs31w] []) h6 0 q'') b6 0 st (roundK [0, 3, 5, 7, 8, 9] [0, 4, 5, 7, 8] 0)) (stOf [0, 3, 5, 7, 8, 9] [.list ZN l, .ptr 0 0, .bool up, .ptr 1 0, .int .i64 i, .int .i64 k] [.box [.str qn, .int .u16 qt, .int .u16 qc], .box [.int .u16 mi, .bool mqr, .bool maa, .bool mtc, .bool mrd, .bool mra, .int .i64 mop, .int .i64 mrc, .list QQ mq, .list RR man, .list RR mns, .list RR mar]]) = some (.exit 0, stOf [0, 4, 5, 7, 8] ([.list ZN l, .dead, .bool up, .ptr 0 0, .int .i64 i]) ([.box [.int .u16 mi, .bool mqr, .bool maa, .bool mtc, .bool mrd, .bool mra, .int .i64 mop, .int .i64 mrc, .list QQ mq, .list RR man, .list RR mns, .list RR mar]]))
  simp only [rfK, Bool.and_eq_true, decide_eq_true_eq, List.all_eq_true] at hc
  obtain ⟨i0, i1, rfl, hl, hqn, hap, hall⟩ := hc
  have hl := Nat.le_of_ble_eq_true hl
  have hze : l.getD i.toNat (Ty.dflt ZN) = znAt l i := rfl
  have hk0 : (mns.getD (Int.toNat (0 : Int)) (Ty.dflt RR)) = mns.getD 0 (Ty.dflt RR) := rfl
  refine wf6 l up i qn qt qc mi mqr maa mtc mrd mra mop mrc mq man mns mar (fun k => 0 ≤ k ∧ k ≤ mns.length) (fun k => (mns.length - k).toNat) _ ?_ _ 0 ⟨by omega, by omega⟩
  rintro k ⟨h0, h1⟩
  unfold r6
  rw [wrap_succ h0 h1 (by omega), hze, hk0]
  by_cases hi : k < mns.length
  · have hx := hall _ (mem_getD (l := mns) (k := k.toNat) (by omega) (Ty.dflt RR))
    have hpos : (0 : Int) < mns.length := by omega
    generalize mns.getD 0 (Ty.dflt RR) = f0 at *
    generalize mns.getD k.toNat (Ty.dflt RR) = x at *
    unfold rfR at hx
    simp only [Bool.and_eq_true, beq_iff_eq] at hx
    obtain ⟨x1, x2, x3, x4, x5, x6⟩ := hx
    have a1 : (smN x.1 && smN (znAt l i).1) = true := by rw [x3, hap]; rfl
    have a2 : (smN qn && smN x.1) = true := by rw [x3, hqn]; rfl
    have a3 : (x.1 == (znAt l i).1) = false := not_t x5
    have a4 : (!(x.1 == f0.1)) = false := by rw [x2]; simp
    have a5 : (!undV x.1 (znAt l i).1) = false := by rw [x4]; rfl
    have a6 : (!undV qn x.1) = false := by rw [x6]; rfl
    have a7 : (x.2.1 != 2) = false := by rw [x1]; rfl
    repeat (first | refine Tr.all_t (dec_true hi) ?_ | refine Tr.all_t (dec_true h0) ?_ | refine Tr.all_t (dec_true i0) ?_ | refine Tr.all_t (dec_true i1) ?_ | refine Tr.all_t (dec_true hpos) ?_ | refine Tr.all_t a1 ?_ | refine Tr.all_t a2 ?_ | refine Tr.all_f a3 ?_ | refine Tr.all_f a4 ?_ | refine Tr.all_f a5 ?_ | refine Tr.all_f a6 ?_ | refine Tr.all_f a7 ?_)
    exact Tr.all_ret (.inr ⟨_, rfl, ⟨by omega, by omega⟩, by omega⟩)
  · exact Tr.all_f (dec_false hi) (Tr.all_ret (.inl rfl))
def raK (l : List ZNt) (i k : Int) (ar : List RRt) : Bool := decide (0 ≤ i) && (decide (i < (l.length : Int)) && (decide (k = 0) && (Nat.ble ar.length 1000000 && (smN (znAt l i).1 && ar.all fun r => r.2.1 == 1 && (smN r.1 && undV r.1 (znAt l i).1)))))
noncomputable def b6b : Code := nthLoop c6 1
def ls6b : LoopSpec := { bid := 2, sh := [.d (.list ZN) false, .d .bool false, .ptr 0 0, .d (.int .i64) false, .d (.int .i64) false], so := [.box [.d (.int .u16) false, .d .bool false, .d .bool false, .d .bool false, .d .bool false, .d .bool false, .d (.int .i64) false, .d (.int .i64) false, .d (.list QQ) false, .d (.list RR) false, .d (.list RR) false, .d (.list RR) false]], F := fun (l, up, i, k, _) ((mi, mqr, maa, mtc, mrd, mra, mop, mrc, mq, man, mns, mar, _), _) => .on (raK l i k mar) (.exit 2, [.dead, .bool up], []) }
def r6b (l : List (List UInt8 × List (List UInt8 × (Int × (Int × (Int × List UInt8)))))) (up : Bool) (i : Int) (k : Int) (mi : Int) (mqr : Bool) (maa : Bool) (mtc : Bool) (mrd : Bool) (mra : Bool) (mop : Int) (mrc : Int) (mq : List (List UInt8 × (Int × Int))) (man : List (List UInt8 × (Int × (Int × (Int × List UInt8))))) (mns : List (List UInt8 × (Int × (Int × (Int × List UInt8))))) (mar : List (List UInt8 × (Int × (Int × (Int × List UInt8))))) : Tr (St ⊕ (Ex × St)) := Tr.br (decide (k < (↑(List.length mar) : Int))) (Tr.br (decide ((0 : Int) ≤ k)) (Tr.br (decide (k < (↑(List.length mar) : Int))) (Tr.br (Prod.fst (Prod.snd (List.getD mar (Int.toNat k) (Ty.dflt RR))) != (1 : Int)) (Tr.ret (Sum.inr (Ex.ret, stOf [4, 5] [AV.bool false, AV.bool up] []))) (Tr.br (decide ((0 : Int) ≤ k)) (Tr.br (decide (k < (↑(List.length mar) : Int))) (Tr.br (decide ((0 : Int) ≤ i)) (Tr.br (decide (i < (↑(List.length l) : Int))) (Tr.br (smN (Prod.fst (List.getD mar (Int.toNat k) (Ty.dflt RR))) && smN (Prod.fst (List.getD l (Int.toNat i) (Ty.dflt ZN)))) (Tr.br (!undV (Prod.fst (List.getD mar (Int.toNat k) (Ty.dflt RR))) (Prod.fst (List.getD l (Int.toNat i) (Ty.dflt ZN)))) (Tr.ret (Sum.inr (Ex.ret, stOf [4, 5] [AV.bool false, AV.bool up] []))) (Tr.ret (Sum.inl (stOf [0, 5, 7, 8, 10] [AV.list ZN l, AV.bool up, AV.ptr 0 0, AV.int IntKind.i64 i, AV.int IntKind.i64 (IntKind.wrap IntKind.i64 (k + (1 : Int)))] [LObj.boxT none [AV.int IntKind.u16 mi, AV.bool mqr, AV.bool maa, AV.bool mtc, AV.bool mrd, AV.bool mra, AV.int IntKind.i64 mop, AV.int IntKind.i64 mrc, AV.list QQ mq, AV.list RR man, AV.list RR mns, AV.list RR mar]])))) Tr.no) Tr.no) Tr.no) Tr.no) Tr.no)) Tr.no) Tr.no) (Tr.ret (Sum.inr (Ex.exit 2, stOf [4, 5] [AV.dead, AV.bool up] [])))
set_option maxRecDepth 1000000 in
theorem round6b (lp : Lp) (l : List (List UInt8 × List (List UInt8 × (Int × (Int × (Int × List UInt8)))))) (up : Bool) (i : Int) (k : Int) (mi : Int) (mqr : Bool) (maa : Bool) (mtc : Bool) (mrd : Bool) (mra : Bool) (mop : Int) (mrc : Int) (mq : List (List UInt8 × (Int × Int))) (man : List (List UInt8 × (Int × (Int × (Int × List UInt8))))) (mns : List (List UInt8 × (Int × (Int × (Int × List UInt8))))) (mar : List (List UInt8 × (Int × (Int × (Int × List UInt8))))) : evC T0 (orcB [fs14w, fs15w, fs16w, fs30, fs28w, fs24w, fs31w] []) lp b6b 2 (stOf [0, 5, 7, 8, 10] [.list ZN l, .bool up, .ptr 0 0, .int .i64 i, .int .i64 k] [.box [.int .u16 mi, .bool mqr, .bool maa, .bool mtc, .bool mrd, .bool mra, .int .i64 mop, .int .i64 mrc, .list QQ mq, .list RR man, .list RR mns, .list RR mar]]) (roundK [0, 5, 7, 8, 10] [4, 5] 0) = (r6b l up i k mi mqr maa mtc mrd mra mop mrc mq man mns mar).get := by kernel_rfl
theorem wf6b (l : List (List UInt8 × List (List UInt8 × (Int × (Int × (Int × List UInt8)))))) (up : Bool) (i : Int) (mi : Int) (mqr : Bool) (maa : Bool) (mtc : Bool) (mrd : Bool) (mra : Bool) (mop : Int) (mrc : Int) (mq : List (List UInt8 × (Int × Int))) (man : List (List UInt8 × (Int × (Int × (Int × List UInt8))))) (mns : List (List UInt8 × (Int × (Int × (Int × List UInt8))))) (mar : List (List UInt8 × (Int × (Int × (Int × List UInt8))))) (I'' : Int → Prop) (m'' : Int → Nat) (r'' : Ex × St) (h : ∀ (k : Int), I'' k → (r6b l up i k mi mqr maa mtc mrd mra mop mrc mq man mns mar).all fun x'' => x'' = .inr r'' ∨ ∃ (k' : Int), x'' = .inl (stOf [0, 5, 7, 8, 10] [.list ZN l, .bool up, .ptr 0 0, .int .i64 i, .int .i64 k'] [.box [.int .u16 mi, .bool mqr, .bool maa, .bool mtc, .bool mrd, .bool mra, .int .i64 mop, .int .i64 mrc, .list QQ mq, .list RR man, .list RR mns, .list RR mar]]) ∧ I'' k' ∧ m'' k' < m'' k) (lp : Lp) (k : Int) : I'' k →
    loopF (fun st => evC T0 (orcB [fs14w, fs15w, fs16w, fs30, fs28w, fs24w, fs31w] []) lp b6b 2 st (roundK [0, 5, 7, 8, 10] [4, 5] 0)) (stOf [0, 5, 7, 8, 10] [.list ZN l, .bool up, .ptr 0 0, .int .i64 i, .int .i64 k] [.box [.int .u16 mi, .bool mqr, .bool maa, .bool mtc, .bool mrd, .bool mra, .int .i64 mop, .int .i64 mrc, .list QQ mq, .list RR man, .list RR mns, .list RR mar]]) = some r'' :=
  loop_tr (fun a'' : Int => stOf [0, 5, 7, 8, 10] [.list ZN l, .bool up, .ptr 0 0, .int .i64 i, .int .i64 a''] [.box [.int .u16 mi, .bool mqr, .bool maa, .bool mtc, .bool mrd, .bool mra, .int .i64 mop, .int .i64 mrc, .list QQ mq, .list RR man, .list RR mns, .list RR mar]]) (fun a'' => I'' a'') (fun a'' => m'' a'') r'' (fun a'' => r6b l up i a'' mi mqr maa mtc mrd mra mop mrc mq man mns mar)
    (fun a'' x hx => (round6b lp l up i a'' mi mqr maa mtc mrd mra mop mrc mq man mns mar).trans hx) (fun a'' ha => Tr.all_mono (fun x'' hx => hx.imp id fun ⟨k', h1, h2, h3⟩ => ⟨(k'), h1, h2, h3⟩) (h (a'') ha)) (k)
theorem loop6b : ls6b.Ok T0 (orcB [fs14w, fs15w, fs16w, fs30, fs28w, fs24w, fs31w] []) h6 0 0 b6b := by
  intro q'' hq'' x'' y'' r'' h
  obtain ⟨(l : List (List UInt8 × List (List UInt8 × (Int × (Int × (Int × List UInt8)))))), (up : Bool), (i : Int), (k : Int), _⟩ := x''
  obtain ⟨⟨(mi : Int), (mqr : Bool), (maa : Bool), (mtc : Bool), (mrd : Bool), (mra : Bool), (mop : Int), (mrc : Int), (mq : List (List UInt8 × (Int × Int))), (man : List (List UInt8 × (Int × (Int × (Int × List UInt8))))), (mns : List (List UInt8 × (Int × (Int × (Int × List UInt8))))), (mar : List (List UInt8 × (Int × (Int × (Int × List UInt8))))), _⟩, _⟩ := y''
  obtain ⟨hc, rfl⟩ := Tr.get_on h
  show loopF (fun st => evC T0 (orcB [fs14w, fs15w, fs16w, fs30, fs28w, fs24w, fs31w] []) (lpN T0 (orcB [fs14w, fs15w, fs16w, fs30, fs28w, fs24w, fs31w] []) h6 0 q'') b6b 2 st (roundK [0, 5, 7, 8, 10] [4, 5] 0)) (stOf [0, 5, 7, 8, 10] [.list ZN l, .bool up, .ptr 0 0, .int .i64 i, .int .i64 k] [.box [.int .u16 mi, .bool mqr, .bool maa, .bool mtc, .bool mrd, .bool mra, .int .i64 mop, .int .i64 mrc, .list QQ mq, .list RR man, .list RR mns, .list RR mar]]) = some (.exit 2, stOf [4, 5] ([.dead, .bool up]) ([]))
  simp only [raK, Bool.and_eq_true, decide_eq_true_eq, List.all_eq_true, beq_iff_eq] at hc
  obtain ⟨i0, i1, rfl, hl, hap, hall⟩ := hc
  have hl := Nat.le_of_ble_eq_true hl
  have hze : l.getD i.toNat (Ty.dflt ZN) = znAt l i := rfl
  refine wf6b l up i mi mqr maa mtc mrd mra mop mrc mq man mns mar (fun k => 0 ≤ k ∧ k ≤ mar.length) (fun k => (mar.length - k).toNat) _ ?_ _ 0 ⟨by omega, by omega⟩
  rintro k ⟨h0, h1⟩
  unfold r6b
  rw [wrap_succ h0 h1 (by omega), hze]
  by_cases hi : k < mar.length
  · obtain ⟨x1, x3, x4⟩ := hall _ (mem_getD (l := mar) (k := k.toNat) (by omega) (Ty.dflt RR))
    generalize mar.getD k.toNat (Ty.dflt RR) = x at *
    have a1 : (smN x.1 && smN (znAt l i).1) = true := by rw [x3, hap]; rfl
    have a5 : (!undV x.1 (znAt l i).1) = false := by rw [x4]; rfl
    have a7 : (x.2.1 != 1) = false := by rw [x1]; rfl
    repeat (first | refine Tr.all_t (dec_true hi) ?_ | refine Tr.all_t (dec_true h0) ?_ | refine Tr.all_t (dec_true i0) ?_ | refine Tr.all_t (dec_true i1) ?_ | refine Tr.all_t a1 ?_ | refine Tr.all_f a5 ?_ | refine Tr.all_f a7 ?_)
    exact Tr.all_ret (.inr ⟨_, rfl, ⟨by omega, by omega⟩, by omega⟩)
  · exact Tr.all_f (dec_false hi) (Tr.all_ret (.inl rfl))
def t6 (l : List (List UInt8 × List (List UInt8 × (Int × (Int × (Int × List UInt8)))))) (q : (List UInt8 × (Int × Int))) : Tr Res := Tr.br (!fewZ l) (Tr.ret ([AV.bool true], [])) (Tr.br (decide ((↑(List.length (Prod.fst q)) : Int) > (300 : Int))) (Tr.ret ([AV.bool true], [])) (Tr.br (Nat.ble (List.length l) 1000000) (Tr.br (zsOk l && smN (Prod.fst (qAt ((9 : Int), false, false, false, false, false, (0 : Int), (0 : Int), [(Prod.fst q, Prod.fst (Prod.snd q), Prod.snd (Prod.snd q))], [], [], [])))) (Tr.br (Prod.fst (Prod.snd (Prod.snd (Prod.snd (Prod.snd (Prod.snd (Prod.snd (Prod.snd (ansV l ((9 : Int), false, false, false, false, false, (0 : Int), (0 : Int), [(Prod.fst q, Prod.fst (Prod.snd q), Prod.snd (Prod.snd q))], [], [], []))))))))) != (0 : Int)) (Tr.ret ([AV.bool true], [])) (Tr.br (Prod.fst (Prod.snd (Prod.snd (ansV l ((9 : Int), false, false, false, false, false, (0 : Int), (0 : Int), [(Prod.fst q, Prod.fst (Prod.snd q), Prod.snd (Prod.snd q))], [], [], []))))) (Tr.ret ([AV.bool true], [])) (Tr.br (smL l && smN (Prod.fst q)) (Tr.br (decide (bestV l (Prod.fst q) < (0 : Int))) (Tr.ret ([AV.bool false], [])) (Tr.br (decide (bestV l (Prod.fst q) ≥ (↑(List.length l) : Int))) (Tr.ret ([AV.bool false], [])) (Tr.br ((↑(List.length (Prod.fst (Prod.snd (Prod.snd (Prod.snd (Prod.snd (Prod.snd (Prod.snd (Prod.snd (Prod.snd (Prod.snd (Prod.snd (ansV l ((9 : Int), false, false, false, false, false, (0 : Int), (0 : Int), [(Prod.fst q, Prod.fst (Prod.snd q), Prod.snd (Prod.snd q))], [], [], [])))))))))))))) : Int) == (0 : Int)) (Tr.ret ([AV.bool false], [])) (Tr.br (decide ((↑(List.length (Prod.fst (Prod.snd (Prod.snd (Prod.snd (Prod.snd (Prod.snd (Prod.snd (Prod.snd (Prod.snd (Prod.snd (ansV l ((9 : Int), false, false, false, false, false, (0 : Int), (0 : Int), [(Prod.fst q, Prod.fst (Prod.snd q), Prod.snd (Prod.snd q))], [], [], []))))))))))))) : Int) > (0 : Int))) (Tr.ret ([AV.bool false], [])) (Tr.br (rfK l (Prod.fst q) (bestV l (Prod.fst q)) (0 : Int) (Prod.fst (Prod.snd (Prod.snd (Prod.snd (Prod.snd (Prod.snd (Prod.snd (Prod.snd (Prod.snd (Prod.snd (Prod.snd (ansV l ((9 : Int), false, false, false, false, false, (0 : Int), (0 : Int), [(Prod.fst q, Prod.fst (Prod.snd q), Prod.snd (Prod.snd q))], [], [], [])))))))))))))) (Tr.br (raK l (bestV l (Prod.fst q)) (0 : Int) (Prod.snd (Prod.snd (Prod.snd (Prod.snd (Prod.snd (Prod.snd (Prod.snd (Prod.snd (Prod.snd (Prod.snd (Prod.snd (ansV l ((9 : Int), false, false, false, false, false, (0 : Int), (0 : Int), [(Prod.fst q, Prod.fst (Prod.snd q), Prod.snd (Prod.snd q))], [], [], [])))))))))))))) (Tr.ret ([AV.bool true], [])) Tr.no) Tr.no))))) Tr.no))) Tr.no) Tr.no))
def os6 : OSpec := { f := 6, sh := [.d (.list ZN) false, .d QQ true], so := [], F := fun (l, q, _) _ => t6 l q }
set_option maxRecDepth 1000000 in
theorem fn6 (l : List (List UInt8 × List (List UInt8 × (Int × (Int × (Int × List UInt8)))))) (q : (List UInt8 × (Int × Int))) : evC T0 (orcB [fs14w, fs15w, fs16w, fs30, fs28w, fs24w, fs31w] []) (lpOf h6 0 (lsOf [ls6, ls6b])) c6 1000000 (startSt [.list ZN l, AV.ofTy QQ q true] [] Try.f6.ntmps) (finishK T0 false 0 Try.f6) = (t6 l q).get := by kernel_rfl
theorem ok6 : os6.Ok Try.prog := by
  refine os_ok mixed0 tab0 (orcB_sound (all_cons okf14w (all_cons okf15w (all_cons okf16w (all_cons okf30 (all_cons okf28w (all_cons okf24w (all_cons okf31w all_nil))))))) all_nil) h6 (d := 0) (n0 := 0) (S := lsOf [ls6, ls6b]) Try.func6 (by kernel_rfl) (c := c6) (by kernel_rfl) rfl (loops_eq (xs := [(0, b6), (2, b6b)]) (by kernel_rfl) (all_cons (ls_here loop6) (all_cons (ls_skip (by kernel_rfl) (ls_here loop6b)) all_nil))) (by omega) (by kernel_rfl) ?_
  intro x'' y'' q'' hq''
  obtain ⟨(l : List (List UInt8 × List (List UInt8 × (Int × (Int × (Int × List UInt8)))))), (q : (List UInt8 × (Int × Int))), _⟩ := x''
  exact (fn6 l q).trans hq''
theorem und_refl {n : List UInt8} (h : mayV n = true) : undV n n = true := by
  unfold undV
  rw [h, sufB, if_pos rfl]
  rfl
theorem und_up {n c : List UInt8} (h : mayV n = true) (h0 : n ≠ [0]) (hu : undV (tlN n) c = true) : undV n c = true := by
  unfold undV at hu ⊢
  rw [Bool.and_eq_true, Bool.and_eq_true] at hu
  rw [hu.1, h, sufB]
  by_cases he : n = c
  · rw [if_pos he]; rfl
  · rw [if_neg he, dif_neg (by simp [may_ne h, h0]), hu.2.2]; rfl
theorem cutW_facts {z : ZNt} : ∀ (m : Nat) (n c : List UInt8), n.length = m → undV n z.1 = true → cutW z n = some c → c ≠ z.1 ∧ undV c z.1 = true ∧ undV n c = true ∧ cutB2 z c = true := by
  intro m
  induction m using Nat.strongRecOn with
  | ind m ih =>
    intro n c hm hu hc
    rw [cutW] at hc
    by_cases hq : n = z.1
    · rw [if_pos hq] at hc; cases hc
    · obtain ⟨s1, s2, s3, s4⟩ := und_step hu hq
      rw [if_neg hq, dif_neg (by simp [s2, s3])] at hc
      cases ht : cutW z (tlN n) with
      | some c' =>
        rw [ht] at hc
        cases hc
        obtain ⟨a, b, d, e⟩ := ih (tlN n).length (by have := tlN_lt s3; omega) (tlN n) c rfl s4 ht
        exact ⟨a, b, und_up s1 s2 d, e⟩
      | none =>
        rw [ht] at hc
        by_cases hb : cutB2 z n = true
        · simp only [hb, if_true, Option.some.injEq] at hc
          subst hc
          exact ⟨hq, hu, und_refl s1, hb⟩
        · simp only [hb] at hc
          cases hc
theorem cut_facts {z : ZNt} {n c : List UInt8} (h : cutV z n = (c, true)) : c ≠ z.1 ∧ undV c z.1 = true ∧ undV n c = true ∧ ofV z c 2 ≠ [] := by
  unfold cutV at h
  cases hu : undV n z.1 with
  | false => rw [hu] at h; cases h
  | true =>
    rw [hu, cond_true] at h
    cases hw : cutW z n with
    | none => rw [hw] at h; cases h
    | some c' =>
      rw [hw] at h
      simp only [resC, Prod.mk.injEq, and_true] at h
      subst h
      obtain ⟨a, b, d, e⟩ := cutW_facts _ n c' rfl hu hw
      refine ⟨a, b, d, fun he => ?_⟩
      unfold cutB2 at e
      rw [he] at e
      cases e
theorem zoneRefers_all (l : List ZNt) (q : QQt) : Tr.all (fun r : Res => r = ([.bool true], [])) (t6 l q) := by
  unfold t6
  refine Tr.all_br (fun _ => Tr.all_ret rfl) fun h1 => Tr.all_br (fun _ => Tr.all_ret rfl) fun h2 => ?_
  have h2 := of_decide_eq_false h2
  have hl := few_zs (not_f h1)
  have hn : smN q.1 = true := smN_iff.2 (by omega)
  obtain ⟨hl8, hzs⟩ := fewZ_iff.1 (not_f h1)
  obtain ⟨aa, rc, an, ns, ar, hM, hk, l1, l2, l3, hd⟩ := ans_one (q := q) (not_f h1)
  unfold askV at hM
  rw [hM]
  refine Tr.all_t (Nat.ble_eq_true_of_le (by omega)) (Tr.all_t (by rw [hl]; exact hn) ?_)
  rcases hd with ⟨rfl, rfl⟩ | ⟨rfl, rfl, rfl⟩ | ⟨rfl, rfl, rfl, rfl, rfl⟩ | ⟨rfl, rfl, rfl, z, c, b0, b1, hz, hc, hns, har⟩
  · exact Tr.all_f rfl (Tr.all_t rfl (Tr.all_ret rfl))
  · exact Tr.all_t rfl (Tr.all_ret rfl)
  · exact Tr.all_t rfl (Tr.all_ret rfl)
  · have hzf := hzs _ (mem_getD (l := l) (k := (bestV l q.1).toNat) (by omega) (Ty.dflt ZN))
    have hze : znAt l (bestV l q.1) = z := hz.symm
    rw [← hz] at hzf
    obtain ⟨z1, z2, z3⟩ := znFew_iff.1 hzf
    have z3 := rrFew_iff.1 z3
    have hap : smN z.1 = true := smN_iff.2 (by omega)
    obtain ⟨f1, f2, f3, f4⟩ := cut_facts hc
    rw [← hns] at f4
    have hall : ∀ r ∈ ns, r.2.1 = 2 ∧ r.1 = c ∧ smN r.1 = true := fun r hr => by
      rw [hns] at hr
      obtain ⟨m1, m2, m3, m4⟩ := ofV_mem.1 hr
      exact ⟨m4, m3, smN_iff.2 (by have := (z3 r m1).1; omega)⟩
    have hlen : 0 < ns.length := List.length_pos_iff.2 f4
    have hfc : (ns.getD 0 (Ty.dflt RR)).1 = c := (hall _ (mem_getD hlen _)).2.1
    have hrf : rfK l q.1 (bestV l q.1) 0 ns = true := by
      unfold rfK
      rw [hze, hfc, dec_true b0, dec_true b1, hn, hap, Nat.ble_eq_true_of_le (by omega), decide_eq_true rfl]
      rw [show ns.all (rfR z.1 q.1 c) = true from List.all_eq_true.2 fun r hr => by
        obtain ⟨r1, r2, r3⟩ := hall r hr
        unfold rfR
        rw [r1, r3, r2, f2, f3, show (c == z.1) = false by simpa using f1]
        simp]
      rfl
    have hra : raK l (bestV l q.1) 0 ar = true := by
      obtain ⟨_, g2, _⟩ := glueL_facts z ns []
      unfold raK
      rw [hze, dec_true b0, dec_true b1, hap, Nat.ble_eq_true_of_le (by omega), decide_eq_true rfl]
      rw [show (ar.all fun r => r.2.1 == 1 && (smN r.1 && undV r.1 z.1)) = true from List.all_eq_true.2 fun r hr => by
        rw [har] at hr
        rcases g2 r hr with h | ⟨a, b, d⟩
        · cases h
        · rw [b, d, smN_iff.2 (by have := (z3 r a).1; omega)]; rfl]
      rfl
    exact Tr.all_f rfl (Tr.all_f rfl (Tr.all_t (by rw [zsOk_L hl, hn]; rfl) (Tr.all_f (dec_false (by omega)) (Tr.all_f (dec_false (by omega)) (Tr.all_f (by simp; omega) (Tr.all_f rfl (Tr.all_t hrf (Tr.all_t hra (Tr.all_ret rfl)))))))))
theorem sem6 (l : List ZNt) (q : QQt) : SemF Try.prog 6 [.list ZN l, .agg [.str q.1, .int .u16 q.2.1, .int .u16 q.2.2]] [] [.bool true] [] :=
  ok6 (l, q, ()) () ([.bool true], []) (Tr.get_of_all (zoneRefers_all l q))
end Go.Proofs.YtkobjdhbfepkaaaE
namespace Go.Proofs.Ytkobjdhbfepkaaa.zoneRefers
open Go.ChangeShapes Go.WideShapes Go.ChangeAt Go.RowKit Go.Proofs.YtkobjdhbfepkaaaE
open Go.ChangeMaps (open_string shut_string)
set_option linter.unusedVariables false
theorem own : ownKnob Try.prog.godebug = none := by kernel_rfl
theorem laidOut : laidOutB Try.prog = true := by kernel_rfl
set_option maxRecDepth 100000 in
theorem lifted (os : Os) (started : os.Started) (H : Type) (enc : TypeId × Value → H) :
    ReturnsInHanded {} Try.checked os 6 .any (Rows.zoneRefersSpec.pre6 enc Try.prog Try.f6 Rows.zoneRefersRow.domain false) (Rows.zoneRefersSpec.post enc Try.prog Try.f6 false true false false) := by
  refine returnsInHanded_of_change_sized (C := Try.checked) own started (by kernel_rfl) Try.func6
    (ChangeSpec.witness6 (enc := enc) (C := Try.checked) false ⟨#[], #[.slice none 0 0, .agg #[.string ByteArray.empty, .int .u16 0, .int .u16 0]], []⟩ 8 (by kernel_rfl) (by kernel_rfl) (by kernel_rfl) (by kernel_rfl)) ?_
  intro W base args ds gs before hval0 hW hcnd hsz0 _
  have hsz : ∀ n ∈ DataW.weightsEach Try.prog (Try.f6.params.toList ++ Rows.zoneRefersSpec.plain.varTypes Try.prog) (ds ++ gs), n ≤ reachBytes := fun n hn => of_decide_eq_true (List.all_eq_true.1 hsz0 n hn)
  have hval : ∀ (j : Nat) t v, Try.f6.params[j]? = some t → args[j]? = some v → Value.okWide Try.prog W .any base t v := hval0
  have hW' := hW
  obtain ⟨p, q, hA0, hV, rfl, hfz, hnd⟩ := hW
  have hA : DataW.TrodAll enc Try.prog W 0 (fun _ => true) true Try.f6.params.toList args.toList ds p := hA0
  rw [Try.params6] at hA hval hsz
  obtain ⟨v0, vs0, d0, ds0, p0, q0, hargs, rfl, rfl, k0, r0⟩ := trodAll_cons hA
  obtain ⟨v1, vs1, d1, ds1, p1, q1, rfl, rfl, rfl, k1, r1⟩ := trodAll_cons r0
  obtain ⟨rfl, rfl, rfl⟩ := trodAll_nil r1
  obtain rfl : args = #[v0, v1] := by cases args; simp_all
  obtain ⟨rfl, rfl⟩ := trodVars_none hV
  have lt0 : ∀ x ∈ p0, x.block < W.heap.size := by obtain ⟨m, hm⟩ := k0; exact DataW.trod_lt m _ _ _ hm
  obtain ⟨x0, e0, w0, b0⟩ := arg_told (n := 8) (τ := (.list (.pair .str (.list (.pair .str (.pair (.int .u16) (.pair (.int .u16) (.pair (.int .u32) .str)))))))) (agg := false) (by kernel_rfl) (hval 0 22 v0 rfl rfl) k0 (fun n hn => hsz n (DataW.weights_mem_each (j := 0) (t := 22) rfl rfl n hn)) (by kernel_rfl)
  have lt1 : ∀ x ∈ p1, x.block < W.heap.size := by obtain ⟨m, hm⟩ := k1; exact DataW.trod_lt m _ _ _ hm
  obtain ⟨x1, e1, w1, b1⟩ := arg_told (n := 8) (τ := (.pair .str (.pair (.int .u16) (.int .u16)))) (agg := true) (by kernel_rfl) (hval 1 52 v1 rfl rfl) k1 (fun n hn => hsz n (DataW.weights_mem_each (j := 1) (t := 52) rfl rfl n hn)) (by kernel_rfl)
  clear hA0 hval0 hsz0 hsz
  refine (law_calls ((fun l q _ _ => sem6 l q) x0 x1 w0 w1) W (vs := [v0, v1]) ?_).mono fun e W' ⟨he, bel⟩ => ?_
  · simp only [VRelL]
    exact ⟨_, _, rfl, e0, ⟨_, _, rfl, e1, rfl⟩⟩
  subst he
  exact ⟨_, rfl, _, _, _, [], _, [], hW', trodAll_mk1 (shut_bool Try.underlying4 _), (trodAll_cons_mk (Below.trod laidOut (by kernel_rfl) (of_decide_eq_true (by kernel_rfl)) k0 bel lt0) (trodAll_cons_mk (Below.trod laidOut (by kernel_rfl) (of_decide_eq_true (by kernel_rfl)) k1 bel lt1) trodAll_mk0)), rfl, bel.frame _, fun h => by cases h⟩
theorem over : Rows.zoneRefersRow.holds Try.pinned (OpenSpec.ofChange Rows.zoneRefersSpec) :=
  OpenClaim.holds_of_wide 6 Try.f6 rfl rfl rfl rfl rfl rfl rfl ⟨rfl, rfl, rfl, rfl, rfl⟩ rfl rfl rfl rfl rfl (by kernel_rfl) Try.func6 (by kernel_rfl)
    (of_decide_eq_true (by kernel_rfl)) (by unfold Func.isWrapper; first | (rw [if_pos (by decide +kernel)]; kernel_rfl) | (rw [if_neg (by decide +kernel)]; exact ⟨rfl, rfl⟩))
    (fun os started H enc _ => lifted os started H enc)
theorem proved : Rows.ZoneRefersSaid := over
end Go.Proofs.Ytkobjdhbfepkaaa.zoneRefers
namespace Go.Proofs.Ytkobjdhbfepkaaa
/-- The row, under a short name, for the claim. -/
theorem zoneRefers_holds : Rows.ZoneRefersSaid := zoneRefers.proved
#print axioms zoneRefers_holds
end Go.Proofs.Ytkobjdhbfepkaaa
