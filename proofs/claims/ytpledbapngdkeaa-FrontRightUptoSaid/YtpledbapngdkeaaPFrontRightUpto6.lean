import Derived.Test.YtpledbapngdkeaaPFrontRightUpto5
import Derived.Test.YtpledbapngdkeaaRows
import Derived.WalkKit
import Derived.ProofKit
import Derived.OpenShut
import Derived.ShutString
import Derived.ChangeOld
import Derived.Below
import Derived.Carry
import Derived.SizedLaws
set_option maxRecDepth 1000000
namespace Go.Proofs.YtpledbapngdkeaaE
open Go Go.Proofs.YtpledbapngdkeaaB
set_option linter.unusedVariables false
set_option linter.unusedSimpArgs false
def t58 (q : QQt) : Tr Res := .br (bigS q.1) (.ret ([.bool !mayV q.1], [])) .no
def os58 : OSpec := { f := 58, sh := [.d QQ true], so := [], F := fun (q, _) _ => t58 q }
theorem fn58 (q : QQt) : evC T0 (orcB [Z2c] []) (lpOf h58 0 (lsOf [])) c58 1000000 (V1 [AV.ofTy QQ q true] [] Try.f58.ntmps) (Z1 T0 false 0 Try.f58) = (t58 q).get := by kernel_rfl
theorem ok58 : os58.Ok Try.prog := by
 refine J4 U2 tab0 (U0 (all_cons V23 all_nil) all_nil) h58 (d := 0) (n0 := 0) (S := lsOf []) Try.func58 (by kernel_rfl) (c := c58) (by kernel_rfl) rfl (Z3 (by kernel_rfl)) (by omega) (by kernel_rfl) ?_
 intro x'' y'' q'' hq''
 obtain ⟨(q : QQt), _⟩ := x''
 exact (fn58 q).trans hq''
def irC (l : List QQt) (m i : Int) : Bool := Nat.ble l.length 1000000 && (l.all bigQ && ((l.all fun q => mayV q.1) && (decide (m = (l.length : Int)) && decide (i = 0))))
noncomputable def b81r : Code := U5 c81 0
def Q3j : LoopSpec := { bid := 0, sh := [.d (.list QQ) false, .fnp 58 [], .d (.int .i64) false, .d (.int .i64) false], so := [], F := fun (l, m, i, _) _ => .on (irC l m i) (.exit 0, [.dead], []) }
def r81r (l : List QQt) (m i : Int) : Tr (St ⊕ (Ex × St)) := .br (decide (i < m)) (.br (decide (0 ≤ i)) (.br (decide (i < (↑l.length : Int))) (.br (bigS (l.getD i.toNat (Ty.dflt QQ)).1) (.br (!mayV (l.getD i.toNat (Ty.dflt QQ)).1) (.ret (.inr (.ret, stOf [4] [.int .i64 i] []))) (.ret (.inl (stOf [0, 1, 7, 8] [.list QQ l, AV.fn 58 [], .int .i64 m, .int .i64 (IntKind.wrap .i64 (i + 1))] [])))) .no) .no) .no) (.ret (.inr (.exit 0, stOf [4] [.dead] [])))
theorem X3v (lp : Lp) (l : List QQt) (m i : Int) : evC T0 (orcB [] [os58]) lp b81r 0 (stOf [0, 1, 7, 8] [.list QQ l, .fn 58 [], .int .i64 m, .int .i64 i] []) (X1 [0, 1, 7, 8] [4] 0) = (r81r l m i).get := by kernel_rfl
theorem wf81r (l : List QQt) (m : Int) (I'' : Int → Prop) (m'' : Int → Nat) (r'' : Ex × St) (h : ∀ (i : Int), I'' i → (r81r l m i).all fun x'' => x'' = .inr r'' ∨ ∃ (i' : Int), x'' = .inl (stOf [0, 1, 7, 8] [.list QQ l, .fn 58 [], .int .i64 m, .int .i64 i'] []) ∧ I'' i' ∧ m'' i' < m'' i) (lp : Lp) (i : Int) : I'' i →
    U3 (fun st => evC T0 (orcB [] [os58]) lp b81r 0 st (X1 [0, 1, 7, 8] [4] 0)) (stOf [0, 1, 7, 8] [.list QQ l, .fn 58 [], .int .i64 m, .int .i64 i] []) = some r'' :=
 U6 (fun a'' : Int => stOf [0, 1, 7, 8] [.list QQ l, .fn 58 [], .int .i64 m, .int .i64 a''] []) (fun a'' => I'' a'') (fun a'' => m'' a'') r'' (fun a'' => r81r l m a'')
  (fun a'' x hx => (X3v lp l m a'').trans hx) (fun a'' ha => Tr.all_mono (fun x'' hx => hx.imp id fun ⟨i', h1, h2, h3⟩ => ⟨(i'), h1, h2, h3⟩) (h (a'') ha)) (i)
theorem V4g : Q3j.Ok T0 (orcB [] [os58]) h81 0 0 b81r := by
 intro q'' hq'' x'' y'' r'' h
 obtain ⟨(l : List QQt), (m : Int), (i : Int), _⟩ := x''
 obtain ⟨hc, rfl⟩ := Tr.get_on h
 show U3 (fun st => evC T0 (orcB [] [os58]) (lpN T0 (orcB [] [os58]) h81 0 q'') b81r 0 st (X1 [0, 1, 7, 8] [4] 0)) (stOf [0, 1, 7, 8] [.list QQ l, .fn 58 [], .int .i64 m, .int .i64 i] []) = some (.exit 0, stOf [4] ([.dead]) ([]))
 simp only [irC, Bool.and_eq_true, decide_eq_true_eq, List.all_eq_true] at hc
 obtain ⟨hl, hb, hm, rfl, rfl⟩ := hc
 have hl := Nat.le_of_ble_eq_true hl
 refine wf81r l l.length (fun i => 0 ≤ i ∧ i ≤ l.length) (fun i => (l.length - i).toNat) _ ?_ _ 0 ⟨by omega, by omega⟩
 rintro i ⟨h0, h1⟩
 unfold r81r
 rw [Zh h0 h1 (by omega)]
 by_cases hi : i < l.length
 · have hx := hb _ (Q04 (l := l) (k := i.toNat) (by omega) (Ty.dflt QQ))
   have hv := hm _ (Q04 (l := l) (k := i.toNat) (by omega) (Ty.dflt QQ))
   generalize l.getD i.toNat (Ty.dflt QQ) = x at *
   exact Tr.all_t (X0 hi) (Tr.all_t (X0 h0) (Tr.all_t (X0 hi) (Tr.all_t hx (Tr.all_f (show (!mayV x.1) = false by rw [hv]; rfl) (Tr.all_ret (.inr ⟨_, rfl, ⟨by omega, by omega⟩, by omega⟩))))))
 · exact Tr.all_f (Q0 hi) (Tr.all_ret (.inl rfl))
def t81r (l : List QQt) : Tr Res := .br (irC l (↑l.length : Int) 0) (.ret ([.int .i64 (-1)], [])) .no
def U3r : OSpec := { f := 81, sh := [.d (.list QQ) false, .fnp 58 []], so := [], F := fun (l, _) _ => t81r l }
theorem fn81r (l : List QQt) : evC T0 (orcB [] [os58]) (lpOf h81 0 (lsOf [Q3j])) c81 1000000 (V1 [.list QQ l, .fn 58 []] [] Try.f81.ntmps) (Z1 T0 false 0 Try.f81) = (t81r l).get := by kernel_rfl
theorem Q4j : U3r.Ok Try.prog := by
 refine J4 U2 tab0 (U0 all_nil (all_cons ok58 all_nil)) h81 (d := 0) (n0 := 0) (S := lsOf [Q3j]) Try.func81 (by kernel_rfl) (c := c81) (by kernel_rfl) rfl (J6 (xs := [(0, b81r)]) (by kernel_rfl) (all_cons (V7 V4g) all_nil)) (by omega) (by kernel_rfl) ?_
 intro x'' y'' q'' hq''
 obtain ⟨(l : List QQt), _⟩ := x''
 exact (fn81r l).trans hq''
noncomputable def b82r : Code := U5 c82 0
def Z41 : LoopSpec := { bid := 0, sh := [.d (.list RR) false, .fnp 62 [], .d (.int .i64) false, .d (.int .i64) false], so := [], F := fun (l, m, i, _) _ => .on (List.isEmpty l && (decide (m = 0) && decide (i = 0))) (.exit 0, [.dead], []) }
def r82r (l : List RRt) (m i : Int) : Tr (St ⊕ (Ex × St)) := .br (decide (i < m)) (.br (decide (0 ≤ i)) (.br (decide (i < (↑l.length : Int))) .no .no) .no) (.ret (.inr (.exit 0, stOf [4] [.dead] [])))
theorem U3v (lp : Lp) (l : List RRt) (m i : Int) : evC T0 (orcB [] [os58]) lp b82r 0 (stOf [0, 1, 7, 8] [.list RR l, .fn 62 [], .int .i64 m, .int .i64 i] []) (X1 [0, 1, 7, 8] [4] 0) = (r82r l m i).get := by kernel_rfl
theorem wf82r (l : List RRt) (m : Int) (I'' : Int → Prop) (m'' : Int → Nat) (r'' : Ex × St) (h : ∀ (i : Int), I'' i → (r82r l m i).all fun x'' => x'' = .inr r'' ∨ ∃ (i' : Int), x'' = .inl (stOf [0, 1, 7, 8] [.list RR l, .fn 62 [], .int .i64 m, .int .i64 i'] []) ∧ I'' i' ∧ m'' i' < m'' i) (lp : Lp) (i : Int) : I'' i →
    U3 (fun st => evC T0 (orcB [] [os58]) lp b82r 0 st (X1 [0, 1, 7, 8] [4] 0)) (stOf [0, 1, 7, 8] [.list RR l, .fn 62 [], .int .i64 m, .int .i64 i] []) = some r'' :=
 U6 (fun a'' : Int => stOf [0, 1, 7, 8] [.list RR l, .fn 62 [], .int .i64 m, .int .i64 a''] []) (fun a'' => I'' a'') (fun a'' => m'' a'') r'' (fun a'' => r82r l m a'')
  (fun a'' x hx => (U3v lp l m a'').trans hx) (fun a'' ha => Tr.all_mono (fun x'' hx => hx.imp id fun ⟨i', h1, h2, h3⟩ => ⟨(i'), h1, h2, h3⟩) (h (a'') ha)) (i)
theorem Q4e : Z41.Ok T0 (orcB [] [os58]) h82 0 0 b82r := by
 intro q'' hq'' x'' y'' r'' h
 obtain ⟨(l : List RRt), (m : Int), (i : Int), _⟩ := x''
 obtain ⟨hc, rfl⟩ := Tr.get_on h
 show U3 (fun st => evC T0 (orcB [] [os58]) (lpN T0 (orcB [] [os58]) h82 0 q'') b82r 0 st (X1 [0, 1, 7, 8] [4] 0)) (stOf [0, 1, 7, 8] [.list RR l, .fn 62 [], .int .i64 m, .int .i64 i] []) = some (.exit 0, stOf [4] ([.dead]) ([]))
 simp only [Bool.and_eq_true, decide_eq_true_eq] at hc
 obtain ⟨_, rfl, rfl⟩ := hc
 refine wf82r l 0 (fun i => i = 0) (fun i => 0) _ ?_ _ 0 rfl
 rintro i rfl
 unfold r82r
 exact Tr.all_f rfl (Tr.all_ret (.inl rfl))
def t82r (l : List RRt) : Tr Res := .br (List.isEmpty l && (decide ((↑l.length : Int) = (0 : Ty.den (Ty.int .i64))) && decide (0 = (0 : Ty.den (Ty.int .i64))))) (.ret ([.int .i64 (-1)], [])) .no
def Q3s : OSpec := { f := 82, sh := [.d (.list RR) false, .fnp 62 []], so := [], F := fun (l, _) _ => t82r l }
theorem fn82r (l : List RRt) : evC T0 (orcB [] [os58]) (lpOf h82 0 (lsOf [Z41])) c82 1000000 (V1 [.list RR l, .fn 62 []] [] Try.f82.ntmps) (Z1 T0 false 0 Try.f82) = (t82r l).get := by kernel_rfl
theorem Z4i : Q3s.Ok Try.prog := by
 refine J4 U2 tab0 (U0 all_nil (all_cons ok58 all_nil)) h82 (d := 0) (n0 := 0) (S := lsOf [Z41]) Try.func82 (by kernel_rfl) (c := c82) (by kernel_rfl) rfl (J6 (xs := [(0, b82r)]) (by kernel_rfl) (all_cons (V7 Q4e) all_nil)) (by omega) (by kernel_rfl) ?_
 intro x'' y'' q'' hq''
 obtain ⟨(l : List RRt), _⟩ := x''
 exact (fn82r l).trans hq''
noncomputable def b56q : Code := U5 c56 0
def V3z : LoopSpec := { bid := 0, sh := [], so := [], F := fun _ _ => .no }
theorem X46 (orc : Orc) : V3z.Ok T0 orc h56 0 0 b56q := by
 intro q'' hq'' x'' y'' r'' h
 cases h
noncomputable def b60q : Code := U5 c60 0
def V3j : LoopSpec := { bid := 0, sh := [], so := [], F := fun _ _ => .no }
theorem Q45 (orc : Orc) : V3j.Ok T0 orc h60 0 0 b60q := by
 intro q'' hq'' x'' y'' r'' h
 cases h
def t56r (l : List QQt) : Tr Res := .br (irC l (↑l.length : Int) 0) (.ret ([.list QQ l], [])) .no
def Z4l : OSpec := { f := 56, sh := [.d (.list QQ) false, .fnp 58 []], so := [], F := fun (l, _) _ => t56r l }
theorem fn56r (l : List QQt) : evC T0 (orcB [] [U3r, Q3s]) (lpOf h56 0 (lsOf [V3z])) c56 1000000 (V1 [.list QQ l, .fn 58 []] [] Try.f56.ntmps) (Z1 T0 false 0 Try.f56) = (t56r l).get := by kernel_rfl
theorem ok56r : Z4l.Ok Try.prog := by
 refine J4 U2 tab0 (U0 all_nil (all_cons Q4j (all_cons Z4i all_nil))) h56 (d := 0) (n0 := 0) (S := lsOf [V3z]) Try.func56 (by kernel_rfl) (c := c56) (by kernel_rfl) rfl (J6 (xs := [(0, b56q)]) (by kernel_rfl) (all_cons (V7 (X46 _)) all_nil)) (by omega) (by kernel_rfl) ?_
 intro x'' y'' q'' hq''
 obtain ⟨(l : List QQt), _⟩ := x''
 exact (fn56r l).trans hq''
def t60r (l : List RRt) : Tr Res := .br (List.isEmpty l && (decide ((↑l.length : Int) = (0 : Ty.den (Ty.int .i64))) && decide (0 = (0 : Ty.den (Ty.int .i64))))) (.ret ([.list RR l], [])) .no
def V4n : OSpec := { f := 60, sh := [.d (.list RR) false, .fnp 62 []], so := [], F := fun (l, _) _ => t60r l }
theorem fn60r (l : List RRt) : evC T0 (orcB [] [U3r, Q3s]) (lpOf h60 0 (lsOf [V3j])) c60 1000000 (V1 [.list RR l, .fn 62 []] [] Try.f60.ntmps) (Z1 T0 false 0 Try.f60) = (t60r l).get := by kernel_rfl
theorem ok60r : V4n.Ok Try.prog := by
 refine J4 U2 tab0 (U0 all_nil (all_cons Q4j (all_cons Z4i all_nil))) h60 (d := 0) (n0 := 0) (S := lsOf [V3j]) Try.func60 (by kernel_rfl) (c := c60) (by kernel_rfl) rfl (J6 (xs := [(0, b60q)]) (by kernel_rfl) (all_cons (V7 (Q45 _)) all_nil)) (by omega) (by kernel_rfl) ?_
 intro x'' y'' q'' hq''
 obtain ⟨(l : List RRt), _⟩ := x''
 exact (fn60r l).trans hq''
noncomputable def b63n : Code := U5 c63 0
def Q3o : LoopSpec := { bid := 0, sh := [.d (.int .i64) false, .ptr 0 0, .ptr 1 0, .d (.int .i64) false], so := [MOs, (ROs 2), .row QQ, .row RR, .row RR, .row RR], F := fun (size, many, _) ((mi, mqr, maa, mtc, mrd, mra, mop, mrc, mq, man, mns, mar, _), (yi, y1, y2, y3, y4, y5, yo, yc, _), yq, ya, yn, yr, _) => .on (decide (many = -1)) (.exit 0, [.ptr 0 0, .dead], [RO 1 yi y1 y2 y3 y4 y5 yo yc, .row QQ yq, .row RR ya, .row RR yn, .row RR yr]) }
def r63n (size many mi : Int) (mqr maa mtc mrd mra : Bool) (mop mrc : Int) (mq : List QQt) (man mns mar : List RRt) (yi : Int) (y1 y2 y3 y4 y5 : Bool) (yo yc : Int) (yq : List QQt) (ya yn yr : List RRt) : Tr (St ⊕ (Ex × St)) := .br (decide (many ≥ 0)) .no (.ret (.inr (.exit 0, stOf [4, 5] [.ptr 0 0, .dead] [.boxT none [.int .u16 yi, .bool y1, .bool y2, .bool y3, .bool y4, .bool y5, .int .i64 yo, .int .i64 yc, .rowA 1, .rowA 2, .rowA 3, .rowA 4], .row QQ yq, .row RR ya, .row RR yn, .row RR yr])))
theorem X3n (lp : Lp) (size many mi : Int) (mqr maa mtc mrd mra : Bool) (mop mrc : Int) (mq : List QQt) (man mns mar : List RRt) (yi : Int) (y1 y2 y3 y4 y5 : Bool) (yo yc : Int) (yq : List QQt) (ya yn yr : List RRt) : evC TN (orcB [Z15, J13] []) lp b63n 0 (stOf [1, 2, 4, 6] [.int .i64 size, .ptr 0 0, .ptr 1 0, .int .i64 many] [MO mi mqr maa mtc mrd mra mop mrc mq man mns mar, RO 2 yi y1 y2 y3 y4 y5 yo yc, .row QQ yq, .row RR ya, .row RR yn, .row RR yr]) (X1 [1, 2, 4, 6] [4, 5] 0) = (r63n size many mi mqr maa mtc mrd mra mop mrc mq man mns mar yi y1 y2 y3 y4 y5 yo yc yq ya yn yr).get := by kernel_rfl
theorem wf63n (size mi : Int) (mqr maa mtc mrd mra : Bool) (mop mrc : Int) (mq : List QQt) (man mns mar : List RRt) (yi : Int) (y1 y2 y3 y4 y5 : Bool) (yo yc : Int) (yq : List QQt) (ya yn yr : List RRt) (I'' : Int → Prop) (m'' : Int → Nat) (r'' : Ex × St) (h : ∀ (many : Int), I'' many → (r63n size many mi mqr maa mtc mrd mra mop mrc mq man mns mar yi y1 y2 y3 y4 y5 yo yc yq ya yn yr).all fun x'' => x'' = .inr r'' ∨ ∃ (many' : Int), x'' = .inl (stOf [1, 2, 4, 6] [.int .i64 size, .ptr 0 0, .ptr 1 0, .int .i64 many'] [MO mi mqr maa mtc mrd mra mop mrc mq man mns mar, RO 2 yi y1 y2 y3 y4 y5 yo yc, .row QQ yq, .row RR ya, .row RR yn, .row RR yr]) ∧ I'' many' ∧ m'' many' < m'' many) (lp : Lp) (many : Int) : I'' many →
    U3 (fun st => evC TN (orcB [Z15, J13] []) lp b63n 0 st (X1 [1, 2, 4, 6] [4, 5] 0)) (stOf [1, 2, 4, 6] [.int .i64 size, .ptr 0 0, .ptr 1 0, .int .i64 many] [MO mi mqr maa mtc mrd mra mop mrc mq man mns mar, RO 2 yi y1 y2 y3 y4 y5 yo yc, .row QQ yq, .row RR ya, .row RR yn, .row RR yr]) = some r'' :=
 U6 (fun a'' : Int => stOf [1, 2, 4, 6] [.int .i64 size, .ptr 0 0, .ptr 1 0, .int .i64 a''] [MO mi mqr maa mtc mrd mra mop mrc mq man mns mar, RO 2 yi y1 y2 y3 y4 y5 yo yc, .row QQ yq, .row RR ya, .row RR yn, .row RR yr]) (fun a'' => I'' a'') (fun a'' => m'' a'') r'' (fun a'' => r63n size a'' mi mqr maa mtc mrd mra mop mrc mq man mns mar yi y1 y2 y3 y4 y5 yo yc yq ya yn yr)
  (fun a'' x hx => (X3n lp size a'' mi mqr maa mtc mrd mra mop mrc mq man mns mar yi y1 y2 y3 y4 y5 yo yc yq ya yn yr).trans hx) (fun a'' ha => Tr.all_mono (fun x'' hx => hx.imp id fun ⟨many', h1, h2, h3⟩ => ⟨(many'), h1, h2, h3⟩) (h (a'') ha)) (many)
theorem J46 : Q3o.Ok TN (orcB [Z15, J13] []) h63 0 0 b63n := by
 intro q'' hq'' x'' y'' r'' h
 obtain ⟨(size : Int), (many : Int), _⟩ := x''
 obtain ⟨⟨(mi : Int), (mqr : Bool), (maa : Bool), (mtc : Bool), (mrd : Bool), (mra : Bool), (mop : Int), (mrc : Int), (mq : List QQt), (man : List RRt), (mns : List RRt), (mar : List RRt), _⟩, ⟨(yi : Int), (y1 : Bool), (y2 : Bool), (y3 : Bool), (y4 : Bool), (y5 : Bool), (yo : Int), (yc : Int), _⟩, (yq : List QQt), (ya : List RRt), (yn : List RRt), (yr : List RRt), _⟩ := y''
 obtain ⟨hc, rfl⟩ := Tr.get_on h
 show U3 (fun st => evC TN (orcB [Z15, J13] []) (lpN TN (orcB [Z15, J13] []) h63 0 q'') b63n 0 st (X1 [1, 2, 4, 6] [4, 5] 0)) (stOf [1, 2, 4, 6] [.int .i64 size, .ptr 0 0, .ptr 1 0, .int .i64 many] [MO mi mqr maa mtc mrd mra mop mrc mq man mns mar, RO 2 yi y1 y2 y3 y4 y5 yo yc, .row QQ yq, .row RR ya, .row RR yn, .row RR yr]) = some (.exit 0, stOf [4, 5] ([.ptr 0 0, .dead]) ([RO 1 yi y1 y2 y3 y4 y5 yo yc, .row QQ yq, .row RR ya, .row RR yn, .row RR yr]))
 have hc := of_decide_eq_true hc
 subst hc
 refine wf63n size mi mqr maa mtc mrd mra mop mrc mq man mns mar yi y1 y2 y3 y4 y5 yo yc yq ya yn yr (fun k => k = -1) (fun _ => 0) _ ?_ _ (-1) rfl
 rintro k rfl
 unfold r63n
 exact Tr.all_f rfl (Tr.all_ret (.inl rfl))
def t63n (g : MGt) (most : Int) : Tr Res := .br (bigM g) (.br (!mayM g) (.ret ([.agg [.int .u16 0, .bool false, .bool false, .bool false, .bool false, .bool false, .int .i64 0, .int .i64 0, .list QQ [], .list RR [], .list RR [], .list RR []], .int .i64 1], [])) (.br (U04 g) (.br (decide ((↑(List.length (bytM g)) : Int) ≤ if 65535 < most then 65535 else most)) (.ret ([AV.ofTy MG g true, .int .i64 0], [])) (.br (decide (IntKind.wrap .i64 (IntKind.wrap .i64 (IntKind.wrap .i64 ((↑g.2.2.2.2.2.2.2.2.2.1.length : Int) + (↑g.2.2.2.2.2.2.2.2.2.2.1.length : Int)) + (↑g.2.2.2.2.2.2.2.2.2.2.2.length : Int)) - 1) = (-1 : Ty.den (Ty.int .i64)))) (.ret ([.agg [.int .u16 0, .bool false, .bool false, .bool false, .bool false, .bool false, .int .i64 0, .int .i64 0, .list QQ [], .list RR [], .list RR [], .list RR []], .int .i64 3], [])) .no)) .no)) .no
def os63n : OSpec := { f := 63, sh := [.d MG true, .d (.int .i64) false], so := [], F := fun (g, most, _) _ => t63n g most }
theorem fn63n (g : MGt) (most : Int) : evC TN (orcB [Z15, J13] []) (lpOf h63 0 (lsOf [Q3o])) c63 1000000 (V1 [AV.ofTy MG g true, .int .i64 most] [] Try.f63.ntmps) (Z1 TN false 0 Try.f63) = (t63n g most).get := by kernel_rfl
theorem ok63n : os63n.Ok Try.prog := by
 refine J4 U2 tabN (U0 (all_cons U3z (all_cons Q3d all_nil)) all_nil) h63 (d := 0) (n0 := 0) (S := lsOf [Q3o]) Try.func63 (by kernel_rfl) (c := c63) (by kernel_rfl) rfl (J6 (xs := [(0, b63n)]) (by kernel_rfl) (all_cons (V7 J46) all_nil)) (by omega) (by kernel_rfl) ?_
 intro x'' y'' q'' hq''
 obtain ⟨(g : MGt), (most : Int), _⟩ := x''
 exact (fn63n g most).trans hq''
def Q4n : FSpec := fsT 63 [(MG, true), ((.int .i64), false)] [(MG, true), ((.int .i64), false)] fun (g, most, _) => t63n g most
theorem X4s : Q4n.Ok Try.prog := J7 fun x'' r'' hr'' => ok63n x'' () r'' hr''
abbrev QRt := Int × (Int × ((Int × Int) × (QQt × QQt)))
def ipB (xi xp : Int) (q : QRt) : Bool := q.1 == xi && q.2.1 == xp
def X51 (all : List QRt) (p id : Int) : Bool := all.any (ipB id p)
def J4o (all : List QRt) (p : Int) : Nat → Int → Int
 | 0, id => id
 | k + 1, id => bif X51 all p id then J4o all p k ((id + 1) % 65536) else id
def Z2j (all : List QRt) (p id : Int) : Int := J4o all p (all.length + 1) id
theorem u16_in {x : Int} (h0 : 0 ≤ x) (h : x < 65536) : IntKind.wrap IntKind.u16 x = x := by
 show x % 65536 = x
 omega
theorem U51 {α : Type} {c : Bool} {x y : Tr α} {r : α} (h : (Tr.br c x y).get = some r) : (c = true ∧ x.get = some r) ∨ (c = false ∧ y.get = some r) := by
 cases c
 · exact .inr ⟨rfl, h⟩
 · exact .inl ⟨rfl, h⟩
theorem Q52 {α : Type} {r : α} (h : (Tr.no : Tr α).get = some r) : False := by cases h
open Go
def Xa {R : Type} (n : Nat) (K : Nat → Option R) : Option R := match n with | 0 => K 0 | m + 1 => K (Nat.succ m)
theorem Qd {R : Type} (n : Nat) (K : Nat → Option R) : Xa n K = K n := by cases n <;> rfl
def U0u {R : Type} (n : Int) (K : Int → Option R) : Option R := match n with | .ofNat m => Xa m fun m => K (.ofNat m) | .negSucc m => Xa m fun m => K (.negSucc m)
theorem Q14 {R : Type} (n : Int) (K : Int → Option R) : U0u n K = K n := by cases n <;> simp only [U0u, Qd]
def Uh {α R : Type} (f : α → (α → Option R) → Option R) : List α → (List α → Option R) → Option R
 | [], K => K []
 | x :: xs, K => f x fun x => Uh f xs fun xs => K (x :: xs)
theorem Vd {α R : Type} {f : α → (α → Option R) → Option R} (hf : ∀ x K, f x K = K x) : ∀ (xs : List α) (K : List α → Option R), Uh f xs K = K xs
 | [], K => rfl
 | x :: xs, K => by simp only [Uh]; rw [hf, Vd hf xs]
def X19 {R : Type} (b : UInt8) (K : UInt8 → Option R) : Option R := Xa b.toNat fun n => K (UInt8.ofNat n)
theorem Z1d {R : Type} (b : UInt8) (K : UInt8 → Option R) : X19 b K = K b := by
 simp only [X19, Qd]
 congr 1
 exact UInt8.ofNat_toNat
def U23 {R : Type} (b : Bool) (K : Bool → Option R) : Option R := match b with | true => K true | false => K false
theorem U10 {R : Type} (b : Bool) (K : Bool → Option R) : U23 b K = K b := by cases b <;> rfl
def X04 {R : Type} : (t : Ty) → t.den → (t.den → Option R) → Option R
 | .int _, n, K => U0u n K
 | .bool, b, K => U23 b K
 | .str, s, K => Uh X19 s K
 | .unit, _, K => K ()
 | .list t, xs, K => Uh (X04 t) xs K
 | .pair a b, x, K => X04 a x.1 fun y => X04 b x.2 fun z => K (y, z)
theorem Up {R : Type} : ∀ (t : Ty) (x : t.den) (K : t.den → Option R), X04 t x K = K x
 | .int _, n, K => Q14 n K
 | .bool, b, K => U10 b K
 | .str, s, K => Vd (fun x K => Z1d x K) s K
 | .unit, _, K => rfl
 | .list t, xs, K => Vd (fun x K => Up t x K) xs K
 | .pair a b, x, K => by simp only [X04]; rw [Up a, Up b]
mutual
def Xf {R : Type} : AV → (AV → Option R) → Option R
 | .int k n, K => U0u n fun n => K (.int k n)
 | .bool b, K => U23 b fun b => K (.bool b)
 | .str s, K => Uh X19 s fun s => K (.str s)
 | .list t xs, K => Uh (X04 t) xs fun xs => K (.list t xs)
 | .agg cs, K => Qq cs fun cs => K (.agg cs)
 | .tup cs, K => Qq cs fun cs => K (.tup cs)
 | .np, K => K .np
 | .nm, K => K .nm
 | .nf, K => K .nf
 | .ns, K => K .ns
 | .ptr k off, K => Xa k fun k => Xa off fun off => K (.ptr k off)
 | .rptr k t i off, K => Xa k fun k => Xa i fun i => Xa off fun off => K (.rptr k t i off)
 | .lptr t xs i off, K => Uh (X04 t) xs fun xs => Xa i fun i => Xa off fun off => K (.lptr t xs i off)
 | .rowA k, K => Xa k fun k => K (.rowA k)
 | .rowS k off n c, K => Xa k fun k => Xa off fun off => Xa n fun n => U23 c fun c => K (.rowS k off n c)
 | .mp k, K => Xa k fun k => K (.mp k)
 | .psl k n, K => Xa k fun k => Xa n fun n => K (.psl k n)
 | .fn g cs, K => Qq cs fun cs => K (.fn g cs)
 | .undef, K => K .undef
 | .dead, K => K .dead
def Qq {R : Type} : List AV → (List AV → Option R) → Option R
 | [], K => K []
 | v :: vs, K => Xf v fun v => Qq vs fun vs => K (v :: vs)
end
mutual
theorem U33 {R : Type} : ∀ (v : AV) (K : AV → Option R), Xf v K = K v
 | .int k n, K => by simp only [Xf, Q14]
 | .bool b, K => by simp only [Xf, U10]
 | .str s, K => by simp only [Xf]; rw [Vd (fun x K => Z1d x K)]
 | .list t xs, K => by simp only [Xf]; rw [Vd (fun x K => Up t x K)]
 | .agg cs, K => by simp only [Xf]; rw [Xo cs]
 | .tup cs, K => by simp only [Xf]; rw [Xo cs]
 | .np, K => by simp only [Xf]
 | .nm, K => by simp only [Xf]
 | .nf, K => by simp only [Xf]
 | .ns, K => by simp only [Xf]
 | .ptr k off, K => by simp only [Xf, Qd]
 | .rptr k t i off, K => by simp only [Xf, Qd]
 | .lptr t xs i off, K => by simp only [Xf]; rw [Vd (fun x K => Up t x K)]; simp only [Qd]
 | .rowA k, K => by simp only [Xf, Qd]
 | .rowS k off n c, K => by simp only [Xf, Qd, U10]
 | .mp k, K => by simp only [Xf, Qd]
 | .psl k n, K => by simp only [Xf, Qd]
 | .fn g cs, K => by simp only [Xf]; rw [Xo cs]
 | .undef, K => by simp only [Xf]
 | .dead, K => by simp only [Xf]
theorem Xo {R : Type} : ∀ (vs : List AV) (K : List AV → Option R), Qq vs K = K vs
 | [], K => by simp only [Qq]
 | v :: vs, K => by simp only [Qq]; rw [U33 v, Xo vs]
end
def X0r {R : Type} (o : LObj) (K : LObj → Option R) : Option R :=
 match o with
 | .boxT g cs => Qq cs fun cs => (match g with | none => K (.boxT none cs) | some n => Xa n fun n => K (.boxT (some n) cs))
 | .row t xs => Uh (X04 t) xs fun xs => K (.row t xs)
 | .mpo kt vt es => Uh (fun e K => X04 kt e.1 fun a => X04 vt e.2 fun b => K (a, b)) es fun es => K (.mpo kt vt es)
 | .gone => K .gone
theorem J2n {R : Type} (o : LObj) (K : LObj → Option R) : X0r o K = K o := by
 cases o with
 | boxT g cs => simp only [X0r]; rw [Xo]; cases g <;> simp only [Qd]
 | row t xs => simp only [X0r]; rw [Vd (fun x K => Up t x K)]
 | mpo kt vt es => simp only [X0r]; rw [Vd (fun e K => by rw [Up, Up])]
 | gone => rfl
def U0r {R : Type} (os : List LObj) (K : List LObj → Option R) : Option R := Uh X0r os K
theorem Z13 {R : Type} (os : List LObj) (K : List LObj → Option R) : U0r os K = K os := Vd (fun o K => J2n o K) os K
def V1x {R : Type} (keep : List Nat) (n0 : Nat) (st : St) (K : St → Option R) : Option R :=
 Qq (U1m keep n0 st).1 fun vs => U0r (U1m keep n0 st).2 fun os => K (stOf keep vs os)
theorem X28 {R : Type} (keep : List Nat) (n0 : Nat) (st : St) (K : St → Option R) : V1x keep n0 st K = K (norm keep n0 st) := by
 simp only [V1x, Xo, Z13]
 rfl
def U2q (keep keepX : List Nat) (n0 : Nat) : Ex → St → Option (St ⊕ (Ex × St))
 | .normal, st => V1x keep n0 st fun st => some (.inl st)
 | .exit i, st => V1x keepX n0 st fun st => some (.inr (.exit i, st))
 | .ret, st => V1x keepX n0 st fun st => some (.inr (.ret, st))
theorem J39 (keep keepX : List Nat) (n0 : Nat) : U2q keep keepX n0 = X1 keep keepX n0 := by
 funext e st
 cases e <;> simp only [U2q, X28, X1]
def lpC (T : Tab) (orc : Orc) (H : Hint) (n0 fuel : Nat) : Nat → Lp
 | 0 => fun _ _ _ => .no
 | n + 1 => fun bid body st =>
   .of (V1x (H.keep bid) n0 st fun st => Qn (fun st => evC T orc (lpC T orc H n0 fuel n) body bid st (U2q (H.keep bid) (H.keepX bid) n0)) fuel st)
theorem X1d {F F' : St → Option (St ⊕ (Ex × St))} (h : ∀ st r, F st = some r → F' st = some r) {r : Ex × St} : ∀ (n : Nat) (st : St), Qn F n st = some r → Qn F' n st = some r
 | 0, _, h0 => by simp [Qn] at h0
 | n + 1, st, h0 => by
   simp only [Qn] at h0 ⊢
   split at h0
   · cases h0
   · rename_i r' hr
     rw [h _ _ hr]
     exact h0
   · rename_i st' hr
     rw [h _ _ hr]
     exact X1d h n st' h0
theorem U2w {T : Tab} {orc : Orc} {H : Hint} {n0 fuel : Nat} : ∀ (n : Nat) (bid : Nat) (body : Code) (st : St) (q : Ex × St), (lpC T orc H n0 fuel n bid body st).get = some q → (lpN T orc H n0 n bid body st).get = some q
 | 0, _, _, _, _, h => by simp [lpC, Tr.get] at h
 | n + 1, bid, body, st, q, h => by
   simp only [lpC, lpN, Tr.get_of, X28, J39] at h ⊢
   exact Z0r (X1d (fun st r hr => Zv body bid st _ _ (fun x _ st q hq => U2w n x.1 x.2 st q hq) (fun _ _ h => h) hr) _ _ h)
def X3u (T : Tab) (orc : Orc) (H : Hint) (fuel : Nat) (fn : Func) (args : List AV) (objs : List LObj) : Option Res :=
 match fn.body with
 | none => none
 | some c => bif Zn fn.ntmps c && Nat.ble args.length fn.ntmps then evC T orc (lpC T orc H objs.length fuel 8) c 1000000 (V1 args objs fn.ntmps) (Z1 T H.own objs.length fn) else none
theorem J35 {T : Tab} {orc : Orc} {H : Hint} {fuel : Nat} {fn : Func} {args : List AV} {objs : List LObj} {r : Res} (h : X3u T orc H fuel fn args objs = some r) : evFn T orc H fn args objs = some r := by
 unfold X3u at h
 unfold evFn
 split at h
 · cases h
 · rename_i c hb
   rw [hb]
   simp only
   cases hd : (Zn fn.ntmps c && Nat.ble args.length fn.ntmps) with
   | false => rw [hd] at h; cases h
   | true =>
     rw [hd] at h
     simp only [cond_true] at h ⊢
     exact Zv c 1000000 _ _ _ (fun x _ st q hq => U2w 8 x.1 x.2 st q hq) (fun _ _ h => h) h
abbrev Fns := List (Nat × (Tab × Hint × Func))
def fnAt : Fns → Nat → Option (Tab × Hint × Func)
 | [], _ => none
 | e :: es, f => bif Nat.beq e.1 f then some e.2 else fnAt es f
def orcD (tb : Fns) (base : Orc) (fuel : Nat) : Nat → Orc
 | 0 => fun _ _ _ => .no
 | n + 1 => fun f args objs => match fnAt tb f with
   | none => base f args objs
   | some e => .of (Qq args fun args => U0r objs fun objs => match X3u e.1 (orcD tb base fuel n) e.2.1 fuel e.2.2 args objs with
     | none => none
     | some r => Qq r.1 fun vs => U0r r.2 fun os => some (vs, os))
def FnOk (P : Program) (e : Nat × (Tab × Hint × Func)) : Prop := Q4 P e.2.1 ∧ P.funcs[e.1]? = some e.2.2.2 ∧ e.2.2.2.name ≠ "runtime.NumGoroutine"
theorem X2x {P : Program} : ∀ {tb : Fns}, (∀ e ∈ tb, FnOk P e) → ∀ {f : Nat} {e : Tab × Hint × Func}, fnAt tb f = some e → FnOk P (f, e)
 | [], _, _, _, h => by cases h
 | x :: xs, hx, f, e, h => by
   simp only [fnAt] at h
   cases hb : Nat.beq x.1 f with
   | true =>
     rw [hb] at h
     simp only [cond_true, Option.some.injEq] at h
     have h1 := hx x (by simp)
     subst h
     obtain rfl := Nat.eq_of_beq_eq_true hb
     exact h1
   | false =>
     rw [hb] at h
     exact X2x (fun y hy => hx y (List.mem_cons_of_mem _ hy)) h
theorem Z1m {P : Program} (hmo : P.follows .mixedOrders = true) {tb : Fns} (htb : ∀ e ∈ tb, FnOk P e) {base : Orc} (hB : Vc P base) (fuel : Nat) : ∀ n, Vc P (orcD tb base fuel n)
 | 0 => fun f args objs res objs' h => by simp [orcD, Tr.get] at h
 | n + 1 => fun f args objs res objs' h => by
   simp only [orcD] at h
   split at h
   · exact hB _ _ _ _ _ h
   · rename_i e he
     obtain ⟨h1, h2, h3⟩ := X2x htb he
     simp only [Tr.get_of, Xo, Z13] at h
     split at h
     · cases h
     · rename_i r hr
       have h := Option.some.inj h
       rw [Prod.eta] at h
       subst h
       exact X1f hmo h1 (Z1m hmo htb hB fuel n) h2 h3 (J35 hr)
abbrev RRty : Ty := .pair .str (.pair (.int .u16) (.pair (.int .u16) (.pair (.int .u32) .str)))
abbrev QQty : Ty := .pair .str (.pair (.int .u16) (.int .u16))
theorem sem57 (xs : List QQty.den) (hc : fits xs.length 24 = true) : SemF Try.prog 57 [.list QQty xs] [] [.rowA 0] [.row QQty xs] := by
 have h : U3i T0 (Z1a []) (fun _ _ _ => .no) Try.f57 true 0 (cC c57).r0 (.seq (cC c57).cx (cC c57).cy) 3 4 (V1 [.list QQty xs] [] Try.f57.ntmps) =
     bif fits (([] : List QQty.den).length + xs.length) 24 then some (([.rowA 0], [.row QQty []]), ([.rowA 0], [.row QQty ([] ++ xs)]), xs.isEmpty) else none := by kernel_rfl
 rw [show fits (([] : List QQty.den).length + xs.length) 24 = true by simpa using hc] at h
 exact X2y U2 tab0 (J04 [] (by simp)) Try.func57 (by kernel_rfl) (id := (cC c57).id) (ops := (cC c57).ops) (o1 := (cC c57).ops.getD 0 default) (o2 := (cC c57).ops.getD 1 default) (d1 := 3) (d2 := 4) (t := 60) (yt := 60) (e := 27)
  (by kernel_rfl) (by kernel_rfl) (by kernel_rfl) (by kernel_rfl) (by kernel_rfl) (by kernel_rfl) (by kernel_rfl) (by kernel_rfl) (by kernel_rfl) (by kernel_rfl) h rfl (fun he => by rw [List.isEmpty_iff.1 he])
def os57 : OSpec := V2s 57 QQty 24
theorem ok57 : os57.Ok Try.prog := X1p sem57
theorem sem61 (xs : List RRty.den) (hc : fits xs.length 40 = true) : SemF Try.prog 61 [.list RRty xs] [] [.rowA 0] [.row RRty xs] := by
 have h : U3i T0 (Z1a []) (fun _ _ _ => .no) Try.f61 true 0 (cC c61).r0 (.seq (cC c61).cx (cC c61).cy) 3 4 (V1 [.list RRty xs] [] Try.f61.ntmps) =
     bif fits (([] : List RRty.den).length + xs.length) 40 then some (([.rowA 0], [.row RRty []]), ([.rowA 0], [.row RRty ([] ++ xs)]), xs.isEmpty) else none := by kernel_rfl
 rw [show fits (([] : List RRty.den).length + xs.length) 40 = true by simpa using hc] at h
 exact X2y U2 tab0 (J04 [] (by simp)) Try.func61 (by kernel_rfl) (id := (cC c61).id) (ops := (cC c61).ops) (o1 := (cC c61).ops.getD 0 default) (o2 := (cC c61).ops.getD 1 default) (d1 := 3) (d2 := 4) (t := 61) (yt := 61) (e := 71)
  (by kernel_rfl) (by kernel_rfl) (by kernel_rfl) (by kernel_rfl) (by kernel_rfl) (by kernel_rfl) (by kernel_rfl) (by kernel_rfl) (by kernel_rfl) (by kernel_rfl) h rfl (fun he => by rw [List.isEmpty_iff.1 he])
def os61 : OSpec := V2s 61 RRty 40
theorem ok61 : os61.Ok Try.prog := X1p sem61
noncomputable def tbl27 : Fns := [(27, T27, h27, Try.f27), (30, T30, h30, Try.f30), (31, T31, h31, Try.f31), (32, T32, h32, Try.f32), (34, T34, h34, Try.f34), (35, T35, h35, Try.f35), (55, T55, h55, Try.f55), (56, T56, h56, Try.f56), (58, T58, h58, Try.f58), (59, T59, h59, Try.f59), (60, T60, h60, Try.f60), (62, T62, h62, Try.f62), (63, T63, h63, Try.f63), (64, T64, h64, Try.f64), (65, T65, h65, Try.f65), (66, T66, h66, Try.f66), (67, T67, h67, Try.f67), (68, T68, h68, Try.f68), (69, T69, h69, Try.f69), (70, T70, h70, Try.f70), (71, T71, h71, Try.f71), (72, T72, h72, Try.f72), (81, T81, h81, Try.f81), (82, T82, h82, Try.f82), (83, T83, h83, Try.f83), (84, T84, h84, Try.f84), (85, T85, h85, Try.f85), (86, T86, h86, Try.f86), (87, T87, h87, Try.f87), (88, T88, h88, Try.f88), (89, T89, h89, Try.f89), (91, T91, h91, Try.f91), (92, T92, h92, Try.f92), (93, T93, h93, Try.f93), (94, T94, h94, Try.f94), (95, T95, h95, Try.f95), (96, T96, h96, Try.f96), (97, T97, h97, Try.f97), (98, T98, h98, Try.f98), (99, T99, h99, Try.f99), (100, T100, h100, Try.f100), (101, T101, h101, Try.f101), (102, T102, h102, Try.f102), (103, { T103 with kns := true }, h103, Try.f103), (104, T104, h104, Try.f104), (112, T112, h112, Try.f112), (113, T113, h113, Try.f113), (114, T114, h114, Try.f114), (115, T115, h115, Try.f115), (116, T116, h116, Try.f116), (117, T117, h117, Try.f117), (119, T119, h119, Try.f119), (120, T120, h120, Try.f120), (121, T121, h121, Try.f121), (122, T122, h122, Try.f122), (123, T123, h123, Try.f123), (124, T124, h124, Try.f124), (125, { T125 with kns := true }, hOwn h125, Try.f125), (133, T133, h133, Try.f133), (134, T134, h134, Try.f134), (135, T135, h135, Try.f135), (136, T136, h136, Try.f136), (137, T137, h137, Try.f137), (138, T138, h138, Try.f138), (140, T140, h140, Try.f140), (141, T141, h141, Try.f141), (142, T142, h142, Try.f142), (143, T143, h143, Try.f143), (150, T150, h150, Try.f150), (151, T151, h151, Try.f151), (152, T152, h152, Try.f152), (156, T0, h156, Try.f156)]
theorem X4c : ∀ e ∈ tbl27, FnOk Try.prog e := all_cons ⟨tab0, Try.func27, by decide⟩ (all_cons ⟨tab0, Try.func30, by decide⟩ (all_cons ⟨tab0, Try.func31, by decide⟩ (all_cons ⟨tab0, Try.func32, by decide⟩ (all_cons ⟨tab0, Try.func34, by decide⟩ (all_cons ⟨tab0, Try.func35, by decide⟩ (all_cons ⟨tab0, Try.func55, by decide⟩ (all_cons ⟨tab0, Try.func56, by decide⟩ (all_cons ⟨tab0, Try.func58, by decide⟩ (all_cons ⟨tab0, Try.func59, by decide⟩ (all_cons ⟨tab0, Try.func60, by decide⟩ (all_cons ⟨tab0, Try.func62, by decide⟩ (all_cons ⟨tab0, Try.func63, by decide⟩ (all_cons ⟨tab0, Try.func64, by decide⟩ (all_cons ⟨tab0, Try.func65, by decide⟩ (all_cons ⟨tab0, Try.func66, by decide⟩ (all_cons ⟨tab0, Try.func67, by decide⟩ (all_cons ⟨tab0, Try.func68, by decide⟩ (all_cons ⟨tab0, Try.func69, by decide⟩ (all_cons ⟨tab0, Try.func70, by decide⟩ (all_cons ⟨tab0, Try.func71, by decide⟩ (all_cons ⟨tab0, Try.func72, by decide⟩ (all_cons ⟨tab0, Try.func81, by decide⟩ (all_cons ⟨tab0, Try.func82, by decide⟩ (all_cons ⟨tab0, Try.func83, by decide⟩ (all_cons ⟨tab0, Try.func84, by decide⟩ (all_cons ⟨tab0, Try.func85, by decide⟩ (all_cons ⟨tab0, Try.func86, by decide⟩ (all_cons ⟨tab0, Try.func87, by decide⟩ (all_cons ⟨tab0, Try.func88, by decide⟩ (all_cons ⟨tab0, Try.func89, by decide⟩ (all_cons ⟨tab0, Try.func91, by decide⟩ (all_cons ⟨tab0, Try.func92, by decide⟩ (all_cons ⟨tab0, Try.func93, by decide⟩ (all_cons ⟨tab0, Try.func94, by decide⟩ (all_cons ⟨tab0, Try.func95, by decide⟩ (all_cons ⟨tab0, Try.func96, by decide⟩ (all_cons ⟨tab0, Try.func97, by decide⟩ (all_cons ⟨tab0, Try.func98, by decide⟩ (all_cons ⟨tab0, Try.func99, by decide⟩ (all_cons ⟨tab0, Try.func100, by decide⟩ (all_cons ⟨tab0, Try.func101, by decide⟩ (all_cons ⟨tab0, Try.func102, by decide⟩ (all_cons ⟨(Z22 (T := T103) tab0), Try.func103, by decide⟩ (all_cons ⟨tab0, Try.func104, by decide⟩ (all_cons ⟨tab0, Try.func112, by decide⟩ (all_cons ⟨tab0, Try.func113, by decide⟩ (all_cons ⟨tab0, Try.func114, by decide⟩ (all_cons ⟨tab0, Try.func115, by decide⟩ (all_cons ⟨tab0, Try.func116, by decide⟩ (all_cons ⟨tab0, Try.func117, by decide⟩ (all_cons ⟨tab0, Try.func119, by decide⟩ (all_cons ⟨tab0, Try.func120, by decide⟩ (all_cons ⟨tab0, Try.func121, by decide⟩ (all_cons ⟨tab0, Try.func122, by decide⟩ (all_cons ⟨tab0, Try.func123, by decide⟩ (all_cons ⟨tab0, Try.func124, by decide⟩ (all_cons ⟨(Z22 (T := T125) tab0), Try.func125, by decide⟩ (all_cons ⟨tab0, Try.func133, by decide⟩ (all_cons ⟨tab0, Try.func134, by decide⟩ (all_cons ⟨tab0, Try.func135, by decide⟩ (all_cons ⟨tab0, Try.func136, by decide⟩ (all_cons ⟨tab0, Try.func137, by decide⟩ (all_cons ⟨tab0, Try.func138, by decide⟩ (all_cons ⟨tab0, Try.func140, by decide⟩ (all_cons ⟨tab0, Try.func141, by decide⟩ (all_cons ⟨tab0, Try.func142, by decide⟩ (all_cons ⟨tab0, Try.func143, by decide⟩ (all_cons ⟨tab0, Try.func150, by decide⟩ (all_cons ⟨tab0, Try.func151, by decide⟩ (all_cons ⟨tab0, Try.func152, by decide⟩ (all_cons ⟨tab0, Try.func156, by decide⟩ (all_nil))))))))))))))))))))))))))))))))))))))))))))))))))))))))))))))))))))))))
theorem V51 : SemF Try.prog 27 [] [] [.bool true] [] := Z1m U2 X4c (U0 (fs := [fs90]) (os := [os57, os61]) (all_cons Q4m (all_nil)) (all_cons ok57 (all_cons ok61 (all_nil)))) 80 40 27 [] [] [.bool true] [] (by kernel_rfl)
def nrM (m : MGt) : Bool := List.isEmpty (mAn m) && (List.isEmpty (mNs m) && List.isEmpty (mAr m))
def limN (most : Int) : Int := if (65535 : Int) < most then (65535 : Int) else most
def cutN (m : MGt) (most : Int) : MGt × Int := bif mayM m then (bif decide (((bytM m).length : Int) ≤ limN most) then (m, 0) else (noM, 3)) else (noM, 1)
def V4i : FSpec := Q4n.like fun (m, most, _) => .br (okPM m && nrM m) (.ret ((cutN m most).1, (cutN m most).2, ())) .no
theorem J4t : V4i.Ok Try.prog := by
 refine Z4 X4s _ ?_
 rintro ⟨(m : MGt), (most : Int), _⟩ y h
 rcases U51 h with ⟨hc, h⟩ | ⟨_, h⟩
 · cases h
   simp only [Bool.and_eq_true] at hc
   obtain ⟨hp, hn⟩ := hc
   obtain ⟨hb, _, _⟩ := Z0h.1 hp
   simp only [nrM, Bool.and_eq_true, List.isEmpty_iff] at hn
   refine V3 (vs := [AV.ofTy MG (cutN m most).1 true, .int .i64 (cutN m most).2]) rfl rfl (Tr.get_of_all ?_)
   show (t63n m most).all _
   unfold t63n
   refine Tr.all_t hb ?_
   cases hm : mayM m with
   | false =>
     have : cutN m most = (noM, 1) := by unfold cutN; rw [hm]; rfl
     rw [this]
     exact Tr.all_t rfl (Tr.all_ret rfl)
   | true =>
     refine Tr.all_f rfl (Tr.all_t (Ur hp hm) ?_)
     by_cases hl : ((bytM m).length : Int) ≤ limN most
     · have : cutN m most = (m, 0) := by unfold cutN; rw [hm, X0 hl]; rfl
       rw [this]
       exact Tr.all_t (X0 hl) (Tr.all_ret rfl)
     · have : cutN m most = (noM, 3) := by unfold cutN; rw [hm, Q0 hl]; rfl
       rw [this]
       refine Tr.all_f (Q0 hl) (Tr.all_t ?_ (Tr.all_ret rfl))
       rw [show m.2.2.2.2.2.2.2.2.2.1 = [] from hn.1, show m.2.2.2.2.2.2.2.2.2.2.1 = [] from hn.2.1, show m.2.2.2.2.2.2.2.2.2.2.2 = [] from hn.2.2]
       rfl
 · exact (Q52 h).elim
def t72 (g : MGt) : Tr Res := .br (g.2.2.2.2.2.2.1 != 0) (.ret ([.int .i64 4], [])) (.br ((↑g.2.2.2.2.2.2.2.2.1.length : Int) != 1) (.ret ([.int .i64 1], [])) (.br (decide ((↑g.2.2.2.2.2.2.2.2.2.1.length : Int) > 0)) (.ret ([.int .i64 1], [])) (.br (!g.2.2.2.2.1) (.ret ([.int .i64 5], [])) (.br (decide (0 < (↑g.2.2.2.2.2.2.2.2.1.length : Int))) (.br ((List.getD g.2.2.2.2.2.2.2.2.1 (Int.toNat 0) (Ty.dflt QQ)).2.2 != 1) (.ret ([.int .i64 5], [])) (.br (decide (0 < (↑g.2.2.2.2.2.2.2.2.1.length : Int))) (.br ((List.getD g.2.2.2.2.2.2.2.2.1 (Int.toNat 0) (Ty.dflt QQ)).2.1 == 0) (.ret ([.int .i64 4], [])) (.br (decide (0 < (↑g.2.2.2.2.2.2.2.2.1.length : Int))) (.br (decide ((List.getD g.2.2.2.2.2.2.2.2.1 (Int.toNat 0) (Ty.dflt QQ)).2.1 ≥ 128)) (.ret ([.int .i64 4], [])) (.ret ([.int .i64 0], []))) .no)) .no)) .no))))
def os72 : OSpec := { f := 72, sh := [.d MG true], so := [], F := fun (g, _) _ => t72 g }
theorem fn72 (g : MGt) : evC T0 (orcB [] []) (lpOf h72 0 (lsOf [])) c72 1000000 (V1 [AV.ofTy MG g true] [] Try.f72.ntmps) (Z1 T0 false 0 Try.f72) = (t72 g).get := by kernel_rfl
theorem ok72 : os72.Ok Try.prog := by
 refine J4 U2 tab0 (U0 all_nil all_nil) h72 (d := 0) (n0 := 0) (S := lsOf []) Try.func72 (by kernel_rfl) (c := c72) (by kernel_rfl) rfl (Z3 (by kernel_rfl)) (by omega) (by kernel_rfl) ?_
 intro x'' y'' q'' hq''
 obtain ⟨(g : MGt), _⟩ := x''
 exact (fn72 g).trans hq''
def fs72 : FSpec := fsT 72 [(MG, true)] [((.int .i64), false)] fun (g, _) => t72 g
theorem okf72 : fs72.Ok Try.prog := J7 fun x'' r'' hr'' => ok72 x'' () r'' hr''
def U4h : FSpec := U4i.like fun (m, rc, _) => .ret ((Prod.fst m, true, false, false, Prod.fst (Prod.snd (Prod.snd (Prod.snd (Prod.snd m)))), true, Prod.fst (Prod.snd (Prod.snd (Prod.snd (Prod.snd (Prod.snd (Prod.snd m)))))), rc, Prod.fst (Prod.snd (Prod.snd (Prod.snd (Prod.snd (Prod.snd (Prod.snd (Prod.snd (Prod.snd m)))))))), [], [], []), ())
theorem J54 : U4h.Ok Try.prog := by
 refine Z4 X4x _ ?_
 rintro ⟨(m : MGt), (rc : Int), _⟩ y h
 exact h
def putO (m : MGt) : List UInt8 := bif decide (m.1 = m.1) then (putV m).1 else []
theorem Jy (m : MGt) : putO m = (putV m).1 := by unfold putO; rw [X0 rfl]; rfl
def Q40 : FSpec := Z4j.like fun (m, _) => .on (okPM m) (putO m, (putV m).2, ())
theorem J3m : Q40.Ok Try.prog := by
 refine Z4 U4z _ ?_
 rintro ⟨(m : MGt), _⟩ y h
 obtain ⟨hc, rfl⟩ := Tr.get_on h
 show (Tr.on (okPM m) ((putV m).1, (putV m).2, ())).get = some (putO m, (putV m).2, ())
 rw [Jy]
 show (Tr.br (okPM m) (Tr.ret _) Tr.no).get = _
 rw [show okPM m = true from hc]
 rfl
def t30 (g : MGt) (rc : Int) (an : List RRt) : Tr Res := .br (decide (rc < 0)) (.br (decide (g.2.2.2.2.2.2.1 < 0)) (.br (fits g.2.2.2.2.2.2.2.2.1.length 24) (.br (irC g.2.2.2.2.2.2.2.2.1 (↑g.2.2.2.2.2.2.2.2.1.length : Int) 0) (.br (fits an.length 40) (.br (List.isEmpty an && (decide ((↑an.length : Int) = (0 : Ty.den (Ty.int .i64))) && decide (0 = (0 : Ty.den (Ty.int .i64))))) (.br (okPM (g.1, true, false, false, g.2.2.2.2.1, true, 0, 2, g.2.2.2.2.2.2.2.2.1, an, [], []) && nrM (g.1, true, false, false, g.2.2.2.2.1, true, 0, 2, g.2.2.2.2.2.2.2.2.1, an, [], [])) (.br ((cutN (g.1, true, false, false, g.2.2.2.2.1, true, 0, 2, g.2.2.2.2.2.2.2.2.1, an, [], []) 512).2 != 0) (.br (okPM (g.1, true, false, true, g.2.2.2.2.1, true, 0, 2, [], [], [], [])) (.ret ([.str (putO (g.1, true, false, true, g.2.2.2.2.1, true, 0, 2, [], [], [], []))], [])) .no) (.br (okPM (cutN (g.1, true, false, false, g.2.2.2.2.1, true, 0, 2, g.2.2.2.2.2.2.2.2.1, an, [], []) 512).1) (.ret ([.str (putO (cutN (g.1, true, false, false, g.2.2.2.2.1, true, 0, 2, g.2.2.2.2.2.2.2.2.1, an, [], []) 512).1)], [])) .no)) .no) .no) .no) .no) .no) (.br (decide (g.2.2.2.2.2.2.1 > 15)) (.br (fits g.2.2.2.2.2.2.2.2.1.length 24) (.br (irC g.2.2.2.2.2.2.2.2.1 (↑g.2.2.2.2.2.2.2.2.1.length : Int) 0) (.br (fits an.length 40) (.br (List.isEmpty an && (decide ((↑an.length : Int) = (0 : Ty.den (Ty.int .i64))) && decide (0 = (0 : Ty.den (Ty.int .i64))))) (.br (okPM (g.1, true, false, false, g.2.2.2.2.1, true, 0, 2, g.2.2.2.2.2.2.2.2.1, an, [], []) && nrM (g.1, true, false, false, g.2.2.2.2.1, true, 0, 2, g.2.2.2.2.2.2.2.2.1, an, [], [])) (.br ((cutN (g.1, true, false, false, g.2.2.2.2.1, true, 0, 2, g.2.2.2.2.2.2.2.2.1, an, [], []) 512).2 != 0) (.br (okPM (g.1, true, false, true, g.2.2.2.2.1, true, 0, 2, [], [], [], [])) (.ret ([.str (putO (g.1, true, false, true, g.2.2.2.2.1, true, 0, 2, [], [], [], []))], [])) .no) (.br (okPM (cutN (g.1, true, false, false, g.2.2.2.2.1, true, 0, 2, g.2.2.2.2.2.2.2.2.1, an, [], []) 512).1) (.ret ([.str (putO (cutN (g.1, true, false, false, g.2.2.2.2.1, true, 0, 2, g.2.2.2.2.2.2.2.2.1, an, [], []) 512).1)], [])) .no)) .no) .no) .no) .no) .no) (.br (fits g.2.2.2.2.2.2.2.2.1.length 24) (.br (irC g.2.2.2.2.2.2.2.2.1 (↑g.2.2.2.2.2.2.2.2.1.length : Int) 0) (.br (fits an.length 40) (.br (List.isEmpty an && (decide ((↑an.length : Int) = (0 : Ty.den (Ty.int .i64))) && decide (0 = (0 : Ty.den (Ty.int .i64))))) (.br (okPM (g.1, true, false, false, g.2.2.2.2.1, true, g.2.2.2.2.2.2.1, 2, g.2.2.2.2.2.2.2.2.1, an, [], []) && nrM (g.1, true, false, false, g.2.2.2.2.1, true, g.2.2.2.2.2.2.1, 2, g.2.2.2.2.2.2.2.2.1, an, [], [])) (.br ((cutN (g.1, true, false, false, g.2.2.2.2.1, true, g.2.2.2.2.2.2.1, 2, g.2.2.2.2.2.2.2.2.1, an, [], []) 512).2 != 0) (.br (okPM (g.1, true, false, true, g.2.2.2.2.1, true, g.2.2.2.2.2.2.1, 2, [], [], [], [])) (.ret ([.str (putO (g.1, true, false, true, g.2.2.2.2.1, true, g.2.2.2.2.2.2.1, 2, [], [], [], []))], [])) .no) (.br (okPM (cutN (g.1, true, false, false, g.2.2.2.2.1, true, g.2.2.2.2.2.2.1, 2, g.2.2.2.2.2.2.2.2.1, an, [], []) 512).1) (.ret ([.str (putO (cutN (g.1, true, false, false, g.2.2.2.2.1, true, g.2.2.2.2.2.2.1, 2, g.2.2.2.2.2.2.2.2.1, an, [], []) 512).1)], [])) .no)) .no) .no) .no) .no) .no))) (.br (decide (rc > 15)) (.br (decide (g.2.2.2.2.2.2.1 < 0)) (.br (fits g.2.2.2.2.2.2.2.2.1.length 24) (.br (irC g.2.2.2.2.2.2.2.2.1 (↑g.2.2.2.2.2.2.2.2.1.length : Int) 0) (.br (fits an.length 40) (.br (List.isEmpty an && (decide ((↑an.length : Int) = (0 : Ty.den (Ty.int .i64))) && decide (0 = (0 : Ty.den (Ty.int .i64))))) (.br (okPM (g.1, true, false, false, g.2.2.2.2.1, true, 0, 2, g.2.2.2.2.2.2.2.2.1, an, [], []) && nrM (g.1, true, false, false, g.2.2.2.2.1, true, 0, 2, g.2.2.2.2.2.2.2.2.1, an, [], [])) (.br ((cutN (g.1, true, false, false, g.2.2.2.2.1, true, 0, 2, g.2.2.2.2.2.2.2.2.1, an, [], []) 512).2 != 0) (.br (okPM (g.1, true, false, true, g.2.2.2.2.1, true, 0, 2, [], [], [], [])) (.ret ([.str (putO (g.1, true, false, true, g.2.2.2.2.1, true, 0, 2, [], [], [], []))], [])) .no) (.br (okPM (cutN (g.1, true, false, false, g.2.2.2.2.1, true, 0, 2, g.2.2.2.2.2.2.2.2.1, an, [], []) 512).1) (.ret ([.str (putO (cutN (g.1, true, false, false, g.2.2.2.2.1, true, 0, 2, g.2.2.2.2.2.2.2.2.1, an, [], []) 512).1)], [])) .no)) .no) .no) .no) .no) .no) (.br (decide (g.2.2.2.2.2.2.1 > 15)) (.br (fits g.2.2.2.2.2.2.2.2.1.length 24) (.br (irC g.2.2.2.2.2.2.2.2.1 (↑g.2.2.2.2.2.2.2.2.1.length : Int) 0) (.br (fits an.length 40) (.br (List.isEmpty an && (decide ((↑an.length : Int) = (0 : Ty.den (Ty.int .i64))) && decide (0 = (0 : Ty.den (Ty.int .i64))))) (.br (okPM (g.1, true, false, false, g.2.2.2.2.1, true, 0, 2, g.2.2.2.2.2.2.2.2.1, an, [], []) && nrM (g.1, true, false, false, g.2.2.2.2.1, true, 0, 2, g.2.2.2.2.2.2.2.2.1, an, [], [])) (.br ((cutN (g.1, true, false, false, g.2.2.2.2.1, true, 0, 2, g.2.2.2.2.2.2.2.2.1, an, [], []) 512).2 != 0) (.br (okPM (g.1, true, false, true, g.2.2.2.2.1, true, 0, 2, [], [], [], [])) (.ret ([.str (putO (g.1, true, false, true, g.2.2.2.2.1, true, 0, 2, [], [], [], []))], [])) .no) (.br (okPM (cutN (g.1, true, false, false, g.2.2.2.2.1, true, 0, 2, g.2.2.2.2.2.2.2.2.1, an, [], []) 512).1) (.ret ([.str (putO (cutN (g.1, true, false, false, g.2.2.2.2.1, true, 0, 2, g.2.2.2.2.2.2.2.2.1, an, [], []) 512).1)], [])) .no)) .no) .no) .no) .no) .no) (.br (fits g.2.2.2.2.2.2.2.2.1.length 24) (.br (irC g.2.2.2.2.2.2.2.2.1 (↑g.2.2.2.2.2.2.2.2.1.length : Int) 0) (.br (fits an.length 40) (.br (List.isEmpty an && (decide ((↑an.length : Int) = (0 : Ty.den (Ty.int .i64))) && decide (0 = (0 : Ty.den (Ty.int .i64))))) (.br (okPM (g.1, true, false, false, g.2.2.2.2.1, true, g.2.2.2.2.2.2.1, 2, g.2.2.2.2.2.2.2.2.1, an, [], []) && nrM (g.1, true, false, false, g.2.2.2.2.1, true, g.2.2.2.2.2.2.1, 2, g.2.2.2.2.2.2.2.2.1, an, [], [])) (.br ((cutN (g.1, true, false, false, g.2.2.2.2.1, true, g.2.2.2.2.2.2.1, 2, g.2.2.2.2.2.2.2.2.1, an, [], []) 512).2 != 0) (.br (okPM (g.1, true, false, true, g.2.2.2.2.1, true, g.2.2.2.2.2.2.1, 2, [], [], [], [])) (.ret ([.str (putO (g.1, true, false, true, g.2.2.2.2.1, true, g.2.2.2.2.2.2.1, 2, [], [], [], []))], [])) .no) (.br (okPM (cutN (g.1, true, false, false, g.2.2.2.2.1, true, g.2.2.2.2.2.2.1, 2, g.2.2.2.2.2.2.2.2.1, an, [], []) 512).1) (.ret ([.str (putO (cutN (g.1, true, false, false, g.2.2.2.2.1, true, g.2.2.2.2.2.2.1, 2, g.2.2.2.2.2.2.2.2.1, an, [], []) 512).1)], [])) .no)) .no) .no) .no) .no) .no))) (.br (decide (g.2.2.2.2.2.2.1 < 0)) (.br (fits g.2.2.2.2.2.2.2.2.1.length 24) (.br (irC g.2.2.2.2.2.2.2.2.1 (↑g.2.2.2.2.2.2.2.2.1.length : Int) 0) (.br (fits an.length 40) (.br (List.isEmpty an && (decide ((↑an.length : Int) = (0 : Ty.den (Ty.int .i64))) && decide (0 = (0 : Ty.den (Ty.int .i64))))) (.br (okPM (g.1, true, false, false, g.2.2.2.2.1, true, 0, rc, g.2.2.2.2.2.2.2.2.1, an, [], []) && nrM (g.1, true, false, false, g.2.2.2.2.1, true, 0, rc, g.2.2.2.2.2.2.2.2.1, an, [], [])) (.br ((cutN (g.1, true, false, false, g.2.2.2.2.1, true, 0, rc, g.2.2.2.2.2.2.2.2.1, an, [], []) 512).2 != 0) (.br (okPM (g.1, true, false, true, g.2.2.2.2.1, true, 0, rc, [], [], [], [])) (.ret ([.str (putO (g.1, true, false, true, g.2.2.2.2.1, true, 0, rc, [], [], [], []))], [])) .no) (.br (okPM (cutN (g.1, true, false, false, g.2.2.2.2.1, true, 0, rc, g.2.2.2.2.2.2.2.2.1, an, [], []) 512).1) (.ret ([.str (putO (cutN (g.1, true, false, false, g.2.2.2.2.1, true, 0, rc, g.2.2.2.2.2.2.2.2.1, an, [], []) 512).1)], [])) .no)) .no) .no) .no) .no) .no) (.br (decide (g.2.2.2.2.2.2.1 > 15)) (.br (fits g.2.2.2.2.2.2.2.2.1.length 24) (.br (irC g.2.2.2.2.2.2.2.2.1 (↑g.2.2.2.2.2.2.2.2.1.length : Int) 0) (.br (fits an.length 40) (.br (List.isEmpty an && (decide ((↑an.length : Int) = (0 : Ty.den (Ty.int .i64))) && decide (0 = (0 : Ty.den (Ty.int .i64))))) (.br (okPM (g.1, true, false, false, g.2.2.2.2.1, true, 0, rc, g.2.2.2.2.2.2.2.2.1, an, [], []) && nrM (g.1, true, false, false, g.2.2.2.2.1, true, 0, rc, g.2.2.2.2.2.2.2.2.1, an, [], [])) (.br ((cutN (g.1, true, false, false, g.2.2.2.2.1, true, 0, rc, g.2.2.2.2.2.2.2.2.1, an, [], []) 512).2 != 0) (.br (okPM (g.1, true, false, true, g.2.2.2.2.1, true, 0, rc, [], [], [], [])) (.ret ([.str (putO (g.1, true, false, true, g.2.2.2.2.1, true, 0, rc, [], [], [], []))], [])) .no) (.br (okPM (cutN (g.1, true, false, false, g.2.2.2.2.1, true, 0, rc, g.2.2.2.2.2.2.2.2.1, an, [], []) 512).1) (.ret ([.str (putO (cutN (g.1, true, false, false, g.2.2.2.2.1, true, 0, rc, g.2.2.2.2.2.2.2.2.1, an, [], []) 512).1)], [])) .no)) .no) .no) .no) .no) .no) (.br (fits g.2.2.2.2.2.2.2.2.1.length 24) (.br (irC g.2.2.2.2.2.2.2.2.1 (↑g.2.2.2.2.2.2.2.2.1.length : Int) 0) (.br (fits an.length 40) (.br (List.isEmpty an && (decide ((↑an.length : Int) = (0 : Ty.den (Ty.int .i64))) && decide (0 = (0 : Ty.den (Ty.int .i64))))) (.br (okPM (g.1, true, false, false, g.2.2.2.2.1, true, g.2.2.2.2.2.2.1, rc, g.2.2.2.2.2.2.2.2.1, an, [], []) && nrM (g.1, true, false, false, g.2.2.2.2.1, true, g.2.2.2.2.2.2.1, rc, g.2.2.2.2.2.2.2.2.1, an, [], [])) (.br ((cutN (g.1, true, false, false, g.2.2.2.2.1, true, g.2.2.2.2.2.2.1, rc, g.2.2.2.2.2.2.2.2.1, an, [], []) 512).2 != 0) (.br (okPM (g.1, true, false, true, g.2.2.2.2.1, true, g.2.2.2.2.2.2.1, rc, [], [], [], [])) (.ret ([.str (putO (g.1, true, false, true, g.2.2.2.2.1, true, g.2.2.2.2.2.2.1, rc, [], [], [], []))], [])) .no) (.br (okPM (cutN (g.1, true, false, false, g.2.2.2.2.1, true, g.2.2.2.2.2.2.1, rc, g.2.2.2.2.2.2.2.2.1, an, [], []) 512).1) (.ret ([.str (putO (cutN (g.1, true, false, false, g.2.2.2.2.1, true, g.2.2.2.2.2.2.1, rc, g.2.2.2.2.2.2.2.2.1, an, [], []) 512).1)], [])) .no)) .no) .no) .no) .no) .no))))
def os30 : OSpec := { f := 30, sh := [.d MG true, .d (.int .i64) false, .d (.list RR) false], so := [], F := fun (g, rc, an, _) _ => t30 g rc an }
theorem fn30 (g : MGt) (rc : Int) (an : List RRt) : evC T0 (orcB [U4h, V4i, Q40] [os57, os61, Z4l, V4n]) (lpOf h30 0 (lsOf [])) c30 1000000 (V1 [AV.ofTy MG g true, .int .i64 rc, .list RR an] [] Try.f30.ntmps) (Z1 T0 false 0 Try.f30) = (t30 g rc an).get := by kernel_rfl
theorem ok30 : os30.Ok Try.prog := by
 refine J4 U2 tab0 (U0 (all_cons J54 (all_cons J4t (all_cons J3m all_nil))) (all_cons ok57 (all_cons ok61 (all_cons ok56r (all_cons ok60r all_nil))))) h30 (d := 0) (n0 := 0) (S := lsOf []) Try.func30 (by kernel_rfl) (c := c30) (by kernel_rfl) rfl (Z3 (by kernel_rfl)) (by omega) (by kernel_rfl) ?_
 intro x'' y'' q'' hq''
 obtain ⟨(g : MGt), (rc : Int), (an : List RRt), _⟩ := x''
 exact (fn30 g rc an).trans hq''
def fs30 : FSpec := fsT 30 [(MG, true), ((.int .i64), false), ((.list RR), false)] [(.str, false)] fun (g, rc, an, _) => t30 g rc an
theorem okf30 : fs30.Ok Try.prog := J7 fun x'' r'' hr'' => ok30 x'' () r'' hr''
theorem J3z (m : MGt) : (U8 m).length = 12 := rfl
theorem Z4g {n : Int} : n16C n = true ↔ 0 ≤ n ∧ n ≤ 65535 := by
 unfold n16C
 rw [Bool.and_eq_true, decide_eq_true_eq, decide_eq_true_eq]
theorem U39 (n : Int) : n16C (IntKind.wrap IntKind.u16 n) = true := Z4g.2 (by show 0 ≤ n % 65536 ∧ n % 65536 ≤ 65535; omega)
def q0M (m : MGt) : QQt := List.getD (mQ m) 0 ([], 0, 0)
def Zf (m : MGt) : Int :=
 bif m.2.2.2.2.2.2.1 != 0 then 4 else bif ((mQ m).length : Int) != 1 then 1 else bif decide (((mAn m).length : Int) > 0) then 1 else bif !m.2.2.2.2.1 then 5 else
 bif (q0M m).2.2 != 1 then 5 else bif (q0M m).2.1 == 0 then 4 else bif decide ((q0M m).2.1 ≥ 128) then 4 else 0
def Z4o : FSpec := fs72.like fun (m, _) => .ret (Zf m, ())
theorem J4z : Z4o.Ok Try.prog := by
 refine Z4 okf72 _ ?_
 rintro ⟨(m : MGt), _⟩ y h
 cases h
 refine V3 (vs := [.int .i64 (Zf m)]) rfl rfl (Tr.get_of_all ?_)
 show (t72 m).all _
 unfold t72
 have e : ∀ v : Int, Zf m = v → Tr.all (fun r : Res => r = ([.int .i64 (Zf m)], [])) (Tr.ret ([.int .i64 v], [])) := fun v hv => Tr.all_ret (by rw [hv])
 refine Tr.all_br (fun c1 => e _ ?_) (fun c1 => Tr.all_br (fun c2 => e _ ?_) (fun c2 => Tr.all_br (fun c3 => e _ ?_) (fun c3 => Tr.all_br (fun c4 => e _ ?_) (fun c4 => ?_))))
 · unfold Zf; rw [c1]; rfl
 · unfold Zf mQ; rw [c1, c2]; rfl
 · unfold Zf mQ mAn; rw [c1, c2, c3]; rfl
 · unfold Zf mQ mAn; rw [c1, c2, c3, c4]; rfl
 · have hl : (0 : Int) < ((mQ m).length : Int) := by
     have c2 : (!(((mQ m).length : Int) == 1)) = false := c2
     cases hb : (((mQ m).length : Int) == 1) with
     | true => have := eq_of_beq hb; omega
     | false => rw [hb] at c2; cases c2
   refine Tr.all_t (X0 hl) (Tr.all_br (fun c5 => e _ ?_) (fun c5 => Tr.all_t (X0 hl) (Tr.all_br (fun c6 => e _ ?_) (fun c6 => Tr.all_t (X0 hl) (Tr.all_br (fun c7 => e _ ?_) (fun c7 => e _ ?_))))))
   · unfold Zf mAn mQ; rw [c1, c2, c3, c4, show ((q0M m).2.2 != 1) = true from c5]; rfl
   · unfold Zf mAn mQ; rw [c1, c2, c3, c4, show ((q0M m).2.2 != 1) = false from c5, show ((q0M m).2.1 == 0) = true from c6]; rfl
   · unfold Zf mAn mQ; rw [c1, c2, c3, c4, show ((q0M m).2.2 != 1) = false from c5, show ((q0M m).2.1 == 0) = false from c6, show decide ((q0M m).2.1 ≥ 128) = true from c7]; rfl
   · unfold Zf mAn mQ; rw [c1, c2, c3, c4, show ((q0M m).2.2 != 1) = false from c5, show ((q0M m).2.1 == 0) = false from c6, show decide ((q0M m).2.1 ≥ 128) = false from c7]; rfl
def J2 (s : List UInt8) : MGt × (Int × Bool) :=
 bif (hdV s).2 != 0 then (noM, 0, false) else bif (hdV s).1.2.1 then (noM, 0, false) else bif (tkV6 s).2 != 0 then ((hdV s).1, 1, true) else ((tkV6 s).1, Zf (tkV6 s).1, true)
def t35w (s : List UInt8) : Tr Res := .br (decide (List.length s ≤ 100000000)) (.br ((hdV s).2 != 0) (.ret ([.agg [.int .u16 0, .bool false, .bool false, .bool false, .bool false, .bool false, .int .i64 0, .int .i64 0, .list QQ [], .list RR [], .list RR [], .list RR []], .int .i64 0, .bool false], [])) (.br (hdV s).1.2.1 (.ret ([.agg [.int .u16 0, .bool false, .bool false, .bool false, .bool false, .bool false, .int .i64 0, .int .i64 0, .list QQ [], .list RR [], .list RR [], .list RR []], .int .i64 0, .bool false], [])) (.br (smS s) (.br ((tkV6 s).2 != 0) (.ret ([.agg [.int .u16 (hdV s).1.1, .bool (hdV s).1.2.1, .bool (hdV s).1.2.2.1, .bool (hdV s).1.2.2.2.1, .bool (hdV s).1.2.2.2.2.1, .bool (hdV s).1.2.2.2.2.2.1, .int .i64 (hdV s).1.2.2.2.2.2.2.1, .int .i64 (hdV s).1.2.2.2.2.2.2.2.1, .list QQ (hdV s).1.2.2.2.2.2.2.2.2.1, .list RR (hdV s).1.2.2.2.2.2.2.2.2.2.1, .list RR (hdV s).1.2.2.2.2.2.2.2.2.2.2.1, .list RR (hdV s).1.2.2.2.2.2.2.2.2.2.2.2], .int .i64 1, .bool true], [])) (.ret ([.agg [.int .u16 (tkV6 s).1.1, .bool (tkV6 s).1.2.1, .bool (tkV6 s).1.2.2.1, .bool (tkV6 s).1.2.2.2.1, .bool (tkV6 s).1.2.2.2.2.1, .bool (tkV6 s).1.2.2.2.2.2.1, .int .i64 (tkV6 s).1.2.2.2.2.2.2.1, .int .i64 (tkV6 s).1.2.2.2.2.2.2.2.1, .list QQ (tkV6 s).1.2.2.2.2.2.2.2.2.1, .list RR (tkV6 s).1.2.2.2.2.2.2.2.2.2.1, .list RR (tkV6 s).1.2.2.2.2.2.2.2.2.2.2.1, .list RR (tkV6 s).1.2.2.2.2.2.2.2.2.2.2.2], .int .i64 (Zf (tkV6 s).1), .bool true], []))) .no))) .no
def os35w : OSpec := { f := 35, sh := [.d .str false], so := [], F := fun (s, _) _ => t35w s }
theorem fn35w (s : List UInt8) : evC T0 (orcB [X4p, Z40, Z4o] []) (lpOf h35 0 (lsOf [])) c35 1000000 (V1 [.str s] [] Try.f35.ntmps) (Z1 T0 false 0 Try.f35) = (t35w s).get := by kernel_rfl
theorem ok35w : os35w.Ok Try.prog := by
 refine J4 U2 tab0 (U0 (all_cons Q53 (all_cons X40 (all_cons J4z all_nil))) all_nil) h35 (d := 0) (n0 := 0) (S := lsOf []) Try.func35 (by kernel_rfl) (c := c35) (by kernel_rfl) rfl (Z3 (by kernel_rfl)) (by omega) (by kernel_rfl) ?_
 intro x'' y'' q'' hq''
 obtain ⟨(s : List UInt8), _⟩ := x''
 exact (fn35w s).trans hq''
def V4h : FSpec := fsT 35 [(.str, false)] [(MG, true), ((.int .i64), false), (.bool, false)] fun (s, _) => t35w s
theorem V52 : V4h.Ok Try.prog := J7 fun x'' r'' hr'' => ok35w x'' () r'' hr''
def V4o : FSpec := V4h.like fun (s, _) => .on (smS s) ((J2 s).1, (J2 s).2.1, (J2 s).2.2, ())
theorem V4t : V4o.Ok Try.prog := by
 refine Z4 V52 _ ?_
 rintro ⟨(s : List UInt8), _⟩ y h
 obtain ⟨hc, rfl⟩ := Tr.get_on h
 have hc : smS s = true := hc
 refine V3 (vs := [AV.ofTy MG (J2 s).1 true, .int .i64 (J2 s).2.1, .bool (J2 s).2.2]) rfl rfl (Tr.get_of_all ?_)
 show (t35w s).all _
 unfold t35w
 refine Tr.all_t hc (Tr.all_br (fun c1 => ?_) (fun c1 => Tr.all_br (fun c2 => ?_) (fun c2 => Tr.all_t hc (Tr.all_br (fun c3 => ?_) (fun c3 => ?_)))))
 · have : J2 s = (noM, 0, false) := by unfold J2; rw [c1]; rfl
   rw [this]; exact Tr.all_ret rfl
 · have : J2 s = (noM, 0, false) := by unfold J2; rw [c1, c2]; rfl
   rw [this]; exact Tr.all_ret rfl
 · have : J2 s = ((hdV s).1, 1, true) := by unfold J2; rw [c1, c2, c3]; rfl
   rw [this]; exact Tr.all_ret rfl
 · have : J2 s = ((tkV6 s).1, Zf (tkV6 s).1, true) := by unfold J2; rw [c1, c2, c3]; rfl
   rw [this]; exact Tr.all_ret rfl
def trcV (m : MGt) (rc : Int) : MGt := (m.1, true, false, true, m.2.2.2.2.1, true, m.2.2.2.2.2.2.1, rc, [], [], [], [])
def J8 (m : MGt) (rc : Int) : List UInt8 := bif decide (((bytM (Xd m rc)).length : Int) ≤ 512) then bytM (Xd m rc) else bytM (trcV m rc)
def rsK (m : MGt) (rc : Int) : Bool := (decide (0 ≤ rc) && decide (rc ≤ 15)) && ((decide (0 ≤ m.2.2.2.2.2.2.1) && decide (m.2.2.2.2.2.2.1 ≤ 15)) && (n16C m.1 && (decide ((mQ m).length ≤ 1500) && (mQ m).all fun q => mayV q.1 && rngQ q)))
theorem Q4u {m : MGt} {rc : Int} (h : rsK m rc = true) : (0 ≤ rc ∧ rc ≤ 15) ∧ (0 ≤ m.2.2.2.2.2.2.1 ∧ m.2.2.2.2.2.2.1 ≤ 15) ∧ n16C m.1 = true ∧ (mQ m).length ≤ 1500 ∧ (∀ q ∈ mQ m, mayV q.1 = true ∧ rngQ q = true) := by
 simp only [rsK, Bool.and_eq_true, decide_eq_true_eq, List.all_eq_true] at h
 exact ⟨h.1, h.2.1, h.2.2.1, h.2.2.2.1, h.2.2.2.2⟩
theorem U2y {q : QQt} (h : mayV q.1 = true) : bigQ q = true := by
 obtain ⟨_, h2, _⟩ := Vg.1 h
 unfold bigQ bigS
 exact decide_eq_true (by omega)
theorem Q0t {i : Int} {b1 b2 b3 b4 b5 : Bool} {op rc : Int} {Q : List QQt} (hi : n16C i = true) (hl : Q.length ≤ 1500) (hq : ∀ q ∈ Q, mayV q.1 = true ∧ rngQ q = true) : okPM (i, b1, b2, b3, b4, b5, op, rc, Q, [], [], []) = true := by
 refine Z0h.2 ⟨?_, ?_, ?_⟩
 · show (okQ Q && (okL [] && (okL [] && okL []))) = true
   unfold okQ
   rw [Nat.ble_eq_true_of_le (by omega), List.all_eq_true.2 fun q h => U2y (hq q h).1]
   rfl
 · show (n16C i && (Q.all rngQ && _)) = true
   rw [hi, List.all_eq_true.2 fun q h => (hq q h).2]
   rfl
 · show (decide (Q.length ≤ 1500) && _) = true
   rw [decide_eq_true hl]
   rfl
theorem J0b {i : Int} {b1 b2 b3 b4 b5 : Bool} {op rc : Int} {Q : List QQt} (ho : 0 ≤ op ∧ op ≤ 15) (hr : 0 ≤ rc ∧ rc ≤ 15) (hl : Q.length ≤ 1500) (hq : ∀ q ∈ Q, mayV q.1 = true) : mayM (i, b1, b2, b3, b4, b5, op, rc, Q, [], [], []) = true := by
 show ((decide (0 ≤ op) && (decide (op ≤ 15) && (decide (0 ≤ rc) && decide (rc ≤ 15)))) && (U0f Q && (Z03 [] && (Z03 [] && Z03 [])))) = true
 have h2 : Z03 [] = true := rfl
 have h3 : U0f Q = true := by
  unfold U0f
  rw [show Q.any noQ = false from ?_, decide_eq_true (show Q.length ≤ 65535 by omega)]
  · rfl
  · cases hb : Q.any noQ with
    | false => rfl
    | true =>
      obtain ⟨q, hx, hn⟩ := List.any_eq_true.1 hb
      unfold noQ at hn
      rw [hq q hx] at hn
      cases hn
 rw [h2, h3, X0 ho.1, X0 ho.2, X0 hr.1, X0 hr.2]
 rfl
theorem Z0d {m : MGt} (hm : mayM m = true) (hl : (bytM m).length ≤ 65535) : (putV m).1 = bytM m := by
 unfold putV
 rw [hm, cond_true, Q0 (show ¬ ((bytM m).length : Int) > 65535 by omega)]
 rfl
def Q4q : FSpec := fs30.like fun (m, rc, an, _) => .on (rsK m rc && List.isEmpty an) (J8 m rc, ())
theorem V4x : Q4q.Ok Try.prog := by
 refine Z4 okf30 _ ?_
 rintro ⟨(m : MGt), (rc : Int), (an : List RRt), _⟩ y h
 obtain ⟨hc, rfl⟩ := Tr.get_on h
 have hc2 : (rsK m rc && List.isEmpty an) = true := hc
 rw [Bool.and_eq_true, List.isEmpty_iff] at hc2
 obtain ⟨hc3, rfl⟩ := hc2
 obtain ⟨hr, ho, hi, hl, hq⟩ := Q4u hc3
 have hqm : ∀ q ∈ mQ m, mayV q.1 = true := fun q h => (hq q h).1
 refine V3 (vs := [.str (J8 m rc)]) rfl rfl (Tr.get_of_all ?_)
 show (t30 m rc []).all _
 unfold t30
 have ir : irC (mQ m) ((mQ m).length : Int) 0 = true := by
  unfold irC
  rw [Nat.ble_eq_true_of_le (by omega), List.all_eq_true.2 fun q h => U2y (hqm q h), List.all_eq_true.2 hqm, X0 rfl]
  rfl
 have okA : okPM (Xd m rc) = true := Q0t hi hl hq
 have myA : mayM (Xd m rc) = true := J0b ho hr hl hqm
 have okT' : okPM (trcV m rc) = true := Q0t hi (Nat.zero_le _) (fun q h => by cases h)
 have myT : mayM (trcV m rc) = true := J0b ho hr (Nat.zero_le _) (fun q h => by cases h)
 have lnT : (bytM (trcV m rc)).length = 12 := rfl
 refine Tr.all_f (Q0 (by omega)) (Tr.all_f (Q0 (by omega)) (Tr.all_f (Q0 (by omega)) (Tr.all_f (Q0 (by omega)) ?_)))
 refine Tr.all_t (X7 (show (mQ m).length * 24 ≤ _ by omega) (show (mQ m).length ≤ _ by omega)) (Tr.all_t ir (Tr.all_t rfl (Tr.all_t rfl (Tr.all_t (show (okPM (Xd m rc) && nrM (Xd m rc)) = true by rw [okA]; rfl) ?_))))
 by_cases h5 : ((bytM (Xd m rc)).length : Int) ≤ 512
 · have hcut : cutN (Xd m rc) 512 = (Xd m rc, 0) := by unfold cutN; rw [myA, show limN 512 = 512 from rfl, X0 h5]; rfl
   have hresp : J8 m rc = bytM (Xd m rc) := by unfold J8; rw [X0 h5]; rfl
   refine Tr.all_f (show (Prod.snd (cutN (Xd m rc) 512) != 0) = false by rw [hcut]; rfl) (Tr.all_t (show okPM (Prod.fst (cutN (Xd m rc) 512)) = true by rw [hcut]; exact okA) (Tr.all_ret ?_))
   rw [hresp, ← Z0d myA (by omega), ← Jy]
   show ([AV.str (putO (Prod.fst (cutN (Xd m rc) 512)))], []) = _
   rw [hcut]
 · have hcut : cutN (Xd m rc) 512 = (noM, 3) := by unfold cutN; rw [myA, show limN 512 = 512 from rfl, Q0 h5]; rfl
   have hresp : J8 m rc = bytM (trcV m rc) := by unfold J8; rw [Q0 h5]; rfl
   refine Tr.all_t (show (Prod.snd (cutN (Xd m rc) 512) != 0) = true by rw [hcut]; rfl) (Tr.all_t okT' (Tr.all_ret ?_))
   rw [hresp, ← Z0d myT (by omega), ← Jy]
   rfl
def V4l : OSpec := { f := 27, sh := [], so := [], F := fun _ _ => .ret ([.bool true], []) }
theorem ok27d : V4l.Ok Try.prog := by
 rintro _ _ r h
 cases h
 exact V51
def mK (q : QQt) (i : Int) : MGt := (i, false, false, false, true, false, 0, 0, [q], [], [], [])
def sK (q : QQt) (i : Int) : List UInt8 := putO (mK q i)
def fK (q : QQt) (i : Int) : List UInt8 := J8 (J2 (sK q i)).1 0
def t8 (q : QQt) (qi how : Int) : Tr Res := .br (okPM (qi, false, false, false, true, false, 0, 0, [q], [], [], [])) (.br ((putV (qi, false, false, false, true, false, 0, 0, [q], [], [], [])).2 != 0) (.ret ([.bool true], [])) (.br (q.2.2 != 1) (.ret ([.bool true], [])) (.br (q.2.1 == 0) (.ret ([.bool true], [])) (.br (decide (q.2.1 > 127)) (.ret ([.bool true], [])) (.br (smS (sK q qi)) (.br (rsK (J2 (sK q qi)).1 0 && true) (.br (smS (J8 (J2 (sK q qi)).1 0)) (.br (Int.tmod how 5 == 0) (.br (okPM (qi, true, false, false, true, false, 0, 0, [q], [], [], [])) (.br (smS (putO (qi, true, false, false, true, false, 0, 0, [q], [], [], []))) (.br (J2 (sK q qi)).2.2 (.br ((J2 (sK q qi)).2.1 == 0) (.br (smM (J2 (sK q qi)).1) (.br (X1n (J2 (sK q qi)).1 (qi, false, false, false, true, false, 0, 0, [q], [], [], [])) (.br ((tkV6 (J8 (J2 (sK q qi)).1 0)).2 == 0) (.br ((↑(List.length (tkV6 (J8 (J2 (sK q qi)).1 0)).1.2.2.2.2.2.2.2.2.1) : Int) == 1) (.br (decide (0 < (↑(List.length (tkV6 (J8 (J2 (sK q qi)).1 0)).1.2.2.2.2.2.2.2.2.1) : Int))) (.br ((List.getD (tkV6 (J8 (J2 (sK q qi)).1 0)).1.2.2.2.2.2.2.2.2.1 (Int.toNat 0) (Ty.dflt QQ)).1 == q.1 && ((List.getD (tkV6 (J8 (J2 (sK q qi)).1 0)).1.2.2.2.2.2.2.2.2.1 (Int.toNat 0) (Ty.dflt QQ)).2.1 == q.2.1 && ((List.getD (tkV6 (J8 (J2 (sK q qi)).1 0)).1.2.2.2.2.2.2.2.2.1 (Int.toNat 0) (Ty.dflt QQ)).2.2 == q.2.2 && true))) (.br ((tkV6 (J8 (J2 (sK q qi)).1 0)).1.1 == qi) (.br ((J2 (putO (qi, true, false, false, true, false, 0, 0, [q], [], [], []))).2.2 == !true) (.ret ([.bool ((J2 (putO (qi, true, false, false, true, false, 0, 0, [q], [], [], []))).2.1 == 0)], [])) (.ret ([.bool false], []))) (.ret ([.bool false], []))) (.ret ([.bool false], []))) .no) (.ret ([.bool false], []))) (.ret ([.bool false], []))) (.ret ([.bool false], []))) .no) (.ret ([.bool false], []))) (.ret ([.bool false], []))) .no) .no) (.br (Int.tmod how 5 == 1) (.br (okPM (qi, false, false, false, true, false, IntKind.wrap .i64 (1 + Int.tmod (IntKind.wrap .i64 how) 15), 0, [q], [], [], [])) (.br (smS (putO (qi, false, false, false, true, false, IntKind.wrap .i64 (1 + Int.tmod (IntKind.wrap .i64 how) 15), 0, [q], [], [], []))) (.br (J2 (sK q qi)).2.2 (.br ((J2 (sK q qi)).2.1 == 0) (.br (smM (J2 (sK q qi)).1) (.br (X1n (J2 (sK q qi)).1 (qi, false, false, false, true, false, 0, 0, [q], [], [], [])) (.br ((tkV6 (J8 (J2 (sK q qi)).1 0)).2 == 0) (.br ((↑(List.length (tkV6 (J8 (J2 (sK q qi)).1 0)).1.2.2.2.2.2.2.2.2.1) : Int) == 1) (.br (decide (0 < (↑(List.length (tkV6 (J8 (J2 (sK q qi)).1 0)).1.2.2.2.2.2.2.2.2.1) : Int))) (.br ((List.getD (tkV6 (J8 (J2 (sK q qi)).1 0)).1.2.2.2.2.2.2.2.2.1 (Int.toNat 0) (Ty.dflt QQ)).1 == q.1 && ((List.getD (tkV6 (J8 (J2 (sK q qi)).1 0)).1.2.2.2.2.2.2.2.2.1 (Int.toNat 0) (Ty.dflt QQ)).2.1 == q.2.1 && ((List.getD (tkV6 (J8 (J2 (sK q qi)).1 0)).1.2.2.2.2.2.2.2.2.1 (Int.toNat 0) (Ty.dflt QQ)).2.2 == q.2.2 && true))) (.br ((tkV6 (J8 (J2 (sK q qi)).1 0)).1.1 == qi) (.br ((J2 (putO (qi, false, false, false, true, false, IntKind.wrap .i64 (1 + Int.tmod (IntKind.wrap .i64 how) 15), 0, [q], [], [], []))).2.2 == !false) (.ret ([.bool ((J2 (putO (qi, false, false, false, true, false, IntKind.wrap .i64 (1 + Int.tmod (IntKind.wrap .i64 how) 15), 0, [q], [], [], []))).2.1 == 4)], [])) (.ret ([.bool false], []))) (.ret ([.bool false], []))) (.ret ([.bool false], []))) .no) (.ret ([.bool false], []))) (.ret ([.bool false], []))) (.ret ([.bool false], []))) .no) (.ret ([.bool false], []))) (.ret ([.bool false], []))) .no) .no) (.br (Int.tmod how 5 == 2) (.br (okPM (qi, false, false, false, true, false, 0, 0, [], [], [], [])) (.br (smS (putO (qi, false, false, false, true, false, 0, 0, [], [], [], []))) (.br (J2 (sK q qi)).2.2 (.br ((J2 (sK q qi)).2.1 == 0) (.br (smM (J2 (sK q qi)).1) (.br (X1n (J2 (sK q qi)).1 (qi, false, false, false, true, false, 0, 0, [q], [], [], [])) (.br ((tkV6 (J8 (J2 (sK q qi)).1 0)).2 == 0) (.br ((↑(List.length (tkV6 (J8 (J2 (sK q qi)).1 0)).1.2.2.2.2.2.2.2.2.1) : Int) == 1) (.br (decide (0 < (↑(List.length (tkV6 (J8 (J2 (sK q qi)).1 0)).1.2.2.2.2.2.2.2.2.1) : Int))) (.br ((List.getD (tkV6 (J8 (J2 (sK q qi)).1 0)).1.2.2.2.2.2.2.2.2.1 (Int.toNat 0) (Ty.dflt QQ)).1 == q.1 && ((List.getD (tkV6 (J8 (J2 (sK q qi)).1 0)).1.2.2.2.2.2.2.2.2.1 (Int.toNat 0) (Ty.dflt QQ)).2.1 == q.2.1 && ((List.getD (tkV6 (J8 (J2 (sK q qi)).1 0)).1.2.2.2.2.2.2.2.2.1 (Int.toNat 0) (Ty.dflt QQ)).2.2 == q.2.2 && true))) (.br ((tkV6 (J8 (J2 (sK q qi)).1 0)).1.1 == qi) (.br ((J2 (putO (qi, false, false, false, true, false, 0, 0, [], [], [], []))).2.2 == !false) (.ret ([.bool ((J2 (putO (qi, false, false, false, true, false, 0, 0, [], [], [], []))).2.1 == 1)], [])) (.ret ([.bool false], []))) (.ret ([.bool false], []))) (.ret ([.bool false], []))) .no) (.ret ([.bool false], []))) (.ret ([.bool false], []))) (.ret ([.bool false], []))) .no) (.ret ([.bool false], []))) (.ret ([.bool false], []))) .no) .no) (.br (Int.tmod how 5 == 3) (.br (okPM (qi, false, false, false, false, false, 0, 0, [q], [], [], [])) (.br (smS (putO (qi, false, false, false, false, false, 0, 0, [q], [], [], []))) (.br (J2 (sK q qi)).2.2 (.br ((J2 (sK q qi)).2.1 == 0) (.br (smM (J2 (sK q qi)).1) (.br (X1n (J2 (sK q qi)).1 (qi, false, false, false, true, false, 0, 0, [q], [], [], [])) (.br ((tkV6 (J8 (J2 (sK q qi)).1 0)).2 == 0) (.br ((↑(List.length (tkV6 (J8 (J2 (sK q qi)).1 0)).1.2.2.2.2.2.2.2.2.1) : Int) == 1) (.br (decide (0 < (↑(List.length (tkV6 (J8 (J2 (sK q qi)).1 0)).1.2.2.2.2.2.2.2.2.1) : Int))) (.br ((List.getD (tkV6 (J8 (J2 (sK q qi)).1 0)).1.2.2.2.2.2.2.2.2.1 (Int.toNat 0) (Ty.dflt QQ)).1 == q.1 && ((List.getD (tkV6 (J8 (J2 (sK q qi)).1 0)).1.2.2.2.2.2.2.2.2.1 (Int.toNat 0) (Ty.dflt QQ)).2.1 == q.2.1 && ((List.getD (tkV6 (J8 (J2 (sK q qi)).1 0)).1.2.2.2.2.2.2.2.2.1 (Int.toNat 0) (Ty.dflt QQ)).2.2 == q.2.2 && true))) (.br ((tkV6 (J8 (J2 (sK q qi)).1 0)).1.1 == qi) (.br ((J2 (putO (qi, false, false, false, false, false, 0, 0, [q], [], [], []))).2.2 == !false) (.ret ([.bool ((J2 (putO (qi, false, false, false, false, false, 0, 0, [q], [], [], []))).2.1 == 5)], [])) (.ret ([.bool false], []))) (.ret ([.bool false], []))) (.ret ([.bool false], []))) .no) (.ret ([.bool false], []))) (.ret ([.bool false], []))) (.ret ([.bool false], []))) .no) (.ret ([.bool false], []))) (.ret ([.bool false], []))) .no) .no) (.br (okPM (qi, false, false, false, true, false, 0, 0, [(q.1, q.2.1, IntKind.wrap .u16 (2 + IntKind.wrap .u16 how))], [], [], [])) (.br (smS (putO (qi, false, false, false, true, false, 0, 0, [(q.1, q.2.1, IntKind.wrap .u16 (2 + IntKind.wrap .u16 how))], [], [], []))) (.br (J2 (sK q qi)).2.2 (.br ((J2 (sK q qi)).2.1 == 0) (.br (smM (J2 (sK q qi)).1) (.br (X1n (J2 (sK q qi)).1 (qi, false, false, false, true, false, 0, 0, [q], [], [], [])) (.br ((tkV6 (J8 (J2 (sK q qi)).1 0)).2 == 0) (.br ((↑(List.length (tkV6 (J8 (J2 (sK q qi)).1 0)).1.2.2.2.2.2.2.2.2.1) : Int) == 1) (.br (decide (0 < (↑(List.length (tkV6 (J8 (J2 (sK q qi)).1 0)).1.2.2.2.2.2.2.2.2.1) : Int))) (.br ((List.getD (tkV6 (J8 (J2 (sK q qi)).1 0)).1.2.2.2.2.2.2.2.2.1 (Int.toNat 0) (Ty.dflt QQ)).1 == q.1 && ((List.getD (tkV6 (J8 (J2 (sK q qi)).1 0)).1.2.2.2.2.2.2.2.2.1 (Int.toNat 0) (Ty.dflt QQ)).2.1 == q.2.1 && ((List.getD (tkV6 (J8 (J2 (sK q qi)).1 0)).1.2.2.2.2.2.2.2.2.1 (Int.toNat 0) (Ty.dflt QQ)).2.2 == q.2.2 && true))) (.br ((tkV6 (J8 (J2 (sK q qi)).1 0)).1.1 == qi) (.br ((J2 (putO (qi, false, false, false, true, false, 0, 0, [(q.1, q.2.1, IntKind.wrap .u16 (2 + IntKind.wrap .u16 how))], [], [], []))).2.2 == !false) (.ret ([.bool ((J2 (putO (qi, false, false, false, true, false, 0, 0, [(q.1, q.2.1, IntKind.wrap .u16 (2 + IntKind.wrap .u16 how))], [], [], []))).2.1 == 5)], [])) (.ret ([.bool false], []))) (.ret ([.bool false], []))) (.ret ([.bool false], []))) .no) (.ret ([.bool false], []))) (.ret ([.bool false], []))) (.ret ([.bool false], []))) .no) (.ret ([.bool false], []))) (.ret ([.bool false], []))) .no) .no))))) .no) .no) .no))))) .no
def os8 : OSpec := { f := 8, sh := [.d QQ true, .d (.int .u16) false, .d (.int .u8) false], so := [], F := fun (q, qi, how, _) _ => t8 q qi how }
theorem fn8 (q : QQt) (qi how : Int) : evC T8 (orcB [Q40, V4o, Q4q, Z40, U4j] [V4l]) (lpOf h8 0 (lsOf [])) c8 1000000 (V1 [AV.ofTy QQ q true, .int .u16 qi, .int .u8 how] [] Try.f8.ntmps) (Z1 T8 false 0 Try.f8) = (t8 q qi how).get := by kernel_rfl
theorem ok8 : os8.Ok Try.prog := by
 refine J4 U2 (U3u tab0 v8 u8) (U0 (all_cons J3m (all_cons V4t (all_cons V4x (all_cons X40 (all_cons V4v all_nil))))) (all_cons ok27d all_nil)) h8 (d := 0) (n0 := 0) (S := lsOf []) Try.func8 (by kernel_rfl) (c := c8) (by kernel_rfl) rfl (Z3 (by kernel_rfl)) (by omega) (by kernel_rfl) ?_
 intro x'' y'' q'' hq''
 obtain ⟨(q : QQt), (qi : Int), (how : Int), _⟩ := x''
 exact (fn8 q qi how).trans hq''
theorem Xu {i : Int} {b1 b2 b3 b4 b5 : Bool} {op rc : Int} {q : QQt} (h : mayV q.1 = true) : (bytM (i, b1, b2, b3, b4, b5, op, rc, [q], [], [], [])).length ≤ 271 := by
 obtain ⟨h1, h2, _⟩ := Vg.1 h
 have h3 := (Q07 _ q.1 (U8 (i, b1, b2, b3, b4, b5, op, rc, [q], [], [], [])) [] rfl h1).1
 rw [J3z] at h3
 show ((J3 q.1 (U8 (i, b1, b2, b3, b4, b5, op, rc, [q], [], [], [])) []).1 ++ qB q).length ≤ 271
 rw [List.length_append]
 have : (qB q).length = 4 := rfl
 omega
theorem Z07 {m : MGt} (h : U04 m = true) : J2 (bytM m) = bif m.2.1 then (noM, 0, false) else (m, Zf m, true) := by
 have h1 := U2z m h
 have h2 := (X2i h).1
 have h3 := (Q1j h []).1
 rw [List.append_nil] at h3
 have h4 : hdV (bytM m) = (hdM (bytM m), 0) := by
  unfold hdV
  rw [Q0 (show ¬ ((bytM m).length : Int) < 12 by omega)]
  rfl
 unfold J2
 rw [h4, h3, h2]
 show (bif m.2.1 then _ else _) = _
 cases m.2.1 <;> rfl
theorem X30 {q : QQt} (h : mayV q.1 = true) : ∀ x ∈ [q], mayV x.1 = true := fun x hx => by rw [List.mem_singleton.1 hx]; exact h
theorem U2a {q : QQt} (h : mayV q.1 = true) (h2 : rngQ q = true) : ∀ x ∈ [q], mayV x.1 = true ∧ rngQ x = true := fun x hx => by rw [List.mem_singleton.1 hx]; exact ⟨h, h2⟩
theorem Z45 {i : Int} {q : QQt} {rd : Bool} (hi : n16C i = true) (hq : rngQ q = true) (hb : q.1.length ≤ 1048576) : okPM (i, false, false, false, rd, false, 0, 0, [q], [], [], []) = true := by
 refine Z0h.2 ⟨?_, ?_, rfl⟩
 · show (okQ [q] && (okL [] && (okL [] && okL []))) = true
   have : bigQ q = true := by unfold bigQ bigS; exact decide_eq_true (by omega)
   unfold okQ
   rw [List.all_cons, this]
   rfl
 · show (n16C i && ([q].all rngQ && _)) = true
   rw [hi, List.all_cons, hq]
   rfl
set_option maxHeartbeats 8000000 in
theorem Z1n (q : QQt) (qi how : Int) (h1 : okT QQ q) (h2 : okT (.int .u16) qi) (h3 : okT (.int .u8) how) (hb : q.1.length ≤ 1048576) : (t8 q qi how).all fun r => r = ([.bool true], []) := by
 unfold t8
 have hi := U24 h2
 have hqr := Q3z h1
 have hh : 0 ≤ how ∧ how ≤ 255 := by simpa [okT, Lit.wf, IntKind.min, IntKind.max, IntKind.signed, IntKind.bits] using h3
 refine Tr.all_t (Z45 hi hqr hb) ?_
 cases hm : mayV q.1 with
 | false =>
   have : putV (qi, false, false, false, true, false, (0 : Int), (0 : Int), [q], [], [], []) = ([], 1) := by
    unfold putV
    have h3 : mayM (qi, false, false, false, true, false, (0 : Int), (0 : Int), [q], [], [], []) = false := by
     show (mayN (qi, false, false, false, true, false, (0 : Int), (0 : Int), [q], [], [], []) && (U0f [q] && _)) = false
     have : U0f [q] = false := by unfold U0f noQ; rw [List.any_cons, hm]; rfl
     rw [this, Bool.false_and, Bool.and_false]
    rw [h3]
    rfl
   exact Tr.all_t (by rw [this]; rfl) (Tr.all_ret rfl)
 | true =>
 have one1 := X30 hm
 have one2 := U2a hm hqr
 have my0 : mayM (qi, false, false, false, true, false, (0 : Int), (0 : Int), [q], [], [], []) = true := J0b (by omega) (by omega) (by simp) one1
 have ok0 : okPM (qi, false, false, false, true, false, (0 : Int), (0 : Int), [q], [], [], []) = true := Q0t hi (by simp) one2
 have ln0 := Xu (i := qi) (b1 := false) (b2 := false) (b3 := false) (b4 := true) (b5 := false) (op := 0) (rc := 0) hm
 have pv : (putV (qi, false, false, false, true, false, (0 : Int), (0 : Int), [q], [], [], [])).2 = 0 := by
  unfold putV
  rw [my0, cond_true, Q0 (show ¬ ((bytM (qi, false, false, false, true, false, (0 : Int), (0 : Int), [q], [], [], [])).length : Int) > 65535 by omega)]
  rfl
 refine Tr.all_f (by rw [show Prod.snd (putV (qi, false, false, false, true, false, (0 : Int), (0 : Int), [q], [], [], [])) = 0 from pv]; rfl) (Tr.all_br (fun _ => Tr.all_ret rfl) (fun c1 => Tr.all_br (fun _ => Tr.all_ret rfl) (fun c2 => Tr.all_br (fun _ => Tr.all_ret rfl) (fun c3 => ?_))))
 have e0 : sK q qi = bytM (mK q qi) := by show putO (mK q qi) = _; rw [Jy]; exact Z0d my0 (by show (bytM (qi, false, false, false, true, false, (0 : Int), (0 : Int), [q], [], [], [])).length ≤ 65535; omega)
 have g0 : U04 (mK q qi) = true := Ur ok0 my0
 have w0 : Zf (mK q qi) = 0 := by
  unfold Zf
  rw [show ((q0M (mK q qi)).2.2 != 1) = false from c1, show ((q0M (mK q qi)).2.1 == 0) = false from c2, Q0 (show ¬ (q0M (mK q qi)).2.1 ≥ 128 from fun h => of_decide_eq_false c3 (by have h : q.2.1 ≥ 128 := h; show q.2.1 > 127; omega))]
  rfl
 have p0 : J2 (sK q qi) = (mK q qi, 0, true) := by
  rw [e0, Z07 g0, w0]
  rfl
 have hS0 : smS (sK q qi) = true := by rw [e0]; exact decide_eq_true (Nat.le_trans ln0 (by decide))
 have hR0 : rsK (mK q qi) 0 = true := by
  show ((decide ((0 : Int) ≤ 0) && decide ((0 : Int) ≤ 15)) && ((decide ((0 : Int) ≤ 0) && decide ((0 : Int) ≤ 15)) && (n16C qi && (decide ([q].length ≤ 1500) && [q].all fun q => mayV q.1 && rngQ q)))) = true
  rw [hi, List.all_cons, hm, hqr]
  rfl
 have my1 : mayM (Xd (mK q qi) 0) = true := J0b (show (0 : Int) ≤ 0 ∧ (0 : Int) ≤ 15 by omega) (by omega) (show ([q] : List QQt).length ≤ 1500 by simp) one1
 have ok1 : okPM (Xd (mK q qi) 0) = true := Q0t hi (show ([q] : List QQt).length ≤ 1500 by simp) one2
 have ln1 : (bytM (Xd (mK q qi) 0)).length ≤ 271 := Xu hm
 have eR : J8 (mK q qi) 0 = bytM (Xd (mK q qi) 0) := by unfold J8; rw [X0 (show ((bytM (Xd (mK q qi) 0)).length : Int) ≤ 512 by omega)]; rfl
 have tR : tkV6 (J8 (mK q qi) 0) = (Xd (mK q qi) 0, 0) := by rw [eR]; exact (X2i (Ur ok1 my1)).1
 have hSR : smS (J8 (mK q qi) 0) = true := by rw [eR]; exact decide_eq_true (Nat.le_trans ln1 (by decide))
 have eF : tkV6 (fK q qi) = (Xd (mK q qi) 0, 0) := by unfold fK; rw [p0]; exact tR
 have hP2 : Prod.snd (Prod.snd (J2 (sK q qi))) = true := by rw [p0]
 have hP1 : (Prod.fst (Prod.snd (J2 (sK q qi))) == (0 : Int)) = true := by rw [p0]; rfl
 have hP3 : smM (Prod.fst (J2 (sK q qi))) = true := by rw [p0]; rfl
 have hP4 : X1n (Prod.fst (J2 (sK q qi))) (qi, false, false, false, true, false, (0 : Int), (0 : Int), [q], [], [], []) = true := by rw [p0]; exact decide_eq_true rfl
 have hY1 : (Prod.snd (tkV6 (fK q qi)) == (0 : Int)) = true := by rw [eF]; rfl
 have hY2 : (((tkV6 (fK q qi)).1.2.2.2.2.2.2.2.2.1.length : Int) == 1) = true := by rw [eF]; rfl
 have hY3 : decide ((0 : Int) < ((tkV6 (fK q qi)).1.2.2.2.2.2.2.2.2.1.length : Int)) = true := by rw [eF]; rfl
 have hY4 : ((List.getD (tkV6 (fK q qi)).1.2.2.2.2.2.2.2.2.1 (Int.toNat 0) (Ty.dflt QQ)).1 == q.1 && ((List.getD (tkV6 (fK q qi)).1.2.2.2.2.2.2.2.2.1 (Int.toNat 0) (Ty.dflt QQ)).2.1 == q.2.1 && ((List.getD (tkV6 (fK q qi)).1.2.2.2.2.2.2.2.2.1 (Int.toNat 0) (Ty.dflt QQ)).2.2 == q.2.2 && true))) = true := by
  rw [eF]
  show (q.1 == q.1 && (q.2.1 == q.2.1 && (q.2.2 == q.2.2 && true))) = true
  simp
 have hY5 : ((tkV6 (fK q qi)).1.1 == qi) = true := by rw [eF]; exact beq_self_eq_true _
 have hRp : (rsK (Prod.fst (J2 (sK q qi))) 0 && true) = true := by rw [p0]; show (rsK (mK q qi) 0 && true) = true; rw [hR0]; rfl
 have hSR : smS (fK q qi) = true := by unfold fK; rw [p0]; exact hSR
 refine Tr.all_t hS0 (Tr.all_t hRp (Tr.all_t hSR (Tr.all_br (fun _ => ?_) (fun _ => Tr.all_br (fun _ => ?_) (fun _ => Tr.all_br (fun _ => ?_) (fun _ => Tr.all_br (fun _ => ?_) (fun _ => ?_)))))))
 · have hw : mayM (qi, true, false, false, true, false, (0 : Int), (0 : Int), [q], [], [], []) = true := J0b (by omega) (by omega) (by simp) one1
   have okw : okPM (qi, true, false, false, true, false, (0 : Int), (0 : Int), [q], [], [], []) = true := Q0t hi (by simp) one2
   have hb : putO (qi, true, false, false, true, false, (0 : Int), (0 : Int), [q], [], [], []) = bytM (qi, true, false, false, true, false, (0 : Int), (0 : Int), [q], [], [], []) := by rw [Jy, Z0d hw (Nat.le_trans (Xu hm) (by decide))]
   have hs : smS (putO (qi, true, false, false, true, false, (0 : Int), (0 : Int), [q], [], [], [])) = true := by rw [hb]; exact decide_eq_true (Nat.le_trans (Xu hm) (by decide))
   have hpr : J2 (putO (qi, true, false, false, true, false, (0 : Int), (0 : Int), [q], [], [], [])) = (noM, 0, false) := by rw [hb, Z07 (Ur okw hw)]; rfl
   exact Tr.all_t okw (Tr.all_t hs (Tr.all_t hP2 (Tr.all_t hP1 (Tr.all_t hP3 (Tr.all_t hP4 (Tr.all_t hY1 (Tr.all_t hY2 (Tr.all_t hY3 (Tr.all_t hY4 (Tr.all_t hY5 (Tr.all_t (by rw [hpr]; rfl) (Tr.all_ret (by rw [hpr]; rfl)))))))))))))
 · have hop : 0 ≤ IntKind.wrap IntKind.i64 ((1 : Int) + Int.tmod (IntKind.wrap IntKind.i64 how) (15 : Int)) ∧ IntKind.wrap IntKind.i64 ((1 : Int) + Int.tmod (IntKind.wrap IntKind.i64 how) (15 : Int)) ≤ 15 ∧ IntKind.wrap IntKind.i64 ((1 : Int) + Int.tmod (IntKind.wrap IntKind.i64 how) (15 : Int)) ≠ 0 := by
     rw [IntWalk.i64_in how (by omega), Int.tmod_eq_emod_of_nonneg hh.1, IntWalk.i64_in _ (by omega)]
     omega
   have hop0 := hop.2.2
   have hop := And.intro hop.1 hop.2.1
   have hw : mayM (qi, false, false, false, true, false, IntKind.wrap IntKind.i64 ((1 : Int) + Int.tmod (IntKind.wrap IntKind.i64 how) (15 : Int)), (0 : Int), [q], [], [], []) = true := J0b hop (by omega) (by simp) one1
   have okw : okPM (qi, false, false, false, true, false, IntKind.wrap IntKind.i64 ((1 : Int) + Int.tmod (IntKind.wrap IntKind.i64 how) (15 : Int)), (0 : Int), [q], [], [], []) = true := Q0t hi (by simp) one2
   have hb : putO (qi, false, false, false, true, false, IntKind.wrap IntKind.i64 ((1 : Int) + Int.tmod (IntKind.wrap IntKind.i64 how) (15 : Int)), (0 : Int), [q], [], [], []) = bytM (qi, false, false, false, true, false, IntKind.wrap IntKind.i64 ((1 : Int) + Int.tmod (IntKind.wrap IntKind.i64 how) (15 : Int)), (0 : Int), [q], [], [], []) := by rw [Jy, Z0d hw (Nat.le_trans (Xu hm) (by decide))]
   have hs : smS (putO (qi, false, false, false, true, false, IntKind.wrap IntKind.i64 ((1 : Int) + Int.tmod (IntKind.wrap IntKind.i64 how) (15 : Int)), (0 : Int), [q], [], [], [])) = true := by rw [hb]; exact decide_eq_true (Nat.le_trans (Xu hm) (by decide))
   have hpr : J2 (putO (qi, false, false, false, true, false, IntKind.wrap IntKind.i64 ((1 : Int) + Int.tmod (IntKind.wrap IntKind.i64 how) (15 : Int)), (0 : Int), [q], [], [], [])) = ((qi, false, false, false, true, false, IntKind.wrap IntKind.i64 ((1 : Int) + Int.tmod (IntKind.wrap IntKind.i64 how) (15 : Int)), (0 : Int), [q], [], [], []), 4, true) := by rw [hb, Z07 (Ur okw hw)]; show (_, Zf _, true) = _; unfold Zf; rw [show (IntKind.wrap IntKind.i64 ((1 : Int) + Int.tmod (IntKind.wrap IntKind.i64 how) (15 : Int)) != 0) = true by rw [bne_iff_ne]; omega]; rfl
   exact Tr.all_t okw (Tr.all_t hs (Tr.all_t hP2 (Tr.all_t hP1 (Tr.all_t hP3 (Tr.all_t hP4 (Tr.all_t hY1 (Tr.all_t hY2 (Tr.all_t hY3 (Tr.all_t hY4 (Tr.all_t hY5 (Tr.all_t (by rw [hpr]; rfl) (Tr.all_ret (by rw [hpr]; rfl)))))))))))))
 · have hw : mayM (qi, false, false, false, true, false, (0 : Int), (0 : Int), [], [], [], []) = true := J0b (by omega) (by omega) (by simp) (fun x hx => by cases hx)
   have okw : okPM (qi, false, false, false, true, false, (0 : Int), (0 : Int), [], [], [], []) = true := Q0t hi (by simp) (fun x hx => by cases hx)
   have hb : putO (qi, false, false, false, true, false, (0 : Int), (0 : Int), [], [], [], []) = bytM (qi, false, false, false, true, false, (0 : Int), (0 : Int), [], [], [], []) := by rw [Jy, Z0d hw (show 12 ≤ 65535 by decide)]
   have hs : smS (putO (qi, false, false, false, true, false, (0 : Int), (0 : Int), [], [], [], [])) = true := by rw [hb]; exact decide_eq_true (Nat.le_trans (show 12 ≤ 271 by decide) (by decide))
   have hpr : J2 (putO (qi, false, false, false, true, false, (0 : Int), (0 : Int), [], [], [], [])) = ((qi, false, false, false, true, false, (0 : Int), (0 : Int), [], [], [], []), 1, true) := by rw [hb, Z07 (Ur okw hw)]; rfl
   exact Tr.all_t okw (Tr.all_t hs (Tr.all_t hP2 (Tr.all_t hP1 (Tr.all_t hP3 (Tr.all_t hP4 (Tr.all_t hY1 (Tr.all_t hY2 (Tr.all_t hY3 (Tr.all_t hY4 (Tr.all_t hY5 (Tr.all_t (by rw [hpr]; rfl) (Tr.all_ret (by rw [hpr]; rfl)))))))))))))
 · have hw : mayM (qi, false, false, false, false, false, (0 : Int), (0 : Int), [q], [], [], []) = true := J0b (by omega) (by omega) (by simp) one1
   have okw : okPM (qi, false, false, false, false, false, (0 : Int), (0 : Int), [q], [], [], []) = true := Q0t hi (by simp) one2
   have hb : putO (qi, false, false, false, false, false, (0 : Int), (0 : Int), [q], [], [], []) = bytM (qi, false, false, false, false, false, (0 : Int), (0 : Int), [q], [], [], []) := by rw [Jy, Z0d hw (Nat.le_trans (Xu hm) (by decide))]
   have hs : smS (putO (qi, false, false, false, false, false, (0 : Int), (0 : Int), [q], [], [], [])) = true := by rw [hb]; exact decide_eq_true (Nat.le_trans (Xu hm) (by decide))
   have hpr : J2 (putO (qi, false, false, false, false, false, (0 : Int), (0 : Int), [q], [], [], [])) = ((qi, false, false, false, false, false, (0 : Int), (0 : Int), [q], [], [], []), 5, true) := by rw [hb, Z07 (Ur okw hw)]; rfl
   exact Tr.all_t okw (Tr.all_t hs (Tr.all_t hP2 (Tr.all_t hP1 (Tr.all_t hP3 (Tr.all_t hP4 (Tr.all_t hY1 (Tr.all_t hY2 (Tr.all_t hY3 (Tr.all_t hY4 (Tr.all_t hY5 (Tr.all_t (by rw [hpr]; rfl) (Tr.all_ret (by rw [hpr]; rfl)))))))))))))
 · have hcl : (IntKind.wrap IntKind.u16 ((2 : Int) + IntKind.wrap IntKind.u16 how) != 1) = true := by
     rw [bne_iff_ne]
     show ¬ (2 + how % 65536) % 65536 = 1
     omega
   have hq2 : rngQ (q.1, q.2.1, IntKind.wrap IntKind.u16 ((2 : Int) + IntKind.wrap IntKind.u16 how)) = true := by
    have h5 := (Bool.and_eq_true_iff.1 (show (n16C q.2.1 && n16C q.2.2) = true from hqr)).1
    show (n16C q.2.1 && n16C (IntKind.wrap IntKind.u16 _)) = true
    rw [h5, U39]
    rfl
   have hw : mayM (qi, false, false, false, true, false, (0 : Int), (0 : Int), [(q.1, q.2.1, IntKind.wrap IntKind.u16 ((2 : Int) + IntKind.wrap IntKind.u16 how))], [], [], []) = true := J0b (by omega) (by omega) (by simp) (X30 hm)
   have okw : okPM (qi, false, false, false, true, false, (0 : Int), (0 : Int), [(q.1, q.2.1, IntKind.wrap IntKind.u16 ((2 : Int) + IntKind.wrap IntKind.u16 how))], [], [], []) = true := Q0t hi (by simp) (U2a hm hq2)
   have hb : putO (qi, false, false, false, true, false, (0 : Int), (0 : Int), [(q.1, q.2.1, IntKind.wrap IntKind.u16 ((2 : Int) + IntKind.wrap IntKind.u16 how))], [], [], []) = bytM (qi, false, false, false, true, false, (0 : Int), (0 : Int), [(q.1, q.2.1, IntKind.wrap IntKind.u16 ((2 : Int) + IntKind.wrap IntKind.u16 how))], [], [], []) := by rw [Jy, Z0d hw (Nat.le_trans (Xu (q := (q.1, q.2.1, IntKind.wrap IntKind.u16 ((2 : Int) + IntKind.wrap IntKind.u16 how))) hm) (by decide))]
   have hs : smS (putO (qi, false, false, false, true, false, (0 : Int), (0 : Int), [(q.1, q.2.1, IntKind.wrap IntKind.u16 ((2 : Int) + IntKind.wrap IntKind.u16 how))], [], [], [])) = true := by rw [hb]; exact decide_eq_true (Nat.le_trans (Xu (q := (q.1, q.2.1, IntKind.wrap IntKind.u16 ((2 : Int) + IntKind.wrap IntKind.u16 how))) hm) (by decide))
   have hpr : J2 (putO (qi, false, false, false, true, false, (0 : Int), (0 : Int), [(q.1, q.2.1, IntKind.wrap IntKind.u16 ((2 : Int) + IntKind.wrap IntKind.u16 how))], [], [], [])) = ((qi, false, false, false, true, false, (0 : Int), (0 : Int), [(q.1, q.2.1, IntKind.wrap IntKind.u16 ((2 : Int) + IntKind.wrap IntKind.u16 how))], [], [], []), 5, true) := by rw [hb, Z07 (Ur okw hw)]; show (_, Zf _, true) = _; unfold Zf; rw [show ((q0M (qi, false, false, false, true, false, (0 : Int), (0 : Int), [(q.1, q.2.1, IntKind.wrap IntKind.u16 ((2 : Int) + IntKind.wrap IntKind.u16 how))], [], [], [])).2.2 != 1) = true from hcl]; rfl
   exact Tr.all_t okw (Tr.all_t hs (Tr.all_t hP2 (Tr.all_t hP1 (Tr.all_t hP3 (Tr.all_t hP4 (Tr.all_t hY1 (Tr.all_t hY2 (Tr.all_t hY3 (Tr.all_t hY4 (Tr.all_t hY5 (Tr.all_t (by rw [hpr]; rfl) (Tr.all_ret (by rw [hpr]; rfl)))))))))))))
theorem sem8 (q : QQt) (qi how : Int) (h1 : okT QQ q) (h2 : okT (.int .u16) qi) (h3 : okT (.int .u8) how) (hb : Js QQ q ≤ 1048576) : SemF Try.prog 8 [AV.ofTy QQ q true, .int .u16 qi, .int .u8 how] [] [.bool true] [] :=
 ok8 (q, qi, how, ()) () ([.bool true], []) (Tr.get_of_all (Z1n q qi how h1 h2 h3 (by
  have : List.length q.1 + 1 + (1 + 1) ≤ 1048576 := hb
  omega)))
end Go.Proofs.YtpledbapngdkeaaE
namespace Go.Proofs.Ytpledbapngdkeaa.frontRight
open Go.ChangeShapes Go.WideShapes Go.ChangeAt Go.RowKit Go.Proofs.YtpledbapngdkeaaE
open Go.ChangeMaps (open_string shut_string)
set_option linter.unusedVariables false
theorem own : ownKnob Try.prog.godebug = none := by kernel_rfl
theorem laidOut : laidOutB Try.prog = true := by kernel_rfl
/-- Where the data is of some size: the reading's own weights are handed on, too. -/
theorem Q28 {H : Type} {enc : TypeId × Value → H} {C : Checked} {os : Os} {f : FuncId} {fn : Func} {s : OpenSpec} {k : (H : Type) → List (DataW H) → Bool} (hk : s.cond = some k) {F : Stop.Interp} {conds : List PathCond} {apart fresh handsOn again : Bool}
    (own : ownKnob C.prog.godebug = none) (started : os.Started) (noInit : C.prog.inits.idxOf? f = none) (hfn : C.prog.funcs[f]? = some fn)
    (witness : ∃ (w : World) (tape : Tape) (i : Input), w.os = os ∧ (w.forCall tape i).Shaped C.prog ∧ i.vars = [] ∧ Input.okWide C.prog (w.forCall tape i) .any w.heap.size f i ∧
      s.pre6 enc C.prog fn conds apart (w.forCall tape i).memory i.args ∧ Assume.holds {} C.prog (lone (Frame.enter C.prog f i.args .normal) [] (w.forCall tape i)))
    (contract : ∀ (W : World) (base : Nat) (args : Array Value) (ds gs : List (DataW H)) (before : List MemPlace),
      (∀ (j : Nat) t v, fn.params[j]? = some t → args[j]? = some v → Value.okWide C.prog W .any base t v) →
      DataW.Whole enc C.prog fn.params.toList s.vars apart W args.toList ds gs before → k H (ds ++ gs) = true →
      (DataW.weightsEach C.prog (fn.params.toList ++ s.bare.plain.varTypes C.prog) (ds ++ gs)).all (· ≤ reachBytes) = true →
      Calls C.prog f args W fun e W' => ∃ v, e = .returned v ∧ (s.at F).post enc C.prog fn apart fresh handsOn again W args v W') :
    ReturnsInHanded {} C os f .any (s.pre6 enc C.prog fn conds apart) ((s.at F).post enc C.prog fn apart fresh handsOn again) := by
  refine returnsInHanded_of_calls own started noInit witness ?_
  intro w tape i _ _ _ hok hpre _
  obtain ⟨_, _, _, fn', hfn', _, _, _, _, hval⟩ := hok
  obtain rfl : fn' = fn := Option.some.inj (hfn'.symm.trans hfn)
  obtain ⟨hp, hz⟩ := hpre
  obtain ⟨ds, gs, before, hw, _, hkk⟩ := (OpenSpec.pre_some hk conds apart _ _).1 hp
  refine (contract (w.forCall tape i) w.heap.size i.args ds gs before hval (DataW.Whole.of_heap (w' := w.forCall tape i) (by rfl) hw) hkk (hz.weights hw)).mono fun e W' ⟨v, he, hq⟩ => ?_
  subst he
  exact ChangeSpec.post_blind hq
set_option maxRecDepth 100000 in
theorem lifted (os : Os) (started : os.Started) (H : Type) (enc : TypeId × Value → H) (F0 : Stop.Interp) :
    ReturnsInHanded {} Try.checked os 8 .any ((Rows.OpenSpec.upto Rows.frontRightSpec).pre6 enc Try.prog Try.f8 Rows.frontRightUptoRow.domain false) (((Rows.OpenSpec.upto Rows.frontRightSpec).at F0).post enc Try.prog Try.f8 false true false false) := by
  refine Q28 (C := Try.checked) (s := (Rows.OpenSpec.upto Rows.frontRightSpec)) (k := Rows.uptoSmall) rfl own started (by kernel_rfl) Try.func8
    (OpenSpec.witness (enc := enc) (C := Try.checked) (s := (Rows.OpenSpec.upto Rows.frontRightSpec)) (k := Rows.uptoSmall) rfl false ⟨#[], #[.agg #[.string ByteArray.empty, .int .u16 0, .int .u16 0], .int .u16 0, .int .u8 0], []⟩ 8 (by kernel_rfl) (by kernel_rfl) (by kernel_rfl)
      (x := (DataW.whole enc Try.prog (World.plainHolding Try.prog os ⟨#[], #[.agg #[.string ByteArray.empty, .int .u16 0, .int .u16 0], .int .u16 0, .int .u8 0], []⟩).memory Try.f8.params.toList (Rows.OpenSpec.upto Rows.frontRightSpec).vars false [.agg #[.string ByteArray.empty, .int .u16 0, .int .u16 0], .int .u16 0, .int .u8 0] 8).get (by kernel_rfl)) (Option.some_get _).symm (by kernel_rfl) (by kernel_rfl) (by kernel_rfl)) ?_
  intro W base args ds gs before hval0 hW hcnd hsz0
  have hsz : ∀ n ∈ DataW.weightsEach Try.prog (Try.f8.params.toList ++ Rows.frontRightSpec.plain.varTypes Try.prog) (ds ++ gs), n ≤ reachBytes := fun n hn => of_decide_eq_true (List.all_eq_true.1 hsz0 n hn)
  have hval : ∀ (j : Nat) t v, Try.f8.params[j]? = some t → args[j]? = some v → Value.okWide Try.prog W .any base t v := hval0
  have hW' := hW
  obtain ⟨p, q, hA0, hV, rfl, hfz, hnd⟩ := hW
  have hA : DataW.TrodAll enc Try.prog W 0 (fun _ => true) true Try.f8.params.toList args.toList ds p := hA0
  rw [Try.params8] at hA hval hsz
  obtain ⟨v0, vs0, d0, ds0, p0, q0, hargs, rfl, rfl, k0, r0⟩ := trodAll_cons hA
  obtain ⟨v1, vs1, d1, ds1, p1, q1, rfl, rfl, rfl, k1, r1⟩ := trodAll_cons r0
  obtain ⟨v2, vs2, d2, ds2, p2, q2, rfl, rfl, rfl, k2, r2⟩ := trodAll_cons r1
  obtain ⟨rfl, rfl, rfl⟩ := trodAll_nil r2
  obtain rfl : args = #[v0, v1, v2] := by cases args; simp_all
  obtain ⟨rfl, rfl⟩ := trodVars_none hV
  have lt0 : ∀ x ∈ p0, x.block < W.heap.size := by obtain ⟨m, hm⟩ := k0; exact DataW.trod_lt m _ _ _ hm
  obtain ⟨x0, e0, w0, b0⟩ := J1e (n := 8) (τ := (.pair .str (.pair (.int .u16) (.int .u16)))) (agg := true) (by kernel_rfl) (hval 0 27 v0 rfl rfl) k0 (fun n hn => hsz n (DataW.weights_mem_each (j := 0) (t := 27) rfl rfl n hn)) (by kernel_rfl)
  have lt1 : ∀ x ∈ p1, x.block < W.heap.size := by obtain ⟨m, hm⟩ := k1; exact DataW.trod_lt m _ _ _ hm
  obtain ⟨x1, e1, w1, b1⟩ := J1e (n := 8) (τ := .int .u16) (agg := false) (by kernel_rfl) (hval 1 23 v1 rfl rfl) k1 (fun n hn => hsz n (DataW.weights_mem_each (j := 1) (t := 23) rfl rfl n hn)) (by kernel_rfl)
  have lt2 : ∀ x ∈ p2, x.block < W.heap.size := by obtain ⟨m, hm⟩ := k2; exact DataW.trod_lt m _ _ _ hm
  obtain ⟨x2, e2, w2, b2⟩ := J1e (n := 8) (τ := .int .u8) (agg := false) (by kernel_rfl) (hval 2 5 v2 rfl rfl) k2 (fun n hn => hsz n (DataW.weights_mem_each (j := 2) (t := 5) rfl rfl n hn)) (by kernel_rfl)
  have hbk : Rows.uptoBulkAll ([d0, d1, d2] ++ []) ≤ 1048576 := of_decide_eq_true hcnd
  simp only [List.append_nil, Rows.uptoBulkAll] at hbk
  clear hA0 hval0 hsz0 hsz
  refine (X33 ((fun x0 x1 x2 w0 w1 w2 b0 b1 b2 => sem8 x0 x1 x2 w0 w1 w2 b0) x0 x1 x2 w0 w1 w2 (Nat.le_trans b0 (by omega : Rows.uptoBulk d0 ≤ 1048576)) (Nat.le_trans b1 (by omega : Rows.uptoBulk d1 ≤ 1048576)) (Nat.le_trans b2 (by omega : Rows.uptoBulk d2 ≤ 1048576))) W (vs := [v0, v1, v2]) ?_).mono fun e W' ⟨he, bel⟩ => ?_
  · simp only [J1]
    exact ⟨_, _, rfl, e0, ⟨_, _, rfl, e1, ⟨_, _, rfl, e2, rfl⟩⟩⟩
  subst he
  exact ⟨_, rfl, _, _, _, [], _, [], hW', trodAll_mk1 (shut_bool Try.underlying4 _), (trodAll_cons_mk (Below.trod laidOut (by kernel_rfl) (of_decide_eq_true (by kernel_rfl)) k0 bel lt0) (trodAll_cons_mk (Below.trod laidOut (by kernel_rfl) (of_decide_eq_true (by kernel_rfl)) k1 bel lt1) (trodAll_cons_mk (Below.trod laidOut (by kernel_rfl) (of_decide_eq_true (by kernel_rfl)) k2 bel lt2) trodAll_mk0))), rfl, bel.frame _, fun h => by cases h⟩
theorem over : Rows.frontRightUptoRow.holds Try.pinned (Rows.OpenSpec.upto Rows.frontRightSpec) :=
  OpenClaim.holds_of_cond 8 Try.f8 rfl rfl rfl rfl rfl rfl rfl ⟨rfl, rfl, rfl, rfl, rfl⟩ rfl rfl rfl rfl rfl (by kernel_rfl) Try.func8 (by kernel_rfl)
    (of_decide_eq_true (by kernel_rfl)) (by unfold Func.isWrapper; first | (rw [if_pos (by decide +kernel)]; kernel_rfl) | (rw [if_neg (by decide +kernel)]; exact ⟨rfl, rfl⟩))
    (fun os started H enc _ F0 => lifted os started H enc F0)
theorem proved : Rows.FrontRightUptoSaid := over
end Go.Proofs.Ytpledbapngdkeaa.frontRight
namespace Go.Proofs.Ytpledbapngdkeaa
/-- The row, under a short name, for the claim. -/
theorem frontRightUpto_holds : Rows.FrontRightUptoSaid := frontRight.proved
#print axioms frontRightUpto_holds
end Go.Proofs.Ytpledbapngdkeaa
