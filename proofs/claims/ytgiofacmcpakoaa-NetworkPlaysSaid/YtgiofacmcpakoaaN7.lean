/- network: what the document says, by definition. -/
import Derived.Test.YtgiofacmcpakoaaN6
namespace Go.Proofs.YtgiofacmcpakoaaE
open Go
set_option linter.unusedVariables false
set_option linter.unusedSimpArgs false
abbrev NT : Ty := .pair (.list PK) (.pair (.int .i64) (.int .i64))
/-- derrickref18.there -/
def t53 (x : (List ((Int × Int) × ((Int × Int) × List UInt8)) × (Int × Int))) (k : Int) : Tr Res := Tr.br (decide (k ≥ (0 : Int))) (Tr.ret ([AV.bool (decide (k < (↑(List.length (Prod.fst x)) : Int)))], [])) (Tr.ret ([AV.bool false], []))
def os53 : OSpec := { f := 53, sh := [.d NT true, .d (.int .i64) false], so := [], F := fun (x, k, _) _ => t53 x k }
theorem fn53 (x : (List ((Int × Int) × ((Int × Int) × List UInt8)) × (Int × Int))) (k : Int) : evC T0 (orcB [] []) (lpOf h53 0 (lsOf [])) c53 1000000 (startSt [AV.ofTy NT x true, .int .i64 k] [] Try.f53.ntmps) (finishK T0 false 0 Try.f53) = (t53 x k).get := by kernel_rfl
theorem ok53 : os53.Ok Try.prog := by
  refine os_ok mixed0 tab0 (orcB_sound all_nil all_nil) h53 (d := 0) (n0 := 0) (S := lsOf []) Try.func53 (by kernel_rfl) (c := c53) (by kernel_rfl) rfl (no_loops (by kernel_rfl)) (by omega) (by kernel_rfl) ?_
  intro x'' y'' q'' hq''
  obtain ⟨(x : (List ((Int × Int) × ((Int × Int) × List UInt8)) × (Int × Int))), (k : Int), _⟩ := x''
  exact (fn53 x k).trans hq''
def fs53 : FSpec := fsT 53 [(NT, true), ((.int .i64), false)] [(.bool, false)] fun (x, k, _) => t53 x k
theorem okf53 : fs53.Ok Try.prog := fsT_ok fun x'' r'' hr'' => ok53 x'' () r'' hr''
/-- derrickref18.Inject -/
def t47 (x : (List ((Int × Int) × ((Int × Int) × List UInt8)) × (Int × Int))) (room : Int) (p : ((Int × Int) × ((Int × Int) × List UInt8))) : Tr Res := Tr.br (decide ((↑(List.length (Prod.fst x)) : Int) ≥ room)) (Tr.ret ([AV.agg [AV.list PK (Prod.fst x), AV.int IntKind.i64 (Prod.fst (Prod.snd x)), AV.int IntKind.i64 (Prod.snd (Prod.snd x))], AV.bool false], [])) (Tr.br (fits (0 + List.length (Prod.fst x)) 32) (Tr.br (fits (List.length ([] ++ Prod.fst x) + 1) 32) (Tr.ret ([AV.agg [AV.list PK ([] ++ Prod.fst x ++ [p]), AV.int IntKind.i64 (Prod.fst (Prod.snd x)), AV.int IntKind.i64 (Prod.snd (Prod.snd x))], AV.bool true], [])) Tr.no) Tr.no)
def os47 : OSpec := { f := 47, sh := [.d NT true, .d (.int .i64) false, .d PK true], so := [], F := fun (x, room, p, _) _ => t47 x room p }
theorem fn47 (x : (List ((Int × Int) × ((Int × Int) × List UInt8)) × (Int × Int))) (room : Int) (p : ((Int × Int) × ((Int × Int) × List UInt8))) : evC T0 (orcB [] []) (lpOf h47 0 (lsOf [])) c47 1000000 (startSt [AV.ofTy NT x true, .int .i64 room, AV.ofTy PK p true] [] Try.f47.ntmps) (finishK T0 false 0 Try.f47) = (t47 x room p).get := by kernel_rfl
theorem ok47 : os47.Ok Try.prog := by
  refine os_ok mixed0 tab0 (orcB_sound all_nil all_nil) h47 (d := 0) (n0 := 0) (S := lsOf []) Try.func47 (by kernel_rfl) (c := c47) (by kernel_rfl) rfl (no_loops (by kernel_rfl)) (by omega) (by kernel_rfl) ?_
  intro x'' y'' q'' hq''
  obtain ⟨(x : (List ((Int × Int) × ((Int × Int) × List UInt8)) × (Int × Int))), (room : Int), (p : ((Int × Int) × ((Int × Int) × List UInt8))), _⟩ := x''
  exact (fn47 x room p).trans hq''
def fs47 : FSpec := fsT 47 [(NT, true), ((.int .i64), false), (PK, true)] [(NT, true), (.bool, false)] fun (x, room, p, _) => t47 x room p
theorem okf47 : fs47.Ok Try.prog := fsT_ok fun x'' r'' hr'' => ok47 x'' () r'' hr''
/-- derrickref18.Send -/
def t46 (x : (List ((Int × Int) × ((Int × Int) × List UInt8)) × (Int × Int))) (room : Int) (p : ((Int × Int) × ((Int × Int) × List UInt8))) : Tr Res := Tr.br (decide ((↑(List.length (Prod.fst x)) : Int) ≥ room)) (Tr.ret ([AV.agg [AV.list PK (Prod.fst x), AV.int IntKind.i64 (IntKind.wrap IntKind.i64 (Prod.fst (Prod.snd x) + (1 : Int))), AV.int IntKind.i64 (IntKind.wrap IntKind.i64 (Prod.snd (Prod.snd x) + (1 : Int)))], AV.bool false], [])) (Tr.br (fits (0 + List.length (Prod.fst x)) 32) (Tr.br (fits (List.length ([] ++ Prod.fst x) + 1) 32) (Tr.ret ([AV.agg [AV.list PK ([] ++ Prod.fst x ++ [p]), AV.int IntKind.i64 (IntKind.wrap IntKind.i64 (Prod.fst (Prod.snd x) + (1 : Int))), AV.int IntKind.i64 (Prod.snd (Prod.snd x))], AV.bool true], [])) Tr.no) Tr.no)
def os46 : OSpec := { f := 46, sh := [.d NT true, .d (.int .i64) false, .d PK true], so := [], F := fun (x, room, p, _) _ => t46 x room p }
theorem fn46 (x : (List ((Int × Int) × ((Int × Int) × List UInt8)) × (Int × Int))) (room : Int) (p : ((Int × Int) × ((Int × Int) × List UInt8))) : evC T0 (orcB [fs53, fs47] []) (lpOf h46 0 (lsOf [])) c46 1000000 (startSt [AV.ofTy NT x true, .int .i64 room, AV.ofTy PK p true] [] Try.f46.ntmps) (finishK T0 false 0 Try.f46) = (t46 x room p).get := by kernel_rfl
theorem ok46 : os46.Ok Try.prog := by
  refine os_ok mixed0 tab0 (orcB_sound (all_cons okf53 (all_cons okf47 all_nil)) all_nil) h46 (d := 0) (n0 := 0) (S := lsOf []) Try.func46 (by kernel_rfl) (c := c46) (by kernel_rfl) rfl (no_loops (by kernel_rfl)) (by omega) (by kernel_rfl) ?_
  intro x'' y'' q'' hq''
  obtain ⟨(x : (List ((Int × Int) × ((Int × Int) × List UInt8)) × (Int × Int))), (room : Int), (p : ((Int × Int) × ((Int × Int) × List UInt8))), _⟩ := x''
  exact (fn46 x room p).trans hq''
def fs46 : FSpec := fsT 46 [(NT, true), ((.int .i64), false), (PK, true)] [(NT, true), (.bool, false)] fun (x, room, p, _) => t46 x room p
theorem okf46 : fs46.Ok Try.prog := fsT_ok fun x'' r'' hr'' => ok46 x'' () r'' hr''
/-- derrickref18.Twice -/
def t49 (x : (List ((Int × Int) × ((Int × Int) × List UInt8)) × (Int × Int))) (k : Int) : Tr Res := Tr.br (decide (k ≥ (0 : Int))) (Tr.br (!decide (k < (↑(List.length (Prod.fst x)) : Int))) (Tr.ret ([AV.agg [AV.int IntKind.u32 (0 : Int), AV.int IntKind.u16 (0 : Int), AV.int IntKind.u32 (0 : Int), AV.int IntKind.u16 (0 : Int), AV.str []], AV.bool false], [])) (Tr.br (decide ((0 : Int) ≤ k)) (Tr.br (decide (k < (↑(List.length (Prod.fst x)) : Int))) (Tr.ret ([AV.agg [AV.int IntKind.u32 (Prod.fst (Prod.fst (List.getD (Prod.fst x) (Int.toNat k) (Ty.dflt PK)))), AV.int IntKind.u16 (Prod.snd (Prod.fst (List.getD (Prod.fst x) (Int.toNat k) (Ty.dflt PK)))), AV.int IntKind.u32 (Prod.fst (Prod.fst (Prod.snd (List.getD (Prod.fst x) (Int.toNat k) (Ty.dflt PK))))), AV.int IntKind.u16 (Prod.snd (Prod.fst (Prod.snd (List.getD (Prod.fst x) (Int.toNat k) (Ty.dflt PK))))), AV.str (Prod.snd (Prod.snd (List.getD (Prod.fst x) (Int.toNat k) (Ty.dflt PK))))], AV.bool true], [])) Tr.no) Tr.no)) (Tr.ret ([AV.agg [AV.int IntKind.u32 (0 : Int), AV.int IntKind.u16 (0 : Int), AV.int IntKind.u32 (0 : Int), AV.int IntKind.u16 (0 : Int), AV.str []], AV.bool false], []))
def os49 : OSpec := { f := 49, sh := [.d NT true, .d (.int .i64) false], so := [], F := fun (x, k, _) _ => t49 x k }
theorem fn49 (x : (List ((Int × Int) × ((Int × Int) × List UInt8)) × (Int × Int))) (k : Int) : evC T0 (orcB [fs53, fs47] []) (lpOf h49 0 (lsOf [])) c49 1000000 (startSt [AV.ofTy NT x true, .int .i64 k] [] Try.f49.ntmps) (finishK T0 false 0 Try.f49) = (t49 x k).get := by kernel_rfl
theorem ok49 : os49.Ok Try.prog := by
  refine os_ok mixed0 tab0 (orcB_sound (all_cons okf53 (all_cons okf47 all_nil)) all_nil) h49 (d := 0) (n0 := 0) (S := lsOf []) Try.func49 (by kernel_rfl) (c := c49) (by kernel_rfl) rfl (no_loops (by kernel_rfl)) (by omega) (by kernel_rfl) ?_
  intro x'' y'' q'' hq''
  obtain ⟨(x : (List ((Int × Int) × ((Int × Int) × List UInt8)) × (Int × Int))), (k : Int), _⟩ := x''
  exact (fn49 x k).trans hq''
def fs49 : FSpec := fsT 49 [(NT, true), ((.int .i64), false)] [(PK, true), (.bool, false)] fun (x, k, _) => t49 x k
theorem okf49 : fs49.Ok Try.prog := fsT_ok fun x'' r'' hr'' => ok49 x'' () r'' hr''
def tkC (k i : Int) (wy acc : NW) : Bool := decide (i = 0) && acc.isEmpty && hasK wy k && bigW wy
noncomputable def b48 : Code := nthLoop c48 0
def ls48 : LoopSpec := { bid := 0, sh := [.d (.int .i64) false, .ptr 0 0, .ptr 1 0, .ptr 3 0, .row 4, .d (.int .i64) false], so := [.box [.d (.list PK) false, .d (.int .i64) false, .d (.int .i64) false], .box [.row 2, .d (.int .i64) false, .d (.int .i64) false], .row PK, .box [.d (.int .u32) false, .d (.int .u16) false, .d (.int .u32) false, .d (.int .u16) false, .d .str false], .row PK], F := fun (k, i, _) ((wy, s, lo, _), (z1, z2, _), zr, (q1, q2, q3, q4, q5, _), acc, _) => .on (tkC k i wy acc) (.exit 0, [.int .i64 k, .ptr 0 0, .ptr 1 0, .ptr 3 0, .rowA 4], [.box [.list PK wy, .int .i64 s, .int .i64 lo], .box [.rowA 2, .int .i64 z1, .int .i64 z2], .row PK zr, .box [.int .u32 q1, .int .u16 q2, .int .u32 q3, .int .u16 q4, .str q5], .row PK (wy.eraseIdx k.toNat)]) }
def r48 (k : Int) (i : Int) (wy : List ((Int × Int) × ((Int × Int) × List UInt8))) (s : Int) (lo : Int) (z1 : Int) (z2 : Int) (zr : List ((Int × Int) × ((Int × Int) × List UInt8))) (q1 : Int) (q2 : Int) (q3 : Int) (q4 : Int) (q5 : List UInt8) (acc : List ((Int × Int) × ((Int × Int) × List UInt8))) : Tr (St ⊕ (Ex × St)) := Tr.br (decide (i < (↑(List.length wy) : Int))) (Tr.br (i != k) (Tr.br (decide ((0 : Int) ≤ i)) (Tr.br (decide (i < (↑(List.length wy) : Int))) (Tr.br (fits (List.length acc + 1) 32) (Tr.ret (Sum.inl (stOf [1, 2, 4, 5, 7, 8] [AV.int IntKind.i64 k, AV.ptr 0 0, AV.ptr 1 0, AV.ptr 3 0, AV.rowA 4, AV.int IntKind.i64 (IntKind.wrap IntKind.i64 (i + (1 : Int)))] [LObj.box [AV.list PK wy, AV.int IntKind.i64 s, AV.int IntKind.i64 lo], LObj.box [AV.rowA 2, AV.int IntKind.i64 z1, AV.int IntKind.i64 z2], LObj.row PK zr, LObj.box [AV.int IntKind.u32 q1, AV.int IntKind.u16 q2, AV.int IntKind.u32 q3, AV.int IntKind.u16 q4, AV.str q5], LObj.row PK (acc ++ [List.getD wy (Int.toNat i) (Ty.dflt PK)])]))) Tr.no) Tr.no) Tr.no) (Tr.ret (Sum.inl (stOf [1, 2, 4, 5, 7, 8] [AV.int IntKind.i64 k, AV.ptr 0 0, AV.ptr 1 0, AV.ptr 3 0, AV.rowA 4, AV.int IntKind.i64 (IntKind.wrap IntKind.i64 (i + (1 : Int)))] [LObj.box [AV.list PK wy, AV.int IntKind.i64 s, AV.int IntKind.i64 lo], LObj.box [AV.rowA 2, AV.int IntKind.i64 z1, AV.int IntKind.i64 z2], LObj.row PK zr, LObj.box [AV.int IntKind.u32 q1, AV.int IntKind.u16 q2, AV.int IntKind.u32 q3, AV.int IntKind.u16 q4, AV.str q5], LObj.row PK acc])))) (Tr.ret (Sum.inr (Ex.exit 0, stOf [1, 2, 4, 5, 7] [AV.int IntKind.i64 k, AV.ptr 0 0, AV.ptr 1 0, AV.ptr 3 0, AV.rowA 4] [LObj.box [AV.list PK wy, AV.int IntKind.i64 s, AV.int IntKind.i64 lo], LObj.box [AV.rowA 2, AV.int IntKind.i64 z1, AV.int IntKind.i64 z2], LObj.row PK zr, LObj.box [AV.int IntKind.u32 q1, AV.int IntKind.u16 q2, AV.int IntKind.u32 q3, AV.int IntKind.u16 q4, AV.str q5], LObj.row PK acc])))
theorem round48 (orc : Orc) (lp : Lp) (k : Int) (i : Int) (wy : List ((Int × Int) × ((Int × Int) × List UInt8))) (s : Int) (lo : Int) (z1 : Int) (z2 : Int) (zr : List ((Int × Int) × ((Int × Int) × List UInt8))) (q1 : Int) (q2 : Int) (q3 : Int) (q4 : Int) (q5 : List UInt8) (acc : List ((Int × Int) × ((Int × Int) × List UInt8))) : evC T0 orc lp b48 0 (stOf [1, 2, 4, 5, 7, 8] [.int .i64 k, .ptr 0 0, .ptr 1 0, .ptr 3 0, .rowA 4, .int .i64 i] [.box [.list PK wy, .int .i64 s, .int .i64 lo], .box [.rowA 2, .int .i64 z1, .int .i64 z2], .row PK zr, .box [.int .u32 q1, .int .u16 q2, .int .u32 q3, .int .u16 q4, .str q5], .row PK acc]) (roundK [1, 2, 4, 5, 7, 8] [1, 2, 4, 5, 7] 0) = (r48 k i wy s lo z1 z2 zr q1 q2 q3 q4 q5 acc).get := by kernel_rfl
theorem wf48 (orc : Orc) (k : Int) (wy : List ((Int × Int) × ((Int × Int) × List UInt8))) (s : Int) (lo : Int) (z1 : Int) (z2 : Int) (zr : List ((Int × Int) × ((Int × Int) × List UInt8))) (q1 : Int) (q2 : Int) (q3 : Int) (q4 : Int) (q5 : List UInt8) (I'' : Int → List ((Int × Int) × ((Int × Int) × List UInt8)) → Prop) (m'' : Int → List ((Int × Int) × ((Int × Int) × List UInt8)) → Nat) (r'' : Ex × St) (h : ∀ (i : Int) (acc : List ((Int × Int) × ((Int × Int) × List UInt8))), I'' i acc → (r48 k i wy s lo z1 z2 zr q1 q2 q3 q4 q5 acc).all fun x'' => x'' = .inr r'' ∨ ∃ (i' : Int) (acc' : List ((Int × Int) × ((Int × Int) × List UInt8))), x'' = .inl (stOf [1, 2, 4, 5, 7, 8] [.int .i64 k, .ptr 0 0, .ptr 1 0, .ptr 3 0, .rowA 4, .int .i64 i'] [.box [.list PK wy, .int .i64 s, .int .i64 lo], .box [.rowA 2, .int .i64 z1, .int .i64 z2], .row PK zr, .box [.int .u32 q1, .int .u16 q2, .int .u32 q3, .int .u16 q4, .str q5], .row PK acc']) ∧ I'' i' acc' ∧ m'' i' acc' < m'' i acc) (lp : Lp) (i : Int) (acc : List ((Int × Int) × ((Int × Int) × List UInt8))) : I'' i acc →
    loopF (fun st => evC T0 orc lp b48 0 st (roundK [1, 2, 4, 5, 7, 8] [1, 2, 4, 5, 7] 0)) (stOf [1, 2, 4, 5, 7, 8] [.int .i64 k, .ptr 0 0, .ptr 1 0, .ptr 3 0, .rowA 4, .int .i64 i] [.box [.list PK wy, .int .i64 s, .int .i64 lo], .box [.rowA 2, .int .i64 z1, .int .i64 z2], .row PK zr, .box [.int .u32 q1, .int .u16 q2, .int .u32 q3, .int .u16 q4, .str q5], .row PK acc]) = some r'' :=
  loop_tr (fun a'' : Int × List ((Int × Int) × ((Int × Int) × List UInt8)) => stOf [1, 2, 4, 5, 7, 8] [.int .i64 k, .ptr 0 0, .ptr 1 0, .ptr 3 0, .rowA 4, .int .i64 a''.1] [.box [.list PK wy, .int .i64 s, .int .i64 lo], .box [.rowA 2, .int .i64 z1, .int .i64 z2], .row PK zr, .box [.int .u32 q1, .int .u16 q2, .int .u32 q3, .int .u16 q4, .str q5], .row PK a''.2]) (fun a'' => I'' a''.1 a''.2) (fun a'' => m'' a''.1 a''.2) r'' (fun a'' => r48 k a''.1 wy s lo z1 z2 zr q1 q2 q3 q4 q5 a''.2)
    (fun a'' x hx => (round48 orc lp k a''.1 wy s lo z1 z2 zr q1 q2 q3 q4 q5 a''.2).trans hx) (fun a'' ha => Tr.all_mono (fun x'' hx => hx.imp id fun ⟨i', acc', h1, h2, h3⟩ => ⟨(i', acc'), h1, h2, h3⟩) (h (a''.1) (a''.2) ha)) (i, acc)
def tkI (k : Int) (wy : NW) (i : Int) (acc : NW) : Prop := 0 ≤ i ∧ i ≤ wy.length ∧ (acc.length : Int) ≤ i ∧ acc = (wy.take i.toNat).eraseIdx k.toNat
theorem loop48 (orc : Orc) : ls48.Ok T0 orc h48 0 0 b48 := by
  intro q'' hq'' x'' y'' r'' h
  obtain ⟨(k : Int), (i : Int), _⟩ := x''
  obtain ⟨⟨(wy : List ((Int × Int) × ((Int × Int) × List UInt8))), (s : Int), (lo : Int), _⟩, ⟨(z1 : Int), (z2 : Int), _⟩, (zr : List ((Int × Int) × ((Int × Int) × List UInt8))), ⟨(q1 : Int), (q2 : Int), (q3 : Int), (q4 : Int), (q5 : List UInt8), _⟩, (acc : List ((Int × Int) × ((Int × Int) × List UInt8))), _⟩ := y''
  obtain ⟨hc, rfl⟩ := Tr.get_on h
  show loopF (fun st => evC T0 orc (lpN T0 orc h48 0 q'') b48 0 st (roundK [1, 2, 4, 5, 7, 8] [1, 2, 4, 5, 7] 0)) (stOf [1, 2, 4, 5, 7, 8] [.int .i64 k, .ptr 0 0, .ptr 1 0, .ptr 3 0, .rowA 4, .int .i64 i] [.box [.list PK wy, .int .i64 s, .int .i64 lo], .box [.rowA 2, .int .i64 z1, .int .i64 z2], .row PK zr, .box [.int .u32 q1, .int .u16 q2, .int .u32 q3, .int .u16 q4, .str q5], .row PK acc]) = some (.exit 0, stOf [1, 2, 4, 5, 7] ([.int .i64 k, .ptr 0 0, .ptr 1 0, .ptr 3 0, .rowA 4]) ([.box [.list PK wy, .int .i64 s, .int .i64 lo], .box [.rowA 2, .int .i64 z1, .int .i64 z2], .row PK zr, .box [.int .u32 q1, .int .u16 q2, .int .u32 q3, .int .u16 q4, .str q5], .row PK (wy.eraseIdx k.toNat)]))
  simp only [tkC, Bool.and_eq_true, decide_eq_true_eq, List.isEmpty_iff, bigW, hasK] at hc
  obtain ⟨⟨⟨rfl, rfl⟩, hk0, hk1⟩, hb⟩ := hc
  refine wf48 _ k wy s lo z1 z2 zr q1 q2 q3 q4 q5 (tkI k wy) (fun i _ => (wy.length - i).toNat) _ ?_ _ 0 [] ⟨by omega, by omega, by simp, by simp⟩
  rintro i acc ⟨h0, h1, h2, h3⟩
  unfold r48
  by_cases hlt : i < wy.length
  · have e1 : (i + 1).toNat = i.toNat + 1 := by omega
    have e2 : wy.take (i.toNat + 1) = wy.take i.toNat ++ [wy.getD i.toNat (Ty.dflt PK)] := by rw [List.take_add_one, List.getD_eq_getElem?_getD, List.getElem?_eq_getElem (show i.toNat < wy.length by omega)]; rfl
    have hlen : (wy.take i.toNat).length = i.toNat := by simp; omega
    refine Tr.all_t (dec_true hlt) (Tr.all_br (fun hc => ?_) (fun hc => ?_))
    · refine Tr.all_t (dec_true h0) (Tr.all_t (dec_true hlt) (Tr.all_t (fits_true (by omega) (by omega)) (Tr.all_ret (.inr ⟨_, _, rfl, ?_, ?_⟩))))
      · simp (disch := omega) only [IntWalk.i64_in]
        have hne : i ≠ k := bne_iff_ne.1 hc
        refine ⟨by omega, by omega, by simp; omega, ?_⟩
        rw [e1, e2, h3]
        by_cases hlk : k.toNat < i.toNat
        · rw [List.eraseIdx_append_of_lt_length (by omega)]
        · rw [List.eraseIdx_append_of_length_le (by omega), List.eraseIdx_of_length_le (by omega), List.eraseIdx_of_length_le (by simp; omega)]
      · simp (disch := omega) only [IntWalk.i64_in]
        omega
    · refine Tr.all_ret (.inr ⟨_, _, rfl, ?_, ?_⟩)
      · simp (disch := omega) only [IntWalk.i64_in]
        have he : i = k := bne_eq_false_iff_eq.1 hc
        refine ⟨by omega, by omega, by omega, ?_⟩
        rw [e1, e2, h3, List.eraseIdx_append_of_length_le (by omega), List.eraseIdx_of_length_le (by omega), show k.toNat - (wy.take i.toNat).length = 0 by omega]
        simp
      · simp (disch := omega) only [IntWalk.i64_in]
        omega
  · refine Tr.all_f (dec_false hlt) (Tr.all_ret (.inl ?_))
    rw [h3, List.take_of_length_le (by omega)]
def rtC (i : Int) (acc : List Int) (wy : NW) : Bool := decide (i = 0) && acc.isEmpty && bigW wy
noncomputable def b43 : Code := nthLoop c43 0
def ls43 : LoopSpec := { bid := 0, sh := [.ptr 0 0, .ptr 1 0, .row 2, .d (.int .i64) false], so := [.box [.d (.list PK) false, .d (.int .i64) false, .d (.int .i64) false], .box [.d (.int .u32) false, .d (.int .u16) false], .row (.int .i64)], F := fun (i, _) ((wy, s, lo, _), (aa, ap, _), acc, _) => .on (rtC i acc wy) (.exit 0, [.rowA 0], [.row (.int .i64) (toL aa ap wy 0)]) }
def r43 (i : Int) (wy : List ((Int × Int) × ((Int × Int) × List UInt8))) (s : Int) (lo : Int) (aa : Int) (ap : Int) (acc : List Int) : Tr (St ⊕ (Ex × St)) := Tr.br (decide (i < (↑(List.length wy) : Int))) (Tr.br (decide ((0 : Int) ≤ i)) (Tr.br (decide (i < (↑(List.length wy) : Int))) (Tr.br (Prod.fst (Prod.fst (Prod.snd (List.getD wy (Int.toNat i) (Ty.dflt PK)))) == aa && (Prod.snd (Prod.fst (Prod.snd (List.getD wy (Int.toNat i) (Ty.dflt PK)))) == ap && true)) (Tr.br (fits (List.length acc + 1) 8) (Tr.ret (Sum.inl (stOf [2, 3, 5, 6] [AV.ptr 0 0, AV.ptr 1 0, AV.rowA 2, AV.int IntKind.i64 (IntKind.wrap IntKind.i64 (i + (1 : Int)))] [LObj.box [AV.list PK wy, AV.int IntKind.i64 s, AV.int IntKind.i64 lo], LObj.box [AV.int IntKind.u32 aa, AV.int IntKind.u16 ap], LObj.row (Ty.int IntKind.i64) (acc ++ [i])]))) Tr.no) (Tr.ret (Sum.inl (stOf [2, 3, 5, 6] [AV.ptr 0 0, AV.ptr 1 0, AV.rowA 2, AV.int IntKind.i64 (IntKind.wrap IntKind.i64 (i + (1 : Int)))] [LObj.box [AV.list PK wy, AV.int IntKind.i64 s, AV.int IntKind.i64 lo], LObj.box [AV.int IntKind.u32 aa, AV.int IntKind.u16 ap], LObj.row (Ty.int IntKind.i64) acc])))) Tr.no) Tr.no) (Tr.ret (Sum.inr (Ex.exit 0, stOf [5] [AV.rowA 0] [LObj.row (Ty.int IntKind.i64) acc])))
theorem round43 (orc : Orc) (lp : Lp) (i : Int) (wy : List ((Int × Int) × ((Int × Int) × List UInt8))) (s : Int) (lo : Int) (aa : Int) (ap : Int) (acc : List Int) : evC T0 orc lp b43 0 (stOf [2, 3, 5, 6] [.ptr 0 0, .ptr 1 0, .rowA 2, .int .i64 i] [.box [.list PK wy, .int .i64 s, .int .i64 lo], .box [.int .u32 aa, .int .u16 ap], .row (.int .i64) acc]) (roundK [2, 3, 5, 6] [5] 0) = (r43 i wy s lo aa ap acc).get := by kernel_rfl
theorem wf43 (orc : Orc) (wy : List ((Int × Int) × ((Int × Int) × List UInt8))) (s : Int) (lo : Int) (aa : Int) (ap : Int) (I'' : Int → List Int → Prop) (m'' : Int → List Int → Nat) (r'' : Ex × St) (h : ∀ (i : Int) (acc : List Int), I'' i acc → (r43 i wy s lo aa ap acc).all fun x'' => x'' = .inr r'' ∨ ∃ (i' : Int) (acc' : List Int), x'' = .inl (stOf [2, 3, 5, 6] [.ptr 0 0, .ptr 1 0, .rowA 2, .int .i64 i'] [.box [.list PK wy, .int .i64 s, .int .i64 lo], .box [.int .u32 aa, .int .u16 ap], .row (.int .i64) acc']) ∧ I'' i' acc' ∧ m'' i' acc' < m'' i acc) (lp : Lp) (i : Int) (acc : List Int) : I'' i acc →
    loopF (fun st => evC T0 orc lp b43 0 st (roundK [2, 3, 5, 6] [5] 0)) (stOf [2, 3, 5, 6] [.ptr 0 0, .ptr 1 0, .rowA 2, .int .i64 i] [.box [.list PK wy, .int .i64 s, .int .i64 lo], .box [.int .u32 aa, .int .u16 ap], .row (.int .i64) acc]) = some r'' :=
  loop_tr (fun a'' : Int × List Int => stOf [2, 3, 5, 6] [.ptr 0 0, .ptr 1 0, .rowA 2, .int .i64 a''.1] [.box [.list PK wy, .int .i64 s, .int .i64 lo], .box [.int .u32 aa, .int .u16 ap], .row (.int .i64) a''.2]) (fun a'' => I'' a''.1 a''.2) (fun a'' => m'' a''.1 a''.2) r'' (fun a'' => r43 a''.1 wy s lo aa ap a''.2)
    (fun a'' x hx => (round43 orc lp a''.1 wy s lo aa ap a''.2).trans hx) (fun a'' ha => Tr.all_mono (fun x'' hx => hx.imp id fun ⟨i', acc', h1, h2, h3⟩ => ⟨(i', acc'), h1, h2, h3⟩) (h (a''.1) (a''.2) ha)) (i, acc)
theorem loop43 (orc : Orc) : ls43.Ok T0 orc h43 0 0 b43 := by
  intro q'' hq'' x'' y'' r'' h
  obtain ⟨(i : Int), _⟩ := x''
  obtain ⟨⟨(wy : List ((Int × Int) × ((Int × Int) × List UInt8))), (s : Int), (lo : Int), _⟩, ⟨(aa : Int), (ap : Int), _⟩, (acc : List Int), _⟩ := y''
  obtain ⟨hc, rfl⟩ := Tr.get_on h
  show loopF (fun st => evC T0 orc (lpN T0 orc h43 0 q'') b43 0 st (roundK [2, 3, 5, 6] [5] 0)) (stOf [2, 3, 5, 6] [.ptr 0 0, .ptr 1 0, .rowA 2, .int .i64 i] [.box [.list PK wy, .int .i64 s, .int .i64 lo], .box [.int .u32 aa, .int .u16 ap], .row (.int .i64) acc]) = some (.exit 0, stOf [5] ([.rowA 0]) ([.row (.int .i64) (toL aa ap wy 0)]))
  simp only [rtC, Bool.and_eq_true, decide_eq_true_eq, List.isEmpty_iff, bigW] at hc
  obtain ⟨⟨rfl, rfl⟩, hb⟩ := hc
  refine wf43 _ wy s lo aa ap (toI aa ap wy) (fun i _ => (wy.length - i).toNat) _ ?_ _ 0 [] ⟨by omega, by omega, by simp, by simp⟩
  rintro i acc ⟨h0, h1, h2, h3⟩
  unfold r43
  by_cases hlt : i < wy.length
  · refine Tr.all_t (dec_true hlt) (Tr.all_t (dec_true h0) (Tr.all_t (dec_true hlt) ?_))
    rw [drop_get wy i.toNat (Ty.dflt PK) (by omega)] at h3
    have e1 : i.toNat + 1 = (i + 1).toNat := by omega
    refine Tr.all_br (fun hc => Tr.all_t (fits_true (by omega) (by omega)) (Tr.all_ret (.inr ⟨_, _, rfl, ?_, ?_⟩))) (fun hc => Tr.all_ret (.inr ⟨_, _, rfl, ?_, ?_⟩))
    · simp (disch := omega) only [IntWalk.i64_in]
      refine ⟨by omega, by omega, by simp; omega, ?_⟩
      rw [← h3, toL, hc, e1]
      simp
    · simp (disch := omega) only [IntWalk.i64_in]
      omega
    · simp (disch := omega) only [IntWalk.i64_in]
      refine ⟨by omega, by omega, by omega, ?_⟩
      rw [← h3, toL, hc, e1]
      rfl
    · simp (disch := omega) only [IntWalk.i64_in]
      omega
  · refine Tr.all_f (dec_false hlt) (Tr.all_ret (.inl ?_))
    rw [List.drop_of_length_le (by omega)] at h3
    rw [← h3, toL, List.append_nil]
def inC (a b : List Int) (i : Int) : Bool := decide (i = 0) && decide (a = b) && decide (a.length ≤ 1000000000)
noncomputable def b41 : Code := nthLoop c41 0
def ls41 : LoopSpec := { bid := 0, sh := [.d (.list (.int .i64)) false, .d (.list (.int .i64)) false, .d (.int .i64) false], so := [], F := fun (a, b, i, _) _ => .on (inC a b i) (.exit 0, [.dead], []) }
def r41 (a : List Int) (b : List Int) (i : Int) : Tr (St ⊕ (Ex × St)) := Tr.br (decide (i < (↑(List.length a) : Int))) (Tr.br (decide ((0 : Int) ≤ i)) (Tr.br (decide (i < (↑(List.length a) : Int))) (Tr.br (decide ((0 : Int) ≤ i)) (Tr.br (decide (i < (↑(List.length b) : Int))) (Tr.br (List.getD a (Int.toNat i) (Ty.dflt (Ty.int IntKind.i64)) != List.getD b (Int.toNat i) (Ty.dflt (Ty.int IntKind.i64))) (Tr.ret (Sum.inr (Ex.ret, stOf [4] [AV.bool false] []))) (Tr.ret (Sum.inl (stOf [0, 1, 5] [AV.list (Ty.int IntKind.i64) a, AV.list (Ty.int IntKind.i64) b, AV.int IntKind.i64 (IntKind.wrap IntKind.i64 (i + (1 : Int)))] [])))) Tr.no) Tr.no) Tr.no) Tr.no) (Tr.ret (Sum.inr (Ex.exit 0, stOf [4] [AV.dead] [])))
theorem round41 (orc : Orc) (lp : Lp) (a : List Int) (b : List Int) (i : Int) : evC T0 orc lp b41 0 (stOf [0, 1, 5] [.list (.int .i64) a, .list (.int .i64) b, .int .i64 i] []) (roundK [0, 1, 5] [4] 0) = (r41 a b i).get := by kernel_rfl
theorem wf41 (orc : Orc) (a : List Int) (b : List Int) (I'' : Int → Prop) (m'' : Int → Nat) (r'' : Ex × St) (h : ∀ (i : Int), I'' i → (r41 a b i).all fun x'' => x'' = .inr r'' ∨ ∃ (i' : Int), x'' = .inl (stOf [0, 1, 5] [.list (.int .i64) a, .list (.int .i64) b, .int .i64 i'] []) ∧ I'' i' ∧ m'' i' < m'' i) (lp : Lp) (i : Int) : I'' i →
    loopF (fun st => evC T0 orc lp b41 0 st (roundK [0, 1, 5] [4] 0)) (stOf [0, 1, 5] [.list (.int .i64) a, .list (.int .i64) b, .int .i64 i] []) = some r'' :=
  loop_tr (fun a'' : Int => stOf [0, 1, 5] [.list (.int .i64) a, .list (.int .i64) b, .int .i64 a''] []) (fun a'' => I'' a'') (fun a'' => m'' a'') r'' (fun a'' => r41 a b a'')
    (fun a'' x hx => (round41 orc lp a b a'').trans hx) (fun a'' ha => Tr.all_mono (fun x'' hx => hx.imp id fun ⟨i', h1, h2, h3⟩ => ⟨(i'), h1, h2, h3⟩) (h (a'') ha)) (i)
theorem loop41 (orc : Orc) : ls41.Ok T0 orc h41 0 0 b41 := by
  intro q'' hq'' x'' y'' r'' h
  obtain ⟨(a : List Int), (b : List Int), (i : Int), _⟩ := x''
  obtain ⟨hc, rfl⟩ := Tr.get_on h
  show loopF (fun st => evC T0 orc (lpN T0 orc h41 0 q'') b41 0 st (roundK [0, 1, 5] [4] 0)) (stOf [0, 1, 5] [.list (.int .i64) a, .list (.int .i64) b, .int .i64 i] []) = some (.exit 0, stOf [4] ([.dead]) ([]))
  simp only [inC, Bool.and_eq_true, decide_eq_true_eq] at hc
  obtain ⟨⟨rfl, rfl⟩, hb⟩ := hc
  refine wf41 _ a a (fun i => 0 ≤ i ∧ i ≤ a.length) (fun i => (a.length - i).toNat) _ ?_ _ 0 ⟨by omega, by omega⟩
  rintro i ⟨h0, h1⟩
  unfold r41
  by_cases hlt : i < a.length
  · refine Tr.all_t (dec_true hlt) (Tr.all_t (dec_true h0) (Tr.all_t (dec_true hlt) (Tr.all_t (dec_true h0) (Tr.all_t (dec_true hlt) (Tr.all_f (by simp) (Tr.all_ret (.inr ⟨_, rfl, ?_, ?_⟩)))))))
    · simp (disch := omega) only [IntWalk.i64_in]
      omega
    · simp (disch := omega) only [IntWalk.i64_in]
      omega
  · exact Tr.all_f (dec_false hlt) (Tr.all_ret (.inl rfl))
/-- derrickref09.Ints -/
def t41 (a : List Int) (b : List Int) : Tr Res := Tr.br ((↑(List.length a) : Int) != (↑(List.length b) : Int)) (Tr.ret ([AV.bool false], [])) (Tr.br (inC a b (0 : Int)) (Tr.ret ([AV.bool true], [])) Tr.no)
def os41 : OSpec := { f := 41, sh := [.d (.list (.int .i64)) false, .d (.list (.int .i64)) false], so := [], F := fun (a, b, _) _ => t41 a b }
theorem fn41 (a : List Int) (b : List Int) : evC T0 (orcB [] []) (lpOf h41 0 (lsOf [ls41])) c41 1000000 (startSt [.list (.int .i64) a, .list (.int .i64) b] [] Try.f41.ntmps) (finishK T0 false 0 Try.f41) = (t41 a b).get := by kernel_rfl
theorem ok41 : os41.Ok Try.prog := by
  refine os_ok mixed0 tab0 (orcB_sound all_nil all_nil) h41 (d := 0) (n0 := 0) (S := lsOf [ls41]) Try.func41 (by kernel_rfl) (c := c41) (by kernel_rfl) rfl (loops_eq (xs := [(0, b41)]) (by kernel_rfl) (all_cons (ls_here (loop41 _)) all_nil)) (by omega) (by kernel_rfl) ?_
  intro x'' y'' q'' hq''
  obtain ⟨(a : List Int), (b : List Int), _⟩ := x''
  exact (fn41 a b).trans hq''
def fs41 : FSpec := fsT 41 [((.list (.int .i64)), false), ((.list (.int .i64)), false)] [(.bool, false)] fun (a, b, _) => t41 a b
theorem okf41 : fs41.Ok Try.prog := fsT_ok fun x'' r'' hr'' => ok41 x'' () r'' hr''
/-- derrickref18.Take -/
def t48 (x : (List ((Int × Int) × ((Int × Int) × List UInt8)) × (Int × Int))) (k : Int) : Tr Res := Tr.br (decide (k ≥ (0 : Int))) (Tr.br (!decide (k < (↑(List.length (Prod.fst x)) : Int))) (Tr.ret ([AV.agg [AV.list PK (Prod.fst x), AV.int IntKind.i64 (Prod.fst (Prod.snd x)), AV.int IntKind.i64 (Prod.snd (Prod.snd x))], AV.agg [AV.int IntKind.u32 (0 : Int), AV.int IntKind.u16 (0 : Int), AV.int IntKind.u32 (0 : Int), AV.int IntKind.u16 (0 : Int), AV.str []], AV.bool false], [])) (Tr.br (tkC k (0 : Int) (Prod.fst x) []) (Tr.br (decide ((0 : Int) ≤ k)) (Tr.br (decide (k < (↑(List.length (Prod.fst x)) : Int))) (Tr.ret ([AV.agg [AV.list PK (List.eraseIdx (Prod.fst x) (Int.toNat k)), AV.int IntKind.i64 (Prod.fst (Prod.snd x)), AV.int IntKind.i64 (Prod.snd (Prod.snd x))], AV.agg [AV.int IntKind.u32 (Prod.fst (Prod.fst (List.getD (Prod.fst x) (Int.toNat k) (Ty.dflt PK)))), AV.int IntKind.u16 (Prod.snd (Prod.fst (List.getD (Prod.fst x) (Int.toNat k) (Ty.dflt PK)))), AV.int IntKind.u32 (Prod.fst (Prod.fst (Prod.snd (List.getD (Prod.fst x) (Int.toNat k) (Ty.dflt PK))))), AV.int IntKind.u16 (Prod.snd (Prod.fst (Prod.snd (List.getD (Prod.fst x) (Int.toNat k) (Ty.dflt PK))))), AV.str (Prod.snd (Prod.snd (List.getD (Prod.fst x) (Int.toNat k) (Ty.dflt PK))))], AV.bool true], [])) Tr.no) Tr.no) Tr.no)) (Tr.ret ([AV.agg [AV.list PK (Prod.fst x), AV.int IntKind.i64 (Prod.fst (Prod.snd x)), AV.int IntKind.i64 (Prod.snd (Prod.snd x))], AV.agg [AV.int IntKind.u32 (0 : Int), AV.int IntKind.u16 (0 : Int), AV.int IntKind.u32 (0 : Int), AV.int IntKind.u16 (0 : Int), AV.str []], AV.bool false], []))
def os48 : OSpec := { f := 48, sh := [.d NT true, .d (.int .i64) false], so := [], F := fun (x, k, _) _ => t48 x k }
theorem fn48 (x : (List ((Int × Int) × ((Int × Int) × List UInt8)) × (Int × Int))) (k : Int) : evC T0 (orcB [fs53] []) (lpOf h48 0 (lsOf [ls48])) c48 1000000 (startSt [AV.ofTy NT x true, .int .i64 k] [] Try.f48.ntmps) (finishK T0 false 0 Try.f48) = (t48 x k).get := by kernel_rfl
theorem ok48 : os48.Ok Try.prog := by
  refine os_ok mixed0 tab0 (orcB_sound (all_cons okf53 all_nil) all_nil) h48 (d := 0) (n0 := 0) (S := lsOf [ls48]) Try.func48 (by kernel_rfl) (c := c48) (by kernel_rfl) rfl (loops_eq (xs := [(0, b48)]) (by kernel_rfl) (all_cons (ls_here (loop48 _)) all_nil)) (by omega) (by kernel_rfl) ?_
  intro x'' y'' q'' hq''
  obtain ⟨(x : (List ((Int × Int) × ((Int × Int) × List UInt8)) × (Int × Int))), (k : Int), _⟩ := x''
  exact (fn48 x k).trans hq''
def fs48 : FSpec := fsT 48 [(NT, true), ((.int .i64), false)] [(NT, true), (PK, true), (.bool, false)] fun (x, k, _) => t48 x k
theorem okf48 : fs48.Ok Try.prog := fsT_ok fun x'' r'' hr'' => ok48 x'' () r'' hr''
/-- derrickref18.To -/
def t43 (x : (List ((Int × Int) × ((Int × Int) × List UInt8)) × (Int × Int))) (a : (Int × Int)) : Tr Res := Tr.br (rtC (0 : Int) [] (Prod.fst x)) (Tr.ret ([AV.list (Ty.int IntKind.i64) (toL (Prod.fst a) (Prod.snd a) (Prod.fst x) (0 : Int))], [])) Tr.no
def os43 : OSpec := { f := 43, sh := [.d NT true, .d Ad true], so := [], F := fun (x, a, _) _ => t43 x a }
theorem fn43 (x : (List ((Int × Int) × ((Int × Int) × List UInt8)) × (Int × Int))) (a : (Int × Int)) : evC T0 (orcB [fs53] []) (lpOf h43 0 (lsOf [ls43])) c43 1000000 (startSt [AV.ofTy NT x true, AV.ofTy Ad a true] [] Try.f43.ntmps) (finishK T0 false 0 Try.f43) = (t43 x a).get := by kernel_rfl
theorem ok43 : os43.Ok Try.prog := by
  refine os_ok mixed0 tab0 (orcB_sound (all_cons okf53 all_nil) all_nil) h43 (d := 0) (n0 := 0) (S := lsOf [ls43]) Try.func43 (by kernel_rfl) (c := c43) (by kernel_rfl) rfl (loops_eq (xs := [(0, b43)]) (by kernel_rfl) (all_cons (ls_here (loop43 _)) all_nil)) (by omega) (by kernel_rfl) ?_
  intro x'' y'' q'' hq''
  obtain ⟨(x : (List ((Int × Int) × ((Int × Int) × List UInt8)) × (Int × Int))), (a : (Int × Int)), _⟩ := x''
  exact (fn43 x a).trans hq''
def fs43 : FSpec := fsT 43 [(NT, true), (Ad, true)] [((.list (.int .i64)), false)] fun (x, a, _) => t43 x a
theorem okf43 : fs43.Ok Try.prog := fsT_ok fun x'' r'' hr'' => ok43 x'' () r'' hr''
/-- derrickref18.Lose -/
def t50 (x : (List ((Int × Int) × ((Int × Int) × List UInt8)) × (Int × Int))) (k : Int) : Tr Res := Tr.br (decide (k ≥ (0 : Int))) (Tr.br (!decide (k < (↑(List.length (Prod.fst x)) : Int))) (Tr.ret ([AV.agg [AV.list PK (Prod.fst x), AV.int IntKind.i64 (Prod.fst (Prod.snd x)), AV.int IntKind.i64 (Prod.snd (Prod.snd x))], AV.bool false], [])) (Tr.br (tkC k (0 : Int) (Prod.fst x) []) (Tr.br (decide ((0 : Int) ≤ k)) (Tr.br (decide (k < (↑(List.length (Prod.fst x)) : Int))) (Tr.ret ([AV.agg [AV.list PK (List.eraseIdx (Prod.fst x) (Int.toNat k)), AV.int IntKind.i64 (Prod.fst (Prod.snd x)), AV.int IntKind.i64 (IntKind.wrap IntKind.i64 (Prod.snd (Prod.snd x) + (1 : Int)))], AV.bool true], [])) Tr.no) Tr.no) Tr.no)) (Tr.ret ([AV.agg [AV.list PK (Prod.fst x), AV.int IntKind.i64 (Prod.fst (Prod.snd x)), AV.int IntKind.i64 (Prod.snd (Prod.snd x))], AV.bool false], []))
def os50 : OSpec := { f := 50, sh := [.d NT true, .d (.int .i64) false], so := [], F := fun (x, k, _) _ => t50 x k }
theorem fn50 (x : (List ((Int × Int) × ((Int × Int) × List UInt8)) × (Int × Int))) (k : Int) : evC T0 (orcB [fs48] []) (lpOf h50 0 (lsOf [])) c50 1000000 (startSt [AV.ofTy NT x true, .int .i64 k] [] Try.f50.ntmps) (finishK T0 false 0 Try.f50) = (t50 x k).get := by kernel_rfl
theorem ok50 : os50.Ok Try.prog := by
  refine os_ok mixed0 tab0 (orcB_sound (all_cons okf48 all_nil) all_nil) h50 (d := 0) (n0 := 0) (S := lsOf []) Try.func50 (by kernel_rfl) (c := c50) (by kernel_rfl) rfl (no_loops (by kernel_rfl)) (by omega) (by kernel_rfl) ?_
  intro x'' y'' q'' hq''
  obtain ⟨(x : (List ((Int × Int) × ((Int × Int) × List UInt8)) × (Int × Int))), (k : Int), _⟩ := x''
  exact (fn50 x k).trans hq''
def fs50 : FSpec := fsT 50 [(NT, true), ((.int .i64), false)] [(NT, true), (.bool, false)] fun (x, k, _) => t50 x k
theorem okf50 : fs50.Ok Try.prog := fsT_ok fun x'' r'' hr'' => ok50 x'' () r'' hr''
end Go.Proofs.YtgiofacmcpakoaaE
