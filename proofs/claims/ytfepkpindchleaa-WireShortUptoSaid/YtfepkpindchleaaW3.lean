/- numbers as bytes. -/
import Derived.Test.YtfepkpindchleaaW2
namespace Go.Proofs.YtfepkpindchleaaE
open Go
set_option linter.unusedVariables false
set_option linter.unusedSimpArgs false
def hiI (n : Int) : Int := IntKind.wrap .u8 (Int.fdiv n 256)
def loI (n : Int) : Int := IntKind.wrap .u8 n
def btC (n many m i : Int) (b : List Int) : Bool := decide (many = 2) && decide (m = 2) && decide (i = 0) && decide (b = [0, 0])
noncomputable def b65 : Code := nthLoop c65 0
def ls65 : LoopSpec := { bid := 0, sh := [.d (.int .u32) false, .d (.int .i64) false, .row 0, .d (.int .i64) false, .d (.int .i64) false], so := [.row (.int .u8)], F := fun (n, many, m, i, _) (b, _) => .on (btC n many m i b) (.exit 0, [.rowA 0], [.row (.int .u8) [hiI n, loI n]]) }
def r65 (n : Int) (many : Int) (m : Int) (i : Int) (b : List Int) : Tr (St ⊕ (Ex × St)) := Tr.br (decide (i < m)) (Tr.br (decide ((0 : Int) ≤ IntKind.wrap IntKind.i64 ((8 : Int) * i))) (Tr.br (decide ((0 : Int) ≤ IntKind.wrap IntKind.i64 (IntKind.wrap IntKind.i64 (many - (1 : Int)) - i))) (Tr.br (decide (IntKind.wrap IntKind.i64 (IntKind.wrap IntKind.i64 (many - (1 : Int)) - i) < (↑(List.length b) : Int))) (Tr.ret (Sum.inl (stOf [0, 1, 5, 9, 10] [AV.int IntKind.u32 n, AV.int IntKind.i64 many, AV.rowA 0, AV.int IntKind.i64 m, AV.int IntKind.i64 (IntKind.wrap IntKind.i64 (i + (1 : Int)))] [LObj.row (Ty.int IntKind.u8) (List.set b (Int.toNat (IntKind.wrap IntKind.i64 (IntKind.wrap IntKind.i64 (many - (1 : Int)) - i))) (IntKind.wrap IntKind.u8 (Int.fdiv n ((2 : Int) ^ min (Int.toNat (IntKind.wrap IntKind.i64 ((8 : Int) * i))) (IntKind.bits IntKind.u32)))))]))) Tr.no) Tr.no) Tr.no) (Tr.ret (Sum.inr (Ex.exit 0, stOf [5] [AV.rowA 0] [LObj.row (Ty.int IntKind.u8) b])))
set_option maxRecDepth 1000000 in
theorem round65 (orc : Orc) (lp : Lp) (n : Int) (many : Int) (m : Int) (i : Int) (b : List Int) : evC T0 orc lp b65 0 (stOf [0, 1, 5, 9, 10] [.int .u32 n, .int .i64 many, .rowA 0, .int .i64 m, .int .i64 i] [.row (.int .u8) b]) (roundK [0, 1, 5, 9, 10] [5] 0) = (r65 n many m i b).get := by kernel_rfl
theorem wf65 (orc : Orc) (n : Int) (many : Int) (m : Int) (I'' : Int → List Int → Prop) (m'' : Int → List Int → Nat) (r'' : Ex × St) (h : ∀ (i : Int) (b : List Int), I'' i b → (r65 n many m i b).all fun x'' => x'' = .inr r'' ∨ ∃ (i' : Int) (b' : List Int), x'' = .inl (stOf [0, 1, 5, 9, 10] [.int .u32 n, .int .i64 many, .rowA 0, .int .i64 m, .int .i64 i'] [.row (.int .u8) b']) ∧ I'' i' b' ∧ m'' i' b' < m'' i b) (lp : Lp) (i : Int) (b : List Int) : I'' i b →
    loopF (fun st => evC T0 orc lp b65 0 st (roundK [0, 1, 5, 9, 10] [5] 0)) (stOf [0, 1, 5, 9, 10] [.int .u32 n, .int .i64 many, .rowA 0, .int .i64 m, .int .i64 i] [.row (.int .u8) b]) = some r'' :=
  loop_tr (fun a'' : Int × List Int => stOf [0, 1, 5, 9, 10] [.int .u32 n, .int .i64 many, .rowA 0, .int .i64 m, .int .i64 a''.1] [.row (.int .u8) a''.2]) (fun a'' => I'' a''.1 a''.2) (fun a'' => m'' a''.1 a''.2) r'' (fun a'' => r65 n many m a''.1 a''.2)
    (fun a'' x hx => (round65 orc lp n many m a''.1 a''.2).trans hx) (fun a'' ha => Tr.all_mono (fun x'' hx => hx.imp id fun ⟨i', b', h1, h2, h3⟩ => ⟨(i', b'), h1, h2, h3⟩) (h (a''.1) (a''.2) ha)) (i, b)
theorem loop65 (orc : Orc) : ls65.Ok T0 orc h65 0 0 b65 := by
  intro q'' hq'' x'' y'' r'' h
  obtain ⟨(n : Int), (many : Int), (m : Int), (i : Int), _⟩ := x''
  obtain ⟨(b : List Int), _⟩ := y''
  obtain ⟨hc, rfl⟩ := Tr.get_on h
  show loopF (fun st => evC T0 orc (lpN T0 orc h65 0 q'') b65 0 st (roundK [0, 1, 5, 9, 10] [5] 0)) (stOf [0, 1, 5, 9, 10] [.int .u32 n, .int .i64 many, .rowA 0, .int .i64 m, .int .i64 i] [.row (.int .u8) b]) = some (.exit 0, stOf [5] ([.rowA 0]) ([.row (.int .u8) [hiI n, loI n]]))
  simp only [btC, Bool.and_eq_true, decide_eq_true_eq] at hc
  obtain ⟨⟨⟨rfl, rfl⟩, rfl⟩, rfl⟩ := hc
  refine wf65 _ n 2 2 (fun i b => (i = 0 ∧ b = [0, 0]) ∨ (i = 1 ∧ b = [0, loI n]) ∨ (i = 2 ∧ b = [hiI n, loI n])) (fun i _ => (2 - i).toNat) _ ?_ _ 0 [0, 0] (.inl ⟨rfl, rfl⟩)
  rintro i b (⟨rfl, rfl⟩ | ⟨rfl, rfl⟩ | ⟨rfl, rfl⟩)
  · refine Tr.all_t rfl (Tr.all_t (by decide) (Tr.all_t (by decide) (Tr.all_t (by decide) (Tr.all_ret (.inr ⟨_, _, rfl, .inr (.inl ⟨by decide, ?_⟩), by decide⟩)))))
    show [0, IntKind.wrap .u8 (Int.fdiv n 1)] = _
    simp [loI]
  · refine Tr.all_t rfl (Tr.all_t (by decide) (Tr.all_t (by decide) (Tr.all_t rfl (Tr.all_ret (.inr ⟨_, _, rfl, .inr (.inr ⟨by decide, rfl⟩), by decide⟩)))))
  · exact Tr.all_f rfl (Tr.all_ret (.inl rfl))
/-- octet.bytes -/
def t65 (n : Int) (many : Int) : Tr Res := Tr.br (decide ((0 : Int) ≤ many) && many == many && fits (Int.toNat many) 1) (Tr.br (btC n many many (0 : Int) (List.replicate (Int.toNat many) (Ty.dflt (Ty.int IntKind.u8)))) (Tr.ret ([AV.str [UInt8.ofNat (Int.toNat (hiI n)), UInt8.ofNat (Int.toNat (loI n))]], [])) Tr.no) Tr.no
def os65 : OSpec := { f := 65, sh := [.d (.int .u32) false, .d (.int .i64) false], so := [], F := fun (n, many, _) _ => t65 n many }
set_option maxRecDepth 1000000 in
theorem fn65 (n : Int) (many : Int) : evC T0 (orcB [] []) (lpOf h65 0 (lsOf [ls65])) c65 1000000 (startSt [.int .u32 n, .int .i64 many] [] Try.f65.ntmps) (finishK T0 false 0 Try.f65) = (t65 n many).get := by kernel_rfl
theorem ok65 : os65.Ok Try.prog := by
  refine os_ok mixed0 tab0 (orcB_sound all_nil all_nil) h65 (d := 0) (n0 := 0) (S := lsOf [ls65]) Try.func65 (by kernel_rfl) (c := c65) (by kernel_rfl) rfl (loops_eq (xs := [(0, b65)]) (by kernel_rfl) (all_cons (ls_here (loop65 _)) all_nil)) (by omega) (by kernel_rfl) ?_
  intro x'' y'' q'' hq''
  obtain ⟨(n : Int), (many : Int), _⟩ := x''
  exact (fn65 n many).trans hq''
def fs65 : FSpec := fsT 65 [((.int .u32), false), ((.int .i64), false)] [(.str, false)] fun (n, many, _) => t65 n many
theorem okf65 : fs65.Ok Try.prog := fsT_ok fun x'' r'' hr'' => ok65 x'' () r'' hr''
/-- octet.Put16 -/
def t42 (n : Int) : Tr Res := Tr.ret ([AV.str [UInt8.ofNat (Int.toNat (hiI (IntKind.wrap IntKind.u32 n))), UInt8.ofNat (Int.toNat (loI (IntKind.wrap IntKind.u32 n)))]], [])
def os42 : OSpec := { f := 42, sh := [.d (.int .u16) false], so := [], F := fun (n, _) _ => t42 n }
set_option maxRecDepth 1000000 in
theorem fn42 (n : Int) : evC T0 (orcB [fs65] []) (lpOf h42 0 (lsOf [])) c42 1000000 (startSt [.int .u16 n] [] Try.f42.ntmps) (finishK T0 false 0 Try.f42) = (t42 n).get := by kernel_rfl
theorem ok42 : os42.Ok Try.prog := by
  refine os_ok mixed0 tab0 (orcB_sound (all_cons okf65 all_nil) all_nil) h42 (d := 0) (n0 := 0) (S := lsOf []) Try.func42 (by kernel_rfl) (c := c42) (by kernel_rfl) rfl (no_loops (by kernel_rfl)) (by omega) (by kernel_rfl) ?_
  intro x'' y'' q'' hq''
  obtain ⟨(n : Int), _⟩ := x''
  exact (fn42 n).trans hq''
def fs42 : FSpec := fsT 42 [((.int .u16), false)] [(.str, false)] fun (n, _) => t42 n
theorem okf42 : fs42.Ok Try.prog := fsT_ok fun x'' r'' hr'' => ok42 x'' () r'' hr''
/-- A number as two bytes. -/
def put16 (n : Int) : List UInt8 := [UInt8.ofNat (n / 256).toNat, UInt8.ofNat (n % 256).toNat]
def n16C (n : Int) : Bool := decide (0 ≤ n) && decide (n ≤ 65535)
def fs42w : FSpec := fs42.like fun (n, _) => .on (n16C n) (put16 n, ())
def fs45w : FSpec := fs45.like fun (n, _) => .on (n16C n) (put16 n, ())
theorem okf45w : fs45w.Ok Try.prog := by
  refine flike_ok okf45 _ ?_
  rintro ⟨(n : Int), _⟩ y h
  obtain ⟨hc, rfl⟩ := Tr.get_on h
  simp only [n16C, Bool.and_eq_true, decide_eq_true_eq] at hc
  refine convR_of (vs := [.str (put16 n)]) rfl rfl (Tr.get_of_all ?_)
  show (t45 n).all _
  unfold t45
  refine Tr.all_ret ?_
  rw [Int.tdiv_eq_ediv_of_nonneg hc.1, Int.tmod_eq_emod_of_nonneg hc.1, IntWalk.u16_in _ (by omega), IntWalk.u8_in _ (by omega), IntWalk.u8_in _ (by omega)]
  rfl
theorem okf42w : fs42w.Ok Try.prog := by
  refine flike_ok okf42 _ ?_
  rintro ⟨(n : Int), _⟩ y h
  obtain ⟨hc, rfl⟩ := Tr.get_on h
  simp only [n16C, Bool.and_eq_true, decide_eq_true_eq] at hc
  refine convR_of (vs := [.str (put16 n)]) rfl rfl (Tr.get_of_all ?_)
  show (t42 n).all _
  unfold t42
  refine Tr.all_ret ?_
  rw [IntWalk.u32_in _ (by omega)]
  unfold hiI loI put16
  rw [Int.fdiv_eq_ediv_of_nonneg _ (by omega), IntWalk.u8_in (n / 256) (by omega), IntKind.wrap_u8]
end Go.Proofs.YtfepkpindchleaaE
