/- octets. -/
import Derived.Test.YtfepkpindchleaaW1
namespace Go.Proofs.YtfepkpindchleaaE
open Go
set_option linter.unusedVariables false
set_option linter.unusedSimpArgs false
def someB (s : List UInt8) (at_ many : Int) : Bool := decide (0 ≤ at_) && (decide (0 ≤ many) && decide (at_ + many ≤ s.length))
def someV (s : List UInt8) (at_ many : Int) : List UInt8 := (s.drop at_.toNat).take many.toNat
def fs48w : FSpec := fs48.like fun (s, at_, many, _) => .br (bigS s) (.br (someB s at_ many) (.ret (someV s at_ many, at_ + many, (0 : Int), ())) (.ret (([] : List UInt8), (0 : Int), (2 : Int), ()))) .no
theorem okf48w : fs48w.Ok Try.prog := by
  refine flike_ok okf48 _ ?_
  rintro ⟨(s : List UInt8), (at_ : Int), (many : Int), _⟩ y h
  simp only [Tr.get] at h
  cases hb : bigS s with
  | false => rw [hb] at h; cases h
  | true =>
    rw [hb, cond_true] at h
    simp only [bigS, decide_eq_true_eq] at hb
    cases hs : someB s at_ many with
    | true =>
      rw [hs, cond_true] at h
      cases h
      simp only [someB, Bool.and_eq_true, decide_eq_true_eq] at hs
      obtain ⟨h0, h1, h2⟩ := hs
      refine convR_of (vs := [.str (someV s at_ many), .int .i64 (at_ + many), .int .i64 0]) rfl rfl (Tr.get_of_all ?_)
      show (t48 s at_ many).all _
      unfold t48
      simp (disch := omega) only [IntWalk.i64_in]
      refine Tr.all_f (dec_false (by omega)) (Tr.all_f (dec_false (by omega)) (Tr.all_f (dec_false (by omega)) (Tr.all_f (dec_false (by omega)) (Tr.all_t ?_ (Tr.all_t ?_ (Tr.all_ret ?_))))))
      · rw [dec_true (by omega), dec_true (by omega)]; rfl
      · rw [dec_true (by omega), dec_true (by omega)]; rfl
      · rw [show Int.toNat (at_ + many) - Int.toNat at_ = many.toNat by omega]
        rfl
    | false =>
      rw [hs, cond_false] at h
      cases h
      refine convR_of (vs := [.str [], .int .i64 0, .int .i64 2]) rfl rfl (Tr.get_of_all ?_)
      show (t48 s at_ many).all _
      unfold t48
      have hn : ¬ (0 ≤ at_ ∧ 0 ≤ many ∧ at_ + many ≤ s.length) := fun ⟨a, b, c⟩ => by
        simp [someB, a, b, c] at hs
      refine Tr.all_br (fun _ => Tr.all_ret rfl) fun c1 => Tr.all_br (fun _ => Tr.all_ret rfl) fun c2 => Tr.all_br (fun _ => Tr.all_ret rfl) fun c3 => Tr.all_br (fun _ => Tr.all_ret rfl) fun c4 => ?_
      simp only [decide_eq_false_iff_not] at c1 c2 c3
      rw [IntWalk.i64_in _ (by omega)] at c4
      simp only [decide_eq_false_iff_not] at c4
      exact absurd ⟨by omega, by omega, by omega⟩ hn
/-- A byte more behind a number. -/
def stepN (n : Int) (c : UInt8) : Int := IntKind.wrap IntKind.u32 (↑(BitVec.toNat (BitVec.ofInt (IntKind.bits IntKind.u32) (IntKind.wrap IntKind.u32 (n * (2 : Int) ^ min (Int.toNat (8 : Int)) (IntKind.bits IntKind.u32))) ||| BitVec.ofInt (IntKind.bits IntKind.u32) (IntKind.wrap IntKind.u32 (↑(UInt8.toNat c) : Int)))) : Int)
theorem stepN_eq {n : Nat} (hn : n < 65536) (c : UInt8) : stepN n c = ((n * 256 + c.toNat : Nat) : Int) := by
  have hc := c.toNat_lt
  have e1 : ((n : Int) * (2 : Int) ^ min (Int.toNat (8 : Int)) (IntKind.bits IntKind.u32)) = ((n * 256 : Nat) : Int) := by
    simp [IntKind.bits]
  have e2 : ∀ m : Nat, m < 4294967296 → BitVec.ofInt (IntKind.bits IntKind.u32) (m : Int) = BitVec.ofNat 32 m := fun m _ => by
    simp [IntKind.bits, BitVec.ofInt_natCast]
  unfold stepN
  rw [e1, IntWalk.u32_in ((n * 256 : Nat) : Int) (by omega), IntWalk.u32_in ((c.toNat : Nat) : Int) (by omega)]
  have e3 : BitVec.toNat (BitVec.ofInt (IntKind.bits IntKind.u32) ((n * 256 : Nat) : Int) ||| BitVec.ofInt (IntKind.bits IntKind.u32) ((c.toNat : Nat) : Int)) = n * 256 + c.toNat := by
    show BitVec.toNat (BitVec.ofInt 32 ((n * 256 : Nat) : Int) ||| BitVec.ofInt 32 ((c.toNat : Nat) : Int)) = _
    rw [BitVec.ofInt_natCast, BitVec.ofInt_natCast, BitVec.toNat_or, BitVec.toNat_ofNat, BitVec.toNat_ofNat, Nat.mod_eq_of_lt (by omega), Nat.mod_eq_of_lt (by omega)]
    have := Nat.shiftLeft_add_eq_or_of_lt (a := n) (b := c.toNat) (i := 8) (by omega)
    rw [Nat.shiftLeft_eq] at this
    exact this.symm
  rw [e3, IntWalk.u32_in _ (by omega)]
def numB : List UInt8 → Int := fun b => ((b.foldl (fun n c => n * 256 + c.toNat) 0 : Nat) : Int)
def nbC (b : List UInt8) (n len i : Int) : Bool := decide (n = 0) && decide (i = 0) && decide (len = b.length) && decide (b.length ≤ 2)
def nbI (b : List UInt8) (n i : Int) : Prop := 0 ≤ i ∧ i ≤ b.length ∧ n = numB (b.take i.toNat)
theorem nb_step {b : List UInt8} {i : Nat} (hi : i < b.length) (h2 : b.length ≤ 2) : stepN (numB (b.take i)) (b.getD i 0) = numB (b.take (i + 1)) := by
  rw [List.take_add_one, List.getElem?_eq_getElem hi, List.getD_eq_getElem?_getD, List.getElem?_eq_getElem hi]
  match b, i, hi, h2 with
  | [x], 0, _, _ =>
    have := stepN_eq (n := 0) (by omega) x
    simpa [numB] using this
  | [x, y], 0, _, _ =>
    have := stepN_eq (n := 0) (by omega) x
    simpa [numB] using this
  | [x, y], 1, _, _ =>
    have hx := x.toNat_lt
    have := stepN_eq (n := x.toNat) (by omega) y
    simpa [numB] using this
  | _ :: _ :: _ :: _, _, _, h => simp at h
noncomputable def b67 : Code := nthLoop c67 0
def ls67 : LoopSpec := { bid := 0, sh := [.d .str false, .d (.int .i64) false, .d (.int .i64) false, .d (.int .u32) false, .d (.int .i64) false, .d (.int .i64) false], so := [], F := fun (b, nx, e, n, len, i, _) _ => .on (nbC b n len i) (.exit 0, [.int .i64 nx, .int .i64 e, .int .u32 (numB b)], []) }
def r67 (b : List UInt8) (nx : Int) (e : Int) (n : Int) (len : Int) (i : Int) : Tr (St ⊕ (Ex × St)) := Tr.br (decide (i < len)) (Tr.br (decide ((0 : Int) ≤ i)) (Tr.br (decide (i < (↑(List.length b) : Int))) (Tr.ret (Sum.inl (stOf [9, 10, 11, 12, 23, 24] [AV.str b, AV.int IntKind.i64 nx, AV.int IntKind.i64 e, AV.int IntKind.u32 (IntKind.wrap IntKind.u32 (↑(BitVec.toNat (BitVec.ofInt (IntKind.bits IntKind.u32) (IntKind.wrap IntKind.u32 (n * (2 : Int) ^ min (Int.toNat (8 : Int)) (IntKind.bits IntKind.u32))) ||| BitVec.ofInt (IntKind.bits IntKind.u32) (IntKind.wrap IntKind.u32 (↑(UInt8.toNat (List.getD b (Int.toNat i) 0)) : Int)))) : Int)), AV.int IntKind.i64 len, AV.int IntKind.i64 (IntKind.wrap IntKind.i64 (i + (1 : Int)))] []))) Tr.no) Tr.no) (Tr.ret (Sum.inr (Ex.exit 0, stOf [10, 11, 12] [AV.int IntKind.i64 nx, AV.int IntKind.i64 e, AV.int IntKind.u32 n] [])))
set_option maxRecDepth 1000000 in
theorem round67 (orc : Orc) (lp : Lp) (b : List UInt8) (nx : Int) (e : Int) (n : Int) (len : Int) (i : Int) : evC T0 orc lp b67 0 (stOf [9, 10, 11, 12, 23, 24] [.str b, .int .i64 nx, .int .i64 e, .int .u32 n, .int .i64 len, .int .i64 i] []) (roundK [9, 10, 11, 12, 23, 24] [10, 11, 12] 0) = (r67 b nx e n len i).get := by kernel_rfl
theorem wf67 (orc : Orc) (b : List UInt8) (nx : Int) (e : Int) (len : Int) (I'' : Int → Int → Prop) (m'' : Int → Int → Nat) (r'' : Ex × St) (h : ∀ (n : Int) (i : Int), I'' n i → (r67 b nx e n len i).all fun x'' => x'' = .inr r'' ∨ ∃ (n' : Int) (i' : Int), x'' = .inl (stOf [9, 10, 11, 12, 23, 24] [.str b, .int .i64 nx, .int .i64 e, .int .u32 n', .int .i64 len, .int .i64 i'] []) ∧ I'' n' i' ∧ m'' n' i' < m'' n i) (lp : Lp) (n : Int) (i : Int) : I'' n i →
    loopF (fun st => evC T0 orc lp b67 0 st (roundK [9, 10, 11, 12, 23, 24] [10, 11, 12] 0)) (stOf [9, 10, 11, 12, 23, 24] [.str b, .int .i64 nx, .int .i64 e, .int .u32 n, .int .i64 len, .int .i64 i] []) = some r'' :=
  loop_tr (fun a'' : Int × Int => stOf [9, 10, 11, 12, 23, 24] [.str b, .int .i64 nx, .int .i64 e, .int .u32 a''.1, .int .i64 len, .int .i64 a''.2] []) (fun a'' => I'' a''.1 a''.2) (fun a'' => m'' a''.1 a''.2) r'' (fun a'' => r67 b nx e a''.1 len a''.2)
    (fun a'' x hx => (round67 orc lp b nx e a''.1 len a''.2).trans hx) (fun a'' ha => Tr.all_mono (fun x'' hx => hx.imp id fun ⟨n', i', h1, h2, h3⟩ => ⟨(n', i'), h1, h2, h3⟩) (h (a''.1) (a''.2) ha)) (n, i)
theorem loop67 (orc : Orc) : ls67.Ok T0 orc h67 0 0 b67 := by
  intro q'' hq'' x'' y'' r'' h
  obtain ⟨(b : List UInt8), (nx : Int), (e : Int), (n : Int), (len : Int), (i : Int), _⟩ := x''
  obtain ⟨hc, rfl⟩ := Tr.get_on h
  show loopF (fun st => evC T0 orc (lpN T0 orc h67 0 q'') b67 0 st (roundK [9, 10, 11, 12, 23, 24] [10, 11, 12] 0)) (stOf [9, 10, 11, 12, 23, 24] [.str b, .int .i64 nx, .int .i64 e, .int .u32 n, .int .i64 len, .int .i64 i] []) = some (.exit 0, stOf [10, 11, 12] ([.int .i64 nx, .int .i64 e, .int .u32 (numB b)]) ([]))
  simp only [nbC, Bool.and_eq_true, decide_eq_true_eq] at hc
  obtain ⟨⟨⟨rfl, rfl⟩, rfl⟩, h2⟩ := hc
  refine wf67 _ b nx e b.length (nbI b) (fun _ i => (b.length - i).toNat) _ ?_ _ 0 0 ⟨by omega, by omega, by simp [numB]⟩
  rintro n i ⟨h0, h1, rfl⟩
  unfold r67
  by_cases hlt : i < b.length
  · refine Tr.all_t (dec_true hlt) (Tr.all_t (dec_true h0) (Tr.all_t (dec_true hlt) (Tr.all_ret (.inr ⟨_, _, rfl, ?_, ?_⟩))))
    · rw [IntWalk.i64_in _ (by omega)]
      exact ⟨by omega, by omega, by rw [show (i + 1).toNat = i.toNat + 1 by omega]; exact nb_step (by omega) h2⟩
    · rw [IntWalk.i64_in _ (by omega)]
      omega
  · refine Tr.all_f (dec_false hlt) (Tr.all_ret (.inl ?_))
    rw [List.take_of_length_le (by omega)]
noncomputable def b68 : Code := nthLoop c68 0
def ls68 : LoopSpec := { bid := 0, sh := [.d .str false, .d (.int .i64) false, .d (.int .i64) false, .d (.int .u32) false, .d (.int .i64) false, .d (.int .i64) false], so := [], F := fun (b, nx, e, n, len, i, _) _ => .on (nbC b n len i) (.exit 0, [.int .i64 nx, .int .i64 e, .int .u32 (numB b)], []) }
def r68 (b : List UInt8) (nx : Int) (e : Int) (n : Int) (len : Int) (i : Int) : Tr (St ⊕ (Ex × St)) := Tr.br (decide (i < len)) (Tr.br (decide ((0 : Int) ≤ i)) (Tr.br (decide (i < (↑(List.length b) : Int))) (Tr.ret (Sum.inl (stOf [9, 10, 11, 12, 23, 24] [AV.str b, AV.int IntKind.i64 nx, AV.int IntKind.i64 e, AV.int IntKind.u32 (IntKind.wrap IntKind.u32 (↑(BitVec.toNat (BitVec.ofInt (IntKind.bits IntKind.u32) (IntKind.wrap IntKind.u32 (n * (2 : Int) ^ min (Int.toNat (8 : Int)) (IntKind.bits IntKind.u32))) ||| BitVec.ofInt (IntKind.bits IntKind.u32) (IntKind.wrap IntKind.u32 (↑(UInt8.toNat (List.getD b (Int.toNat i) 0)) : Int)))) : Int)), AV.int IntKind.i64 len, AV.int IntKind.i64 (IntKind.wrap IntKind.i64 (i + (1 : Int)))] []))) Tr.no) Tr.no) (Tr.ret (Sum.inr (Ex.exit 0, stOf [10, 11, 12] [AV.int IntKind.i64 nx, AV.int IntKind.i64 e, AV.int IntKind.u32 n] [])))
set_option maxRecDepth 1000000 in
theorem round68 (orc : Orc) (lp : Lp) (b : List UInt8) (nx : Int) (e : Int) (n : Int) (len : Int) (i : Int) : evC T0 orc lp b68 0 (stOf [9, 10, 11, 12, 23, 24] [.str b, .int .i64 nx, .int .i64 e, .int .u32 n, .int .i64 len, .int .i64 i] []) (roundK [9, 10, 11, 12, 23, 24] [10, 11, 12] 0) = (r68 b nx e n len i).get := by kernel_rfl
theorem wf68 (orc : Orc) (b : List UInt8) (nx : Int) (e : Int) (len : Int) (I'' : Int → Int → Prop) (m'' : Int → Int → Nat) (r'' : Ex × St) (h : ∀ (n : Int) (i : Int), I'' n i → (r68 b nx e n len i).all fun x'' => x'' = .inr r'' ∨ ∃ (n' : Int) (i' : Int), x'' = .inl (stOf [9, 10, 11, 12, 23, 24] [.str b, .int .i64 nx, .int .i64 e, .int .u32 n', .int .i64 len, .int .i64 i'] []) ∧ I'' n' i' ∧ m'' n' i' < m'' n i) (lp : Lp) (n : Int) (i : Int) : I'' n i →
    loopF (fun st => evC T0 orc lp b68 0 st (roundK [9, 10, 11, 12, 23, 24] [10, 11, 12] 0)) (stOf [9, 10, 11, 12, 23, 24] [.str b, .int .i64 nx, .int .i64 e, .int .u32 n, .int .i64 len, .int .i64 i] []) = some r'' :=
  loop_tr (fun a'' : Int × Int => stOf [9, 10, 11, 12, 23, 24] [.str b, .int .i64 nx, .int .i64 e, .int .u32 a''.1, .int .i64 len, .int .i64 a''.2] []) (fun a'' => I'' a''.1 a''.2) (fun a'' => m'' a''.1 a''.2) r'' (fun a'' => r68 b nx e a''.1 len a''.2)
    (fun a'' x hx => (round68 orc lp b nx e a''.1 len a''.2).trans hx) (fun a'' ha => Tr.all_mono (fun x'' hx => hx.imp id fun ⟨n', i', h1, h2, h3⟩ => ⟨(n', i'), h1, h2, h3⟩) (h (a''.1) (a''.2) ha)) (n, i)
theorem loop68 (orc : Orc) : ls68.Ok T0 orc h68 0 0 b68 := by
  intro q'' hq'' x'' y'' r'' h
  obtain ⟨(b : List UInt8), (nx : Int), (e : Int), (n : Int), (len : Int), (i : Int), _⟩ := x''
  obtain ⟨hc, rfl⟩ := Tr.get_on h
  show loopF (fun st => evC T0 orc (lpN T0 orc h68 0 q'') b68 0 st (roundK [9, 10, 11, 12, 23, 24] [10, 11, 12] 0)) (stOf [9, 10, 11, 12, 23, 24] [.str b, .int .i64 nx, .int .i64 e, .int .u32 n, .int .i64 len, .int .i64 i] []) = some (.exit 0, stOf [10, 11, 12] ([.int .i64 nx, .int .i64 e, .int .u32 (numB b)]) ([]))
  simp only [nbC, Bool.and_eq_true, decide_eq_true_eq] at hc
  obtain ⟨⟨⟨rfl, rfl⟩, rfl⟩, h2⟩ := hc
  refine wf68 _ b nx e b.length (nbI b) (fun _ i => (b.length - i).toNat) _ ?_ _ 0 0 ⟨by omega, by omega, by simp [numB]⟩
  rintro n i ⟨h0, h1, rfl⟩
  unfold r68
  by_cases hlt : i < b.length
  · refine Tr.all_t (dec_true hlt) (Tr.all_t (dec_true h0) (Tr.all_t (dec_true hlt) (Tr.all_ret (.inr ⟨_, _, rfl, ?_, ?_⟩))))
    · rw [IntWalk.i64_in _ (by omega)]
      exact ⟨by omega, by omega, by rw [show (i + 1).toNat = i.toNat + 1 by omega]; exact nb_step (by omega) h2⟩
    · rw [IntWalk.i64_in _ (by omega)]
      omega
  · refine Tr.all_f (dec_false hlt) (Tr.all_ret (.inl ?_))
    rw [List.take_of_length_le (by omega)]
/-- octet.number[uint8] -/
def t67 (s : List UInt8) (at_ : Int) (many : Int) : Tr Res := Tr.br (bigS s) (Tr.br (someB s at_ many) (Tr.br (nbC (someV s at_ many) (0 : Int) (↑(List.length (someV s at_ many)) : Int) (0 : Int)) (Tr.ret ([AV.int IntKind.u8 (IntKind.wrap IntKind.u8 (numB (someV s at_ many))), AV.int IntKind.i64 (at_ + many), AV.int IntKind.i64 (0 : Int)], [])) Tr.no) (Tr.ret ([AV.int IntKind.u8 (IntKind.wrap IntKind.u8 (numB [])), AV.int IntKind.i64 (0 : Int), AV.int IntKind.i64 (2 : Int)], []))) Tr.no
def os67 : OSpec := { f := 67, sh := [.d .str false, .d (.int .i64) false, .d (.int .i64) false], so := [], F := fun (s, at_, many, _) _ => t67 s at_ many }
set_option maxRecDepth 1000000 in
theorem fn67 (s : List UInt8) (at_ : Int) (many : Int) : evC T0 (orcB [fs48w] []) (lpOf h67 0 (lsOf [ls67])) c67 1000000 (startSt [.str s, .int .i64 at_, .int .i64 many] [] Try.f67.ntmps) (finishK T0 false 0 Try.f67) = (t67 s at_ many).get := by kernel_rfl
theorem ok67 : os67.Ok Try.prog := by
  refine os_ok mixed0 tab0 (orcB_sound (all_cons okf48w all_nil) all_nil) h67 (d := 0) (n0 := 0) (S := lsOf [ls67]) Try.func67 (by kernel_rfl) (c := c67) (by kernel_rfl) rfl (loops_eq (xs := [(0, b67)]) (by kernel_rfl) (all_cons (ls_here (loop67 _)) all_nil)) (by omega) (by kernel_rfl) ?_
  intro x'' y'' q'' hq''
  obtain ⟨(s : List UInt8), (at_ : Int), (many : Int), _⟩ := x''
  exact (fn67 s at_ many).trans hq''
def fs67 : FSpec := fsT 67 [(.str, false), ((.int .i64), false), ((.int .i64), false)] [((.int .u8), false), ((.int .i64), false), ((.int .i64), false)] fun (s, at_, many, _) => t67 s at_ many
theorem okf67 : fs67.Ok Try.prog := fsT_ok fun x'' r'' hr'' => ok67 x'' () r'' hr''
/-- octet.number[uint16] -/
def t68 (s : List UInt8) (at_ : Int) (many : Int) : Tr Res := Tr.br (bigS s) (Tr.br (someB s at_ many) (Tr.br (nbC (someV s at_ many) (0 : Int) (↑(List.length (someV s at_ many)) : Int) (0 : Int)) (Tr.ret ([AV.int IntKind.u16 (IntKind.wrap IntKind.u16 (numB (someV s at_ many))), AV.int IntKind.i64 (at_ + many), AV.int IntKind.i64 (0 : Int)], [])) Tr.no) (Tr.ret ([AV.int IntKind.u16 (IntKind.wrap IntKind.u16 (numB [])), AV.int IntKind.i64 (0 : Int), AV.int IntKind.i64 (2 : Int)], []))) Tr.no
def os68 : OSpec := { f := 68, sh := [.d .str false, .d (.int .i64) false, .d (.int .i64) false], so := [], F := fun (s, at_, many, _) _ => t68 s at_ many }
set_option maxRecDepth 1000000 in
theorem fn68 (s : List UInt8) (at_ : Int) (many : Int) : evC T0 (orcB [fs48w] []) (lpOf h68 0 (lsOf [ls68])) c68 1000000 (startSt [.str s, .int .i64 at_, .int .i64 many] [] Try.f68.ntmps) (finishK T0 false 0 Try.f68) = (t68 s at_ many).get := by kernel_rfl
theorem ok68 : os68.Ok Try.prog := by
  refine os_ok mixed0 tab0 (orcB_sound (all_cons okf48w all_nil) all_nil) h68 (d := 0) (n0 := 0) (S := lsOf [ls68]) Try.func68 (by kernel_rfl) (c := c68) (by kernel_rfl) rfl (loops_eq (xs := [(0, b68)]) (by kernel_rfl) (all_cons (ls_here (loop68 _)) all_nil)) (by omega) (by kernel_rfl) ?_
  intro x'' y'' q'' hq''
  obtain ⟨(s : List UInt8), (at_ : Int), (many : Int), _⟩ := x''
  exact (fn68 s at_ many).trans hq''
def fs68 : FSpec := fsT 68 [(.str, false), ((.int .i64), false), ((.int .i64), false)] [((.int .u16), false), ((.int .i64), false), ((.int .i64), false)] fun (s, at_, many, _) => t68 s at_ many
theorem okf68 : fs68.Ok Try.prog := fsT_ok fun x'' r'' hr'' => ok68 x'' () r'' hr''
/-- octet.U8 -/
def t46 (s : List UInt8) (at_ : Int) : Tr Res := Tr.br (bigS s) (Tr.br (someB s at_ (1 : Int)) (Tr.br (nbC (someV s at_ (1 : Int)) (0 : Int) (↑(List.length (someV s at_ (1 : Int))) : Int) (0 : Int)) (Tr.ret ([AV.int IntKind.u8 (IntKind.wrap IntKind.u8 (numB (someV s at_ (1 : Int)))), AV.int IntKind.i64 (at_ + (1 : Int)), AV.int IntKind.i64 (0 : Int)], [])) Tr.no) (Tr.ret ([AV.int IntKind.u8 (IntKind.wrap IntKind.u8 (numB [])), AV.int IntKind.i64 (0 : Int), AV.int IntKind.i64 (2 : Int)], []))) Tr.no
def os46 : OSpec := { f := 46, sh := [.d .str false, .d (.int .i64) false], so := [], F := fun (s, at_, _) _ => t46 s at_ }
set_option maxRecDepth 1000000 in
theorem fn46 (s : List UInt8) (at_ : Int) : evC T0 (orcB [fs67, fs68] []) (lpOf h46 0 (lsOf [])) c46 1000000 (startSt [.str s, .int .i64 at_] [] Try.f46.ntmps) (finishK T0 false 0 Try.f46) = (t46 s at_).get := by kernel_rfl
theorem ok46 : os46.Ok Try.prog := by
  refine os_ok mixed0 tab0 (orcB_sound (all_cons okf67 (all_cons okf68 all_nil)) all_nil) h46 (d := 0) (n0 := 0) (S := lsOf []) Try.func46 (by kernel_rfl) (c := c46) (by kernel_rfl) rfl (no_loops (by kernel_rfl)) (by omega) (by kernel_rfl) ?_
  intro x'' y'' q'' hq''
  obtain ⟨(s : List UInt8), (at_ : Int), _⟩ := x''
  exact (fn46 s at_).trans hq''
def fs46 : FSpec := fsT 46 [(.str, false), ((.int .i64), false)] [((.int .u8), false), ((.int .i64), false), ((.int .i64), false)] fun (s, at_, _) => t46 s at_
theorem okf46 : fs46.Ok Try.prog := fsT_ok fun x'' r'' hr'' => ok46 x'' () r'' hr''
/-- octet.U16 -/
def t47 (s : List UInt8) (at_ : Int) : Tr Res := Tr.br (bigS s) (Tr.br (someB s at_ (2 : Int)) (Tr.br (nbC (someV s at_ (2 : Int)) (0 : Int) (↑(List.length (someV s at_ (2 : Int))) : Int) (0 : Int)) (Tr.ret ([AV.int IntKind.u16 (IntKind.wrap IntKind.u16 (numB (someV s at_ (2 : Int)))), AV.int IntKind.i64 (at_ + (2 : Int)), AV.int IntKind.i64 (0 : Int)], [])) Tr.no) (Tr.ret ([AV.int IntKind.u16 (IntKind.wrap IntKind.u16 (numB [])), AV.int IntKind.i64 (0 : Int), AV.int IntKind.i64 (2 : Int)], []))) Tr.no
def os47 : OSpec := { f := 47, sh := [.d .str false, .d (.int .i64) false], so := [], F := fun (s, at_, _) _ => t47 s at_ }
set_option maxRecDepth 1000000 in
theorem fn47 (s : List UInt8) (at_ : Int) : evC T0 (orcB [fs67, fs68] []) (lpOf h47 0 (lsOf [])) c47 1000000 (startSt [.str s, .int .i64 at_] [] Try.f47.ntmps) (finishK T0 false 0 Try.f47) = (t47 s at_).get := by kernel_rfl
theorem ok47 : os47.Ok Try.prog := by
  refine os_ok mixed0 tab0 (orcB_sound (all_cons okf67 (all_cons okf68 all_nil)) all_nil) h47 (d := 0) (n0 := 0) (S := lsOf []) Try.func47 (by kernel_rfl) (c := c47) (by kernel_rfl) rfl (no_loops (by kernel_rfl)) (by omega) (by kernel_rfl) ?_
  intro x'' y'' q'' hq''
  obtain ⟨(s : List UInt8), (at_ : Int), _⟩ := x''
  exact (fn47 s at_).trans hq''
def fs47 : FSpec := fsT 47 [(.str, false), ((.int .i64), false)] [((.int .u16), false), ((.int .i64), false), ((.int .i64), false)] fun (s, at_, _) => t47 s at_
theorem okf47 : fs47.Ok Try.prog := fsT_ok fun x'' r'' hr'' => ok47 x'' () r'' hr''

/-- The number of two bytes. -/
def n16 (s : List UInt8) (at_ : Int) : Int := (s.getD at_.toNat 0).toNat * 256 + (s.getD (at_.toNat + 1) 0).toNat
theorem some1 {s : List UInt8} {at_ : Int} (h : someB s at_ 1 = true) : someV s at_ 1 = [s.getD at_.toNat 0] := by
  simp only [someB, Bool.and_eq_true, decide_eq_true_eq] at h
  unfold someV
  rw [drop_get s at_.toNat 0 (by omega)]
  rfl
theorem some2 {s : List UInt8} {at_ : Int} (h : someB s at_ 2 = true) : someV s at_ 2 = [s.getD at_.toNat 0, s.getD (at_.toNat + 1) 0] := by
  simp only [someB, Bool.and_eq_true, decide_eq_true_eq] at h
  unfold someV
  rw [drop_get s at_.toNat 0 (by omega), drop_get s (at_.toNat + 1) 0 (by omega)]
  rfl
def fs46w : FSpec := fs46.like fun (s, at_, _) => .br (bigS s) (.br (someB s at_ 1) (.ret (((s.getD at_.toNat 0).toNat : Int), at_ + 1, (0 : Int), ())) (.ret ((0 : Int), (0 : Int), (2 : Int), ()))) .no
theorem okf46w : fs46w.Ok Try.prog := by
  refine flike_ok okf46 _ ?_
  rintro ⟨(s : List UInt8), (at_ : Int), _⟩ y h
  simp only [Tr.get] at h
  cases hb : bigS s with
  | false => rw [hb] at h; cases h
  | true =>
    rw [hb, cond_true] at h
    cases hs : someB s at_ 1 with
    | true =>
      rw [hs, cond_true] at h
      cases h
      have hc := byte_in (s.getD at_.toNat 0)
      refine convR_of (vs := [.int .u8 ((s.getD at_.toNat 0).toNat : Int), .int .i64 (at_ + 1), .int .i64 0]) rfl rfl (Tr.get_of_all ?_)
      show (t46 s at_).all _
      unfold t46
      refine Tr.all_t hb (Tr.all_t hs ?_)
      rw [some1 hs]
      refine Tr.all_t (by simp [nbC]) (Tr.all_ret ?_)
      rw [show numB [s.getD at_.toNat 0] = ((s.getD at_.toNat 0).toNat : Int) by simp [numB], IntWalk.u8_in _ hc]
    | false =>
      rw [hs, cond_false] at h
      cases h
      refine convR_of (vs := [.int .u8 0, .int .i64 0, .int .i64 2]) rfl rfl (Tr.get_of_all ?_)
      show (t46 s at_).all _
      exact Tr.all_t hb (Tr.all_f hs (Tr.all_ret rfl))
def fs47w : FSpec := fs47.like fun (s, at_, _) => .br (bigS s) (.br (someB s at_ 2) (.ret (n16 s at_, at_ + 2, (0 : Int), ())) (.ret ((0 : Int), (0 : Int), (2 : Int), ()))) .no
theorem okf47w : fs47w.Ok Try.prog := by
  refine flike_ok okf47 _ ?_
  rintro ⟨(s : List UInt8), (at_ : Int), _⟩ y h
  simp only [Tr.get] at h
  cases hb : bigS s with
  | false => rw [hb] at h; cases h
  | true =>
    rw [hb, cond_true] at h
    cases hs : someB s at_ 2 with
    | true =>
      rw [hs, cond_true] at h
      cases h
      have hc := byte_in (s.getD at_.toNat 0)
      have hd := byte_in (s.getD (at_.toNat + 1) 0)
      refine convR_of (vs := [.int .u16 (n16 s at_), .int .i64 (at_ + 2), .int .i64 0]) rfl rfl (Tr.get_of_all ?_)
      show (t47 s at_).all _
      unfold t47
      refine Tr.all_t hb (Tr.all_t hs ?_)
      rw [some2 hs]
      refine Tr.all_t (by simp [nbC]) (Tr.all_ret ?_)
      rw [show numB [s.getD at_.toNat 0, s.getD (at_.toNat + 1) 0] = n16 s at_ by simp [numB, n16], IntWalk.u16_in _ (by unfold n16; omega)]
    | false =>
      rw [hs, cond_false] at h
      cases h
      refine convR_of (vs := [.int .u16 0, .int .i64 0, .int .i64 2]) rfl rfl (Tr.get_of_all ?_)
      show (t47 s at_).all _
      exact Tr.all_t hb (Tr.all_f hs (Tr.all_ret rfl))
def fs56w : FSpec := fs56.like fun (s, at_, _) => .br (bigS s) (.br (someB s at_ 2) (.ret (n16 s at_, at_ + 2, (0 : Int), ())) (.ret ((0 : Int), (0 : Int), (2 : Int), ()))) .no
theorem okf56w : fs56w.Ok Try.prog := by
  refine flike_ok okf56 _ ?_
  rintro ⟨(s : List UInt8), (at_ : Int), _⟩ y h
  simp only [Tr.get] at h
  cases hb : bigS s with
  | false => rw [hb] at h; cases h
  | true =>
    rw [hb, cond_true] at h
    simp only [bigS, decide_eq_true_eq] at hb
    cases hs : someB s at_ 2 with
    | true =>
      rw [hs, cond_true] at h
      cases h
      simp only [someB, Bool.and_eq_true, decide_eq_true_eq] at hs
      obtain ⟨h0, h1, h2⟩ := hs
      have hc := byte_in (s.getD at_.toNat 0)
      have hd := byte_in (s.getD (at_.toNat + 1) 0)
      refine convR_of (vs := [.int .u16 (n16 s at_), .int .i64 (at_ + 2), .int .i64 0]) rfl rfl (Tr.get_of_all ?_)
      show (t56 s at_).all _
      unfold t56
      simp (disch := omega) only [IntWalk.i64_in]
      refine Tr.all_t (dec_true (by omega)) (Tr.all_t (dec_true (by omega)) (Tr.all_t (dec_true (by omega)) (Tr.all_f (by rw [dec_true (by omega)]; rfl) (Tr.all_t (dec_true (by omega)) (Tr.all_t (dec_true (by omega)) (Tr.all_t (dec_true (by omega)) (Tr.all_t (dec_true (by omega)) (Tr.all_ret ?_))))))))
      rw [show (at_ + 1).toNat = at_.toNat + 1 by omega]
      simp (disch := omega) only [IntWalk.u16_in]
      rw [show (256 : Int) * ((s.getD at_.toNat 0).toNat : Int) + ((s.getD (at_.toNat + 1) 0).toNat : Int) = n16 s at_ by unfold n16; omega]
    | false =>
      rw [hs, cond_false] at h
      cases h
      refine convR_of (vs := [.int .u16 0, .int .i64 0, .int .i64 2]) rfl rfl (Tr.get_of_all ?_)
      show (t56 s at_).all _
      unfold t56
      have hn : ¬ (0 ≤ at_ ∧ at_ + 2 ≤ s.length) := fun ⟨a, c⟩ => by
        simp [someB, a, c] at hs
      refine Tr.all_br (fun c1 => Tr.all_br (fun c2 => Tr.all_br (fun c3 => Tr.all_br (fun _ => Tr.all_ret rfl) fun c4 => ?_) fun _ => ?_) fun _ => ?_) fun _ => ?_
      · simp only [decide_eq_true_eq] at c1 c2 c3
        rw [IntWalk.i64_in _ (by omega)] at c4
        simp only [Bool.not_eq_false', decide_eq_true_eq] at c4
        exact absurd ⟨by omega, by omega⟩ hn
      all_goals exact Tr.all_ret rfl
end Go.Proofs.YtfepkpindchleaaE
