import Derived.Test.YtlkpiegllammdaaPMessageFits4
set_option maxRecDepth 1000000
namespace Go.Proofs.YtlkpiegllammdaaE
open Go Go.Proofs.YtlkpiegllammdaaB
set_option linter.unusedVariables false
set_option linter.unusedSimpArgs false
def btC4 (n many m i : Int) (b : List Int) : Bool := decide (many = 4) && (decide (m = 4) && (decide (i = 0) && decide (b = [0, 0, 0, 0])))
def byN4 (n : Int) (k : Nat) : Int := IntKind.wrap .u8 (Int.fdiv n (2 ^ (8 * k)))
noncomputable def b98f : Code := nthLoop c98 0
def ls98f : LoopSpec := { bid := 0, sh := [.d (.int .u32) false, .d (.int .i64) false, .row 0, .d (.int .i64) false, .d (.int .i64) false], so := [.row (.int .u8)], F := fun (n, many, m, i, _) (b, _) => .on (btC4 n many m i b) (.exit 0, [.rowA 0], [.row (.int .u8) [byN4 n 3, byN4 n 2, byN4 n 1, byN4 n 0]]) }
def r98f (n many m i : Int) (b : List Int) : Tr (St ⊕ (Ex × St)) := .br (decide (i < m)) (.br (decide (0 ≤ IntKind.wrap .i64 (8 * i))) (.br (decide (0 ≤ IntKind.wrap .i64 (IntKind.wrap .i64 (many - 1) - i))) (.br (decide (IntKind.wrap .i64 (IntKind.wrap .i64 (many - 1) - i) < (↑b.length : Int))) (.ret (.inl (stOf [0, 1, 5, 9, 10] [.int .u32 n, .int .i64 many, .rowA 0, .int .i64 m, .int .i64 (IntKind.wrap .i64 (i + 1))] [.row (.int .u8) (List.set b (Int.toNat (IntKind.wrap .i64 (IntKind.wrap .i64 (many - 1) - i))) (IntKind.wrap .u8 (Int.fdiv n (2 ^ min (Int.toNat (IntKind.wrap .i64 (8 * i))) (IntKind.bits IntKind.u32)))))]))) .no) .no) .no) (.ret (.inr (.exit 0, stOf [5] [.rowA 0] [.row (.int .u8) b])))
theorem round98f (orc : Orc) (lp : Lp) (n many m i : Int) (b : List Int) : evC T0 orc lp b98f 0 (stOf [0, 1, 5, 9, 10] [.int .u32 n, .int .i64 many, .rowA 0, .int .i64 m, .int .i64 i] [.row (.int .u8) b]) (roundK [0, 1, 5, 9, 10] [5] 0) = (r98f n many m i b).get := by kernel_rfl
theorem wf98f (orc : Orc) (n many m : Int) (I'' : Int → List Int → Prop) (m'' : Int → List Int → Nat) (r'' : Ex × St) (h : ∀ (i : Int) (b : List Int), I'' i b → (r98f n many m i b).all fun x'' => x'' = .inr r'' ∨ ∃ (i' : Int) (b' : List Int), x'' = .inl (stOf [0, 1, 5, 9, 10] [.int .u32 n, .int .i64 many, .rowA 0, .int .i64 m, .int .i64 i'] [.row (.int .u8) b']) ∧ I'' i' b' ∧ m'' i' b' < m'' i b) (lp : Lp) (i : Int) (b : List Int) : I'' i b →
    loopF (fun st => evC T0 orc lp b98f 0 st (roundK [0, 1, 5, 9, 10] [5] 0)) (stOf [0, 1, 5, 9, 10] [.int .u32 n, .int .i64 many, .rowA 0, .int .i64 m, .int .i64 i] [.row (.int .u8) b]) = some r'' :=
 loop_tr (fun a'' : Int × List Int => stOf [0, 1, 5, 9, 10] [.int .u32 n, .int .i64 many, .rowA 0, .int .i64 m, .int .i64 a''.1] [.row (.int .u8) a''.2]) (fun a'' => I'' a''.1 a''.2) (fun a'' => m'' a''.1 a''.2) r'' (fun a'' => r98f n many m a''.1 a''.2)
  (fun a'' x hx => (round98f orc lp n many m a''.1 a''.2).trans hx) (fun a'' ha => Tr.all_mono (fun x'' hx => hx.imp id fun ⟨i', b', h1, h2, h3⟩ => ⟨(i', b'), h1, h2, h3⟩) (h (a''.1) (a''.2) ha)) (i, b)
theorem byN4_eq {n : Int} (h : 0 ≤ n) (k : Nat) : Int.fdiv n (2 ^ k) = n / 2 ^ k := Int.fdiv_eq_ediv_of_nonneg _ (by have : (0 : Int) < 2 ^ k := Int.pow_pos (by omega); omega)
theorem loop98f (orc : Orc) : ls98f.Ok T0 orc h98 0 0 b98f := by
 intro q'' hq'' x'' y'' r'' h
 obtain ⟨(n : Int), (many : Int), (m : Int), (i : Int), _⟩ := x''
 obtain ⟨(b : List Int), _⟩ := y''
 obtain ⟨hc, rfl⟩ := Tr.get_on h
 show loopF (fun st => evC T0 orc (lpN T0 orc h98 0 q'') b98f 0 st (roundK [0, 1, 5, 9, 10] [5] 0)) (stOf [0, 1, 5, 9, 10] [.int .u32 n, .int .i64 many, .rowA 0, .int .i64 m, .int .i64 i] [.row (.int .u8) b]) = some (.exit 0, stOf [5] ([.rowA 0]) ([.row (.int .u8) [byN4 n 3, byN4 n 2, byN4 n 1, byN4 n 0]]))
 simp only [btC4, Bool.and_eq_true, decide_eq_true_eq] at hc
 obtain ⟨rfl, rfl, rfl, rfl⟩ := hc
 refine wf98f _ n 4 4 (fun i b => (i = 0 ∧ b = [0, 0, 0, 0]) ∨ (i = 1 ∧ b = [0, 0, 0, byN4 n 0]) ∨ (i = 2 ∧ b = [0, 0, byN4 n 1, byN4 n 0]) ∨ (i = 3 ∧ b = [0, byN4 n 2, byN4 n 1, byN4 n 0]) ∨ (i = 4 ∧ b = [byN4 n 3, byN4 n 2, byN4 n 1, byN4 n 0])) (fun i _ => (4 - i).toNat) _ ?_ _ 0 [0, 0, 0, 0] (.inl ⟨rfl, rfl⟩)
 rintro i b (⟨rfl, rfl⟩ | ⟨rfl, rfl⟩ | ⟨rfl, rfl⟩ | ⟨rfl, rfl⟩ | ⟨rfl, rfl⟩)
 · exact Tr.all_t rfl (Tr.all_t (by decide) (Tr.all_t (by decide) (Tr.all_t (by decide) (Tr.all_ret (.inr ⟨_, _, rfl, .inr (.inl ⟨by decide, rfl⟩), by decide⟩)))))
 · exact Tr.all_t rfl (Tr.all_t (by decide) (Tr.all_t (by decide) (Tr.all_t rfl (Tr.all_ret (.inr ⟨_, _, rfl, .inr (.inr (.inl ⟨by decide, rfl⟩)), by decide⟩)))))
 · exact Tr.all_t rfl (Tr.all_t (by decide) (Tr.all_t (by decide) (Tr.all_t rfl (Tr.all_ret (.inr ⟨_, _, rfl, .inr (.inr (.inr (.inl ⟨by decide, rfl⟩))), by decide⟩)))))
 · exact Tr.all_t rfl (Tr.all_t (by decide) (Tr.all_t (by decide) (Tr.all_t rfl (Tr.all_ret (.inr ⟨_, _, rfl, .inr (.inr (.inr (.inr ⟨by decide, rfl⟩))), by decide⟩)))))
 · exact Tr.all_f rfl (Tr.all_ret (.inl rfl))
def t98f (n many : Int) : Tr Res := .br (decide (0 ≤ many) && many == many && fits many.toNat 1) (.br (btC4 n many many 0 (List.replicate many.toNat (Ty.dflt (Ty.int .u8)))) (.ret ([.str [UInt8.ofNat (Int.toNat (byN4 n 3)), UInt8.ofNat (Int.toNat (byN4 n 2)), UInt8.ofNat (Int.toNat (byN4 n 1)), UInt8.ofNat (Int.toNat (byN4 n 0))]], [])) .no) .no
def os98f : OSpec := { f := 98, sh := [.d (.int .u32) false, .d (.int .i64) false], so := [], F := fun (n, many, _) _ => t98f n many }
theorem fn98f (n many : Int) : evC T0 (orcB [] []) (lpOf h98 0 (lsOf [ls98f])) c98 1000000 (startSt [.int .u32 n, .int .i64 many] [] Try.f98.ntmps) (finishK T0 false 0 Try.f98) = (t98f n many).get := by kernel_rfl
theorem ok98f : os98f.Ok Try.prog := by
 refine os_ok mixed0 tab0 (orcB_sound all_nil all_nil) h98 (d := 0) (n0 := 0) (S := lsOf [ls98f]) Try.func98 (by kernel_rfl) (c := c98) (by kernel_rfl) rfl (loops_eq (xs := [(0, b98f)]) (by kernel_rfl) (all_cons (ls_here (loop98f _)) all_nil)) (by omega) (by kernel_rfl) ?_
 intro x'' y'' q'' hq''
 obtain ⟨(n : Int), (many : Int), _⟩ := x''
 exact (fn98f n many).trans hq''
def fs98f : FSpec := fsT 98 [((.int .u32), false), ((.int .i64), false)] [(.str, false)] fun (n, many, _) => t98f n many
theorem okf98f : fs98f.Ok Try.prog := fsT_ok fun x'' r'' hr'' => ok98f x'' () r'' hr''
def t65 (n : Int) : Tr Res := .ret ([.str [UInt8.ofNat (Int.toNat (byN4 n 3)), UInt8.ofNat (Int.toNat (byN4 n 2)), UInt8.ofNat (Int.toNat (byN4 n 1)), UInt8.ofNat (Int.toNat (byN4 n 0))]], [])
def os65 : OSpec := { f := 65, sh := [.d (.int .u32) false], so := [], F := fun (n, _) _ => t65 n }
theorem fn65 (n : Int) : evC T0 (orcB [fs98f] []) (lpOf h65 0 (lsOf [])) c65 1000000 (startSt [.int .u32 n] [] Try.f65.ntmps) (finishK T0 false 0 Try.f65) = (t65 n).get := by kernel_rfl
theorem ok65 : os65.Ok Try.prog := by
 refine os_ok mixed0 tab0 (orcB_sound (all_cons okf98f all_nil) all_nil) h65 (d := 0) (n0 := 0) (S := lsOf []) Try.func65 (by kernel_rfl) (c := c65) (by kernel_rfl) rfl (no_loops (by kernel_rfl)) (by omega) (by kernel_rfl) ?_
 intro x'' y'' q'' hq''
 obtain ⟨(n : Int), _⟩ := x''
 exact (fn65 n).trans hq''
def fs65 : FSpec := fsT 65 [((.int .u32), false)] [(.str, false)] fun (n, _) => t65 n
theorem okf65 : fs65.Ok Try.prog := fsT_ok fun x'' r'' hr'' => ok65 x'' () r'' hr''
def t69 (n : Int) : Tr Res := .br (n16C (IntKind.wrap .u16 (IntKind.wrap .u32 (Int.tdiv n 65536)))) (.br (n16C (IntKind.wrap .u16 (Int.tmod n 65536))) (.ret ([.str [UInt8.ofNat (Int.toNat (IntKind.wrap .u16 (IntKind.wrap .u32 (Int.tdiv n 65536)) / 256)), UInt8.ofNat (Int.toNat (IntKind.wrap .u16 (IntKind.wrap .u32 (Int.tdiv n 65536)) % 256)), UInt8.ofNat (Int.toNat (IntKind.wrap .u16 (Int.tmod n 65536) / 256)), UInt8.ofNat (Int.toNat (IntKind.wrap .u16 (Int.tmod n 65536) % 256))]], [])) .no) .no
def os69 : OSpec := { f := 69, sh := [.d (.int .u32) false], so := [], F := fun (n, _) _ => t69 n }
theorem fn69 (n : Int) : evC T0 (orcB [fs64w] []) (lpOf h69 0 (lsOf [])) c69 1000000 (startSt [.int .u32 n] [] Try.f69.ntmps) (finishK T0 false 0 Try.f69) = (t69 n).get := by kernel_rfl
theorem ok69 : os69.Ok Try.prog := by
 refine os_ok mixed0 tab0 (orcB_sound (all_cons okf64w all_nil) all_nil) h69 (d := 0) (n0 := 0) (S := lsOf []) Try.func69 (by kernel_rfl) (c := c69) (by kernel_rfl) rfl (no_loops (by kernel_rfl)) (by omega) (by kernel_rfl) ?_
 intro x'' y'' q'' hq''
 obtain ⟨(n : Int), _⟩ := x''
 exact (fn69 n).trans hq''
def fs69 : FSpec := fsT 69 [((.int .u32), false)] [(.str, false)] fun (n, _) => t69 n
theorem okf69 : fs69.Ok Try.prog := fsT_ok fun x'' r'' hr'' => ok69 x'' () r'' hr''
def put32 (n : Int) : List UInt8 := put16 (n / 65536) ++ put16 (n % 65536)
def n32C (n : Int) : Bool := decide (0 ≤ n) && decide (n ≤ 4294967295)
def fs65w : FSpec := fs65.like fun (n, _) => .on (n32C n) (put32 n, ())
theorem okf65w : fs65w.Ok Try.prog := by
 refine flike_ok okf65 _ ?_
 rintro ⟨(n : Int), _⟩ y h
 obtain ⟨hc, rfl⟩ := Tr.get_on h
 simp only [n32C, Bool.and_eq_true, decide_eq_true_eq] at hc
 refine convR_of (vs := [.str (put32 n)]) rfl rfl (Tr.get_of_all ?_)
 show (t65 n).all _
 unfold t65
 have e : intBytes [byN4 n 3, byN4 n 2, byN4 n 1, byN4 n 0] = put32 n := by
  unfold byN4
  rw [byN4_eq hc.1, byN4_eq hc.1, byN4_eq hc.1, byN4_eq hc.1]
  simp only [IntKind.wrap_u8]
  unfold intBytes put32 put16
  simp only [List.map_cons, List.map_nil, List.cons_append, List.nil_append]
  have e1 : n / 2 ^ (8 * 3) % 256 = n / 65536 / 256 := by
   rw [show (2 : Int) ^ (8 * 3) = 16777216 from rfl]; omega
  have e2 : n / 2 ^ (8 * 2) % 256 = n / 65536 % 256 := by rw [show (2 : Int) ^ (8 * 2) = 65536 from rfl]
  have e3 : n / 2 ^ (8 * 1) % 256 = n % 65536 / 256 := by rw [show (2 : Int) ^ (8 * 1) = 256 from rfl]; omega
  have e4 : n / 2 ^ (8 * 0) % 256 = n % 65536 % 256 := by rw [show (2 : Int) ^ (8 * 0) = 1 from rfl]; omega
  rw [e1, e2, e3, e4]
 refine Tr.all_ret ?_
 rw [← e]
 rfl
def fs69w : FSpec := fs69.like fun (n, _) => .on (n32C n) (put32 n, ())
theorem okf69w : fs69w.Ok Try.prog := by
 refine flike_ok okf69 _ ?_
 rintro ⟨(n : Int), _⟩ y h
 obtain ⟨hc, rfl⟩ := Tr.get_on h
 simp only [n32C, Bool.and_eq_true, decide_eq_true_eq] at hc
 refine convR_of (vs := [.str (put32 n)]) rfl rfl (Tr.get_of_all ?_)
 show (t69 n).all _
 unfold t69
 have e1 : IntKind.wrap .u16 (IntKind.wrap .u32 (Int.tdiv n 65536)) = n / 65536 := by
  rw [Int.tdiv_eq_ediv_of_nonneg hc.1, IntWalk.u32_in _ (by omega), IntWalk.u16_in _ (by omega)]
 have e2 : IntKind.wrap .u16 (Int.tmod n 65536) = n % 65536 := by
  rw [Int.tmod_eq_emod_of_nonneg hc.1, IntWalk.u16_in _ (by omega)]
 rw [e1, e2]
 exact Tr.all_t (by simp [n16C]; omega) (Tr.all_t (by simp [n16C]; omega) (Tr.all_ret rfl))
def t22 (q : QQt) (b : List Int) (m : List (List UInt8 × Int)) : Tr Res := .br (bigS q.1) (.br (!mayV q.1) (.ret ([.int .i64 1], [.boxT none [.rowA 1, .mp 2], .row (.int .u8) b, .mpo .str (.int .i64) m])) (.br (pkC b m && Nat.ble q.1.length 100000000000) (.br (mayV q.1) (.br (n16C q.2.1) (.br (n16C q.2.2) (.br (fits (List.length (bytesInt (nameP q.1 (intBytes b) m).1) + List.length (bytesInt (put16 q.2.1 ++ put16 q.2.2))) 1) (.ret ([.int .i64 0], [.boxT none [.rowA 1, .mp 2], .row (.int .u8) (bytesInt (nameP q.1 (intBytes b) m).1 ++ bytesInt (put16 q.2.1 ++ put16 q.2.2)), .mpo .str (.int .i64) (nameP q.1 (intBytes b) m).2])) .no) .no) .no) (.br (n16C q.2.1) (.br (n16C q.2.2) (.br (fits (List.length b + List.length (bytesInt (put16 q.2.1 ++ put16 q.2.2))) 1) (.ret ([.int .i64 0], [.boxT none [.rowA 1, .mp 2], .row (.int .u8) (b ++ bytesInt (put16 q.2.1 ++ put16 q.2.2)), .mpo .str (.int .i64) m])) .no) .no) .no)) .no)) .no
def os22 : OSpec := { f := 22, sh := [.ptr 0 0, .d QQ true], so := [.box [.row 1, .mp 2], .row (.int .u8), .map .str (.int .i64)], F := fun (q, _) (_, b, m, _) => t22 q b m }
theorem fn22 (q : QQt) (b : List Int) (m : List (List UInt8 × Int)) : evC T0 (orcB [fs31w, fs17w, fs61w] [os59w, os60]) (lpOf h22 3 (lsOf [])) c22 1000000 (startSt [.ptr 0 0, AV.ofTy QQ q true] [.box [.rowA 1, .mp 2], .row (.int .u8) b, .mpo .str (.int .i64) m] Try.f22.ntmps) (finishK T0 false 3 Try.f22) = (t22 q b m).get := by kernel_rfl
theorem ok22 : os22.Ok Try.prog := by
 refine os_ok mixed0 tab0 (orcB_sound (all_cons okf31w (all_cons okf17w (all_cons okf61w all_nil))) (all_cons ok59w (all_cons ok60 all_nil))) h22 (d := 0) (n0 := 3) (S := lsOf []) Try.func22 (by kernel_rfl) (c := c22) (by kernel_rfl) rfl (no_loops (by kernel_rfl)) (by omega) (by kernel_rfl) ?_
 intro x'' y'' q'' hq''
 obtain ⟨(q : QQt), _⟩ := x''
 obtain ⟨_, (b : List Int), (m : List (List UInt8 × Int)), _⟩ := y''
 exact (fn22 q b m).trans hq''
def t23 (p : (List UInt8 × List (List UInt8 × Int))) (q : QQt) : Tr Res := .br (bigS q.1) (.br (!mayV q.1) (.ret ([.agg [.str p.1, .list (Ty.pair Ty.str (Ty.int .i64)) p.2], .int .i64 1], [])) (.br (nmOk p q.1) (.br (mayV q.1) (.br (n16C q.2.1) (.br (n16C q.2.2) (.br (Nat.ble (List.length (nameP q.1 p.1 p.2).1 + List.length (put16 q.2.1 ++ put16 q.2.2)) 9223372036854775807) (.ret ([.agg [.str ((nameP q.1 p.1 p.2).1 ++ (put16 q.2.1 ++ put16 q.2.2)), .list (Ty.pair Ty.str (Ty.int .i64)) (nameP q.1 p.1 p.2).2], .int .i64 0], [])) .no) .no) .no) (.br (n16C q.2.1) (.br (n16C q.2.2) (.br (Nat.ble (List.length p.1 + List.length (put16 q.2.1 ++ put16 q.2.2)) 9223372036854775807) (.ret ([.agg [.str (p.1 ++ (put16 q.2.1 ++ put16 q.2.2)), .list (Ty.pair Ty.str (Ty.int .i64)) p.2], .int .i64 0], [])) .no) .no) .no)) .no)) .no
def os23 : OSpec := { f := 23, sh := [.d (.pair .str (.list (.pair .str (.int .i64)))) true, .d QQ true], so := [], F := fun (p, q, _) _ => t23 p q }
theorem fn23 (p : (List UInt8 × List (List UInt8 × Int))) (q : QQt) : evC T0 (orcB [fs32w, fs62w, fs63, fs64w] []) (lpOf h23 0 (lsOf [])) c23 1000000 (startSt [AV.ofTy (.pair .str (.list (.pair .str (.int .i64)))) p true, AV.ofTy QQ q true] [] Try.f23.ntmps) (finishK T0 false 0 Try.f23) = (t23 p q).get := by kernel_rfl
theorem ok23 : os23.Ok Try.prog := by
 refine os_ok mixed0 tab0 (orcB_sound (all_cons okf32w (all_cons okf62w (all_cons okf63 (all_cons okf64w all_nil)))) all_nil) h23 (d := 0) (n0 := 0) (S := lsOf []) Try.func23 (by kernel_rfl) (c := c23) (by kernel_rfl) rfl (no_loops (by kernel_rfl)) (by omega) (by kernel_rfl) ?_
 intro x'' y'' q'' hq''
 obtain ⟨(p : (List UInt8 × List (List UInt8 × Int))), (q : QQt), _⟩ := x''
 exact (fn23 p q).trans hq''
def fs23 : FSpec := fsT 23 [((.pair .str (.list (.pair .str (.int .i64)))), true), (QQ, true)] [((.pair .str (.list (.pair .str (.int .i64)))), true), ((.int .i64), false)] fun (p, q, _) => t23 p q
theorem okf23 : fs23.Ok Try.prog := fsT_ok fun x'' r'' hr'' => ok23 x'' () r'' hr''
def qOk (q : QQt) : Bool := Nat.ble q.1.length 1000000 && (n16C q.2.1 && n16C q.2.2)
def qB (q : QQt) : List UInt8 := put16 q.2.1 ++ put16 q.2.2
def putQ (q : QQt) (p : PKt) : PKt := ((nameP q.1 p.1 p.2).1 ++ qB q, (nameP q.1 p.1 p.2).2)
theorem qB_len (q : QQt) : (qB q).length = 4 := rfl
theorem qOk_iff {q : QQt} : qOk q = true ↔ q.1.length ≤ 1000000 ∧ n16C q.2.1 = true ∧ n16C q.2.2 = true := by
 unfold qOk
 rw [Bool.and_eq_true, Bool.and_eq_true]
 exact ⟨fun ⟨a, b⟩ => ⟨Nat.le_of_ble_eq_true a, b⟩, fun ⟨a, b⟩ => ⟨Nat.ble_eq_true_of_le a, b⟩⟩
theorem pkT_iff {b : List Int} {m : Known} : pkT b m = true ↔ bytesOk b = true ∧ kOk m = true ∧ b.length ≤ 1000000000 := by
 unfold pkT
 rw [Bool.and_eq_true, Bool.and_eq_true]
 exact ⟨fun ⟨a, b, c⟩ => ⟨a, b, Nat.le_of_ble_eq_true c⟩, fun ⟨a, b, c⟩ => ⟨a, b, Nat.ble_eq_true_of_le c⟩⟩
def os22w : OSpec := os22.like fun (q, _) (_, b, m, _) => .br (pkT b m && qOk q) (.br (mayV q.1) (.ret ([.int .i64 0], pkO (bytesInt (putQ q (intBytes b, m)).1) (putQ q (intBytes b, m)).2)) (.ret ([.int .i64 1], pkO b m))) .no
theorem ok22w : os22w.Ok Try.prog := by
 refine like_ok ok22 _ ?_
 rintro ⟨(q : QQt), _⟩ ⟨_, (b : List Int), (m : Known), _⟩ r h
 simp only [Tr.get] at h
 cases hc : pkT b m && qOk q with
 | false => rw [hc] at h; cases h
 | true =>
   rw [hc, cond_true] at h
   obtain ⟨h1, h2⟩ := Bool.and_eq_true_iff.1 hc
   obtain ⟨b1, b2, b3⟩ := pkT_iff.1 h1
   obtain ⟨q1, q2, q3⟩ := qOk_iff.1 h2
   refine Tr.get_of_all ?_
   show (t22 q b m).all _
   unfold t22
   cases hm : mayV q.1 with
   | false =>
     rw [hm, cond_false] at h
     cases h
     exact Tr.all_t (len_big (by omega)) (Tr.all_t rfl (Tr.all_ret rfl))
   | true =>
     rw [hm, cond_true] at h
     cases h
     obtain ⟨_, k2, _⟩ := nameP_k (p := (intBytes b, m)) hm b2
     have hl := intB_len b
     have k2 : (nameP q.1 (intBytes b) m).1.length ≤ (intBytes b).length + q.1.length := k2
     refine Tr.all_t (len_big (by omega)) (Tr.all_f rfl (Tr.all_t ?_ (Tr.all_t rfl (Tr.all_t q2 (Tr.all_t q3 (Tr.all_t ?_ (Tr.all_ret ?_)))))))
     · unfold pkC
       rw [b1, b2, Nat.ble_eq_true_of_le (by omega), Nat.ble_eq_true_of_le (by omega)]
       rfl
     · have e : (bytesInt (put16 q.2.1 ++ put16 q.2.2)).length = 4 := rfl
       exact fits_true (by rw [bytesInt_len, e]; omega) (by rw [bytesInt_len, e]; omega)
     · rw [← bytesInt_app]
       rfl
def fs23w : FSpec := fs23.like fun (p, q, _) => .br (ptOk p q.1 && qOk q) (.br (mayV q.1) (.ret (putQ q p, (0 : Int), ())) (.ret (p, (1 : Int), ()))) .no
theorem ptOk_iff {p : PKt} {d : List UInt8} : ptOk p d = true ↔ bigS d = true ∧ kOk p.2 = true ∧ p.1.length ≤ 1000000000 ∧ p.2.length ≤ 1000000000 := by
 unfold ptOk
 rw [Bool.and_eq_true, Bool.and_eq_true, Bool.and_eq_true]
 exact ⟨fun ⟨a, b, c, d⟩ => ⟨a, b, Nat.le_of_ble_eq_true c, Nat.le_of_ble_eq_true d⟩, fun ⟨a, b, c, d⟩ => ⟨a, b, Nat.ble_eq_true_of_le c, Nat.ble_eq_true_of_le d⟩⟩
theorem okf23w : fs23w.Ok Try.prog := by
 refine flike_ok okf23 _ ?_
 rintro ⟨(p : PKt), (q : QQt), _⟩ y h
 simp only [Tr.get] at h
 cases hc : ptOk p q.1 && qOk q with
 | false => rw [hc] at h; cases h
 | true =>
   rw [hc, cond_true] at h
   obtain ⟨h1, h2⟩ := Bool.and_eq_true_iff.1 hc
   obtain ⟨p0, p1, p2, p3⟩ := ptOk_iff.1 h1
   obtain ⟨q1, q2, q3⟩ := qOk_iff.1 h2
   cases hm : mayV q.1 with
   | false =>
     rw [hm, cond_false] at h
     cases h
     refine convR_of (vs := [AV.agg [.str p.1, .list (.pair .str (.int .i64)) p.2], .int .i64 1]) rfl rfl (Tr.get_of_all ?_)
     show (t23 p q).all _
     unfold t23
     rw [hm]
     exact Tr.all_t p0 (Tr.all_t rfl (Tr.all_ret rfl))
   | true =>
     rw [hm, cond_true] at h
     cases h
     refine convR_of (vs := [AV.agg [.str (putQ q p).1, .list (.pair .str (.int .i64)) (putQ q p).2], .int .i64 0]) rfl rfl (Tr.get_of_all ?_)
     show (t23 p q).all _
     unfold t23
     rw [hm]
     obtain ⟨_, k2, _⟩ := nameP_k (p := p) hm p1
     have e : (put16 q.2.1 ++ put16 q.2.2).length = 4 := rfl
     have hn1 := (may_iff.1 hm).2.1
     exact Tr.all_t p0 (Tr.all_f rfl (Tr.all_t (nmOk_of (by omega) p1 (by omega) (by omega)) (Tr.all_t rfl (Tr.all_t q2 (Tr.all_t q3 (Tr.all_t (Nat.ble_eq_true_of_le (by rw [e]; omega)) (Tr.all_ret rfl)))))))
def t24 (r : RRt) (b : List Int) (m : List (List UInt8 × Int)) : Tr Res := .br (rrBig r) (.br (!recV r) (.ret ([.int .i64 1], [.boxT none [.rowA 1, .mp 2], .row (.int .u8) b, .mpo .str (.int .i64) m])) (.br (pkC b m && Nat.ble r.1.length 100000000000) (.br (mayV r.1) (.br (n16C r.2.1) (.br (n16C r.2.2.1) (.br (n32C r.2.2.2.1) (.br (fits (List.length (bytesInt (nameP r.1 (intBytes b) m).1) + List.length (bytesInt (put16 r.2.1 ++ put16 r.2.2.1 ++ put32 r.2.2.2.1))) 1) (.br (Nat.ble (List.length (bytesInt (nameP r.1 (intBytes b) m).1 ++ bytesInt (put16 r.2.1 ++ put16 r.2.2.1 ++ put32 r.2.2.2.1))) 100000000000) (.br (pkT (bytesInt (nameP r.1 (intBytes b) m).1 ++ bytesInt (put16 r.2.1 ++ put16 r.2.2.1 ++ put32 r.2.2.2.1) ++ [(0 : Ty.den (Ty.int .u8)), (0 : Ty.den (Ty.int .u8))]) (nameP r.1 (intBytes b) m).2 && Nat.ble r.2.2.2.2.length 1000000) (.br (mayR r.2.1 r.2.2.2.2) (.br (Nat.ble (List.length (bytesInt (putR r.2.1 r.2.2.2.2 (intBytes (bytesInt (nameP r.1 (intBytes b) m).1 ++ bytesInt (put16 r.2.1 ++ put16 r.2.2.1 ++ put32 r.2.2.2.1) ++ [(0 : Ty.den (Ty.int .u8)), (0 : Ty.den (Ty.int .u8))]), (nameP r.1 (intBytes b) m).2)).1)) 100000000000) (.br (decide ((2 : Ty.den (Ty.int .i64)) ≤ (↑(List.length (bytesInt (nameP r.1 (intBytes b) m).1 ++ bytesInt (put16 r.2.1 ++ put16 r.2.2.1 ++ put32 r.2.2.2.1))) : Int) + 2) && decide ((↑(List.length (bytesInt (nameP r.1 (intBytes b) m).1 ++ bytesInt (put16 r.2.1 ++ put16 r.2.2.1 ++ put32 r.2.2.2.1))) : Int) + 2 ≤ (↑(List.length (bytesInt (putR r.2.1 r.2.2.2.2 (intBytes (bytesInt (nameP r.1 (intBytes b) m).1 ++ bytesInt (put16 r.2.1 ++ put16 r.2.2.1 ++ put32 r.2.2.2.1) ++ [(0 : Ty.den (Ty.int .u8)), (0 : Ty.den (Ty.int .u8))]), (nameP r.1 (intBytes b) m).2)).1)) : Int))) (.ret ([.int .i64 0], [.boxT none [.rowA 1, .mp 2], .row (.int .u8) (closeB (bytesInt (putR r.2.1 r.2.2.2.2 (intBytes (bytesInt (nameP r.1 (intBytes b) m).1 ++ bytesInt (put16 r.2.1 ++ put16 r.2.2.1 ++ put32 r.2.2.2.1) ++ [(0 : Ty.den (Ty.int .u8)), (0 : Ty.den (Ty.int .u8))]), (nameP r.1 (intBytes b) m).2)).1) ((↑(List.length (bytesInt (nameP r.1 (intBytes b) m).1 ++ bytesInt (put16 r.2.1 ++ put16 r.2.2.1 ++ put32 r.2.2.2.1))) : Int) + 2)), .mpo .str (.int .i64) (putR r.2.1 r.2.2.2.2 (intBytes (bytesInt (nameP r.1 (intBytes b) m).1 ++ bytesInt (put16 r.2.1 ++ put16 r.2.2.1 ++ put32 r.2.2.2.1) ++ [(0 : Ty.den (Ty.int .u8)), (0 : Ty.den (Ty.int .u8))]), (nameP r.1 (intBytes b) m).2)).2])) (.ret ([.int .i64 1], [.boxT none [.rowA 1, .mp 2], .row (.int .u8) (bytesInt (putR r.2.1 r.2.2.2.2 (intBytes (bytesInt (nameP r.1 (intBytes b) m).1 ++ bytesInt (put16 r.2.1 ++ put16 r.2.2.1 ++ put32 r.2.2.2.1) ++ [(0 : Ty.den (Ty.int .u8)), (0 : Ty.den (Ty.int .u8))]), (nameP r.1 (intBytes b) m).2)).1), .mpo .str (.int .i64) (putR r.2.1 r.2.2.2.2 (intBytes (bytesInt (nameP r.1 (intBytes b) m).1 ++ bytesInt (put16 r.2.1 ++ put16 r.2.2.1 ++ put32 r.2.2.2.1) ++ [(0 : Ty.den (Ty.int .u8)), (0 : Ty.den (Ty.int .u8))]), (nameP r.1 (intBytes b) m).2)).2]))) .no) (.br (Nat.ble (List.length (bytesInt (nameP r.1 (intBytes b) m).1 ++ bytesInt (put16 r.2.1 ++ put16 r.2.2.1 ++ put32 r.2.2.2.1) ++ [(0 : Ty.den (Ty.int .u8)), (0 : Ty.den (Ty.int .u8))])) 100000000000) (.br (decide ((2 : Ty.den (Ty.int .i64)) ≤ (↑(List.length (bytesInt (nameP r.1 (intBytes b) m).1 ++ bytesInt (put16 r.2.1 ++ put16 r.2.2.1 ++ put32 r.2.2.2.1))) : Int) + 2) && decide ((↑(List.length (bytesInt (nameP r.1 (intBytes b) m).1 ++ bytesInt (put16 r.2.1 ++ put16 r.2.2.1 ++ put32 r.2.2.2.1))) : Int) + 2 ≤ (↑(List.length (bytesInt (nameP r.1 (intBytes b) m).1 ++ bytesInt (put16 r.2.1 ++ put16 r.2.2.1 ++ put32 r.2.2.2.1) ++ [(0 : Ty.den (Ty.int .u8)), (0 : Ty.den (Ty.int .u8))])) : Int))) (.ret ([.int .i64 0], [.boxT none [.rowA 1, .mp 2], .row (.int .u8) (closeB (bytesInt (nameP r.1 (intBytes b) m).1 ++ bytesInt (put16 r.2.1 ++ put16 r.2.2.1 ++ put32 r.2.2.2.1) ++ [(0 : Ty.den (Ty.int .u8)), (0 : Ty.den (Ty.int .u8))]) ((↑(List.length (bytesInt (nameP r.1 (intBytes b) m).1 ++ bytesInt (put16 r.2.1 ++ put16 r.2.2.1 ++ put32 r.2.2.2.1))) : Int) + 2)), .mpo .str (.int .i64) (nameP r.1 (intBytes b) m).2])) (.ret ([.int .i64 1], [.boxT none [.rowA 1, .mp 2], .row (.int .u8) (bytesInt (nameP r.1 (intBytes b) m).1 ++ bytesInt (put16 r.2.1 ++ put16 r.2.2.1 ++ put32 r.2.2.2.1) ++ [(0 : Ty.den (Ty.int .u8)), (0 : Ty.den (Ty.int .u8))]), .mpo .str (.int .i64) (nameP r.1 (intBytes b) m).2]))) .no)) .no) .no) .no) .no) .no) .no) (.br (n16C r.2.1) (.br (n16C r.2.2.1) (.br (n32C r.2.2.2.1) (.br (fits (List.length b + List.length (bytesInt (put16 r.2.1 ++ put16 r.2.2.1 ++ put32 r.2.2.2.1))) 1) (.br (Nat.ble (List.length (b ++ bytesInt (put16 r.2.1 ++ put16 r.2.2.1 ++ put32 r.2.2.2.1))) 100000000000) (.br (pkT (b ++ bytesInt (put16 r.2.1 ++ put16 r.2.2.1 ++ put32 r.2.2.2.1) ++ [(0 : Ty.den (Ty.int .u8)), (0 : Ty.den (Ty.int .u8))]) m && Nat.ble r.2.2.2.2.length 1000000) (.br (mayR r.2.1 r.2.2.2.2) (.br (Nat.ble (List.length (bytesInt (putR r.2.1 r.2.2.2.2 (intBytes (b ++ bytesInt (put16 r.2.1 ++ put16 r.2.2.1 ++ put32 r.2.2.2.1) ++ [(0 : Ty.den (Ty.int .u8)), (0 : Ty.den (Ty.int .u8))]), m)).1)) 100000000000) (.br (decide ((2 : Ty.den (Ty.int .i64)) ≤ (↑(List.length (b ++ bytesInt (put16 r.2.1 ++ put16 r.2.2.1 ++ put32 r.2.2.2.1))) : Int) + 2) && decide ((↑(List.length (b ++ bytesInt (put16 r.2.1 ++ put16 r.2.2.1 ++ put32 r.2.2.2.1))) : Int) + 2 ≤ (↑(List.length (bytesInt (putR r.2.1 r.2.2.2.2 (intBytes (b ++ bytesInt (put16 r.2.1 ++ put16 r.2.2.1 ++ put32 r.2.2.2.1) ++ [(0 : Ty.den (Ty.int .u8)), (0 : Ty.den (Ty.int .u8))]), m)).1)) : Int))) (.ret ([.int .i64 0], [.boxT none [.rowA 1, .mp 2], .row (.int .u8) (closeB (bytesInt (putR r.2.1 r.2.2.2.2 (intBytes (b ++ bytesInt (put16 r.2.1 ++ put16 r.2.2.1 ++ put32 r.2.2.2.1) ++ [(0 : Ty.den (Ty.int .u8)), (0 : Ty.den (Ty.int .u8))]), m)).1) ((↑(List.length (b ++ bytesInt (put16 r.2.1 ++ put16 r.2.2.1 ++ put32 r.2.2.2.1))) : Int) + 2)), .mpo .str (.int .i64) (putR r.2.1 r.2.2.2.2 (intBytes (b ++ bytesInt (put16 r.2.1 ++ put16 r.2.2.1 ++ put32 r.2.2.2.1) ++ [(0 : Ty.den (Ty.int .u8)), (0 : Ty.den (Ty.int .u8))]), m)).2])) (.ret ([.int .i64 1], [.boxT none [.rowA 1, .mp 2], .row (.int .u8) (bytesInt (putR r.2.1 r.2.2.2.2 (intBytes (b ++ bytesInt (put16 r.2.1 ++ put16 r.2.2.1 ++ put32 r.2.2.2.1) ++ [(0 : Ty.den (Ty.int .u8)), (0 : Ty.den (Ty.int .u8))]), m)).1), .mpo .str (.int .i64) (putR r.2.1 r.2.2.2.2 (intBytes (b ++ bytesInt (put16 r.2.1 ++ put16 r.2.2.1 ++ put32 r.2.2.2.1) ++ [(0 : Ty.den (Ty.int .u8)), (0 : Ty.den (Ty.int .u8))]), m)).2]))) .no) (.br (Nat.ble (List.length (b ++ bytesInt (put16 r.2.1 ++ put16 r.2.2.1 ++ put32 r.2.2.2.1) ++ [(0 : Ty.den (Ty.int .u8)), (0 : Ty.den (Ty.int .u8))])) 100000000000) (.br (decide ((2 : Ty.den (Ty.int .i64)) ≤ (↑(List.length (b ++ bytesInt (put16 r.2.1 ++ put16 r.2.2.1 ++ put32 r.2.2.2.1))) : Int) + 2) && decide ((↑(List.length (b ++ bytesInt (put16 r.2.1 ++ put16 r.2.2.1 ++ put32 r.2.2.2.1))) : Int) + 2 ≤ (↑(List.length (b ++ bytesInt (put16 r.2.1 ++ put16 r.2.2.1 ++ put32 r.2.2.2.1) ++ [(0 : Ty.den (Ty.int .u8)), (0 : Ty.den (Ty.int .u8))])) : Int))) (.ret ([.int .i64 0], [.boxT none [.rowA 1, .mp 2], .row (.int .u8) (closeB (b ++ bytesInt (put16 r.2.1 ++ put16 r.2.2.1 ++ put32 r.2.2.2.1) ++ [(0 : Ty.den (Ty.int .u8)), (0 : Ty.den (Ty.int .u8))]) ((↑(List.length (b ++ bytesInt (put16 r.2.1 ++ put16 r.2.2.1 ++ put32 r.2.2.2.1))) : Int) + 2)), .mpo .str (.int .i64) m])) (.ret ([.int .i64 1], [.boxT none [.rowA 1, .mp 2], .row (.int .u8) (b ++ bytesInt (put16 r.2.1 ++ put16 r.2.2.1 ++ put32 r.2.2.2.1) ++ [(0 : Ty.den (Ty.int .u8)), (0 : Ty.den (Ty.int .u8))]), .mpo .str (.int .i64) m]))) .no)) .no) .no) .no) .no) .no) .no)) .no)) .no
def os24 : OSpec := { f := 24, sh := [.ptr 0 0, .d RR true], so := [.box [.row 1, .mp 2], .row (.int .u8), .map .str (.int .i64)], F := fun (r, _) (_, b, m, _) => t24 r b m }
theorem fn24 (r : RRt) (b : List Int) (m : List (List UInt8 × Int)) : evC T0 (orcB [fs17w, fs61w, fs65w] [os59w, os60, os66w, os68w, os67w]) (lpOf h24 3 (lsOf [])) c24 1000000 (startSt [.ptr 0 0, AV.ofTy RR r true] [.box [.rowA 1, .mp 2], .row (.int .u8) b, .mpo .str (.int .i64) m] Try.f24.ntmps) (finishK T0 false 3 Try.f24) = (t24 r b m).get := by kernel_rfl
theorem ok24 : os24.Ok Try.prog := by
 refine os_ok mixed0 tab0 (orcB_sound (all_cons okf17w (all_cons okf61w (all_cons okf65w all_nil))) (all_cons ok59w (all_cons ok60 (all_cons ok66w (all_cons ok68w (all_cons ok67w all_nil)))))) h24 (d := 0) (n0 := 3) (S := lsOf []) Try.func24 (by kernel_rfl) (c := c24) (by kernel_rfl) rfl (no_loops (by kernel_rfl)) (by omega) (by kernel_rfl) ?_
 intro x'' y'' q'' hq''
 obtain ⟨(r : RRt), _⟩ := x''
 obtain ⟨_, (b : List Int), (m : List (List UInt8 × Int)), _⟩ := y''
 exact (fn24 r b m).trans hq''
def t25 (p : (List UInt8 × List (List UInt8 × Int))) (r : RRt) : Tr Res := .br (rrBig r) (.br (!recV r) (.ret ([.agg [.str p.1, .list (Ty.pair Ty.str (Ty.int .i64)) p.2], .int .i64 1], [])) (.br (ptOk p r.1 && qOk (r.1, r.2.1, r.2.2.1)) (.br (mayV r.1) (.br (n32C r.2.2.2.1) (.br (Nat.ble (List.length (putQ (r.1, r.2.1, r.2.2.1) p).1 + List.length (put32 r.2.2.2.1 ++ [0, 0])) 9223372036854775807) (.br (ptOk ((putQ (r.1, r.2.1, r.2.2.1) p).1 ++ (put32 r.2.2.2.1 ++ [0, 0]), (putQ (r.1, r.2.1, r.2.2.1) p).2) r.2.2.2.2) (.br (mayR r.2.1 r.2.2.2.2) (.br (decide (0 ≤ IntKind.wrap .i64 ((↑(List.length ((putQ (r.1, r.2.1, r.2.2.1) p).1 ++ (put32 r.2.2.2.1 ++ [0, 0]))) : Int) - 2)) && decide (IntKind.wrap .i64 ((↑(List.length ((putQ (r.1, r.2.1, r.2.2.1) p).1 ++ (put32 r.2.2.2.1 ++ [0, 0]))) : Int) - 2) ≤ (↑(List.length (putR r.2.1 r.2.2.2.2 ((putQ (r.1, r.2.1, r.2.2.1) p).1 ++ (put32 r.2.2.2.1 ++ [0, 0]), (putQ (r.1, r.2.1, r.2.2.1) p).2)).1) : Int))) (.br (decide (0 ≤ 0) && decide (0 ≤ IntKind.wrap .i64 ((↑(List.length ((putQ (r.1, r.2.1, r.2.2.1) p).1 ++ (put32 r.2.2.2.1 ++ [0, 0]))) : Int) - 2))) (.br (n16C (IntKind.wrap .u16 (IntKind.wrap .i64 ((↑(List.length (putR r.2.1 r.2.2.2.2 ((putQ (r.1, r.2.1, r.2.2.1) p).1 ++ (put32 r.2.2.2.1 ++ [0, 0]), (putQ (r.1, r.2.1, r.2.2.1) p).2)).1) : Int) - (↑(List.length ((putQ (r.1, r.2.1, r.2.2.1) p).1 ++ (put32 r.2.2.2.1 ++ [0, 0]))) : Int))))) (.br (Nat.ble (List.length (List.take (Int.toNat (IntKind.wrap .i64 ((↑(List.length ((putQ (r.1, r.2.1, r.2.2.1) p).1 ++ (put32 r.2.2.2.1 ++ [0, 0]))) : Int) - 2)) - Int.toNat 0) (List.drop (Int.toNat 0) (putR r.2.1 r.2.2.2.2 ((putQ (r.1, r.2.1, r.2.2.1) p).1 ++ (put32 r.2.2.2.1 ++ [0, 0]), (putQ (r.1, r.2.1, r.2.2.1) p).2)).1)) + List.length (put16 (IntKind.wrap .u16 (IntKind.wrap .i64 ((↑(List.length (putR r.2.1 r.2.2.2.2 ((putQ (r.1, r.2.1, r.2.2.1) p).1 ++ (put32 r.2.2.2.1 ++ [0, 0]), (putQ (r.1, r.2.1, r.2.2.1) p).2)).1) : Int) - (↑(List.length ((putQ (r.1, r.2.1, r.2.2.1) p).1 ++ (put32 r.2.2.2.1 ++ [0, 0]))) : Int)))))) 9223372036854775807) (.br (decide (0 ≤ (↑(List.length (putR r.2.1 r.2.2.2.2 ((putQ (r.1, r.2.1, r.2.2.1) p).1 ++ (put32 r.2.2.2.1 ++ [0, 0]), (putQ (r.1, r.2.1, r.2.2.1) p).2)).1) : Int)) && decide ((↑(List.length (putR r.2.1 r.2.2.2.2 ((putQ (r.1, r.2.1, r.2.2.1) p).1 ++ (put32 r.2.2.2.1 ++ [0, 0]), (putQ (r.1, r.2.1, r.2.2.1) p).2)).1) : Int) ≤ (↑(List.length (putR r.2.1 r.2.2.2.2 ((putQ (r.1, r.2.1, r.2.2.1) p).1 ++ (put32 r.2.2.2.1 ++ [0, 0]), (putQ (r.1, r.2.1, r.2.2.1) p).2)).1) : Int))) (.br (decide (0 ≤ (↑(List.length ((putQ (r.1, r.2.1, r.2.2.1) p).1 ++ (put32 r.2.2.2.1 ++ [0, 0]))) : Int)) && decide ((↑(List.length ((putQ (r.1, r.2.1, r.2.2.1) p).1 ++ (put32 r.2.2.2.1 ++ [0, 0]))) : Int) ≤ (↑(List.length (putR r.2.1 r.2.2.2.2 ((putQ (r.1, r.2.1, r.2.2.1) p).1 ++ (put32 r.2.2.2.1 ++ [0, 0]), (putQ (r.1, r.2.1, r.2.2.1) p).2)).1) : Int))) (.br (Nat.ble (List.length (List.take (Int.toNat (IntKind.wrap .i64 ((↑(List.length ((putQ (r.1, r.2.1, r.2.2.1) p).1 ++ (put32 r.2.2.2.1 ++ [0, 0]))) : Int) - 2)) - Int.toNat 0) (List.drop (Int.toNat 0) (putR r.2.1 r.2.2.2.2 ((putQ (r.1, r.2.1, r.2.2.1) p).1 ++ (put32 r.2.2.2.1 ++ [0, 0]), (putQ (r.1, r.2.1, r.2.2.1) p).2)).1) ++ put16 (IntKind.wrap .u16 (IntKind.wrap .i64 ((↑(List.length (putR r.2.1 r.2.2.2.2 ((putQ (r.1, r.2.1, r.2.2.1) p).1 ++ (put32 r.2.2.2.1 ++ [0, 0]), (putQ (r.1, r.2.1, r.2.2.1) p).2)).1) : Int) - (↑(List.length ((putQ (r.1, r.2.1, r.2.2.1) p).1 ++ (put32 r.2.2.2.1 ++ [0, 0]))) : Int))))) + List.length (List.take (Int.toNat (↑(List.length (putR r.2.1 r.2.2.2.2 ((putQ (r.1, r.2.1, r.2.2.1) p).1 ++ (put32 r.2.2.2.1 ++ [0, 0]), (putQ (r.1, r.2.1, r.2.2.1) p).2)).1) : Int) - Int.toNat (↑(List.length ((putQ (r.1, r.2.1, r.2.2.1) p).1 ++ (put32 r.2.2.2.1 ++ [0, 0]))) : Int)) (List.drop (Int.toNat (↑(List.length ((putQ (r.1, r.2.1, r.2.2.1) p).1 ++ (put32 r.2.2.2.1 ++ [0, 0]))) : Int)) (putR r.2.1 r.2.2.2.2 ((putQ (r.1, r.2.1, r.2.2.1) p).1 ++ (put32 r.2.2.2.1 ++ [0, 0]), (putQ (r.1, r.2.1, r.2.2.1) p).2)).1))) 9223372036854775807) (.ret ([.agg [.str (List.take (Int.toNat (IntKind.wrap .i64 ((↑(List.length ((putQ (r.1, r.2.1, r.2.2.1) p).1 ++ (put32 r.2.2.2.1 ++ [0, 0]))) : Int) - 2)) - Int.toNat 0) (List.drop (Int.toNat 0) (putR r.2.1 r.2.2.2.2 ((putQ (r.1, r.2.1, r.2.2.1) p).1 ++ (put32 r.2.2.2.1 ++ [0, 0]), (putQ (r.1, r.2.1, r.2.2.1) p).2)).1) ++ put16 (IntKind.wrap .u16 (IntKind.wrap .i64 ((↑(List.length (putR r.2.1 r.2.2.2.2 ((putQ (r.1, r.2.1, r.2.2.1) p).1 ++ (put32 r.2.2.2.1 ++ [0, 0]), (putQ (r.1, r.2.1, r.2.2.1) p).2)).1) : Int) - (↑(List.length ((putQ (r.1, r.2.1, r.2.2.1) p).1 ++ (put32 r.2.2.2.1 ++ [0, 0]))) : Int)))) ++ List.take (Int.toNat (↑(List.length (putR r.2.1 r.2.2.2.2 ((putQ (r.1, r.2.1, r.2.2.1) p).1 ++ (put32 r.2.2.2.1 ++ [0, 0]), (putQ (r.1, r.2.1, r.2.2.1) p).2)).1) : Int) - Int.toNat (↑(List.length ((putQ (r.1, r.2.1, r.2.2.1) p).1 ++ (put32 r.2.2.2.1 ++ [0, 0]))) : Int)) (List.drop (Int.toNat (↑(List.length ((putQ (r.1, r.2.1, r.2.2.1) p).1 ++ (put32 r.2.2.2.1 ++ [0, 0]))) : Int)) (putR r.2.1 r.2.2.2.2 ((putQ (r.1, r.2.1, r.2.2.1) p).1 ++ (put32 r.2.2.2.1 ++ [0, 0]), (putQ (r.1, r.2.1, r.2.2.1) p).2)).1)), .list (Ty.pair Ty.str (Ty.int .i64)) (putR r.2.1 r.2.2.2.2 ((putQ (r.1, r.2.1, r.2.2.1) p).1 ++ (put32 r.2.2.2.1 ++ [0, 0]), (putQ (r.1, r.2.1, r.2.2.1) p).2)).2], .int .i64 0], [])) .no) .no) .no) .no) .no) .no) .no) (.br (decide (0 ≤ IntKind.wrap .i64 ((↑(List.length ((putQ (r.1, r.2.1, r.2.2.1) p).1 ++ (put32 r.2.2.2.1 ++ [0, 0]))) : Int) - 2)) && decide (IntKind.wrap .i64 ((↑(List.length ((putQ (r.1, r.2.1, r.2.2.1) p).1 ++ (put32 r.2.2.2.1 ++ [0, 0]))) : Int) - 2) ≤ (↑(List.length ((putQ (r.1, r.2.1, r.2.2.1) p).1 ++ (put32 r.2.2.2.1 ++ [0, 0]))) : Int))) (.br (decide (0 ≤ 0) && decide (0 ≤ IntKind.wrap .i64 ((↑(List.length ((putQ (r.1, r.2.1, r.2.2.1) p).1 ++ (put32 r.2.2.2.1 ++ [0, 0]))) : Int) - 2))) (.br (n16C (IntKind.wrap .u16 (IntKind.wrap .i64 ((↑(List.length ((putQ (r.1, r.2.1, r.2.2.1) p).1 ++ (put32 r.2.2.2.1 ++ [0, 0]))) : Int) - (↑(List.length ((putQ (r.1, r.2.1, r.2.2.1) p).1 ++ (put32 r.2.2.2.1 ++ [0, 0]))) : Int))))) (.br (Nat.ble (List.length (List.take (Int.toNat (IntKind.wrap .i64 ((↑(List.length ((putQ (r.1, r.2.1, r.2.2.1) p).1 ++ (put32 r.2.2.2.1 ++ [0, 0]))) : Int) - 2)) - Int.toNat 0) (List.drop (Int.toNat 0) ((putQ (r.1, r.2.1, r.2.2.1) p).1 ++ (put32 r.2.2.2.1 ++ [0, 0])))) + List.length (put16 (IntKind.wrap .u16 (IntKind.wrap .i64 ((↑(List.length ((putQ (r.1, r.2.1, r.2.2.1) p).1 ++ (put32 r.2.2.2.1 ++ [0, 0]))) : Int) - (↑(List.length ((putQ (r.1, r.2.1, r.2.2.1) p).1 ++ (put32 r.2.2.2.1 ++ [0, 0]))) : Int)))))) 9223372036854775807) (.br (decide (0 ≤ (↑(List.length ((putQ (r.1, r.2.1, r.2.2.1) p).1 ++ (put32 r.2.2.2.1 ++ [0, 0]))) : Int)) && decide ((↑(List.length ((putQ (r.1, r.2.1, r.2.2.1) p).1 ++ (put32 r.2.2.2.1 ++ [0, 0]))) : Int) ≤ (↑(List.length ((putQ (r.1, r.2.1, r.2.2.1) p).1 ++ (put32 r.2.2.2.1 ++ [0, 0]))) : Int))) (.br (decide (0 ≤ (↑(List.length ((putQ (r.1, r.2.1, r.2.2.1) p).1 ++ (put32 r.2.2.2.1 ++ [0, 0]))) : Int)) && decide ((↑(List.length ((putQ (r.1, r.2.1, r.2.2.1) p).1 ++ (put32 r.2.2.2.1 ++ [0, 0]))) : Int) ≤ (↑(List.length ((putQ (r.1, r.2.1, r.2.2.1) p).1 ++ (put32 r.2.2.2.1 ++ [0, 0]))) : Int))) (.br (Nat.ble (List.length (List.take (Int.toNat (IntKind.wrap .i64 ((↑(List.length ((putQ (r.1, r.2.1, r.2.2.1) p).1 ++ (put32 r.2.2.2.1 ++ [0, 0]))) : Int) - 2)) - Int.toNat 0) (List.drop (Int.toNat 0) ((putQ (r.1, r.2.1, r.2.2.1) p).1 ++ (put32 r.2.2.2.1 ++ [0, 0]))) ++ put16 (IntKind.wrap .u16 (IntKind.wrap .i64 ((↑(List.length ((putQ (r.1, r.2.1, r.2.2.1) p).1 ++ (put32 r.2.2.2.1 ++ [0, 0]))) : Int) - (↑(List.length ((putQ (r.1, r.2.1, r.2.2.1) p).1 ++ (put32 r.2.2.2.1 ++ [0, 0]))) : Int))))) + List.length (List.take (Int.toNat (↑(List.length ((putQ (r.1, r.2.1, r.2.2.1) p).1 ++ (put32 r.2.2.2.1 ++ [0, 0]))) : Int) - Int.toNat (↑(List.length ((putQ (r.1, r.2.1, r.2.2.1) p).1 ++ (put32 r.2.2.2.1 ++ [0, 0]))) : Int)) (List.drop (Int.toNat (↑(List.length ((putQ (r.1, r.2.1, r.2.2.1) p).1 ++ (put32 r.2.2.2.1 ++ [0, 0]))) : Int)) ((putQ (r.1, r.2.1, r.2.2.1) p).1 ++ (put32 r.2.2.2.1 ++ [0, 0]))))) 9223372036854775807) (.ret ([.agg [.str (List.take (Int.toNat (IntKind.wrap .i64 ((↑(List.length ((putQ (r.1, r.2.1, r.2.2.1) p).1 ++ (put32 r.2.2.2.1 ++ [0, 0]))) : Int) - 2)) - Int.toNat 0) (List.drop (Int.toNat 0) ((putQ (r.1, r.2.1, r.2.2.1) p).1 ++ (put32 r.2.2.2.1 ++ [0, 0]))) ++ put16 (IntKind.wrap .u16 (IntKind.wrap .i64 ((↑(List.length ((putQ (r.1, r.2.1, r.2.2.1) p).1 ++ (put32 r.2.2.2.1 ++ [0, 0]))) : Int) - (↑(List.length ((putQ (r.1, r.2.1, r.2.2.1) p).1 ++ (put32 r.2.2.2.1 ++ [0, 0]))) : Int)))) ++ List.take (Int.toNat (↑(List.length ((putQ (r.1, r.2.1, r.2.2.1) p).1 ++ (put32 r.2.2.2.1 ++ [0, 0]))) : Int) - Int.toNat (↑(List.length ((putQ (r.1, r.2.1, r.2.2.1) p).1 ++ (put32 r.2.2.2.1 ++ [0, 0]))) : Int)) (List.drop (Int.toNat (↑(List.length ((putQ (r.1, r.2.1, r.2.2.1) p).1 ++ (put32 r.2.2.2.1 ++ [0, 0]))) : Int)) ((putQ (r.1, r.2.1, r.2.2.1) p).1 ++ (put32 r.2.2.2.1 ++ [0, 0])))), .list (Ty.pair Ty.str (Ty.int .i64)) (putQ (r.1, r.2.1, r.2.2.1) p).2], .int .i64 0], [])) .no) .no) .no) .no) .no) .no) .no)) .no) .no) .no) (.br (n32C r.2.2.2.1) (.br (Nat.ble (List.length p.1 + List.length (put32 r.2.2.2.1 ++ [0, 0])) 9223372036854775807) (.br (ptOk (p.1 ++ (put32 r.2.2.2.1 ++ [0, 0]), p.2) r.2.2.2.2) (.br (mayR r.2.1 r.2.2.2.2) (.br (decide (0 ≤ IntKind.wrap .i64 ((↑(List.length (p.1 ++ (put32 r.2.2.2.1 ++ [0, 0]))) : Int) - 2)) && decide (IntKind.wrap .i64 ((↑(List.length (p.1 ++ (put32 r.2.2.2.1 ++ [0, 0]))) : Int) - 2) ≤ (↑(List.length (putR r.2.1 r.2.2.2.2 (p.1 ++ (put32 r.2.2.2.1 ++ [0, 0]), p.2)).1) : Int))) (.br (decide (0 ≤ 0) && decide (0 ≤ IntKind.wrap .i64 ((↑(List.length (p.1 ++ (put32 r.2.2.2.1 ++ [0, 0]))) : Int) - 2))) (.br (n16C (IntKind.wrap .u16 (IntKind.wrap .i64 ((↑(List.length (putR r.2.1 r.2.2.2.2 (p.1 ++ (put32 r.2.2.2.1 ++ [0, 0]), p.2)).1) : Int) - (↑(List.length (p.1 ++ (put32 r.2.2.2.1 ++ [0, 0]))) : Int))))) (.br (Nat.ble (List.length (List.take (Int.toNat (IntKind.wrap .i64 ((↑(List.length (p.1 ++ (put32 r.2.2.2.1 ++ [0, 0]))) : Int) - 2)) - Int.toNat 0) (List.drop (Int.toNat 0) (putR r.2.1 r.2.2.2.2 (p.1 ++ (put32 r.2.2.2.1 ++ [0, 0]), p.2)).1)) + List.length (put16 (IntKind.wrap .u16 (IntKind.wrap .i64 ((↑(List.length (putR r.2.1 r.2.2.2.2 (p.1 ++ (put32 r.2.2.2.1 ++ [0, 0]), p.2)).1) : Int) - (↑(List.length (p.1 ++ (put32 r.2.2.2.1 ++ [0, 0]))) : Int)))))) 9223372036854775807) (.br (decide (0 ≤ (↑(List.length (putR r.2.1 r.2.2.2.2 (p.1 ++ (put32 r.2.2.2.1 ++ [0, 0]), p.2)).1) : Int)) && decide ((↑(List.length (putR r.2.1 r.2.2.2.2 (p.1 ++ (put32 r.2.2.2.1 ++ [0, 0]), p.2)).1) : Int) ≤ (↑(List.length (putR r.2.1 r.2.2.2.2 (p.1 ++ (put32 r.2.2.2.1 ++ [0, 0]), p.2)).1) : Int))) (.br (decide (0 ≤ (↑(List.length (p.1 ++ (put32 r.2.2.2.1 ++ [0, 0]))) : Int)) && decide ((↑(List.length (p.1 ++ (put32 r.2.2.2.1 ++ [0, 0]))) : Int) ≤ (↑(List.length (putR r.2.1 r.2.2.2.2 (p.1 ++ (put32 r.2.2.2.1 ++ [0, 0]), p.2)).1) : Int))) (.br (Nat.ble (List.length (List.take (Int.toNat (IntKind.wrap .i64 ((↑(List.length (p.1 ++ (put32 r.2.2.2.1 ++ [0, 0]))) : Int) - 2)) - Int.toNat 0) (List.drop (Int.toNat 0) (putR r.2.1 r.2.2.2.2 (p.1 ++ (put32 r.2.2.2.1 ++ [0, 0]), p.2)).1) ++ put16 (IntKind.wrap .u16 (IntKind.wrap .i64 ((↑(List.length (putR r.2.1 r.2.2.2.2 (p.1 ++ (put32 r.2.2.2.1 ++ [0, 0]), p.2)).1) : Int) - (↑(List.length (p.1 ++ (put32 r.2.2.2.1 ++ [0, 0]))) : Int))))) + List.length (List.take (Int.toNat (↑(List.length (putR r.2.1 r.2.2.2.2 (p.1 ++ (put32 r.2.2.2.1 ++ [0, 0]), p.2)).1) : Int) - Int.toNat (↑(List.length (p.1 ++ (put32 r.2.2.2.1 ++ [0, 0]))) : Int)) (List.drop (Int.toNat (↑(List.length (p.1 ++ (put32 r.2.2.2.1 ++ [0, 0]))) : Int)) (putR r.2.1 r.2.2.2.2 (p.1 ++ (put32 r.2.2.2.1 ++ [0, 0]), p.2)).1))) 9223372036854775807) (.ret ([.agg [.str (List.take (Int.toNat (IntKind.wrap .i64 ((↑(List.length (p.1 ++ (put32 r.2.2.2.1 ++ [0, 0]))) : Int) - 2)) - Int.toNat 0) (List.drop (Int.toNat 0) (putR r.2.1 r.2.2.2.2 (p.1 ++ (put32 r.2.2.2.1 ++ [0, 0]), p.2)).1) ++ put16 (IntKind.wrap .u16 (IntKind.wrap .i64 ((↑(List.length (putR r.2.1 r.2.2.2.2 (p.1 ++ (put32 r.2.2.2.1 ++ [0, 0]), p.2)).1) : Int) - (↑(List.length (p.1 ++ (put32 r.2.2.2.1 ++ [0, 0]))) : Int)))) ++ List.take (Int.toNat (↑(List.length (putR r.2.1 r.2.2.2.2 (p.1 ++ (put32 r.2.2.2.1 ++ [0, 0]), p.2)).1) : Int) - Int.toNat (↑(List.length (p.1 ++ (put32 r.2.2.2.1 ++ [0, 0]))) : Int)) (List.drop (Int.toNat (↑(List.length (p.1 ++ (put32 r.2.2.2.1 ++ [0, 0]))) : Int)) (putR r.2.1 r.2.2.2.2 (p.1 ++ (put32 r.2.2.2.1 ++ [0, 0]), p.2)).1)), .list (Ty.pair Ty.str (Ty.int .i64)) (putR r.2.1 r.2.2.2.2 (p.1 ++ (put32 r.2.2.2.1 ++ [0, 0]), p.2)).2], .int .i64 0], [])) .no) .no) .no) .no) .no) .no) .no) (.br (decide (0 ≤ IntKind.wrap .i64 ((↑(List.length (p.1 ++ (put32 r.2.2.2.1 ++ [0, 0]))) : Int) - 2)) && decide (IntKind.wrap .i64 ((↑(List.length (p.1 ++ (put32 r.2.2.2.1 ++ [0, 0]))) : Int) - 2) ≤ (↑(List.length (p.1 ++ (put32 r.2.2.2.1 ++ [0, 0]))) : Int))) (.br (decide (0 ≤ 0) && decide (0 ≤ IntKind.wrap .i64 ((↑(List.length (p.1 ++ (put32 r.2.2.2.1 ++ [0, 0]))) : Int) - 2))) (.br (n16C (IntKind.wrap .u16 (IntKind.wrap .i64 ((↑(List.length (p.1 ++ (put32 r.2.2.2.1 ++ [0, 0]))) : Int) - (↑(List.length (p.1 ++ (put32 r.2.2.2.1 ++ [0, 0]))) : Int))))) (.br (Nat.ble (List.length (List.take (Int.toNat (IntKind.wrap .i64 ((↑(List.length (p.1 ++ (put32 r.2.2.2.1 ++ [0, 0]))) : Int) - 2)) - Int.toNat 0) (List.drop (Int.toNat 0) (p.1 ++ (put32 r.2.2.2.1 ++ [0, 0])))) + List.length (put16 (IntKind.wrap .u16 (IntKind.wrap .i64 ((↑(List.length (p.1 ++ (put32 r.2.2.2.1 ++ [0, 0]))) : Int) - (↑(List.length (p.1 ++ (put32 r.2.2.2.1 ++ [0, 0]))) : Int)))))) 9223372036854775807) (.br (decide (0 ≤ (↑(List.length (p.1 ++ (put32 r.2.2.2.1 ++ [0, 0]))) : Int)) && decide ((↑(List.length (p.1 ++ (put32 r.2.2.2.1 ++ [0, 0]))) : Int) ≤ (↑(List.length (p.1 ++ (put32 r.2.2.2.1 ++ [0, 0]))) : Int))) (.br (decide (0 ≤ (↑(List.length (p.1 ++ (put32 r.2.2.2.1 ++ [0, 0]))) : Int)) && decide ((↑(List.length (p.1 ++ (put32 r.2.2.2.1 ++ [0, 0]))) : Int) ≤ (↑(List.length (p.1 ++ (put32 r.2.2.2.1 ++ [0, 0]))) : Int))) (.br (Nat.ble (List.length (List.take (Int.toNat (IntKind.wrap .i64 ((↑(List.length (p.1 ++ (put32 r.2.2.2.1 ++ [0, 0]))) : Int) - 2)) - Int.toNat 0) (List.drop (Int.toNat 0) (p.1 ++ (put32 r.2.2.2.1 ++ [0, 0]))) ++ put16 (IntKind.wrap .u16 (IntKind.wrap .i64 ((↑(List.length (p.1 ++ (put32 r.2.2.2.1 ++ [0, 0]))) : Int) - (↑(List.length (p.1 ++ (put32 r.2.2.2.1 ++ [0, 0]))) : Int))))) + List.length (List.take (Int.toNat (↑(List.length (p.1 ++ (put32 r.2.2.2.1 ++ [0, 0]))) : Int) - Int.toNat (↑(List.length (p.1 ++ (put32 r.2.2.2.1 ++ [0, 0]))) : Int)) (List.drop (Int.toNat (↑(List.length (p.1 ++ (put32 r.2.2.2.1 ++ [0, 0]))) : Int)) (p.1 ++ (put32 r.2.2.2.1 ++ [0, 0]))))) 9223372036854775807) (.ret ([.agg [.str (List.take (Int.toNat (IntKind.wrap .i64 ((↑(List.length (p.1 ++ (put32 r.2.2.2.1 ++ [0, 0]))) : Int) - 2)) - Int.toNat 0) (List.drop (Int.toNat 0) (p.1 ++ (put32 r.2.2.2.1 ++ [0, 0]))) ++ put16 (IntKind.wrap .u16 (IntKind.wrap .i64 ((↑(List.length (p.1 ++ (put32 r.2.2.2.1 ++ [0, 0]))) : Int) - (↑(List.length (p.1 ++ (put32 r.2.2.2.1 ++ [0, 0]))) : Int)))) ++ List.take (Int.toNat (↑(List.length (p.1 ++ (put32 r.2.2.2.1 ++ [0, 0]))) : Int) - Int.toNat (↑(List.length (p.1 ++ (put32 r.2.2.2.1 ++ [0, 0]))) : Int)) (List.drop (Int.toNat (↑(List.length (p.1 ++ (put32 r.2.2.2.1 ++ [0, 0]))) : Int)) (p.1 ++ (put32 r.2.2.2.1 ++ [0, 0])))), .list (Ty.pair Ty.str (Ty.int .i64)) p.2], .int .i64 0], [])) .no) .no) .no) .no) .no) .no) .no)) .no) .no) .no)) .no)) .no
def os25 : OSpec := { f := 25, sh := [.d (.pair .str (.list (.pair .str (.int .i64)))) true, .d RR true], so := [], F := fun (p, r, _) _ => t25 p r }
theorem fn25 (p : (List UInt8 × List (List UInt8 × Int))) (r : RRt) : evC T0 (orcB [fs30w, fs23w, fs63, fs69w, fs70w, fs64w] []) (lpOf h25 0 (lsOf [])) c25 1000000 (startSt [AV.ofTy (.pair .str (.list (.pair .str (.int .i64)))) p true, AV.ofTy RR r true] [] Try.f25.ntmps) (finishK T0 false 0 Try.f25) = (t25 p r).get := by kernel_rfl
theorem ok25 : os25.Ok Try.prog := by
 refine os_ok mixed0 tab0 (orcB_sound (all_cons okf30w (all_cons okf23w (all_cons okf63 (all_cons okf69w (all_cons okf70w (all_cons okf64w all_nil)))))) all_nil) h25 (d := 0) (n0 := 0) (S := lsOf []) Try.func25 (by kernel_rfl) (c := c25) (by kernel_rfl) rfl (no_loops (by kernel_rfl)) (by omega) (by kernel_rfl) ?_
 intro x'' y'' q'' hq''
 obtain ⟨(p : (List UInt8 × List (List UInt8 × Int))), (r : RRt), _⟩ := x''
 exact (fn25 p r).trans hq''
def fs25 : FSpec := fsT 25 [((.pair .str (.list (.pair .str (.int .i64)))), true), (RR, true)] [((.pair .str (.list (.pair .str (.int .i64)))), true), ((.int .i64), false)] fun (p, r, _) => t25 p r
theorem okf25 : fs25.Ok Try.prog := fsT_ok fun x'' r'' hr'' => ok25 x'' () r'' hr''
def rOk (r : RRt) : Bool := Nat.ble r.1.length 1000000 && (n16C r.2.1 && (n16C r.2.2.1 && (n32C r.2.2.2.1 && Nat.ble r.2.2.2.2.length 1000000)))
def pkS (b : List Int) (m : Known) : Bool := bytesOk b && (kOk m && Nat.ble b.length 900000000)
def ptS (p : PKt) : Bool := kOk p.2 && (Nat.ble p.1.length 900000000 && Nat.ble p.2.length 900000000)
def hdR (r : RRt) : List UInt8 := put16 r.2.1 ++ put16 r.2.2.1 ++ put32 r.2.2.2.1
def S1R (r : RRt) (p : PKt) : List UInt8 := (nameP r.1 p.1 p.2).1 ++ hdR r ++ [0, 0]
def p2R (r : RRt) (p : PKt) : PKt := putR r.2.1 r.2.2.2.2 (S1R r p, (nameP r.1 p.1 p.2).2)
def clV (S : List UInt8) (a : Nat) : List UInt8 := S.take (a - 2) ++ put16 (((S.length : Int) - a) % 65536) ++ S.drop a
def recP (r : RRt) (p : PKt) : PKt := (clV (p2R r p).1 (S1R r p).length, (p2R r p).2)
theorem rOk_iff {r : RRt} : rOk r = true ↔ r.1.length ≤ 1000000 ∧ n16C r.2.1 = true ∧ n16C r.2.2.1 = true ∧ n32C r.2.2.2.1 = true ∧ r.2.2.2.2.length ≤ 1000000 := by
 unfold rOk
 rw [Bool.and_eq_true, Bool.and_eq_true, Bool.and_eq_true, Bool.and_eq_true]
 exact ⟨fun ⟨a, b, c, d, e⟩ => ⟨Nat.le_of_ble_eq_true a, b, c, d, Nat.le_of_ble_eq_true e⟩, fun ⟨a, b, c, d, e⟩ => ⟨Nat.ble_eq_true_of_le a, b, c, d, Nat.ble_eq_true_of_le e⟩⟩
theorem pkS_iff {b : List Int} {m : Known} : pkS b m = true ↔ bytesOk b = true ∧ kOk m = true ∧ b.length ≤ 900000000 := by
 unfold pkS
 rw [Bool.and_eq_true, Bool.and_eq_true]
 exact ⟨fun ⟨a, b, c⟩ => ⟨a, b, Nat.le_of_ble_eq_true c⟩, fun ⟨a, b, c⟩ => ⟨a, b, Nat.ble_eq_true_of_le c⟩⟩
theorem ptS_iff {p : PKt} : ptS p = true ↔ kOk p.2 = true ∧ p.1.length ≤ 900000000 ∧ p.2.length ≤ 900000000 := by
 unfold ptS
 rw [Bool.and_eq_true, Bool.and_eq_true]
 exact ⟨fun ⟨a, b, c⟩ => ⟨a, Nat.le_of_ble_eq_true b, Nat.le_of_ble_eq_true c⟩, fun ⟨a, b, c⟩ => ⟨a, Nat.ble_eq_true_of_le b, Nat.ble_eq_true_of_le c⟩⟩
theorem hdR_len (r : RRt) : (hdR r).length = 8 := rfl
theorem S1R_len (r : RRt) (p : PKt) : (S1R r p).length = (nameP r.1 p.1 p.2).1.length + 10 := by
 unfold S1R
 rw [List.length_append, List.length_append, hdR_len]
 rfl
theorem bytesInt_take (s : List UInt8) (n : Nat) : (bytesInt s).take n = bytesInt (s.take n) := by simp [bytesInt]
theorem bytesInt_drop (s : List UInt8) (n : Nat) : (bytesInt s).drop n = bytesInt (s.drop n) := by simp [bytesInt]
theorem closeB_bytes (S : List UInt8) (a : Nat) : closeB (bytesInt S) ((a : Int) + 2) = bytesInt (clV S (a + 2)) := by
 unfold closeB clV
 rw [bytesInt_len, bytesInt_take, bytesInt_drop, bytesInt_app, bytesInt_app, show ((a : Int) + 2 - 2).toNat = a + 2 - 2 by omega, show ((a : Int) + 2).toNat = a + 2 by omega, Int.natCast_add]
 rfl
theorem putS_ge : ∀ (ps : List Int) (ls : List (List UInt8)) (p : PKt), p.1.length ≤ (putS ps ls p).1.length
 | [], _, p => Nat.le_refl _
 | x :: ps, ls, p => by
   rw [putS]
   cases hx : x == -1 with
   | true =>
     have q2 := putS_ge ps ls.tail (stN p (ls.headD [], false))
     rw [cond_true]
     have k2 : p.1.length ≤ (stN p (ls.headD [], false)).1.length := by
      show p.1.length ≤ (bif mayV (ls.headD []) then nameP (ls.headD []) p.1 p.2 else p).1.length
      cases hm : mayV (ls.headD []) with
      | false => exact Nat.le_refl _
      | true =>
        rw [cond_true]
        obtain ⟨_, l2, _⟩ := nameL_len _ (ls.headD []) p.1 p.2 rfl (may_iff.1 hm).1
        omega
     omega
   | false =>
     have q2 : (p.1 ++ ls.headD []).length ≤ (putS ps ls.tail (p.1 ++ ls.headD [], p.2)).1.length := putS_ge ps ls.tail (p.1 ++ ls.headD [], p.2)
     rw [List.length_append] at q2
     rw [cond_false]
     omega
theorem putR_ge (k : Int) (d : List UInt8) (p : PKt) : p.1.length ≤ (putR k d p).1.length := putS_ge _ _ _
theorem recP_facts {r : RRt} {p : PKt} (hk : kOk p.2 = true) (hm : recV r = true) : kOk (nameP r.1 p.1 p.2).2 = true ∧ (nameP r.1 p.1 p.2).1.length ≤ p.1.length + r.1.length ∧ (nameP r.1 p.1 p.2).2.length ≤ p.2.length + r.1.length ∧ kOk (p2R r p).2 = true ∧ (S1R r p).length ≤ (p2R r p).1.length ∧ (p2R r p).1.length ≤ (S1R r p).length + r.2.2.2.2.length ∧ (p2R r p).2.length ≤ (nameP r.1 p.1 p.2).2.length + r.2.2.2.2.length := by
 obtain ⟨m1, m2⟩ := Bool.and_eq_true_iff.1 (show (mayV r.1 && mayR r.2.1 r.2.2.2.2) = true from hm)
 obtain ⟨a1, a2, a3⟩ := nameP_k (p := p) m1 hk
 obtain ⟨b1, b2, b3⟩ := putR_len (p := (S1R r p, (nameP r.1 p.1 p.2).2)) m2 a1
 exact ⟨a1, a2, a3, b1, putR_ge r.2.1 r.2.2.2.2 (S1R r p, (nameP r.1 p.1 p.2).2), b2, b3⟩
theorem clV_len {S : List UInt8} {a : Nat} (h2 : 2 ≤ a) (h : a ≤ S.length) : (clV S a).length = S.length := by
 unfold clV
 rw [List.length_append, List.length_append, List.length_take, List.length_drop, put16_len]
 omega
def os24w : OSpec := os24.like fun (r, _) (_, b, m, _) => .br (pkS b m && rOk r) (.br (recV r) (.ret ([.int .i64 0], pkO (bytesInt (recP r (intBytes b, m)).1) (recP r (intBytes b, m)).2)) (.ret ([.int .i64 1], pkO b m))) .no
theorem ok24w : os24w.Ok Try.prog := by
 refine like_ok ok24 _ ?_
 rintro ⟨(r : RRt), _⟩ ⟨_, (b : List Int), (m : Known), _⟩ y h
 simp only [Tr.get] at h
 cases hc : pkS b m && rOk r with
 | false => rw [hc] at h; cases h
 | true =>
   rw [hc, cond_true] at h
   obtain ⟨h1, h2⟩ := Bool.and_eq_true_iff.1 hc
   obtain ⟨b1, b2, b3⟩ := pkS_iff.1 h1
   obtain ⟨r1, r2, r3, r4, r5⟩ := rOk_iff.1 h2
   have hbig : rrBig r = true := by unfold rrBig; rw [len_big (show r.1.length ≤ _ by omega), len_big (show r.2.2.2.2.length ≤ _ by omega)]; rfl
   refine Tr.get_of_all ?_
   show (t24 r b m).all _
   unfold t24
   cases hm : recV r with
   | false =>
     rw [hm, cond_false] at h
     cases h
     exact Tr.all_t hbig (Tr.all_t rfl (Tr.all_ret rfl))
   | true =>
     rw [hm, cond_true] at h
     cases h
     obtain ⟨m1, m2⟩ := Bool.and_eq_true_iff.1 (show (mayV r.1 && mayR r.2.1 r.2.2.2.2) = true from hm)
     obtain ⟨a1, a2, a3, a4, a5, a6, a7⟩ := recP_facts (p := (intBytes b, m)) b2 hm
     have hl := intB_len b
     have hs1 := S1R_len r (intBytes b, m)
     have hz : [(0 : Ty.den (Ty.int .u8)), (0 : Ty.den (Ty.int .u8))] = bytesInt [0, 0] := rfl
     have hS : (nameP r.1 (intBytes b) m).1 ++ (put16 r.2.1 ++ put16 r.2.2.1 ++ put32 r.2.2.2.1) ++ [0, 0] = S1R r (intBytes b, m) := rfl
     have hp2 : putR r.2.1 r.2.2.2.2 (S1R r (intBytes b, m), (nameP r.1 (intBytes b) m).2) = p2R r (intBytes b, m) := rfl
     have hhl : (put16 r.2.1 ++ put16 r.2.2.1 ++ put32 r.2.2.2.1).length = 8 := rfl
     simp only [hz, ← bytesInt_app, intB_bytes, bytesInt_len, hS, hp2, List.length_append, hhl]
     simp only at a1 a2 a3 hs1
     have hk1 : pkC b m = true := by unfold pkC; rw [b1, b2, Nat.ble_eq_true_of_le (by omega)]; rfl
     refine Tr.all_t hbig (Tr.all_f rfl (Tr.all_t (by rw [hk1, Nat.ble_eq_true_of_le (by omega)]; rfl) (Tr.all_t m1 (Tr.all_t r2 (Tr.all_t r3 (Tr.all_t r4 (Tr.all_t (fits_true (by omega) (by omega)) (Tr.all_t (Nat.ble_eq_true_of_le (by omega)) (Tr.all_t ?_ (Tr.all_t m2 (Tr.all_t (Nat.ble_eq_true_of_le (by omega)) (Tr.all_t ?_ (Tr.all_ret ?_)))))))))))))
     · rw [pkT_iff.2 ⟨bytesInt_ok _, a1, by rw [bytesInt_len]; omega⟩, Nat.ble_eq_true_of_le r5]
       rfl
     · have h3 : (2 : Int) ≤ (((nameP r.1 (intBytes b) m).1.length + 8 : Nat) : Int) + 2 := by omega
       have h4 : (((nameP r.1 (intBytes b) m).1.length + 8 : Nat) : Int) + 2 ≤ ((p2R r (intBytes b, m)).1.length : Int) := by omega
       exact Bool.and_eq_true_iff.2 ⟨decide_eq_true h3, decide_eq_true h4⟩
     · have hcl := closeB_bytes (p2R r (intBytes b, m)).1 ((nameP r.1 (intBytes b) m).1.length + 8)
       rw [hcl, show (nameP r.1 (intBytes b) m).1.length + 8 + 2 = (S1R r (intBytes b, m)).length by omega]
       rfl
def fs25w : FSpec := fs25.like fun (p, r, _) => .br (ptS p && rOk r) (.br (recV r) (.ret (recP r p, (0 : Int), ())) (.ret (p, (1 : Int), ()))) .no
theorem put5_all (p : PKt) (r : RRt) (hp : ptS p = true) (hr : rOk r = true) : Tr.all (fun x : Res => x = bif recV r then pkV (recP r p) 0 else pkV p 1) (t25 p r) := by
 obtain ⟨p1, p2, p3⟩ := ptS_iff.1 hp
 obtain ⟨r1, r2, r3, r4, r5⟩ := rOk_iff.1 hr
 have hbig : rrBig r = true := by unfold rrBig; rw [len_big (show r.1.length ≤ _ by omega), len_big (show r.2.2.2.2.length ≤ _ by omega)]; rfl
 unfold t25
 cases hm : recV r with
 | false => exact Tr.all_t hbig (Tr.all_t rfl (Tr.all_ret rfl))
 | true =>
   rw [cond_true]
   obtain ⟨m1, m2⟩ := Bool.and_eq_true_iff.1 (show (mayV r.1 && mayR r.2.1 r.2.2.2.2) = true from hm)
   obtain ⟨a1, a2, a3, a4, a5, a6, a7⟩ := recP_facts (p := p) p1 hm
   have hs1 := S1R_len r p
   have hS : (putQ (r.1, r.2.1, r.2.2.1) p).1 ++ (put32 r.2.2.2.1 ++ [0, 0]) = S1R r p := by
    unfold putQ qB S1R hdR
    simp only [List.append_assoc]
   have hq2 : (putQ (r.1, r.2.1, r.2.2.1) p).2 = (nameP r.1 p.1 p.2).2 := rfl
   have hp2 : putR r.2.1 r.2.2.2.2 (S1R r p, (nameP r.1 p.1 p.2).2) = p2R r p := rfl
   have hql : (putQ (r.1, r.2.1, r.2.2.1) p).1.length = (nameP r.1 p.1 p.2).1.length + 4 := by
    unfold putQ
    rw [List.length_append, qB_len]
   have hpl : (put32 r.2.2.2.1 ++ [0, 0]).length = 6 := rfl
   have hw1 : IntKind.wrap IntKind.i64 (((S1R r p).length : Int) - 2) = (((S1R r p).length - 2 : Nat) : Int) := by rw [IntWalk.i64_in _ (by omega)]; omega
   have hw2 : IntKind.wrap IntKind.u16 (IntKind.wrap IntKind.i64 (((p2R r p).1.length : Int) - ((S1R r p).length : Int))) = (((p2R r p).1.length : Int) - ((S1R r p).length : Int)) % 65536 := by
    rw [IntWalk.i64_in _ (by omega), IntKind.wrap_u16]
   simp only [hS, hq2, hp2, hw1, hw2, tk_beg, tk_end]
   have hq : qOk (r.1, r.2.1, r.2.2.1) = true := qOk_iff.2 ⟨r1, r2, r3⟩
   have hmod : 0 ≤ (((p2R r p).1.length : Int) - ((S1R r p).length : Int)) % 65536 ∧ (((p2R r p).1.length : Int) - ((S1R r p).length : Int)) % 65536 ≤ 65535 := by omega
   refine Tr.all_t hbig (Tr.all_f rfl (Tr.all_t ?_ (Tr.all_t m1 (Tr.all_t r4 (Tr.all_t (Nat.ble_eq_true_of_le (by rw [hql, hpl]; omega)) (Tr.all_t ?_ (Tr.all_t m2 (Tr.all_t ?_ (Tr.all_t ?_ (Tr.all_t ?_ (Tr.all_t (Nat.ble_eq_true_of_le ?_) (Tr.all_t ?_ (Tr.all_t ?_ (Tr.all_t (Nat.ble_eq_true_of_le ?_) (Tr.all_ret ?_)))))))))))))))
   · rw [ptOk_iff.2 ⟨len_big (by omega), p1, by omega, by omega⟩, hq]; rfl
   · exact ptOk_iff.2 ⟨len_big (by omega), a1, by show (S1R r p).length ≤ _; omega, by show (nameP r.1 p.1 p.2).2.length ≤ _; omega⟩
   · rw [dec_true (by omega), dec_true (by omega)]; rfl
   · rw [dec_true (by omega), dec_true (by omega)]; rfl
   · unfold n16C
     rw [dec_true hmod.1, dec_true hmod.2]; rfl
   · rw [List.length_take, put16_len]; omega
   · rw [dec_true (by omega), dec_true (by omega)]; rfl
   · rw [dec_true (by omega), dec_true (by omega)]; rfl
   · rw [List.length_append, List.length_take, put16_len, List.length_drop]; omega
   · rfl
theorem okf25w : fs25w.Ok Try.prog := by
 refine flike_ok okf25 _ ?_
 rintro ⟨(p : PKt), (r : RRt), _⟩ y h
 simp only [Tr.get] at h
 cases hc : ptS p && rOk r with
 | false => rw [hc] at h; cases h
 | true =>
   rw [hc, cond_true] at h
   obtain ⟨h1, h2⟩ := Bool.and_eq_true_iff.1 hc
   have ha := put5_all p r h1 h2
   cases hm : recV r with
   | false =>
     rw [hm, cond_false] at h ha
     cases h
     exact convR_of (vs := (pkV p 1).1) rfl rfl (Tr.get_of_all ha)
   | true =>
     rw [hm, cond_true] at h ha
     cases h
     exact convR_of (vs := (pkV (recP r p) 0).1) rfl rfl (Tr.get_of_all ha)
def t89 (s : List UInt8) (at_ : Int) (bad : Bool) : Tr Res := .br (bigS s) (.br bad (.ret ([.str (tkS (takeG s at_ at_ (-1 : Int) []))], [.boxT none [.str s, .int .i64 (tkN (takeG s at_ at_ (-1 : Int) [])), .bool true]])) (.ret ([.str (tkS (takeG s at_ at_ (-1 : Int) []))], [.boxT none [.str s, .int .i64 (tkN (takeG s at_ at_ (-1 : Int) [])), .bool (tkE (takeG s at_ at_ (-1 : Int) []) != 0)]]))) .no
def os89 : OSpec := { f := 89, sh := [.ptr 0 0, .fnp 90 []], so := [.box [.d .str false, .d (.int .i64) false, .d .bool false]], F := fun _ ((s, at_, bad, _), _) => t89 s at_ bad }
theorem fn89 (s : List UInt8) (at_ : Int) (bad : Bool) : evC T0 (orcB [fs90w, fs55w, fs53w] []) (lpOf h89 1 (lsOf [])) c89 1000000 (startSt [.ptr 0 0, .fn 90 []] [.box [.str s, .int .i64 at_, .bool bad]] Try.f89.ntmps) (finishK T0 false 1 Try.f89) = (t89 s at_ bad).get := by kernel_rfl
theorem ok89 : os89.Ok Try.prog := by
 refine os_ok mixed0 tab0 (orcB_sound (all_cons okf90w (all_cons okf55w (all_cons okf53w all_nil))) all_nil) h89 (d := 0) (n0 := 1) (S := lsOf []) Try.func89 (by kernel_rfl) (c := c89) (by kernel_rfl) rfl (no_loops (by kernel_rfl)) (by omega) (by kernel_rfl) ?_
 intro x'' y'' q'' hq''
 obtain ⟨⟨(s : List UInt8), (at_ : Int), (bad : Bool), _⟩, _⟩ := y''
 exact (fn89 s at_ bad).trans hq''
def t54 (s : List UInt8) (at_ : Int) (bad : Bool) : Tr Res := .br (bigS s) (.br (someB s at_ 2) (.br bad (.ret ([.int .u16 (n16 s at_)], [.boxT none [.str s, .int .i64 (at_ + (2 : Ty.den (Ty.int .i64))), .bool true]])) (.ret ([.int .u16 (n16 s at_)], [.boxT none [.str s, .int .i64 (at_ + (2 : Ty.den (Ty.int .i64))), .bool (0 != 0)]]))) (.br bad (.ret ([.int .u16 0], [.boxT none [.str s, .int .i64 0, .bool true]])) (.ret ([.int .u16 0], [.boxT none [.str s, .int .i64 0, .bool (2 != 0)]])))) .no
def os54 : OSpec := { f := 54, sh := [.ptr 0 0, .fnp 55 []], so := [.box [.d .str false, .d (.int .i64) false, .d .bool false]], F := fun _ ((s, at_, bad, _), _) => t54 s at_ bad }
theorem fn54 (s : List UInt8) (at_ : Int) (bad : Bool) : evC T0 (orcB [fs90w, fs55w, fs53w] []) (lpOf h54 1 (lsOf [])) c54 1000000 (startSt [.ptr 0 0, .fn 55 []] [.box [.str s, .int .i64 at_, .bool bad]] Try.f54.ntmps) (finishK T0 false 1 Try.f54) = (t54 s at_ bad).get := by kernel_rfl
theorem ok54 : os54.Ok Try.prog := by
 refine os_ok mixed0 tab0 (orcB_sound (all_cons okf90w (all_cons okf55w (all_cons okf53w all_nil))) all_nil) h54 (d := 0) (n0 := 1) (S := lsOf []) Try.func54 (by kernel_rfl) (c := c54) (by kernel_rfl) rfl (no_loops (by kernel_rfl)) (by omega) (by kernel_rfl) ?_
 intro x'' y'' q'' hq''
 obtain ⟨⟨(s : List UInt8), (at_ : Int), (bad : Bool), _⟩, _⟩ := y''
 exact (fn54 s at_ bad).trans hq''
def t52 (s : List UInt8) (at_ : Int) (bad : Bool) : Tr Res := .br (bigS s) (.br (someB s at_ 4) (.br bad (.ret ([.int .u32 (n32 s at_)], [.boxT none [.str s, .int .i64 (at_ + (4 : Ty.den (Ty.int .i64))), .bool true]])) (.ret ([.int .u32 (n32 s at_)], [.boxT none [.str s, .int .i64 (at_ + (4 : Ty.den (Ty.int .i64))), .bool (0 != 0)]]))) (.br bad (.ret ([.int .u32 0], [.boxT none [.str s, .int .i64 0, .bool true]])) (.ret ([.int .u32 0], [.boxT none [.str s, .int .i64 0, .bool (2 != 0)]])))) .no
def os52 : OSpec := { f := 52, sh := [.ptr 0 0, .fnp 53 []], so := [.box [.d .str false, .d (.int .i64) false, .d .bool false]], F := fun _ ((s, at_, bad, _), _) => t52 s at_ bad }
theorem fn52 (s : List UInt8) (at_ : Int) (bad : Bool) : evC T0 (orcB [fs90w, fs55w, fs53w] []) (lpOf h52 1 (lsOf [])) c52 1000000 (startSt [.ptr 0 0, .fn 53 []] [.box [.str s, .int .i64 at_, .bool bad]] Try.f52.ntmps) (finishK T0 false 1 Try.f52) = (t52 s at_ bad).get := by kernel_rfl
theorem ok52 : os52.Ok Try.prog := by
 refine os_ok mixed0 tab0 (orcB_sound (all_cons okf90w (all_cons okf55w (all_cons okf53w all_nil))) all_nil) h52 (d := 0) (n0 := 1) (S := lsOf []) Try.func52 (by kernel_rfl) (c := c52) (by kernel_rfl) rfl (no_loops (by kernel_rfl)) (by omega) (by kernel_rfl) ?_
 intro x'' y'' q'' hq''
 obtain ⟨⟨(s : List UInt8), (at_ : Int), (bad : Bool), _⟩, _⟩ := y''
 exact (fn52 s at_ bad).trans hq''
abbrev tk0 (s : List UInt8) (a : Int) : Option (List UInt8 × Int) := takeG s a a (-1) []
def vn16 (s : List UInt8) (a : Int) : Int := bif someB s a 2 then n16 s a else 0
def xn16 (s : List UInt8) (a : Int) : Int := bif someB s a 2 then a + 2 else 0
def vn32 (s : List UInt8) (a : Int) : Int := bif someB s a 4 then n32 s a else 0
def xn32 (s : List UInt8) (a : Int) : Int := bif someB s a 4 then a + 4 else 0
def rdB (s : List UInt8) (a : Int) (bad : Bool) : LObj := .boxT none [.str s, .int .i64 a, .bool bad]
def os89w : OSpec := os89.like fun _ ((s, at_, bad, _), _) => .on (bigS s) ([.str (tkS (tk0 s at_))], [rdB s (tkN (tk0 s at_)) (bad || tkE (tk0 s at_) != 0)])
theorem ok89w : os89w.Ok Try.prog := by
 refine like_ok ok89 _ ?_
 rintro _ ⟨⟨(s : List UInt8), (at_ : Int), (bad : Bool), _⟩, _⟩ y h
 obtain ⟨hb, rfl⟩ := Tr.get_on h
 refine Tr.get_of_all ?_
 show (t89 s at_ bad).all _
 exact Tr.all_t hb (Tr.all_br (fun h => Tr.all_ret (by rw [h]; rfl)) fun h => Tr.all_ret (by rw [h]; rfl))
def os54w : OSpec := os54.like fun _ ((s, at_, bad, _), _) => .on (bigS s) ([.int .u16 (vn16 s at_)], [rdB s (xn16 s at_) (bad || !someB s at_ 2)])
theorem ok54w : os54w.Ok Try.prog := by
 refine like_ok ok54 _ ?_
 rintro _ ⟨⟨(s : List UInt8), (at_ : Int), (bad : Bool), _⟩, _⟩ y h
 obtain ⟨hb, rfl⟩ := Tr.get_on h
 refine Tr.get_of_all ?_
 show (t54 s at_ bad).all _
 unfold t54 vn16 xn16
 exact Tr.all_t hb (Tr.all_br (fun h => Tr.all_br (fun h2 => Tr.all_ret (by rw [h, h2]; rfl)) fun h2 => Tr.all_ret (by rw [h, h2]; rfl)) fun h => Tr.all_br (fun h2 => Tr.all_ret (by rw [h, h2]; rfl)) fun h2 => Tr.all_ret (by rw [h, h2]; rfl))
def os52w : OSpec := os52.like fun _ ((s, at_, bad, _), _) => .on (bigS s) ([.int .u32 (vn32 s at_)], [rdB s (xn32 s at_) (bad || !someB s at_ 4)])
theorem ok52w : os52w.Ok Try.prog := by
 refine like_ok ok52 _ ?_
 rintro _ ⟨⟨(s : List UInt8), (at_ : Int), (bad : Bool), _⟩, _⟩ y h
 obtain ⟨hb, rfl⟩ := Tr.get_on h
 refine Tr.get_of_all ?_
 show (t52 s at_ bad).all _
 unfold t52 vn32 xn32
 exact Tr.all_t hb (Tr.all_br (fun h => Tr.all_br (fun h2 => Tr.all_ret (by rw [h, h2]; rfl)) fun h2 => Tr.all_ret (by rw [h, h2]; rfl)) fun h => Tr.all_br (fun h2 => Tr.all_ret (by rw [h, h2]; rfl)) fun h2 => Tr.all_ret (by rw [h, h2]; rfl))
def t51 (s : List UInt8) (at_ : Int) (bad : Bool) : Tr Res := .br (bigS s) (.br (bigS s) (.br (bigS s) (.ret ([.agg [.str (tkS (tk0 s at_)), .int .u16 (vn16 s (tkN (tk0 s at_))), .int .u16 (vn16 s (xn16 s (tkN (tk0 s at_))))]], [.boxT none [.str s, .int .i64 (xn16 s (xn16 s (tkN (tk0 s at_)))), .bool (bad || tkE (tk0 s at_) != 0 || !someB s (tkN (tk0 s at_)) 2 || !someB s (xn16 s (tkN (tk0 s at_))) 2)]])) .no) .no) .no
def os51 : OSpec := { f := 51, sh := [.ptr 0 0], so := [.box [.d .str false, .d (.int .i64) false, .d .bool false]], F := fun _ ((s, at_, bad, _), _) => t51 s at_ bad }
theorem fn51 (s : List UInt8) (at_ : Int) (bad : Bool) : evC T0 (orcB [] [os89w, os54w, os52w]) (lpOf h51 1 (lsOf [])) c51 1000000 (startSt [.ptr 0 0] [.box [.str s, .int .i64 at_, .bool bad]] Try.f51.ntmps) (finishK T0 false 1 Try.f51) = (t51 s at_ bad).get := by kernel_rfl
theorem ok51 : os51.Ok Try.prog := by
 refine os_ok mixed0 tab0 (orcB_sound all_nil (all_cons ok89w (all_cons ok54w (all_cons ok52w all_nil)))) h51 (d := 0) (n0 := 1) (S := lsOf []) Try.func51 (by kernel_rfl) (c := c51) (by kernel_rfl) rfl (no_loops (by kernel_rfl)) (by omega) (by kernel_rfl) ?_
 intro x'' y'' q'' hq''
 obtain ⟨⟨(s : List UInt8), (at_ : Int), (bad : Bool), _⟩, _⟩ := y''
 exact (fn51 s at_ bad).trans hq''
def t28 (s : List UInt8) (at_ : Int) : Tr Res := .br (bigS s) (.br (bigS s) (.br (bigS s) (.br (false || tkE (tk0 s at_) != 0 || !someB s (tkN (tk0 s at_)) 2 || !someB s (xn16 s (tkN (tk0 s at_))) 2) (.ret ([.agg [.str [], .int .u16 0, .int .u16 0], .int .i64 0, .int .i64 2], [])) (.ret ([.agg [.str (tkS (tk0 s at_)), .int .u16 (vn16 s (tkN (tk0 s at_))), .int .u16 (vn16 s (xn16 s (tkN (tk0 s at_))))], .int .i64 (xn16 s (xn16 s (tkN (tk0 s at_)))), .int .i64 0], []))) .no) .no) .no
def os28 : OSpec := { f := 28, sh := [.d .str false, .d (.int .i64) false], so := [], F := fun (s, at_, _) _ => t28 s at_ }
theorem fn28 (s : List UInt8) (at_ : Int) : evC T0 (orcB [fs56w] [os89w, os54w, os52w, os51]) (lpOf h28 0 (lsOf [])) c28 1000000 (startSt [.str s, .int .i64 at_] [] Try.f28.ntmps) (finishK T0 false 0 Try.f28) = (t28 s at_).get := by kernel_rfl
theorem ok28 : os28.Ok Try.prog := by
 refine os_ok mixed0 tab0 (orcB_sound (all_cons okf56w all_nil) (all_cons ok89w (all_cons ok54w (all_cons ok52w (all_cons ok51 all_nil))))) h28 (d := 0) (n0 := 0) (S := lsOf []) Try.func28 (by kernel_rfl) (c := c28) (by kernel_rfl) rfl (no_loops (by kernel_rfl)) (by omega) (by kernel_rfl) ?_
 intro x'' y'' q'' hq''
 obtain ⟨(s : List UInt8), (at_ : Int), _⟩ := x''
 exact (fn28 s at_).trans hq''
def fs28 : FSpec := fsT 28 [(.str, false), ((.int .i64), false)] [(QQ, true), ((.int .i64), false), ((.int .i64), false)] fun (s, at_, _) => t28 s at_
theorem okf28 : fs28.Ok Try.prog := fsT_ok fun x'' r'' hr'' => ok28 x'' () r'' hr''
def t16 (s : List UInt8) (at_ : Int) : Tr Res := .br (bigS s) (.br (bigS s) (.br (bigS s) (.br (bigS s) (.br (bigS s) (.br (false || tkE (tk0 s at_) != 0 || !someB s (tkN (tk0 s at_)) 2 || !someB s (xn16 s (tkN (tk0 s at_))) 2 || !someB s (xn16 s (xn16 s (tkN (tk0 s at_)))) 4 || !someB s (xn32 s (xn16 s (xn16 s (tkN (tk0 s at_))))) 2) (.ret ([.agg [.str [], .int .u16 0, .int .u16 0, .int .u32 0, .str []], .int .i64 0, .int .i64 2], [])) (.br (smS s) (.br ((if Option.isSome (takeV s (xn16 s (xn32 s (xn16 s (xn16 s (tkN (tk0 s at_)))))) (IntKind.wrap .i64 (vn16 s (xn32 s (xn16 s (xn16 s (tkN (tk0 s at_))))))) (vn16 s (tkN (tk0 s at_)))) = true then 0 else (2 : Ty.den (Ty.int .i64))) != 0) (.ret ([.agg [.str [], .int .u16 0, .int .u16 0, .int .u32 0, .str []], .int .i64 0, .int .i64 (if Option.isSome (takeV s (xn16 s (xn32 s (xn16 s (xn16 s (tkN (tk0 s at_)))))) (IntKind.wrap .i64 (vn16 s (xn32 s (xn16 s (xn16 s (tkN (tk0 s at_))))))) (vn16 s (tkN (tk0 s at_)))) = true then 0 else (2 : Ty.den (Ty.int .i64)))], [])) (.ret ([.agg [.str (tkS (tk0 s at_)), .int .u16 (vn16 s (tkN (tk0 s at_))), .int .u16 (vn16 s (xn16 s (tkN (tk0 s at_)))), .int .u32 (vn32 s (xn16 s (xn16 s (tkN (tk0 s at_))))), .str (Option.getD (takeV s (xn16 s (xn32 s (xn16 s (xn16 s (tkN (tk0 s at_)))))) (IntKind.wrap .i64 (vn16 s (xn32 s (xn16 s (xn16 s (tkN (tk0 s at_))))))) (vn16 s (tkN (tk0 s at_)))) [])], .int .i64 (IntKind.wrap .i64 (xn16 s (xn32 s (xn16 s (xn16 s (tkN (tk0 s at_))))) + IntKind.wrap .i64 (vn16 s (xn32 s (xn16 s (xn16 s (tkN (tk0 s at_)))))))), .int .i64 0], []))) .no)) .no) .no) .no) .no) .no
def os16 : OSpec := { f := 16, sh := [.d .str false, .d (.int .i64) false], so := [], F := fun (s, at_, _) _ => t16 s at_ }
theorem fn16 (s : List UInt8) (at_ : Int) : evC T0 (orcB [fs56w] [os89w, os54w, os52w, os51]) (lpOf h16 0 (lsOf [])) c16 1000000 (startSt [.str s, .int .i64 at_] [] Try.f16.ntmps) (finishK T0 false 0 Try.f16) = (t16 s at_).get := by kernel_rfl
theorem ok16 : os16.Ok Try.prog := by
 refine os_ok mixed0 tab0 (orcB_sound (all_cons okf56w all_nil) (all_cons ok89w (all_cons ok54w (all_cons ok52w (all_cons ok51 all_nil))))) h16 (d := 0) (n0 := 0) (S := lsOf []) Try.func16 (by kernel_rfl) (c := c16) (by kernel_rfl) rfl (no_loops (by kernel_rfl)) (by omega) (by kernel_rfl) ?_
 intro x'' y'' q'' hq''
 obtain ⟨(s : List UInt8), (at_ : Int), _⟩ := x''
 exact (fn16 s at_).trans hq''
def fs16 : FSpec := fsT 16 [(.str, false), ((.int .i64), false)] [(RR, true), ((.int .i64), false), ((.int .i64), false)] fun (s, at_, _) => t16 s at_
theorem okf16 : fs16.Ok Try.prog := fsT_ok fun x'' r'' hr'' => ok16 x'' () r'' hr''
theorem some_iff {s : List UInt8} {a n : Int} : someB s a n = true ↔ 0 ≤ a ∧ 0 ≤ n ∧ a + n ≤ s.length := by
 unfold someB
 rw [Bool.and_eq_true, Bool.and_eq_true, decide_eq_true_eq, decide_eq_true_eq, decide_eq_true_eq]
theorem some_not {s : List UInt8} {a n : Int} (h : ¬ (0 ≤ a ∧ 0 ≤ n ∧ a + n ≤ s.length)) : someB s a n = false := by
 cases hb : someB s a n
 · rfl
 · exact absurd (some_iff.1 hb) h
def tkQ (s : List UInt8) (a : Int) : Option (QQt × Int) := match tk0 s a with
 | none => none
 | some p => if someB s p.2 4 = true then some ((p.1, n16 s p.2, n16 s (p.2 + 2)), p.2 + 4) else none
def tkR (s : List UInt8) (a : Int) : Option (RRt × Int) := match tkQ s a with
 | none => none
 | some p => if someB s p.2 6 = true then (match takeV s (p.2 + 6) (n16 s (p.2 + 4)) p.1.2.1 with
   | some d => some ((p.1.1, p.1.2.1, p.1.2.2, n32 s p.2, d), p.2 + 6 + n16 s (p.2 + 4))
   | none => none) else none
def oQ : Option (QQt × Int) → QQt × (Int × Int)
 | some p => (p.1, p.2, 0)
 | none => (([], 0, 0), 0, 2)
def oR : Option (RRt × Int) → RRt × (Int × Int)
 | some p => (p.1, p.2, 0)
 | none => (([], 0, 0, 0, []), 0, 2)
def qqA (q : QQt) : AV := .agg [.str q.1, .int .u16 q.2.1, .int .u16 q.2.2]
def rrA (r : RRt) : AV := .agg [.str r.1, .int .u16 r.2.1, .int .u16 r.2.2.1, .int .u32 r.2.2.2.1, .str r.2.2.2.2]
theorem takeQ_all (s : List UInt8) (a : Int) (hb : bigS s = true) : Tr.all (fun r : Res => r = ([qqA (oQ (tkQ s a)).1, .int .i64 (oQ (tkQ s a)).2.1, .int .i64 (oQ (tkQ s a)).2.2], [])) (t28 s a) := by
 unfold t28 tkQ
 refine Tr.all_t hb (Tr.all_t hb (Tr.all_t hb ?_))
 cases ht : tk0 s a with
 | none => exact Tr.all_t rfl (Tr.all_ret rfl)
 | some p =>
   obtain ⟨n, e⟩ := p
   simp only [tkN, tkS, tkE]
   by_cases h : 0 ≤ e ∧ e + 4 ≤ s.length
   · have h1 : someB s e 2 = true := some_iff.2 ⟨by omega, by omega, by omega⟩
     have h2 : someB s (e + 2) 2 = true := some_iff.2 ⟨by omega, by omega, by omega⟩
     have h4 : someB s e 4 = true := some_iff.2 ⟨by omega, by omega, by omega⟩
     have e1 : xn16 s e = e + 2 := by unfold xn16; rw [h1]; rfl
     have e2 : xn16 s (e + 2) = e + 4 := by unfold xn16; rw [h2, cond_true]; omega
     have e3 : vn16 s e = n16 s e := by unfold vn16; rw [h1]; rfl
     have e4 : vn16 s (e + 2) = n16 s (e + 2) := by unfold vn16; rw [h2]; rfl
     simp only [e1, e2, e3, e4, h1, h2]
     rw [if_pos h4]
     exact Tr.all_f rfl (Tr.all_ret rfl)
   · have h4 : ¬ someB s e 4 = true := fun hh => by have := some_iff.1 hh; exact h ⟨this.1, this.2.2⟩
     rw [if_neg h4]
     refine Tr.all_t ?_ (Tr.all_ret rfl)
     cases h1 : someB s e 2 with
     | false => simp
     | true =>
       have e1 : xn16 s e = e + 2 := by unfold xn16; rw [h1]; rfl
       have := some_iff.1 h1
       rw [e1, some_not (by omega)]
       simp
def fs28w : FSpec := fs28.like fun (s, a, _) => .on (bigS s) ((oQ (tkQ s a)).1, (oQ (tkQ s a)).2.1, (oQ (tkQ s a)).2.2, ())
theorem okf28w : fs28w.Ok Try.prog := by
 refine flike_ok okf28 _ ?_
 rintro ⟨(s : List UInt8), (a : Int), _⟩ y h
 obtain ⟨hb, rfl⟩ := Tr.get_on h
 exact convR_of (vs := [qqA (oQ (tkQ s a)).1, .int .i64 (oQ (tkQ s a)).2.1, .int .i64 (oQ (tkQ s a)).2.2]) rfl rfl (Tr.get_of_all (takeQ_all s a hb))
theorem sm_big {s : List UInt8} (h : smS s = true) : bigS s = true := by
 simp only [smS, decide_eq_true_eq] at h
 exact len_big (by omega)
theorem n16_wrap (s : List UInt8) (a : Int) : IntKind.wrap IntKind.i64 (n16 s a) = n16 s a := by
 have := n16_le s a
 exact IntWalk.i64_in _ (by omega)
theorem takeR_all (s : List UInt8) (a : Int) (hs : smS s = true) : Tr.all (fun r : Res => r = ([rrA (oR (tkR s a)).1, .int .i64 (oR (tkR s a)).2.1, .int .i64 (oR (tkR s a)).2.2], [])) (t16 s a) := by
 have hb := sm_big hs
 have hlen : s.length ≤ 100000000 := by simpa [smS] using hs
 unfold t16 tkR tkQ
 refine Tr.all_t hb (Tr.all_t hb (Tr.all_t hb (Tr.all_t hb (Tr.all_t hb ?_))))
 cases ht : tk0 s a with
 | none => exact Tr.all_t rfl (Tr.all_ret rfl)
 | some p =>
   obtain ⟨n, e⟩ := p
   rw [show tkN (some (n, e)) = e from rfl, show tkS (some (n, e)) = n from rfl, show tkE (some (n, e)) = 0 from rfl]
   by_cases h : 0 ≤ e ∧ e + 10 ≤ s.length
   · have h1 : someB s e 2 = true := some_iff.2 ⟨by omega, by omega, by omega⟩
     have h2 : someB s (e + 2) 2 = true := some_iff.2 ⟨by omega, by omega, by omega⟩
     have h4 : someB s e 4 = true := some_iff.2 ⟨by omega, by omega, by omega⟩
     have h5 : someB s (e + 4) 4 = true := some_iff.2 ⟨by omega, by omega, by omega⟩
     have h6 : someB s (e + 8) 2 = true := some_iff.2 ⟨by omega, by omega, by omega⟩
     have h7 : someB s (e + 4) 6 = true := some_iff.2 ⟨by omega, by omega, by omega⟩
     have e1 : xn16 s e = e + 2 := by unfold xn16; rw [h1]; rfl
     have e2 : xn16 s (e + 2) = e + 4 := by unfold xn16; rw [h2, cond_true]; omega
     have e3 : vn16 s e = n16 s e := by unfold vn16; rw [h1]; rfl
     have e4 : vn16 s (e + 2) = n16 s (e + 2) := by unfold vn16; rw [h2]; rfl
     have e5 : xn32 s (e + 4) = e + 8 := by unfold xn32; rw [h5, cond_true]; omega
     have e6 : vn32 s (e + 4) = n32 s (e + 4) := by unfold vn32; rw [h5]; rfl
     have e7 : xn16 s (e + 8) = e + 10 := by unfold xn16; rw [h6, cond_true]; omega
     have e8 : vn16 s (e + 8) = n16 s (e + 8) := by unfold vn16; rw [h6]; rfl
     have hn := n16_le s (e + 8)
     have e9 : IntKind.wrap IntKind.i64 (e + 10 + n16 s (e + 8)) = e + 10 + n16 s (e + 8) := IntWalk.i64_in _ (by omega)
     rw [e1, e2, e3, e4, e5, e6, e7, e8, n16_wrap, e9, h1, h2, h5, h6]
     simp only [if_pos h4]
     simp only [if_pos h7, show e + 4 + 6 = e + 10 by omega, show e + 4 + 4 = e + 8 by omega]
     refine Tr.all_f rfl (Tr.all_t hs ?_)
     cases takeV s (e + 10) (n16 s (e + 8)) (n16 s e) with
     | none => exact Tr.all_t rfl (Tr.all_ret rfl)
     | some d => exact Tr.all_f rfl (Tr.all_ret rfl)
   · have hres : (match (if someB s e 4 = true then some ((n, n16 s e, n16 s (e + 2)), e + 4) else none : Option (QQt × Int)) with
         | none => none
         | some p => if someB s p.2 6 = true then (match takeV s (p.2 + 6) (n16 s (p.2 + 4)) p.1.2.1 with
           | some d => some ((p.1.1, p.1.2.1, p.1.2.2, n32 s p.2, d), p.2 + 6 + n16 s (p.2 + 4))
           | none => none) else none : Option (RRt × Int)) = none := by
       by_cases h4 : someB s e 4 = true
       · have := some_iff.1 h4
         rw [if_pos h4]
         simp only
         rw [if_neg (fun hh => by have := some_iff.1 hh; omega)]
       · rw [if_neg h4]
     simp only at hres ⊢
     rw [hres]
     refine Tr.all_t ?_ (Tr.all_ret rfl)
     cases h1 : someB s e 2 with
     | false => simp
     | true =>
       have a1 := some_iff.1 h1
       have e1 : xn16 s e = e + 2 := by unfold xn16; rw [h1]; rfl
       rw [e1]
       cases h2 : someB s (e + 2) 2 with
       | false => simp
       | true =>
         have a2 := some_iff.1 h2
         have e2 : xn16 s (e + 2) = e + 4 := by unfold xn16; rw [h2, cond_true]; omega
         rw [e2]
         cases h3 : someB s (e + 4) 4 with
         | false => simp
         | true =>
           have a3 := some_iff.1 h3
           have e5 : xn32 s (e + 4) = e + 8 := by unfold xn32; rw [h3, cond_true]; omega
           rw [e5, some_not (s := s) (a := e + 8) (by omega)]
           simp
def fs16w : FSpec := fs16.like fun (s, a, _) => .on (smS s) ((oR (tkR s a)).1, (oR (tkR s a)).2.1, (oR (tkR s a)).2.2, ())
theorem okf16w : fs16w.Ok Try.prog := by
 refine flike_ok okf16 _ ?_
 rintro ⟨(s : List UInt8), (a : Int), _⟩ y h
 obtain ⟨hb, rfl⟩ := Tr.get_on h
 exact convR_of (vs := [rrA (oR (tkR s a)).1, .int .i64 (oR (tkR s a)).2.1, .int .i64 (oR (tkR s a)).2.2]) rfl rfl (Tr.get_of_all (takeR_all s a hb))
theorem nt5 {b : Bool} (h : (!b) = true) : b = false := by cases b; rfl; cases h
def rngR (r : RRt) : Bool := n16C r.2.1 && (n16C r.2.2.1 && n32C r.2.2.2.1)
theorem putQ_good {q : QQt} {P : PKt} (hm : mayV q.1 = true) (hk : kOk P.2 = true) : kOk (putQ q P).2 = true ∧ (putQ q P).1.length ≤ P.1.length + q.1.length + 4 ∧ (putQ q P).2.length ≤ P.2.length + q.1.length := by
 obtain ⟨a, b, c⟩ := nameP_k (p := P) hm hk
 refine ⟨a, ?_, c⟩
 unfold putQ
 rw [List.length_append, qB_len]
 omega
theorem recP_good {r : RRt} {P : PKt} (hm : recV r = true) (hk : kOk P.2 = true) : kOk (recP r P).2 = true ∧ (recP r P).1.length ≤ P.1.length + r.1.length + r.2.2.2.2.length + 10 ∧ (recP r P).2.length ≤ P.2.length + r.1.length + r.2.2.2.2.length := by
 obtain ⟨a1, a2, a3, a4, a5, a6, a7⟩ := recP_facts (p := P) hk hm
 have hs := S1R_len r P
 refine ⟨a4, ?_, ?_⟩
 · show (clV (p2R r P).1 (S1R r P).length).length ≤ _
   rw [clV_len (by omega) a5]
   omega
 · show (p2R r P).2.length ≤ _
   omega
theorem mem_getD5 {α : Type} {l : List α} {k : Nat} (hk : k < l.length) (x : α) : l.getD k x ∈ l := by
 rw [List.getD_eq_getElem?_getD, List.getElem?_eq_getElem hk]
 exact List.getElem_mem hk
theorem okT_u16 {n : Int} (h : okT (.int .u16) n) : n16C n = true := by
 have hr : 0 ≤ n ∧ n ≤ 65535 := by simpa [okT, Lit.wf, IntKind.min, IntKind.max, IntKind.signed, IntKind.bits] using h
 unfold n16C
 rw [dec_true hr.1, dec_true hr.2]; rfl
theorem okT_u32 {n : Int} (h : okT (.int .u32) n) : n32C n = true := by
 have hr : 0 ≤ n ∧ n ≤ 4294967295 := by simpa [okT, Lit.wf, IntKind.min, IntKind.max, IntKind.signed, IntKind.bits] using h
 unfold n32C
 rw [dec_true hr.1, dec_true hr.2]; rfl
theorem okT_rng {r : RRt} (h : okT RR r) : rngR r = true := by
 obtain ⟨_, h2, h3, h4, _⟩ := h
 unfold rngR
 rw [okT_u16 h2, okT_u16 h3, okT_u32 h4]
 rfl
section
variable {t u : List UInt8}
end
theorem tkQ_place {s : List UInt8} {a : Int} {q : QQt} {e : Int} (h0 : 0 ≤ a) (h : tkQ s a = some (q, e)) : mayV q.1 = true ∧ a < e ∧ e ≤ s.length := by
 unfold tkQ at h
 cases ht : tk0 s a with
 | none => rw [ht] at h; cases h
 | some p =>
   obtain ⟨n, e0⟩ := p
   rw [ht] at h
   obtain ⟨p1, p2, p3⟩ := takeG_place h0 ht
   simp only at h
   by_cases hc : someB s e0 4 = true
   · have := some_iff.1 hc
     rw [if_pos hc] at h
     cases h
     exact ⟨p1, by omega, by omega⟩
   · rw [if_neg hc] at h; cases h
theorem tkR_place {s : List UInt8} {a : Int} {r : RRt} {e : Int} (h0 : 0 ≤ a) (h : tkR s a = some (r, e)) : recV r = true ∧ a < e ∧ e ≤ s.length := by
 unfold tkR at h
 cases ht : tkQ s a with
 | none => rw [ht] at h; cases h
 | some p =>
   obtain ⟨q, e0⟩ := p
   rw [ht] at h
   obtain ⟨p1, p2, p3⟩ := tkQ_place h0 ht
   simp only at h
   by_cases hc : someB s e0 6 = true
   · have hs := some_iff.1 hc
     have hn := n16_le s (e0 + 4)
     rw [if_pos hc] at h
     cases hd : takeV s (e0 + 6) (n16 s (e0 + 4)) q.2.1 with
     | none => rw [hd] at h; cases h
     | some d =>
       rw [hd] at h
       obtain ⟨m1, m2, _⟩ := takeV_may hd
       have := some_iff.1 m2
       cases h
       refine ⟨?_, by omega, by omega⟩
       unfold recV
       rw [p1, m1]
       rfl
   · rw [if_neg hc] at h; cases h
end Go.Proofs.YtlkpiegllammdaaE
namespace Go.Proofs.YtlkpiegllammdaaE
open Go Go.Proofs.YtlkpiegllammdaaB
set_option linter.unusedVariables false
set_option linter.unusedSimpArgs false
theorem wrap_succ {i : Int} {n : Nat} (h0 : 0 ≤ i) (h : i ≤ n) (hn : n ≤ 1000000000) : IntKind.wrap IntKind.i64 (i + 1) = i + 1 := IntWalk.i64_in _ (by omega)
def rrB (x y : RRt) : Bool := x.1 == y.1 && (x.2.1 == y.2.1 && (x.2.2.1 == y.2.2.1 && (x.2.2.2.1 == y.2.2.2.1 && (x.2.2.2.2 == y.2.2.2.2 && true))))
theorem rrB_iff (x y : RRt) : rrB x y = decide (x = y) := by
 obtain ⟨a, b, c, d, e⟩ := x
 obtain ⟨a', b', c', d', e'⟩ := y
 unfold rrB
 by_cases h : (a, b, c, d, e) = (a', b', c', d', e')
 · rw [decide_eq_true h]
   cases h
   simp
 · rw [decide_eq_false h]
   simp only [Prod.mk.injEq] at h
   cases h1 : (a == a' && (b == b' && (c == c' && (d == d' && (e == e' && true)))))
   · rfl
   · simp only [Bool.and_eq_true, beq_iff_eq] at h1
     exact absurd ⟨h1.1, h1.2.1, h1.2.2.1, h1.2.2.2.1, h1.2.2.2.2.1⟩ h
def t41 (m : (Int × (Bool × (Bool × (Bool × (Bool × (Bool × (Int × (Int × (List (List UInt8 × (Int × Int)) × (List (List UInt8 × (Int × (Int × (Int × List UInt8)))) × (List (List UInt8 × (Int × (Int × (Int × List UInt8)))) × List (List UInt8 × (Int × (Int × (Int × List UInt8)))))))))))))))) (rc : Int) : Tr Res := .ret ([.agg [.int .u16 m.1, .bool true, .bool false, .bool false, .bool m.2.2.2.2.1, .bool true, .int .i64 m.2.2.2.2.2.2.1, .int .i64 rc, .list QQ m.2.2.2.2.2.2.2.2.1, .list RR [], .list RR [], .list RR []]], [])
def os41 : OSpec := { f := 41, sh := [.d MG true, .d (.int .i64) false], so := [], F := fun (m, rc, _) _ => t41 m rc }
theorem fn41 (m : (Int × (Bool × (Bool × (Bool × (Bool × (Bool × (Int × (Int × (List (List UInt8 × (Int × Int)) × (List (List UInt8 × (Int × (Int × (Int × List UInt8)))) × (List (List UInt8 × (Int × (Int × (Int × List UInt8)))) × List (List UInt8 × (Int × (Int × (Int × List UInt8)))))))))))))))) (rc : Int) : evC T0 (orcB [] []) (lpOf h41 0 (lsOf [])) c41 1000000 (startSt [AV.ofTy MG m true, .int .i64 rc] [] Try.f41.ntmps) (finishK T0 false 0 Try.f41) = (t41 m rc).get := by kernel_rfl
theorem ok41 : os41.Ok Try.prog := by
 refine os_ok mixed0 tab0 (orcB_sound all_nil all_nil) h41 (d := 0) (n0 := 0) (S := lsOf []) Try.func41 (by kernel_rfl) (c := c41) (by kernel_rfl) rfl (no_loops (by kernel_rfl)) (by omega) (by kernel_rfl) ?_
 intro x'' y'' q'' hq''
 obtain ⟨(m : (Int × (Bool × (Bool × (Bool × (Bool × (Bool × (Int × (Int × (List (List UInt8 × (Int × Int)) × (List (List UInt8 × (Int × (Int × (Int × List UInt8)))) × (List (List UInt8 × (Int × (Int × (Int × List UInt8)))) × List (List UInt8 × (Int × (Int × (Int × List UInt8)))))))))))))))), (rc : Int), _⟩ := x''
 exact (fn41 m rc).trans hq''
def fs41 : FSpec := fsT 41 [(MG, true), ((.int .i64), false)] [(MG, true)] fun (m, rc, _) => t41 m rc
theorem okf41 : fs41.Ok Try.prog := fsT_ok fun x'' r'' hr'' => ok41 x'' () r'' hr''
def rrFew (rs : List RRt) : Bool := rs.all fun r => decide (r.1.length ≤ 300) && decide (r.2.2.2.2.length ≤ 300)
def rrOk (r : RRt) : Bool := decide (r.1.length ≤ 300) && decide (r.2.2.2.2.length ≤ 300)
theorem rrFew_next {rs : List RRt} {k : Nat} (hk : k < rs.length) (x : RRt) : rrFew (rs.drop k) = (rrOk (rs.getD k x) && rrFew (rs.drop (k + 1))) := by
 rw [drop_cons2 hk x]
 unfold rrFew
 rw [List.all_cons]
 rfl
def rsC (xs ys : List RRt) (i : Int) : Bool := decide (xs.length = ys.length) && (Nat.ble xs.length 1000000 && decide (i = 0))
noncomputable def b84 : Code := nthLoop c84 0
def ls84 : LoopSpec := { bid := 0, sh := [.d (.list RR) false, .d (.list RR) false, .d (.int .i64) false], so := [], F := fun (xs, ys, i, _) _ => .on2 (rsC xs ys i) (decide (xs = ys)) (.exit 0, [.dead], []) (.ret, [.bool false], []) }
def r84 (xs ys : List (List UInt8 × (Int × (Int × (Int × List UInt8))))) (i : Int) : Tr (St ⊕ (Ex × St)) := .br (decide (i < (↑xs.length : Int))) (.br (decide (0 ≤ i)) (.br (decide (i < (↑xs.length : Int))) (.br (decide (0 ≤ i)) (.br (decide (i < (↑ys.length : Int))) (.br (!((xs.getD i.toNat (Ty.dflt RR)).1 == (ys.getD i.toNat (Ty.dflt RR)).1 && ((xs.getD i.toNat (Ty.dflt RR)).2.1 == (ys.getD i.toNat (Ty.dflt RR)).2.1 && ((xs.getD i.toNat (Ty.dflt RR)).2.2.1 == (ys.getD i.toNat (Ty.dflt RR)).2.2.1 && ((xs.getD i.toNat (Ty.dflt RR)).2.2.2.1 == (ys.getD i.toNat (Ty.dflt RR)).2.2.2.1 && ((xs.getD i.toNat (Ty.dflt RR)).2.2.2.2 == (ys.getD i.toNat (Ty.dflt RR)).2.2.2.2 && true)))))) (.ret (.inr (.ret, stOf [4] [.bool false] []))) (.ret (.inl (stOf [0, 1, 5] [.list RR xs, .list RR ys, .int .i64 (IntKind.wrap .i64 (i + 1))] [])))) .no) .no) .no) .no) (.ret (.inr (.exit 0, stOf [4] [.dead] [])))
theorem round84 (orc : Orc) (lp : Lp) (xs ys : List (List UInt8 × (Int × (Int × (Int × List UInt8))))) (i : Int) : evC T0 orc lp b84 0 (stOf [0, 1, 5] [.list RR xs, .list RR ys, .int .i64 i] []) (roundK [0, 1, 5] [4] 0) = (r84 xs ys i).get := by kernel_rfl
theorem wf84 (orc : Orc) (xs ys : List (List UInt8 × (Int × (Int × (Int × List UInt8))))) (I'' : Int → Prop) (m'' : Int → Nat) (r'' : Ex × St) (h : ∀ (i : Int), I'' i → (r84 xs ys i).all fun x'' => x'' = .inr r'' ∨ ∃ (i' : Int), x'' = .inl (stOf [0, 1, 5] [.list RR xs, .list RR ys, .int .i64 i'] []) ∧ I'' i' ∧ m'' i' < m'' i) (lp : Lp) (i : Int) : I'' i →
    loopF (fun st => evC T0 orc lp b84 0 st (roundK [0, 1, 5] [4] 0)) (stOf [0, 1, 5] [.list RR xs, .list RR ys, .int .i64 i] []) = some r'' :=
 loop_tr (fun a'' : Int => stOf [0, 1, 5] [.list RR xs, .list RR ys, .int .i64 a''] []) (fun a'' => I'' a'') (fun a'' => m'' a'') r'' (fun a'' => r84 xs ys a'')
  (fun a'' x hx => (round84 orc lp xs ys a'').trans hx) (fun a'' ha => Tr.all_mono (fun x'' hx => hx.imp id fun ⟨i', h1, h2, h3⟩ => ⟨(i'), h1, h2, h3⟩) (h (a'') ha)) (i)
theorem loop84 (orc : Orc) : ls84.Ok T0 orc h84 0 0 b84 := by
 intro q'' hq'' x'' y'' r'' h
 obtain ⟨(xs : List (List UInt8 × (Int × (Int × (Int × List UInt8))))), (ys : List (List UInt8 × (Int × (Int × (Int × List UInt8))))), (i : Int), _⟩ := x''
 obtain ⟨hc, rfl⟩ := Tr.get_on2 h
 show loopF (fun st => evC T0 orc (lpN T0 orc h84 0 q'') b84 0 st (roundK [0, 1, 5] [4] 0)) (stOf [0, 1, 5] [.list RR xs, .list RR ys, .int .i64 i] []) = some ((bif decide (xs = ys) then (.exit 0, [.dead], []) else (.ret, [.bool false], []) : Ex × List AV × List LObj).1, stOf [4] (bif decide (xs = ys) then (.exit 0, [.dead], []) else (.ret, [.bool false], []) : Ex × List AV × List LObj).2.1 (bif decide (xs = ys) then (.exit 0, [.dead], []) else (.ret, [.bool false], []) : Ex × List AV × List LObj).2.2)
 simp only [rsC, Bool.and_eq_true, decide_eq_true_eq] at hc
 obtain ⟨hq, hl, rfl⟩ := hc
 have hl := Nat.le_of_ble_eq_true hl
 refine wf84 _ xs ys (fun i => 0 ≤ i ∧ i ≤ xs.length ∧ decide (xs.drop i.toNat = ys.drop i.toNat) = decide (xs = ys)) (fun i => (xs.length - i).toNat) _ ?_ _ 0 ⟨by omega, by omega, rfl⟩
 rintro i ⟨h0, h1, he⟩
 unfold r84
 rw [wrap_succ h0 h1 (by omega)]
 by_cases hi : i < xs.length
 · rw [drop_cons2 (l := xs) (k := i.toNat) (by omega) (Ty.dflt RR), drop_cons2 (l := ys) (k := i.toNat) (by omega) (Ty.dflt RR)] at he
   generalize xs.getD i.toNat (Ty.dflt RR) = x at *
   generalize ys.getD i.toNat (Ty.dflt RR) = y at *
   have hb := rrB_iff x y
   unfold rrB at hb
   rw [hb]
   refine Tr.all_t (dec_true hi) (Tr.all_t (dec_true h0) (Tr.all_t (dec_true hi) (Tr.all_t (dec_true h0) (Tr.all_t (dec_true (by omega)) ?_))))
   by_cases hxy : x = y
   · rw [decide_eq_true hxy]
     refine Tr.all_f rfl (Tr.all_ret (.inr ⟨_, rfl, ⟨by omega, by omega, ?_⟩, by omega⟩))
     rw [show (i + 1).toNat = i.toNat + 1 by omega, ← he]
     by_cases h2 : xs.drop (i.toNat + 1) = ys.drop (i.toNat + 1)
     · rw [decide_eq_true h2, decide_eq_true (by rw [hxy, h2])]
     · rw [decide_eq_false h2, decide_eq_false (fun e => h2 (List.cons.inj e).2)]
   · rw [decide_eq_false hxy]
     refine Tr.all_t rfl (Tr.all_ret (.inl ?_))
     rw [← he, decide_eq_false (fun e => hxy (List.cons.inj e).1)]
     rfl
 · refine Tr.all_f (dec_false hi) (Tr.all_ret (.inl ?_))
   rw [List.drop_eq_nil_of_le (by omega), List.drop_eq_nil_of_le (by omega)] at he
   rw [← he]
   rfl
def t84 (xs ys : List (List UInt8 × (Int × (Int × (Int × List UInt8))))) : Tr Res := .br ((↑xs.length : Int) != (↑ys.length : Int)) (.ret ([.bool false], [])) (.br (rsC xs ys 0) (.br (decide (xs = ys)) (.ret ([.bool true], [])) (.ret ([.bool false], []))) .no)
def os84 : OSpec := { f := 84, sh := [.d (.list RR) false, .d (.list RR) false], so := [], F := fun (xs, ys, _) _ => t84 xs ys }
theorem fn84 (xs ys : List (List UInt8 × (Int × (Int × (Int × List UInt8))))) : evC T0 (orcB [] []) (lpOf h84 0 (lsOf [ls84])) c84 1000000 (startSt [.list RR xs, .list RR ys] [] Try.f84.ntmps) (finishK T0 false 0 Try.f84) = (t84 xs ys).get := by kernel_rfl
theorem ok84 : os84.Ok Try.prog := by
 refine os_ok mixed0 tab0 (orcB_sound all_nil all_nil) h84 (d := 0) (n0 := 0) (S := lsOf [ls84]) Try.func84 (by kernel_rfl) (c := c84) (by kernel_rfl) rfl (loops_eq (xs := [(0, b84)]) (by kernel_rfl) (all_cons (ls_here (loop84 _)) all_nil)) (by omega) (by kernel_rfl) ?_
 intro x'' y'' q'' hq''
 obtain ⟨(xs : List (List UInt8 × (Int × (Int × (Int × List UInt8))))), (ys : List (List UInt8 × (Int × (Int × (Int × List UInt8))))), _⟩ := x''
 exact (fn84 xs ys).trans hq''
def fs84 : FSpec := fsT 84 [((.list RR), false), ((.list RR), false)] [(.bool, false)] fun (xs, ys, _) => t84 xs ys
theorem okf84 : fs84.Ok Try.prog := fsT_ok fun x'' r'' hr'' => ok84 x'' () r'' hr''
def fs84w : FSpec := fs84.like fun (xs, ys, _) => .on (Nat.ble xs.length 1000000) (decide (xs = ys), ())
theorem okf84w : fs84w.Ok Try.prog := by
 refine flike_ok okf84 _ ?_
 rintro ⟨(xs : List RRt), (ys : List RRt), _⟩ y h
 obtain ⟨hb, rfl⟩ := Tr.get_on h
 have hb : Nat.ble xs.length 1000000 = true := hb
 refine convR_of (vs := [.bool (decide (xs = ys))]) rfl rfl (Tr.get_of_all ?_)
 show (t84 xs ys).all _
 unfold t84
 by_cases hl : xs.length = ys.length
 · have hc : rsC xs ys 0 = true := by unfold rsC; rw [decide_eq_true hl, hb]; rfl
   refine Tr.all_f (by rw [hl]; simp) (Tr.all_t hc (Tr.all_br (fun h => Tr.all_ret (by rw [h])) fun h => Tr.all_ret (by rw [h])))
 · refine Tr.all_t (by simp; omega) (Tr.all_ret ?_)
   rw [decide_eq_false (fun e => hl (by rw [e]))]
def fmC (rs : List RRt) (i : Int) : Bool := Nat.ble rs.length 1000000 && decide (i = 0)
noncomputable def b35 : Code := nthLoop c35 0
def ls35 : LoopSpec := { bid := 0, sh := [.ptr 0 0, .row 1, .d (.int .i64) false], so := [.box [.d (.int .u16) false, .d .bool false, .d .bool false, .d .bool false, .d .bool false, .d .bool false, .d (.int .i64) false, .d (.int .i64) false, .d (.list QQ) false, .d (.list RR) false, .d (.list RR) false, .d (.list RR) false], .row RR], F := fun (i, _) ((mi, mqr, maa, mtc, mrd, mra, mop, mrc, mq, man, mns, mar, _), rs, _) => .on2 (fmC rs i) (rrFew rs) (.exit 0, [.ptr 0 0, .dead], [.box [.int .u16 mi, .bool mqr, .bool maa, .bool mtc, .bool mrd, .bool mra, .int .i64 mop, .int .i64 mrc, .list QQ mq, .list RR man, .list RR mns, .list RR mar]]) (.ret, [.ptr 0 0, .bool false], [.box [.int .u16 mi, .bool mqr, .bool maa, .bool mtc, .bool mrd, .bool mra, .int .i64 mop, .int .i64 mrc, .list QQ mq, .list RR man, .list RR mns, .list RR mar]]) }
def r35 (i mi : Int) (mqr maa mtc mrd mra : Bool) (mop mrc : Int) (mq : List (List UInt8 × (Int × Int))) (man mns mar rs : List (List UInt8 × (Int × (Int × (Int × List UInt8))))) : Tr (St ⊕ (Ex × St)) := .br (decide (i < (↑rs.length : Int))) (.br (decide (0 ≤ i)) (.br (decide (i < (↑rs.length : Int))) (.br (decide ((↑(List.length (rs.getD i.toNat (Ty.dflt RR)).1) : Int) > 300)) (.ret (.inr (.ret, stOf [1, 2] [.ptr 0 0, .bool false] [.boxT none [.int .u16 mi, .bool mqr, .bool maa, .bool mtc, .bool mrd, .bool mra, .int .i64 mop, .int .i64 mrc, .list QQ mq, .list RR man, .list RR mns, .list RR mar]]))) (.br (decide (0 ≤ i)) (.br (decide (i < (↑rs.length : Int))) (.br (decide ((↑(List.length (rs.getD i.toNat (Ty.dflt RR)).2.2.2.2) : Int) > 300)) (.ret (.inr (.ret, stOf [1, 2] [.ptr 0 0, .bool false] [.boxT none [.int .u16 mi, .bool mqr, .bool maa, .bool mtc, .bool mrd, .bool mra, .int .i64 mop, .int .i64 mrc, .list QQ mq, .list RR man, .list RR mns, .list RR mar]]))) (.ret (.inl (stOf [1, 3, 4] [.ptr 0 0, .rowA 1, .int .i64 (IntKind.wrap .i64 (i + 1))] [.boxT none [.int .u16 mi, .bool mqr, .bool maa, .bool mtc, .bool mrd, .bool mra, .int .i64 mop, .int .i64 mrc, .list QQ mq, .list RR man, .list RR mns, .list RR mar], .row RR rs])))) .no) .no)) .no) .no) (.ret (.inr (.exit 0, stOf [1, 2] [.ptr 0 0, .dead] [.boxT none [.int .u16 mi, .bool mqr, .bool maa, .bool mtc, .bool mrd, .bool mra, .int .i64 mop, .int .i64 mrc, .list QQ mq, .list RR man, .list RR mns, .list RR mar]])))
theorem round35 (orc : Orc) (lp : Lp) (i mi : Int) (mqr maa mtc mrd mra : Bool) (mop mrc : Int) (mq : List (List UInt8 × (Int × Int))) (man mns mar rs : List (List UInt8 × (Int × (Int × (Int × List UInt8))))) : evC T0 orc lp b35 0 (stOf [1, 3, 4] [.ptr 0 0, .rowA 1, .int .i64 i] [.box [.int .u16 mi, .bool mqr, .bool maa, .bool mtc, .bool mrd, .bool mra, .int .i64 mop, .int .i64 mrc, .list QQ mq, .list RR man, .list RR mns, .list RR mar], .row RR rs]) (roundK [1, 3, 4] [1, 2] 0) = (r35 i mi mqr maa mtc mrd mra mop mrc mq man mns mar rs).get := by kernel_rfl
theorem wf35 (orc : Orc) (mi : Int) (mqr maa mtc mrd mra : Bool) (mop mrc : Int) (mq : List (List UInt8 × (Int × Int))) (man mns mar rs : List (List UInt8 × (Int × (Int × (Int × List UInt8))))) (I'' : Int → Prop) (m'' : Int → Nat) (r'' : Ex × St) (h : ∀ (i : Int), I'' i → (r35 i mi mqr maa mtc mrd mra mop mrc mq man mns mar rs).all fun x'' => x'' = .inr r'' ∨ ∃ (i' : Int), x'' = .inl (stOf [1, 3, 4] [.ptr 0 0, .rowA 1, .int .i64 i'] [.box [.int .u16 mi, .bool mqr, .bool maa, .bool mtc, .bool mrd, .bool mra, .int .i64 mop, .int .i64 mrc, .list QQ mq, .list RR man, .list RR mns, .list RR mar], .row RR rs]) ∧ I'' i' ∧ m'' i' < m'' i) (lp : Lp) (i : Int) : I'' i →
    loopF (fun st => evC T0 orc lp b35 0 st (roundK [1, 3, 4] [1, 2] 0)) (stOf [1, 3, 4] [.ptr 0 0, .rowA 1, .int .i64 i] [.box [.int .u16 mi, .bool mqr, .bool maa, .bool mtc, .bool mrd, .bool mra, .int .i64 mop, .int .i64 mrc, .list QQ mq, .list RR man, .list RR mns, .list RR mar], .row RR rs]) = some r'' :=
 loop_tr (fun a'' : Int => stOf [1, 3, 4] [.ptr 0 0, .rowA 1, .int .i64 a''] [.box [.int .u16 mi, .bool mqr, .bool maa, .bool mtc, .bool mrd, .bool mra, .int .i64 mop, .int .i64 mrc, .list QQ mq, .list RR man, .list RR mns, .list RR mar], .row RR rs]) (fun a'' => I'' a'') (fun a'' => m'' a'') r'' (fun a'' => r35 a'' mi mqr maa mtc mrd mra mop mrc mq man mns mar rs)
  (fun a'' x hx => (round35 orc lp a'' mi mqr maa mtc mrd mra mop mrc mq man mns mar rs).trans hx) (fun a'' ha => Tr.all_mono (fun x'' hx => hx.imp id fun ⟨i', h1, h2, h3⟩ => ⟨(i'), h1, h2, h3⟩) (h (a'') ha)) (i)
theorem loop35 (orc : Orc) : ls35.Ok T0 orc h35 0 0 b35 := by
 intro q'' hq'' x'' y'' r'' h
 obtain ⟨(i : Int), _⟩ := x''
 obtain ⟨⟨(mi : Int), (mqr : Bool), (maa : Bool), (mtc : Bool), (mrd : Bool), (mra : Bool), (mop : Int), (mrc : Int), (mq : List (List UInt8 × (Int × Int))), (man : List (List UInt8 × (Int × (Int × (Int × List UInt8))))), (mns : List (List UInt8 × (Int × (Int × (Int × List UInt8))))), (mar : List (List UInt8 × (Int × (Int × (Int × List UInt8))))), _⟩, (rs : List (List UInt8 × (Int × (Int × (Int × List UInt8))))), _⟩ := y''
 obtain ⟨hc, rfl⟩ := Tr.get_on2 h
 show loopF (fun st => evC T0 orc (lpN T0 orc h35 0 q'') b35 0 st (roundK [1, 3, 4] [1, 2] 0)) (stOf [1, 3, 4] [.ptr 0 0, .rowA 1, .int .i64 i] [.box [.int .u16 mi, .bool mqr, .bool maa, .bool mtc, .bool mrd, .bool mra, .int .i64 mop, .int .i64 mrc, .list QQ mq, .list RR man, .list RR mns, .list RR mar], .row RR rs]) = some ((bif rrFew rs then (.exit 0, [.ptr 0 0, .dead], [.box [.int .u16 mi, .bool mqr, .bool maa, .bool mtc, .bool mrd, .bool mra, .int .i64 mop, .int .i64 mrc, .list QQ mq, .list RR man, .list RR mns, .list RR mar]]) else (.ret, [.ptr 0 0, .bool false], [.box [.int .u16 mi, .bool mqr, .bool maa, .bool mtc, .bool mrd, .bool mra, .int .i64 mop, .int .i64 mrc, .list QQ mq, .list RR man, .list RR mns, .list RR mar]]) : Ex × List AV × List LObj).1, stOf [1, 2] (bif rrFew rs then (.exit 0, [.ptr 0 0, .dead], [.box [.int .u16 mi, .bool mqr, .bool maa, .bool mtc, .bool mrd, .bool mra, .int .i64 mop, .int .i64 mrc, .list QQ mq, .list RR man, .list RR mns, .list RR mar]]) else (.ret, [.ptr 0 0, .bool false], [.box [.int .u16 mi, .bool mqr, .bool maa, .bool mtc, .bool mrd, .bool mra, .int .i64 mop, .int .i64 mrc, .list QQ mq, .list RR man, .list RR mns, .list RR mar]]) : Ex × List AV × List LObj).2.1 (bif rrFew rs then (.exit 0, [.ptr 0 0, .dead], [.box [.int .u16 mi, .bool mqr, .bool maa, .bool mtc, .bool mrd, .bool mra, .int .i64 mop, .int .i64 mrc, .list QQ mq, .list RR man, .list RR mns, .list RR mar]]) else (.ret, [.ptr 0 0, .bool false], [.box [.int .u16 mi, .bool mqr, .bool maa, .bool mtc, .bool mrd, .bool mra, .int .i64 mop, .int .i64 mrc, .list QQ mq, .list RR man, .list RR mns, .list RR mar]]) : Ex × List AV × List LObj).2.2)
 simp only [fmC, Bool.and_eq_true, decide_eq_true_eq] at hc
 obtain ⟨hl, rfl⟩ := hc
 have hl := Nat.le_of_ble_eq_true hl
 refine wf35 _ mi mqr maa mtc mrd mra mop mrc mq man mns mar rs (fun k => 0 ≤ k ∧ k ≤ rs.length ∧ rrFew (rs.drop k.toNat) = rrFew rs) (fun k => (rs.length - k).toNat) _ ?_ _ 0 ⟨by omega, by omega, rfl⟩
 rintro k ⟨k0, k1, he⟩
 unfold r35
 rw [wrap_succ k0 k1 (by omega)]
 by_cases hk : k < rs.length
 · rw [rrFew_next (k := k.toNat) (by omega) (Ty.dflt RR)] at he
   generalize rs.getD k.toNat (Ty.dflt RR) = r at *
   refine Tr.all_t (dec_true hk) (Tr.all_t (dec_true k0) (Tr.all_t (dec_true hk) (Tr.all_br (fun c1 => ?_) fun c1 => Tr.all_t (dec_true k0) (Tr.all_t (dec_true hk) (Tr.all_br (fun c2 => ?_) fun c2 => ?_)))))
   · have c1 := of_decide_eq_true c1
     have : rrOk r = false := by unfold rrOk; rw [dec_false (by omega)]; rfl
     rw [this] at he
     rw [← he]
     exact Tr.all_ret (.inl rfl)
   · have c2 := of_decide_eq_true c2
     have : rrOk r = false := by unfold rrOk; rw [dec_false (show ¬ r.2.2.2.2.length ≤ 300 by omega), Bool.and_false]
     rw [this] at he
     rw [← he]
     exact Tr.all_ret (.inl rfl)
   · have c1 := of_decide_eq_false c1
     have c2 := of_decide_eq_false c2
     have : rrOk r = true := by unfold rrOk; rw [dec_true (by omega), dec_true (by omega)]; rfl
     rw [this, Bool.true_and] at he
     exact Tr.all_ret (.inr ⟨_, rfl, ⟨by omega, by omega, by rw [show (k + 1).toNat = k.toNat + 1 by omega]; exact he⟩, by omega⟩)
 · refine Tr.all_f (dec_false hk) (Tr.all_ret (.inl ?_))
   rw [show k.toNat = rs.length by omega, List.drop_length] at he
   rw [← he]
   rfl
def qFew (qs : List QQt) : Bool := qs.all fun q => decide (q.1.length ≤ 300)
def fqC (qs : List QQt) (i : Int) : Bool := Nat.ble qs.length 1000000 && decide (i = 0)
noncomputable def b35q : Code := nthLoop c35 1
def ls35q : LoopSpec := { bid := 2, sh := [.ptr 0 0, .d (.int .i64) false], so := [.box [.d (.int .u16) false, .d .bool false, .d .bool false, .d .bool false, .d .bool false, .d .bool false, .d (.int .i64) false, .d (.int .i64) false, .d (.list QQ) false, .d (.list RR) false, .d (.list RR) false, .d (.list RR) false]], F := fun (i, _) ((mi, mqr, maa, mtc, mrd, mra, mop, mrc, mq, man, mns, mar, _), _) => .on2 (fqC mq i) (qFew mq) (.exit 2, [.dead], []) (.ret, [.bool false], []) }
def r35q (i mi : Int) (mqr maa mtc mrd mra : Bool) (mop mrc : Int) (mq : List (List UInt8 × (Int × Int))) (man mns mar : List (List UInt8 × (Int × (Int × (Int × List UInt8))))) : Tr (St ⊕ (Ex × St)) := .br (decide (i < (↑mq.length : Int))) (.br (decide (0 ≤ i)) (.br (decide (i < (↑mq.length : Int))) (.br (decide ((↑(List.length (mq.getD i.toNat (Ty.dflt QQ)).1) : Int) > 300)) (.ret (.inr (.ret, stOf [2] [.bool false] []))) (.ret (.inl (stOf [1, 5] [.ptr 0 0, .int .i64 (IntKind.wrap .i64 (i + 1))] [.boxT none [.int .u16 mi, .bool mqr, .bool maa, .bool mtc, .bool mrd, .bool mra, .int .i64 mop, .int .i64 mrc, .list QQ mq, .list RR man, .list RR mns, .list RR mar]])))) .no) .no) (.ret (.inr (.exit 2, stOf [2] [.dead] [])))
theorem round35q (orc : Orc) (lp : Lp) (i mi : Int) (mqr maa mtc mrd mra : Bool) (mop mrc : Int) (mq : List (List UInt8 × (Int × Int))) (man mns mar : List (List UInt8 × (Int × (Int × (Int × List UInt8))))) : evC T0 orc lp b35q 2 (stOf [1, 5] [.ptr 0 0, .int .i64 i] [.box [.int .u16 mi, .bool mqr, .bool maa, .bool mtc, .bool mrd, .bool mra, .int .i64 mop, .int .i64 mrc, .list QQ mq, .list RR man, .list RR mns, .list RR mar]]) (roundK [1, 5] [2] 0) = (r35q i mi mqr maa mtc mrd mra mop mrc mq man mns mar).get := by kernel_rfl
theorem wf35q (orc : Orc) (mi : Int) (mqr maa mtc mrd mra : Bool) (mop mrc : Int) (mq : List (List UInt8 × (Int × Int))) (man mns mar : List (List UInt8 × (Int × (Int × (Int × List UInt8))))) (I'' : Int → Prop) (m'' : Int → Nat) (r'' : Ex × St) (h : ∀ (i : Int), I'' i → (r35q i mi mqr maa mtc mrd mra mop mrc mq man mns mar).all fun x'' => x'' = .inr r'' ∨ ∃ (i' : Int), x'' = .inl (stOf [1, 5] [.ptr 0 0, .int .i64 i'] [.box [.int .u16 mi, .bool mqr, .bool maa, .bool mtc, .bool mrd, .bool mra, .int .i64 mop, .int .i64 mrc, .list QQ mq, .list RR man, .list RR mns, .list RR mar]]) ∧ I'' i' ∧ m'' i' < m'' i) (lp : Lp) (i : Int) : I'' i →
    loopF (fun st => evC T0 orc lp b35q 2 st (roundK [1, 5] [2] 0)) (stOf [1, 5] [.ptr 0 0, .int .i64 i] [.box [.int .u16 mi, .bool mqr, .bool maa, .bool mtc, .bool mrd, .bool mra, .int .i64 mop, .int .i64 mrc, .list QQ mq, .list RR man, .list RR mns, .list RR mar]]) = some r'' :=
 loop_tr (fun a'' : Int => stOf [1, 5] [.ptr 0 0, .int .i64 a''] [.box [.int .u16 mi, .bool mqr, .bool maa, .bool mtc, .bool mrd, .bool mra, .int .i64 mop, .int .i64 mrc, .list QQ mq, .list RR man, .list RR mns, .list RR mar]]) (fun a'' => I'' a'') (fun a'' => m'' a'') r'' (fun a'' => r35q a'' mi mqr maa mtc mrd mra mop mrc mq man mns mar)
  (fun a'' x hx => (round35q orc lp a'' mi mqr maa mtc mrd mra mop mrc mq man mns mar).trans hx) (fun a'' ha => Tr.all_mono (fun x'' hx => hx.imp id fun ⟨i', h1, h2, h3⟩ => ⟨(i'), h1, h2, h3⟩) (h (a'') ha)) (i)
theorem loop35q (orc : Orc) : ls35q.Ok T0 orc h35 0 0 b35q := by
 intro q'' hq'' x'' y'' r'' h
 obtain ⟨(i : Int), _⟩ := x''
 obtain ⟨⟨(mi : Int), (mqr : Bool), (maa : Bool), (mtc : Bool), (mrd : Bool), (mra : Bool), (mop : Int), (mrc : Int), (mq : List (List UInt8 × (Int × Int))), (man : List (List UInt8 × (Int × (Int × (Int × List UInt8))))), (mns : List (List UInt8 × (Int × (Int × (Int × List UInt8))))), (mar : List (List UInt8 × (Int × (Int × (Int × List UInt8))))), _⟩, _⟩ := y''
 obtain ⟨hc, rfl⟩ := Tr.get_on2 h
 show loopF (fun st => evC T0 orc (lpN T0 orc h35 0 q'') b35q 2 st (roundK [1, 5] [2] 0)) (stOf [1, 5] [.ptr 0 0, .int .i64 i] [.box [.int .u16 mi, .bool mqr, .bool maa, .bool mtc, .bool mrd, .bool mra, .int .i64 mop, .int .i64 mrc, .list QQ mq, .list RR man, .list RR mns, .list RR mar]]) = some ((bif qFew mq then (.exit 2, [.dead], []) else (.ret, [.bool false], []) : Ex × List AV × List LObj).1, stOf [2] (bif qFew mq then (.exit 2, [.dead], []) else (.ret, [.bool false], []) : Ex × List AV × List LObj).2.1 (bif qFew mq then (.exit 2, [.dead], []) else (.ret, [.bool false], []) : Ex × List AV × List LObj).2.2)
 simp only [fqC, Bool.and_eq_true, decide_eq_true_eq] at hc
 obtain ⟨hl, rfl⟩ := hc
 have hl := Nat.le_of_ble_eq_true hl
 refine wf35q _ mi mqr maa mtc mrd mra mop mrc mq man mns mar (fun k => 0 ≤ k ∧ k ≤ mq.length ∧ qFew (mq.drop k.toNat) = qFew mq) (fun k => (mq.length - k).toNat) _ ?_ _ 0 ⟨by omega, by omega, rfl⟩
 rintro k ⟨k0, k1, he⟩
 unfold r35q
 rw [wrap_succ k0 k1 (by omega)]
 by_cases hk : k < mq.length
 · rw [drop_cons2 (l := mq) (k := k.toNat) (by omega) (Ty.dflt QQ)] at he
   unfold qFew at he ⊢
   rw [List.all_cons] at he
   generalize mq.getD k.toNat (Ty.dflt QQ) = r at *
   refine Tr.all_t (dec_true hk) (Tr.all_t (dec_true k0) (Tr.all_t (dec_true hk) (Tr.all_br (fun c1 => ?_) fun c1 => ?_)))
   · have c1 := of_decide_eq_true c1
     rw [dec_false (show ¬ r.1.length ≤ 300 by omega)] at he
     rw [← he]
     exact Tr.all_ret (.inl rfl)
   · have c1 := of_decide_eq_false c1
     rw [dec_true (show r.1.length ≤ 300 by omega), Bool.true_and] at he
     exact Tr.all_ret (.inr ⟨_, rfl, ⟨by omega, by omega, by rw [show (k + 1).toNat = k.toNat + 1 by omega]; exact he⟩, by omega⟩)
 · refine Tr.all_f (dec_false hk) (Tr.all_ret (.inl ?_))
   rw [show k.toNat = mq.length by omega, List.drop_length] at he
   rw [← he]
   rfl
def t35 (m : (Int × (Bool × (Bool × (Bool × (Bool × (Bool × (Int × (Int × (List (List UInt8 × (Int × Int)) × (List (List UInt8 × (Int × (Int × (Int × List UInt8)))) × (List (List UInt8 × (Int × (Int × (Int × List UInt8)))) × List (List UInt8 × (Int × (Int × (Int × List UInt8)))))))))))))))) : Tr Res := .br (decide ((↑m.2.2.2.2.2.2.2.2.1.length : Int) > 20)) (.ret ([.bool false], [])) (.br (decide ((↑m.2.2.2.2.2.2.2.2.2.1.length : Int) > 20)) (.ret ([.bool false], [])) (.br (decide ((↑m.2.2.2.2.2.2.2.2.2.2.1.length : Int) > 20)) (.ret ([.bool false], [])) (.br (decide ((↑m.2.2.2.2.2.2.2.2.2.2.2.length : Int) > 20)) (.ret ([.bool false], [])) (.br (fits (0 + List.length m.2.2.2.2.2.2.2.2.2.1) 40) (.br (fits (List.length ([] ++ m.2.2.2.2.2.2.2.2.2.1) + List.length m.2.2.2.2.2.2.2.2.2.2.1) 40) (.br (fits (List.length ([] ++ m.2.2.2.2.2.2.2.2.2.1 ++ m.2.2.2.2.2.2.2.2.2.2.1) + List.length m.2.2.2.2.2.2.2.2.2.2.2) 40) (.br (fmC ([] ++ m.2.2.2.2.2.2.2.2.2.1 ++ m.2.2.2.2.2.2.2.2.2.2.1 ++ m.2.2.2.2.2.2.2.2.2.2.2) 0) (.br (rrFew ([] ++ m.2.2.2.2.2.2.2.2.2.1 ++ m.2.2.2.2.2.2.2.2.2.2.1 ++ m.2.2.2.2.2.2.2.2.2.2.2)) (.br (fqC m.2.2.2.2.2.2.2.2.1 0) (.br (qFew m.2.2.2.2.2.2.2.2.1) (.ret ([.bool true], [])) (.ret ([.bool false], []))) .no) (.ret ([.bool false], []))) .no) .no) .no) .no))))
def os35 : OSpec := { f := 35, sh := [.d MG true], so := [], F := fun (m, _) _ => t35 m }
theorem fn35 (m : (Int × (Bool × (Bool × (Bool × (Bool × (Bool × (Int × (Int × (List (List UInt8 × (Int × Int)) × (List (List UInt8 × (Int × (Int × (Int × List UInt8)))) × (List (List UInt8 × (Int × (Int × (Int × List UInt8)))) × List (List UInt8 × (Int × (Int × (Int × List UInt8)))))))))))))))) : evC T0 (orcB [] []) (lpOf h35 0 (lsOf [ls35, ls35q])) c35 1000000 (startSt [AV.ofTy MG m true] [] Try.f35.ntmps) (finishK T0 false 0 Try.f35) = (t35 m).get := by kernel_rfl
theorem ok35 : os35.Ok Try.prog := by
 refine os_ok mixed0 tab0 (orcB_sound all_nil all_nil) h35 (d := 0) (n0 := 0) (S := lsOf [ls35, ls35q]) Try.func35 (by kernel_rfl) (c := c35) (by kernel_rfl) rfl (loops_eq (xs := [(0, b35), (2, b35q)]) (by kernel_rfl) (all_cons (ls_here (loop35 _)) (all_cons (ls_skip (by kernel_rfl) (ls_here (loop35q _))) all_nil))) (by omega) (by kernel_rfl) ?_
 intro x'' y'' q'' hq''
 obtain ⟨(m : (Int × (Bool × (Bool × (Bool × (Bool × (Bool × (Int × (Int × (List (List UInt8 × (Int × Int)) × (List (List UInt8 × (Int × (Int × (Int × List UInt8)))) × (List (List UInt8 × (Int × (Int × (Int × List UInt8)))) × List (List UInt8 × (Int × (Int × (Int × List UInt8)))))))))))))))), _⟩ := x''
 exact (fn35 m).trans hq''
def fs35 : FSpec := fsT 35 [(MG, true)] [(.bool, false)] fun (m, _) => t35 m
theorem okf35 : fs35.Ok Try.prog := fsT_ok fun x'' r'' hr'' => ok35 x'' () r'' hr''
def sqC (xs ys : List QQt) (i : Int) : Bool := decide (xs.length = ys.length) && (Nat.ble xs.length 1000000 && decide (i = 0))
noncomputable def b40 : Code := nthLoop c40 0
def ls40 : LoopSpec := { bid := 0, sh := [.ptr 0 0, .ptr 1 0, .d (.int .i64) false], so := [.box [.d (.int .u16) false, .d .bool false, .d .bool false, .d .bool false, .d .bool false, .d .bool false, .d (.int .i64) false, .d (.int .i64) false, .d (.list QQ) false, .d (.list RR) false, .d (.list RR) false, .d (.list RR) false], .box [.d (.int .u16) false, .d .bool false, .d .bool false, .d .bool false, .d .bool false, .d .bool false, .d (.int .i64) false, .d (.int .i64) false, .d (.list QQ) false, .d (.list RR) false, .d (.list RR) false, .d (.list RR) false]], F := fun (i, _) ((mi, mqr, maa, mtc, mrd, mra, mop, mrc, mq, man, mns, mar, _), (ni, nqr, naa, ntc, nrd, nra, nop, nrc, nq, nan, nns, nar, _), _) => .on2 (sqC mq nq i) (decide (mq = nq)) (.exit 0, [.ptr 0 0, .ptr 1 0, .dead], [.box [.int .u16 mi, .bool mqr, .bool maa, .bool mtc, .bool mrd, .bool mra, .int .i64 mop, .int .i64 mrc, .list QQ mq, .list RR man, .list RR mns, .list RR mar], .box [.int .u16 ni, .bool nqr, .bool naa, .bool ntc, .bool nrd, .bool nra, .int .i64 nop, .int .i64 nrc, .list QQ nq, .list RR nan, .list RR nns, .list RR nar]]) (.ret, [.ptr 0 0, .ptr 1 0, .bool false], [.box [.int .u16 mi, .bool mqr, .bool maa, .bool mtc, .bool mrd, .bool mra, .int .i64 mop, .int .i64 mrc, .list QQ mq, .list RR man, .list RR mns, .list RR mar], .box [.int .u16 ni, .bool nqr, .bool naa, .bool ntc, .bool nrd, .bool nra, .int .i64 nop, .int .i64 nrc, .list QQ nq, .list RR nan, .list RR nns, .list RR nar]]) }
def r40 (i mi : Int) (mqr maa mtc mrd mra : Bool) (mop mrc : Int) (mq : List (List UInt8 × (Int × Int))) (man mns mar : List (List UInt8 × (Int × (Int × (Int × List UInt8))))) (ni : Int) (nqr naa ntc nrd nra : Bool) (nop nrc : Int) (nq : List (List UInt8 × (Int × Int))) (nan nns nar : List (List UInt8 × (Int × (Int × (Int × List UInt8))))) : Tr (St ⊕ (Ex × St)) := .br (decide (i < (↑mq.length : Int))) (.br (decide (0 ≤ i)) (.br (decide (i < (↑mq.length : Int))) (.br (decide (0 ≤ i)) (.br (decide (i < (↑nq.length : Int))) (.br (!((mq.getD i.toNat (Ty.dflt QQ)).1 == (nq.getD i.toNat (Ty.dflt QQ)).1 && ((mq.getD i.toNat (Ty.dflt QQ)).2.1 == (nq.getD i.toNat (Ty.dflt QQ)).2.1 && ((mq.getD i.toNat (Ty.dflt QQ)).2.2 == (nq.getD i.toNat (Ty.dflt QQ)).2.2 && true)))) (.ret (.inr (.ret, stOf [2, 3, 4] [.ptr 0 0, .ptr 1 0, .bool false] [.boxT none [.int .u16 mi, .bool mqr, .bool maa, .bool mtc, .bool mrd, .bool mra, .int .i64 mop, .int .i64 mrc, .list QQ mq, .list RR man, .list RR mns, .list RR mar], .boxT none [.int .u16 ni, .bool nqr, .bool naa, .bool ntc, .bool nrd, .bool nra, .int .i64 nop, .int .i64 nrc, .list QQ nq, .list RR nan, .list RR nns, .list RR nar]]))) (.ret (.inl (stOf [2, 3, 5] [.ptr 0 0, .ptr 1 0, .int .i64 (IntKind.wrap .i64 (i + 1))] [.boxT none [.int .u16 mi, .bool mqr, .bool maa, .bool mtc, .bool mrd, .bool mra, .int .i64 mop, .int .i64 mrc, .list QQ mq, .list RR man, .list RR mns, .list RR mar], .boxT none [.int .u16 ni, .bool nqr, .bool naa, .bool ntc, .bool nrd, .bool nra, .int .i64 nop, .int .i64 nrc, .list QQ nq, .list RR nan, .list RR nns, .list RR nar]])))) .no) .no) .no) .no) (.ret (.inr (.exit 0, stOf [2, 3, 4] [.ptr 0 0, .ptr 1 0, .dead] [.boxT none [.int .u16 mi, .bool mqr, .bool maa, .bool mtc, .bool mrd, .bool mra, .int .i64 mop, .int .i64 mrc, .list QQ mq, .list RR man, .list RR mns, .list RR mar], .boxT none [.int .u16 ni, .bool nqr, .bool naa, .bool ntc, .bool nrd, .bool nra, .int .i64 nop, .int .i64 nrc, .list QQ nq, .list RR nan, .list RR nns, .list RR nar]])))
theorem round40 (orc : Orc) (lp : Lp) (i mi : Int) (mqr maa mtc mrd mra : Bool) (mop mrc : Int) (mq : List (List UInt8 × (Int × Int))) (man mns mar : List (List UInt8 × (Int × (Int × (Int × List UInt8))))) (ni : Int) (nqr naa ntc nrd nra : Bool) (nop nrc : Int) (nq : List (List UInt8 × (Int × Int))) (nan nns nar : List (List UInt8 × (Int × (Int × (Int × List UInt8))))) : evC T0 orc lp b40 0 (stOf [2, 3, 5] [.ptr 0 0, .ptr 1 0, .int .i64 i] [.box [.int .u16 mi, .bool mqr, .bool maa, .bool mtc, .bool mrd, .bool mra, .int .i64 mop, .int .i64 mrc, .list QQ mq, .list RR man, .list RR mns, .list RR mar], .box [.int .u16 ni, .bool nqr, .bool naa, .bool ntc, .bool nrd, .bool nra, .int .i64 nop, .int .i64 nrc, .list QQ nq, .list RR nan, .list RR nns, .list RR nar]]) (roundK [2, 3, 5] [2, 3, 4] 0) = (r40 i mi mqr maa mtc mrd mra mop mrc mq man mns mar ni nqr naa ntc nrd nra nop nrc nq nan nns nar).get := by kernel_rfl
theorem wf40 (orc : Orc) (mi : Int) (mqr maa mtc mrd mra : Bool) (mop mrc : Int) (mq : List (List UInt8 × (Int × Int))) (man mns mar : List (List UInt8 × (Int × (Int × (Int × List UInt8))))) (ni : Int) (nqr naa ntc nrd nra : Bool) (nop nrc : Int) (nq : List (List UInt8 × (Int × Int))) (nan nns nar : List (List UInt8 × (Int × (Int × (Int × List UInt8))))) (I'' : Int → Prop) (m'' : Int → Nat) (r'' : Ex × St) (h : ∀ (i : Int), I'' i → (r40 i mi mqr maa mtc mrd mra mop mrc mq man mns mar ni nqr naa ntc nrd nra nop nrc nq nan nns nar).all fun x'' => x'' = .inr r'' ∨ ∃ (i' : Int), x'' = .inl (stOf [2, 3, 5] [.ptr 0 0, .ptr 1 0, .int .i64 i'] [.box [.int .u16 mi, .bool mqr, .bool maa, .bool mtc, .bool mrd, .bool mra, .int .i64 mop, .int .i64 mrc, .list QQ mq, .list RR man, .list RR mns, .list RR mar], .box [.int .u16 ni, .bool nqr, .bool naa, .bool ntc, .bool nrd, .bool nra, .int .i64 nop, .int .i64 nrc, .list QQ nq, .list RR nan, .list RR nns, .list RR nar]]) ∧ I'' i' ∧ m'' i' < m'' i) (lp : Lp) (i : Int) : I'' i →
    loopF (fun st => evC T0 orc lp b40 0 st (roundK [2, 3, 5] [2, 3, 4] 0)) (stOf [2, 3, 5] [.ptr 0 0, .ptr 1 0, .int .i64 i] [.box [.int .u16 mi, .bool mqr, .bool maa, .bool mtc, .bool mrd, .bool mra, .int .i64 mop, .int .i64 mrc, .list QQ mq, .list RR man, .list RR mns, .list RR mar], .box [.int .u16 ni, .bool nqr, .bool naa, .bool ntc, .bool nrd, .bool nra, .int .i64 nop, .int .i64 nrc, .list QQ nq, .list RR nan, .list RR nns, .list RR nar]]) = some r'' :=
 loop_tr (fun a'' : Int => stOf [2, 3, 5] [.ptr 0 0, .ptr 1 0, .int .i64 a''] [.box [.int .u16 mi, .bool mqr, .bool maa, .bool mtc, .bool mrd, .bool mra, .int .i64 mop, .int .i64 mrc, .list QQ mq, .list RR man, .list RR mns, .list RR mar], .box [.int .u16 ni, .bool nqr, .bool naa, .bool ntc, .bool nrd, .bool nra, .int .i64 nop, .int .i64 nrc, .list QQ nq, .list RR nan, .list RR nns, .list RR nar]]) (fun a'' => I'' a'') (fun a'' => m'' a'') r'' (fun a'' => r40 a'' mi mqr maa mtc mrd mra mop mrc mq man mns mar ni nqr naa ntc nrd nra nop nrc nq nan nns nar)
  (fun a'' x hx => (round40 orc lp a'' mi mqr maa mtc mrd mra mop mrc mq man mns mar ni nqr naa ntc nrd nra nop nrc nq nan nns nar).trans hx) (fun a'' ha => Tr.all_mono (fun x'' hx => hx.imp id fun ⟨i', h1, h2, h3⟩ => ⟨(i'), h1, h2, h3⟩) (h (a'') ha)) (i)
def qqB (x y : QQt) : Bool := x.1 == y.1 && (x.2.1 == y.2.1 && (x.2.2 == y.2.2 && true))
theorem qqB_iff (x y : QQt) : qqB x y = decide (x = y) := by
 obtain ⟨a, b, c⟩ := x
 obtain ⟨a', b', c'⟩ := y
 unfold qqB
 by_cases h : (a, b, c) = (a', b', c')
 · rw [decide_eq_true h]
   cases h
   simp
 · rw [decide_eq_false h]
   simp only [Prod.mk.injEq] at h
   cases h1 : (a == a' && (b == b' && (c == c' && true)))
   · rfl
   · simp only [Bool.and_eq_true, beq_iff_eq] at h1
     exact absurd ⟨h1.1, h1.2.1, h1.2.2.1⟩ h
theorem loop40 (orc : Orc) : ls40.Ok T0 orc h40 0 0 b40 := by
 intro q'' hq'' x'' y'' r'' h
 obtain ⟨(i : Int), _⟩ := x''
 obtain ⟨⟨(mi : Int), (mqr : Bool), (maa : Bool), (mtc : Bool), (mrd : Bool), (mra : Bool), (mop : Int), (mrc : Int), (mq : List (List UInt8 × (Int × Int))), (man : List (List UInt8 × (Int × (Int × (Int × List UInt8))))), (mns : List (List UInt8 × (Int × (Int × (Int × List UInt8))))), (mar : List (List UInt8 × (Int × (Int × (Int × List UInt8))))), _⟩, ⟨(ni : Int), (nqr : Bool), (naa : Bool), (ntc : Bool), (nrd : Bool), (nra : Bool), (nop : Int), (nrc : Int), (nq : List (List UInt8 × (Int × Int))), (nan : List (List UInt8 × (Int × (Int × (Int × List UInt8))))), (nns : List (List UInt8 × (Int × (Int × (Int × List UInt8))))), (nar : List (List UInt8 × (Int × (Int × (Int × List UInt8))))), _⟩, _⟩ := y''
 obtain ⟨hc, rfl⟩ := Tr.get_on2 h
 show loopF (fun st => evC T0 orc (lpN T0 orc h40 0 q'') b40 0 st (roundK [2, 3, 5] [2, 3, 4] 0)) (stOf [2, 3, 5] [.ptr 0 0, .ptr 1 0, .int .i64 i] [.box [.int .u16 mi, .bool mqr, .bool maa, .bool mtc, .bool mrd, .bool mra, .int .i64 mop, .int .i64 mrc, .list QQ mq, .list RR man, .list RR mns, .list RR mar], .box [.int .u16 ni, .bool nqr, .bool naa, .bool ntc, .bool nrd, .bool nra, .int .i64 nop, .int .i64 nrc, .list QQ nq, .list RR nan, .list RR nns, .list RR nar]]) = some ((bif decide (mq = nq) then (.exit 0, [.ptr 0 0, .ptr 1 0, .dead], [.box [.int .u16 mi, .bool mqr, .bool maa, .bool mtc, .bool mrd, .bool mra, .int .i64 mop, .int .i64 mrc, .list QQ mq, .list RR man, .list RR mns, .list RR mar], .box [.int .u16 ni, .bool nqr, .bool naa, .bool ntc, .bool nrd, .bool nra, .int .i64 nop, .int .i64 nrc, .list QQ nq, .list RR nan, .list RR nns, .list RR nar]]) else (.ret, [.ptr 0 0, .ptr 1 0, .bool false], [.box [.int .u16 mi, .bool mqr, .bool maa, .bool mtc, .bool mrd, .bool mra, .int .i64 mop, .int .i64 mrc, .list QQ mq, .list RR man, .list RR mns, .list RR mar], .box [.int .u16 ni, .bool nqr, .bool naa, .bool ntc, .bool nrd, .bool nra, .int .i64 nop, .int .i64 nrc, .list QQ nq, .list RR nan, .list RR nns, .list RR nar]]) : Ex × List AV × List LObj).1, stOf [2, 3, 4] (bif decide (mq = nq) then (.exit 0, [.ptr 0 0, .ptr 1 0, .dead], [.box [.int .u16 mi, .bool mqr, .bool maa, .bool mtc, .bool mrd, .bool mra, .int .i64 mop, .int .i64 mrc, .list QQ mq, .list RR man, .list RR mns, .list RR mar], .box [.int .u16 ni, .bool nqr, .bool naa, .bool ntc, .bool nrd, .bool nra, .int .i64 nop, .int .i64 nrc, .list QQ nq, .list RR nan, .list RR nns, .list RR nar]]) else (.ret, [.ptr 0 0, .ptr 1 0, .bool false], [.box [.int .u16 mi, .bool mqr, .bool maa, .bool mtc, .bool mrd, .bool mra, .int .i64 mop, .int .i64 mrc, .list QQ mq, .list RR man, .list RR mns, .list RR mar], .box [.int .u16 ni, .bool nqr, .bool naa, .bool ntc, .bool nrd, .bool nra, .int .i64 nop, .int .i64 nrc, .list QQ nq, .list RR nan, .list RR nns, .list RR nar]]) : Ex × List AV × List LObj).2.1 (bif decide (mq = nq) then (.exit 0, [.ptr 0 0, .ptr 1 0, .dead], [.box [.int .u16 mi, .bool mqr, .bool maa, .bool mtc, .bool mrd, .bool mra, .int .i64 mop, .int .i64 mrc, .list QQ mq, .list RR man, .list RR mns, .list RR mar], .box [.int .u16 ni, .bool nqr, .bool naa, .bool ntc, .bool nrd, .bool nra, .int .i64 nop, .int .i64 nrc, .list QQ nq, .list RR nan, .list RR nns, .list RR nar]]) else (.ret, [.ptr 0 0, .ptr 1 0, .bool false], [.box [.int .u16 mi, .bool mqr, .bool maa, .bool mtc, .bool mrd, .bool mra, .int .i64 mop, .int .i64 mrc, .list QQ mq, .list RR man, .list RR mns, .list RR mar], .box [.int .u16 ni, .bool nqr, .bool naa, .bool ntc, .bool nrd, .bool nra, .int .i64 nop, .int .i64 nrc, .list QQ nq, .list RR nan, .list RR nns, .list RR nar]]) : Ex × List AV × List LObj).2.2)
 simp only [sqC, Bool.and_eq_true, decide_eq_true_eq] at hc
 obtain ⟨hq, hl, rfl⟩ := hc
 have hl := Nat.le_of_ble_eq_true hl
 refine wf40 _ mi mqr maa mtc mrd mra mop mrc mq man mns mar ni nqr naa ntc nrd nra nop nrc nq nan nns nar (fun i => 0 ≤ i ∧ i ≤ mq.length ∧ decide (mq.drop i.toNat = nq.drop i.toNat) = decide (mq = nq)) (fun i => (mq.length - i).toNat) _ ?_ _ 0 ⟨by omega, by omega, rfl⟩
 rintro i ⟨h0, h1, he⟩
 unfold r40
 rw [wrap_succ h0 h1 (by omega)]
 by_cases hi : i < mq.length
 · rw [drop_cons2 (l := mq) (k := i.toNat) (by omega) (Ty.dflt QQ), drop_cons2 (l := nq) (k := i.toNat) (by omega) (Ty.dflt QQ)] at he
   generalize mq.getD i.toNat (Ty.dflt QQ) = x at *
   generalize nq.getD i.toNat (Ty.dflt QQ) = y at *
   have hb := qqB_iff x y
   unfold qqB at hb
   rw [hb]
   refine Tr.all_t (dec_true hi) (Tr.all_t (dec_true h0) (Tr.all_t (dec_true hi) (Tr.all_t (dec_true h0) (Tr.all_t (dec_true (by omega)) ?_))))
   by_cases hxy : x = y
   · rw [decide_eq_true hxy]
     refine Tr.all_f rfl (Tr.all_ret (.inr ⟨_, rfl, ⟨by omega, by omega, ?_⟩, by omega⟩))
     rw [show (i + 1).toNat = i.toNat + 1 by omega, ← he]
     by_cases h2 : mq.drop (i.toNat + 1) = nq.drop (i.toNat + 1)
     · rw [decide_eq_true h2, decide_eq_true (by rw [hxy, h2])]
     · rw [decide_eq_false h2, decide_eq_false (fun e => h2 (List.cons.inj e).2)]
   · rw [decide_eq_false hxy]
     refine Tr.all_t rfl (Tr.all_ret (.inl ?_))
     rw [← he, decide_eq_false (fun e => hxy (List.cons.inj e).1)]
     rfl
 · refine Tr.all_f (dec_false hi) (Tr.all_ret (.inl ?_))
   rw [List.drop_eq_nil_of_le (by omega), List.drop_eq_nil_of_le (by omega)] at he
   rw [← he]
   rfl
def t40 (m n : (Int × (Bool × (Bool × (Bool × (Bool × (Bool × (Int × (Int × (List (List UInt8 × (Int × Int)) × (List (List UInt8 × (Int × (Int × (Int × List UInt8)))) × (List (List UInt8 × (Int × (Int × (Int × List UInt8)))) × List (List UInt8 × (Int × (Int × (Int × List UInt8)))))))))))))))) : Tr Res := .br ((↑m.2.2.2.2.2.2.2.2.1.length : Int) != (↑n.2.2.2.2.2.2.2.2.1.length : Int)) (.ret ([.bool false], [])) (.br (Nat.ble m.2.2.2.2.2.2.2.2.2.1.length 1000000) (.br (!decide (m.2.2.2.2.2.2.2.2.2.1 = n.2.2.2.2.2.2.2.2.2.1)) (.ret ([.bool false], [])) (.br (Nat.ble m.2.2.2.2.2.2.2.2.2.2.1.length 1000000) (.br (!decide (m.2.2.2.2.2.2.2.2.2.2.1 = n.2.2.2.2.2.2.2.2.2.2.1)) (.ret ([.bool false], [])) (.br (Nat.ble m.2.2.2.2.2.2.2.2.2.2.2.length 1000000) (.br (!decide (m.2.2.2.2.2.2.2.2.2.2.2 = n.2.2.2.2.2.2.2.2.2.2.2)) (.ret ([.bool false], [])) (.br (sqC m.2.2.2.2.2.2.2.2.1 n.2.2.2.2.2.2.2.2.1 0) (.br (decide (m.2.2.2.2.2.2.2.2.1 = n.2.2.2.2.2.2.2.2.1)) (.br (m.1 == n.1) (.br (m.2.1 == n.2.1) (.br (m.2.2.1 == n.2.2.1) (.br (m.2.2.2.1 == n.2.2.2.1) (.br (m.2.2.2.2.1 == n.2.2.2.2.1) (.br (m.2.2.2.2.2.1 == n.2.2.2.2.2.1) (.br (m.2.2.2.2.2.2.1 == n.2.2.2.2.2.2.1) (.ret ([.bool (m.2.2.2.2.2.2.2.1 == n.2.2.2.2.2.2.2.1)], [])) (.ret ([.bool false], []))) (.ret ([.bool false], []))) (.ret ([.bool false], []))) (.ret ([.bool false], []))) (.ret ([.bool false], []))) (.ret ([.bool false], []))) (.ret ([.bool false], []))) (.ret ([.bool false], []))) .no)) .no)) .no)) .no)
def os40 : OSpec := { f := 40, sh := [.d MG true, .d MG true], so := [], F := fun (m, n, _) _ => t40 m n }
theorem fn40 (m n : (Int × (Bool × (Bool × (Bool × (Bool × (Bool × (Int × (Int × (List (List UInt8 × (Int × Int)) × (List (List UInt8 × (Int × (Int × (Int × List UInt8)))) × (List (List UInt8 × (Int × (Int × (Int × List UInt8)))) × List (List UInt8 × (Int × (Int × (Int × List UInt8)))))))))))))))) : evC T0 (orcB [fs84w] []) (lpOf h40 0 (lsOf [ls40])) c40 1000000 (startSt [AV.ofTy MG m true, AV.ofTy MG n true] [] Try.f40.ntmps) (finishK T0 false 0 Try.f40) = (t40 m n).get := by kernel_rfl
theorem ok40 : os40.Ok Try.prog := by
 refine os_ok mixed0 tab0 (orcB_sound (all_cons okf84w all_nil) all_nil) h40 (d := 0) (n0 := 0) (S := lsOf [ls40]) Try.func40 (by kernel_rfl) (c := c40) (by kernel_rfl) rfl (loops_eq (xs := [(0, b40)]) (by kernel_rfl) (all_cons (ls_here (loop40 _)) all_nil)) (by omega) (by kernel_rfl) ?_
 intro x'' y'' q'' hq''
 obtain ⟨(m : (Int × (Bool × (Bool × (Bool × (Bool × (Bool × (Int × (Int × (List (List UInt8 × (Int × Int)) × (List (List UInt8 × (Int × (Int × (Int × List UInt8)))) × (List (List UInt8 × (Int × (Int × (Int × List UInt8)))) × List (List UInt8 × (Int × (Int × (Int × List UInt8)))))))))))))))), (n : (Int × (Bool × (Bool × (Bool × (Bool × (Bool × (Int × (Int × (List (List UInt8 × (Int × Int)) × (List (List UInt8 × (Int × (Int × (Int × List UInt8)))) × (List (List UInt8 × (Int × (Int × (Int × List UInt8)))) × List (List UInt8 × (Int × (Int × (Int × List UInt8)))))))))))))))), _⟩ := x''
 exact (fn40 m n).trans hq''
def fs40 : FSpec := fsT 40 [(MG, true), (MG, true)] [(.bool, false)] fun (m, n, _) => t40 m n
theorem okf40 : fs40.Ok Try.prog := fsT_ok fun x'' r'' hr'' => ok40 x'' () r'' hr''
instance decLQQ : DecidableEq (List QQt) := inferInstance
instance decM3 : DecidableEq (List RRt × (List RRt × List RRt)) := inferInstance
instance decM4 : DecidableEq (List QQt × (List RRt × (List RRt × List RRt))) := inferInstance
instance decM6 : DecidableEq (Int × (Int × (List QQt × (List RRt × (List RRt × List RRt))))) := inferInstance
instance decM9 : DecidableEq (Bool × (Bool × (Bool × (Int × (Int × (List QQt × (List RRt × (List RRt × List RRt)))))))) := inferInstance
instance decMG : DecidableEq MGt := inferInstanceAs (DecidableEq (Int × (Bool × (Bool × (Bool × (Bool × (Bool × (Int × (Int × (List QQt × (List RRt × (List RRt × List RRt))))))))))))
def mQ (m : MGt) : List QQt := m.2.2.2.2.2.2.2.2.1
def mAn (m : MGt) : List RRt := m.2.2.2.2.2.2.2.2.2.1
def mNs (m : MGt) : List RRt := m.2.2.2.2.2.2.2.2.2.2.1
def mAr (m : MGt) : List RRt := m.2.2.2.2.2.2.2.2.2.2.2
def fewM (m : MGt) : Bool := decide ((mQ m).length ≤ 20) && (decide ((mAn m).length ≤ 20) && (decide ((mNs m).length ≤ 20) && (decide ((mAr m).length ≤ 20) && (rrFew (mAn m ++ mNs m ++ mAr m) && qFew (mQ m)))))
def fs35w : FSpec := fs35.like fun (m, _) => .ret (fewM m, ())
theorem okf35w : fs35w.Ok Try.prog := by
 refine flike_ok okf35 _ ?_
 rintro ⟨(m : MGt), _⟩ y h
 cases h
 refine convR_of (vs := [.bool (fewM m)]) rfl rfl (Tr.get_of_all ?_)
 show (t35 m).all _
 unfold t35
 rw [List.nil_append]
 show Tr.all _ (Tr.br (decide (((mQ m).length : Int) > 20)) _ (Tr.br (decide (((mAn m).length : Int) > 20)) _ (Tr.br (decide (((mNs m).length : Int) > 20)) _ (Tr.br (decide (((mAr m).length : Int) > 20)) _ (Tr.br (fits (0 + (mAn m).length) 40) (Tr.br (fits ((mAn m).length + (mNs m).length) 40) (Tr.br (fits ((mAn m ++ mNs m).length + (mAr m).length) 40) (Tr.br (fmC (mAn m ++ mNs m ++ mAr m) 0) (Tr.br (rrFew (mAn m ++ mNs m ++ mAr m)) (Tr.br (fqC (mQ m) 0) (Tr.br (qFew (mQ m)) _ _) _) _) _) _) _) _)))))
 unfold fewM
 generalize mQ m = q
 generalize mAn m = an
 generalize mNs m = ns
 generalize mAr m = ar
 by_cases h1 : q.length ≤ 20
 · by_cases h2 : an.length ≤ 20
   · by_cases h3 : ns.length ≤ 20
     · by_cases h4 : ar.length ≤ 20
       · rw [dec_true h1, dec_true h2, dec_true h3, dec_true h4]
         simp only [Bool.true_and]
         have hl1 : (an ++ ns).length = an.length + ns.length := List.length_append
         refine Tr.all_f (dec_false (by omega)) (Tr.all_f (dec_false (by omega)) (Tr.all_f (dec_false (by omega)) (Tr.all_f (dec_false (by omega)) (Tr.all_t (fits_true (by omega) (by omega)) (Tr.all_t (fits_true (by omega) (by omega)) (Tr.all_t (fits_true (by omega) (by omega)) (Tr.all_t (by unfold fmC; rw [Nat.ble_eq_true_of_le (by rw [List.length_append]; omega)]; rfl) (Tr.all_br (fun c => ?_) fun c => Tr.all_ret (by rw [c]; rfl)))))))))
         rw [c]
         exact Tr.all_t (by unfold fqC; rw [Nat.ble_eq_true_of_le (by omega)]; rfl) (Tr.all_br (fun d => Tr.all_ret (by rw [d]; rfl)) fun d => Tr.all_ret (by rw [d]; rfl))
       · rw [dec_false h4]
         simp only [Bool.false_and, Bool.and_false]
         exact Tr.all_f (dec_false (by omega)) (Tr.all_f (dec_false (by omega)) (Tr.all_f (dec_false (by omega)) (Tr.all_t (dec_true (by omega)) (Tr.all_ret rfl))))
     · rw [dec_false h3]
       simp only [Bool.false_and, Bool.and_false]
       exact Tr.all_f (dec_false (by omega)) (Tr.all_f (dec_false (by omega)) (Tr.all_t (dec_true (by omega)) (Tr.all_ret rfl)))
   · rw [dec_false h2]
     simp only [Bool.false_and, Bool.and_false]
     exact Tr.all_f (dec_false (by omega)) (Tr.all_t (dec_true (by omega)) (Tr.all_ret rfl))
 · rw [dec_false h1]
   simp only [Bool.false_and]
   exact Tr.all_t (dec_true (by omega)) (Tr.all_ret rfl)
def smM (m : MGt) : Bool := Nat.ble (mQ m).length 1000000 && (Nat.ble (mAn m).length 1000000 && (Nat.ble (mNs m).length 1000000 && Nat.ble (mAr m).length 1000000))
def fs40w : FSpec := fs40.like fun (m, n, _) => .on (smM m) (decide (m = n), ())
theorem okf40w : fs40w.Ok Try.prog := by
 refine flike_ok okf40 _ ?_
 rintro ⟨(m : MGt), (n : MGt), _⟩ y h
 obtain ⟨hb, rfl⟩ := Tr.get_on h
 have hb : smM m = true := hb
 unfold smM at hb
 rw [Bool.and_eq_true, Bool.and_eq_true, Bool.and_eq_true] at hb
 obtain ⟨b1, b2, b3, b4⟩ := hb
 refine convR_of (vs := [.bool (decide (m = n))]) rfl rfl (Tr.get_of_all ?_)
 show (t40 m n).all _
 unfold t40
 by_cases e : m = n
 · subst e
   have hs : sqC (mQ m) (mQ m) 0 = true := by unfold sqC; rw [b1, decide_eq_true rfl]; rfl
   refine Tr.all_f (by simp) (Tr.all_t b2 (Tr.all_f (by simp) (Tr.all_t b3 (Tr.all_f (by simp) (Tr.all_t b4 (Tr.all_f (by simp) (Tr.all_t hs (Tr.all_t (by simp) (Tr.all_t (by simp) (Tr.all_t (by simp) (Tr.all_t (by simp) (Tr.all_t (by simp) (Tr.all_t (by simp) (Tr.all_t (by simp) (Tr.all_t (by simp) (Tr.all_ret (by simp)))))))))))))))))
 · rw [decide_eq_false e]
   refine Tr.all_br (fun _ => Tr.all_ret rfl) fun c1 => Tr.all_t b2 (Tr.all_br (fun _ => Tr.all_ret rfl) fun c2 => Tr.all_t b3 (Tr.all_br (fun _ => Tr.all_ret rfl) fun c3 => Tr.all_t b4 (Tr.all_br (fun _ => Tr.all_ret rfl) fun c4 => Tr.all_t ?_ (Tr.all_br (fun c5 => Tr.all_br (fun c6 => Tr.all_br (fun c7 => Tr.all_br (fun c8 => Tr.all_br (fun c9 => Tr.all_br (fun c10 => Tr.all_br (fun c11 => Tr.all_br (fun c12 => Tr.all_ret ?_) fun _ => Tr.all_ret rfl) fun _ => Tr.all_ret rfl) fun _ => Tr.all_ret rfl) fun _ => Tr.all_ret rfl) fun _ => Tr.all_ret rfl) fun _ => Tr.all_ret rfl) fun _ => Tr.all_ret rfl) fun _ => Tr.all_ret rfl))))
   · have : (mQ m).length = (mQ n).length := by
       have c1 : (((mQ m).length : Int) != ((mQ n).length : Int)) = false := c1
       simp at c1
       omega
     show sqC (mQ m) (mQ n) 0 = true
     unfold sqC
     rw [b1, decide_eq_true this]
     rfl
   · cases hx : (Prod.fst (Prod.snd (Prod.snd (Prod.snd (Prod.snd (Prod.snd (Prod.snd (Prod.snd m))))))) == Prod.fst (Prod.snd (Prod.snd (Prod.snd (Prod.snd (Prod.snd (Prod.snd (Prod.snd n)))))))) with
     | false => rfl
     | true =>
       refine absurd ?_ e
       obtain ⟨a0, a1, a2, a3, a4, a5, a6, a7, a8, a9, a10, a11⟩ := m
       obtain ⟨d0, d1, d2, d3, d4, d5, d6, d7, d8, d9, d10, d11⟩ := n
       simp only [Bool.not_eq_false', decide_eq_true_eq, beq_iff_eq] at c2 c3 c4 c5 c6 c7 c8 c9 c10 c11 c12 hx
       simp only [Prod.mk.injEq]
       exact ⟨c6, c7, c8, c9, c10, c11, c12, hx, c5, c2, c3, c4⟩
def t79 (r : RRt) : Tr Res := .br (rrBig r) (.ret ([.bool !recV r], [])) .no
def os79 : OSpec := { f := 79, sh := [.d RR true], so := [], F := fun (r, _) _ => t79 r }
theorem fn79 (r : RRt) : evC T0 (orcB [fs17w, fs31w] []) (lpOf h79 0 (lsOf [])) c79 1000000 (startSt [AV.ofTy RR r true] [] Try.f79.ntmps) (finishK T0 false 0 Try.f79) = (t79 r).get := by kernel_rfl
theorem ok79 : os79.Ok Try.prog := by
 refine os_ok mixed0 tab0 (orcB_sound (all_cons okf17w (all_cons okf31w all_nil)) all_nil) h79 (d := 0) (n0 := 0) (S := lsOf []) Try.func79 (by kernel_rfl) (c := c79) (by kernel_rfl) rfl (no_loops (by kernel_rfl)) (by omega) (by kernel_rfl) ?_
 intro x'' y'' q'' hq''
 obtain ⟨(r : RRt), _⟩ := x''
 exact (fn79 r).trans hq''
def t82 (q : QQt) : Tr Res := .br (bigS q.1) (.ret ([.bool !mayV q.1], [])) .no
def os82 : OSpec := { f := 82, sh := [.d QQ true], so := [], F := fun (q, _) _ => t82 q }
theorem fn82 (q : QQt) : evC T0 (orcB [fs17w, fs31w] []) (lpOf h82 0 (lsOf [])) c82 1000000 (startSt [AV.ofTy QQ q true] [] Try.f82.ntmps) (finishK T0 false 0 Try.f82) = (t82 q).get := by kernel_rfl
theorem ok82 : os82.Ok Try.prog := by
 refine os_ok mixed0 tab0 (orcB_sound (all_cons okf17w (all_cons okf31w all_nil)) all_nil) h82 (d := 0) (n0 := 0) (S := lsOf []) Try.func82 (by kernel_rfl) (c := c82) (by kernel_rfl) rfl (no_loops (by kernel_rfl)) (by omega) (by kernel_rfl) ?_
 intro x'' y'' q'' hq''
 obtain ⟨(q : QQt), _⟩ := x''
 exact (fn82 q).trans hq''
def idxL {α : Type} (f : α → Bool) : List α → Nat → Int
 | [], _ => -1
 | x :: l, k => if f x = true then (k : Int) else idxL f l (k + 1)
def noR (r : RRt) : Bool := !recV r
def noQ (q : QQt) : Bool := !mayV q.1
def bigQ (q : QQt) : Bool := bigS q.1
def ixRC (l : List RRt) (m i : Int) : Bool := Nat.ble l.length 1000000 && (l.all rrBig && (decide (m = (l.length : Int)) && decide (i = 0)))
def ixQC (l : List QQt) (m i : Int) : Bool := Nat.ble l.length 1000000 && (l.all bigQ && (decide (m = (l.length : Int)) && decide (i = 0)))
noncomputable def b114m : Code := nthLoop c114 0
def ls114m : LoopSpec := { bid := 0, sh := [.d (.list RR) false, .fnp 79 [], .d (.int .i64) false, .d (.int .i64) false], so := [], F := fun (l, m, i, _) _ => .on2 (ixRC l m i) (decide (idxL noR l 0 < 0)) (.exit 0, [.dead], []) (.ret, [.int .i64 (idxL noR l 0)], []) }
def r114m (l : List RRt) (m i : Int) : Tr (St ⊕ (Ex × St)) := .br (decide (i < m)) (.br (decide (0 ≤ i)) (.br (decide (i < (↑l.length : Int))) (.br (rrBig (l.getD i.toNat (Ty.dflt RR))) (.br (!recV (l.getD i.toNat (Ty.dflt RR))) (.ret (.inr (.ret, stOf [4] [.int .i64 i] []))) (.ret (.inl (stOf [0, 1, 7, 8] [.list RR l, AV.fn 79 [], .int .i64 m, .int .i64 (IntKind.wrap .i64 (i + 1))] [])))) .no) .no) .no) (.ret (.inr (.exit 0, stOf [4] [.dead] [])))
theorem round114m (lp : Lp) (l : List RRt) (m i : Int) : evC T0 (orcB [] [os79, os82]) lp b114m 0 (stOf [0, 1, 7, 8] [.list RR l, .fn 79 [], .int .i64 m, .int .i64 i] []) (roundK [0, 1, 7, 8] [4] 0) = (r114m l m i).get := by kernel_rfl
theorem wf114m (l : List RRt) (m : Int) (I'' : Int → Prop) (m'' : Int → Nat) (r'' : Ex × St) (h : ∀ (i : Int), I'' i → (r114m l m i).all fun x'' => x'' = .inr r'' ∨ ∃ (i' : Int), x'' = .inl (stOf [0, 1, 7, 8] [.list RR l, .fn 79 [], .int .i64 m, .int .i64 i'] []) ∧ I'' i' ∧ m'' i' < m'' i) (lp : Lp) (i : Int) : I'' i →
    loopF (fun st => evC T0 (orcB [] [os79, os82]) lp b114m 0 st (roundK [0, 1, 7, 8] [4] 0)) (stOf [0, 1, 7, 8] [.list RR l, .fn 79 [], .int .i64 m, .int .i64 i] []) = some r'' :=
 loop_tr (fun a'' : Int => stOf [0, 1, 7, 8] [.list RR l, .fn 79 [], .int .i64 m, .int .i64 a''] []) (fun a'' => I'' a'') (fun a'' => m'' a'') r'' (fun a'' => r114m l m a'')
  (fun a'' x hx => (round114m lp l m a'').trans hx) (fun a'' ha => Tr.all_mono (fun x'' hx => hx.imp id fun ⟨i', h1, h2, h3⟩ => ⟨(i'), h1, h2, h3⟩) (h (a'') ha)) (i)
noncomputable def b115m : Code := nthLoop c115 0
def ls115m : LoopSpec := { bid := 0, sh := [.d (.list QQ) false, .fnp 82 [], .d (.int .i64) false, .d (.int .i64) false], so := [], F := fun (l, m, i, _) _ => .on2 (ixQC l m i) (decide (idxL noQ l 0 < 0)) (.exit 0, [.dead], []) (.ret, [.int .i64 (idxL noQ l 0)], []) }
def r115m (l : List QQt) (m i : Int) : Tr (St ⊕ (Ex × St)) := .br (decide (i < m)) (.br (decide (0 ≤ i)) (.br (decide (i < (↑l.length : Int))) (.br (bigS (l.getD i.toNat (Ty.dflt QQ)).1) (.br (!mayV (l.getD i.toNat (Ty.dflt QQ)).1) (.ret (.inr (.ret, stOf [4] [.int .i64 i] []))) (.ret (.inl (stOf [0, 1, 7, 8] [.list QQ l, AV.fn 82 [], .int .i64 m, .int .i64 (IntKind.wrap .i64 (i + 1))] [])))) .no) .no) .no) (.ret (.inr (.exit 0, stOf [4] [.dead] [])))
theorem round115m (lp : Lp) (l : List QQt) (m i : Int) : evC T0 (orcB [] [os79, os82]) lp b115m 0 (stOf [0, 1, 7, 8] [.list QQ l, .fn 82 [], .int .i64 m, .int .i64 i] []) (roundK [0, 1, 7, 8] [4] 0) = (r115m l m i).get := by kernel_rfl
theorem wf115m (l : List QQt) (m : Int) (I'' : Int → Prop) (m'' : Int → Nat) (r'' : Ex × St) (h : ∀ (i : Int), I'' i → (r115m l m i).all fun x'' => x'' = .inr r'' ∨ ∃ (i' : Int), x'' = .inl (stOf [0, 1, 7, 8] [.list QQ l, .fn 82 [], .int .i64 m, .int .i64 i'] []) ∧ I'' i' ∧ m'' i' < m'' i) (lp : Lp) (i : Int) : I'' i →
    loopF (fun st => evC T0 (orcB [] [os79, os82]) lp b115m 0 st (roundK [0, 1, 7, 8] [4] 0)) (stOf [0, 1, 7, 8] [.list QQ l, .fn 82 [], .int .i64 m, .int .i64 i] []) = some r'' :=
 loop_tr (fun a'' : Int => stOf [0, 1, 7, 8] [.list QQ l, .fn 82 [], .int .i64 m, .int .i64 a''] []) (fun a'' => I'' a'') (fun a'' => m'' a'') r'' (fun a'' => r115m l m a'')
  (fun a'' x hx => (round115m lp l m a'').trans hx) (fun a'' ha => Tr.all_mono (fun x'' hx => hx.imp id fun ⟨i', h1, h2, h3⟩ => ⟨(i'), h1, h2, h3⟩) (h (a'') ha)) (i)
theorem idxL_cases {α : Type} (f : α → Bool) : ∀ (l : List α) (k : Nat), (idxL f l k = -1 ∧ l.any f = false) ∨ ((k : Int) ≤ idxL f l k ∧ l.any f = true)
 | [], k => .inl ⟨rfl, rfl⟩
 | x :: l, k => by
   unfold idxL
   rw [List.any_cons]
   by_cases h : f x = true
   · rw [if_pos h, h]
     exact .inr ⟨Int.le_refl _, rfl⟩
   · rw [if_neg h]
     have h : f x = false := by simpa using h
     rw [h, Bool.false_or]
     rcases idxL_cases f l (k + 1) with ⟨a, b⟩ | ⟨a, b⟩
     · exact .inl ⟨a, b⟩
     · exact .inr ⟨by omega, b⟩
theorem loop114m : ls114m.Ok T0 (orcB [] [os79, os82]) h114 0 0 b114m := by
 intro q'' hq'' x'' y'' r'' h
 obtain ⟨(l : List RRt), (m : Int), (i : Int), _⟩ := x''
 obtain ⟨hc, rfl⟩ := Tr.get_on2 h
 show loopF (fun st => evC T0 (orcB [] [os79, os82]) (lpN T0 (orcB [] [os79, os82]) h114 0 q'') b114m 0 st (roundK [0, 1, 7, 8] [4] 0)) (stOf [0, 1, 7, 8] [.list RR l, .fn 79 [], .int .i64 m, .int .i64 i] []) = some ((bif decide (idxL noR l 0 < 0) then (.exit 0, [.dead], []) else (.ret, [.int .i64 (idxL noR l 0)], []) : Ex × List AV × List LObj).1, stOf [4] (bif decide (idxL noR l 0 < 0) then (.exit 0, [.dead], []) else (.ret, [.int .i64 (idxL noR l 0)], []) : Ex × List AV × List LObj).2.1 (bif decide (idxL noR l 0 < 0) then (.exit 0, [.dead], []) else (.ret, [.int .i64 (idxL noR l 0)], []) : Ex × List AV × List LObj).2.2)
 simp only [ixRC, Bool.and_eq_true, decide_eq_true_eq, List.all_eq_true] at hc
 obtain ⟨hl, hall, rfl, rfl⟩ := hc
 have hl := Nat.le_of_ble_eq_true hl
 refine wf114m l l.length (fun i => 0 ≤ i ∧ i ≤ l.length ∧ idxL noR (l.drop i.toNat) i.toNat = idxL noR l 0) (fun i => (l.length - i).toNat) _ ?_ _ 0 ⟨by omega, by omega, rfl⟩
 rintro i ⟨h0, h1, he⟩
 unfold r114m
 rw [wrap_succ h0 h1 (by omega)]
 by_cases hi : i < l.length
 · have hx := hall _ (mem_getD5 (l := l) (k := i.toNat) (by omega) (Ty.dflt RR))
   rw [drop_cons2 (l := l) (k := i.toNat) (by omega) (Ty.dflt RR), idxL] at he
   generalize l.getD i.toNat (Ty.dflt RR) = x at *
   refine Tr.all_t (dec_true hi) (Tr.all_t (dec_true h0) (Tr.all_t (dec_true hi) (Tr.all_t hx (Tr.all_br (fun h => ?_) fun h => ?_))))
   · have h : noR x = true := h
     rw [if_pos h] at he
     rw [← he, show ((i.toNat : Nat) : Int) = i by omega, dec_false (show ¬ i < 0 by omega)]
     exact Tr.all_ret (.inl rfl)
   · have h : noR x = false := h
     rw [if_neg (by rw [h]; simp)] at he
     exact Tr.all_ret (.inr ⟨_, rfl, ⟨by omega, by omega, by rw [show (i + 1).toNat = i.toNat + 1 by omega]; exact he⟩, by omega⟩)
 · refine Tr.all_f (dec_false hi) (Tr.all_ret (.inl ?_))
   rw [List.drop_eq_nil_of_le (by omega)] at he
   rw [← he]
   rfl
theorem loop115m : ls115m.Ok T0 (orcB [] [os79, os82]) h115 0 0 b115m := by
 intro q'' hq'' x'' y'' r'' h
 obtain ⟨(l : List QQt), (m : Int), (i : Int), _⟩ := x''
 obtain ⟨hc, rfl⟩ := Tr.get_on2 h
 show loopF (fun st => evC T0 (orcB [] [os79, os82]) (lpN T0 (orcB [] [os79, os82]) h115 0 q'') b115m 0 st (roundK [0, 1, 7, 8] [4] 0)) (stOf [0, 1, 7, 8] [.list QQ l, .fn 82 [], .int .i64 m, .int .i64 i] []) = some ((bif decide (idxL noQ l 0 < 0) then (.exit 0, [.dead], []) else (.ret, [.int .i64 (idxL noQ l 0)], []) : Ex × List AV × List LObj).1, stOf [4] (bif decide (idxL noQ l 0 < 0) then (.exit 0, [.dead], []) else (.ret, [.int .i64 (idxL noQ l 0)], []) : Ex × List AV × List LObj).2.1 (bif decide (idxL noQ l 0 < 0) then (.exit 0, [.dead], []) else (.ret, [.int .i64 (idxL noQ l 0)], []) : Ex × List AV × List LObj).2.2)
 simp only [ixQC, Bool.and_eq_true, decide_eq_true_eq, List.all_eq_true] at hc
 obtain ⟨hl, hall, rfl, rfl⟩ := hc
 have hl := Nat.le_of_ble_eq_true hl
 refine wf115m l l.length (fun i => 0 ≤ i ∧ i ≤ l.length ∧ idxL noQ (l.drop i.toNat) i.toNat = idxL noQ l 0) (fun i => (l.length - i).toNat) _ ?_ _ 0 ⟨by omega, by omega, rfl⟩
 rintro i ⟨h0, h1, he⟩
 unfold r115m
 rw [wrap_succ h0 h1 (by omega)]
 by_cases hi : i < l.length
 · have hx := hall _ (mem_getD5 (l := l) (k := i.toNat) (by omega) (Ty.dflt QQ))
   rw [drop_cons2 (l := l) (k := i.toNat) (by omega) (Ty.dflt QQ), idxL] at he
   generalize l.getD i.toNat (Ty.dflt QQ) = x at *
   refine Tr.all_t (dec_true hi) (Tr.all_t (dec_true h0) (Tr.all_t (dec_true hi) (Tr.all_t hx (Tr.all_br (fun h => ?_) fun h => ?_))))
   · have h : noQ x = true := h
     rw [if_pos h] at he
     rw [← he, show ((i.toNat : Nat) : Int) = i by omega, dec_false (show ¬ i < 0 by omega)]
     exact Tr.all_ret (.inl rfl)
   · have h : noQ x = false := h
     rw [if_neg (by rw [h]; simp)] at he
     exact Tr.all_ret (.inr ⟨_, rfl, ⟨by omega, by omega, by rw [show (i + 1).toNat = i.toNat + 1 by omega]; exact he⟩, by omega⟩)
 · refine Tr.all_f (dec_false hi) (Tr.all_ret (.inl ?_))
   rw [List.drop_eq_nil_of_le (by omega)] at he
   rw [← he]
   rfl
def t114m (l : List RRt) : Tr Res := .br (ixRC l (↑l.length : Int) 0) (.br (decide (idxL noR l 0 < 0)) (.ret ([.int .i64 (-1)], [])) (.ret ([.int .i64 (idxL noR l 0)], []))) .no
def os114m : OSpec := { f := 114, sh := [.d (.list RR) false, .fnp 79 []], so := [], F := fun (l, _) _ => t114m l }
theorem fn114m (l : List RRt) : evC T0 (orcB [] [os79, os82]) (lpOf h114 0 (lsOf [ls114m])) c114 1000000 (startSt [.list RR l, .fn 79 []] [] Try.f114.ntmps) (finishK T0 false 0 Try.f114) = (t114m l).get := by kernel_rfl
theorem ok114m : os114m.Ok Try.prog := by
 refine os_ok mixed0 tab0 (orcB_sound all_nil (all_cons ok79 (all_cons ok82 all_nil))) h114 (d := 0) (n0 := 0) (S := lsOf [ls114m]) Try.func114 (by kernel_rfl) (c := c114) (by kernel_rfl) rfl (loops_eq (xs := [(0, b114m)]) (by kernel_rfl) (all_cons (ls_here loop114m) all_nil)) (by omega) (by kernel_rfl) ?_
 intro x'' y'' q'' hq''
 obtain ⟨(l : List RRt), _⟩ := x''
 exact (fn114m l).trans hq''
def os114n : OSpec := os114m.like fun (l, _) _ => .on (Nat.ble l.length 1000000 && l.all rrBig) ([.int .i64 (idxL noR l 0)], [])
theorem ok114n : os114n.Ok Try.prog := by
 refine like_ok ok114m _ ?_
 rintro ⟨(l : List RRt), _⟩ _ r' h
 obtain ⟨hb, rfl⟩ := Tr.get_on h
 obtain ⟨h1, h2⟩ := Bool.and_eq_true_iff.1 (show (Nat.ble l.length 1000000 && l.all rrBig) = true from hb)
 refine Tr.get_of_all ?_
 show (t114m l).all _
 unfold t114m
 refine Tr.all_t (by unfold ixRC; rw [h1, h2, decide_eq_true rfl]; rfl) (Tr.all_br (fun h => Tr.all_ret ?_) fun h => Tr.all_ret rfl)
 have h := of_decide_eq_true h
 rcases idxL_cases noR l 0 with ⟨e, _⟩ | ⟨e, _⟩
 · rw [e]
 · omega
def t115m (l : List QQt) : Tr Res := .br (ixQC l (↑l.length : Int) 0) (.br (decide (idxL noQ l 0 < 0)) (.ret ([.int .i64 (-1)], [])) (.ret ([.int .i64 (idxL noQ l 0)], []))) .no
def os115m : OSpec := { f := 115, sh := [.d (.list QQ) false, .fnp 82 []], so := [], F := fun (l, _) _ => t115m l }
theorem fn115m (l : List QQt) : evC T0 (orcB [] [os79, os82]) (lpOf h115 0 (lsOf [ls115m])) c115 1000000 (startSt [.list QQ l, .fn 82 []] [] Try.f115.ntmps) (finishK T0 false 0 Try.f115) = (t115m l).get := by kernel_rfl
theorem ok115m : os115m.Ok Try.prog := by
 refine os_ok mixed0 tab0 (orcB_sound all_nil (all_cons ok79 (all_cons ok82 all_nil))) h115 (d := 0) (n0 := 0) (S := lsOf [ls115m]) Try.func115 (by kernel_rfl) (c := c115) (by kernel_rfl) rfl (loops_eq (xs := [(0, b115m)]) (by kernel_rfl) (all_cons (ls_here loop115m) all_nil)) (by omega) (by kernel_rfl) ?_
 intro x'' y'' q'' hq''
 obtain ⟨(l : List QQt), _⟩ := x''
 exact (fn115m l).trans hq''
def os115n : OSpec := os115m.like fun (l, _) _ => .on (Nat.ble l.length 1000000 && l.all bigQ) ([.int .i64 (idxL noQ l 0)], [])
theorem ok115n : os115n.Ok Try.prog := by
 refine like_ok ok115m _ ?_
 rintro ⟨(l : List QQt), _⟩ _ r' h
 obtain ⟨hb, rfl⟩ := Tr.get_on h
 obtain ⟨h1, h2⟩ := Bool.and_eq_true_iff.1 (show (Nat.ble l.length 1000000 && l.all bigQ) = true from hb)
 refine Tr.get_of_all ?_
 show (t115m l).all _
 unfold t115m
 refine Tr.all_t (by unfold ixQC; rw [h1, h2, decide_eq_true rfl]; rfl) (Tr.all_br (fun h => Tr.all_ret ?_) fun h => Tr.all_ret rfl)
 have h := of_decide_eq_true h
 rcases idxL_cases noQ l 0 with ⟨e, _⟩ | ⟨e, _⟩
 · rw [e]
 · omega
def t80m (l : List RRt) : Tr Res := .br (Nat.ble l.length 1000000 && List.all l rrBig) (.ret ([.bool (decide (idxL noR l 0 ≥ 0))], [])) .no
def os80m : OSpec := { f := 80, sh := [.d (.list RR) false, .fnp 79 []], so := [], F := fun (l, _) _ => t80m l }
theorem fn80m (l : List RRt) : evC T0 (orcB [] [os114n]) (lpOf h80 0 (lsOf [])) c80 1000000 (startSt [.list RR l, .fn 79 []] [] Try.f80.ntmps) (finishK T0 false 0 Try.f80) = (t80m l).get := by kernel_rfl
theorem ok80m : os80m.Ok Try.prog := by
 refine os_ok mixed0 tab0 (orcB_sound all_nil (all_cons ok114n all_nil)) h80 (d := 0) (n0 := 0) (S := lsOf []) Try.func80 (by kernel_rfl) (c := c80) (by kernel_rfl) rfl (no_loops (by kernel_rfl)) (by omega) (by kernel_rfl) ?_
 intro x'' y'' q'' hq''
 obtain ⟨(l : List RRt), _⟩ := x''
 exact (fn80m l).trans hq''
def os80n : OSpec := os80m.like fun (l, _) _ => .on (Nat.ble l.length 1000000 && l.all rrBig) ([.bool (l.any noR)], [])
theorem ok80n : os80n.Ok Try.prog := by
 refine like_ok ok80m _ ?_
 rintro ⟨(l : List RRt), _⟩ _ r' h
 obtain ⟨hb, rfl⟩ := Tr.get_on h
 refine Tr.get_of_all ?_
 show (t80m l).all _
 unfold t80m
 refine Tr.all_t hb (Tr.all_ret ?_)
 rcases idxL_cases noR l 0 with ⟨e, h⟩ | ⟨e, h⟩
 · rw [e, h]; rfl
 · rw [h, decide_eq_true (by omega)]
def t81m (l : List QQt) : Tr Res := .br (Nat.ble l.length 1000000 && List.all l bigQ) (.ret ([.bool (decide (idxL noQ l 0 ≥ 0))], [])) .no
def os81m : OSpec := { f := 81, sh := [.d (.list QQ) false, .fnp 82 []], so := [], F := fun (l, _) _ => t81m l }
theorem fn81m (l : List QQt) : evC T0 (orcB [] [os115n]) (lpOf h81 0 (lsOf [])) c81 1000000 (startSt [.list QQ l, .fn 82 []] [] Try.f81.ntmps) (finishK T0 false 0 Try.f81) = (t81m l).get := by kernel_rfl
theorem ok81m : os81m.Ok Try.prog := by
 refine os_ok mixed0 tab0 (orcB_sound all_nil (all_cons ok115n all_nil)) h81 (d := 0) (n0 := 0) (S := lsOf []) Try.func81 (by kernel_rfl) (c := c81) (by kernel_rfl) rfl (no_loops (by kernel_rfl)) (by omega) (by kernel_rfl) ?_
 intro x'' y'' q'' hq''
 obtain ⟨(l : List QQt), _⟩ := x''
 exact (fn81m l).trans hq''
def os81n : OSpec := os81m.like fun (l, _) _ => .on (Nat.ble l.length 1000000 && l.all bigQ) ([.bool (l.any noQ)], [])
theorem ok81n : os81n.Ok Try.prog := by
 refine like_ok ok81m _ ?_
 rintro ⟨(l : List QQt), _⟩ _ r' h
 obtain ⟨hb, rfl⟩ := Tr.get_on h
 refine Tr.get_of_all ?_
 show (t81m l).all _
 unfold t81m
 refine Tr.all_t hb (Tr.all_ret ?_)
 rcases idxL_cases noQ l 0 with ⟨e, h⟩ | ⟨e, h⟩
 · rw [e, h]; rfl
 · rw [h, decide_eq_true (by omega)]
def okL (l : List RRt) : Bool := Nat.ble l.length 1000000 && l.all rrBig
def badL (l : List RRt) : Bool := decide ((l.length : Int) > 65535) || l.any noR
def myC (ll : List (List RRt)) (m i : Int) : Bool := ll.all okL && (decide (ll.length ≤ 3) && (decide (m = (ll.length : Int)) && decide (i = 0)))
noncomputable def b38 : Code := nthLoop c38 0
def ls38 : LoopSpec := { bid := 0, sh := [.ptr 0 0, .fnp 79 [], .row 1, .d (.int .i64) false, .d (.int .i64) false], so := [.box [.d (.int .u16) false, .d .bool false, .d .bool false, .d .bool false, .d .bool false, .d .bool false, .d (.int .i64) false, .d (.int .i64) false, .d (.list QQ) false, .d (.list RR) false, .d (.list RR) false, .d (.list RR) false], .row (.list RR)], F := fun (m, i, _) ((mi, mqr, maa, mtc, mrd, mra, mop, mrc, mq, man, mns, mar, _), ll, _) => .on2 (myC ll m i) (!ll.any badL) (.exit 0, [.ptr 0 0, .dead], [.box [.int .u16 mi, .bool mqr, .bool maa, .bool mtc, .bool mrd, .bool mra, .int .i64 mop, .int .i64 mrc, .list QQ mq, .list RR man, .list RR mns, .list RR mar]]) (.ret, [.ptr 0 0, .bool false], [.box [.int .u16 mi, .bool mqr, .bool maa, .bool mtc, .bool mrd, .bool mra, .int .i64 mop, .int .i64 mrc, .list QQ mq, .list RR man, .list RR mns, .list RR mar]]) }
def r38 (m i mi : Int) (mqr maa mtc mrd mra : Bool) (mop mrc : Int) (mq : List QQt) (man mns mar : List RRt) (ll : List (List RRt)) : Tr (St ⊕ (Ex × St)) := .br (decide (i < m)) (.br (decide (0 ≤ i)) (.br (decide (i < (↑ll.length : Int))) (.br (decide ((↑(List.length (ll.getD i.toNat (Ty.dflt (Ty.list RR)))) : Int) > 65535)) (.ret (.inr (.ret, stOf [1, 2] [.ptr 0 0, .bool false] [.boxT none [.int .u16 mi, .bool mqr, .bool maa, .bool mtc, .bool mrd, .bool mra, .int .i64 mop, .int .i64 mrc, .list QQ mq, .list RR man, .list RR mns, .list RR mar]]))) (.br (Nat.ble (List.length (ll.getD i.toNat (Ty.dflt (Ty.list RR)))) 1000000 && List.all (ll.getD i.toNat (Ty.dflt (Ty.list RR))) rrBig) (.br (List.any (ll.getD i.toNat (Ty.dflt (Ty.list RR))) noR) (.ret (.inr (.ret, stOf [1, 2] [.ptr 0 0, .bool false] [.boxT none [.int .u16 mi, .bool mqr, .bool maa, .bool mtc, .bool mrd, .bool mra, .int .i64 mop, .int .i64 mrc, .list QQ mq, .list RR man, .list RR mns, .list RR mar]]))) (.ret (.inl (stOf [1, 3, 12, 13, 14] [.ptr 0 0, AV.fn 79 [], .rowA 1, .int .i64 m, .int .i64 (IntKind.wrap .i64 (i + 1))] [.boxT none [.int .u16 mi, .bool mqr, .bool maa, .bool mtc, .bool mrd, .bool mra, .int .i64 mop, .int .i64 mrc, .list QQ mq, .list RR man, .list RR mns, .list RR mar], .row (Ty.list RR) ll])))) .no)) .no) .no) (.ret (.inr (.exit 0, stOf [1, 2] [.ptr 0 0, .dead] [.boxT none [.int .u16 mi, .bool mqr, .bool maa, .bool mtc, .bool mrd, .bool mra, .int .i64 mop, .int .i64 mrc, .list QQ mq, .list RR man, .list RR mns, .list RR mar]])))
theorem round38 (lp : Lp) (m i mi : Int) (mqr maa mtc mrd mra : Bool) (mop mrc : Int) (mq : List QQt) (man mns mar : List RRt) (ll : List (List RRt)) : evC T0 (orcB [] [os80n, os81n]) lp b38 0 (stOf [1, 3, 12, 13, 14] [.ptr 0 0, .fn 79 [], .rowA 1, .int .i64 m, .int .i64 i] [.box [.int .u16 mi, .bool mqr, .bool maa, .bool mtc, .bool mrd, .bool mra, .int .i64 mop, .int .i64 mrc, .list QQ mq, .list RR man, .list RR mns, .list RR mar], .row (.list RR) ll]) (roundK [1, 3, 12, 13, 14] [1, 2] 0) = (r38 m i mi mqr maa mtc mrd mra mop mrc mq man mns mar ll).get := by kernel_rfl
theorem wf38 (m mi : Int) (mqr maa mtc mrd mra : Bool) (mop mrc : Int) (mq : List QQt) (man mns mar : List RRt) (ll : List (List RRt)) (I'' : Int → Prop) (m'' : Int → Nat) (r'' : Ex × St) (h : ∀ (i : Int), I'' i → (r38 m i mi mqr maa mtc mrd mra mop mrc mq man mns mar ll).all fun x'' => x'' = .inr r'' ∨ ∃ (i' : Int), x'' = .inl (stOf [1, 3, 12, 13, 14] [.ptr 0 0, .fn 79 [], .rowA 1, .int .i64 m, .int .i64 i'] [.box [.int .u16 mi, .bool mqr, .bool maa, .bool mtc, .bool mrd, .bool mra, .int .i64 mop, .int .i64 mrc, .list QQ mq, .list RR man, .list RR mns, .list RR mar], .row (.list RR) ll]) ∧ I'' i' ∧ m'' i' < m'' i) (lp : Lp) (i : Int) : I'' i →
    loopF (fun st => evC T0 (orcB [] [os80n, os81n]) lp b38 0 st (roundK [1, 3, 12, 13, 14] [1, 2] 0)) (stOf [1, 3, 12, 13, 14] [.ptr 0 0, .fn 79 [], .rowA 1, .int .i64 m, .int .i64 i] [.box [.int .u16 mi, .bool mqr, .bool maa, .bool mtc, .bool mrd, .bool mra, .int .i64 mop, .int .i64 mrc, .list QQ mq, .list RR man, .list RR mns, .list RR mar], .row (.list RR) ll]) = some r'' :=
 loop_tr (fun a'' : Int => stOf [1, 3, 12, 13, 14] [.ptr 0 0, .fn 79 [], .rowA 1, .int .i64 m, .int .i64 a''] [.box [.int .u16 mi, .bool mqr, .bool maa, .bool mtc, .bool mrd, .bool mra, .int .i64 mop, .int .i64 mrc, .list QQ mq, .list RR man, .list RR mns, .list RR mar], .row (.list RR) ll]) (fun a'' => I'' a'') (fun a'' => m'' a'') r'' (fun a'' => r38 m a'' mi mqr maa mtc mrd mra mop mrc mq man mns mar ll)
  (fun a'' x hx => (round38 lp m a'' mi mqr maa mtc mrd mra mop mrc mq man mns mar ll).trans hx) (fun a'' ha => Tr.all_mono (fun x'' hx => hx.imp id fun ⟨i', h1, h2, h3⟩ => ⟨(i'), h1, h2, h3⟩) (h (a'') ha)) (i)
theorem any_next {α : Type} {f : α → Bool} {l : List α} {k : Nat} (hk : k < l.length) (x : α) : (l.drop k).any f = (f (l.getD k x) || (l.drop (k + 1)).any f) := by
 rw [drop_cons2 hk x, List.any_cons]
theorem okL_iff {l : List RRt} : okL l = true ↔ l.length ≤ 1000000 ∧ (Nat.ble l.length 1000000 && l.all rrBig) = true := by
 unfold okL
 exact ⟨fun h => ⟨Nat.le_of_ble_eq_true (Bool.and_eq_true_iff.1 h).1, h⟩, fun h => h.2⟩
theorem loop38 : ls38.Ok T0 (orcB [] [os80n, os81n]) h38 0 0 b38 := by
 intro q'' hq'' x'' y'' r'' h
 obtain ⟨(m : Int), (i : Int), _⟩ := x''
 obtain ⟨⟨(mi : Int), (mqr : Bool), (maa : Bool), (mtc : Bool), (mrd : Bool), (mra : Bool), (mop : Int), (mrc : Int), (mq : List QQt), (man : List RRt), (mns : List RRt), (mar : List RRt), _⟩, (ll : List (List RRt)), _⟩ := y''
 obtain ⟨hc, rfl⟩ := Tr.get_on2 h
 show loopF (fun st => evC T0 (orcB [] [os80n, os81n]) (lpN T0 (orcB [] [os80n, os81n]) h38 0 q'') b38 0 st (roundK [1, 3, 12, 13, 14] [1, 2] 0)) (stOf [1, 3, 12, 13, 14] [.ptr 0 0, .fn 79 [], .rowA 1, .int .i64 m, .int .i64 i] [.box [.int .u16 mi, .bool mqr, .bool maa, .bool mtc, .bool mrd, .bool mra, .int .i64 mop, .int .i64 mrc, .list QQ mq, .list RR man, .list RR mns, .list RR mar], .row (.list RR) ll]) = some ((bif !ll.any badL then (.exit 0, [.ptr 0 0, .dead], [.box [.int .u16 mi, .bool mqr, .bool maa, .bool mtc, .bool mrd, .bool mra, .int .i64 mop, .int .i64 mrc, .list QQ mq, .list RR man, .list RR mns, .list RR mar]]) else (.ret, [.ptr 0 0, .bool false], [.box [.int .u16 mi, .bool mqr, .bool maa, .bool mtc, .bool mrd, .bool mra, .int .i64 mop, .int .i64 mrc, .list QQ mq, .list RR man, .list RR mns, .list RR mar]]) : Ex × List AV × List LObj).1, stOf [1, 2] (bif !ll.any badL then (.exit 0, [.ptr 0 0, .dead], [.box [.int .u16 mi, .bool mqr, .bool maa, .bool mtc, .bool mrd, .bool mra, .int .i64 mop, .int .i64 mrc, .list QQ mq, .list RR man, .list RR mns, .list RR mar]]) else (.ret, [.ptr 0 0, .bool false], [.box [.int .u16 mi, .bool mqr, .bool maa, .bool mtc, .bool mrd, .bool mra, .int .i64 mop, .int .i64 mrc, .list QQ mq, .list RR man, .list RR mns, .list RR mar]]) : Ex × List AV × List LObj).2.1 (bif !ll.any badL then (.exit 0, [.ptr 0 0, .dead], [.box [.int .u16 mi, .bool mqr, .bool maa, .bool mtc, .bool mrd, .bool mra, .int .i64 mop, .int .i64 mrc, .list QQ mq, .list RR man, .list RR mns, .list RR mar]]) else (.ret, [.ptr 0 0, .bool false], [.box [.int .u16 mi, .bool mqr, .bool maa, .bool mtc, .bool mrd, .bool mra, .int .i64 mop, .int .i64 mrc, .list QQ mq, .list RR man, .list RR mns, .list RR mar]]) : Ex × List AV × List LObj).2.2)
 simp only [myC, Bool.and_eq_true, decide_eq_true_eq, List.all_eq_true] at hc
 obtain ⟨hall, hl, rfl, rfl⟩ := hc
 refine wf38 ll.length mi mqr maa mtc mrd mra mop mrc mq man mns mar ll (fun i => 0 ≤ i ∧ i ≤ ll.length ∧ (ll.drop i.toNat).any badL = ll.any badL) (fun i => (ll.length - i).toNat) _ ?_ _ 0 ⟨by omega, by omega, rfl⟩
 rintro i ⟨h0, h1, he⟩
 unfold r38
 rw [wrap_succ h0 h1 (by omega)]
 by_cases hi : i < ll.length
 · have hx := (okL_iff.1 (hall _ (mem_getD5 (l := ll) (k := i.toNat) (by omega) (Ty.dflt (Ty.list RR))))).2
   rw [any_next (l := ll) (k := i.toNat) (by omega) (Ty.dflt (Ty.list RR))] at he
   generalize ll.getD i.toNat (Ty.dflt (Ty.list RR)) = x at *
   refine Tr.all_t (dec_true hi) (Tr.all_t (dec_true h0) (Tr.all_t (dec_true hi) (Tr.all_br (fun c => ?_) fun c => Tr.all_t hx (Tr.all_br (fun c2 => ?_) fun c2 => ?_))))
   · have hb : badL x = true := by unfold badL; exact Bool.or_eq_true_iff.2 (.inl c)
     rw [hb] at he
     rw [← he]
     exact Tr.all_ret (.inl rfl)
   · have hb : badL x = true := by unfold badL; exact Bool.or_eq_true_iff.2 (.inr c2)
     rw [hb] at he
     rw [← he]
     exact Tr.all_ret (.inl rfl)
   · have hb : badL x = false := by unfold badL; exact Bool.or_eq_false_iff.2 ⟨c, c2⟩
     rw [hb, Bool.false_or] at he
     exact Tr.all_ret (.inr ⟨_, rfl, ⟨by omega, by omega, by rw [show (i + 1).toNat = i.toNat + 1 by omega]; exact he⟩, by omega⟩)
 · refine Tr.all_f (dec_false hi) (Tr.all_ret (.inl ?_))
   rw [List.drop_eq_nil_of_le (by omega)] at he
   rw [← he]
   rfl
def t38 (m : MGt) : Tr Res := .br (myC [m.2.2.2.2.2.2.2.2.2.1, m.2.2.2.2.2.2.2.2.2.2.1, m.2.2.2.2.2.2.2.2.2.2.2] (↑3 : Int) 0) (.br (!List.any [m.2.2.2.2.2.2.2.2.2.1, m.2.2.2.2.2.2.2.2.2.2.1, m.2.2.2.2.2.2.2.2.2.2.2] badL) (.br (decide (m.2.2.2.2.2.2.1 ≥ 0)) (.br (decide (m.2.2.2.2.2.2.1 ≤ 15)) (.br (decide (m.2.2.2.2.2.2.2.1 ≥ 0)) (.br (decide (m.2.2.2.2.2.2.2.1 ≤ 15)) (.br (decide ((↑m.2.2.2.2.2.2.2.2.1.length : Int) ≤ 65535)) (.br (Nat.ble m.2.2.2.2.2.2.2.2.1.length 1000000 && List.all m.2.2.2.2.2.2.2.2.1 bigQ) (.ret ([.bool !List.any m.2.2.2.2.2.2.2.2.1 noQ], [])) .no) (.ret ([.bool false], []))) (.ret ([.bool false], []))) (.ret ([.bool false], []))) (.ret ([.bool false], []))) (.ret ([.bool false], []))) (.ret ([.bool false], []))) .no
def os38 : OSpec := { f := 38, sh := [.d MG true], so := [], F := fun (m, _) _ => t38 m }
theorem fn38 (m : MGt) : evC T0 (orcB [] [os80n, os81n]) (lpOf h38 0 (lsOf [ls38])) c38 1000000 (startSt [AV.ofTy MG m true] [] Try.f38.ntmps) (finishK T0 false 0 Try.f38) = (t38 m).get := by kernel_rfl
theorem ok38 : os38.Ok Try.prog := by
 refine os_ok mixed0 tab0 (orcB_sound all_nil (all_cons ok80n (all_cons ok81n all_nil))) h38 (d := 0) (n0 := 0) (S := lsOf [ls38]) Try.func38 (by kernel_rfl) (c := c38) (by kernel_rfl) rfl (loops_eq (xs := [(0, b38)]) (by kernel_rfl) (all_cons (ls_here loop38) all_nil)) (by omega) (by kernel_rfl) ?_
 intro x'' y'' q'' hq''
 obtain ⟨(m : MGt), _⟩ := x''
 exact (fn38 m).trans hq''
def fs38 : FSpec := fsT 38 [(MG, true)] [(.bool, false)] fun (m, _) => t38 m
theorem okf38 : fs38.Ok Try.prog := fsT_ok fun x'' r'' hr'' => ok38 x'' () r'' hr''
def alC (l : List RRt) (i : Int) : Bool := Nat.ble l.length 1000000 && (l.all rrBig && decide (i = 0))
noncomputable def b83 : Code := nthLoop c83 0
def ls83 : LoopSpec := { bid := 0, sh := [.d (.list RR) false, .d (.int .i64) false], so := [], F := fun (l, i, _) _ => .on2 (alC l i) (!l.any noR) (.exit 0, [.list RR l, .dead], []) (.ret, [.list RR l, .bool false], []) }
def r83 (l : List RRt) (i : Int) : Tr (St ⊕ (Ex × St)) := .br (decide (i < (↑l.length : Int))) (.br (decide (0 ≤ i)) (.br (decide (i < (↑l.length : Int))) (.br (rrBig (l.getD i.toNat (Ty.dflt RR))) (.br (!recV (l.getD i.toNat (Ty.dflt RR))) (.ret (.inr (.ret, stOf [0, 2] [.list RR l, .bool false] []))) (.ret (.inl (stOf [0, 3] [.list RR l, .int .i64 (IntKind.wrap .i64 (i + 1))] [])))) .no) .no) .no) (.ret (.inr (.exit 0, stOf [0, 2] [.list RR l, .dead] [])))
theorem round83 (lp : Lp) (l : List RRt) (i : Int) : evC T0 (orcB [fs30w, fs32w] []) lp b83 0 (stOf [0, 3] [.list RR l, .int .i64 i] []) (roundK [0, 3] [0, 2] 0) = (r83 l i).get := by kernel_rfl
theorem wf83 (l : List RRt) (I'' : Int → Prop) (m'' : Int → Nat) (r'' : Ex × St) (h : ∀ (i : Int), I'' i → (r83 l i).all fun x'' => x'' = .inr r'' ∨ ∃ (i' : Int), x'' = .inl (stOf [0, 3] [.list RR l, .int .i64 i'] []) ∧ I'' i' ∧ m'' i' < m'' i) (lp : Lp) (i : Int) : I'' i →
    loopF (fun st => evC T0 (orcB [fs30w, fs32w] []) lp b83 0 st (roundK [0, 3] [0, 2] 0)) (stOf [0, 3] [.list RR l, .int .i64 i] []) = some r'' :=
 loop_tr (fun a'' : Int => stOf [0, 3] [.list RR l, .int .i64 a''] []) (fun a'' => I'' a'') (fun a'' => m'' a'') r'' (fun a'' => r83 l a'')
  (fun a'' x hx => (round83 lp l a'').trans hx) (fun a'' ha => Tr.all_mono (fun x'' hx => hx.imp id fun ⟨i', h1, h2, h3⟩ => ⟨(i'), h1, h2, h3⟩) (h (a'') ha)) (i)
def mqC (q : List QQt) (i : Int) : Bool := Nat.ble q.length 1000000 && (q.all bigQ && decide (i = 0))
noncomputable def b39x : Code := nthLoop c39 0
def ls39x : LoopSpec := { bid := 0, sh := [.ptr 0 0, .d (.int .i64) false], so := [.box [.d (.int .u16) false, .d .bool false, .d .bool false, .d .bool false, .d .bool false, .d .bool false, .d (.int .i64) false, .d (.int .i64) false, .d (.list QQ) false, .d (.list RR) false, .d (.list RR) false, .d (.list RR) false]], F := fun (i, _) ((mi, mqr, maa, mtc, mrd, mra, mop, mrc, mq, man, mns, mar, _), _) => .on2 (mqC mq i) (!mq.any noQ) (.exit 0, [.ptr 0 0, .dead], [.box [.int .u16 mi, .bool mqr, .bool maa, .bool mtc, .bool mrd, .bool mra, .int .i64 mop, .int .i64 mrc, .list QQ mq, .list RR man, .list RR mns, .list RR mar]]) (.ret, [.ptr 0 0, .bool false], [.box [.int .u16 mi, .bool mqr, .bool maa, .bool mtc, .bool mrd, .bool mra, .int .i64 mop, .int .i64 mrc, .list QQ mq, .list RR man, .list RR mns, .list RR mar]]) }
def r39x (i mi : Int) (mqr maa mtc mrd mra : Bool) (mop mrc : Int) (mq : List QQt) (man mns mar : List RRt) : Tr (St ⊕ (Ex × St)) := .br (decide (i < (↑mq.length : Int))) (.br (decide (0 ≤ i)) (.br (decide (i < (↑mq.length : Int))) (.br (bigS (mq.getD i.toNat (Ty.dflt QQ)).1) (.br (!mayV (mq.getD i.toNat (Ty.dflt QQ)).1) (.ret (.inr (.ret, stOf [1, 2] [.ptr 0 0, .bool false] [.boxT none [.int .u16 mi, .bool mqr, .bool maa, .bool mtc, .bool mrd, .bool mra, .int .i64 mop, .int .i64 mrc, .list QQ mq, .list RR man, .list RR mns, .list RR mar]]))) (.ret (.inl (stOf [1, 3] [.ptr 0 0, .int .i64 (IntKind.wrap .i64 (i + 1))] [.boxT none [.int .u16 mi, .bool mqr, .bool maa, .bool mtc, .bool mrd, .bool mra, .int .i64 mop, .int .i64 mrc, .list QQ mq, .list RR man, .list RR mns, .list RR mar]])))) .no) .no) .no) (.ret (.inr (.exit 0, stOf [1, 2] [.ptr 0 0, .dead] [.boxT none [.int .u16 mi, .bool mqr, .bool maa, .bool mtc, .bool mrd, .bool mra, .int .i64 mop, .int .i64 mrc, .list QQ mq, .list RR man, .list RR mns, .list RR mar]])))
theorem round39x (lp : Lp) (i mi : Int) (mqr maa mtc mrd mra : Bool) (mop mrc : Int) (mq : List QQt) (man mns mar : List RRt) : evC T0 (orcB [fs30w, fs32w] []) lp b39x 0 (stOf [1, 3] [.ptr 0 0, .int .i64 i] [.box [.int .u16 mi, .bool mqr, .bool maa, .bool mtc, .bool mrd, .bool mra, .int .i64 mop, .int .i64 mrc, .list QQ mq, .list RR man, .list RR mns, .list RR mar]]) (roundK [1, 3] [1, 2] 0) = (r39x i mi mqr maa mtc mrd mra mop mrc mq man mns mar).get := by kernel_rfl
theorem wf39x (mi : Int) (mqr maa mtc mrd mra : Bool) (mop mrc : Int) (mq : List QQt) (man mns mar : List RRt) (I'' : Int → Prop) (m'' : Int → Nat) (r'' : Ex × St) (h : ∀ (i : Int), I'' i → (r39x i mi mqr maa mtc mrd mra mop mrc mq man mns mar).all fun x'' => x'' = .inr r'' ∨ ∃ (i' : Int), x'' = .inl (stOf [1, 3] [.ptr 0 0, .int .i64 i'] [.box [.int .u16 mi, .bool mqr, .bool maa, .bool mtc, .bool mrd, .bool mra, .int .i64 mop, .int .i64 mrc, .list QQ mq, .list RR man, .list RR mns, .list RR mar]]) ∧ I'' i' ∧ m'' i' < m'' i) (lp : Lp) (i : Int) : I'' i →
    loopF (fun st => evC T0 (orcB [fs30w, fs32w] []) lp b39x 0 st (roundK [1, 3] [1, 2] 0)) (stOf [1, 3] [.ptr 0 0, .int .i64 i] [.box [.int .u16 mi, .bool mqr, .bool maa, .bool mtc, .bool mrd, .bool mra, .int .i64 mop, .int .i64 mrc, .list QQ mq, .list RR man, .list RR mns, .list RR mar]]) = some r'' :=
 loop_tr (fun a'' : Int => stOf [1, 3] [.ptr 0 0, .int .i64 a''] [.box [.int .u16 mi, .bool mqr, .bool maa, .bool mtc, .bool mrd, .bool mra, .int .i64 mop, .int .i64 mrc, .list QQ mq, .list RR man, .list RR mns, .list RR mar]]) (fun a'' => I'' a'') (fun a'' => m'' a'') r'' (fun a'' => r39x a'' mi mqr maa mtc mrd mra mop mrc mq man mns mar)
  (fun a'' x hx => (round39x lp a'' mi mqr maa mtc mrd mra mop mrc mq man mns mar).trans hx) (fun a'' ha => Tr.all_mono (fun x'' hx => hx.imp id fun ⟨i', h1, h2, h3⟩ => ⟨(i'), h1, h2, h3⟩) (h (a'') ha)) (i)
theorem loop83 : ls83.Ok T0 (orcB [fs30w, fs32w] []) h83 0 0 b83 := by
 intro q'' hq'' x'' y'' r'' h
 obtain ⟨(l : List RRt), (i : Int), _⟩ := x''
 obtain ⟨hc, rfl⟩ := Tr.get_on2 h
 show loopF (fun st => evC T0 (orcB [fs30w, fs32w] []) (lpN T0 (orcB [fs30w, fs32w] []) h83 0 q'') b83 0 st (roundK [0, 3] [0, 2] 0)) (stOf [0, 3] [.list RR l, .int .i64 i] []) = some ((bif !l.any noR then (.exit 0, [.list RR l, .dead], []) else (.ret, [.list RR l, .bool false], []) : Ex × List AV × List LObj).1, stOf [0, 2] (bif !l.any noR then (.exit 0, [.list RR l, .dead], []) else (.ret, [.list RR l, .bool false], []) : Ex × List AV × List LObj).2.1 (bif !l.any noR then (.exit 0, [.list RR l, .dead], []) else (.ret, [.list RR l, .bool false], []) : Ex × List AV × List LObj).2.2)
 simp only [alC, Bool.and_eq_true, decide_eq_true_eq, List.all_eq_true] at hc
 obtain ⟨hl, hall, rfl⟩ := hc
 have hl := Nat.le_of_ble_eq_true hl
 refine wf83 l (fun i => 0 ≤ i ∧ i ≤ l.length ∧ (l.drop i.toNat).any noR = l.any noR) (fun i => (l.length - i).toNat) _ ?_ _ 0 ⟨by omega, by omega, rfl⟩
 rintro i ⟨h0, h1, he⟩
 unfold r83
 rw [wrap_succ h0 h1 (by omega)]
 by_cases hi : i < l.length
 · have hx := hall _ (mem_getD5 (l := l) (k := i.toNat) (by omega) (Ty.dflt RR))
   rw [any_next (l := l) (k := i.toNat) (by omega) (Ty.dflt RR)] at he
   generalize l.getD i.toNat (Ty.dflt RR) = x at *
   refine Tr.all_t (dec_true hi) (Tr.all_t (dec_true h0) (Tr.all_t (dec_true hi) (Tr.all_t hx (Tr.all_br (fun c => ?_) fun c => ?_))))
   · rw [show noR x = true from c] at he
     rw [← he]
     exact Tr.all_ret (.inl rfl)
   · rw [show noR x = false from c, Bool.false_or] at he
     exact Tr.all_ret (.inr ⟨_, rfl, ⟨by omega, by omega, by rw [show (i + 1).toNat = i.toNat + 1 by omega]; exact he⟩, by omega⟩)
 · refine Tr.all_f (dec_false hi) (Tr.all_ret (.inl ?_))
   rw [List.drop_eq_nil_of_le (by omega)] at he
   rw [← he]
   rfl
theorem loop39x : ls39x.Ok T0 (orcB [fs30w, fs32w] []) h39 0 0 b39x := by
 intro q'' hq'' x'' y'' r'' h
 obtain ⟨(i : Int), _⟩ := x''
 obtain ⟨⟨(mi : Int), (mqr : Bool), (maa : Bool), (mtc : Bool), (mrd : Bool), (mra : Bool), (mop : Int), (mrc : Int), (mq : List QQt), (man : List RRt), (mns : List RRt), (mar : List RRt), _⟩, _⟩ := y''
 obtain ⟨hc, rfl⟩ := Tr.get_on2 h
 show loopF (fun st => evC T0 (orcB [fs30w, fs32w] []) (lpN T0 (orcB [fs30w, fs32w] []) h39 0 q'') b39x 0 st (roundK [1, 3] [1, 2] 0)) (stOf [1, 3] [.ptr 0 0, .int .i64 i] [.box [.int .u16 mi, .bool mqr, .bool maa, .bool mtc, .bool mrd, .bool mra, .int .i64 mop, .int .i64 mrc, .list QQ mq, .list RR man, .list RR mns, .list RR mar]]) = some ((bif !mq.any noQ then (.exit 0, [.ptr 0 0, .dead], [.box [.int .u16 mi, .bool mqr, .bool maa, .bool mtc, .bool mrd, .bool mra, .int .i64 mop, .int .i64 mrc, .list QQ mq, .list RR man, .list RR mns, .list RR mar]]) else (.ret, [.ptr 0 0, .bool false], [.box [.int .u16 mi, .bool mqr, .bool maa, .bool mtc, .bool mrd, .bool mra, .int .i64 mop, .int .i64 mrc, .list QQ mq, .list RR man, .list RR mns, .list RR mar]]) : Ex × List AV × List LObj).1, stOf [1, 2] (bif !mq.any noQ then (.exit 0, [.ptr 0 0, .dead], [.box [.int .u16 mi, .bool mqr, .bool maa, .bool mtc, .bool mrd, .bool mra, .int .i64 mop, .int .i64 mrc, .list QQ mq, .list RR man, .list RR mns, .list RR mar]]) else (.ret, [.ptr 0 0, .bool false], [.box [.int .u16 mi, .bool mqr, .bool maa, .bool mtc, .bool mrd, .bool mra, .int .i64 mop, .int .i64 mrc, .list QQ mq, .list RR man, .list RR mns, .list RR mar]]) : Ex × List AV × List LObj).2.1 (bif !mq.any noQ then (.exit 0, [.ptr 0 0, .dead], [.box [.int .u16 mi, .bool mqr, .bool maa, .bool mtc, .bool mrd, .bool mra, .int .i64 mop, .int .i64 mrc, .list QQ mq, .list RR man, .list RR mns, .list RR mar]]) else (.ret, [.ptr 0 0, .bool false], [.box [.int .u16 mi, .bool mqr, .bool maa, .bool mtc, .bool mrd, .bool mra, .int .i64 mop, .int .i64 mrc, .list QQ mq, .list RR man, .list RR mns, .list RR mar]]) : Ex × List AV × List LObj).2.2)
 simp only [mqC, Bool.and_eq_true, decide_eq_true_eq, List.all_eq_true] at hc
 obtain ⟨hl, hall, rfl⟩ := hc
 have hl := Nat.le_of_ble_eq_true hl
 refine wf39x mi mqr maa mtc mrd mra mop mrc mq man mns mar (fun i => 0 ≤ i ∧ i ≤ mq.length ∧ (mq.drop i.toNat).any noQ = mq.any noQ) (fun i => (mq.length - i).toNat) _ ?_ _ 0 ⟨by omega, by omega, rfl⟩
 rintro i ⟨h0, h1, he⟩
 unfold r39x
 rw [wrap_succ h0 h1 (by omega)]
 by_cases hi : i < mq.length
 · have hx := hall _ (mem_getD5 (l := mq) (k := i.toNat) (by omega) (Ty.dflt QQ))
   rw [any_next (l := mq) (k := i.toNat) (by omega) (Ty.dflt QQ)] at he
   generalize mq.getD i.toNat (Ty.dflt QQ) = x at *
   refine Tr.all_t (dec_true hi) (Tr.all_t (dec_true h0) (Tr.all_t (dec_true hi) (Tr.all_t hx (Tr.all_br (fun c => ?_) fun c => ?_))))
   · rw [show noQ x = true from c] at he
     rw [← he]
     exact Tr.all_ret (.inl rfl)
   · rw [show noQ x = false from c, Bool.false_or] at he
     exact Tr.all_ret (.inr ⟨_, rfl, ⟨by omega, by omega, by rw [show (i + 1).toNat = i.toNat + 1 by omega]; exact he⟩, by omega⟩)
 · refine Tr.all_f (dec_false hi) (Tr.all_ret (.inl ?_))
   rw [List.drop_eq_nil_of_le (by omega)] at he
   rw [← he]
   rfl
def t83 (l : List RRt) : Tr Res := .br (alC l 0) (.br (!List.any l noR) (.ret ([.bool (decide ((↑l.length : Int) ≤ 65535))], [])) (.ret ([.bool false], []))) .no
def os83 : OSpec := { f := 83, sh := [.d (.list RR) false], so := [], F := fun (l, _) _ => t83 l }
theorem fn83 (l : List RRt) : evC T0 (orcB [fs30w, fs32w] []) (lpOf h83 0 (lsOf [ls83])) c83 1000000 (startSt [.list RR l] [] Try.f83.ntmps) (finishK T0 false 0 Try.f83) = (t83 l).get := by kernel_rfl
theorem ok83 : os83.Ok Try.prog := by
 refine os_ok mixed0 tab0 (orcB_sound (all_cons okf30w (all_cons okf32w all_nil)) all_nil) h83 (d := 0) (n0 := 0) (S := lsOf [ls83]) Try.func83 (by kernel_rfl) (c := c83) (by kernel_rfl) rfl (loops_eq (xs := [(0, b83)]) (by kernel_rfl) (all_cons (ls_here loop83) all_nil)) (by omega) (by kernel_rfl) ?_
 intro x'' y'' q'' hq''
 obtain ⟨(l : List RRt), _⟩ := x''
 exact (fn83 l).trans hq''
def fs83 : FSpec := fsT 83 [((.list RR), false)] [(.bool, false)] fun (l, _) => t83 l
theorem okf83 : fs83.Ok Try.prog := fsT_ok fun x'' r'' hr'' => ok83 x'' () r'' hr''
def goodL (l : List RRt) : Bool := !l.any noR && decide (l.length ≤ 65535)
def fs83w : FSpec := fs83.like fun (l, _) => .on (okL l) (goodL l, ())
theorem okf83w : fs83w.Ok Try.prog := by
 refine flike_ok okf83 _ ?_
 rintro ⟨(l : List RRt), _⟩ y h
 obtain ⟨hb, rfl⟩ := Tr.get_on h
 have hb : okL l = true := hb
 unfold okL at hb
 obtain ⟨h1, h2⟩ := Bool.and_eq_true_iff.1 hb
 refine convR_of (vs := [.bool (goodL l)]) rfl rfl (Tr.get_of_all ?_)
 show (t83 l).all _
 unfold t83 goodL
 refine Tr.all_t (by unfold alC; rw [h1, h2]; rfl) (Tr.all_br (fun c => Tr.all_ret ?_) fun c => Tr.all_ret ?_)
 · rw [c, Bool.true_and, decide_eq_decide.2 (show ((l.length : Int) ≤ 65535) ↔ l.length ≤ 65535 by omega)]
 · rw [c]; rfl
def t39 (m : MGt) : Tr Res := .br (mqC m.2.2.2.2.2.2.2.2.1 0) (.br (!List.any m.2.2.2.2.2.2.2.2.1 noQ) (.br (decide (m.2.2.2.2.2.2.1 ≥ 0)) (.br (decide (m.2.2.2.2.2.2.1 ≤ 15)) (.br (decide (m.2.2.2.2.2.2.2.1 ≥ 0)) (.br (decide (m.2.2.2.2.2.2.2.1 ≤ 15)) (.br (decide ((↑m.2.2.2.2.2.2.2.2.1.length : Int) ≤ 65535)) (.br (okL m.2.2.2.2.2.2.2.2.2.1) (.br (goodL m.2.2.2.2.2.2.2.2.2.1) (.br (okL m.2.2.2.2.2.2.2.2.2.2.1) (.br (goodL m.2.2.2.2.2.2.2.2.2.2.1) (.br (okL m.2.2.2.2.2.2.2.2.2.2.2) (.ret ([.bool (goodL m.2.2.2.2.2.2.2.2.2.2.2)], [])) .no) (.ret ([.bool false], []))) .no) (.ret ([.bool false], []))) .no) (.ret ([.bool false], []))) (.ret ([.bool false], []))) (.ret ([.bool false], []))) (.ret ([.bool false], []))) (.ret ([.bool false], []))) (.ret ([.bool false], []))) .no
def os39 : OSpec := { f := 39, sh := [.d MG true], so := [], F := fun (m, _) _ => t39 m }
theorem fn39 (m : MGt) : evC T0 (orcB [fs30w, fs32w, fs83w] []) (lpOf h39 0 (lsOf [ls39x])) c39 1000000 (startSt [AV.ofTy MG m true] [] Try.f39.ntmps) (finishK T0 false 0 Try.f39) = (t39 m).get := by kernel_rfl
theorem ok39 : os39.Ok Try.prog := by
 refine os_ok mixed0 tab0 (orcB_sound (all_cons okf30w (all_cons okf32w (all_cons okf83w all_nil))) all_nil) h39 (d := 0) (n0 := 0) (S := lsOf [ls39x]) Try.func39 (by kernel_rfl) (c := c39) (by kernel_rfl) rfl (loops_eq (xs := [(0, b39x)]) (by kernel_rfl) (all_cons (ls_here loop39x) all_nil)) (by omega) (by kernel_rfl) ?_
 intro x'' y'' q'' hq''
 obtain ⟨(m : MGt), _⟩ := x''
 exact (fn39 m).trans hq''
def fs39 : FSpec := fsT 39 [(MG, true)] [(.bool, false)] fun (m, _) => t39 m
theorem okf39 : fs39.Ok Try.prog := fsT_ok fun x'' r'' hr'' => ok39 x'' () r'' hr''
def okQ (l : List QQt) : Bool := Nat.ble l.length 1000000 && l.all bigQ
def goodQ (l : List QQt) : Bool := !l.any noQ && decide (l.length ≤ 65535)
def bigM (m : MGt) : Bool := okQ (mQ m) && (okL (mAn m) && (okL (mNs m) && okL (mAr m)))
def mayN (m : MGt) : Bool := decide (0 ≤ m.2.2.2.2.2.2.1) && (decide (m.2.2.2.2.2.2.1 ≤ 15) && (decide (0 ≤ m.2.2.2.2.2.2.2.1) && decide (m.2.2.2.2.2.2.2.1 ≤ 15)))
def mayM (m : MGt) : Bool := mayN m && (goodQ (mQ m) && (goodL (mAn m) && (goodL (mNs m) && goodL (mAr m))))
theorem bigM_iff {m : MGt} : bigM m = true ↔ okQ (mQ m) = true ∧ okL (mAn m) = true ∧ okL (mNs m) = true ∧ okL (mAr m) = true := by
 unfold bigM
 rw [Bool.and_eq_true, Bool.and_eq_true, Bool.and_eq_true]
def fs39w : FSpec := fs39.like fun (m, _) => .on (bigM m) (mayM m, ())
theorem okf39w : fs39w.Ok Try.prog := by
 refine flike_ok okf39 _ ?_
 rintro ⟨(m : MGt), _⟩ y h
 obtain ⟨hb, rfl⟩ := Tr.get_on h
 obtain ⟨h1, h2, h3, h4⟩ := bigM_iff.1 hb
 have h1' : mqC (mQ m) 0 = true := by
  obtain ⟨a, b⟩ := Bool.and_eq_true_iff.1 (show (Nat.ble (mQ m).length 1000000 && (mQ m).all bigQ) = true from h1)
  unfold mqC
  rw [a, b]; rfl
 refine convR_of (vs := [.bool (mayM m)]) rfl rfl (Tr.get_of_all ?_)
 show (t39 m).all _
 obtain ⟨id, qr, aa, tc, rd, ra, op, rc, q, an, ns, ar⟩ := m
 unfold t39 mayM mayN goodQ mQ mAn mNs mAr at *
 simp only at *
 generalize goodL an = A
 generalize goodL ns = B
 generalize goodL ar = C
 generalize q.any noQ = D at *
 have hl : decide ((q.length : Int) ≤ 65535) = decide (q.length ≤ 65535) := decide_eq_decide.2 (by omega)
 rw [hl]
 generalize decide (q.length ≤ 65535) = E
 simp only [ge_iff_le]
 generalize decide (0 ≤ op) = F
 generalize decide (op ≤ 15) = G
 generalize decide (0 ≤ rc) = H
 generalize decide (rc ≤ 15) = I
 rw [h1', h2, h3, h4]
 cases D <;> repeat' first
  | refine Tr.all_t rfl ?_
  | refine Tr.all_f rfl ?_
  | (refine Tr.all_br (fun c => ?_) (fun c => ?_) <;> subst c)
  | refine Tr.all_ret (by first | rfl | simp)
def fs38w : FSpec := fs38.like fun (m, _) => .on (bigM m) (mayM m, ())
theorem goodL_bad (l : List RRt) : goodL l = !badL l := by
 unfold goodL badL
 by_cases h : l.length ≤ 65535
 · rw [dec_true h, dec_false (show ¬ ((l.length : Int) > 65535) by omega), Bool.and_true, Bool.false_or]
 · rw [dec_false h, dec_true (show ((l.length : Int) > 65535) by omega), Bool.and_false, Bool.true_or]; rfl
theorem okf38w : fs38w.Ok Try.prog := by
 refine flike_ok okf38 _ ?_
 rintro ⟨(m : MGt), _⟩ y h
 obtain ⟨hb, rfl⟩ := Tr.get_on h
 obtain ⟨h1, h2, h3, h4⟩ := bigM_iff.1 hb
 have h0 : myC [mAn m, mNs m, mAr m] 3 0 = true := by
  unfold myC
  rw [List.all_cons, List.all_cons, List.all_cons, h2, h3, h4]; rfl
 refine convR_of (vs := [.bool (mayM m)]) rfl rfl (Tr.get_of_all ?_)
 show (t38 m).all _
 obtain ⟨id, qr, aa, tc, rd, ra, op, rc, q, an, ns, ar⟩ := m
 unfold t38 mayM mayN goodQ
 simp only [goodL_bad]
 unfold okQ at h1
 unfold mQ mAn mNs mAr at *
 simp only at *
 refine Tr.all_t h0 ?_
 rw [h1]
 rw [show [an, ns, ar].any badL = (badL an || (badL ns || (badL ar || false))) from rfl]
 generalize badL an = A
 generalize badL ns = B
 generalize badL ar = C
 generalize q.any noQ = D
 have hl : decide ((q.length : Int) ≤ 65535) = decide (q.length ≤ 65535) := decide_eq_decide.2 (by omega)
 rw [hl]
 generalize decide (q.length ≤ 65535) = E
 simp only [ge_iff_le]
 generalize decide (0 ≤ op) = F
 generalize decide (op ≤ 15) = G
 generalize decide (0 ≤ rc) = H
 generalize decide (rc ≤ 15) = I
 clear hl hb h0 h1 h2 h3 h4
 cases D <;> cases A <;> cases B <;> cases C <;> repeat' first
  | refine Tr.all_t rfl ?_
  | refine Tr.all_f rfl ?_
  | (refine Tr.all_br (fun c => ?_) (fun c => ?_) <;> subst c)
  | refine Tr.all_ret (by first | rfl | simp)
noncomputable def TK : Tab := { T0 with kns := true }
theorem tabK : TabOk Try.prog TK := tab_kns tab0
def t127r (n : Int) : Tr Res := .br (decide (n < 0)) .no (.br (decide (IntKind.wrap .i64 (n - IntKind.wrap .i64 (0 - (↑0 : Int))) > 0)) (.br (decide (0 ≤ IntKind.wrap .i64 (n - IntKind.wrap .i64 (0 - (↑0 : Int)))) && fits (Int.toNat (IntKind.wrap .i64 (n - IntKind.wrap .i64 (0 - (↑0 : Int))))) 40) (.ret ([.rowS 0 0 0 false], [.row RR (List.replicate (Int.toNat (IntKind.wrap .i64 (n - IntKind.wrap .i64 (0 - (↑0 : Int))))) (Ty.dflt RR))])) .no) (.ret ([.rowA 0], [.row RR []])))
def os127r : OSpec := { f := 127, sh := [.ns, .d (.int .i64) false], so := [], F := fun (n, _) _ => t127r n }
theorem fn127r (n : Int) : evC TK (orcB [] []) (lpOf (hOwn h127) 0 (lsOf [])) c127 1000000 (startSt [.ns, .int .i64 n] [] Try.f127.ntmps) (finishK TK true 0 Try.f127) = (t127r n).get := by kernel_rfl
theorem ok127r : os127r.Ok Try.prog := by
 refine os_ok mixed0 tabK (orcB_sound all_nil all_nil) (hOwn h127) (d := 0) (n0 := 0) (S := lsOf []) Try.func127 (by kernel_rfl) (c := c127) (by kernel_rfl) rfl (no_loops (by kernel_rfl)) (by omega) (by kernel_rfl) ?_
 intro x'' y'' q'' hq''
 obtain ⟨(n : Int), _⟩ := x''
 exact (fn127r n).trans hq''
def growC (n : Int) : Bool := decide (0 ≤ n) && decide (n ≤ 100000000)
def os127g : OSpec := os127r.like fun (n, _) _ => .on (growC n) ([.rowA 0], [.row RR []])
theorem ok127g : os127g.Ok Try.prog := by
 rintro ⟨(n : Int), _⟩ y r h
 obtain ⟨hc, rfl⟩ := Tr.get_on h
 have hc : growC n = true := hc
 simp only [growC, Bool.and_eq_true, decide_eq_true_eq] at hc
 have hw : IntKind.wrap .i64 (n - IntKind.wrap .i64 (0 - 0)) = n := by
  rw [show IntKind.wrap .i64 (0 - 0) = 0 from rfl, Int.sub_zero, IntWalk.i64_in _ (by omega)]
 by_cases hn : n = 0
 · refine ok127r (n, ()) y ([.rowA 0], [.row RR []]) (Tr.get_of_all ?_)
   show (t127r n).all _
   unfold t127r
   rw [hw]
   exact Tr.all_f (dec_false (by omega)) (Tr.all_f (dec_false (by omega)) (Tr.all_ret rfl))
 · refine semF_cut (n := 0) (ok127r (n, ()) y ([.rowS 0 0 0 false], [.row RR (List.replicate n.toNat (Ty.dflt RR))]) (Tr.get_of_all ?_))
   show (t127r n).all _
   unfold t127r
   rw [hw]
   exact Tr.all_f (dec_false (by omega)) (Tr.all_t (dec_true (by omega)) (Tr.all_t (Bool.and_eq_true_iff.2 ⟨decide_eq_true (by omega), fits_true (by omega) (by omega)⟩) (Tr.all_ret rfl)))
def sumL (ll : List (List RRt)) : Int := (ll.flatten.length : Int)
def catB (ll : List (List RRt)) : Bool := decide (ll.length ≤ 3) && ll.all fun l => decide (l.length ≤ 1000000)
def catC (ll l2 : List (List RRt)) (z m i : Int) : Bool := catB ll && (decide (l2 = ll) && (decide (m = (ll.length : Int)) && (decide (z = 0) && decide (i = 0))))
def catD (ll : List (List RRt)) (w : List RRt) (m i : Int) : Bool := catB ll && (decide (w = []) && (decide (m = (ll.length : Int)) && decide (i = 0)))
noncomputable def b111 : Code := nthLoop c111 0
def ls111 : LoopSpec := { bid := 0, sh := [.d (.list (.list RR)) false, .d (.int .i64) false, .d (.list (.list RR)) false, .d (.int .i64) false, .d (.int .i64) false], so := [], F := fun (ll, z, l2, m, i, _) _ => .on (catC ll l2 z m i) (.exit 0, [.list (.list RR) ll, .int .i64 (sumL ll)], []) }
def r111 (ll : List (List RRt)) (z : Int) (l2 : List (List RRt)) (m i : Int) : Tr (St ⊕ (Ex × St)) := .br (decide (i < m)) (.br (decide (0 ≤ i)) (.br (decide (i < (↑l2.length : Int))) (.br (decide (IntKind.wrap .i64 (z + (↑(List.length (l2.getD i.toNat (Ty.dflt (Ty.list RR)))) : Int)) < 0)) .no (.ret (.inl (stOf [0, 3, 9, 10, 11] [.list (Ty.list RR) ll, .int .i64 (IntKind.wrap .i64 (z + (↑(List.length (l2.getD i.toNat (Ty.dflt (Ty.list RR)))) : Int))), .list (Ty.list RR) l2, .int .i64 m, .int .i64 (IntKind.wrap .i64 (i + 1))] [])))) .no) .no) (.ret (.inr (.exit 0, stOf [0, 3] [.list (Ty.list RR) ll, .int .i64 z] [])))
theorem round111 (lp : Lp) (ll : List (List RRt)) (z : Int) (l2 : List (List RRt)) (m i : Int) : evC TK (orcB [] [os127g]) lp b111 0 (stOf [0, 3, 9, 10, 11] [.list (.list RR) ll, .int .i64 z, .list (.list RR) l2, .int .i64 m, .int .i64 i] []) (roundK [0, 3, 9, 10, 11] [0, 3] 0) = (r111 ll z l2 m i).get := by kernel_rfl
theorem wf111 (ll l2 : List (List RRt)) (m : Int) (I'' : Int → Int → Prop) (m'' : Int → Int → Nat) (r'' : Ex × St) (h : ∀ (z i : Int), I'' z i → (r111 ll z l2 m i).all fun x'' => x'' = .inr r'' ∨ ∃ (z' i' : Int), x'' = .inl (stOf [0, 3, 9, 10, 11] [.list (.list RR) ll, .int .i64 z', .list (.list RR) l2, .int .i64 m, .int .i64 i'] []) ∧ I'' z' i' ∧ m'' z' i' < m'' z i) (lp : Lp) (z i : Int) : I'' z i →
    loopF (fun st => evC TK (orcB [] [os127g]) lp b111 0 st (roundK [0, 3, 9, 10, 11] [0, 3] 0)) (stOf [0, 3, 9, 10, 11] [.list (.list RR) ll, .int .i64 z, .list (.list RR) l2, .int .i64 m, .int .i64 i] []) = some r'' :=
 loop_tr (fun a'' : Int × Int => stOf [0, 3, 9, 10, 11] [.list (.list RR) ll, .int .i64 a''.1, .list (.list RR) l2, .int .i64 m, .int .i64 a''.2] []) (fun a'' => I'' a''.1 a''.2) (fun a'' => m'' a''.1 a''.2) r'' (fun a'' => r111 ll a''.1 l2 m a''.2)
  (fun a'' x hx => (round111 lp ll a''.1 l2 m a''.2).trans hx) (fun a'' ha => Tr.all_mono (fun x'' hx => hx.imp id fun ⟨z', i', h1, h2, h3⟩ => ⟨(z', i'), h1, h2, h3⟩) (h (a''.1) (a''.2) ha)) (z, i)
noncomputable def b111b : Code := nthLoop c111 1
def ls111b : LoopSpec := { bid := 2, sh := [.row 0, .d (.list (.list RR)) false, .d (.int .i64) false, .d (.int .i64) false], so := [.row RR], F := fun (ll, m, i, _) (w, _) => .on (catD ll w m i) (.exit 2, [.rowA 0], [.row RR ll.flatten]) }
def r111b (ll : List (List RRt)) (m i : Int) (w : List RRt) : Tr (St ⊕ (Ex × St)) := .br (decide (i < m)) (.br (decide (0 ≤ i)) (.br (decide (i < (↑ll.length : Int))) (.br (fits (List.length w + List.length (ll.getD i.toNat (Ty.dflt (Ty.list RR)))) 40) (.ret (.inl (stOf [6, 25, 26, 27] [.rowA 0, .list (Ty.list RR) ll, .int .i64 m, .int .i64 (IntKind.wrap .i64 (i + 1))] [.row RR (w ++ List.getD ll i.toNat (Ty.dflt (Ty.list RR)))]))) .no) .no) .no) (.ret (.inr (.exit 2, stOf [6] [.rowA 0] [.row RR w])))
theorem round111b (lp : Lp) (ll : List (List RRt)) (m i : Int) (w : List RRt) : evC TK (orcB [] [os127g]) lp b111b 2 (stOf [6, 25, 26, 27] [.rowA 0, .list (.list RR) ll, .int .i64 m, .int .i64 i] [.row RR w]) (roundK [6, 25, 26, 27] [6] 0) = (r111b ll m i w).get := by kernel_rfl
theorem wf111b (ll : List (List RRt)) (m : Int) (I'' : Int → List RRt → Prop) (m'' : Int → List RRt → Nat) (r'' : Ex × St) (h : ∀ (i : Int) (w : List RRt), I'' i w → (r111b ll m i w).all fun x'' => x'' = .inr r'' ∨ ∃ (i' : Int) (w' : List RRt), x'' = .inl (stOf [6, 25, 26, 27] [.rowA 0, .list (.list RR) ll, .int .i64 m, .int .i64 i'] [.row RR w']) ∧ I'' i' w' ∧ m'' i' w' < m'' i w) (lp : Lp) (i : Int) (w : List RRt) : I'' i w →
    loopF (fun st => evC TK (orcB [] [os127g]) lp b111b 2 st (roundK [6, 25, 26, 27] [6] 0)) (stOf [6, 25, 26, 27] [.rowA 0, .list (.list RR) ll, .int .i64 m, .int .i64 i] [.row RR w]) = some r'' :=
 loop_tr (fun a'' : Int × List RRt => stOf [6, 25, 26, 27] [.rowA 0, .list (.list RR) ll, .int .i64 m, .int .i64 a''.1] [.row RR a''.2]) (fun a'' => I'' a''.1 a''.2) (fun a'' => m'' a''.1 a''.2) r'' (fun a'' => r111b ll m a''.1 a''.2)
  (fun a'' x hx => (round111b lp ll m a''.1 a''.2).trans hx) (fun a'' ha => Tr.all_mono (fun x'' hx => hx.imp id fun ⟨i', w', h1, h2, h3⟩ => ⟨(i', w'), h1, h2, h3⟩) (h (a''.1) (a''.2) ha)) (i, w)
theorem flat_len {ll : List (List RRt)} (h : ∀ l ∈ ll, l.length ≤ 1000000) : ll.flatten.length ≤ 1000000 * ll.length := by
 induction ll with
 | nil => simp
 | cons l ll ih =>
   have h1 := h l (by simp)
   have h2 := ih fun x hx => h x (List.mem_cons_of_mem _ hx)
   rw [List.flatten_cons, List.length_append, List.length_cons]
   omega
theorem catB_len {ll : List (List RRt)} (h : catB ll = true) : ll.length ≤ 3 ∧ ll.flatten.length ≤ 3000000 := by
 simp only [catB, Bool.and_eq_true, decide_eq_true_eq, List.all_eq_true] at h
 have := flat_len h.2
 omega
theorem flat_next {ll : List (List RRt)} {k : Nat} (hk : k < ll.length) (x : List RRt) : (ll.drop k).flatten = ll.getD k x ++ (ll.drop (k + 1)).flatten := by
 rw [drop_cons2 hk x, List.flatten_cons]
theorem loop111 : ls111.Ok TK (orcB [] [os127g]) h111 0 0 b111 := by
 intro q'' hq'' x'' y'' r'' h
 obtain ⟨(ll : List (List RRt)), (z : Int), (l2 : List (List RRt)), (m : Int), (i : Int), _⟩ := x''
 obtain ⟨hc, rfl⟩ := Tr.get_on h
 show loopF (fun st => evC TK (orcB [] [os127g]) (lpN TK (orcB [] [os127g]) h111 0 q'') b111 0 st (roundK [0, 3, 9, 10, 11] [0, 3] 0)) (stOf [0, 3, 9, 10, 11] [.list (.list RR) ll, .int .i64 z, .list (.list RR) l2, .int .i64 m, .int .i64 i] []) = some (.exit 0, stOf [0, 3] ([.list (.list RR) ll, .int .i64 (sumL ll)]) ([]))
 simp only [catC, Bool.and_eq_true, decide_eq_true_eq] at hc
 obtain ⟨hb, rfl, rfl, rfl, rfl⟩ := hc
 obtain ⟨hl, hf⟩ := catB_len hb
 refine wf111 l2 l2 l2.length (fun z i => 0 ≤ i ∧ i ≤ l2.length ∧ 0 ≤ z ∧ z + (l2.drop i.toNat).flatten.length = sumL l2) (fun _ i => (l2.length - i).toNat) _ ?_ _ 0 0 ⟨by omega, by omega, by omega, by unfold sumL; simp⟩
 rintro z i ⟨h0, h1, hz, he⟩
 unfold r111
 rw [wrap_succ h0 h1 (by omega)]
 have hs : sumL l2 = (l2.flatten.length : Int) := rfl
 by_cases hi : i < l2.length
 · rw [flat_next (ll := l2) (k := i.toNat) (by omega) (Ty.dflt (Ty.list RR)), List.length_append] at he
   generalize l2.getD i.toNat (Ty.dflt (Ty.list RR)) = x at *
   have hw : IntKind.wrap .i64 (z + (x.length : Int)) = z + x.length := IntWalk.i64_in _ (by omega)
   rw [hw]
   exact Tr.all_t (dec_true hi) (Tr.all_t (dec_true h0) (Tr.all_t (dec_true hi) (Tr.all_f (dec_false (by omega)) (Tr.all_ret (.inr ⟨_, _, rfl, ⟨by omega, by omega, by omega, by rw [show (i + 1).toNat = i.toNat + 1 by omega]; omega⟩, by omega⟩)))))
 · refine Tr.all_f (dec_false hi) (Tr.all_ret (.inl ?_))
   rw [List.drop_eq_nil_of_le (by omega)] at he
   rw [← he]
   simp
theorem loop111b : ls111b.Ok TK (orcB [] [os127g]) h111 0 0 b111b := by
 intro q'' hq'' x'' y'' r'' h
 obtain ⟨(ll : List (List RRt)), (m : Int), (i : Int), _⟩ := x''
 obtain ⟨(w : List RRt), _⟩ := y''
 obtain ⟨hc, rfl⟩ := Tr.get_on h
 show loopF (fun st => evC TK (orcB [] [os127g]) (lpN TK (orcB [] [os127g]) h111 0 q'') b111b 2 st (roundK [6, 25, 26, 27] [6] 0)) (stOf [6, 25, 26, 27] [.rowA 0, .list (.list RR) ll, .int .i64 m, .int .i64 i] [.row RR w]) = some (.exit 2, stOf [6] ([.rowA 0]) ([.row RR ll.flatten]))
 simp only [catD, Bool.and_eq_true, decide_eq_true_eq] at hc
 obtain ⟨hb, rfl, rfl, rfl⟩ := hc
 obtain ⟨hl, hf⟩ := catB_len hb
 refine wf111b ll ll.length (fun i w => 0 ≤ i ∧ i ≤ ll.length ∧ w ++ (ll.drop i.toNat).flatten = ll.flatten) (fun i _ => (ll.length - i).toNat) _ ?_ _ 0 [] ⟨by omega, by omega, by simp⟩
 rintro i w ⟨h0, h1, he⟩
 unfold r111b
 rw [wrap_succ h0 h1 (by omega)]
 by_cases hi : i < ll.length
 · rw [flat_next (ll := ll) (k := i.toNat) (by omega) (Ty.dflt (Ty.list RR))] at he
   generalize ll.getD i.toNat (Ty.dflt (Ty.list RR)) = x at *
   have hx : w.length + (x.length + (ll.drop (i.toNat + 1)).flatten.length) = ll.flatten.length := by rw [← he, List.length_append, List.length_append]
   refine Tr.all_t (dec_true hi) (Tr.all_t (dec_true h0) (Tr.all_t (dec_true hi) (Tr.all_t (fits_true (by omega) (by omega)) (Tr.all_ret (.inr ⟨_, _, rfl, ⟨by omega, by omega, ?_⟩, by omega⟩)))))
   rw [show (i + 1).toNat = i.toNat + 1 by omega, List.append_assoc]
   exact he
 · refine Tr.all_f (dec_false hi) (Tr.all_ret (.inl ?_))
   rw [List.drop_eq_nil_of_le (by omega), List.flatten_nil, List.append_nil] at he
   rw [he]
def t111 (ll : List (List RRt)) : Tr Res := .br (catC ll ll 0 (↑ll.length : Int) 0) (.br (growC (sumL ll)) (.br (catD ll [] (↑ll.length : Int) 0) (.ret ([.list RR (List.flatten ll)], [])) .no) .no) .no
def os111 : OSpec := { f := 111, sh := [.d (.list (.list RR)) false], so := [], F := fun (ll, _) _ => t111 ll }
theorem fn111 (ll : List (List RRt)) : evC TK (orcB [] [os127g]) (lpOf h111 0 (lsOf [ls111, ls111b])) c111 1000000 (startSt [.list (.list RR) ll] [] Try.f111.ntmps) (finishK TK false 0 Try.f111) = (t111 ll).get := by kernel_rfl
theorem ok111 : os111.Ok Try.prog := by
 refine os_ok mixed0 tabK (orcB_sound all_nil (all_cons ok127g all_nil)) h111 (d := 0) (n0 := 0) (S := lsOf [ls111, ls111b]) Try.func111 (by kernel_rfl) (c := c111) (by kernel_rfl) rfl (loops_eq (xs := [(0, b111), (2, b111b)]) (by kernel_rfl) (all_cons (ls_here loop111) (all_cons (ls_skip (by kernel_rfl) (ls_here loop111b)) all_nil))) (by omega) (by kernel_rfl) ?_
 intro x'' y'' q'' hq''
 obtain ⟨(ll : List (List RRt)), _⟩ := x''
 exact (fn111 ll).trans hq''
def fs111 : FSpec := fsT 111 [((.list (.list RR)), false)] [((.list RR), false)] fun (ll, _) => t111 ll
theorem okf111 : fs111.Ok Try.prog := fsT_ok fun x'' r'' hr'' => ok111 x'' () r'' hr''
def fs111w : FSpec := fs111.like fun (ll, _) => .on (catB ll) (ll.flatten, ())
theorem okf111w : fs111w.Ok Try.prog := by
 refine flike_ok okf111 _ ?_
 rintro ⟨(ll : List (List RRt)), _⟩ y h
 obtain ⟨hb, rfl⟩ := Tr.get_on h
 have hb : catB ll = true := hb
 refine convR_of (vs := [.list RR ll.flatten]) rfl rfl (Tr.get_of_all ?_)
 show (t111 ll).all _
 unfold t111
 obtain ⟨_, hl⟩ := catB_len hb
 have hs : sumL ll = (ll.flatten.length : Int) := rfl
 refine Tr.all_t ?_ (Tr.all_t ?_ (Tr.all_t ?_ (Tr.all_ret rfl)))
 · unfold catC
   rw [hb, decide_eq_true rfl, decide_eq_true rfl]; rfl
 · unfold growC
   rw [dec_true (by omega), dec_true (by omega)]; rfl
 · unfold catD
   rw [hb, decide_eq_true rfl, decide_eq_true rfl]; rfl
def t126 (x : Bool) (n : Int) : Tr Res := .br x (.ret ([.int .u16 n], [])) (.ret ([.int .u16 0], []))
def os126 : OSpec := { f := 126, sh := [.d .bool false, .d (.int .u16) false], so := [], F := fun (x, n, _) _ => t126 x n }
theorem fn126 (x : Bool) (n : Int) : evC T0 (orcB [] []) (lpOf h126 0 (lsOf [])) c126 1000000 (startSt [.bool x, .int .u16 n] [] Try.f126.ntmps) (finishK T0 false 0 Try.f126) = (t126 x n).get := by kernel_rfl
theorem ok126 : os126.Ok Try.prog := by
 refine os_ok mixed0 tab0 (orcB_sound all_nil all_nil) h126 (d := 0) (n0 := 0) (S := lsOf []) Try.func126 (by kernel_rfl) (c := c126) (by kernel_rfl) rfl (no_loops (by kernel_rfl)) (by omega) (by kernel_rfl) ?_
 intro x'' y'' q'' hq''
 obtain ⟨(x : Bool), (n : Int), _⟩ := x''
 exact (fn126 x n).trans hq''
def fs126 : FSpec := fsT 126 [(.bool, false), ((.int .u16), false)] [((.int .u16), false)] fun (x, n, _) => t126 x n
theorem okf126 : fs126.Ok Try.prog := fsT_ok fun x'' r'' hr'' => ok126 x'' () r'' hr''
def t128 (x : Bool) : Tr Res := .br x (.ret ([.int .i64 1], [])) (.ret ([.int .i64 0], []))
def os128 : OSpec := { f := 128, sh := [.d .bool false], so := [], F := fun (x, _) _ => t128 x }
theorem fn128 (x : Bool) : evC T0 (orcB [] []) (lpOf h128 0 (lsOf [])) c128 1000000 (startSt [.bool x] [] Try.f128.ntmps) (finishK T0 false 0 Try.f128) = (t128 x).get := by kernel_rfl
theorem ok128 : os128.Ok Try.prog := by
 refine os_ok mixed0 tab0 (orcB_sound all_nil all_nil) h128 (d := 0) (n0 := 0) (S := lsOf []) Try.func128 (by kernel_rfl) (c := c128) (by kernel_rfl) rfl (no_loops (by kernel_rfl)) (by omega) (by kernel_rfl) ?_
 intro x'' y'' q'' hq''
 obtain ⟨(x : Bool), _⟩ := x''
 exact (fn128 x).trans hq''
def fs128 : FSpec := fsT 128 [(.bool, false)] [((.int .i64), false)] fun (x, _) => t128 x
theorem okf128 : fs128.Ok Try.prog := fsT_ok fun x'' r'' hr'' => ok128 x'' () r'' hr''
def bitI (x : Bool) (n : Int) : Int := bif x then n else 0
def fs126w : FSpec := fs126.like fun (x, n, _) => .ret (bitI x n, ())
theorem okf126w : fs126w.Ok Try.prog := by
 refine flike_ok okf126 _ ?_
 rintro ⟨(x : Bool), (n : Int), _⟩ y h
 cases h
 refine convR_of (vs := [.int .u16 (bitI x n)]) rfl rfl (Tr.get_of_all ?_)
 cases x
 · exact Tr.all_f rfl (Tr.all_ret rfl)
 · exact Tr.all_t rfl (Tr.all_ret rfl)
def fs128w : FSpec := fs128.like fun (x, _) => .ret (bitI x 1, ())
theorem okf128w : fs128w.Ok Try.prog := by
 refine flike_ok okf128 _ ?_
 rintro ⟨(x : Bool), _⟩ y h
 cases h
 refine convR_of (vs := [.int .i64 (bitI x 1)]) rfl rfl (Tr.get_of_all ?_)
 cases x
 · exact Tr.all_f rfl (Tr.all_ret rfl)
 · exact Tr.all_t rfl (Tr.all_ret rfl)
def t109 (m : MGt) : Tr Res := .ret ([.int .u16 (IntKind.wrap .u16 (↑(BitVec.toNat (BitVec.ofInt (IntKind.bits IntKind.u16) (IntKind.wrap .u16 (↑(BitVec.toNat (BitVec.ofInt (IntKind.bits IntKind.u16) (IntKind.wrap .u16 (↑(BitVec.toNat (BitVec.ofInt (IntKind.bits IntKind.u16) (IntKind.wrap .u16 (↑(BitVec.toNat (BitVec.ofInt (IntKind.bits IntKind.u16) (IntKind.wrap .u16 (↑(BitVec.toNat (BitVec.ofInt (IntKind.bits IntKind.u16) (IntKind.wrap .u16 (↑(BitVec.toNat (BitVec.ofInt (IntKind.bits IntKind.u16) (bitI m.2.1 32768) ||| BitVec.ofInt (IntKind.bits IntKind.u16) (bitI m.2.2.1 1024))) : Int)) ||| BitVec.ofInt (IntKind.bits IntKind.u16) (bitI m.2.2.2.1 512))) : Int)) ||| BitVec.ofInt (IntKind.bits IntKind.u16) (bitI m.2.2.2.2.1 256))) : Int)) ||| BitVec.ofInt (IntKind.bits IntKind.u16) (bitI m.2.2.2.2.2.1 128))) : Int)) ||| BitVec.ofInt (IntKind.bits IntKind.u16) (IntKind.wrap .u16 (IntKind.wrap .u16 m.2.2.2.2.2.2.1 * 2 ^ min (Int.toNat 11) (IntKind.bits IntKind.u16))))) : Int)) ||| BitVec.ofInt (IntKind.bits IntKind.u16) (IntKind.wrap .u16 m.2.2.2.2.2.2.2.1))) : Int))], [])
def os109 : OSpec := { f := 109, sh := [.d MG true], so := [], F := fun (m, _) _ => t109 m }
theorem fn109 (m : MGt) : evC T0 (orcB [fs126w] []) (lpOf h109 0 (lsOf [])) c109 1000000 (startSt [AV.ofTy MG m true] [] Try.f109.ntmps) (finishK T0 false 0 Try.f109) = (t109 m).get := by kernel_rfl
theorem ok109 : os109.Ok Try.prog := by
 refine os_ok mixed0 tab0 (orcB_sound (all_cons okf126w all_nil) all_nil) h109 (d := 0) (n0 := 0) (S := lsOf []) Try.func109 (by kernel_rfl) (c := c109) (by kernel_rfl) rfl (no_loops (by kernel_rfl)) (by omega) (by kernel_rfl) ?_
 intro x'' y'' q'' hq''
 obtain ⟨(m : MGt), _⟩ := x''
 exact (fn109 m).trans hq''
def fs109 : FSpec := fsT 109 [(MG, true)] [((.int .u16), false)] fun (m, _) => t109 m
theorem okf109 : fs109.Ok Try.prog := fsT_ok fun x'' r'' hr'' => ok109 x'' () r'' hr''
def t112 (m : MGt) : Tr Res := .br (n16C m.1) (.br (n16C (IntKind.wrap .u16 (↑m.2.2.2.2.2.2.2.2.1.length : Int))) (.br (n16C (IntKind.wrap .u16 (↑m.2.2.2.2.2.2.2.2.2.1.length : Int))) (.br (n16C (IntKind.wrap .u16 (↑m.2.2.2.2.2.2.2.2.2.2.1.length : Int))) (.br (n16C (IntKind.wrap .u16 (↑m.2.2.2.2.2.2.2.2.2.2.2.length : Int))) (.ret ([.str [UInt8.ofNat (Int.toNat (m.1 / 256)), UInt8.ofNat (Int.toNat (m.1 % 256)), UInt8.ofNat (Int.toNat (IntKind.wrap .u8 (IntKind.wrap .i64 (IntKind.wrap .i64 (IntKind.wrap .i64 (IntKind.wrap .i64 (IntKind.wrap .i64 (128 * bitI m.2.1 1) + IntKind.wrap .i64 (8 * m.2.2.2.2.2.2.1)) + IntKind.wrap .i64 (4 * bitI m.2.2.1 1)) + IntKind.wrap .i64 (2 * bitI m.2.2.2.1 1)) + bitI m.2.2.2.2.1 1)))), UInt8.ofNat (Int.toNat (IntKind.wrap .u8 (IntKind.wrap .i64 (IntKind.wrap .i64 (128 * bitI m.2.2.2.2.2.1 1) + m.2.2.2.2.2.2.2.1)))), UInt8.ofNat (Int.toNat (IntKind.wrap .u16 (↑m.2.2.2.2.2.2.2.2.1.length : Int) / 256)), UInt8.ofNat (Int.toNat (IntKind.wrap .u16 (↑m.2.2.2.2.2.2.2.2.1.length : Int) % 256)), UInt8.ofNat (Int.toNat (IntKind.wrap .u16 (↑m.2.2.2.2.2.2.2.2.2.1.length : Int) / 256)), UInt8.ofNat (Int.toNat (IntKind.wrap .u16 (↑m.2.2.2.2.2.2.2.2.2.1.length : Int) % 256)), UInt8.ofNat (Int.toNat (IntKind.wrap .u16 (↑m.2.2.2.2.2.2.2.2.2.2.1.length : Int) / 256)), UInt8.ofNat (Int.toNat (IntKind.wrap .u16 (↑m.2.2.2.2.2.2.2.2.2.2.1.length : Int) % 256)), UInt8.ofNat (Int.toNat (IntKind.wrap .u16 (↑m.2.2.2.2.2.2.2.2.2.2.2.length : Int) / 256)), UInt8.ofNat (Int.toNat (IntKind.wrap .u16 (↑m.2.2.2.2.2.2.2.2.2.2.2.length : Int) % 256))]], [])) .no) .no) .no) .no) .no
def os112 : OSpec := { f := 112, sh := [.d MG true], so := [], F := fun (m, _) _ => t112 m }
theorem fn112 (m : MGt) : evC T0 (orcB [fs128w, fs64w] []) (lpOf h112 0 (lsOf [])) c112 1000000 (startSt [AV.ofTy MG m true] [] Try.f112.ntmps) (finishK T0 false 0 Try.f112) = (t112 m).get := by kernel_rfl
theorem ok112 : os112.Ok Try.prog := by
 refine os_ok mixed0 tab0 (orcB_sound (all_cons okf128w (all_cons okf64w all_nil)) all_nil) h112 (d := 0) (n0 := 0) (S := lsOf []) Try.func112 (by kernel_rfl) (c := c112) (by kernel_rfl) rfl (no_loops (by kernel_rfl)) (by omega) (by kernel_rfl) ?_
 intro x'' y'' q'' hq''
 obtain ⟨(m : MGt), _⟩ := x''
 exact (fn112 m).trans hq''
def fs112 : FSpec := fsT 112 [(MG, true)] [(.str, false)] fun (m, _) => t112 m
theorem okf112 : fs112.Ok Try.prog := fsT_ok fun x'' r'' hr'' => ok112 x'' () r'' hr''
def flagV (m : MGt) : Int := 32768 * bitI m.2.1 1 + 2048 * m.2.2.2.2.2.2.1 + 1024 * bitI m.2.2.1 1 + 512 * bitI m.2.2.2.1 1 + 256 * bitI m.2.2.2.2.1 1 + 128 * bitI m.2.2.2.2.2.1 1 + m.2.2.2.2.2.2.2.1
def flOr (a b : Int) : Int := IntKind.wrap IntKind.u16 ((BitVec.toNat (BitVec.ofInt (IntKind.bits IntKind.u16) a ||| BitVec.ofInt (IntKind.bits IntKind.u16) b) : Nat) : Int)
def flHi (qr aa tc rd ra : Bool) : Int := flOr (flOr (flOr (flOr (bitI qr 32768) (bitI aa 1024)) (bitI tc 512)) (bitI rd 256)) (bitI ra 128)
def flHv (qr aa tc rd ra : Bool) : Int := 32768 * bitI qr 1 + 1024 * bitI aa 1 + 512 * bitI tc 1 + 256 * bitI rd 1 + 128 * bitI ra 1
def flTest : Bool := [true, false].all fun qr => [true, false].all fun aa => [true, false].all fun tc => [true, false].all fun rd => [true, false].all fun ra => (List.range 16).all fun op =>
 flOr (flHi qr aa tc rd ra) ((op * 2048 : Nat) : Int) == flHv qr aa tc rd ra + ((op * 2048 : Nat) : Int)
theorem fl_test : flTest = true := by kernel_rfl
theorem flHi_or (qr aa tc rd ra : Bool) {op : Int} (h : 0 ≤ op ∧ op ≤ 15) : flOr (flHi qr aa tc rd ra) (op * 2048) = flHv qr aa tc rd ra + op * 2048 := by
 have ht := fl_test
 unfold flTest at ht
 simp only [List.all_eq_true] at ht
 have hm : ∀ b : Bool, b ∈ [true, false] := fun b => by cases b <;> simp
 have := ht qr (hm _) aa (hm _) tc (hm _) rd (hm _) ra (hm _) op.toNat (List.mem_range.2 (by omega))
 rw [beq_iff_eq, show ((op.toNat * 2048 : Nat) : Int) = op * 2048 by omega] at this
 exact this
theorem lo_or {x : Int} {rc : Int} (hx : 0 ≤ x ∧ x < 4096) (h : 0 ≤ rc ∧ rc ≤ 15) : flOr (16 * x) rc = 16 * x + rc := by
 obtain ⟨a, rfl⟩ := Int.eq_ofNat_of_zero_le hx.1
 obtain ⟨b, rfl⟩ := Int.eq_ofNat_of_zero_le h.1
 have h1 : (BitVec.ofInt (IntKind.bits IntKind.u16) (16 * (a : Int))).toNat = 2 ^ 4 * a := by
  rw [BitVec.toNat_ofInt]
  show ((16 * (a : Int)) % ((2 ^ 16 : Nat) : Int)).toNat = _
  rw [Int.emod_eq_of_lt (by omega) (by omega)]
  omega
 have h2 : (BitVec.ofInt (IntKind.bits IntKind.u16) (b : Int)).toNat = b := by
  rw [BitVec.toNat_ofInt]
  show ((b : Int) % ((2 ^ 16 : Nat) : Int)).toNat = _
  rw [Int.emod_eq_of_lt (by omega) (by omega)]
  omega
 unfold flOr
 rw [BitVec.toNat_or, h1, h2, ← Nat.two_pow_add_eq_or_of_lt (by omega), IntWalk.u16_in _ (by omega)]
 omega
theorem bit_le (x : Bool) : 0 ≤ bitI x 1 ∧ bitI x 1 ≤ 1 := by cases x <;> decide
theorem mayN_iff {m : MGt} : mayN m = true ↔ (0 ≤ m.2.2.2.2.2.2.1 ∧ m.2.2.2.2.2.2.1 ≤ 15) ∧ 0 ≤ m.2.2.2.2.2.2.2.1 ∧ m.2.2.2.2.2.2.2.1 ≤ 15 := by
 unfold mayN
 rw [Bool.and_eq_true, Bool.and_eq_true, Bool.and_eq_true, decide_eq_true_eq, decide_eq_true_eq, decide_eq_true_eq, decide_eq_true_eq]
 exact ⟨fun ⟨a, b, c, d⟩ => ⟨⟨a, b⟩, c, d⟩, fun ⟨⟨a, b⟩, c, d⟩ => ⟨a, b, c, d⟩⟩
theorem flagV_eq {m : MGt} (h : mayN m = true) : flOr (flOr (flHi m.2.1 m.2.2.1 m.2.2.2.1 m.2.2.2.2.1 m.2.2.2.2.2.1) (m.2.2.2.2.2.2.1 * 2048)) m.2.2.2.2.2.2.2.1 = flagV m := by
 obtain ⟨h1, h2⟩ := mayN_iff.1 h
 obtain ⟨id, qr, aa, tc, rd, ra, op, rc, _⟩ := m
 simp only at h1 h2 ⊢
 unfold flagV
 simp only
 have b1 := bit_le qr
 have b2 := bit_le aa
 have b3 := bit_le tc
 have b4 := bit_le rd
 have b5 := bit_le ra
 rw [flHi_or _ _ _ _ _ h1]
 unfold flHv
 have := lo_or (x := 2048 * bitI qr 1 + 64 * bitI aa 1 + 32 * bitI tc 1 + 16 * bitI rd 1 + 8 * bitI ra 1 + 128 * op) (by omega) h2
 rw [show 32768 * bitI qr 1 + 1024 * bitI aa 1 + 512 * bitI tc 1 + 256 * bitI rd 1 + 128 * bitI ra 1 + op * 2048 = 16 * (2048 * bitI qr 1 + 64 * bitI aa 1 + 32 * bitI tc 1 + 16 * bitI rd 1 + 8 * bitI ra 1 + 128 * op) by omega, this]
 omega
theorem flagV_in {m : MGt} (h : mayN m = true) : 0 ≤ flagV m ∧ flagV m ≤ 65535 := by
 obtain ⟨h1, h2⟩ := mayN_iff.1 h
 obtain ⟨id, qr, aa, tc, rd, ra, op, rc, _⟩ := m
 simp only at h1 h2
 unfold flagV
 simp only
 have b1 := bit_le qr
 have b2 := bit_le aa
 have b3 := bit_le tc
 have b4 := bit_le rd
 have b5 := bit_le ra
 omega
def fs109w : FSpec := fs109.like fun (m, _) => .on (mayN m) (flagV m, ())
theorem okf109w : fs109w.Ok Try.prog := by
 refine flike_ok okf109 _ ?_
 rintro ⟨(m : MGt), _⟩ y h
 obtain ⟨hb, rfl⟩ := Tr.get_on h
 have hb : mayN m = true := hb
 refine convR_of (vs := [.int .u16 (flagV m)]) rfl rfl (Tr.get_of_all ?_)
 show (t109 m).all _
 obtain ⟨h1, h2⟩ := mayN_iff.1 hb
 have e := flagV_eq hb
 have e1 : IntKind.wrap .u16 (IntKind.wrap .u16 m.2.2.2.2.2.2.1 * (2 : Int) ^ min (Int.toNat (11 : Int)) (IntKind.bits IntKind.u16)) = m.2.2.2.2.2.2.1 * 2048 := by
  rw [show (2 : Int) ^ min (Int.toNat (11 : Int)) (IntKind.bits IntKind.u16) = 2048 from rfl, IntWalk.u16_in m.2.2.2.2.2.2.1 (by omega), IntWalk.u16_in _ (by omega)]
 have e2 : IntKind.wrap .u16 m.2.2.2.2.2.2.2.1 = m.2.2.2.2.2.2.2.1 := IntWalk.u16_in _ (by omega)
 refine Tr.all_ret ?_
 rw [e1, e2, ← e]
 rfl
def headB (m : MGt) : List UInt8 := put16 m.1 ++ put16 (flagV m) ++ (put16 ((mQ m).length : Int) ++ put16 ((mAn m).length : Int) ++ put16 ((mNs m).length : Int) ++ put16 ((mAr m).length : Int))
def lesM (m : MGt) : Bool := decide ((mQ m).length ≤ 1500) && (decide ((mAn m).length ≤ 1500) && (decide ((mNs m).length ≤ 1500) && decide ((mAr m).length ≤ 1500)))
theorem lesM_iff {m : MGt} : lesM m = true ↔ (mQ m).length ≤ 1500 ∧ (mAn m).length ≤ 1500 ∧ (mNs m).length ≤ 1500 ∧ (mAr m).length ≤ 1500 := by
 unfold lesM
 simp only [Bool.and_eq_true, decide_eq_true_eq]
def fs112w : FSpec := fs112.like fun (m, _) => .on (mayN m && (n16C m.1 && lesM m)) (headB m, ())
theorem n16_of {n : Int} (h : 0 ≤ n ∧ n ≤ 65535) : n16C n = true := by
 unfold n16C
 rw [dec_true h.1, dec_true h.2]; rfl
theorem okf112w : fs112w.Ok Try.prog := by
 refine flike_ok okf112 _ ?_
 rintro ⟨(m : MGt), _⟩ y h
 obtain ⟨hb, rfl⟩ := Tr.get_on h
 have hb : (mayN m && (n16C m.1 && lesM m)) = true := hb
 rw [Bool.and_eq_true, Bool.and_eq_true, lesM_iff] at hb
 obtain ⟨hn, hi, l1, l2, l3, l4⟩ := hb
 refine convR_of (vs := [.str (headB m)]) rfl rfl (Tr.get_of_all ?_)
 show (t112 m).all _
 obtain ⟨h1, h2⟩ := mayN_iff.1 hn
 obtain ⟨id, qr, aa, tc, rd, ra, op, rc, q, an, ns, ar⟩ := m
 unfold t112 headB mQ mAn mNs mAr at *
 simp only at *
 have b1 := bit_le qr
 have b2 := bit_le aa
 have b3 := bit_le tc
 have b4 := bit_le rd
 have b5 := bit_le ra
 have w1 : IntKind.wrap .u16 (q.length : Int) = q.length := IntWalk.u16_in _ (by omega)
 have w2 : IntKind.wrap .u16 (an.length : Int) = an.length := IntWalk.u16_in _ (by omega)
 have w3 : IntKind.wrap .u16 (ns.length : Int) = ns.length := IntWalk.u16_in _ (by omega)
 have w4 : IntKind.wrap .u16 (ar.length : Int) = ar.length := IntWalk.u16_in _ (by omega)
 rw [w1, w2, w3, w4]
 refine Tr.all_t hi (Tr.all_t (n16_of (by omega)) (Tr.all_t (n16_of (by omega)) (Tr.all_t (n16_of (by omega)) (Tr.all_t (n16_of (by omega)) (Tr.all_ret ?_)))))
 have f : flagV (id, qr, aa, tc, rd, ra, op, rc, q, an, ns, ar) = 32768 * bitI qr 1 + 2048 * op + 1024 * bitI aa 1 + 512 * bitI tc 1 + 256 * bitI rd 1 + 128 * bitI ra 1 + rc := rfl
 have e1 : IntKind.wrap .u8 (IntKind.wrap .i64 (IntKind.wrap .i64 (IntKind.wrap .i64 (IntKind.wrap .i64 (IntKind.wrap .i64 ((128 : Int) * bitI qr (1 : Int)) + IntKind.wrap .i64 ((8 : Int) * op)) + IntKind.wrap .i64 ((4 : Int) * bitI aa (1 : Int))) + IntKind.wrap .i64 ((2 : Int) * bitI tc (1 : Int))) + bitI rd (1 : Int))) = flagV (id, qr, aa, tc, rd, ra, op, rc, q, an, ns, ar) / 256 := by
  simp (disch := omega) only [IntWalk.i64_in]
  rw [IntWalk.u8_in _ (by omega), f]
  omega
 have e2 : IntKind.wrap .u8 (IntKind.wrap .i64 (IntKind.wrap .i64 ((128 : Int) * bitI ra (1 : Int)) + rc)) = flagV (id, qr, aa, tc, rd, ra, op, rc, q, an, ns, ar) % 256 := by
  simp (disch := omega) only [IntWalk.i64_in]
  rw [IntWalk.u8_in _ (by omega), f]
  omega
 rw [e1, e2]
 rfl
abbrev MO (mi : Int) (mqr maa mtc mrd mra : Bool) (mop mrc : Int) (mq : List QQt) (man mns mar : List RRt) : LObj := .box [.int .u16 mi, .bool mqr, .bool maa, .bool mtc, .bool mrd, .bool mra, .int .i64 mop, .int .i64 mrc, .list QQ mq, .list RR man, .list RR mns, .list RR mar]
abbrev MOs : ShO := .box [.d (.int .u16) false, .d .bool false, .d .bool false, .d .bool false, .d .bool false, .d .bool false, .d (.int .i64) false, .d (.int .i64) false, .d (.list QQ) false, .d (.list RR) false, .d (.list RR) false, .d (.list RR) false]
abbrev MOg (m : MGt) : LObj := MO m.1 m.2.1 m.2.2.1 m.2.2.2.1 m.2.2.2.2.1 m.2.2.2.2.2.1 m.2.2.2.2.2.2.1 m.2.2.2.2.2.2.2.1 m.2.2.2.2.2.2.2.2.1 m.2.2.2.2.2.2.2.2.2.1 m.2.2.2.2.2.2.2.2.2.2.1 m.2.2.2.2.2.2.2.2.2.2.2
def putQs : List QQt → PKt → PKt
 | [], p => p
 | q :: l, p => putQs l (putQ q p)
def putRs : List RRt → PKt → PKt
 | [], p => p
 | r :: l, p => putRs l (recP r p)
def rgR (r : RRt) : Bool := recV r && rngR r
def rgQ (q : QQt) : Bool := mayV q.1 && (n16C q.2.1 && n16C q.2.2)
theorem rgR_ok {r : RRt} (h : rgR r = true) : recV r = true ∧ rOk r = true ∧ r.1.length ≤ 255 ∧ r.2.2.2.2.length ≤ 65535 := by
 obtain ⟨h1, h2⟩ := Bool.and_eq_true_iff.1 h
 obtain ⟨m1, m2⟩ := Bool.and_eq_true_iff.1 (show (mayV r.1 && mayR r.2.1 r.2.2.2.2) = true from h1)
 have hn := (may_iff.1 m1).2.1
 have hd := (may_parts m2).2.2.1
 unfold rngR at h2
 rw [Bool.and_eq_true, Bool.and_eq_true] at h2
 exact ⟨h1, rOk_iff.2 ⟨by omega, h2.1, h2.2.1, h2.2.2, by omega⟩, by omega, by omega⟩
theorem rgQ_ok {q : QQt} (h : rgQ q = true) : mayV q.1 = true ∧ qOk q = true ∧ q.1.length ≤ 255 := by
 unfold rgQ at h
 rw [Bool.and_eq_true, Bool.and_eq_true] at h
 have hn := (may_iff.1 h.1).2.1
 exact ⟨h.1, qOk_iff.2 ⟨by omega, h.2.1, h.2.2⟩, by omega⟩
theorem putQs_good : ∀ {l : List QQt} {P : PKt}, l.all rgQ = true → kOk P.2 = true → kOk (putQs l P).2 = true ∧ (putQs l P).1.length ≤ P.1.length + 300 * l.length ∧ (putQs l P).2.length ≤ P.2.length + 300 * l.length
 | [], P, _, hk => ⟨hk, by simp [putQs], by simp [putQs]⟩
 | q :: l, P, h, hk => by
   rw [List.all_cons, Bool.and_eq_true] at h
   obtain ⟨q1, _, q3⟩ := rgQ_ok h.1
   obtain ⟨a, b, c⟩ := putQ_good (P := P) q1 hk
   obtain ⟨d, e, f⟩ := putQs_good (P := putQ q P) h.2 a
   rw [putQs, List.length_cons]
   exact ⟨d, by omega, by omega⟩
theorem putRs_good : ∀ {l : List RRt} {P : PKt}, l.all rgR = true → kOk P.2 = true → kOk (putRs l P).2 = true ∧ (putRs l P).1.length ≤ P.1.length + 66000 * l.length ∧ (putRs l P).2.length ≤ P.2.length + 66000 * l.length
 | [], P, _, hk => ⟨hk, by simp [putRs], by simp [putRs]⟩
 | r :: l, P, h, hk => by
   rw [List.all_cons, Bool.and_eq_true] at h
   obtain ⟨q1, _, q3, q4⟩ := rgR_ok h.1
   obtain ⟨a, b, c⟩ := recP_good (P := P) q1 hk
   obtain ⟨d, e, f⟩ := putRs_good (P := recP r P) h.2 a
   rw [putRs, List.length_cons]
   exact ⟨d, by omega, by omega⟩
theorem putRs_app : ∀ (l l' : List RRt) (P : PKt), putRs (l ++ l') P = putRs l' (putRs l P)
 | [], l', P => rfl
 | r :: l, l', P => putRs_app l l' (recP r P)
def bgB (b : List Int) (m : Known) (n : Nat) : Bool := bytesOk b && (kOk m && Nat.ble b.length n)
theorem bgB_iff {b : List Int} {m : Known} {n : Nat} : bgB b m n = true ↔ bytesOk b = true ∧ kOk m = true ∧ b.length ≤ n := by
 unfold bgB
 rw [Bool.and_eq_true, Bool.and_eq_true]
 exact ⟨fun ⟨a, b, c⟩ => ⟨a, b, Nat.le_of_ble_eq_true c⟩, fun ⟨a, b, c⟩ => ⟨a, b, Nat.ble_eq_true_of_le c⟩⟩
def rcsC (l : List RRt) (b : List Int) (m : Known) (k i : Int) : Bool := (l.all rgR && Nat.ble l.length 4500) && (decide (k = (l.length : Int)) && (decide (i = 0) && bgB b m 10000000))
def qsC (l : List QQt) (b : List Int) (m : Known) (k i : Int) : Bool := (l.all rgQ && Nat.ble l.length 1500) && (decide (k = (l.length : Int)) && (decide (i = 0) && bgB b m 1000))
def cntB (l : List Int) : List UInt8 := (l.map put16).flatten
def cnC (l : List Int) (b : List Int) (k i : Int) : Bool := (l.all n16C && Nat.ble l.length 4) && (decide (k = (l.length : Int)) && (decide (i = 0) && Nat.ble b.length 100))
noncomputable def b110 : Code := nthLoop c110 0
def ls110 : LoopSpec := { bid := 0, sh := [.ptr 0 0, .d (.list RR) false, .d (.int .i64) false, .d (.int .i64) false], so := [.box [.row 1, .mp 2], .row (.int .u8), .map .str (.int .i64)], F := fun (l, k, i, _) (_, b, m, _) => .on (rcsC l b m k i) (.exit 0, [], [.box [.rowA 1, .mp 2], .row (.int .u8) (bytesInt (putRs l (intBytes b, m)).1), .mpo .str (.int .i64) (putRs l (intBytes b, m)).2]) }
def r110 (l : List RRt) (k i : Int) (b : List Int) (m : List (List UInt8 × Int)) : Tr (St ⊕ (Ex × St)) := .br (decide (i < k)) (.br (decide (0 ≤ i)) (.br (decide (i < (↑l.length : Int))) (.br (pkS b m && rOk (l.getD i.toNat (Ty.dflt RR))) (.br (recV (l.getD i.toNat (Ty.dflt RR))) (.ret (.inl (stOf [0, 6, 7, 8] [.ptr 0 0, .list RR l, .int .i64 k, .int .i64 (IntKind.wrap .i64 (i + 1))] [.boxT none [.rowA 1, .mp 2], .row (.int .u8) (bytesInt (recP (l.getD i.toNat (Ty.dflt RR)) (intBytes b, m)).1), .mpo .str (.int .i64) (recP (l.getD i.toNat (Ty.dflt RR)) (intBytes b, m)).2]))) (.ret (.inl (stOf [0, 6, 7, 8] [.ptr 0 0, .list RR l, .int .i64 k, .int .i64 (IntKind.wrap .i64 (i + 1))] [.boxT none [.rowA 1, .mp 2], .row (.int .u8) b, .mpo .str (.int .i64) m])))) .no) .no) .no) (.ret (.inr (.exit 0, stOf [] [] [.boxT none [.rowA 1, .mp 2], .row (.int .u8) b, .mpo .str (.int .i64) m])))
theorem round110 (lp : Lp) (l : List RRt) (k i : Int) (b : List Int) (m : List (List UInt8 × Int)) : evC T0 (orcB [] [os24w]) lp b110 0 (stOf [0, 6, 7, 8] [.ptr 0 0, .list RR l, .int .i64 k, .int .i64 i] [.box [.rowA 1, .mp 2], .row (.int .u8) b, .mpo .str (.int .i64) m]) (roundK [0, 6, 7, 8] [] 3) = (r110 l k i b m).get := by kernel_rfl
theorem wf110 (l : List RRt) (k : Int) (I'' : List Int → List (List UInt8 × Int) → Int → Prop) (m'' : List Int → List (List UInt8 × Int) → Int → Nat) (r'' : Ex × St) (h : ∀ (b : List Int) (m : List (List UInt8 × Int)) (i : Int), I'' b m i → (r110 l k i b m).all fun x'' => x'' = .inr r'' ∨ ∃ (b' : List Int) (m' : List (List UInt8 × Int)) (i' : Int), x'' = .inl (stOf [0, 6, 7, 8] [.ptr 0 0, .list RR l, .int .i64 k, .int .i64 i'] [.box [.rowA 1, .mp 2], .row (.int .u8) b', .mpo .str (.int .i64) m']) ∧ I'' b' m' i' ∧ m'' b' m' i' < m'' b m i) (lp : Lp) (b : List Int) (m : List (List UInt8 × Int)) (i : Int) : I'' b m i →
    loopF (fun st => evC T0 (orcB [] [os24w]) lp b110 0 st (roundK [0, 6, 7, 8] [] 3)) (stOf [0, 6, 7, 8] [.ptr 0 0, .list RR l, .int .i64 k, .int .i64 i] [.box [.rowA 1, .mp 2], .row (.int .u8) b, .mpo .str (.int .i64) m]) = some r'' :=
 loop_tr (fun a'' : List Int × List (List UInt8 × Int) × Int => stOf [0, 6, 7, 8] [.ptr 0 0, .list RR l, .int .i64 k, .int .i64 a''.2.2] [.box [.rowA 1, .mp 2], .row (.int .u8) a''.1, .mpo .str (.int .i64) a''.2.1]) (fun a'' => I'' a''.1 a''.2.1 a''.2.2) (fun a'' => m'' a''.1 a''.2.1 a''.2.2) r'' (fun a'' => r110 l k a''.2.2 a''.1 a''.2.1)
  (fun a'' x hx => (round110 lp l k a''.2.2 a''.1 a''.2.1).trans hx) (fun a'' ha => Tr.all_mono (fun x'' hx => hx.imp id fun ⟨b', m', i', h1, h2, h3⟩ => ⟨(b', m', i'), h1, h2, h3⟩) (h (a''.1) (a''.2.1) (a''.2.2) ha)) (b, m, i)
def rcsI (l : List RRt) (p0 : PKt) (b : List Int) (m : Known) (i : Int) : Prop := 0 ≤ i ∧ i ≤ l.length ∧ ∃ p : PKt, b = bytesInt p.1 ∧ m = p.2 ∧ kOk p.2 = true ∧ p.1.length ≤ 10000000 + 66000 * i.toNat ∧ putRs (l.drop i.toNat) p = putRs l p0
theorem loop110 : ls110.Ok T0 (orcB [] [os24w]) h110 3 0 b110 := by
 intro q'' hq'' x'' y'' r'' h
 obtain ⟨(l : List RRt), (k : Int), (i : Int), _⟩ := x''
 obtain ⟨_, (b : List Int), (m : List (List UInt8 × Int)), _⟩ := y''
 obtain ⟨hc, rfl⟩ := Tr.get_on h
 show loopF (fun st => evC T0 (orcB [] [os24w]) (lpN T0 (orcB [] [os24w]) h110 3 q'') b110 0 st (roundK [0, 6, 7, 8] [] 3)) (stOf [0, 6, 7, 8] [.ptr 0 0, .list RR l, .int .i64 k, .int .i64 i] [.box [.rowA 1, .mp 2], .row (.int .u8) b, .mpo .str (.int .i64) m]) = some (.exit 0, stOf [] ([]) ([.box [.rowA 1, .mp 2], .row (.int .u8) (bytesInt (putRs l (intBytes b, m)).1), .mpo .str (.int .i64) (putRs l (intBytes b, m)).2]))
 simp only [rcsC, Bool.and_eq_true, decide_eq_true_eq, bgB_iff] at hc
 obtain ⟨⟨hall, hl⟩, rfl, rfl, hok, hk, hb⟩ := hc
 have hl := Nat.le_of_ble_eq_true hl
 refine wf110 l l.length (rcsI l (intBytes b, m)) (fun _ _ i => (l.length - i).toNat) _ ?_ _ b m 0 ⟨by omega, by omega, (intBytes b, m), (bytes_intB hok).symm, rfl, hk, by rw [intB_len]; omega, rfl⟩
 clear hok hk hb
 rintro b' m' i ⟨h0, h1, p, rfl, rfl, hk, hpl, hF⟩
 rw [← hF]
 unfold r110
 by_cases hi : i < l.length
 · obtain ⟨d1, d2⟩ := drop_getD (Ty.dflt RR) h0 hi
   generalize List.getD l (Int.toNat i) (Ty.dflt RR) = r at d1 d2
   rw [d1, putRs] at hF
   obtain ⟨q1, q2, q3, q4⟩ := rgR_ok (List.all_eq_true.1 hall r d2)
   obtain ⟨k1, k2, k3⟩ := recP_good (P := p) q1 hk
   have hpk : (pkS (bytesInt p.1) p.2 && rOk r) = true := by rw [pkS_iff.2 ⟨bytesInt_ok _, hk, by rw [bytesInt_len]; omega⟩, q2]; rfl
   rw [intB_bytes, wrap_succ h0 h1 (by omega)]
   exact Tr.all_t (dec_true hi) (Tr.all_t (dec_true h0) (Tr.all_t (dec_true hi) (Tr.all_t hpk (Tr.all_t q1 (Tr.all_ret (.inr ⟨_, _, _, rfl, ⟨by omega, by omega, recP r p, rfl, rfl, k1, by omega, hF⟩, by omega⟩))))))
 · refine Tr.all_f (dec_false hi) (Tr.all_ret (.inl ?_))
   rw [List.drop_eq_nil_of_le (by omega)]
   rfl
def t110 (l : List RRt) (b : List Int) (m : List (List UInt8 × Int)) : Tr Res := .br (rcsC l b m (↑l.length : Int) 0) (.ret ([], [.boxT none [.rowA 1, .mp 2], .row (.int .u8) (bytesInt (putRs l (intBytes b, m)).1), .mpo .str (.int .i64) (putRs l (intBytes b, m)).2])) .no
def os110 : OSpec := { f := 110, sh := [.ptr 0 0, .d (.list RR) false], so := [.box [.row 1, .mp 2], .row (.int .u8), .map .str (.int .i64)], F := fun (l, _) (_, b, m, _) => t110 l b m }
theorem fn110 (l : List RRt) (b : List Int) (m : List (List UInt8 × Int)) : evC T0 (orcB [] [os24w]) (lpOf h110 3 (lsOf [ls110])) c110 1000000 (startSt [.ptr 0 0, .list RR l] [.box [.rowA 1, .mp 2], .row (.int .u8) b, .mpo .str (.int .i64) m] Try.f110.ntmps) (finishK T0 false 3 Try.f110) = (t110 l b m).get := by kernel_rfl
theorem ok110 : os110.Ok Try.prog := by
 refine os_ok mixed0 tab0 (orcB_sound all_nil (all_cons ok24w all_nil)) h110 (d := 0) (n0 := 3) (S := lsOf [ls110]) Try.func110 (by kernel_rfl) (c := c110) (by kernel_rfl) rfl (loops_eq (xs := [(0, b110)]) (by kernel_rfl) (all_cons (ls_here loop110) all_nil)) (by omega) (by kernel_rfl) ?_
 intro x'' y'' q'' hq''
 obtain ⟨(l : List RRt), _⟩ := x''
 obtain ⟨_, (b : List Int), (m : List (List UInt8 × Int)), _⟩ := y''
 exact (fn110 l b m).trans hq''
def os110w : OSpec := os110.like fun (l, _) (_, b, m, _) => .on (rcsC l b m (l.length : Int) 0) ([], pkO (bytesInt (putRs l (intBytes b, m)).1) (putRs l (intBytes b, m)).2)
theorem ok110w : os110w.Ok Try.prog := by
 refine like_ok ok110 _ ?_
 rintro ⟨(l : List RRt), _⟩ ⟨_, (b : List Int), (m : Known), _⟩ r h
 obtain ⟨hc, rfl⟩ := Tr.get_on h
 refine Tr.get_of_all ?_
 show (t110 l b m).all _
 exact Tr.all_t hc (Tr.all_ret rfl)
noncomputable def b77 : Code := nthLoop c77 0
def ls77 : LoopSpec := { bid := 0, sh := [.ptr 0 0, .ptr 1 0, .row 4, .d (.int .i64) false, .d (.int .i64) false], so := [MOs, .box [.row 2, .mp 3], .row (.int .u8), .map .str (.int .i64), .row (.int .i64)], F := fun (k, i, _) ((mi, mqr, maa, mtc, mrd, mra, mop, mrc, mq, man, mns, mar, _), _, b, m, cs, _) => .on (cnC cs b k i) (.exit 0, [.ptr 0 0, .ptr 1 0], [MO mi mqr maa mtc mrd mra mop mrc mq man mns mar, .box [.rowA 2, .mp 3], .row (.int .u8) (b ++ bytesInt (cntB cs)), .mpo .str (.int .i64) m]) }
def r77 (k i mi : Int) (mqr maa mtc mrd mra : Bool) (mop mrc : Int) (mq : List QQt) (man mns mar : List RRt) (b : List Int) (m : List (List UInt8 × Int)) (cs : List Int) : Tr (St ⊕ (Ex × St)) := .br (decide (i < k)) (.br (decide (0 ≤ i)) (.br (decide (i < (↑cs.length : Int))) (.br (n16C (IntKind.wrap .u16 (cs.getD i.toNat (Ty.dflt (Ty.int .i64))))) (.br (fits (List.length b + List.length (bytesInt (put16 (IntKind.wrap .u16 (cs.getD i.toNat (Ty.dflt (Ty.int .i64))))))) 1) (.ret (.inl (stOf [1, 3, 30, 31, 32] [.ptr 0 0, .ptr 1 0, .rowA 4, .int .i64 k, .int .i64 (IntKind.wrap .i64 (i + 1))] [MO mi mqr maa mtc mrd mra mop mrc mq man mns mar, .boxT none [.rowA 2, .mp 3], .row (.int .u8) (b ++ bytesInt (put16 (IntKind.wrap .u16 (cs.getD i.toNat (Ty.dflt (Ty.int .i64)))))), .mpo .str (.int .i64) m, .row (.int .i64) cs]))) .no) .no) .no) .no) (.ret (.inr (.exit 0, stOf [1, 3] [.ptr 0 0, .ptr 1 0] [MO mi mqr maa mtc mrd mra mop mrc mq man mns mar, .boxT none [.rowA 2, .mp 3], .row (.int .u8) b, .mpo .str (.int .i64) m])))
theorem round77 (lp : Lp) (k i mi : Int) (mqr maa mtc mrd mra : Bool) (mop mrc : Int) (mq : List QQt) (man mns mar : List RRt) (b : List Int) (m : List (List UInt8 × Int)) (cs : List Int) : evC T0 (orcB [fs61w, fs109w, fs111w] [os21, os60, os26, os22w, os110w]) lp b77 0 (stOf [1, 3, 30, 31, 32] [.ptr 0 0, .ptr 1 0, .rowA 4, .int .i64 k, .int .i64 i] [MO mi mqr maa mtc mrd mra mop mrc mq man mns mar, .box [.rowA 2, .mp 3], .row (.int .u8) b, .mpo .str (.int .i64) m, .row (.int .i64) cs]) (roundK [1, 3, 30, 31, 32] [1, 3] 0) = (r77 k i mi mqr maa mtc mrd mra mop mrc mq man mns mar b m cs).get := by kernel_rfl
theorem wf77 (k mi : Int) (mqr maa mtc mrd mra : Bool) (mop mrc : Int) (mq : List QQt) (man mns mar : List RRt) (m : List (List UInt8 × Int)) (cs : List Int) (I'' : List Int → Int → Prop) (m'' : List Int → Int → Nat) (r'' : Ex × St) (h : ∀ (b : List Int) (i : Int), I'' b i → (r77 k i mi mqr maa mtc mrd mra mop mrc mq man mns mar b m cs).all fun x'' => x'' = .inr r'' ∨ ∃ (b' : List Int) (i' : Int), x'' = .inl (stOf [1, 3, 30, 31, 32] [.ptr 0 0, .ptr 1 0, .rowA 4, .int .i64 k, .int .i64 i'] [MO mi mqr maa mtc mrd mra mop mrc mq man mns mar, .box [.rowA 2, .mp 3], .row (.int .u8) b', .mpo .str (.int .i64) m, .row (.int .i64) cs]) ∧ I'' b' i' ∧ m'' b' i' < m'' b i) (lp : Lp) (b : List Int) (i : Int) : I'' b i →
    loopF (fun st => evC T0 (orcB [fs61w, fs109w, fs111w] [os21, os60, os26, os22w, os110w]) lp b77 0 st (roundK [1, 3, 30, 31, 32] [1, 3] 0)) (stOf [1, 3, 30, 31, 32] [.ptr 0 0, .ptr 1 0, .rowA 4, .int .i64 k, .int .i64 i] [MO mi mqr maa mtc mrd mra mop mrc mq man mns mar, .box [.rowA 2, .mp 3], .row (.int .u8) b, .mpo .str (.int .i64) m, .row (.int .i64) cs]) = some r'' :=
 loop_tr (fun a'' : List Int × Int => stOf [1, 3, 30, 31, 32] [.ptr 0 0, .ptr 1 0, .rowA 4, .int .i64 k, .int .i64 a''.2] [MO mi mqr maa mtc mrd mra mop mrc mq man mns mar, .box [.rowA 2, .mp 3], .row (.int .u8) a''.1, .mpo .str (.int .i64) m, .row (.int .i64) cs]) (fun a'' => I'' a''.1 a''.2) (fun a'' => m'' a''.1 a''.2) r'' (fun a'' => r77 k a''.2 mi mqr maa mtc mrd mra mop mrc mq man mns mar a''.1 m cs)
  (fun a'' x hx => (round77 lp k a''.2 mi mqr maa mtc mrd mra mop mrc mq man mns mar a''.1 m cs).trans hx) (fun a'' ha => Tr.all_mono (fun x'' hx => hx.imp id fun ⟨b', i', h1, h2, h3⟩ => ⟨(b', i'), h1, h2, h3⟩) (h (a''.1) (a''.2) ha)) (b, i)
noncomputable def b77q : Code := nthLoop c77 1
def ls77q : LoopSpec := { bid := 2, sh := [.ptr 0 0, .ptr 1 0, .d (.list QQ) false, .d (.int .i64) false, .d (.int .i64) false], so := [MOs, .box [.row 2, .mp 3], .row (.int .u8), .map .str (.int .i64)], F := fun (qs, k, i, _) ((mi, mqr, maa, mtc, mrd, mra, mop, mrc, mq, man, mns, mar, _), _, b, m, _) => .on (qsC qs b m k i) (.exit 2, [.ptr 0 0, .ptr 1 0], [MO mi mqr maa mtc mrd mra mop mrc mq man mns mar, .box [.rowA 2, .mp 3], .row (.int .u8) (bytesInt (putQs qs (intBytes b, m)).1), .mpo .str (.int .i64) (putQs qs (intBytes b, m)).2]) }
def r77q (qs : List QQt) (k i mi : Int) (mqr maa mtc mrd mra : Bool) (mop mrc : Int) (mq : List QQt) (man mns mar : List RRt) (b : List Int) (m : List (List UInt8 × Int)) : Tr (St ⊕ (Ex × St)) := .br (decide (i < k)) (.br (decide (0 ≤ i)) (.br (decide (i < (↑qs.length : Int))) (.br (pkT b m && qOk (qs.getD i.toNat (Ty.dflt QQ))) (.br (mayV (qs.getD i.toNat (Ty.dflt QQ)).1) (.ret (.inl (stOf [1, 3, 43, 44, 45] [.ptr 0 0, .ptr 1 0, .list QQ qs, .int .i64 k, .int .i64 (IntKind.wrap .i64 (i + 1))] [MO mi mqr maa mtc mrd mra mop mrc mq man mns mar, .boxT none [.rowA 2, .mp 3], .row (.int .u8) (bytesInt (putQ (qs.getD i.toNat (Ty.dflt QQ)) (intBytes b, m)).1), .mpo .str (.int .i64) (putQ (qs.getD i.toNat (Ty.dflt QQ)) (intBytes b, m)).2]))) (.ret (.inl (stOf [1, 3, 43, 44, 45] [.ptr 0 0, .ptr 1 0, .list QQ qs, .int .i64 k, .int .i64 (IntKind.wrap .i64 (i + 1))] [MO mi mqr maa mtc mrd mra mop mrc mq man mns mar, .boxT none [.rowA 2, .mp 3], .row (.int .u8) b, .mpo .str (.int .i64) m])))) .no) .no) .no) (.ret (.inr (.exit 2, stOf [1, 3] [.ptr 0 0, .ptr 1 0] [MO mi mqr maa mtc mrd mra mop mrc mq man mns mar, .boxT none [.rowA 2, .mp 3], .row (.int .u8) b, .mpo .str (.int .i64) m])))
theorem round77q (lp : Lp) (qs : List QQt) (k i mi : Int) (mqr maa mtc mrd mra : Bool) (mop mrc : Int) (mq : List QQt) (man mns mar : List RRt) (b : List Int) (m : List (List UInt8 × Int)) : evC T0 (orcB [fs61w, fs109w, fs111w] [os21, os60, os26, os22w, os110w]) lp b77q 2 (stOf [1, 3, 43, 44, 45] [.ptr 0 0, .ptr 1 0, .list QQ qs, .int .i64 k, .int .i64 i] [MO mi mqr maa mtc mrd mra mop mrc mq man mns mar, .box [.rowA 2, .mp 3], .row (.int .u8) b, .mpo .str (.int .i64) m]) (roundK [1, 3, 43, 44, 45] [1, 3] 0) = (r77q qs k i mi mqr maa mtc mrd mra mop mrc mq man mns mar b m).get := by kernel_rfl
theorem wf77q (qs : List QQt) (k mi : Int) (mqr maa mtc mrd mra : Bool) (mop mrc : Int) (mq : List QQt) (man mns mar : List RRt) (I'' : List Int → List (List UInt8 × Int) → Int → Prop) (m'' : List Int → List (List UInt8 × Int) → Int → Nat) (r'' : Ex × St) (h : ∀ (b : List Int) (m : List (List UInt8 × Int)) (i : Int), I'' b m i → (r77q qs k i mi mqr maa mtc mrd mra mop mrc mq man mns mar b m).all fun x'' => x'' = .inr r'' ∨ ∃ (b' : List Int) (m' : List (List UInt8 × Int)) (i' : Int), x'' = .inl (stOf [1, 3, 43, 44, 45] [.ptr 0 0, .ptr 1 0, .list QQ qs, .int .i64 k, .int .i64 i'] [MO mi mqr maa mtc mrd mra mop mrc mq man mns mar, .box [.rowA 2, .mp 3], .row (.int .u8) b', .mpo .str (.int .i64) m']) ∧ I'' b' m' i' ∧ m'' b' m' i' < m'' b m i) (lp : Lp) (b : List Int) (m : List (List UInt8 × Int)) (i : Int) : I'' b m i →
    loopF (fun st => evC T0 (orcB [fs61w, fs109w, fs111w] [os21, os60, os26, os22w, os110w]) lp b77q 2 st (roundK [1, 3, 43, 44, 45] [1, 3] 0)) (stOf [1, 3, 43, 44, 45] [.ptr 0 0, .ptr 1 0, .list QQ qs, .int .i64 k, .int .i64 i] [MO mi mqr maa mtc mrd mra mop mrc mq man mns mar, .box [.rowA 2, .mp 3], .row (.int .u8) b, .mpo .str (.int .i64) m]) = some r'' :=
 loop_tr (fun a'' : List Int × List (List UInt8 × Int) × Int => stOf [1, 3, 43, 44, 45] [.ptr 0 0, .ptr 1 0, .list QQ qs, .int .i64 k, .int .i64 a''.2.2] [MO mi mqr maa mtc mrd mra mop mrc mq man mns mar, .box [.rowA 2, .mp 3], .row (.int .u8) a''.1, .mpo .str (.int .i64) a''.2.1]) (fun a'' => I'' a''.1 a''.2.1 a''.2.2) (fun a'' => m'' a''.1 a''.2.1 a''.2.2) r'' (fun a'' => r77q qs k a''.2.2 mi mqr maa mtc mrd mra mop mrc mq man mns mar a''.1 a''.2.1)
  (fun a'' x hx => (round77q lp qs k a''.2.2 mi mqr maa mtc mrd mra mop mrc mq man mns mar a''.1 a''.2.1).trans hx) (fun a'' ha => Tr.all_mono (fun x'' hx => hx.imp id fun ⟨b', m', i', h1, h2, h3⟩ => ⟨(b', m', i'), h1, h2, h3⟩) (h (a''.1) (a''.2.1) (a''.2.2) ha)) (b, m, i)
def cnI (l : List Int) (b0 : List Int) (b : List Int) (i : Int) : Prop := 0 ≤ i ∧ i ≤ l.length ∧ b.length ≤ 100 + 2 * i.toNat ∧ b ++ bytesInt (cntB (l.drop i.toNat)) = b0 ++ bytesInt (cntB l)
theorem n16C_iff {n : Int} : n16C n = true ↔ 0 ≤ n ∧ n ≤ 65535 := by
 unfold n16C
 rw [Bool.and_eq_true, decide_eq_true_eq, decide_eq_true_eq]
theorem loop77 : ls77.Ok T0 (orcB [fs61w, fs109w, fs111w] [os21, os60, os26, os22w, os110w]) h77 0 0 b77 := by
 intro q'' hq'' x'' y'' r'' h
 obtain ⟨(k : Int), (i : Int), _⟩ := x''
 obtain ⟨⟨(mi : Int), (mqr : Bool), (maa : Bool), (mtc : Bool), (mrd : Bool), (mra : Bool), (mop : Int), (mrc : Int), (mq : List QQt), (man : List RRt), (mns : List RRt), (mar : List RRt), _⟩, _, (b : List Int), (m : List (List UInt8 × Int)), (cs : List Int), _⟩ := y''
 obtain ⟨hc, rfl⟩ := Tr.get_on h
 show loopF (fun st => evC T0 (orcB [fs61w, fs109w, fs111w] [os21, os60, os26, os22w, os110w]) (lpN T0 (orcB [fs61w, fs109w, fs111w] [os21, os60, os26, os22w, os110w]) h77 0 q'') b77 0 st (roundK [1, 3, 30, 31, 32] [1, 3] 0)) (stOf [1, 3, 30, 31, 32] [.ptr 0 0, .ptr 1 0, .rowA 4, .int .i64 k, .int .i64 i] [MO mi mqr maa mtc mrd mra mop mrc mq man mns mar, .box [.rowA 2, .mp 3], .row (.int .u8) b, .mpo .str (.int .i64) m, .row (.int .i64) cs]) = some (.exit 0, stOf [1, 3] ([.ptr 0 0, .ptr 1 0]) ([MO mi mqr maa mtc mrd mra mop mrc mq man mns mar, .box [.rowA 2, .mp 3], .row (.int .u8) (b ++ bytesInt (cntB cs)), .mpo .str (.int .i64) m]))
 simp only [cnC, Bool.and_eq_true, decide_eq_true_eq] at hc
 obtain ⟨⟨hall, hl⟩, rfl, rfl, hb⟩ := hc
 have hl := Nat.le_of_ble_eq_true hl
 have hb := Nat.le_of_ble_eq_true hb
 refine wf77 cs.length mi mqr maa mtc mrd mra mop mrc mq man mns mar m cs (cnI cs b) (fun _ i => (cs.length - i).toNat) _ ?_ _ b 0 ⟨by omega, by omega, by omega, rfl⟩
 rintro b' i ⟨h0, h1, hbl, hF⟩
 rw [← hF]
 unfold r77
 by_cases hi : i < cs.length
 · obtain ⟨d1, d2⟩ := drop_getD (Ty.dflt (Ty.int .i64)) h0 hi
   generalize List.getD cs (Int.toNat i) (Ty.dflt (Ty.int .i64)) = n at d1 d2
   have hn := List.all_eq_true.1 hall n d2
   have hw : IntKind.wrap .u16 n = n := IntWalk.u16_in n (by have := n16C_iff.1 hn; omega)
   have e : cntB (cs.drop i.toNat) = put16 n ++ cntB (cs.drop (i + 1).toNat) := by rw [d1]; rfl
   rw [e, bytesInt_app, ← List.append_assoc] at hF
   rw [wrap_succ h0 h1 (by omega), hw, e, bytesInt_app, ← List.append_assoc]
   have hp2 : (bytesInt (put16 n)).length = 2 := by rw [bytesInt_len]; rfl
   refine Tr.all_t (dec_true hi) (Tr.all_t (dec_true h0) (Tr.all_t (dec_true hi) (Tr.all_t hn (Tr.all_t (fits_true (by rw [hp2]; omega) (by rw [hp2]; omega)) (Tr.all_ret (.inr ⟨_, _, rfl, ⟨by omega, by omega, ?_, hF⟩, by omega⟩))))))
   rw [List.length_append, hp2]
   omega
 · refine Tr.all_f (dec_false hi) (Tr.all_ret (.inl ?_))
   rw [List.drop_eq_nil_of_le (by omega), show bytesInt (cntB []) = [] from rfl, List.append_nil]
def qsI (l : List QQt) (p0 : PKt) (b : List Int) (m : Known) (i : Int) : Prop := 0 ≤ i ∧ i ≤ l.length ∧ ∃ p : PKt, b = bytesInt p.1 ∧ m = p.2 ∧ kOk p.2 = true ∧ p.1.length ≤ 1000 + 300 * i.toNat ∧ putQs (l.drop i.toNat) p = putQs l p0
theorem loop77q : ls77q.Ok T0 (orcB [fs61w, fs109w, fs111w] [os21, os60, os26, os22w, os110w]) h77 0 0 b77q := by
 intro q'' hq'' x'' y'' r'' h
 obtain ⟨(qs : List QQt), (k : Int), (i : Int), _⟩ := x''
 obtain ⟨⟨(mi : Int), (mqr : Bool), (maa : Bool), (mtc : Bool), (mrd : Bool), (mra : Bool), (mop : Int), (mrc : Int), (mq : List QQt), (man : List RRt), (mns : List RRt), (mar : List RRt), _⟩, _, (b : List Int), (m : List (List UInt8 × Int)), _⟩ := y''
 obtain ⟨hc, rfl⟩ := Tr.get_on h
 show loopF (fun st => evC T0 (orcB [fs61w, fs109w, fs111w] [os21, os60, os26, os22w, os110w]) (lpN T0 (orcB [fs61w, fs109w, fs111w] [os21, os60, os26, os22w, os110w]) h77 0 q'') b77q 2 st (roundK [1, 3, 43, 44, 45] [1, 3] 0)) (stOf [1, 3, 43, 44, 45] [.ptr 0 0, .ptr 1 0, .list QQ qs, .int .i64 k, .int .i64 i] [MO mi mqr maa mtc mrd mra mop mrc mq man mns mar, .box [.rowA 2, .mp 3], .row (.int .u8) b, .mpo .str (.int .i64) m]) = some (.exit 2, stOf [1, 3] ([.ptr 0 0, .ptr 1 0]) ([MO mi mqr maa mtc mrd mra mop mrc mq man mns mar, .box [.rowA 2, .mp 3], .row (.int .u8) (bytesInt (putQs qs (intBytes b, m)).1), .mpo .str (.int .i64) (putQs qs (intBytes b, m)).2]))
 simp only [qsC, Bool.and_eq_true, decide_eq_true_eq, bgB_iff] at hc
 obtain ⟨⟨hall, hl⟩, rfl, rfl, hok, hk, hb⟩ := hc
 have hl := Nat.le_of_ble_eq_true hl
 refine wf77q qs qs.length mi mqr maa mtc mrd mra mop mrc mq man mns mar (qsI qs (intBytes b, m)) (fun _ _ i => (qs.length - i).toNat) _ ?_ _ b m 0 ⟨by omega, by omega, (intBytes b, m), (bytes_intB hok).symm, rfl, hk, by rw [intB_len]; omega, rfl⟩
 clear hok hk hb
 rintro b' m' i ⟨h0, h1, p, rfl, rfl, hk, hpl, hF⟩
 rw [← hF]
 unfold r77q
 by_cases hi : i < qs.length
 · obtain ⟨d1, d2⟩ := drop_getD (Ty.dflt QQ) h0 hi
   generalize List.getD qs (Int.toNat i) (Ty.dflt QQ) = q at d1 d2
   rw [d1, putQs] at hF
   obtain ⟨q1, q2, q3⟩ := rgQ_ok (List.all_eq_true.1 hall q d2)
   obtain ⟨k1, k2, k3⟩ := putQ_good (P := p) q1 hk
   have hpk : (pkT (bytesInt p.1) p.2 && qOk q) = true := by rw [pkT_iff.2 ⟨bytesInt_ok _, hk, by rw [bytesInt_len]; omega⟩, q2]; rfl
   rw [intB_bytes, wrap_succ h0 h1 (by omega)]
   exact Tr.all_t (dec_true hi) (Tr.all_t (dec_true h0) (Tr.all_t (dec_true hi) (Tr.all_t hpk (Tr.all_t q1 (Tr.all_ret (.inr ⟨_, _, _, rfl, ⟨by omega, by omega, putQ q p, rfl, rfl, k1, by omega, hF⟩, by omega⟩))))))
 · refine Tr.all_f (dec_false hi) (Tr.all_ret (.inl ?_))
   rw [List.drop_eq_nil_of_le (by omega)]
   rfl
def t77 (g : MGt) : Tr Res := .br (n16C g.1) (.br (mayN g) (.br (n16C (flagV g)) (.br (cnC [(↑g.2.2.2.2.2.2.2.2.1.length : Int), (↑g.2.2.2.2.2.2.2.2.2.1.length : Int), (↑g.2.2.2.2.2.2.2.2.2.2.1.length : Int), (↑g.2.2.2.2.2.2.2.2.2.2.2.length : Int)] ([] ++ bytesInt (put16 g.1 ++ put16 (flagV g))) (↑4 : Int) 0) (.br (qsC g.2.2.2.2.2.2.2.2.1 ([] ++ bytesInt (put16 g.1 ++ put16 (flagV g)) ++ bytesInt (cntB [(↑g.2.2.2.2.2.2.2.2.1.length : Int), (↑g.2.2.2.2.2.2.2.2.2.1.length : Int), (↑g.2.2.2.2.2.2.2.2.2.2.1.length : Int), (↑g.2.2.2.2.2.2.2.2.2.2.2.length : Int)])) [] (↑g.2.2.2.2.2.2.2.2.1.length : Int) 0) (.br (catB [g.2.2.2.2.2.2.2.2.2.1, g.2.2.2.2.2.2.2.2.2.2.1, g.2.2.2.2.2.2.2.2.2.2.2]) (.br (rcsC (List.flatten [g.2.2.2.2.2.2.2.2.2.1, g.2.2.2.2.2.2.2.2.2.2.1, g.2.2.2.2.2.2.2.2.2.2.2]) (bytesInt (putQs g.2.2.2.2.2.2.2.2.1 (intBytes ([] ++ bytesInt (put16 g.1 ++ put16 (flagV g)) ++ bytesInt (cntB [(↑g.2.2.2.2.2.2.2.2.1.length : Int), (↑g.2.2.2.2.2.2.2.2.2.1.length : Int), (↑g.2.2.2.2.2.2.2.2.2.2.1.length : Int), (↑g.2.2.2.2.2.2.2.2.2.2.2.length : Int)])), [])).1) (putQs g.2.2.2.2.2.2.2.2.1 (intBytes ([] ++ bytesInt (put16 g.1 ++ put16 (flagV g)) ++ bytesInt (cntB [(↑g.2.2.2.2.2.2.2.2.1.length : Int), (↑g.2.2.2.2.2.2.2.2.2.1.length : Int), (↑g.2.2.2.2.2.2.2.2.2.2.1.length : Int), (↑g.2.2.2.2.2.2.2.2.2.2.2.length : Int)])), [])).2 (↑(List.length (List.flatten [g.2.2.2.2.2.2.2.2.2.1, g.2.2.2.2.2.2.2.2.2.2.1, g.2.2.2.2.2.2.2.2.2.2.2])) : Int) 0) (.ret ([.str (intBytes (bytesInt (putRs (List.flatten [g.2.2.2.2.2.2.2.2.2.1, g.2.2.2.2.2.2.2.2.2.2.1, g.2.2.2.2.2.2.2.2.2.2.2]) (intBytes (bytesInt (putQs g.2.2.2.2.2.2.2.2.1 (intBytes ([] ++ bytesInt (put16 g.1 ++ put16 (flagV g)) ++ bytesInt (cntB [(↑g.2.2.2.2.2.2.2.2.1.length : Int), (↑g.2.2.2.2.2.2.2.2.2.1.length : Int), (↑g.2.2.2.2.2.2.2.2.2.2.1.length : Int), (↑g.2.2.2.2.2.2.2.2.2.2.2.length : Int)])), [])).1), (putQs g.2.2.2.2.2.2.2.2.1 (intBytes ([] ++ bytesInt (put16 g.1 ++ put16 (flagV g)) ++ bytesInt (cntB [(↑g.2.2.2.2.2.2.2.2.1.length : Int), (↑g.2.2.2.2.2.2.2.2.2.1.length : Int), (↑g.2.2.2.2.2.2.2.2.2.2.1.length : Int), (↑g.2.2.2.2.2.2.2.2.2.2.2.length : Int)])), [])).2)).1))], [])) .no) .no) .no) .no) .no) .no) .no
def os77 : OSpec := { f := 77, sh := [.d MG true], so := [], F := fun (g, _) _ => t77 g }
theorem fn77 (g : MGt) : evC T0 (orcB [fs61w, fs109w, fs111w] [os21, os60, os26, os22w, os110w]) (lpOf h77 0 (lsOf [ls77, ls77q])) c77 1000000 (startSt [AV.ofTy MG g true] [] Try.f77.ntmps) (finishK T0 false 0 Try.f77) = (t77 g).get := by kernel_rfl
theorem ok77 : os77.Ok Try.prog := by
 refine os_ok mixed0 tab0 (orcB_sound (all_cons okf61w (all_cons okf109w (all_cons okf111w all_nil))) (all_cons ok21 (all_cons ok60 (all_cons ok26 (all_cons ok22w (all_cons ok110w all_nil)))))) h77 (d := 0) (n0 := 0) (S := lsOf [ls77, ls77q]) Try.func77 (by kernel_rfl) (c := c77) (by kernel_rfl) rfl (loops_eq (xs := [(0, b77), (2, b77q)]) (by kernel_rfl) (all_cons (ls_here loop77) (all_cons (ls_skip (by kernel_rfl) (ls_here loop77q)) all_nil))) (by omega) (by kernel_rfl) ?_
 intro x'' y'' q'' hq''
 obtain ⟨(g : MGt), _⟩ := x''
 exact (fn77 g).trans hq''
def fs77 : FSpec := fsT 77 [(MG, true)] [(.str, false)] fun (g, _) => t77 g
theorem okf77 : fs77.Ok Try.prog := fsT_ok fun x'' r'' hr'' => ok77 x'' () r'' hr''
def recsM (m : MGt) : List RRt := mAn m ++ (mNs m ++ mAr m)
def bytP (m : MGt) : PKt := putRs (recsM m) (putQs (mQ m) (headB m, []))
def bytM (m : MGt) : List UInt8 := (bytP m).1
def rngQ (q : QQt) : Bool := n16C q.2.1 && n16C q.2.2
def rngM (m : MGt) : Bool := n16C m.1 && ((mQ m).all rngQ && (recsM m).all rngR)
def goodM (m : MGt) : Bool := mayM m && (rngM m && lesM m)
theorem goodL_all {l : List RRt} (h : goodL l = true) : l.all recV = true := by
 unfold goodL at h
 obtain ⟨h1, _⟩ := Bool.and_eq_true_iff.1 h
 rw [List.all_eq_true]
 intro r hr
 rw [Bool.not_eq_true', List.any_eq_false] at h1
 have := h1 r hr
 unfold noR at this
 simpa using this
theorem goodQ_all {l : List QQt} (h : goodQ l = true) : (l.all fun q => mayV q.1) = true := by
 unfold goodQ at h
 obtain ⟨h1, _⟩ := Bool.and_eq_true_iff.1 h
 rw [List.all_eq_true]
 intro r hr
 rw [Bool.not_eq_true', List.any_eq_false] at h1
 have := h1 r hr
 unfold noQ at this
 simpa using this
theorem mayM_iff {m : MGt} : mayM m = true ↔ mayN m = true ∧ goodQ (mQ m) = true ∧ goodL (mAn m) = true ∧ goodL (mNs m) = true ∧ goodL (mAr m) = true := by
 unfold mayM
 rw [Bool.and_eq_true, Bool.and_eq_true, Bool.and_eq_true, Bool.and_eq_true]
theorem all_and' {α : Type} {f g : α → Bool} {l : List α} (h1 : l.all f = true) (h2 : l.all g = true) : (l.all fun x => f x && g x) = true := by
 rw [List.all_eq_true] at *
 exact fun x hx => by rw [h1 x hx, h2 x hx]; rfl
theorem goodM_facts {m : MGt} (h : goodM m = true) : mayN m = true ∧ n16C m.1 = true ∧ ((mQ m).length ≤ 1500 ∧ (mAn m).length ≤ 1500 ∧ (mNs m).length ≤ 1500 ∧ (mAr m).length ≤ 1500) ∧ (mQ m).all rgQ = true ∧ (recsM m).all rgR = true ∧ (recsM m).length ≤ 4500 := by
 unfold goodM at h
 rw [Bool.and_eq_true, Bool.and_eq_true, lesM_iff, mayM_iff] at h
 obtain ⟨⟨h1, h2, h3, h4, h5⟩, h6, h7⟩ := h
 unfold rngM at h6
 rw [Bool.and_eq_true, Bool.and_eq_true] at h6
 obtain ⟨g1, g2, g3⟩ := h6
 refine ⟨h1, g1, h7, all_and' (goodQ_all h2) g2, all_and' ?_ g3, ?_⟩
 · unfold recsM
   rw [List.all_append, List.all_append, goodL_all h3, goodL_all h4, goodL_all h5]
   rfl
 · unfold recsM
   rw [List.length_append, List.length_append]
   omega
theorem headB_len (m : MGt) : (headB m).length = 12 := rfl
def fs77w : FSpec := fs77.like fun (m, _) => .on (goodM m) (bytM m, ())
theorem okf77w : fs77w.Ok Try.prog := by
 refine flike_ok okf77 _ ?_
 rintro ⟨(m : MGt), _⟩ y h
 obtain ⟨hb, rfl⟩ := Tr.get_on h
 have hb : goodM m = true := hb
 obtain ⟨h1, h2, ⟨l1, l2, l3, l4⟩, hq, hr, hl⟩ := goodM_facts hb
 refine convR_of (vs := [.str (bytM m)]) rfl rfl (Tr.get_of_all ?_)
 show (t77 m).all _
 have hf := flagV_in h1
 have hH : [] ++ bytesInt (put16 m.1 ++ put16 (flagV m)) ++ bytesInt (cntB [((mQ m).length : Int), ((mAn m).length : Int), ((mNs m).length : Int), ((mAr m).length : Int)]) = bytesInt (headB m) := rfl
 have hA : List.flatten [mAn m, mNs m, mAr m] = recsM m := by
  show mAn m ++ (mNs m ++ (mAr m ++ [])) = _
  rw [List.append_nil]; rfl
 have hA' : List.flatten [m.2.2.2.2.2.2.2.2.2.1, m.2.2.2.2.2.2.2.2.2.2.1, m.2.2.2.2.2.2.2.2.2.2.2] = recsM m := hA
 have hH' : [] ++ bytesInt (put16 m.1 ++ put16 (flagV m)) ++ bytesInt (cntB [(m.2.2.2.2.2.2.2.2.1.length : Int), (m.2.2.2.2.2.2.2.2.2.1.length : Int), (m.2.2.2.2.2.2.2.2.2.2.1.length : Int), (m.2.2.2.2.2.2.2.2.2.2.2.length : Int)]) = bytesInt (headB m) := rfl
 obtain ⟨a1, a2, a3⟩ := putQs_good (P := (headB m, [])) hq rfl
 have e : (headB m, ([] : Known)).1.length = 12 := rfl
 unfold t77
 rw [hH', hA']
 simp only [intB_bytes]
 refine Tr.all_t h2 (Tr.all_t h1 (Tr.all_t (n16_of hf) (Tr.all_t ?_ (Tr.all_t ?_ (Tr.all_t ?_ (Tr.all_t ?_ (Tr.all_ret rfl)))))))
 · unfold cnC
   have c1 : n16C (m.2.2.2.2.2.2.2.2.1.length : Int) = true := n16_of (by have : m.2.2.2.2.2.2.2.2.1.length ≤ 1500 := l1; omega)
   have c2 : n16C (m.2.2.2.2.2.2.2.2.2.1.length : Int) = true := n16_of (by have : m.2.2.2.2.2.2.2.2.2.1.length ≤ 1500 := l2; omega)
   have c3 : n16C (m.2.2.2.2.2.2.2.2.2.2.1.length : Int) = true := n16_of (by have : m.2.2.2.2.2.2.2.2.2.2.1.length ≤ 1500 := l3; omega)
   have c4 : n16C (m.2.2.2.2.2.2.2.2.2.2.2.length : Int) = true := n16_of (by have : m.2.2.2.2.2.2.2.2.2.2.2.length ≤ 1500 := l4; omega)
   rw [List.all_cons, List.all_cons, List.all_cons, List.all_cons, c1, c2, c3, c4]
   rfl
 · unfold qsC
   rw [show m.2.2.2.2.2.2.2.2.1.all rgQ = true from hq, Nat.ble_eq_true_of_le (show m.2.2.2.2.2.2.2.2.1.length ≤ 1500 from l1), dec_true rfl, dec_true rfl, bgB_iff.2 ⟨bytesInt_ok _, rfl, by rw [bytesInt_len, headB_len]; omega⟩]
   rfl
 · unfold catB
   have c2 : decide (m.2.2.2.2.2.2.2.2.2.1.length ≤ 1000000) = true := dec_true (by have : m.2.2.2.2.2.2.2.2.2.1.length ≤ 1500 := l2; omega)
   have c3 : decide (m.2.2.2.2.2.2.2.2.2.2.1.length ≤ 1000000) = true := dec_true (by have : m.2.2.2.2.2.2.2.2.2.2.1.length ≤ 1500 := l3; omega)
   have c4 : decide (m.2.2.2.2.2.2.2.2.2.2.2.length ≤ 1000000) = true := dec_true (by have : m.2.2.2.2.2.2.2.2.2.2.2.length ≤ 1500 := l4; omega)
   rw [List.all_cons, List.all_cons, List.all_cons, c2, c3, c4]
   rfl
 · unfold rcsC
   have a1 : kOk (putQs m.2.2.2.2.2.2.2.2.1 (headB m, [])).2 = true := a1
   have a2 : (putQs m.2.2.2.2.2.2.2.2.1 (headB m, [])).1.length ≤ (headB m, ([] : Known)).1.length + 300 * m.2.2.2.2.2.2.2.2.1.length := a2
   have l1 : m.2.2.2.2.2.2.2.2.1.length ≤ 1500 := l1
   rw [hr, Nat.ble_eq_true_of_le hl, dec_true rfl, dec_true rfl, bgB_iff.2 ⟨bytesInt_ok _, a1, by rw [bytesInt_len]; omega⟩]
   rfl
def t36 (g : MGt) : Tr Res := .br (bigM g) (.br (!mayM g) (.ret ([.str [], .int .i64 1], [])) (.br (goodM g) (.br (decide ((↑(List.length (bytM g)) : Int) > 65535)) (.ret ([.str [], .int .i64 3], [])) (.ret ([.str (bytM g), .int .i64 0], []))) .no)) .no
def os36 : OSpec := { f := 36, sh := [.d MG true], so := [], F := fun (g, _) _ => t36 g }
theorem fn36 (g : MGt) : evC T0 (orcB [fs38w, fs77w] []) (lpOf h36 0 (lsOf [])) c36 1000000 (startSt [AV.ofTy MG g true] [] Try.f36.ntmps) (finishK T0 false 0 Try.f36) = (t36 g).get := by kernel_rfl
theorem ok36 : os36.Ok Try.prog := by
 refine os_ok mixed0 tab0 (orcB_sound (all_cons okf38w (all_cons okf77w all_nil)) all_nil) h36 (d := 0) (n0 := 0) (S := lsOf []) Try.func36 (by kernel_rfl) (c := c36) (by kernel_rfl) rfl (no_loops (by kernel_rfl)) (by omega) (by kernel_rfl) ?_
 intro x'' y'' q'' hq''
 obtain ⟨(g : MGt), _⟩ := x''
 exact (fn36 g).trans hq''
def fs36 : FSpec := fsT 36 [(MG, true)] [(.str, false), ((.int .i64), false)] fun (g, _) => t36 g
theorem okf36 : fs36.Ok Try.prog := fsT_ok fun x'' r'' hr'' => ok36 x'' () r'' hr''
def putV (m : MGt) : List UInt8 × Int := bif mayM m then (bif decide (((bytM m).length : Int) > 65535) then ([], 3) else (bytM m, 0)) else ([], 1)
def okPM (m : MGt) : Bool := bigM m && (rngM m && lesM m)
theorem okPM_iff {m : MGt} : okPM m = true ↔ bigM m = true ∧ rngM m = true ∧ lesM m = true := by
 unfold okPM
 rw [Bool.and_eq_true, Bool.and_eq_true]
theorem goodM_of {m : MGt} (h : okPM m = true) (hm : mayM m = true) : goodM m = true := by
 obtain ⟨_, h2, h3⟩ := okPM_iff.1 h
 unfold goodM
 rw [hm, h2, h3]; rfl
def fs36w : FSpec := fs36.like fun (m, _) => .on (okPM m) ((putV m).1, (putV m).2, ())
theorem okf36w : fs36w.Ok Try.prog := by
 refine flike_ok okf36 _ ?_
 rintro ⟨(m : MGt), _⟩ y h
 obtain ⟨hb, rfl⟩ := Tr.get_on h
 have hb : okPM m = true := hb
 refine convR_of (vs := [.str (putV m).1, .int .i64 (putV m).2]) rfl rfl (Tr.get_of_all ?_)
 show (t36 m).all _
 unfold t36 putV
 refine Tr.all_t (okPM_iff.1 hb).1 ?_
 cases hm : mayM m with
 | false => exact Tr.all_t rfl (Tr.all_ret rfl)
 | true => exact Tr.all_f rfl (Tr.all_t (goodM_of hb hm) (Tr.all_br (fun c => Tr.all_ret (by rw [c]; rfl)) fun c => Tr.all_ret (by rw [c]; rfl)))
def rpsC (l : List RRt) (S : List UInt8) (L : Known) (i : Int) : Bool := (l.all rgR && Nat.ble l.length 1500) && (decide (i = 0) && (kOk L && (Nat.ble S.length 500000000 && Nat.ble L.length 500000000)))
def rqsC (l : List QQt) (S : List UInt8) (L : Known) (i : Int) : Bool := (l.all rgQ && Nat.ble l.length 1500) && (decide (i = 0) && (kOk L && (Nat.ble S.length 1000 && Nat.ble L.length 1000)))
noncomputable def b113 : Code := nthLoop c113 0
def ls113 : LoopSpec := { bid := 0, sh := [.d (.list RR) false, .ptr 0 0, .ptr 1 0, .d (.int .i64) false], so := [.box [.d .str false, .d (.list (.pair .str (.int .i64))) false], .box [.d .str false, .row 2], .row (.pair .str (.int .i64))], F := fun (l, i, _) ((S, L, _), (Z, _), zl, _) => .on (rpsC l S L i) (.exit 0, [.ptr 0 0, .ptr 1 0], [.box [.str (putRs l (S, L)).1, .list (.pair .str (.int .i64)) (putRs l (S, L)).2], .box [.str Z, .rowA 2], .row (.pair .str (.int .i64)) zl]) }
def r113 (l : List RRt) (i : Int) (S : List UInt8) (L : List (List UInt8 × Int)) (Z : List UInt8) (zl : List (List UInt8 × Int)) : Tr (St ⊕ (Ex × St)) := .br (decide (i < (↑l.length : Int))) (.br (decide (0 ≤ i)) (.br (decide (i < (↑l.length : Int))) (.br (ptS (S, L) && rOk (l.getD i.toNat (Ty.dflt RR))) (.br (recV (l.getD i.toNat (Ty.dflt RR))) (.ret (.inl (stOf [1, 2, 4, 5] [.list RR l, .ptr 0 0, .ptr 1 0, .int .i64 (IntKind.wrap .i64 (i + 1))] [.boxT none [.str (recP (l.getD i.toNat (Ty.dflt RR)) (S, L)).1, .list (Ty.pair Ty.str (Ty.int .i64)) (recP (l.getD i.toNat (Ty.dflt RR)) (S, L)).2], .boxT none [.str Z, .rowA 2], .row (Ty.pair Ty.str (Ty.int .i64)) zl]))) (.ret (.inl (stOf [1, 2, 4, 5] [.list RR l, .ptr 0 0, .ptr 1 0, .int .i64 (IntKind.wrap .i64 (i + 1))] [.boxT none [.str S, .list (Ty.pair Ty.str (Ty.int .i64)) L], .boxT none [.str Z, .rowA 2], .row (Ty.pair Ty.str (Ty.int .i64)) zl])))) .no) .no) .no) (.ret (.inr (.exit 0, stOf [2, 4] [.ptr 0 0, .ptr 1 0] [.boxT none [.str S, .list (Ty.pair Ty.str (Ty.int .i64)) L], .boxT none [.str Z, .rowA 2], .row (Ty.pair Ty.str (Ty.int .i64)) zl])))
theorem round113 (lp : Lp) (l : List RRt) (i : Int) (S : List UInt8) (L : List (List UInt8 × Int)) (Z : List UInt8) (zl : List (List UInt8 × Int)) : evC TN (orcB [fs25w] []) lp b113 0 (stOf [1, 2, 4, 5] [.list RR l, .ptr 0 0, .ptr 1 0, .int .i64 i] [.box [.str S, .list (.pair .str (.int .i64)) L], .box [.str Z, .rowA 2], .row (.pair .str (.int .i64)) zl]) (roundK [1, 2, 4, 5] [2, 4] 0) = (r113 l i S L Z zl).get := by kernel_rfl
theorem wf113 (l : List RRt) (Z : List UInt8) (zl : List (List UInt8 × Int)) (I'' : Int → List UInt8 → List (List UInt8 × Int) → Prop) (m'' : Int → List UInt8 → List (List UInt8 × Int) → Nat) (r'' : Ex × St) (h : ∀ (i : Int) (S : List UInt8) (L : List (List UInt8 × Int)), I'' i S L → (r113 l i S L Z zl).all fun x'' => x'' = .inr r'' ∨ ∃ (i' : Int) (S' : List UInt8) (L' : List (List UInt8 × Int)), x'' = .inl (stOf [1, 2, 4, 5] [.list RR l, .ptr 0 0, .ptr 1 0, .int .i64 i'] [.box [.str S', .list (.pair .str (.int .i64)) L'], .box [.str Z, .rowA 2], .row (.pair .str (.int .i64)) zl]) ∧ I'' i' S' L' ∧ m'' i' S' L' < m'' i S L) (lp : Lp) (i : Int) (S : List UInt8) (L : List (List UInt8 × Int)) : I'' i S L →
    loopF (fun st => evC TN (orcB [fs25w] []) lp b113 0 st (roundK [1, 2, 4, 5] [2, 4] 0)) (stOf [1, 2, 4, 5] [.list RR l, .ptr 0 0, .ptr 1 0, .int .i64 i] [.box [.str S, .list (.pair .str (.int .i64)) L], .box [.str Z, .rowA 2], .row (.pair .str (.int .i64)) zl]) = some r'' :=
 loop_tr (fun a'' : Int × List UInt8 × List (List UInt8 × Int) => stOf [1, 2, 4, 5] [.list RR l, .ptr 0 0, .ptr 1 0, .int .i64 a''.1] [.box [.str a''.2.1, .list (.pair .str (.int .i64)) a''.2.2], .box [.str Z, .rowA 2], .row (.pair .str (.int .i64)) zl]) (fun a'' => I'' a''.1 a''.2.1 a''.2.2) (fun a'' => m'' a''.1 a''.2.1 a''.2.2) r'' (fun a'' => r113 l a''.1 a''.2.1 a''.2.2 Z zl)
  (fun a'' x hx => (round113 lp l a''.1 a''.2.1 a''.2.2 Z zl).trans hx) (fun a'' ha => Tr.all_mono (fun x'' hx => hx.imp id fun ⟨i', S', L', h1, h2, h3⟩ => ⟨(i', S', L'), h1, h2, h3⟩) (h (a''.1) (a''.2.1) (a''.2.2) ha)) (i, S, L)
def rpsI (l : List RRt) (p0 : PKt) (i : Int) (S : List UInt8) (L : Known) : Prop := 0 ≤ i ∧ i ≤ l.length ∧ kOk L = true ∧ S.length ≤ 500000000 + 66000 * i.toNat ∧ L.length ≤ 500000000 + 66000 * i.toNat ∧ putRs (l.drop i.toNat) (S, L) = putRs l p0
theorem loop113 : ls113.Ok TN (orcB [fs25w] []) h113 0 0 b113 := by
 intro q'' hq'' x'' y'' r'' h
 obtain ⟨(l : List RRt), (i : Int), _⟩ := x''
 obtain ⟨⟨(S : List UInt8), (L : List (List UInt8 × Int)), _⟩, ⟨(Z : List UInt8), _⟩, (zl : List (List UInt8 × Int)), _⟩ := y''
 obtain ⟨hc, rfl⟩ := Tr.get_on h
 show loopF (fun st => evC TN (orcB [fs25w] []) (lpN TN (orcB [fs25w] []) h113 0 q'') b113 0 st (roundK [1, 2, 4, 5] [2, 4] 0)) (stOf [1, 2, 4, 5] [.list RR l, .ptr 0 0, .ptr 1 0, .int .i64 i] [.box [.str S, .list (.pair .str (.int .i64)) L], .box [.str Z, .rowA 2], .row (.pair .str (.int .i64)) zl]) = some (.exit 0, stOf [2, 4] ([.ptr 0 0, .ptr 1 0]) ([.box [.str (putRs l (S, L)).1, .list (.pair .str (.int .i64)) (putRs l (S, L)).2], .box [.str Z, .rowA 2], .row (.pair .str (.int .i64)) zl]))
 simp only [rpsC, Bool.and_eq_true, decide_eq_true_eq] at hc
 obtain ⟨⟨hall, hl⟩, rfl, hk, hb, hb2⟩ := hc
 have hl := Nat.le_of_ble_eq_true hl
 have hb := Nat.le_of_ble_eq_true hb
 have hb2 := Nat.le_of_ble_eq_true hb2
 refine wf113 l Z zl (rpsI l (S, L)) (fun i _ _ => (l.length - i).toNat) _ ?_ _ 0 S L ⟨by omega, by omega, hk, by omega, by omega, rfl⟩
 clear hk hb hb2
 rintro i S' L' ⟨h0, h1, hk, hpl, hpl2, hF⟩
 rw [← hF]
 unfold r113
 by_cases hi : i < l.length
 · obtain ⟨d1, d2⟩ := drop_getD (Ty.dflt RR) h0 hi
   generalize List.getD l (Int.toNat i) (Ty.dflt RR) = r at d1 d2
   rw [d1, putRs] at hF
   obtain ⟨q1, q2, q3, q4⟩ := rgR_ok (List.all_eq_true.1 hall r d2)
   obtain ⟨k1, k2, k3⟩ := recP_good (P := (S', L')) q1 hk
   have hpk : (ptS (S', L') && rOk r) = true := by rw [ptS_iff.2 ⟨hk, by show S'.length ≤ _; omega, by show L'.length ≤ _; omega⟩, q2]; rfl
   have k2 : (recP r (S', L')).1.length ≤ S'.length + r.1.length + r.2.2.2.2.length + 10 := k2
   have k3 : (recP r (S', L')).2.length ≤ L'.length + r.1.length + r.2.2.2.2.length := k3
   rw [wrap_succ h0 h1 (by omega)]
   exact Tr.all_t (dec_true hi) (Tr.all_t (dec_true h0) (Tr.all_t (dec_true hi) (Tr.all_t hpk (Tr.all_t q1 (Tr.all_ret (.inr ⟨_, _, _, rfl, ⟨by omega, by omega, k1, by omega, by omega, hF⟩, by omega⟩))))))
 · refine Tr.all_f (dec_false hi) (Tr.all_ret (.inl ?_))
   rw [List.drop_eq_nil_of_le (by omega)]
   rfl
def t113 (p : (List UInt8 × List (List UInt8 × Int))) (l : List RRt) : Tr Res := .br (rpsC l p.1 p.2 0) (.ret ([.agg [.str (putRs l p).1, .list (Ty.pair Ty.str (Ty.int .i64)) (putRs l p).2]], [])) .no
def os113 : OSpec := { f := 113, sh := [.d (.pair .str (.list (.pair .str (.int .i64)))) true, .d (.list RR) false], so := [], F := fun (p, l, _) _ => t113 p l }
theorem fn113 (p : (List UInt8 × List (List UInt8 × Int))) (l : List RRt) : evC TN (orcB [fs25w] []) (lpOf h113 0 (lsOf [ls113])) c113 1000000 (startSt [AV.ofTy (.pair .str (.list (.pair .str (.int .i64)))) p true, .list RR l] [] Try.f113.ntmps) (finishK TN false 0 Try.f113) = (t113 p l).get := by kernel_rfl
theorem ok113 : os113.Ok Try.prog := by
 refine os_ok mixed0 tabN (orcB_sound (all_cons okf25w all_nil) all_nil) h113 (d := 0) (n0 := 0) (S := lsOf [ls113]) Try.func113 (by kernel_rfl) (c := c113) (by kernel_rfl) rfl (loops_eq (xs := [(0, b113)]) (by kernel_rfl) (all_cons (ls_here loop113) all_nil)) (by omega) (by kernel_rfl) ?_
 intro x'' y'' q'' hq''
 obtain ⟨(p : (List UInt8 × List (List UInt8 × Int))), (l : List RRt), _⟩ := x''
 exact (fn113 p l).trans hq''
def fs113 : FSpec := fsT 113 [((.pair .str (.list (.pair .str (.int .i64)))), true), ((.list RR), false)] [((.pair .str (.list (.pair .str (.int .i64)))), true)] fun (p, l, _) => t113 p l
theorem okf113 : fs113.Ok Try.prog := fsT_ok fun x'' r'' hr'' => ok113 x'' () r'' hr''
def fs113w : FSpec := fs113.like fun (p, l, _) => .on (rpsC l p.1 p.2 0) (putRs l p, ())
theorem okf113w : fs113w.Ok Try.prog := by
 refine flike_ok okf113 _ ?_
 rintro ⟨(p : PKt), (l : List RRt), _⟩ y h
 obtain ⟨hb, rfl⟩ := Tr.get_on h
 refine convR_of (vs := [AV.agg [.str (putRs l p).1, .list (.pair .str (.int .i64)) (putRs l p).2]]) rfl rfl (Tr.get_of_all ?_)
 show (t113 p l).all _
 exact Tr.all_t hb (Tr.all_ret rfl)
noncomputable def b78 : Code := nthLoop c78 0
def ls78 : LoopSpec := { bid := 0, sh := [.ptr 0 0, .ptr 1 0, .d (.int .i64) false], so := [MOs, .box [.d .str false, .d (.list (.pair .str (.int .i64))) false]], F := fun (i, _) ((mi, mqr, maa, mtc, mrd, mra, mop, mrc, mq, man, mns, mar, _), (S, L, _), _) => .on (rqsC mq S L i) (.exit 0, [.ptr 0 0, .ptr 1 0], [MO mi mqr maa mtc mrd mra mop mrc mq man mns mar, .box [.str (putQs mq (S, L)).1, .list (.pair .str (.int .i64)) (putQs mq (S, L)).2]]) }
def r78 (i mi : Int) (mqr maa mtc mrd mra : Bool) (mop mrc : Int) (mq : List QQt) (man mns mar : List RRt) (S : List UInt8) (L : List (List UInt8 × Int)) : Tr (St ⊕ (Ex × St)) := .br (decide (i < (↑mq.length : Int))) (.br (decide (0 ≤ i)) (.br (decide (i < (↑mq.length : Int))) (.br (ptOk (S, L) (mq.getD i.toNat (Ty.dflt QQ)).1 && qOk (mq.getD i.toNat (Ty.dflt QQ))) (.br (mayV (mq.getD i.toNat (Ty.dflt QQ)).1) (.ret (.inl (stOf [1, 3, 4] [.ptr 0 0, .ptr 1 0, .int .i64 (IntKind.wrap .i64 (i + 1))] [MO mi mqr maa mtc mrd mra mop mrc mq man mns mar, .boxT none [.str (putQ (mq.getD i.toNat (Ty.dflt QQ)) (S, L)).1, .list (Ty.pair Ty.str (Ty.int .i64)) (putQ (mq.getD i.toNat (Ty.dflt QQ)) (S, L)).2]]))) (.ret (.inl (stOf [1, 3, 4] [.ptr 0 0, .ptr 1 0, .int .i64 (IntKind.wrap .i64 (i + 1))] [MO mi mqr maa mtc mrd mra mop mrc mq man mns mar, .boxT none [.str S, .list (Ty.pair Ty.str (Ty.int .i64)) L]])))) .no) .no) .no) (.ret (.inr (.exit 0, stOf [1, 3] [.ptr 0 0, .ptr 1 0] [MO mi mqr maa mtc mrd mra mop mrc mq man mns mar, .boxT none [.str S, .list (Ty.pair Ty.str (Ty.int .i64)) L]])))
theorem round78 (lp : Lp) (i mi : Int) (mqr maa mtc mrd mra : Bool) (mop mrc : Int) (mq : List QQt) (man mns mar : List RRt) (S : List UInt8) (L : List (List UInt8 × Int)) : evC TN (orcB [fs112w, fs23w, fs113w] []) lp b78 0 (stOf [1, 3, 4] [.ptr 0 0, .ptr 1 0, .int .i64 i] [MO mi mqr maa mtc mrd mra mop mrc mq man mns mar, .box [.str S, .list (.pair .str (.int .i64)) L]]) (roundK [1, 3, 4] [1, 3] 0) = (r78 i mi mqr maa mtc mrd mra mop mrc mq man mns mar S L).get := by kernel_rfl
theorem wf78 (mi : Int) (mqr maa mtc mrd mra : Bool) (mop mrc : Int) (mq : List QQt) (man mns mar : List RRt) (I'' : Int → List UInt8 → List (List UInt8 × Int) → Prop) (m'' : Int → List UInt8 → List (List UInt8 × Int) → Nat) (r'' : Ex × St) (h : ∀ (i : Int) (S : List UInt8) (L : List (List UInt8 × Int)), I'' i S L → (r78 i mi mqr maa mtc mrd mra mop mrc mq man mns mar S L).all fun x'' => x'' = .inr r'' ∨ ∃ (i' : Int) (S' : List UInt8) (L' : List (List UInt8 × Int)), x'' = .inl (stOf [1, 3, 4] [.ptr 0 0, .ptr 1 0, .int .i64 i'] [MO mi mqr maa mtc mrd mra mop mrc mq man mns mar, .box [.str S', .list (.pair .str (.int .i64)) L']]) ∧ I'' i' S' L' ∧ m'' i' S' L' < m'' i S L) (lp : Lp) (i : Int) (S : List UInt8) (L : List (List UInt8 × Int)) : I'' i S L →
    loopF (fun st => evC TN (orcB [fs112w, fs23w, fs113w] []) lp b78 0 st (roundK [1, 3, 4] [1, 3] 0)) (stOf [1, 3, 4] [.ptr 0 0, .ptr 1 0, .int .i64 i] [MO mi mqr maa mtc mrd mra mop mrc mq man mns mar, .box [.str S, .list (.pair .str (.int .i64)) L]]) = some r'' :=
 loop_tr (fun a'' : Int × List UInt8 × List (List UInt8 × Int) => stOf [1, 3, 4] [.ptr 0 0, .ptr 1 0, .int .i64 a''.1] [MO mi mqr maa mtc mrd mra mop mrc mq man mns mar, .box [.str a''.2.1, .list (.pair .str (.int .i64)) a''.2.2]]) (fun a'' => I'' a''.1 a''.2.1 a''.2.2) (fun a'' => m'' a''.1 a''.2.1 a''.2.2) r'' (fun a'' => r78 a''.1 mi mqr maa mtc mrd mra mop mrc mq man mns mar a''.2.1 a''.2.2)
  (fun a'' x hx => (round78 lp a''.1 mi mqr maa mtc mrd mra mop mrc mq man mns mar a''.2.1 a''.2.2).trans hx) (fun a'' ha => Tr.all_mono (fun x'' hx => hx.imp id fun ⟨i', S', L', h1, h2, h3⟩ => ⟨(i', S', L'), h1, h2, h3⟩) (h (a''.1) (a''.2.1) (a''.2.2) ha)) (i, S, L)
def rqsI (l : List QQt) (p0 : PKt) (i : Int) (S : List UInt8) (L : Known) : Prop := 0 ≤ i ∧ i ≤ l.length ∧ kOk L = true ∧ S.length ≤ 1000 + 300 * i.toNat ∧ L.length ≤ 1000 + 300 * i.toNat ∧ putQs (l.drop i.toNat) (S, L) = putQs l p0
theorem loop78 : ls78.Ok TN (orcB [fs112w, fs23w, fs113w] []) h78 0 0 b78 := by
 intro q'' hq'' x'' y'' r'' h
 obtain ⟨(i : Int), _⟩ := x''
 obtain ⟨⟨(mi : Int), (mqr : Bool), (maa : Bool), (mtc : Bool), (mrd : Bool), (mra : Bool), (mop : Int), (mrc : Int), (mq : List QQt), (man : List RRt), (mns : List RRt), (mar : List RRt), _⟩, ⟨(S : List UInt8), (L : List (List UInt8 × Int)), _⟩, _⟩ := y''
 obtain ⟨hc, rfl⟩ := Tr.get_on h
 show loopF (fun st => evC TN (orcB [fs112w, fs23w, fs113w] []) (lpN TN (orcB [fs112w, fs23w, fs113w] []) h78 0 q'') b78 0 st (roundK [1, 3, 4] [1, 3] 0)) (stOf [1, 3, 4] [.ptr 0 0, .ptr 1 0, .int .i64 i] [MO mi mqr maa mtc mrd mra mop mrc mq man mns mar, .box [.str S, .list (.pair .str (.int .i64)) L]]) = some (.exit 0, stOf [1, 3] ([.ptr 0 0, .ptr 1 0]) ([MO mi mqr maa mtc mrd mra mop mrc mq man mns mar, .box [.str (putQs mq (S, L)).1, .list (.pair .str (.int .i64)) (putQs mq (S, L)).2]]))
 simp only [rqsC, Bool.and_eq_true, decide_eq_true_eq] at hc
 obtain ⟨⟨hall, hl⟩, rfl, hk, hb, hb2⟩ := hc
 have hl := Nat.le_of_ble_eq_true hl
 have hb := Nat.le_of_ble_eq_true hb
 have hb2 := Nat.le_of_ble_eq_true hb2
 refine wf78 mi mqr maa mtc mrd mra mop mrc mq man mns mar (rqsI mq (S, L)) (fun i _ _ => (mq.length - i).toNat) _ ?_ _ 0 S L ⟨by omega, by omega, hk, by omega, by omega, rfl⟩
 clear hk hb hb2
 rintro i S' L' ⟨h0, h1, hk, hpl, hpl2, hF⟩
 rw [← hF]
 unfold r78
 by_cases hi : i < mq.length
 · obtain ⟨d1, d2⟩ := drop_getD (Ty.dflt QQ) h0 hi
   generalize List.getD mq (Int.toNat i) (Ty.dflt QQ) = q at d1 d2
   rw [d1, putQs] at hF
   obtain ⟨q1, q2, q3⟩ := rgQ_ok (List.all_eq_true.1 hall q d2)
   obtain ⟨k1, k2, k3⟩ := putQ_good (P := (S', L')) q1 hk
   have hpk : (ptOk (S', L') q.1 && qOk q) = true := by rw [ptOk_iff.2 ⟨len_big (by omega), hk, by show S'.length ≤ _; omega, by show L'.length ≤ _; omega⟩, q2]; rfl
   have k2 : (putQ q (S', L')).1.length ≤ S'.length + q.1.length + 4 := k2
   have k3 : (putQ q (S', L')).2.length ≤ L'.length + q.1.length := k3
   rw [wrap_succ h0 h1 (by omega)]
   exact Tr.all_t (dec_true hi) (Tr.all_t (dec_true h0) (Tr.all_t (dec_true hi) (Tr.all_t hpk (Tr.all_t q1 (Tr.all_ret (.inr ⟨_, _, _, rfl, ⟨by omega, by omega, k1, by omega, by omega, hF⟩, by omega⟩))))))
 · refine Tr.all_f (dec_false hi) (Tr.all_ret (.inl ?_))
   rw [List.drop_eq_nil_of_le (by omega)]
   rfl
def t78 (g : MGt) : Tr Res := .br (mayN g && (n16C g.1 && lesM g)) (.br (rqsC g.2.2.2.2.2.2.2.2.1 (headB g) [] 0) (.br (rpsC g.2.2.2.2.2.2.2.2.2.1 (putQs g.2.2.2.2.2.2.2.2.1 (headB g, [])).1 (putQs g.2.2.2.2.2.2.2.2.1 (headB g, [])).2 0) (.br (rpsC g.2.2.2.2.2.2.2.2.2.2.1 (putRs g.2.2.2.2.2.2.2.2.2.1 (putQs g.2.2.2.2.2.2.2.2.1 (headB g, []))).1 (putRs g.2.2.2.2.2.2.2.2.2.1 (putQs g.2.2.2.2.2.2.2.2.1 (headB g, []))).2 0) (.br (rpsC g.2.2.2.2.2.2.2.2.2.2.2 (putRs g.2.2.2.2.2.2.2.2.2.2.1 (putRs g.2.2.2.2.2.2.2.2.2.1 (putQs g.2.2.2.2.2.2.2.2.1 (headB g, [])))).1 (putRs g.2.2.2.2.2.2.2.2.2.2.1 (putRs g.2.2.2.2.2.2.2.2.2.1 (putQs g.2.2.2.2.2.2.2.2.1 (headB g, [])))).2 0) (.ret ([.str (putRs g.2.2.2.2.2.2.2.2.2.2.2 (putRs g.2.2.2.2.2.2.2.2.2.2.1 (putRs g.2.2.2.2.2.2.2.2.2.1 (putQs g.2.2.2.2.2.2.2.2.1 (headB g, []))))).1], [])) .no) .no) .no) .no) .no
def os78 : OSpec := { f := 78, sh := [.d MG true], so := [], F := fun (g, _) _ => t78 g }
theorem fn78 (g : MGt) : evC TN (orcB [fs112w, fs23w, fs113w] []) (lpOf h78 0 (lsOf [ls78])) c78 1000000 (startSt [AV.ofTy MG g true] [] Try.f78.ntmps) (finishK TN false 0 Try.f78) = (t78 g).get := by kernel_rfl
theorem ok78 : os78.Ok Try.prog := by
 refine os_ok mixed0 tabN (orcB_sound (all_cons okf112w (all_cons okf23w (all_cons okf113w all_nil))) all_nil) h78 (d := 0) (n0 := 0) (S := lsOf [ls78]) Try.func78 (by kernel_rfl) (c := c78) (by kernel_rfl) rfl (loops_eq (xs := [(0, b78)]) (by kernel_rfl) (all_cons (ls_here loop78) all_nil)) (by omega) (by kernel_rfl) ?_
 intro x'' y'' q'' hq''
 obtain ⟨(g : MGt), _⟩ := x''
 exact (fn78 g).trans hq''
def fs78 : FSpec := fsT 78 [(MG, true)] [(.str, false)] fun (g, _) => t78 g
theorem okf78 : fs78.Ok Try.prog := fsT_ok fun x'' r'' hr'' => ok78 x'' () r'' hr''
def fs78w : FSpec := fs78.like fun (m, _) => .on (goodM m) (bytM m, ())
theorem okf78w : fs78w.Ok Try.prog := by
 refine flike_ok okf78 _ ?_
 rintro ⟨(m : MGt), _⟩ y h
 obtain ⟨hb, rfl⟩ := Tr.get_on h
 have hb : goodM m = true := hb
 obtain ⟨h1, h2, ⟨l1, l2, l3, l4⟩, hq, hr, hl⟩ := goodM_facts hb
 refine convR_of (vs := [.str (bytM m)]) rfl rfl (Tr.get_of_all ?_)
 show (t78 m).all _
 have hlm : lesM m = true := lesM_iff.2 ⟨l1, l2, l3, l4⟩
 unfold recsM at hr
 rw [List.all_append, List.all_append, Bool.and_eq_true, Bool.and_eq_true] at hr
 obtain ⟨r1, r2, r3⟩ := hr
 obtain ⟨a1, a2, a3⟩ := putQs_good (P := (headB m, [])) hq rfl
 have e : (headB m, ([] : Known)).1.length = 12 := rfl
 have e2 : (headB m, ([] : Known)).2.length = 0 := rfl
 obtain ⟨b1, b2, b3⟩ := putRs_good (P := putQs (mQ m) (headB m, [])) r1 a1
 obtain ⟨c1, c2, c3⟩ := putRs_good (P := putRs (mAn m) (putQs (mQ m) (headB m, []))) r2 b1
 have hF : putRs (mAr m) (putRs (mNs m) (putRs (mAn m) (putQs (mQ m) (headB m, [])))) = bytP m := by
  unfold bytP recsM
  rw [putRs_app, putRs_app]
 unfold t78
 refine Tr.all_t (by rw [h1, h2, hlm]; rfl) (Tr.all_t ?_ (Tr.all_t ?_ (Tr.all_t ?_ (Tr.all_t ?_ (Tr.all_ret (by unfold bytM; rw [← hF]; rfl))))))
 · show rqsC (mQ m) (headB m) [] 0 = true
   unfold rqsC
   rw [hq, Nat.ble_eq_true_of_le l1, dec_true rfl]
   rfl
 · show rpsC (mAn m) (putQs (mQ m) (headB m, [])).1 (putQs (mQ m) (headB m, [])).2 0 = true
   unfold rpsC
   rw [r1, Nat.ble_eq_true_of_le l2, dec_true rfl, a1, Nat.ble_eq_true_of_le (by omega), Nat.ble_eq_true_of_le (by omega)]
   rfl
 · show rpsC (mNs m) (putRs (mAn m) (putQs (mQ m) (headB m, []))).1 (putRs (mAn m) (putQs (mQ m) (headB m, []))).2 0 = true
   unfold rpsC
   rw [r2, Nat.ble_eq_true_of_le l3, dec_true rfl, b1, Nat.ble_eq_true_of_le (by omega), Nat.ble_eq_true_of_le (by omega)]
   rfl
 · show rpsC (mAr m) (putRs (mNs m) (putRs (mAn m) (putQs (mQ m) (headB m, [])))).1 (putRs (mNs m) (putRs (mAn m) (putQs (mQ m) (headB m, [])))).2 0 = true
   unfold rpsC
   rw [r3, Nat.ble_eq_true_of_le l4, dec_true rfl, c1, Nat.ble_eq_true_of_le (by omega), Nat.ble_eq_true_of_le (by omega)]
   rfl
end Go.Proofs.YtlkpiegllammdaaE
