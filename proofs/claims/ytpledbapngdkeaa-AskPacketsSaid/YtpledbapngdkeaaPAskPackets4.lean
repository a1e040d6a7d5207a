import Derived.Test.YtpledbapngdkeaaPAskPackets3
set_option maxRecDepth 1000000
namespace Go.Proofs.YtpledbapngdkeaaE
open Go Go.Proofs.YtpledbapngdkeaaB
set_option linter.unusedVariables false
set_option linter.unusedSimpArgs false
def nmC (n : List UInt8) (b : List Int) (l : Known) : Bool := rootV n && (bytesOk b && (kOk l && Nat.ble (b.length + n.length) 1000000000000))
noncomputable def b123 : Code := (nthLoop c123 0)
def ls123 : LoopSpec := { bid := 0, sh := [.ptr 0 0, .d .str false], so := [.box [.row 1, .mp 2], .row (.int .u8), .map .str (.int .i64)], F := fun (n, _) (_, b, l, _) => .on2 (nmC n b l) ((nameL n (intBytes b) l).1.isSome) (.ret, [.ptr 0 0, .str (nameL n (intBytes b) l).2.1, .int .i64 0], [.box [.rowA 1, .mp 2], .row (.int .u8) (bytesInt ((nameL n (intBytes b) l).2.2.1 ++ put16 (49152 + (nameL n (intBytes b) l).1.getD 0))), .mpo .str (.int .i64) (nameL n (intBytes b) l).2.2.2]) (.exit 0, [.ptr 0 0, .str (nameL n (intBytes b) l).2.1, .dead], [.box [.rowA 1, .mp 2], .row (.int .u8) (bytesInt (nameL n (intBytes b) l).2.2.1), .mpo .str (.int .i64) (nameL n (intBytes b) l).2.2.2]) }
def r123 (n : List UInt8) (b : List Int) (l : List (List UInt8 × Int)) : Tr (St ⊕ (Ex × St)) := .br (!n == [0]) (.br (hasM Ty.str (Ty.int .i64) n l) (.br (n16C (IntKind.wrap .u16 (IntKind.wrap .i64 (↑(BitVec.toNat (BitVec.ofInt (IntKind.bits IntKind.i64) 49152 ||| BitVec.ofInt (IntKind.bits IntKind.i64) (getM Ty.str (Ty.int .i64) n l))) : Int)))) (.br (fits (List.length b + List.length (bytesInt (put16 (IntKind.wrap .u16 (IntKind.wrap .i64 (↑(BitVec.toNat (BitVec.ofInt (IntKind.bits IntKind.i64) 49152 ||| BitVec.ofInt (IntKind.bits IntKind.i64) (getM Ty.str (Ty.int .i64) n l))) : Int)))))) 1) (.ret (.inr (.ret, stOf [0, 1, 4] [.ptr 0 0, .str n, .int .i64 0] [.boxT none [.rowA 1, .mp 2], .row (.int .u8) (b ++ bytesInt (put16 (IntKind.wrap .u16 (IntKind.wrap .i64 (↑(BitVec.toNat (BitVec.ofInt (IntKind.bits IntKind.i64) 49152 ||| BitVec.ofInt (IntKind.bits IntKind.i64) (getM Ty.str (Ty.int .i64) n l))) : Int))))), .mpo .str (.int .i64) l]))) .no) .no) (.br (decide ((↑b.length : Int) < 16384)) (.br (decide (0 < (↑n.length : Int))) (.br (decide (0 ≤ IntKind.wrap .i64 (1 + IntKind.wrap .i64 (↑(UInt8.toNat (n.getD (Int.toNat 0) 0)) : Int))) && decide (IntKind.wrap .i64 (1 + IntKind.wrap .i64 (↑(UInt8.toNat (n.getD (Int.toNat 0) 0)) : Int)) ≤ (↑n.length : Int))) (.br (decide (0 ≤ 0) && decide (0 ≤ IntKind.wrap .i64 (1 + IntKind.wrap .i64 (↑(UInt8.toNat (n.getD (Int.toNat 0) 0)) : Int)))) (.br (fits (List.length b + List.length (bytesInt (List.take (Int.toNat (IntKind.wrap .i64 (1 + IntKind.wrap .i64 (↑(UInt8.toNat (n.getD (Int.toNat 0) 0)) : Int))) - Int.toNat 0) (List.drop (Int.toNat 0) n)))) 1) (.br (decide (0 ≤ (↑n.length : Int)) && decide ((↑n.length : Int) ≤ (↑n.length : Int))) (.br (decide (0 ≤ IntKind.wrap .i64 (1 + IntKind.wrap .i64 (↑(UInt8.toNat (n.getD (Int.toNat 0) 0)) : Int))) && decide (IntKind.wrap .i64 (1 + IntKind.wrap .i64 (↑(UInt8.toNat (n.getD (Int.toNat 0) 0)) : Int)) ≤ (↑n.length : Int))) (.ret (.inl (stOf [0, 1] [.ptr 0 0, .str (List.take (Int.toNat (↑n.length : Int) - Int.toNat (IntKind.wrap .i64 (1 + IntKind.wrap .i64 (↑(UInt8.toNat (n.getD (Int.toNat 0) 0)) : Int)))) (List.drop (Int.toNat (IntKind.wrap .i64 (1 + IntKind.wrap .i64 (↑(UInt8.toNat (n.getD (Int.toNat 0) 0)) : Int)))) n))] [.boxT none [.rowA 1, .mp 2], .row (.int .u8) (b ++ bytesInt (List.take (Int.toNat (IntKind.wrap .i64 (1 + IntKind.wrap .i64 (↑(UInt8.toNat (n.getD (Int.toNat 0) 0)) : Int))) - Int.toNat 0) (List.drop (Int.toNat 0) n))), .mpo .str (.int .i64) (putM Ty.str (Ty.int .i64) n (↑b.length : Int) l)]))) .no) .no) .no) .no) .no) .no) (.br (decide (0 < (↑n.length : Int))) (.br (decide (0 ≤ IntKind.wrap .i64 (1 + IntKind.wrap .i64 (↑(UInt8.toNat (n.getD (Int.toNat 0) 0)) : Int))) && decide (IntKind.wrap .i64 (1 + IntKind.wrap .i64 (↑(UInt8.toNat (n.getD (Int.toNat 0) 0)) : Int)) ≤ (↑n.length : Int))) (.br (decide (0 ≤ 0) && decide (0 ≤ IntKind.wrap .i64 (1 + IntKind.wrap .i64 (↑(UInt8.toNat (n.getD (Int.toNat 0) 0)) : Int)))) (.br (fits (List.length b + List.length (bytesInt (List.take (Int.toNat (IntKind.wrap .i64 (1 + IntKind.wrap .i64 (↑(UInt8.toNat (n.getD (Int.toNat 0) 0)) : Int))) - Int.toNat 0) (List.drop (Int.toNat 0) n)))) 1) (.br (decide (0 ≤ (↑n.length : Int)) && decide ((↑n.length : Int) ≤ (↑n.length : Int))) (.br (decide (0 ≤ IntKind.wrap .i64 (1 + IntKind.wrap .i64 (↑(UInt8.toNat (n.getD (Int.toNat 0) 0)) : Int))) && decide (IntKind.wrap .i64 (1 + IntKind.wrap .i64 (↑(UInt8.toNat (n.getD (Int.toNat 0) 0)) : Int)) ≤ (↑n.length : Int))) (.ret (.inl (stOf [0, 1] [.ptr 0 0, .str (List.take (Int.toNat (↑n.length : Int) - Int.toNat (IntKind.wrap .i64 (1 + IntKind.wrap .i64 (↑(UInt8.toNat (n.getD (Int.toNat 0) 0)) : Int)))) (List.drop (Int.toNat (IntKind.wrap .i64 (1 + IntKind.wrap .i64 (↑(UInt8.toNat (n.getD (Int.toNat 0) 0)) : Int)))) n))] [.boxT none [.rowA 1, .mp 2], .row (.int .u8) (b ++ bytesInt (List.take (Int.toNat (IntKind.wrap .i64 (1 + IntKind.wrap .i64 (↑(UInt8.toNat (n.getD (Int.toNat 0) 0)) : Int))) - Int.toNat 0) (List.drop (Int.toNat 0) n))), .mpo .str (.int .i64) l]))) .no) .no) .no) .no) .no) .no))) (.ret (.inr (.exit 0, stOf [0, 1, 4] [.ptr 0 0, .str n, .dead] [.boxT none [.rowA 1, .mp 2], .row (.int .u8) b, .mpo .str (.int .i64) l])))
theorem round123 (lp : Lp) (n : List UInt8) (b : List Int) (l : List (List UInt8 × Int)) : evC T0 (orcB [fs99w, fs68w] [os98]) lp b123 0 (stOf [0, 1] [.ptr 0 0, .str n] [.box [.rowA 1, .mp 2], .row (.int .u8) b, .mpo .str (.int .i64) l]) (roundK [0, 1] [0, 1, 4] 3) = (r123 n b l).get := by kernel_rfl
theorem wf123 (I'' : List UInt8 → List Int → List (List UInt8 × Int) → Prop) (m'' : List UInt8 → List Int → List (List UInt8 × Int) → Nat) (r'' : Ex × St) (h : ∀ (n : List UInt8) (b : List Int) (l : List (List UInt8 × Int)), I'' n b l → (r123 n b l).all fun x'' => x'' = .inr r'' ∨ ∃ (n' : List UInt8) (b' : List Int) (l' : List (List UInt8 × Int)), x'' = .inl (stOf [0, 1] [.ptr 0 0, .str n'] [.box [.rowA 1, .mp 2], .row (.int .u8) b', .mpo .str (.int .i64) l']) ∧ I'' n' b' l' ∧ m'' n' b' l' < m'' n b l) (lp : Lp) (n : List UInt8) (b : List Int) (l : List (List UInt8 × Int)) : I'' n b l →
    loopF (fun st => evC T0 (orcB [fs99w, fs68w] [os98]) lp b123 0 st (roundK [0, 1] [0, 1, 4] 3)) (stOf [0, 1] [.ptr 0 0, .str n] [.box [.rowA 1, .mp 2], .row (.int .u8) b, .mpo .str (.int .i64) l]) = some r'' :=
 loop_tr (fun a'' : List UInt8 × List Int × List (List UInt8 × Int) => stOf [0, 1] [.ptr 0 0, .str a''.1] [.box [.rowA 1, .mp 2], .row (.int .u8) a''.2.1, .mpo .str (.int .i64) a''.2.2]) (fun a'' => I'' a''.1 a''.2.1 a''.2.2) (fun a'' => m'' a''.1 a''.2.1 a''.2.2) r'' (fun a'' => r123 a''.1 a''.2.1 a''.2.2)
  (fun a'' x hx => (round123 lp a''.1 a''.2.1 a''.2.2).trans hx) (fun a'' ha => Tr.all_mono (fun x'' hx => hx.imp id fun ⟨n', b', l', h1, h2, h3⟩ => ⟨(n', b', l'), h1, h2, h3⟩) (h (a''.1) (a''.2.1) (a''.2.2) ha)) (n, b, l)
def nmI (n0 : List UInt8) (b0 : List Int) (l0 : Known) (n : List UInt8) (b : List Int) (l : Known) : Prop := rootV n = true ∧ bytesOk b = true ∧ kOk l = true ∧ b.length + n.length ≤ 1000000000000 ∧ nameL n (intBytes b) l = nameL n0 (intBytes b0) l0
theorem loop123 : ls123.Ok T0 (orcB [fs99w, fs68w] [os98]) h123 3 0 b123 := by
 intro q'' hq'' x'' y'' r'' h
 obtain ⟨(n : List UInt8), _⟩ := x''
 obtain ⟨_, (b : List Int), (l : List (List UInt8 × Int)), _⟩ := y''
 obtain ⟨hc, rfl⟩ := Tr.get_on2 h
 show loopF (fun st => evC T0 (orcB [fs99w, fs68w] [os98]) (lpN T0 (orcB [fs99w, fs68w] [os98]) h123 3 q'') b123 0 st (roundK [0, 1] [0, 1, 4] 3)) (stOf [0, 1] [.ptr 0 0, .str n] [.box [.rowA 1, .mp 2], .row (.int .u8) b, .mpo .str (.int .i64) l]) = some ((bif (nameL n (intBytes b) l).1.isSome then (.ret, [.ptr 0 0, .str (nameL n (intBytes b) l).2.1, .int .i64 0], [.box [.rowA 1, .mp 2], .row (.int .u8) (bytesInt ((nameL n (intBytes b) l).2.2.1 ++ put16 (49152 + (nameL n (intBytes b) l).1.getD 0))), .mpo .str (.int .i64) (nameL n (intBytes b) l).2.2.2]) else (.exit 0, [.ptr 0 0, .str (nameL n (intBytes b) l).2.1, .dead], [.box [.rowA 1, .mp 2], .row (.int .u8) (bytesInt (nameL n (intBytes b) l).2.2.1), .mpo .str (.int .i64) (nameL n (intBytes b) l).2.2.2]) : Ex × List AV × List LObj).1, stOf [0, 1, 4] (bif (nameL n (intBytes b) l).1.isSome then (.ret, [.ptr 0 0, .str (nameL n (intBytes b) l).2.1, .int .i64 0], [.box [.rowA 1, .mp 2], .row (.int .u8) (bytesInt ((nameL n (intBytes b) l).2.2.1 ++ put16 (49152 + (nameL n (intBytes b) l).1.getD 0))), .mpo .str (.int .i64) (nameL n (intBytes b) l).2.2.2]) else (.exit 0, [.ptr 0 0, .str (nameL n (intBytes b) l).2.1, .dead], [.box [.rowA 1, .mp 2], .row (.int .u8) (bytesInt (nameL n (intBytes b) l).2.2.1), .mpo .str (.int .i64) (nameL n (intBytes b) l).2.2.2]) : Ex × List AV × List LObj).2.1 (bif (nameL n (intBytes b) l).1.isSome then (.ret, [.ptr 0 0, .str (nameL n (intBytes b) l).2.1, .int .i64 0], [.box [.rowA 1, .mp 2], .row (.int .u8) (bytesInt ((nameL n (intBytes b) l).2.2.1 ++ put16 (49152 + (nameL n (intBytes b) l).1.getD 0))), .mpo .str (.int .i64) (nameL n (intBytes b) l).2.2.2]) else (.exit 0, [.ptr 0 0, .str (nameL n (intBytes b) l).2.1, .dead], [.box [.rowA 1, .mp 2], .row (.int .u8) (bytesInt (nameL n (intBytes b) l).2.2.1), .mpo .str (.int .i64) (nameL n (intBytes b) l).2.2.2]) : Ex × List AV × List LObj).2.2)
 simp only [nmC, Bool.and_eq_true] at hc
 obtain ⟨hr, hok, hk, hb⟩ := hc
 have hb := Nat.le_of_ble_eq_true hb
 refine wf123 (nmI n b l) (fun n _ _ => n.length) _ ?_ _ n b l ⟨hr, hok, hk, hb, rfl⟩
 clear hr hok hk hb
 rename_i n0 b0 l0
 rintro n b l ⟨hr, hok, hk, hb, he⟩
 rw [← he]
 unfold r123
 have hbS : bytesInt (intBytes b) = b := bytes_intB hok
 have hSl : (intBytes b).length = b.length := intB_len b
 rcases root_cases hr with rfl | ⟨hn0, hn1, hlt, h63, hne, hrt⟩
 · rw [nameL_root]
   refine Tr.all_f (by simp) (Tr.all_ret (.inl ?_))
   simp only [Option.isSome_none, cond_false, hbS]
 · refine Tr.all_t (by simpa using hn0) ?_
   cases hlk : lookK n l with
   | some a =>
     obtain ⟨ha0, ha1⟩ := kOk_look hk hlk
     rw [nameL_known hn0 hlk]
     rw [getM_some hlk]
     simp only [or_far ha0 ha1]
     refine Tr.all_t (by rw [hasM_some, hlk]; rfl) (Tr.all_t (by simp [n16C]; omega) (Tr.all_t (fits_true (by simp [bytesInt_len, put16_len]; omega) (by simp [bytesInt_len, put16_len]; omega)) (Tr.all_ret (.inl ?_))))
     simp only [Option.isSome_some, cond_true, bytesInt_app, hbS, Option.getD_some]
   | none =>
     rw [nameL_next hn0 hn1 hlk]
     rw [putK_new hlk]
     simp only [szW, hdW, tlW]
     have hfit : fits (List.length b + List.length (bytesInt (hdN n))) 1 = true := fits_true (by rw [bytesInt_len, hdN_len (by omega)]; omega) (by rw [bytesInt_len, hdN_len (by omega)]; omega)
     have hnew : bytesOk (b ++ bytesInt (hdN n)) = true := bytesOk_app hok (bytesInt_ok _)
     have hlen : (b ++ bytesInt (hdN n)).length + (tlN n).length ≤ 1000000000000 := by
      rw [List.length_append, bytesInt_len, hdN_len (by omega), tlN_len]; omega
     have hS2 : intBytes (b ++ bytesInt (hdN n)) = intBytes b ++ hdN n := by rw [intB_app, intB_bytes]
     have hm : (tlN n).length < n.length := tlN_lt hn1
     refine Tr.all_f (by rw [hasM_some, hlk]; rfl) (Tr.all_br (fun c1 => ?_) fun c1 => ?_)
     · simp only [decide_eq_true_eq] at c1
       refine Tr.all_t (dec_true (by omega)) (Tr.all_t (by rw [dec_true (by omega), dec_true (by omega)]; rfl) (Tr.all_t (by rw [dec_true (by omega), dec_true (by omega)]; rfl) (Tr.all_t hfit (Tr.all_t (by rw [dec_true (by omega), dec_true (by omega)]; rfl) (Tr.all_t (by rw [dec_true (by omega), dec_true (by omega)]; rfl) (Tr.all_ret (.inr ⟨_, _, _, rfl, ⟨hrt, hnew, kOk_add hk (by omega), hlen, ?_⟩, hm⟩)))))))
       rw [hS2, ← he, nameL_next hn0 hn1 hlk, if_pos (by omega), hSl]
     · simp only [decide_eq_false_iff_not] at c1
       refine Tr.all_t (dec_true (by omega)) (Tr.all_t (by rw [dec_true (by omega), dec_true (by omega)]; rfl) (Tr.all_t (by rw [dec_true (by omega), dec_true (by omega)]; rfl) (Tr.all_t hfit (Tr.all_t (by rw [dec_true (by omega), dec_true (by omega)]; rfl) (Tr.all_t (by rw [dec_true (by omega), dec_true (by omega)]; rfl) (Tr.all_ret (.inr ⟨_, _, _, rfl, ⟨hrt, hnew, hk, hlen, ?_⟩, hm⟩)))))))
       rw [hS2, ← he, nameL_next hn0 hn1 hlk, if_neg (by omega)]
def t123 (n : List UInt8) (b : List Int) (l : List (List UInt8 × Int)) : Tr Res := .br (bigS n) (.br (!mayV n) (.ret ([.int .i64 1], [.boxT none [.rowA 1, .mp 2], .row (.int .u8) b, .mpo .str (.int .i64) l])) (.br (nmC n b l) (.br (Option.isSome (nameL n (intBytes b) l).1) (.ret ([.int .i64 0], [.boxT none [.rowA 1, .mp 2], .row (.int .u8) (bytesInt ((nameL n (intBytes b) l).2.2.1 ++ put16 (49152 + Option.getD (nameL n (intBytes b) l).1 0))), .mpo .str (.int .i64) (nameL n (intBytes b) l).2.2.2])) (.br (fits (List.length (bytesInt (nameL n (intBytes b) l).2.2.1) + List.length (bytesInt (nameL n (intBytes b) l).2.1)) 1) (.ret ([.int .i64 0], [.boxT none [.rowA 1, .mp 2], .row (.int .u8) (bytesInt (nameL n (intBytes b) l).2.2.1 ++ bytesInt (nameL n (intBytes b) l).2.1), .mpo .str (.int .i64) (nameL n (intBytes b) l).2.2.2])) .no)) .no)) .no
def os123 : OSpec := { f := 123, sh := [.ptr 0 0, .d .str false], so := [.box [.row 1, .mp 2], .row (.int .u8), .map .str (.int .i64)], F := fun (n, _) (_, b, l, _) => t123 n b l }
theorem fn123 (n : List UInt8) (b : List Int) (l : List (List UInt8 × Int)) : evC T0 (orcB [fs99w, fs68w] [os98]) (lpOf h123 3 (lsOf [ls123])) c123 1000000 (startSt [.ptr 0 0, .str n] [.box [.rowA 1, .mp 2], .row (.int .u8) b, .mpo .str (.int .i64) l] Try.f123.ntmps) (finishK T0 false 3 Try.f123) = (t123 n b l).get := by kernel_rfl
theorem ok123 : os123.Ok Try.prog := by
 refine os_ok mixed0 tab0 (orcB_sound (all_cons okf99w (all_cons okf68w all_nil)) (all_cons ok98 all_nil)) h123 (d := 0) (n0 := 3) (S := lsOf [ls123]) Try.func123 (by kernel_rfl) (c := c123) (by kernel_rfl) rfl (loops_eq (xs := [(0, b123)]) (by kernel_rfl) (all_cons (ls_here loop123) all_nil)) (by omega) (by kernel_rfl) ?_
 intro x'' y'' q'' hq''
 obtain ⟨(n : List UInt8), _⟩ := x''
 obtain ⟨_, (b : List Int), (l : List (List UInt8 × Int)), _⟩ := y''
 exact (fn123 n b l).trans hq''
abbrev pkO (b : List Int) (l : Known) : List LObj := [.box [.rowA 1, .mp 2], .row (.int .u8) b, .mpo .str (.int .i64) l]
def pkC (b : List Int) (l : Known) : Bool := bytesOk b && (kOk l && Nat.ble b.length 100000000000)
def os123w : OSpec := os123.like fun (n, _) (_, b, l, _) => .br (pkC b l && Nat.ble n.length 100000000000) (.br (mayV n) (.ret ([.int .i64 0], pkO (bytesInt (nameP n (intBytes b) l).1) (nameP n (intBytes b) l).2)) (.ret ([.int .i64 1], pkO b l))) .no
theorem ok123w : os123w.Ok Try.prog := by
 refine like_ok ok123 _ ?_
 rintro ⟨(n : List UInt8), _⟩ ⟨_, (b : List Int), (l : Known), _⟩ r h
 simp only [Tr.get] at h
 cases hc : (pkC b l && Nat.ble n.length 100000000000) with
 | false => rw [hc] at h; cases h
 | true =>
   rw [hc, cond_true] at h
   simp only [pkC, Bool.and_eq_true] at hc
   obtain ⟨⟨hok, hk, hb⟩, hn⟩ := hc
   have hb := Nat.le_of_ble_eq_true hb
   have hn := Nat.le_of_ble_eq_true hn
   refine Tr.get_of_all ?_
   show (t123 n b l).all _
   have hbig : bigS n = true := by simp [bigS]; omega
   cases hm : mayV n with
   | false =>
     rw [hm, cond_false] at h
     cases h
     unfold t123
     rw [hm]
     exact Tr.all_t hbig (Tr.all_t rfl (Tr.all_ret rfl))
   | true =>
     rw [hm, cond_true] at h
     cases h
     unfold t123
     rw [hm]
     have hr : rootV n = true := by simp only [mayV, Bool.and_eq_true] at hm; exact hm.1
     obtain ⟨f1, f2, f3, f4, f5, f6⟩ := nameL_facts _ n (intBytes b) l rfl hr
     rw [intB_len] at f3
     refine Tr.all_t hbig (Tr.all_f rfl (Tr.all_t (by simp only [nmC, hr, hok, hk, Bool.true_and]; exact Nat.ble_eq_true_of_le (by omega)) ?_))
     unfold nameP
     cases hf : (nameL n (intBytes b) l).1 with
     | some a =>
       refine Tr.all_t rfl (Tr.all_ret ?_)
       rfl
     | none =>
       rw [f1 hf] at f3
       refine Tr.all_f rfl (Tr.all_t (fits_true (by rw [bytesInt_len, bytesInt_len, f1 hf]; simp at f3 ⊢; omega) (by rw [bytesInt_len, bytesInt_len, f1 hf]; simp at f3 ⊢; omega)) (Tr.all_ret ?_))
       rw [f1 hf, ← bytesInt_app]
       rfl
abbrev PKt := List UInt8 × Known
def stN (p : PKt) (x : List UInt8 × Bool) : PKt := bif mayV x.1 then nameP x.1 p.1 p.2 else p
theorem drop_getD {α : Type} {l : List α} {i : Int} (d : α) (h0 : 0 ≤ i) (h : i < l.length) : l.drop i.toNat = l.getD i.toNat d :: l.drop (i + 1).toNat ∧ l.getD i.toNat d ∈ l := by
 have hk : i.toNat < l.length := by omega
 rw [List.getD_eq_getElem?_getD, List.getElem?_eq_getElem hk, show (i + 1).toNat = i.toNat + 1 by omega]
 exact ⟨List.drop_eq_getElem_cons hk, List.getElem_mem hk⟩
def layV (k : Int) : List Int := if k = 1 then [4] else if k = 28 then [16] else if k = 2 ∨ k = 5 ∨ k = 12 then [-1] else if k = 15 then [2, -1] else if k = 6 then [-1, -1, 20] else if k = 16 then [-2] else [-3]
def whAt (s : List UInt8) (k : Nat) : Nat := if h : k < s.length ∧ 0 < byN s k then whAt s (k + 1 + byN s k) else k
termination_by s.length - k
def wholeV (s : List UInt8) : Nat := if whAt s 0 < s.length ∧ mayV (s.take (whAt s 0 + 1)) = true then whAt s 0 + 1 else 0
theorem wholeV_le (s : List UInt8) : wholeV s ≤ s.length := by
 unfold wholeV
 split <;> omega
def txAt (s : List UInt8) (k : Nat) : Nat := if h : k < s.length then txAt s (k + 1 + byN s k) else k
termination_by s.length - k
def textsV (s : List UInt8) : Bool := !s.isEmpty && decide (txAt s 0 = s.length)
def szP (p : Int) (d : List UInt8) : Int := if p = -1 then (wholeV d : Int) else if p = -2 ∧ textsV d = true ∨ p = -3 then (d.length : Int) else p
def okP (p : Int) (d : List UInt8) : Bool := decide (0 ≤ szP p d) && (decide (szP p d ≤ (d.length : Int)) && !(decide (p = -1) && decide (szP p d = 0)))
def cutS : List Int → List UInt8 → List (List UInt8) → Bool × (List UInt8 × List (List UInt8))
 | [], d, out => (true, d, out)
 | p :: ps, d, out => if okP p d = true then cutS ps (d.drop (szP p d).toNat) (out ++ [d.take (szP p d).toNat]) else (false, d, out)
def noS (l : List (List UInt8)) : Bool := l.isEmpty
def cutC (d : List UInt8) (ps : List Int) (n i : Int) (l : List (List UInt8)) : Bool := bigS d && (decide (n = ps.length) && (decide (i = 0) && (noS l && decide (ps.length ≤ 10))))
def okV (k : Int) (d : List UInt8) : Bool := (cutS (layV k) d []).1
def restV (k : Int) (d : List UInt8) : List UInt8 := (cutS (layV k) d []).2.1
def partsV (k : Int) (d : List UInt8) : List (List UInt8) := (cutS (layV k) d []).2.2
def mayR (k : Int) (d : List UInt8) : Bool := (okV k d && (restV k d).isEmpty) && Nat.ble d.length 65535
def putS : List Int → List (List UInt8) → PKt → PKt
 | [], _, p => p
 | x :: ps, ls, p => putS ps ls.tail (bif x == -1 then stN p (ls.headD [], false) else (p.1 ++ ls.headD [], p.2))
def putC (ls : List (List UInt8)) (ps : List Int) (n i : Int) (b : List Int) (m : Known) : Bool := (bytesOk b && (kOk m && Nat.ble b.length 1000000000)) && (decide (n = ps.length) && (decide (i = 0) && (decide (ls.length = ps.length) && (decide (ps.length ≤ 10) && ls.all fun x => decide (x.length ≤ 1000000)))))
def pkT (b : List Int) (m : Known) : Bool := bytesOk b && (kOk m && Nat.ble b.length 1000000000)
def putR (k : Int) (d : List UInt8) (p : PKt) : PKt := putS (layV k) (partsV k d) p
theorem stN_k {p : PKt} {x : List UInt8 × Bool} (h : kOk p.2 = true) : kOk (stN p x).2 = true ∧ (stN p x).1.length ≤ p.1.length + x.1.length := by
 unfold stN
 cases hm : mayV x.1 with
 | false => exact ⟨h, by simp⟩
 | true =>
   obtain ⟨_, _, _, f4, _⟩ := nameL_facts _ x.1 p.1 p.2 rfl (may_iff.1 hm).1
   obtain ⟨l1, _⟩ := nameL_len _ x.1 p.1 p.2 rfl (may_iff.1 hm).1
   exact ⟨f4 h, l1⟩
def t138 : Tr Res := .ret ([.mp 0], [.mpo (Ty.int .u16) (Ty.list (.int .i64)) [(1, [4]), (28, [16]), (2, [(-1 : Int)]), (5, [(-1 : Int)]), (12, [(-1 : Int)]), (15, [2, (-1 : Int)]), (6, [(-1 : Int), (-1 : Int), 20]), (16, [(-2 : Int)])]])
def os138 : OSpec := { f := 138, sh := [], so := [], F := fun _ _ => t138 }
theorem fn138 : evC T0 (orcB [] []) (lpOf (hOwn h138) 0 (lsOf [])) c138 1000000 (startSt [] [] Try.f138.ntmps) (finishK T0 true 0 Try.f138) = (t138).get := by kernel_rfl
theorem ok138 : os138.Ok Try.prog := by
 refine os_ok mixed0 tab0 (orcB_sound all_nil all_nil) (hOwn h138) (d := 0) (n0 := 0) (S := lsOf []) Try.func138 (by kernel_rfl) (c := c138) (by kernel_rfl) rfl (no_loops (by kernel_rfl)) (by omega) (by kernel_rfl) ?_
 intro x'' y'' q'' hq''
 exact (fn138).trans hq''
def t117 (k : Int) : Tr Res := .br (!hasM (Ty.int .u16) (Ty.list (.int .i64)) k [(1, [4]), (28, [16]), (2, [(-1 : Int)]), (5, [(-1 : Int)]), (12, [(-1 : Int)]), (15, [2, (-1 : Int)]), (6, [(-1 : Int), (-1 : Int), 20]), (16, [(-2 : Int)])]) (.ret ([.list (.int .i64) [(-3 : Int)]], [])) (.ret ([.list (.int .i64) (getM (Ty.int .u16) (Ty.list (.int .i64)) k [(1, [4]), (28, [16]), (2, [(-1 : Int)]), (5, [(-1 : Int)]), (12, [(-1 : Int)]), (15, [2, (-1 : Int)]), (6, [(-1 : Int), (-1 : Int), 20]), (16, [(-2 : Int)])])], []))
def os117 : OSpec := { f := 117, sh := [.d (.int .u16) false], so := [], F := fun (k, _) _ => t117 k }
theorem fn117 (k : Int) : evC T0 (orcB [] [os138]) (lpOf h117 0 (lsOf [])) c117 1000000 (startSt [.int .u16 k] [] Try.f117.ntmps) (finishK T0 false 0 Try.f117) = (t117 k).get := by kernel_rfl
theorem ok117 : os117.Ok Try.prog := by
 refine os_ok mixed0 tab0 (orcB_sound all_nil (all_cons ok138 all_nil)) h117 (d := 0) (n0 := 0) (S := lsOf []) Try.func117 (by kernel_rfl) (c := c117) (by kernel_rfl) rfl (no_loops (by kernel_rfl)) (by omega) (by kernel_rfl) ?_
 intro x'' y'' q'' hq''
 obtain ⟨(k : Int), _⟩ := x''
 exact (fn117 k).trans hq''
def fs117 : FSpec := fsT 117 [((.int .u16), false)] [((.list (.int .i64)), false)] fun (k, _) => t117 k
theorem okf117 : fs117.Ok Try.prog := fsT_ok fun x'' r'' hr'' => ok117 x'' () r'' hr''
noncomputable def b119 : Code := nthLoop c119 0
def ls119 : LoopSpec := { bid := 0, sh := [.d .str false, .d (.int .i64) false], so := [], F := fun (s, at_, _) _ => .on (bigS s && decide (at_ = 0)) (.exit 0, [.str s, .int .i64 (whAt s 0)], []) }
def r119 (s : List UInt8) (at_ : Int) : Tr (St ⊕ (Ex × St)) := .br (decide (at_ < (↑s.length : Int))) (.br (decide (0 ≤ at_)) (.br (decide (at_ < (↑s.length : Int))) (.br (decide ((↑(UInt8.toNat (s.getD at_.toNat 0)) : Int) > 0)) (.br (decide (0 ≤ at_)) (.br (decide (at_ < (↑s.length : Int))) (.ret (.inl (stOf [0, 3] [.str s, .int .i64 (IntKind.wrap .i64 (at_ + IntKind.wrap .i64 (1 + IntKind.wrap .i64 (↑(UInt8.toNat (s.getD at_.toNat 0)) : Int))))] []))) .no) .no) (.ret (.inr (.exit 0, stOf [0, 3] [.str s, .int .i64 at_] [])))) .no) .no) (.ret (.inr (.exit 0, stOf [0, 3] [.str s, .int .i64 at_] [])))
theorem round119 (orc : Orc) (lp : Lp) (s : List UInt8) (at_ : Int) : evC T0 orc lp b119 0 (stOf [0, 3] [.str s, .int .i64 at_] []) (roundK [0, 3] [0, 3] 0) = (r119 s at_).get := by kernel_rfl
theorem wf119 (orc : Orc) (s : List UInt8) (I'' : Int → Prop) (m'' : Int → Nat) (r'' : Ex × St) (h : ∀ (at_ : Int), I'' at_ → (r119 s at_).all fun x'' => x'' = .inr r'' ∨ ∃ (at_' : Int), x'' = .inl (stOf [0, 3] [.str s, .int .i64 at_'] []) ∧ I'' at_' ∧ m'' at_' < m'' at_) (lp : Lp) (at_ : Int) : I'' at_ →
    loopF (fun st => evC T0 orc lp b119 0 st (roundK [0, 3] [0, 3] 0)) (stOf [0, 3] [.str s, .int .i64 at_] []) = some r'' :=
 loop_tr (fun a'' : Int => stOf [0, 3] [.str s, .int .i64 a''] []) (fun a'' => I'' a'') (fun a'' => m'' a'') r'' (fun a'' => r119 s a'')
  (fun a'' x hx => (round119 orc lp s a'').trans hx) (fun a'' ha => Tr.all_mono (fun x'' hx => hx.imp id fun ⟨at_', h1, h2, h3⟩ => ⟨(at_'), h1, h2, h3⟩) (h (a'') ha)) (at_)
theorem loop119 (orc : Orc) : ls119.Ok T0 orc h119 0 0 b119 := by
 intro q'' hq'' x'' y'' r'' h
 obtain ⟨(s : List UInt8), (at_ : Int), _⟩ := x''
 obtain ⟨hc, rfl⟩ := Tr.get_on h
 show loopF (fun st => evC T0 orc (lpN T0 orc h119 0 q'') b119 0 st (roundK [0, 3] [0, 3] 0)) (stOf [0, 3] [.str s, .int .i64 at_] []) = some (.exit 0, stOf [0, 3] ([.str s, .int .i64 (whAt s 0)]) ([]))
 simp only [Bool.and_eq_true, decide_eq_true_eq] at hc
 obtain ⟨hb, rfl⟩ := hc
 refine wf119 _ s (fun a => 0 ≤ a ∧ whAt s a.toNat = whAt s 0) (fun a => (s.length - a).toNat) _ ?_ _ 0 ⟨by omega, rfl⟩
 rintro a ⟨h1, h2⟩
 have hB : s.length ≤ 1000000000000 := by simpa [bigS] using hb
 have hto : ((a.toNat : Nat) : Int) = a := Int.toNat_of_nonneg h1
 unfold r119
 rw [← h2, whAt.eq_1 s a.toNat]
 by_cases hk : a.toNat < s.length
 · have hb0 : (↑(UInt8.toNat (List.getD s (Int.toNat a) 0)) : Int) = (byN s a.toNat : Int) := rfl
   have hbl : byN s a.toNat < 256 := (s.getD a.toNat 0).toNat_lt
   rw [hb0]
   simp (disch := omega) only [IntWalk.i64_in]
   refine Tr.all_t (dec_true (by omega)) (Tr.all_t (dec_true h1) (Tr.all_t (dec_true (by omega)) (Tr.all_br (fun c1 => Tr.all_t (dec_true h1) (Tr.all_t (dec_true (by omega)) (Tr.all_ret (.inr ⟨_, rfl, ⟨by omega, ?_⟩, by omega⟩)))) fun c1 => Tr.all_ret (.inl ?_))))
   · simp only [decide_eq_true_eq] at c1
     rw [dif_pos ⟨hk, by omega⟩]
     congr 1
     omega
   · simp only [decide_eq_false_iff_not] at c1
     rw [dif_neg (by omega), hto]
 · rw [dif_neg (by omega), hto]
   exact Tr.all_f (dec_false (by omega)) (Tr.all_ret (.inl rfl))
noncomputable def b120 : Code := nthLoop c120 0
def ls120 : LoopSpec := { bid := 0, sh := [.d .str false, .d (.int .i64) false], so := [], F := fun (s, at_, _) _ => .on (bigS s && decide (at_ = 0)) (.exit 0, [.str s, .int .i64 (txAt s 0)], []) }
def r120 (s : List UInt8) (at_ : Int) : Tr (St ⊕ (Ex × St)) := .br (decide (at_ < (↑s.length : Int))) (.br (decide (0 ≤ at_)) (.br (decide (at_ < (↑s.length : Int))) (.ret (.inl (stOf [0, 3] [.str s, .int .i64 (IntKind.wrap .i64 (at_ + IntKind.wrap .i64 (1 + IntKind.wrap .i64 (↑(UInt8.toNat (s.getD at_.toNat 0)) : Int))))] []))) .no) .no) (.ret (.inr (.exit 0, stOf [0, 3] [.str s, .int .i64 at_] [])))
theorem round120 (orc : Orc) (lp : Lp) (s : List UInt8) (at_ : Int) : evC T0 orc lp b120 0 (stOf [0, 3] [.str s, .int .i64 at_] []) (roundK [0, 3] [0, 3] 0) = (r120 s at_).get := by kernel_rfl
theorem wf120 (orc : Orc) (s : List UInt8) (I'' : Int → Prop) (m'' : Int → Nat) (r'' : Ex × St) (h : ∀ (at_ : Int), I'' at_ → (r120 s at_).all fun x'' => x'' = .inr r'' ∨ ∃ (at_' : Int), x'' = .inl (stOf [0, 3] [.str s, .int .i64 at_'] []) ∧ I'' at_' ∧ m'' at_' < m'' at_) (lp : Lp) (at_ : Int) : I'' at_ →
    loopF (fun st => evC T0 orc lp b120 0 st (roundK [0, 3] [0, 3] 0)) (stOf [0, 3] [.str s, .int .i64 at_] []) = some r'' :=
 loop_tr (fun a'' : Int => stOf [0, 3] [.str s, .int .i64 a''] []) (fun a'' => I'' a'') (fun a'' => m'' a'') r'' (fun a'' => r120 s a'')
  (fun a'' x hx => (round120 orc lp s a'').trans hx) (fun a'' ha => Tr.all_mono (fun x'' hx => hx.imp id fun ⟨at_', h1, h2, h3⟩ => ⟨(at_'), h1, h2, h3⟩) (h (a'') ha)) (at_)
theorem loop120 (orc : Orc) : ls120.Ok T0 orc h120 0 0 b120 := by
 intro q'' hq'' x'' y'' r'' h
 obtain ⟨(s : List UInt8), (at_ : Int), _⟩ := x''
 obtain ⟨hc, rfl⟩ := Tr.get_on h
 show loopF (fun st => evC T0 orc (lpN T0 orc h120 0 q'') b120 0 st (roundK [0, 3] [0, 3] 0)) (stOf [0, 3] [.str s, .int .i64 at_] []) = some (.exit 0, stOf [0, 3] ([.str s, .int .i64 (txAt s 0)]) ([]))
 simp only [Bool.and_eq_true, decide_eq_true_eq] at hc
 obtain ⟨hb, rfl⟩ := hc
 refine wf120 _ s (fun a => 0 ≤ a ∧ txAt s a.toNat = txAt s 0) (fun a => (s.length - a).toNat) _ ?_ _ 0 ⟨by omega, rfl⟩
 rintro a ⟨h1, h2⟩
 have hB : s.length ≤ 1000000000000 := by simpa [bigS] using hb
 have hto : ((a.toNat : Nat) : Int) = a := Int.toNat_of_nonneg h1
 unfold r120
 rw [← h2, txAt.eq_1 s a.toNat]
 by_cases hk : a.toNat < s.length
 · have hb0 : (↑(UInt8.toNat (List.getD s (Int.toNat a) 0)) : Int) = (byN s a.toNat : Int) := rfl
   have hbl : byN s a.toNat < 256 := (s.getD a.toNat 0).toNat_lt
   rw [hb0]
   simp (disch := omega) only [IntWalk.i64_in]
   refine Tr.all_t (dec_true (by omega)) (Tr.all_t (dec_true h1) (Tr.all_t (dec_true (by omega)) (Tr.all_ret (.inr ⟨_, rfl, ⟨by omega, ?_⟩, by omega⟩))))
   rw [dif_pos hk]
   congr 1
   omega
 · rw [dif_neg hk, hto]
   exact Tr.all_f (dec_false (by omega)) (Tr.all_ret (.inl rfl))
def t119 (s : List UInt8) : Tr Res := .br (bigS s && decide (0 = (0 : Ty.den (Ty.int .i64)))) (.br (decide ((↑(whAt s 0) : Int) ≥ (↑s.length : Int))) (.ret ([.int .i64 0], [])) (.br (decide (0 ≤ IntKind.wrap .i64 ((↑(whAt s 0) : Int) + 1)) && decide (IntKind.wrap .i64 ((↑(whAt s 0) : Int) + 1) ≤ (↑s.length : Int))) (.br (decide (0 ≤ 0) && decide (0 ≤ IntKind.wrap .i64 ((↑(whAt s 0) : Int) + 1))) (.br (bigS (List.take (Int.toNat (IntKind.wrap .i64 ((↑(whAt s 0) : Int) + 1)) - Int.toNat 0) (List.drop (Int.toNat 0) s))) (.br (!mayV (List.take (Int.toNat (IntKind.wrap .i64 ((↑(whAt s 0) : Int) + 1)) - Int.toNat 0) (List.drop (Int.toNat 0) s))) (.ret ([.int .i64 0], [])) (.ret ([.int .i64 (IntKind.wrap .i64 ((↑(whAt s 0) : Int) + 1))], []))) .no) .no) .no)) .no
def os119 : OSpec := { f := 119, sh := [.d .str false], so := [], F := fun (s, _) _ => t119 s }
theorem fn119 (s : List UInt8) : evC T0 (orcB [fs68w] []) (lpOf h119 0 (lsOf [ls119])) c119 1000000 (startSt [.str s] [] Try.f119.ntmps) (finishK T0 false 0 Try.f119) = (t119 s).get := by kernel_rfl
theorem ok119 : os119.Ok Try.prog := by
 refine os_ok mixed0 tab0 (orcB_sound (all_cons okf68w all_nil) all_nil) h119 (d := 0) (n0 := 0) (S := lsOf [ls119]) Try.func119 (by kernel_rfl) (c := c119) (by kernel_rfl) rfl (loops_eq (xs := [(0, b119)]) (by kernel_rfl) (all_cons (ls_here (loop119 _)) all_nil)) (by omega) (by kernel_rfl) ?_
 intro x'' y'' q'' hq''
 obtain ⟨(s : List UInt8), _⟩ := x''
 exact (fn119 s).trans hq''
def fs119 : FSpec := fsT 119 [(.str, false)] [((.int .i64), false)] fun (s, _) => t119 s
theorem okf119 : fs119.Ok Try.prog := fsT_ok fun x'' r'' hr'' => ok119 x'' () r'' hr''
def fs119w : FSpec := fs119.like fun (s, _) => .on (bigS s) ((wholeV s : Int), ())
theorem okf119w : fs119w.Ok Try.prog := by
 refine flike_ok okf119 _ ?_
 rintro ⟨(s : List UInt8), _⟩ y h
 obtain ⟨hb, rfl⟩ := Tr.get_on h
 refine convR_of (vs := [.int .i64 (wholeV s)]) rfl rfl (Tr.get_of_all ?_)
 show (t119 s).all _
 unfold t119 wholeV
 have hB : s.length ≤ 1000000000000 := by simpa [bigS] using hb
 refine Tr.all_t (by rw [hb]; rfl) ?_
 by_cases hk : whAt s 0 < s.length
 · have hw : IntKind.wrap .i64 ((whAt s 0 : Int) + 1) = (whAt s 0 : Int) + 1 := IntWalk.i64_in _ (by omega)
   have hs : List.take (Int.toNat ((whAt s 0 : Int) + 1) - Int.toNat 0) (List.drop (Int.toNat 0) s) = s.take (whAt s 0 + 1) := by
    rw [show Int.toNat ((whAt s 0 : Int) + 1) - Int.toNat 0 = whAt s 0 + 1 by omega]; rfl
   rw [hw, hs]
   refine Tr.all_f (dec_false (by omega)) (Tr.all_t (by rw [dec_true (by omega), dec_true (by omega)]; rfl) (Tr.all_t (by rw [dec_true (by omega), dec_true (by omega)]; rfl) (Tr.all_t (by simp [bigS]; omega) (Tr.all_br (fun c1 => Tr.all_ret ?_) fun c1 => Tr.all_ret ?_))))
   · rw [Bool.not_eq_true'] at c1
     rw [if_neg (by rw [c1]; simp)]
     rfl
   · rw [Bool.not_eq_false'] at c1
     rw [if_pos ⟨hk, c1⟩]
     rfl
 · rw [if_neg (fun h => hk h.1)]
   exact Tr.all_t (dec_true (by omega)) (Tr.all_ret rfl)
def t120 (s : List UInt8) : Tr Res := .br (bigS s && decide (0 = (0 : Ty.den (Ty.int .i64)))) (.br (!s == []) (.ret ([.bool ((↑(txAt s 0) : Int) == (↑s.length : Int))], [])) (.ret ([.bool false], []))) .no
def os120 : OSpec := { f := 120, sh := [.d .str false], so := [], F := fun (s, _) _ => t120 s }
theorem fn120 (s : List UInt8) : evC T0 (orcB [] []) (lpOf h120 0 (lsOf [ls120])) c120 1000000 (startSt [.str s] [] Try.f120.ntmps) (finishK T0 false 0 Try.f120) = (t120 s).get := by kernel_rfl
theorem ok120 : os120.Ok Try.prog := by
 refine os_ok mixed0 tab0 (orcB_sound all_nil all_nil) h120 (d := 0) (n0 := 0) (S := lsOf [ls120]) Try.func120 (by kernel_rfl) (c := c120) (by kernel_rfl) rfl (loops_eq (xs := [(0, b120)]) (by kernel_rfl) (all_cons (ls_here (loop120 _)) all_nil)) (by omega) (by kernel_rfl) ?_
 intro x'' y'' q'' hq''
 obtain ⟨(s : List UInt8), _⟩ := x''
 exact (fn120 s).trans hq''
def fs120 : FSpec := fsT 120 [(.str, false)] [(.bool, false)] fun (s, _) => t120 s
theorem okf120 : fs120.Ok Try.prog := fsT_ok fun x'' r'' hr'' => ok120 x'' () r'' hr''
def fs120w : FSpec := fs120.like fun (s, _) => .on (bigS s) (textsV s, ())
theorem okf120w : fs120w.Ok Try.prog := by
 refine flike_ok okf120 _ ?_
 rintro ⟨(s : List UInt8), _⟩ y h
 obtain ⟨hb, rfl⟩ := Tr.get_on h
 refine convR_of (vs := [.bool (textsV s)]) rfl rfl (Tr.get_of_all ?_)
 show (t120 s).all _
 unfold t120 textsV
 refine Tr.all_t (by rw [hb]; rfl) (Tr.all_br (fun c1 => Tr.all_ret ?_) fun c1 => Tr.all_ret ?_)
 · have : s.isEmpty = false := by cases s with | nil => cases c1 | cons _ _ => rfl
   rw [this]
   congr 3
   rw [Bool.eq_iff_iff]
   simp
   omega
 · have : s.isEmpty = true := by cases s with | nil => rfl | cons _ _ => cases c1
   rw [this]
   rfl
def fs117w : FSpec := fs117.like fun (k, _) => .ret (layV k, ())
theorem okf117w : fs117w.Ok Try.prog := by
 refine flike_ok okf117 _ ?_
 rintro ⟨(k : Int), _⟩ y h
 cases h
 refine convR_of (vs := [.list (.int .i64) (layV k)]) rfl rfl (Tr.get_of_all ?_)
 show (t117 k).all _
 by_cases h1 : k = 1
 · subst h1; exact Tr.all_f rfl (Tr.all_ret rfl)
 by_cases h2 : k = 28
 · subst h2; exact Tr.all_f rfl (Tr.all_ret rfl)
 by_cases h3 : k = 2
 · subst h3; exact Tr.all_f rfl (Tr.all_ret rfl)
 by_cases h4 : k = 5
 · subst h4; exact Tr.all_f rfl (Tr.all_ret rfl)
 by_cases h5 : k = 12
 · subst h5; exact Tr.all_f rfl (Tr.all_ret rfl)
 by_cases h6 : k = 15
 · subst h6; exact Tr.all_f rfl (Tr.all_ret rfl)
 by_cases h7 : k = 6
 · subst h7; exact Tr.all_f rfl (Tr.all_ret rfl)
 by_cases h8 : k = 16
 · subst h8; exact Tr.all_f rfl (Tr.all_ret rfl)
 refine Tr.all_t ?_ (Tr.all_ret ?_)
 · simp [hasM, lookM, Ty.keq, h1, h2, h3, h4, h5, h6, h7, h8]
 · simp [layV, h1, h2, h3, h4, h5, h6, h7, h8]
noncomputable def b92 : Code := nthLoop c92 0
def ls92 : LoopSpec := { bid := 0, sh := [.d .str false, .row 0, .d (.list (.int .i64)) false, .d (.int .i64) false, .d (.int .i64) false], so := [.row .str], F := fun (d, ps, n, i, _) (l, _) => .on2 (cutC d ps n i l) ((cutS ps d l).1) (.exit 0, [.str (cutS ps d l).2.1, .dead, .dead, .rowA 0], [.row .str (cutS ps d l).2.2]) (.ret, [.str (cutS ps d l).2.1, .rowA 0, .bool false, .rowA 1], [.row .str [], .row .str (cutS ps d l).2.2]) }
def r92 (d : List UInt8) (ps : List Int) (n i : Int) (l : List (List UInt8)) : Tr (St ⊕ (Ex × St)) := .br (decide (i < n)) (.br (decide (0 ≤ i)) (.br (decide (i < (↑ps.length : Int))) (.br (ps.getD i.toNat (Ty.dflt (Ty.int .i64)) == (-1 : Int)) (.br (bigS d) (.br (decide ((↑(wholeV d) : Int) > (↑d.length : Int))) (.ret (.inr (.ret, stOf [1, 4, 5, 6] [.str d, .rowA 0, .bool false, .rowA 1] [.row Ty.str [], .row Ty.str l]))) (.br (ps.getD i.toNat (Ty.dflt (Ty.int .i64)) == (-1 : Int)) (.br ((↑(wholeV d) : Int) == 0) (.ret (.inr (.ret, stOf [1, 4, 5, 6] [.str d, .rowA 0, .bool false, .rowA 1] [.row Ty.str [], .row Ty.str l]))) (.br (decide (0 ≤ (↑(wholeV d) : Int)) && decide ((↑(wholeV d) : Int) ≤ (↑d.length : Int))) (.br (fits (List.length l + 1) 16) (.br (decide (0 ≤ (↑d.length : Int)) && decide ((↑d.length : Int) ≤ (↑d.length : Int))) (.br (decide (0 ≤ (↑(wholeV d) : Int)) && decide ((↑(wholeV d) : Int) ≤ (↑d.length : Int))) (.ret (.inl (stOf [1, 6, 11, 12, 13] [.str (List.take (Int.toNat (↑d.length : Int) - Int.toNat (↑(wholeV d) : Int)) (List.drop (Int.toNat (↑(wholeV d) : Int)) d)), .rowA 0, .list (.int .i64) ps, .int .i64 n, .int .i64 (IntKind.wrap .i64 (i + 1))] [.row Ty.str (l ++ [List.take (Int.toNat (↑(wholeV d) : Int) - Int.toNat 0) (List.drop (Int.toNat 0) d)])]))) .no) .no) .no) .no)) (.br (decide (0 ≤ (↑(wholeV d) : Int)) && decide ((↑(wholeV d) : Int) ≤ (↑d.length : Int))) (.br (fits (List.length l + 1) 16) (.br (decide (0 ≤ (↑d.length : Int)) && decide ((↑d.length : Int) ≤ (↑d.length : Int))) (.br (decide (0 ≤ (↑(wholeV d) : Int)) && decide ((↑(wholeV d) : Int) ≤ (↑d.length : Int))) (.ret (.inl (stOf [1, 6, 11, 12, 13] [.str (List.take (Int.toNat (↑d.length : Int) - Int.toNat (↑(wholeV d) : Int)) (List.drop (Int.toNat (↑(wholeV d) : Int)) d)), .rowA 0, .list (.int .i64) ps, .int .i64 n, .int .i64 (IntKind.wrap .i64 (i + 1))] [.row Ty.str (l ++ [List.take (Int.toNat (↑(wholeV d) : Int) - Int.toNat 0) (List.drop (Int.toNat 0) d)])]))) .no) .no) .no) .no))) .no) (.br (ps.getD i.toNat (Ty.dflt (Ty.int .i64)) == (-2 : Int)) (.br (bigS d) (.br (textsV d) (.br (decide ((↑d.length : Int) > (↑d.length : Int))) (.ret (.inr (.ret, stOf [1, 4, 5, 6] [.str d, .rowA 0, .bool false, .rowA 1] [.row Ty.str [], .row Ty.str l]))) (.br (ps.getD i.toNat (Ty.dflt (Ty.int .i64)) == (-1 : Int)) (.br ((↑d.length : Int) == 0) (.ret (.inr (.ret, stOf [1, 4, 5, 6] [.str d, .rowA 0, .bool false, .rowA 1] [.row Ty.str [], .row Ty.str l]))) (.br (decide (0 ≤ (↑d.length : Int)) && decide ((↑d.length : Int) ≤ (↑d.length : Int))) (.br (fits (List.length l + 1) 16) (.br (decide (0 ≤ (↑d.length : Int)) && decide ((↑d.length : Int) ≤ (↑d.length : Int))) (.br (decide (0 ≤ (↑d.length : Int)) && decide ((↑d.length : Int) ≤ (↑d.length : Int))) (.ret (.inl (stOf [1, 6, 11, 12, 13] [.str (List.take (Int.toNat (↑d.length : Int) - Int.toNat (↑d.length : Int)) (List.drop (Int.toNat (↑d.length : Int)) d)), .rowA 0, .list (.int .i64) ps, .int .i64 n, .int .i64 (IntKind.wrap .i64 (i + 1))] [.row Ty.str (l ++ [List.take (Int.toNat (↑d.length : Int) - Int.toNat 0) (List.drop (Int.toNat 0) d)])]))) .no) .no) .no) .no)) (.br (decide (0 ≤ (↑d.length : Int)) && decide ((↑d.length : Int) ≤ (↑d.length : Int))) (.br (fits (List.length l + 1) 16) (.br (decide (0 ≤ (↑d.length : Int)) && decide ((↑d.length : Int) ≤ (↑d.length : Int))) (.br (decide (0 ≤ (↑d.length : Int)) && decide ((↑d.length : Int) ≤ (↑d.length : Int))) (.ret (.inl (stOf [1, 6, 11, 12, 13] [.str (List.take (Int.toNat (↑d.length : Int) - Int.toNat (↑d.length : Int)) (List.drop (Int.toNat (↑d.length : Int)) d)), .rowA 0, .list (.int .i64) ps, .int .i64 n, .int .i64 (IntKind.wrap .i64 (i + 1))] [.row Ty.str (l ++ [List.take (Int.toNat (↑d.length : Int) - Int.toNat 0) (List.drop (Int.toNat 0) d)])]))) .no) .no) .no) .no))) (.br (ps.getD i.toNat (Ty.dflt (Ty.int .i64)) == (-3 : Int)) (.br (decide ((↑d.length : Int) > (↑d.length : Int))) (.ret (.inr (.ret, stOf [1, 4, 5, 6] [.str d, .rowA 0, .bool false, .rowA 1] [.row Ty.str [], .row Ty.str l]))) (.br (ps.getD i.toNat (Ty.dflt (Ty.int .i64)) == (-1 : Int)) (.br ((↑d.length : Int) == 0) (.ret (.inr (.ret, stOf [1, 4, 5, 6] [.str d, .rowA 0, .bool false, .rowA 1] [.row Ty.str [], .row Ty.str l]))) (.br (decide (0 ≤ (↑d.length : Int)) && decide ((↑d.length : Int) ≤ (↑d.length : Int))) (.br (fits (List.length l + 1) 16) (.br (decide (0 ≤ (↑d.length : Int)) && decide ((↑d.length : Int) ≤ (↑d.length : Int))) (.br (decide (0 ≤ (↑d.length : Int)) && decide ((↑d.length : Int) ≤ (↑d.length : Int))) (.ret (.inl (stOf [1, 6, 11, 12, 13] [.str (List.take (Int.toNat (↑d.length : Int) - Int.toNat (↑d.length : Int)) (List.drop (Int.toNat (↑d.length : Int)) d)), .rowA 0, .list (.int .i64) ps, .int .i64 n, .int .i64 (IntKind.wrap .i64 (i + 1))] [.row Ty.str (l ++ [List.take (Int.toNat (↑d.length : Int) - Int.toNat 0) (List.drop (Int.toNat 0) d)])]))) .no) .no) .no) .no)) (.br (decide (0 ≤ (↑d.length : Int)) && decide ((↑d.length : Int) ≤ (↑d.length : Int))) (.br (fits (List.length l + 1) 16) (.br (decide (0 ≤ (↑d.length : Int)) && decide ((↑d.length : Int) ≤ (↑d.length : Int))) (.br (decide (0 ≤ (↑d.length : Int)) && decide ((↑d.length : Int) ≤ (↑d.length : Int))) (.ret (.inl (stOf [1, 6, 11, 12, 13] [.str (List.take (Int.toNat (↑d.length : Int) - Int.toNat (↑d.length : Int)) (List.drop (Int.toNat (↑d.length : Int)) d)), .rowA 0, .list (.int .i64) ps, .int .i64 n, .int .i64 (IntKind.wrap .i64 (i + 1))] [.row Ty.str (l ++ [List.take (Int.toNat (↑d.length : Int) - Int.toNat 0) (List.drop (Int.toNat 0) d)])]))) .no) .no) .no) .no))) (.br (decide (ps.getD i.toNat (Ty.dflt (Ty.int .i64)) < 0)) (.ret (.inr (.ret, stOf [1, 4, 5, 6] [.str d, .rowA 0, .bool false, .rowA 1] [.row Ty.str [], .row Ty.str l]))) (.br (decide (ps.getD i.toNat (Ty.dflt (Ty.int .i64)) > (↑d.length : Int))) (.ret (.inr (.ret, stOf [1, 4, 5, 6] [.str d, .rowA 0, .bool false, .rowA 1] [.row Ty.str [], .row Ty.str l]))) (.br (ps.getD i.toNat (Ty.dflt (Ty.int .i64)) == (-1 : Int)) (.br (ps.getD i.toNat (Ty.dflt (Ty.int .i64)) == 0) (.ret (.inr (.ret, stOf [1, 4, 5, 6] [.str d, .rowA 0, .bool false, .rowA 1] [.row Ty.str [], .row Ty.str l]))) (.br (decide (0 ≤ List.getD ps i.toNat (Ty.dflt (Ty.int .i64))) && decide (ps.getD i.toNat (Ty.dflt (Ty.int .i64)) ≤ (↑d.length : Int))) (.br (decide (0 ≤ 0) && decide (0 ≤ List.getD ps i.toNat (Ty.dflt (Ty.int .i64)))) (.br (fits (List.length l + 1) 16) (.br (decide (0 ≤ (↑d.length : Int)) && decide ((↑d.length : Int) ≤ (↑d.length : Int))) (.br (decide (0 ≤ List.getD ps i.toNat (Ty.dflt (Ty.int .i64))) && decide (ps.getD i.toNat (Ty.dflt (Ty.int .i64)) ≤ (↑d.length : Int))) (.ret (.inl (stOf [1, 6, 11, 12, 13] [.str (List.take (Int.toNat (↑d.length : Int) - Int.toNat (ps.getD i.toNat (Ty.dflt (Ty.int .i64)))) (List.drop (Int.toNat (ps.getD i.toNat (Ty.dflt (Ty.int .i64)))) d)), .rowA 0, .list (.int .i64) ps, .int .i64 n, .int .i64 (IntKind.wrap .i64 (i + 1))] [.row Ty.str (l ++ [List.take (Int.toNat (ps.getD i.toNat (Ty.dflt (Ty.int .i64))) - Int.toNat 0) (List.drop (Int.toNat 0) d)])]))) .no) .no) .no) .no) .no)) (.br (decide (0 ≤ List.getD ps i.toNat (Ty.dflt (Ty.int .i64))) && decide (ps.getD i.toNat (Ty.dflt (Ty.int .i64)) ≤ (↑d.length : Int))) (.br (decide (0 ≤ 0) && decide (0 ≤ List.getD ps i.toNat (Ty.dflt (Ty.int .i64)))) (.br (fits (List.length l + 1) 16) (.br (decide (0 ≤ (↑d.length : Int)) && decide ((↑d.length : Int) ≤ (↑d.length : Int))) (.br (decide (0 ≤ List.getD ps i.toNat (Ty.dflt (Ty.int .i64))) && decide (ps.getD i.toNat (Ty.dflt (Ty.int .i64)) ≤ (↑d.length : Int))) (.ret (.inl (stOf [1, 6, 11, 12, 13] [.str (List.take (Int.toNat (↑d.length : Int) - Int.toNat (ps.getD i.toNat (Ty.dflt (Ty.int .i64)))) (List.drop (Int.toNat (ps.getD i.toNat (Ty.dflt (Ty.int .i64)))) d)), .rowA 0, .list (.int .i64) ps, .int .i64 n, .int .i64 (IntKind.wrap .i64 (i + 1))] [.row Ty.str (l ++ [List.take (Int.toNat (ps.getD i.toNat (Ty.dflt (Ty.int .i64))) - Int.toNat 0) (List.drop (Int.toNat 0) d)])]))) .no) .no) .no) .no) .no)))))) .no) (.br (ps.getD i.toNat (Ty.dflt (Ty.int .i64)) == (-3 : Int)) (.br (decide ((↑d.length : Int) > (↑d.length : Int))) (.ret (.inr (.ret, stOf [1, 4, 5, 6] [.str d, .rowA 0, .bool false, .rowA 1] [.row Ty.str [], .row Ty.str l]))) (.br (ps.getD i.toNat (Ty.dflt (Ty.int .i64)) == (-1 : Int)) (.br ((↑d.length : Int) == 0) (.ret (.inr (.ret, stOf [1, 4, 5, 6] [.str d, .rowA 0, .bool false, .rowA 1] [.row Ty.str [], .row Ty.str l]))) (.br (decide (0 ≤ (↑d.length : Int)) && decide ((↑d.length : Int) ≤ (↑d.length : Int))) (.br (fits (List.length l + 1) 16) (.br (decide (0 ≤ (↑d.length : Int)) && decide ((↑d.length : Int) ≤ (↑d.length : Int))) (.br (decide (0 ≤ (↑d.length : Int)) && decide ((↑d.length : Int) ≤ (↑d.length : Int))) (.ret (.inl (stOf [1, 6, 11, 12, 13] [.str (List.take (Int.toNat (↑d.length : Int) - Int.toNat (↑d.length : Int)) (List.drop (Int.toNat (↑d.length : Int)) d)), .rowA 0, .list (.int .i64) ps, .int .i64 n, .int .i64 (IntKind.wrap .i64 (i + 1))] [.row Ty.str (l ++ [List.take (Int.toNat (↑d.length : Int) - Int.toNat 0) (List.drop (Int.toNat 0) d)])]))) .no) .no) .no) .no)) (.br (decide (0 ≤ (↑d.length : Int)) && decide ((↑d.length : Int) ≤ (↑d.length : Int))) (.br (fits (List.length l + 1) 16) (.br (decide (0 ≤ (↑d.length : Int)) && decide ((↑d.length : Int) ≤ (↑d.length : Int))) (.br (decide (0 ≤ (↑d.length : Int)) && decide ((↑d.length : Int) ≤ (↑d.length : Int))) (.ret (.inl (stOf [1, 6, 11, 12, 13] [.str (List.take (Int.toNat (↑d.length : Int) - Int.toNat (↑d.length : Int)) (List.drop (Int.toNat (↑d.length : Int)) d)), .rowA 0, .list (.int .i64) ps, .int .i64 n, .int .i64 (IntKind.wrap .i64 (i + 1))] [.row Ty.str (l ++ [List.take (Int.toNat (↑d.length : Int) - Int.toNat 0) (List.drop (Int.toNat 0) d)])]))) .no) .no) .no) .no))) (.br (decide (ps.getD i.toNat (Ty.dflt (Ty.int .i64)) < 0)) (.ret (.inr (.ret, stOf [1, 4, 5, 6] [.str d, .rowA 0, .bool false, .rowA 1] [.row Ty.str [], .row Ty.str l]))) (.br (decide (ps.getD i.toNat (Ty.dflt (Ty.int .i64)) > (↑d.length : Int))) (.ret (.inr (.ret, stOf [1, 4, 5, 6] [.str d, .rowA 0, .bool false, .rowA 1] [.row Ty.str [], .row Ty.str l]))) (.br (ps.getD i.toNat (Ty.dflt (Ty.int .i64)) == (-1 : Int)) (.br (ps.getD i.toNat (Ty.dflt (Ty.int .i64)) == 0) (.ret (.inr (.ret, stOf [1, 4, 5, 6] [.str d, .rowA 0, .bool false, .rowA 1] [.row Ty.str [], .row Ty.str l]))) (.br (decide (0 ≤ List.getD ps i.toNat (Ty.dflt (Ty.int .i64))) && decide (ps.getD i.toNat (Ty.dflt (Ty.int .i64)) ≤ (↑d.length : Int))) (.br (decide (0 ≤ 0) && decide (0 ≤ List.getD ps i.toNat (Ty.dflt (Ty.int .i64)))) (.br (fits (List.length l + 1) 16) (.br (decide (0 ≤ (↑d.length : Int)) && decide ((↑d.length : Int) ≤ (↑d.length : Int))) (.br (decide (0 ≤ List.getD ps i.toNat (Ty.dflt (Ty.int .i64))) && decide (ps.getD i.toNat (Ty.dflt (Ty.int .i64)) ≤ (↑d.length : Int))) (.ret (.inl (stOf [1, 6, 11, 12, 13] [.str (List.take (Int.toNat (↑d.length : Int) - Int.toNat (ps.getD i.toNat (Ty.dflt (Ty.int .i64)))) (List.drop (Int.toNat (ps.getD i.toNat (Ty.dflt (Ty.int .i64)))) d)), .rowA 0, .list (.int .i64) ps, .int .i64 n, .int .i64 (IntKind.wrap .i64 (i + 1))] [.row Ty.str (l ++ [List.take (Int.toNat (ps.getD i.toNat (Ty.dflt (Ty.int .i64))) - Int.toNat 0) (List.drop (Int.toNat 0) d)])]))) .no) .no) .no) .no) .no)) (.br (decide (0 ≤ List.getD ps i.toNat (Ty.dflt (Ty.int .i64))) && decide (ps.getD i.toNat (Ty.dflt (Ty.int .i64)) ≤ (↑d.length : Int))) (.br (decide (0 ≤ 0) && decide (0 ≤ List.getD ps i.toNat (Ty.dflt (Ty.int .i64)))) (.br (fits (List.length l + 1) 16) (.br (decide (0 ≤ (↑d.length : Int)) && decide ((↑d.length : Int) ≤ (↑d.length : Int))) (.br (decide (0 ≤ List.getD ps i.toNat (Ty.dflt (Ty.int .i64))) && decide (ps.getD i.toNat (Ty.dflt (Ty.int .i64)) ≤ (↑d.length : Int))) (.ret (.inl (stOf [1, 6, 11, 12, 13] [.str (List.take (Int.toNat (↑d.length : Int) - Int.toNat (ps.getD i.toNat (Ty.dflt (Ty.int .i64)))) (List.drop (Int.toNat (ps.getD i.toNat (Ty.dflt (Ty.int .i64)))) d)), .rowA 0, .list (.int .i64) ps, .int .i64 n, .int .i64 (IntKind.wrap .i64 (i + 1))] [.row Ty.str (l ++ [List.take (Int.toNat (ps.getD i.toNat (Ty.dflt (Ty.int .i64))) - Int.toNat 0) (List.drop (Int.toNat 0) d)])]))) .no) .no) .no) .no) .no))))))) .no) .no) (.ret (.inr (.exit 0, stOf [1, 4, 5, 6] [.str d, .dead, .dead, .rowA 0] [.row Ty.str l])))
theorem round92 (lp : Lp) (d : List UInt8) (ps : List Int) (n i : Int) (l : List (List UInt8)) : evC T0 (orcB [fs117w, fs119w, fs120w] []) lp b92 0 (stOf [1, 6, 11, 12, 13] [.str d, .rowA 0, .list (.int .i64) ps, .int .i64 n, .int .i64 i] [.row .str l]) (roundK [1, 6, 11, 12, 13] [1, 4, 5, 6] 0) = (r92 d ps n i l).get := by kernel_rfl
theorem wf92 (ps : List Int) (n : Int) (I'' : List UInt8 → Int → List (List UInt8) → Prop) (m'' : List UInt8 → Int → List (List UInt8) → Nat) (r'' : Ex × St) (h : ∀ (d : List UInt8) (i : Int) (l : List (List UInt8)), I'' d i l → (r92 d ps n i l).all fun x'' => x'' = .inr r'' ∨ ∃ (d' : List UInt8) (i' : Int) (l' : List (List UInt8)), x'' = .inl (stOf [1, 6, 11, 12, 13] [.str d', .rowA 0, .list (.int .i64) ps, .int .i64 n, .int .i64 i'] [.row .str l']) ∧ I'' d' i' l' ∧ m'' d' i' l' < m'' d i l) (lp : Lp) (d : List UInt8) (i : Int) (l : List (List UInt8)) : I'' d i l →
    loopF (fun st => evC T0 (orcB [fs117w, fs119w, fs120w] []) lp b92 0 st (roundK [1, 6, 11, 12, 13] [1, 4, 5, 6] 0)) (stOf [1, 6, 11, 12, 13] [.str d, .rowA 0, .list (.int .i64) ps, .int .i64 n, .int .i64 i] [.row .str l]) = some r'' :=
 loop_tr (fun a'' : List UInt8 × Int × List (List UInt8) => stOf [1, 6, 11, 12, 13] [.str a''.1, .rowA 0, .list (.int .i64) ps, .int .i64 n, .int .i64 a''.2.1] [.row .str a''.2.2]) (fun a'' => I'' a''.1 a''.2.1 a''.2.2) (fun a'' => m'' a''.1 a''.2.1 a''.2.2) r'' (fun a'' => r92 a''.1 ps n a''.2.1 a''.2.2)
  (fun a'' x hx => (round92 lp a''.1 ps n a''.2.1 a''.2.2).trans hx) (fun a'' ha => Tr.all_mono (fun x'' hx => hx.imp id fun ⟨d', i', l', h1, h2, h3⟩ => ⟨(d', i', l'), h1, h2, h3⟩) (h (a''.1) (a''.2.1) (a''.2.2) ha)) (d, i, l)
def cutI (ps0 : List Int) (d0 : List UInt8) (l0 : List (List UInt8)) (d : List UInt8) (i : Int) (l : List (List UInt8)) : Prop := 0 ≤ i ∧ i ≤ ps0.length ∧ bigS d = true ∧ l.length = i.toNat ∧ cutS (ps0.drop i.toNat) d l = cutS ps0 d0 l0
theorem cut_cont {P : St ⊕ (Ex × St) → Prop} {d : List UInt8} {l : List (List UInt8)} {ps : List Int} {n i sz : Int} (h0 : 0 ≤ sz) (h1 : sz ≤ d.length) (hf : fits (l.length + 1) 16 = true)
    (hr : P (Sum.inl (stOf [1, 6, 11, 12, 13] [AV.str (d.drop sz.toNat), AV.rowA 0, AV.list (Ty.int IntKind.i64) ps, AV.int IntKind.i64 n, AV.int IntKind.i64 (IntKind.wrap IntKind.i64 (i + (1 : Int)))] [LObj.row Ty.str (l ++ [d.take sz.toNat])]))) :
    (Tr.br (decide ((0 : Int) ≤ sz) && decide (sz ≤ (↑(List.length d) : Int))) (Tr.br (fits (List.length l + 1) 16) (Tr.br (decide ((0 : Int) ≤ (↑(List.length d) : Int)) && decide ((↑(List.length d) : Int) ≤ (↑(List.length d) : Int))) (Tr.br (decide ((0 : Int) ≤ sz) && decide (sz ≤ (↑(List.length d) : Int)))
     (Tr.ret (Sum.inl (stOf [1, 6, 11, 12, 13] [AV.str (List.take (Int.toNat (↑(List.length d) : Int) - Int.toNat sz) (List.drop (Int.toNat sz) d)), AV.rowA 0, AV.list (Ty.int IntKind.i64) ps, AV.int IntKind.i64 n, AV.int IntKind.i64 (IntKind.wrap IntKind.i64 (i + (1 : Int)))] [LObj.row Ty.str (l ++ [List.take (Int.toNat sz - Int.toNat (0 : Int)) (List.drop (Int.toNat (0 : Int)) d)])]))) Tr.no) Tr.no) Tr.no) Tr.no).all P := by
 have e : List.take (Int.toNat (↑(List.length d) : Int) - Int.toNat sz) (List.drop (Int.toNat sz) d) = d.drop sz.toNat := List.take_of_length_le (by simp)
 have e2 : List.take (Int.toNat sz - Int.toNat (0 : Int)) (List.drop (Int.toNat (0 : Int)) d) = d.take sz.toNat := rfl
 rw [e, e2]
 refine Tr.all_t (by rw [dec_true h0, dec_true h1]; rfl) (Tr.all_t hf (Tr.all_t (by rw [dec_true (by omega), dec_true (by omega)]; rfl) (Tr.all_t (by rw [dec_true h0, dec_true h1]; rfl) (Tr.all_ret hr))))
theorem cut_contX {P : St ⊕ (Ex × St) → Prop} {d : List UInt8} {l : List (List UInt8)} {ps : List Int} {n i sz : Int} (h0 : 0 ≤ sz) (h1 : sz ≤ d.length) (hf : fits (l.length + 1) 16 = true)
    (hr : P (Sum.inl (stOf [1, 6, 11, 12, 13] [AV.str (d.drop sz.toNat), AV.rowA 0, AV.list (Ty.int IntKind.i64) ps, AV.int IntKind.i64 n, AV.int IntKind.i64 (IntKind.wrap IntKind.i64 (i + (1 : Int)))] [LObj.row Ty.str (l ++ [d.take sz.toNat])]))) :
    (Tr.br (decide ((0 : Int) ≤ sz) && decide (sz ≤ (↑(List.length d) : Int))) (Tr.br (decide ((0 : Int) ≤ (0 : Int)) && decide ((0 : Int) ≤ sz)) (Tr.br (fits (List.length l + 1) 16) (Tr.br (decide ((0 : Int) ≤ (↑(List.length d) : Int)) && decide ((↑(List.length d) : Int) ≤ (↑(List.length d) : Int))) (Tr.br (decide ((0 : Int) ≤ sz) && decide (sz ≤ (↑(List.length d) : Int)))
     (Tr.ret (Sum.inl (stOf [1, 6, 11, 12, 13] [AV.str (List.take (Int.toNat (↑(List.length d) : Int) - Int.toNat sz) (List.drop (Int.toNat sz) d)), AV.rowA 0, AV.list (Ty.int IntKind.i64) ps, AV.int IntKind.i64 n, AV.int IntKind.i64 (IntKind.wrap IntKind.i64 (i + (1 : Int)))] [LObj.row Ty.str (l ++ [List.take (Int.toNat sz - Int.toNat (0 : Int)) (List.drop (Int.toNat (0 : Int)) d)])]))) Tr.no) Tr.no) Tr.no) Tr.no) Tr.no).all P := by
 have e : List.take (Int.toNat (↑(List.length d) : Int) - Int.toNat sz) (List.drop (Int.toNat sz) d) = d.drop sz.toNat := List.take_of_length_le (by simp)
 have e2 : List.take (Int.toNat sz - Int.toNat (0 : Int)) (List.drop (Int.toNat (0 : Int)) d) = d.take sz.toNat := rfl
 rw [e, e2]
 refine Tr.all_t (by rw [dec_true h0, dec_true h1]; rfl) (Tr.all_t (by rw [dec_true h0]; rfl) (Tr.all_t hf (Tr.all_t (by rw [dec_true (by omega), dec_true (by omega)]; rfl) (Tr.all_t (by rw [dec_true h0, dec_true h1]; rfl) (Tr.all_ret hr)))))
theorem loop92 : ls92.Ok T0 (orcB [fs117w, fs119w, fs120w] []) h92 0 0 b92 := by
 intro q'' hq'' x'' y'' r'' h
 obtain ⟨(d : List UInt8), (ps : List Int), (n : Int), (i : Int), _⟩ := x''
 obtain ⟨(l : List (List UInt8)), _⟩ := y''
 obtain ⟨hc, rfl⟩ := Tr.get_on2 h
 show loopF (fun st => evC T0 (orcB [fs117w, fs119w, fs120w] []) (lpN T0 (orcB [fs117w, fs119w, fs120w] []) h92 0 q'') b92 0 st (roundK [1, 6, 11, 12, 13] [1, 4, 5, 6] 0)) (stOf [1, 6, 11, 12, 13] [.str d, .rowA 0, .list (.int .i64) ps, .int .i64 n, .int .i64 i] [.row .str l]) = some ((bif (cutS ps d l).1 then (.exit 0, [.str (cutS ps d l).2.1, .dead, .dead, .rowA 0], [.row .str (cutS ps d l).2.2]) else (.ret, [.str (cutS ps d l).2.1, .rowA 0, .bool false, .rowA 1], [.row .str [], .row .str (cutS ps d l).2.2]) : Ex × List AV × List LObj).1, stOf [1, 4, 5, 6] (bif (cutS ps d l).1 then (.exit 0, [.str (cutS ps d l).2.1, .dead, .dead, .rowA 0], [.row .str (cutS ps d l).2.2]) else (.ret, [.str (cutS ps d l).2.1, .rowA 0, .bool false, .rowA 1], [.row .str [], .row .str (cutS ps d l).2.2]) : Ex × List AV × List LObj).2.1 (bif (cutS ps d l).1 then (.exit 0, [.str (cutS ps d l).2.1, .dead, .dead, .rowA 0], [.row .str (cutS ps d l).2.2]) else (.ret, [.str (cutS ps d l).2.1, .rowA 0, .bool false, .rowA 1], [.row .str [], .row .str (cutS ps d l).2.2]) : Ex × List AV × List LObj).2.2)
 simp only [cutC, Bool.and_eq_true, decide_eq_true_eq, noS, List.isEmpty_iff] at hc
 obtain ⟨hb, rfl, rfl, rfl, hps⟩ := hc
 refine wf92 ps _ (cutI ps d []) (fun _ i _ => (ps.length - i).toNat) _ ?_ _ d 0 [] ⟨by omega, by omega, hb, rfl, rfl⟩
 clear hb
 rintro d' i l' ⟨h0, h1, hb, hl, hF⟩
 rw [← hF]
 have hB : d'.length ≤ 1000000000000 := by simpa [bigS] using hb
 unfold r92
 by_cases hi : i < ps.length
 · obtain ⟨d1, _⟩ := drop_getD (Ty.dflt (Ty.int .i64)) h0 hi
   generalize List.getD ps (Int.toNat i) (Ty.dflt (Ty.int .i64)) = x at d1
   rw [d1, cutS] at hF ⊢
   have hfit : fits (l'.length + 1) 16 = true := fits_true (by omega) (by omega)
   have hw : IntKind.wrap .i64 (i + 1) = i + 1 := IntWalk.i64_in _ (by omega)
   have nextI : ∀ sz, szP x d' = sz → okP x d' = true → cutI ps d [] (d'.drop sz.toNat) (IntKind.wrap .i64 (i + 1)) (l' ++ [d'.take sz.toNat]) ∧ (ps.length - IntKind.wrap .i64 (i + 1)).toNat < (ps.length - i).toNat := fun sz hs ho => by
    subst hs
    rw [hw]
    refine ⟨⟨by omega, by omega, by simp [bigS]; omega, by simp; omega, ?_⟩, by omega⟩
    rw [← hF, if_pos ho]
   have hwh := wholeV_le d'
   have hfail : okP x d' = false → (if okP x d' = true then cutS (List.drop (i + 1).toNat ps) (List.drop (szP x d').toNat d') (l' ++ [List.take (szP x d').toNat d']) else (false, d', l')) = (false, d', l') := fun h => if_neg (by rw [h]; simp)
   refine Tr.all_t (dec_true hi) (Tr.all_t (dec_true h0) (Tr.all_t (dec_true hi) ?_))
   by_cases x1 : x = -1
   · have es : szP x d' = (wholeV d' : Int) := by unfold szP; rw [if_pos x1]
     have eo : okP x d' = !decide ((wholeV d' : Int) = 0) := by
      unfold okP
      rw [es, dec_true (by omega), dec_true (by omega), dec_true x1]
      rfl
     refine Tr.all_t (beq_iff_eq.2 x1) (Tr.all_t hb (Tr.all_f (dec_false (by omega)) (Tr.all_t (beq_iff_eq.2 x1) (Tr.all_br (fun c => Tr.all_ret (.inl ?_)) fun c => cut_cont (by omega) (by omega) hfit (.inr ⟨_, _, _, rfl, nextI _ es ?_⟩)))))
     · rw [hfail (by rw [eo, dec_true (beq_iff_eq.1 c)]; rfl)]
       rfl
     · rw [eo, dec_false (beq_eq_false_iff_ne.1 c)]
       rfl
   have hx1 : (x == -1) = false := beq_eq_false_iff_ne.2 x1
   have other : ¬ (x = -2 ∧ textsV d' = true ∨ x = -3) → szP x d' = x ∧ okP x d' = (decide (0 ≤ x) && decide (x ≤ (d'.length : Int))) := fun h => by
    have es : szP x d' = x := by unfold szP; rw [if_neg x1, if_neg h]
    refine ⟨es, ?_⟩
    unfold okP
    rw [es, dec_false x1]
    simp
   have full : (x = -2 ∧ textsV d' = true ∨ x = -3) → szP x d' = (d'.length : Int) ∧ okP x d' = true := fun h => by
    have es : szP x d' = (d'.length : Int) := by unfold szP; rw [if_neg x1, if_pos h]
    refine ⟨es, ?_⟩
    unfold okP
    rw [es, dec_false x1]
    simp
   refine Tr.all_f hx1 (Tr.all_br (fun c2 => Tr.all_t hb (Tr.all_br (fun ct => ?_) fun ct => ?_)) fun c2 => ?_)
   · obtain ⟨es, eo⟩ := full (.inl ⟨beq_iff_eq.1 c2, ct⟩)
     exact Tr.all_f (dec_false (by omega)) (Tr.all_f hx1 (cut_cont (by omega) (by omega) hfit (.inr ⟨_, _, _, rfl, nextI _ es eo⟩)))
   · have hx2 := beq_iff_eq.1 c2
     obtain ⟨es, eo⟩ := other (by rw [ct]; simp; omega)
     refine Tr.all_f (beq_eq_false_iff_ne.2 (by omega)) (Tr.all_t (dec_true (by omega)) (Tr.all_ret (.inl ?_)))
     rw [hfail (by rw [eo, dec_false (by omega)]; rfl)]
     rfl
   · refine Tr.all_br (fun c3 => ?_) fun c3 => ?_
     · obtain ⟨es, eo⟩ := full (.inr (beq_iff_eq.1 c3))
       exact Tr.all_f (dec_false (by omega)) (Tr.all_f hx1 (cut_cont (by omega) (by omega) hfit (.inr ⟨_, _, _, rfl, nextI _ es eo⟩)))
     · have hx2 := beq_eq_false_iff_ne.1 c2
       have hx3 := beq_eq_false_iff_ne.1 c3
       obtain ⟨es, eo⟩ := other (by omega)
       refine Tr.all_br (fun c4 => Tr.all_ret (.inl ?_)) fun c4 => Tr.all_br (fun c5 => Tr.all_ret (.inl ?_)) fun c5 => ?_
       · simp only [decide_eq_true_eq] at c4
         rw [hfail (by rw [eo, dec_false (by omega)]; rfl)]
         rfl
       · simp only [decide_eq_true_eq] at c5
         rw [hfail (by rw [eo, dec_false (show ¬ x ≤ (d'.length : Int) by omega), Bool.and_false])]
         rfl
       · simp only [decide_eq_false_iff_not] at c4 c5
         exact Tr.all_f hx1 (cut_contX (by omega) (by omega) hfit (.inr ⟨_, _, _, rfl, nextI _ es (by rw [eo, dec_true (by omega), dec_true (by omega)]; rfl)⟩))
 · have : ps.drop i.toNat = [] := List.drop_eq_nil_of_le (by omega)
   rw [this]
   exact Tr.all_f (dec_false hi) (Tr.all_ret (.inl rfl))
def t92 (k : Int) (d : List UInt8) : Tr Res := .br (cutC d (layV k) (↑(List.length (layV k)) : Int) 0 []) (.br (cutS (layV k) d []).1 (.ret ([.list Ty.str (cutS (layV k) d []).2.2, .bool ((cutS (layV k) d []).2.1 == [])], [])) (.ret ([.list Ty.str [], .bool false], []))) .no
def os92 : OSpec := { f := 92, sh := [.d (.int .u16) false, .d .str false], so := [], F := fun (k, d, _) _ => t92 k d }
theorem fn92 (k : Int) (d : List UInt8) : evC T0 (orcB [fs117w, fs119w, fs120w] []) (lpOf h92 0 (lsOf [ls92])) c92 1000000 (startSt [.int .u16 k, .str d] [] Try.f92.ntmps) (finishK T0 false 0 Try.f92) = (t92 k d).get := by kernel_rfl
theorem ok92 : os92.Ok Try.prog := by
 refine os_ok mixed0 tab0 (orcB_sound (all_cons okf117w (all_cons okf119w (all_cons okf120w all_nil))) all_nil) h92 (d := 0) (n0 := 0) (S := lsOf [ls92]) Try.func92 (by kernel_rfl) (c := c92) (by kernel_rfl) rfl (loops_eq (xs := [(0, b92)]) (by kernel_rfl) (all_cons (ls_here loop92) all_nil)) (by omega) (by kernel_rfl) ?_
 intro x'' y'' q'' hq''
 obtain ⟨(k : Int), (d : List UInt8), _⟩ := x''
 exact (fn92 k d).trans hq''
def fs92 : FSpec := fsT 92 [((.int .u16), false), (.str, false)] [((.list .str), false), (.bool, false)] fun (k, d, _) => t92 k d
theorem okf92 : fs92.Ok Try.prog := fsT_ok fun x'' r'' hr'' => ok92 x'' () r'' hr''
theorem layV_len (k : Int) : (layV k).length ≤ 10 := by
 unfold layV
 repeat' split
 all_goals simp
def fs92w : FSpec := fs92.like fun (k, d, _) => .on (bigS d) (bif okV k d then partsV k d else [], okV k d && (restV k d).isEmpty, ())
theorem okf92w : fs92w.Ok Try.prog := by
 refine flike_ok okf92 _ ?_
 rintro ⟨(k : Int), (d : List UInt8), _⟩ y h
 obtain ⟨hb, rfl⟩ := Tr.get_on h
 refine convR_of (vs := [.list .str (bif okV k d then partsV k d else []), .bool (okV k d && (restV k d).isEmpty)]) rfl rfl (Tr.get_of_all ?_)
 show (t92 k d).all _
 unfold t92 okV partsV restV
 have hl := layV_len k
 refine Tr.all_t (by simp [cutC, hb, noS, hl]) (Tr.all_br (fun c1 => Tr.all_ret ?_) fun c1 => Tr.all_ret ?_)
 · rw [c1]
   have : ((cutS (layV k) d []).2.1 == []) = (cutS (layV k) d []).2.1.isEmpty := by cases (cutS (layV k) d []).2.1 <;> rfl
   rw [this]
   rfl
 · rw [c1]
   rfl
def t69 (k : Int) (d : List UInt8) : Tr Res := .br (bigS d) (.br (okV k d && List.isEmpty (restV k d)) (.ret ([.bool (decide ((↑d.length : Int) ≤ 65535))], [])) (.ret ([.bool false], []))) .no
def os69 : OSpec := { f := 69, sh := [.d (.int .u16) false, .d .str false], so := [], F := fun (k, d, _) _ => t69 k d }
theorem fn69 (k : Int) (d : List UInt8) : evC T0 (orcB [fs117w, fs92w] []) (lpOf h69 0 (lsOf [])) c69 1000000 (startSt [.int .u16 k, .str d] [] Try.f69.ntmps) (finishK T0 false 0 Try.f69) = (t69 k d).get := by kernel_rfl
theorem ok69 : os69.Ok Try.prog := by
 refine os_ok mixed0 tab0 (orcB_sound (all_cons okf117w (all_cons okf92w all_nil)) all_nil) h69 (d := 0) (n0 := 0) (S := lsOf []) Try.func69 (by kernel_rfl) (c := c69) (by kernel_rfl) rfl (no_loops (by kernel_rfl)) (by omega) (by kernel_rfl) ?_
 intro x'' y'' q'' hq''
 obtain ⟨(k : Int), (d : List UInt8), _⟩ := x''
 exact (fn69 k d).trans hq''
def fs69 : FSpec := fsT 69 [((.int .u16), false), (.str, false)] [(.bool, false)] fun (k, d, _) => t69 k d
theorem okf69 : fs69.Ok Try.prog := fsT_ok fun x'' r'' hr'' => ok69 x'' () r'' hr''
def fs69w : FSpec := fs69.like fun (k, d, _) => .on (bigS d) (mayR k d, ())
theorem okf69w : fs69w.Ok Try.prog := by
 refine flike_ok okf69 _ ?_
 rintro ⟨(k : Int), (d : List UInt8), _⟩ y h
 obtain ⟨hb, rfl⟩ := Tr.get_on h
 refine convR_of (vs := [.bool (mayR k d)]) rfl rfl (Tr.get_of_all ?_)
 show (t69 k d).all _
 unfold t69 mayR
 refine Tr.all_t hb (Tr.all_br (fun c1 => Tr.all_ret ?_) fun c1 => Tr.all_ret ?_)
 · rw [c1, ble_iff, Bool.true_and]
   congr 3
   rw [Bool.eq_iff_iff]
   simp
   omega
 · rw [c1]
   rfl
noncomputable def b142 : Code := nthLoop c142 0
def ls142 : LoopSpec := { bid := 0, sh := [.ptr 0 0, .d (.list .str) false, .d (.list (.int .i64)) false, .d (.int .i64) false, .d (.int .i64) false], so := [.box [.row 1, .mp 2], .row (.int .u8), .map .str (.int .i64)], F := fun (ls, ps, n, i, _) (_, b, m, _) => .on (putC ls ps n i b m) (.exit 0, [], [.box [.rowA 1, .mp 2], .row (.int .u8) (bytesInt (putS ps ls (intBytes b, m)).1), .mpo .str (.int .i64) (putS ps ls (intBytes b, m)).2]) }
def r142 (ls : List (List UInt8)) (ps : List Int) (n i : Int) (b : List Int) (m : List (List UInt8 × Int)) : Tr (St ⊕ (Ex × St)) := .br (decide (i < n)) (.br (decide (0 ≤ i)) (.br (decide (i < (↑ps.length : Int))) (.br (ps.getD i.toNat (Ty.dflt (Ty.int .i64)) == (-1 : Int)) (.br (decide (0 ≤ i)) (.br (decide (i < (↑ls.length : Int))) (.br (pkC b m && Nat.ble (List.length (ls.getD i.toNat (Ty.dflt Ty.str))) 100000000000) (.br (mayV (ls.getD i.toNat (Ty.dflt Ty.str))) (.ret (.inl (stOf [0, 7, 26, 27, 28] [.ptr 0 0, .list Ty.str ls, .list (.int .i64) ps, .int .i64 n, .int .i64 (IntKind.wrap .i64 (i + 1))] [.boxT none [.rowA 1, .mp 2], .row (.int .u8) (bytesInt (nameP (ls.getD i.toNat (Ty.dflt Ty.str)) (intBytes b) m).1), .mpo .str (.int .i64) (nameP (ls.getD i.toNat (Ty.dflt Ty.str)) (intBytes b) m).2]))) (.ret (.inl (stOf [0, 7, 26, 27, 28] [.ptr 0 0, .list Ty.str ls, .list (.int .i64) ps, .int .i64 n, .int .i64 (IntKind.wrap .i64 (i + 1))] [.boxT none [.rowA 1, .mp 2], .row (.int .u8) b, .mpo .str (.int .i64) m])))) .no) .no) .no) (.br (decide (0 ≤ i)) (.br (decide (i < (↑ls.length : Int))) (.br (fits (List.length b + List.length (bytesInt (ls.getD i.toNat (Ty.dflt Ty.str)))) 1) (.ret (.inl (stOf [0, 7, 26, 27, 28] [.ptr 0 0, .list Ty.str ls, .list (.int .i64) ps, .int .i64 n, .int .i64 (IntKind.wrap .i64 (i + 1))] [.boxT none [.rowA 1, .mp 2], .row (.int .u8) (b ++ bytesInt (ls.getD i.toNat (Ty.dflt Ty.str))), .mpo .str (.int .i64) m]))) .no) .no) .no)) .no) .no) (.ret (.inr (.exit 0, stOf [] [] [.boxT none [.rowA 1, .mp 2], .row (.int .u8) b, .mpo .str (.int .i64) m])))
theorem round142 (lp : Lp) (ls : List (List UInt8)) (ps : List Int) (n i : Int) (b : List Int) (m : List (List UInt8 × Int)) : evC T0 (orcB [fs117w, fs92w, fs69w] [os123w, os98]) lp b142 0 (stOf [0, 7, 26, 27, 28] [.ptr 0 0, .list .str ls, .list (.int .i64) ps, .int .i64 n, .int .i64 i] [.box [.rowA 1, .mp 2], .row (.int .u8) b, .mpo .str (.int .i64) m]) (roundK [0, 7, 26, 27, 28] [] 3) = (r142 ls ps n i b m).get := by kernel_rfl
theorem wf142 (ls : List (List UInt8)) (ps : List Int) (n : Int) (I'' : Int → List Int → List (List UInt8 × Int) → Prop) (m'' : Int → List Int → List (List UInt8 × Int) → Nat) (r'' : Ex × St) (h : ∀ (i : Int) (b : List Int) (m : List (List UInt8 × Int)), I'' i b m → (r142 ls ps n i b m).all fun x'' => x'' = .inr r'' ∨ ∃ (i' : Int) (b' : List Int) (m' : List (List UInt8 × Int)), x'' = .inl (stOf [0, 7, 26, 27, 28] [.ptr 0 0, .list .str ls, .list (.int .i64) ps, .int .i64 n, .int .i64 i'] [.box [.rowA 1, .mp 2], .row (.int .u8) b', .mpo .str (.int .i64) m']) ∧ I'' i' b' m' ∧ m'' i' b' m' < m'' i b m) (lp : Lp) (i : Int) (b : List Int) (m : List (List UInt8 × Int)) : I'' i b m →
    loopF (fun st => evC T0 (orcB [fs117w, fs92w, fs69w] [os123w, os98]) lp b142 0 st (roundK [0, 7, 26, 27, 28] [] 3)) (stOf [0, 7, 26, 27, 28] [.ptr 0 0, .list .str ls, .list (.int .i64) ps, .int .i64 n, .int .i64 i] [.box [.rowA 1, .mp 2], .row (.int .u8) b, .mpo .str (.int .i64) m]) = some r'' :=
 loop_tr (fun a'' : Int × List Int × List (List UInt8 × Int) => stOf [0, 7, 26, 27, 28] [.ptr 0 0, .list .str ls, .list (.int .i64) ps, .int .i64 n, .int .i64 a''.1] [.box [.rowA 1, .mp 2], .row (.int .u8) a''.2.1, .mpo .str (.int .i64) a''.2.2]) (fun a'' => I'' a''.1 a''.2.1 a''.2.2) (fun a'' => m'' a''.1 a''.2.1 a''.2.2) r'' (fun a'' => r142 ls ps n a''.1 a''.2.1 a''.2.2)
  (fun a'' x hx => (round142 lp ls ps n a''.1 a''.2.1 a''.2.2).trans hx) (fun a'' ha => Tr.all_mono (fun x'' hx => hx.imp id fun ⟨i', b', m', h1, h2, h3⟩ => ⟨(i', b', m'), h1, h2, h3⟩) (h (a''.1) (a''.2.1) (a''.2.2) ha)) (i, b, m)
def putI (ps0 : List Int) (ls0 : List (List UInt8)) (p0 : PKt) (i : Int) (b : List Int) (m : Known) : Prop := 0 ≤ i ∧ i ≤ ps0.length ∧ ∃ p : PKt, b = bytesInt p.1 ∧ m = p.2 ∧ kOk p.2 = true ∧ p.1.length ≤ 1000000000 + 1000000 * i.toNat ∧ putS (ps0.drop i.toNat) (ls0.drop i.toNat) p = putS ps0 ls0 p0
theorem loop142 : ls142.Ok T0 (orcB [fs117w, fs92w, fs69w] [os123w, os98]) h142 3 0 b142 := by
 intro q'' hq'' x'' y'' r'' h
 obtain ⟨(ls : List (List UInt8)), (ps : List Int), (n : Int), (i : Int), _⟩ := x''
 obtain ⟨_, (b : List Int), (m : List (List UInt8 × Int)), _⟩ := y''
 obtain ⟨hc, rfl⟩ := Tr.get_on h
 show loopF (fun st => evC T0 (orcB [fs117w, fs92w, fs69w] [os123w, os98]) (lpN T0 (orcB [fs117w, fs92w, fs69w] [os123w, os98]) h142 3 q'') b142 0 st (roundK [0, 7, 26, 27, 28] [] 3)) (stOf [0, 7, 26, 27, 28] [.ptr 0 0, .list .str ls, .list (.int .i64) ps, .int .i64 n, .int .i64 i] [.box [.rowA 1, .mp 2], .row (.int .u8) b, .mpo .str (.int .i64) m]) = some (.exit 0, stOf [] ([]) ([.box [.rowA 1, .mp 2], .row (.int .u8) (bytesInt (putS ps ls (intBytes b, m)).1), .mpo .str (.int .i64) (putS ps ls (intBytes b, m)).2]))
 simp only [putC, Bool.and_eq_true, decide_eq_true_eq, List.all_eq_true] at hc
 obtain ⟨⟨hok, hk, hb⟩, rfl, rfl, hl, hps, hx⟩ := hc
 have hb := Nat.le_of_ble_eq_true hb
 refine wf142 ls ps _ (putI ps ls (intBytes b, m)) (fun i _ _ => (ps.length - i).toNat) _ ?_ _ 0 b m ⟨by omega, by omega, (intBytes b, m), (bytes_intB hok).symm, rfl, hk, by rw [intB_len]; exact hb, rfl⟩
 clear hok hk hb
 rintro i b' m' ⟨h0, h1, p, rfl, rfl, hk, hpl, hF⟩
 rw [← hF]
 unfold r142
 by_cases hi : i < ps.length
 · obtain ⟨d1, _⟩ := drop_getD (Ty.dflt (Ty.int .i64)) h0 hi
   obtain ⟨e1, e2⟩ := drop_getD (l := ls) (Ty.dflt Ty.str) h0 (by omega)
   generalize List.getD ps (Int.toNat i) (Ty.dflt (Ty.int .i64)) = x at d1
   generalize List.getD ls (Int.toNat i) (Ty.dflt Ty.str) = y at e1 e2
   have hy := hx y e2
   rw [d1, e1, putS] at hF
   simp only [List.tail_cons, List.headD_cons] at hF
   have hpk : (pkC (bytesInt p.1) p.2 && Nat.ble y.length 100000000000) = true := by
    unfold pkC
    rw [bytesInt_ok, hk, bytesInt_len, Nat.ble_eq_true_of_le (by omega), Nat.ble_eq_true_of_le (by omega)]
    rfl
   have hfb : fits ((bytesInt p.1).length + (bytesInt y).length) 1 = true := fits_true (by rw [bytesInt_len, bytesInt_len]; omega) (by rw [bytesInt_len, bytesInt_len]; omega)
   obtain ⟨k1, k2⟩ := stN_k (p := p) (x := (y, false)) hk
   have hil : i < (ls.length : Int) := by omega
   rw [intB_bytes, IntWalk.i64_in _ (by omega), ← bytesInt_app]
   refine Tr.all_t (dec_true hi) (Tr.all_t (dec_true h0) (Tr.all_t (dec_true hi) (Tr.all_br (fun c => Tr.all_t (dec_true h0) (Tr.all_t (dec_true hil) (Tr.all_t hpk (Tr.all_br (fun c1 => Tr.all_ret (.inr ?_)) fun c1 => Tr.all_ret (.inr ?_))))) fun c => Tr.all_t (dec_true h0) (Tr.all_t (dec_true hil) (Tr.all_t hfb (Tr.all_ret (.inr ?_)))))))
   · rw [c, cond_true] at hF
     have e : stN p (y, false) = nameP y p.1 p.2 := by unfold stN; rw [c1]; rfl
     rw [e] at hF k1 k2
     have k2 : (nameP y p.1 p.2).1.length ≤ p.1.length + y.length := k2
     exact ⟨_, _, _, rfl, ⟨by omega, by omega, nameP y p.1 p.2, rfl, rfl, k1, by omega, hF⟩, by omega⟩
   · rw [c, cond_true] at hF
     have e : stN p (y, false) = p := by unfold stN; rw [c1]; rfl
     rw [e] at hF
     exact ⟨_, _, _, rfl, ⟨by omega, by omega, p, rfl, rfl, hk, by omega, hF⟩, by omega⟩
   · rw [c, cond_false] at hF
     exact ⟨_, _, _, rfl, ⟨by omega, by omega, (p.1 ++ y, p.2), rfl, rfl, hk, by simp only [List.length_append]; omega, hF⟩, by omega⟩
 · refine Tr.all_f (dec_false hi) (Tr.all_ret (.inl ?_))
   rw [List.drop_eq_nil_of_le (by omega)]
   rfl
def t142 (k : Int) (d : List UInt8) (b : List Int) (m : List (List UInt8 × Int)) : Tr Res := .br (bigS d) (.br (!mayR k d) (.ret ([.int .i64 1], [.boxT none [.rowA 1, .mp 2], .row (.int .u8) b, .mpo .str (.int .i64) m])) (.br (bigS d) (.br (putC (bif okV k d then partsV k d else []) (layV k) (↑(List.length (layV k)) : Int) 0 b m) (.ret ([.int .i64 0], [.boxT none [.rowA 1, .mp 2], .row (.int .u8) (bytesInt (putS (layV k) (bif okV k d then partsV k d else []) (intBytes b, m)).1), .mpo .str (.int .i64) (putS (layV k) (bif okV k d then partsV k d else []) (intBytes b, m)).2])) .no) .no)) .no
def os142 : OSpec := { f := 142, sh := [.ptr 0 0, .d (.int .u16) false, .d .str false], so := [.box [.row 1, .mp 2], .row (.int .u8), .map .str (.int .i64)], F := fun (k, d, _) (_, b, m, _) => t142 k d b m }
theorem fn142 (k : Int) (d : List UInt8) (b : List Int) (m : List (List UInt8 × Int)) : evC T0 (orcB [fs117w, fs92w, fs69w] [os123w, os98]) (lpOf h142 3 (lsOf [ls142])) c142 1000000 (startSt [.ptr 0 0, .int .u16 k, .str d] [.box [.rowA 1, .mp 2], .row (.int .u8) b, .mpo .str (.int .i64) m] Try.f142.ntmps) (finishK T0 false 3 Try.f142) = (t142 k d b m).get := by kernel_rfl
theorem ok142 : os142.Ok Try.prog := by
 refine os_ok mixed0 tab0 (orcB_sound (all_cons okf117w (all_cons okf92w (all_cons okf69w all_nil))) (all_cons ok123w (all_cons ok98 all_nil))) h142 (d := 0) (n0 := 3) (S := lsOf [ls142]) Try.func142 (by kernel_rfl) (c := c142) (by kernel_rfl) rfl (loops_eq (xs := [(0, b142)]) (by kernel_rfl) (all_cons (ls_here loop142) all_nil)) (by omega) (by kernel_rfl) ?_
 intro x'' y'' q'' hq''
 obtain ⟨(k : Int), (d : List UInt8), _⟩ := x''
 obtain ⟨_, (b : List Int), (m : List (List UInt8 × Int)), _⟩ := y''
 exact (fn142 k d b m).trans hq''
theorem byN_drop (s : List UInt8) (k j : Nat) : byN (s.drop k) j = byN s (k + j) := by
 unfold byN
 rw [List.getD_eq_getElem?_getD, List.getD_eq_getElem?_getD, List.getElem?_drop]
theorem whAt_drop {s : List UInt8} : ∀ (m k j : Nat), s.length - (k + j) = m → k ≤ s.length → whAt s (k + j) = k + whAt (s.drop k) j := by
 intro m
 induction m using Nat.strongRecOn with
 | _ m ih =>
   intro k j hm hk
   rw [whAt.eq_1 s, whAt.eq_1 (s.drop k), byN_drop, List.length_drop]
   by_cases h : k + j < s.length ∧ 0 < byN s (k + j)
   · rw [dif_pos h, dif_pos ⟨by omega, h.2⟩, show k + j + 1 + byN s (k + j) = k + (j + 1 + byN s (k + j)) by omega]
     exact ih (s.length - (k + (j + 1 + byN s (k + j)))) (by omega) k _ rfl hk
   · rw [dif_neg h, dif_neg (by omega)]
theorem byN_left {t r : List UInt8} {k : Nat} (h : k < t.length) : byN (t ++ r) k = byN t k := byN_app h
theorem root_wh : ∀ (m : Nat) (t r : List UInt8), t.length = m → rootV t = true → whAt (t ++ r) 0 + 1 = t.length := by
 intro m
 induction m using Nat.strongRecOn with
 | _ m ih =>
   intro t r hm hr
   rcases root_cases hr with rfl | ⟨_, hn, hlt, _, hne, hrt⟩
   · rw [whAt, dif_neg (fun h => by have : byN ([0] ++ r) 0 = 0 := rfl; omega)]
     rfl
   · have hb : byN (t ++ r) 0 = (t.getD 0 0).toNat := byN_left (by omega)
     have hp : 0 < byN (t ++ r) 0 := by omega
     have hsp : (t ++ r).drop (0 + 1 + byN (t ++ r) 0) = tlN t ++ r := by
      unfold tlN
      rw [hb, List.drop_append_of_le_length (by omega), show 0 + 1 + (t.getD 0 0).toNat = 1 + (t.getD 0 0).toNat by omega]
     have hl := tlN_len t
     rw [whAt, dif_pos ⟨by simp; omega, hp⟩]
     have hd := whAt_drop (s := t ++ r) _ (0 + 1 + byN (t ++ r) 0) 0 rfl (by simp; omega)
     rw [Nat.add_zero] at hd
     rw [hd, hsp, Nat.add_assoc, ih (tlN t).length (by omega) (tlN t) r rfl hrt]
     omega
theorem whole_of {d : List UInt8} {k : Nat} (hk : k ≤ d.length) (h : mayV (d.take k) = true) : wholeV d = k ∧ 1 ≤ k ∧ k ≤ 255 := by
 obtain ⟨h1, h2, _⟩ := may_iff.1 h
 have := root_wh _ (d.take k) (d.drop k) rfl h1
 rw [List.take_append_drop, List.length_take, Nat.min_eq_left hk] at this
 rw [List.length_take, Nat.min_eq_left hk] at h2
 unfold wholeV
 rw [this, if_pos ⟨by omega, h⟩]
 exact ⟨rfl, by omega, h2⟩
theorem whole_may {d : List UInt8} (h : wholeV d ≠ 0) : mayV (d.take (wholeV d)) = true := by
 unfold wholeV at h ⊢
 split at h
 · rename_i hc
   rw [if_pos hc]
   exact hc.2
 · exact absurd rfl h
theorem whole_all {d : List UInt8} : mayV d = true ↔ wholeV d ≠ 0 ∧ wholeV d = d.length := by
 constructor
 · intro h
   have := whole_of (d := d) (k := d.length) (Nat.le_refl _) (by rw [List.take_length]; exact h)
   omega
 · rintro ⟨h1, h2⟩
   have := whole_may h1
   rwa [h2, List.take_length] at this
theorem txAt_drop {s : List UInt8} : ∀ (m k j : Nat), s.length - (k + j) = m → k ≤ s.length → txAt s (k + j) = k + txAt (s.drop k) j := by
 intro m
 induction m using Nat.strongRecOn with
 | _ m ih =>
   intro k j hm hk
   rw [txAt.eq_1 s, txAt.eq_1 (s.drop k), byN_drop, List.length_drop]
   by_cases h : k + j < s.length
   · rw [dif_pos h, dif_pos (by omega), show k + j + 1 + byN s (k + j) = k + (j + 1 + byN s (k + j)) by omega]
     exact ih (s.length - (k + (j + 1 + byN s (k + j)))) (by omega) k _ rfl hk
   · rw [dif_neg h, dif_neg (by omega)]
theorem txAt_ge {s : List UInt8} : ∀ (m k : Nat), s.length - k = m → k ≤ txAt s k := by
 intro m
 induction m using Nat.strongRecOn with
 | _ m ih =>
   intro k hm
   rw [txAt]
   split
   · have := ih (s.length - (k + 1 + byN s k)) (by omega) _ rfl
     omega
   · exact Nat.le_refl _
def texR (s : List UInt8) : Bool := decide (txAt s 0 = s.length)
theorem texR_nil : texR [] = true := by
 unfold texR
 rw [txAt, dif_neg (by simp)]
 rfl
theorem texR_long {s : List UInt8} (h0 : s ≠ []) (h : s.length < 1 + byN s 0) : texR s = false := by
 have := List.length_pos_iff.2 h0
 unfold texR
 rw [txAt, dif_pos this]
 have := txAt_ge (s := s) _ (0 + 1 + byN s 0) rfl
 exact decide_eq_false (by omega)
theorem texR_on {s : List UInt8} (h0 : s ≠ []) (h : 1 + byN s 0 ≤ s.length) : texR s = texR (s.drop (1 + byN s 0)) := by
 have := List.length_pos_iff.2 h0
 unfold texR
 rw [txAt, dif_pos this]
 have hd := txAt_drop (s := s) _ (1 + byN s 0) 0 rfl h
 rw [Nat.add_zero] at hd
 rw [show 0 + 1 + byN s 0 = 1 + byN s 0 by omega, hd, List.length_drop]
 rw [Bool.eq_iff_iff]
 simp
 omega
theorem may_nil : mayV [] = false := by
 cases h : mayV [] with
 | false => rfl
 | true =>
   rcases root_cases (may_iff.1 h).1 with h | ⟨_, h, _⟩
   · cases h
   · exact absurd rfl h
theorem cutS_facts : ∀ (ps : List Int) (d : List UInt8) (out : List (List UInt8)), (cutS ps d out).1 = true → ∃ l, (cutS ps d out).2.2 = out ++ l ∧ l.length = ps.length ∧ (∀ x ∈ l, x.length ≤ d.length) ∧ l.flatten ++ (cutS ps d out).2.1 = d
 | [], d, out, _ => ⟨[], by simp [cutS]⟩
 | p :: ps, d, out, h => by
   unfold cutS at h ⊢
   by_cases ho : okP p d = true
   · rw [if_pos ho] at h ⊢
     obtain ⟨l, h1, h2, h3, h4⟩ := cutS_facts ps _ _ h
     refine ⟨d.take (szP p d).toNat :: l, by rw [h1, List.append_assoc]; rfl, by simp [h2], fun x hx => ?_, ?_⟩
     · rcases List.mem_cons.1 hx with rfl | hx
       · rw [List.length_take]; omega
       · have := h3 x hx
         rw [List.length_drop] at this
         omega
     · rw [List.flatten_cons, List.append_assoc, h4, List.take_append_drop]
   · rw [if_neg ho] at h
     cases h
theorem may_parts {k : Int} {d : List UInt8} (h : mayR k d = true) : okV k d = true ∧ restV k d = [] ∧ d.length ≤ 65535 ∧ (partsV k d).length = (layV k).length ∧ (∀ x ∈ partsV k d, x.length ≤ d.length) ∧ (partsV k d).flatten = d := by
 unfold mayR at h
 simp only [Bool.and_eq_true, List.isEmpty_iff] at h
 obtain ⟨⟨h1, h2⟩, h3⟩ := h
 obtain ⟨l, a1, a2, a3, a4⟩ := cutS_facts (layV k) d [] h1
 have a1 : partsV k d = l := a1
 have h2' : (cutS (layV k) d []).2.1 = [] := h2
 rw [h2', List.append_nil] at a4
 exact ⟨h1, h2, Nat.le_of_ble_eq_true h3, by rw [a1, a2], by rw [a1]; exact a3, by rw [a1, a4]⟩
theorem cutS_out : ∀ (ps : List Int) (d : List UInt8) (out : List (List UInt8)), (cutS ps d out).1 = (cutS ps d []).1 ∧ (cutS ps d out).2.1 = (cutS ps d []).2.1
 | [], _, _ => ⟨rfl, rfl⟩
 | x :: ps, d, out => by
   unfold cutS
   by_cases h : okP x d = true
   · rw [if_pos h, if_pos h]
     obtain ⟨a1, a2⟩ := cutS_out ps (d.drop (szP x d).toNat) (out ++ [d.take (szP x d).toNat])
     obtain ⟨b1, b2⟩ := cutS_out ps (d.drop (szP x d).toNat) ([] ++ [d.take (szP x d).toNat])
     exact ⟨a1.trans b1.symm, a2.trans b2.symm⟩
   · rw [if_neg h, if_neg h]
     exact ⟨rfl, rfl⟩
def cutB (ps : List Int) (d : List UInt8) : Bool := (cutS ps d []).1 && (cutS ps d []).2.1.isEmpty
theorem cutB_cons (x : Int) (ps : List Int) (d : List UInt8) : cutB (x :: ps) d = (okP x d && cutB ps (d.drop (szP x d).toNat)) := by
 unfold cutB
 rw [cutS]
 cases h : okP x d with
 | true =>
   rw [if_pos rfl]
   obtain ⟨a1, a2⟩ := cutS_out ps (d.drop (szP x d).toNat) ([] ++ [d.take (szP x d).toNat])
   rw [a1, a2, Bool.true_and]
 | false =>
   rw [if_neg Bool.false_ne_true]
   rfl
theorem cutB_nil (d : List UInt8) : cutB [] d = d.isEmpty := rfl
theorem mayR_cut (k : Int) (d : List UInt8) : mayR k d = (cutB (layV k) d && Nat.ble d.length 65535) := rfl
theorem okP_fix {x : Int} (h : 0 ≤ x) (d : List UInt8) : szP x d = x ∧ okP x d = decide (x ≤ (d.length : Int)) := by
 have es : szP x d = x := by unfold szP; rw [if_neg (by omega), if_neg (by omega)]
 refine ⟨es, ?_⟩
 unfold okP
 rw [es, dec_true h, dec_false (show ¬ x = -1 by omega)]
 simp
theorem okP_name (d : List UInt8) : szP (-1) d = (wholeV d : Int) ∧ okP (-1) d = !decide (wholeV d = 0) := by
 have es : szP (-1) d = (wholeV d : Int) := rfl
 have := wholeV_le d
 refine ⟨es, ?_⟩
 unfold okP
 rw [es, dec_true (by omega), dec_true (by omega)]
 simp
theorem drop_none {d : List UInt8} {n : Nat} : (d.drop n).isEmpty = decide (d.length ≤ n) := by
 rw [Bool.eq_iff_iff, List.isEmpty_iff, decide_eq_true_eq, List.drop_eq_nil_iff]
theorem cutB_fix {x : Int} (h : 0 ≤ x) (d : List UInt8) : cutB [x] d = decide ((d.length : Int) = x) := by
 obtain ⟨e1, e2⟩ := okP_fix h d
 rw [cutB_cons, cutB_nil, e1, e2, drop_none]
 rw [Bool.eq_iff_iff]
 simp
 omega
theorem cutB_name (d : List UInt8) : cutB [-1] d = mayV d := by
 obtain ⟨e1, e2⟩ := okP_name d
 have := wholeV_le d
 rw [cutB_cons, cutB_nil, e1, e2, drop_none]
 rw [Bool.eq_iff_iff, whole_all]
 simp
 omega
theorem cutB_texts (d : List UInt8) : cutB [-2] d = textsV d := by
 rw [cutB_cons, cutB_nil, drop_none]
 unfold okP szP
 cases ht : textsV d with
 | true => simp
 | false => simp
theorem cutB_any (d : List UInt8) : cutB [-3] d = true := by
 rw [cutB_cons, cutB_nil, drop_none]
 unfold okP szP
 simp
theorem may_A (d : List UInt8) : mayR 1 d = (decide ((d.length : Int) = 4) && Nat.ble d.length 65535) := by rw [mayR_cut, show layV 1 = [4] from rfl, cutB_fix (by omega)]
theorem may_AAAA (d : List UInt8) : mayR 28 d = (decide ((d.length : Int) = 16) && Nat.ble d.length 65535) := by rw [mayR_cut, show layV 28 = [16] from rfl, cutB_fix (by omega)]
theorem may_name {k : Int} (h : k = 2 ∨ k = 5 ∨ k = 12) (d : List UInt8) : mayR k d = (mayV d && Nat.ble d.length 65535) := by
 have : layV k = [-1] := by rcases h with rfl | rfl | rfl <;> rfl
 rw [mayR_cut, this, cutB_name]
theorem may_MX (d : List UInt8) : mayR 15 d = ((decide ((2 : Int) ≤ d.length) && mayV (d.drop 2)) && Nat.ble d.length 65535) := by
 obtain ⟨e1, e2⟩ := okP_fix (x := 2) (by omega) d
 rw [mayR_cut, show layV 15 = [2, -1] from rfl, cutB_cons, cutB_name, e1, e2]
 rfl
theorem may_SOA (d : List UInt8) : mayR 6 d = ((!decide (wholeV d = 0) && (!decide (wholeV (d.drop (wholeV d)) = 0) && decide (((d.drop (wholeV d)).drop (wholeV (d.drop (wholeV d)))).length = 20))) && Nat.ble d.length 65535) := by
 obtain ⟨e1, e2⟩ := okP_name d
 rw [mayR_cut, show layV 6 = [-1, -1, 20] from rfl, cutB_cons, e1, e2, Int.toNat_natCast]
 obtain ⟨e3, e4⟩ := okP_name (d.drop (wholeV d))
 rw [cutB_cons, e3, e4, Int.toNat_natCast, cutB_fix (by omega)]
 congr 4
 exact propext (by omega)
theorem may_TXT (d : List UInt8) : mayR 16 d = (textsV d && Nat.ble d.length 65535) := by rw [mayR_cut, show layV 16 = [-2] from rfl, cutB_texts]
theorem may_any {k : Int} (h : ¬ k = 1 ∧ ¬ k = 28 ∧ ¬ k = 2 ∧ ¬ k = 5 ∧ ¬ k = 12 ∧ ¬ k = 15 ∧ ¬ k = 6 ∧ ¬ k = 16) (d : List UInt8) : mayR k d = Nat.ble d.length 65535 := by
 obtain ⟨h1, h2, h3, h4, h5, h6, h7, h8⟩ := h
 have : layV k = [-3] := by simp [layV, h1, h2, h3, h4, h5, h6, h7, h8]
 rw [mayR_cut, this, cutB_any]
 rfl
theorem parts_name {k : Int} {d : List UInt8} (hk : k = 2 ∨ k = 5 ∨ k = 12) (h : mayR k d = true) : partsV k d = [d] := by
 have hlay : layV k = [-1] := by rcases hk with rfl | rfl | rfl <;> rfl
 rw [may_name hk, Bool.and_eq_true, whole_all] at h
 obtain ⟨⟨h1, h2⟩, _⟩ := h
 obtain ⟨e1, e2⟩ := okP_name d
 unfold partsV
 rw [hlay, cutS, e2, e1, dec_false h1, if_pos (show (!false) = true from rfl), cutS, Int.toNat_natCast, h2, List.take_length]
 rfl
theorem parts_MX {d : List UInt8} (h : mayR 15 d = true) : partsV 15 d = [d.take 2, d.drop 2] := by
 rw [may_MX, Bool.and_eq_true, Bool.and_eq_true, decide_eq_true_eq, whole_all] at h
 obtain ⟨⟨h0, h1, h2⟩, _⟩ := h
 obtain ⟨e1, e2⟩ := okP_fix (x := 2) (by omega) d
 obtain ⟨e3, e4⟩ := okP_name (d.drop 2)
 unfold partsV
 rw [show layV 15 = [2, -1] from rfl, cutS, e2, e1, dec_true h0, if_pos rfl, show (2 : Int).toNat = 2 from rfl, cutS, e4, e3, dec_false h1, if_pos (show (!false) = true from rfl), cutS, Int.toNat_natCast, h2, List.take_length]
 rfl
theorem parts_one {k x : Int} {d : List UInt8} (hlay : layV k = [x]) (h : mayR k d = true) : partsV k d = [d] := by
 obtain ⟨_, _, _, h4, _, h6⟩ := may_parts h
 rw [hlay] at h4
 cases hp : partsV k d with
 | nil => rw [hp] at h4; cases h4
 | cons y l =>
   rw [hp] at h4 h6
   cases l with
   | nil => simpa using h6
   | cons _ _ => simp at h4
def os142w : OSpec := os142.like fun (k, d, _) (_, b, m, _) => .br (pkT b m && Nat.ble d.length 1000000) (.br (mayR k d) (.ret ([.int .i64 0], pkO (bytesInt (putR k d (intBytes b, m)).1) (putR k d (intBytes b, m)).2)) (.ret ([.int .i64 1], pkO b m))) .no
theorem ok142w : os142w.Ok Try.prog := by
 refine like_ok ok142 _ ?_
 rintro ⟨(k : Int), (d : List UInt8), _⟩ ⟨_, (b : List Int), (m : Known), _⟩ r h
 simp only [Tr.get] at h
 cases hc : (pkT b m && Nat.ble d.length 1000000) with
 | false => rw [hc] at h; cases h
 | true =>
   rw [hc, cond_true] at h
   simp only [pkT, Bool.and_eq_true] at hc
   obtain ⟨⟨hok, hk, hb⟩, hd⟩ := hc
   have hd := Nat.le_of_ble_eq_true hd
   refine Tr.get_of_all ?_
   show (t142 k d b m).all _
   unfold t142
   have hbig : bigS d = true := by simp [bigS]; omega
   cases hm : mayR k d with
   | false =>
     rw [hm, cond_false] at h
     cases h
     exact Tr.all_t hbig (Tr.all_t rfl (Tr.all_ret rfl))
   | true =>
     rw [hm, cond_true] at h
     cases h
     obtain ⟨h1, h2, h3, h4, h5, h6⟩ := may_parts hm
     have hl := layV_len k
     rw [h1, cond_true]
     refine Tr.all_t hbig (Tr.all_f rfl (Tr.all_t hbig (Tr.all_t ?_ (Tr.all_ret rfl))))
     unfold putC
     rw [hok, hk, hb, dec_true rfl, dec_true rfl, dec_true h4, dec_true hl]
     simp only [Bool.true_and, List.all_eq_true, decide_eq_true_eq]
     exact fun x hx => by have := h5 x hx; omega
noncomputable def b154 : Code := nthLoop c154 0
def ls154 : LoopSpec := { bid := 0, sh := [.d .str false, .d (.int .i64) false], so := [], F := fun (s, k, _) _ => .on2 (bigS s && decide (k = 1)) (wholeV s == 0) (.exit 0, [.dead], []) (.ret, [.int .i64 (wholeV s)], []) }
def r154 (s : List UInt8) (k : Int) : Tr (St ⊕ (Ex × St)) := .br (decide (k ≤ (↑s.length : Int))) (.br (decide (k ≤ 255)) (.br (decide (0 ≤ k) && decide (k ≤ (↑s.length : Int))) (.br (decide (0 ≤ 0) && decide (0 ≤ k)) (.br (bigS (List.take (Int.toNat k - Int.toNat 0) (List.drop (Int.toNat 0) s))) (.br (mayV (List.take (Int.toNat k - Int.toNat 0) (List.drop (Int.toNat 0) s))) (.ret (.inr (.ret, stOf [2] [.int .i64 k] []))) (.ret (.inl (stOf [0, 3] [.str s, .int .i64 (IntKind.wrap .i64 (k + 1))] [])))) .no) .no) .no) (.ret (.inr (.exit 0, stOf [2] [.dead] [])))) (.ret (.inr (.exit 0, stOf [2] [.dead] [])))
theorem round154 (lp : Lp) (s : List UInt8) (k : Int) : evC T0 (orcB [fs126v] []) lp b154 0 (stOf [0, 3] [.str s, .int .i64 k] []) (roundK [0, 3] [2] 0) = (r154 s k).get := by kernel_rfl
theorem wf154 (s : List UInt8) (I'' : Int → Prop) (m'' : Int → Nat) (r'' : Ex × St) (h : ∀ (k : Int), I'' k → (r154 s k).all fun x'' => x'' = .inr r'' ∨ ∃ (k' : Int), x'' = .inl (stOf [0, 3] [.str s, .int .i64 k'] []) ∧ I'' k' ∧ m'' k' < m'' k) (lp : Lp) (k : Int) : I'' k →
    loopF (fun st => evC T0 (orcB [fs126v] []) lp b154 0 st (roundK [0, 3] [2] 0)) (stOf [0, 3] [.str s, .int .i64 k] []) = some r'' :=
 loop_tr (fun a'' : Int => stOf [0, 3] [.str s, .int .i64 a''] []) (fun a'' => I'' a'') (fun a'' => m'' a'') r'' (fun a'' => r154 s a'')
  (fun a'' x hx => (round154 lp s a'').trans hx) (fun a'' ha => Tr.all_mono (fun x'' hx => hx.imp id fun ⟨k', h1, h2, h3⟩ => ⟨(k'), h1, h2, h3⟩) (h (a'') ha)) (k)
theorem loop154 : ls154.Ok T0 (orcB [fs126v] []) h154 0 0 b154 := by
 intro q'' hq'' x'' y'' r'' h
 obtain ⟨(s : List UInt8), (k : Int), _⟩ := x''
 obtain ⟨hc, rfl⟩ := Tr.get_on2 h
 show loopF (fun st => evC T0 (orcB [fs126v] []) (lpN T0 (orcB [fs126v] []) h154 0 q'') b154 0 st (roundK [0, 3] [2] 0)) (stOf [0, 3] [.str s, .int .i64 k] []) = some ((bif wholeV s == 0 then (.exit 0, [.dead], []) else (.ret, [.int .i64 (wholeV s)], []) : Ex × List AV × List LObj).1, stOf [2] (bif wholeV s == 0 then (.exit 0, [.dead], []) else (.ret, [.int .i64 (wholeV s)], []) : Ex × List AV × List LObj).2.1 (bif wholeV s == 0 then (.exit 0, [.dead], []) else (.ret, [.int .i64 (wholeV s)], []) : Ex × List AV × List LObj).2.2)
 simp only [Bool.and_eq_true, decide_eq_true_eq] at hc
 obtain ⟨hb, rfl⟩ := hc
 have hB : s.length ≤ 1000000000000 := by simpa [bigS] using hb
 refine wf154 s (fun k => 1 ≤ k ∧ k ≤ 256 ∧ (wholeV s = 0 ∨ k ≤ wholeV s)) (fun k => (257 - k).toNat) _ ?_ _ 1 ⟨by omega, by omega, by omega⟩
 rintro k ⟨h1, h2, h3⟩
 unfold r154
 have hwl := wholeV_le s
 have hwm : wholeV s ≠ 0 → wholeV s ≤ 255 := fun h => by
  have := (whole_of (d := s) hwl (whole_may h)).2
  omega
 by_cases hk : k ≤ s.length
 · by_cases h255 : k ≤ 255
   · have ht : List.take (Int.toNat k - Int.toNat (0 : Int)) (List.drop (Int.toNat (0 : Int)) s) = s.take k.toNat := rfl
     rw [ht, IntWalk.i64_in _ (by omega)]
     refine Tr.all_t (dec_true hk) (Tr.all_t (dec_true h255) (Tr.all_t (by rw [dec_true (by omega), dec_true hk]; rfl) (Tr.all_t (by rw [dec_true (by omega), dec_true (by omega)]; rfl) (Tr.all_t (by simp [bigS]; omega) (Tr.all_br (fun c => Tr.all_ret (.inl ?_)) fun c => Tr.all_ret (.inr ⟨_, rfl, ⟨by omega, by omega, ?_⟩, by omega⟩))))))
     · obtain ⟨e, _⟩ := whole_of (d := s) (by omega) c
       rw [show (wholeV s == 0) = false from beq_eq_false_iff_ne.2 (by omega), e, Int.toNat_of_nonneg (by omega)]
       rfl
     · rcases h3 with h3 | h3
       · exact .inl h3
       · by_cases he : k = (wholeV s : Int)
         · have := whole_may (d := s) (by omega)
           rw [show wholeV s = k.toNat by omega, c] at this
           cases this
         · omega
   · have h0 : wholeV s = 0 := by
       rcases h3 with h3 | h3
       · exact h3
       · by_cases hz : wholeV s = 0
         · exact hz
         · have := hwm hz; omega
     rw [h0]
     exact Tr.all_t (dec_true hk) (Tr.all_f (dec_false h255) (Tr.all_ret (.inl rfl)))
 · have h0 : wholeV s = 0 := by omega
   rw [h0]
   exact Tr.all_f (dec_false hk) (Tr.all_ret (.inl rfl))
def t154 (s : List UInt8) : Tr Res := .br (bigS s && decide (1 = (1 : Ty.den (Ty.int .i64)))) (.br (wholeV s == 0) (.ret ([.int .i64 0], [])) (.ret ([.int .i64 (↑(wholeV s) : Int)], []))) .no
def os154 : OSpec := { f := 154, sh := [.d .str false], so := [], F := fun (s, _) _ => t154 s }
theorem fn154 (s : List UInt8) : evC T0 (orcB [fs126v] []) (lpOf h154 0 (lsOf [ls154])) c154 1000000 (startSt [.str s] [] Try.f154.ntmps) (finishK T0 false 0 Try.f154) = (t154 s).get := by kernel_rfl
theorem ok154 : os154.Ok Try.prog := by
 refine os_ok mixed0 tab0 (orcB_sound (all_cons okf126v all_nil) all_nil) h154 (d := 0) (n0 := 0) (S := lsOf [ls154]) Try.func154 (by kernel_rfl) (c := c154) (by kernel_rfl) rfl (loops_eq (xs := [(0, b154)]) (by kernel_rfl) (all_cons (ls_here loop154) all_nil)) (by omega) (by kernel_rfl) ?_
 intro x'' y'' q'' hq''
 obtain ⟨(s : List UInt8), _⟩ := x''
 exact (fn154 s).trans hq''
def fs154 : FSpec := fsT 154 [(.str, false)] [((.int .i64), false)] fun (s, _) => t154 s
theorem okf154 : fs154.Ok Try.prog := fsT_ok fun x'' r'' hr'' => ok154 x'' () r'' hr''
def fs154w : FSpec := fs154.like fun (s, _) => .on (bigS s) ((wholeV s : Int), ())
theorem okf154w : fs154w.Ok Try.prog := by
 refine flike_ok okf154 _ ?_
 rintro ⟨(s : List UInt8), _⟩ y h
 obtain ⟨hb, rfl⟩ := Tr.get_on h
 refine convR_of (vs := [.int .i64 (wholeV s)]) rfl rfl (Tr.get_of_all ?_)
 show (t154 s).all _
 refine Tr.all_t (by rw [hb]; rfl) (Tr.all_br (fun c1 => Tr.all_ret ?_) fun c1 => Tr.all_ret rfl)
 rw [beq_iff_eq.1 c1]
 rfl
noncomputable def b155 : Code := nthLoop c155 0
def ls155 : LoopSpec := { bid := 0, sh := [.d .str false], so := [], F := fun (s, _) _ => .on2 (bigS s) (texR s) (.exit 0, [.dead], []) (.ret, [.bool false], []) }
def r155 (s : List UInt8) : Tr (St ⊕ (Ex × St)) := .br (!s == []) (.br (decide (0 < (↑s.length : Int))) (.br (decide (IntKind.wrap .i64 (1 + IntKind.wrap .i64 (↑(UInt8.toNat (s.getD (Int.toNat 0) 0)) : Int)) > (↑s.length : Int))) (.ret (.inr (.ret, stOf [2] [.bool false] []))) (.br (decide (0 ≤ (↑s.length : Int)) && decide ((↑s.length : Int) ≤ (↑s.length : Int))) (.br (decide (0 ≤ IntKind.wrap .i64 (1 + IntKind.wrap .i64 (↑(UInt8.toNat (s.getD (Int.toNat 0) 0)) : Int))) && decide (IntKind.wrap .i64 (1 + IntKind.wrap .i64 (↑(UInt8.toNat (s.getD (Int.toNat 0) 0)) : Int)) ≤ (↑s.length : Int))) (.ret (.inl (stOf [0] [.str (List.take (Int.toNat (↑s.length : Int) - Int.toNat (IntKind.wrap .i64 (1 + IntKind.wrap .i64 (↑(UInt8.toNat (s.getD (Int.toNat 0) 0)) : Int)))) (List.drop (Int.toNat (IntKind.wrap .i64 (1 + IntKind.wrap .i64 (↑(UInt8.toNat (s.getD (Int.toNat 0) 0)) : Int)))) s))] []))) .no) .no)) .no) (.ret (.inr (.exit 0, stOf [2] [.dead] [])))
theorem round155 (orc : Orc) (lp : Lp) (s : List UInt8) : evC T0 orc lp b155 0 (stOf [0] [.str s] []) (roundK [0] [2] 0) = (r155 s).get := by kernel_rfl
theorem wf155 (orc : Orc) (I'' : List UInt8 → Prop) (m'' : List UInt8 → Nat) (r'' : Ex × St) (h : ∀ (s : List UInt8), I'' s → (r155 s).all fun x'' => x'' = .inr r'' ∨ ∃ (s' : List UInt8), x'' = .inl (stOf [0] [.str s'] []) ∧ I'' s' ∧ m'' s' < m'' s) (lp : Lp) (s : List UInt8) : I'' s →
    loopF (fun st => evC T0 orc lp b155 0 st (roundK [0] [2] 0)) (stOf [0] [.str s] []) = some r'' :=
 loop_tr (fun a'' : List UInt8 => stOf [0] [.str a''] []) (fun a'' => I'' a'') (fun a'' => m'' a'') r'' (fun a'' => r155 a'')
  (fun a'' x hx => (round155 orc lp a'').trans hx) (fun a'' ha => Tr.all_mono (fun x'' hx => hx.imp id fun ⟨s', h1, h2, h3⟩ => ⟨(s'), h1, h2, h3⟩) (h (a'') ha)) (s)
theorem loop155 (orc : Orc) : ls155.Ok T0 orc h155 0 0 b155 := by
 intro q'' hq'' x'' y'' r'' h
 obtain ⟨(s : List UInt8), _⟩ := x''
 obtain ⟨hc, rfl⟩ := Tr.get_on2 h
 show loopF (fun st => evC T0 orc (lpN T0 orc h155 0 q'') b155 0 st (roundK [0] [2] 0)) (stOf [0] [.str s] []) = some ((bif texR s then (.exit 0, [.dead], []) else (.ret, [.bool false], []) : Ex × List AV × List LObj).1, stOf [2] (bif texR s then (.exit 0, [.dead], []) else (.ret, [.bool false], []) : Ex × List AV × List LObj).2.1 (bif texR s then (.exit 0, [.dead], []) else (.ret, [.bool false], []) : Ex × List AV × List LObj).2.2)
 refine wf155 _ (fun t => bigS t = true ∧ texR t = texR s) (fun t => t.length) _ ?_ _ s ⟨hc, rfl⟩
 clear hc
 rintro t ⟨hb, h2⟩
 rw [← h2]
 have hB : t.length ≤ 1000000000000 := by simpa [bigS] using hb
 unfold r155
 cases ht : t with
 | nil =>
   rw [texR_nil]
   exact Tr.all_f rfl (Tr.all_ret (.inl rfl))
 | cons c0 t0 =>
   rw [← ht]
   have hne : t ≠ [] := by rw [ht]; simp
   have hpos := List.length_pos_iff.2 hne
   have hb0 : (↑(UInt8.toNat (List.getD t (Int.toNat (0 : Int)) 0)) : Int) = (byN t 0 : Int) := rfl
   have hbl : byN t 0 < 256 := (t.getD 0 0).toNat_lt
   rw [hb0]
   simp (disch := omega) only [IntWalk.i64_in]
   refine Tr.all_t (by rw [ht]; rfl) (Tr.all_t (dec_true (by omega)) (Tr.all_br (fun c => Tr.all_ret (.inl ?_)) fun c => Tr.all_t (by rw [dec_true (by omega), dec_true (by omega)]; rfl) (Tr.all_t ?_ (Tr.all_ret (.inr ⟨_, rfl, ?_, ?_⟩)))))
   · simp only [decide_eq_true_eq] at c
     rw [texR_long hne (by omega)]
     rfl
   · simp only [decide_eq_false_iff_not] at c
     rw [dec_true (by omega), dec_true (by omega)]
     rfl
   · simp only [decide_eq_false_iff_not] at c
     have e : List.take (Int.toNat (t.length : Int) - Int.toNat ((1 : Int) + (byN t 0 : Int))) (List.drop (Int.toNat ((1 : Int) + (byN t 0 : Int))) t) = t.drop (1 + byN t 0) := by
      rw [show Int.toNat ((1 : Int) + (byN t 0 : Int)) = 1 + byN t 0 by omega]
      exact List.take_of_length_le (by simp)
     rw [e]
     exact ⟨by simp [bigS]; omega, (texR_on hne (by omega)).symm⟩
   · rw [List.length_take, List.length_drop]
     omega
def t155 (s : List UInt8) : Tr Res := .br (s == []) (.ret ([.bool false], [])) (.br (bigS s) (.br (texR s) (.ret ([.bool true], [])) (.ret ([.bool false], []))) .no)
def os155 : OSpec := { f := 155, sh := [.d .str false], so := [], F := fun (s, _) _ => t155 s }
theorem fn155 (s : List UInt8) : evC T0 (orcB [] []) (lpOf h155 0 (lsOf [ls155])) c155 1000000 (startSt [.str s] [] Try.f155.ntmps) (finishK T0 false 0 Try.f155) = (t155 s).get := by kernel_rfl
theorem ok155 : os155.Ok Try.prog := by
 refine os_ok mixed0 tab0 (orcB_sound all_nil all_nil) h155 (d := 0) (n0 := 0) (S := lsOf [ls155]) Try.func155 (by kernel_rfl) (c := c155) (by kernel_rfl) rfl (loops_eq (xs := [(0, b155)]) (by kernel_rfl) (all_cons (ls_here (loop155 _)) all_nil)) (by omega) (by kernel_rfl) ?_
 intro x'' y'' q'' hq''
 obtain ⟨(s : List UInt8), _⟩ := x''
 exact (fn155 s).trans hq''
def fs155 : FSpec := fsT 155 [(.str, false)] [(.bool, false)] fun (s, _) => t155 s
theorem okf155 : fs155.Ok Try.prog := fsT_ok fun x'' r'' hr'' => ok155 x'' () r'' hr''
def fs155w : FSpec := fs155.like fun (s, _) => .on (bigS s) (textsV s, ())
theorem okf155w : fs155w.Ok Try.prog := by
 refine flike_ok okf155 _ ?_
 rintro ⟨(s : List UInt8), _⟩ y h
 obtain ⟨hb, rfl⟩ := Tr.get_on h
 refine convR_of (vs := [.bool (textsV s)]) rfl rfl (Tr.get_of_all ?_)
 show (t155 s).all _
 unfold t155
 have e : textsV s = (!s.isEmpty && texR s) := rfl
 rw [e]
 cases hs : s with
 | nil => exact Tr.all_t rfl (Tr.all_ret rfl)
 | cons c0 s0 =>
   rw [← hs]
   refine Tr.all_f (by rw [hs]; rfl) (Tr.all_t hb (Tr.all_br (fun c => Tr.all_ret ?_) fun c => Tr.all_ret ?_))
   · rw [c, hs]; rfl
   · rw [c, hs]; rfl
def t146 (k : Int) (d : List UInt8) : Tr Res := .br (decide ((↑d.length : Int) > 65535)) (.ret ([.bool false], [])) (.br (k == 1) (.ret ([.bool ((↑d.length : Int) == 4)], [])) (.br (k == 28) (.ret ([.bool ((↑d.length : Int) == 16)], [])) (.br (k == 2) (.br (bigS d) (.ret ([.bool (mayV d)], [])) .no) (.br (k == 5) (.br (bigS d) (.ret ([.bool (mayV d)], [])) .no) (.br (k == 12) (.br (bigS d) (.ret ([.bool (mayV d)], [])) .no) (.br (k == 15) (.br (decide ((↑d.length : Int) > 2)) (.br (decide (0 ≤ (↑d.length : Int)) && decide ((↑d.length : Int) ≤ (↑d.length : Int))) (.br (decide (0 ≤ 2) && decide (2 ≤ (↑d.length : Int))) (.br (bigS (List.take (Int.toNat (↑d.length : Int) - Int.toNat 2) (List.drop (Int.toNat 2) d))) (.ret ([.bool (mayV (List.take (Int.toNat (↑d.length : Int) - Int.toNat 2) (List.drop (Int.toNat 2) d)))], [])) .no) .no) .no) (.ret ([.bool false], []))) (.br (k == 6) (.br (bigS d) (.br (decide (0 ≤ (↑d.length : Int)) && decide ((↑d.length : Int) ≤ (↑d.length : Int))) (.br (decide (0 ≤ (↑(wholeV d) : Int)) && decide ((↑(wholeV d) : Int) ≤ (↑d.length : Int))) (.br (bigS (List.take (Int.toNat (↑d.length : Int) - Int.toNat (↑(wholeV d) : Int)) (List.drop (Int.toNat (↑(wholeV d) : Int)) d))) (.br (decide ((↑(wholeV d) : Int) > 0)) (.br (decide ((↑(wholeV (List.take (Int.toNat (↑d.length : Int) - Int.toNat (↑(wholeV d) : Int)) (List.drop (Int.toNat (↑(wholeV d) : Int)) d))) : Int) > 0)) (.ret ([.bool ((↑d.length : Int) == IntKind.wrap .i64 (IntKind.wrap .i64 ((↑(wholeV d) : Int) + (↑(wholeV (List.take (Int.toNat (↑d.length : Int) - Int.toNat (↑(wholeV d) : Int)) (List.drop (Int.toNat (↑(wholeV d) : Int)) d))) : Int)) + 20))], [])) (.ret ([.bool false], []))) (.ret ([.bool false], []))) .no) .no) .no) .no) (.br (k == 16) (.br (bigS d) (.ret ([.bool (textsV d)], [])) .no) (.ret ([.bool true], []))))))))))
def os146 : OSpec := { f := 146, sh := [.d (.int .u16) false, .d .str false], so := [], F := fun (k, d, _) _ => t146 k d }
theorem fn146 (k : Int) (d : List UInt8) : evC T0 (orcB [fs154w, fs155w, fs126v] []) (lpOf h146 0 (lsOf [])) c146 1000000 (startSt [.int .u16 k, .str d] [] Try.f146.ntmps) (finishK T0 false 0 Try.f146) = (t146 k d).get := by kernel_rfl
theorem ok146 : os146.Ok Try.prog := by
 refine os_ok mixed0 tab0 (orcB_sound (all_cons okf154w (all_cons okf155w (all_cons okf126v all_nil))) all_nil) h146 (d := 0) (n0 := 0) (S := lsOf []) Try.func146 (by kernel_rfl) (c := c146) (by kernel_rfl) rfl (no_loops (by kernel_rfl)) (by omega) (by kernel_rfl) ?_
 intro x'' y'' q'' hq''
 obtain ⟨(k : Int), (d : List UInt8), _⟩ := x''
 exact (fn146 k d).trans hq''
def fs146 : FSpec := fsT 146 [((.int .u16), false), (.str, false)] [(.bool, false)] fun (k, d, _) => t146 k d
theorem okf146 : fs146.Ok Try.prog := fsT_ok fun x'' r'' hr'' => ok146 x'' () r'' hr''
def fs146w : FSpec := fs146.like fun (k, d, _) => .on (bigS d) (mayR k d, ())
theorem okf146w : fs146w.Ok Try.prog := by
 refine flike_ok okf146 _ ?_
 rintro ⟨(k : Int), (d : List UInt8), _⟩ y h
 obtain ⟨hb, rfl⟩ := Tr.get_on h
 refine convR_of (vs := [.bool (mayR k d)]) rfl rfl (Tr.get_of_all ?_)
 show (t146 k d).all _
 unfold t146
 have hB : d.length ≤ 1000000000000 := by simpa [bigS] using hb
 by_cases hl : (d.length : Int) > 65535
 · have hf : Nat.ble d.length 65535 = false := by rw [ble_iff]; exact dec_false (by omega)
   have : mayR k d = false := by rw [mayR_cut, hf, Bool.and_false]
   rw [this]
   exact Tr.all_t (dec_true hl) (Tr.all_ret rfl)
 have ht : Nat.ble d.length 65535 = true := Nat.ble_eq_true_of_le (by omega)
 refine Tr.all_f (dec_false hl) ?_
 by_cases k1 : k = 1
 · subst k1
   rw [may_A, ht, Bool.and_true]
   exact Tr.all_t rfl (Tr.all_ret rfl)
 refine Tr.all_f (beq_eq_false_iff_ne.2 k1) ?_
 by_cases k2 : k = 28
 · subst k2
   rw [may_AAAA, ht, Bool.and_true]
   exact Tr.all_t rfl (Tr.all_ret rfl)
 refine Tr.all_f (beq_eq_false_iff_ne.2 k2) ?_
 by_cases k3 : k = 2
 · rw [may_name (.inl k3), ht, Bool.and_true]
   exact Tr.all_t (beq_iff_eq.2 k3) (Tr.all_t hb (Tr.all_ret rfl))
 refine Tr.all_f (beq_eq_false_iff_ne.2 k3) ?_
 by_cases k4 : k = 5
 · rw [may_name (.inr (.inl k4)), ht, Bool.and_true]
   exact Tr.all_t (beq_iff_eq.2 k4) (Tr.all_t hb (Tr.all_ret rfl))
 refine Tr.all_f (beq_eq_false_iff_ne.2 k4) ?_
 by_cases k5 : k = 12
 · rw [may_name (.inr (.inr k5)), ht, Bool.and_true]
   exact Tr.all_t (beq_iff_eq.2 k5) (Tr.all_t hb (Tr.all_ret rfl))
 refine Tr.all_f (beq_eq_false_iff_ne.2 k5) ?_
 have hsub : ∀ a : Nat, List.take (Int.toNat (↑(List.length d) : Int) - Int.toNat (a : Int)) (List.drop (Int.toNat (a : Int)) d) = d.drop a := fun a => List.take_of_length_le (by simp)
 by_cases k6 : k = 15
 · subst k6
   rw [may_MX, ht, Bool.and_true]
   refine Tr.all_t rfl (Tr.all_br (fun c => ?_) fun c => Tr.all_ret ?_)
   · simp only [decide_eq_true_eq] at c
     rw [show (2 : Int) = ((2 : Nat) : Int) from rfl, hsub 2]
     rw [dec_true (show ((2 : Nat) : Int) ≤ d.length by omega)]
     exact Tr.all_t (by rw [dec_true (by omega), dec_true (by omega)]; rfl) (Tr.all_t (by rw [dec_true (by omega)]; rfl) (Tr.all_t (by simp [bigS]; omega) (Tr.all_ret rfl)))
   · simp only [decide_eq_false_iff_not] at c
     have : (decide ((2 : Int) ≤ d.length) && mayV (d.drop 2)) = false := by
      by_cases h2 : d.length = 2
      · rw [List.drop_eq_nil_of_le (by omega)]
        rw [may_nil, Bool.and_false]
      · rw [dec_false (by omega), Bool.false_and]
     rw [this]
 refine Tr.all_f (beq_eq_false_iff_ne.2 k6) ?_
 by_cases k7 : k = 6
 · subst k7
   have hw := wholeV_le d
   have hw2 := wholeV_le (d.drop (wholeV d))
   rw [List.length_drop] at hw2
   rw [may_SOA, ht, Bool.and_true, hsub]
   refine Tr.all_t rfl (Tr.all_t hb (Tr.all_t (by rw [dec_true (by omega), dec_true (by omega)]; rfl) (Tr.all_t (by rw [dec_true (by omega), dec_true (by omega)]; rfl) (Tr.all_t (by simp [bigS]; omega) (Tr.all_br (fun c1 => Tr.all_br (fun c2 => Tr.all_ret ?_) fun c2 => Tr.all_ret ?_) fun c1 => Tr.all_ret ?_)))))
   · simp only [decide_eq_true_eq] at c1 c2
     rw [IntWalk.i64_in ((wholeV d : Int) + (wholeV (d.drop (wholeV d)) : Int)) (by omega), IntWalk.i64_in _ (by omega), dec_false (show ¬ wholeV d = 0 by omega), dec_false (show ¬ wholeV (d.drop (wholeV d)) = 0 by omega)]
     simp only [Bool.not_false, Bool.true_and, List.length_drop]
     congr 3
     rw [Bool.eq_iff_iff]
     simp
     omega
   · simp only [decide_eq_false_iff_not] at c2
     rw [dec_true (show wholeV (d.drop (wholeV d)) = 0 by omega)]
     simp
   · simp only [decide_eq_false_iff_not] at c1
     rw [dec_true (show wholeV d = 0 by omega)]
     rfl
 refine Tr.all_f (beq_eq_false_iff_ne.2 k7) ?_
 by_cases k8 : k = 16
 · subst k8
   rw [may_TXT, ht, Bool.and_true]
   exact Tr.all_t rfl (Tr.all_t hb (Tr.all_ret rfl))
 rw [may_any ⟨k1, k2, k3, k4, k5, k6, k7, k8⟩, ht]
 exact Tr.all_f (beq_eq_false_iff_ne.2 k8) (Tr.all_ret rfl)
theorem len_big {n : List UInt8} (h : n.length ≤ 1000000000000) : bigS n = true := by simp [bigS]; omega
theorem drop_cons2 {α : Type} {l : List α} {k : Nat} (h : k < l.length) (x : α) : l.drop k = l.getD k x :: l.drop (k + 1) := by
 rw [List.getD_eq_getElem?_getD, List.getElem?_eq_getElem h]
 exact List.drop_eq_getElem_cons h
abbrev RR : Ty := .pair .str (.pair (.int .u16) (.pair (.int .u16) (.pair (.int .u32) .str)))
abbrev RRt := List UInt8 × (Int × (Int × (Int × List UInt8)))
abbrev ZNt := List UInt8 × List RRt
abbrev QQ : Ty := .pair .str (.pair (.int .u16) (.int .u16))
abbrev QQt := List UInt8 × (Int × Int)
abbrev MG : Ty := .pair (.int .u16) (.pair .bool (.pair .bool (.pair .bool (.pair .bool (.pair .bool (.pair (.int .i64) (.pair (.int .i64) (.pair (.list QQ) (.pair (.list RR) (.pair (.list RR) (.list RR)))))))))))
abbrev MGt := Int × (Bool × (Bool × (Bool × (Bool × (Bool × (Int × (Int × (List QQt × (List RRt × (List RRt × List RRt))))))))))
instance decRR : DecidableEq RRt := inferInstance
instance decLRR : DecidableEq (List RRt) := inferInstance
instance decZN : DecidableEq ZNt := inferInstanceAs (DecidableEq (List UInt8 × List RRt))
instance decLZN : DecidableEq (List ZNt) := inferInstance
def t32 (r : RRt) : Tr Res := .br (bigS r.1) (.br (mayV r.1) (.br (bigS r.2.2.2.2) (.ret ([.bool (mayR r.2.1 r.2.2.2.2)], [])) .no) (.ret ([.bool false], []))) .no
def os32 : OSpec := { f := 32, sh := [.d RR true], so := [], F := fun (r, _) _ => t32 r }
theorem fn32 (r : RRt) : evC T0 (orcB [fs68w, fs69w] []) (lpOf h32 0 (lsOf [])) c32 1000000 (startSt [AV.ofTy RR r true] [] Try.f32.ntmps) (finishK T0 false 0 Try.f32) = (t32 r).get := by kernel_rfl
theorem ok32 : os32.Ok Try.prog := by
 refine os_ok mixed0 tab0 (orcB_sound (all_cons okf68w (all_cons okf69w all_nil)) all_nil) h32 (d := 0) (n0 := 0) (S := lsOf []) Try.func32 (by kernel_rfl) (c := c32) (by kernel_rfl) rfl (no_loops (by kernel_rfl)) (by omega) (by kernel_rfl) ?_
 intro x'' y'' q'' hq''
 obtain ⟨(r : RRt), _⟩ := x''
 exact (fn32 r).trans hq''
def fs32 : FSpec := fsT 32 [(RR, true)] [(.bool, false)] fun (r, _) => t32 r
theorem okf32 : fs32.Ok Try.prog := fsT_ok fun x'' r'' hr'' => ok32 x'' () r'' hr''
def t59 (q : QQt) : Tr Res := .br (bigS q.1) (.ret ([.bool (mayV q.1)], [])) .no
def os59 : OSpec := { f := 59, sh := [.d QQ true], so := [], F := fun (q, _) _ => t59 q }
theorem fn59 (q : QQt) : evC T0 (orcB [fs68w, fs69w] []) (lpOf h59 0 (lsOf [])) c59 1000000 (startSt [AV.ofTy QQ q true] [] Try.f59.ntmps) (finishK T0 false 0 Try.f59) = (t59 q).get := by kernel_rfl
theorem ok59 : os59.Ok Try.prog := by
 refine os_ok mixed0 tab0 (orcB_sound (all_cons okf68w (all_cons okf69w all_nil)) all_nil) h59 (d := 0) (n0 := 0) (S := lsOf []) Try.func59 (by kernel_rfl) (c := c59) (by kernel_rfl) rfl (no_loops (by kernel_rfl)) (by omega) (by kernel_rfl) ?_
 intro x'' y'' q'' hq''
 obtain ⟨(q : QQt), _⟩ := x''
 exact (fn59 q).trans hq''
def fs59 : FSpec := fsT 59 [(QQ, true)] [(.bool, false)] fun (q, _) => t59 q
theorem okf59 : fs59.Ok Try.prog := fsT_ok fun x'' r'' hr'' => ok59 x'' () r'' hr''
def recV (r : RRt) : Bool := mayV r.1 && mayR r.2.1 r.2.2.2.2
def rrBig (r : RRt) : Bool := bigS r.1 && bigS r.2.2.2.2
def fs32w : FSpec := fs32.like fun (r, _) => .on (rrBig r) (recV r, ())
theorem okf32w : fs32w.Ok Try.prog := by
 refine flike_ok okf32 _ ?_
 rintro ⟨(r : RRt), _⟩ y h
 obtain ⟨hb, rfl⟩ := Tr.get_on h
 obtain ⟨h1, h2⟩ := Bool.and_eq_true_iff.1 (show (bigS r.1 && bigS r.2.2.2.2) = true from hb)
 refine convR_of (vs := [.bool (recV r)]) rfl rfl (Tr.get_of_all ?_)
 show (t32 r).all _
 unfold t32 recV
 refine Tr.all_t h1 (Tr.all_br (fun c => Tr.all_t h2 (Tr.all_ret (by rw [c]; rfl))) fun c => Tr.all_ret (by rw [c]; rfl))
def fs59w : FSpec := fs59.like fun (q, _) => .on (bigS q.1) (mayV q.1, ())
theorem okf59w : fs59w.Ok Try.prog := by
 refine flike_ok okf59 _ ?_
 rintro ⟨(q : QQt), _⟩ y h
 obtain ⟨hb, rfl⟩ := Tr.get_on h
 refine convR_of (vs := [.bool (mayV q.1)]) rfl rfl (Tr.get_of_all ?_)
 exact Tr.all_t hb (Tr.all_ret rfl)
def t127 (r : RRt) : Tr Res := .br (bigS r.1) (.br (mayV r.1) (.br (bigS r.2.2.2.2) (.ret ([.bool (mayR r.2.1 r.2.2.2.2)], [])) .no) (.ret ([.bool false], []))) .no
def os127 : OSpec := { f := 127, sh := [.d RR true], so := [], F := fun (r, _) _ => t127 r }
theorem fn127 (r : RRt) : evC T0 (orcB [fs126v, fs146w] []) (lpOf h127 0 (lsOf [])) c127 1000000 (startSt [AV.ofTy RR r true] [] Try.f127.ntmps) (finishK T0 false 0 Try.f127) = (t127 r).get := by kernel_rfl
theorem ok127 : os127.Ok Try.prog := by
 refine os_ok mixed0 tab0 (orcB_sound (all_cons okf126v (all_cons okf146w all_nil)) all_nil) h127 (d := 0) (n0 := 0) (S := lsOf []) Try.func127 (by kernel_rfl) (c := c127) (by kernel_rfl) rfl (no_loops (by kernel_rfl)) (by omega) (by kernel_rfl) ?_
 intro x'' y'' q'' hq''
 obtain ⟨(r : RRt), _⟩ := x''
 exact (fn127 r).trans hq''
def fs127 : FSpec := fsT 127 [(RR, true)] [(.bool, false)] fun (r, _) => t127 r
theorem okf127 : fs127.Ok Try.prog := fsT_ok fun x'' r'' hr'' => ok127 x'' () r'' hr''
def t105 (q : QQt) : Tr Res := .br (bigS q.1) (.ret ([.bool (mayV q.1)], [])) .no
def os105 : OSpec := { f := 105, sh := [.d QQ true], so := [], F := fun (q, _) _ => t105 q }
theorem fn105 (q : QQt) : evC T0 (orcB [fs126v, fs146w] []) (lpOf h105 0 (lsOf [])) c105 1000000 (startSt [AV.ofTy QQ q true] [] Try.f105.ntmps) (finishK T0 false 0 Try.f105) = (t105 q).get := by kernel_rfl
theorem ok105 : os105.Ok Try.prog := by
 refine os_ok mixed0 tab0 (orcB_sound (all_cons okf126v (all_cons okf146w all_nil)) all_nil) h105 (d := 0) (n0 := 0) (S := lsOf []) Try.func105 (by kernel_rfl) (c := c105) (by kernel_rfl) rfl (no_loops (by kernel_rfl)) (by omega) (by kernel_rfl) ?_
 intro x'' y'' q'' hq''
 obtain ⟨(q : QQt), _⟩ := x''
 exact (fn105 q).trans hq''
def fs105 : FSpec := fsT 105 [(QQ, true)] [(.bool, false)] fun (q, _) => t105 q
theorem okf105 : fs105.Ok Try.prog := fsT_ok fun x'' r'' hr'' => ok105 x'' () r'' hr''
def fs127w : FSpec := fs127.like fun (r, _) => .on (rrBig r) (recV r, ())
theorem okf127w : fs127w.Ok Try.prog := by
 refine flike_ok okf127 _ ?_
 rintro ⟨(r : RRt), _⟩ y h
 obtain ⟨hb, rfl⟩ := Tr.get_on h
 obtain ⟨h1, h2⟩ := Bool.and_eq_true_iff.1 (show (bigS r.1 && bigS r.2.2.2.2) = true from hb)
 refine convR_of (vs := [.bool (recV r)]) rfl rfl (Tr.get_of_all ?_)
 show (t127 r).all _
 unfold t127 recV
 refine Tr.all_t h1 (Tr.all_br (fun c => Tr.all_t h2 (Tr.all_ret (by rw [c]; rfl))) fun c => Tr.all_ret (by rw [c]; rfl))
def fs105w : FSpec := fs105.like fun (q, _) => .on (bigS q.1) (mayV q.1, ())
theorem okf105w : fs105w.Ok Try.prog := by
 refine flike_ok okf105 _ ?_
 rintro ⟨(q : QQt), _⟩ y h
 obtain ⟨hb, rfl⟩ := Tr.get_on h
 refine convR_of (vs := [.bool (mayV q.1)]) rfl rfl (Tr.get_of_all ?_)
 exact Tr.all_t hb (Tr.all_ret rfl)
theorem putS_len : ∀ (ps : List Int) (ls : List (List UInt8)) (p : PKt), kOk p.2 = true → kOk (putS ps ls p).2 = true ∧ (putS ps ls p).1.length ≤ p.1.length + ls.flatten.length
 | [], _, p, h => ⟨h, by simp [putS]⟩
 | x :: ps, ls, p, h => by
   rw [putS]
   have hl : ls.flatten.length = (ls.headD []).length + ls.tail.flatten.length := by cases ls <;> simp
   cases hx : x == -1 with
   | true =>
     obtain ⟨k1, k2⟩ := stN_k (p := p) (x := (ls.headD [], false)) h
     obtain ⟨q1, q2⟩ := putS_len ps ls.tail (stN p (ls.headD [], false)) k1
     refine ⟨q1, ?_⟩
     rw [cond_true, hl]
     have k2 : (stN p (ls.headD [], false)).1.length ≤ p.1.length + (ls.headD []).length := k2
     omega
   | false =>
     obtain ⟨q1, q2⟩ := putS_len ps ls.tail (p.1 ++ ls.headD [], p.2) h
     refine ⟨q1, ?_⟩
     rw [cond_false, hl]
     have q2 : (putS ps ls.tail (p.1 ++ ls.headD [], p.2)).1.length ≤ (p.1 ++ ls.headD []).length + ls.tail.flatten.length := q2
     rw [List.length_append] at q2
     omega
def knC (n S : List UInt8) (L : Known) (i : Int) : Bool := decide (i = 0) && Nat.ble L.length 1000000000000
noncomputable def b147 : Code := (nthLoop c147 0)
def ls147 : LoopSpec := { bid := 0, sh := [.d .str false, .ptr 0 0, .d (.int .i64) false], so := [.box [.d .str false, .d (.list (.pair .str (.int .i64))) false]], F := fun (n, i, _) ((S, L, _), _) => .on2 (knC n S L i) ((lookK n L).isSome) (.ret, [.int .i64 ((lookK n L).getD 0)], []) (.exit 0, [.dead], []) }
def r147 (n : List UInt8) (i : Int) (S : List UInt8) (L : List (List UInt8 × Int)) : Tr (St ⊕ (Ex × St)) := .br (decide (i < (↑L.length : Int))) (.br (decide (0 ≤ i)) (.br (decide (i < (↑L.length : Int))) (.br ((L.getD i.toNat (([], 0))).1 == n) (.br (decide (0 ≤ i)) (.br (decide (i < (↑L.length : Int))) (.ret (.inr (.ret, stOf [4] [.int .i64 (L.getD i.toNat (([], 0))).2] []))) .no) .no) (.ret (.inl (stOf [1, 2, 5] [.str n, .ptr 0 0, .int .i64 (IntKind.wrap .i64 (i + 1))] [.boxT none [.str S, .list (Ty.pair Ty.str (Ty.int .i64)) L]])))) .no) .no) (.ret (.inr (.exit 0, stOf [4] [.dead] [])))
theorem round147 (orc : Orc) (lp : Lp) (n : List UInt8) (i : Int) (S : List UInt8) (L : List (List UInt8 × Int)) : evC T0 orc lp b147 0 (stOf [1, 2, 5] [.str n, .ptr 0 0, .int .i64 i] [.box [.str S, .list (.pair .str (.int .i64)) L]]) (roundK [1, 2, 5] [4] 0) = (r147 n i S L).get := by kernel_rfl
theorem wf147 (orc : Orc) (n S : List UInt8) (L : List (List UInt8 × Int)) (I'' : Int → Prop) (m'' : Int → Nat) (r'' : Ex × St) (h : ∀ (i : Int), I'' i → (r147 n i S L).all fun x'' => x'' = .inr r'' ∨ ∃ (i' : Int), x'' = .inl (stOf [1, 2, 5] [.str n, .ptr 0 0, .int .i64 i'] [.box [.str S, .list (.pair .str (.int .i64)) L]]) ∧ I'' i' ∧ m'' i' < m'' i) (lp : Lp) (i : Int) : I'' i →
    loopF (fun st => evC T0 orc lp b147 0 st (roundK [1, 2, 5] [4] 0)) (stOf [1, 2, 5] [.str n, .ptr 0 0, .int .i64 i] [.box [.str S, .list (.pair .str (.int .i64)) L]]) = some r'' :=
 loop_tr (fun a'' : Int => stOf [1, 2, 5] [.str n, .ptr 0 0, .int .i64 a''] [.box [.str S, .list (.pair .str (.int .i64)) L]]) (fun a'' => I'' a'') (fun a'' => m'' a'') r'' (fun a'' => r147 n a'' S L)
  (fun a'' x hx => (round147 orc lp n a'' S L).trans hx) (fun a'' ha => Tr.all_mono (fun x'' hx => hx.imp id fun ⟨i', h1, h2, h3⟩ => ⟨(i'), h1, h2, h3⟩) (h (a'') ha)) (i)
theorem keq_str (a b : List UInt8) : Ty.keq .str a b = (a == b) := rfl
theorem lookK_at {n : List UInt8} {L : Known} {k : Nat} (hk : k < L.length) : lookK n (L.drop k) = if (L.getD k ([], 0)).1 == n then some (L.getD k ([], 0)).2 else lookK n (L.drop (k + 1)) := by
 rw [drop_get L k ([], 0) hk]
 unfold lookK
 rw [lookM, keq_str]
 by_cases h : n = (L.getD k ([], 0)).1
 · rw [show (n == (L.getD k ([], 0)).1) = true by simp only [beq_iff_eq]; exact h, show ((L.getD k ([], 0)).1 == n) = true by simp only [beq_iff_eq]; exact h.symm]
   rfl
 · rw [show (n == (L.getD k ([], 0)).1) = false by simp only [beq_eq_false_iff_ne]; exact h, show ((L.getD k ([], 0)).1 == n) = false by simp only [beq_eq_false_iff_ne]; exact fun e => h e.symm]
   rfl
theorem loop147 (orc : Orc) : ls147.Ok T0 orc h147 0 0 b147 := by
 intro q'' hq'' x'' y'' r'' h
 obtain ⟨(n : List UInt8), (i : Int), _⟩ := x''
 obtain ⟨⟨(S : List UInt8), (L : List (List UInt8 × Int)), _⟩, _⟩ := y''
 obtain ⟨hc, rfl⟩ := Tr.get_on2 h
 show loopF (fun st => evC T0 orc (lpN T0 orc h147 0 q'') b147 0 st (roundK [1, 2, 5] [4] 0)) (stOf [1, 2, 5] [.str n, .ptr 0 0, .int .i64 i] [.box [.str S, .list (.pair .str (.int .i64)) L]]) = some ((bif (lookK n L).isSome then (.ret, [.int .i64 ((lookK n L).getD 0)], []) else (.exit 0, [.dead], []) : Ex × List AV × List LObj).1, stOf [4] (bif (lookK n L).isSome then (.ret, [.int .i64 ((lookK n L).getD 0)], []) else (.exit 0, [.dead], []) : Ex × List AV × List LObj).2.1 (bif (lookK n L).isSome then (.ret, [.int .i64 ((lookK n L).getD 0)], []) else (.exit 0, [.dead], []) : Ex × List AV × List LObj).2.2)
 simp only [knC, Bool.and_eq_true, decide_eq_true_eq] at hc
 obtain ⟨rfl, hb⟩ := hc
 have hb := Nat.le_of_ble_eq_true hb
 refine wf147 _ n S L (fun i => 0 ≤ i ∧ i ≤ L.length ∧ lookK n (L.drop i.toNat) = lookK n L) (fun i => (L.length - i).toNat) _ ?_ _ 0 ⟨by omega, by omega, rfl⟩
 rintro i ⟨h0, h1, he⟩
 unfold r147
 by_cases hlt : i < L.length
 · rw [lookK_at (by omega)] at he
   refine Tr.all_t (dec_true hlt) (Tr.all_t (dec_true h0) (Tr.all_t (dec_true hlt) (Tr.all_br (fun c1 => ?_) fun c1 => ?_)))
   · rw [if_pos c1] at he
     rw [← he]
     exact Tr.all_t (dec_true h0) (Tr.all_t (dec_true hlt) (Tr.all_ret (.inl rfl)))
   · rw [if_neg (by rw [c1]; simp)] at he
     rw [IntWalk.i64_in _ (by omega)]
     exact Tr.all_ret (.inr ⟨_, rfl, ⟨by omega, by omega, by rw [show (i + 1).toNat = i.toNat + 1 by omega]; exact he⟩, by omega⟩)
 · rw [List.drop_of_length_le (by omega)] at he
   rw [← he]
   exact Tr.all_f (dec_false hlt) (Tr.all_ret (.inl rfl))
def t147 (p : (List UInt8 × List (List UInt8 × Int))) (n : List UInt8) : Tr Res := .br (knC n p.1 p.2 0) (.br (Option.isSome (lookK n p.2)) (.ret ([.int .i64 (Option.getD (lookK n p.2) 0)], [])) (.ret ([.int .i64 (-1)], []))) .no
def os147 : OSpec := { f := 147, sh := [.d (.pair .str (.list (.pair .str (.int .i64)))) true, .d .str false], so := [], F := fun (p, n, _) _ => t147 p n }
theorem fn147 (p : (List UInt8 × List (List UInt8 × Int))) (n : List UInt8) : evC T0 (orcB [] []) (lpOf h147 0 (lsOf [ls147])) c147 1000000 (startSt [AV.ofTy (.pair .str (.list (.pair .str (.int .i64)))) p true, .str n] [] Try.f147.ntmps) (finishK T0 false 0 Try.f147) = (t147 p n).get := by kernel_rfl
theorem ok147 : os147.Ok Try.prog := by
 refine os_ok mixed0 tab0 (orcB_sound all_nil all_nil) h147 (d := 0) (n0 := 0) (S := lsOf [ls147]) Try.func147 (by kernel_rfl) (c := c147) (by kernel_rfl) rfl (loops_eq (xs := [(0, b147)]) (by kernel_rfl) (all_cons (ls_here (loop147 _)) all_nil)) (by omega) (by kernel_rfl) ?_
 intro x'' y'' q'' hq''
 obtain ⟨(p : (List UInt8 × List (List UInt8 × Int))), (n : List UInt8), _⟩ := x''
 exact (fn147 p n).trans hq''
def fs147 : FSpec := fsT 147 [((.pair .str (.list (.pair .str (.int .i64)))), true), (.str, false)] [((.int .i64), false)] fun (p, n, _) => t147 p n
theorem okf147 : fs147.Ok Try.prog := fsT_ok fun x'' r'' hr'' => ok147 x'' () r'' hr''
def t131 (p : (List UInt8 × List (List UInt8 × Int))) (s : List UInt8) : Tr Res := .br (Nat.ble (List.length p.1 + List.length s) 9223372036854775807) (.ret ([.agg [.str (p.1 ++ s), .list (Ty.pair Ty.str (Ty.int .i64)) p.2]], [])) .no
def os131 : OSpec := { f := 131, sh := [.d (.pair .str (.list (.pair .str (.int .i64)))) true, .d .str false], so := [], F := fun (p, s, _) _ => t131 p s }
theorem fn131 (p : (List UInt8 × List (List UInt8 × Int))) (s : List UInt8) : evC T0 (orcB [] []) (lpOf h131 0 (lsOf [])) c131 1000000 (startSt [AV.ofTy (.pair .str (.list (.pair .str (.int .i64)))) p true, .str s] [] Try.f131.ntmps) (finishK T0 false 0 Try.f131) = (t131 p s).get := by kernel_rfl
theorem ok131 : os131.Ok Try.prog := by
 refine os_ok mixed0 tab0 (orcB_sound all_nil all_nil) h131 (d := 0) (n0 := 0) (S := lsOf []) Try.func131 (by kernel_rfl) (c := c131) (by kernel_rfl) rfl (no_loops (by kernel_rfl)) (by omega) (by kernel_rfl) ?_
 intro x'' y'' q'' hq''
 obtain ⟨(p : (List UInt8 × List (List UInt8 × Int))), (s : List UInt8), _⟩ := x''
 exact (fn131 p s).trans hq''
def fs131 : FSpec := fsT 131 [((.pair .str (.list (.pair .str (.int .i64)))), true), (.str, false)] [((.pair .str (.list (.pair .str (.int .i64)))), true)] fun (p, s, _) => t131 p s
theorem okf131 : fs131.Ok Try.prog := fsT_ok fun x'' r'' hr'' => ok131 x'' () r'' hr''
def kLen (L : Known) : Bool := Nat.ble L.length 1000000000000
def fs147w : FSpec := fs147.like fun (p, n, _) => .on (kLen p.2) ((lookK n p.2).getD (-1), ())
theorem okf147w : fs147w.Ok Try.prog := by
 refine flike_ok okf147 _ ?_
 rintro ⟨(p : List UInt8 × Known), (n : List UInt8), _⟩ y h
 obtain ⟨hb, rfl⟩ := Tr.get_on h
 have hb' : Nat.ble p.2.length 1000000000000 = true := hb
 refine convR_of (vs := [.int .i64 ((lookK n p.2).getD (-1))]) rfl rfl (Tr.get_of_all ?_)
 show (t147 p n).all _
 refine Tr.all_t (by unfold knC; rw [hb']; rfl) ?_
 cases h : lookK n p.2 with
 | none => exact Tr.all_f rfl (Tr.all_ret rfl)
 | some a => exact Tr.all_t rfl (Tr.all_ret rfl)
def rnC (n S0 : List UInt8) (L0 : Known) (S : List UInt8) (L : Known) : Bool := rootV n && (kOk L && (Nat.ble (S.length + n.length) 100000000000 && Nat.ble (L.length + n.length) 100000000000))
noncomputable def b130 : Code := (nthLoop c130 0)
def ls130 : LoopSpec := { bid := 0, sh := [.d .str false, .ptr 0 0, .ptr 2 0], so := [.box [.d .str false, .row 1], .row (.pair .str (.int .i64)), .box [.d .str false, .row 3], .row (.pair .str (.int .i64))], F := fun (n, _) ((S0, _), L0, (S, _), L, _) => .on2 (rnC n S0 L0 S L) ((nameL n S L).1.isSome) (.ret, [.ptr 0 0, .int .i64 0, .ptr 1 0], [.box [.str ((nameL n S L).2.2.1 ++ put16 (49152 + (nameL n S L).1.getD 0)), .list (.pair .str (.int .i64)) (nameL n S L).2.2.2], .box [.str (nameL n S L).2.2.1, .list (.pair .str (.int .i64)) (nameL n S L).2.2.2]]) (.exit 0, [.ptr 0 0, .dead, .ptr 2 0], [.box [.str S0, .rowA 1], .row (.pair .str (.int .i64)) L0, .box [.str (nameL n S L).2.2.1, .rowA 3], .row (.pair .str (.int .i64)) (nameL n S L).2.2.2]) }
def r130 (n S0 : List UInt8) (L0 : List (List UInt8 × Int)) (S : List UInt8) (L : List (List UInt8 × Int)) : Tr (St ⊕ (Ex × St)) := .br (!n == [0]) (.br (kLen L) (.br (decide (Option.getD (lookK n L) (-1 : Int) ≥ 0)) (.br (n16C (IntKind.wrap .u16 (IntKind.wrap .i64 (49152 + Option.getD (lookK n L) (-1 : Int))))) (.br (Nat.ble (List.length S + List.length (put16 (IntKind.wrap .u16 (IntKind.wrap .i64 (49152 + Option.getD (lookK n L) (-1 : Int)))))) 9223372036854775807) (.ret (.inr (.ret, stOf [4, 5, 6] [.ptr 0 0, .int .i64 0, .ptr 1 0] [.boxT none [.str (S ++ put16 (IntKind.wrap .u16 (IntKind.wrap .i64 (49152 + Option.getD (lookK n L) (-1 : Int))))), .list (Ty.pair Ty.str (Ty.int .i64)) L], .boxT none [.str S, .list (Ty.pair Ty.str (Ty.int .i64)) L]]))) .no) .no) (.br (decide ((↑S.length : Int) < 16384)) (.br (fits (List.length L + 1) 24) (.br (decide (0 < (↑n.length : Int))) (.br (decide (0 ≤ IntKind.wrap .i64 (1 + IntKind.wrap .i64 (↑(UInt8.toNat (n.getD (Int.toNat 0) 0)) : Int))) && decide (IntKind.wrap .i64 (1 + IntKind.wrap .i64 (↑(UInt8.toNat (n.getD (Int.toNat 0) 0)) : Int)) ≤ (↑n.length : Int))) (.br (decide (0 ≤ 0) && decide (0 ≤ IntKind.wrap .i64 (1 + IntKind.wrap .i64 (↑(UInt8.toNat (n.getD (Int.toNat 0) 0)) : Int)))) (.br (Nat.ble (List.length S + List.length (List.take (Int.toNat (IntKind.wrap .i64 (1 + IntKind.wrap .i64 (↑(UInt8.toNat (n.getD (Int.toNat 0) 0)) : Int))) - Int.toNat 0) (List.drop (Int.toNat 0) n))) 9223372036854775807) (.br (decide (0 ≤ (↑n.length : Int)) && decide ((↑n.length : Int) ≤ (↑n.length : Int))) (.br (decide (0 ≤ IntKind.wrap .i64 (1 + IntKind.wrap .i64 (↑(UInt8.toNat (n.getD (Int.toNat 0) 0)) : Int))) && decide (IntKind.wrap .i64 (1 + IntKind.wrap .i64 (↑(UInt8.toNat (n.getD (Int.toNat 0) 0)) : Int)) ≤ (↑n.length : Int))) (.ret (.inl (stOf [1, 4, 6] [.str (List.take (Int.toNat (↑n.length : Int) - Int.toNat (IntKind.wrap .i64 (1 + IntKind.wrap .i64 (↑(UInt8.toNat (n.getD (Int.toNat 0) 0)) : Int)))) (List.drop (Int.toNat (IntKind.wrap .i64 (1 + IntKind.wrap .i64 (↑(UInt8.toNat (n.getD (Int.toNat 0) 0)) : Int)))) n)), .ptr 0 0, .ptr 2 0] [.boxT none [.str S0, .rowA 1], .row (Ty.pair Ty.str (Ty.int .i64)) L0, .boxT none [.str (S ++ List.take (Int.toNat (IntKind.wrap .i64 (1 + IntKind.wrap .i64 (↑(UInt8.toNat (n.getD (Int.toNat 0) 0)) : Int))) - Int.toNat 0) (List.drop (Int.toNat 0) n)), .rowA 3], .row (Ty.pair Ty.str (Ty.int .i64)) (L ++ [(n, (↑S.length : Int))])]))) .no) .no) .no) .no) .no) .no) .no) (.br (decide (0 < (↑n.length : Int))) (.br (decide (0 ≤ IntKind.wrap .i64 (1 + IntKind.wrap .i64 (↑(UInt8.toNat (n.getD (Int.toNat 0) 0)) : Int))) && decide (IntKind.wrap .i64 (1 + IntKind.wrap .i64 (↑(UInt8.toNat (n.getD (Int.toNat 0) 0)) : Int)) ≤ (↑n.length : Int))) (.br (decide (0 ≤ 0) && decide (0 ≤ IntKind.wrap .i64 (1 + IntKind.wrap .i64 (↑(UInt8.toNat (n.getD (Int.toNat 0) 0)) : Int)))) (.br (Nat.ble (List.length S + List.length (List.take (Int.toNat (IntKind.wrap .i64 (1 + IntKind.wrap .i64 (↑(UInt8.toNat (n.getD (Int.toNat 0) 0)) : Int))) - Int.toNat 0) (List.drop (Int.toNat 0) n))) 9223372036854775807) (.br (decide (0 ≤ (↑n.length : Int)) && decide ((↑n.length : Int) ≤ (↑n.length : Int))) (.br (decide (0 ≤ IntKind.wrap .i64 (1 + IntKind.wrap .i64 (↑(UInt8.toNat (n.getD (Int.toNat 0) 0)) : Int))) && decide (IntKind.wrap .i64 (1 + IntKind.wrap .i64 (↑(UInt8.toNat (n.getD (Int.toNat 0) 0)) : Int)) ≤ (↑n.length : Int))) (.ret (.inl (stOf [1, 4, 6] [.str (List.take (Int.toNat (↑n.length : Int) - Int.toNat (IntKind.wrap .i64 (1 + IntKind.wrap .i64 (↑(UInt8.toNat (n.getD (Int.toNat 0) 0)) : Int)))) (List.drop (Int.toNat (IntKind.wrap .i64 (1 + IntKind.wrap .i64 (↑(UInt8.toNat (n.getD (Int.toNat 0) 0)) : Int)))) n)), .ptr 0 0, .ptr 2 0] [.boxT none [.str S0, .rowA 1], .row (Ty.pair Ty.str (Ty.int .i64)) L0, .boxT none [.str (S ++ List.take (Int.toNat (IntKind.wrap .i64 (1 + IntKind.wrap .i64 (↑(UInt8.toNat (n.getD (Int.toNat 0) 0)) : Int))) - Int.toNat 0) (List.drop (Int.toNat 0) n)), .rowA 3], .row (Ty.pair Ty.str (Ty.int .i64)) L]))) .no) .no) .no) .no) .no) .no))) .no) (.ret (.inr (.exit 0, stOf [4, 5, 6] [.ptr 0 0, .dead, .ptr 2 0] [.boxT none [.str S0, .rowA 1], .row (Ty.pair Ty.str (Ty.int .i64)) L0, .boxT none [.str S, .rowA 3], .row (Ty.pair Ty.str (Ty.int .i64)) L])))
theorem round130 (lp : Lp) (n S0 : List UInt8) (L0 : List (List UInt8 × Int)) (S : List UInt8) (L : List (List UInt8 × Int)) : evC T0 (orcB [fs126v, fs147w, fs131, fs129w] []) lp b130 0 (stOf [1, 4, 6] [.str n, .ptr 0 0, .ptr 2 0] [.box [.str S0, .rowA 1], .row (.pair .str (.int .i64)) L0, .box [.str S, .rowA 3], .row (.pair .str (.int .i64)) L]) (roundK [1, 4, 6] [4, 5, 6] 0) = (r130 n S0 L0 S L).get := by kernel_rfl
theorem wf130 (S0 : List UInt8) (L0 : List (List UInt8 × Int)) (I'' : List UInt8 → List UInt8 → List (List UInt8 × Int) → Prop) (m'' : List UInt8 → List UInt8 → List (List UInt8 × Int) → Nat) (r'' : Ex × St) (h : ∀ (n S : List UInt8) (L : List (List UInt8 × Int)), I'' n S L → (r130 n S0 L0 S L).all fun x'' => x'' = .inr r'' ∨ ∃ (n' S' : List UInt8) (L' : List (List UInt8 × Int)), x'' = .inl (stOf [1, 4, 6] [.str n', .ptr 0 0, .ptr 2 0] [.box [.str S0, .rowA 1], .row (.pair .str (.int .i64)) L0, .box [.str S', .rowA 3], .row (.pair .str (.int .i64)) L']) ∧ I'' n' S' L' ∧ m'' n' S' L' < m'' n S L) (lp : Lp) (n S : List UInt8) (L : List (List UInt8 × Int)) : I'' n S L →
    loopF (fun st => evC T0 (orcB [fs126v, fs147w, fs131, fs129w] []) lp b130 0 st (roundK [1, 4, 6] [4, 5, 6] 0)) (stOf [1, 4, 6] [.str n, .ptr 0 0, .ptr 2 0] [.box [.str S0, .rowA 1], .row (.pair .str (.int .i64)) L0, .box [.str S, .rowA 3], .row (.pair .str (.int .i64)) L]) = some r'' :=
 loop_tr (fun a'' : List UInt8 × List UInt8 × List (List UInt8 × Int) => stOf [1, 4, 6] [.str a''.1, .ptr 0 0, .ptr 2 0] [.box [.str S0, .rowA 1], .row (.pair .str (.int .i64)) L0, .box [.str a''.2.1, .rowA 3], .row (.pair .str (.int .i64)) a''.2.2]) (fun a'' => I'' a''.1 a''.2.1 a''.2.2) (fun a'' => m'' a''.1 a''.2.1 a''.2.2) r'' (fun a'' => r130 a''.1 S0 L0 a''.2.1 a''.2.2)
  (fun a'' x hx => (round130 lp a''.1 S0 L0 a''.2.1 a''.2.2).trans hx) (fun a'' ha => Tr.all_mono (fun x'' hx => hx.imp id fun ⟨n', S', L', h1, h2, h3⟩ => ⟨(n', S', L'), h1, h2, h3⟩) (h (a''.1) (a''.2.1) (a''.2.2) ha)) (n, S, L)
def rnI (n S : List UInt8) (L : Known) (n' S' : List UInt8) (L' : Known) : Prop := rootV n' = true ∧ kOk L' = true ∧ S'.length + n'.length ≤ 100000000000 ∧ L'.length + n'.length ≤ 100000000000 ∧ nameL n' S' L' = nameL n S L
theorem loop130 : ls130.Ok T0 (orcB [fs126v, fs147w, fs131, fs129w] []) h130 0 0 b130 := by
 intro q'' hq'' x'' y'' r'' h
 obtain ⟨(n : List UInt8), _⟩ := x''
 obtain ⟨⟨(S0 : List UInt8), _⟩, (L0 : List (List UInt8 × Int)), ⟨(S : List UInt8), _⟩, (L : List (List UInt8 × Int)), _⟩ := y''
 obtain ⟨hc, rfl⟩ := Tr.get_on2 h
 show loopF (fun st => evC T0 (orcB [fs126v, fs147w, fs131, fs129w] []) (lpN T0 (orcB [fs126v, fs147w, fs131, fs129w] []) h130 0 q'') b130 0 st (roundK [1, 4, 6] [4, 5, 6] 0)) (stOf [1, 4, 6] [.str n, .ptr 0 0, .ptr 2 0] [.box [.str S0, .rowA 1], .row (.pair .str (.int .i64)) L0, .box [.str S, .rowA 3], .row (.pair .str (.int .i64)) L]) = some ((bif (nameL n S L).1.isSome then (.ret, [.ptr 0 0, .int .i64 0, .ptr 1 0], [.box [.str ((nameL n S L).2.2.1 ++ put16 (49152 + (nameL n S L).1.getD 0)), .list (.pair .str (.int .i64)) (nameL n S L).2.2.2], .box [.str (nameL n S L).2.2.1, .list (.pair .str (.int .i64)) (nameL n S L).2.2.2]]) else (.exit 0, [.ptr 0 0, .dead, .ptr 2 0], [.box [.str S0, .rowA 1], .row (.pair .str (.int .i64)) L0, .box [.str (nameL n S L).2.2.1, .rowA 3], .row (.pair .str (.int .i64)) (nameL n S L).2.2.2]) : Ex × List AV × List LObj).1, stOf [4, 5, 6] (bif (nameL n S L).1.isSome then (.ret, [.ptr 0 0, .int .i64 0, .ptr 1 0], [.box [.str ((nameL n S L).2.2.1 ++ put16 (49152 + (nameL n S L).1.getD 0)), .list (.pair .str (.int .i64)) (nameL n S L).2.2.2], .box [.str (nameL n S L).2.2.1, .list (.pair .str (.int .i64)) (nameL n S L).2.2.2]]) else (.exit 0, [.ptr 0 0, .dead, .ptr 2 0], [.box [.str S0, .rowA 1], .row (.pair .str (.int .i64)) L0, .box [.str (nameL n S L).2.2.1, .rowA 3], .row (.pair .str (.int .i64)) (nameL n S L).2.2.2]) : Ex × List AV × List LObj).2.1 (bif (nameL n S L).1.isSome then (.ret, [.ptr 0 0, .int .i64 0, .ptr 1 0], [.box [.str ((nameL n S L).2.2.1 ++ put16 (49152 + (nameL n S L).1.getD 0)), .list (.pair .str (.int .i64)) (nameL n S L).2.2.2], .box [.str (nameL n S L).2.2.1, .list (.pair .str (.int .i64)) (nameL n S L).2.2.2]]) else (.exit 0, [.ptr 0 0, .dead, .ptr 2 0], [.box [.str S0, .rowA 1], .row (.pair .str (.int .i64)) L0, .box [.str (nameL n S L).2.2.1, .rowA 3], .row (.pair .str (.int .i64)) (nameL n S L).2.2.2]) : Ex × List AV × List LObj).2.2)
 simp only [rnC, Bool.and_eq_true] at hc
 obtain ⟨hr, hk, hb, hb2⟩ := hc
 have hb := Nat.le_of_ble_eq_true hb
 have hb2 := Nat.le_of_ble_eq_true hb2
 refine wf130 S0 L0 (rnI n S L) (fun n _ _ => n.length) _ ?_ _ n S L ⟨hr, hk, hb, hb2, rfl⟩
 clear hr hk hb hb2
 rintro n S L ⟨hr, hk, hb, hb2, he⟩
 rw [← he]
 unfold r130
 have hkl : kLen L = true := Nat.ble_eq_true_of_le (by omega)
 rcases root_cases hr with rfl | ⟨hn0, hn1, hlt, h63, hne, hrt⟩
 · rw [nameL_root]
   exact Tr.all_f (by simp) (Tr.all_ret (.inl rfl))
 · refine Tr.all_t (by simpa using hn0) (Tr.all_t hkl ?_)
   cases hlk : lookK n L with
   | some a =>
     obtain ⟨ha0, ha1⟩ := kOk_look hk hlk
     rw [nameL_known hn0 hlk]
     have hw : IntKind.wrap .u16 (IntKind.wrap .i64 ((49152 : Int) + a)) = 49152 + a := by
      rw [IntWalk.i64_in _ (by omega), IntWalk.u16_in _ (by omega)]
     simp only [Option.getD_some, hw]
     exact Tr.all_t (dec_true (by omega)) (Tr.all_t (by simp [n16C]; omega) (Tr.all_t (Nat.ble_eq_true_of_le (by rw [put16_len]; omega)) (Tr.all_ret (.inl rfl))))
   | none =>
     rw [nameL_next hn0 hn1 hlk]
     simp only [szW, hdW, tlW, Option.getD_none]
     have hl := hdN_len (n := n) (by omega)
     have hl2 := tlN_len n
     have hm : (tlN n).length < n.length := tlN_lt hn1
     refine Tr.all_f (by decide) (Tr.all_br (fun c1 => ?_) fun c1 => ?_)
     · simp only [decide_eq_true_eq] at c1
       refine Tr.all_t (fits_true (by omega) (by omega)) (Tr.all_t (dec_true (by omega)) (Tr.all_t (by rw [dec_true (by omega), dec_true (by omega)]; rfl) (Tr.all_t (by rw [dec_true (by omega), dec_true (by omega)]; rfl) (Tr.all_t (Nat.ble_eq_true_of_le (by omega)) (Tr.all_t (by rw [dec_true (by omega), dec_true (by omega)]; rfl) (Tr.all_t (by rw [dec_true (by omega), dec_true (by omega)]; rfl) (Tr.all_ret (.inr ⟨_, _, _, rfl, ⟨hrt, kOk_add hk (by omega), by rw [List.length_append]; omega, by simp; omega, ?_⟩, hm⟩))))))))
       rw [← he, nameL_next hn0 hn1 hlk, if_pos (by omega)]
     · simp only [decide_eq_false_iff_not] at c1
       refine Tr.all_t (dec_true (by omega)) (Tr.all_t (by rw [dec_true (by omega), dec_true (by omega)]; rfl) (Tr.all_t (by rw [dec_true (by omega), dec_true (by omega)]; rfl) (Tr.all_t (Nat.ble_eq_true_of_le (by omega)) (Tr.all_t (by rw [dec_true (by omega), dec_true (by omega)]; rfl) (Tr.all_t (by rw [dec_true (by omega), dec_true (by omega)]; rfl) (Tr.all_ret (.inr ⟨_, _, _, rfl, ⟨hrt, hk, by rw [List.length_append]; omega, by omega, ?_⟩, hm⟩)))))))
       rw [← he, nameL_next hn0 hn1 hlk, if_neg (by omega)]
def t130 (p : (List UInt8 × List (List UInt8 × Int))) (n : List UInt8) : Tr Res := .br (bigS n) (.br (!mayV n) (.ret ([.agg [.str p.1, .list (Ty.pair Ty.str (Ty.int .i64)) p.2], .int .i64 1], [])) (.br (fits (0 + List.length p.2) 24) (.br (rnC n [] [] p.1 ([] ++ p.2)) (.br (Option.isSome (nameL n p.1 ([] ++ p.2)).1) (.ret ([.agg [.str ((nameL n p.1 ([] ++ p.2)).2.2.1 ++ put16 (49152 + Option.getD (nameL n p.1 ([] ++ p.2)).1 0)), .list (Ty.pair Ty.str (Ty.int .i64)) (nameL n p.1 ([] ++ p.2)).2.2.2], .int .i64 0], [])) (.br (Nat.ble (List.length (nameL n p.1 ([] ++ p.2)).2.2.1 + List.length ([0])) 9223372036854775807) (.ret ([.agg [.str ((nameL n p.1 ([] ++ p.2)).2.2.1 ++ [0]), .list (Ty.pair Ty.str (Ty.int .i64)) (nameL n p.1 ([] ++ p.2)).2.2.2], .int .i64 0], [])) .no)) .no) .no)) .no
def os130 : OSpec := { f := 130, sh := [.d (.pair .str (.list (.pair .str (.int .i64)))) true, .d .str false], so := [], F := fun (p, n, _) _ => t130 p n }
theorem fn130 (p : (List UInt8 × List (List UInt8 × Int))) (n : List UInt8) : evC T0 (orcB [fs126v, fs147w, fs131, fs129w] []) (lpOf h130 0 (lsOf [ls130])) c130 1000000 (startSt [AV.ofTy (.pair .str (.list (.pair .str (.int .i64)))) p true, .str n] [] Try.f130.ntmps) (finishK T0 false 0 Try.f130) = (t130 p n).get := by kernel_rfl
theorem ok130 : os130.Ok Try.prog := by
 refine os_ok mixed0 tab0 (orcB_sound (all_cons okf126v (all_cons okf147w (all_cons okf131 (all_cons okf129w all_nil)))) all_nil) h130 (d := 0) (n0 := 0) (S := lsOf [ls130]) Try.func130 (by kernel_rfl) (c := c130) (by kernel_rfl) rfl (loops_eq (xs := [(0, b130)]) (by kernel_rfl) (all_cons (ls_here loop130) all_nil)) (by omega) (by kernel_rfl) ?_
 intro x'' y'' q'' hq''
 obtain ⟨(p : (List UInt8 × List (List UInt8 × Int))), (n : List UInt8), _⟩ := x''
 exact (fn130 p n).trans hq''
def fs130 : FSpec := fsT 130 [((.pair .str (.list (.pair .str (.int .i64)))), true), (.str, false)] [((.pair .str (.list (.pair .str (.int .i64)))), true), ((.int .i64), false)] fun (p, n, _) => t130 p n
theorem okf130 : fs130.Ok Try.prog := fsT_ok fun x'' r'' hr'' => ok130 x'' () r'' hr''
def nmOk (p : List UInt8 × Known) (n : List UInt8) : Bool := bigS n && (kOk p.2 && (Nat.ble p.1.length 10000000000 && Nat.ble p.2.length 10000000000))
def fs130w : FSpec := fs130.like fun (p, n, _) => .br (nmOk p n) (.br (mayV n) (.ret (nameP n p.1 p.2, (0 : Int), ())) (.ret (p, (1 : Int), ()))) .no
theorem okf130w : fs130w.Ok Try.prog := by
 refine flike_ok okf130 _ ?_
 rintro ⟨(p : List UInt8 × Known), (n : List UInt8), _⟩ y h
 simp only [Tr.get] at h
 cases hc : nmOk p n with
 | false => rw [hc] at h; cases h
 | true =>
   rw [hc, cond_true] at h
   simp only [nmOk, Bool.and_eq_true] at hc
   obtain ⟨hbn, hk, h1, h2⟩ := hc
   have h1 := Nat.le_of_ble_eq_true h1
   have h2 := Nat.le_of_ble_eq_true h2
   obtain ⟨S, L⟩ := p
   simp only at hk h1 h2
   cases hm : mayV n with
   | false =>
     rw [hm, cond_false] at h
     cases h
     refine convR_of (vs := [AV.agg [.str S, .list (.pair .str (.int .i64)) L], .int .i64 1]) rfl rfl (Tr.get_of_all ?_)
     show (t130 (S, L) n).all _
     unfold t130
     rw [hm]
     exact Tr.all_t hbn (Tr.all_t rfl (Tr.all_ret rfl))
   | true =>
     rw [hm, cond_true] at h
     cases h
     refine convR_of (vs := [AV.agg [.str (nameP n S L).1, .list (.pair .str (.int .i64)) (nameP n S L).2], .int .i64 0]) rfl rfl (Tr.get_of_all ?_)
     show (t130 (S, L) n).all _
     unfold t130
     obtain ⟨r1, r2⟩ := show rootV n = true ∧ n.length ≤ 255 by simp only [mayV, Bool.and_eq_true] at hm; exact ⟨hm.1, Nat.le_of_ble_eq_true hm.2.1⟩
     obtain ⟨f1, f2, f3, f4, f5, f6⟩ := nameL_facts _ n S L rfl r1
     rw [hm, List.nil_append]
     have hrn : rnC n [] [] S L = true := by unfold rnC; rw [r1, hk, Nat.ble_eq_true_of_le (by omega), Nat.ble_eq_true_of_le (by omega)]; rfl
     refine Tr.all_t hbn (Tr.all_f rfl (Tr.all_t (fits_true (show (0 + L.length) * 24 ≤ _ by omega) (show 0 + L.length ≤ _ by omega)) (Tr.all_t hrn ?_)))
     unfold nameP
     cases hl : (nameL n S L).1 with
     | none => exact Tr.all_f rfl (Tr.all_t (Nat.ble_eq_true_of_le (by simp; omega)) (Tr.all_ret rfl))
     | some a => exact Tr.all_t rfl (Tr.all_ret rfl)
def TN : Tab := { T0 with nild := true }
theorem tabN : TabOk Try.prog TN := tab_nild tab0 _ _
def t149 (p : (List UInt8 × List (List UInt8 × Int))) (k : Int) (d : List UInt8) : Tr Res := .br (bigS d) (.br (!mayR k d) (.ret ([.agg [.str p.1, .list (Ty.pair Ty.str (Ty.int .i64)) p.2], .int .i64 1], [])) (.br (k == 2) (.br (nmOk p d) (.br (mayV d) (.ret ([.agg [.str (nameP d p.1 p.2).1, .list (Ty.pair Ty.str (Ty.int .i64)) (nameP d p.1 p.2).2], .int .i64 0], [])) (.ret ([.agg [.str p.1, .list (Ty.pair Ty.str (Ty.int .i64)) p.2], .int .i64 0], []))) .no) (.br (k == 5) (.br (nmOk p d) (.br (mayV d) (.ret ([.agg [.str (nameP d p.1 p.2).1, .list (Ty.pair Ty.str (Ty.int .i64)) (nameP d p.1 p.2).2], .int .i64 0], [])) (.ret ([.agg [.str p.1, .list (Ty.pair Ty.str (Ty.int .i64)) p.2], .int .i64 0], []))) .no) (.br (k == 12) (.br (nmOk p d) (.br (mayV d) (.ret ([.agg [.str (nameP d p.1 p.2).1, .list (Ty.pair Ty.str (Ty.int .i64)) (nameP d p.1 p.2).2], .int .i64 0], [])) (.ret ([.agg [.str p.1, .list (Ty.pair Ty.str (Ty.int .i64)) p.2], .int .i64 0], []))) .no) (.br (k == 15) (.br (decide (0 ≤ 2) && decide (2 ≤ (↑d.length : Int))) (.br (Nat.ble (List.length p.1 + List.length (List.take (Int.toNat 2 - Int.toNat 0) (List.drop (Int.toNat 0) d))) 9223372036854775807) (.br (decide (0 ≤ (↑d.length : Int)) && decide ((↑d.length : Int) ≤ (↑d.length : Int))) (.br (decide (0 ≤ 2) && decide (2 ≤ (↑d.length : Int))) (.br (nmOk (p.1 ++ List.take (Int.toNat 2 - Int.toNat 0) (List.drop (Int.toNat 0) d), p.2) (List.take (Int.toNat (↑d.length : Int) - Int.toNat 2) (List.drop (Int.toNat 2) d))) (.br (mayV (List.take (Int.toNat (↑d.length : Int) - Int.toNat 2) (List.drop (Int.toNat 2) d))) (.ret ([.agg [.str (nameP (List.take (Int.toNat (↑d.length : Int) - Int.toNat 2) (List.drop (Int.toNat 2) d)) (p.1 ++ List.take (Int.toNat 2 - Int.toNat 0) (List.drop (Int.toNat 0) d)) p.2).1, .list (Ty.pair Ty.str (Ty.int .i64)) (nameP (List.take (Int.toNat (↑d.length : Int) - Int.toNat 2) (List.drop (Int.toNat 2) d)) (p.1 ++ List.take (Int.toNat 2 - Int.toNat 0) (List.drop (Int.toNat 0) d)) p.2).2], .int .i64 0], [])) (.ret ([.agg [.str (p.1 ++ List.take (Int.toNat 2 - Int.toNat 0) (List.drop (Int.toNat 0) d)), .list (Ty.pair Ty.str (Ty.int .i64)) p.2], .int .i64 0], []))) .no) .no) .no) .no) .no) (.br (k == 6) (.br (bigS d) (.br (decide (0 ≤ (↑d.length : Int)) && decide ((↑d.length : Int) ≤ (↑d.length : Int))) (.br (decide (0 ≤ (↑(wholeV d) : Int)) && decide ((↑(wholeV d) : Int) ≤ (↑d.length : Int))) (.br (bigS (List.take (Int.toNat (↑d.length : Int) - Int.toNat (↑(wholeV d) : Int)) (List.drop (Int.toNat (↑(wholeV d) : Int)) d))) (.br (decide (0 ≤ (↑(wholeV d) : Int)) && decide ((↑(wholeV d) : Int) ≤ (↑d.length : Int))) (.br (nmOk p (List.take (Int.toNat (↑(wholeV d) : Int) - Int.toNat 0) (List.drop (Int.toNat 0) d))) (.br (mayV (List.take (Int.toNat (↑(wholeV d) : Int) - Int.toNat 0) (List.drop (Int.toNat 0) d))) (.br (decide (0 ≤ IntKind.wrap .i64 ((↑(wholeV d) : Int) + (↑(wholeV (List.take (Int.toNat (↑d.length : Int) - Int.toNat (↑(wholeV d) : Int)) (List.drop (Int.toNat (↑(wholeV d) : Int)) d))) : Int))) && decide (IntKind.wrap .i64 ((↑(wholeV d) : Int) + (↑(wholeV (List.take (Int.toNat (↑d.length : Int) - Int.toNat (↑(wholeV d) : Int)) (List.drop (Int.toNat (↑(wholeV d) : Int)) d))) : Int)) ≤ (↑d.length : Int))) (.br (decide (0 ≤ (↑(wholeV d) : Int)) && decide ((↑(wholeV d) : Int) ≤ IntKind.wrap .i64 ((↑(wholeV d) : Int) + (↑(wholeV (List.take (Int.toNat (↑d.length : Int) - Int.toNat (↑(wholeV d) : Int)) (List.drop (Int.toNat (↑(wholeV d) : Int)) d))) : Int)))) (.br (nmOk (nameP (List.take (Int.toNat (↑(wholeV d) : Int) - Int.toNat 0) (List.drop (Int.toNat 0) d)) p.1 p.2) (List.take (Int.toNat (IntKind.wrap .i64 ((↑(wholeV d) : Int) + (↑(wholeV (List.take (Int.toNat (↑d.length : Int) - Int.toNat (↑(wholeV d) : Int)) (List.drop (Int.toNat (↑(wholeV d) : Int)) d))) : Int))) - Int.toNat (↑(wholeV d) : Int)) (List.drop (Int.toNat (↑(wholeV d) : Int)) d))) (.br (mayV (List.take (Int.toNat (IntKind.wrap .i64 ((↑(wholeV d) : Int) + (↑(wholeV (List.take (Int.toNat (↑d.length : Int) - Int.toNat (↑(wholeV d) : Int)) (List.drop (Int.toNat (↑(wholeV d) : Int)) d))) : Int))) - Int.toNat (↑(wholeV d) : Int)) (List.drop (Int.toNat (↑(wholeV d) : Int)) d))) (.br (decide (0 ≤ (↑d.length : Int)) && decide ((↑d.length : Int) ≤ (↑d.length : Int))) (.br (decide (0 ≤ IntKind.wrap .i64 ((↑(wholeV d) : Int) + (↑(wholeV (List.take (Int.toNat (↑d.length : Int) - Int.toNat (↑(wholeV d) : Int)) (List.drop (Int.toNat (↑(wholeV d) : Int)) d))) : Int))) && decide (IntKind.wrap .i64 ((↑(wholeV d) : Int) + (↑(wholeV (List.take (Int.toNat (↑d.length : Int) - Int.toNat (↑(wholeV d) : Int)) (List.drop (Int.toNat (↑(wholeV d) : Int)) d))) : Int)) ≤ (↑d.length : Int))) (.br (Nat.ble (List.length (nameP (List.take (Int.toNat (IntKind.wrap .i64 ((↑(wholeV d) : Int) + (↑(wholeV (List.take (Int.toNat (↑d.length : Int) - Int.toNat (↑(wholeV d) : Int)) (List.drop (Int.toNat (↑(wholeV d) : Int)) d))) : Int))) - Int.toNat (↑(wholeV d) : Int)) (List.drop (Int.toNat (↑(wholeV d) : Int)) d)) (nameP (List.take (Int.toNat (↑(wholeV d) : Int) - Int.toNat 0) (List.drop (Int.toNat 0) d)) p.1 p.2).1 (nameP (List.take (Int.toNat (↑(wholeV d) : Int) - Int.toNat 0) (List.drop (Int.toNat 0) d)) p.1 p.2).2).1 + List.length (List.take (Int.toNat (↑d.length : Int) - Int.toNat (IntKind.wrap .i64 ((↑(wholeV d) : Int) + (↑(wholeV (List.take (Int.toNat (↑d.length : Int) - Int.toNat (↑(wholeV d) : Int)) (List.drop (Int.toNat (↑(wholeV d) : Int)) d))) : Int)))) (List.drop (Int.toNat (IntKind.wrap .i64 ((↑(wholeV d) : Int) + (↑(wholeV (List.take (Int.toNat (↑d.length : Int) - Int.toNat (↑(wholeV d) : Int)) (List.drop (Int.toNat (↑(wholeV d) : Int)) d))) : Int)))) d))) 9223372036854775807) (.ret ([.agg [.str ((nameP (List.take (Int.toNat (IntKind.wrap .i64 ((↑(wholeV d) : Int) + (↑(wholeV (List.take (Int.toNat (↑d.length : Int) - Int.toNat (↑(wholeV d) : Int)) (List.drop (Int.toNat (↑(wholeV d) : Int)) d))) : Int))) - Int.toNat (↑(wholeV d) : Int)) (List.drop (Int.toNat (↑(wholeV d) : Int)) d)) (nameP (List.take (Int.toNat (↑(wholeV d) : Int) - Int.toNat 0) (List.drop (Int.toNat 0) d)) p.1 p.2).1 (nameP (List.take (Int.toNat (↑(wholeV d) : Int) - Int.toNat 0) (List.drop (Int.toNat 0) d)) p.1 p.2).2).1 ++ List.take (Int.toNat (↑d.length : Int) - Int.toNat (IntKind.wrap .i64 ((↑(wholeV d) : Int) + (↑(wholeV (List.take (Int.toNat (↑d.length : Int) - Int.toNat (↑(wholeV d) : Int)) (List.drop (Int.toNat (↑(wholeV d) : Int)) d))) : Int)))) (List.drop (Int.toNat (IntKind.wrap .i64 ((↑(wholeV d) : Int) + (↑(wholeV (List.take (Int.toNat (↑d.length : Int) - Int.toNat (↑(wholeV d) : Int)) (List.drop (Int.toNat (↑(wholeV d) : Int)) d))) : Int)))) d)), .list (Ty.pair Ty.str (Ty.int .i64)) (nameP (List.take (Int.toNat (IntKind.wrap .i64 ((↑(wholeV d) : Int) + (↑(wholeV (List.take (Int.toNat (↑d.length : Int) - Int.toNat (↑(wholeV d) : Int)) (List.drop (Int.toNat (↑(wholeV d) : Int)) d))) : Int))) - Int.toNat (↑(wholeV d) : Int)) (List.drop (Int.toNat (↑(wholeV d) : Int)) d)) (nameP (List.take (Int.toNat (↑(wholeV d) : Int) - Int.toNat 0) (List.drop (Int.toNat 0) d)) p.1 p.2).1 (nameP (List.take (Int.toNat (↑(wholeV d) : Int) - Int.toNat 0) (List.drop (Int.toNat 0) d)) p.1 p.2).2).2], .int .i64 0], [])) .no) .no) .no) (.br (decide (0 ≤ (↑d.length : Int)) && decide ((↑d.length : Int) ≤ (↑d.length : Int))) (.br (decide (0 ≤ IntKind.wrap .i64 ((↑(wholeV d) : Int) + (↑(wholeV (List.take (Int.toNat (↑d.length : Int) - Int.toNat (↑(wholeV d) : Int)) (List.drop (Int.toNat (↑(wholeV d) : Int)) d))) : Int))) && decide (IntKind.wrap .i64 ((↑(wholeV d) : Int) + (↑(wholeV (List.take (Int.toNat (↑d.length : Int) - Int.toNat (↑(wholeV d) : Int)) (List.drop (Int.toNat (↑(wholeV d) : Int)) d))) : Int)) ≤ (↑d.length : Int))) (.br (Nat.ble (List.length (nameP (List.take (Int.toNat (↑(wholeV d) : Int) - Int.toNat 0) (List.drop (Int.toNat 0) d)) p.1 p.2).1 + List.length (List.take (Int.toNat (↑d.length : Int) - Int.toNat (IntKind.wrap .i64 ((↑(wholeV d) : Int) + (↑(wholeV (List.take (Int.toNat (↑d.length : Int) - Int.toNat (↑(wholeV d) : Int)) (List.drop (Int.toNat (↑(wholeV d) : Int)) d))) : Int)))) (List.drop (Int.toNat (IntKind.wrap .i64 ((↑(wholeV d) : Int) + (↑(wholeV (List.take (Int.toNat (↑d.length : Int) - Int.toNat (↑(wholeV d) : Int)) (List.drop (Int.toNat (↑(wholeV d) : Int)) d))) : Int)))) d))) 9223372036854775807) (.ret ([.agg [.str ((nameP (List.take (Int.toNat (↑(wholeV d) : Int) - Int.toNat 0) (List.drop (Int.toNat 0) d)) p.1 p.2).1 ++ List.take (Int.toNat (↑d.length : Int) - Int.toNat (IntKind.wrap .i64 ((↑(wholeV d) : Int) + (↑(wholeV (List.take (Int.toNat (↑d.length : Int) - Int.toNat (↑(wholeV d) : Int)) (List.drop (Int.toNat (↑(wholeV d) : Int)) d))) : Int)))) (List.drop (Int.toNat (IntKind.wrap .i64 ((↑(wholeV d) : Int) + (↑(wholeV (List.take (Int.toNat (↑d.length : Int) - Int.toNat (↑(wholeV d) : Int)) (List.drop (Int.toNat (↑(wholeV d) : Int)) d))) : Int)))) d)), .list (Ty.pair Ty.str (Ty.int .i64)) (nameP (List.take (Int.toNat (↑(wholeV d) : Int) - Int.toNat 0) (List.drop (Int.toNat 0) d)) p.1 p.2).2], .int .i64 0], [])) .no) .no) .no)) .no) .no) .no) (.br (decide (0 ≤ IntKind.wrap .i64 ((↑(wholeV d) : Int) + (↑(wholeV (List.take (Int.toNat (↑d.length : Int) - Int.toNat (↑(wholeV d) : Int)) (List.drop (Int.toNat (↑(wholeV d) : Int)) d))) : Int))) && decide (IntKind.wrap .i64 ((↑(wholeV d) : Int) + (↑(wholeV (List.take (Int.toNat (↑d.length : Int) - Int.toNat (↑(wholeV d) : Int)) (List.drop (Int.toNat (↑(wholeV d) : Int)) d))) : Int)) ≤ (↑d.length : Int))) (.br (decide (0 ≤ (↑(wholeV d) : Int)) && decide ((↑(wholeV d) : Int) ≤ IntKind.wrap .i64 ((↑(wholeV d) : Int) + (↑(wholeV (List.take (Int.toNat (↑d.length : Int) - Int.toNat (↑(wholeV d) : Int)) (List.drop (Int.toNat (↑(wholeV d) : Int)) d))) : Int)))) (.br (nmOk p (List.take (Int.toNat (IntKind.wrap .i64 ((↑(wholeV d) : Int) + (↑(wholeV (List.take (Int.toNat (↑d.length : Int) - Int.toNat (↑(wholeV d) : Int)) (List.drop (Int.toNat (↑(wholeV d) : Int)) d))) : Int))) - Int.toNat (↑(wholeV d) : Int)) (List.drop (Int.toNat (↑(wholeV d) : Int)) d))) (.br (mayV (List.take (Int.toNat (IntKind.wrap .i64 ((↑(wholeV d) : Int) + (↑(wholeV (List.take (Int.toNat (↑d.length : Int) - Int.toNat (↑(wholeV d) : Int)) (List.drop (Int.toNat (↑(wholeV d) : Int)) d))) : Int))) - Int.toNat (↑(wholeV d) : Int)) (List.drop (Int.toNat (↑(wholeV d) : Int)) d))) (.br (decide (0 ≤ (↑d.length : Int)) && decide ((↑d.length : Int) ≤ (↑d.length : Int))) (.br (decide (0 ≤ IntKind.wrap .i64 ((↑(wholeV d) : Int) + (↑(wholeV (List.take (Int.toNat (↑d.length : Int) - Int.toNat (↑(wholeV d) : Int)) (List.drop (Int.toNat (↑(wholeV d) : Int)) d))) : Int))) && decide (IntKind.wrap .i64 ((↑(wholeV d) : Int) + (↑(wholeV (List.take (Int.toNat (↑d.length : Int) - Int.toNat (↑(wholeV d) : Int)) (List.drop (Int.toNat (↑(wholeV d) : Int)) d))) : Int)) ≤ (↑d.length : Int))) (.br (Nat.ble (List.length (nameP (List.take (Int.toNat (IntKind.wrap .i64 ((↑(wholeV d) : Int) + (↑(wholeV (List.take (Int.toNat (↑d.length : Int) - Int.toNat (↑(wholeV d) : Int)) (List.drop (Int.toNat (↑(wholeV d) : Int)) d))) : Int))) - Int.toNat (↑(wholeV d) : Int)) (List.drop (Int.toNat (↑(wholeV d) : Int)) d)) p.1 p.2).1 + List.length (List.take (Int.toNat (↑d.length : Int) - Int.toNat (IntKind.wrap .i64 ((↑(wholeV d) : Int) + (↑(wholeV (List.take (Int.toNat (↑d.length : Int) - Int.toNat (↑(wholeV d) : Int)) (List.drop (Int.toNat (↑(wholeV d) : Int)) d))) : Int)))) (List.drop (Int.toNat (IntKind.wrap .i64 ((↑(wholeV d) : Int) + (↑(wholeV (List.take (Int.toNat (↑d.length : Int) - Int.toNat (↑(wholeV d) : Int)) (List.drop (Int.toNat (↑(wholeV d) : Int)) d))) : Int)))) d))) 9223372036854775807) (.ret ([.agg [.str ((nameP (List.take (Int.toNat (IntKind.wrap .i64 ((↑(wholeV d) : Int) + (↑(wholeV (List.take (Int.toNat (↑d.length : Int) - Int.toNat (↑(wholeV d) : Int)) (List.drop (Int.toNat (↑(wholeV d) : Int)) d))) : Int))) - Int.toNat (↑(wholeV d) : Int)) (List.drop (Int.toNat (↑(wholeV d) : Int)) d)) p.1 p.2).1 ++ List.take (Int.toNat (↑d.length : Int) - Int.toNat (IntKind.wrap .i64 ((↑(wholeV d) : Int) + (↑(wholeV (List.take (Int.toNat (↑d.length : Int) - Int.toNat (↑(wholeV d) : Int)) (List.drop (Int.toNat (↑(wholeV d) : Int)) d))) : Int)))) (List.drop (Int.toNat (IntKind.wrap .i64 ((↑(wholeV d) : Int) + (↑(wholeV (List.take (Int.toNat (↑d.length : Int) - Int.toNat (↑(wholeV d) : Int)) (List.drop (Int.toNat (↑(wholeV d) : Int)) d))) : Int)))) d)), .list (Ty.pair Ty.str (Ty.int .i64)) (nameP (List.take (Int.toNat (IntKind.wrap .i64 ((↑(wholeV d) : Int) + (↑(wholeV (List.take (Int.toNat (↑d.length : Int) - Int.toNat (↑(wholeV d) : Int)) (List.drop (Int.toNat (↑(wholeV d) : Int)) d))) : Int))) - Int.toNat (↑(wholeV d) : Int)) (List.drop (Int.toNat (↑(wholeV d) : Int)) d)) p.1 p.2).2], .int .i64 0], [])) .no) .no) .no) (.br (decide (0 ≤ (↑d.length : Int)) && decide ((↑d.length : Int) ≤ (↑d.length : Int))) (.br (decide (0 ≤ IntKind.wrap .i64 ((↑(wholeV d) : Int) + (↑(wholeV (List.take (Int.toNat (↑d.length : Int) - Int.toNat (↑(wholeV d) : Int)) (List.drop (Int.toNat (↑(wholeV d) : Int)) d))) : Int))) && decide (IntKind.wrap .i64 ((↑(wholeV d) : Int) + (↑(wholeV (List.take (Int.toNat (↑d.length : Int) - Int.toNat (↑(wholeV d) : Int)) (List.drop (Int.toNat (↑(wholeV d) : Int)) d))) : Int)) ≤ (↑d.length : Int))) (.br (Nat.ble (List.length p.1 + List.length (List.take (Int.toNat (↑d.length : Int) - Int.toNat (IntKind.wrap .i64 ((↑(wholeV d) : Int) + (↑(wholeV (List.take (Int.toNat (↑d.length : Int) - Int.toNat (↑(wholeV d) : Int)) (List.drop (Int.toNat (↑(wholeV d) : Int)) d))) : Int)))) (List.drop (Int.toNat (IntKind.wrap .i64 ((↑(wholeV d) : Int) + (↑(wholeV (List.take (Int.toNat (↑d.length : Int) - Int.toNat (↑(wholeV d) : Int)) (List.drop (Int.toNat (↑(wholeV d) : Int)) d))) : Int)))) d))) 9223372036854775807) (.ret ([.agg [.str (p.1 ++ List.take (Int.toNat (↑d.length : Int) - Int.toNat (IntKind.wrap .i64 ((↑(wholeV d) : Int) + (↑(wholeV (List.take (Int.toNat (↑d.length : Int) - Int.toNat (↑(wholeV d) : Int)) (List.drop (Int.toNat (↑(wholeV d) : Int)) d))) : Int)))) (List.drop (Int.toNat (IntKind.wrap .i64 ((↑(wholeV d) : Int) + (↑(wholeV (List.take (Int.toNat (↑d.length : Int) - Int.toNat (↑(wholeV d) : Int)) (List.drop (Int.toNat (↑(wholeV d) : Int)) d))) : Int)))) d)), .list (Ty.pair Ty.str (Ty.int .i64)) p.2], .int .i64 0], [])) .no) .no) .no)) .no) .no) .no)) .no) .no) .no) .no) .no) .no) (.br (Nat.ble (List.length p.1 + List.length d) 9223372036854775807) (.ret ([.agg [.str (p.1 ++ d), .list (Ty.pair Ty.str (Ty.int .i64)) p.2], .int .i64 0], [])) .no))))))) .no
def os149 : OSpec := { f := 149, sh := [.d (.pair .str (.list (.pair .str (.int .i64)))) true, .d (.int .u16) false, .d .str false], so := [], F := fun (p, k, d, _) _ => t149 p k d }
theorem fn149 (p : (List UInt8 × List (List UInt8 × Int))) (k : Int) (d : List UInt8) : evC TN (orcB [fs146w, fs154w, fs130w, fs131] []) (lpOf h149 0 (lsOf [])) c149 1000000 (startSt [AV.ofTy (.pair .str (.list (.pair .str (.int .i64)))) p true, .int .u16 k, .str d] [] Try.f149.ntmps) (finishK TN false 0 Try.f149) = (t149 p k d).get := by kernel_rfl
theorem ok149 : os149.Ok Try.prog := by
 refine os_ok mixed0 tabN (orcB_sound (all_cons okf146w (all_cons okf154w (all_cons okf130w (all_cons okf131 all_nil)))) all_nil) h149 (d := 0) (n0 := 0) (S := lsOf []) Try.func149 (by kernel_rfl) (c := c149) (by kernel_rfl) rfl (no_loops (by kernel_rfl)) (by omega) (by kernel_rfl) ?_
 intro x'' y'' q'' hq''
 obtain ⟨(p : (List UInt8 × List (List UInt8 × Int))), (k : Int), (d : List UInt8), _⟩ := x''
 exact (fn149 p k d).trans hq''
def fs149 : FSpec := fsT 149 [((.pair .str (.list (.pair .str (.int .i64)))), true), ((.int .u16), false), (.str, false)] [((.pair .str (.list (.pair .str (.int .i64)))), true), ((.int .i64), false)] fun (p, k, d, _) => t149 p k d
theorem okf149 : fs149.Ok Try.prog := fsT_ok fun x'' r'' hr'' => ok149 x'' () r'' hr''
theorem parts_SOA {d : List UInt8} (h : mayR 6 d = true) : partsV 6 d = [d.take (wholeV d), (d.drop (wholeV d)).take (wholeV (d.drop (wholeV d))), (d.drop (wholeV d)).drop (wholeV (d.drop (wholeV d)))] := by
 rw [may_SOA, Bool.and_eq_true, Bool.and_eq_true, Bool.and_eq_true, decide_eq_true_eq] at h
 obtain ⟨⟨h0, h1, h2⟩, _⟩ := h
 obtain ⟨e1, e2⟩ := okP_name d
 obtain ⟨e3, e4⟩ := okP_name (d.drop (wholeV d))
 obtain ⟨e5, e6⟩ := okP_fix (x := 20) (by omega) ((d.drop (wholeV d)).drop (wholeV (d.drop (wholeV d))))
 unfold partsV
 rw [show layV 6 = [-1, -1, 20] from rfl, cutS, e2, e1, if_pos h0, Int.toNat_natCast, cutS, e4, e3, if_pos h1, Int.toNat_natCast, cutS, e6, e5, if_pos (by rw [h2]; rfl), show (20 : Int).toNat = 20 from rfl, List.take_of_length_le (show ((d.drop (wholeV d)).drop (wholeV (d.drop (wholeV d)))).length ≤ 20 by omega)]
 rfl
theorem tk_end (d : List UInt8) (a : Nat) : List.take (Int.toNat (d.length : Int) - Int.toNat (a : Int)) (List.drop (Int.toNat (a : Int)) d) = d.drop a := by
 simp only [Int.toNat_natCast]
 exact List.take_of_length_le (by rw [List.length_drop]; omega)
theorem tk_end2 (d : List UInt8) (a b : Nat) : List.take (Int.toNat (d.length : Int) - Int.toNat ((a : Int) + (b : Int))) (List.drop (Int.toNat ((a : Int) + (b : Int))) d) = (d.drop a).drop b := by
 rw [show Int.toNat ((a : Int) + (b : Int)) = a + b by omega, List.drop_drop]
 exact List.take_of_length_le (by rw [List.length_drop]; omega)
theorem tk_mid (d : List UInt8) (a b : Nat) : List.take (Int.toNat ((a : Int) + (b : Int)) - Int.toNat (a : Int)) (List.drop (Int.toNat (a : Int)) d) = (d.drop a).take b := by
 rw [show Int.toNat ((a : Int) + (b : Int)) - Int.toNat (a : Int) = b by omega, Int.toNat_natCast]
theorem tk_beg (d : List UInt8) (a : Nat) : List.take (Int.toNat (a : Int) - Int.toNat (0 : Int)) (List.drop (Int.toNat (0 : Int)) d) = d.take a := by
 rw [show Int.toNat (a : Int) - Int.toNat (0 : Int) = a by omega, show Int.toNat (0 : Int) = 0 from rfl, List.drop_zero]
def ptOk (p : PKt) (d : List UInt8) : Bool := bigS d && (kOk p.2 && (Nat.ble p.1.length 1000000000 && Nat.ble p.2.length 1000000000))
theorem nmOk_of {p : PKt} {n : List UInt8} (hn : n.length ≤ 70000) (hk : kOk p.2 = true) (h1 : p.1.length ≤ 10000000000) (h2 : p.2.length ≤ 10000000000) : nmOk p n = true := by
 unfold nmOk
 rw [hk, show bigS n = true by simp [bigS]; omega, Nat.ble_eq_true_of_le h1, Nat.ble_eq_true_of_le h2]
 rfl
theorem nameP_k {p : PKt} {n : List UInt8} (hm : mayV n = true) (hk : kOk p.2 = true) : kOk (nameP n p.1 p.2).2 = true ∧ (nameP n p.1 p.2).1.length ≤ p.1.length + n.length ∧ (nameP n p.1 p.2).2.length ≤ p.2.length + n.length := by
 have hk2 := (stN_k (p := p) (x := (n, false)) hk).1
 unfold stN at hk2
 rw [show mayV (n, false).1 = true from hm, cond_true] at hk2
 obtain ⟨l1, _, l3⟩ := nameL_len _ n p.1 p.2 rfl (may_iff.1 hm).1
 exact ⟨hk2, by omega, by omega⟩
theorem putR_one {k x : Int} {d : List UInt8} {p : PKt} (hlay : layV k = [x]) (hx : (x == -1) = false) (h : mayR k d = true) : putR k d p = (p.1 ++ d, p.2) := by
 unfold putR
 rw [parts_one hlay h, hlay, putS, hx]
 rfl
theorem putR_name {k : Int} {d : List UInt8} {p : PKt} (hk : k = 2 ∨ k = 5 ∨ k = 12) (h : mayR k d = true) (hm : mayV d = true) : putR k d p = nameP d p.1 p.2 := by
 unfold putR
 rw [parts_name hk h, show layV k = [-1] by rcases hk with rfl | rfl | rfl <;> rfl, putS, putS]
 show (bif mayV d then nameP d p.1 p.2 else p) = _
 rw [hm, cond_true]
theorem putR_MX {d : List UInt8} {p : PKt} (h : mayR 15 d = true) (hm : mayV (d.drop 2) = true) : putR 15 d p = nameP (d.drop 2) (p.1 ++ d.take 2) p.2 := by
 unfold putR
 rw [parts_MX h, show layV 15 = [2, -1] from rfl, putS, putS, putS]
 show (bif mayV (d.drop 2) then nameP (d.drop 2) (p.1 ++ d.take 2) p.2 else _) = _
 rw [hm, cond_true]
theorem putR_SOA {d x y z : List UInt8} {p : PKt} (hp : partsV 6 d = [x, y, z]) (hx : mayV x = true) (hy : mayV y = true) : putR 6 d p = ((nameP y (nameP x p.1 p.2).1 (nameP x p.1 p.2).2).1 ++ z, (nameP y (nameP x p.1 p.2).1 (nameP x p.1 p.2).2).2) := by
 unfold putR
 rw [hp, show layV 6 = [-1, -1, 20] from rfl, putS, putS, putS, putS]
 have e1 : stN p (List.headD [x, y, z] [], false) = nameP x p.1 p.2 := by
  show (bif mayV x then nameP x p.1 p.2 else p) = _
  rw [hx, cond_true]
 rw [show ((-1 : Int) == -1) = true from rfl, show ((20 : Int) == -1) = false from rfl, cond_true, cond_true, cond_false, e1]
 have e2 : stN (nameP x p.1 p.2) (List.headD [x, y, z].tail [], false) = nameP y (nameP x p.1 p.2).1 (nameP x p.1 p.2).2 := by
  show (bif mayV y then nameP y (nameP x p.1 p.2).1 (nameP x p.1 p.2).2 else _) = _
  rw [hy, cond_true]
 rw [e2]
 rfl
def pkV (p : PKt) (e : Int) : Res := ([.agg [.str p.1, .list (.pair .str (.int .i64)) p.2], .int .i64 e], [])
theorem put4_all (p : PKt) (k : Int) (d : List UInt8) (h : ptOk p d = true) : Tr.all (fun r : Res => r = bif mayR k d then pkV (putR k d p) 0 else pkV p 1) (t149 p k d) := by
 simp only [ptOk, Bool.and_eq_true] at h
 obtain ⟨hd, hk, h1, h2⟩ := h
 have h1 := Nat.le_of_ble_eq_true h1
 have h2 := Nat.le_of_ble_eq_true h2
 have hlen : d.length ≤ 1000000000000 := by simpa [bigS] using hd
 unfold t149
 cases hm : mayR k d with
 | false => exact Tr.all_t hd (Tr.all_t rfl (Tr.all_ret rfl))
 | true =>
   rw [cond_true]
   have h65 := (may_parts hm).2.2.1
   have hname : (k = 2 ∨ k = 5 ∨ k = 12) → mayV d = true ∧ nmOk p d = true ∧ putR k d p = nameP d p.1 p.2 := fun hk3 => by
    have h3 := hm
    rw [may_name hk3, Bool.and_eq_true] at h3
    exact ⟨h3.1, nmOk_of (by omega) hk (by omega) (by omega), putR_name hk3 hm h3.1⟩
   refine Tr.all_t hd (Tr.all_f rfl ?_)
   refine Tr.all_br (fun c => ?_) fun c2 => Tr.all_br (fun c => ?_) fun c5 => Tr.all_br (fun c => ?_) fun c12 => Tr.all_br (fun c => ?_) fun c15 => Tr.all_br (fun c => ?_) fun c6 => ?_
   · obtain ⟨a, b, e⟩ := hname (.inl (beq_iff_eq.1 c))
     rw [e]; exact Tr.all_t b (Tr.all_t a (Tr.all_ret rfl))
   · obtain ⟨a, b, e⟩ := hname (.inr (.inl (beq_iff_eq.1 c)))
     rw [e]; exact Tr.all_t b (Tr.all_t a (Tr.all_ret rfl))
   · obtain ⟨a, b, e⟩ := hname (.inr (.inr (beq_iff_eq.1 c)))
     rw [e]; exact Tr.all_t b (Tr.all_t a (Tr.all_ret rfl))
   · obtain rfl := beq_iff_eq.1 c
     have h3 := hm
     rw [may_MX, Bool.and_eq_true, Bool.and_eq_true, decide_eq_true_eq] at h3
     obtain ⟨⟨h3, h4⟩, _⟩ := h3
     have e1 : List.take (Int.toNat (d.length : Int) - Int.toNat (2 : Int)) (List.drop (Int.toNat (2 : Int)) d) = d.drop 2 := tk_end d 2
     have e2 : List.take (Int.toNat (2 : Int) - Int.toNat (0 : Int)) (List.drop (Int.toNat (0 : Int)) d) = d.take 2 := tk_beg d 2
     rw [e1, e2, putR_MX hm h4]
     have hl2 := List.length_drop (l := d) (i := 2)
     have hl3 := List.length_take (l := d) (i := 2)
     exact Tr.all_t (by rw [dec_true (by omega), dec_true (by omega)]; rfl) (Tr.all_t (Nat.ble_eq_true_of_le (by omega)) (Tr.all_t (by rw [dec_true (by omega), dec_true (by omega)]; rfl) (Tr.all_t (by rw [dec_true (by omega), dec_true (by omega)]; rfl) (Tr.all_t (nmOk_of (by omega) hk (by rw [List.length_append]; omega) (show p.2.length ≤ _ by omega)) (Tr.all_t h4 (Tr.all_ret rfl))))))
   · obtain rfl := beq_iff_eq.1 c
     have h3 := hm
     rw [may_SOA, Bool.and_eq_true, Bool.and_eq_true, Bool.and_eq_true, decide_eq_true_eq] at h3
     obtain ⟨⟨h3, h4, h5⟩, _⟩ := h3
     have m1 := whole_may (d := d) (by simpa using h3)
     have m2 := whole_may (d := d.drop (wholeV d)) (by simpa using h4)
     have l1 := wholeV_le d
     have l2 := wholeV_le (d.drop (wholeV d))
     have l3 := List.length_drop (l := d) (i := wholeV d)
     rw [tk_end, IntWalk.i64_in ((wholeV d : Int) + (wholeV (d.drop (wholeV d)) : Int)) (by omega), tk_end2, tk_mid, tk_beg, putR_SOA (parts_SOA hm) m1 m2]
     generalize wholeV (d.drop (wholeV d)) = b at *
     generalize wholeV d = a at *
     have l4 := List.length_take (l := d) (i := a)
     have l5 := List.length_take (l := d.drop a) (i := b)
     obtain ⟨k1, k2, k3⟩ := nameP_k m1 hk
     obtain ⟨k4, k5, k6⟩ := nameP_k m2 k1
     refine Tr.all_t ?_ (Tr.all_t ?_ (Tr.all_t ?_ (Tr.all_t ?_ (Tr.all_t ?_ (Tr.all_t (nmOk_of (by omega) hk (by omega) (by omega)) (Tr.all_t m1 (Tr.all_t ?_ (Tr.all_t ?_ (Tr.all_t (nmOk_of (by omega) k1 (by omega) (by omega)) (Tr.all_t m2 (Tr.all_t ?_ (Tr.all_t ?_ (Tr.all_t (Nat.ble_eq_true_of_le (by omega)) (Tr.all_ret rfl))))))))))))))
     all_goals first | (rw [dec_true (by omega), dec_true (by omega)]; rfl) | (simp [bigS]; omega) | exact hd
   · have hx : ∃ x, layV k = [x] ∧ (x == -1) = false := by
       have h2 : k ≠ 2 := by simpa using c2
       have h5 : k ≠ 5 := by simpa using c5
       have h12 : k ≠ 12 := by simpa using c12
       have h15 : k ≠ 15 := by simpa using c15
       have h6 : k ≠ 6 := by simpa using c6
       unfold layV
       by_cases a1 : k = 1
       · exact ⟨_, if_pos a1, rfl⟩
       rw [if_neg a1]
       by_cases a2 : k = 28
       · exact ⟨_, if_pos a2, rfl⟩
       rw [if_neg a2, if_neg (by omega), if_neg h15, if_neg h6]
       by_cases a3 : k = 16
       · exact ⟨_, if_pos a3, rfl⟩
       · exact ⟨_, if_neg a3, rfl⟩
     obtain ⟨x, e1, e2⟩ := hx
     rw [putR_one e1 e2 hm]
     exact Tr.all_t (Nat.ble_eq_true_of_le (by omega)) (Tr.all_ret rfl)
def fs149w : FSpec := fs149.like fun (p, k, d, _) => .br (ptOk p d) (.br (mayR k d) (.ret (putR k d p, (0 : Int), ())) (.ret (p, (1 : Int), ()))) .no
theorem okf149w : fs149w.Ok Try.prog := by
 refine flike_ok okf149 _ ?_
 rintro ⟨(p : List UInt8 × Known), (k : Int), (d : List UInt8), _⟩ y h
 simp only [Tr.get] at h
 cases hc : ptOk p d with
 | false => rw [hc] at h; cases h
 | true =>
   rw [hc, cond_true] at h
   have ha := put4_all p k d hc
   cases hm : mayR k d with
   | false =>
     rw [hm, cond_false] at h ha
     cases h
     exact convR_of (vs := (pkV p 1).1) rfl rfl (Tr.get_of_all ha)
   | true =>
     rw [hm, cond_true] at h ha
     cases h
     exact convR_of (vs := (pkV (putR k d p) 0).1) rfl rfl (Tr.get_of_all ha)
theorem putS_len2 : ∀ (ps : List Int) (ls : List (List UInt8)) (p : PKt), (putS ps ls p).2.length ≤ p.2.length + ls.flatten.length
 | [], _, p => by simp [putS]
 | x :: ps, ls, p => by
   rw [putS]
   have hl : ls.flatten.length = (ls.headD []).length + ls.tail.flatten.length := by cases ls <;> simp
   cases hx : x == -1 with
   | true =>
     have q2 := putS_len2 ps ls.tail (stN p (ls.headD [], false))
     rw [cond_true, hl]
     have k2 : (stN p (ls.headD [], false)).2.length ≤ p.2.length + (ls.headD []).length := by
      show (bif mayV (ls.headD []) then nameP (ls.headD []) p.1 p.2 else p).2.length ≤ _
      cases hm : mayV (ls.headD []) with
      | false => rw [cond_false]; omega
      | true =>
        rw [cond_true]
        obtain ⟨_, _, l3⟩ := nameL_len _ (ls.headD []) p.1 p.2 rfl (may_iff.1 hm).1
        omega
     omega
   | false =>
     have q2 : (putS ps ls.tail (p.1 ++ ls.headD [], p.2)).2.length ≤ p.2.length + ls.tail.flatten.length := putS_len2 ps ls.tail (p.1 ++ ls.headD [], p.2)
     rw [cond_false, hl]
     omega
theorem putR_len {k : Int} {d : List UInt8} {p : PKt} (hm : mayR k d = true) (hk : kOk p.2 = true) : kOk (putR k d p).2 = true ∧ (putR k d p).1.length ≤ p.1.length + d.length ∧ (putR k d p).2.length ≤ p.2.length + d.length := by
 obtain ⟨q1, q2⟩ := putS_len (layV k) (partsV k d) p hk
 have q3 := putS_len2 (layV k) (partsV k d) p
 rw [(may_parts hm).2.2.2.2.2] at q2 q3
 exact ⟨q1, q2, q3⟩
theorem wrapU16 (n : Int) : IntKind.wrap .u16 n = n % 65536 := IntKind.wrap_u16 n
def closeB (b : List Int) (a : Int) : List Int := b.take (a - 2).toNat ++ bytesInt (put16 (((b.length : Int) - a) % 65536)) ++ b.drop a.toNat
def os141w : OSpec := os141.like fun _ (_, b, l, _) => .on (Nat.ble b.length 100000000000) ([.int .i64 ((b.length : Int) + 2)], pkO (b ++ [0, 0]) l)
theorem ok141w : os141w.Ok Try.prog := by
 refine like_ok ok141 _ ?_
 rintro _ ⟨_, (b : List Int), (l : Known), _⟩ r h
 obtain ⟨hb, rfl⟩ := Tr.get_on h
 have hb := Nat.le_of_ble_eq_true hb
 refine Tr.get_of_all ?_
 show (t141 b l).all _
 have e : bytesInt (put16 0) = [0, 0] := by decide
 unfold t141
 rw [e]
 refine Tr.all_t (fits_true (by simp [put16_len]; omega) (by simp [put16_len]; omega)) (Tr.all_ret ?_)
 simp
def os143w : OSpec := os143.like fun (a, _) (_, b, l, _) => .br (Nat.ble b.length 100000000000) (.br (decide (2 ≤ a) && decide (a ≤ (b.length : Int))) (.ret ([.int .i64 0], pkO (closeB b a) l)) (.ret ([.int .i64 1], pkO b l))) .no
theorem ok143w : os143w.Ok Try.prog := by
 refine like_ok ok143 _ ?_
 rintro ⟨(a : Int), _⟩ ⟨_, (b : List Int), (l : Known), _⟩ r h
 simp only [Tr.get] at h
 cases hb : Nat.ble b.length 100000000000 with
 | false => rw [hb] at h; cases h
 | true =>
   rw [hb, cond_true] at h
   have hb := Nat.le_of_ble_eq_true hb
   refine Tr.get_of_all ?_
   show (t143 a b l).all _
   unfold t143
   by_cases h2 : 2 ≤ a
   · by_cases h3 : a ≤ (b.length : Int)
     · rw [dec_true h2, dec_true h3] at h
       cases h
       have hw := wrapU16 ((b.length : Int) - a)
       rw [IntWalk.i64_in (a - 2) (by omega), IntWalk.i64_in ((b.length : Int) - a) (by omega), hw]
       refine Tr.all_f (dec_false (by omega)) (Tr.all_f (dec_false (by omega)) (Tr.all_t (by rw [dec_true (by omega), dec_true (by omega)]; rfl) (Tr.all_t (by rw [dec_true (by omega), dec_true (by omega)]; rfl) (Tr.all_t ?_ (Tr.all_ret ?_)))))
       · simp [n16C]; omega
       · unfold closeB
         rw [show a.toNat - (a - 2).toNat = 2 by omega, put16_len, show min 2 2 = 2 from rfl, show (a - 2).toNat + 2 = a.toNat by omega, List.take_of_length_le (l := bytesInt (put16 _)) (by rw [bytesInt_len, put16_len]; exact Nat.le_refl _)]
     · rw [dec_true h2, dec_false h3] at h
       cases h
       exact Tr.all_f (dec_false (by omega)) (Tr.all_t (dec_true (by omega)) (Tr.all_ret rfl))
   · rw [dec_false h2] at h
     cases h
     exact Tr.all_t (dec_true (by omega)) (Tr.all_ret rfl)
def btC4 (n many m i : Int) (b : List Int) : Bool := decide (many = 4) && (decide (m = 4) && (decide (i = 0) && decide (b = [0, 0, 0, 0])))
def byN4 (n : Int) (k : Nat) : Int := IntKind.wrap .u8 (Int.fdiv n (2 ^ (8 * k)))
noncomputable def b121f : Code := nthLoop c121 0
def ls121f : LoopSpec := { bid := 0, sh := [.d (.int .u32) false, .d (.int .i64) false, .row 0, .d (.int .i64) false, .d (.int .i64) false], so := [.row (.int .u8)], F := fun (n, many, m, i, _) (b, _) => .on (btC4 n many m i b) (.exit 0, [.rowA 0], [.row (.int .u8) [byN4 n 3, byN4 n 2, byN4 n 1, byN4 n 0]]) }
def r121f (n many m i : Int) (b : List Int) : Tr (St ⊕ (Ex × St)) := .br (decide (i < m)) (.br (decide (0 ≤ IntKind.wrap .i64 (8 * i))) (.br (decide (0 ≤ IntKind.wrap .i64 (IntKind.wrap .i64 (many - 1) - i))) (.br (decide (IntKind.wrap .i64 (IntKind.wrap .i64 (many - 1) - i) < (↑b.length : Int))) (.ret (.inl (stOf [0, 1, 5, 9, 10] [.int .u32 n, .int .i64 many, .rowA 0, .int .i64 m, .int .i64 (IntKind.wrap .i64 (i + 1))] [.row (.int .u8) (List.set b (Int.toNat (IntKind.wrap .i64 (IntKind.wrap .i64 (many - 1) - i))) (IntKind.wrap .u8 (Int.fdiv n (2 ^ min (Int.toNat (IntKind.wrap .i64 (8 * i))) (IntKind.bits IntKind.u32)))))]))) .no) .no) .no) (.ret (.inr (.exit 0, stOf [5] [.rowA 0] [.row (.int .u8) b])))
theorem round121f (orc : Orc) (lp : Lp) (n many m i : Int) (b : List Int) : evC T0 orc lp b121f 0 (stOf [0, 1, 5, 9, 10] [.int .u32 n, .int .i64 many, .rowA 0, .int .i64 m, .int .i64 i] [.row (.int .u8) b]) (roundK [0, 1, 5, 9, 10] [5] 0) = (r121f n many m i b).get := by kernel_rfl
theorem wf121f (orc : Orc) (n many m : Int) (I'' : Int → List Int → Prop) (m'' : Int → List Int → Nat) (r'' : Ex × St) (h : ∀ (i : Int) (b : List Int), I'' i b → (r121f n many m i b).all fun x'' => x'' = .inr r'' ∨ ∃ (i' : Int) (b' : List Int), x'' = .inl (stOf [0, 1, 5, 9, 10] [.int .u32 n, .int .i64 many, .rowA 0, .int .i64 m, .int .i64 i'] [.row (.int .u8) b']) ∧ I'' i' b' ∧ m'' i' b' < m'' i b) (lp : Lp) (i : Int) (b : List Int) : I'' i b →
    loopF (fun st => evC T0 orc lp b121f 0 st (roundK [0, 1, 5, 9, 10] [5] 0)) (stOf [0, 1, 5, 9, 10] [.int .u32 n, .int .i64 many, .rowA 0, .int .i64 m, .int .i64 i] [.row (.int .u8) b]) = some r'' :=
 loop_tr (fun a'' : Int × List Int => stOf [0, 1, 5, 9, 10] [.int .u32 n, .int .i64 many, .rowA 0, .int .i64 m, .int .i64 a''.1] [.row (.int .u8) a''.2]) (fun a'' => I'' a''.1 a''.2) (fun a'' => m'' a''.1 a''.2) r'' (fun a'' => r121f n many m a''.1 a''.2)
  (fun a'' x hx => (round121f orc lp n many m a''.1 a''.2).trans hx) (fun a'' ha => Tr.all_mono (fun x'' hx => hx.imp id fun ⟨i', b', h1, h2, h3⟩ => ⟨(i', b'), h1, h2, h3⟩) (h (a''.1) (a''.2) ha)) (i, b)
theorem byN4_eq {n : Int} (h : 0 ≤ n) (k : Nat) : Int.fdiv n (2 ^ k) = n / 2 ^ k := Int.fdiv_eq_ediv_of_nonneg _ (by have : (0 : Int) < 2 ^ k := Int.pow_pos (by omega); omega)
theorem loop121f (orc : Orc) : ls121f.Ok T0 orc h121 0 0 b121f := by
 intro q'' hq'' x'' y'' r'' h
 obtain ⟨(n : Int), (many : Int), (m : Int), (i : Int), _⟩ := x''
 obtain ⟨(b : List Int), _⟩ := y''
 obtain ⟨hc, rfl⟩ := Tr.get_on h
 show loopF (fun st => evC T0 orc (lpN T0 orc h121 0 q'') b121f 0 st (roundK [0, 1, 5, 9, 10] [5] 0)) (stOf [0, 1, 5, 9, 10] [.int .u32 n, .int .i64 many, .rowA 0, .int .i64 m, .int .i64 i] [.row (.int .u8) b]) = some (.exit 0, stOf [5] ([.rowA 0]) ([.row (.int .u8) [byN4 n 3, byN4 n 2, byN4 n 1, byN4 n 0]]))
 simp only [btC4, Bool.and_eq_true, decide_eq_true_eq] at hc
 obtain ⟨rfl, rfl, rfl, rfl⟩ := hc
 refine wf121f _ n 4 4 (fun i b => (i = 0 ∧ b = [0, 0, 0, 0]) ∨ (i = 1 ∧ b = [0, 0, 0, byN4 n 0]) ∨ (i = 2 ∧ b = [0, 0, byN4 n 1, byN4 n 0]) ∨ (i = 3 ∧ b = [0, byN4 n 2, byN4 n 1, byN4 n 0]) ∨ (i = 4 ∧ b = [byN4 n 3, byN4 n 2, byN4 n 1, byN4 n 0])) (fun i _ => (4 - i).toNat) _ ?_ _ 0 [0, 0, 0, 0] (.inl ⟨rfl, rfl⟩)
 rintro i b (⟨rfl, rfl⟩ | ⟨rfl, rfl⟩ | ⟨rfl, rfl⟩ | ⟨rfl, rfl⟩ | ⟨rfl, rfl⟩)
 · exact Tr.all_t rfl (Tr.all_t (by decide) (Tr.all_t (by decide) (Tr.all_t (by decide) (Tr.all_ret (.inr ⟨_, _, rfl, .inr (.inl ⟨by decide, rfl⟩), by decide⟩)))))
 · exact Tr.all_t rfl (Tr.all_t (by decide) (Tr.all_t (by decide) (Tr.all_t rfl (Tr.all_ret (.inr ⟨_, _, rfl, .inr (.inr (.inl ⟨by decide, rfl⟩)), by decide⟩)))))
 · exact Tr.all_t rfl (Tr.all_t (by decide) (Tr.all_t (by decide) (Tr.all_t rfl (Tr.all_ret (.inr ⟨_, _, rfl, .inr (.inr (.inr (.inl ⟨by decide, rfl⟩))), by decide⟩)))))
 · exact Tr.all_t rfl (Tr.all_t (by decide) (Tr.all_t (by decide) (Tr.all_t rfl (Tr.all_ret (.inr ⟨_, _, rfl, .inr (.inr (.inr (.inr ⟨by decide, rfl⟩))), by decide⟩)))))
 · exact Tr.all_f rfl (Tr.all_ret (.inl rfl))
def t121f (n many : Int) : Tr Res := .br (decide (0 ≤ many) && many == many && fits many.toNat 1) (.br (btC4 n many many 0 (List.replicate many.toNat (Ty.dflt (Ty.int .u8)))) (.ret ([.str [UInt8.ofNat (Int.toNat (byN4 n 3)), UInt8.ofNat (Int.toNat (byN4 n 2)), UInt8.ofNat (Int.toNat (byN4 n 1)), UInt8.ofNat (Int.toNat (byN4 n 0))]], [])) .no) .no
def os121f : OSpec := { f := 121, sh := [.d (.int .u32) false, .d (.int .i64) false], so := [], F := fun (n, many, _) _ => t121f n many }
theorem fn121f (n many : Int) : evC T0 (orcB [] []) (lpOf h121 0 (lsOf [ls121f])) c121 1000000 (startSt [.int .u32 n, .int .i64 many] [] Try.f121.ntmps) (finishK T0 false 0 Try.f121) = (t121f n many).get := by kernel_rfl
theorem ok121f : os121f.Ok Try.prog := by
 refine os_ok mixed0 tab0 (orcB_sound all_nil all_nil) h121 (d := 0) (n0 := 0) (S := lsOf [ls121f]) Try.func121 (by kernel_rfl) (c := c121) (by kernel_rfl) rfl (loops_eq (xs := [(0, b121f)]) (by kernel_rfl) (all_cons (ls_here (loop121f _)) all_nil)) (by omega) (by kernel_rfl) ?_
 intro x'' y'' q'' hq''
 obtain ⟨(n : Int), (many : Int), _⟩ := x''
 exact (fn121f n many).trans hq''
def fs121f : FSpec := fsT 121 [((.int .u32), false), ((.int .i64), false)] [(.str, false)] fun (n, many, _) => t121f n many
theorem okf121f : fs121f.Ok Try.prog := fsT_ok fun x'' r'' hr'' => ok121f x'' () r'' hr''
def t140 (n : Int) : Tr Res := .ret ([.str [UInt8.ofNat (Int.toNat (byN4 n 3)), UInt8.ofNat (Int.toNat (byN4 n 2)), UInt8.ofNat (Int.toNat (byN4 n 1)), UInt8.ofNat (Int.toNat (byN4 n 0))]], [])
def os140 : OSpec := { f := 140, sh := [.d (.int .u32) false], so := [], F := fun (n, _) _ => t140 n }
theorem fn140 (n : Int) : evC T0 (orcB [fs121f] []) (lpOf h140 0 (lsOf [])) c140 1000000 (startSt [.int .u32 n] [] Try.f140.ntmps) (finishK T0 false 0 Try.f140) = (t140 n).get := by kernel_rfl
theorem ok140 : os140.Ok Try.prog := by
 refine os_ok mixed0 tab0 (orcB_sound (all_cons okf121f all_nil) all_nil) h140 (d := 0) (n0 := 0) (S := lsOf []) Try.func140 (by kernel_rfl) (c := c140) (by kernel_rfl) rfl (no_loops (by kernel_rfl)) (by omega) (by kernel_rfl) ?_
 intro x'' y'' q'' hq''
 obtain ⟨(n : Int), _⟩ := x''
 exact (fn140 n).trans hq''
def fs140 : FSpec := fsT 140 [((.int .u32), false)] [(.str, false)] fun (n, _) => t140 n
theorem okf140 : fs140.Ok Try.prog := fsT_ok fun x'' r'' hr'' => ok140 x'' () r'' hr''
def t148 (n : Int) : Tr Res := .br (n16C (IntKind.wrap .u16 (IntKind.wrap .u32 (Int.tdiv n 65536)))) (.br (n16C (IntKind.wrap .u16 (Int.tmod n 65536))) (.ret ([.str [UInt8.ofNat (Int.toNat (IntKind.wrap .u16 (IntKind.wrap .u32 (Int.tdiv n 65536)) / 256)), UInt8.ofNat (Int.toNat (IntKind.wrap .u16 (IntKind.wrap .u32 (Int.tdiv n 65536)) % 256)), UInt8.ofNat (Int.toNat (IntKind.wrap .u16 (Int.tmod n 65536) / 256)), UInt8.ofNat (Int.toNat (IntKind.wrap .u16 (Int.tmod n 65536) % 256))]], [])) .no) .no
def os148 : OSpec := { f := 148, sh := [.d (.int .u32) false], so := [], F := fun (n, _) _ => t148 n }
theorem fn148 (n : Int) : evC T0 (orcB [fs129w] []) (lpOf h148 0 (lsOf [])) c148 1000000 (startSt [.int .u32 n] [] Try.f148.ntmps) (finishK T0 false 0 Try.f148) = (t148 n).get := by kernel_rfl
theorem ok148 : os148.Ok Try.prog := by
 refine os_ok mixed0 tab0 (orcB_sound (all_cons okf129w all_nil) all_nil) h148 (d := 0) (n0 := 0) (S := lsOf []) Try.func148 (by kernel_rfl) (c := c148) (by kernel_rfl) rfl (no_loops (by kernel_rfl)) (by omega) (by kernel_rfl) ?_
 intro x'' y'' q'' hq''
 obtain ⟨(n : Int), _⟩ := x''
 exact (fn148 n).trans hq''
def fs148 : FSpec := fsT 148 [((.int .u32), false)] [(.str, false)] fun (n, _) => t148 n
theorem okf148 : fs148.Ok Try.prog := fsT_ok fun x'' r'' hr'' => ok148 x'' () r'' hr''
def put32 (n : Int) : List UInt8 := put16 (n / 65536) ++ put16 (n % 65536)
def n32C (n : Int) : Bool := decide (0 ≤ n) && decide (n ≤ 4294967295)
def fs140w : FSpec := fs140.like fun (n, _) => .on (n32C n) (put32 n, ())
theorem okf140w : fs140w.Ok Try.prog := by
 refine flike_ok okf140 _ ?_
 rintro ⟨(n : Int), _⟩ y h
 obtain ⟨hc, rfl⟩ := Tr.get_on h
 simp only [n32C, Bool.and_eq_true, decide_eq_true_eq] at hc
 refine convR_of (vs := [.str (put32 n)]) rfl rfl (Tr.get_of_all ?_)
 show (t140 n).all _
 unfold t140
 have e : intBytes [byN4 n 3, byN4 n 2, byN4 n 1, byN4 n 0] = put32 n := by
  unfold byN4
  rw [byN4_eq hc.1, byN4_eq hc.1, byN4_eq hc.1, byN4_eq hc.1]
  simp only [IntKind.wrap_u8]
  unfold intBytes put32 put16
  simp only [List.map_cons, List.map_nil, List.cons_append, List.nil_append]
  have e1 : n / 2 ^ (8 * 3) % 256 = n / 65536 / 256 := by
   rw [show (2 : Int) ^ (8 * 3) = 16777216 from rfl]; omega
  have e2 : n / 2 ^ (8 * 2) % 256 = n / 65536 % 256 := by rw [show (2 : Int) ^ (8 * 2) = 65536 from rfl]
  have e3 : n / 2 ^ (8 * 1) % 256 = n % 65536 / 256 := by rw [show (2 : Int) ^ (8 * 1) = 256 from rfl]; omega
  have e4 : n / 2 ^ (8 * 0) % 256 = n % 65536 % 256 := by rw [show (2 : Int) ^ (8 * 0) = 1 from rfl]; omega
  rw [e1, e2, e3, e4]
 refine Tr.all_ret ?_
 rw [← e]
 rfl
def fs148w : FSpec := fs148.like fun (n, _) => .on (n32C n) (put32 n, ())
theorem okf148w : fs148w.Ok Try.prog := by
 refine flike_ok okf148 _ ?_
 rintro ⟨(n : Int), _⟩ y h
 obtain ⟨hc, rfl⟩ := Tr.get_on h
 simp only [n32C, Bool.and_eq_true, decide_eq_true_eq] at hc
 refine convR_of (vs := [.str (put32 n)]) rfl rfl (Tr.get_of_all ?_)
 show (t148 n).all _
 unfold t148
 have e1 : IntKind.wrap .u16 (IntKind.wrap .u32 (Int.tdiv n 65536)) = n / 65536 := by
  rw [Int.tdiv_eq_ediv_of_nonneg hc.1, IntWalk.u32_in _ (by omega), IntWalk.u16_in _ (by omega)]
 have e2 : IntKind.wrap .u16 (Int.tmod n 65536) = n % 65536 := by
  rw [Int.tmod_eq_emod_of_nonneg hc.1, IntWalk.u16_in _ (by omega)]
 rw [e1, e2]
 exact Tr.all_t (by simp [n16C]; omega) (Tr.all_t (by simp [n16C]; omega) (Tr.all_ret rfl))
def t101 (q : QQt) (b : List Int) (m : List (List UInt8 × Int)) : Tr Res := .br (bigS q.1) (.br (!mayV q.1) (.ret ([.int .i64 1], [.boxT none [.rowA 1, .mp 2], .row (.int .u8) b, .mpo .str (.int .i64) m])) (.br (pkC b m && Nat.ble q.1.length 100000000000) (.br (mayV q.1) (.br (n16C q.2.1) (.br (n16C q.2.2) (.br (fits (List.length (bytesInt (nameP q.1 (intBytes b) m).1) + List.length (bytesInt (put16 q.2.1 ++ put16 q.2.2))) 1) (.ret ([.int .i64 0], [.boxT none [.rowA 1, .mp 2], .row (.int .u8) (bytesInt (nameP q.1 (intBytes b) m).1 ++ bytesInt (put16 q.2.1 ++ put16 q.2.2)), .mpo .str (.int .i64) (nameP q.1 (intBytes b) m).2])) .no) .no) .no) (.br (n16C q.2.1) (.br (n16C q.2.2) (.br (fits (List.length b + List.length (bytesInt (put16 q.2.1 ++ put16 q.2.2))) 1) (.ret ([.int .i64 0], [.boxT none [.rowA 1, .mp 2], .row (.int .u8) (b ++ bytesInt (put16 q.2.1 ++ put16 q.2.2)), .mpo .str (.int .i64) m])) .no) .no) .no)) .no)) .no
def os101 : OSpec := { f := 101, sh := [.ptr 0 0, .d QQ true], so := [.box [.row 1, .mp 2], .row (.int .u8), .map .str (.int .i64)], F := fun (q, _) (_, b, m, _) => t101 q b m }
theorem fn101 (q : QQt) (b : List Int) (m : List (List UInt8 × Int)) : evC T0 (orcB [fs59w, fs32w, fs99w] [os123w, os98]) (lpOf h101 3 (lsOf [])) c101 1000000 (startSt [.ptr 0 0, AV.ofTy QQ q true] [.box [.rowA 1, .mp 2], .row (.int .u8) b, .mpo .str (.int .i64) m] Try.f101.ntmps) (finishK T0 false 3 Try.f101) = (t101 q b m).get := by kernel_rfl
theorem ok101 : os101.Ok Try.prog := by
 refine os_ok mixed0 tab0 (orcB_sound (all_cons okf59w (all_cons okf32w (all_cons okf99w all_nil))) (all_cons ok123w (all_cons ok98 all_nil))) h101 (d := 0) (n0 := 3) (S := lsOf []) Try.func101 (by kernel_rfl) (c := c101) (by kernel_rfl) rfl (no_loops (by kernel_rfl)) (by omega) (by kernel_rfl) ?_
 intro x'' y'' q'' hq''
 obtain ⟨(q : QQt), _⟩ := x''
 obtain ⟨_, (b : List Int), (m : List (List UInt8 × Int)), _⟩ := y''
 exact (fn101 q b m).trans hq''
def t108 (p : (List UInt8 × List (List UInt8 × Int))) (q : QQt) : Tr Res := .br (bigS q.1) (.br (!mayV q.1) (.ret ([.agg [.str p.1, .list (Ty.pair Ty.str (Ty.int .i64)) p.2], .int .i64 1], [])) (.br (nmOk p q.1) (.br (mayV q.1) (.br (n16C q.2.1) (.br (n16C q.2.2) (.br (Nat.ble (List.length (nameP q.1 p.1 p.2).1 + List.length (put16 q.2.1 ++ put16 q.2.2)) 9223372036854775807) (.ret ([.agg [.str ((nameP q.1 p.1 p.2).1 ++ (put16 q.2.1 ++ put16 q.2.2)), .list (Ty.pair Ty.str (Ty.int .i64)) (nameP q.1 p.1 p.2).2], .int .i64 0], [])) .no) .no) .no) (.br (n16C q.2.1) (.br (n16C q.2.2) (.br (Nat.ble (List.length p.1 + List.length (put16 q.2.1 ++ put16 q.2.2)) 9223372036854775807) (.ret ([.agg [.str (p.1 ++ (put16 q.2.1 ++ put16 q.2.2)), .list (Ty.pair Ty.str (Ty.int .i64)) p.2], .int .i64 0], [])) .no) .no) .no)) .no)) .no
def os108 : OSpec := { f := 108, sh := [.d (.pair .str (.list (.pair .str (.int .i64)))) true, .d QQ true], so := [], F := fun (p, q, _) _ => t108 p q }
theorem fn108 (p : (List UInt8 × List (List UInt8 × Int))) (q : QQt) : evC T0 (orcB [fs105w, fs130w, fs131, fs129w] []) (lpOf h108 0 (lsOf [])) c108 1000000 (startSt [AV.ofTy (.pair .str (.list (.pair .str (.int .i64)))) p true, AV.ofTy QQ q true] [] Try.f108.ntmps) (finishK T0 false 0 Try.f108) = (t108 p q).get := by kernel_rfl
theorem ok108 : os108.Ok Try.prog := by
 refine os_ok mixed0 tab0 (orcB_sound (all_cons okf105w (all_cons okf130w (all_cons okf131 (all_cons okf129w all_nil)))) all_nil) h108 (d := 0) (n0 := 0) (S := lsOf []) Try.func108 (by kernel_rfl) (c := c108) (by kernel_rfl) rfl (no_loops (by kernel_rfl)) (by omega) (by kernel_rfl) ?_
 intro x'' y'' q'' hq''
 obtain ⟨(p : (List UInt8 × List (List UInt8 × Int))), (q : QQt), _⟩ := x''
 exact (fn108 p q).trans hq''
def fs108 : FSpec := fsT 108 [((.pair .str (.list (.pair .str (.int .i64)))), true), (QQ, true)] [((.pair .str (.list (.pair .str (.int .i64)))), true), ((.int .i64), false)] fun (p, q, _) => t108 p q
theorem okf108 : fs108.Ok Try.prog := fsT_ok fun x'' r'' hr'' => ok108 x'' () r'' hr''
def qOk (q : QQt) : Bool := Nat.ble q.1.length 1000000 && (n16C q.2.1 && n16C q.2.2)
def qB (q : QQt) : List UInt8 := put16 q.2.1 ++ put16 q.2.2
def putQ (q : QQt) (p : PKt) : PKt := ((nameP q.1 p.1 p.2).1 ++ qB q, (nameP q.1 p.1 p.2).2)
theorem qB_len (q : QQt) : (qB q).length = 4 := rfl
theorem qOk_iff {q : QQt} : qOk q = true ↔ q.1.length ≤ 1000000 ∧ n16C q.2.1 = true ∧ n16C q.2.2 = true := by
 unfold qOk
 rw [Bool.and_eq_true, Bool.and_eq_true]
 exact ⟨fun ⟨a, b⟩ => ⟨Nat.le_of_ble_eq_true a, b⟩, fun ⟨a, b⟩ => ⟨Nat.ble_eq_true_of_le a, b⟩⟩
theorem pkT_iff {b : List Int} {m : Known} : pkT b m = true ↔ bytesOk b = true ∧ kOk m = true ∧ b.length ≤ 1000000000 := by
 unfold pkT
 rw [Bool.and_eq_true, Bool.and_eq_true]
 exact ⟨fun ⟨a, b, c⟩ => ⟨a, b, Nat.le_of_ble_eq_true c⟩, fun ⟨a, b, c⟩ => ⟨a, b, Nat.ble_eq_true_of_le c⟩⟩
def os101w : OSpec := os101.like fun (q, _) (_, b, m, _) => .br (pkT b m && qOk q) (.br (mayV q.1) (.ret ([.int .i64 0], pkO (bytesInt (putQ q (intBytes b, m)).1) (putQ q (intBytes b, m)).2)) (.ret ([.int .i64 1], pkO b m))) .no
theorem ok101w : os101w.Ok Try.prog := by
 refine like_ok ok101 _ ?_
 rintro ⟨(q : QQt), _⟩ ⟨_, (b : List Int), (m : Known), _⟩ r h
 simp only [Tr.get] at h
 cases hc : pkT b m && qOk q with
 | false => rw [hc] at h; cases h
 | true =>
   rw [hc, cond_true] at h
   obtain ⟨h1, h2⟩ := Bool.and_eq_true_iff.1 hc
   obtain ⟨b1, b2, b3⟩ := pkT_iff.1 h1
   obtain ⟨q1, q2, q3⟩ := qOk_iff.1 h2
   refine Tr.get_of_all ?_
   show (t101 q b m).all _
   unfold t101
   cases hm : mayV q.1 with
   | false =>
     rw [hm, cond_false] at h
     cases h
     exact Tr.all_t (len_big (by omega)) (Tr.all_t rfl (Tr.all_ret rfl))
   | true =>
     rw [hm, cond_true] at h
     cases h
     obtain ⟨_, k2, _⟩ := nameP_k (p := (intBytes b, m)) hm b2
     have hl := intB_len b
     have k2 : (nameP q.1 (intBytes b) m).1.length ≤ (intBytes b).length + q.1.length := k2
     refine Tr.all_t (len_big (by omega)) (Tr.all_f rfl (Tr.all_t ?_ (Tr.all_t rfl (Tr.all_t q2 (Tr.all_t q3 (Tr.all_t ?_ (Tr.all_ret ?_)))))))
     · unfold pkC
       rw [b1, b2, Nat.ble_eq_true_of_le (by omega), Nat.ble_eq_true_of_le (by omega)]
       rfl
     · have e : (bytesInt (put16 q.2.1 ++ put16 q.2.2)).length = 4 := rfl
       exact fits_true (by rw [bytesInt_len, e]; omega) (by rw [bytesInt_len, e]; omega)
     · rw [← bytesInt_app]
       rfl
def fs108w : FSpec := fs108.like fun (p, q, _) => .br (ptOk p q.1 && qOk q) (.br (mayV q.1) (.ret (putQ q p, (0 : Int), ())) (.ret (p, (1 : Int), ()))) .no
theorem ptOk_iff {p : PKt} {d : List UInt8} : ptOk p d = true ↔ bigS d = true ∧ kOk p.2 = true ∧ p.1.length ≤ 1000000000 ∧ p.2.length ≤ 1000000000 := by
 unfold ptOk
 rw [Bool.and_eq_true, Bool.and_eq_true, Bool.and_eq_true]
 exact ⟨fun ⟨a, b, c, d⟩ => ⟨a, b, Nat.le_of_ble_eq_true c, Nat.le_of_ble_eq_true d⟩, fun ⟨a, b, c, d⟩ => ⟨a, b, Nat.ble_eq_true_of_le c, Nat.ble_eq_true_of_le d⟩⟩
theorem okf108w : fs108w.Ok Try.prog := by
 refine flike_ok okf108 _ ?_
 rintro ⟨(p : PKt), (q : QQt), _⟩ y h
 simp only [Tr.get] at h
 cases hc : ptOk p q.1 && qOk q with
 | false => rw [hc] at h; cases h
 | true =>
   rw [hc, cond_true] at h
   obtain ⟨h1, h2⟩ := Bool.and_eq_true_iff.1 hc
   obtain ⟨p0, p1, p2, p3⟩ := ptOk_iff.1 h1
   obtain ⟨q1, q2, q3⟩ := qOk_iff.1 h2
   cases hm : mayV q.1 with
   | false =>
     rw [hm, cond_false] at h
     cases h
     refine convR_of (vs := [AV.agg [.str p.1, .list (.pair .str (.int .i64)) p.2], .int .i64 1]) rfl rfl (Tr.get_of_all ?_)
     show (t108 p q).all _
     unfold t108
     rw [hm]
     exact Tr.all_t p0 (Tr.all_t rfl (Tr.all_ret rfl))
   | true =>
     rw [hm, cond_true] at h
     cases h
     refine convR_of (vs := [AV.agg [.str (putQ q p).1, .list (.pair .str (.int .i64)) (putQ q p).2], .int .i64 0]) rfl rfl (Tr.get_of_all ?_)
     show (t108 p q).all _
     unfold t108
     rw [hm]
     obtain ⟨_, k2, _⟩ := nameP_k (p := p) hm p1
     have e : (put16 q.2.1 ++ put16 q.2.2).length = 4 := rfl
     have hn1 := (may_iff.1 hm).2.1
     exact Tr.all_t p0 (Tr.all_f rfl (Tr.all_t (nmOk_of (by omega) p1 (by omega) (by omega)) (Tr.all_t rfl (Tr.all_t q2 (Tr.all_t q3 (Tr.all_t (Nat.ble_eq_true_of_le (by rw [e]; omega)) (Tr.all_ret rfl)))))))
def t124 (r : RRt) (b : List Int) (m : List (List UInt8 × Int)) : Tr Res := .br (rrBig r) (.br (!recV r) (.ret ([.int .i64 1], [.boxT none [.rowA 1, .mp 2], .row (.int .u8) b, .mpo .str (.int .i64) m])) (.br (pkC b m && Nat.ble r.1.length 100000000000) (.br (mayV r.1) (.br (n16C r.2.1) (.br (n16C r.2.2.1) (.br (n32C r.2.2.2.1) (.br (fits (List.length (bytesInt (nameP r.1 (intBytes b) m).1) + List.length (bytesInt (put16 r.2.1 ++ put16 r.2.2.1 ++ put32 r.2.2.2.1))) 1) (.br (Nat.ble (List.length (bytesInt (nameP r.1 (intBytes b) m).1 ++ bytesInt (put16 r.2.1 ++ put16 r.2.2.1 ++ put32 r.2.2.2.1))) 100000000000) (.br (pkT (bytesInt (nameP r.1 (intBytes b) m).1 ++ bytesInt (put16 r.2.1 ++ put16 r.2.2.1 ++ put32 r.2.2.2.1) ++ [(0 : Ty.den (Ty.int .u8)), (0 : Ty.den (Ty.int .u8))]) (nameP r.1 (intBytes b) m).2 && Nat.ble r.2.2.2.2.length 1000000) (.br (mayR r.2.1 r.2.2.2.2) (.br (Nat.ble (List.length (bytesInt (putR r.2.1 r.2.2.2.2 (intBytes (bytesInt (nameP r.1 (intBytes b) m).1 ++ bytesInt (put16 r.2.1 ++ put16 r.2.2.1 ++ put32 r.2.2.2.1) ++ [(0 : Ty.den (Ty.int .u8)), (0 : Ty.den (Ty.int .u8))]), (nameP r.1 (intBytes b) m).2)).1)) 100000000000) (.br (decide ((2 : Ty.den (Ty.int .i64)) ≤ (↑(List.length (bytesInt (nameP r.1 (intBytes b) m).1 ++ bytesInt (put16 r.2.1 ++ put16 r.2.2.1 ++ put32 r.2.2.2.1))) : Int) + 2) && decide ((↑(List.length (bytesInt (nameP r.1 (intBytes b) m).1 ++ bytesInt (put16 r.2.1 ++ put16 r.2.2.1 ++ put32 r.2.2.2.1))) : Int) + 2 ≤ (↑(List.length (bytesInt (putR r.2.1 r.2.2.2.2 (intBytes (bytesInt (nameP r.1 (intBytes b) m).1 ++ bytesInt (put16 r.2.1 ++ put16 r.2.2.1 ++ put32 r.2.2.2.1) ++ [(0 : Ty.den (Ty.int .u8)), (0 : Ty.den (Ty.int .u8))]), (nameP r.1 (intBytes b) m).2)).1)) : Int))) (.ret ([.int .i64 0], [.boxT none [.rowA 1, .mp 2], .row (.int .u8) (closeB (bytesInt (putR r.2.1 r.2.2.2.2 (intBytes (bytesInt (nameP r.1 (intBytes b) m).1 ++ bytesInt (put16 r.2.1 ++ put16 r.2.2.1 ++ put32 r.2.2.2.1) ++ [(0 : Ty.den (Ty.int .u8)), (0 : Ty.den (Ty.int .u8))]), (nameP r.1 (intBytes b) m).2)).1) ((↑(List.length (bytesInt (nameP r.1 (intBytes b) m).1 ++ bytesInt (put16 r.2.1 ++ put16 r.2.2.1 ++ put32 r.2.2.2.1))) : Int) + 2)), .mpo .str (.int .i64) (putR r.2.1 r.2.2.2.2 (intBytes (bytesInt (nameP r.1 (intBytes b) m).1 ++ bytesInt (put16 r.2.1 ++ put16 r.2.2.1 ++ put32 r.2.2.2.1) ++ [(0 : Ty.den (Ty.int .u8)), (0 : Ty.den (Ty.int .u8))]), (nameP r.1 (intBytes b) m).2)).2])) (.ret ([.int .i64 1], [.boxT none [.rowA 1, .mp 2], .row (.int .u8) (bytesInt (putR r.2.1 r.2.2.2.2 (intBytes (bytesInt (nameP r.1 (intBytes b) m).1 ++ bytesInt (put16 r.2.1 ++ put16 r.2.2.1 ++ put32 r.2.2.2.1) ++ [(0 : Ty.den (Ty.int .u8)), (0 : Ty.den (Ty.int .u8))]), (nameP r.1 (intBytes b) m).2)).1), .mpo .str (.int .i64) (putR r.2.1 r.2.2.2.2 (intBytes (bytesInt (nameP r.1 (intBytes b) m).1 ++ bytesInt (put16 r.2.1 ++ put16 r.2.2.1 ++ put32 r.2.2.2.1) ++ [(0 : Ty.den (Ty.int .u8)), (0 : Ty.den (Ty.int .u8))]), (nameP r.1 (intBytes b) m).2)).2]))) .no) (.br (Nat.ble (List.length (bytesInt (nameP r.1 (intBytes b) m).1 ++ bytesInt (put16 r.2.1 ++ put16 r.2.2.1 ++ put32 r.2.2.2.1) ++ [(0 : Ty.den (Ty.int .u8)), (0 : Ty.den (Ty.int .u8))])) 100000000000) (.br (decide ((2 : Ty.den (Ty.int .i64)) ≤ (↑(List.length (bytesInt (nameP r.1 (intBytes b) m).1 ++ bytesInt (put16 r.2.1 ++ put16 r.2.2.1 ++ put32 r.2.2.2.1))) : Int) + 2) && decide ((↑(List.length (bytesInt (nameP r.1 (intBytes b) m).1 ++ bytesInt (put16 r.2.1 ++ put16 r.2.2.1 ++ put32 r.2.2.2.1))) : Int) + 2 ≤ (↑(List.length (bytesInt (nameP r.1 (intBytes b) m).1 ++ bytesInt (put16 r.2.1 ++ put16 r.2.2.1 ++ put32 r.2.2.2.1) ++ [(0 : Ty.den (Ty.int .u8)), (0 : Ty.den (Ty.int .u8))])) : Int))) (.ret ([.int .i64 0], [.boxT none [.rowA 1, .mp 2], .row (.int .u8) (closeB (bytesInt (nameP r.1 (intBytes b) m).1 ++ bytesInt (put16 r.2.1 ++ put16 r.2.2.1 ++ put32 r.2.2.2.1) ++ [(0 : Ty.den (Ty.int .u8)), (0 : Ty.den (Ty.int .u8))]) ((↑(List.length (bytesInt (nameP r.1 (intBytes b) m).1 ++ bytesInt (put16 r.2.1 ++ put16 r.2.2.1 ++ put32 r.2.2.2.1))) : Int) + 2)), .mpo .str (.int .i64) (nameP r.1 (intBytes b) m).2])) (.ret ([.int .i64 1], [.boxT none [.rowA 1, .mp 2], .row (.int .u8) (bytesInt (nameP r.1 (intBytes b) m).1 ++ bytesInt (put16 r.2.1 ++ put16 r.2.2.1 ++ put32 r.2.2.2.1) ++ [(0 : Ty.den (Ty.int .u8)), (0 : Ty.den (Ty.int .u8))]), .mpo .str (.int .i64) (nameP r.1 (intBytes b) m).2]))) .no)) .no) .no) .no) .no) .no) .no) (.br (n16C r.2.1) (.br (n16C r.2.2.1) (.br (n32C r.2.2.2.1) (.br (fits (List.length b + List.length (bytesInt (put16 r.2.1 ++ put16 r.2.2.1 ++ put32 r.2.2.2.1))) 1) (.br (Nat.ble (List.length (b ++ bytesInt (put16 r.2.1 ++ put16 r.2.2.1 ++ put32 r.2.2.2.1))) 100000000000) (.br (pkT (b ++ bytesInt (put16 r.2.1 ++ put16 r.2.2.1 ++ put32 r.2.2.2.1) ++ [(0 : Ty.den (Ty.int .u8)), (0 : Ty.den (Ty.int .u8))]) m && Nat.ble r.2.2.2.2.length 1000000) (.br (mayR r.2.1 r.2.2.2.2) (.br (Nat.ble (List.length (bytesInt (putR r.2.1 r.2.2.2.2 (intBytes (b ++ bytesInt (put16 r.2.1 ++ put16 r.2.2.1 ++ put32 r.2.2.2.1) ++ [(0 : Ty.den (Ty.int .u8)), (0 : Ty.den (Ty.int .u8))]), m)).1)) 100000000000) (.br (decide ((2 : Ty.den (Ty.int .i64)) ≤ (↑(List.length (b ++ bytesInt (put16 r.2.1 ++ put16 r.2.2.1 ++ put32 r.2.2.2.1))) : Int) + 2) && decide ((↑(List.length (b ++ bytesInt (put16 r.2.1 ++ put16 r.2.2.1 ++ put32 r.2.2.2.1))) : Int) + 2 ≤ (↑(List.length (bytesInt (putR r.2.1 r.2.2.2.2 (intBytes (b ++ bytesInt (put16 r.2.1 ++ put16 r.2.2.1 ++ put32 r.2.2.2.1) ++ [(0 : Ty.den (Ty.int .u8)), (0 : Ty.den (Ty.int .u8))]), m)).1)) : Int))) (.ret ([.int .i64 0], [.boxT none [.rowA 1, .mp 2], .row (.int .u8) (closeB (bytesInt (putR r.2.1 r.2.2.2.2 (intBytes (b ++ bytesInt (put16 r.2.1 ++ put16 r.2.2.1 ++ put32 r.2.2.2.1) ++ [(0 : Ty.den (Ty.int .u8)), (0 : Ty.den (Ty.int .u8))]), m)).1) ((↑(List.length (b ++ bytesInt (put16 r.2.1 ++ put16 r.2.2.1 ++ put32 r.2.2.2.1))) : Int) + 2)), .mpo .str (.int .i64) (putR r.2.1 r.2.2.2.2 (intBytes (b ++ bytesInt (put16 r.2.1 ++ put16 r.2.2.1 ++ put32 r.2.2.2.1) ++ [(0 : Ty.den (Ty.int .u8)), (0 : Ty.den (Ty.int .u8))]), m)).2])) (.ret ([.int .i64 1], [.boxT none [.rowA 1, .mp 2], .row (.int .u8) (bytesInt (putR r.2.1 r.2.2.2.2 (intBytes (b ++ bytesInt (put16 r.2.1 ++ put16 r.2.2.1 ++ put32 r.2.2.2.1) ++ [(0 : Ty.den (Ty.int .u8)), (0 : Ty.den (Ty.int .u8))]), m)).1), .mpo .str (.int .i64) (putR r.2.1 r.2.2.2.2 (intBytes (b ++ bytesInt (put16 r.2.1 ++ put16 r.2.2.1 ++ put32 r.2.2.2.1) ++ [(0 : Ty.den (Ty.int .u8)), (0 : Ty.den (Ty.int .u8))]), m)).2]))) .no) (.br (Nat.ble (List.length (b ++ bytesInt (put16 r.2.1 ++ put16 r.2.2.1 ++ put32 r.2.2.2.1) ++ [(0 : Ty.den (Ty.int .u8)), (0 : Ty.den (Ty.int .u8))])) 100000000000) (.br (decide ((2 : Ty.den (Ty.int .i64)) ≤ (↑(List.length (b ++ bytesInt (put16 r.2.1 ++ put16 r.2.2.1 ++ put32 r.2.2.2.1))) : Int) + 2) && decide ((↑(List.length (b ++ bytesInt (put16 r.2.1 ++ put16 r.2.2.1 ++ put32 r.2.2.2.1))) : Int) + 2 ≤ (↑(List.length (b ++ bytesInt (put16 r.2.1 ++ put16 r.2.2.1 ++ put32 r.2.2.2.1) ++ [(0 : Ty.den (Ty.int .u8)), (0 : Ty.den (Ty.int .u8))])) : Int))) (.ret ([.int .i64 0], [.boxT none [.rowA 1, .mp 2], .row (.int .u8) (closeB (b ++ bytesInt (put16 r.2.1 ++ put16 r.2.2.1 ++ put32 r.2.2.2.1) ++ [(0 : Ty.den (Ty.int .u8)), (0 : Ty.den (Ty.int .u8))]) ((↑(List.length (b ++ bytesInt (put16 r.2.1 ++ put16 r.2.2.1 ++ put32 r.2.2.2.1))) : Int) + 2)), .mpo .str (.int .i64) m])) (.ret ([.int .i64 1], [.boxT none [.rowA 1, .mp 2], .row (.int .u8) (b ++ bytesInt (put16 r.2.1 ++ put16 r.2.2.1 ++ put32 r.2.2.2.1) ++ [(0 : Ty.den (Ty.int .u8)), (0 : Ty.den (Ty.int .u8))]), .mpo .str (.int .i64) m]))) .no)) .no) .no) .no) .no) .no) .no)) .no)) .no
def os124 : OSpec := { f := 124, sh := [.ptr 0 0, .d RR true], so := [.box [.row 1, .mp 2], .row (.int .u8), .map .str (.int .i64)], F := fun (r, _) (_, b, m, _) => t124 r b m }
theorem fn124 (r : RRt) (b : List Int) (m : List (List UInt8 × Int)) : evC T0 (orcB [fs32w, fs99w, fs140w] [os123w, os98, os141w, os143w, os142w]) (lpOf h124 3 (lsOf [])) c124 1000000 (startSt [.ptr 0 0, AV.ofTy RR r true] [.box [.rowA 1, .mp 2], .row (.int .u8) b, .mpo .str (.int .i64) m] Try.f124.ntmps) (finishK T0 false 3 Try.f124) = (t124 r b m).get := by kernel_rfl
theorem ok124 : os124.Ok Try.prog := by
 refine os_ok mixed0 tab0 (orcB_sound (all_cons okf32w (all_cons okf99w (all_cons okf140w all_nil))) (all_cons ok123w (all_cons ok98 (all_cons ok141w (all_cons ok143w (all_cons ok142w all_nil)))))) h124 (d := 0) (n0 := 3) (S := lsOf []) Try.func124 (by kernel_rfl) (c := c124) (by kernel_rfl) rfl (no_loops (by kernel_rfl)) (by omega) (by kernel_rfl) ?_
 intro x'' y'' q'' hq''
 obtain ⟨(r : RRt), _⟩ := x''
 obtain ⟨_, (b : List Int), (m : List (List UInt8 × Int)), _⟩ := y''
 exact (fn124 r b m).trans hq''
def t132 (p : (List UInt8 × List (List UInt8 × Int))) (r : RRt) : Tr Res := .br (rrBig r) (.br (!recV r) (.ret ([.agg [.str p.1, .list (Ty.pair Ty.str (Ty.int .i64)) p.2], .int .i64 1], [])) (.br (ptOk p r.1 && qOk (r.1, r.2.1, r.2.2.1)) (.br (mayV r.1) (.br (n32C r.2.2.2.1) (.br (Nat.ble (List.length (putQ (r.1, r.2.1, r.2.2.1) p).1 + List.length (put32 r.2.2.2.1 ++ [0, 0])) 9223372036854775807) (.br (ptOk ((putQ (r.1, r.2.1, r.2.2.1) p).1 ++ (put32 r.2.2.2.1 ++ [0, 0]), (putQ (r.1, r.2.1, r.2.2.1) p).2) r.2.2.2.2) (.br (mayR r.2.1 r.2.2.2.2) (.br (decide (0 ≤ IntKind.wrap .i64 ((↑(List.length ((putQ (r.1, r.2.1, r.2.2.1) p).1 ++ (put32 r.2.2.2.1 ++ [0, 0]))) : Int) - 2)) && decide (IntKind.wrap .i64 ((↑(List.length ((putQ (r.1, r.2.1, r.2.2.1) p).1 ++ (put32 r.2.2.2.1 ++ [0, 0]))) : Int) - 2) ≤ (↑(List.length (putR r.2.1 r.2.2.2.2 ((putQ (r.1, r.2.1, r.2.2.1) p).1 ++ (put32 r.2.2.2.1 ++ [0, 0]), (putQ (r.1, r.2.1, r.2.2.1) p).2)).1) : Int))) (.br (decide (0 ≤ 0) && decide (0 ≤ IntKind.wrap .i64 ((↑(List.length ((putQ (r.1, r.2.1, r.2.2.1) p).1 ++ (put32 r.2.2.2.1 ++ [0, 0]))) : Int) - 2))) (.br (n16C (IntKind.wrap .u16 (IntKind.wrap .i64 ((↑(List.length (putR r.2.1 r.2.2.2.2 ((putQ (r.1, r.2.1, r.2.2.1) p).1 ++ (put32 r.2.2.2.1 ++ [0, 0]), (putQ (r.1, r.2.1, r.2.2.1) p).2)).1) : Int) - (↑(List.length ((putQ (r.1, r.2.1, r.2.2.1) p).1 ++ (put32 r.2.2.2.1 ++ [0, 0]))) : Int))))) (.br (Nat.ble (List.length (List.take (Int.toNat (IntKind.wrap .i64 ((↑(List.length ((putQ (r.1, r.2.1, r.2.2.1) p).1 ++ (put32 r.2.2.2.1 ++ [0, 0]))) : Int) - 2)) - Int.toNat 0) (List.drop (Int.toNat 0) (putR r.2.1 r.2.2.2.2 ((putQ (r.1, r.2.1, r.2.2.1) p).1 ++ (put32 r.2.2.2.1 ++ [0, 0]), (putQ (r.1, r.2.1, r.2.2.1) p).2)).1)) + List.length (put16 (IntKind.wrap .u16 (IntKind.wrap .i64 ((↑(List.length (putR r.2.1 r.2.2.2.2 ((putQ (r.1, r.2.1, r.2.2.1) p).1 ++ (put32 r.2.2.2.1 ++ [0, 0]), (putQ (r.1, r.2.1, r.2.2.1) p).2)).1) : Int) - (↑(List.length ((putQ (r.1, r.2.1, r.2.2.1) p).1 ++ (put32 r.2.2.2.1 ++ [0, 0]))) : Int)))))) 9223372036854775807) (.br (decide (0 ≤ (↑(List.length (putR r.2.1 r.2.2.2.2 ((putQ (r.1, r.2.1, r.2.2.1) p).1 ++ (put32 r.2.2.2.1 ++ [0, 0]), (putQ (r.1, r.2.1, r.2.2.1) p).2)).1) : Int)) && decide ((↑(List.length (putR r.2.1 r.2.2.2.2 ((putQ (r.1, r.2.1, r.2.2.1) p).1 ++ (put32 r.2.2.2.1 ++ [0, 0]), (putQ (r.1, r.2.1, r.2.2.1) p).2)).1) : Int) ≤ (↑(List.length (putR r.2.1 r.2.2.2.2 ((putQ (r.1, r.2.1, r.2.2.1) p).1 ++ (put32 r.2.2.2.1 ++ [0, 0]), (putQ (r.1, r.2.1, r.2.2.1) p).2)).1) : Int))) (.br (decide (0 ≤ (↑(List.length ((putQ (r.1, r.2.1, r.2.2.1) p).1 ++ (put32 r.2.2.2.1 ++ [0, 0]))) : Int)) && decide ((↑(List.length ((putQ (r.1, r.2.1, r.2.2.1) p).1 ++ (put32 r.2.2.2.1 ++ [0, 0]))) : Int) ≤ (↑(List.length (putR r.2.1 r.2.2.2.2 ((putQ (r.1, r.2.1, r.2.2.1) p).1 ++ (put32 r.2.2.2.1 ++ [0, 0]), (putQ (r.1, r.2.1, r.2.2.1) p).2)).1) : Int))) (.br (Nat.ble (List.length (List.take (Int.toNat (IntKind.wrap .i64 ((↑(List.length ((putQ (r.1, r.2.1, r.2.2.1) p).1 ++ (put32 r.2.2.2.1 ++ [0, 0]))) : Int) - 2)) - Int.toNat 0) (List.drop (Int.toNat 0) (putR r.2.1 r.2.2.2.2 ((putQ (r.1, r.2.1, r.2.2.1) p).1 ++ (put32 r.2.2.2.1 ++ [0, 0]), (putQ (r.1, r.2.1, r.2.2.1) p).2)).1) ++ put16 (IntKind.wrap .u16 (IntKind.wrap .i64 ((↑(List.length (putR r.2.1 r.2.2.2.2 ((putQ (r.1, r.2.1, r.2.2.1) p).1 ++ (put32 r.2.2.2.1 ++ [0, 0]), (putQ (r.1, r.2.1, r.2.2.1) p).2)).1) : Int) - (↑(List.length ((putQ (r.1, r.2.1, r.2.2.1) p).1 ++ (put32 r.2.2.2.1 ++ [0, 0]))) : Int))))) + List.length (List.take (Int.toNat (↑(List.length (putR r.2.1 r.2.2.2.2 ((putQ (r.1, r.2.1, r.2.2.1) p).1 ++ (put32 r.2.2.2.1 ++ [0, 0]), (putQ (r.1, r.2.1, r.2.2.1) p).2)).1) : Int) - Int.toNat (↑(List.length ((putQ (r.1, r.2.1, r.2.2.1) p).1 ++ (put32 r.2.2.2.1 ++ [0, 0]))) : Int)) (List.drop (Int.toNat (↑(List.length ((putQ (r.1, r.2.1, r.2.2.1) p).1 ++ (put32 r.2.2.2.1 ++ [0, 0]))) : Int)) (putR r.2.1 r.2.2.2.2 ((putQ (r.1, r.2.1, r.2.2.1) p).1 ++ (put32 r.2.2.2.1 ++ [0, 0]), (putQ (r.1, r.2.1, r.2.2.1) p).2)).1))) 9223372036854775807) (.ret ([.agg [.str (List.take (Int.toNat (IntKind.wrap .i64 ((↑(List.length ((putQ (r.1, r.2.1, r.2.2.1) p).1 ++ (put32 r.2.2.2.1 ++ [0, 0]))) : Int) - 2)) - Int.toNat 0) (List.drop (Int.toNat 0) (putR r.2.1 r.2.2.2.2 ((putQ (r.1, r.2.1, r.2.2.1) p).1 ++ (put32 r.2.2.2.1 ++ [0, 0]), (putQ (r.1, r.2.1, r.2.2.1) p).2)).1) ++ put16 (IntKind.wrap .u16 (IntKind.wrap .i64 ((↑(List.length (putR r.2.1 r.2.2.2.2 ((putQ (r.1, r.2.1, r.2.2.1) p).1 ++ (put32 r.2.2.2.1 ++ [0, 0]), (putQ (r.1, r.2.1, r.2.2.1) p).2)).1) : Int) - (↑(List.length ((putQ (r.1, r.2.1, r.2.2.1) p).1 ++ (put32 r.2.2.2.1 ++ [0, 0]))) : Int)))) ++ List.take (Int.toNat (↑(List.length (putR r.2.1 r.2.2.2.2 ((putQ (r.1, r.2.1, r.2.2.1) p).1 ++ (put32 r.2.2.2.1 ++ [0, 0]), (putQ (r.1, r.2.1, r.2.2.1) p).2)).1) : Int) - Int.toNat (↑(List.length ((putQ (r.1, r.2.1, r.2.2.1) p).1 ++ (put32 r.2.2.2.1 ++ [0, 0]))) : Int)) (List.drop (Int.toNat (↑(List.length ((putQ (r.1, r.2.1, r.2.2.1) p).1 ++ (put32 r.2.2.2.1 ++ [0, 0]))) : Int)) (putR r.2.1 r.2.2.2.2 ((putQ (r.1, r.2.1, r.2.2.1) p).1 ++ (put32 r.2.2.2.1 ++ [0, 0]), (putQ (r.1, r.2.1, r.2.2.1) p).2)).1)), .list (Ty.pair Ty.str (Ty.int .i64)) (putR r.2.1 r.2.2.2.2 ((putQ (r.1, r.2.1, r.2.2.1) p).1 ++ (put32 r.2.2.2.1 ++ [0, 0]), (putQ (r.1, r.2.1, r.2.2.1) p).2)).2], .int .i64 0], [])) .no) .no) .no) .no) .no) .no) .no) (.br (decide (0 ≤ IntKind.wrap .i64 ((↑(List.length ((putQ (r.1, r.2.1, r.2.2.1) p).1 ++ (put32 r.2.2.2.1 ++ [0, 0]))) : Int) - 2)) && decide (IntKind.wrap .i64 ((↑(List.length ((putQ (r.1, r.2.1, r.2.2.1) p).1 ++ (put32 r.2.2.2.1 ++ [0, 0]))) : Int) - 2) ≤ (↑(List.length ((putQ (r.1, r.2.1, r.2.2.1) p).1 ++ (put32 r.2.2.2.1 ++ [0, 0]))) : Int))) (.br (decide (0 ≤ 0) && decide (0 ≤ IntKind.wrap .i64 ((↑(List.length ((putQ (r.1, r.2.1, r.2.2.1) p).1 ++ (put32 r.2.2.2.1 ++ [0, 0]))) : Int) - 2))) (.br (n16C (IntKind.wrap .u16 (IntKind.wrap .i64 ((↑(List.length ((putQ (r.1, r.2.1, r.2.2.1) p).1 ++ (put32 r.2.2.2.1 ++ [0, 0]))) : Int) - (↑(List.length ((putQ (r.1, r.2.1, r.2.2.1) p).1 ++ (put32 r.2.2.2.1 ++ [0, 0]))) : Int))))) (.br (Nat.ble (List.length (List.take (Int.toNat (IntKind.wrap .i64 ((↑(List.length ((putQ (r.1, r.2.1, r.2.2.1) p).1 ++ (put32 r.2.2.2.1 ++ [0, 0]))) : Int) - 2)) - Int.toNat 0) (List.drop (Int.toNat 0) ((putQ (r.1, r.2.1, r.2.2.1) p).1 ++ (put32 r.2.2.2.1 ++ [0, 0])))) + List.length (put16 (IntKind.wrap .u16 (IntKind.wrap .i64 ((↑(List.length ((putQ (r.1, r.2.1, r.2.2.1) p).1 ++ (put32 r.2.2.2.1 ++ [0, 0]))) : Int) - (↑(List.length ((putQ (r.1, r.2.1, r.2.2.1) p).1 ++ (put32 r.2.2.2.1 ++ [0, 0]))) : Int)))))) 9223372036854775807) (.br (decide (0 ≤ (↑(List.length ((putQ (r.1, r.2.1, r.2.2.1) p).1 ++ (put32 r.2.2.2.1 ++ [0, 0]))) : Int)) && decide ((↑(List.length ((putQ (r.1, r.2.1, r.2.2.1) p).1 ++ (put32 r.2.2.2.1 ++ [0, 0]))) : Int) ≤ (↑(List.length ((putQ (r.1, r.2.1, r.2.2.1) p).1 ++ (put32 r.2.2.2.1 ++ [0, 0]))) : Int))) (.br (decide (0 ≤ (↑(List.length ((putQ (r.1, r.2.1, r.2.2.1) p).1 ++ (put32 r.2.2.2.1 ++ [0, 0]))) : Int)) && decide ((↑(List.length ((putQ (r.1, r.2.1, r.2.2.1) p).1 ++ (put32 r.2.2.2.1 ++ [0, 0]))) : Int) ≤ (↑(List.length ((putQ (r.1, r.2.1, r.2.2.1) p).1 ++ (put32 r.2.2.2.1 ++ [0, 0]))) : Int))) (.br (Nat.ble (List.length (List.take (Int.toNat (IntKind.wrap .i64 ((↑(List.length ((putQ (r.1, r.2.1, r.2.2.1) p).1 ++ (put32 r.2.2.2.1 ++ [0, 0]))) : Int) - 2)) - Int.toNat 0) (List.drop (Int.toNat 0) ((putQ (r.1, r.2.1, r.2.2.1) p).1 ++ (put32 r.2.2.2.1 ++ [0, 0]))) ++ put16 (IntKind.wrap .u16 (IntKind.wrap .i64 ((↑(List.length ((putQ (r.1, r.2.1, r.2.2.1) p).1 ++ (put32 r.2.2.2.1 ++ [0, 0]))) : Int) - (↑(List.length ((putQ (r.1, r.2.1, r.2.2.1) p).1 ++ (put32 r.2.2.2.1 ++ [0, 0]))) : Int))))) + List.length (List.take (Int.toNat (↑(List.length ((putQ (r.1, r.2.1, r.2.2.1) p).1 ++ (put32 r.2.2.2.1 ++ [0, 0]))) : Int) - Int.toNat (↑(List.length ((putQ (r.1, r.2.1, r.2.2.1) p).1 ++ (put32 r.2.2.2.1 ++ [0, 0]))) : Int)) (List.drop (Int.toNat (↑(List.length ((putQ (r.1, r.2.1, r.2.2.1) p).1 ++ (put32 r.2.2.2.1 ++ [0, 0]))) : Int)) ((putQ (r.1, r.2.1, r.2.2.1) p).1 ++ (put32 r.2.2.2.1 ++ [0, 0]))))) 9223372036854775807) (.ret ([.agg [.str (List.take (Int.toNat (IntKind.wrap .i64 ((↑(List.length ((putQ (r.1, r.2.1, r.2.2.1) p).1 ++ (put32 r.2.2.2.1 ++ [0, 0]))) : Int) - 2)) - Int.toNat 0) (List.drop (Int.toNat 0) ((putQ (r.1, r.2.1, r.2.2.1) p).1 ++ (put32 r.2.2.2.1 ++ [0, 0]))) ++ put16 (IntKind.wrap .u16 (IntKind.wrap .i64 ((↑(List.length ((putQ (r.1, r.2.1, r.2.2.1) p).1 ++ (put32 r.2.2.2.1 ++ [0, 0]))) : Int) - (↑(List.length ((putQ (r.1, r.2.1, r.2.2.1) p).1 ++ (put32 r.2.2.2.1 ++ [0, 0]))) : Int)))) ++ List.take (Int.toNat (↑(List.length ((putQ (r.1, r.2.1, r.2.2.1) p).1 ++ (put32 r.2.2.2.1 ++ [0, 0]))) : Int) - Int.toNat (↑(List.length ((putQ (r.1, r.2.1, r.2.2.1) p).1 ++ (put32 r.2.2.2.1 ++ [0, 0]))) : Int)) (List.drop (Int.toNat (↑(List.length ((putQ (r.1, r.2.1, r.2.2.1) p).1 ++ (put32 r.2.2.2.1 ++ [0, 0]))) : Int)) ((putQ (r.1, r.2.1, r.2.2.1) p).1 ++ (put32 r.2.2.2.1 ++ [0, 0])))), .list (Ty.pair Ty.str (Ty.int .i64)) (putQ (r.1, r.2.1, r.2.2.1) p).2], .int .i64 0], [])) .no) .no) .no) .no) .no) .no) .no)) .no) .no) .no) (.br (n32C r.2.2.2.1) (.br (Nat.ble (List.length p.1 + List.length (put32 r.2.2.2.1 ++ [0, 0])) 9223372036854775807) (.br (ptOk (p.1 ++ (put32 r.2.2.2.1 ++ [0, 0]), p.2) r.2.2.2.2) (.br (mayR r.2.1 r.2.2.2.2) (.br (decide (0 ≤ IntKind.wrap .i64 ((↑(List.length (p.1 ++ (put32 r.2.2.2.1 ++ [0, 0]))) : Int) - 2)) && decide (IntKind.wrap .i64 ((↑(List.length (p.1 ++ (put32 r.2.2.2.1 ++ [0, 0]))) : Int) - 2) ≤ (↑(List.length (putR r.2.1 r.2.2.2.2 (p.1 ++ (put32 r.2.2.2.1 ++ [0, 0]), p.2)).1) : Int))) (.br (decide (0 ≤ 0) && decide (0 ≤ IntKind.wrap .i64 ((↑(List.length (p.1 ++ (put32 r.2.2.2.1 ++ [0, 0]))) : Int) - 2))) (.br (n16C (IntKind.wrap .u16 (IntKind.wrap .i64 ((↑(List.length (putR r.2.1 r.2.2.2.2 (p.1 ++ (put32 r.2.2.2.1 ++ [0, 0]), p.2)).1) : Int) - (↑(List.length (p.1 ++ (put32 r.2.2.2.1 ++ [0, 0]))) : Int))))) (.br (Nat.ble (List.length (List.take (Int.toNat (IntKind.wrap .i64 ((↑(List.length (p.1 ++ (put32 r.2.2.2.1 ++ [0, 0]))) : Int) - 2)) - Int.toNat 0) (List.drop (Int.toNat 0) (putR r.2.1 r.2.2.2.2 (p.1 ++ (put32 r.2.2.2.1 ++ [0, 0]), p.2)).1)) + List.length (put16 (IntKind.wrap .u16 (IntKind.wrap .i64 ((↑(List.length (putR r.2.1 r.2.2.2.2 (p.1 ++ (put32 r.2.2.2.1 ++ [0, 0]), p.2)).1) : Int) - (↑(List.length (p.1 ++ (put32 r.2.2.2.1 ++ [0, 0]))) : Int)))))) 9223372036854775807) (.br (decide (0 ≤ (↑(List.length (putR r.2.1 r.2.2.2.2 (p.1 ++ (put32 r.2.2.2.1 ++ [0, 0]), p.2)).1) : Int)) && decide ((↑(List.length (putR r.2.1 r.2.2.2.2 (p.1 ++ (put32 r.2.2.2.1 ++ [0, 0]), p.2)).1) : Int) ≤ (↑(List.length (putR r.2.1 r.2.2.2.2 (p.1 ++ (put32 r.2.2.2.1 ++ [0, 0]), p.2)).1) : Int))) (.br (decide (0 ≤ (↑(List.length (p.1 ++ (put32 r.2.2.2.1 ++ [0, 0]))) : Int)) && decide ((↑(List.length (p.1 ++ (put32 r.2.2.2.1 ++ [0, 0]))) : Int) ≤ (↑(List.length (putR r.2.1 r.2.2.2.2 (p.1 ++ (put32 r.2.2.2.1 ++ [0, 0]), p.2)).1) : Int))) (.br (Nat.ble (List.length (List.take (Int.toNat (IntKind.wrap .i64 ((↑(List.length (p.1 ++ (put32 r.2.2.2.1 ++ [0, 0]))) : Int) - 2)) - Int.toNat 0) (List.drop (Int.toNat 0) (putR r.2.1 r.2.2.2.2 (p.1 ++ (put32 r.2.2.2.1 ++ [0, 0]), p.2)).1) ++ put16 (IntKind.wrap .u16 (IntKind.wrap .i64 ((↑(List.length (putR r.2.1 r.2.2.2.2 (p.1 ++ (put32 r.2.2.2.1 ++ [0, 0]), p.2)).1) : Int) - (↑(List.length (p.1 ++ (put32 r.2.2.2.1 ++ [0, 0]))) : Int))))) + List.length (List.take (Int.toNat (↑(List.length (putR r.2.1 r.2.2.2.2 (p.1 ++ (put32 r.2.2.2.1 ++ [0, 0]), p.2)).1) : Int) - Int.toNat (↑(List.length (p.1 ++ (put32 r.2.2.2.1 ++ [0, 0]))) : Int)) (List.drop (Int.toNat (↑(List.length (p.1 ++ (put32 r.2.2.2.1 ++ [0, 0]))) : Int)) (putR r.2.1 r.2.2.2.2 (p.1 ++ (put32 r.2.2.2.1 ++ [0, 0]), p.2)).1))) 9223372036854775807) (.ret ([.agg [.str (List.take (Int.toNat (IntKind.wrap .i64 ((↑(List.length (p.1 ++ (put32 r.2.2.2.1 ++ [0, 0]))) : Int) - 2)) - Int.toNat 0) (List.drop (Int.toNat 0) (putR r.2.1 r.2.2.2.2 (p.1 ++ (put32 r.2.2.2.1 ++ [0, 0]), p.2)).1) ++ put16 (IntKind.wrap .u16 (IntKind.wrap .i64 ((↑(List.length (putR r.2.1 r.2.2.2.2 (p.1 ++ (put32 r.2.2.2.1 ++ [0, 0]), p.2)).1) : Int) - (↑(List.length (p.1 ++ (put32 r.2.2.2.1 ++ [0, 0]))) : Int)))) ++ List.take (Int.toNat (↑(List.length (putR r.2.1 r.2.2.2.2 (p.1 ++ (put32 r.2.2.2.1 ++ [0, 0]), p.2)).1) : Int) - Int.toNat (↑(List.length (p.1 ++ (put32 r.2.2.2.1 ++ [0, 0]))) : Int)) (List.drop (Int.toNat (↑(List.length (p.1 ++ (put32 r.2.2.2.1 ++ [0, 0]))) : Int)) (putR r.2.1 r.2.2.2.2 (p.1 ++ (put32 r.2.2.2.1 ++ [0, 0]), p.2)).1)), .list (Ty.pair Ty.str (Ty.int .i64)) (putR r.2.1 r.2.2.2.2 (p.1 ++ (put32 r.2.2.2.1 ++ [0, 0]), p.2)).2], .int .i64 0], [])) .no) .no) .no) .no) .no) .no) .no) (.br (decide (0 ≤ IntKind.wrap .i64 ((↑(List.length (p.1 ++ (put32 r.2.2.2.1 ++ [0, 0]))) : Int) - 2)) && decide (IntKind.wrap .i64 ((↑(List.length (p.1 ++ (put32 r.2.2.2.1 ++ [0, 0]))) : Int) - 2) ≤ (↑(List.length (p.1 ++ (put32 r.2.2.2.1 ++ [0, 0]))) : Int))) (.br (decide (0 ≤ 0) && decide (0 ≤ IntKind.wrap .i64 ((↑(List.length (p.1 ++ (put32 r.2.2.2.1 ++ [0, 0]))) : Int) - 2))) (.br (n16C (IntKind.wrap .u16 (IntKind.wrap .i64 ((↑(List.length (p.1 ++ (put32 r.2.2.2.1 ++ [0, 0]))) : Int) - (↑(List.length (p.1 ++ (put32 r.2.2.2.1 ++ [0, 0]))) : Int))))) (.br (Nat.ble (List.length (List.take (Int.toNat (IntKind.wrap .i64 ((↑(List.length (p.1 ++ (put32 r.2.2.2.1 ++ [0, 0]))) : Int) - 2)) - Int.toNat 0) (List.drop (Int.toNat 0) (p.1 ++ (put32 r.2.2.2.1 ++ [0, 0])))) + List.length (put16 (IntKind.wrap .u16 (IntKind.wrap .i64 ((↑(List.length (p.1 ++ (put32 r.2.2.2.1 ++ [0, 0]))) : Int) - (↑(List.length (p.1 ++ (put32 r.2.2.2.1 ++ [0, 0]))) : Int)))))) 9223372036854775807) (.br (decide (0 ≤ (↑(List.length (p.1 ++ (put32 r.2.2.2.1 ++ [0, 0]))) : Int)) && decide ((↑(List.length (p.1 ++ (put32 r.2.2.2.1 ++ [0, 0]))) : Int) ≤ (↑(List.length (p.1 ++ (put32 r.2.2.2.1 ++ [0, 0]))) : Int))) (.br (decide (0 ≤ (↑(List.length (p.1 ++ (put32 r.2.2.2.1 ++ [0, 0]))) : Int)) && decide ((↑(List.length (p.1 ++ (put32 r.2.2.2.1 ++ [0, 0]))) : Int) ≤ (↑(List.length (p.1 ++ (put32 r.2.2.2.1 ++ [0, 0]))) : Int))) (.br (Nat.ble (List.length (List.take (Int.toNat (IntKind.wrap .i64 ((↑(List.length (p.1 ++ (put32 r.2.2.2.1 ++ [0, 0]))) : Int) - 2)) - Int.toNat 0) (List.drop (Int.toNat 0) (p.1 ++ (put32 r.2.2.2.1 ++ [0, 0]))) ++ put16 (IntKind.wrap .u16 (IntKind.wrap .i64 ((↑(List.length (p.1 ++ (put32 r.2.2.2.1 ++ [0, 0]))) : Int) - (↑(List.length (p.1 ++ (put32 r.2.2.2.1 ++ [0, 0]))) : Int))))) + List.length (List.take (Int.toNat (↑(List.length (p.1 ++ (put32 r.2.2.2.1 ++ [0, 0]))) : Int) - Int.toNat (↑(List.length (p.1 ++ (put32 r.2.2.2.1 ++ [0, 0]))) : Int)) (List.drop (Int.toNat (↑(List.length (p.1 ++ (put32 r.2.2.2.1 ++ [0, 0]))) : Int)) (p.1 ++ (put32 r.2.2.2.1 ++ [0, 0]))))) 9223372036854775807) (.ret ([.agg [.str (List.take (Int.toNat (IntKind.wrap .i64 ((↑(List.length (p.1 ++ (put32 r.2.2.2.1 ++ [0, 0]))) : Int) - 2)) - Int.toNat 0) (List.drop (Int.toNat 0) (p.1 ++ (put32 r.2.2.2.1 ++ [0, 0]))) ++ put16 (IntKind.wrap .u16 (IntKind.wrap .i64 ((↑(List.length (p.1 ++ (put32 r.2.2.2.1 ++ [0, 0]))) : Int) - (↑(List.length (p.1 ++ (put32 r.2.2.2.1 ++ [0, 0]))) : Int)))) ++ List.take (Int.toNat (↑(List.length (p.1 ++ (put32 r.2.2.2.1 ++ [0, 0]))) : Int) - Int.toNat (↑(List.length (p.1 ++ (put32 r.2.2.2.1 ++ [0, 0]))) : Int)) (List.drop (Int.toNat (↑(List.length (p.1 ++ (put32 r.2.2.2.1 ++ [0, 0]))) : Int)) (p.1 ++ (put32 r.2.2.2.1 ++ [0, 0])))), .list (Ty.pair Ty.str (Ty.int .i64)) p.2], .int .i64 0], [])) .no) .no) .no) .no) .no) .no) .no)) .no) .no) .no)) .no)) .no
def os132 : OSpec := { f := 132, sh := [.d (.pair .str (.list (.pair .str (.int .i64)))) true, .d RR true], so := [], F := fun (p, r, _) _ => t132 p r }
theorem fn132 (p : (List UInt8 × List (List UInt8 × Int))) (r : RRt) : evC T0 (orcB [fs127w, fs108w, fs131, fs148w, fs149w, fs129w] []) (lpOf h132 0 (lsOf [])) c132 1000000 (startSt [AV.ofTy (.pair .str (.list (.pair .str (.int .i64)))) p true, AV.ofTy RR r true] [] Try.f132.ntmps) (finishK T0 false 0 Try.f132) = (t132 p r).get := by kernel_rfl
theorem ok132 : os132.Ok Try.prog := by
 refine os_ok mixed0 tab0 (orcB_sound (all_cons okf127w (all_cons okf108w (all_cons okf131 (all_cons okf148w (all_cons okf149w (all_cons okf129w all_nil)))))) all_nil) h132 (d := 0) (n0 := 0) (S := lsOf []) Try.func132 (by kernel_rfl) (c := c132) (by kernel_rfl) rfl (no_loops (by kernel_rfl)) (by omega) (by kernel_rfl) ?_
 intro x'' y'' q'' hq''
 obtain ⟨(p : (List UInt8 × List (List UInt8 × Int))), (r : RRt), _⟩ := x''
 exact (fn132 p r).trans hq''
def fs132 : FSpec := fsT 132 [((.pair .str (.list (.pair .str (.int .i64)))), true), (RR, true)] [((.pair .str (.list (.pair .str (.int .i64)))), true), ((.int .i64), false)] fun (p, r, _) => t132 p r
theorem okf132 : fs132.Ok Try.prog := fsT_ok fun x'' r'' hr'' => ok132 x'' () r'' hr''
def rOk (r : RRt) : Bool := Nat.ble r.1.length 1000000 && (n16C r.2.1 && (n16C r.2.2.1 && (n32C r.2.2.2.1 && Nat.ble r.2.2.2.2.length 1000000)))
def pkS (b : List Int) (m : Known) : Bool := bytesOk b && (kOk m && Nat.ble b.length 900000000)
def ptS (p : PKt) : Bool := kOk p.2 && (Nat.ble p.1.length 900000000 && Nat.ble p.2.length 900000000)
def hdR (r : RRt) : List UInt8 := put16 r.2.1 ++ put16 r.2.2.1 ++ put32 r.2.2.2.1
def S1R (r : RRt) (p : PKt) : List UInt8 := (nameP r.1 p.1 p.2).1 ++ hdR r ++ [0, 0]
def p2R (r : RRt) (p : PKt) : PKt := putR r.2.1 r.2.2.2.2 (S1R r p, (nameP r.1 p.1 p.2).2)
def clV (S : List UInt8) (a : Nat) : List UInt8 := S.take (a - 2) ++ put16 (((S.length : Int) - a) % 65536) ++ S.drop a
def recP (r : RRt) (p : PKt) : PKt := (clV (p2R r p).1 (S1R r p).length, (p2R r p).2)
theorem rOk_iff {r : RRt} : rOk r = true ↔ r.1.length ≤ 1000000 ∧ n16C r.2.1 = true ∧ n16C r.2.2.1 = true ∧ n32C r.2.2.2.1 = true ∧ r.2.2.2.2.length ≤ 1000000 := by
 unfold rOk
 rw [Bool.and_eq_true, Bool.and_eq_true, Bool.and_eq_true, Bool.and_eq_true]
 exact ⟨fun ⟨a, b, c, d, e⟩ => ⟨Nat.le_of_ble_eq_true a, b, c, d, Nat.le_of_ble_eq_true e⟩, fun ⟨a, b, c, d, e⟩ => ⟨Nat.ble_eq_true_of_le a, b, c, d, Nat.ble_eq_true_of_le e⟩⟩
theorem pkS_iff {b : List Int} {m : Known} : pkS b m = true ↔ bytesOk b = true ∧ kOk m = true ∧ b.length ≤ 900000000 := by
 unfold pkS
 rw [Bool.and_eq_true, Bool.and_eq_true]
 exact ⟨fun ⟨a, b, c⟩ => ⟨a, b, Nat.le_of_ble_eq_true c⟩, fun ⟨a, b, c⟩ => ⟨a, b, Nat.ble_eq_true_of_le c⟩⟩
theorem ptS_iff {p : PKt} : ptS p = true ↔ kOk p.2 = true ∧ p.1.length ≤ 900000000 ∧ p.2.length ≤ 900000000 := by
 unfold ptS
 rw [Bool.and_eq_true, Bool.and_eq_true]
 exact ⟨fun ⟨a, b, c⟩ => ⟨a, Nat.le_of_ble_eq_true b, Nat.le_of_ble_eq_true c⟩, fun ⟨a, b, c⟩ => ⟨a, Nat.ble_eq_true_of_le b, Nat.ble_eq_true_of_le c⟩⟩
theorem hdR_len (r : RRt) : (hdR r).length = 8 := rfl
theorem S1R_len (r : RRt) (p : PKt) : (S1R r p).length = (nameP r.1 p.1 p.2).1.length + 10 := by
 unfold S1R
 rw [List.length_append, List.length_append, hdR_len]
 rfl
theorem bytesInt_take (s : List UInt8) (n : Nat) : (bytesInt s).take n = bytesInt (s.take n) := by simp [bytesInt]
theorem bytesInt_drop (s : List UInt8) (n : Nat) : (bytesInt s).drop n = bytesInt (s.drop n) := by simp [bytesInt]
theorem closeB_bytes (S : List UInt8) (a : Nat) : closeB (bytesInt S) ((a : Int) + 2) = bytesInt (clV S (a + 2)) := by
 unfold closeB clV
 rw [bytesInt_len, bytesInt_take, bytesInt_drop, bytesInt_app, bytesInt_app, show ((a : Int) + 2 - 2).toNat = a + 2 - 2 by omega, show ((a : Int) + 2).toNat = a + 2 by omega, Int.natCast_add]
 rfl
theorem putS_ge : ∀ (ps : List Int) (ls : List (List UInt8)) (p : PKt), p.1.length ≤ (putS ps ls p).1.length
 | [], _, p => Nat.le_refl _
 | x :: ps, ls, p => by
   rw [putS]
   cases hx : x == -1 with
   | true =>
     have q2 := putS_ge ps ls.tail (stN p (ls.headD [], false))
     rw [cond_true]
     have k2 : p.1.length ≤ (stN p (ls.headD [], false)).1.length := by
      show p.1.length ≤ (bif mayV (ls.headD []) then nameP (ls.headD []) p.1 p.2 else p).1.length
      cases hm : mayV (ls.headD []) with
      | false => exact Nat.le_refl _
      | true =>
        rw [cond_true]
        obtain ⟨_, l2, _⟩ := nameL_len _ (ls.headD []) p.1 p.2 rfl (may_iff.1 hm).1
        omega
     omega
   | false =>
     have q2 : (p.1 ++ ls.headD []).length ≤ (putS ps ls.tail (p.1 ++ ls.headD [], p.2)).1.length := putS_ge ps ls.tail (p.1 ++ ls.headD [], p.2)
     rw [List.length_append] at q2
     rw [cond_false]
     omega
theorem putR_ge (k : Int) (d : List UInt8) (p : PKt) : p.1.length ≤ (putR k d p).1.length := putS_ge _ _ _
theorem recP_facts {r : RRt} {p : PKt} (hk : kOk p.2 = true) (hm : recV r = true) : kOk (nameP r.1 p.1 p.2).2 = true ∧ (nameP r.1 p.1 p.2).1.length ≤ p.1.length + r.1.length ∧ (nameP r.1 p.1 p.2).2.length ≤ p.2.length + r.1.length ∧ kOk (p2R r p).2 = true ∧ (S1R r p).length ≤ (p2R r p).1.length ∧ (p2R r p).1.length ≤ (S1R r p).length + r.2.2.2.2.length ∧ (p2R r p).2.length ≤ (nameP r.1 p.1 p.2).2.length + r.2.2.2.2.length := by
 obtain ⟨m1, m2⟩ := Bool.and_eq_true_iff.1 (show (mayV r.1 && mayR r.2.1 r.2.2.2.2) = true from hm)
 obtain ⟨a1, a2, a3⟩ := nameP_k (p := p) m1 hk
 obtain ⟨b1, b2, b3⟩ := putR_len (p := (S1R r p, (nameP r.1 p.1 p.2).2)) m2 a1
 exact ⟨a1, a2, a3, b1, putR_ge r.2.1 r.2.2.2.2 (S1R r p, (nameP r.1 p.1 p.2).2), b2, b3⟩
theorem clV_len {S : List UInt8} {a : Nat} (h2 : 2 ≤ a) (h : a ≤ S.length) : (clV S a).length = S.length := by
 unfold clV
 rw [List.length_append, List.length_append, List.length_take, List.length_drop, put16_len]
 omega
def os124w : OSpec := os124.like fun (r, _) (_, b, m, _) => .br (pkS b m && rOk r) (.br (recV r) (.ret ([.int .i64 0], pkO (bytesInt (recP r (intBytes b, m)).1) (recP r (intBytes b, m)).2)) (.ret ([.int .i64 1], pkO b m))) .no
theorem ok124w : os124w.Ok Try.prog := by
 refine like_ok ok124 _ ?_
 rintro ⟨(r : RRt), _⟩ ⟨_, (b : List Int), (m : Known), _⟩ y h
 simp only [Tr.get] at h
 cases hc : pkS b m && rOk r with
 | false => rw [hc] at h; cases h
 | true =>
   rw [hc, cond_true] at h
   obtain ⟨h1, h2⟩ := Bool.and_eq_true_iff.1 hc
   obtain ⟨b1, b2, b3⟩ := pkS_iff.1 h1
   obtain ⟨r1, r2, r3, r4, r5⟩ := rOk_iff.1 h2
   have hbig : rrBig r = true := by unfold rrBig; rw [len_big (show r.1.length ≤ _ by omega), len_big (show r.2.2.2.2.length ≤ _ by omega)]; rfl
   refine Tr.get_of_all ?_
   show (t124 r b m).all _
   unfold t124
   cases hm : recV r with
   | false =>
     rw [hm, cond_false] at h
     cases h
     exact Tr.all_t hbig (Tr.all_t rfl (Tr.all_ret rfl))
   | true =>
     rw [hm, cond_true] at h
     cases h
     obtain ⟨m1, m2⟩ := Bool.and_eq_true_iff.1 (show (mayV r.1 && mayR r.2.1 r.2.2.2.2) = true from hm)
     obtain ⟨a1, a2, a3, a4, a5, a6, a7⟩ := recP_facts (p := (intBytes b, m)) b2 hm
     have hl := intB_len b
     have hs1 := S1R_len r (intBytes b, m)
     have hz : [(0 : Ty.den (Ty.int .u8)), (0 : Ty.den (Ty.int .u8))] = bytesInt [0, 0] := rfl
     have hS : (nameP r.1 (intBytes b) m).1 ++ (put16 r.2.1 ++ put16 r.2.2.1 ++ put32 r.2.2.2.1) ++ [0, 0] = S1R r (intBytes b, m) := rfl
     have hp2 : putR r.2.1 r.2.2.2.2 (S1R r (intBytes b, m), (nameP r.1 (intBytes b) m).2) = p2R r (intBytes b, m) := rfl
     have hhl : (put16 r.2.1 ++ put16 r.2.2.1 ++ put32 r.2.2.2.1).length = 8 := rfl
     simp only [hz, ← bytesInt_app, intB_bytes, bytesInt_len, hS, hp2, List.length_append, hhl]
     simp only at a1 a2 a3 hs1
     have hk1 : pkC b m = true := by unfold pkC; rw [b1, b2, Nat.ble_eq_true_of_le (by omega)]; rfl
     refine Tr.all_t hbig (Tr.all_f rfl (Tr.all_t (by rw [hk1, Nat.ble_eq_true_of_le (by omega)]; rfl) (Tr.all_t m1 (Tr.all_t r2 (Tr.all_t r3 (Tr.all_t r4 (Tr.all_t (fits_true (by omega) (by omega)) (Tr.all_t (Nat.ble_eq_true_of_le (by omega)) (Tr.all_t ?_ (Tr.all_t m2 (Tr.all_t (Nat.ble_eq_true_of_le (by omega)) (Tr.all_t ?_ (Tr.all_ret ?_)))))))))))))
     · rw [pkT_iff.2 ⟨bytesInt_ok _, a1, by rw [bytesInt_len]; omega⟩, Nat.ble_eq_true_of_le r5]
       rfl
     · have h3 : (2 : Int) ≤ (((nameP r.1 (intBytes b) m).1.length + 8 : Nat) : Int) + 2 := by omega
       have h4 : (((nameP r.1 (intBytes b) m).1.length + 8 : Nat) : Int) + 2 ≤ ((p2R r (intBytes b, m)).1.length : Int) := by omega
       exact Bool.and_eq_true_iff.2 ⟨decide_eq_true h3, decide_eq_true h4⟩
     · have hcl := closeB_bytes (p2R r (intBytes b, m)).1 ((nameP r.1 (intBytes b) m).1.length + 8)
       rw [hcl, show (nameP r.1 (intBytes b) m).1.length + 8 + 2 = (S1R r (intBytes b, m)).length by omega]
       rfl
def fs132w : FSpec := fs132.like fun (p, r, _) => .br (ptS p && rOk r) (.br (recV r) (.ret (recP r p, (0 : Int), ())) (.ret (p, (1 : Int), ()))) .no
theorem put5_all (p : PKt) (r : RRt) (hp : ptS p = true) (hr : rOk r = true) : Tr.all (fun x : Res => x = bif recV r then pkV (recP r p) 0 else pkV p 1) (t132 p r) := by
 obtain ⟨p1, p2, p3⟩ := ptS_iff.1 hp
 obtain ⟨r1, r2, r3, r4, r5⟩ := rOk_iff.1 hr
 have hbig : rrBig r = true := by unfold rrBig; rw [len_big (show r.1.length ≤ _ by omega), len_big (show r.2.2.2.2.length ≤ _ by omega)]; rfl
 unfold t132
 cases hm : recV r with
 | false => exact Tr.all_t hbig (Tr.all_t rfl (Tr.all_ret rfl))
 | true =>
   rw [cond_true]
   obtain ⟨m1, m2⟩ := Bool.and_eq_true_iff.1 (show (mayV r.1 && mayR r.2.1 r.2.2.2.2) = true from hm)
   obtain ⟨a1, a2, a3, a4, a5, a6, a7⟩ := recP_facts (p := p) p1 hm
   have hs1 := S1R_len r p
   have hS : (putQ (r.1, r.2.1, r.2.2.1) p).1 ++ (put32 r.2.2.2.1 ++ [0, 0]) = S1R r p := by
    unfold putQ qB S1R hdR
    simp only [List.append_assoc]
   have hq2 : (putQ (r.1, r.2.1, r.2.2.1) p).2 = (nameP r.1 p.1 p.2).2 := rfl
   have hp2 : putR r.2.1 r.2.2.2.2 (S1R r p, (nameP r.1 p.1 p.2).2) = p2R r p := rfl
   have hql : (putQ (r.1, r.2.1, r.2.2.1) p).1.length = (nameP r.1 p.1 p.2).1.length + 4 := by
    unfold putQ
    rw [List.length_append, qB_len]
   have hpl : (put32 r.2.2.2.1 ++ [0, 0]).length = 6 := rfl
   have hw1 : IntKind.wrap IntKind.i64 (((S1R r p).length : Int) - 2) = (((S1R r p).length - 2 : Nat) : Int) := by rw [IntWalk.i64_in _ (by omega)]; omega
   have hw2 : IntKind.wrap IntKind.u16 (IntKind.wrap IntKind.i64 (((p2R r p).1.length : Int) - ((S1R r p).length : Int))) = (((p2R r p).1.length : Int) - ((S1R r p).length : Int)) % 65536 := by
    rw [IntWalk.i64_in _ (by omega), IntKind.wrap_u16]
   simp only [hS, hq2, hp2, hw1, hw2, tk_beg, tk_end]
   have hq : qOk (r.1, r.2.1, r.2.2.1) = true := qOk_iff.2 ⟨r1, r2, r3⟩
   have hmod : 0 ≤ (((p2R r p).1.length : Int) - ((S1R r p).length : Int)) % 65536 ∧ (((p2R r p).1.length : Int) - ((S1R r p).length : Int)) % 65536 ≤ 65535 := by omega
   refine Tr.all_t hbig (Tr.all_f rfl (Tr.all_t ?_ (Tr.all_t m1 (Tr.all_t r4 (Tr.all_t (Nat.ble_eq_true_of_le (by rw [hql, hpl]; omega)) (Tr.all_t ?_ (Tr.all_t m2 (Tr.all_t ?_ (Tr.all_t ?_ (Tr.all_t ?_ (Tr.all_t (Nat.ble_eq_true_of_le ?_) (Tr.all_t ?_ (Tr.all_t ?_ (Tr.all_t (Nat.ble_eq_true_of_le ?_) (Tr.all_ret ?_)))))))))))))))
   · rw [ptOk_iff.2 ⟨len_big (by omega), p1, by omega, by omega⟩, hq]; rfl
   · exact ptOk_iff.2 ⟨len_big (by omega), a1, by show (S1R r p).length ≤ _; omega, by show (nameP r.1 p.1 p.2).2.length ≤ _; omega⟩
   · rw [dec_true (by omega), dec_true (by omega)]; rfl
   · rw [dec_true (by omega), dec_true (by omega)]; rfl
   · unfold n16C
     rw [dec_true hmod.1, dec_true hmod.2]; rfl
   · rw [List.length_take, put16_len]; omega
   · rw [dec_true (by omega), dec_true (by omega)]; rfl
   · rw [dec_true (by omega), dec_true (by omega)]; rfl
   · rw [List.length_append, List.length_take, put16_len, List.length_drop]; omega
   · rfl
theorem okf132w : fs132w.Ok Try.prog := by
 refine flike_ok okf132 _ ?_
 rintro ⟨(p : PKt), (r : RRt), _⟩ y h
 simp only [Tr.get] at h
 cases hc : ptS p && rOk r with
 | false => rw [hc] at h; cases h
 | true =>
   rw [hc, cond_true] at h
   obtain ⟨h1, h2⟩ := Bool.and_eq_true_iff.1 hc
   have ha := put5_all p r h1 h2
   cases hm : recV r with
   | false =>
     rw [hm, cond_false] at h ha
     cases h
     exact convR_of (vs := (pkV p 1).1) rfl rfl (Tr.get_of_all ha)
   | true =>
     rw [hm, cond_true] at h ha
     cases h
     exact convR_of (vs := (pkV (recP r p) 0).1) rfl rfl (Tr.get_of_all ha)
def rngR (r : RRt) : Bool := n16C r.2.1 && (n16C r.2.2.1 && n32C r.2.2.2.1)
theorem putQ_good {q : QQt} {P : PKt} (hm : mayV q.1 = true) (hk : kOk P.2 = true) : kOk (putQ q P).2 = true ∧ (putQ q P).1.length ≤ P.1.length + q.1.length + 4 ∧ (putQ q P).2.length ≤ P.2.length + q.1.length := by
 obtain ⟨a, b, c⟩ := nameP_k (p := P) hm hk
 refine ⟨a, ?_, c⟩
 unfold putQ
 rw [List.length_append, qB_len]
 omega
theorem recP_good {r : RRt} {P : PKt} (hm : recV r = true) (hk : kOk P.2 = true) : kOk (recP r P).2 = true ∧ (recP r P).1.length ≤ P.1.length + r.1.length + r.2.2.2.2.length + 10 ∧ (recP r P).2.length ≤ P.2.length + r.1.length + r.2.2.2.2.length := by
 obtain ⟨a1, a2, a3, a4, a5, a6, a7⟩ := recP_facts (p := P) hk hm
 have hs := S1R_len r P
 refine ⟨a4, ?_, ?_⟩
 · show (clV (p2R r P).1 (S1R r P).length).length ≤ _
   rw [clV_len (by omega) a5]
   omega
 · show (p2R r P).2.length ≤ _
   omega
theorem mem_getD5 {α : Type} {l : List α} {k : Nat} (hk : k < l.length) (x : α) : l.getD k x ∈ l := by
 rw [List.getD_eq_getElem?_getD, List.getElem?_eq_getElem hk]
 exact List.getElem_mem hk
theorem okT_u16 {n : Int} (h : okT (.int .u16) n) : n16C n = true := by
 have hr : 0 ≤ n ∧ n ≤ 65535 := by simpa [okT, Lit.wf, IntKind.min, IntKind.max, IntKind.signed, IntKind.bits] using h
 unfold n16C
 rw [dec_true hr.1, dec_true hr.2]; rfl
theorem wrap_succ {i : Int} {n : Nat} (h0 : 0 ≤ i) (h : i ≤ n) (hn : n ≤ 1000000000) : IntKind.wrap IntKind.i64 (i + 1) = i + 1 := IntWalk.i64_in _ (by omega)
instance decLQQ : DecidableEq (List QQt) := inferInstance
instance decM3 : DecidableEq (List RRt × (List RRt × List RRt)) := inferInstance
instance decM4 : DecidableEq (List QQt × (List RRt × (List RRt × List RRt))) := inferInstance
instance decM6 : DecidableEq (Int × (Int × (List QQt × (List RRt × (List RRt × List RRt))))) := inferInstance
instance decM9 : DecidableEq (Bool × (Bool × (Bool × (Int × (Int × (List QQt × (List RRt × (List RRt × List RRt)))))))) := inferInstance
instance decMG : DecidableEq MGt := inferInstanceAs (DecidableEq (Int × (Bool × (Bool × (Bool × (Bool × (Bool × (Int × (Int × (List QQt × (List RRt × (List RRt × List RRt))))))))))))
def mQ (m : MGt) : List QQt := m.2.2.2.2.2.2.2.2.1
def mAn (m : MGt) : List RRt := m.2.2.2.2.2.2.2.2.2.1
def mNs (m : MGt) : List RRt := m.2.2.2.2.2.2.2.2.2.2.1
def mAr (m : MGt) : List RRt := m.2.2.2.2.2.2.2.2.2.2.2
def t93 (r : RRt) : Tr Res := .br (rrBig r) (.ret ([.bool !recV r], [])) .no
def os93 : OSpec := { f := 93, sh := [.d RR true], so := [], F := fun (r, _) _ => t93 r }
theorem fn93 (r : RRt) : evC T0 (orcB [fs32w, fs59w] []) (lpOf h93 0 (lsOf [])) c93 1000000 (startSt [AV.ofTy RR r true] [] Try.f93.ntmps) (finishK T0 false 0 Try.f93) = (t93 r).get := by kernel_rfl
theorem ok93 : os93.Ok Try.prog := by
 refine os_ok mixed0 tab0 (orcB_sound (all_cons okf32w (all_cons okf59w all_nil)) all_nil) h93 (d := 0) (n0 := 0) (S := lsOf []) Try.func93 (by kernel_rfl) (c := c93) (by kernel_rfl) rfl (no_loops (by kernel_rfl)) (by omega) (by kernel_rfl) ?_
 intro x'' y'' q'' hq''
 obtain ⟨(r : RRt), _⟩ := x''
 exact (fn93 r).trans hq''
def t96 (q : QQt) : Tr Res := .br (bigS q.1) (.ret ([.bool !mayV q.1], [])) .no
def os96 : OSpec := { f := 96, sh := [.d QQ true], so := [], F := fun (q, _) _ => t96 q }
theorem fn96 (q : QQt) : evC T0 (orcB [fs32w, fs59w] []) (lpOf h96 0 (lsOf [])) c96 1000000 (startSt [AV.ofTy QQ q true] [] Try.f96.ntmps) (finishK T0 false 0 Try.f96) = (t96 q).get := by kernel_rfl
theorem ok96 : os96.Ok Try.prog := by
 refine os_ok mixed0 tab0 (orcB_sound (all_cons okf32w (all_cons okf59w all_nil)) all_nil) h96 (d := 0) (n0 := 0) (S := lsOf []) Try.func96 (by kernel_rfl) (c := c96) (by kernel_rfl) rfl (no_loops (by kernel_rfl)) (by omega) (by kernel_rfl) ?_
 intro x'' y'' q'' hq''
 obtain ⟨(q : QQt), _⟩ := x''
 exact (fn96 q).trans hq''
def idxL {α : Type} (f : α → Bool) : List α → Nat → Int
 | [], _ => -1
 | x :: l, k => if f x = true then (k : Int) else idxL f l (k + 1)
def noR (r : RRt) : Bool := !recV r
def noQ (q : QQt) : Bool := !mayV q.1
def bigQ (q : QQt) : Bool := bigS q.1
def ixRC (l : List RRt) (m i : Int) : Bool := Nat.ble l.length 1000000 && (l.all rrBig && (decide (m = (l.length : Int)) && decide (i = 0)))
def ixQC (l : List QQt) (m i : Int) : Bool := Nat.ble l.length 1000000 && (l.all bigQ && (decide (m = (l.length : Int)) && decide (i = 0)))
noncomputable def b82m : Code := nthLoop c82 0
def ls82m : LoopSpec := { bid := 0, sh := [.d (.list RR) false, .fnp 93 [], .d (.int .i64) false, .d (.int .i64) false], so := [], F := fun (l, m, i, _) _ => .on2 (ixRC l m i) (decide (idxL noR l 0 < 0)) (.exit 0, [.dead], []) (.ret, [.int .i64 (idxL noR l 0)], []) }
def r82m (l : List RRt) (m i : Int) : Tr (St ⊕ (Ex × St)) := .br (decide (i < m)) (.br (decide (0 ≤ i)) (.br (decide (i < (↑l.length : Int))) (.br (rrBig (l.getD i.toNat (Ty.dflt RR))) (.br (!recV (l.getD i.toNat (Ty.dflt RR))) (.ret (.inr (.ret, stOf [4] [.int .i64 i] []))) (.ret (.inl (stOf [0, 1, 7, 8] [.list RR l, AV.fn 93 [], .int .i64 m, .int .i64 (IntKind.wrap .i64 (i + 1))] [])))) .no) .no) .no) (.ret (.inr (.exit 0, stOf [4] [.dead] [])))
theorem round82m (lp : Lp) (l : List RRt) (m i : Int) : evC T0 (orcB [] [os93, os96]) lp b82m 0 (stOf [0, 1, 7, 8] [.list RR l, .fn 93 [], .int .i64 m, .int .i64 i] []) (roundK [0, 1, 7, 8] [4] 0) = (r82m l m i).get := by kernel_rfl
theorem wf82m (l : List RRt) (m : Int) (I'' : Int → Prop) (m'' : Int → Nat) (r'' : Ex × St) (h : ∀ (i : Int), I'' i → (r82m l m i).all fun x'' => x'' = .inr r'' ∨ ∃ (i' : Int), x'' = .inl (stOf [0, 1, 7, 8] [.list RR l, .fn 93 [], .int .i64 m, .int .i64 i'] []) ∧ I'' i' ∧ m'' i' < m'' i) (lp : Lp) (i : Int) : I'' i →
    loopF (fun st => evC T0 (orcB [] [os93, os96]) lp b82m 0 st (roundK [0, 1, 7, 8] [4] 0)) (stOf [0, 1, 7, 8] [.list RR l, .fn 93 [], .int .i64 m, .int .i64 i] []) = some r'' :=
 loop_tr (fun a'' : Int => stOf [0, 1, 7, 8] [.list RR l, .fn 93 [], .int .i64 m, .int .i64 a''] []) (fun a'' => I'' a'') (fun a'' => m'' a'') r'' (fun a'' => r82m l m a'')
  (fun a'' x hx => (round82m lp l m a'').trans hx) (fun a'' ha => Tr.all_mono (fun x'' hx => hx.imp id fun ⟨i', h1, h2, h3⟩ => ⟨(i'), h1, h2, h3⟩) (h (a'') ha)) (i)
noncomputable def b81m : Code := nthLoop c81 0
def ls81m : LoopSpec := { bid := 0, sh := [.d (.list QQ) false, .fnp 96 [], .d (.int .i64) false, .d (.int .i64) false], so := [], F := fun (l, m, i, _) _ => .on2 (ixQC l m i) (decide (idxL noQ l 0 < 0)) (.exit 0, [.dead], []) (.ret, [.int .i64 (idxL noQ l 0)], []) }
def r81m (l : List QQt) (m i : Int) : Tr (St ⊕ (Ex × St)) := .br (decide (i < m)) (.br (decide (0 ≤ i)) (.br (decide (i < (↑l.length : Int))) (.br (bigS (l.getD i.toNat (Ty.dflt QQ)).1) (.br (!mayV (l.getD i.toNat (Ty.dflt QQ)).1) (.ret (.inr (.ret, stOf [4] [.int .i64 i] []))) (.ret (.inl (stOf [0, 1, 7, 8] [.list QQ l, AV.fn 96 [], .int .i64 m, .int .i64 (IntKind.wrap .i64 (i + 1))] [])))) .no) .no) .no) (.ret (.inr (.exit 0, stOf [4] [.dead] [])))
theorem round81m (lp : Lp) (l : List QQt) (m i : Int) : evC T0 (orcB [] [os93, os96]) lp b81m 0 (stOf [0, 1, 7, 8] [.list QQ l, .fn 96 [], .int .i64 m, .int .i64 i] []) (roundK [0, 1, 7, 8] [4] 0) = (r81m l m i).get := by kernel_rfl
theorem wf81m (l : List QQt) (m : Int) (I'' : Int → Prop) (m'' : Int → Nat) (r'' : Ex × St) (h : ∀ (i : Int), I'' i → (r81m l m i).all fun x'' => x'' = .inr r'' ∨ ∃ (i' : Int), x'' = .inl (stOf [0, 1, 7, 8] [.list QQ l, .fn 96 [], .int .i64 m, .int .i64 i'] []) ∧ I'' i' ∧ m'' i' < m'' i) (lp : Lp) (i : Int) : I'' i →
    loopF (fun st => evC T0 (orcB [] [os93, os96]) lp b81m 0 st (roundK [0, 1, 7, 8] [4] 0)) (stOf [0, 1, 7, 8] [.list QQ l, .fn 96 [], .int .i64 m, .int .i64 i] []) = some r'' :=
 loop_tr (fun a'' : Int => stOf [0, 1, 7, 8] [.list QQ l, .fn 96 [], .int .i64 m, .int .i64 a''] []) (fun a'' => I'' a'') (fun a'' => m'' a'') r'' (fun a'' => r81m l m a'')
  (fun a'' x hx => (round81m lp l m a'').trans hx) (fun a'' ha => Tr.all_mono (fun x'' hx => hx.imp id fun ⟨i', h1, h2, h3⟩ => ⟨(i'), h1, h2, h3⟩) (h (a'') ha)) (i)
theorem idxL_cases {α : Type} (f : α → Bool) : ∀ (l : List α) (k : Nat), (idxL f l k = -1 ∧ l.any f = false) ∨ ((k : Int) ≤ idxL f l k ∧ l.any f = true)
 | [], k => .inl ⟨rfl, rfl⟩
 | x :: l, k => by
   unfold idxL
   rw [List.any_cons]
   by_cases h : f x = true
   · rw [if_pos h, h]
     exact .inr ⟨Int.le_refl _, rfl⟩
   · rw [if_neg h]
     have h : f x = false := by simpa using h
     rw [h, Bool.false_or]
     rcases idxL_cases f l (k + 1) with ⟨a, b⟩ | ⟨a, b⟩
     · exact .inl ⟨a, b⟩
     · exact .inr ⟨by omega, b⟩
theorem loop82m : ls82m.Ok T0 (orcB [] [os93, os96]) h82 0 0 b82m := by
 intro q'' hq'' x'' y'' r'' h
 obtain ⟨(l : List RRt), (m : Int), (i : Int), _⟩ := x''
 obtain ⟨hc, rfl⟩ := Tr.get_on2 h
 show loopF (fun st => evC T0 (orcB [] [os93, os96]) (lpN T0 (orcB [] [os93, os96]) h82 0 q'') b82m 0 st (roundK [0, 1, 7, 8] [4] 0)) (stOf [0, 1, 7, 8] [.list RR l, .fn 93 [], .int .i64 m, .int .i64 i] []) = some ((bif decide (idxL noR l 0 < 0) then (.exit 0, [.dead], []) else (.ret, [.int .i64 (idxL noR l 0)], []) : Ex × List AV × List LObj).1, stOf [4] (bif decide (idxL noR l 0 < 0) then (.exit 0, [.dead], []) else (.ret, [.int .i64 (idxL noR l 0)], []) : Ex × List AV × List LObj).2.1 (bif decide (idxL noR l 0 < 0) then (.exit 0, [.dead], []) else (.ret, [.int .i64 (idxL noR l 0)], []) : Ex × List AV × List LObj).2.2)
 simp only [ixRC, Bool.and_eq_true, decide_eq_true_eq, List.all_eq_true] at hc
 obtain ⟨hl, hall, rfl, rfl⟩ := hc
 have hl := Nat.le_of_ble_eq_true hl
 refine wf82m l l.length (fun i => 0 ≤ i ∧ i ≤ l.length ∧ idxL noR (l.drop i.toNat) i.toNat = idxL noR l 0) (fun i => (l.length - i).toNat) _ ?_ _ 0 ⟨by omega, by omega, rfl⟩
 rintro i ⟨h0, h1, he⟩
 unfold r82m
 rw [wrap_succ h0 h1 (by omega)]
 by_cases hi : i < l.length
 · have hx := hall _ (mem_getD5 (l := l) (k := i.toNat) (by omega) (Ty.dflt RR))
   rw [drop_cons2 (l := l) (k := i.toNat) (by omega) (Ty.dflt RR), idxL] at he
   generalize l.getD i.toNat (Ty.dflt RR) = x at *
   refine Tr.all_t (dec_true hi) (Tr.all_t (dec_true h0) (Tr.all_t (dec_true hi) (Tr.all_t hx (Tr.all_br (fun h => ?_) fun h => ?_))))
   · have h : noR x = true := h
     rw [if_pos h] at he
     rw [← he, show ((i.toNat : Nat) : Int) = i by omega, dec_false (show ¬ i < 0 by omega)]
     exact Tr.all_ret (.inl rfl)
   · have h : noR x = false := h
     rw [if_neg (by rw [h]; simp)] at he
     exact Tr.all_ret (.inr ⟨_, rfl, ⟨by omega, by omega, by rw [show (i + 1).toNat = i.toNat + 1 by omega]; exact he⟩, by omega⟩)
 · refine Tr.all_f (dec_false hi) (Tr.all_ret (.inl ?_))
   rw [List.drop_eq_nil_of_le (by omega)] at he
   rw [← he]
   rfl
theorem loop81m : ls81m.Ok T0 (orcB [] [os93, os96]) h81 0 0 b81m := by
 intro q'' hq'' x'' y'' r'' h
 obtain ⟨(l : List QQt), (m : Int), (i : Int), _⟩ := x''
 obtain ⟨hc, rfl⟩ := Tr.get_on2 h
 show loopF (fun st => evC T0 (orcB [] [os93, os96]) (lpN T0 (orcB [] [os93, os96]) h81 0 q'') b81m 0 st (roundK [0, 1, 7, 8] [4] 0)) (stOf [0, 1, 7, 8] [.list QQ l, .fn 96 [], .int .i64 m, .int .i64 i] []) = some ((bif decide (idxL noQ l 0 < 0) then (.exit 0, [.dead], []) else (.ret, [.int .i64 (idxL noQ l 0)], []) : Ex × List AV × List LObj).1, stOf [4] (bif decide (idxL noQ l 0 < 0) then (.exit 0, [.dead], []) else (.ret, [.int .i64 (idxL noQ l 0)], []) : Ex × List AV × List LObj).2.1 (bif decide (idxL noQ l 0 < 0) then (.exit 0, [.dead], []) else (.ret, [.int .i64 (idxL noQ l 0)], []) : Ex × List AV × List LObj).2.2)
 simp only [ixQC, Bool.and_eq_true, decide_eq_true_eq, List.all_eq_true] at hc
 obtain ⟨hl, hall, rfl, rfl⟩ := hc
 have hl := Nat.le_of_ble_eq_true hl
 refine wf81m l l.length (fun i => 0 ≤ i ∧ i ≤ l.length ∧ idxL noQ (l.drop i.toNat) i.toNat = idxL noQ l 0) (fun i => (l.length - i).toNat) _ ?_ _ 0 ⟨by omega, by omega, rfl⟩
 rintro i ⟨h0, h1, he⟩
 unfold r81m
 rw [wrap_succ h0 h1 (by omega)]
 by_cases hi : i < l.length
 · have hx := hall _ (mem_getD5 (l := l) (k := i.toNat) (by omega) (Ty.dflt QQ))
   rw [drop_cons2 (l := l) (k := i.toNat) (by omega) (Ty.dflt QQ), idxL] at he
   generalize l.getD i.toNat (Ty.dflt QQ) = x at *
   refine Tr.all_t (dec_true hi) (Tr.all_t (dec_true h0) (Tr.all_t (dec_true hi) (Tr.all_t hx (Tr.all_br (fun h => ?_) fun h => ?_))))
   · have h : noQ x = true := h
     rw [if_pos h] at he
     rw [← he, show ((i.toNat : Nat) : Int) = i by omega, dec_false (show ¬ i < 0 by omega)]
     exact Tr.all_ret (.inl rfl)
   · have h : noQ x = false := h
     rw [if_neg (by rw [h]; simp)] at he
     exact Tr.all_ret (.inr ⟨_, rfl, ⟨by omega, by omega, by rw [show (i + 1).toNat = i.toNat + 1 by omega]; exact he⟩, by omega⟩)
 · refine Tr.all_f (dec_false hi) (Tr.all_ret (.inl ?_))
   rw [List.drop_eq_nil_of_le (by omega)] at he
   rw [← he]
   rfl
def t82m (l : List RRt) : Tr Res := .br (ixRC l (↑l.length : Int) 0) (.br (decide (idxL noR l 0 < 0)) (.ret ([.int .i64 (-1)], [])) (.ret ([.int .i64 (idxL noR l 0)], []))) .no
def os82m : OSpec := { f := 82, sh := [.d (.list RR) false, .fnp 93 []], so := [], F := fun (l, _) _ => t82m l }
theorem fn82m (l : List RRt) : evC T0 (orcB [] [os93, os96]) (lpOf h82 0 (lsOf [ls82m])) c82 1000000 (startSt [.list RR l, .fn 93 []] [] Try.f82.ntmps) (finishK T0 false 0 Try.f82) = (t82m l).get := by kernel_rfl
theorem ok82m : os82m.Ok Try.prog := by
 refine os_ok mixed0 tab0 (orcB_sound all_nil (all_cons ok93 (all_cons ok96 all_nil))) h82 (d := 0) (n0 := 0) (S := lsOf [ls82m]) Try.func82 (by kernel_rfl) (c := c82) (by kernel_rfl) rfl (loops_eq (xs := [(0, b82m)]) (by kernel_rfl) (all_cons (ls_here loop82m) all_nil)) (by omega) (by kernel_rfl) ?_
 intro x'' y'' q'' hq''
 obtain ⟨(l : List RRt), _⟩ := x''
 exact (fn82m l).trans hq''
def os82n : OSpec := os82m.like fun (l, _) _ => .on (Nat.ble l.length 1000000 && l.all rrBig) ([.int .i64 (idxL noR l 0)], [])
theorem ok82n : os82n.Ok Try.prog := by
 refine like_ok ok82m _ ?_
 rintro ⟨(l : List RRt), _⟩ _ r' h
 obtain ⟨hb, rfl⟩ := Tr.get_on h
 obtain ⟨h1, h2⟩ := Bool.and_eq_true_iff.1 (show (Nat.ble l.length 1000000 && l.all rrBig) = true from hb)
 refine Tr.get_of_all ?_
 show (t82m l).all _
 unfold t82m
 refine Tr.all_t (by unfold ixRC; rw [h1, h2, decide_eq_true rfl]; rfl) (Tr.all_br (fun h => Tr.all_ret ?_) fun h => Tr.all_ret rfl)
 have h := of_decide_eq_true h
 rcases idxL_cases noR l 0 with ⟨e, _⟩ | ⟨e, _⟩
 · rw [e]
 · omega
def t81m (l : List QQt) : Tr Res := .br (ixQC l (↑l.length : Int) 0) (.br (decide (idxL noQ l 0 < 0)) (.ret ([.int .i64 (-1)], [])) (.ret ([.int .i64 (idxL noQ l 0)], []))) .no
def os81m : OSpec := { f := 81, sh := [.d (.list QQ) false, .fnp 96 []], so := [], F := fun (l, _) _ => t81m l }
theorem fn81m (l : List QQt) : evC T0 (orcB [] [os93, os96]) (lpOf h81 0 (lsOf [ls81m])) c81 1000000 (startSt [.list QQ l, .fn 96 []] [] Try.f81.ntmps) (finishK T0 false 0 Try.f81) = (t81m l).get := by kernel_rfl
theorem ok81m : os81m.Ok Try.prog := by
 refine os_ok mixed0 tab0 (orcB_sound all_nil (all_cons ok93 (all_cons ok96 all_nil))) h81 (d := 0) (n0 := 0) (S := lsOf [ls81m]) Try.func81 (by kernel_rfl) (c := c81) (by kernel_rfl) rfl (loops_eq (xs := [(0, b81m)]) (by kernel_rfl) (all_cons (ls_here loop81m) all_nil)) (by omega) (by kernel_rfl) ?_
 intro x'' y'' q'' hq''
 obtain ⟨(l : List QQt), _⟩ := x''
 exact (fn81m l).trans hq''
def os81n : OSpec := os81m.like fun (l, _) _ => .on (Nat.ble l.length 1000000 && l.all bigQ) ([.int .i64 (idxL noQ l 0)], [])
theorem ok81n : os81n.Ok Try.prog := by
 refine like_ok ok81m _ ?_
 rintro ⟨(l : List QQt), _⟩ _ r' h
 obtain ⟨hb, rfl⟩ := Tr.get_on h
 obtain ⟨h1, h2⟩ := Bool.and_eq_true_iff.1 (show (Nat.ble l.length 1000000 && l.all bigQ) = true from hb)
 refine Tr.get_of_all ?_
 show (t81m l).all _
 unfold t81m
 refine Tr.all_t (by unfold ixQC; rw [h1, h2, decide_eq_true rfl]; rfl) (Tr.all_br (fun h => Tr.all_ret ?_) fun h => Tr.all_ret rfl)
 have h := of_decide_eq_true h
 rcases idxL_cases noQ l 0 with ⟨e, _⟩ | ⟨e, _⟩
 · rw [e]
 · omega
def t94m (l : List RRt) : Tr Res := .br (Nat.ble l.length 1000000 && List.all l rrBig) (.ret ([.bool (decide (idxL noR l 0 ≥ 0))], [])) .no
def os94m : OSpec := { f := 94, sh := [.d (.list RR) false, .fnp 93 []], so := [], F := fun (l, _) _ => t94m l }
theorem fn94m (l : List RRt) : evC T0 (orcB [] [os82n]) (lpOf h94 0 (lsOf [])) c94 1000000 (startSt [.list RR l, .fn 93 []] [] Try.f94.ntmps) (finishK T0 false 0 Try.f94) = (t94m l).get := by kernel_rfl
theorem ok94m : os94m.Ok Try.prog := by
 refine os_ok mixed0 tab0 (orcB_sound all_nil (all_cons ok82n all_nil)) h94 (d := 0) (n0 := 0) (S := lsOf []) Try.func94 (by kernel_rfl) (c := c94) (by kernel_rfl) rfl (no_loops (by kernel_rfl)) (by omega) (by kernel_rfl) ?_
 intro x'' y'' q'' hq''
 obtain ⟨(l : List RRt), _⟩ := x''
 exact (fn94m l).trans hq''
def os94n : OSpec := os94m.like fun (l, _) _ => .on (Nat.ble l.length 1000000 && l.all rrBig) ([.bool (l.any noR)], [])
theorem ok94n : os94n.Ok Try.prog := by
 refine like_ok ok94m _ ?_
 rintro ⟨(l : List RRt), _⟩ _ r' h
 obtain ⟨hb, rfl⟩ := Tr.get_on h
 refine Tr.get_of_all ?_
 show (t94m l).all _
 unfold t94m
 refine Tr.all_t hb (Tr.all_ret ?_)
 rcases idxL_cases noR l 0 with ⟨e, h⟩ | ⟨e, h⟩
 · rw [e, h]; rfl
 · rw [h, decide_eq_true (by omega)]
def t95m (l : List QQt) : Tr Res := .br (Nat.ble l.length 1000000 && List.all l bigQ) (.ret ([.bool (decide (idxL noQ l 0 ≥ 0))], [])) .no
def os95m : OSpec := { f := 95, sh := [.d (.list QQ) false, .fnp 96 []], so := [], F := fun (l, _) _ => t95m l }
theorem fn95m (l : List QQt) : evC T0 (orcB [] [os81n]) (lpOf h95 0 (lsOf [])) c95 1000000 (startSt [.list QQ l, .fn 96 []] [] Try.f95.ntmps) (finishK T0 false 0 Try.f95) = (t95m l).get := by kernel_rfl
theorem ok95m : os95m.Ok Try.prog := by
 refine os_ok mixed0 tab0 (orcB_sound all_nil (all_cons ok81n all_nil)) h95 (d := 0) (n0 := 0) (S := lsOf []) Try.func95 (by kernel_rfl) (c := c95) (by kernel_rfl) rfl (no_loops (by kernel_rfl)) (by omega) (by kernel_rfl) ?_
 intro x'' y'' q'' hq''
 obtain ⟨(l : List QQt), _⟩ := x''
 exact (fn95m l).trans hq''
def os95n : OSpec := os95m.like fun (l, _) _ => .on (Nat.ble l.length 1000000 && l.all bigQ) ([.bool (l.any noQ)], [])
theorem ok95n : os95n.Ok Try.prog := by
 refine like_ok ok95m _ ?_
 rintro ⟨(l : List QQt), _⟩ _ r' h
 obtain ⟨hb, rfl⟩ := Tr.get_on h
 refine Tr.get_of_all ?_
 show (t95m l).all _
 unfold t95m
 refine Tr.all_t hb (Tr.all_ret ?_)
 rcases idxL_cases noQ l 0 with ⟨e, h⟩ | ⟨e, h⟩
 · rw [e, h]; rfl
 · rw [h, decide_eq_true (by omega)]
def okL (l : List RRt) : Bool := Nat.ble l.length 1000000 && l.all rrBig
def badL (l : List RRt) : Bool := decide ((l.length : Int) > 65535) || l.any noR
def myC (ll : List (List RRt)) (m i : Int) : Bool := ll.all okL && (decide (ll.length ≤ 3) && (decide (m = (ll.length : Int)) && decide (i = 0)))
noncomputable def b70 : Code := nthLoop c70 0
def ls70 : LoopSpec := { bid := 0, sh := [.ptr 0 0, .fnp 93 [], .row 1, .d (.int .i64) false, .d (.int .i64) false], so := [.box [.d (.int .u16) false, .d .bool false, .d .bool false, .d .bool false, .d .bool false, .d .bool false, .d (.int .i64) false, .d (.int .i64) false, .d (.list QQ) false, .d (.list RR) false, .d (.list RR) false, .d (.list RR) false], .row (.list RR)], F := fun (m, i, _) ((mi, mqr, maa, mtc, mrd, mra, mop, mrc, mq, man, mns, mar, _), ll, _) => .on2 (myC ll m i) (!ll.any badL) (.exit 0, [.ptr 0 0, .dead], [.box [.int .u16 mi, .bool mqr, .bool maa, .bool mtc, .bool mrd, .bool mra, .int .i64 mop, .int .i64 mrc, .list QQ mq, .list RR man, .list RR mns, .list RR mar]]) (.ret, [.ptr 0 0, .bool false], [.box [.int .u16 mi, .bool mqr, .bool maa, .bool mtc, .bool mrd, .bool mra, .int .i64 mop, .int .i64 mrc, .list QQ mq, .list RR man, .list RR mns, .list RR mar]]) }
def r70 (m i mi : Int) (mqr maa mtc mrd mra : Bool) (mop mrc : Int) (mq : List QQt) (man mns mar : List RRt) (ll : List (List RRt)) : Tr (St ⊕ (Ex × St)) := .br (decide (i < m)) (.br (decide (0 ≤ i)) (.br (decide (i < (↑ll.length : Int))) (.br (decide ((↑(List.length (ll.getD i.toNat (Ty.dflt (Ty.list RR)))) : Int) > 65535)) (.ret (.inr (.ret, stOf [1, 2] [.ptr 0 0, .bool false] [.boxT none [.int .u16 mi, .bool mqr, .bool maa, .bool mtc, .bool mrd, .bool mra, .int .i64 mop, .int .i64 mrc, .list QQ mq, .list RR man, .list RR mns, .list RR mar]]))) (.br (Nat.ble (List.length (ll.getD i.toNat (Ty.dflt (Ty.list RR)))) 1000000 && List.all (ll.getD i.toNat (Ty.dflt (Ty.list RR))) rrBig) (.br (List.any (ll.getD i.toNat (Ty.dflt (Ty.list RR))) noR) (.ret (.inr (.ret, stOf [1, 2] [.ptr 0 0, .bool false] [.boxT none [.int .u16 mi, .bool mqr, .bool maa, .bool mtc, .bool mrd, .bool mra, .int .i64 mop, .int .i64 mrc, .list QQ mq, .list RR man, .list RR mns, .list RR mar]]))) (.ret (.inl (stOf [1, 3, 12, 13, 14] [.ptr 0 0, AV.fn 93 [], .rowA 1, .int .i64 m, .int .i64 (IntKind.wrap .i64 (i + 1))] [.boxT none [.int .u16 mi, .bool mqr, .bool maa, .bool mtc, .bool mrd, .bool mra, .int .i64 mop, .int .i64 mrc, .list QQ mq, .list RR man, .list RR mns, .list RR mar], .row (Ty.list RR) ll])))) .no)) .no) .no) (.ret (.inr (.exit 0, stOf [1, 2] [.ptr 0 0, .dead] [.boxT none [.int .u16 mi, .bool mqr, .bool maa, .bool mtc, .bool mrd, .bool mra, .int .i64 mop, .int .i64 mrc, .list QQ mq, .list RR man, .list RR mns, .list RR mar]])))
theorem round70 (lp : Lp) (m i mi : Int) (mqr maa mtc mrd mra : Bool) (mop mrc : Int) (mq : List QQt) (man mns mar : List RRt) (ll : List (List RRt)) : evC T0 (orcB [] [os94n, os95n]) lp b70 0 (stOf [1, 3, 12, 13, 14] [.ptr 0 0, .fn 93 [], .rowA 1, .int .i64 m, .int .i64 i] [.box [.int .u16 mi, .bool mqr, .bool maa, .bool mtc, .bool mrd, .bool mra, .int .i64 mop, .int .i64 mrc, .list QQ mq, .list RR man, .list RR mns, .list RR mar], .row (.list RR) ll]) (roundK [1, 3, 12, 13, 14] [1, 2] 0) = (r70 m i mi mqr maa mtc mrd mra mop mrc mq man mns mar ll).get := by kernel_rfl
theorem wf70 (m mi : Int) (mqr maa mtc mrd mra : Bool) (mop mrc : Int) (mq : List QQt) (man mns mar : List RRt) (ll : List (List RRt)) (I'' : Int → Prop) (m'' : Int → Nat) (r'' : Ex × St) (h : ∀ (i : Int), I'' i → (r70 m i mi mqr maa mtc mrd mra mop mrc mq man mns mar ll).all fun x'' => x'' = .inr r'' ∨ ∃ (i' : Int), x'' = .inl (stOf [1, 3, 12, 13, 14] [.ptr 0 0, .fn 93 [], .rowA 1, .int .i64 m, .int .i64 i'] [.box [.int .u16 mi, .bool mqr, .bool maa, .bool mtc, .bool mrd, .bool mra, .int .i64 mop, .int .i64 mrc, .list QQ mq, .list RR man, .list RR mns, .list RR mar], .row (.list RR) ll]) ∧ I'' i' ∧ m'' i' < m'' i) (lp : Lp) (i : Int) : I'' i →
    loopF (fun st => evC T0 (orcB [] [os94n, os95n]) lp b70 0 st (roundK [1, 3, 12, 13, 14] [1, 2] 0)) (stOf [1, 3, 12, 13, 14] [.ptr 0 0, .fn 93 [], .rowA 1, .int .i64 m, .int .i64 i] [.box [.int .u16 mi, .bool mqr, .bool maa, .bool mtc, .bool mrd, .bool mra, .int .i64 mop, .int .i64 mrc, .list QQ mq, .list RR man, .list RR mns, .list RR mar], .row (.list RR) ll]) = some r'' :=
 loop_tr (fun a'' : Int => stOf [1, 3, 12, 13, 14] [.ptr 0 0, .fn 93 [], .rowA 1, .int .i64 m, .int .i64 a''] [.box [.int .u16 mi, .bool mqr, .bool maa, .bool mtc, .bool mrd, .bool mra, .int .i64 mop, .int .i64 mrc, .list QQ mq, .list RR man, .list RR mns, .list RR mar], .row (.list RR) ll]) (fun a'' => I'' a'') (fun a'' => m'' a'') r'' (fun a'' => r70 m a'' mi mqr maa mtc mrd mra mop mrc mq man mns mar ll)
  (fun a'' x hx => (round70 lp m a'' mi mqr maa mtc mrd mra mop mrc mq man mns mar ll).trans hx) (fun a'' ha => Tr.all_mono (fun x'' hx => hx.imp id fun ⟨i', h1, h2, h3⟩ => ⟨(i'), h1, h2, h3⟩) (h (a'') ha)) (i)
theorem any_next {α : Type} {f : α → Bool} {l : List α} {k : Nat} (hk : k < l.length) (x : α) : (l.drop k).any f = (f (l.getD k x) || (l.drop (k + 1)).any f) := by
 rw [drop_cons2 hk x, List.any_cons]
theorem okL_iff {l : List RRt} : okL l = true ↔ l.length ≤ 1000000 ∧ (Nat.ble l.length 1000000 && l.all rrBig) = true := by
 unfold okL
 exact ⟨fun h => ⟨Nat.le_of_ble_eq_true (Bool.and_eq_true_iff.1 h).1, h⟩, fun h => h.2⟩
theorem loop70 : ls70.Ok T0 (orcB [] [os94n, os95n]) h70 0 0 b70 := by
 intro q'' hq'' x'' y'' r'' h
 obtain ⟨(m : Int), (i : Int), _⟩ := x''
 obtain ⟨⟨(mi : Int), (mqr : Bool), (maa : Bool), (mtc : Bool), (mrd : Bool), (mra : Bool), (mop : Int), (mrc : Int), (mq : List QQt), (man : List RRt), (mns : List RRt), (mar : List RRt), _⟩, (ll : List (List RRt)), _⟩ := y''
 obtain ⟨hc, rfl⟩ := Tr.get_on2 h
 show loopF (fun st => evC T0 (orcB [] [os94n, os95n]) (lpN T0 (orcB [] [os94n, os95n]) h70 0 q'') b70 0 st (roundK [1, 3, 12, 13, 14] [1, 2] 0)) (stOf [1, 3, 12, 13, 14] [.ptr 0 0, .fn 93 [], .rowA 1, .int .i64 m, .int .i64 i] [.box [.int .u16 mi, .bool mqr, .bool maa, .bool mtc, .bool mrd, .bool mra, .int .i64 mop, .int .i64 mrc, .list QQ mq, .list RR man, .list RR mns, .list RR mar], .row (.list RR) ll]) = some ((bif !ll.any badL then (.exit 0, [.ptr 0 0, .dead], [.box [.int .u16 mi, .bool mqr, .bool maa, .bool mtc, .bool mrd, .bool mra, .int .i64 mop, .int .i64 mrc, .list QQ mq, .list RR man, .list RR mns, .list RR mar]]) else (.ret, [.ptr 0 0, .bool false], [.box [.int .u16 mi, .bool mqr, .bool maa, .bool mtc, .bool mrd, .bool mra, .int .i64 mop, .int .i64 mrc, .list QQ mq, .list RR man, .list RR mns, .list RR mar]]) : Ex × List AV × List LObj).1, stOf [1, 2] (bif !ll.any badL then (.exit 0, [.ptr 0 0, .dead], [.box [.int .u16 mi, .bool mqr, .bool maa, .bool mtc, .bool mrd, .bool mra, .int .i64 mop, .int .i64 mrc, .list QQ mq, .list RR man, .list RR mns, .list RR mar]]) else (.ret, [.ptr 0 0, .bool false], [.box [.int .u16 mi, .bool mqr, .bool maa, .bool mtc, .bool mrd, .bool mra, .int .i64 mop, .int .i64 mrc, .list QQ mq, .list RR man, .list RR mns, .list RR mar]]) : Ex × List AV × List LObj).2.1 (bif !ll.any badL then (.exit 0, [.ptr 0 0, .dead], [.box [.int .u16 mi, .bool mqr, .bool maa, .bool mtc, .bool mrd, .bool mra, .int .i64 mop, .int .i64 mrc, .list QQ mq, .list RR man, .list RR mns, .list RR mar]]) else (.ret, [.ptr 0 0, .bool false], [.box [.int .u16 mi, .bool mqr, .bool maa, .bool mtc, .bool mrd, .bool mra, .int .i64 mop, .int .i64 mrc, .list QQ mq, .list RR man, .list RR mns, .list RR mar]]) : Ex × List AV × List LObj).2.2)
 simp only [myC, Bool.and_eq_true, decide_eq_true_eq, List.all_eq_true] at hc
 obtain ⟨hall, hl, rfl, rfl⟩ := hc
 refine wf70 ll.length mi mqr maa mtc mrd mra mop mrc mq man mns mar ll (fun i => 0 ≤ i ∧ i ≤ ll.length ∧ (ll.drop i.toNat).any badL = ll.any badL) (fun i => (ll.length - i).toNat) _ ?_ _ 0 ⟨by omega, by omega, rfl⟩
 rintro i ⟨h0, h1, he⟩
 unfold r70
 rw [wrap_succ h0 h1 (by omega)]
 by_cases hi : i < ll.length
 · have hx := (okL_iff.1 (hall _ (mem_getD5 (l := ll) (k := i.toNat) (by omega) (Ty.dflt (Ty.list RR))))).2
   rw [any_next (l := ll) (k := i.toNat) (by omega) (Ty.dflt (Ty.list RR))] at he
   generalize ll.getD i.toNat (Ty.dflt (Ty.list RR)) = x at *
   refine Tr.all_t (dec_true hi) (Tr.all_t (dec_true h0) (Tr.all_t (dec_true hi) (Tr.all_br (fun c => ?_) fun c => Tr.all_t hx (Tr.all_br (fun c2 => ?_) fun c2 => ?_))))
   · have hb : badL x = true := by unfold badL; exact Bool.or_eq_true_iff.2 (.inl c)
     rw [hb] at he
     rw [← he]
     exact Tr.all_ret (.inl rfl)
   · have hb : badL x = true := by unfold badL; exact Bool.or_eq_true_iff.2 (.inr c2)
     rw [hb] at he
     rw [← he]
     exact Tr.all_ret (.inl rfl)
   · have hb : badL x = false := by unfold badL; exact Bool.or_eq_false_iff.2 ⟨c, c2⟩
     rw [hb, Bool.false_or] at he
     exact Tr.all_ret (.inr ⟨_, rfl, ⟨by omega, by omega, by rw [show (i + 1).toNat = i.toNat + 1 by omega]; exact he⟩, by omega⟩)
 · refine Tr.all_f (dec_false hi) (Tr.all_ret (.inl ?_))
   rw [List.drop_eq_nil_of_le (by omega)] at he
   rw [← he]
   rfl
def t70 (m : MGt) : Tr Res := .br (myC [m.2.2.2.2.2.2.2.2.2.1, m.2.2.2.2.2.2.2.2.2.2.1, m.2.2.2.2.2.2.2.2.2.2.2] (↑3 : Int) 0) (.br (!List.any [m.2.2.2.2.2.2.2.2.2.1, m.2.2.2.2.2.2.2.2.2.2.1, m.2.2.2.2.2.2.2.2.2.2.2] badL) (.br (decide (m.2.2.2.2.2.2.1 ≥ 0)) (.br (decide (m.2.2.2.2.2.2.1 ≤ 15)) (.br (decide (m.2.2.2.2.2.2.2.1 ≥ 0)) (.br (decide (m.2.2.2.2.2.2.2.1 ≤ 15)) (.br (decide ((↑m.2.2.2.2.2.2.2.2.1.length : Int) ≤ 65535)) (.br (Nat.ble m.2.2.2.2.2.2.2.2.1.length 1000000 && List.all m.2.2.2.2.2.2.2.2.1 bigQ) (.ret ([.bool !List.any m.2.2.2.2.2.2.2.2.1 noQ], [])) .no) (.ret ([.bool false], []))) (.ret ([.bool false], []))) (.ret ([.bool false], []))) (.ret ([.bool false], []))) (.ret ([.bool false], []))) (.ret ([.bool false], []))) .no
def os70 : OSpec := { f := 70, sh := [.d MG true], so := [], F := fun (m, _) _ => t70 m }
theorem fn70 (m : MGt) : evC T0 (orcB [] [os94n, os95n]) (lpOf h70 0 (lsOf [ls70])) c70 1000000 (startSt [AV.ofTy MG m true] [] Try.f70.ntmps) (finishK T0 false 0 Try.f70) = (t70 m).get := by kernel_rfl
theorem ok70 : os70.Ok Try.prog := by
 refine os_ok mixed0 tab0 (orcB_sound all_nil (all_cons ok94n (all_cons ok95n all_nil))) h70 (d := 0) (n0 := 0) (S := lsOf [ls70]) Try.func70 (by kernel_rfl) (c := c70) (by kernel_rfl) rfl (loops_eq (xs := [(0, b70)]) (by kernel_rfl) (all_cons (ls_here loop70) all_nil)) (by omega) (by kernel_rfl) ?_
 intro x'' y'' q'' hq''
 obtain ⟨(m : MGt), _⟩ := x''
 exact (fn70 m).trans hq''
def fs70 : FSpec := fsT 70 [(MG, true)] [(.bool, false)] fun (m, _) => t70 m
theorem okf70 : fs70.Ok Try.prog := fsT_ok fun x'' r'' hr'' => ok70 x'' () r'' hr''
end Go.Proofs.YtpledbapngdkeaaE
