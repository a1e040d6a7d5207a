import Derived.Test.YtlkpiegllammdaaPMessageFits3
set_option maxRecDepth 1000000
namespace Go.Proofs.YtlkpiegllammdaaE
open Go Go.Proofs.YtlkpiegllammdaaB
set_option linter.unusedVariables false
set_option linter.unusedSimpArgs false
def nmC (n : List UInt8) (b : List Int) (l : Known) : Bool := rootV n && (bytesOk b && (kOk l && Nat.ble (b.length + n.length) 1000000000000))
noncomputable def b59 : Code := (nthLoop c59 0)
def ls59 : LoopSpec := { bid := 0, sh := [.ptr 0 0, .d .str false], so := [.box [.row 1, .mp 2], .row (.int .u8), .map .str (.int .i64)], F := fun (n, _) (_, b, l, _) => .on2 (nmC n b l) ((nameL n (intBytes b) l).1.isSome) (.ret, [.ptr 0 0, .str (nameL n (intBytes b) l).2.1, .int .i64 0], [.box [.rowA 1, .mp 2], .row (.int .u8) (bytesInt ((nameL n (intBytes b) l).2.2.1 ++ put16 (49152 + (nameL n (intBytes b) l).1.getD 0))), .mpo .str (.int .i64) (nameL n (intBytes b) l).2.2.2]) (.exit 0, [.ptr 0 0, .str (nameL n (intBytes b) l).2.1, .dead], [.box [.rowA 1, .mp 2], .row (.int .u8) (bytesInt (nameL n (intBytes b) l).2.2.1), .mpo .str (.int .i64) (nameL n (intBytes b) l).2.2.2]) }
def r59 (n : List UInt8) (b : List Int) (l : List (List UInt8 × Int)) : Tr (St ⊕ (Ex × St)) := .br (!n == [0]) (.br (hasM Ty.str (Ty.int .i64) n l) (.br (n16C (IntKind.wrap .u16 (IntKind.wrap .i64 (↑(BitVec.toNat (BitVec.ofInt (IntKind.bits IntKind.i64) 49152 ||| BitVec.ofInt (IntKind.bits IntKind.i64) (getM Ty.str (Ty.int .i64) n l))) : Int)))) (.br (fits (List.length b + List.length (bytesInt (put16 (IntKind.wrap .u16 (IntKind.wrap .i64 (↑(BitVec.toNat (BitVec.ofInt (IntKind.bits IntKind.i64) 49152 ||| BitVec.ofInt (IntKind.bits IntKind.i64) (getM Ty.str (Ty.int .i64) n l))) : Int)))))) 1) (.ret (.inr (.ret, stOf [0, 1, 4] [.ptr 0 0, .str n, .int .i64 0] [.boxT none [.rowA 1, .mp 2], .row (.int .u8) (b ++ bytesInt (put16 (IntKind.wrap .u16 (IntKind.wrap .i64 (↑(BitVec.toNat (BitVec.ofInt (IntKind.bits IntKind.i64) 49152 ||| BitVec.ofInt (IntKind.bits IntKind.i64) (getM Ty.str (Ty.int .i64) n l))) : Int))))), .mpo .str (.int .i64) l]))) .no) .no) (.br (decide ((↑b.length : Int) < 16384)) (.br (decide (0 < (↑n.length : Int))) (.br (decide (0 ≤ IntKind.wrap .i64 (1 + IntKind.wrap .i64 (↑(UInt8.toNat (n.getD (Int.toNat 0) 0)) : Int))) && decide (IntKind.wrap .i64 (1 + IntKind.wrap .i64 (↑(UInt8.toNat (n.getD (Int.toNat 0) 0)) : Int)) ≤ (↑n.length : Int))) (.br (decide (0 ≤ 0) && decide (0 ≤ IntKind.wrap .i64 (1 + IntKind.wrap .i64 (↑(UInt8.toNat (n.getD (Int.toNat 0) 0)) : Int)))) (.br (fits (List.length b + List.length (bytesInt (List.take (Int.toNat (IntKind.wrap .i64 (1 + IntKind.wrap .i64 (↑(UInt8.toNat (n.getD (Int.toNat 0) 0)) : Int))) - Int.toNat 0) (List.drop (Int.toNat 0) n)))) 1) (.br (decide (0 ≤ (↑n.length : Int)) && decide ((↑n.length : Int) ≤ (↑n.length : Int))) (.br (decide (0 ≤ IntKind.wrap .i64 (1 + IntKind.wrap .i64 (↑(UInt8.toNat (n.getD (Int.toNat 0) 0)) : Int))) && decide (IntKind.wrap .i64 (1 + IntKind.wrap .i64 (↑(UInt8.toNat (n.getD (Int.toNat 0) 0)) : Int)) ≤ (↑n.length : Int))) (.ret (.inl (stOf [0, 1] [.ptr 0 0, .str (List.take (Int.toNat (↑n.length : Int) - Int.toNat (IntKind.wrap .i64 (1 + IntKind.wrap .i64 (↑(UInt8.toNat (n.getD (Int.toNat 0) 0)) : Int)))) (List.drop (Int.toNat (IntKind.wrap .i64 (1 + IntKind.wrap .i64 (↑(UInt8.toNat (n.getD (Int.toNat 0) 0)) : Int)))) n))] [.boxT none [.rowA 1, .mp 2], .row (.int .u8) (b ++ bytesInt (List.take (Int.toNat (IntKind.wrap .i64 (1 + IntKind.wrap .i64 (↑(UInt8.toNat (n.getD (Int.toNat 0) 0)) : Int))) - Int.toNat 0) (List.drop (Int.toNat 0) n))), .mpo .str (.int .i64) (putM Ty.str (Ty.int .i64) n (↑b.length : Int) l)]))) .no) .no) .no) .no) .no) .no) (.br (decide (0 < (↑n.length : Int))) (.br (decide (0 ≤ IntKind.wrap .i64 (1 + IntKind.wrap .i64 (↑(UInt8.toNat (n.getD (Int.toNat 0) 0)) : Int))) && decide (IntKind.wrap .i64 (1 + IntKind.wrap .i64 (↑(UInt8.toNat (n.getD (Int.toNat 0) 0)) : Int)) ≤ (↑n.length : Int))) (.br (decide (0 ≤ 0) && decide (0 ≤ IntKind.wrap .i64 (1 + IntKind.wrap .i64 (↑(UInt8.toNat (n.getD (Int.toNat 0) 0)) : Int)))) (.br (fits (List.length b + List.length (bytesInt (List.take (Int.toNat (IntKind.wrap .i64 (1 + IntKind.wrap .i64 (↑(UInt8.toNat (n.getD (Int.toNat 0) 0)) : Int))) - Int.toNat 0) (List.drop (Int.toNat 0) n)))) 1) (.br (decide (0 ≤ (↑n.length : Int)) && decide ((↑n.length : Int) ≤ (↑n.length : Int))) (.br (decide (0 ≤ IntKind.wrap .i64 (1 + IntKind.wrap .i64 (↑(UInt8.toNat (n.getD (Int.toNat 0) 0)) : Int))) && decide (IntKind.wrap .i64 (1 + IntKind.wrap .i64 (↑(UInt8.toNat (n.getD (Int.toNat 0) 0)) : Int)) ≤ (↑n.length : Int))) (.ret (.inl (stOf [0, 1] [.ptr 0 0, .str (List.take (Int.toNat (↑n.length : Int) - Int.toNat (IntKind.wrap .i64 (1 + IntKind.wrap .i64 (↑(UInt8.toNat (n.getD (Int.toNat 0) 0)) : Int)))) (List.drop (Int.toNat (IntKind.wrap .i64 (1 + IntKind.wrap .i64 (↑(UInt8.toNat (n.getD (Int.toNat 0) 0)) : Int)))) n))] [.boxT none [.rowA 1, .mp 2], .row (.int .u8) (b ++ bytesInt (List.take (Int.toNat (IntKind.wrap .i64 (1 + IntKind.wrap .i64 (↑(UInt8.toNat (n.getD (Int.toNat 0) 0)) : Int))) - Int.toNat 0) (List.drop (Int.toNat 0) n))), .mpo .str (.int .i64) l]))) .no) .no) .no) .no) .no) .no))) (.ret (.inr (.exit 0, stOf [0, 1, 4] [.ptr 0 0, .str n, .dead] [.boxT none [.rowA 1, .mp 2], .row (.int .u8) b, .mpo .str (.int .i64) l])))
theorem round59 (lp : Lp) (n : List UInt8) (b : List Int) (l : List (List UInt8 × Int)) : evC T0 (orcB [fs61w, fs57w] [os60]) lp b59 0 (stOf [0, 1] [.ptr 0 0, .str n] [.box [.rowA 1, .mp 2], .row (.int .u8) b, .mpo .str (.int .i64) l]) (roundK [0, 1] [0, 1, 4] 3) = (r59 n b l).get := by kernel_rfl
theorem wf59 (I'' : List UInt8 → List Int → List (List UInt8 × Int) → Prop) (m'' : List UInt8 → List Int → List (List UInt8 × Int) → Nat) (r'' : Ex × St) (h : ∀ (n : List UInt8) (b : List Int) (l : List (List UInt8 × Int)), I'' n b l → (r59 n b l).all fun x'' => x'' = .inr r'' ∨ ∃ (n' : List UInt8) (b' : List Int) (l' : List (List UInt8 × Int)), x'' = .inl (stOf [0, 1] [.ptr 0 0, .str n'] [.box [.rowA 1, .mp 2], .row (.int .u8) b', .mpo .str (.int .i64) l']) ∧ I'' n' b' l' ∧ m'' n' b' l' < m'' n b l) (lp : Lp) (n : List UInt8) (b : List Int) (l : List (List UInt8 × Int)) : I'' n b l →
    loopF (fun st => evC T0 (orcB [fs61w, fs57w] [os60]) lp b59 0 st (roundK [0, 1] [0, 1, 4] 3)) (stOf [0, 1] [.ptr 0 0, .str n] [.box [.rowA 1, .mp 2], .row (.int .u8) b, .mpo .str (.int .i64) l]) = some r'' :=
 loop_tr (fun a'' : List UInt8 × List Int × List (List UInt8 × Int) => stOf [0, 1] [.ptr 0 0, .str a''.1] [.box [.rowA 1, .mp 2], .row (.int .u8) a''.2.1, .mpo .str (.int .i64) a''.2.2]) (fun a'' => I'' a''.1 a''.2.1 a''.2.2) (fun a'' => m'' a''.1 a''.2.1 a''.2.2) r'' (fun a'' => r59 a''.1 a''.2.1 a''.2.2)
  (fun a'' x hx => (round59 lp a''.1 a''.2.1 a''.2.2).trans hx) (fun a'' ha => Tr.all_mono (fun x'' hx => hx.imp id fun ⟨n', b', l', h1, h2, h3⟩ => ⟨(n', b', l'), h1, h2, h3⟩) (h (a''.1) (a''.2.1) (a''.2.2) ha)) (n, b, l)
def nmI (n0 : List UInt8) (b0 : List Int) (l0 : Known) (n : List UInt8) (b : List Int) (l : Known) : Prop := rootV n = true ∧ bytesOk b = true ∧ kOk l = true ∧ b.length + n.length ≤ 1000000000000 ∧ nameL n (intBytes b) l = nameL n0 (intBytes b0) l0
theorem loop59 : ls59.Ok T0 (orcB [fs61w, fs57w] [os60]) h59 3 0 b59 := by
 intro q'' hq'' x'' y'' r'' h
 obtain ⟨(n : List UInt8), _⟩ := x''
 obtain ⟨_, (b : List Int), (l : List (List UInt8 × Int)), _⟩ := y''
 obtain ⟨hc, rfl⟩ := Tr.get_on2 h
 show loopF (fun st => evC T0 (orcB [fs61w, fs57w] [os60]) (lpN T0 (orcB [fs61w, fs57w] [os60]) h59 3 q'') b59 0 st (roundK [0, 1] [0, 1, 4] 3)) (stOf [0, 1] [.ptr 0 0, .str n] [.box [.rowA 1, .mp 2], .row (.int .u8) b, .mpo .str (.int .i64) l]) = some ((bif (nameL n (intBytes b) l).1.isSome then (.ret, [.ptr 0 0, .str (nameL n (intBytes b) l).2.1, .int .i64 0], [.box [.rowA 1, .mp 2], .row (.int .u8) (bytesInt ((nameL n (intBytes b) l).2.2.1 ++ put16 (49152 + (nameL n (intBytes b) l).1.getD 0))), .mpo .str (.int .i64) (nameL n (intBytes b) l).2.2.2]) else (.exit 0, [.ptr 0 0, .str (nameL n (intBytes b) l).2.1, .dead], [.box [.rowA 1, .mp 2], .row (.int .u8) (bytesInt (nameL n (intBytes b) l).2.2.1), .mpo .str (.int .i64) (nameL n (intBytes b) l).2.2.2]) : Ex × List AV × List LObj).1, stOf [0, 1, 4] (bif (nameL n (intBytes b) l).1.isSome then (.ret, [.ptr 0 0, .str (nameL n (intBytes b) l).2.1, .int .i64 0], [.box [.rowA 1, .mp 2], .row (.int .u8) (bytesInt ((nameL n (intBytes b) l).2.2.1 ++ put16 (49152 + (nameL n (intBytes b) l).1.getD 0))), .mpo .str (.int .i64) (nameL n (intBytes b) l).2.2.2]) else (.exit 0, [.ptr 0 0, .str (nameL n (intBytes b) l).2.1, .dead], [.box [.rowA 1, .mp 2], .row (.int .u8) (bytesInt (nameL n (intBytes b) l).2.2.1), .mpo .str (.int .i64) (nameL n (intBytes b) l).2.2.2]) : Ex × List AV × List LObj).2.1 (bif (nameL n (intBytes b) l).1.isSome then (.ret, [.ptr 0 0, .str (nameL n (intBytes b) l).2.1, .int .i64 0], [.box [.rowA 1, .mp 2], .row (.int .u8) (bytesInt ((nameL n (intBytes b) l).2.2.1 ++ put16 (49152 + (nameL n (intBytes b) l).1.getD 0))), .mpo .str (.int .i64) (nameL n (intBytes b) l).2.2.2]) else (.exit 0, [.ptr 0 0, .str (nameL n (intBytes b) l).2.1, .dead], [.box [.rowA 1, .mp 2], .row (.int .u8) (bytesInt (nameL n (intBytes b) l).2.2.1), .mpo .str (.int .i64) (nameL n (intBytes b) l).2.2.2]) : Ex × List AV × List LObj).2.2)
 simp only [nmC, Bool.and_eq_true] at hc
 obtain ⟨hr, hok, hk, hb⟩ := hc
 have hb := Nat.le_of_ble_eq_true hb
 refine wf59 (nmI n b l) (fun n _ _ => n.length) _ ?_ _ n b l ⟨hr, hok, hk, hb, rfl⟩
 clear hr hok hk hb
 rename_i n0 b0 l0
 rintro n b l ⟨hr, hok, hk, hb, he⟩
 rw [← he]
 unfold r59
 have hbS : bytesInt (intBytes b) = b := bytes_intB hok
 have hSl : (intBytes b).length = b.length := intB_len b
 rcases root_cases hr with rfl | ⟨hn0, hn1, hlt, h63, hne, hrt⟩
 · rw [nameL_root]
   refine Tr.all_f (by simp) (Tr.all_ret (.inl ?_))
   simp only [Option.isSome_none, cond_false, hbS]
 · refine Tr.all_t (by simpa using hn0) ?_
   cases hlk : lookK n l with
   | some a =>
     obtain ⟨ha0, ha1⟩ := kOk_look hk hlk
     rw [nameL_known hn0 hlk]
     rw [getM_some hlk]
     simp only [or_far ha0 ha1]
     refine Tr.all_t (by rw [hasM_some, hlk]; rfl) (Tr.all_t (by simp [n16C]; omega) (Tr.all_t (fits_true (by simp [bytesInt_len, put16_len]; omega) (by simp [bytesInt_len, put16_len]; omega)) (Tr.all_ret (.inl ?_))))
     simp only [Option.isSome_some, cond_true, bytesInt_app, hbS, Option.getD_some]
   | none =>
     rw [nameL_next hn0 hn1 hlk]
     rw [putK_new hlk]
     simp only [szW, hdW, tlW]
     have hfit : fits (List.length b + List.length (bytesInt (hdN n))) 1 = true := fits_true (by rw [bytesInt_len, hdN_len (by omega)]; omega) (by rw [bytesInt_len, hdN_len (by omega)]; omega)
     have hnew : bytesOk (b ++ bytesInt (hdN n)) = true := bytesOk_app hok (bytesInt_ok _)
     have hlen : (b ++ bytesInt (hdN n)).length + (tlN n).length ≤ 1000000000000 := by
      rw [List.length_append, bytesInt_len, hdN_len (by omega), tlN_len]; omega
     have hS2 : intBytes (b ++ bytesInt (hdN n)) = intBytes b ++ hdN n := by rw [intB_app, intB_bytes]
     have hm : (tlN n).length < n.length := tlN_lt hn1
     refine Tr.all_f (by rw [hasM_some, hlk]; rfl) (Tr.all_br (fun c1 => ?_) fun c1 => ?_)
     · simp only [decide_eq_true_eq] at c1
       refine Tr.all_t (dec_true (by omega)) (Tr.all_t (by rw [dec_true (by omega), dec_true (by omega)]; rfl) (Tr.all_t (by rw [dec_true (by omega), dec_true (by omega)]; rfl) (Tr.all_t hfit (Tr.all_t (by rw [dec_true (by omega), dec_true (by omega)]; rfl) (Tr.all_t (by rw [dec_true (by omega), dec_true (by omega)]; rfl) (Tr.all_ret (.inr ⟨_, _, _, rfl, ⟨hrt, hnew, kOk_add hk (by omega), hlen, ?_⟩, hm⟩)))))))
       rw [hS2, ← he, nameL_next hn0 hn1 hlk, if_pos (by omega), hSl]
     · simp only [decide_eq_false_iff_not] at c1
       refine Tr.all_t (dec_true (by omega)) (Tr.all_t (by rw [dec_true (by omega), dec_true (by omega)]; rfl) (Tr.all_t (by rw [dec_true (by omega), dec_true (by omega)]; rfl) (Tr.all_t hfit (Tr.all_t (by rw [dec_true (by omega), dec_true (by omega)]; rfl) (Tr.all_t (by rw [dec_true (by omega), dec_true (by omega)]; rfl) (Tr.all_ret (.inr ⟨_, _, _, rfl, ⟨hrt, hnew, hk, hlen, ?_⟩, hm⟩)))))))
       rw [hS2, ← he, nameL_next hn0 hn1 hlk, if_neg (by omega)]
def t59 (n : List UInt8) (b : List Int) (l : List (List UInt8 × Int)) : Tr Res := .br (bigS n) (.br (!mayV n) (.ret ([.int .i64 1], [.boxT none [.rowA 1, .mp 2], .row (.int .u8) b, .mpo .str (.int .i64) l])) (.br (nmC n b l) (.br (Option.isSome (nameL n (intBytes b) l).1) (.ret ([.int .i64 0], [.boxT none [.rowA 1, .mp 2], .row (.int .u8) (bytesInt ((nameL n (intBytes b) l).2.2.1 ++ put16 (49152 + Option.getD (nameL n (intBytes b) l).1 0))), .mpo .str (.int .i64) (nameL n (intBytes b) l).2.2.2])) (.br (fits (List.length (bytesInt (nameL n (intBytes b) l).2.2.1) + List.length (bytesInt (nameL n (intBytes b) l).2.1)) 1) (.ret ([.int .i64 0], [.boxT none [.rowA 1, .mp 2], .row (.int .u8) (bytesInt (nameL n (intBytes b) l).2.2.1 ++ bytesInt (nameL n (intBytes b) l).2.1), .mpo .str (.int .i64) (nameL n (intBytes b) l).2.2.2])) .no)) .no)) .no
def os59 : OSpec := { f := 59, sh := [.ptr 0 0, .d .str false], so := [.box [.row 1, .mp 2], .row (.int .u8), .map .str (.int .i64)], F := fun (n, _) (_, b, l, _) => t59 n b l }
theorem fn59 (n : List UInt8) (b : List Int) (l : List (List UInt8 × Int)) : evC T0 (orcB [fs61w, fs57w] [os60]) (lpOf h59 3 (lsOf [ls59])) c59 1000000 (startSt [.ptr 0 0, .str n] [.box [.rowA 1, .mp 2], .row (.int .u8) b, .mpo .str (.int .i64) l] Try.f59.ntmps) (finishK T0 false 3 Try.f59) = (t59 n b l).get := by kernel_rfl
theorem ok59 : os59.Ok Try.prog := by
 refine os_ok mixed0 tab0 (orcB_sound (all_cons okf61w (all_cons okf57w all_nil)) (all_cons ok60 all_nil)) h59 (d := 0) (n0 := 3) (S := lsOf [ls59]) Try.func59 (by kernel_rfl) (c := c59) (by kernel_rfl) rfl (loops_eq (xs := [(0, b59)]) (by kernel_rfl) (all_cons (ls_here loop59) all_nil)) (by omega) (by kernel_rfl) ?_
 intro x'' y'' q'' hq''
 obtain ⟨(n : List UInt8), _⟩ := x''
 obtain ⟨_, (b : List Int), (l : List (List UInt8 × Int)), _⟩ := y''
 exact (fn59 n b l).trans hq''
abbrev pkO (b : List Int) (l : Known) : List LObj := [.box [.rowA 1, .mp 2], .row (.int .u8) b, .mpo .str (.int .i64) l]
def pkC (b : List Int) (l : Known) : Bool := bytesOk b && (kOk l && Nat.ble b.length 100000000000)
def os59w : OSpec := os59.like fun (n, _) (_, b, l, _) => .br (pkC b l && Nat.ble n.length 100000000000) (.br (mayV n) (.ret ([.int .i64 0], pkO (bytesInt (nameP n (intBytes b) l).1) (nameP n (intBytes b) l).2)) (.ret ([.int .i64 1], pkO b l))) .no
theorem ok59w : os59w.Ok Try.prog := by
 refine like_ok ok59 _ ?_
 rintro ⟨(n : List UInt8), _⟩ ⟨_, (b : List Int), (l : Known), _⟩ r h
 simp only [Tr.get] at h
 cases hc : (pkC b l && Nat.ble n.length 100000000000) with
 | false => rw [hc] at h; cases h
 | true =>
   rw [hc, cond_true] at h
   simp only [pkC, Bool.and_eq_true] at hc
   obtain ⟨⟨hok, hk, hb⟩, hn⟩ := hc
   have hb := Nat.le_of_ble_eq_true hb
   have hn := Nat.le_of_ble_eq_true hn
   refine Tr.get_of_all ?_
   show (t59 n b l).all _
   have hbig : bigS n = true := by simp [bigS]; omega
   cases hm : mayV n with
   | false =>
     rw [hm, cond_false] at h
     cases h
     unfold t59
     rw [hm]
     exact Tr.all_t hbig (Tr.all_t rfl (Tr.all_ret rfl))
   | true =>
     rw [hm, cond_true] at h
     cases h
     unfold t59
     rw [hm]
     have hr : rootV n = true := by simp only [mayV, Bool.and_eq_true] at hm; exact hm.1
     obtain ⟨f1, f2, f3, f4, f5, f6⟩ := nameL_facts _ n (intBytes b) l rfl hr
     rw [intB_len] at f3
     refine Tr.all_t hbig (Tr.all_f rfl (Tr.all_t (by simp only [nmC, hr, hok, hk, Bool.true_and]; exact Nat.ble_eq_true_of_le (by omega)) ?_))
     unfold nameP
     cases hf : (nameL n (intBytes b) l).1 with
     | some a =>
       refine Tr.all_t rfl (Tr.all_ret ?_)
       rfl
     | none =>
       rw [f1 hf] at f3
       refine Tr.all_f rfl (Tr.all_t (fits_true (by rw [bytesInt_len, bytesInt_len, f1 hf]; simp at f3 ⊢; omega) (by rw [bytesInt_len, bytesInt_len, f1 hf]; simp at f3 ⊢; omega)) (Tr.all_ret ?_))
       rw [f1 hf, ← bytesInt_app]
       rfl
abbrev PKt := List UInt8 × Known
def stN (p : PKt) (x : List UInt8 × Bool) : PKt := bif mayV x.1 then nameP x.1 p.1 p.2 else p
theorem drop_getD {α : Type} {l : List α} {i : Int} (d : α) (h0 : 0 ≤ i) (h : i < l.length) : l.drop i.toNat = l.getD i.toNat d :: l.drop (i + 1).toNat ∧ l.getD i.toNat d ∈ l := by
 have hk : i.toNat < l.length := by omega
 rw [List.getD_eq_getElem?_getD, List.getElem?_eq_getElem hk, show (i + 1).toNat = i.toNat + 1 by omega]
 exact ⟨List.drop_eq_getElem_cons hk, List.getElem_mem hk⟩
def layV (k : Int) : List Int := if k = 1 then [4] else if k = 28 then [16] else if k = 2 ∨ k = 5 ∨ k = 12 then [-1] else if k = 15 then [2, -1] else if k = 6 then [-1, -1, 20] else if k = 16 then [-2] else [-3]
def whAt (s : List UInt8) (k : Nat) : Nat := if h : k < s.length ∧ 0 < byN s k then whAt s (k + 1 + byN s k) else k
termination_by s.length - k
def wholeV (s : List UInt8) : Nat := if whAt s 0 < s.length ∧ mayV (s.take (whAt s 0 + 1)) = true then whAt s 0 + 1 else 0
theorem wholeV_le (s : List UInt8) : wholeV s ≤ s.length := by
 unfold wholeV
 split <;> omega
def txAt (s : List UInt8) (k : Nat) : Nat := if h : k < s.length then txAt s (k + 1 + byN s k) else k
termination_by s.length - k
def textsV (s : List UInt8) : Bool := !s.isEmpty && decide (txAt s 0 = s.length)
def szP (p : Int) (d : List UInt8) : Int := if p = -1 then (wholeV d : Int) else if p = -2 ∧ textsV d = true ∨ p = -3 then (d.length : Int) else p
def okP (p : Int) (d : List UInt8) : Bool := decide (0 ≤ szP p d) && (decide (szP p d ≤ (d.length : Int)) && !(decide (p = -1) && decide (szP p d = 0)))
def cutS : List Int → List UInt8 → List (List UInt8) → Bool × (List UInt8 × List (List UInt8))
 | [], d, out => (true, d, out)
 | p :: ps, d, out => if okP p d = true then cutS ps (d.drop (szP p d).toNat) (out ++ [d.take (szP p d).toNat]) else (false, d, out)
def noS (l : List (List UInt8)) : Bool := l.isEmpty
def cutC (d : List UInt8) (ps : List Int) (n i : Int) (l : List (List UInt8)) : Bool := bigS d && (decide (n = ps.length) && (decide (i = 0) && (noS l && decide (ps.length ≤ 10))))
def okV (k : Int) (d : List UInt8) : Bool := (cutS (layV k) d []).1
def restV (k : Int) (d : List UInt8) : List UInt8 := (cutS (layV k) d []).2.1
def partsV (k : Int) (d : List UInt8) : List (List UInt8) := (cutS (layV k) d []).2.2
def mayR (k : Int) (d : List UInt8) : Bool := (okV k d && (restV k d).isEmpty) && Nat.ble d.length 65535
def putS : List Int → List (List UInt8) → PKt → PKt
 | [], _, p => p
 | x :: ps, ls, p => putS ps ls.tail (bif x == -1 then stN p (ls.headD [], false) else (p.1 ++ ls.headD [], p.2))
def putC (ls : List (List UInt8)) (ps : List Int) (n i : Int) (b : List Int) (m : Known) : Bool := (bytesOk b && (kOk m && Nat.ble b.length 1000000000)) && (decide (n = ps.length) && (decide (i = 0) && (decide (ls.length = ps.length) && (decide (ps.length ≤ 10) && ls.all fun x => decide (x.length ≤ 1000000)))))
def takeD : List Int → List UInt8 → Int → Int → List UInt8 → Bool × (Int × List UInt8)
 | [], _, a, _, d => (true, a, d)
 | x :: ps, s, a, e, d =>
   if x = -1 then
    (match takeG s a a (-1) [] with
    | none => (false, a, d)
    | some (n, next) => if next > e then (false, a, d) else takeD ps s next e (d ++ n))
   else
    (if someB s a (if x = -2 ∨ x = -3 then e - a else x) = true ∧ a + (if x = -2 ∨ x = -3 then e - a else x) ≤ e then takeD ps s (a + (if x = -2 ∨ x = -3 then e - a else x)) e (d ++ someV s a (if x = -2 ∨ x = -3 then e - a else x)) else (false, a, d))
def noT (d : List UInt8) : Bool := d.isEmpty
def smS (s : List UInt8) : Bool := decide (s.length ≤ 100000000)
def takeC (s : List UInt8) (a e : Int) (d : List UInt8) (ps : List Int) (n i : Int) : Bool := smS s && (decide (n = ps.length) && (decide (i = 0) && (decide (0 ≤ a) && (decide (a ≤ e) && (decide (e ≤ s.length) && (noT d && decide (ps.length ≤ 10)))))))
def pkT (b : List Int) (m : Known) : Bool := bytesOk b && (kOk m && Nat.ble b.length 1000000000)
def putR (k : Int) (d : List UInt8) (p : PKt) : PKt := putS (layV k) (partsV k d) p
def takeV (s : List UInt8) (a n k : Int) : Option (List UInt8) := if someB s a n = true then (if (takeD (layV k) s a (a + n) []).1 = true ∧ (takeD (layV k) s a (a + n) []).2.1 = a + n ∧ mayR k (takeD (layV k) s a (a + n) []).2.2 = true then some (takeD (layV k) s a (a + n) []).2.2 else none) else none
theorem stN_k {p : PKt} {x : List UInt8 × Bool} (h : kOk p.2 = true) : kOk (stN p x).2 = true ∧ (stN p x).1.length ≤ p.1.length + x.1.length := by
 unfold stN
 cases hm : mayV x.1 with
 | false => exact ⟨h, by simp⟩
 | true =>
   obtain ⟨_, _, _, f4, _⟩ := nameL_facts _ x.1 p.1 p.2 rfl (may_iff.1 hm).1
   obtain ⟨l1, _⟩ := nameL_len _ x.1 p.1 p.2 rfl (may_iff.1 hm).1
   exact ⟨f4 h, l1⟩
theorem takeG_place {s : List UInt8} {a : Int} {n : List UInt8} {next : Int} (h0 : 0 ≤ a) (h : takeG s a a (-1) [] = some (n, next)) : mayV n = true ∧ a < next ∧ next ≤ s.length := by
 obtain ⟨a1, _, a3, _⟩ := takeG_may _ a a (-1) [] n next rfl LP_nil h
 exact ⟨a1, a3 (by omega)⟩
theorem loop_tr2 {α : Type} {F : St → Option (St ⊕ (Ex × St))} (mk : α → St) (I : α → Prop) (m : α → Nat) (r : Ex × St) (t : α → Tr (St ⊕ (Ex × St))) (hF : ∀ a x, (t a).get = some x → F (mk a) = some x)
    (h : ∀ a, I a → (t a).all fun x => x = .inr r ∨ (∃ a', x = .inl (mk a') ∧ I a' ∧ m a' < m a) ∨ ∃ st', x = .inl st' ∧ loopF F st' = some r) : ∀ a, I a → loopF F (mk a) = some r := by
 have key : ∀ (n : Nat) (a : α), m a = n → I a → loopF F (mk a) = some r := by
  intro n
  induction n using Nat.strongRecOn with
  | _ n ih =>
    intro a hn ha
    obtain ⟨x, h1, h2⟩ := Tr.all_get (h a ha)
    rcases h2 with rfl | ⟨a', rfl, ha', hlt⟩ | ⟨st', rfl, h3⟩
    · exact loopF_inr (hF a _ h1)
    · rw [loopF_inl (hF a _ h1)]
      exact ih (m a') (by omega) a' rfl ha'
    · rw [loopF_inl (hF a _ h1)]
      exact h3
 exact fun a ha => key _ a rfl ha
def tkC (s : List UInt8) (b : List Int) : Bool := bigS s && (bytesOk b && Nat.ble b.length 255)
def tkI (s : List UInt8) (a0 f0 h0 : Int) (b0 : List Int) (at_ from_ behind : Int) (b : List Int) : Prop := bytesOk b = true ∧ b.length ≤ 255 ∧ takeG s at_ from_ behind (intBytes b) = takeG s a0 f0 h0 (intBytes b0)
noncomputable def b90u : Code := (nthLoop c90 0)
def ls90u : LoopSpec := { bid := 0, sh := [.d .str false, .d (.int .i64) false, .ptr 0 0, .d (.int .i64) false, .d (.int .i64) false], so := [.tbox 162 [.ptr 0 0, .row 1], .row (.int .u8)], F := fun (s, at_, from_, behind, _) (_, b, _) => .on (tkC s b) (.ret, [.str (tkS (takeG s at_ from_ behind (intBytes b))), .int .i64 (tkN (takeG s at_ from_ behind (intBytes b))), .int .i64 (tkE (takeG s at_ from_ behind (intBytes b)))], []) }
def r90u (s : List UInt8) (at_ from_ behind : Int) (b : List Int) : Tr (St ⊕ (Ex × St)) := .br (bigS s) (.br (someB s at_ 1) (.br (decide ((↑(UInt8.toNat (s.getD at_.toNat 0)) : Int) > 63)) (.br (decide ((↑(UInt8.toNat (s.getD at_.toNat 0)) : Int) < 192)) (.ret (.inr (.ret, stOf [4, 5, 6] [.str [], .int .i64 0, .int .i64 2] []))) (.br (decide ((↑(UInt8.toNat (s.getD at_.toNat 0)) : Int) ≥ 192)) (.br (bigS s) (.br (someB s at_ 2) (.br (decide (IntKind.wrap .i64 (↑(BitVec.toNat (BitVec.ofInt (IntKind.bits IntKind.i64) (IntKind.wrap .i64 (n16 s at_)) &&& ~~~BitVec.ofInt (IntKind.bits IntKind.i64) 49152)) : Int) < from_)) (.br (decide (behind < 0)) (.ret (.inl (stOf [0, 1, 7, 8, 9] [.str s, .int .i64 (IntKind.wrap .i64 (↑(BitVec.toNat (BitVec.ofInt (IntKind.bits IntKind.i64) (IntKind.wrap .i64 (n16 s at_)) &&& ~~~BitVec.ofInt (IntKind.bits IntKind.i64) 49152)) : Int)), .ptr 0 0, .int .i64 (IntKind.wrap .i64 (↑(BitVec.toNat (BitVec.ofInt (IntKind.bits IntKind.i64) (IntKind.wrap .i64 (n16 s at_)) &&& ~~~BitVec.ofInt (IntKind.bits IntKind.i64) 49152)) : Int)), .int .i64 (at_ + (2 : Ty.den (Ty.int .i64)))] [.boxT (some 162) [.ptr 0 0, .rowA 1], .row (.int .u8) b]))) (.ret (.inl (stOf [0, 1, 7, 8, 9] [.str s, .int .i64 (IntKind.wrap .i64 (↑(BitVec.toNat (BitVec.ofInt (IntKind.bits IntKind.i64) (IntKind.wrap .i64 (n16 s at_)) &&& ~~~BitVec.ofInt (IntKind.bits IntKind.i64) 49152)) : Int)), .ptr 0 0, .int .i64 (IntKind.wrap .i64 (↑(BitVec.toNat (BitVec.ofInt (IntKind.bits IntKind.i64) (IntKind.wrap .i64 (n16 s at_)) &&& ~~~BitVec.ofInt (IntKind.bits IntKind.i64) 49152)) : Int)), .int .i64 behind] [.boxT (some 162) [.ptr 0 0, .rowA 1], .row (.int .u8) b])))) (.ret (.inr (.ret, stOf [4, 5, 6] [.str [], .int .i64 0, .int .i64 2] [])))) (.ret (.inr (.ret, stOf [4, 5, 6] [.str [], .int .i64 0, .int .i64 2] [])))) .no) (.br (bigS s) (.br (someB s (at_ + (1 : Ty.den (Ty.int .i64))) (IntKind.wrap .i64 (↑(UInt8.toNat (s.getD at_.toNat 0)) : Int))) (.br (decide (IntKind.wrap .i64 (IntKind.wrap .i64 ((↑b.length : Int) + 1) + (↑(List.length (someV s (at_ + (1 : Ty.den (Ty.int .i64))) (IntKind.wrap .i64 (↑(UInt8.toNat (s.getD at_.toNat 0)) : Int)))) : Int)) > 255)) (.ret (.inr (.ret, stOf [4, 5, 6] [.str [], .int .i64 0, .int .i64 2] []))) (.br (fits (List.length b + 1) 1) (.br (bigS (someV s (at_ + (1 : Ty.den (Ty.int .i64))) (IntKind.wrap .i64 (↑(UInt8.toNat (s.getD at_.toNat 0)) : Int)))) (.br (fits (List.length (b ++ [(↑(UInt8.toNat (s.getD at_.toNat 0)) : Int)]) + List.length (bytesInt (foldB (someV s (at_ + (1 : Ty.den (Ty.int .i64))) (IntKind.wrap .i64 (↑(UInt8.toNat (s.getD at_.toNat 0)) : Int)))))) 1) (.br (decide ((↑(UInt8.toNat (s.getD at_.toNat 0)) : Int) > 0)) (.ret (.inl (stOf [0, 1, 7, 8, 9] [.str s, .int .i64 (at_ + (1 : Ty.den (Ty.int .i64)) + IntKind.wrap .i64 (↑(UInt8.toNat (s.getD at_.toNat 0)) : Int)), .ptr 0 0, .int .i64 from_, .int .i64 behind] [.boxT (some 162) [.ptr 0 0, .rowA 1], .row (.int .u8) (b ++ [(↑(UInt8.toNat (s.getD at_.toNat 0)) : Int)] ++ bytesInt (foldB (someV s (at_ + (1 : Ty.den (Ty.int .i64))) (IntKind.wrap .i64 (↑(UInt8.toNat (s.getD at_.toNat 0)) : Int)))))]))) (.br (decide (behind < 0)) (.br (bytesOk (b ++ [(↑(UInt8.toNat (s.getD at_.toNat 0)) : Int)] ++ bytesInt (foldB (someV s (at_ + (1 : Ty.den (Ty.int .i64))) (IntKind.wrap .i64 (↑(UInt8.toNat (s.getD at_.toNat 0)) : Int))))) && (!List.isEmpty (b ++ [(↑(UInt8.toNat (s.getD at_.toNat 0)) : Int)] ++ bytesInt (foldB (someV s (at_ + (1 : Ty.den (Ty.int .i64))) (IntKind.wrap .i64 (↑(UInt8.toNat (s.getD at_.toNat 0)) : Int))))) && Nat.ble (List.length (b ++ [(↑(UInt8.toNat (s.getD at_.toNat 0)) : Int)] ++ bytesInt (foldB (someV s (at_ + (1 : Ty.den (Ty.int .i64))) (IntKind.wrap .i64 (↑(UInt8.toNat (s.getD at_.toNat 0)) : Int)))))) 9223372036854775807)) (.ret (.inr (.ret, stOf [4, 5, 6] [.str (intBytes (b ++ [(↑(UInt8.toNat (s.getD at_.toNat 0)) : Int)] ++ bytesInt (foldB (someV s (at_ + (1 : Ty.den (Ty.int .i64))) (IntKind.wrap .i64 (↑(UInt8.toNat (s.getD at_.toNat 0)) : Int)))))), .int .i64 (at_ + (1 : Ty.den (Ty.int .i64)) + IntKind.wrap .i64 (↑(UInt8.toNat (s.getD at_.toNat 0)) : Int)), .int .i64 0] []))) .no) (.br (bytesOk (b ++ [(↑(UInt8.toNat (s.getD at_.toNat 0)) : Int)] ++ bytesInt (foldB (someV s (at_ + (1 : Ty.den (Ty.int .i64))) (IntKind.wrap .i64 (↑(UInt8.toNat (s.getD at_.toNat 0)) : Int))))) && (!List.isEmpty (b ++ [(↑(UInt8.toNat (s.getD at_.toNat 0)) : Int)] ++ bytesInt (foldB (someV s (at_ + (1 : Ty.den (Ty.int .i64))) (IntKind.wrap .i64 (↑(UInt8.toNat (s.getD at_.toNat 0)) : Int))))) && Nat.ble (List.length (b ++ [(↑(UInt8.toNat (s.getD at_.toNat 0)) : Int)] ++ bytesInt (foldB (someV s (at_ + (1 : Ty.den (Ty.int .i64))) (IntKind.wrap .i64 (↑(UInt8.toNat (s.getD at_.toNat 0)) : Int)))))) 9223372036854775807)) (.ret (.inr (.ret, stOf [4, 5, 6] [.str (intBytes (b ++ [(↑(UInt8.toNat (s.getD at_.toNat 0)) : Int)] ++ bytesInt (foldB (someV s (at_ + (1 : Ty.den (Ty.int .i64))) (IntKind.wrap .i64 (↑(UInt8.toNat (s.getD at_.toNat 0)) : Int)))))), .int .i64 behind, .int .i64 0] []))) .no))) .no) .no) .no)) (.ret (.inr (.ret, stOf [4, 5, 6] [.str [], .int .i64 0, .int .i64 2] [])))) .no))) (.br (decide ((↑(UInt8.toNat (s.getD at_.toNat 0)) : Int) ≥ 192)) (.br (bigS s) (.br (someB s at_ 2) (.br (decide (IntKind.wrap .i64 (↑(BitVec.toNat (BitVec.ofInt (IntKind.bits IntKind.i64) (IntKind.wrap .i64 (n16 s at_)) &&& ~~~BitVec.ofInt (IntKind.bits IntKind.i64) 49152)) : Int) < from_)) (.br (decide (behind < 0)) (.ret (.inl (stOf [0, 1, 7, 8, 9] [.str s, .int .i64 (IntKind.wrap .i64 (↑(BitVec.toNat (BitVec.ofInt (IntKind.bits IntKind.i64) (IntKind.wrap .i64 (n16 s at_)) &&& ~~~BitVec.ofInt (IntKind.bits IntKind.i64) 49152)) : Int)), .ptr 0 0, .int .i64 (IntKind.wrap .i64 (↑(BitVec.toNat (BitVec.ofInt (IntKind.bits IntKind.i64) (IntKind.wrap .i64 (n16 s at_)) &&& ~~~BitVec.ofInt (IntKind.bits IntKind.i64) 49152)) : Int)), .int .i64 (at_ + (2 : Ty.den (Ty.int .i64)))] [.boxT (some 162) [.ptr 0 0, .rowA 1], .row (.int .u8) b]))) (.ret (.inl (stOf [0, 1, 7, 8, 9] [.str s, .int .i64 (IntKind.wrap .i64 (↑(BitVec.toNat (BitVec.ofInt (IntKind.bits IntKind.i64) (IntKind.wrap .i64 (n16 s at_)) &&& ~~~BitVec.ofInt (IntKind.bits IntKind.i64) 49152)) : Int)), .ptr 0 0, .int .i64 (IntKind.wrap .i64 (↑(BitVec.toNat (BitVec.ofInt (IntKind.bits IntKind.i64) (IntKind.wrap .i64 (n16 s at_)) &&& ~~~BitVec.ofInt (IntKind.bits IntKind.i64) 49152)) : Int)), .int .i64 behind] [.boxT (some 162) [.ptr 0 0, .rowA 1], .row (.int .u8) b])))) (.ret (.inr (.ret, stOf [4, 5, 6] [.str [], .int .i64 0, .int .i64 2] [])))) (.ret (.inr (.ret, stOf [4, 5, 6] [.str [], .int .i64 0, .int .i64 2] [])))) .no) (.br (bigS s) (.br (someB s (at_ + (1 : Ty.den (Ty.int .i64))) (IntKind.wrap .i64 (↑(UInt8.toNat (s.getD at_.toNat 0)) : Int))) (.br (decide (IntKind.wrap .i64 (IntKind.wrap .i64 ((↑b.length : Int) + 1) + (↑(List.length (someV s (at_ + (1 : Ty.den (Ty.int .i64))) (IntKind.wrap .i64 (↑(UInt8.toNat (s.getD at_.toNat 0)) : Int)))) : Int)) > 255)) (.ret (.inr (.ret, stOf [4, 5, 6] [.str [], .int .i64 0, .int .i64 2] []))) (.br (fits (List.length b + 1) 1) (.br (bigS (someV s (at_ + (1 : Ty.den (Ty.int .i64))) (IntKind.wrap .i64 (↑(UInt8.toNat (s.getD at_.toNat 0)) : Int)))) (.br (fits (List.length (b ++ [(↑(UInt8.toNat (s.getD at_.toNat 0)) : Int)]) + List.length (bytesInt (foldB (someV s (at_ + (1 : Ty.den (Ty.int .i64))) (IntKind.wrap .i64 (↑(UInt8.toNat (s.getD at_.toNat 0)) : Int)))))) 1) (.br (decide ((↑(UInt8.toNat (s.getD at_.toNat 0)) : Int) > 0)) (.ret (.inl (stOf [0, 1, 7, 8, 9] [.str s, .int .i64 (at_ + (1 : Ty.den (Ty.int .i64)) + IntKind.wrap .i64 (↑(UInt8.toNat (s.getD at_.toNat 0)) : Int)), .ptr 0 0, .int .i64 from_, .int .i64 behind] [.boxT (some 162) [.ptr 0 0, .rowA 1], .row (.int .u8) (b ++ [(↑(UInt8.toNat (s.getD at_.toNat 0)) : Int)] ++ bytesInt (foldB (someV s (at_ + (1 : Ty.den (Ty.int .i64))) (IntKind.wrap .i64 (↑(UInt8.toNat (s.getD at_.toNat 0)) : Int)))))]))) (.br (decide (behind < 0)) (.br (bytesOk (b ++ [(↑(UInt8.toNat (s.getD at_.toNat 0)) : Int)] ++ bytesInt (foldB (someV s (at_ + (1 : Ty.den (Ty.int .i64))) (IntKind.wrap .i64 (↑(UInt8.toNat (s.getD at_.toNat 0)) : Int))))) && (!List.isEmpty (b ++ [(↑(UInt8.toNat (s.getD at_.toNat 0)) : Int)] ++ bytesInt (foldB (someV s (at_ + (1 : Ty.den (Ty.int .i64))) (IntKind.wrap .i64 (↑(UInt8.toNat (s.getD at_.toNat 0)) : Int))))) && Nat.ble (List.length (b ++ [(↑(UInt8.toNat (s.getD at_.toNat 0)) : Int)] ++ bytesInt (foldB (someV s (at_ + (1 : Ty.den (Ty.int .i64))) (IntKind.wrap .i64 (↑(UInt8.toNat (s.getD at_.toNat 0)) : Int)))))) 9223372036854775807)) (.ret (.inr (.ret, stOf [4, 5, 6] [.str (intBytes (b ++ [(↑(UInt8.toNat (s.getD at_.toNat 0)) : Int)] ++ bytesInt (foldB (someV s (at_ + (1 : Ty.den (Ty.int .i64))) (IntKind.wrap .i64 (↑(UInt8.toNat (s.getD at_.toNat 0)) : Int)))))), .int .i64 (at_ + (1 : Ty.den (Ty.int .i64)) + IntKind.wrap .i64 (↑(UInt8.toNat (s.getD at_.toNat 0)) : Int)), .int .i64 0] []))) .no) (.br (bytesOk (b ++ [(↑(UInt8.toNat (s.getD at_.toNat 0)) : Int)] ++ bytesInt (foldB (someV s (at_ + (1 : Ty.den (Ty.int .i64))) (IntKind.wrap .i64 (↑(UInt8.toNat (s.getD at_.toNat 0)) : Int))))) && (!List.isEmpty (b ++ [(↑(UInt8.toNat (s.getD at_.toNat 0)) : Int)] ++ bytesInt (foldB (someV s (at_ + (1 : Ty.den (Ty.int .i64))) (IntKind.wrap .i64 (↑(UInt8.toNat (s.getD at_.toNat 0)) : Int))))) && Nat.ble (List.length (b ++ [(↑(UInt8.toNat (s.getD at_.toNat 0)) : Int)] ++ bytesInt (foldB (someV s (at_ + (1 : Ty.den (Ty.int .i64))) (IntKind.wrap .i64 (↑(UInt8.toNat (s.getD at_.toNat 0)) : Int)))))) 9223372036854775807)) (.ret (.inr (.ret, stOf [4, 5, 6] [.str (intBytes (b ++ [(↑(UInt8.toNat (s.getD at_.toNat 0)) : Int)] ++ bytesInt (foldB (someV s (at_ + (1 : Ty.den (Ty.int .i64))) (IntKind.wrap .i64 (↑(UInt8.toNat (s.getD at_.toNat 0)) : Int)))))), .int .i64 behind, .int .i64 0] []))) .no))) .no) .no) .no)) (.ret (.inr (.ret, stOf [4, 5, 6] [.str [], .int .i64 0, .int .i64 2] [])))) .no))) (.ret (.inr (.ret, stOf [4, 5, 6] [.str [], .int .i64 0, .int .i64 2] [])))) .no
theorem round90u (lp : Lp) (s : List UInt8) (at_ from_ behind : Int) (b : List Int) : evC T0 (orcB [fs116w, fs55w, fs93w, fs96w] [os117n, os117u, os118n, os118u, os119u, osStr]) lp b90u 0 (stOf [0, 1, 7, 8, 9] [.str s, .int .i64 at_, .ptr 0 0, .int .i64 from_, .int .i64 behind] [.boxT (some 162) [.ptr 0 0, .rowA 1], .row (.int .u8) b]) (roundK [0, 1, 7, 8, 9] [4, 5, 6] 0) = (r90u s at_ from_ behind b).get := by kernel_rfl
theorem wf90u (s : List UInt8) (I'' : Int → Int → Int → List Int → Prop) (m'' : Int → Int → Int → List Int → Nat) (r'' : Ex × St) (h : ∀ (at_ from_ behind : Int) (b : List Int), I'' at_ from_ behind b → (r90u s at_ from_ behind b).all fun x'' => x'' = .inr r'' ∨ ∃ (at_' from_' behind' : Int) (b' : List Int), x'' = .inl (stOf [0, 1, 7, 8, 9] [.str s, .int .i64 at_', .ptr 0 0, .int .i64 from_', .int .i64 behind'] [.boxT (some 162) [.ptr 0 0, .rowA 1], .row (.int .u8) b']) ∧ I'' at_' from_' behind' b' ∧ m'' at_' from_' behind' b' < m'' at_ from_ behind b) (lp : Lp) (at_ from_ behind : Int) (b : List Int) : I'' at_ from_ behind b →
    loopF (fun st => evC T0 (orcB [fs116w, fs55w, fs93w, fs96w] [os117n, os117u, os118n, os118u, os119u, osStr]) lp b90u 0 st (roundK [0, 1, 7, 8, 9] [4, 5, 6] 0)) (stOf [0, 1, 7, 8, 9] [.str s, .int .i64 at_, .ptr 0 0, .int .i64 from_, .int .i64 behind] [.boxT (some 162) [.ptr 0 0, .rowA 1], .row (.int .u8) b]) = some r'' :=
 loop_tr (fun a'' : Int × Int × Int × List Int => stOf [0, 1, 7, 8, 9] [.str s, .int .i64 a''.1, .ptr 0 0, .int .i64 a''.2.1, .int .i64 a''.2.2.1] [.boxT (some 162) [.ptr 0 0, .rowA 1], .row (.int .u8) a''.2.2.2]) (fun a'' => I'' a''.1 a''.2.1 a''.2.2.1 a''.2.2.2) (fun a'' => m'' a''.1 a''.2.1 a''.2.2.1 a''.2.2.2) r'' (fun a'' => r90u s a''.1 a''.2.1 a''.2.2.1 a''.2.2.2)
  (fun a'' x hx => (round90u lp s a''.1 a''.2.1 a''.2.2.1 a''.2.2.2).trans hx) (fun a'' ha => Tr.all_mono (fun x'' hx => hx.imp id fun ⟨at_', from_', behind', b', h1, h2, h3⟩ => ⟨(at_', from_', behind', b'), h1, h2, h3⟩) (h (a''.1) (a''.2.1) (a''.2.2.1) (a''.2.2.2) ha)) (at_, from_, behind, b)
theorem loop90u : ls90u.Ok T0 (orcB [fs116w, fs55w, fs93w, fs96w] [os117n, os117u, os118n, os118u, os119u, osStr]) h90 0 0 b90u := by
 intro q'' hq'' x'' y'' r'' h
 obtain ⟨(s : List UInt8), (at_ : Int), (from_ : Int), (behind : Int), _⟩ := x''
 obtain ⟨_, (b : List Int), _⟩ := y''
 obtain ⟨hc, rfl⟩ := Tr.get_on h
 show loopF (fun st => evC T0 (orcB [fs116w, fs55w, fs93w, fs96w] [os117n, os117u, os118n, os118u, os119u, osStr]) (lpN T0 (orcB [fs116w, fs55w, fs93w, fs96w] [os117n, os117u, os118n, os118u, os119u, osStr]) h90 0 q'') b90u 0 st (roundK [0, 1, 7, 8, 9] [4, 5, 6] 0)) (stOf [0, 1, 7, 8, 9] [.str s, .int .i64 at_, .ptr 0 0, .int .i64 from_, .int .i64 behind] [.boxT (some 162) [.ptr 0 0, .rowA 1], .row (.int .u8) b]) = some (.ret, stOf [4, 5, 6] ([.str (tkS (takeG s at_ from_ behind (intBytes b))), .int .i64 (tkN (takeG s at_ from_ behind (intBytes b))), .int .i64 (tkE (takeG s at_ from_ behind (intBytes b)))]) ([]))
 simp only [tkC, Bool.and_eq_true] at hc
 obtain ⟨hbig, hok, hb⟩ := hc
 have hb := Nat.le_of_ble_eq_true hb
 refine wf90u s (tkI s at_ from_ behind b) (fun at_ from_ _ _ => msT s at_ from_) _ ?_ _ at_ from_ behind b ⟨hok, hb, rfl⟩
 clear hok hb
 rintro at_ from_ behind b ⟨hok, hb, he⟩
 rw [← he]
 unfold r90u
 have hB : s.length ≤ 1000000000000 := by simpa [bigS] using hbig
 have hc : (↑(UInt8.toNat (List.getD s (Int.toNat at_) 0)) : Int) = (szT s at_ : Int) := rfl
 have hc255 := szT_lt s at_
 have hto := toT_in s at_
 simp only [and_far (n16_in s at_).1 (n16_in s at_).2, hc]
 simp only [show n16 s at_ % 16384 = toT s at_ from rfl, IntWalk.i64_in ((szT s at_ : Nat) : Int) (by omega)]
 cases h1 : someB s at_ 1 with
 | false =>
   rw [takeG_out h1]
   exact Tr.all_t hbig (Tr.all_f rfl (Tr.all_ret (.inl rfl)))
 | true =>
   have hs1 := someB_iff.1 h1
   refine Tr.all_t hbig (Tr.all_t rfl ?_)
   by_cases h192 : 192 ≤ szT s at_
   · refine Tr.all_t (dec_true (by omega)) (Tr.all_f (dec_false (by omega)) (Tr.all_t (dec_true (by omega)) (Tr.all_t hbig ?_)))
     by_cases h3 : someB s at_ 2 = true ∧ toT s at_ < from_
     · rw [takeG_ptr h1 h192 h3.1 h3.2] at he ⊢
       refine Tr.all_t h3.1 (Tr.all_t (dec_true h3.2) (Tr.all_br (fun c1 => ?_) fun c1 => ?_))
       · simp only [decide_eq_true_eq] at c1
         rw [if_pos c1] at he
         exact Tr.all_ret (.inr ⟨_, _, _, _, rfl, ⟨hok, hb, he⟩, msT_to hto.1 h3.2⟩)
       · simp only [decide_eq_false_iff_not] at c1
         rw [if_neg c1] at he
         exact Tr.all_ret (.inr ⟨_, _, _, _, rfl, ⟨hok, hb, he⟩, msT_to hto.1 h3.2⟩)
     · rw [takeG_bad h1 h192 h3]
       cases h2 : someB s at_ 2 with
       | false => exact Tr.all_f rfl (Tr.all_ret (.inl rfl))
       | true => exact Tr.all_t rfl (Tr.all_f (dec_false (fun h => h3 ⟨h2, h⟩)) (Tr.all_ret (.inl rfl)))
   · by_cases h63 : 63 < szT s at_
     · rw [takeG_mid h1 h192 h63]
       exact Tr.all_t (dec_true (by omega)) (Tr.all_t (dec_true (by omega)) (Tr.all_ret (.inl rfl)))
     · refine Tr.all_f (dec_false (by omega)) (Tr.all_f (dec_false (by omega)) (Tr.all_t hbig ?_))
       cases h4 : someB s (at_ + 1) (szT s at_) with
       | false =>
         rw [takeG_long h1 (by omega) (by rw [h4]; simp)]
         exact Tr.all_f rfl (Tr.all_ret (.inl rfl))
       | true =>
         have hs4 := someB_iff.1 h4
         have hvl : (someV s (at_ + 1) (szT s at_ : Int)).length = szT s at_ := by rw [someV_len h4]; omega
         have hvb : bigS (someV s (at_ + 1) (szT s at_ : Int)) = true := by simp [bigS, hvl]; omega
         rw [hvl]
         rw [IntWalk.i64_in ((List.length b : Int) + 1) (by omega), IntWalk.i64_in _ (by omega)]
         refine Tr.all_t rfl ?_
         by_cases h5 : b.length + 1 + szT s at_ ≤ 255
         · have hnew : bytesOk (b ++ [((szT s at_ : Nat) : Int)] ++ bytesInt (foldB (someV s (at_ + 1) (szT s at_ : Int)))) = true := by
             refine bytesOk_app (bytesOk_app hok ?_) (bytesInt_ok _)
             simp [bytesOk]
             omega
           have hnl : (b ++ [((szT s at_ : Nat) : Int)] ++ bytesInt (foldB (someV s (at_ + 1) (szT s at_ : Int)))).length = b.length + 1 + szT s at_ := by
            simp [bytesInt_len, foldB_len, hvl]
            omega
           have hS2 : intBytes (b ++ [((szT s at_ : Nat) : Int)] ++ bytesInt (foldB (someV s (at_ + 1) (szT s at_ : Int)))) = intBytes b ++ s.getD at_.toNat 0 :: foldB (someV s (at_ + 1) (szT s at_ : Int)) := by
            rw [intB_app, intB_app, intB_bytes]
            have : intBytes [((szT s at_ : Nat) : Int)] = [s.getD at_.toNat 0] := by simp [intBytes, szT]
            rw [this]
            simp
           refine Tr.all_f (dec_false (by omega)) (Tr.all_t (fits_true (by omega) (by omega)) (Tr.all_t hvb (Tr.all_t (fits_true (by simp [bytesInt_len, foldB_len, hvl]; omega) (by simp [bytesInt_len, foldB_len, hvl]; omega)) ?_)))
           by_cases h0 : szT s at_ = 0
           · rw [takeG_end h1 h0 (by rw [intB_len]; omega)]
             have hv0 : someV s (at_ + 1) (szT s at_ : Int) = [] := List.length_eq_zero_iff.1 (by rw [hvl]; exact h0)
             have hg0 : s.getD at_.toNat 0 = 0 := by
              have : (s.getD at_.toNat 0).toNat = 0 := h0
              exact UInt8.toNat_inj.1 (by simpa using this)
             have hend : (bytesOk (b ++ [((szT s at_ : Nat) : Int)] ++ bytesInt (foldB (someV s (at_ + 1) (szT s at_ : Int)))) && (!List.isEmpty (b ++ [((szT s at_ : Nat) : Int)] ++ bytesInt (foldB (someV s (at_ + 1) (szT s at_ : Int)))) && Nat.ble (List.length (b ++ [((szT s at_ : Nat) : Int)] ++ bytesInt (foldB (someV s (at_ + 1) (szT s at_ : Int))))) 9223372036854775807)) = true := by
              rw [hnew, Nat.ble_eq_true_of_le (by omega)]
              simp
             refine Tr.all_f (dec_false (by omega)) (Tr.all_br (fun c1 => Tr.all_t hend (Tr.all_ret (.inl ?_))) fun c1 => Tr.all_t hend (Tr.all_ret (.inl ?_)))
             · simp only [decide_eq_true_eq] at c1
               rw [if_pos c1, hS2, hv0, hg0, h0]
               simp [foldB]
               rfl
             · simp only [decide_eq_false_iff_not] at c1
               rw [if_neg c1, hS2, hv0, hg0]
               rfl
           · have hG := takeG_on (s := s) (at_ := at_) (from_ := from_) (behind := behind) (out := intBytes b) h1 (by omega) h0 h4 (by rw [intB_len]; omega)
             rw [← hS2] at hG
             rw [hG] at he ⊢
             refine Tr.all_t (dec_true (by omega)) (Tr.all_ret ?_)
             exact .inr ⟨_, _, _, _, rfl, ⟨hnew, by omega, he⟩, msT_on hs1.1 hs4.2.2⟩
         · rw [takeG_long h1 (by omega) (by rw [intB_len]; exact fun h => h5 h.2)]
           exact Tr.all_t (dec_true (by omega)) (Tr.all_ret (.inl rfl))
noncomputable def b90n : Code := (nthLoop c90 0)
def ls90n : LoopSpec := { bid := 0, sh := [.d .str false, .d (.int .i64) false, .ptr 0 0, .d (.int .i64) false, .d (.int .i64) false], so := [.tbox 162 [.np, .row 1], .row (.int .u8)], F := fun (s, at_, from_, behind, _) (_, b, _) => .on (tkC s b) (.ret, [.str (tkS (takeG s at_ from_ behind (intBytes b))), .int .i64 (tkN (takeG s at_ from_ behind (intBytes b))), .int .i64 (tkE (takeG s at_ from_ behind (intBytes b)))], []) }
def r90n (s : List UInt8) (at_ from_ behind : Int) (b : List Int) : Tr (St ⊕ (Ex × St)) := .br (bigS s) (.br (someB s at_ 1) (.br (decide ((↑(UInt8.toNat (s.getD at_.toNat 0)) : Int) > 63)) (.br (decide ((↑(UInt8.toNat (s.getD at_.toNat 0)) : Int) < 192)) (.ret (.inr (.ret, stOf [4, 5, 6] [.str [], .int .i64 0, .int .i64 2] []))) (.br (decide ((↑(UInt8.toNat (s.getD at_.toNat 0)) : Int) ≥ 192)) (.br (bigS s) (.br (someB s at_ 2) (.br (decide (IntKind.wrap .i64 (↑(BitVec.toNat (BitVec.ofInt (IntKind.bits IntKind.i64) (IntKind.wrap .i64 (n16 s at_)) &&& ~~~BitVec.ofInt (IntKind.bits IntKind.i64) 49152)) : Int) < from_)) (.br (decide (behind < 0)) (.ret (.inl (stOf [0, 1, 7, 8, 9] [.str s, .int .i64 (IntKind.wrap .i64 (↑(BitVec.toNat (BitVec.ofInt (IntKind.bits IntKind.i64) (IntKind.wrap .i64 (n16 s at_)) &&& ~~~BitVec.ofInt (IntKind.bits IntKind.i64) 49152)) : Int)), .ptr 0 0, .int .i64 (IntKind.wrap .i64 (↑(BitVec.toNat (BitVec.ofInt (IntKind.bits IntKind.i64) (IntKind.wrap .i64 (n16 s at_)) &&& ~~~BitVec.ofInt (IntKind.bits IntKind.i64) 49152)) : Int)), .int .i64 (at_ + (2 : Ty.den (Ty.int .i64)))] [.boxT (some 162) [.np, .rowA 1], .row (.int .u8) b]))) (.ret (.inl (stOf [0, 1, 7, 8, 9] [.str s, .int .i64 (IntKind.wrap .i64 (↑(BitVec.toNat (BitVec.ofInt (IntKind.bits IntKind.i64) (IntKind.wrap .i64 (n16 s at_)) &&& ~~~BitVec.ofInt (IntKind.bits IntKind.i64) 49152)) : Int)), .ptr 0 0, .int .i64 (IntKind.wrap .i64 (↑(BitVec.toNat (BitVec.ofInt (IntKind.bits IntKind.i64) (IntKind.wrap .i64 (n16 s at_)) &&& ~~~BitVec.ofInt (IntKind.bits IntKind.i64) 49152)) : Int)), .int .i64 behind] [.boxT (some 162) [.np, .rowA 1], .row (.int .u8) b])))) (.ret (.inr (.ret, stOf [4, 5, 6] [.str [], .int .i64 0, .int .i64 2] [])))) (.ret (.inr (.ret, stOf [4, 5, 6] [.str [], .int .i64 0, .int .i64 2] [])))) .no) (.br (bigS s) (.br (someB s (at_ + (1 : Ty.den (Ty.int .i64))) (IntKind.wrap .i64 (↑(UInt8.toNat (s.getD at_.toNat 0)) : Int))) (.br (decide (IntKind.wrap .i64 (IntKind.wrap .i64 ((↑b.length : Int) + 1) + (↑(List.length (someV s (at_ + (1 : Ty.den (Ty.int .i64))) (IntKind.wrap .i64 (↑(UInt8.toNat (s.getD at_.toNat 0)) : Int)))) : Int)) > 255)) (.ret (.inr (.ret, stOf [4, 5, 6] [.str [], .int .i64 0, .int .i64 2] []))) (.br (fits (List.length b + 1) 1) (.br (bigS (someV s (at_ + (1 : Ty.den (Ty.int .i64))) (IntKind.wrap .i64 (↑(UInt8.toNat (s.getD at_.toNat 0)) : Int)))) (.br (fits (List.length (b ++ [(↑(UInt8.toNat (s.getD at_.toNat 0)) : Int)]) + List.length (bytesInt (foldB (someV s (at_ + (1 : Ty.den (Ty.int .i64))) (IntKind.wrap .i64 (↑(UInt8.toNat (s.getD at_.toNat 0)) : Int)))))) 1) (.br (decide ((↑(UInt8.toNat (s.getD at_.toNat 0)) : Int) > 0)) (.ret (.inl (stOf [0, 1, 7, 8, 9] [.str s, .int .i64 (at_ + (1 : Ty.den (Ty.int .i64)) + IntKind.wrap .i64 (↑(UInt8.toNat (s.getD at_.toNat 0)) : Int)), .ptr 0 0, .int .i64 from_, .int .i64 behind] [.boxT (some 162) [.ptr 0 0, .rowA 1], .row (.int .u8) (b ++ [(↑(UInt8.toNat (s.getD at_.toNat 0)) : Int)] ++ bytesInt (foldB (someV s (at_ + (1 : Ty.den (Ty.int .i64))) (IntKind.wrap .i64 (↑(UInt8.toNat (s.getD at_.toNat 0)) : Int)))))]))) (.br (decide (behind < 0)) (.br (bytesOk (b ++ [(↑(UInt8.toNat (s.getD at_.toNat 0)) : Int)] ++ bytesInt (foldB (someV s (at_ + (1 : Ty.den (Ty.int .i64))) (IntKind.wrap .i64 (↑(UInt8.toNat (s.getD at_.toNat 0)) : Int))))) && (!List.isEmpty (b ++ [(↑(UInt8.toNat (s.getD at_.toNat 0)) : Int)] ++ bytesInt (foldB (someV s (at_ + (1 : Ty.den (Ty.int .i64))) (IntKind.wrap .i64 (↑(UInt8.toNat (s.getD at_.toNat 0)) : Int))))) && Nat.ble (List.length (b ++ [(↑(UInt8.toNat (s.getD at_.toNat 0)) : Int)] ++ bytesInt (foldB (someV s (at_ + (1 : Ty.den (Ty.int .i64))) (IntKind.wrap .i64 (↑(UInt8.toNat (s.getD at_.toNat 0)) : Int)))))) 9223372036854775807)) (.ret (.inr (.ret, stOf [4, 5, 6] [.str (intBytes (b ++ [(↑(UInt8.toNat (s.getD at_.toNat 0)) : Int)] ++ bytesInt (foldB (someV s (at_ + (1 : Ty.den (Ty.int .i64))) (IntKind.wrap .i64 (↑(UInt8.toNat (s.getD at_.toNat 0)) : Int)))))), .int .i64 (at_ + (1 : Ty.den (Ty.int .i64)) + IntKind.wrap .i64 (↑(UInt8.toNat (s.getD at_.toNat 0)) : Int)), .int .i64 0] []))) .no) (.br (bytesOk (b ++ [(↑(UInt8.toNat (s.getD at_.toNat 0)) : Int)] ++ bytesInt (foldB (someV s (at_ + (1 : Ty.den (Ty.int .i64))) (IntKind.wrap .i64 (↑(UInt8.toNat (s.getD at_.toNat 0)) : Int))))) && (!List.isEmpty (b ++ [(↑(UInt8.toNat (s.getD at_.toNat 0)) : Int)] ++ bytesInt (foldB (someV s (at_ + (1 : Ty.den (Ty.int .i64))) (IntKind.wrap .i64 (↑(UInt8.toNat (s.getD at_.toNat 0)) : Int))))) && Nat.ble (List.length (b ++ [(↑(UInt8.toNat (s.getD at_.toNat 0)) : Int)] ++ bytesInt (foldB (someV s (at_ + (1 : Ty.den (Ty.int .i64))) (IntKind.wrap .i64 (↑(UInt8.toNat (s.getD at_.toNat 0)) : Int)))))) 9223372036854775807)) (.ret (.inr (.ret, stOf [4, 5, 6] [.str (intBytes (b ++ [(↑(UInt8.toNat (s.getD at_.toNat 0)) : Int)] ++ bytesInt (foldB (someV s (at_ + (1 : Ty.den (Ty.int .i64))) (IntKind.wrap .i64 (↑(UInt8.toNat (s.getD at_.toNat 0)) : Int)))))), .int .i64 behind, .int .i64 0] []))) .no))) .no) .no) .no)) (.ret (.inr (.ret, stOf [4, 5, 6] [.str [], .int .i64 0, .int .i64 2] [])))) .no))) (.br (decide ((↑(UInt8.toNat (s.getD at_.toNat 0)) : Int) ≥ 192)) (.br (bigS s) (.br (someB s at_ 2) (.br (decide (IntKind.wrap .i64 (↑(BitVec.toNat (BitVec.ofInt (IntKind.bits IntKind.i64) (IntKind.wrap .i64 (n16 s at_)) &&& ~~~BitVec.ofInt (IntKind.bits IntKind.i64) 49152)) : Int) < from_)) (.br (decide (behind < 0)) (.ret (.inl (stOf [0, 1, 7, 8, 9] [.str s, .int .i64 (IntKind.wrap .i64 (↑(BitVec.toNat (BitVec.ofInt (IntKind.bits IntKind.i64) (IntKind.wrap .i64 (n16 s at_)) &&& ~~~BitVec.ofInt (IntKind.bits IntKind.i64) 49152)) : Int)), .ptr 0 0, .int .i64 (IntKind.wrap .i64 (↑(BitVec.toNat (BitVec.ofInt (IntKind.bits IntKind.i64) (IntKind.wrap .i64 (n16 s at_)) &&& ~~~BitVec.ofInt (IntKind.bits IntKind.i64) 49152)) : Int)), .int .i64 (at_ + (2 : Ty.den (Ty.int .i64)))] [.boxT (some 162) [.np, .rowA 1], .row (.int .u8) b]))) (.ret (.inl (stOf [0, 1, 7, 8, 9] [.str s, .int .i64 (IntKind.wrap .i64 (↑(BitVec.toNat (BitVec.ofInt (IntKind.bits IntKind.i64) (IntKind.wrap .i64 (n16 s at_)) &&& ~~~BitVec.ofInt (IntKind.bits IntKind.i64) 49152)) : Int)), .ptr 0 0, .int .i64 (IntKind.wrap .i64 (↑(BitVec.toNat (BitVec.ofInt (IntKind.bits IntKind.i64) (IntKind.wrap .i64 (n16 s at_)) &&& ~~~BitVec.ofInt (IntKind.bits IntKind.i64) 49152)) : Int)), .int .i64 behind] [.boxT (some 162) [.np, .rowA 1], .row (.int .u8) b])))) (.ret (.inr (.ret, stOf [4, 5, 6] [.str [], .int .i64 0, .int .i64 2] [])))) (.ret (.inr (.ret, stOf [4, 5, 6] [.str [], .int .i64 0, .int .i64 2] [])))) .no) (.br (bigS s) (.br (someB s (at_ + (1 : Ty.den (Ty.int .i64))) (IntKind.wrap .i64 (↑(UInt8.toNat (s.getD at_.toNat 0)) : Int))) (.br (decide (IntKind.wrap .i64 (IntKind.wrap .i64 ((↑b.length : Int) + 1) + (↑(List.length (someV s (at_ + (1 : Ty.den (Ty.int .i64))) (IntKind.wrap .i64 (↑(UInt8.toNat (s.getD at_.toNat 0)) : Int)))) : Int)) > 255)) (.ret (.inr (.ret, stOf [4, 5, 6] [.str [], .int .i64 0, .int .i64 2] []))) (.br (fits (List.length b + 1) 1) (.br (bigS (someV s (at_ + (1 : Ty.den (Ty.int .i64))) (IntKind.wrap .i64 (↑(UInt8.toNat (s.getD at_.toNat 0)) : Int)))) (.br (fits (List.length (b ++ [(↑(UInt8.toNat (s.getD at_.toNat 0)) : Int)]) + List.length (bytesInt (foldB (someV s (at_ + (1 : Ty.den (Ty.int .i64))) (IntKind.wrap .i64 (↑(UInt8.toNat (s.getD at_.toNat 0)) : Int)))))) 1) (.br (decide ((↑(UInt8.toNat (s.getD at_.toNat 0)) : Int) > 0)) (.ret (.inl (stOf [0, 1, 7, 8, 9] [.str s, .int .i64 (at_ + (1 : Ty.den (Ty.int .i64)) + IntKind.wrap .i64 (↑(UInt8.toNat (s.getD at_.toNat 0)) : Int)), .ptr 0 0, .int .i64 from_, .int .i64 behind] [.boxT (some 162) [.ptr 0 0, .rowA 1], .row (.int .u8) (b ++ [(↑(UInt8.toNat (s.getD at_.toNat 0)) : Int)] ++ bytesInt (foldB (someV s (at_ + (1 : Ty.den (Ty.int .i64))) (IntKind.wrap .i64 (↑(UInt8.toNat (s.getD at_.toNat 0)) : Int)))))]))) (.br (decide (behind < 0)) (.br (bytesOk (b ++ [(↑(UInt8.toNat (s.getD at_.toNat 0)) : Int)] ++ bytesInt (foldB (someV s (at_ + (1 : Ty.den (Ty.int .i64))) (IntKind.wrap .i64 (↑(UInt8.toNat (s.getD at_.toNat 0)) : Int))))) && (!List.isEmpty (b ++ [(↑(UInt8.toNat (s.getD at_.toNat 0)) : Int)] ++ bytesInt (foldB (someV s (at_ + (1 : Ty.den (Ty.int .i64))) (IntKind.wrap .i64 (↑(UInt8.toNat (s.getD at_.toNat 0)) : Int))))) && Nat.ble (List.length (b ++ [(↑(UInt8.toNat (s.getD at_.toNat 0)) : Int)] ++ bytesInt (foldB (someV s (at_ + (1 : Ty.den (Ty.int .i64))) (IntKind.wrap .i64 (↑(UInt8.toNat (s.getD at_.toNat 0)) : Int)))))) 9223372036854775807)) (.ret (.inr (.ret, stOf [4, 5, 6] [.str (intBytes (b ++ [(↑(UInt8.toNat (s.getD at_.toNat 0)) : Int)] ++ bytesInt (foldB (someV s (at_ + (1 : Ty.den (Ty.int .i64))) (IntKind.wrap .i64 (↑(UInt8.toNat (s.getD at_.toNat 0)) : Int)))))), .int .i64 (at_ + (1 : Ty.den (Ty.int .i64)) + IntKind.wrap .i64 (↑(UInt8.toNat (s.getD at_.toNat 0)) : Int)), .int .i64 0] []))) .no) (.br (bytesOk (b ++ [(↑(UInt8.toNat (s.getD at_.toNat 0)) : Int)] ++ bytesInt (foldB (someV s (at_ + (1 : Ty.den (Ty.int .i64))) (IntKind.wrap .i64 (↑(UInt8.toNat (s.getD at_.toNat 0)) : Int))))) && (!List.isEmpty (b ++ [(↑(UInt8.toNat (s.getD at_.toNat 0)) : Int)] ++ bytesInt (foldB (someV s (at_ + (1 : Ty.den (Ty.int .i64))) (IntKind.wrap .i64 (↑(UInt8.toNat (s.getD at_.toNat 0)) : Int))))) && Nat.ble (List.length (b ++ [(↑(UInt8.toNat (s.getD at_.toNat 0)) : Int)] ++ bytesInt (foldB (someV s (at_ + (1 : Ty.den (Ty.int .i64))) (IntKind.wrap .i64 (↑(UInt8.toNat (s.getD at_.toNat 0)) : Int)))))) 9223372036854775807)) (.ret (.inr (.ret, stOf [4, 5, 6] [.str (intBytes (b ++ [(↑(UInt8.toNat (s.getD at_.toNat 0)) : Int)] ++ bytesInt (foldB (someV s (at_ + (1 : Ty.den (Ty.int .i64))) (IntKind.wrap .i64 (↑(UInt8.toNat (s.getD at_.toNat 0)) : Int)))))), .int .i64 behind, .int .i64 0] []))) .no))) .no) .no) .no)) (.ret (.inr (.ret, stOf [4, 5, 6] [.str [], .int .i64 0, .int .i64 2] [])))) .no))) (.ret (.inr (.ret, stOf [4, 5, 6] [.str [], .int .i64 0, .int .i64 2] [])))) .no
theorem round90n (lp : Lp) (s : List UInt8) (at_ from_ behind : Int) (b : List Int) : evC T0 (orcB [fs116w, fs55w, fs93w, fs96w] [os117n, os117u, os118n, os118u, os119u, osStr]) lp b90n 0 (stOf [0, 1, 7, 8, 9] [.str s, .int .i64 at_, .ptr 0 0, .int .i64 from_, .int .i64 behind] [.boxT (some 162) [.np, .rowA 1], .row (.int .u8) b]) (roundK [0, 1, 7, 8, 9] [4, 5, 6] 0) = (r90n s at_ from_ behind b).get := by kernel_rfl
theorem loop90n : ls90n.Ok T0 (orcB [fs116w, fs55w, fs93w, fs96w] [os117n, os117u, os118n, os118u, os119u, osStr]) h90 0 0 b90n := by
 intro q'' hq'' x'' y'' r'' h
 obtain ⟨(s : List UInt8), (at_ : Int), (from_ : Int), (behind : Int), _⟩ := x''
 obtain ⟨_, (b : List Int), _⟩ := y''
 obtain ⟨hc, rfl⟩ := Tr.get_on h
 show loopF (fun st => evC T0 (orcB [fs116w, fs55w, fs93w, fs96w] [os117n, os117u, os118n, os118u, os119u, osStr]) (lpN T0 (orcB [fs116w, fs55w, fs93w, fs96w] [os117n, os117u, os118n, os118u, os119u, osStr]) h90 0 q'') b90n 0 st (roundK [0, 1, 7, 8, 9] [4, 5, 6] 0)) (stOf [0, 1, 7, 8, 9] [.str s, .int .i64 at_, .ptr 0 0, .int .i64 from_, .int .i64 behind] [.boxT (some 162) [.np, .rowA 1], .row (.int .u8) b]) = some (.ret, stOf [4, 5, 6] ([.str (tkS (takeG s at_ from_ behind (intBytes b))), .int .i64 (tkN (takeG s at_ from_ behind (intBytes b))), .int .i64 (tkE (takeG s at_ from_ behind (intBytes b)))]) ([]))
 simp only [tkC, Bool.and_eq_true] at hc
 obtain ⟨hbig, hok, hb⟩ := hc
 have hb := Nat.le_of_ble_eq_true hb
 refine loop_tr2 (fun a : Int × Int × Int × List Int => stOf [0, 1, 7, 8, 9] [.str s, .int .i64 a.1, .ptr 0 0, .int .i64 a.2.1, .int .i64 a.2.2.1] [.boxT (some 162) [.np, .rowA 1], .row (.int .u8) a.2.2.2]) (fun a => tkI s at_ from_ behind b a.1 a.2.1 a.2.2.1 a.2.2.2) (fun a => msT s a.1 a.2.1) _
  (fun a => r90n s a.1 a.2.1 a.2.2.1 a.2.2.2) (fun a x hx => (round90n _ s a.1 a.2.1 a.2.2.1 a.2.2.2).trans hx) ?_ (at_, from_, behind, b) ⟨hok, hb, rfl⟩
 clear hok hb
 rintro ⟨at_, from_, behind, b⟩ ⟨hok, hb, he⟩
 simp only at hok hb he ⊢
 rw [← he]
 unfold r90n
 have hB : s.length ≤ 1000000000000 := by simpa [bigS] using hbig
 have hc : (↑(UInt8.toNat (List.getD s (Int.toNat at_) 0)) : Int) = (szT s at_ : Int) := rfl
 have hc255 := szT_lt s at_
 have hto := toT_in s at_
 simp only [and_far (n16_in s at_).1 (n16_in s at_).2, hc]
 simp only [show n16 s at_ % 16384 = toT s at_ from rfl, IntWalk.i64_in ((szT s at_ : Nat) : Int) (by omega)]
 cases h1 : someB s at_ 1 with
 | false =>
   rw [takeG_out h1]
   exact Tr.all_t hbig (Tr.all_f rfl (Tr.all_ret (.inl rfl)))
 | true =>
   have hs1 := someB_iff.1 h1
   refine Tr.all_t hbig (Tr.all_t rfl ?_)
   by_cases h192 : 192 ≤ szT s at_
   · refine Tr.all_t (dec_true (by omega)) (Tr.all_f (dec_false (by omega)) (Tr.all_t (dec_true (by omega)) (Tr.all_t hbig ?_)))
     by_cases h3 : someB s at_ 2 = true ∧ toT s at_ < from_
     · rw [takeG_ptr h1 h192 h3.1 h3.2] at he ⊢
       refine Tr.all_t h3.1 (Tr.all_t (dec_true h3.2) (Tr.all_br (fun c1 => ?_) fun c1 => ?_))
       · simp only [decide_eq_true_eq] at c1
         rw [if_pos c1] at he
         exact Tr.all_ret (.inr (.inl ⟨(_, _, _, _), rfl, ⟨hok, hb, he⟩, msT_to hto.1 h3.2⟩))
       · simp only [decide_eq_false_iff_not] at c1
         rw [if_neg c1] at he
         exact Tr.all_ret (.inr (.inl ⟨(_, _, _, _), rfl, ⟨hok, hb, he⟩, msT_to hto.1 h3.2⟩))
     · rw [takeG_bad h1 h192 h3]
       cases h2 : someB s at_ 2 with
       | false => exact Tr.all_f rfl (Tr.all_ret (.inl rfl))
       | true => exact Tr.all_t rfl (Tr.all_f (dec_false (fun h => h3 ⟨h2, h⟩)) (Tr.all_ret (.inl rfl)))
   · by_cases h63 : 63 < szT s at_
     · rw [takeG_mid h1 h192 h63]
       exact Tr.all_t (dec_true (by omega)) (Tr.all_t (dec_true (by omega)) (Tr.all_ret (.inl rfl)))
     · refine Tr.all_f (dec_false (by omega)) (Tr.all_f (dec_false (by omega)) (Tr.all_t hbig ?_))
       cases h4 : someB s (at_ + 1) (szT s at_) with
       | false =>
         rw [takeG_long h1 (by omega) (by rw [h4]; simp)]
         exact Tr.all_f rfl (Tr.all_ret (.inl rfl))
       | true =>
         have hs4 := someB_iff.1 h4
         have hvl : (someV s (at_ + 1) (szT s at_ : Int)).length = szT s at_ := by rw [someV_len h4]; omega
         have hvb : bigS (someV s (at_ + 1) (szT s at_ : Int)) = true := by simp [bigS, hvl]; omega
         rw [hvl]
         rw [IntWalk.i64_in ((List.length b : Int) + 1) (by omega), IntWalk.i64_in _ (by omega)]
         refine Tr.all_t rfl ?_
         by_cases h5 : b.length + 1 + szT s at_ ≤ 255
         · have hnew : bytesOk (b ++ [((szT s at_ : Nat) : Int)] ++ bytesInt (foldB (someV s (at_ + 1) (szT s at_ : Int)))) = true := by
             refine bytesOk_app (bytesOk_app hok ?_) (bytesInt_ok _)
             simp [bytesOk]
             omega
           have hnl : (b ++ [((szT s at_ : Nat) : Int)] ++ bytesInt (foldB (someV s (at_ + 1) (szT s at_ : Int)))).length = b.length + 1 + szT s at_ := by
            simp [bytesInt_len, foldB_len, hvl]
            omega
           have hS2 : intBytes (b ++ [((szT s at_ : Nat) : Int)] ++ bytesInt (foldB (someV s (at_ + 1) (szT s at_ : Int)))) = intBytes b ++ s.getD at_.toNat 0 :: foldB (someV s (at_ + 1) (szT s at_ : Int)) := by
            rw [intB_app, intB_app, intB_bytes]
            have : intBytes [((szT s at_ : Nat) : Int)] = [s.getD at_.toNat 0] := by simp [intBytes, szT]
            rw [this]
            simp
           refine Tr.all_f (dec_false (by omega)) (Tr.all_t (fits_true (by omega) (by omega)) (Tr.all_t hvb (Tr.all_t (fits_true (by simp [bytesInt_len, foldB_len, hvl]; omega) (by simp [bytesInt_len, foldB_len, hvl]; omega)) ?_)))
           by_cases h0 : szT s at_ = 0
           · rw [takeG_end h1 h0 (by rw [intB_len]; omega)]
             have hv0 : someV s (at_ + 1) (szT s at_ : Int) = [] := List.length_eq_zero_iff.1 (by rw [hvl]; exact h0)
             have hg0 : s.getD at_.toNat 0 = 0 := by
              have : (s.getD at_.toNat 0).toNat = 0 := h0
              exact UInt8.toNat_inj.1 (by simpa using this)
             have hend : (bytesOk (b ++ [((szT s at_ : Nat) : Int)] ++ bytesInt (foldB (someV s (at_ + 1) (szT s at_ : Int)))) && (!List.isEmpty (b ++ [((szT s at_ : Nat) : Int)] ++ bytesInt (foldB (someV s (at_ + 1) (szT s at_ : Int)))) && Nat.ble (List.length (b ++ [((szT s at_ : Nat) : Int)] ++ bytesInt (foldB (someV s (at_ + 1) (szT s at_ : Int))))) 9223372036854775807)) = true := by
              rw [hnew, Nat.ble_eq_true_of_le (by omega)]
              simp
             refine Tr.all_f (dec_false (by omega)) (Tr.all_br (fun c1 => Tr.all_t hend (Tr.all_ret (.inl ?_))) fun c1 => Tr.all_t hend (Tr.all_ret (.inl ?_)))
             · simp only [decide_eq_true_eq] at c1
               rw [if_pos c1, hS2, hv0, hg0, h0]
               simp [foldB]
               rfl
             · simp only [decide_eq_false_iff_not] at c1
               rw [if_neg c1, hS2, hv0, hg0]
               rfl
           · have hG := takeG_on (s := s) (at_ := at_) (from_ := from_) (behind := behind) (out := intBytes b) h1 (by omega) h0 h4 (by rw [intB_len]; omega)
             rw [← hS2] at hG
             rw [hG] at he ⊢
             refine Tr.all_t (dec_true (by omega)) (Tr.all_ret ?_)
             refine .inr (.inr ⟨_, rfl, ?_⟩)
             have := loop90u q'' (Nat.zero_le _) (s, at_ + 1 + szT s at_, from_, behind, ()) ((), b ++ [((szT s at_ : Nat) : Int)] ++ bytesInt (foldB (someV s (at_ + 1) (szT s at_ : Int))), ()) (.ret, resT (takeG s (at_ + 1 + szT s at_) from_ behind (intBytes (b ++ [((szT s at_ : Nat) : Int)] ++ bytesInt (foldB (someV s (at_ + 1) (szT s at_ : Int)))))), []) (by
              show (Tr.on (tkC s _) _).get = _
              rw [show tkC s (b ++ [((szT s at_ : Nat) : Int)] ++ bytesInt (foldB (someV s (at_ + 1) (szT s at_ : Int)))) = true by simp only [tkC, hbig, hnew, Bool.true_and]; exact Nat.ble_eq_true_of_le (by omega)]
              rfl)
             exact this
         · rw [takeG_long h1 (by omega) (by rw [intB_len]; exact fun h => h5 h.2)]
           exact Tr.all_t (dec_true (by omega)) (Tr.all_ret (.inl rfl))
def t90 (s : List UInt8) (at_ : Int) : Tr Res := .br (tkC s []) (.ret ([.str (tkS (takeG s at_ at_ (-1 : Int) (intBytes []))), .int .i64 (tkN (takeG s at_ at_ (-1 : Int) (intBytes []))), .int .i64 (tkE (takeG s at_ at_ (-1 : Int) (intBytes [])))], [])) .no
def os90 : OSpec := { f := 90, sh := [.d .str false, .d (.int .i64) false], so := [], F := fun (s, at_, _) _ => t90 s at_ }
theorem fn90 (s : List UInt8) (at_ : Int) : evC T0 (orcB [fs116w, fs55w, fs93w, fs96w] [os117n, os117u, os118n, os118u, os119u, osStr]) (lpOf h90 0 (lsOf [ls90n])) c90 1000000 (startSt [.str s, .int .i64 at_] [] Try.f90.ntmps) (finishK T0 false 0 Try.f90) = (t90 s at_).get := by kernel_rfl
theorem ok90 : os90.Ok Try.prog := by
 refine os_ok mixed0 tab0 (orcB_sound (all_cons okf116w (all_cons okf55w (all_cons okf93w (all_cons okf96w all_nil)))) (all_cons ok117n (all_cons ok117u (all_cons ok118n (all_cons ok118u (all_cons ok119u (all_cons okStr all_nil))))))) h90 (d := 0) (n0 := 0) (S := lsOf [ls90n]) Try.func90 (by kernel_rfl) (c := c90) (by kernel_rfl) rfl (loops_eq (xs := [(0, b90n)]) (by kernel_rfl) (all_cons (ls_here loop90n) all_nil)) (by omega) (by kernel_rfl) ?_
 intro x'' y'' q'' hq''
 obtain ⟨(s : List UInt8), (at_ : Int), _⟩ := x''
 exact (fn90 s at_).trans hq''
def fs90 : FSpec := fsT 90 [(.str, false), ((.int .i64), false)] [(.str, false), ((.int .i64), false), ((.int .i64), false)] fun (s, at_, _) => t90 s at_
theorem okf90 : fs90.Ok Try.prog := fsT_ok fun x'' r'' hr'' => ok90 x'' () r'' hr''
def fs90w : FSpec := fs90.like fun (s, at_, _) => .on (bigS s) (tkS (takeG s at_ at_ (-1) []), tkN (takeG s at_ at_ (-1) []), tkE (takeG s at_ at_ (-1) []), ())
theorem okf90w : fs90w.Ok Try.prog := by
 refine flike_ok okf90 _ ?_
 rintro ⟨(s : List UInt8), (at_ : Int), _⟩ y h
 obtain ⟨hb, rfl⟩ := Tr.get_on h
 refine convR_of (vs := resT (takeG s at_ at_ (-1) [])) rfl rfl (Tr.get_of_all ?_)
 show (t90 s at_).all _
 exact Tr.all_t (by simp only [tkC, hb]; rfl) (Tr.all_ret rfl)
def t121 : Tr Res := .ret ([.mp 0], [.mpo (Ty.int .u16) (Ty.list (.int .i64)) [(1, [4]), (28, [16]), (2, [(-1 : Int)]), (5, [(-1 : Int)]), (12, [(-1 : Int)]), (15, [2, (-1 : Int)]), (6, [(-1 : Int), (-1 : Int), 20]), (16, [(-2 : Int)])]])
def os121 : OSpec := { f := 121, sh := [], so := [], F := fun _ _ => t121 }
theorem fn121 : evC T0 (orcB [] []) (lpOf (hOwn h121) 0 (lsOf [])) c121 1000000 (startSt [] [] Try.f121.ntmps) (finishK T0 true 0 Try.f121) = (t121).get := by kernel_rfl
theorem ok121 : os121.Ok Try.prog := by
 refine os_ok mixed0 tab0 (orcB_sound all_nil all_nil) (hOwn h121) (d := 0) (n0 := 0) (S := lsOf []) Try.func121 (by kernel_rfl) (c := c121) (by kernel_rfl) rfl (no_loops (by kernel_rfl)) (by omega) (by kernel_rfl) ?_
 intro x'' y'' q'' hq''
 exact (fn121).trans hq''
def t94 (k : Int) : Tr Res := .br (!hasM (Ty.int .u16) (Ty.list (.int .i64)) k [(1, [4]), (28, [16]), (2, [(-1 : Int)]), (5, [(-1 : Int)]), (12, [(-1 : Int)]), (15, [2, (-1 : Int)]), (6, [(-1 : Int), (-1 : Int), 20]), (16, [(-2 : Int)])]) (.ret ([.list (.int .i64) [(-3 : Int)]], [])) (.ret ([.list (.int .i64) (getM (Ty.int .u16) (Ty.list (.int .i64)) k [(1, [4]), (28, [16]), (2, [(-1 : Int)]), (5, [(-1 : Int)]), (12, [(-1 : Int)]), (15, [2, (-1 : Int)]), (6, [(-1 : Int), (-1 : Int), 20]), (16, [(-2 : Int)])])], []))
def os94 : OSpec := { f := 94, sh := [.d (.int .u16) false], so := [], F := fun (k, _) _ => t94 k }
theorem fn94 (k : Int) : evC T0 (orcB [] [os121]) (lpOf h94 0 (lsOf [])) c94 1000000 (startSt [.int .u16 k] [] Try.f94.ntmps) (finishK T0 false 0 Try.f94) = (t94 k).get := by kernel_rfl
theorem ok94 : os94.Ok Try.prog := by
 refine os_ok mixed0 tab0 (orcB_sound all_nil (all_cons ok121 all_nil)) h94 (d := 0) (n0 := 0) (S := lsOf []) Try.func94 (by kernel_rfl) (c := c94) (by kernel_rfl) rfl (no_loops (by kernel_rfl)) (by omega) (by kernel_rfl) ?_
 intro x'' y'' q'' hq''
 obtain ⟨(k : Int), _⟩ := x''
 exact (fn94 k).trans hq''
def fs94 : FSpec := fsT 94 [((.int .u16), false)] [((.list (.int .i64)), false)] fun (k, _) => t94 k
theorem okf94 : fs94.Ok Try.prog := fsT_ok fun x'' r'' hr'' => ok94 x'' () r'' hr''
noncomputable def b123 : Code := nthLoop c123 0
def ls123 : LoopSpec := { bid := 0, sh := [.d .str false, .d (.int .i64) false], so := [], F := fun (s, at_, _) _ => .on (bigS s && decide (at_ = 0)) (.exit 0, [.str s, .int .i64 (whAt s 0)], []) }
def r123 (s : List UInt8) (at_ : Int) : Tr (St ⊕ (Ex × St)) := .br (decide (at_ < (↑s.length : Int))) (.br (decide (0 ≤ at_)) (.br (decide (at_ < (↑s.length : Int))) (.br (decide ((↑(UInt8.toNat (s.getD at_.toNat 0)) : Int) > 0)) (.br (decide (0 ≤ at_)) (.br (decide (at_ < (↑s.length : Int))) (.ret (.inl (stOf [0, 3] [.str s, .int .i64 (IntKind.wrap .i64 (at_ + IntKind.wrap .i64 (1 + IntKind.wrap .i64 (↑(UInt8.toNat (s.getD at_.toNat 0)) : Int))))] []))) .no) .no) (.ret (.inr (.exit 0, stOf [0, 3] [.str s, .int .i64 at_] [])))) .no) .no) (.ret (.inr (.exit 0, stOf [0, 3] [.str s, .int .i64 at_] [])))
theorem round123 (orc : Orc) (lp : Lp) (s : List UInt8) (at_ : Int) : evC T0 orc lp b123 0 (stOf [0, 3] [.str s, .int .i64 at_] []) (roundK [0, 3] [0, 3] 0) = (r123 s at_).get := by kernel_rfl
theorem wf123 (orc : Orc) (s : List UInt8) (I'' : Int → Prop) (m'' : Int → Nat) (r'' : Ex × St) (h : ∀ (at_ : Int), I'' at_ → (r123 s at_).all fun x'' => x'' = .inr r'' ∨ ∃ (at_' : Int), x'' = .inl (stOf [0, 3] [.str s, .int .i64 at_'] []) ∧ I'' at_' ∧ m'' at_' < m'' at_) (lp : Lp) (at_ : Int) : I'' at_ →
    loopF (fun st => evC T0 orc lp b123 0 st (roundK [0, 3] [0, 3] 0)) (stOf [0, 3] [.str s, .int .i64 at_] []) = some r'' :=
 loop_tr (fun a'' : Int => stOf [0, 3] [.str s, .int .i64 a''] []) (fun a'' => I'' a'') (fun a'' => m'' a'') r'' (fun a'' => r123 s a'')
  (fun a'' x hx => (round123 orc lp s a'').trans hx) (fun a'' ha => Tr.all_mono (fun x'' hx => hx.imp id fun ⟨at_', h1, h2, h3⟩ => ⟨(at_'), h1, h2, h3⟩) (h (a'') ha)) (at_)
theorem loop123 (orc : Orc) : ls123.Ok T0 orc h123 0 0 b123 := by
 intro q'' hq'' x'' y'' r'' h
 obtain ⟨(s : List UInt8), (at_ : Int), _⟩ := x''
 obtain ⟨hc, rfl⟩ := Tr.get_on h
 show loopF (fun st => evC T0 orc (lpN T0 orc h123 0 q'') b123 0 st (roundK [0, 3] [0, 3] 0)) (stOf [0, 3] [.str s, .int .i64 at_] []) = some (.exit 0, stOf [0, 3] ([.str s, .int .i64 (whAt s 0)]) ([]))
 simp only [Bool.and_eq_true, decide_eq_true_eq] at hc
 obtain ⟨hb, rfl⟩ := hc
 refine wf123 _ s (fun a => 0 ≤ a ∧ whAt s a.toNat = whAt s 0) (fun a => (s.length - a).toNat) _ ?_ _ 0 ⟨by omega, rfl⟩
 rintro a ⟨h1, h2⟩
 have hB : s.length ≤ 1000000000000 := by simpa [bigS] using hb
 have hto : ((a.toNat : Nat) : Int) = a := Int.toNat_of_nonneg h1
 unfold r123
 rw [← h2, whAt.eq_1 s a.toNat]
 by_cases hk : a.toNat < s.length
 · have hb0 : (↑(UInt8.toNat (List.getD s (Int.toNat a) 0)) : Int) = (byN s a.toNat : Int) := rfl
   have hbl : byN s a.toNat < 256 := (s.getD a.toNat 0).toNat_lt
   rw [hb0]
   simp (disch := omega) only [IntWalk.i64_in]
   refine Tr.all_t (dec_true (by omega)) (Tr.all_t (dec_true h1) (Tr.all_t (dec_true (by omega)) (Tr.all_br (fun c1 => Tr.all_t (dec_true h1) (Tr.all_t (dec_true (by omega)) (Tr.all_ret (.inr ⟨_, rfl, ⟨by omega, ?_⟩, by omega⟩)))) fun c1 => Tr.all_ret (.inl ?_))))
   · simp only [decide_eq_true_eq] at c1
     rw [dif_pos ⟨hk, by omega⟩]
     congr 1
     omega
   · simp only [decide_eq_false_iff_not] at c1
     rw [dif_neg (by omega), hto]
 · rw [dif_neg (by omega), hto]
   exact Tr.all_f (dec_false (by omega)) (Tr.all_ret (.inl rfl))
noncomputable def b124 : Code := nthLoop c124 0
def ls124 : LoopSpec := { bid := 0, sh := [.d .str false, .d (.int .i64) false], so := [], F := fun (s, at_, _) _ => .on (bigS s && decide (at_ = 0)) (.exit 0, [.str s, .int .i64 (txAt s 0)], []) }
def r124 (s : List UInt8) (at_ : Int) : Tr (St ⊕ (Ex × St)) := .br (decide (at_ < (↑s.length : Int))) (.br (decide (0 ≤ at_)) (.br (decide (at_ < (↑s.length : Int))) (.ret (.inl (stOf [0, 3] [.str s, .int .i64 (IntKind.wrap .i64 (at_ + IntKind.wrap .i64 (1 + IntKind.wrap .i64 (↑(UInt8.toNat (s.getD at_.toNat 0)) : Int))))] []))) .no) .no) (.ret (.inr (.exit 0, stOf [0, 3] [.str s, .int .i64 at_] [])))
theorem round124 (orc : Orc) (lp : Lp) (s : List UInt8) (at_ : Int) : evC T0 orc lp b124 0 (stOf [0, 3] [.str s, .int .i64 at_] []) (roundK [0, 3] [0, 3] 0) = (r124 s at_).get := by kernel_rfl
theorem wf124 (orc : Orc) (s : List UInt8) (I'' : Int → Prop) (m'' : Int → Nat) (r'' : Ex × St) (h : ∀ (at_ : Int), I'' at_ → (r124 s at_).all fun x'' => x'' = .inr r'' ∨ ∃ (at_' : Int), x'' = .inl (stOf [0, 3] [.str s, .int .i64 at_'] []) ∧ I'' at_' ∧ m'' at_' < m'' at_) (lp : Lp) (at_ : Int) : I'' at_ →
    loopF (fun st => evC T0 orc lp b124 0 st (roundK [0, 3] [0, 3] 0)) (stOf [0, 3] [.str s, .int .i64 at_] []) = some r'' :=
 loop_tr (fun a'' : Int => stOf [0, 3] [.str s, .int .i64 a''] []) (fun a'' => I'' a'') (fun a'' => m'' a'') r'' (fun a'' => r124 s a'')
  (fun a'' x hx => (round124 orc lp s a'').trans hx) (fun a'' ha => Tr.all_mono (fun x'' hx => hx.imp id fun ⟨at_', h1, h2, h3⟩ => ⟨(at_'), h1, h2, h3⟩) (h (a'') ha)) (at_)
theorem loop124 (orc : Orc) : ls124.Ok T0 orc h124 0 0 b124 := by
 intro q'' hq'' x'' y'' r'' h
 obtain ⟨(s : List UInt8), (at_ : Int), _⟩ := x''
 obtain ⟨hc, rfl⟩ := Tr.get_on h
 show loopF (fun st => evC T0 orc (lpN T0 orc h124 0 q'') b124 0 st (roundK [0, 3] [0, 3] 0)) (stOf [0, 3] [.str s, .int .i64 at_] []) = some (.exit 0, stOf [0, 3] ([.str s, .int .i64 (txAt s 0)]) ([]))
 simp only [Bool.and_eq_true, decide_eq_true_eq] at hc
 obtain ⟨hb, rfl⟩ := hc
 refine wf124 _ s (fun a => 0 ≤ a ∧ txAt s a.toNat = txAt s 0) (fun a => (s.length - a).toNat) _ ?_ _ 0 ⟨by omega, rfl⟩
 rintro a ⟨h1, h2⟩
 have hB : s.length ≤ 1000000000000 := by simpa [bigS] using hb
 have hto : ((a.toNat : Nat) : Int) = a := Int.toNat_of_nonneg h1
 unfold r124
 rw [← h2, txAt.eq_1 s a.toNat]
 by_cases hk : a.toNat < s.length
 · have hb0 : (↑(UInt8.toNat (List.getD s (Int.toNat a) 0)) : Int) = (byN s a.toNat : Int) := rfl
   have hbl : byN s a.toNat < 256 := (s.getD a.toNat 0).toNat_lt
   rw [hb0]
   simp (disch := omega) only [IntWalk.i64_in]
   refine Tr.all_t (dec_true (by omega)) (Tr.all_t (dec_true h1) (Tr.all_t (dec_true (by omega)) (Tr.all_ret (.inr ⟨_, rfl, ⟨by omega, ?_⟩, by omega⟩))))
   rw [dif_pos hk]
   congr 1
   omega
 · rw [dif_neg hk, hto]
   exact Tr.all_f (dec_false (by omega)) (Tr.all_ret (.inl rfl))
def t123 (s : List UInt8) : Tr Res := .br (bigS s && decide (0 = (0 : Ty.den (Ty.int .i64)))) (.br (decide ((↑(whAt s 0) : Int) ≥ (↑s.length : Int))) (.ret ([.int .i64 0], [])) (.br (decide (0 ≤ IntKind.wrap .i64 ((↑(whAt s 0) : Int) + 1)) && decide (IntKind.wrap .i64 ((↑(whAt s 0) : Int) + 1) ≤ (↑s.length : Int))) (.br (decide (0 ≤ 0) && decide (0 ≤ IntKind.wrap .i64 ((↑(whAt s 0) : Int) + 1))) (.br (bigS (List.take (Int.toNat (IntKind.wrap .i64 ((↑(whAt s 0) : Int) + 1)) - Int.toNat 0) (List.drop (Int.toNat 0) s))) (.br (!mayV (List.take (Int.toNat (IntKind.wrap .i64 ((↑(whAt s 0) : Int) + 1)) - Int.toNat 0) (List.drop (Int.toNat 0) s))) (.ret ([.int .i64 0], [])) (.ret ([.int .i64 (IntKind.wrap .i64 ((↑(whAt s 0) : Int) + 1))], []))) .no) .no) .no)) .no
def os123 : OSpec := { f := 123, sh := [.d .str false], so := [], F := fun (s, _) _ => t123 s }
theorem fn123 (s : List UInt8) : evC T0 (orcB [fs57w] []) (lpOf h123 0 (lsOf [ls123])) c123 1000000 (startSt [.str s] [] Try.f123.ntmps) (finishK T0 false 0 Try.f123) = (t123 s).get := by kernel_rfl
theorem ok123 : os123.Ok Try.prog := by
 refine os_ok mixed0 tab0 (orcB_sound (all_cons okf57w all_nil) all_nil) h123 (d := 0) (n0 := 0) (S := lsOf [ls123]) Try.func123 (by kernel_rfl) (c := c123) (by kernel_rfl) rfl (loops_eq (xs := [(0, b123)]) (by kernel_rfl) (all_cons (ls_here (loop123 _)) all_nil)) (by omega) (by kernel_rfl) ?_
 intro x'' y'' q'' hq''
 obtain ⟨(s : List UInt8), _⟩ := x''
 exact (fn123 s).trans hq''
def fs123 : FSpec := fsT 123 [(.str, false)] [((.int .i64), false)] fun (s, _) => t123 s
theorem okf123 : fs123.Ok Try.prog := fsT_ok fun x'' r'' hr'' => ok123 x'' () r'' hr''
def fs123w : FSpec := fs123.like fun (s, _) => .on (bigS s) ((wholeV s : Int), ())
theorem okf123w : fs123w.Ok Try.prog := by
 refine flike_ok okf123 _ ?_
 rintro ⟨(s : List UInt8), _⟩ y h
 obtain ⟨hb, rfl⟩ := Tr.get_on h
 refine convR_of (vs := [.int .i64 (wholeV s)]) rfl rfl (Tr.get_of_all ?_)
 show (t123 s).all _
 unfold t123 wholeV
 have hB : s.length ≤ 1000000000000 := by simpa [bigS] using hb
 refine Tr.all_t (by rw [hb]; rfl) ?_
 by_cases hk : whAt s 0 < s.length
 · have hw : IntKind.wrap .i64 ((whAt s 0 : Int) + 1) = (whAt s 0 : Int) + 1 := IntWalk.i64_in _ (by omega)
   have hs : List.take (Int.toNat ((whAt s 0 : Int) + 1) - Int.toNat 0) (List.drop (Int.toNat 0) s) = s.take (whAt s 0 + 1) := by
    rw [show Int.toNat ((whAt s 0 : Int) + 1) - Int.toNat 0 = whAt s 0 + 1 by omega]; rfl
   rw [hw, hs]
   refine Tr.all_f (dec_false (by omega)) (Tr.all_t (by rw [dec_true (by omega), dec_true (by omega)]; rfl) (Tr.all_t (by rw [dec_true (by omega), dec_true (by omega)]; rfl) (Tr.all_t (by simp [bigS]; omega) (Tr.all_br (fun c1 => Tr.all_ret ?_) fun c1 => Tr.all_ret ?_))))
   · rw [Bool.not_eq_true'] at c1
     rw [if_neg (by rw [c1]; simp)]
     rfl
   · rw [Bool.not_eq_false'] at c1
     rw [if_pos ⟨hk, c1⟩]
     rfl
 · rw [if_neg (fun h => hk h.1)]
   exact Tr.all_t (dec_true (by omega)) (Tr.all_ret rfl)
def t124 (s : List UInt8) : Tr Res := .br (bigS s && decide (0 = (0 : Ty.den (Ty.int .i64)))) (.br (!s == []) (.ret ([.bool ((↑(txAt s 0) : Int) == (↑s.length : Int))], [])) (.ret ([.bool false], []))) .no
def os124 : OSpec := { f := 124, sh := [.d .str false], so := [], F := fun (s, _) _ => t124 s }
theorem fn124 (s : List UInt8) : evC T0 (orcB [] []) (lpOf h124 0 (lsOf [ls124])) c124 1000000 (startSt [.str s] [] Try.f124.ntmps) (finishK T0 false 0 Try.f124) = (t124 s).get := by kernel_rfl
theorem ok124 : os124.Ok Try.prog := by
 refine os_ok mixed0 tab0 (orcB_sound all_nil all_nil) h124 (d := 0) (n0 := 0) (S := lsOf [ls124]) Try.func124 (by kernel_rfl) (c := c124) (by kernel_rfl) rfl (loops_eq (xs := [(0, b124)]) (by kernel_rfl) (all_cons (ls_here (loop124 _)) all_nil)) (by omega) (by kernel_rfl) ?_
 intro x'' y'' q'' hq''
 obtain ⟨(s : List UInt8), _⟩ := x''
 exact (fn124 s).trans hq''
def fs124 : FSpec := fsT 124 [(.str, false)] [(.bool, false)] fun (s, _) => t124 s
theorem okf124 : fs124.Ok Try.prog := fsT_ok fun x'' r'' hr'' => ok124 x'' () r'' hr''
def fs124w : FSpec := fs124.like fun (s, _) => .on (bigS s) (textsV s, ())
theorem okf124w : fs124w.Ok Try.prog := by
 refine flike_ok okf124 _ ?_
 rintro ⟨(s : List UInt8), _⟩ y h
 obtain ⟨hb, rfl⟩ := Tr.get_on h
 refine convR_of (vs := [.bool (textsV s)]) rfl rfl (Tr.get_of_all ?_)
 show (t124 s).all _
 unfold t124 textsV
 refine Tr.all_t (by rw [hb]; rfl) (Tr.all_br (fun c1 => Tr.all_ret ?_) fun c1 => Tr.all_ret ?_)
 · have : s.isEmpty = false := by cases s with | nil => cases c1 | cons _ _ => rfl
   rw [this]
   congr 3
   rw [Bool.eq_iff_iff]
   simp
   omega
 · have : s.isEmpty = true := by cases s with | nil => rfl | cons _ _ => cases c1
   rw [this]
   rfl
def fs94w : FSpec := fs94.like fun (k, _) => .ret (layV k, ())
theorem okf94w : fs94w.Ok Try.prog := by
 refine flike_ok okf94 _ ?_
 rintro ⟨(k : Int), _⟩ y h
 cases h
 refine convR_of (vs := [.list (.int .i64) (layV k)]) rfl rfl (Tr.get_of_all ?_)
 show (t94 k).all _
 by_cases h1 : k = 1
 · subst h1; exact Tr.all_f rfl (Tr.all_ret rfl)
 by_cases h2 : k = 28
 · subst h2; exact Tr.all_f rfl (Tr.all_ret rfl)
 by_cases h3 : k = 2
 · subst h3; exact Tr.all_f rfl (Tr.all_ret rfl)
 by_cases h4 : k = 5
 · subst h4; exact Tr.all_f rfl (Tr.all_ret rfl)
 by_cases h5 : k = 12
 · subst h5; exact Tr.all_f rfl (Tr.all_ret rfl)
 by_cases h6 : k = 15
 · subst h6; exact Tr.all_f rfl (Tr.all_ret rfl)
 by_cases h7 : k = 6
 · subst h7; exact Tr.all_f rfl (Tr.all_ret rfl)
 by_cases h8 : k = 16
 · subst h8; exact Tr.all_f rfl (Tr.all_ret rfl)
 refine Tr.all_t ?_ (Tr.all_ret ?_)
 · simp [hasM, lookM, Ty.keq, h1, h2, h3, h4, h5, h6, h7, h8]
 · simp [layV, h1, h2, h3, h4, h5, h6, h7, h8]
noncomputable def b97 : Code := nthLoop c97 0
def ls97 : LoopSpec := { bid := 0, sh := [.d .str false, .row 0, .d (.list (.int .i64)) false, .d (.int .i64) false, .d (.int .i64) false], so := [.row .str], F := fun (d, ps, n, i, _) (l, _) => .on2 (cutC d ps n i l) ((cutS ps d l).1) (.exit 0, [.str (cutS ps d l).2.1, .dead, .dead, .rowA 0], [.row .str (cutS ps d l).2.2]) (.ret, [.str (cutS ps d l).2.1, .rowA 0, .bool false, .rowA 1], [.row .str [], .row .str (cutS ps d l).2.2]) }
def r97 (d : List UInt8) (ps : List Int) (n i : Int) (l : List (List UInt8)) : Tr (St ⊕ (Ex × St)) := .br (decide (i < n)) (.br (decide (0 ≤ i)) (.br (decide (i < (↑ps.length : Int))) (.br (ps.getD i.toNat (Ty.dflt (Ty.int .i64)) == (-1 : Int)) (.br (bigS d) (.br (decide ((↑(wholeV d) : Int) > (↑d.length : Int))) (.ret (.inr (.ret, stOf [1, 4, 5, 6] [.str d, .rowA 0, .bool false, .rowA 1] [.row Ty.str [], .row Ty.str l]))) (.br (ps.getD i.toNat (Ty.dflt (Ty.int .i64)) == (-1 : Int)) (.br ((↑(wholeV d) : Int) == 0) (.ret (.inr (.ret, stOf [1, 4, 5, 6] [.str d, .rowA 0, .bool false, .rowA 1] [.row Ty.str [], .row Ty.str l]))) (.br (decide (0 ≤ (↑(wholeV d) : Int)) && decide ((↑(wholeV d) : Int) ≤ (↑d.length : Int))) (.br (fits (List.length l + 1) 16) (.br (decide (0 ≤ (↑d.length : Int)) && decide ((↑d.length : Int) ≤ (↑d.length : Int))) (.br (decide (0 ≤ (↑(wholeV d) : Int)) && decide ((↑(wholeV d) : Int) ≤ (↑d.length : Int))) (.ret (.inl (stOf [1, 6, 11, 12, 13] [.str (List.take (Int.toNat (↑d.length : Int) - Int.toNat (↑(wholeV d) : Int)) (List.drop (Int.toNat (↑(wholeV d) : Int)) d)), .rowA 0, .list (.int .i64) ps, .int .i64 n, .int .i64 (IntKind.wrap .i64 (i + 1))] [.row Ty.str (l ++ [List.take (Int.toNat (↑(wholeV d) : Int) - Int.toNat 0) (List.drop (Int.toNat 0) d)])]))) .no) .no) .no) .no)) (.br (decide (0 ≤ (↑(wholeV d) : Int)) && decide ((↑(wholeV d) : Int) ≤ (↑d.length : Int))) (.br (fits (List.length l + 1) 16) (.br (decide (0 ≤ (↑d.length : Int)) && decide ((↑d.length : Int) ≤ (↑d.length : Int))) (.br (decide (0 ≤ (↑(wholeV d) : Int)) && decide ((↑(wholeV d) : Int) ≤ (↑d.length : Int))) (.ret (.inl (stOf [1, 6, 11, 12, 13] [.str (List.take (Int.toNat (↑d.length : Int) - Int.toNat (↑(wholeV d) : Int)) (List.drop (Int.toNat (↑(wholeV d) : Int)) d)), .rowA 0, .list (.int .i64) ps, .int .i64 n, .int .i64 (IntKind.wrap .i64 (i + 1))] [.row Ty.str (l ++ [List.take (Int.toNat (↑(wholeV d) : Int) - Int.toNat 0) (List.drop (Int.toNat 0) d)])]))) .no) .no) .no) .no))) .no) (.br (ps.getD i.toNat (Ty.dflt (Ty.int .i64)) == (-2 : Int)) (.br (bigS d) (.br (textsV d) (.br (decide ((↑d.length : Int) > (↑d.length : Int))) (.ret (.inr (.ret, stOf [1, 4, 5, 6] [.str d, .rowA 0, .bool false, .rowA 1] [.row Ty.str [], .row Ty.str l]))) (.br (ps.getD i.toNat (Ty.dflt (Ty.int .i64)) == (-1 : Int)) (.br ((↑d.length : Int) == 0) (.ret (.inr (.ret, stOf [1, 4, 5, 6] [.str d, .rowA 0, .bool false, .rowA 1] [.row Ty.str [], .row Ty.str l]))) (.br (decide (0 ≤ (↑d.length : Int)) && decide ((↑d.length : Int) ≤ (↑d.length : Int))) (.br (fits (List.length l + 1) 16) (.br (decide (0 ≤ (↑d.length : Int)) && decide ((↑d.length : Int) ≤ (↑d.length : Int))) (.br (decide (0 ≤ (↑d.length : Int)) && decide ((↑d.length : Int) ≤ (↑d.length : Int))) (.ret (.inl (stOf [1, 6, 11, 12, 13] [.str (List.take (Int.toNat (↑d.length : Int) - Int.toNat (↑d.length : Int)) (List.drop (Int.toNat (↑d.length : Int)) d)), .rowA 0, .list (.int .i64) ps, .int .i64 n, .int .i64 (IntKind.wrap .i64 (i + 1))] [.row Ty.str (l ++ [List.take (Int.toNat (↑d.length : Int) - Int.toNat 0) (List.drop (Int.toNat 0) d)])]))) .no) .no) .no) .no)) (.br (decide (0 ≤ (↑d.length : Int)) && decide ((↑d.length : Int) ≤ (↑d.length : Int))) (.br (fits (List.length l + 1) 16) (.br (decide (0 ≤ (↑d.length : Int)) && decide ((↑d.length : Int) ≤ (↑d.length : Int))) (.br (decide (0 ≤ (↑d.length : Int)) && decide ((↑d.length : Int) ≤ (↑d.length : Int))) (.ret (.inl (stOf [1, 6, 11, 12, 13] [.str (List.take (Int.toNat (↑d.length : Int) - Int.toNat (↑d.length : Int)) (List.drop (Int.toNat (↑d.length : Int)) d)), .rowA 0, .list (.int .i64) ps, .int .i64 n, .int .i64 (IntKind.wrap .i64 (i + 1))] [.row Ty.str (l ++ [List.take (Int.toNat (↑d.length : Int) - Int.toNat 0) (List.drop (Int.toNat 0) d)])]))) .no) .no) .no) .no))) (.br (ps.getD i.toNat (Ty.dflt (Ty.int .i64)) == (-3 : Int)) (.br (decide ((↑d.length : Int) > (↑d.length : Int))) (.ret (.inr (.ret, stOf [1, 4, 5, 6] [.str d, .rowA 0, .bool false, .rowA 1] [.row Ty.str [], .row Ty.str l]))) (.br (ps.getD i.toNat (Ty.dflt (Ty.int .i64)) == (-1 : Int)) (.br ((↑d.length : Int) == 0) (.ret (.inr (.ret, stOf [1, 4, 5, 6] [.str d, .rowA 0, .bool false, .rowA 1] [.row Ty.str [], .row Ty.str l]))) (.br (decide (0 ≤ (↑d.length : Int)) && decide ((↑d.length : Int) ≤ (↑d.length : Int))) (.br (fits (List.length l + 1) 16) (.br (decide (0 ≤ (↑d.length : Int)) && decide ((↑d.length : Int) ≤ (↑d.length : Int))) (.br (decide (0 ≤ (↑d.length : Int)) && decide ((↑d.length : Int) ≤ (↑d.length : Int))) (.ret (.inl (stOf [1, 6, 11, 12, 13] [.str (List.take (Int.toNat (↑d.length : Int) - Int.toNat (↑d.length : Int)) (List.drop (Int.toNat (↑d.length : Int)) d)), .rowA 0, .list (.int .i64) ps, .int .i64 n, .int .i64 (IntKind.wrap .i64 (i + 1))] [.row Ty.str (l ++ [List.take (Int.toNat (↑d.length : Int) - Int.toNat 0) (List.drop (Int.toNat 0) d)])]))) .no) .no) .no) .no)) (.br (decide (0 ≤ (↑d.length : Int)) && decide ((↑d.length : Int) ≤ (↑d.length : Int))) (.br (fits (List.length l + 1) 16) (.br (decide (0 ≤ (↑d.length : Int)) && decide ((↑d.length : Int) ≤ (↑d.length : Int))) (.br (decide (0 ≤ (↑d.length : Int)) && decide ((↑d.length : Int) ≤ (↑d.length : Int))) (.ret (.inl (stOf [1, 6, 11, 12, 13] [.str (List.take (Int.toNat (↑d.length : Int) - Int.toNat (↑d.length : Int)) (List.drop (Int.toNat (↑d.length : Int)) d)), .rowA 0, .list (.int .i64) ps, .int .i64 n, .int .i64 (IntKind.wrap .i64 (i + 1))] [.row Ty.str (l ++ [List.take (Int.toNat (↑d.length : Int) - Int.toNat 0) (List.drop (Int.toNat 0) d)])]))) .no) .no) .no) .no))) (.br (decide (ps.getD i.toNat (Ty.dflt (Ty.int .i64)) < 0)) (.ret (.inr (.ret, stOf [1, 4, 5, 6] [.str d, .rowA 0, .bool false, .rowA 1] [.row Ty.str [], .row Ty.str l]))) (.br (decide (ps.getD i.toNat (Ty.dflt (Ty.int .i64)) > (↑d.length : Int))) (.ret (.inr (.ret, stOf [1, 4, 5, 6] [.str d, .rowA 0, .bool false, .rowA 1] [.row Ty.str [], .row Ty.str l]))) (.br (ps.getD i.toNat (Ty.dflt (Ty.int .i64)) == (-1 : Int)) (.br (ps.getD i.toNat (Ty.dflt (Ty.int .i64)) == 0) (.ret (.inr (.ret, stOf [1, 4, 5, 6] [.str d, .rowA 0, .bool false, .rowA 1] [.row Ty.str [], .row Ty.str l]))) (.br (decide (0 ≤ List.getD ps i.toNat (Ty.dflt (Ty.int .i64))) && decide (ps.getD i.toNat (Ty.dflt (Ty.int .i64)) ≤ (↑d.length : Int))) (.br (decide (0 ≤ 0) && decide (0 ≤ List.getD ps i.toNat (Ty.dflt (Ty.int .i64)))) (.br (fits (List.length l + 1) 16) (.br (decide (0 ≤ (↑d.length : Int)) && decide ((↑d.length : Int) ≤ (↑d.length : Int))) (.br (decide (0 ≤ List.getD ps i.toNat (Ty.dflt (Ty.int .i64))) && decide (ps.getD i.toNat (Ty.dflt (Ty.int .i64)) ≤ (↑d.length : Int))) (.ret (.inl (stOf [1, 6, 11, 12, 13] [.str (List.take (Int.toNat (↑d.length : Int) - Int.toNat (ps.getD i.toNat (Ty.dflt (Ty.int .i64)))) (List.drop (Int.toNat (ps.getD i.toNat (Ty.dflt (Ty.int .i64)))) d)), .rowA 0, .list (.int .i64) ps, .int .i64 n, .int .i64 (IntKind.wrap .i64 (i + 1))] [.row Ty.str (l ++ [List.take (Int.toNat (ps.getD i.toNat (Ty.dflt (Ty.int .i64))) - Int.toNat 0) (List.drop (Int.toNat 0) d)])]))) .no) .no) .no) .no) .no)) (.br (decide (0 ≤ List.getD ps i.toNat (Ty.dflt (Ty.int .i64))) && decide (ps.getD i.toNat (Ty.dflt (Ty.int .i64)) ≤ (↑d.length : Int))) (.br (decide (0 ≤ 0) && decide (0 ≤ List.getD ps i.toNat (Ty.dflt (Ty.int .i64)))) (.br (fits (List.length l + 1) 16) (.br (decide (0 ≤ (↑d.length : Int)) && decide ((↑d.length : Int) ≤ (↑d.length : Int))) (.br (decide (0 ≤ List.getD ps i.toNat (Ty.dflt (Ty.int .i64))) && decide (ps.getD i.toNat (Ty.dflt (Ty.int .i64)) ≤ (↑d.length : Int))) (.ret (.inl (stOf [1, 6, 11, 12, 13] [.str (List.take (Int.toNat (↑d.length : Int) - Int.toNat (ps.getD i.toNat (Ty.dflt (Ty.int .i64)))) (List.drop (Int.toNat (ps.getD i.toNat (Ty.dflt (Ty.int .i64)))) d)), .rowA 0, .list (.int .i64) ps, .int .i64 n, .int .i64 (IntKind.wrap .i64 (i + 1))] [.row Ty.str (l ++ [List.take (Int.toNat (ps.getD i.toNat (Ty.dflt (Ty.int .i64))) - Int.toNat 0) (List.drop (Int.toNat 0) d)])]))) .no) .no) .no) .no) .no)))))) .no) (.br (ps.getD i.toNat (Ty.dflt (Ty.int .i64)) == (-3 : Int)) (.br (decide ((↑d.length : Int) > (↑d.length : Int))) (.ret (.inr (.ret, stOf [1, 4, 5, 6] [.str d, .rowA 0, .bool false, .rowA 1] [.row Ty.str [], .row Ty.str l]))) (.br (ps.getD i.toNat (Ty.dflt (Ty.int .i64)) == (-1 : Int)) (.br ((↑d.length : Int) == 0) (.ret (.inr (.ret, stOf [1, 4, 5, 6] [.str d, .rowA 0, .bool false, .rowA 1] [.row Ty.str [], .row Ty.str l]))) (.br (decide (0 ≤ (↑d.length : Int)) && decide ((↑d.length : Int) ≤ (↑d.length : Int))) (.br (fits (List.length l + 1) 16) (.br (decide (0 ≤ (↑d.length : Int)) && decide ((↑d.length : Int) ≤ (↑d.length : Int))) (.br (decide (0 ≤ (↑d.length : Int)) && decide ((↑d.length : Int) ≤ (↑d.length : Int))) (.ret (.inl (stOf [1, 6, 11, 12, 13] [.str (List.take (Int.toNat (↑d.length : Int) - Int.toNat (↑d.length : Int)) (List.drop (Int.toNat (↑d.length : Int)) d)), .rowA 0, .list (.int .i64) ps, .int .i64 n, .int .i64 (IntKind.wrap .i64 (i + 1))] [.row Ty.str (l ++ [List.take (Int.toNat (↑d.length : Int) - Int.toNat 0) (List.drop (Int.toNat 0) d)])]))) .no) .no) .no) .no)) (.br (decide (0 ≤ (↑d.length : Int)) && decide ((↑d.length : Int) ≤ (↑d.length : Int))) (.br (fits (List.length l + 1) 16) (.br (decide (0 ≤ (↑d.length : Int)) && decide ((↑d.length : Int) ≤ (↑d.length : Int))) (.br (decide (0 ≤ (↑d.length : Int)) && decide ((↑d.length : Int) ≤ (↑d.length : Int))) (.ret (.inl (stOf [1, 6, 11, 12, 13] [.str (List.take (Int.toNat (↑d.length : Int) - Int.toNat (↑d.length : Int)) (List.drop (Int.toNat (↑d.length : Int)) d)), .rowA 0, .list (.int .i64) ps, .int .i64 n, .int .i64 (IntKind.wrap .i64 (i + 1))] [.row Ty.str (l ++ [List.take (Int.toNat (↑d.length : Int) - Int.toNat 0) (List.drop (Int.toNat 0) d)])]))) .no) .no) .no) .no))) (.br (decide (ps.getD i.toNat (Ty.dflt (Ty.int .i64)) < 0)) (.ret (.inr (.ret, stOf [1, 4, 5, 6] [.str d, .rowA 0, .bool false, .rowA 1] [.row Ty.str [], .row Ty.str l]))) (.br (decide (ps.getD i.toNat (Ty.dflt (Ty.int .i64)) > (↑d.length : Int))) (.ret (.inr (.ret, stOf [1, 4, 5, 6] [.str d, .rowA 0, .bool false, .rowA 1] [.row Ty.str [], .row Ty.str l]))) (.br (ps.getD i.toNat (Ty.dflt (Ty.int .i64)) == (-1 : Int)) (.br (ps.getD i.toNat (Ty.dflt (Ty.int .i64)) == 0) (.ret (.inr (.ret, stOf [1, 4, 5, 6] [.str d, .rowA 0, .bool false, .rowA 1] [.row Ty.str [], .row Ty.str l]))) (.br (decide (0 ≤ List.getD ps i.toNat (Ty.dflt (Ty.int .i64))) && decide (ps.getD i.toNat (Ty.dflt (Ty.int .i64)) ≤ (↑d.length : Int))) (.br (decide (0 ≤ 0) && decide (0 ≤ List.getD ps i.toNat (Ty.dflt (Ty.int .i64)))) (.br (fits (List.length l + 1) 16) (.br (decide (0 ≤ (↑d.length : Int)) && decide ((↑d.length : Int) ≤ (↑d.length : Int))) (.br (decide (0 ≤ List.getD ps i.toNat (Ty.dflt (Ty.int .i64))) && decide (ps.getD i.toNat (Ty.dflt (Ty.int .i64)) ≤ (↑d.length : Int))) (.ret (.inl (stOf [1, 6, 11, 12, 13] [.str (List.take (Int.toNat (↑d.length : Int) - Int.toNat (ps.getD i.toNat (Ty.dflt (Ty.int .i64)))) (List.drop (Int.toNat (ps.getD i.toNat (Ty.dflt (Ty.int .i64)))) d)), .rowA 0, .list (.int .i64) ps, .int .i64 n, .int .i64 (IntKind.wrap .i64 (i + 1))] [.row Ty.str (l ++ [List.take (Int.toNat (ps.getD i.toNat (Ty.dflt (Ty.int .i64))) - Int.toNat 0) (List.drop (Int.toNat 0) d)])]))) .no) .no) .no) .no) .no)) (.br (decide (0 ≤ List.getD ps i.toNat (Ty.dflt (Ty.int .i64))) && decide (ps.getD i.toNat (Ty.dflt (Ty.int .i64)) ≤ (↑d.length : Int))) (.br (decide (0 ≤ 0) && decide (0 ≤ List.getD ps i.toNat (Ty.dflt (Ty.int .i64)))) (.br (fits (List.length l + 1) 16) (.br (decide (0 ≤ (↑d.length : Int)) && decide ((↑d.length : Int) ≤ (↑d.length : Int))) (.br (decide (0 ≤ List.getD ps i.toNat (Ty.dflt (Ty.int .i64))) && decide (ps.getD i.toNat (Ty.dflt (Ty.int .i64)) ≤ (↑d.length : Int))) (.ret (.inl (stOf [1, 6, 11, 12, 13] [.str (List.take (Int.toNat (↑d.length : Int) - Int.toNat (ps.getD i.toNat (Ty.dflt (Ty.int .i64)))) (List.drop (Int.toNat (ps.getD i.toNat (Ty.dflt (Ty.int .i64)))) d)), .rowA 0, .list (.int .i64) ps, .int .i64 n, .int .i64 (IntKind.wrap .i64 (i + 1))] [.row Ty.str (l ++ [List.take (Int.toNat (ps.getD i.toNat (Ty.dflt (Ty.int .i64))) - Int.toNat 0) (List.drop (Int.toNat 0) d)])]))) .no) .no) .no) .no) .no))))))) .no) .no) (.ret (.inr (.exit 0, stOf [1, 4, 5, 6] [.str d, .dead, .dead, .rowA 0] [.row Ty.str l])))
theorem round97 (lp : Lp) (d : List UInt8) (ps : List Int) (n i : Int) (l : List (List UInt8)) : evC T0 (orcB [fs94w, fs123w, fs124w] []) lp b97 0 (stOf [1, 6, 11, 12, 13] [.str d, .rowA 0, .list (.int .i64) ps, .int .i64 n, .int .i64 i] [.row .str l]) (roundK [1, 6, 11, 12, 13] [1, 4, 5, 6] 0) = (r97 d ps n i l).get := by kernel_rfl
theorem wf97 (ps : List Int) (n : Int) (I'' : List UInt8 → Int → List (List UInt8) → Prop) (m'' : List UInt8 → Int → List (List UInt8) → Nat) (r'' : Ex × St) (h : ∀ (d : List UInt8) (i : Int) (l : List (List UInt8)), I'' d i l → (r97 d ps n i l).all fun x'' => x'' = .inr r'' ∨ ∃ (d' : List UInt8) (i' : Int) (l' : List (List UInt8)), x'' = .inl (stOf [1, 6, 11, 12, 13] [.str d', .rowA 0, .list (.int .i64) ps, .int .i64 n, .int .i64 i'] [.row .str l']) ∧ I'' d' i' l' ∧ m'' d' i' l' < m'' d i l) (lp : Lp) (d : List UInt8) (i : Int) (l : List (List UInt8)) : I'' d i l →
    loopF (fun st => evC T0 (orcB [fs94w, fs123w, fs124w] []) lp b97 0 st (roundK [1, 6, 11, 12, 13] [1, 4, 5, 6] 0)) (stOf [1, 6, 11, 12, 13] [.str d, .rowA 0, .list (.int .i64) ps, .int .i64 n, .int .i64 i] [.row .str l]) = some r'' :=
 loop_tr (fun a'' : List UInt8 × Int × List (List UInt8) => stOf [1, 6, 11, 12, 13] [.str a''.1, .rowA 0, .list (.int .i64) ps, .int .i64 n, .int .i64 a''.2.1] [.row .str a''.2.2]) (fun a'' => I'' a''.1 a''.2.1 a''.2.2) (fun a'' => m'' a''.1 a''.2.1 a''.2.2) r'' (fun a'' => r97 a''.1 ps n a''.2.1 a''.2.2)
  (fun a'' x hx => (round97 lp a''.1 ps n a''.2.1 a''.2.2).trans hx) (fun a'' ha => Tr.all_mono (fun x'' hx => hx.imp id fun ⟨d', i', l', h1, h2, h3⟩ => ⟨(d', i', l'), h1, h2, h3⟩) (h (a''.1) (a''.2.1) (a''.2.2) ha)) (d, i, l)
def cutI (ps0 : List Int) (d0 : List UInt8) (l0 : List (List UInt8)) (d : List UInt8) (i : Int) (l : List (List UInt8)) : Prop := 0 ≤ i ∧ i ≤ ps0.length ∧ bigS d = true ∧ l.length = i.toNat ∧ cutS (ps0.drop i.toNat) d l = cutS ps0 d0 l0
theorem cut_cont {P : St ⊕ (Ex × St) → Prop} {d : List UInt8} {l : List (List UInt8)} {ps : List Int} {n i sz : Int} (h0 : 0 ≤ sz) (h1 : sz ≤ d.length) (hf : fits (l.length + 1) 16 = true)
    (hr : P (Sum.inl (stOf [1, 6, 11, 12, 13] [AV.str (d.drop sz.toNat), AV.rowA 0, AV.list (Ty.int IntKind.i64) ps, AV.int IntKind.i64 n, AV.int IntKind.i64 (IntKind.wrap IntKind.i64 (i + (1 : Int)))] [LObj.row Ty.str (l ++ [d.take sz.toNat])]))) :
    (Tr.br (decide ((0 : Int) ≤ sz) && decide (sz ≤ (↑(List.length d) : Int))) (Tr.br (fits (List.length l + 1) 16) (Tr.br (decide ((0 : Int) ≤ (↑(List.length d) : Int)) && decide ((↑(List.length d) : Int) ≤ (↑(List.length d) : Int))) (Tr.br (decide ((0 : Int) ≤ sz) && decide (sz ≤ (↑(List.length d) : Int)))
     (Tr.ret (Sum.inl (stOf [1, 6, 11, 12, 13] [AV.str (List.take (Int.toNat (↑(List.length d) : Int) - Int.toNat sz) (List.drop (Int.toNat sz) d)), AV.rowA 0, AV.list (Ty.int IntKind.i64) ps, AV.int IntKind.i64 n, AV.int IntKind.i64 (IntKind.wrap IntKind.i64 (i + (1 : Int)))] [LObj.row Ty.str (l ++ [List.take (Int.toNat sz - Int.toNat (0 : Int)) (List.drop (Int.toNat (0 : Int)) d)])]))) Tr.no) Tr.no) Tr.no) Tr.no).all P := by
 have e : List.take (Int.toNat (↑(List.length d) : Int) - Int.toNat sz) (List.drop (Int.toNat sz) d) = d.drop sz.toNat := List.take_of_length_le (by simp)
 have e2 : List.take (Int.toNat sz - Int.toNat (0 : Int)) (List.drop (Int.toNat (0 : Int)) d) = d.take sz.toNat := rfl
 rw [e, e2]
 refine Tr.all_t (by rw [dec_true h0, dec_true h1]; rfl) (Tr.all_t hf (Tr.all_t (by rw [dec_true (by omega), dec_true (by omega)]; rfl) (Tr.all_t (by rw [dec_true h0, dec_true h1]; rfl) (Tr.all_ret hr))))
theorem cut_contX {P : St ⊕ (Ex × St) → Prop} {d : List UInt8} {l : List (List UInt8)} {ps : List Int} {n i sz : Int} (h0 : 0 ≤ sz) (h1 : sz ≤ d.length) (hf : fits (l.length + 1) 16 = true)
    (hr : P (Sum.inl (stOf [1, 6, 11, 12, 13] [AV.str (d.drop sz.toNat), AV.rowA 0, AV.list (Ty.int IntKind.i64) ps, AV.int IntKind.i64 n, AV.int IntKind.i64 (IntKind.wrap IntKind.i64 (i + (1 : Int)))] [LObj.row Ty.str (l ++ [d.take sz.toNat])]))) :
    (Tr.br (decide ((0 : Int) ≤ sz) && decide (sz ≤ (↑(List.length d) : Int))) (Tr.br (decide ((0 : Int) ≤ (0 : Int)) && decide ((0 : Int) ≤ sz)) (Tr.br (fits (List.length l + 1) 16) (Tr.br (decide ((0 : Int) ≤ (↑(List.length d) : Int)) && decide ((↑(List.length d) : Int) ≤ (↑(List.length d) : Int))) (Tr.br (decide ((0 : Int) ≤ sz) && decide (sz ≤ (↑(List.length d) : Int)))
     (Tr.ret (Sum.inl (stOf [1, 6, 11, 12, 13] [AV.str (List.take (Int.toNat (↑(List.length d) : Int) - Int.toNat sz) (List.drop (Int.toNat sz) d)), AV.rowA 0, AV.list (Ty.int IntKind.i64) ps, AV.int IntKind.i64 n, AV.int IntKind.i64 (IntKind.wrap IntKind.i64 (i + (1 : Int)))] [LObj.row Ty.str (l ++ [List.take (Int.toNat sz - Int.toNat (0 : Int)) (List.drop (Int.toNat (0 : Int)) d)])]))) Tr.no) Tr.no) Tr.no) Tr.no) Tr.no).all P := by
 have e : List.take (Int.toNat (↑(List.length d) : Int) - Int.toNat sz) (List.drop (Int.toNat sz) d) = d.drop sz.toNat := List.take_of_length_le (by simp)
 have e2 : List.take (Int.toNat sz - Int.toNat (0 : Int)) (List.drop (Int.toNat (0 : Int)) d) = d.take sz.toNat := rfl
 rw [e, e2]
 refine Tr.all_t (by rw [dec_true h0, dec_true h1]; rfl) (Tr.all_t (by rw [dec_true h0]; rfl) (Tr.all_t hf (Tr.all_t (by rw [dec_true (by omega), dec_true (by omega)]; rfl) (Tr.all_t (by rw [dec_true h0, dec_true h1]; rfl) (Tr.all_ret hr)))))
theorem loop97 : ls97.Ok T0 (orcB [fs94w, fs123w, fs124w] []) h97 0 0 b97 := by
 intro q'' hq'' x'' y'' r'' h
 obtain ⟨(d : List UInt8), (ps : List Int), (n : Int), (i : Int), _⟩ := x''
 obtain ⟨(l : List (List UInt8)), _⟩ := y''
 obtain ⟨hc, rfl⟩ := Tr.get_on2 h
 show loopF (fun st => evC T0 (orcB [fs94w, fs123w, fs124w] []) (lpN T0 (orcB [fs94w, fs123w, fs124w] []) h97 0 q'') b97 0 st (roundK [1, 6, 11, 12, 13] [1, 4, 5, 6] 0)) (stOf [1, 6, 11, 12, 13] [.str d, .rowA 0, .list (.int .i64) ps, .int .i64 n, .int .i64 i] [.row .str l]) = some ((bif (cutS ps d l).1 then (.exit 0, [.str (cutS ps d l).2.1, .dead, .dead, .rowA 0], [.row .str (cutS ps d l).2.2]) else (.ret, [.str (cutS ps d l).2.1, .rowA 0, .bool false, .rowA 1], [.row .str [], .row .str (cutS ps d l).2.2]) : Ex × List AV × List LObj).1, stOf [1, 4, 5, 6] (bif (cutS ps d l).1 then (.exit 0, [.str (cutS ps d l).2.1, .dead, .dead, .rowA 0], [.row .str (cutS ps d l).2.2]) else (.ret, [.str (cutS ps d l).2.1, .rowA 0, .bool false, .rowA 1], [.row .str [], .row .str (cutS ps d l).2.2]) : Ex × List AV × List LObj).2.1 (bif (cutS ps d l).1 then (.exit 0, [.str (cutS ps d l).2.1, .dead, .dead, .rowA 0], [.row .str (cutS ps d l).2.2]) else (.ret, [.str (cutS ps d l).2.1, .rowA 0, .bool false, .rowA 1], [.row .str [], .row .str (cutS ps d l).2.2]) : Ex × List AV × List LObj).2.2)
 simp only [cutC, Bool.and_eq_true, decide_eq_true_eq, noS, List.isEmpty_iff] at hc
 obtain ⟨hb, rfl, rfl, rfl, hps⟩ := hc
 refine wf97 ps _ (cutI ps d []) (fun _ i _ => (ps.length - i).toNat) _ ?_ _ d 0 [] ⟨by omega, by omega, hb, rfl, rfl⟩
 clear hb
 rintro d' i l' ⟨h0, h1, hb, hl, hF⟩
 rw [← hF]
 have hB : d'.length ≤ 1000000000000 := by simpa [bigS] using hb
 unfold r97
 by_cases hi : i < ps.length
 · obtain ⟨d1, _⟩ := drop_getD (Ty.dflt (Ty.int .i64)) h0 hi
   generalize List.getD ps (Int.toNat i) (Ty.dflt (Ty.int .i64)) = x at d1
   rw [d1, cutS] at hF ⊢
   have hfit : fits (l'.length + 1) 16 = true := fits_true (by omega) (by omega)
   have hw : IntKind.wrap .i64 (i + 1) = i + 1 := IntWalk.i64_in _ (by omega)
   have nextI : ∀ sz, szP x d' = sz → okP x d' = true → cutI ps d [] (d'.drop sz.toNat) (IntKind.wrap .i64 (i + 1)) (l' ++ [d'.take sz.toNat]) ∧ (ps.length - IntKind.wrap .i64 (i + 1)).toNat < (ps.length - i).toNat := fun sz hs ho => by
    subst hs
    rw [hw]
    refine ⟨⟨by omega, by omega, by simp [bigS]; omega, by simp; omega, ?_⟩, by omega⟩
    rw [← hF, if_pos ho]
   have hwh := wholeV_le d'
   have hfail : okP x d' = false → (if okP x d' = true then cutS (List.drop (i + 1).toNat ps) (List.drop (szP x d').toNat d') (l' ++ [List.take (szP x d').toNat d']) else (false, d', l')) = (false, d', l') := fun h => if_neg (by rw [h]; simp)
   refine Tr.all_t (dec_true hi) (Tr.all_t (dec_true h0) (Tr.all_t (dec_true hi) ?_))
   by_cases x1 : x = -1
   · have es : szP x d' = (wholeV d' : Int) := by unfold szP; rw [if_pos x1]
     have eo : okP x d' = !decide ((wholeV d' : Int) = 0) := by
      unfold okP
      rw [es, dec_true (by omega), dec_true (by omega), dec_true x1]
      rfl
     refine Tr.all_t (beq_iff_eq.2 x1) (Tr.all_t hb (Tr.all_f (dec_false (by omega)) (Tr.all_t (beq_iff_eq.2 x1) (Tr.all_br (fun c => Tr.all_ret (.inl ?_)) fun c => cut_cont (by omega) (by omega) hfit (.inr ⟨_, _, _, rfl, nextI _ es ?_⟩)))))
     · rw [hfail (by rw [eo, dec_true (beq_iff_eq.1 c)]; rfl)]
       rfl
     · rw [eo, dec_false (beq_eq_false_iff_ne.1 c)]
       rfl
   have hx1 : (x == -1) = false := beq_eq_false_iff_ne.2 x1
   have other : ¬ (x = -2 ∧ textsV d' = true ∨ x = -3) → szP x d' = x ∧ okP x d' = (decide (0 ≤ x) && decide (x ≤ (d'.length : Int))) := fun h => by
    have es : szP x d' = x := by unfold szP; rw [if_neg x1, if_neg h]
    refine ⟨es, ?_⟩
    unfold okP
    rw [es, dec_false x1]
    simp
   have full : (x = -2 ∧ textsV d' = true ∨ x = -3) → szP x d' = (d'.length : Int) ∧ okP x d' = true := fun h => by
    have es : szP x d' = (d'.length : Int) := by unfold szP; rw [if_neg x1, if_pos h]
    refine ⟨es, ?_⟩
    unfold okP
    rw [es, dec_false x1]
    simp
   refine Tr.all_f hx1 (Tr.all_br (fun c2 => Tr.all_t hb (Tr.all_br (fun ct => ?_) fun ct => ?_)) fun c2 => ?_)
   · obtain ⟨es, eo⟩ := full (.inl ⟨beq_iff_eq.1 c2, ct⟩)
     exact Tr.all_f (dec_false (by omega)) (Tr.all_f hx1 (cut_cont (by omega) (by omega) hfit (.inr ⟨_, _, _, rfl, nextI _ es eo⟩)))
   · have hx2 := beq_iff_eq.1 c2
     obtain ⟨es, eo⟩ := other (by rw [ct]; simp; omega)
     refine Tr.all_f (beq_eq_false_iff_ne.2 (by omega)) (Tr.all_t (dec_true (by omega)) (Tr.all_ret (.inl ?_)))
     rw [hfail (by rw [eo, dec_false (by omega)]; rfl)]
     rfl
   · refine Tr.all_br (fun c3 => ?_) fun c3 => ?_
     · obtain ⟨es, eo⟩ := full (.inr (beq_iff_eq.1 c3))
       exact Tr.all_f (dec_false (by omega)) (Tr.all_f hx1 (cut_cont (by omega) (by omega) hfit (.inr ⟨_, _, _, rfl, nextI _ es eo⟩)))
     · have hx2 := beq_eq_false_iff_ne.1 c2
       have hx3 := beq_eq_false_iff_ne.1 c3
       obtain ⟨es, eo⟩ := other (by omega)
       refine Tr.all_br (fun c4 => Tr.all_ret (.inl ?_)) fun c4 => Tr.all_br (fun c5 => Tr.all_ret (.inl ?_)) fun c5 => ?_
       · simp only [decide_eq_true_eq] at c4
         rw [hfail (by rw [eo, dec_false (by omega)]; rfl)]
         rfl
       · simp only [decide_eq_true_eq] at c5
         rw [hfail (by rw [eo, dec_false (show ¬ x ≤ (d'.length : Int) by omega), Bool.and_false])]
         rfl
       · simp only [decide_eq_false_iff_not] at c4 c5
         exact Tr.all_f hx1 (cut_contX (by omega) (by omega) hfit (.inr ⟨_, _, _, rfl, nextI _ es (by rw [eo, dec_true (by omega), dec_true (by omega)]; rfl)⟩))
 · have : ps.drop i.toNat = [] := List.drop_eq_nil_of_le (by omega)
   rw [this]
   exact Tr.all_f (dec_false hi) (Tr.all_ret (.inl rfl))
def t97 (k : Int) (d : List UInt8) : Tr Res := .br (cutC d (layV k) (↑(List.length (layV k)) : Int) 0 []) (.br (cutS (layV k) d []).1 (.ret ([.list Ty.str (cutS (layV k) d []).2.2, .bool ((cutS (layV k) d []).2.1 == [])], [])) (.ret ([.list Ty.str [], .bool false], []))) .no
def os97 : OSpec := { f := 97, sh := [.d (.int .u16) false, .d .str false], so := [], F := fun (k, d, _) _ => t97 k d }
theorem fn97 (k : Int) (d : List UInt8) : evC T0 (orcB [fs94w, fs123w, fs124w] []) (lpOf h97 0 (lsOf [ls97])) c97 1000000 (startSt [.int .u16 k, .str d] [] Try.f97.ntmps) (finishK T0 false 0 Try.f97) = (t97 k d).get := by kernel_rfl
theorem ok97 : os97.Ok Try.prog := by
 refine os_ok mixed0 tab0 (orcB_sound (all_cons okf94w (all_cons okf123w (all_cons okf124w all_nil))) all_nil) h97 (d := 0) (n0 := 0) (S := lsOf [ls97]) Try.func97 (by kernel_rfl) (c := c97) (by kernel_rfl) rfl (loops_eq (xs := [(0, b97)]) (by kernel_rfl) (all_cons (ls_here loop97) all_nil)) (by omega) (by kernel_rfl) ?_
 intro x'' y'' q'' hq''
 obtain ⟨(k : Int), (d : List UInt8), _⟩ := x''
 exact (fn97 k d).trans hq''
def fs97 : FSpec := fsT 97 [((.int .u16), false), (.str, false)] [((.list .str), false), (.bool, false)] fun (k, d, _) => t97 k d
theorem okf97 : fs97.Ok Try.prog := fsT_ok fun x'' r'' hr'' => ok97 x'' () r'' hr''
theorem layV_len (k : Int) : (layV k).length ≤ 10 := by
 unfold layV
 repeat' split
 all_goals simp
def fs97w : FSpec := fs97.like fun (k, d, _) => .on (bigS d) (bif okV k d then partsV k d else [], okV k d && (restV k d).isEmpty, ())
theorem okf97w : fs97w.Ok Try.prog := by
 refine flike_ok okf97 _ ?_
 rintro ⟨(k : Int), (d : List UInt8), _⟩ y h
 obtain ⟨hb, rfl⟩ := Tr.get_on h
 refine convR_of (vs := [.list .str (bif okV k d then partsV k d else []), .bool (okV k d && (restV k d).isEmpty)]) rfl rfl (Tr.get_of_all ?_)
 show (t97 k d).all _
 unfold t97 okV partsV restV
 have hl := layV_len k
 refine Tr.all_t (by simp [cutC, hb, noS, hl]) (Tr.all_br (fun c1 => Tr.all_ret ?_) fun c1 => Tr.all_ret ?_)
 · rw [c1]
   have : ((cutS (layV k) d []).2.1 == []) = (cutS (layV k) d []).2.1.isEmpty := by cases (cutS (layV k) d []).2.1 <;> rfl
   rw [this]
   rfl
 · rw [c1]
   rfl
def t58 (k : Int) (d : List UInt8) : Tr Res := .br (bigS d) (.br (okV k d && List.isEmpty (restV k d)) (.ret ([.bool (decide ((↑d.length : Int) ≤ 65535))], [])) (.ret ([.bool false], []))) .no
def os58 : OSpec := { f := 58, sh := [.d (.int .u16) false, .d .str false], so := [], F := fun (k, d, _) _ => t58 k d }
theorem fn58 (k : Int) (d : List UInt8) : evC T0 (orcB [fs94w, fs97w] []) (lpOf h58 0 (lsOf [])) c58 1000000 (startSt [.int .u16 k, .str d] [] Try.f58.ntmps) (finishK T0 false 0 Try.f58) = (t58 k d).get := by kernel_rfl
theorem ok58 : os58.Ok Try.prog := by
 refine os_ok mixed0 tab0 (orcB_sound (all_cons okf94w (all_cons okf97w all_nil)) all_nil) h58 (d := 0) (n0 := 0) (S := lsOf []) Try.func58 (by kernel_rfl) (c := c58) (by kernel_rfl) rfl (no_loops (by kernel_rfl)) (by omega) (by kernel_rfl) ?_
 intro x'' y'' q'' hq''
 obtain ⟨(k : Int), (d : List UInt8), _⟩ := x''
 exact (fn58 k d).trans hq''
def fs58 : FSpec := fsT 58 [((.int .u16), false), (.str, false)] [(.bool, false)] fun (k, d, _) => t58 k d
theorem okf58 : fs58.Ok Try.prog := fsT_ok fun x'' r'' hr'' => ok58 x'' () r'' hr''
def fs58w : FSpec := fs58.like fun (k, d, _) => .on (bigS d) (mayR k d, ())
theorem okf58w : fs58w.Ok Try.prog := by
 refine flike_ok okf58 _ ?_
 rintro ⟨(k : Int), (d : List UInt8), _⟩ y h
 obtain ⟨hb, rfl⟩ := Tr.get_on h
 refine convR_of (vs := [.bool (mayR k d)]) rfl rfl (Tr.get_of_all ?_)
 show (t58 k d).all _
 unfold t58 mayR
 refine Tr.all_t hb (Tr.all_br (fun c1 => Tr.all_ret ?_) fun c1 => Tr.all_ret ?_)
 · rw [c1, ble_iff, Bool.true_and]
   congr 3
   rw [Bool.eq_iff_iff]
   simp
   omega
 · rw [c1]
   rfl
noncomputable def b67 : Code := nthLoop c67 0
def ls67 : LoopSpec := { bid := 0, sh := [.ptr 0 0, .d (.list .str) false, .d (.list (.int .i64)) false, .d (.int .i64) false, .d (.int .i64) false], so := [.box [.row 1, .mp 2], .row (.int .u8), .map .str (.int .i64)], F := fun (ls, ps, n, i, _) (_, b, m, _) => .on (putC ls ps n i b m) (.exit 0, [], [.box [.rowA 1, .mp 2], .row (.int .u8) (bytesInt (putS ps ls (intBytes b, m)).1), .mpo .str (.int .i64) (putS ps ls (intBytes b, m)).2]) }
def r67 (ls : List (List UInt8)) (ps : List Int) (n i : Int) (b : List Int) (m : List (List UInt8 × Int)) : Tr (St ⊕ (Ex × St)) := .br (decide (i < n)) (.br (decide (0 ≤ i)) (.br (decide (i < (↑ps.length : Int))) (.br (ps.getD i.toNat (Ty.dflt (Ty.int .i64)) == (-1 : Int)) (.br (decide (0 ≤ i)) (.br (decide (i < (↑ls.length : Int))) (.br (pkC b m && Nat.ble (List.length (ls.getD i.toNat (Ty.dflt Ty.str))) 100000000000) (.br (mayV (ls.getD i.toNat (Ty.dflt Ty.str))) (.ret (.inl (stOf [0, 7, 26, 27, 28] [.ptr 0 0, .list Ty.str ls, .list (.int .i64) ps, .int .i64 n, .int .i64 (IntKind.wrap .i64 (i + 1))] [.boxT none [.rowA 1, .mp 2], .row (.int .u8) (bytesInt (nameP (ls.getD i.toNat (Ty.dflt Ty.str)) (intBytes b) m).1), .mpo .str (.int .i64) (nameP (ls.getD i.toNat (Ty.dflt Ty.str)) (intBytes b) m).2]))) (.ret (.inl (stOf [0, 7, 26, 27, 28] [.ptr 0 0, .list Ty.str ls, .list (.int .i64) ps, .int .i64 n, .int .i64 (IntKind.wrap .i64 (i + 1))] [.boxT none [.rowA 1, .mp 2], .row (.int .u8) b, .mpo .str (.int .i64) m])))) .no) .no) .no) (.br (decide (0 ≤ i)) (.br (decide (i < (↑ls.length : Int))) (.br (fits (List.length b + List.length (bytesInt (ls.getD i.toNat (Ty.dflt Ty.str)))) 1) (.ret (.inl (stOf [0, 7, 26, 27, 28] [.ptr 0 0, .list Ty.str ls, .list (.int .i64) ps, .int .i64 n, .int .i64 (IntKind.wrap .i64 (i + 1))] [.boxT none [.rowA 1, .mp 2], .row (.int .u8) (b ++ bytesInt (ls.getD i.toNat (Ty.dflt Ty.str))), .mpo .str (.int .i64) m]))) .no) .no) .no)) .no) .no) (.ret (.inr (.exit 0, stOf [] [] [.boxT none [.rowA 1, .mp 2], .row (.int .u8) b, .mpo .str (.int .i64) m])))
theorem round67 (lp : Lp) (ls : List (List UInt8)) (ps : List Int) (n i : Int) (b : List Int) (m : List (List UInt8 × Int)) : evC T0 (orcB [fs94w, fs97w, fs58w] [os59w, os60]) lp b67 0 (stOf [0, 7, 26, 27, 28] [.ptr 0 0, .list .str ls, .list (.int .i64) ps, .int .i64 n, .int .i64 i] [.box [.rowA 1, .mp 2], .row (.int .u8) b, .mpo .str (.int .i64) m]) (roundK [0, 7, 26, 27, 28] [] 3) = (r67 ls ps n i b m).get := by kernel_rfl
theorem wf67 (ls : List (List UInt8)) (ps : List Int) (n : Int) (I'' : Int → List Int → List (List UInt8 × Int) → Prop) (m'' : Int → List Int → List (List UInt8 × Int) → Nat) (r'' : Ex × St) (h : ∀ (i : Int) (b : List Int) (m : List (List UInt8 × Int)), I'' i b m → (r67 ls ps n i b m).all fun x'' => x'' = .inr r'' ∨ ∃ (i' : Int) (b' : List Int) (m' : List (List UInt8 × Int)), x'' = .inl (stOf [0, 7, 26, 27, 28] [.ptr 0 0, .list .str ls, .list (.int .i64) ps, .int .i64 n, .int .i64 i'] [.box [.rowA 1, .mp 2], .row (.int .u8) b', .mpo .str (.int .i64) m']) ∧ I'' i' b' m' ∧ m'' i' b' m' < m'' i b m) (lp : Lp) (i : Int) (b : List Int) (m : List (List UInt8 × Int)) : I'' i b m →
    loopF (fun st => evC T0 (orcB [fs94w, fs97w, fs58w] [os59w, os60]) lp b67 0 st (roundK [0, 7, 26, 27, 28] [] 3)) (stOf [0, 7, 26, 27, 28] [.ptr 0 0, .list .str ls, .list (.int .i64) ps, .int .i64 n, .int .i64 i] [.box [.rowA 1, .mp 2], .row (.int .u8) b, .mpo .str (.int .i64) m]) = some r'' :=
 loop_tr (fun a'' : Int × List Int × List (List UInt8 × Int) => stOf [0, 7, 26, 27, 28] [.ptr 0 0, .list .str ls, .list (.int .i64) ps, .int .i64 n, .int .i64 a''.1] [.box [.rowA 1, .mp 2], .row (.int .u8) a''.2.1, .mpo .str (.int .i64) a''.2.2]) (fun a'' => I'' a''.1 a''.2.1 a''.2.2) (fun a'' => m'' a''.1 a''.2.1 a''.2.2) r'' (fun a'' => r67 ls ps n a''.1 a''.2.1 a''.2.2)
  (fun a'' x hx => (round67 lp ls ps n a''.1 a''.2.1 a''.2.2).trans hx) (fun a'' ha => Tr.all_mono (fun x'' hx => hx.imp id fun ⟨i', b', m', h1, h2, h3⟩ => ⟨(i', b', m'), h1, h2, h3⟩) (h (a''.1) (a''.2.1) (a''.2.2) ha)) (i, b, m)
def putI (ps0 : List Int) (ls0 : List (List UInt8)) (p0 : PKt) (i : Int) (b : List Int) (m : Known) : Prop := 0 ≤ i ∧ i ≤ ps0.length ∧ ∃ p : PKt, b = bytesInt p.1 ∧ m = p.2 ∧ kOk p.2 = true ∧ p.1.length ≤ 1000000000 + 1000000 * i.toNat ∧ putS (ps0.drop i.toNat) (ls0.drop i.toNat) p = putS ps0 ls0 p0
theorem loop67 : ls67.Ok T0 (orcB [fs94w, fs97w, fs58w] [os59w, os60]) h67 3 0 b67 := by
 intro q'' hq'' x'' y'' r'' h
 obtain ⟨(ls : List (List UInt8)), (ps : List Int), (n : Int), (i : Int), _⟩ := x''
 obtain ⟨_, (b : List Int), (m : List (List UInt8 × Int)), _⟩ := y''
 obtain ⟨hc, rfl⟩ := Tr.get_on h
 show loopF (fun st => evC T0 (orcB [fs94w, fs97w, fs58w] [os59w, os60]) (lpN T0 (orcB [fs94w, fs97w, fs58w] [os59w, os60]) h67 3 q'') b67 0 st (roundK [0, 7, 26, 27, 28] [] 3)) (stOf [0, 7, 26, 27, 28] [.ptr 0 0, .list .str ls, .list (.int .i64) ps, .int .i64 n, .int .i64 i] [.box [.rowA 1, .mp 2], .row (.int .u8) b, .mpo .str (.int .i64) m]) = some (.exit 0, stOf [] ([]) ([.box [.rowA 1, .mp 2], .row (.int .u8) (bytesInt (putS ps ls (intBytes b, m)).1), .mpo .str (.int .i64) (putS ps ls (intBytes b, m)).2]))
 simp only [putC, Bool.and_eq_true, decide_eq_true_eq, List.all_eq_true] at hc
 obtain ⟨⟨hok, hk, hb⟩, rfl, rfl, hl, hps, hx⟩ := hc
 have hb := Nat.le_of_ble_eq_true hb
 refine wf67 ls ps _ (putI ps ls (intBytes b, m)) (fun i _ _ => (ps.length - i).toNat) _ ?_ _ 0 b m ⟨by omega, by omega, (intBytes b, m), (bytes_intB hok).symm, rfl, hk, by rw [intB_len]; exact hb, rfl⟩
 clear hok hk hb
 rintro i b' m' ⟨h0, h1, p, rfl, rfl, hk, hpl, hF⟩
 rw [← hF]
 unfold r67
 by_cases hi : i < ps.length
 · obtain ⟨d1, _⟩ := drop_getD (Ty.dflt (Ty.int .i64)) h0 hi
   obtain ⟨e1, e2⟩ := drop_getD (l := ls) (Ty.dflt Ty.str) h0 (by omega)
   generalize List.getD ps (Int.toNat i) (Ty.dflt (Ty.int .i64)) = x at d1
   generalize List.getD ls (Int.toNat i) (Ty.dflt Ty.str) = y at e1 e2
   have hy := hx y e2
   rw [d1, e1, putS] at hF
   simp only [List.tail_cons, List.headD_cons] at hF
   have hpk : (pkC (bytesInt p.1) p.2 && Nat.ble y.length 100000000000) = true := by
    unfold pkC
    rw [bytesInt_ok, hk, bytesInt_len, Nat.ble_eq_true_of_le (by omega), Nat.ble_eq_true_of_le (by omega)]
    rfl
   have hfb : fits ((bytesInt p.1).length + (bytesInt y).length) 1 = true := fits_true (by rw [bytesInt_len, bytesInt_len]; omega) (by rw [bytesInt_len, bytesInt_len]; omega)
   obtain ⟨k1, k2⟩ := stN_k (p := p) (x := (y, false)) hk
   have hil : i < (ls.length : Int) := by omega
   rw [intB_bytes, IntWalk.i64_in _ (by omega), ← bytesInt_app]
   refine Tr.all_t (dec_true hi) (Tr.all_t (dec_true h0) (Tr.all_t (dec_true hi) (Tr.all_br (fun c => Tr.all_t (dec_true h0) (Tr.all_t (dec_true hil) (Tr.all_t hpk (Tr.all_br (fun c1 => Tr.all_ret (.inr ?_)) fun c1 => Tr.all_ret (.inr ?_))))) fun c => Tr.all_t (dec_true h0) (Tr.all_t (dec_true hil) (Tr.all_t hfb (Tr.all_ret (.inr ?_)))))))
   · rw [c, cond_true] at hF
     have e : stN p (y, false) = nameP y p.1 p.2 := by unfold stN; rw [c1]; rfl
     rw [e] at hF k1 k2
     have k2 : (nameP y p.1 p.2).1.length ≤ p.1.length + y.length := k2
     exact ⟨_, _, _, rfl, ⟨by omega, by omega, nameP y p.1 p.2, rfl, rfl, k1, by omega, hF⟩, by omega⟩
   · rw [c, cond_true] at hF
     have e : stN p (y, false) = p := by unfold stN; rw [c1]; rfl
     rw [e] at hF
     exact ⟨_, _, _, rfl, ⟨by omega, by omega, p, rfl, rfl, hk, by omega, hF⟩, by omega⟩
   · rw [c, cond_false] at hF
     exact ⟨_, _, _, rfl, ⟨by omega, by omega, (p.1 ++ y, p.2), rfl, rfl, hk, by simp only [List.length_append]; omega, hF⟩, by omega⟩
 · refine Tr.all_f (dec_false hi) (Tr.all_ret (.inl ?_))
   rw [List.drop_eq_nil_of_le (by omega)]
   rfl
def t67 (k : Int) (d : List UInt8) (b : List Int) (m : List (List UInt8 × Int)) : Tr Res := .br (bigS d) (.br (!mayR k d) (.ret ([.int .i64 1], [.boxT none [.rowA 1, .mp 2], .row (.int .u8) b, .mpo .str (.int .i64) m])) (.br (bigS d) (.br (putC (bif okV k d then partsV k d else []) (layV k) (↑(List.length (layV k)) : Int) 0 b m) (.ret ([.int .i64 0], [.boxT none [.rowA 1, .mp 2], .row (.int .u8) (bytesInt (putS (layV k) (bif okV k d then partsV k d else []) (intBytes b, m)).1), .mpo .str (.int .i64) (putS (layV k) (bif okV k d then partsV k d else []) (intBytes b, m)).2])) .no) .no)) .no
def os67 : OSpec := { f := 67, sh := [.ptr 0 0, .d (.int .u16) false, .d .str false], so := [.box [.row 1, .mp 2], .row (.int .u8), .map .str (.int .i64)], F := fun (k, d, _) (_, b, m, _) => t67 k d b m }
theorem fn67 (k : Int) (d : List UInt8) (b : List Int) (m : List (List UInt8 × Int)) : evC T0 (orcB [fs94w, fs97w, fs58w] [os59w, os60]) (lpOf h67 3 (lsOf [ls67])) c67 1000000 (startSt [.ptr 0 0, .int .u16 k, .str d] [.box [.rowA 1, .mp 2], .row (.int .u8) b, .mpo .str (.int .i64) m] Try.f67.ntmps) (finishK T0 false 3 Try.f67) = (t67 k d b m).get := by kernel_rfl
theorem ok67 : os67.Ok Try.prog := by
 refine os_ok mixed0 tab0 (orcB_sound (all_cons okf94w (all_cons okf97w (all_cons okf58w all_nil))) (all_cons ok59w (all_cons ok60 all_nil))) h67 (d := 0) (n0 := 3) (S := lsOf [ls67]) Try.func67 (by kernel_rfl) (c := c67) (by kernel_rfl) rfl (loops_eq (xs := [(0, b67)]) (by kernel_rfl) (all_cons (ls_here loop67) all_nil)) (by omega) (by kernel_rfl) ?_
 intro x'' y'' q'' hq''
 obtain ⟨(k : Int), (d : List UInt8), _⟩ := x''
 obtain ⟨_, (b : List Int), (m : List (List UInt8 × Int)), _⟩ := y''
 exact (fn67 k d b m).trans hq''
noncomputable def b56 : Code := nthLoop c56 0
def ls56 : LoopSpec := { bid := 0, sh := [.d .str false, .d (.int .i64) false, .d (.int .u16) false, .d (.int .i64) false, .d .str false, .d (.list (.int .i64)) false, .d (.int .i64) false, .d (.int .i64) false], so := [], F := fun (s, at_, k, end_, d, ps, n, i, _) _ => .on2 (takeC s at_ end_ d ps n i) ((takeD ps s at_ end_ d).1) (.exit 0, [.int .i64 (takeD ps s at_ end_ d).2.1, .int .u16 k, .dead, .dead, .int .i64 end_, .str (takeD ps s at_ end_ d).2.2], []) (.ret, [.int .i64 (takeD ps s at_ end_ d).2.1, .int .u16 k, .str [], .int .i64 2, .int .i64 end_, .str (takeD ps s at_ end_ d).2.2], []) }
def r56 (s : List UInt8) (at_ k end_ : Int) (d : List UInt8) (ps : List Int) (n i : Int) : Tr (St ⊕ (Ex × St)) := .br (decide (i < n)) (.br (decide (0 ≤ i)) (.br (decide (i < (↑ps.length : Int))) (.br (ps.getD i.toNat (Ty.dflt (Ty.int .i64)) == (-2 : Int)) (.br (ps.getD i.toNat (Ty.dflt (Ty.int .i64)) == (-1 : Int)) (.br (bigS s) (.br (tkE (takeG s at_ at_ (-1 : Int) []) != 0) (.ret (.inr (.ret, stOf [1, 3, 8, 9, 13, 14] [.int .i64 at_, .int .u16 k, .str [], .int .i64 2, .int .i64 end_, .str d] []))) (.br (decide (tkN (takeG s at_ at_ (-1 : Int) []) > end_)) (.ret (.inr (.ret, stOf [1, 3, 8, 9, 13, 14] [.int .i64 at_, .int .u16 k, .str [], .int .i64 2, .int .i64 end_, .str d] []))) (.br (Nat.ble (List.length d + List.length (tkS (takeG s at_ at_ (-1 : Int) []))) 9223372036854775807) (.ret (.inl (stOf [0, 1, 3, 13, 14, 39, 40, 41] [.str s, .int .i64 (tkN (takeG s at_ at_ (-1 : Int) [])), .int .u16 k, .int .i64 end_, .str (d ++ tkS (takeG s at_ at_ (-1 : Int) [])), .list (.int .i64) ps, .int .i64 n, .int .i64 (IntKind.wrap .i64 (i + 1))] []))) .no))) .no) (.br (bigS s) (.br (someB s at_ (IntKind.wrap .i64 (end_ - at_))) (.br (decide (at_ + IntKind.wrap .i64 (end_ - at_) > end_)) (.ret (.inr (.ret, stOf [1, 3, 8, 9, 13, 14] [.int .i64 at_, .int .u16 k, .str [], .int .i64 2, .int .i64 end_, .str d] []))) (.br (Nat.ble (List.length d + List.length (someV s at_ (IntKind.wrap .i64 (end_ - at_)))) 9223372036854775807) (.ret (.inl (stOf [0, 1, 3, 13, 14, 39, 40, 41] [.str s, .int .i64 (at_ + IntKind.wrap .i64 (end_ - at_)), .int .u16 k, .int .i64 end_, .str (d ++ someV s at_ (IntKind.wrap .i64 (end_ - at_))), .list (.int .i64) ps, .int .i64 n, .int .i64 (IntKind.wrap .i64 (i + 1))] []))) .no)) (.ret (.inr (.ret, stOf [1, 3, 8, 9, 13, 14] [.int .i64 at_, .int .u16 k, .str [], .int .i64 2, .int .i64 end_, .str d] [])))) .no)) (.br (ps.getD i.toNat (Ty.dflt (Ty.int .i64)) == (-3 : Int)) (.br (ps.getD i.toNat (Ty.dflt (Ty.int .i64)) == (-1 : Int)) (.br (bigS s) (.br (tkE (takeG s at_ at_ (-1 : Int) []) != 0) (.ret (.inr (.ret, stOf [1, 3, 8, 9, 13, 14] [.int .i64 at_, .int .u16 k, .str [], .int .i64 2, .int .i64 end_, .str d] []))) (.br (decide (tkN (takeG s at_ at_ (-1 : Int) []) > end_)) (.ret (.inr (.ret, stOf [1, 3, 8, 9, 13, 14] [.int .i64 at_, .int .u16 k, .str [], .int .i64 2, .int .i64 end_, .str d] []))) (.br (Nat.ble (List.length d + List.length (tkS (takeG s at_ at_ (-1 : Int) []))) 9223372036854775807) (.ret (.inl (stOf [0, 1, 3, 13, 14, 39, 40, 41] [.str s, .int .i64 (tkN (takeG s at_ at_ (-1 : Int) [])), .int .u16 k, .int .i64 end_, .str (d ++ tkS (takeG s at_ at_ (-1 : Int) [])), .list (.int .i64) ps, .int .i64 n, .int .i64 (IntKind.wrap .i64 (i + 1))] []))) .no))) .no) (.br (bigS s) (.br (someB s at_ (IntKind.wrap .i64 (end_ - at_))) (.br (decide (at_ + IntKind.wrap .i64 (end_ - at_) > end_)) (.ret (.inr (.ret, stOf [1, 3, 8, 9, 13, 14] [.int .i64 at_, .int .u16 k, .str [], .int .i64 2, .int .i64 end_, .str d] []))) (.br (Nat.ble (List.length d + List.length (someV s at_ (IntKind.wrap .i64 (end_ - at_)))) 9223372036854775807) (.ret (.inl (stOf [0, 1, 3, 13, 14, 39, 40, 41] [.str s, .int .i64 (at_ + IntKind.wrap .i64 (end_ - at_)), .int .u16 k, .int .i64 end_, .str (d ++ someV s at_ (IntKind.wrap .i64 (end_ - at_))), .list (.int .i64) ps, .int .i64 n, .int .i64 (IntKind.wrap .i64 (i + 1))] []))) .no)) (.ret (.inr (.ret, stOf [1, 3, 8, 9, 13, 14] [.int .i64 at_, .int .u16 k, .str [], .int .i64 2, .int .i64 end_, .str d] [])))) .no)) (.br (ps.getD i.toNat (Ty.dflt (Ty.int .i64)) == (-1 : Int)) (.br (bigS s) (.br (tkE (takeG s at_ at_ (-1 : Int) []) != 0) (.ret (.inr (.ret, stOf [1, 3, 8, 9, 13, 14] [.int .i64 at_, .int .u16 k, .str [], .int .i64 2, .int .i64 end_, .str d] []))) (.br (decide (tkN (takeG s at_ at_ (-1 : Int) []) > end_)) (.ret (.inr (.ret, stOf [1, 3, 8, 9, 13, 14] [.int .i64 at_, .int .u16 k, .str [], .int .i64 2, .int .i64 end_, .str d] []))) (.br (Nat.ble (List.length d + List.length (tkS (takeG s at_ at_ (-1 : Int) []))) 9223372036854775807) (.ret (.inl (stOf [0, 1, 3, 13, 14, 39, 40, 41] [.str s, .int .i64 (tkN (takeG s at_ at_ (-1 : Int) [])), .int .u16 k, .int .i64 end_, .str (d ++ tkS (takeG s at_ at_ (-1 : Int) [])), .list (.int .i64) ps, .int .i64 n, .int .i64 (IntKind.wrap .i64 (i + 1))] []))) .no))) .no) (.br (bigS s) (.br (someB s at_ (ps.getD i.toNat (Ty.dflt (Ty.int .i64)))) (.br (decide (at_ + List.getD ps i.toNat (Ty.dflt (Ty.int .i64)) > end_)) (.ret (.inr (.ret, stOf [1, 3, 8, 9, 13, 14] [.int .i64 at_, .int .u16 k, .str [], .int .i64 2, .int .i64 end_, .str d] []))) (.br (Nat.ble (List.length d + List.length (someV s at_ (ps.getD i.toNat (Ty.dflt (Ty.int .i64))))) 9223372036854775807) (.ret (.inl (stOf [0, 1, 3, 13, 14, 39, 40, 41] [.str s, .int .i64 (at_ + List.getD ps i.toNat (Ty.dflt (Ty.int .i64))), .int .u16 k, .int .i64 end_, .str (d ++ someV s at_ (ps.getD i.toNat (Ty.dflt (Ty.int .i64)))), .list (.int .i64) ps, .int .i64 n, .int .i64 (IntKind.wrap .i64 (i + 1))] []))) .no)) (.ret (.inr (.ret, stOf [1, 3, 8, 9, 13, 14] [.int .i64 at_, .int .u16 k, .str [], .int .i64 2, .int .i64 end_, .str d] [])))) .no)))) .no) .no) (.ret (.inr (.exit 0, stOf [1, 3, 8, 9, 13, 14] [.int .i64 at_, .int .u16 k, .dead, .dead, .int .i64 end_, .str d] [])))
theorem round56 (lp : Lp) (s : List UInt8) (at_ k end_ : Int) (d : List UInt8) (ps : List Int) (n i : Int) : evC T0 (orcB [fs94w, fs58w, fs93w, fs90w] []) lp b56 0 (stOf [0, 1, 3, 13, 14, 39, 40, 41] [.str s, .int .i64 at_, .int .u16 k, .int .i64 end_, .str d, .list (.int .i64) ps, .int .i64 n, .int .i64 i] []) (roundK [0, 1, 3, 13, 14, 39, 40, 41] [1, 3, 8, 9, 13, 14] 0) = (r56 s at_ k end_ d ps n i).get := by kernel_rfl
theorem wf56 (s : List UInt8) (k end_ : Int) (ps : List Int) (n : Int) (I'' : Int → List UInt8 → Int → Prop) (m'' : Int → List UInt8 → Int → Nat) (r'' : Ex × St) (h : ∀ (at_ : Int) (d : List UInt8) (i : Int), I'' at_ d i → (r56 s at_ k end_ d ps n i).all fun x'' => x'' = .inr r'' ∨ ∃ (at_' : Int) (d' : List UInt8) (i' : Int), x'' = .inl (stOf [0, 1, 3, 13, 14, 39, 40, 41] [.str s, .int .i64 at_', .int .u16 k, .int .i64 end_, .str d', .list (.int .i64) ps, .int .i64 n, .int .i64 i'] []) ∧ I'' at_' d' i' ∧ m'' at_' d' i' < m'' at_ d i) (lp : Lp) (at_ : Int) (d : List UInt8) (i : Int) : I'' at_ d i →
    loopF (fun st => evC T0 (orcB [fs94w, fs58w, fs93w, fs90w] []) lp b56 0 st (roundK [0, 1, 3, 13, 14, 39, 40, 41] [1, 3, 8, 9, 13, 14] 0)) (stOf [0, 1, 3, 13, 14, 39, 40, 41] [.str s, .int .i64 at_, .int .u16 k, .int .i64 end_, .str d, .list (.int .i64) ps, .int .i64 n, .int .i64 i] []) = some r'' :=
 loop_tr (fun a'' : Int × List UInt8 × Int => stOf [0, 1, 3, 13, 14, 39, 40, 41] [.str s, .int .i64 a''.1, .int .u16 k, .int .i64 end_, .str a''.2.1, .list (.int .i64) ps, .int .i64 n, .int .i64 a''.2.2] []) (fun a'' => I'' a''.1 a''.2.1 a''.2.2) (fun a'' => m'' a''.1 a''.2.1 a''.2.2) r'' (fun a'' => r56 s a''.1 k end_ a''.2.1 ps n a''.2.2)
  (fun a'' x hx => (round56 lp s a''.1 k end_ a''.2.1 ps n a''.2.2).trans hx) (fun a'' ha => Tr.all_mono (fun x'' hx => hx.imp id fun ⟨at_', d', i', h1, h2, h3⟩ => ⟨(at_', d', i'), h1, h2, h3⟩) (h (a''.1) (a''.2.1) (a''.2.2) ha)) (at_, d, i)
def takeI (ps0 : List Int) (s : List UInt8) (a0 e : Int) (a : Int) (d : List UInt8) (i : Int) : Prop := 0 ≤ i ∧ i ≤ ps0.length ∧ 0 ≤ a ∧ a ≤ e ∧ (d.length : Int) ≤ 200000000 * i ∧ takeD (ps0.drop i.toNat) s a e d = takeD ps0 s a0 e []
theorem loop56 : ls56.Ok T0 (orcB [fs94w, fs58w, fs93w, fs90w] []) h56 0 0 b56 := by
 intro q'' hq'' x'' y'' r'' h
 obtain ⟨(s : List UInt8), (at_ : Int), (k : Int), (end_ : Int), (d : List UInt8), (ps : List Int), (n : Int), (i : Int), _⟩ := x''
 obtain ⟨hc, rfl⟩ := Tr.get_on2 h
 show loopF (fun st => evC T0 (orcB [fs94w, fs58w, fs93w, fs90w] []) (lpN T0 (orcB [fs94w, fs58w, fs93w, fs90w] []) h56 0 q'') b56 0 st (roundK [0, 1, 3, 13, 14, 39, 40, 41] [1, 3, 8, 9, 13, 14] 0)) (stOf [0, 1, 3, 13, 14, 39, 40, 41] [.str s, .int .i64 at_, .int .u16 k, .int .i64 end_, .str d, .list (.int .i64) ps, .int .i64 n, .int .i64 i] []) = some ((bif (takeD ps s at_ end_ d).1 then (.exit 0, [.int .i64 (takeD ps s at_ end_ d).2.1, .int .u16 k, .dead, .dead, .int .i64 end_, .str (takeD ps s at_ end_ d).2.2], []) else (.ret, [.int .i64 (takeD ps s at_ end_ d).2.1, .int .u16 k, .str [], .int .i64 2, .int .i64 end_, .str (takeD ps s at_ end_ d).2.2], []) : Ex × List AV × List LObj).1, stOf [1, 3, 8, 9, 13, 14] (bif (takeD ps s at_ end_ d).1 then (.exit 0, [.int .i64 (takeD ps s at_ end_ d).2.1, .int .u16 k, .dead, .dead, .int .i64 end_, .str (takeD ps s at_ end_ d).2.2], []) else (.ret, [.int .i64 (takeD ps s at_ end_ d).2.1, .int .u16 k, .str [], .int .i64 2, .int .i64 end_, .str (takeD ps s at_ end_ d).2.2], []) : Ex × List AV × List LObj).2.1 (bif (takeD ps s at_ end_ d).1 then (.exit 0, [.int .i64 (takeD ps s at_ end_ d).2.1, .int .u16 k, .dead, .dead, .int .i64 end_, .str (takeD ps s at_ end_ d).2.2], []) else (.ret, [.int .i64 (takeD ps s at_ end_ d).2.1, .int .u16 k, .str [], .int .i64 2, .int .i64 end_, .str (takeD ps s at_ end_ d).2.2], []) : Ex × List AV × List LObj).2.2)
 simp only [takeC, Bool.and_eq_true, decide_eq_true_eq, noT, List.isEmpty_iff] at hc
 obtain ⟨hb, rfl, rfl, ha0, hae, hes, rfl, hps⟩ := hc
 refine wf56 s k end_ ps _ (takeI ps s at_ end_) (fun _ _ i => (ps.length - i).toNat) _ ?_ _ at_ [] 0 ⟨by omega, by omega, ha0, hae, by simp, rfl⟩
 clear ha0 hae
 rintro a d i ⟨h0, h1, ha, hae, hdl, hF⟩
 rw [← hF]
 have hB : s.length ≤ 100000000 := by simpa [smS] using hb
 have hbig : bigS s = true := by simp [bigS]; omega
 unfold r56
 by_cases hi : i < ps.length
 · obtain ⟨d1, _⟩ := drop_getD (Ty.dflt (Ty.int .i64)) h0 hi
   generalize List.getD ps (Int.toNat i) (Ty.dflt (Ty.int .i64)) = x at d1
   rw [d1, takeD] at hF ⊢
   rw [IntWalk.i64_in (i + 1) (by omega), IntWalk.i64_in (end_ - a) (by omega)]
   refine Tr.all_t (dec_true hi) (Tr.all_t (dec_true h0) (Tr.all_t (dec_true hi) ?_))
   by_cases x1 : x = -1
   · rw [if_pos x1] at hF ⊢
     refine Tr.all_f (beq_eq_false_iff_ne.2 (by omega)) (Tr.all_f (beq_eq_false_iff_ne.2 (by omega)) (Tr.all_t (beq_iff_eq.2 x1) (Tr.all_t hbig ?_)))
     cases ho : takeG s a a (-1) [] with
     | none => exact Tr.all_t rfl (Tr.all_ret (.inl rfl))
     | some q =>
       obtain ⟨n, next⟩ := q
       obtain ⟨p1, p2, p3⟩ := takeG_place ha ho
       have hn := (may_iff.1 p1).2.1
       rw [ho] at hF
       simp only at hF ⊢
       refine Tr.all_f rfl (Tr.all_br (fun c => Tr.all_ret (.inl ?_)) fun c => Tr.all_t ?_ (Tr.all_ret (.inr ?_)))
       · have c' : next > end_ := of_decide_eq_true c
         rw [if_pos c']
         rfl
       · simp only [tkS]
         exact Nat.ble_eq_true_of_le (by omega)
       · have c' : ¬ next > end_ := of_decide_eq_false c
         rw [if_neg c'] at hF
         exact ⟨_, _, _, rfl, ⟨by omega, by omega, by simp only [tkN]; omega, by simp only [tkN]; omega, by simp only [tkS, List.length_append]; omega, hF⟩, by omega⟩
   · rw [if_neg x1] at hF ⊢
     have hx1 : (x == -1) = false := beq_eq_false_iff_ne.2 x1
     have key : ∀ sz : Int, (if x = -2 ∨ x = -3 then end_ - a else x) = sz → (someB s a sz = true ∧ a + sz ≤ end_ → takeI ps s at_ end_ (a + sz) (d ++ someV s a sz) (i + 1)) ∧ (Nat.ble (d.length + (someV s a sz).length) 9223372036854775807 = true) := fun sz hs => by
      rw [hs] at hF
      have hvl : (someV s a sz).length ≤ s.length := by unfold someV; rw [List.length_take, List.length_drop]; omega
      refine ⟨fun hh => ?_, Nat.ble_eq_true_of_le (by omega)⟩
      rw [if_pos hh] at hF
      have := someB_iff.1 hh.1
      exact ⟨by omega, by omega, by omega, hh.2, by rw [List.length_append]; omega, hF⟩
     have half : ∀ sz : Int, (if x = -2 ∨ x = -3 then end_ - a else x) = sz → (Tr.br (bigS s) (Tr.br (someB s a sz) (Tr.br (decide (a + sz > end_)) (Tr.ret (Sum.inr (Ex.ret, stOf [1, 3, 8, 9, 13, 14] [AV.int .i64 a, AV.int .u16 k, AV.str [], AV.int .i64 (2 : Int), AV.int .i64 end_, AV.str d] []))) (Tr.br (Nat.ble (List.length d + List.length (someV s a sz)) 9223372036854775807) (Tr.ret (Sum.inl (stOf [0, 1, 3, 13, 14, 39, 40, 41] [AV.str s, AV.int .i64 (a + sz), AV.int .u16 k, AV.int .i64 end_, AV.str (d ++ someV s a sz), AV.list (Ty.int .i64) ps, AV.int .i64 ps.length, AV.int .i64 (i + 1)] []))) Tr.no)) (Tr.ret (Sum.inr (Ex.ret, stOf [1, 3, 8, 9, 13, 14] [AV.int .i64 a, AV.int .u16 k, AV.str [], AV.int .i64 (2 : Int), AV.int .i64 end_, AV.str d] [])))) Tr.no).all
         fun x'' => x'' = .inr ((bif (if someB s a sz = true ∧ a + sz ≤ end_ then takeD (ps.drop (i + 1).toNat) s (a + sz) end_ (d ++ someV s a sz) else (false, a, d)).1 then (Ex.exit 0, [.int .i64 (if someB s a sz = true ∧ a + sz ≤ end_ then takeD (ps.drop (i + 1).toNat) s (a + sz) end_ (d ++ someV s a sz) else (false, a, d)).2.1, .int .u16 k, .dead, .dead, .int .i64 end_, .str (if someB s a sz = true ∧ a + sz ≤ end_ then takeD (ps.drop (i + 1).toNat) s (a + sz) end_ (d ++ someV s a sz) else (false, a, d)).2.2], []) else (Ex.ret, [.int .i64 (if someB s a sz = true ∧ a + sz ≤ end_ then takeD (ps.drop (i + 1).toNat) s (a + sz) end_ (d ++ someV s a sz) else (false, a, d)).2.1, .int .u16 k, .str [], .int .i64 2, .int .i64 end_, .str (if someB s a sz = true ∧ a + sz ≤ end_ then takeD (ps.drop (i + 1).toNat) s (a + sz) end_ (d ++ someV s a sz) else (false, a, d)).2.2], []) : Ex × List AV × List LObj).1, stOf [1, 3, 8, 9, 13, 14] (bif (if someB s a sz = true ∧ a + sz ≤ end_ then takeD (ps.drop (i + 1).toNat) s (a + sz) end_ (d ++ someV s a sz) else (false, a, d)).1 then (Ex.exit 0, [.int .i64 (if someB s a sz = true ∧ a + sz ≤ end_ then takeD (ps.drop (i + 1).toNat) s (a + sz) end_ (d ++ someV s a sz) else (false, a, d)).2.1, .int .u16 k, .dead, .dead, .int .i64 end_, .str (if someB s a sz = true ∧ a + sz ≤ end_ then takeD (ps.drop (i + 1).toNat) s (a + sz) end_ (d ++ someV s a sz) else (false, a, d)).2.2], []) else (Ex.ret, [.int .i64 (if someB s a sz = true ∧ a + sz ≤ end_ then takeD (ps.drop (i + 1).toNat) s (a + sz) end_ (d ++ someV s a sz) else (false, a, d)).2.1, .int .u16 k, .str [], .int .i64 2, .int .i64 end_, .str (if someB s a sz = true ∧ a + sz ≤ end_ then takeD (ps.drop (i + 1).toNat) s (a + sz) end_ (d ++ someV s a sz) else (false, a, d)).2.2], []) : Ex × List AV × List LObj).2.1 (bif (if someB s a sz = true ∧ a + sz ≤ end_ then takeD (ps.drop (i + 1).toNat) s (a + sz) end_ (d ++ someV s a sz) else (false, a, d)).1 then (Ex.exit 0, [.int .i64 (if someB s a sz = true ∧ a + sz ≤ end_ then takeD (ps.drop (i + 1).toNat) s (a + sz) end_ (d ++ someV s a sz) else (false, a, d)).2.1, .int .u16 k, .dead, .dead, .int .i64 end_, .str (if someB s a sz = true ∧ a + sz ≤ end_ then takeD (ps.drop (i + 1).toNat) s (a + sz) end_ (d ++ someV s a sz) else (false, a, d)).2.2], []) else (Ex.ret, [.int .i64 (if someB s a sz = true ∧ a + sz ≤ end_ then takeD (ps.drop (i + 1).toNat) s (a + sz) end_ (d ++ someV s a sz) else (false, a, d)).2.1, .int .u16 k, .str [], .int .i64 2, .int .i64 end_, .str (if someB s a sz = true ∧ a + sz ≤ end_ then takeD (ps.drop (i + 1).toNat) s (a + sz) end_ (d ++ someV s a sz) else (false, a, d)).2.2], []) : Ex × List AV × List LObj).2.2) ∨
          ∃ at' d' i', x'' = .inl (stOf [0, 1, 3, 13, 14, 39, 40, 41] [AV.str s, AV.int .i64 at', AV.int .u16 k, AV.int .i64 end_, AV.str d', AV.list (Ty.int .i64) ps, AV.int .i64 ps.length, AV.int .i64 i'] []) ∧ takeI ps s at_ end_ at' d' i' ∧ (ps.length - i').toNat < (ps.length - i).toNat := fun sz hs => by
      obtain ⟨k1, k2⟩ := key sz hs
      refine Tr.all_t hbig (Tr.all_br (fun c1 => Tr.all_br (fun c2 => Tr.all_ret (.inl ?_)) fun c2 => Tr.all_t k2 (Tr.all_ret (.inr ⟨_, _, _, rfl, k1 ⟨c1, ?_⟩, by omega⟩))) fun c1 => Tr.all_ret (.inl ?_))
      · simp only [decide_eq_true_eq] at c2
        rw [if_neg (by omega)]
        rfl
      · simp only [decide_eq_false_iff_not] at c2
        omega
      · rw [if_neg (by rw [c1]; simp)]
        rfl
     by_cases x2 : x = -2
     · rw [if_pos (Or.inl x2)]
       exact Tr.all_t (beq_iff_eq.2 x2) (Tr.all_f hx1 (half _ (if_pos (Or.inl x2))))
     · by_cases x3 : x = -3
       · rw [if_pos (Or.inr x3)]
         exact Tr.all_f (beq_eq_false_iff_ne.2 x2) (Tr.all_t (beq_iff_eq.2 x3) (Tr.all_f hx1 (half _ (if_pos (Or.inr x3)))))
       · have hne : ¬ (x = -2 ∨ x = -3) := by omega
         rw [if_neg hne]
         exact Tr.all_f (beq_eq_false_iff_ne.2 x2) (Tr.all_f (beq_eq_false_iff_ne.2 x3) (Tr.all_f hx1 (half _ (if_neg hne))))
 · refine Tr.all_f (dec_false hi) (Tr.all_ret (.inl ?_))
   rw [List.drop_eq_nil_of_le (by omega)]
   rfl
def t56 (s : List UInt8) (at_ many k : Int) : Tr Res := .br (bigS s) (.br (someB s at_ many) (.br (takeC s at_ (IntKind.wrap .i64 (at_ + many)) ([]) (layV k) (↑(List.length (layV k)) : Int) 0) (.br (takeD (layV k) s at_ (IntKind.wrap .i64 (at_ + many)) ([])).1 (.br ((takeD (layV k) s at_ (IntKind.wrap .i64 (at_ + many)) ([])).2.1 != IntKind.wrap .i64 (at_ + many)) (.ret ([.str [], .int .i64 2], [])) (.br (bigS (takeD (layV k) s at_ (IntKind.wrap .i64 (at_ + many)) ([])).2.2) (.br (!mayR k (takeD (layV k) s at_ (IntKind.wrap .i64 (at_ + many)) ([])).2.2) (.ret ([.str [], .int .i64 2], [])) (.ret ([.str (takeD (layV k) s at_ (IntKind.wrap .i64 (at_ + many)) ([])).2.2, .int .i64 0], []))) .no)) (.ret ([.str [], .int .i64 2], []))) .no) (.ret ([.str [], .int .i64 2], []))) .no
def os56 : OSpec := { f := 56, sh := [.d .str false, .d (.int .i64) false, .d (.int .i64) false, .d (.int .u16) false], so := [], F := fun (s, at_, many, k, _) _ => t56 s at_ many k }
theorem fn56 (s : List UInt8) (at_ many k : Int) : evC T0 (orcB [fs94w, fs58w, fs93w, fs90w] []) (lpOf h56 0 (lsOf [ls56])) c56 1000000 (startSt [.str s, .int .i64 at_, .int .i64 many, .int .u16 k] [] Try.f56.ntmps) (finishK T0 false 0 Try.f56) = (t56 s at_ many k).get := by kernel_rfl
theorem ok56 : os56.Ok Try.prog := by
 refine os_ok mixed0 tab0 (orcB_sound (all_cons okf94w (all_cons okf58w (all_cons okf93w (all_cons okf90w all_nil)))) all_nil) h56 (d := 0) (n0 := 0) (S := lsOf [ls56]) Try.func56 (by kernel_rfl) (c := c56) (by kernel_rfl) rfl (loops_eq (xs := [(0, b56)]) (by kernel_rfl) (all_cons (ls_here loop56) all_nil)) (by omega) (by kernel_rfl) ?_
 intro x'' y'' q'' hq''
 obtain ⟨(s : List UInt8), (at_ : Int), (many : Int), (k : Int), _⟩ := x''
 exact (fn56 s at_ many k).trans hq''
def fs56 : FSpec := fsT 56 [(.str, false), ((.int .i64), false), ((.int .i64), false), ((.int .u16), false)] [(.str, false), ((.int .i64), false)] fun (s, at_, many, k, _) => t56 s at_ many k
theorem okf56 : fs56.Ok Try.prog := fsT_ok fun x'' r'' hr'' => ok56 x'' () r'' hr''
theorem byN_drop (s : List UInt8) (k j : Nat) : byN (s.drop k) j = byN s (k + j) := by
 unfold byN
 rw [List.getD_eq_getElem?_getD, List.getD_eq_getElem?_getD, List.getElem?_drop]
theorem whAt_drop {s : List UInt8} : ∀ (m k j : Nat), s.length - (k + j) = m → k ≤ s.length → whAt s (k + j) = k + whAt (s.drop k) j := by
 intro m
 induction m using Nat.strongRecOn with
 | _ m ih =>
   intro k j hm hk
   rw [whAt.eq_1 s, whAt.eq_1 (s.drop k), byN_drop, List.length_drop]
   by_cases h : k + j < s.length ∧ 0 < byN s (k + j)
   · rw [dif_pos h, dif_pos ⟨by omega, h.2⟩, show k + j + 1 + byN s (k + j) = k + (j + 1 + byN s (k + j)) by omega]
     exact ih (s.length - (k + (j + 1 + byN s (k + j)))) (by omega) k _ rfl hk
   · rw [dif_neg h, dif_neg (by omega)]
theorem byN_left {t r : List UInt8} {k : Nat} (h : k < t.length) : byN (t ++ r) k = byN t k := byN_app h
theorem root_wh : ∀ (m : Nat) (t r : List UInt8), t.length = m → rootV t = true → whAt (t ++ r) 0 + 1 = t.length := by
 intro m
 induction m using Nat.strongRecOn with
 | _ m ih =>
   intro t r hm hr
   rcases root_cases hr with rfl | ⟨_, hn, hlt, _, hne, hrt⟩
   · rw [whAt, dif_neg (fun h => by have : byN ([0] ++ r) 0 = 0 := rfl; omega)]
     rfl
   · have hb : byN (t ++ r) 0 = (t.getD 0 0).toNat := byN_left (by omega)
     have hp : 0 < byN (t ++ r) 0 := by omega
     have hsp : (t ++ r).drop (0 + 1 + byN (t ++ r) 0) = tlN t ++ r := by
      unfold tlN
      rw [hb, List.drop_append_of_le_length (by omega), show 0 + 1 + (t.getD 0 0).toNat = 1 + (t.getD 0 0).toNat by omega]
     have hl := tlN_len t
     rw [whAt, dif_pos ⟨by simp; omega, hp⟩]
     have hd := whAt_drop (s := t ++ r) _ (0 + 1 + byN (t ++ r) 0) 0 rfl (by simp; omega)
     rw [Nat.add_zero] at hd
     rw [hd, hsp, Nat.add_assoc, ih (tlN t).length (by omega) (tlN t) r rfl hrt]
     omega
theorem whole_of {d : List UInt8} {k : Nat} (hk : k ≤ d.length) (h : mayV (d.take k) = true) : wholeV d = k ∧ 1 ≤ k ∧ k ≤ 255 := by
 obtain ⟨h1, h2, _⟩ := may_iff.1 h
 have := root_wh _ (d.take k) (d.drop k) rfl h1
 rw [List.take_append_drop, List.length_take, Nat.min_eq_left hk] at this
 rw [List.length_take, Nat.min_eq_left hk] at h2
 unfold wholeV
 rw [this, if_pos ⟨by omega, h⟩]
 exact ⟨rfl, by omega, h2⟩
theorem whole_may {d : List UInt8} (h : wholeV d ≠ 0) : mayV (d.take (wholeV d)) = true := by
 unfold wholeV at h ⊢
 split at h
 · rename_i hc
   rw [if_pos hc]
   exact hc.2
 · exact absurd rfl h
theorem whole_all {d : List UInt8} : mayV d = true ↔ wholeV d ≠ 0 ∧ wholeV d = d.length := by
 constructor
 · intro h
   have := whole_of (d := d) (k := d.length) (Nat.le_refl _) (by rw [List.take_length]; exact h)
   omega
 · rintro ⟨h1, h2⟩
   have := whole_may h1
   rwa [h2, List.take_length] at this
theorem txAt_drop {s : List UInt8} : ∀ (m k j : Nat), s.length - (k + j) = m → k ≤ s.length → txAt s (k + j) = k + txAt (s.drop k) j := by
 intro m
 induction m using Nat.strongRecOn with
 | _ m ih =>
   intro k j hm hk
   rw [txAt.eq_1 s, txAt.eq_1 (s.drop k), byN_drop, List.length_drop]
   by_cases h : k + j < s.length
   · rw [dif_pos h, dif_pos (by omega), show k + j + 1 + byN s (k + j) = k + (j + 1 + byN s (k + j)) by omega]
     exact ih (s.length - (k + (j + 1 + byN s (k + j)))) (by omega) k _ rfl hk
   · rw [dif_neg h, dif_neg (by omega)]
theorem txAt_ge {s : List UInt8} : ∀ (m k : Nat), s.length - k = m → k ≤ txAt s k := by
 intro m
 induction m using Nat.strongRecOn with
 | _ m ih =>
   intro k hm
   rw [txAt]
   split
   · have := ih (s.length - (k + 1 + byN s k)) (by omega) _ rfl
     omega
   · exact Nat.le_refl _
def texR (s : List UInt8) : Bool := decide (txAt s 0 = s.length)
theorem texR_nil : texR [] = true := by
 unfold texR
 rw [txAt, dif_neg (by simp)]
 rfl
theorem texR_long {s : List UInt8} (h0 : s ≠ []) (h : s.length < 1 + byN s 0) : texR s = false := by
 have := List.length_pos_iff.2 h0
 unfold texR
 rw [txAt, dif_pos this]
 have := txAt_ge (s := s) _ (0 + 1 + byN s 0) rfl
 exact decide_eq_false (by omega)
theorem texR_on {s : List UInt8} (h0 : s ≠ []) (h : 1 + byN s 0 ≤ s.length) : texR s = texR (s.drop (1 + byN s 0)) := by
 have := List.length_pos_iff.2 h0
 unfold texR
 rw [txAt, dif_pos this]
 have hd := txAt_drop (s := s) _ (1 + byN s 0) 0 rfl h
 rw [Nat.add_zero] at hd
 rw [show 0 + 1 + byN s 0 = 1 + byN s 0 by omega, hd, List.length_drop]
 rw [Bool.eq_iff_iff]
 simp
 omega
theorem may_nil : mayV [] = false := by
 cases h : mayV [] with
 | false => rfl
 | true =>
   rcases root_cases (may_iff.1 h).1 with h | ⟨_, h, _⟩
   · cases h
   · exact absurd rfl h
theorem cutS_facts : ∀ (ps : List Int) (d : List UInt8) (out : List (List UInt8)), (cutS ps d out).1 = true → ∃ l, (cutS ps d out).2.2 = out ++ l ∧ l.length = ps.length ∧ (∀ x ∈ l, x.length ≤ d.length) ∧ l.flatten ++ (cutS ps d out).2.1 = d
 | [], d, out, _ => ⟨[], by simp [cutS]⟩
 | p :: ps, d, out, h => by
   unfold cutS at h ⊢
   by_cases ho : okP p d = true
   · rw [if_pos ho] at h ⊢
     obtain ⟨l, h1, h2, h3, h4⟩ := cutS_facts ps _ _ h
     refine ⟨d.take (szP p d).toNat :: l, by rw [h1, List.append_assoc]; rfl, by simp [h2], fun x hx => ?_, ?_⟩
     · rcases List.mem_cons.1 hx with rfl | hx
       · rw [List.length_take]; omega
       · have := h3 x hx
         rw [List.length_drop] at this
         omega
     · rw [List.flatten_cons, List.append_assoc, h4, List.take_append_drop]
   · rw [if_neg ho] at h
     cases h
theorem may_parts {k : Int} {d : List UInt8} (h : mayR k d = true) : okV k d = true ∧ restV k d = [] ∧ d.length ≤ 65535 ∧ (partsV k d).length = (layV k).length ∧ (∀ x ∈ partsV k d, x.length ≤ d.length) ∧ (partsV k d).flatten = d := by
 unfold mayR at h
 simp only [Bool.and_eq_true, List.isEmpty_iff] at h
 obtain ⟨⟨h1, h2⟩, h3⟩ := h
 obtain ⟨l, a1, a2, a3, a4⟩ := cutS_facts (layV k) d [] h1
 have a1 : partsV k d = l := a1
 have h2' : (cutS (layV k) d []).2.1 = [] := h2
 rw [h2', List.append_nil] at a4
 exact ⟨h1, h2, Nat.le_of_ble_eq_true h3, by rw [a1, a2], by rw [a1]; exact a3, by rw [a1, a4]⟩
theorem cutS_out : ∀ (ps : List Int) (d : List UInt8) (out : List (List UInt8)), (cutS ps d out).1 = (cutS ps d []).1 ∧ (cutS ps d out).2.1 = (cutS ps d []).2.1
 | [], _, _ => ⟨rfl, rfl⟩
 | x :: ps, d, out => by
   unfold cutS
   by_cases h : okP x d = true
   · rw [if_pos h, if_pos h]
     obtain ⟨a1, a2⟩ := cutS_out ps (d.drop (szP x d).toNat) (out ++ [d.take (szP x d).toNat])
     obtain ⟨b1, b2⟩ := cutS_out ps (d.drop (szP x d).toNat) ([] ++ [d.take (szP x d).toNat])
     exact ⟨a1.trans b1.symm, a2.trans b2.symm⟩
   · rw [if_neg h, if_neg h]
     exact ⟨rfl, rfl⟩
def cutB (ps : List Int) (d : List UInt8) : Bool := (cutS ps d []).1 && (cutS ps d []).2.1.isEmpty
theorem cutB_cons (x : Int) (ps : List Int) (d : List UInt8) : cutB (x :: ps) d = (okP x d && cutB ps (d.drop (szP x d).toNat)) := by
 unfold cutB
 rw [cutS]
 cases h : okP x d with
 | true =>
   rw [if_pos rfl]
   obtain ⟨a1, a2⟩ := cutS_out ps (d.drop (szP x d).toNat) ([] ++ [d.take (szP x d).toNat])
   rw [a1, a2, Bool.true_and]
 | false =>
   rw [if_neg Bool.false_ne_true]
   rfl
theorem cutB_nil (d : List UInt8) : cutB [] d = d.isEmpty := rfl
theorem mayR_cut (k : Int) (d : List UInt8) : mayR k d = (cutB (layV k) d && Nat.ble d.length 65535) := rfl
theorem okP_fix {x : Int} (h : 0 ≤ x) (d : List UInt8) : szP x d = x ∧ okP x d = decide (x ≤ (d.length : Int)) := by
 have es : szP x d = x := by unfold szP; rw [if_neg (by omega), if_neg (by omega)]
 refine ⟨es, ?_⟩
 unfold okP
 rw [es, dec_true h, dec_false (show ¬ x = -1 by omega)]
 simp
theorem okP_name (d : List UInt8) : szP (-1) d = (wholeV d : Int) ∧ okP (-1) d = !decide (wholeV d = 0) := by
 have es : szP (-1) d = (wholeV d : Int) := rfl
 have := wholeV_le d
 refine ⟨es, ?_⟩
 unfold okP
 rw [es, dec_true (by omega), dec_true (by omega)]
 simp
theorem drop_none {d : List UInt8} {n : Nat} : (d.drop n).isEmpty = decide (d.length ≤ n) := by
 rw [Bool.eq_iff_iff, List.isEmpty_iff, decide_eq_true_eq, List.drop_eq_nil_iff]
theorem cutB_fix {x : Int} (h : 0 ≤ x) (d : List UInt8) : cutB [x] d = decide ((d.length : Int) = x) := by
 obtain ⟨e1, e2⟩ := okP_fix h d
 rw [cutB_cons, cutB_nil, e1, e2, drop_none]
 rw [Bool.eq_iff_iff]
 simp
 omega
theorem cutB_name (d : List UInt8) : cutB [-1] d = mayV d := by
 obtain ⟨e1, e2⟩ := okP_name d
 have := wholeV_le d
 rw [cutB_cons, cutB_nil, e1, e2, drop_none]
 rw [Bool.eq_iff_iff, whole_all]
 simp
 omega
theorem cutB_texts (d : List UInt8) : cutB [-2] d = textsV d := by
 rw [cutB_cons, cutB_nil, drop_none]
 unfold okP szP
 cases ht : textsV d with
 | true => simp
 | false => simp
theorem cutB_any (d : List UInt8) : cutB [-3] d = true := by
 rw [cutB_cons, cutB_nil, drop_none]
 unfold okP szP
 simp
theorem may_A (d : List UInt8) : mayR 1 d = (decide ((d.length : Int) = 4) && Nat.ble d.length 65535) := by rw [mayR_cut, show layV 1 = [4] from rfl, cutB_fix (by omega)]
theorem may_AAAA (d : List UInt8) : mayR 28 d = (decide ((d.length : Int) = 16) && Nat.ble d.length 65535) := by rw [mayR_cut, show layV 28 = [16] from rfl, cutB_fix (by omega)]
theorem may_name {k : Int} (h : k = 2 ∨ k = 5 ∨ k = 12) (d : List UInt8) : mayR k d = (mayV d && Nat.ble d.length 65535) := by
 have : layV k = [-1] := by rcases h with rfl | rfl | rfl <;> rfl
 rw [mayR_cut, this, cutB_name]
theorem may_MX (d : List UInt8) : mayR 15 d = ((decide ((2 : Int) ≤ d.length) && mayV (d.drop 2)) && Nat.ble d.length 65535) := by
 obtain ⟨e1, e2⟩ := okP_fix (x := 2) (by omega) d
 rw [mayR_cut, show layV 15 = [2, -1] from rfl, cutB_cons, cutB_name, e1, e2]
 rfl
theorem may_SOA (d : List UInt8) : mayR 6 d = ((!decide (wholeV d = 0) && (!decide (wholeV (d.drop (wholeV d)) = 0) && decide (((d.drop (wholeV d)).drop (wholeV (d.drop (wholeV d)))).length = 20))) && Nat.ble d.length 65535) := by
 obtain ⟨e1, e2⟩ := okP_name d
 rw [mayR_cut, show layV 6 = [-1, -1, 20] from rfl, cutB_cons, e1, e2, Int.toNat_natCast]
 obtain ⟨e3, e4⟩ := okP_name (d.drop (wholeV d))
 rw [cutB_cons, e3, e4, Int.toNat_natCast, cutB_fix (by omega)]
 congr 4
 exact propext (by omega)
theorem may_TXT (d : List UInt8) : mayR 16 d = (textsV d && Nat.ble d.length 65535) := by rw [mayR_cut, show layV 16 = [-2] from rfl, cutB_texts]
theorem may_any {k : Int} (h : ¬ k = 1 ∧ ¬ k = 28 ∧ ¬ k = 2 ∧ ¬ k = 5 ∧ ¬ k = 12 ∧ ¬ k = 15 ∧ ¬ k = 6 ∧ ¬ k = 16) (d : List UInt8) : mayR k d = Nat.ble d.length 65535 := by
 obtain ⟨h1, h2, h3, h4, h5, h6, h7, h8⟩ := h
 have : layV k = [-3] := by simp [layV, h1, h2, h3, h4, h5, h6, h7, h8]
 rw [mayR_cut, this, cutB_any]
 rfl
theorem parts_name {k : Int} {d : List UInt8} (hk : k = 2 ∨ k = 5 ∨ k = 12) (h : mayR k d = true) : partsV k d = [d] := by
 have hlay : layV k = [-1] := by rcases hk with rfl | rfl | rfl <;> rfl
 rw [may_name hk, Bool.and_eq_true, whole_all] at h
 obtain ⟨⟨h1, h2⟩, _⟩ := h
 obtain ⟨e1, e2⟩ := okP_name d
 unfold partsV
 rw [hlay, cutS, e2, e1, dec_false h1, if_pos (show (!false) = true from rfl), cutS, Int.toNat_natCast, h2, List.take_length]
 rfl
theorem parts_MX {d : List UInt8} (h : mayR 15 d = true) : partsV 15 d = [d.take 2, d.drop 2] := by
 rw [may_MX, Bool.and_eq_true, Bool.and_eq_true, decide_eq_true_eq, whole_all] at h
 obtain ⟨⟨h0, h1, h2⟩, _⟩ := h
 obtain ⟨e1, e2⟩ := okP_fix (x := 2) (by omega) d
 obtain ⟨e3, e4⟩ := okP_name (d.drop 2)
 unfold partsV
 rw [show layV 15 = [2, -1] from rfl, cutS, e2, e1, dec_true h0, if_pos rfl, show (2 : Int).toNat = 2 from rfl, cutS, e4, e3, dec_false h1, if_pos (show (!false) = true from rfl), cutS, Int.toNat_natCast, h2, List.take_length]
 rfl
theorem parts_one {k x : Int} {d : List UInt8} (hlay : layV k = [x]) (h : mayR k d = true) : partsV k d = [d] := by
 obtain ⟨_, _, _, h4, _, h6⟩ := may_parts h
 rw [hlay] at h4
 cases hp : partsV k d with
 | nil => rw [hp] at h4; cases h4
 | cons y l =>
   rw [hp] at h4 h6
   cases l with
   | nil => simpa using h6
   | cons _ _ => simp at h4
theorem takeV_may {s : List UInt8} {a n k : Int} {d : List UInt8} (h : takeV s a n k = some d) : mayR k d = true ∧ someB s a n = true ∧ (takeD (layV k) s a (a + n) []).1 = true ∧ (takeD (layV k) s a (a + n) []).2.1 = a + n ∧ d = (takeD (layV k) s a (a + n) []).2.2 := by
 unfold takeV at h
 by_cases h1 : someB s a n = true
 · rw [if_pos h1] at h
   by_cases h2 : (takeD (layV k) s a (a + n) []).1 = true ∧ (takeD (layV k) s a (a + n) []).2.1 = a + n ∧ mayR k (takeD (layV k) s a (a + n) []).2.2 = true
   · rw [if_pos h2] at h
     cases h
     exact ⟨h2.2.2, h1, h2.1, h2.2.1, rfl⟩
   · rw [if_neg h2] at h; cases h
 · rw [if_neg h1] at h; cases h
def os67w : OSpec := os67.like fun (k, d, _) (_, b, m, _) => .br (pkT b m && Nat.ble d.length 1000000) (.br (mayR k d) (.ret ([.int .i64 0], pkO (bytesInt (putR k d (intBytes b, m)).1) (putR k d (intBytes b, m)).2)) (.ret ([.int .i64 1], pkO b m))) .no
theorem ok67w : os67w.Ok Try.prog := by
 refine like_ok ok67 _ ?_
 rintro ⟨(k : Int), (d : List UInt8), _⟩ ⟨_, (b : List Int), (m : Known), _⟩ r h
 simp only [Tr.get] at h
 cases hc : (pkT b m && Nat.ble d.length 1000000) with
 | false => rw [hc] at h; cases h
 | true =>
   rw [hc, cond_true] at h
   simp only [pkT, Bool.and_eq_true] at hc
   obtain ⟨⟨hok, hk, hb⟩, hd⟩ := hc
   have hd := Nat.le_of_ble_eq_true hd
   refine Tr.get_of_all ?_
   show (t67 k d b m).all _
   unfold t67
   have hbig : bigS d = true := by simp [bigS]; omega
   cases hm : mayR k d with
   | false =>
     rw [hm, cond_false] at h
     cases h
     exact Tr.all_t hbig (Tr.all_t rfl (Tr.all_ret rfl))
   | true =>
     rw [hm, cond_true] at h
     cases h
     obtain ⟨h1, h2, h3, h4, h5, h6⟩ := may_parts hm
     have hl := layV_len k
     rw [h1, cond_true]
     refine Tr.all_t hbig (Tr.all_f rfl (Tr.all_t hbig (Tr.all_t ?_ (Tr.all_ret rfl))))
     unfold putC
     rw [hok, hk, hb, dec_true rfl, dec_true rfl, dec_true h4, dec_true hl]
     simp only [Bool.true_and, List.all_eq_true, decide_eq_true_eq]
     exact fun x hx => by have := h5 x hx; omega
def fs56w : FSpec := fs56.like fun (s, a, n, k, _) => .on (smS s) ((takeV s a n k).getD [], if (takeV s a n k).isSome then (0 : Int) else 2, ())
theorem takeD_facts : ∀ (ps : List Int) (s : List UInt8) (a e : Int) (d : List UInt8), 0 ≤ a → s.length ≤ 100000000 → (takeD ps s a e d).2.2.length ≤ d.length + 200000000 * ps.length
 | [], s, a, e, d, _, _ => by simp [takeD]
 | x :: ps, s, a, e, d, h0, hs => by
   unfold takeD
   by_cases h1 : x = -1
   · rw [if_pos h1]
     cases ho : takeG s a a (-1) [] with
     | none => exact Nat.le_add_right _ _
     | some q =>
       obtain ⟨n, next⟩ := q
       obtain ⟨p1, p2, p3⟩ := takeG_place h0 ho
       have hn := (may_iff.1 p1).2.1
       simp only
       by_cases hn2 : next > e
       · rw [if_pos hn2]
         exact Nat.le_add_right _ _
       · rw [if_neg hn2]
         have := takeD_facts ps s next e (d ++ n) (by omega) hs
         rw [List.length_append] at this
         simp only [List.length_cons]
         omega
   · rw [if_neg h1]
     generalize (if x = -2 ∨ x = -3 then e - a else x) = sz
     by_cases hh : someB s a sz = true ∧ a + sz ≤ e
     · rw [if_pos hh]
       have := someB_iff.1 hh.1
       have hvl : (someV s a sz).length ≤ s.length := by unfold someV; rw [List.length_take, List.length_drop]; omega
       have := takeD_facts ps s (a + sz) e (d ++ someV s a sz) (by omega) hs
       rw [List.length_append] at this
       simp only [List.length_cons]
       omega
     · rw [if_neg hh]
       exact Nat.le_add_right _ _
theorem okf56w : fs56w.Ok Try.prog := by
 refine flike_ok okf56 _ ?_
 rintro ⟨(s : List UInt8), (a : Int), (n : Int), (k : Int), _⟩ y h
 obtain ⟨hb, rfl⟩ := Tr.get_on h
 refine convR_of (vs := [.str ((takeV s a n k).getD []), .int .i64 (if (takeV s a n k).isSome then 0 else 2)]) rfl rfl (Tr.get_of_all ?_)
 show (t56 s a n k).all _
 unfold t56 takeV
 have hB : s.length ≤ 100000000 := by simpa [smS] using hb
 have hbig : bigS s = true := by simp [bigS]; omega
 have hl := layV_len k
 refine Tr.all_t hbig ?_
 cases h1 : someB s a n with
 | false =>
   rw [if_neg Bool.false_ne_true]
   exact Tr.all_f rfl (Tr.all_ret rfl)
 | true =>
   have hs := someB_iff.1 h1
   have hw : IntKind.wrap .i64 (a + n) = a + n := IntWalk.i64_in _ (by omega)
   have hd := takeD_facts (layV k) s a (a + n) [] hs.1 hB
   rw [hw, if_pos rfl]
   have hc : takeC s a (a + n) [] (layV k) (layV k).length 0 = true := by
    unfold takeC noT
    rw [hb, dec_true rfl, dec_true rfl, dec_true hs.1, dec_true (show a ≤ a + n by omega), dec_true (show a + n ≤ (s.length : Int) by omega), dec_true hl]
    rfl
   generalize takeD (layV k) s a (a + n) [] = t at hd
   obtain ⟨ok, at', d⟩ := t
   have hbd : bigS d = true := by
    have : d.length ≤ ([] : List UInt8).length + 200000000 * (layV k).length := hd
    simp [bigS] at this ⊢
    omega
   refine Tr.all_t rfl (Tr.all_t hc (Tr.all_br (fun c1 => Tr.all_br (fun c2 => Tr.all_ret ?_) fun c2 => Tr.all_t hbd (Tr.all_br (fun c3 => Tr.all_ret ?_) fun c3 => Tr.all_ret ?_)) fun c1 => Tr.all_ret ?_))
   · have hne : at' ≠ a + n := by simpa using c2
     rw [if_neg (fun h => hne h.2.1)]
     rfl
   · rw [Bool.not_eq_true'] at c3
     rw [if_neg (fun h => by rw [show mayR k d = false from c3] at h; exact Bool.false_ne_true h.2.2)]
     rfl
   · rw [Bool.not_eq_false'] at c3
     have he : at' = a + n := by simpa using c2
     rw [if_pos ⟨c1, he, c3⟩]
     rfl
   · rw [if_neg (fun h => by rw [show ok = false from c1] at h; exact Bool.false_ne_true h.1)]
     rfl
noncomputable def b100 : Code := nthLoop c100 0
def ls100 : LoopSpec := { bid := 0, sh := [.d .str false, .d (.int .i64) false], so := [], F := fun (s, k, _) _ => .on2 (bigS s && decide (k = 1)) (wholeV s == 0) (.exit 0, [.dead], []) (.ret, [.int .i64 (wholeV s)], []) }
def r100 (s : List UInt8) (k : Int) : Tr (St ⊕ (Ex × St)) := .br (decide (k ≤ (↑s.length : Int))) (.br (decide (k ≤ 255)) (.br (decide (0 ≤ k) && decide (k ≤ (↑s.length : Int))) (.br (decide (0 ≤ 0) && decide (0 ≤ k)) (.br (bigS (List.take (Int.toNat k - Int.toNat 0) (List.drop (Int.toNat 0) s))) (.br (mayV (List.take (Int.toNat k - Int.toNat 0) (List.drop (Int.toNat 0) s))) (.ret (.inr (.ret, stOf [2] [.int .i64 k] []))) (.ret (.inl (stOf [0, 3] [.str s, .int .i64 (IntKind.wrap .i64 (k + 1))] [])))) .no) .no) .no) (.ret (.inr (.exit 0, stOf [2] [.dead] [])))) (.ret (.inr (.exit 0, stOf [2] [.dead] [])))
theorem round100 (lp : Lp) (s : List UInt8) (k : Int) : evC T0 (orcB [fs75v] []) lp b100 0 (stOf [0, 3] [.str s, .int .i64 k] []) (roundK [0, 3] [2] 0) = (r100 s k).get := by kernel_rfl
theorem wf100 (s : List UInt8) (I'' : Int → Prop) (m'' : Int → Nat) (r'' : Ex × St) (h : ∀ (k : Int), I'' k → (r100 s k).all fun x'' => x'' = .inr r'' ∨ ∃ (k' : Int), x'' = .inl (stOf [0, 3] [.str s, .int .i64 k'] []) ∧ I'' k' ∧ m'' k' < m'' k) (lp : Lp) (k : Int) : I'' k →
    loopF (fun st => evC T0 (orcB [fs75v] []) lp b100 0 st (roundK [0, 3] [2] 0)) (stOf [0, 3] [.str s, .int .i64 k] []) = some r'' :=
 loop_tr (fun a'' : Int => stOf [0, 3] [.str s, .int .i64 a''] []) (fun a'' => I'' a'') (fun a'' => m'' a'') r'' (fun a'' => r100 s a'')
  (fun a'' x hx => (round100 lp s a'').trans hx) (fun a'' ha => Tr.all_mono (fun x'' hx => hx.imp id fun ⟨k', h1, h2, h3⟩ => ⟨(k'), h1, h2, h3⟩) (h (a'') ha)) (k)
theorem loop100 : ls100.Ok T0 (orcB [fs75v] []) h100 0 0 b100 := by
 intro q'' hq'' x'' y'' r'' h
 obtain ⟨(s : List UInt8), (k : Int), _⟩ := x''
 obtain ⟨hc, rfl⟩ := Tr.get_on2 h
 show loopF (fun st => evC T0 (orcB [fs75v] []) (lpN T0 (orcB [fs75v] []) h100 0 q'') b100 0 st (roundK [0, 3] [2] 0)) (stOf [0, 3] [.str s, .int .i64 k] []) = some ((bif wholeV s == 0 then (.exit 0, [.dead], []) else (.ret, [.int .i64 (wholeV s)], []) : Ex × List AV × List LObj).1, stOf [2] (bif wholeV s == 0 then (.exit 0, [.dead], []) else (.ret, [.int .i64 (wholeV s)], []) : Ex × List AV × List LObj).2.1 (bif wholeV s == 0 then (.exit 0, [.dead], []) else (.ret, [.int .i64 (wholeV s)], []) : Ex × List AV × List LObj).2.2)
 simp only [Bool.and_eq_true, decide_eq_true_eq] at hc
 obtain ⟨hb, rfl⟩ := hc
 have hB : s.length ≤ 1000000000000 := by simpa [bigS] using hb
 refine wf100 s (fun k => 1 ≤ k ∧ k ≤ 256 ∧ (wholeV s = 0 ∨ k ≤ wholeV s)) (fun k => (257 - k).toNat) _ ?_ _ 1 ⟨by omega, by omega, by omega⟩
 rintro k ⟨h1, h2, h3⟩
 unfold r100
 have hwl := wholeV_le s
 have hwm : wholeV s ≠ 0 → wholeV s ≤ 255 := fun h => by
  have := (whole_of (d := s) hwl (whole_may h)).2
  omega
 by_cases hk : k ≤ s.length
 · by_cases h255 : k ≤ 255
   · have ht : List.take (Int.toNat k - Int.toNat (0 : Int)) (List.drop (Int.toNat (0 : Int)) s) = s.take k.toNat := rfl
     rw [ht, IntWalk.i64_in _ (by omega)]
     refine Tr.all_t (dec_true hk) (Tr.all_t (dec_true h255) (Tr.all_t (by rw [dec_true (by omega), dec_true hk]; rfl) (Tr.all_t (by rw [dec_true (by omega), dec_true (by omega)]; rfl) (Tr.all_t (by simp [bigS]; omega) (Tr.all_br (fun c => Tr.all_ret (.inl ?_)) fun c => Tr.all_ret (.inr ⟨_, rfl, ⟨by omega, by omega, ?_⟩, by omega⟩))))))
     · obtain ⟨e, _⟩ := whole_of (d := s) (by omega) c
       rw [show (wholeV s == 0) = false from beq_eq_false_iff_ne.2 (by omega), e, Int.toNat_of_nonneg (by omega)]
       rfl
     · rcases h3 with h3 | h3
       · exact .inl h3
       · by_cases he : k = (wholeV s : Int)
         · have := whole_may (d := s) (by omega)
           rw [show wholeV s = k.toNat by omega, c] at this
           cases this
         · omega
   · have h0 : wholeV s = 0 := by
       rcases h3 with h3 | h3
       · exact h3
       · by_cases hz : wholeV s = 0
         · exact hz
         · have := hwm hz; omega
     rw [h0]
     exact Tr.all_t (dec_true hk) (Tr.all_f (dec_false h255) (Tr.all_ret (.inl rfl)))
 · have h0 : wholeV s = 0 := by omega
   rw [h0]
   exact Tr.all_f (dec_false hk) (Tr.all_ret (.inl rfl))
def t100 (s : List UInt8) : Tr Res := .br (bigS s && decide (1 = (1 : Ty.den (Ty.int .i64)))) (.br (wholeV s == 0) (.ret ([.int .i64 0], [])) (.ret ([.int .i64 (↑(wholeV s) : Int)], []))) .no
def os100 : OSpec := { f := 100, sh := [.d .str false], so := [], F := fun (s, _) _ => t100 s }
theorem fn100 (s : List UInt8) : evC T0 (orcB [fs75v] []) (lpOf h100 0 (lsOf [ls100])) c100 1000000 (startSt [.str s] [] Try.f100.ntmps) (finishK T0 false 0 Try.f100) = (t100 s).get := by kernel_rfl
theorem ok100 : os100.Ok Try.prog := by
 refine os_ok mixed0 tab0 (orcB_sound (all_cons okf75v all_nil) all_nil) h100 (d := 0) (n0 := 0) (S := lsOf [ls100]) Try.func100 (by kernel_rfl) (c := c100) (by kernel_rfl) rfl (loops_eq (xs := [(0, b100)]) (by kernel_rfl) (all_cons (ls_here loop100) all_nil)) (by omega) (by kernel_rfl) ?_
 intro x'' y'' q'' hq''
 obtain ⟨(s : List UInt8), _⟩ := x''
 exact (fn100 s).trans hq''
def fs100 : FSpec := fsT 100 [(.str, false)] [((.int .i64), false)] fun (s, _) => t100 s
theorem okf100 : fs100.Ok Try.prog := fsT_ok fun x'' r'' hr'' => ok100 x'' () r'' hr''
def fs100w : FSpec := fs100.like fun (s, _) => .on (bigS s) ((wholeV s : Int), ())
theorem okf100w : fs100w.Ok Try.prog := by
 refine flike_ok okf100 _ ?_
 rintro ⟨(s : List UInt8), _⟩ y h
 obtain ⟨hb, rfl⟩ := Tr.get_on h
 refine convR_of (vs := [.int .i64 (wholeV s)]) rfl rfl (Tr.get_of_all ?_)
 show (t100 s).all _
 refine Tr.all_t (by rw [hb]; rfl) (Tr.all_br (fun c1 => Tr.all_ret ?_) fun c1 => Tr.all_ret rfl)
 rw [beq_iff_eq.1 c1]
 rfl
noncomputable def b108 : Code := nthLoop c108 0
def ls108 : LoopSpec := { bid := 0, sh := [.d .str false], so := [], F := fun (s, _) _ => .on2 (bigS s) (texR s) (.exit 0, [.dead], []) (.ret, [.bool false], []) }
def r108 (s : List UInt8) : Tr (St ⊕ (Ex × St)) := .br (!s == []) (.br (decide (0 < (↑s.length : Int))) (.br (decide (IntKind.wrap .i64 (1 + IntKind.wrap .i64 (↑(UInt8.toNat (s.getD (Int.toNat 0) 0)) : Int)) > (↑s.length : Int))) (.ret (.inr (.ret, stOf [2] [.bool false] []))) (.br (decide (0 ≤ (↑s.length : Int)) && decide ((↑s.length : Int) ≤ (↑s.length : Int))) (.br (decide (0 ≤ IntKind.wrap .i64 (1 + IntKind.wrap .i64 (↑(UInt8.toNat (s.getD (Int.toNat 0) 0)) : Int))) && decide (IntKind.wrap .i64 (1 + IntKind.wrap .i64 (↑(UInt8.toNat (s.getD (Int.toNat 0) 0)) : Int)) ≤ (↑s.length : Int))) (.ret (.inl (stOf [0] [.str (List.take (Int.toNat (↑s.length : Int) - Int.toNat (IntKind.wrap .i64 (1 + IntKind.wrap .i64 (↑(UInt8.toNat (s.getD (Int.toNat 0) 0)) : Int)))) (List.drop (Int.toNat (IntKind.wrap .i64 (1 + IntKind.wrap .i64 (↑(UInt8.toNat (s.getD (Int.toNat 0) 0)) : Int)))) s))] []))) .no) .no)) .no) (.ret (.inr (.exit 0, stOf [2] [.dead] [])))
theorem round108 (orc : Orc) (lp : Lp) (s : List UInt8) : evC T0 orc lp b108 0 (stOf [0] [.str s] []) (roundK [0] [2] 0) = (r108 s).get := by kernel_rfl
theorem wf108 (orc : Orc) (I'' : List UInt8 → Prop) (m'' : List UInt8 → Nat) (r'' : Ex × St) (h : ∀ (s : List UInt8), I'' s → (r108 s).all fun x'' => x'' = .inr r'' ∨ ∃ (s' : List UInt8), x'' = .inl (stOf [0] [.str s'] []) ∧ I'' s' ∧ m'' s' < m'' s) (lp : Lp) (s : List UInt8) : I'' s →
    loopF (fun st => evC T0 orc lp b108 0 st (roundK [0] [2] 0)) (stOf [0] [.str s] []) = some r'' :=
 loop_tr (fun a'' : List UInt8 => stOf [0] [.str a''] []) (fun a'' => I'' a'') (fun a'' => m'' a'') r'' (fun a'' => r108 a'')
  (fun a'' x hx => (round108 orc lp a'').trans hx) (fun a'' ha => Tr.all_mono (fun x'' hx => hx.imp id fun ⟨s', h1, h2, h3⟩ => ⟨(s'), h1, h2, h3⟩) (h (a'') ha)) (s)
theorem loop108 (orc : Orc) : ls108.Ok T0 orc h108 0 0 b108 := by
 intro q'' hq'' x'' y'' r'' h
 obtain ⟨(s : List UInt8), _⟩ := x''
 obtain ⟨hc, rfl⟩ := Tr.get_on2 h
 show loopF (fun st => evC T0 orc (lpN T0 orc h108 0 q'') b108 0 st (roundK [0] [2] 0)) (stOf [0] [.str s] []) = some ((bif texR s then (.exit 0, [.dead], []) else (.ret, [.bool false], []) : Ex × List AV × List LObj).1, stOf [2] (bif texR s then (.exit 0, [.dead], []) else (.ret, [.bool false], []) : Ex × List AV × List LObj).2.1 (bif texR s then (.exit 0, [.dead], []) else (.ret, [.bool false], []) : Ex × List AV × List LObj).2.2)
 refine wf108 _ (fun t => bigS t = true ∧ texR t = texR s) (fun t => t.length) _ ?_ _ s ⟨hc, rfl⟩
 clear hc
 rintro t ⟨hb, h2⟩
 rw [← h2]
 have hB : t.length ≤ 1000000000000 := by simpa [bigS] using hb
 unfold r108
 cases ht : t with
 | nil =>
   rw [texR_nil]
   exact Tr.all_f rfl (Tr.all_ret (.inl rfl))
 | cons c0 t0 =>
   rw [← ht]
   have hne : t ≠ [] := by rw [ht]; simp
   have hpos := List.length_pos_iff.2 hne
   have hb0 : (↑(UInt8.toNat (List.getD t (Int.toNat (0 : Int)) 0)) : Int) = (byN t 0 : Int) := rfl
   have hbl : byN t 0 < 256 := (t.getD 0 0).toNat_lt
   rw [hb0]
   simp (disch := omega) only [IntWalk.i64_in]
   refine Tr.all_t (by rw [ht]; rfl) (Tr.all_t (dec_true (by omega)) (Tr.all_br (fun c => Tr.all_ret (.inl ?_)) fun c => Tr.all_t (by rw [dec_true (by omega), dec_true (by omega)]; rfl) (Tr.all_t ?_ (Tr.all_ret (.inr ⟨_, rfl, ?_, ?_⟩)))))
   · simp only [decide_eq_true_eq] at c
     rw [texR_long hne (by omega)]
     rfl
   · simp only [decide_eq_false_iff_not] at c
     rw [dec_true (by omega), dec_true (by omega)]
     rfl
   · simp only [decide_eq_false_iff_not] at c
     have e : List.take (Int.toNat (t.length : Int) - Int.toNat ((1 : Int) + (byN t 0 : Int))) (List.drop (Int.toNat ((1 : Int) + (byN t 0 : Int))) t) = t.drop (1 + byN t 0) := by
      rw [show Int.toNat ((1 : Int) + (byN t 0 : Int)) = 1 + byN t 0 by omega]
      exact List.take_of_length_le (by simp)
     rw [e]
     exact ⟨by simp [bigS]; omega, (texR_on hne (by omega)).symm⟩
   · rw [List.length_take, List.length_drop]
     omega
def t108 (s : List UInt8) : Tr Res := .br (s == []) (.ret ([.bool false], [])) (.br (bigS s) (.br (texR s) (.ret ([.bool true], [])) (.ret ([.bool false], []))) .no)
def os108 : OSpec := { f := 108, sh := [.d .str false], so := [], F := fun (s, _) _ => t108 s }
theorem fn108 (s : List UInt8) : evC T0 (orcB [] []) (lpOf h108 0 (lsOf [ls108])) c108 1000000 (startSt [.str s] [] Try.f108.ntmps) (finishK T0 false 0 Try.f108) = (t108 s).get := by kernel_rfl
theorem ok108 : os108.Ok Try.prog := by
 refine os_ok mixed0 tab0 (orcB_sound all_nil all_nil) h108 (d := 0) (n0 := 0) (S := lsOf [ls108]) Try.func108 (by kernel_rfl) (c := c108) (by kernel_rfl) rfl (loops_eq (xs := [(0, b108)]) (by kernel_rfl) (all_cons (ls_here (loop108 _)) all_nil)) (by omega) (by kernel_rfl) ?_
 intro x'' y'' q'' hq''
 obtain ⟨(s : List UInt8), _⟩ := x''
 exact (fn108 s).trans hq''
def fs108 : FSpec := fsT 108 [(.str, false)] [(.bool, false)] fun (s, _) => t108 s
theorem okf108 : fs108.Ok Try.prog := fsT_ok fun x'' r'' hr'' => ok108 x'' () r'' hr''
def fs108w : FSpec := fs108.like fun (s, _) => .on (bigS s) (textsV s, ())
theorem okf108w : fs108w.Ok Try.prog := by
 refine flike_ok okf108 _ ?_
 rintro ⟨(s : List UInt8), _⟩ y h
 obtain ⟨hb, rfl⟩ := Tr.get_on h
 refine convR_of (vs := [.bool (textsV s)]) rfl rfl (Tr.get_of_all ?_)
 show (t108 s).all _
 unfold t108
 have e : textsV s = (!s.isEmpty && texR s) := rfl
 rw [e]
 cases hs : s with
 | nil => exact Tr.all_t rfl (Tr.all_ret rfl)
 | cons c0 s0 =>
   rw [← hs]
   refine Tr.all_f (by rw [hs]; rfl) (Tr.all_t hb (Tr.all_br (fun c => Tr.all_ret ?_) fun c => Tr.all_ret ?_))
   · rw [c, hs]; rfl
   · rw [c, hs]; rfl
def t76 (k : Int) (d : List UInt8) : Tr Res := .br (decide ((↑d.length : Int) > 65535)) (.ret ([.bool false], [])) (.br (k == 1) (.ret ([.bool ((↑d.length : Int) == 4)], [])) (.br (k == 28) (.ret ([.bool ((↑d.length : Int) == 16)], [])) (.br (k == 2) (.br (bigS d) (.ret ([.bool (mayV d)], [])) .no) (.br (k == 5) (.br (bigS d) (.ret ([.bool (mayV d)], [])) .no) (.br (k == 12) (.br (bigS d) (.ret ([.bool (mayV d)], [])) .no) (.br (k == 15) (.br (decide ((↑d.length : Int) > 2)) (.br (decide (0 ≤ (↑d.length : Int)) && decide ((↑d.length : Int) ≤ (↑d.length : Int))) (.br (decide (0 ≤ 2) && decide (2 ≤ (↑d.length : Int))) (.br (bigS (List.take (Int.toNat (↑d.length : Int) - Int.toNat 2) (List.drop (Int.toNat 2) d))) (.ret ([.bool (mayV (List.take (Int.toNat (↑d.length : Int) - Int.toNat 2) (List.drop (Int.toNat 2) d)))], [])) .no) .no) .no) (.ret ([.bool false], []))) (.br (k == 6) (.br (bigS d) (.br (decide (0 ≤ (↑d.length : Int)) && decide ((↑d.length : Int) ≤ (↑d.length : Int))) (.br (decide (0 ≤ (↑(wholeV d) : Int)) && decide ((↑(wholeV d) : Int) ≤ (↑d.length : Int))) (.br (bigS (List.take (Int.toNat (↑d.length : Int) - Int.toNat (↑(wholeV d) : Int)) (List.drop (Int.toNat (↑(wholeV d) : Int)) d))) (.br (decide ((↑(wholeV d) : Int) > 0)) (.br (decide ((↑(wholeV (List.take (Int.toNat (↑d.length : Int) - Int.toNat (↑(wholeV d) : Int)) (List.drop (Int.toNat (↑(wholeV d) : Int)) d))) : Int) > 0)) (.ret ([.bool ((↑d.length : Int) == IntKind.wrap .i64 (IntKind.wrap .i64 ((↑(wholeV d) : Int) + (↑(wholeV (List.take (Int.toNat (↑d.length : Int) - Int.toNat (↑(wholeV d) : Int)) (List.drop (Int.toNat (↑(wholeV d) : Int)) d))) : Int)) + 20))], [])) (.ret ([.bool false], []))) (.ret ([.bool false], []))) .no) .no) .no) .no) (.br (k == 16) (.br (bigS d) (.ret ([.bool (textsV d)], [])) .no) (.ret ([.bool true], []))))))))))
def os76 : OSpec := { f := 76, sh := [.d (.int .u16) false, .d .str false], so := [], F := fun (k, d, _) _ => t76 k d }
theorem fn76 (k : Int) (d : List UInt8) : evC T0 (orcB [fs100w, fs108w, fs75v] []) (lpOf h76 0 (lsOf [])) c76 1000000 (startSt [.int .u16 k, .str d] [] Try.f76.ntmps) (finishK T0 false 0 Try.f76) = (t76 k d).get := by kernel_rfl
theorem ok76 : os76.Ok Try.prog := by
 refine os_ok mixed0 tab0 (orcB_sound (all_cons okf100w (all_cons okf108w (all_cons okf75v all_nil))) all_nil) h76 (d := 0) (n0 := 0) (S := lsOf []) Try.func76 (by kernel_rfl) (c := c76) (by kernel_rfl) rfl (no_loops (by kernel_rfl)) (by omega) (by kernel_rfl) ?_
 intro x'' y'' q'' hq''
 obtain ⟨(k : Int), (d : List UInt8), _⟩ := x''
 exact (fn76 k d).trans hq''
def fs76 : FSpec := fsT 76 [((.int .u16), false), (.str, false)] [(.bool, false)] fun (k, d, _) => t76 k d
theorem okf76 : fs76.Ok Try.prog := fsT_ok fun x'' r'' hr'' => ok76 x'' () r'' hr''
def fs76w : FSpec := fs76.like fun (k, d, _) => .on (bigS d) (mayR k d, ())
theorem okf76w : fs76w.Ok Try.prog := by
 refine flike_ok okf76 _ ?_
 rintro ⟨(k : Int), (d : List UInt8), _⟩ y h
 obtain ⟨hb, rfl⟩ := Tr.get_on h
 refine convR_of (vs := [.bool (mayR k d)]) rfl rfl (Tr.get_of_all ?_)
 show (t76 k d).all _
 unfold t76
 have hB : d.length ≤ 1000000000000 := by simpa [bigS] using hb
 by_cases hl : (d.length : Int) > 65535
 · have hf : Nat.ble d.length 65535 = false := by rw [ble_iff]; exact dec_false (by omega)
   have : mayR k d = false := by rw [mayR_cut, hf, Bool.and_false]
   rw [this]
   exact Tr.all_t (dec_true hl) (Tr.all_ret rfl)
 have ht : Nat.ble d.length 65535 = true := Nat.ble_eq_true_of_le (by omega)
 refine Tr.all_f (dec_false hl) ?_
 by_cases k1 : k = 1
 · subst k1
   rw [may_A, ht, Bool.and_true]
   exact Tr.all_t rfl (Tr.all_ret rfl)
 refine Tr.all_f (beq_eq_false_iff_ne.2 k1) ?_
 by_cases k2 : k = 28
 · subst k2
   rw [may_AAAA, ht, Bool.and_true]
   exact Tr.all_t rfl (Tr.all_ret rfl)
 refine Tr.all_f (beq_eq_false_iff_ne.2 k2) ?_
 by_cases k3 : k = 2
 · rw [may_name (.inl k3), ht, Bool.and_true]
   exact Tr.all_t (beq_iff_eq.2 k3) (Tr.all_t hb (Tr.all_ret rfl))
 refine Tr.all_f (beq_eq_false_iff_ne.2 k3) ?_
 by_cases k4 : k = 5
 · rw [may_name (.inr (.inl k4)), ht, Bool.and_true]
   exact Tr.all_t (beq_iff_eq.2 k4) (Tr.all_t hb (Tr.all_ret rfl))
 refine Tr.all_f (beq_eq_false_iff_ne.2 k4) ?_
 by_cases k5 : k = 12
 · rw [may_name (.inr (.inr k5)), ht, Bool.and_true]
   exact Tr.all_t (beq_iff_eq.2 k5) (Tr.all_t hb (Tr.all_ret rfl))
 refine Tr.all_f (beq_eq_false_iff_ne.2 k5) ?_
 have hsub : ∀ a : Nat, List.take (Int.toNat (↑(List.length d) : Int) - Int.toNat (a : Int)) (List.drop (Int.toNat (a : Int)) d) = d.drop a := fun a => List.take_of_length_le (by simp)
 by_cases k6 : k = 15
 · subst k6
   rw [may_MX, ht, Bool.and_true]
   refine Tr.all_t rfl (Tr.all_br (fun c => ?_) fun c => Tr.all_ret ?_)
   · simp only [decide_eq_true_eq] at c
     rw [show (2 : Int) = ((2 : Nat) : Int) from rfl, hsub 2]
     rw [dec_true (show ((2 : Nat) : Int) ≤ d.length by omega)]
     exact Tr.all_t (by rw [dec_true (by omega), dec_true (by omega)]; rfl) (Tr.all_t (by rw [dec_true (by omega)]; rfl) (Tr.all_t (by simp [bigS]; omega) (Tr.all_ret rfl)))
   · simp only [decide_eq_false_iff_not] at c
     have : (decide ((2 : Int) ≤ d.length) && mayV (d.drop 2)) = false := by
      by_cases h2 : d.length = 2
      · rw [List.drop_eq_nil_of_le (by omega)]
        rw [may_nil, Bool.and_false]
      · rw [dec_false (by omega), Bool.false_and]
     rw [this]
 refine Tr.all_f (beq_eq_false_iff_ne.2 k6) ?_
 by_cases k7 : k = 6
 · subst k7
   have hw := wholeV_le d
   have hw2 := wholeV_le (d.drop (wholeV d))
   rw [List.length_drop] at hw2
   rw [may_SOA, ht, Bool.and_true, hsub]
   refine Tr.all_t rfl (Tr.all_t hb (Tr.all_t (by rw [dec_true (by omega), dec_true (by omega)]; rfl) (Tr.all_t (by rw [dec_true (by omega), dec_true (by omega)]; rfl) (Tr.all_t (by simp [bigS]; omega) (Tr.all_br (fun c1 => Tr.all_br (fun c2 => Tr.all_ret ?_) fun c2 => Tr.all_ret ?_) fun c1 => Tr.all_ret ?_)))))
   · simp only [decide_eq_true_eq] at c1 c2
     rw [IntWalk.i64_in ((wholeV d : Int) + (wholeV (d.drop (wholeV d)) : Int)) (by omega), IntWalk.i64_in _ (by omega), dec_false (show ¬ wholeV d = 0 by omega), dec_false (show ¬ wholeV (d.drop (wholeV d)) = 0 by omega)]
     simp only [Bool.not_false, Bool.true_and, List.length_drop]
     congr 3
     rw [Bool.eq_iff_iff]
     simp
     omega
   · simp only [decide_eq_false_iff_not] at c2
     rw [dec_true (show wholeV (d.drop (wholeV d)) = 0 by omega)]
     simp
   · simp only [decide_eq_false_iff_not] at c1
     rw [dec_true (show wholeV d = 0 by omega)]
     rfl
 refine Tr.all_f (beq_eq_false_iff_ne.2 k7) ?_
 by_cases k8 : k = 16
 · subst k8
   rw [may_TXT, ht, Bool.and_true]
   exact Tr.all_t rfl (Tr.all_t hb (Tr.all_ret rfl))
 rw [may_any ⟨k1, k2, k3, k4, k5, k6, k7, k8⟩, ht]
 exact Tr.all_f (beq_eq_false_iff_ne.2 k8) (Tr.all_ret rfl)
theorem len_big {n : List UInt8} (h : n.length ≤ 1000000000000) : bigS n = true := by simp [bigS]; omega
theorem drop_cons2 {α : Type} {l : List α} {k : Nat} (h : k < l.length) (x : α) : l.drop k = l.getD k x :: l.drop (k + 1) := by
 rw [List.getD_eq_getElem?_getD, List.getElem?_eq_getElem h]
 exact List.drop_eq_getElem_cons h
abbrev RR : Ty := .pair .str (.pair (.int .u16) (.pair (.int .u16) (.pair (.int .u32) .str)))
abbrev RRt := List UInt8 × (Int × (Int × (Int × List UInt8)))
abbrev ZNt := List UInt8 × List RRt
abbrev QQ : Ty := .pair .str (.pair (.int .u16) (.int .u16))
abbrev QQt := List UInt8 × (Int × Int)
abbrev MG : Ty := .pair (.int .u16) (.pair .bool (.pair .bool (.pair .bool (.pair .bool (.pair .bool (.pair (.int .i64) (.pair (.int .i64) (.pair (.list QQ) (.pair (.list RR) (.pair (.list RR) (.list RR)))))))))))
abbrev MGt := Int × (Bool × (Bool × (Bool × (Bool × (Bool × (Int × (Int × (List QQt × (List RRt × (List RRt × List RRt))))))))))
instance decRR : DecidableEq RRt := inferInstance
instance decLRR : DecidableEq (List RRt) := inferInstance
instance decZN : DecidableEq ZNt := inferInstanceAs (DecidableEq (List UInt8 × List RRt))
instance decLZN : DecidableEq (List ZNt) := inferInstance
theorem stepN_eq4 {n : Nat} (hn : n < 16777216) (c : UInt8) : stepN n c = ((n * 256 + c.toNat : Nat) : Int) := by
 have hc := c.toNat_lt
 have e1 : ((n : Int) * (2 : Int) ^ min (Int.toNat (8 : Int)) (IntKind.bits IntKind.u32)) = ((n * 256 : Nat) : Int) := by
  simp [IntKind.bits]
 unfold stepN
 rw [e1, IntWalk.u32_in ((n * 256 : Nat) : Int) (by omega), IntWalk.u32_in ((c.toNat : Nat) : Int) (by omega)]
 have e3 : BitVec.toNat (BitVec.ofInt (IntKind.bits IntKind.u32) ((n * 256 : Nat) : Int) ||| BitVec.ofInt (IntKind.bits IntKind.u32) ((c.toNat : Nat) : Int)) = n * 256 + c.toNat := by
  show BitVec.toNat (BitVec.ofInt 32 ((n * 256 : Nat) : Int) ||| BitVec.ofInt 32 ((c.toNat : Nat) : Int)) = _
  rw [BitVec.ofInt_natCast, BitVec.ofInt_natCast, BitVec.toNat_or, BitVec.toNat_ofNat, BitVec.toNat_ofNat, Nat.mod_eq_of_lt (by omega), Nat.mod_eq_of_lt (by omega)]
  have := Nat.shiftLeft_add_eq_or_of_lt (a := n) (b := c.toNat) (i := 8) (by omega)
  rw [Nat.shiftLeft_eq] at this
  exact this.symm
 rw [e3, IntWalk.u32_in _ (by omega)]
def numN (b : List UInt8) : Nat := b.foldl (fun n c => n * 256 + c.toNat) 0
theorem numN_snoc (b : List UInt8) (c : UInt8) : numN (b ++ [c]) = numN b * 256 + c.toNat := by unfold numN; rw [List.foldl_append]; rfl
theorem numN_lt : ∀ (b : List UInt8), numN b < 256 ^ b.length := by
 intro b
 have h : ∀ m (b : List UInt8), b.length = m → numN b < 256 ^ m := by
  intro m
  induction m with
  | zero => intro b hb; rw [List.length_eq_zero_iff.1 hb]; simp [numN]
  | succ m ih =>
    intro b hb
    have hne : b ≠ [] := fun e => by rw [e] at hb; simp at hb
    rw [← List.dropLast_concat_getLast hne, numN_snoc]
    have h1 := ih b.dropLast (by rw [List.length_dropLast]; omega)
    have h2 := (b.getLast hne).toNat_lt
    rw [Nat.pow_succ]
    omega
 exact h _ b rfl
def nbC4 (b : List UInt8) (n len i : Int) : Bool := decide (n = 0) && (decide (i = 0) && (decide (len = b.length) && decide (b.length ≤ 4)))
theorem nb_step4 {b : List UInt8} {i : Nat} (hi : i < b.length) (h4 : b.length ≤ 4) : stepN (numB (b.take i)) (b.getD i 0) = numB (b.take (i + 1)) := by
 have hl := numN_lt (b.take i)
 rw [List.length_take, Nat.min_eq_left (by omega)] at hl
 have hp : 256 ^ i ≤ 256 ^ 3 := Nat.pow_le_pow_right (by omega) (by omega)
 have e : numB (b.take i) = ((numN (b.take i) : Nat) : Int) := rfl
 have e2 : numB (b.take (i + 1)) = ((numN (b.take (i + 1)) : Nat) : Int) := rfl
 rw [e, e2, stepN_eq4 (by omega), List.take_succ_eq_append_getElem hi, numN_snoc, List.getD_eq_getElem?_getD, List.getElem?_eq_getElem hi]
 rfl
noncomputable def b91 : Code := nthLoop c91 0
def ls91 : LoopSpec := { bid := 0, sh := [.d .str false, .d (.int .i64) false, .d (.int .i64) false, .d (.int .u32) false, .d (.int .i64) false, .d (.int .i64) false], so := [], F := fun (b, nx, e, n, len, i, _) _ => .on (nbC4 b n len i) (.exit 0, [.int .i64 nx, .int .i64 e, .int .u32 (numB b)], []) }
def r91 (b : List UInt8) (nx e n len i : Int) : Tr (St ⊕ (Ex × St)) := .br (decide (i < len)) (.br (decide (0 ≤ i)) (.br (decide (i < (↑b.length : Int))) (.ret (.inl (stOf [9, 10, 11, 12, 23, 24] [.str b, .int .i64 nx, .int .i64 e, .int .u32 (IntKind.wrap .u32 (↑(BitVec.toNat (BitVec.ofInt (IntKind.bits IntKind.u32) (IntKind.wrap .u32 (n * 2 ^ min (Int.toNat 8) (IntKind.bits IntKind.u32))) ||| BitVec.ofInt (IntKind.bits IntKind.u32) (IntKind.wrap .u32 (↑(UInt8.toNat (b.getD i.toNat 0)) : Int)))) : Int)), .int .i64 len, .int .i64 (IntKind.wrap .i64 (i + 1))] []))) .no) .no) (.ret (.inr (.exit 0, stOf [10, 11, 12] [.int .i64 nx, .int .i64 e, .int .u32 n] [])))
theorem round91 (orc : Orc) (lp : Lp) (b : List UInt8) (nx e n len i : Int) : evC T0 orc lp b91 0 (stOf [9, 10, 11, 12, 23, 24] [.str b, .int .i64 nx, .int .i64 e, .int .u32 n, .int .i64 len, .int .i64 i] []) (roundK [9, 10, 11, 12, 23, 24] [10, 11, 12] 0) = (r91 b nx e n len i).get := by kernel_rfl
theorem wf91 (orc : Orc) (b : List UInt8) (nx e len : Int) (I'' : Int → Int → Prop) (m'' : Int → Int → Nat) (r'' : Ex × St) (h : ∀ (n i : Int), I'' n i → (r91 b nx e n len i).all fun x'' => x'' = .inr r'' ∨ ∃ (n' i' : Int), x'' = .inl (stOf [9, 10, 11, 12, 23, 24] [.str b, .int .i64 nx, .int .i64 e, .int .u32 n', .int .i64 len, .int .i64 i'] []) ∧ I'' n' i' ∧ m'' n' i' < m'' n i) (lp : Lp) (n i : Int) : I'' n i →
    loopF (fun st => evC T0 orc lp b91 0 st (roundK [9, 10, 11, 12, 23, 24] [10, 11, 12] 0)) (stOf [9, 10, 11, 12, 23, 24] [.str b, .int .i64 nx, .int .i64 e, .int .u32 n, .int .i64 len, .int .i64 i] []) = some r'' :=
 loop_tr (fun a'' : Int × Int => stOf [9, 10, 11, 12, 23, 24] [.str b, .int .i64 nx, .int .i64 e, .int .u32 a''.1, .int .i64 len, .int .i64 a''.2] []) (fun a'' => I'' a''.1 a''.2) (fun a'' => m'' a''.1 a''.2) r'' (fun a'' => r91 b nx e a''.1 len a''.2)
  (fun a'' x hx => (round91 orc lp b nx e a''.1 len a''.2).trans hx) (fun a'' ha => Tr.all_mono (fun x'' hx => hx.imp id fun ⟨n', i', h1, h2, h3⟩ => ⟨(n', i'), h1, h2, h3⟩) (h (a''.1) (a''.2) ha)) (n, i)
theorem loop91 (orc : Orc) : ls91.Ok T0 orc h91 0 0 b91 := by
 intro q'' hq'' x'' y'' r'' h
 obtain ⟨(b : List UInt8), (nx : Int), (e : Int), (n : Int), (len : Int), (i : Int), _⟩ := x''
 obtain ⟨hc, rfl⟩ := Tr.get_on h
 show loopF (fun st => evC T0 orc (lpN T0 orc h91 0 q'') b91 0 st (roundK [9, 10, 11, 12, 23, 24] [10, 11, 12] 0)) (stOf [9, 10, 11, 12, 23, 24] [.str b, .int .i64 nx, .int .i64 e, .int .u32 n, .int .i64 len, .int .i64 i] []) = some (.exit 0, stOf [10, 11, 12] ([.int .i64 nx, .int .i64 e, .int .u32 (numB b)]) ([]))
 simp only [nbC4, Bool.and_eq_true, decide_eq_true_eq] at hc
 obtain ⟨rfl, rfl, rfl, h2⟩ := hc
 refine wf91 _ b nx e b.length (nbI b) (fun _ i => (b.length - i).toNat) _ ?_ _ 0 0 ⟨by omega, by omega, by simp [numB]⟩
 rintro n i ⟨h0, h1, rfl⟩
 unfold r91
 by_cases hlt : i < b.length
 · refine Tr.all_t (dec_true hlt) (Tr.all_t (dec_true h0) (Tr.all_t (dec_true hlt) (Tr.all_ret (.inr ⟨_, _, rfl, ?_, ?_⟩))))
   · rw [IntWalk.i64_in _ (by omega)]
     exact ⟨by omega, by omega, by rw [show (i + 1).toNat = i.toNat + 1 by omega]; exact nb_step4 (by omega) h2⟩
   · rw [IntWalk.i64_in _ (by omega)]
     omega
 · refine Tr.all_f (dec_false hlt) (Tr.all_ret (.inl ?_))
   rw [List.take_of_length_le (by omega)]
def t91 (s : List UInt8) (at_ many : Int) : Tr Res := .br (bigS s) (.br (someB s at_ many) (.br (nbC4 (someV s at_ many) 0 (↑(List.length (someV s at_ many)) : Int) 0) (.ret ([.int .u32 (numB (someV s at_ many)), .int .i64 (at_ + many), .int .i64 0], [])) .no) (.ret ([.int .u32 (numB []), .int .i64 0, .int .i64 2], []))) .no
def os91 : OSpec := { f := 91, sh := [.d .str false, .d (.int .i64) false, .d (.int .i64) false], so := [], F := fun (s, at_, many, _) _ => t91 s at_ many }
theorem fn91 (s : List UInt8) (at_ many : Int) : evC T0 (orcB [fs93w] []) (lpOf h91 0 (lsOf [ls91])) c91 1000000 (startSt [.str s, .int .i64 at_, .int .i64 many] [] Try.f91.ntmps) (finishK T0 false 0 Try.f91) = (t91 s at_ many).get := by kernel_rfl
theorem ok91 : os91.Ok Try.prog := by
 refine os_ok mixed0 tab0 (orcB_sound (all_cons okf93w all_nil) all_nil) h91 (d := 0) (n0 := 0) (S := lsOf [ls91]) Try.func91 (by kernel_rfl) (c := c91) (by kernel_rfl) rfl (loops_eq (xs := [(0, b91)]) (by kernel_rfl) (all_cons (ls_here (loop91 _)) all_nil)) (by omega) (by kernel_rfl) ?_
 intro x'' y'' q'' hq''
 obtain ⟨(s : List UInt8), (at_ : Int), (many : Int), _⟩ := x''
 exact (fn91 s at_ many).trans hq''
def fs91 : FSpec := fsT 91 [(.str, false), ((.int .i64), false), ((.int .i64), false)] [((.int .u32), false), ((.int .i64), false), ((.int .i64), false)] fun (s, at_, many, _) => t91 s at_ many
theorem okf91 : fs91.Ok Try.prog := fsT_ok fun x'' r'' hr'' => ok91 x'' () r'' hr''
def t53 (s : List UInt8) (at_ : Int) : Tr Res := .br (bigS s) (.br (someB s at_ 4) (.br (nbC4 (someV s at_ 4) 0 (↑(List.length (someV s at_ 4)) : Int) 0) (.ret ([.int .u32 (numB (someV s at_ 4)), .int .i64 (at_ + 4), .int .i64 0], [])) .no) (.ret ([.int .u32 (numB []), .int .i64 0, .int .i64 2], []))) .no
def os53 : OSpec := { f := 53, sh := [.d .str false, .d (.int .i64) false], so := [], F := fun (s, at_, _) _ => t53 s at_ }
theorem fn53 (s : List UInt8) (at_ : Int) : evC T0 (orcB [fs91] []) (lpOf h53 0 (lsOf [])) c53 1000000 (startSt [.str s, .int .i64 at_] [] Try.f53.ntmps) (finishK T0 false 0 Try.f53) = (t53 s at_).get := by kernel_rfl
theorem ok53 : os53.Ok Try.prog := by
 refine os_ok mixed0 tab0 (orcB_sound (all_cons okf91 all_nil) all_nil) h53 (d := 0) (n0 := 0) (S := lsOf []) Try.func53 (by kernel_rfl) (c := c53) (by kernel_rfl) rfl (no_loops (by kernel_rfl)) (by omega) (by kernel_rfl) ?_
 intro x'' y'' q'' hq''
 obtain ⟨(s : List UInt8), (at_ : Int), _⟩ := x''
 exact (fn53 s at_).trans hq''
def fs53 : FSpec := fsT 53 [(.str, false), ((.int .i64), false)] [((.int .u32), false), ((.int .i64), false), ((.int .i64), false)] fun (s, at_, _) => t53 s at_
theorem okf53 : fs53.Ok Try.prog := fsT_ok fun x'' r'' hr'' => ok53 x'' () r'' hr''
def n32 (s : List UInt8) (at_ : Int) : Int := n16 s at_ * 65536 + n16 s (at_ + 2)
theorem some4 {s : List UInt8} {at_ : Int} (h : someB s at_ 4 = true) : someV s at_ 4 = [s.getD at_.toNat 0, s.getD (at_.toNat + 1) 0, s.getD (at_.toNat + 2) 0, s.getD (at_.toNat + 3) 0] := by
 simp only [someB, Bool.and_eq_true, decide_eq_true_eq] at h
 unfold someV
 rw [drop_get s at_.toNat 0 (by omega), drop_get s (at_.toNat + 1) 0 (by omega), drop_get s (at_.toNat + 2) 0 (by omega), drop_get s (at_.toNat + 3) 0 (by omega)]
 rfl
theorem n16_le (s : List UInt8) (a : Int) : 0 ≤ n16 s a ∧ n16 s a ≤ 65535 := by
 have h1 := byte_in (s.getD a.toNat 0)
 have h2 := byte_in (s.getD (a.toNat + 1) 0)
 unfold n16
 omega
def fs53w : FSpec := fs53.like fun (s, at_, _) => .br (bigS s) (.br (someB s at_ 4) (.ret (n32 s at_, at_ + 4, (0 : Int), ())) (.ret ((0 : Int), (0 : Int), (2 : Int), ()))) .no
theorem okf53w : fs53w.Ok Try.prog := by
 refine flike_ok okf53 _ ?_
 rintro ⟨(s : List UInt8), (at_ : Int), _⟩ y h
 simp only [Tr.get] at h
 cases hb : bigS s with
 | false => rw [hb] at h; cases h
 | true =>
   rw [hb, cond_true] at h
   cases hs : someB s at_ 4 with
   | true =>
     rw [hs, cond_true] at h
     cases h
     have hi : at_ + 4 ≤ s.length ∧ 0 ≤ at_ := by simp only [someB, Bool.and_eq_true, decide_eq_true_eq] at hs; omega
     have hc := n16_le s at_
     have hd := n16_le s (at_ + 2)
     refine convR_of (vs := [.int .u32 (n32 s at_), .int .i64 (at_ + 4), .int .i64 0]) rfl rfl (Tr.get_of_all ?_)
     show (t53 s at_).all _
     unfold t53
     refine Tr.all_t hb (Tr.all_t hs ?_)
     have hn : numB (someV s at_ 4) = n32 s at_ := by
      rw [some4 hs]
      unfold n32 n16
      rw [show (at_ + 2).toNat = at_.toNat + 2 by omega, show at_.toNat + 2 + 1 = at_.toNat + 3 from rfl]
      simp only [numB, List.foldl_cons, List.foldl_nil]
      omega
     have hl : (someV s at_ 4).length = 4 := by rw [some4 hs]; rfl
     refine Tr.all_t (by unfold nbC4; rw [hl]; simp) (Tr.all_ret ?_)
     rw [hn]
   | false =>
     rw [hs, cond_false] at h
     cases h
     refine convR_of (vs := [.int .u32 0, .int .i64 0, .int .i64 2]) rfl rfl (Tr.get_of_all ?_)
     show (t53 s at_).all _
     exact Tr.all_t hb (Tr.all_f hs (Tr.all_ret rfl))
def t17 (r : RRt) : Tr Res := .br (bigS r.1) (.br (mayV r.1) (.br (bigS r.2.2.2.2) (.ret ([.bool (mayR r.2.1 r.2.2.2.2)], [])) .no) (.ret ([.bool false], []))) .no
def os17 : OSpec := { f := 17, sh := [.d RR true], so := [], F := fun (r, _) _ => t17 r }
theorem fn17 (r : RRt) : evC T0 (orcB [fs57w, fs58w] []) (lpOf h17 0 (lsOf [])) c17 1000000 (startSt [AV.ofTy RR r true] [] Try.f17.ntmps) (finishK T0 false 0 Try.f17) = (t17 r).get := by kernel_rfl
theorem ok17 : os17.Ok Try.prog := by
 refine os_ok mixed0 tab0 (orcB_sound (all_cons okf57w (all_cons okf58w all_nil)) all_nil) h17 (d := 0) (n0 := 0) (S := lsOf []) Try.func17 (by kernel_rfl) (c := c17) (by kernel_rfl) rfl (no_loops (by kernel_rfl)) (by omega) (by kernel_rfl) ?_
 intro x'' y'' q'' hq''
 obtain ⟨(r : RRt), _⟩ := x''
 exact (fn17 r).trans hq''
def fs17 : FSpec := fsT 17 [(RR, true)] [(.bool, false)] fun (r, _) => t17 r
theorem okf17 : fs17.Ok Try.prog := fsT_ok fun x'' r'' hr'' => ok17 x'' () r'' hr''
def t31 (q : QQt) : Tr Res := .br (bigS q.1) (.ret ([.bool (mayV q.1)], [])) .no
def os31 : OSpec := { f := 31, sh := [.d QQ true], so := [], F := fun (q, _) _ => t31 q }
theorem fn31 (q : QQt) : evC T0 (orcB [fs57w, fs58w] []) (lpOf h31 0 (lsOf [])) c31 1000000 (startSt [AV.ofTy QQ q true] [] Try.f31.ntmps) (finishK T0 false 0 Try.f31) = (t31 q).get := by kernel_rfl
theorem ok31 : os31.Ok Try.prog := by
 refine os_ok mixed0 tab0 (orcB_sound (all_cons okf57w (all_cons okf58w all_nil)) all_nil) h31 (d := 0) (n0 := 0) (S := lsOf []) Try.func31 (by kernel_rfl) (c := c31) (by kernel_rfl) rfl (no_loops (by kernel_rfl)) (by omega) (by kernel_rfl) ?_
 intro x'' y'' q'' hq''
 obtain ⟨(q : QQt), _⟩ := x''
 exact (fn31 q).trans hq''
def fs31 : FSpec := fsT 31 [(QQ, true)] [(.bool, false)] fun (q, _) => t31 q
theorem okf31 : fs31.Ok Try.prog := fsT_ok fun x'' r'' hr'' => ok31 x'' () r'' hr''
def recV (r : RRt) : Bool := mayV r.1 && mayR r.2.1 r.2.2.2.2
def rrBig (r : RRt) : Bool := bigS r.1 && bigS r.2.2.2.2
def fs17w : FSpec := fs17.like fun (r, _) => .on (rrBig r) (recV r, ())
theorem okf17w : fs17w.Ok Try.prog := by
 refine flike_ok okf17 _ ?_
 rintro ⟨(r : RRt), _⟩ y h
 obtain ⟨hb, rfl⟩ := Tr.get_on h
 obtain ⟨h1, h2⟩ := Bool.and_eq_true_iff.1 (show (bigS r.1 && bigS r.2.2.2.2) = true from hb)
 refine convR_of (vs := [.bool (recV r)]) rfl rfl (Tr.get_of_all ?_)
 show (t17 r).all _
 unfold t17 recV
 refine Tr.all_t h1 (Tr.all_br (fun c => Tr.all_t h2 (Tr.all_ret (by rw [c]; rfl))) fun c => Tr.all_ret (by rw [c]; rfl))
def fs31w : FSpec := fs31.like fun (q, _) => .on (bigS q.1) (mayV q.1, ())
theorem okf31w : fs31w.Ok Try.prog := by
 refine flike_ok okf31 _ ?_
 rintro ⟨(q : QQt), _⟩ y h
 obtain ⟨hb, rfl⟩ := Tr.get_on h
 refine convR_of (vs := [.bool (mayV q.1)]) rfl rfl (Tr.get_of_all ?_)
 exact Tr.all_t hb (Tr.all_ret rfl)
def t30 (r : RRt) : Tr Res := .br (bigS r.1) (.br (mayV r.1) (.br (bigS r.2.2.2.2) (.ret ([.bool (mayR r.2.1 r.2.2.2.2)], [])) .no) (.ret ([.bool false], []))) .no
def os30 : OSpec := { f := 30, sh := [.d RR true], so := [], F := fun (r, _) _ => t30 r }
theorem fn30 (r : RRt) : evC T0 (orcB [fs75v, fs76w] []) (lpOf h30 0 (lsOf [])) c30 1000000 (startSt [AV.ofTy RR r true] [] Try.f30.ntmps) (finishK T0 false 0 Try.f30) = (t30 r).get := by kernel_rfl
theorem ok30 : os30.Ok Try.prog := by
 refine os_ok mixed0 tab0 (orcB_sound (all_cons okf75v (all_cons okf76w all_nil)) all_nil) h30 (d := 0) (n0 := 0) (S := lsOf []) Try.func30 (by kernel_rfl) (c := c30) (by kernel_rfl) rfl (no_loops (by kernel_rfl)) (by omega) (by kernel_rfl) ?_
 intro x'' y'' q'' hq''
 obtain ⟨(r : RRt), _⟩ := x''
 exact (fn30 r).trans hq''
def fs30 : FSpec := fsT 30 [(RR, true)] [(.bool, false)] fun (r, _) => t30 r
theorem okf30 : fs30.Ok Try.prog := fsT_ok fun x'' r'' hr'' => ok30 x'' () r'' hr''
def t32 (q : QQt) : Tr Res := .br (bigS q.1) (.ret ([.bool (mayV q.1)], [])) .no
def os32 : OSpec := { f := 32, sh := [.d QQ true], so := [], F := fun (q, _) _ => t32 q }
theorem fn32 (q : QQt) : evC T0 (orcB [fs75v, fs76w] []) (lpOf h32 0 (lsOf [])) c32 1000000 (startSt [AV.ofTy QQ q true] [] Try.f32.ntmps) (finishK T0 false 0 Try.f32) = (t32 q).get := by kernel_rfl
theorem ok32 : os32.Ok Try.prog := by
 refine os_ok mixed0 tab0 (orcB_sound (all_cons okf75v (all_cons okf76w all_nil)) all_nil) h32 (d := 0) (n0 := 0) (S := lsOf []) Try.func32 (by kernel_rfl) (c := c32) (by kernel_rfl) rfl (no_loops (by kernel_rfl)) (by omega) (by kernel_rfl) ?_
 intro x'' y'' q'' hq''
 obtain ⟨(q : QQt), _⟩ := x''
 exact (fn32 q).trans hq''
def fs32 : FSpec := fsT 32 [(QQ, true)] [(.bool, false)] fun (q, _) => t32 q
theorem okf32 : fs32.Ok Try.prog := fsT_ok fun x'' r'' hr'' => ok32 x'' () r'' hr''
def fs30w : FSpec := fs30.like fun (r, _) => .on (rrBig r) (recV r, ())
theorem okf30w : fs30w.Ok Try.prog := by
 refine flike_ok okf30 _ ?_
 rintro ⟨(r : RRt), _⟩ y h
 obtain ⟨hb, rfl⟩ := Tr.get_on h
 obtain ⟨h1, h2⟩ := Bool.and_eq_true_iff.1 (show (bigS r.1 && bigS r.2.2.2.2) = true from hb)
 refine convR_of (vs := [.bool (recV r)]) rfl rfl (Tr.get_of_all ?_)
 show (t30 r).all _
 unfold t30 recV
 refine Tr.all_t h1 (Tr.all_br (fun c => Tr.all_t h2 (Tr.all_ret (by rw [c]; rfl))) fun c => Tr.all_ret (by rw [c]; rfl))
def fs32w : FSpec := fs32.like fun (q, _) => .on (bigS q.1) (mayV q.1, ())
theorem okf32w : fs32w.Ok Try.prog := by
 refine flike_ok okf32 _ ?_
 rintro ⟨(q : QQt), _⟩ y h
 obtain ⟨hb, rfl⟩ := Tr.get_on h
 refine convR_of (vs := [.bool (mayV q.1)]) rfl rfl (Tr.get_of_all ?_)
 exact Tr.all_t hb (Tr.all_ret rfl)
theorem putS_len : ∀ (ps : List Int) (ls : List (List UInt8)) (p : PKt), kOk p.2 = true → kOk (putS ps ls p).2 = true ∧ (putS ps ls p).1.length ≤ p.1.length + ls.flatten.length
 | [], _, p, h => ⟨h, by simp [putS]⟩
 | x :: ps, ls, p, h => by
   rw [putS]
   have hl : ls.flatten.length = (ls.headD []).length + ls.tail.flatten.length := by cases ls <;> simp
   cases hx : x == -1 with
   | true =>
     obtain ⟨k1, k2⟩ := stN_k (p := p) (x := (ls.headD [], false)) h
     obtain ⟨q1, q2⟩ := putS_len ps ls.tail (stN p (ls.headD [], false)) k1
     refine ⟨q1, ?_⟩
     rw [cond_true, hl]
     have k2 : (stN p (ls.headD [], false)).1.length ≤ p.1.length + (ls.headD []).length := k2
     omega
   | false =>
     obtain ⟨q1, q2⟩ := putS_len ps ls.tail (p.1 ++ ls.headD [], p.2) h
     refine ⟨q1, ?_⟩
     rw [cond_false, hl]
     have q2 : (putS ps ls.tail (p.1 ++ ls.headD [], p.2)).1.length ≤ (p.1 ++ ls.headD []).length + ls.tail.flatten.length := q2
     rw [List.length_append] at q2
     omega
def knC (n S : List UInt8) (L : Known) (i : Int) : Bool := decide (i = 0) && Nat.ble L.length 1000000000000
noncomputable def b99 : Code := (nthLoop c99 0)
def ls99 : LoopSpec := { bid := 0, sh := [.d .str false, .ptr 0 0, .d (.int .i64) false], so := [.box [.d .str false, .d (.list (.pair .str (.int .i64))) false]], F := fun (n, i, _) ((S, L, _), _) => .on2 (knC n S L i) ((lookK n L).isSome) (.ret, [.int .i64 ((lookK n L).getD 0)], []) (.exit 0, [.dead], []) }
def r99 (n : List UInt8) (i : Int) (S : List UInt8) (L : List (List UInt8 × Int)) : Tr (St ⊕ (Ex × St)) := .br (decide (i < (↑L.length : Int))) (.br (decide (0 ≤ i)) (.br (decide (i < (↑L.length : Int))) (.br ((L.getD i.toNat (([], 0))).1 == n) (.br (decide (0 ≤ i)) (.br (decide (i < (↑L.length : Int))) (.ret (.inr (.ret, stOf [4] [.int .i64 (L.getD i.toNat (([], 0))).2] []))) .no) .no) (.ret (.inl (stOf [1, 2, 5] [.str n, .ptr 0 0, .int .i64 (IntKind.wrap .i64 (i + 1))] [.boxT none [.str S, .list (Ty.pair Ty.str (Ty.int .i64)) L]])))) .no) .no) (.ret (.inr (.exit 0, stOf [4] [.dead] [])))
theorem round99 (orc : Orc) (lp : Lp) (n : List UInt8) (i : Int) (S : List UInt8) (L : List (List UInt8 × Int)) : evC T0 orc lp b99 0 (stOf [1, 2, 5] [.str n, .ptr 0 0, .int .i64 i] [.box [.str S, .list (.pair .str (.int .i64)) L]]) (roundK [1, 2, 5] [4] 0) = (r99 n i S L).get := by kernel_rfl
theorem wf99 (orc : Orc) (n S : List UInt8) (L : List (List UInt8 × Int)) (I'' : Int → Prop) (m'' : Int → Nat) (r'' : Ex × St) (h : ∀ (i : Int), I'' i → (r99 n i S L).all fun x'' => x'' = .inr r'' ∨ ∃ (i' : Int), x'' = .inl (stOf [1, 2, 5] [.str n, .ptr 0 0, .int .i64 i'] [.box [.str S, .list (.pair .str (.int .i64)) L]]) ∧ I'' i' ∧ m'' i' < m'' i) (lp : Lp) (i : Int) : I'' i →
    loopF (fun st => evC T0 orc lp b99 0 st (roundK [1, 2, 5] [4] 0)) (stOf [1, 2, 5] [.str n, .ptr 0 0, .int .i64 i] [.box [.str S, .list (.pair .str (.int .i64)) L]]) = some r'' :=
 loop_tr (fun a'' : Int => stOf [1, 2, 5] [.str n, .ptr 0 0, .int .i64 a''] [.box [.str S, .list (.pair .str (.int .i64)) L]]) (fun a'' => I'' a'') (fun a'' => m'' a'') r'' (fun a'' => r99 n a'' S L)
  (fun a'' x hx => (round99 orc lp n a'' S L).trans hx) (fun a'' ha => Tr.all_mono (fun x'' hx => hx.imp id fun ⟨i', h1, h2, h3⟩ => ⟨(i'), h1, h2, h3⟩) (h (a'') ha)) (i)
theorem keq_str (a b : List UInt8) : Ty.keq .str a b = (a == b) := rfl
theorem lookK_at {n : List UInt8} {L : Known} {k : Nat} (hk : k < L.length) : lookK n (L.drop k) = if (L.getD k ([], 0)).1 == n then some (L.getD k ([], 0)).2 else lookK n (L.drop (k + 1)) := by
 rw [drop_get L k ([], 0) hk]
 unfold lookK
 rw [lookM, keq_str]
 by_cases h : n = (L.getD k ([], 0)).1
 · rw [show (n == (L.getD k ([], 0)).1) = true by simp only [beq_iff_eq]; exact h, show ((L.getD k ([], 0)).1 == n) = true by simp only [beq_iff_eq]; exact h.symm]
   rfl
 · rw [show (n == (L.getD k ([], 0)).1) = false by simp only [beq_eq_false_iff_ne]; exact h, show ((L.getD k ([], 0)).1 == n) = false by simp only [beq_eq_false_iff_ne]; exact fun e => h e.symm]
   rfl
theorem loop99 (orc : Orc) : ls99.Ok T0 orc h99 0 0 b99 := by
 intro q'' hq'' x'' y'' r'' h
 obtain ⟨(n : List UInt8), (i : Int), _⟩ := x''
 obtain ⟨⟨(S : List UInt8), (L : List (List UInt8 × Int)), _⟩, _⟩ := y''
 obtain ⟨hc, rfl⟩ := Tr.get_on2 h
 show loopF (fun st => evC T0 orc (lpN T0 orc h99 0 q'') b99 0 st (roundK [1, 2, 5] [4] 0)) (stOf [1, 2, 5] [.str n, .ptr 0 0, .int .i64 i] [.box [.str S, .list (.pair .str (.int .i64)) L]]) = some ((bif (lookK n L).isSome then (.ret, [.int .i64 ((lookK n L).getD 0)], []) else (.exit 0, [.dead], []) : Ex × List AV × List LObj).1, stOf [4] (bif (lookK n L).isSome then (.ret, [.int .i64 ((lookK n L).getD 0)], []) else (.exit 0, [.dead], []) : Ex × List AV × List LObj).2.1 (bif (lookK n L).isSome then (.ret, [.int .i64 ((lookK n L).getD 0)], []) else (.exit 0, [.dead], []) : Ex × List AV × List LObj).2.2)
 simp only [knC, Bool.and_eq_true, decide_eq_true_eq] at hc
 obtain ⟨rfl, hb⟩ := hc
 have hb := Nat.le_of_ble_eq_true hb
 refine wf99 _ n S L (fun i => 0 ≤ i ∧ i ≤ L.length ∧ lookK n (L.drop i.toNat) = lookK n L) (fun i => (L.length - i).toNat) _ ?_ _ 0 ⟨by omega, by omega, rfl⟩
 rintro i ⟨h0, h1, he⟩
 unfold r99
 by_cases hlt : i < L.length
 · rw [lookK_at (by omega)] at he
   refine Tr.all_t (dec_true hlt) (Tr.all_t (dec_true h0) (Tr.all_t (dec_true hlt) (Tr.all_br (fun c1 => ?_) fun c1 => ?_)))
   · rw [if_pos c1] at he
     rw [← he]
     exact Tr.all_t (dec_true h0) (Tr.all_t (dec_true hlt) (Tr.all_ret (.inl rfl)))
   · rw [if_neg (by rw [c1]; simp)] at he
     rw [IntWalk.i64_in _ (by omega)]
     exact Tr.all_ret (.inr ⟨_, rfl, ⟨by omega, by omega, by rw [show (i + 1).toNat = i.toNat + 1 by omega]; exact he⟩, by omega⟩)
 · rw [List.drop_of_length_le (by omega)] at he
   rw [← he]
   exact Tr.all_f (dec_false hlt) (Tr.all_ret (.inl rfl))
def t99 (p : (List UInt8 × List (List UInt8 × Int))) (n : List UInt8) : Tr Res := .br (knC n p.1 p.2 0) (.br (Option.isSome (lookK n p.2)) (.ret ([.int .i64 (Option.getD (lookK n p.2) 0)], [])) (.ret ([.int .i64 (-1)], []))) .no
def os99 : OSpec := { f := 99, sh := [.d (.pair .str (.list (.pair .str (.int .i64)))) true, .d .str false], so := [], F := fun (p, n, _) _ => t99 p n }
theorem fn99 (p : (List UInt8 × List (List UInt8 × Int))) (n : List UInt8) : evC T0 (orcB [] []) (lpOf h99 0 (lsOf [ls99])) c99 1000000 (startSt [AV.ofTy (.pair .str (.list (.pair .str (.int .i64)))) p true, .str n] [] Try.f99.ntmps) (finishK T0 false 0 Try.f99) = (t99 p n).get := by kernel_rfl
theorem ok99 : os99.Ok Try.prog := by
 refine os_ok mixed0 tab0 (orcB_sound all_nil all_nil) h99 (d := 0) (n0 := 0) (S := lsOf [ls99]) Try.func99 (by kernel_rfl) (c := c99) (by kernel_rfl) rfl (loops_eq (xs := [(0, b99)]) (by kernel_rfl) (all_cons (ls_here (loop99 _)) all_nil)) (by omega) (by kernel_rfl) ?_
 intro x'' y'' q'' hq''
 obtain ⟨(p : (List UInt8 × List (List UInt8 × Int))), (n : List UInt8), _⟩ := x''
 exact (fn99 p n).trans hq''
def fs99 : FSpec := fsT 99 [((.pair .str (.list (.pair .str (.int .i64)))), true), (.str, false)] [((.int .i64), false)] fun (p, n, _) => t99 p n
theorem okf99 : fs99.Ok Try.prog := fsT_ok fun x'' r'' hr'' => ok99 x'' () r'' hr''
def t63 (p : (List UInt8 × List (List UInt8 × Int))) (s : List UInt8) : Tr Res := .br (Nat.ble (List.length p.1 + List.length s) 9223372036854775807) (.ret ([.agg [.str (p.1 ++ s), .list (Ty.pair Ty.str (Ty.int .i64)) p.2]], [])) .no
def os63 : OSpec := { f := 63, sh := [.d (.pair .str (.list (.pair .str (.int .i64)))) true, .d .str false], so := [], F := fun (p, s, _) _ => t63 p s }
theorem fn63 (p : (List UInt8 × List (List UInt8 × Int))) (s : List UInt8) : evC T0 (orcB [] []) (lpOf h63 0 (lsOf [])) c63 1000000 (startSt [AV.ofTy (.pair .str (.list (.pair .str (.int .i64)))) p true, .str s] [] Try.f63.ntmps) (finishK T0 false 0 Try.f63) = (t63 p s).get := by kernel_rfl
theorem ok63 : os63.Ok Try.prog := by
 refine os_ok mixed0 tab0 (orcB_sound all_nil all_nil) h63 (d := 0) (n0 := 0) (S := lsOf []) Try.func63 (by kernel_rfl) (c := c63) (by kernel_rfl) rfl (no_loops (by kernel_rfl)) (by omega) (by kernel_rfl) ?_
 intro x'' y'' q'' hq''
 obtain ⟨(p : (List UInt8 × List (List UInt8 × Int))), (s : List UInt8), _⟩ := x''
 exact (fn63 p s).trans hq''
def fs63 : FSpec := fsT 63 [((.pair .str (.list (.pair .str (.int .i64)))), true), (.str, false)] [((.pair .str (.list (.pair .str (.int .i64)))), true)] fun (p, s, _) => t63 p s
theorem okf63 : fs63.Ok Try.prog := fsT_ok fun x'' r'' hr'' => ok63 x'' () r'' hr''
def kLen (L : Known) : Bool := Nat.ble L.length 1000000000000
def fs99w : FSpec := fs99.like fun (p, n, _) => .on (kLen p.2) ((lookK n p.2).getD (-1), ())
theorem okf99w : fs99w.Ok Try.prog := by
 refine flike_ok okf99 _ ?_
 rintro ⟨(p : List UInt8 × Known), (n : List UInt8), _⟩ y h
 obtain ⟨hb, rfl⟩ := Tr.get_on h
 have hb' : Nat.ble p.2.length 1000000000000 = true := hb
 refine convR_of (vs := [.int .i64 ((lookK n p.2).getD (-1))]) rfl rfl (Tr.get_of_all ?_)
 show (t99 p n).all _
 refine Tr.all_t (by unfold knC; rw [hb']; rfl) ?_
 cases h : lookK n p.2 with
 | none => exact Tr.all_f rfl (Tr.all_ret rfl)
 | some a => exact Tr.all_t rfl (Tr.all_ret rfl)
def rnC (n S0 : List UInt8) (L0 : Known) (S : List UInt8) (L : Known) : Bool := rootV n && (kOk L && (Nat.ble (S.length + n.length) 100000000000 && Nat.ble (L.length + n.length) 100000000000))
noncomputable def b62 : Code := (nthLoop c62 0)
def ls62 : LoopSpec := { bid := 0, sh := [.d .str false, .ptr 0 0, .ptr 2 0], so := [.box [.d .str false, .row 1], .row (.pair .str (.int .i64)), .box [.d .str false, .row 3], .row (.pair .str (.int .i64))], F := fun (n, _) ((S0, _), L0, (S, _), L, _) => .on2 (rnC n S0 L0 S L) ((nameL n S L).1.isSome) (.ret, [.ptr 0 0, .int .i64 0, .ptr 1 0], [.box [.str ((nameL n S L).2.2.1 ++ put16 (49152 + (nameL n S L).1.getD 0)), .list (.pair .str (.int .i64)) (nameL n S L).2.2.2], .box [.str (nameL n S L).2.2.1, .list (.pair .str (.int .i64)) (nameL n S L).2.2.2]]) (.exit 0, [.ptr 0 0, .dead, .ptr 2 0], [.box [.str S0, .rowA 1], .row (.pair .str (.int .i64)) L0, .box [.str (nameL n S L).2.2.1, .rowA 3], .row (.pair .str (.int .i64)) (nameL n S L).2.2.2]) }
def r62 (n S0 : List UInt8) (L0 : List (List UInt8 × Int)) (S : List UInt8) (L : List (List UInt8 × Int)) : Tr (St ⊕ (Ex × St)) := .br (!n == [0]) (.br (kLen L) (.br (decide (Option.getD (lookK n L) (-1 : Int) ≥ 0)) (.br (n16C (IntKind.wrap .u16 (IntKind.wrap .i64 (49152 + Option.getD (lookK n L) (-1 : Int))))) (.br (Nat.ble (List.length S + List.length (put16 (IntKind.wrap .u16 (IntKind.wrap .i64 (49152 + Option.getD (lookK n L) (-1 : Int)))))) 9223372036854775807) (.ret (.inr (.ret, stOf [4, 5, 6] [.ptr 0 0, .int .i64 0, .ptr 1 0] [.boxT none [.str (S ++ put16 (IntKind.wrap .u16 (IntKind.wrap .i64 (49152 + Option.getD (lookK n L) (-1 : Int))))), .list (Ty.pair Ty.str (Ty.int .i64)) L], .boxT none [.str S, .list (Ty.pair Ty.str (Ty.int .i64)) L]]))) .no) .no) (.br (decide ((↑S.length : Int) < 16384)) (.br (fits (List.length L + 1) 24) (.br (decide (0 < (↑n.length : Int))) (.br (decide (0 ≤ IntKind.wrap .i64 (1 + IntKind.wrap .i64 (↑(UInt8.toNat (n.getD (Int.toNat 0) 0)) : Int))) && decide (IntKind.wrap .i64 (1 + IntKind.wrap .i64 (↑(UInt8.toNat (n.getD (Int.toNat 0) 0)) : Int)) ≤ (↑n.length : Int))) (.br (decide (0 ≤ 0) && decide (0 ≤ IntKind.wrap .i64 (1 + IntKind.wrap .i64 (↑(UInt8.toNat (n.getD (Int.toNat 0) 0)) : Int)))) (.br (Nat.ble (List.length S + List.length (List.take (Int.toNat (IntKind.wrap .i64 (1 + IntKind.wrap .i64 (↑(UInt8.toNat (n.getD (Int.toNat 0) 0)) : Int))) - Int.toNat 0) (List.drop (Int.toNat 0) n))) 9223372036854775807) (.br (decide (0 ≤ (↑n.length : Int)) && decide ((↑n.length : Int) ≤ (↑n.length : Int))) (.br (decide (0 ≤ IntKind.wrap .i64 (1 + IntKind.wrap .i64 (↑(UInt8.toNat (n.getD (Int.toNat 0) 0)) : Int))) && decide (IntKind.wrap .i64 (1 + IntKind.wrap .i64 (↑(UInt8.toNat (n.getD (Int.toNat 0) 0)) : Int)) ≤ (↑n.length : Int))) (.ret (.inl (stOf [1, 4, 6] [.str (List.take (Int.toNat (↑n.length : Int) - Int.toNat (IntKind.wrap .i64 (1 + IntKind.wrap .i64 (↑(UInt8.toNat (n.getD (Int.toNat 0) 0)) : Int)))) (List.drop (Int.toNat (IntKind.wrap .i64 (1 + IntKind.wrap .i64 (↑(UInt8.toNat (n.getD (Int.toNat 0) 0)) : Int)))) n)), .ptr 0 0, .ptr 2 0] [.boxT none [.str S0, .rowA 1], .row (Ty.pair Ty.str (Ty.int .i64)) L0, .boxT none [.str (S ++ List.take (Int.toNat (IntKind.wrap .i64 (1 + IntKind.wrap .i64 (↑(UInt8.toNat (n.getD (Int.toNat 0) 0)) : Int))) - Int.toNat 0) (List.drop (Int.toNat 0) n)), .rowA 3], .row (Ty.pair Ty.str (Ty.int .i64)) (L ++ [(n, (↑S.length : Int))])]))) .no) .no) .no) .no) .no) .no) .no) (.br (decide (0 < (↑n.length : Int))) (.br (decide (0 ≤ IntKind.wrap .i64 (1 + IntKind.wrap .i64 (↑(UInt8.toNat (n.getD (Int.toNat 0) 0)) : Int))) && decide (IntKind.wrap .i64 (1 + IntKind.wrap .i64 (↑(UInt8.toNat (n.getD (Int.toNat 0) 0)) : Int)) ≤ (↑n.length : Int))) (.br (decide (0 ≤ 0) && decide (0 ≤ IntKind.wrap .i64 (1 + IntKind.wrap .i64 (↑(UInt8.toNat (n.getD (Int.toNat 0) 0)) : Int)))) (.br (Nat.ble (List.length S + List.length (List.take (Int.toNat (IntKind.wrap .i64 (1 + IntKind.wrap .i64 (↑(UInt8.toNat (n.getD (Int.toNat 0) 0)) : Int))) - Int.toNat 0) (List.drop (Int.toNat 0) n))) 9223372036854775807) (.br (decide (0 ≤ (↑n.length : Int)) && decide ((↑n.length : Int) ≤ (↑n.length : Int))) (.br (decide (0 ≤ IntKind.wrap .i64 (1 + IntKind.wrap .i64 (↑(UInt8.toNat (n.getD (Int.toNat 0) 0)) : Int))) && decide (IntKind.wrap .i64 (1 + IntKind.wrap .i64 (↑(UInt8.toNat (n.getD (Int.toNat 0) 0)) : Int)) ≤ (↑n.length : Int))) (.ret (.inl (stOf [1, 4, 6] [.str (List.take (Int.toNat (↑n.length : Int) - Int.toNat (IntKind.wrap .i64 (1 + IntKind.wrap .i64 (↑(UInt8.toNat (n.getD (Int.toNat 0) 0)) : Int)))) (List.drop (Int.toNat (IntKind.wrap .i64 (1 + IntKind.wrap .i64 (↑(UInt8.toNat (n.getD (Int.toNat 0) 0)) : Int)))) n)), .ptr 0 0, .ptr 2 0] [.boxT none [.str S0, .rowA 1], .row (Ty.pair Ty.str (Ty.int .i64)) L0, .boxT none [.str (S ++ List.take (Int.toNat (IntKind.wrap .i64 (1 + IntKind.wrap .i64 (↑(UInt8.toNat (n.getD (Int.toNat 0) 0)) : Int))) - Int.toNat 0) (List.drop (Int.toNat 0) n)), .rowA 3], .row (Ty.pair Ty.str (Ty.int .i64)) L]))) .no) .no) .no) .no) .no) .no))) .no) (.ret (.inr (.exit 0, stOf [4, 5, 6] [.ptr 0 0, .dead, .ptr 2 0] [.boxT none [.str S0, .rowA 1], .row (Ty.pair Ty.str (Ty.int .i64)) L0, .boxT none [.str S, .rowA 3], .row (Ty.pair Ty.str (Ty.int .i64)) L])))
theorem round62 (lp : Lp) (n S0 : List UInt8) (L0 : List (List UInt8 × Int)) (S : List UInt8) (L : List (List UInt8 × Int)) : evC T0 (orcB [fs75v, fs99w, fs63, fs64w] []) lp b62 0 (stOf [1, 4, 6] [.str n, .ptr 0 0, .ptr 2 0] [.box [.str S0, .rowA 1], .row (.pair .str (.int .i64)) L0, .box [.str S, .rowA 3], .row (.pair .str (.int .i64)) L]) (roundK [1, 4, 6] [4, 5, 6] 0) = (r62 n S0 L0 S L).get := by kernel_rfl
theorem wf62 (S0 : List UInt8) (L0 : List (List UInt8 × Int)) (I'' : List UInt8 → List UInt8 → List (List UInt8 × Int) → Prop) (m'' : List UInt8 → List UInt8 → List (List UInt8 × Int) → Nat) (r'' : Ex × St) (h : ∀ (n S : List UInt8) (L : List (List UInt8 × Int)), I'' n S L → (r62 n S0 L0 S L).all fun x'' => x'' = .inr r'' ∨ ∃ (n' S' : List UInt8) (L' : List (List UInt8 × Int)), x'' = .inl (stOf [1, 4, 6] [.str n', .ptr 0 0, .ptr 2 0] [.box [.str S0, .rowA 1], .row (.pair .str (.int .i64)) L0, .box [.str S', .rowA 3], .row (.pair .str (.int .i64)) L']) ∧ I'' n' S' L' ∧ m'' n' S' L' < m'' n S L) (lp : Lp) (n S : List UInt8) (L : List (List UInt8 × Int)) : I'' n S L →
    loopF (fun st => evC T0 (orcB [fs75v, fs99w, fs63, fs64w] []) lp b62 0 st (roundK [1, 4, 6] [4, 5, 6] 0)) (stOf [1, 4, 6] [.str n, .ptr 0 0, .ptr 2 0] [.box [.str S0, .rowA 1], .row (.pair .str (.int .i64)) L0, .box [.str S, .rowA 3], .row (.pair .str (.int .i64)) L]) = some r'' :=
 loop_tr (fun a'' : List UInt8 × List UInt8 × List (List UInt8 × Int) => stOf [1, 4, 6] [.str a''.1, .ptr 0 0, .ptr 2 0] [.box [.str S0, .rowA 1], .row (.pair .str (.int .i64)) L0, .box [.str a''.2.1, .rowA 3], .row (.pair .str (.int .i64)) a''.2.2]) (fun a'' => I'' a''.1 a''.2.1 a''.2.2) (fun a'' => m'' a''.1 a''.2.1 a''.2.2) r'' (fun a'' => r62 a''.1 S0 L0 a''.2.1 a''.2.2)
  (fun a'' x hx => (round62 lp a''.1 S0 L0 a''.2.1 a''.2.2).trans hx) (fun a'' ha => Tr.all_mono (fun x'' hx => hx.imp id fun ⟨n', S', L', h1, h2, h3⟩ => ⟨(n', S', L'), h1, h2, h3⟩) (h (a''.1) (a''.2.1) (a''.2.2) ha)) (n, S, L)
def rnI (n S : List UInt8) (L : Known) (n' S' : List UInt8) (L' : Known) : Prop := rootV n' = true ∧ kOk L' = true ∧ S'.length + n'.length ≤ 100000000000 ∧ L'.length + n'.length ≤ 100000000000 ∧ nameL n' S' L' = nameL n S L
theorem loop62 : ls62.Ok T0 (orcB [fs75v, fs99w, fs63, fs64w] []) h62 0 0 b62 := by
 intro q'' hq'' x'' y'' r'' h
 obtain ⟨(n : List UInt8), _⟩ := x''
 obtain ⟨⟨(S0 : List UInt8), _⟩, (L0 : List (List UInt8 × Int)), ⟨(S : List UInt8), _⟩, (L : List (List UInt8 × Int)), _⟩ := y''
 obtain ⟨hc, rfl⟩ := Tr.get_on2 h
 show loopF (fun st => evC T0 (orcB [fs75v, fs99w, fs63, fs64w] []) (lpN T0 (orcB [fs75v, fs99w, fs63, fs64w] []) h62 0 q'') b62 0 st (roundK [1, 4, 6] [4, 5, 6] 0)) (stOf [1, 4, 6] [.str n, .ptr 0 0, .ptr 2 0] [.box [.str S0, .rowA 1], .row (.pair .str (.int .i64)) L0, .box [.str S, .rowA 3], .row (.pair .str (.int .i64)) L]) = some ((bif (nameL n S L).1.isSome then (.ret, [.ptr 0 0, .int .i64 0, .ptr 1 0], [.box [.str ((nameL n S L).2.2.1 ++ put16 (49152 + (nameL n S L).1.getD 0)), .list (.pair .str (.int .i64)) (nameL n S L).2.2.2], .box [.str (nameL n S L).2.2.1, .list (.pair .str (.int .i64)) (nameL n S L).2.2.2]]) else (.exit 0, [.ptr 0 0, .dead, .ptr 2 0], [.box [.str S0, .rowA 1], .row (.pair .str (.int .i64)) L0, .box [.str (nameL n S L).2.2.1, .rowA 3], .row (.pair .str (.int .i64)) (nameL n S L).2.2.2]) : Ex × List AV × List LObj).1, stOf [4, 5, 6] (bif (nameL n S L).1.isSome then (.ret, [.ptr 0 0, .int .i64 0, .ptr 1 0], [.box [.str ((nameL n S L).2.2.1 ++ put16 (49152 + (nameL n S L).1.getD 0)), .list (.pair .str (.int .i64)) (nameL n S L).2.2.2], .box [.str (nameL n S L).2.2.1, .list (.pair .str (.int .i64)) (nameL n S L).2.2.2]]) else (.exit 0, [.ptr 0 0, .dead, .ptr 2 0], [.box [.str S0, .rowA 1], .row (.pair .str (.int .i64)) L0, .box [.str (nameL n S L).2.2.1, .rowA 3], .row (.pair .str (.int .i64)) (nameL n S L).2.2.2]) : Ex × List AV × List LObj).2.1 (bif (nameL n S L).1.isSome then (.ret, [.ptr 0 0, .int .i64 0, .ptr 1 0], [.box [.str ((nameL n S L).2.2.1 ++ put16 (49152 + (nameL n S L).1.getD 0)), .list (.pair .str (.int .i64)) (nameL n S L).2.2.2], .box [.str (nameL n S L).2.2.1, .list (.pair .str (.int .i64)) (nameL n S L).2.2.2]]) else (.exit 0, [.ptr 0 0, .dead, .ptr 2 0], [.box [.str S0, .rowA 1], .row (.pair .str (.int .i64)) L0, .box [.str (nameL n S L).2.2.1, .rowA 3], .row (.pair .str (.int .i64)) (nameL n S L).2.2.2]) : Ex × List AV × List LObj).2.2)
 simp only [rnC, Bool.and_eq_true] at hc
 obtain ⟨hr, hk, hb, hb2⟩ := hc
 have hb := Nat.le_of_ble_eq_true hb
 have hb2 := Nat.le_of_ble_eq_true hb2
 refine wf62 S0 L0 (rnI n S L) (fun n _ _ => n.length) _ ?_ _ n S L ⟨hr, hk, hb, hb2, rfl⟩
 clear hr hk hb hb2
 rintro n S L ⟨hr, hk, hb, hb2, he⟩
 rw [← he]
 unfold r62
 have hkl : kLen L = true := Nat.ble_eq_true_of_le (by omega)
 rcases root_cases hr with rfl | ⟨hn0, hn1, hlt, h63, hne, hrt⟩
 · rw [nameL_root]
   exact Tr.all_f (by simp) (Tr.all_ret (.inl rfl))
 · refine Tr.all_t (by simpa using hn0) (Tr.all_t hkl ?_)
   cases hlk : lookK n L with
   | some a =>
     obtain ⟨ha0, ha1⟩ := kOk_look hk hlk
     rw [nameL_known hn0 hlk]
     have hw : IntKind.wrap .u16 (IntKind.wrap .i64 ((49152 : Int) + a)) = 49152 + a := by
      rw [IntWalk.i64_in _ (by omega), IntWalk.u16_in _ (by omega)]
     simp only [Option.getD_some, hw]
     exact Tr.all_t (dec_true (by omega)) (Tr.all_t (by simp [n16C]; omega) (Tr.all_t (Nat.ble_eq_true_of_le (by rw [put16_len]; omega)) (Tr.all_ret (.inl rfl))))
   | none =>
     rw [nameL_next hn0 hn1 hlk]
     simp only [szW, hdW, tlW, Option.getD_none]
     have hl := hdN_len (n := n) (by omega)
     have hl2 := tlN_len n
     have hm : (tlN n).length < n.length := tlN_lt hn1
     refine Tr.all_f (by decide) (Tr.all_br (fun c1 => ?_) fun c1 => ?_)
     · simp only [decide_eq_true_eq] at c1
       refine Tr.all_t (fits_true (by omega) (by omega)) (Tr.all_t (dec_true (by omega)) (Tr.all_t (by rw [dec_true (by omega), dec_true (by omega)]; rfl) (Tr.all_t (by rw [dec_true (by omega), dec_true (by omega)]; rfl) (Tr.all_t (Nat.ble_eq_true_of_le (by omega)) (Tr.all_t (by rw [dec_true (by omega), dec_true (by omega)]; rfl) (Tr.all_t (by rw [dec_true (by omega), dec_true (by omega)]; rfl) (Tr.all_ret (.inr ⟨_, _, _, rfl, ⟨hrt, kOk_add hk (by omega), by rw [List.length_append]; omega, by simp; omega, ?_⟩, hm⟩))))))))
       rw [← he, nameL_next hn0 hn1 hlk, if_pos (by omega)]
     · simp only [decide_eq_false_iff_not] at c1
       refine Tr.all_t (dec_true (by omega)) (Tr.all_t (by rw [dec_true (by omega), dec_true (by omega)]; rfl) (Tr.all_t (by rw [dec_true (by omega), dec_true (by omega)]; rfl) (Tr.all_t (Nat.ble_eq_true_of_le (by omega)) (Tr.all_t (by rw [dec_true (by omega), dec_true (by omega)]; rfl) (Tr.all_t (by rw [dec_true (by omega), dec_true (by omega)]; rfl) (Tr.all_ret (.inr ⟨_, _, _, rfl, ⟨hrt, hk, by rw [List.length_append]; omega, by omega, ?_⟩, hm⟩)))))))
       rw [← he, nameL_next hn0 hn1 hlk, if_neg (by omega)]
def t62 (p : (List UInt8 × List (List UInt8 × Int))) (n : List UInt8) : Tr Res := .br (bigS n) (.br (!mayV n) (.ret ([.agg [.str p.1, .list (Ty.pair Ty.str (Ty.int .i64)) p.2], .int .i64 1], [])) (.br (fits (0 + List.length p.2) 24) (.br (rnC n [] [] p.1 ([] ++ p.2)) (.br (Option.isSome (nameL n p.1 ([] ++ p.2)).1) (.ret ([.agg [.str ((nameL n p.1 ([] ++ p.2)).2.2.1 ++ put16 (49152 + Option.getD (nameL n p.1 ([] ++ p.2)).1 0)), .list (Ty.pair Ty.str (Ty.int .i64)) (nameL n p.1 ([] ++ p.2)).2.2.2], .int .i64 0], [])) (.br (Nat.ble (List.length (nameL n p.1 ([] ++ p.2)).2.2.1 + List.length ([0])) 9223372036854775807) (.ret ([.agg [.str ((nameL n p.1 ([] ++ p.2)).2.2.1 ++ [0]), .list (Ty.pair Ty.str (Ty.int .i64)) (nameL n p.1 ([] ++ p.2)).2.2.2], .int .i64 0], [])) .no)) .no) .no)) .no
def os62 : OSpec := { f := 62, sh := [.d (.pair .str (.list (.pair .str (.int .i64)))) true, .d .str false], so := [], F := fun (p, n, _) _ => t62 p n }
theorem fn62 (p : (List UInt8 × List (List UInt8 × Int))) (n : List UInt8) : evC T0 (orcB [fs75v, fs99w, fs63, fs64w] []) (lpOf h62 0 (lsOf [ls62])) c62 1000000 (startSt [AV.ofTy (.pair .str (.list (.pair .str (.int .i64)))) p true, .str n] [] Try.f62.ntmps) (finishK T0 false 0 Try.f62) = (t62 p n).get := by kernel_rfl
theorem ok62 : os62.Ok Try.prog := by
 refine os_ok mixed0 tab0 (orcB_sound (all_cons okf75v (all_cons okf99w (all_cons okf63 (all_cons okf64w all_nil)))) all_nil) h62 (d := 0) (n0 := 0) (S := lsOf [ls62]) Try.func62 (by kernel_rfl) (c := c62) (by kernel_rfl) rfl (loops_eq (xs := [(0, b62)]) (by kernel_rfl) (all_cons (ls_here loop62) all_nil)) (by omega) (by kernel_rfl) ?_
 intro x'' y'' q'' hq''
 obtain ⟨(p : (List UInt8 × List (List UInt8 × Int))), (n : List UInt8), _⟩ := x''
 exact (fn62 p n).trans hq''
def fs62 : FSpec := fsT 62 [((.pair .str (.list (.pair .str (.int .i64)))), true), (.str, false)] [((.pair .str (.list (.pair .str (.int .i64)))), true), ((.int .i64), false)] fun (p, n, _) => t62 p n
theorem okf62 : fs62.Ok Try.prog := fsT_ok fun x'' r'' hr'' => ok62 x'' () r'' hr''
def nmOk (p : List UInt8 × Known) (n : List UInt8) : Bool := bigS n && (kOk p.2 && (Nat.ble p.1.length 10000000000 && Nat.ble p.2.length 10000000000))
def fs62w : FSpec := fs62.like fun (p, n, _) => .br (nmOk p n) (.br (mayV n) (.ret (nameP n p.1 p.2, (0 : Int), ())) (.ret (p, (1 : Int), ()))) .no
theorem okf62w : fs62w.Ok Try.prog := by
 refine flike_ok okf62 _ ?_
 rintro ⟨(p : List UInt8 × Known), (n : List UInt8), _⟩ y h
 simp only [Tr.get] at h
 cases hc : nmOk p n with
 | false => rw [hc] at h; cases h
 | true =>
   rw [hc, cond_true] at h
   simp only [nmOk, Bool.and_eq_true] at hc
   obtain ⟨hbn, hk, h1, h2⟩ := hc
   have h1 := Nat.le_of_ble_eq_true h1
   have h2 := Nat.le_of_ble_eq_true h2
   obtain ⟨S, L⟩ := p
   simp only at hk h1 h2
   cases hm : mayV n with
   | false =>
     rw [hm, cond_false] at h
     cases h
     refine convR_of (vs := [AV.agg [.str S, .list (.pair .str (.int .i64)) L], .int .i64 1]) rfl rfl (Tr.get_of_all ?_)
     show (t62 (S, L) n).all _
     unfold t62
     rw [hm]
     exact Tr.all_t hbn (Tr.all_t rfl (Tr.all_ret rfl))
   | true =>
     rw [hm, cond_true] at h
     cases h
     refine convR_of (vs := [AV.agg [.str (nameP n S L).1, .list (.pair .str (.int .i64)) (nameP n S L).2], .int .i64 0]) rfl rfl (Tr.get_of_all ?_)
     show (t62 (S, L) n).all _
     unfold t62
     obtain ⟨r1, r2⟩ := show rootV n = true ∧ n.length ≤ 255 by simp only [mayV, Bool.and_eq_true] at hm; exact ⟨hm.1, Nat.le_of_ble_eq_true hm.2.1⟩
     obtain ⟨f1, f2, f3, f4, f5, f6⟩ := nameL_facts _ n S L rfl r1
     rw [hm, List.nil_append]
     have hrn : rnC n [] [] S L = true := by unfold rnC; rw [r1, hk, Nat.ble_eq_true_of_le (by omega), Nat.ble_eq_true_of_le (by omega)]; rfl
     refine Tr.all_t hbn (Tr.all_f rfl (Tr.all_t (fits_true (show (0 + L.length) * 24 ≤ _ by omega) (show 0 + L.length ≤ _ by omega)) (Tr.all_t hrn ?_)))
     unfold nameP
     cases hl : (nameL n S L).1 with
     | none => exact Tr.all_f rfl (Tr.all_t (Nat.ble_eq_true_of_le (by simp; omega)) (Tr.all_ret rfl))
     | some a => exact Tr.all_t rfl (Tr.all_ret rfl)
def TN : Tab := { T0 with nild := true }
theorem tabN : TabOk Try.prog TN := tab_nild tab0 _ _
def t70 (p : (List UInt8 × List (List UInt8 × Int))) (k : Int) (d : List UInt8) : Tr Res := .br (bigS d) (.br (!mayR k d) (.ret ([.agg [.str p.1, .list (Ty.pair Ty.str (Ty.int .i64)) p.2], .int .i64 1], [])) (.br (k == 2) (.br (nmOk p d) (.br (mayV d) (.ret ([.agg [.str (nameP d p.1 p.2).1, .list (Ty.pair Ty.str (Ty.int .i64)) (nameP d p.1 p.2).2], .int .i64 0], [])) (.ret ([.agg [.str p.1, .list (Ty.pair Ty.str (Ty.int .i64)) p.2], .int .i64 0], []))) .no) (.br (k == 5) (.br (nmOk p d) (.br (mayV d) (.ret ([.agg [.str (nameP d p.1 p.2).1, .list (Ty.pair Ty.str (Ty.int .i64)) (nameP d p.1 p.2).2], .int .i64 0], [])) (.ret ([.agg [.str p.1, .list (Ty.pair Ty.str (Ty.int .i64)) p.2], .int .i64 0], []))) .no) (.br (k == 12) (.br (nmOk p d) (.br (mayV d) (.ret ([.agg [.str (nameP d p.1 p.2).1, .list (Ty.pair Ty.str (Ty.int .i64)) (nameP d p.1 p.2).2], .int .i64 0], [])) (.ret ([.agg [.str p.1, .list (Ty.pair Ty.str (Ty.int .i64)) p.2], .int .i64 0], []))) .no) (.br (k == 15) (.br (decide (0 ≤ 2) && decide (2 ≤ (↑d.length : Int))) (.br (Nat.ble (List.length p.1 + List.length (List.take (Int.toNat 2 - Int.toNat 0) (List.drop (Int.toNat 0) d))) 9223372036854775807) (.br (decide (0 ≤ (↑d.length : Int)) && decide ((↑d.length : Int) ≤ (↑d.length : Int))) (.br (decide (0 ≤ 2) && decide (2 ≤ (↑d.length : Int))) (.br (nmOk (p.1 ++ List.take (Int.toNat 2 - Int.toNat 0) (List.drop (Int.toNat 0) d), p.2) (List.take (Int.toNat (↑d.length : Int) - Int.toNat 2) (List.drop (Int.toNat 2) d))) (.br (mayV (List.take (Int.toNat (↑d.length : Int) - Int.toNat 2) (List.drop (Int.toNat 2) d))) (.ret ([.agg [.str (nameP (List.take (Int.toNat (↑d.length : Int) - Int.toNat 2) (List.drop (Int.toNat 2) d)) (p.1 ++ List.take (Int.toNat 2 - Int.toNat 0) (List.drop (Int.toNat 0) d)) p.2).1, .list (Ty.pair Ty.str (Ty.int .i64)) (nameP (List.take (Int.toNat (↑d.length : Int) - Int.toNat 2) (List.drop (Int.toNat 2) d)) (p.1 ++ List.take (Int.toNat 2 - Int.toNat 0) (List.drop (Int.toNat 0) d)) p.2).2], .int .i64 0], [])) (.ret ([.agg [.str (p.1 ++ List.take (Int.toNat 2 - Int.toNat 0) (List.drop (Int.toNat 0) d)), .list (Ty.pair Ty.str (Ty.int .i64)) p.2], .int .i64 0], []))) .no) .no) .no) .no) .no) (.br (k == 6) (.br (bigS d) (.br (decide (0 ≤ (↑d.length : Int)) && decide ((↑d.length : Int) ≤ (↑d.length : Int))) (.br (decide (0 ≤ (↑(wholeV d) : Int)) && decide ((↑(wholeV d) : Int) ≤ (↑d.length : Int))) (.br (bigS (List.take (Int.toNat (↑d.length : Int) - Int.toNat (↑(wholeV d) : Int)) (List.drop (Int.toNat (↑(wholeV d) : Int)) d))) (.br (decide (0 ≤ (↑(wholeV d) : Int)) && decide ((↑(wholeV d) : Int) ≤ (↑d.length : Int))) (.br (nmOk p (List.take (Int.toNat (↑(wholeV d) : Int) - Int.toNat 0) (List.drop (Int.toNat 0) d))) (.br (mayV (List.take (Int.toNat (↑(wholeV d) : Int) - Int.toNat 0) (List.drop (Int.toNat 0) d))) (.br (decide (0 ≤ IntKind.wrap .i64 ((↑(wholeV d) : Int) + (↑(wholeV (List.take (Int.toNat (↑d.length : Int) - Int.toNat (↑(wholeV d) : Int)) (List.drop (Int.toNat (↑(wholeV d) : Int)) d))) : Int))) && decide (IntKind.wrap .i64 ((↑(wholeV d) : Int) + (↑(wholeV (List.take (Int.toNat (↑d.length : Int) - Int.toNat (↑(wholeV d) : Int)) (List.drop (Int.toNat (↑(wholeV d) : Int)) d))) : Int)) ≤ (↑d.length : Int))) (.br (decide (0 ≤ (↑(wholeV d) : Int)) && decide ((↑(wholeV d) : Int) ≤ IntKind.wrap .i64 ((↑(wholeV d) : Int) + (↑(wholeV (List.take (Int.toNat (↑d.length : Int) - Int.toNat (↑(wholeV d) : Int)) (List.drop (Int.toNat (↑(wholeV d) : Int)) d))) : Int)))) (.br (nmOk (nameP (List.take (Int.toNat (↑(wholeV d) : Int) - Int.toNat 0) (List.drop (Int.toNat 0) d)) p.1 p.2) (List.take (Int.toNat (IntKind.wrap .i64 ((↑(wholeV d) : Int) + (↑(wholeV (List.take (Int.toNat (↑d.length : Int) - Int.toNat (↑(wholeV d) : Int)) (List.drop (Int.toNat (↑(wholeV d) : Int)) d))) : Int))) - Int.toNat (↑(wholeV d) : Int)) (List.drop (Int.toNat (↑(wholeV d) : Int)) d))) (.br (mayV (List.take (Int.toNat (IntKind.wrap .i64 ((↑(wholeV d) : Int) + (↑(wholeV (List.take (Int.toNat (↑d.length : Int) - Int.toNat (↑(wholeV d) : Int)) (List.drop (Int.toNat (↑(wholeV d) : Int)) d))) : Int))) - Int.toNat (↑(wholeV d) : Int)) (List.drop (Int.toNat (↑(wholeV d) : Int)) d))) (.br (decide (0 ≤ (↑d.length : Int)) && decide ((↑d.length : Int) ≤ (↑d.length : Int))) (.br (decide (0 ≤ IntKind.wrap .i64 ((↑(wholeV d) : Int) + (↑(wholeV (List.take (Int.toNat (↑d.length : Int) - Int.toNat (↑(wholeV d) : Int)) (List.drop (Int.toNat (↑(wholeV d) : Int)) d))) : Int))) && decide (IntKind.wrap .i64 ((↑(wholeV d) : Int) + (↑(wholeV (List.take (Int.toNat (↑d.length : Int) - Int.toNat (↑(wholeV d) : Int)) (List.drop (Int.toNat (↑(wholeV d) : Int)) d))) : Int)) ≤ (↑d.length : Int))) (.br (Nat.ble (List.length (nameP (List.take (Int.toNat (IntKind.wrap .i64 ((↑(wholeV d) : Int) + (↑(wholeV (List.take (Int.toNat (↑d.length : Int) - Int.toNat (↑(wholeV d) : Int)) (List.drop (Int.toNat (↑(wholeV d) : Int)) d))) : Int))) - Int.toNat (↑(wholeV d) : Int)) (List.drop (Int.toNat (↑(wholeV d) : Int)) d)) (nameP (List.take (Int.toNat (↑(wholeV d) : Int) - Int.toNat 0) (List.drop (Int.toNat 0) d)) p.1 p.2).1 (nameP (List.take (Int.toNat (↑(wholeV d) : Int) - Int.toNat 0) (List.drop (Int.toNat 0) d)) p.1 p.2).2).1 + List.length (List.take (Int.toNat (↑d.length : Int) - Int.toNat (IntKind.wrap .i64 ((↑(wholeV d) : Int) + (↑(wholeV (List.take (Int.toNat (↑d.length : Int) - Int.toNat (↑(wholeV d) : Int)) (List.drop (Int.toNat (↑(wholeV d) : Int)) d))) : Int)))) (List.drop (Int.toNat (IntKind.wrap .i64 ((↑(wholeV d) : Int) + (↑(wholeV (List.take (Int.toNat (↑d.length : Int) - Int.toNat (↑(wholeV d) : Int)) (List.drop (Int.toNat (↑(wholeV d) : Int)) d))) : Int)))) d))) 9223372036854775807) (.ret ([.agg [.str ((nameP (List.take (Int.toNat (IntKind.wrap .i64 ((↑(wholeV d) : Int) + (↑(wholeV (List.take (Int.toNat (↑d.length : Int) - Int.toNat (↑(wholeV d) : Int)) (List.drop (Int.toNat (↑(wholeV d) : Int)) d))) : Int))) - Int.toNat (↑(wholeV d) : Int)) (List.drop (Int.toNat (↑(wholeV d) : Int)) d)) (nameP (List.take (Int.toNat (↑(wholeV d) : Int) - Int.toNat 0) (List.drop (Int.toNat 0) d)) p.1 p.2).1 (nameP (List.take (Int.toNat (↑(wholeV d) : Int) - Int.toNat 0) (List.drop (Int.toNat 0) d)) p.1 p.2).2).1 ++ List.take (Int.toNat (↑d.length : Int) - Int.toNat (IntKind.wrap .i64 ((↑(wholeV d) : Int) + (↑(wholeV (List.take (Int.toNat (↑d.length : Int) - Int.toNat (↑(wholeV d) : Int)) (List.drop (Int.toNat (↑(wholeV d) : Int)) d))) : Int)))) (List.drop (Int.toNat (IntKind.wrap .i64 ((↑(wholeV d) : Int) + (↑(wholeV (List.take (Int.toNat (↑d.length : Int) - Int.toNat (↑(wholeV d) : Int)) (List.drop (Int.toNat (↑(wholeV d) : Int)) d))) : Int)))) d)), .list (Ty.pair Ty.str (Ty.int .i64)) (nameP (List.take (Int.toNat (IntKind.wrap .i64 ((↑(wholeV d) : Int) + (↑(wholeV (List.take (Int.toNat (↑d.length : Int) - Int.toNat (↑(wholeV d) : Int)) (List.drop (Int.toNat (↑(wholeV d) : Int)) d))) : Int))) - Int.toNat (↑(wholeV d) : Int)) (List.drop (Int.toNat (↑(wholeV d) : Int)) d)) (nameP (List.take (Int.toNat (↑(wholeV d) : Int) - Int.toNat 0) (List.drop (Int.toNat 0) d)) p.1 p.2).1 (nameP (List.take (Int.toNat (↑(wholeV d) : Int) - Int.toNat 0) (List.drop (Int.toNat 0) d)) p.1 p.2).2).2], .int .i64 0], [])) .no) .no) .no) (.br (decide (0 ≤ (↑d.length : Int)) && decide ((↑d.length : Int) ≤ (↑d.length : Int))) (.br (decide (0 ≤ IntKind.wrap .i64 ((↑(wholeV d) : Int) + (↑(wholeV (List.take (Int.toNat (↑d.length : Int) - Int.toNat (↑(wholeV d) : Int)) (List.drop (Int.toNat (↑(wholeV d) : Int)) d))) : Int))) && decide (IntKind.wrap .i64 ((↑(wholeV d) : Int) + (↑(wholeV (List.take (Int.toNat (↑d.length : Int) - Int.toNat (↑(wholeV d) : Int)) (List.drop (Int.toNat (↑(wholeV d) : Int)) d))) : Int)) ≤ (↑d.length : Int))) (.br (Nat.ble (List.length (nameP (List.take (Int.toNat (↑(wholeV d) : Int) - Int.toNat 0) (List.drop (Int.toNat 0) d)) p.1 p.2).1 + List.length (List.take (Int.toNat (↑d.length : Int) - Int.toNat (IntKind.wrap .i64 ((↑(wholeV d) : Int) + (↑(wholeV (List.take (Int.toNat (↑d.length : Int) - Int.toNat (↑(wholeV d) : Int)) (List.drop (Int.toNat (↑(wholeV d) : Int)) d))) : Int)))) (List.drop (Int.toNat (IntKind.wrap .i64 ((↑(wholeV d) : Int) + (↑(wholeV (List.take (Int.toNat (↑d.length : Int) - Int.toNat (↑(wholeV d) : Int)) (List.drop (Int.toNat (↑(wholeV d) : Int)) d))) : Int)))) d))) 9223372036854775807) (.ret ([.agg [.str ((nameP (List.take (Int.toNat (↑(wholeV d) : Int) - Int.toNat 0) (List.drop (Int.toNat 0) d)) p.1 p.2).1 ++ List.take (Int.toNat (↑d.length : Int) - Int.toNat (IntKind.wrap .i64 ((↑(wholeV d) : Int) + (↑(wholeV (List.take (Int.toNat (↑d.length : Int) - Int.toNat (↑(wholeV d) : Int)) (List.drop (Int.toNat (↑(wholeV d) : Int)) d))) : Int)))) (List.drop (Int.toNat (IntKind.wrap .i64 ((↑(wholeV d) : Int) + (↑(wholeV (List.take (Int.toNat (↑d.length : Int) - Int.toNat (↑(wholeV d) : Int)) (List.drop (Int.toNat (↑(wholeV d) : Int)) d))) : Int)))) d)), .list (Ty.pair Ty.str (Ty.int .i64)) (nameP (List.take (Int.toNat (↑(wholeV d) : Int) - Int.toNat 0) (List.drop (Int.toNat 0) d)) p.1 p.2).2], .int .i64 0], [])) .no) .no) .no)) .no) .no) .no) (.br (decide (0 ≤ IntKind.wrap .i64 ((↑(wholeV d) : Int) + (↑(wholeV (List.take (Int.toNat (↑d.length : Int) - Int.toNat (↑(wholeV d) : Int)) (List.drop (Int.toNat (↑(wholeV d) : Int)) d))) : Int))) && decide (IntKind.wrap .i64 ((↑(wholeV d) : Int) + (↑(wholeV (List.take (Int.toNat (↑d.length : Int) - Int.toNat (↑(wholeV d) : Int)) (List.drop (Int.toNat (↑(wholeV d) : Int)) d))) : Int)) ≤ (↑d.length : Int))) (.br (decide (0 ≤ (↑(wholeV d) : Int)) && decide ((↑(wholeV d) : Int) ≤ IntKind.wrap .i64 ((↑(wholeV d) : Int) + (↑(wholeV (List.take (Int.toNat (↑d.length : Int) - Int.toNat (↑(wholeV d) : Int)) (List.drop (Int.toNat (↑(wholeV d) : Int)) d))) : Int)))) (.br (nmOk p (List.take (Int.toNat (IntKind.wrap .i64 ((↑(wholeV d) : Int) + (↑(wholeV (List.take (Int.toNat (↑d.length : Int) - Int.toNat (↑(wholeV d) : Int)) (List.drop (Int.toNat (↑(wholeV d) : Int)) d))) : Int))) - Int.toNat (↑(wholeV d) : Int)) (List.drop (Int.toNat (↑(wholeV d) : Int)) d))) (.br (mayV (List.take (Int.toNat (IntKind.wrap .i64 ((↑(wholeV d) : Int) + (↑(wholeV (List.take (Int.toNat (↑d.length : Int) - Int.toNat (↑(wholeV d) : Int)) (List.drop (Int.toNat (↑(wholeV d) : Int)) d))) : Int))) - Int.toNat (↑(wholeV d) : Int)) (List.drop (Int.toNat (↑(wholeV d) : Int)) d))) (.br (decide (0 ≤ (↑d.length : Int)) && decide ((↑d.length : Int) ≤ (↑d.length : Int))) (.br (decide (0 ≤ IntKind.wrap .i64 ((↑(wholeV d) : Int) + (↑(wholeV (List.take (Int.toNat (↑d.length : Int) - Int.toNat (↑(wholeV d) : Int)) (List.drop (Int.toNat (↑(wholeV d) : Int)) d))) : Int))) && decide (IntKind.wrap .i64 ((↑(wholeV d) : Int) + (↑(wholeV (List.take (Int.toNat (↑d.length : Int) - Int.toNat (↑(wholeV d) : Int)) (List.drop (Int.toNat (↑(wholeV d) : Int)) d))) : Int)) ≤ (↑d.length : Int))) (.br (Nat.ble (List.length (nameP (List.take (Int.toNat (IntKind.wrap .i64 ((↑(wholeV d) : Int) + (↑(wholeV (List.take (Int.toNat (↑d.length : Int) - Int.toNat (↑(wholeV d) : Int)) (List.drop (Int.toNat (↑(wholeV d) : Int)) d))) : Int))) - Int.toNat (↑(wholeV d) : Int)) (List.drop (Int.toNat (↑(wholeV d) : Int)) d)) p.1 p.2).1 + List.length (List.take (Int.toNat (↑d.length : Int) - Int.toNat (IntKind.wrap .i64 ((↑(wholeV d) : Int) + (↑(wholeV (List.take (Int.toNat (↑d.length : Int) - Int.toNat (↑(wholeV d) : Int)) (List.drop (Int.toNat (↑(wholeV d) : Int)) d))) : Int)))) (List.drop (Int.toNat (IntKind.wrap .i64 ((↑(wholeV d) : Int) + (↑(wholeV (List.take (Int.toNat (↑d.length : Int) - Int.toNat (↑(wholeV d) : Int)) (List.drop (Int.toNat (↑(wholeV d) : Int)) d))) : Int)))) d))) 9223372036854775807) (.ret ([.agg [.str ((nameP (List.take (Int.toNat (IntKind.wrap .i64 ((↑(wholeV d) : Int) + (↑(wholeV (List.take (Int.toNat (↑d.length : Int) - Int.toNat (↑(wholeV d) : Int)) (List.drop (Int.toNat (↑(wholeV d) : Int)) d))) : Int))) - Int.toNat (↑(wholeV d) : Int)) (List.drop (Int.toNat (↑(wholeV d) : Int)) d)) p.1 p.2).1 ++ List.take (Int.toNat (↑d.length : Int) - Int.toNat (IntKind.wrap .i64 ((↑(wholeV d) : Int) + (↑(wholeV (List.take (Int.toNat (↑d.length : Int) - Int.toNat (↑(wholeV d) : Int)) (List.drop (Int.toNat (↑(wholeV d) : Int)) d))) : Int)))) (List.drop (Int.toNat (IntKind.wrap .i64 ((↑(wholeV d) : Int) + (↑(wholeV (List.take (Int.toNat (↑d.length : Int) - Int.toNat (↑(wholeV d) : Int)) (List.drop (Int.toNat (↑(wholeV d) : Int)) d))) : Int)))) d)), .list (Ty.pair Ty.str (Ty.int .i64)) (nameP (List.take (Int.toNat (IntKind.wrap .i64 ((↑(wholeV d) : Int) + (↑(wholeV (List.take (Int.toNat (↑d.length : Int) - Int.toNat (↑(wholeV d) : Int)) (List.drop (Int.toNat (↑(wholeV d) : Int)) d))) : Int))) - Int.toNat (↑(wholeV d) : Int)) (List.drop (Int.toNat (↑(wholeV d) : Int)) d)) p.1 p.2).2], .int .i64 0], [])) .no) .no) .no) (.br (decide (0 ≤ (↑d.length : Int)) && decide ((↑d.length : Int) ≤ (↑d.length : Int))) (.br (decide (0 ≤ IntKind.wrap .i64 ((↑(wholeV d) : Int) + (↑(wholeV (List.take (Int.toNat (↑d.length : Int) - Int.toNat (↑(wholeV d) : Int)) (List.drop (Int.toNat (↑(wholeV d) : Int)) d))) : Int))) && decide (IntKind.wrap .i64 ((↑(wholeV d) : Int) + (↑(wholeV (List.take (Int.toNat (↑d.length : Int) - Int.toNat (↑(wholeV d) : Int)) (List.drop (Int.toNat (↑(wholeV d) : Int)) d))) : Int)) ≤ (↑d.length : Int))) (.br (Nat.ble (List.length p.1 + List.length (List.take (Int.toNat (↑d.length : Int) - Int.toNat (IntKind.wrap .i64 ((↑(wholeV d) : Int) + (↑(wholeV (List.take (Int.toNat (↑d.length : Int) - Int.toNat (↑(wholeV d) : Int)) (List.drop (Int.toNat (↑(wholeV d) : Int)) d))) : Int)))) (List.drop (Int.toNat (IntKind.wrap .i64 ((↑(wholeV d) : Int) + (↑(wholeV (List.take (Int.toNat (↑d.length : Int) - Int.toNat (↑(wholeV d) : Int)) (List.drop (Int.toNat (↑(wholeV d) : Int)) d))) : Int)))) d))) 9223372036854775807) (.ret ([.agg [.str (p.1 ++ List.take (Int.toNat (↑d.length : Int) - Int.toNat (IntKind.wrap .i64 ((↑(wholeV d) : Int) + (↑(wholeV (List.take (Int.toNat (↑d.length : Int) - Int.toNat (↑(wholeV d) : Int)) (List.drop (Int.toNat (↑(wholeV d) : Int)) d))) : Int)))) (List.drop (Int.toNat (IntKind.wrap .i64 ((↑(wholeV d) : Int) + (↑(wholeV (List.take (Int.toNat (↑d.length : Int) - Int.toNat (↑(wholeV d) : Int)) (List.drop (Int.toNat (↑(wholeV d) : Int)) d))) : Int)))) d)), .list (Ty.pair Ty.str (Ty.int .i64)) p.2], .int .i64 0], [])) .no) .no) .no)) .no) .no) .no)) .no) .no) .no) .no) .no) .no) (.br (Nat.ble (List.length p.1 + List.length d) 9223372036854775807) (.ret ([.agg [.str (p.1 ++ d), .list (Ty.pair Ty.str (Ty.int .i64)) p.2], .int .i64 0], [])) .no))))))) .no
def os70 : OSpec := { f := 70, sh := [.d (.pair .str (.list (.pair .str (.int .i64)))) true, .d (.int .u16) false, .d .str false], so := [], F := fun (p, k, d, _) _ => t70 p k d }
theorem fn70 (p : (List UInt8 × List (List UInt8 × Int))) (k : Int) (d : List UInt8) : evC TN (orcB [fs76w, fs100w, fs62w, fs63] []) (lpOf h70 0 (lsOf [])) c70 1000000 (startSt [AV.ofTy (.pair .str (.list (.pair .str (.int .i64)))) p true, .int .u16 k, .str d] [] Try.f70.ntmps) (finishK TN false 0 Try.f70) = (t70 p k d).get := by kernel_rfl
theorem ok70 : os70.Ok Try.prog := by
 refine os_ok mixed0 tabN (orcB_sound (all_cons okf76w (all_cons okf100w (all_cons okf62w (all_cons okf63 all_nil)))) all_nil) h70 (d := 0) (n0 := 0) (S := lsOf []) Try.func70 (by kernel_rfl) (c := c70) (by kernel_rfl) rfl (no_loops (by kernel_rfl)) (by omega) (by kernel_rfl) ?_
 intro x'' y'' q'' hq''
 obtain ⟨(p : (List UInt8 × List (List UInt8 × Int))), (k : Int), (d : List UInt8), _⟩ := x''
 exact (fn70 p k d).trans hq''
def fs70 : FSpec := fsT 70 [((.pair .str (.list (.pair .str (.int .i64)))), true), ((.int .u16), false), (.str, false)] [((.pair .str (.list (.pair .str (.int .i64)))), true), ((.int .i64), false)] fun (p, k, d, _) => t70 p k d
theorem okf70 : fs70.Ok Try.prog := fsT_ok fun x'' r'' hr'' => ok70 x'' () r'' hr''
theorem parts_SOA {d : List UInt8} (h : mayR 6 d = true) : partsV 6 d = [d.take (wholeV d), (d.drop (wholeV d)).take (wholeV (d.drop (wholeV d))), (d.drop (wholeV d)).drop (wholeV (d.drop (wholeV d)))] := by
 rw [may_SOA, Bool.and_eq_true, Bool.and_eq_true, Bool.and_eq_true, decide_eq_true_eq] at h
 obtain ⟨⟨h0, h1, h2⟩, _⟩ := h
 obtain ⟨e1, e2⟩ := okP_name d
 obtain ⟨e3, e4⟩ := okP_name (d.drop (wholeV d))
 obtain ⟨e5, e6⟩ := okP_fix (x := 20) (by omega) ((d.drop (wholeV d)).drop (wholeV (d.drop (wholeV d))))
 unfold partsV
 rw [show layV 6 = [-1, -1, 20] from rfl, cutS, e2, e1, if_pos h0, Int.toNat_natCast, cutS, e4, e3, if_pos h1, Int.toNat_natCast, cutS, e6, e5, if_pos (by rw [h2]; rfl), show (20 : Int).toNat = 20 from rfl, List.take_of_length_le (show ((d.drop (wholeV d)).drop (wholeV (d.drop (wholeV d)))).length ≤ 20 by omega)]
 rfl
theorem tk_end (d : List UInt8) (a : Nat) : List.take (Int.toNat (d.length : Int) - Int.toNat (a : Int)) (List.drop (Int.toNat (a : Int)) d) = d.drop a := by
 simp only [Int.toNat_natCast]
 exact List.take_of_length_le (by rw [List.length_drop]; omega)
theorem tk_end2 (d : List UInt8) (a b : Nat) : List.take (Int.toNat (d.length : Int) - Int.toNat ((a : Int) + (b : Int))) (List.drop (Int.toNat ((a : Int) + (b : Int))) d) = (d.drop a).drop b := by
 rw [show Int.toNat ((a : Int) + (b : Int)) = a + b by omega, List.drop_drop]
 exact List.take_of_length_le (by rw [List.length_drop]; omega)
theorem tk_mid (d : List UInt8) (a b : Nat) : List.take (Int.toNat ((a : Int) + (b : Int)) - Int.toNat (a : Int)) (List.drop (Int.toNat (a : Int)) d) = (d.drop a).take b := by
 rw [show Int.toNat ((a : Int) + (b : Int)) - Int.toNat (a : Int) = b by omega, Int.toNat_natCast]
theorem tk_beg (d : List UInt8) (a : Nat) : List.take (Int.toNat (a : Int) - Int.toNat (0 : Int)) (List.drop (Int.toNat (0 : Int)) d) = d.take a := by
 rw [show Int.toNat (a : Int) - Int.toNat (0 : Int) = a by omega, show Int.toNat (0 : Int) = 0 from rfl, List.drop_zero]
def ptOk (p : PKt) (d : List UInt8) : Bool := bigS d && (kOk p.2 && (Nat.ble p.1.length 1000000000 && Nat.ble p.2.length 1000000000))
theorem nmOk_of {p : PKt} {n : List UInt8} (hn : n.length ≤ 70000) (hk : kOk p.2 = true) (h1 : p.1.length ≤ 10000000000) (h2 : p.2.length ≤ 10000000000) : nmOk p n = true := by
 unfold nmOk
 rw [hk, show bigS n = true by simp [bigS]; omega, Nat.ble_eq_true_of_le h1, Nat.ble_eq_true_of_le h2]
 rfl
theorem nameP_k {p : PKt} {n : List UInt8} (hm : mayV n = true) (hk : kOk p.2 = true) : kOk (nameP n p.1 p.2).2 = true ∧ (nameP n p.1 p.2).1.length ≤ p.1.length + n.length ∧ (nameP n p.1 p.2).2.length ≤ p.2.length + n.length := by
 have hk2 := (stN_k (p := p) (x := (n, false)) hk).1
 unfold stN at hk2
 rw [show mayV (n, false).1 = true from hm, cond_true] at hk2
 obtain ⟨l1, _, l3⟩ := nameL_len _ n p.1 p.2 rfl (may_iff.1 hm).1
 exact ⟨hk2, by omega, by omega⟩
theorem putR_one {k x : Int} {d : List UInt8} {p : PKt} (hlay : layV k = [x]) (hx : (x == -1) = false) (h : mayR k d = true) : putR k d p = (p.1 ++ d, p.2) := by
 unfold putR
 rw [parts_one hlay h, hlay, putS, hx]
 rfl
theorem putR_name {k : Int} {d : List UInt8} {p : PKt} (hk : k = 2 ∨ k = 5 ∨ k = 12) (h : mayR k d = true) (hm : mayV d = true) : putR k d p = nameP d p.1 p.2 := by
 unfold putR
 rw [parts_name hk h, show layV k = [-1] by rcases hk with rfl | rfl | rfl <;> rfl, putS, putS]
 show (bif mayV d then nameP d p.1 p.2 else p) = _
 rw [hm, cond_true]
theorem putR_MX {d : List UInt8} {p : PKt} (h : mayR 15 d = true) (hm : mayV (d.drop 2) = true) : putR 15 d p = nameP (d.drop 2) (p.1 ++ d.take 2) p.2 := by
 unfold putR
 rw [parts_MX h, show layV 15 = [2, -1] from rfl, putS, putS, putS]
 show (bif mayV (d.drop 2) then nameP (d.drop 2) (p.1 ++ d.take 2) p.2 else _) = _
 rw [hm, cond_true]
theorem putR_SOA {d x y z : List UInt8} {p : PKt} (hp : partsV 6 d = [x, y, z]) (hx : mayV x = true) (hy : mayV y = true) : putR 6 d p = ((nameP y (nameP x p.1 p.2).1 (nameP x p.1 p.2).2).1 ++ z, (nameP y (nameP x p.1 p.2).1 (nameP x p.1 p.2).2).2) := by
 unfold putR
 rw [hp, show layV 6 = [-1, -1, 20] from rfl, putS, putS, putS, putS]
 have e1 : stN p (List.headD [x, y, z] [], false) = nameP x p.1 p.2 := by
  show (bif mayV x then nameP x p.1 p.2 else p) = _
  rw [hx, cond_true]
 rw [show ((-1 : Int) == -1) = true from rfl, show ((20 : Int) == -1) = false from rfl, cond_true, cond_true, cond_false, e1]
 have e2 : stN (nameP x p.1 p.2) (List.headD [x, y, z].tail [], false) = nameP y (nameP x p.1 p.2).1 (nameP x p.1 p.2).2 := by
  show (bif mayV y then nameP y (nameP x p.1 p.2).1 (nameP x p.1 p.2).2 else _) = _
  rw [hy, cond_true]
 rw [e2]
 rfl
def pkV (p : PKt) (e : Int) : Res := ([.agg [.str p.1, .list (.pair .str (.int .i64)) p.2], .int .i64 e], [])
theorem put4_all (p : PKt) (k : Int) (d : List UInt8) (h : ptOk p d = true) : Tr.all (fun r : Res => r = bif mayR k d then pkV (putR k d p) 0 else pkV p 1) (t70 p k d) := by
 simp only [ptOk, Bool.and_eq_true] at h
 obtain ⟨hd, hk, h1, h2⟩ := h
 have h1 := Nat.le_of_ble_eq_true h1
 have h2 := Nat.le_of_ble_eq_true h2
 have hlen : d.length ≤ 1000000000000 := by simpa [bigS] using hd
 unfold t70
 cases hm : mayR k d with
 | false => exact Tr.all_t hd (Tr.all_t rfl (Tr.all_ret rfl))
 | true =>
   rw [cond_true]
   have h65 := (may_parts hm).2.2.1
   have hname : (k = 2 ∨ k = 5 ∨ k = 12) → mayV d = true ∧ nmOk p d = true ∧ putR k d p = nameP d p.1 p.2 := fun hk3 => by
    have h3 := hm
    rw [may_name hk3, Bool.and_eq_true] at h3
    exact ⟨h3.1, nmOk_of (by omega) hk (by omega) (by omega), putR_name hk3 hm h3.1⟩
   refine Tr.all_t hd (Tr.all_f rfl ?_)
   refine Tr.all_br (fun c => ?_) fun c2 => Tr.all_br (fun c => ?_) fun c5 => Tr.all_br (fun c => ?_) fun c12 => Tr.all_br (fun c => ?_) fun c15 => Tr.all_br (fun c => ?_) fun c6 => ?_
   · obtain ⟨a, b, e⟩ := hname (.inl (beq_iff_eq.1 c))
     rw [e]; exact Tr.all_t b (Tr.all_t a (Tr.all_ret rfl))
   · obtain ⟨a, b, e⟩ := hname (.inr (.inl (beq_iff_eq.1 c)))
     rw [e]; exact Tr.all_t b (Tr.all_t a (Tr.all_ret rfl))
   · obtain ⟨a, b, e⟩ := hname (.inr (.inr (beq_iff_eq.1 c)))
     rw [e]; exact Tr.all_t b (Tr.all_t a (Tr.all_ret rfl))
   · obtain rfl := beq_iff_eq.1 c
     have h3 := hm
     rw [may_MX, Bool.and_eq_true, Bool.and_eq_true, decide_eq_true_eq] at h3
     obtain ⟨⟨h3, h4⟩, _⟩ := h3
     have e1 : List.take (Int.toNat (d.length : Int) - Int.toNat (2 : Int)) (List.drop (Int.toNat (2 : Int)) d) = d.drop 2 := tk_end d 2
     have e2 : List.take (Int.toNat (2 : Int) - Int.toNat (0 : Int)) (List.drop (Int.toNat (0 : Int)) d) = d.take 2 := tk_beg d 2
     rw [e1, e2, putR_MX hm h4]
     have hl2 := List.length_drop (l := d) (i := 2)
     have hl3 := List.length_take (l := d) (i := 2)
     exact Tr.all_t (by rw [dec_true (by omega), dec_true (by omega)]; rfl) (Tr.all_t (Nat.ble_eq_true_of_le (by omega)) (Tr.all_t (by rw [dec_true (by omega), dec_true (by omega)]; rfl) (Tr.all_t (by rw [dec_true (by omega), dec_true (by omega)]; rfl) (Tr.all_t (nmOk_of (by omega) hk (by rw [List.length_append]; omega) (show p.2.length ≤ _ by omega)) (Tr.all_t h4 (Tr.all_ret rfl))))))
   · obtain rfl := beq_iff_eq.1 c
     have h3 := hm
     rw [may_SOA, Bool.and_eq_true, Bool.and_eq_true, Bool.and_eq_true, decide_eq_true_eq] at h3
     obtain ⟨⟨h3, h4, h5⟩, _⟩ := h3
     have m1 := whole_may (d := d) (by simpa using h3)
     have m2 := whole_may (d := d.drop (wholeV d)) (by simpa using h4)
     have l1 := wholeV_le d
     have l2 := wholeV_le (d.drop (wholeV d))
     have l3 := List.length_drop (l := d) (i := wholeV d)
     rw [tk_end, IntWalk.i64_in ((wholeV d : Int) + (wholeV (d.drop (wholeV d)) : Int)) (by omega), tk_end2, tk_mid, tk_beg, putR_SOA (parts_SOA hm) m1 m2]
     generalize wholeV (d.drop (wholeV d)) = b at *
     generalize wholeV d = a at *
     have l4 := List.length_take (l := d) (i := a)
     have l5 := List.length_take (l := d.drop a) (i := b)
     obtain ⟨k1, k2, k3⟩ := nameP_k m1 hk
     obtain ⟨k4, k5, k6⟩ := nameP_k m2 k1
     refine Tr.all_t ?_ (Tr.all_t ?_ (Tr.all_t ?_ (Tr.all_t ?_ (Tr.all_t ?_ (Tr.all_t (nmOk_of (by omega) hk (by omega) (by omega)) (Tr.all_t m1 (Tr.all_t ?_ (Tr.all_t ?_ (Tr.all_t (nmOk_of (by omega) k1 (by omega) (by omega)) (Tr.all_t m2 (Tr.all_t ?_ (Tr.all_t ?_ (Tr.all_t (Nat.ble_eq_true_of_le (by omega)) (Tr.all_ret rfl))))))))))))))
     all_goals first | (rw [dec_true (by omega), dec_true (by omega)]; rfl) | (simp [bigS]; omega) | exact hd
   · have hx : ∃ x, layV k = [x] ∧ (x == -1) = false := by
       have h2 : k ≠ 2 := by simpa using c2
       have h5 : k ≠ 5 := by simpa using c5
       have h12 : k ≠ 12 := by simpa using c12
       have h15 : k ≠ 15 := by simpa using c15
       have h6 : k ≠ 6 := by simpa using c6
       unfold layV
       by_cases a1 : k = 1
       · exact ⟨_, if_pos a1, rfl⟩
       rw [if_neg a1]
       by_cases a2 : k = 28
       · exact ⟨_, if_pos a2, rfl⟩
       rw [if_neg a2, if_neg (by omega), if_neg h15, if_neg h6]
       by_cases a3 : k = 16
       · exact ⟨_, if_pos a3, rfl⟩
       · exact ⟨_, if_neg a3, rfl⟩
     obtain ⟨x, e1, e2⟩ := hx
     rw [putR_one e1 e2 hm]
     exact Tr.all_t (Nat.ble_eq_true_of_le (by omega)) (Tr.all_ret rfl)
def fs70w : FSpec := fs70.like fun (p, k, d, _) => .br (ptOk p d) (.br (mayR k d) (.ret (putR k d p, (0 : Int), ())) (.ret (p, (1 : Int), ()))) .no
theorem okf70w : fs70w.Ok Try.prog := by
 refine flike_ok okf70 _ ?_
 rintro ⟨(p : List UInt8 × Known), (k : Int), (d : List UInt8), _⟩ y h
 simp only [Tr.get] at h
 cases hc : ptOk p d with
 | false => rw [hc] at h; cases h
 | true =>
   rw [hc, cond_true] at h
   have ha := put4_all p k d hc
   cases hm : mayR k d with
   | false =>
     rw [hm, cond_false] at h ha
     cases h
     exact convR_of (vs := (pkV p 1).1) rfl rfl (Tr.get_of_all ha)
   | true =>
     rw [hm, cond_true] at h ha
     cases h
     exact convR_of (vs := (pkV (putR k d p) 0).1) rfl rfl (Tr.get_of_all ha)
theorem putS_len2 : ∀ (ps : List Int) (ls : List (List UInt8)) (p : PKt), (putS ps ls p).2.length ≤ p.2.length + ls.flatten.length
 | [], _, p => by simp [putS]
 | x :: ps, ls, p => by
   rw [putS]
   have hl : ls.flatten.length = (ls.headD []).length + ls.tail.flatten.length := by cases ls <;> simp
   cases hx : x == -1 with
   | true =>
     have q2 := putS_len2 ps ls.tail (stN p (ls.headD [], false))
     rw [cond_true, hl]
     have k2 : (stN p (ls.headD [], false)).2.length ≤ p.2.length + (ls.headD []).length := by
      show (bif mayV (ls.headD []) then nameP (ls.headD []) p.1 p.2 else p).2.length ≤ _
      cases hm : mayV (ls.headD []) with
      | false => rw [cond_false]; omega
      | true =>
        rw [cond_true]
        obtain ⟨_, _, l3⟩ := nameL_len _ (ls.headD []) p.1 p.2 rfl (may_iff.1 hm).1
        omega
     omega
   | false =>
     have q2 : (putS ps ls.tail (p.1 ++ ls.headD [], p.2)).2.length ≤ p.2.length + ls.tail.flatten.length := putS_len2 ps ls.tail (p.1 ++ ls.headD [], p.2)
     rw [cond_false, hl]
     omega
theorem putR_len {k : Int} {d : List UInt8} {p : PKt} (hm : mayR k d = true) (hk : kOk p.2 = true) : kOk (putR k d p).2 = true ∧ (putR k d p).1.length ≤ p.1.length + d.length ∧ (putR k d p).2.length ≤ p.2.length + d.length := by
 obtain ⟨q1, q2⟩ := putS_len (layV k) (partsV k d) p hk
 have q3 := putS_len2 (layV k) (partsV k d) p
 rw [(may_parts hm).2.2.2.2.2] at q2 q3
 exact ⟨q1, q2, q3⟩
theorem wrapU16 (n : Int) : IntKind.wrap .u16 n = n % 65536 := IntKind.wrap_u16 n
def closeB (b : List Int) (a : Int) : List Int := b.take (a - 2).toNat ++ bytesInt (put16 (((b.length : Int) - a) % 65536)) ++ b.drop a.toNat
def os66w : OSpec := os66.like fun _ (_, b, l, _) => .on (Nat.ble b.length 100000000000) ([.int .i64 ((b.length : Int) + 2)], pkO (b ++ [0, 0]) l)
theorem ok66w : os66w.Ok Try.prog := by
 refine like_ok ok66 _ ?_
 rintro _ ⟨_, (b : List Int), (l : Known), _⟩ r h
 obtain ⟨hb, rfl⟩ := Tr.get_on h
 have hb := Nat.le_of_ble_eq_true hb
 refine Tr.get_of_all ?_
 show (t66 b l).all _
 have e : bytesInt (put16 0) = [0, 0] := by decide
 unfold t66
 rw [e]
 refine Tr.all_t (fits_true (by simp [put16_len]; omega) (by simp [put16_len]; omega)) (Tr.all_ret ?_)
 simp
def os68w : OSpec := os68.like fun (a, _) (_, b, l, _) => .br (Nat.ble b.length 100000000000) (.br (decide (2 ≤ a) && decide (a ≤ (b.length : Int))) (.ret ([.int .i64 0], pkO (closeB b a) l)) (.ret ([.int .i64 1], pkO b l))) .no
theorem ok68w : os68w.Ok Try.prog := by
 refine like_ok ok68 _ ?_
 rintro ⟨(a : Int), _⟩ ⟨_, (b : List Int), (l : Known), _⟩ r h
 simp only [Tr.get] at h
 cases hb : Nat.ble b.length 100000000000 with
 | false => rw [hb] at h; cases h
 | true =>
   rw [hb, cond_true] at h
   have hb := Nat.le_of_ble_eq_true hb
   refine Tr.get_of_all ?_
   show (t68 a b l).all _
   unfold t68
   by_cases h2 : 2 ≤ a
   · by_cases h3 : a ≤ (b.length : Int)
     · rw [dec_true h2, dec_true h3] at h
       cases h
       have hw := wrapU16 ((b.length : Int) - a)
       rw [IntWalk.i64_in (a - 2) (by omega), IntWalk.i64_in ((b.length : Int) - a) (by omega), hw]
       refine Tr.all_f (dec_false (by omega)) (Tr.all_f (dec_false (by omega)) (Tr.all_t (by rw [dec_true (by omega), dec_true (by omega)]; rfl) (Tr.all_t (by rw [dec_true (by omega), dec_true (by omega)]; rfl) (Tr.all_t ?_ (Tr.all_ret ?_)))))
       · simp [n16C]; omega
       · unfold closeB
         rw [show a.toNat - (a - 2).toNat = 2 by omega, put16_len, show min 2 2 = 2 from rfl, show (a - 2).toNat + 2 = a.toNat by omega, List.take_of_length_le (l := bytesInt (put16 _)) (by rw [bytesInt_len, put16_len]; exact Nat.le_refl _)]
     · rw [dec_true h2, dec_false h3] at h
       cases h
       exact Tr.all_f (dec_false (by omega)) (Tr.all_t (dec_true (by omega)) (Tr.all_ret rfl))
   · rw [dec_false h2] at h
     cases h
     exact Tr.all_t (dec_true (by omega)) (Tr.all_ret rfl)
end Go.Proofs.YtlkpiegllammdaaE
