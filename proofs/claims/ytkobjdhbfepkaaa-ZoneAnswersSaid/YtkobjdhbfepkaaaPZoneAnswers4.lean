import Derived.Test.YtkobjdhbfepkaaaPZoneAnswers3
namespace Go.Proofs.YtkobjdhbfepkaaaE
open Go Go.Proofs.YtkobjdhbfepkaaaB
set_option linter.unusedVariables false
set_option linter.unusedSimpArgs false
noncomputable def b97 : Code := nthLoop c97 0
def ls97 : LoopSpec := { bid := 0, sh := [.d .str false, .d (.int .i64) false], so := [], F := fun (s, k, _) _ => .on2 (bigS s && decide (k = 1)) (wholeV s == 0) (.exit 0, [.dead], []) (.ret, [.int .i64 (wholeV s)], []) }
def r97 (s : List UInt8) (k : Int) : Tr (St ⊕ (Ex × St)) := Tr.br (decide (k ≤ (↑(List.length s) : Int))) (Tr.br (decide (k ≤ (255 : Int))) (Tr.br (decide ((0 : Int) ≤ k) && decide (k ≤ (↑(List.length s) : Int))) (Tr.br (decide ((0 : Int) ≤ (0 : Int)) && decide ((0 : Int) ≤ k)) (Tr.br (bigS (List.take (Int.toNat k - Int.toNat (0 : Int)) (List.drop (Int.toNat (0 : Int)) s))) (Tr.br (mayV (List.take (Int.toNat k - Int.toNat (0 : Int)) (List.drop (Int.toNat (0 : Int)) s))) (Tr.ret (Sum.inr (Ex.ret, stOf [2] [AV.int IntKind.i64 k] []))) (Tr.ret (Sum.inl (stOf [0, 3] [AV.str s, AV.int IntKind.i64 (IntKind.wrap IntKind.i64 (k + (1 : Int)))] [])))) Tr.no) Tr.no) Tr.no) (Tr.ret (Sum.inr (Ex.exit 0, stOf [2] [AV.dead] [])))) (Tr.ret (Sum.inr (Ex.exit 0, stOf [2] [AV.dead] [])))
set_option maxRecDepth 1000000 in
theorem round97 (lp : Lp) (s : List UInt8) (k : Int) : evC T0 (orcB [fs75v] []) lp b97 0 (stOf [0, 3] [.str s, .int .i64 k] []) (roundK [0, 3] [2] 0) = (r97 s k).get := by kernel_rfl
theorem wf97 (s : List UInt8) (I'' : Int → Prop) (m'' : Int → Nat) (r'' : Ex × St) (h : ∀ (k : Int), I'' k → (r97 s k).all fun x'' => x'' = .inr r'' ∨ ∃ (k' : Int), x'' = .inl (stOf [0, 3] [.str s, .int .i64 k'] []) ∧ I'' k' ∧ m'' k' < m'' k) (lp : Lp) (k : Int) : I'' k →
    loopF (fun st => evC T0 (orcB [fs75v] []) lp b97 0 st (roundK [0, 3] [2] 0)) (stOf [0, 3] [.str s, .int .i64 k] []) = some r'' :=
  loop_tr (fun a'' : Int => stOf [0, 3] [.str s, .int .i64 a''] []) (fun a'' => I'' a'') (fun a'' => m'' a'') r'' (fun a'' => r97 s a'')
    (fun a'' x hx => (round97 lp s a'').trans hx) (fun a'' ha => Tr.all_mono (fun x'' hx => hx.imp id fun ⟨k', h1, h2, h3⟩ => ⟨(k'), h1, h2, h3⟩) (h (a'') ha)) (k)
theorem loop97 : ls97.Ok T0 (orcB [fs75v] []) h97 0 0 b97 := by
  intro q'' hq'' x'' y'' r'' h
  obtain ⟨(s : List UInt8), (k : Int), _⟩ := x''
  obtain ⟨hc, rfl⟩ := Tr.get_on2 h
  show loopF (fun st => evC T0 (orcB [fs75v] []) (lpN T0 (orcB [fs75v] []) h97 0 q'') b97 0 st (roundK [0, 3] [2] 0)) (stOf [0, 3] [.str s, .int .i64 k] []) = some ((bif wholeV s == 0 then (.exit 0, [.dead], []) else (.ret, [.int .i64 (wholeV s)], []) : Ex × List AV × List LObj).1, stOf [2] (bif wholeV s == 0 then (.exit 0, [.dead], []) else (.ret, [.int .i64 (wholeV s)], []) : Ex × List AV × List LObj).2.1 (bif wholeV s == 0 then (.exit 0, [.dead], []) else (.ret, [.int .i64 (wholeV s)], []) : Ex × List AV × List LObj).2.2)
  simp only [Bool.and_eq_true, decide_eq_true_eq] at hc
  obtain ⟨hb, rfl⟩ := hc
  have hB : s.length ≤ 1000000000000 := by simpa [bigS] using hb
  refine wf97 s (fun k => 1 ≤ k ∧ k ≤ 256 ∧ (wholeV s = 0 ∨ k ≤ wholeV s)) (fun k => (257 - k).toNat) _ ?_ _ 1 ⟨by omega, by omega, by omega⟩
  rintro k ⟨h1, h2, h3⟩
  unfold r97
  have hwl := wholeV_le s
  have hwm : wholeV s ≠ 0 → wholeV s ≤ 255 := fun h => by
    have := (whole_of (d := s) hwl (whole_may h)).2
    omega
  by_cases hk : k ≤ s.length
  · by_cases h255 : k ≤ 255
    · have ht : List.take (Int.toNat k - Int.toNat (0 : Int)) (List.drop (Int.toNat (0 : Int)) s) = s.take k.toNat := rfl
      rw [ht, IntWalk.i64_in _ (by omega)]
      refine Tr.all_t (dec_true hk) (Tr.all_t (dec_true h255) (Tr.all_t (by rw [dec_true (by omega), dec_true hk]; rfl) (Tr.all_t (by rw [dec_true (by omega), dec_true (by omega)]; rfl) (Tr.all_t (by simp [bigS]; omega) (Tr.all_br (fun c => Tr.all_ret (.inl ?_)) fun c => Tr.all_ret (.inr ⟨_, rfl, ⟨by omega, by omega, ?_⟩, by omega⟩))))))
      · obtain ⟨e, _⟩ := whole_of (d := s) (by omega) c
        rw [show (wholeV s == 0) = false from beq_eq_false_iff_ne.2 (by omega), e, Int.toNat_of_nonneg (by omega)]
        rfl
      · rcases h3 with h3 | h3
        · exact .inl h3
        · by_cases he : k = (wholeV s : Int)
          · have := whole_may (d := s) (by omega)
            rw [show wholeV s = k.toNat by omega, c] at this
            cases this
          · omega
    · have h0 : wholeV s = 0 := by
        rcases h3 with h3 | h3
        · exact h3
        · by_cases hz : wholeV s = 0
          · exact hz
          · have := hwm hz; omega
      rw [h0]
      exact Tr.all_t (dec_true hk) (Tr.all_f (dec_false h255) (Tr.all_ret (.inl rfl)))
  · have h0 : wholeV s = 0 := by omega
    rw [h0]
    exact Tr.all_f (dec_false hk) (Tr.all_ret (.inl rfl))
def t97 (s : List UInt8) : Tr Res := Tr.br (bigS s && decide ((1 : Int) = (1 : Ty.den (Ty.int IntKind.i64)))) (Tr.br (wholeV s == 0) (Tr.ret ([AV.int IntKind.i64 (0 : Int)], [])) (Tr.ret ([AV.int IntKind.i64 (↑(wholeV s) : Int)], []))) Tr.no
def os97 : OSpec := { f := 97, sh := [.d .str false], so := [], F := fun (s, _) _ => t97 s }
set_option maxRecDepth 1000000 in
theorem fn97 (s : List UInt8) : evC T0 (orcB [fs75v] []) (lpOf h97 0 (lsOf [ls97])) c97 1000000 (startSt [.str s] [] Try.f97.ntmps) (finishK T0 false 0 Try.f97) = (t97 s).get := by kernel_rfl
theorem ok97 : os97.Ok Try.prog := by
  refine os_ok mixed0 tab0 (orcB_sound (all_cons okf75v all_nil) all_nil) h97 (d := 0) (n0 := 0) (S := lsOf [ls97]) Try.func97 (by kernel_rfl) (c := c97) (by kernel_rfl) rfl (loops_eq (xs := [(0, b97)]) (by kernel_rfl) (all_cons (ls_here loop97) all_nil)) (by omega) (by kernel_rfl) ?_
  intro x'' y'' q'' hq''
  obtain ⟨(s : List UInt8), _⟩ := x''
  exact (fn97 s).trans hq''
def fs97 : FSpec := fsT 97 [(.str, false)] [((.int .i64), false)] fun (s, _) => t97 s
theorem okf97 : fs97.Ok Try.prog := fsT_ok fun x'' r'' hr'' => ok97 x'' () r'' hr''
def fs97w : FSpec := fs97.like fun (s, _) => .on (bigS s) ((wholeV s : Int), ())
theorem okf97w : fs97w.Ok Try.prog := by
  refine flike_ok okf97 _ ?_
  rintro ⟨(s : List UInt8), _⟩ y h
  obtain ⟨hb, rfl⟩ := Tr.get_on h
  refine convR_of (vs := [.int .i64 (wholeV s)]) rfl rfl (Tr.get_of_all ?_)
  show (t97 s).all _
  refine Tr.all_t (by rw [hb]; rfl) (Tr.all_br (fun c1 => Tr.all_ret ?_) fun c1 => Tr.all_ret rfl)
  rw [beq_iff_eq.1 c1]
  rfl
noncomputable def b98 : Code := nthLoop c98 0
def ls98 : LoopSpec := { bid := 0, sh := [.d .str false], so := [], F := fun (s, _) _ => .on2 (bigS s) (texR s) (.exit 0, [.dead], []) (.ret, [.bool false], []) }
def r98 (s : List UInt8) : Tr (St ⊕ (Ex × St)) := Tr.br (!s == []) (Tr.br (decide ((0 : Int) < (↑(List.length s) : Int))) (Tr.br (decide (IntKind.wrap IntKind.i64 ((1 : Int) + IntKind.wrap IntKind.i64 (↑(UInt8.toNat (List.getD s (Int.toNat (0 : Int)) 0)) : Int)) > (↑(List.length s) : Int))) (Tr.ret (Sum.inr (Ex.ret, stOf [2] [AV.bool false] []))) (Tr.br (decide ((0 : Int) ≤ (↑(List.length s) : Int)) && decide ((↑(List.length s) : Int) ≤ (↑(List.length s) : Int))) (Tr.br (decide ((0 : Int) ≤ IntKind.wrap IntKind.i64 ((1 : Int) + IntKind.wrap IntKind.i64 (↑(UInt8.toNat (List.getD s (Int.toNat (0 : Int)) 0)) : Int))) && decide (IntKind.wrap IntKind.i64 ((1 : Int) + IntKind.wrap IntKind.i64 (↑(UInt8.toNat (List.getD s (Int.toNat (0 : Int)) 0)) : Int)) ≤ (↑(List.length s) : Int))) (Tr.ret (Sum.inl (stOf [0] [AV.str (List.take (Int.toNat (↑(List.length s) : Int) - Int.toNat (IntKind.wrap IntKind.i64 ((1 : Int) + IntKind.wrap IntKind.i64 (↑(UInt8.toNat (List.getD s (Int.toNat (0 : Int)) 0)) : Int)))) (List.drop (Int.toNat (IntKind.wrap IntKind.i64 ((1 : Int) + IntKind.wrap IntKind.i64 (↑(UInt8.toNat (List.getD s (Int.toNat (0 : Int)) 0)) : Int)))) s))] []))) Tr.no) Tr.no)) Tr.no) (Tr.ret (Sum.inr (Ex.exit 0, stOf [2] [AV.dead] [])))
set_option maxRecDepth 1000000 in
theorem round98 (orc : Orc) (lp : Lp) (s : List UInt8) : evC T0 orc lp b98 0 (stOf [0] [.str s] []) (roundK [0] [2] 0) = (r98 s).get := by kernel_rfl
theorem wf98 (orc : Orc) (I'' : List UInt8 → Prop) (m'' : List UInt8 → Nat) (r'' : Ex × St) (h : ∀ (s : List UInt8), I'' s → (r98 s).all fun x'' => x'' = .inr r'' ∨ ∃ (s' : List UInt8), x'' = .inl (stOf [0] [.str s'] []) ∧ I'' s' ∧ m'' s' < m'' s) (lp : Lp) (s : List UInt8) : I'' s →
    loopF (fun st => evC T0 orc lp b98 0 st (roundK [0] [2] 0)) (stOf [0] [.str s] []) = some r'' :=
  loop_tr (fun a'' : List UInt8 => stOf [0] [.str a''] []) (fun a'' => I'' a'') (fun a'' => m'' a'') r'' (fun a'' => r98 a'')
    (fun a'' x hx => (round98 orc lp a'').trans hx) (fun a'' ha => Tr.all_mono (fun x'' hx => hx.imp id fun ⟨s', h1, h2, h3⟩ => ⟨(s'), h1, h2, h3⟩) (h (a'') ha)) (s)
theorem loop98 (orc : Orc) : ls98.Ok T0 orc h98 0 0 b98 := by
  intro q'' hq'' x'' y'' r'' h
  obtain ⟨(s : List UInt8), _⟩ := x''
  obtain ⟨hc, rfl⟩ := Tr.get_on2 h
  show loopF (fun st => evC T0 orc (lpN T0 orc h98 0 q'') b98 0 st (roundK [0] [2] 0)) (stOf [0] [.str s] []) = some ((bif texR s then (.exit 0, [.dead], []) else (.ret, [.bool false], []) : Ex × List AV × List LObj).1, stOf [2] (bif texR s then (.exit 0, [.dead], []) else (.ret, [.bool false], []) : Ex × List AV × List LObj).2.1 (bif texR s then (.exit 0, [.dead], []) else (.ret, [.bool false], []) : Ex × List AV × List LObj).2.2)
  refine wf98 _ (fun t => bigS t = true ∧ texR t = texR s) (fun t => t.length) _ ?_ _ s ⟨hc, rfl⟩
  clear hc
  rintro t ⟨hb, h2⟩
  rw [← h2]
  have hB : t.length ≤ 1000000000000 := by simpa [bigS] using hb
  unfold r98
  cases ht : t with
  | nil =>
    rw [texR_nil]
    exact Tr.all_f rfl (Tr.all_ret (.inl rfl))
  | cons c0 t0 =>
    rw [← ht]
    have hne : t ≠ [] := by rw [ht]; simp
    have hpos := List.length_pos_iff.2 hne
    have hb0 : (↑(UInt8.toNat (List.getD t (Int.toNat (0 : Int)) 0)) : Int) = (byN t 0 : Int) := rfl
    have hbl : byN t 0 < 256 := (t.getD 0 0).toNat_lt
    rw [hb0]
    simp (disch := omega) only [IntWalk.i64_in]
    refine Tr.all_t (by rw [ht]; rfl) (Tr.all_t (dec_true (by omega)) (Tr.all_br (fun c => Tr.all_ret (.inl ?_)) fun c => Tr.all_t (by rw [dec_true (by omega), dec_true (by omega)]; rfl) (Tr.all_t ?_ (Tr.all_ret (.inr ⟨_, rfl, ?_, ?_⟩)))))
    · simp only [decide_eq_true_eq] at c
      rw [texR_long hne (by omega)]
      rfl
    · simp only [decide_eq_false_iff_not] at c
      rw [dec_true (by omega), dec_true (by omega)]
      rfl
    · simp only [decide_eq_false_iff_not] at c
      have e : List.take (Int.toNat (t.length : Int) - Int.toNat ((1 : Int) + (byN t 0 : Int))) (List.drop (Int.toNat ((1 : Int) + (byN t 0 : Int))) t) = t.drop (1 + byN t 0) := by
        rw [show Int.toNat ((1 : Int) + (byN t 0 : Int)) = 1 + byN t 0 by omega]
        exact List.take_of_length_le (by simp)
      rw [e]
      exact ⟨by simp [bigS]; omega, (texR_on hne (by omega)).symm⟩
    · rw [List.length_take, List.length_drop]
      omega
def t98 (s : List UInt8) : Tr Res := Tr.br (s == []) (Tr.ret ([AV.bool false], [])) (Tr.br (bigS s) (Tr.br (texR s) (Tr.ret ([AV.bool true], [])) (Tr.ret ([AV.bool false], []))) Tr.no)
def os98 : OSpec := { f := 98, sh := [.d .str false], so := [], F := fun (s, _) _ => t98 s }
set_option maxRecDepth 1000000 in
theorem fn98 (s : List UInt8) : evC T0 (orcB [] []) (lpOf h98 0 (lsOf [ls98])) c98 1000000 (startSt [.str s] [] Try.f98.ntmps) (finishK T0 false 0 Try.f98) = (t98 s).get := by kernel_rfl
theorem ok98 : os98.Ok Try.prog := by
  refine os_ok mixed0 tab0 (orcB_sound all_nil all_nil) h98 (d := 0) (n0 := 0) (S := lsOf [ls98]) Try.func98 (by kernel_rfl) (c := c98) (by kernel_rfl) rfl (loops_eq (xs := [(0, b98)]) (by kernel_rfl) (all_cons (ls_here (loop98 _)) all_nil)) (by omega) (by kernel_rfl) ?_
  intro x'' y'' q'' hq''
  obtain ⟨(s : List UInt8), _⟩ := x''
  exact (fn98 s).trans hq''
def fs98 : FSpec := fsT 98 [(.str, false)] [(.bool, false)] fun (s, _) => t98 s
theorem okf98 : fs98.Ok Try.prog := fsT_ok fun x'' r'' hr'' => ok98 x'' () r'' hr''
def fs98w : FSpec := fs98.like fun (s, _) => .on (bigS s) (textsV s, ())
theorem okf98w : fs98w.Ok Try.prog := by
  refine flike_ok okf98 _ ?_
  rintro ⟨(s : List UInt8), _⟩ y h
  obtain ⟨hb, rfl⟩ := Tr.get_on h
  refine convR_of (vs := [.bool (textsV s)]) rfl rfl (Tr.get_of_all ?_)
  show (t98 s).all _
  unfold t98
  have e : textsV s = (!s.isEmpty && texR s) := rfl
  rw [e]
  cases hs : s with
  | nil => exact Tr.all_t rfl (Tr.all_ret rfl)
  | cons c0 s0 =>
    rw [← hs]
    refine Tr.all_f (by rw [hs]; rfl) (Tr.all_t hb (Tr.all_br (fun c => Tr.all_ret ?_) fun c => Tr.all_ret ?_))
    · rw [c, hs]; rfl
    · rw [c, hs]; rfl
def t79 (k : Int) (d : List UInt8) : Tr Res := Tr.br (decide ((↑(List.length d) : Int) > (65535 : Int))) (Tr.ret ([AV.bool false], [])) (Tr.br (k == (1 : Int)) (Tr.ret ([AV.bool ((↑(List.length d) : Int) == (4 : Int))], [])) (Tr.br (k == (28 : Int)) (Tr.ret ([AV.bool ((↑(List.length d) : Int) == (16 : Int))], [])) (Tr.br (k == (2 : Int)) (Tr.br (bigS d) (Tr.ret ([AV.bool (mayV d)], [])) Tr.no) (Tr.br (k == (5 : Int)) (Tr.br (bigS d) (Tr.ret ([AV.bool (mayV d)], [])) Tr.no) (Tr.br (k == (12 : Int)) (Tr.br (bigS d) (Tr.ret ([AV.bool (mayV d)], [])) Tr.no) (Tr.br (k == (15 : Int)) (Tr.br (decide ((↑(List.length d) : Int) > (2 : Int))) (Tr.br (decide ((0 : Int) ≤ (↑(List.length d) : Int)) && decide ((↑(List.length d) : Int) ≤ (↑(List.length d) : Int))) (Tr.br (decide ((0 : Int) ≤ (2 : Int)) && decide ((2 : Int) ≤ (↑(List.length d) : Int))) (Tr.br (bigS (List.take (Int.toNat (↑(List.length d) : Int) - Int.toNat (2 : Int)) (List.drop (Int.toNat (2 : Int)) d))) (Tr.ret ([AV.bool (mayV (List.take (Int.toNat (↑(List.length d) : Int) - Int.toNat (2 : Int)) (List.drop (Int.toNat (2 : Int)) d)))], [])) Tr.no) Tr.no) Tr.no) (Tr.ret ([AV.bool false], []))) (Tr.br (k == (6 : Int)) (Tr.br (bigS d) (Tr.br (decide ((0 : Int) ≤ (↑(List.length d) : Int)) && decide ((↑(List.length d) : Int) ≤ (↑(List.length d) : Int))) (Tr.br (decide ((0 : Int) ≤ (↑(wholeV d) : Int)) && decide ((↑(wholeV d) : Int) ≤ (↑(List.length d) : Int))) (Tr.br (bigS (List.take (Int.toNat (↑(List.length d) : Int) - Int.toNat (↑(wholeV d) : Int)) (List.drop (Int.toNat (↑(wholeV d) : Int)) d))) (Tr.br (decide ((↑(wholeV d) : Int) > (0 : Int))) (Tr.br (decide ((↑(wholeV (List.take (Int.toNat (↑(List.length d) : Int) - Int.toNat (↑(wholeV d) : Int)) (List.drop (Int.toNat (↑(wholeV d) : Int)) d))) : Int) > (0 : Int))) (Tr.ret ([AV.bool ((↑(List.length d) : Int) == IntKind.wrap IntKind.i64 (IntKind.wrap IntKind.i64 ((↑(wholeV d) : Int) + (↑(wholeV (List.take (Int.toNat (↑(List.length d) : Int) - Int.toNat (↑(wholeV d) : Int)) (List.drop (Int.toNat (↑(wholeV d) : Int)) d))) : Int)) + (20 : Int)))], [])) (Tr.ret ([AV.bool false], []))) (Tr.ret ([AV.bool false], []))) Tr.no) Tr.no) Tr.no) Tr.no) (Tr.br (k == (16 : Int)) (Tr.br (bigS d) (Tr.ret ([AV.bool (textsV d)], [])) Tr.no) (Tr.ret ([AV.bool true], []))))))))))
def os79 : OSpec := { f := 79, sh := [.d (.int .u16) false, .d .str false], so := [], F := fun (k, d, _) _ => t79 k d }
set_option maxRecDepth 1000000 in
theorem fn79 (k : Int) (d : List UInt8) : evC T0 (orcB [fs97w, fs98w, fs75v] []) (lpOf h79 0 (lsOf [])) c79 1000000 (startSt [.int .u16 k, .str d] [] Try.f79.ntmps) (finishK T0 false 0 Try.f79) = (t79 k d).get := by kernel_rfl
theorem ok79 : os79.Ok Try.prog := by
  refine os_ok mixed0 tab0 (orcB_sound (all_cons okf97w (all_cons okf98w (all_cons okf75v all_nil))) all_nil) h79 (d := 0) (n0 := 0) (S := lsOf []) Try.func79 (by kernel_rfl) (c := c79) (by kernel_rfl) rfl (no_loops (by kernel_rfl)) (by omega) (by kernel_rfl) ?_
  intro x'' y'' q'' hq''
  obtain ⟨(k : Int), (d : List UInt8), _⟩ := x''
  exact (fn79 k d).trans hq''
def fs79 : FSpec := fsT 79 [((.int .u16), false), (.str, false)] [(.bool, false)] fun (k, d, _) => t79 k d
theorem okf79 : fs79.Ok Try.prog := fsT_ok fun x'' r'' hr'' => ok79 x'' () r'' hr''
def fs79w : FSpec := fs79.like fun (k, d, _) => .on (bigS d) (mayR k d, ())
theorem okf79w : fs79w.Ok Try.prog := by
  refine flike_ok okf79 _ ?_
  rintro ⟨(k : Int), (d : List UInt8), _⟩ y h
  obtain ⟨hb, rfl⟩ := Tr.get_on h
  refine convR_of (vs := [.bool (mayR k d)]) rfl rfl (Tr.get_of_all ?_)
  show (t79 k d).all _
  unfold t79
  have hB : d.length ≤ 1000000000000 := by simpa [bigS] using hb
  by_cases hl : (d.length : Int) > 65535
  · have hf : Nat.ble d.length 65535 = false := by rw [ble_iff]; exact dec_false (by omega)
    have : mayR k d = false := by rw [mayR_cut, hf, Bool.and_false]
    rw [this]
    exact Tr.all_t (dec_true hl) (Tr.all_ret rfl)
  have ht : Nat.ble d.length 65535 = true := Nat.ble_eq_true_of_le (by omega)
  refine Tr.all_f (dec_false hl) ?_
  by_cases k1 : k = 1
  · subst k1
    rw [may_A, ht, Bool.and_true]
    exact Tr.all_t rfl (Tr.all_ret rfl)
  refine Tr.all_f (beq_eq_false_iff_ne.2 k1) ?_
  by_cases k2 : k = 28
  · subst k2
    rw [may_AAAA, ht, Bool.and_true]
    exact Tr.all_t rfl (Tr.all_ret rfl)
  refine Tr.all_f (beq_eq_false_iff_ne.2 k2) ?_
  by_cases k3 : k = 2
  · rw [may_name (.inl k3), ht, Bool.and_true]
    exact Tr.all_t (beq_iff_eq.2 k3) (Tr.all_t hb (Tr.all_ret rfl))
  refine Tr.all_f (beq_eq_false_iff_ne.2 k3) ?_
  by_cases k4 : k = 5
  · rw [may_name (.inr (.inl k4)), ht, Bool.and_true]
    exact Tr.all_t (beq_iff_eq.2 k4) (Tr.all_t hb (Tr.all_ret rfl))
  refine Tr.all_f (beq_eq_false_iff_ne.2 k4) ?_
  by_cases k5 : k = 12
  · rw [may_name (.inr (.inr k5)), ht, Bool.and_true]
    exact Tr.all_t (beq_iff_eq.2 k5) (Tr.all_t hb (Tr.all_ret rfl))
  refine Tr.all_f (beq_eq_false_iff_ne.2 k5) ?_
  have hsub : ∀ a : Nat, List.take (Int.toNat (↑(List.length d) : Int) - Int.toNat (a : Int)) (List.drop (Int.toNat (a : Int)) d) = d.drop a := fun a => List.take_of_length_le (by simp)
  by_cases k6 : k = 15
  · subst k6
    rw [may_MX, ht, Bool.and_true]
    refine Tr.all_t rfl (Tr.all_br (fun c => ?_) fun c => Tr.all_ret ?_)
    · simp only [decide_eq_true_eq] at c
      rw [show (2 : Int) = ((2 : Nat) : Int) from rfl, hsub 2]
      rw [dec_true (show ((2 : Nat) : Int) ≤ d.length by omega)]
      exact Tr.all_t (by rw [dec_true (by omega), dec_true (by omega)]; rfl) (Tr.all_t (by rw [dec_true (by omega)]; rfl) (Tr.all_t (by simp [bigS]; omega) (Tr.all_ret rfl)))
    · simp only [decide_eq_false_iff_not] at c
      have : (decide ((2 : Int) ≤ d.length) && mayV (d.drop 2)) = false := by
        by_cases h2 : d.length = 2
        · rw [List.drop_eq_nil_of_le (by omega)]
          rw [may_nil, Bool.and_false]
        · rw [dec_false (by omega), Bool.false_and]
      rw [this]
  refine Tr.all_f (beq_eq_false_iff_ne.2 k6) ?_
  by_cases k7 : k = 6
  · subst k7
    have hw := wholeV_le d
    have hw2 := wholeV_le (d.drop (wholeV d))
    rw [List.length_drop] at hw2
    rw [may_SOA, ht, Bool.and_true, hsub]
    refine Tr.all_t rfl (Tr.all_t hb (Tr.all_t (by rw [dec_true (by omega), dec_true (by omega)]; rfl) (Tr.all_t (by rw [dec_true (by omega), dec_true (by omega)]; rfl) (Tr.all_t (by simp [bigS]; omega) (Tr.all_br (fun c1 => Tr.all_br (fun c2 => Tr.all_ret ?_) fun c2 => Tr.all_ret ?_) fun c1 => Tr.all_ret ?_)))))
    · simp only [decide_eq_true_eq] at c1 c2
      rw [IntWalk.i64_in ((wholeV d : Int) + (wholeV (d.drop (wholeV d)) : Int)) (by omega), IntWalk.i64_in _ (by omega), dec_false (show ¬ wholeV d = 0 by omega), dec_false (show ¬ wholeV (d.drop (wholeV d)) = 0 by omega)]
      simp only [Bool.not_false, Bool.true_and, List.length_drop]
      congr 3
      rw [Bool.eq_iff_iff]
      simp
      omega
    · simp only [decide_eq_false_iff_not] at c2
      rw [dec_true (show wholeV (d.drop (wholeV d)) = 0 by omega)]
      simp
    · simp only [decide_eq_false_iff_not] at c1
      rw [dec_true (show wholeV d = 0 by omega)]
      rfl
  refine Tr.all_f (beq_eq_false_iff_ne.2 k7) ?_
  by_cases k8 : k = 16
  · subst k8
    rw [may_TXT, ht, Bool.and_true]
    exact Tr.all_t rfl (Tr.all_t hb (Tr.all_ret rfl))
  rw [may_any ⟨k1, k2, k3, k4, k5, k6, k7, k8⟩, ht]
  exact Tr.all_f (beq_eq_false_iff_ne.2 k8) (Tr.all_ret rfl)
end Go.Proofs.YtkobjdhbfepkaaaE
namespace Go.Proofs.YtkobjdhbfepkaaaE
open Go Go.Proofs.YtkobjdhbfepkaaaB
set_option linter.unusedVariables false
set_option linter.unusedSimpArgs false
def t53 (k : Int) (d : List UInt8) : Tr Res := Tr.br (bigS d) (Tr.br (!mayR k d) (Tr.ret ([AV.str [], AV.bool false], [])) (Tr.br (k == (2 : Int)) (Tr.ret ([AV.str d, AV.bool true], [])) (Tr.br (k == (5 : Int)) (Tr.ret ([AV.str d, AV.bool true], [])) (Tr.br (k == (12 : Int)) (Tr.ret ([AV.str d, AV.bool true], [])) (Tr.br (k == (15 : Int)) (Tr.br (decide ((0 : Int) ≤ (↑(List.length d) : Int)) && decide ((↑(List.length d) : Int) ≤ (↑(List.length d) : Int))) (Tr.br (decide ((0 : Int) ≤ (2 : Int)) && decide ((2 : Int) ≤ (↑(List.length d) : Int))) (Tr.ret ([AV.str (List.take (Int.toNat (↑(List.length d) : Int) - Int.toNat (2 : Int)) (List.drop (Int.toNat (2 : Int)) d)), AV.bool true], [])) Tr.no) Tr.no) (Tr.ret ([AV.str [], AV.bool false], []))))))) Tr.no
def os53 : OSpec := { f := 53, sh := [.d (.int .u16) false, .d .str false], so := [], F := fun (k, d, _) _ => t53 k d }
set_option maxRecDepth 1000000 in
theorem fn53 (k : Int) (d : List UInt8) : evC T0 (orcB [fs79w] []) (lpOf h53 0 (lsOf [])) c53 1000000 (startSt [.int .u16 k, .str d] [] Try.f53.ntmps) (finishK T0 false 0 Try.f53) = (t53 k d).get := by kernel_rfl
theorem ok53 : os53.Ok Try.prog := by
  refine os_ok mixed0 tab0 (orcB_sound (all_cons okf79w all_nil) all_nil) h53 (d := 0) (n0 := 0) (S := lsOf []) Try.func53 (by kernel_rfl) (c := c53) (by kernel_rfl) rfl (no_loops (by kernel_rfl)) (by omega) (by kernel_rfl) ?_
  intro x'' y'' q'' hq''
  obtain ⟨(k : Int), (d : List UInt8), _⟩ := x''
  exact (fn53 k d).trans hq''
def fs53 : FSpec := fsT 53 [((.int .u16), false), (.str, false)] [(.str, false), (.bool, false)] fun (k, d, _) => t53 k d
theorem okf53 : fs53.Ok Try.prog := fsT_ok fun x'' r'' hr'' => ok53 x'' () r'' hr''
def fs53w : FSpec := fs53.like fun (k, d, _) => .on (bigS d) ((targV k d).getD [], (targV k d).isSome, ())
theorem okf53w : fs53w.Ok Try.prog := by
  refine flike_ok okf53 _ ?_
  rintro ⟨(k : Int), (d : List UInt8), _⟩ y h
  obtain ⟨hb, rfl⟩ := Tr.get_on h
  refine convR_of (vs := [.str ((targV k d).getD []), .bool (targV k d).isSome]) rfl rfl (Tr.get_of_all ?_)
  show (t53 k d).all _
  unfold t53 targV
  refine Tr.all_t hb ?_
  cases hm : mayR k d with
  | false =>
    rw [if_neg Bool.false_ne_true]
    exact Tr.all_t rfl (Tr.all_ret rfl)
  | true =>
    rw [if_pos rfl]
    refine Tr.all_f rfl ?_
    by_cases k2 : k = 2
    · rw [if_pos (.inl k2)]
      exact Tr.all_t (beq_iff_eq.2 k2) (Tr.all_ret rfl)
    by_cases k5 : k = 5
    · rw [if_pos (.inr (.inl k5))]
      exact Tr.all_f (beq_eq_false_iff_ne.2 k2) (Tr.all_t (beq_iff_eq.2 k5) (Tr.all_ret rfl))
    by_cases k12 : k = 12
    · rw [if_pos (.inr (.inr k12))]
      exact Tr.all_f (beq_eq_false_iff_ne.2 k2) (Tr.all_f (beq_eq_false_iff_ne.2 k5) (Tr.all_t (beq_iff_eq.2 k12) (Tr.all_ret rfl)))
    rw [if_neg (by omega)]
    refine Tr.all_f (beq_eq_false_iff_ne.2 k2) (Tr.all_f (beq_eq_false_iff_ne.2 k5) (Tr.all_f (beq_eq_false_iff_ne.2 k12) ?_))
    by_cases k15 : k = 15
    · rw [if_pos k15]
      subst k15
      rw [may_MX, Bool.and_eq_true, Bool.and_eq_true, decide_eq_true_eq] at hm
      have h2 := hm.1.1
      have e : List.take (Int.toNat (↑(List.length d) : Int) - Int.toNat (2 : Int)) (List.drop (Int.toNat (2 : Int)) d) = d.drop 2 := List.take_of_length_le (by simp)
      rw [e]
      exact Tr.all_t rfl (Tr.all_t (by rw [dec_true (by omega), dec_true (by omega)]; rfl) (Tr.all_t (by rw [dec_true h2]; rfl) (Tr.all_ret rfl)))
    · rw [if_neg k15]
      exact Tr.all_f (beq_eq_false_iff_ne.2 k15) (Tr.all_ret rfl)
def fs51w : FSpec := fs51.like fun (k, d, _) => .on (bigS d) ((targV k d).getD [], (targV k d).isSome, ())
theorem okf51w : fs51w.Ok Try.prog := by
  refine flike_ok okf51 _ ?_
  rintro ⟨(k : Int), (d : List UInt8), _⟩ y h
  obtain ⟨hb, rfl⟩ := Tr.get_on h
  refine convR_of (vs := [.str ((targV k d).getD []), .bool (targV k d).isSome]) rfl rfl (Tr.get_of_all ?_)
  show (t51 k d).all _
  unfold t51 targV
  refine Tr.all_t hb ?_
  cases hm : mayR k d with
  | false =>
    rw [if_neg Bool.false_ne_true]
    exact Tr.all_br (fun _ => Tr.all_ret rfl) fun _ => Tr.all_t hb (Tr.all_t rfl (Tr.all_ret rfl))
  | true =>
    obtain ⟨p1, p2, _⟩ := may_parts hm
    rw [if_pos rfl, p1, p2, cond_true]
    refine Tr.all_f rfl (Tr.all_t hb (Tr.all_f rfl ?_))
    by_cases k2 : k = 2
    · rw [if_pos (.inl k2), parts_name (.inl k2) hm]
      exact Tr.all_t (beq_iff_eq.2 k2) (Tr.all_t rfl (Tr.all_ret rfl))
    by_cases k5 : k = 5
    · rw [if_pos (.inr (.inl k5)), parts_name (.inr (.inl k5)) hm]
      exact Tr.all_f (beq_eq_false_iff_ne.2 k2) (Tr.all_t (beq_iff_eq.2 k5) (Tr.all_t rfl (Tr.all_ret rfl)))
    by_cases k12 : k = 12
    · rw [if_pos (.inr (.inr k12)), parts_name (.inr (.inr k12)) hm]
      exact Tr.all_f (beq_eq_false_iff_ne.2 k2) (Tr.all_f (beq_eq_false_iff_ne.2 k5) (Tr.all_t (beq_iff_eq.2 k12) (Tr.all_t rfl (Tr.all_ret rfl))))
    rw [if_neg (by omega)]
    refine Tr.all_f (beq_eq_false_iff_ne.2 k2) (Tr.all_f (beq_eq_false_iff_ne.2 k5) (Tr.all_f (beq_eq_false_iff_ne.2 k12) ?_))
    by_cases k15 : k = 15
    · rw [if_pos k15]
      subst k15
      rw [parts_MX hm]
      exact Tr.all_t rfl (Tr.all_t rfl (Tr.all_ret rfl))
    · rw [if_neg k15]
      exact Tr.all_f (beq_eq_false_iff_ne.2 k15) (Tr.all_ret rfl)
end Go.Proofs.YtkobjdhbfepkaaaE
namespace Go.Proofs.YtkobjdhbfepkaaaE
open Go Go.Proofs.YtkobjdhbfepkaaaB
set_option linter.unusedVariables false
set_option linter.unusedSimpArgs false
set_option maxRecDepth 100000
def sufB (n z : List UInt8) : Bool := if n = z then true else if h : n = [] ∨ n = [0] then false else sufB (tlN n) z
termination_by n.length
decreasing_by exact tlN_lt (fun e => h (.inl e))
def undV (n z : List UInt8) : Bool := mayV z && (mayV n && sufB n z)
theorem may_tl {n : List UInt8} (h : mayV n = true) (h0 : n ≠ [0]) : mayV (tlN n) = true := by
  obtain ⟨h1, h2, h3⟩ := may_iff.1 h
  rcases root_cases h1 with rfl | ⟨_, _, _, _, _, hr⟩
  · exact absurd rfl h0
  · refine may_iff.2 ⟨hr, by rw [tlN_len]; omega, ?_⟩
    have : isLow (n.take (1 + (n.getD 0 0).toNat) ++ n.drop (1 + (n.getD 0 0).toNat)) := by rw [List.take_append_drop]; exact h3
    exact (isLow_app.1 this).2
theorem may_ne {n : List UInt8} (h : mayV n = true) : n ≠ [] := fun e => by rw [e, may_nil] at h; cases h
def depV (n : List UInt8) : Int := if mayV n = true then ((labsV n).length : Int) else -1
def t42 (n : List UInt8) : Tr Res := Tr.br (bigS n) (Tr.br (!mayV n) (Tr.ret ([AV.str [], AV.bool false], [])) (Tr.br (n == [0]) (Tr.ret ([AV.str [], AV.bool false], [])) (Tr.br (decide ((0 : Int) < (↑(List.length n) : Int))) (Tr.br (decide ((0 : Int) ≤ (↑(List.length n) : Int)) && decide ((↑(List.length n) : Int) ≤ (↑(List.length n) : Int))) (Tr.br (decide ((0 : Int) ≤ IntKind.wrap IntKind.i64 ((1 : Int) + IntKind.wrap IntKind.i64 (↑(UInt8.toNat (List.getD n (Int.toNat (0 : Int)) 0)) : Int))) && decide (IntKind.wrap IntKind.i64 ((1 : Int) + IntKind.wrap IntKind.i64 (↑(UInt8.toNat (List.getD n (Int.toNat (0 : Int)) 0)) : Int)) ≤ (↑(List.length n) : Int))) (Tr.ret ([AV.str (List.take (Int.toNat (↑(List.length n) : Int) - Int.toNat (IntKind.wrap IntKind.i64 ((1 : Int) + IntKind.wrap IntKind.i64 (↑(UInt8.toNat (List.getD n (Int.toNat (0 : Int)) 0)) : Int)))) (List.drop (Int.toNat (IntKind.wrap IntKind.i64 ((1 : Int) + IntKind.wrap IntKind.i64 (↑(UInt8.toNat (List.getD n (Int.toNat (0 : Int)) 0)) : Int)))) n)), AV.bool true], [])) Tr.no) Tr.no) Tr.no))) Tr.no
def os42 : OSpec := { f := 42, sh := [.d .str false], so := [], F := fun (n, _) _ => t42 n }
set_option maxRecDepth 1000000 in
theorem fn42 (n : List UInt8) : evC T0 (orcB [fs41w] []) (lpOf h42 0 (lsOf [])) c42 1000000 (startSt [.str n] [] Try.f42.ntmps) (finishK T0 false 0 Try.f42) = (t42 n).get := by kernel_rfl
theorem ok42 : os42.Ok Try.prog := by
  refine os_ok mixed0 tab0 (orcB_sound (all_cons okf41w all_nil) all_nil) h42 (d := 0) (n0 := 0) (S := lsOf []) Try.func42 (by kernel_rfl) (c := c42) (by kernel_rfl) rfl (no_loops (by kernel_rfl)) (by omega) (by kernel_rfl) ?_
  intro x'' y'' q'' hq''
  obtain ⟨(n : List UInt8), _⟩ := x''
  exact (fn42 n).trans hq''
def fs42 : FSpec := fsT 42 [(.str, false)] [(.str, false), (.bool, false)] fun (n, _) => t42 n
theorem okf42 : fs42.Ok Try.prog := fsT_ok fun x'' r'' hr'' => ok42 x'' () r'' hr''
theorem len_big {n : List UInt8} (h : n.length ≤ 1000000000000) : bigS n = true := by simp [bigS]; omega
theorem big_len {n : List UInt8} (h : bigS n = true) : n.length ≤ 1000000000000 := by simpa [bigS] using h
def fs42w : FSpec := fs42.like fun (n, _) => .br (bigS n) (.br (mayV n && !(n == [0])) (.ret (tlN n, true, ())) (.ret (([] : List UInt8), false, ()))) .no
theorem okf42w : fs42w.Ok Try.prog := by
  refine flike_ok okf42 _ ?_
  rintro ⟨(n : List UInt8), _⟩ y h
  simp only [Tr.get] at h
  cases hb : bigS n with
  | false => rw [hb] at h; cases h
  | true =>
    rw [hb, cond_true] at h
    have hl := big_len hb
    by_cases hc : mayV n = true ∧ n ≠ [0]
    · obtain ⟨hm, hn⟩ := hc
      rw [hm, show (n == [0]) = false by simpa using hn] at h
      cases h
      refine convR_of (vs := [.str (tlN n), .bool true]) rfl rfl (Tr.get_of_all ?_)
      show (t42 n).all _
      unfold t42
      rcases root_cases (may_iff.1 hm).1 with rfl | ⟨_, hn0, hlt, _, _, _⟩
      · exact absurd rfl hn
      simp only [szW, tlW]
      refine Tr.all_t hb (Tr.all_f (by rw [hm]; rfl) (Tr.all_f (by simpa using hn) (Tr.all_t (dec_true (by omega)) (Tr.all_t (by rw [dec_true (by omega), dec_true (by omega)]; rfl) (Tr.all_t (by rw [dec_true (by omega), dec_true (by omega)]; rfl) (Tr.all_ret rfl))))))
    · have hf : (mayV n && !(n == [0])) = false := by
        cases hm : mayV n with
        | false => rfl
        | true =>
          have : n = [0] := Classical.byContradiction fun e => hc ⟨hm, e⟩
          rw [this]
          rfl
      rw [hf] at h
      cases h
      refine convR_of (vs := [.str [], .bool false]) rfl rfl (Tr.get_of_all ?_)
      show (t42 n).all _
      unfold t42
      refine Tr.all_t hb (Tr.all_br (fun _ => Tr.all_ret rfl) fun hm => Tr.all_br (fun _ => Tr.all_ret rfl) fun hn => ?_)
      have hm : mayV n = true := by cases h : mayV n; (rw [h] at hm; cases hm); rfl
      rw [hm, hn] at hf
      cases hf
def t32 (n : List UInt8) : Tr Res := Tr.br (bigS n) (Tr.br (rootV n) (Tr.br (decide (List.length n > 255)) (Tr.br (bigS n) (Tr.br (!mayV n) (Tr.ret ([AV.int IntKind.i64 (-1 : Int)], [])) (Tr.ret ([AV.int IntKind.i64 (↑0 : Int)], []))) Tr.no) (Tr.br (bigS n) (Tr.br (!mayV n) (Tr.ret ([AV.int IntKind.i64 (-1 : Int)], [])) (Tr.ret ([AV.int IntKind.i64 (↑(List.length (labsV n)) : Int)], []))) Tr.no)) (Tr.br (bigS n) (Tr.br (!mayV n) (Tr.ret ([AV.int IntKind.i64 (-1 : Int)], [])) (Tr.ret ([AV.int IntKind.i64 (↑0 : Int)], []))) Tr.no)) Tr.no
def os32 : OSpec := { f := 32, sh := [.d .str false], so := [], F := fun (n, _) _ => t32 n }
set_option maxRecDepth 1000000 in
theorem fn32 (n : List UInt8) : evC T0 (orcB [fs41w, fs58] []) (lpOf h32 0 (lsOf [])) c32 1000000 (startSt [.str n] [] Try.f32.ntmps) (finishK T0 false 0 Try.f32) = (t32 n).get := by kernel_rfl
theorem ok32 : os32.Ok Try.prog := by
  refine os_ok mixed0 tab0 (orcB_sound (all_cons okf41w (all_cons okf58 all_nil)) all_nil) h32 (d := 0) (n0 := 0) (S := lsOf []) Try.func32 (by kernel_rfl) (c := c32) (by kernel_rfl) rfl (no_loops (by kernel_rfl)) (by omega) (by kernel_rfl) ?_
  intro x'' y'' q'' hq''
  obtain ⟨(n : List UInt8), _⟩ := x''
  exact (fn32 n).trans hq''
def fs32 : FSpec := fsT 32 [(.str, false)] [((.int .i64), false)] fun (n, _) => t32 n
theorem okf32 : fs32.Ok Try.prog := fsT_ok fun x'' r'' hr'' => ok32 x'' () r'' hr''
def t46 (n : List UInt8) : Tr Res := Tr.br (bigS n) (Tr.br (!mayV n) (Tr.ret ([AV.int IntKind.i64 (-1 : Int)], [])) (Tr.br (bigS n) (Tr.br (rootV n) (Tr.br (decide (List.length n > 255)) (Tr.ret ([AV.int IntKind.i64 (↑0 : Int)], [])) (Tr.ret ([AV.int IntKind.i64 (↑(List.length (labsV n)) : Int)], []))) (Tr.ret ([AV.int IntKind.i64 (↑0 : Int)], []))) Tr.no)) Tr.no
def os46 : OSpec := { f := 46, sh := [.d .str false], so := [], F := fun (n, _) _ => t46 n }
set_option maxRecDepth 1000000 in
theorem fn46 (n : List UInt8) : evC T0 (orcB [fs75v, fs45v] []) (lpOf h46 0 (lsOf [])) c46 1000000 (startSt [.str n] [] Try.f46.ntmps) (finishK T0 false 0 Try.f46) = (t46 n).get := by kernel_rfl
theorem ok46 : os46.Ok Try.prog := by
  refine os_ok mixed0 tab0 (orcB_sound (all_cons okf75v (all_cons okf45v all_nil)) all_nil) h46 (d := 0) (n0 := 0) (S := lsOf []) Try.func46 (by kernel_rfl) (c := c46) (by kernel_rfl) rfl (no_loops (by kernel_rfl)) (by omega) (by kernel_rfl) ?_
  intro x'' y'' q'' hq''
  obtain ⟨(n : List UInt8), _⟩ := x''
  exact (fn46 n).trans hq''
def fs46 : FSpec := fsT 46 [(.str, false)] [((.int .i64), false)] fun (n, _) => t46 n
theorem okf46 : fs46.Ok Try.prog := fsT_ok fun x'' r'' hr'' => ok46 x'' () r'' hr''
theorem not_may {n : List UInt8} (h : (!mayV n) = true) : mayV n = false := by cases hm : mayV n; rfl; (rw [hm] at h; cases h)
theorem is_may {n : List UInt8} (h : (!mayV n) = false) : mayV n = true := by cases hm : mayV n; (rw [hm] at h; cases h); rfl
theorem depV_not {n : List UInt8} (h : mayV n = false) : depV n = -1 := by unfold depV; rw [h]; rfl
theorem depV_may {n : List UInt8} (h : mayV n = true) : depV n = ((labsV n).length : Int) := by unfold depV; rw [h]; rfl
def fs32w : FSpec := fs32.like fun (n, _) => .on (bigS n) (depV n, ())
theorem okf32w : fs32w.Ok Try.prog := by
  refine flike_ok okf32 _ ?_
  rintro ⟨(n : List UInt8), _⟩ y h
  obtain ⟨hb, rfl⟩ := Tr.get_on h
  have hb : bigS n = true := hb
  refine convR_of (vs := [.int .i64 (depV n)]) rfl rfl (Tr.get_of_all ?_)
  show (t32 n).all _
  unfold t32
  refine Tr.all_t hb (Tr.all_br (fun hr => Tr.all_br (fun hl => Tr.all_t hb (Tr.all_br (fun hm => Tr.all_ret (by rw [depV_not (not_may hm)])) fun hm => ?_)) fun hl => Tr.all_t hb (Tr.all_br (fun hm => Tr.all_ret (by rw [depV_not (not_may hm)])) fun hm => Tr.all_ret (by rw [depV_may (is_may hm)]))) fun hr => Tr.all_t hb (Tr.all_br (fun hm => Tr.all_ret (by rw [depV_not (not_may hm)])) fun hm => ?_))
  · have := (may_iff.1 (is_may hm)).2.1
    have := of_decide_eq_true hl
    omega
  · rw [(may_iff.1 (is_may hm)).1] at hr
    cases hr
def fs46w : FSpec := fs46.like fun (n, _) => .on (bigS n) (depV n, ())
theorem okf46w : fs46w.Ok Try.prog := by
  refine flike_ok okf46 _ ?_
  rintro ⟨(n : List UInt8), _⟩ y h
  obtain ⟨hb, rfl⟩ := Tr.get_on h
  have hb : bigS n = true := hb
  refine convR_of (vs := [.int .i64 (depV n)]) rfl rfl (Tr.get_of_all ?_)
  show (t46 n).all _
  unfold t46
  refine Tr.all_t hb (Tr.all_br (fun hm => Tr.all_ret (by rw [depV_not (not_may hm)])) fun hm => ?_)
  rw [depV_may (is_may hm)]
  obtain ⟨h1, h2, h3⟩ := may_iff.1 (is_may hm)
  exact Tr.all_t hb (Tr.all_t h1 (Tr.all_f (dec_false (by omega)) (Tr.all_ret rfl)))
def unC (n z : List UInt8) (ok : Bool) : Bool := ok == mayV n && Nat.ble n.length 1000000
noncomputable def b31 : Code := nthLoop c31 0
def ls31 : LoopSpec := { bid := 0, sh := [.d .str false, .d .str false, .d .bool false], so := [], F := fun (n, z, ok, _) _ => .on2 (unC n z ok) (!(mayV n && sufB n z)) (.exit 0, [.dead], []) (.ret, [.bool true], []) }
def r31 (n : List UInt8) (z : List UInt8) (ok : Bool) : Tr (St ⊕ (Ex × St)) := Tr.br ok (Tr.br (n == z) (Tr.ret (Sum.inr (Ex.ret, stOf [4] [AV.bool true] []))) (Tr.br (bigS n) (Tr.br (mayV n && !n == [0]) (Tr.ret (Sum.inl (stOf [0, 1, 5] [AV.str (tlN n), AV.str z, AV.bool true] []))) (Tr.ret (Sum.inl (stOf [0, 1, 5] [AV.str [], AV.str z, AV.bool false] [])))) Tr.no)) (Tr.ret (Sum.inr (Ex.exit 0, stOf [4] [AV.dead] [])))
set_option maxRecDepth 1000000 in
theorem round31 (lp : Lp) (n : List UInt8) (z : List UInt8) (ok : Bool) : evC T0 (orcB [fs42w] []) lp b31 0 (stOf [0, 1, 5] [.str n, .str z, .bool ok] []) (roundK [0, 1, 5] [4] 0) = (r31 n z ok).get := by kernel_rfl
theorem wf31 (z : List UInt8) (I'' : List UInt8 → Bool → Prop) (m'' : List UInt8 → Bool → Nat) (r'' : Ex × St) (h : ∀ (n : List UInt8) (ok : Bool), I'' n ok → (r31 n z ok).all fun x'' => x'' = .inr r'' ∨ ∃ (n' : List UInt8) (ok' : Bool), x'' = .inl (stOf [0, 1, 5] [.str n', .str z, .bool ok'] []) ∧ I'' n' ok' ∧ m'' n' ok' < m'' n ok) (lp : Lp) (n : List UInt8) (ok : Bool) : I'' n ok →
    loopF (fun st => evC T0 (orcB [fs42w] []) lp b31 0 st (roundK [0, 1, 5] [4] 0)) (stOf [0, 1, 5] [.str n, .str z, .bool ok] []) = some r'' :=
  loop_tr (fun a'' : List UInt8 × Bool => stOf [0, 1, 5] [.str a''.1, .str z, .bool a''.2] []) (fun a'' => I'' a''.1 a''.2) (fun a'' => m'' a''.1 a''.2) r'' (fun a'' => r31 a''.1 z a''.2)
    (fun a'' x hx => (round31 lp a''.1 z a''.2).trans hx) (fun a'' ha => Tr.all_mono (fun x'' hx => hx.imp id fun ⟨n', ok', h1, h2, h3⟩ => ⟨(n', ok'), h1, h2, h3⟩) (h (a''.1) (a''.2) ha)) (n, ok)
theorem loop31 : ls31.Ok T0 (orcB [fs42w] []) h31 0 0 b31 := by
  intro q'' hq'' x'' y'' r'' h
  obtain ⟨(n : List UInt8), (z : List UInt8), (ok : Bool), _⟩ := x''
  obtain ⟨hc, rfl⟩ := Tr.get_on2 h
  show loopF (fun st => evC T0 (orcB [fs42w] []) (lpN T0 (orcB [fs42w] []) h31 0 q'') b31 0 st (roundK [0, 1, 5] [4] 0)) (stOf [0, 1, 5] [.str n, .str z, .bool ok] []) = some ((bif !(mayV n && sufB n z) then (.exit 0, [.dead], []) else (.ret, [.bool true], []) : Ex × List AV × List LObj).1, stOf [4] (bif !(mayV n && sufB n z) then (.exit 0, [.dead], []) else (.ret, [.bool true], []) : Ex × List AV × List LObj).2.1 (bif !(mayV n && sufB n z) then (.exit 0, [.dead], []) else (.ret, [.bool true], []) : Ex × List AV × List LObj).2.2)
  simp only [unC, Bool.and_eq_true, beq_iff_eq] at hc
  obtain ⟨rfl, hb⟩ := hc
  have hb := Nat.le_of_ble_eq_true hb
  refine wf31 z (fun m o => o = mayV m ∧ m.length ≤ 1000000 ∧ (mayV n && sufB n z) = (mayV m && sufB m z)) (fun m o => m.length + (bif o then 1 else 0)) _ ?_ _ n (mayV n) ⟨rfl, hb, rfl⟩
  rintro m _ ⟨rfl, hl, he⟩
  rw [he]
  unfold r31
  cases hm : mayV m with
  | false => exact Tr.all_f rfl (Tr.all_ret (.inl rfl))
  | true =>
    have hm0 := may_ne hm
    rw [sufB]
    refine Tr.all_t rfl (Tr.all_br (fun hz => Tr.all_ret (.inl ?_)) fun hz => Tr.all_t (len_big (by omega)) ?_)
    · rw [if_pos (beq_iff_eq.1 hz)]; rfl
    · rw [if_neg (beq_eq_false_iff_ne.1 hz)]
      by_cases h0 : m = [0]
      · subst h0
        refine Tr.all_f rfl (Tr.all_ret (.inr ⟨_, _, rfl, ⟨?_, by simp, ?_⟩, by simp⟩))
        · rw [may_nil]
        · rw [dif_pos (.inr rfl), may_nil]; rfl
      · rw [dif_neg (by simp [hm0, h0])]
        have hlt := tlN_lt hm0
        refine Tr.all_t (by simpa using h0) (Tr.all_ret (.inr ⟨_, _, rfl, ⟨?_, by omega, ?_⟩, ?_⟩))
        · exact (may_tl hm h0).symm
        · rw [may_tl hm h0]
        · simp; omega
end Go.Proofs.YtkobjdhbfepkaaaE
namespace Go.Proofs.YtkobjdhbfepkaaaE
open Go Go.Proofs.YtkobjdhbfepkaaaB
set_option linter.unusedVariables false
set_option linter.unusedSimpArgs false
set_option maxRecDepth 100000
def smN (n : List UInt8) : Bool := Nat.ble n.length 1000000
theorem smN_iff {n : List UInt8} : smN n = true ↔ n.length ≤ 1000000 := by unfold smN; exact ⟨Nat.le_of_ble_eq_true, Nat.ble_eq_true_of_le⟩
def t31 (n : List UInt8) (z : List UInt8) : Tr Res := Tr.br (bigS z) (Tr.br (!mayV z) (Tr.ret ([AV.bool false], [])) (Tr.br (bigS n) (Tr.br (unC n z (mayV n)) (Tr.br (!(mayV n && sufB n z)) (Tr.ret ([AV.bool false], [])) (Tr.ret ([AV.bool true], []))) Tr.no) Tr.no)) Tr.no
def os31 : OSpec := { f := 31, sh := [.d .str false, .d .str false], so := [], F := fun (n, z, _) _ => t31 n z }
set_option maxRecDepth 1000000 in
theorem fn31 (n : List UInt8) (z : List UInt8) : evC T0 (orcB [fs41w, fs42w] []) (lpOf h31 0 (lsOf [ls31])) c31 1000000 (startSt [.str n, .str z] [] Try.f31.ntmps) (finishK T0 false 0 Try.f31) = (t31 n z).get := by kernel_rfl
theorem ok31 : os31.Ok Try.prog := by
  refine os_ok mixed0 tab0 (orcB_sound (all_cons okf41w (all_cons okf42w all_nil)) all_nil) h31 (d := 0) (n0 := 0) (S := lsOf [ls31]) Try.func31 (by kernel_rfl) (c := c31) (by kernel_rfl) rfl (loops_eq (xs := [(0, b31)]) (by kernel_rfl) (all_cons (ls_here loop31) all_nil)) (by omega) (by kernel_rfl) ?_
  intro x'' y'' q'' hq''
  obtain ⟨(n : List UInt8), (z : List UInt8), _⟩ := x''
  exact (fn31 n z).trans hq''
def fs31 : FSpec := fsT 31 [(.str, false), (.str, false)] [(.bool, false)] fun (n, z, _) => t31 n z
theorem okf31 : fs31.Ok Try.prog := fsT_ok fun x'' r'' hr'' => ok31 x'' () r'' hr''
def fs31w : FSpec := fs31.like fun (n, z, _) => .on (smN n && smN z) (undV n z, ())
theorem okf31w : fs31w.Ok Try.prog := by
  refine flike_ok okf31 _ ?_
  rintro ⟨(n : List UInt8), (z : List UInt8), _⟩ y h
  obtain ⟨hb, rfl⟩ := Tr.get_on h
  obtain ⟨hb1, hb2⟩ := Bool.and_eq_true_iff.1 (show (smN n && smN z) = true from hb)
  have hb1 := smN_iff.1 hb1
  have hb2 := smN_iff.1 hb2
  refine convR_of (vs := [.bool (undV n z)]) rfl rfl (Tr.get_of_all ?_)
  show (t31 n z).all _
  unfold t31 undV
  refine Tr.all_t (len_big (by omega)) (Tr.all_br (fun hz => Tr.all_ret (by rw [not_may hz]; rfl)) fun hz => ?_)
  rw [is_may hz]
  have hc : unC n z (mayV n) = true := by unfold unC; rw [Nat.ble_eq_true_of_le (by omega)]; simp
  refine Tr.all_t (len_big (by omega)) (Tr.all_t hc (Tr.all_br (fun hs => ?_) fun hs => ?_))
  · have hs : (mayV n && sufB n z) = false := by
      cases h : (mayV n && sufB n z)
      · rfl
      · rw [h] at hs; cases hs
    rw [hs]; exact Tr.all_ret rfl
  · have hs : (mayV n && sufB n z) = true := by
      cases h : (mayV n && sufB n z)
      · rw [h] at hs; cases hs
      · rfl
    rw [hs]; exact Tr.all_ret rfl
def joinV (l : List (List UInt8)) : List UInt8 := (l.map fun x => UInt8.ofNat x.length :: x).flatten ++ [0]
theorem labs_root : labsV [0] = [] := by unfold labsV; rw [eachF]; simp
theorem labs_next {n : List UInt8} (h : rootV n = true) (h0 : n ≠ [0]) : labsV n = (hdN n).tail :: labsV (tlN n) := by
  rcases root_cases h with rfl | ⟨_, hne, hlt, h63, hn0, _⟩
  · exact absurd rfl h0
  · cases n with
    | nil => exact absurd rfl hne
    | cons c t =>
      simp only [List.getD_cons_zero, List.length_cons] at hlt h63 hn0
      unfold labsV
      rw [eachF, if_neg (by omega)]
      unfold hdN tlN
      simp only [List.getD_cons_zero]
      rw [Nat.add_comm 1, List.take_succ_cons, List.drop_succ_cons]
      rfl
theorem join_labs : ∀ (m : Nat) (n : List UInt8), n.length = m → rootV n = true → joinV (labsV n) = n := by
  intro m
  induction m using Nat.strongRecOn with
  | ind m ih =>
    intro n hm h
    by_cases h0 : n = [0]
    · subst h0; rw [labs_root]; rfl
    · rcases root_cases h with rfl | ⟨_, hne, hlt, h63, hn0, hr⟩
      · exact absurd rfl h0
      have h1 := ih (tlN n).length (by have := tlN_lt hne; omega) (tlN n) rfl hr
      rw [labs_next h h0]
      unfold joinV at h1 ⊢
      rw [List.map_cons, List.flatten_cons, List.append_assoc, h1]
      cases n with
      | nil => exact absurd rfl hne
      | cons c t =>
        simp only [List.getD_cons_zero, List.length_cons] at hlt h63 hn0
        unfold hdN tlN
        simp only [List.getD_cons_zero]
        rw [Nat.add_comm 1, List.take_succ_cons, List.drop_succ_cons, List.tail_cons, List.length_take, Nat.min_eq_left (by omega), UInt8.ofNat_toNat, List.cons_append, List.take_append_drop]
theorem labs_inj {a b : List UInt8} (ha : rootV a = true) (hb : rootV b = true) (h : labsV a = labsV b) : a = b := by
  rw [← join_labs _ a rfl ha, ← join_labs _ b rfl hb, h]
theorem suf_labs : ∀ (m : Nat) (n z : List UInt8), n.length = m → rootV n = true → rootV z = true → (sufB n z = true ↔ labsV z <:+ labsV n) := by
  intro m
  induction m using Nat.strongRecOn with
  | ind m ih =>
    intro n z hm hn hz
    rw [sufB]
    by_cases he : n = z
    · subst he; simp
    · rw [if_neg he]
      by_cases h0 : n = [0]
      · subst h0
        rw [dif_pos (.inr rfl), labs_root]
        constructor
        · intro h; cases h
        · intro h
          have := List.suffix_nil.1 h
          exact absurd (labs_inj hn hz (by rw [this, labs_root])) he
      · rcases root_cases hn with rfl | ⟨_, hne, hlt, h63, hn0, hr⟩
        · exact absurd rfl h0
        rw [dif_neg (by simp [hne, h0]), ih (tlN n).length (by have := tlN_lt hne; omega) (tlN n) z rfl hr hz]
        rw [labs_next hn h0, List.suffix_cons_iff]
        constructor
        · exact .inr
        · rintro (h | h)
          · exact absurd (labs_inj hn hz (by rw [labs_next hn h0, h])) he
          · exact h
def sfxB (a b : List (List UInt8)) : Bool := decide (b.length ≤ a.length) && (a.drop (a.length - b.length) == b)
theorem sfxB_iff {a b : List (List UInt8)} : sfxB a b = true ↔ b <:+ a := by
  unfold sfxB
  rw [Bool.and_eq_true, decide_eq_true_eq, beq_iff_eq]
  constructor
  · rintro ⟨h1, h2⟩
    exact ⟨a.take (a.length - b.length), by
      have := List.take_append_drop (a.length - b.length) a
      rw [h2] at this
      exact this⟩
  · rintro ⟨t, rfl⟩
    exact ⟨by simp, by simp⟩
theorem und_sfx {n z : List UInt8} : undV n z = (mayV n && (mayV z && sfxB (labsV n) (labsV z))) := by
  unfold undV
  cases hz : mayV z with
  | false => cases mayV n <;> rfl
  | true =>
    cases hn : mayV n with
    | false => rfl
    | true =>
      have h := suf_labs _ n z rfl (may_iff.1 hn).1 (may_iff.1 hz).1
      rw [← sfxB_iff] at h
      cases h1 : sufB n z <;> cases h2 : sfxB (labsV n) (labsV z) <;> simp_all
def ruC (a b : List (List UInt8)) (i : Int) : Bool := decide (b.length ≤ a.length) && (Nat.ble a.length 1000000 && decide (i = 0))
noncomputable def b44 : Code := nthLoop c44 0
def ls44 : LoopSpec := { bid := 0, sh := [.d (.list .str) false, .d (.list .str) false, .d (.int .i64) false], so := [], F := fun (a, b, i, _) _ => .on2 (ruC a b i) (sfxB a b) (.exit 0, [.dead], []) (.ret, [.bool false], []) }
def r44 (a : List (List UInt8)) (b : List (List UInt8)) (i : Int) : Tr (St ⊕ (Ex × St)) := Tr.br (decide (i < (↑(List.length b) : Int))) (Tr.br (decide ((0 : Int) ≤ IntKind.wrap IntKind.i64 (IntKind.wrap IntKind.i64 ((↑(List.length a) : Int) - (↑(List.length b) : Int)) + i))) (Tr.br (decide (IntKind.wrap IntKind.i64 (IntKind.wrap IntKind.i64 ((↑(List.length a) : Int) - (↑(List.length b) : Int)) + i) < (↑(List.length a) : Int))) (Tr.br (decide ((0 : Int) ≤ i)) (Tr.br (decide (i < (↑(List.length b) : Int))) (Tr.br (!List.getD a (Int.toNat (IntKind.wrap IntKind.i64 (IntKind.wrap IntKind.i64 ((↑(List.length a) : Int) - (↑(List.length b) : Int)) + i))) (Ty.dflt Ty.str) == List.getD b (Int.toNat i) (Ty.dflt Ty.str)) (Tr.ret (Sum.inr (Ex.ret, stOf [4] [AV.bool false] []))) (Tr.ret (Sum.inl (stOf [5, 7, 9] [AV.list Ty.str a, AV.list Ty.str b, AV.int IntKind.i64 (IntKind.wrap IntKind.i64 (i + (1 : Int)))] [])))) Tr.no) Tr.no) Tr.no) Tr.no) (Tr.ret (Sum.inr (Ex.exit 0, stOf [4] [AV.dead] [])))
set_option maxRecDepth 1000000 in
theorem round44 (lp : Lp) (a : List (List UInt8)) (b : List (List UInt8)) (i : Int) : evC T0 (orcB [fs75v, fs45v] []) lp b44 0 (stOf [5, 7, 9] [.list .str a, .list .str b, .int .i64 i] []) (roundK [5, 7, 9] [4] 0) = (r44 a b i).get := by kernel_rfl
theorem wf44 (a : List (List UInt8)) (b : List (List UInt8)) (I'' : Int → Prop) (m'' : Int → Nat) (r'' : Ex × St) (h : ∀ (i : Int), I'' i → (r44 a b i).all fun x'' => x'' = .inr r'' ∨ ∃ (i' : Int), x'' = .inl (stOf [5, 7, 9] [.list .str a, .list .str b, .int .i64 i'] []) ∧ I'' i' ∧ m'' i' < m'' i) (lp : Lp) (i : Int) : I'' i →
    loopF (fun st => evC T0 (orcB [fs75v, fs45v] []) lp b44 0 st (roundK [5, 7, 9] [4] 0)) (stOf [5, 7, 9] [.list .str a, .list .str b, .int .i64 i] []) = some r'' :=
  loop_tr (fun a'' : Int => stOf [5, 7, 9] [.list .str a, .list .str b, .int .i64 a''] []) (fun a'' => I'' a'') (fun a'' => m'' a'') r'' (fun a'' => r44 a b a'')
    (fun a'' x hx => (round44 lp a b a'').trans hx) (fun a'' ha => Tr.all_mono (fun x'' hx => hx.imp id fun ⟨i', h1, h2, h3⟩ => ⟨(i'), h1, h2, h3⟩) (h (a'') ha)) (i)
theorem drop_cons2 {α : Type} {l : List α} {k : Nat} (h : k < l.length) (x : α) : l.drop k = l.getD k x :: l.drop (k + 1) := by
  rw [List.getD_eq_getElem?_getD, List.getElem?_eq_getElem h]
  exact List.drop_eq_getElem_cons h
theorem loop44 : ls44.Ok T0 (orcB [fs75v, fs45v] []) h44 0 0 b44 := by
  intro q'' hq'' x'' y'' r'' h
  obtain ⟨(a : List (List UInt8)), (b : List (List UInt8)), (i : Int), _⟩ := x''
  obtain ⟨hc, rfl⟩ := Tr.get_on2 h
  show loopF (fun st => evC T0 (orcB [fs75v, fs45v] []) (lpN T0 (orcB [fs75v, fs45v] []) h44 0 q'') b44 0 st (roundK [5, 7, 9] [4] 0)) (stOf [5, 7, 9] [.list .str a, .list .str b, .int .i64 i] []) = some ((bif sfxB a b then (.exit 0, [.dead], []) else (.ret, [.bool false], []) : Ex × List AV × List LObj).1, stOf [4] (bif sfxB a b then (.exit 0, [.dead], []) else (.ret, [.bool false], []) : Ex × List AV × List LObj).2.1 (bif sfxB a b then (.exit 0, [.dead], []) else (.ret, [.bool false], []) : Ex × List AV × List LObj).2.2)
  simp only [ruC, Bool.and_eq_true, decide_eq_true_eq] at hc
  obtain ⟨hba, hb, rfl⟩ := hc
  have hb := Nat.le_of_ble_eq_true hb
  refine wf44 a b (fun i => 0 ≤ i ∧ i ≤ b.length ∧ sfxB a b = (a.drop (a.length - b.length + i.toNat) == b.drop i.toNat)) (fun i => (b.length - i).toNat) _ ?_ _ 0 ⟨by omega, by omega, ?_⟩
  · rintro i ⟨h0, h1, he⟩
    rw [he]
    unfold r44
    by_cases hi : i < b.length
    · have hx : IntKind.wrap IntKind.i64 (IntKind.wrap IntKind.i64 ((a.length : Int) - (b.length : Int)) + i) = (a.length : Int) - b.length + i := by
        rw [IntWalk.i64_in ((a.length : Int) - (b.length : Int)) (by omega), IntWalk.i64_in _ (by omega)]
      have hn : ((a.length : Int) - (b.length : Int) + i).toNat = a.length - b.length + i.toNat := by omega
      simp only [hx]
      rw [hn, drop_cons2 (l := a) (k := a.length - b.length + i.toNat) (by omega) (Ty.dflt Ty.str), drop_cons2 (l := b) (k := i.toNat) (by omega) (Ty.dflt Ty.str)]
      generalize a.getD (a.length - b.length + i.toNat) (Ty.dflt Ty.str) = x
      generalize b.getD i.toNat (Ty.dflt Ty.str) = y
      refine Tr.all_t (dec_true hi) (Tr.all_t (dec_true (by omega)) (Tr.all_t (dec_true (by omega)) (Tr.all_t (dec_true h0) (Tr.all_t (dec_true hi) (Tr.all_br (fun hq => Tr.all_ret (.inl ?_)) fun hq => Tr.all_ret (.inr ?_))))))
      · have hxy : (x == y) = false := by cases h : x == y; rfl; (rw [h] at hq; cases hq)
        rw [List.cons_beq_cons, hxy]
        rfl
      · have hxy : (x == y) = true := by cases h : x == y; (rw [h] at hq; cases hq); rfl
        refine ⟨_, rfl, ⟨?_, ?_, ?_⟩, ?_⟩
        · rw [IntWalk.i64_in _ (by omega)]; omega
        · rw [IntWalk.i64_in _ (by omega)]; omega
        · rw [IntWalk.i64_in _ (by omega), List.cons_beq_cons, hxy, Bool.true_and, show (i + 1).toNat = i.toNat + 1 by omega, ← Nat.add_assoc]
        · rw [IntWalk.i64_in _ (by omega)]; omega
    · refine Tr.all_f (dec_false hi) (Tr.all_ret (.inl ?_))
      rw [show i.toNat = b.length by omega, List.drop_eq_nil_of_le (Nat.le_refl b.length), List.drop_eq_nil_of_le (by omega)]
      rfl
  · unfold sfxB
    rw [decide_eq_true hba]
    simp
def t44 (n : List UInt8) (z : List UInt8) : Tr Res := Tr.br (bigS n) (Tr.br (!mayV n) (Tr.ret ([AV.bool false], [])) (Tr.br (bigS z) (Tr.br (!mayV z) (Tr.ret ([AV.bool false], [])) (Tr.br (bigS n) (Tr.br (rootV n) (Tr.br (decide (List.length n > 255)) (Tr.br (bigS z) (Tr.br (rootV z) (Tr.br (decide (List.length z > 255)) (Tr.ret ([AV.bool true], [])) (Tr.br (decide ((↑0 : Int) < (↑(List.length (labsV z)) : Int))) (Tr.ret ([AV.bool false], [])) (Tr.br (ruC [] (labsV z) (0 : Int)) (Tr.br (sfxB [] (labsV z)) (Tr.ret ([AV.bool true], [])) (Tr.ret ([AV.bool false], []))) Tr.no))) (Tr.ret ([AV.bool true], []))) Tr.no) (Tr.br (bigS z) (Tr.br (rootV z) (Tr.br (decide (List.length z > 255)) (Tr.br (ruC (labsV n) [] (0 : Int)) (Tr.br (sfxB (labsV n) []) (Tr.ret ([AV.bool true], [])) (Tr.ret ([AV.bool false], []))) Tr.no) (Tr.br (decide ((↑(List.length (labsV n)) : Int) < (↑(List.length (labsV z)) : Int))) (Tr.ret ([AV.bool false], [])) (Tr.br (ruC (labsV n) (labsV z) (0 : Int)) (Tr.br (sfxB (labsV n) (labsV z)) (Tr.ret ([AV.bool true], [])) (Tr.ret ([AV.bool false], []))) Tr.no))) (Tr.br (ruC (labsV n) [] (0 : Int)) (Tr.br (sfxB (labsV n) []) (Tr.ret ([AV.bool true], [])) (Tr.ret ([AV.bool false], []))) Tr.no)) Tr.no)) (Tr.br (bigS z) (Tr.br (rootV z) (Tr.br (decide (List.length z > 255)) (Tr.ret ([AV.bool true], [])) (Tr.br (decide ((↑0 : Int) < (↑(List.length (labsV z)) : Int))) (Tr.ret ([AV.bool false], [])) (Tr.br (ruC [] (labsV z) (0 : Int)) (Tr.br (sfxB [] (labsV z)) (Tr.ret ([AV.bool true], [])) (Tr.ret ([AV.bool false], []))) Tr.no))) (Tr.ret ([AV.bool true], []))) Tr.no)) Tr.no)) Tr.no)) Tr.no
def os44 : OSpec := { f := 44, sh := [.d .str false, .d .str false], so := [], F := fun (n, z, _) _ => t44 n z }
set_option maxRecDepth 1000000 in
theorem fn44 (n : List UInt8) (z : List UInt8) : evC T0 (orcB [fs75v, fs45v] []) (lpOf h44 0 (lsOf [ls44])) c44 1000000 (startSt [.str n, .str z] [] Try.f44.ntmps) (finishK T0 false 0 Try.f44) = (t44 n z).get := by kernel_rfl
theorem ok44 : os44.Ok Try.prog := by
  refine os_ok mixed0 tab0 (orcB_sound (all_cons okf75v (all_cons okf45v all_nil)) all_nil) h44 (d := 0) (n0 := 0) (S := lsOf [ls44]) Try.func44 (by kernel_rfl) (c := c44) (by kernel_rfl) rfl (loops_eq (xs := [(0, b44)]) (by kernel_rfl) (all_cons (ls_here loop44) all_nil)) (by omega) (by kernel_rfl) ?_
  intro x'' y'' q'' hq''
  obtain ⟨(n : List UInt8), (z : List UInt8), _⟩ := x''
  exact (fn44 n z).trans hq''
def fs44 : FSpec := fsT 44 [(.str, false), (.str, false)] [(.bool, false)] fun (n, z, _) => t44 n z
theorem okf44 : fs44.Ok Try.prog := fsT_ok fun x'' r'' hr'' => ok44 x'' () r'' hr''
theorem labs_len : ∀ (m : Nat) (n : List UInt8), n.length = m → rootV n = true → 2 * (labsV n).length + 1 ≤ n.length := by
  intro m
  induction m using Nat.strongRecOn with
  | ind m ih =>
    intro n hm h
    by_cases h0 : n = [0]
    · subst h0; rw [labs_root]; simp
    · rcases root_cases h with rfl | ⟨_, hne, hlt, h63, hn0, hr⟩
      · exact absurd rfl h0
      have h1 := ih (tlN n).length (by have := tlN_lt hne; omega) (tlN n) rfl hr
      have h2 := tlN_len n
      rw [labs_next h h0, List.length_cons]
      omega
def fs44w : FSpec := fs44.like fun (n, z, _) => .on (smN n && smN z) (undV n z, ())
theorem okf44w : fs44w.Ok Try.prog := by
  refine flike_ok okf44 _ ?_
  rintro ⟨(n : List UInt8), (z : List UInt8), _⟩ y h
  obtain ⟨hb, rfl⟩ := Tr.get_on h
  obtain ⟨hb1, hb2⟩ := Bool.and_eq_true_iff.1 (show (smN n && smN z) = true from hb)
  have hb1 := smN_iff.1 hb1
  have hb2 := smN_iff.1 hb2
  refine convR_of (vs := [.bool (undV n z)]) rfl rfl (Tr.get_of_all ?_)
  show (t44 n z).all _
  unfold t44
  rw [und_sfx]
  have bn : bigS n = true := len_big (by omega)
  have bz : bigS z = true := len_big (by omega)
  refine Tr.all_t bn (Tr.all_br (fun hn => Tr.all_ret (by rw [not_may hn]; rfl)) fun hn => Tr.all_t bz (Tr.all_br (fun hz => Tr.all_ret (by rw [not_may hz, is_may hn]; rfl)) fun hz => ?_))
  obtain ⟨n1, n2, n3⟩ := may_iff.1 (is_may hn)
  obtain ⟨z1, z2, z3⟩ := may_iff.1 (is_may hz)
  rw [is_may hn, is_may hz]
  have ln := labs_len _ n rfl n1
  have lz := labs_len _ z rfl z1
  refine Tr.all_t bn (Tr.all_t n1 (Tr.all_f (dec_false (by omega)) (Tr.all_t bz (Tr.all_t z1 (Tr.all_f (dec_false (by omega)) (Tr.all_br (fun hl => Tr.all_ret ?_) fun hl => ?_))))))
  · have := of_decide_eq_true hl
    unfold sfxB
    rw [decide_eq_false (by omega)]
    rfl
  · have := of_decide_eq_false hl
    refine Tr.all_t ?_ (Tr.all_br (fun hs => Tr.all_ret (by rw [hs]; rfl)) fun hs => Tr.all_ret (by rw [hs]; rfl))
    unfold ruC
    rw [decide_eq_true (by omega), Nat.ble_eq_true_of_le (by omega)]
    rfl
abbrev RR : Ty := .pair .str (.pair (.int .u16) (.pair (.int .u16) (.pair (.int .u32) .str)))
abbrev RRt := List UInt8 × (Int × (Int × (Int × List UInt8)))
abbrev ZN : Ty := .pair .str (.list RR)
abbrev ZNt := List UInt8 × List RRt
abbrev QQ : Ty := .pair .str (.pair (.int .u16) (.int .u16))
abbrev QQt := List UInt8 × (Int × Int)
abbrev MG : Ty := .pair (.int .u16) (.pair .bool (.pair .bool (.pair .bool (.pair .bool (.pair .bool (.pair (.int .i64) (.pair (.int .i64) (.pair (.list QQ) (.pair (.list RR) (.pair (.list RR) (.list RR)))))))))))
abbrev MGt := Int × (Bool × (Bool × (Bool × (Bool × (Bool × (Int × (Int × (List QQt × (List RRt × (List RRt × List RRt))))))))))
instance decRR : DecidableEq RRt := inferInstance
instance decLRR : DecidableEq (List RRt) := inferInstance
instance decZN : DecidableEq ZNt := inferInstanceAs (DecidableEq (List UInt8 × List RRt))
instance decLZN : DecidableEq (List ZNt) := inferInstance
end Go.Proofs.YtkobjdhbfepkaaaE
namespace Go.Proofs.YtkobjdhbfepkaaaE
open Go Go.Proofs.YtkobjdhbfepkaaaB
set_option linter.unusedVariables false
set_option linter.unusedSimpArgs false
set_option maxRecDepth 100000
def t74 (r : (List UInt8 × (Int × (Int × (Int × List UInt8))))) (n : List UInt8) (kind : Int) : Tr Res := Tr.br (Prod.fst r == n) (Tr.ret ([AV.bool (Prod.fst (Prod.snd r) == kind)], [LObj.boxT none [AV.str n], LObj.boxT none [AV.int IntKind.u16 kind]])) (Tr.ret ([AV.bool false], [LObj.boxT none [AV.str n], LObj.boxT none [AV.int IntKind.u16 kind]]))
def os74 : OSpec := { f := 74, sh := [.d RR true, .ptr 0 0, .ptr 1 0], so := [.box [.d .str false], .box [.d (.int .u16) false]], F := fun (r, _) ((n, _), (kind, _), _) => t74 r n kind }
set_option maxRecDepth 1000000 in
theorem fn74 (r : (List UInt8 × (Int × (Int × (Int × List UInt8))))) (n : List UInt8) (kind : Int) : evC T0 (orcB [] []) (lpOf h74 2 (lsOf [])) c74 1000000 (startSt [AV.ofTy RR r true, .ptr 0 0, .ptr 1 0] [.box [.str n], .box [.int .u16 kind]] Try.f74.ntmps) (finishK T0 false 2 Try.f74) = (t74 r n kind).get := by kernel_rfl
theorem ok74 : os74.Ok Try.prog := by
  refine os_ok mixed0 tab0 (orcB_sound all_nil all_nil) h74 (d := 0) (n0 := 2) (S := lsOf []) Try.func74 (by kernel_rfl) (c := c74) (by kernel_rfl) rfl (no_loops (by kernel_rfl)) (by omega) (by kernel_rfl) ?_
  intro x'' y'' q'' hq''
  obtain ⟨(r : (List UInt8 × (Int × (Int × (Int × List UInt8))))), _⟩ := x''
  obtain ⟨⟨(n : List UInt8), _⟩, ⟨(kind : Int), _⟩, _⟩ := y''
  exact (fn74 r n kind).trans hq''
def isOf (n : List UInt8) (kind : Int) (r : RRt) : Bool := r.1 == n && r.2.1 == kind
def ownV (ap : List UInt8) (f : RRt → Bool) (rs : List RRt) : List RRt := rs.filter fun r => undV r.1 ap && f r
def smR (rs : List RRt) : Bool := Nat.ble rs.length 1000000 && rs.all fun r => smN r.1
def ownC (ap : List UInt8) (rs l : List RRt) (m i : Int) : Bool := smN ap && (smR rs && (l.isEmpty && (decide (m = (rs.length : Int)) && decide (i = 0))))
def os74w : OSpec := os74.like fun (r, _) ((n, _), (kind, _), _) => .ret ([.bool (isOf n kind r)], [.boxT none [.str n], .boxT none [.int .u16 kind]])
theorem ok74w : os74w.Ok Try.prog := by
  refine like_ok ok74 _ ?_
  rintro ⟨(r : RRt), _⟩ ⟨⟨(n : List UInt8), _⟩, ⟨(kind : Int), _⟩, _⟩ r' h
  cases h
  refine Tr.get_of_all ?_
  show (t74 r n kind).all _
  unfold t74 isOf
  refine Tr.all_br (fun c => Tr.all_ret ?_) fun c => Tr.all_ret ?_
  · rw [c, Bool.true_and]
  · rw [c, Bool.false_and]
noncomputable def b49o : Code := nthLoop c49 0
def ls49o : LoopSpec := { bid := 0, sh := [.fnp 74 [(0, 0), (1, 0)], .ptr 2 0, .row 3, .d (.list RR) false, .d (.int .i64) false, .d (.int .i64) false], so := [.box [.d .str false], .box [.d (.int .u16) false], .box [.d .str false, .d (.list RR) false], .row RR], F := fun (rs, m, i, _) ((n, _), (kind, _), (ap, zr, _), l, _) => .on (ownC ap rs l m i) (.exit 0, [.rowA 2], [.box [.str n], .box [.int .u16 kind], .row RR (ownV ap (isOf n kind) rs)]) }
def r49o (rs : List (List UInt8 × (Int × (Int × (Int × List UInt8))))) (m : Int) (i : Int) (n : List UInt8) (kind : Int) (ap : List UInt8) (zr : List (List UInt8 × (Int × (Int × (Int × List UInt8))))) (l : List (List UInt8 × (Int × (Int × (Int × List UInt8))))) : Tr (St ⊕ (Ex × St)) := Tr.br (decide (i < m)) (Tr.br (decide ((0 : Int) ≤ i)) (Tr.br (decide (i < (↑(List.length rs) : Int))) (Tr.br (smN (Prod.fst (List.getD rs (Int.toNat i) (Ty.dflt RR))) && smN ap) (Tr.br (undV (Prod.fst (List.getD rs (Int.toNat i) (Ty.dflt RR))) ap) (Tr.br (isOf n kind (List.getD rs (Int.toNat i) (Ty.dflt RR))) (Tr.br (fits (List.length l + 1) 40) (Tr.ret (Sum.inl (stOf [1, 2, 5, 9, 10, 11] [AV.fn 74 [AV.ptr 0 0, AV.ptr 1 0], AV.ptr 2 0, AV.rowA 3, AV.list RR rs, AV.int IntKind.i64 m, AV.int IntKind.i64 (IntKind.wrap IntKind.i64 (i + (1 : Int)))] [LObj.boxT none [AV.str n], LObj.boxT none [AV.int IntKind.u16 kind], LObj.boxT none [AV.str ap, AV.list RR zr], LObj.row RR (l ++ [List.getD rs (Int.toNat i) (Ty.dflt RR)])]))) Tr.no) (Tr.ret (Sum.inl (stOf [1, 2, 5, 9, 10, 11] [AV.fn 74 [AV.ptr 0 0, AV.ptr 1 0], AV.ptr 2 0, AV.rowA 3, AV.list RR rs, AV.int IntKind.i64 m, AV.int IntKind.i64 (IntKind.wrap IntKind.i64 (i + (1 : Int)))] [LObj.boxT none [AV.str n], LObj.boxT none [AV.int IntKind.u16 kind], LObj.boxT none [AV.str ap, AV.list RR zr], LObj.row RR l])))) (Tr.ret (Sum.inl (stOf [1, 2, 5, 9, 10, 11] [AV.fn 74 [AV.ptr 0 0, AV.ptr 1 0], AV.ptr 2 0, AV.rowA 3, AV.list RR rs, AV.int IntKind.i64 m, AV.int IntKind.i64 (IntKind.wrap IntKind.i64 (i + (1 : Int)))] [LObj.boxT none [AV.str n], LObj.boxT none [AV.int IntKind.u16 kind], LObj.boxT none [AV.str ap, AV.list RR zr], LObj.row RR l])))) Tr.no) Tr.no) Tr.no) (Tr.ret (Sum.inr (Ex.exit 0, stOf [5] [AV.rowA 2] [LObj.boxT none [AV.str n], LObj.boxT none [AV.int IntKind.u16 kind], LObj.row RR l])))
set_option maxRecDepth 1000000 in
theorem round49o (lp : Lp) (rs : List (List UInt8 × (Int × (Int × (Int × List UInt8))))) (m : Int) (i : Int) (n : List UInt8) (kind : Int) (ap : List UInt8) (zr : List (List UInt8 × (Int × (Int × (Int × List UInt8))))) (l : List (List UInt8 × (Int × (Int × (Int × List UInt8))))) : evC T0 (orcB [fs31w] [os74w]) lp b49o 0 (stOf [1, 2, 5, 9, 10, 11] [.fn 74 [.ptr 0 0, .ptr 1 0], .ptr 2 0, .rowA 3, .list RR rs, .int .i64 m, .int .i64 i] [.box [.str n], .box [.int .u16 kind], .box [.str ap, .list RR zr], .row RR l]) (roundK [1, 2, 5, 9, 10, 11] [5] 2) = (r49o rs m i n kind ap zr l).get := by kernel_rfl
theorem wf49o (rs : List (List UInt8 × (Int × (Int × (Int × List UInt8))))) (m : Int) (n : List UInt8) (kind : Int) (ap : List UInt8) (zr : List (List UInt8 × (Int × (Int × (Int × List UInt8))))) (I'' : List (List UInt8 × (Int × (Int × (Int × List UInt8)))) → Int → Prop) (m'' : List (List UInt8 × (Int × (Int × (Int × List UInt8)))) → Int → Nat) (r'' : Ex × St) (h : ∀ (l : List (List UInt8 × (Int × (Int × (Int × List UInt8))))) (i : Int), I'' l i → (r49o rs m i n kind ap zr l).all fun x'' => x'' = .inr r'' ∨ ∃ (l' : List (List UInt8 × (Int × (Int × (Int × List UInt8))))) (i' : Int), x'' = .inl (stOf [1, 2, 5, 9, 10, 11] [.fn 74 [.ptr 0 0, .ptr 1 0], .ptr 2 0, .rowA 3, .list RR rs, .int .i64 m, .int .i64 i'] [.box [.str n], .box [.int .u16 kind], .box [.str ap, .list RR zr], .row RR l']) ∧ I'' l' i' ∧ m'' l' i' < m'' l i) (lp : Lp) (l : List (List UInt8 × (Int × (Int × (Int × List UInt8))))) (i : Int) : I'' l i →
    loopF (fun st => evC T0 (orcB [fs31w] [os74w]) lp b49o 0 st (roundK [1, 2, 5, 9, 10, 11] [5] 2)) (stOf [1, 2, 5, 9, 10, 11] [.fn 74 [.ptr 0 0, .ptr 1 0], .ptr 2 0, .rowA 3, .list RR rs, .int .i64 m, .int .i64 i] [.box [.str n], .box [.int .u16 kind], .box [.str ap, .list RR zr], .row RR l]) = some r'' :=
  loop_tr (fun a'' : List (List UInt8 × (Int × (Int × (Int × List UInt8)))) × Int => stOf [1, 2, 5, 9, 10, 11] [.fn 74 [.ptr 0 0, .ptr 1 0], .ptr 2 0, .rowA 3, .list RR rs, .int .i64 m, .int .i64 a''.2] [.box [.str n], .box [.int .u16 kind], .box [.str ap, .list RR zr], .row RR a''.1]) (fun a'' => I'' a''.1 a''.2) (fun a'' => m'' a''.1 a''.2) r'' (fun a'' => r49o rs m a''.2 n kind ap zr a''.1)
    (fun a'' x hx => (round49o lp rs m a''.2 n kind ap zr a''.1).trans hx) (fun a'' ha => Tr.all_mono (fun x'' hx => hx.imp id fun ⟨l', i', h1, h2, h3⟩ => ⟨(l', i'), h1, h2, h3⟩) (h (a''.1) (a''.2) ha)) (l, i)
theorem smR_get {rs : List RRt} (h : smR rs = true) {k : Nat} (hk : k < rs.length) (x : RRt) : smN (rs.getD k x).1 = true := by
  unfold smR at h
  rw [Bool.and_eq_true, List.all_eq_true] at h
  refine h.2 _ ?_
  rw [List.getD_eq_getElem?_getD, List.getElem?_eq_getElem hk]
  exact List.getElem_mem hk
theorem smR_len {rs : List RRt} (h : smR rs = true) : rs.length ≤ 1000000 := by
  unfold smR at h
  rw [Bool.and_eq_true] at h
  exact Nat.le_of_ble_eq_true h.1
theorem ownV_next {ap : List UInt8} {f : RRt → Bool} {rs : List RRt} {k : Nat} (hk : k < rs.length) (x : RRt) : ownV ap f (rs.drop k) = (bif undV (rs.getD k x).1 ap && f (rs.getD k x) then [rs.getD k x] else []) ++ ownV ap f (rs.drop (k + 1)) := by
  rw [drop_cons2 hk x]
  unfold ownV
  rw [List.filter_cons]
  cases h : (undV (rs.getD k x).1 ap && f (rs.getD k x)) <;> simp
theorem ownV_len {ap : List UInt8} {f : RRt → Bool} {rs : List RRt} : (ownV ap f rs).length ≤ rs.length := List.length_filter_le _ _
theorem wrap_succ {i : Int} {n : Nat} (h0 : 0 ≤ i) (h : i ≤ n) (hn : n ≤ 1000000000) : IntKind.wrap IntKind.i64 (i + 1) = i + 1 := IntWalk.i64_in _ (by omega)
theorem loop49o : ls49o.Ok T0 (orcB [fs31w] [os74w]) h49 2 0 b49o := by
  intro q'' hq'' x'' y'' r'' h
  obtain ⟨(rs : List (List UInt8 × (Int × (Int × (Int × List UInt8))))), (m : Int), (i : Int), _⟩ := x''
  obtain ⟨⟨(n : List UInt8), _⟩, ⟨(kind : Int), _⟩, ⟨(ap : List UInt8), (zr : List (List UInt8 × (Int × (Int × (Int × List UInt8))))), _⟩, (l : List (List UInt8 × (Int × (Int × (Int × List UInt8))))), _⟩ := y''
  obtain ⟨hc, rfl⟩ := Tr.get_on h
  show loopF (fun st => evC T0 (orcB [fs31w] [os74w]) (lpN T0 (orcB [fs31w] [os74w]) h49 2 q'') b49o 0 st (roundK [1, 2, 5, 9, 10, 11] [5] 2)) (stOf [1, 2, 5, 9, 10, 11] [.fn 74 [.ptr 0 0, .ptr 1 0], .ptr 2 0, .rowA 3, .list RR rs, .int .i64 m, .int .i64 i] [.box [.str n], .box [.int .u16 kind], .box [.str ap, .list RR zr], .row RR l]) = some (.exit 0, stOf [5] ([.rowA 2]) ([.box [.str n], .box [.int .u16 kind], .row RR (ownV ap (isOf n kind) rs)]))
  simp only [ownC, Bool.and_eq_true, decide_eq_true_eq, List.isEmpty_iff] at hc
  obtain ⟨hap, hrs, rfl, rfl, rfl⟩ := hc
  have hl := smR_len hrs
  refine wf49o rs rs.length n kind ap zr (fun l i => 0 ≤ i ∧ i ≤ rs.length ∧ l ++ ownV ap (isOf n kind) (rs.drop i.toNat) = ownV ap (isOf n kind) rs) (fun l i => (rs.length - i).toNat) _ ?_ _ [] 0 ⟨by omega, by omega, rfl⟩
  rintro l i ⟨h0, h1, he⟩
  have hll : l.length ≤ 1000000 := by
    have := ownV_len (ap := ap) (f := isOf n kind) (rs := rs)
    rw [← he, List.length_append] at this
    omega
  unfold r49o
  rw [wrap_succ h0 h1 (by omega)]
  by_cases hi : i < rs.length
  · have hsm := smR_get hrs (k := i.toNat) (by omega) (Ty.dflt RR)
    rw [ownV_next (k := i.toNat) (by omega) (Ty.dflt RR)] at he
    generalize rs.getD i.toNat (Ty.dflt RR) = x at *
    refine Tr.all_t (dec_true hi) (Tr.all_t (dec_true h0) (Tr.all_t (dec_true hi) (Tr.all_t (by rw [hsm, hap]; rfl) (Tr.all_br (fun hu => Tr.all_br (fun hf => Tr.all_t (fits_true (by omega) (by omega)) ?_) fun hf => ?_) fun hu => ?_))))
    all_goals rw [hu] at he
    all_goals try rw [hf] at he
    all_goals refine Tr.all_ret (.inr ⟨_, _, rfl, ⟨by omega, by omega, ?_⟩, by omega⟩)
    all_goals rw [show (i + 1).toNat = i.toNat + 1 by omega]
    · rw [← he]; simp
    · rw [← he]; simp
    · rw [← he]; simp
  · refine Tr.all_f (dec_false hi) (Tr.all_ret (.inl ?_))
    rw [show i.toNat = rs.length by omega, List.drop_length] at he
    rw [← he]
    simp [ownV]
def t49o (z : (List UInt8 × List (List UInt8 × (Int × (Int × (Int × List UInt8)))))) (n : List UInt8) (kind : Int) : Tr Res := Tr.br (ownC (Prod.fst z) (Prod.snd z) [] (↑(List.length (Prod.snd z)) : Int) (0 : Int)) (Tr.ret ([AV.rowA 2], [LObj.boxT none [AV.str n], LObj.boxT none [AV.int IntKind.u16 kind], LObj.row RR (ownV (Prod.fst z) (isOf n kind) (Prod.snd z))])) Tr.no
def os49o : OSpec := { f := 49, sh := [.d ZN true, .fnp 74 [(0, 0), (1, 0)]], so := [.box [.d .str false], .box [.d (.int .u16) false]], F := fun (z, _) ((n, _), (kind, _), _) => t49o z n kind }
set_option maxRecDepth 1000000 in
theorem fn49o (z : (List UInt8 × List (List UInt8 × (Int × (Int × (Int × List UInt8)))))) (n : List UInt8) (kind : Int) : evC T0 (orcB [fs31w] [os74w]) (lpOf (hOwn h49) 2 (lsOf [ls49o])) c49 1000000 (startSt [AV.ofTy ZN z true, .fn 74 [.ptr 0 0, .ptr 1 0]] [.box [.str n], .box [.int .u16 kind]] Try.f49.ntmps) (finishK T0 true 2 Try.f49) = (t49o z n kind).get := by kernel_rfl
theorem ok49o : os49o.Ok Try.prog := by
  refine os_ok mixed0 tab0 (orcB_sound (all_cons okf31w all_nil) (all_cons ok74w all_nil)) (hOwn h49) (d := 0) (n0 := 2) (S := lsOf [ls49o]) Try.func49 (by kernel_rfl) (c := c49) (by kernel_rfl) rfl (loops_eq (xs := [(0, b49o)]) (by kernel_rfl) (all_cons (ls_here loop49o) all_nil)) (by omega) (by kernel_rfl) ?_
  intro x'' y'' q'' hq''
  obtain ⟨(z : (List UInt8 × List (List UInt8 × (Int × (Int × (Int × List UInt8)))))), _⟩ := x''
  obtain ⟨⟨(n : List UInt8), _⟩, ⟨(kind : Int), _⟩, _⟩ := y''
  exact (fn49o z n kind).trans hq''
end Go.Proofs.YtkobjdhbfepkaaaE
namespace Go.Proofs.YtkobjdhbfepkaaaE
open Go Go.Proofs.YtkobjdhbfepkaaaB
set_option linter.unusedVariables false
set_option linter.unusedSimpArgs false
set_option maxRecDepth 100000
def t43 (z : (List UInt8 × List (List UInt8 × (Int × (Int × (Int × List UInt8)))))) (n : List UInt8) (kind : Int) : Tr Res := Tr.br (ownC (Prod.fst z) (Prod.snd z) [] (↑(List.length (Prod.snd z)) : Int) (0 : Int)) (Tr.ret ([AV.list RR (ownV (Prod.fst z) (isOf n kind) (Prod.snd z))], [])) Tr.no
def os43 : OSpec := { f := 43, sh := [.d ZN true, .d .str false, .d (.int .u16) false], so := [], F := fun (z, n, kind, _) _ => t43 z n kind }
set_option maxRecDepth 1000000 in
theorem fn43 (z : (List UInt8 × List (List UInt8 × (Int × (Int × (Int × List UInt8)))))) (n : List UInt8) (kind : Int) : evC T0 (orcB [] [os49o]) (lpOf h43 0 (lsOf [])) c43 1000000 (startSt [AV.ofTy ZN z true, .str n, .int .u16 kind] [] Try.f43.ntmps) (finishK T0 false 0 Try.f43) = (t43 z n kind).get := by kernel_rfl
theorem ok43 : os43.Ok Try.prog := by
  refine os_ok mixed0 tab0 (orcB_sound all_nil (all_cons ok49o all_nil)) h43 (d := 0) (n0 := 0) (S := lsOf []) Try.func43 (by kernel_rfl) (c := c43) (by kernel_rfl) rfl (no_loops (by kernel_rfl)) (by omega) (by kernel_rfl) ?_
  intro x'' y'' q'' hq''
  obtain ⟨(z : (List UInt8 × List (List UInt8 × (Int × (Int × (Int × List UInt8)))))), (n : List UInt8), (kind : Int), _⟩ := x''
  exact (fn43 z n kind).trans hq''
def fs43 : FSpec := fsT 43 [(ZN, true), (.str, false), ((.int .u16), false)] [((.list RR), false)] fun (z, n, kind, _) => t43 z n kind
theorem okf43 : fs43.Ok Try.prog := fsT_ok fun x'' r'' hr'' => ok43 x'' () r'' hr''
def smZ (z : ZNt) : Bool := smN z.1 && smR z.2
def ofV (z : ZNt) (n : List UInt8) (kind : Int) : List RRt := ownV z.1 (isOf n kind) z.2
def fs43w : FSpec := fs43.like fun (z, n, kind, _) => .on (smZ z) (ofV z n kind, ())
theorem smZ_iff {z : ZNt} : smZ z = true ↔ smN z.1 = true ∧ smR z.2 = true := by unfold smZ; exact Bool.and_eq_true_iff
theorem ownC_of {z : ZNt} (h : smZ z = true) : ownC z.1 z.2 [] (z.2.length : Int) 0 = true := by
  obtain ⟨h1, h2⟩ := smZ_iff.1 h
  unfold ownC
  rw [h1, h2, decide_eq_true rfl]
  rfl
theorem okf43w : fs43w.Ok Try.prog := by
  refine flike_ok okf43 _ ?_
  rintro ⟨(z : ZNt), (n : List UInt8), (kind : Int), _⟩ y h
  obtain ⟨hb, rfl⟩ := Tr.get_on h
  refine convR_of (vs := [.list RR (ofV z n kind)]) rfl rfl (Tr.get_of_all ?_)
  show (t43 z n kind).all _
  exact Tr.all_t (ownC_of hb) (Tr.all_ret rfl)
def t50 (r : (List UInt8 × (Int × (Int × (Int × List UInt8))))) (n : List UInt8) : Tr Res := Tr.br (smN (Prod.fst r) && smN n) (Tr.ret ([AV.bool (undV (Prod.fst r) n)], [LObj.boxT none [AV.str n]])) Tr.no
def os50 : OSpec := { f := 50, sh := [.d RR true, .ptr 0 0], so := [.box [.d .str false]], F := fun (r, _) ((n, _), _) => t50 r n }
set_option maxRecDepth 1000000 in
theorem fn50 (r : (List UInt8 × (Int × (Int × (Int × List UInt8))))) (n : List UInt8) : evC T0 (orcB [fs31w] [os49o]) (lpOf h50 1 (lsOf [])) c50 1000000 (startSt [AV.ofTy RR r true, .ptr 0 0] [.box [.str n]] Try.f50.ntmps) (finishK T0 false 1 Try.f50) = (t50 r n).get := by kernel_rfl
theorem ok50 : os50.Ok Try.prog := by
  refine os_ok mixed0 tab0 (orcB_sound (all_cons okf31w all_nil) (all_cons ok49o all_nil)) h50 (d := 0) (n0 := 1) (S := lsOf []) Try.func50 (by kernel_rfl) (c := c50) (by kernel_rfl) rfl (no_loops (by kernel_rfl)) (by omega) (by kernel_rfl) ?_
  intro x'' y'' q'' hq''
  obtain ⟨(r : (List UInt8 × (Int × (Int × (Int × List UInt8))))), _⟩ := x''
  obtain ⟨⟨(n : List UInt8), _⟩, _⟩ := y''
  exact (fn50 r n).trans hq''
def undF (n : List UInt8) (r : RRt) : Bool := undV r.1 n
def ownT (ap n : List UInt8) (rs l : List RRt) (m i : Int) : Bool := smN n && ownC ap rs l m i
noncomputable def b49t : Code := nthLoop c49 0
def ls49t : LoopSpec := { bid := 0, sh := [.fnp 50 [(0, 0)], .ptr 1 0, .row 2, .d (.list RR) false, .d (.int .i64) false, .d (.int .i64) false], so := [.box [.d .str false], .box [.d .str false, .d (.list RR) false], .row RR], F := fun (rs, m, i, _) ((n, _), (ap, zr, _), l, _) => .on (ownT ap n rs l m i) (.exit 0, [.rowA 1], [.box [.str n], .row RR (ownV ap (undF n) rs)]) }
def r49t (rs : List (List UInt8 × (Int × (Int × (Int × List UInt8))))) (m : Int) (i : Int) (n : List UInt8) (ap : List UInt8) (zr : List (List UInt8 × (Int × (Int × (Int × List UInt8))))) (l : List (List UInt8 × (Int × (Int × (Int × List UInt8))))) : Tr (St ⊕ (Ex × St)) := Tr.br (decide (i < m)) (Tr.br (decide ((0 : Int) ≤ i)) (Tr.br (decide (i < (↑(List.length rs) : Int))) (Tr.br (smN (Prod.fst (List.getD rs (Int.toNat i) (Ty.dflt RR))) && smN ap) (Tr.br (undV (Prod.fst (List.getD rs (Int.toNat i) (Ty.dflt RR))) ap) (Tr.br (smN (Prod.fst (List.getD rs (Int.toNat i) (Ty.dflt RR))) && smN n) (Tr.br (undV (Prod.fst (List.getD rs (Int.toNat i) (Ty.dflt RR))) n) (Tr.br (fits (List.length l + 1) 40) (Tr.ret (Sum.inl (stOf [1, 2, 5, 9, 10, 11] [AV.fn 50 [AV.ptr 0 0], AV.ptr 1 0, AV.rowA 2, AV.list RR rs, AV.int IntKind.i64 m, AV.int IntKind.i64 (IntKind.wrap IntKind.i64 (i + (1 : Int)))] [LObj.boxT none [AV.str n], LObj.boxT none [AV.str ap, AV.list RR zr], LObj.row RR (l ++ [List.getD rs (Int.toNat i) (Ty.dflt RR)])]))) Tr.no) (Tr.ret (Sum.inl (stOf [1, 2, 5, 9, 10, 11] [AV.fn 50 [AV.ptr 0 0], AV.ptr 1 0, AV.rowA 2, AV.list RR rs, AV.int IntKind.i64 m, AV.int IntKind.i64 (IntKind.wrap IntKind.i64 (i + (1 : Int)))] [LObj.boxT none [AV.str n], LObj.boxT none [AV.str ap, AV.list RR zr], LObj.row RR l])))) Tr.no) (Tr.ret (Sum.inl (stOf [1, 2, 5, 9, 10, 11] [AV.fn 50 [AV.ptr 0 0], AV.ptr 1 0, AV.rowA 2, AV.list RR rs, AV.int IntKind.i64 m, AV.int IntKind.i64 (IntKind.wrap IntKind.i64 (i + (1 : Int)))] [LObj.boxT none [AV.str n], LObj.boxT none [AV.str ap, AV.list RR zr], LObj.row RR l])))) Tr.no) Tr.no) Tr.no) (Tr.ret (Sum.inr (Ex.exit 0, stOf [5] [AV.rowA 1] [LObj.boxT none [AV.str n], LObj.row RR l])))
set_option maxRecDepth 1000000 in
theorem round49t (lp : Lp) (rs : List (List UInt8 × (Int × (Int × (Int × List UInt8))))) (m : Int) (i : Int) (n : List UInt8) (ap : List UInt8) (zr : List (List UInt8 × (Int × (Int × (Int × List UInt8))))) (l : List (List UInt8 × (Int × (Int × (Int × List UInt8))))) : evC T0 (orcB [fs31w] [os50]) lp b49t 0 (stOf [1, 2, 5, 9, 10, 11] [.fn 50 [.ptr 0 0], .ptr 1 0, .rowA 2, .list RR rs, .int .i64 m, .int .i64 i] [.box [.str n], .box [.str ap, .list RR zr], .row RR l]) (roundK [1, 2, 5, 9, 10, 11] [5] 1) = (r49t rs m i n ap zr l).get := by kernel_rfl
theorem wf49t (rs : List (List UInt8 × (Int × (Int × (Int × List UInt8))))) (m : Int) (n : List UInt8) (ap : List UInt8) (zr : List (List UInt8 × (Int × (Int × (Int × List UInt8))))) (I'' : List (List UInt8 × (Int × (Int × (Int × List UInt8)))) → Int → Prop) (m'' : List (List UInt8 × (Int × (Int × (Int × List UInt8)))) → Int → Nat) (r'' : Ex × St) (h : ∀ (l : List (List UInt8 × (Int × (Int × (Int × List UInt8))))) (i : Int), I'' l i → (r49t rs m i n ap zr l).all fun x'' => x'' = .inr r'' ∨ ∃ (l' : List (List UInt8 × (Int × (Int × (Int × List UInt8))))) (i' : Int), x'' = .inl (stOf [1, 2, 5, 9, 10, 11] [.fn 50 [.ptr 0 0], .ptr 1 0, .rowA 2, .list RR rs, .int .i64 m, .int .i64 i'] [.box [.str n], .box [.str ap, .list RR zr], .row RR l']) ∧ I'' l' i' ∧ m'' l' i' < m'' l i) (lp : Lp) (l : List (List UInt8 × (Int × (Int × (Int × List UInt8))))) (i : Int) : I'' l i →
    loopF (fun st => evC T0 (orcB [fs31w] [os50]) lp b49t 0 st (roundK [1, 2, 5, 9, 10, 11] [5] 1)) (stOf [1, 2, 5, 9, 10, 11] [.fn 50 [.ptr 0 0], .ptr 1 0, .rowA 2, .list RR rs, .int .i64 m, .int .i64 i] [.box [.str n], .box [.str ap, .list RR zr], .row RR l]) = some r'' :=
  loop_tr (fun a'' : List (List UInt8 × (Int × (Int × (Int × List UInt8)))) × Int => stOf [1, 2, 5, 9, 10, 11] [.fn 50 [.ptr 0 0], .ptr 1 0, .rowA 2, .list RR rs, .int .i64 m, .int .i64 a''.2] [.box [.str n], .box [.str ap, .list RR zr], .row RR a''.1]) (fun a'' => I'' a''.1 a''.2) (fun a'' => m'' a''.1 a''.2) r'' (fun a'' => r49t rs m a''.2 n ap zr a''.1)
    (fun a'' x hx => (round49t lp rs m a''.2 n ap zr a''.1).trans hx) (fun a'' ha => Tr.all_mono (fun x'' hx => hx.imp id fun ⟨l', i', h1, h2, h3⟩ => ⟨(l', i'), h1, h2, h3⟩) (h (a''.1) (a''.2) ha)) (l, i)
theorem loop49t : ls49t.Ok T0 (orcB [fs31w] [os50]) h49 1 0 b49t := by
  intro q'' hq'' x'' y'' r'' h
  obtain ⟨(rs : List (List UInt8 × (Int × (Int × (Int × List UInt8))))), (m : Int), (i : Int), _⟩ := x''
  obtain ⟨⟨(n : List UInt8), _⟩, ⟨(ap : List UInt8), (zr : List (List UInt8 × (Int × (Int × (Int × List UInt8))))), _⟩, (l : List (List UInt8 × (Int × (Int × (Int × List UInt8))))), _⟩ := y''
  obtain ⟨hc, rfl⟩ := Tr.get_on h
  show loopF (fun st => evC T0 (orcB [fs31w] [os50]) (lpN T0 (orcB [fs31w] [os50]) h49 1 q'') b49t 0 st (roundK [1, 2, 5, 9, 10, 11] [5] 1)) (stOf [1, 2, 5, 9, 10, 11] [.fn 50 [.ptr 0 0], .ptr 1 0, .rowA 2, .list RR rs, .int .i64 m, .int .i64 i] [.box [.str n], .box [.str ap, .list RR zr], .row RR l]) = some (.exit 0, stOf [5] ([.rowA 1]) ([.box [.str n], .row RR (ownV ap (undF n) rs)]))
  simp only [ownT, ownC, Bool.and_eq_true, decide_eq_true_eq, List.isEmpty_iff] at hc
  obtain ⟨hn, hap, hrs, rfl, rfl, rfl⟩ := hc
  have hl := smR_len hrs
  refine wf49t rs rs.length n ap zr (fun l i => 0 ≤ i ∧ i ≤ rs.length ∧ l ++ ownV ap (undF n) (rs.drop i.toNat) = ownV ap (undF n) rs) (fun l i => (rs.length - i).toNat) _ ?_ _ [] 0 ⟨by omega, by omega, rfl⟩
  rintro l i ⟨h0, h1, he⟩
  have hll : l.length ≤ 1000000 := by
    have := ownV_len (ap := ap) (f := undF n) (rs := rs)
    rw [← he, List.length_append] at this
    omega
  unfold r49t
  rw [wrap_succ h0 h1 (by omega)]
  by_cases hi : i < rs.length
  · have hsm := smR_get hrs (k := i.toNat) (by omega) (Ty.dflt RR)
    rw [ownV_next (k := i.toNat) (by omega) (Ty.dflt RR)] at he
    generalize rs.getD i.toNat (Ty.dflt RR) = x at *
    refine Tr.all_t (dec_true hi) (Tr.all_t (dec_true h0) (Tr.all_t (dec_true hi) (Tr.all_t (by rw [hsm, hap]; rfl) (Tr.all_br (fun hu => Tr.all_t (by rw [hsm, hn]; rfl) (Tr.all_br (fun hf => Tr.all_t (fits_true (by omega) (by omega)) ?_) fun hf => ?_)) fun hu => ?_))))
    all_goals rw [hu] at he
    all_goals try rw [show undF n x = undV x.1 n from rfl, hf] at he
    all_goals refine Tr.all_ret (.inr ⟨_, _, rfl, ⟨by omega, by omega, ?_⟩, by omega⟩)
    all_goals rw [show (i + 1).toNat = i.toNat + 1 by omega]
    · rw [← he]; simp
    · rw [← he]; simp
    · rw [← he]; simp
  · refine Tr.all_f (dec_false hi) (Tr.all_ret (.inl ?_))
    rw [show i.toNat = rs.length by omega, List.drop_length] at he
    rw [← he]
    simp [ownV]
def t49t (z : (List UInt8 × List (List UInt8 × (Int × (Int × (Int × List UInt8)))))) (n : List UInt8) : Tr Res := Tr.br (ownT (Prod.fst z) n (Prod.snd z) [] (↑(List.length (Prod.snd z)) : Int) (0 : Int)) (Tr.ret ([AV.rowA 1], [LObj.boxT none [AV.str n], LObj.row RR (ownV (Prod.fst z) (undF n) (Prod.snd z))])) Tr.no
def os49t : OSpec := { f := 49, sh := [.d ZN true, .fnp 50 [(0, 0)]], so := [.box [.d .str false]], F := fun (z, _) ((n, _), _) => t49t z n }
set_option maxRecDepth 1000000 in
theorem fn49t (z : (List UInt8 × List (List UInt8 × (Int × (Int × (Int × List UInt8)))))) (n : List UInt8) : evC T0 (orcB [fs31w] [os50]) (lpOf (hOwn h49) 1 (lsOf [ls49t])) c49 1000000 (startSt [AV.ofTy ZN z true, .fn 50 [.ptr 0 0]] [.box [.str n]] Try.f49.ntmps) (finishK T0 true 1 Try.f49) = (t49t z n).get := by kernel_rfl
theorem ok49t : os49t.Ok Try.prog := by
  refine os_ok mixed0 tab0 (orcB_sound (all_cons okf31w all_nil) (all_cons ok50 all_nil)) (hOwn h49) (d := 0) (n0 := 1) (S := lsOf [ls49t]) Try.func49 (by kernel_rfl) (c := c49) (by kernel_rfl) rfl (loops_eq (xs := [(0, b49t)]) (by kernel_rfl) (all_cons (ls_here loop49t) all_nil)) (by omega) (by kernel_rfl) ?_
  intro x'' y'' q'' hq''
  obtain ⟨(z : (List UInt8 × List (List UInt8 × (Int × (Int × (Int × List UInt8)))))), _⟩ := x''
  obtain ⟨⟨(n : List UInt8), _⟩, _⟩ := y''
  exact (fn49t z n).trans hq''
def t19 (z : (List UInt8 × List (List UInt8 × (Int × (Int × (Int × List UInt8)))))) (n : List UInt8) : Tr Res := Tr.br (n == Prod.fst z) (Tr.ret ([AV.bool true], [])) (Tr.br (ownT (Prod.fst z) n (Prod.snd z) [] (↑(List.length (Prod.snd z)) : Int) (0 : Int)) (Tr.ret ([AV.bool (decide ((↑(List.length (ownV (Prod.fst z) (undF n) (Prod.snd z))) : Int) > (0 : Int)))], [])) Tr.no)
def os19 : OSpec := { f := 19, sh := [.d ZN true, .d .str false], so := [], F := fun (z, n, _) _ => t19 z n }
set_option maxRecDepth 1000000 in
theorem fn19 (z : (List UInt8 × List (List UInt8 × (Int × (Int × (Int × List UInt8)))))) (n : List UInt8) : evC T0 (orcB [] [os49t]) (lpOf h19 0 (lsOf [])) c19 1000000 (startSt [AV.ofTy ZN z true, .str n] [] Try.f19.ntmps) (finishK T0 false 0 Try.f19) = (t19 z n).get := by kernel_rfl
theorem ok19 : os19.Ok Try.prog := by
  refine os_ok mixed0 tab0 (orcB_sound all_nil (all_cons ok49t all_nil)) h19 (d := 0) (n0 := 0) (S := lsOf []) Try.func19 (by kernel_rfl) (c := c19) (by kernel_rfl) rfl (no_loops (by kernel_rfl)) (by omega) (by kernel_rfl) ?_
  intro x'' y'' q'' hq''
  obtain ⟨(z : (List UInt8 × List (List UInt8 × (Int × (Int × (Int × List UInt8)))))), (n : List UInt8), _⟩ := x''
  exact (fn19 z n).trans hq''
def fs19 : FSpec := fsT 19 [(ZN, true), (.str, false)] [(.bool, false)] fun (z, n, _) => t19 z n
theorem okf19 : fs19.Ok Try.prog := fsT_ok fun x'' r'' hr'' => ok19 x'' () r'' hr''
def thereV (z : ZNt) (n : List UInt8) : Bool := n == z.1 || !(ownV z.1 (undF n) z.2).isEmpty
def fs19w : FSpec := fs19.like fun (z, n, _) => .on (smZ z && smN n) (thereV z n, ())
theorem okf19w : fs19w.Ok Try.prog := by
  refine flike_ok okf19 _ ?_
  rintro ⟨(z : ZNt), (n : List UInt8), _⟩ y h
  obtain ⟨hb, rfl⟩ := Tr.get_on h
  obtain ⟨hz, hn⟩ := Bool.and_eq_true_iff.1 (show (smZ z && smN n) = true from hb)
  refine convR_of (vs := [.bool (thereV z n)]) rfl rfl (Tr.get_of_all ?_)
  show (t19 z n).all _
  unfold t19 thereV
  refine Tr.all_br (fun h => Tr.all_ret (by rw [h]; rfl)) fun h => Tr.all_t (by unfold ownT; rw [hn, ownC_of hz]; rfl) (Tr.all_ret ?_)
  rw [h, Bool.false_or]
  cases ownV z.1 (undF n) z.2 <;> simp
end Go.Proofs.YtkobjdhbfepkaaaE
namespace Go.Proofs.YtkobjdhbfepkaaaE
open Go Go.Proofs.YtkobjdhbfepkaaaB
set_option linter.unusedVariables false
set_option linter.unusedSimpArgs false
set_option maxRecDepth 100000
def apx (l : List ZNt) (i : Nat) : List UInt8 := (l.getD i (Ty.dflt ZN)).1
def bestStep (l : List ZNt) (n : List UInt8) (k : Nat) (b : Int) : Int := if undV n (apx l k) = true ∧ (b < 0 ∨ depV (apx l k) > depV (apx l b.toNat)) then (k : Int) else b
def bestAt (l : List ZNt) (n : List UInt8) : Nat → Int
  | 0 => -1
  | k + 1 => bestStep l n k (bestAt l n k)
def bestV (l : List ZNt) (n : List UInt8) : Int := bestAt l n l.length
def smL (l : List ZNt) : Bool := Nat.ble l.length 1000000 && l.all fun z => smN z.1
def bestC (l l2 : List ZNt) (n : List UInt8) (m i b : Int) : Bool := smL l && (smN n && (decide (m = (l.length : Int)) && (decide (i = 0) && (decide (b = -1) && decide (l2 = l)))))
theorem smL_len {l : List ZNt} (h : smL l = true) : l.length ≤ 1000000 := by
  unfold smL at h
  rw [Bool.and_eq_true] at h
  exact Nat.le_of_ble_eq_true h.1
theorem smL_get {l : List ZNt} (h : smL l = true) {k : Nat} (hk : k < l.length) : smN (apx l k) = true := by
  unfold smL at h
  rw [Bool.and_eq_true, List.all_eq_true] at h
  refine h.2 _ ?_
  rw [List.getD_eq_getElem?_getD, List.getElem?_eq_getElem hk]
  exact List.getElem_mem hk
theorem smN_big {n : List UInt8} (h : smN n = true) : bigS n = true := len_big (by have := smN_iff.1 h; omega)
theorem bestAt_lt (l : List ZNt) (n : List UInt8) : ∀ k : Nat, -1 ≤ bestAt l n k ∧ bestAt l n k < k ∨ k = 0 ∧ bestAt l n k = -1
  | 0 => .inr ⟨rfl, rfl⟩
  | k + 1 => by
    refine .inl ?_
    unfold bestAt bestStep
    split
    · omega
    · rcases bestAt_lt l n k with h | h <;> omega
noncomputable def b24 : Code := nthLoop c24 0
def ls24 : LoopSpec := { bid := 0, sh := [.d (.list ZN) false, .d .str false, .d (.int .i64) false, .d (.list ZN) false, .d (.int .i64) false, .d (.int .i64) false], so := [], F := fun (l, n, b, l2, m, i, _) _ => .on (bestC l l2 n m i b) (.exit 0, [.int .i64 (bestV l n)], []) }
def r24 (l : List (List UInt8 × List (List UInt8 × (Int × (Int × (Int × List UInt8)))))) (n : List UInt8) (b : Int) (l2 : List (List UInt8 × List (List UInt8 × (Int × (Int × (Int × List UInt8)))))) (m : Int) (i : Int) : Tr (St ⊕ (Ex × St)) := Tr.br (decide (i < m)) (Tr.br (decide ((0 : Int) ≤ i)) (Tr.br (decide (i < (↑(List.length l2) : Int))) (Tr.br (smN n && smN (Prod.fst (List.getD l2 (Int.toNat i) (Ty.dflt ZN)))) (Tr.br (undV n (Prod.fst (List.getD l2 (Int.toNat i) (Ty.dflt ZN)))) (Tr.br (decide (b < (0 : Int))) (Tr.ret (Sum.inl (stOf [0, 1, 5, 8, 9, 10] [AV.list ZN l, AV.str n, AV.int IntKind.i64 i, AV.list ZN l2, AV.int IntKind.i64 m, AV.int IntKind.i64 (IntKind.wrap IntKind.i64 (i + (1 : Int)))] []))) (Tr.br (bigS (Prod.fst (List.getD l2 (Int.toNat i) (Ty.dflt ZN)))) (Tr.br (decide ((0 : Int) ≤ b)) (Tr.br (decide (b < (↑(List.length l) : Int))) (Tr.br (bigS (Prod.fst (List.getD l (Int.toNat b) (Ty.dflt ZN)))) (Tr.br (decide (depV (Prod.fst (List.getD l2 (Int.toNat i) (Ty.dflt ZN))) > depV (Prod.fst (List.getD l (Int.toNat b) (Ty.dflt ZN))))) (Tr.ret (Sum.inl (stOf [0, 1, 5, 8, 9, 10] [AV.list ZN l, AV.str n, AV.int IntKind.i64 i, AV.list ZN l2, AV.int IntKind.i64 m, AV.int IntKind.i64 (IntKind.wrap IntKind.i64 (i + (1 : Int)))] []))) (Tr.ret (Sum.inl (stOf [0, 1, 5, 8, 9, 10] [AV.list ZN l, AV.str n, AV.int IntKind.i64 b, AV.list ZN l2, AV.int IntKind.i64 m, AV.int IntKind.i64 (IntKind.wrap IntKind.i64 (i + (1 : Int)))] [])))) Tr.no) Tr.no) Tr.no) Tr.no)) (Tr.ret (Sum.inl (stOf [0, 1, 5, 8, 9, 10] [AV.list ZN l, AV.str n, AV.int IntKind.i64 b, AV.list ZN l2, AV.int IntKind.i64 m, AV.int IntKind.i64 (IntKind.wrap IntKind.i64 (i + (1 : Int)))] [])))) Tr.no) Tr.no) Tr.no) (Tr.ret (Sum.inr (Ex.exit 0, stOf [5] [AV.int IntKind.i64 b] [])))
set_option maxRecDepth 1000000 in
theorem round24 (lp : Lp) (l : List (List UInt8 × List (List UInt8 × (Int × (Int × (Int × List UInt8)))))) (n : List UInt8) (b : Int) (l2 : List (List UInt8 × List (List UInt8 × (Int × (Int × (Int × List UInt8)))))) (m : Int) (i : Int) : evC T0 (orcB [fs31w, fs32w] []) lp b24 0 (stOf [0, 1, 5, 8, 9, 10] [.list ZN l, .str n, .int .i64 b, .list ZN l2, .int .i64 m, .int .i64 i] []) (roundK [0, 1, 5, 8, 9, 10] [5] 0) = (r24 l n b l2 m i).get := by kernel_rfl
theorem wf24 (l : List (List UInt8 × List (List UInt8 × (Int × (Int × (Int × List UInt8)))))) (n : List UInt8) (l2 : List (List UInt8 × List (List UInt8 × (Int × (Int × (Int × List UInt8)))))) (m : Int) (I'' : Int → Int → Prop) (m'' : Int → Int → Nat) (r'' : Ex × St) (h : ∀ (b : Int) (i : Int), I'' b i → (r24 l n b l2 m i).all fun x'' => x'' = .inr r'' ∨ ∃ (b' : Int) (i' : Int), x'' = .inl (stOf [0, 1, 5, 8, 9, 10] [.list ZN l, .str n, .int .i64 b', .list ZN l2, .int .i64 m, .int .i64 i'] []) ∧ I'' b' i' ∧ m'' b' i' < m'' b i) (lp : Lp) (b : Int) (i : Int) : I'' b i →
    loopF (fun st => evC T0 (orcB [fs31w, fs32w] []) lp b24 0 st (roundK [0, 1, 5, 8, 9, 10] [5] 0)) (stOf [0, 1, 5, 8, 9, 10] [.list ZN l, .str n, .int .i64 b, .list ZN l2, .int .i64 m, .int .i64 i] []) = some r'' :=
  loop_tr (fun a'' : Int × Int => stOf [0, 1, 5, 8, 9, 10] [.list ZN l, .str n, .int .i64 a''.1, .list ZN l2, .int .i64 m, .int .i64 a''.2] []) (fun a'' => I'' a''.1 a''.2) (fun a'' => m'' a''.1 a''.2) r'' (fun a'' => r24 l n a''.1 l2 m a''.2)
    (fun a'' x hx => (round24 lp l n a''.1 l2 m a''.2).trans hx) (fun a'' ha => Tr.all_mono (fun x'' hx => hx.imp id fun ⟨b', i', h1, h2, h3⟩ => ⟨(b', i'), h1, h2, h3⟩) (h (a''.1) (a''.2) ha)) (b, i)
theorem loop24 : ls24.Ok T0 (orcB [fs31w, fs32w] []) h24 0 0 b24 := by
  intro q'' hq'' x'' y'' r'' h
  obtain ⟨(l : List (List UInt8 × List (List UInt8 × (Int × (Int × (Int × List UInt8)))))), (n : List UInt8), (b : Int), (l2 : List (List UInt8 × List (List UInt8 × (Int × (Int × (Int × List UInt8)))))), (m : Int), (i : Int), _⟩ := x''
  obtain ⟨hc, rfl⟩ := Tr.get_on h
  show loopF (fun st => evC T0 (orcB [fs31w, fs32w] []) (lpN T0 (orcB [fs31w, fs32w] []) h24 0 q'') b24 0 st (roundK [0, 1, 5, 8, 9, 10] [5] 0)) (stOf [0, 1, 5, 8, 9, 10] [.list ZN l, .str n, .int .i64 b, .list ZN l2, .int .i64 m, .int .i64 i] []) = some (.exit 0, stOf [5] ([.int .i64 (bestV l n)]) ([]))
  simp only [bestC, Bool.and_eq_true, decide_eq_true_eq] at hc
  obtain ⟨hs, hn, rfl, rfl, rfl, rfl⟩ := hc
  have hl := smL_len hs
  refine wf24 l2 n l2 l2.length (fun b i => 0 ≤ i ∧ i ≤ l2.length ∧ b = bestAt l2 n i.toNat) (fun b i => (l2.length - i).toNat) _ ?_ _ (-1) 0 ⟨by omega, by omega, rfl⟩
  rintro b i ⟨h0, h1, hb⟩
  unfold r24
  rw [wrap_succ h0 h1 (by omega), show Prod.fst (l2.getD i.toNat (Ty.dflt ZN)) = apx l2 i.toNat from rfl, show Prod.fst (l2.getD b.toNat (Ty.dflt ZN)) = apx l2 b.toNat from rfl]
  by_cases hi : i < l2.length
  · have hsm := smL_get hs (k := i.toNat) (by omega)
    have hst : bestAt l2 n (i + 1).toNat = bestStep l2 n i.toNat b := by rw [show (i + 1).toNat = i.toNat + 1 by omega, bestAt, ← hb]
    have hlt := bestAt_lt l2 n i.toNat
    rw [← hb] at hlt
    unfold bestStep at hst
    refine Tr.all_t (dec_true hi) (Tr.all_t (dec_true h0) (Tr.all_t (dec_true hi) (Tr.all_t (by rw [hn, hsm]; rfl) (Tr.all_br (fun hu => Tr.all_br (fun hz => ?_) fun hz => ?_) fun hu => ?_))))
    · rw [if_pos ⟨hu, .inl (of_decide_eq_true hz)⟩] at hst
      exact Tr.all_ret (.inr ⟨_, _, rfl, ⟨by omega, by omega, by rw [hst]; omega⟩, by omega⟩)
    · have hz := of_decide_eq_false hz
      refine Tr.all_t (smN_big hsm) (Tr.all_t (dec_true (by omega)) (Tr.all_t (dec_true (by omega)) (Tr.all_t (smN_big (smL_get hs (by omega))) (Tr.all_br (fun hd => ?_) fun hd => ?_))))
      · rw [if_pos ⟨hu, .inr (of_decide_eq_true hd)⟩] at hst
        exact Tr.all_ret (.inr ⟨_, _, rfl, ⟨by omega, by omega, by rw [hst]; omega⟩, by omega⟩)
      · rw [if_neg (fun h => h.2.elim hz (of_decide_eq_false hd))] at hst
        exact Tr.all_ret (.inr ⟨_, _, rfl, ⟨by omega, by omega, hst.symm⟩, by omega⟩)
    · rw [if_neg (fun h => by rw [hu] at h; cases h.1)] at hst
      exact Tr.all_ret (.inr ⟨_, _, rfl, ⟨by omega, by omega, hst.symm⟩, by omega⟩)
  · refine Tr.all_f (dec_false hi) (Tr.all_ret (.inl ?_))
    rw [hb, show i.toNat = l2.length by omega]
    rfl
def t24 (l : List (List UInt8 × List (List UInt8 × (Int × (Int × (Int × List UInt8)))))) (n : List UInt8) : Tr Res := Tr.br (bestC l l n (↑(List.length l) : Int) (0 : Int) (-1 : Int)) (Tr.ret ([AV.int IntKind.i64 (bestV l n)], [])) Tr.no
def os24 : OSpec := { f := 24, sh := [.d (.list ZN) false, .d .str false], so := [], F := fun (l, n, _) _ => t24 l n }
set_option maxRecDepth 1000000 in
theorem fn24 (l : List (List UInt8 × List (List UInt8 × (Int × (Int × (Int × List UInt8)))))) (n : List UInt8) : evC T0 (orcB [fs31w, fs32w] []) (lpOf h24 0 (lsOf [ls24])) c24 1000000 (startSt [.list ZN l, .str n] [] Try.f24.ntmps) (finishK T0 false 0 Try.f24) = (t24 l n).get := by kernel_rfl
theorem ok24 : os24.Ok Try.prog := by
  refine os_ok mixed0 tab0 (orcB_sound (all_cons okf31w (all_cons okf32w all_nil)) all_nil) h24 (d := 0) (n0 := 0) (S := lsOf [ls24]) Try.func24 (by kernel_rfl) (c := c24) (by kernel_rfl) rfl (loops_eq (xs := [(0, b24)]) (by kernel_rfl) (all_cons (ls_here loop24) all_nil)) (by omega) (by kernel_rfl) ?_
  intro x'' y'' q'' hq''
  obtain ⟨(l : List (List UInt8 × List (List UInt8 × (Int × (Int × (Int × List UInt8)))))), (n : List UInt8), _⟩ := x''
  exact (fn24 l n).trans hq''
def fs24 : FSpec := fsT 24 [((.list ZN), false), (.str, false)] [((.int .i64), false)] fun (l, n, _) => t24 l n
theorem okf24 : fs24.Ok Try.prog := fsT_ok fun x'' r'' hr'' => ok24 x'' () r'' hr''
def fs24w : FSpec := fs24.like fun (l, n, _) => .on (smL l && smN n) (bestV l n, ())
theorem okf24w : fs24w.Ok Try.prog := by
  refine flike_ok okf24 _ ?_
  rintro ⟨(l : List ZNt), (n : List UInt8), _⟩ y h
  obtain ⟨hb, rfl⟩ := Tr.get_on h
  obtain ⟨hl, hn⟩ := Bool.and_eq_true_iff.1 (show (smL l && smN n) = true from hb)
  refine convR_of (vs := [.int .i64 (bestV l n)]) rfl rfl (Tr.get_of_all ?_)
  show (t24 l n).all _
  unfold t24
  refine Tr.all_t ?_ (Tr.all_ret rfl)
  unfold bestC
  rw [hl, hn, decide_eq_true rfl, decide_eq_true rfl, decide_eq_true rfl, decide_eq_true rfl]
  rfl
theorem depV_le {n : List UInt8} : -1 ≤ depV n ∧ depV n ≤ 127 := by
  cases h : mayV n with
  | false => rw [depV_not h]; omega
  | true =>
    rw [depV_may h]
    obtain ⟨h1, h2, _⟩ := may_iff.1 h
    have := labs_len _ n rfl h1
    omega
def atD (l : List ZNt) (n : List UInt8) (e : Int) (k : Nat) : Bool := undV n (apx l k) && (depV (apx l k) == e)
def fstD (l : List ZNt) (n : List UInt8) (e : Int) (k : Nat) : Int := if h : k < l.length then (if atD l n e k = true then (k : Int) else fstD l n e (k + 1)) else -1
termination_by l.length - k
def bestR (l : List ZNt) (n : List UInt8) : Nat → Int
  | 0 => -1
  | e + 1 => if fstD l n e 0 < 0 then bestR l n e else fstD l n e 0
theorem fstD_spec (l : List ZNt) (n : List UInt8) (e : Int) : ∀ (m k : Nat), l.length - k = m → (fstD l n e k = -1 ∧ ∀ j, k ≤ j → j < l.length → atD l n e j = false) ∨ ((k : Int) ≤ fstD l n e k ∧ fstD l n e k < l.length ∧ atD l n e (fstD l n e k).toNat = true ∧ ∀ j, k ≤ j → (j : Int) < fstD l n e k → atD l n e j = false)
  | m, k, hm => by
    rw [fstD]
    by_cases hk : k < l.length
    · rw [dif_pos hk]
      by_cases ha : atD l n e k = true
      · rw [if_pos ha]
        exact .inr ⟨by omega, by omega, by simpa using ha, fun j h1 h2 => by omega⟩
      · rw [if_neg ha]
        have ha : atD l n e k = false := by simpa using ha
        rcases fstD_spec l n e (m - 1) (k + 1) (by omega) with ⟨h1, h2⟩ | ⟨h1, h2, h3, h4⟩
        · refine .inl ⟨h1, fun j hj1 hj2 => ?_⟩
          rcases Nat.eq_or_lt_of_le hj1 with rfl | hj
          · exact ha
          · exact h2 j (by omega) hj2
        · refine .inr ⟨by omega, h2, h3, fun j hj1 hj2 => ?_⟩
          rcases Nat.eq_or_lt_of_le hj1 with rfl | hj
          · exact ha
          · exact h4 j (by omega) hj2
    · rw [dif_neg hk]
      exact .inl ⟨rfl, fun j h1 h2 => by omega⟩
termination_by m => m
def IsBest (l : List ZNt) (n : List UInt8) (k : Nat) (b : Int) : Prop :=
  (b = -1 ∧ ∀ j, j < k → undV n (apx l j) = false) ∨ (0 ≤ b ∧ b < k ∧ undV n (apx l b.toNat) = true ∧ (∀ j, j < k → undV n (apx l j) = true → depV (apx l j) ≤ depV (apx l b.toNat)) ∧ ∀ j : Nat, (j : Int) < b → undV n (apx l j) = true → depV (apx l j) < depV (apx l b.toNat))
theorem bestAt_is (l : List ZNt) (n : List UInt8) : ∀ k, IsBest l n k (bestAt l n k)
  | 0 => .inl ⟨rfl, fun j h => by omega⟩
  | k + 1 => by
    have ih := bestAt_is l n k
    rw [bestAt]
    generalize bestAt l n k = b at ih
    unfold bestStep
    by_cases hu : undV n (apx l k) = true
    · rcases ih with ⟨rfl, h1⟩ | ⟨h0, h1, h2, h3, h4⟩
      · rw [if_pos ⟨hu, .inl (by omega)⟩]
        refine .inr ⟨by omega, by omega, by simpa using hu, fun j hj hju => ?_, fun j hj hju => ?_⟩
        · rcases Nat.eq_or_lt_of_le (Nat.lt_succ_iff.1 hj) with rfl | hj
          · simp
          · rw [h1 j hj] at hju; cases hju
        · rw [h1 j (by omega)] at hju; cases hju
      · by_cases hd : depV (apx l k) > depV (apx l b.toNat)
        · rw [if_pos ⟨hu, .inr hd⟩]
          refine .inr ⟨by omega, by omega, by simpa using hu, fun j hj hju => ?_, fun j hj hju => ?_⟩
          · rcases Nat.eq_or_lt_of_le (Nat.lt_succ_iff.1 hj) with rfl | hj
            · simp
            · have := h3 j hj hju; simp; omega
          · have := h3 j (by omega) hju; simp; omega
        · rw [if_neg (by rintro ⟨_, h | h⟩ <;> omega)]
          refine .inr ⟨h0, by omega, h2, fun j hj hju => ?_, h4⟩
          rcases Nat.eq_or_lt_of_le (Nat.lt_succ_iff.1 hj) with rfl | hj
          · omega
          · exact h3 j hj hju
    · rw [if_neg (fun h => hu h.1)]
      have hu : undV n (apx l k) = false := by simpa using hu
      rcases ih with ⟨rfl, h1⟩ | ⟨h0, h1, h2, h3, h4⟩
      · refine .inl ⟨rfl, fun j hj => ?_⟩
        rcases Nat.eq_or_lt_of_le (Nat.lt_succ_iff.1 hj) with rfl | hj
        · exact hu
        · exact h1 j hj
      · refine .inr ⟨h0, by omega, h2, fun j hj hju => ?_, h4⟩
        rcases Nat.eq_or_lt_of_le (Nat.lt_succ_iff.1 hj) with rfl | hj
        · rw [hu] at hju; cases hju
        · exact h3 j hj hju
theorem IsBest.one {l : List ZNt} {n : List UInt8} {k : Nat} {a b : Int} (ha : IsBest l n k a) (hb : IsBest l n k b) : a = b := by
  rcases ha with ⟨rfl, h1⟩ | ⟨a0, a1, a2, a3, a4⟩
  · rcases hb with ⟨rfl, _⟩ | ⟨b0, b1, b2, _, _⟩
    · rfl
    · rw [h1 b.toNat (by omega)] at b2; cases b2
  · rcases hb with ⟨rfl, h1⟩ | ⟨b0, b1, b2, b3, b4⟩
    · rw [h1 a.toNat (by omega)] at a2; cases a2
    · have h1 := a3 b.toNat (by omega) b2
      have h2 := b3 a.toNat (by omega) a2
      rcases Int.lt_trichotomy a b with h | h | h
      · have := b4 a.toNat (by omega) a2; omega
      · exact h
      · have := a4 b.toNat (by omega) b2; omega
theorem bestR_is (l : List ZNt) (n : List UInt8) : ∀ e : Nat, (bestR l n e = -1 ∧ ∀ j, j < l.length → undV n (apx l j) = true → (e : Int) ≤ depV (apx l j)) ∨ (0 ≤ bestR l n e ∧ bestR l n e < l.length ∧ undV n (apx l (bestR l n e).toNat) = true ∧ depV (apx l (bestR l n e).toNat) < e ∧ (∀ j, j < l.length → undV n (apx l j) = true → depV (apx l j) < e → depV (apx l j) ≤ depV (apx l (bestR l n e).toNat)) ∧ ∀ j : Nat, (j : Int) < bestR l n e → undV n (apx l j) = true → depV (apx l j) < e → depV (apx l j) < depV (apx l (bestR l n e).toNat))
  | 0 => by
    refine .inl ⟨rfl, fun j hj hu => ?_⟩
    unfold undV at hu
    rw [Bool.and_eq_true] at hu
    rw [depV_may hu.1]
    omega
  | e + 1 => by
    have ih := bestR_is l n e
    have hs := fstD_spec l n e _ 0 rfl
    have hat : ∀ j, undV n (apx l j) = true → atD l n e j = false → depV (apx l j) ≠ e := fun j hu ha he => by
      unfold atD at ha
      rw [hu, he] at ha
      simp at ha
    rw [bestR]
    rcases hs with ⟨h1, h2⟩ | ⟨h1, h2, h3, h4⟩
    · rw [if_pos (by omega)]
      rcases ih with ⟨i1, i2⟩ | ⟨i1, i2, i3, i4, i5, i6⟩
      · refine .inl ⟨i1, fun j hj hu => ?_⟩
        have a := i2 j hj hu
        have b := hat j hu (h2 j (by omega) hj)
        omega
      · refine .inr ⟨i1, i2, i3, by omega, fun j hj hu hd => ?_, fun j hj hu hd => ?_⟩
        · have b := hat j hu (h2 j (by omega) hj)
          exact i5 j hj hu (by omega)
        · have b := hat j hu (h2 j (by omega) (by omega))
          exact i6 j hj hu (by omega)
    · rw [if_neg (by omega)]
      unfold atD at h3
      rw [Bool.and_eq_true, beq_iff_eq] at h3
      refine .inr ⟨by omega, h2, h3.1, by rw [h3.2]; omega, fun j hj hu hd => by rw [h3.2]; omega, fun j hj hu hd => ?_⟩
      have b := hat j hu (h4 j (by omega) hj)
      rw [h3.2]
      omega
theorem best_same (l : List ZNt) (n : List UInt8) : bestR l n 128 = bestV l n := by
  refine IsBest.one (k := l.length) ?_ (bestAt_is l n l.length)
  rcases bestR_is l n 128 with ⟨i1, i2⟩ | ⟨i1, i2, i3, i4, i5, i6⟩
  · refine .inl ⟨i1, fun j hj => ?_⟩
    cases hu : undV n (apx l j) with
    | false => rfl
    | true =>
      have a := i2 j hj hu
      have b := (depV_le (n := apx l j)).2
      omega
  · exact .inr ⟨i1, i2, i3, fun j hj hu => i5 j hj hu (by have := (depV_le (n := apx l j)).2; omega), fun j hj hu => i6 j hj hu (by have := (depV_le (n := apx l j)).2; omega)⟩
end Go.Proofs.YtkobjdhbfepkaaaE
namespace Go.Proofs.YtkobjdhbfepkaaaE
open Go Go.Proofs.YtkobjdhbfepkaaaB
set_option linter.unusedVariables false
set_option linter.unusedSimpArgs false
set_option maxRecDepth 100000
def rbC (l : List ZNt) (n : List UInt8) (i : Int) : Bool := smL l && (smN n && decide (i = 0))
noncomputable def b25i : Code := nthLoop (nthLoop c25 0) 0
def ls25i : LoopSpec := { bid := 2, sh := [.d (.list ZN) false, .d .str false, .d (.int .i64) false, .d (.int .i64) false], so := [], F := fun (l, n, e, i, _) _ => .on2 (rbC l n i) (decide (fstD l n e 0 < 0)) (.exit 2, [.list ZN l, .str n, .dead, .int .i64 e], []) (.ret, [.list ZN l, .str n, .int .i64 (fstD l n e 0), .int .i64 e], []) }
def r25i (l : List (List UInt8 × List (List UInt8 × (Int × (Int × (Int × List UInt8)))))) (n : List UInt8) (e : Int) (i : Int) : Tr (St ⊕ (Ex × St)) := Tr.br (decide (i < (↑(List.length l) : Int))) (Tr.br (decide ((0 : Int) ≤ i)) (Tr.br (decide (i < (↑(List.length l) : Int))) (Tr.br (smN n && smN (Prod.fst (List.getD l (Int.toNat i) (Ty.dflt ZN)))) (Tr.br (undV n (Prod.fst (List.getD l (Int.toNat i) (Ty.dflt ZN)))) (Tr.br (decide ((0 : Int) ≤ i)) (Tr.br (decide (i < (↑(List.length l) : Int))) (Tr.br (bigS (Prod.fst (List.getD l (Int.toNat i) (Ty.dflt ZN)))) (Tr.br (depV (Prod.fst (List.getD l (Int.toNat i) (Ty.dflt ZN))) == e) (Tr.ret (Sum.inr (Ex.ret, stOf [0, 1, 4, 5] [AV.list ZN l, AV.str n, AV.int IntKind.i64 i, AV.int IntKind.i64 e] []))) (Tr.ret (Sum.inl (stOf [0, 1, 5, 6] [AV.list ZN l, AV.str n, AV.int IntKind.i64 e, AV.int IntKind.i64 (IntKind.wrap IntKind.i64 (i + (1 : Int)))] [])))) Tr.no) Tr.no) Tr.no) (Tr.ret (Sum.inl (stOf [0, 1, 5, 6] [AV.list ZN l, AV.str n, AV.int IntKind.i64 e, AV.int IntKind.i64 (IntKind.wrap IntKind.i64 (i + (1 : Int)))] [])))) Tr.no) Tr.no) Tr.no) (Tr.ret (Sum.inr (Ex.exit 2, stOf [0, 1, 4, 5] [AV.list ZN l, AV.str n, AV.dead, AV.int IntKind.i64 e] [])))
set_option maxRecDepth 1000000 in
theorem round25i (lp : Lp) (l : List (List UInt8 × List (List UInt8 × (Int × (Int × (Int × List UInt8)))))) (n : List UInt8) (e : Int) (i : Int) : evC T0 (orcB [fs44w, fs46w] []) lp b25i 2 (stOf [0, 1, 5, 6] [.list ZN l, .str n, .int .i64 e, .int .i64 i] []) (roundK [0, 1, 5, 6] [0, 1, 4, 5] 0) = (r25i l n e i).get := by kernel_rfl
theorem wf25i (l : List (List UInt8 × List (List UInt8 × (Int × (Int × (Int × List UInt8)))))) (n : List UInt8) (e : Int) (I'' : Int → Prop) (m'' : Int → Nat) (r'' : Ex × St) (h : ∀ (i : Int), I'' i → (r25i l n e i).all fun x'' => x'' = .inr r'' ∨ ∃ (i' : Int), x'' = .inl (stOf [0, 1, 5, 6] [.list ZN l, .str n, .int .i64 e, .int .i64 i'] []) ∧ I'' i' ∧ m'' i' < m'' i) (lp : Lp) (i : Int) : I'' i →
    loopF (fun st => evC T0 (orcB [fs44w, fs46w] []) lp b25i 2 st (roundK [0, 1, 5, 6] [0, 1, 4, 5] 0)) (stOf [0, 1, 5, 6] [.list ZN l, .str n, .int .i64 e, .int .i64 i] []) = some r'' :=
  loop_tr (fun a'' : Int => stOf [0, 1, 5, 6] [.list ZN l, .str n, .int .i64 e, .int .i64 a''] []) (fun a'' => I'' a'') (fun a'' => m'' a'') r'' (fun a'' => r25i l n e a'')
    (fun a'' x hx => (round25i lp l n e a'').trans hx) (fun a'' ha => Tr.all_mono (fun x'' hx => hx.imp id fun ⟨i', h1, h2, h3⟩ => ⟨(i'), h1, h2, h3⟩) (h (a'') ha)) (i)
theorem loop25i : ls25i.Ok T0 (orcB [fs44w, fs46w] []) h25 0 0 b25i := by
  intro q'' hq'' x'' y'' r'' h
  obtain ⟨(l : List (List UInt8 × List (List UInt8 × (Int × (Int × (Int × List UInt8)))))), (n : List UInt8), (e : Int), (i : Int), _⟩ := x''
  obtain ⟨hc, rfl⟩ := Tr.get_on2 h
  show loopF (fun st => evC T0 (orcB [fs44w, fs46w] []) (lpN T0 (orcB [fs44w, fs46w] []) h25 0 q'') b25i 2 st (roundK [0, 1, 5, 6] [0, 1, 4, 5] 0)) (stOf [0, 1, 5, 6] [.list ZN l, .str n, .int .i64 e, .int .i64 i] []) = some ((bif decide (fstD l n e 0 < 0) then (.exit 2, [.list ZN l, .str n, .dead, .int .i64 e], []) else (.ret, [.list ZN l, .str n, .int .i64 (fstD l n e 0), .int .i64 e], []) : Ex × List AV × List LObj).1, stOf [0, 1, 4, 5] (bif decide (fstD l n e 0 < 0) then (.exit 2, [.list ZN l, .str n, .dead, .int .i64 e], []) else (.ret, [.list ZN l, .str n, .int .i64 (fstD l n e 0), .int .i64 e], []) : Ex × List AV × List LObj).2.1 (bif decide (fstD l n e 0 < 0) then (.exit 2, [.list ZN l, .str n, .dead, .int .i64 e], []) else (.ret, [.list ZN l, .str n, .int .i64 (fstD l n e 0), .int .i64 e], []) : Ex × List AV × List LObj).2.2)
  simp only [rbC, Bool.and_eq_true, decide_eq_true_eq] at hc
  obtain ⟨hs, hn, rfl⟩ := hc
  have hl := smL_len hs
  refine wf25i l n e (fun i => 0 ≤ i ∧ i ≤ l.length ∧ fstD l n e i.toNat = fstD l n e 0) (fun i => (l.length - i).toNat) _ ?_ _ 0 ⟨by omega, by omega, rfl⟩
  rintro i ⟨h0, h1, he⟩
  unfold r25i
  rw [wrap_succ h0 h1 (by omega), show Prod.fst (l.getD i.toNat (Ty.dflt ZN)) = apx l i.toNat from rfl, ← he, fstD]
  by_cases hi : i < l.length
  · have hsm := smL_get hs (k := i.toNat) (by omega)
    rw [dif_pos (by omega)]
    refine Tr.all_t (dec_true hi) (Tr.all_t (dec_true h0) (Tr.all_t (dec_true hi) (Tr.all_t (by rw [hn, hsm]; rfl) (Tr.all_br (fun hu => Tr.all_t (dec_true h0) (Tr.all_t (dec_true hi) (Tr.all_t (smN_big hsm) (Tr.all_br (fun hd => ?_) fun hd => ?_)))) fun hu => ?_))))
    · rw [if_pos (by unfold atD; rw [hu, hd]; rfl)]
      refine Tr.all_ret (.inl ?_)
      rw [show ((i.toNat : Nat) : Int) = i by omega, dec_false (show ¬ i < 0 by omega)]
      rfl
    · have hf : atD l n e i.toNat = false := by unfold atD; rw [hd, Bool.and_false]
      rw [fstD, dif_pos (by omega), if_neg (by rw [hf]; simp)] at he
      exact Tr.all_ret (.inr ⟨_, rfl, ⟨by omega, by omega, by rw [show (i + 1).toNat = i.toNat + 1 by omega, if_neg (by rw [hf]; simp)]⟩, by omega⟩)
    · have hf : atD l n e i.toNat = false := by unfold atD; rw [hu, Bool.false_and]
      rw [fstD, dif_pos (by omega), if_neg (by rw [hf]; simp)] at he
      exact Tr.all_ret (.inr ⟨_, rfl, ⟨by omega, by omega, by rw [show (i + 1).toNat = i.toNat + 1 by omega, if_neg (by rw [hf]; simp)]⟩, by omega⟩)
  · rw [dif_neg (by omega)]
    exact Tr.all_f (dec_false hi) (Tr.all_ret (.inl rfl))
def rbO (l : List ZNt) (n : List UInt8) (e : Int) : Bool := smL l && (smN n && decide (e = 127))
noncomputable def b25o : Code := nthLoop c25 0
def ls25o : LoopSpec := { bid := 0, sh := [.d (.list ZN) false, .d .str false, .d (.int .i64) false], so := [], F := fun (l, n, e, _) _ => .on2 (rbO l n e) (decide (bestR l n 128 < 0)) (.exit 0, [.dead], []) (.ret, [.int .i64 (bestR l n 128)], []) }
def r25o (l : List (List UInt8 × List (List UInt8 × (Int × (Int × (Int × List UInt8)))))) (n : List UInt8) (e : Int) : Tr (St ⊕ (Ex × St)) := Tr.br (decide (e ≥ (0 : Int))) (Tr.br (rbC l n (0 : Int)) (Tr.br (decide (fstD l n e 0 < (0 : Int))) (Tr.ret (Sum.inl (stOf [0, 1, 5] [AV.list ZN l, AV.str n, AV.int IntKind.i64 (IntKind.wrap IntKind.i64 (e - (1 : Int)))] []))) (Tr.ret (Sum.inr (Ex.ret, stOf [4] [AV.int IntKind.i64 (fstD l n e 0)] [])))) Tr.no) (Tr.ret (Sum.inr (Ex.exit 0, stOf [4] [AV.dead] [])))
set_option maxRecDepth 1000000 in
theorem round25o (l : List (List UInt8 × List (List UInt8 × (Int × (Int × (Int × List UInt8)))))) (n : List UInt8) (e : Int) : evC T0 (orcB [fs44w, fs46w] []) (lpOf h25 0 (lsOf [ls25i])) b25o 0 (stOf [0, 1, 5] [.list ZN l, .str n, .int .i64 e] []) (roundK [0, 1, 5] [4] 0) = (r25o l n e).get := by kernel_rfl
theorem wf25o (l : List (List UInt8 × List (List UInt8 × (Int × (Int × (Int × List UInt8)))))) (n : List UInt8) (I'' : Int → Prop) (m'' : Int → Nat) (r'' : Ex × St) (h : ∀ (e : Int), I'' e → (r25o l n e).all fun x'' => x'' = .inr r'' ∨ ∃ (e' : Int), x'' = .inl (stOf [0, 1, 5] [.list ZN l, .str n, .int .i64 e'] []) ∧ I'' e' ∧ m'' e' < m'' e) (q'' : Nat) (hq'' : 1 ≤ q'') (e : Int) : I'' e →
    loopF (fun st => evC T0 (orcB [fs44w, fs46w] []) (lpN T0 (orcB [fs44w, fs46w] []) h25 0 q'') b25o 0 st (roundK [0, 1, 5] [4] 0)) (stOf [0, 1, 5] [.list ZN l, .str n, .int .i64 e] []) = some r'' :=
  loop_tr (fun a'' : Int => stOf [0, 1, 5] [.list ZN l, .str n, .int .i64 a''] []) (fun a'' => I'' a'') (fun a'' => m'' a'') r'' (fun a'' => r25o l n a'')
    (fun a'' x hx => round_of (d := 0) (S := lsOf [ls25i]) (loops_at (xs := [(2, b25i)]) (by kernel_rfl) (all_cons (ls_here loop25i) all_nil)) (by omega) ((round25o l n a'').trans hx)) (fun a'' ha => Tr.all_mono (fun x'' hx => hx.imp id fun ⟨e', h1, h2, h3⟩ => ⟨(e'), h1, h2, h3⟩) (h (a'') ha)) (e)
theorem loop25o : ls25o.Ok T0 (orcB [fs44w, fs46w] []) h25 0 1 b25o := by
  intro q'' hq'' x'' y'' r'' h
  obtain ⟨(l : List (List UInt8 × List (List UInt8 × (Int × (Int × (Int × List UInt8)))))), (n : List UInt8), (e : Int), _⟩ := x''
  obtain ⟨hc, rfl⟩ := Tr.get_on2 h
  show loopF (fun st => evC T0 (orcB [fs44w, fs46w] []) (lpN T0 (orcB [fs44w, fs46w] []) h25 0 q'') b25o 0 st (roundK [0, 1, 5] [4] 0)) (stOf [0, 1, 5] [.list ZN l, .str n, .int .i64 e] []) = some ((bif decide (bestR l n 128 < 0) then (.exit 0, [.dead], []) else (.ret, [.int .i64 (bestR l n 128)], []) : Ex × List AV × List LObj).1, stOf [4] (bif decide (bestR l n 128 < 0) then (.exit 0, [.dead], []) else (.ret, [.int .i64 (bestR l n 128)], []) : Ex × List AV × List LObj).2.1 (bif decide (bestR l n 128 < 0) then (.exit 0, [.dead], []) else (.ret, [.int .i64 (bestR l n 128)], []) : Ex × List AV × List LObj).2.2)
  simp only [rbO, Bool.and_eq_true, decide_eq_true_eq] at hc
  obtain ⟨hs, hn, rfl⟩ := hc
  refine wf25o l n (fun e => -1 ≤ e ∧ e ≤ 127 ∧ bestR l n (e + 1).toNat = bestR l n 128) (fun e => (e + 1).toNat) _ ?_ _ hq'' 127 ⟨by omega, by omega, rfl⟩
  rintro e ⟨h0, h1, he⟩
  unfold r25o
  by_cases hi : 0 ≤ e
  · have hx : (e + 1).toNat = e.toNat + 1 := by omega
    have hy : ((e.toNat : Nat) : Int) = e := by omega
    have hcc : rbC l n 0 = true := by unfold rbC; rw [hs, hn]; rfl
    rw [hx, bestR, hy] at he
    refine Tr.all_t (dec_true hi) (Tr.all_t hcc (Tr.all_br (fun hf => ?_) fun hf => ?_))
    · rw [if_pos (of_decide_eq_true hf)] at he
      rw [IntWalk.i64_in _ (by omega)]
      exact Tr.all_ret (.inr ⟨_, rfl, ⟨by omega, by omega, by rw [show (e - 1 + 1).toNat = e.toNat by omega]; exact he⟩, by omega⟩)
    · rw [if_neg (of_decide_eq_false hf)] at he
      rw [← he, hf]
      exact Tr.all_ret (.inl rfl)
  · rw [show (e + 1).toNat = 0 by omega] at he
    rw [← he]
    exact Tr.all_f (dec_false hi) (Tr.all_ret (.inl rfl))
def t25 (l : List (List UInt8 × List (List UInt8 × (Int × (Int × (Int × List UInt8)))))) (n : List UInt8) : Tr Res := Tr.br (rbO l n (127 : Int)) (Tr.br (decide (bestR l n 128 < (0 : Int))) (Tr.ret ([AV.int IntKind.i64 (-1 : Int)], [])) (Tr.ret ([AV.int IntKind.i64 (bestR l n 128)], []))) Tr.no
def os25 : OSpec := { f := 25, sh := [.d (.list ZN) false, .d .str false], so := [], F := fun (l, n, _) _ => t25 l n }
set_option maxRecDepth 1000000 in
theorem fn25 (l : List (List UInt8 × List (List UInt8 × (Int × (Int × (Int × List UInt8)))))) (n : List UInt8) : evC T0 (orcB [fs44w, fs46w] []) (lpOf h25 0 (lsOf [ls25o])) c25 1000000 (startSt [.list ZN l, .str n] [] Try.f25.ntmps) (finishK T0 false 0 Try.f25) = (t25 l n).get := by kernel_rfl
theorem ok25 : os25.Ok Try.prog := by
  refine os_ok mixed0 tab0 (orcB_sound (all_cons okf44w (all_cons okf46w all_nil)) all_nil) h25 (d := 1) (n0 := 0) (S := lsOf [ls25o]) Try.func25 (by kernel_rfl) (c := c25) (by kernel_rfl) rfl (loops_eq (xs := [(0, b25o)]) (by kernel_rfl) (all_cons (ls_here loop25o) all_nil)) (by omega) (by kernel_rfl) ?_
  intro x'' y'' q'' hq''
  obtain ⟨(l : List (List UInt8 × List (List UInt8 × (Int × (Int × (Int × List UInt8)))))), (n : List UInt8), _⟩ := x''
  exact (fn25 l n).trans hq''
def fs25 : FSpec := fsT 25 [((.list ZN), false), (.str, false)] [((.int .i64), false)] fun (l, n, _) => t25 l n
theorem okf25 : fs25.Ok Try.prog := fsT_ok fun x'' r'' hr'' => ok25 x'' () r'' hr''
def fs25w : FSpec := fs25.like fun (l, n, _) => .on (smL l && smN n) (bestV l n, ())
theorem okf25w : fs25w.Ok Try.prog := by
  refine flike_ok okf25 _ ?_
  rintro ⟨(l : List ZNt), (n : List UInt8), _⟩ y h
  obtain ⟨hb, rfl⟩ := Tr.get_on h
  obtain ⟨hl, hn⟩ := Bool.and_eq_true_iff.1 (show (smL l && smN n) = true from hb)
  refine convR_of (vs := [.int .i64 (bestV l n)]) rfl rfl (Tr.get_of_all ?_)
  show (t25 l n).all _
  unfold t25
  rw [best_same]
  refine Tr.all_t (by unfold rbO; rw [hl, hn]; rfl) (Tr.all_br (fun h => Tr.all_ret ?_) fun h => Tr.all_ret rfl)
  have := of_decide_eq_true h
  rcases bestAt_is l n l.length with ⟨e, _⟩ | ⟨e, _⟩
  · rw [show bestV l n = -1 from e]
  · unfold bestV at this; omega
end Go.Proofs.YtkobjdhbfepkaaaE
namespace Go.Proofs.YtkobjdhbfepkaaaE
open Go Go.Proofs.YtkobjdhbfepkaaaB
set_option linter.unusedVariables false
set_option linter.unusedSimpArgs false
set_option maxRecDepth 100000
def roC (ap : List UInt8) (zr l : List RRt) (i : Int) : Bool := smN ap && (smR zr && (l.isEmpty && decide (i = 0)))
noncomputable def b48 : Code := nthLoop c48 0
def ls48 : LoopSpec := { bid := 0, sh := [.d .str false, .d (.int .u16) false, .ptr 0 0, .row 1, .d (.int .i64) false], so := [.box [.d .str false, .d (.list RR) false], .row RR], F := fun (n, kind, i, _) ((ap, zr, _), l, _) => .on (roC ap zr l i) (.exit 0, [.rowA 0], [.row RR (ownV ap (isOf n kind) zr)]) }
def r48 (n : List UInt8) (kind : Int) (i : Int) (ap : List UInt8) (zr : List (List UInt8 × (Int × (Int × (Int × List UInt8))))) (l : List (List UInt8 × (Int × (Int × (Int × List UInt8))))) : Tr (St ⊕ (Ex × St)) := Tr.br (decide (i < (↑(List.length zr) : Int))) (Tr.br (decide ((0 : Int) ≤ i)) (Tr.br (decide (i < (↑(List.length zr) : Int))) (Tr.br (Prod.fst (List.getD zr (Int.toNat i) (Ty.dflt RR)) == n) (Tr.br (Prod.fst (Prod.snd (List.getD zr (Int.toNat i) (Ty.dflt RR))) == kind) (Tr.br (smN (Prod.fst (List.getD zr (Int.toNat i) (Ty.dflt RR))) && smN ap) (Tr.br (undV (Prod.fst (List.getD zr (Int.toNat i) (Ty.dflt RR))) ap) (Tr.br (fits (List.length l + 1) 40) (Tr.ret (Sum.inl (stOf [1, 2, 3, 7, 8] [AV.str n, AV.int IntKind.u16 kind, AV.ptr 0 0, AV.rowA 1, AV.int IntKind.i64 (IntKind.wrap IntKind.i64 (i + (1 : Int)))] [LObj.boxT none [AV.str ap, AV.list RR zr], LObj.row RR (l ++ [List.getD zr (Int.toNat i) (Ty.dflt RR)])]))) Tr.no) (Tr.ret (Sum.inl (stOf [1, 2, 3, 7, 8] [AV.str n, AV.int IntKind.u16 kind, AV.ptr 0 0, AV.rowA 1, AV.int IntKind.i64 (IntKind.wrap IntKind.i64 (i + (1 : Int)))] [LObj.boxT none [AV.str ap, AV.list RR zr], LObj.row RR l])))) Tr.no) (Tr.ret (Sum.inl (stOf [1, 2, 3, 7, 8] [AV.str n, AV.int IntKind.u16 kind, AV.ptr 0 0, AV.rowA 1, AV.int IntKind.i64 (IntKind.wrap IntKind.i64 (i + (1 : Int)))] [LObj.boxT none [AV.str ap, AV.list RR zr], LObj.row RR l])))) (Tr.ret (Sum.inl (stOf [1, 2, 3, 7, 8] [AV.str n, AV.int IntKind.u16 kind, AV.ptr 0 0, AV.rowA 1, AV.int IntKind.i64 (IntKind.wrap IntKind.i64 (i + (1 : Int)))] [LObj.boxT none [AV.str ap, AV.list RR zr], LObj.row RR l])))) Tr.no) Tr.no) (Tr.ret (Sum.inr (Ex.exit 0, stOf [7] [AV.rowA 0] [LObj.row RR l])))
set_option maxRecDepth 1000000 in
theorem round48 (lp : Lp) (n : List UInt8) (kind : Int) (i : Int) (ap : List UInt8) (zr : List (List UInt8 × (Int × (Int × (Int × List UInt8))))) (l : List (List UInt8 × (Int × (Int × (Int × List UInt8))))) : evC T0 (orcB [fs44w] []) lp b48 0 (stOf [1, 2, 3, 7, 8] [.str n, .int .u16 kind, .ptr 0 0, .rowA 1, .int .i64 i] [.box [.str ap, .list RR zr], .row RR l]) (roundK [1, 2, 3, 7, 8] [7] 0) = (r48 n kind i ap zr l).get := by kernel_rfl
theorem wf48 (n : List UInt8) (kind : Int) (ap : List UInt8) (zr : List (List UInt8 × (Int × (Int × (Int × List UInt8))))) (I'' : List (List UInt8 × (Int × (Int × (Int × List UInt8)))) → Int → Prop) (m'' : List (List UInt8 × (Int × (Int × (Int × List UInt8)))) → Int → Nat) (r'' : Ex × St) (h : ∀ (l : List (List UInt8 × (Int × (Int × (Int × List UInt8))))) (i : Int), I'' l i → (r48 n kind i ap zr l).all fun x'' => x'' = .inr r'' ∨ ∃ (l' : List (List UInt8 × (Int × (Int × (Int × List UInt8))))) (i' : Int), x'' = .inl (stOf [1, 2, 3, 7, 8] [.str n, .int .u16 kind, .ptr 0 0, .rowA 1, .int .i64 i'] [.box [.str ap, .list RR zr], .row RR l']) ∧ I'' l' i' ∧ m'' l' i' < m'' l i) (lp : Lp) (l : List (List UInt8 × (Int × (Int × (Int × List UInt8))))) (i : Int) : I'' l i →
    loopF (fun st => evC T0 (orcB [fs44w] []) lp b48 0 st (roundK [1, 2, 3, 7, 8] [7] 0)) (stOf [1, 2, 3, 7, 8] [.str n, .int .u16 kind, .ptr 0 0, .rowA 1, .int .i64 i] [.box [.str ap, .list RR zr], .row RR l]) = some r'' :=
  loop_tr (fun a'' : List (List UInt8 × (Int × (Int × (Int × List UInt8)))) × Int => stOf [1, 2, 3, 7, 8] [.str n, .int .u16 kind, .ptr 0 0, .rowA 1, .int .i64 a''.2] [.box [.str ap, .list RR zr], .row RR a''.1]) (fun a'' => I'' a''.1 a''.2) (fun a'' => m'' a''.1 a''.2) r'' (fun a'' => r48 n kind a''.2 ap zr a''.1)
    (fun a'' x hx => (round48 lp n kind a''.2 ap zr a''.1).trans hx) (fun a'' ha => Tr.all_mono (fun x'' hx => hx.imp id fun ⟨l', i', h1, h2, h3⟩ => ⟨(l', i'), h1, h2, h3⟩) (h (a''.1) (a''.2) ha)) (l, i)
theorem loop48 : ls48.Ok T0 (orcB [fs44w] []) h48 0 0 b48 := by
  intro q'' hq'' x'' y'' r'' h
  obtain ⟨(n : List UInt8), (kind : Int), (i : Int), _⟩ := x''
  obtain ⟨⟨(ap : List UInt8), (zr : List (List UInt8 × (Int × (Int × (Int × List UInt8))))), _⟩, (l : List (List UInt8 × (Int × (Int × (Int × List UInt8))))), _⟩ := y''
  obtain ⟨hc, rfl⟩ := Tr.get_on h
  show loopF (fun st => evC T0 (orcB [fs44w] []) (lpN T0 (orcB [fs44w] []) h48 0 q'') b48 0 st (roundK [1, 2, 3, 7, 8] [7] 0)) (stOf [1, 2, 3, 7, 8] [.str n, .int .u16 kind, .ptr 0 0, .rowA 1, .int .i64 i] [.box [.str ap, .list RR zr], .row RR l]) = some (.exit 0, stOf [7] ([.rowA 0]) ([.row RR (ownV ap (isOf n kind) zr)]))
  simp only [roC, Bool.and_eq_true, decide_eq_true_eq, List.isEmpty_iff] at hc
  obtain ⟨hap, hrs, rfl, rfl⟩ := hc
  have hl := smR_len hrs
  refine wf48 n kind ap zr (fun l i => 0 ≤ i ∧ i ≤ zr.length ∧ l ++ ownV ap (isOf n kind) (zr.drop i.toNat) = ownV ap (isOf n kind) zr) (fun l i => (zr.length - i).toNat) _ ?_ _ [] 0 ⟨by omega, by omega, rfl⟩
  rintro l i ⟨h0, h1, he⟩
  have hll : l.length ≤ 1000000 := by
    have := ownV_len (ap := ap) (f := isOf n kind) (rs := zr)
    rw [← he, List.length_append] at this
    omega
  unfold r48
  rw [wrap_succ h0 h1 (by omega)]
  by_cases hi : i < zr.length
  · have hsm := smR_get hrs (k := i.toNat) (by omega) (Ty.dflt RR)
    rw [ownV_next (k := i.toNat) (by omega) (Ty.dflt RR)] at he
    generalize zr.getD i.toNat (Ty.dflt RR) = x at *
    have hio : isOf n kind x = (x.1 == n && x.2.1 == kind) := rfl
    refine Tr.all_t (dec_true hi) (Tr.all_t (dec_true h0) (Tr.all_t (dec_true hi) (Tr.all_br (fun c1 => Tr.all_br (fun c2 => Tr.all_t (by rw [hsm, hap]; rfl) (Tr.all_br (fun hu => Tr.all_t (fits_true (by omega) (by omega)) ?_) fun hu => ?_)) fun c2 => ?_) fun c1 => ?_)))
    all_goals rw [hio, c1] at he
    all_goals try rw [c2] at he
    all_goals try rw [hu] at he
    all_goals refine Tr.all_ret (.inr ⟨_, _, rfl, ⟨by omega, by omega, ?_⟩, by omega⟩)
    all_goals rw [show (i + 1).toNat = i.toNat + 1 by omega]
    · rw [← he]; simp
    · rw [← he]; simp
    · rw [← he]; simp
    · rw [← he]; simp
  · refine Tr.all_f (dec_false hi) (Tr.all_ret (.inl ?_))
    rw [show i.toNat = zr.length by omega, List.drop_length] at he
    rw [← he]
    simp [ownV]
def rtC (ap n : List UInt8) (zr : List RRt) (i : Int) : Bool := smN ap && (smR zr && (smN n && decide (i = 0)))
noncomputable def b20 : Code := nthLoop c20 0
def ls20 : LoopSpec := { bid := 0, sh := [.d .str false, .ptr 0 0, .d (.int .i64) false], so := [.box [.d .str false, .d (.list RR) false]], F := fun (n, i, _) ((ap, zr, _), _) => .on2 (rtC ap n zr i) ((ownV ap (undF n) zr).isEmpty) (.exit 0, [.dead], []) (.ret, [.bool true], []) }
def r20 (n : List UInt8) (i : Int) (ap : List UInt8) (zr : List (List UInt8 × (Int × (Int × (Int × List UInt8))))) : Tr (St ⊕ (Ex × St)) := Tr.br (decide (i < (↑(List.length zr) : Int))) (Tr.br (decide ((0 : Int) ≤ i)) (Tr.br (decide (i < (↑(List.length zr) : Int))) (Tr.br (smN (Prod.fst (List.getD zr (Int.toNat i) (Ty.dflt RR))) && smN ap) (Tr.br (undV (Prod.fst (List.getD zr (Int.toNat i) (Ty.dflt RR))) ap) (Tr.br (decide ((0 : Int) ≤ i)) (Tr.br (decide (i < (↑(List.length zr) : Int))) (Tr.br (smN (Prod.fst (List.getD zr (Int.toNat i) (Ty.dflt RR))) && smN n) (Tr.br (undV (Prod.fst (List.getD zr (Int.toNat i) (Ty.dflt RR))) n) (Tr.ret (Sum.inr (Ex.ret, stOf [4] [AV.bool true] []))) (Tr.ret (Sum.inl (stOf [1, 2, 5] [AV.str n, AV.ptr 0 0, AV.int IntKind.i64 (IntKind.wrap IntKind.i64 (i + (1 : Int)))] [LObj.boxT none [AV.str ap, AV.list RR zr]])))) Tr.no) Tr.no) Tr.no) (Tr.ret (Sum.inl (stOf [1, 2, 5] [AV.str n, AV.ptr 0 0, AV.int IntKind.i64 (IntKind.wrap IntKind.i64 (i + (1 : Int)))] [LObj.boxT none [AV.str ap, AV.list RR zr]])))) Tr.no) Tr.no) Tr.no) (Tr.ret (Sum.inr (Ex.exit 0, stOf [4] [AV.dead] [])))
set_option maxRecDepth 1000000 in
theorem round20 (lp : Lp) (n : List UInt8) (i : Int) (ap : List UInt8) (zr : List (List UInt8 × (Int × (Int × (Int × List UInt8))))) : evC T0 (orcB [fs44w] []) lp b20 0 (stOf [1, 2, 5] [.str n, .ptr 0 0, .int .i64 i] [.box [.str ap, .list RR zr]]) (roundK [1, 2, 5] [4] 0) = (r20 n i ap zr).get := by kernel_rfl
theorem wf20 (n : List UInt8) (ap : List UInt8) (zr : List (List UInt8 × (Int × (Int × (Int × List UInt8))))) (I'' : Int → Prop) (m'' : Int → Nat) (r'' : Ex × St) (h : ∀ (i : Int), I'' i → (r20 n i ap zr).all fun x'' => x'' = .inr r'' ∨ ∃ (i' : Int), x'' = .inl (stOf [1, 2, 5] [.str n, .ptr 0 0, .int .i64 i'] [.box [.str ap, .list RR zr]]) ∧ I'' i' ∧ m'' i' < m'' i) (lp : Lp) (i : Int) : I'' i →
    loopF (fun st => evC T0 (orcB [fs44w] []) lp b20 0 st (roundK [1, 2, 5] [4] 0)) (stOf [1, 2, 5] [.str n, .ptr 0 0, .int .i64 i] [.box [.str ap, .list RR zr]]) = some r'' :=
  loop_tr (fun a'' : Int => stOf [1, 2, 5] [.str n, .ptr 0 0, .int .i64 a''] [.box [.str ap, .list RR zr]]) (fun a'' => I'' a'') (fun a'' => m'' a'') r'' (fun a'' => r20 n a'' ap zr)
    (fun a'' x hx => (round20 lp n a'' ap zr).trans hx) (fun a'' ha => Tr.all_mono (fun x'' hx => hx.imp id fun ⟨i', h1, h2, h3⟩ => ⟨(i'), h1, h2, h3⟩) (h (a'') ha)) (i)
theorem loop20 : ls20.Ok T0 (orcB [fs44w] []) h20 0 0 b20 := by
  intro q'' hq'' x'' y'' r'' h
  obtain ⟨(n : List UInt8), (i : Int), _⟩ := x''
  obtain ⟨⟨(ap : List UInt8), (zr : List (List UInt8 × (Int × (Int × (Int × List UInt8))))), _⟩, _⟩ := y''
  obtain ⟨hc, rfl⟩ := Tr.get_on2 h
  show loopF (fun st => evC T0 (orcB [fs44w] []) (lpN T0 (orcB [fs44w] []) h20 0 q'') b20 0 st (roundK [1, 2, 5] [4] 0)) (stOf [1, 2, 5] [.str n, .ptr 0 0, .int .i64 i] [.box [.str ap, .list RR zr]]) = some ((bif (ownV ap (undF n) zr).isEmpty then (.exit 0, [.dead], []) else (.ret, [.bool true], []) : Ex × List AV × List LObj).1, stOf [4] (bif (ownV ap (undF n) zr).isEmpty then (.exit 0, [.dead], []) else (.ret, [.bool true], []) : Ex × List AV × List LObj).2.1 (bif (ownV ap (undF n) zr).isEmpty then (.exit 0, [.dead], []) else (.ret, [.bool true], []) : Ex × List AV × List LObj).2.2)
  simp only [rtC, Bool.and_eq_true, decide_eq_true_eq] at hc
  obtain ⟨hap, hrs, hn, rfl⟩ := hc
  have hl := smR_len hrs
  refine wf20 n ap zr (fun i => 0 ≤ i ∧ i ≤ zr.length ∧ ownV ap (undF n) (zr.drop i.toNat) = ownV ap (undF n) zr) (fun i => (zr.length - i).toNat) _ ?_ _ 0 ⟨by omega, by omega, rfl⟩
  rintro i ⟨h0, h1, he⟩
  unfold r20
  rw [wrap_succ h0 h1 (by omega)]
  by_cases hi : i < zr.length
  · have hsm := smR_get hrs (k := i.toNat) (by omega) (Ty.dflt RR)
    rw [ownV_next (k := i.toNat) (by omega) (Ty.dflt RR)] at he
    generalize zr.getD i.toNat (Ty.dflt RR) = x at *
    have hio : undF n x = undV x.1 n := rfl
    refine Tr.all_t (dec_true hi) (Tr.all_t (dec_true h0) (Tr.all_t (dec_true hi) (Tr.all_t (by rw [hsm, hap]; rfl) (Tr.all_br (fun hu => Tr.all_t (dec_true h0) (Tr.all_t (dec_true hi) (Tr.all_t (by rw [hsm, hn]; rfl) (Tr.all_br (fun hf => ?_) fun hf => ?_)))) fun hu => ?_))))
    all_goals rw [hio, hu] at he
    all_goals try rw [hf] at he
    · rw [← he]
      exact Tr.all_ret (.inl rfl)
    · exact Tr.all_ret (.inr ⟨_, rfl, ⟨by omega, by omega, by rw [show (i + 1).toNat = i.toNat + 1 by omega, ← he]; rfl⟩, by omega⟩)
    · exact Tr.all_ret (.inr ⟨_, rfl, ⟨by omega, by omega, by rw [show (i + 1).toNat = i.toNat + 1 by omega, ← he]; rfl⟩, by omega⟩)
  · refine Tr.all_f (dec_false hi) (Tr.all_ret (.inl ?_))
    rw [show i.toNat = zr.length by omega, List.drop_length] at he
    rw [← he]
    rfl
def t48 (z : (List UInt8 × List (List UInt8 × (Int × (Int × (Int × List UInt8)))))) (n : List UInt8) (kind : Int) : Tr Res := Tr.br (roC (Prod.fst z) (Prod.snd z) [] (0 : Int)) (Tr.ret ([AV.list RR (ownV (Prod.fst z) (isOf n kind) (Prod.snd z))], [])) Tr.no
def os48 : OSpec := { f := 48, sh := [.d ZN true, .d .str false, .d (.int .u16) false], so := [], F := fun (z, n, kind, _) _ => t48 z n kind }
set_option maxRecDepth 1000000 in
theorem fn48 (z : (List UInt8 × List (List UInt8 × (Int × (Int × (Int × List UInt8)))))) (n : List UInt8) (kind : Int) : evC T0 (orcB [fs44w] []) (lpOf h48 0 (lsOf [ls48])) c48 1000000 (startSt [AV.ofTy ZN z true, .str n, .int .u16 kind] [] Try.f48.ntmps) (finishK T0 false 0 Try.f48) = (t48 z n kind).get := by kernel_rfl
theorem ok48 : os48.Ok Try.prog := by
  refine os_ok mixed0 tab0 (orcB_sound (all_cons okf44w all_nil) all_nil) h48 (d := 0) (n0 := 0) (S := lsOf [ls48]) Try.func48 (by kernel_rfl) (c := c48) (by kernel_rfl) rfl (loops_eq (xs := [(0, b48)]) (by kernel_rfl) (all_cons (ls_here loop48) all_nil)) (by omega) (by kernel_rfl) ?_
  intro x'' y'' q'' hq''
  obtain ⟨(z : (List UInt8 × List (List UInt8 × (Int × (Int × (Int × List UInt8)))))), (n : List UInt8), (kind : Int), _⟩ := x''
  exact (fn48 z n kind).trans hq''
def fs48 : FSpec := fsT 48 [(ZN, true), (.str, false), ((.int .u16), false)] [((.list RR), false)] fun (z, n, kind, _) => t48 z n kind
theorem okf48 : fs48.Ok Try.prog := fsT_ok fun x'' r'' hr'' => ok48 x'' () r'' hr''
def t20 (z : (List UInt8 × List (List UInt8 × (Int × (Int × (Int × List UInt8)))))) (n : List UInt8) : Tr Res := Tr.br (n == Prod.fst z) (Tr.ret ([AV.bool true], [])) (Tr.br (rtC (Prod.fst z) n (Prod.snd z) (0 : Int)) (Tr.br (List.isEmpty (ownV (Prod.fst z) (undF n) (Prod.snd z))) (Tr.ret ([AV.bool false], [])) (Tr.ret ([AV.bool true], []))) Tr.no)
def os20 : OSpec := { f := 20, sh := [.d ZN true, .d .str false], so := [], F := fun (z, n, _) _ => t20 z n }
set_option maxRecDepth 1000000 in
theorem fn20 (z : (List UInt8 × List (List UInt8 × (Int × (Int × (Int × List UInt8)))))) (n : List UInt8) : evC T0 (orcB [fs44w] []) (lpOf h20 0 (lsOf [ls20])) c20 1000000 (startSt [AV.ofTy ZN z true, .str n] [] Try.f20.ntmps) (finishK T0 false 0 Try.f20) = (t20 z n).get := by kernel_rfl
theorem ok20 : os20.Ok Try.prog := by
  refine os_ok mixed0 tab0 (orcB_sound (all_cons okf44w all_nil) all_nil) h20 (d := 0) (n0 := 0) (S := lsOf [ls20]) Try.func20 (by kernel_rfl) (c := c20) (by kernel_rfl) rfl (loops_eq (xs := [(0, b20)]) (by kernel_rfl) (all_cons (ls_here loop20) all_nil)) (by omega) (by kernel_rfl) ?_
  intro x'' y'' q'' hq''
  obtain ⟨(z : (List UInt8 × List (List UInt8 × (Int × (Int × (Int × List UInt8)))))), (n : List UInt8), _⟩ := x''
  exact (fn20 z n).trans hq''
def fs20 : FSpec := fsT 20 [(ZN, true), (.str, false)] [(.bool, false)] fun (z, n, _) => t20 z n
theorem okf20 : fs20.Ok Try.prog := fsT_ok fun x'' r'' hr'' => ok20 x'' () r'' hr''
theorem roC_of {z : ZNt} (h : smZ z = true) : roC z.1 z.2 [] 0 = true := by
  obtain ⟨h1, h2⟩ := smZ_iff.1 h
  unfold roC
  rw [h1, h2]
  rfl
def fs48w : FSpec := fs48.like fun (z, n, kind, _) => .on (smZ z) (ofV z n kind, ())
theorem okf48w : fs48w.Ok Try.prog := by
  refine flike_ok okf48 _ ?_
  rintro ⟨(z : ZNt), (n : List UInt8), (kind : Int), _⟩ y h
  obtain ⟨hb, rfl⟩ := Tr.get_on h
  refine convR_of (vs := [.list RR (ofV z n kind)]) rfl rfl (Tr.get_of_all ?_)
  show (t48 z n kind).all _
  exact Tr.all_t (roC_of hb) (Tr.all_ret rfl)
def fs20w : FSpec := fs20.like fun (z, n, _) => .on (smZ z && smN n) (thereV z n, ())
theorem okf20w : fs20w.Ok Try.prog := by
  refine flike_ok okf20 _ ?_
  rintro ⟨(z : ZNt), (n : List UInt8), _⟩ y h
  obtain ⟨hb, rfl⟩ := Tr.get_on h
  obtain ⟨hz, hn⟩ := Bool.and_eq_true_iff.1 (show (smZ z && smN n) = true from hb)
  obtain ⟨h1, h2⟩ := smZ_iff.1 hz
  refine convR_of (vs := [.bool (thereV z n)]) rfl rfl (Tr.get_of_all ?_)
  show (t20 z n).all _
  unfold t20 thereV
  refine Tr.all_br (fun h => Tr.all_ret (by rw [h]; rfl)) fun h => Tr.all_t (by unfold rtC; rw [hn, h1, h2]; rfl) ?_
  rw [h, Bool.false_or]
  cases ownV z.1 (undF n) z.2 <;> exact Tr.all_br (fun h => Tr.all_ret (by first | rfl | cases h)) fun h => Tr.all_ret (by first | rfl | cases h)
def rrB (x y : RRt) : Bool := x.1 == y.1 && (x.2.1 == y.2.1 && (x.2.2.1 == y.2.2.1 && (x.2.2.2.1 == y.2.2.2.1 && (x.2.2.2.2 == y.2.2.2.2 && true))))
theorem rrB_iff (x y : RRt) : rrB x y = decide (x = y) := by
  obtain ⟨a, b, c, d, e⟩ := x
  obtain ⟨a', b', c', d', e'⟩ := y
  unfold rrB
  by_cases h : (a, b, c, d, e) = (a', b', c', d', e')
  · rw [decide_eq_true h]
    cases h
    simp
  · rw [decide_eq_false h]
    simp only [Prod.mk.injEq] at h
    cases h1 : (a == a' && (b == b' && (c == c' && (d == d' && (e == e' && true)))))
    · rfl
    · simp only [Bool.and_eq_true, beq_iff_eq] at h1
      exact absurd ⟨h1.1, h1.2.1, h1.2.2.1, h1.2.2.2.1, h1.2.2.2.2.1⟩ h
def haC (l : List RRt) (i : Int) : Bool := Nat.ble l.length 1000000 && decide (i = 0)
def hasV (l : List RRt) (r : RRt) : Bool := l.any fun x => decide (x = r)
noncomputable def b54 : Code := nthLoop c54 0
def ls54 : LoopSpec := { bid := 0, sh := [.d (.list RR) false, .ptr 0 0, .d (.int .i64) false], so := [.box [.d .str false, .d (.int .u16) false, .d (.int .u16) false, .d (.int .u32) false, .d .str false]], F := fun (l, i, _) ((ra, rb, rc, rd, re, _), _) => .on2 (haC l i) (!hasV l (ra, rb, rc, rd, re)) (.exit 0, [.dead], []) (.ret, [.bool true], []) }
def r54 (l : List (List UInt8 × (Int × (Int × (Int × List UInt8))))) (i : Int) (ra : List UInt8) (rb : Int) (rc : Int) (rd : Int) (re : List UInt8) : Tr (St ⊕ (Ex × St)) := Tr.br (decide (i < (↑(List.length l) : Int))) (Tr.br (decide ((0 : Int) ≤ i)) (Tr.br (decide (i < (↑(List.length l) : Int))) (Tr.br (Prod.fst (List.getD l (Int.toNat i) (Ty.dflt RR)) == ra && (Prod.fst (Prod.snd (List.getD l (Int.toNat i) (Ty.dflt RR))) == rb && (Prod.fst (Prod.snd (Prod.snd (List.getD l (Int.toNat i) (Ty.dflt RR)))) == rc && (Prod.fst (Prod.snd (Prod.snd (Prod.snd (List.getD l (Int.toNat i) (Ty.dflt RR))))) == rd && (Prod.snd (Prod.snd (Prod.snd (Prod.snd (List.getD l (Int.toNat i) (Ty.dflt RR))))) == re && true))))) (Tr.ret (Sum.inr (Ex.ret, stOf [4] [AV.bool true] []))) (Tr.ret (Sum.inl (stOf [0, 3, 5] [AV.list RR l, AV.ptr 0 0, AV.int IntKind.i64 (IntKind.wrap IntKind.i64 (i + (1 : Int)))] [LObj.boxT none [AV.str ra, AV.int IntKind.u16 rb, AV.int IntKind.u16 rc, AV.int IntKind.u32 rd, AV.str re]])))) Tr.no) Tr.no) (Tr.ret (Sum.inr (Ex.exit 0, stOf [4] [AV.dead] [])))
set_option maxRecDepth 1000000 in
theorem round54 (orc : Orc) (lp : Lp) (l : List (List UInt8 × (Int × (Int × (Int × List UInt8))))) (i : Int) (ra : List UInt8) (rb : Int) (rc : Int) (rd : Int) (re : List UInt8) : evC T0 orc lp b54 0 (stOf [0, 3, 5] [.list RR l, .ptr 0 0, .int .i64 i] [.box [.str ra, .int .u16 rb, .int .u16 rc, .int .u32 rd, .str re]]) (roundK [0, 3, 5] [4] 0) = (r54 l i ra rb rc rd re).get := by kernel_rfl
theorem wf54 (orc : Orc) (l : List (List UInt8 × (Int × (Int × (Int × List UInt8))))) (ra : List UInt8) (rb : Int) (rc : Int) (rd : Int) (re : List UInt8) (I'' : Int → Prop) (m'' : Int → Nat) (r'' : Ex × St) (h : ∀ (i : Int), I'' i → (r54 l i ra rb rc rd re).all fun x'' => x'' = .inr r'' ∨ ∃ (i' : Int), x'' = .inl (stOf [0, 3, 5] [.list RR l, .ptr 0 0, .int .i64 i'] [.box [.str ra, .int .u16 rb, .int .u16 rc, .int .u32 rd, .str re]]) ∧ I'' i' ∧ m'' i' < m'' i) (lp : Lp) (i : Int) : I'' i →
    loopF (fun st => evC T0 orc lp b54 0 st (roundK [0, 3, 5] [4] 0)) (stOf [0, 3, 5] [.list RR l, .ptr 0 0, .int .i64 i] [.box [.str ra, .int .u16 rb, .int .u16 rc, .int .u32 rd, .str re]]) = some r'' :=
  loop_tr (fun a'' : Int => stOf [0, 3, 5] [.list RR l, .ptr 0 0, .int .i64 a''] [.box [.str ra, .int .u16 rb, .int .u16 rc, .int .u32 rd, .str re]]) (fun a'' => I'' a'') (fun a'' => m'' a'') r'' (fun a'' => r54 l a'' ra rb rc rd re)
    (fun a'' x hx => (round54 orc lp l a'' ra rb rc rd re).trans hx) (fun a'' ha => Tr.all_mono (fun x'' hx => hx.imp id fun ⟨i', h1, h2, h3⟩ => ⟨(i'), h1, h2, h3⟩) (h (a'') ha)) (i)
theorem loop54 (orc : Orc) : ls54.Ok T0 orc h54 0 0 b54 := by
  intro q'' hq'' x'' y'' r'' h
  obtain ⟨(l : List (List UInt8 × (Int × (Int × (Int × List UInt8))))), (i : Int), _⟩ := x''
  obtain ⟨⟨(ra : List UInt8), (rb : Int), (rc : Int), (rd : Int), (re : List UInt8), _⟩, _⟩ := y''
  obtain ⟨hc, rfl⟩ := Tr.get_on2 h
  show loopF (fun st => evC T0 orc (lpN T0 orc h54 0 q'') b54 0 st (roundK [0, 3, 5] [4] 0)) (stOf [0, 3, 5] [.list RR l, .ptr 0 0, .int .i64 i] [.box [.str ra, .int .u16 rb, .int .u16 rc, .int .u32 rd, .str re]]) = some ((bif !hasV l (ra, rb, rc, rd, re) then (.exit 0, [.dead], []) else (.ret, [.bool true], []) : Ex × List AV × List LObj).1, stOf [4] (bif !hasV l (ra, rb, rc, rd, re) then (.exit 0, [.dead], []) else (.ret, [.bool true], []) : Ex × List AV × List LObj).2.1 (bif !hasV l (ra, rb, rc, rd, re) then (.exit 0, [.dead], []) else (.ret, [.bool true], []) : Ex × List AV × List LObj).2.2)
  simp only [haC, Bool.and_eq_true, decide_eq_true_eq] at hc
  obtain ⟨hl, rfl⟩ := hc
  have hl := Nat.le_of_ble_eq_true hl
  refine wf54 _ l ra rb rc rd re (fun i => 0 ≤ i ∧ i ≤ l.length ∧ hasV (l.drop i.toNat) (ra, rb, rc, rd, re) = hasV l (ra, rb, rc, rd, re)) (fun i => (l.length - i).toNat) _ ?_ _ 0 ⟨by omega, by omega, rfl⟩
  rintro i ⟨h0, h1, he⟩
  unfold r54
  rw [wrap_succ h0 h1 (by omega)]
  by_cases hi : i < l.length
  · rw [drop_cons2 (l := l) (k := i.toNat) (by omega) (Ty.dflt RR)] at he
    unfold hasV at he ⊢
    rw [List.any_cons] at he
    generalize l.getD i.toNat (Ty.dflt RR) = x at *
    have hq := rrB_iff x (ra, rb, rc, rd, re)
    unfold rrB at hq
    rw [hq]
    refine Tr.all_t (dec_true hi) (Tr.all_t (dec_true h0) (Tr.all_t (dec_true hi) (Tr.all_br (fun h => ?_) fun h => ?_)))
    all_goals rw [h] at he
    · rw [← he]
      exact Tr.all_ret (.inl rfl)
    · exact Tr.all_ret (.inr ⟨_, rfl, ⟨by omega, by omega, by rw [show (i + 1).toNat = i.toNat + 1 by omega, ← he]; rfl⟩, by omega⟩)
  · refine Tr.all_f (dec_false hi) (Tr.all_ret (.inl ?_))
    rw [show i.toNat = l.length by omega, List.drop_length] at he
    rw [← he]
    rfl
def t54 (l : List (List UInt8 × (Int × (Int × (Int × List UInt8))))) (r : (List UInt8 × (Int × (Int × (Int × List UInt8))))) : Tr Res := Tr.br (haC l (0 : Int)) (Tr.br (!hasV l r) (Tr.ret ([AV.bool false], [])) (Tr.ret ([AV.bool true], []))) Tr.no
def os54 : OSpec := { f := 54, sh := [.d (.list RR) false, .d RR true], so := [], F := fun (l, r, _) _ => t54 l r }
set_option maxRecDepth 1000000 in
theorem fn54 (l : List (List UInt8 × (Int × (Int × (Int × List UInt8))))) (r : (List UInt8 × (Int × (Int × (Int × List UInt8))))) : evC T0 (orcB [] []) (lpOf h54 0 (lsOf [ls54])) c54 1000000 (startSt [.list RR l, AV.ofTy RR r true] [] Try.f54.ntmps) (finishK T0 false 0 Try.f54) = (t54 l r).get := by kernel_rfl
theorem ok54 : os54.Ok Try.prog := by
  refine os_ok mixed0 tab0 (orcB_sound all_nil all_nil) h54 (d := 0) (n0 := 0) (S := lsOf [ls54]) Try.func54 (by kernel_rfl) (c := c54) (by kernel_rfl) rfl (loops_eq (xs := [(0, b54)]) (by kernel_rfl) (all_cons (ls_here (loop54 _)) all_nil)) (by omega) (by kernel_rfl) ?_
  intro x'' y'' q'' hq''
  obtain ⟨(l : List (List UInt8 × (Int × (Int × (Int × List UInt8))))), (r : (List UInt8 × (Int × (Int × (Int × List UInt8))))), _⟩ := x''
  exact (fn54 l r).trans hq''
def fs54 : FSpec := fsT 54 [((.list RR), false), (RR, true)] [(.bool, false)] fun (l, r, _) => t54 l r
theorem okf54 : fs54.Ok Try.prog := fsT_ok fun x'' r'' hr'' => ok54 x'' () r'' hr''
def lrB (l : List RRt) : Bool := Nat.ble l.length 1000000
def fs54w : FSpec := fs54.like fun (l, r, _) => .on (lrB l) (hasV l r, ())
theorem okf54w : fs54w.Ok Try.prog := by
  refine flike_ok okf54 _ ?_
  rintro ⟨(l : List RRt), (r : RRt), _⟩ y h
  obtain ⟨hb, rfl⟩ := Tr.get_on h
  have hb : lrB l = true := hb
  refine convR_of (vs := [.bool (hasV l r)]) rfl rfl (Tr.get_of_all ?_)
  show (t54 l r).all _
  unfold t54
  refine Tr.all_t (by unfold haC; unfold lrB at hb; rw [hb]; rfl) ?_
  cases hasV l r
  · exact Tr.all_t rfl (Tr.all_ret rfl)
  · exact Tr.all_f rfl (Tr.all_ret rfl)
def ixL : List RRt → RRt → Nat → Int
  | [], _, _ => -1
  | x :: l, r, k => if r = x then (k : Int) else ixL l r (k + 1)
def ixV (l : List RRt) (r : RRt) : Int := ixL l r 0
theorem ixL_has : ∀ (l : List RRt) (r : RRt) (k : Nat), hasV l r = decide (0 ≤ ixL l r k)
  | [], r, k => rfl
  | x :: l, r, k => by
    unfold hasV ixL
    rw [List.any_cons]
    by_cases h : r = x
    · rw [if_pos h, decide_eq_true h.symm, Bool.true_or, decide_eq_true (by omega)]
    · rw [if_neg h, decide_eq_false (fun e => h e.symm), Bool.false_or]
      exact ixL_has l r (k + 1)
def ixC (l : List RRt) (m i : Int) : Bool := Nat.ble l.length 1000000 && (decide (m = (l.length : Int)) && decide (i = 0))
noncomputable def b78 : Code := nthLoop c78 0
def ls78 : LoopSpec := { bid := 0, sh := [.d (.list RR) false, .ptr 0 0, .d (.int .i64) false, .d (.int .i64) false], so := [.box [.d .str false, .d (.int .u16) false, .d (.int .u16) false, .d (.int .u32) false, .d .str false]], F := fun (l, m, i, _) ((ra, rb, rc, rd, re, _), _) => .on2 (ixC l m i) (decide (ixV l (ra, rb, rc, rd, re) < 0)) (.exit 0, [.dead], []) (.ret, [.int .i64 (ixV l (ra, rb, rc, rd, re))], []) }
def r78 (l : List (List UInt8 × (Int × (Int × (Int × List UInt8))))) (m : Int) (i : Int) (ra : List UInt8) (rb : Int) (rc : Int) (rd : Int) (re : List UInt8) : Tr (St ⊕ (Ex × St)) := Tr.br (decide (i < m)) (Tr.br (decide ((0 : Int) ≤ i)) (Tr.br (decide (i < (↑(List.length l) : Int))) (Tr.br (ra == Prod.fst (List.getD l (Int.toNat i) (Ty.dflt RR)) && (rb == Prod.fst (Prod.snd (List.getD l (Int.toNat i) (Ty.dflt RR))) && (rc == Prod.fst (Prod.snd (Prod.snd (List.getD l (Int.toNat i) (Ty.dflt RR)))) && (rd == Prod.fst (Prod.snd (Prod.snd (Prod.snd (List.getD l (Int.toNat i) (Ty.dflt RR))))) && (re == Prod.snd (Prod.snd (Prod.snd (Prod.snd (List.getD l (Int.toNat i) (Ty.dflt RR))))) && true))))) (Tr.ret (Sum.inr (Ex.ret, stOf [4] [AV.int IntKind.i64 i] []))) (Tr.ret (Sum.inl (stOf [0, 3, 7, 8] [AV.list RR l, AV.ptr 0 0, AV.int IntKind.i64 m, AV.int IntKind.i64 (IntKind.wrap IntKind.i64 (i + (1 : Int)))] [LObj.boxT none [AV.str ra, AV.int IntKind.u16 rb, AV.int IntKind.u16 rc, AV.int IntKind.u32 rd, AV.str re]])))) Tr.no) Tr.no) (Tr.ret (Sum.inr (Ex.exit 0, stOf [4] [AV.dead] [])))
set_option maxRecDepth 1000000 in
theorem round78 (orc : Orc) (lp : Lp) (l : List (List UInt8 × (Int × (Int × (Int × List UInt8))))) (m : Int) (i : Int) (ra : List UInt8) (rb : Int) (rc : Int) (rd : Int) (re : List UInt8) : evC T0 orc lp b78 0 (stOf [0, 3, 7, 8] [.list RR l, .ptr 0 0, .int .i64 m, .int .i64 i] [.box [.str ra, .int .u16 rb, .int .u16 rc, .int .u32 rd, .str re]]) (roundK [0, 3, 7, 8] [4] 0) = (r78 l m i ra rb rc rd re).get := by kernel_rfl
theorem wf78 (orc : Orc) (l : List (List UInt8 × (Int × (Int × (Int × List UInt8))))) (m : Int) (ra : List UInt8) (rb : Int) (rc : Int) (rd : Int) (re : List UInt8) (I'' : Int → Prop) (m'' : Int → Nat) (r'' : Ex × St) (h : ∀ (i : Int), I'' i → (r78 l m i ra rb rc rd re).all fun x'' => x'' = .inr r'' ∨ ∃ (i' : Int), x'' = .inl (stOf [0, 3, 7, 8] [.list RR l, .ptr 0 0, .int .i64 m, .int .i64 i'] [.box [.str ra, .int .u16 rb, .int .u16 rc, .int .u32 rd, .str re]]) ∧ I'' i' ∧ m'' i' < m'' i) (lp : Lp) (i : Int) : I'' i →
    loopF (fun st => evC T0 orc lp b78 0 st (roundK [0, 3, 7, 8] [4] 0)) (stOf [0, 3, 7, 8] [.list RR l, .ptr 0 0, .int .i64 m, .int .i64 i] [.box [.str ra, .int .u16 rb, .int .u16 rc, .int .u32 rd, .str re]]) = some r'' :=
  loop_tr (fun a'' : Int => stOf [0, 3, 7, 8] [.list RR l, .ptr 0 0, .int .i64 m, .int .i64 a''] [.box [.str ra, .int .u16 rb, .int .u16 rc, .int .u32 rd, .str re]]) (fun a'' => I'' a'') (fun a'' => m'' a'') r'' (fun a'' => r78 l m a'' ra rb rc rd re)
    (fun a'' x hx => (round78 orc lp l m a'' ra rb rc rd re).trans hx) (fun a'' ha => Tr.all_mono (fun x'' hx => hx.imp id fun ⟨i', h1, h2, h3⟩ => ⟨(i'), h1, h2, h3⟩) (h (a'') ha)) (i)
theorem loop78 (orc : Orc) : ls78.Ok T0 orc h78 0 0 b78 := by
  intro q'' hq'' x'' y'' r'' h
  obtain ⟨(l : List (List UInt8 × (Int × (Int × (Int × List UInt8))))), (m : Int), (i : Int), _⟩ := x''
  obtain ⟨⟨(ra : List UInt8), (rb : Int), (rc : Int), (rd : Int), (re : List UInt8), _⟩, _⟩ := y''
  obtain ⟨hc, rfl⟩ := Tr.get_on2 h
  show loopF (fun st => evC T0 orc (lpN T0 orc h78 0 q'') b78 0 st (roundK [0, 3, 7, 8] [4] 0)) (stOf [0, 3, 7, 8] [.list RR l, .ptr 0 0, .int .i64 m, .int .i64 i] [.box [.str ra, .int .u16 rb, .int .u16 rc, .int .u32 rd, .str re]]) = some ((bif decide (ixV l (ra, rb, rc, rd, re) < 0) then (.exit 0, [.dead], []) else (.ret, [.int .i64 (ixV l (ra, rb, rc, rd, re))], []) : Ex × List AV × List LObj).1, stOf [4] (bif decide (ixV l (ra, rb, rc, rd, re) < 0) then (.exit 0, [.dead], []) else (.ret, [.int .i64 (ixV l (ra, rb, rc, rd, re))], []) : Ex × List AV × List LObj).2.1 (bif decide (ixV l (ra, rb, rc, rd, re) < 0) then (.exit 0, [.dead], []) else (.ret, [.int .i64 (ixV l (ra, rb, rc, rd, re))], []) : Ex × List AV × List LObj).2.2)
  simp only [ixC, Bool.and_eq_true, decide_eq_true_eq] at hc
  obtain ⟨hl, rfl, rfl⟩ := hc
  have hl := Nat.le_of_ble_eq_true hl
  refine wf78 _ l l.length ra rb rc rd re (fun i => 0 ≤ i ∧ i ≤ l.length ∧ ixL (l.drop i.toNat) (ra, rb, rc, rd, re) i.toNat = ixV l (ra, rb, rc, rd, re)) (fun i => (l.length - i).toNat) _ ?_ _ 0 ⟨by omega, by omega, rfl⟩
  rintro i ⟨h0, h1, he⟩
  unfold r78
  rw [wrap_succ h0 h1 (by omega)]
  by_cases hi : i < l.length
  · rw [drop_cons2 (l := l) (k := i.toNat) (by omega) (Ty.dflt RR), ixL] at he
    generalize l.getD i.toNat (Ty.dflt RR) = x at *
    have hq := rrB_iff (ra, rb, rc, rd, re) x
    unfold rrB at hq
    rw [hq]
    refine Tr.all_t (dec_true hi) (Tr.all_t (dec_true h0) (Tr.all_t (dec_true hi) (Tr.all_br (fun h => ?_) fun h => ?_)))
    · rw [if_pos (of_decide_eq_true h)] at he
      rw [← he, show ((i.toNat : Nat) : Int) = i by omega, dec_false (show ¬ i < 0 by omega)]
      exact Tr.all_ret (.inl rfl)
    · rw [if_neg (of_decide_eq_false h)] at he
      exact Tr.all_ret (.inr ⟨_, rfl, ⟨by omega, by omega, by rw [show (i + 1).toNat = i.toNat + 1 by omega]; exact he⟩, by omega⟩)
  · refine Tr.all_f (dec_false hi) (Tr.all_ret (.inl ?_))
    rw [show i.toNat = l.length by omega, List.drop_length] at he
    rw [← he]
    rfl
def t78 (l : List (List UInt8 × (Int × (Int × (Int × List UInt8))))) (r : (List UInt8 × (Int × (Int × (Int × List UInt8))))) : Tr Res := Tr.br (ixC l (↑(List.length l) : Int) (0 : Int)) (Tr.br (decide (ixV l r < (0 : Int))) (Tr.ret ([AV.int IntKind.i64 (-1 : Int)], [])) (Tr.ret ([AV.int IntKind.i64 (ixV l r)], []))) Tr.no
def os78 : OSpec := { f := 78, sh := [.d (.list RR) false, .d RR true], so := [], F := fun (l, r, _) _ => t78 l r }
set_option maxRecDepth 1000000 in
theorem fn78 (l : List (List UInt8 × (Int × (Int × (Int × List UInt8))))) (r : (List UInt8 × (Int × (Int × (Int × List UInt8))))) : evC T0 (orcB [] []) (lpOf h78 0 (lsOf [ls78])) c78 1000000 (startSt [.list RR l, AV.ofTy RR r true] [] Try.f78.ntmps) (finishK T0 false 0 Try.f78) = (t78 l r).get := by kernel_rfl
theorem ok78 : os78.Ok Try.prog := by
  refine os_ok mixed0 tab0 (orcB_sound all_nil all_nil) h78 (d := 0) (n0 := 0) (S := lsOf [ls78]) Try.func78 (by kernel_rfl) (c := c78) (by kernel_rfl) rfl (loops_eq (xs := [(0, b78)]) (by kernel_rfl) (all_cons (ls_here (loop78 _)) all_nil)) (by omega) (by kernel_rfl) ?_
  intro x'' y'' q'' hq''
  obtain ⟨(l : List (List UInt8 × (Int × (Int × (Int × List UInt8))))), (r : (List UInt8 × (Int × (Int × (Int × List UInt8))))), _⟩ := x''
  exact (fn78 l r).trans hq''
def fs78 : FSpec := fsT 78 [((.list RR), false), (RR, true)] [((.int .i64), false)] fun (l, r, _) => t78 l r
theorem okf78 : fs78.Ok Try.prog := fsT_ok fun x'' r'' hr'' => ok78 x'' () r'' hr''
def fs78w : FSpec := fs78.like fun (l, r, _) => .on (lrB l) (ixV l r, ())
theorem okf78w : fs78w.Ok Try.prog := by
  refine flike_ok okf78 _ ?_
  rintro ⟨(l : List RRt), (r : RRt), _⟩ y h
  obtain ⟨hb, rfl⟩ := Tr.get_on h
  have hb : lrB l = true := hb
  refine convR_of (vs := [.int .i64 (ixV l r)]) rfl rfl (Tr.get_of_all ?_)
  show (t78 l r).all _
  unfold t78
  refine Tr.all_t (by unfold ixC; unfold lrB at hb; rw [hb, decide_eq_true rfl]; rfl) ?_
  refine Tr.all_br (fun h => Tr.all_ret ?_) fun h => Tr.all_ret rfl
  have h := of_decide_eq_true h
  have : ∀ (l : List RRt) (r : RRt) (k : Nat), -1 ≤ ixL l r k := by
    intro l
    induction l with
    | nil => intro r k; exact Int.le_refl _
    | cons x l ih =>
      intro r k
      unfold ixL
      split
      · omega
      · exact ih r (k + 1)
  have := this l r 0
  unfold ixV at h ⊢
  rw [show ixL l r 0 = -1 by omega]
def t52 (l : List (List UInt8 × (Int × (Int × (Int × List UInt8))))) (r : (List UInt8 × (Int × (Int × (Int × List UInt8))))) : Tr Res := Tr.br (lrB l) (Tr.ret ([AV.bool (decide (ixV l r ≥ (0 : Int)))], [])) Tr.no
def os52 : OSpec := { f := 52, sh := [.d (.list RR) false, .d RR true], so := [], F := fun (l, r, _) _ => t52 l r }
set_option maxRecDepth 1000000 in
theorem fn52 (l : List (List UInt8 × (Int × (Int × (Int × List UInt8))))) (r : (List UInt8 × (Int × (Int × (Int × List UInt8))))) : evC T0 (orcB [fs78w] []) (lpOf h52 0 (lsOf [])) c52 1000000 (startSt [.list RR l, AV.ofTy RR r true] [] Try.f52.ntmps) (finishK T0 false 0 Try.f52) = (t52 l r).get := by kernel_rfl
theorem ok52 : os52.Ok Try.prog := by
  refine os_ok mixed0 tab0 (orcB_sound (all_cons okf78w all_nil) all_nil) h52 (d := 0) (n0 := 0) (S := lsOf []) Try.func52 (by kernel_rfl) (c := c52) (by kernel_rfl) rfl (no_loops (by kernel_rfl)) (by omega) (by kernel_rfl) ?_
  intro x'' y'' q'' hq''
  obtain ⟨(l : List (List UInt8 × (Int × (Int × (Int × List UInt8))))), (r : (List UInt8 × (Int × (Int × (Int × List UInt8))))), _⟩ := x''
  exact (fn52 l r).trans hq''
def fs52 : FSpec := fsT 52 [((.list RR), false), (RR, true)] [(.bool, false)] fun (l, r, _) => t52 l r
theorem okf52 : fs52.Ok Try.prog := fsT_ok fun x'' r'' hr'' => ok52 x'' () r'' hr''
def fs52w : FSpec := fs52.like fun (l, r, _) => .on (lrB l) (hasV l r, ())
theorem okf52w : fs52w.Ok Try.prog := by
  refine flike_ok okf52 _ ?_
  rintro ⟨(l : List RRt), (r : RRt), _⟩ y h
  obtain ⟨hb, rfl⟩ := Tr.get_on h
  have hb : lrB l = true := hb
  refine convR_of (vs := [.bool (hasV l r)]) rfl rfl (Tr.get_of_all ?_)
  show (t52 l r).all _
  unfold t52
  refine Tr.all_t hb (Tr.all_ret ?_)
  rw [ixL_has l r 0]
  rfl
end Go.Proofs.YtkobjdhbfepkaaaE
namespace Go.Proofs.YtkobjdhbfepkaaaE
open Go Go.Proofs.YtkobjdhbfepkaaaB
set_option linter.unusedVariables false
set_option linter.unusedSimpArgs false
set_option maxRecDepth 100000
def addV (l : List RRt) : List RRt → List RRt
  | [] => l
  | a :: xs => addV (if hasV l a = true then l else l ++ [a]) xs
def glC (l os : List RRt) (m2 k : Int) : Bool := Nat.ble (l.length + os.length) 1000000 && (decide (m2 = (os.length : Int)) && decide (k = 0))
noncomputable def b22i : Code := nthLoop (nthLoop c22 0) 0
def ls22i : LoopSpec := { bid := 2, sh := [.ptr 0 0, .row 1, .d (.list RR) false, .d (.int .i64) false, .d (.int .i64) false, .d (.list RR) false, .d (.int .i64) false, .d (.int .i64) false], so := [.box [.d .str false, .d (.list RR) false], .row RR], F := fun (ns, m, i, os, m2, k, _) ((ap, zr, _), l, _) => .on (glC l os m2 k) (.exit 2, [.ptr 0 0, .rowA 1, .list RR ns, .int .i64 m, .int .i64 i], [.box [.str ap, .list RR zr], .row RR (addV l os)]) }
def r22i (ns : List (List UInt8 × (Int × (Int × (Int × List UInt8))))) (m : Int) (i : Int) (os : List (List UInt8 × (Int × (Int × (Int × List UInt8))))) (m2 : Int) (k : Int) (ap : List UInt8) (zr : List (List UInt8 × (Int × (Int × (Int × List UInt8))))) (l : List (List UInt8 × (Int × (Int × (Int × List UInt8))))) : Tr (St ⊕ (Ex × St)) := Tr.br (decide (k < m2)) (Tr.br (decide ((0 : Int) ≤ k)) (Tr.br (decide (k < (↑(List.length os) : Int))) (Tr.br (lrB l) (Tr.br (!hasV l (List.getD os (Int.toNat k) (Ty.dflt RR))) (Tr.br (fits (List.length l + 1) 40) (Tr.ret (Sum.inl (stOf [2, 5, 12, 13, 14, 30, 31, 32] [AV.ptr 0 0, AV.rowA 1, AV.list RR ns, AV.int IntKind.i64 m, AV.int IntKind.i64 i, AV.list RR os, AV.int IntKind.i64 m2, AV.int IntKind.i64 (IntKind.wrap IntKind.i64 (k + (1 : Int)))] [LObj.boxT none [AV.str ap, AV.list RR zr], LObj.row RR (l ++ [List.getD os (Int.toNat k) (Ty.dflt RR)])]))) Tr.no) (Tr.ret (Sum.inl (stOf [2, 5, 12, 13, 14, 30, 31, 32] [AV.ptr 0 0, AV.rowA 1, AV.list RR ns, AV.int IntKind.i64 m, AV.int IntKind.i64 i, AV.list RR os, AV.int IntKind.i64 m2, AV.int IntKind.i64 (IntKind.wrap IntKind.i64 (k + (1 : Int)))] [LObj.boxT none [AV.str ap, AV.list RR zr], LObj.row RR l])))) Tr.no) Tr.no) Tr.no) (Tr.ret (Sum.inr (Ex.exit 2, stOf [2, 5, 12, 13, 14] [AV.ptr 0 0, AV.rowA 1, AV.list RR ns, AV.int IntKind.i64 m, AV.int IntKind.i64 i] [LObj.boxT none [AV.str ap, AV.list RR zr], LObj.row RR l])))
set_option maxRecDepth 1000000 in
theorem round22i (lp : Lp) (ns : List (List UInt8 × (Int × (Int × (Int × List UInt8))))) (m : Int) (i : Int) (os : List (List UInt8 × (Int × (Int × (Int × List UInt8))))) (m2 : Int) (k : Int) (ap : List UInt8) (zr : List (List UInt8 × (Int × (Int × (Int × List UInt8))))) (l : List (List UInt8 × (Int × (Int × (Int × List UInt8))))) : evC T0 (orcB [fs51w, fs43w, fs52w] []) lp b22i 2 (stOf [2, 5, 12, 13, 14, 30, 31, 32] [.ptr 0 0, .rowA 1, .list RR ns, .int .i64 m, .int .i64 i, .list RR os, .int .i64 m2, .int .i64 k] [.box [.str ap, .list RR zr], .row RR l]) (roundK [2, 5, 12, 13, 14, 30, 31, 32] [2, 5, 12, 13, 14] 0) = (r22i ns m i os m2 k ap zr l).get := by kernel_rfl
theorem wf22i (ns : List (List UInt8 × (Int × (Int × (Int × List UInt8))))) (m : Int) (i : Int) (os : List (List UInt8 × (Int × (Int × (Int × List UInt8))))) (m2 : Int) (ap : List UInt8) (zr : List (List UInt8 × (Int × (Int × (Int × List UInt8))))) (I'' : List (List UInt8 × (Int × (Int × (Int × List UInt8)))) → Int → Prop) (m'' : List (List UInt8 × (Int × (Int × (Int × List UInt8)))) → Int → Nat) (r'' : Ex × St) (h : ∀ (l : List (List UInt8 × (Int × (Int × (Int × List UInt8))))) (k : Int), I'' l k → (r22i ns m i os m2 k ap zr l).all fun x'' => x'' = .inr r'' ∨ ∃ (l' : List (List UInt8 × (Int × (Int × (Int × List UInt8))))) (k' : Int), x'' = .inl (stOf [2, 5, 12, 13, 14, 30, 31, 32] [.ptr 0 0, .rowA 1, .list RR ns, .int .i64 m, .int .i64 i, .list RR os, .int .i64 m2, .int .i64 k'] [.box [.str ap, .list RR zr], .row RR l']) ∧ I'' l' k' ∧ m'' l' k' < m'' l k) (lp : Lp) (l : List (List UInt8 × (Int × (Int × (Int × List UInt8))))) (k : Int) : I'' l k →
    loopF (fun st => evC T0 (orcB [fs51w, fs43w, fs52w] []) lp b22i 2 st (roundK [2, 5, 12, 13, 14, 30, 31, 32] [2, 5, 12, 13, 14] 0)) (stOf [2, 5, 12, 13, 14, 30, 31, 32] [.ptr 0 0, .rowA 1, .list RR ns, .int .i64 m, .int .i64 i, .list RR os, .int .i64 m2, .int .i64 k] [.box [.str ap, .list RR zr], .row RR l]) = some r'' :=
  loop_tr (fun a'' : List (List UInt8 × (Int × (Int × (Int × List UInt8)))) × Int => stOf [2, 5, 12, 13, 14, 30, 31, 32] [.ptr 0 0, .rowA 1, .list RR ns, .int .i64 m, .int .i64 i, .list RR os, .int .i64 m2, .int .i64 a''.2] [.box [.str ap, .list RR zr], .row RR a''.1]) (fun a'' => I'' a''.1 a''.2) (fun a'' => m'' a''.1 a''.2) r'' (fun a'' => r22i ns m i os m2 a''.2 ap zr a''.1)
    (fun a'' x hx => (round22i lp ns m i os m2 a''.2 ap zr a''.1).trans hx) (fun a'' ha => Tr.all_mono (fun x'' hx => hx.imp id fun ⟨l', k', h1, h2, h3⟩ => ⟨(l', k'), h1, h2, h3⟩) (h (a''.1) (a''.2) ha)) (l, k)
theorem addV_len : ∀ (xs l : List RRt), (addV l xs).length ≤ l.length + xs.length
  | [], l => Nat.le_refl _
  | a :: xs, l => by
    rw [addV, List.length_cons]
    by_cases h : hasV l a = true
    · rw [if_pos h]
      have := addV_len xs l
      omega
    · rw [if_neg h]
      have := addV_len xs (l ++ [a])
      rw [List.length_append, List.length_singleton] at this
      omega
theorem loop22i : ls22i.Ok T0 (orcB [fs51w, fs43w, fs52w] []) h22 0 0 b22i := by
  intro q'' hq'' x'' y'' r'' h
  obtain ⟨(ns : List (List UInt8 × (Int × (Int × (Int × List UInt8))))), (m : Int), (i : Int), (os : List (List UInt8 × (Int × (Int × (Int × List UInt8))))), (m2 : Int), (k : Int), _⟩ := x''
  obtain ⟨⟨(ap : List UInt8), (zr : List (List UInt8 × (Int × (Int × (Int × List UInt8))))), _⟩, (l : List (List UInt8 × (Int × (Int × (Int × List UInt8))))), _⟩ := y''
  obtain ⟨hc, rfl⟩ := Tr.get_on h
  show loopF (fun st => evC T0 (orcB [fs51w, fs43w, fs52w] []) (lpN T0 (orcB [fs51w, fs43w, fs52w] []) h22 0 q'') b22i 2 st (roundK [2, 5, 12, 13, 14, 30, 31, 32] [2, 5, 12, 13, 14] 0)) (stOf [2, 5, 12, 13, 14, 30, 31, 32] [.ptr 0 0, .rowA 1, .list RR ns, .int .i64 m, .int .i64 i, .list RR os, .int .i64 m2, .int .i64 k] [.box [.str ap, .list RR zr], .row RR l]) = some (.exit 2, stOf [2, 5, 12, 13, 14] ([.ptr 0 0, .rowA 1, .list RR ns, .int .i64 m, .int .i64 i]) ([.box [.str ap, .list RR zr], .row RR (addV l os)]))
  simp only [glC, Bool.and_eq_true, decide_eq_true_eq] at hc
  obtain ⟨hl, rfl, rfl⟩ := hc
  have hl := Nat.le_of_ble_eq_true hl
  refine wf22i ns m i os os.length ap zr (fun l' k => 0 ≤ k ∧ k ≤ os.length ∧ l'.length ≤ l.length + k.toNat ∧ addV l' (os.drop k.toNat) = addV l os) (fun l' k => (os.length - k).toNat) _ ?_ _ l 0 ⟨by omega, by omega, by omega, rfl⟩
  rintro l' k ⟨h0, h1, h2, he⟩
  unfold r22i
  rw [wrap_succ h0 h1 (by omega)]
  by_cases hi : k < os.length
  · rw [drop_cons2 (l := os) (k := k.toNat) (by omega) (Ty.dflt RR), addV] at he
    generalize os.getD k.toNat (Ty.dflt RR) = x at *
    refine Tr.all_t (dec_true hi) (Tr.all_t (dec_true h0) (Tr.all_t (dec_true hi) (Tr.all_t (Nat.ble_eq_true_of_le (by omega)) (Tr.all_br (fun h => Tr.all_t (fits_true (by omega) (by omega)) ?_) fun h => ?_))))
    · have h : hasV l' x = false := by cases hh : hasV l' x; rfl; (rw [hh] at h; cases h)
      rw [if_neg (by rw [h]; simp)] at he
      exact Tr.all_ret (.inr ⟨_, _, rfl, ⟨by omega, by omega, by rw [List.length_append, List.length_singleton]; omega, by rw [show (k + 1).toNat = k.toNat + 1 by omega]; exact he⟩, by omega⟩)
    · have h : hasV l' x = true := by cases hh : hasV l' x; (rw [hh] at h; cases h); rfl
      rw [if_pos h] at he
      exact Tr.all_ret (.inr ⟨_, _, rfl, ⟨by omega, by omega, by omega, by rw [show (k + 1).toNat = k.toNat + 1 by omega]; exact he⟩, by omega⟩)
  · refine Tr.all_f (dec_false hi) (Tr.all_ret (.inl ?_))
    rw [show k.toNat = os.length by omega, List.drop_length] at he
    rw [← he]
    rfl
def glue1 (z : ZNt) (l : List RRt) (r : RRt) : List RRt := match targV r.2.1 r.2.2.2.2 with | some n => addV l (ofV z n 1) | none => l
def glueL (z : ZNt) (l : List RRt) : List RRt → List RRt
  | [] => l
  | r :: rs => glueL z (glue1 z l r) rs
def glueV (z : ZNt) (ns : List RRt) : List RRt := glueL z [] ns
def smD (ns : List RRt) : Bool := ns.all fun r => bigS r.2.2.2.2
def gnOk (z : ZNt) (ns : List RRt) : Bool := smZ z && (smD ns && (Nat.ble (ns.length * z.2.length) 1000000 && Nat.ble ns.length 1000000))
def gnC (ap : List UInt8) (zr ns l : List RRt) (m i : Int) : Bool := gnOk (ap, zr) ns && (l.isEmpty && (decide (m = (ns.length : Int)) && decide (i = 0)))
noncomputable def b22o : Code := nthLoop c22 0
def ls22o : LoopSpec := { bid := 0, sh := [.ptr 0 0, .row 1, .d (.list RR) false, .d (.int .i64) false, .d (.int .i64) false], so := [.box [.d .str false, .d (.list RR) false], .row RR], F := fun (ns, m, i, _) ((ap, zr, _), l, _) => .on (gnC ap zr ns l m i) (.exit 0, [.rowA 0], [.row RR (glueV (ap, zr) ns)]) }
def r22o (ns : List (List UInt8 × (Int × (Int × (Int × List UInt8))))) (m : Int) (i : Int) (ap : List UInt8) (zr : List (List UInt8 × (Int × (Int × (Int × List UInt8))))) (l : List (List UInt8 × (Int × (Int × (Int × List UInt8))))) : Tr (St ⊕ (Ex × St)) := Tr.br (decide (i < m)) (Tr.br (decide ((0 : Int) ≤ i)) (Tr.br (decide (i < (↑(List.length ns) : Int))) (Tr.br (bigS (Prod.snd (Prod.snd (Prod.snd (Prod.snd (List.getD ns (Int.toNat i) (Ty.dflt RR))))))) (Tr.br (!Option.isSome (targV (Prod.fst (Prod.snd (List.getD ns (Int.toNat i) (Ty.dflt RR)))) (Prod.snd (Prod.snd (Prod.snd (Prod.snd (List.getD ns (Int.toNat i) (Ty.dflt RR)))))))) (Tr.ret (Sum.inl (stOf [2, 5, 12, 13, 14] [AV.ptr 0 0, AV.rowA 1, AV.list RR ns, AV.int IntKind.i64 m, AV.int IntKind.i64 (IntKind.wrap IntKind.i64 (i + (1 : Int)))] [LObj.boxT none [AV.str ap, AV.list RR zr], LObj.row RR l]))) (Tr.br (smZ (ap, zr)) (Tr.br (glC l (ofV (ap, zr) (Option.getD (targV (Prod.fst (Prod.snd (List.getD ns (Int.toNat i) (Ty.dflt RR)))) (Prod.snd (Prod.snd (Prod.snd (Prod.snd (List.getD ns (Int.toNat i) (Ty.dflt RR))))))) []) (1 : Int)) (↑(List.length (ofV (ap, zr) (Option.getD (targV (Prod.fst (Prod.snd (List.getD ns (Int.toNat i) (Ty.dflt RR)))) (Prod.snd (Prod.snd (Prod.snd (Prod.snd (List.getD ns (Int.toNat i) (Ty.dflt RR))))))) []) (1 : Int))) : Int) (0 : Int)) (Tr.ret (Sum.inl (stOf [2, 5, 12, 13, 14] [AV.ptr 0 0, AV.rowA 1, AV.list RR ns, AV.int IntKind.i64 m, AV.int IntKind.i64 (IntKind.wrap IntKind.i64 (i + (1 : Int)))] [LObj.boxT none [AV.str ap, AV.list RR zr], LObj.row RR (addV l (ofV (ap, zr) (Option.getD (targV (Prod.fst (Prod.snd (List.getD ns (Int.toNat i) (Ty.dflt RR)))) (Prod.snd (Prod.snd (Prod.snd (Prod.snd (List.getD ns (Int.toNat i) (Ty.dflt RR))))))) []) (1 : Int)))]))) Tr.no) Tr.no)) Tr.no) Tr.no) Tr.no) (Tr.ret (Sum.inr (Ex.exit 0, stOf [5] [AV.rowA 0] [LObj.row RR l])))
set_option maxRecDepth 1000000 in
theorem round22o (ns : List (List UInt8 × (Int × (Int × (Int × List UInt8))))) (m : Int) (i : Int) (ap : List UInt8) (zr : List (List UInt8 × (Int × (Int × (Int × List UInt8))))) (l : List (List UInt8 × (Int × (Int × (Int × List UInt8))))) : evC T0 (orcB [fs51w, fs43w, fs52w] []) (lpOf h22 0 (lsOf [ls22i])) b22o 0 (stOf [2, 5, 12, 13, 14] [.ptr 0 0, .rowA 1, .list RR ns, .int .i64 m, .int .i64 i] [.box [.str ap, .list RR zr], .row RR l]) (roundK [2, 5, 12, 13, 14] [5] 0) = (r22o ns m i ap zr l).get := by kernel_rfl
theorem wf22o (ns : List (List UInt8 × (Int × (Int × (Int × List UInt8))))) (m : Int) (ap : List UInt8) (zr : List (List UInt8 × (Int × (Int × (Int × List UInt8))))) (I'' : List (List UInt8 × (Int × (Int × (Int × List UInt8)))) → Int → Prop) (m'' : List (List UInt8 × (Int × (Int × (Int × List UInt8)))) → Int → Nat) (r'' : Ex × St) (h : ∀ (l : List (List UInt8 × (Int × (Int × (Int × List UInt8))))) (i : Int), I'' l i → (r22o ns m i ap zr l).all fun x'' => x'' = .inr r'' ∨ ∃ (l' : List (List UInt8 × (Int × (Int × (Int × List UInt8))))) (i' : Int), x'' = .inl (stOf [2, 5, 12, 13, 14] [.ptr 0 0, .rowA 1, .list RR ns, .int .i64 m, .int .i64 i'] [.box [.str ap, .list RR zr], .row RR l']) ∧ I'' l' i' ∧ m'' l' i' < m'' l i) (q'' : Nat) (hq'' : 1 ≤ q'') (l : List (List UInt8 × (Int × (Int × (Int × List UInt8))))) (i : Int) : I'' l i →
    loopF (fun st => evC T0 (orcB [fs51w, fs43w, fs52w] []) (lpN T0 (orcB [fs51w, fs43w, fs52w] []) h22 0 q'') b22o 0 st (roundK [2, 5, 12, 13, 14] [5] 0)) (stOf [2, 5, 12, 13, 14] [.ptr 0 0, .rowA 1, .list RR ns, .int .i64 m, .int .i64 i] [.box [.str ap, .list RR zr], .row RR l]) = some r'' :=
  loop_tr (fun a'' : List (List UInt8 × (Int × (Int × (Int × List UInt8)))) × Int => stOf [2, 5, 12, 13, 14] [.ptr 0 0, .rowA 1, .list RR ns, .int .i64 m, .int .i64 a''.2] [.box [.str ap, .list RR zr], .row RR a''.1]) (fun a'' => I'' a''.1 a''.2) (fun a'' => m'' a''.1 a''.2) r'' (fun a'' => r22o ns m a''.2 ap zr a''.1)
    (fun a'' x hx => round_of (d := 0) (S := lsOf [ls22i]) (loops_at (xs := [(2, b22i)]) (by kernel_rfl) (all_cons (ls_here loop22i) all_nil)) (by omega) ((round22o ns m a''.2 ap zr a''.1).trans hx)) (fun a'' ha => Tr.all_mono (fun x'' hx => hx.imp id fun ⟨l', i', h1, h2, h3⟩ => ⟨(l', i'), h1, h2, h3⟩) (h (a''.1) (a''.2) ha)) (l, i)
theorem ofV_len (z : ZNt) (n : List UInt8) (kind : Int) : (ofV z n kind).length ≤ z.2.length := ownV_len
theorem glue1_len (z : ZNt) (l : List RRt) (r : RRt) : (glue1 z l r).length ≤ l.length + z.2.length := by
  unfold glue1
  split
  · rename_i n _
    have h1 := addV_len (ofV z n 1) l
    have h2 := ofV_len z n 1
    omega
  · omega
theorem smD_get {ns : List RRt} (h : smD ns = true) {k : Nat} (hk : k < ns.length) (x : RRt) : bigS (ns.getD k x).2.2.2.2 = true := by
  unfold smD at h
  rw [List.all_eq_true] at h
  refine h _ ?_
  rw [List.getD_eq_getElem?_getD, List.getElem?_eq_getElem hk]
  exact List.getElem_mem hk
theorem mul_step {i n z t : Nat} (hi : i < n) (h : n * z ≤ t) : i * z + z ≤ t := by
  have := Nat.mul_le_mul_right z (show i + 1 ≤ n by omega)
  rw [Nat.add_mul, Nat.one_mul] at this
  omega
theorem loop22o : ls22o.Ok T0 (orcB [fs51w, fs43w, fs52w] []) h22 0 1 b22o := by
  intro q'' hq'' x'' y'' r'' h
  obtain ⟨(ns : List (List UInt8 × (Int × (Int × (Int × List UInt8))))), (m : Int), (i : Int), _⟩ := x''
  obtain ⟨⟨(ap : List UInt8), (zr : List (List UInt8 × (Int × (Int × (Int × List UInt8))))), _⟩, (l : List (List UInt8 × (Int × (Int × (Int × List UInt8))))), _⟩ := y''
  obtain ⟨hc, rfl⟩ := Tr.get_on h
  show loopF (fun st => evC T0 (orcB [fs51w, fs43w, fs52w] []) (lpN T0 (orcB [fs51w, fs43w, fs52w] []) h22 0 q'') b22o 0 st (roundK [2, 5, 12, 13, 14] [5] 0)) (stOf [2, 5, 12, 13, 14] [.ptr 0 0, .rowA 1, .list RR ns, .int .i64 m, .int .i64 i] [.box [.str ap, .list RR zr], .row RR l]) = some (.exit 0, stOf [5] ([.rowA 0]) ([.row RR (glueV (ap, zr) ns)]))
  simp only [gnC, gnOk, Bool.and_eq_true, decide_eq_true_eq, List.isEmpty_iff] at hc
  obtain ⟨⟨hz, hd, hb, hb2⟩, rfl, rfl, rfl⟩ := hc
  have hb := Nat.le_of_ble_eq_true hb
  have hb2 := Nat.le_of_ble_eq_true hb2
  refine wf22o ns ns.length ap zr (fun l i => 0 ≤ i ∧ i ≤ ns.length ∧ l.length ≤ i.toNat * zr.length ∧ glueL (ap, zr) l (ns.drop i.toNat) = glueV (ap, zr) ns) (fun l i => (ns.length - i).toNat) _ ?_ _ hq'' [] 0 ⟨by omega, by omega, by simp, rfl⟩
  rintro l i ⟨h0, h1, h2, he⟩
  unfold r22o
  rw [wrap_succ h0 h1 (by omega)]
  by_cases hi : i < ns.length
  · have hsm := smD_get hd (k := i.toNat) (by omega) (Ty.dflt RR)
    rw [drop_cons2 (l := ns) (k := i.toNat) (by omega) (Ty.dflt RR), glueL] at he
    generalize ns.getD i.toNat (Ty.dflt RR) = x at *
    have hms := mul_step (i := i.toNat) (n := ns.length) (z := zr.length) (by omega) hb
    have hl1 : (glue1 (ap, zr) l x).length ≤ l.length + zr.length := glue1_len (ap, zr) l x
    have hl2 : (glue1 (ap, zr) l x).length ≤ (i + 1).toNat * zr.length := by rw [show (i + 1).toNat = i.toNat + 1 by omega, Nat.add_mul, Nat.one_mul]; omega
    have hgl : ∀ n, glC l (ofV (ap, zr) n 1) ((ofV (ap, zr) n 1).length : Int) 0 = true := fun n => by
      have : (ofV (ap, zr) n 1).length ≤ zr.length := ofV_len (ap, zr) n 1
      unfold glC
      rw [Nat.ble_eq_true_of_le (by omega), decide_eq_true rfl]
      rfl
    refine Tr.all_t (dec_true hi) (Tr.all_t (dec_true h0) (Tr.all_t (dec_true hi) (Tr.all_t hsm ?_)))
    unfold glue1 at he hl2
    cases ht : targV x.2.1 x.2.2.2.2 with
    | none =>
      rw [ht] at he hl2
      exact Tr.all_t rfl (Tr.all_ret (.inr ⟨_, _, rfl, ⟨by omega, by omega, hl2, by rw [show (i + 1).toNat = i.toNat + 1 by omega]; exact he⟩, by omega⟩))
    | some n =>
      rw [ht] at he hl2
      exact Tr.all_f rfl (Tr.all_t hz (Tr.all_t (hgl n) (Tr.all_ret (.inr ⟨_, _, rfl, ⟨by omega, by omega, hl2, by rw [show (i + 1).toNat = i.toNat + 1 by omega]; exact he⟩, by omega⟩))))
  · refine Tr.all_f (dec_false hi) (Tr.all_ret (.inl ?_))
    rw [show i.toNat = ns.length by omega, List.drop_length] at he
    rw [← he]
    rfl
def t22 (z : (List UInt8 × List (List UInt8 × (Int × (Int × (Int × List UInt8)))))) (ns : List (List UInt8 × (Int × (Int × (Int × List UInt8))))) : Tr Res := Tr.br (gnC (Prod.fst z) (Prod.snd z) ns [] (↑(List.length ns) : Int) (0 : Int)) (Tr.ret ([AV.list RR (glueV z ns)], [])) Tr.no
def os22 : OSpec := { f := 22, sh := [.d ZN true, .d (.list RR) false], so := [], F := fun (z, ns, _) _ => t22 z ns }
set_option maxRecDepth 1000000 in
theorem fn22 (z : (List UInt8 × List (List UInt8 × (Int × (Int × (Int × List UInt8)))))) (ns : List (List UInt8 × (Int × (Int × (Int × List UInt8))))) : evC T0 (orcB [fs51w, fs43w, fs52w] []) (lpOf h22 0 (lsOf [ls22o])) c22 1000000 (startSt [AV.ofTy ZN z true, .list RR ns] [] Try.f22.ntmps) (finishK T0 false 0 Try.f22) = (t22 z ns).get := by kernel_rfl
theorem ok22 : os22.Ok Try.prog := by
  refine os_ok mixed0 tab0 (orcB_sound (all_cons okf51w (all_cons okf43w (all_cons okf52w all_nil))) all_nil) h22 (d := 1) (n0 := 0) (S := lsOf [ls22o]) Try.func22 (by kernel_rfl) (c := c22) (by kernel_rfl) rfl (loops_eq (xs := [(0, b22o)]) (by kernel_rfl) (all_cons (ls_here loop22o) all_nil)) (by omega) (by kernel_rfl) ?_
  intro x'' y'' q'' hq''
  obtain ⟨(z : (List UInt8 × List (List UInt8 × (Int × (Int × (Int × List UInt8)))))), (ns : List (List UInt8 × (Int × (Int × (Int × List UInt8))))), _⟩ := x''
  exact (fn22 z ns).trans hq''
def fs22 : FSpec := fsT 22 [(ZN, true), ((.list RR), false)] [((.list RR), false)] fun (z, ns, _) => t22 z ns
theorem okf22 : fs22.Ok Try.prog := fsT_ok fun x'' r'' hr'' => ok22 x'' () r'' hr''
def fs22w : FSpec := fs22.like fun (z, ns, _) => .on (gnOk z ns) (glueV z ns, ())
theorem okf22w : fs22w.Ok Try.prog := by
  refine flike_ok okf22 _ ?_
  rintro ⟨(z : ZNt), (ns : List RRt), _⟩ y h
  obtain ⟨hb, rfl⟩ := Tr.get_on h
  have hb : gnOk z ns = true := hb
  refine convR_of (vs := [.list RR (glueV z ns)]) rfl rfl (Tr.get_of_all ?_)
  show (t22 z ns).all _
  unfold t22
  refine Tr.all_t ?_ (Tr.all_ret rfl)
  unfold gnC
  rw [show gnOk (z.1, z.2) ns = true from hb, decide_eq_true rfl]
  rfl
def rgC (l os : List RRt) (k : Int) : Bool := Nat.ble (l.length + os.length) 1000000 && decide (k = 0)
noncomputable def b23i : Code := nthLoop (nthLoop c23 0) 0
def ls23i : LoopSpec := { bid := 2, sh := [.d (.list RR) false, .ptr 0 0, .row 1, .d (.int .i64) false, .d .bool false, .d (.list RR) false, .d (.int .i64) false], so := [.box [.d .str false, .d (.list RR) false], .row RR], F := fun (ns, i, is, os, k, _) ((ap, zr, _), l, _) => .on (rgC l os k) (.exit 2, [.list RR ns, .ptr 0 0, .rowA 1, .int .i64 i], [.box [.str ap, .list RR zr], .row RR (bif is then addV l os else l)]) }
def r23i (ns : List (List UInt8 × (Int × (Int × (Int × List UInt8))))) (i : Int) (is : Bool) (os : List (List UInt8 × (Int × (Int × (Int × List UInt8))))) (k : Int) (ap : List UInt8) (zr : List (List UInt8 × (Int × (Int × (Int × List UInt8))))) (l : List (List UInt8 × (Int × (Int × (Int × List UInt8))))) : Tr (St ⊕ (Ex × St)) := Tr.br (decide (k < (↑(List.length os) : Int))) (Tr.br is (Tr.br (decide ((0 : Int) ≤ k)) (Tr.br (decide (k < (↑(List.length os) : Int))) (Tr.br (lrB l) (Tr.br (!hasV l (List.getD os (Int.toNat k) (Ty.dflt RR))) (Tr.br (decide ((0 : Int) ≤ k)) (Tr.br (decide (k < (↑(List.length os) : Int))) (Tr.br (fits (List.length l + 1) 40) (Tr.ret (Sum.inl (stOf [1, 2, 5, 6, 8, 9, 10] [AV.list RR ns, AV.ptr 0 0, AV.rowA 1, AV.int IntKind.i64 i, AV.bool is, AV.list RR os, AV.int IntKind.i64 (IntKind.wrap IntKind.i64 (k + (1 : Int)))] [LObj.boxT none [AV.str ap, AV.list RR zr], LObj.row RR (l ++ [List.getD os (Int.toNat k) (Ty.dflt RR)])]))) Tr.no) Tr.no) Tr.no) (Tr.ret (Sum.inl (stOf [1, 2, 5, 6, 8, 9, 10] [AV.list RR ns, AV.ptr 0 0, AV.rowA 1, AV.int IntKind.i64 i, AV.bool is, AV.list RR os, AV.int IntKind.i64 (IntKind.wrap IntKind.i64 (k + (1 : Int)))] [LObj.boxT none [AV.str ap, AV.list RR zr], LObj.row RR l])))) Tr.no) Tr.no) Tr.no) (Tr.ret (Sum.inr (Ex.exit 2, stOf [1, 2, 5, 6] [AV.list RR ns, AV.ptr 0 0, AV.rowA 1, AV.int IntKind.i64 i] [LObj.boxT none [AV.str ap, AV.list RR zr], LObj.row RR l])))) (Tr.ret (Sum.inr (Ex.exit 2, stOf [1, 2, 5, 6] [AV.list RR ns, AV.ptr 0 0, AV.rowA 1, AV.int IntKind.i64 i] [LObj.boxT none [AV.str ap, AV.list RR zr], LObj.row RR l])))
set_option maxRecDepth 1000000 in
theorem round23i (lp : Lp) (ns : List (List UInt8 × (Int × (Int × (Int × List UInt8))))) (i : Int) (is : Bool) (os : List (List UInt8 × (Int × (Int × (Int × List UInt8))))) (k : Int) (ap : List UInt8) (zr : List (List UInt8 × (Int × (Int × (Int × List UInt8))))) (l : List (List UInt8 × (Int × (Int × (Int × List UInt8))))) : evC T0 (orcB [fs53w, fs48w, fs54w] []) lp b23i 2 (stOf [1, 2, 5, 6, 8, 9, 10] [.list RR ns, .ptr 0 0, .rowA 1, .int .i64 i, .bool is, .list RR os, .int .i64 k] [.box [.str ap, .list RR zr], .row RR l]) (roundK [1, 2, 5, 6, 8, 9, 10] [1, 2, 5, 6] 0) = (r23i ns i is os k ap zr l).get := by kernel_rfl
theorem wf23i (ns : List (List UInt8 × (Int × (Int × (Int × List UInt8))))) (i : Int) (is : Bool) (os : List (List UInt8 × (Int × (Int × (Int × List UInt8))))) (ap : List UInt8) (zr : List (List UInt8 × (Int × (Int × (Int × List UInt8))))) (I'' : List (List UInt8 × (Int × (Int × (Int × List UInt8)))) → Int → Prop) (m'' : List (List UInt8 × (Int × (Int × (Int × List UInt8)))) → Int → Nat) (r'' : Ex × St) (h : ∀ (l : List (List UInt8 × (Int × (Int × (Int × List UInt8))))) (k : Int), I'' l k → (r23i ns i is os k ap zr l).all fun x'' => x'' = .inr r'' ∨ ∃ (l' : List (List UInt8 × (Int × (Int × (Int × List UInt8))))) (k' : Int), x'' = .inl (stOf [1, 2, 5, 6, 8, 9, 10] [.list RR ns, .ptr 0 0, .rowA 1, .int .i64 i, .bool is, .list RR os, .int .i64 k'] [.box [.str ap, .list RR zr], .row RR l']) ∧ I'' l' k' ∧ m'' l' k' < m'' l k) (lp : Lp) (l : List (List UInt8 × (Int × (Int × (Int × List UInt8))))) (k : Int) : I'' l k →
    loopF (fun st => evC T0 (orcB [fs53w, fs48w, fs54w] []) lp b23i 2 st (roundK [1, 2, 5, 6, 8, 9, 10] [1, 2, 5, 6] 0)) (stOf [1, 2, 5, 6, 8, 9, 10] [.list RR ns, .ptr 0 0, .rowA 1, .int .i64 i, .bool is, .list RR os, .int .i64 k] [.box [.str ap, .list RR zr], .row RR l]) = some r'' :=
  loop_tr (fun a'' : List (List UInt8 × (Int × (Int × (Int × List UInt8)))) × Int => stOf [1, 2, 5, 6, 8, 9, 10] [.list RR ns, .ptr 0 0, .rowA 1, .int .i64 i, .bool is, .list RR os, .int .i64 a''.2] [.box [.str ap, .list RR zr], .row RR a''.1]) (fun a'' => I'' a''.1 a''.2) (fun a'' => m'' a''.1 a''.2) r'' (fun a'' => r23i ns i is os a''.2 ap zr a''.1)
    (fun a'' x hx => (round23i lp ns i is os a''.2 ap zr a''.1).trans hx) (fun a'' ha => Tr.all_mono (fun x'' hx => hx.imp id fun ⟨l', k', h1, h2, h3⟩ => ⟨(l', k'), h1, h2, h3⟩) (h (a''.1) (a''.2) ha)) (l, k)
theorem loop23i : ls23i.Ok T0 (orcB [fs53w, fs48w, fs54w] []) h23 0 0 b23i := by
  intro q'' hq'' x'' y'' r'' h
  obtain ⟨(ns : List (List UInt8 × (Int × (Int × (Int × List UInt8))))), (i : Int), (is : Bool), (os : List (List UInt8 × (Int × (Int × (Int × List UInt8))))), (k : Int), _⟩ := x''
  obtain ⟨⟨(ap : List UInt8), (zr : List (List UInt8 × (Int × (Int × (Int × List UInt8))))), _⟩, (l : List (List UInt8 × (Int × (Int × (Int × List UInt8))))), _⟩ := y''
  obtain ⟨hc, rfl⟩ := Tr.get_on h
  show loopF (fun st => evC T0 (orcB [fs53w, fs48w, fs54w] []) (lpN T0 (orcB [fs53w, fs48w, fs54w] []) h23 0 q'') b23i 2 st (roundK [1, 2, 5, 6, 8, 9, 10] [1, 2, 5, 6] 0)) (stOf [1, 2, 5, 6, 8, 9, 10] [.list RR ns, .ptr 0 0, .rowA 1, .int .i64 i, .bool is, .list RR os, .int .i64 k] [.box [.str ap, .list RR zr], .row RR l]) = some (.exit 2, stOf [1, 2, 5, 6] ([.list RR ns, .ptr 0 0, .rowA 1, .int .i64 i]) ([.box [.str ap, .list RR zr], .row RR (bif is then addV l os else l)]))
  simp only [rgC, Bool.and_eq_true, decide_eq_true_eq] at hc
  obtain ⟨hl, rfl⟩ := hc
  have hl := Nat.le_of_ble_eq_true hl
  refine wf23i ns i is os ap zr (fun l' k => 0 ≤ k ∧ k ≤ os.length ∧ l'.length ≤ l.length + k.toNat ∧ (bif is then addV l' (os.drop k.toNat) else l') = bif is then addV l os else l) (fun l' k => (os.length - k).toNat) _ ?_ _ l 0 ⟨by omega, by omega, by omega, rfl⟩
  rintro l' k ⟨h0, h1, h2, he⟩
  unfold r23i
  rw [wrap_succ h0 h1 (by omega)]
  by_cases hi : k < os.length
  · refine Tr.all_t (dec_true hi) ?_
    cases is with
    | false =>
      refine Tr.all_f rfl (Tr.all_ret (.inl ?_))
      rw [← he]
      rfl
    | true =>
      simp only [cond_true] at he
      rw [drop_cons2 (l := os) (k := k.toNat) (by omega) (Ty.dflt RR), addV] at he
      generalize os.getD k.toNat (Ty.dflt RR) = x at *
      refine Tr.all_t rfl (Tr.all_t (dec_true h0) (Tr.all_t (dec_true hi) (Tr.all_t (Nat.ble_eq_true_of_le (by omega)) (Tr.all_br (fun h => Tr.all_t (dec_true h0) (Tr.all_t (dec_true hi) (Tr.all_t (fits_true (by omega) (by omega)) ?_))) fun h => ?_))))
      · have h : hasV l' x = false := by cases hh : hasV l' x; rfl; (rw [hh] at h; cases h)
        rw [if_neg (by rw [h]; simp)] at he
        exact Tr.all_ret (.inr ⟨_, _, rfl, ⟨by omega, by omega, by rw [List.length_append, List.length_singleton]; omega, by rw [show (k + 1).toNat = k.toNat + 1 by omega]; exact he⟩, by omega⟩)
      · have h : hasV l' x = true := by cases hh : hasV l' x; (rw [hh] at h; cases h); rfl
        rw [if_pos h] at he
        exact Tr.all_ret (.inr ⟨_, _, rfl, ⟨by omega, by omega, by omega, by rw [show (k + 1).toNat = k.toNat + 1 by omega]; exact he⟩, by omega⟩)
  · refine Tr.all_f (dec_false hi) (Tr.all_ret (.inl ?_))
    rw [show k.toNat = os.length by omega, List.drop_length] at he
    rw [← he]
    cases is <;> rfl
def rgO (ap : List UInt8) (zr ns l : List RRt) (i : Int) : Bool := gnOk (ap, zr) ns && (l.isEmpty && decide (i = 0))
noncomputable def b23o : Code := nthLoop c23 0
def ls23o : LoopSpec := { bid := 0, sh := [.d (.list RR) false, .ptr 0 0, .row 1, .d (.int .i64) false], so := [.box [.d .str false, .d (.list RR) false], .row RR], F := fun (ns, i, _) ((ap, zr, _), l, _) => .on (rgO ap zr ns l i) (.exit 0, [.rowA 0], [.row RR (glueV (ap, zr) ns)]) }
def r23o (ns : List (List UInt8 × (Int × (Int × (Int × List UInt8))))) (i : Int) (ap : List UInt8) (zr : List (List UInt8 × (Int × (Int × (Int × List UInt8))))) (l : List (List UInt8 × (Int × (Int × (Int × List UInt8))))) : Tr (St ⊕ (Ex × St)) := Tr.br (decide (i < (↑(List.length ns) : Int))) (Tr.br (decide ((0 : Int) ≤ i)) (Tr.br (decide (i < (↑(List.length ns) : Int))) (Tr.br (decide ((0 : Int) ≤ i)) (Tr.br (decide (i < (↑(List.length ns) : Int))) (Tr.br (bigS (Prod.snd (Prod.snd (Prod.snd (Prod.snd (List.getD ns (Int.toNat i) (Ty.dflt RR))))))) (Tr.br (smZ (ap, zr)) (Tr.br (rgC l (ofV (ap, zr) (Option.getD (targV (Prod.fst (Prod.snd (List.getD ns (Int.toNat i) (Ty.dflt RR)))) (Prod.snd (Prod.snd (Prod.snd (Prod.snd (List.getD ns (Int.toNat i) (Ty.dflt RR))))))) []) (1 : Int)) (0 : Int)) (Tr.ret (Sum.inl (stOf [1, 2, 5, 6] [AV.list RR ns, AV.ptr 0 0, AV.rowA 1, AV.int IntKind.i64 (IntKind.wrap IntKind.i64 (i + (1 : Int)))] [LObj.boxT none [AV.str ap, AV.list RR zr], LObj.row RR (bif Option.isSome (targV (Prod.fst (Prod.snd (List.getD ns (Int.toNat i) (Ty.dflt RR)))) (Prod.snd (Prod.snd (Prod.snd (Prod.snd (List.getD ns (Int.toNat i) (Ty.dflt RR))))))) then addV l (ofV (ap, zr) (Option.getD (targV (Prod.fst (Prod.snd (List.getD ns (Int.toNat i) (Ty.dflt RR)))) (Prod.snd (Prod.snd (Prod.snd (Prod.snd (List.getD ns (Int.toNat i) (Ty.dflt RR))))))) []) (1 : Int)) else l)]))) Tr.no) Tr.no) Tr.no) Tr.no) Tr.no) Tr.no) Tr.no) (Tr.ret (Sum.inr (Ex.exit 0, stOf [5] [AV.rowA 0] [LObj.row RR l])))
set_option maxRecDepth 1000000 in
theorem round23o (ns : List (List UInt8 × (Int × (Int × (Int × List UInt8))))) (i : Int) (ap : List UInt8) (zr : List (List UInt8 × (Int × (Int × (Int × List UInt8))))) (l : List (List UInt8 × (Int × (Int × (Int × List UInt8))))) : evC T0 (orcB [fs53w, fs48w, fs54w] []) (lpOf h23 0 (lsOf [ls23i])) b23o 0 (stOf [1, 2, 5, 6] [.list RR ns, .ptr 0 0, .rowA 1, .int .i64 i] [.box [.str ap, .list RR zr], .row RR l]) (roundK [1, 2, 5, 6] [5] 0) = (r23o ns i ap zr l).get := by kernel_rfl
theorem wf23o (ns : List (List UInt8 × (Int × (Int × (Int × List UInt8))))) (ap : List UInt8) (zr : List (List UInt8 × (Int × (Int × (Int × List UInt8))))) (I'' : List (List UInt8 × (Int × (Int × (Int × List UInt8)))) → Int → Prop) (m'' : List (List UInt8 × (Int × (Int × (Int × List UInt8)))) → Int → Nat) (r'' : Ex × St) (h : ∀ (l : List (List UInt8 × (Int × (Int × (Int × List UInt8))))) (i : Int), I'' l i → (r23o ns i ap zr l).all fun x'' => x'' = .inr r'' ∨ ∃ (l' : List (List UInt8 × (Int × (Int × (Int × List UInt8))))) (i' : Int), x'' = .inl (stOf [1, 2, 5, 6] [.list RR ns, .ptr 0 0, .rowA 1, .int .i64 i'] [.box [.str ap, .list RR zr], .row RR l']) ∧ I'' l' i' ∧ m'' l' i' < m'' l i) (q'' : Nat) (hq'' : 1 ≤ q'') (l : List (List UInt8 × (Int × (Int × (Int × List UInt8))))) (i : Int) : I'' l i →
    loopF (fun st => evC T0 (orcB [fs53w, fs48w, fs54w] []) (lpN T0 (orcB [fs53w, fs48w, fs54w] []) h23 0 q'') b23o 0 st (roundK [1, 2, 5, 6] [5] 0)) (stOf [1, 2, 5, 6] [.list RR ns, .ptr 0 0, .rowA 1, .int .i64 i] [.box [.str ap, .list RR zr], .row RR l]) = some r'' :=
  loop_tr (fun a'' : List (List UInt8 × (Int × (Int × (Int × List UInt8)))) × Int => stOf [1, 2, 5, 6] [.list RR ns, .ptr 0 0, .rowA 1, .int .i64 a''.2] [.box [.str ap, .list RR zr], .row RR a''.1]) (fun a'' => I'' a''.1 a''.2) (fun a'' => m'' a''.1 a''.2) r'' (fun a'' => r23o ns a''.2 ap zr a''.1)
    (fun a'' x hx => round_of (d := 0) (S := lsOf [ls23i]) (loops_at (xs := [(2, b23i)]) (by kernel_rfl) (all_cons (ls_here loop23i) all_nil)) (by omega) ((round23o ns a''.2 ap zr a''.1).trans hx)) (fun a'' ha => Tr.all_mono (fun x'' hx => hx.imp id fun ⟨l', i', h1, h2, h3⟩ => ⟨(l', i'), h1, h2, h3⟩) (h (a''.1) (a''.2) ha)) (l, i)
theorem loop23o : ls23o.Ok T0 (orcB [fs53w, fs48w, fs54w] []) h23 0 1 b23o := by
  intro q'' hq'' x'' y'' r'' h
  obtain ⟨(ns : List (List UInt8 × (Int × (Int × (Int × List UInt8))))), (i : Int), _⟩ := x''
  obtain ⟨⟨(ap : List UInt8), (zr : List (List UInt8 × (Int × (Int × (Int × List UInt8))))), _⟩, (l : List (List UInt8 × (Int × (Int × (Int × List UInt8))))), _⟩ := y''
  obtain ⟨hc, rfl⟩ := Tr.get_on h
  show loopF (fun st => evC T0 (orcB [fs53w, fs48w, fs54w] []) (lpN T0 (orcB [fs53w, fs48w, fs54w] []) h23 0 q'') b23o 0 st (roundK [1, 2, 5, 6] [5] 0)) (stOf [1, 2, 5, 6] [.list RR ns, .ptr 0 0, .rowA 1, .int .i64 i] [.box [.str ap, .list RR zr], .row RR l]) = some (.exit 0, stOf [5] ([.rowA 0]) ([.row RR (glueV (ap, zr) ns)]))
  simp only [rgO, gnOk, Bool.and_eq_true, decide_eq_true_eq, List.isEmpty_iff] at hc
  obtain ⟨⟨hz, hd, hb, hb2⟩, rfl, rfl⟩ := hc
  have hb := Nat.le_of_ble_eq_true hb
  have hb2 := Nat.le_of_ble_eq_true hb2
  refine wf23o ns ap zr (fun l i => 0 ≤ i ∧ i ≤ ns.length ∧ l.length ≤ i.toNat * zr.length ∧ glueL (ap, zr) l (ns.drop i.toNat) = glueV (ap, zr) ns) (fun l i => (ns.length - i).toNat) _ ?_ _ hq'' [] 0 ⟨by omega, by omega, by simp, rfl⟩
  rintro l i ⟨h0, h1, h2, he⟩
  unfold r23o
  rw [wrap_succ h0 h1 (by omega)]
  by_cases hi : i < ns.length
  · have hsm := smD_get hd (k := i.toNat) (by omega) (Ty.dflt RR)
    rw [drop_cons2 (l := ns) (k := i.toNat) (by omega) (Ty.dflt RR), glueL] at he
    generalize ns.getD i.toNat (Ty.dflt RR) = x at *
    have hms := mul_step (i := i.toNat) (n := ns.length) (z := zr.length) (by omega) hb
    have hl1 : (glue1 (ap, zr) l x).length ≤ l.length + zr.length := glue1_len (ap, zr) l x
    have hl2 : (glue1 (ap, zr) l x).length ≤ (i + 1).toNat * zr.length := by rw [show (i + 1).toNat = i.toNat + 1 by omega, Nat.add_mul, Nat.one_mul]; omega
    have hgl : ∀ n, rgC l (ofV (ap, zr) n 1) 0 = true := fun n => by
      have : (ofV (ap, zr) n 1).length ≤ zr.length := ofV_len (ap, zr) n 1
      unfold rgC
      rw [Nat.ble_eq_true_of_le (by omega)]
      rfl
    refine Tr.all_t (dec_true hi) (Tr.all_t (dec_true h0) (Tr.all_t (dec_true hi) (Tr.all_t (dec_true h0) (Tr.all_t (dec_true hi) (Tr.all_t hsm (Tr.all_t hz (Tr.all_t (hgl _) (Tr.all_ret (.inr ⟨_, _, rfl, ⟨by omega, by omega, ?_, ?_⟩, by omega⟩)))))))))
    · unfold glue1 at hl2
      cases ht : targV x.2.1 x.2.2.2.2 with
      | none => rw [ht] at hl2; exact hl2
      | some n => rw [ht] at hl2; exact hl2
    · rw [show (i + 1).toNat = i.toNat + 1 by omega]
      unfold glue1 at he
      cases ht : targV x.2.1 x.2.2.2.2 with
      | none => rw [ht] at he; exact he
      | some n => rw [ht] at he; exact he
  · refine Tr.all_f (dec_false hi) (Tr.all_ret (.inl ?_))
    rw [show i.toNat = ns.length by omega, List.drop_length] at he
    rw [← he]
    rfl
def t23 (z : (List UInt8 × List (List UInt8 × (Int × (Int × (Int × List UInt8)))))) (ns : List (List UInt8 × (Int × (Int × (Int × List UInt8))))) : Tr Res := Tr.br (rgO (Prod.fst z) (Prod.snd z) ns [] (0 : Int)) (Tr.ret ([AV.list RR (glueV z ns)], [])) Tr.no
def os23 : OSpec := { f := 23, sh := [.d ZN true, .d (.list RR) false], so := [], F := fun (z, ns, _) _ => t23 z ns }
set_option maxRecDepth 1000000 in
theorem fn23 (z : (List UInt8 × List (List UInt8 × (Int × (Int × (Int × List UInt8)))))) (ns : List (List UInt8 × (Int × (Int × (Int × List UInt8))))) : evC T0 (orcB [fs53w, fs48w, fs54w] []) (lpOf h23 0 (lsOf [ls23o])) c23 1000000 (startSt [AV.ofTy ZN z true, .list RR ns] [] Try.f23.ntmps) (finishK T0 false 0 Try.f23) = (t23 z ns).get := by kernel_rfl
theorem ok23 : os23.Ok Try.prog := by
  refine os_ok mixed0 tab0 (orcB_sound (all_cons okf53w (all_cons okf48w (all_cons okf54w all_nil))) all_nil) h23 (d := 1) (n0 := 0) (S := lsOf [ls23o]) Try.func23 (by kernel_rfl) (c := c23) (by kernel_rfl) rfl (loops_eq (xs := [(0, b23o)]) (by kernel_rfl) (all_cons (ls_here loop23o) all_nil)) (by omega) (by kernel_rfl) ?_
  intro x'' y'' q'' hq''
  obtain ⟨(z : (List UInt8 × List (List UInt8 × (Int × (Int × (Int × List UInt8)))))), (ns : List (List UInt8 × (Int × (Int × (Int × List UInt8))))), _⟩ := x''
  exact (fn23 z ns).trans hq''
def fs23 : FSpec := fsT 23 [(ZN, true), ((.list RR), false)] [((.list RR), false)] fun (z, ns, _) => t23 z ns
theorem okf23 : fs23.Ok Try.prog := fsT_ok fun x'' r'' hr'' => ok23 x'' () r'' hr''
def fs23w : FSpec := fs23.like fun (z, ns, _) => .on (gnOk z ns) (glueV z ns, ())
theorem okf23w : fs23w.Ok Try.prog := by
  refine flike_ok okf23 _ ?_
  rintro ⟨(z : ZNt), (ns : List RRt), _⟩ y h
  obtain ⟨hb, rfl⟩ := Tr.get_on h
  have hb : gnOk z ns = true := hb
  refine convR_of (vs := [.list RR (glueV z ns)]) rfl rfl (Tr.get_of_all ?_)
  show (t23 z ns).all _
  unfold t23
  refine Tr.all_t ?_ (Tr.all_ret rfl)
  unfold rgO
  rw [show gnOk (z.1, z.2) ns = true from hb]
  rfl
end Go.Proofs.YtkobjdhbfepkaaaE
namespace Go.Proofs.YtkobjdhbfepkaaaE
open Go Go.Proofs.YtkobjdhbfepkaaaB
set_option linter.unusedVariables false
set_option linter.unusedSimpArgs false
set_option maxRecDepth 100000
def joC (l : List (List UInt8)) (s : List UInt8) (i : Int) : Bool := (l.all fun x => decide (1 ≤ x.length) && (decide (x.length ≤ 63) && (foldB x == x))) && (Nat.ble l.length 1000 && (s.isEmpty && decide (i = 0)))
def joL (l : List (List UInt8)) : List UInt8 := (l.map fun x => UInt8.ofNat x.length :: x).flatten
noncomputable def b47 : Code := nthLoop c47 0
def ls47 : LoopSpec := { bid := 0, sh := [.d (.list .str) false, .d .str false, .d (.int .i64) false], so := [], F := fun (l, s, i, _) _ => .on (joC l s i) (.exit 0, [.dead, .dead, .str (joL l)], []) }
def r47 (l : List (List UInt8)) (s : List UInt8) (i : Int) : Tr (St ⊕ (Ex × St)) := Tr.br (decide (i < (↑(List.length l) : Int))) (Tr.br (decide ((0 : Int) ≤ i)) (Tr.br (decide (i < (↑(List.length l) : Int))) (Tr.br (decide ((↑(List.length (List.getD l (Int.toNat i) (Ty.dflt Ty.str))) : Int) < (1 : Int))) (Tr.ret (Sum.inr (Ex.ret, stOf [2, 3, 4] [AV.str [], AV.int IntKind.i64 (2 : Int), AV.str s] []))) (Tr.br (decide ((0 : Int) ≤ i)) (Tr.br (decide (i < (↑(List.length l) : Int))) (Tr.br (decide ((↑(List.length (List.getD l (Int.toNat i) (Ty.dflt Ty.str))) : Int) > (63 : Int))) (Tr.ret (Sum.inr (Ex.ret, stOf [2, 3, 4] [AV.str [], AV.int IntKind.i64 (2 : Int), AV.str s] []))) (Tr.br (decide ((0 : Int) ≤ i)) (Tr.br (decide (i < (↑(List.length l) : Int))) (Tr.br (Nat.ble (List.length s + List.length (intBytes [IntKind.wrap IntKind.u8 (↑(List.length (List.getD l (Int.toNat i) (Ty.dflt Ty.str))) : Int)])) 9223372036854775807) (Tr.br (decide ((0 : Int) ≤ i)) (Tr.br (decide (i < (↑(List.length l) : Int))) (Tr.br (bigS (List.getD l (Int.toNat i) (Ty.dflt Ty.str))) (Tr.br (Nat.ble (List.length (s ++ intBytes [IntKind.wrap IntKind.u8 (↑(List.length (List.getD l (Int.toNat i) (Ty.dflt Ty.str))) : Int)]) + List.length (foldB (List.getD l (Int.toNat i) (Ty.dflt Ty.str)))) 9223372036854775807) (Tr.ret (Sum.inl (stOf [0, 4, 5] [AV.list Ty.str l, AV.str (s ++ intBytes [IntKind.wrap IntKind.u8 (↑(List.length (List.getD l (Int.toNat i) (Ty.dflt Ty.str))) : Int)] ++ foldB (List.getD l (Int.toNat i) (Ty.dflt Ty.str))), AV.int IntKind.i64 (IntKind.wrap IntKind.i64 (i + (1 : Int)))] []))) Tr.no) Tr.no) Tr.no) Tr.no) Tr.no) Tr.no) Tr.no)) Tr.no) Tr.no)) Tr.no) Tr.no) (Tr.ret (Sum.inr (Ex.exit 0, stOf [2, 3, 4] [AV.dead, AV.dead, AV.str s] [])))
set_option maxRecDepth 1000000 in
theorem round47 (lp : Lp) (l : List (List UInt8)) (s : List UInt8) (i : Int) : evC T0 (orcB [fs76w] []) lp b47 0 (stOf [0, 4, 5] [.list .str l, .str s, .int .i64 i] []) (roundK [0, 4, 5] [2, 3, 4] 0) = (r47 l s i).get := by kernel_rfl
theorem wf47 (l : List (List UInt8)) (I'' : List UInt8 → Int → Prop) (m'' : List UInt8 → Int → Nat) (r'' : Ex × St) (h : ∀ (s : List UInt8) (i : Int), I'' s i → (r47 l s i).all fun x'' => x'' = .inr r'' ∨ ∃ (s' : List UInt8) (i' : Int), x'' = .inl (stOf [0, 4, 5] [.list .str l, .str s', .int .i64 i'] []) ∧ I'' s' i' ∧ m'' s' i' < m'' s i) (lp : Lp) (s : List UInt8) (i : Int) : I'' s i →
    loopF (fun st => evC T0 (orcB [fs76w] []) lp b47 0 st (roundK [0, 4, 5] [2, 3, 4] 0)) (stOf [0, 4, 5] [.list .str l, .str s, .int .i64 i] []) = some r'' :=
  loop_tr (fun a'' : List UInt8 × Int => stOf [0, 4, 5] [.list .str l, .str a''.1, .int .i64 a''.2] []) (fun a'' => I'' a''.1 a''.2) (fun a'' => m'' a''.1 a''.2) r'' (fun a'' => r47 l a''.1 a''.2)
    (fun a'' x hx => (round47 lp l a''.1 a''.2).trans hx) (fun a'' ha => Tr.all_mono (fun x'' hx => hx.imp id fun ⟨s', i', h1, h2, h3⟩ => ⟨(s', i'), h1, h2, h3⟩) (h (a''.1) (a''.2) ha)) (s, i)
theorem byte_of {n : Nat} (h : n ≤ 255) : intBytes [IntKind.wrap IntKind.u8 (n : Int)] = [UInt8.ofNat n] := by
  rw [IntWalk.u8_in (n : Int) (by omega)]
  simp [intBytes]
theorem joL_next {l : List (List UInt8)} {k : Nat} (hk : k < l.length) (x : List UInt8) : joL (l.drop k) = UInt8.ofNat (l.getD k x).length :: (l.getD k x ++ joL (l.drop (k + 1))) := by
  rw [drop_cons2 hk x]
  unfold joL
  rw [List.map_cons, List.flatten_cons, List.cons_append]
theorem mem_getD {α : Type} {l : List α} {k : Nat} (hk : k < l.length) (x : α) : l.getD k x ∈ l := by
  rw [List.getD_eq_getElem?_getD, List.getElem?_eq_getElem hk]
  exact List.getElem_mem hk
theorem loop47 : ls47.Ok T0 (orcB [fs76w] []) h47 0 0 b47 := by
  intro q'' hq'' x'' y'' r'' h
  obtain ⟨(l : List (List UInt8)), (s : List UInt8), (i : Int), _⟩ := x''
  obtain ⟨hc, rfl⟩ := Tr.get_on h
  show loopF (fun st => evC T0 (orcB [fs76w] []) (lpN T0 (orcB [fs76w] []) h47 0 q'') b47 0 st (roundK [0, 4, 5] [2, 3, 4] 0)) (stOf [0, 4, 5] [.list .str l, .str s, .int .i64 i] []) = some (.exit 0, stOf [2, 3, 4] ([.dead, .dead, .str (joL l)]) ([]))
  simp only [joC, Bool.and_eq_true, decide_eq_true_eq, List.isEmpty_iff, List.all_eq_true, beq_iff_eq] at hc
  obtain ⟨ha, hb, rfl, rfl⟩ := hc
  have hb := Nat.le_of_ble_eq_true hb
  refine wf47 l (fun s i => 0 ≤ i ∧ i ≤ l.length ∧ s.length ≤ 64 * i.toNat ∧ s ++ joL (l.drop i.toNat) = joL l) (fun s i => (l.length - i).toNat) _ ?_ _ [] 0 ⟨by omega, by omega, by simp, rfl⟩
  rintro s i ⟨h0, h1, h2, he⟩
  unfold r47
  rw [wrap_succ h0 h1 (by omega)]
  by_cases hi : i < l.length
  · obtain ⟨x1, x2, x3⟩ := ha _ (mem_getD (l := l) (k := i.toNat) (by omega) (Ty.dflt Ty.str))
    rw [joL_next (k := i.toNat) (by omega) (Ty.dflt Ty.str)] at he
    generalize List.getD l i.toNat (Ty.dflt Ty.str) = x at *
    rw [byte_of (by omega), x3]
    have hlen : (s ++ [UInt8.ofNat x.length]).length = s.length + 1 := by simp
    refine Tr.all_t (dec_true hi) (Tr.all_t (dec_true h0) (Tr.all_t (dec_true hi) (Tr.all_f (dec_false (by omega)) (Tr.all_t (dec_true h0) (Tr.all_t (dec_true hi) (Tr.all_f (dec_false (by omega)) (Tr.all_t (dec_true h0) (Tr.all_t (dec_true hi) (Tr.all_t (Nat.ble_eq_true_of_le (by rw [List.length_singleton]; omega)) (Tr.all_t (dec_true h0) (Tr.all_t (dec_true hi) (Tr.all_t (len_big (by omega)) (Tr.all_t (Nat.ble_eq_true_of_le (by omega)) (Tr.all_ret (.inr ⟨_, _, rfl, ⟨by omega, by omega, ?_, ?_⟩, by omega⟩)))))))))))))))
    · rw [List.length_append, hlen]; omega
    · rw [show (i + 1).toNat = i.toNat + 1 by omega, ← he]
      simp
  · refine Tr.all_f (dec_false hi) (Tr.all_ret (.inl ?_))
    rw [show i.toNat = l.length by omega, List.drop_length] at he
    rw [← he]
    simp [joL]
def t47 (l : List (List UInt8)) : Tr Res := Tr.br (joC l ([]) (0 : Int)) (Tr.br (decide ((↑(List.length (joL l)) : Int) > (254 : Int))) (Tr.ret ([AV.str [], AV.int IntKind.i64 (3 : Int)], [])) (Tr.br (Nat.ble (List.length (joL l) + List.length ([0])) 9223372036854775807) (Tr.ret ([AV.str (joL l ++ [0]), AV.int IntKind.i64 (0 : Int)], [])) Tr.no)) Tr.no
def os47 : OSpec := { f := 47, sh := [.d (.list .str) false], so := [], F := fun (l, _) _ => t47 l }
set_option maxRecDepth 1000000 in
theorem fn47 (l : List (List UInt8)) : evC T0 (orcB [fs76w] []) (lpOf h47 0 (lsOf [ls47])) c47 1000000 (startSt [.list .str l] [] Try.f47.ntmps) (finishK T0 false 0 Try.f47) = (t47 l).get := by kernel_rfl
theorem ok47 : os47.Ok Try.prog := by
  refine os_ok mixed0 tab0 (orcB_sound (all_cons okf76w all_nil) all_nil) h47 (d := 0) (n0 := 0) (S := lsOf [ls47]) Try.func47 (by kernel_rfl) (c := c47) (by kernel_rfl) rfl (loops_eq (xs := [(0, b47)]) (by kernel_rfl) (all_cons (ls_here loop47) all_nil)) (by omega) (by kernel_rfl) ?_
  intro x'' y'' q'' hq''
  obtain ⟨(l : List (List UInt8)), _⟩ := x''
  exact (fn47 l).trans hq''
def fs47 : FSpec := fsT 47 [((.list .str), false)] [(.str, false), ((.int .i64), false)] fun (l, _) => t47 l
theorem okf47 : fs47.Ok Try.prog := fsT_ok fun x'' r'' hr'' => ok47 x'' () r'' hr''
def joK (l : List (List UInt8)) : Bool := (l.all fun x => decide (1 ≤ x.length) && (decide (x.length ≤ 63) && (foldB x == x))) && (Nat.ble l.length 1000 && Nat.ble (joL l).length 254)
theorem joinV_eq (l : List (List UInt8)) : joinV l = joL l ++ [0] := rfl
def fs47w : FSpec := fs47.like fun (l, _) => .on (joK l) (joinV l, (0 : Int), ())
theorem okf47w : fs47w.Ok Try.prog := by
  refine flike_ok okf47 _ ?_
  rintro ⟨(l : List (List UInt8)), _⟩ y h
  obtain ⟨hb, rfl⟩ := Tr.get_on h
  have hb : joK l = true := hb
  unfold joK at hb
  rw [Bool.and_eq_true, Bool.and_eq_true] at hb
  obtain ⟨h1, h2, h3⟩ := hb
  have h3 := Nat.le_of_ble_eq_true h3
  refine convR_of (vs := [.str (joinV l), .int .i64 0]) rfl rfl (Tr.get_of_all ?_)
  show (t47 l).all _
  unfold t47
  rw [joinV_eq]
  refine Tr.all_t (by unfold joC; rw [h1, h2]; rfl) (Tr.all_f (dec_false (by omega)) (Tr.all_t (Nat.ble_eq_true_of_le (by simp; omega)) (Tr.all_ret rfl)))
def cutB2 (z : ZNt) (n : List UInt8) : Bool := !(ofV z n 2).isEmpty
def cutW (z : ZNt) (n : List UInt8) : Option (List UInt8) := if n = z.1 then none else if h : n = [] ∨ n = [0] then none else match cutW z (tlN n) with | some c => some c | none => if cutB2 z n = true then some n else none
termination_by n.length
decreasing_by exact tlN_lt (fun e => h (.inl e))
def cuC (ap : List UInt8) (zr : List RRt) (n cut : List UInt8) (is ok : Bool) : Bool := smZ (ap, zr) && (smN n && (cut.isEmpty && (!is && (ok == undV n ap))))
noncomputable def b17 : Code := nthLoop c17 0
def ls17 : LoopSpec := { bid := 0, sh := [.d .str false, .ptr 0 0, .d .str false, .d .bool false, .d .bool false], so := [.box [.d .str false, .d (.list RR) false]], F := fun (n, cut, is, ok, _) ((ap, zr, _), _) => .on (cuC ap zr n cut is ok) (.exit 0, [.str (bif undV n ap then (cutW (ap, zr) n).getD [] else []), .bool (undV n ap && (cutW (ap, zr) n).isSome)], []) }
def r17 (n : List UInt8) (cut : List UInt8) (is : Bool) (ok : Bool) (ap : List UInt8) (zr : List (List UInt8 × (Int × (Int × (Int × List UInt8))))) : Tr (St ⊕ (Ex × St)) := Tr.br ok (Tr.br (!n == ap) (Tr.br (smZ (ap, zr)) (Tr.br (decide ((↑(List.length (ofV (ap, zr) n (2 : Int))) : Int) > (0 : Int))) (Tr.br (bigS n) (Tr.br (mayV n && !n == [0]) (Tr.ret (Sum.inl (stOf [1, 2, 6, 7, 8] [AV.str (tlN n), AV.ptr 0 0, AV.str n, AV.bool true, AV.bool true] [LObj.boxT none [AV.str ap, AV.list RR zr]]))) (Tr.ret (Sum.inl (stOf [1, 2, 6, 7, 8] [AV.str [], AV.ptr 0 0, AV.str n, AV.bool true, AV.bool false] [LObj.boxT none [AV.str ap, AV.list RR zr]])))) Tr.no) (Tr.br (bigS n) (Tr.br (mayV n && !n == [0]) (Tr.ret (Sum.inl (stOf [1, 2, 6, 7, 8] [AV.str (tlN n), AV.ptr 0 0, AV.str cut, AV.bool is, AV.bool true] [LObj.boxT none [AV.str ap, AV.list RR zr]]))) (Tr.ret (Sum.inl (stOf [1, 2, 6, 7, 8] [AV.str [], AV.ptr 0 0, AV.str cut, AV.bool is, AV.bool false] [LObj.boxT none [AV.str ap, AV.list RR zr]])))) Tr.no)) Tr.no) (Tr.ret (Sum.inr (Ex.exit 0, stOf [6, 7] [AV.str cut, AV.bool is] [])))) (Tr.ret (Sum.inr (Ex.exit 0, stOf [6, 7] [AV.str cut, AV.bool is] [])))
set_option maxRecDepth 1000000 in
theorem round17 (lp : Lp) (n : List UInt8) (cut : List UInt8) (is : Bool) (ok : Bool) (ap : List UInt8) (zr : List (List UInt8 × (Int × (Int × (Int × List UInt8))))) : evC T0 (orcB [fs31w, fs42w, fs43w] []) lp b17 0 (stOf [1, 2, 6, 7, 8] [.str n, .ptr 0 0, .str cut, .bool is, .bool ok] [.box [.str ap, .list RR zr]]) (roundK [1, 2, 6, 7, 8] [6, 7] 0) = (r17 n cut is ok ap zr).get := by kernel_rfl
theorem wf17 (ap : List UInt8) (zr : List (List UInt8 × (Int × (Int × (Int × List UInt8))))) (I'' : List UInt8 → List UInt8 → Bool → Bool → Prop) (m'' : List UInt8 → List UInt8 → Bool → Bool → Nat) (r'' : Ex × St) (h : ∀ (n : List UInt8) (cut : List UInt8) (is : Bool) (ok : Bool), I'' n cut is ok → (r17 n cut is ok ap zr).all fun x'' => x'' = .inr r'' ∨ ∃ (n' : List UInt8) (cut' : List UInt8) (is' : Bool) (ok' : Bool), x'' = .inl (stOf [1, 2, 6, 7, 8] [.str n', .ptr 0 0, .str cut', .bool is', .bool ok'] [.box [.str ap, .list RR zr]]) ∧ I'' n' cut' is' ok' ∧ m'' n' cut' is' ok' < m'' n cut is ok) (lp : Lp) (n : List UInt8) (cut : List UInt8) (is : Bool) (ok : Bool) : I'' n cut is ok →
    loopF (fun st => evC T0 (orcB [fs31w, fs42w, fs43w] []) lp b17 0 st (roundK [1, 2, 6, 7, 8] [6, 7] 0)) (stOf [1, 2, 6, 7, 8] [.str n, .ptr 0 0, .str cut, .bool is, .bool ok] [.box [.str ap, .list RR zr]]) = some r'' :=
  loop_tr (fun a'' : List UInt8 × List UInt8 × Bool × Bool => stOf [1, 2, 6, 7, 8] [.str a''.1, .ptr 0 0, .str a''.2.1, .bool a''.2.2.1, .bool a''.2.2.2] [.box [.str ap, .list RR zr]]) (fun a'' => I'' a''.1 a''.2.1 a''.2.2.1 a''.2.2.2) (fun a'' => m'' a''.1 a''.2.1 a''.2.2.1 a''.2.2.2) r'' (fun a'' => r17 a''.1 a''.2.1 a''.2.2.1 a''.2.2.2 ap zr)
    (fun a'' x hx => (round17 lp a''.1 a''.2.1 a''.2.2.1 a''.2.2.2 ap zr).trans hx) (fun a'' ha => Tr.all_mono (fun x'' hx => hx.imp id fun ⟨n', cut', is', ok', h1, h2, h3⟩ => ⟨(n', cut', is', ok'), h1, h2, h3⟩) (h (a''.1) (a''.2.1) (a''.2.2.1) (a''.2.2.2) ha)) (n, cut, is, ok)
def resC (o : Option (List UInt8)) (p : List UInt8 × Bool) : List UInt8 × Bool := match o with | some c => (c, true) | none => p
theorem resC_none (o : Option (List UInt8)) : resC o ([], false) = (o.getD [], o.isSome) := by cases o <;> rfl
theorem und_step {n ap : List UInt8} (h : undV n ap = true) (hne : n ≠ ap) : mayV n = true ∧ n ≠ [0] ∧ n ≠ [] ∧ undV (tlN n) ap = true := by
  unfold undV at h
  rw [Bool.and_eq_true, Bool.and_eq_true] at h
  obtain ⟨h1, h2, h3⟩ := h
  rw [sufB, if_neg hne] at h3
  have hn := may_ne h2
  by_cases h0 : n = [0]
  · rw [dif_pos (.inr h0)] at h3; cases h3
  · rw [dif_neg (by simp [hn, h0])] at h3
    refine ⟨h2, h0, hn, ?_⟩
    unfold undV
    rw [h1, may_tl h2 h0, h3]
    rfl
theorem cutW_step {z : ZNt} {n : List UInt8} (h1 : n ≠ z.1) (h2 : n ≠ []) (h3 : n ≠ [0]) (p : List UInt8 × Bool) : resC (cutW z n) p = resC (cutW z (tlN n)) (if cutB2 z n = true then (n, true) else p) := by
  rw [cutW, if_neg h1, dif_neg (by simp [h2, h3])]
  cases cutW z (tlN n) with
  | some c => rfl
  | none => by_cases hb : cutB2 z n = true <;> simp [resC, hb]
theorem cutB2_dec (z : ZNt) (n : List UInt8) : decide (((ofV z n 2).length : Int) > 0) = cutB2 z n := by
  unfold cutB2
  cases ofV z n 2 <;> simp
def cuI (ap : List UInt8) (zr : List RRt) (n0 n cut : List UInt8) (is ok : Bool) : Prop :=
  (undV n0 ap = false ∧ ok = false ∧ cut = [] ∧ is = false) ∨ (undV n0 ap = true ∧ ok = true ∧ undV n ap = true ∧ n.length ≤ 1000000 ∧ resC (cutW (ap, zr) n) (cut, is) = resC (cutW (ap, zr) n0) ([], false))
theorem loop17 : ls17.Ok T0 (orcB [fs31w, fs42w, fs43w] []) h17 0 0 b17 := by
  intro q'' hq'' x'' y'' r'' h
  obtain ⟨(n : List UInt8), (cut : List UInt8), (is : Bool), (ok : Bool), _⟩ := x''
  obtain ⟨⟨(ap : List UInt8), (zr : List (List UInt8 × (Int × (Int × (Int × List UInt8))))), _⟩, _⟩ := y''
  obtain ⟨hc, rfl⟩ := Tr.get_on h
  show loopF (fun st => evC T0 (orcB [fs31w, fs42w, fs43w] []) (lpN T0 (orcB [fs31w, fs42w, fs43w] []) h17 0 q'') b17 0 st (roundK [1, 2, 6, 7, 8] [6, 7] 0)) (stOf [1, 2, 6, 7, 8] [.str n, .ptr 0 0, .str cut, .bool is, .bool ok] [.box [.str ap, .list RR zr]]) = some (.exit 0, stOf [6, 7] ([.str (bif undV n ap then (cutW (ap, zr) n).getD [] else []), .bool (undV n ap && (cutW (ap, zr) n).isSome)]) ([]))
  simp only [cuC, Bool.and_eq_true, beq_iff_eq, List.isEmpty_iff, Bool.not_eq_true'] at hc
  obtain ⟨hz, hn, rfl, rfl, rfl⟩ := hc
  have hn := smN_iff.1 hn
  refine wf17 ap zr (cuI ap zr n) (fun n _ _ _ => n.length) _ ?_ _ n [] false (undV n ap) (by
    cases hu : undV n ap with
    | false => exact .inl ⟨hu, rfl, rfl, rfl⟩
    | true => exact .inr ⟨hu, rfl, hu, hn, rfl⟩)
  rintro n' cut is ok hI
  unfold r17
  rcases hI with ⟨h1, rfl, rfl, rfl⟩ | ⟨h1, rfl, h2, h3, he⟩
  · refine Tr.all_f rfl (Tr.all_ret (.inl ?_))
    rw [h1]
    rfl
  · rw [h1]
    rw [resC_none] at he
    by_cases hq : n' = ap
    · refine Tr.all_t rfl (Tr.all_f (by simpa using hq) (Tr.all_ret (.inl ?_)))
      rw [cutW, if_pos hq] at he
      simp only [resC, Prod.mk.injEq] at he
      rw [he.1, he.2]
      rfl
    · obtain ⟨s1, s2, s3, s4⟩ := und_step h2 hq
      have hlt := tlN_lt s3
      rw [cutW_step hq s3 s2] at he
      rw [cutB2_dec]
      refine Tr.all_t rfl (Tr.all_t (by simpa using hq) (Tr.all_t hz (Tr.all_br (fun hb => Tr.all_t (len_big (by omega)) (Tr.all_t (by rw [s1]; simpa using s2) (Tr.all_ret (.inr ?_)))) fun hb => Tr.all_t (len_big (by omega)) (Tr.all_t (by rw [s1]; simpa using s2) (Tr.all_ret (.inr ?_))))))
      · rw [if_pos hb] at he
        exact ⟨_, _, _, _, rfl, .inr ⟨h1, rfl, s4, by omega, by rw [resC_none]; exact he⟩, hlt⟩
      · rw [if_neg (by rw [hb]; simp)] at he
        exact ⟨_, _, _, _, rfl, .inr ⟨h1, rfl, s4, by omega, by rw [resC_none]; exact he⟩, hlt⟩
def t17 (z : (List UInt8 × List (List UInt8 × (Int × (Int × (Int × List UInt8)))))) (n : List UInt8) : Tr Res := Tr.br (smN n && smN (Prod.fst z)) (Tr.br (cuC (Prod.fst z) (Prod.snd z) n ([]) false (undV n (Prod.fst z))) (Tr.ret ([AV.str (bif undV n (Prod.fst z) then Option.getD (cutW z n) [] else []), AV.bool (undV n (Prod.fst z) && Option.isSome (cutW z n))], [])) Tr.no) Tr.no
def os17 : OSpec := { f := 17, sh := [.d ZN true, .d .str false], so := [], F := fun (z, n, _) _ => t17 z n }
set_option maxRecDepth 1000000 in
theorem fn17 (z : (List UInt8 × List (List UInt8 × (Int × (Int × (Int × List UInt8)))))) (n : List UInt8) : evC T0 (orcB [fs31w, fs42w, fs43w] []) (lpOf h17 0 (lsOf [ls17])) c17 1000000 (startSt [AV.ofTy ZN z true, .str n] [] Try.f17.ntmps) (finishK T0 false 0 Try.f17) = (t17 z n).get := by kernel_rfl
theorem ok17 : os17.Ok Try.prog := by
  refine os_ok mixed0 tab0 (orcB_sound (all_cons okf31w (all_cons okf42w (all_cons okf43w all_nil))) all_nil) h17 (d := 0) (n0 := 0) (S := lsOf [ls17]) Try.func17 (by kernel_rfl) (c := c17) (by kernel_rfl) rfl (loops_eq (xs := [(0, b17)]) (by kernel_rfl) (all_cons (ls_here loop17) all_nil)) (by omega) (by kernel_rfl) ?_
  intro x'' y'' q'' hq''
  obtain ⟨(z : (List UInt8 × List (List UInt8 × (Int × (Int × (Int × List UInt8)))))), (n : List UInt8), _⟩ := x''
  exact (fn17 z n).trans hq''
def fs17 : FSpec := fsT 17 [(ZN, true), (.str, false)] [(.str, false), (.bool, false)] fun (z, n, _) => t17 z n
theorem okf17 : fs17.Ok Try.prog := fsT_ok fun x'' r'' hr'' => ok17 x'' () r'' hr''
def cutV (z : ZNt) (n : List UInt8) : List UInt8 × Bool := bif undV n z.1 then resC (cutW z n) ([], false) else ([], false)
def fs17w : FSpec := fs17.like fun (z, n, _) => .on (smZ z && smN n) ((cutV z n).1, (cutV z n).2, ())
theorem okf17w : fs17w.Ok Try.prog := by
  refine flike_ok okf17 _ ?_
  rintro ⟨(z : ZNt), (n : List UInt8), _⟩ y h
  obtain ⟨hb, rfl⟩ := Tr.get_on h
  obtain ⟨hz, hn⟩ := Bool.and_eq_true_iff.1 (show (smZ z && smN n) = true from hb)
  obtain ⟨z1, z2⟩ := smZ_iff.1 hz
  refine convR_of (vs := [.str (cutV z n).1, .bool (cutV z n).2]) rfl rfl (Tr.get_of_all ?_)
  show (t17 z n).all _
  unfold t17
  refine Tr.all_t (by rw [hn, z1]; rfl) (Tr.all_t ?_ (Tr.all_ret ?_))
  · unfold cuC
    rw [show smZ (z.1, z.2) = true from hz, hn]
    simp
  · unfold cutV
    rw [resC_none]
    cases undV n z.1 <;> rfl
def cutR (z : ZNt) (zl : List (List UInt8)) : List (List UInt8) → Option (List UInt8)
  | [] => none
  | x :: xs => if x :: xs = zl then none else match cutR z zl xs with | some c => some c | none => if cutB2 z (joinV (x :: xs)) = true then some (joinV (x :: xs)) else none
theorem cutR_own (z : ZNt) (zl : List (List UInt8)) : cutR z zl zl = none := by
  cases zl with
  | nil => rfl
  | cons x xs => rw [cutR, if_pos rfl]
theorem cutW_R {z : ZNt} (hz : rootV z.1 = true) : ∀ (m : Nat) (n : List UInt8), n.length = m → rootV n = true → cutW z n = cutR z (labsV z.1) (labsV n) := by
  intro m
  induction m using Nat.strongRecOn with
  | ind m ih =>
    intro n hm hn
    rw [cutW]
    by_cases hq : n = z.1
    · rw [if_pos hq, hq, cutR_own]
    · rw [if_neg hq]
      by_cases h0 : n = [0]
      · rw [dif_pos (.inr h0), h0, labs_root]
        rfl
      · rcases root_cases hn with rfl | ⟨_, hne, _, _, _, hr⟩
        · exact absurd rfl h0
        rw [dif_neg (by simp [hne, h0]), ih (tlN n).length (by have := tlN_lt hne; omega) (tlN n) rfl hr]
        have hlq : labsV n ≠ labsV z.1 := fun e => hq (labs_inj hn hz e)
        have hj := join_labs _ n rfl hn
        rw [labs_next hn h0] at hlq hj ⊢
        rw [cutR, if_neg hlq, hj]
theorem cutR_mono {z : ZNt} {zl : List (List UInt8)} {c : List UInt8} : ∀ (l : List (List UInt8)) (j : Nat), j + zl.length < l.length + 1 → cutR z zl (l.drop j) = some c → cutR z zl l = some c
  | [], j, _, h => by rw [List.drop_nil] at h; exact h
  | x :: xs, 0, _, h => h
  | x :: xs, j + 1, hl, h => by
    rw [List.drop_succ_cons] at h
    rw [List.length_cons] at hl
    have := cutR_mono xs j (by omega) h
    rw [cutR, if_neg (fun e => by rw [← e, List.length_cons] at hl; omega), this]
def rcC (ap : List UInt8) (zr : List RRt) (l : List (List UInt8)) (k : Int) : Bool := smZ (ap, zr) && (joK l && (mayV ap && (sfxB l (labsV ap) && decide (k = ((labsV ap).length : Int) + 1))))
theorem joL_drop {l : List (List UInt8)} (j : Nat) : (joL (l.drop j)).length ≤ (joL l).length := by
  have := List.take_append_drop j l
  have h : joL l = joL (l.take j) ++ joL (l.drop j) := by
    conv => lhs; rw [← this]
    unfold joL
    rw [List.map_append, List.flatten_append]
  rw [h, List.length_append]
  omega
theorem joK_drop {l : List (List UInt8)} (h : joK l = true) (j : Nat) : joK (l.drop j) = true := by
  unfold joK at h ⊢
  rw [Bool.and_eq_true, Bool.and_eq_true, List.all_eq_true] at h ⊢
  obtain ⟨h1, h2, h3⟩ := h
  have h2 := Nat.le_of_ble_eq_true h2
  have h3 := Nat.le_of_ble_eq_true h3
  refine ⟨fun x hx => h1 x (List.mem_of_mem_drop hx), Nat.ble_eq_true_of_le (by rw [List.length_drop]; omega), Nat.ble_eq_true_of_le (by have := joL_drop (l := l) j; omega)⟩
noncomputable def b18 : Code := nthLoop c18 0
def ls18 : LoopSpec := { bid := 0, sh := [.ptr 0 0, .d (.list .str) false, .d (.int .i64) false], so := [.box [.d .str false, .d (.list RR) false]], F := fun (l, k, _) ((ap, zr, _), _) => .on2 (rcC ap zr l k) ((cutR (ap, zr) (labsV ap) l).isNone) (.exit 0, [.dead, .dead], []) (.ret, [.str ((cutR (ap, zr) (labsV ap) l).getD []), .bool true], []) }
def r18 (l : List (List UInt8)) (k : Int) (ap : List UInt8) (zr : List (List UInt8 × (Int × (Int × (Int × List UInt8))))) : Tr (St ⊕ (Ex × St)) := Tr.br (decide (k ≤ (↑(List.length l) : Int))) (Tr.br (decide ((0 : Int) ≤ (↑(List.length l) : Int)) && decide ((↑(List.length l) : Int) ≤ (↑(List.length l) : Int))) (Tr.br (decide ((0 : Int) ≤ IntKind.wrap IntKind.i64 ((↑(List.length l) : Int) - k)) && decide (IntKind.wrap IntKind.i64 ((↑(List.length l) : Int) - k) ≤ (↑(List.length l) : Int))) (Tr.br (joK (List.take (Int.toNat (↑(List.length l) : Int) - Int.toNat (IntKind.wrap IntKind.i64 ((↑(List.length l) : Int) - k))) (List.drop (Int.toNat (IntKind.wrap IntKind.i64 ((↑(List.length l) : Int) - k))) l))) (Tr.br (smZ (ap, zr)) (Tr.br (decide ((↑(List.length (ofV (ap, zr) (joinV (List.take (Int.toNat (↑(List.length l) : Int) - Int.toNat (IntKind.wrap IntKind.i64 ((↑(List.length l) : Int) - k))) (List.drop (Int.toNat (IntKind.wrap IntKind.i64 ((↑(List.length l) : Int) - k))) l))) (2 : Int))) : Int) > (0 : Int))) (Tr.ret (Sum.inr (Ex.ret, stOf [4, 5] [AV.str (joinV (List.take (Int.toNat (↑(List.length l) : Int) - Int.toNat (IntKind.wrap IntKind.i64 ((↑(List.length l) : Int) - k))) (List.drop (Int.toNat (IntKind.wrap IntKind.i64 ((↑(List.length l) : Int) - k))) l))), AV.bool true] []))) (Tr.ret (Sum.inl (stOf [2, 6, 8] [AV.ptr 0 0, AV.list Ty.str l, AV.int IntKind.i64 (IntKind.wrap IntKind.i64 (k + (1 : Int)))] [LObj.boxT none [AV.str ap, AV.list RR zr]])))) Tr.no) Tr.no) Tr.no) Tr.no) (Tr.ret (Sum.inr (Ex.exit 0, stOf [4, 5] [AV.dead, AV.dead] [])))
set_option maxRecDepth 1000000 in
theorem round18 (lp : Lp) (l : List (List UInt8)) (k : Int) (ap : List UInt8) (zr : List (List UInt8 × (Int × (Int × (Int × List UInt8))))) : evC T0 (orcB [fs44w, fs45v, fs46w, fs47w, fs48w] []) lp b18 0 (stOf [2, 6, 8] [.ptr 0 0, .list .str l, .int .i64 k] [.box [.str ap, .list RR zr]]) (roundK [2, 6, 8] [4, 5] 0) = (r18 l k ap zr).get := by kernel_rfl
theorem wf18 (l : List (List UInt8)) (ap : List UInt8) (zr : List (List UInt8 × (Int × (Int × (Int × List UInt8))))) (I'' : Int → Prop) (m'' : Int → Nat) (r'' : Ex × St) (h : ∀ (k : Int), I'' k → (r18 l k ap zr).all fun x'' => x'' = .inr r'' ∨ ∃ (k' : Int), x'' = .inl (stOf [2, 6, 8] [.ptr 0 0, .list .str l, .int .i64 k'] [.box [.str ap, .list RR zr]]) ∧ I'' k' ∧ m'' k' < m'' k) (lp : Lp) (k : Int) : I'' k →
    loopF (fun st => evC T0 (orcB [fs44w, fs45v, fs46w, fs47w, fs48w] []) lp b18 0 st (roundK [2, 6, 8] [4, 5] 0)) (stOf [2, 6, 8] [.ptr 0 0, .list .str l, .int .i64 k] [.box [.str ap, .list RR zr]]) = some r'' :=
  loop_tr (fun a'' : Int => stOf [2, 6, 8] [.ptr 0 0, .list .str l, .int .i64 a''] [.box [.str ap, .list RR zr]]) (fun a'' => I'' a'') (fun a'' => m'' a'') r'' (fun a'' => r18 l a'' ap zr)
    (fun a'' x hx => (round18 lp l a'' ap zr).trans hx) (fun a'' ha => Tr.all_mono (fun x'' hx => hx.imp id fun ⟨k', h1, h2, h3⟩ => ⟨(k'), h1, h2, h3⟩) (h (a'') ha)) (k)
theorem tk_all {α : Type} (l : List α) (a : Int) : List.take (Int.toNat (l.length : Int) - Int.toNat a) (List.drop (Int.toNat a) l) = l.drop a.toNat := by
  rw [Int.toNat_natCast]
  exact List.take_of_length_le (by rw [List.length_drop]; omega)
theorem loop18 : ls18.Ok T0 (orcB [fs44w, fs45v, fs46w, fs47w, fs48w] []) h18 0 0 b18 := by
  intro q'' hq'' x'' y'' r'' h
  obtain ⟨(l : List (List UInt8)), (k : Int), _⟩ := x''
  obtain ⟨⟨(ap : List UInt8), (zr : List (List UInt8 × (Int × (Int × (Int × List UInt8))))), _⟩, _⟩ := y''
  obtain ⟨hc, rfl⟩ := Tr.get_on2 h
  show loopF (fun st => evC T0 (orcB [fs44w, fs45v, fs46w, fs47w, fs48w] []) (lpN T0 (orcB [fs44w, fs45v, fs46w, fs47w, fs48w] []) h18 0 q'') b18 0 st (roundK [2, 6, 8] [4, 5] 0)) (stOf [2, 6, 8] [.ptr 0 0, .list .str l, .int .i64 k] [.box [.str ap, .list RR zr]]) = some ((bif (cutR (ap, zr) (labsV ap) l).isNone then (.exit 0, [.dead, .dead], []) else (.ret, [.str ((cutR (ap, zr) (labsV ap) l).getD []), .bool true], []) : Ex × List AV × List LObj).1, stOf [4, 5] (bif (cutR (ap, zr) (labsV ap) l).isNone then (.exit 0, [.dead, .dead], []) else (.ret, [.str ((cutR (ap, zr) (labsV ap) l).getD []), .bool true], []) : Ex × List AV × List LObj).2.1 (bif (cutR (ap, zr) (labsV ap) l).isNone then (.exit 0, [.dead, .dead], []) else (.ret, [.str ((cutR (ap, zr) (labsV ap) l).getD []), .bool true], []) : Ex × List AV × List LObj).2.2)
  simp only [rcC, Bool.and_eq_true, decide_eq_true_eq] at hc
  obtain ⟨hz, hj, hap, hs, rfl⟩ := hc
  obtain ⟨hs1, hs2⟩ := show (labsV ap).length ≤ l.length ∧ l.drop (l.length - (labsV ap).length) = labsV ap by
    unfold sfxB at hs
    simpa using hs
  have hl : l.length ≤ 1000 := by
    unfold joK at hj
    rw [Bool.and_eq_true, Bool.and_eq_true] at hj
    exact Nat.le_of_ble_eq_true hj.2.1
  generalize labsV ap = zl at *
  refine wf18 l ap zr (fun k => (zl.length : Int) + 1 ≤ k ∧ k ≤ l.length + 1 ∧ cutR (ap, zr) zl (l.drop (l.length + 1 - k.toNat)) = none) (fun k => (l.length + 1 - k).toNat) _ ?_ _ _ ⟨by omega, by omega, by rw [show l.length + 1 - (((zl.length : Int) + 1).toNat) = l.length - zl.length by omega, hs2]; exact cutR_own _ _⟩
  rintro k ⟨h0, h1, he⟩
  unfold r18
  by_cases hi : k ≤ l.length
  · rw [IntWalk.i64_in ((l.length : Int) - k) (by omega), tk_all, show ((l.length : Int) - k).toNat = l.length - k.toNat by omega, cutB2_dec (ap, zr), IntWalk.i64_in (k + 1) (by omega)]
    have hD : l.drop (l.length - k.toNat) = l.getD (l.length - k.toNat) [] :: l.drop (l.length + 1 - k.toNat) := by
      rw [drop_cons2 (by omega) [], show l.length - k.toNat + 1 = l.length + 1 - k.toNat by omega]
    have hlen : (l.drop (l.length - k.toNat)).length = k.toNat := by rw [List.length_drop]; omega
    have hR : cutR (ap, zr) zl (l.drop (l.length - k.toNat)) = if cutB2 (ap, zr) (joinV (l.drop (l.length - k.toNat))) = true then some (joinV (l.drop (l.length - k.toNat))) else none := by
      rw [hD] at hlen ⊢
      rw [cutR, if_neg (fun e => by rw [e] at hlen; omega), he]
    refine Tr.all_t (dec_true hi) (Tr.all_t (by rw [dec_true (by omega), dec_true (by omega)]; rfl) (Tr.all_t (by rw [dec_true (by omega), dec_true (by omega)]; rfl) (Tr.all_t (joK_drop hj _) (Tr.all_t hz (Tr.all_br (fun hb => Tr.all_ret (.inl ?_)) fun hb => Tr.all_ret (.inr ?_))))))
    · rw [if_pos hb] at hR
      rw [cutR_mono l _ (by omega) hR]
      rfl
    · rw [if_neg (by rw [hb]; simp)] at hR
      exact ⟨_, rfl, ⟨by omega, by omega, by rw [show l.length + 1 - (k + 1).toNat = l.length - k.toNat by omega]; exact hR⟩, by omega⟩
  · refine Tr.all_f (dec_false hi) (Tr.all_ret (.inl ?_))
    rw [show l.length + 1 - k.toNat = 0 by omega, List.drop_zero] at he
    rw [he]
    rfl
theorem labs_low : ∀ (m : Nat) (n : List UInt8), n.length = m → rootV n = true → isLow n → ∀ x ∈ labsV n, 1 ≤ x.length ∧ x.length ≤ 63 ∧ foldB x = x := by
  intro m
  induction m using Nat.strongRecOn with
  | ind m ih =>
    intro n hm h hlow
    by_cases h0 : n = [0]
    · subst h0; rw [labs_root]; intro x hx; cases hx
    · rcases root_cases h with rfl | ⟨_, hne, hlt, h63, hn0, hr⟩
      · exact absurd rfl h0
      have hs : isLow (hdN n ++ tlN n) := by
        unfold hdN tlN
        rw [List.take_append_drop]
        exact hlow
      obtain ⟨l1, l2⟩ := isLow_app.1 hs
      have hlen := hdN_len (n := n) (by omega)
      rw [labs_next h h0]
      intro x hx
      rcases List.mem_cons.1 hx with rfl | hx
      · refine ⟨by rw [List.length_tail]; omega, by rw [List.length_tail]; omega, ?_⟩
        cases hd : hdN n with
        | nil => rw [hd] at hlen; simp at hlen; omega
        | cons c t =>
          rw [hd] at l1
          have : isLow ([c] ++ t) := l1
          exact (isLow_app.1 this).2
      · exact ih (tlN n).length (by have := tlN_lt hne; omega) (tlN n) rfl hr l2 x hx
theorem joK_may {n : List UInt8} (h : mayV n = true) : joK (labsV n) = true := by
  obtain ⟨h1, h2, h3⟩ := may_iff.1 h
  have hj := join_labs _ n rfl h1
  have hl := labs_len _ n rfl h1
  unfold joK
  rw [Bool.and_eq_true, Bool.and_eq_true, List.all_eq_true]
  refine ⟨fun x hx => ?_, Nat.ble_eq_true_of_le (by omega), Nat.ble_eq_true_of_le ?_⟩
  · obtain ⟨a, b, c⟩ := labs_low _ n rfl h1 h3 x hx
    rw [dec_true a, dec_true b, c]
    simp
  · rw [← hj, joinV_eq, List.length_append, List.length_singleton] at h2
    omega
def t18 (z : (List UInt8 × List (List UInt8 × (Int × (Int × (Int × List UInt8)))))) (n : List UInt8) : Tr Res := Tr.br (smN n && smN (Prod.fst z)) (Tr.br (!undV n (Prod.fst z)) (Tr.ret ([AV.str [], AV.bool false], [])) (Tr.br (bigS n) (Tr.br (rootV n) (Tr.br (decide (List.length n > 255)) (Tr.br (bigS (Prod.fst z)) (Tr.br (rcC (Prod.fst z) (Prod.snd z) [] (IntKind.wrap IntKind.i64 (depV (Prod.fst z) + (1 : Int)))) (Tr.ret ([AV.str [], AV.bool false], [])) Tr.no) Tr.no) (Tr.br (bigS (Prod.fst z)) (Tr.br (rcC (Prod.fst z) (Prod.snd z) (labsV n) (IntKind.wrap IntKind.i64 (depV (Prod.fst z) + (1 : Int)))) (Tr.br (Option.isNone (cutR z (labsV (Prod.fst z)) (labsV n))) (Tr.ret ([AV.str [], AV.bool false], [])) (Tr.ret ([AV.str (Option.getD (cutR z (labsV (Prod.fst z)) (labsV n)) []), AV.bool true], []))) Tr.no) Tr.no)) (Tr.br (bigS (Prod.fst z)) (Tr.br (rcC (Prod.fst z) (Prod.snd z) [] (IntKind.wrap IntKind.i64 (depV (Prod.fst z) + (1 : Int)))) (Tr.ret ([AV.str [], AV.bool false], [])) Tr.no) Tr.no)) Tr.no)) Tr.no
def os18 : OSpec := { f := 18, sh := [.d ZN true, .d .str false], so := [], F := fun (z, n, _) _ => t18 z n }
set_option maxRecDepth 1000000 in
theorem fn18 (z : (List UInt8 × List (List UInt8 × (Int × (Int × (Int × List UInt8)))))) (n : List UInt8) : evC T0 (orcB [fs44w, fs45v, fs46w, fs47w, fs48w] []) (lpOf h18 0 (lsOf [ls18])) c18 1000000 (startSt [AV.ofTy ZN z true, .str n] [] Try.f18.ntmps) (finishK T0 false 0 Try.f18) = (t18 z n).get := by kernel_rfl
theorem ok18 : os18.Ok Try.prog := by
  refine os_ok mixed0 tab0 (orcB_sound (all_cons okf44w (all_cons okf45v (all_cons okf46w (all_cons okf47w (all_cons okf48w all_nil))))) all_nil) h18 (d := 0) (n0 := 0) (S := lsOf [ls18]) Try.func18 (by kernel_rfl) (c := c18) (by kernel_rfl) rfl (loops_eq (xs := [(0, b18)]) (by kernel_rfl) (all_cons (ls_here loop18) all_nil)) (by omega) (by kernel_rfl) ?_
  intro x'' y'' q'' hq''
  obtain ⟨(z : (List UInt8 × List (List UInt8 × (Int × (Int × (Int × List UInt8)))))), (n : List UInt8), _⟩ := x''
  exact (fn18 z n).trans hq''
def fs18 : FSpec := fsT 18 [(ZN, true), (.str, false)] [(.str, false), (.bool, false)] fun (z, n, _) => t18 z n
theorem okf18 : fs18.Ok Try.prog := fsT_ok fun x'' r'' hr'' => ok18 x'' () r'' hr''
theorem cutV_R {z : ZNt} {n : List UInt8} (h : undV n z.1 = true) : cutV z n = resC (cutR z (labsV z.1) (labsV n)) ([], false) := by
  unfold cutV
  rw [h, cond_true]
  unfold undV at h
  rw [Bool.and_eq_true, Bool.and_eq_true] at h
  rw [cutW_R (may_iff.1 h.1).1 _ n rfl (may_iff.1 h.2.1).1]
def fs18w : FSpec := fs18.like fun (z, n, _) => .on (smZ z && smN n) ((cutV z n).1, (cutV z n).2, ())
theorem okf18w : fs18w.Ok Try.prog := by
  refine flike_ok okf18 _ ?_
  rintro ⟨(z : ZNt), (n : List UInt8), _⟩ y h
  obtain ⟨hb, rfl⟩ := Tr.get_on h
  obtain ⟨hz, hn⟩ := Bool.and_eq_true_iff.1 (show (smZ z && smN n) = true from hb)
  obtain ⟨z1, z2⟩ := smZ_iff.1 hz
  refine convR_of (vs := [.str (cutV z n).1, .bool (cutV z n).2]) rfl rfl (Tr.get_of_all ?_)
  show (t18 z n).all _
  unfold t18
  refine Tr.all_t (by rw [hn, z1]; rfl) ?_
  cases hu : undV n z.1 with
  | false =>
    have : cutV z n = ([], false) := by unfold cutV; rw [hu]; rfl
    rw [this]
    exact Tr.all_t rfl (Tr.all_ret rfl)
  | true =>
    rw [cutV_R hu]
    rw [und_sfx, Bool.and_eq_true, Bool.and_eq_true] at hu
    obtain ⟨u1, u2, u3⟩ := hu
    obtain ⟨n1, n2, n3⟩ := may_iff.1 u1
    obtain ⟨y1, y2, y3⟩ := may_iff.1 u2
    have hlz := labs_len _ z.1 rfl y1
    have hd : IntKind.wrap IntKind.i64 (depV z.1 + 1) = ((labsV z.1).length : Int) + 1 := by
      rw [depV_may u2, IntWalk.i64_in _ (by omega)]
    rw [hd]
    have hc : rcC z.1 z.2 (labsV n) (((labsV z.1).length : Int) + 1) = true := by
      unfold rcC
      rw [show smZ (z.1, z.2) = true from hz, joK_may u1, u2, u3, decide_eq_true rfl]
      rfl
    refine Tr.all_f rfl (Tr.all_t (smN_big hn) (Tr.all_t n1 (Tr.all_f (dec_false (by omega)) (Tr.all_t (smN_big z1) (Tr.all_t hc ?_)))))
    cases cutR z (labsV z.1) (labsV n) with
    | none => exact Tr.all_t rfl (Tr.all_ret rfl)
    | some c => exact Tr.all_f rfl (Tr.all_ret rfl)
end Go.Proofs.YtkobjdhbfepkaaaE
namespace Go.Proofs.YtkobjdhbfepkaaaE
open Go Go.Proofs.YtkobjdhbfepkaaaB
set_option linter.unusedVariables false
set_option linter.unusedSimpArgs false
set_option maxRecDepth 100000
def t55 (m : (Int × (Bool × (Bool × (Bool × (Bool × (Bool × (Int × (Int × (List (List UInt8 × (Int × Int)) × (List (List UInt8 × (Int × (Int × (Int × List UInt8)))) × (List (List UInt8 × (Int × (Int × (Int × List UInt8)))) × List (List UInt8 × (Int × (Int × (Int × List UInt8)))))))))))))))) (rc : Int) : Tr Res := Tr.ret ([AV.agg [AV.int IntKind.u16 (Prod.fst m), AV.bool true, AV.bool false, AV.bool false, AV.bool (Prod.fst (Prod.snd (Prod.snd (Prod.snd (Prod.snd m))))), AV.bool true, AV.int IntKind.i64 (Prod.fst (Prod.snd (Prod.snd (Prod.snd (Prod.snd (Prod.snd (Prod.snd m))))))), AV.int IntKind.i64 rc, AV.list QQ (Prod.fst (Prod.snd (Prod.snd (Prod.snd (Prod.snd (Prod.snd (Prod.snd (Prod.snd (Prod.snd m))))))))), AV.list RR [], AV.list RR [], AV.list RR []]], [])
def os55 : OSpec := { f := 55, sh := [.d MG true, .d (.int .i64) false], so := [], F := fun (m, rc, _) _ => t55 m rc }
set_option maxRecDepth 1000000 in
theorem fn55 (m : (Int × (Bool × (Bool × (Bool × (Bool × (Bool × (Int × (Int × (List (List UInt8 × (Int × Int)) × (List (List UInt8 × (Int × (Int × (Int × List UInt8)))) × (List (List UInt8 × (Int × (Int × (Int × List UInt8)))) × List (List UInt8 × (Int × (Int × (Int × List UInt8)))))))))))))))) (rc : Int) : evC T0 (orcB [] []) (lpOf h55 0 (lsOf [])) c55 1000000 (startSt [AV.ofTy MG m true, .int .i64 rc] [] Try.f55.ntmps) (finishK T0 false 0 Try.f55) = (t55 m rc).get := by kernel_rfl
theorem ok55 : os55.Ok Try.prog := by
  refine os_ok mixed0 tab0 (orcB_sound all_nil all_nil) h55 (d := 0) (n0 := 0) (S := lsOf []) Try.func55 (by kernel_rfl) (c := c55) (by kernel_rfl) rfl (no_loops (by kernel_rfl)) (by omega) (by kernel_rfl) ?_
  intro x'' y'' q'' hq''
  obtain ⟨(m : (Int × (Bool × (Bool × (Bool × (Bool × (Bool × (Int × (Int × (List (List UInt8 × (Int × Int)) × (List (List UInt8 × (Int × (Int × (Int × List UInt8)))) × (List (List UInt8 × (Int × (Int × (Int × List UInt8)))) × List (List UInt8 × (Int × (Int × (Int × List UInt8)))))))))))))))), (rc : Int), _⟩ := x''
  exact (fn55 m rc).trans hq''
def fs55 : FSpec := fsT 55 [(MG, true), ((.int .i64), false)] [(MG, true)] fun (m, rc, _) => t55 m rc
theorem okf55 : fs55.Ok Try.prog := fsT_ok fun x'' r'' hr'' => ok55 x'' () r'' hr''
def t57 (m : (Int × (Bool × (Bool × (Bool × (Bool × (Bool × (Int × (Int × (List (List UInt8 × (Int × Int)) × (List (List UInt8 × (Int × (Int × (Int × List UInt8)))) × (List (List UInt8 × (Int × (Int × (Int × List UInt8)))) × List (List UInt8 × (Int × (Int × (Int × List UInt8)))))))))))))))) (rc : Int) : Tr Res := Tr.ret ([AV.agg [AV.int IntKind.u16 (Prod.fst m), AV.bool true, AV.bool false, AV.bool false, AV.bool (Prod.fst (Prod.snd (Prod.snd (Prod.snd (Prod.snd m))))), AV.bool true, AV.int IntKind.i64 (Prod.fst (Prod.snd (Prod.snd (Prod.snd (Prod.snd (Prod.snd (Prod.snd m))))))), AV.int IntKind.i64 rc, AV.list QQ (Prod.fst (Prod.snd (Prod.snd (Prod.snd (Prod.snd (Prod.snd (Prod.snd (Prod.snd (Prod.snd m))))))))), AV.list RR [], AV.list RR [], AV.list RR []]], [])
def os57 : OSpec := { f := 57, sh := [.d MG true, .d (.int .i64) false], so := [], F := fun (m, rc, _) _ => t57 m rc }
set_option maxRecDepth 1000000 in
theorem fn57 (m : (Int × (Bool × (Bool × (Bool × (Bool × (Bool × (Int × (Int × (List (List UInt8 × (Int × Int)) × (List (List UInt8 × (Int × (Int × (Int × List UInt8)))) × (List (List UInt8 × (Int × (Int × (Int × List UInt8)))) × List (List UInt8 × (Int × (Int × (Int × List UInt8)))))))))))))))) (rc : Int) : evC T0 (orcB [] []) (lpOf h57 0 (lsOf [])) c57 1000000 (startSt [AV.ofTy MG m true, .int .i64 rc] [] Try.f57.ntmps) (finishK T0 false 0 Try.f57) = (t57 m rc).get := by kernel_rfl
theorem ok57 : os57.Ok Try.prog := by
  refine os_ok mixed0 tab0 (orcB_sound all_nil all_nil) h57 (d := 0) (n0 := 0) (S := lsOf []) Try.func57 (by kernel_rfl) (c := c57) (by kernel_rfl) rfl (no_loops (by kernel_rfl)) (by omega) (by kernel_rfl) ?_
  intro x'' y'' q'' hq''
  obtain ⟨(m : (Int × (Bool × (Bool × (Bool × (Bool × (Bool × (Int × (Int × (List (List UInt8 × (Int × Int)) × (List (List UInt8 × (Int × (Int × (Int × List UInt8)))) × (List (List UInt8 × (Int × (Int × (Int × List UInt8)))) × List (List UInt8 × (Int × (Int × (Int × List UInt8)))))))))))))))), (rc : Int), _⟩ := x''
  exact (fn57 m rc).trans hq''
def fs57 : FSpec := fsT 57 [(MG, true), ((.int .i64), false)] [(MG, true)] fun (m, rc, _) => t57 m rc
theorem okf57 : fs57.Ok Try.prog := fsT_ok fun x'' r'' hr'' => ok57 x'' () r'' hr''
def t30 (q : (List UInt8 × (Int × Int))) : Tr Res := Tr.ret ([AV.agg [AV.int IntKind.u16 (9 : Int), AV.bool false, AV.bool false, AV.bool false, AV.bool false, AV.bool false, AV.int IntKind.i64 (0 : Int), AV.int IntKind.i64 (0 : Int), AV.list QQ [(Prod.fst q, Prod.fst (Prod.snd q), Prod.snd (Prod.snd q))], AV.list RR [], AV.list RR [], AV.list RR []]], [])
set_option maxRecDepth 1000000 in
theorem fn30 (q : (List UInt8 × (Int × Int))) : evC T0 (orcB [] []) (lpOf h30 0 (lsOf [])) c30 1000000 (startSt [AV.ofTy QQ q true] [] Try.f30.ntmps) (finishK T0 false 0 Try.f30) = (t30 q).get := by kernel_rfl
def fs30 : FSpec := fsT 30 [(QQ, true)] [(MG, true)] fun (q, _) => t30 q
def maC (l w : List ZNt) (i : Int) : Bool := Nat.ble l.length 1000000 && (w.isEmpty && decide (i = 0))
noncomputable def b16 : Code := nthLoop c16 0
def ls16 : LoopSpec := { bid := 0, sh := [.d (.list ZN) false, .row 0, .d (.int .i64) false], so := [.row ZN], F := fun (l, i, _) (w, _) => .on (maC l w i) (.exit 0, [.rowA 0], [.row ZN l]) }
def r16 (l : List (List UInt8 × List (List UInt8 × (Int × (Int × (Int × List UInt8)))))) (i : Int) (w : List (List UInt8 × List (List UInt8 × (Int × (Int × (Int × List UInt8)))))) : Tr (St ⊕ (Ex × St)) := Tr.br (decide (i < (↑(List.length l) : Int))) (Tr.br (decide ((0 : Int) ≤ i)) (Tr.br (decide (i < (↑(List.length l) : Int))) (Tr.br (decide ((0 : Int) ≤ i)) (Tr.br (decide (i < (↑(List.length l) : Int))) (Tr.br (fits (List.length w + 1) 40) (Tr.ret (Sum.inl (stOf [0, 3, 4] [AV.list ZN l, AV.rowA 0, AV.int IntKind.i64 (IntKind.wrap IntKind.i64 (i + (1 : Int)))] [LObj.row ZN (w ++ [List.getD l (Int.toNat i) (Ty.dflt ZN)])]))) Tr.no) Tr.no) Tr.no) Tr.no) Tr.no) (Tr.ret (Sum.inr (Ex.exit 0, stOf [3] [AV.rowA 0] [LObj.row ZN w])))
set_option maxRecDepth 1000000 in
theorem round16 (orc : Orc) (lp : Lp) (l : List (List UInt8 × List (List UInt8 × (Int × (Int × (Int × List UInt8)))))) (i : Int) (w : List (List UInt8 × List (List UInt8 × (Int × (Int × (Int × List UInt8)))))) : evC T0 orc lp b16 0 (stOf [0, 3, 4] [.list ZN l, .rowA 0, .int .i64 i] [.row ZN w]) (roundK [0, 3, 4] [3] 0) = (r16 l i w).get := by kernel_rfl
theorem wf16 (orc : Orc) (l : List (List UInt8 × List (List UInt8 × (Int × (Int × (Int × List UInt8)))))) (I'' : List (List UInt8 × List (List UInt8 × (Int × (Int × (Int × List UInt8))))) → Int → Prop) (m'' : List (List UInt8 × List (List UInt8 × (Int × (Int × (Int × List UInt8))))) → Int → Nat) (r'' : Ex × St) (h : ∀ (w : List (List UInt8 × List (List UInt8 × (Int × (Int × (Int × List UInt8)))))) (i : Int), I'' w i → (r16 l i w).all fun x'' => x'' = .inr r'' ∨ ∃ (w' : List (List UInt8 × List (List UInt8 × (Int × (Int × (Int × List UInt8)))))) (i' : Int), x'' = .inl (stOf [0, 3, 4] [.list ZN l, .rowA 0, .int .i64 i'] [.row ZN w']) ∧ I'' w' i' ∧ m'' w' i' < m'' w i) (lp : Lp) (w : List (List UInt8 × List (List UInt8 × (Int × (Int × (Int × List UInt8)))))) (i : Int) : I'' w i →
    loopF (fun st => evC T0 orc lp b16 0 st (roundK [0, 3, 4] [3] 0)) (stOf [0, 3, 4] [.list ZN l, .rowA 0, .int .i64 i] [.row ZN w]) = some r'' :=
  loop_tr (fun a'' : List (List UInt8 × List (List UInt8 × (Int × (Int × (Int × List UInt8))))) × Int => stOf [0, 3, 4] [.list ZN l, .rowA 0, .int .i64 a''.2] [.row ZN a''.1]) (fun a'' => I'' a''.1 a''.2) (fun a'' => m'' a''.1 a''.2) r'' (fun a'' => r16 l a''.2 a''.1)
    (fun a'' x hx => (round16 orc lp l a''.2 a''.1).trans hx) (fun a'' ha => Tr.all_mono (fun x'' hx => hx.imp id fun ⟨w', i', h1, h2, h3⟩ => ⟨(w', i'), h1, h2, h3⟩) (h (a''.1) (a''.2) ha)) (w, i)
theorem loop16 (orc : Orc) : ls16.Ok T0 orc h16 0 0 b16 := by
  intro q'' hq'' x'' y'' r'' h
  obtain ⟨(l : List (List UInt8 × List (List UInt8 × (Int × (Int × (Int × List UInt8)))))), (i : Int), _⟩ := x''
  obtain ⟨(w : List (List UInt8 × List (List UInt8 × (Int × (Int × (Int × List UInt8)))))), _⟩ := y''
  obtain ⟨hc, rfl⟩ := Tr.get_on h
  show loopF (fun st => evC T0 orc (lpN T0 orc h16 0 q'') b16 0 st (roundK [0, 3, 4] [3] 0)) (stOf [0, 3, 4] [.list ZN l, .rowA 0, .int .i64 i] [.row ZN w]) = some (.exit 0, stOf [3] ([.rowA 0]) ([.row ZN l]))
  simp only [maC, Bool.and_eq_true, decide_eq_true_eq, List.isEmpty_iff] at hc
  obtain ⟨hl, rfl, rfl⟩ := hc
  have hl := Nat.le_of_ble_eq_true hl
  refine wf16 _ l (fun w i => 0 ≤ i ∧ i ≤ l.length ∧ w ++ l.drop i.toNat = l) (fun w i => (l.length - i).toNat) _ ?_ _ [] 0 ⟨by omega, by omega, rfl⟩
  rintro w i ⟨h0, h1, he⟩
  have hw : w.length ≤ 1000000 := by
    have := congrArg List.length he
    rw [List.length_append] at this
    omega
  unfold r16
  rw [wrap_succ h0 h1 (by omega)]
  by_cases hi : i < l.length
  · rw [drop_cons2 (l := l) (k := i.toNat) (by omega) (Ty.dflt ZN)] at he
    generalize hx : l.getD i.toNat (Ty.dflt ZN) = x at *
    refine Tr.all_t (dec_true hi) (Tr.all_t (dec_true h0) (Tr.all_t (dec_true hi) (Tr.all_t (dec_true h0) (Tr.all_t (dec_true hi) (Tr.all_t (fits_true (by omega) (by omega)) (Tr.all_ret (.inr ⟨_, _, rfl, ⟨by omega, by omega, ?_⟩, by omega⟩)))))))
    rw [show (i + 1).toNat = i.toNat + 1 by omega, List.append_assoc]
    exact he
  · refine Tr.all_f (dec_false hi) (Tr.all_ret (.inl ?_))
    rw [show i.toNat = l.length by omega, List.drop_length, List.append_nil] at he
    rw [he]
def t16 (l : List (List UInt8 × List (List UInt8 × (Int × (Int × (Int × List UInt8)))))) : Tr Res := Tr.br (maC l [] (0 : Int)) (Tr.ret ([AV.list ZN l], [])) Tr.no
def os16 : OSpec := { f := 16, sh := [.d (.list ZN) false], so := [], F := fun (l, _) _ => t16 l }
set_option maxRecDepth 1000000 in
theorem fn16 (l : List (List UInt8 × List (List UInt8 × (Int × (Int × (Int × List UInt8)))))) : evC T0 (orcB [] []) (lpOf h16 0 (lsOf [ls16])) c16 1000000 (startSt [.list ZN l] [] Try.f16.ntmps) (finishK T0 false 0 Try.f16) = (t16 l).get := by kernel_rfl
theorem ok16 : os16.Ok Try.prog := by
  refine os_ok mixed0 tab0 (orcB_sound all_nil all_nil) h16 (d := 0) (n0 := 0) (S := lsOf [ls16]) Try.func16 (by kernel_rfl) (c := c16) (by kernel_rfl) rfl (loops_eq (xs := [(0, b16)]) (by kernel_rfl) (all_cons (ls_here (loop16 _)) all_nil)) (by omega) (by kernel_rfl) ?_
  intro x'' y'' q'' hq''
  obtain ⟨(l : List (List UInt8 × List (List UInt8 × (Int × (Int × (Int × List UInt8)))))), _⟩ := x''
  exact (fn16 l).trans hq''
def fs16 : FSpec := fsT 16 [((.list ZN), false)] [((.list ZN), false)] fun (l, _) => t16 l
theorem okf16 : fs16.Ok Try.prog := fsT_ok fun x'' r'' hr'' => ok16 x'' () r'' hr''
def fs16w : FSpec := fs16.like fun (l, _) => .on (Nat.ble l.length 1000000) (l, ())
theorem okf16w : fs16w.Ok Try.prog := by
  refine flike_ok okf16 _ ?_
  rintro ⟨(l : List ZNt), _⟩ y h
  obtain ⟨hb, rfl⟩ := Tr.get_on h
  refine convR_of (vs := [.list ZN l]) rfl rfl (Tr.get_of_all ?_)
  show (t16 l).all _
  exact Tr.all_t (by unfold maC; rw [show Nat.ble l.length 1000000 = true from hb]; rfl) (Tr.all_ret rfl)
def rrFew (rs : List RRt) : Bool := rs.all fun r => decide (r.1.length ≤ 300) && decide (r.2.2.2.2.length ≤ 300)
def znAt (l : List ZNt) (i : Int) : ZNt := l.getD i.toNat (Ty.dflt ZN)
def fwI (l : List ZNt) (i k : Int) : Bool := decide (0 ≤ i) && (decide (i < (l.length : Int)) && (decide (k = 0) && Nat.ble (znAt l i).2.length 1000000))
noncomputable def b15i : Code := nthLoop (nthLoop c15 0) 0
def ls15i : LoopSpec := { bid := 2, sh := [.d (.list ZN) false, .d (.int .i64) false, .d (.int .i64) false], so := [], F := fun (l, i, k, _) _ => .on2 (fwI l i k) (rrFew (znAt l i).2) (.exit 2, [.list ZN l, .dead, .int .i64 i], []) (.ret, [.list ZN l, .bool false, .int .i64 i], []) }
def r15i (l : List (List UInt8 × List (List UInt8 × (Int × (Int × (Int × List UInt8)))))) (i : Int) (k : Int) : Tr (St ⊕ (Ex × St)) := Tr.br (decide ((0 : Int) ≤ i)) (Tr.br (decide (i < (↑(List.length l) : Int))) (Tr.br (decide (k < (↑(List.length (Prod.snd (List.getD l (Int.toNat i) (Ty.dflt ZN)))) : Int))) (Tr.br (decide ((0 : Int) ≤ i)) (Tr.br (decide (i < (↑(List.length l) : Int))) (Tr.br (decide ((0 : Int) ≤ k)) (Tr.br (decide (k < (↑(List.length (Prod.snd (List.getD l (Int.toNat i) (Ty.dflt ZN)))) : Int))) (Tr.br (decide ((↑(List.length (Prod.fst (List.getD (Prod.snd (List.getD l (Int.toNat i) (Ty.dflt ZN))) (Int.toNat k) (Ty.dflt RR)))) : Int) > (300 : Int))) (Tr.ret (Sum.inr (Ex.ret, stOf [0, 2, 3] [AV.list ZN l, AV.bool false, AV.int IntKind.i64 i] []))) (Tr.br (decide ((0 : Int) ≤ i)) (Tr.br (decide (i < (↑(List.length l) : Int))) (Tr.br (decide ((0 : Int) ≤ k)) (Tr.br (decide (k < (↑(List.length (Prod.snd (List.getD l (Int.toNat i) (Ty.dflt ZN)))) : Int))) (Tr.br (decide ((↑(List.length (Prod.snd (Prod.snd (Prod.snd (Prod.snd (List.getD (Prod.snd (List.getD l (Int.toNat i) (Ty.dflt ZN))) (Int.toNat k) (Ty.dflt RR))))))) : Int) > (300 : Int))) (Tr.ret (Sum.inr (Ex.ret, stOf [0, 2, 3] [AV.list ZN l, AV.bool false, AV.int IntKind.i64 i] []))) (Tr.ret (Sum.inl (stOf [0, 3, 4] [AV.list ZN l, AV.int IntKind.i64 i, AV.int IntKind.i64 (IntKind.wrap IntKind.i64 (k + (1 : Int)))] [])))) Tr.no) Tr.no) Tr.no) Tr.no)) Tr.no) Tr.no) Tr.no) Tr.no) (Tr.ret (Sum.inr (Ex.exit 2, stOf [0, 2, 3] [AV.list ZN l, AV.dead, AV.int IntKind.i64 i] [])))) Tr.no) Tr.no
set_option maxRecDepth 1000000 in
theorem round15i (orc : Orc) (lp : Lp) (l : List (List UInt8 × List (List UInt8 × (Int × (Int × (Int × List UInt8)))))) (i : Int) (k : Int) : evC T0 orc lp b15i 2 (stOf [0, 3, 4] [.list ZN l, .int .i64 i, .int .i64 k] []) (roundK [0, 3, 4] [0, 2, 3] 0) = (r15i l i k).get := by kernel_rfl
theorem wf15i (orc : Orc) (l : List (List UInt8 × List (List UInt8 × (Int × (Int × (Int × List UInt8)))))) (i : Int) (I'' : Int → Prop) (m'' : Int → Nat) (r'' : Ex × St) (h : ∀ (k : Int), I'' k → (r15i l i k).all fun x'' => x'' = .inr r'' ∨ ∃ (k' : Int), x'' = .inl (stOf [0, 3, 4] [.list ZN l, .int .i64 i, .int .i64 k'] []) ∧ I'' k' ∧ m'' k' < m'' k) (lp : Lp) (k : Int) : I'' k →
    loopF (fun st => evC T0 orc lp b15i 2 st (roundK [0, 3, 4] [0, 2, 3] 0)) (stOf [0, 3, 4] [.list ZN l, .int .i64 i, .int .i64 k] []) = some r'' :=
  loop_tr (fun a'' : Int => stOf [0, 3, 4] [.list ZN l, .int .i64 i, .int .i64 a''] []) (fun a'' => I'' a'') (fun a'' => m'' a'') r'' (fun a'' => r15i l i a'')
    (fun a'' x hx => (round15i orc lp l i a'').trans hx) (fun a'' ha => Tr.all_mono (fun x'' hx => hx.imp id fun ⟨k', h1, h2, h3⟩ => ⟨(k'), h1, h2, h3⟩) (h (a'') ha)) (k)
def rrOk (r : RRt) : Bool := decide (r.1.length ≤ 300) && decide (r.2.2.2.2.length ≤ 300)
theorem rrFew_next {rs : List RRt} {k : Nat} (hk : k < rs.length) (x : RRt) : rrFew (rs.drop k) = (rrOk (rs.getD k x) && rrFew (rs.drop (k + 1))) := by
  rw [drop_cons2 hk x]
  unfold rrFew
  rw [List.all_cons]
  rfl
theorem loop15i (orc : Orc) : ls15i.Ok T0 orc h15 0 0 b15i := by
  intro q'' hq'' x'' y'' r'' h
  obtain ⟨(l : List (List UInt8 × List (List UInt8 × (Int × (Int × (Int × List UInt8)))))), (i : Int), (k : Int), _⟩ := x''
  obtain ⟨hc, rfl⟩ := Tr.get_on2 h
  show loopF (fun st => evC T0 orc (lpN T0 orc h15 0 q'') b15i 2 st (roundK [0, 3, 4] [0, 2, 3] 0)) (stOf [0, 3, 4] [.list ZN l, .int .i64 i, .int .i64 k] []) = some ((bif rrFew (znAt l i).2 then (.exit 2, [.list ZN l, .dead, .int .i64 i], []) else (.ret, [.list ZN l, .bool false, .int .i64 i], []) : Ex × List AV × List LObj).1, stOf [0, 2, 3] (bif rrFew (znAt l i).2 then (.exit 2, [.list ZN l, .dead, .int .i64 i], []) else (.ret, [.list ZN l, .bool false, .int .i64 i], []) : Ex × List AV × List LObj).2.1 (bif rrFew (znAt l i).2 then (.exit 2, [.list ZN l, .dead, .int .i64 i], []) else (.ret, [.list ZN l, .bool false, .int .i64 i], []) : Ex × List AV × List LObj).2.2)
  simp only [fwI, Bool.and_eq_true, decide_eq_true_eq] at hc
  obtain ⟨h0, hi, rfl, hl⟩ := hc
  have hl := Nat.le_of_ble_eq_true hl
  have hz : l.getD i.toNat (Ty.dflt ZN) = znAt l i := rfl
  refine wf15i _ l i (fun k => 0 ≤ k ∧ k ≤ (znAt l i).2.length ∧ rrFew ((znAt l i).2.drop k.toNat) = rrFew (znAt l i).2) (fun k => ((znAt l i).2.length - k).toNat) _ ?_ _ 0 ⟨by omega, by omega, rfl⟩
  rintro k ⟨k0, k1, he⟩
  unfold r15i
  rw [wrap_succ k0 k1 (by omega), hz]
  refine Tr.all_t (dec_true h0) (Tr.all_t (dec_true hi) ?_)
  generalize (znAt l i).2 = rs at *
  by_cases hk : k < rs.length
  · rw [rrFew_next (k := k.toNat) (by omega) (Ty.dflt RR)] at he
    generalize rs.getD k.toNat (Ty.dflt RR) = r at *
    refine Tr.all_t (dec_true hk) (Tr.all_t (dec_true h0) (Tr.all_t (dec_true hi) (Tr.all_t (dec_true k0) (Tr.all_t (dec_true hk) (Tr.all_br (fun c1 => ?_) fun c1 => Tr.all_t (dec_true h0) (Tr.all_t (dec_true hi) (Tr.all_t (dec_true k0) (Tr.all_t (dec_true hk) (Tr.all_br (fun c2 => ?_) fun c2 => ?_)))))))))
    · have c1 := of_decide_eq_true c1
      have : rrOk r = false := by unfold rrOk; rw [dec_false (by omega)]; rfl
      rw [this] at he
      rw [← he]
      exact Tr.all_ret (.inl rfl)
    · have c2 := of_decide_eq_true c2
      have : rrOk r = false := by unfold rrOk; rw [dec_false (show ¬ r.2.2.2.2.length ≤ 300 by omega), Bool.and_false]
      rw [this] at he
      rw [← he]
      exact Tr.all_ret (.inl rfl)
    · have c1 := of_decide_eq_false c1
      have c2 := of_decide_eq_false c2
      have : rrOk r = true := by unfold rrOk; rw [dec_true (by omega), dec_true (by omega)]; rfl
      rw [this, Bool.true_and] at he
      exact Tr.all_ret (.inr ⟨_, rfl, ⟨by omega, by omega, by rw [show (k + 1).toNat = k.toNat + 1 by omega]; exact he⟩, by omega⟩)
  · refine Tr.all_f (dec_false hk) (Tr.all_ret (.inl ?_))
    rw [show k.toNat = rs.length by omega, List.drop_length] at he
    rw [← he]
    rfl
def znFew (z : ZNt) : Bool := decide (z.2.length ≤ 40) && (decide (z.1.length ≤ 300) && rrFew z.2)
def fewL (l : List ZNt) : Bool := (l.take 9).all znFew
noncomputable def b15o : Code := nthLoop c15 0
def ls15o : LoopSpec := { bid := 0, sh := [.d (.list ZN) false, .d (.int .i64) false], so := [], F := fun (l, i, _) _ => .on2 (decide (i = 0)) (fewL l) (.exit 0, [.list ZN l, .dead], []) (.ret, [.list ZN l, .bool false], []) }
def r15o (l : List (List UInt8 × List (List UInt8 × (Int × (Int × (Int × List UInt8)))))) (i : Int) : Tr (St ⊕ (Ex × St)) := Tr.br (decide (i < (↑(List.length l) : Int))) (Tr.br (decide (i < (9 : Int))) (Tr.br (decide ((0 : Int) ≤ i)) (Tr.br (decide (i < (↑(List.length l) : Int))) (Tr.br (decide ((↑(List.length (Prod.snd (List.getD l (Int.toNat i) (Ty.dflt ZN)))) : Int) > (40 : Int))) (Tr.ret (Sum.inr (Ex.ret, stOf [0, 2] [AV.list ZN l, AV.bool false] []))) (Tr.br (decide ((0 : Int) ≤ i)) (Tr.br (decide (i < (↑(List.length l) : Int))) (Tr.br (decide ((↑(List.length (Prod.fst (List.getD l (Int.toNat i) (Ty.dflt ZN)))) : Int) > (300 : Int))) (Tr.ret (Sum.inr (Ex.ret, stOf [0, 2] [AV.list ZN l, AV.bool false] []))) (Tr.br (fwI l i (0 : Int)) (Tr.br (rrFew (Prod.snd (znAt l i))) (Tr.ret (Sum.inl (stOf [0, 3] [AV.list ZN l, AV.int IntKind.i64 (IntKind.wrap IntKind.i64 (i + (1 : Int)))] []))) (Tr.ret (Sum.inr (Ex.ret, stOf [0, 2] [AV.list ZN l, AV.bool false] [])))) Tr.no)) Tr.no) Tr.no)) Tr.no) Tr.no) (Tr.ret (Sum.inr (Ex.exit 0, stOf [0, 2] [AV.list ZN l, AV.dead] [])))) (Tr.ret (Sum.inr (Ex.exit 0, stOf [0, 2] [AV.list ZN l, AV.dead] [])))
set_option maxRecDepth 1000000 in
theorem round15o (l : List (List UInt8 × List (List UInt8 × (Int × (Int × (Int × List UInt8)))))) (i : Int) : evC T0 (orcB [] []) (lpOf h15 0 (lsOf [ls15i])) b15o 0 (stOf [0, 3] [.list ZN l, .int .i64 i] []) (roundK [0, 3] [0, 2] 0) = (r15o l i).get := by kernel_rfl
theorem wf15o (l : List (List UInt8 × List (List UInt8 × (Int × (Int × (Int × List UInt8)))))) (I'' : Int → Prop) (m'' : Int → Nat) (r'' : Ex × St) (h : ∀ (i : Int), I'' i → (r15o l i).all fun x'' => x'' = .inr r'' ∨ ∃ (i' : Int), x'' = .inl (stOf [0, 3] [.list ZN l, .int .i64 i'] []) ∧ I'' i' ∧ m'' i' < m'' i) (q'' : Nat) (hq'' : 1 ≤ q'') (i : Int) : I'' i →
    loopF (fun st => evC T0 (orcB [] []) (lpN T0 (orcB [] []) h15 0 q'') b15o 0 st (roundK [0, 3] [0, 2] 0)) (stOf [0, 3] [.list ZN l, .int .i64 i] []) = some r'' :=
  loop_tr (fun a'' : Int => stOf [0, 3] [.list ZN l, .int .i64 a''] []) (fun a'' => I'' a'') (fun a'' => m'' a'') r'' (fun a'' => r15o l a'')
    (fun a'' x hx => round_of (d := 0) (S := lsOf [ls15i]) (loops_at (xs := [(2, b15i)]) (by kernel_rfl) (all_cons (ls_here (loop15i _)) all_nil)) (by omega) ((round15o l a'').trans hx)) (fun a'' ha => Tr.all_mono (fun x'' hx => hx.imp id fun ⟨i', h1, h2, h3⟩ => ⟨(i'), h1, h2, h3⟩) (h (a'') ha)) (i)
theorem loop15o : ls15o.Ok T0 (orcB [] []) h15 0 1 b15o := by
  intro q'' hq'' x'' y'' r'' h
  obtain ⟨(l : List (List UInt8 × List (List UInt8 × (Int × (Int × (Int × List UInt8)))))), (i : Int), _⟩ := x''
  obtain ⟨hc, rfl⟩ := Tr.get_on2 h
  show loopF (fun st => evC T0 (orcB [] []) (lpN T0 (orcB [] []) h15 0 q'') b15o 0 st (roundK [0, 3] [0, 2] 0)) (stOf [0, 3] [.list ZN l, .int .i64 i] []) = some ((bif fewL l then (.exit 0, [.list ZN l, .dead], []) else (.ret, [.list ZN l, .bool false], []) : Ex × List AV × List LObj).1, stOf [0, 2] (bif fewL l then (.exit 0, [.list ZN l, .dead], []) else (.ret, [.list ZN l, .bool false], []) : Ex × List AV × List LObj).2.1 (bif fewL l then (.exit 0, [.list ZN l, .dead], []) else (.ret, [.list ZN l, .bool false], []) : Ex × List AV × List LObj).2.2)
  obtain rfl := of_decide_eq_true hc
  refine wf15o l (fun i => 0 ≤ i ∧ i ≤ 9 ∧ i ≤ l.length ∧ ((l.take 9).drop i.toNat).all znFew = fewL l) (fun i => (9 - i).toNat) _ ?_ _ hq'' 0 ⟨by omega, by omega, by omega, rfl⟩
  rintro i ⟨h0, h9, h1, he⟩
  unfold r15o
  have hlt : (l.take 9).length = min 9 l.length := List.length_take
  by_cases hi : i < l.length
  · by_cases hi9 : i < 9
    · rw [drop_cons2 (l := l.take 9) (k := i.toNat) (by omega) (Ty.dflt ZN), List.all_cons, show (l.take 9).getD i.toNat (Ty.dflt ZN) = znAt l i by
        unfold znAt
        rw [List.getD_eq_getElem?_getD, List.getD_eq_getElem?_getD, List.getElem?_take, if_pos (by omega)]] at he
      have hw : fwI l i 0 = decide ((znAt l i).2.length ≤ 1000000) := by
        unfold fwI
        rw [decide_eq_true h0, decide_eq_true hi, decide_eq_true rfl]
        cases h : Nat.ble (znAt l i).2.length 1000000 with
        | true => rw [decide_eq_true (Nat.le_of_ble_eq_true h)]; rfl
        | false => rw [decide_eq_false (fun e => by rw [Nat.ble_eq_true_of_le e] at h; cases h)]; rfl
      rw [hw]
      have hz : l.getD i.toNat (Ty.dflt ZN) = znAt l i := rfl
      rw [hz, IntWalk.i64_in _ (by omega)]
      generalize znAt l i = z at *
      refine Tr.all_t (dec_true hi) (Tr.all_t (dec_true hi9) (Tr.all_t (dec_true h0) (Tr.all_t (dec_true hi) (Tr.all_br (fun c1 => ?_) fun c1 => Tr.all_t (dec_true h0) (Tr.all_t (dec_true hi) (Tr.all_br (fun c2 => ?_) fun c2 => Tr.all_t ?_ (Tr.all_br (fun c3 => ?_) fun c3 => ?_)))))))
      · have c1 := of_decide_eq_true c1
        rw [show znFew z = false by unfold znFew; rw [dec_false (by omega)]; rfl] at he
        rw [← he]
        exact Tr.all_ret (.inl rfl)
      · have c2 := of_decide_eq_true c2
        rw [show znFew z = false by unfold znFew; rw [dec_false (show ¬ z.1.length ≤ 300 by omega), Bool.false_and, Bool.and_false]] at he
        rw [← he]
        exact Tr.all_ret (.inl rfl)
      · have c1 := of_decide_eq_false c1
        exact decide_eq_true (by omega)
      · have c1 := of_decide_eq_false c1
        have c2 := of_decide_eq_false c2
        rw [show znFew z = true by unfold znFew; rw [dec_true (by omega), dec_true (by omega), c3]; rfl, Bool.true_and] at he
        exact Tr.all_ret (.inr ⟨_, rfl, ⟨by omega, by omega, by omega, by rw [show (i + 1).toNat = i.toNat + 1 by omega]; exact he⟩, by omega⟩)
      · rw [show znFew z = false by unfold znFew; rw [c3]; simp] at he
        rw [← he]
        exact Tr.all_ret (.inl rfl)
    · refine Tr.all_t (dec_true hi) (Tr.all_f (dec_false hi9) (Tr.all_ret (.inl ?_)))
      rw [List.drop_eq_nil_of_le (by omega)] at he
      rw [← he]
      rfl
  · refine Tr.all_f (dec_false hi) (Tr.all_ret (.inl ?_))
    rw [List.drop_eq_nil_of_le (by omega)] at he
    rw [← he]
    rfl
def t15 (l : List (List UInt8 × List (List UInt8 × (Int × (Int × (Int × List UInt8)))))) : Tr Res := Tr.br (fewL l) (Tr.ret ([AV.bool (decide ((↑(List.length l) : Int) ≤ (8 : Int)))], [])) (Tr.ret ([AV.bool false], []))
def os15 : OSpec := { f := 15, sh := [.d (.list ZN) false], so := [], F := fun (l, _) _ => t15 l }
set_option maxRecDepth 1000000 in
theorem fn15 (l : List (List UInt8 × List (List UInt8 × (Int × (Int × (Int × List UInt8)))))) : evC T0 (orcB [] []) (lpOf h15 0 (lsOf [ls15o])) c15 1000000 (startSt [.list ZN l] [] Try.f15.ntmps) (finishK T0 false 0 Try.f15) = (t15 l).get := by kernel_rfl
theorem ok15 : os15.Ok Try.prog := by
  refine os_ok mixed0 tab0 (orcB_sound all_nil all_nil) h15 (d := 1) (n0 := 0) (S := lsOf [ls15o]) Try.func15 (by kernel_rfl) (c := c15) (by kernel_rfl) rfl (loops_eq (xs := [(0, b15o)]) (by kernel_rfl) (all_cons (ls_here loop15o) all_nil)) (by omega) (by kernel_rfl) ?_
  intro x'' y'' q'' hq''
  obtain ⟨(l : List (List UInt8 × List (List UInt8 × (Int × (Int × (Int × List UInt8)))))), _⟩ := x''
  exact (fn15 l).trans hq''
def fs15 : FSpec := fsT 15 [((.list ZN), false)] [(.bool, false)] fun (l, _) => t15 l
theorem okf15 : fs15.Ok Try.prog := fsT_ok fun x'' r'' hr'' => ok15 x'' () r'' hr''
def fewZ (l : List ZNt) : Bool := decide (l.length ≤ 8) && l.all znFew
theorem fewZ_iff {l : List ZNt} : fewZ l = true ↔ l.length ≤ 8 ∧ ∀ z ∈ l, znFew z = true := by
  unfold fewZ
  rw [Bool.and_eq_true, decide_eq_true_eq, List.all_eq_true]
def fs15w : FSpec := fs15.like fun (l, _) => .ret (fewZ l, ())
theorem okf15w : fs15w.Ok Try.prog := by
  refine flike_ok okf15 _ ?_
  rintro ⟨(l : List ZNt), _⟩ y h
  cases h
  refine convR_of (vs := [.bool (fewZ l)]) rfl rfl (Tr.get_of_all ?_)
  show (t15 l).all _
  unfold t15 fewZ
  have hle : decide ((l.length : Int) ≤ 8) = decide (l.length ≤ 8) := by
    by_cases h : l.length ≤ 8
    · rw [dec_true h, dec_true (by omega)]
    · rw [dec_false h, dec_false (by omega)]
  have hfl : fewL l = (l.take 9).all znFew := rfl
  refine Tr.all_br (fun h => Tr.all_ret ?_) fun h => Tr.all_ret ?_
  · rw [hle]
    by_cases h8 : l.length ≤ 8
    · rw [hfl, List.take_of_length_le (by omega)] at h
      rw [h, Bool.and_true]
    · rw [dec_false h8]; rfl
  · by_cases h8 : l.length ≤ 8
    · rw [hfl, List.take_of_length_le (by omega)] at h
      rw [h, Bool.and_false]
    · rw [dec_false h8]; rfl
def rsC (xs ys : List RRt) (i : Int) : Bool := decide (xs.length = ys.length) && (Nat.ble xs.length 1000000 && decide (i = 0))
noncomputable def b21 : Code := nthLoop c21 0
def ls21 : LoopSpec := { bid := 0, sh := [.d (.list RR) false, .d (.list RR) false, .d (.int .i64) false], so := [], F := fun (xs, ys, i, _) _ => .on2 (rsC xs ys i) (decide (xs = ys)) (.exit 0, [.dead], []) (.ret, [.bool false], []) }
def r21 (xs : List (List UInt8 × (Int × (Int × (Int × List UInt8))))) (ys : List (List UInt8 × (Int × (Int × (Int × List UInt8))))) (i : Int) : Tr (St ⊕ (Ex × St)) := Tr.br (decide (i < (↑(List.length xs) : Int))) (Tr.br (decide ((0 : Int) ≤ i)) (Tr.br (decide (i < (↑(List.length xs) : Int))) (Tr.br (decide ((0 : Int) ≤ i)) (Tr.br (decide (i < (↑(List.length ys) : Int))) (Tr.br (!(Prod.fst (List.getD xs (Int.toNat i) (Ty.dflt RR)) == Prod.fst (List.getD ys (Int.toNat i) (Ty.dflt RR)) && (Prod.fst (Prod.snd (List.getD xs (Int.toNat i) (Ty.dflt RR))) == Prod.fst (Prod.snd (List.getD ys (Int.toNat i) (Ty.dflt RR))) && (Prod.fst (Prod.snd (Prod.snd (List.getD xs (Int.toNat i) (Ty.dflt RR)))) == Prod.fst (Prod.snd (Prod.snd (List.getD ys (Int.toNat i) (Ty.dflt RR)))) && (Prod.fst (Prod.snd (Prod.snd (Prod.snd (List.getD xs (Int.toNat i) (Ty.dflt RR))))) == Prod.fst (Prod.snd (Prod.snd (Prod.snd (List.getD ys (Int.toNat i) (Ty.dflt RR))))) && (Prod.snd (Prod.snd (Prod.snd (Prod.snd (List.getD xs (Int.toNat i) (Ty.dflt RR))))) == Prod.snd (Prod.snd (Prod.snd (Prod.snd (List.getD ys (Int.toNat i) (Ty.dflt RR))))) && true)))))) (Tr.ret (Sum.inr (Ex.ret, stOf [4] [AV.bool false] []))) (Tr.ret (Sum.inl (stOf [0, 1, 5] [AV.list RR xs, AV.list RR ys, AV.int IntKind.i64 (IntKind.wrap IntKind.i64 (i + (1 : Int)))] [])))) Tr.no) Tr.no) Tr.no) Tr.no) (Tr.ret (Sum.inr (Ex.exit 0, stOf [4] [AV.dead] [])))
set_option maxRecDepth 1000000 in
theorem round21 (orc : Orc) (lp : Lp) (xs : List (List UInt8 × (Int × (Int × (Int × List UInt8))))) (ys : List (List UInt8 × (Int × (Int × (Int × List UInt8))))) (i : Int) : evC T0 orc lp b21 0 (stOf [0, 1, 5] [.list RR xs, .list RR ys, .int .i64 i] []) (roundK [0, 1, 5] [4] 0) = (r21 xs ys i).get := by kernel_rfl
theorem wf21 (orc : Orc) (xs : List (List UInt8 × (Int × (Int × (Int × List UInt8))))) (ys : List (List UInt8 × (Int × (Int × (Int × List UInt8))))) (I'' : Int → Prop) (m'' : Int → Nat) (r'' : Ex × St) (h : ∀ (i : Int), I'' i → (r21 xs ys i).all fun x'' => x'' = .inr r'' ∨ ∃ (i' : Int), x'' = .inl (stOf [0, 1, 5] [.list RR xs, .list RR ys, .int .i64 i'] []) ∧ I'' i' ∧ m'' i' < m'' i) (lp : Lp) (i : Int) : I'' i →
    loopF (fun st => evC T0 orc lp b21 0 st (roundK [0, 1, 5] [4] 0)) (stOf [0, 1, 5] [.list RR xs, .list RR ys, .int .i64 i] []) = some r'' :=
  loop_tr (fun a'' : Int => stOf [0, 1, 5] [.list RR xs, .list RR ys, .int .i64 a''] []) (fun a'' => I'' a'') (fun a'' => m'' a'') r'' (fun a'' => r21 xs ys a'')
    (fun a'' x hx => (round21 orc lp xs ys a'').trans hx) (fun a'' ha => Tr.all_mono (fun x'' hx => hx.imp id fun ⟨i', h1, h2, h3⟩ => ⟨(i'), h1, h2, h3⟩) (h (a'') ha)) (i)
theorem loop21 (orc : Orc) : ls21.Ok T0 orc h21 0 0 b21 := by
  intro q'' hq'' x'' y'' r'' h
  obtain ⟨(xs : List (List UInt8 × (Int × (Int × (Int × List UInt8))))), (ys : List (List UInt8 × (Int × (Int × (Int × List UInt8))))), (i : Int), _⟩ := x''
  obtain ⟨hc, rfl⟩ := Tr.get_on2 h
  show loopF (fun st => evC T0 orc (lpN T0 orc h21 0 q'') b21 0 st (roundK [0, 1, 5] [4] 0)) (stOf [0, 1, 5] [.list RR xs, .list RR ys, .int .i64 i] []) = some ((bif decide (xs = ys) then (.exit 0, [.dead], []) else (.ret, [.bool false], []) : Ex × List AV × List LObj).1, stOf [4] (bif decide (xs = ys) then (.exit 0, [.dead], []) else (.ret, [.bool false], []) : Ex × List AV × List LObj).2.1 (bif decide (xs = ys) then (.exit 0, [.dead], []) else (.ret, [.bool false], []) : Ex × List AV × List LObj).2.2)
  simp only [rsC, Bool.and_eq_true, decide_eq_true_eq] at hc
  obtain ⟨hq, hl, rfl⟩ := hc
  have hl := Nat.le_of_ble_eq_true hl
  refine wf21 _ xs ys (fun i => 0 ≤ i ∧ i ≤ xs.length ∧ decide (xs.drop i.toNat = ys.drop i.toNat) = decide (xs = ys)) (fun i => (xs.length - i).toNat) _ ?_ _ 0 ⟨by omega, by omega, rfl⟩
  rintro i ⟨h0, h1, he⟩
  unfold r21
  rw [wrap_succ h0 h1 (by omega)]
  by_cases hi : i < xs.length
  · rw [drop_cons2 (l := xs) (k := i.toNat) (by omega) (Ty.dflt RR), drop_cons2 (l := ys) (k := i.toNat) (by omega) (Ty.dflt RR)] at he
    generalize xs.getD i.toNat (Ty.dflt RR) = x at *
    generalize ys.getD i.toNat (Ty.dflt RR) = y at *
    have hb := rrB_iff x y
    unfold rrB at hb
    rw [hb]
    refine Tr.all_t (dec_true hi) (Tr.all_t (dec_true h0) (Tr.all_t (dec_true hi) (Tr.all_t (dec_true h0) (Tr.all_t (dec_true (by omega)) ?_))))
    by_cases hxy : x = y
    · rw [decide_eq_true hxy]
      refine Tr.all_f rfl (Tr.all_ret (.inr ⟨_, rfl, ⟨by omega, by omega, ?_⟩, by omega⟩))
      rw [show (i + 1).toNat = i.toNat + 1 by omega, ← he]
      by_cases h2 : xs.drop (i.toNat + 1) = ys.drop (i.toNat + 1)
      · rw [decide_eq_true h2, decide_eq_true (by rw [hxy, h2])]
      · rw [decide_eq_false h2, decide_eq_false (fun e => h2 (List.cons.inj e).2)]
    · rw [decide_eq_false hxy]
      refine Tr.all_t rfl (Tr.all_ret (.inl ?_))
      rw [← he, decide_eq_false (fun e => hxy (List.cons.inj e).1)]
      rfl
  · refine Tr.all_f (dec_false hi) (Tr.all_ret (.inl ?_))
    rw [List.drop_eq_nil_of_le (by omega), List.drop_eq_nil_of_le (by omega)] at he
    rw [← he]
    rfl
def t21 (xs : List (List UInt8 × (Int × (Int × (Int × List UInt8))))) (ys : List (List UInt8 × (Int × (Int × (Int × List UInt8))))) : Tr Res := Tr.br ((↑(List.length xs) : Int) != (↑(List.length ys) : Int)) (Tr.ret ([AV.bool false], [])) (Tr.br (rsC xs ys (0 : Int)) (Tr.br (decide (xs = ys)) (Tr.ret ([AV.bool true], [])) (Tr.ret ([AV.bool false], []))) Tr.no)
def os21 : OSpec := { f := 21, sh := [.d (.list RR) false, .d (.list RR) false], so := [], F := fun (xs, ys, _) _ => t21 xs ys }
set_option maxRecDepth 1000000 in
theorem fn21 (xs : List (List UInt8 × (Int × (Int × (Int × List UInt8))))) (ys : List (List UInt8 × (Int × (Int × (Int × List UInt8))))) : evC T0 (orcB [] []) (lpOf h21 0 (lsOf [ls21])) c21 1000000 (startSt [.list RR xs, .list RR ys] [] Try.f21.ntmps) (finishK T0 false 0 Try.f21) = (t21 xs ys).get := by kernel_rfl
theorem ok21 : os21.Ok Try.prog := by
  refine os_ok mixed0 tab0 (orcB_sound all_nil all_nil) h21 (d := 0) (n0 := 0) (S := lsOf [ls21]) Try.func21 (by kernel_rfl) (c := c21) (by kernel_rfl) rfl (loops_eq (xs := [(0, b21)]) (by kernel_rfl) (all_cons (ls_here (loop21 _)) all_nil)) (by omega) (by kernel_rfl) ?_
  intro x'' y'' q'' hq''
  obtain ⟨(xs : List (List UInt8 × (Int × (Int × (Int × List UInt8))))), (ys : List (List UInt8 × (Int × (Int × (Int × List UInt8))))), _⟩ := x''
  exact (fn21 xs ys).trans hq''
def fs21 : FSpec := fsT 21 [((.list RR), false), ((.list RR), false)] [(.bool, false)] fun (xs, ys, _) => t21 xs ys
theorem okf21 : fs21.Ok Try.prog := fsT_ok fun x'' r'' hr'' => ok21 x'' () r'' hr''
def fs21w : FSpec := fs21.like fun (xs, ys, _) => .on (Nat.ble xs.length 1000000) (decide (xs = ys), ())
theorem okf21w : fs21w.Ok Try.prog := by
  refine flike_ok okf21 _ ?_
  rintro ⟨(xs : List RRt), (ys : List RRt), _⟩ y h
  obtain ⟨hb, rfl⟩ := Tr.get_on h
  have hb : Nat.ble xs.length 1000000 = true := hb
  refine convR_of (vs := [.bool (decide (xs = ys))]) rfl rfl (Tr.get_of_all ?_)
  show (t21 xs ys).all _
  unfold t21
  by_cases hl : xs.length = ys.length
  · have hc : rsC xs ys 0 = true := by unfold rsC; rw [decide_eq_true hl, hb]; rfl
    refine Tr.all_f (by rw [hl]; simp) (Tr.all_t hc (Tr.all_br (fun h => Tr.all_ret (by rw [h])) fun h => Tr.all_ret (by rw [h])))
  · refine Tr.all_t (by simp; omega) (Tr.all_ret ?_)
    rw [decide_eq_false (fun e => hl (by rw [e]))]
end Go.Proofs.YtkobjdhbfepkaaaE
