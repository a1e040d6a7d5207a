/- name.May: a plain word; the document's. -/
import Derived.Test.YtfepkpindchleaaW7
namespace Go.Proofs.YtfepkpindchleaaE
open Go Go.Proofs.YtfepkpindchleaaB
set_option linter.unusedVariables false
set_option linter.unusedSimpArgs false
/-- name.May -/
def t29 (n : List UInt8) : Tr Res := Tr.br (bigS n) (Tr.br (rootV n) (Tr.br (decide (List.length n > 255)) (Tr.ret ([AV.bool false], [])) (Tr.br (bigS n) (Tr.ret ([AV.bool (foldB n == n)], [])) Tr.no)) (Tr.ret ([AV.bool false], []))) Tr.no
def os29 : OSpec := { f := 29, sh := [.d .str false], so := [], F := fun (n, _) _ => t29 n }
set_option maxRecDepth 1000000 in
theorem fn29 (n : List UInt8) : evC T0 (orcB [fs58, fs52w] []) (lpOf h29 0 (lsOf [])) c29 1000000 (startSt [.str n] [] Try.f29.ntmps) (finishK T0 false 0 Try.f29) = (t29 n).get := by kernel_rfl
theorem ok29 : os29.Ok Try.prog := by
  refine os_ok mixed0 tab0 (orcB_sound (all_cons okf58 (all_cons okf52w all_nil)) all_nil) h29 (d := 0) (n0 := 0) (S := lsOf []) Try.func29 (by kernel_rfl) (c := c29) (by kernel_rfl) rfl (no_loops (by kernel_rfl)) (by omega) (by kernel_rfl) ?_
  intro x'' y'' q'' hq''
  obtain ⟨(n : List UInt8), _⟩ := x''
  exact (fn29 n).trans hq''
def fs29 : FSpec := fsT 29 [(.str, false)] [(.bool, false)] fun (n, _) => t29 n
theorem okf29 : fs29.Ok Try.prog := fsT_ok fun x'' r'' hr'' => ok29 x'' () r'' hr''
/-- Whether a text is a name. -/
def mayV (s : List UInt8) : Bool := rootV s && (Nat.ble s.length 255 && (foldB s == s))
theorem labAt_each (s : List UInt8) : ∀ (m k : Nat) (out : List (List UInt8)), s.length - k = m → k ≤ s.length →
    labAt s k out = (match (eachF (s.drop k)).2 with
      | [] => (true, s.length, out ++ (eachF (s.drop k)).1)
      | c :: t => (decide (c.toNat = 0), s.length - (t.length + 1), out ++ (eachF (s.drop k)).1)) := by
  intro m
  induction m using Nat.strongRecOn with
  | _ m ih =>
    intro k out hm hk
    by_cases hlt : k < s.length
    · obtain ⟨c, t, hct⟩ : ∃ c t, s.drop k = c :: t := by
        rw [drop_get s k 0 hlt]
        exact ⟨_, _, rfl⟩
      have hc : s.getD k 0 = c := by
        have := drop_get s k 0 hlt
        rw [hct] at this
        exact (List.cons.inj this).1.symm
      have htl : t.length = s.length - k - 1 := by
        have := congrArg List.length hct
        simp at this
        omega
      have ht : t = s.drop (k + 1) := by
        have := drop_get s k 0 hlt
        rw [hct] at this
        exact (List.cons.inj this).2
      rw [labAt, dif_pos hlt, hc, hct]
      by_cases h0 : c.toNat = 0
      · rw [if_pos h0, eachF, if_pos (.inl h0)]
        simp only [List.append_nil]
        rw [decide_eq_true h0]
        congr 2
        omega
      · rw [if_neg h0]
        by_cases h1 : c.toNat > 63 ∨ k + 1 + c.toNat > s.length
        · rw [if_pos h1, eachF, if_pos (by omega)]
          simp only [List.append_nil]
          rw [decide_eq_false h0]
          congr 2
          omega
        · rw [if_neg h1, ih (s.length - (k + 1 + c.toNat)) (by omega) (k + 1 + c.toNat) _ rfl (by omega), eachF, if_neg (by omega)]
          have e : s.drop (k + 1 + c.toNat) = t.drop c.toNat := by rw [ht, List.drop_drop]
          rw [e, ← ht]
          simp only [List.append_assoc, List.cons_append, List.nil_append]
    · rw [labAt, dif_neg hlt]
      have : s.drop k = [] := List.drop_eq_nil_of_le (by omega)
      rw [this, eachF]
      simp only [List.append_nil]
      congr 2
      omega
theorem eachF_len : ∀ (n : Nat) (s : List UInt8), s.length = n → (eachF s).2.length ≤ s.length := by
  intro n
  induction n using Nat.strongRecOn with
  | _ n ih =>
    intro s hs
    cases s with
    | nil => rw [eachF]; exact Nat.le_refl _
    | cons c t =>
      rw [eachF]
      split
      · exact Nat.le_refl _
      · have := ih (t.drop c.toNat).length (by simp at hs ⊢; omega) _ rfl
        simp at this ⊢
        omega
theorem lab_root (s : List UInt8) : (lbOk s && decide (lbAt s = (s.length : Int) - 1)) = rootV s ∧ (rootV s = true → lbOut s = labsV s) := by
  have h := labAt_each s s.length 0 [] (by omega) (by omega)
  have hl := eachF_len _ s rfl
  rw [List.drop_zero] at h
  unfold lbOk lbAt lbOut rootV labsV
  rw [h]
  cases hr : (eachF s).2 with
  | nil =>
    simp
    omega
  | cons c t =>
    rw [hr] at hl
    simp at hl
    simp only [List.nil_append, implies_true, and_true]
    rw [Bool.eq_iff_iff]
    simp only [Bool.and_eq_true, decide_eq_true_eq, beq_iff_eq, List.cons.injEq]
    constructor
    · rintro ⟨h1, h2⟩
      refine ⟨?_, List.length_eq_zero_iff.1 (by omega)⟩
      exact UInt8.toNat_inj.1 (by simpa using h1)
    · rintro ⟨rfl, rfl⟩
      simp
      simp at hl
      omega
theorem mayS_eq (s : List UInt8) : mayS s = mayV s := by
  unfold mayS mayV
  rw [← (lab_root s).1, Bool.and_assoc]
  congr 3
  by_cases h : s.length ≤ 255
  · rw [decide_eq_true h, Nat.ble_eq_true_of_le h]
  · rw [decide_eq_false h]
    cases hb : Nat.ble s.length 255 with
    | false => rfl
    | true => exact absurd (Nat.le_of_ble_eq_true hb) h
theorem ble_iff {a b : Nat} : Nat.ble a b = decide (a ≤ b) := by
  by_cases h : a ≤ b
  · rw [decide_eq_true h, Nat.ble_eq_true_of_le h]
  · rw [decide_eq_false h]
    cases hb : Nat.ble a b with
    | false => rfl
    | true => exact absurd (Nat.le_of_ble_eq_true hb) h
def fs29w : FSpec := fs29.like fun (s, _) => .on (bigS s) (mayV s, ())
theorem okf29w : fs29w.Ok Try.prog := by
  refine flike_ok okf29 _ ?_
  rintro ⟨(s : List UInt8), _⟩ y h
  obtain ⟨hb, rfl⟩ := Tr.get_on h
  refine convR_of (vs := [.bool (mayV s)]) rfl rfl (Tr.get_of_all ?_)
  show (t29 s).all _
  refine Tr.all_t hb (Tr.all_br (fun c1 => Tr.all_br (fun c2 => Tr.all_ret ?_) fun c2 => Tr.all_t hb (Tr.all_ret ?_)) fun c1 => Tr.all_ret ?_)
  · simp only [decide_eq_true_eq] at c2
    have : ¬ s.length ≤ 255 := by omega
    simp [mayV, ble_iff, this]
  · simp only [decide_eq_false_iff_not] at c2
    have : s.length ≤ 255 := by omega
    simp [mayV, ble_iff, this, c1]
  · simp [mayV, c1]
def fs43v : FSpec := fs43.like fun (s, _) => .on (bigS s) (mayV s, ())
theorem okf43v : fs43v.Ok Try.prog := by
  rintro ⟨(s : List UInt8), _⟩ y h
  obtain ⟨hb, rfl⟩ := Tr.get_on h
  have := okf43w (s, ()) (mayS s, ()) (by show (Tr.on (bigS s) _).get = _; rw [hb]; rfl)
  rw [mayS_eq] at this
  exact this
def fs66v : FSpec := fs66.like fun (s, _) => .br (bigS s) (.br (rootV s) (.br (decide (s.length > 255)) (.ret (([] : List (List UInt8)), (3 : Int), ())) (.ret (labsV s, (0 : Int), ()))) (.ret (([] : List (List UInt8)), (2 : Int), ()))) .no
theorem okf66v : fs66v.Ok Try.prog := by
  refine flike_ok okf66 _ ?_
  rintro ⟨(s : List UInt8), _⟩ y h
  simp only [Tr.get] at h
  cases hb : bigS s with
  | false => rw [hb] at h; cases h
  | true =>
    rw [hb, cond_true] at h
    have hb' := hb
    simp only [bigS, decide_eq_true_eq] at hb'
    obtain ⟨l1, l2⟩ := lab_root s
    cases hr : rootV s with
    | false =>
      rw [hr, cond_false] at h
      cases h
      refine convR_of (vs := [.list .str [], .int .i64 2]) rfl rfl (Tr.get_of_all ?_)
      show (t66 s).all _
      unfold t66
      rw [hr] at l1
      refine Tr.all_t (by simp [lbC, hb]) (Tr.all_br (fun c1 => ?_) fun c1 => Tr.all_ret rfl)
      rw [IntWalk.i64_in _ (by omega)]
      rw [c1, Bool.true_and, decide_eq_false_iff_not] at l1
      exact Tr.all_t (bne_iff_ne.2 l1) (Tr.all_ret rfl)
    | true =>
      rw [hr, cond_true] at h
      rw [hr, Bool.and_eq_true, decide_eq_true_eq] at l1
      obtain ⟨l1, l3⟩ := l1
      have l2 := l2 hr
      by_cases hl : s.length > 255
      · rw [decide_eq_true hl, cond_true] at h
        cases h
        refine convR_of (vs := [.list .str [], .int .i64 3]) rfl rfl (Tr.get_of_all ?_)
        show (t66 s).all _
        unfold t66
        rw [IntWalk.i64_in _ (by omega)]
        refine Tr.all_t (by simp [lbC, hb]) (Tr.all_t l1 (Tr.all_f (by simpa using l3) (Tr.all_t (dec_true (by omega)) (Tr.all_ret rfl))))
      · rw [decide_eq_false hl, cond_false] at h
        cases h
        refine convR_of (vs := [.list .str (labsV s), .int .i64 0]) rfl rfl (Tr.get_of_all ?_)
        show (t66 s).all _
        unfold t66
        rw [IntWalk.i64_in _ (by omega)]
        refine Tr.all_t (by simp [lbC, hb]) (Tr.all_t l1 (Tr.all_f (by simpa using l3) (Tr.all_f (dec_false (by omega)) (Tr.all_ret ?_))))
        rw [l2]
end Go.Proofs.YtfepkpindchleaaE
