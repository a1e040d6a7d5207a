/- TtlLists: the document's Least and With; lists of records held against each other; the law. -/
import Derived.Test.YtgiofacmcpakoaaL07C
namespace Go.Proofs.YtgiofacmcpakoaaE
open Go
set_option linter.unusedVariables false

/-! ### derrickref07.Least -/
def rlC (l : List RR.den) (i : Int) : Bool := decide (0 ≤ i) && decide (i ≤ l.length) && decide (l.length ≤ 1000000000000)
def rlF : List RR.den → Nat → Int → Int
  | [], _, m => m
  | x :: xs, k, m => rlF xs (k + 1) (if k = 0 then ttlOf x else if ttlOf x < m then ttlOf x else m)
def ls24 : LoopSpec := { bid := 0, sh := [.d (.list RR) false, .d U32 false, .d (.int .i64) false], so := [], F := fun (l, m, i, _) _ => .on (rlC l i) (.exit 0, [.int .u32 (rlF (List.drop (Int.toNat i) l) (Int.toNat i) m)], []) }
noncomputable def b24 : Code := nthLoop c24 0
theorem round24 (orc : Orc) (lp : Lp) (l : List RR.den) (m i : Int) : evC T0 orc lp b24 0 (stOf [0, 3, 4] [.list RR l, .int .u32 m, .int .i64 i] []) (roundK [0, 3, 4] [3] 0) =
    bif decide (i < (l.length : Int)) then
      (bif i == 0 then (bif decide (0 ≤ i) then (bif decide (i < (l.length : Int)) then some (.inl (stOf [0, 3, 4] [.list RR l, .int .u32 (ttlOf (l.getD i.toNat (Ty.dflt RR))), .int .i64 (IntKind.wrap .i64 (i + 1))] [])) else none) else none)
      else (bif decide (0 ≤ i) then (bif decide (i < (l.length : Int)) then
        (bif decide (ttlOf (l.getD i.toNat (Ty.dflt RR)) < m) then (bif decide (0 ≤ i) then (bif decide (i < (l.length : Int)) then some (.inl (stOf [0, 3, 4] [.list RR l, .int .u32 (ttlOf (l.getD i.toNat (Ty.dflt RR))), .int .i64 (IntKind.wrap .i64 (i + 1))] [])) else none) else none)
        else some (.inl (stOf [0, 3, 4] [.list RR l, .int .u32 m, .int .i64 (IntKind.wrap .i64 (i + 1))] []))) else none) else none))
    else some (.inr (.exit 0, stOf [3] [.int .u32 m] [])) := by kernel_rfl
theorem loop24 (orc : Orc) : ls24.Ok T0 orc h24 0 0 b24 := by
  intro n _ x y r h
  obtain ⟨(l : List RR.den), (m : Int), (i : Int), _⟩ := x
  obtain ⟨hc, rfl⟩ := Tr.get_on h
  simp only [rlC, Bool.and_eq_true, decide_eq_true_eq] at hc
  obtain ⟨⟨h0, h1⟩, h2⟩ := hc
  have hi : ((i.toNat : Nat) : Int) = i := Int.toNat_of_nonneg h0
  have key := loop_wf (F := fun st => evC T0 orc (lpN T0 orc h24 0 n) b24 0 st (roundK [0, 3, 4] [3] 0)) (fun a : Int × Nat => stOf [0, 3, 4] [.list RR l, .int .u32 a.1, .int .i64 a.2] [])
    (fun a => a.2 ≤ l.length ∧ rlF (l.drop a.2) a.2 a.1 = rlF (l.drop i.toNat) i.toNat m) (fun a => l.length - a.2) (.exit 0, stOf [3] [.int .u32 (rlF (l.drop i.toNat) i.toNat m)] []) ?_ (m, i.toNat) ⟨by simp only; omega, rfl⟩
  · simp only [hi] at key
    exact key
  · rintro ⟨m', k⟩ ⟨hk, hI⟩
    simp only at hk hI ⊢
    rw [round24]
    by_cases hlt : k < l.length
    · right
      refine ⟨(if k = 0 then ttlOf (l.getD k (Ty.dflt RR)) else if ttlOf (l.getD k (Ty.dflt RR)) < m' then ttlOf (l.getD k (Ty.dflt RR)) else m', k + 1), ?_, ⟨by simp only; omega, ?_⟩, by simp only; omega⟩
      · simp only [dec_true (show (k : Int) < l.length by omega), dec_true (show (0 : Int) ≤ k by omega), cond_true, IntWalk.i64_in (k + 1 : Int) (by omega), int_nat]
        by_cases hk0 : k = 0
        · subst hk0
          rfl
        · rw [show ((k : Int) == 0) = false by simp; omega, if_neg hk0, cond_false]
          by_cases hm : ttlOf (l.getD k (Ty.dflt RR)) < m'
          · rw [dec_true hm, if_pos hm]; rfl
          · rw [dec_false hm, if_neg hm]; rfl
      · rw [← hI, drop_get l k (Ty.dflt RR) hlt]
        rfl
    · left
      rw [dec_false (by omega), cond_false]
      have : l.drop k = [] := List.drop_eq_nil_of_le (by omega)
      rw [← hI, this]
      rfl
theorem rlF_pos : ∀ (l : List RR.den) (k : Nat) (m : Int), rlF l (k + 1) m = (ttls l).foldl minI m
  | [], _, _ => rfl
  | x :: xs, k, m => by
    simp only [rlF, ttls, List.map_cons, List.foldl_cons]
    rw [if_neg (by omega)]
    exact rlF_pos xs (k + 1) _
theorem rlF_zero (l : List RR.den) : rlF l 0 0 = minL (ttls l) := by
  cases l with
  | nil => rfl
  | cons x xs => simp only [rlF, if_true]; exact rlF_pos xs 0 _
def fs24 : FSpec := { f := 24, ins := [(.list RR, false)], outs := [(U32, false)], F := fun (l, _) => .on (bigL l) (minL (ttls l), ()) }
theorem fn24 (l : List RR.den) : evC T0 (orcOf []) (lpOf h24 0 (lsOf [ls24])) c24 1000000 (startSt [.list RR l] [] Try.f24.ntmps) (finishK T0 false 0 Try.f24) =
    bif rlC l 0 then some ([.int .u32 (rlF (l.drop (Int.toNat 0)) (Int.toNat 0) 0)], []) else none := by kernel_rfl
theorem ok24 : fs24.Ok Try.prog := by
  refine fs_ok mixed0 tab0 (orcOf_sound [] (by simp)) h24 (d := 0) (S := lsOf [ls24]) Try.func24 (by kernel_rfl) (c := c24) (by kernel_rfl) (one_loop (x := (0, b24)) (by kernel_rfl) (one_spec (loop24 _))) (by omega) (by kernel_rfl) ?_
  intro x y h
  obtain ⟨(l : List RR.den), _⟩ := x
  obtain ⟨hc, rfl⟩ := Tr.get_on h
  simp only [bigL, decide_eq_true_eq] at hc
  refine (fn24 l).trans ?_
  rw [show rlC l 0 = true by simp [rlC]; omega]
  simp only [cond_true, Int.toNat_zero, List.drop_zero, rlF_zero]
  rfl

/-! ### derrickref05.RRs -/
def rrEq (a b : RR.den) : Bool := (a.1 == b.1 && (a.2.1 == b.2.1 && (a.2.2.1 == b.2.2.1 && (a.2.2.2.1 == b.2.2.2.1 && (a.2.2.2.2 == b.2.2.2.2 && true)))))
theorem rrEq_iff (a b : RR.den) : rrEq a b = true ↔ a = b := by
  obtain ⟨a1, a2, a3, a4, a5⟩ := a
  obtain ⟨b1, b2, b3, b4, b5⟩ := b
  simp [rrEq]
def eqC (l k : List RR.den) (i : Int) : Bool := decide (0 ≤ i) && decide (i ≤ l.length) && decide (l.length = k.length) && decide (l.length ≤ 1000000000000)
def allEq : List RR.den → List RR.den → Bool
  | x :: xs, y :: ys => rrEq x y && allEq xs ys
  | _, _ => true
def ls25 : LoopSpec := { bid := 0, sh := [.d (.list RR) false, .d (.list RR) false, .d (.int .i64) false], so := [], F := fun (l, k, i, _) _ => .br (eqC l k i) (.br (allEq (List.drop (Int.toNat i) l) (List.drop (Int.toNat i) k)) (.ret (.exit 0, [.dead], [])) (.ret (.ret, [.bool false], []))) .no }
noncomputable def b25 : Code := nthLoop c25 0
theorem round25 (orc : Orc) (lp : Lp) (l k : List RR.den) (i : Int) : evC T0 orc lp b25 0 (stOf [0, 1, 5] [.list RR l, .list RR k, .int .i64 i] []) (roundK [0, 1, 5] [4] 0) =
    bif decide (i < (l.length : Int)) then (bif decide (0 ≤ i) then (bif decide (i < (l.length : Int)) then (bif decide (0 ≤ i) then (bif decide (i < (k.length : Int)) then
      (bif !(rrEq (l.getD i.toNat (Ty.dflt RR)) (k.getD i.toNat (Ty.dflt RR))) then some (.inr (.ret, stOf [4] [.bool false] [])) else some (.inl (stOf [0, 1, 5] [.list RR l, .list RR k, .int .i64 (IntKind.wrap .i64 (i + 1))] []))) else none) else none) else none) else none)
    else some (.inr (.exit 0, stOf [4] [.dead] [])) := by kernel_rfl
theorem loop25 (orc : Orc) : ls25.Ok T0 orc h25 0 0 b25 := by
  intro n _ x y r h
  obtain ⟨(l : List RR.den), (k : List RR.den), (i : Int), _⟩ := x
  simp only [ls25, Tr.get] at h
  cases hc : eqC l k i with
  | false => rw [hc] at h; cases h
  | true =>
    rw [hc] at h
    simp only [cond_true] at h
    simp only [eqC, Bool.and_eq_true, decide_eq_true_eq] at hc
    obtain ⟨⟨⟨h0, h1⟩, h3⟩, h2⟩ := hc
    have hi : ((i.toNat : Nat) : Int) = i := Int.toNat_of_nonneg h0
    have key := loop_wf (F := fun st => evC T0 orc (lpN T0 orc h25 0 n) b25 0 st (roundK [0, 1, 5] [4] 0)) (fun a : Nat => stOf [0, 1, 5] [.list RR l, .list RR k, .int .i64 a] [])
      (fun a => a ≤ l.length ∧ allEq (l.drop a) (k.drop a) = allEq (l.drop i.toNat) (k.drop i.toNat)) (fun a => l.length - a) (r.1, stOf [4] r.2.1 r.2.2) ?_ i.toNat ⟨by omega, rfl⟩
    · simp only [hi] at key
      exact key
    · rintro a ⟨hk, hI⟩
      rw [round25]
      by_cases hlt : a < l.length
      · simp only [dec_true (show (a : Int) < l.length by omega), dec_true (show (a : Int) < k.length by omega), dec_true (show (0 : Int) ≤ a by omega), cond_true, IntWalk.i64_in (a + 1 : Int) (by omega), int_nat]
        rw [drop_get l a (Ty.dflt RR) hlt, drop_get k a (Ty.dflt RR) (by omega)] at hI
        simp only [allEq] at hI
        cases hq : rrEq (l.getD a (Ty.dflt RR)) (k.getD a (Ty.dflt RR)) with
        | false =>
          left
          rw [hq] at hI
          rw [← hI] at h
          simp at h
          subst h
          rfl
        | true =>
          right
          rw [hq] at hI
          exact ⟨a + 1, rfl, ⟨by omega, by simpa using hI⟩, by omega⟩
      · left
        have h4 : l.drop a = [] := List.drop_eq_nil_of_le (by omega)
        rw [h4] at hI
        rw [← hI] at h
        simp [allEq] at h
        subst h
        rw [dec_false (by omega), cond_false]
theorem allEq_self : ∀ (l : List RR.den), allEq l l = true
  | [] => rfl
  | x :: xs => by simp only [allEq, allEq_self xs, Bool.and_true]; exact (rrEq_iff x x).2 rfl
theorem allEq_iff : ∀ (l k : List RR.den), l.length = k.length → (allEq l k = true ↔ l = k)
  | [], [], _ => by simp [allEq]
  | x :: xs, y :: ys, h => by
    simp only [allEq, Bool.and_eq_true, rrEq_iff, allEq_iff xs ys (by simpa using h), List.cons.injEq]
  | [], _ :: _, h => by simp at h
  | _ :: _, [], h => by simp at h
def rrsI (l k : List RR.den) : Bool := decide (l = k)
def fs25 : FSpec := { f := 25, ins := [(.list RR, false), (.list RR, false)], outs := [(.bool, false)], F := fun (l, k, _) => .on (bigL l && bigL k) (rrsI l k, ()) }
theorem fn25 (l k : List RR.den) : evC T0 (orcOf []) (lpOf h25 0 (lsOf [ls25])) c25 1000000 (startSt [.list RR l, .list RR k] [] Try.f25.ntmps) (finishK T0 false 0 Try.f25) =
    bif (l.length : Int) != k.length then some ([.bool false], []) else bif eqC l k 0 then (bif allEq (l.drop (Int.toNat 0)) (k.drop (Int.toNat 0)) then some ([.bool true], []) else some ([.bool false], [])) else none := by kernel_rfl
theorem ok25 : fs25.Ok Try.prog := by
  refine fs_ok mixed0 tab0 (orcOf_sound [] (by simp)) h25 (d := 0) (S := lsOf [ls25]) Try.func25 (by kernel_rfl) (c := c25) (by kernel_rfl) (one_loop (x := (0, b25)) (by kernel_rfl) (one_spec (loop25 _))) (by omega) (by kernel_rfl) ?_
  intro x y h
  obtain ⟨(l : List RR.den), (k : List RR.den), _⟩ := x
  obtain ⟨hc, rfl⟩ := Tr.get_on h
  simp only [bigL, Bool.and_eq_true, decide_eq_true_eq] at hc
  refine (fn25 l k).trans ?_
  by_cases hl : l.length = k.length
  · rw [show ((l.length : Int) != k.length) = false by simp [hl], show eqC l k 0 = true by simp [eqC]; omega]
    simp only [cond_true, cond_false, Int.toNat_zero, List.drop_zero]
    cases hq : allEq l k with
    | true =>
      have := (allEq_iff l k hl).1 hq
      rw [cond_true, show rrsI l k = true from decide_eq_true this]
      rfl
    | false =>
      have : ¬ l = k := fun h => by rw [(allEq_iff l k hl).2 h] at hq; cases hq
      rw [cond_false, show rrsI l k = false from decide_eq_false this]
      rfl
  · have : ¬ l = k := fun h => hl (by rw [h])
    rw [show ((l.length : Int) != k.length) = true by simp; omega, show rrsI l k = false from decide_eq_false this]
    rfl

/-! ### derrickref07.With -/
def rwC (l acc : List RR.den) (i : Int) : Bool := decide (0 ≤ i) && decide (i ≤ l.length) && decide (acc.length + l.length ≤ 1000000000000)
def rwR (l : List RR.den) (t : Int) (acc : List RR.den) (i : Int) : List RR.den := acc ++ withL (l.drop i.toNat) t
def ls26 : LoopSpec := { bid := 0, sh := [.d (.list RR) false, .d U32 false, .row 0, .d (.int .i64) false], so := [.row RR], F := fun (l, t, i, _) (acc, _) => .on (rwC l acc i) (.exit 0, [.rowA 0], [.row RR (rwR l t acc i)]) }
noncomputable def b26 : Code := nthLoop c26 0
theorem round26 (orc : Orc) (lp : Lp) (l acc : List RR.den) (t i : Int) : evC T0 orc lp b26 0 (stOf [0, 1, 5, 6] [.list RR l, .int .u32 t, .rowA 0, .int .i64 i] [.row RR acc]) (roundK [0, 1, 5, 6] [5] 0) =
    bif decide (i < (l.length : Int)) then (bif decide (0 ≤ i) then (bif decide (i < (l.length : Int)) then (bif fits (acc.length + 1) 40 then
      some (.inl (stOf [0, 1, 5, 6] [.list RR l, .int .u32 t, .rowA 0, .int .i64 (IntKind.wrap .i64 (i + 1))] [.row RR (acc ++ [setT (l.getD i.toNat (Ty.dflt RR)) t])])) else none) else none) else none)
    else some (.inr (.exit 0, stOf [5] [.rowA 0] [.row RR acc])) := by kernel_rfl
theorem loop26 (orc : Orc) : ls26.Ok T0 orc h26 0 0 b26 := by
  intro q _ x y r h
  obtain ⟨(l : List RR.den), (t : Int), (i : Int), _⟩ := x
  obtain ⟨(acc : List RR.den), _⟩ := y
  obtain ⟨hc, rfl⟩ := Tr.get_on h
  simp only [rwC, Bool.and_eq_true, decide_eq_true_eq] at hc
  obtain ⟨⟨h0, h1⟩, h2⟩ := hc
  have hi : ((i.toNat : Nat) : Int) = i := Int.toNat_of_nonneg h0
  have key := loop_wf (F := fun st => evC T0 orc (lpN T0 orc h26 0 q) b26 0 st (roundK [0, 1, 5, 6] [5] 0)) (fun a : List RR.den × Nat => stOf [0, 1, 5, 6] [.list RR l, .int .u32 t, .rowA 0, .int .i64 a.2] [.row RR a.1])
    (fun a => a.2 ≤ l.length ∧ a.1.length + (l.length - a.2) ≤ 1000000000000 ∧ a.1 ++ withL (l.drop a.2) t = rwR l t acc i) (fun a => l.length - a.2) (.exit 0, stOf [5] [.rowA 0] [.row RR (rwR l t acc i)]) ?_ (acc, i.toNat) ⟨by simp only; omega, by simp only; omega, rfl⟩
  · simp only [hi] at key
    exact key
  · rintro ⟨m, k⟩ ⟨hk, hl, hI⟩
    simp only at hk hl hI ⊢
    rw [round26]
    by_cases hlt : k < l.length
    · right
      refine ⟨(m ++ [setT (l.getD k (Ty.dflt RR)) t], k + 1), ?_, ⟨by simp only; omega, by simp only [List.length_append, List.length_singleton]; omega, ?_⟩, by simp only; omega⟩
      · simp only [dec_true (show (k : Int) < l.length by omega), dec_true (show (0 : Int) ≤ k by omega), cond_true, fits_true (show (m.length + 1) * 40 ≤ 70368744177664 by omega) (by omega), IntWalk.i64_in (k + 1 : Int) (by omega), int_nat]
        rfl
      · rw [← hI, drop_get l k (Ty.dflt RR) hlt]
        simp [withL]
    · left
      rw [dec_false (by omega), cond_false]
      have : l.drop k = [] := List.drop_eq_nil_of_le (by omega)
      rw [← hI, this]
      simp [withL]
def fs26 : FSpec := { f := 26, ins := [(.list RR, false), (U32, false)], outs := [(.list RR, false)], F := fun (l, t, _) => .on (bigL l) (withL l t, ()) }
theorem fn26 (l : List RR.den) (t : Int) : evC T0 (orcOf []) (lpOf h26 0 (lsOf [ls26])) c26 1000000 (startSt [.list RR l, .int .u32 t] [] Try.f26.ntmps) (finishK T0 false 0 Try.f26) =
    bif rwC l [] 0 then some ([.list RR (rwR l t [] 0)], []) else none := by kernel_rfl
theorem ok26 : fs26.Ok Try.prog := by
  refine fs_ok mixed0 tab0 (orcOf_sound [] (by simp)) h26 (d := 0) (S := lsOf [ls26]) Try.func26 (by kernel_rfl) (c := c26) (by kernel_rfl) (one_loop (x := (0, b26)) (by kernel_rfl) (one_spec (loop26 _))) (by omega) (by kernel_rfl) ?_
  intro x y h
  obtain ⟨(l : List RR.den), (t : Int), _⟩ := x
  obtain ⟨hc, rfl⟩ := Tr.get_on h
  simp only [bigL, decide_eq_true_eq] at hc
  refine (fn26 l t).trans ?_
  rw [show rwC l [] 0 = true by simp [rwC]; omega]
  simp [rwR]
  rfl

end Go.Proofs.YtgiofacmcpakoaaE
