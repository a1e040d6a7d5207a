/- ttl: the least of some numbers. -/
import Derived.Test.YtgiofacmcpakoaaETab
import Derived.Test.YtgiofacmcpakoaaE28
namespace Go.Proofs.YtgiofacmcpakoaaE
open Go
set_option linter.unusedVariables false
abbrev U32 : Ty := .int .u32
abbrev RR : Ty := .pair .str (.pair (.int .u16) (.pair (.int .u16) (.pair (.int .u32) .str)))
def ttlOf (x : RR.den) : Int := x.2.2.2.1
def minI (x y : Int) : Int := if y < x then y else x
def minL : List Int → Int
  | [] => 0
  | x :: xs => xs.foldl minI x

/-! ### slices.Min -/
def minC (l : List Int) (i : Int) : Bool := decide (0 ≤ i) && decide (i ≤ l.length) && decide (l.length ≤ 70368744177664)
def minR (l : List Int) (m i : Int) : Int := (l.drop i.toNat).foldl minI m
def ls52 : LoopSpec := { bid := 0, sh := [.d (.list U32) false, .d U32 false, .d (.int .i64) false], so := [], F := fun (l, m, i, _) _ => .on (minC l i) (.exit 0, [.int .u32 (minR l m i)], []) }
noncomputable def b52 : Code := nthLoop c52 0
theorem round52 (orc : Orc) (lp : Lp) (l : List Int) (m i : Int) : evC T0 orc lp b52 0 (stOf [0, 3, 4] [.list U32 l, .int .u32 m, .int .i64 i] []) (roundK [0, 3, 4] [3] 0) =
    bif decide (i < (l.length : Int)) then req (decide (0 ≤ i)) (req (decide (i < (l.length : Int))) (some (.inl (stOf [0, 3, 4] [.list U32 l, .int .u32 (minI m (l.getD i.toNat 0)), .int .i64 (IntKind.wrap .i64 (i + 1))] []))))
    else some (.inr (.exit 0, stOf [3] [.int .u32 m] [])) := by kernel_rfl
theorem loop52 (orc : Orc) : ls52.Ok T0 orc h52 0 0 b52 := by
  intro n _ x y r h
  obtain ⟨(l : List Int), (m : Int), (i : Int), _⟩ := x
  obtain ⟨hc, rfl⟩ := Tr.get_on h
  simp only [minC, Bool.and_eq_true, decide_eq_true_eq] at hc
  obtain ⟨⟨h0, h1⟩, h2⟩ := hc
  have hi : ((i.toNat : Nat) : Int) = i := Int.toNat_of_nonneg h0
  have key := loop_wf (F := fun st => evC T0 orc (lpN T0 orc h52 0 n) b52 0 st (roundK [0, 3, 4] [3] 0)) (fun a : Int × Nat => stOf [0, 3, 4] [.list U32 l, .int .u32 a.1, .int .i64 a.2] [])
    (fun a => a.2 ≤ l.length ∧ (l.drop a.2).foldl minI a.1 = minR l m i) (fun a => l.length - a.2) (.exit 0, stOf [3] [.int .u32 (minR l m i)] []) ?_ (m, i.toNat) ⟨by omega, rfl⟩
  · simp only [hi] at key
    exact key
  · rintro ⟨m', k⟩ ⟨hk, hI⟩
    simp only at hk hI ⊢
    rw [round52]
    by_cases hlt : k < l.length
    · right
      refine ⟨(minI m' (l.getD k 0), k + 1), ?_, ⟨by simp only; omega, ?_⟩, by simp only; omega⟩
      · simp only [dec_true (show (k : Int) < l.length by omega), dec_true (show (0 : Int) ≤ k by omega), cond_true, req, IntWalk.i64_in (k + 1 : Int) (by omega), int_nat]
        rfl
      · rw [← hI, drop_get l k 0 hlt]
        rfl
    · left
      rw [dec_false (by omega), cond_false]
      have : l.drop k = [] := List.drop_eq_nil_of_le (by omega)
      rw [← hI, this]
      rfl

/-- slices.Min, of some. -/
def minP (l : List Int) : Bool := decide (1 ≤ l.length) && decide (l.length ≤ 70368744177664)
def fs52 : FSpec := { f := 52, ins := [(.list U32, false)], outs := [(U32, false)], F := fun (l, _) => .on (minP l) (minL l, ()) }
theorem fn52 (l : List Int) : evC T0 (orcOf []) (lpOf h52 0 (lsOf [ls52])) c52 1000000 (startSt [.list U32 l] [] Try.f52.ntmps) (finishK T0 false 0 Try.f52) =
    bif decide ((l.length : Int) < 1) then none else bif decide ((0 : Int) < l.length) then (bif minC l 1 then some ([.int .u32 (minR l (l.getD (Int.toNat 0) 0) 1)], []) else none) else none := by kernel_rfl
theorem ok52 : fs52.Ok Try.prog := by
  refine fs_ok mixed0 tab0 (orcOf_sound [] (by simp)) h52 (d := 0) (S := lsOf [ls52]) Try.func52 (by kernel_rfl) (c := c52) (by kernel_rfl) (one_loop (x := (0, b52)) (by kernel_rfl) (one_spec (loop52 _))) (by omega) (by kernel_rfl) ?_
  intro x y h
  obtain ⟨(l : List Int), _⟩ := x
  obtain ⟨hc, rfl⟩ := Tr.get_on h
  simp only [minP, Bool.and_eq_true, decide_eq_true_eq] at hc
  obtain ⟨h1, h2⟩ := hc
  refine (fn52 l).trans ?_
  have : minC l 1 = true := by simp [minC]; omega
  rw [this, dec_false (by omega), dec_true (by omega)]
  cases l with
  | nil => simp at h1
  | cons a l => rfl

/-! ### least -/
def leastOk (l : List Int) : Bool := decide (l.length ≤ 70368744177664)
def fs44 : FSpec := { f := 44, ins := [(.list U32, false)], outs := [(U32, false)], F := fun (l, _) => .on (leastOk l) (minL l, ()) }
theorem fn44 (l : List Int) : evC T0 (orcOf [fs52]) (lpOf h44 0 (lsOf [])) c44 1000000 (startSt [.list U32 l] [] Try.f44.ntmps) (finishK T0 false 0 Try.f44) =
    bif ((l.length : Int) == 0) then some ([.int .u32 0], []) else bif minP l then some ([.int .u32 (minL l)], []) else none := by kernel_rfl
theorem ok44 : fs44.Ok Try.prog := by
  refine fs_ok mixed0 tab0 (orcOf_sound [fs52] (by simp [ok52])) h44 (d := 0) (S := lsOf []) Try.func44 (by kernel_rfl) (c := c44) (by kernel_rfl) (no_loops (by kernel_rfl)) (by omega) (by kernel_rfl) ?_
  intro x y h
  obtain ⟨(l : List Int), _⟩ := x
  obtain ⟨hc, rfl⟩ := Tr.get_on h
  simp only [leastOk, decide_eq_true_eq] at hc
  refine (fn44 l).trans ?_
  cases l with
  | nil => rfl
  | cons a l =>
    have : minP (a :: l) = true := by simp [minP]; simpa using hc
    rw [this, show (((a :: l).length : Int) == 0) = false by simp; omega]
    rfl

/-! ### Least -/
def ttls (l : List RR.den) : List Int := l.map ttlOf
def lC (l : List RR.den) (n i : Int) (acc : List Int) : Bool := decide (n = l.length) && decide (0 ≤ i) && decide (i ≤ n) && decide (acc.length + l.length ≤ 1000000000000)
def ls22 : LoopSpec := { bid := 0, sh := [.row 0, .d (.list RR) false, .d (.int .i64) false, .d (.int .i64) false], so := [.row U32], F := fun (l, n, i, _) (acc, _) => .on (lC l n i acc) (.exit 0, [.rowA 0], [.row U32 (acc ++ ttls (l.drop i.toNat))]) }
noncomputable def b22 : Code := nthLoop c22 0
theorem round22 (orc : Orc) (lp : Lp) (l : List RR.den) (n i : Int) (acc : List Int) : evC T0 orc lp b22 0 (stOf [3, 6, 7, 8] [.rowA 0, .list RR l, .int .i64 n, .int .i64 i] [.row U32 acc]) (roundK [3, 6, 7, 8] [3] 0) =
    bif decide (i < n) then (bif decide (0 ≤ i) then (bif decide (i < (l.length : Int)) then (bif fits (acc.length + 1) 4 then some (.inl (stOf [3, 6, 7, 8] [.rowA 0, .list RR l, .int .i64 n, .int .i64 (IntKind.wrap .i64 (i + 1))] [.row U32 (acc ++ [ttlOf (l.getD i.toNat (Ty.dflt RR))])])) else none) else none) else none)
    else some (.inr (.exit 0, stOf [3] [.rowA 0] [.row U32 acc])) := by kernel_rfl
theorem loop22 (orc : Orc) : ls22.Ok T0 orc h22 0 0 b22 := by
  intro q _ x y r h
  obtain ⟨(l : List RR.den), (n : Int), (i : Int), _⟩ := x
  obtain ⟨(acc : List Int), _⟩ := y
  obtain ⟨hc, rfl⟩ := Tr.get_on h
  simp only [lC, Bool.and_eq_true, decide_eq_true_eq] at hc
  obtain ⟨⟨⟨rfl, h0⟩, h1⟩, h2⟩ := hc
  have hi : ((i.toNat : Nat) : Int) = i := Int.toNat_of_nonneg h0
  have key := loop_wf (F := fun st => evC T0 orc (lpN T0 orc h22 0 q) b22 0 st (roundK [3, 6, 7, 8] [3] 0)) (fun a : List Int × Nat => stOf [3, 6, 7, 8] [.rowA 0, .list RR l, .int .i64 l.length, .int .i64 a.2] [.row U32 a.1])
    (fun a => a.2 ≤ l.length ∧ a.1.length + (l.length - a.2) ≤ 1000000000000 ∧ a.1 ++ ttls (l.drop a.2) = acc ++ ttls (l.drop i.toNat)) (fun a => l.length - a.2) (.exit 0, stOf [3] [.rowA 0] [.row U32 (acc ++ ttls (l.drop i.toNat))]) ?_ (acc, i.toNat) ⟨by simp only; omega, by simp only; omega, rfl⟩
  · simp only [hi] at key
    exact key
  · rintro ⟨m, k⟩ ⟨hk, hl, hI⟩
    simp only at hk hl hI ⊢
    rw [round22]
    by_cases hlt : k < l.length
    · right
      refine ⟨(m ++ [ttlOf (l.getD k (Ty.dflt RR))], k + 1), ?_, ⟨by simp only; omega, by simp only [List.length_append, List.length_singleton]; omega, ?_⟩, by simp only; omega⟩
      · simp only [dec_true (show (k : Int) < l.length by omega), dec_true (show (0 : Int) ≤ k by omega), cond_true, fits_true (show (m.length + 1) * 4 ≤ 70368744177664 by omega) (by omega), IntWalk.i64_in (k + 1 : Int) (by omega), int_nat]
        rfl
      · rw [← hI, drop_get l k (Ty.dflt RR) hlt]
        simp [ttls]
    · left
      rw [dec_false (by omega), cond_false]
      have : l.drop k = [] := List.drop_eq_nil_of_le (by omega)
      rw [← hI, this]
      simp [ttls]

def bigL (l : List RR.den) : Bool := decide (l.length ≤ 1000000)
def fs22 : FSpec := { f := 22, ins := [(.list RR, false)], outs := [(U32, false)], F := fun (l, _) => .on (bigL l) (minL (ttls l), ()) }

theorem fn22 (l : List RR.den) : evC T0 (orcOf [fs44]) (lpOf h22 0 (lsOf [ls22])) c22 1000000 (startSt [.list RR l] [] Try.f22.ntmps) (finishK T0 false 0 Try.f22) =
    bif lC l l.length 0 [] then (bif leastOk ([] ++ ttls (l.drop (Int.toNat 0))) then some ([.int .u32 (minL ([] ++ ttls (l.drop (Int.toNat 0))))], []) else none) else none := by kernel_rfl
theorem ok22 : fs22.Ok Try.prog := by
  refine fs_ok mixed0 tab0 (orcOf_sound [fs44] (by simp [ok44])) h22 (d := 0) (S := lsOf [ls22]) Try.func22 (by kernel_rfl) (c := c22) (by kernel_rfl) (one_loop (x := (0, b22)) (by kernel_rfl) (one_spec (loop22 _))) (by omega) (by kernel_rfl) ?_
  intro x y h
  obtain ⟨(l : List RR.den), _⟩ := x
  obtain ⟨hc, rfl⟩ := Tr.get_on h
  simp only [bigL, decide_eq_true_eq] at hc
  refine (fn22 l).trans ?_
  have h1 : lC l l.length 0 [] = true := by simp [lC]; omega
  have h2 : leastOk ([] ++ ttls (l.drop (Int.toNat 0))) = true := by simp [leastOk, ttls]; omega
  rw [h1, h2]
  rfl

/-! ### Until, Left, Live; the example -/
abbrev U64 : Ty := .int .u64
def untilI (a b : Int) : Int := bif decide (IntKind.wrap .u64 b > IntKind.wrap .u64 (18446744073709551615 - a)) then 18446744073709551615 else IntKind.wrap .u64 (a + IntKind.wrap .u64 b)
def leftI (a b : Int) : Int := bif !(decide (a > b)) then 0 else IntKind.wrap .u32 (if 4294967295 < IntKind.wrap .u64 (a - b) then 4294967295 else IntKind.wrap .u64 (a - b))
def fs15 : FSpec := { f := 15, ins := [(U64, false), (U32, false)], outs := [(U64, false)], F := fun (a, b, _) => .ret (untilI a b, ()) }
def fs17 : FSpec := { f := 17, ins := [(U64, false), (U64, false)], outs := [(.bool, false)], F := fun (a, b, _) => .ret (decide ((a : Int) > b), ()) }
def fs16 : FSpec := { f := 16, ins := [(U64, false), (U64, false)], outs := [(U32, false)], F := fun (a, b, _) => .ret (leftI a b, ()) }
theorem fn15 (a b : Int) : evC T0 (orcOf []) (lpOf h15 0 (lsOf [])) c15 1000000 (startSt [.int .u64 a, .int .u32 b] [] Try.f15.ntmps) (finishK T0 false 0 Try.f15) =
    bif decide (IntKind.wrap .u64 b > IntKind.wrap .u64 (18446744073709551615 - a)) then some ([.int .u64 18446744073709551615], []) else some ([.int .u64 (IntKind.wrap .u64 (a + IntKind.wrap .u64 b))], []) := by kernel_rfl
theorem ok15 : fs15.Ok Try.prog := by
  refine fs_ok mixed0 tab0 (orcOf_sound [] (by simp)) h15 (d := 0) (S := lsOf []) Try.func15 (by kernel_rfl) (c := c15) (by kernel_rfl) (no_loops (by kernel_rfl)) (by omega) (by kernel_rfl) ?_
  intro x y h
  obtain ⟨(a : Int), (b : Int), _⟩ := x
  cases h
  refine (fn15 a b).trans ?_
  cases hc : decide (IntKind.wrap .u64 b > IntKind.wrap .u64 (18446744073709551615 - a)) <;> simp only [fs15, untilI, hc, cond_true, cond_false] <;> rfl
theorem ok17 : fs17.Ok Try.prog := by
  refine fs_ok mixed0 tab0 (orcOf_sound [] (by simp)) h17 (d := 0) (S := lsOf []) Try.func17 (by kernel_rfl) (c := c17) (by kernel_rfl) (no_loops (by kernel_rfl)) (by omega) (by kernel_rfl) ?_
  intro x y h
  obtain ⟨(a : Int), (b : Int), _⟩ := x
  cases h
  have : ∀ (a b : Int), evC T0 (orcOf []) (lpOf h17 0 (lsOf [])) c17 1000000 (startSt [.int .u64 a, .int .u64 b] [] Try.f17.ntmps) (finishK T0 false 0 Try.f17) = some ([.bool (decide (a > b))], []) := fun a b => by kernel_rfl
  exact this a b
theorem fn16 (a b : Int) : evC T0 (orcOf [fs17]) (lpOf h16 0 (lsOf [])) c16 1000000 (startSt [.int .u64 a, .int .u64 b] [] Try.f16.ntmps) (finishK T0 false 0 Try.f16) =
    bif !(decide (a > b)) then some ([.int .u32 0], []) else some ([.int .u32 (IntKind.wrap .u32 (if 4294967295 < IntKind.wrap .u64 (a - b) then 4294967295 else IntKind.wrap .u64 (a - b)))], []) := by kernel_rfl
theorem ok16 : fs16.Ok Try.prog := by
  refine fs_ok mixed0 tab0 (orcOf_sound [fs17] (by simp [ok17])) h16 (d := 0) (S := lsOf []) Try.func16 (by kernel_rfl) (c := c16) (by kernel_rfl) (no_loops (by kernel_rfl)) (by omega) (by kernel_rfl) ?_
  intro x y h
  obtain ⟨(a : Int), (b : Int), _⟩ := x
  cases h
  refine (fn16 a b).trans ?_
  cases hc : (!(decide (a > b))) <;> simp only [fs16, leftI, hc, cond_true, cond_false] <;> rfl

def fs14 : FSpec := { f := 14, ins := [], outs := [(.bool, false)], F := fun _ => .ret (true, ()) }
theorem ok14 : fs14.Ok Try.prog := by
  refine fs_ok mixed0 tab0 (orcOf_sound [fs15, fs16, fs17] (by simp [ok15, ok16, ok17])) h14 (d := 0) (S := lsOf []) Try.func14 (by kernel_rfl) (c := c14) (by kernel_rfl) (no_loops (by kernel_rfl)) (by omega) (by kernel_rfl) ?_
  intro x y h
  cases h
  have : evC T0 (orcOf [fs15, fs16, fs17]) (lpOf h14 0 (lsOf [])) c14 1000000 (startSt [] [] Try.f14.ntmps) (finishK T0 false 0 Try.f14) = some ([.bool true], []) := by kernel_rfl
  exact this

end Go.Proofs.YtgiofacmcpakoaaE
