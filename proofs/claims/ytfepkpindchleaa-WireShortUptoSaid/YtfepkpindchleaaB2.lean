/- name.each: what it yields. -/
import Derived.RangeFuncBox
import Derived.RangeFuncLeaves
import Derived.RangeFuncNested
import Derived.RangeFuncBound
import Derived.RangeFuncCalls
import Derived.Shelf.Abstract
import Derived.Shelf.RegionOpen
import Derived.WalkKit
import Derived.OwnWalkIn
import Derived.TacticsInMore
import Derived.LoopNIn
import Derived.LoopIn
import Derived.Maps.AppendAt
import Derived.Test.YtfepkpindchleaaW4
namespace Go.Proofs.YtfepkpindchleaaB
open Go Go.RowKit Go.Shelf
attribute [local go_sem] Oper.semAt_some
theorem under9 : Try.prog.underlying 9 = some .string := by kernel_rfl
theorem run_slice2 (s : List UInt8) (a b : Nat) (hab : a ≤ b) (hb : b ≤ s.length) (i j : Int) (hi : i = a) (hj : j = b) (W : World) :
    (Instr.slice 9 (.string ⟨s.toArray⟩) (some (.int .i64 i)) (some (.int .i64 j)) none).run Try.prog W = .ok (.string ⟨((s.drop a).take (b - a)).toArray⟩) W := by
  subst hi hj
  have hs : (⟨s.toArray⟩ : ByteArray).size = s.length := by simp [ByteArray.size]
  have h2 : (Instr.sliceBounds false s.length s.length (some (.int .i64 (a : Int))) (some (.int .i64 (b : Int))) none).run Try.prog W = .ok (a, b, s.length) W := by
    have s1 : ∀ code, (Instr.sliceBound (.int .i64 (a : Int)) b code).run Try.prog W = .ok a W := fun code => by
      have := Go.Proofs.YtfepkpindchleaaE.bound_run (P := Try.prog) (w := W) (k := .i64) (i := (a : Int)) (y := b) (by omega) code
      simpa using this
    have s2 : ∀ code, (Instr.sliceBound (.int .i64 (b : Int)) s.length code).run Try.prog W = .ok b W := fun code => by
      have := Go.Proofs.YtfepkpindchleaaE.bound_run (P := Try.prog) (w := W) (k := .i64) (i := (b : Int)) (y := s.length) (by omega) code
      simpa using this
    simp only [Instr.sliceBounds, Sem.run_bind, Sem.run_pure, Result.andThen_ok, s1, s2, Bool.false_eq_true, if_false]
  simp [Instr.slice, run_underlying under9, hs, h2, ByteArray.extract_mk]
theorem run_slice1 (s : List UInt8) (a : Nat) (ha : a ≤ s.length) (i : Int) (hi : i = a) (W : World) :
    (Instr.slice 9 (.string ⟨s.toArray⟩) (some (.int .i64 i)) none none).run Try.prog W = .ok (.string ⟨(s.drop a).toArray⟩) W := by
  subst hi
  have hs : (⟨s.toArray⟩ : ByteArray).size = s.length := by simp [ByteArray.size]
  have h2 : (Instr.sliceBounds false s.length s.length (some (.int .i64 (a : Int))) none none).run Try.prog W = .ok (a, s.length, s.length) W := by
    have s1 : ∀ code, (Instr.sliceBound (.int .i64 (a : Int)) s.length code).run Try.prog W = .ok a W := fun code => by
      have := Go.Proofs.YtfepkpindchleaaE.bound_run (P := Try.prog) (w := W) (k := .i64) (i := (a : Int)) (y := s.length) (by omega) code
      simpa using this
    simp only [Instr.sliceBounds, Sem.run_bind, Sem.run_pure, Result.andThen_ok, s1, Bool.false_eq_true, if_false]
  simp [Instr.slice, run_underlying under9, hs, h2, ByteArray.extract_mk]
  exact List.take_of_length_le (by simp)
def eachStop : List UInt8 → Prop
  | [] => True
  | c :: t => c.toNat = 0 ∨ 63 < c.toNat ∨ t.length < c.toNat
set_option maxRecDepth 100000 in
set_option maxHeartbeats 1000000 in
theorem each1_in (n : Nat) (hn : 1 ≤ n) (l Bn : Nat) (J K : List UInt8 → World → Prop)
    (hB : ∀ r W, J r W → Boxed W Bn 9 (.string ⟨r.toArray⟩)) (hd : ∀ r W d, J r W → J r { W with drawn := d })
    (hY : ∀ (c : UInt8) (t : List UInt8) W, J (c :: t) W → c.toNat ≠ 0 → c.toNat ≤ 63 → c.toNat ≤ t.length →
      YieldAt Fence.wide (n - 1) Try.prog l #[.string ⟨(t.take c.toNat).toArray⟩, .string ⟨(t.drop c.toNat).toArray⟩] W fun e W' => e = .returned (.bool true) ∧ K (c :: t) W')
    (hK : ∀ c t W, K (c :: t) W → Boxed W Bn 9 (.string ⟨(c :: t).toArray⟩) ∧ J (t.drop c.toNat) (W.setCell ⟨Bn, 0, none⟩ (.string ⟨(t.drop c.toNat).toArray⟩)))
    (W : World) (r0 : List UInt8) (h0 : J r0 W) :
    CallsIn Fence.wide n Try.prog 74 #[.func (.yield l) #[] #[], .pointer (some ⟨Bn, 0, none⟩)] W fun e W' => (∃ v, e = .returned v) ∧ ∃ r, J r W' ∧ eachStop r := by
  refine callsIn_of_wp Try.func74 rfl trivial ?_ rfl
  simp only [Try.ntmps74, List.size_toArray, List.length_cons, List.length_nil, Nat.reduceAdd, Nat.reduceSub, Array.replicate_succ, Array.replicate_zero, List.push_toArray, List.append_toArray, List.nil_append, List.cons_append]
  gi_wp2
  gi_loopw [3] (fun p wr => ∃ (r : List UInt8), J r wr)
    (fun p wr => match wr.cell? ⟨Bn, 0, none⟩ with | some (.string b) => b.size | _ => 0)
  case atStart =>
    exact ⟨r0, h0⟩
  case round =>
    obtain ⟨r, hJ⟩ := hrel
    have hb := hB r _ hJ
    have hc := hb.cell
    cases r with
    | nil =>
      gi_wp2
      gi_quiet (fail)
      gi_wp2
      go_end0
      exact ⟨⟨_, rfl⟩, _, hd _ wr _ hJ, trivial⟩
    | cons c t =>
      have hget : ({ data := (c :: t).toArray } : ByteArray)[0]'(by simp [ByteArray.size]) = c := rfl
      have hsz : ({ data := (c :: t).toArray } : ByteArray).size = t.length + 1 := by simp [ByteArray.size]
      by_cases c0 : c.toNat = 0
      · gi_wp2
        gi_quiet (fail)
        gi_wp2
        go_end0
        exact ⟨⟨_, rfl⟩, _, hd _ wr _ hJ, .inl c0⟩
      have p0 : 0 < c.toNat := by omega
      have d0 : decide (0 < c.toNat) = true := by simpa using p0
      by_cases c1 : c.toNat ≤ 63
      · have d1 : decide ((c.toNat : Int) ≤ 63) = true := by simp; omega
        by_cases c2 : c.toNat ≤ t.length
        · have d2 : decide ((c.toNat : Int) < (t.length : Int) + 1) = true := by simp; omega
          gi_wp2
          gi_quiet (fail)
          gi_wp2
          rename_i nq _ _ _ _
          have hJ2 : J (c :: t) (wr.drewN (nq + 1)) := hd _ wr _ hJ
          have hb2 := hB _ _ hJ2
          have hc2 := hb2.cell
          obtain ⟨fn, tmps, assign, body, hy, hR⟩ := hY c t _ hJ2 c0 c1 c2
          have hs1 : ∀ W : World, (Instr.slice 9 (.string ⟨(c :: t).toArray⟩) (some (.int .i64 1)) (some (.int .i64 (1 + (c.toNat : Int)))) none).run Try.prog W = .ok (.string ⟨(t.take c.toNat).toArray⟩) W := fun W => by
            rw [run_slice2 (c :: t) 1 (1 + c.toNat) (by omega) (by simp; omega) 1 _ rfl (by omega) W]
            simp
          have hs2 : ∀ W : World, (Instr.slice 9 (.string ⟨(c :: t).toArray⟩) (some (.int .i64 (1 + (c.toNat : Int)))) none none).run Try.prog W = .ok (.string ⟨(t.drop c.toNat).toArray⟩) W := fun W => by
            rw [run_slice1 (c :: t) (1 + c.toNat) (by simp; omega) _ (by omega) W]
            simp [Nat.add_comm 1]
          gi_region_with (refine RoundIn.mono hR ?_; rintro e W3 ⟨rfl, hK3⟩; obtain ⟨hb3, hJ3⟩ := hK c t _ hK3; have hc3 := hb3.cell; have hf3 := hb3.frozen)
          all_goals gi_wp2
          all_goals (refine ⟨⟨_, hJ3⟩, ?_⟩; rw [hb3.set _ |>.cell, hc]; simp [ByteArray.size]; omega)
        · have d2 : decide ((c.toNat : Int) < (t.length : Int) + 1) = false := by simp; omega
          gi_wp2
          gi_quiet (fail)
          gi_wp2
          go_end0
          exact ⟨⟨_, rfl⟩, _, hd _ wr _ hJ, .inr (.inr (by omega))⟩
      · have d1 : decide ((c.toNat : Int) ≤ 63) = false := by simp; omega
        gi_wp2
        gi_quiet (fail)
        gi_wp2
        go_end0
        exact ⟨⟨_, rfl⟩, _, hd _ wr _ hJ, .inr (.inl (by omega))⟩
end Go.Proofs.YtfepkpindchleaaB
