/- name.Labels: a function on data. -/
import Derived.Test.YtfepkpindchleaaB3
namespace Go.Proofs.YtfepkpindchleaaE
open Go Go.Proofs.YtfepkpindchleaaB
set_option linter.unusedVariables false
set_option linter.unusedSimpArgs false
/-- A text's labels; whether they end in the root. -/
def labsV (s : List UInt8) : List (List UInt8) := (eachF s).1
def rootV (s : List UInt8) : Bool := (eachF s).2 == [0]
theorem strs_enc {F : Nat → Prop} {w : World} : ∀ (l : List (List UInt8)), EncL F w .str l (strs l)
  | [] => by simp [EncL, strs]
  | x :: l => by
    simp only [EncL]
    exact ⟨[.string ⟨x.toArray⟩], strs l, rfl, rfl, strs_enc l⟩
/-- A row that the callee made, as data. -/
theorem row_enc {w : World} {base : Nat} {v : Value} {l : List (List UInt8)} (h : w.ownsRow base 9 1 v l.length (strs l)) {F : Nat → Prop} (hF : ∀ b, v.ownBlock = some b → F b) : Enc F w (.list .str) l [v] := by
  refine enc_list.2 ?_
  rcases h.2 with ⟨rfl, h0⟩ | ⟨g, cap, cur, rfl, hb, hg, hle, hcap, hcs, htk⟩
  · have : l = [] := List.length_eq_zero_iff.1 h0
    subst this
    exact ⟨none, 0, rfl, by simp, fun _ => rfl, fun a ha => by cases ha⟩
  · refine ⟨some ⟨g, 0, none⟩, cap, rfl, hle, fun h => (by cases h), fun a ha _ => ?_⟩
    cases ha
    refine ⟨rfl, hF g rfl, encL_lies (strs_enc l) fun j u hu => ?_⟩
    have := h.cells (g := g) rfl j u hu
    rw [addr_add] at this
    exact this
theorem labels_sem (s : List UInt8) (hb : bigS s = true) : SemF Try.prog 58 [.str s] []
    (if (eachF s).2 = [0] then (if s.length ≤ 255 then [.list .str (labsV s), .int .i64 0] else [.list .str [], .int .i64 3]) else [.list .str [], .int .i64 2]) [] := by
  have hs : s.length ≤ 1000000000000 := by simpa [bigS] using hb
  refine ⟨⟨_, Try.func58, by decide, by kernel_rfl⟩, fun w μ F us hh hv => ?_⟩
  simp only [VRelL, VRel] at hv
  obtain ⟨u, us', rfl, rfl, rfl⟩ := hv
  have h := callsIn_wide.1 (Labels_in 3 (by omega) s hs w)
  refine h.mono ?_
  rintro e w' ⟨v, rfl, u, en, rfl, hB, hc⟩
  have hμ : ∀ k, μ k = .none := fun k => hh.top k (by simp)
  refine ⟨_, rfl, fun _ => .none, fun b => F b ∨ (w.heap.size ≤ b ∧ b < w'.heap.size), ?_, ⟨fun k hk => by simp at hk, fun _ _ => rfl, fun k k' b h => by simp [Pl.owns] at h, fun k b h => by simp [Pl.owns] at h, fun b hb => ?_⟩,
    ⟨hB.os, hB.tape, hB.output, hB.size, fun b hb _ => hB.block b hb, fun b hb => .inl hb, fun b hb => ?_, fun k b h => by simp [Pl.owns] at h⟩, by simp, fun k b hk => by simp at hk, fun k b hk => by simp at hk⟩
  · rcases hc with ⟨h1, rfl, rfl⟩ | ⟨h1, h2, rfl, rfl⟩ | ⟨h1, h2, rfl, hrow⟩
    · rw [if_neg h1]
      simp only [tupled, VRel, VRelL]
      exact ⟨_, rfl, _, _, rfl, ⟨none, 0, rfl, by simp, fun _ => rfl, fun a ha => by cases ha⟩, _, _, rfl, rfl, rfl⟩
    · rw [if_pos h1, if_neg (by omega)]
      simp only [tupled, VRel, VRelL]
      exact ⟨_, rfl, _, _, rfl, ⟨none, 0, rfl, by simp, fun _ => rfl, fun a ha => by cases ha⟩, _, _, rfl, rfl, rfl⟩
    · rw [if_pos h1, if_pos h2]
      simp only [tupled, VRel, VRelL]
      refine ⟨_, rfl, _, _, rfl, row_enc hrow (fun b hb => .inr ?_), _, _, rfl, rfl, rfl⟩
      have := hrow.lt b hb
      omega
  · rcases hb with hb | hb
    · exact Nat.lt_of_lt_of_le (hh.inn b hb) hB.size
    · exact hb.2
  · rcases hb with hb | hb
    · exact .inl hb
    · exact .inr (.inr hb.1)
def fs58 : FSpec := { f := 58, ins := [(.str, false)], outs := [(.list .str, false), (.int .i64, false)], F := fun (s, _) => .br (bigS s) (.br (rootV s) (.br (decide (s.length > 255)) (.ret (([] : List (List UInt8)), (3 : Int), ())) (.ret (labsV s, (0 : Int), ()))) (.ret (([] : List (List UInt8)), (2 : Int), ()))) .no }
theorem okf58 : fs58.Ok Try.prog := by
  rintro ⟨(s : List UInt8), _⟩ y h
  simp only [fs58, Tr.get] at h
  cases hb : bigS s with
  | false => rw [hb] at h; cases h
  | true =>
    rw [hb, cond_true] at h
    have := labels_sem s hb
    cases hr : rootV s with
    | false =>
      rw [hr, cond_false] at h
      cases h
      have hne : (eachF s).2 ≠ [0] := by simpa [rootV] using hr
      rw [if_neg hne] at this
      exact this
    | true =>
      rw [hr, cond_true] at h
      have he : (eachF s).2 = [0] := by simpa [rootV] using hr
      rw [if_pos he] at this
      by_cases hl : s.length ≤ 255
      · rw [if_pos hl] at this
        rw [show decide (s.length > 255) = false by simp; omega, cond_false] at h
        cases h
        exact this
      · rw [if_neg hl] at this
        rw [show decide (s.length > 255) = true by simp; omega, cond_true] at h
        cases h
        exact this
end Go.Proofs.YtfepkpindchleaaE
