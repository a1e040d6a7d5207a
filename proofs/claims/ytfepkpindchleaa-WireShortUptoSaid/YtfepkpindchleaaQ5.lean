/- Names in packs, and names taken: what laws ask. -/
import Derived.Test.YtfepkpindchleaaQ4
namespace Go.Proofs.YtfepkpindchleaaE
open Go Go.Proofs.YtfepkpindchleaaB
set_option linter.unusedVariables false
set_option linter.unusedSimpArgs false
theorem may_iff {n : List UInt8} : mayV n = true ↔ rootV n = true ∧ n.length ≤ 255 ∧ isLow n := by
  unfold mayV isLow
  rw [ble_iff]
  simp
/-- A name put: where it stands, what is known then, how many bytes it took. -/
theorem name_put {n S : List UInt8} {L : Known} (hm : mayV n = true) (hP : PI S L) :
    ∃ T N', (nameP n S L).1 = S ++ T ∧ (nameP n S L).2 = L ++ N' ∧ PI (S ++ T) (L ++ N') ∧ Rd (S ++ T) S.length S.length n (S ++ T).length := by
  obtain ⟨h1, h2, h3⟩ := may_iff.1 hm
  obtain ⟨T, N', a1, a2, a3, a4⟩ := nameP_rd _ n S L [] S [] rfl h1 h3 hP (by simp) (fun q b h => by simp at h)
  rw [List.append_nil] at a1 a2
  refine ⟨T, N', a1, a2, fun q b hq => ?_, a3⟩
  rcases List.mem_append.1 hq with hq | hq
  · exact hP.mono T q b hq
  · exact a4 q b hq
theorem root_len {n : List UInt8} (hr : rootV n = true) (h : n ≠ [0]) : 3 ≤ n.length := by
  rcases root_cases hr with rfl | ⟨_, _, hlt, _, hne, _⟩
  · exact absurd rfl h
  · omega
theorem nameL_mono : ∀ (m : Nat) (n S : List UInt8) (L : Known), n.length = m → S.length ≤ (nameL n S L).2.2.1.length := by
  intro m
  induction m using Nat.strongRecOn with
  | _ m ih =>
    intro n S L hm
    by_cases h0 : n = [0]
    · rw [h0, nameL_root]; exact Nat.le_refl _
    · cases hlk : lookK n L with
      | some a => rw [nameL_known h0 hlk]; exact Nat.le_refl _
      | none =>
        by_cases h1 : n = []
        · rw [nameL, if_neg h0]; simp only [hlk, dif_pos h1]; exact Nat.le_refl _
        · rw [nameL_next h0 h1 hlk]
          have := ih (tlN n).length (by have := tlN_lt h1; omega) (tlN n) (S ++ hdN n) (if S.length < 16384 then L ++ [(n, (S.length : Int))] else L) rfl
          rw [List.length_append] at this
          omega
theorem nameL_len : ∀ (m : Nat) (n S : List UInt8) (L : Known), n.length = m → rootV n = true → (nameP n S L).1.length ≤ S.length + n.length ∧ S.length + 1 ≤ (nameP n S L).1.length ∧ (nameP n S L).2.length ≤ L.length + n.length := by
  intro m n S L hm hr
  obtain ⟨f1, f2, f3, f4, f5, f6⟩ := nameL_facts _ n S L rfl hr
  have f7 := nameL_mono _ n S L rfl
  unfold nameP
  rw [List.length_append]
  cases h : (nameL n S L).1 with
  | none =>
    have := f1 h
    rw [this] at f3
    simp only [endN, List.length_cons, List.length_nil] at f3 ⊢
    omega
  | some a =>
    have hne : (nameL n S L).2.1.length ≥ 3 := by
      -- what is left is known: it is no root
      have : ∀ (m : Nat) (n S : List UInt8) (L : Known), n.length = m → rootV n = true → ∀ a, (nameL n S L).1 = some a → 3 ≤ (nameL n S L).2.1.length := by
        intro m
        induction m using Nat.strongRecOn with
        | _ m ih =>
          intro n S L hm hr a ha
          rcases root_cases hr with rfl | ⟨hn0, hn1, hlt, h63, hne, hrt⟩
          · rw [nameL_root] at ha; cases ha
          · cases hlk : lookK n L with
            | some a' => rw [nameL_known hn0 hlk]; exact root_len hr hn0
            | none =>
              rw [nameL_next hn0 hn1 hlk] at ha ⊢
              exact ih (tlN n).length (by have := tlN_lt hn1; omega) _ _ _ rfl hrt a ha
      exact this _ n S L rfl hr a h
    simp only [endN, put16_len]
    omega
/-! ### What is taken -/
/-- Labels, so far. -/
def LP (out : List UInt8) : Prop := isLow out ∧ ∀ r, (eachF (out ++ r)).2 = (eachF r).2
theorem LP_nil : LP [] := ⟨rfl, fun r => rfl⟩
theorem LP_on {out v : List UInt8} {c : UInt8} (h : LP out) (h0 : c.toNat ≠ 0) (h63 : c.toNat ≤ 63) (hv : v.length = c.toNat) : LP (out ++ c :: foldB v) := by
  refine ⟨isLow_app.2 ⟨h.1, ?_⟩, fun r => ?_⟩
  · unfold isLow
    rw [foldB_cons, lowB_small h63, foldB_fold]
  · rw [List.append_assoc, h.2, List.cons_append, eachF, if_neg (by simp [foldB_len, hv]; omega)]
    simp only
    rw [List.drop_append_of_le_length (by simp [foldB_len, hv]), List.drop_eq_nil_of_le (by simp [foldB_len, hv])]
    rfl
theorem takeG_may {s : List UInt8} : ∀ (m : Nat) (at_ from_ b : Int) (out n : List UInt8) (next : Int), msT s at_ from_ = m → LP out → takeG s at_ from_ b out = some (n, next) →
    mayV n = true ∧ (0 ≤ b → next = b) ∧ (b < 0 → at_ < next ∧ next ≤ s.length) ∧ 0 ≤ at_ := by
  intro m
  induction m using Nat.strongRecOn with
  | _ m ih =>
    intro at_ from_ b out n next hm hL h
    cases h1 : someB s at_ 1 with
    | false => rw [takeG_out h1] at h; cases h
    | true =>
      have hs1 := someB_iff.1 h1
      by_cases h192 : 192 ≤ szT s at_
      · by_cases h3 : someB s at_ 2 = true ∧ toT s at_ < from_
        · rw [takeG_ptr h1 h192 h3.1 h3.2] at h
          have hto := toT_in s at_
          obtain ⟨a1, a2, a3, a4⟩ := ih (msT s (toT s at_) (toT s at_)) (by have := msT_to (s := s) (at_ := at_) hto.1 h3.2; omega) _ _ _ _ _ _ rfl hL h
          have hs2 := someB_iff.1 h3.1
          refine ⟨a1, fun hb => ?_, fun hb => ?_, hs1.1⟩
          · rw [if_neg (by omega)] at a2
            exact a2 hb
          · rw [if_pos hb] at a2
            have := a2 (by omega)
            omega
        · rw [takeG_bad h1 h192 h3] at h; cases h
      · by_cases h63 : 63 < szT s at_
        · rw [takeG_mid h1 h192 h63] at h; cases h
        · by_cases h4 : someB s (at_ + 1) (szT s at_) = true ∧ out.length + 1 + szT s at_ ≤ 255
          · have hs4 := someB_iff.1 h4.1
            have hvl : (someV s (at_ + 1) (szT s at_ : Int)).length = szT s at_ := by rw [someV_len h4.1]; omega
            by_cases h0 : szT s at_ = 0
            · rw [takeG_end h1 h0 (by omega)] at h
              cases h
              refine ⟨may_iff.2 ⟨?_, by simp; omega, isLow_app.2 ⟨hL.1, by unfold isLow; decide⟩⟩, fun hb => by rw [if_neg (by omega)], fun hb => by rw [if_pos hb]; omega, hs1.1⟩
              unfold rootV
              rw [hL.2, eachF, if_pos (by decide)]
              rfl
            · rw [takeG_on h1 (by omega) h0 h4.1 h4.2] at h
              have hg : (s.getD at_.toNat 0).toNat = szT s at_ := rfl
              obtain ⟨a1, a2, a3, a4⟩ := ih (msT s (at_ + 1 + szT s at_) from_) (by have := msT_on (s := s) (from_ := from_) hs1.1 hs4.2.2; omega) _ _ _ _ _ _ rfl (LP_on hL (by rw [hg]; exact h0) (by rw [hg]; omega) (by rw [hg]; exact hvl)) h
              refine ⟨a1, a2, fun hb => ?_, hs1.1⟩
              have := a3 hb
              omega
          · rw [takeG_long h1 (by omega) h4] at h; cases h
/-- Nothing that is known is in the way: the name's own bytes. -/
theorem nameP_fresh : ∀ (m : Nat) (n S : List UInt8) (L : Known), n.length = m → rootV n = true → (∀ q b, (q, b) ∈ L → n.length < q.length) → (nameP n S L).1 = S ++ n := by
  intro m
  induction m using Nat.strongRecOn with
  | _ m ih =>
    intro n S L hm hr hL
    rcases root_cases hr with rfl | ⟨hn0, hn1, hlt, h63, hne, hrt⟩
    · unfold nameP; rw [nameL_root]; rfl
    · have hlk : lookK n L = none := by
        have := look_app (n := n) (L := []) (N := L) fun q b hq e => by have := hL q b hq; rw [e] at this; omega
        exact this
      have hlt2 := tlN_lt hn1
      have : nameP n S L = nameP (tlN n) (S ++ hdN n) (if S.length < 16384 then L ++ [(n, (S.length : Int))] else L) := by
        unfold nameP
        rw [nameL_next hn0 hn1 hlk]
      rw [this, ih (tlN n).length (by omega) (tlN n) _ _ rfl hrt (fun q b hq => by
        split at hq
        · rcases List.mem_append.1 hq with hq | hq
          · have := hL q b hq; omega
          · simp at hq; rw [hq.1]; exact hlt2
        · have := hL q b hq; omega)]
      rw [List.append_assoc]
      congr 1
      exact List.take_append_drop _ n
/-- A name by itself stands as it is. -/
theorem Rd_self (n A X : List UInt8) (hr : rootV n = true) (hl : isLow n) : Rd (A ++ (n ++ X)) A.length A.length n (A.length + n.length) := by
  obtain ⟨T, N', a1, a2, a3, a4⟩ := nameP_rd _ n A [] [] A [] rfl hr hl (fun q b h => by simp at h) (by simp) (fun q b h => by simp at h)
  have hk := nameP_fresh _ n A [] rfl hr (fun q b h => by simp at h)
  rw [List.append_nil] at a1
  have hT : T = n := List.append_cancel_left (a1.symm.trans hk)
  subst hT
  have := a3.mono X
  rw [List.append_assoc, List.length_append] at this
  exact this
theorem takeG_self {n X : List UInt8} (hm : mayV n = true) : takeG (n ++ X) 0 0 (-1) [] = some (n, (n.length : Int)) := by
  obtain ⟨h1, h2, h3⟩ := may_iff.1 hm
  have := takeG_rd (Rd_self n [] X h1 h3) (-1) [] (by simpa using h2)
  simpa using this
/-- A name that is put into an empty pack takes its bytes. -/
theorem nameP_self {n : List UInt8} (hm : mayV n = true) : (nameP n [] []).1 = n := by
  obtain ⟨h1, h2, h3⟩ := may_iff.1 hm
  simpa using nameP_fresh _ n [] [] rfl h1 (fun q b h => by simp at h)
end Go.Proofs.YtfepkpindchleaaE
