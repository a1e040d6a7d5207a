/- Names in packs, and names taken: how they belong together. -/
import Derived.Test.YtfepkpindchleaaQ3
namespace Go.Proofs.YtfepkpindchleaaE
open Go Go.Proofs.YtfepkpindchleaaB
set_option linter.unusedVariables false
set_option linter.unusedSimpArgs false
/-! ### Small letters -/
theorem lowB_low (c : UInt8) : lowB (lowB c) = lowB c := by
  unfold lowB
  have hlt := c.toNat_lt
  by_cases h : c.toNat ≥ 65 ∧ c.toNat ≤ 90
  · rw [show (decide (c.toNat ≥ 65) && decide (c.toNat ≤ 90)) = true by simp; omega, cond_true]
    have e : (UInt8.ofNat (c.toNat + 32)).toNat = c.toNat + 32 := by simp; omega
    rw [show (decide ((UInt8.ofNat (c.toNat + 32)).toNat ≥ 65) && decide ((UInt8.ofNat (c.toNat + 32)).toNat ≤ 90)) = false by rw [e]; simp; omega, cond_false]
  · rw [show (decide (c.toNat ≥ 65) && decide (c.toNat ≤ 90)) = false by simp; omega, cond_false]
    rw [show (decide (c.toNat ≥ 65) && decide (c.toNat ≤ 90)) = false by simp; omega, cond_false]
theorem lowB_small {c : UInt8} (h : c.toNat ≤ 63) : lowB c = c := by
  unfold lowB
  rw [show (decide (c.toNat ≥ 65) && decide (c.toNat ≤ 90)) = false by simp; omega, cond_false]
theorem foldB_fold (s : List UInt8) : foldB (foldB s) = foldB s := by
  unfold foldB
  rw [List.map_map]
  exact List.map_congr_left fun c _ => lowB_low c
theorem foldB_app (a b : List UInt8) : foldB (a ++ b) = foldB a ++ foldB b := by simp [foldB]
theorem foldB_cons (c : UInt8) (b : List UInt8) : foldB (c :: b) = lowB c :: foldB b := rfl
/-- Small letters only. -/
def isLow (s : List UInt8) : Prop := foldB s = s
theorem isLow_app {a b : List UInt8} : isLow (a ++ b) ↔ isLow a ∧ isLow b := by
  unfold isLow
  rw [foldB_app]
  constructor
  · intro h
    have h1 := (List.append_inj h (foldB_len a))
    exact h1
  · rintro ⟨h1, h2⟩
    rw [h1, h2]
/-! ### Reading -/
/-- The byte at a place, as a number. -/
def byN (s : List UInt8) (k : Nat) : Nat := (s.getD k 0).toNat
theorem szT_nat (s : List UInt8) (k : Nat) : szT s (k : Int) = byN s k := by unfold szT byN; rw [Int.toNat_natCast]
/-- A name that stands at a place, below another one: its text, and the place behind it. -/
inductive Rd (S : List UInt8) : Nat → Nat → List UInt8 → Nat → Prop where
  | root {k f : Nat} (h : k < S.length) (h0 : byN S k = 0) : Rd S k f [0] (k + 1)
  | label {k f e : Nat} {n : List UInt8} (h1 : byN S k ≠ 0) (h63 : byN S k ≤ 63) (hin : k + 1 + byN S k ≤ S.length) (h : Rd S (k + 1 + byN S k) f n e) :
      Rd S k f (S.getD k 0 :: foldB ((S.drop (k + 1)).take (byN S k)) ++ n) e
  | ptr {k f e : Nat} {n : List UInt8} {to : Nat} (h192 : 192 ≤ byN S k) (hin : k + 2 ≤ S.length) (hto : toT S (k : Int) = to) (hlt : to < f) (h : Rd S to to n e) : Rd S k f n (k + 2)
theorem someB_nat {s : List UInt8} {k m : Nat} : someB s (k : Int) (m : Int) = true ↔ k + m ≤ s.length := by
  rw [someB_iff]
  omega
theorem Rd.pos {S : List UInt8} {k f e : Nat} {n : List UInt8} (h : Rd S k f n e) : 1 ≤ n.length ∧ k < e ∧ e ≤ S.length := by
  induction h with
  | root h h0 => simp; omega
  | label h1 h63 hin h ih => simp; omega
  | ptr h192 hin hto hlt h ih => omega
theorem takeG_rd {S : List UInt8} {k f e : Nat} {n : List UInt8} (h : Rd S k f n e) : ∀ (b : Int) (out : List UInt8), out.length + n.length ≤ 255 → takeG S (k : Int) (f : Int) b out = some (out ++ n, if b < 0 then (e : Int) else b) := by
  induction h with
  | @root k f hk h0 =>
    intro b out hl
    simp at hl
    rw [takeG_end (someB_nat.2 (by omega : k + 1 ≤ S.length)) (by rw [szT_nat]; exact h0) (by omega)]
    rfl
  | @label k f e n h1 h63 hin h ih =>
    intro b out hl
    have hp := h.pos
    simp [foldB_len] at hl
    have hlen : ((S.drop (k + 1)).take (byN S k)).length = byN S k := by simp; omega
    have h4 : someB S ((k : Int) + 1) (szT S (k : Int) : Int) = true := by
      rw [szT_nat, show ((k : Int) + 1) = ((k + 1 : Nat) : Int) by omega, someB_nat]
      omega
    rw [takeG_on (someB_nat.2 (by omega : k + 1 ≤ S.length)) (by rw [szT_nat]; omega) (by rw [szT_nat]; exact h1) h4 (by rw [szT_nat]; omega)]
    have e1 : (k : Int) + 1 + (szT S (k : Int) : Int) = ((k + 1 + byN S k : Nat) : Int) := by rw [szT_nat]; omega
    have e2 : someV S ((k : Int) + 1) (szT S (k : Int) : Int) = (S.drop (k + 1)).take (byN S k) := by
      unfold someV
      rw [szT_nat, Int.toNat_natCast, show ((k : Int) + 1).toNat = k + 1 by omega]
    rw [e1, e2, ih b _ (by simp [foldB_len]; omega), Int.toNat_natCast]
    simp
  | @ptr k f e n to h192 hin hto hlt h ih =>
    intro b out hl
    rw [takeG_ptr (someB_nat.2 (by omega : k + 1 ≤ S.length)) (by rw [szT_nat]; exact h192) (someB_nat.2 (by omega : k + 2 ≤ S.length)) (by rw [hto]; omega), hto, ih _ _ hl]
    congr 2
    by_cases hb : b < 0
    · rw [if_pos hb, if_neg (by omega), if_pos hb]
      omega
    · rw [if_neg hb, if_neg hb, if_neg hb]
theorem getD_app {S X : List UInt8} {k : Nat} (h : k < S.length) : (S ++ X).getD k 0 = S.getD k 0 := by
  rw [List.getD_eq_getElem?_getD, List.getD_eq_getElem?_getD, List.getElem?_append_left h]
theorem byN_app {S X : List UInt8} {k : Nat} (h : k < S.length) : byN (S ++ X) k = byN S k := by unfold byN; rw [getD_app h]
theorem toT_app {S X : List UInt8} {k : Nat} (h : k + 2 ≤ S.length) : toT (S ++ X) (k : Int) = toT S (k : Int) := by
  unfold toT n16
  rw [Int.toNat_natCast, getD_app (by omega), getD_app (by omega)]
theorem Rd.mono {S : List UInt8} (X : List UInt8) {k f e : Nat} {n : List UInt8} (h : Rd S k f n e) : Rd (S ++ X) k f n e := by
  induction h with
  | @root k f hk h0 => exact .root (by simp; omega) (by rw [byN_app hk]; exact h0)
  | @label k f e n h1 h63 hin h ih =>
    have hb : byN (S ++ X) k = byN S k := byN_app (by omega)
    have := Rd.label (S := S ++ X) (k := k) (f := f) (e := e) (n := n) (by rw [hb]; exact h1) (by rw [hb]; exact h63) (by rw [hb]; simp; omega) (by rw [hb]; exact ih)
    rw [hb, getD_app (by omega)] at this
    rw [List.drop_append_of_le_length (by omega), List.take_append_of_le_length (by simp; omega)] at this
    exact this
  | @ptr k f e n to h192 hin hto hlt h ih => exact .ptr (by rw [byN_app (by omega)]; exact h192) (by simp; omega) (by rw [toT_app hin]; exact hto) hlt ih
theorem Rd.up {S : List UInt8} {k f f' e : Nat} {n : List UInt8} (h : Rd S k f n e) (hf : f ≤ f') : Rd S k f' n e := by
  induction h generalizing f' with
  | root h h0 => exact .root h h0
  | label h1 h63 hin h ih => exact .label h1 h63 hin (ih hf)
  | ptr h192 hin hto hlt h ih => exact .ptr h192 hin hto (by omega) h
/-! ### What is known -/
def PI (S : List UInt8) (L : Known) : Prop := ∀ n a, (n, a) ∈ L → ∃ k e : Nat, a = (k : Int) ∧ k < 16384 ∧ Rd S k k n e
theorem PI.mono {S : List UInt8} {L : Known} (h : PI S L) (X : List UInt8) : PI (S ++ X) L := fun n a hm => by
  obtain ⟨k, e, h1, h2, h3⟩ := h n a hm
  exact ⟨k, e, h1, h2, h3.mono X⟩
theorem look_mem {n : List UInt8} {L : Known} {a : Int} (h : lookK n L = some a) : (n, a) ∈ L := by
  induction L with
  | nil => cases h
  | cons e L ih =>
    unfold lookK lookM at h
    by_cases hq : n = e.1
    · rw [show Ty.keq .str n e.1 = true by simp only [Ty.keq, beq_iff_eq]; exact hq] at h
      cases h
      rw [hq]
      exact List.mem_cons_self
    · rw [show Ty.keq .str n e.1 = false by simp only [Ty.keq, beq_eq_false_iff_ne]; exact hq] at h
      exact List.mem_cons_of_mem _ (ih h)
theorem look_app {n : List UInt8} {L N : Known} (h : ∀ m b, (m, b) ∈ N → m ≠ n) : lookK n (L ++ N) = lookK n L := by
  induction L with
  | nil =>
    show lookK n N = none
    induction N with
    | nil => rfl
    | cons e N ih =>
      unfold lookK lookM
      have hq : n ≠ e.1 := fun e' => h e.1 e.2 List.mem_cons_self e'.symm
      rw [show Ty.keq .str n e.1 = false by simp only [Ty.keq, beq_eq_false_iff_ne]; exact hq]
      exact ih fun m b hm => h m b (List.mem_cons_of_mem _ hm)
  | cons e L ih =>
    simp only [List.cons_append]
    unfold lookK lookM
    cases Ty.keq .str n e.1 with
    | true => rfl
    | false => exact ih
theorem look_has {n : List UInt8} {L : Known} {a : Int} (h : (n, a) ∈ L) : (lookK n L).isSome = true := by
  induction L with
  | nil => simp at h
  | cons e L ih =>
    unfold lookK lookM
    rcases List.mem_cons.1 h with rfl | h
    · rw [show Ty.keq .str n n = true by simp [Ty.keq]]
      rfl
    · cases Ty.keq .str n e.1 with
      | true => rfl
      | false => exact ih h
theorem PI.kOk {S : List UInt8} {L : Known} (h : PI S L) : kOk L = true := by
  refine List.all_eq_true.2 fun ⟨n, a⟩ hm => ?_
  obtain ⟨k, e, rfl, h2, _⟩ := h n a hm
  simp only [Bool.and_eq_true, decide_eq_true_eq]
  omega
theorem put16_to {S X : List UInt8} {a : Nat} (ha : a < 16384) : byN (S ++ (put16 (49152 + (a : Int)) ++ X)) S.length ≥ 192 ∧ toT (S ++ (put16 (49152 + (a : Int)) ++ X)) (S.length : Int) = a := by
  have e0 : (S ++ (put16 (49152 + (a : Int)) ++ X)).getD S.length 0 = UInt8.ofNat ((49152 + (a : Int)) / 256).toNat := by
    rw [List.getD_eq_getElem?_getD, List.getElem?_append_right (Nat.le_refl _), Nat.sub_self]; rfl
  have e1 : (S ++ (put16 (49152 + (a : Int)) ++ X)).getD (S.length + 1) 0 = UInt8.ofNat ((49152 + (a : Int)) % 256).toNat := by
    rw [List.getD_eq_getElem?_getD, List.getElem?_append_right (by omega), show S.length + 1 - S.length = 1 by omega]; rfl
  have t0 : (UInt8.ofNat ((49152 + (a : Int)) / 256).toNat).toNat = 192 + a / 256 := by simp; omega
  have t1 : (UInt8.ofNat ((49152 + (a : Int)) % 256).toNat).toNat = a % 256 := by simp; omega
  constructor
  · unfold byN
    rw [e0, t0]
    omega
  · unfold toT n16
    rw [Int.toNat_natCast, e0, e1, t0, t1]
    omega
/-- A name put behind bytes: it stands there; all that is known then stands where it is said to. -/
theorem nameP_rd : ∀ (m : Nat) (n S : List UInt8) (L0 N : Known) (S0 T0 : List UInt8), n.length = m → rootV n = true → isLow n → PI S0 L0 → S = S0 ++ T0 → (∀ q b, (q, b) ∈ N → n.length < q.length) →
    ∃ T N', (nameP n S (L0 ++ N)).1 = S ++ T ∧ (nameP n S (L0 ++ N)).2 = (L0 ++ N) ++ N' ∧ Rd (S ++ T) S.length S0.length n (S ++ T).length ∧ (∀ q b, (q, b) ∈ N' → ∃ k e : Nat, b = (k : Int) ∧ k < 16384 ∧ Rd (S ++ T) k k q e) := by
  intro m
  induction m using Nat.strongRecOn with
  | _ m ih =>
    intro n S L0 N S0 T0 hm hr hlow hPI hS hN
    rcases root_cases hr with rfl | ⟨hn0, hn1, hlt, h63, hne, hrt⟩
    · refine ⟨[0], [], ?_, ?_, ?_, fun q b h => by simp at h⟩
      · unfold nameP; rw [nameL_root]; rfl
      · unfold nameP; rw [nameL_root]; simp
      · have hb : byN (S ++ [0]) S.length = 0 := by
          unfold byN
          rw [List.getD_eq_getElem?_getD, List.getElem?_append_right (Nat.le_refl _), Nat.sub_self]; rfl
        have := Rd.root (S := S ++ [0]) (k := S.length) (f := S0.length) (by simp) hb
        simpa using this
    · have hlk : lookK n (L0 ++ N) = lookK n L0 := look_app fun q b hq e => by have := hN q b hq; rw [e] at this; omega
      cases ha : lookK n L0 with
      | some a =>
        obtain ⟨k, e, rfl, hk, hrd⟩ := hPI n a (look_mem ha)
        refine ⟨put16 (49152 + (k : Int)), [], ?_, ?_, ?_, fun q b h => by simp at h⟩
        · unfold nameP; rw [nameL_known hn0 (hlk.trans ha)]; rfl
        · unfold nameP; rw [nameL_known hn0 (hlk.trans ha)]; simp
        · obtain ⟨h1, h2⟩ := put16_to (S := S) (X := []) hk
          rw [List.append_nil] at h1 h2
          have hp := hrd.pos
          have := Rd.ptr (S := S ++ put16 (49152 + (k : Int))) (k := S.length) (f := S0.length) (to := k) h1 (by simp [put16_len]) h2 (by omega) (by rw [hS, List.append_assoc]; exact hrd.mono _)
          simpa [put16_len] using this
      | none =>
        have hlt2 := tlN_lt hn1
        obtain ⟨c, t, rfl⟩ := List.exists_cons_of_ne_nil hn1
        have hc : (c :: t).getD 0 0 = c := rfl
        rw [hc] at hlt h63 hne
        have htl : tlN (c :: t) = t.drop c.toNat := by unfold tlN; rw [hc, Nat.add_comm]; rfl
        have hhd : hdN (c :: t) = c :: t.take c.toNat := by unfold hdN; rw [hc, Nat.add_comm]; rfl
        have hsplit : (c :: t) = hdN (c :: t) ++ tlN (c :: t) := by rw [hhd, htl]; simp
        have hlow2 : isLow (hdN (c :: t)) ∧ isLow (tlN (c :: t)) := isLow_app.1 (hsplit ▸ hlow)
        have hhl : (hdN (c :: t)).length = 1 + c.toNat := by rw [hhd]; simp at hlt ⊢; omega
        obtain ⟨N2, hN2, hN2len, hN2k⟩ : ∃ N2 : Known, (if S.length < 16384 then (L0 ++ N) ++ [((c :: t), (S.length : Int))] else L0 ++ N) = L0 ++ (N ++ N2) ∧ (∀ q b, (q, b) ∈ N2 → q = c :: t ∧ b = (S.length : Int) ∧ S.length < 16384) ∧ True := by
          by_cases h : S.length < 16384
          · rw [if_pos h]
            exact ⟨[((c :: t), (S.length : Int))], by simp, fun q b hq => by simp at hq; exact ⟨hq.1, hq.2, h⟩, trivial⟩
          · rw [if_neg h]
            exact ⟨[], by simp, fun q b hq => by simp at hq, trivial⟩
        obtain ⟨T, N', i1, i2, i3, i4⟩ := ih (tlN (c :: t)).length (by omega) (tlN (c :: t)) (S ++ hdN (c :: t)) L0 (N ++ N2) S0 (T0 ++ hdN (c :: t)) rfl hrt hlow2.2 hPI (by rw [hS]; simp) (fun q b hq => by
          rcases List.mem_append.1 hq with hq | hq
          · have := hN q b hq; omega
          · obtain ⟨rfl, _⟩ := hN2len q b hq; omega)
        have hP : nameP (c :: t) S (L0 ++ N) = nameP (tlN (c :: t)) (S ++ hdN (c :: t)) (L0 ++ (N ++ N2)) := by
          unfold nameP
          rw [nameL_next hn0 hn1 (hlk.trans ha), hN2]
        rw [hP]
        have hb : byN (S ++ (hdN (c :: t) ++ T)) S.length = c.toNat := by
          unfold byN
          rw [List.getD_eq_getElem?_getD, List.getElem?_append_right (Nat.le_refl _), Nat.sub_self, hhd]; rfl
        have hg : (S ++ (hdN (c :: t) ++ T)).getD S.length 0 = c := by
          rw [List.getD_eq_getElem?_getD, List.getElem?_append_right (Nat.le_refl _), Nat.sub_self, hhd]; rfl
        rw [List.append_assoc] at i1 i3 i4
        have hrd : Rd (S ++ (hdN (c :: t) ++ T)) S.length S0.length (c :: t) (S ++ (hdN (c :: t) ++ T)).length := by
          have hl := Rd.label (S := S ++ (hdN (c :: t) ++ T)) (k := S.length) (f := S0.length) (e := (S ++ (hdN (c :: t) ++ T)).length) (n := tlN (c :: t)) (by rw [hb]; exact hne) (by rw [hb]; exact h63) (by rw [hb]; simp [hhl]; omega) (by
            rw [hb]
            have : (S ++ hdN (c :: t)).length = S.length + 1 + c.toNat := by rw [List.length_append, hhl]; omega
            rw [this] at i3
            exact i3)
          rw [hb, hg] at hl
          have hv : ((S ++ (hdN (c :: t) ++ T)).drop (S.length + 1)).take c.toNat = t.take c.toNat := by
            rw [← List.drop_drop, List.drop_left, hhd]
            simp only [List.cons_append, List.drop_succ_cons, List.drop_zero]
            rw [List.take_append_of_le_length (by simp at hlt ⊢; omega), List.take_take, Nat.min_self]
          rw [hv] at hl
          have hf : foldB (t.take c.toNat) = t.take c.toNat := by
            have := hlow2.1
            rw [hhd] at this
            exact (List.cons.inj this).2
          rw [hf, htl] at hl
          have e : c :: List.take c.toNat t ++ List.drop c.toNat t = c :: t := by simp
          rw [e] at hl
          exact hl
        refine ⟨hdN (c :: t) ++ T, N2 ++ N', i1, by rw [i2]; simp, hrd, fun q b hq => ?_⟩
        rcases List.mem_append.1 hq with hq | hq
        · obtain ⟨rfl, rfl, h⟩ := hN2len q b hq
          exact ⟨S.length, _, rfl, h, hrd.up (by rw [hS]; simp)⟩
        · exact i4 q b hq
end Go.Proofs.YtfepkpindchleaaE
