/- Names in packs: plain words. -/
import Derived.Test.YtfepkpindchleaaW8
namespace Go.Proofs.YtfepkpindchleaaE
open Go Go.Proofs.YtfepkpindchleaaB
set_option linter.unusedVariables false
set_option linter.unusedSimpArgs false
abbrev Known := List (List UInt8 × Int)
abbrev lookK (n : List UInt8) (L : Known) : Option Int := lookM .str (.int .i64) n L
/-- A name's first label, with its length; what is behind it. -/
def hdN (n : List UInt8) : List UInt8 := n.take (1 + (n.getD 0 0).toNat)
def tlN (n : List UInt8) : List UInt8 := n.drop (1 + (n.getD 0 0).toNat)
theorem tlN_lt {n : List UInt8} (h : n ≠ []) : (tlN n).length < n.length := by
  have := List.length_pos_iff.2 h
  simp [tlN]
  omega
/-- A name behind bytes, but its end: where it is known, if it is; what is left; the bytes; what is known then. -/
def nameL (n S : List UInt8) (L : Known) : Option Int × (List UInt8 × (List UInt8 × Known)) :=
  if n = [0] then (none, n, S, L)
  else match lookK n L with
    | some a => (some a, n, S, L)
    | none => if h : n = [] then (none, n, S, L) else nameL (tlN n) (S ++ hdN n) (if S.length < 16384 then L ++ [(n, (S.length : Int))] else L)
termination_by n.length
decreasing_by exact tlN_lt h
/-- How a name ends: at a known one, or with the root. -/
def endN : Option Int → List UInt8
  | some a => put16 (49152 + a)
  | none => [0]
/-- A name behind bytes. -/
def nameP (n S : List UInt8) (L : Known) : List UInt8 × Known := ((nameL n S L).2.2.1 ++ endN (nameL n S L).1, (nameL n S L).2.2.2)
def kOk (L : Known) : Bool := L.all fun e => decide (0 ≤ e.2) && decide (e.2 < 16384)
theorem kOk_look {L : Known} (h : kOk L = true) {n : List UInt8} {a : Int} (ha : lookK n L = some a) : 0 ≤ a ∧ a < 16384 := by
  induction L with
  | nil => cases ha
  | cons e L ih =>
    simp only [kOk, List.all_cons, Bool.and_eq_true, decide_eq_true_eq] at h
    unfold lookK lookM at ha
    cases hq : Ty.keq .str n e.1 with
    | true => rw [hq] at ha; cases ha; exact h.1
    | false => rw [hq] at ha; exact ih h.2 ha
theorem putK_new {L : Known} {n : List UInt8} (h : lookK n L = none) (v : Int) : putM .str (.int .i64) n v L = L ++ [(n, v)] := by
  induction L with
  | nil => rfl
  | cons e L ih =>
    unfold lookK lookM at h
    unfold putM
    cases hq : Ty.keq .str n e.1 with
    | true => rw [hq] at h; cases h
    | false => rw [hq] at h; rw [cond_false, ih h]; rfl
theorem or_far {a : Int} (h0 : 0 ≤ a) (h1 : a < 16384) : IntKind.wrap IntKind.u16 (IntKind.wrap IntKind.i64 (↑(BitVec.toNat (BitVec.ofInt (IntKind.bits IntKind.i64) (49152 : Int) ||| BitVec.ofInt (IntKind.bits IntKind.i64) a)) : Int)) = 49152 + a := by
  obtain ⟨m, rfl⟩ : ∃ m : Nat, a = m := ⟨a.toNat, by omega⟩
  have e : BitVec.toNat (BitVec.ofInt (IntKind.bits IntKind.i64) (49152 : Int) ||| BitVec.ofInt (IntKind.bits IntKind.i64) (m : Int)) = 49152 + m := by
    show BitVec.toNat (BitVec.ofInt 64 ((49152 : Nat) : Int) ||| BitVec.ofInt 64 ((m : Nat) : Int)) = _
    rw [BitVec.ofInt_natCast, BitVec.ofInt_natCast, BitVec.toNat_or, BitVec.toNat_ofNat, BitVec.toNat_ofNat, Nat.mod_eq_of_lt (by omega), Nat.mod_eq_of_lt (by omega)]
    have := Nat.shiftLeft_add_eq_or_of_lt (a := 3) (b := m) (i := 14) (by omega)
    exact this.symm
  rw [e, IntWalk.i64_in _ (by omega), IntWalk.u16_in _ (by omega)]
  omega
theorem root_cases {n : List UInt8} (h : rootV n = true) : n = [0] ∨ (n ≠ [0] ∧ n ≠ [] ∧ 1 + (n.getD 0 0).toNat < n.length ∧ (n.getD 0 0).toNat ≤ 63 ∧ (n.getD 0 0).toNat ≠ 0 ∧ rootV (tlN n) = true) := by
  unfold rootV at h
  cases n with
  | nil => rw [eachF] at h; simp at h
  | cons c t =>
    rw [eachF] at h
    split at h
    · exact .inl (by simpa using h)
    · rename_i hc
      refine .inr ⟨fun e => ?_, by simp, ?_, ?_, ?_, ?_⟩
      · cases e; simp at hc
      · have he : (t.drop c.toNat) ≠ [] := fun e => by
          rw [e, eachF] at h
          simp at h
        have := List.length_pos_iff.2 he
        simp at this ⊢
        omega
      · simp; omega
      · simp; omega
      · unfold rootV tlN
        simpa [Nat.add_comm 1] using h
theorem intB_bytes (s : List UInt8) : intBytes (bytesInt s) = s := by
  unfold intBytes bytesInt
  rw [List.map_map]
  conv => rhs; rw [← List.map_id s]
  exact List.map_congr_left fun x _ => by simp
theorem bytes_intB {b : List Int} (h : bytesOk b = true) : bytesInt (intBytes b) = b := by
  unfold intBytes bytesInt
  rw [List.map_map]
  conv => rhs; rw [← List.map_id b]
  refine List.map_congr_left fun x hx => ?_
  have := List.all_eq_true.1 h x hx
  simp only [Bool.and_eq_true, decide_eq_true_eq] at this
  simp
  omega
theorem intB_len (b : List Int) : (intBytes b).length = b.length := by simp [intBytes]
theorem intB_app (a b : List Int) : intBytes (a ++ b) = intBytes a ++ intBytes b := by simp [intBytes]
theorem bytesInt_app (a b : List UInt8) : bytesInt (a ++ b) = bytesInt a ++ bytesInt b := by simp [bytesInt]
/-- A name that has further to go. -/
theorem nameL_root (S : List UInt8) (L : Known) : nameL [0] S L = (none, [0], S, L) := by rw [nameL, if_pos rfl]
theorem nameL_known {n S : List UInt8} {L : Known} {a : Int} (h : n ≠ [0]) (ha : lookK n L = some a) : nameL n S L = (some a, n, S, L) := by
  rw [nameL, if_neg h]
  simp only [ha]
theorem nameL_next {n S : List UInt8} {L : Known} (h : n ≠ [0]) (h0 : n ≠ []) (ha : lookK n L = none) : nameL n S L = nameL (tlN n) (S ++ hdN n) (if S.length < 16384 then L ++ [(n, (S.length : Int))] else L) := by
  rw [nameL, if_neg h]
  simp only [ha, dif_neg h0]
theorem getM_some {L : Known} {n : List UInt8} {a : Int} (h : lookK n L = some a) : getM .str (.int .i64) n L = a := by
  unfold getM
  rw [show lookM .str (.int .i64) n L = some a from h]
  rfl
theorem hasM_some {L : Known} {n : List UInt8} : hasM .str (.int .i64) n L = (lookK n L).isSome := rfl
theorem kOk_add {L : Known} (h : kOk L = true) {n : List UInt8} {v : Nat} (hv : v < 16384) : kOk (L ++ [(n, (v : Int))]) = true := by
  simp only [kOk, List.all_append, List.all_cons, List.all_nil, Bool.and_true, Bool.and_eq_true, decide_eq_true_eq]
  exact ⟨h, by omega, by omega⟩
theorem bytesOk_app {a b : List Int} (ha : bytesOk a = true) (hb : bytesOk b = true) : bytesOk (a ++ b) = true := by
  simp only [bytesOk, List.all_append, Bool.and_eq_true] at *
  exact ⟨ha, hb⟩
theorem put16_len (n : Int) : (put16 n).length = 2 := rfl
theorem hdN_len {n : List UInt8} (h : 1 + (n.getD 0 0).toNat ≤ n.length) : (hdN n).length = 1 + (n.getD 0 0).toNat := by unfold hdN; rw [List.length_take]; omega
theorem tlN_len (n : List UInt8) : (tlN n).length = n.length - (1 + (n.getD 0 0).toNat) := by unfold tlN; rw [List.length_drop]
theorem szW (n : List UInt8) : IntKind.wrap IntKind.i64 ((1 : Int) + IntKind.wrap IntKind.i64 (↑(UInt8.toNat (List.getD n (Int.toNat (0 : Int)) 0)) : Int)) = ((1 + (n.getD 0 0).toNat : Nat) : Int) := by
  have := (n.getD 0 0).toNat_lt
  rw [show Int.toNat (0 : Int) = 0 from rfl]
  rw [IntWalk.i64_in (((n.getD 0 0).toNat : Nat) : Int) (by omega), IntWalk.i64_in _ (by omega)]
  omega
theorem hdW (n : List UInt8) : List.take (Int.toNat ((1 + (n.getD 0 0).toNat : Nat) : Int) - Int.toNat (0 : Int)) (List.drop (Int.toNat (0 : Int)) n) = hdN n := by
  rw [Int.toNat_natCast]; rfl
theorem tlW (n : List UInt8) : List.take (Int.toNat (↑(List.length n) : Int) - Int.toNat ((1 + (n.getD 0 0).toNat : Nat) : Int)) (List.drop (Int.toNat ((1 + (n.getD 0 0).toNat : Nat) : Int)) n) = tlN n := by
  rw [Int.toNat_natCast, Int.toNat_natCast]
  exact List.take_of_length_le (by simp)
theorem getD_some {α : Type} {o : Option α} {a d : α} (h : o = some a) : o.getD d = a := by rw [h]; rfl
/-- What is left of a name is a name, or none; nothing gets lost. -/
theorem nameL_facts : ∀ (m : Nat) (n S : List UInt8) (L : Known), n.length = m → rootV n = true → ((nameL n S L).1 = none → (nameL n S L).2.1 = [0]) ∧ (∀ a, (nameL n S L).1 = some a → lookK (nameL n S L).2.1 (nameL n S L).2.2.2 = some a) ∧
    (nameL n S L).2.2.1.length + (nameL n S L).2.1.length = S.length + n.length ∧ (kOk L = true → kOk (nameL n S L).2.2.2 = true) ∧ (nameL n S L).2.1.length ≥ 1 ∧ (nameL n S L).2.2.2.length ≤ L.length + n.length := by
  intro m
  induction m using Nat.strongRecOn with
  | _ m ih =>
    intro n S L hm hr
    rcases root_cases hr with rfl | ⟨hn0, hn1, hlt, h63, hne, hrt⟩
    · rw [nameL_root]
      refine ⟨fun _ => rfl, fun a h => (by cases h), rfl, fun h => h, ?_, ?_⟩ <;> simp
    · cases hlk : lookK n L with
      | some a =>
        rw [nameL_known hn0 hlk]
        refine ⟨fun h => (by cases h), fun a' h => ?_, rfl, fun h => h, List.length_pos_iff.2 hn1, Nat.le_add_right _ _⟩
        cases h
        exact hlk
      | none =>
        rw [nameL_next hn0 hn1 hlk]
        have hlt2 := tlN_lt hn1
        obtain ⟨a1, a2, a3, a4, a5, a6⟩ := ih (tlN n).length (by omega) (tlN n) (S ++ hdN n) (if S.length < 16384 then L ++ [(n, (S.length : Int))] else L) rfl hrt
        refine ⟨a1, a2, ?_, fun h => a4 ?_, a5, ?_⟩
        · rw [a3, List.length_append, hdN_len (by omega), tlN_len]
          omega
        · split
          · exact kOk_add h (by assumption)
          · exact h
        · refine Nat.le_trans a6 ?_
          split
          · simp; omega
          · omega
end Go.Proofs.YtfepkpindchleaaE
