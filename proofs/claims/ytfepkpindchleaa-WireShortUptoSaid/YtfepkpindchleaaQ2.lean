/- Names taken: plain words. -/
import Derived.Test.YtfepkpindchleaaQ1
namespace Go.Proofs.YtfepkpindchleaaE
open Go Go.Proofs.YtfepkpindchleaaB
set_option linter.unusedVariables false
set_option linter.unusedSimpArgs false
theorem bits_far : ∀ i, i < 16 → (49152 : Nat).testBit i = decide (14 ≤ i) := by decide
theorem nat_far (n : Nat) (hn : n < 65536) : n &&& (2 ^ 64 - 1 - 49152) = n % 16384 := by
  refine Nat.eq_of_testBit_eq fun i => ?_
  rw [Nat.testBit_and, show (16384 : Nat) = 2 ^ 14 from rfl, Nat.testBit_mod_two_pow]
  by_cases hi : i < 16
  · have h1 := bits_far i hi
    have h2 : (2 ^ 64 - 1 - 49152 : Nat).testBit i = !(49152 : Nat).testBit i := by
      have := Nat.testBit_two_pow_sub_succ (n := 64) (x := 49152) (by decide) i
      rw [show (2 ^ 64 - 1 - 49152 : Nat) = 2 ^ 64 - (49152 + 1) by decide, this]
      simp
      omega
    rw [h2, h1]
    by_cases h14 : i < 14
    · have : ¬ 14 ≤ i := by omega
      simp [h14, this]
    · have : 14 ≤ i := by omega
      simp [h14, this]
  · have : n.testBit i = false := Nat.testBit_lt_two_pow (Nat.lt_of_lt_of_le hn (show 2 ^ 16 ≤ 2 ^ i from Nat.pow_le_pow_right (by omega) (by omega)))
    rw [this]
    simp
theorem and_far {a : Int} (h0 : 0 ≤ a) (h1 : a ≤ 65535) : IntKind.wrap IntKind.i64 (↑(BitVec.toNat (BitVec.ofInt (IntKind.bits IntKind.i64) (IntKind.wrap IntKind.i64 a) &&& ~~~BitVec.ofInt (IntKind.bits IntKind.i64) (49152 : Int))) : Int) = a % 16384 := by
  obtain ⟨m, rfl⟩ : ∃ m : Nat, a = m := ⟨a.toNat, by omega⟩
  rw [IntWalk.i64_in (m : Int) (by omega)]
  have e : BitVec.toNat (BitVec.ofInt (IntKind.bits IntKind.i64) ((m : Nat) : Int) &&& ~~~BitVec.ofInt (IntKind.bits IntKind.i64) ((49152 : Nat) : Int)) = m % 16384 := by
    show BitVec.toNat (BitVec.ofInt 64 ((m : Nat) : Int) &&& ~~~BitVec.ofInt 64 ((49152 : Nat) : Int)) = _
    rw [BitVec.ofInt_natCast, BitVec.ofInt_natCast, BitVec.toNat_and, BitVec.toNat_not, BitVec.toNat_ofNat, BitVec.toNat_ofNat, Nat.mod_eq_of_lt (by omega), Nat.mod_eq_of_lt (by omega)]
    exact nat_far m (by omega)
  rw [show ((49152 : Int)) = ((49152 : Nat) : Int) from rfl, e, IntWalk.i64_in _ (by omega)]
  rfl
/-- The byte at a place; where a pointer there leads. -/
def szT (s : List UInt8) (at_ : Int) : Nat := (s.getD at_.toNat 0).toNat
def toT (s : List UInt8) (at_ : Int) : Int := n16 s at_ % 16384
theorem szT_lt (s : List UInt8) (at_ : Int) : szT s at_ ≤ 255 := by
  have := (s.getD at_.toNat 0).toNat_lt
  unfold szT
  omega
theorem n16_in (s : List UInt8) (at_ : Int) : 0 ≤ n16 s at_ ∧ n16 s at_ ≤ 65535 := by
  have h1 := (s.getD at_.toNat 0).toNat_lt
  have h2 := (s.getD (at_.toNat + 1) 0).toNat_lt
  unfold n16
  omega
theorem toT_in (s : List UInt8) (at_ : Int) : 0 ≤ toT s at_ ∧ toT s at_ < 16384 := by
  unfold toT
  omega
/-- How much is left to do. -/
def msT (s : List UInt8) (at_ from_ : Int) : Nat := from_.toNat * (s.length + 2) + (s.length + 1 - at_.toNat)
theorem someB_iff {s : List UInt8} {at_ many : Int} : someB s at_ many = true ↔ 0 ≤ at_ ∧ 0 ≤ many ∧ at_ + many ≤ s.length := by simp [someB]
theorem msT_to {s : List UInt8} {at_ from_ to : Int} (h0 : 0 ≤ to) (h : to < from_) : msT s to to < msT s at_ from_ := by
  unfold msT
  have h1 : to.toNat + 1 ≤ from_.toNat := by omega
  have h2 : (to.toNat + 1) * (s.length + 2) ≤ from_.toNat * (s.length + 2) := Nat.mul_le_mul_right _ h1
  rw [Nat.add_mul, Nat.one_mul] at h2
  omega
theorem msT_on {s : List UInt8} {at_ from_ : Int} {c : Nat} (h0 : 0 ≤ at_) (h : at_ + 1 + c ≤ s.length) : msT s (at_ + 1 + c) from_ < msT s at_ from_ := by
  unfold msT
  omega
/-- A name taken from a place on: its text, and the place behind it. -/
def takeG (s : List UInt8) (at_ from_ behind : Int) (out : List UInt8) : Option (List UInt8 × Int) :=
  if h1 : someB s at_ 1 = true then
    if 192 ≤ szT s at_ then
      (if h3 : someB s at_ 2 = true ∧ toT s at_ < from_ then takeG s (toT s at_) (toT s at_) (if behind < 0 then at_ + 2 else behind) out else none)
    else if 63 < szT s at_ then none
    else if h4 : someB s (at_ + 1) (szT s at_) = true ∧ out.length + 1 + szT s at_ ≤ 255 then
      (if szT s at_ = 0 then some (out ++ [0], if behind < 0 then at_ + 1 else behind)
       else takeG s (at_ + 1 + szT s at_) from_ behind (out ++ s.getD at_.toNat 0 :: foldB (someV s (at_ + 1) (szT s at_))))
    else none
  else none
termination_by msT s at_ from_
decreasing_by
  · exact msT_to (toT_in s at_).1 h3.2
  · have h1 := someB_iff.1 h1
    have h4 := someB_iff.1 h4.1
    exact msT_on h1.1 h4.2.2
/-- What is told of it. -/
def tkS : Option (List UInt8 × Int) → List UInt8
  | some p => p.1
  | none => []
def tkN : Option (List UInt8 × Int) → Int
  | some p => p.2
  | none => 0
def tkE : Option (List UInt8 × Int) → Int
  | some _ => 0
  | none => 2
def resT (o : Option (List UInt8 × Int)) : List AV := [.str (tkS o), .int .i64 (tkN o), .int .i64 (tkE o)]
section
variable {s : List UInt8} {at_ from_ behind : Int} {out : List UInt8}
theorem takeG_out (h : someB s at_ 1 = false) : takeG s at_ from_ behind out = none := by rw [takeG, dif_neg (by rw [h]; simp)]
theorem takeG_ptr (h : someB s at_ 1 = true) (h2 : 192 ≤ szT s at_) (h3 : someB s at_ 2 = true) (h4 : toT s at_ < from_) : takeG s at_ from_ behind out = takeG s (toT s at_) (toT s at_) (if behind < 0 then at_ + 2 else behind) out := by
  rw [takeG, dif_pos h, if_pos h2, dif_pos ⟨h3, h4⟩]
theorem takeG_bad (h : someB s at_ 1 = true) (h2 : 192 ≤ szT s at_) (h3 : ¬ (someB s at_ 2 = true ∧ toT s at_ < from_)) : takeG s at_ from_ behind out = none := by
  rw [takeG, dif_pos h, if_pos h2, dif_neg h3]
theorem takeG_mid (h : someB s at_ 1 = true) (h2 : ¬ 192 ≤ szT s at_) (h3 : 63 < szT s at_) : takeG s at_ from_ behind out = none := by
  rw [takeG, dif_pos h, if_neg h2, if_pos h3]
theorem takeG_long (h : someB s at_ 1 = true) (h2 : szT s at_ ≤ 63) (h4 : ¬ (someB s (at_ + 1) (szT s at_) = true ∧ out.length + 1 + szT s at_ ≤ 255)) : takeG s at_ from_ behind out = none := by
  rw [takeG, dif_pos h, if_neg (by omega), if_neg (by omega), dif_neg h4]
theorem takeG_end (h : someB s at_ 1 = true) (h2 : szT s at_ = 0) (h4 : out.length + 1 ≤ 255) : takeG s at_ from_ behind out = some (out ++ [0], if behind < 0 then at_ + 1 else behind) := by
  have h5 : someB s (at_ + 1) (szT s at_) = true := by
    have := someB_iff.1 h
    rw [h2]
    exact someB_iff.2 ⟨by omega, by simp, by simp; omega⟩
  rw [takeG, dif_pos h, if_neg (by omega), if_neg (by omega), dif_pos ⟨h5, by omega⟩, if_pos h2]
theorem takeG_on (h : someB s at_ 1 = true) (h2 : szT s at_ ≤ 63) (h3 : szT s at_ ≠ 0) (h4 : someB s (at_ + 1) (szT s at_) = true) (h5 : out.length + 1 + szT s at_ ≤ 255) :
    takeG s at_ from_ behind out = takeG s (at_ + 1 + szT s at_) from_ behind (out ++ s.getD at_.toNat 0 :: foldB (someV s (at_ + 1) (szT s at_))) := by
  rw [takeG, dif_pos h, if_neg (by omega), if_neg (by omega), dif_pos ⟨h4, h5⟩, if_neg h3]
end
theorem foldB_len (s : List UInt8) : (foldB s).length = s.length := by simp [foldB]
theorem someV_len {s : List UInt8} {at_ many : Int} (h : someB s at_ many = true) : (someV s at_ many).length = many.toNat := by
  have := someB_iff.1 h
  simp [someV]
  omega
end Go.Proofs.YtfepkpindchleaaE
