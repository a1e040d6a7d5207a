/- The same words, to be reckoned out. -/
import Derived.Test.YtfepkpindchleaaQ2
namespace Go.Proofs.YtfepkpindchleaaE
open Go Go.Proofs.YtfepkpindchleaaB
set_option linter.unusedVariables false
set_option linter.unusedSimpArgs false
def eachU : Nat → List UInt8 → List (List UInt8) × List UInt8
  | 0, s => ([], s)
  | n + 1, s => match s with
    | [] => ([], [])
    | c :: t => if c.toNat = 0 ∨ 63 < c.toNat ∨ t.length < c.toNat then ([], c :: t) else ((t.take c.toNat) :: (eachU n (t.drop c.toNat)).1, (eachU n (t.drop c.toNat)).2)
theorem eachU_eq : ∀ (n : Nat) (s : List UInt8), s.length < n → eachU n s = eachF s
  | 0, s, h => by omega
  | n + 1, [], h => by rw [eachF, eachU]
  | n + 1, c :: t, h => by
    rw [eachF, eachU]
    simp at h
    rw [eachU_eq n (t.drop c.toNat) (by simp; omega)]
theorem eachF_u (s : List UInt8) : eachF s = eachU (s.length + 1) s := (eachU_eq _ s (by omega)).symm
def mayU (s : List UInt8) : Bool := (eachU (s.length + 1) s).2 == [0] && (Nat.ble s.length 255 && (foldB s == s))
theorem mayV_u (s : List UInt8) : mayV s = mayU s := by
  unfold mayV mayU rootV
  rw [eachF_u]
def nameU : Nat → List UInt8 → List UInt8 → Known → Option Int × (List UInt8 × (List UInt8 × Known))
  | 0, n, S, L => (none, n, S, L)
  | m + 1, n, S, L => if n = [0] then (none, n, S, L) else match lookK n L with
    | some a => (some a, n, S, L)
    | none => if n = [] then (none, n, S, L) else nameU m (tlN n) (S ++ hdN n) (if S.length < 16384 then L ++ [(n, (S.length : Int))] else L)
theorem nameU_eq : ∀ (m : Nat) (n S : List UInt8) (L : Known), n.length < m → nameU m n S L = nameL n S L
  | 0, n, S, L, h => by omega
  | m + 1, n, S, L, h => by
    rw [nameL, nameU]
    by_cases h0 : n = [0]
    · rw [if_pos h0, if_pos h0]
    · rw [if_neg h0, if_neg h0]
      cases lookK n L with
      | some a => rfl
      | none =>
        simp only
        by_cases h1 : n = []
        · rw [if_pos h1, dif_pos h1]
        · rw [if_neg h1, dif_neg h1, nameU_eq m _ _ _ (by have := tlN_lt h1; omega)]
def namePU (n S : List UInt8) (L : Known) : List UInt8 × Known := ((nameU (n.length + 1) n S L).2.2.1 ++ endN (nameU (n.length + 1) n S L).1, (nameU (n.length + 1) n S L).2.2.2)
theorem nameP_u (n S : List UInt8) (L : Known) : nameP n S L = namePU n S L := by
  unfold nameP namePU
  rw [nameU_eq _ n S L (by omega)]
def takeU (s : List UInt8) : Nat → Int → Int → Int → List UInt8 → Option (List UInt8 × Int)
  | 0, _, _, _, _ => none
  | m + 1, at_, from_, behind, out =>
    if someB s at_ 1 = true then
      if 192 ≤ szT s at_ then
        (if someB s at_ 2 = true ∧ toT s at_ < from_ then takeU s m (toT s at_) (toT s at_) (if behind < 0 then at_ + 2 else behind) out else none)
      else if 63 < szT s at_ then none
      else if someB s (at_ + 1) (szT s at_) = true ∧ out.length + 1 + szT s at_ ≤ 255 then
        (if szT s at_ = 0 then some (out ++ [0], if behind < 0 then at_ + 1 else behind)
         else takeU s m (at_ + 1 + szT s at_) from_ behind (out ++ s.getD at_.toNat 0 :: foldB (someV s (at_ + 1) (szT s at_))))
      else none
    else none
theorem takeU_eq (s : List UInt8) : ∀ (m : Nat) (at_ from_ behind : Int) (out : List UInt8), msT s at_ from_ < m → takeU s m at_ from_ behind out = takeG s at_ from_ behind out
  | 0, _, _, _, _, h => by omega
  | m + 1, at_, from_, behind, out, h => by
    rw [takeG, takeU]
    by_cases h1 : someB s at_ 1 = true
    · rw [if_pos h1, dif_pos h1]
      by_cases h2 : 192 ≤ szT s at_
      · rw [if_pos h2, if_pos h2]
        by_cases h3 : someB s at_ 2 = true ∧ toT s at_ < from_
        · rw [if_pos h3, dif_pos h3, takeU_eq s m _ _ _ _ (by have := msT_to (s := s) (at_ := at_) (toT_in s at_).1 h3.2; omega)]
        · rw [if_neg h3, dif_neg h3]
      · rw [if_neg h2, if_neg h2]
        by_cases h3 : 63 < szT s at_
        · rw [if_pos h3, if_pos h3]
        · rw [if_neg h3, if_neg h3]
          by_cases h4 : someB s (at_ + 1) (szT s at_) = true ∧ out.length + 1 + szT s at_ ≤ 255
          · rw [if_pos h4, dif_pos h4]
            by_cases h5 : szT s at_ = 0
            · rw [if_pos h5, if_pos h5]
            · rw [if_neg h5, if_neg h5, takeU_eq s m _ _ _ _ (by
                have a1 := someB_iff.1 h1
                have a4 := someB_iff.1 h4.1
                have := msT_on (s := s) (from_ := from_) a1.1 a4.2.2
                omega)]
          · rw [if_neg h4, dif_neg h4]
    · rw [if_neg h1, dif_neg h1]
theorem takeG_u (s : List UInt8) (at_ : Int) : takeG s at_ at_ (-1) [] = takeU s (msT s at_ at_ + 1) at_ at_ (-1) [] := (takeU_eq s _ _ _ _ _ (by omega)).symm
example : mayV [3, 119, 119, 119, 2, 97, 98, 0] = true := by rw [mayV_u]; decide
example : (nameP [3, 119, 119, 119, 2, 97, 98, 0] [] []).1 = [3, 119, 119, 119, 2, 97, 98, 0] := by rw [nameP_u]; decide
example : takeG [3, 119, 119, 119, 2, 97, 98, 0, 192, 4] 8 8 (-1) [] = some ([2, 97, 98, 0], 10) := by rw [takeG_u]; decide
end Go.Proofs.YtfepkpindchleaaE
