/- WireName. -/
import Derived.Test.YtfepkpindchleaaQ5
import Derived.Test.YtfepkpindchleaaW12
import Derived.Test.YtfepkpindchleaaE25
namespace Go.Proofs.YtfepkpindchleaaE
open Go Go.Proofs.YtfepkpindchleaaB
set_option linter.unusedVariables false
set_option linter.unusedSimpArgs false
/-! ### Trees whose ways are known -/
theorem allT {α : Type} {P : α → Prop} {x y : Tr α} : (Tr.br true x y).all P ↔ x.all P := ⟨fun h => h.1 rfl, fun h => ⟨fun _ => h, fun e => by cases e⟩⟩
theorem allF {α : Type} {P : α → Prop} {x y : Tr α} : (Tr.br false x y).all P ↔ y.all P := ⟨fun h => h.2 rfl, fun h => ⟨(fun e => by cases e), fun _ => h⟩⟩
theorem allR {α : Type} {P : α → Prop} {a : α} : (Tr.ret a).all P ↔ P a := Iff.rfl
theorem wireName_all (s : List UInt8) (at_ : Int) (n : List UInt8) : (t7 s at_ n).all fun x => x = ([.bool true], []) := by
  unfold t7
  by_cases h1 : (s.length : Int) > 1000
  · simp only [decide_eq_true h1, allT, allR]
  by_cases h2 : (n.length : Int) > 400
  · simp only [decide_eq_false h1, decide_eq_true h2, allT, allF, allR]
  have hb : bigS s = true := by simp [bigS]; omega
  have hbn : bigS n = true := by simp [bigS]; omega
  have hbns : bigS (n ++ s) = true := by simp [bigS]; omega
  have hble : Nat.ble (List.length n + List.length s) 9223372036854775807 = true := Nat.ble_eq_true_of_le (by omega)
  have key : ∀ m next, takeG s at_ at_ (-1) [] = some (m, next) → mayV m = true ∧ bigS m = true ∧ at_ < next ∧ next ≤ s.length := fun m next h => by
    obtain ⟨a1, _, a3, _⟩ := takeG_may _ at_ at_ (-1) [] m next rfl LP_nil h
    obtain ⟨_, a4, _⟩ := may_iff.1 a1
    exact ⟨a1, by simp [bigS]; omega, a3 (by omega)⟩
  cases ho : takeG s at_ at_ (-1) [] with
  | none =>
    cases hm : mayV n with
    | false => simp [decide_eq_false h1, decide_eq_false h2, hb, hbn, hbns, hble, hm, tkE, tkS, tkN, allT, allF, allR]
    | true =>
      simp [decide_eq_false h1, decide_eq_false h2, hb, hbn, hbns, hble, hm, tkE, tkS, tkN, takeG_self (X := s) hm, allT, allF, allR]
  | some p =>
    obtain ⟨m, next⟩ := p
    obtain ⟨k1, k2, k3, k4⟩ := key m next ho
    cases hm : mayV n with
    | false => simp [decide_eq_false h1, decide_eq_false h2, hb, hbn, hbns, hble, hm, tkE, tkS, tkN, k1, k2, k3, k4, allT, allF, allR]
    | true => simp [decide_eq_false h1, decide_eq_false h2, hb, hbn, hbns, hble, hm, tkE, tkS, tkN, k1, k2, k3, k4, takeG_self (X := s) hm, allT, allF, allR]
theorem sem7 (s : List UInt8) (at_ : Int) (n : List UInt8) : SemF Try.prog 7 [.str s, .int .i64 at_, .str n] [] [.bool true] [] :=
  ok7 (s, at_, n, ()) () ([.bool true], []) (Tr.get_of_all (wireName_all s at_ n))
end Go.Proofs.YtfepkpindchleaaE
