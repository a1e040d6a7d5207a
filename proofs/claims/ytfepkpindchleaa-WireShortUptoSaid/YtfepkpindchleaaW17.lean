/- WireShort: the law. -/
import Derived.Test.YtfepkpindchleaaW16
import Derived.Test.YtfepkpindchleaaE25
namespace Go.Proofs.YtfepkpindchleaaE
open Go Go.Proofs.YtfepkpindchleaaB
set_option linter.unusedVariables false
set_option linter.unusedSimpArgs false
theorem wireShort_all (l : Parts) (n : List UInt8) (hb : bigS n = true) : (t9 l n).all fun x => x = ([.bool true], []) := by
  unfold t9
  cases hf : fewB l with
  | false => exact Tr.all_t rfl (Tr.all_ret rfl)
  | true =>
    obtain ⟨hl, hx⟩ := fewB_iff.1 hf
    refine Tr.all_f rfl (Tr.all_t hb ?_)
    cases hm : mayV n with
    | false => exact Tr.all_t rfl (Tr.all_ret rfl)
    | true =>
      have hg : GoodP l.length (l.foldl stN ([], [])) := by
        have := fold_good (st := stN) (fun k p x h hx => (stN_good h hx).1) l 0 ([], []) good_nil hx
        rwa [Nat.zero_add] at this
      generalize l.foldl stN ([], []) = p at hg
      have hn := (may_iff.1 hm).2.1
      have g1 : GoodP (l.length + 1) (nameP n p.1 p.2) := by
        have := (stN_good (x := (n, false)) hg (by show n.length ≤ 400; omega)).1
        unfold stN at this
        rw [show mayV (n, false).1 = true from hm, cond_true] at this
        exact this
      have g2 : GoodP (l.length + 2) (nameP n (nameP n p.1 p.2).1 (nameP n p.1 p.2).2) := by
        have := (stN_good (x := (n, false)) g1 (by show n.length ≤ 400; omega)).1
        unfold stN at this
        rw [show mayV (n, false).1 = true from hm, cond_true] at this
        exact this
      have hp := hg.2
      have hp1 := g1.2
      have ht := nameP_twice (n := n) (S := p.1) (L := p.2) hm (by omega)
      have hw1 := IntWalk.i64_in (((nameP n p.1 p.2).1.length : Int) + 1) (by omega)
      have hw2 := IntWalk.i64_in (((nameP n p.1 p.2).1.length : Int) + 2) (by omega)
      have hbl : Nat.ble n.length 100000000000 = true := Nat.ble_eq_true_of_le (by omega)
      by_cases h0 : n = [0]
      · rw [if_pos h0] at ht
        have hz : (n == [0]) = true := beq_iff_eq.2 h0
        simp [hm, hf, p0C, intB_bytes, pkC_good hg (by omega), pkC_good g1 (by omega), hbl, allT, allF, allR, bytesInt_len, hw1, ht, hz]
      · rw [if_neg h0] at ht
        have hz : (n == [0]) = false := beq_eq_false_iff_ne.2 h0
        simp [hm, hf, p0C, intB_bytes, pkC_good hg (by omega), pkC_good g1 (by omega), hbl, allT, allF, allR, bytesInt_len, hw2, ht, hz]
theorem bulk_big {n : List UInt8} (h : bulkT .str n ≤ 1048576) : bigS n = true := by
  have : List.length n + 1 ≤ 1048576 := h
  simp [bigS]
  omega
theorem sem9 (l : Parts) (n : List UInt8) (hbk : bulkT .str n ≤ 1048576) : SemF Try.prog 9 [.list (.pair .str .bool) l, .str n] [] [.bool true] [] :=
  ok9 (l, n, ()) () ([.bool true], []) (Tr.get_of_all (wireShort_all l n (bulk_big hbk)))
end Go.Proofs.YtfepkpindchleaaE
