/- Parts, put one behind the other: plain words. -/
import Derived.Test.YtfepkpindchleaaQ6
import Derived.Test.YtfepkpindchleaaW9
namespace Go.Proofs.YtfepkpindchleaaE
open Go Go.Proofs.YtfepkpindchleaaB
set_option linter.unusedVariables false
set_option linter.unusedSimpArgs false
/-- Bytes, and what is known. -/
abbrev PKt := List UInt8 × Known
abbrev Parts := List (List UInt8 × Bool)
def fewB (l : Parts) : Bool := (l.take 41).all (fun x => decide (x.1.length ≤ 400)) && decide (l.length ≤ 40)
theorem fewB_iff {l : Parts} : fewB l = true ↔ l.length ≤ 40 ∧ ∀ x ∈ l, x.1.length ≤ 400 := by
  unfold fewB
  simp only [Bool.and_eq_true, decide_eq_true_eq, List.all_eq_true]
  constructor
  · rintro ⟨h1, h2⟩
    exact ⟨h2, fun x hx => h1 x (by rw [List.take_of_length_le (by omega)]; exact hx)⟩
  · rintro ⟨h1, h2⟩
    exact ⟨fun x hx => h2 x (List.mem_of_mem_take hx), h1⟩
def stN (p : PKt) (x : List UInt8 × Bool) : PKt := bif mayV x.1 then nameP x.1 p.1 p.2 else p
def stB (p : PKt) (x : List UInt8 × Bool) : PKt := bif x.2 then (p.1 ++ x.1, p.2) else stN p x
def stA (p : PKt) (x : List UInt8 × Bool) : PKt := bif x.2 then p else stN p x
def GoodP (k : Nat) (p : PKt) : Prop := PI p.1 p.2 ∧ p.1.length ≤ 400 * k
theorem good_nil : GoodP 0 ([], []) := ⟨fun n a h => (by cases h), by simp⟩
theorem stN_good {k : Nat} {p : PKt} {x : List UInt8 × Bool} (h : GoodP k p) (hx : x.1.length ≤ 400) : GoodP (k + 1) (stN p x) ∧ (stN p x).1.length ≤ p.1.length + x.1.length ∧ ∃ T, (stN p x).1 = p.1 ++ T := by
  unfold stN
  cases hm : mayV x.1 with
  | false => exact ⟨⟨h.1, by have := h.2; simp only [cond_false]; omega⟩, by simp, [], by simp⟩
  | true =>
    obtain ⟨T, N', a1, a2, a3, _⟩ := name_put hm h.1
    obtain ⟨l1, _, _⟩ := nameL_len _ x.1 p.1 p.2 rfl (may_iff.1 hm).1
    rw [cond_true]
    refine ⟨⟨?_, by have := h.2; omega⟩, l1, T, a1⟩
    rw [a1, a2]
    exact a3
theorem stB_good {k : Nat} {p : PKt} {x : List UInt8 × Bool} (h : GoodP k p) (hx : x.1.length ≤ 400) : GoodP (k + 1) (stB p x) ∧ ∃ T, (stB p x).1 = p.1 ++ T := by
  unfold stB
  cases x.2 with
  | true => exact ⟨⟨h.1.mono _, by have := h.2; simp only [cond_true, List.length_append]; omega⟩, x.1, rfl⟩
  | false => exact ⟨(stN_good h hx).1, (stN_good h hx).2.2⟩
theorem stA_good {k : Nat} {p : PKt} {x : List UInt8 × Bool} (h : GoodP k p) (hx : x.1.length ≤ 400) : GoodP (k + 1) (stA p x) := by
  unfold stA
  cases x.2 with
  | true => exact ⟨h.1, by have := h.2; simp only [cond_true]; omega⟩
  | false => exact (stN_good h hx).1
theorem fold_good {st : PKt → List UInt8 × Bool → PKt} (hst : ∀ k p x, GoodP k p → x.1.length ≤ 400 → GoodP (k + 1) (st p x)) : ∀ (l : Parts) (k : Nat) (p : PKt), GoodP k p → (∀ x ∈ l, x.1.length ≤ 400) → GoodP (k + l.length) (l.foldl st p)
  | [], k, p, h, _ => h
  | x :: l, k, p, h, hl => by
    have := fold_good hst l (k + 1) (st p x) (hst k p x h (hl x List.mem_cons_self)) fun y hy => hl y (List.mem_cons_of_mem _ hy)
    rw [show k + 1 + l.length = k + (x :: l).length by simp; omega] at this
    exact this
/-- Where parts begin, and end. -/
def atsB : Parts → PKt → List Int × List Int
  | [], _ => ([], [])
  | x :: l, p => ((p.1.length : Int) :: (atsB l (stB p x)).1, ((stB p x).1.length : Int) :: (atsB l (stB p x)).2)
theorem fold_pre : ∀ (l : Parts) (k : Nat) (p : PKt), GoodP k p → (∀ x ∈ l, x.1.length ≤ 400) → ∃ X, (l.foldl stB p).1 = p.1 ++ X
  | [], k, p, h, _ => ⟨[], by simp⟩
  | x :: l, k, p, h, hl => by
    obtain ⟨h1, T, h2⟩ := stB_good h (hl x List.mem_cons_self)
    obtain ⟨X, h3⟩ := fold_pre l (k + 1) (stB p x) h1 fun y hy => hl y (List.mem_cons_of_mem _ hy)
    exact ⟨T ++ X, by rw [List.foldl_cons, h3, h2, List.append_assoc]⟩
theorem ats_back : ∀ (l : Parts) (k : Nat) (p : PKt), GoodP k p → (∀ x ∈ l, x.1.length ≤ 400) → ∀ i (hi : i < l.length), l[i].2 = false → mayV l[i].1 = true →
    takeG (l.foldl stB p).1 ((atsB l p).1.getD i 0) ((atsB l p).1.getD i 0) (-1) [] = some (l[i].1, (atsB l p).2.getD i 0)
  | [], k, p, h, _, i, hi, _, _ => by simp at hi
  | x :: l, k, p, h, hl, i, hi, h2, hm => by
    obtain ⟨h1, T, hT⟩ := stB_good h (hl x List.mem_cons_self)
    have hl' : ∀ y ∈ l, y.1.length ≤ 400 := fun y hy => hl y (List.mem_cons_of_mem _ hy)
    cases i with
    | zero =>
      have h2 : x.2 = false := h2
      have hm : mayV x.1 = true := hm
      obtain ⟨X, hX⟩ := fold_pre l (k + 1) (stB p x) h1 hl'
      obtain ⟨T, N', a1, a2, a3, a4⟩ := name_put hm h.1
      have hs : (stB p x).1 = p.1 ++ T := by unfold stB stN; rw [h2, hm]; exact a1
      have hr := takeG_rd (a4.mono X) (-1) [] (by have := (may_iff.1 hm).2.1; simpa using this)
      rw [List.foldl_cons, hX, hs]
      show takeG _ (p.1.length : Int) (p.1.length : Int) (-1) [] = some (x.1, (((stB p x).1.length : Nat) : Int))
      rw [hr, hs]
      rfl
    | succ i => exact ats_back l (k + 1) (stB p x) h1 hl' i (by simpa using hi) h2 hm
theorem nameL_pre : ∀ (m : Nat) (n S : List UInt8) (L : Known), n.length = m → ∃ N, (nameL n S L).2.2.2 = L ++ N := by
  intro m
  induction m using Nat.strongRecOn with
  | _ m ih =>
    intro n S L hm
    by_cases h0 : n = [0]
    · rw [h0, nameL_root]; exact ⟨[], by simp⟩
    · cases hlk : lookK n L with
      | some a => rw [nameL_known h0 hlk]; exact ⟨[], by simp⟩
      | none =>
        by_cases h1 : n = []
        · rw [nameL, if_neg h0]; simp only [hlk, dif_pos h1]; exact ⟨[], by simp⟩
        · rw [nameL_next h0 h1 hlk]
          obtain ⟨N, hN⟩ := ih (tlN n).length (by have := tlN_lt h1; omega) (tlN n) (S ++ hdN n) (if S.length < 16384 then L ++ [(n, (S.length : Int))] else L) rfl
          rw [hN]
          split
          · exact ⟨[(n, (S.length : Int))] ++ N, by rw [List.append_assoc]⟩
          · exact ⟨N, rfl⟩
/-- A name that was put is known then. -/
theorem nameP_knows {n S : List UInt8} {L : Known} (h0 : n ≠ [0]) (h1 : n ≠ []) (hS : S.length < 16384) : (lookK n (nameP n S L).2).isSome = true := by
  unfold nameP
  cases hlk : lookK n L with
  | some a => rw [nameL_known h0 hlk]; exact look_has (look_mem hlk)
  | none =>
    rw [nameL_next h0 h1 hlk, if_pos hS]
    obtain ⟨N, hN⟩ := nameL_pre _ (tlN n) (S ++ hdN n) (L ++ [(n, (S.length : Int))]) rfl
    rw [hN]
    exact look_has (a := (S.length : Int)) (by simp)
/-- A name that was put takes two bytes; the root, one. -/
theorem nameP_twice {n S : List UInt8} {L : Known} (hm : mayV n = true) (hS : S.length < 16384) :
    (nameP n (nameP n S L).1 (nameP n S L).2).1.length = (nameP n S L).1.length + (if n = [0] then 1 else 2) := by
  by_cases h0 : n = [0]
  · rw [if_pos h0, h0]
    unfold nameP
    rw [nameL_root, nameL_root]
    simp [endN]
  · rw [if_neg h0]
    have h1 : n ≠ [] := by
      rintro rfl
      rcases root_cases (may_iff.1 hm).1 with h | ⟨_, h, _⟩
      · cases h
      · exact h rfl
    have := nameP_knows (n := n) (S := S) (L := L) h0 h1 hS
    obtain ⟨a, ha⟩ := Option.isSome_iff_exists.1 this
    generalize nameP n S L = p at *
    unfold nameP
    rw [nameL_known h0 ha]
    simp [endN, put16_len]
theorem drop_getD {α : Type} {l : List α} {i : Int} (d : α) (h0 : 0 ≤ i) (h : i < l.length) : l.drop i.toNat = l.getD i.toNat d :: l.drop (i + 1).toNat ∧ l.getD i.toNat d ∈ l := by
  have hk : i.toNat < l.length := by omega
  rw [List.getD_eq_getElem?_getD, List.getElem?_eq_getElem hk, show (i + 1).toNat = i.toNat + 1 by omega]
  exact ⟨List.drop_eq_getElem_cons hk, List.getElem_mem hk⟩
theorem pkC_good {k : Nat} {p : PKt} (h : GoodP k p) (hk : k ≤ 41) : pkC (bytesInt p.1) p.2 = true := by
  unfold pkC
  rw [bytesInt_ok, h.1.kOk, bytesInt_len, Nat.ble_eq_true_of_le (by have := h.2; omega)]
  rfl
end Go.Proofs.YtfepkpindchleaaE
