/- The engine, part 17: an operation's effect as a value; what it depends on. -/
import Derived.Test.YtfepkpindchleaaE16
namespace Go.Proofs.YtfepkpindchleaaE
open Go
set_option linter.unusedVariables false
set_option linter.unusedSimpArgs false

section
variable {R : Type} (T : Tab)

theorem req_bind (b : Bool) (x : Option Eff) (K : Eff → Option R) : (req b x).bind K = req b (x.bind K) := by cases b <;> rfl
theorem pick_bind (i : Int) (G : Nat → Option Eff) (K : Eff → Option R) : ∀ (n j : Nat), (pickIdx i n j G).bind K = pickIdx i n j fun j => (G j).bind K
  | 0, _ => rfl
  | n + 1, j => by
    simp only [pickIdx]
    cases decide (i = (j : Int)) with
    | true => rfl
    | false => exact pick_bind i G K n (j + 1)
theorem go_bind (lo hi mx : Option AV) (n : Nat) (G : Nat → Nat → Bool → Option Eff) (K : Eff → Option R) : (sliceGo lo hi mx n G).bind K = sliceGo lo hi mx n fun l h c => (G l h c).bind K := by
  unfold sliceGo
  split
  · rw [req_bind, req_bind]
    congr 2
    split
    · rfl
    · split
      · rw [req_bind]
      · rfl
  · rfl

theorem binOpE_bind (t : Nat) (op : BinOp) (x y : AV) (K : Eff → Option R) : binOpE T t op x y K = (binOpE T t op x y some).bind K := by
  unfold binOpE
  split <;> (try rw [req_bind]; rfl) <;> (try (split <;> (try rw [req_bind]) <;> (try split) <;> rfl)) <;> (try rfl)

theorem sliceE_bind (hp : Nat → LObj) (t : Nat) (x : AV) (lo hi mx : Option AV) (K : Eff → Option R) : sliceE T hp t x lo hi mx K = (sliceE T hp t x lo hi mx some).bind K := by
  unfold sliceE
  repeat' (first | rfl | rw [go_bind]; (try rfl) | split)

theorem appendE_bind (hp : Nat → LObj) (nx t t2 : Nat) (x y : AV) (K : Eff → Option R) : appendE T hp nx t t2 x y K = (appendE T hp nx t t2 x y some).bind K := by
  unfold appendE
  repeat' (first | rfl | rw [req_bind]; (try rfl) | split)
  all_goals (simp only; congr 1; generalize (_ || _) = b; cases b <;> rfl)

theorem makeSliceE_bind (nx t : Nat) (x y : AV) (K : Eff → Option R) : makeSliceE T nx t x y K = (makeSliceE T nx t x y some).bind K := by
  unfold makeSliceE
  repeat' (first | rfl | rw [req_bind]; (try rfl) | split)

theorem convertE_bind (hp : Nat → LObj) (nx s d : Nat) (x : AV) (K : Eff → Option R) : convertE T hp nx s d x K = (convertE T hp nx s d x some).bind K := by
  unfold convertE
  repeat' (first | rfl | rw [req_bind]; (try rfl) | split)

theorem indexAddrE_bind (hp : Nat → LObj) (t : Nat) (x ix : AV) (K : Eff → Option R) : indexAddrE T hp t x ix K = (indexAddrE T hp t x ix some).bind K := by
  unfold indexAddrE
  repeat' (first | rfl | rw [req_bind, req_bind]; (try rfl) | rw [pick_bind]; (try rfl) | split)

theorem indexE_bind (t : Nat) (x ix : AV) (K : Eff → Option R) : indexE T t x ix K = (indexE T t x ix some).bind K := by
  unfold indexE
  repeat' (first | rfl | rw [req_bind, req_bind]; (try rfl) | rw [pick_bind]; (try rfl) | split)
  all_goals (congr 1; funext j; split <;> rfl)

theorem buildSliceE_bind (hp : Nat → LObj) (nx t n : Nat) (ps : List (Nat × AV)) (K : Eff → Option R) : buildSliceE T hp nx t n ps K = (buildSliceE T hp nx t n ps some).bind K := by
  unfold buildSliceE
  repeat' (first | rfl | split)
  all_goals (simp only; repeat' (first | rfl | split))

theorem tr_bind (t : Tr Res) (G : Res → Option Eff) (K : Eff → Option R) : (t.run G).bind K = t.run fun q => (G q).bind K := by
  rw [Tr.run_get, Tr.run_get]
  cases t.get <;> rfl

theorem callE_bind (orc : Orc) (hp : Nat → LObj) (f : Nat) (args : List AV) (K : Eff → Option R) : callE T orc hp f args K = (callE T orc hp f args some).bind K := by
  unfold callE
  simp only
  split
  · rw [tr_bind]
    congr 1
    funext q
    repeat' (first | rfl | split)
  · rw [tr_bind]
    rfl

theorem builtinE_bind (hp : Nat → LObj) (nx : Nat) (b : Builtin) (ts : List Nat) (vs : List AV) (K : Eff → Option R) : builtinE T hp nx b ts vs K = (builtinE T hp nx b ts vs some).bind K := by
  unfold builtinE
  repeat' (first | rfl | exact appendE_bind _ _ _ _ _ _ _ _ | split)

theorem evOp_bind (orc : Orc) (o : Op) (ty : Nat) (st : St) (K : Eff → Option R) : evOp T orc o ty st K = (evOp T orc o ty st some).bind K := by
  cases o
  case pick c a b =>
    simp only [evOp]
    split
    · rename_i b _
      cases b <;> rfl
    · rfl
  all_goals simp only [evOp]
  all_goals (first | rfl | exact binOpE_bind _ _ _ _ _ _ | exact sliceE_bind _ _ _ _ _ _ _ _ | exact makeSliceE_bind _ _ _ _ _ _ | exact convertE_bind _ _ _ _ _ _ _ | exact indexAddrE_bind _ _ _ _ _ _ | exact indexE_bind _ _ _ _ _ | exact buildSliceE_bind _ _ _ _ _ _ _ | skip)
  all_goals (repeat' (first | rfl | exact builtinE_bind _ _ _ _ _ _ _ | exact callE_bind _ _ _ _ _ _ | split))

end
end Go.Proofs.YtfepkpindchleaaE
