import Derived.Test.YtfepkpindchleaaMWireAgainUpto1
import Derived.Test.YtfepkpindchleaaRows
import Derived.WalkKit
import Derived.ProofKit
import Derived.OpenShut
import Derived.ShutString
import Derived.ChangeOld
import Derived.Below
import Derived.Carry
import Derived.SizedLaws
/- wire.Take: a word. -/
namespace Go.Proofs.YtfepkpindchleaaE
open Go Go.Proofs.YtfepkpindchleaaB
set_option linter.unusedVariables false
set_option linter.unusedSimpArgs false
/-- A loop by its rounds' trees: each way ends it, goes on with less to do, or comes to where it is known how it ends. -/
theorem loop_tr2 {α : Type} {F : St → Option (St ⊕ (Ex × St))} (mk : α → St) (I : α → Prop) (m : α → Nat) (r : Ex × St) (t : α → Tr (St ⊕ (Ex × St))) (hF : ∀ a x, (t a).get = some x → F (mk a) = some x)
    (h : ∀ a, I a → (t a).all fun x => x = .inr r ∨ (∃ a', x = .inl (mk a') ∧ I a' ∧ m a' < m a) ∨ ∃ st', x = .inl st' ∧ loopF F st' = some r) : ∀ a, I a → loopF F (mk a) = some r := by
  have key : ∀ (n : Nat) (a : α), m a = n → I a → loopF F (mk a) = some r := by
    intro n
    induction n using Nat.strongRecOn with
    | _ n ih =>
      intro a hn ha
      obtain ⟨x, h1, h2⟩ := Tr.all_get (h a ha)
      rcases h2 with rfl | ⟨a', rfl, ha', hlt⟩ | ⟨st', rfl, h3⟩
      · exact loopF_inr (hF a _ h1)
      · rw [loopF_inl (hF a _ h1)]
        exact ih (m a') (by omega) a' rfl ha'
      · rw [loopF_inl (hF a _ h1)]
        exact h3
  exact fun a ha => key _ a rfl ha
def tkC (s : List UInt8) (b : List Int) : Bool := bigS s && (bytesOk b && Nat.ble b.length 255)
def tkI (s : List UInt8) (a0 f0 h0 : Int) (b0 : List Int) (at_ from_ behind : Int) (b : List Int) : Prop := bytesOk b = true ∧ b.length ≤ 255 ∧ takeG s at_ from_ behind (intBytes b) = takeG s a0 f0 h0 (intBytes b0)
noncomputable def b27u : Code := (nthLoop c27 0)
def ls27u : LoopSpec := { bid := 0, sh := [.d .str false, .d (.int .i64) false, .ptr 0 0, .d (.int .i64) false, .d (.int .i64) false], so := [.tbox 88 [.ptr 0 0, .row 1], .row (.int .u8)], F := fun (s, at_, from_, behind, _) (_, b, _) => .on (tkC s b) (.ret, [.str (tkS (takeG s at_ from_ behind (intBytes b))), .int .i64 (tkN (takeG s at_ from_ behind (intBytes b))), .int .i64 (tkE (takeG s at_ from_ behind (intBytes b)))], []) }
def r27u (s : List UInt8) (at_ : Int) (from_ : Int) (behind : Int) (b : List Int) : Tr (St ⊕ (Ex × St)) := Tr.br (bigS s) (Tr.br (someB s at_ (1 : Int)) (Tr.br (decide ((↑(UInt8.toNat (List.getD s (Int.toNat at_) 0)) : Int) > (63 : Int))) (Tr.br (decide ((↑(UInt8.toNat (List.getD s (Int.toNat at_) 0)) : Int) < (192 : Int))) (Tr.ret (Sum.inr (Ex.ret, stOf [4, 5, 6] [AV.str [], AV.int IntKind.i64 (0 : Int), AV.int IntKind.i64 (2 : Int)] []))) (Tr.br (decide ((↑(UInt8.toNat (List.getD s (Int.toNat at_) 0)) : Int) ≥ (192 : Int))) (Tr.br (bigS s) (Tr.br (someB s at_ (2 : Int)) (Tr.br (decide (IntKind.wrap IntKind.i64 (↑(BitVec.toNat (BitVec.ofInt (IntKind.bits IntKind.i64) (IntKind.wrap IntKind.i64 (n16 s at_)) &&& ~~~BitVec.ofInt (IntKind.bits IntKind.i64) (49152 : Int))) : Int) < from_)) (Tr.br (decide (behind < (0 : Int))) (Tr.ret (Sum.inl (stOf [0, 1, 7, 8, 9] [AV.str s, AV.int IntKind.i64 (IntKind.wrap IntKind.i64 (↑(BitVec.toNat (BitVec.ofInt (IntKind.bits IntKind.i64) (IntKind.wrap IntKind.i64 (n16 s at_)) &&& ~~~BitVec.ofInt (IntKind.bits IntKind.i64) (49152 : Int))) : Int)), AV.ptr 0 0, AV.int IntKind.i64 (IntKind.wrap IntKind.i64 (↑(BitVec.toNat (BitVec.ofInt (IntKind.bits IntKind.i64) (IntKind.wrap IntKind.i64 (n16 s at_)) &&& ~~~BitVec.ofInt (IntKind.bits IntKind.i64) (49152 : Int))) : Int)), AV.int IntKind.i64 (at_ + (2 : Ty.den (Ty.int IntKind.i64)))] [LObj.boxT (some 88) [AV.ptr 0 0, AV.rowA 1], LObj.row (Ty.int IntKind.u8) b]))) (Tr.ret (Sum.inl (stOf [0, 1, 7, 8, 9] [AV.str s, AV.int IntKind.i64 (IntKind.wrap IntKind.i64 (↑(BitVec.toNat (BitVec.ofInt (IntKind.bits IntKind.i64) (IntKind.wrap IntKind.i64 (n16 s at_)) &&& ~~~BitVec.ofInt (IntKind.bits IntKind.i64) (49152 : Int))) : Int)), AV.ptr 0 0, AV.int IntKind.i64 (IntKind.wrap IntKind.i64 (↑(BitVec.toNat (BitVec.ofInt (IntKind.bits IntKind.i64) (IntKind.wrap IntKind.i64 (n16 s at_)) &&& ~~~BitVec.ofInt (IntKind.bits IntKind.i64) (49152 : Int))) : Int)), AV.int IntKind.i64 behind] [LObj.boxT (some 88) [AV.ptr 0 0, AV.rowA 1], LObj.row (Ty.int IntKind.u8) b])))) (Tr.ret (Sum.inr (Ex.ret, stOf [4, 5, 6] [AV.str [], AV.int IntKind.i64 (0 : Int), AV.int IntKind.i64 (2 : Int)] [])))) (Tr.ret (Sum.inr (Ex.ret, stOf [4, 5, 6] [AV.str [], AV.int IntKind.i64 (0 : Int), AV.int IntKind.i64 (2 : Int)] [])))) Tr.no) (Tr.br (bigS s) (Tr.br (someB s (at_ + (1 : Ty.den (Ty.int IntKind.i64))) (IntKind.wrap IntKind.i64 (↑(UInt8.toNat (List.getD s (Int.toNat at_) 0)) : Int))) (Tr.br (decide (IntKind.wrap IntKind.i64 (IntKind.wrap IntKind.i64 ((↑(List.length b) : Int) + (1 : Int)) + (↑(List.length (someV s (at_ + (1 : Ty.den (Ty.int IntKind.i64))) (IntKind.wrap IntKind.i64 (↑(UInt8.toNat (List.getD s (Int.toNat at_) 0)) : Int)))) : Int)) > (255 : Int))) (Tr.ret (Sum.inr (Ex.ret, stOf [4, 5, 6] [AV.str [], AV.int IntKind.i64 (0 : Int), AV.int IntKind.i64 (2 : Int)] []))) (Tr.br (fits (List.length b + 1) 1) (Tr.br (bigS (someV s (at_ + (1 : Ty.den (Ty.int IntKind.i64))) (IntKind.wrap IntKind.i64 (↑(UInt8.toNat (List.getD s (Int.toNat at_) 0)) : Int)))) (Tr.br (fits (List.length (b ++ [(↑(UInt8.toNat (List.getD s (Int.toNat at_) 0)) : Int)]) + List.length (bytesInt (foldB (someV s (at_ + (1 : Ty.den (Ty.int IntKind.i64))) (IntKind.wrap IntKind.i64 (↑(UInt8.toNat (List.getD s (Int.toNat at_) 0)) : Int)))))) 1) (Tr.br (decide ((↑(UInt8.toNat (List.getD s (Int.toNat at_) 0)) : Int) > (0 : Int))) (Tr.ret (Sum.inl (stOf [0, 1, 7, 8, 9] [AV.str s, AV.int IntKind.i64 (at_ + (1 : Ty.den (Ty.int IntKind.i64)) + IntKind.wrap IntKind.i64 (↑(UInt8.toNat (List.getD s (Int.toNat at_) 0)) : Int)), AV.ptr 0 0, AV.int IntKind.i64 from_, AV.int IntKind.i64 behind] [LObj.boxT (some 88) [AV.ptr 0 0, AV.rowA 1], LObj.row (Ty.int IntKind.u8) (b ++ [(↑(UInt8.toNat (List.getD s (Int.toNat at_) 0)) : Int)] ++ bytesInt (foldB (someV s (at_ + (1 : Ty.den (Ty.int IntKind.i64))) (IntKind.wrap IntKind.i64 (↑(UInt8.toNat (List.getD s (Int.toNat at_) 0)) : Int)))))]))) (Tr.br (decide (behind < (0 : Int))) (Tr.br (bytesOk (b ++ [(↑(UInt8.toNat (List.getD s (Int.toNat at_) 0)) : Int)] ++ bytesInt (foldB (someV s (at_ + (1 : Ty.den (Ty.int IntKind.i64))) (IntKind.wrap IntKind.i64 (↑(UInt8.toNat (List.getD s (Int.toNat at_) 0)) : Int))))) && (!List.isEmpty (b ++ [(↑(UInt8.toNat (List.getD s (Int.toNat at_) 0)) : Int)] ++ bytesInt (foldB (someV s (at_ + (1 : Ty.den (Ty.int IntKind.i64))) (IntKind.wrap IntKind.i64 (↑(UInt8.toNat (List.getD s (Int.toNat at_) 0)) : Int))))) && Nat.ble (List.length (b ++ [(↑(UInt8.toNat (List.getD s (Int.toNat at_) 0)) : Int)] ++ bytesInt (foldB (someV s (at_ + (1 : Ty.den (Ty.int IntKind.i64))) (IntKind.wrap IntKind.i64 (↑(UInt8.toNat (List.getD s (Int.toNat at_) 0)) : Int)))))) 9223372036854775807)) (Tr.ret (Sum.inr (Ex.ret, stOf [4, 5, 6] [AV.str (intBytes (b ++ [(↑(UInt8.toNat (List.getD s (Int.toNat at_) 0)) : Int)] ++ bytesInt (foldB (someV s (at_ + (1 : Ty.den (Ty.int IntKind.i64))) (IntKind.wrap IntKind.i64 (↑(UInt8.toNat (List.getD s (Int.toNat at_) 0)) : Int)))))), AV.int IntKind.i64 (at_ + (1 : Ty.den (Ty.int IntKind.i64)) + IntKind.wrap IntKind.i64 (↑(UInt8.toNat (List.getD s (Int.toNat at_) 0)) : Int)), AV.int IntKind.i64 (0 : Int)] []))) Tr.no) (Tr.br (bytesOk (b ++ [(↑(UInt8.toNat (List.getD s (Int.toNat at_) 0)) : Int)] ++ bytesInt (foldB (someV s (at_ + (1 : Ty.den (Ty.int IntKind.i64))) (IntKind.wrap IntKind.i64 (↑(UInt8.toNat (List.getD s (Int.toNat at_) 0)) : Int))))) && (!List.isEmpty (b ++ [(↑(UInt8.toNat (List.getD s (Int.toNat at_) 0)) : Int)] ++ bytesInt (foldB (someV s (at_ + (1 : Ty.den (Ty.int IntKind.i64))) (IntKind.wrap IntKind.i64 (↑(UInt8.toNat (List.getD s (Int.toNat at_) 0)) : Int))))) && Nat.ble (List.length (b ++ [(↑(UInt8.toNat (List.getD s (Int.toNat at_) 0)) : Int)] ++ bytesInt (foldB (someV s (at_ + (1 : Ty.den (Ty.int IntKind.i64))) (IntKind.wrap IntKind.i64 (↑(UInt8.toNat (List.getD s (Int.toNat at_) 0)) : Int)))))) 9223372036854775807)) (Tr.ret (Sum.inr (Ex.ret, stOf [4, 5, 6] [AV.str (intBytes (b ++ [(↑(UInt8.toNat (List.getD s (Int.toNat at_) 0)) : Int)] ++ bytesInt (foldB (someV s (at_ + (1 : Ty.den (Ty.int IntKind.i64))) (IntKind.wrap IntKind.i64 (↑(UInt8.toNat (List.getD s (Int.toNat at_) 0)) : Int)))))), AV.int IntKind.i64 behind, AV.int IntKind.i64 (0 : Int)] []))) Tr.no))) Tr.no) Tr.no) Tr.no)) (Tr.ret (Sum.inr (Ex.ret, stOf [4, 5, 6] [AV.str [], AV.int IntKind.i64 (0 : Int), AV.int IntKind.i64 (2 : Int)] [])))) Tr.no))) (Tr.br (decide ((↑(UInt8.toNat (List.getD s (Int.toNat at_) 0)) : Int) ≥ (192 : Int))) (Tr.br (bigS s) (Tr.br (someB s at_ (2 : Int)) (Tr.br (decide (IntKind.wrap IntKind.i64 (↑(BitVec.toNat (BitVec.ofInt (IntKind.bits IntKind.i64) (IntKind.wrap IntKind.i64 (n16 s at_)) &&& ~~~BitVec.ofInt (IntKind.bits IntKind.i64) (49152 : Int))) : Int) < from_)) (Tr.br (decide (behind < (0 : Int))) (Tr.ret (Sum.inl (stOf [0, 1, 7, 8, 9] [AV.str s, AV.int IntKind.i64 (IntKind.wrap IntKind.i64 (↑(BitVec.toNat (BitVec.ofInt (IntKind.bits IntKind.i64) (IntKind.wrap IntKind.i64 (n16 s at_)) &&& ~~~BitVec.ofInt (IntKind.bits IntKind.i64) (49152 : Int))) : Int)), AV.ptr 0 0, AV.int IntKind.i64 (IntKind.wrap IntKind.i64 (↑(BitVec.toNat (BitVec.ofInt (IntKind.bits IntKind.i64) (IntKind.wrap IntKind.i64 (n16 s at_)) &&& ~~~BitVec.ofInt (IntKind.bits IntKind.i64) (49152 : Int))) : Int)), AV.int IntKind.i64 (at_ + (2 : Ty.den (Ty.int IntKind.i64)))] [LObj.boxT (some 88) [AV.ptr 0 0, AV.rowA 1], LObj.row (Ty.int IntKind.u8) b]))) (Tr.ret (Sum.inl (stOf [0, 1, 7, 8, 9] [AV.str s, AV.int IntKind.i64 (IntKind.wrap IntKind.i64 (↑(BitVec.toNat (BitVec.ofInt (IntKind.bits IntKind.i64) (IntKind.wrap IntKind.i64 (n16 s at_)) &&& ~~~BitVec.ofInt (IntKind.bits IntKind.i64) (49152 : Int))) : Int)), AV.ptr 0 0, AV.int IntKind.i64 (IntKind.wrap IntKind.i64 (↑(BitVec.toNat (BitVec.ofInt (IntKind.bits IntKind.i64) (IntKind.wrap IntKind.i64 (n16 s at_)) &&& ~~~BitVec.ofInt (IntKind.bits IntKind.i64) (49152 : Int))) : Int)), AV.int IntKind.i64 behind] [LObj.boxT (some 88) [AV.ptr 0 0, AV.rowA 1], LObj.row (Ty.int IntKind.u8) b])))) (Tr.ret (Sum.inr (Ex.ret, stOf [4, 5, 6] [AV.str [], AV.int IntKind.i64 (0 : Int), AV.int IntKind.i64 (2 : Int)] [])))) (Tr.ret (Sum.inr (Ex.ret, stOf [4, 5, 6] [AV.str [], AV.int IntKind.i64 (0 : Int), AV.int IntKind.i64 (2 : Int)] [])))) Tr.no) (Tr.br (bigS s) (Tr.br (someB s (at_ + (1 : Ty.den (Ty.int IntKind.i64))) (IntKind.wrap IntKind.i64 (↑(UInt8.toNat (List.getD s (Int.toNat at_) 0)) : Int))) (Tr.br (decide (IntKind.wrap IntKind.i64 (IntKind.wrap IntKind.i64 ((↑(List.length b) : Int) + (1 : Int)) + (↑(List.length (someV s (at_ + (1 : Ty.den (Ty.int IntKind.i64))) (IntKind.wrap IntKind.i64 (↑(UInt8.toNat (List.getD s (Int.toNat at_) 0)) : Int)))) : Int)) > (255 : Int))) (Tr.ret (Sum.inr (Ex.ret, stOf [4, 5, 6] [AV.str [], AV.int IntKind.i64 (0 : Int), AV.int IntKind.i64 (2 : Int)] []))) (Tr.br (fits (List.length b + 1) 1) (Tr.br (bigS (someV s (at_ + (1 : Ty.den (Ty.int IntKind.i64))) (IntKind.wrap IntKind.i64 (↑(UInt8.toNat (List.getD s (Int.toNat at_) 0)) : Int)))) (Tr.br (fits (List.length (b ++ [(↑(UInt8.toNat (List.getD s (Int.toNat at_) 0)) : Int)]) + List.length (bytesInt (foldB (someV s (at_ + (1 : Ty.den (Ty.int IntKind.i64))) (IntKind.wrap IntKind.i64 (↑(UInt8.toNat (List.getD s (Int.toNat at_) 0)) : Int)))))) 1) (Tr.br (decide ((↑(UInt8.toNat (List.getD s (Int.toNat at_) 0)) : Int) > (0 : Int))) (Tr.ret (Sum.inl (stOf [0, 1, 7, 8, 9] [AV.str s, AV.int IntKind.i64 (at_ + (1 : Ty.den (Ty.int IntKind.i64)) + IntKind.wrap IntKind.i64 (↑(UInt8.toNat (List.getD s (Int.toNat at_) 0)) : Int)), AV.ptr 0 0, AV.int IntKind.i64 from_, AV.int IntKind.i64 behind] [LObj.boxT (some 88) [AV.ptr 0 0, AV.rowA 1], LObj.row (Ty.int IntKind.u8) (b ++ [(↑(UInt8.toNat (List.getD s (Int.toNat at_) 0)) : Int)] ++ bytesInt (foldB (someV s (at_ + (1 : Ty.den (Ty.int IntKind.i64))) (IntKind.wrap IntKind.i64 (↑(UInt8.toNat (List.getD s (Int.toNat at_) 0)) : Int)))))]))) (Tr.br (decide (behind < (0 : Int))) (Tr.br (bytesOk (b ++ [(↑(UInt8.toNat (List.getD s (Int.toNat at_) 0)) : Int)] ++ bytesInt (foldB (someV s (at_ + (1 : Ty.den (Ty.int IntKind.i64))) (IntKind.wrap IntKind.i64 (↑(UInt8.toNat (List.getD s (Int.toNat at_) 0)) : Int))))) && (!List.isEmpty (b ++ [(↑(UInt8.toNat (List.getD s (Int.toNat at_) 0)) : Int)] ++ bytesInt (foldB (someV s (at_ + (1 : Ty.den (Ty.int IntKind.i64))) (IntKind.wrap IntKind.i64 (↑(UInt8.toNat (List.getD s (Int.toNat at_) 0)) : Int))))) && Nat.ble (List.length (b ++ [(↑(UInt8.toNat (List.getD s (Int.toNat at_) 0)) : Int)] ++ bytesInt (foldB (someV s (at_ + (1 : Ty.den (Ty.int IntKind.i64))) (IntKind.wrap IntKind.i64 (↑(UInt8.toNat (List.getD s (Int.toNat at_) 0)) : Int)))))) 9223372036854775807)) (Tr.ret (Sum.inr (Ex.ret, stOf [4, 5, 6] [AV.str (intBytes (b ++ [(↑(UInt8.toNat (List.getD s (Int.toNat at_) 0)) : Int)] ++ bytesInt (foldB (someV s (at_ + (1 : Ty.den (Ty.int IntKind.i64))) (IntKind.wrap IntKind.i64 (↑(UInt8.toNat (List.getD s (Int.toNat at_) 0)) : Int)))))), AV.int IntKind.i64 (at_ + (1 : Ty.den (Ty.int IntKind.i64)) + IntKind.wrap IntKind.i64 (↑(UInt8.toNat (List.getD s (Int.toNat at_) 0)) : Int)), AV.int IntKind.i64 (0 : Int)] []))) Tr.no) (Tr.br (bytesOk (b ++ [(↑(UInt8.toNat (List.getD s (Int.toNat at_) 0)) : Int)] ++ bytesInt (foldB (someV s (at_ + (1 : Ty.den (Ty.int IntKind.i64))) (IntKind.wrap IntKind.i64 (↑(UInt8.toNat (List.getD s (Int.toNat at_) 0)) : Int))))) && (!List.isEmpty (b ++ [(↑(UInt8.toNat (List.getD s (Int.toNat at_) 0)) : Int)] ++ bytesInt (foldB (someV s (at_ + (1 : Ty.den (Ty.int IntKind.i64))) (IntKind.wrap IntKind.i64 (↑(UInt8.toNat (List.getD s (Int.toNat at_) 0)) : Int))))) && Nat.ble (List.length (b ++ [(↑(UInt8.toNat (List.getD s (Int.toNat at_) 0)) : Int)] ++ bytesInt (foldB (someV s (at_ + (1 : Ty.den (Ty.int IntKind.i64))) (IntKind.wrap IntKind.i64 (↑(UInt8.toNat (List.getD s (Int.toNat at_) 0)) : Int)))))) 9223372036854775807)) (Tr.ret (Sum.inr (Ex.ret, stOf [4, 5, 6] [AV.str (intBytes (b ++ [(↑(UInt8.toNat (List.getD s (Int.toNat at_) 0)) : Int)] ++ bytesInt (foldB (someV s (at_ + (1 : Ty.den (Ty.int IntKind.i64))) (IntKind.wrap IntKind.i64 (↑(UInt8.toNat (List.getD s (Int.toNat at_) 0)) : Int)))))), AV.int IntKind.i64 behind, AV.int IntKind.i64 (0 : Int)] []))) Tr.no))) Tr.no) Tr.no) Tr.no)) (Tr.ret (Sum.inr (Ex.ret, stOf [4, 5, 6] [AV.str [], AV.int IntKind.i64 (0 : Int), AV.int IntKind.i64 (2 : Int)] [])))) Tr.no))) (Tr.ret (Sum.inr (Ex.ret, stOf [4, 5, 6] [AV.str [], AV.int IntKind.i64 (0 : Int), AV.int IntKind.i64 (2 : Int)] [])))) Tr.no
set_option maxRecDepth 1000000 in
theorem round27u (lp : Lp) (s : List UInt8) (at_ : Int) (from_ : Int) (behind : Int) (b : List Int) : evC T0 (orcB [fs46w, fs47w, fs48w, fs52w] [os49n, os49u, os50n, os50u, os51u, osStr]) lp b27u 0 (stOf [0, 1, 7, 8, 9] [.str s, .int .i64 at_, .ptr 0 0, .int .i64 from_, .int .i64 behind] [.boxT (some 88) [.ptr 0 0, .rowA 1], .row (.int .u8) b]) (roundK [0, 1, 7, 8, 9] [4, 5, 6] 0) = (r27u s at_ from_ behind b).get := by kernel_rfl
theorem wf27u (s : List UInt8) (I'' : Int → Int → Int → List Int → Prop) (m'' : Int → Int → Int → List Int → Nat) (r'' : Ex × St) (h : ∀ (at_ : Int) (from_ : Int) (behind : Int) (b : List Int), I'' at_ from_ behind b → (r27u s at_ from_ behind b).all fun x'' => x'' = .inr r'' ∨ ∃ (at_' : Int) (from_' : Int) (behind' : Int) (b' : List Int), x'' = .inl (stOf [0, 1, 7, 8, 9] [.str s, .int .i64 at_', .ptr 0 0, .int .i64 from_', .int .i64 behind'] [.boxT (some 88) [.ptr 0 0, .rowA 1], .row (.int .u8) b']) ∧ I'' at_' from_' behind' b' ∧ m'' at_' from_' behind' b' < m'' at_ from_ behind b) (lp : Lp) (at_ : Int) (from_ : Int) (behind : Int) (b : List Int) : I'' at_ from_ behind b →
    loopF (fun st => evC T0 (orcB [fs46w, fs47w, fs48w, fs52w] [os49n, os49u, os50n, os50u, os51u, osStr]) lp b27u 0 st (roundK [0, 1, 7, 8, 9] [4, 5, 6] 0)) (stOf [0, 1, 7, 8, 9] [.str s, .int .i64 at_, .ptr 0 0, .int .i64 from_, .int .i64 behind] [.boxT (some 88) [.ptr 0 0, .rowA 1], .row (.int .u8) b]) = some r'' :=
  loop_tr (fun a'' : Int × Int × Int × List Int => stOf [0, 1, 7, 8, 9] [.str s, .int .i64 a''.1, .ptr 0 0, .int .i64 a''.2.1, .int .i64 a''.2.2.1] [.boxT (some 88) [.ptr 0 0, .rowA 1], .row (.int .u8) a''.2.2.2]) (fun a'' => I'' a''.1 a''.2.1 a''.2.2.1 a''.2.2.2) (fun a'' => m'' a''.1 a''.2.1 a''.2.2.1 a''.2.2.2) r'' (fun a'' => r27u s a''.1 a''.2.1 a''.2.2.1 a''.2.2.2)
    (fun a'' x hx => (round27u lp s a''.1 a''.2.1 a''.2.2.1 a''.2.2.2).trans hx) (fun a'' ha => Tr.all_mono (fun x'' hx => hx.imp id fun ⟨at_', from_', behind', b', h1, h2, h3⟩ => ⟨(at_', from_', behind', b'), h1, h2, h3⟩) (h (a''.1) (a''.2.1) (a''.2.2.1) (a''.2.2.2) ha)) (at_, from_, behind, b)
theorem loop27u : ls27u.Ok T0 (orcB [fs46w, fs47w, fs48w, fs52w] [os49n, os49u, os50n, os50u, os51u, osStr]) h27 0 0 b27u := by
  intro q'' hq'' x'' y'' r'' h
  obtain ⟨(s : List UInt8), (at_ : Int), (from_ : Int), (behind : Int), _⟩ := x''
  obtain ⟨_, (b : List Int), _⟩ := y''
  obtain ⟨hc, rfl⟩ := Tr.get_on h
  show loopF (fun st => evC T0 (orcB [fs46w, fs47w, fs48w, fs52w] [os49n, os49u, os50n, os50u, os51u, osStr]) (lpN T0 (orcB [fs46w, fs47w, fs48w, fs52w] [os49n, os49u, os50n, os50u, os51u, osStr]) h27 0 q'') b27u 0 st (roundK [0, 1, 7, 8, 9] [4, 5, 6] 0)) (stOf [0, 1, 7, 8, 9] [.str s, .int .i64 at_, .ptr 0 0, .int .i64 from_, .int .i64 behind] [.boxT (some 88) [.ptr 0 0, .rowA 1], .row (.int .u8) b]) = some (.ret, stOf [4, 5, 6] ([.str (tkS (takeG s at_ from_ behind (intBytes b))), .int .i64 (tkN (takeG s at_ from_ behind (intBytes b))), .int .i64 (tkE (takeG s at_ from_ behind (intBytes b)))]) ([]))
  simp only [tkC, Bool.and_eq_true] at hc
  obtain ⟨hbig, hok, hb⟩ := hc
  have hb := Nat.le_of_ble_eq_true hb
  refine wf27u s (tkI s at_ from_ behind b) (fun at_ from_ _ _ => msT s at_ from_) _ ?_ _ at_ from_ behind b ⟨hok, hb, rfl⟩
  clear hok hb
  rintro at_ from_ behind b ⟨hok, hb, he⟩
  rw [← he]
  unfold r27u
  have hB : s.length ≤ 1000000000000 := by simpa [bigS] using hbig
  have hc : (↑(UInt8.toNat (List.getD s (Int.toNat at_) 0)) : Int) = (szT s at_ : Int) := rfl
  have hc255 := szT_lt s at_
  have hto := toT_in s at_
  simp only [and_far (n16_in s at_).1 (n16_in s at_).2, hc]
  simp only [show n16 s at_ % 16384 = toT s at_ from rfl, IntWalk.i64_in ((szT s at_ : Nat) : Int) (by omega)]
  cases h1 : someB s at_ 1 with
  | false =>
    rw [takeG_out h1]
    exact Tr.all_t hbig (Tr.all_f rfl (Tr.all_ret (.inl rfl)))
  | true =>
    have hs1 := someB_iff.1 h1
    refine Tr.all_t hbig (Tr.all_t rfl ?_)
    by_cases h192 : 192 ≤ szT s at_
    · refine Tr.all_t (dec_true (by omega)) (Tr.all_f (dec_false (by omega)) (Tr.all_t (dec_true (by omega)) (Tr.all_t hbig ?_)))
      by_cases h3 : someB s at_ 2 = true ∧ toT s at_ < from_
      · rw [takeG_ptr h1 h192 h3.1 h3.2] at he ⊢
        refine Tr.all_t h3.1 (Tr.all_t (dec_true h3.2) (Tr.all_br (fun c1 => ?_) fun c1 => ?_))
        · simp only [decide_eq_true_eq] at c1
          rw [if_pos c1] at he
          exact Tr.all_ret (.inr ⟨_, _, _, _, rfl, ⟨hok, hb, he⟩, msT_to hto.1 h3.2⟩)
        · simp only [decide_eq_false_iff_not] at c1
          rw [if_neg c1] at he
          exact Tr.all_ret (.inr ⟨_, _, _, _, rfl, ⟨hok, hb, he⟩, msT_to hto.1 h3.2⟩)
      · rw [takeG_bad h1 h192 h3]
        cases h2 : someB s at_ 2 with
        | false => exact Tr.all_f rfl (Tr.all_ret (.inl rfl))
        | true => exact Tr.all_t rfl (Tr.all_f (dec_false (fun h => h3 ⟨h2, h⟩)) (Tr.all_ret (.inl rfl)))
    · by_cases h63 : 63 < szT s at_
      · rw [takeG_mid h1 h192 h63]
        exact Tr.all_t (dec_true (by omega)) (Tr.all_t (dec_true (by omega)) (Tr.all_ret (.inl rfl)))
      · refine Tr.all_f (dec_false (by omega)) (Tr.all_f (dec_false (by omega)) (Tr.all_t hbig ?_))
        cases h4 : someB s (at_ + 1) (szT s at_) with
        | false =>
          rw [takeG_long h1 (by omega) (by rw [h4]; simp)]
          exact Tr.all_f rfl (Tr.all_ret (.inl rfl))
        | true =>
          have hs4 := someB_iff.1 h4
          have hvl : (someV s (at_ + 1) (szT s at_ : Int)).length = szT s at_ := by rw [someV_len h4]; omega
          have hvb : bigS (someV s (at_ + 1) (szT s at_ : Int)) = true := by simp [bigS, hvl]; omega
          rw [hvl]
          rw [IntWalk.i64_in ((List.length b : Int) + 1) (by omega), IntWalk.i64_in _ (by omega)]
          refine Tr.all_t rfl ?_
          by_cases h5 : b.length + 1 + szT s at_ ≤ 255
          · have hnew : bytesOk (b ++ [((szT s at_ : Nat) : Int)] ++ bytesInt (foldB (someV s (at_ + 1) (szT s at_ : Int)))) = true := by
              refine bytesOk_app (bytesOk_app hok ?_) (bytesInt_ok _)
              simp [bytesOk]
              omega
            have hnl : (b ++ [((szT s at_ : Nat) : Int)] ++ bytesInt (foldB (someV s (at_ + 1) (szT s at_ : Int)))).length = b.length + 1 + szT s at_ := by
              simp [bytesInt_len, foldB_len, hvl]
              omega
            have hS2 : intBytes (b ++ [((szT s at_ : Nat) : Int)] ++ bytesInt (foldB (someV s (at_ + 1) (szT s at_ : Int)))) = intBytes b ++ s.getD at_.toNat 0 :: foldB (someV s (at_ + 1) (szT s at_ : Int)) := by
              rw [intB_app, intB_app, intB_bytes]
              have : intBytes [((szT s at_ : Nat) : Int)] = [s.getD at_.toNat 0] := by simp [intBytes, szT]
              rw [this]
              simp
            refine Tr.all_f (dec_false (by omega)) (Tr.all_t (fits_true (by omega) (by omega)) (Tr.all_t hvb (Tr.all_t (fits_true (by simp [bytesInt_len, foldB_len, hvl]; omega) (by simp [bytesInt_len, foldB_len, hvl]; omega)) ?_)))
            by_cases h0 : szT s at_ = 0
            · rw [takeG_end h1 h0 (by rw [intB_len]; omega)]
              have hv0 : someV s (at_ + 1) (szT s at_ : Int) = [] := List.length_eq_zero_iff.1 (by rw [hvl]; exact h0)
              have hg0 : s.getD at_.toNat 0 = 0 := by
                have : (s.getD at_.toNat 0).toNat = 0 := h0
                exact UInt8.toNat_inj.1 (by simpa using this)
              have hend : (bytesOk (b ++ [((szT s at_ : Nat) : Int)] ++ bytesInt (foldB (someV s (at_ + 1) (szT s at_ : Int)))) && (!List.isEmpty (b ++ [((szT s at_ : Nat) : Int)] ++ bytesInt (foldB (someV s (at_ + 1) (szT s at_ : Int)))) && Nat.ble (List.length (b ++ [((szT s at_ : Nat) : Int)] ++ bytesInt (foldB (someV s (at_ + 1) (szT s at_ : Int))))) 9223372036854775807)) = true := by
                rw [hnew, Nat.ble_eq_true_of_le (by omega)]
                simp
              refine Tr.all_f (dec_false (by omega)) (Tr.all_br (fun c1 => Tr.all_t hend (Tr.all_ret (.inl ?_))) fun c1 => Tr.all_t hend (Tr.all_ret (.inl ?_)))
              · simp only [decide_eq_true_eq] at c1
                rw [if_pos c1, hS2, hv0, hg0, h0]
                simp [foldB]
                rfl
              · simp only [decide_eq_false_iff_not] at c1
                rw [if_neg c1, hS2, hv0, hg0]
                rfl
            · have hG := takeG_on (s := s) (at_ := at_) (from_ := from_) (behind := behind) (out := intBytes b) h1 (by omega) h0 h4 (by rw [intB_len]; omega)
              rw [← hS2] at hG
              rw [hG] at he ⊢
              refine Tr.all_t (dec_true (by omega)) (Tr.all_ret ?_)
              exact .inr ⟨_, _, _, _, rfl, ⟨hnew, by omega, he⟩, msT_on hs1.1 hs4.2.2⟩
          · rw [takeG_long h1 (by omega) (by rw [intB_len]; exact fun h => h5 h.2)]
            exact Tr.all_t (dec_true (by omega)) (Tr.all_ret (.inl rfl))
noncomputable def b27n : Code := (nthLoop c27 0)
def ls27n : LoopSpec := { bid := 0, sh := [.d .str false, .d (.int .i64) false, .ptr 0 0, .d (.int .i64) false, .d (.int .i64) false], so := [.tbox 88 [.np, .row 1], .row (.int .u8)], F := fun (s, at_, from_, behind, _) (_, b, _) => .on (tkC s b) (.ret, [.str (tkS (takeG s at_ from_ behind (intBytes b))), .int .i64 (tkN (takeG s at_ from_ behind (intBytes b))), .int .i64 (tkE (takeG s at_ from_ behind (intBytes b)))], []) }
def r27n (s : List UInt8) (at_ : Int) (from_ : Int) (behind : Int) (b : List Int) : Tr (St ⊕ (Ex × St)) := Tr.br (bigS s) (Tr.br (someB s at_ (1 : Int)) (Tr.br (decide ((↑(UInt8.toNat (List.getD s (Int.toNat at_) 0)) : Int) > (63 : Int))) (Tr.br (decide ((↑(UInt8.toNat (List.getD s (Int.toNat at_) 0)) : Int) < (192 : Int))) (Tr.ret (Sum.inr (Ex.ret, stOf [4, 5, 6] [AV.str [], AV.int IntKind.i64 (0 : Int), AV.int IntKind.i64 (2 : Int)] []))) (Tr.br (decide ((↑(UInt8.toNat (List.getD s (Int.toNat at_) 0)) : Int) ≥ (192 : Int))) (Tr.br (bigS s) (Tr.br (someB s at_ (2 : Int)) (Tr.br (decide (IntKind.wrap IntKind.i64 (↑(BitVec.toNat (BitVec.ofInt (IntKind.bits IntKind.i64) (IntKind.wrap IntKind.i64 (n16 s at_)) &&& ~~~BitVec.ofInt (IntKind.bits IntKind.i64) (49152 : Int))) : Int) < from_)) (Tr.br (decide (behind < (0 : Int))) (Tr.ret (Sum.inl (stOf [0, 1, 7, 8, 9] [AV.str s, AV.int IntKind.i64 (IntKind.wrap IntKind.i64 (↑(BitVec.toNat (BitVec.ofInt (IntKind.bits IntKind.i64) (IntKind.wrap IntKind.i64 (n16 s at_)) &&& ~~~BitVec.ofInt (IntKind.bits IntKind.i64) (49152 : Int))) : Int)), AV.ptr 0 0, AV.int IntKind.i64 (IntKind.wrap IntKind.i64 (↑(BitVec.toNat (BitVec.ofInt (IntKind.bits IntKind.i64) (IntKind.wrap IntKind.i64 (n16 s at_)) &&& ~~~BitVec.ofInt (IntKind.bits IntKind.i64) (49152 : Int))) : Int)), AV.int IntKind.i64 (at_ + (2 : Ty.den (Ty.int IntKind.i64)))] [LObj.boxT (some 88) [AV.np, AV.rowA 1], LObj.row (Ty.int IntKind.u8) b]))) (Tr.ret (Sum.inl (stOf [0, 1, 7, 8, 9] [AV.str s, AV.int IntKind.i64 (IntKind.wrap IntKind.i64 (↑(BitVec.toNat (BitVec.ofInt (IntKind.bits IntKind.i64) (IntKind.wrap IntKind.i64 (n16 s at_)) &&& ~~~BitVec.ofInt (IntKind.bits IntKind.i64) (49152 : Int))) : Int)), AV.ptr 0 0, AV.int IntKind.i64 (IntKind.wrap IntKind.i64 (↑(BitVec.toNat (BitVec.ofInt (IntKind.bits IntKind.i64) (IntKind.wrap IntKind.i64 (n16 s at_)) &&& ~~~BitVec.ofInt (IntKind.bits IntKind.i64) (49152 : Int))) : Int)), AV.int IntKind.i64 behind] [LObj.boxT (some 88) [AV.np, AV.rowA 1], LObj.row (Ty.int IntKind.u8) b])))) (Tr.ret (Sum.inr (Ex.ret, stOf [4, 5, 6] [AV.str [], AV.int IntKind.i64 (0 : Int), AV.int IntKind.i64 (2 : Int)] [])))) (Tr.ret (Sum.inr (Ex.ret, stOf [4, 5, 6] [AV.str [], AV.int IntKind.i64 (0 : Int), AV.int IntKind.i64 (2 : Int)] [])))) Tr.no) (Tr.br (bigS s) (Tr.br (someB s (at_ + (1 : Ty.den (Ty.int IntKind.i64))) (IntKind.wrap IntKind.i64 (↑(UInt8.toNat (List.getD s (Int.toNat at_) 0)) : Int))) (Tr.br (decide (IntKind.wrap IntKind.i64 (IntKind.wrap IntKind.i64 ((↑(List.length b) : Int) + (1 : Int)) + (↑(List.length (someV s (at_ + (1 : Ty.den (Ty.int IntKind.i64))) (IntKind.wrap IntKind.i64 (↑(UInt8.toNat (List.getD s (Int.toNat at_) 0)) : Int)))) : Int)) > (255 : Int))) (Tr.ret (Sum.inr (Ex.ret, stOf [4, 5, 6] [AV.str [], AV.int IntKind.i64 (0 : Int), AV.int IntKind.i64 (2 : Int)] []))) (Tr.br (fits (List.length b + 1) 1) (Tr.br (bigS (someV s (at_ + (1 : Ty.den (Ty.int IntKind.i64))) (IntKind.wrap IntKind.i64 (↑(UInt8.toNat (List.getD s (Int.toNat at_) 0)) : Int)))) (Tr.br (fits (List.length (b ++ [(↑(UInt8.toNat (List.getD s (Int.toNat at_) 0)) : Int)]) + List.length (bytesInt (foldB (someV s (at_ + (1 : Ty.den (Ty.int IntKind.i64))) (IntKind.wrap IntKind.i64 (↑(UInt8.toNat (List.getD s (Int.toNat at_) 0)) : Int)))))) 1) (Tr.br (decide ((↑(UInt8.toNat (List.getD s (Int.toNat at_) 0)) : Int) > (0 : Int))) (Tr.ret (Sum.inl (stOf [0, 1, 7, 8, 9] [AV.str s, AV.int IntKind.i64 (at_ + (1 : Ty.den (Ty.int IntKind.i64)) + IntKind.wrap IntKind.i64 (↑(UInt8.toNat (List.getD s (Int.toNat at_) 0)) : Int)), AV.ptr 0 0, AV.int IntKind.i64 from_, AV.int IntKind.i64 behind] [LObj.boxT (some 88) [AV.ptr 0 0, AV.rowA 1], LObj.row (Ty.int IntKind.u8) (b ++ [(↑(UInt8.toNat (List.getD s (Int.toNat at_) 0)) : Int)] ++ bytesInt (foldB (someV s (at_ + (1 : Ty.den (Ty.int IntKind.i64))) (IntKind.wrap IntKind.i64 (↑(UInt8.toNat (List.getD s (Int.toNat at_) 0)) : Int)))))]))) (Tr.br (decide (behind < (0 : Int))) (Tr.br (bytesOk (b ++ [(↑(UInt8.toNat (List.getD s (Int.toNat at_) 0)) : Int)] ++ bytesInt (foldB (someV s (at_ + (1 : Ty.den (Ty.int IntKind.i64))) (IntKind.wrap IntKind.i64 (↑(UInt8.toNat (List.getD s (Int.toNat at_) 0)) : Int))))) && (!List.isEmpty (b ++ [(↑(UInt8.toNat (List.getD s (Int.toNat at_) 0)) : Int)] ++ bytesInt (foldB (someV s (at_ + (1 : Ty.den (Ty.int IntKind.i64))) (IntKind.wrap IntKind.i64 (↑(UInt8.toNat (List.getD s (Int.toNat at_) 0)) : Int))))) && Nat.ble (List.length (b ++ [(↑(UInt8.toNat (List.getD s (Int.toNat at_) 0)) : Int)] ++ bytesInt (foldB (someV s (at_ + (1 : Ty.den (Ty.int IntKind.i64))) (IntKind.wrap IntKind.i64 (↑(UInt8.toNat (List.getD s (Int.toNat at_) 0)) : Int)))))) 9223372036854775807)) (Tr.ret (Sum.inr (Ex.ret, stOf [4, 5, 6] [AV.str (intBytes (b ++ [(↑(UInt8.toNat (List.getD s (Int.toNat at_) 0)) : Int)] ++ bytesInt (foldB (someV s (at_ + (1 : Ty.den (Ty.int IntKind.i64))) (IntKind.wrap IntKind.i64 (↑(UInt8.toNat (List.getD s (Int.toNat at_) 0)) : Int)))))), AV.int IntKind.i64 (at_ + (1 : Ty.den (Ty.int IntKind.i64)) + IntKind.wrap IntKind.i64 (↑(UInt8.toNat (List.getD s (Int.toNat at_) 0)) : Int)), AV.int IntKind.i64 (0 : Int)] []))) Tr.no) (Tr.br (bytesOk (b ++ [(↑(UInt8.toNat (List.getD s (Int.toNat at_) 0)) : Int)] ++ bytesInt (foldB (someV s (at_ + (1 : Ty.den (Ty.int IntKind.i64))) (IntKind.wrap IntKind.i64 (↑(UInt8.toNat (List.getD s (Int.toNat at_) 0)) : Int))))) && (!List.isEmpty (b ++ [(↑(UInt8.toNat (List.getD s (Int.toNat at_) 0)) : Int)] ++ bytesInt (foldB (someV s (at_ + (1 : Ty.den (Ty.int IntKind.i64))) (IntKind.wrap IntKind.i64 (↑(UInt8.toNat (List.getD s (Int.toNat at_) 0)) : Int))))) && Nat.ble (List.length (b ++ [(↑(UInt8.toNat (List.getD s (Int.toNat at_) 0)) : Int)] ++ bytesInt (foldB (someV s (at_ + (1 : Ty.den (Ty.int IntKind.i64))) (IntKind.wrap IntKind.i64 (↑(UInt8.toNat (List.getD s (Int.toNat at_) 0)) : Int)))))) 9223372036854775807)) (Tr.ret (Sum.inr (Ex.ret, stOf [4, 5, 6] [AV.str (intBytes (b ++ [(↑(UInt8.toNat (List.getD s (Int.toNat at_) 0)) : Int)] ++ bytesInt (foldB (someV s (at_ + (1 : Ty.den (Ty.int IntKind.i64))) (IntKind.wrap IntKind.i64 (↑(UInt8.toNat (List.getD s (Int.toNat at_) 0)) : Int)))))), AV.int IntKind.i64 behind, AV.int IntKind.i64 (0 : Int)] []))) Tr.no))) Tr.no) Tr.no) Tr.no)) (Tr.ret (Sum.inr (Ex.ret, stOf [4, 5, 6] [AV.str [], AV.int IntKind.i64 (0 : Int), AV.int IntKind.i64 (2 : Int)] [])))) Tr.no))) (Tr.br (decide ((↑(UInt8.toNat (List.getD s (Int.toNat at_) 0)) : Int) ≥ (192 : Int))) (Tr.br (bigS s) (Tr.br (someB s at_ (2 : Int)) (Tr.br (decide (IntKind.wrap IntKind.i64 (↑(BitVec.toNat (BitVec.ofInt (IntKind.bits IntKind.i64) (IntKind.wrap IntKind.i64 (n16 s at_)) &&& ~~~BitVec.ofInt (IntKind.bits IntKind.i64) (49152 : Int))) : Int) < from_)) (Tr.br (decide (behind < (0 : Int))) (Tr.ret (Sum.inl (stOf [0, 1, 7, 8, 9] [AV.str s, AV.int IntKind.i64 (IntKind.wrap IntKind.i64 (↑(BitVec.toNat (BitVec.ofInt (IntKind.bits IntKind.i64) (IntKind.wrap IntKind.i64 (n16 s at_)) &&& ~~~BitVec.ofInt (IntKind.bits IntKind.i64) (49152 : Int))) : Int)), AV.ptr 0 0, AV.int IntKind.i64 (IntKind.wrap IntKind.i64 (↑(BitVec.toNat (BitVec.ofInt (IntKind.bits IntKind.i64) (IntKind.wrap IntKind.i64 (n16 s at_)) &&& ~~~BitVec.ofInt (IntKind.bits IntKind.i64) (49152 : Int))) : Int)), AV.int IntKind.i64 (at_ + (2 : Ty.den (Ty.int IntKind.i64)))] [LObj.boxT (some 88) [AV.np, AV.rowA 1], LObj.row (Ty.int IntKind.u8) b]))) (Tr.ret (Sum.inl (stOf [0, 1, 7, 8, 9] [AV.str s, AV.int IntKind.i64 (IntKind.wrap IntKind.i64 (↑(BitVec.toNat (BitVec.ofInt (IntKind.bits IntKind.i64) (IntKind.wrap IntKind.i64 (n16 s at_)) &&& ~~~BitVec.ofInt (IntKind.bits IntKind.i64) (49152 : Int))) : Int)), AV.ptr 0 0, AV.int IntKind.i64 (IntKind.wrap IntKind.i64 (↑(BitVec.toNat (BitVec.ofInt (IntKind.bits IntKind.i64) (IntKind.wrap IntKind.i64 (n16 s at_)) &&& ~~~BitVec.ofInt (IntKind.bits IntKind.i64) (49152 : Int))) : Int)), AV.int IntKind.i64 behind] [LObj.boxT (some 88) [AV.np, AV.rowA 1], LObj.row (Ty.int IntKind.u8) b])))) (Tr.ret (Sum.inr (Ex.ret, stOf [4, 5, 6] [AV.str [], AV.int IntKind.i64 (0 : Int), AV.int IntKind.i64 (2 : Int)] [])))) (Tr.ret (Sum.inr (Ex.ret, stOf [4, 5, 6] [AV.str [], AV.int IntKind.i64 (0 : Int), AV.int IntKind.i64 (2 : Int)] [])))) Tr.no) (Tr.br (bigS s) (Tr.br (someB s (at_ + (1 : Ty.den (Ty.int IntKind.i64))) (IntKind.wrap IntKind.i64 (↑(UInt8.toNat (List.getD s (Int.toNat at_) 0)) : Int))) (Tr.br (decide (IntKind.wrap IntKind.i64 (IntKind.wrap IntKind.i64 ((↑(List.length b) : Int) + (1 : Int)) + (↑(List.length (someV s (at_ + (1 : Ty.den (Ty.int IntKind.i64))) (IntKind.wrap IntKind.i64 (↑(UInt8.toNat (List.getD s (Int.toNat at_) 0)) : Int)))) : Int)) > (255 : Int))) (Tr.ret (Sum.inr (Ex.ret, stOf [4, 5, 6] [AV.str [], AV.int IntKind.i64 (0 : Int), AV.int IntKind.i64 (2 : Int)] []))) (Tr.br (fits (List.length b + 1) 1) (Tr.br (bigS (someV s (at_ + (1 : Ty.den (Ty.int IntKind.i64))) (IntKind.wrap IntKind.i64 (↑(UInt8.toNat (List.getD s (Int.toNat at_) 0)) : Int)))) (Tr.br (fits (List.length (b ++ [(↑(UInt8.toNat (List.getD s (Int.toNat at_) 0)) : Int)]) + List.length (bytesInt (foldB (someV s (at_ + (1 : Ty.den (Ty.int IntKind.i64))) (IntKind.wrap IntKind.i64 (↑(UInt8.toNat (List.getD s (Int.toNat at_) 0)) : Int)))))) 1) (Tr.br (decide ((↑(UInt8.toNat (List.getD s (Int.toNat at_) 0)) : Int) > (0 : Int))) (Tr.ret (Sum.inl (stOf [0, 1, 7, 8, 9] [AV.str s, AV.int IntKind.i64 (at_ + (1 : Ty.den (Ty.int IntKind.i64)) + IntKind.wrap IntKind.i64 (↑(UInt8.toNat (List.getD s (Int.toNat at_) 0)) : Int)), AV.ptr 0 0, AV.int IntKind.i64 from_, AV.int IntKind.i64 behind] [LObj.boxT (some 88) [AV.ptr 0 0, AV.rowA 1], LObj.row (Ty.int IntKind.u8) (b ++ [(↑(UInt8.toNat (List.getD s (Int.toNat at_) 0)) : Int)] ++ bytesInt (foldB (someV s (at_ + (1 : Ty.den (Ty.int IntKind.i64))) (IntKind.wrap IntKind.i64 (↑(UInt8.toNat (List.getD s (Int.toNat at_) 0)) : Int)))))]))) (Tr.br (decide (behind < (0 : Int))) (Tr.br (bytesOk (b ++ [(↑(UInt8.toNat (List.getD s (Int.toNat at_) 0)) : Int)] ++ bytesInt (foldB (someV s (at_ + (1 : Ty.den (Ty.int IntKind.i64))) (IntKind.wrap IntKind.i64 (↑(UInt8.toNat (List.getD s (Int.toNat at_) 0)) : Int))))) && (!List.isEmpty (b ++ [(↑(UInt8.toNat (List.getD s (Int.toNat at_) 0)) : Int)] ++ bytesInt (foldB (someV s (at_ + (1 : Ty.den (Ty.int IntKind.i64))) (IntKind.wrap IntKind.i64 (↑(UInt8.toNat (List.getD s (Int.toNat at_) 0)) : Int))))) && Nat.ble (List.length (b ++ [(↑(UInt8.toNat (List.getD s (Int.toNat at_) 0)) : Int)] ++ bytesInt (foldB (someV s (at_ + (1 : Ty.den (Ty.int IntKind.i64))) (IntKind.wrap IntKind.i64 (↑(UInt8.toNat (List.getD s (Int.toNat at_) 0)) : Int)))))) 9223372036854775807)) (Tr.ret (Sum.inr (Ex.ret, stOf [4, 5, 6] [AV.str (intBytes (b ++ [(↑(UInt8.toNat (List.getD s (Int.toNat at_) 0)) : Int)] ++ bytesInt (foldB (someV s (at_ + (1 : Ty.den (Ty.int IntKind.i64))) (IntKind.wrap IntKind.i64 (↑(UInt8.toNat (List.getD s (Int.toNat at_) 0)) : Int)))))), AV.int IntKind.i64 (at_ + (1 : Ty.den (Ty.int IntKind.i64)) + IntKind.wrap IntKind.i64 (↑(UInt8.toNat (List.getD s (Int.toNat at_) 0)) : Int)), AV.int IntKind.i64 (0 : Int)] []))) Tr.no) (Tr.br (bytesOk (b ++ [(↑(UInt8.toNat (List.getD s (Int.toNat at_) 0)) : Int)] ++ bytesInt (foldB (someV s (at_ + (1 : Ty.den (Ty.int IntKind.i64))) (IntKind.wrap IntKind.i64 (↑(UInt8.toNat (List.getD s (Int.toNat at_) 0)) : Int))))) && (!List.isEmpty (b ++ [(↑(UInt8.toNat (List.getD s (Int.toNat at_) 0)) : Int)] ++ bytesInt (foldB (someV s (at_ + (1 : Ty.den (Ty.int IntKind.i64))) (IntKind.wrap IntKind.i64 (↑(UInt8.toNat (List.getD s (Int.toNat at_) 0)) : Int))))) && Nat.ble (List.length (b ++ [(↑(UInt8.toNat (List.getD s (Int.toNat at_) 0)) : Int)] ++ bytesInt (foldB (someV s (at_ + (1 : Ty.den (Ty.int IntKind.i64))) (IntKind.wrap IntKind.i64 (↑(UInt8.toNat (List.getD s (Int.toNat at_) 0)) : Int)))))) 9223372036854775807)) (Tr.ret (Sum.inr (Ex.ret, stOf [4, 5, 6] [AV.str (intBytes (b ++ [(↑(UInt8.toNat (List.getD s (Int.toNat at_) 0)) : Int)] ++ bytesInt (foldB (someV s (at_ + (1 : Ty.den (Ty.int IntKind.i64))) (IntKind.wrap IntKind.i64 (↑(UInt8.toNat (List.getD s (Int.toNat at_) 0)) : Int)))))), AV.int IntKind.i64 behind, AV.int IntKind.i64 (0 : Int)] []))) Tr.no))) Tr.no) Tr.no) Tr.no)) (Tr.ret (Sum.inr (Ex.ret, stOf [4, 5, 6] [AV.str [], AV.int IntKind.i64 (0 : Int), AV.int IntKind.i64 (2 : Int)] [])))) Tr.no))) (Tr.ret (Sum.inr (Ex.ret, stOf [4, 5, 6] [AV.str [], AV.int IntKind.i64 (0 : Int), AV.int IntKind.i64 (2 : Int)] [])))) Tr.no
set_option maxRecDepth 1000000 in
theorem round27n (lp : Lp) (s : List UInt8) (at_ : Int) (from_ : Int) (behind : Int) (b : List Int) : evC T0 (orcB [fs46w, fs47w, fs48w, fs52w] [os49n, os49u, os50n, os50u, os51u, osStr]) lp b27n 0 (stOf [0, 1, 7, 8, 9] [.str s, .int .i64 at_, .ptr 0 0, .int .i64 from_, .int .i64 behind] [.boxT (some 88) [.np, .rowA 1], .row (.int .u8) b]) (roundK [0, 1, 7, 8, 9] [4, 5, 6] 0) = (r27n s at_ from_ behind b).get := by kernel_rfl
theorem loop27n : ls27n.Ok T0 (orcB [fs46w, fs47w, fs48w, fs52w] [os49n, os49u, os50n, os50u, os51u, osStr]) h27 0 0 b27n := by
  intro q'' hq'' x'' y'' r'' h
  obtain ⟨(s : List UInt8), (at_ : Int), (from_ : Int), (behind : Int), _⟩ := x''
  obtain ⟨_, (b : List Int), _⟩ := y''
  obtain ⟨hc, rfl⟩ := Tr.get_on h
  show loopF (fun st => evC T0 (orcB [fs46w, fs47w, fs48w, fs52w] [os49n, os49u, os50n, os50u, os51u, osStr]) (lpN T0 (orcB [fs46w, fs47w, fs48w, fs52w] [os49n, os49u, os50n, os50u, os51u, osStr]) h27 0 q'') b27n 0 st (roundK [0, 1, 7, 8, 9] [4, 5, 6] 0)) (stOf [0, 1, 7, 8, 9] [.str s, .int .i64 at_, .ptr 0 0, .int .i64 from_, .int .i64 behind] [.boxT (some 88) [.np, .rowA 1], .row (.int .u8) b]) = some (.ret, stOf [4, 5, 6] ([.str (tkS (takeG s at_ from_ behind (intBytes b))), .int .i64 (tkN (takeG s at_ from_ behind (intBytes b))), .int .i64 (tkE (takeG s at_ from_ behind (intBytes b)))]) ([]))
  simp only [tkC, Bool.and_eq_true] at hc
  obtain ⟨hbig, hok, hb⟩ := hc
  have hb := Nat.le_of_ble_eq_true hb
  refine loop_tr2 (fun a : Int × Int × Int × List Int => stOf [0, 1, 7, 8, 9] [.str s, .int .i64 a.1, .ptr 0 0, .int .i64 a.2.1, .int .i64 a.2.2.1] [.boxT (some 88) [.np, .rowA 1], .row (.int .u8) a.2.2.2]) (fun a => tkI s at_ from_ behind b a.1 a.2.1 a.2.2.1 a.2.2.2) (fun a => msT s a.1 a.2.1) _
    (fun a => r27n s a.1 a.2.1 a.2.2.1 a.2.2.2) (fun a x hx => (round27n _ s a.1 a.2.1 a.2.2.1 a.2.2.2).trans hx) ?_ (at_, from_, behind, b) ⟨hok, hb, rfl⟩
  clear hok hb
  rintro ⟨at_, from_, behind, b⟩ ⟨hok, hb, he⟩
  simp only at hok hb he ⊢
  rw [← he]
  unfold r27n
  have hB : s.length ≤ 1000000000000 := by simpa [bigS] using hbig
  have hc : (↑(UInt8.toNat (List.getD s (Int.toNat at_) 0)) : Int) = (szT s at_ : Int) := rfl
  have hc255 := szT_lt s at_
  have hto := toT_in s at_
  simp only [and_far (n16_in s at_).1 (n16_in s at_).2, hc]
  simp only [show n16 s at_ % 16384 = toT s at_ from rfl, IntWalk.i64_in ((szT s at_ : Nat) : Int) (by omega)]
  cases h1 : someB s at_ 1 with
  | false =>
    rw [takeG_out h1]
    exact Tr.all_t hbig (Tr.all_f rfl (Tr.all_ret (.inl rfl)))
  | true =>
    have hs1 := someB_iff.1 h1
    refine Tr.all_t hbig (Tr.all_t rfl ?_)
    by_cases h192 : 192 ≤ szT s at_
    · refine Tr.all_t (dec_true (by omega)) (Tr.all_f (dec_false (by omega)) (Tr.all_t (dec_true (by omega)) (Tr.all_t hbig ?_)))
      by_cases h3 : someB s at_ 2 = true ∧ toT s at_ < from_
      · rw [takeG_ptr h1 h192 h3.1 h3.2] at he ⊢
        refine Tr.all_t h3.1 (Tr.all_t (dec_true h3.2) (Tr.all_br (fun c1 => ?_) fun c1 => ?_))
        · simp only [decide_eq_true_eq] at c1
          rw [if_pos c1] at he
          exact Tr.all_ret (.inr (.inl ⟨(_, _, _, _), rfl, ⟨hok, hb, he⟩, msT_to hto.1 h3.2⟩))
        · simp only [decide_eq_false_iff_not] at c1
          rw [if_neg c1] at he
          exact Tr.all_ret (.inr (.inl ⟨(_, _, _, _), rfl, ⟨hok, hb, he⟩, msT_to hto.1 h3.2⟩))
      · rw [takeG_bad h1 h192 h3]
        cases h2 : someB s at_ 2 with
        | false => exact Tr.all_f rfl (Tr.all_ret (.inl rfl))
        | true => exact Tr.all_t rfl (Tr.all_f (dec_false (fun h => h3 ⟨h2, h⟩)) (Tr.all_ret (.inl rfl)))
    · by_cases h63 : 63 < szT s at_
      · rw [takeG_mid h1 h192 h63]
        exact Tr.all_t (dec_true (by omega)) (Tr.all_t (dec_true (by omega)) (Tr.all_ret (.inl rfl)))
      · refine Tr.all_f (dec_false (by omega)) (Tr.all_f (dec_false (by omega)) (Tr.all_t hbig ?_))
        cases h4 : someB s (at_ + 1) (szT s at_) with
        | false =>
          rw [takeG_long h1 (by omega) (by rw [h4]; simp)]
          exact Tr.all_f rfl (Tr.all_ret (.inl rfl))
        | true =>
          have hs4 := someB_iff.1 h4
          have hvl : (someV s (at_ + 1) (szT s at_ : Int)).length = szT s at_ := by rw [someV_len h4]; omega
          have hvb : bigS (someV s (at_ + 1) (szT s at_ : Int)) = true := by simp [bigS, hvl]; omega
          rw [hvl]
          rw [IntWalk.i64_in ((List.length b : Int) + 1) (by omega), IntWalk.i64_in _ (by omega)]
          refine Tr.all_t rfl ?_
          by_cases h5 : b.length + 1 + szT s at_ ≤ 255
          · have hnew : bytesOk (b ++ [((szT s at_ : Nat) : Int)] ++ bytesInt (foldB (someV s (at_ + 1) (szT s at_ : Int)))) = true := by
              refine bytesOk_app (bytesOk_app hok ?_) (bytesInt_ok _)
              simp [bytesOk]
              omega
            have hnl : (b ++ [((szT s at_ : Nat) : Int)] ++ bytesInt (foldB (someV s (at_ + 1) (szT s at_ : Int)))).length = b.length + 1 + szT s at_ := by
              simp [bytesInt_len, foldB_len, hvl]
              omega
            have hS2 : intBytes (b ++ [((szT s at_ : Nat) : Int)] ++ bytesInt (foldB (someV s (at_ + 1) (szT s at_ : Int)))) = intBytes b ++ s.getD at_.toNat 0 :: foldB (someV s (at_ + 1) (szT s at_ : Int)) := by
              rw [intB_app, intB_app, intB_bytes]
              have : intBytes [((szT s at_ : Nat) : Int)] = [s.getD at_.toNat 0] := by simp [intBytes, szT]
              rw [this]
              simp
            refine Tr.all_f (dec_false (by omega)) (Tr.all_t (fits_true (by omega) (by omega)) (Tr.all_t hvb (Tr.all_t (fits_true (by simp [bytesInt_len, foldB_len, hvl]; omega) (by simp [bytesInt_len, foldB_len, hvl]; omega)) ?_)))
            by_cases h0 : szT s at_ = 0
            · rw [takeG_end h1 h0 (by rw [intB_len]; omega)]
              have hv0 : someV s (at_ + 1) (szT s at_ : Int) = [] := List.length_eq_zero_iff.1 (by rw [hvl]; exact h0)
              have hg0 : s.getD at_.toNat 0 = 0 := by
                have : (s.getD at_.toNat 0).toNat = 0 := h0
                exact UInt8.toNat_inj.1 (by simpa using this)
              have hend : (bytesOk (b ++ [((szT s at_ : Nat) : Int)] ++ bytesInt (foldB (someV s (at_ + 1) (szT s at_ : Int)))) && (!List.isEmpty (b ++ [((szT s at_ : Nat) : Int)] ++ bytesInt (foldB (someV s (at_ + 1) (szT s at_ : Int)))) && Nat.ble (List.length (b ++ [((szT s at_ : Nat) : Int)] ++ bytesInt (foldB (someV s (at_ + 1) (szT s at_ : Int))))) 9223372036854775807)) = true := by
                rw [hnew, Nat.ble_eq_true_of_le (by omega)]
                simp
              refine Tr.all_f (dec_false (by omega)) (Tr.all_br (fun c1 => Tr.all_t hend (Tr.all_ret (.inl ?_))) fun c1 => Tr.all_t hend (Tr.all_ret (.inl ?_)))
              · simp only [decide_eq_true_eq] at c1
                rw [if_pos c1, hS2, hv0, hg0, h0]
                simp [foldB]
                rfl
              · simp only [decide_eq_false_iff_not] at c1
                rw [if_neg c1, hS2, hv0, hg0]
                rfl
            · have hG := takeG_on (s := s) (at_ := at_) (from_ := from_) (behind := behind) (out := intBytes b) h1 (by omega) h0 h4 (by rw [intB_len]; omega)
              rw [← hS2] at hG
              rw [hG] at he ⊢
              refine Tr.all_t (dec_true (by omega)) (Tr.all_ret ?_)
              refine .inr (.inr ⟨_, rfl, ?_⟩)
              have := loop27u q'' (Nat.zero_le _) (s, at_ + 1 + szT s at_, from_, behind, ()) ((), b ++ [((szT s at_ : Nat) : Int)] ++ bytesInt (foldB (someV s (at_ + 1) (szT s at_ : Int))), ()) (.ret, resT (takeG s (at_ + 1 + szT s at_) from_ behind (intBytes (b ++ [((szT s at_ : Nat) : Int)] ++ bytesInt (foldB (someV s (at_ + 1) (szT s at_ : Int)))))), []) (by
                show (Tr.on (tkC s _) _).get = _
                rw [show tkC s (b ++ [((szT s at_ : Nat) : Int)] ++ bytesInt (foldB (someV s (at_ + 1) (szT s at_ : Int)))) = true by simp only [tkC, hbig, hnew, Bool.true_and]; exact Nat.ble_eq_true_of_le (by omega)]
                rfl)
              exact this
          · rw [takeG_long h1 (by omega) (by rw [intB_len]; exact fun h => h5 h.2)]
            exact Tr.all_t (dec_true (by omega)) (Tr.all_ret (.inl rfl))
/-- wire.Take -/
def t27 (s : List UInt8) (at_ : Int) : Tr Res := Tr.br (tkC s []) (Tr.ret ([AV.str (tkS (takeG s at_ at_ (-1 : Int) (intBytes []))), AV.int IntKind.i64 (tkN (takeG s at_ at_ (-1 : Int) (intBytes []))), AV.int IntKind.i64 (tkE (takeG s at_ at_ (-1 : Int) (intBytes [])))], [])) Tr.no
def os27 : OSpec := { f := 27, sh := [.d .str false, .d (.int .i64) false], so := [], F := fun (s, at_, _) _ => t27 s at_ }
set_option maxRecDepth 1000000 in
theorem fn27 (s : List UInt8) (at_ : Int) : evC T0 (orcB [fs46w, fs47w, fs48w, fs52w] [os49n, os49u, os50n, os50u, os51u, osStr]) (lpOf h27 0 (lsOf [ls27n])) c27 1000000 (startSt [.str s, .int .i64 at_] [] Try.f27.ntmps) (finishK T0 false 0 Try.f27) = (t27 s at_).get := by kernel_rfl
theorem ok27 : os27.Ok Try.prog := by
  refine os_ok mixed0 tab0 (orcB_sound (all_cons okf46w (all_cons okf47w (all_cons okf48w (all_cons okf52w all_nil)))) (all_cons ok49n (all_cons ok49u (all_cons ok50n (all_cons ok50u (all_cons ok51u (all_cons okStr all_nil))))))) h27 (d := 0) (n0 := 0) (S := lsOf [ls27n]) Try.func27 (by kernel_rfl) (c := c27) (by kernel_rfl) rfl (loops_eq (xs := [(0, b27n)]) (by kernel_rfl) (all_cons (ls_here loop27n) all_nil)) (by omega) (by kernel_rfl) ?_
  intro x'' y'' q'' hq''
  obtain ⟨(s : List UInt8), (at_ : Int), _⟩ := x''
  exact (fn27 s at_).trans hq''
def fs27 : FSpec := fsT 27 [(.str, false), ((.int .i64), false)] [(.str, false), ((.int .i64), false), ((.int .i64), false)] fun (s, at_, _) => t27 s at_
theorem okf27 : fs27.Ok Try.prog := fsT_ok fun x'' r'' hr'' => ok27 x'' () r'' hr''
def fs27w : FSpec := fs27.like fun (s, at_, _) => .on (bigS s) (tkS (takeG s at_ at_ (-1) []), tkN (takeG s at_ at_ (-1) []), tkE (takeG s at_ at_ (-1) []), ())
theorem okf27w : fs27w.Ok Try.prog := by
  refine flike_ok okf27 _ ?_
  rintro ⟨(s : List UInt8), (at_ : Int), _⟩ y h
  obtain ⟨hb, rfl⟩ := Tr.get_on h
  refine convR_of (vs := resT (takeG s at_ at_ (-1) [])) rfl rfl (Tr.get_of_all ?_)
  show (t27 s at_).all _
  exact Tr.all_t (by simp only [tkC, hb]; rfl) (Tr.all_ret rfl)
end Go.Proofs.YtfepkpindchleaaE

/- layer 3: the law's example. -/
namespace Go.Proofs.YtfepkpindchleaaE
open Go Go.Proofs.YtfepkpindchleaaB
set_option linter.unusedVariables false
set_option linter.unusedSimpArgs false
/-- derricklaw03.shown -/
def t20 : Tr Res := Tr.ret ([AV.bool (tkE (takeG (intBytes (bytesInt (Prod.fst (nameP ([2, 97, 98, 0]) (intBytes (bytesInt (Prod.fst (nameP ([3, 119, 119, 119, 2, 97, 98, 0]) (intBytes []) [])))) (Prod.snd (nameP ([3, 119, 119, 119, 2, 97, 98, 0]) (intBytes []) [])))))) (8 : Int) (8 : Int) (-1 : Int) []) == (0 : Int))], [])
def os20 : OSpec := { f := 20, sh := [], so := [], F := fun _ _ => t20 }
set_option maxRecDepth 1000000 in
theorem fn20 : evC T0 (orcB [fs27w] [os16, os24w, os19, os26]) (lpOf h20 0 (lsOf [])) c20 1000000 (startSt [] [] Try.f20.ntmps) (finishK T0 false 0 Try.f20) = (t20).get := by kernel_rfl
theorem ok20 : os20.Ok Try.prog := by
  refine os_ok mixed0 tab0 (orcB_sound (all_cons okf27w all_nil) (all_cons ok16 (all_cons ok24w (all_cons ok19 (all_cons ok26 all_nil))))) h20 (d := 0) (n0 := 0) (S := lsOf []) Try.func20 (by kernel_rfl) (c := c20) (by kernel_rfl) rfl (no_loops (by kernel_rfl)) (by omega) (by kernel_rfl) ?_
  intro x'' y'' q'' hq''
  exact (fn20).trans hq''
def fs20 : FSpec := fsT 20 [] [(.bool, false)] fun _ => t20
theorem okf20 : fs20.Ok Try.prog := fsT_ok fun x'' r'' hr'' => ok20 x'' () r'' hr''
def fs20w : FSpec := fs20.like fun _ => .ret (true, ())
theorem okf20w : fs20w.Ok Try.prog := by
  refine flike_ok okf20 _ ?_
  intro x y h
  cases h
  refine convR_of (vs := [.bool true]) rfl rfl ?_
  show (t20).get = _
  have e : takeG (intBytes (bytesInt (Prod.fst (nameP ([2, 97, 98, 0]) (intBytes (bytesInt (Prod.fst (nameP ([3, 119, 119, 119, 2, 97, 98, 0]) (intBytes []) [])))) (Prod.snd (nameP ([3, 119, 119, 119, 2, 97, 98, 0]) (intBytes []) [])))))) (8 : Int) (8 : Int) (-1 : Int) [] = some ([2, 97, 98, 0], 10) := by
    rw [takeG_u, nameP_u, nameP_u]
    decide
  unfold t20
  rw [e]
  rfl
/-- derricklaw03.WireName -/
def t7 (s : List UInt8) (at_ : Int) (n : List UInt8) : Tr Res := Tr.br (decide ((↑(List.length s) : Int) > (1000 : Int))) (Tr.ret ([AV.bool true], [])) (Tr.br (decide ((↑(List.length n) : Int) > (400 : Int))) (Tr.ret ([AV.bool true], [])) (Tr.br (bigS s) (Tr.br (tkE (takeG s at_ at_ (-1 : Int) []) == (0 : Int)) (Tr.br (bigS (tkS (takeG s at_ at_ (-1 : Int) []))) (Tr.br (mayV (tkS (takeG s at_ at_ (-1 : Int) []))) (Tr.br (decide (tkN (takeG s at_ at_ (-1 : Int) []) > at_)) (Tr.br (decide (tkN (takeG s at_ at_ (-1 : Int) []) ≤ (↑(List.length s) : Int))) (Tr.br (Nat.ble (List.length n + List.length s) 9223372036854775807) (Tr.br (bigS (n ++ s)) (Tr.br (bigS n) (Tr.br (!mayV n) (Tr.ret ([AV.bool true], [])) (Tr.br (tkE (takeG (n ++ s) (0 : Int) (0 : Int) (-1 : Int) []) == (0 : Int)) (Tr.br (tkS (takeG (n ++ s) (0 : Int) (0 : Int) (-1 : Int) []) == n) (Tr.ret ([AV.bool (tkN (takeG (n ++ s) (0 : Int) (0 : Int) (-1 : Int) []) == (↑(List.length n) : Int))], [])) (Tr.ret ([AV.bool false], []))) (Tr.ret ([AV.bool false], [])))) Tr.no) Tr.no) Tr.no) (Tr.br (tkE (takeG s at_ at_ (-1 : Int) []) == (2 : Int)) (Tr.br (tkS (takeG s at_ at_ (-1 : Int) []) == []) (Tr.br (Nat.ble (List.length n + List.length s) 9223372036854775807) (Tr.br (bigS (n ++ s)) (Tr.br (tkN (takeG s at_ at_ (-1 : Int) []) == (0 : Int)) (Tr.br (bigS n) (Tr.br (!mayV n) (Tr.ret ([AV.bool true], [])) (Tr.br (tkE (takeG (n ++ s) (0 : Int) (0 : Int) (-1 : Int) []) == (0 : Int)) (Tr.br (tkS (takeG (n ++ s) (0 : Int) (0 : Int) (-1 : Int) []) == n) (Tr.ret ([AV.bool (tkN (takeG (n ++ s) (0 : Int) (0 : Int) (-1 : Int) []) == (↑(List.length n) : Int))], [])) (Tr.ret ([AV.bool false], []))) (Tr.ret ([AV.bool false], [])))) Tr.no) (Tr.ret ([AV.bool false], []))) Tr.no) Tr.no) (Tr.br (Nat.ble (List.length n + List.length s) 9223372036854775807) (Tr.br (bigS (n ++ s)) (Tr.ret ([AV.bool false], [])) Tr.no) Tr.no)) (Tr.br (Nat.ble (List.length n + List.length s) 9223372036854775807) (Tr.br (bigS (n ++ s)) (Tr.ret ([AV.bool false], [])) Tr.no) Tr.no))) (Tr.br (tkE (takeG s at_ at_ (-1 : Int) []) == (2 : Int)) (Tr.br (tkS (takeG s at_ at_ (-1 : Int) []) == []) (Tr.br (Nat.ble (List.length n + List.length s) 9223372036854775807) (Tr.br (bigS (n ++ s)) (Tr.br (tkN (takeG s at_ at_ (-1 : Int) []) == (0 : Int)) (Tr.br (bigS n) (Tr.br (!mayV n) (Tr.ret ([AV.bool true], [])) (Tr.br (tkE (takeG (n ++ s) (0 : Int) (0 : Int) (-1 : Int) []) == (0 : Int)) (Tr.br (tkS (takeG (n ++ s) (0 : Int) (0 : Int) (-1 : Int) []) == n) (Tr.ret ([AV.bool (tkN (takeG (n ++ s) (0 : Int) (0 : Int) (-1 : Int) []) == (↑(List.length n) : Int))], [])) (Tr.ret ([AV.bool false], []))) (Tr.ret ([AV.bool false], [])))) Tr.no) (Tr.ret ([AV.bool false], []))) Tr.no) Tr.no) (Tr.br (Nat.ble (List.length n + List.length s) 9223372036854775807) (Tr.br (bigS (n ++ s)) (Tr.ret ([AV.bool false], [])) Tr.no) Tr.no)) (Tr.br (Nat.ble (List.length n + List.length s) 9223372036854775807) (Tr.br (bigS (n ++ s)) (Tr.ret ([AV.bool false], [])) Tr.no) Tr.no))) (Tr.br (tkE (takeG s at_ at_ (-1 : Int) []) == (2 : Int)) (Tr.br (tkS (takeG s at_ at_ (-1 : Int) []) == []) (Tr.br (Nat.ble (List.length n + List.length s) 9223372036854775807) (Tr.br (bigS (n ++ s)) (Tr.br (tkN (takeG s at_ at_ (-1 : Int) []) == (0 : Int)) (Tr.br (bigS n) (Tr.br (!mayV n) (Tr.ret ([AV.bool true], [])) (Tr.br (tkE (takeG (n ++ s) (0 : Int) (0 : Int) (-1 : Int) []) == (0 : Int)) (Tr.br (tkS (takeG (n ++ s) (0 : Int) (0 : Int) (-1 : Int) []) == n) (Tr.ret ([AV.bool (tkN (takeG (n ++ s) (0 : Int) (0 : Int) (-1 : Int) []) == (↑(List.length n) : Int))], [])) (Tr.ret ([AV.bool false], []))) (Tr.ret ([AV.bool false], [])))) Tr.no) (Tr.ret ([AV.bool false], []))) Tr.no) Tr.no) (Tr.br (Nat.ble (List.length n + List.length s) 9223372036854775807) (Tr.br (bigS (n ++ s)) (Tr.ret ([AV.bool false], [])) Tr.no) Tr.no)) (Tr.br (Nat.ble (List.length n + List.length s) 9223372036854775807) (Tr.br (bigS (n ++ s)) (Tr.ret ([AV.bool false], [])) Tr.no) Tr.no))) Tr.no) (Tr.br (tkE (takeG s at_ at_ (-1 : Int) []) == (2 : Int)) (Tr.br (tkS (takeG s at_ at_ (-1 : Int) []) == []) (Tr.br (Nat.ble (List.length n + List.length s) 9223372036854775807) (Tr.br (bigS (n ++ s)) (Tr.br (tkN (takeG s at_ at_ (-1 : Int) []) == (0 : Int)) (Tr.br (bigS n) (Tr.br (!mayV n) (Tr.ret ([AV.bool true], [])) (Tr.br (tkE (takeG (n ++ s) (0 : Int) (0 : Int) (-1 : Int) []) == (0 : Int)) (Tr.br (tkS (takeG (n ++ s) (0 : Int) (0 : Int) (-1 : Int) []) == n) (Tr.ret ([AV.bool (tkN (takeG (n ++ s) (0 : Int) (0 : Int) (-1 : Int) []) == (↑(List.length n) : Int))], [])) (Tr.ret ([AV.bool false], []))) (Tr.ret ([AV.bool false], [])))) Tr.no) (Tr.ret ([AV.bool false], []))) Tr.no) Tr.no) (Tr.br (Nat.ble (List.length n + List.length s) 9223372036854775807) (Tr.br (bigS (n ++ s)) (Tr.ret ([AV.bool false], [])) Tr.no) Tr.no)) (Tr.br (Nat.ble (List.length n + List.length s) 9223372036854775807) (Tr.br (bigS (n ++ s)) (Tr.ret ([AV.bool false], [])) Tr.no) Tr.no))) Tr.no))
def os7 : OSpec := { f := 7, sh := [.d .str false, .d (.int .i64) false, .d .str false], so := [], F := fun (s, at_, n, _) _ => t7 s at_ n }
set_option maxRecDepth 1000000 in
theorem fn7 (s : List UInt8) (at_ : Int) (n : List UInt8) : evC T0 (orcB [fs20w, fs27w, fs29w] []) (lpOf h7 0 (lsOf [])) c7 1000000 (startSt [.str s, .int .i64 at_, .str n] [] Try.f7.ntmps) (finishK T0 false 0 Try.f7) = (t7 s at_ n).get := by kernel_rfl
theorem ok7 : os7.Ok Try.prog := by
  refine os_ok mixed0 tab0 (orcB_sound (all_cons okf20w (all_cons okf27w (all_cons okf29w all_nil))) all_nil) h7 (d := 0) (n0 := 0) (S := lsOf []) Try.func7 (by kernel_rfl) (c := c7) (by kernel_rfl) rfl (no_loops (by kernel_rfl)) (by omega) (by kernel_rfl) ?_
  intro x'' y'' q'' hq''
  obtain ⟨(s : List UInt8), (at_ : Int), (n : List UInt8), _⟩ := x''
  exact (fn7 s at_ n).trans hq''
def fs7 : FSpec := fsT 7 [(.str, false), ((.int .i64), false), (.str, false)] [(.bool, false)] fun (s, at_, n, _) => t7 s at_ n
theorem okf7 : fs7.Ok Try.prog := fsT_ok fun x'' r'' hr'' => ok7 x'' () r'' hr''
end Go.Proofs.YtfepkpindchleaaE

/- WireName. -/
namespace Go.Proofs.YtfepkpindchleaaE
open Go Go.Proofs.YtfepkpindchleaaB
set_option linter.unusedVariables false
set_option linter.unusedSimpArgs false
/-! ### Trees whose ways are known -/
theorem allT {α : Type} {P : α → Prop} {x y : Tr α} : (Tr.br true x y).all P ↔ x.all P := ⟨fun h => h.1 rfl, fun h => ⟨fun _ => h, fun e => by cases e⟩⟩
theorem allF {α : Type} {P : α → Prop} {x y : Tr α} : (Tr.br false x y).all P ↔ y.all P := ⟨fun h => h.2 rfl, fun h => ⟨(fun e => by cases e), fun _ => h⟩⟩
theorem allR {α : Type} {P : α → Prop} {a : α} : (Tr.ret a).all P ↔ P a := Iff.rfl
theorem wireName_all (s : List UInt8) (at_ : Int) (n : List UInt8) : (t7 s at_ n).all fun x => x = ([.bool true], []) := by
  unfold t7
  by_cases h1 : (s.length : Int) > 1000
  · simp only [decide_eq_true h1, allT, allR]
  by_cases h2 : (n.length : Int) > 400
  · simp only [decide_eq_false h1, decide_eq_true h2, allT, allF, allR]
  have hb : bigS s = true := by simp [bigS]; omega
  have hbn : bigS n = true := by simp [bigS]; omega
  have hbns : bigS (n ++ s) = true := by simp [bigS]; omega
  have hble : Nat.ble (List.length n + List.length s) 9223372036854775807 = true := Nat.ble_eq_true_of_le (by omega)
  have key : ∀ m next, takeG s at_ at_ (-1) [] = some (m, next) → mayV m = true ∧ bigS m = true ∧ at_ < next ∧ next ≤ s.length := fun m next h => by
    obtain ⟨a1, _, a3, _⟩ := takeG_may _ at_ at_ (-1) [] m next rfl LP_nil h
    obtain ⟨_, a4, _⟩ := may_iff.1 a1
    exact ⟨a1, by simp [bigS]; omega, a3 (by omega)⟩
  cases ho : takeG s at_ at_ (-1) [] with
  | none =>
    cases hm : mayV n with
    | false => simp [decide_eq_false h1, decide_eq_false h2, hb, hbn, hbns, hble, hm, tkE, tkS, tkN, allT, allF, allR]
    | true =>
      simp [decide_eq_false h1, decide_eq_false h2, hb, hbn, hbns, hble, hm, tkE, tkS, tkN, takeG_self (X := s) hm, allT, allF, allR]
  | some p =>
    obtain ⟨m, next⟩ := p
    obtain ⟨k1, k2, k3, k4⟩ := key m next ho
    cases hm : mayV n with
    | false => simp [decide_eq_false h1, decide_eq_false h2, hb, hbn, hbns, hble, hm, tkE, tkS, tkN, k1, k2, k3, k4, allT, allF, allR]
    | true => simp [decide_eq_false h1, decide_eq_false h2, hb, hbn, hbns, hble, hm, tkE, tkS, tkN, k1, k2, k3, k4, takeG_self (X := s) hm, allT, allF, allR]
theorem sem7 (s : List UInt8) (at_ : Int) (n : List UInt8) : SemF Try.prog 7 [.str s, .int .i64 at_, .str n] [] [.bool true] [] :=
  ok7 (s, at_, n, ()) () ([.bool true], []) (Tr.get_of_all (wireName_all s at_ n))
end Go.Proofs.YtfepkpindchleaaE

/- few; WireShort; WireSized. -/
namespace Go.Proofs.YtfepkpindchleaaE
open Go Go.Proofs.YtfepkpindchleaaB
set_option linter.unusedVariables false
set_option linter.unusedSimpArgs false
noncomputable def b21 : Code := nthLoop c21 0
def ls21 : LoopSpec := { bid := 0, sh := [.d (.list (.pair .str .bool)) false, .d (.int .i64) false], so := [], F := fun (l, i, _) _ => .on2 (decide (i = 0)) ((l.take 41).all (fun x => decide (x.1.length ≤ 400))) (.exit 0, [AV.list (.pair .str .bool) l, .dead], []) (.ret, [AV.list (.pair .str .bool) l, .bool false], []) }
def r21 (l : List (List UInt8 × Bool)) (i : Int) : Tr (St ⊕ (Ex × St)) := Tr.br (decide (i < (↑(List.length l) : Int))) (Tr.br (decide (i < (41 : Int))) (Tr.br (decide ((0 : Int) ≤ i)) (Tr.br (decide (i < (↑(List.length l) : Int))) (Tr.br (decide ((↑(List.length (Prod.fst (List.getD l (Int.toNat i) (Ty.dflt (Ty.pair Ty.str Ty.bool))))) : Int) > (400 : Int))) (Tr.ret (Sum.inr (Ex.ret, stOf [0, 2] [AV.list (Ty.pair Ty.str Ty.bool) l, AV.bool false] []))) (Tr.ret (Sum.inl (stOf [0, 3] [AV.list (Ty.pair Ty.str Ty.bool) l, AV.int IntKind.i64 (IntKind.wrap IntKind.i64 (i + (1 : Int)))] [])))) Tr.no) Tr.no) (Tr.ret (Sum.inr (Ex.exit 0, stOf [0, 2] [AV.list (Ty.pair Ty.str Ty.bool) l, AV.dead] [])))) (Tr.ret (Sum.inr (Ex.exit 0, stOf [0, 2] [AV.list (Ty.pair Ty.str Ty.bool) l, AV.dead] [])))
set_option maxRecDepth 1000000 in
theorem round21 (orc : Orc) (lp : Lp) (l : List (List UInt8 × Bool)) (i : Int) : evC T0 orc lp b21 0 (stOf [0, 3] [.list (.pair .str .bool) l, .int .i64 i] []) (roundK [0, 3] [0, 2] 0) = (r21 l i).get := by kernel_rfl
theorem wf21 (orc : Orc) (l : List (List UInt8 × Bool)) (I'' : Int → Prop) (m'' : Int → Nat) (r'' : Ex × St) (h : ∀ (i : Int), I'' i → (r21 l i).all fun x'' => x'' = .inr r'' ∨ ∃ (i' : Int), x'' = .inl (stOf [0, 3] [.list (.pair .str .bool) l, .int .i64 i'] []) ∧ I'' i' ∧ m'' i' < m'' i) (lp : Lp) (i : Int) : I'' i →
    loopF (fun st => evC T0 orc lp b21 0 st (roundK [0, 3] [0, 2] 0)) (stOf [0, 3] [.list (.pair .str .bool) l, .int .i64 i] []) = some r'' :=
  loop_tr (fun a'' : Int => stOf [0, 3] [.list (.pair .str .bool) l, .int .i64 a''] []) (fun a'' => I'' a'') (fun a'' => m'' a'') r'' (fun a'' => r21 l a'')
    (fun a'' x hx => (round21 orc lp l a'').trans hx) (fun a'' ha => Tr.all_mono (fun x'' hx => hx.imp id fun ⟨i', h1, h2, h3⟩ => ⟨(i'), h1, h2, h3⟩) (h (a'') ha)) (i)
theorem loop21 (orc : Orc) : ls21.Ok T0 orc h21 0 0 b21 := by
  intro q'' hq'' x'' y'' r'' h
  obtain ⟨(l : List (List UInt8 × Bool)), (i : Int), _⟩ := x''
  obtain ⟨hc, rfl⟩ := Tr.get_on2 h
  show loopF (fun st => evC T0 orc (lpN T0 orc h21 0 q'') b21 0 st (roundK [0, 3] [0, 2] 0)) (stOf [0, 3] [.list (.pair .str .bool) l, .int .i64 i] []) = some ((bif (l.take 41).all (fun x => decide (x.1.length ≤ 400)) then (.exit 0, [AV.list (.pair .str .bool) l, .dead], []) else (.ret, [AV.list (.pair .str .bool) l, .bool false], []) : Ex × List AV × List LObj).1, stOf [0, 2] (bif (l.take 41).all (fun x => decide (x.1.length ≤ 400)) then (.exit 0, [AV.list (.pair .str .bool) l, .dead], []) else (.ret, [AV.list (.pair .str .bool) l, .bool false], []) : Ex × List AV × List LObj).2.1 (bif (l.take 41).all (fun x => decide (x.1.length ≤ 400)) then (.exit 0, [AV.list (.pair .str .bool) l, .dead], []) else (.ret, [AV.list (.pair .str .bool) l, .bool false], []) : Ex × List AV × List LObj).2.2)
  simp only [decide_eq_true_eq] at hc
  subst hc
  refine wf21 _ l (fun i => 0 ≤ i ∧ i ≤ 41 ∧ (l.take 41).all (fun x => decide (x.1.length ≤ 400)) = ((l.drop i.toNat).take (41 - i.toNat)).all (fun x => decide (x.1.length ≤ 400))) (fun i => (41 - i).toNat) _ ?_ _ 0 ⟨by omega, by omega, by simp⟩
  rintro i ⟨h0, h1, h2⟩
  rw [h2]
  unfold r21
  by_cases hk : i.toNat < l.length
  · by_cases h41 : i < 41
    · have hg : l.getD i.toNat (Ty.dflt (Ty.pair Ty.str Ty.bool)) = l[i.toNat] := by rw [List.getD_eq_getElem?_getD, List.getElem?_eq_getElem hk]; rfl
      rw [List.drop_eq_getElem_cons hk, show 41 - i.toNat = (40 - i.toNat) + 1 by omega, List.take_succ_cons, List.all_cons, hg]
      refine Tr.all_t (dec_true (by omega)) (Tr.all_t (dec_true (by omega)) (Tr.all_t (dec_true h0) (Tr.all_t (dec_true (by omega)) (Tr.all_br (fun c1 => Tr.all_ret (.inl ?_)) fun c1 => Tr.all_ret (.inr ⟨_, rfl, ?_, ?_⟩)))))
      · simp only [decide_eq_true_eq] at c1
        rw [decide_eq_false (by omega), Bool.false_and]
        rfl
      · rw [IntWalk.i64_in _ (by omega)]
        simp only [decide_eq_false_iff_not] at c1
        refine ⟨by omega, by omega, ?_⟩
        rw [decide_eq_true (by omega), Bool.true_and, show (i + 1).toNat = i.toNat + 1 by omega, show 41 - (i.toNat + 1) = 40 - i.toNat by omega]
      · rw [IntWalk.i64_in _ (by omega)]
        omega
    · refine Tr.all_t (dec_true (by omega)) (Tr.all_f (dec_false h41) (Tr.all_ret (.inl ?_)))
      rw [show 41 - i.toNat = 0 by omega]
      simp
  · refine Tr.all_f (dec_false (by omega)) (Tr.all_ret (.inl ?_))
    rw [List.drop_eq_nil_of_le (by omega)]
    simp
/-- derricklaw03.few -/
def t21 (l : List (List UInt8 × Bool)) : Tr Res := Tr.br (List.all (List.take 41 l) fun x ↦ decide (List.length (Prod.fst x) ≤ 400)) (Tr.ret ([AV.bool (decide ((↑(List.length l) : Int) ≤ (40 : Int)))], [])) (Tr.ret ([AV.bool false], []))
def os21 : OSpec := { f := 21, sh := [.d (.list (.pair .str .bool)) false], so := [], F := fun (l, _) _ => t21 l }
set_option maxRecDepth 1000000 in
theorem fn21 (l : List (List UInt8 × Bool)) : evC T0 (orcB [] []) (lpOf h21 0 (lsOf [ls21])) c21 1000000 (startSt [.list (.pair .str .bool) l] [] Try.f21.ntmps) (finishK T0 false 0 Try.f21) = (t21 l).get := by kernel_rfl
theorem ok21 : os21.Ok Try.prog := by
  refine os_ok mixed0 tab0 (orcB_sound all_nil all_nil) h21 (d := 0) (n0 := 0) (S := lsOf [ls21]) Try.func21 (by kernel_rfl) (c := c21) (by kernel_rfl) rfl (loops_eq (xs := [(0, b21)]) (by kernel_rfl) (all_cons (ls_here (loop21 _)) all_nil)) (by omega) (by kernel_rfl) ?_
  intro x'' y'' q'' hq''
  obtain ⟨(l : List (List UInt8 × Bool)), _⟩ := x''
  exact (fn21 l).trans hq''
def fs21 : FSpec := fsT 21 [((.list (.pair .str .bool)), false)] [(.bool, false)] fun (l, _) => t21 l
theorem okf21 : fs21.Ok Try.prog := fsT_ok fun x'' r'' hr'' => ok21 x'' () r'' hr''
def fs21w : FSpec := fs21.like fun (l, _) => .ret (fewB l, ())
theorem okf21w : fs21w.Ok Try.prog := by
  refine flike_ok okf21 _ ?_
  rintro ⟨(l : List (List UInt8 × Bool)), _⟩ y h
  cases h
  refine convR_of (vs := [.bool (fewB l)]) rfl rfl (Tr.get_of_all ?_)
  show (t21 l).all _
  unfold t21 fewB
  refine Tr.all_br (fun c1 => Tr.all_ret ?_) fun c1 => Tr.all_ret ?_
  · rw [c1, Bool.true_and]
    congr 3
    rw [Bool.eq_iff_iff]
    simp
    omega
  · rw [c1]
    rfl
def ls24q : LoopSpec := { bid := 0, sh := [], so := [], F := fun _ _ => .no }
theorem loop24q (orc : Orc) : ls24q.Ok T0 orc h24 0 0 b24 := by
  intro q'' hq'' x'' y'' r'' h
  cases h
/-- (*wire.Pack).Name -/
def t24z (n : List UInt8) : Tr Res := Tr.ret ([AV.int IntKind.i64 (1 : Int)], [])
def os24z : OSpec := { f := 24, sh := [.np, .d .str false], so := [], F := fun (n, _) _ => t24z n }
set_option maxRecDepth 1000000 in
theorem fn24z (n : List UInt8) : evC T0 (orcB [fs42w, fs29w] [os22]) (lpOf h24 0 (lsOf [ls24q])) c24 1000000 (startSt [.np, .str n] [] Try.f24.ntmps) (finishK T0 false 0 Try.f24) = (t24z n).get := by kernel_rfl
theorem ok24z : os24z.Ok Try.prog := by
  refine os_ok mixed0 tab0 (orcB_sound (all_cons okf42w (all_cons okf29w all_nil)) (all_cons ok22 all_nil)) h24 (d := 0) (n0 := 0) (S := lsOf [ls24q]) Try.func24 (by kernel_rfl) (c := c24) (by kernel_rfl) rfl (loops_eq (xs := [(0, b24)]) (by kernel_rfl) (all_cons (ls_here (loop24q _)) all_nil)) (by omega) (by kernel_rfl) ?_
  intro x'' y'' q'' hq''
  obtain ⟨(n : List UInt8), _⟩ := x''
  exact (fn24z n).trans hq''
-- derricklaw03.WireShort: loop 0 keeps [0, 1, 5, 6, 7], [1, 4, 5, 6]
noncomputable def b9 : Code := nthLoop c9 0
def ls9 : LoopSpec := { bid := 0, sh := [.d (.list (.pair .str .bool)) false, .d .str false, .d .bool false, .ptr 0 0, .d (.int .i64) false], so := [.box [.row 1, .mp 2], .row (.int .u8), .map .str (.int .i64)], F := fun (l, n, up, i, _) (_, b, m, _) => .on (fewB l && (decide (i = 0) && p0C b m)) (.exit 0, [.str n, .dead, .bool up, .ptr 0 0], [.box [.rowA 1, .mp 2], .row (.int .u8) (bytesInt (l.foldl stN ([], [])).1), .mpo .str (.int .i64) (l.foldl stN ([], [])).2]) }
def r9 (l : List (List UInt8 × Bool)) (n : List UInt8) (up : Bool) (i : Int) (b : List Int) (m : List (List UInt8 × Int)) : Tr (St ⊕ (Ex × St)) := Tr.br (decide (i < (↑(List.length l) : Int))) (Tr.br (decide ((0 : Int) ≤ i)) (Tr.br (decide (i < (↑(List.length l) : Int))) (Tr.br (pkC b m && Nat.ble (List.length (Prod.fst (List.getD l (Int.toNat i) (Ty.dflt (Ty.pair Ty.str Ty.bool))))) 100000000000) (Tr.br (mayV (Prod.fst (List.getD l (Int.toNat i) (Ty.dflt (Ty.pair Ty.str Ty.bool))))) (Tr.br (decide ((0 : Int) ≤ i)) (Tr.br (decide (i < (↑(List.length l) : Int))) (Tr.br (decide ((↑(List.length (bytesInt (Prod.fst (nameP (Prod.fst (List.getD l (Int.toNat i) (Ty.dflt (Ty.pair Ty.str Ty.bool)))) (intBytes b) m)))) : Int) > IntKind.wrap IntKind.i64 ((↑(List.length b) : Int) + (↑(List.length (Prod.fst (List.getD l (Int.toNat i) (Ty.dflt (Ty.pair Ty.str Ty.bool))))) : Int)))) (Tr.ret (Sum.inr (Ex.ret, stOf [1, 4, 5, 6] [AV.str n, AV.bool false, AV.bool up, AV.ptr 0 0] [LObj.boxT none [AV.rowA 1, AV.mp 2], LObj.row (Ty.int IntKind.u8) (bytesInt (Prod.fst (nameP (Prod.fst (List.getD l (Int.toNat i) (Ty.dflt (Ty.pair Ty.str Ty.bool)))) (intBytes b) m))), LObj.mpo Ty.str (Ty.int IntKind.i64) (Prod.snd (nameP (Prod.fst (List.getD l (Int.toNat i) (Ty.dflt (Ty.pair Ty.str Ty.bool)))) (intBytes b) m))]))) (Tr.ret (Sum.inl (stOf [0, 1, 5, 6, 7] [AV.list (Ty.pair Ty.str Ty.bool) l, AV.str n, AV.bool up, AV.ptr 0 0, AV.int IntKind.i64 (IntKind.wrap IntKind.i64 (i + (1 : Int)))] [LObj.boxT none [AV.rowA 1, AV.mp 2], LObj.row (Ty.int IntKind.u8) (bytesInt (Prod.fst (nameP (Prod.fst (List.getD l (Int.toNat i) (Ty.dflt (Ty.pair Ty.str Ty.bool)))) (intBytes b) m))), LObj.mpo Ty.str (Ty.int IntKind.i64) (Prod.snd (nameP (Prod.fst (List.getD l (Int.toNat i) (Ty.dflt (Ty.pair Ty.str Ty.bool)))) (intBytes b) m))])))) Tr.no) Tr.no) (Tr.br ((↑(List.length b) : Int) != (↑(List.length b) : Int)) (Tr.ret (Sum.inr (Ex.ret, stOf [1, 4, 5, 6] [AV.str n, AV.bool false, AV.bool up, AV.ptr 0 0] [LObj.boxT none [AV.rowA 1, AV.mp 2], LObj.row (Ty.int IntKind.u8) b, LObj.mpo Ty.str (Ty.int IntKind.i64) m]))) (Tr.ret (Sum.inl (stOf [0, 1, 5, 6, 7] [AV.list (Ty.pair Ty.str Ty.bool) l, AV.str n, AV.bool up, AV.ptr 0 0, AV.int IntKind.i64 (IntKind.wrap IntKind.i64 (i + (1 : Int)))] [LObj.boxT none [AV.rowA 1, AV.mp 2], LObj.row (Ty.int IntKind.u8) b, LObj.mpo Ty.str (Ty.int IntKind.i64) m]))))) Tr.no) Tr.no) Tr.no) (Tr.ret (Sum.inr (Ex.exit 0, stOf [1, 4, 5, 6] [AV.str n, AV.dead, AV.bool up, AV.ptr 0 0] [LObj.boxT none [AV.rowA 1, AV.mp 2], LObj.row (Ty.int IntKind.u8) b, LObj.mpo Ty.str (Ty.int IntKind.i64) m])))
set_option maxRecDepth 1000000 in
theorem round9 (lp : Lp) (l : List (List UInt8 × Bool)) (n : List UInt8) (up : Bool) (i : Int) (b : List Int) (m : List (List UInt8 × Int)) : evC T0 (orcB [fs20w, fs21w, fs29w] [os16, os24w, os24z, os26, os26z, os22z, os19z, os30z, os31z]) lp b9 0 (stOf [0, 1, 5, 6, 7] [.list (.pair .str .bool) l, .str n, .bool up, .ptr 0 0, .int .i64 i] [.box [.rowA 1, .mp 2], .row (.int .u8) b, .mpo .str (.int .i64) m]) (roundK [0, 1, 5, 6, 7] [1, 4, 5, 6] 0) = (r9 l n up i b m).get := by kernel_rfl
theorem wf9 (l : List (List UInt8 × Bool)) (n : List UInt8) (up : Bool) (I'' : Int → List Int → List (List UInt8 × Int) → Prop) (m'' : Int → List Int → List (List UInt8 × Int) → Nat) (r'' : Ex × St) (h : ∀ (i : Int) (b : List Int) (m : List (List UInt8 × Int)), I'' i b m → (r9 l n up i b m).all fun x'' => x'' = .inr r'' ∨ ∃ (i' : Int) (b' : List Int) (m' : List (List UInt8 × Int)), x'' = .inl (stOf [0, 1, 5, 6, 7] [.list (.pair .str .bool) l, .str n, .bool up, .ptr 0 0, .int .i64 i'] [.box [.rowA 1, .mp 2], .row (.int .u8) b', .mpo .str (.int .i64) m']) ∧ I'' i' b' m' ∧ m'' i' b' m' < m'' i b m) (lp : Lp) (i : Int) (b : List Int) (m : List (List UInt8 × Int)) : I'' i b m →
    loopF (fun st => evC T0 (orcB [fs20w, fs21w, fs29w] [os16, os24w, os24z, os26, os26z, os22z, os19z, os30z, os31z]) lp b9 0 st (roundK [0, 1, 5, 6, 7] [1, 4, 5, 6] 0)) (stOf [0, 1, 5, 6, 7] [.list (.pair .str .bool) l, .str n, .bool up, .ptr 0 0, .int .i64 i] [.box [.rowA 1, .mp 2], .row (.int .u8) b, .mpo .str (.int .i64) m]) = some r'' :=
  loop_tr (fun a'' : Int × List Int × List (List UInt8 × Int) => stOf [0, 1, 5, 6, 7] [.list (.pair .str .bool) l, .str n, .bool up, .ptr 0 0, .int .i64 a''.1] [.box [.rowA 1, .mp 2], .row (.int .u8) a''.2.1, .mpo .str (.int .i64) a''.2.2]) (fun a'' => I'' a''.1 a''.2.1 a''.2.2) (fun a'' => m'' a''.1 a''.2.1 a''.2.2) r'' (fun a'' => r9 l n up a''.1 a''.2.1 a''.2.2)
    (fun a'' x hx => (round9 lp l n up a''.1 a''.2.1 a''.2.2).trans hx) (fun a'' ha => Tr.all_mono (fun x'' hx => hx.imp id fun ⟨i', b', m', h1, h2, h3⟩ => ⟨(i', b', m'), h1, h2, h3⟩) (h (a''.1) (a''.2.1) (a''.2.2) ha)) (i, b, m)
def shI (l : Parts) (i : Int) (b : List Int) (m : Known) : Prop := 0 ≤ i ∧ i ≤ l.length ∧ ∃ p : PKt, b = bytesInt p.1 ∧ m = p.2 ∧ GoodP i.toNat p ∧ (l.drop i.toNat).foldl stN p = l.foldl stN ([], [])
theorem loop9 : ls9.Ok T0 (orcB [fs20w, fs21w, fs29w] [os16, os24w, os24z, os26, os26z, os22z, os19z, os30z, os31z]) h9 0 0 b9 := by
  intro q'' hq'' x'' y'' r'' h
  obtain ⟨(l : List (List UInt8 × Bool)), (n : List UInt8), (up : Bool), (i : Int), _⟩ := x''
  obtain ⟨_, (b : List Int), (m : List (List UInt8 × Int)), _⟩ := y''
  obtain ⟨hc, rfl⟩ := Tr.get_on h
  show loopF (fun st => evC T0 (orcB [fs20w, fs21w, fs29w] [os16, os24w, os24z, os26, os26z, os22z, os19z, os30z, os31z]) (lpN T0 (orcB [fs20w, fs21w, fs29w] [os16, os24w, os24z, os26, os26z, os22z, os19z, os30z, os31z]) h9 0 q'') b9 0 st (roundK [0, 1, 5, 6, 7] [1, 4, 5, 6] 0)) (stOf [0, 1, 5, 6, 7] [.list (.pair .str .bool) l, .str n, .bool up, .ptr 0 0, .int .i64 i] [.box [.rowA 1, .mp 2], .row (.int .u8) b, .mpo .str (.int .i64) m]) = some (.exit 0, stOf [1, 4, 5, 6] ([.str n, .dead, .bool up, .ptr 0 0]) ([.box [.rowA 1, .mp 2], .row (.int .u8) (bytesInt (l.foldl stN ([], [])).1), .mpo .str (.int .i64) (l.foldl stN ([], [])).2]))
  simp only [p0C, Bool.and_eq_true, decide_eq_true_eq, List.isEmpty_iff] at hc
  obtain ⟨hf, rfl, rfl, rfl⟩ := hc
  obtain ⟨hl, hx⟩ := fewB_iff.1 hf
  refine wf9 l n up (shI l) (fun i _ _ => (l.length - i).toNat) _ ?_ _ 0 [] [] ⟨by omega, by omega, ([], []), rfl, rfl, good_nil, by simp⟩
  rintro i b m ⟨h0, h1, p, rfl, rfl, hg, hF⟩
  rw [← hF]
  unfold r9
  by_cases hi : i < l.length
  · obtain ⟨d1, d2⟩ := drop_getD (Ty.dflt (Ty.pair Ty.str Ty.bool)) h0 hi
    generalize List.getD l (Int.toNat i) (Ty.dflt (Ty.pair Ty.str Ty.bool)) = x at d1 d2
    have hxl := hx x d2
    rw [d1, List.foldl_cons] at hF
    obtain ⟨g1, g2, _⟩ := stN_good hg hxl
    have g1 : GoodP (i + 1).toNat (stN p x) := by rw [show (i + 1).toNat = i.toNat + 1 by omega]; exact g1
    have hpk := pkC_good hg (by omega)
    have hp := hg.2
    rw [intB_bytes]
    refine Tr.all_t (dec_true hi) (Tr.all_t (dec_true h0) (Tr.all_t (dec_true hi) (Tr.all_t (by rw [hpk, Nat.ble_eq_true_of_le (by omega)]; rfl) (Tr.all_br (fun c1 => Tr.all_t (dec_true h0) (Tr.all_t (dec_true hi) (Tr.all_f ?_ (Tr.all_ret (.inr ?_))))) fun c1 => Tr.all_f (by simp) (Tr.all_ret (.inr ?_))))))
    · unfold stN at g2
      rw [c1, cond_true] at g2
      rw [bytesInt_len, bytesInt_len, IntWalk.i64_in _ (by omega)]
      exact dec_false (by omega)
    · rw [IntWalk.i64_in _ (by omega)]
      have e : stN p x = nameP x.1 p.1 p.2 := by unfold stN; rw [c1]; rfl
      rw [← e]
      exact ⟨_, _, _, rfl, ⟨by omega, by omega, _, rfl, rfl, g1, hF⟩, by omega⟩
    · rw [IntWalk.i64_in _ (by omega)]
      have e : stN p x = p := by unfold stN; rw [c1]; rfl
      rw [e] at hF g1
      exact ⟨_, _, _, rfl, ⟨by omega, by omega, _, rfl, rfl, g1, hF⟩, by omega⟩
  · refine Tr.all_f (dec_false hi) (Tr.all_ret (.inl ?_))
    rw [List.drop_eq_nil_of_le (by omega)]
    rfl
/-- derricklaw03.WireShort -/
def t9 (l : List (List UInt8 × Bool)) (n : List UInt8) : Tr Res := Tr.br (!fewB l) (Tr.ret ([AV.bool true], [])) (Tr.br (bigS n) (Tr.br (!mayV n) (Tr.ret ([AV.bool true], [])) (Tr.br (fewB l && (decide ((0 : Int) = (0 : Ty.den (Ty.int IntKind.i64))) && p0C [] [])) (Tr.br (pkC (bytesInt (Prod.fst (List.foldl stN ([], []) l))) (Prod.snd (List.foldl stN ([], []) l)) && Nat.ble (List.length n) 100000000000) (Tr.br (mayV n) (Tr.br (pkC (bytesInt (Prod.fst (nameP n (intBytes (bytesInt (Prod.fst (List.foldl stN ([], []) l)))) (Prod.snd (List.foldl stN ([], []) l))))) (Prod.snd (nameP n (intBytes (bytesInt (Prod.fst (List.foldl stN ([], []) l)))) (Prod.snd (List.foldl stN ([], []) l)))) && Nat.ble (List.length n) 100000000000) (Tr.br (mayV n) (Tr.br (n == [0]) (Tr.br ((↑(List.length (bytesInt (Prod.fst (nameP n (intBytes (bytesInt (Prod.fst (nameP n (intBytes (bytesInt (Prod.fst (List.foldl stN ([], []) l)))) (Prod.snd (List.foldl stN ([], []) l)))))) (Prod.snd (nameP n (intBytes (bytesInt (Prod.fst (List.foldl stN ([], []) l)))) (Prod.snd (List.foldl stN ([], []) l)))))))) : Int) == IntKind.wrap IntKind.i64 ((↑(List.length (bytesInt (Prod.fst (nameP n (intBytes (bytesInt (Prod.fst (List.foldl stN ([], []) l)))) (Prod.snd (List.foldl stN ([], []) l)))))) : Int) + (1 : Int))) (Tr.ret ([AV.bool ((1 : Int) == (1 : Int))], [])) (Tr.ret ([AV.bool false], []))) (Tr.br ((↑(List.length (bytesInt (Prod.fst (nameP n (intBytes (bytesInt (Prod.fst (nameP n (intBytes (bytesInt (Prod.fst (List.foldl stN ([], []) l)))) (Prod.snd (List.foldl stN ([], []) l)))))) (Prod.snd (nameP n (intBytes (bytesInt (Prod.fst (List.foldl stN ([], []) l)))) (Prod.snd (List.foldl stN ([], []) l)))))))) : Int) == IntKind.wrap IntKind.i64 ((↑(List.length (bytesInt (Prod.fst (nameP n (intBytes (bytesInt (Prod.fst (List.foldl stN ([], []) l)))) (Prod.snd (List.foldl stN ([], []) l)))))) : Int) + (2 : Int))) (Tr.ret ([AV.bool ((1 : Int) == (1 : Int))], [])) (Tr.ret ([AV.bool false], [])))) (Tr.br (n == [0]) (Tr.br ((↑(List.length (bytesInt (Prod.fst (nameP n (intBytes (bytesInt (Prod.fst (List.foldl stN ([], []) l)))) (Prod.snd (List.foldl stN ([], []) l)))))) : Int) == IntKind.wrap IntKind.i64 ((↑(List.length (bytesInt (Prod.fst (nameP n (intBytes (bytesInt (Prod.fst (List.foldl stN ([], []) l)))) (Prod.snd (List.foldl stN ([], []) l)))))) : Int) + (1 : Int))) (Tr.ret ([AV.bool ((1 : Int) == (1 : Int))], [])) (Tr.ret ([AV.bool false], []))) (Tr.br ((↑(List.length (bytesInt (Prod.fst (nameP n (intBytes (bytesInt (Prod.fst (List.foldl stN ([], []) l)))) (Prod.snd (List.foldl stN ([], []) l)))))) : Int) == IntKind.wrap IntKind.i64 ((↑(List.length (bytesInt (Prod.fst (nameP n (intBytes (bytesInt (Prod.fst (List.foldl stN ([], []) l)))) (Prod.snd (List.foldl stN ([], []) l)))))) : Int) + (2 : Int))) (Tr.ret ([AV.bool ((1 : Int) == (1 : Int))], [])) (Tr.ret ([AV.bool false], []))))) Tr.no) (Tr.br (pkC (bytesInt (Prod.fst (List.foldl stN ([], []) l))) (Prod.snd (List.foldl stN ([], []) l)) && Nat.ble (List.length n) 100000000000) (Tr.br (mayV n) (Tr.br (n == [0]) (Tr.br ((↑(List.length (bytesInt (Prod.fst (nameP n (intBytes (bytesInt (Prod.fst (List.foldl stN ([], []) l)))) (Prod.snd (List.foldl stN ([], []) l)))))) : Int) == IntKind.wrap IntKind.i64 ((↑(List.length (bytesInt (Prod.fst (List.foldl stN ([], []) l)))) : Int) + (1 : Int))) (Tr.ret ([AV.bool ((1 : Int) == (1 : Int))], [])) (Tr.ret ([AV.bool false], []))) (Tr.br ((↑(List.length (bytesInt (Prod.fst (nameP n (intBytes (bytesInt (Prod.fst (List.foldl stN ([], []) l)))) (Prod.snd (List.foldl stN ([], []) l)))))) : Int) == IntKind.wrap IntKind.i64 ((↑(List.length (bytesInt (Prod.fst (List.foldl stN ([], []) l)))) : Int) + (2 : Int))) (Tr.ret ([AV.bool ((1 : Int) == (1 : Int))], [])) (Tr.ret ([AV.bool false], [])))) (Tr.br (n == [0]) (Tr.br ((↑(List.length (bytesInt (Prod.fst (List.foldl stN ([], []) l)))) : Int) == IntKind.wrap IntKind.i64 ((↑(List.length (bytesInt (Prod.fst (List.foldl stN ([], []) l)))) : Int) + (1 : Int))) (Tr.ret ([AV.bool ((1 : Int) == (1 : Int))], [])) (Tr.ret ([AV.bool false], []))) (Tr.br ((↑(List.length (bytesInt (Prod.fst (List.foldl stN ([], []) l)))) : Int) == IntKind.wrap IntKind.i64 ((↑(List.length (bytesInt (Prod.fst (List.foldl stN ([], []) l)))) : Int) + (2 : Int))) (Tr.ret ([AV.bool ((1 : Int) == (1 : Int))], [])) (Tr.ret ([AV.bool false], []))))) Tr.no)) Tr.no) Tr.no)) Tr.no)
def os9 : OSpec := { f := 9, sh := [.d (.list (.pair .str .bool)) false, .d .str false], so := [], F := fun (l, n, _) _ => t9 l n }
set_option maxRecDepth 1000000 in
theorem fn9 (l : List (List UInt8 × Bool)) (n : List UInt8) : evC T0 (orcB [fs20w, fs21w, fs29w] [os16, os24w, os24z, os26, os26z, os22z, os19z, os30z, os31z]) (lpOf h9 0 (lsOf [ls9])) c9 1000000 (startSt [.list (.pair .str .bool) l, .str n] [] Try.f9.ntmps) (finishK T0 false 0 Try.f9) = (t9 l n).get := by kernel_rfl
theorem ok9 : os9.Ok Try.prog := by
  refine os_ok mixed0 tab0 (orcB_sound (all_cons okf20w (all_cons okf21w (all_cons okf29w all_nil))) (all_cons ok16 (all_cons ok24w (all_cons ok24z (all_cons ok26 (all_cons ok26z (all_cons ok22z (all_cons ok19z (all_cons ok30z (all_cons ok31z all_nil)))))))))) h9 (d := 0) (n0 := 0) (S := lsOf [ls9]) Try.func9 (by kernel_rfl) (c := c9) (by kernel_rfl) rfl (loops_eq (xs := [(0, b9)]) (by kernel_rfl) (all_cons (ls_here loop9) all_nil)) (by omega) (by kernel_rfl) ?_
  intro x'' y'' q'' hq''
  obtain ⟨(l : List (List UInt8 × Bool)), (n : List UInt8), _⟩ := x''
  exact (fn9 l n).trans hq''
def fs9 : FSpec := fsT 9 [((.list (.pair .str .bool)), false), (.str, false)] [(.bool, false)] fun (l, n, _) => t9 l n
theorem okf9 : fs9.Ok Try.prog := fsT_ok fun x'' r'' hr'' => ok9 x'' () r'' hr''
end Go.Proofs.YtfepkpindchleaaE

/- WireShort: the law. -/
namespace Go.Proofs.YtfepkpindchleaaE
open Go Go.Proofs.YtfepkpindchleaaB
set_option linter.unusedVariables false
set_option linter.unusedSimpArgs false
theorem wireShort_all (l : Parts) (n : List UInt8) (hb : bigS n = true) : (t9 l n).all fun x => x = ([.bool true], []) := by
  unfold t9
  cases hf : fewB l with
  | false => exact Tr.all_t rfl (Tr.all_ret rfl)
  | true =>
    obtain ⟨hl, hx⟩ := fewB_iff.1 hf
    refine Tr.all_f rfl (Tr.all_t hb ?_)
    cases hm : mayV n with
    | false => exact Tr.all_t rfl (Tr.all_ret rfl)
    | true =>
      have hg : GoodP l.length (l.foldl stN ([], [])) := by
        have := fold_good (st := stN) (fun k p x h hx => (stN_good h hx).1) l 0 ([], []) good_nil hx
        rwa [Nat.zero_add] at this
      generalize l.foldl stN ([], []) = p at hg
      have hn := (may_iff.1 hm).2.1
      have g1 : GoodP (l.length + 1) (nameP n p.1 p.2) := by
        have := (stN_good (x := (n, false)) hg (by show n.length ≤ 400; omega)).1
        unfold stN at this
        rw [show mayV (n, false).1 = true from hm, cond_true] at this
        exact this
      have g2 : GoodP (l.length + 2) (nameP n (nameP n p.1 p.2).1 (nameP n p.1 p.2).2) := by
        have := (stN_good (x := (n, false)) g1 (by show n.length ≤ 400; omega)).1
        unfold stN at this
        rw [show mayV (n, false).1 = true from hm, cond_true] at this
        exact this
      have hp := hg.2
      have hp1 := g1.2
      have ht := nameP_twice (n := n) (S := p.1) (L := p.2) hm (by omega)
      have hw1 := IntWalk.i64_in (((nameP n p.1 p.2).1.length : Int) + 1) (by omega)
      have hw2 := IntWalk.i64_in (((nameP n p.1 p.2).1.length : Int) + 2) (by omega)
      have hbl : Nat.ble n.length 100000000000 = true := Nat.ble_eq_true_of_le (by omega)
      by_cases h0 : n = [0]
      · rw [if_pos h0] at ht
        have hz : (n == [0]) = true := beq_iff_eq.2 h0
        simp [hm, hf, p0C, intB_bytes, pkC_good hg (by omega), pkC_good g1 (by omega), hbl, allT, allF, allR, bytesInt_len, hw1, ht, hz]
      · rw [if_neg h0] at ht
        have hz : (n == [0]) = false := beq_eq_false_iff_ne.2 h0
        simp [hm, hf, p0C, intB_bytes, pkC_good hg (by omega), pkC_good g1 (by omega), hbl, allT, allF, allR, bytesInt_len, hw2, ht, hz]
theorem bulk_big {n : List UInt8} (h : bulkT .str n ≤ 1048576) : bigS n = true := by
  have : List.length n + 1 ≤ 1048576 := h
  simp [bigS]
  omega
theorem sem9 (l : Parts) (n : List UInt8) (hbk : bulkT .str n ≤ 1048576) : SemF Try.prog 9 [.list (.pair .str .bool) l, .str n] [] [.bool true] [] :=
  ok9 (l, n, ()) () ([.bool true], []) (Tr.get_of_all (wireShort_all l n (bulk_big hbk)))
end Go.Proofs.YtfepkpindchleaaE

/- WireAgain, WireBack. -/
namespace Go.Proofs.YtfepkpindchleaaE
open Go Go.Proofs.YtfepkpindchleaaB
set_option linter.unusedVariables false
set_option linter.unusedSimpArgs false
noncomputable def b8 : Code := nthLoop c8 0
def ls8 : LoopSpec := { bid := 0, sh := [.d (.list (.pair .str .bool)) false, .d .str false, .d .bool false, .ptr 0 0, .d (.int .i64) false], so := [.box [.row 1, .mp 2], .row (.int .u8), .map .str (.int .i64)], F := fun (l, n, up, i, _) (_, b, m, _) => .on (fewB l && (decide (i = 0) && p0C b m)) (.exit 0, [.str n, .bool up, .ptr 0 0], [.box [.rowA 1, .mp 2], .row (.int .u8) (bytesInt (l.foldl stA ([], [])).1), .mpo .str (.int .i64) (l.foldl stA ([], [])).2]) }
def r8 (l : List (List UInt8 × Bool)) (n : List UInt8) (up : Bool) (i : Int) (b : List Int) (m : List (List UInt8 × Int)) : Tr (St ⊕ (Ex × St)) := Tr.br (decide (i < (↑(List.length l) : Int))) (Tr.br (decide ((0 : Int) ≤ i)) (Tr.br (decide (i < (↑(List.length l) : Int))) (Tr.br (!Prod.snd (List.getD l (Int.toNat i) (Ty.dflt (Ty.pair Ty.str Ty.bool)))) (Tr.br (decide ((0 : Int) ≤ i)) (Tr.br (decide (i < (↑(List.length l) : Int))) (Tr.br (pkC b m && Nat.ble (List.length (Prod.fst (List.getD l (Int.toNat i) (Ty.dflt (Ty.pair Ty.str Ty.bool))))) 100000000000) (Tr.br (mayV (Prod.fst (List.getD l (Int.toNat i) (Ty.dflt (Ty.pair Ty.str Ty.bool))))) (Tr.ret (Sum.inl (stOf [0, 1, 5, 6, 7] [AV.list (Ty.pair Ty.str Ty.bool) l, AV.str n, AV.bool up, AV.ptr 0 0, AV.int IntKind.i64 (IntKind.wrap IntKind.i64 (i + (1 : Int)))] [LObj.boxT none [AV.rowA 1, AV.mp 2], LObj.row (Ty.int IntKind.u8) (bytesInt (Prod.fst (nameP (Prod.fst (List.getD l (Int.toNat i) (Ty.dflt (Ty.pair Ty.str Ty.bool)))) (intBytes b) m))), LObj.mpo Ty.str (Ty.int IntKind.i64) (Prod.snd (nameP (Prod.fst (List.getD l (Int.toNat i) (Ty.dflt (Ty.pair Ty.str Ty.bool)))) (intBytes b) m))]))) (Tr.ret (Sum.inl (stOf [0, 1, 5, 6, 7] [AV.list (Ty.pair Ty.str Ty.bool) l, AV.str n, AV.bool up, AV.ptr 0 0, AV.int IntKind.i64 (IntKind.wrap IntKind.i64 (i + (1 : Int)))] [LObj.boxT none [AV.rowA 1, AV.mp 2], LObj.row (Ty.int IntKind.u8) b, LObj.mpo Ty.str (Ty.int IntKind.i64) m])))) Tr.no) Tr.no) Tr.no) (Tr.ret (Sum.inl (stOf [0, 1, 5, 6, 7] [AV.list (Ty.pair Ty.str Ty.bool) l, AV.str n, AV.bool up, AV.ptr 0 0, AV.int IntKind.i64 (IntKind.wrap IntKind.i64 (i + (1 : Int)))] [LObj.boxT none [AV.rowA 1, AV.mp 2], LObj.row (Ty.int IntKind.u8) b, LObj.mpo Ty.str (Ty.int IntKind.i64) m])))) Tr.no) Tr.no) (Tr.ret (Sum.inr (Ex.exit 0, stOf [1, 5, 6] [AV.str n, AV.bool up, AV.ptr 0 0] [LObj.boxT none [AV.rowA 1, AV.mp 2], LObj.row (Ty.int IntKind.u8) b, LObj.mpo Ty.str (Ty.int IntKind.i64) m])))
set_option maxRecDepth 1000000 in
theorem round8 (lp : Lp) (l : List (List UInt8 × Bool)) (n : List UInt8) (up : Bool) (i : Int) (b : List Int) (m : List (List UInt8 × Int)) : evC T0 (orcB [fs20w, fs21w, fs29w, fs27w] [os16, os24w, os26, os22, os19]) lp b8 0 (stOf [0, 1, 5, 6, 7] [.list (.pair .str .bool) l, .str n, .bool up, .ptr 0 0, .int .i64 i] [.box [.rowA 1, .mp 2], .row (.int .u8) b, .mpo .str (.int .i64) m]) (roundK [0, 1, 5, 6, 7] [1, 5, 6] 0) = (r8 l n up i b m).get := by kernel_rfl
theorem wf8 (l : List (List UInt8 × Bool)) (n : List UInt8) (up : Bool) (I'' : Int → List Int → List (List UInt8 × Int) → Prop) (m'' : Int → List Int → List (List UInt8 × Int) → Nat) (r'' : Ex × St) (h : ∀ (i : Int) (b : List Int) (m : List (List UInt8 × Int)), I'' i b m → (r8 l n up i b m).all fun x'' => x'' = .inr r'' ∨ ∃ (i' : Int) (b' : List Int) (m' : List (List UInt8 × Int)), x'' = .inl (stOf [0, 1, 5, 6, 7] [.list (.pair .str .bool) l, .str n, .bool up, .ptr 0 0, .int .i64 i'] [.box [.rowA 1, .mp 2], .row (.int .u8) b', .mpo .str (.int .i64) m']) ∧ I'' i' b' m' ∧ m'' i' b' m' < m'' i b m) (lp : Lp) (i : Int) (b : List Int) (m : List (List UInt8 × Int)) : I'' i b m →
    loopF (fun st => evC T0 (orcB [fs20w, fs21w, fs29w, fs27w] [os16, os24w, os26, os22, os19]) lp b8 0 st (roundK [0, 1, 5, 6, 7] [1, 5, 6] 0)) (stOf [0, 1, 5, 6, 7] [.list (.pair .str .bool) l, .str n, .bool up, .ptr 0 0, .int .i64 i] [.box [.rowA 1, .mp 2], .row (.int .u8) b, .mpo .str (.int .i64) m]) = some r'' :=
  loop_tr (fun a'' : Int × List Int × List (List UInt8 × Int) => stOf [0, 1, 5, 6, 7] [.list (.pair .str .bool) l, .str n, .bool up, .ptr 0 0, .int .i64 a''.1] [.box [.rowA 1, .mp 2], .row (.int .u8) a''.2.1, .mpo .str (.int .i64) a''.2.2]) (fun a'' => I'' a''.1 a''.2.1 a''.2.2) (fun a'' => m'' a''.1 a''.2.1 a''.2.2) r'' (fun a'' => r8 l n up a''.1 a''.2.1 a''.2.2)
    (fun a'' x hx => (round8 lp l n up a''.1 a''.2.1 a''.2.2).trans hx) (fun a'' ha => Tr.all_mono (fun x'' hx => hx.imp id fun ⟨i', b', m', h1, h2, h3⟩ => ⟨(i', b', m'), h1, h2, h3⟩) (h (a''.1) (a''.2.1) (a''.2.2) ha)) (i, b, m)
def agI (l : Parts) (i : Int) (b : List Int) (m : Known) : Prop := 0 ≤ i ∧ i ≤ l.length ∧ ∃ p : PKt, b = bytesInt p.1 ∧ m = p.2 ∧ GoodP i.toNat p ∧ (l.drop i.toNat).foldl stA p = l.foldl stA ([], [])
theorem loop8 : ls8.Ok T0 (orcB [fs20w, fs21w, fs29w, fs27w] [os16, os24w, os26, os22, os19]) h8 0 0 b8 := by
  intro q'' hq'' x'' y'' r'' h
  obtain ⟨(l : List (List UInt8 × Bool)), (n : List UInt8), (up : Bool), (i : Int), _⟩ := x''
  obtain ⟨_, (b : List Int), (m : List (List UInt8 × Int)), _⟩ := y''
  obtain ⟨hc, rfl⟩ := Tr.get_on h
  show loopF (fun st => evC T0 (orcB [fs20w, fs21w, fs29w, fs27w] [os16, os24w, os26, os22, os19]) (lpN T0 (orcB [fs20w, fs21w, fs29w, fs27w] [os16, os24w, os26, os22, os19]) h8 0 q'') b8 0 st (roundK [0, 1, 5, 6, 7] [1, 5, 6] 0)) (stOf [0, 1, 5, 6, 7] [.list (.pair .str .bool) l, .str n, .bool up, .ptr 0 0, .int .i64 i] [.box [.rowA 1, .mp 2], .row (.int .u8) b, .mpo .str (.int .i64) m]) = some (.exit 0, stOf [1, 5, 6] ([.str n, .bool up, .ptr 0 0]) ([.box [.rowA 1, .mp 2], .row (.int .u8) (bytesInt (l.foldl stA ([], [])).1), .mpo .str (.int .i64) (l.foldl stA ([], [])).2]))
  simp only [p0C, Bool.and_eq_true, decide_eq_true_eq, List.isEmpty_iff] at hc
  obtain ⟨hf, rfl, rfl, rfl⟩ := hc
  obtain ⟨hl, hx⟩ := fewB_iff.1 hf
  refine wf8 l n up (agI l) (fun i _ _ => (l.length - i).toNat) _ ?_ _ 0 [] [] ⟨by omega, by omega, ([], []), rfl, rfl, good_nil, by simp⟩
  rintro i b m ⟨h0, h1, p, rfl, rfl, hg, hF⟩
  rw [← hF]
  unfold r8
  by_cases hi : i < l.length
  · obtain ⟨d1, d2⟩ := drop_getD (Ty.dflt (Ty.pair Ty.str Ty.bool)) h0 hi
    generalize List.getD l (Int.toNat i) (Ty.dflt (Ty.pair Ty.str Ty.bool)) = x at d1 d2
    have hxl := hx x d2
    rw [d1, List.foldl_cons] at hF
    have g1 := stA_good hg hxl
    have g1 : GoodP (i + 1).toNat (stA p x) := by rw [show (i + 1).toNat = i.toNat + 1 by omega]; exact g1
    have hpk := pkC_good hg (by omega)
    rw [intB_bytes, IntWalk.i64_in _ (by omega)]
    unfold stA at g1 hF
    refine Tr.all_t (dec_true hi) (Tr.all_t (dec_true h0) (Tr.all_t (dec_true hi) (Tr.all_br (fun c0 => Tr.all_t (dec_true h0) (Tr.all_t (dec_true hi) (Tr.all_t (by rw [hpk, Nat.ble_eq_true_of_le (by omega)]; rfl) (Tr.all_br (fun c1 => Tr.all_ret (.inr ?_)) fun c1 => Tr.all_ret (.inr ?_))))) fun c0 => Tr.all_ret (.inr ?_))))
    · rw [Bool.not_eq_true'] at c0
      rw [c0, cond_false] at g1 hF
      unfold stN at g1 hF
      rw [c1, cond_true] at g1 hF
      exact ⟨_, _, _, rfl, ⟨by omega, by omega, _, rfl, rfl, g1, hF⟩, by omega⟩
    · rw [Bool.not_eq_true'] at c0
      rw [c0, cond_false] at g1 hF
      unfold stN at g1 hF
      rw [c1, cond_false] at g1 hF
      exact ⟨_, _, _, rfl, ⟨by omega, by omega, _, rfl, rfl, g1, hF⟩, by omega⟩
    · rw [Bool.not_eq_false'] at c0
      rw [c0, cond_true] at g1 hF
      exact ⟨_, _, _, rfl, ⟨by omega, by omega, _, rfl, rfl, g1, hF⟩, by omega⟩
  · refine Tr.all_f (dec_false hi) (Tr.all_ret (.inl ?_))
    rw [List.drop_eq_nil_of_le (by omega)]
    rfl
/-- derricklaw03.WireAgain -/
def t8 (l : List (List UInt8 × Bool)) (n : List UInt8) : Tr Res := Tr.br (!fewB l) (Tr.ret ([AV.bool true], [])) (Tr.br (bigS n) (Tr.br (!mayV n) (Tr.ret ([AV.bool true], [])) (Tr.br (fewB l && (decide ((0 : Int) = (0 : Ty.den (Ty.int IntKind.i64))) && p0C [] [])) (Tr.br (pkC (bytesInt (Prod.fst (List.foldl stA ([], []) l))) (Prod.snd (List.foldl stA ([], []) l)) && Nat.ble (List.length n) 100000000000) (Tr.br (mayV n) (Tr.br (bigS (intBytes (bytesInt (Prod.fst (nameP n (intBytes (bytesInt (Prod.fst (List.foldl stA ([], []) l)))) (Prod.snd (List.foldl stA ([], []) l))))))) (Tr.br (pkC [] [] && Nat.ble (List.length (tkS (takeG (intBytes (bytesInt (Prod.fst (nameP n (intBytes (bytesInt (Prod.fst (List.foldl stA ([], []) l)))) (Prod.snd (List.foldl stA ([], []) l)))))) (↑(List.length (bytesInt (Prod.fst (List.foldl stA ([], []) l)))) : Int) (↑(List.length (bytesInt (Prod.fst (List.foldl stA ([], []) l)))) : Int) (-1 : Int) []))) 100000000000) (Tr.br (mayV (tkS (takeG (intBytes (bytesInt (Prod.fst (nameP n (intBytes (bytesInt (Prod.fst (List.foldl stA ([], []) l)))) (Prod.snd (List.foldl stA ([], []) l)))))) (↑(List.length (bytesInt (Prod.fst (List.foldl stA ([], []) l)))) : Int) (↑(List.length (bytesInt (Prod.fst (List.foldl stA ([], []) l)))) : Int) (-1 : Int) []))) (Tr.br (tkE (takeG (intBytes (bytesInt (Prod.fst (nameP n (intBytes (bytesInt (Prod.fst (List.foldl stA ([], []) l)))) (Prod.snd (List.foldl stA ([], []) l)))))) (↑(List.length (bytesInt (Prod.fst (List.foldl stA ([], []) l)))) : Int) (↑(List.length (bytesInt (Prod.fst (List.foldl stA ([], []) l)))) : Int) (-1 : Int) []) == (0 : Int)) (Tr.br (tkS (takeG (intBytes (bytesInt (Prod.fst (nameP n (intBytes (bytesInt (Prod.fst (List.foldl stA ([], []) l)))) (Prod.snd (List.foldl stA ([], []) l)))))) (↑(List.length (bytesInt (Prod.fst (List.foldl stA ([], []) l)))) : Int) (↑(List.length (bytesInt (Prod.fst (List.foldl stA ([], []) l)))) : Int) (-1 : Int) []) == n) (Tr.br (tkN (takeG (intBytes (bytesInt (Prod.fst (nameP n (intBytes (bytesInt (Prod.fst (List.foldl stA ([], []) l)))) (Prod.snd (List.foldl stA ([], []) l)))))) (↑(List.length (bytesInt (Prod.fst (List.foldl stA ([], []) l)))) : Int) (↑(List.length (bytesInt (Prod.fst (List.foldl stA ([], []) l)))) : Int) (-1 : Int) []) == (↑(List.length (bytesInt (Prod.fst (nameP n (intBytes (bytesInt (Prod.fst (List.foldl stA ([], []) l)))) (Prod.snd (List.foldl stA ([], []) l)))))) : Int)) (Tr.br (intBytes (bytesInt (Prod.fst (nameP (tkS (takeG (intBytes (bytesInt (Prod.fst (nameP n (intBytes (bytesInt (Prod.fst (List.foldl stA ([], []) l)))) (Prod.snd (List.foldl stA ([], []) l)))))) (↑(List.length (bytesInt (Prod.fst (List.foldl stA ([], []) l)))) : Int) (↑(List.length (bytesInt (Prod.fst (List.foldl stA ([], []) l)))) : Int) (-1 : Int) [])) (intBytes []) []))) == n) (Tr.ret ([AV.bool (decide (IntKind.wrap IntKind.i64 ((↑(List.length (bytesInt (Prod.fst (nameP n (intBytes (bytesInt (Prod.fst (List.foldl stA ([], []) l)))) (Prod.snd (List.foldl stA ([], []) l)))))) : Int) - (↑(List.length (bytesInt (Prod.fst (List.foldl stA ([], []) l)))) : Int)) ≤ (↑(List.length (bytesInt (Prod.fst (nameP (tkS (takeG (intBytes (bytesInt (Prod.fst (nameP n (intBytes (bytesInt (Prod.fst (List.foldl stA ([], []) l)))) (Prod.snd (List.foldl stA ([], []) l)))))) (↑(List.length (bytesInt (Prod.fst (List.foldl stA ([], []) l)))) : Int) (↑(List.length (bytesInt (Prod.fst (List.foldl stA ([], []) l)))) : Int) (-1 : Int) [])) (intBytes []) [])))) : Int)))], [])) (Tr.ret ([AV.bool false], []))) (Tr.ret ([AV.bool false], []))) (Tr.ret ([AV.bool false], []))) (Tr.ret ([AV.bool false], []))) (Tr.br (tkE (takeG (intBytes (bytesInt (Prod.fst (nameP n (intBytes (bytesInt (Prod.fst (List.foldl stA ([], []) l)))) (Prod.snd (List.foldl stA ([], []) l)))))) (↑(List.length (bytesInt (Prod.fst (List.foldl stA ([], []) l)))) : Int) (↑(List.length (bytesInt (Prod.fst (List.foldl stA ([], []) l)))) : Int) (-1 : Int) []) == (0 : Int)) (Tr.br (tkS (takeG (intBytes (bytesInt (Prod.fst (nameP n (intBytes (bytesInt (Prod.fst (List.foldl stA ([], []) l)))) (Prod.snd (List.foldl stA ([], []) l)))))) (↑(List.length (bytesInt (Prod.fst (List.foldl stA ([], []) l)))) : Int) (↑(List.length (bytesInt (Prod.fst (List.foldl stA ([], []) l)))) : Int) (-1 : Int) []) == n) (Tr.br (tkN (takeG (intBytes (bytesInt (Prod.fst (nameP n (intBytes (bytesInt (Prod.fst (List.foldl stA ([], []) l)))) (Prod.snd (List.foldl stA ([], []) l)))))) (↑(List.length (bytesInt (Prod.fst (List.foldl stA ([], []) l)))) : Int) (↑(List.length (bytesInt (Prod.fst (List.foldl stA ([], []) l)))) : Int) (-1 : Int) []) == (↑(List.length (bytesInt (Prod.fst (nameP n (intBytes (bytesInt (Prod.fst (List.foldl stA ([], []) l)))) (Prod.snd (List.foldl stA ([], []) l)))))) : Int)) (Tr.br (intBytes [] == n) (Tr.ret ([AV.bool (decide (IntKind.wrap IntKind.i64 ((↑(List.length (bytesInt (Prod.fst (nameP n (intBytes (bytesInt (Prod.fst (List.foldl stA ([], []) l)))) (Prod.snd (List.foldl stA ([], []) l)))))) : Int) - (↑(List.length (bytesInt (Prod.fst (List.foldl stA ([], []) l)))) : Int)) ≤ (↑0 : Int)))], [])) (Tr.ret ([AV.bool false], []))) (Tr.ret ([AV.bool false], []))) (Tr.ret ([AV.bool false], []))) (Tr.ret ([AV.bool false], [])))) Tr.no) Tr.no) (Tr.br (bigS (intBytes (bytesInt (Prod.fst (List.foldl stA ([], []) l))))) (Tr.br (pkC [] [] && Nat.ble (List.length (tkS (takeG (intBytes (bytesInt (Prod.fst (List.foldl stA ([], []) l)))) (↑(List.length (bytesInt (Prod.fst (List.foldl stA ([], []) l)))) : Int) (↑(List.length (bytesInt (Prod.fst (List.foldl stA ([], []) l)))) : Int) (-1 : Int) []))) 100000000000) (Tr.br (mayV (tkS (takeG (intBytes (bytesInt (Prod.fst (List.foldl stA ([], []) l)))) (↑(List.length (bytesInt (Prod.fst (List.foldl stA ([], []) l)))) : Int) (↑(List.length (bytesInt (Prod.fst (List.foldl stA ([], []) l)))) : Int) (-1 : Int) []))) (Tr.br (tkE (takeG (intBytes (bytesInt (Prod.fst (List.foldl stA ([], []) l)))) (↑(List.length (bytesInt (Prod.fst (List.foldl stA ([], []) l)))) : Int) (↑(List.length (bytesInt (Prod.fst (List.foldl stA ([], []) l)))) : Int) (-1 : Int) []) == (0 : Int)) (Tr.br (tkS (takeG (intBytes (bytesInt (Prod.fst (List.foldl stA ([], []) l)))) (↑(List.length (bytesInt (Prod.fst (List.foldl stA ([], []) l)))) : Int) (↑(List.length (bytesInt (Prod.fst (List.foldl stA ([], []) l)))) : Int) (-1 : Int) []) == n) (Tr.br (tkN (takeG (intBytes (bytesInt (Prod.fst (List.foldl stA ([], []) l)))) (↑(List.length (bytesInt (Prod.fst (List.foldl stA ([], []) l)))) : Int) (↑(List.length (bytesInt (Prod.fst (List.foldl stA ([], []) l)))) : Int) (-1 : Int) []) == (↑(List.length (bytesInt (Prod.fst (List.foldl stA ([], []) l)))) : Int)) (Tr.br (intBytes (bytesInt (Prod.fst (nameP (tkS (takeG (intBytes (bytesInt (Prod.fst (List.foldl stA ([], []) l)))) (↑(List.length (bytesInt (Prod.fst (List.foldl stA ([], []) l)))) : Int) (↑(List.length (bytesInt (Prod.fst (List.foldl stA ([], []) l)))) : Int) (-1 : Int) [])) (intBytes []) []))) == n) (Tr.ret ([AV.bool (decide (IntKind.wrap IntKind.i64 ((↑(List.length (bytesInt (Prod.fst (List.foldl stA ([], []) l)))) : Int) - (↑(List.length (bytesInt (Prod.fst (List.foldl stA ([], []) l)))) : Int)) ≤ (↑(List.length (bytesInt (Prod.fst (nameP (tkS (takeG (intBytes (bytesInt (Prod.fst (List.foldl stA ([], []) l)))) (↑(List.length (bytesInt (Prod.fst (List.foldl stA ([], []) l)))) : Int) (↑(List.length (bytesInt (Prod.fst (List.foldl stA ([], []) l)))) : Int) (-1 : Int) [])) (intBytes []) [])))) : Int)))], [])) (Tr.ret ([AV.bool false], []))) (Tr.ret ([AV.bool false], []))) (Tr.ret ([AV.bool false], []))) (Tr.ret ([AV.bool false], []))) (Tr.br (tkE (takeG (intBytes (bytesInt (Prod.fst (List.foldl stA ([], []) l)))) (↑(List.length (bytesInt (Prod.fst (List.foldl stA ([], []) l)))) : Int) (↑(List.length (bytesInt (Prod.fst (List.foldl stA ([], []) l)))) : Int) (-1 : Int) []) == (0 : Int)) (Tr.br (tkS (takeG (intBytes (bytesInt (Prod.fst (List.foldl stA ([], []) l)))) (↑(List.length (bytesInt (Prod.fst (List.foldl stA ([], []) l)))) : Int) (↑(List.length (bytesInt (Prod.fst (List.foldl stA ([], []) l)))) : Int) (-1 : Int) []) == n) (Tr.br (tkN (takeG (intBytes (bytesInt (Prod.fst (List.foldl stA ([], []) l)))) (↑(List.length (bytesInt (Prod.fst (List.foldl stA ([], []) l)))) : Int) (↑(List.length (bytesInt (Prod.fst (List.foldl stA ([], []) l)))) : Int) (-1 : Int) []) == (↑(List.length (bytesInt (Prod.fst (List.foldl stA ([], []) l)))) : Int)) (Tr.br (intBytes [] == n) (Tr.ret ([AV.bool (decide (IntKind.wrap IntKind.i64 ((↑(List.length (bytesInt (Prod.fst (List.foldl stA ([], []) l)))) : Int) - (↑(List.length (bytesInt (Prod.fst (List.foldl stA ([], []) l)))) : Int)) ≤ (↑0 : Int)))], [])) (Tr.ret ([AV.bool false], []))) (Tr.ret ([AV.bool false], []))) (Tr.ret ([AV.bool false], []))) (Tr.ret ([AV.bool false], [])))) Tr.no) Tr.no)) Tr.no) Tr.no)) Tr.no)
def os8 : OSpec := { f := 8, sh := [.d (.list (.pair .str .bool)) false, .d .str false], so := [], F := fun (l, n, _) _ => t8 l n }
set_option maxRecDepth 1000000 in
theorem fn8 (l : List (List UInt8 × Bool)) (n : List UInt8) : evC T0 (orcB [fs20w, fs21w, fs29w, fs27w] [os16, os24w, os26, os22, os19]) (lpOf h8 0 (lsOf [ls8])) c8 1000000 (startSt [.list (.pair .str .bool) l, .str n] [] Try.f8.ntmps) (finishK T0 false 0 Try.f8) = (t8 l n).get := by kernel_rfl
theorem ok8 : os8.Ok Try.prog := by
  refine os_ok mixed0 tab0 (orcB_sound (all_cons okf20w (all_cons okf21w (all_cons okf29w (all_cons okf27w all_nil)))) (all_cons ok16 (all_cons ok24w (all_cons ok26 (all_cons ok22 (all_cons ok19 all_nil)))))) h8 (d := 0) (n0 := 0) (S := lsOf [ls8]) Try.func8 (by kernel_rfl) (c := c8) (by kernel_rfl) rfl (loops_eq (xs := [(0, b8)]) (by kernel_rfl) (all_cons (ls_here loop8) all_nil)) (by omega) (by kernel_rfl) ?_
  intro x'' y'' q'' hq''
  obtain ⟨(l : List (List UInt8 × Bool)), (n : List UInt8), _⟩ := x''
  exact (fn8 l n).trans hq''
def fs8 : FSpec := fsT 8 [((.list (.pair .str .bool)), false), (.str, false)] [(.bool, false)] fun (l, n, _) => t8 l n
theorem okf8 : fs8.Ok Try.prog := fsT_ok fun x'' r'' hr'' => ok8 x'' () r'' hr''
theorem wireAgain_all (l : Parts) (n : List UInt8) (hb : bigS n = true) : (t8 l n).all fun x => x = ([.bool true], []) := by
  unfold t8
  cases hf : fewB l with
  | false => exact Tr.all_t rfl (Tr.all_ret rfl)
  | true =>
    obtain ⟨hl, hx⟩ := fewB_iff.1 hf
    refine Tr.all_f rfl (Tr.all_t hb ?_)
    cases hm : mayV n with
    | false => exact Tr.all_t rfl (Tr.all_ret rfl)
    | true =>
      have hg : GoodP l.length (l.foldl stA ([], [])) := by
        have := fold_good (st := stA) (fun k p x h hx => stA_good h hx) l 0 ([], []) good_nil hx
        rwa [Nat.zero_add] at this
      generalize l.foldl stA ([], []) = p at hg
      obtain ⟨hr, hn, hlow⟩ := may_iff.1 hm
      have hp := hg.2
      obtain ⟨T, N', a1, a2, a3, a4⟩ := name_put hm hg.1
      have hk := takeG_rd a4 (-1) [] (by simpa using hn)
      obtain ⟨l1, l2, _⟩ := nameL_len _ n p.1 p.2 rfl hr
      rw [a1] at l1 l2
      have hpk := pkC_good hg (by omega)
      have h0 : pkC [] [] = true := rfl
      have hbl : Nat.ble n.length 100000000000 = true := Nat.ble_eq_true_of_le (by omega)
      have hbs : bigS (p.1 ++ T) = true := by simp [bigS] at l1 ⊢; omega
      have hs := nameP_self hm
      have hil : intBytes ([] : List Int) = [] := rfl
      have hw := IntWalk.i64_in (((p.1 ++ T).length : Int) - (p.1.length : Int)) (by omega)
      have hle : (((p.1 ++ T).length : Int) - (p.1.length : Int)) ≤ (n.length : Int) := by omega
      simp only [List.nil_append] at hk
      simp only [hf, hm, p0C, intB_bytes, hpk, hbl, allT, allF, allR, bytesInt_len, a1, hbs, hk, tkS, tkE, tkN, h0, hil, hs, hw, Bool.and_true, Bool.true_and, beq_self_eq_true, List.isEmpty_nil]
      simp [hl, l1, allT, allF, allR]
      simp only [List.length_append] at l1
      omega
theorem sem8 (l : Parts) (n : List UInt8) (hbk : bulkT .str n ≤ 1048576) : SemF Try.prog 8 [.list (.pair .str .bool) l, .str n] [] [.bool true] [] :=
  ok8 (l, n, ()) () ([.bool true], []) (Tr.get_of_all (wireAgain_all l n (bulk_big hbk)))
noncomputable def b6 : Code := nthLoop c6 0
def ls6 : LoopSpec := { bid := 0, sh := [.d (.list (.pair .str .bool)) false, .d .bool false, .ptr 0 0, .row 3, .row 4, .d (.int .i64) false], so := [.box [.row 1, .mp 2], .row (.int .u8), .map .str (.int .i64), .row (.int .i64), .row (.int .i64)], F := fun (l, up, i, _) (_, b, m, at_, ends, _) => .on (fewB l && (decide (i = 0) && (p0C b m && p0E at_ ends))) (.exit 0, [AV.list (.pair .str .bool) l, .bool up, .ptr 0 0, .rowA 3, .rowA 4], [.box [.rowA 1, .mp 2], .row (.int .u8) (bytesInt (l.foldl stB ([], [])).1), .mpo .str (.int .i64) (l.foldl stB ([], [])).2, .row (.int .i64) (atsB l ([], [])).1, .row (.int .i64) (atsB l ([], [])).2]) }
def r6 (l : List (List UInt8 × Bool)) (up : Bool) (i : Int) (b : List Int) (m : List (List UInt8 × Int)) (at_ : List Int) (ends : List Int) : Tr (St ⊕ (Ex × St)) := Tr.br (decide (i < (↑(List.length l) : Int))) (Tr.br (fits (List.length at_ + 1) 8) (Tr.br (decide ((0 : Int) ≤ i)) (Tr.br (decide (i < (↑(List.length l) : Int))) (Tr.br (Prod.snd (List.getD l (Int.toNat i) (Ty.dflt (Ty.pair Ty.str Ty.bool)))) (Tr.br (decide ((0 : Int) ≤ i)) (Tr.br (decide (i < (↑(List.length l) : Int))) (Tr.br (fits (List.length b + List.length (bytesInt (Prod.fst (List.getD l (Int.toNat i) (Ty.dflt (Ty.pair Ty.str Ty.bool)))))) 1) (Tr.br (fits (List.length ends + 1) 8) (Tr.ret (Sum.inl (stOf [0, 3, 4, 5, 6, 7] [AV.list (Ty.pair Ty.str Ty.bool) l, AV.bool up, AV.ptr 0 0, AV.rowA 3, AV.rowA 4, AV.int IntKind.i64 (IntKind.wrap IntKind.i64 (i + (1 : Int)))] [LObj.boxT none [AV.rowA 1, AV.mp 2], LObj.row (Ty.int IntKind.u8) (b ++ bytesInt (Prod.fst (List.getD l (Int.toNat i) (Ty.dflt (Ty.pair Ty.str Ty.bool))))), LObj.mpo Ty.str (Ty.int IntKind.i64) m, LObj.row (Ty.int IntKind.i64) (at_ ++ [(↑(List.length b) : Int)]), LObj.row (Ty.int IntKind.i64) (ends ++ [(↑(List.length (b ++ bytesInt (Prod.fst (List.getD l (Int.toNat i) (Ty.dflt (Ty.pair Ty.str Ty.bool)))))) : Int)])]))) Tr.no) Tr.no) Tr.no) Tr.no) (Tr.br (decide ((0 : Int) ≤ i)) (Tr.br (decide (i < (↑(List.length l) : Int))) (Tr.br (pkC b m && Nat.ble (List.length (Prod.fst (List.getD l (Int.toNat i) (Ty.dflt (Ty.pair Ty.str Ty.bool))))) 100000000000) (Tr.br (mayV (Prod.fst (List.getD l (Int.toNat i) (Ty.dflt (Ty.pair Ty.str Ty.bool))))) (Tr.br (fits (List.length ends + 1) 8) (Tr.ret (Sum.inl (stOf [0, 3, 4, 5, 6, 7] [AV.list (Ty.pair Ty.str Ty.bool) l, AV.bool up, AV.ptr 0 0, AV.rowA 3, AV.rowA 4, AV.int IntKind.i64 (IntKind.wrap IntKind.i64 (i + (1 : Int)))] [LObj.boxT none [AV.rowA 1, AV.mp 2], LObj.row (Ty.int IntKind.u8) (bytesInt (Prod.fst (nameP (Prod.fst (List.getD l (Int.toNat i) (Ty.dflt (Ty.pair Ty.str Ty.bool)))) (intBytes b) m))), LObj.mpo Ty.str (Ty.int IntKind.i64) (Prod.snd (nameP (Prod.fst (List.getD l (Int.toNat i) (Ty.dflt (Ty.pair Ty.str Ty.bool)))) (intBytes b) m)), LObj.row (Ty.int IntKind.i64) (at_ ++ [(↑(List.length b) : Int)]), LObj.row (Ty.int IntKind.i64) (ends ++ [(↑(List.length (bytesInt (Prod.fst (nameP (Prod.fst (List.getD l (Int.toNat i) (Ty.dflt (Ty.pair Ty.str Ty.bool)))) (intBytes b) m)))) : Int)])]))) Tr.no) (Tr.br (fits (List.length ends + 1) 8) (Tr.ret (Sum.inl (stOf [0, 3, 4, 5, 6, 7] [AV.list (Ty.pair Ty.str Ty.bool) l, AV.bool up, AV.ptr 0 0, AV.rowA 3, AV.rowA 4, AV.int IntKind.i64 (IntKind.wrap IntKind.i64 (i + (1 : Int)))] [LObj.boxT none [AV.rowA 1, AV.mp 2], LObj.row (Ty.int IntKind.u8) b, LObj.mpo Ty.str (Ty.int IntKind.i64) m, LObj.row (Ty.int IntKind.i64) (at_ ++ [(↑(List.length b) : Int)]), LObj.row (Ty.int IntKind.i64) (ends ++ [(↑(List.length b) : Int)])]))) Tr.no)) Tr.no) Tr.no) Tr.no)) Tr.no) Tr.no) Tr.no) (Tr.ret (Sum.inr (Ex.exit 0, stOf [0, 3, 4, 5, 6] [AV.list (Ty.pair Ty.str Ty.bool) l, AV.bool up, AV.ptr 0 0, AV.rowA 3, AV.rowA 4] [LObj.boxT none [AV.rowA 1, AV.mp 2], LObj.row (Ty.int IntKind.u8) b, LObj.mpo Ty.str (Ty.int IntKind.i64) m, LObj.row (Ty.int IntKind.i64) at_, LObj.row (Ty.int IntKind.i64) ends])))
set_option maxRecDepth 1000000 in
theorem round6 (lp : Lp) (l : List (List UInt8 × Bool)) (up : Bool) (i : Int) (b : List Int) (m : List (List UInt8 × Int)) (at_ : List Int) (ends : List Int) : evC T0 (orcB [fs20w, fs21w, fs29w, fs27w] [os16, os24w, os26, os22, os19]) lp b6 0 (stOf [0, 3, 4, 5, 6, 7] [.list (.pair .str .bool) l, .bool up, .ptr 0 0, .rowA 3, .rowA 4, .int .i64 i] [.box [.rowA 1, .mp 2], .row (.int .u8) b, .mpo .str (.int .i64) m, .row (.int .i64) at_, .row (.int .i64) ends]) (roundK [0, 3, 4, 5, 6, 7] [0, 3, 4, 5, 6] 0) = (r6 l up i b m at_ ends).get := by kernel_rfl
theorem wf6 (l : List (List UInt8 × Bool)) (up : Bool) (I'' : Int → List Int → List (List UInt8 × Int) → List Int → List Int → Prop) (m'' : Int → List Int → List (List UInt8 × Int) → List Int → List Int → Nat) (r'' : Ex × St) (h : ∀ (i : Int) (b : List Int) (m : List (List UInt8 × Int)) (at_ : List Int) (ends : List Int), I'' i b m at_ ends → (r6 l up i b m at_ ends).all fun x'' => x'' = .inr r'' ∨ ∃ (i' : Int) (b' : List Int) (m' : List (List UInt8 × Int)) (at_' : List Int) (ends' : List Int), x'' = .inl (stOf [0, 3, 4, 5, 6, 7] [.list (.pair .str .bool) l, .bool up, .ptr 0 0, .rowA 3, .rowA 4, .int .i64 i'] [.box [.rowA 1, .mp 2], .row (.int .u8) b', .mpo .str (.int .i64) m', .row (.int .i64) at_', .row (.int .i64) ends']) ∧ I'' i' b' m' at_' ends' ∧ m'' i' b' m' at_' ends' < m'' i b m at_ ends) (lp : Lp) (i : Int) (b : List Int) (m : List (List UInt8 × Int)) (at_ : List Int) (ends : List Int) : I'' i b m at_ ends →
    loopF (fun st => evC T0 (orcB [fs20w, fs21w, fs29w, fs27w] [os16, os24w, os26, os22, os19]) lp b6 0 st (roundK [0, 3, 4, 5, 6, 7] [0, 3, 4, 5, 6] 0)) (stOf [0, 3, 4, 5, 6, 7] [.list (.pair .str .bool) l, .bool up, .ptr 0 0, .rowA 3, .rowA 4, .int .i64 i] [.box [.rowA 1, .mp 2], .row (.int .u8) b, .mpo .str (.int .i64) m, .row (.int .i64) at_, .row (.int .i64) ends]) = some r'' :=
  loop_tr (fun a'' : Int × List Int × List (List UInt8 × Int) × List Int × List Int => stOf [0, 3, 4, 5, 6, 7] [.list (.pair .str .bool) l, .bool up, .ptr 0 0, .rowA 3, .rowA 4, .int .i64 a''.1] [.box [.rowA 1, .mp 2], .row (.int .u8) a''.2.1, .mpo .str (.int .i64) a''.2.2.1, .row (.int .i64) a''.2.2.2.1, .row (.int .i64) a''.2.2.2.2]) (fun a'' => I'' a''.1 a''.2.1 a''.2.2.1 a''.2.2.2.1 a''.2.2.2.2) (fun a'' => m'' a''.1 a''.2.1 a''.2.2.1 a''.2.2.2.1 a''.2.2.2.2) r'' (fun a'' => r6 l up a''.1 a''.2.1 a''.2.2.1 a''.2.2.2.1 a''.2.2.2.2)
    (fun a'' x hx => (round6 lp l up a''.1 a''.2.1 a''.2.2.1 a''.2.2.2.1 a''.2.2.2.2).trans hx) (fun a'' ha => Tr.all_mono (fun x'' hx => hx.imp id fun ⟨i', b', m', at_', ends', h1, h2, h3⟩ => ⟨(i', b', m', at_', ends'), h1, h2, h3⟩) (h (a''.1) (a''.2.1) (a''.2.2.1) (a''.2.2.2.1) (a''.2.2.2.2) ha)) (i, b, m, at_, ends)
def bkI (l : Parts) (i : Int) (b : List Int) (m : Known) (at_ ends : List Int) : Prop := 0 ≤ i ∧ i ≤ l.length ∧ at_.length = i.toNat ∧ ends.length = i.toNat ∧ ∃ p : PKt, b = bytesInt p.1 ∧ m = p.2 ∧ GoodP i.toNat p ∧ (l.drop i.toNat).foldl stB p = l.foldl stB ([], []) ∧
  at_ ++ (atsB (l.drop i.toNat) p).1 = (atsB l ([], [])).1 ∧ ends ++ (atsB (l.drop i.toNat) p).2 = (atsB l ([], [])).2
theorem loop6 : ls6.Ok T0 (orcB [fs20w, fs21w, fs29w, fs27w] [os16, os24w, os26, os22, os19]) h6 0 0 b6 := by
  intro q'' hq'' x'' y'' r'' h
  obtain ⟨(l : List (List UInt8 × Bool)), (up : Bool), (i : Int), _⟩ := x''
  obtain ⟨_, (b : List Int), (m : List (List UInt8 × Int)), (at_ : List Int), (ends : List Int), _⟩ := y''
  obtain ⟨hc, rfl⟩ := Tr.get_on h
  show loopF (fun st => evC T0 (orcB [fs20w, fs21w, fs29w, fs27w] [os16, os24w, os26, os22, os19]) (lpN T0 (orcB [fs20w, fs21w, fs29w, fs27w] [os16, os24w, os26, os22, os19]) h6 0 q'') b6 0 st (roundK [0, 3, 4, 5, 6, 7] [0, 3, 4, 5, 6] 0)) (stOf [0, 3, 4, 5, 6, 7] [.list (.pair .str .bool) l, .bool up, .ptr 0 0, .rowA 3, .rowA 4, .int .i64 i] [.box [.rowA 1, .mp 2], .row (.int .u8) b, .mpo .str (.int .i64) m, .row (.int .i64) at_, .row (.int .i64) ends]) = some (.exit 0, stOf [0, 3, 4, 5, 6] ([AV.list (.pair .str .bool) l, .bool up, .ptr 0 0, .rowA 3, .rowA 4]) ([.box [.rowA 1, .mp 2], .row (.int .u8) (bytesInt (l.foldl stB ([], [])).1), .mpo .str (.int .i64) (l.foldl stB ([], [])).2, .row (.int .i64) (atsB l ([], [])).1, .row (.int .i64) (atsB l ([], [])).2]))
  simp only [p0C, p0E, Bool.and_eq_true, decide_eq_true_eq, List.isEmpty_iff] at hc
  obtain ⟨hf, rfl, ⟨rfl, rfl⟩, rfl, rfl⟩ := hc
  obtain ⟨hl, hx⟩ := fewB_iff.1 hf
  refine wf6 l up (bkI l) (fun i _ _ _ _ => (l.length - i).toNat) _ ?_ _ 0 [] [] [] [] ⟨by omega, by omega, rfl, rfl, ([], []), rfl, rfl, good_nil, by simp, by simp, by simp⟩
  rintro i b m at_ ends ⟨h0, h1, hla, hle, p, rfl, rfl, hg, hF, hA, hE⟩
  rw [← hF, ← hA, ← hE]
  unfold r6
  by_cases hi : i < l.length
  · obtain ⟨d1, d2⟩ := drop_getD (Ty.dflt (Ty.pair Ty.str Ty.bool)) h0 hi
    generalize List.getD l (Int.toNat i) (Ty.dflt (Ty.pair Ty.str Ty.bool)) = x at d1 d2
    have hxl := hx x d2
    rw [d1, List.foldl_cons] at hF
    rw [d1] at hA hE
    simp only [atsB] at hA hE
    have g1 := (stB_good hg hxl).1
    have g1 : GoodP (i + 1).toNat (stB p x) := by rw [show (i + 1).toNat = i.toNat + 1 by omega]; exact g1
    have hpk := pkC_good hg (by omega)
    have hp := hg.2
    rw [intB_bytes, IntWalk.i64_in _ (by omega), ← bytesInt_app]
    have hA : (at_ ++ [(p.1.length : Int)]) ++ (atsB (l.drop (i + 1).toNat) (stB p x)).1 = (atsB l ([], [])).1 := by rw [← hA, List.append_assoc]; rfl
    have hE : (ends ++ [((stB p x).1.length : Int)]) ++ (atsB (l.drop (i + 1).toNat) (stB p x)).2 = (atsB l ([], [])).2 := by rw [← hE, List.append_assoc]; rfl
    have fa : fits (at_.length + 1) 8 = true := fits_true (by omega) (by omega)
    have fe : fits (ends.length + 1) 8 = true := fits_true (by omega) (by omega)
    have fb : fits ((bytesInt p.1).length + (bytesInt x.1).length) 1 = true := fits_true (by rw [bytesInt_len, bytesInt_len]; omega) (by rw [bytesInt_len, bytesInt_len]; omega)
    simp only [bytesInt_len]
    simp only [bytesInt_len] at fb
    refine Tr.all_t (dec_true hi) (Tr.all_t fa (Tr.all_t (dec_true h0) (Tr.all_t (dec_true hi) (Tr.all_br (fun c0 => Tr.all_t (dec_true h0) (Tr.all_t (dec_true hi) (Tr.all_t fb (Tr.all_t fe (Tr.all_ret (.inr ?_)))))) fun c0 => Tr.all_t (dec_true h0) (Tr.all_t (dec_true hi) (Tr.all_t (by rw [hpk, Nat.ble_eq_true_of_le (by omega)]; rfl) (Tr.all_br (fun c1 => Tr.all_t fe (Tr.all_ret (.inr ?_))) fun c1 => Tr.all_t fe (Tr.all_ret (.inr ?_)))))))))
    · have e : stB p x = (p.1 ++ x.1, p.2) := by unfold stB; rw [c0]; rfl
      rw [e] at g1 hF hA hE
      exact ⟨_, _, _, _, _, rfl, ⟨by omega, by omega, by rw [List.length_append]; simp; omega, by rw [List.length_append]; simp; omega, (p.1 ++ x.1, p.2), rfl, rfl, g1, hF, hA, hE⟩, by omega⟩
    · have e : stB p x = nameP x.1 p.1 p.2 := by unfold stB stN; rw [c0, c1]; rfl
      rw [e] at g1 hF hA hE
      exact ⟨_, _, _, _, _, rfl, ⟨by omega, by omega, by rw [List.length_append]; simp; omega, by rw [List.length_append]; simp; omega, _, rfl, rfl, g1, hF, hA, hE⟩, by omega⟩
    · have e : stB p x = p := by unfold stB stN; rw [c0, c1]; rfl
      rw [e] at g1 hF hA hE
      exact ⟨_, _, _, _, _, rfl, ⟨by omega, by omega, by rw [List.length_append]; simp; omega, by rw [List.length_append]; simp; omega, _, rfl, rfl, g1, hF, hA, hE⟩, by omega⟩
  · refine Tr.all_f (dec_false hi) (Tr.all_ret (.inl ?_))
    rw [List.drop_eq_nil_of_le (by omega)]
    simp [atsB]
noncomputable def b6b : Code := nthLoop c6 1
def ls6b : LoopSpec := { bid := 2, sh := [.d (.list (.pair .str .bool)) false, .d .bool false, .row 0, .row 1, .d .str false, .d (.int .i64) false], so := [.row (.int .i64), .row (.int .i64)], F := fun (l, up, s, i, _) (at_, ends, _) => .on (fewB l && (decide (i = 0) && backC l s at_ ends)) (.exit 2, [.dead, .bool up], []) }
def r6b (l : List (List UInt8 × Bool)) (up : Bool) (s : List UInt8) (i : Int) (at_ : List Int) (ends : List Int) : Tr (St ⊕ (Ex × St)) := Tr.br (decide (i < (↑(List.length l) : Int))) (Tr.br (decide ((0 : Int) ≤ i)) (Tr.br (decide (i < (↑(List.length l) : Int))) (Tr.br (Prod.snd (List.getD l (Int.toNat i) (Ty.dflt (Ty.pair Ty.str Ty.bool)))) (Tr.ret (Sum.inl (stOf [0, 3, 5, 6, 8, 9] [AV.list (Ty.pair Ty.str Ty.bool) l, AV.bool up, AV.rowA 0, AV.rowA 1, AV.str s, AV.int IntKind.i64 (IntKind.wrap IntKind.i64 (i + (1 : Int)))] [LObj.row (Ty.int IntKind.i64) at_, LObj.row (Ty.int IntKind.i64) ends]))) (Tr.br (decide ((0 : Int) ≤ i)) (Tr.br (decide (i < (↑(List.length l) : Int))) (Tr.br (bigS (Prod.fst (List.getD l (Int.toNat i) (Ty.dflt (Ty.pair Ty.str Ty.bool))))) (Tr.br (!mayV (Prod.fst (List.getD l (Int.toNat i) (Ty.dflt (Ty.pair Ty.str Ty.bool))))) (Tr.ret (Sum.inl (stOf [0, 3, 5, 6, 8, 9] [AV.list (Ty.pair Ty.str Ty.bool) l, AV.bool up, AV.rowA 0, AV.rowA 1, AV.str s, AV.int IntKind.i64 (IntKind.wrap IntKind.i64 (i + (1 : Int)))] [LObj.row (Ty.int IntKind.i64) at_, LObj.row (Ty.int IntKind.i64) ends]))) (Tr.br (decide ((0 : Int) ≤ i)) (Tr.br (decide (i < (↑(List.length at_) : Int))) (Tr.br (bigS s) (Tr.br (decide ((0 : Int) ≤ i)) (Tr.br (decide (i < (↑(List.length l) : Int))) (Tr.br (!tkS (takeG s (List.getD at_ (Int.toNat i) (Ty.dflt (Ty.int IntKind.i64))) (List.getD at_ (Int.toNat i) (Ty.dflt (Ty.int IntKind.i64))) (-1 : Int) []) == Prod.fst (List.getD l (Int.toNat i) (Ty.dflt (Ty.pair Ty.str Ty.bool)))) (Tr.ret (Sum.inr (Ex.ret, stOf [2, 3] [AV.bool false, AV.bool up] []))) (Tr.br (decide ((0 : Int) ≤ i)) (Tr.br (decide (i < (↑(List.length ends) : Int))) (Tr.br (tkN (takeG s (List.getD at_ (Int.toNat i) (Ty.dflt (Ty.int IntKind.i64))) (List.getD at_ (Int.toNat i) (Ty.dflt (Ty.int IntKind.i64))) (-1 : Int) []) != List.getD ends (Int.toNat i) (Ty.dflt (Ty.int IntKind.i64))) (Tr.ret (Sum.inr (Ex.ret, stOf [2, 3] [AV.bool false, AV.bool up] []))) (Tr.br (tkE (takeG s (List.getD at_ (Int.toNat i) (Ty.dflt (Ty.int IntKind.i64))) (List.getD at_ (Int.toNat i) (Ty.dflt (Ty.int IntKind.i64))) (-1 : Int) []) != (0 : Int)) (Tr.ret (Sum.inr (Ex.ret, stOf [2, 3] [AV.bool false, AV.bool up] []))) (Tr.ret (Sum.inl (stOf [0, 3, 5, 6, 8, 9] [AV.list (Ty.pair Ty.str Ty.bool) l, AV.bool up, AV.rowA 0, AV.rowA 1, AV.str s, AV.int IntKind.i64 (IntKind.wrap IntKind.i64 (i + (1 : Int)))] [LObj.row (Ty.int IntKind.i64) at_, LObj.row (Ty.int IntKind.i64) ends]))))) Tr.no) Tr.no)) Tr.no) Tr.no) Tr.no) Tr.no) Tr.no)) Tr.no) Tr.no) Tr.no)) Tr.no) Tr.no) (Tr.ret (Sum.inr (Ex.exit 2, stOf [2, 3] [AV.dead, AV.bool up] [])))
set_option maxRecDepth 1000000 in
theorem round6b (lp : Lp) (l : List (List UInt8 × Bool)) (up : Bool) (s : List UInt8) (i : Int) (at_ : List Int) (ends : List Int) : evC T0 (orcB [fs20w, fs21w, fs29w, fs27w] [os16, os24w, os26, os22, os19]) lp b6b 2 (stOf [0, 3, 5, 6, 8, 9] [.list (.pair .str .bool) l, .bool up, .rowA 0, .rowA 1, .str s, .int .i64 i] [.row (.int .i64) at_, .row (.int .i64) ends]) (roundK [0, 3, 5, 6, 8, 9] [2, 3] 0) = (r6b l up s i at_ ends).get := by kernel_rfl
theorem wf6b (l : List (List UInt8 × Bool)) (up : Bool) (s : List UInt8) (at_ : List Int) (ends : List Int) (I'' : Int → Prop) (m'' : Int → Nat) (r'' : Ex × St) (h : ∀ (i : Int), I'' i → (r6b l up s i at_ ends).all fun x'' => x'' = .inr r'' ∨ ∃ (i' : Int), x'' = .inl (stOf [0, 3, 5, 6, 8, 9] [.list (.pair .str .bool) l, .bool up, .rowA 0, .rowA 1, .str s, .int .i64 i'] [.row (.int .i64) at_, .row (.int .i64) ends]) ∧ I'' i' ∧ m'' i' < m'' i) (lp : Lp) (i : Int) : I'' i →
    loopF (fun st => evC T0 (orcB [fs20w, fs21w, fs29w, fs27w] [os16, os24w, os26, os22, os19]) lp b6b 2 st (roundK [0, 3, 5, 6, 8, 9] [2, 3] 0)) (stOf [0, 3, 5, 6, 8, 9] [.list (.pair .str .bool) l, .bool up, .rowA 0, .rowA 1, .str s, .int .i64 i] [.row (.int .i64) at_, .row (.int .i64) ends]) = some r'' :=
  loop_tr (fun a'' : Int => stOf [0, 3, 5, 6, 8, 9] [.list (.pair .str .bool) l, .bool up, .rowA 0, .rowA 1, .str s, .int .i64 a''] [.row (.int .i64) at_, .row (.int .i64) ends]) (fun a'' => I'' a'') (fun a'' => m'' a'') r'' (fun a'' => r6b l up s a'' at_ ends)
    (fun a'' x hx => (round6b lp l up s a'' at_ ends).trans hx) (fun a'' ha => Tr.all_mono (fun x'' hx => hx.imp id fun ⟨i', h1, h2, h3⟩ => ⟨(i'), h1, h2, h3⟩) (h (a'') ha)) (i)
theorem ats_len : ∀ (l : Parts) (p : PKt), (atsB l p).1.length = l.length ∧ (atsB l p).2.length = l.length
  | [], _ => ⟨rfl, rfl⟩
  | x :: l, p => by
    obtain ⟨h1, h2⟩ := ats_len l (stB p x)
    simp [atsB, h1, h2]
theorem loop6b : ls6b.Ok T0 (orcB [fs20w, fs21w, fs29w, fs27w] [os16, os24w, os26, os22, os19]) h6 0 0 b6b := by
  intro q'' hq'' x'' y'' r'' h
  obtain ⟨(l : List (List UInt8 × Bool)), (up : Bool), (s : List UInt8), (i : Int), _⟩ := x''
  obtain ⟨(at_ : List Int), (ends : List Int), _⟩ := y''
  obtain ⟨hc, rfl⟩ := Tr.get_on h
  show loopF (fun st => evC T0 (orcB [fs20w, fs21w, fs29w, fs27w] [os16, os24w, os26, os22, os19]) (lpN T0 (orcB [fs20w, fs21w, fs29w, fs27w] [os16, os24w, os26, os22, os19]) h6 0 q'') b6b 2 st (roundK [0, 3, 5, 6, 8, 9] [2, 3] 0)) (stOf [0, 3, 5, 6, 8, 9] [.list (.pair .str .bool) l, .bool up, .rowA 0, .rowA 1, .str s, .int .i64 i] [.row (.int .i64) at_, .row (.int .i64) ends]) = some (.exit 2, stOf [2, 3] ([.dead, .bool up]) ([]))
  simp only [backC, Bool.and_eq_true, decide_eq_true_eq, beq_iff_eq] at hc
  obtain ⟨hf, rfl, rfl, rfl, rfl⟩ := hc
  obtain ⟨hl, hx⟩ := fewB_iff.1 hf
  refine wf6b l up _ _ _ (fun i => 0 ≤ i) (fun i => (l.length - i).toNat) _ ?_ _ 0 (by omega)
  intro i h0
  unfold r6b
  have hg : GoodP l.length (l.foldl stB ([], [])) := by
    have := fold_good (st := stB) (fun k p x h hx => (stB_good h hx).1) l 0 ([], []) good_nil hx
    rwa [Nat.zero_add] at this
  have hp := hg.2
  have hbs : bigS (l.foldl stB ([], [])).1 = true := by simp [bigS]; omega
  obtain ⟨la, le⟩ := ats_len l ([], [])
  by_cases hi : i < l.length
  · have hk : i.toNat < l.length := by omega
    have hback := ats_back l 0 ([], []) good_nil hx i.toNat hk
    have hg : l.getD i.toNat (Ty.dflt (Ty.pair Ty.str Ty.bool)) = l[i.toNat] := by rw [List.getD_eq_getElem?_getD, List.getElem?_eq_getElem hk]; rfl
    have hxl := hx l[i.toNat] (List.getElem_mem hk)
    have hbx : bigS l[i.toNat].1 = true := by simp [bigS]; omega
    rw [hg, IntWalk.i64_in _ (by omega)]
    have h1 : i < ((atsB l ([], [])).1.length : Int) := by omega
    have h2 : i < ((atsB l ([], [])).2.length : Int) := by omega
    refine Tr.all_t (dec_true hi) (Tr.all_t (dec_true h0) (Tr.all_t (dec_true hi) (Tr.all_br (fun c0 => Tr.all_ret (.inr ⟨_, rfl, by omega, by omega⟩)) fun c0 => Tr.all_t (dec_true h0) (Tr.all_t (dec_true hi) (Tr.all_t hbx (Tr.all_br (fun c1 => Tr.all_ret (.inr ⟨_, rfl, by omega, by omega⟩)) fun c1 => ?_))))))
    rw [Bool.not_eq_false'] at c1
    have hb := hback c0 c1
    rw [show (Ty.dflt (Ty.int IntKind.i64) : Int) = 0 from rfl, hb]
    refine Tr.all_t (dec_true h0) (Tr.all_t (dec_true h1) (Tr.all_t hbs (Tr.all_t (dec_true h0) (Tr.all_t (dec_true hi) (Tr.all_f (by simp [tkS]) (Tr.all_t (dec_true h0) (Tr.all_t (dec_true h2) (Tr.all_f (by simp [tkN]) (Tr.all_f (by simp [tkE]) (Tr.all_ret (.inr ⟨_, rfl, by omega, by omega⟩)))))))))))
  · exact Tr.all_f (dec_false hi) (Tr.all_ret (.inl rfl))
/-- derricklaw03.WireBack -/
def t6 (l : List (List UInt8 × Bool)) : Tr Res := Tr.br (!fewB l) (Tr.ret ([AV.bool true], [])) (Tr.br (fewB l && (decide ((0 : Int) = (0 : Ty.den (Ty.int IntKind.i64))) && (p0C [] [] && p0E [] []))) (Tr.br (fewB l && (decide ((0 : Int) = (0 : Ty.den (Ty.int IntKind.i64))) && backC l (intBytes (bytesInt (Prod.fst (List.foldl stB ([], []) l)))) (Prod.fst (atsB l ([], []))) (Prod.snd (atsB l ([], []))))) (Tr.ret ([AV.bool true], [])) Tr.no) Tr.no)
def os6 : OSpec := { f := 6, sh := [.d (.list (.pair .str .bool)) false], so := [], F := fun (l, _) _ => t6 l }
set_option maxRecDepth 1000000 in
theorem fn6 (l : List (List UInt8 × Bool)) : evC T0 (orcB [fs20w, fs21w, fs29w, fs27w] [os16, os24w, os26, os22, os19]) (lpOf h6 0 (lsOf [ls6, ls6b])) c6 1000000 (startSt [.list (.pair .str .bool) l] [] Try.f6.ntmps) (finishK T0 false 0 Try.f6) = (t6 l).get := by kernel_rfl
theorem ok6 : os6.Ok Try.prog := by
  refine os_ok mixed0 tab0 (orcB_sound (all_cons okf20w (all_cons okf21w (all_cons okf29w (all_cons okf27w all_nil)))) (all_cons ok16 (all_cons ok24w (all_cons ok26 (all_cons ok22 (all_cons ok19 all_nil)))))) h6 (d := 0) (n0 := 0) (S := lsOf [ls6, ls6b]) Try.func6 (by kernel_rfl) (c := c6) (by kernel_rfl) rfl (loops_eq (xs := [(0, b6), (2, b6b)]) (by kernel_rfl) (all_cons (ls_here loop6) (all_cons (ls_skip (by kernel_rfl) (ls_here loop6b)) all_nil))) (by omega) (by kernel_rfl) ?_
  intro x'' y'' q'' hq''
  obtain ⟨(l : List (List UInt8 × Bool)), _⟩ := x''
  exact (fn6 l).trans hq''
def fs6 : FSpec := fsT 6 [((.list (.pair .str .bool)), false)] [(.bool, false)] fun (l, _) => t6 l
theorem okf6 : fs6.Ok Try.prog := fsT_ok fun x'' r'' hr'' => ok6 x'' () r'' hr''
theorem wireBack_all (l : Parts) : (t6 l).all fun x => x = ([.bool true], []) := by
  unfold t6
  cases hf : fewB l with
  | false => exact Tr.all_t rfl (Tr.all_ret rfl)
  | true =>
    refine Tr.all_f rfl (Tr.all_t rfl (Tr.all_t ?_ (Tr.all_ret rfl)))
    rw [intB_bytes]
    simp [backC]
theorem sem6 (l : Parts) : SemF Try.prog 6 [.list (.pair .str .bool) l] [] [.bool true] [] :=
  ok6 (l, ()) () ([.bool true], []) (Tr.get_of_all (wireBack_all l))
end Go.Proofs.YtfepkpindchleaaE

/- The row of WireAgain. Printed by mklaw.py. -/
namespace Go.Proofs.Ytfepkpindchleaa.wireAgain
open Go.ChangeShapes Go.WideShapes Go.ChangeAt Go.RowKit Go.Proofs.YtfepkpindchleaaE
open Go.ChangeMaps (open_string shut_string)
set_option linter.unusedVariables false
theorem own : ownKnob Try.prog.godebug = none := by kernel_rfl
theorem laidOut : laidOutB Try.prog = true := by kernel_rfl
/-- Where the data is of some size: the reading's own weights are handed on, too. -/
theorem handed_upto {H : Type} {enc : TypeId × Value → H} {C : Checked} {os : Os} {f : FuncId} {fn : Func} {s : OpenSpec} {k : (H : Type) → List (DataW H) → Bool} (hk : s.cond = some k) {F : Stop.Interp} {conds : List PathCond} {apart fresh handsOn again : Bool}
    (own : ownKnob C.prog.godebug = none) (started : os.Started) (noInit : C.prog.inits.idxOf? f = none) (hfn : C.prog.funcs[f]? = some fn)
    (witness : ∃ (w : World) (tape : Tape) (i : Input), w.os = os ∧ (w.forCall tape i).Shaped C.prog ∧ i.vars = [] ∧ Input.okWide C.prog (w.forCall tape i) .any w.heap.size f i ∧
      s.pre6 enc C.prog fn conds apart (w.forCall tape i).memory i.args ∧ Assume.holds {} C.prog (lone (Frame.enter C.prog f i.args .normal) [] (w.forCall tape i)))
    (contract : ∀ (W : World) (base : Nat) (args : Array Value) (ds gs : List (DataW H)) (before : List MemPlace),
      (∀ (j : Nat) t v, fn.params[j]? = some t → args[j]? = some v → Value.okWide C.prog W .any base t v) →
      DataW.Whole enc C.prog fn.params.toList s.vars apart W args.toList ds gs before → k H (ds ++ gs) = true →
      (DataW.weightsEach C.prog (fn.params.toList ++ s.bare.plain.varTypes C.prog) (ds ++ gs)).all (· ≤ reachBytes) = true →
      Calls C.prog f args W fun e W' => ∃ v, e = .returned v ∧ (s.at F).post enc C.prog fn apart fresh handsOn again W args v W') :
    ReturnsInHanded {} C os f .any (s.pre6 enc C.prog fn conds apart) ((s.at F).post enc C.prog fn apart fresh handsOn again) := by
  refine returnsInHanded_of_calls own started noInit witness ?_
  intro w tape i _ _ _ hok hpre _
  obtain ⟨_, _, _, fn', hfn', _, _, _, _, hval⟩ := hok
  obtain rfl : fn' = fn := Option.some.inj (hfn'.symm.trans hfn)
  obtain ⟨hp, hz⟩ := hpre
  obtain ⟨ds, gs, before, hw, _, hkk⟩ := (OpenSpec.pre_some hk conds apart _ _).1 hp
  refine (contract (w.forCall tape i) w.heap.size i.args ds gs before hval (DataW.Whole.of_heap (w' := w.forCall tape i) (by rfl) hw) hkk (hz.weights hw)).mono fun e W' ⟨v, he, hq⟩ => ?_
  subst he
  exact ChangeSpec.post_blind hq
set_option maxRecDepth 100000 in
theorem lifted (os : Os) (started : os.Started) (H : Type) (enc : TypeId × Value → H) (F0 : Stop.Interp) :
    ReturnsInHanded {} Try.checked os 8 .any ((Rows.OpenSpec.upto Rows.wireAgainSpec).pre6 enc Try.prog Try.f8 Rows.wireAgainUptoRow.domain false) (((Rows.OpenSpec.upto Rows.wireAgainSpec).at F0).post enc Try.prog Try.f8 false true false false) := by
  refine handed_upto (C := Try.checked) (s := (Rows.OpenSpec.upto Rows.wireAgainSpec)) (k := Rows.uptoSmall) rfl own started (by kernel_rfl) Try.func8
    (OpenSpec.witness (enc := enc) (C := Try.checked) (s := (Rows.OpenSpec.upto Rows.wireAgainSpec)) (k := Rows.uptoSmall) rfl false ⟨#[], #[.slice none 0 0, .string ByteArray.empty], []⟩ 8 (by kernel_rfl) (by kernel_rfl) (by kernel_rfl)
      (x := (DataW.whole enc Try.prog (World.plainHolding Try.prog os ⟨#[], #[.slice none 0 0, .string ByteArray.empty], []⟩).memory Try.f8.params.toList (Rows.OpenSpec.upto Rows.wireAgainSpec).vars false [.slice none 0 0, .string ByteArray.empty] 8).get (by kernel_rfl)) (Option.some_get _).symm (by kernel_rfl) (by kernel_rfl) (by kernel_rfl)) ?_
  intro W base args ds gs before hval0 hW hcnd hsz0
  have hsz : ∀ n ∈ DataW.weightsEach Try.prog (Try.f8.params.toList ++ Rows.wireAgainSpec.plain.varTypes Try.prog) (ds ++ gs), n ≤ reachBytes := fun n hn => of_decide_eq_true (List.all_eq_true.1 hsz0 n hn)
  have hval : ∀ (j : Nat) t v, Try.f8.params[j]? = some t → args[j]? = some v → Value.okWide Try.prog W .any base t v := hval0
  have hW' := hW
  obtain ⟨p, q, hA0, hV, rfl, hfz, hnd⟩ := hW
  have hA : DataW.TrodAll enc Try.prog W 0 (fun _ => true) true Try.f8.params.toList args.toList ds p := hA0
  rw [Try.params8] at hA hval hsz
  obtain ⟨v0, vs0, d0, ds0, p0, q0, hargs, rfl, rfl, k0, r0⟩ := trodAll_cons hA
  obtain ⟨v1, vs1, d1, ds1, p1, q1, rfl, rfl, rfl, k1, r1⟩ := trodAll_cons r0
  obtain ⟨rfl, rfl, rfl⟩ := trodAll_nil r1
  obtain rfl : args = #[v0, v1] := by cases args; simp_all
  obtain ⟨rfl, rfl⟩ := trodVars_none hV
  have lt0 : ∀ x ∈ p0, x.block < W.heap.size := by obtain ⟨m, hm⟩ := k0; exact DataW.trod_lt m _ _ _ hm
  obtain ⟨x0, e0, w0, b0⟩ := arg_told (n := 8) (τ := (.list (.pair .str .bool))) (agg := false) (by kernel_rfl) (hval 0 38 v0 rfl rfl) k0 (fun n hn => hsz n (DataW.weights_mem_each (j := 0) (t := 38) rfl rfl n hn)) (by kernel_rfl)
  have lt1 : ∀ x ∈ p1, x.block < W.heap.size := by obtain ⟨m, hm⟩ := k1; exact DataW.trod_lt m _ _ _ hm
  obtain ⟨x1, e1, w1, b1⟩ := arg_told (n := 8) (τ := .str) (agg := false) (by kernel_rfl) (hval 1 9 v1 rfl rfl) k1 (fun n hn => hsz n (DataW.weights_mem_each (j := 1) (t := 9) rfl rfl n hn)) (by kernel_rfl)
  have hbk : Rows.uptoBulkAll ([d0, d1] ++ []) ≤ 1048576 := of_decide_eq_true hcnd
  simp only [List.append_nil, Rows.uptoBulkAll] at hbk
  clear hA0 hval0 hsz0 hsz
  refine (law_calls ((fun x0 x1 _ _ _ b1 => sem8 x0 x1 b1) x0 x1 w0 w1 (Nat.le_trans b0 (by omega : Rows.uptoBulk d0 ≤ 1048576)) (Nat.le_trans b1 (by omega : Rows.uptoBulk d1 ≤ 1048576))) W (vs := [v0, v1]) ?_).mono fun e W' ⟨he, bel⟩ => ?_
  · simp only [VRelL]
    exact ⟨_, _, rfl, e0, ⟨_, _, rfl, e1, rfl⟩⟩
  subst he
  exact ⟨_, rfl, _, _, _, [], _, [], hW', trodAll_mk1 (shut_bool Try.underlying4 _), (trodAll_cons_mk (Below.trod laidOut (by kernel_rfl) (of_decide_eq_true (by kernel_rfl)) k0 bel lt0) (trodAll_cons_mk (Below.trod laidOut (by kernel_rfl) (of_decide_eq_true (by kernel_rfl)) k1 bel lt1) trodAll_mk0)), rfl, bel.frame _, fun h => by cases h⟩
theorem over : Rows.wireAgainUptoRow.holds Try.pinned (Rows.OpenSpec.upto Rows.wireAgainSpec) :=
  OpenClaim.holds_of_cond 8 Try.f8 rfl rfl rfl rfl rfl rfl rfl ⟨rfl, rfl, rfl, rfl, rfl⟩ rfl rfl rfl rfl rfl (by kernel_rfl) Try.func8 (by kernel_rfl)
    (of_decide_eq_true (by kernel_rfl)) (by unfold Func.isWrapper; first | (rw [if_pos (by decide +kernel)]; kernel_rfl) | (rw [if_neg (by decide +kernel)]; exact ⟨rfl, rfl⟩))
    (fun os started H enc _ F0 => lifted os started H enc F0)
theorem proved : Rows.WireAgainUptoSaid := over
end Go.Proofs.Ytfepkpindchleaa.wireAgain
namespace Go.Proofs.Ytfepkpindchleaa
/-- The row, under a short name, for the claim. -/
theorem wireAgainUpto_holds : Rows.WireAgainUptoSaid := wireAgain.proved
#print axioms wireAgainUpto_holds
end Go.Proofs.Ytfepkpindchleaa
