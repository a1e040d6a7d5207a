import Derived.Test.YtfepkpindchleaaMWirePacks1
import Derived.Test.YtfepkpindchleaaRows
import Derived.WalkKit
import Derived.ProofKit
import Derived.OpenShut
import Derived.ShutString
import Derived.ChangeOld
import Derived.Below
import Derived.Carry
import Derived.SizedLaws
/- wire.Take: a word. -/
namespace Go.Proofs.YtfepkpindchleaaE
open Go Go.Proofs.YtfepkpindchleaaB
set_option linter.unusedVariables false
set_option linter.unusedSimpArgs false
/-- A loop by its rounds' trees: each way ends it, goes on with less to do, or comes to where it is known how it ends. -/
theorem loop_tr2 {α : Type} {F : St → Option (St ⊕ (Ex × St))} (mk : α → St) (I : α → Prop) (m : α → Nat) (r : Ex × St) (t : α → Tr (St ⊕ (Ex × St))) (hF : ∀ a x, (t a).get = some x → F (mk a) = some x)
    (h : ∀ a, I a → (t a).all fun x => x = .inr r ∨ (∃ a', x = .inl (mk a') ∧ I a' ∧ m a' < m a) ∨ ∃ st', x = .inl st' ∧ loopF F st' = some r) : ∀ a, I a → loopF F (mk a) = some r := by
  have key : ∀ (n : Nat) (a : α), m a = n → I a → loopF F (mk a) = some r := by
    intro n
    induction n using Nat.strongRecOn with
    | _ n ih =>
      intro a hn ha
      obtain ⟨x, h1, h2⟩ := Tr.all_get (h a ha)
      rcases h2 with rfl | ⟨a', rfl, ha', hlt⟩ | ⟨st', rfl, h3⟩
      · exact loopF_inr (hF a _ h1)
      · rw [loopF_inl (hF a _ h1)]
        exact ih (m a') (by omega) a' rfl ha'
      · rw [loopF_inl (hF a _ h1)]
        exact h3
  exact fun a ha => key _ a rfl ha
def tkC (s : List UInt8) (b : List Int) : Bool := bigS s && (bytesOk b && Nat.ble b.length 255)
def tkI (s : List UInt8) (a0 f0 h0 : Int) (b0 : List Int) (at_ from_ behind : Int) (b : List Int) : Prop := bytesOk b = true ∧ b.length ≤ 255 ∧ takeG s at_ from_ behind (intBytes b) = takeG s a0 f0 h0 (intBytes b0)
noncomputable def b27u : Code := (nthLoop c27 0)
def ls27u : LoopSpec := { bid := 0, sh := [.d .str false, .d (.int .i64) false, .ptr 0 0, .d (.int .i64) false, .d (.int .i64) false], so := [.tbox 88 [.ptr 0 0, .row 1], .row (.int .u8)], F := fun (s, at_, from_, behind, _) (_, b, _) => .on (tkC s b) (.ret, [.str (tkS (takeG s at_ from_ behind (intBytes b))), .int .i64 (tkN (takeG s at_ from_ behind (intBytes b))), .int .i64 (tkE (takeG s at_ from_ behind (intBytes b)))], []) }
def r27u (s : List UInt8) (at_ : Int) (from_ : Int) (behind : Int) (b : List Int) : Tr (St ⊕ (Ex × St)) := Tr.br (bigS s) (Tr.br (someB s at_ (1 : Int)) (Tr.br (decide ((↑(UInt8.toNat (List.getD s (Int.toNat at_) 0)) : Int) > (63 : Int))) (Tr.br (decide ((↑(UInt8.toNat (List.getD s (Int.toNat at_) 0)) : Int) < (192 : Int))) (Tr.ret (Sum.inr (Ex.ret, stOf [4, 5, 6] [AV.str [], AV.int IntKind.i64 (0 : Int), AV.int IntKind.i64 (2 : Int)] []))) (Tr.br (decide ((↑(UInt8.toNat (List.getD s (Int.toNat at_) 0)) : Int) ≥ (192 : Int))) (Tr.br (bigS s) (Tr.br (someB s at_ (2 : Int)) (Tr.br (decide (IntKind.wrap IntKind.i64 (↑(BitVec.toNat (BitVec.ofInt (IntKind.bits IntKind.i64) (IntKind.wrap IntKind.i64 (n16 s at_)) &&& ~~~BitVec.ofInt (IntKind.bits IntKind.i64) (49152 : Int))) : Int) < from_)) (Tr.br (decide (behind < (0 : Int))) (Tr.ret (Sum.inl (stOf [0, 1, 7, 8, 9] [AV.str s, AV.int IntKind.i64 (IntKind.wrap IntKind.i64 (↑(BitVec.toNat (BitVec.ofInt (IntKind.bits IntKind.i64) (IntKind.wrap IntKind.i64 (n16 s at_)) &&& ~~~BitVec.ofInt (IntKind.bits IntKind.i64) (49152 : Int))) : Int)), AV.ptr 0 0, AV.int IntKind.i64 (IntKind.wrap IntKind.i64 (↑(BitVec.toNat (BitVec.ofInt (IntKind.bits IntKind.i64) (IntKind.wrap IntKind.i64 (n16 s at_)) &&& ~~~BitVec.ofInt (IntKind.bits IntKind.i64) (49152 : Int))) : Int)), AV.int IntKind.i64 (at_ + (2 : Ty.den (Ty.int IntKind.i64)))] [LObj.boxT (some 88) [AV.ptr 0 0, AV.rowA 1], LObj.row (Ty.int IntKind.u8) b]))) (Tr.ret (Sum.inl (stOf [0, 1, 7, 8, 9] [AV.str s, AV.int IntKind.i64 (IntKind.wrap IntKind.i64 (↑(BitVec.toNat (BitVec.ofInt (IntKind.bits IntKind.i64) (IntKind.wrap IntKind.i64 (n16 s at_)) &&& ~~~BitVec.ofInt (IntKind.bits IntKind.i64) (49152 : Int))) : Int)), AV.ptr 0 0, AV.int IntKind.i64 (IntKind.wrap IntKind.i64 (↑(BitVec.toNat (BitVec.ofInt (IntKind.bits IntKind.i64) (IntKind.wrap IntKind.i64 (n16 s at_)) &&& ~~~BitVec.ofInt (IntKind.bits IntKind.i64) (49152 : Int))) : Int)), AV.int IntKind.i64 behind] [LObj.boxT (some 88) [AV.ptr 0 0, AV.rowA 1], LObj.row (Ty.int IntKind.u8) b])))) (Tr.ret (Sum.inr (Ex.ret, stOf [4, 5, 6] [AV.str [], AV.int IntKind.i64 (0 : Int), AV.int IntKind.i64 (2 : Int)] [])))) (Tr.ret (Sum.inr (Ex.ret, stOf [4, 5, 6] [AV.str [], AV.int IntKind.i64 (0 : Int), AV.int IntKind.i64 (2 : Int)] [])))) Tr.no) (Tr.br (bigS s) (Tr.br (someB s (at_ + (1 : Ty.den (Ty.int IntKind.i64))) (IntKind.wrap IntKind.i64 (↑(UInt8.toNat (List.getD s (Int.toNat at_) 0)) : Int))) (Tr.br (decide (IntKind.wrap IntKind.i64 (IntKind.wrap IntKind.i64 ((↑(List.length b) : Int) + (1 : Int)) + (↑(List.length (someV s (at_ + (1 : Ty.den (Ty.int IntKind.i64))) (IntKind.wrap IntKind.i64 (↑(UInt8.toNat (List.getD s (Int.toNat at_) 0)) : Int)))) : Int)) > (255 : Int))) (Tr.ret (Sum.inr (Ex.ret, stOf [4, 5, 6] [AV.str [], AV.int IntKind.i64 (0 : Int), AV.int IntKind.i64 (2 : Int)] []))) (Tr.br (fits (List.length b + 1) 1) (Tr.br (bigS (someV s (at_ + (1 : Ty.den (Ty.int IntKind.i64))) (IntKind.wrap IntKind.i64 (↑(UInt8.toNat (List.getD s (Int.toNat at_) 0)) : Int)))) (Tr.br (fits (List.length (b ++ [(↑(UInt8.toNat (List.getD s (Int.toNat at_) 0)) : Int)]) + List.length (bytesInt (foldB (someV s (at_ + (1 : Ty.den (Ty.int IntKind.i64))) (IntKind.wrap IntKind.i64 (↑(UInt8.toNat (List.getD s (Int.toNat at_) 0)) : Int)))))) 1) (Tr.br (decide ((↑(UInt8.toNat (List.getD s (Int.toNat at_) 0)) : Int) > (0 : Int))) (Tr.ret (Sum.inl (stOf [0, 1, 7, 8, 9] [AV.str s, AV.int IntKind.i64 (at_ + (1 : Ty.den (Ty.int IntKind.i64)) + IntKind.wrap IntKind.i64 (↑(UInt8.toNat (List.getD s (Int.toNat at_) 0)) : Int)), AV.ptr 0 0, AV.int IntKind.i64 from_, AV.int IntKind.i64 behind] [LObj.boxT (some 88) [AV.ptr 0 0, AV.rowA 1], LObj.row (Ty.int IntKind.u8) (b ++ [(↑(UInt8.toNat (List.getD s (Int.toNat at_) 0)) : Int)] ++ bytesInt (foldB (someV s (at_ + (1 : Ty.den (Ty.int IntKind.i64))) (IntKind.wrap IntKind.i64 (↑(UInt8.toNat (List.getD s (Int.toNat at_) 0)) : Int)))))]))) (Tr.br (decide (behind < (0 : Int))) (Tr.br (bytesOk (b ++ [(↑(UInt8.toNat (List.getD s (Int.toNat at_) 0)) : Int)] ++ bytesInt (foldB (someV s (at_ + (1 : Ty.den (Ty.int IntKind.i64))) (IntKind.wrap IntKind.i64 (↑(UInt8.toNat (List.getD s (Int.toNat at_) 0)) : Int))))) && (!List.isEmpty (b ++ [(↑(UInt8.toNat (List.getD s (Int.toNat at_) 0)) : Int)] ++ bytesInt (foldB (someV s (at_ + (1 : Ty.den (Ty.int IntKind.i64))) (IntKind.wrap IntKind.i64 (↑(UInt8.toNat (List.getD s (Int.toNat at_) 0)) : Int))))) && Nat.ble (List.length (b ++ [(↑(UInt8.toNat (List.getD s (Int.toNat at_) 0)) : Int)] ++ bytesInt (foldB (someV s (at_ + (1 : Ty.den (Ty.int IntKind.i64))) (IntKind.wrap IntKind.i64 (↑(UInt8.toNat (List.getD s (Int.toNat at_) 0)) : Int)))))) 9223372036854775807)) (Tr.ret (Sum.inr (Ex.ret, stOf [4, 5, 6] [AV.str (intBytes (b ++ [(↑(UInt8.toNat (List.getD s (Int.toNat at_) 0)) : Int)] ++ bytesInt (foldB (someV s (at_ + (1 : Ty.den (Ty.int IntKind.i64))) (IntKind.wrap IntKind.i64 (↑(UInt8.toNat (List.getD s (Int.toNat at_) 0)) : Int)))))), AV.int IntKind.i64 (at_ + (1 : Ty.den (Ty.int IntKind.i64)) + IntKind.wrap IntKind.i64 (↑(UInt8.toNat (List.getD s (Int.toNat at_) 0)) : Int)), AV.int IntKind.i64 (0 : Int)] []))) Tr.no) (Tr.br (bytesOk (b ++ [(↑(UInt8.toNat (List.getD s (Int.toNat at_) 0)) : Int)] ++ bytesInt (foldB (someV s (at_ + (1 : Ty.den (Ty.int IntKind.i64))) (IntKind.wrap IntKind.i64 (↑(UInt8.toNat (List.getD s (Int.toNat at_) 0)) : Int))))) && (!List.isEmpty (b ++ [(↑(UInt8.toNat (List.getD s (Int.toNat at_) 0)) : Int)] ++ bytesInt (foldB (someV s (at_ + (1 : Ty.den (Ty.int IntKind.i64))) (IntKind.wrap IntKind.i64 (↑(UInt8.toNat (List.getD s (Int.toNat at_) 0)) : Int))))) && Nat.ble (List.length (b ++ [(↑(UInt8.toNat (List.getD s (Int.toNat at_) 0)) : Int)] ++ bytesInt (foldB (someV s (at_ + (1 : Ty.den (Ty.int IntKind.i64))) (IntKind.wrap IntKind.i64 (↑(UInt8.toNat (List.getD s (Int.toNat at_) 0)) : Int)))))) 9223372036854775807)) (Tr.ret (Sum.inr (Ex.ret, stOf [4, 5, 6] [AV.str (intBytes (b ++ [(↑(UInt8.toNat (List.getD s (Int.toNat at_) 0)) : Int)] ++ bytesInt (foldB (someV s (at_ + (1 : Ty.den (Ty.int IntKind.i64))) (IntKind.wrap IntKind.i64 (↑(UInt8.toNat (List.getD s (Int.toNat at_) 0)) : Int)))))), AV.int IntKind.i64 behind, AV.int IntKind.i64 (0 : Int)] []))) Tr.no))) Tr.no) Tr.no) Tr.no)) (Tr.ret (Sum.inr (Ex.ret, stOf [4, 5, 6] [AV.str [], AV.int IntKind.i64 (0 : Int), AV.int IntKind.i64 (2 : Int)] [])))) Tr.no))) (Tr.br (decide ((↑(UInt8.toNat (List.getD s (Int.toNat at_) 0)) : Int) ≥ (192 : Int))) (Tr.br (bigS s) (Tr.br (someB s at_ (2 : Int)) (Tr.br (decide (IntKind.wrap IntKind.i64 (↑(BitVec.toNat (BitVec.ofInt (IntKind.bits IntKind.i64) (IntKind.wrap IntKind.i64 (n16 s at_)) &&& ~~~BitVec.ofInt (IntKind.bits IntKind.i64) (49152 : Int))) : Int) < from_)) (Tr.br (decide (behind < (0 : Int))) (Tr.ret (Sum.inl (stOf [0, 1, 7, 8, 9] [AV.str s, AV.int IntKind.i64 (IntKind.wrap IntKind.i64 (↑(BitVec.toNat (BitVec.ofInt (IntKind.bits IntKind.i64) (IntKind.wrap IntKind.i64 (n16 s at_)) &&& ~~~BitVec.ofInt (IntKind.bits IntKind.i64) (49152 : Int))) : Int)), AV.ptr 0 0, AV.int IntKind.i64 (IntKind.wrap IntKind.i64 (↑(BitVec.toNat (BitVec.ofInt (IntKind.bits IntKind.i64) (IntKind.wrap IntKind.i64 (n16 s at_)) &&& ~~~BitVec.ofInt (IntKind.bits IntKind.i64) (49152 : Int))) : Int)), AV.int IntKind.i64 (at_ + (2 : Ty.den (Ty.int IntKind.i64)))] [LObj.boxT (some 88) [AV.ptr 0 0, AV.rowA 1], LObj.row (Ty.int IntKind.u8) b]))) (Tr.ret (Sum.inl (stOf [0, 1, 7, 8, 9] [AV.str s, AV.int IntKind.i64 (IntKind.wrap IntKind.i64 (↑(BitVec.toNat (BitVec.ofInt (IntKind.bits IntKind.i64) (IntKind.wrap IntKind.i64 (n16 s at_)) &&& ~~~BitVec.ofInt (IntKind.bits IntKind.i64) (49152 : Int))) : Int)), AV.ptr 0 0, AV.int IntKind.i64 (IntKind.wrap IntKind.i64 (↑(BitVec.toNat (BitVec.ofInt (IntKind.bits IntKind.i64) (IntKind.wrap IntKind.i64 (n16 s at_)) &&& ~~~BitVec.ofInt (IntKind.bits IntKind.i64) (49152 : Int))) : Int)), AV.int IntKind.i64 behind] [LObj.boxT (some 88) [AV.ptr 0 0, AV.rowA 1], LObj.row (Ty.int IntKind.u8) b])))) (Tr.ret (Sum.inr (Ex.ret, stOf [4, 5, 6] [AV.str [], AV.int IntKind.i64 (0 : Int), AV.int IntKind.i64 (2 : Int)] [])))) (Tr.ret (Sum.inr (Ex.ret, stOf [4, 5, 6] [AV.str [], AV.int IntKind.i64 (0 : Int), AV.int IntKind.i64 (2 : Int)] [])))) Tr.no) (Tr.br (bigS s) (Tr.br (someB s (at_ + (1 : Ty.den (Ty.int IntKind.i64))) (IntKind.wrap IntKind.i64 (↑(UInt8.toNat (List.getD s (Int.toNat at_) 0)) : Int))) (Tr.br (decide (IntKind.wrap IntKind.i64 (IntKind.wrap IntKind.i64 ((↑(List.length b) : Int) + (1 : Int)) + (↑(List.length (someV s (at_ + (1 : Ty.den (Ty.int IntKind.i64))) (IntKind.wrap IntKind.i64 (↑(UInt8.toNat (List.getD s (Int.toNat at_) 0)) : Int)))) : Int)) > (255 : Int))) (Tr.ret (Sum.inr (Ex.ret, stOf [4, 5, 6] [AV.str [], AV.int IntKind.i64 (0 : Int), AV.int IntKind.i64 (2 : Int)] []))) (Tr.br (fits (List.length b + 1) 1) (Tr.br (bigS (someV s (at_ + (1 : Ty.den (Ty.int IntKind.i64))) (IntKind.wrap IntKind.i64 (↑(UInt8.toNat (List.getD s (Int.toNat at_) 0)) : Int)))) (Tr.br (fits (List.length (b ++ [(↑(UInt8.toNat (List.getD s (Int.toNat at_) 0)) : Int)]) + List.length (bytesInt (foldB (someV s (at_ + (1 : Ty.den (Ty.int IntKind.i64))) (IntKind.wrap IntKind.i64 (↑(UInt8.toNat (List.getD s (Int.toNat at_) 0)) : Int)))))) 1) (Tr.br (decide ((↑(UInt8.toNat (List.getD s (Int.toNat at_) 0)) : Int) > (0 : Int))) (Tr.ret (Sum.inl (stOf [0, 1, 7, 8, 9] [AV.str s, AV.int IntKind.i64 (at_ + (1 : Ty.den (Ty.int IntKind.i64)) + IntKind.wrap IntKind.i64 (↑(UInt8.toNat (List.getD s (Int.toNat at_) 0)) : Int)), AV.ptr 0 0, AV.int IntKind.i64 from_, AV.int IntKind.i64 behind] [LObj.boxT (some 88) [AV.ptr 0 0, AV.rowA 1], LObj.row (Ty.int IntKind.u8) (b ++ [(↑(UInt8.toNat (List.getD s (Int.toNat at_) 0)) : Int)] ++ bytesInt (foldB (someV s (at_ + (1 : Ty.den (Ty.int IntKind.i64))) (IntKind.wrap IntKind.i64 (↑(UInt8.toNat (List.getD s (Int.toNat at_) 0)) : Int)))))]))) (Tr.br (decide (behind < (0 : Int))) (Tr.br (bytesOk (b ++ [(↑(UInt8.toNat (List.getD s (Int.toNat at_) 0)) : Int)] ++ bytesInt (foldB (someV s (at_ + (1 : Ty.den (Ty.int IntKind.i64))) (IntKind.wrap IntKind.i64 (↑(UInt8.toNat (List.getD s (Int.toNat at_) 0)) : Int))))) && (!List.isEmpty (b ++ [(↑(UInt8.toNat (List.getD s (Int.toNat at_) 0)) : Int)] ++ bytesInt (foldB (someV s (at_ + (1 : Ty.den (Ty.int IntKind.i64))) (IntKind.wrap IntKind.i64 (↑(UInt8.toNat (List.getD s (Int.toNat at_) 0)) : Int))))) && Nat.ble (List.length (b ++ [(↑(UInt8.toNat (List.getD s (Int.toNat at_) 0)) : Int)] ++ bytesInt (foldB (someV s (at_ + (1 : Ty.den (Ty.int IntKind.i64))) (IntKind.wrap IntKind.i64 (↑(UInt8.toNat (List.getD s (Int.toNat at_) 0)) : Int)))))) 9223372036854775807)) (Tr.ret (Sum.inr (Ex.ret, stOf [4, 5, 6] [AV.str (intBytes (b ++ [(↑(UInt8.toNat (List.getD s (Int.toNat at_) 0)) : Int)] ++ bytesInt (foldB (someV s (at_ + (1 : Ty.den (Ty.int IntKind.i64))) (IntKind.wrap IntKind.i64 (↑(UInt8.toNat (List.getD s (Int.toNat at_) 0)) : Int)))))), AV.int IntKind.i64 (at_ + (1 : Ty.den (Ty.int IntKind.i64)) + IntKind.wrap IntKind.i64 (↑(UInt8.toNat (List.getD s (Int.toNat at_) 0)) : Int)), AV.int IntKind.i64 (0 : Int)] []))) Tr.no) (Tr.br (bytesOk (b ++ [(↑(UInt8.toNat (List.getD s (Int.toNat at_) 0)) : Int)] ++ bytesInt (foldB (someV s (at_ + (1 : Ty.den (Ty.int IntKind.i64))) (IntKind.wrap IntKind.i64 (↑(UInt8.toNat (List.getD s (Int.toNat at_) 0)) : Int))))) && (!List.isEmpty (b ++ [(↑(UInt8.toNat (List.getD s (Int.toNat at_) 0)) : Int)] ++ bytesInt (foldB (someV s (at_ + (1 : Ty.den (Ty.int IntKind.i64))) (IntKind.wrap IntKind.i64 (↑(UInt8.toNat (List.getD s (Int.toNat at_) 0)) : Int))))) && Nat.ble (List.length (b ++ [(↑(UInt8.toNat (List.getD s (Int.toNat at_) 0)) : Int)] ++ bytesInt (foldB (someV s (at_ + (1 : Ty.den (Ty.int IntKind.i64))) (IntKind.wrap IntKind.i64 (↑(UInt8.toNat (List.getD s (Int.toNat at_) 0)) : Int)))))) 9223372036854775807)) (Tr.ret (Sum.inr (Ex.ret, stOf [4, 5, 6] [AV.str (intBytes (b ++ [(↑(UInt8.toNat (List.getD s (Int.toNat at_) 0)) : Int)] ++ bytesInt (foldB (someV s (at_ + (1 : Ty.den (Ty.int IntKind.i64))) (IntKind.wrap IntKind.i64 (↑(UInt8.toNat (List.getD s (Int.toNat at_) 0)) : Int)))))), AV.int IntKind.i64 behind, AV.int IntKind.i64 (0 : Int)] []))) Tr.no))) Tr.no) Tr.no) Tr.no)) (Tr.ret (Sum.inr (Ex.ret, stOf [4, 5, 6] [AV.str [], AV.int IntKind.i64 (0 : Int), AV.int IntKind.i64 (2 : Int)] [])))) Tr.no))) (Tr.ret (Sum.inr (Ex.ret, stOf [4, 5, 6] [AV.str [], AV.int IntKind.i64 (0 : Int), AV.int IntKind.i64 (2 : Int)] [])))) Tr.no
set_option maxRecDepth 1000000 in
theorem round27u (lp : Lp) (s : List UInt8) (at_ : Int) (from_ : Int) (behind : Int) (b : List Int) : evC T0 (orcB [fs46w, fs47w, fs48w, fs52w] [os49n, os49u, os50n, os50u, os51u, osStr]) lp b27u 0 (stOf [0, 1, 7, 8, 9] [.str s, .int .i64 at_, .ptr 0 0, .int .i64 from_, .int .i64 behind] [.boxT (some 88) [.ptr 0 0, .rowA 1], .row (.int .u8) b]) (roundK [0, 1, 7, 8, 9] [4, 5, 6] 0) = (r27u s at_ from_ behind b).get := by kernel_rfl
theorem wf27u (s : List UInt8) (I'' : Int → Int → Int → List Int → Prop) (m'' : Int → Int → Int → List Int → Nat) (r'' : Ex × St) (h : ∀ (at_ : Int) (from_ : Int) (behind : Int) (b : List Int), I'' at_ from_ behind b → (r27u s at_ from_ behind b).all fun x'' => x'' = .inr r'' ∨ ∃ (at_' : Int) (from_' : Int) (behind' : Int) (b' : List Int), x'' = .inl (stOf [0, 1, 7, 8, 9] [.str s, .int .i64 at_', .ptr 0 0, .int .i64 from_', .int .i64 behind'] [.boxT (some 88) [.ptr 0 0, .rowA 1], .row (.int .u8) b']) ∧ I'' at_' from_' behind' b' ∧ m'' at_' from_' behind' b' < m'' at_ from_ behind b) (lp : Lp) (at_ : Int) (from_ : Int) (behind : Int) (b : List Int) : I'' at_ from_ behind b →
    loopF (fun st => evC T0 (orcB [fs46w, fs47w, fs48w, fs52w] [os49n, os49u, os50n, os50u, os51u, osStr]) lp b27u 0 st (roundK [0, 1, 7, 8, 9] [4, 5, 6] 0)) (stOf [0, 1, 7, 8, 9] [.str s, .int .i64 at_, .ptr 0 0, .int .i64 from_, .int .i64 behind] [.boxT (some 88) [.ptr 0 0, .rowA 1], .row (.int .u8) b]) = some r'' :=
  loop_tr (fun a'' : Int × Int × Int × List Int => stOf [0, 1, 7, 8, 9] [.str s, .int .i64 a''.1, .ptr 0 0, .int .i64 a''.2.1, .int .i64 a''.2.2.1] [.boxT (some 88) [.ptr 0 0, .rowA 1], .row (.int .u8) a''.2.2.2]) (fun a'' => I'' a''.1 a''.2.1 a''.2.2.1 a''.2.2.2) (fun a'' => m'' a''.1 a''.2.1 a''.2.2.1 a''.2.2.2) r'' (fun a'' => r27u s a''.1 a''.2.1 a''.2.2.1 a''.2.2.2)
    (fun a'' x hx => (round27u lp s a''.1 a''.2.1 a''.2.2.1 a''.2.2.2).trans hx) (fun a'' ha => Tr.all_mono (fun x'' hx => hx.imp id fun ⟨at_', from_', behind', b', h1, h2, h3⟩ => ⟨(at_', from_', behind', b'), h1, h2, h3⟩) (h (a''.1) (a''.2.1) (a''.2.2.1) (a''.2.2.2) ha)) (at_, from_, behind, b)
theorem loop27u : ls27u.Ok T0 (orcB [fs46w, fs47w, fs48w, fs52w] [os49n, os49u, os50n, os50u, os51u, osStr]) h27 0 0 b27u := by
  intro q'' hq'' x'' y'' r'' h
  obtain ⟨(s : List UInt8), (at_ : Int), (from_ : Int), (behind : Int), _⟩ := x''
  obtain ⟨_, (b : List Int), _⟩ := y''
  obtain ⟨hc, rfl⟩ := Tr.get_on h
  show loopF (fun st => evC T0 (orcB [fs46w, fs47w, fs48w, fs52w] [os49n, os49u, os50n, os50u, os51u, osStr]) (lpN T0 (orcB [fs46w, fs47w, fs48w, fs52w] [os49n, os49u, os50n, os50u, os51u, osStr]) h27 0 q'') b27u 0 st (roundK [0, 1, 7, 8, 9] [4, 5, 6] 0)) (stOf [0, 1, 7, 8, 9] [.str s, .int .i64 at_, .ptr 0 0, .int .i64 from_, .int .i64 behind] [.boxT (some 88) [.ptr 0 0, .rowA 1], .row (.int .u8) b]) = some (.ret, stOf [4, 5, 6] ([.str (tkS (takeG s at_ from_ behind (intBytes b))), .int .i64 (tkN (takeG s at_ from_ behind (intBytes b))), .int .i64 (tkE (takeG s at_ from_ behind (intBytes b)))]) ([]))
  simp only [tkC, Bool.and_eq_true] at hc
  obtain ⟨hbig, hok, hb⟩ := hc
  have hb := Nat.le_of_ble_eq_true hb
  refine wf27u s (tkI s at_ from_ behind b) (fun at_ from_ _ _ => msT s at_ from_) _ ?_ _ at_ from_ behind b ⟨hok, hb, rfl⟩
  clear hok hb
  rintro at_ from_ behind b ⟨hok, hb, he⟩
  rw [← he]
  unfold r27u
  have hB : s.length ≤ 1000000000000 := by simpa [bigS] using hbig
  have hc : (↑(UInt8.toNat (List.getD s (Int.toNat at_) 0)) : Int) = (szT s at_ : Int) := rfl
  have hc255 := szT_lt s at_
  have hto := toT_in s at_
  simp only [and_far (n16_in s at_).1 (n16_in s at_).2, hc]
  simp only [show n16 s at_ % 16384 = toT s at_ from rfl, IntWalk.i64_in ((szT s at_ : Nat) : Int) (by omega)]
  cases h1 : someB s at_ 1 with
  | false =>
    rw [takeG_out h1]
    exact Tr.all_t hbig (Tr.all_f rfl (Tr.all_ret (.inl rfl)))
  | true =>
    have hs1 := someB_iff.1 h1
    refine Tr.all_t hbig (Tr.all_t rfl ?_)
    by_cases h192 : 192 ≤ szT s at_
    · refine Tr.all_t (dec_true (by omega)) (Tr.all_f (dec_false (by omega)) (Tr.all_t (dec_true (by omega)) (Tr.all_t hbig ?_)))
      by_cases h3 : someB s at_ 2 = true ∧ toT s at_ < from_
      · rw [takeG_ptr h1 h192 h3.1 h3.2] at he ⊢
        refine Tr.all_t h3.1 (Tr.all_t (dec_true h3.2) (Tr.all_br (fun c1 => ?_) fun c1 => ?_))
        · simp only [decide_eq_true_eq] at c1
          rw [if_pos c1] at he
          exact Tr.all_ret (.inr ⟨_, _, _, _, rfl, ⟨hok, hb, he⟩, msT_to hto.1 h3.2⟩)
        · simp only [decide_eq_false_iff_not] at c1
          rw [if_neg c1] at he
          exact Tr.all_ret (.inr ⟨_, _, _, _, rfl, ⟨hok, hb, he⟩, msT_to hto.1 h3.2⟩)
      · rw [takeG_bad h1 h192 h3]
        cases h2 : someB s at_ 2 with
        | false => exact Tr.all_f rfl (Tr.all_ret (.inl rfl))
        | true => exact Tr.all_t rfl (Tr.all_f (dec_false (fun h => h3 ⟨h2, h⟩)) (Tr.all_ret (.inl rfl)))
    · by_cases h63 : 63 < szT s at_
      · rw [takeG_mid h1 h192 h63]
        exact Tr.all_t (dec_true (by omega)) (Tr.all_t (dec_true (by omega)) (Tr.all_ret (.inl rfl)))
      · refine Tr.all_f (dec_false (by omega)) (Tr.all_f (dec_false (by omega)) (Tr.all_t hbig ?_))
        cases h4 : someB s (at_ + 1) (szT s at_) with
        | false =>
          rw [takeG_long h1 (by omega) (by rw [h4]; simp)]
          exact Tr.all_f rfl (Tr.all_ret (.inl rfl))
        | true =>
          have hs4 := someB_iff.1 h4
          have hvl : (someV s (at_ + 1) (szT s at_ : Int)).length = szT s at_ := by rw [someV_len h4]; omega
          have hvb : bigS (someV s (at_ + 1) (szT s at_ : Int)) = true := by simp [bigS, hvl]; omega
          rw [hvl]
          rw [IntWalk.i64_in ((List.length b : Int) + 1) (by omega), IntWalk.i64_in _ (by omega)]
          refine Tr.all_t rfl ?_
          by_cases h5 : b.length + 1 + szT s at_ ≤ 255
          · have hnew : bytesOk (b ++ [((szT s at_ : Nat) : Int)] ++ bytesInt (foldB (someV s (at_ + 1) (szT s at_ : Int)))) = true := by
              refine bytesOk_app (bytesOk_app hok ?_) (bytesInt_ok _)
              simp [bytesOk]
              omega
            have hnl : (b ++ [((szT s at_ : Nat) : Int)] ++ bytesInt (foldB (someV s (at_ + 1) (szT s at_ : Int)))).length = b.length + 1 + szT s at_ := by
              simp [bytesInt_len, foldB_len, hvl]
              omega
            have hS2 : intBytes (b ++ [((szT s at_ : Nat) : Int)] ++ bytesInt (foldB (someV s (at_ + 1) (szT s at_ : Int)))) = intBytes b ++ s.getD at_.toNat 0 :: foldB (someV s (at_ + 1) (szT s at_ : Int)) := by
              rw [intB_app, intB_app, intB_bytes]
              have : intBytes [((szT s at_ : Nat) : Int)] = [s.getD at_.toNat 0] := by simp [intBytes, szT]
              rw [this]
              simp
            refine Tr.all_f (dec_false (by omega)) (Tr.all_t (fits_true (by omega) (by omega)) (Tr.all_t hvb (Tr.all_t (fits_true (by simp [bytesInt_len, foldB_len, hvl]; omega) (by simp [bytesInt_len, foldB_len, hvl]; omega)) ?_)))
            by_cases h0 : szT s at_ = 0
            · rw [takeG_end h1 h0 (by rw [intB_len]; omega)]
              have hv0 : someV s (at_ + 1) (szT s at_ : Int) = [] := List.length_eq_zero_iff.1 (by rw [hvl]; exact h0)
              have hg0 : s.getD at_.toNat 0 = 0 := by
                have : (s.getD at_.toNat 0).toNat = 0 := h0
                exact UInt8.toNat_inj.1 (by simpa using this)
              have hend : (bytesOk (b ++ [((szT s at_ : Nat) : Int)] ++ bytesInt (foldB (someV s (at_ + 1) (szT s at_ : Int)))) && (!List.isEmpty (b ++ [((szT s at_ : Nat) : Int)] ++ bytesInt (foldB (someV s (at_ + 1) (szT s at_ : Int)))) && Nat.ble (List.length (b ++ [((szT s at_ : Nat) : Int)] ++ bytesInt (foldB (someV s (at_ + 1) (szT s at_ : Int))))) 9223372036854775807)) = true := by
                rw [hnew, Nat.ble_eq_true_of_le (by omega)]
                simp
              refine Tr.all_f (dec_false (by omega)) (Tr.all_br (fun c1 => Tr.all_t hend (Tr.all_ret (.inl ?_))) fun c1 => Tr.all_t hend (Tr.all_ret (.inl ?_)))
              · simp only [decide_eq_true_eq] at c1
                rw [if_pos c1, hS2, hv0, hg0, h0]
                simp [foldB]
                rfl
              · simp only [decide_eq_false_iff_not] at c1
                rw [if_neg c1, hS2, hv0, hg0]
                rfl
            · have hG := takeG_on (s := s) (at_ := at_) (from_ := from_) (behind := behind) (out := intBytes b) h1 (by omega) h0 h4 (by rw [intB_len]; omega)
              rw [← hS2] at hG
              rw [hG] at he ⊢
              refine Tr.all_t (dec_true (by omega)) (Tr.all_ret ?_)
              exact .inr ⟨_, _, _, _, rfl, ⟨hnew, by omega, he⟩, msT_on hs1.1 hs4.2.2⟩
          · rw [takeG_long h1 (by omega) (by rw [intB_len]; exact fun h => h5 h.2)]
            exact Tr.all_t (dec_true (by omega)) (Tr.all_ret (.inl rfl))
noncomputable def b27n : Code := (nthLoop c27 0)
def ls27n : LoopSpec := { bid := 0, sh := [.d .str false, .d (.int .i64) false, .ptr 0 0, .d (.int .i64) false, .d (.int .i64) false], so := [.tbox 88 [.np, .row 1], .row (.int .u8)], F := fun (s, at_, from_, behind, _) (_, b, _) => .on (tkC s b) (.ret, [.str (tkS (takeG s at_ from_ behind (intBytes b))), .int .i64 (tkN (takeG s at_ from_ behind (intBytes b))), .int .i64 (tkE (takeG s at_ from_ behind (intBytes b)))], []) }
def r27n (s : List UInt8) (at_ : Int) (from_ : Int) (behind : Int) (b : List Int) : Tr (St ⊕ (Ex × St)) := Tr.br (bigS s) (Tr.br (someB s at_ (1 : Int)) (Tr.br (decide ((↑(UInt8.toNat (List.getD s (Int.toNat at_) 0)) : Int) > (63 : Int))) (Tr.br (decide ((↑(UInt8.toNat (List.getD s (Int.toNat at_) 0)) : Int) < (192 : Int))) (Tr.ret (Sum.inr (Ex.ret, stOf [4, 5, 6] [AV.str [], AV.int IntKind.i64 (0 : Int), AV.int IntKind.i64 (2 : Int)] []))) (Tr.br (decide ((↑(UInt8.toNat (List.getD s (Int.toNat at_) 0)) : Int) ≥ (192 : Int))) (Tr.br (bigS s) (Tr.br (someB s at_ (2 : Int)) (Tr.br (decide (IntKind.wrap IntKind.i64 (↑(BitVec.toNat (BitVec.ofInt (IntKind.bits IntKind.i64) (IntKind.wrap IntKind.i64 (n16 s at_)) &&& ~~~BitVec.ofInt (IntKind.bits IntKind.i64) (49152 : Int))) : Int) < from_)) (Tr.br (decide (behind < (0 : Int))) (Tr.ret (Sum.inl (stOf [0, 1, 7, 8, 9] [AV.str s, AV.int IntKind.i64 (IntKind.wrap IntKind.i64 (↑(BitVec.toNat (BitVec.ofInt (IntKind.bits IntKind.i64) (IntKind.wrap IntKind.i64 (n16 s at_)) &&& ~~~BitVec.ofInt (IntKind.bits IntKind.i64) (49152 : Int))) : Int)), AV.ptr 0 0, AV.int IntKind.i64 (IntKind.wrap IntKind.i64 (↑(BitVec.toNat (BitVec.ofInt (IntKind.bits IntKind.i64) (IntKind.wrap IntKind.i64 (n16 s at_)) &&& ~~~BitVec.ofInt (IntKind.bits IntKind.i64) (49152 : Int))) : Int)), AV.int IntKind.i64 (at_ + (2 : Ty.den (Ty.int IntKind.i64)))] [LObj.boxT (some 88) [AV.np, AV.rowA 1], LObj.row (Ty.int IntKind.u8) b]))) (Tr.ret (Sum.inl (stOf [0, 1, 7, 8, 9] [AV.str s, AV.int IntKind.i64 (IntKind.wrap IntKind.i64 (↑(BitVec.toNat (BitVec.ofInt (IntKind.bits IntKind.i64) (IntKind.wrap IntKind.i64 (n16 s at_)) &&& ~~~BitVec.ofInt (IntKind.bits IntKind.i64) (49152 : Int))) : Int)), AV.ptr 0 0, AV.int IntKind.i64 (IntKind.wrap IntKind.i64 (↑(BitVec.toNat (BitVec.ofInt (IntKind.bits IntKind.i64) (IntKind.wrap IntKind.i64 (n16 s at_)) &&& ~~~BitVec.ofInt (IntKind.bits IntKind.i64) (49152 : Int))) : Int)), AV.int IntKind.i64 behind] [LObj.boxT (some 88) [AV.np, AV.rowA 1], LObj.row (Ty.int IntKind.u8) b])))) (Tr.ret (Sum.inr (Ex.ret, stOf [4, 5, 6] [AV.str [], AV.int IntKind.i64 (0 : Int), AV.int IntKind.i64 (2 : Int)] [])))) (Tr.ret (Sum.inr (Ex.ret, stOf [4, 5, 6] [AV.str [], AV.int IntKind.i64 (0 : Int), AV.int IntKind.i64 (2 : Int)] [])))) Tr.no) (Tr.br (bigS s) (Tr.br (someB s (at_ + (1 : Ty.den (Ty.int IntKind.i64))) (IntKind.wrap IntKind.i64 (↑(UInt8.toNat (List.getD s (Int.toNat at_) 0)) : Int))) (Tr.br (decide (IntKind.wrap IntKind.i64 (IntKind.wrap IntKind.i64 ((↑(List.length b) : Int) + (1 : Int)) + (↑(List.length (someV s (at_ + (1 : Ty.den (Ty.int IntKind.i64))) (IntKind.wrap IntKind.i64 (↑(UInt8.toNat (List.getD s (Int.toNat at_) 0)) : Int)))) : Int)) > (255 : Int))) (Tr.ret (Sum.inr (Ex.ret, stOf [4, 5, 6] [AV.str [], AV.int IntKind.i64 (0 : Int), AV.int IntKind.i64 (2 : Int)] []))) (Tr.br (fits (List.length b + 1) 1) (Tr.br (bigS (someV s (at_ + (1 : Ty.den (Ty.int IntKind.i64))) (IntKind.wrap IntKind.i64 (↑(UInt8.toNat (List.getD s (Int.toNat at_) 0)) : Int)))) (Tr.br (fits (List.length (b ++ [(↑(UInt8.toNat (List.getD s (Int.toNat at_) 0)) : Int)]) + List.length (bytesInt (foldB (someV s (at_ + (1 : Ty.den (Ty.int IntKind.i64))) (IntKind.wrap IntKind.i64 (↑(UInt8.toNat (List.getD s (Int.toNat at_) 0)) : Int)))))) 1) (Tr.br (decide ((↑(UInt8.toNat (List.getD s (Int.toNat at_) 0)) : Int) > (0 : Int))) (Tr.ret (Sum.inl (stOf [0, 1, 7, 8, 9] [AV.str s, AV.int IntKind.i64 (at_ + (1 : Ty.den (Ty.int IntKind.i64)) + IntKind.wrap IntKind.i64 (↑(UInt8.toNat (List.getD s (Int.toNat at_) 0)) : Int)), AV.ptr 0 0, AV.int IntKind.i64 from_, AV.int IntKind.i64 behind] [LObj.boxT (some 88) [AV.ptr 0 0, AV.rowA 1], LObj.row (Ty.int IntKind.u8) (b ++ [(↑(UInt8.toNat (List.getD s (Int.toNat at_) 0)) : Int)] ++ bytesInt (foldB (someV s (at_ + (1 : Ty.den (Ty.int IntKind.i64))) (IntKind.wrap IntKind.i64 (↑(UInt8.toNat (List.getD s (Int.toNat at_) 0)) : Int)))))]))) (Tr.br (decide (behind < (0 : Int))) (Tr.br (bytesOk (b ++ [(↑(UInt8.toNat (List.getD s (Int.toNat at_) 0)) : Int)] ++ bytesInt (foldB (someV s (at_ + (1 : Ty.den (Ty.int IntKind.i64))) (IntKind.wrap IntKind.i64 (↑(UInt8.toNat (List.getD s (Int.toNat at_) 0)) : Int))))) && (!List.isEmpty (b ++ [(↑(UInt8.toNat (List.getD s (Int.toNat at_) 0)) : Int)] ++ bytesInt (foldB (someV s (at_ + (1 : Ty.den (Ty.int IntKind.i64))) (IntKind.wrap IntKind.i64 (↑(UInt8.toNat (List.getD s (Int.toNat at_) 0)) : Int))))) && Nat.ble (List.length (b ++ [(↑(UInt8.toNat (List.getD s (Int.toNat at_) 0)) : Int)] ++ bytesInt (foldB (someV s (at_ + (1 : Ty.den (Ty.int IntKind.i64))) (IntKind.wrap IntKind.i64 (↑(UInt8.toNat (List.getD s (Int.toNat at_) 0)) : Int)))))) 9223372036854775807)) (Tr.ret (Sum.inr (Ex.ret, stOf [4, 5, 6] [AV.str (intBytes (b ++ [(↑(UInt8.toNat (List.getD s (Int.toNat at_) 0)) : Int)] ++ bytesInt (foldB (someV s (at_ + (1 : Ty.den (Ty.int IntKind.i64))) (IntKind.wrap IntKind.i64 (↑(UInt8.toNat (List.getD s (Int.toNat at_) 0)) : Int)))))), AV.int IntKind.i64 (at_ + (1 : Ty.den (Ty.int IntKind.i64)) + IntKind.wrap IntKind.i64 (↑(UInt8.toNat (List.getD s (Int.toNat at_) 0)) : Int)), AV.int IntKind.i64 (0 : Int)] []))) Tr.no) (Tr.br (bytesOk (b ++ [(↑(UInt8.toNat (List.getD s (Int.toNat at_) 0)) : Int)] ++ bytesInt (foldB (someV s (at_ + (1 : Ty.den (Ty.int IntKind.i64))) (IntKind.wrap IntKind.i64 (↑(UInt8.toNat (List.getD s (Int.toNat at_) 0)) : Int))))) && (!List.isEmpty (b ++ [(↑(UInt8.toNat (List.getD s (Int.toNat at_) 0)) : Int)] ++ bytesInt (foldB (someV s (at_ + (1 : Ty.den (Ty.int IntKind.i64))) (IntKind.wrap IntKind.i64 (↑(UInt8.toNat (List.getD s (Int.toNat at_) 0)) : Int))))) && Nat.ble (List.length (b ++ [(↑(UInt8.toNat (List.getD s (Int.toNat at_) 0)) : Int)] ++ bytesInt (foldB (someV s (at_ + (1 : Ty.den (Ty.int IntKind.i64))) (IntKind.wrap IntKind.i64 (↑(UInt8.toNat (List.getD s (Int.toNat at_) 0)) : Int)))))) 9223372036854775807)) (Tr.ret (Sum.inr (Ex.ret, stOf [4, 5, 6] [AV.str (intBytes (b ++ [(↑(UInt8.toNat (List.getD s (Int.toNat at_) 0)) : Int)] ++ bytesInt (foldB (someV s (at_ + (1 : Ty.den (Ty.int IntKind.i64))) (IntKind.wrap IntKind.i64 (↑(UInt8.toNat (List.getD s (Int.toNat at_) 0)) : Int)))))), AV.int IntKind.i64 behind, AV.int IntKind.i64 (0 : Int)] []))) Tr.no))) Tr.no) Tr.no) Tr.no)) (Tr.ret (Sum.inr (Ex.ret, stOf [4, 5, 6] [AV.str [], AV.int IntKind.i64 (0 : Int), AV.int IntKind.i64 (2 : Int)] [])))) Tr.no))) (Tr.br (decide ((↑(UInt8.toNat (List.getD s (Int.toNat at_) 0)) : Int) ≥ (192 : Int))) (Tr.br (bigS s) (Tr.br (someB s at_ (2 : Int)) (Tr.br (decide (IntKind.wrap IntKind.i64 (↑(BitVec.toNat (BitVec.ofInt (IntKind.bits IntKind.i64) (IntKind.wrap IntKind.i64 (n16 s at_)) &&& ~~~BitVec.ofInt (IntKind.bits IntKind.i64) (49152 : Int))) : Int) < from_)) (Tr.br (decide (behind < (0 : Int))) (Tr.ret (Sum.inl (stOf [0, 1, 7, 8, 9] [AV.str s, AV.int IntKind.i64 (IntKind.wrap IntKind.i64 (↑(BitVec.toNat (BitVec.ofInt (IntKind.bits IntKind.i64) (IntKind.wrap IntKind.i64 (n16 s at_)) &&& ~~~BitVec.ofInt (IntKind.bits IntKind.i64) (49152 : Int))) : Int)), AV.ptr 0 0, AV.int IntKind.i64 (IntKind.wrap IntKind.i64 (↑(BitVec.toNat (BitVec.ofInt (IntKind.bits IntKind.i64) (IntKind.wrap IntKind.i64 (n16 s at_)) &&& ~~~BitVec.ofInt (IntKind.bits IntKind.i64) (49152 : Int))) : Int)), AV.int IntKind.i64 (at_ + (2 : Ty.den (Ty.int IntKind.i64)))] [LObj.boxT (some 88) [AV.np, AV.rowA 1], LObj.row (Ty.int IntKind.u8) b]))) (Tr.ret (Sum.inl (stOf [0, 1, 7, 8, 9] [AV.str s, AV.int IntKind.i64 (IntKind.wrap IntKind.i64 (↑(BitVec.toNat (BitVec.ofInt (IntKind.bits IntKind.i64) (IntKind.wrap IntKind.i64 (n16 s at_)) &&& ~~~BitVec.ofInt (IntKind.bits IntKind.i64) (49152 : Int))) : Int)), AV.ptr 0 0, AV.int IntKind.i64 (IntKind.wrap IntKind.i64 (↑(BitVec.toNat (BitVec.ofInt (IntKind.bits IntKind.i64) (IntKind.wrap IntKind.i64 (n16 s at_)) &&& ~~~BitVec.ofInt (IntKind.bits IntKind.i64) (49152 : Int))) : Int)), AV.int IntKind.i64 behind] [LObj.boxT (some 88) [AV.np, AV.rowA 1], LObj.row (Ty.int IntKind.u8) b])))) (Tr.ret (Sum.inr (Ex.ret, stOf [4, 5, 6] [AV.str [], AV.int IntKind.i64 (0 : Int), AV.int IntKind.i64 (2 : Int)] [])))) (Tr.ret (Sum.inr (Ex.ret, stOf [4, 5, 6] [AV.str [], AV.int IntKind.i64 (0 : Int), AV.int IntKind.i64 (2 : Int)] [])))) Tr.no) (Tr.br (bigS s) (Tr.br (someB s (at_ + (1 : Ty.den (Ty.int IntKind.i64))) (IntKind.wrap IntKind.i64 (↑(UInt8.toNat (List.getD s (Int.toNat at_) 0)) : Int))) (Tr.br (decide (IntKind.wrap IntKind.i64 (IntKind.wrap IntKind.i64 ((↑(List.length b) : Int) + (1 : Int)) + (↑(List.length (someV s (at_ + (1 : Ty.den (Ty.int IntKind.i64))) (IntKind.wrap IntKind.i64 (↑(UInt8.toNat (List.getD s (Int.toNat at_) 0)) : Int)))) : Int)) > (255 : Int))) (Tr.ret (Sum.inr (Ex.ret, stOf [4, 5, 6] [AV.str [], AV.int IntKind.i64 (0 : Int), AV.int IntKind.i64 (2 : Int)] []))) (Tr.br (fits (List.length b + 1) 1) (Tr.br (bigS (someV s (at_ + (1 : Ty.den (Ty.int IntKind.i64))) (IntKind.wrap IntKind.i64 (↑(UInt8.toNat (List.getD s (Int.toNat at_) 0)) : Int)))) (Tr.br (fits (List.length (b ++ [(↑(UInt8.toNat (List.getD s (Int.toNat at_) 0)) : Int)]) + List.length (bytesInt (foldB (someV s (at_ + (1 : Ty.den (Ty.int IntKind.i64))) (IntKind.wrap IntKind.i64 (↑(UInt8.toNat (List.getD s (Int.toNat at_) 0)) : Int)))))) 1) (Tr.br (decide ((↑(UInt8.toNat (List.getD s (Int.toNat at_) 0)) : Int) > (0 : Int))) (Tr.ret (Sum.inl (stOf [0, 1, 7, 8, 9] [AV.str s, AV.int IntKind.i64 (at_ + (1 : Ty.den (Ty.int IntKind.i64)) + IntKind.wrap IntKind.i64 (↑(UInt8.toNat (List.getD s (Int.toNat at_) 0)) : Int)), AV.ptr 0 0, AV.int IntKind.i64 from_, AV.int IntKind.i64 behind] [LObj.boxT (some 88) [AV.ptr 0 0, AV.rowA 1], LObj.row (Ty.int IntKind.u8) (b ++ [(↑(UInt8.toNat (List.getD s (Int.toNat at_) 0)) : Int)] ++ bytesInt (foldB (someV s (at_ + (1 : Ty.den (Ty.int IntKind.i64))) (IntKind.wrap IntKind.i64 (↑(UInt8.toNat (List.getD s (Int.toNat at_) 0)) : Int)))))]))) (Tr.br (decide (behind < (0 : Int))) (Tr.br (bytesOk (b ++ [(↑(UInt8.toNat (List.getD s (Int.toNat at_) 0)) : Int)] ++ bytesInt (foldB (someV s (at_ + (1 : Ty.den (Ty.int IntKind.i64))) (IntKind.wrap IntKind.i64 (↑(UInt8.toNat (List.getD s (Int.toNat at_) 0)) : Int))))) && (!List.isEmpty (b ++ [(↑(UInt8.toNat (List.getD s (Int.toNat at_) 0)) : Int)] ++ bytesInt (foldB (someV s (at_ + (1 : Ty.den (Ty.int IntKind.i64))) (IntKind.wrap IntKind.i64 (↑(UInt8.toNat (List.getD s (Int.toNat at_) 0)) : Int))))) && Nat.ble (List.length (b ++ [(↑(UInt8.toNat (List.getD s (Int.toNat at_) 0)) : Int)] ++ bytesInt (foldB (someV s (at_ + (1 : Ty.den (Ty.int IntKind.i64))) (IntKind.wrap IntKind.i64 (↑(UInt8.toNat (List.getD s (Int.toNat at_) 0)) : Int)))))) 9223372036854775807)) (Tr.ret (Sum.inr (Ex.ret, stOf [4, 5, 6] [AV.str (intBytes (b ++ [(↑(UInt8.toNat (List.getD s (Int.toNat at_) 0)) : Int)] ++ bytesInt (foldB (someV s (at_ + (1 : Ty.den (Ty.int IntKind.i64))) (IntKind.wrap IntKind.i64 (↑(UInt8.toNat (List.getD s (Int.toNat at_) 0)) : Int)))))), AV.int IntKind.i64 (at_ + (1 : Ty.den (Ty.int IntKind.i64)) + IntKind.wrap IntKind.i64 (↑(UInt8.toNat (List.getD s (Int.toNat at_) 0)) : Int)), AV.int IntKind.i64 (0 : Int)] []))) Tr.no) (Tr.br (bytesOk (b ++ [(↑(UInt8.toNat (List.getD s (Int.toNat at_) 0)) : Int)] ++ bytesInt (foldB (someV s (at_ + (1 : Ty.den (Ty.int IntKind.i64))) (IntKind.wrap IntKind.i64 (↑(UInt8.toNat (List.getD s (Int.toNat at_) 0)) : Int))))) && (!List.isEmpty (b ++ [(↑(UInt8.toNat (List.getD s (Int.toNat at_) 0)) : Int)] ++ bytesInt (foldB (someV s (at_ + (1 : Ty.den (Ty.int IntKind.i64))) (IntKind.wrap IntKind.i64 (↑(UInt8.toNat (List.getD s (Int.toNat at_) 0)) : Int))))) && Nat.ble (List.length (b ++ [(↑(UInt8.toNat (List.getD s (Int.toNat at_) 0)) : Int)] ++ bytesInt (foldB (someV s (at_ + (1 : Ty.den (Ty.int IntKind.i64))) (IntKind.wrap IntKind.i64 (↑(UInt8.toNat (List.getD s (Int.toNat at_) 0)) : Int)))))) 9223372036854775807)) (Tr.ret (Sum.inr (Ex.ret, stOf [4, 5, 6] [AV.str (intBytes (b ++ [(↑(UInt8.toNat (List.getD s (Int.toNat at_) 0)) : Int)] ++ bytesInt (foldB (someV s (at_ + (1 : Ty.den (Ty.int IntKind.i64))) (IntKind.wrap IntKind.i64 (↑(UInt8.toNat (List.getD s (Int.toNat at_) 0)) : Int)))))), AV.int IntKind.i64 behind, AV.int IntKind.i64 (0 : Int)] []))) Tr.no))) Tr.no) Tr.no) Tr.no)) (Tr.ret (Sum.inr (Ex.ret, stOf [4, 5, 6] [AV.str [], AV.int IntKind.i64 (0 : Int), AV.int IntKind.i64 (2 : Int)] [])))) Tr.no))) (Tr.ret (Sum.inr (Ex.ret, stOf [4, 5, 6] [AV.str [], AV.int IntKind.i64 (0 : Int), AV.int IntKind.i64 (2 : Int)] [])))) Tr.no
set_option maxRecDepth 1000000 in
theorem round27n (lp : Lp) (s : List UInt8) (at_ : Int) (from_ : Int) (behind : Int) (b : List Int) : evC T0 (orcB [fs46w, fs47w, fs48w, fs52w] [os49n, os49u, os50n, os50u, os51u, osStr]) lp b27n 0 (stOf [0, 1, 7, 8, 9] [.str s, .int .i64 at_, .ptr 0 0, .int .i64 from_, .int .i64 behind] [.boxT (some 88) [.np, .rowA 1], .row (.int .u8) b]) (roundK [0, 1, 7, 8, 9] [4, 5, 6] 0) = (r27n s at_ from_ behind b).get := by kernel_rfl
theorem loop27n : ls27n.Ok T0 (orcB [fs46w, fs47w, fs48w, fs52w] [os49n, os49u, os50n, os50u, os51u, osStr]) h27 0 0 b27n := by
  intro q'' hq'' x'' y'' r'' h
  obtain ⟨(s : List UInt8), (at_ : Int), (from_ : Int), (behind : Int), _⟩ := x''
  obtain ⟨_, (b : List Int), _⟩ := y''
  obtain ⟨hc, rfl⟩ := Tr.get_on h
  show loopF (fun st => evC T0 (orcB [fs46w, fs47w, fs48w, fs52w] [os49n, os49u, os50n, os50u, os51u, osStr]) (lpN T0 (orcB [fs46w, fs47w, fs48w, fs52w] [os49n, os49u, os50n, os50u, os51u, osStr]) h27 0 q'') b27n 0 st (roundK [0, 1, 7, 8, 9] [4, 5, 6] 0)) (stOf [0, 1, 7, 8, 9] [.str s, .int .i64 at_, .ptr 0 0, .int .i64 from_, .int .i64 behind] [.boxT (some 88) [.np, .rowA 1], .row (.int .u8) b]) = some (.ret, stOf [4, 5, 6] ([.str (tkS (takeG s at_ from_ behind (intBytes b))), .int .i64 (tkN (takeG s at_ from_ behind (intBytes b))), .int .i64 (tkE (takeG s at_ from_ behind (intBytes b)))]) ([]))
  simp only [tkC, Bool.and_eq_true] at hc
  obtain ⟨hbig, hok, hb⟩ := hc
  have hb := Nat.le_of_ble_eq_true hb
  refine loop_tr2 (fun a : Int × Int × Int × List Int => stOf [0, 1, 7, 8, 9] [.str s, .int .i64 a.1, .ptr 0 0, .int .i64 a.2.1, .int .i64 a.2.2.1] [.boxT (some 88) [.np, .rowA 1], .row (.int .u8) a.2.2.2]) (fun a => tkI s at_ from_ behind b a.1 a.2.1 a.2.2.1 a.2.2.2) (fun a => msT s a.1 a.2.1) _
    (fun a => r27n s a.1 a.2.1 a.2.2.1 a.2.2.2) (fun a x hx => (round27n _ s a.1 a.2.1 a.2.2.1 a.2.2.2).trans hx) ?_ (at_, from_, behind, b) ⟨hok, hb, rfl⟩
  clear hok hb
  rintro ⟨at_, from_, behind, b⟩ ⟨hok, hb, he⟩
  simp only at hok hb he ⊢
  rw [← he]
  unfold r27n
  have hB : s.length ≤ 1000000000000 := by simpa [bigS] using hbig
  have hc : (↑(UInt8.toNat (List.getD s (Int.toNat at_) 0)) : Int) = (szT s at_ : Int) := rfl
  have hc255 := szT_lt s at_
  have hto := toT_in s at_
  simp only [and_far (n16_in s at_).1 (n16_in s at_).2, hc]
  simp only [show n16 s at_ % 16384 = toT s at_ from rfl, IntWalk.i64_in ((szT s at_ : Nat) : Int) (by omega)]
  cases h1 : someB s at_ 1 with
  | false =>
    rw [takeG_out h1]
    exact Tr.all_t hbig (Tr.all_f rfl (Tr.all_ret (.inl rfl)))
  | true =>
    have hs1 := someB_iff.1 h1
    refine Tr.all_t hbig (Tr.all_t rfl ?_)
    by_cases h192 : 192 ≤ szT s at_
    · refine Tr.all_t (dec_true (by omega)) (Tr.all_f (dec_false (by omega)) (Tr.all_t (dec_true (by omega)) (Tr.all_t hbig ?_)))
      by_cases h3 : someB s at_ 2 = true ∧ toT s at_ < from_
      · rw [takeG_ptr h1 h192 h3.1 h3.2] at he ⊢
        refine Tr.all_t h3.1 (Tr.all_t (dec_true h3.2) (Tr.all_br (fun c1 => ?_) fun c1 => ?_))
        · simp only [decide_eq_true_eq] at c1
          rw [if_pos c1] at he
          exact Tr.all_ret (.inr (.inl ⟨(_, _, _, _), rfl, ⟨hok, hb, he⟩, msT_to hto.1 h3.2⟩))
        · simp only [decide_eq_false_iff_not] at c1
          rw [if_neg c1] at he
          exact Tr.all_ret (.inr (.inl ⟨(_, _, _, _), rfl, ⟨hok, hb, he⟩, msT_to hto.1 h3.2⟩))
      · rw [takeG_bad h1 h192 h3]
        cases h2 : someB s at_ 2 with
        | false => exact Tr.all_f rfl (Tr.all_ret (.inl rfl))
        | true => exact Tr.all_t rfl (Tr.all_f (dec_false (fun h => h3 ⟨h2, h⟩)) (Tr.all_ret (.inl rfl)))
    · by_cases h63 : 63 < szT s at_
      · rw [takeG_mid h1 h192 h63]
        exact Tr.all_t (dec_true (by omega)) (Tr.all_t (dec_true (by omega)) (Tr.all_ret (.inl rfl)))
      · refine Tr.all_f (dec_false (by omega)) (Tr.all_f (dec_false (by omega)) (Tr.all_t hbig ?_))
        cases h4 : someB s (at_ + 1) (szT s at_) with
        | false =>
          rw [takeG_long h1 (by omega) (by rw [h4]; simp)]
          exact Tr.all_f rfl (Tr.all_ret (.inl rfl))
        | true =>
          have hs4 := someB_iff.1 h4
          have hvl : (someV s (at_ + 1) (szT s at_ : Int)).length = szT s at_ := by rw [someV_len h4]; omega
          have hvb : bigS (someV s (at_ + 1) (szT s at_ : Int)) = true := by simp [bigS, hvl]; omega
          rw [hvl]
          rw [IntWalk.i64_in ((List.length b : Int) + 1) (by omega), IntWalk.i64_in _ (by omega)]
          refine Tr.all_t rfl ?_
          by_cases h5 : b.length + 1 + szT s at_ ≤ 255
          · have hnew : bytesOk (b ++ [((szT s at_ : Nat) : Int)] ++ bytesInt (foldB (someV s (at_ + 1) (szT s at_ : Int)))) = true := by
              refine bytesOk_app (bytesOk_app hok ?_) (bytesInt_ok _)
              simp [bytesOk]
              omega
            have hnl : (b ++ [((szT s at_ : Nat) : Int)] ++ bytesInt (foldB (someV s (at_ + 1) (szT s at_ : Int)))).length = b.length + 1 + szT s at_ := by
              simp [bytesInt_len, foldB_len, hvl]
              omega
            have hS2 : intBytes (b ++ [((szT s at_ : Nat) : Int)] ++ bytesInt (foldB (someV s (at_ + 1) (szT s at_ : Int)))) = intBytes b ++ s.getD at_.toNat 0 :: foldB (someV s (at_ + 1) (szT s at_ : Int)) := by
              rw [intB_app, intB_app, intB_bytes]
              have : intBytes [((szT s at_ : Nat) : Int)] = [s.getD at_.toNat 0] := by simp [intBytes, szT]
              rw [this]
              simp
            refine Tr.all_f (dec_false (by omega)) (Tr.all_t (fits_true (by omega) (by omega)) (Tr.all_t hvb (Tr.all_t (fits_true (by simp [bytesInt_len, foldB_len, hvl]; omega) (by simp [bytesInt_len, foldB_len, hvl]; omega)) ?_)))
            by_cases h0 : szT s at_ = 0
            · rw [takeG_end h1 h0 (by rw [intB_len]; omega)]
              have hv0 : someV s (at_ + 1) (szT s at_ : Int) = [] := List.length_eq_zero_iff.1 (by rw [hvl]; exact h0)
              have hg0 : s.getD at_.toNat 0 = 0 := by
                have : (s.getD at_.toNat 0).toNat = 0 := h0
                exact UInt8.toNat_inj.1 (by simpa using this)
              have hend : (bytesOk (b ++ [((szT s at_ : Nat) : Int)] ++ bytesInt (foldB (someV s (at_ + 1) (szT s at_ : Int)))) && (!List.isEmpty (b ++ [((szT s at_ : Nat) : Int)] ++ bytesInt (foldB (someV s (at_ + 1) (szT s at_ : Int)))) && Nat.ble (List.length (b ++ [((szT s at_ : Nat) : Int)] ++ bytesInt (foldB (someV s (at_ + 1) (szT s at_ : Int))))) 9223372036854775807)) = true := by
                rw [hnew, Nat.ble_eq_true_of_le (by omega)]
                simp
              refine Tr.all_f (dec_false (by omega)) (Tr.all_br (fun c1 => Tr.all_t hend (Tr.all_ret (.inl ?_))) fun c1 => Tr.all_t hend (Tr.all_ret (.inl ?_)))
              · simp only [decide_eq_true_eq] at c1
                rw [if_pos c1, hS2, hv0, hg0, h0]
                simp [foldB]
                rfl
              · simp only [decide_eq_false_iff_not] at c1
                rw [if_neg c1, hS2, hv0, hg0]
                rfl
            · have hG := takeG_on (s := s) (at_ := at_) (from_ := from_) (behind := behind) (out := intBytes b) h1 (by omega) h0 h4 (by rw [intB_len]; omega)
              rw [← hS2] at hG
              rw [hG] at he ⊢
              refine Tr.all_t (dec_true (by omega)) (Tr.all_ret ?_)
              refine .inr (.inr ⟨_, rfl, ?_⟩)
              have := loop27u q'' (Nat.zero_le _) (s, at_ + 1 + szT s at_, from_, behind, ()) ((), b ++ [((szT s at_ : Nat) : Int)] ++ bytesInt (foldB (someV s (at_ + 1) (szT s at_ : Int))), ()) (.ret, resT (takeG s (at_ + 1 + szT s at_) from_ behind (intBytes (b ++ [((szT s at_ : Nat) : Int)] ++ bytesInt (foldB (someV s (at_ + 1) (szT s at_ : Int)))))), []) (by
                show (Tr.on (tkC s _) _).get = _
                rw [show tkC s (b ++ [((szT s at_ : Nat) : Int)] ++ bytesInt (foldB (someV s (at_ + 1) (szT s at_ : Int)))) = true by simp only [tkC, hbig, hnew, Bool.true_and]; exact Nat.ble_eq_true_of_le (by omega)]
                rfl)
              exact this
          · rw [takeG_long h1 (by omega) (by rw [intB_len]; exact fun h => h5 h.2)]
            exact Tr.all_t (dec_true (by omega)) (Tr.all_ret (.inl rfl))
/-- wire.Take -/
def t27 (s : List UInt8) (at_ : Int) : Tr Res := Tr.br (tkC s []) (Tr.ret ([AV.str (tkS (takeG s at_ at_ (-1 : Int) (intBytes []))), AV.int IntKind.i64 (tkN (takeG s at_ at_ (-1 : Int) (intBytes []))), AV.int IntKind.i64 (tkE (takeG s at_ at_ (-1 : Int) (intBytes [])))], [])) Tr.no
def os27 : OSpec := { f := 27, sh := [.d .str false, .d (.int .i64) false], so := [], F := fun (s, at_, _) _ => t27 s at_ }
set_option maxRecDepth 1000000 in
theorem fn27 (s : List UInt8) (at_ : Int) : evC T0 (orcB [fs46w, fs47w, fs48w, fs52w] [os49n, os49u, os50n, os50u, os51u, osStr]) (lpOf h27 0 (lsOf [ls27n])) c27 1000000 (startSt [.str s, .int .i64 at_] [] Try.f27.ntmps) (finishK T0 false 0 Try.f27) = (t27 s at_).get := by kernel_rfl
theorem ok27 : os27.Ok Try.prog := by
  refine os_ok mixed0 tab0 (orcB_sound (all_cons okf46w (all_cons okf47w (all_cons okf48w (all_cons okf52w all_nil)))) (all_cons ok49n (all_cons ok49u (all_cons ok50n (all_cons ok50u (all_cons ok51u (all_cons okStr all_nil))))))) h27 (d := 0) (n0 := 0) (S := lsOf [ls27n]) Try.func27 (by kernel_rfl) (c := c27) (by kernel_rfl) rfl (loops_eq (xs := [(0, b27n)]) (by kernel_rfl) (all_cons (ls_here loop27n) all_nil)) (by omega) (by kernel_rfl) ?_
  intro x'' y'' q'' hq''
  obtain ⟨(s : List UInt8), (at_ : Int), _⟩ := x''
  exact (fn27 s at_).trans hq''
def fs27 : FSpec := fsT 27 [(.str, false), ((.int .i64), false)] [(.str, false), ((.int .i64), false), ((.int .i64), false)] fun (s, at_, _) => t27 s at_
theorem okf27 : fs27.Ok Try.prog := fsT_ok fun x'' r'' hr'' => ok27 x'' () r'' hr''
def fs27w : FSpec := fs27.like fun (s, at_, _) => .on (bigS s) (tkS (takeG s at_ at_ (-1) []), tkN (takeG s at_ at_ (-1) []), tkE (takeG s at_ at_ (-1) []), ())
theorem okf27w : fs27w.Ok Try.prog := by
  refine flike_ok okf27 _ ?_
  rintro ⟨(s : List UInt8), (at_ : Int), _⟩ y h
  obtain ⟨hb, rfl⟩ := Tr.get_on h
  refine convR_of (vs := resT (takeG s at_ at_ (-1) [])) rfl rfl (Tr.get_of_all ?_)
  show (t27 s at_).all _
  exact Tr.all_t (by simp only [tkC, hb]; rfl) (Tr.all_ret rfl)
end Go.Proofs.YtfepkpindchleaaE

/- layer 3: the law's example. -/
namespace Go.Proofs.YtfepkpindchleaaE
open Go Go.Proofs.YtfepkpindchleaaB
set_option linter.unusedVariables false
set_option linter.unusedSimpArgs false
/-- derricklaw03.shown -/
def t20 : Tr Res := Tr.ret ([AV.bool (tkE (takeG (intBytes (bytesInt (Prod.fst (nameP ([2, 97, 98, 0]) (intBytes (bytesInt (Prod.fst (nameP ([3, 119, 119, 119, 2, 97, 98, 0]) (intBytes []) [])))) (Prod.snd (nameP ([3, 119, 119, 119, 2, 97, 98, 0]) (intBytes []) [])))))) (8 : Int) (8 : Int) (-1 : Int) []) == (0 : Int))], [])
def os20 : OSpec := { f := 20, sh := [], so := [], F := fun _ _ => t20 }
set_option maxRecDepth 1000000 in
theorem fn20 : evC T0 (orcB [fs27w] [os16, os24w, os19, os26]) (lpOf h20 0 (lsOf [])) c20 1000000 (startSt [] [] Try.f20.ntmps) (finishK T0 false 0 Try.f20) = (t20).get := by kernel_rfl
theorem ok20 : os20.Ok Try.prog := by
  refine os_ok mixed0 tab0 (orcB_sound (all_cons okf27w all_nil) (all_cons ok16 (all_cons ok24w (all_cons ok19 (all_cons ok26 all_nil))))) h20 (d := 0) (n0 := 0) (S := lsOf []) Try.func20 (by kernel_rfl) (c := c20) (by kernel_rfl) rfl (no_loops (by kernel_rfl)) (by omega) (by kernel_rfl) ?_
  intro x'' y'' q'' hq''
  exact (fn20).trans hq''
def fs20 : FSpec := fsT 20 [] [(.bool, false)] fun _ => t20
theorem okf20 : fs20.Ok Try.prog := fsT_ok fun x'' r'' hr'' => ok20 x'' () r'' hr''
def fs20w : FSpec := fs20.like fun _ => .ret (true, ())
theorem okf20w : fs20w.Ok Try.prog := by
  refine flike_ok okf20 _ ?_
  intro x y h
  cases h
  refine convR_of (vs := [.bool true]) rfl rfl ?_
  show (t20).get = _
  have e : takeG (intBytes (bytesInt (Prod.fst (nameP ([2, 97, 98, 0]) (intBytes (bytesInt (Prod.fst (nameP ([3, 119, 119, 119, 2, 97, 98, 0]) (intBytes []) [])))) (Prod.snd (nameP ([3, 119, 119, 119, 2, 97, 98, 0]) (intBytes []) [])))))) (8 : Int) (8 : Int) (-1 : Int) [] = some ([2, 97, 98, 0], 10) := by
    rw [takeG_u, nameP_u, nameP_u]
    decide
  unfold t20
  rw [e]
  rfl
/-- derricklaw03.WireName -/
def t7 (s : List UInt8) (at_ : Int) (n : List UInt8) : Tr Res := Tr.br (decide ((↑(List.length s) : Int) > (1000 : Int))) (Tr.ret ([AV.bool true], [])) (Tr.br (decide ((↑(List.length n) : Int) > (400 : Int))) (Tr.ret ([AV.bool true], [])) (Tr.br (bigS s) (Tr.br (tkE (takeG s at_ at_ (-1 : Int) []) == (0 : Int)) (Tr.br (bigS (tkS (takeG s at_ at_ (-1 : Int) []))) (Tr.br (mayV (tkS (takeG s at_ at_ (-1 : Int) []))) (Tr.br (decide (tkN (takeG s at_ at_ (-1 : Int) []) > at_)) (Tr.br (decide (tkN (takeG s at_ at_ (-1 : Int) []) ≤ (↑(List.length s) : Int))) (Tr.br (Nat.ble (List.length n + List.length s) 9223372036854775807) (Tr.br (bigS (n ++ s)) (Tr.br (bigS n) (Tr.br (!mayV n) (Tr.ret ([AV.bool true], [])) (Tr.br (tkE (takeG (n ++ s) (0 : Int) (0 : Int) (-1 : Int) []) == (0 : Int)) (Tr.br (tkS (takeG (n ++ s) (0 : Int) (0 : Int) (-1 : Int) []) == n) (Tr.ret ([AV.bool (tkN (takeG (n ++ s) (0 : Int) (0 : Int) (-1 : Int) []) == (↑(List.length n) : Int))], [])) (Tr.ret ([AV.bool false], []))) (Tr.ret ([AV.bool false], [])))) Tr.no) Tr.no) Tr.no) (Tr.br (tkE (takeG s at_ at_ (-1 : Int) []) == (2 : Int)) (Tr.br (tkS (takeG s at_ at_ (-1 : Int) []) == []) (Tr.br (Nat.ble (List.length n + List.length s) 9223372036854775807) (Tr.br (bigS (n ++ s)) (Tr.br (tkN (takeG s at_ at_ (-1 : Int) []) == (0 : Int)) (Tr.br (bigS n) (Tr.br (!mayV n) (Tr.ret ([AV.bool true], [])) (Tr.br (tkE (takeG (n ++ s) (0 : Int) (0 : Int) (-1 : Int) []) == (0 : Int)) (Tr.br (tkS (takeG (n ++ s) (0 : Int) (0 : Int) (-1 : Int) []) == n) (Tr.ret ([AV.bool (tkN (takeG (n ++ s) (0 : Int) (0 : Int) (-1 : Int) []) == (↑(List.length n) : Int))], [])) (Tr.ret ([AV.bool false], []))) (Tr.ret ([AV.bool false], [])))) Tr.no) (Tr.ret ([AV.bool false], []))) Tr.no) Tr.no) (Tr.br (Nat.ble (List.length n + List.length s) 9223372036854775807) (Tr.br (bigS (n ++ s)) (Tr.ret ([AV.bool false], [])) Tr.no) Tr.no)) (Tr.br (Nat.ble (List.length n + List.length s) 9223372036854775807) (Tr.br (bigS (n ++ s)) (Tr.ret ([AV.bool false], [])) Tr.no) Tr.no))) (Tr.br (tkE (takeG s at_ at_ (-1 : Int) []) == (2 : Int)) (Tr.br (tkS (takeG s at_ at_ (-1 : Int) []) == []) (Tr.br (Nat.ble (List.length n + List.length s) 9223372036854775807) (Tr.br (bigS (n ++ s)) (Tr.br (tkN (takeG s at_ at_ (-1 : Int) []) == (0 : Int)) (Tr.br (bigS n) (Tr.br (!mayV n) (Tr.ret ([AV.bool true], [])) (Tr.br (tkE (takeG (n ++ s) (0 : Int) (0 : Int) (-1 : Int) []) == (0 : Int)) (Tr.br (tkS (takeG (n ++ s) (0 : Int) (0 : Int) (-1 : Int) []) == n) (Tr.ret ([AV.bool (tkN (takeG (n ++ s) (0 : Int) (0 : Int) (-1 : Int) []) == (↑(List.length n) : Int))], [])) (Tr.ret ([AV.bool false], []))) (Tr.ret ([AV.bool false], [])))) Tr.no) (Tr.ret ([AV.bool false], []))) Tr.no) Tr.no) (Tr.br (Nat.ble (List.length n + List.length s) 9223372036854775807) (Tr.br (bigS (n ++ s)) (Tr.ret ([AV.bool false], [])) Tr.no) Tr.no)) (Tr.br (Nat.ble (List.length n + List.length s) 9223372036854775807) (Tr.br (bigS (n ++ s)) (Tr.ret ([AV.bool false], [])) Tr.no) Tr.no))) (Tr.br (tkE (takeG s at_ at_ (-1 : Int) []) == (2 : Int)) (Tr.br (tkS (takeG s at_ at_ (-1 : Int) []) == []) (Tr.br (Nat.ble (List.length n + List.length s) 9223372036854775807) (Tr.br (bigS (n ++ s)) (Tr.br (tkN (takeG s at_ at_ (-1 : Int) []) == (0 : Int)) (Tr.br (bigS n) (Tr.br (!mayV n) (Tr.ret ([AV.bool true], [])) (Tr.br (tkE (takeG (n ++ s) (0 : Int) (0 : Int) (-1 : Int) []) == (0 : Int)) (Tr.br (tkS (takeG (n ++ s) (0 : Int) (0 : Int) (-1 : Int) []) == n) (Tr.ret ([AV.bool (tkN (takeG (n ++ s) (0 : Int) (0 : Int) (-1 : Int) []) == (↑(List.length n) : Int))], [])) (Tr.ret ([AV.bool false], []))) (Tr.ret ([AV.bool false], [])))) Tr.no) (Tr.ret ([AV.bool false], []))) Tr.no) Tr.no) (Tr.br (Nat.ble (List.length n + List.length s) 9223372036854775807) (Tr.br (bigS (n ++ s)) (Tr.ret ([AV.bool false], [])) Tr.no) Tr.no)) (Tr.br (Nat.ble (List.length n + List.length s) 9223372036854775807) (Tr.br (bigS (n ++ s)) (Tr.ret ([AV.bool false], [])) Tr.no) Tr.no))) Tr.no) (Tr.br (tkE (takeG s at_ at_ (-1 : Int) []) == (2 : Int)) (Tr.br (tkS (takeG s at_ at_ (-1 : Int) []) == []) (Tr.br (Nat.ble (List.length n + List.length s) 9223372036854775807) (Tr.br (bigS (n ++ s)) (Tr.br (tkN (takeG s at_ at_ (-1 : Int) []) == (0 : Int)) (Tr.br (bigS n) (Tr.br (!mayV n) (Tr.ret ([AV.bool true], [])) (Tr.br (tkE (takeG (n ++ s) (0 : Int) (0 : Int) (-1 : Int) []) == (0 : Int)) (Tr.br (tkS (takeG (n ++ s) (0 : Int) (0 : Int) (-1 : Int) []) == n) (Tr.ret ([AV.bool (tkN (takeG (n ++ s) (0 : Int) (0 : Int) (-1 : Int) []) == (↑(List.length n) : Int))], [])) (Tr.ret ([AV.bool false], []))) (Tr.ret ([AV.bool false], [])))) Tr.no) (Tr.ret ([AV.bool false], []))) Tr.no) Tr.no) (Tr.br (Nat.ble (List.length n + List.length s) 9223372036854775807) (Tr.br (bigS (n ++ s)) (Tr.ret ([AV.bool false], [])) Tr.no) Tr.no)) (Tr.br (Nat.ble (List.length n + List.length s) 9223372036854775807) (Tr.br (bigS (n ++ s)) (Tr.ret ([AV.bool false], [])) Tr.no) Tr.no))) Tr.no))
def os7 : OSpec := { f := 7, sh := [.d .str false, .d (.int .i64) false, .d .str false], so := [], F := fun (s, at_, n, _) _ => t7 s at_ n }
set_option maxRecDepth 1000000 in
theorem fn7 (s : List UInt8) (at_ : Int) (n : List UInt8) : evC T0 (orcB [fs20w, fs27w, fs29w] []) (lpOf h7 0 (lsOf [])) c7 1000000 (startSt [.str s, .int .i64 at_, .str n] [] Try.f7.ntmps) (finishK T0 false 0 Try.f7) = (t7 s at_ n).get := by kernel_rfl
theorem ok7 : os7.Ok Try.prog := by
  refine os_ok mixed0 tab0 (orcB_sound (all_cons okf20w (all_cons okf27w (all_cons okf29w all_nil))) all_nil) h7 (d := 0) (n0 := 0) (S := lsOf []) Try.func7 (by kernel_rfl) (c := c7) (by kernel_rfl) rfl (no_loops (by kernel_rfl)) (by omega) (by kernel_rfl) ?_
  intro x'' y'' q'' hq''
  obtain ⟨(s : List UInt8), (at_ : Int), (n : List UInt8), _⟩ := x''
  exact (fn7 s at_ n).trans hq''
def fs7 : FSpec := fsT 7 [(.str, false), ((.int .i64), false), (.str, false)] [(.bool, false)] fun (s, at_, n, _) => t7 s at_ n
theorem okf7 : fs7.Ok Try.prog := fsT_ok fun x'' r'' hr'' => ok7 x'' () r'' hr''
end Go.Proofs.YtfepkpindchleaaE

/- WireName. -/
namespace Go.Proofs.YtfepkpindchleaaE
open Go Go.Proofs.YtfepkpindchleaaB
set_option linter.unusedVariables false
set_option linter.unusedSimpArgs false
/-! ### Trees whose ways are known -/
theorem allT {α : Type} {P : α → Prop} {x y : Tr α} : (Tr.br true x y).all P ↔ x.all P := ⟨fun h => h.1 rfl, fun h => ⟨fun _ => h, fun e => by cases e⟩⟩
theorem allF {α : Type} {P : α → Prop} {x y : Tr α} : (Tr.br false x y).all P ↔ y.all P := ⟨fun h => h.2 rfl, fun h => ⟨(fun e => by cases e), fun _ => h⟩⟩
theorem allR {α : Type} {P : α → Prop} {a : α} : (Tr.ret a).all P ↔ P a := Iff.rfl
theorem wireName_all (s : List UInt8) (at_ : Int) (n : List UInt8) : (t7 s at_ n).all fun x => x = ([.bool true], []) := by
  unfold t7
  by_cases h1 : (s.length : Int) > 1000
  · simp only [decide_eq_true h1, allT, allR]
  by_cases h2 : (n.length : Int) > 400
  · simp only [decide_eq_false h1, decide_eq_true h2, allT, allF, allR]
  have hb : bigS s = true := by simp [bigS]; omega
  have hbn : bigS n = true := by simp [bigS]; omega
  have hbns : bigS (n ++ s) = true := by simp [bigS]; omega
  have hble : Nat.ble (List.length n + List.length s) 9223372036854775807 = true := Nat.ble_eq_true_of_le (by omega)
  have key : ∀ m next, takeG s at_ at_ (-1) [] = some (m, next) → mayV m = true ∧ bigS m = true ∧ at_ < next ∧ next ≤ s.length := fun m next h => by
    obtain ⟨a1, _, a3, _⟩ := takeG_may _ at_ at_ (-1) [] m next rfl LP_nil h
    obtain ⟨_, a4, _⟩ := may_iff.1 a1
    exact ⟨a1, by simp [bigS]; omega, a3 (by omega)⟩
  cases ho : takeG s at_ at_ (-1) [] with
  | none =>
    cases hm : mayV n with
    | false => simp [decide_eq_false h1, decide_eq_false h2, hb, hbn, hbns, hble, hm, tkE, tkS, tkN, allT, allF, allR]
    | true =>
      simp [decide_eq_false h1, decide_eq_false h2, hb, hbn, hbns, hble, hm, tkE, tkS, tkN, takeG_self (X := s) hm, allT, allF, allR]
  | some p =>
    obtain ⟨m, next⟩ := p
    obtain ⟨k1, k2, k3, k4⟩ := key m next ho
    cases hm : mayV n with
    | false => simp [decide_eq_false h1, decide_eq_false h2, hb, hbn, hbns, hble, hm, tkE, tkS, tkN, k1, k2, k3, k4, allT, allF, allR]
    | true => simp [decide_eq_false h1, decide_eq_false h2, hb, hbn, hbns, hble, hm, tkE, tkS, tkN, k1, k2, k3, k4, takeG_self (X := s) hm, allT, allF, allR]
theorem sem7 (s : List UInt8) (at_ : Int) (n : List UInt8) : SemF Try.prog 7 [.str s, .int .i64 at_, .str n] [] [.bool true] [] :=
  ok7 (s, at_, n, ()) () ([.bool true], []) (Tr.get_of_all (wireName_all s at_ n))
end Go.Proofs.YtfepkpindchleaaE

/- few; WireShort; WireSized. -/
namespace Go.Proofs.YtfepkpindchleaaE
open Go Go.Proofs.YtfepkpindchleaaB
set_option linter.unusedVariables false
set_option linter.unusedSimpArgs false
noncomputable def b21 : Code := nthLoop c21 0
def ls21 : LoopSpec := { bid := 0, sh := [.d (.list (.pair .str .bool)) false, .d (.int .i64) false], so := [], F := fun (l, i, _) _ => .on2 (decide (i = 0)) ((l.take 41).all (fun x => decide (x.1.length ≤ 400))) (.exit 0, [AV.list (.pair .str .bool) l, .dead], []) (.ret, [AV.list (.pair .str .bool) l, .bool false], []) }
def r21 (l : List (List UInt8 × Bool)) (i : Int) : Tr (St ⊕ (Ex × St)) := Tr.br (decide (i < (↑(List.length l) : Int))) (Tr.br (decide (i < (41 : Int))) (Tr.br (decide ((0 : Int) ≤ i)) (Tr.br (decide (i < (↑(List.length l) : Int))) (Tr.br (decide ((↑(List.length (Prod.fst (List.getD l (Int.toNat i) (Ty.dflt (Ty.pair Ty.str Ty.bool))))) : Int) > (400 : Int))) (Tr.ret (Sum.inr (Ex.ret, stOf [0, 2] [AV.list (Ty.pair Ty.str Ty.bool) l, AV.bool false] []))) (Tr.ret (Sum.inl (stOf [0, 3] [AV.list (Ty.pair Ty.str Ty.bool) l, AV.int IntKind.i64 (IntKind.wrap IntKind.i64 (i + (1 : Int)))] [])))) Tr.no) Tr.no) (Tr.ret (Sum.inr (Ex.exit 0, stOf [0, 2] [AV.list (Ty.pair Ty.str Ty.bool) l, AV.dead] [])))) (Tr.ret (Sum.inr (Ex.exit 0, stOf [0, 2] [AV.list (Ty.pair Ty.str Ty.bool) l, AV.dead] [])))
set_option maxRecDepth 1000000 in
theorem round21 (orc : Orc) (lp : Lp) (l : List (List UInt8 × Bool)) (i : Int) : evC T0 orc lp b21 0 (stOf [0, 3] [.list (.pair .str .bool) l, .int .i64 i] []) (roundK [0, 3] [0, 2] 0) = (r21 l i).get := by kernel_rfl
theorem wf21 (orc : Orc) (l : List (List UInt8 × Bool)) (I'' : Int → Prop) (m'' : Int → Nat) (r'' : Ex × St) (h : ∀ (i : Int), I'' i → (r21 l i).all fun x'' => x'' = .inr r'' ∨ ∃ (i' : Int), x'' = .inl (stOf [0, 3] [.list (.pair .str .bool) l, .int .i64 i'] []) ∧ I'' i' ∧ m'' i' < m'' i) (lp : Lp) (i : Int) : I'' i →
    loopF (fun st => evC T0 orc lp b21 0 st (roundK [0, 3] [0, 2] 0)) (stOf [0, 3] [.list (.pair .str .bool) l, .int .i64 i] []) = some r'' :=
  loop_tr (fun a'' : Int => stOf [0, 3] [.list (.pair .str .bool) l, .int .i64 a''] []) (fun a'' => I'' a'') (fun a'' => m'' a'') r'' (fun a'' => r21 l a'')
    (fun a'' x hx => (round21 orc lp l a'').trans hx) (fun a'' ha => Tr.all_mono (fun x'' hx => hx.imp id fun ⟨i', h1, h2, h3⟩ => ⟨(i'), h1, h2, h3⟩) (h (a'') ha)) (i)
theorem loop21 (orc : Orc) : ls21.Ok T0 orc h21 0 0 b21 := by
  intro q'' hq'' x'' y'' r'' h
  obtain ⟨(l : List (List UInt8 × Bool)), (i : Int), _⟩ := x''
  obtain ⟨hc, rfl⟩ := Tr.get_on2 h
  show loopF (fun st => evC T0 orc (lpN T0 orc h21 0 q'') b21 0 st (roundK [0, 3] [0, 2] 0)) (stOf [0, 3] [.list (.pair .str .bool) l, .int .i64 i] []) = some ((bif (l.take 41).all (fun x => decide (x.1.length ≤ 400)) then (.exit 0, [AV.list (.pair .str .bool) l, .dead], []) else (.ret, [AV.list (.pair .str .bool) l, .bool false], []) : Ex × List AV × List LObj).1, stOf [0, 2] (bif (l.take 41).all (fun x => decide (x.1.length ≤ 400)) then (.exit 0, [AV.list (.pair .str .bool) l, .dead], []) else (.ret, [AV.list (.pair .str .bool) l, .bool false], []) : Ex × List AV × List LObj).2.1 (bif (l.take 41).all (fun x => decide (x.1.length ≤ 400)) then (.exit 0, [AV.list (.pair .str .bool) l, .dead], []) else (.ret, [AV.list (.pair .str .bool) l, .bool false], []) : Ex × List AV × List LObj).2.2)
  simp only [decide_eq_true_eq] at hc
  subst hc
  refine wf21 _ l (fun i => 0 ≤ i ∧ i ≤ 41 ∧ (l.take 41).all (fun x => decide (x.1.length ≤ 400)) = ((l.drop i.toNat).take (41 - i.toNat)).all (fun x => decide (x.1.length ≤ 400))) (fun i => (41 - i).toNat) _ ?_ _ 0 ⟨by omega, by omega, by simp⟩
  rintro i ⟨h0, h1, h2⟩
  rw [h2]
  unfold r21
  by_cases hk : i.toNat < l.length
  · by_cases h41 : i < 41
    · have hg : l.getD i.toNat (Ty.dflt (Ty.pair Ty.str Ty.bool)) = l[i.toNat] := by rw [List.getD_eq_getElem?_getD, List.getElem?_eq_getElem hk]; rfl
      rw [List.drop_eq_getElem_cons hk, show 41 - i.toNat = (40 - i.toNat) + 1 by omega, List.take_succ_cons, List.all_cons, hg]
      refine Tr.all_t (dec_true (by omega)) (Tr.all_t (dec_true (by omega)) (Tr.all_t (dec_true h0) (Tr.all_t (dec_true (by omega)) (Tr.all_br (fun c1 => Tr.all_ret (.inl ?_)) fun c1 => Tr.all_ret (.inr ⟨_, rfl, ?_, ?_⟩)))))
      · simp only [decide_eq_true_eq] at c1
        rw [decide_eq_false (by omega), Bool.false_and]
        rfl
      · rw [IntWalk.i64_in _ (by omega)]
        simp only [decide_eq_false_iff_not] at c1
        refine ⟨by omega, by omega, ?_⟩
        rw [decide_eq_true (by omega), Bool.true_and, show (i + 1).toNat = i.toNat + 1 by omega, show 41 - (i.toNat + 1) = 40 - i.toNat by omega]
      · rw [IntWalk.i64_in _ (by omega)]
        omega
    · refine Tr.all_t (dec_true (by omega)) (Tr.all_f (dec_false h41) (Tr.all_ret (.inl ?_)))
      rw [show 41 - i.toNat = 0 by omega]
      simp
  · refine Tr.all_f (dec_false (by omega)) (Tr.all_ret (.inl ?_))
    rw [List.drop_eq_nil_of_le (by omega)]
    simp
/-- derricklaw03.few -/
def t21 (l : List (List UInt8 × Bool)) : Tr Res := Tr.br (List.all (List.take 41 l) fun x ↦ decide (List.length (Prod.fst x) ≤ 400)) (Tr.ret ([AV.bool (decide ((↑(List.length l) : Int) ≤ (40 : Int)))], [])) (Tr.ret ([AV.bool false], []))
def os21 : OSpec := { f := 21, sh := [.d (.list (.pair .str .bool)) false], so := [], F := fun (l, _) _ => t21 l }
set_option maxRecDepth 1000000 in
theorem fn21 (l : List (List UInt8 × Bool)) : evC T0 (orcB [] []) (lpOf h21 0 (lsOf [ls21])) c21 1000000 (startSt [.list (.pair .str .bool) l] [] Try.f21.ntmps) (finishK T0 false 0 Try.f21) = (t21 l).get := by kernel_rfl
theorem ok21 : os21.Ok Try.prog := by
  refine os_ok mixed0 tab0 (orcB_sound all_nil all_nil) h21 (d := 0) (n0 := 0) (S := lsOf [ls21]) Try.func21 (by kernel_rfl) (c := c21) (by kernel_rfl) rfl (loops_eq (xs := [(0, b21)]) (by kernel_rfl) (all_cons (ls_here (loop21 _)) all_nil)) (by omega) (by kernel_rfl) ?_
  intro x'' y'' q'' hq''
  obtain ⟨(l : List (List UInt8 × Bool)), _⟩ := x''
  exact (fn21 l).trans hq''
def fs21 : FSpec := fsT 21 [((.list (.pair .str .bool)), false)] [(.bool, false)] fun (l, _) => t21 l
theorem okf21 : fs21.Ok Try.prog := fsT_ok fun x'' r'' hr'' => ok21 x'' () r'' hr''
def fs21w : FSpec := fs21.like fun (l, _) => .ret (fewB l, ())
theorem okf21w : fs21w.Ok Try.prog := by
  refine flike_ok okf21 _ ?_
  rintro ⟨(l : List (List UInt8 × Bool)), _⟩ y h
  cases h
  refine convR_of (vs := [.bool (fewB l)]) rfl rfl (Tr.get_of_all ?_)
  show (t21 l).all _
  unfold t21 fewB
  refine Tr.all_br (fun c1 => Tr.all_ret ?_) fun c1 => Tr.all_ret ?_
  · rw [c1, Bool.true_and]
    congr 3
    rw [Bool.eq_iff_iff]
    simp
    omega
  · rw [c1]
    rfl
def ls24q : LoopSpec := { bid := 0, sh := [], so := [], F := fun _ _ => .no }
theorem loop24q (orc : Orc) : ls24q.Ok T0 orc h24 0 0 b24 := by
  intro q'' hq'' x'' y'' r'' h
  cases h
/-- (*wire.Pack).Name -/
def t24z (n : List UInt8) : Tr Res := Tr.ret ([AV.int IntKind.i64 (1 : Int)], [])
def os24z : OSpec := { f := 24, sh := [.np, .d .str false], so := [], F := fun (n, _) _ => t24z n }
set_option maxRecDepth 1000000 in
theorem fn24z (n : List UInt8) : evC T0 (orcB [fs42w, fs29w] [os22]) (lpOf h24 0 (lsOf [ls24q])) c24 1000000 (startSt [.np, .str n] [] Try.f24.ntmps) (finishK T0 false 0 Try.f24) = (t24z n).get := by kernel_rfl
theorem ok24z : os24z.Ok Try.prog := by
  refine os_ok mixed0 tab0 (orcB_sound (all_cons okf42w (all_cons okf29w all_nil)) (all_cons ok22 all_nil)) h24 (d := 0) (n0 := 0) (S := lsOf [ls24q]) Try.func24 (by kernel_rfl) (c := c24) (by kernel_rfl) rfl (loops_eq (xs := [(0, b24)]) (by kernel_rfl) (all_cons (ls_here (loop24q _)) all_nil)) (by omega) (by kernel_rfl) ?_
  intro x'' y'' q'' hq''
  obtain ⟨(n : List UInt8), _⟩ := x''
  exact (fn24z n).trans hq''
-- derricklaw03.WireShort: loop 0 keeps [0, 1, 5, 6, 7], [1, 4, 5, 6]
noncomputable def b9 : Code := nthLoop c9 0
def ls9 : LoopSpec := { bid := 0, sh := [.d (.list (.pair .str .bool)) false, .d .str false, .d .bool false, .ptr 0 0, .d (.int .i64) false], so := [.box [.row 1, .mp 2], .row (.int .u8), .map .str (.int .i64)], F := fun (l, n, up, i, _) (_, b, m, _) => .on (fewB l && (decide (i = 0) && p0C b m)) (.exit 0, [.str n, .dead, .bool up, .ptr 0 0], [.box [.rowA 1, .mp 2], .row (.int .u8) (bytesInt (l.foldl stN ([], [])).1), .mpo .str (.int .i64) (l.foldl stN ([], [])).2]) }
def r9 (l : List (List UInt8 × Bool)) (n : List UInt8) (up : Bool) (i : Int) (b : List Int) (m : List (List UInt8 × Int)) : Tr (St ⊕ (Ex × St)) := Tr.br (decide (i < (↑(List.length l) : Int))) (Tr.br (decide ((0 : Int) ≤ i)) (Tr.br (decide (i < (↑(List.length l) : Int))) (Tr.br (pkC b m && Nat.ble (List.length (Prod.fst (List.getD l (Int.toNat i) (Ty.dflt (Ty.pair Ty.str Ty.bool))))) 100000000000) (Tr.br (mayV (Prod.fst (List.getD l (Int.toNat i) (Ty.dflt (Ty.pair Ty.str Ty.bool))))) (Tr.br (decide ((0 : Int) ≤ i)) (Tr.br (decide (i < (↑(List.length l) : Int))) (Tr.br (decide ((↑(List.length (bytesInt (Prod.fst (nameP (Prod.fst (List.getD l (Int.toNat i) (Ty.dflt (Ty.pair Ty.str Ty.bool)))) (intBytes b) m)))) : Int) > IntKind.wrap IntKind.i64 ((↑(List.length b) : Int) + (↑(List.length (Prod.fst (List.getD l (Int.toNat i) (Ty.dflt (Ty.pair Ty.str Ty.bool))))) : Int)))) (Tr.ret (Sum.inr (Ex.ret, stOf [1, 4, 5, 6] [AV.str n, AV.bool false, AV.bool up, AV.ptr 0 0] [LObj.boxT none [AV.rowA 1, AV.mp 2], LObj.row (Ty.int IntKind.u8) (bytesInt (Prod.fst (nameP (Prod.fst (List.getD l (Int.toNat i) (Ty.dflt (Ty.pair Ty.str Ty.bool)))) (intBytes b) m))), LObj.mpo Ty.str (Ty.int IntKind.i64) (Prod.snd (nameP (Prod.fst (List.getD l (Int.toNat i) (Ty.dflt (Ty.pair Ty.str Ty.bool)))) (intBytes b) m))]))) (Tr.ret (Sum.inl (stOf [0, 1, 5, 6, 7] [AV.list (Ty.pair Ty.str Ty.bool) l, AV.str n, AV.bool up, AV.ptr 0 0, AV.int IntKind.i64 (IntKind.wrap IntKind.i64 (i + (1 : Int)))] [LObj.boxT none [AV.rowA 1, AV.mp 2], LObj.row (Ty.int IntKind.u8) (bytesInt (Prod.fst (nameP (Prod.fst (List.getD l (Int.toNat i) (Ty.dflt (Ty.pair Ty.str Ty.bool)))) (intBytes b) m))), LObj.mpo Ty.str (Ty.int IntKind.i64) (Prod.snd (nameP (Prod.fst (List.getD l (Int.toNat i) (Ty.dflt (Ty.pair Ty.str Ty.bool)))) (intBytes b) m))])))) Tr.no) Tr.no) (Tr.br ((↑(List.length b) : Int) != (↑(List.length b) : Int)) (Tr.ret (Sum.inr (Ex.ret, stOf [1, 4, 5, 6] [AV.str n, AV.bool false, AV.bool up, AV.ptr 0 0] [LObj.boxT none [AV.rowA 1, AV.mp 2], LObj.row (Ty.int IntKind.u8) b, LObj.mpo Ty.str (Ty.int IntKind.i64) m]))) (Tr.ret (Sum.inl (stOf [0, 1, 5, 6, 7] [AV.list (Ty.pair Ty.str Ty.bool) l, AV.str n, AV.bool up, AV.ptr 0 0, AV.int IntKind.i64 (IntKind.wrap IntKind.i64 (i + (1 : Int)))] [LObj.boxT none [AV.rowA 1, AV.mp 2], LObj.row (Ty.int IntKind.u8) b, LObj.mpo Ty.str (Ty.int IntKind.i64) m]))))) Tr.no) Tr.no) Tr.no) (Tr.ret (Sum.inr (Ex.exit 0, stOf [1, 4, 5, 6] [AV.str n, AV.dead, AV.bool up, AV.ptr 0 0] [LObj.boxT none [AV.rowA 1, AV.mp 2], LObj.row (Ty.int IntKind.u8) b, LObj.mpo Ty.str (Ty.int IntKind.i64) m])))
set_option maxRecDepth 1000000 in
theorem round9 (lp : Lp) (l : List (List UInt8 × Bool)) (n : List UInt8) (up : Bool) (i : Int) (b : List Int) (m : List (List UInt8 × Int)) : evC T0 (orcB [fs20w, fs21w, fs29w] [os16, os24w, os24z, os26, os26z, os22z, os19z, os30z, os31z]) lp b9 0 (stOf [0, 1, 5, 6, 7] [.list (.pair .str .bool) l, .str n, .bool up, .ptr 0 0, .int .i64 i] [.box [.rowA 1, .mp 2], .row (.int .u8) b, .mpo .str (.int .i64) m]) (roundK [0, 1, 5, 6, 7] [1, 4, 5, 6] 0) = (r9 l n up i b m).get := by kernel_rfl
theorem wf9 (l : List (List UInt8 × Bool)) (n : List UInt8) (up : Bool) (I'' : Int → List Int → List (List UInt8 × Int) → Prop) (m'' : Int → List Int → List (List UInt8 × Int) → Nat) (r'' : Ex × St) (h : ∀ (i : Int) (b : List Int) (m : List (List UInt8 × Int)), I'' i b m → (r9 l n up i b m).all fun x'' => x'' = .inr r'' ∨ ∃ (i' : Int) (b' : List Int) (m' : List (List UInt8 × Int)), x'' = .inl (stOf [0, 1, 5, 6, 7] [.list (.pair .str .bool) l, .str n, .bool up, .ptr 0 0, .int .i64 i'] [.box [.rowA 1, .mp 2], .row (.int .u8) b', .mpo .str (.int .i64) m']) ∧ I'' i' b' m' ∧ m'' i' b' m' < m'' i b m) (lp : Lp) (i : Int) (b : List Int) (m : List (List UInt8 × Int)) : I'' i b m →
    loopF (fun st => evC T0 (orcB [fs20w, fs21w, fs29w] [os16, os24w, os24z, os26, os26z, os22z, os19z, os30z, os31z]) lp b9 0 st (roundK [0, 1, 5, 6, 7] [1, 4, 5, 6] 0)) (stOf [0, 1, 5, 6, 7] [.list (.pair .str .bool) l, .str n, .bool up, .ptr 0 0, .int .i64 i] [.box [.rowA 1, .mp 2], .row (.int .u8) b, .mpo .str (.int .i64) m]) = some r'' :=
  loop_tr (fun a'' : Int × List Int × List (List UInt8 × Int) => stOf [0, 1, 5, 6, 7] [.list (.pair .str .bool) l, .str n, .bool up, .ptr 0 0, .int .i64 a''.1] [.box [.rowA 1, .mp 2], .row (.int .u8) a''.2.1, .mpo .str (.int .i64) a''.2.2]) (fun a'' => I'' a''.1 a''.2.1 a''.2.2) (fun a'' => m'' a''.1 a''.2.1 a''.2.2) r'' (fun a'' => r9 l n up a''.1 a''.2.1 a''.2.2)
    (fun a'' x hx => (round9 lp l n up a''.1 a''.2.1 a''.2.2).trans hx) (fun a'' ha => Tr.all_mono (fun x'' hx => hx.imp id fun ⟨i', b', m', h1, h2, h3⟩ => ⟨(i', b', m'), h1, h2, h3⟩) (h (a''.1) (a''.2.1) (a''.2.2) ha)) (i, b, m)
def shI (l : Parts) (i : Int) (b : List Int) (m : Known) : Prop := 0 ≤ i ∧ i ≤ l.length ∧ ∃ p : PKt, b = bytesInt p.1 ∧ m = p.2 ∧ GoodP i.toNat p ∧ (l.drop i.toNat).foldl stN p = l.foldl stN ([], [])
theorem loop9 : ls9.Ok T0 (orcB [fs20w, fs21w, fs29w] [os16, os24w, os24z, os26, os26z, os22z, os19z, os30z, os31z]) h9 0 0 b9 := by
  intro q'' hq'' x'' y'' r'' h
  obtain ⟨(l : List (List UInt8 × Bool)), (n : List UInt8), (up : Bool), (i : Int), _⟩ := x''
  obtain ⟨_, (b : List Int), (m : List (List UInt8 × Int)), _⟩ := y''
  obtain ⟨hc, rfl⟩ := Tr.get_on h
  show loopF (fun st => evC T0 (orcB [fs20w, fs21w, fs29w] [os16, os24w, os24z, os26, os26z, os22z, os19z, os30z, os31z]) (lpN T0 (orcB [fs20w, fs21w, fs29w] [os16, os24w, os24z, os26, os26z, os22z, os19z, os30z, os31z]) h9 0 q'') b9 0 st (roundK [0, 1, 5, 6, 7] [1, 4, 5, 6] 0)) (stOf [0, 1, 5, 6, 7] [.list (.pair .str .bool) l, .str n, .bool up, .ptr 0 0, .int .i64 i] [.box [.rowA 1, .mp 2], .row (.int .u8) b, .mpo .str (.int .i64) m]) = some (.exit 0, stOf [1, 4, 5, 6] ([.str n, .dead, .bool up, .ptr 0 0]) ([.box [.rowA 1, .mp 2], .row (.int .u8) (bytesInt (l.foldl stN ([], [])).1), .mpo .str (.int .i64) (l.foldl stN ([], [])).2]))
  simp only [p0C, Bool.and_eq_true, decide_eq_true_eq, List.isEmpty_iff] at hc
  obtain ⟨hf, rfl, rfl, rfl⟩ := hc
  obtain ⟨hl, hx⟩ := fewB_iff.1 hf
  refine wf9 l n up (shI l) (fun i _ _ => (l.length - i).toNat) _ ?_ _ 0 [] [] ⟨by omega, by omega, ([], []), rfl, rfl, good_nil, by simp⟩
  rintro i b m ⟨h0, h1, p, rfl, rfl, hg, hF⟩
  rw [← hF]
  unfold r9
  by_cases hi : i < l.length
  · obtain ⟨d1, d2⟩ := drop_getD (Ty.dflt (Ty.pair Ty.str Ty.bool)) h0 hi
    generalize List.getD l (Int.toNat i) (Ty.dflt (Ty.pair Ty.str Ty.bool)) = x at d1 d2
    have hxl := hx x d2
    rw [d1, List.foldl_cons] at hF
    obtain ⟨g1, g2, _⟩ := stN_good hg hxl
    have g1 : GoodP (i + 1).toNat (stN p x) := by rw [show (i + 1).toNat = i.toNat + 1 by omega]; exact g1
    have hpk := pkC_good hg (by omega)
    have hp := hg.2
    rw [intB_bytes]
    refine Tr.all_t (dec_true hi) (Tr.all_t (dec_true h0) (Tr.all_t (dec_true hi) (Tr.all_t (by rw [hpk, Nat.ble_eq_true_of_le (by omega)]; rfl) (Tr.all_br (fun c1 => Tr.all_t (dec_true h0) (Tr.all_t (dec_true hi) (Tr.all_f ?_ (Tr.all_ret (.inr ?_))))) fun c1 => Tr.all_f (by simp) (Tr.all_ret (.inr ?_))))))
    · unfold stN at g2
      rw [c1, cond_true] at g2
      rw [bytesInt_len, bytesInt_len, IntWalk.i64_in _ (by omega)]
      exact dec_false (by omega)
    · rw [IntWalk.i64_in _ (by omega)]
      have e : stN p x = nameP x.1 p.1 p.2 := by unfold stN; rw [c1]; rfl
      rw [← e]
      exact ⟨_, _, _, rfl, ⟨by omega, by omega, _, rfl, rfl, g1, hF⟩, by omega⟩
    · rw [IntWalk.i64_in _ (by omega)]
      have e : stN p x = p := by unfold stN; rw [c1]; rfl
      rw [e] at hF g1
      exact ⟨_, _, _, rfl, ⟨by omega, by omega, _, rfl, rfl, g1, hF⟩, by omega⟩
  · refine Tr.all_f (dec_false hi) (Tr.all_ret (.inl ?_))
    rw [List.drop_eq_nil_of_le (by omega)]
    rfl
/-- derricklaw03.WireShort -/
def t9 (l : List (List UInt8 × Bool)) (n : List UInt8) : Tr Res := Tr.br (!fewB l) (Tr.ret ([AV.bool true], [])) (Tr.br (bigS n) (Tr.br (!mayV n) (Tr.ret ([AV.bool true], [])) (Tr.br (fewB l && (decide ((0 : Int) = (0 : Ty.den (Ty.int IntKind.i64))) && p0C [] [])) (Tr.br (pkC (bytesInt (Prod.fst (List.foldl stN ([], []) l))) (Prod.snd (List.foldl stN ([], []) l)) && Nat.ble (List.length n) 100000000000) (Tr.br (mayV n) (Tr.br (pkC (bytesInt (Prod.fst (nameP n (intBytes (bytesInt (Prod.fst (List.foldl stN ([], []) l)))) (Prod.snd (List.foldl stN ([], []) l))))) (Prod.snd (nameP n (intBytes (bytesInt (Prod.fst (List.foldl stN ([], []) l)))) (Prod.snd (List.foldl stN ([], []) l)))) && Nat.ble (List.length n) 100000000000) (Tr.br (mayV n) (Tr.br (n == [0]) (Tr.br ((↑(List.length (bytesInt (Prod.fst (nameP n (intBytes (bytesInt (Prod.fst (nameP n (intBytes (bytesInt (Prod.fst (List.foldl stN ([], []) l)))) (Prod.snd (List.foldl stN ([], []) l)))))) (Prod.snd (nameP n (intBytes (bytesInt (Prod.fst (List.foldl stN ([], []) l)))) (Prod.snd (List.foldl stN ([], []) l)))))))) : Int) == IntKind.wrap IntKind.i64 ((↑(List.length (bytesInt (Prod.fst (nameP n (intBytes (bytesInt (Prod.fst (List.foldl stN ([], []) l)))) (Prod.snd (List.foldl stN ([], []) l)))))) : Int) + (1 : Int))) (Tr.ret ([AV.bool ((1 : Int) == (1 : Int))], [])) (Tr.ret ([AV.bool false], []))) (Tr.br ((↑(List.length (bytesInt (Prod.fst (nameP n (intBytes (bytesInt (Prod.fst (nameP n (intBytes (bytesInt (Prod.fst (List.foldl stN ([], []) l)))) (Prod.snd (List.foldl stN ([], []) l)))))) (Prod.snd (nameP n (intBytes (bytesInt (Prod.fst (List.foldl stN ([], []) l)))) (Prod.snd (List.foldl stN ([], []) l)))))))) : Int) == IntKind.wrap IntKind.i64 ((↑(List.length (bytesInt (Prod.fst (nameP n (intBytes (bytesInt (Prod.fst (List.foldl stN ([], []) l)))) (Prod.snd (List.foldl stN ([], []) l)))))) : Int) + (2 : Int))) (Tr.ret ([AV.bool ((1 : Int) == (1 : Int))], [])) (Tr.ret ([AV.bool false], [])))) (Tr.br (n == [0]) (Tr.br ((↑(List.length (bytesInt (Prod.fst (nameP n (intBytes (bytesInt (Prod.fst (List.foldl stN ([], []) l)))) (Prod.snd (List.foldl stN ([], []) l)))))) : Int) == IntKind.wrap IntKind.i64 ((↑(List.length (bytesInt (Prod.fst (nameP n (intBytes (bytesInt (Prod.fst (List.foldl stN ([], []) l)))) (Prod.snd (List.foldl stN ([], []) l)))))) : Int) + (1 : Int))) (Tr.ret ([AV.bool ((1 : Int) == (1 : Int))], [])) (Tr.ret ([AV.bool false], []))) (Tr.br ((↑(List.length (bytesInt (Prod.fst (nameP n (intBytes (bytesInt (Prod.fst (List.foldl stN ([], []) l)))) (Prod.snd (List.foldl stN ([], []) l)))))) : Int) == IntKind.wrap IntKind.i64 ((↑(List.length (bytesInt (Prod.fst (nameP n (intBytes (bytesInt (Prod.fst (List.foldl stN ([], []) l)))) (Prod.snd (List.foldl stN ([], []) l)))))) : Int) + (2 : Int))) (Tr.ret ([AV.bool ((1 : Int) == (1 : Int))], [])) (Tr.ret ([AV.bool false], []))))) Tr.no) (Tr.br (pkC (bytesInt (Prod.fst (List.foldl stN ([], []) l))) (Prod.snd (List.foldl stN ([], []) l)) && Nat.ble (List.length n) 100000000000) (Tr.br (mayV n) (Tr.br (n == [0]) (Tr.br ((↑(List.length (bytesInt (Prod.fst (nameP n (intBytes (bytesInt (Prod.fst (List.foldl stN ([], []) l)))) (Prod.snd (List.foldl stN ([], []) l)))))) : Int) == IntKind.wrap IntKind.i64 ((↑(List.length (bytesInt (Prod.fst (List.foldl stN ([], []) l)))) : Int) + (1 : Int))) (Tr.ret ([AV.bool ((1 : Int) == (1 : Int))], [])) (Tr.ret ([AV.bool false], []))) (Tr.br ((↑(List.length (bytesInt (Prod.fst (nameP n (intBytes (bytesInt (Prod.fst (List.foldl stN ([], []) l)))) (Prod.snd (List.foldl stN ([], []) l)))))) : Int) == IntKind.wrap IntKind.i64 ((↑(List.length (bytesInt (Prod.fst (List.foldl stN ([], []) l)))) : Int) + (2 : Int))) (Tr.ret ([AV.bool ((1 : Int) == (1 : Int))], [])) (Tr.ret ([AV.bool false], [])))) (Tr.br (n == [0]) (Tr.br ((↑(List.length (bytesInt (Prod.fst (List.foldl stN ([], []) l)))) : Int) == IntKind.wrap IntKind.i64 ((↑(List.length (bytesInt (Prod.fst (List.foldl stN ([], []) l)))) : Int) + (1 : Int))) (Tr.ret ([AV.bool ((1 : Int) == (1 : Int))], [])) (Tr.ret ([AV.bool false], []))) (Tr.br ((↑(List.length (bytesInt (Prod.fst (List.foldl stN ([], []) l)))) : Int) == IntKind.wrap IntKind.i64 ((↑(List.length (bytesInt (Prod.fst (List.foldl stN ([], []) l)))) : Int) + (2 : Int))) (Tr.ret ([AV.bool ((1 : Int) == (1 : Int))], [])) (Tr.ret ([AV.bool false], []))))) Tr.no)) Tr.no) Tr.no)) Tr.no)
def os9 : OSpec := { f := 9, sh := [.d (.list (.pair .str .bool)) false, .d .str false], so := [], F := fun (l, n, _) _ => t9 l n }
set_option maxRecDepth 1000000 in
theorem fn9 (l : List (List UInt8 × Bool)) (n : List UInt8) : evC T0 (orcB [fs20w, fs21w, fs29w] [os16, os24w, os24z, os26, os26z, os22z, os19z, os30z, os31z]) (lpOf h9 0 (lsOf [ls9])) c9 1000000 (startSt [.list (.pair .str .bool) l, .str n] [] Try.f9.ntmps) (finishK T0 false 0 Try.f9) = (t9 l n).get := by kernel_rfl
theorem ok9 : os9.Ok Try.prog := by
  refine os_ok mixed0 tab0 (orcB_sound (all_cons okf20w (all_cons okf21w (all_cons okf29w all_nil))) (all_cons ok16 (all_cons ok24w (all_cons ok24z (all_cons ok26 (all_cons ok26z (all_cons ok22z (all_cons ok19z (all_cons ok30z (all_cons ok31z all_nil)))))))))) h9 (d := 0) (n0 := 0) (S := lsOf [ls9]) Try.func9 (by kernel_rfl) (c := c9) (by kernel_rfl) rfl (loops_eq (xs := [(0, b9)]) (by kernel_rfl) (all_cons (ls_here loop9) all_nil)) (by omega) (by kernel_rfl) ?_
  intro x'' y'' q'' hq''
  obtain ⟨(l : List (List UInt8 × Bool)), (n : List UInt8), _⟩ := x''
  exact (fn9 l n).trans hq''
def fs9 : FSpec := fsT 9 [((.list (.pair .str .bool)), false), (.str, false)] [(.bool, false)] fun (l, n, _) => t9 l n
theorem okf9 : fs9.Ok Try.prog := fsT_ok fun x'' r'' hr'' => ok9 x'' () r'' hr''
end Go.Proofs.YtfepkpindchleaaE

/- WireShort: the law. -/
namespace Go.Proofs.YtfepkpindchleaaE
open Go Go.Proofs.YtfepkpindchleaaB
set_option linter.unusedVariables false
set_option linter.unusedSimpArgs false
theorem wireShort_all (l : Parts) (n : List UInt8) (hb : bigS n = true) : (t9 l n).all fun x => x = ([.bool true], []) := by
  unfold t9
  cases hf : fewB l with
  | false => exact Tr.all_t rfl (Tr.all_ret rfl)
  | true =>
    obtain ⟨hl, hx⟩ := fewB_iff.1 hf
    refine Tr.all_f rfl (Tr.all_t hb ?_)
    cases hm : mayV n with
    | false => exact Tr.all_t rfl (Tr.all_ret rfl)
    | true =>
      have hg : GoodP l.length (l.foldl stN ([], [])) := by
        have := fold_good (st := stN) (fun k p x h hx => (stN_good h hx).1) l 0 ([], []) good_nil hx
        rwa [Nat.zero_add] at this
      generalize l.foldl stN ([], []) = p at hg
      have hn := (may_iff.1 hm).2.1
      have g1 : GoodP (l.length + 1) (nameP n p.1 p.2) := by
        have := (stN_good (x := (n, false)) hg (by show n.length ≤ 400; omega)).1
        unfold stN at this
        rw [show mayV (n, false).1 = true from hm, cond_true] at this
        exact this
      have g2 : GoodP (l.length + 2) (nameP n (nameP n p.1 p.2).1 (nameP n p.1 p.2).2) := by
        have := (stN_good (x := (n, false)) g1 (by show n.length ≤ 400; omega)).1
        unfold stN at this
        rw [show mayV (n, false).1 = true from hm, cond_true] at this
        exact this
      have hp := hg.2
      have hp1 := g1.2
      have ht := nameP_twice (n := n) (S := p.1) (L := p.2) hm (by omega)
      have hw1 := IntWalk.i64_in (((nameP n p.1 p.2).1.length : Int) + 1) (by omega)
      have hw2 := IntWalk.i64_in (((nameP n p.1 p.2).1.length : Int) + 2) (by omega)
      have hbl : Nat.ble n.length 100000000000 = true := Nat.ble_eq_true_of_le (by omega)
      by_cases h0 : n = [0]
      · rw [if_pos h0] at ht
        have hz : (n == [0]) = true := beq_iff_eq.2 h0
        simp [hm, hf, p0C, intB_bytes, pkC_good hg (by omega), pkC_good g1 (by omega), hbl, allT, allF, allR, bytesInt_len, hw1, ht, hz]
      · rw [if_neg h0] at ht
        have hz : (n == [0]) = false := beq_eq_false_iff_ne.2 h0
        simp [hm, hf, p0C, intB_bytes, pkC_good hg (by omega), pkC_good g1 (by omega), hbl, allT, allF, allR, bytesInt_len, hw2, ht, hz]
theorem bulk_big {n : List UInt8} (h : bulkT .str n ≤ 1048576) : bigS n = true := by
  have : List.length n + 1 ≤ 1048576 := h
  simp [bigS]
  omega
theorem sem9 (l : Parts) (n : List UInt8) (hbk : bulkT .str n ≤ 1048576) : SemF Try.prog 9 [.list (.pair .str .bool) l, .str n] [] [.bool true] [] :=
  ok9 (l, n, ()) () ([.bool true], []) (Tr.get_of_all (wireShort_all l n (bulk_big hbk)))
end Go.Proofs.YtfepkpindchleaaE

/- the document's packs. -/
namespace Go.Proofs.YtfepkpindchleaaE
open Go Go.Proofs.YtfepkpindchleaaB
set_option linter.unusedVariables false
set_option linter.unusedSimpArgs false
set_option maxRecDepth 100000
def knC (n S : List UInt8) (L : Known) (i : Int) : Bool := decide (i = 0) && Nat.ble L.length 1000000000000
noncomputable def b44 : Code := (nthLoop c44 0)
def ls44 : LoopSpec := { bid := 0, sh := [.d .str false, .ptr 0 0, .d (.int .i64) false], so := [.box [.d .str false, .d (.list (.pair .str (.int .i64))) false]], F := fun (n, i, _) ((S, L, _), _) => .on2 (knC n S L i) ((lookK n L).isSome) (.ret, [.int .i64 ((lookK n L).getD 0)], []) (.exit 0, [.dead], []) }
def r44 (n : List UInt8) (i : Int) (S : List UInt8) (L : List (List UInt8 × Int)) : Tr (St ⊕ (Ex × St)) := Tr.br (decide (i < (↑(List.length L) : Int))) (Tr.br (decide ((0 : Int) ≤ i)) (Tr.br (decide (i < (↑(List.length L) : Int))) (Tr.br (Prod.fst (List.getD L (Int.toNat i) (([], 0))) == n) (Tr.br (decide ((0 : Int) ≤ i)) (Tr.br (decide (i < (↑(List.length L) : Int))) (Tr.ret (Sum.inr (Ex.ret, stOf [4] [AV.int IntKind.i64 (Prod.snd (List.getD L (Int.toNat i) (([], 0))))] []))) Tr.no) Tr.no) (Tr.ret (Sum.inl (stOf [1, 2, 5] [AV.str n, AV.ptr 0 0, AV.int IntKind.i64 (IntKind.wrap IntKind.i64 (i + (1 : Int)))] [LObj.boxT none [AV.str S, AV.list (Ty.pair Ty.str (Ty.int IntKind.i64)) L]])))) Tr.no) Tr.no) (Tr.ret (Sum.inr (Ex.exit 0, stOf [4] [AV.dead] [])))
set_option maxRecDepth 1000000 in
theorem round44 (orc : Orc) (lp : Lp) (n : List UInt8) (i : Int) (S : List UInt8) (L : List (List UInt8 × Int)) : evC T0 orc lp b44 0 (stOf [1, 2, 5] [.str n, .ptr 0 0, .int .i64 i] [.box [.str S, .list (.pair .str (.int .i64)) L]]) (roundK [1, 2, 5] [4] 0) = (r44 n i S L).get := by kernel_rfl
theorem wf44 (orc : Orc) (n : List UInt8) (S : List UInt8) (L : List (List UInt8 × Int)) (I'' : Int → Prop) (m'' : Int → Nat) (r'' : Ex × St) (h : ∀ (i : Int), I'' i → (r44 n i S L).all fun x'' => x'' = .inr r'' ∨ ∃ (i' : Int), x'' = .inl (stOf [1, 2, 5] [.str n, .ptr 0 0, .int .i64 i'] [.box [.str S, .list (.pair .str (.int .i64)) L]]) ∧ I'' i' ∧ m'' i' < m'' i) (lp : Lp) (i : Int) : I'' i →
    loopF (fun st => evC T0 orc lp b44 0 st (roundK [1, 2, 5] [4] 0)) (stOf [1, 2, 5] [.str n, .ptr 0 0, .int .i64 i] [.box [.str S, .list (.pair .str (.int .i64)) L]]) = some r'' :=
  loop_tr (fun a'' : Int => stOf [1, 2, 5] [.str n, .ptr 0 0, .int .i64 a''] [.box [.str S, .list (.pair .str (.int .i64)) L]]) (fun a'' => I'' a'') (fun a'' => m'' a'') r'' (fun a'' => r44 n a'' S L)
    (fun a'' x hx => (round44 orc lp n a'' S L).trans hx) (fun a'' ha => Tr.all_mono (fun x'' hx => hx.imp id fun ⟨i', h1, h2, h3⟩ => ⟨(i'), h1, h2, h3⟩) (h (a'') ha)) (i)
theorem keq_str (a b : List UInt8) : Ty.keq .str a b = (a == b) := rfl
theorem lookK_at {n : List UInt8} {L : Known} {k : Nat} (hk : k < L.length) : lookK n (L.drop k) = if (L.getD k ([], 0)).1 == n then some (L.getD k ([], 0)).2 else lookK n (L.drop (k + 1)) := by
  rw [drop_get L k ([], 0) hk]
  unfold lookK
  rw [lookM, keq_str]
  by_cases h : n = (L.getD k ([], 0)).1
  · rw [show (n == (L.getD k ([], 0)).1) = true by simp only [beq_iff_eq]; exact h, show ((L.getD k ([], 0)).1 == n) = true by simp only [beq_iff_eq]; exact h.symm]
    rfl
  · rw [show (n == (L.getD k ([], 0)).1) = false by simp only [beq_eq_false_iff_ne]; exact h, show ((L.getD k ([], 0)).1 == n) = false by simp only [beq_eq_false_iff_ne]; exact fun e => h e.symm]
    rfl
theorem loop44 (orc : Orc) : ls44.Ok T0 orc h44 0 0 b44 := by
  intro q'' hq'' x'' y'' r'' h
  obtain ⟨(n : List UInt8), (i : Int), _⟩ := x''
  obtain ⟨⟨(S : List UInt8), (L : List (List UInt8 × Int)), _⟩, _⟩ := y''
  obtain ⟨hc, rfl⟩ := Tr.get_on2 h
  show loopF (fun st => evC T0 orc (lpN T0 orc h44 0 q'') b44 0 st (roundK [1, 2, 5] [4] 0)) (stOf [1, 2, 5] [.str n, .ptr 0 0, .int .i64 i] [.box [.str S, .list (.pair .str (.int .i64)) L]]) = some ((bif (lookK n L).isSome then (.ret, [.int .i64 ((lookK n L).getD 0)], []) else (.exit 0, [.dead], []) : Ex × List AV × List LObj).1, stOf [4] (bif (lookK n L).isSome then (.ret, [.int .i64 ((lookK n L).getD 0)], []) else (.exit 0, [.dead], []) : Ex × List AV × List LObj).2.1 (bif (lookK n L).isSome then (.ret, [.int .i64 ((lookK n L).getD 0)], []) else (.exit 0, [.dead], []) : Ex × List AV × List LObj).2.2)
  simp only [knC, Bool.and_eq_true, decide_eq_true_eq] at hc
  obtain ⟨rfl, hb⟩ := hc
  have hb := Nat.le_of_ble_eq_true hb
  refine wf44 _ n S L (fun i => 0 ≤ i ∧ i ≤ L.length ∧ lookK n (L.drop i.toNat) = lookK n L) (fun i => (L.length - i).toNat) _ ?_ _ 0 ⟨by omega, by omega, rfl⟩
  rintro i ⟨h0, h1, he⟩
  unfold r44
  by_cases hlt : i < L.length
  · rw [lookK_at (by omega)] at he
    refine Tr.all_t (dec_true hlt) (Tr.all_t (dec_true h0) (Tr.all_t (dec_true hlt) (Tr.all_br (fun c1 => ?_) fun c1 => ?_)))
    · rw [if_pos c1] at he
      rw [← he]
      exact Tr.all_t (dec_true h0) (Tr.all_t (dec_true hlt) (Tr.all_ret (.inl rfl)))
    · rw [if_neg (by rw [c1]; simp)] at he
      rw [IntWalk.i64_in _ (by omega)]
      exact Tr.all_ret (.inr ⟨_, rfl, ⟨by omega, by omega, by rw [show (i + 1).toNat = i.toNat + 1 by omega]; exact he⟩, by omega⟩)
  · rw [List.drop_of_length_le (by omega)] at he
    rw [← he]
    exact Tr.all_f (dec_false hlt) (Tr.all_ret (.inl rfl))
/-- derrickref03.known -/
def t44 (p : (List UInt8 × List (List UInt8 × Int))) (n : List UInt8) : Tr Res := Tr.br (knC n (Prod.fst p) (Prod.snd p) (0 : Int)) (Tr.br (Option.isSome (lookK n (Prod.snd p))) (Tr.ret ([AV.int IntKind.i64 (Option.getD (lookK n (Prod.snd p)) (0 : Int))], [])) (Tr.ret ([AV.int IntKind.i64 (-1 : Int)], []))) Tr.no
def os44 : OSpec := { f := 44, sh := [.d (.pair .str (.list (.pair .str (.int .i64)))) true, .d .str false], so := [], F := fun (p, n, _) _ => t44 p n }
set_option maxRecDepth 1000000 in
theorem fn44 (p : (List UInt8 × List (List UInt8 × Int))) (n : List UInt8) : evC T0 (orcB [] []) (lpOf h44 0 (lsOf [ls44])) c44 1000000 (startSt [AV.ofTy (.pair .str (.list (.pair .str (.int .i64)))) p true, .str n] [] Try.f44.ntmps) (finishK T0 false 0 Try.f44) = (t44 p n).get := by kernel_rfl
theorem ok44 : os44.Ok Try.prog := by
  refine os_ok mixed0 tab0 (orcB_sound all_nil all_nil) h44 (d := 0) (n0 := 0) (S := lsOf [ls44]) Try.func44 (by kernel_rfl) (c := c44) (by kernel_rfl) rfl (loops_eq (xs := [(0, b44)]) (by kernel_rfl) (all_cons (ls_here (loop44 _)) all_nil)) (by omega) (by kernel_rfl) ?_
  intro x'' y'' q'' hq''
  obtain ⟨(p : (List UInt8 × List (List UInt8 × Int))), (n : List UInt8), _⟩ := x''
  exact (fn44 p n).trans hq''
def fs44 : FSpec := fsT 44 [((.pair .str (.list (.pair .str (.int .i64)))), true), (.str, false)] [((.int .i64), false)] fun (p, n, _) => t44 p n
theorem okf44 : fs44.Ok Try.prog := fsT_ok fun x'' r'' hr'' => ok44 x'' () r'' hr''
/-- derrickref03.Add -/
def t23 (p : (List UInt8 × List (List UInt8 × Int))) (s : List UInt8) : Tr Res := Tr.br (Nat.ble (List.length (Prod.fst p) + List.length s) 9223372036854775807) (Tr.ret ([AV.agg [AV.str (Prod.fst p ++ s), AV.list (Ty.pair Ty.str (Ty.int IntKind.i64)) (Prod.snd p)]], [])) Tr.no
def os23 : OSpec := { f := 23, sh := [.d (.pair .str (.list (.pair .str (.int .i64)))) true, .d .str false], so := [], F := fun (p, s, _) _ => t23 p s }
set_option maxRecDepth 1000000 in
theorem fn23 (p : (List UInt8 × List (List UInt8 × Int))) (s : List UInt8) : evC T0 (orcB [] []) (lpOf h23 0 (lsOf [])) c23 1000000 (startSt [AV.ofTy (.pair .str (.list (.pair .str (.int .i64)))) p true, .str s] [] Try.f23.ntmps) (finishK T0 false 0 Try.f23) = (t23 p s).get := by kernel_rfl
theorem ok23 : os23.Ok Try.prog := by
  refine os_ok mixed0 tab0 (orcB_sound all_nil all_nil) h23 (d := 0) (n0 := 0) (S := lsOf []) Try.func23 (by kernel_rfl) (c := c23) (by kernel_rfl) rfl (no_loops (by kernel_rfl)) (by omega) (by kernel_rfl) ?_
  intro x'' y'' q'' hq''
  obtain ⟨(p : (List UInt8 × List (List UInt8 × Int))), (s : List UInt8), _⟩ := x''
  exact (fn23 p s).trans hq''
def fs23 : FSpec := fsT 23 [((.pair .str (.list (.pair .str (.int .i64)))), true), (.str, false)] [((.pair .str (.list (.pair .str (.int .i64)))), true)] fun (p, s, _) => t23 p s
theorem okf23 : fs23.Ok Try.prog := fsT_ok fun x'' r'' hr'' => ok23 x'' () r'' hr''
def kLen (L : Known) : Bool := Nat.ble L.length 1000000000000
def fs44w : FSpec := fs44.like fun (p, n, _) => .on (kLen p.2) ((lookK n p.2).getD (-1), ())
theorem okf44w : fs44w.Ok Try.prog := by
  refine flike_ok okf44 _ ?_
  rintro ⟨(p : List UInt8 × Known), (n : List UInt8), _⟩ y h
  obtain ⟨hb, rfl⟩ := Tr.get_on h
  have hb' : Nat.ble p.2.length 1000000000000 = true := hb
  refine convR_of (vs := [.int .i64 ((lookK n p.2).getD (-1))]) rfl rfl (Tr.get_of_all ?_)
  show (t44 p n).all _
  refine Tr.all_t (by unfold knC; rw [hb']; rfl) ?_
  cases h : lookK n p.2 with
  | none => exact Tr.all_f rfl (Tr.all_ret rfl)
  | some a => exact Tr.all_t rfl (Tr.all_ret rfl)
def rnC (n S0 : List UInt8) (L0 : Known) (S : List UInt8) (L : Known) : Bool := rootV n && (kOk L && (Nat.ble (S.length + n.length) 100000000000 && Nat.ble (L.length + n.length) 100000000000))
noncomputable def b25 : Code := (nthLoop c25 0)
def ls25 : LoopSpec := { bid := 0, sh := [.d .str false, .ptr 0 0, .ptr 2 0], so := [.box [.d .str false, .row 1], .row (.pair .str (.int .i64)), .box [.d .str false, .row 3], .row (.pair .str (.int .i64))], F := fun (n, _) ((S0, _), L0, (S, _), L, _) => .on2 (rnC n S0 L0 S L) ((nameL n S L).1.isSome) (.ret, [.ptr 0 0, .int .i64 0, .ptr 1 0], [.box [.str ((nameL n S L).2.2.1 ++ put16 (49152 + (nameL n S L).1.getD 0)), .list (.pair .str (.int .i64)) (nameL n S L).2.2.2], .box [.str (nameL n S L).2.2.1, .list (.pair .str (.int .i64)) (nameL n S L).2.2.2]]) (.exit 0, [.ptr 0 0, .dead, .ptr 2 0], [.box [.str S0, .rowA 1], .row (.pair .str (.int .i64)) L0, .box [.str (nameL n S L).2.2.1, .rowA 3], .row (.pair .str (.int .i64)) (nameL n S L).2.2.2]) }
def r25 (n : List UInt8) (S0 : List UInt8) (L0 : List (List UInt8 × Int)) (S : List UInt8) (L : List (List UInt8 × Int)) : Tr (St ⊕ (Ex × St)) := Tr.br (!n == [0]) (Tr.br (kLen L) (Tr.br (decide (Option.getD (lookK n L) (-1 : Int) ≥ (0 : Int))) (Tr.br (n16C (IntKind.wrap IntKind.u16 (IntKind.wrap IntKind.i64 ((49152 : Int) + Option.getD (lookK n L) (-1 : Int))))) (Tr.br (Nat.ble (List.length S + List.length (put16 (IntKind.wrap IntKind.u16 (IntKind.wrap IntKind.i64 ((49152 : Int) + Option.getD (lookK n L) (-1 : Int)))))) 9223372036854775807) (Tr.ret (Sum.inr (Ex.ret, stOf [4, 5, 6] [AV.ptr 0 0, AV.int IntKind.i64 (0 : Int), AV.ptr 1 0] [LObj.boxT none [AV.str (S ++ put16 (IntKind.wrap IntKind.u16 (IntKind.wrap IntKind.i64 ((49152 : Int) + Option.getD (lookK n L) (-1 : Int))))), AV.list (Ty.pair Ty.str (Ty.int IntKind.i64)) L], LObj.boxT none [AV.str S, AV.list (Ty.pair Ty.str (Ty.int IntKind.i64)) L]]))) Tr.no) Tr.no) (Tr.br (decide ((↑(List.length S) : Int) < (16384 : Int))) (Tr.br (fits (List.length L + 1) 24) (Tr.br (decide ((0 : Int) < (↑(List.length n) : Int))) (Tr.br (decide ((0 : Int) ≤ IntKind.wrap IntKind.i64 ((1 : Int) + IntKind.wrap IntKind.i64 (↑(UInt8.toNat (List.getD n (Int.toNat (0 : Int)) 0)) : Int))) && decide (IntKind.wrap IntKind.i64 ((1 : Int) + IntKind.wrap IntKind.i64 (↑(UInt8.toNat (List.getD n (Int.toNat (0 : Int)) 0)) : Int)) ≤ (↑(List.length n) : Int))) (Tr.br (decide ((0 : Int) ≤ (0 : Int)) && decide ((0 : Int) ≤ IntKind.wrap IntKind.i64 ((1 : Int) + IntKind.wrap IntKind.i64 (↑(UInt8.toNat (List.getD n (Int.toNat (0 : Int)) 0)) : Int)))) (Tr.br (Nat.ble (List.length S + List.length (List.take (Int.toNat (IntKind.wrap IntKind.i64 ((1 : Int) + IntKind.wrap IntKind.i64 (↑(UInt8.toNat (List.getD n (Int.toNat (0 : Int)) 0)) : Int))) - Int.toNat (0 : Int)) (List.drop (Int.toNat (0 : Int)) n))) 9223372036854775807) (Tr.br (decide ((0 : Int) ≤ (↑(List.length n) : Int)) && decide ((↑(List.length n) : Int) ≤ (↑(List.length n) : Int))) (Tr.br (decide ((0 : Int) ≤ IntKind.wrap IntKind.i64 ((1 : Int) + IntKind.wrap IntKind.i64 (↑(UInt8.toNat (List.getD n (Int.toNat (0 : Int)) 0)) : Int))) && decide (IntKind.wrap IntKind.i64 ((1 : Int) + IntKind.wrap IntKind.i64 (↑(UInt8.toNat (List.getD n (Int.toNat (0 : Int)) 0)) : Int)) ≤ (↑(List.length n) : Int))) (Tr.ret (Sum.inl (stOf [1, 4, 6] [AV.str (List.take (Int.toNat (↑(List.length n) : Int) - Int.toNat (IntKind.wrap IntKind.i64 ((1 : Int) + IntKind.wrap IntKind.i64 (↑(UInt8.toNat (List.getD n (Int.toNat (0 : Int)) 0)) : Int)))) (List.drop (Int.toNat (IntKind.wrap IntKind.i64 ((1 : Int) + IntKind.wrap IntKind.i64 (↑(UInt8.toNat (List.getD n (Int.toNat (0 : Int)) 0)) : Int)))) n)), AV.ptr 0 0, AV.ptr 2 0] [LObj.boxT none [AV.str S0, AV.rowA 1], LObj.row (Ty.pair Ty.str (Ty.int IntKind.i64)) L0, LObj.boxT none [AV.str (S ++ List.take (Int.toNat (IntKind.wrap IntKind.i64 ((1 : Int) + IntKind.wrap IntKind.i64 (↑(UInt8.toNat (List.getD n (Int.toNat (0 : Int)) 0)) : Int))) - Int.toNat (0 : Int)) (List.drop (Int.toNat (0 : Int)) n)), AV.rowA 3], LObj.row (Ty.pair Ty.str (Ty.int IntKind.i64)) (L ++ [(n, (↑(List.length S) : Int))])]))) Tr.no) Tr.no) Tr.no) Tr.no) Tr.no) Tr.no) Tr.no) (Tr.br (decide ((0 : Int) < (↑(List.length n) : Int))) (Tr.br (decide ((0 : Int) ≤ IntKind.wrap IntKind.i64 ((1 : Int) + IntKind.wrap IntKind.i64 (↑(UInt8.toNat (List.getD n (Int.toNat (0 : Int)) 0)) : Int))) && decide (IntKind.wrap IntKind.i64 ((1 : Int) + IntKind.wrap IntKind.i64 (↑(UInt8.toNat (List.getD n (Int.toNat (0 : Int)) 0)) : Int)) ≤ (↑(List.length n) : Int))) (Tr.br (decide ((0 : Int) ≤ (0 : Int)) && decide ((0 : Int) ≤ IntKind.wrap IntKind.i64 ((1 : Int) + IntKind.wrap IntKind.i64 (↑(UInt8.toNat (List.getD n (Int.toNat (0 : Int)) 0)) : Int)))) (Tr.br (Nat.ble (List.length S + List.length (List.take (Int.toNat (IntKind.wrap IntKind.i64 ((1 : Int) + IntKind.wrap IntKind.i64 (↑(UInt8.toNat (List.getD n (Int.toNat (0 : Int)) 0)) : Int))) - Int.toNat (0 : Int)) (List.drop (Int.toNat (0 : Int)) n))) 9223372036854775807) (Tr.br (decide ((0 : Int) ≤ (↑(List.length n) : Int)) && decide ((↑(List.length n) : Int) ≤ (↑(List.length n) : Int))) (Tr.br (decide ((0 : Int) ≤ IntKind.wrap IntKind.i64 ((1 : Int) + IntKind.wrap IntKind.i64 (↑(UInt8.toNat (List.getD n (Int.toNat (0 : Int)) 0)) : Int))) && decide (IntKind.wrap IntKind.i64 ((1 : Int) + IntKind.wrap IntKind.i64 (↑(UInt8.toNat (List.getD n (Int.toNat (0 : Int)) 0)) : Int)) ≤ (↑(List.length n) : Int))) (Tr.ret (Sum.inl (stOf [1, 4, 6] [AV.str (List.take (Int.toNat (↑(List.length n) : Int) - Int.toNat (IntKind.wrap IntKind.i64 ((1 : Int) + IntKind.wrap IntKind.i64 (↑(UInt8.toNat (List.getD n (Int.toNat (0 : Int)) 0)) : Int)))) (List.drop (Int.toNat (IntKind.wrap IntKind.i64 ((1 : Int) + IntKind.wrap IntKind.i64 (↑(UInt8.toNat (List.getD n (Int.toNat (0 : Int)) 0)) : Int)))) n)), AV.ptr 0 0, AV.ptr 2 0] [LObj.boxT none [AV.str S0, AV.rowA 1], LObj.row (Ty.pair Ty.str (Ty.int IntKind.i64)) L0, LObj.boxT none [AV.str (S ++ List.take (Int.toNat (IntKind.wrap IntKind.i64 ((1 : Int) + IntKind.wrap IntKind.i64 (↑(UInt8.toNat (List.getD n (Int.toNat (0 : Int)) 0)) : Int))) - Int.toNat (0 : Int)) (List.drop (Int.toNat (0 : Int)) n)), AV.rowA 3], LObj.row (Ty.pair Ty.str (Ty.int IntKind.i64)) L]))) Tr.no) Tr.no) Tr.no) Tr.no) Tr.no) Tr.no))) Tr.no) (Tr.ret (Sum.inr (Ex.exit 0, stOf [4, 5, 6] [AV.ptr 0 0, AV.dead, AV.ptr 2 0] [LObj.boxT none [AV.str S0, AV.rowA 1], LObj.row (Ty.pair Ty.str (Ty.int IntKind.i64)) L0, LObj.boxT none [AV.str S, AV.rowA 3], LObj.row (Ty.pair Ty.str (Ty.int IntKind.i64)) L])))
set_option maxRecDepth 1000000 in
theorem round25 (lp : Lp) (n : List UInt8) (S0 : List UInt8) (L0 : List (List UInt8 × Int)) (S : List UInt8) (L : List (List UInt8 × Int)) : evC T0 (orcB [fs43v, fs44w, fs23, fs45w] []) lp b25 0 (stOf [1, 4, 6] [.str n, .ptr 0 0, .ptr 2 0] [.box [.str S0, .rowA 1], .row (.pair .str (.int .i64)) L0, .box [.str S, .rowA 3], .row (.pair .str (.int .i64)) L]) (roundK [1, 4, 6] [4, 5, 6] 0) = (r25 n S0 L0 S L).get := by kernel_rfl
theorem wf25 (S0 : List UInt8) (L0 : List (List UInt8 × Int)) (I'' : List UInt8 → List UInt8 → List (List UInt8 × Int) → Prop) (m'' : List UInt8 → List UInt8 → List (List UInt8 × Int) → Nat) (r'' : Ex × St) (h : ∀ (n : List UInt8) (S : List UInt8) (L : List (List UInt8 × Int)), I'' n S L → (r25 n S0 L0 S L).all fun x'' => x'' = .inr r'' ∨ ∃ (n' : List UInt8) (S' : List UInt8) (L' : List (List UInt8 × Int)), x'' = .inl (stOf [1, 4, 6] [.str n', .ptr 0 0, .ptr 2 0] [.box [.str S0, .rowA 1], .row (.pair .str (.int .i64)) L0, .box [.str S', .rowA 3], .row (.pair .str (.int .i64)) L']) ∧ I'' n' S' L' ∧ m'' n' S' L' < m'' n S L) (lp : Lp) (n : List UInt8) (S : List UInt8) (L : List (List UInt8 × Int)) : I'' n S L →
    loopF (fun st => evC T0 (orcB [fs43v, fs44w, fs23, fs45w] []) lp b25 0 st (roundK [1, 4, 6] [4, 5, 6] 0)) (stOf [1, 4, 6] [.str n, .ptr 0 0, .ptr 2 0] [.box [.str S0, .rowA 1], .row (.pair .str (.int .i64)) L0, .box [.str S, .rowA 3], .row (.pair .str (.int .i64)) L]) = some r'' :=
  loop_tr (fun a'' : List UInt8 × List UInt8 × List (List UInt8 × Int) => stOf [1, 4, 6] [.str a''.1, .ptr 0 0, .ptr 2 0] [.box [.str S0, .rowA 1], .row (.pair .str (.int .i64)) L0, .box [.str a''.2.1, .rowA 3], .row (.pair .str (.int .i64)) a''.2.2]) (fun a'' => I'' a''.1 a''.2.1 a''.2.2) (fun a'' => m'' a''.1 a''.2.1 a''.2.2) r'' (fun a'' => r25 a''.1 S0 L0 a''.2.1 a''.2.2)
    (fun a'' x hx => (round25 lp a''.1 S0 L0 a''.2.1 a''.2.2).trans hx) (fun a'' ha => Tr.all_mono (fun x'' hx => hx.imp id fun ⟨n', S', L', h1, h2, h3⟩ => ⟨(n', S', L'), h1, h2, h3⟩) (h (a''.1) (a''.2.1) (a''.2.2) ha)) (n, S, L)
def rnI (n S : List UInt8) (L : Known) (n' S' : List UInt8) (L' : Known) : Prop := rootV n' = true ∧ kOk L' = true ∧ S'.length + n'.length ≤ 100000000000 ∧ L'.length + n'.length ≤ 100000000000 ∧ nameL n' S' L' = nameL n S L
theorem loop25 : ls25.Ok T0 (orcB [fs43v, fs44w, fs23, fs45w] []) h25 0 0 b25 := by
  intro q'' hq'' x'' y'' r'' h
  obtain ⟨(n : List UInt8), _⟩ := x''
  obtain ⟨⟨(S0 : List UInt8), _⟩, (L0 : List (List UInt8 × Int)), ⟨(S : List UInt8), _⟩, (L : List (List UInt8 × Int)), _⟩ := y''
  obtain ⟨hc, rfl⟩ := Tr.get_on2 h
  show loopF (fun st => evC T0 (orcB [fs43v, fs44w, fs23, fs45w] []) (lpN T0 (orcB [fs43v, fs44w, fs23, fs45w] []) h25 0 q'') b25 0 st (roundK [1, 4, 6] [4, 5, 6] 0)) (stOf [1, 4, 6] [.str n, .ptr 0 0, .ptr 2 0] [.box [.str S0, .rowA 1], .row (.pair .str (.int .i64)) L0, .box [.str S, .rowA 3], .row (.pair .str (.int .i64)) L]) = some ((bif (nameL n S L).1.isSome then (.ret, [.ptr 0 0, .int .i64 0, .ptr 1 0], [.box [.str ((nameL n S L).2.2.1 ++ put16 (49152 + (nameL n S L).1.getD 0)), .list (.pair .str (.int .i64)) (nameL n S L).2.2.2], .box [.str (nameL n S L).2.2.1, .list (.pair .str (.int .i64)) (nameL n S L).2.2.2]]) else (.exit 0, [.ptr 0 0, .dead, .ptr 2 0], [.box [.str S0, .rowA 1], .row (.pair .str (.int .i64)) L0, .box [.str (nameL n S L).2.2.1, .rowA 3], .row (.pair .str (.int .i64)) (nameL n S L).2.2.2]) : Ex × List AV × List LObj).1, stOf [4, 5, 6] (bif (nameL n S L).1.isSome then (.ret, [.ptr 0 0, .int .i64 0, .ptr 1 0], [.box [.str ((nameL n S L).2.2.1 ++ put16 (49152 + (nameL n S L).1.getD 0)), .list (.pair .str (.int .i64)) (nameL n S L).2.2.2], .box [.str (nameL n S L).2.2.1, .list (.pair .str (.int .i64)) (nameL n S L).2.2.2]]) else (.exit 0, [.ptr 0 0, .dead, .ptr 2 0], [.box [.str S0, .rowA 1], .row (.pair .str (.int .i64)) L0, .box [.str (nameL n S L).2.2.1, .rowA 3], .row (.pair .str (.int .i64)) (nameL n S L).2.2.2]) : Ex × List AV × List LObj).2.1 (bif (nameL n S L).1.isSome then (.ret, [.ptr 0 0, .int .i64 0, .ptr 1 0], [.box [.str ((nameL n S L).2.2.1 ++ put16 (49152 + (nameL n S L).1.getD 0)), .list (.pair .str (.int .i64)) (nameL n S L).2.2.2], .box [.str (nameL n S L).2.2.1, .list (.pair .str (.int .i64)) (nameL n S L).2.2.2]]) else (.exit 0, [.ptr 0 0, .dead, .ptr 2 0], [.box [.str S0, .rowA 1], .row (.pair .str (.int .i64)) L0, .box [.str (nameL n S L).2.2.1, .rowA 3], .row (.pair .str (.int .i64)) (nameL n S L).2.2.2]) : Ex × List AV × List LObj).2.2)
  simp only [rnC, Bool.and_eq_true] at hc
  obtain ⟨hr, hk, hb, hb2⟩ := hc
  have hb := Nat.le_of_ble_eq_true hb
  have hb2 := Nat.le_of_ble_eq_true hb2
  refine wf25 S0 L0 (rnI n S L) (fun n _ _ => n.length) _ ?_ _ n S L ⟨hr, hk, hb, hb2, rfl⟩
  clear hr hk hb hb2
  rintro n S L ⟨hr, hk, hb, hb2, he⟩
  rw [← he]
  unfold r25
  have hkl : kLen L = true := Nat.ble_eq_true_of_le (by omega)
  rcases root_cases hr with rfl | ⟨hn0, hn1, hlt, h63, hne, hrt⟩
  · rw [nameL_root]
    exact Tr.all_f (by simp) (Tr.all_ret (.inl rfl))
  · refine Tr.all_t (by simpa using hn0) (Tr.all_t hkl ?_)
    cases hlk : lookK n L with
    | some a =>
      obtain ⟨ha0, ha1⟩ := kOk_look hk hlk
      rw [nameL_known hn0 hlk]
      have hw : IntKind.wrap IntKind.u16 (IntKind.wrap IntKind.i64 ((49152 : Int) + a)) = 49152 + a := by
        rw [IntWalk.i64_in _ (by omega), IntWalk.u16_in _ (by omega)]
      simp only [Option.getD_some, hw]
      exact Tr.all_t (dec_true (by omega)) (Tr.all_t (by simp [n16C]; omega) (Tr.all_t (Nat.ble_eq_true_of_le (by rw [put16_len]; omega)) (Tr.all_ret (.inl rfl))))
    | none =>
      rw [nameL_next hn0 hn1 hlk]
      simp only [szW, hdW, tlW, Option.getD_none]
      have hl := hdN_len (n := n) (by omega)
      have hl2 := tlN_len n
      have hm : (tlN n).length < n.length := tlN_lt hn1
      refine Tr.all_f (by decide) (Tr.all_br (fun c1 => ?_) fun c1 => ?_)
      · simp only [decide_eq_true_eq] at c1
        refine Tr.all_t (fits_true (by omega) (by omega)) (Tr.all_t (dec_true (by omega)) (Tr.all_t (by rw [dec_true (by omega), dec_true (by omega)]; rfl) (Tr.all_t (by rw [dec_true (by omega), dec_true (by omega)]; rfl) (Tr.all_t (Nat.ble_eq_true_of_le (by omega)) (Tr.all_t (by rw [dec_true (by omega), dec_true (by omega)]; rfl) (Tr.all_t (by rw [dec_true (by omega), dec_true (by omega)]; rfl) (Tr.all_ret (.inr ⟨_, _, _, rfl, ⟨hrt, kOk_add hk (by omega), by rw [List.length_append]; omega, by simp; omega, ?_⟩, hm⟩))))))))
        rw [← he, nameL_next hn0 hn1 hlk, if_pos (by omega)]
      · simp only [decide_eq_false_iff_not] at c1
        refine Tr.all_t (dec_true (by omega)) (Tr.all_t (by rw [dec_true (by omega), dec_true (by omega)]; rfl) (Tr.all_t (by rw [dec_true (by omega), dec_true (by omega)]; rfl) (Tr.all_t (Nat.ble_eq_true_of_le (by omega)) (Tr.all_t (by rw [dec_true (by omega), dec_true (by omega)]; rfl) (Tr.all_t (by rw [dec_true (by omega), dec_true (by omega)]; rfl) (Tr.all_ret (.inr ⟨_, _, _, rfl, ⟨hrt, hk, by rw [List.length_append]; omega, by omega, ?_⟩, hm⟩)))))))
        rw [← he, nameL_next hn0 hn1 hlk, if_neg (by omega)]
/-- derrickref03.Name -/
def t25 (p : (List UInt8 × List (List UInt8 × Int))) (n : List UInt8) : Tr Res := Tr.br (bigS n) (Tr.br (!mayV n) (Tr.ret ([AV.agg [AV.str (Prod.fst p), AV.list (Ty.pair Ty.str (Ty.int IntKind.i64)) (Prod.snd p)], AV.int IntKind.i64 (1 : Int)], [])) (Tr.br (fits (0 + List.length (Prod.snd p)) 24) (Tr.br (rnC n [] [] (Prod.fst p) ([] ++ Prod.snd p)) (Tr.br (Option.isSome (Prod.fst (nameL n (Prod.fst p) ([] ++ Prod.snd p)))) (Tr.ret ([AV.agg [AV.str (Prod.fst (Prod.snd (Prod.snd (nameL n (Prod.fst p) ([] ++ Prod.snd p)))) ++ put16 ((49152 : Int) + Option.getD (Prod.fst (nameL n (Prod.fst p) ([] ++ Prod.snd p))) (0 : Int))), AV.list (Ty.pair Ty.str (Ty.int IntKind.i64)) (Prod.snd (Prod.snd (Prod.snd (nameL n (Prod.fst p) ([] ++ Prod.snd p)))))], AV.int IntKind.i64 (0 : Int)], [])) (Tr.br (Nat.ble (List.length (Prod.fst (Prod.snd (Prod.snd (nameL n (Prod.fst p) ([] ++ Prod.snd p))))) + List.length ([0])) 9223372036854775807) (Tr.ret ([AV.agg [AV.str (Prod.fst (Prod.snd (Prod.snd (nameL n (Prod.fst p) ([] ++ Prod.snd p)))) ++ [0]), AV.list (Ty.pair Ty.str (Ty.int IntKind.i64)) (Prod.snd (Prod.snd (Prod.snd (nameL n (Prod.fst p) ([] ++ Prod.snd p)))))], AV.int IntKind.i64 (0 : Int)], [])) Tr.no)) Tr.no) Tr.no)) Tr.no
def os25 : OSpec := { f := 25, sh := [.d (.pair .str (.list (.pair .str (.int .i64)))) true, .d .str false], so := [], F := fun (p, n, _) _ => t25 p n }
set_option maxRecDepth 1000000 in
theorem fn25 (p : (List UInt8 × List (List UInt8 × Int))) (n : List UInt8) : evC T0 (orcB [fs43v, fs44w, fs23, fs45w] []) (lpOf h25 0 (lsOf [ls25])) c25 1000000 (startSt [AV.ofTy (.pair .str (.list (.pair .str (.int .i64)))) p true, .str n] [] Try.f25.ntmps) (finishK T0 false 0 Try.f25) = (t25 p n).get := by kernel_rfl
theorem ok25 : os25.Ok Try.prog := by
  refine os_ok mixed0 tab0 (orcB_sound (all_cons okf43v (all_cons okf44w (all_cons okf23 (all_cons okf45w all_nil)))) all_nil) h25 (d := 0) (n0 := 0) (S := lsOf [ls25]) Try.func25 (by kernel_rfl) (c := c25) (by kernel_rfl) rfl (loops_eq (xs := [(0, b25)]) (by kernel_rfl) (all_cons (ls_here loop25) all_nil)) (by omega) (by kernel_rfl) ?_
  intro x'' y'' q'' hq''
  obtain ⟨(p : (List UInt8 × List (List UInt8 × Int))), (n : List UInt8), _⟩ := x''
  exact (fn25 p n).trans hq''
def fs25 : FSpec := fsT 25 [((.pair .str (.list (.pair .str (.int .i64)))), true), (.str, false)] [((.pair .str (.list (.pair .str (.int .i64)))), true), ((.int .i64), false)] fun (p, n, _) => t25 p n
theorem okf25 : fs25.Ok Try.prog := fsT_ok fun x'' r'' hr'' => ok25 x'' () r'' hr''
def nmOk (p : List UInt8 × Known) (n : List UInt8) : Bool := bigS n && (kOk p.2 && (Nat.ble p.1.length 10000000000 && Nat.ble p.2.length 10000000000))
def fs25w : FSpec := fs25.like fun (p, n, _) => .br (nmOk p n) (.br (mayV n) (.ret (nameP n p.1 p.2, (0 : Int), ())) (.ret (p, (1 : Int), ()))) .no
theorem okf25w : fs25w.Ok Try.prog := by
  refine flike_ok okf25 _ ?_
  rintro ⟨(p : List UInt8 × Known), (n : List UInt8), _⟩ y h
  simp only [Tr.get] at h
  cases hc : nmOk p n with
  | false => rw [hc] at h; cases h
  | true =>
    rw [hc, cond_true] at h
    simp only [nmOk, Bool.and_eq_true] at hc
    obtain ⟨hbn, hk, h1, h2⟩ := hc
    have h1 := Nat.le_of_ble_eq_true h1
    have h2 := Nat.le_of_ble_eq_true h2
    obtain ⟨S, L⟩ := p
    simp only at hk h1 h2
    cases hm : mayV n with
    | false =>
      rw [hm, cond_false] at h
      cases h
      refine convR_of (vs := [AV.agg [.str S, .list (.pair .str (.int .i64)) L], .int .i64 1]) rfl rfl (Tr.get_of_all ?_)
      show (t25 (S, L) n).all _
      unfold t25
      rw [hm]
      exact Tr.all_t hbn (Tr.all_t rfl (Tr.all_ret rfl))
    | true =>
      rw [hm, cond_true] at h
      cases h
      refine convR_of (vs := [AV.agg [.str (nameP n S L).1, .list (.pair .str (.int .i64)) (nameP n S L).2], .int .i64 0]) rfl rfl (Tr.get_of_all ?_)
      show (t25 (S, L) n).all _
      unfold t25
      obtain ⟨r1, r2⟩ := show rootV n = true ∧ n.length ≤ 255 by simp only [mayV, Bool.and_eq_true] at hm; exact ⟨hm.1, Nat.le_of_ble_eq_true hm.2.1⟩
      obtain ⟨f1, f2, f3, f4, f5, f6⟩ := nameL_facts _ n S L rfl r1
      rw [hm, List.nil_append]
      have hrn : rnC n [] [] S L = true := by unfold rnC; rw [r1, hk, Nat.ble_eq_true_of_le (by omega), Nat.ble_eq_true_of_le (by omega)]; rfl
      refine Tr.all_t hbn (Tr.all_f rfl (Tr.all_t (fits_true (show (0 + L.length) * 24 ≤ _ by omega) (show 0 + L.length ≤ _ by omega)) (Tr.all_t hrn ?_)))
      unfold nameP
      cases hl : (nameL n S L).1 with
      | none => exact Tr.all_f rfl (Tr.all_t (Nat.ble_eq_true_of_le (by simp; omega)) (Tr.all_ret rfl))
      | some a => exact Tr.all_t rfl (Tr.all_ret rfl)
end Go.Proofs.YtfepkpindchleaaE

/- Data of records: plain words. -/
namespace Go.Proofs.YtfepkpindchleaaE
open Go Go.Proofs.YtfepkpindchleaaB
set_option linter.unusedVariables false
set_option linter.unusedSimpArgs false
/-- The parts of a type's data. -/
def layV (k : Int) : List Int := if k = 1 then [4] else if k = 28 then [16] else if k = 2 ∨ k = 5 ∨ k = 12 then [-1] else if k = 15 then [2, -1] else if k = 6 then [-1, -1, 20] else if k = 16 then [-2] else [-3]
/-- Where a byte 0 stands, label by label; or behind all. -/
def whAt (s : List UInt8) (k : Nat) : Nat := if h : k < s.length ∧ 0 < byN s k then whAt s (k + 1 + byN s k) else k
termination_by s.length - k
def wholeV (s : List UInt8) : Nat := if whAt s 0 < s.length ∧ mayV (s.take (whAt s 0 + 1)) = true then whAt s 0 + 1 else 0
theorem wholeV_le (s : List UInt8) : wholeV s ≤ s.length := by
  unfold wholeV
  split <;> omega
/-- Where texts end. -/
def txAt (s : List UInt8) (k : Nat) : Nat := if h : k < s.length then txAt s (k + 1 + byN s k) else k
termination_by s.length - k
def textsV (s : List UInt8) : Bool := !s.isEmpty && decide (txAt s 0 = s.length)
/-- How many bytes a part takes; whether it can. -/
def szP (p : Int) (d : List UInt8) : Int := if p = -1 then (wholeV d : Int) else if p = -2 ∧ textsV d = true ∨ p = -3 then (d.length : Int) else p
def okP (p : Int) (d : List UInt8) : Bool := decide (0 ≤ szP p d) && (decide (szP p d ≤ (d.length : Int)) && !(decide (p = -1) && decide (szP p d = 0)))
/-- Data cut into parts: whether it can be; what is left; the parts. -/
def cutS : List Int → List UInt8 → List (List UInt8) → Bool × (List UInt8 × List (List UInt8))
  | [], d, out => (true, d, out)
  | p :: ps, d, out => if okP p d = true then cutS ps (d.drop (szP p d).toNat) (out ++ [d.take (szP p d).toNat]) else (false, d, out)
def noS (l : List (List UInt8)) : Bool := l.isEmpty
def cutC (d : List UInt8) (ps : List Int) (n i : Int) (l : List (List UInt8)) : Bool := bigS d && (decide (n = ps.length) && (decide (i = 0) && (noS l && decide (ps.length ≤ 10))))
def okV (k : Int) (d : List UInt8) : Bool := (cutS (layV k) d []).1
def restV (k : Int) (d : List UInt8) : List UInt8 := (cutS (layV k) d []).2.1
def partsV (k : Int) (d : List UInt8) : List (List UInt8) := (cutS (layV k) d []).2.2
/-- Whether data may be. -/
def mayR (k : Int) (d : List UInt8) : Bool := (okV k d && (restV k d).isEmpty) && Nat.ble d.length 65535
/-- Parts, put one behind the other. -/
def putS : List Int → List (List UInt8) → PKt → PKt
  | [], _, p => p
  | x :: ps, ls, p => putS ps ls.tail (bif x == -1 then stN p (ls.headD [], false) else (p.1 ++ ls.headD [], p.2))
def putC (ls : List (List UInt8)) (ps : List Int) (n i : Int) (b : List Int) (m : Known) : Bool := (bytesOk b && (kOk m && Nat.ble b.length 1000000000)) && (decide (n = ps.length) && (decide (i = 0) && (decide (ls.length = ps.length) && (decide (ps.length ≤ 10) && ls.all fun x => decide (x.length ≤ 1000000)))))
/-- Parts, taken one behind the other: whether they are there; where they end; the data. -/
def takeD : List Int → List UInt8 → Int → Int → List UInt8 → Bool × (Int × List UInt8)
  | [], _, a, _, d => (true, a, d)
  | x :: ps, s, a, e, d =>
    if x = -1 then
      (match takeG s a a (-1) [] with
      | none => (false, a, d)
      | some (n, next) => if next > e then (false, a, d) else takeD ps s next e (d ++ n))
    else
      (if someB s a (if x = -2 ∨ x = -3 then e - a else x) = true ∧ a + (if x = -2 ∨ x = -3 then e - a else x) ≤ e then takeD ps s (a + (if x = -2 ∨ x = -3 then e - a else x)) e (d ++ someV s a (if x = -2 ∨ x = -3 then e - a else x)) else (false, a, d))
def noT (d : List UInt8) : Bool := d.isEmpty
def smS (s : List UInt8) : Bool := decide (s.length ≤ 100000000)
def takeC (s : List UInt8) (a e : Int) (d : List UInt8) (ps : List Int) (n i : Int) : Bool := smS s && (decide (n = ps.length) && (decide (i = 0) && (decide (0 ≤ a) && (decide (a ≤ e) && (decide (e ≤ s.length) && (noT d && decide (ps.length ≤ 10)))))))
def pkT (b : List Int) (m : Known) : Bool := bytesOk b && (kOk m && Nat.ble b.length 1000000000)
/-- Data put behind bytes. -/
def putR (k : Int) (d : List UInt8) (p : PKt) : PKt := putS (layV k) (partsV k d) p
/-- The data that so many bytes are. -/
def takeV (s : List UInt8) (a n k : Int) : Option (List UInt8) := if someB s a n = true then (if (takeD (layV k) s a (a + n) []).1 = true ∧ (takeD (layV k) s a (a + n) []).2.1 = a + n ∧ mayR k (takeD (layV k) s a (a + n) []).2.2 = true then some (takeD (layV k) s a (a + n) []).2.2 else none) else none
theorem stN_k {p : PKt} {x : List UInt8 × Bool} (h : kOk p.2 = true) : kOk (stN p x).2 = true ∧ (stN p x).1.length ≤ p.1.length + x.1.length := by
  unfold stN
  cases hm : mayV x.1 with
  | false => exact ⟨h, by simp⟩
  | true =>
    obtain ⟨_, _, _, f4, _⟩ := nameL_facts _ x.1 p.1 p.2 rfl (may_iff.1 hm).1
    obtain ⟨l1, _⟩ := nameL_len _ x.1 p.1 p.2 rfl (may_iff.1 hm).1
    exact ⟨f4 h, l1⟩
theorem takeG_place {s : List UInt8} {a : Int} {n : List UInt8} {next : Int} (h0 : 0 ≤ a) (h : takeG s a a (-1) [] = some (n, next)) : mayV n = true ∧ a < next ∧ next ≤ s.length := by
  obtain ⟨a1, _, a3, _⟩ := takeG_may _ a a (-1) [] n next rfl LP_nil h
  exact ⟨a1, a3 (by omega)⟩
end Go.Proofs.YtfepkpindchleaaE

/- WirePacks. -/
namespace Go.Proofs.YtfepkpindchleaaE
open Go Go.Proofs.YtfepkpindchleaaB
set_option linter.unusedVariables false
set_option linter.unusedSimpArgs false
set_option maxRecDepth 100000
def TN : Tab := { T0 with nild := true }
theorem tabN : TabOk Try.prog TN := tab_nild tab0 _ _
def wpC (b : List Int) (m : Known) (S : List UInt8) (L : Known) (i : Int) : Bool := bytesOk b && (kOk m && ((S == intBytes b) && ((L == m) && (Nat.ble b.length 20000 && (Nat.ble m.length 20000 && decide (i = 0))))))
noncomputable def b4 : Code := nthLoop c4 0
def ls4 : LoopSpec := { bid := 0, sh := [.d (.list (.pair .str .bool)) false, .d .bool false, .ptr 0 0, .ptr 3 0, .d (.int .i64) false], so := [.box [.row 1, .mp 2], .row (.int .u8), .map .str (.int .i64), .box [.d .str false, .d (.list (.pair .str (.int .i64))) false]], F := fun (l, up, i, _) (_, b, m, (S, L, _), _) => .on (fewB l && wpC b m S L i) (.exit 0, [.dead, .bool up, .ptr 0 0, .ptr 3 0], [.box [.rowA 1, .mp 2], .row (.int .u8) (bytesInt (l.foldl stB (S, L)).1), .mpo .str (.int .i64) (l.foldl stB (S, L)).2, .box [.str (l.foldl stB (S, L)).1, .list (.pair .str (.int .i64)) (l.foldl stB (S, L)).2]]) }
def r4 (l : List (List UInt8 × Bool)) (up : Bool) (i : Int) (b : List Int) (m : List (List UInt8 × Int)) (S : List UInt8) (L : List (List UInt8 × Int)) : Tr (St ⊕ (Ex × St)) := Tr.br (decide (i < (↑(List.length l) : Int))) (Tr.br (decide ((0 : Int) ≤ i)) (Tr.br (decide (i < (↑(List.length l) : Int))) (Tr.br (Prod.snd (List.getD l (Int.toNat i) (Ty.dflt (Ty.pair Ty.str Ty.bool)))) (Tr.br (decide ((0 : Int) ≤ i)) (Tr.br (decide (i < (↑(List.length l) : Int))) (Tr.br (fits (List.length b + List.length (bytesInt (Prod.fst (List.getD l (Int.toNat i) (Ty.dflt (Ty.pair Ty.str Ty.bool)))))) 1) (Tr.br (decide ((0 : Int) ≤ i)) (Tr.br (decide (i < (↑(List.length l) : Int))) (Tr.br (Nat.ble (List.length S + List.length (Prod.fst (List.getD l (Int.toNat i) (Ty.dflt (Ty.pair Ty.str Ty.bool))))) 9223372036854775807) (Tr.ret (Sum.inl (stOf [0, 5, 6, 7, 9] [AV.list (Ty.pair Ty.str Ty.bool) l, AV.bool up, AV.ptr 0 0, AV.ptr 3 0, AV.int IntKind.i64 (IntKind.wrap IntKind.i64 (i + (1 : Int)))] [LObj.boxT none [AV.rowA 1, AV.mp 2], LObj.row (Ty.int IntKind.u8) (b ++ bytesInt (Prod.fst (List.getD l (Int.toNat i) (Ty.dflt (Ty.pair Ty.str Ty.bool))))), LObj.mpo Ty.str (Ty.int IntKind.i64) m, LObj.boxT none [AV.str (S ++ Prod.fst (List.getD l (Int.toNat i) (Ty.dflt (Ty.pair Ty.str Ty.bool)))), AV.list (Ty.pair Ty.str (Ty.int IntKind.i64)) L]]))) Tr.no) Tr.no) Tr.no) Tr.no) Tr.no) Tr.no) (Tr.br (decide ((0 : Int) ≤ i)) (Tr.br (decide (i < (↑(List.length l) : Int))) (Tr.br (pkC b m && Nat.ble (List.length (Prod.fst (List.getD l (Int.toNat i) (Ty.dflt (Ty.pair Ty.str Ty.bool))))) 100000000000) (Tr.br (mayV (Prod.fst (List.getD l (Int.toNat i) (Ty.dflt (Ty.pair Ty.str Ty.bool))))) (Tr.br (decide ((0 : Int) ≤ i)) (Tr.br (decide (i < (↑(List.length l) : Int))) (Tr.br (nmOk (S, L) (Prod.fst (List.getD l (Int.toNat i) (Ty.dflt (Ty.pair Ty.str Ty.bool))))) (Tr.br (mayV (Prod.fst (List.getD l (Int.toNat i) (Ty.dflt (Ty.pair Ty.str Ty.bool))))) (Tr.br ((↑(List.length (bytesInt (Prod.fst (nameP (Prod.fst (List.getD l (Int.toNat i) (Ty.dflt (Ty.pair Ty.str Ty.bool)))) (intBytes b) m)))) : Int) != (↑(List.length (Prod.fst (nameP (Prod.fst (List.getD l (Int.toNat i) (Ty.dflt (Ty.pair Ty.str Ty.bool)))) S L))) : Int)) (Tr.ret (Sum.inr (Ex.ret, stOf [4, 5, 6, 7] [AV.bool false, AV.bool up, AV.ptr 0 0, AV.ptr 3 0] [LObj.boxT none [AV.rowA 1, AV.mp 2], LObj.row (Ty.int IntKind.u8) (bytesInt (Prod.fst (nameP (Prod.fst (List.getD l (Int.toNat i) (Ty.dflt (Ty.pair Ty.str Ty.bool)))) (intBytes b) m))), LObj.mpo Ty.str (Ty.int IntKind.i64) (Prod.snd (nameP (Prod.fst (List.getD l (Int.toNat i) (Ty.dflt (Ty.pair Ty.str Ty.bool)))) (intBytes b) m)), LObj.boxT none [AV.str (Prod.fst (nameP (Prod.fst (List.getD l (Int.toNat i) (Ty.dflt (Ty.pair Ty.str Ty.bool)))) S L)), AV.list (Ty.pair Ty.str (Ty.int IntKind.i64)) (Prod.snd (nameP (Prod.fst (List.getD l (Int.toNat i) (Ty.dflt (Ty.pair Ty.str Ty.bool)))) S L))]]))) (Tr.ret (Sum.inl (stOf [0, 5, 6, 7, 9] [AV.list (Ty.pair Ty.str Ty.bool) l, AV.bool up, AV.ptr 0 0, AV.ptr 3 0, AV.int IntKind.i64 (IntKind.wrap IntKind.i64 (i + (1 : Int)))] [LObj.boxT none [AV.rowA 1, AV.mp 2], LObj.row (Ty.int IntKind.u8) (bytesInt (Prod.fst (nameP (Prod.fst (List.getD l (Int.toNat i) (Ty.dflt (Ty.pair Ty.str Ty.bool)))) (intBytes b) m))), LObj.mpo Ty.str (Ty.int IntKind.i64) (Prod.snd (nameP (Prod.fst (List.getD l (Int.toNat i) (Ty.dflt (Ty.pair Ty.str Ty.bool)))) (intBytes b) m)), LObj.boxT none [AV.str (Prod.fst (nameP (Prod.fst (List.getD l (Int.toNat i) (Ty.dflt (Ty.pair Ty.str Ty.bool)))) S L)), AV.list (Ty.pair Ty.str (Ty.int IntKind.i64)) (Prod.snd (nameP (Prod.fst (List.getD l (Int.toNat i) (Ty.dflt (Ty.pair Ty.str Ty.bool)))) S L))]])))) (Tr.ret (Sum.inr (Ex.ret, stOf [4, 5, 6, 7] [AV.bool false, AV.bool up, AV.ptr 0 0, AV.ptr 3 0] [LObj.boxT none [AV.rowA 1, AV.mp 2], LObj.row (Ty.int IntKind.u8) (bytesInt (Prod.fst (nameP (Prod.fst (List.getD l (Int.toNat i) (Ty.dflt (Ty.pair Ty.str Ty.bool)))) (intBytes b) m))), LObj.mpo Ty.str (Ty.int IntKind.i64) (Prod.snd (nameP (Prod.fst (List.getD l (Int.toNat i) (Ty.dflt (Ty.pair Ty.str Ty.bool)))) (intBytes b) m)), LObj.boxT none [AV.str S, AV.list (Ty.pair Ty.str (Ty.int IntKind.i64)) L]])))) Tr.no) Tr.no) Tr.no) (Tr.br (decide ((0 : Int) ≤ i)) (Tr.br (decide (i < (↑(List.length l) : Int))) (Tr.br (nmOk (S, L) (Prod.fst (List.getD l (Int.toNat i) (Ty.dflt (Ty.pair Ty.str Ty.bool))))) (Tr.br (mayV (Prod.fst (List.getD l (Int.toNat i) (Ty.dflt (Ty.pair Ty.str Ty.bool))))) (Tr.ret (Sum.inr (Ex.ret, stOf [4, 5, 6, 7] [AV.bool false, AV.bool up, AV.ptr 0 0, AV.ptr 3 0] [LObj.boxT none [AV.rowA 1, AV.mp 2], LObj.row (Ty.int IntKind.u8) b, LObj.mpo Ty.str (Ty.int IntKind.i64) m, LObj.boxT none [AV.str (Prod.fst (nameP (Prod.fst (List.getD l (Int.toNat i) (Ty.dflt (Ty.pair Ty.str Ty.bool)))) S L)), AV.list (Ty.pair Ty.str (Ty.int IntKind.i64)) (Prod.snd (nameP (Prod.fst (List.getD l (Int.toNat i) (Ty.dflt (Ty.pair Ty.str Ty.bool)))) S L))]]))) (Tr.br ((↑(List.length b) : Int) != (↑(List.length S) : Int)) (Tr.ret (Sum.inr (Ex.ret, stOf [4, 5, 6, 7] [AV.bool false, AV.bool up, AV.ptr 0 0, AV.ptr 3 0] [LObj.boxT none [AV.rowA 1, AV.mp 2], LObj.row (Ty.int IntKind.u8) b, LObj.mpo Ty.str (Ty.int IntKind.i64) m, LObj.boxT none [AV.str S, AV.list (Ty.pair Ty.str (Ty.int IntKind.i64)) L]]))) (Tr.ret (Sum.inl (stOf [0, 5, 6, 7, 9] [AV.list (Ty.pair Ty.str Ty.bool) l, AV.bool up, AV.ptr 0 0, AV.ptr 3 0, AV.int IntKind.i64 (IntKind.wrap IntKind.i64 (i + (1 : Int)))] [LObj.boxT none [AV.rowA 1, AV.mp 2], LObj.row (Ty.int IntKind.u8) b, LObj.mpo Ty.str (Ty.int IntKind.i64) m, LObj.boxT none [AV.str S, AV.list (Ty.pair Ty.str (Ty.int IntKind.i64)) L]]))))) Tr.no) Tr.no) Tr.no)) Tr.no) Tr.no) Tr.no)) Tr.no) Tr.no) (Tr.ret (Sum.inr (Ex.exit 0, stOf [4, 5, 6, 7] [AV.dead, AV.bool up, AV.ptr 0 0, AV.ptr 3 0] [LObj.boxT none [AV.rowA 1, AV.mp 2], LObj.row (Ty.int IntKind.u8) b, LObj.mpo Ty.str (Ty.int IntKind.i64) m, LObj.boxT none [AV.str S, AV.list (Ty.pair Ty.str (Ty.int IntKind.i64)) L]])))
set_option maxRecDepth 1000000 in
theorem round4 (lp : Lp) (l : List (List UInt8 × Bool)) (up : Bool) (i : Int) (b : List Int) (m : List (List UInt8 × Int)) (S : List UInt8) (L : List (List UInt8 × Int)) : evC TN (orcB [fs20w, fs21w, fs25w, fs23] [os16, os24w, os26, os22, os19]) lp b4 0 (stOf [0, 5, 6, 7, 9] [.list (.pair .str .bool) l, .bool up, .ptr 0 0, .ptr 3 0, .int .i64 i] [.box [.rowA 1, .mp 2], .row (.int .u8) b, .mpo .str (.int .i64) m, .box [.str S, .list (.pair .str (.int .i64)) L]]) (roundK [0, 5, 6, 7, 9] [4, 5, 6, 7] 0) = (r4 l up i b m S L).get := by kernel_rfl
theorem wf4 (l : List (List UInt8 × Bool)) (up : Bool) (I'' : Int → List Int → List (List UInt8 × Int) → List UInt8 → List (List UInt8 × Int) → Prop) (m'' : Int → List Int → List (List UInt8 × Int) → List UInt8 → List (List UInt8 × Int) → Nat) (r'' : Ex × St) (h : ∀ (i : Int) (b : List Int) (m : List (List UInt8 × Int)) (S : List UInt8) (L : List (List UInt8 × Int)), I'' i b m S L → (r4 l up i b m S L).all fun x'' => x'' = .inr r'' ∨ ∃ (i' : Int) (b' : List Int) (m' : List (List UInt8 × Int)) (S' : List UInt8) (L' : List (List UInt8 × Int)), x'' = .inl (stOf [0, 5, 6, 7, 9] [.list (.pair .str .bool) l, .bool up, .ptr 0 0, .ptr 3 0, .int .i64 i'] [.box [.rowA 1, .mp 2], .row (.int .u8) b', .mpo .str (.int .i64) m', .box [.str S', .list (.pair .str (.int .i64)) L']]) ∧ I'' i' b' m' S' L' ∧ m'' i' b' m' S' L' < m'' i b m S L) (lp : Lp) (i : Int) (b : List Int) (m : List (List UInt8 × Int)) (S : List UInt8) (L : List (List UInt8 × Int)) : I'' i b m S L →
    loopF (fun st => evC TN (orcB [fs20w, fs21w, fs25w, fs23] [os16, os24w, os26, os22, os19]) lp b4 0 st (roundK [0, 5, 6, 7, 9] [4, 5, 6, 7] 0)) (stOf [0, 5, 6, 7, 9] [.list (.pair .str .bool) l, .bool up, .ptr 0 0, .ptr 3 0, .int .i64 i] [.box [.rowA 1, .mp 2], .row (.int .u8) b, .mpo .str (.int .i64) m, .box [.str S, .list (.pair .str (.int .i64)) L]]) = some r'' :=
  loop_tr (fun a'' : Int × List Int × List (List UInt8 × Int) × List UInt8 × List (List UInt8 × Int) => stOf [0, 5, 6, 7, 9] [.list (.pair .str .bool) l, .bool up, .ptr 0 0, .ptr 3 0, .int .i64 a''.1] [.box [.rowA 1, .mp 2], .row (.int .u8) a''.2.1, .mpo .str (.int .i64) a''.2.2.1, .box [.str a''.2.2.2.1, .list (.pair .str (.int .i64)) a''.2.2.2.2]]) (fun a'' => I'' a''.1 a''.2.1 a''.2.2.1 a''.2.2.2.1 a''.2.2.2.2) (fun a'' => m'' a''.1 a''.2.1 a''.2.2.1 a''.2.2.2.1 a''.2.2.2.2) r'' (fun a'' => r4 l up a''.1 a''.2.1 a''.2.2.1 a''.2.2.2.1 a''.2.2.2.2)
    (fun a'' x hx => (round4 lp l up a''.1 a''.2.1 a''.2.2.1 a''.2.2.2.1 a''.2.2.2.2).trans hx) (fun a'' ha => Tr.all_mono (fun x'' hx => hx.imp id fun ⟨i', b', m', S', L', h1, h2, h3⟩ => ⟨(i', b', m', S', L'), h1, h2, h3⟩) (h (a''.1) (a''.2.1) (a''.2.2.1) (a''.2.2.2.1) (a''.2.2.2.2) ha)) (i, b, m, S, L)
def wpI (l : Parts) (p0 : PKt) (i : Int) (b : List Int) (m : Known) (S : List UInt8) (L : Known) : Prop := 0 ≤ i ∧ i ≤ l.length ∧ ∃ p : PKt, b = bytesInt p.1 ∧ m = p.2 ∧ S = p.1 ∧ L = p.2 ∧ kOk p.2 = true ∧ p.1.length ≤ 20000 + 400 * i.toNat ∧ p.2.length ≤ 20000 + 400 * i.toNat ∧ (l.drop i.toNat).foldl stB p = l.foldl stB p0
theorem loop4 : ls4.Ok TN (orcB [fs20w, fs21w, fs25w, fs23] [os16, os24w, os26, os22, os19]) h4 0 0 b4 := by
  intro q'' hq'' x'' y'' r'' h
  obtain ⟨(l : List (List UInt8 × Bool)), (up : Bool), (i : Int), _⟩ := x''
  obtain ⟨_, (b : List Int), (m : List (List UInt8 × Int)), ⟨(S : List UInt8), (L : List (List UInt8 × Int)), _⟩, _⟩ := y''
  obtain ⟨hc, rfl⟩ := Tr.get_on h
  show loopF (fun st => evC TN (orcB [fs20w, fs21w, fs25w, fs23] [os16, os24w, os26, os22, os19]) (lpN TN (orcB [fs20w, fs21w, fs25w, fs23] [os16, os24w, os26, os22, os19]) h4 0 q'') b4 0 st (roundK [0, 5, 6, 7, 9] [4, 5, 6, 7] 0)) (stOf [0, 5, 6, 7, 9] [.list (.pair .str .bool) l, .bool up, .ptr 0 0, .ptr 3 0, .int .i64 i] [.box [.rowA 1, .mp 2], .row (.int .u8) b, .mpo .str (.int .i64) m, .box [.str S, .list (.pair .str (.int .i64)) L]]) = some (.exit 0, stOf [4, 5, 6, 7] ([.dead, .bool up, .ptr 0 0, .ptr 3 0]) ([.box [.rowA 1, .mp 2], .row (.int .u8) (bytesInt (l.foldl stB (S, L)).1), .mpo .str (.int .i64) (l.foldl stB (S, L)).2, .box [.str (l.foldl stB (S, L)).1, .list (.pair .str (.int .i64)) (l.foldl stB (S, L)).2]]))
  simp only [wpC, Bool.and_eq_true, decide_eq_true_eq, beq_iff_eq] at hc
  obtain ⟨hf, hok, hk, rfl, rfl, hb, hm, rfl⟩ := hc
  have hb := Nat.le_of_ble_eq_true hb
  have hm := Nat.le_of_ble_eq_true hm
  obtain ⟨hl, hx⟩ := fewB_iff.1 hf
  refine wf4 l up (wpI l (intBytes b, L)) (fun i _ _ _ _ => (l.length - i).toNat) _ ?_ _ 0 b L (intBytes b) L ⟨by omega, by omega, (intBytes b, L), (bytes_intB hok).symm, rfl, rfl, rfl, hk, (by have := intB_len b; show (intBytes b).length ≤ _; omega), (by show L.length ≤ _; omega), rfl⟩
  clear hok hk hb hm
  rintro i b' m' S' L' ⟨h0, h1, p, rfl, rfl, rfl, rfl, hk, hp1, hp2, hF⟩
  rw [← hF]
  unfold r4
  by_cases hi : i < l.length
  · obtain ⟨d1, d2⟩ := drop_getD (Ty.dflt (Ty.pair Ty.str Ty.bool)) h0 hi
    generalize List.getD l (Int.toNat i) (Ty.dflt (Ty.pair Ty.str Ty.bool)) = x at d1 d2
    have hxl := hx x d2
    rw [d1, List.foldl_cons] at hF
    have hpe : ((p.1, p.2) : PKt) = p := rfl
    have hpk : (pkC (bytesInt p.1) p.2 && Nat.ble x.1.length 100000000000) = true := by
      unfold pkC
      rw [bytesInt_ok, hk, bytesInt_len, Nat.ble_eq_true_of_le (by omega), Nat.ble_eq_true_of_le (by omega)]
      rfl
    have hnm : nmOk (p.1, p.2) x.1 = true := by
      unfold nmOk
      rw [hk, show bigS x.1 = true by simp [bigS]; omega, Nat.ble_eq_true_of_le (show p.1.length ≤ _ by omega), Nat.ble_eq_true_of_le (show p.2.length ≤ _ by omega)]
      rfl
    have hfb : fits ((bytesInt p.1).length + (bytesInt x.1).length) 1 = true := fits_true (by rw [bytesInt_len, bytesInt_len]; omega) (by rw [bytesInt_len, bytesInt_len]; omega)
    rw [intB_bytes, IntWalk.i64_in _ (by omega), ← bytesInt_app]
    refine Tr.all_t (dec_true hi) (Tr.all_t (dec_true h0) (Tr.all_t (dec_true hi) (Tr.all_br (fun c0 => Tr.all_t (dec_true h0) (Tr.all_t (dec_true hi) (Tr.all_t hfb (Tr.all_t (dec_true h0) (Tr.all_t (dec_true hi) (Tr.all_t (Nat.ble_eq_true_of_le (by omega)) (Tr.all_ret (.inr ?_)))))))) fun c0 => Tr.all_t (dec_true h0) (Tr.all_t (dec_true hi) (Tr.all_t hpk (Tr.all_br (fun c1 => Tr.all_t (dec_true h0) (Tr.all_t (dec_true hi) (Tr.all_t hnm (Tr.all_t c1 (Tr.all_f (by rw [bytesInt_len]; simp) (Tr.all_ret (.inr ?_))))))) fun c1 => Tr.all_t (dec_true h0) (Tr.all_t (dec_true hi) (Tr.all_t hnm (Tr.all_f c1 (Tr.all_f (by rw [bytesInt_len]; simp) (Tr.all_ret (.inr ?_))))))))))))
    · have e : stB p x = (p.1 ++ x.1, p.2) := by unfold stB; rw [c0]; rfl
      rw [e] at hF
      exact ⟨_, _, _, _, _, rfl, ⟨by omega, by omega, (p.1 ++ x.1, p.2), rfl, rfl, rfl, rfl, hk, (by simp only [List.length_append]; omega), (by show p.2.length ≤ _; omega), hF⟩, by omega⟩
    · have e : stB p x = nameP x.1 p.1 p.2 := by unfold stB stN; rw [c0, c1]; rfl
      rw [e] at hF
      obtain ⟨l1, _, l3⟩ := nameL_len _ x.1 p.1 p.2 rfl (may_iff.1 c1).1
      have hk2 := (stN_k (p := p) (x := x) hk).1
      unfold stN at hk2
      rw [c1, cond_true] at hk2
      exact ⟨_, _, _, _, _, rfl, ⟨by omega, by omega, nameP x.1 p.1 p.2, rfl, rfl, rfl, rfl, hk2, by omega, by omega, hF⟩, by omega⟩
    · have e : stB p x = p := by unfold stB stN; rw [c0, c1]; rfl
      rw [e] at hF
      exact ⟨_, _, _, _, _, rfl, ⟨by omega, by omega, p, rfl, rfl, rfl, rfl, hk, by omega, by omega, hF⟩, by omega⟩
  · refine Tr.all_f (dec_false hi) (Tr.all_ret (.inl ?_))
    rw [List.drop_eq_nil_of_le (by omega)]
    rfl
/-- derricklaw03.WirePacks -/
def t4 (l : List (List UInt8 × Bool)) (far : Bool) : Tr Res := Tr.br (!fewB l) (Tr.ret ([AV.bool true], [])) (Tr.br far (Tr.br (fewB l && wpC ([] ++ bytesInt (intBytes (List.replicate (Int.toNat (16380 : Int)) (Ty.dflt (Ty.int IntKind.u8))))) [] ([] ++ intBytes (List.replicate (Int.toNat (16380 : Int)) (Ty.dflt (Ty.int IntKind.u8)))) [] (0 : Int)) (Tr.ret ([AV.bool (intBytes (bytesInt (Prod.fst (List.foldl stB ([] ++ intBytes (List.replicate (Int.toNat (16380 : Int)) (Ty.dflt (Ty.int IntKind.u8))), []) l))) == Prod.fst (List.foldl stB ([] ++ intBytes (List.replicate (Int.toNat (16380 : Int)) (Ty.dflt (Ty.int IntKind.u8))), []) l))], [])) Tr.no) (Tr.br (fewB l && wpC [] [] [] [] (0 : Int)) (Tr.ret ([AV.bool (intBytes (bytesInt (Prod.fst (List.foldl stB ([], []) l))) == Prod.fst (List.foldl stB ([], []) l))], [])) Tr.no))
def os4 : OSpec := { f := 4, sh := [.d (.list (.pair .str .bool)) false, .d .bool false], so := [], F := fun (l, far, _) _ => t4 l far }
set_option maxRecDepth 1000000 in
theorem fn4 (l : List (List UInt8 × Bool)) (far : Bool) : evC TN (orcB [fs20w, fs21w, fs25w, fs23] [os16, os24w, os26, os22, os19]) (lpOf h4 0 (lsOf [ls4])) c4 1000000 (startSt [.list (.pair .str .bool) l, .bool far] [] Try.f4.ntmps) (finishK TN false 0 Try.f4) = (t4 l far).get := by kernel_rfl
theorem ok4 : os4.Ok Try.prog := by
  refine os_ok mixed0 tabN (orcB_sound (all_cons okf20w (all_cons okf21w (all_cons okf25w (all_cons okf23 all_nil)))) (all_cons ok16 (all_cons ok24w (all_cons ok26 (all_cons ok22 (all_cons ok19 all_nil)))))) h4 (d := 0) (n0 := 0) (S := lsOf [ls4]) Try.func4 (by kernel_rfl) (c := c4) (by kernel_rfl) rfl (loops_eq (xs := [(0, b4)]) (by kernel_rfl) (all_cons (ls_here loop4) all_nil)) (by omega) (by kernel_rfl) ?_
  intro x'' y'' q'' hq''
  obtain ⟨(l : List (List UInt8 × Bool)), (far : Bool), _⟩ := x''
  exact (fn4 l far).trans hq''
def fs4 : FSpec := fsT 4 [((.list (.pair .str .bool)), false), (.bool, false)] [(.bool, false)] fun (l, far, _) => t4 l far
theorem okf4 : fs4.Ok Try.prog := fsT_ok fun x'' r'' hr'' => ok4 x'' () r'' hr''
theorem wpC_zero (X : List UInt8) (hX : X.length ≤ 20000) : wpC ([] ++ bytesInt (intBytes (bytesInt X))) [] ([] ++ intBytes (bytesInt X)) [] (0 : Int) = true := by
  unfold wpC
  rw [intB_bytes, List.nil_append, List.nil_append, bytesInt_ok, intB_bytes, bytesInt_len, Nat.ble_eq_true_of_le hX]
  simp [kOk]
theorem rep_bytes (n : Nat) : (List.replicate n (0 : Int)) = bytesInt (List.replicate n (0 : UInt8)) := by
  simp [bytesInt]
theorem wirePacks_all (l : Parts) (far : Bool) : Tr.all (fun r : Res => r = ([.bool true], [])) (t4 l far) := by
  have h0 : wpC [] [] [] [] (0 : Int) = true := by rfl
  have hr : List.replicate (Int.toNat (16380 : Int)) (Ty.dflt (Ty.int IntKind.u8)) = bytesInt (List.replicate (Int.toNat (16380 : Int)) (0 : UInt8)) := rep_bytes _
  have h1 := wpC_zero (List.replicate (Int.toNat (16380 : Int)) (0 : UInt8)) (by rw [List.length_replicate]; omega)
  unfold t4
  rw [hr]
  clear hr
  generalize List.replicate (Int.toNat (16380 : Int)) (0 : UInt8) = X at h1 ⊢
  refine Tr.all_br (fun _ => Tr.all_ret rfl) fun hf => ?_
  have hf : fewB l = true := by
    cases h : fewB l
    · rw [h] at hf; cases hf
    · rfl
  refine Tr.all_br (fun _ => Tr.all_t (by rw [hf, h1]; rfl) (Tr.all_ret ?_)) fun _ => Tr.all_t (by rw [hf, h0]; rfl) (Tr.all_ret ?_)
  · rw [intB_bytes (Prod.fst _), beq_self_eq_true]
  · rw [intB_bytes (Prod.fst _), beq_self_eq_true]
theorem sem4 (l : Parts) (far : Bool) : SemF Try.prog 4 [.list (.pair .str .bool) l, .bool far] [] [.bool true] [] :=
  ok4 (l, far, ()) () ([.bool true], []) (Tr.get_of_all (wirePacks_all l far))
end Go.Proofs.YtfepkpindchleaaE

/- The row of WirePacks. Printed by mklaw.py. -/
namespace Go.Proofs.Ytfepkpindchleaa.wirePacks
open Go.ChangeShapes Go.WideShapes Go.ChangeAt Go.RowKit Go.Proofs.YtfepkpindchleaaE
open Go.ChangeMaps (open_string shut_string)
set_option linter.unusedVariables false
theorem own : ownKnob Try.prog.godebug = none := by kernel_rfl
theorem laidOut : laidOutB Try.prog = true := by kernel_rfl
set_option maxRecDepth 100000 in
theorem lifted (os : Os) (started : os.Started) (H : Type) (enc : TypeId × Value → H) :
    ReturnsInHanded {} Try.checked os 4 .any (Rows.wirePacksSpec.pre6 enc Try.prog Try.f4 Rows.wirePacksRow.domain false) (Rows.wirePacksSpec.post enc Try.prog Try.f4 false true false false) := by
  refine returnsInHanded_of_change_sized (C := Try.checked) own started (by kernel_rfl) Try.func4
    (ChangeSpec.witness6 (enc := enc) (C := Try.checked) false ⟨#[], #[.slice none 0 0, .bool false], []⟩ 8 (by kernel_rfl) (by kernel_rfl) (by kernel_rfl) (by kernel_rfl)) ?_
  intro W base args ds gs before hval0 hW hcnd hsz0 _
  have hsz : ∀ n ∈ DataW.weightsEach Try.prog (Try.f4.params.toList ++ Rows.wirePacksSpec.plain.varTypes Try.prog) (ds ++ gs), n ≤ reachBytes := fun n hn => of_decide_eq_true (List.all_eq_true.1 hsz0 n hn)
  have hval : ∀ (j : Nat) t v, Try.f4.params[j]? = some t → args[j]? = some v → Value.okWide Try.prog W .any base t v := hval0
  have hW' := hW
  obtain ⟨p, q, hA0, hV, rfl, hfz, hnd⟩ := hW
  have hA : DataW.TrodAll enc Try.prog W 0 (fun _ => true) true Try.f4.params.toList args.toList ds p := hA0
  rw [Try.params4] at hA hval hsz
  obtain ⟨v0, vs0, d0, ds0, p0, q0, hargs, rfl, rfl, k0, r0⟩ := trodAll_cons hA
  obtain ⟨v1, vs1, d1, ds1, p1, q1, rfl, rfl, rfl, k1, r1⟩ := trodAll_cons r0
  obtain ⟨rfl, rfl, rfl⟩ := trodAll_nil r1
  obtain rfl : args = #[v0, v1] := by cases args; simp_all
  obtain ⟨rfl, rfl⟩ := trodVars_none hV
  have lt0 : ∀ x ∈ p0, x.block < W.heap.size := by obtain ⟨m, hm⟩ := k0; exact DataW.trod_lt m _ _ _ hm
  obtain ⟨x0, e0, w0, b0⟩ := arg_told (n := 8) (τ := (.list (.pair .str .bool))) (agg := false) (by kernel_rfl) (hval 0 38 v0 rfl rfl) k0 (fun n hn => hsz n (DataW.weights_mem_each (j := 0) (t := 38) rfl rfl n hn)) (by kernel_rfl)
  have lt1 : ∀ x ∈ p1, x.block < W.heap.size := by obtain ⟨m, hm⟩ := k1; exact DataW.trod_lt m _ _ _ hm
  obtain ⟨x1, e1, w1, b1⟩ := arg_told (n := 8) (τ := .bool) (agg := false) (by kernel_rfl) (hval 1 4 v1 rfl rfl) k1 (fun n hn => hsz n (DataW.weights_mem_each (j := 1) (t := 4) rfl rfl n hn)) (by kernel_rfl)
  clear hA0 hval0 hsz0 hsz
  refine (law_calls ((fun l far _ _ => sem4 l far) x0 x1 w0 w1) W (vs := [v0, v1]) ?_).mono fun e W' ⟨he, bel⟩ => ?_
  · simp only [VRelL]
    exact ⟨_, _, rfl, e0, ⟨_, _, rfl, e1, rfl⟩⟩
  subst he
  exact ⟨_, rfl, _, _, _, [], _, [], hW', trodAll_mk1 (shut_bool Try.underlying4 _), (trodAll_cons_mk (Below.trod laidOut (by kernel_rfl) (of_decide_eq_true (by kernel_rfl)) k0 bel lt0) (trodAll_cons_mk (Below.trod laidOut (by kernel_rfl) (of_decide_eq_true (by kernel_rfl)) k1 bel lt1) trodAll_mk0)), rfl, bel.frame _, fun h => by cases h⟩
theorem over : Rows.wirePacksRow.holds Try.pinned (OpenSpec.ofChange Rows.wirePacksSpec) :=
  OpenClaim.holds_of_wide 4 Try.f4 rfl rfl rfl rfl rfl rfl rfl ⟨rfl, rfl, rfl, rfl, rfl⟩ rfl rfl rfl rfl rfl (by kernel_rfl) Try.func4 (by kernel_rfl)
    (of_decide_eq_true (by kernel_rfl)) (by unfold Func.isWrapper; first | (rw [if_pos (by decide +kernel)]; kernel_rfl) | (rw [if_neg (by decide +kernel)]; exact ⟨rfl, rfl⟩))
    (fun os started H enc _ => lifted os started H enc)
theorem proved : Rows.WirePacksSaid := over
end Go.Proofs.Ytfepkpindchleaa.wirePacks
namespace Go.Proofs.Ytfepkpindchleaa
/-- The row, under a short name, for the claim. -/
theorem wirePacks_holds : Rows.WirePacksSaid := wirePacks.proved
#print axioms wirePacks_holds
end Go.Proofs.Ytfepkpindchleaa
