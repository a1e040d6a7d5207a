/- wire.Take: a word. -/
import Derived.Test.YtfepkpindchleaaQ2
import Derived.Test.YtfepkpindchleaaW9
namespace Go.Proofs.YtfepkpindchleaaE
open Go Go.Proofs.YtfepkpindchleaaB
set_option linter.unusedVariables false
set_option linter.unusedSimpArgs false
/-- A loop by its rounds' trees: each way ends it, goes on with less to do, or comes to where it is known how it ends. -/
theorem loop_tr2 {α : Type} {F : St → Option (St ⊕ (Ex × St))} (mk : α → St) (I : α → Prop) (m : α → Nat) (r : Ex × St) (t : α → Tr (St ⊕ (Ex × St))) (hF : ∀ a x, (t a).get = some x → F (mk a) = some x)
    (h : ∀ a, I a → (t a).all fun x => x = .inr r ∨ (∃ a', x = .inl (mk a') ∧ I a' ∧ m a' < m a) ∨ ∃ st', x = .inl st' ∧ loopF F st' = some r) : ∀ a, I a → loopF F (mk a) = some r := by
  have key : ∀ (n : Nat) (a : α), m a = n → I a → loopF F (mk a) = some r := by
    intro n
    induction n using Nat.strongRecOn with
    | _ n ih =>
      intro a hn ha
      obtain ⟨x, h1, h2⟩ := Tr.all_get (h a ha)
      rcases h2 with rfl | ⟨a', rfl, ha', hlt⟩ | ⟨st', rfl, h3⟩
      · exact loopF_inr (hF a _ h1)
      · rw [loopF_inl (hF a _ h1)]
        exact ih (m a') (by omega) a' rfl ha'
      · rw [loopF_inl (hF a _ h1)]
        exact h3
  exact fun a ha => key _ a rfl ha
def tkC (s : List UInt8) (b : List Int) : Bool := bigS s && (bytesOk b && Nat.ble b.length 255)
def tkI (s : List UInt8) (a0 f0 h0 : Int) (b0 : List Int) (at_ from_ behind : Int) (b : List Int) : Prop := bytesOk b = true ∧ b.length ≤ 255 ∧ takeG s at_ from_ behind (intBytes b) = takeG s a0 f0 h0 (intBytes b0)
noncomputable def b27u : Code := (nthLoop c27 0)
def ls27u : LoopSpec := { bid := 0, sh := [.d .str false, .d (.int .i64) false, .ptr 0 0, .d (.int .i64) false, .d (.int .i64) false], so := [.tbox 88 [.ptr 0 0, .row 1], .row (.int .u8)], F := fun (s, at_, from_, behind, _) (_, b, _) => .on (tkC s b) (.ret, [.str (tkS (takeG s at_ from_ behind (intBytes b))), .int .i64 (tkN (takeG s at_ from_ behind (intBytes b))), .int .i64 (tkE (takeG s at_ from_ behind (intBytes b)))], []) }
def r27u (s : List UInt8) (at_ : Int) (from_ : Int) (behind : Int) (b : List Int) : Tr (St ⊕ (Ex × St)) := Tr.br (bigS s) (Tr.br (someB s at_ (1 : Int)) (Tr.br (decide ((↑(UInt8.toNat (List.getD s (Int.toNat at_) 0)) : Int) > (63 : Int))) (Tr.br (decide ((↑(UInt8.toNat (List.getD s (Int.toNat at_) 0)) : Int) < (192 : Int))) (Tr.ret (Sum.inr (Ex.ret, stOf [4, 5, 6] [AV.str [], AV.int IntKind.i64 (0 : Int), AV.int IntKind.i64 (2 : Int)] []))) (Tr.br (decide ((↑(UInt8.toNat (List.getD s (Int.toNat at_) 0)) : Int) ≥ (192 : Int))) (Tr.br (bigS s) (Tr.br (someB s at_ (2 : Int)) (Tr.br (decide (IntKind.wrap IntKind.i64 (↑(BitVec.toNat (BitVec.ofInt (IntKind.bits IntKind.i64) (IntKind.wrap IntKind.i64 (n16 s at_)) &&& ~~~BitVec.ofInt (IntKind.bits IntKind.i64) (49152 : Int))) : Int) < from_)) (Tr.br (decide (behind < (0 : Int))) (Tr.ret (Sum.inl (stOf [0, 1, 7, 8, 9] [AV.str s, AV.int IntKind.i64 (IntKind.wrap IntKind.i64 (↑(BitVec.toNat (BitVec.ofInt (IntKind.bits IntKind.i64) (IntKind.wrap IntKind.i64 (n16 s at_)) &&& ~~~BitVec.ofInt (IntKind.bits IntKind.i64) (49152 : Int))) : Int)), AV.ptr 0 0, AV.int IntKind.i64 (IntKind.wrap IntKind.i64 (↑(BitVec.toNat (BitVec.ofInt (IntKind.bits IntKind.i64) (IntKind.wrap IntKind.i64 (n16 s at_)) &&& ~~~BitVec.ofInt (IntKind.bits IntKind.i64) (49152 : Int))) : Int)), AV.int IntKind.i64 (at_ + (2 : Ty.den (Ty.int IntKind.i64)))] [LObj.boxT (some 88) [AV.ptr 0 0, AV.rowA 1], LObj.row (Ty.int IntKind.u8) b]))) (Tr.ret (Sum.inl (stOf [0, 1, 7, 8, 9] [AV.str s, AV.int IntKind.i64 (IntKind.wrap IntKind.i64 (↑(BitVec.toNat (BitVec.ofInt (IntKind.bits IntKind.i64) (IntKind.wrap IntKind.i64 (n16 s at_)) &&& ~~~BitVec.ofInt (IntKind.bits IntKind.i64) (49152 : Int))) : Int)), AV.ptr 0 0, AV.int IntKind.i64 (IntKind.wrap IntKind.i64 (↑(BitVec.toNat (BitVec.ofInt (IntKind.bits IntKind.i64) (IntKind.wrap IntKind.i64 (n16 s at_)) &&& ~~~BitVec.ofInt (IntKind.bits IntKind.i64) (49152 : Int))) : Int)), AV.int IntKind.i64 behind] [LObj.boxT (some 88) [AV.ptr 0 0, AV.rowA 1], LObj.row (Ty.int IntKind.u8) b])))) (Tr.ret (Sum.inr (Ex.ret, stOf [4, 5, 6] [AV.str [], AV.int IntKind.i64 (0 : Int), AV.int IntKind.i64 (2 : Int)] [])))) (Tr.ret (Sum.inr (Ex.ret, stOf [4, 5, 6] [AV.str [], AV.int IntKind.i64 (0 : Int), AV.int IntKind.i64 (2 : Int)] [])))) Tr.no) (Tr.br (bigS s) (Tr.br (someB s (at_ + (1 : Ty.den (Ty.int IntKind.i64))) (IntKind.wrap IntKind.i64 (↑(UInt8.toNat (List.getD s (Int.toNat at_) 0)) : Int))) (Tr.br (decide (IntKind.wrap IntKind.i64 (IntKind.wrap IntKind.i64 ((↑(List.length b) : Int) + (1 : Int)) + (↑(List.length (someV s (at_ + (1 : Ty.den (Ty.int IntKind.i64))) (IntKind.wrap IntKind.i64 (↑(UInt8.toNat (List.getD s (Int.toNat at_) 0)) : Int)))) : Int)) > (255 : Int))) (Tr.ret (Sum.inr (Ex.ret, stOf [4, 5, 6] [AV.str [], AV.int IntKind.i64 (0 : Int), AV.int IntKind.i64 (2 : Int)] []))) (Tr.br (fits (List.length b + 1) 1) (Tr.br (bigS (someV s (at_ + (1 : Ty.den (Ty.int IntKind.i64))) (IntKind.wrap IntKind.i64 (↑(UInt8.toNat (List.getD s (Int.toNat at_) 0)) : Int)))) (Tr.br (fits (List.length (b ++ [(↑(UInt8.toNat (List.getD s (Int.toNat at_) 0)) : Int)]) + List.length (bytesInt (foldB (someV s (at_ + (1 : Ty.den (Ty.int IntKind.i64))) (IntKind.wrap IntKind.i64 (↑(UInt8.toNat (List.getD s (Int.toNat at_) 0)) : Int)))))) 1) (Tr.br (decide ((↑(UInt8.toNat (List.getD s (Int.toNat at_) 0)) : Int) > (0 : Int))) (Tr.ret (Sum.inl (stOf [0, 1, 7, 8, 9] [AV.str s, AV.int IntKind.i64 (at_ + (1 : Ty.den (Ty.int IntKind.i64)) + IntKind.wrap IntKind.i64 (↑(UInt8.toNat (List.getD s (Int.toNat at_) 0)) : Int)), AV.ptr 0 0, AV.int IntKind.i64 from_, AV.int IntKind.i64 behind] [LObj.boxT (some 88) [AV.ptr 0 0, AV.rowA 1], LObj.row (Ty.int IntKind.u8) (b ++ [(↑(UInt8.toNat (List.getD s (Int.toNat at_) 0)) : Int)] ++ bytesInt (foldB (someV s (at_ + (1 : Ty.den (Ty.int IntKind.i64))) (IntKind.wrap IntKind.i64 (↑(UInt8.toNat (List.getD s (Int.toNat at_) 0)) : Int)))))]))) (Tr.br (decide (behind < (0 : Int))) (Tr.br (bytesOk (b ++ [(↑(UInt8.toNat (List.getD s (Int.toNat at_) 0)) : Int)] ++ bytesInt (foldB (someV s (at_ + (1 : Ty.den (Ty.int IntKind.i64))) (IntKind.wrap IntKind.i64 (↑(UInt8.toNat (List.getD s (Int.toNat at_) 0)) : Int))))) && (!List.isEmpty (b ++ [(↑(UInt8.toNat (List.getD s (Int.toNat at_) 0)) : Int)] ++ bytesInt (foldB (someV s (at_ + (1 : Ty.den (Ty.int IntKind.i64))) (IntKind.wrap IntKind.i64 (↑(UInt8.toNat (List.getD s (Int.toNat at_) 0)) : Int))))) && Nat.ble (List.length (b ++ [(↑(UInt8.toNat (List.getD s (Int.toNat at_) 0)) : Int)] ++ bytesInt (foldB (someV s (at_ + (1 : Ty.den (Ty.int IntKind.i64))) (IntKind.wrap IntKind.i64 (↑(UInt8.toNat (List.getD s (Int.toNat at_) 0)) : Int)))))) 9223372036854775807)) (Tr.ret (Sum.inr (Ex.ret, stOf [4, 5, 6] [AV.str (intBytes (b ++ [(↑(UInt8.toNat (List.getD s (Int.toNat at_) 0)) : Int)] ++ bytesInt (foldB (someV s (at_ + (1 : Ty.den (Ty.int IntKind.i64))) (IntKind.wrap IntKind.i64 (↑(UInt8.toNat (List.getD s (Int.toNat at_) 0)) : Int)))))), AV.int IntKind.i64 (at_ + (1 : Ty.den (Ty.int IntKind.i64)) + IntKind.wrap IntKind.i64 (↑(UInt8.toNat (List.getD s (Int.toNat at_) 0)) : Int)), AV.int IntKind.i64 (0 : Int)] []))) Tr.no) (Tr.br (bytesOk (b ++ [(↑(UInt8.toNat (List.getD s (Int.toNat at_) 0)) : Int)] ++ bytesInt (foldB (someV s (at_ + (1 : Ty.den (Ty.int IntKind.i64))) (IntKind.wrap IntKind.i64 (↑(UInt8.toNat (List.getD s (Int.toNat at_) 0)) : Int))))) && (!List.isEmpty (b ++ [(↑(UInt8.toNat (List.getD s (Int.toNat at_) 0)) : Int)] ++ bytesInt (foldB (someV s (at_ + (1 : Ty.den (Ty.int IntKind.i64))) (IntKind.wrap IntKind.i64 (↑(UInt8.toNat (List.getD s (Int.toNat at_) 0)) : Int))))) && Nat.ble (List.length (b ++ [(↑(UInt8.toNat (List.getD s (Int.toNat at_) 0)) : Int)] ++ bytesInt (foldB (someV s (at_ + (1 : Ty.den (Ty.int IntKind.i64))) (IntKind.wrap IntKind.i64 (↑(UInt8.toNat (List.getD s (Int.toNat at_) 0)) : Int)))))) 9223372036854775807)) (Tr.ret (Sum.inr (Ex.ret, stOf [4, 5, 6] [AV.str (intBytes (b ++ [(↑(UInt8.toNat (List.getD s (Int.toNat at_) 0)) : Int)] ++ bytesInt (foldB (someV s (at_ + (1 : Ty.den (Ty.int IntKind.i64))) (IntKind.wrap IntKind.i64 (↑(UInt8.toNat (List.getD s (Int.toNat at_) 0)) : Int)))))), AV.int IntKind.i64 behind, AV.int IntKind.i64 (0 : Int)] []))) Tr.no))) Tr.no) Tr.no) Tr.no)) (Tr.ret (Sum.inr (Ex.ret, stOf [4, 5, 6] [AV.str [], AV.int IntKind.i64 (0 : Int), AV.int IntKind.i64 (2 : Int)] [])))) Tr.no))) (Tr.br (decide ((↑(UInt8.toNat (List.getD s (Int.toNat at_) 0)) : Int) ≥ (192 : Int))) (Tr.br (bigS s) (Tr.br (someB s at_ (2 : Int)) (Tr.br (decide (IntKind.wrap IntKind.i64 (↑(BitVec.toNat (BitVec.ofInt (IntKind.bits IntKind.i64) (IntKind.wrap IntKind.i64 (n16 s at_)) &&& ~~~BitVec.ofInt (IntKind.bits IntKind.i64) (49152 : Int))) : Int) < from_)) (Tr.br (decide (behind < (0 : Int))) (Tr.ret (Sum.inl (stOf [0, 1, 7, 8, 9] [AV.str s, AV.int IntKind.i64 (IntKind.wrap IntKind.i64 (↑(BitVec.toNat (BitVec.ofInt (IntKind.bits IntKind.i64) (IntKind.wrap IntKind.i64 (n16 s at_)) &&& ~~~BitVec.ofInt (IntKind.bits IntKind.i64) (49152 : Int))) : Int)), AV.ptr 0 0, AV.int IntKind.i64 (IntKind.wrap IntKind.i64 (↑(BitVec.toNat (BitVec.ofInt (IntKind.bits IntKind.i64) (IntKind.wrap IntKind.i64 (n16 s at_)) &&& ~~~BitVec.ofInt (IntKind.bits IntKind.i64) (49152 : Int))) : Int)), AV.int IntKind.i64 (at_ + (2 : Ty.den (Ty.int IntKind.i64)))] [LObj.boxT (some 88) [AV.ptr 0 0, AV.rowA 1], LObj.row (Ty.int IntKind.u8) b]))) (Tr.ret (Sum.inl (stOf [0, 1, 7, 8, 9] [AV.str s, AV.int IntKind.i64 (IntKind.wrap IntKind.i64 (↑(BitVec.toNat (BitVec.ofInt (IntKind.bits IntKind.i64) (IntKind.wrap IntKind.i64 (n16 s at_)) &&& ~~~BitVec.ofInt (IntKind.bits IntKind.i64) (49152 : Int))) : Int)), AV.ptr 0 0, AV.int IntKind.i64 (IntKind.wrap IntKind.i64 (↑(BitVec.toNat (BitVec.ofInt (IntKind.bits IntKind.i64) (IntKind.wrap IntKind.i64 (n16 s at_)) &&& ~~~BitVec.ofInt (IntKind.bits IntKind.i64) (49152 : Int))) : Int)), AV.int IntKind.i64 behind] [LObj.boxT (some 88) [AV.ptr 0 0, AV.rowA 1], LObj.row (Ty.int IntKind.u8) b])))) (Tr.ret (Sum.inr (Ex.ret, stOf [4, 5, 6] [AV.str [], AV.int IntKind.i64 (0 : Int), AV.int IntKind.i64 (2 : Int)] [])))) (Tr.ret (Sum.inr (Ex.ret, stOf [4, 5, 6] [AV.str [], AV.int IntKind.i64 (0 : Int), AV.int IntKind.i64 (2 : Int)] [])))) Tr.no) (Tr.br (bigS s) (Tr.br (someB s (at_ + (1 : Ty.den (Ty.int IntKind.i64))) (IntKind.wrap IntKind.i64 (↑(UInt8.toNat (List.getD s (Int.toNat at_) 0)) : Int))) (Tr.br (decide (IntKind.wrap IntKind.i64 (IntKind.wrap IntKind.i64 ((↑(List.length b) : Int) + (1 : Int)) + (↑(List.length (someV s (at_ + (1 : Ty.den (Ty.int IntKind.i64))) (IntKind.wrap IntKind.i64 (↑(UInt8.toNat (List.getD s (Int.toNat at_) 0)) : Int)))) : Int)) > (255 : Int))) (Tr.ret (Sum.inr (Ex.ret, stOf [4, 5, 6] [AV.str [], AV.int IntKind.i64 (0 : Int), AV.int IntKind.i64 (2 : Int)] []))) (Tr.br (fits (List.length b + 1) 1) (Tr.br (bigS (someV s (at_ + (1 : Ty.den (Ty.int IntKind.i64))) (IntKind.wrap IntKind.i64 (↑(UInt8.toNat (List.getD s (Int.toNat at_) 0)) : Int)))) (Tr.br (fits (List.length (b ++ [(↑(UInt8.toNat (List.getD s (Int.toNat at_) 0)) : Int)]) + List.length (bytesInt (foldB (someV s (at_ + (1 : Ty.den (Ty.int IntKind.i64))) (IntKind.wrap IntKind.i64 (↑(UInt8.toNat (List.getD s (Int.toNat at_) 0)) : Int)))))) 1) (Tr.br (decide ((↑(UInt8.toNat (List.getD s (Int.toNat at_) 0)) : Int) > (0 : Int))) (Tr.ret (Sum.inl (stOf [0, 1, 7, 8, 9] [AV.str s, AV.int IntKind.i64 (at_ + (1 : Ty.den (Ty.int IntKind.i64)) + IntKind.wrap IntKind.i64 (↑(UInt8.toNat (List.getD s (Int.toNat at_) 0)) : Int)), AV.ptr 0 0, AV.int IntKind.i64 from_, AV.int IntKind.i64 behind] [LObj.boxT (some 88) [AV.ptr 0 0, AV.rowA 1], LObj.row (Ty.int IntKind.u8) (b ++ [(↑(UInt8.toNat (List.getD s (Int.toNat at_) 0)) : Int)] ++ bytesInt (foldB (someV s (at_ + (1 : Ty.den (Ty.int IntKind.i64))) (IntKind.wrap IntKind.i64 (↑(UInt8.toNat (List.getD s (Int.toNat at_) 0)) : Int)))))]))) (Tr.br (decide (behind < (0 : Int))) (Tr.br (bytesOk (b ++ [(↑(UInt8.toNat (List.getD s (Int.toNat at_) 0)) : Int)] ++ bytesInt (foldB (someV s (at_ + (1 : Ty.den (Ty.int IntKind.i64))) (IntKind.wrap IntKind.i64 (↑(UInt8.toNat (List.getD s (Int.toNat at_) 0)) : Int))))) && (!List.isEmpty (b ++ [(↑(UInt8.toNat (List.getD s (Int.toNat at_) 0)) : Int)] ++ bytesInt (foldB (someV s (at_ + (1 : Ty.den (Ty.int IntKind.i64))) (IntKind.wrap IntKind.i64 (↑(UInt8.toNat (List.getD s (Int.toNat at_) 0)) : Int))))) && Nat.ble (List.length (b ++ [(↑(UInt8.toNat (List.getD s (Int.toNat at_) 0)) : Int)] ++ bytesInt (foldB (someV s (at_ + (1 : Ty.den (Ty.int IntKind.i64))) (IntKind.wrap IntKind.i64 (↑(UInt8.toNat (List.getD s (Int.toNat at_) 0)) : Int)))))) 9223372036854775807)) (Tr.ret (Sum.inr (Ex.ret, stOf [4, 5, 6] [AV.str (intBytes (b ++ [(↑(UInt8.toNat (List.getD s (Int.toNat at_) 0)) : Int)] ++ bytesInt (foldB (someV s (at_ + (1 : Ty.den (Ty.int IntKind.i64))) (IntKind.wrap IntKind.i64 (↑(UInt8.toNat (List.getD s (Int.toNat at_) 0)) : Int)))))), AV.int IntKind.i64 (at_ + (1 : Ty.den (Ty.int IntKind.i64)) + IntKind.wrap IntKind.i64 (↑(UInt8.toNat (List.getD s (Int.toNat at_) 0)) : Int)), AV.int IntKind.i64 (0 : Int)] []))) Tr.no) (Tr.br (bytesOk (b ++ [(↑(UInt8.toNat (List.getD s (Int.toNat at_) 0)) : Int)] ++ bytesInt (foldB (someV s (at_ + (1 : Ty.den (Ty.int IntKind.i64))) (IntKind.wrap IntKind.i64 (↑(UInt8.toNat (List.getD s (Int.toNat at_) 0)) : Int))))) && (!List.isEmpty (b ++ [(↑(UInt8.toNat (List.getD s (Int.toNat at_) 0)) : Int)] ++ bytesInt (foldB (someV s (at_ + (1 : Ty.den (Ty.int IntKind.i64))) (IntKind.wrap IntKind.i64 (↑(UInt8.toNat (List.getD s (Int.toNat at_) 0)) : Int))))) && Nat.ble (List.length (b ++ [(↑(UInt8.toNat (List.getD s (Int.toNat at_) 0)) : Int)] ++ bytesInt (foldB (someV s (at_ + (1 : Ty.den (Ty.int IntKind.i64))) (IntKind.wrap IntKind.i64 (↑(UInt8.toNat (List.getD s (Int.toNat at_) 0)) : Int)))))) 9223372036854775807)) (Tr.ret (Sum.inr (Ex.ret, stOf [4, 5, 6] [AV.str (intBytes (b ++ [(↑(UInt8.toNat (List.getD s (Int.toNat at_) 0)) : Int)] ++ bytesInt (foldB (someV s (at_ + (1 : Ty.den (Ty.int IntKind.i64))) (IntKind.wrap IntKind.i64 (↑(UInt8.toNat (List.getD s (Int.toNat at_) 0)) : Int)))))), AV.int IntKind.i64 behind, AV.int IntKind.i64 (0 : Int)] []))) Tr.no))) Tr.no) Tr.no) Tr.no)) (Tr.ret (Sum.inr (Ex.ret, stOf [4, 5, 6] [AV.str [], AV.int IntKind.i64 (0 : Int), AV.int IntKind.i64 (2 : Int)] [])))) Tr.no))) (Tr.ret (Sum.inr (Ex.ret, stOf [4, 5, 6] [AV.str [], AV.int IntKind.i64 (0 : Int), AV.int IntKind.i64 (2 : Int)] [])))) Tr.no
set_option maxRecDepth 1000000 in
theorem round27u (lp : Lp) (s : List UInt8) (at_ : Int) (from_ : Int) (behind : Int) (b : List Int) : evC T0 (orcB [fs46w, fs47w, fs48w, fs52w] [os49n, os49u, os50n, os50u, os51u, osStr]) lp b27u 0 (stOf [0, 1, 7, 8, 9] [.str s, .int .i64 at_, .ptr 0 0, .int .i64 from_, .int .i64 behind] [.boxT (some 88) [.ptr 0 0, .rowA 1], .row (.int .u8) b]) (roundK [0, 1, 7, 8, 9] [4, 5, 6] 0) = (r27u s at_ from_ behind b).get := by kernel_rfl
theorem wf27u (s : List UInt8) (I'' : Int → Int → Int → List Int → Prop) (m'' : Int → Int → Int → List Int → Nat) (r'' : Ex × St) (h : ∀ (at_ : Int) (from_ : Int) (behind : Int) (b : List Int), I'' at_ from_ behind b → (r27u s at_ from_ behind b).all fun x'' => x'' = .inr r'' ∨ ∃ (at_' : Int) (from_' : Int) (behind' : Int) (b' : List Int), x'' = .inl (stOf [0, 1, 7, 8, 9] [.str s, .int .i64 at_', .ptr 0 0, .int .i64 from_', .int .i64 behind'] [.boxT (some 88) [.ptr 0 0, .rowA 1], .row (.int .u8) b']) ∧ I'' at_' from_' behind' b' ∧ m'' at_' from_' behind' b' < m'' at_ from_ behind b) (lp : Lp) (at_ : Int) (from_ : Int) (behind : Int) (b : List Int) : I'' at_ from_ behind b →
    loopF (fun st => evC T0 (orcB [fs46w, fs47w, fs48w, fs52w] [os49n, os49u, os50n, os50u, os51u, osStr]) lp b27u 0 st (roundK [0, 1, 7, 8, 9] [4, 5, 6] 0)) (stOf [0, 1, 7, 8, 9] [.str s, .int .i64 at_, .ptr 0 0, .int .i64 from_, .int .i64 behind] [.boxT (some 88) [.ptr 0 0, .rowA 1], .row (.int .u8) b]) = some r'' :=
  loop_tr (fun a'' : Int × Int × Int × List Int => stOf [0, 1, 7, 8, 9] [.str s, .int .i64 a''.1, .ptr 0 0, .int .i64 a''.2.1, .int .i64 a''.2.2.1] [.boxT (some 88) [.ptr 0 0, .rowA 1], .row (.int .u8) a''.2.2.2]) (fun a'' => I'' a''.1 a''.2.1 a''.2.2.1 a''.2.2.2) (fun a'' => m'' a''.1 a''.2.1 a''.2.2.1 a''.2.2.2) r'' (fun a'' => r27u s a''.1 a''.2.1 a''.2.2.1 a''.2.2.2)
    (fun a'' x hx => (round27u lp s a''.1 a''.2.1 a''.2.2.1 a''.2.2.2).trans hx) (fun a'' ha => Tr.all_mono (fun x'' hx => hx.imp id fun ⟨at_', from_', behind', b', h1, h2, h3⟩ => ⟨(at_', from_', behind', b'), h1, h2, h3⟩) (h (a''.1) (a''.2.1) (a''.2.2.1) (a''.2.2.2) ha)) (at_, from_, behind, b)
theorem loop27u : ls27u.Ok T0 (orcB [fs46w, fs47w, fs48w, fs52w] [os49n, os49u, os50n, os50u, os51u, osStr]) h27 0 0 b27u := by
  intro q'' hq'' x'' y'' r'' h
  obtain ⟨(s : List UInt8), (at_ : Int), (from_ : Int), (behind : Int), _⟩ := x''
  obtain ⟨_, (b : List Int), _⟩ := y''
  obtain ⟨hc, rfl⟩ := Tr.get_on h
  show loopF (fun st => evC T0 (orcB [fs46w, fs47w, fs48w, fs52w] [os49n, os49u, os50n, os50u, os51u, osStr]) (lpN T0 (orcB [fs46w, fs47w, fs48w, fs52w] [os49n, os49u, os50n, os50u, os51u, osStr]) h27 0 q'') b27u 0 st (roundK [0, 1, 7, 8, 9] [4, 5, 6] 0)) (stOf [0, 1, 7, 8, 9] [.str s, .int .i64 at_, .ptr 0 0, .int .i64 from_, .int .i64 behind] [.boxT (some 88) [.ptr 0 0, .rowA 1], .row (.int .u8) b]) = some (.ret, stOf [4, 5, 6] ([.str (tkS (takeG s at_ from_ behind (intBytes b))), .int .i64 (tkN (takeG s at_ from_ behind (intBytes b))), .int .i64 (tkE (takeG s at_ from_ behind (intBytes b)))]) ([]))
  simp only [tkC, Bool.and_eq_true] at hc
  obtain ⟨hbig, hok, hb⟩ := hc
  have hb := Nat.le_of_ble_eq_true hb
  refine wf27u s (tkI s at_ from_ behind b) (fun at_ from_ _ _ => msT s at_ from_) _ ?_ _ at_ from_ behind b ⟨hok, hb, rfl⟩
  clear hok hb
  rintro at_ from_ behind b ⟨hok, hb, he⟩
  rw [← he]
  unfold r27u
  have hB : s.length ≤ 1000000000000 := by simpa [bigS] using hbig
  have hc : (↑(UInt8.toNat (List.getD s (Int.toNat at_) 0)) : Int) = (szT s at_ : Int) := rfl
  have hc255 := szT_lt s at_
  have hto := toT_in s at_
  simp only [and_far (n16_in s at_).1 (n16_in s at_).2, hc]
  simp only [show n16 s at_ % 16384 = toT s at_ from rfl, IntWalk.i64_in ((szT s at_ : Nat) : Int) (by omega)]
  cases h1 : someB s at_ 1 with
  | false =>
    rw [takeG_out h1]
    exact Tr.all_t hbig (Tr.all_f rfl (Tr.all_ret (.inl rfl)))
  | true =>
    have hs1 := someB_iff.1 h1
    refine Tr.all_t hbig (Tr.all_t rfl ?_)
    by_cases h192 : 192 ≤ szT s at_
    · refine Tr.all_t (dec_true (by omega)) (Tr.all_f (dec_false (by omega)) (Tr.all_t (dec_true (by omega)) (Tr.all_t hbig ?_)))
      by_cases h3 : someB s at_ 2 = true ∧ toT s at_ < from_
      · rw [takeG_ptr h1 h192 h3.1 h3.2] at he ⊢
        refine Tr.all_t h3.1 (Tr.all_t (dec_true h3.2) (Tr.all_br (fun c1 => ?_) fun c1 => ?_))
        · simp only [decide_eq_true_eq] at c1
          rw [if_pos c1] at he
          exact Tr.all_ret (.inr ⟨_, _, _, _, rfl, ⟨hok, hb, he⟩, msT_to hto.1 h3.2⟩)
        · simp only [decide_eq_false_iff_not] at c1
          rw [if_neg c1] at he
          exact Tr.all_ret (.inr ⟨_, _, _, _, rfl, ⟨hok, hb, he⟩, msT_to hto.1 h3.2⟩)
      · rw [takeG_bad h1 h192 h3]
        cases h2 : someB s at_ 2 with
        | false => exact Tr.all_f rfl (Tr.all_ret (.inl rfl))
        | true => exact Tr.all_t rfl (Tr.all_f (dec_false (fun h => h3 ⟨h2, h⟩)) (Tr.all_ret (.inl rfl)))
    · by_cases h63 : 63 < szT s at_
      · rw [takeG_mid h1 h192 h63]
        exact Tr.all_t (dec_true (by omega)) (Tr.all_t (dec_true (by omega)) (Tr.all_ret (.inl rfl)))
      · refine Tr.all_f (dec_false (by omega)) (Tr.all_f (dec_false (by omega)) (Tr.all_t hbig ?_))
        cases h4 : someB s (at_ + 1) (szT s at_) with
        | false =>
          rw [takeG_long h1 (by omega) (by rw [h4]; simp)]
          exact Tr.all_f rfl (Tr.all_ret (.inl rfl))
        | true =>
          have hs4 := someB_iff.1 h4
          have hvl : (someV s (at_ + 1) (szT s at_ : Int)).length = szT s at_ := by rw [someV_len h4]; omega
          have hvb : bigS (someV s (at_ + 1) (szT s at_ : Int)) = true := by simp [bigS, hvl]; omega
          rw [hvl]
          rw [IntWalk.i64_in ((List.length b : Int) + 1) (by omega), IntWalk.i64_in _ (by omega)]
          refine Tr.all_t rfl ?_
          by_cases h5 : b.length + 1 + szT s at_ ≤ 255
          · have hnew : bytesOk (b ++ [((szT s at_ : Nat) : Int)] ++ bytesInt (foldB (someV s (at_ + 1) (szT s at_ : Int)))) = true := by
              refine bytesOk_app (bytesOk_app hok ?_) (bytesInt_ok _)
              simp [bytesOk]
              omega
            have hnl : (b ++ [((szT s at_ : Nat) : Int)] ++ bytesInt (foldB (someV s (at_ + 1) (szT s at_ : Int)))).length = b.length + 1 + szT s at_ := by
              simp [bytesInt_len, foldB_len, hvl]
              omega
            have hS2 : intBytes (b ++ [((szT s at_ : Nat) : Int)] ++ bytesInt (foldB (someV s (at_ + 1) (szT s at_ : Int)))) = intBytes b ++ s.getD at_.toNat 0 :: foldB (someV s (at_ + 1) (szT s at_ : Int)) := by
              rw [intB_app, intB_app, intB_bytes]
              have : intBytes [((szT s at_ : Nat) : Int)] = [s.getD at_.toNat 0] := by simp [intBytes, szT]
              rw [this]
              simp
            refine Tr.all_f (dec_false (by omega)) (Tr.all_t (fits_true (by omega) (by omega)) (Tr.all_t hvb (Tr.all_t (fits_true (by simp [bytesInt_len, foldB_len, hvl]; omega) (by simp [bytesInt_len, foldB_len, hvl]; omega)) ?_)))
            by_cases h0 : szT s at_ = 0
            · rw [takeG_end h1 h0 (by rw [intB_len]; omega)]
              have hv0 : someV s (at_ + 1) (szT s at_ : Int) = [] := List.length_eq_zero_iff.1 (by rw [hvl]; exact h0)
              have hg0 : s.getD at_.toNat 0 = 0 := by
                have : (s.getD at_.toNat 0).toNat = 0 := h0
                exact UInt8.toNat_inj.1 (by simpa using this)
              have hend : (bytesOk (b ++ [((szT s at_ : Nat) : Int)] ++ bytesInt (foldB (someV s (at_ + 1) (szT s at_ : Int)))) && (!List.isEmpty (b ++ [((szT s at_ : Nat) : Int)] ++ bytesInt (foldB (someV s (at_ + 1) (szT s at_ : Int)))) && Nat.ble (List.length (b ++ [((szT s at_ : Nat) : Int)] ++ bytesInt (foldB (someV s (at_ + 1) (szT s at_ : Int))))) 9223372036854775807)) = true := by
                rw [hnew, Nat.ble_eq_true_of_le (by omega)]
                simp
              refine Tr.all_f (dec_false (by omega)) (Tr.all_br (fun c1 => Tr.all_t hend (Tr.all_ret (.inl ?_))) fun c1 => Tr.all_t hend (Tr.all_ret (.inl ?_)))
              · simp only [decide_eq_true_eq] at c1
                rw [if_pos c1, hS2, hv0, hg0, h0]
                simp [foldB]
                rfl
              · simp only [decide_eq_false_iff_not] at c1
                rw [if_neg c1, hS2, hv0, hg0]
                rfl
            · have hG := takeG_on (s := s) (at_ := at_) (from_ := from_) (behind := behind) (out := intBytes b) h1 (by omega) h0 h4 (by rw [intB_len]; omega)
              rw [← hS2] at hG
              rw [hG] at he ⊢
              refine Tr.all_t (dec_true (by omega)) (Tr.all_ret ?_)
              exact .inr ⟨_, _, _, _, rfl, ⟨hnew, by omega, he⟩, msT_on hs1.1 hs4.2.2⟩
          · rw [takeG_long h1 (by omega) (by rw [intB_len]; exact fun h => h5 h.2)]
            exact Tr.all_t (dec_true (by omega)) (Tr.all_ret (.inl rfl))
noncomputable def b27n : Code := (nthLoop c27 0)
def ls27n : LoopSpec := { bid := 0, sh := [.d .str false, .d (.int .i64) false, .ptr 0 0, .d (.int .i64) false, .d (.int .i64) false], so := [.tbox 88 [.np, .row 1], .row (.int .u8)], F := fun (s, at_, from_, behind, _) (_, b, _) => .on (tkC s b) (.ret, [.str (tkS (takeG s at_ from_ behind (intBytes b))), .int .i64 (tkN (takeG s at_ from_ behind (intBytes b))), .int .i64 (tkE (takeG s at_ from_ behind (intBytes b)))], []) }
def r27n (s : List UInt8) (at_ : Int) (from_ : Int) (behind : Int) (b : List Int) : Tr (St ⊕ (Ex × St)) := Tr.br (bigS s) (Tr.br (someB s at_ (1 : Int)) (Tr.br (decide ((↑(UInt8.toNat (List.getD s (Int.toNat at_) 0)) : Int) > (63 : Int))) (Tr.br (decide ((↑(UInt8.toNat (List.getD s (Int.toNat at_) 0)) : Int) < (192 : Int))) (Tr.ret (Sum.inr (Ex.ret, stOf [4, 5, 6] [AV.str [], AV.int IntKind.i64 (0 : Int), AV.int IntKind.i64 (2 : Int)] []))) (Tr.br (decide ((↑(UInt8.toNat (List.getD s (Int.toNat at_) 0)) : Int) ≥ (192 : Int))) (Tr.br (bigS s) (Tr.br (someB s at_ (2 : Int)) (Tr.br (decide (IntKind.wrap IntKind.i64 (↑(BitVec.toNat (BitVec.ofInt (IntKind.bits IntKind.i64) (IntKind.wrap IntKind.i64 (n16 s at_)) &&& ~~~BitVec.ofInt (IntKind.bits IntKind.i64) (49152 : Int))) : Int) < from_)) (Tr.br (decide (behind < (0 : Int))) (Tr.ret (Sum.inl (stOf [0, 1, 7, 8, 9] [AV.str s, AV.int IntKind.i64 (IntKind.wrap IntKind.i64 (↑(BitVec.toNat (BitVec.ofInt (IntKind.bits IntKind.i64) (IntKind.wrap IntKind.i64 (n16 s at_)) &&& ~~~BitVec.ofInt (IntKind.bits IntKind.i64) (49152 : Int))) : Int)), AV.ptr 0 0, AV.int IntKind.i64 (IntKind.wrap IntKind.i64 (↑(BitVec.toNat (BitVec.ofInt (IntKind.bits IntKind.i64) (IntKind.wrap IntKind.i64 (n16 s at_)) &&& ~~~BitVec.ofInt (IntKind.bits IntKind.i64) (49152 : Int))) : Int)), AV.int IntKind.i64 (at_ + (2 : Ty.den (Ty.int IntKind.i64)))] [LObj.boxT (some 88) [AV.np, AV.rowA 1], LObj.row (Ty.int IntKind.u8) b]))) (Tr.ret (Sum.inl (stOf [0, 1, 7, 8, 9] [AV.str s, AV.int IntKind.i64 (IntKind.wrap IntKind.i64 (↑(BitVec.toNat (BitVec.ofInt (IntKind.bits IntKind.i64) (IntKind.wrap IntKind.i64 (n16 s at_)) &&& ~~~BitVec.ofInt (IntKind.bits IntKind.i64) (49152 : Int))) : Int)), AV.ptr 0 0, AV.int IntKind.i64 (IntKind.wrap IntKind.i64 (↑(BitVec.toNat (BitVec.ofInt (IntKind.bits IntKind.i64) (IntKind.wrap IntKind.i64 (n16 s at_)) &&& ~~~BitVec.ofInt (IntKind.bits IntKind.i64) (49152 : Int))) : Int)), AV.int IntKind.i64 behind] [LObj.boxT (some 88) [AV.np, AV.rowA 1], LObj.row (Ty.int IntKind.u8) b])))) (Tr.ret (Sum.inr (Ex.ret, stOf [4, 5, 6] [AV.str [], AV.int IntKind.i64 (0 : Int), AV.int IntKind.i64 (2 : Int)] [])))) (Tr.ret (Sum.inr (Ex.ret, stOf [4, 5, 6] [AV.str [], AV.int IntKind.i64 (0 : Int), AV.int IntKind.i64 (2 : Int)] [])))) Tr.no) (Tr.br (bigS s) (Tr.br (someB s (at_ + (1 : Ty.den (Ty.int IntKind.i64))) (IntKind.wrap IntKind.i64 (↑(UInt8.toNat (List.getD s (Int.toNat at_) 0)) : Int))) (Tr.br (decide (IntKind.wrap IntKind.i64 (IntKind.wrap IntKind.i64 ((↑(List.length b) : Int) + (1 : Int)) + (↑(List.length (someV s (at_ + (1 : Ty.den (Ty.int IntKind.i64))) (IntKind.wrap IntKind.i64 (↑(UInt8.toNat (List.getD s (Int.toNat at_) 0)) : Int)))) : Int)) > (255 : Int))) (Tr.ret (Sum.inr (Ex.ret, stOf [4, 5, 6] [AV.str [], AV.int IntKind.i64 (0 : Int), AV.int IntKind.i64 (2 : Int)] []))) (Tr.br (fits (List.length b + 1) 1) (Tr.br (bigS (someV s (at_ + (1 : Ty.den (Ty.int IntKind.i64))) (IntKind.wrap IntKind.i64 (↑(UInt8.toNat (List.getD s (Int.toNat at_) 0)) : Int)))) (Tr.br (fits (List.length (b ++ [(↑(UInt8.toNat (List.getD s (Int.toNat at_) 0)) : Int)]) + List.length (bytesInt (foldB (someV s (at_ + (1 : Ty.den (Ty.int IntKind.i64))) (IntKind.wrap IntKind.i64 (↑(UInt8.toNat (List.getD s (Int.toNat at_) 0)) : Int)))))) 1) (Tr.br (decide ((↑(UInt8.toNat (List.getD s (Int.toNat at_) 0)) : Int) > (0 : Int))) (Tr.ret (Sum.inl (stOf [0, 1, 7, 8, 9] [AV.str s, AV.int IntKind.i64 (at_ + (1 : Ty.den (Ty.int IntKind.i64)) + IntKind.wrap IntKind.i64 (↑(UInt8.toNat (List.getD s (Int.toNat at_) 0)) : Int)), AV.ptr 0 0, AV.int IntKind.i64 from_, AV.int IntKind.i64 behind] [LObj.boxT (some 88) [AV.ptr 0 0, AV.rowA 1], LObj.row (Ty.int IntKind.u8) (b ++ [(↑(UInt8.toNat (List.getD s (Int.toNat at_) 0)) : Int)] ++ bytesInt (foldB (someV s (at_ + (1 : Ty.den (Ty.int IntKind.i64))) (IntKind.wrap IntKind.i64 (↑(UInt8.toNat (List.getD s (Int.toNat at_) 0)) : Int)))))]))) (Tr.br (decide (behind < (0 : Int))) (Tr.br (bytesOk (b ++ [(↑(UInt8.toNat (List.getD s (Int.toNat at_) 0)) : Int)] ++ bytesInt (foldB (someV s (at_ + (1 : Ty.den (Ty.int IntKind.i64))) (IntKind.wrap IntKind.i64 (↑(UInt8.toNat (List.getD s (Int.toNat at_) 0)) : Int))))) && (!List.isEmpty (b ++ [(↑(UInt8.toNat (List.getD s (Int.toNat at_) 0)) : Int)] ++ bytesInt (foldB (someV s (at_ + (1 : Ty.den (Ty.int IntKind.i64))) (IntKind.wrap IntKind.i64 (↑(UInt8.toNat (List.getD s (Int.toNat at_) 0)) : Int))))) && Nat.ble (List.length (b ++ [(↑(UInt8.toNat (List.getD s (Int.toNat at_) 0)) : Int)] ++ bytesInt (foldB (someV s (at_ + (1 : Ty.den (Ty.int IntKind.i64))) (IntKind.wrap IntKind.i64 (↑(UInt8.toNat (List.getD s (Int.toNat at_) 0)) : Int)))))) 9223372036854775807)) (Tr.ret (Sum.inr (Ex.ret, stOf [4, 5, 6] [AV.str (intBytes (b ++ [(↑(UInt8.toNat (List.getD s (Int.toNat at_) 0)) : Int)] ++ bytesInt (foldB (someV s (at_ + (1 : Ty.den (Ty.int IntKind.i64))) (IntKind.wrap IntKind.i64 (↑(UInt8.toNat (List.getD s (Int.toNat at_) 0)) : Int)))))), AV.int IntKind.i64 (at_ + (1 : Ty.den (Ty.int IntKind.i64)) + IntKind.wrap IntKind.i64 (↑(UInt8.toNat (List.getD s (Int.toNat at_) 0)) : Int)), AV.int IntKind.i64 (0 : Int)] []))) Tr.no) (Tr.br (bytesOk (b ++ [(↑(UInt8.toNat (List.getD s (Int.toNat at_) 0)) : Int)] ++ bytesInt (foldB (someV s (at_ + (1 : Ty.den (Ty.int IntKind.i64))) (IntKind.wrap IntKind.i64 (↑(UInt8.toNat (List.getD s (Int.toNat at_) 0)) : Int))))) && (!List.isEmpty (b ++ [(↑(UInt8.toNat (List.getD s (Int.toNat at_) 0)) : Int)] ++ bytesInt (foldB (someV s (at_ + (1 : Ty.den (Ty.int IntKind.i64))) (IntKind.wrap IntKind.i64 (↑(UInt8.toNat (List.getD s (Int.toNat at_) 0)) : Int))))) && Nat.ble (List.length (b ++ [(↑(UInt8.toNat (List.getD s (Int.toNat at_) 0)) : Int)] ++ bytesInt (foldB (someV s (at_ + (1 : Ty.den (Ty.int IntKind.i64))) (IntKind.wrap IntKind.i64 (↑(UInt8.toNat (List.getD s (Int.toNat at_) 0)) : Int)))))) 9223372036854775807)) (Tr.ret (Sum.inr (Ex.ret, stOf [4, 5, 6] [AV.str (intBytes (b ++ [(↑(UInt8.toNat (List.getD s (Int.toNat at_) 0)) : Int)] ++ bytesInt (foldB (someV s (at_ + (1 : Ty.den (Ty.int IntKind.i64))) (IntKind.wrap IntKind.i64 (↑(UInt8.toNat (List.getD s (Int.toNat at_) 0)) : Int)))))), AV.int IntKind.i64 behind, AV.int IntKind.i64 (0 : Int)] []))) Tr.no))) Tr.no) Tr.no) Tr.no)) (Tr.ret (Sum.inr (Ex.ret, stOf [4, 5, 6] [AV.str [], AV.int IntKind.i64 (0 : Int), AV.int IntKind.i64 (2 : Int)] [])))) Tr.no))) (Tr.br (decide ((↑(UInt8.toNat (List.getD s (Int.toNat at_) 0)) : Int) ≥ (192 : Int))) (Tr.br (bigS s) (Tr.br (someB s at_ (2 : Int)) (Tr.br (decide (IntKind.wrap IntKind.i64 (↑(BitVec.toNat (BitVec.ofInt (IntKind.bits IntKind.i64) (IntKind.wrap IntKind.i64 (n16 s at_)) &&& ~~~BitVec.ofInt (IntKind.bits IntKind.i64) (49152 : Int))) : Int) < from_)) (Tr.br (decide (behind < (0 : Int))) (Tr.ret (Sum.inl (stOf [0, 1, 7, 8, 9] [AV.str s, AV.int IntKind.i64 (IntKind.wrap IntKind.i64 (↑(BitVec.toNat (BitVec.ofInt (IntKind.bits IntKind.i64) (IntKind.wrap IntKind.i64 (n16 s at_)) &&& ~~~BitVec.ofInt (IntKind.bits IntKind.i64) (49152 : Int))) : Int)), AV.ptr 0 0, AV.int IntKind.i64 (IntKind.wrap IntKind.i64 (↑(BitVec.toNat (BitVec.ofInt (IntKind.bits IntKind.i64) (IntKind.wrap IntKind.i64 (n16 s at_)) &&& ~~~BitVec.ofInt (IntKind.bits IntKind.i64) (49152 : Int))) : Int)), AV.int IntKind.i64 (at_ + (2 : Ty.den (Ty.int IntKind.i64)))] [LObj.boxT (some 88) [AV.np, AV.rowA 1], LObj.row (Ty.int IntKind.u8) b]))) (Tr.ret (Sum.inl (stOf [0, 1, 7, 8, 9] [AV.str s, AV.int IntKind.i64 (IntKind.wrap IntKind.i64 (↑(BitVec.toNat (BitVec.ofInt (IntKind.bits IntKind.i64) (IntKind.wrap IntKind.i64 (n16 s at_)) &&& ~~~BitVec.ofInt (IntKind.bits IntKind.i64) (49152 : Int))) : Int)), AV.ptr 0 0, AV.int IntKind.i64 (IntKind.wrap IntKind.i64 (↑(BitVec.toNat (BitVec.ofInt (IntKind.bits IntKind.i64) (IntKind.wrap IntKind.i64 (n16 s at_)) &&& ~~~BitVec.ofInt (IntKind.bits IntKind.i64) (49152 : Int))) : Int)), AV.int IntKind.i64 behind] [LObj.boxT (some 88) [AV.np, AV.rowA 1], LObj.row (Ty.int IntKind.u8) b])))) (Tr.ret (Sum.inr (Ex.ret, stOf [4, 5, 6] [AV.str [], AV.int IntKind.i64 (0 : Int), AV.int IntKind.i64 (2 : Int)] [])))) (Tr.ret (Sum.inr (Ex.ret, stOf [4, 5, 6] [AV.str [], AV.int IntKind.i64 (0 : Int), AV.int IntKind.i64 (2 : Int)] [])))) Tr.no) (Tr.br (bigS s) (Tr.br (someB s (at_ + (1 : Ty.den (Ty.int IntKind.i64))) (IntKind.wrap IntKind.i64 (↑(UInt8.toNat (List.getD s (Int.toNat at_) 0)) : Int))) (Tr.br (decide (IntKind.wrap IntKind.i64 (IntKind.wrap IntKind.i64 ((↑(List.length b) : Int) + (1 : Int)) + (↑(List.length (someV s (at_ + (1 : Ty.den (Ty.int IntKind.i64))) (IntKind.wrap IntKind.i64 (↑(UInt8.toNat (List.getD s (Int.toNat at_) 0)) : Int)))) : Int)) > (255 : Int))) (Tr.ret (Sum.inr (Ex.ret, stOf [4, 5, 6] [AV.str [], AV.int IntKind.i64 (0 : Int), AV.int IntKind.i64 (2 : Int)] []))) (Tr.br (fits (List.length b + 1) 1) (Tr.br (bigS (someV s (at_ + (1 : Ty.den (Ty.int IntKind.i64))) (IntKind.wrap IntKind.i64 (↑(UInt8.toNat (List.getD s (Int.toNat at_) 0)) : Int)))) (Tr.br (fits (List.length (b ++ [(↑(UInt8.toNat (List.getD s (Int.toNat at_) 0)) : Int)]) + List.length (bytesInt (foldB (someV s (at_ + (1 : Ty.den (Ty.int IntKind.i64))) (IntKind.wrap IntKind.i64 (↑(UInt8.toNat (List.getD s (Int.toNat at_) 0)) : Int)))))) 1) (Tr.br (decide ((↑(UInt8.toNat (List.getD s (Int.toNat at_) 0)) : Int) > (0 : Int))) (Tr.ret (Sum.inl (stOf [0, 1, 7, 8, 9] [AV.str s, AV.int IntKind.i64 (at_ + (1 : Ty.den (Ty.int IntKind.i64)) + IntKind.wrap IntKind.i64 (↑(UInt8.toNat (List.getD s (Int.toNat at_) 0)) : Int)), AV.ptr 0 0, AV.int IntKind.i64 from_, AV.int IntKind.i64 behind] [LObj.boxT (some 88) [AV.ptr 0 0, AV.rowA 1], LObj.row (Ty.int IntKind.u8) (b ++ [(↑(UInt8.toNat (List.getD s (Int.toNat at_) 0)) : Int)] ++ bytesInt (foldB (someV s (at_ + (1 : Ty.den (Ty.int IntKind.i64))) (IntKind.wrap IntKind.i64 (↑(UInt8.toNat (List.getD s (Int.toNat at_) 0)) : Int)))))]))) (Tr.br (decide (behind < (0 : Int))) (Tr.br (bytesOk (b ++ [(↑(UInt8.toNat (List.getD s (Int.toNat at_) 0)) : Int)] ++ bytesInt (foldB (someV s (at_ + (1 : Ty.den (Ty.int IntKind.i64))) (IntKind.wrap IntKind.i64 (↑(UInt8.toNat (List.getD s (Int.toNat at_) 0)) : Int))))) && (!List.isEmpty (b ++ [(↑(UInt8.toNat (List.getD s (Int.toNat at_) 0)) : Int)] ++ bytesInt (foldB (someV s (at_ + (1 : Ty.den (Ty.int IntKind.i64))) (IntKind.wrap IntKind.i64 (↑(UInt8.toNat (List.getD s (Int.toNat at_) 0)) : Int))))) && Nat.ble (List.length (b ++ [(↑(UInt8.toNat (List.getD s (Int.toNat at_) 0)) : Int)] ++ bytesInt (foldB (someV s (at_ + (1 : Ty.den (Ty.int IntKind.i64))) (IntKind.wrap IntKind.i64 (↑(UInt8.toNat (List.getD s (Int.toNat at_) 0)) : Int)))))) 9223372036854775807)) (Tr.ret (Sum.inr (Ex.ret, stOf [4, 5, 6] [AV.str (intBytes (b ++ [(↑(UInt8.toNat (List.getD s (Int.toNat at_) 0)) : Int)] ++ bytesInt (foldB (someV s (at_ + (1 : Ty.den (Ty.int IntKind.i64))) (IntKind.wrap IntKind.i64 (↑(UInt8.toNat (List.getD s (Int.toNat at_) 0)) : Int)))))), AV.int IntKind.i64 (at_ + (1 : Ty.den (Ty.int IntKind.i64)) + IntKind.wrap IntKind.i64 (↑(UInt8.toNat (List.getD s (Int.toNat at_) 0)) : Int)), AV.int IntKind.i64 (0 : Int)] []))) Tr.no) (Tr.br (bytesOk (b ++ [(↑(UInt8.toNat (List.getD s (Int.toNat at_) 0)) : Int)] ++ bytesInt (foldB (someV s (at_ + (1 : Ty.den (Ty.int IntKind.i64))) (IntKind.wrap IntKind.i64 (↑(UInt8.toNat (List.getD s (Int.toNat at_) 0)) : Int))))) && (!List.isEmpty (b ++ [(↑(UInt8.toNat (List.getD s (Int.toNat at_) 0)) : Int)] ++ bytesInt (foldB (someV s (at_ + (1 : Ty.den (Ty.int IntKind.i64))) (IntKind.wrap IntKind.i64 (↑(UInt8.toNat (List.getD s (Int.toNat at_) 0)) : Int))))) && Nat.ble (List.length (b ++ [(↑(UInt8.toNat (List.getD s (Int.toNat at_) 0)) : Int)] ++ bytesInt (foldB (someV s (at_ + (1 : Ty.den (Ty.int IntKind.i64))) (IntKind.wrap IntKind.i64 (↑(UInt8.toNat (List.getD s (Int.toNat at_) 0)) : Int)))))) 9223372036854775807)) (Tr.ret (Sum.inr (Ex.ret, stOf [4, 5, 6] [AV.str (intBytes (b ++ [(↑(UInt8.toNat (List.getD s (Int.toNat at_) 0)) : Int)] ++ bytesInt (foldB (someV s (at_ + (1 : Ty.den (Ty.int IntKind.i64))) (IntKind.wrap IntKind.i64 (↑(UInt8.toNat (List.getD s (Int.toNat at_) 0)) : Int)))))), AV.int IntKind.i64 behind, AV.int IntKind.i64 (0 : Int)] []))) Tr.no))) Tr.no) Tr.no) Tr.no)) (Tr.ret (Sum.inr (Ex.ret, stOf [4, 5, 6] [AV.str [], AV.int IntKind.i64 (0 : Int), AV.int IntKind.i64 (2 : Int)] [])))) Tr.no))) (Tr.ret (Sum.inr (Ex.ret, stOf [4, 5, 6] [AV.str [], AV.int IntKind.i64 (0 : Int), AV.int IntKind.i64 (2 : Int)] [])))) Tr.no
set_option maxRecDepth 1000000 in
theorem round27n (lp : Lp) (s : List UInt8) (at_ : Int) (from_ : Int) (behind : Int) (b : List Int) : evC T0 (orcB [fs46w, fs47w, fs48w, fs52w] [os49n, os49u, os50n, os50u, os51u, osStr]) lp b27n 0 (stOf [0, 1, 7, 8, 9] [.str s, .int .i64 at_, .ptr 0 0, .int .i64 from_, .int .i64 behind] [.boxT (some 88) [.np, .rowA 1], .row (.int .u8) b]) (roundK [0, 1, 7, 8, 9] [4, 5, 6] 0) = (r27n s at_ from_ behind b).get := by kernel_rfl
theorem loop27n : ls27n.Ok T0 (orcB [fs46w, fs47w, fs48w, fs52w] [os49n, os49u, os50n, os50u, os51u, osStr]) h27 0 0 b27n := by
  intro q'' hq'' x'' y'' r'' h
  obtain ⟨(s : List UInt8), (at_ : Int), (from_ : Int), (behind : Int), _⟩ := x''
  obtain ⟨_, (b : List Int), _⟩ := y''
  obtain ⟨hc, rfl⟩ := Tr.get_on h
  show loopF (fun st => evC T0 (orcB [fs46w, fs47w, fs48w, fs52w] [os49n, os49u, os50n, os50u, os51u, osStr]) (lpN T0 (orcB [fs46w, fs47w, fs48w, fs52w] [os49n, os49u, os50n, os50u, os51u, osStr]) h27 0 q'') b27n 0 st (roundK [0, 1, 7, 8, 9] [4, 5, 6] 0)) (stOf [0, 1, 7, 8, 9] [.str s, .int .i64 at_, .ptr 0 0, .int .i64 from_, .int .i64 behind] [.boxT (some 88) [.np, .rowA 1], .row (.int .u8) b]) = some (.ret, stOf [4, 5, 6] ([.str (tkS (takeG s at_ from_ behind (intBytes b))), .int .i64 (tkN (takeG s at_ from_ behind (intBytes b))), .int .i64 (tkE (takeG s at_ from_ behind (intBytes b)))]) ([]))
  simp only [tkC, Bool.and_eq_true] at hc
  obtain ⟨hbig, hok, hb⟩ := hc
  have hb := Nat.le_of_ble_eq_true hb
  refine loop_tr2 (fun a : Int × Int × Int × List Int => stOf [0, 1, 7, 8, 9] [.str s, .int .i64 a.1, .ptr 0 0, .int .i64 a.2.1, .int .i64 a.2.2.1] [.boxT (some 88) [.np, .rowA 1], .row (.int .u8) a.2.2.2]) (fun a => tkI s at_ from_ behind b a.1 a.2.1 a.2.2.1 a.2.2.2) (fun a => msT s a.1 a.2.1) _
    (fun a => r27n s a.1 a.2.1 a.2.2.1 a.2.2.2) (fun a x hx => (round27n _ s a.1 a.2.1 a.2.2.1 a.2.2.2).trans hx) ?_ (at_, from_, behind, b) ⟨hok, hb, rfl⟩
  clear hok hb
  rintro ⟨at_, from_, behind, b⟩ ⟨hok, hb, he⟩
  simp only at hok hb he ⊢
  rw [← he]
  unfold r27n
  have hB : s.length ≤ 1000000000000 := by simpa [bigS] using hbig
  have hc : (↑(UInt8.toNat (List.getD s (Int.toNat at_) 0)) : Int) = (szT s at_ : Int) := rfl
  have hc255 := szT_lt s at_
  have hto := toT_in s at_
  simp only [and_far (n16_in s at_).1 (n16_in s at_).2, hc]
  simp only [show n16 s at_ % 16384 = toT s at_ from rfl, IntWalk.i64_in ((szT s at_ : Nat) : Int) (by omega)]
  cases h1 : someB s at_ 1 with
  | false =>
    rw [takeG_out h1]
    exact Tr.all_t hbig (Tr.all_f rfl (Tr.all_ret (.inl rfl)))
  | true =>
    have hs1 := someB_iff.1 h1
    refine Tr.all_t hbig (Tr.all_t rfl ?_)
    by_cases h192 : 192 ≤ szT s at_
    · refine Tr.all_t (dec_true (by omega)) (Tr.all_f (dec_false (by omega)) (Tr.all_t (dec_true (by omega)) (Tr.all_t hbig ?_)))
      by_cases h3 : someB s at_ 2 = true ∧ toT s at_ < from_
      · rw [takeG_ptr h1 h192 h3.1 h3.2] at he ⊢
        refine Tr.all_t h3.1 (Tr.all_t (dec_true h3.2) (Tr.all_br (fun c1 => ?_) fun c1 => ?_))
        · simp only [decide_eq_true_eq] at c1
          rw [if_pos c1] at he
          exact Tr.all_ret (.inr (.inl ⟨(_, _, _, _), rfl, ⟨hok, hb, he⟩, msT_to hto.1 h3.2⟩))
        · simp only [decide_eq_false_iff_not] at c1
          rw [if_neg c1] at he
          exact Tr.all_ret (.inr (.inl ⟨(_, _, _, _), rfl, ⟨hok, hb, he⟩, msT_to hto.1 h3.2⟩))
      · rw [takeG_bad h1 h192 h3]
        cases h2 : someB s at_ 2 with
        | false => exact Tr.all_f rfl (Tr.all_ret (.inl rfl))
        | true => exact Tr.all_t rfl (Tr.all_f (dec_false (fun h => h3 ⟨h2, h⟩)) (Tr.all_ret (.inl rfl)))
    · by_cases h63 : 63 < szT s at_
      · rw [takeG_mid h1 h192 h63]
        exact Tr.all_t (dec_true (by omega)) (Tr.all_t (dec_true (by omega)) (Tr.all_ret (.inl rfl)))
      · refine Tr.all_f (dec_false (by omega)) (Tr.all_f (dec_false (by omega)) (Tr.all_t hbig ?_))
        cases h4 : someB s (at_ + 1) (szT s at_) with
        | false =>
          rw [takeG_long h1 (by omega) (by rw [h4]; simp)]
          exact Tr.all_f rfl (Tr.all_ret (.inl rfl))
        | true =>
          have hs4 := someB_iff.1 h4
          have hvl : (someV s (at_ + 1) (szT s at_ : Int)).length = szT s at_ := by rw [someV_len h4]; omega
          have hvb : bigS (someV s (at_ + 1) (szT s at_ : Int)) = true := by simp [bigS, hvl]; omega
          rw [hvl]
          rw [IntWalk.i64_in ((List.length b : Int) + 1) (by omega), IntWalk.i64_in _ (by omega)]
          refine Tr.all_t rfl ?_
          by_cases h5 : b.length + 1 + szT s at_ ≤ 255
          · have hnew : bytesOk (b ++ [((szT s at_ : Nat) : Int)] ++ bytesInt (foldB (someV s (at_ + 1) (szT s at_ : Int)))) = true := by
              refine bytesOk_app (bytesOk_app hok ?_) (bytesInt_ok _)
              simp [bytesOk]
              omega
            have hnl : (b ++ [((szT s at_ : Nat) : Int)] ++ bytesInt (foldB (someV s (at_ + 1) (szT s at_ : Int)))).length = b.length + 1 + szT s at_ := by
              simp [bytesInt_len, foldB_len, hvl]
              omega
            have hS2 : intBytes (b ++ [((szT s at_ : Nat) : Int)] ++ bytesInt (foldB (someV s (at_ + 1) (szT s at_ : Int)))) = intBytes b ++ s.getD at_.toNat 0 :: foldB (someV s (at_ + 1) (szT s at_ : Int)) := by
              rw [intB_app, intB_app, intB_bytes]
              have : intBytes [((szT s at_ : Nat) : Int)] = [s.getD at_.toNat 0] := by simp [intBytes, szT]
              rw [this]
              simp
            refine Tr.all_f (dec_false (by omega)) (Tr.all_t (fits_true (by omega) (by omega)) (Tr.all_t hvb (Tr.all_t (fits_true (by simp [bytesInt_len, foldB_len, hvl]; omega) (by simp [bytesInt_len, foldB_len, hvl]; omega)) ?_)))
            by_cases h0 : szT s at_ = 0
            · rw [takeG_end h1 h0 (by rw [intB_len]; omega)]
              have hv0 : someV s (at_ + 1) (szT s at_ : Int) = [] := List.length_eq_zero_iff.1 (by rw [hvl]; exact h0)
              have hg0 : s.getD at_.toNat 0 = 0 := by
                have : (s.getD at_.toNat 0).toNat = 0 := h0
                exact UInt8.toNat_inj.1 (by simpa using this)
              have hend : (bytesOk (b ++ [((szT s at_ : Nat) : Int)] ++ bytesInt (foldB (someV s (at_ + 1) (szT s at_ : Int)))) && (!List.isEmpty (b ++ [((szT s at_ : Nat) : Int)] ++ bytesInt (foldB (someV s (at_ + 1) (szT s at_ : Int)))) && Nat.ble (List.length (b ++ [((szT s at_ : Nat) : Int)] ++ bytesInt (foldB (someV s (at_ + 1) (szT s at_ : Int))))) 9223372036854775807)) = true := by
                rw [hnew, Nat.ble_eq_true_of_le (by omega)]
                simp
              refine Tr.all_f (dec_false (by omega)) (Tr.all_br (fun c1 => Tr.all_t hend (Tr.all_ret (.inl ?_))) fun c1 => Tr.all_t hend (Tr.all_ret (.inl ?_)))
              · simp only [decide_eq_true_eq] at c1
                rw [if_pos c1, hS2, hv0, hg0, h0]
                simp [foldB]
                rfl
              · simp only [decide_eq_false_iff_not] at c1
                rw [if_neg c1, hS2, hv0, hg0]
                rfl
            · have hG := takeG_on (s := s) (at_ := at_) (from_ := from_) (behind := behind) (out := intBytes b) h1 (by omega) h0 h4 (by rw [intB_len]; omega)
              rw [← hS2] at hG
              rw [hG] at he ⊢
              refine Tr.all_t (dec_true (by omega)) (Tr.all_ret ?_)
              refine .inr (.inr ⟨_, rfl, ?_⟩)
              have := loop27u q'' (Nat.zero_le _) (s, at_ + 1 + szT s at_, from_, behind, ()) ((), b ++ [((szT s at_ : Nat) : Int)] ++ bytesInt (foldB (someV s (at_ + 1) (szT s at_ : Int))), ()) (.ret, resT (takeG s (at_ + 1 + szT s at_) from_ behind (intBytes (b ++ [((szT s at_ : Nat) : Int)] ++ bytesInt (foldB (someV s (at_ + 1) (szT s at_ : Int)))))), []) (by
                show (Tr.on (tkC s _) _).get = _
                rw [show tkC s (b ++ [((szT s at_ : Nat) : Int)] ++ bytesInt (foldB (someV s (at_ + 1) (szT s at_ : Int)))) = true by simp only [tkC, hbig, hnew, Bool.true_and]; exact Nat.ble_eq_true_of_le (by omega)]
                rfl)
              exact this
          · rw [takeG_long h1 (by omega) (by rw [intB_len]; exact fun h => h5 h.2)]
            exact Tr.all_t (dec_true (by omega)) (Tr.all_ret (.inl rfl))
/-- wire.Take -/
def t27 (s : List UInt8) (at_ : Int) : Tr Res := Tr.br (tkC s []) (Tr.ret ([AV.str (tkS (takeG s at_ at_ (-1 : Int) (intBytes []))), AV.int IntKind.i64 (tkN (takeG s at_ at_ (-1 : Int) (intBytes []))), AV.int IntKind.i64 (tkE (takeG s at_ at_ (-1 : Int) (intBytes [])))], [])) Tr.no
def os27 : OSpec := { f := 27, sh := [.d .str false, .d (.int .i64) false], so := [], F := fun (s, at_, _) _ => t27 s at_ }
set_option maxRecDepth 1000000 in
theorem fn27 (s : List UInt8) (at_ : Int) : evC T0 (orcB [fs46w, fs47w, fs48w, fs52w] [os49n, os49u, os50n, os50u, os51u, osStr]) (lpOf h27 0 (lsOf [ls27n])) c27 1000000 (startSt [.str s, .int .i64 at_] [] Try.f27.ntmps) (finishK T0 false 0 Try.f27) = (t27 s at_).get := by kernel_rfl
theorem ok27 : os27.Ok Try.prog := by
  refine os_ok mixed0 tab0 (orcB_sound (all_cons okf46w (all_cons okf47w (all_cons okf48w (all_cons okf52w all_nil)))) (all_cons ok49n (all_cons ok49u (all_cons ok50n (all_cons ok50u (all_cons ok51u (all_cons okStr all_nil))))))) h27 (d := 0) (n0 := 0) (S := lsOf [ls27n]) Try.func27 (by kernel_rfl) (c := c27) (by kernel_rfl) rfl (loops_eq (xs := [(0, b27n)]) (by kernel_rfl) (all_cons (ls_here loop27n) all_nil)) (by omega) (by kernel_rfl) ?_
  intro x'' y'' q'' hq''
  obtain ⟨(s : List UInt8), (at_ : Int), _⟩ := x''
  exact (fn27 s at_).trans hq''
def fs27 : FSpec := fsT 27 [(.str, false), ((.int .i64), false)] [(.str, false), ((.int .i64), false), ((.int .i64), false)] fun (s, at_, _) => t27 s at_
theorem okf27 : fs27.Ok Try.prog := fsT_ok fun x'' r'' hr'' => ok27 x'' () r'' hr''
def fs27w : FSpec := fs27.like fun (s, at_, _) => .on (bigS s) (tkS (takeG s at_ at_ (-1) []), tkN (takeG s at_ at_ (-1) []), tkE (takeG s at_ at_ (-1) []), ())
theorem okf27w : fs27w.Ok Try.prog := by
  refine flike_ok okf27 _ ?_
  rintro ⟨(s : List UInt8), (at_ : Int), _⟩ y h
  obtain ⟨hb, rfl⟩ := Tr.get_on h
  refine convR_of (vs := resT (takeG s at_ at_ (-1) [])) rfl rfl (Tr.get_of_all ?_)
  show (t27 s at_).all _
  exact Tr.all_t (by simp only [tkC, hb]; rfl) (Tr.all_ret rfl)
end Go.Proofs.YtfepkpindchleaaE
