import Derived.Test.YtfepkpindchleaaMRdataPuts1
/- wire.Take: a word. -/
namespace Go.Proofs.YtfepkpindchleaaE
open Go Go.Proofs.YtfepkpindchleaaB
set_option linter.unusedVariables false
set_option linter.unusedSimpArgs false
/-- A loop by its rounds' trees: each way ends it, goes on with less to do, or comes to where it is known how it ends. -/
theorem loop_tr2 {α : Type} {F : St → Option (St ⊕ (Ex × St))} (mk : α → St) (I : α → Prop) (m : α → Nat) (r : Ex × St) (t : α → Tr (St ⊕ (Ex × St))) (hF : ∀ a x, (t a).get = some x → F (mk a) = some x)
    (h : ∀ a, I a → (t a).all fun x => x = .inr r ∨ (∃ a', x = .inl (mk a') ∧ I a' ∧ m a' < m a) ∨ ∃ st', x = .inl st' ∧ loopF F st' = some r) : ∀ a, I a → loopF F (mk a) = some r := by
  have key : ∀ (n : Nat) (a : α), m a = n → I a → loopF F (mk a) = some r := by
    intro n
    induction n using Nat.strongRecOn with
    | _ n ih =>
      intro a hn ha
      obtain ⟨x, h1, h2⟩ := Tr.all_get (h a ha)
      rcases h2 with rfl | ⟨a', rfl, ha', hlt⟩ | ⟨st', rfl, h3⟩
      · exact loopF_inr (hF a _ h1)
      · rw [loopF_inl (hF a _ h1)]
        exact ih (m a') (by omega) a' rfl ha'
      · rw [loopF_inl (hF a _ h1)]
        exact h3
  exact fun a ha => key _ a rfl ha
def tkC (s : List UInt8) (b : List Int) : Bool := bigS s && (bytesOk b && Nat.ble b.length 255)
def tkI (s : List UInt8) (a0 f0 h0 : Int) (b0 : List Int) (at_ from_ behind : Int) (b : List Int) : Prop := bytesOk b = true ∧ b.length ≤ 255 ∧ takeG s at_ from_ behind (intBytes b) = takeG s a0 f0 h0 (intBytes b0)
noncomputable def b27u : Code := (nthLoop c27 0)
def ls27u : LoopSpec := { bid := 0, sh := [.d .str false, .d (.int .i64) false, .ptr 0 0, .d (.int .i64) false, .d (.int .i64) false], so := [.tbox 88 [.ptr 0 0, .row 1], .row (.int .u8)], F := fun (s, at_, from_, behind, _) (_, b, _) => .on (tkC s b) (.ret, [.str (tkS (takeG s at_ from_ behind (intBytes b))), .int .i64 (tkN (takeG s at_ from_ behind (intBytes b))), .int .i64 (tkE (takeG s at_ from_ behind (intBytes b)))], []) }
def r27u (s : List UInt8) (at_ : Int) (from_ : Int) (behind : Int) (b : List Int) : Tr (St ⊕ (Ex × St)) := Tr.br (bigS s) (Tr.br (someB s at_ (1 : Int)) (Tr.br (decide ((↑(UInt8.toNat (List.getD s (Int.toNat at_) 0)) : Int) > (63 : Int))) (Tr.br (decide ((↑(UInt8.toNat (List.getD s (Int.toNat at_) 0)) : Int) < (192 : Int))) (Tr.ret (Sum.inr (Ex.ret, stOf [4, 5, 6] [AV.str [], AV.int IntKind.i64 (0 : Int), AV.int IntKind.i64 (2 : Int)] []))) (Tr.br (decide ((↑(UInt8.toNat (List.getD s (Int.toNat at_) 0)) : Int) ≥ (192 : Int))) (Tr.br (bigS s) (Tr.br (someB s at_ (2 : Int)) (Tr.br (decide (IntKind.wrap IntKind.i64 (↑(BitVec.toNat (BitVec.ofInt (IntKind.bits IntKind.i64) (IntKind.wrap IntKind.i64 (n16 s at_)) &&& ~~~BitVec.ofInt (IntKind.bits IntKind.i64) (49152 : Int))) : Int) < from_)) (Tr.br (decide (behind < (0 : Int))) (Tr.ret (Sum.inl (stOf [0, 1, 7, 8, 9] [AV.str s, AV.int IntKind.i64 (IntKind.wrap IntKind.i64 (↑(BitVec.toNat (BitVec.ofInt (IntKind.bits IntKind.i64) (IntKind.wrap IntKind.i64 (n16 s at_)) &&& ~~~BitVec.ofInt (IntKind.bits IntKind.i64) (49152 : Int))) : Int)), AV.ptr 0 0, AV.int IntKind.i64 (IntKind.wrap IntKind.i64 (↑(BitVec.toNat (BitVec.ofInt (IntKind.bits IntKind.i64) (IntKind.wrap IntKind.i64 (n16 s at_)) &&& ~~~BitVec.ofInt (IntKind.bits IntKind.i64) (49152 : Int))) : Int)), AV.int IntKind.i64 (at_ + (2 : Ty.den (Ty.int IntKind.i64)))] [LObj.boxT (some 88) [AV.ptr 0 0, AV.rowA 1], LObj.row (Ty.int IntKind.u8) b]))) (Tr.ret (Sum.inl (stOf [0, 1, 7, 8, 9] [AV.str s, AV.int IntKind.i64 (IntKind.wrap IntKind.i64 (↑(BitVec.toNat (BitVec.ofInt (IntKind.bits IntKind.i64) (IntKind.wrap IntKind.i64 (n16 s at_)) &&& ~~~BitVec.ofInt (IntKind.bits IntKind.i64) (49152 : Int))) : Int)), AV.ptr 0 0, AV.int IntKind.i64 (IntKind.wrap IntKind.i64 (↑(BitVec.toNat (BitVec.ofInt (IntKind.bits IntKind.i64) (IntKind.wrap IntKind.i64 (n16 s at_)) &&& ~~~BitVec.ofInt (IntKind.bits IntKind.i64) (49152 : Int))) : Int)), AV.int IntKind.i64 behind] [LObj.boxT (some 88) [AV.ptr 0 0, AV.rowA 1], LObj.row (Ty.int IntKind.u8) b])))) (Tr.ret (Sum.inr (Ex.ret, stOf [4, 5, 6] [AV.str [], AV.int IntKind.i64 (0 : Int), AV.int IntKind.i64 (2 : Int)] [])))) (Tr.ret (Sum.inr (Ex.ret, stOf [4, 5, 6] [AV.str [], AV.int IntKind.i64 (0 : Int), AV.int IntKind.i64 (2 : Int)] [])))) Tr.no) (Tr.br (bigS s) (Tr.br (someB s (at_ + (1 : Ty.den (Ty.int IntKind.i64))) (IntKind.wrap IntKind.i64 (↑(UInt8.toNat (List.getD s (Int.toNat at_) 0)) : Int))) (Tr.br (decide (IntKind.wrap IntKind.i64 (IntKind.wrap IntKind.i64 ((↑(List.length b) : Int) + (1 : Int)) + (↑(List.length (someV s (at_ + (1 : Ty.den (Ty.int IntKind.i64))) (IntKind.wrap IntKind.i64 (↑(UInt8.toNat (List.getD s (Int.toNat at_) 0)) : Int)))) : Int)) > (255 : Int))) (Tr.ret (Sum.inr (Ex.ret, stOf [4, 5, 6] [AV.str [], AV.int IntKind.i64 (0 : Int), AV.int IntKind.i64 (2 : Int)] []))) (Tr.br (fits (List.length b + 1) 1) (Tr.br (bigS (someV s (at_ + (1 : Ty.den (Ty.int IntKind.i64))) (IntKind.wrap IntKind.i64 (↑(UInt8.toNat (List.getD s (Int.toNat at_) 0)) : Int)))) (Tr.br (fits (List.length (b ++ [(↑(UInt8.toNat (List.getD s (Int.toNat at_) 0)) : Int)]) + List.length (bytesInt (foldB (someV s (at_ + (1 : Ty.den (Ty.int IntKind.i64))) (IntKind.wrap IntKind.i64 (↑(UInt8.toNat (List.getD s (Int.toNat at_) 0)) : Int)))))) 1) (Tr.br (decide ((↑(UInt8.toNat (List.getD s (Int.toNat at_) 0)) : Int) > (0 : Int))) (Tr.ret (Sum.inl (stOf [0, 1, 7, 8, 9] [AV.str s, AV.int IntKind.i64 (at_ + (1 : Ty.den (Ty.int IntKind.i64)) + IntKind.wrap IntKind.i64 (↑(UInt8.toNat (List.getD s (Int.toNat at_) 0)) : Int)), AV.ptr 0 0, AV.int IntKind.i64 from_, AV.int IntKind.i64 behind] [LObj.boxT (some 88) [AV.ptr 0 0, AV.rowA 1], LObj.row (Ty.int IntKind.u8) (b ++ [(↑(UInt8.toNat (List.getD s (Int.toNat at_) 0)) : Int)] ++ bytesInt (foldB (someV s (at_ + (1 : Ty.den (Ty.int IntKind.i64))) (IntKind.wrap IntKind.i64 (↑(UInt8.toNat (List.getD s (Int.toNat at_) 0)) : Int)))))]))) (Tr.br (decide (behind < (0 : Int))) (Tr.br (bytesOk (b ++ [(↑(UInt8.toNat (List.getD s (Int.toNat at_) 0)) : Int)] ++ bytesInt (foldB (someV s (at_ + (1 : Ty.den (Ty.int IntKind.i64))) (IntKind.wrap IntKind.i64 (↑(UInt8.toNat (List.getD s (Int.toNat at_) 0)) : Int))))) && (!List.isEmpty (b ++ [(↑(UInt8.toNat (List.getD s (Int.toNat at_) 0)) : Int)] ++ bytesInt (foldB (someV s (at_ + (1 : Ty.den (Ty.int IntKind.i64))) (IntKind.wrap IntKind.i64 (↑(UInt8.toNat (List.getD s (Int.toNat at_) 0)) : Int))))) && Nat.ble (List.length (b ++ [(↑(UInt8.toNat (List.getD s (Int.toNat at_) 0)) : Int)] ++ bytesInt (foldB (someV s (at_ + (1 : Ty.den (Ty.int IntKind.i64))) (IntKind.wrap IntKind.i64 (↑(UInt8.toNat (List.getD s (Int.toNat at_) 0)) : Int)))))) 9223372036854775807)) (Tr.ret (Sum.inr (Ex.ret, stOf [4, 5, 6] [AV.str (intBytes (b ++ [(↑(UInt8.toNat (List.getD s (Int.toNat at_) 0)) : Int)] ++ bytesInt (foldB (someV s (at_ + (1 : Ty.den (Ty.int IntKind.i64))) (IntKind.wrap IntKind.i64 (↑(UInt8.toNat (List.getD s (Int.toNat at_) 0)) : Int)))))), AV.int IntKind.i64 (at_ + (1 : Ty.den (Ty.int IntKind.i64)) + IntKind.wrap IntKind.i64 (↑(UInt8.toNat (List.getD s (Int.toNat at_) 0)) : Int)), AV.int IntKind.i64 (0 : Int)] []))) Tr.no) (Tr.br (bytesOk (b ++ [(↑(UInt8.toNat (List.getD s (Int.toNat at_) 0)) : Int)] ++ bytesInt (foldB (someV s (at_ + (1 : Ty.den (Ty.int IntKind.i64))) (IntKind.wrap IntKind.i64 (↑(UInt8.toNat (List.getD s (Int.toNat at_) 0)) : Int))))) && (!List.isEmpty (b ++ [(↑(UInt8.toNat (List.getD s (Int.toNat at_) 0)) : Int)] ++ bytesInt (foldB (someV s (at_ + (1 : Ty.den (Ty.int IntKind.i64))) (IntKind.wrap IntKind.i64 (↑(UInt8.toNat (List.getD s (Int.toNat at_) 0)) : Int))))) && Nat.ble (List.length (b ++ [(↑(UInt8.toNat (List.getD s (Int.toNat at_) 0)) : Int)] ++ bytesInt (foldB (someV s (at_ + (1 : Ty.den (Ty.int IntKind.i64))) (IntKind.wrap IntKind.i64 (↑(UInt8.toNat (List.getD s (Int.toNat at_) 0)) : Int)))))) 9223372036854775807)) (Tr.ret (Sum.inr (Ex.ret, stOf [4, 5, 6] [AV.str (intBytes (b ++ [(↑(UInt8.toNat (List.getD s (Int.toNat at_) 0)) : Int)] ++ bytesInt (foldB (someV s (at_ + (1 : Ty.den (Ty.int IntKind.i64))) (IntKind.wrap IntKind.i64 (↑(UInt8.toNat (List.getD s (Int.toNat at_) 0)) : Int)))))), AV.int IntKind.i64 behind, AV.int IntKind.i64 (0 : Int)] []))) Tr.no))) Tr.no) Tr.no) Tr.no)) (Tr.ret (Sum.inr (Ex.ret, stOf [4, 5, 6] [AV.str [], AV.int IntKind.i64 (0 : Int), AV.int IntKind.i64 (2 : Int)] [])))) Tr.no))) (Tr.br (decide ((↑(UInt8.toNat (List.getD s (Int.toNat at_) 0)) : Int) ≥ (192 : Int))) (Tr.br (bigS s) (Tr.br (someB s at_ (2 : Int)) (Tr.br (decide (IntKind.wrap IntKind.i64 (↑(BitVec.toNat (BitVec.ofInt (IntKind.bits IntKind.i64) (IntKind.wrap IntKind.i64 (n16 s at_)) &&& ~~~BitVec.ofInt (IntKind.bits IntKind.i64) (49152 : Int))) : Int) < from_)) (Tr.br (decide (behind < (0 : Int))) (Tr.ret (Sum.inl (stOf [0, 1, 7, 8, 9] [AV.str s, AV.int IntKind.i64 (IntKind.wrap IntKind.i64 (↑(BitVec.toNat (BitVec.ofInt (IntKind.bits IntKind.i64) (IntKind.wrap IntKind.i64 (n16 s at_)) &&& ~~~BitVec.ofInt (IntKind.bits IntKind.i64) (49152 : Int))) : Int)), AV.ptr 0 0, AV.int IntKind.i64 (IntKind.wrap IntKind.i64 (↑(BitVec.toNat (BitVec.ofInt (IntKind.bits IntKind.i64) (IntKind.wrap IntKind.i64 (n16 s at_)) &&& ~~~BitVec.ofInt (IntKind.bits IntKind.i64) (49152 : Int))) : Int)), AV.int IntKind.i64 (at_ + (2 : Ty.den (Ty.int IntKind.i64)))] [LObj.boxT (some 88) [AV.ptr 0 0, AV.rowA 1], LObj.row (Ty.int IntKind.u8) b]))) (Tr.ret (Sum.inl (stOf [0, 1, 7, 8, 9] [AV.str s, AV.int IntKind.i64 (IntKind.wrap IntKind.i64 (↑(BitVec.toNat (BitVec.ofInt (IntKind.bits IntKind.i64) (IntKind.wrap IntKind.i64 (n16 s at_)) &&& ~~~BitVec.ofInt (IntKind.bits IntKind.i64) (49152 : Int))) : Int)), AV.ptr 0 0, AV.int IntKind.i64 (IntKind.wrap IntKind.i64 (↑(BitVec.toNat (BitVec.ofInt (IntKind.bits IntKind.i64) (IntKind.wrap IntKind.i64 (n16 s at_)) &&& ~~~BitVec.ofInt (IntKind.bits IntKind.i64) (49152 : Int))) : Int)), AV.int IntKind.i64 behind] [LObj.boxT (some 88) [AV.ptr 0 0, AV.rowA 1], LObj.row (Ty.int IntKind.u8) b])))) (Tr.ret (Sum.inr (Ex.ret, stOf [4, 5, 6] [AV.str [], AV.int IntKind.i64 (0 : Int), AV.int IntKind.i64 (2 : Int)] [])))) (Tr.ret (Sum.inr (Ex.ret, stOf [4, 5, 6] [AV.str [], AV.int IntKind.i64 (0 : Int), AV.int IntKind.i64 (2 : Int)] [])))) Tr.no) (Tr.br (bigS s) (Tr.br (someB s (at_ + (1 : Ty.den (Ty.int IntKind.i64))) (IntKind.wrap IntKind.i64 (↑(UInt8.toNat (List.getD s (Int.toNat at_) 0)) : Int))) (Tr.br (decide (IntKind.wrap IntKind.i64 (IntKind.wrap IntKind.i64 ((↑(List.length b) : Int) + (1 : Int)) + (↑(List.length (someV s (at_ + (1 : Ty.den (Ty.int IntKind.i64))) (IntKind.wrap IntKind.i64 (↑(UInt8.toNat (List.getD s (Int.toNat at_) 0)) : Int)))) : Int)) > (255 : Int))) (Tr.ret (Sum.inr (Ex.ret, stOf [4, 5, 6] [AV.str [], AV.int IntKind.i64 (0 : Int), AV.int IntKind.i64 (2 : Int)] []))) (Tr.br (fits (List.length b + 1) 1) (Tr.br (bigS (someV s (at_ + (1 : Ty.den (Ty.int IntKind.i64))) (IntKind.wrap IntKind.i64 (↑(UInt8.toNat (List.getD s (Int.toNat at_) 0)) : Int)))) (Tr.br (fits (List.length (b ++ [(↑(UInt8.toNat (List.getD s (Int.toNat at_) 0)) : Int)]) + List.length (bytesInt (foldB (someV s (at_ + (1 : Ty.den (Ty.int IntKind.i64))) (IntKind.wrap IntKind.i64 (↑(UInt8.toNat (List.getD s (Int.toNat at_) 0)) : Int)))))) 1) (Tr.br (decide ((↑(UInt8.toNat (List.getD s (Int.toNat at_) 0)) : Int) > (0 : Int))) (Tr.ret (Sum.inl (stOf [0, 1, 7, 8, 9] [AV.str s, AV.int IntKind.i64 (at_ + (1 : Ty.den (Ty.int IntKind.i64)) + IntKind.wrap IntKind.i64 (↑(UInt8.toNat (List.getD s (Int.toNat at_) 0)) : Int)), AV.ptr 0 0, AV.int IntKind.i64 from_, AV.int IntKind.i64 behind] [LObj.boxT (some 88) [AV.ptr 0 0, AV.rowA 1], LObj.row (Ty.int IntKind.u8) (b ++ [(↑(UInt8.toNat (List.getD s (Int.toNat at_) 0)) : Int)] ++ bytesInt (foldB (someV s (at_ + (1 : Ty.den (Ty.int IntKind.i64))) (IntKind.wrap IntKind.i64 (↑(UInt8.toNat (List.getD s (Int.toNat at_) 0)) : Int)))))]))) (Tr.br (decide (behind < (0 : Int))) (Tr.br (bytesOk (b ++ [(↑(UInt8.toNat (List.getD s (Int.toNat at_) 0)) : Int)] ++ bytesInt (foldB (someV s (at_ + (1 : Ty.den (Ty.int IntKind.i64))) (IntKind.wrap IntKind.i64 (↑(UInt8.toNat (List.getD s (Int.toNat at_) 0)) : Int))))) && (!List.isEmpty (b ++ [(↑(UInt8.toNat (List.getD s (Int.toNat at_) 0)) : Int)] ++ bytesInt (foldB (someV s (at_ + (1 : Ty.den (Ty.int IntKind.i64))) (IntKind.wrap IntKind.i64 (↑(UInt8.toNat (List.getD s (Int.toNat at_) 0)) : Int))))) && Nat.ble (List.length (b ++ [(↑(UInt8.toNat (List.getD s (Int.toNat at_) 0)) : Int)] ++ bytesInt (foldB (someV s (at_ + (1 : Ty.den (Ty.int IntKind.i64))) (IntKind.wrap IntKind.i64 (↑(UInt8.toNat (List.getD s (Int.toNat at_) 0)) : Int)))))) 9223372036854775807)) (Tr.ret (Sum.inr (Ex.ret, stOf [4, 5, 6] [AV.str (intBytes (b ++ [(↑(UInt8.toNat (List.getD s (Int.toNat at_) 0)) : Int)] ++ bytesInt (foldB (someV s (at_ + (1 : Ty.den (Ty.int IntKind.i64))) (IntKind.wrap IntKind.i64 (↑(UInt8.toNat (List.getD s (Int.toNat at_) 0)) : Int)))))), AV.int IntKind.i64 (at_ + (1 : Ty.den (Ty.int IntKind.i64)) + IntKind.wrap IntKind.i64 (↑(UInt8.toNat (List.getD s (Int.toNat at_) 0)) : Int)), AV.int IntKind.i64 (0 : Int)] []))) Tr.no) (Tr.br (bytesOk (b ++ [(↑(UInt8.toNat (List.getD s (Int.toNat at_) 0)) : Int)] ++ bytesInt (foldB (someV s (at_ + (1 : Ty.den (Ty.int IntKind.i64))) (IntKind.wrap IntKind.i64 (↑(UInt8.toNat (List.getD s (Int.toNat at_) 0)) : Int))))) && (!List.isEmpty (b ++ [(↑(UInt8.toNat (List.getD s (Int.toNat at_) 0)) : Int)] ++ bytesInt (foldB (someV s (at_ + (1 : Ty.den (Ty.int IntKind.i64))) (IntKind.wrap IntKind.i64 (↑(UInt8.toNat (List.getD s (Int.toNat at_) 0)) : Int))))) && Nat.ble (List.length (b ++ [(↑(UInt8.toNat (List.getD s (Int.toNat at_) 0)) : Int)] ++ bytesInt (foldB (someV s (at_ + (1 : Ty.den (Ty.int IntKind.i64))) (IntKind.wrap IntKind.i64 (↑(UInt8.toNat (List.getD s (Int.toNat at_) 0)) : Int)))))) 9223372036854775807)) (Tr.ret (Sum.inr (Ex.ret, stOf [4, 5, 6] [AV.str (intBytes (b ++ [(↑(UInt8.toNat (List.getD s (Int.toNat at_) 0)) : Int)] ++ bytesInt (foldB (someV s (at_ + (1 : Ty.den (Ty.int IntKind.i64))) (IntKind.wrap IntKind.i64 (↑(UInt8.toNat (List.getD s (Int.toNat at_) 0)) : Int)))))), AV.int IntKind.i64 behind, AV.int IntKind.i64 (0 : Int)] []))) Tr.no))) Tr.no) Tr.no) Tr.no)) (Tr.ret (Sum.inr (Ex.ret, stOf [4, 5, 6] [AV.str [], AV.int IntKind.i64 (0 : Int), AV.int IntKind.i64 (2 : Int)] [])))) Tr.no))) (Tr.ret (Sum.inr (Ex.ret, stOf [4, 5, 6] [AV.str [], AV.int IntKind.i64 (0 : Int), AV.int IntKind.i64 (2 : Int)] [])))) Tr.no
set_option maxRecDepth 1000000 in
theorem round27u (lp : Lp) (s : List UInt8) (at_ : Int) (from_ : Int) (behind : Int) (b : List Int) : evC T0 (orcB [fs46w, fs47w, fs48w, fs52w] [os49n, os49u, os50n, os50u, os51u, osStr]) lp b27u 0 (stOf [0, 1, 7, 8, 9] [.str s, .int .i64 at_, .ptr 0 0, .int .i64 from_, .int .i64 behind] [.boxT (some 88) [.ptr 0 0, .rowA 1], .row (.int .u8) b]) (roundK [0, 1, 7, 8, 9] [4, 5, 6] 0) = (r27u s at_ from_ behind b).get := by kernel_rfl
theorem wf27u (s : List UInt8) (I'' : Int → Int → Int → List Int → Prop) (m'' : Int → Int → Int → List Int → Nat) (r'' : Ex × St) (h : ∀ (at_ : Int) (from_ : Int) (behind : Int) (b : List Int), I'' at_ from_ behind b → (r27u s at_ from_ behind b).all fun x'' => x'' = .inr r'' ∨ ∃ (at_' : Int) (from_' : Int) (behind' : Int) (b' : List Int), x'' = .inl (stOf [0, 1, 7, 8, 9] [.str s, .int .i64 at_', .ptr 0 0, .int .i64 from_', .int .i64 behind'] [.boxT (some 88) [.ptr 0 0, .rowA 1], .row (.int .u8) b']) ∧ I'' at_' from_' behind' b' ∧ m'' at_' from_' behind' b' < m'' at_ from_ behind b) (lp : Lp) (at_ : Int) (from_ : Int) (behind : Int) (b : List Int) : I'' at_ from_ behind b →
    loopF (fun st => evC T0 (orcB [fs46w, fs47w, fs48w, fs52w] [os49n, os49u, os50n, os50u, os51u, osStr]) lp b27u 0 st (roundK [0, 1, 7, 8, 9] [4, 5, 6] 0)) (stOf [0, 1, 7, 8, 9] [.str s, .int .i64 at_, .ptr 0 0, .int .i64 from_, .int .i64 behind] [.boxT (some 88) [.ptr 0 0, .rowA 1], .row (.int .u8) b]) = some r'' :=
  loop_tr (fun a'' : Int × Int × Int × List Int => stOf [0, 1, 7, 8, 9] [.str s, .int .i64 a''.1, .ptr 0 0, .int .i64 a''.2.1, .int .i64 a''.2.2.1] [.boxT (some 88) [.ptr 0 0, .rowA 1], .row (.int .u8) a''.2.2.2]) (fun a'' => I'' a''.1 a''.2.1 a''.2.2.1 a''.2.2.2) (fun a'' => m'' a''.1 a''.2.1 a''.2.2.1 a''.2.2.2) r'' (fun a'' => r27u s a''.1 a''.2.1 a''.2.2.1 a''.2.2.2)
    (fun a'' x hx => (round27u lp s a''.1 a''.2.1 a''.2.2.1 a''.2.2.2).trans hx) (fun a'' ha => Tr.all_mono (fun x'' hx => hx.imp id fun ⟨at_', from_', behind', b', h1, h2, h3⟩ => ⟨(at_', from_', behind', b'), h1, h2, h3⟩) (h (a''.1) (a''.2.1) (a''.2.2.1) (a''.2.2.2) ha)) (at_, from_, behind, b)
theorem loop27u : ls27u.Ok T0 (orcB [fs46w, fs47w, fs48w, fs52w] [os49n, os49u, os50n, os50u, os51u, osStr]) h27 0 0 b27u := by
  intro q'' hq'' x'' y'' r'' h
  obtain ⟨(s : List UInt8), (at_ : Int), (from_ : Int), (behind : Int), _⟩ := x''
  obtain ⟨_, (b : List Int), _⟩ := y''
  obtain ⟨hc, rfl⟩ := Tr.get_on h
  show loopF (fun st => evC T0 (orcB [fs46w, fs47w, fs48w, fs52w] [os49n, os49u, os50n, os50u, os51u, osStr]) (lpN T0 (orcB [fs46w, fs47w, fs48w, fs52w] [os49n, os49u, os50n, os50u, os51u, osStr]) h27 0 q'') b27u 0 st (roundK [0, 1, 7, 8, 9] [4, 5, 6] 0)) (stOf [0, 1, 7, 8, 9] [.str s, .int .i64 at_, .ptr 0 0, .int .i64 from_, .int .i64 behind] [.boxT (some 88) [.ptr 0 0, .rowA 1], .row (.int .u8) b]) = some (.ret, stOf [4, 5, 6] ([.str (tkS (takeG s at_ from_ behind (intBytes b))), .int .i64 (tkN (takeG s at_ from_ behind (intBytes b))), .int .i64 (tkE (takeG s at_ from_ behind (intBytes b)))]) ([]))
  simp only [tkC, Bool.and_eq_true] at hc
  obtain ⟨hbig, hok, hb⟩ := hc
  have hb := Nat.le_of_ble_eq_true hb
  refine wf27u s (tkI s at_ from_ behind b) (fun at_ from_ _ _ => msT s at_ from_) _ ?_ _ at_ from_ behind b ⟨hok, hb, rfl⟩
  clear hok hb
  rintro at_ from_ behind b ⟨hok, hb, he⟩
  rw [← he]
  unfold r27u
  have hB : s.length ≤ 1000000000000 := by simpa [bigS] using hbig
  have hc : (↑(UInt8.toNat (List.getD s (Int.toNat at_) 0)) : Int) = (szT s at_ : Int) := rfl
  have hc255 := szT_lt s at_
  have hto := toT_in s at_
  simp only [and_far (n16_in s at_).1 (n16_in s at_).2, hc]
  simp only [show n16 s at_ % 16384 = toT s at_ from rfl, IntWalk.i64_in ((szT s at_ : Nat) : Int) (by omega)]
  cases h1 : someB s at_ 1 with
  | false =>
    rw [takeG_out h1]
    exact Tr.all_t hbig (Tr.all_f rfl (Tr.all_ret (.inl rfl)))
  | true =>
    have hs1 := someB_iff.1 h1
    refine Tr.all_t hbig (Tr.all_t rfl ?_)
    by_cases h192 : 192 ≤ szT s at_
    · refine Tr.all_t (dec_true (by omega)) (Tr.all_f (dec_false (by omega)) (Tr.all_t (dec_true (by omega)) (Tr.all_t hbig ?_)))
      by_cases h3 : someB s at_ 2 = true ∧ toT s at_ < from_
      · rw [takeG_ptr h1 h192 h3.1 h3.2] at he ⊢
        refine Tr.all_t h3.1 (Tr.all_t (dec_true h3.2) (Tr.all_br (fun c1 => ?_) fun c1 => ?_))
        · simp only [decide_eq_true_eq] at c1
          rw [if_pos c1] at he
          exact Tr.all_ret (.inr ⟨_, _, _, _, rfl, ⟨hok, hb, he⟩, msT_to hto.1 h3.2⟩)
        · simp only [decide_eq_false_iff_not] at c1
          rw [if_neg c1] at he
          exact Tr.all_ret (.inr ⟨_, _, _, _, rfl, ⟨hok, hb, he⟩, msT_to hto.1 h3.2⟩)
      · rw [takeG_bad h1 h192 h3]
        cases h2 : someB s at_ 2 with
        | false => exact Tr.all_f rfl (Tr.all_ret (.inl rfl))
        | true => exact Tr.all_t rfl (Tr.all_f (dec_false (fun h => h3 ⟨h2, h⟩)) (Tr.all_ret (.inl rfl)))
    · by_cases h63 : 63 < szT s at_
      · rw [takeG_mid h1 h192 h63]
        exact Tr.all_t (dec_true (by omega)) (Tr.all_t (dec_true (by omega)) (Tr.all_ret (.inl rfl)))
      · refine Tr.all_f (dec_false (by omega)) (Tr.all_f (dec_false (by omega)) (Tr.all_t hbig ?_))
        cases h4 : someB s (at_ + 1) (szT s at_) with
        | false =>
          rw [takeG_long h1 (by omega) (by rw [h4]; simp)]
          exact Tr.all_f rfl (Tr.all_ret (.inl rfl))
        | true =>
          have hs4 := someB_iff.1 h4
          have hvl : (someV s (at_ + 1) (szT s at_ : Int)).length = szT s at_ := by rw [someV_len h4]; omega
          have hvb : bigS (someV s (at_ + 1) (szT s at_ : Int)) = true := by simp [bigS, hvl]; omega
          rw [hvl]
          rw [IntWalk.i64_in ((List.length b : Int) + 1) (by omega), IntWalk.i64_in _ (by omega)]
          refine Tr.all_t rfl ?_
          by_cases h5 : b.length + 1 + szT s at_ ≤ 255
          · have hnew : bytesOk (b ++ [((szT s at_ : Nat) : Int)] ++ bytesInt (foldB (someV s (at_ + 1) (szT s at_ : Int)))) = true := by
              refine bytesOk_app (bytesOk_app hok ?_) (bytesInt_ok _)
              simp [bytesOk]
              omega
            have hnl : (b ++ [((szT s at_ : Nat) : Int)] ++ bytesInt (foldB (someV s (at_ + 1) (szT s at_ : Int)))).length = b.length + 1 + szT s at_ := by
              simp [bytesInt_len, foldB_len, hvl]
              omega
            have hS2 : intBytes (b ++ [((szT s at_ : Nat) : Int)] ++ bytesInt (foldB (someV s (at_ + 1) (szT s at_ : Int)))) = intBytes b ++ s.getD at_.toNat 0 :: foldB (someV s (at_ + 1) (szT s at_ : Int)) := by
              rw [intB_app, intB_app, intB_bytes]
              have : intBytes [((szT s at_ : Nat) : Int)] = [s.getD at_.toNat 0] := by simp [intBytes, szT]
              rw [this]
              simp
            refine Tr.all_f (dec_false (by omega)) (Tr.all_t (fits_true (by omega) (by omega)) (Tr.all_t hvb (Tr.all_t (fits_true (by simp [bytesInt_len, foldB_len, hvl]; omega) (by simp [bytesInt_len, foldB_len, hvl]; omega)) ?_)))
            by_cases h0 : szT s at_ = 0
            · rw [takeG_end h1 h0 (by rw [intB_len]; omega)]
              have hv0 : someV s (at_ + 1) (szT s at_ : Int) = [] := List.length_eq_zero_iff.1 (by rw [hvl]; exact h0)
              have hg0 : s.getD at_.toNat 0 = 0 := by
                have : (s.getD at_.toNat 0).toNat = 0 := h0
                exact UInt8.toNat_inj.1 (by simpa using this)
              have hend : (bytesOk (b ++ [((szT s at_ : Nat) : Int)] ++ bytesInt (foldB (someV s (at_ + 1) (szT s at_ : Int)))) && (!List.isEmpty (b ++ [((szT s at_ : Nat) : Int)] ++ bytesInt (foldB (someV s (at_ + 1) (szT s at_ : Int)))) && Nat.ble (List.length (b ++ [((szT s at_ : Nat) : Int)] ++ bytesInt (foldB (someV s (at_ + 1) (szT s at_ : Int))))) 9223372036854775807)) = true := by
                rw [hnew, Nat.ble_eq_true_of_le (by omega)]
                simp
              refine Tr.all_f (dec_false (by omega)) (Tr.all_br (fun c1 => Tr.all_t hend (Tr.all_ret (.inl ?_))) fun c1 => Tr.all_t hend (Tr.all_ret (.inl ?_)))
              · simp only [decide_eq_true_eq] at c1
                rw [if_pos c1, hS2, hv0, hg0, h0]
                simp [foldB]
                rfl
              · simp only [decide_eq_false_iff_not] at c1
                rw [if_neg c1, hS2, hv0, hg0]
                rfl
            · have hG := takeG_on (s := s) (at_ := at_) (from_ := from_) (behind := behind) (out := intBytes b) h1 (by omega) h0 h4 (by rw [intB_len]; omega)
              rw [← hS2] at hG
              rw [hG] at he ⊢
              refine Tr.all_t (dec_true (by omega)) (Tr.all_ret ?_)
              exact .inr ⟨_, _, _, _, rfl, ⟨hnew, by omega, he⟩, msT_on hs1.1 hs4.2.2⟩
          · rw [takeG_long h1 (by omega) (by rw [intB_len]; exact fun h => h5 h.2)]
            exact Tr.all_t (dec_true (by omega)) (Tr.all_ret (.inl rfl))
noncomputable def b27n : Code := (nthLoop c27 0)
def ls27n : LoopSpec := { bid := 0, sh := [.d .str false, .d (.int .i64) false, .ptr 0 0, .d (.int .i64) false, .d (.int .i64) false], so := [.tbox 88 [.np, .row 1], .row (.int .u8)], F := fun (s, at_, from_, behind, _) (_, b, _) => .on (tkC s b) (.ret, [.str (tkS (takeG s at_ from_ behind (intBytes b))), .int .i64 (tkN (takeG s at_ from_ behind (intBytes b))), .int .i64 (tkE (takeG s at_ from_ behind (intBytes b)))], []) }
def r27n (s : List UInt8) (at_ : Int) (from_ : Int) (behind : Int) (b : List Int) : Tr (St ⊕ (Ex × St)) := Tr.br (bigS s) (Tr.br (someB s at_ (1 : Int)) (Tr.br (decide ((↑(UInt8.toNat (List.getD s (Int.toNat at_) 0)) : Int) > (63 : Int))) (Tr.br (decide ((↑(UInt8.toNat (List.getD s (Int.toNat at_) 0)) : Int) < (192 : Int))) (Tr.ret (Sum.inr (Ex.ret, stOf [4, 5, 6] [AV.str [], AV.int IntKind.i64 (0 : Int), AV.int IntKind.i64 (2 : Int)] []))) (Tr.br (decide ((↑(UInt8.toNat (List.getD s (Int.toNat at_) 0)) : Int) ≥ (192 : Int))) (Tr.br (bigS s) (Tr.br (someB s at_ (2 : Int)) (Tr.br (decide (IntKind.wrap IntKind.i64 (↑(BitVec.toNat (BitVec.ofInt (IntKind.bits IntKind.i64) (IntKind.wrap IntKind.i64 (n16 s at_)) &&& ~~~BitVec.ofInt (IntKind.bits IntKind.i64) (49152 : Int))) : Int) < from_)) (Tr.br (decide (behind < (0 : Int))) (Tr.ret (Sum.inl (stOf [0, 1, 7, 8, 9] [AV.str s, AV.int IntKind.i64 (IntKind.wrap IntKind.i64 (↑(BitVec.toNat (BitVec.ofInt (IntKind.bits IntKind.i64) (IntKind.wrap IntKind.i64 (n16 s at_)) &&& ~~~BitVec.ofInt (IntKind.bits IntKind.i64) (49152 : Int))) : Int)), AV.ptr 0 0, AV.int IntKind.i64 (IntKind.wrap IntKind.i64 (↑(BitVec.toNat (BitVec.ofInt (IntKind.bits IntKind.i64) (IntKind.wrap IntKind.i64 (n16 s at_)) &&& ~~~BitVec.ofInt (IntKind.bits IntKind.i64) (49152 : Int))) : Int)), AV.int IntKind.i64 (at_ + (2 : Ty.den (Ty.int IntKind.i64)))] [LObj.boxT (some 88) [AV.np, AV.rowA 1], LObj.row (Ty.int IntKind.u8) b]))) (Tr.ret (Sum.inl (stOf [0, 1, 7, 8, 9] [AV.str s, AV.int IntKind.i64 (IntKind.wrap IntKind.i64 (↑(BitVec.toNat (BitVec.ofInt (IntKind.bits IntKind.i64) (IntKind.wrap IntKind.i64 (n16 s at_)) &&& ~~~BitVec.ofInt (IntKind.bits IntKind.i64) (49152 : Int))) : Int)), AV.ptr 0 0, AV.int IntKind.i64 (IntKind.wrap IntKind.i64 (↑(BitVec.toNat (BitVec.ofInt (IntKind.bits IntKind.i64) (IntKind.wrap IntKind.i64 (n16 s at_)) &&& ~~~BitVec.ofInt (IntKind.bits IntKind.i64) (49152 : Int))) : Int)), AV.int IntKind.i64 behind] [LObj.boxT (some 88) [AV.np, AV.rowA 1], LObj.row (Ty.int IntKind.u8) b])))) (Tr.ret (Sum.inr (Ex.ret, stOf [4, 5, 6] [AV.str [], AV.int IntKind.i64 (0 : Int), AV.int IntKind.i64 (2 : Int)] [])))) (Tr.ret (Sum.inr (Ex.ret, stOf [4, 5, 6] [AV.str [], AV.int IntKind.i64 (0 : Int), AV.int IntKind.i64 (2 : Int)] [])))) Tr.no) (Tr.br (bigS s) (Tr.br (someB s (at_ + (1 : Ty.den (Ty.int IntKind.i64))) (IntKind.wrap IntKind.i64 (↑(UInt8.toNat (List.getD s (Int.toNat at_) 0)) : Int))) (Tr.br (decide (IntKind.wrap IntKind.i64 (IntKind.wrap IntKind.i64 ((↑(List.length b) : Int) + (1 : Int)) + (↑(List.length (someV s (at_ + (1 : Ty.den (Ty.int IntKind.i64))) (IntKind.wrap IntKind.i64 (↑(UInt8.toNat (List.getD s (Int.toNat at_) 0)) : Int)))) : Int)) > (255 : Int))) (Tr.ret (Sum.inr (Ex.ret, stOf [4, 5, 6] [AV.str [], AV.int IntKind.i64 (0 : Int), AV.int IntKind.i64 (2 : Int)] []))) (Tr.br (fits (List.length b + 1) 1) (Tr.br (bigS (someV s (at_ + (1 : Ty.den (Ty.int IntKind.i64))) (IntKind.wrap IntKind.i64 (↑(UInt8.toNat (List.getD s (Int.toNat at_) 0)) : Int)))) (Tr.br (fits (List.length (b ++ [(↑(UInt8.toNat (List.getD s (Int.toNat at_) 0)) : Int)]) + List.length (bytesInt (foldB (someV s (at_ + (1 : Ty.den (Ty.int IntKind.i64))) (IntKind.wrap IntKind.i64 (↑(UInt8.toNat (List.getD s (Int.toNat at_) 0)) : Int)))))) 1) (Tr.br (decide ((↑(UInt8.toNat (List.getD s (Int.toNat at_) 0)) : Int) > (0 : Int))) (Tr.ret (Sum.inl (stOf [0, 1, 7, 8, 9] [AV.str s, AV.int IntKind.i64 (at_ + (1 : Ty.den (Ty.int IntKind.i64)) + IntKind.wrap IntKind.i64 (↑(UInt8.toNat (List.getD s (Int.toNat at_) 0)) : Int)), AV.ptr 0 0, AV.int IntKind.i64 from_, AV.int IntKind.i64 behind] [LObj.boxT (some 88) [AV.ptr 0 0, AV.rowA 1], LObj.row (Ty.int IntKind.u8) (b ++ [(↑(UInt8.toNat (List.getD s (Int.toNat at_) 0)) : Int)] ++ bytesInt (foldB (someV s (at_ + (1 : Ty.den (Ty.int IntKind.i64))) (IntKind.wrap IntKind.i64 (↑(UInt8.toNat (List.getD s (Int.toNat at_) 0)) : Int)))))]))) (Tr.br (decide (behind < (0 : Int))) (Tr.br (bytesOk (b ++ [(↑(UInt8.toNat (List.getD s (Int.toNat at_) 0)) : Int)] ++ bytesInt (foldB (someV s (at_ + (1 : Ty.den (Ty.int IntKind.i64))) (IntKind.wrap IntKind.i64 (↑(UInt8.toNat (List.getD s (Int.toNat at_) 0)) : Int))))) && (!List.isEmpty (b ++ [(↑(UInt8.toNat (List.getD s (Int.toNat at_) 0)) : Int)] ++ bytesInt (foldB (someV s (at_ + (1 : Ty.den (Ty.int IntKind.i64))) (IntKind.wrap IntKind.i64 (↑(UInt8.toNat (List.getD s (Int.toNat at_) 0)) : Int))))) && Nat.ble (List.length (b ++ [(↑(UInt8.toNat (List.getD s (Int.toNat at_) 0)) : Int)] ++ bytesInt (foldB (someV s (at_ + (1 : Ty.den (Ty.int IntKind.i64))) (IntKind.wrap IntKind.i64 (↑(UInt8.toNat (List.getD s (Int.toNat at_) 0)) : Int)))))) 9223372036854775807)) (Tr.ret (Sum.inr (Ex.ret, stOf [4, 5, 6] [AV.str (intBytes (b ++ [(↑(UInt8.toNat (List.getD s (Int.toNat at_) 0)) : Int)] ++ bytesInt (foldB (someV s (at_ + (1 : Ty.den (Ty.int IntKind.i64))) (IntKind.wrap IntKind.i64 (↑(UInt8.toNat (List.getD s (Int.toNat at_) 0)) : Int)))))), AV.int IntKind.i64 (at_ + (1 : Ty.den (Ty.int IntKind.i64)) + IntKind.wrap IntKind.i64 (↑(UInt8.toNat (List.getD s (Int.toNat at_) 0)) : Int)), AV.int IntKind.i64 (0 : Int)] []))) Tr.no) (Tr.br (bytesOk (b ++ [(↑(UInt8.toNat (List.getD s (Int.toNat at_) 0)) : Int)] ++ bytesInt (foldB (someV s (at_ + (1 : Ty.den (Ty.int IntKind.i64))) (IntKind.wrap IntKind.i64 (↑(UInt8.toNat (List.getD s (Int.toNat at_) 0)) : Int))))) && (!List.isEmpty (b ++ [(↑(UInt8.toNat (List.getD s (Int.toNat at_) 0)) : Int)] ++ bytesInt (foldB (someV s (at_ + (1 : Ty.den (Ty.int IntKind.i64))) (IntKind.wrap IntKind.i64 (↑(UInt8.toNat (List.getD s (Int.toNat at_) 0)) : Int))))) && Nat.ble (List.length (b ++ [(↑(UInt8.toNat (List.getD s (Int.toNat at_) 0)) : Int)] ++ bytesInt (foldB (someV s (at_ + (1 : Ty.den (Ty.int IntKind.i64))) (IntKind.wrap IntKind.i64 (↑(UInt8.toNat (List.getD s (Int.toNat at_) 0)) : Int)))))) 9223372036854775807)) (Tr.ret (Sum.inr (Ex.ret, stOf [4, 5, 6] [AV.str (intBytes (b ++ [(↑(UInt8.toNat (List.getD s (Int.toNat at_) 0)) : Int)] ++ bytesInt (foldB (someV s (at_ + (1 : Ty.den (Ty.int IntKind.i64))) (IntKind.wrap IntKind.i64 (↑(UInt8.toNat (List.getD s (Int.toNat at_) 0)) : Int)))))), AV.int IntKind.i64 behind, AV.int IntKind.i64 (0 : Int)] []))) Tr.no))) Tr.no) Tr.no) Tr.no)) (Tr.ret (Sum.inr (Ex.ret, stOf [4, 5, 6] [AV.str [], AV.int IntKind.i64 (0 : Int), AV.int IntKind.i64 (2 : Int)] [])))) Tr.no))) (Tr.br (decide ((↑(UInt8.toNat (List.getD s (Int.toNat at_) 0)) : Int) ≥ (192 : Int))) (Tr.br (bigS s) (Tr.br (someB s at_ (2 : Int)) (Tr.br (decide (IntKind.wrap IntKind.i64 (↑(BitVec.toNat (BitVec.ofInt (IntKind.bits IntKind.i64) (IntKind.wrap IntKind.i64 (n16 s at_)) &&& ~~~BitVec.ofInt (IntKind.bits IntKind.i64) (49152 : Int))) : Int) < from_)) (Tr.br (decide (behind < (0 : Int))) (Tr.ret (Sum.inl (stOf [0, 1, 7, 8, 9] [AV.str s, AV.int IntKind.i64 (IntKind.wrap IntKind.i64 (↑(BitVec.toNat (BitVec.ofInt (IntKind.bits IntKind.i64) (IntKind.wrap IntKind.i64 (n16 s at_)) &&& ~~~BitVec.ofInt (IntKind.bits IntKind.i64) (49152 : Int))) : Int)), AV.ptr 0 0, AV.int IntKind.i64 (IntKind.wrap IntKind.i64 (↑(BitVec.toNat (BitVec.ofInt (IntKind.bits IntKind.i64) (IntKind.wrap IntKind.i64 (n16 s at_)) &&& ~~~BitVec.ofInt (IntKind.bits IntKind.i64) (49152 : Int))) : Int)), AV.int IntKind.i64 (at_ + (2 : Ty.den (Ty.int IntKind.i64)))] [LObj.boxT (some 88) [AV.np, AV.rowA 1], LObj.row (Ty.int IntKind.u8) b]))) (Tr.ret (Sum.inl (stOf [0, 1, 7, 8, 9] [AV.str s, AV.int IntKind.i64 (IntKind.wrap IntKind.i64 (↑(BitVec.toNat (BitVec.ofInt (IntKind.bits IntKind.i64) (IntKind.wrap IntKind.i64 (n16 s at_)) &&& ~~~BitVec.ofInt (IntKind.bits IntKind.i64) (49152 : Int))) : Int)), AV.ptr 0 0, AV.int IntKind.i64 (IntKind.wrap IntKind.i64 (↑(BitVec.toNat (BitVec.ofInt (IntKind.bits IntKind.i64) (IntKind.wrap IntKind.i64 (n16 s at_)) &&& ~~~BitVec.ofInt (IntKind.bits IntKind.i64) (49152 : Int))) : Int)), AV.int IntKind.i64 behind] [LObj.boxT (some 88) [AV.np, AV.rowA 1], LObj.row (Ty.int IntKind.u8) b])))) (Tr.ret (Sum.inr (Ex.ret, stOf [4, 5, 6] [AV.str [], AV.int IntKind.i64 (0 : Int), AV.int IntKind.i64 (2 : Int)] [])))) (Tr.ret (Sum.inr (Ex.ret, stOf [4, 5, 6] [AV.str [], AV.int IntKind.i64 (0 : Int), AV.int IntKind.i64 (2 : Int)] [])))) Tr.no) (Tr.br (bigS s) (Tr.br (someB s (at_ + (1 : Ty.den (Ty.int IntKind.i64))) (IntKind.wrap IntKind.i64 (↑(UInt8.toNat (List.getD s (Int.toNat at_) 0)) : Int))) (Tr.br (decide (IntKind.wrap IntKind.i64 (IntKind.wrap IntKind.i64 ((↑(List.length b) : Int) + (1 : Int)) + (↑(List.length (someV s (at_ + (1 : Ty.den (Ty.int IntKind.i64))) (IntKind.wrap IntKind.i64 (↑(UInt8.toNat (List.getD s (Int.toNat at_) 0)) : Int)))) : Int)) > (255 : Int))) (Tr.ret (Sum.inr (Ex.ret, stOf [4, 5, 6] [AV.str [], AV.int IntKind.i64 (0 : Int), AV.int IntKind.i64 (2 : Int)] []))) (Tr.br (fits (List.length b + 1) 1) (Tr.br (bigS (someV s (at_ + (1 : Ty.den (Ty.int IntKind.i64))) (IntKind.wrap IntKind.i64 (↑(UInt8.toNat (List.getD s (Int.toNat at_) 0)) : Int)))) (Tr.br (fits (List.length (b ++ [(↑(UInt8.toNat (List.getD s (Int.toNat at_) 0)) : Int)]) + List.length (bytesInt (foldB (someV s (at_ + (1 : Ty.den (Ty.int IntKind.i64))) (IntKind.wrap IntKind.i64 (↑(UInt8.toNat (List.getD s (Int.toNat at_) 0)) : Int)))))) 1) (Tr.br (decide ((↑(UInt8.toNat (List.getD s (Int.toNat at_) 0)) : Int) > (0 : Int))) (Tr.ret (Sum.inl (stOf [0, 1, 7, 8, 9] [AV.str s, AV.int IntKind.i64 (at_ + (1 : Ty.den (Ty.int IntKind.i64)) + IntKind.wrap IntKind.i64 (↑(UInt8.toNat (List.getD s (Int.toNat at_) 0)) : Int)), AV.ptr 0 0, AV.int IntKind.i64 from_, AV.int IntKind.i64 behind] [LObj.boxT (some 88) [AV.ptr 0 0, AV.rowA 1], LObj.row (Ty.int IntKind.u8) (b ++ [(↑(UInt8.toNat (List.getD s (Int.toNat at_) 0)) : Int)] ++ bytesInt (foldB (someV s (at_ + (1 : Ty.den (Ty.int IntKind.i64))) (IntKind.wrap IntKind.i64 (↑(UInt8.toNat (List.getD s (Int.toNat at_) 0)) : Int)))))]))) (Tr.br (decide (behind < (0 : Int))) (Tr.br (bytesOk (b ++ [(↑(UInt8.toNat (List.getD s (Int.toNat at_) 0)) : Int)] ++ bytesInt (foldB (someV s (at_ + (1 : Ty.den (Ty.int IntKind.i64))) (IntKind.wrap IntKind.i64 (↑(UInt8.toNat (List.getD s (Int.toNat at_) 0)) : Int))))) && (!List.isEmpty (b ++ [(↑(UInt8.toNat (List.getD s (Int.toNat at_) 0)) : Int)] ++ bytesInt (foldB (someV s (at_ + (1 : Ty.den (Ty.int IntKind.i64))) (IntKind.wrap IntKind.i64 (↑(UInt8.toNat (List.getD s (Int.toNat at_) 0)) : Int))))) && Nat.ble (List.length (b ++ [(↑(UInt8.toNat (List.getD s (Int.toNat at_) 0)) : Int)] ++ bytesInt (foldB (someV s (at_ + (1 : Ty.den (Ty.int IntKind.i64))) (IntKind.wrap IntKind.i64 (↑(UInt8.toNat (List.getD s (Int.toNat at_) 0)) : Int)))))) 9223372036854775807)) (Tr.ret (Sum.inr (Ex.ret, stOf [4, 5, 6] [AV.str (intBytes (b ++ [(↑(UInt8.toNat (List.getD s (Int.toNat at_) 0)) : Int)] ++ bytesInt (foldB (someV s (at_ + (1 : Ty.den (Ty.int IntKind.i64))) (IntKind.wrap IntKind.i64 (↑(UInt8.toNat (List.getD s (Int.toNat at_) 0)) : Int)))))), AV.int IntKind.i64 (at_ + (1 : Ty.den (Ty.int IntKind.i64)) + IntKind.wrap IntKind.i64 (↑(UInt8.toNat (List.getD s (Int.toNat at_) 0)) : Int)), AV.int IntKind.i64 (0 : Int)] []))) Tr.no) (Tr.br (bytesOk (b ++ [(↑(UInt8.toNat (List.getD s (Int.toNat at_) 0)) : Int)] ++ bytesInt (foldB (someV s (at_ + (1 : Ty.den (Ty.int IntKind.i64))) (IntKind.wrap IntKind.i64 (↑(UInt8.toNat (List.getD s (Int.toNat at_) 0)) : Int))))) && (!List.isEmpty (b ++ [(↑(UInt8.toNat (List.getD s (Int.toNat at_) 0)) : Int)] ++ bytesInt (foldB (someV s (at_ + (1 : Ty.den (Ty.int IntKind.i64))) (IntKind.wrap IntKind.i64 (↑(UInt8.toNat (List.getD s (Int.toNat at_) 0)) : Int))))) && Nat.ble (List.length (b ++ [(↑(UInt8.toNat (List.getD s (Int.toNat at_) 0)) : Int)] ++ bytesInt (foldB (someV s (at_ + (1 : Ty.den (Ty.int IntKind.i64))) (IntKind.wrap IntKind.i64 (↑(UInt8.toNat (List.getD s (Int.toNat at_) 0)) : Int)))))) 9223372036854775807)) (Tr.ret (Sum.inr (Ex.ret, stOf [4, 5, 6] [AV.str (intBytes (b ++ [(↑(UInt8.toNat (List.getD s (Int.toNat at_) 0)) : Int)] ++ bytesInt (foldB (someV s (at_ + (1 : Ty.den (Ty.int IntKind.i64))) (IntKind.wrap IntKind.i64 (↑(UInt8.toNat (List.getD s (Int.toNat at_) 0)) : Int)))))), AV.int IntKind.i64 behind, AV.int IntKind.i64 (0 : Int)] []))) Tr.no))) Tr.no) Tr.no) Tr.no)) (Tr.ret (Sum.inr (Ex.ret, stOf [4, 5, 6] [AV.str [], AV.int IntKind.i64 (0 : Int), AV.int IntKind.i64 (2 : Int)] [])))) Tr.no))) (Tr.ret (Sum.inr (Ex.ret, stOf [4, 5, 6] [AV.str [], AV.int IntKind.i64 (0 : Int), AV.int IntKind.i64 (2 : Int)] [])))) Tr.no
set_option maxRecDepth 1000000 in
theorem round27n (lp : Lp) (s : List UInt8) (at_ : Int) (from_ : Int) (behind : Int) (b : List Int) : evC T0 (orcB [fs46w, fs47w, fs48w, fs52w] [os49n, os49u, os50n, os50u, os51u, osStr]) lp b27n 0 (stOf [0, 1, 7, 8, 9] [.str s, .int .i64 at_, .ptr 0 0, .int .i64 from_, .int .i64 behind] [.boxT (some 88) [.np, .rowA 1], .row (.int .u8) b]) (roundK [0, 1, 7, 8, 9] [4, 5, 6] 0) = (r27n s at_ from_ behind b).get := by kernel_rfl
theorem loop27n : ls27n.Ok T0 (orcB [fs46w, fs47w, fs48w, fs52w] [os49n, os49u, os50n, os50u, os51u, osStr]) h27 0 0 b27n := by
  intro q'' hq'' x'' y'' r'' h
  obtain ⟨(s : List UInt8), (at_ : Int), (from_ : Int), (behind : Int), _⟩ := x''
  obtain ⟨_, (b : List Int), _⟩ := y''
  obtain ⟨hc, rfl⟩ := Tr.get_on h
  show loopF (fun st => evC T0 (orcB [fs46w, fs47w, fs48w, fs52w] [os49n, os49u, os50n, os50u, os51u, osStr]) (lpN T0 (orcB [fs46w, fs47w, fs48w, fs52w] [os49n, os49u, os50n, os50u, os51u, osStr]) h27 0 q'') b27n 0 st (roundK [0, 1, 7, 8, 9] [4, 5, 6] 0)) (stOf [0, 1, 7, 8, 9] [.str s, .int .i64 at_, .ptr 0 0, .int .i64 from_, .int .i64 behind] [.boxT (some 88) [.np, .rowA 1], .row (.int .u8) b]) = some (.ret, stOf [4, 5, 6] ([.str (tkS (takeG s at_ from_ behind (intBytes b))), .int .i64 (tkN (takeG s at_ from_ behind (intBytes b))), .int .i64 (tkE (takeG s at_ from_ behind (intBytes b)))]) ([]))
  simp only [tkC, Bool.and_eq_true] at hc
  obtain ⟨hbig, hok, hb⟩ := hc
  have hb := Nat.le_of_ble_eq_true hb
  refine loop_tr2 (fun a : Int × Int × Int × List Int => stOf [0, 1, 7, 8, 9] [.str s, .int .i64 a.1, .ptr 0 0, .int .i64 a.2.1, .int .i64 a.2.2.1] [.boxT (some 88) [.np, .rowA 1], .row (.int .u8) a.2.2.2]) (fun a => tkI s at_ from_ behind b a.1 a.2.1 a.2.2.1 a.2.2.2) (fun a => msT s a.1 a.2.1) _
    (fun a => r27n s a.1 a.2.1 a.2.2.1 a.2.2.2) (fun a x hx => (round27n _ s a.1 a.2.1 a.2.2.1 a.2.2.2).trans hx) ?_ (at_, from_, behind, b) ⟨hok, hb, rfl⟩
  clear hok hb
  rintro ⟨at_, from_, behind, b⟩ ⟨hok, hb, he⟩
  simp only at hok hb he ⊢
  rw [← he]
  unfold r27n
  have hB : s.length ≤ 1000000000000 := by simpa [bigS] using hbig
  have hc : (↑(UInt8.toNat (List.getD s (Int.toNat at_) 0)) : Int) = (szT s at_ : Int) := rfl
  have hc255 := szT_lt s at_
  have hto := toT_in s at_
  simp only [and_far (n16_in s at_).1 (n16_in s at_).2, hc]
  simp only [show n16 s at_ % 16384 = toT s at_ from rfl, IntWalk.i64_in ((szT s at_ : Nat) : Int) (by omega)]
  cases h1 : someB s at_ 1 with
  | false =>
    rw [takeG_out h1]
    exact Tr.all_t hbig (Tr.all_f rfl (Tr.all_ret (.inl rfl)))
  | true =>
    have hs1 := someB_iff.1 h1
    refine Tr.all_t hbig (Tr.all_t rfl ?_)
    by_cases h192 : 192 ≤ szT s at_
    · refine Tr.all_t (dec_true (by omega)) (Tr.all_f (dec_false (by omega)) (Tr.all_t (dec_true (by omega)) (Tr.all_t hbig ?_)))
      by_cases h3 : someB s at_ 2 = true ∧ toT s at_ < from_
      · rw [takeG_ptr h1 h192 h3.1 h3.2] at he ⊢
        refine Tr.all_t h3.1 (Tr.all_t (dec_true h3.2) (Tr.all_br (fun c1 => ?_) fun c1 => ?_))
        · simp only [decide_eq_true_eq] at c1
          rw [if_pos c1] at he
          exact Tr.all_ret (.inr (.inl ⟨(_, _, _, _), rfl, ⟨hok, hb, he⟩, msT_to hto.1 h3.2⟩))
        · simp only [decide_eq_false_iff_not] at c1
          rw [if_neg c1] at he
          exact Tr.all_ret (.inr (.inl ⟨(_, _, _, _), rfl, ⟨hok, hb, he⟩, msT_to hto.1 h3.2⟩))
      · rw [takeG_bad h1 h192 h3]
        cases h2 : someB s at_ 2 with
        | false => exact Tr.all_f rfl (Tr.all_ret (.inl rfl))
        | true => exact Tr.all_t rfl (Tr.all_f (dec_false (fun h => h3 ⟨h2, h⟩)) (Tr.all_ret (.inl rfl)))
    · by_cases h63 : 63 < szT s at_
      · rw [takeG_mid h1 h192 h63]
        exact Tr.all_t (dec_true (by omega)) (Tr.all_t (dec_true (by omega)) (Tr.all_ret (.inl rfl)))
      · refine Tr.all_f (dec_false (by omega)) (Tr.all_f (dec_false (by omega)) (Tr.all_t hbig ?_))
        cases h4 : someB s (at_ + 1) (szT s at_) with
        | false =>
          rw [takeG_long h1 (by omega) (by rw [h4]; simp)]
          exact Tr.all_f rfl (Tr.all_ret (.inl rfl))
        | true =>
          have hs4 := someB_iff.1 h4
          have hvl : (someV s (at_ + 1) (szT s at_ : Int)).length = szT s at_ := by rw [someV_len h4]; omega
          have hvb : bigS (someV s (at_ + 1) (szT s at_ : Int)) = true := by simp [bigS, hvl]; omega
          rw [hvl]
          rw [IntWalk.i64_in ((List.length b : Int) + 1) (by omega), IntWalk.i64_in _ (by omega)]
          refine Tr.all_t rfl ?_
          by_cases h5 : b.length + 1 + szT s at_ ≤ 255
          · have hnew : bytesOk (b ++ [((szT s at_ : Nat) : Int)] ++ bytesInt (foldB (someV s (at_ + 1) (szT s at_ : Int)))) = true := by
              refine bytesOk_app (bytesOk_app hok ?_) (bytesInt_ok _)
              simp [bytesOk]
              omega
            have hnl : (b ++ [((szT s at_ : Nat) : Int)] ++ bytesInt (foldB (someV s (at_ + 1) (szT s at_ : Int)))).length = b.length + 1 + szT s at_ := by
              simp [bytesInt_len, foldB_len, hvl]
              omega
            have hS2 : intBytes (b ++ [((szT s at_ : Nat) : Int)] ++ bytesInt (foldB (someV s (at_ + 1) (szT s at_ : Int)))) = intBytes b ++ s.getD at_.toNat 0 :: foldB (someV s (at_ + 1) (szT s at_ : Int)) := by
              rw [intB_app, intB_app, intB_bytes]
              have : intBytes [((szT s at_ : Nat) : Int)] = [s.getD at_.toNat 0] := by simp [intBytes, szT]
              rw [this]
              simp
            refine Tr.all_f (dec_false (by omega)) (Tr.all_t (fits_true (by omega) (by omega)) (Tr.all_t hvb (Tr.all_t (fits_true (by simp [bytesInt_len, foldB_len, hvl]; omega) (by simp [bytesInt_len, foldB_len, hvl]; omega)) ?_)))
            by_cases h0 : szT s at_ = 0
            · rw [takeG_end h1 h0 (by rw [intB_len]; omega)]
              have hv0 : someV s (at_ + 1) (szT s at_ : Int) = [] := List.length_eq_zero_iff.1 (by rw [hvl]; exact h0)
              have hg0 : s.getD at_.toNat 0 = 0 := by
                have : (s.getD at_.toNat 0).toNat = 0 := h0
                exact UInt8.toNat_inj.1 (by simpa using this)
              have hend : (bytesOk (b ++ [((szT s at_ : Nat) : Int)] ++ bytesInt (foldB (someV s (at_ + 1) (szT s at_ : Int)))) && (!List.isEmpty (b ++ [((szT s at_ : Nat) : Int)] ++ bytesInt (foldB (someV s (at_ + 1) (szT s at_ : Int)))) && Nat.ble (List.length (b ++ [((szT s at_ : Nat) : Int)] ++ bytesInt (foldB (someV s (at_ + 1) (szT s at_ : Int))))) 9223372036854775807)) = true := by
                rw [hnew, Nat.ble_eq_true_of_le (by omega)]
                simp
              refine Tr.all_f (dec_false (by omega)) (Tr.all_br (fun c1 => Tr.all_t hend (Tr.all_ret (.inl ?_))) fun c1 => Tr.all_t hend (Tr.all_ret (.inl ?_)))
              · simp only [decide_eq_true_eq] at c1
                rw [if_pos c1, hS2, hv0, hg0, h0]
                simp [foldB]
                rfl
              · simp only [decide_eq_false_iff_not] at c1
                rw [if_neg c1, hS2, hv0, hg0]
                rfl
            · have hG := takeG_on (s := s) (at_ := at_) (from_ := from_) (behind := behind) (out := intBytes b) h1 (by omega) h0 h4 (by rw [intB_len]; omega)
              rw [← hS2] at hG
              rw [hG] at he ⊢
              refine Tr.all_t (dec_true (by omega)) (Tr.all_ret ?_)
              refine .inr (.inr ⟨_, rfl, ?_⟩)
              have := loop27u q'' (Nat.zero_le _) (s, at_ + 1 + szT s at_, from_, behind, ()) ((), b ++ [((szT s at_ : Nat) : Int)] ++ bytesInt (foldB (someV s (at_ + 1) (szT s at_ : Int))), ()) (.ret, resT (takeG s (at_ + 1 + szT s at_) from_ behind (intBytes (b ++ [((szT s at_ : Nat) : Int)] ++ bytesInt (foldB (someV s (at_ + 1) (szT s at_ : Int)))))), []) (by
                show (Tr.on (tkC s _) _).get = _
                rw [show tkC s (b ++ [((szT s at_ : Nat) : Int)] ++ bytesInt (foldB (someV s (at_ + 1) (szT s at_ : Int)))) = true by simp only [tkC, hbig, hnew, Bool.true_and]; exact Nat.ble_eq_true_of_le (by omega)]
                rfl)
              exact this
          · rw [takeG_long h1 (by omega) (by rw [intB_len]; exact fun h => h5 h.2)]
            exact Tr.all_t (dec_true (by omega)) (Tr.all_ret (.inl rfl))
/-- wire.Take -/
def t27 (s : List UInt8) (at_ : Int) : Tr Res := Tr.br (tkC s []) (Tr.ret ([AV.str (tkS (takeG s at_ at_ (-1 : Int) (intBytes []))), AV.int IntKind.i64 (tkN (takeG s at_ at_ (-1 : Int) (intBytes []))), AV.int IntKind.i64 (tkE (takeG s at_ at_ (-1 : Int) (intBytes [])))], [])) Tr.no
def os27 : OSpec := { f := 27, sh := [.d .str false, .d (.int .i64) false], so := [], F := fun (s, at_, _) _ => t27 s at_ }
set_option maxRecDepth 1000000 in
theorem fn27 (s : List UInt8) (at_ : Int) : evC T0 (orcB [fs46w, fs47w, fs48w, fs52w] [os49n, os49u, os50n, os50u, os51u, osStr]) (lpOf h27 0 (lsOf [ls27n])) c27 1000000 (startSt [.str s, .int .i64 at_] [] Try.f27.ntmps) (finishK T0 false 0 Try.f27) = (t27 s at_).get := by kernel_rfl
theorem ok27 : os27.Ok Try.prog := by
  refine os_ok mixed0 tab0 (orcB_sound (all_cons okf46w (all_cons okf47w (all_cons okf48w (all_cons okf52w all_nil)))) (all_cons ok49n (all_cons ok49u (all_cons ok50n (all_cons ok50u (all_cons ok51u (all_cons okStr all_nil))))))) h27 (d := 0) (n0 := 0) (S := lsOf [ls27n]) Try.func27 (by kernel_rfl) (c := c27) (by kernel_rfl) rfl (loops_eq (xs := [(0, b27n)]) (by kernel_rfl) (all_cons (ls_here loop27n) all_nil)) (by omega) (by kernel_rfl) ?_
  intro x'' y'' q'' hq''
  obtain ⟨(s : List UInt8), (at_ : Int), _⟩ := x''
  exact (fn27 s at_).trans hq''
def fs27 : FSpec := fsT 27 [(.str, false), ((.int .i64), false)] [(.str, false), ((.int .i64), false), ((.int .i64), false)] fun (s, at_, _) => t27 s at_
theorem okf27 : fs27.Ok Try.prog := fsT_ok fun x'' r'' hr'' => ok27 x'' () r'' hr''
def fs27w : FSpec := fs27.like fun (s, at_, _) => .on (bigS s) (tkS (takeG s at_ at_ (-1) []), tkN (takeG s at_ at_ (-1) []), tkE (takeG s at_ at_ (-1) []), ())
theorem okf27w : fs27w.Ok Try.prog := by
  refine flike_ok okf27 _ ?_
  rintro ⟨(s : List UInt8), (at_ : Int), _⟩ y h
  obtain ⟨hb, rfl⟩ := Tr.get_on h
  refine convR_of (vs := resT (takeG s at_ at_ (-1) [])) rfl rfl (Tr.get_of_all ?_)
  show (t27 s at_).all _
  exact Tr.all_t (by simp only [tkC, hb]; rfl) (Tr.all_ret rfl)
end Go.Proofs.YtfepkpindchleaaE

/- layer 3: the law's example. -/
namespace Go.Proofs.YtfepkpindchleaaE
open Go Go.Proofs.YtfepkpindchleaaB
set_option linter.unusedVariables false
set_option linter.unusedSimpArgs false
/-- derricklaw03.shown -/
def t20 : Tr Res := Tr.ret ([AV.bool (tkE (takeG (intBytes (bytesInt (Prod.fst (nameP ([2, 97, 98, 0]) (intBytes (bytesInt (Prod.fst (nameP ([3, 119, 119, 119, 2, 97, 98, 0]) (intBytes []) [])))) (Prod.snd (nameP ([3, 119, 119, 119, 2, 97, 98, 0]) (intBytes []) [])))))) (8 : Int) (8 : Int) (-1 : Int) []) == (0 : Int))], [])
def os20 : OSpec := { f := 20, sh := [], so := [], F := fun _ _ => t20 }
set_option maxRecDepth 1000000 in
theorem fn20 : evC T0 (orcB [fs27w] [os16, os24w, os19, os26]) (lpOf h20 0 (lsOf [])) c20 1000000 (startSt [] [] Try.f20.ntmps) (finishK T0 false 0 Try.f20) = (t20).get := by kernel_rfl
theorem ok20 : os20.Ok Try.prog := by
  refine os_ok mixed0 tab0 (orcB_sound (all_cons okf27w all_nil) (all_cons ok16 (all_cons ok24w (all_cons ok19 (all_cons ok26 all_nil))))) h20 (d := 0) (n0 := 0) (S := lsOf []) Try.func20 (by kernel_rfl) (c := c20) (by kernel_rfl) rfl (no_loops (by kernel_rfl)) (by omega) (by kernel_rfl) ?_
  intro x'' y'' q'' hq''
  exact (fn20).trans hq''
def fs20 : FSpec := fsT 20 [] [(.bool, false)] fun _ => t20
theorem okf20 : fs20.Ok Try.prog := fsT_ok fun x'' r'' hr'' => ok20 x'' () r'' hr''
def fs20w : FSpec := fs20.like fun _ => .ret (true, ())
theorem okf20w : fs20w.Ok Try.prog := by
  refine flike_ok okf20 _ ?_
  intro x y h
  cases h
  refine convR_of (vs := [.bool true]) rfl rfl ?_
  show (t20).get = _
  have e : takeG (intBytes (bytesInt (Prod.fst (nameP ([2, 97, 98, 0]) (intBytes (bytesInt (Prod.fst (nameP ([3, 119, 119, 119, 2, 97, 98, 0]) (intBytes []) [])))) (Prod.snd (nameP ([3, 119, 119, 119, 2, 97, 98, 0]) (intBytes []) [])))))) (8 : Int) (8 : Int) (-1 : Int) [] = some ([2, 97, 98, 0], 10) := by
    rw [takeG_u, nameP_u, nameP_u]
    decide
  unfold t20
  rw [e]
  rfl
/-- derricklaw03.WireName -/
def t7 (s : List UInt8) (at_ : Int) (n : List UInt8) : Tr Res := Tr.br (decide ((↑(List.length s) : Int) > (1000 : Int))) (Tr.ret ([AV.bool true], [])) (Tr.br (decide ((↑(List.length n) : Int) > (400 : Int))) (Tr.ret ([AV.bool true], [])) (Tr.br (bigS s) (Tr.br (tkE (takeG s at_ at_ (-1 : Int) []) == (0 : Int)) (Tr.br (bigS (tkS (takeG s at_ at_ (-1 : Int) []))) (Tr.br (mayV (tkS (takeG s at_ at_ (-1 : Int) []))) (Tr.br (decide (tkN (takeG s at_ at_ (-1 : Int) []) > at_)) (Tr.br (decide (tkN (takeG s at_ at_ (-1 : Int) []) ≤ (↑(List.length s) : Int))) (Tr.br (Nat.ble (List.length n + List.length s) 9223372036854775807) (Tr.br (bigS (n ++ s)) (Tr.br (bigS n) (Tr.br (!mayV n) (Tr.ret ([AV.bool true], [])) (Tr.br (tkE (takeG (n ++ s) (0 : Int) (0 : Int) (-1 : Int) []) == (0 : Int)) (Tr.br (tkS (takeG (n ++ s) (0 : Int) (0 : Int) (-1 : Int) []) == n) (Tr.ret ([AV.bool (tkN (takeG (n ++ s) (0 : Int) (0 : Int) (-1 : Int) []) == (↑(List.length n) : Int))], [])) (Tr.ret ([AV.bool false], []))) (Tr.ret ([AV.bool false], [])))) Tr.no) Tr.no) Tr.no) (Tr.br (tkE (takeG s at_ at_ (-1 : Int) []) == (2 : Int)) (Tr.br (tkS (takeG s at_ at_ (-1 : Int) []) == []) (Tr.br (Nat.ble (List.length n + List.length s) 9223372036854775807) (Tr.br (bigS (n ++ s)) (Tr.br (tkN (takeG s at_ at_ (-1 : Int) []) == (0 : Int)) (Tr.br (bigS n) (Tr.br (!mayV n) (Tr.ret ([AV.bool true], [])) (Tr.br (tkE (takeG (n ++ s) (0 : Int) (0 : Int) (-1 : Int) []) == (0 : Int)) (Tr.br (tkS (takeG (n ++ s) (0 : Int) (0 : Int) (-1 : Int) []) == n) (Tr.ret ([AV.bool (tkN (takeG (n ++ s) (0 : Int) (0 : Int) (-1 : Int) []) == (↑(List.length n) : Int))], [])) (Tr.ret ([AV.bool false], []))) (Tr.ret ([AV.bool false], [])))) Tr.no) (Tr.ret ([AV.bool false], []))) Tr.no) Tr.no) (Tr.br (Nat.ble (List.length n + List.length s) 9223372036854775807) (Tr.br (bigS (n ++ s)) (Tr.ret ([AV.bool false], [])) Tr.no) Tr.no)) (Tr.br (Nat.ble (List.length n + List.length s) 9223372036854775807) (Tr.br (bigS (n ++ s)) (Tr.ret ([AV.bool false], [])) Tr.no) Tr.no))) (Tr.br (tkE (takeG s at_ at_ (-1 : Int) []) == (2 : Int)) (Tr.br (tkS (takeG s at_ at_ (-1 : Int) []) == []) (Tr.br (Nat.ble (List.length n + List.length s) 9223372036854775807) (Tr.br (bigS (n ++ s)) (Tr.br (tkN (takeG s at_ at_ (-1 : Int) []) == (0 : Int)) (Tr.br (bigS n) (Tr.br (!mayV n) (Tr.ret ([AV.bool true], [])) (Tr.br (tkE (takeG (n ++ s) (0 : Int) (0 : Int) (-1 : Int) []) == (0 : Int)) (Tr.br (tkS (takeG (n ++ s) (0 : Int) (0 : Int) (-1 : Int) []) == n) (Tr.ret ([AV.bool (tkN (takeG (n ++ s) (0 : Int) (0 : Int) (-1 : Int) []) == (↑(List.length n) : Int))], [])) (Tr.ret ([AV.bool false], []))) (Tr.ret ([AV.bool false], [])))) Tr.no) (Tr.ret ([AV.bool false], []))) Tr.no) Tr.no) (Tr.br (Nat.ble (List.length n + List.length s) 9223372036854775807) (Tr.br (bigS (n ++ s)) (Tr.ret ([AV.bool false], [])) Tr.no) Tr.no)) (Tr.br (Nat.ble (List.length n + List.length s) 9223372036854775807) (Tr.br (bigS (n ++ s)) (Tr.ret ([AV.bool false], [])) Tr.no) Tr.no))) (Tr.br (tkE (takeG s at_ at_ (-1 : Int) []) == (2 : Int)) (Tr.br (tkS (takeG s at_ at_ (-1 : Int) []) == []) (Tr.br (Nat.ble (List.length n + List.length s) 9223372036854775807) (Tr.br (bigS (n ++ s)) (Tr.br (tkN (takeG s at_ at_ (-1 : Int) []) == (0 : Int)) (Tr.br (bigS n) (Tr.br (!mayV n) (Tr.ret ([AV.bool true], [])) (Tr.br (tkE (takeG (n ++ s) (0 : Int) (0 : Int) (-1 : Int) []) == (0 : Int)) (Tr.br (tkS (takeG (n ++ s) (0 : Int) (0 : Int) (-1 : Int) []) == n) (Tr.ret ([AV.bool (tkN (takeG (n ++ s) (0 : Int) (0 : Int) (-1 : Int) []) == (↑(List.length n) : Int))], [])) (Tr.ret ([AV.bool false], []))) (Tr.ret ([AV.bool false], [])))) Tr.no) (Tr.ret ([AV.bool false], []))) Tr.no) Tr.no) (Tr.br (Nat.ble (List.length n + List.length s) 9223372036854775807) (Tr.br (bigS (n ++ s)) (Tr.ret ([AV.bool false], [])) Tr.no) Tr.no)) (Tr.br (Nat.ble (List.length n + List.length s) 9223372036854775807) (Tr.br (bigS (n ++ s)) (Tr.ret ([AV.bool false], [])) Tr.no) Tr.no))) Tr.no) (Tr.br (tkE (takeG s at_ at_ (-1 : Int) []) == (2 : Int)) (Tr.br (tkS (takeG s at_ at_ (-1 : Int) []) == []) (Tr.br (Nat.ble (List.length n + List.length s) 9223372036854775807) (Tr.br (bigS (n ++ s)) (Tr.br (tkN (takeG s at_ at_ (-1 : Int) []) == (0 : Int)) (Tr.br (bigS n) (Tr.br (!mayV n) (Tr.ret ([AV.bool true], [])) (Tr.br (tkE (takeG (n ++ s) (0 : Int) (0 : Int) (-1 : Int) []) == (0 : Int)) (Tr.br (tkS (takeG (n ++ s) (0 : Int) (0 : Int) (-1 : Int) []) == n) (Tr.ret ([AV.bool (tkN (takeG (n ++ s) (0 : Int) (0 : Int) (-1 : Int) []) == (↑(List.length n) : Int))], [])) (Tr.ret ([AV.bool false], []))) (Tr.ret ([AV.bool false], [])))) Tr.no) (Tr.ret ([AV.bool false], []))) Tr.no) Tr.no) (Tr.br (Nat.ble (List.length n + List.length s) 9223372036854775807) (Tr.br (bigS (n ++ s)) (Tr.ret ([AV.bool false], [])) Tr.no) Tr.no)) (Tr.br (Nat.ble (List.length n + List.length s) 9223372036854775807) (Tr.br (bigS (n ++ s)) (Tr.ret ([AV.bool false], [])) Tr.no) Tr.no))) Tr.no))
def os7 : OSpec := { f := 7, sh := [.d .str false, .d (.int .i64) false, .d .str false], so := [], F := fun (s, at_, n, _) _ => t7 s at_ n }
set_option maxRecDepth 1000000 in
theorem fn7 (s : List UInt8) (at_ : Int) (n : List UInt8) : evC T0 (orcB [fs20w, fs27w, fs29w] []) (lpOf h7 0 (lsOf [])) c7 1000000 (startSt [.str s, .int .i64 at_, .str n] [] Try.f7.ntmps) (finishK T0 false 0 Try.f7) = (t7 s at_ n).get := by kernel_rfl
theorem ok7 : os7.Ok Try.prog := by
  refine os_ok mixed0 tab0 (orcB_sound (all_cons okf20w (all_cons okf27w (all_cons okf29w all_nil))) all_nil) h7 (d := 0) (n0 := 0) (S := lsOf []) Try.func7 (by kernel_rfl) (c := c7) (by kernel_rfl) rfl (no_loops (by kernel_rfl)) (by omega) (by kernel_rfl) ?_
  intro x'' y'' q'' hq''
  obtain ⟨(s : List UInt8), (at_ : Int), (n : List UInt8), _⟩ := x''
  exact (fn7 s at_ n).trans hq''
def fs7 : FSpec := fsT 7 [(.str, false), ((.int .i64), false), (.str, false)] [(.bool, false)] fun (s, at_, n, _) => t7 s at_ n
theorem okf7 : fs7.Ok Try.prog := fsT_ok fun x'' r'' hr'' => ok7 x'' () r'' hr''
end Go.Proofs.YtfepkpindchleaaE

/- rdata: layout, whole, strings, cut. -/
namespace Go.Proofs.YtfepkpindchleaaE
open Go Go.Proofs.YtfepkpindchleaaB
set_option linter.unusedVariables false
set_option linter.unusedSimpArgs false
/-- rdata.layouts -/
def t64 : Tr Res := Tr.ret ([AV.mp 0], [LObj.mpo (Ty.int IntKind.u16) (Ty.list (Ty.int IntKind.i64)) [((1 : Int), [(4 : Int)]), ((28 : Int), [(16 : Int)]), ((2 : Int), [(-1 : Int)]), ((5 : Int), [(-1 : Int)]), ((12 : Int), [(-1 : Int)]), ((15 : Int), [(2 : Int), (-1 : Int)]), ((6 : Int), [(-1 : Int), (-1 : Int), (20 : Int)]), ((16 : Int), [(-2 : Int)])]])
def os64 : OSpec := { f := 64, sh := [], so := [], F := fun _ _ => t64 }
set_option maxRecDepth 1000000 in
theorem fn64 : evC T0 (orcB [] []) (lpOf (hOwn h64) 0 (lsOf [])) c64 1000000 (startSt [] [] Try.f64.ntmps) (finishK T0 true 0 Try.f64) = (t64).get := by kernel_rfl
theorem ok64 : os64.Ok Try.prog := by
  refine os_ok mixed0 tab0 (orcB_sound all_nil all_nil) (hOwn h64) (d := 0) (n0 := 0) (S := lsOf []) Try.func64 (by kernel_rfl) (c := c64) (by kernel_rfl) rfl (no_loops (by kernel_rfl)) (by omega) (by kernel_rfl) ?_
  intro x'' y'' q'' hq''
  exact (fn64).trans hq''
/-- rdata.layout -/
def t40 (k : Int) : Tr Res := Tr.br (!hasM (Ty.int IntKind.u16) (Ty.list (Ty.int IntKind.i64)) k [((1 : Int), [(4 : Int)]), ((28 : Int), [(16 : Int)]), ((2 : Int), [(-1 : Int)]), ((5 : Int), [(-1 : Int)]), ((12 : Int), [(-1 : Int)]), ((15 : Int), [(2 : Int), (-1 : Int)]), ((6 : Int), [(-1 : Int), (-1 : Int), (20 : Int)]), ((16 : Int), [(-2 : Int)])]) (Tr.ret ([AV.list (Ty.int IntKind.i64) [(-3 : Int)]], [])) (Tr.ret ([AV.list (Ty.int IntKind.i64) (getM (Ty.int IntKind.u16) (Ty.list (Ty.int IntKind.i64)) k [((1 : Int), [(4 : Int)]), ((28 : Int), [(16 : Int)]), ((2 : Int), [(-1 : Int)]), ((5 : Int), [(-1 : Int)]), ((12 : Int), [(-1 : Int)]), ((15 : Int), [(2 : Int), (-1 : Int)]), ((6 : Int), [(-1 : Int), (-1 : Int), (20 : Int)]), ((16 : Int), [(-2 : Int)])])], []))
def os40 : OSpec := { f := 40, sh := [.d (.int .u16) false], so := [], F := fun (k, _) _ => t40 k }
set_option maxRecDepth 1000000 in
theorem fn40 (k : Int) : evC T0 (orcB [] [os64]) (lpOf h40 0 (lsOf [])) c40 1000000 (startSt [.int .u16 k] [] Try.f40.ntmps) (finishK T0 false 0 Try.f40) = (t40 k).get := by kernel_rfl
theorem ok40 : os40.Ok Try.prog := by
  refine os_ok mixed0 tab0 (orcB_sound all_nil (all_cons ok64 all_nil)) h40 (d := 0) (n0 := 0) (S := lsOf []) Try.func40 (by kernel_rfl) (c := c40) (by kernel_rfl) rfl (no_loops (by kernel_rfl)) (by omega) (by kernel_rfl) ?_
  intro x'' y'' q'' hq''
  obtain ⟨(k : Int), _⟩ := x''
  exact (fn40 k).trans hq''
def fs40 : FSpec := fsT 40 [((.int .u16), false)] [((.list (.int .i64)), false)] fun (k, _) => t40 k
theorem okf40 : fs40.Ok Try.prog := fsT_ok fun x'' r'' hr'' => ok40 x'' () r'' hr''
noncomputable def b62 : Code := nthLoop c62 0
def ls62 : LoopSpec := { bid := 0, sh := [.d .str false, .d (.int .i64) false], so := [], F := fun (s, at_, _) _ => .on (bigS s && decide (at_ = 0)) (.exit 0, [.str s, .int .i64 (whAt s 0)], []) }
def r62 (s : List UInt8) (at_ : Int) : Tr (St ⊕ (Ex × St)) := Tr.br (decide (at_ < (↑(List.length s) : Int))) (Tr.br (decide ((0 : Int) ≤ at_)) (Tr.br (decide (at_ < (↑(List.length s) : Int))) (Tr.br (decide ((↑(UInt8.toNat (List.getD s (Int.toNat at_) 0)) : Int) > (0 : Int))) (Tr.br (decide ((0 : Int) ≤ at_)) (Tr.br (decide (at_ < (↑(List.length s) : Int))) (Tr.ret (Sum.inl (stOf [0, 3] [AV.str s, AV.int IntKind.i64 (IntKind.wrap IntKind.i64 (at_ + IntKind.wrap IntKind.i64 ((1 : Int) + IntKind.wrap IntKind.i64 (↑(UInt8.toNat (List.getD s (Int.toNat at_) 0)) : Int))))] []))) Tr.no) Tr.no) (Tr.ret (Sum.inr (Ex.exit 0, stOf [0, 3] [AV.str s, AV.int IntKind.i64 at_] [])))) Tr.no) Tr.no) (Tr.ret (Sum.inr (Ex.exit 0, stOf [0, 3] [AV.str s, AV.int IntKind.i64 at_] [])))
set_option maxRecDepth 1000000 in
theorem round62 (orc : Orc) (lp : Lp) (s : List UInt8) (at_ : Int) : evC T0 orc lp b62 0 (stOf [0, 3] [.str s, .int .i64 at_] []) (roundK [0, 3] [0, 3] 0) = (r62 s at_).get := by kernel_rfl
theorem wf62 (orc : Orc) (s : List UInt8) (I'' : Int → Prop) (m'' : Int → Nat) (r'' : Ex × St) (h : ∀ (at_ : Int), I'' at_ → (r62 s at_).all fun x'' => x'' = .inr r'' ∨ ∃ (at_' : Int), x'' = .inl (stOf [0, 3] [.str s, .int .i64 at_'] []) ∧ I'' at_' ∧ m'' at_' < m'' at_) (lp : Lp) (at_ : Int) : I'' at_ →
    loopF (fun st => evC T0 orc lp b62 0 st (roundK [0, 3] [0, 3] 0)) (stOf [0, 3] [.str s, .int .i64 at_] []) = some r'' :=
  loop_tr (fun a'' : Int => stOf [0, 3] [.str s, .int .i64 a''] []) (fun a'' => I'' a'') (fun a'' => m'' a'') r'' (fun a'' => r62 s a'')
    (fun a'' x hx => (round62 orc lp s a'').trans hx) (fun a'' ha => Tr.all_mono (fun x'' hx => hx.imp id fun ⟨at_', h1, h2, h3⟩ => ⟨(at_'), h1, h2, h3⟩) (h (a'') ha)) (at_)
theorem loop62 (orc : Orc) : ls62.Ok T0 orc h62 0 0 b62 := by
  intro q'' hq'' x'' y'' r'' h
  obtain ⟨(s : List UInt8), (at_ : Int), _⟩ := x''
  obtain ⟨hc, rfl⟩ := Tr.get_on h
  show loopF (fun st => evC T0 orc (lpN T0 orc h62 0 q'') b62 0 st (roundK [0, 3] [0, 3] 0)) (stOf [0, 3] [.str s, .int .i64 at_] []) = some (.exit 0, stOf [0, 3] ([.str s, .int .i64 (whAt s 0)]) ([]))
  simp only [Bool.and_eq_true, decide_eq_true_eq] at hc
  obtain ⟨hb, rfl⟩ := hc
  refine wf62 _ s (fun a => 0 ≤ a ∧ whAt s a.toNat = whAt s 0) (fun a => (s.length - a).toNat) _ ?_ _ 0 ⟨by omega, rfl⟩
  rintro a ⟨h1, h2⟩
  have hB : s.length ≤ 1000000000000 := by simpa [bigS] using hb
  have hto : ((a.toNat : Nat) : Int) = a := Int.toNat_of_nonneg h1
  unfold r62
  rw [← h2, whAt.eq_1 s a.toNat]
  by_cases hk : a.toNat < s.length
  · have hb0 : (↑(UInt8.toNat (List.getD s (Int.toNat a) 0)) : Int) = (byN s a.toNat : Int) := rfl
    have hbl : byN s a.toNat < 256 := (s.getD a.toNat 0).toNat_lt
    rw [hb0]
    simp (disch := omega) only [IntWalk.i64_in]
    refine Tr.all_t (dec_true (by omega)) (Tr.all_t (dec_true h1) (Tr.all_t (dec_true (by omega)) (Tr.all_br (fun c1 => Tr.all_t (dec_true h1) (Tr.all_t (dec_true (by omega)) (Tr.all_ret (.inr ⟨_, rfl, ⟨by omega, ?_⟩, by omega⟩)))) fun c1 => Tr.all_ret (.inl ?_))))
    · simp only [decide_eq_true_eq] at c1
      rw [dif_pos ⟨hk, by omega⟩]
      congr 1
      omega
    · simp only [decide_eq_false_iff_not] at c1
      rw [dif_neg (by omega), hto]
  · rw [dif_neg (by omega), hto]
    exact Tr.all_f (dec_false (by omega)) (Tr.all_ret (.inl rfl))
noncomputable def b63 : Code := nthLoop c63 0
def ls63 : LoopSpec := { bid := 0, sh := [.d .str false, .d (.int .i64) false], so := [], F := fun (s, at_, _) _ => .on (bigS s && decide (at_ = 0)) (.exit 0, [.str s, .int .i64 (txAt s 0)], []) }
def r63 (s : List UInt8) (at_ : Int) : Tr (St ⊕ (Ex × St)) := Tr.br (decide (at_ < (↑(List.length s) : Int))) (Tr.br (decide ((0 : Int) ≤ at_)) (Tr.br (decide (at_ < (↑(List.length s) : Int))) (Tr.ret (Sum.inl (stOf [0, 3] [AV.str s, AV.int IntKind.i64 (IntKind.wrap IntKind.i64 (at_ + IntKind.wrap IntKind.i64 ((1 : Int) + IntKind.wrap IntKind.i64 (↑(UInt8.toNat (List.getD s (Int.toNat at_) 0)) : Int))))] []))) Tr.no) Tr.no) (Tr.ret (Sum.inr (Ex.exit 0, stOf [0, 3] [AV.str s, AV.int IntKind.i64 at_] [])))
set_option maxRecDepth 1000000 in
theorem round63 (orc : Orc) (lp : Lp) (s : List UInt8) (at_ : Int) : evC T0 orc lp b63 0 (stOf [0, 3] [.str s, .int .i64 at_] []) (roundK [0, 3] [0, 3] 0) = (r63 s at_).get := by kernel_rfl
theorem wf63 (orc : Orc) (s : List UInt8) (I'' : Int → Prop) (m'' : Int → Nat) (r'' : Ex × St) (h : ∀ (at_ : Int), I'' at_ → (r63 s at_).all fun x'' => x'' = .inr r'' ∨ ∃ (at_' : Int), x'' = .inl (stOf [0, 3] [.str s, .int .i64 at_'] []) ∧ I'' at_' ∧ m'' at_' < m'' at_) (lp : Lp) (at_ : Int) : I'' at_ →
    loopF (fun st => evC T0 orc lp b63 0 st (roundK [0, 3] [0, 3] 0)) (stOf [0, 3] [.str s, .int .i64 at_] []) = some r'' :=
  loop_tr (fun a'' : Int => stOf [0, 3] [.str s, .int .i64 a''] []) (fun a'' => I'' a'') (fun a'' => m'' a'') r'' (fun a'' => r63 s a'')
    (fun a'' x hx => (round63 orc lp s a'').trans hx) (fun a'' ha => Tr.all_mono (fun x'' hx => hx.imp id fun ⟨at_', h1, h2, h3⟩ => ⟨(at_'), h1, h2, h3⟩) (h (a'') ha)) (at_)
theorem loop63 (orc : Orc) : ls63.Ok T0 orc h63 0 0 b63 := by
  intro q'' hq'' x'' y'' r'' h
  obtain ⟨(s : List UInt8), (at_ : Int), _⟩ := x''
  obtain ⟨hc, rfl⟩ := Tr.get_on h
  show loopF (fun st => evC T0 orc (lpN T0 orc h63 0 q'') b63 0 st (roundK [0, 3] [0, 3] 0)) (stOf [0, 3] [.str s, .int .i64 at_] []) = some (.exit 0, stOf [0, 3] ([.str s, .int .i64 (txAt s 0)]) ([]))
  simp only [Bool.and_eq_true, decide_eq_true_eq] at hc
  obtain ⟨hb, rfl⟩ := hc
  refine wf63 _ s (fun a => 0 ≤ a ∧ txAt s a.toNat = txAt s 0) (fun a => (s.length - a).toNat) _ ?_ _ 0 ⟨by omega, rfl⟩
  rintro a ⟨h1, h2⟩
  have hB : s.length ≤ 1000000000000 := by simpa [bigS] using hb
  have hto : ((a.toNat : Nat) : Int) = a := Int.toNat_of_nonneg h1
  unfold r63
  rw [← h2, txAt.eq_1 s a.toNat]
  by_cases hk : a.toNat < s.length
  · have hb0 : (↑(UInt8.toNat (List.getD s (Int.toNat a) 0)) : Int) = (byN s a.toNat : Int) := rfl
    have hbl : byN s a.toNat < 256 := (s.getD a.toNat 0).toNat_lt
    rw [hb0]
    simp (disch := omega) only [IntWalk.i64_in]
    refine Tr.all_t (dec_true (by omega)) (Tr.all_t (dec_true h1) (Tr.all_t (dec_true (by omega)) (Tr.all_ret (.inr ⟨_, rfl, ⟨by omega, ?_⟩, by omega⟩))))
    rw [dif_pos hk]
    congr 1
    omega
  · rw [dif_neg hk, hto]
    exact Tr.all_f (dec_false (by omega)) (Tr.all_ret (.inl rfl))
/-- rdata.whole -/
def t62 (s : List UInt8) : Tr Res := Tr.br (bigS s && decide ((0 : Int) = (0 : Ty.den (Ty.int IntKind.i64)))) (Tr.br (decide ((↑(whAt s 0) : Int) ≥ (↑(List.length s) : Int))) (Tr.ret ([AV.int IntKind.i64 (0 : Int)], [])) (Tr.br (decide ((0 : Int) ≤ IntKind.wrap IntKind.i64 ((↑(whAt s 0) : Int) + (1 : Int))) && decide (IntKind.wrap IntKind.i64 ((↑(whAt s 0) : Int) + (1 : Int)) ≤ (↑(List.length s) : Int))) (Tr.br (decide ((0 : Int) ≤ (0 : Int)) && decide ((0 : Int) ≤ IntKind.wrap IntKind.i64 ((↑(whAt s 0) : Int) + (1 : Int)))) (Tr.br (bigS (List.take (Int.toNat (IntKind.wrap IntKind.i64 ((↑(whAt s 0) : Int) + (1 : Int))) - Int.toNat (0 : Int)) (List.drop (Int.toNat (0 : Int)) s))) (Tr.br (!mayV (List.take (Int.toNat (IntKind.wrap IntKind.i64 ((↑(whAt s 0) : Int) + (1 : Int))) - Int.toNat (0 : Int)) (List.drop (Int.toNat (0 : Int)) s))) (Tr.ret ([AV.int IntKind.i64 (0 : Int)], [])) (Tr.ret ([AV.int IntKind.i64 (IntKind.wrap IntKind.i64 ((↑(whAt s 0) : Int) + (1 : Int)))], []))) Tr.no) Tr.no) Tr.no)) Tr.no
def os62 : OSpec := { f := 62, sh := [.d .str false], so := [], F := fun (s, _) _ => t62 s }
set_option maxRecDepth 1000000 in
theorem fn62 (s : List UInt8) : evC T0 (orcB [fs29w] []) (lpOf h62 0 (lsOf [ls62])) c62 1000000 (startSt [.str s] [] Try.f62.ntmps) (finishK T0 false 0 Try.f62) = (t62 s).get := by kernel_rfl
theorem ok62 : os62.Ok Try.prog := by
  refine os_ok mixed0 tab0 (orcB_sound (all_cons okf29w all_nil) all_nil) h62 (d := 0) (n0 := 0) (S := lsOf [ls62]) Try.func62 (by kernel_rfl) (c := c62) (by kernel_rfl) rfl (loops_eq (xs := [(0, b62)]) (by kernel_rfl) (all_cons (ls_here (loop62 _)) all_nil)) (by omega) (by kernel_rfl) ?_
  intro x'' y'' q'' hq''
  obtain ⟨(s : List UInt8), _⟩ := x''
  exact (fn62 s).trans hq''
def fs62 : FSpec := fsT 62 [(.str, false)] [((.int .i64), false)] fun (s, _) => t62 s
theorem okf62 : fs62.Ok Try.prog := fsT_ok fun x'' r'' hr'' => ok62 x'' () r'' hr''
def fs62w : FSpec := fs62.like fun (s, _) => .on (bigS s) ((wholeV s : Int), ())
theorem okf62w : fs62w.Ok Try.prog := by
  refine flike_ok okf62 _ ?_
  rintro ⟨(s : List UInt8), _⟩ y h
  obtain ⟨hb, rfl⟩ := Tr.get_on h
  refine convR_of (vs := [.int .i64 (wholeV s)]) rfl rfl (Tr.get_of_all ?_)
  show (t62 s).all _
  unfold t62 wholeV
  have hB : s.length ≤ 1000000000000 := by simpa [bigS] using hb
  refine Tr.all_t (by rw [hb]; rfl) ?_
  by_cases hk : whAt s 0 < s.length
  · have hw : IntKind.wrap IntKind.i64 ((whAt s 0 : Int) + 1) = (whAt s 0 : Int) + 1 := IntWalk.i64_in _ (by omega)
    have hs : List.take (Int.toNat ((whAt s 0 : Int) + 1) - Int.toNat 0) (List.drop (Int.toNat 0) s) = s.take (whAt s 0 + 1) := by
      rw [show Int.toNat ((whAt s 0 : Int) + 1) - Int.toNat 0 = whAt s 0 + 1 by omega]; rfl
    rw [hw, hs]
    refine Tr.all_f (dec_false (by omega)) (Tr.all_t (by rw [dec_true (by omega), dec_true (by omega)]; rfl) (Tr.all_t (by rw [dec_true (by omega), dec_true (by omega)]; rfl) (Tr.all_t (by simp [bigS]; omega) (Tr.all_br (fun c1 => Tr.all_ret ?_) fun c1 => Tr.all_ret ?_))))
    · rw [Bool.not_eq_true'] at c1
      rw [if_neg (by rw [c1]; simp)]
      rfl
    · rw [Bool.not_eq_false'] at c1
      rw [if_pos ⟨hk, c1⟩]
      rfl
  · rw [if_neg (fun h => hk h.1)]
    exact Tr.all_t (dec_true (by omega)) (Tr.all_ret rfl)
/-- rdata.strings -/
def t63 (s : List UInt8) : Tr Res := Tr.br (bigS s && decide ((0 : Int) = (0 : Ty.den (Ty.int IntKind.i64)))) (Tr.br (!s == []) (Tr.ret ([AV.bool ((↑(txAt s 0) : Int) == (↑(List.length s) : Int))], [])) (Tr.ret ([AV.bool false], []))) Tr.no
def os63 : OSpec := { f := 63, sh := [.d .str false], so := [], F := fun (s, _) _ => t63 s }
set_option maxRecDepth 1000000 in
theorem fn63 (s : List UInt8) : evC T0 (orcB [] []) (lpOf h63 0 (lsOf [ls63])) c63 1000000 (startSt [.str s] [] Try.f63.ntmps) (finishK T0 false 0 Try.f63) = (t63 s).get := by kernel_rfl
theorem ok63 : os63.Ok Try.prog := by
  refine os_ok mixed0 tab0 (orcB_sound all_nil all_nil) h63 (d := 0) (n0 := 0) (S := lsOf [ls63]) Try.func63 (by kernel_rfl) (c := c63) (by kernel_rfl) rfl (loops_eq (xs := [(0, b63)]) (by kernel_rfl) (all_cons (ls_here (loop63 _)) all_nil)) (by omega) (by kernel_rfl) ?_
  intro x'' y'' q'' hq''
  obtain ⟨(s : List UInt8), _⟩ := x''
  exact (fn63 s).trans hq''
def fs63 : FSpec := fsT 63 [(.str, false)] [(.bool, false)] fun (s, _) => t63 s
theorem okf63 : fs63.Ok Try.prog := fsT_ok fun x'' r'' hr'' => ok63 x'' () r'' hr''
def fs63w : FSpec := fs63.like fun (s, _) => .on (bigS s) (textsV s, ())
theorem okf63w : fs63w.Ok Try.prog := by
  refine flike_ok okf63 _ ?_
  rintro ⟨(s : List UInt8), _⟩ y h
  obtain ⟨hb, rfl⟩ := Tr.get_on h
  refine convR_of (vs := [.bool (textsV s)]) rfl rfl (Tr.get_of_all ?_)
  show (t63 s).all _
  unfold t63 textsV
  refine Tr.all_t (by rw [hb]; rfl) (Tr.all_br (fun c1 => Tr.all_ret ?_) fun c1 => Tr.all_ret ?_)
  · have : s.isEmpty = false := by cases s with | nil => cases c1 | cons _ _ => rfl
    rw [this]
    congr 3
    rw [Bool.eq_iff_iff]
    simp
    omega
  · have : s.isEmpty = true := by cases s with | nil => rfl | cons _ _ => cases c1
    rw [this]
    rfl
def fs40w : FSpec := fs40.like fun (k, _) => .ret (layV k, ())
theorem okf40w : fs40w.Ok Try.prog := by
  refine flike_ok okf40 _ ?_
  rintro ⟨(k : Int), _⟩ y h
  cases h
  refine convR_of (vs := [.list (.int .i64) (layV k)]) rfl rfl (Tr.get_of_all ?_)
  show (t40 k).all _
  by_cases h1 : k = 1
  · subst h1; exact Tr.all_f rfl (Tr.all_ret rfl)
  by_cases h2 : k = 28
  · subst h2; exact Tr.all_f rfl (Tr.all_ret rfl)
  by_cases h3 : k = 2
  · subst h3; exact Tr.all_f rfl (Tr.all_ret rfl)
  by_cases h4 : k = 5
  · subst h4; exact Tr.all_f rfl (Tr.all_ret rfl)
  by_cases h5 : k = 12
  · subst h5; exact Tr.all_f rfl (Tr.all_ret rfl)
  by_cases h6 : k = 15
  · subst h6; exact Tr.all_f rfl (Tr.all_ret rfl)
  by_cases h7 : k = 6
  · subst h7; exact Tr.all_f rfl (Tr.all_ret rfl)
  by_cases h8 : k = 16
  · subst h8; exact Tr.all_f rfl (Tr.all_ret rfl)
  refine Tr.all_t ?_ (Tr.all_ret ?_)
  · simp [hasM, lookM, Ty.keq, h1, h2, h3, h4, h5, h6, h7, h8]
  · simp [layV, h1, h2, h3, h4, h5, h6, h7, h8]
noncomputable def b39 : Code := nthLoop c39 0
def ls39 : LoopSpec := { bid := 0, sh := [.d .str false, .row 0, .d (.list (.int .i64)) false, .d (.int .i64) false, .d (.int .i64) false], so := [.row .str], F := fun (d, ps, n, i, _) (l, _) => .on2 (cutC d ps n i l) ((cutS ps d l).1) (.exit 0, [.str (cutS ps d l).2.1, .dead, .dead, .rowA 0], [.row .str (cutS ps d l).2.2]) (.ret, [.str (cutS ps d l).2.1, .rowA 0, .bool false, .rowA 1], [.row .str [], .row .str (cutS ps d l).2.2]) }
def r39 (d : List UInt8) (ps : List Int) (n : Int) (i : Int) (l : List (List UInt8)) : Tr (St ⊕ (Ex × St)) := Tr.br (decide (i < n)) (Tr.br (decide ((0 : Int) ≤ i)) (Tr.br (decide (i < (↑(List.length ps) : Int))) (Tr.br (List.getD ps (Int.toNat i) (Ty.dflt (Ty.int IntKind.i64)) == (-1 : Int)) (Tr.br (bigS d) (Tr.br (decide ((↑(wholeV d) : Int) > (↑(List.length d) : Int))) (Tr.ret (Sum.inr (Ex.ret, stOf [1, 4, 5, 6] [AV.str d, AV.rowA 0, AV.bool false, AV.rowA 1] [LObj.row Ty.str [], LObj.row Ty.str l]))) (Tr.br (List.getD ps (Int.toNat i) (Ty.dflt (Ty.int IntKind.i64)) == (-1 : Int)) (Tr.br ((↑(wholeV d) : Int) == (0 : Int)) (Tr.ret (Sum.inr (Ex.ret, stOf [1, 4, 5, 6] [AV.str d, AV.rowA 0, AV.bool false, AV.rowA 1] [LObj.row Ty.str [], LObj.row Ty.str l]))) (Tr.br (decide ((0 : Int) ≤ (↑(wholeV d) : Int)) && decide ((↑(wholeV d) : Int) ≤ (↑(List.length d) : Int))) (Tr.br (fits (List.length l + 1) 16) (Tr.br (decide ((0 : Int) ≤ (↑(List.length d) : Int)) && decide ((↑(List.length d) : Int) ≤ (↑(List.length d) : Int))) (Tr.br (decide ((0 : Int) ≤ (↑(wholeV d) : Int)) && decide ((↑(wholeV d) : Int) ≤ (↑(List.length d) : Int))) (Tr.ret (Sum.inl (stOf [1, 6, 11, 12, 13] [AV.str (List.take (Int.toNat (↑(List.length d) : Int) - Int.toNat (↑(wholeV d) : Int)) (List.drop (Int.toNat (↑(wholeV d) : Int)) d)), AV.rowA 0, AV.list (Ty.int IntKind.i64) ps, AV.int IntKind.i64 n, AV.int IntKind.i64 (IntKind.wrap IntKind.i64 (i + (1 : Int)))] [LObj.row Ty.str (l ++ [List.take (Int.toNat (↑(wholeV d) : Int) - Int.toNat (0 : Int)) (List.drop (Int.toNat (0 : Int)) d)])]))) Tr.no) Tr.no) Tr.no) Tr.no)) (Tr.br (decide ((0 : Int) ≤ (↑(wholeV d) : Int)) && decide ((↑(wholeV d) : Int) ≤ (↑(List.length d) : Int))) (Tr.br (fits (List.length l + 1) 16) (Tr.br (decide ((0 : Int) ≤ (↑(List.length d) : Int)) && decide ((↑(List.length d) : Int) ≤ (↑(List.length d) : Int))) (Tr.br (decide ((0 : Int) ≤ (↑(wholeV d) : Int)) && decide ((↑(wholeV d) : Int) ≤ (↑(List.length d) : Int))) (Tr.ret (Sum.inl (stOf [1, 6, 11, 12, 13] [AV.str (List.take (Int.toNat (↑(List.length d) : Int) - Int.toNat (↑(wholeV d) : Int)) (List.drop (Int.toNat (↑(wholeV d) : Int)) d)), AV.rowA 0, AV.list (Ty.int IntKind.i64) ps, AV.int IntKind.i64 n, AV.int IntKind.i64 (IntKind.wrap IntKind.i64 (i + (1 : Int)))] [LObj.row Ty.str (l ++ [List.take (Int.toNat (↑(wholeV d) : Int) - Int.toNat (0 : Int)) (List.drop (Int.toNat (0 : Int)) d)])]))) Tr.no) Tr.no) Tr.no) Tr.no))) Tr.no) (Tr.br (List.getD ps (Int.toNat i) (Ty.dflt (Ty.int IntKind.i64)) == (-2 : Int)) (Tr.br (bigS d) (Tr.br (textsV d) (Tr.br (decide ((↑(List.length d) : Int) > (↑(List.length d) : Int))) (Tr.ret (Sum.inr (Ex.ret, stOf [1, 4, 5, 6] [AV.str d, AV.rowA 0, AV.bool false, AV.rowA 1] [LObj.row Ty.str [], LObj.row Ty.str l]))) (Tr.br (List.getD ps (Int.toNat i) (Ty.dflt (Ty.int IntKind.i64)) == (-1 : Int)) (Tr.br ((↑(List.length d) : Int) == (0 : Int)) (Tr.ret (Sum.inr (Ex.ret, stOf [1, 4, 5, 6] [AV.str d, AV.rowA 0, AV.bool false, AV.rowA 1] [LObj.row Ty.str [], LObj.row Ty.str l]))) (Tr.br (decide ((0 : Int) ≤ (↑(List.length d) : Int)) && decide ((↑(List.length d) : Int) ≤ (↑(List.length d) : Int))) (Tr.br (fits (List.length l + 1) 16) (Tr.br (decide ((0 : Int) ≤ (↑(List.length d) : Int)) && decide ((↑(List.length d) : Int) ≤ (↑(List.length d) : Int))) (Tr.br (decide ((0 : Int) ≤ (↑(List.length d) : Int)) && decide ((↑(List.length d) : Int) ≤ (↑(List.length d) : Int))) (Tr.ret (Sum.inl (stOf [1, 6, 11, 12, 13] [AV.str (List.take (Int.toNat (↑(List.length d) : Int) - Int.toNat (↑(List.length d) : Int)) (List.drop (Int.toNat (↑(List.length d) : Int)) d)), AV.rowA 0, AV.list (Ty.int IntKind.i64) ps, AV.int IntKind.i64 n, AV.int IntKind.i64 (IntKind.wrap IntKind.i64 (i + (1 : Int)))] [LObj.row Ty.str (l ++ [List.take (Int.toNat (↑(List.length d) : Int) - Int.toNat (0 : Int)) (List.drop (Int.toNat (0 : Int)) d)])]))) Tr.no) Tr.no) Tr.no) Tr.no)) (Tr.br (decide ((0 : Int) ≤ (↑(List.length d) : Int)) && decide ((↑(List.length d) : Int) ≤ (↑(List.length d) : Int))) (Tr.br (fits (List.length l + 1) 16) (Tr.br (decide ((0 : Int) ≤ (↑(List.length d) : Int)) && decide ((↑(List.length d) : Int) ≤ (↑(List.length d) : Int))) (Tr.br (decide ((0 : Int) ≤ (↑(List.length d) : Int)) && decide ((↑(List.length d) : Int) ≤ (↑(List.length d) : Int))) (Tr.ret (Sum.inl (stOf [1, 6, 11, 12, 13] [AV.str (List.take (Int.toNat (↑(List.length d) : Int) - Int.toNat (↑(List.length d) : Int)) (List.drop (Int.toNat (↑(List.length d) : Int)) d)), AV.rowA 0, AV.list (Ty.int IntKind.i64) ps, AV.int IntKind.i64 n, AV.int IntKind.i64 (IntKind.wrap IntKind.i64 (i + (1 : Int)))] [LObj.row Ty.str (l ++ [List.take (Int.toNat (↑(List.length d) : Int) - Int.toNat (0 : Int)) (List.drop (Int.toNat (0 : Int)) d)])]))) Tr.no) Tr.no) Tr.no) Tr.no))) (Tr.br (List.getD ps (Int.toNat i) (Ty.dflt (Ty.int IntKind.i64)) == (-3 : Int)) (Tr.br (decide ((↑(List.length d) : Int) > (↑(List.length d) : Int))) (Tr.ret (Sum.inr (Ex.ret, stOf [1, 4, 5, 6] [AV.str d, AV.rowA 0, AV.bool false, AV.rowA 1] [LObj.row Ty.str [], LObj.row Ty.str l]))) (Tr.br (List.getD ps (Int.toNat i) (Ty.dflt (Ty.int IntKind.i64)) == (-1 : Int)) (Tr.br ((↑(List.length d) : Int) == (0 : Int)) (Tr.ret (Sum.inr (Ex.ret, stOf [1, 4, 5, 6] [AV.str d, AV.rowA 0, AV.bool false, AV.rowA 1] [LObj.row Ty.str [], LObj.row Ty.str l]))) (Tr.br (decide ((0 : Int) ≤ (↑(List.length d) : Int)) && decide ((↑(List.length d) : Int) ≤ (↑(List.length d) : Int))) (Tr.br (fits (List.length l + 1) 16) (Tr.br (decide ((0 : Int) ≤ (↑(List.length d) : Int)) && decide ((↑(List.length d) : Int) ≤ (↑(List.length d) : Int))) (Tr.br (decide ((0 : Int) ≤ (↑(List.length d) : Int)) && decide ((↑(List.length d) : Int) ≤ (↑(List.length d) : Int))) (Tr.ret (Sum.inl (stOf [1, 6, 11, 12, 13] [AV.str (List.take (Int.toNat (↑(List.length d) : Int) - Int.toNat (↑(List.length d) : Int)) (List.drop (Int.toNat (↑(List.length d) : Int)) d)), AV.rowA 0, AV.list (Ty.int IntKind.i64) ps, AV.int IntKind.i64 n, AV.int IntKind.i64 (IntKind.wrap IntKind.i64 (i + (1 : Int)))] [LObj.row Ty.str (l ++ [List.take (Int.toNat (↑(List.length d) : Int) - Int.toNat (0 : Int)) (List.drop (Int.toNat (0 : Int)) d)])]))) Tr.no) Tr.no) Tr.no) Tr.no)) (Tr.br (decide ((0 : Int) ≤ (↑(List.length d) : Int)) && decide ((↑(List.length d) : Int) ≤ (↑(List.length d) : Int))) (Tr.br (fits (List.length l + 1) 16) (Tr.br (decide ((0 : Int) ≤ (↑(List.length d) : Int)) && decide ((↑(List.length d) : Int) ≤ (↑(List.length d) : Int))) (Tr.br (decide ((0 : Int) ≤ (↑(List.length d) : Int)) && decide ((↑(List.length d) : Int) ≤ (↑(List.length d) : Int))) (Tr.ret (Sum.inl (stOf [1, 6, 11, 12, 13] [AV.str (List.take (Int.toNat (↑(List.length d) : Int) - Int.toNat (↑(List.length d) : Int)) (List.drop (Int.toNat (↑(List.length d) : Int)) d)), AV.rowA 0, AV.list (Ty.int IntKind.i64) ps, AV.int IntKind.i64 n, AV.int IntKind.i64 (IntKind.wrap IntKind.i64 (i + (1 : Int)))] [LObj.row Ty.str (l ++ [List.take (Int.toNat (↑(List.length d) : Int) - Int.toNat (0 : Int)) (List.drop (Int.toNat (0 : Int)) d)])]))) Tr.no) Tr.no) Tr.no) Tr.no))) (Tr.br (decide (List.getD ps (Int.toNat i) (Ty.dflt (Ty.int IntKind.i64)) < (0 : Int))) (Tr.ret (Sum.inr (Ex.ret, stOf [1, 4, 5, 6] [AV.str d, AV.rowA 0, AV.bool false, AV.rowA 1] [LObj.row Ty.str [], LObj.row Ty.str l]))) (Tr.br (decide (List.getD ps (Int.toNat i) (Ty.dflt (Ty.int IntKind.i64)) > (↑(List.length d) : Int))) (Tr.ret (Sum.inr (Ex.ret, stOf [1, 4, 5, 6] [AV.str d, AV.rowA 0, AV.bool false, AV.rowA 1] [LObj.row Ty.str [], LObj.row Ty.str l]))) (Tr.br (List.getD ps (Int.toNat i) (Ty.dflt (Ty.int IntKind.i64)) == (-1 : Int)) (Tr.br (List.getD ps (Int.toNat i) (Ty.dflt (Ty.int IntKind.i64)) == (0 : Int)) (Tr.ret (Sum.inr (Ex.ret, stOf [1, 4, 5, 6] [AV.str d, AV.rowA 0, AV.bool false, AV.rowA 1] [LObj.row Ty.str [], LObj.row Ty.str l]))) (Tr.br (decide ((0 : Int) ≤ List.getD ps (Int.toNat i) (Ty.dflt (Ty.int IntKind.i64))) && decide (List.getD ps (Int.toNat i) (Ty.dflt (Ty.int IntKind.i64)) ≤ (↑(List.length d) : Int))) (Tr.br (decide ((0 : Int) ≤ (0 : Int)) && decide ((0 : Int) ≤ List.getD ps (Int.toNat i) (Ty.dflt (Ty.int IntKind.i64)))) (Tr.br (fits (List.length l + 1) 16) (Tr.br (decide ((0 : Int) ≤ (↑(List.length d) : Int)) && decide ((↑(List.length d) : Int) ≤ (↑(List.length d) : Int))) (Tr.br (decide ((0 : Int) ≤ List.getD ps (Int.toNat i) (Ty.dflt (Ty.int IntKind.i64))) && decide (List.getD ps (Int.toNat i) (Ty.dflt (Ty.int IntKind.i64)) ≤ (↑(List.length d) : Int))) (Tr.ret (Sum.inl (stOf [1, 6, 11, 12, 13] [AV.str (List.take (Int.toNat (↑(List.length d) : Int) - Int.toNat (List.getD ps (Int.toNat i) (Ty.dflt (Ty.int IntKind.i64)))) (List.drop (Int.toNat (List.getD ps (Int.toNat i) (Ty.dflt (Ty.int IntKind.i64)))) d)), AV.rowA 0, AV.list (Ty.int IntKind.i64) ps, AV.int IntKind.i64 n, AV.int IntKind.i64 (IntKind.wrap IntKind.i64 (i + (1 : Int)))] [LObj.row Ty.str (l ++ [List.take (Int.toNat (List.getD ps (Int.toNat i) (Ty.dflt (Ty.int IntKind.i64))) - Int.toNat (0 : Int)) (List.drop (Int.toNat (0 : Int)) d)])]))) Tr.no) Tr.no) Tr.no) Tr.no) Tr.no)) (Tr.br (decide ((0 : Int) ≤ List.getD ps (Int.toNat i) (Ty.dflt (Ty.int IntKind.i64))) && decide (List.getD ps (Int.toNat i) (Ty.dflt (Ty.int IntKind.i64)) ≤ (↑(List.length d) : Int))) (Tr.br (decide ((0 : Int) ≤ (0 : Int)) && decide ((0 : Int) ≤ List.getD ps (Int.toNat i) (Ty.dflt (Ty.int IntKind.i64)))) (Tr.br (fits (List.length l + 1) 16) (Tr.br (decide ((0 : Int) ≤ (↑(List.length d) : Int)) && decide ((↑(List.length d) : Int) ≤ (↑(List.length d) : Int))) (Tr.br (decide ((0 : Int) ≤ List.getD ps (Int.toNat i) (Ty.dflt (Ty.int IntKind.i64))) && decide (List.getD ps (Int.toNat i) (Ty.dflt (Ty.int IntKind.i64)) ≤ (↑(List.length d) : Int))) (Tr.ret (Sum.inl (stOf [1, 6, 11, 12, 13] [AV.str (List.take (Int.toNat (↑(List.length d) : Int) - Int.toNat (List.getD ps (Int.toNat i) (Ty.dflt (Ty.int IntKind.i64)))) (List.drop (Int.toNat (List.getD ps (Int.toNat i) (Ty.dflt (Ty.int IntKind.i64)))) d)), AV.rowA 0, AV.list (Ty.int IntKind.i64) ps, AV.int IntKind.i64 n, AV.int IntKind.i64 (IntKind.wrap IntKind.i64 (i + (1 : Int)))] [LObj.row Ty.str (l ++ [List.take (Int.toNat (List.getD ps (Int.toNat i) (Ty.dflt (Ty.int IntKind.i64))) - Int.toNat (0 : Int)) (List.drop (Int.toNat (0 : Int)) d)])]))) Tr.no) Tr.no) Tr.no) Tr.no) Tr.no)))))) Tr.no) (Tr.br (List.getD ps (Int.toNat i) (Ty.dflt (Ty.int IntKind.i64)) == (-3 : Int)) (Tr.br (decide ((↑(List.length d) : Int) > (↑(List.length d) : Int))) (Tr.ret (Sum.inr (Ex.ret, stOf [1, 4, 5, 6] [AV.str d, AV.rowA 0, AV.bool false, AV.rowA 1] [LObj.row Ty.str [], LObj.row Ty.str l]))) (Tr.br (List.getD ps (Int.toNat i) (Ty.dflt (Ty.int IntKind.i64)) == (-1 : Int)) (Tr.br ((↑(List.length d) : Int) == (0 : Int)) (Tr.ret (Sum.inr (Ex.ret, stOf [1, 4, 5, 6] [AV.str d, AV.rowA 0, AV.bool false, AV.rowA 1] [LObj.row Ty.str [], LObj.row Ty.str l]))) (Tr.br (decide ((0 : Int) ≤ (↑(List.length d) : Int)) && decide ((↑(List.length d) : Int) ≤ (↑(List.length d) : Int))) (Tr.br (fits (List.length l + 1) 16) (Tr.br (decide ((0 : Int) ≤ (↑(List.length d) : Int)) && decide ((↑(List.length d) : Int) ≤ (↑(List.length d) : Int))) (Tr.br (decide ((0 : Int) ≤ (↑(List.length d) : Int)) && decide ((↑(List.length d) : Int) ≤ (↑(List.length d) : Int))) (Tr.ret (Sum.inl (stOf [1, 6, 11, 12, 13] [AV.str (List.take (Int.toNat (↑(List.length d) : Int) - Int.toNat (↑(List.length d) : Int)) (List.drop (Int.toNat (↑(List.length d) : Int)) d)), AV.rowA 0, AV.list (Ty.int IntKind.i64) ps, AV.int IntKind.i64 n, AV.int IntKind.i64 (IntKind.wrap IntKind.i64 (i + (1 : Int)))] [LObj.row Ty.str (l ++ [List.take (Int.toNat (↑(List.length d) : Int) - Int.toNat (0 : Int)) (List.drop (Int.toNat (0 : Int)) d)])]))) Tr.no) Tr.no) Tr.no) Tr.no)) (Tr.br (decide ((0 : Int) ≤ (↑(List.length d) : Int)) && decide ((↑(List.length d) : Int) ≤ (↑(List.length d) : Int))) (Tr.br (fits (List.length l + 1) 16) (Tr.br (decide ((0 : Int) ≤ (↑(List.length d) : Int)) && decide ((↑(List.length d) : Int) ≤ (↑(List.length d) : Int))) (Tr.br (decide ((0 : Int) ≤ (↑(List.length d) : Int)) && decide ((↑(List.length d) : Int) ≤ (↑(List.length d) : Int))) (Tr.ret (Sum.inl (stOf [1, 6, 11, 12, 13] [AV.str (List.take (Int.toNat (↑(List.length d) : Int) - Int.toNat (↑(List.length d) : Int)) (List.drop (Int.toNat (↑(List.length d) : Int)) d)), AV.rowA 0, AV.list (Ty.int IntKind.i64) ps, AV.int IntKind.i64 n, AV.int IntKind.i64 (IntKind.wrap IntKind.i64 (i + (1 : Int)))] [LObj.row Ty.str (l ++ [List.take (Int.toNat (↑(List.length d) : Int) - Int.toNat (0 : Int)) (List.drop (Int.toNat (0 : Int)) d)])]))) Tr.no) Tr.no) Tr.no) Tr.no))) (Tr.br (decide (List.getD ps (Int.toNat i) (Ty.dflt (Ty.int IntKind.i64)) < (0 : Int))) (Tr.ret (Sum.inr (Ex.ret, stOf [1, 4, 5, 6] [AV.str d, AV.rowA 0, AV.bool false, AV.rowA 1] [LObj.row Ty.str [], LObj.row Ty.str l]))) (Tr.br (decide (List.getD ps (Int.toNat i) (Ty.dflt (Ty.int IntKind.i64)) > (↑(List.length d) : Int))) (Tr.ret (Sum.inr (Ex.ret, stOf [1, 4, 5, 6] [AV.str d, AV.rowA 0, AV.bool false, AV.rowA 1] [LObj.row Ty.str [], LObj.row Ty.str l]))) (Tr.br (List.getD ps (Int.toNat i) (Ty.dflt (Ty.int IntKind.i64)) == (-1 : Int)) (Tr.br (List.getD ps (Int.toNat i) (Ty.dflt (Ty.int IntKind.i64)) == (0 : Int)) (Tr.ret (Sum.inr (Ex.ret, stOf [1, 4, 5, 6] [AV.str d, AV.rowA 0, AV.bool false, AV.rowA 1] [LObj.row Ty.str [], LObj.row Ty.str l]))) (Tr.br (decide ((0 : Int) ≤ List.getD ps (Int.toNat i) (Ty.dflt (Ty.int IntKind.i64))) && decide (List.getD ps (Int.toNat i) (Ty.dflt (Ty.int IntKind.i64)) ≤ (↑(List.length d) : Int))) (Tr.br (decide ((0 : Int) ≤ (0 : Int)) && decide ((0 : Int) ≤ List.getD ps (Int.toNat i) (Ty.dflt (Ty.int IntKind.i64)))) (Tr.br (fits (List.length l + 1) 16) (Tr.br (decide ((0 : Int) ≤ (↑(List.length d) : Int)) && decide ((↑(List.length d) : Int) ≤ (↑(List.length d) : Int))) (Tr.br (decide ((0 : Int) ≤ List.getD ps (Int.toNat i) (Ty.dflt (Ty.int IntKind.i64))) && decide (List.getD ps (Int.toNat i) (Ty.dflt (Ty.int IntKind.i64)) ≤ (↑(List.length d) : Int))) (Tr.ret (Sum.inl (stOf [1, 6, 11, 12, 13] [AV.str (List.take (Int.toNat (↑(List.length d) : Int) - Int.toNat (List.getD ps (Int.toNat i) (Ty.dflt (Ty.int IntKind.i64)))) (List.drop (Int.toNat (List.getD ps (Int.toNat i) (Ty.dflt (Ty.int IntKind.i64)))) d)), AV.rowA 0, AV.list (Ty.int IntKind.i64) ps, AV.int IntKind.i64 n, AV.int IntKind.i64 (IntKind.wrap IntKind.i64 (i + (1 : Int)))] [LObj.row Ty.str (l ++ [List.take (Int.toNat (List.getD ps (Int.toNat i) (Ty.dflt (Ty.int IntKind.i64))) - Int.toNat (0 : Int)) (List.drop (Int.toNat (0 : Int)) d)])]))) Tr.no) Tr.no) Tr.no) Tr.no) Tr.no)) (Tr.br (decide ((0 : Int) ≤ List.getD ps (Int.toNat i) (Ty.dflt (Ty.int IntKind.i64))) && decide (List.getD ps (Int.toNat i) (Ty.dflt (Ty.int IntKind.i64)) ≤ (↑(List.length d) : Int))) (Tr.br (decide ((0 : Int) ≤ (0 : Int)) && decide ((0 : Int) ≤ List.getD ps (Int.toNat i) (Ty.dflt (Ty.int IntKind.i64)))) (Tr.br (fits (List.length l + 1) 16) (Tr.br (decide ((0 : Int) ≤ (↑(List.length d) : Int)) && decide ((↑(List.length d) : Int) ≤ (↑(List.length d) : Int))) (Tr.br (decide ((0 : Int) ≤ List.getD ps (Int.toNat i) (Ty.dflt (Ty.int IntKind.i64))) && decide (List.getD ps (Int.toNat i) (Ty.dflt (Ty.int IntKind.i64)) ≤ (↑(List.length d) : Int))) (Tr.ret (Sum.inl (stOf [1, 6, 11, 12, 13] [AV.str (List.take (Int.toNat (↑(List.length d) : Int) - Int.toNat (List.getD ps (Int.toNat i) (Ty.dflt (Ty.int IntKind.i64)))) (List.drop (Int.toNat (List.getD ps (Int.toNat i) (Ty.dflt (Ty.int IntKind.i64)))) d)), AV.rowA 0, AV.list (Ty.int IntKind.i64) ps, AV.int IntKind.i64 n, AV.int IntKind.i64 (IntKind.wrap IntKind.i64 (i + (1 : Int)))] [LObj.row Ty.str (l ++ [List.take (Int.toNat (List.getD ps (Int.toNat i) (Ty.dflt (Ty.int IntKind.i64))) - Int.toNat (0 : Int)) (List.drop (Int.toNat (0 : Int)) d)])]))) Tr.no) Tr.no) Tr.no) Tr.no) Tr.no))))))) Tr.no) Tr.no) (Tr.ret (Sum.inr (Ex.exit 0, stOf [1, 4, 5, 6] [AV.str d, AV.dead, AV.dead, AV.rowA 0] [LObj.row Ty.str l])))
set_option maxRecDepth 1000000 in
theorem round39 (lp : Lp) (d : List UInt8) (ps : List Int) (n : Int) (i : Int) (l : List (List UInt8)) : evC T0 (orcB [fs40w, fs62w, fs63w] []) lp b39 0 (stOf [1, 6, 11, 12, 13] [.str d, .rowA 0, .list (.int .i64) ps, .int .i64 n, .int .i64 i] [.row .str l]) (roundK [1, 6, 11, 12, 13] [1, 4, 5, 6] 0) = (r39 d ps n i l).get := by kernel_rfl
theorem wf39 (ps : List Int) (n : Int) (I'' : List UInt8 → Int → List (List UInt8) → Prop) (m'' : List UInt8 → Int → List (List UInt8) → Nat) (r'' : Ex × St) (h : ∀ (d : List UInt8) (i : Int) (l : List (List UInt8)), I'' d i l → (r39 d ps n i l).all fun x'' => x'' = .inr r'' ∨ ∃ (d' : List UInt8) (i' : Int) (l' : List (List UInt8)), x'' = .inl (stOf [1, 6, 11, 12, 13] [.str d', .rowA 0, .list (.int .i64) ps, .int .i64 n, .int .i64 i'] [.row .str l']) ∧ I'' d' i' l' ∧ m'' d' i' l' < m'' d i l) (lp : Lp) (d : List UInt8) (i : Int) (l : List (List UInt8)) : I'' d i l →
    loopF (fun st => evC T0 (orcB [fs40w, fs62w, fs63w] []) lp b39 0 st (roundK [1, 6, 11, 12, 13] [1, 4, 5, 6] 0)) (stOf [1, 6, 11, 12, 13] [.str d, .rowA 0, .list (.int .i64) ps, .int .i64 n, .int .i64 i] [.row .str l]) = some r'' :=
  loop_tr (fun a'' : List UInt8 × Int × List (List UInt8) => stOf [1, 6, 11, 12, 13] [.str a''.1, .rowA 0, .list (.int .i64) ps, .int .i64 n, .int .i64 a''.2.1] [.row .str a''.2.2]) (fun a'' => I'' a''.1 a''.2.1 a''.2.2) (fun a'' => m'' a''.1 a''.2.1 a''.2.2) r'' (fun a'' => r39 a''.1 ps n a''.2.1 a''.2.2)
    (fun a'' x hx => (round39 lp a''.1 ps n a''.2.1 a''.2.2).trans hx) (fun a'' ha => Tr.all_mono (fun x'' hx => hx.imp id fun ⟨d', i', l', h1, h2, h3⟩ => ⟨(d', i', l'), h1, h2, h3⟩) (h (a''.1) (a''.2.1) (a''.2.2) ha)) (d, i, l)
def cutI (ps0 : List Int) (d0 : List UInt8) (l0 : List (List UInt8)) (d : List UInt8) (i : Int) (l : List (List UInt8)) : Prop := 0 ≤ i ∧ i ≤ ps0.length ∧ bigS d = true ∧ l.length = i.toNat ∧ cutS (ps0.drop i.toNat) d l = cutS ps0 d0 l0
theorem cut_cont {P : St ⊕ (Ex × St) → Prop} {d : List UInt8} {l : List (List UInt8)} {ps : List Int} {n i sz : Int} (h0 : 0 ≤ sz) (h1 : sz ≤ d.length) (hf : fits (l.length + 1) 16 = true)
    (hr : P (Sum.inl (stOf [1, 6, 11, 12, 13] [AV.str (d.drop sz.toNat), AV.rowA 0, AV.list (Ty.int IntKind.i64) ps, AV.int IntKind.i64 n, AV.int IntKind.i64 (IntKind.wrap IntKind.i64 (i + (1 : Int)))] [LObj.row Ty.str (l ++ [d.take sz.toNat])]))) :
    (Tr.br (decide ((0 : Int) ≤ sz) && decide (sz ≤ (↑(List.length d) : Int))) (Tr.br (fits (List.length l + 1) 16) (Tr.br (decide ((0 : Int) ≤ (↑(List.length d) : Int)) && decide ((↑(List.length d) : Int) ≤ (↑(List.length d) : Int))) (Tr.br (decide ((0 : Int) ≤ sz) && decide (sz ≤ (↑(List.length d) : Int)))
      (Tr.ret (Sum.inl (stOf [1, 6, 11, 12, 13] [AV.str (List.take (Int.toNat (↑(List.length d) : Int) - Int.toNat sz) (List.drop (Int.toNat sz) d)), AV.rowA 0, AV.list (Ty.int IntKind.i64) ps, AV.int IntKind.i64 n, AV.int IntKind.i64 (IntKind.wrap IntKind.i64 (i + (1 : Int)))] [LObj.row Ty.str (l ++ [List.take (Int.toNat sz - Int.toNat (0 : Int)) (List.drop (Int.toNat (0 : Int)) d)])]))) Tr.no) Tr.no) Tr.no) Tr.no).all P := by
  have e : List.take (Int.toNat (↑(List.length d) : Int) - Int.toNat sz) (List.drop (Int.toNat sz) d) = d.drop sz.toNat := List.take_of_length_le (by simp)
  have e2 : List.take (Int.toNat sz - Int.toNat (0 : Int)) (List.drop (Int.toNat (0 : Int)) d) = d.take sz.toNat := rfl
  rw [e, e2]
  refine Tr.all_t (by rw [dec_true h0, dec_true h1]; rfl) (Tr.all_t hf (Tr.all_t (by rw [dec_true (by omega), dec_true (by omega)]; rfl) (Tr.all_t (by rw [dec_true h0, dec_true h1]; rfl) (Tr.all_ret hr))))
theorem cut_contX {P : St ⊕ (Ex × St) → Prop} {d : List UInt8} {l : List (List UInt8)} {ps : List Int} {n i sz : Int} (h0 : 0 ≤ sz) (h1 : sz ≤ d.length) (hf : fits (l.length + 1) 16 = true)
    (hr : P (Sum.inl (stOf [1, 6, 11, 12, 13] [AV.str (d.drop sz.toNat), AV.rowA 0, AV.list (Ty.int IntKind.i64) ps, AV.int IntKind.i64 n, AV.int IntKind.i64 (IntKind.wrap IntKind.i64 (i + (1 : Int)))] [LObj.row Ty.str (l ++ [d.take sz.toNat])]))) :
    (Tr.br (decide ((0 : Int) ≤ sz) && decide (sz ≤ (↑(List.length d) : Int))) (Tr.br (decide ((0 : Int) ≤ (0 : Int)) && decide ((0 : Int) ≤ sz)) (Tr.br (fits (List.length l + 1) 16) (Tr.br (decide ((0 : Int) ≤ (↑(List.length d) : Int)) && decide ((↑(List.length d) : Int) ≤ (↑(List.length d) : Int))) (Tr.br (decide ((0 : Int) ≤ sz) && decide (sz ≤ (↑(List.length d) : Int)))
      (Tr.ret (Sum.inl (stOf [1, 6, 11, 12, 13] [AV.str (List.take (Int.toNat (↑(List.length d) : Int) - Int.toNat sz) (List.drop (Int.toNat sz) d)), AV.rowA 0, AV.list (Ty.int IntKind.i64) ps, AV.int IntKind.i64 n, AV.int IntKind.i64 (IntKind.wrap IntKind.i64 (i + (1 : Int)))] [LObj.row Ty.str (l ++ [List.take (Int.toNat sz - Int.toNat (0 : Int)) (List.drop (Int.toNat (0 : Int)) d)])]))) Tr.no) Tr.no) Tr.no) Tr.no) Tr.no).all P := by
  have e : List.take (Int.toNat (↑(List.length d) : Int) - Int.toNat sz) (List.drop (Int.toNat sz) d) = d.drop sz.toNat := List.take_of_length_le (by simp)
  have e2 : List.take (Int.toNat sz - Int.toNat (0 : Int)) (List.drop (Int.toNat (0 : Int)) d) = d.take sz.toNat := rfl
  rw [e, e2]
  refine Tr.all_t (by rw [dec_true h0, dec_true h1]; rfl) (Tr.all_t (by rw [dec_true h0]; rfl) (Tr.all_t hf (Tr.all_t (by rw [dec_true (by omega), dec_true (by omega)]; rfl) (Tr.all_t (by rw [dec_true h0, dec_true h1]; rfl) (Tr.all_ret hr)))))
theorem loop39 : ls39.Ok T0 (orcB [fs40w, fs62w, fs63w] []) h39 0 0 b39 := by
  intro q'' hq'' x'' y'' r'' h
  obtain ⟨(d : List UInt8), (ps : List Int), (n : Int), (i : Int), _⟩ := x''
  obtain ⟨(l : List (List UInt8)), _⟩ := y''
  obtain ⟨hc, rfl⟩ := Tr.get_on2 h
  show loopF (fun st => evC T0 (orcB [fs40w, fs62w, fs63w] []) (lpN T0 (orcB [fs40w, fs62w, fs63w] []) h39 0 q'') b39 0 st (roundK [1, 6, 11, 12, 13] [1, 4, 5, 6] 0)) (stOf [1, 6, 11, 12, 13] [.str d, .rowA 0, .list (.int .i64) ps, .int .i64 n, .int .i64 i] [.row .str l]) = some ((bif (cutS ps d l).1 then (.exit 0, [.str (cutS ps d l).2.1, .dead, .dead, .rowA 0], [.row .str (cutS ps d l).2.2]) else (.ret, [.str (cutS ps d l).2.1, .rowA 0, .bool false, .rowA 1], [.row .str [], .row .str (cutS ps d l).2.2]) : Ex × List AV × List LObj).1, stOf [1, 4, 5, 6] (bif (cutS ps d l).1 then (.exit 0, [.str (cutS ps d l).2.1, .dead, .dead, .rowA 0], [.row .str (cutS ps d l).2.2]) else (.ret, [.str (cutS ps d l).2.1, .rowA 0, .bool false, .rowA 1], [.row .str [], .row .str (cutS ps d l).2.2]) : Ex × List AV × List LObj).2.1 (bif (cutS ps d l).1 then (.exit 0, [.str (cutS ps d l).2.1, .dead, .dead, .rowA 0], [.row .str (cutS ps d l).2.2]) else (.ret, [.str (cutS ps d l).2.1, .rowA 0, .bool false, .rowA 1], [.row .str [], .row .str (cutS ps d l).2.2]) : Ex × List AV × List LObj).2.2)
  simp only [cutC, Bool.and_eq_true, decide_eq_true_eq, noS, List.isEmpty_iff] at hc
  obtain ⟨hb, rfl, rfl, rfl, hps⟩ := hc
  refine wf39 ps _ (cutI ps d []) (fun _ i _ => (ps.length - i).toNat) _ ?_ _ d 0 [] ⟨by omega, by omega, hb, rfl, rfl⟩
  clear hb
  rintro d' i l' ⟨h0, h1, hb, hl, hF⟩
  rw [← hF]
  have hB : d'.length ≤ 1000000000000 := by simpa [bigS] using hb
  unfold r39
  by_cases hi : i < ps.length
  · obtain ⟨d1, _⟩ := drop_getD (Ty.dflt (Ty.int IntKind.i64)) h0 hi
    generalize List.getD ps (Int.toNat i) (Ty.dflt (Ty.int IntKind.i64)) = x at d1
    rw [d1, cutS] at hF ⊢
    have hfit : fits (l'.length + 1) 16 = true := fits_true (by omega) (by omega)
    have hw : IntKind.wrap IntKind.i64 (i + 1) = i + 1 := IntWalk.i64_in _ (by omega)
    have nextI : ∀ sz, szP x d' = sz → okP x d' = true → cutI ps d [] (d'.drop sz.toNat) (IntKind.wrap IntKind.i64 (i + 1)) (l' ++ [d'.take sz.toNat]) ∧ (ps.length - IntKind.wrap IntKind.i64 (i + 1)).toNat < (ps.length - i).toNat := fun sz hs ho => by
      subst hs
      rw [hw]
      refine ⟨⟨by omega, by omega, by simp [bigS]; omega, by simp; omega, ?_⟩, by omega⟩
      rw [← hF, if_pos ho]
    have hwh := wholeV_le d'
    have hfail : okP x d' = false → (if okP x d' = true then cutS (List.drop (i + 1).toNat ps) (List.drop (szP x d').toNat d') (l' ++ [List.take (szP x d').toNat d']) else (false, d', l')) = (false, d', l') := fun h => if_neg (by rw [h]; simp)
    refine Tr.all_t (dec_true hi) (Tr.all_t (dec_true h0) (Tr.all_t (dec_true hi) ?_))
    by_cases x1 : x = -1
    · have es : szP x d' = (wholeV d' : Int) := by unfold szP; rw [if_pos x1]
      have eo : okP x d' = !decide ((wholeV d' : Int) = 0) := by
        unfold okP
        rw [es, dec_true (by omega), dec_true (by omega), dec_true x1]
        rfl
      refine Tr.all_t (beq_iff_eq.2 x1) (Tr.all_t hb (Tr.all_f (dec_false (by omega)) (Tr.all_t (beq_iff_eq.2 x1) (Tr.all_br (fun c => Tr.all_ret (.inl ?_)) fun c => cut_cont (by omega) (by omega) hfit (.inr ⟨_, _, _, rfl, nextI _ es ?_⟩)))))
      · rw [hfail (by rw [eo, dec_true (beq_iff_eq.1 c)]; rfl)]
        rfl
      · rw [eo, dec_false (beq_eq_false_iff_ne.1 c)]
        rfl
    have hx1 : (x == -1) = false := beq_eq_false_iff_ne.2 x1
    have other : ¬ (x = -2 ∧ textsV d' = true ∨ x = -3) → szP x d' = x ∧ okP x d' = (decide (0 ≤ x) && decide (x ≤ (d'.length : Int))) := fun h => by
      have es : szP x d' = x := by unfold szP; rw [if_neg x1, if_neg h]
      refine ⟨es, ?_⟩
      unfold okP
      rw [es, dec_false x1]
      simp
    have full : (x = -2 ∧ textsV d' = true ∨ x = -3) → szP x d' = (d'.length : Int) ∧ okP x d' = true := fun h => by
      have es : szP x d' = (d'.length : Int) := by unfold szP; rw [if_neg x1, if_pos h]
      refine ⟨es, ?_⟩
      unfold okP
      rw [es, dec_false x1]
      simp
    refine Tr.all_f hx1 (Tr.all_br (fun c2 => Tr.all_t hb (Tr.all_br (fun ct => ?_) fun ct => ?_)) fun c2 => ?_)
    · obtain ⟨es, eo⟩ := full (.inl ⟨beq_iff_eq.1 c2, ct⟩)
      exact Tr.all_f (dec_false (by omega)) (Tr.all_f hx1 (cut_cont (by omega) (by omega) hfit (.inr ⟨_, _, _, rfl, nextI _ es eo⟩)))
    · have hx2 := beq_iff_eq.1 c2
      obtain ⟨es, eo⟩ := other (by rw [ct]; simp; omega)
      refine Tr.all_f (beq_eq_false_iff_ne.2 (by omega)) (Tr.all_t (dec_true (by omega)) (Tr.all_ret (.inl ?_)))
      rw [hfail (by rw [eo, dec_false (by omega)]; rfl)]
      rfl
    · refine Tr.all_br (fun c3 => ?_) fun c3 => ?_
      · obtain ⟨es, eo⟩ := full (.inr (beq_iff_eq.1 c3))
        exact Tr.all_f (dec_false (by omega)) (Tr.all_f hx1 (cut_cont (by omega) (by omega) hfit (.inr ⟨_, _, _, rfl, nextI _ es eo⟩)))
      · have hx2 := beq_eq_false_iff_ne.1 c2
        have hx3 := beq_eq_false_iff_ne.1 c3
        obtain ⟨es, eo⟩ := other (by omega)
        refine Tr.all_br (fun c4 => Tr.all_ret (.inl ?_)) fun c4 => Tr.all_br (fun c5 => Tr.all_ret (.inl ?_)) fun c5 => ?_
        · simp only [decide_eq_true_eq] at c4
          rw [hfail (by rw [eo, dec_false (by omega)]; rfl)]
          rfl
        · simp only [decide_eq_true_eq] at c5
          rw [hfail (by rw [eo, dec_false (show ¬ x ≤ (d'.length : Int) by omega), Bool.and_false])]
          rfl
        · simp only [decide_eq_false_iff_not] at c4 c5
          exact Tr.all_f hx1 (cut_contX (by omega) (by omega) hfit (.inr ⟨_, _, _, rfl, nextI _ es (by rw [eo, dec_true (by omega), dec_true (by omega)]; rfl)⟩))
  · have : ps.drop i.toNat = [] := List.drop_eq_nil_of_le (by omega)
    rw [this]
    exact Tr.all_f (dec_false hi) (Tr.all_ret (.inl rfl))
/-- rdata.cut -/
def t39 (k : Int) (d : List UInt8) : Tr Res := Tr.br (cutC d (layV k) (↑(List.length (layV k)) : Int) (0 : Int) []) (Tr.br (Prod.fst (cutS (layV k) d [])) (Tr.ret ([AV.list Ty.str (Prod.snd (Prod.snd (cutS (layV k) d []))), AV.bool (Prod.fst (Prod.snd (cutS (layV k) d [])) == [])], [])) (Tr.ret ([AV.list Ty.str [], AV.bool false], []))) Tr.no
def os39 : OSpec := { f := 39, sh := [.d (.int .u16) false, .d .str false], so := [], F := fun (k, d, _) _ => t39 k d }
set_option maxRecDepth 1000000 in
theorem fn39 (k : Int) (d : List UInt8) : evC T0 (orcB [fs40w, fs62w, fs63w] []) (lpOf h39 0 (lsOf [ls39])) c39 1000000 (startSt [.int .u16 k, .str d] [] Try.f39.ntmps) (finishK T0 false 0 Try.f39) = (t39 k d).get := by kernel_rfl
theorem ok39 : os39.Ok Try.prog := by
  refine os_ok mixed0 tab0 (orcB_sound (all_cons okf40w (all_cons okf62w (all_cons okf63w all_nil))) all_nil) h39 (d := 0) (n0 := 0) (S := lsOf [ls39]) Try.func39 (by kernel_rfl) (c := c39) (by kernel_rfl) rfl (loops_eq (xs := [(0, b39)]) (by kernel_rfl) (all_cons (ls_here loop39) all_nil)) (by omega) (by kernel_rfl) ?_
  intro x'' y'' q'' hq''
  obtain ⟨(k : Int), (d : List UInt8), _⟩ := x''
  exact (fn39 k d).trans hq''
def fs39 : FSpec := fsT 39 [((.int .u16), false), (.str, false)] [((.list .str), false), (.bool, false)] fun (k, d, _) => t39 k d
theorem okf39 : fs39.Ok Try.prog := fsT_ok fun x'' r'' hr'' => ok39 x'' () r'' hr''
theorem layV_len (k : Int) : (layV k).length ≤ 10 := by
  unfold layV
  repeat' split
  all_goals simp
def fs39w : FSpec := fs39.like fun (k, d, _) => .on (bigS d) (bif okV k d then partsV k d else [], okV k d && (restV k d).isEmpty, ())
theorem okf39w : fs39w.Ok Try.prog := by
  refine flike_ok okf39 _ ?_
  rintro ⟨(k : Int), (d : List UInt8), _⟩ y h
  obtain ⟨hb, rfl⟩ := Tr.get_on h
  refine convR_of (vs := [.list .str (bif okV k d then partsV k d else []), .bool (okV k d && (restV k d).isEmpty)]) rfl rfl (Tr.get_of_all ?_)
  show (t39 k d).all _
  unfold t39 okV partsV restV
  have hl := layV_len k
  refine Tr.all_t (by simp [cutC, hb, noS, hl]) (Tr.all_br (fun c1 => Tr.all_ret ?_) fun c1 => Tr.all_ret ?_)
  · rw [c1]
    have : ((cutS (layV k) d []).2.1 == []) = (cutS (layV k) d []).2.1.isEmpty := by cases (cutS (layV k) d []).2.1 <;> rfl
    rw [this]
    rfl
  · rw [c1]
    rfl
/-- rdata.May -/
def t36 (k : Int) (d : List UInt8) : Tr Res := Tr.br (bigS d) (Tr.br (okV k d && List.isEmpty (restV k d)) (Tr.ret ([AV.bool (decide ((↑(List.length d) : Int) ≤ (65535 : Int)))], [])) (Tr.ret ([AV.bool false], []))) Tr.no
def os36 : OSpec := { f := 36, sh := [.d (.int .u16) false, .d .str false], so := [], F := fun (k, d, _) _ => t36 k d }
set_option maxRecDepth 1000000 in
theorem fn36 (k : Int) (d : List UInt8) : evC T0 (orcB [fs40w, fs39w] []) (lpOf h36 0 (lsOf [])) c36 1000000 (startSt [.int .u16 k, .str d] [] Try.f36.ntmps) (finishK T0 false 0 Try.f36) = (t36 k d).get := by kernel_rfl
theorem ok36 : os36.Ok Try.prog := by
  refine os_ok mixed0 tab0 (orcB_sound (all_cons okf40w (all_cons okf39w all_nil)) all_nil) h36 (d := 0) (n0 := 0) (S := lsOf []) Try.func36 (by kernel_rfl) (c := c36) (by kernel_rfl) rfl (no_loops (by kernel_rfl)) (by omega) (by kernel_rfl) ?_
  intro x'' y'' q'' hq''
  obtain ⟨(k : Int), (d : List UInt8), _⟩ := x''
  exact (fn36 k d).trans hq''
def fs36 : FSpec := fsT 36 [((.int .u16), false), (.str, false)] [(.bool, false)] fun (k, d, _) => t36 k d
theorem okf36 : fs36.Ok Try.prog := fsT_ok fun x'' r'' hr'' => ok36 x'' () r'' hr''
def fs36w : FSpec := fs36.like fun (k, d, _) => .on (bigS d) (mayR k d, ())
theorem okf36w : fs36w.Ok Try.prog := by
  refine flike_ok okf36 _ ?_
  rintro ⟨(k : Int), (d : List UInt8), _⟩ y h
  obtain ⟨hb, rfl⟩ := Tr.get_on h
  refine convR_of (vs := [.bool (mayR k d)]) rfl rfl (Tr.get_of_all ?_)
  show (t36 k d).all _
  unfold t36 mayR
  refine Tr.all_t hb (Tr.all_br (fun c1 => Tr.all_ret ?_) fun c1 => Tr.all_ret ?_)
  · rw [c1, ble_iff, Bool.true_and]
    congr 3
    rw [Bool.eq_iff_iff]
    simp
    omega
  · rw [c1]
    rfl
end Go.Proofs.YtfepkpindchleaaE

/- WireName. -/
namespace Go.Proofs.YtfepkpindchleaaE
open Go Go.Proofs.YtfepkpindchleaaB
set_option linter.unusedVariables false
set_option linter.unusedSimpArgs false
/-! ### Trees whose ways are known -/
theorem allT {α : Type} {P : α → Prop} {x y : Tr α} : (Tr.br true x y).all P ↔ x.all P := ⟨fun h => h.1 rfl, fun h => ⟨fun _ => h, fun e => by cases e⟩⟩
theorem allF {α : Type} {P : α → Prop} {x y : Tr α} : (Tr.br false x y).all P ↔ y.all P := ⟨fun h => h.2 rfl, fun h => ⟨(fun e => by cases e), fun _ => h⟩⟩
theorem allR {α : Type} {P : α → Prop} {a : α} : (Tr.ret a).all P ↔ P a := Iff.rfl
theorem wireName_all (s : List UInt8) (at_ : Int) (n : List UInt8) : (t7 s at_ n).all fun x => x = ([.bool true], []) := by
  unfold t7
  by_cases h1 : (s.length : Int) > 1000
  · simp only [decide_eq_true h1, allT, allR]
  by_cases h2 : (n.length : Int) > 400
  · simp only [decide_eq_false h1, decide_eq_true h2, allT, allF, allR]
  have hb : bigS s = true := by simp [bigS]; omega
  have hbn : bigS n = true := by simp [bigS]; omega
  have hbns : bigS (n ++ s) = true := by simp [bigS]; omega
  have hble : Nat.ble (List.length n + List.length s) 9223372036854775807 = true := Nat.ble_eq_true_of_le (by omega)
  have key : ∀ m next, takeG s at_ at_ (-1) [] = some (m, next) → mayV m = true ∧ bigS m = true ∧ at_ < next ∧ next ≤ s.length := fun m next h => by
    obtain ⟨a1, _, a3, _⟩ := takeG_may _ at_ at_ (-1) [] m next rfl LP_nil h
    obtain ⟨_, a4, _⟩ := may_iff.1 a1
    exact ⟨a1, by simp [bigS]; omega, a3 (by omega)⟩
  cases ho : takeG s at_ at_ (-1) [] with
  | none =>
    cases hm : mayV n with
    | false => simp [decide_eq_false h1, decide_eq_false h2, hb, hbn, hbns, hble, hm, tkE, tkS, tkN, allT, allF, allR]
    | true =>
      simp [decide_eq_false h1, decide_eq_false h2, hb, hbn, hbns, hble, hm, tkE, tkS, tkN, takeG_self (X := s) hm, allT, allF, allR]
  | some p =>
    obtain ⟨m, next⟩ := p
    obtain ⟨k1, k2, k3, k4⟩ := key m next ho
    cases hm : mayV n with
    | false => simp [decide_eq_false h1, decide_eq_false h2, hb, hbn, hbns, hble, hm, tkE, tkS, tkN, k1, k2, k3, k4, allT, allF, allR]
    | true => simp [decide_eq_false h1, decide_eq_false h2, hb, hbn, hbns, hble, hm, tkE, tkS, tkN, k1, k2, k3, k4, takeG_self (X := s) hm, allT, allF, allR]
theorem sem7 (s : List UInt8) (at_ : Int) (n : List UInt8) : SemF Try.prog 7 [.str s, .int .i64 at_, .str n] [] [.bool true] [] :=
  ok7 (s, at_, n, ()) () ([.bool true], []) (Tr.get_of_all (wireName_all s at_ n))
end Go.Proofs.YtfepkpindchleaaE

/- few; WireShort; WireSized. -/
namespace Go.Proofs.YtfepkpindchleaaE
open Go Go.Proofs.YtfepkpindchleaaB
set_option linter.unusedVariables false
set_option linter.unusedSimpArgs false
noncomputable def b21 : Code := nthLoop c21 0
def ls21 : LoopSpec := { bid := 0, sh := [.d (.list (.pair .str .bool)) false, .d (.int .i64) false], so := [], F := fun (l, i, _) _ => .on2 (decide (i = 0)) ((l.take 41).all (fun x => decide (x.1.length ≤ 400))) (.exit 0, [AV.list (.pair .str .bool) l, .dead], []) (.ret, [AV.list (.pair .str .bool) l, .bool false], []) }
def r21 (l : List (List UInt8 × Bool)) (i : Int) : Tr (St ⊕ (Ex × St)) := Tr.br (decide (i < (↑(List.length l) : Int))) (Tr.br (decide (i < (41 : Int))) (Tr.br (decide ((0 : Int) ≤ i)) (Tr.br (decide (i < (↑(List.length l) : Int))) (Tr.br (decide ((↑(List.length (Prod.fst (List.getD l (Int.toNat i) (Ty.dflt (Ty.pair Ty.str Ty.bool))))) : Int) > (400 : Int))) (Tr.ret (Sum.inr (Ex.ret, stOf [0, 2] [AV.list (Ty.pair Ty.str Ty.bool) l, AV.bool false] []))) (Tr.ret (Sum.inl (stOf [0, 3] [AV.list (Ty.pair Ty.str Ty.bool) l, AV.int IntKind.i64 (IntKind.wrap IntKind.i64 (i + (1 : Int)))] [])))) Tr.no) Tr.no) (Tr.ret (Sum.inr (Ex.exit 0, stOf [0, 2] [AV.list (Ty.pair Ty.str Ty.bool) l, AV.dead] [])))) (Tr.ret (Sum.inr (Ex.exit 0, stOf [0, 2] [AV.list (Ty.pair Ty.str Ty.bool) l, AV.dead] [])))
set_option maxRecDepth 1000000 in
theorem round21 (orc : Orc) (lp : Lp) (l : List (List UInt8 × Bool)) (i : Int) : evC T0 orc lp b21 0 (stOf [0, 3] [.list (.pair .str .bool) l, .int .i64 i] []) (roundK [0, 3] [0, 2] 0) = (r21 l i).get := by kernel_rfl
theorem wf21 (orc : Orc) (l : List (List UInt8 × Bool)) (I'' : Int → Prop) (m'' : Int → Nat) (r'' : Ex × St) (h : ∀ (i : Int), I'' i → (r21 l i).all fun x'' => x'' = .inr r'' ∨ ∃ (i' : Int), x'' = .inl (stOf [0, 3] [.list (.pair .str .bool) l, .int .i64 i'] []) ∧ I'' i' ∧ m'' i' < m'' i) (lp : Lp) (i : Int) : I'' i →
    loopF (fun st => evC T0 orc lp b21 0 st (roundK [0, 3] [0, 2] 0)) (stOf [0, 3] [.list (.pair .str .bool) l, .int .i64 i] []) = some r'' :=
  loop_tr (fun a'' : Int => stOf [0, 3] [.list (.pair .str .bool) l, .int .i64 a''] []) (fun a'' => I'' a'') (fun a'' => m'' a'') r'' (fun a'' => r21 l a'')
    (fun a'' x hx => (round21 orc lp l a'').trans hx) (fun a'' ha => Tr.all_mono (fun x'' hx => hx.imp id fun ⟨i', h1, h2, h3⟩ => ⟨(i'), h1, h2, h3⟩) (h (a'') ha)) (i)
theorem loop21 (orc : Orc) : ls21.Ok T0 orc h21 0 0 b21 := by
  intro q'' hq'' x'' y'' r'' h
  obtain ⟨(l : List (List UInt8 × Bool)), (i : Int), _⟩ := x''
  obtain ⟨hc, rfl⟩ := Tr.get_on2 h
  show loopF (fun st => evC T0 orc (lpN T0 orc h21 0 q'') b21 0 st (roundK [0, 3] [0, 2] 0)) (stOf [0, 3] [.list (.pair .str .bool) l, .int .i64 i] []) = some ((bif (l.take 41).all (fun x => decide (x.1.length ≤ 400)) then (.exit 0, [AV.list (.pair .str .bool) l, .dead], []) else (.ret, [AV.list (.pair .str .bool) l, .bool false], []) : Ex × List AV × List LObj).1, stOf [0, 2] (bif (l.take 41).all (fun x => decide (x.1.length ≤ 400)) then (.exit 0, [AV.list (.pair .str .bool) l, .dead], []) else (.ret, [AV.list (.pair .str .bool) l, .bool false], []) : Ex × List AV × List LObj).2.1 (bif (l.take 41).all (fun x => decide (x.1.length ≤ 400)) then (.exit 0, [AV.list (.pair .str .bool) l, .dead], []) else (.ret, [AV.list (.pair .str .bool) l, .bool false], []) : Ex × List AV × List LObj).2.2)
  simp only [decide_eq_true_eq] at hc
  subst hc
  refine wf21 _ l (fun i => 0 ≤ i ∧ i ≤ 41 ∧ (l.take 41).all (fun x => decide (x.1.length ≤ 400)) = ((l.drop i.toNat).take (41 - i.toNat)).all (fun x => decide (x.1.length ≤ 400))) (fun i => (41 - i).toNat) _ ?_ _ 0 ⟨by omega, by omega, by simp⟩
  rintro i ⟨h0, h1, h2⟩
  rw [h2]
  unfold r21
  by_cases hk : i.toNat < l.length
  · by_cases h41 : i < 41
    · have hg : l.getD i.toNat (Ty.dflt (Ty.pair Ty.str Ty.bool)) = l[i.toNat] := by rw [List.getD_eq_getElem?_getD, List.getElem?_eq_getElem hk]; rfl
      rw [List.drop_eq_getElem_cons hk, show 41 - i.toNat = (40 - i.toNat) + 1 by omega, List.take_succ_cons, List.all_cons, hg]
      refine Tr.all_t (dec_true (by omega)) (Tr.all_t (dec_true (by omega)) (Tr.all_t (dec_true h0) (Tr.all_t (dec_true (by omega)) (Tr.all_br (fun c1 => Tr.all_ret (.inl ?_)) fun c1 => Tr.all_ret (.inr ⟨_, rfl, ?_, ?_⟩)))))
      · simp only [decide_eq_true_eq] at c1
        rw [decide_eq_false (by omega), Bool.false_and]
        rfl
      · rw [IntWalk.i64_in _ (by omega)]
        simp only [decide_eq_false_iff_not] at c1
        refine ⟨by omega, by omega, ?_⟩
        rw [decide_eq_true (by omega), Bool.true_and, show (i + 1).toNat = i.toNat + 1 by omega, show 41 - (i.toNat + 1) = 40 - i.toNat by omega]
      · rw [IntWalk.i64_in _ (by omega)]
        omega
    · refine Tr.all_t (dec_true (by omega)) (Tr.all_f (dec_false h41) (Tr.all_ret (.inl ?_)))
      rw [show 41 - i.toNat = 0 by omega]
      simp
  · refine Tr.all_f (dec_false (by omega)) (Tr.all_ret (.inl ?_))
    rw [List.drop_eq_nil_of_le (by omega)]
    simp
/-- derricklaw03.few -/
def t21 (l : List (List UInt8 × Bool)) : Tr Res := Tr.br (List.all (List.take 41 l) fun x ↦ decide (List.length (Prod.fst x) ≤ 400)) (Tr.ret ([AV.bool (decide ((↑(List.length l) : Int) ≤ (40 : Int)))], [])) (Tr.ret ([AV.bool false], []))
def os21 : OSpec := { f := 21, sh := [.d (.list (.pair .str .bool)) false], so := [], F := fun (l, _) _ => t21 l }
set_option maxRecDepth 1000000 in
theorem fn21 (l : List (List UInt8 × Bool)) : evC T0 (orcB [] []) (lpOf h21 0 (lsOf [ls21])) c21 1000000 (startSt [.list (.pair .str .bool) l] [] Try.f21.ntmps) (finishK T0 false 0 Try.f21) = (t21 l).get := by kernel_rfl
theorem ok21 : os21.Ok Try.prog := by
  refine os_ok mixed0 tab0 (orcB_sound all_nil all_nil) h21 (d := 0) (n0 := 0) (S := lsOf [ls21]) Try.func21 (by kernel_rfl) (c := c21) (by kernel_rfl) rfl (loops_eq (xs := [(0, b21)]) (by kernel_rfl) (all_cons (ls_here (loop21 _)) all_nil)) (by omega) (by kernel_rfl) ?_
  intro x'' y'' q'' hq''
  obtain ⟨(l : List (List UInt8 × Bool)), _⟩ := x''
  exact (fn21 l).trans hq''
def fs21 : FSpec := fsT 21 [((.list (.pair .str .bool)), false)] [(.bool, false)] fun (l, _) => t21 l
theorem okf21 : fs21.Ok Try.prog := fsT_ok fun x'' r'' hr'' => ok21 x'' () r'' hr''
def fs21w : FSpec := fs21.like fun (l, _) => .ret (fewB l, ())
theorem okf21w : fs21w.Ok Try.prog := by
  refine flike_ok okf21 _ ?_
  rintro ⟨(l : List (List UInt8 × Bool)), _⟩ y h
  cases h
  refine convR_of (vs := [.bool (fewB l)]) rfl rfl (Tr.get_of_all ?_)
  show (t21 l).all _
  unfold t21 fewB
  refine Tr.all_br (fun c1 => Tr.all_ret ?_) fun c1 => Tr.all_ret ?_
  · rw [c1, Bool.true_and]
    congr 3
    rw [Bool.eq_iff_iff]
    simp
    omega
  · rw [c1]
    rfl
def ls24q : LoopSpec := { bid := 0, sh := [], so := [], F := fun _ _ => .no }
theorem loop24q (orc : Orc) : ls24q.Ok T0 orc h24 0 0 b24 := by
  intro q'' hq'' x'' y'' r'' h
  cases h
/-- (*wire.Pack).Name -/
def t24z (n : List UInt8) : Tr Res := Tr.ret ([AV.int IntKind.i64 (1 : Int)], [])
def os24z : OSpec := { f := 24, sh := [.np, .d .str false], so := [], F := fun (n, _) _ => t24z n }
set_option maxRecDepth 1000000 in
theorem fn24z (n : List UInt8) : evC T0 (orcB [fs42w, fs29w] [os22]) (lpOf h24 0 (lsOf [ls24q])) c24 1000000 (startSt [.np, .str n] [] Try.f24.ntmps) (finishK T0 false 0 Try.f24) = (t24z n).get := by kernel_rfl
theorem ok24z : os24z.Ok Try.prog := by
  refine os_ok mixed0 tab0 (orcB_sound (all_cons okf42w (all_cons okf29w all_nil)) (all_cons ok22 all_nil)) h24 (d := 0) (n0 := 0) (S := lsOf [ls24q]) Try.func24 (by kernel_rfl) (c := c24) (by kernel_rfl) rfl (loops_eq (xs := [(0, b24)]) (by kernel_rfl) (all_cons (ls_here (loop24q _)) all_nil)) (by omega) (by kernel_rfl) ?_
  intro x'' y'' q'' hq''
  obtain ⟨(n : List UInt8), _⟩ := x''
  exact (fn24z n).trans hq''
-- derricklaw03.WireShort: loop 0 keeps [0, 1, 5, 6, 7], [1, 4, 5, 6]
noncomputable def b9 : Code := nthLoop c9 0
def ls9 : LoopSpec := { bid := 0, sh := [.d (.list (.pair .str .bool)) false, .d .str false, .d .bool false, .ptr 0 0, .d (.int .i64) false], so := [.box [.row 1, .mp 2], .row (.int .u8), .map .str (.int .i64)], F := fun (l, n, up, i, _) (_, b, m, _) => .on (fewB l && (decide (i = 0) && p0C b m)) (.exit 0, [.str n, .dead, .bool up, .ptr 0 0], [.box [.rowA 1, .mp 2], .row (.int .u8) (bytesInt (l.foldl stN ([], [])).1), .mpo .str (.int .i64) (l.foldl stN ([], [])).2]) }
def r9 (l : List (List UInt8 × Bool)) (n : List UInt8) (up : Bool) (i : Int) (b : List Int) (m : List (List UInt8 × Int)) : Tr (St ⊕ (Ex × St)) := Tr.br (decide (i < (↑(List.length l) : Int))) (Tr.br (decide ((0 : Int) ≤ i)) (Tr.br (decide (i < (↑(List.length l) : Int))) (Tr.br (pkC b m && Nat.ble (List.length (Prod.fst (List.getD l (Int.toNat i) (Ty.dflt (Ty.pair Ty.str Ty.bool))))) 100000000000) (Tr.br (mayV (Prod.fst (List.getD l (Int.toNat i) (Ty.dflt (Ty.pair Ty.str Ty.bool))))) (Tr.br (decide ((0 : Int) ≤ i)) (Tr.br (decide (i < (↑(List.length l) : Int))) (Tr.br (decide ((↑(List.length (bytesInt (Prod.fst (nameP (Prod.fst (List.getD l (Int.toNat i) (Ty.dflt (Ty.pair Ty.str Ty.bool)))) (intBytes b) m)))) : Int) > IntKind.wrap IntKind.i64 ((↑(List.length b) : Int) + (↑(List.length (Prod.fst (List.getD l (Int.toNat i) (Ty.dflt (Ty.pair Ty.str Ty.bool))))) : Int)))) (Tr.ret (Sum.inr (Ex.ret, stOf [1, 4, 5, 6] [AV.str n, AV.bool false, AV.bool up, AV.ptr 0 0] [LObj.boxT none [AV.rowA 1, AV.mp 2], LObj.row (Ty.int IntKind.u8) (bytesInt (Prod.fst (nameP (Prod.fst (List.getD l (Int.toNat i) (Ty.dflt (Ty.pair Ty.str Ty.bool)))) (intBytes b) m))), LObj.mpo Ty.str (Ty.int IntKind.i64) (Prod.snd (nameP (Prod.fst (List.getD l (Int.toNat i) (Ty.dflt (Ty.pair Ty.str Ty.bool)))) (intBytes b) m))]))) (Tr.ret (Sum.inl (stOf [0, 1, 5, 6, 7] [AV.list (Ty.pair Ty.str Ty.bool) l, AV.str n, AV.bool up, AV.ptr 0 0, AV.int IntKind.i64 (IntKind.wrap IntKind.i64 (i + (1 : Int)))] [LObj.boxT none [AV.rowA 1, AV.mp 2], LObj.row (Ty.int IntKind.u8) (bytesInt (Prod.fst (nameP (Prod.fst (List.getD l (Int.toNat i) (Ty.dflt (Ty.pair Ty.str Ty.bool)))) (intBytes b) m))), LObj.mpo Ty.str (Ty.int IntKind.i64) (Prod.snd (nameP (Prod.fst (List.getD l (Int.toNat i) (Ty.dflt (Ty.pair Ty.str Ty.bool)))) (intBytes b) m))])))) Tr.no) Tr.no) (Tr.br ((↑(List.length b) : Int) != (↑(List.length b) : Int)) (Tr.ret (Sum.inr (Ex.ret, stOf [1, 4, 5, 6] [AV.str n, AV.bool false, AV.bool up, AV.ptr 0 0] [LObj.boxT none [AV.rowA 1, AV.mp 2], LObj.row (Ty.int IntKind.u8) b, LObj.mpo Ty.str (Ty.int IntKind.i64) m]))) (Tr.ret (Sum.inl (stOf [0, 1, 5, 6, 7] [AV.list (Ty.pair Ty.str Ty.bool) l, AV.str n, AV.bool up, AV.ptr 0 0, AV.int IntKind.i64 (IntKind.wrap IntKind.i64 (i + (1 : Int)))] [LObj.boxT none [AV.rowA 1, AV.mp 2], LObj.row (Ty.int IntKind.u8) b, LObj.mpo Ty.str (Ty.int IntKind.i64) m]))))) Tr.no) Tr.no) Tr.no) (Tr.ret (Sum.inr (Ex.exit 0, stOf [1, 4, 5, 6] [AV.str n, AV.dead, AV.bool up, AV.ptr 0 0] [LObj.boxT none [AV.rowA 1, AV.mp 2], LObj.row (Ty.int IntKind.u8) b, LObj.mpo Ty.str (Ty.int IntKind.i64) m])))
set_option maxRecDepth 1000000 in
theorem round9 (lp : Lp) (l : List (List UInt8 × Bool)) (n : List UInt8) (up : Bool) (i : Int) (b : List Int) (m : List (List UInt8 × Int)) : evC T0 (orcB [fs20w, fs21w, fs29w] [os16, os24w, os24z, os26, os26z, os22z, os19z, os30z, os31z]) lp b9 0 (stOf [0, 1, 5, 6, 7] [.list (.pair .str .bool) l, .str n, .bool up, .ptr 0 0, .int .i64 i] [.box [.rowA 1, .mp 2], .row (.int .u8) b, .mpo .str (.int .i64) m]) (roundK [0, 1, 5, 6, 7] [1, 4, 5, 6] 0) = (r9 l n up i b m).get := by kernel_rfl
theorem wf9 (l : List (List UInt8 × Bool)) (n : List UInt8) (up : Bool) (I'' : Int → List Int → List (List UInt8 × Int) → Prop) (m'' : Int → List Int → List (List UInt8 × Int) → Nat) (r'' : Ex × St) (h : ∀ (i : Int) (b : List Int) (m : List (List UInt8 × Int)), I'' i b m → (r9 l n up i b m).all fun x'' => x'' = .inr r'' ∨ ∃ (i' : Int) (b' : List Int) (m' : List (List UInt8 × Int)), x'' = .inl (stOf [0, 1, 5, 6, 7] [.list (.pair .str .bool) l, .str n, .bool up, .ptr 0 0, .int .i64 i'] [.box [.rowA 1, .mp 2], .row (.int .u8) b', .mpo .str (.int .i64) m']) ∧ I'' i' b' m' ∧ m'' i' b' m' < m'' i b m) (lp : Lp) (i : Int) (b : List Int) (m : List (List UInt8 × Int)) : I'' i b m →
    loopF (fun st => evC T0 (orcB [fs20w, fs21w, fs29w] [os16, os24w, os24z, os26, os26z, os22z, os19z, os30z, os31z]) lp b9 0 st (roundK [0, 1, 5, 6, 7] [1, 4, 5, 6] 0)) (stOf [0, 1, 5, 6, 7] [.list (.pair .str .bool) l, .str n, .bool up, .ptr 0 0, .int .i64 i] [.box [.rowA 1, .mp 2], .row (.int .u8) b, .mpo .str (.int .i64) m]) = some r'' :=
  loop_tr (fun a'' : Int × List Int × List (List UInt8 × Int) => stOf [0, 1, 5, 6, 7] [.list (.pair .str .bool) l, .str n, .bool up, .ptr 0 0, .int .i64 a''.1] [.box [.rowA 1, .mp 2], .row (.int .u8) a''.2.1, .mpo .str (.int .i64) a''.2.2]) (fun a'' => I'' a''.1 a''.2.1 a''.2.2) (fun a'' => m'' a''.1 a''.2.1 a''.2.2) r'' (fun a'' => r9 l n up a''.1 a''.2.1 a''.2.2)
    (fun a'' x hx => (round9 lp l n up a''.1 a''.2.1 a''.2.2).trans hx) (fun a'' ha => Tr.all_mono (fun x'' hx => hx.imp id fun ⟨i', b', m', h1, h2, h3⟩ => ⟨(i', b', m'), h1, h2, h3⟩) (h (a''.1) (a''.2.1) (a''.2.2) ha)) (i, b, m)
def shI (l : Parts) (i : Int) (b : List Int) (m : Known) : Prop := 0 ≤ i ∧ i ≤ l.length ∧ ∃ p : PKt, b = bytesInt p.1 ∧ m = p.2 ∧ GoodP i.toNat p ∧ (l.drop i.toNat).foldl stN p = l.foldl stN ([], [])
theorem loop9 : ls9.Ok T0 (orcB [fs20w, fs21w, fs29w] [os16, os24w, os24z, os26, os26z, os22z, os19z, os30z, os31z]) h9 0 0 b9 := by
  intro q'' hq'' x'' y'' r'' h
  obtain ⟨(l : List (List UInt8 × Bool)), (n : List UInt8), (up : Bool), (i : Int), _⟩ := x''
  obtain ⟨_, (b : List Int), (m : List (List UInt8 × Int)), _⟩ := y''
  obtain ⟨hc, rfl⟩ := Tr.get_on h
  show loopF (fun st => evC T0 (orcB [fs20w, fs21w, fs29w] [os16, os24w, os24z, os26, os26z, os22z, os19z, os30z, os31z]) (lpN T0 (orcB [fs20w, fs21w, fs29w] [os16, os24w, os24z, os26, os26z, os22z, os19z, os30z, os31z]) h9 0 q'') b9 0 st (roundK [0, 1, 5, 6, 7] [1, 4, 5, 6] 0)) (stOf [0, 1, 5, 6, 7] [.list (.pair .str .bool) l, .str n, .bool up, .ptr 0 0, .int .i64 i] [.box [.rowA 1, .mp 2], .row (.int .u8) b, .mpo .str (.int .i64) m]) = some (.exit 0, stOf [1, 4, 5, 6] ([.str n, .dead, .bool up, .ptr 0 0]) ([.box [.rowA 1, .mp 2], .row (.int .u8) (bytesInt (l.foldl stN ([], [])).1), .mpo .str (.int .i64) (l.foldl stN ([], [])).2]))
  simp only [p0C, Bool.and_eq_true, decide_eq_true_eq, List.isEmpty_iff] at hc
  obtain ⟨hf, rfl, rfl, rfl⟩ := hc
  obtain ⟨hl, hx⟩ := fewB_iff.1 hf
  refine wf9 l n up (shI l) (fun i _ _ => (l.length - i).toNat) _ ?_ _ 0 [] [] ⟨by omega, by omega, ([], []), rfl, rfl, good_nil, by simp⟩
  rintro i b m ⟨h0, h1, p, rfl, rfl, hg, hF⟩
  rw [← hF]
  unfold r9
  by_cases hi : i < l.length
  · obtain ⟨d1, d2⟩ := drop_getD (Ty.dflt (Ty.pair Ty.str Ty.bool)) h0 hi
    generalize List.getD l (Int.toNat i) (Ty.dflt (Ty.pair Ty.str Ty.bool)) = x at d1 d2
    have hxl := hx x d2
    rw [d1, List.foldl_cons] at hF
    obtain ⟨g1, g2, _⟩ := stN_good hg hxl
    have g1 : GoodP (i + 1).toNat (stN p x) := by rw [show (i + 1).toNat = i.toNat + 1 by omega]; exact g1
    have hpk := pkC_good hg (by omega)
    have hp := hg.2
    rw [intB_bytes]
    refine Tr.all_t (dec_true hi) (Tr.all_t (dec_true h0) (Tr.all_t (dec_true hi) (Tr.all_t (by rw [hpk, Nat.ble_eq_true_of_le (by omega)]; rfl) (Tr.all_br (fun c1 => Tr.all_t (dec_true h0) (Tr.all_t (dec_true hi) (Tr.all_f ?_ (Tr.all_ret (.inr ?_))))) fun c1 => Tr.all_f (by simp) (Tr.all_ret (.inr ?_))))))
    · unfold stN at g2
      rw [c1, cond_true] at g2
      rw [bytesInt_len, bytesInt_len, IntWalk.i64_in _ (by omega)]
      exact dec_false (by omega)
    · rw [IntWalk.i64_in _ (by omega)]
      have e : stN p x = nameP x.1 p.1 p.2 := by unfold stN; rw [c1]; rfl
      rw [← e]
      exact ⟨_, _, _, rfl, ⟨by omega, by omega, _, rfl, rfl, g1, hF⟩, by omega⟩
    · rw [IntWalk.i64_in _ (by omega)]
      have e : stN p x = p := by unfold stN; rw [c1]; rfl
      rw [e] at hF g1
      exact ⟨_, _, _, rfl, ⟨by omega, by omega, _, rfl, rfl, g1, hF⟩, by omega⟩
  · refine Tr.all_f (dec_false hi) (Tr.all_ret (.inl ?_))
    rw [List.drop_eq_nil_of_le (by omega)]
    rfl
/-- derricklaw03.WireShort -/
def t9 (l : List (List UInt8 × Bool)) (n : List UInt8) : Tr Res := Tr.br (!fewB l) (Tr.ret ([AV.bool true], [])) (Tr.br (bigS n) (Tr.br (!mayV n) (Tr.ret ([AV.bool true], [])) (Tr.br (fewB l && (decide ((0 : Int) = (0 : Ty.den (Ty.int IntKind.i64))) && p0C [] [])) (Tr.br (pkC (bytesInt (Prod.fst (List.foldl stN ([], []) l))) (Prod.snd (List.foldl stN ([], []) l)) && Nat.ble (List.length n) 100000000000) (Tr.br (mayV n) (Tr.br (pkC (bytesInt (Prod.fst (nameP n (intBytes (bytesInt (Prod.fst (List.foldl stN ([], []) l)))) (Prod.snd (List.foldl stN ([], []) l))))) (Prod.snd (nameP n (intBytes (bytesInt (Prod.fst (List.foldl stN ([], []) l)))) (Prod.snd (List.foldl stN ([], []) l)))) && Nat.ble (List.length n) 100000000000) (Tr.br (mayV n) (Tr.br (n == [0]) (Tr.br ((↑(List.length (bytesInt (Prod.fst (nameP n (intBytes (bytesInt (Prod.fst (nameP n (intBytes (bytesInt (Prod.fst (List.foldl stN ([], []) l)))) (Prod.snd (List.foldl stN ([], []) l)))))) (Prod.snd (nameP n (intBytes (bytesInt (Prod.fst (List.foldl stN ([], []) l)))) (Prod.snd (List.foldl stN ([], []) l)))))))) : Int) == IntKind.wrap IntKind.i64 ((↑(List.length (bytesInt (Prod.fst (nameP n (intBytes (bytesInt (Prod.fst (List.foldl stN ([], []) l)))) (Prod.snd (List.foldl stN ([], []) l)))))) : Int) + (1 : Int))) (Tr.ret ([AV.bool ((1 : Int) == (1 : Int))], [])) (Tr.ret ([AV.bool false], []))) (Tr.br ((↑(List.length (bytesInt (Prod.fst (nameP n (intBytes (bytesInt (Prod.fst (nameP n (intBytes (bytesInt (Prod.fst (List.foldl stN ([], []) l)))) (Prod.snd (List.foldl stN ([], []) l)))))) (Prod.snd (nameP n (intBytes (bytesInt (Prod.fst (List.foldl stN ([], []) l)))) (Prod.snd (List.foldl stN ([], []) l)))))))) : Int) == IntKind.wrap IntKind.i64 ((↑(List.length (bytesInt (Prod.fst (nameP n (intBytes (bytesInt (Prod.fst (List.foldl stN ([], []) l)))) (Prod.snd (List.foldl stN ([], []) l)))))) : Int) + (2 : Int))) (Tr.ret ([AV.bool ((1 : Int) == (1 : Int))], [])) (Tr.ret ([AV.bool false], [])))) (Tr.br (n == [0]) (Tr.br ((↑(List.length (bytesInt (Prod.fst (nameP n (intBytes (bytesInt (Prod.fst (List.foldl stN ([], []) l)))) (Prod.snd (List.foldl stN ([], []) l)))))) : Int) == IntKind.wrap IntKind.i64 ((↑(List.length (bytesInt (Prod.fst (nameP n (intBytes (bytesInt (Prod.fst (List.foldl stN ([], []) l)))) (Prod.snd (List.foldl stN ([], []) l)))))) : Int) + (1 : Int))) (Tr.ret ([AV.bool ((1 : Int) == (1 : Int))], [])) (Tr.ret ([AV.bool false], []))) (Tr.br ((↑(List.length (bytesInt (Prod.fst (nameP n (intBytes (bytesInt (Prod.fst (List.foldl stN ([], []) l)))) (Prod.snd (List.foldl stN ([], []) l)))))) : Int) == IntKind.wrap IntKind.i64 ((↑(List.length (bytesInt (Prod.fst (nameP n (intBytes (bytesInt (Prod.fst (List.foldl stN ([], []) l)))) (Prod.snd (List.foldl stN ([], []) l)))))) : Int) + (2 : Int))) (Tr.ret ([AV.bool ((1 : Int) == (1 : Int))], [])) (Tr.ret ([AV.bool false], []))))) Tr.no) (Tr.br (pkC (bytesInt (Prod.fst (List.foldl stN ([], []) l))) (Prod.snd (List.foldl stN ([], []) l)) && Nat.ble (List.length n) 100000000000) (Tr.br (mayV n) (Tr.br (n == [0]) (Tr.br ((↑(List.length (bytesInt (Prod.fst (nameP n (intBytes (bytesInt (Prod.fst (List.foldl stN ([], []) l)))) (Prod.snd (List.foldl stN ([], []) l)))))) : Int) == IntKind.wrap IntKind.i64 ((↑(List.length (bytesInt (Prod.fst (List.foldl stN ([], []) l)))) : Int) + (1 : Int))) (Tr.ret ([AV.bool ((1 : Int) == (1 : Int))], [])) (Tr.ret ([AV.bool false], []))) (Tr.br ((↑(List.length (bytesInt (Prod.fst (nameP n (intBytes (bytesInt (Prod.fst (List.foldl stN ([], []) l)))) (Prod.snd (List.foldl stN ([], []) l)))))) : Int) == IntKind.wrap IntKind.i64 ((↑(List.length (bytesInt (Prod.fst (List.foldl stN ([], []) l)))) : Int) + (2 : Int))) (Tr.ret ([AV.bool ((1 : Int) == (1 : Int))], [])) (Tr.ret ([AV.bool false], [])))) (Tr.br (n == [0]) (Tr.br ((↑(List.length (bytesInt (Prod.fst (List.foldl stN ([], []) l)))) : Int) == IntKind.wrap IntKind.i64 ((↑(List.length (bytesInt (Prod.fst (List.foldl stN ([], []) l)))) : Int) + (1 : Int))) (Tr.ret ([AV.bool ((1 : Int) == (1 : Int))], [])) (Tr.ret ([AV.bool false], []))) (Tr.br ((↑(List.length (bytesInt (Prod.fst (List.foldl stN ([], []) l)))) : Int) == IntKind.wrap IntKind.i64 ((↑(List.length (bytesInt (Prod.fst (List.foldl stN ([], []) l)))) : Int) + (2 : Int))) (Tr.ret ([AV.bool ((1 : Int) == (1 : Int))], [])) (Tr.ret ([AV.bool false], []))))) Tr.no)) Tr.no) Tr.no)) Tr.no)
def os9 : OSpec := { f := 9, sh := [.d (.list (.pair .str .bool)) false, .d .str false], so := [], F := fun (l, n, _) _ => t9 l n }
set_option maxRecDepth 1000000 in
theorem fn9 (l : List (List UInt8 × Bool)) (n : List UInt8) : evC T0 (orcB [fs20w, fs21w, fs29w] [os16, os24w, os24z, os26, os26z, os22z, os19z, os30z, os31z]) (lpOf h9 0 (lsOf [ls9])) c9 1000000 (startSt [.list (.pair .str .bool) l, .str n] [] Try.f9.ntmps) (finishK T0 false 0 Try.f9) = (t9 l n).get := by kernel_rfl
theorem ok9 : os9.Ok Try.prog := by
  refine os_ok mixed0 tab0 (orcB_sound (all_cons okf20w (all_cons okf21w (all_cons okf29w all_nil))) (all_cons ok16 (all_cons ok24w (all_cons ok24z (all_cons ok26 (all_cons ok26z (all_cons ok22z (all_cons ok19z (all_cons ok30z (all_cons ok31z all_nil)))))))))) h9 (d := 0) (n0 := 0) (S := lsOf [ls9]) Try.func9 (by kernel_rfl) (c := c9) (by kernel_rfl) rfl (loops_eq (xs := [(0, b9)]) (by kernel_rfl) (all_cons (ls_here loop9) all_nil)) (by omega) (by kernel_rfl) ?_
  intro x'' y'' q'' hq''
  obtain ⟨(l : List (List UInt8 × Bool)), (n : List UInt8), _⟩ := x''
  exact (fn9 l n).trans hq''
def fs9 : FSpec := fsT 9 [((.list (.pair .str .bool)), false), (.str, false)] [(.bool, false)] fun (l, n, _) => t9 l n
theorem okf9 : fs9.Ok Try.prog := fsT_ok fun x'' r'' hr'' => ok9 x'' () r'' hr''
end Go.Proofs.YtfepkpindchleaaE

/- rdata: Put, Take, Target. -/
namespace Go.Proofs.YtfepkpindchleaaE
open Go Go.Proofs.YtfepkpindchleaaB
set_option linter.unusedVariables false
set_option linter.unusedSimpArgs false
noncomputable def b17 : Code := nthLoop c17 0
def ls17 : LoopSpec := { bid := 0, sh := [.ptr 0 0, .d (.list .str) false, .d (.list (.int .i64)) false, .d (.int .i64) false, .d (.int .i64) false], so := [.box [.row 1, .mp 2], .row (.int .u8), .map .str (.int .i64)], F := fun (ls, ps, n, i, _) (_, b, m, _) => .on (putC ls ps n i b m) (.exit 0, [], [.box [.rowA 1, .mp 2], .row (.int .u8) (bytesInt (putS ps ls (intBytes b, m)).1), .mpo .str (.int .i64) (putS ps ls (intBytes b, m)).2]) }
def r17 (ls : List (List UInt8)) (ps : List Int) (n : Int) (i : Int) (b : List Int) (m : List (List UInt8 × Int)) : Tr (St ⊕ (Ex × St)) := Tr.br (decide (i < n)) (Tr.br (decide ((0 : Int) ≤ i)) (Tr.br (decide (i < (↑(List.length ps) : Int))) (Tr.br (List.getD ps (Int.toNat i) (Ty.dflt (Ty.int IntKind.i64)) == (-1 : Int)) (Tr.br (decide ((0 : Int) ≤ i)) (Tr.br (decide (i < (↑(List.length ls) : Int))) (Tr.br (pkC b m && Nat.ble (List.length (List.getD ls (Int.toNat i) (Ty.dflt Ty.str))) 100000000000) (Tr.br (mayV (List.getD ls (Int.toNat i) (Ty.dflt Ty.str))) (Tr.ret (Sum.inl (stOf [0, 7, 26, 27, 28] [AV.ptr 0 0, AV.list Ty.str ls, AV.list (Ty.int IntKind.i64) ps, AV.int IntKind.i64 n, AV.int IntKind.i64 (IntKind.wrap IntKind.i64 (i + (1 : Int)))] [LObj.boxT none [AV.rowA 1, AV.mp 2], LObj.row (Ty.int IntKind.u8) (bytesInt (Prod.fst (nameP (List.getD ls (Int.toNat i) (Ty.dflt Ty.str)) (intBytes b) m))), LObj.mpo Ty.str (Ty.int IntKind.i64) (Prod.snd (nameP (List.getD ls (Int.toNat i) (Ty.dflt Ty.str)) (intBytes b) m))]))) (Tr.ret (Sum.inl (stOf [0, 7, 26, 27, 28] [AV.ptr 0 0, AV.list Ty.str ls, AV.list (Ty.int IntKind.i64) ps, AV.int IntKind.i64 n, AV.int IntKind.i64 (IntKind.wrap IntKind.i64 (i + (1 : Int)))] [LObj.boxT none [AV.rowA 1, AV.mp 2], LObj.row (Ty.int IntKind.u8) b, LObj.mpo Ty.str (Ty.int IntKind.i64) m])))) Tr.no) Tr.no) Tr.no) (Tr.br (decide ((0 : Int) ≤ i)) (Tr.br (decide (i < (↑(List.length ls) : Int))) (Tr.br (fits (List.length b + List.length (bytesInt (List.getD ls (Int.toNat i) (Ty.dflt Ty.str)))) 1) (Tr.ret (Sum.inl (stOf [0, 7, 26, 27, 28] [AV.ptr 0 0, AV.list Ty.str ls, AV.list (Ty.int IntKind.i64) ps, AV.int IntKind.i64 n, AV.int IntKind.i64 (IntKind.wrap IntKind.i64 (i + (1 : Int)))] [LObj.boxT none [AV.rowA 1, AV.mp 2], LObj.row (Ty.int IntKind.u8) (b ++ bytesInt (List.getD ls (Int.toNat i) (Ty.dflt Ty.str))), LObj.mpo Ty.str (Ty.int IntKind.i64) m]))) Tr.no) Tr.no) Tr.no)) Tr.no) Tr.no) (Tr.ret (Sum.inr (Ex.exit 0, stOf [] [] [LObj.boxT none [AV.rowA 1, AV.mp 2], LObj.row (Ty.int IntKind.u8) b, LObj.mpo Ty.str (Ty.int IntKind.i64) m])))
set_option maxRecDepth 1000000 in
theorem round17 (lp : Lp) (ls : List (List UInt8)) (ps : List Int) (n : Int) (i : Int) (b : List Int) (m : List (List UInt8 × Int)) : evC T0 (orcB [fs40w, fs39w, fs36w] [os24w, os22]) lp b17 0 (stOf [0, 7, 26, 27, 28] [.ptr 0 0, .list .str ls, .list (.int .i64) ps, .int .i64 n, .int .i64 i] [.box [.rowA 1, .mp 2], .row (.int .u8) b, .mpo .str (.int .i64) m]) (roundK [0, 7, 26, 27, 28] [] 3) = (r17 ls ps n i b m).get := by kernel_rfl
theorem wf17 (ls : List (List UInt8)) (ps : List Int) (n : Int) (I'' : Int → List Int → List (List UInt8 × Int) → Prop) (m'' : Int → List Int → List (List UInt8 × Int) → Nat) (r'' : Ex × St) (h : ∀ (i : Int) (b : List Int) (m : List (List UInt8 × Int)), I'' i b m → (r17 ls ps n i b m).all fun x'' => x'' = .inr r'' ∨ ∃ (i' : Int) (b' : List Int) (m' : List (List UInt8 × Int)), x'' = .inl (stOf [0, 7, 26, 27, 28] [.ptr 0 0, .list .str ls, .list (.int .i64) ps, .int .i64 n, .int .i64 i'] [.box [.rowA 1, .mp 2], .row (.int .u8) b', .mpo .str (.int .i64) m']) ∧ I'' i' b' m' ∧ m'' i' b' m' < m'' i b m) (lp : Lp) (i : Int) (b : List Int) (m : List (List UInt8 × Int)) : I'' i b m →
    loopF (fun st => evC T0 (orcB [fs40w, fs39w, fs36w] [os24w, os22]) lp b17 0 st (roundK [0, 7, 26, 27, 28] [] 3)) (stOf [0, 7, 26, 27, 28] [.ptr 0 0, .list .str ls, .list (.int .i64) ps, .int .i64 n, .int .i64 i] [.box [.rowA 1, .mp 2], .row (.int .u8) b, .mpo .str (.int .i64) m]) = some r'' :=
  loop_tr (fun a'' : Int × List Int × List (List UInt8 × Int) => stOf [0, 7, 26, 27, 28] [.ptr 0 0, .list .str ls, .list (.int .i64) ps, .int .i64 n, .int .i64 a''.1] [.box [.rowA 1, .mp 2], .row (.int .u8) a''.2.1, .mpo .str (.int .i64) a''.2.2]) (fun a'' => I'' a''.1 a''.2.1 a''.2.2) (fun a'' => m'' a''.1 a''.2.1 a''.2.2) r'' (fun a'' => r17 ls ps n a''.1 a''.2.1 a''.2.2)
    (fun a'' x hx => (round17 lp ls ps n a''.1 a''.2.1 a''.2.2).trans hx) (fun a'' ha => Tr.all_mono (fun x'' hx => hx.imp id fun ⟨i', b', m', h1, h2, h3⟩ => ⟨(i', b', m'), h1, h2, h3⟩) (h (a''.1) (a''.2.1) (a''.2.2) ha)) (i, b, m)
def putI (ps0 : List Int) (ls0 : List (List UInt8)) (p0 : PKt) (i : Int) (b : List Int) (m : Known) : Prop := 0 ≤ i ∧ i ≤ ps0.length ∧ ∃ p : PKt, b = bytesInt p.1 ∧ m = p.2 ∧ kOk p.2 = true ∧ p.1.length ≤ 1000000000 + 1000000 * i.toNat ∧ putS (ps0.drop i.toNat) (ls0.drop i.toNat) p = putS ps0 ls0 p0
theorem loop17 : ls17.Ok T0 (orcB [fs40w, fs39w, fs36w] [os24w, os22]) h17 3 0 b17 := by
  intro q'' hq'' x'' y'' r'' h
  obtain ⟨(ls : List (List UInt8)), (ps : List Int), (n : Int), (i : Int), _⟩ := x''
  obtain ⟨_, (b : List Int), (m : List (List UInt8 × Int)), _⟩ := y''
  obtain ⟨hc, rfl⟩ := Tr.get_on h
  show loopF (fun st => evC T0 (orcB [fs40w, fs39w, fs36w] [os24w, os22]) (lpN T0 (orcB [fs40w, fs39w, fs36w] [os24w, os22]) h17 3 q'') b17 0 st (roundK [0, 7, 26, 27, 28] [] 3)) (stOf [0, 7, 26, 27, 28] [.ptr 0 0, .list .str ls, .list (.int .i64) ps, .int .i64 n, .int .i64 i] [.box [.rowA 1, .mp 2], .row (.int .u8) b, .mpo .str (.int .i64) m]) = some (.exit 0, stOf [] ([]) ([.box [.rowA 1, .mp 2], .row (.int .u8) (bytesInt (putS ps ls (intBytes b, m)).1), .mpo .str (.int .i64) (putS ps ls (intBytes b, m)).2]))
  simp only [putC, Bool.and_eq_true, decide_eq_true_eq, List.all_eq_true] at hc
  obtain ⟨⟨hok, hk, hb⟩, rfl, rfl, hl, hps, hx⟩ := hc
  have hb := Nat.le_of_ble_eq_true hb
  refine wf17 ls ps _ (putI ps ls (intBytes b, m)) (fun i _ _ => (ps.length - i).toNat) _ ?_ _ 0 b m ⟨by omega, by omega, (intBytes b, m), (bytes_intB hok).symm, rfl, hk, by rw [intB_len]; exact hb, rfl⟩
  clear hok hk hb
  rintro i b' m' ⟨h0, h1, p, rfl, rfl, hk, hpl, hF⟩
  rw [← hF]
  unfold r17
  by_cases hi : i < ps.length
  · obtain ⟨d1, _⟩ := drop_getD (Ty.dflt (Ty.int IntKind.i64)) h0 hi
    obtain ⟨e1, e2⟩ := drop_getD (l := ls) (Ty.dflt Ty.str) h0 (by omega)
    generalize List.getD ps (Int.toNat i) (Ty.dflt (Ty.int IntKind.i64)) = x at d1
    generalize List.getD ls (Int.toNat i) (Ty.dflt Ty.str) = y at e1 e2
    have hy := hx y e2
    rw [d1, e1, putS] at hF
    simp only [List.tail_cons, List.headD_cons] at hF
    have hpk : (pkC (bytesInt p.1) p.2 && Nat.ble y.length 100000000000) = true := by
      unfold pkC
      rw [bytesInt_ok, hk, bytesInt_len, Nat.ble_eq_true_of_le (by omega), Nat.ble_eq_true_of_le (by omega)]
      rfl
    have hfb : fits ((bytesInt p.1).length + (bytesInt y).length) 1 = true := fits_true (by rw [bytesInt_len, bytesInt_len]; omega) (by rw [bytesInt_len, bytesInt_len]; omega)
    obtain ⟨k1, k2⟩ := stN_k (p := p) (x := (y, false)) hk
    have hil : i < (ls.length : Int) := by omega
    rw [intB_bytes, IntWalk.i64_in _ (by omega), ← bytesInt_app]
    refine Tr.all_t (dec_true hi) (Tr.all_t (dec_true h0) (Tr.all_t (dec_true hi) (Tr.all_br (fun c => Tr.all_t (dec_true h0) (Tr.all_t (dec_true hil) (Tr.all_t hpk (Tr.all_br (fun c1 => Tr.all_ret (.inr ?_)) fun c1 => Tr.all_ret (.inr ?_))))) fun c => Tr.all_t (dec_true h0) (Tr.all_t (dec_true hil) (Tr.all_t hfb (Tr.all_ret (.inr ?_)))))))
    · rw [c, cond_true] at hF
      have e : stN p (y, false) = nameP y p.1 p.2 := by unfold stN; rw [c1]; rfl
      rw [e] at hF k1 k2
      have k2 : (nameP y p.1 p.2).1.length ≤ p.1.length + y.length := k2
      exact ⟨_, _, _, rfl, ⟨by omega, by omega, nameP y p.1 p.2, rfl, rfl, k1, by omega, hF⟩, by omega⟩
    · rw [c, cond_true] at hF
      have e : stN p (y, false) = p := by unfold stN; rw [c1]; rfl
      rw [e] at hF
      exact ⟨_, _, _, rfl, ⟨by omega, by omega, p, rfl, rfl, hk, by omega, hF⟩, by omega⟩
    · rw [c, cond_false] at hF
      exact ⟨_, _, _, rfl, ⟨by omega, by omega, (p.1 ++ y, p.2), rfl, rfl, hk, by simp only [List.length_append]; omega, hF⟩, by omega⟩
  · refine Tr.all_f (dec_false hi) (Tr.all_ret (.inl ?_))
    rw [List.drop_eq_nil_of_le (by omega)]
    rfl
/-- rdata.Put -/
def t17 (k : Int) (d : List UInt8) (b : List Int) (m : List (List UInt8 × Int)) : Tr Res := Tr.br (bigS d) (Tr.br (!mayR k d) (Tr.ret ([AV.int IntKind.i64 (1 : Int)], [LObj.boxT none [AV.rowA 1, AV.mp 2], LObj.row (Ty.int IntKind.u8) b, LObj.mpo Ty.str (Ty.int IntKind.i64) m])) (Tr.br (bigS d) (Tr.br (putC (bif okV k d then partsV k d else []) (layV k) (↑(List.length (layV k)) : Int) (0 : Int) b m) (Tr.ret ([AV.int IntKind.i64 (0 : Int)], [LObj.boxT none [AV.rowA 1, AV.mp 2], LObj.row (Ty.int IntKind.u8) (bytesInt (Prod.fst (putS (layV k) (bif okV k d then partsV k d else []) (intBytes b, m)))), LObj.mpo Ty.str (Ty.int IntKind.i64) (Prod.snd (putS (layV k) (bif okV k d then partsV k d else []) (intBytes b, m)))])) Tr.no) Tr.no)) Tr.no
def os17 : OSpec := { f := 17, sh := [.ptr 0 0, .d (.int .u16) false, .d .str false], so := [.box [.row 1, .mp 2], .row (.int .u8), .map .str (.int .i64)], F := fun (k, d, _) (_, b, m, _) => t17 k d b m }
set_option maxRecDepth 1000000 in
theorem fn17 (k : Int) (d : List UInt8) (b : List Int) (m : List (List UInt8 × Int)) : evC T0 (orcB [fs40w, fs39w, fs36w] [os24w, os22]) (lpOf h17 3 (lsOf [ls17])) c17 1000000 (startSt [.ptr 0 0, .int .u16 k, .str d] [.box [.rowA 1, .mp 2], .row (.int .u8) b, .mpo .str (.int .i64) m] Try.f17.ntmps) (finishK T0 false 3 Try.f17) = (t17 k d b m).get := by kernel_rfl
theorem ok17 : os17.Ok Try.prog := by
  refine os_ok mixed0 tab0 (orcB_sound (all_cons okf40w (all_cons okf39w (all_cons okf36w all_nil))) (all_cons ok24w (all_cons ok22 all_nil))) h17 (d := 0) (n0 := 3) (S := lsOf [ls17]) Try.func17 (by kernel_rfl) (c := c17) (by kernel_rfl) rfl (loops_eq (xs := [(0, b17)]) (by kernel_rfl) (all_cons (ls_here loop17) all_nil)) (by omega) (by kernel_rfl) ?_
  intro x'' y'' q'' hq''
  obtain ⟨(k : Int), (d : List UInt8), _⟩ := x''
  obtain ⟨_, (b : List Int), (m : List (List UInt8 × Int)), _⟩ := y''
  exact (fn17 k d b m).trans hq''
noncomputable def b32 : Code := nthLoop c32 0
def ls32 : LoopSpec := { bid := 0, sh := [.d .str false, .d (.int .i64) false, .d (.int .u16) false, .d (.int .i64) false, .d .str false, .d (.list (.int .i64)) false, .d (.int .i64) false, .d (.int .i64) false], so := [], F := fun (s, at_, k, end_, d, ps, n, i, _) _ => .on2 (takeC s at_ end_ d ps n i) ((takeD ps s at_ end_ d).1) (.exit 0, [.int .i64 (takeD ps s at_ end_ d).2.1, .int .u16 k, .dead, .dead, .int .i64 end_, .str (takeD ps s at_ end_ d).2.2], []) (.ret, [.int .i64 (takeD ps s at_ end_ d).2.1, .int .u16 k, .str [], .int .i64 2, .int .i64 end_, .str (takeD ps s at_ end_ d).2.2], []) }
def r32 (s : List UInt8) (at_ : Int) (k : Int) (end_ : Int) (d : List UInt8) (ps : List Int) (n : Int) (i : Int) : Tr (St ⊕ (Ex × St)) := Tr.br (decide (i < n)) (Tr.br (decide ((0 : Int) ≤ i)) (Tr.br (decide (i < (↑(List.length ps) : Int))) (Tr.br (List.getD ps (Int.toNat i) (Ty.dflt (Ty.int IntKind.i64)) == (-2 : Int)) (Tr.br (List.getD ps (Int.toNat i) (Ty.dflt (Ty.int IntKind.i64)) == (-1 : Int)) (Tr.br (bigS s) (Tr.br (tkE (takeG s at_ at_ (-1 : Int) []) != (0 : Int)) (Tr.ret (Sum.inr (Ex.ret, stOf [1, 3, 8, 9, 13, 14] [AV.int IntKind.i64 at_, AV.int IntKind.u16 k, AV.str [], AV.int IntKind.i64 (2 : Int), AV.int IntKind.i64 end_, AV.str d] []))) (Tr.br (decide (tkN (takeG s at_ at_ (-1 : Int) []) > end_)) (Tr.ret (Sum.inr (Ex.ret, stOf [1, 3, 8, 9, 13, 14] [AV.int IntKind.i64 at_, AV.int IntKind.u16 k, AV.str [], AV.int IntKind.i64 (2 : Int), AV.int IntKind.i64 end_, AV.str d] []))) (Tr.br (Nat.ble (List.length d + List.length (tkS (takeG s at_ at_ (-1 : Int) []))) 9223372036854775807) (Tr.ret (Sum.inl (stOf [0, 1, 3, 13, 14, 39, 40, 41] [AV.str s, AV.int IntKind.i64 (tkN (takeG s at_ at_ (-1 : Int) [])), AV.int IntKind.u16 k, AV.int IntKind.i64 end_, AV.str (d ++ tkS (takeG s at_ at_ (-1 : Int) [])), AV.list (Ty.int IntKind.i64) ps, AV.int IntKind.i64 n, AV.int IntKind.i64 (IntKind.wrap IntKind.i64 (i + (1 : Int)))] []))) Tr.no))) Tr.no) (Tr.br (bigS s) (Tr.br (someB s at_ (IntKind.wrap IntKind.i64 (end_ - at_))) (Tr.br (decide (at_ + IntKind.wrap IntKind.i64 (end_ - at_) > end_)) (Tr.ret (Sum.inr (Ex.ret, stOf [1, 3, 8, 9, 13, 14] [AV.int IntKind.i64 at_, AV.int IntKind.u16 k, AV.str [], AV.int IntKind.i64 (2 : Int), AV.int IntKind.i64 end_, AV.str d] []))) (Tr.br (Nat.ble (List.length d + List.length (someV s at_ (IntKind.wrap IntKind.i64 (end_ - at_)))) 9223372036854775807) (Tr.ret (Sum.inl (stOf [0, 1, 3, 13, 14, 39, 40, 41] [AV.str s, AV.int IntKind.i64 (at_ + IntKind.wrap IntKind.i64 (end_ - at_)), AV.int IntKind.u16 k, AV.int IntKind.i64 end_, AV.str (d ++ someV s at_ (IntKind.wrap IntKind.i64 (end_ - at_))), AV.list (Ty.int IntKind.i64) ps, AV.int IntKind.i64 n, AV.int IntKind.i64 (IntKind.wrap IntKind.i64 (i + (1 : Int)))] []))) Tr.no)) (Tr.ret (Sum.inr (Ex.ret, stOf [1, 3, 8, 9, 13, 14] [AV.int IntKind.i64 at_, AV.int IntKind.u16 k, AV.str [], AV.int IntKind.i64 (2 : Int), AV.int IntKind.i64 end_, AV.str d] [])))) Tr.no)) (Tr.br (List.getD ps (Int.toNat i) (Ty.dflt (Ty.int IntKind.i64)) == (-3 : Int)) (Tr.br (List.getD ps (Int.toNat i) (Ty.dflt (Ty.int IntKind.i64)) == (-1 : Int)) (Tr.br (bigS s) (Tr.br (tkE (takeG s at_ at_ (-1 : Int) []) != (0 : Int)) (Tr.ret (Sum.inr (Ex.ret, stOf [1, 3, 8, 9, 13, 14] [AV.int IntKind.i64 at_, AV.int IntKind.u16 k, AV.str [], AV.int IntKind.i64 (2 : Int), AV.int IntKind.i64 end_, AV.str d] []))) (Tr.br (decide (tkN (takeG s at_ at_ (-1 : Int) []) > end_)) (Tr.ret (Sum.inr (Ex.ret, stOf [1, 3, 8, 9, 13, 14] [AV.int IntKind.i64 at_, AV.int IntKind.u16 k, AV.str [], AV.int IntKind.i64 (2 : Int), AV.int IntKind.i64 end_, AV.str d] []))) (Tr.br (Nat.ble (List.length d + List.length (tkS (takeG s at_ at_ (-1 : Int) []))) 9223372036854775807) (Tr.ret (Sum.inl (stOf [0, 1, 3, 13, 14, 39, 40, 41] [AV.str s, AV.int IntKind.i64 (tkN (takeG s at_ at_ (-1 : Int) [])), AV.int IntKind.u16 k, AV.int IntKind.i64 end_, AV.str (d ++ tkS (takeG s at_ at_ (-1 : Int) [])), AV.list (Ty.int IntKind.i64) ps, AV.int IntKind.i64 n, AV.int IntKind.i64 (IntKind.wrap IntKind.i64 (i + (1 : Int)))] []))) Tr.no))) Tr.no) (Tr.br (bigS s) (Tr.br (someB s at_ (IntKind.wrap IntKind.i64 (end_ - at_))) (Tr.br (decide (at_ + IntKind.wrap IntKind.i64 (end_ - at_) > end_)) (Tr.ret (Sum.inr (Ex.ret, stOf [1, 3, 8, 9, 13, 14] [AV.int IntKind.i64 at_, AV.int IntKind.u16 k, AV.str [], AV.int IntKind.i64 (2 : Int), AV.int IntKind.i64 end_, AV.str d] []))) (Tr.br (Nat.ble (List.length d + List.length (someV s at_ (IntKind.wrap IntKind.i64 (end_ - at_)))) 9223372036854775807) (Tr.ret (Sum.inl (stOf [0, 1, 3, 13, 14, 39, 40, 41] [AV.str s, AV.int IntKind.i64 (at_ + IntKind.wrap IntKind.i64 (end_ - at_)), AV.int IntKind.u16 k, AV.int IntKind.i64 end_, AV.str (d ++ someV s at_ (IntKind.wrap IntKind.i64 (end_ - at_))), AV.list (Ty.int IntKind.i64) ps, AV.int IntKind.i64 n, AV.int IntKind.i64 (IntKind.wrap IntKind.i64 (i + (1 : Int)))] []))) Tr.no)) (Tr.ret (Sum.inr (Ex.ret, stOf [1, 3, 8, 9, 13, 14] [AV.int IntKind.i64 at_, AV.int IntKind.u16 k, AV.str [], AV.int IntKind.i64 (2 : Int), AV.int IntKind.i64 end_, AV.str d] [])))) Tr.no)) (Tr.br (List.getD ps (Int.toNat i) (Ty.dflt (Ty.int IntKind.i64)) == (-1 : Int)) (Tr.br (bigS s) (Tr.br (tkE (takeG s at_ at_ (-1 : Int) []) != (0 : Int)) (Tr.ret (Sum.inr (Ex.ret, stOf [1, 3, 8, 9, 13, 14] [AV.int IntKind.i64 at_, AV.int IntKind.u16 k, AV.str [], AV.int IntKind.i64 (2 : Int), AV.int IntKind.i64 end_, AV.str d] []))) (Tr.br (decide (tkN (takeG s at_ at_ (-1 : Int) []) > end_)) (Tr.ret (Sum.inr (Ex.ret, stOf [1, 3, 8, 9, 13, 14] [AV.int IntKind.i64 at_, AV.int IntKind.u16 k, AV.str [], AV.int IntKind.i64 (2 : Int), AV.int IntKind.i64 end_, AV.str d] []))) (Tr.br (Nat.ble (List.length d + List.length (tkS (takeG s at_ at_ (-1 : Int) []))) 9223372036854775807) (Tr.ret (Sum.inl (stOf [0, 1, 3, 13, 14, 39, 40, 41] [AV.str s, AV.int IntKind.i64 (tkN (takeG s at_ at_ (-1 : Int) [])), AV.int IntKind.u16 k, AV.int IntKind.i64 end_, AV.str (d ++ tkS (takeG s at_ at_ (-1 : Int) [])), AV.list (Ty.int IntKind.i64) ps, AV.int IntKind.i64 n, AV.int IntKind.i64 (IntKind.wrap IntKind.i64 (i + (1 : Int)))] []))) Tr.no))) Tr.no) (Tr.br (bigS s) (Tr.br (someB s at_ (List.getD ps (Int.toNat i) (Ty.dflt (Ty.int IntKind.i64)))) (Tr.br (decide (at_ + List.getD ps (Int.toNat i) (Ty.dflt (Ty.int IntKind.i64)) > end_)) (Tr.ret (Sum.inr (Ex.ret, stOf [1, 3, 8, 9, 13, 14] [AV.int IntKind.i64 at_, AV.int IntKind.u16 k, AV.str [], AV.int IntKind.i64 (2 : Int), AV.int IntKind.i64 end_, AV.str d] []))) (Tr.br (Nat.ble (List.length d + List.length (someV s at_ (List.getD ps (Int.toNat i) (Ty.dflt (Ty.int IntKind.i64))))) 9223372036854775807) (Tr.ret (Sum.inl (stOf [0, 1, 3, 13, 14, 39, 40, 41] [AV.str s, AV.int IntKind.i64 (at_ + List.getD ps (Int.toNat i) (Ty.dflt (Ty.int IntKind.i64))), AV.int IntKind.u16 k, AV.int IntKind.i64 end_, AV.str (d ++ someV s at_ (List.getD ps (Int.toNat i) (Ty.dflt (Ty.int IntKind.i64)))), AV.list (Ty.int IntKind.i64) ps, AV.int IntKind.i64 n, AV.int IntKind.i64 (IntKind.wrap IntKind.i64 (i + (1 : Int)))] []))) Tr.no)) (Tr.ret (Sum.inr (Ex.ret, stOf [1, 3, 8, 9, 13, 14] [AV.int IntKind.i64 at_, AV.int IntKind.u16 k, AV.str [], AV.int IntKind.i64 (2 : Int), AV.int IntKind.i64 end_, AV.str d] [])))) Tr.no)))) Tr.no) Tr.no) (Tr.ret (Sum.inr (Ex.exit 0, stOf [1, 3, 8, 9, 13, 14] [AV.int IntKind.i64 at_, AV.int IntKind.u16 k, AV.dead, AV.dead, AV.int IntKind.i64 end_, AV.str d] [])))
set_option maxRecDepth 1000000 in
theorem round32 (lp : Lp) (s : List UInt8) (at_ : Int) (k : Int) (end_ : Int) (d : List UInt8) (ps : List Int) (n : Int) (i : Int) : evC T0 (orcB [fs40w, fs36w, fs48w, fs27w] []) lp b32 0 (stOf [0, 1, 3, 13, 14, 39, 40, 41] [.str s, .int .i64 at_, .int .u16 k, .int .i64 end_, .str d, .list (.int .i64) ps, .int .i64 n, .int .i64 i] []) (roundK [0, 1, 3, 13, 14, 39, 40, 41] [1, 3, 8, 9, 13, 14] 0) = (r32 s at_ k end_ d ps n i).get := by kernel_rfl
theorem wf32 (s : List UInt8) (k : Int) (end_ : Int) (ps : List Int) (n : Int) (I'' : Int → List UInt8 → Int → Prop) (m'' : Int → List UInt8 → Int → Nat) (r'' : Ex × St) (h : ∀ (at_ : Int) (d : List UInt8) (i : Int), I'' at_ d i → (r32 s at_ k end_ d ps n i).all fun x'' => x'' = .inr r'' ∨ ∃ (at_' : Int) (d' : List UInt8) (i' : Int), x'' = .inl (stOf [0, 1, 3, 13, 14, 39, 40, 41] [.str s, .int .i64 at_', .int .u16 k, .int .i64 end_, .str d', .list (.int .i64) ps, .int .i64 n, .int .i64 i'] []) ∧ I'' at_' d' i' ∧ m'' at_' d' i' < m'' at_ d i) (lp : Lp) (at_ : Int) (d : List UInt8) (i : Int) : I'' at_ d i →
    loopF (fun st => evC T0 (orcB [fs40w, fs36w, fs48w, fs27w] []) lp b32 0 st (roundK [0, 1, 3, 13, 14, 39, 40, 41] [1, 3, 8, 9, 13, 14] 0)) (stOf [0, 1, 3, 13, 14, 39, 40, 41] [.str s, .int .i64 at_, .int .u16 k, .int .i64 end_, .str d, .list (.int .i64) ps, .int .i64 n, .int .i64 i] []) = some r'' :=
  loop_tr (fun a'' : Int × List UInt8 × Int => stOf [0, 1, 3, 13, 14, 39, 40, 41] [.str s, .int .i64 a''.1, .int .u16 k, .int .i64 end_, .str a''.2.1, .list (.int .i64) ps, .int .i64 n, .int .i64 a''.2.2] []) (fun a'' => I'' a''.1 a''.2.1 a''.2.2) (fun a'' => m'' a''.1 a''.2.1 a''.2.2) r'' (fun a'' => r32 s a''.1 k end_ a''.2.1 ps n a''.2.2)
    (fun a'' x hx => (round32 lp s a''.1 k end_ a''.2.1 ps n a''.2.2).trans hx) (fun a'' ha => Tr.all_mono (fun x'' hx => hx.imp id fun ⟨at_', d', i', h1, h2, h3⟩ => ⟨(at_', d', i'), h1, h2, h3⟩) (h (a''.1) (a''.2.1) (a''.2.2) ha)) (at_, d, i)
def takeI (ps0 : List Int) (s : List UInt8) (a0 e : Int) (a : Int) (d : List UInt8) (i : Int) : Prop := 0 ≤ i ∧ i ≤ ps0.length ∧ 0 ≤ a ∧ a ≤ e ∧ (d.length : Int) ≤ 200000000 * i ∧ takeD (ps0.drop i.toNat) s a e d = takeD ps0 s a0 e []
theorem loop32 : ls32.Ok T0 (orcB [fs40w, fs36w, fs48w, fs27w] []) h32 0 0 b32 := by
  intro q'' hq'' x'' y'' r'' h
  obtain ⟨(s : List UInt8), (at_ : Int), (k : Int), (end_ : Int), (d : List UInt8), (ps : List Int), (n : Int), (i : Int), _⟩ := x''
  obtain ⟨hc, rfl⟩ := Tr.get_on2 h
  show loopF (fun st => evC T0 (orcB [fs40w, fs36w, fs48w, fs27w] []) (lpN T0 (orcB [fs40w, fs36w, fs48w, fs27w] []) h32 0 q'') b32 0 st (roundK [0, 1, 3, 13, 14, 39, 40, 41] [1, 3, 8, 9, 13, 14] 0)) (stOf [0, 1, 3, 13, 14, 39, 40, 41] [.str s, .int .i64 at_, .int .u16 k, .int .i64 end_, .str d, .list (.int .i64) ps, .int .i64 n, .int .i64 i] []) = some ((bif (takeD ps s at_ end_ d).1 then (.exit 0, [.int .i64 (takeD ps s at_ end_ d).2.1, .int .u16 k, .dead, .dead, .int .i64 end_, .str (takeD ps s at_ end_ d).2.2], []) else (.ret, [.int .i64 (takeD ps s at_ end_ d).2.1, .int .u16 k, .str [], .int .i64 2, .int .i64 end_, .str (takeD ps s at_ end_ d).2.2], []) : Ex × List AV × List LObj).1, stOf [1, 3, 8, 9, 13, 14] (bif (takeD ps s at_ end_ d).1 then (.exit 0, [.int .i64 (takeD ps s at_ end_ d).2.1, .int .u16 k, .dead, .dead, .int .i64 end_, .str (takeD ps s at_ end_ d).2.2], []) else (.ret, [.int .i64 (takeD ps s at_ end_ d).2.1, .int .u16 k, .str [], .int .i64 2, .int .i64 end_, .str (takeD ps s at_ end_ d).2.2], []) : Ex × List AV × List LObj).2.1 (bif (takeD ps s at_ end_ d).1 then (.exit 0, [.int .i64 (takeD ps s at_ end_ d).2.1, .int .u16 k, .dead, .dead, .int .i64 end_, .str (takeD ps s at_ end_ d).2.2], []) else (.ret, [.int .i64 (takeD ps s at_ end_ d).2.1, .int .u16 k, .str [], .int .i64 2, .int .i64 end_, .str (takeD ps s at_ end_ d).2.2], []) : Ex × List AV × List LObj).2.2)
  simp only [takeC, Bool.and_eq_true, decide_eq_true_eq, noT, List.isEmpty_iff] at hc
  obtain ⟨hb, rfl, rfl, ha0, hae, hes, rfl, hps⟩ := hc
  refine wf32 s k end_ ps _ (takeI ps s at_ end_) (fun _ _ i => (ps.length - i).toNat) _ ?_ _ at_ [] 0 ⟨by omega, by omega, ha0, hae, by simp, rfl⟩
  clear ha0 hae
  rintro a d i ⟨h0, h1, ha, hae, hdl, hF⟩
  rw [← hF]
  have hB : s.length ≤ 100000000 := by simpa [smS] using hb
  have hbig : bigS s = true := by simp [bigS]; omega
  unfold r32
  by_cases hi : i < ps.length
  · obtain ⟨d1, _⟩ := drop_getD (Ty.dflt (Ty.int IntKind.i64)) h0 hi
    generalize List.getD ps (Int.toNat i) (Ty.dflt (Ty.int IntKind.i64)) = x at d1
    rw [d1, takeD] at hF ⊢
    rw [IntWalk.i64_in (i + 1) (by omega), IntWalk.i64_in (end_ - a) (by omega)]
    refine Tr.all_t (dec_true hi) (Tr.all_t (dec_true h0) (Tr.all_t (dec_true hi) ?_))
    by_cases x1 : x = -1
    · rw [if_pos x1] at hF ⊢
      refine Tr.all_f (beq_eq_false_iff_ne.2 (by omega)) (Tr.all_f (beq_eq_false_iff_ne.2 (by omega)) (Tr.all_t (beq_iff_eq.2 x1) (Tr.all_t hbig ?_)))
      cases ho : takeG s a a (-1) [] with
      | none => exact Tr.all_t rfl (Tr.all_ret (.inl rfl))
      | some q =>
        obtain ⟨n, next⟩ := q
        obtain ⟨p1, p2, p3⟩ := takeG_place ha ho
        have hn := (may_iff.1 p1).2.1
        rw [ho] at hF
        simp only at hF ⊢
        refine Tr.all_f rfl (Tr.all_br (fun c => Tr.all_ret (.inl ?_)) fun c => Tr.all_t ?_ (Tr.all_ret (.inr ?_)))
        · have c' : next > end_ := of_decide_eq_true c
          rw [if_pos c']
          rfl
        · simp only [tkS]
          exact Nat.ble_eq_true_of_le (by omega)
        · have c' : ¬ next > end_ := of_decide_eq_false c
          rw [if_neg c'] at hF
          exact ⟨_, _, _, rfl, ⟨by omega, by omega, by simp only [tkN]; omega, by simp only [tkN]; omega, by simp only [tkS, List.length_append]; omega, hF⟩, by omega⟩
    · rw [if_neg x1] at hF ⊢
      have hx1 : (x == -1) = false := beq_eq_false_iff_ne.2 x1
      have key : ∀ sz : Int, (if x = -2 ∨ x = -3 then end_ - a else x) = sz → (someB s a sz = true ∧ a + sz ≤ end_ → takeI ps s at_ end_ (a + sz) (d ++ someV s a sz) (i + 1)) ∧ (Nat.ble (d.length + (someV s a sz).length) 9223372036854775807 = true) := fun sz hs => by
        rw [hs] at hF
        have hvl : (someV s a sz).length ≤ s.length := by unfold someV; rw [List.length_take, List.length_drop]; omega
        refine ⟨fun hh => ?_, Nat.ble_eq_true_of_le (by omega)⟩
        rw [if_pos hh] at hF
        have := someB_iff.1 hh.1
        exact ⟨by omega, by omega, by omega, hh.2, by rw [List.length_append]; omega, hF⟩
      have half : ∀ sz : Int, (if x = -2 ∨ x = -3 then end_ - a else x) = sz → (Tr.br (bigS s) (Tr.br (someB s a sz) (Tr.br (decide (a + sz > end_)) (Tr.ret (Sum.inr (Ex.ret, stOf [1, 3, 8, 9, 13, 14] [AV.int IntKind.i64 a, AV.int IntKind.u16 k, AV.str [], AV.int IntKind.i64 (2 : Int), AV.int IntKind.i64 end_, AV.str d] []))) (Tr.br (Nat.ble (List.length d + List.length (someV s a sz)) 9223372036854775807) (Tr.ret (Sum.inl (stOf [0, 1, 3, 13, 14, 39, 40, 41] [AV.str s, AV.int IntKind.i64 (a + sz), AV.int IntKind.u16 k, AV.int IntKind.i64 end_, AV.str (d ++ someV s a sz), AV.list (Ty.int IntKind.i64) ps, AV.int IntKind.i64 ps.length, AV.int IntKind.i64 (i + 1)] []))) Tr.no)) (Tr.ret (Sum.inr (Ex.ret, stOf [1, 3, 8, 9, 13, 14] [AV.int IntKind.i64 a, AV.int IntKind.u16 k, AV.str [], AV.int IntKind.i64 (2 : Int), AV.int IntKind.i64 end_, AV.str d] [])))) Tr.no).all
          fun x'' => x'' = .inr ((bif (if someB s a sz = true ∧ a + sz ≤ end_ then takeD (ps.drop (i + 1).toNat) s (a + sz) end_ (d ++ someV s a sz) else (false, a, d)).1 then (Ex.exit 0, [.int .i64 (if someB s a sz = true ∧ a + sz ≤ end_ then takeD (ps.drop (i + 1).toNat) s (a + sz) end_ (d ++ someV s a sz) else (false, a, d)).2.1, .int .u16 k, .dead, .dead, .int .i64 end_, .str (if someB s a sz = true ∧ a + sz ≤ end_ then takeD (ps.drop (i + 1).toNat) s (a + sz) end_ (d ++ someV s a sz) else (false, a, d)).2.2], []) else (Ex.ret, [.int .i64 (if someB s a sz = true ∧ a + sz ≤ end_ then takeD (ps.drop (i + 1).toNat) s (a + sz) end_ (d ++ someV s a sz) else (false, a, d)).2.1, .int .u16 k, .str [], .int .i64 2, .int .i64 end_, .str (if someB s a sz = true ∧ a + sz ≤ end_ then takeD (ps.drop (i + 1).toNat) s (a + sz) end_ (d ++ someV s a sz) else (false, a, d)).2.2], []) : Ex × List AV × List LObj).1, stOf [1, 3, 8, 9, 13, 14] (bif (if someB s a sz = true ∧ a + sz ≤ end_ then takeD (ps.drop (i + 1).toNat) s (a + sz) end_ (d ++ someV s a sz) else (false, a, d)).1 then (Ex.exit 0, [.int .i64 (if someB s a sz = true ∧ a + sz ≤ end_ then takeD (ps.drop (i + 1).toNat) s (a + sz) end_ (d ++ someV s a sz) else (false, a, d)).2.1, .int .u16 k, .dead, .dead, .int .i64 end_, .str (if someB s a sz = true ∧ a + sz ≤ end_ then takeD (ps.drop (i + 1).toNat) s (a + sz) end_ (d ++ someV s a sz) else (false, a, d)).2.2], []) else (Ex.ret, [.int .i64 (if someB s a sz = true ∧ a + sz ≤ end_ then takeD (ps.drop (i + 1).toNat) s (a + sz) end_ (d ++ someV s a sz) else (false, a, d)).2.1, .int .u16 k, .str [], .int .i64 2, .int .i64 end_, .str (if someB s a sz = true ∧ a + sz ≤ end_ then takeD (ps.drop (i + 1).toNat) s (a + sz) end_ (d ++ someV s a sz) else (false, a, d)).2.2], []) : Ex × List AV × List LObj).2.1 (bif (if someB s a sz = true ∧ a + sz ≤ end_ then takeD (ps.drop (i + 1).toNat) s (a + sz) end_ (d ++ someV s a sz) else (false, a, d)).1 then (Ex.exit 0, [.int .i64 (if someB s a sz = true ∧ a + sz ≤ end_ then takeD (ps.drop (i + 1).toNat) s (a + sz) end_ (d ++ someV s a sz) else (false, a, d)).2.1, .int .u16 k, .dead, .dead, .int .i64 end_, .str (if someB s a sz = true ∧ a + sz ≤ end_ then takeD (ps.drop (i + 1).toNat) s (a + sz) end_ (d ++ someV s a sz) else (false, a, d)).2.2], []) else (Ex.ret, [.int .i64 (if someB s a sz = true ∧ a + sz ≤ end_ then takeD (ps.drop (i + 1).toNat) s (a + sz) end_ (d ++ someV s a sz) else (false, a, d)).2.1, .int .u16 k, .str [], .int .i64 2, .int .i64 end_, .str (if someB s a sz = true ∧ a + sz ≤ end_ then takeD (ps.drop (i + 1).toNat) s (a + sz) end_ (d ++ someV s a sz) else (false, a, d)).2.2], []) : Ex × List AV × List LObj).2.2) ∨
            ∃ at' d' i', x'' = .inl (stOf [0, 1, 3, 13, 14, 39, 40, 41] [AV.str s, AV.int IntKind.i64 at', AV.int IntKind.u16 k, AV.int IntKind.i64 end_, AV.str d', AV.list (Ty.int IntKind.i64) ps, AV.int IntKind.i64 ps.length, AV.int IntKind.i64 i'] []) ∧ takeI ps s at_ end_ at' d' i' ∧ (ps.length - i').toNat < (ps.length - i).toNat := fun sz hs => by
        obtain ⟨k1, k2⟩ := key sz hs
        refine Tr.all_t hbig (Tr.all_br (fun c1 => Tr.all_br (fun c2 => Tr.all_ret (.inl ?_)) fun c2 => Tr.all_t k2 (Tr.all_ret (.inr ⟨_, _, _, rfl, k1 ⟨c1, ?_⟩, by omega⟩))) fun c1 => Tr.all_ret (.inl ?_))
        · simp only [decide_eq_true_eq] at c2
          rw [if_neg (by omega)]
          rfl
        · simp only [decide_eq_false_iff_not] at c2
          omega
        · rw [if_neg (by rw [c1]; simp)]
          rfl
      by_cases x2 : x = -2
      · rw [if_pos (Or.inl x2)]
        exact Tr.all_t (beq_iff_eq.2 x2) (Tr.all_f hx1 (half _ (if_pos (Or.inl x2))))
      · by_cases x3 : x = -3
        · rw [if_pos (Or.inr x3)]
          exact Tr.all_f (beq_eq_false_iff_ne.2 x2) (Tr.all_t (beq_iff_eq.2 x3) (Tr.all_f hx1 (half _ (if_pos (Or.inr x3)))))
        · have hne : ¬ (x = -2 ∨ x = -3) := by omega
          rw [if_neg hne]
          exact Tr.all_f (beq_eq_false_iff_ne.2 x2) (Tr.all_f (beq_eq_false_iff_ne.2 x3) (Tr.all_f hx1 (half _ (if_neg hne))))
  · refine Tr.all_f (dec_false hi) (Tr.all_ret (.inl ?_))
    rw [List.drop_eq_nil_of_le (by omega)]
    rfl
/-- rdata.Take -/
def t32 (s : List UInt8) (at_ : Int) (many : Int) (k : Int) : Tr Res := Tr.br (bigS s) (Tr.br (someB s at_ many) (Tr.br (takeC s at_ (IntKind.wrap IntKind.i64 (at_ + many)) ([]) (layV k) (↑(List.length (layV k)) : Int) (0 : Int)) (Tr.br (Prod.fst (takeD (layV k) s at_ (IntKind.wrap IntKind.i64 (at_ + many)) ([]))) (Tr.br (Prod.fst (Prod.snd (takeD (layV k) s at_ (IntKind.wrap IntKind.i64 (at_ + many)) ([]))) != IntKind.wrap IntKind.i64 (at_ + many)) (Tr.ret ([AV.str [], AV.int IntKind.i64 (2 : Int)], [])) (Tr.br (bigS (Prod.snd (Prod.snd (takeD (layV k) s at_ (IntKind.wrap IntKind.i64 (at_ + many)) ([]))))) (Tr.br (!mayR k (Prod.snd (Prod.snd (takeD (layV k) s at_ (IntKind.wrap IntKind.i64 (at_ + many)) ([]))))) (Tr.ret ([AV.str [], AV.int IntKind.i64 (2 : Int)], [])) (Tr.ret ([AV.str (Prod.snd (Prod.snd (takeD (layV k) s at_ (IntKind.wrap IntKind.i64 (at_ + many)) ([])))), AV.int IntKind.i64 (0 : Int)], []))) Tr.no)) (Tr.ret ([AV.str [], AV.int IntKind.i64 (2 : Int)], []))) Tr.no) (Tr.ret ([AV.str [], AV.int IntKind.i64 (2 : Int)], []))) Tr.no
def os32 : OSpec := { f := 32, sh := [.d .str false, .d (.int .i64) false, .d (.int .i64) false, .d (.int .u16) false], so := [], F := fun (s, at_, many, k, _) _ => t32 s at_ many k }
set_option maxRecDepth 1000000 in
theorem fn32 (s : List UInt8) (at_ : Int) (many : Int) (k : Int) : evC T0 (orcB [fs40w, fs36w, fs48w, fs27w] []) (lpOf h32 0 (lsOf [ls32])) c32 1000000 (startSt [.str s, .int .i64 at_, .int .i64 many, .int .u16 k] [] Try.f32.ntmps) (finishK T0 false 0 Try.f32) = (t32 s at_ many k).get := by kernel_rfl
theorem ok32 : os32.Ok Try.prog := by
  refine os_ok mixed0 tab0 (orcB_sound (all_cons okf40w (all_cons okf36w (all_cons okf48w (all_cons okf27w all_nil)))) all_nil) h32 (d := 0) (n0 := 0) (S := lsOf [ls32]) Try.func32 (by kernel_rfl) (c := c32) (by kernel_rfl) rfl (loops_eq (xs := [(0, b32)]) (by kernel_rfl) (all_cons (ls_here loop32) all_nil)) (by omega) (by kernel_rfl) ?_
  intro x'' y'' q'' hq''
  obtain ⟨(s : List UInt8), (at_ : Int), (many : Int), (k : Int), _⟩ := x''
  exact (fn32 s at_ many k).trans hq''
def fs32 : FSpec := fsT 32 [(.str, false), ((.int .i64), false), ((.int .i64), false), ((.int .u16), false)] [(.str, false), ((.int .i64), false)] fun (s, at_, many, k, _) => t32 s at_ many k
theorem okf32 : fs32.Ok Try.prog := fsT_ok fun x'' r'' hr'' => ok32 x'' () r'' hr''
end Go.Proofs.YtfepkpindchleaaE

/- Data of records, as the document has it: plain words; they are the same. -/
namespace Go.Proofs.YtfepkpindchleaaE
open Go Go.Proofs.YtfepkpindchleaaB
set_option linter.unusedVariables false
set_option linter.unusedSimpArgs false
theorem byN_drop (s : List UInt8) (k j : Nat) : byN (s.drop k) j = byN s (k + j) := by
  unfold byN
  rw [List.getD_eq_getElem?_getD, List.getD_eq_getElem?_getD, List.getElem?_drop]
theorem whAt_drop {s : List UInt8} : ∀ (m k j : Nat), s.length - (k + j) = m → k ≤ s.length → whAt s (k + j) = k + whAt (s.drop k) j := by
  intro m
  induction m using Nat.strongRecOn with
  | _ m ih =>
    intro k j hm hk
    rw [whAt.eq_1 s, whAt.eq_1 (s.drop k), byN_drop, List.length_drop]
    by_cases h : k + j < s.length ∧ 0 < byN s (k + j)
    · rw [dif_pos h, dif_pos ⟨by omega, h.2⟩, show k + j + 1 + byN s (k + j) = k + (j + 1 + byN s (k + j)) by omega]
      exact ih (s.length - (k + (j + 1 + byN s (k + j)))) (by omega) k _ rfl hk
    · rw [dif_neg h, dif_neg (by omega)]
theorem byN_left {t r : List UInt8} {k : Nat} (h : k < t.length) : byN (t ++ r) k = byN t k := byN_app h
/-- A name stands where its byte 0 says. -/
theorem root_wh : ∀ (m : Nat) (t r : List UInt8), t.length = m → rootV t = true → whAt (t ++ r) 0 + 1 = t.length := by
  intro m
  induction m using Nat.strongRecOn with
  | _ m ih =>
    intro t r hm hr
    rcases root_cases hr with rfl | ⟨_, hn, hlt, _, hne, hrt⟩
    · rw [whAt, dif_neg (fun h => by have : byN ([0] ++ r) 0 = 0 := rfl; omega)]
      rfl
    · have hb : byN (t ++ r) 0 = (t.getD 0 0).toNat := byN_left (by omega)
      have hp : 0 < byN (t ++ r) 0 := by omega
      have hsp : (t ++ r).drop (0 + 1 + byN (t ++ r) 0) = tlN t ++ r := by
        unfold tlN
        rw [hb, List.drop_append_of_le_length (by omega), show 0 + 1 + (t.getD 0 0).toNat = 1 + (t.getD 0 0).toNat by omega]
      have hl := tlN_len t
      rw [whAt, dif_pos ⟨by simp; omega, hp⟩]
      have hd := whAt_drop (s := t ++ r) _ (0 + 1 + byN (t ++ r) 0) 0 rfl (by simp; omega)
      rw [Nat.add_zero] at hd
      rw [hd, hsp, Nat.add_assoc, ih (tlN t).length (by omega) (tlN t) r rfl hrt]
      omega
theorem whole_of {d : List UInt8} {k : Nat} (hk : k ≤ d.length) (h : mayV (d.take k) = true) : wholeV d = k ∧ 1 ≤ k ∧ k ≤ 255 := by
  obtain ⟨h1, h2, _⟩ := may_iff.1 h
  have := root_wh _ (d.take k) (d.drop k) rfl h1
  rw [List.take_append_drop, List.length_take, Nat.min_eq_left hk] at this
  rw [List.length_take, Nat.min_eq_left hk] at h2
  unfold wholeV
  rw [this, if_pos ⟨by omega, h⟩]
  exact ⟨rfl, by omega, h2⟩
theorem whole_may {d : List UInt8} (h : wholeV d ≠ 0) : mayV (d.take (wholeV d)) = true := by
  unfold wholeV at h ⊢
  split at h
  · rename_i hc
    rw [if_pos hc]
    exact hc.2
  · exact absurd rfl h
theorem whole_all {d : List UInt8} : mayV d = true ↔ wholeV d ≠ 0 ∧ wholeV d = d.length := by
  constructor
  · intro h
    have := whole_of (d := d) (k := d.length) (Nat.le_refl _) (by rw [List.take_length]; exact h)
    omega
  · rintro ⟨h1, h2⟩
    have := whole_may h1
    rwa [h2, List.take_length] at this
/-- Texts, one behind the other. -/
theorem txAt_drop {s : List UInt8} : ∀ (m k j : Nat), s.length - (k + j) = m → k ≤ s.length → txAt s (k + j) = k + txAt (s.drop k) j := by
  intro m
  induction m using Nat.strongRecOn with
  | _ m ih =>
    intro k j hm hk
    rw [txAt.eq_1 s, txAt.eq_1 (s.drop k), byN_drop, List.length_drop]
    by_cases h : k + j < s.length
    · rw [dif_pos h, dif_pos (by omega), show k + j + 1 + byN s (k + j) = k + (j + 1 + byN s (k + j)) by omega]
      exact ih (s.length - (k + (j + 1 + byN s (k + j)))) (by omega) k _ rfl hk
    · rw [dif_neg h, dif_neg (by omega)]
theorem txAt_ge {s : List UInt8} : ∀ (m k : Nat), s.length - k = m → k ≤ txAt s k := by
  intro m
  induction m using Nat.strongRecOn with
  | _ m ih =>
    intro k hm
    rw [txAt]
    split
    · have := ih (s.length - (k + 1 + byN s k)) (by omega) _ rfl
      omega
    · exact Nat.le_refl _
def texR (s : List UInt8) : Bool := decide (txAt s 0 = s.length)
theorem texR_nil : texR [] = true := by
  unfold texR
  rw [txAt, dif_neg (by simp)]
  rfl
theorem texR_long {s : List UInt8} (h0 : s ≠ []) (h : s.length < 1 + byN s 0) : texR s = false := by
  have := List.length_pos_iff.2 h0
  unfold texR
  rw [txAt, dif_pos this]
  have := txAt_ge (s := s) _ (0 + 1 + byN s 0) rfl
  exact decide_eq_false (by omega)
theorem texR_on {s : List UInt8} (h0 : s ≠ []) (h : 1 + byN s 0 ≤ s.length) : texR s = texR (s.drop (1 + byN s 0)) := by
  have := List.length_pos_iff.2 h0
  unfold texR
  rw [txAt, dif_pos this]
  have hd := txAt_drop (s := s) _ (1 + byN s 0) 0 rfl h
  rw [Nat.add_zero] at hd
  rw [show 0 + 1 + byN s 0 = 1 + byN s 0 by omega, hd, List.length_drop]
  rw [Bool.eq_iff_iff]
  simp
  omega
/-- So many names, one behind the other. -/
def nmsV : Nat → List UInt8 → Int → Int → List UInt8 → Bool × (Int × List UInt8)
  | 0, _, a, _, d => (true, a, d)
  | m + 1, s, a, e, d =>
    match takeG s a a (-1) [] with
    | none => (false, a, d)
    | some (n, next) => if next > e then (false, a, d) else nmsV m s next e (d ++ n)
def nmD (s : List UInt8) (a e m : Int) : List UInt8 := bif (nmsV m.toNat s a e []).1 then (nmsV m.toNat s a e []).2.2 else []
def nmA (s : List UInt8) (a e m : Int) : Int := bif (nmsV m.toNat s a e []).1 then (nmsV m.toNat s a e []).2.1 else 0
def nmsC (s : List UInt8) (many i : Int) (d : List UInt8) : Bool := bigS s && (decide (0 ≤ many) && (decide (many ≤ 3) && (decide (i = 0) && noT d)))
def smC (s : List UInt8) (a m i : Int) (b : List Int) : Bool := bigS s && (someB s a m && (decide (i = 0) && b.isEmpty))
theorem may_nil : mayV [] = false := by
  cases h : mayV [] with
  | false => rfl
  | true =>
    rcases root_cases (may_iff.1 h).1 with h | ⟨_, h, _⟩
    · cases h
    · exact absurd rfl h
theorem cutS_facts : ∀ (ps : List Int) (d : List UInt8) (out : List (List UInt8)), (cutS ps d out).1 = true → ∃ l, (cutS ps d out).2.2 = out ++ l ∧ l.length = ps.length ∧ (∀ x ∈ l, x.length ≤ d.length) ∧ l.flatten ++ (cutS ps d out).2.1 = d
  | [], d, out, _ => ⟨[], by simp [cutS]⟩
  | p :: ps, d, out, h => by
    unfold cutS at h ⊢
    by_cases ho : okP p d = true
    · rw [if_pos ho] at h ⊢
      obtain ⟨l, h1, h2, h3, h4⟩ := cutS_facts ps _ _ h
      refine ⟨d.take (szP p d).toNat :: l, by rw [h1, List.append_assoc]; rfl, by simp [h2], fun x hx => ?_, ?_⟩
      · rcases List.mem_cons.1 hx with rfl | hx
        · rw [List.length_take]; omega
        · have := h3 x hx
          rw [List.length_drop] at this
          omega
      · rw [List.flatten_cons, List.append_assoc, h4, List.take_append_drop]
    · rw [if_neg ho] at h
      cases h
theorem may_parts {k : Int} {d : List UInt8} (h : mayR k d = true) : okV k d = true ∧ restV k d = [] ∧ d.length ≤ 65535 ∧ (partsV k d).length = (layV k).length ∧ (∀ x ∈ partsV k d, x.length ≤ d.length) ∧ (partsV k d).flatten = d := by
  unfold mayR at h
  simp only [Bool.and_eq_true, List.isEmpty_iff] at h
  obtain ⟨⟨h1, h2⟩, h3⟩ := h
  obtain ⟨l, a1, a2, a3, a4⟩ := cutS_facts (layV k) d [] h1
  have a1 : partsV k d = l := a1
  have h2' : (cutS (layV k) d []).2.1 = [] := h2
  rw [h2', List.append_nil] at a4
  exact ⟨h1, h2, Nat.le_of_ble_eq_true h3, by rw [a1, a2], by rw [a1]; exact a3, by rw [a1, a4]⟩
/-! ### Whether data may be, type by type -/
theorem cutS_out : ∀ (ps : List Int) (d : List UInt8) (out : List (List UInt8)), (cutS ps d out).1 = (cutS ps d []).1 ∧ (cutS ps d out).2.1 = (cutS ps d []).2.1
  | [], _, _ => ⟨rfl, rfl⟩
  | x :: ps, d, out => by
    unfold cutS
    by_cases h : okP x d = true
    · rw [if_pos h, if_pos h]
      obtain ⟨a1, a2⟩ := cutS_out ps (d.drop (szP x d).toNat) (out ++ [d.take (szP x d).toNat])
      obtain ⟨b1, b2⟩ := cutS_out ps (d.drop (szP x d).toNat) ([] ++ [d.take (szP x d).toNat])
      exact ⟨a1.trans b1.symm, a2.trans b2.symm⟩
    · rw [if_neg h, if_neg h]
      exact ⟨rfl, rfl⟩
def cutB (ps : List Int) (d : List UInt8) : Bool := (cutS ps d []).1 && (cutS ps d []).2.1.isEmpty
theorem cutB_cons (x : Int) (ps : List Int) (d : List UInt8) : cutB (x :: ps) d = (okP x d && cutB ps (d.drop (szP x d).toNat)) := by
  unfold cutB
  rw [cutS]
  cases h : okP x d with
  | true =>
    rw [if_pos rfl]
    obtain ⟨a1, a2⟩ := cutS_out ps (d.drop (szP x d).toNat) ([] ++ [d.take (szP x d).toNat])
    rw [a1, a2, Bool.true_and]
  | false =>
    rw [if_neg Bool.false_ne_true]
    rfl
theorem cutB_nil (d : List UInt8) : cutB [] d = d.isEmpty := rfl
theorem mayR_cut (k : Int) (d : List UInt8) : mayR k d = (cutB (layV k) d && Nat.ble d.length 65535) := rfl
theorem okP_fix {x : Int} (h : 0 ≤ x) (d : List UInt8) : szP x d = x ∧ okP x d = decide (x ≤ (d.length : Int)) := by
  have es : szP x d = x := by unfold szP; rw [if_neg (by omega), if_neg (by omega)]
  refine ⟨es, ?_⟩
  unfold okP
  rw [es, dec_true h, dec_false (show ¬ x = -1 by omega)]
  simp
theorem okP_name (d : List UInt8) : szP (-1) d = (wholeV d : Int) ∧ okP (-1) d = !decide (wholeV d = 0) := by
  have es : szP (-1) d = (wholeV d : Int) := rfl
  have := wholeV_le d
  refine ⟨es, ?_⟩
  unfold okP
  rw [es, dec_true (by omega), dec_true (by omega)]
  simp
theorem drop_none {d : List UInt8} {n : Nat} : (d.drop n).isEmpty = decide (d.length ≤ n) := by
  rw [Bool.eq_iff_iff, List.isEmpty_iff, decide_eq_true_eq, List.drop_eq_nil_iff]
theorem cutB_fix {x : Int} (h : 0 ≤ x) (d : List UInt8) : cutB [x] d = decide ((d.length : Int) = x) := by
  obtain ⟨e1, e2⟩ := okP_fix h d
  rw [cutB_cons, cutB_nil, e1, e2, drop_none]
  rw [Bool.eq_iff_iff]
  simp
  omega
theorem cutB_name (d : List UInt8) : cutB [-1] d = mayV d := by
  obtain ⟨e1, e2⟩ := okP_name d
  have := wholeV_le d
  rw [cutB_cons, cutB_nil, e1, e2, drop_none]
  rw [Bool.eq_iff_iff, whole_all]
  simp
  omega
theorem cutB_texts (d : List UInt8) : cutB [-2] d = textsV d := by
  rw [cutB_cons, cutB_nil, drop_none]
  unfold okP szP
  cases ht : textsV d with
  | true => simp
  | false => simp
theorem cutB_any (d : List UInt8) : cutB [-3] d = true := by
  rw [cutB_cons, cutB_nil, drop_none]
  unfold okP szP
  simp
theorem may_A (d : List UInt8) : mayR 1 d = (decide ((d.length : Int) = 4) && Nat.ble d.length 65535) := by rw [mayR_cut, show layV 1 = [4] from rfl, cutB_fix (by omega)]
theorem may_AAAA (d : List UInt8) : mayR 28 d = (decide ((d.length : Int) = 16) && Nat.ble d.length 65535) := by rw [mayR_cut, show layV 28 = [16] from rfl, cutB_fix (by omega)]
theorem may_name {k : Int} (h : k = 2 ∨ k = 5 ∨ k = 12) (d : List UInt8) : mayR k d = (mayV d && Nat.ble d.length 65535) := by
  have : layV k = [-1] := by rcases h with rfl | rfl | rfl <;> rfl
  rw [mayR_cut, this, cutB_name]
theorem may_MX (d : List UInt8) : mayR 15 d = ((decide ((2 : Int) ≤ d.length) && mayV (d.drop 2)) && Nat.ble d.length 65535) := by
  obtain ⟨e1, e2⟩ := okP_fix (x := 2) (by omega) d
  rw [mayR_cut, show layV 15 = [2, -1] from rfl, cutB_cons, cutB_name, e1, e2]
  rfl
theorem may_SOA (d : List UInt8) : mayR 6 d = ((!decide (wholeV d = 0) && (!decide (wholeV (d.drop (wholeV d)) = 0) && decide (((d.drop (wholeV d)).drop (wholeV (d.drop (wholeV d)))).length = 20))) && Nat.ble d.length 65535) := by
  obtain ⟨e1, e2⟩ := okP_name d
  rw [mayR_cut, show layV 6 = [-1, -1, 20] from rfl, cutB_cons, e1, e2, Int.toNat_natCast]
  obtain ⟨e3, e4⟩ := okP_name (d.drop (wholeV d))
  rw [cutB_cons, e3, e4, Int.toNat_natCast, cutB_fix (by omega)]
  congr 4
  exact propext (by omega)
theorem may_TXT (d : List UInt8) : mayR 16 d = (textsV d && Nat.ble d.length 65535) := by rw [mayR_cut, show layV 16 = [-2] from rfl, cutB_texts]
theorem may_any {k : Int} (h : ¬ k = 1 ∧ ¬ k = 28 ∧ ¬ k = 2 ∧ ¬ k = 5 ∧ ¬ k = 12 ∧ ¬ k = 15 ∧ ¬ k = 6 ∧ ¬ k = 16) (d : List UInt8) : mayR k d = Nat.ble d.length 65535 := by
  obtain ⟨h1, h2, h3, h4, h5, h6, h7, h8⟩ := h
  have : layV k = [-3] := by simp [layV, h1, h2, h3, h4, h5, h6, h7, h8]
  rw [mayR_cut, this, cutB_any]
  rfl
/-! ### Data taken, kind by kind -/
theorem nmsV_pre : ∀ (m : Nat) (s : List UInt8) (a e : Int) (d x : List UInt8), nmsV m s a e (d ++ x) = ((nmsV m s a e x).1, (nmsV m s a e x).2.1, d ++ (nmsV m s a e x).2.2)
  | 0, _, _, _, _, _ => rfl
  | m + 1, s, a, e, d, x => by
    unfold nmsV
    cases takeG s a a (-1) [] with
    | none => rfl
    | some q =>
      obtain ⟨n, next⟩ := q
      simp only
      by_cases h : next > e
      · rw [if_pos h, if_pos h]
      · rw [if_neg h, if_neg h, List.append_assoc]
        exact nmsV_pre m s next e d (x ++ n)
theorem takeD_name (s : List UInt8) (a e : Int) (d : List UInt8) : takeD [-1] s a e d = nmsV 1 s a e d := by
  unfold takeD nmsV
  rw [if_pos rfl]
  cases takeG s a a (-1) [] with
  | none => rfl
  | some q => rfl
theorem takeD_no {ps : List Int} {s : List UInt8} {a e : Int} {d : List UInt8} (h : takeG s a a (-1) [] = none) : takeD (-1 :: ps) s a e d = (false, a, d) := by
  rw [takeD, if_pos rfl, h]
theorem takeD_on {ps : List Int} {s : List UInt8} {a e : Int} {d n : List UInt8} {next : Int} (h : takeG s a a (-1) [] = some (n, next)) : takeD (-1 :: ps) s a e d = if next > e then (false, a, d) else takeD ps s next e (d ++ n) := by
  rw [takeD, if_pos rfl, h]
theorem nms_no {m : Nat} {s : List UInt8} {a e : Int} {d : List UInt8} (h : takeG s a a (-1) [] = none) : nmsV (m + 1) s a e d = (false, a, d) := by
  rw [nmsV, h]
theorem nms_on {m : Nat} {s : List UInt8} {a e : Int} {d n : List UInt8} {next : Int} (h : takeG s a a (-1) [] = some (n, next)) : nmsV (m + 1) s a e d = if next > e then (false, a, d) else nmsV m s next e (d ++ n) := by
  rw [nmsV, h]
theorem takeD_two (ps : List Int) (s : List UInt8) (a e : Int) (d : List UInt8) : ((nmsV 2 s a e d).1 = true → takeD (-1 :: -1 :: ps) s a e d = takeD ps s (nmsV 2 s a e d).2.1 e (nmsV 2 s a e d).2.2) ∧ ((nmsV 2 s a e d).1 = false → (takeD (-1 :: -1 :: ps) s a e d).1 = false) := by
  cases h1 : takeG s a a (-1) [] with
  | none => rw [nms_no h1, takeD_no h1]; exact ⟨fun h => (by cases h), fun _ => rfl⟩
  | some q =>
    obtain ⟨n, next⟩ := q
    rw [nms_on h1, takeD_on h1]
    by_cases h : next > e
    · rw [if_pos h, if_pos h]
      exact ⟨fun h => (by cases h), fun _ => rfl⟩
    · rw [if_neg h, if_neg h]
      cases h2 : takeG s next next (-1) [] with
      | none => rw [nms_no h2, takeD_no h2]; exact ⟨fun h => (by cases h), fun _ => rfl⟩
      | some q =>
        obtain ⟨n2, next2⟩ := q
        rw [nms_on h2, takeD_on h2]
        by_cases h3 : next2 > e
        · rw [if_pos h3, if_pos h3]
          exact ⟨fun h => (by cases h), fun _ => rfl⟩
        · rw [if_neg h3, if_neg h3]
          exact ⟨fun _ => rfl, fun h => (by cases h)⟩
theorem nms_place : ∀ (m : Nat) (s : List UInt8) (a e : Int) (d : List UInt8), 0 ≤ a → (nmsV m s a e d).1 = true → a ≤ (nmsV m s a e d).2.1 ∧ (m ≠ 0 → a < (nmsV m s a e d).2.1 ∧ (nmsV m s a e d).2.1 ≤ e) ∧ (nmsV m s a e d).2.2.length ≤ d.length + 255 * m
  | 0, s, a, e, d, _, _ => ⟨Int.le_refl _, fun h => absurd rfl h, Nat.le_refl _⟩
  | m + 1, s, a, e, d, h0, h => by
    unfold nmsV at h ⊢
    cases ho : takeG s a a (-1) [] with
    | none => rw [ho] at h; cases h
    | some q =>
      obtain ⟨n, next⟩ := q
      rw [ho] at h
      obtain ⟨p1, p2, p3⟩ := takeG_place h0 ho
      have hn := (may_iff.1 p1).2.1
      simp only at h ⊢
      by_cases hx : next > e
      · rw [if_pos hx] at h; cases h
      · rw [if_neg hx] at h ⊢
        obtain ⟨a1, a2, a3⟩ := nms_place m s next e (d ++ n) (by omega) h
        rw [List.length_append] at a3
        refine ⟨by omega, fun _ => ⟨by omega, ?_⟩, by omega⟩
        by_cases hm : m = 0
        · subst hm
          show next ≤ e
          omega
        · exact (a2 hm).2
theorem takeD_fix {x : Int} (h : 0 ≤ x) (s : List UInt8) (a e : Int) (d : List UInt8) : takeD [x] s a e d = if someB s a x = true ∧ a + x ≤ e then (true, a + x, d ++ someV s a x) else (false, a, d) := by
  unfold takeD
  rw [if_neg (by omega)]
  have e1 : (if x = -2 ∨ x = -3 then e - a else x) = x := if_neg (by omega)
  rw [e1]
  rfl
theorem takeD_rest {x : Int} (h : x = -2 ∨ x = -3) (s : List UInt8) (a n : Int) (hs : someB s a n = true) : takeD [x] s a (a + n) [] = (true, a + n, someV s a n) := by
  unfold takeD
  rw [if_neg (by omega)]
  have e1 : (if x = -2 ∨ x = -3 then a + n - a else x) = n := by rw [if_pos h]; omega
  rw [e1, if_pos ⟨hs, Int.le_refl _⟩]
  rfl
/-! ### The parts; the name that data lead to -/
theorem parts_name {k : Int} {d : List UInt8} (hk : k = 2 ∨ k = 5 ∨ k = 12) (h : mayR k d = true) : partsV k d = [d] := by
  have hlay : layV k = [-1] := by rcases hk with rfl | rfl | rfl <;> rfl
  rw [may_name hk, Bool.and_eq_true, whole_all] at h
  obtain ⟨⟨h1, h2⟩, _⟩ := h
  obtain ⟨e1, e2⟩ := okP_name d
  unfold partsV
  rw [hlay, cutS, e2, e1, dec_false h1, if_pos (show (!false) = true from rfl), cutS, Int.toNat_natCast, h2, List.take_length]
  rfl
theorem parts_MX {d : List UInt8} (h : mayR 15 d = true) : partsV 15 d = [d.take 2, d.drop 2] := by
  rw [may_MX, Bool.and_eq_true, Bool.and_eq_true, decide_eq_true_eq, whole_all] at h
  obtain ⟨⟨h0, h1, h2⟩, _⟩ := h
  obtain ⟨e1, e2⟩ := okP_fix (x := 2) (by omega) d
  obtain ⟨e3, e4⟩ := okP_name (d.drop 2)
  unfold partsV
  rw [show layV 15 = [2, -1] from rfl, cutS, e2, e1, dec_true h0, if_pos rfl, show (2 : Int).toNat = 2 from rfl, cutS, e4, e3, dec_false h1, if_pos (show (!false) = true from rfl), cutS, Int.toNat_natCast, h2, List.take_length]
  rfl
theorem parts_one {k x : Int} {d : List UInt8} (hlay : layV k = [x]) (h : mayR k d = true) : partsV k d = [d] := by
  obtain ⟨_, _, _, h4, _, h6⟩ := may_parts h
  rw [hlay] at h4
  cases hp : partsV k d with
  | nil => rw [hp] at h4; cases h4
  | cons y l =>
    rw [hp] at h4 h6
    cases l with
    | nil => simpa using h6
    | cons _ _ => simp at h4
def targV (k : Int) (d : List UInt8) : Option (List UInt8) := if mayR k d = true then (if k = 2 ∨ k = 5 ∨ k = 12 then some d else if k = 15 then some (d.drop 2) else none) else none
/-- Parts of fixed sizes, and names, end where they end. -/
theorem takeD_same : ∀ (ps : List Int) (s : List UInt8) (a e e' : Int) (d d' : List UInt8), (∀ x ∈ ps, x ≠ -2 ∧ x ≠ -3) → (takeD ps s a e d).1 = true → (takeD ps s a e' d').1 = true → (takeD ps s a e d).2.1 = (takeD ps s a e' d').2.1
  | [], _, _, _, _, _, _, _, _, _ => rfl
  | x :: ps, s, a, e, e', d, d', hx, h, h' => by
    have hx0 := hx x List.mem_cons_self
    have hr : ∀ y ∈ ps, y ≠ -2 ∧ y ≠ -3 := fun y hy => hx y (List.mem_cons_of_mem _ hy)
    by_cases h1 : x = -1
    · subst h1
      cases ho : takeG s a a (-1) [] with
      | none => rw [takeD_no ho] at h; cases h
      | some q =>
        obtain ⟨n, next⟩ := q
        rw [takeD_on ho] at h h' ⊢
        rw [takeD_on ho]
        by_cases h2 : next > e
        · rw [if_pos h2] at h; cases h
        · by_cases h3 : next > e'
          · rw [if_pos h3] at h'; cases h'
          · rw [if_neg h2] at h ⊢
            rw [if_neg h3] at h' ⊢
            exact takeD_same ps s next e e' _ _ hr h h'
    · have hs : ∀ e d, takeD (x :: ps) s a e d = if someB s a x = true ∧ a + x ≤ e then takeD ps s (a + x) e (d ++ someV s a x) else (false, a, d) := fun e d => by
        rw [takeD, if_neg h1, if_neg (show ¬ (x = -2 ∨ x = -3) by omega)]
      rw [hs] at h h' ⊢
      rw [hs]
      by_cases h2 : someB s a x = true ∧ a + x ≤ e
      · by_cases h3 : someB s a x = true ∧ a + x ≤ e'
        · rw [if_pos h2] at h ⊢
          rw [if_pos h3] at h' ⊢
          exact takeD_same ps s (a + x) e e' _ _ hr h h'
        · rw [if_neg h3] at h'; cases h'
      · rw [if_neg h2] at h; cases h
theorem takeV_may {s : List UInt8} {a n k : Int} {d : List UInt8} (h : takeV s a n k = some d) : mayR k d = true ∧ someB s a n = true ∧ (takeD (layV k) s a (a + n) []).1 = true ∧ (takeD (layV k) s a (a + n) []).2.1 = a + n ∧ d = (takeD (layV k) s a (a + n) []).2.2 := by
  unfold takeV at h
  by_cases h1 : someB s a n = true
  · rw [if_pos h1] at h
    by_cases h2 : (takeD (layV k) s a (a + n) []).1 = true ∧ (takeD (layV k) s a (a + n) []).2.1 = a + n ∧ mayR k (takeD (layV k) s a (a + n) []).2.2 = true
    · rw [if_pos h2] at h
      cases h
      exact ⟨h2.2.2, h1, h2.1, h2.2.1, rfl⟩
    · rw [if_neg h2] at h; cases h
  · rw [if_neg h1] at h; cases h
theorem takeV_one {s : List UInt8} {a n n' k : Int} {d : List UInt8} (hk : k = 1 ∨ k = 28 ∨ k = 2 ∨ k = 5 ∨ k = 12 ∨ k = 15 ∨ k = 6) (h : takeV s a n k = some d) (hn : n' ≠ n) : takeV s a n' k = none := by
  cases h' : takeV s a n' k with
  | none => rfl
  | some d' =>
    obtain ⟨_, _, a1, a2, _⟩ := takeV_may h
    obtain ⟨_, _, b1, b2, _⟩ := takeV_may h'
    have hx : ∀ x ∈ layV k, x ≠ -2 ∧ x ≠ -3 := by rcases hk with rfl | rfl | rfl | rfl | rfl | rfl | rfl <;> decide
    have := takeD_same (layV k) s a (a + n) (a + n') [] [] hx a1 b1
    omega
theorem targ_may {k : Int} {d t : List UInt8} (h : targV k d = some t) : mayV t = true ∧ t.length ≤ d.length := by
  unfold targV at h
  by_cases hm : mayR k d = true
  · rw [if_pos hm] at h
    by_cases h1 : k = 2 ∨ k = 5 ∨ k = 12
    · rw [if_pos h1] at h
      cases h
      rw [may_name h1, Bool.and_eq_true] at hm
      exact ⟨hm.1, Nat.le_refl _⟩
    · rw [if_neg h1] at h
      by_cases h2 : k = 15
      · rw [if_pos h2] at h
        cases h
        rw [h2, may_MX, Bool.and_eq_true, Bool.and_eq_true] at hm
        exact ⟨hm.1.2, by rw [List.length_drop]; omega⟩
      · rw [if_neg h2] at h; cases h
  · rw [if_neg hm] at h; cases h
end Go.Proofs.YtfepkpindchleaaE

/- rdata: plain words of Put, Take, Target. -/
namespace Go.Proofs.YtfepkpindchleaaE
open Go Go.Proofs.YtfepkpindchleaaB
set_option linter.unusedVariables false
set_option linter.unusedSimpArgs false
def os17w : OSpec := os17.like fun (k, d, _) (_, b, m, _) => .br (pkT b m && Nat.ble d.length 1000000) (.br (mayR k d) (.ret ([.int .i64 0], pkO (bytesInt (putR k d (intBytes b, m)).1) (putR k d (intBytes b, m)).2)) (.ret ([.int .i64 1], pkO b m))) .no
theorem ok17w : os17w.Ok Try.prog := by
  refine like_ok ok17 _ ?_
  rintro ⟨(k : Int), (d : List UInt8), _⟩ ⟨_, (b : List Int), (m : Known), _⟩ r h
  simp only [Tr.get] at h
  cases hc : (pkT b m && Nat.ble d.length 1000000) with
  | false => rw [hc] at h; cases h
  | true =>
    rw [hc, cond_true] at h
    simp only [pkT, Bool.and_eq_true] at hc
    obtain ⟨⟨hok, hk, hb⟩, hd⟩ := hc
    have hd := Nat.le_of_ble_eq_true hd
    refine Tr.get_of_all ?_
    show (t17 k d b m).all _
    unfold t17
    have hbig : bigS d = true := by simp [bigS]; omega
    cases hm : mayR k d with
    | false =>
      rw [hm, cond_false] at h
      cases h
      exact Tr.all_t hbig (Tr.all_t rfl (Tr.all_ret rfl))
    | true =>
      rw [hm, cond_true] at h
      cases h
      obtain ⟨h1, h2, h3, h4, h5, h6⟩ := may_parts hm
      have hl := layV_len k
      rw [h1, cond_true]
      refine Tr.all_t hbig (Tr.all_f rfl (Tr.all_t hbig (Tr.all_t ?_ (Tr.all_ret rfl))))
      unfold putC
      rw [hok, hk, hb, dec_true rfl, dec_true rfl, dec_true h4, dec_true hl]
      simp only [Bool.true_and, List.all_eq_true, decide_eq_true_eq]
      exact fun x hx => by have := h5 x hx; omega
def fs32w : FSpec := fs32.like fun (s, a, n, k, _) => .on (smS s) ((takeV s a n k).getD [], if (takeV s a n k).isSome then (0 : Int) else 2, ())
theorem takeD_facts : ∀ (ps : List Int) (s : List UInt8) (a e : Int) (d : List UInt8), 0 ≤ a → s.length ≤ 100000000 → (takeD ps s a e d).2.2.length ≤ d.length + 200000000 * ps.length
  | [], s, a, e, d, _, _ => by simp [takeD]
  | x :: ps, s, a, e, d, h0, hs => by
    unfold takeD
    by_cases h1 : x = -1
    · rw [if_pos h1]
      cases ho : takeG s a a (-1) [] with
      | none => exact Nat.le_add_right _ _
      | some q =>
        obtain ⟨n, next⟩ := q
        obtain ⟨p1, p2, p3⟩ := takeG_place h0 ho
        have hn := (may_iff.1 p1).2.1
        simp only
        by_cases hn2 : next > e
        · rw [if_pos hn2]
          exact Nat.le_add_right _ _
        · rw [if_neg hn2]
          have := takeD_facts ps s next e (d ++ n) (by omega) hs
          rw [List.length_append] at this
          simp only [List.length_cons]
          omega
    · rw [if_neg h1]
      generalize (if x = -2 ∨ x = -3 then e - a else x) = sz
      by_cases hh : someB s a sz = true ∧ a + sz ≤ e
      · rw [if_pos hh]
        have := someB_iff.1 hh.1
        have hvl : (someV s a sz).length ≤ s.length := by unfold someV; rw [List.length_take, List.length_drop]; omega
        have := takeD_facts ps s (a + sz) e (d ++ someV s a sz) (by omega) hs
        rw [List.length_append] at this
        simp only [List.length_cons]
        omega
      · rw [if_neg hh]
        exact Nat.le_add_right _ _
theorem okf32w : fs32w.Ok Try.prog := by
  refine flike_ok okf32 _ ?_
  rintro ⟨(s : List UInt8), (a : Int), (n : Int), (k : Int), _⟩ y h
  obtain ⟨hb, rfl⟩ := Tr.get_on h
  refine convR_of (vs := [.str ((takeV s a n k).getD []), .int .i64 (if (takeV s a n k).isSome then 0 else 2)]) rfl rfl (Tr.get_of_all ?_)
  show (t32 s a n k).all _
  unfold t32 takeV
  have hB : s.length ≤ 100000000 := by simpa [smS] using hb
  have hbig : bigS s = true := by simp [bigS]; omega
  have hl := layV_len k
  refine Tr.all_t hbig ?_
  cases h1 : someB s a n with
  | false =>
    rw [if_neg Bool.false_ne_true]
    exact Tr.all_f rfl (Tr.all_ret rfl)
  | true =>
    have hs := someB_iff.1 h1
    have hw : IntKind.wrap IntKind.i64 (a + n) = a + n := IntWalk.i64_in _ (by omega)
    have hd := takeD_facts (layV k) s a (a + n) [] hs.1 hB
    rw [hw, if_pos rfl]
    have hc : takeC s a (a + n) [] (layV k) (layV k).length 0 = true := by
      unfold takeC noT
      rw [hb, dec_true rfl, dec_true rfl, dec_true hs.1, dec_true (show a ≤ a + n by omega), dec_true (show a + n ≤ (s.length : Int) by omega), dec_true hl]
      rfl
    generalize takeD (layV k) s a (a + n) [] = t at hd
    obtain ⟨ok, at', d⟩ := t
    have hbd : bigS d = true := by
      have : d.length ≤ ([] : List UInt8).length + 200000000 * (layV k).length := hd
      simp [bigS] at this ⊢
      omega
    refine Tr.all_t rfl (Tr.all_t hc (Tr.all_br (fun c1 => Tr.all_br (fun c2 => Tr.all_ret ?_) fun c2 => Tr.all_t hbd (Tr.all_br (fun c3 => Tr.all_ret ?_) fun c3 => Tr.all_ret ?_)) fun c1 => Tr.all_ret ?_))
    · have hne : at' ≠ a + n := by simpa using c2
      rw [if_neg (fun h => hne h.2.1)]
      rfl
    · rw [Bool.not_eq_true'] at c3
      rw [if_neg (fun h => by rw [show mayR k d = false from c3] at h; exact Bool.false_ne_true h.2.2)]
      rfl
    · rw [Bool.not_eq_false'] at c3
      have he : at' = a + n := by simpa using c2
      rw [if_pos ⟨c1, he, c3⟩]
      rfl
    · rw [if_neg (fun h => by rw [show ok = false from c1] at h; exact Bool.false_ne_true h.1)]
      rfl
/-- rdata.Target -/
def t34 (k : Int) (d : List UInt8) : Tr Res := Tr.br (bigS d) (Tr.br (!(okV k d && List.isEmpty (restV k d))) (Tr.ret ([AV.str [], AV.bool false], [])) (Tr.br (bigS d) (Tr.br (!mayR k d) (Tr.ret ([AV.str [], AV.bool false], [])) (Tr.br (k == (2 : Int)) (Tr.br (decide ((0 : Int) < (↑(List.length (bif okV k d then partsV k d else [])) : Int))) (Tr.ret ([AV.str (List.getD (bif okV k d then partsV k d else []) (Int.toNat (0 : Int)) (Ty.dflt Ty.str)), AV.bool true], [])) Tr.no) (Tr.br (k == (5 : Int)) (Tr.br (decide ((0 : Int) < (↑(List.length (bif okV k d then partsV k d else [])) : Int))) (Tr.ret ([AV.str (List.getD (bif okV k d then partsV k d else []) (Int.toNat (0 : Int)) (Ty.dflt Ty.str)), AV.bool true], [])) Tr.no) (Tr.br (k == (12 : Int)) (Tr.br (decide ((0 : Int) < (↑(List.length (bif okV k d then partsV k d else [])) : Int))) (Tr.ret ([AV.str (List.getD (bif okV k d then partsV k d else []) (Int.toNat (0 : Int)) (Ty.dflt Ty.str)), AV.bool true], [])) Tr.no) (Tr.br (k == (15 : Int)) (Tr.br (decide ((1 : Int) < (↑(List.length (bif okV k d then partsV k d else [])) : Int))) (Tr.ret ([AV.str (List.getD (bif okV k d then partsV k d else []) (Int.toNat (1 : Int)) (Ty.dflt Ty.str)), AV.bool true], [])) Tr.no) (Tr.ret ([AV.str [], AV.bool false], []))))))) Tr.no)) Tr.no
def os34 : OSpec := { f := 34, sh := [.d (.int .u16) false, .d .str false], so := [], F := fun (k, d, _) _ => t34 k d }
set_option maxRecDepth 1000000 in
theorem fn34 (k : Int) (d : List UInt8) : evC T0 (orcB [fs40w, fs36w, fs39w] []) (lpOf h34 0 (lsOf [])) c34 1000000 (startSt [.int .u16 k, .str d] [] Try.f34.ntmps) (finishK T0 false 0 Try.f34) = (t34 k d).get := by kernel_rfl
theorem ok34 : os34.Ok Try.prog := by
  refine os_ok mixed0 tab0 (orcB_sound (all_cons okf40w (all_cons okf36w (all_cons okf39w all_nil))) all_nil) h34 (d := 0) (n0 := 0) (S := lsOf []) Try.func34 (by kernel_rfl) (c := c34) (by kernel_rfl) rfl (no_loops (by kernel_rfl)) (by omega) (by kernel_rfl) ?_
  intro x'' y'' q'' hq''
  obtain ⟨(k : Int), (d : List UInt8), _⟩ := x''
  exact (fn34 k d).trans hq''
def fs34 : FSpec := fsT 34 [((.int .u16), false), (.str, false)] [(.str, false), (.bool, false)] fun (k, d, _) => t34 k d
theorem okf34 : fs34.Ok Try.prog := fsT_ok fun x'' r'' hr'' => ok34 x'' () r'' hr''
end Go.Proofs.YtfepkpindchleaaE

/- The document's Take: words. -/
namespace Go.Proofs.YtfepkpindchleaaE
open Go Go.Proofs.YtfepkpindchleaaB
set_option linter.unusedVariables false
set_option linter.unusedSimpArgs false
noncomputable def b54 : Code := nthLoop c54 0
def ls54 : LoopSpec := { bid := 0, sh := [.d .str false, .d (.int .i64) false, .d (.int .i64) false], so := [], F := fun (s, at_, from_, _) _ => .on2 (bigS s && decide (from_ = at_)) (lbX3 s at_) (.exit 0, [.dead, .dead], []) (.ret, [.str (lbS3 s at_), .int .i64 (lbE3 s at_)], []) }
def r54 (s : List UInt8) (at_ : Int) (from_ : Int) : Tr (St ⊕ (Ex × St)) := Tr.br (decide (at_ ≥ (0 : Int))) (Tr.br (decide (at_ < (↑(List.length s) : Int))) (Tr.br (decide ((0 : Int) ≤ at_)) (Tr.br (decide (at_ < (↑(List.length s) : Int))) (Tr.br (decide (IntKind.wrap IntKind.i64 (↑(UInt8.toNat (List.getD s (Int.toNat at_) 0)) : Int) ≥ (192 : Int))) (Tr.br (decide ((0 : Int) ≤ at_) && decide (at_ ≤ (↑(List.length s) : Int))) (Tr.br (decide ((0 : Int) ≤ from_) && decide (from_ ≤ at_)) (Tr.ret (Sum.inr (Ex.ret, stOf [4, 5] [AV.str (List.take (Int.toNat at_ - Int.toNat from_) (List.drop (Int.toNat from_) s)), AV.int IntKind.i64 at_] []))) Tr.no) Tr.no) (Tr.br (decide (IntKind.wrap IntKind.i64 (↑(UInt8.toNat (List.getD s (Int.toNat at_) 0)) : Int) > (63 : Int))) (Tr.ret (Sum.inr (Ex.ret, stOf [4, 5] [AV.str [], AV.int IntKind.i64 (-1 : Int)] []))) (Tr.br (IntKind.wrap IntKind.i64 (↑(UInt8.toNat (List.getD s (Int.toNat at_) 0)) : Int) == (0 : Int)) (Tr.br (decide ((0 : Int) ≤ IntKind.wrap IntKind.i64 (at_ + (1 : Int))) && decide (IntKind.wrap IntKind.i64 (at_ + (1 : Int)) ≤ (↑(List.length s) : Int))) (Tr.br (decide ((0 : Int) ≤ from_) && decide (from_ ≤ IntKind.wrap IntKind.i64 (at_ + (1 : Int)))) (Tr.ret (Sum.inr (Ex.ret, stOf [4, 5] [AV.str (List.take (Int.toNat (IntKind.wrap IntKind.i64 (at_ + (1 : Int))) - Int.toNat from_) (List.drop (Int.toNat from_) s)), AV.int IntKind.i64 (IntKind.wrap IntKind.i64 (at_ + (1 : Int)))] []))) Tr.no) Tr.no) (Tr.ret (Sum.inl (stOf [0, 1, 6] [AV.str s, AV.int IntKind.i64 (IntKind.wrap IntKind.i64 (IntKind.wrap IntKind.i64 (at_ + (1 : Int)) + IntKind.wrap IntKind.i64 (↑(UInt8.toNat (List.getD s (Int.toNat at_) 0)) : Int))), AV.int IntKind.i64 from_] [])))))) Tr.no) Tr.no) (Tr.ret (Sum.inr (Ex.exit 0, stOf [4, 5] [AV.dead, AV.dead] [])))) (Tr.ret (Sum.inr (Ex.exit 0, stOf [4, 5] [AV.dead, AV.dead] [])))
set_option maxRecDepth 1000000 in
theorem round54 (orc : Orc) (lp : Lp) (s : List UInt8) (at_ : Int) (from_ : Int) : evC T0 orc lp b54 0 (stOf [0, 1, 6] [.str s, .int .i64 at_, .int .i64 from_] []) (roundK [0, 1, 6] [4, 5] 0) = (r54 s at_ from_).get := by kernel_rfl
theorem wf54 (orc : Orc) (s : List UInt8) (from_ : Int) (I'' : Int → Prop) (m'' : Int → Nat) (r'' : Ex × St) (h : ∀ (at_ : Int), I'' at_ → (r54 s at_ from_).all fun x'' => x'' = .inr r'' ∨ ∃ (at_' : Int), x'' = .inl (stOf [0, 1, 6] [.str s, .int .i64 at_', .int .i64 from_] []) ∧ I'' at_' ∧ m'' at_' < m'' at_) (lp : Lp) (at_ : Int) : I'' at_ →
    loopF (fun st => evC T0 orc lp b54 0 st (roundK [0, 1, 6] [4, 5] 0)) (stOf [0, 1, 6] [.str s, .int .i64 at_, .int .i64 from_] []) = some r'' :=
  loop_tr (fun a'' : Int => stOf [0, 1, 6] [.str s, .int .i64 a'', .int .i64 from_] []) (fun a'' => I'' a'') (fun a'' => m'' a'') r'' (fun a'' => r54 s a'' from_)
    (fun a'' x hx => (round54 orc lp s a'' from_).trans hx) (fun a'' ha => Tr.all_mono (fun x'' hx => hx.imp id fun ⟨at_', h1, h2, h3⟩ => ⟨(at_'), h1, h2, h3⟩) (h (a'') ha)) (at_)
def lb3I (s : List UInt8) (f at_ : Int) : Prop := f ≤ at_ ∧ labE s at_.toNat = labE s f.toNat ∧ labX s at_.toNat = labX s f.toNat
theorem loop54 (orc : Orc) : ls54.Ok T0 orc h54 0 0 b54 := by
  intro q'' hq'' x'' y'' r'' h
  obtain ⟨(s : List UInt8), (at_ : Int), (from_ : Int), _⟩ := x''
  obtain ⟨hc, rfl⟩ := Tr.get_on2 h
  show loopF (fun st => evC T0 orc (lpN T0 orc h54 0 q'') b54 0 st (roundK [0, 1, 6] [4, 5] 0)) (stOf [0, 1, 6] [.str s, .int .i64 at_, .int .i64 from_] []) = some ((bif lbX3 s at_ then (.exit 0, [.dead, .dead], []) else (.ret, [.str (lbS3 s at_), .int .i64 (lbE3 s at_)], []) : Ex × List AV × List LObj).1, stOf [4, 5] (bif lbX3 s at_ then (.exit 0, [.dead, .dead], []) else (.ret, [.str (lbS3 s at_), .int .i64 (lbE3 s at_)], []) : Ex × List AV × List LObj).2.1 (bif lbX3 s at_ then (.exit 0, [.dead, .dead], []) else (.ret, [.str (lbS3 s at_), .int .i64 (lbE3 s at_)], []) : Ex × List AV × List LObj).2.2)
  simp only [Bool.and_eq_true, decide_eq_true_eq] at hc
  obtain ⟨hb, rfl⟩ := hc
  by_cases h0 : from_ < 0
  · refine wf54 _ s from_ (fun a => a = from_) (fun _ => 0) _ ?_ _ from_ rfl
    rintro at_ rfl
    rw [show lbX3 s at_ = true by simp [lbX3, h0]]
    unfold r54
    exact Tr.all_f (dec_false (by omega)) (Tr.all_ret (.inl rfl))
  refine wf54 _ s from_ (lb3I s from_) (fun a => (s.length - a).toNat) _ ?_ _ from_ ⟨by omega, rfl, rfl⟩
  rintro at_ ⟨h1, h2, h3⟩
  have hB : s.length ≤ 1000000000000 := by simpa [bigS] using hb
  unfold r54 lbX3 lbS3 lbE3
  rw [if_neg h0, if_neg h0, decide_eq_false h0, Bool.false_or, ← h2, ← h3]
  have hto : ((at_.toNat : Nat) : Int) = at_ := Int.toNat_of_nonneg (by omega)
  by_cases hk : at_.toNat < s.length
  · have hb0 : (↑(UInt8.toNat (List.getD s (Int.toNat at_) 0)) : Int) = (byN s at_.toNat : Int) := rfl
    have hbl : byN s at_.toNat < 256 := (s.getD at_.toNat 0).toNat_lt
    refine Tr.all_t (dec_true (by omega)) (Tr.all_t (dec_true (by omega)) (Tr.all_t (dec_true (by omega)) (Tr.all_t (dec_true (by omega)) ?_)))
    rw [hb0, IntWalk.i64_in ((byN s at_.toNat : Nat) : Int) (by omega), IntWalk.i64_in (at_ + 1) (by omega), IntWalk.i64_in _ (by omega), labE.eq_1 s at_.toNat, labX.eq_1 s at_.toNat, dif_pos hk, dif_pos hk]
    by_cases c1 : 192 ≤ byN s at_.toNat
    · rw [if_pos c1, if_pos c1]
      refine Tr.all_t (dec_true (by omega)) (Tr.all_t (by rw [dec_true (by omega), dec_true (by omega)]; rfl) (Tr.all_t (by rw [dec_true (by omega), dec_true (by omega)]; rfl) (Tr.all_ret (.inl ?_))))
      simp only [hto, sub]
      rfl
    rw [if_neg c1, if_neg c1]
    by_cases c2 : 63 < byN s at_.toNat
    · rw [if_pos c2, if_pos c2]
      exact Tr.all_f (dec_false (by omega)) (Tr.all_t (dec_true (by omega)) (Tr.all_ret (.inl rfl)))
    rw [if_neg c2, if_neg c2]
    by_cases c3 : byN s at_.toNat = 0
    · rw [if_pos c3, if_pos c3]
      refine Tr.all_f (dec_false (by omega)) (Tr.all_f (dec_false (by omega)) (Tr.all_t (beq_iff_eq.2 (by omega)) (Tr.all_t (by rw [dec_true (by omega), dec_true (by omega)]; rfl) (Tr.all_t (by rw [dec_true (by omega), dec_true (by omega)]; rfl) (Tr.all_ret (.inl ?_))))))
      have : (((at_.toNat + 1 : Nat)) : Int) = at_ + 1 := by omega
      simp only [this, sub, show (at_ + 1).toNat = at_.toNat + 1 by omega]
      rfl
    rw [if_neg c3, if_neg c3]
    refine Tr.all_f (dec_false (by omega)) (Tr.all_f (dec_false (by omega)) (Tr.all_f (beq_eq_false_iff_ne.2 (by omega)) (Tr.all_ret (.inr ⟨_, rfl, ⟨by omega, ?_, ?_⟩, by omega⟩))))
    · rw [← h2, labE.eq_1 s at_.toNat, dif_pos hk, if_neg c1, if_neg c2, if_neg c3, show (at_ + 1 + (byN s at_.toNat : Int)).toNat = at_.toNat + 1 + byN s at_.toNat by omega]
    · rw [← h3, labX.eq_1 s at_.toNat, dif_pos hk, if_neg c1, if_neg c2, if_neg c3, show (at_ + 1 + (byN s at_.toNat : Int)).toNat = at_.toNat + 1 + byN s at_.toNat by omega]
  · rw [labX.eq_1 s at_.toNat, dif_neg hk]
    exact Tr.all_t (dec_true (by omega)) (Tr.all_f (dec_false (by omega)) (Tr.all_ret (.inl rfl)))
noncomputable def b55 : Code := nthLoop c55 0
def ls55 : LoopSpec := { bid := 0, sh := [.d .str false, .d (.int .i64) false], so := [], F := fun (s, at_, _) _ => .on2 (bigS s && decide (at_ = 0)) (endsX s 0) (.exit 0, [.dead], []) (.ret, [.bool (endsR s 0)], []) }
def r55 (s : List UInt8) (at_ : Int) : Tr (St ⊕ (Ex × St)) := Tr.br (decide (at_ < (↑(List.length s) : Int))) (Tr.br (decide ((0 : Int) ≤ at_)) (Tr.br (decide (at_ < (↑(List.length s) : Int))) (Tr.br ((↑(UInt8.toNat (List.getD s (Int.toNat at_) 0)) : Int) == (0 : Int)) (Tr.ret (Sum.inr (Ex.ret, stOf [2] [AV.bool (at_ == IntKind.wrap IntKind.i64 ((↑(List.length s) : Int) - (1 : Int)))] []))) (Tr.br (decide ((0 : Int) ≤ at_)) (Tr.br (decide (at_ < (↑(List.length s) : Int))) (Tr.ret (Sum.inl (stOf [0, 3] [AV.str s, AV.int IntKind.i64 (IntKind.wrap IntKind.i64 (IntKind.wrap IntKind.i64 (at_ + (1 : Int)) + IntKind.wrap IntKind.i64 (↑(UInt8.toNat (List.getD s (Int.toNat at_) 0)) : Int)))] []))) Tr.no) Tr.no)) Tr.no) Tr.no) (Tr.ret (Sum.inr (Ex.exit 0, stOf [2] [AV.dead] [])))
set_option maxRecDepth 1000000 in
theorem round55 (orc : Orc) (lp : Lp) (s : List UInt8) (at_ : Int) : evC T0 orc lp b55 0 (stOf [0, 3] [.str s, .int .i64 at_] []) (roundK [0, 3] [2] 0) = (r55 s at_).get := by kernel_rfl
theorem wf55 (orc : Orc) (s : List UInt8) (I'' : Int → Prop) (m'' : Int → Nat) (r'' : Ex × St) (h : ∀ (at_ : Int), I'' at_ → (r55 s at_).all fun x'' => x'' = .inr r'' ∨ ∃ (at_' : Int), x'' = .inl (stOf [0, 3] [.str s, .int .i64 at_'] []) ∧ I'' at_' ∧ m'' at_' < m'' at_) (lp : Lp) (at_ : Int) : I'' at_ →
    loopF (fun st => evC T0 orc lp b55 0 st (roundK [0, 3] [2] 0)) (stOf [0, 3] [.str s, .int .i64 at_] []) = some r'' :=
  loop_tr (fun a'' : Int => stOf [0, 3] [.str s, .int .i64 a''] []) (fun a'' => I'' a'') (fun a'' => m'' a'') r'' (fun a'' => r55 s a'')
    (fun a'' x hx => (round55 orc lp s a'').trans hx) (fun a'' ha => Tr.all_mono (fun x'' hx => hx.imp id fun ⟨at_', h1, h2, h3⟩ => ⟨(at_'), h1, h2, h3⟩) (h (a'') ha)) (at_)
def en3I (s : List UInt8) (at_ : Int) : Prop := 0 ≤ at_ ∧ endsX s at_.toNat = endsX s 0 ∧ endsR s at_.toNat = endsR s 0
theorem loop55 (orc : Orc) : ls55.Ok T0 orc h55 0 0 b55 := by
  intro q'' hq'' x'' y'' r'' h
  obtain ⟨(s : List UInt8), (at_ : Int), _⟩ := x''
  obtain ⟨hc, rfl⟩ := Tr.get_on2 h
  show loopF (fun st => evC T0 orc (lpN T0 orc h55 0 q'') b55 0 st (roundK [0, 3] [2] 0)) (stOf [0, 3] [.str s, .int .i64 at_] []) = some ((bif endsX s 0 then (.exit 0, [.dead], []) else (.ret, [.bool (endsR s 0)], []) : Ex × List AV × List LObj).1, stOf [2] (bif endsX s 0 then (.exit 0, [.dead], []) else (.ret, [.bool (endsR s 0)], []) : Ex × List AV × List LObj).2.1 (bif endsX s 0 then (.exit 0, [.dead], []) else (.ret, [.bool (endsR s 0)], []) : Ex × List AV × List LObj).2.2)
  simp only [Bool.and_eq_true, decide_eq_true_eq] at hc
  obtain ⟨hb, rfl⟩ := hc
  refine wf55 _ s (en3I s) (fun a => (s.length - a).toNat) _ ?_ _ 0 ⟨by omega, rfl, rfl⟩
  rintro at_ ⟨h1, h2, h3⟩
  have hB : s.length ≤ 1000000000000 := by simpa [bigS] using hb
  unfold r55
  rw [← h2, ← h3]
  have hto : ((at_.toNat : Nat) : Int) = at_ := Int.toNat_of_nonneg (by omega)
  by_cases hk : at_.toNat < s.length
  · have hb0 : (↑(UInt8.toNat (List.getD s (Int.toNat at_) 0)) : Int) = (byN s at_.toNat : Int) := rfl
    have hbl : byN s at_.toNat < 256 := (s.getD at_.toNat 0).toNat_lt
    refine Tr.all_t (dec_true (by omega)) (Tr.all_t (dec_true (by omega)) (Tr.all_t (dec_true (by omega)) ?_))
    simp only [hb0]
    rw [IntWalk.i64_in ((byN s at_.toNat : Nat) : Int) (by omega), IntWalk.i64_in (at_ + 1) (by omega), IntWalk.i64_in (at_ + 1 + _) (by omega), IntWalk.i64_in (_ - 1) (by omega), endsX.eq_1 s at_.toNat, endsR.eq_1 s at_.toNat, dif_pos hk, dif_pos hk]
    by_cases c3 : byN s at_.toNat = 0
    · rw [if_pos c3, if_pos c3]
      refine Tr.all_t (beq_iff_eq.2 (by omega)) (Tr.all_ret (.inl ?_))
      have : (at_ == (s.length : Int) - 1) = decide (at_.toNat = s.length - 1) := by
        rw [Bool.eq_iff_iff]
        simp
        omega
      rw [this]
      rfl
    rw [if_neg c3, if_neg c3]
    refine Tr.all_f (beq_eq_false_iff_ne.2 (by omega)) (Tr.all_t (dec_true (by omega)) (Tr.all_t (dec_true (by omega)) (Tr.all_ret (.inr ⟨_, rfl, ⟨by omega, ?_, ?_⟩, by omega⟩))))
    · rw [← h2, endsX.eq_1 s at_.toNat, dif_pos hk, if_neg c3, show (at_ + 1 + (byN s at_.toNat : Int)).toNat = at_.toNat + 1 + byN s at_.toNat by omega]
    · rw [← h3, endsR.eq_1 s at_.toNat, dif_pos hk, if_neg c3, show (at_ + 1 + (byN s at_.toNat : Int)).toNat = at_.toNat + 1 + byN s at_.toNat by omega]
  · rw [endsX.eq_1 s at_.toNat, dif_neg hk]
    exact Tr.all_f (dec_false (by omega)) (Tr.all_ret (.inl rfl))
/-- derrickref03.labels -/
def t54 (s : List UInt8) (at_ : Int) : Tr Res := Tr.br (bigS s && decide (at_ = at_)) (Tr.br (lbX3 s at_) (Tr.ret ([AV.str [], AV.int IntKind.i64 (-1 : Int)], [])) (Tr.ret ([AV.str (lbS3 s at_), AV.int IntKind.i64 (lbE3 s at_)], []))) Tr.no
def os54 : OSpec := { f := 54, sh := [.d .str false, .d (.int .i64) false], so := [], F := fun (s, at_, _) _ => t54 s at_ }
set_option maxRecDepth 1000000 in
theorem fn54 (s : List UInt8) (at_ : Int) : evC T0 (orcB [] []) (lpOf h54 0 (lsOf [ls54])) c54 1000000 (startSt [.str s, .int .i64 at_] [] Try.f54.ntmps) (finishK T0 false 0 Try.f54) = (t54 s at_).get := by kernel_rfl
theorem ok54 : os54.Ok Try.prog := by
  refine os_ok mixed0 tab0 (orcB_sound all_nil all_nil) h54 (d := 0) (n0 := 0) (S := lsOf [ls54]) Try.func54 (by kernel_rfl) (c := c54) (by kernel_rfl) rfl (loops_eq (xs := [(0, b54)]) (by kernel_rfl) (all_cons (ls_here (loop54 _)) all_nil)) (by omega) (by kernel_rfl) ?_
  intro x'' y'' q'' hq''
  obtain ⟨(s : List UInt8), (at_ : Int), _⟩ := x''
  exact (fn54 s at_).trans hq''
def fs54 : FSpec := fsT 54 [(.str, false), ((.int .i64), false)] [(.str, false), ((.int .i64), false)] fun (s, at_, _) => t54 s at_
theorem okf54 : fs54.Ok Try.prog := fsT_ok fun x'' r'' hr'' => ok54 x'' () r'' hr''
/-- derrickref03.ends -/
def t55 (s : List UInt8) : Tr Res := Tr.br (bigS s && decide ((0 : Int) = (0 : Ty.den (Ty.int IntKind.i64)))) (Tr.br (endsX s 0) (Tr.ret ([AV.bool false], [])) (Tr.ret ([AV.bool (endsR s 0)], []))) Tr.no
def os55 : OSpec := { f := 55, sh := [.d .str false], so := [], F := fun (s, _) _ => t55 s }
set_option maxRecDepth 1000000 in
theorem fn55 (s : List UInt8) : evC T0 (orcB [] []) (lpOf h55 0 (lsOf [ls55])) c55 1000000 (startSt [.str s] [] Try.f55.ntmps) (finishK T0 false 0 Try.f55) = (t55 s).get := by kernel_rfl
theorem ok55 : os55.Ok Try.prog := by
  refine os_ok mixed0 tab0 (orcB_sound all_nil all_nil) h55 (d := 0) (n0 := 0) (S := lsOf [ls55]) Try.func55 (by kernel_rfl) (c := c55) (by kernel_rfl) rfl (loops_eq (xs := [(0, b55)]) (by kernel_rfl) (all_cons (ls_here (loop55 _)) all_nil)) (by omega) (by kernel_rfl) ?_
  intro x'' y'' q'' hq''
  obtain ⟨(s : List UInt8), _⟩ := x''
  exact (fn55 s).trans hq''
def fs55 : FSpec := fsT 55 [(.str, false)] [(.bool, false)] fun (s, _) => t55 s
theorem okf55 : fs55.Ok Try.prog := fsT_ok fun x'' r'' hr'' => ok55 x'' () r'' hr''
def fs54w : FSpec := fs54.like fun (s, a, _) => .on (bigS s) (lbS3 s a, lbE3 s a, ())
theorem okf54w : fs54w.Ok Try.prog := by
  refine flike_ok okf54 _ ?_
  rintro ⟨(s : List UInt8), (a : Int), _⟩ y h
  obtain ⟨hb, rfl⟩ := Tr.get_on h
  refine convR_of (vs := [.str (lbS3 s a), .int .i64 (lbE3 s a)]) rfl rfl (Tr.get_of_all ?_)
  show (t54 s a).all _
  refine Tr.all_t (by simp [hb]) (Tr.all_br (fun c1 => Tr.all_ret ?_) fun c1 => Tr.all_ret rfl)
  unfold lbX3 at c1
  unfold lbS3 lbE3
  by_cases h0 : a < 0
  · rw [if_pos h0, if_pos h0]
  · rw [decide_eq_false h0, Bool.false_or] at c1
    rw [if_neg h0, if_neg h0, labX_E _ _ rfl c1]
def fs55w : FSpec := fs55.like fun (s, _) => .on (bigS s) (endsR s 0, ())
theorem okf55w : fs55w.Ok Try.prog := by
  refine flike_ok okf55 _ ?_
  rintro ⟨(s : List UInt8), _⟩ y h
  obtain ⟨hb, rfl⟩ := Tr.get_on h
  refine convR_of (vs := [.bool (endsR s 0)]) rfl rfl (Tr.get_of_all ?_)
  show (t55 s).all _
  refine Tr.all_t (by rw [hb]; rfl) (Tr.all_br (fun c1 => Tr.all_ret ?_) fun c1 => Tr.all_ret rfl)
  rw [endsX_R _ _ rfl c1]
noncomputable def b28 : Code := nthLoop c28 0
def ls28 : LoopSpec := { bid := 0, sh := [.d .str false, .d (.int .i64) false, .d .str false, .d (.int .i64) false], so := [], F := fun (s, at_, n, behind, _) _ => .on2 (bigS s && nilS n) ((tk3 s at_ behind n).1) (.exit 0, [.dead, .dead, .dead, .str (tk3 s at_ behind n).2.1, .int .i64 (tk3 s at_ behind n).2.2], []) (.ret, [.str [], .int .i64 0, .int .i64 2, .str (tk3 s at_ behind n).2.1, .int .i64 (tk3 s at_ behind n).2.2], []) }
def r28 (s : List UInt8) (at_ : Int) (n : List UInt8) (behind : Int) : Tr (St ⊕ (Ex × St)) := Tr.br (bigS s) (Tr.br (decide (lbE3 s at_ < (0 : Int))) (Tr.ret (Sum.inr (Ex.ret, stOf [4, 5, 6, 7, 8] [AV.str [], AV.int IntKind.i64 (0 : Int), AV.int IntKind.i64 (2 : Int), AV.str n, AV.int IntKind.i64 behind] []))) (Tr.br (Nat.ble (List.length n + List.length (lbS3 s at_)) 9223372036854775807) (Tr.br (!lbS3 s at_ == []) (Tr.br (decide ((0 : Int) ≤ IntKind.wrap IntKind.i64 ((↑(List.length (lbS3 s at_)) : Int) - (1 : Int)))) (Tr.br (decide (IntKind.wrap IntKind.i64 ((↑(List.length (lbS3 s at_)) : Int) - (1 : Int)) < (↑(List.length (lbS3 s at_)) : Int))) (Tr.br ((↑(UInt8.toNat (List.getD (lbS3 s at_) (Int.toNat (IntKind.wrap IntKind.i64 ((↑(List.length (lbS3 s at_)) : Int) - (1 : Int)))) 0)) : Int) == (0 : Int)) (Tr.br (bigS (lbS3 s at_)) (Tr.br (endsR (lbS3 s at_) 0) (Tr.br (decide (behind < (0 : Int))) (Tr.ret (Sum.inr (Ex.exit 0, stOf [4, 5, 6, 7, 8] [AV.dead, AV.dead, AV.dead, AV.str (n ++ lbS3 s at_), AV.int IntKind.i64 (lbE3 s at_)] []))) (Tr.ret (Sum.inr (Ex.exit 0, stOf [4, 5, 6, 7, 8] [AV.dead, AV.dead, AV.dead, AV.str (n ++ lbS3 s at_), AV.int IntKind.i64 behind] [])))) (Tr.br (bigS s) (Tr.br (someB s (lbE3 s at_) (2 : Int)) (Tr.br (decide (Int.tmod (IntKind.wrap IntKind.i64 (n16 s (lbE3 s at_))) (16384 : Int) ≥ at_)) (Tr.ret (Sum.inr (Ex.ret, stOf [4, 5, 6, 7, 8] [AV.str [], AV.int IntKind.i64 (0 : Int), AV.int IntKind.i64 (2 : Int), AV.str (n ++ lbS3 s at_), AV.int IntKind.i64 behind] []))) (Tr.br (decide (behind < (0 : Int))) (Tr.ret (Sum.inl (stOf [0, 1, 7, 8] [AV.str s, AV.int IntKind.i64 (Int.tmod (IntKind.wrap IntKind.i64 (n16 s (lbE3 s at_))) (16384 : Int)), AV.str (n ++ lbS3 s at_), AV.int IntKind.i64 (lbE3 s at_ + (2 : Ty.den (Ty.int IntKind.i64)))] []))) (Tr.ret (Sum.inl (stOf [0, 1, 7, 8] [AV.str s, AV.int IntKind.i64 (Int.tmod (IntKind.wrap IntKind.i64 (n16 s (lbE3 s at_))) (16384 : Int)), AV.str (n ++ lbS3 s at_), AV.int IntKind.i64 behind] []))))) (Tr.ret (Sum.inr (Ex.ret, stOf [4, 5, 6, 7, 8] [AV.str [], AV.int IntKind.i64 (0 : Int), AV.int IntKind.i64 (2 : Int), AV.str (n ++ lbS3 s at_), AV.int IntKind.i64 behind] [])))) Tr.no)) Tr.no) (Tr.br (bigS s) (Tr.br (someB s (lbE3 s at_) (2 : Int)) (Tr.br (decide (Int.tmod (IntKind.wrap IntKind.i64 (n16 s (lbE3 s at_))) (16384 : Int) ≥ at_)) (Tr.ret (Sum.inr (Ex.ret, stOf [4, 5, 6, 7, 8] [AV.str [], AV.int IntKind.i64 (0 : Int), AV.int IntKind.i64 (2 : Int), AV.str (n ++ lbS3 s at_), AV.int IntKind.i64 behind] []))) (Tr.br (decide (behind < (0 : Int))) (Tr.ret (Sum.inl (stOf [0, 1, 7, 8] [AV.str s, AV.int IntKind.i64 (Int.tmod (IntKind.wrap IntKind.i64 (n16 s (lbE3 s at_))) (16384 : Int)), AV.str (n ++ lbS3 s at_), AV.int IntKind.i64 (lbE3 s at_ + (2 : Ty.den (Ty.int IntKind.i64)))] []))) (Tr.ret (Sum.inl (stOf [0, 1, 7, 8] [AV.str s, AV.int IntKind.i64 (Int.tmod (IntKind.wrap IntKind.i64 (n16 s (lbE3 s at_))) (16384 : Int)), AV.str (n ++ lbS3 s at_), AV.int IntKind.i64 behind] []))))) (Tr.ret (Sum.inr (Ex.ret, stOf [4, 5, 6, 7, 8] [AV.str [], AV.int IntKind.i64 (0 : Int), AV.int IntKind.i64 (2 : Int), AV.str (n ++ lbS3 s at_), AV.int IntKind.i64 behind] [])))) Tr.no)) Tr.no) Tr.no) (Tr.br (bigS s) (Tr.br (someB s (lbE3 s at_) (2 : Int)) (Tr.br (decide (Int.tmod (IntKind.wrap IntKind.i64 (n16 s (lbE3 s at_))) (16384 : Int) ≥ at_)) (Tr.ret (Sum.inr (Ex.ret, stOf [4, 5, 6, 7, 8] [AV.str [], AV.int IntKind.i64 (0 : Int), AV.int IntKind.i64 (2 : Int), AV.str (n ++ lbS3 s at_), AV.int IntKind.i64 behind] []))) (Tr.br (decide (behind < (0 : Int))) (Tr.ret (Sum.inl (stOf [0, 1, 7, 8] [AV.str s, AV.int IntKind.i64 (Int.tmod (IntKind.wrap IntKind.i64 (n16 s (lbE3 s at_))) (16384 : Int)), AV.str (n ++ lbS3 s at_), AV.int IntKind.i64 (lbE3 s at_ + (2 : Ty.den (Ty.int IntKind.i64)))] []))) (Tr.ret (Sum.inl (stOf [0, 1, 7, 8] [AV.str s, AV.int IntKind.i64 (Int.tmod (IntKind.wrap IntKind.i64 (n16 s (lbE3 s at_))) (16384 : Int)), AV.str (n ++ lbS3 s at_), AV.int IntKind.i64 behind] []))))) (Tr.ret (Sum.inr (Ex.ret, stOf [4, 5, 6, 7, 8] [AV.str [], AV.int IntKind.i64 (0 : Int), AV.int IntKind.i64 (2 : Int), AV.str (n ++ lbS3 s at_), AV.int IntKind.i64 behind] [])))) Tr.no)) Tr.no)) Tr.no
set_option maxRecDepth 1000000 in
theorem round28 (lp : Lp) (s : List UInt8) (at_ : Int) (n : List UInt8) (behind : Int) : evC T0 (orcB [fs54w, fs55w, fs56w, fs57w] []) lp b28 0 (stOf [0, 1, 7, 8] [.str s, .int .i64 at_, .str n, .int .i64 behind] []) (roundK [0, 1, 7, 8] [4, 5, 6, 7, 8] 0) = (r28 s at_ n behind).get := by kernel_rfl
theorem wf28 (s : List UInt8) (I'' : Int → List UInt8 → Int → Prop) (m'' : Int → List UInt8 → Int → Nat) (r'' : Ex × St) (h : ∀ (at_ : Int) (n : List UInt8) (behind : Int), I'' at_ n behind → (r28 s at_ n behind).all fun x'' => x'' = .inr r'' ∨ ∃ (at_' : Int) (n' : List UInt8) (behind' : Int), x'' = .inl (stOf [0, 1, 7, 8] [.str s, .int .i64 at_', .str n', .int .i64 behind'] []) ∧ I'' at_' n' behind' ∧ m'' at_' n' behind' < m'' at_ n behind) (lp : Lp) (at_ : Int) (n : List UInt8) (behind : Int) : I'' at_ n behind →
    loopF (fun st => evC T0 (orcB [fs54w, fs55w, fs56w, fs57w] []) lp b28 0 st (roundK [0, 1, 7, 8] [4, 5, 6, 7, 8] 0)) (stOf [0, 1, 7, 8] [.str s, .int .i64 at_, .str n, .int .i64 behind] []) = some r'' :=
  loop_tr (fun a'' : Int × List UInt8 × Int => stOf [0, 1, 7, 8] [.str s, .int .i64 a''.1, .str a''.2.1, .int .i64 a''.2.2] []) (fun a'' => I'' a''.1 a''.2.1 a''.2.2) (fun a'' => m'' a''.1 a''.2.1 a''.2.2) r'' (fun a'' => r28 s a''.1 a''.2.1 a''.2.2)
    (fun a'' x hx => (round28 lp s a''.1 a''.2.1 a''.2.2).trans hx) (fun a'' ha => Tr.all_mono (fun x'' hx => hx.imp id fun ⟨at_', n', behind', h1, h2, h3⟩ => ⟨(at_', n', behind'), h1, h2, h3⟩) (h (a''.1) (a''.2.1) (a''.2.2) ha)) (at_, n, behind)
def tk3I (s : List UInt8) (a0 b0 : Int) (n0 : List UInt8) (a : Int) (n : List UInt8) (b : Int) : Prop := (n = [] ∨ 0 ≤ a ∧ a < 16384 ∧ (n.length : Int) ≤ 1000000000000 * (16385 - a)) ∧ tk3 s a b n = tk3 s a0 b0 n0
theorem loop28 : ls28.Ok T0 (orcB [fs54w, fs55w, fs56w, fs57w] []) h28 0 0 b28 := by
  intro q'' hq'' x'' y'' r'' h
  obtain ⟨(s : List UInt8), (at_ : Int), (n : List UInt8), (behind : Int), _⟩ := x''
  obtain ⟨hc, rfl⟩ := Tr.get_on2 h
  show loopF (fun st => evC T0 (orcB [fs54w, fs55w, fs56w, fs57w] []) (lpN T0 (orcB [fs54w, fs55w, fs56w, fs57w] []) h28 0 q'') b28 0 st (roundK [0, 1, 7, 8] [4, 5, 6, 7, 8] 0)) (stOf [0, 1, 7, 8] [.str s, .int .i64 at_, .str n, .int .i64 behind] []) = some ((bif (tk3 s at_ behind n).1 then (.exit 0, [.dead, .dead, .dead, .str (tk3 s at_ behind n).2.1, .int .i64 (tk3 s at_ behind n).2.2], []) else (.ret, [.str [], .int .i64 0, .int .i64 2, .str (tk3 s at_ behind n).2.1, .int .i64 (tk3 s at_ behind n).2.2], []) : Ex × List AV × List LObj).1, stOf [4, 5, 6, 7, 8] (bif (tk3 s at_ behind n).1 then (.exit 0, [.dead, .dead, .dead, .str (tk3 s at_ behind n).2.1, .int .i64 (tk3 s at_ behind n).2.2], []) else (.ret, [.str [], .int .i64 0, .int .i64 2, .str (tk3 s at_ behind n).2.1, .int .i64 (tk3 s at_ behind n).2.2], []) : Ex × List AV × List LObj).2.1 (bif (tk3 s at_ behind n).1 then (.exit 0, [.dead, .dead, .dead, .str (tk3 s at_ behind n).2.1, .int .i64 (tk3 s at_ behind n).2.2], []) else (.ret, [.str [], .int .i64 0, .int .i64 2, .str (tk3 s at_ behind n).2.1, .int .i64 (tk3 s at_ behind n).2.2], []) : Ex × List AV × List LObj).2.2)
  simp only [Bool.and_eq_true, nilS, List.isEmpty_iff] at hc
  obtain ⟨hb, hn⟩ := hc
  refine wf28 s (tk3I s at_ behind n) (fun a _ _ => a.toNat) _ ?_ _ at_ n behind ⟨.inl hn, rfl⟩
  clear hn
  rintro a n' b' ⟨h1, h2⟩
  rw [← h2]
  have hB : s.length ≤ 1000000000000 := by simpa [bigS] using hb
  unfold r28
  refine Tr.all_t hb ?_
  by_cases h0 : a < 0
  · rw [show lbE3 s a = -1 by simp [lbE3, h0], show tk3 s a b' n' = (false, n', b') by simp [tk3, h0]]
    exact Tr.all_t rfl (Tr.all_ret (.inl rfl))
  have hto : ((a.toNat : Nat) : Int) = a := Int.toNat_of_nonneg (by omega)
  have ht : tk3 s a b' n' = takeS s a.toNat b' n' := by simp [tk3, h0]
  cases hL : labE s a.toNat with
  | none =>
    rw [show lbE3 s a = -1 by simp [lbE3, h0, hL], ht, takeS.eq_1, hL]
    exact Tr.all_t rfl (Tr.all_ret (.inl rfl))
  | some p =>
    obtain ⟨e, r⟩ := p
    have hge := labE_ge _ _ e r rfl hL
    have hsl := sub_len (s := s) hge.1 hge.2.1
    have hE : lbE3 s a = e := by simp [lbE3, h0, hL]
    have hS : lbS3 s a = sub s a.toNat e := by simp [lbS3, h0, hL]
    have hend := endsR_lab (s := s) _ a.toNat a.toNat e r rfl (Nat.le_refl _) hL
    rw [Nat.sub_self] at hend
    rw [hE, hS, ht, takeS.eq_1, hL]
    have hnl : n'.length + (sub s a.toNat e).length ≤ 9223372036854775807 := by
      rw [hsl]
      rcases h1 with rfl | h1
      · simp; omega
      · omega
    refine Tr.all_f (dec_false (by omega)) (Tr.all_t (Nat.ble_eq_true_of_le hnl) ?_)
    have hbs : bigS (sub s a.toNat e) = true := by simp [bigS, hsl]; omega
    have hwi : IntKind.wrap IntKind.i64 ((List.length (sub s a.toNat e) : Int) - 1) = (List.length (sub s a.toNat e) : Int) - 1 := IntWalk.i64_in _ (by omega)
    rw [hwi]
    cases r with
    | true =>
      have hlt := (hge.2.2 rfl).1
      have hlast : (↑(UInt8.toNat (List.getD (sub s a.toNat e) (Int.toNat ((List.length (sub s a.toNat e) : Int) - 1)) 0)) : Int) = 0 := by
        have : byN (sub s a.toNat e) (e - a.toNat - 1) = 0 := by rw [sub_get (by omega) hge.2.1, show a.toNat + (e - a.toNat - 1) = e - 1 by omega]; exact (hge.2.2 rfl).2
        rw [show Int.toNat ((List.length (sub s a.toNat e) : Int) - 1) = e - a.toNat - 1 by rw [hsl]; omega]
        have h3 : (List.getD (sub s a.toNat e) (e - a.toNat - 1) 0).toNat = 0 := this
        omega
      refine Tr.all_t ?_ (Tr.all_t (dec_true (by omega)) (Tr.all_t (dec_true (by omega)) (Tr.all_t (beq_iff_eq.2 hlast) (Tr.all_t hbs (Tr.all_t hend (Tr.all_br (fun c1 => Tr.all_ret (.inl ?_)) fun c1 => Tr.all_ret (.inl ?_)))))))
      · cases hq : sub s a.toNat e with
        | nil => rw [hq] at hsl; simp at hsl; omega
        | cons _ _ => rfl
      · simp only [decide_eq_true_eq] at c1
        simp only [if_pos c1]
        rfl
      · simp only [decide_eq_false_iff_not] at c1
        simp only [if_neg c1]
        rfl
    | false =>
      have hm : Int.tmod (IntKind.wrap IntKind.i64 (n16 s (e : Int))) 16384 = toT s (e : Int) := by
        have := n16_in s (e : Int)
        rw [IntWalk.i64_in _ (by omega), Int.tmod_eq_emod_of_nonneg this.1]
        rfl
      have hti := toT_in s (e : Int)
      rw [hm]
      refine Tr.all_br (fun c0 => Tr.all_t (dec_true ?_) (Tr.all_t (dec_true (by omega)) (Tr.all_br (fun _ => Tr.all_t hbs (Tr.all_f hend ?_)) fun _ => ?_))) fun _ => ?_
      · cases hq : sub s a.toNat e with
        | nil => rw [hq] at c0; cases c0
        | cons _ _ => simp
      all_goals
        by_cases h3 : e + 2 ≤ s.length ∧ toT s (e : Int) < (a.toNat : Int)
        · simp only [dif_pos h3]
          have hstep : tk3 s (toT s (e : Int)) (if b' < 0 then (e : Int) + 2 else b') (n' ++ sub s a.toNat e) = tk3 s at_ behind n := by
            rw [← h2, ht, takeS.eq_1 s a.toNat, hL]
            simp only [dif_pos h3]
            unfold tk3
            rw [if_neg (by omega)]
          have hl2 : ((n' ++ sub s a.toNat e).length : Int) ≤ 1000000000000 * (16385 - toT s (e : Int)) := by
            rw [List.length_append, hsl]
            rcases h1 with rfl | h1
            · simp; omega
            · omega
          refine Tr.all_t hb (Tr.all_t (someB_nat.2 (by omega : e + 2 ≤ s.length)) (Tr.all_f (dec_false (by omega)) (Tr.all_br (fun c1 => Tr.all_ret (.inr ?_)) fun c1 => Tr.all_ret (.inr ?_))))
          · simp only [decide_eq_true_eq] at c1
            rw [if_pos c1] at hstep
            exact ⟨_, _, _, rfl, ⟨.inr ⟨by omega, by omega, hl2⟩, hstep⟩, by omega⟩
          · simp only [decide_eq_false_iff_not] at c1
            rw [if_neg c1] at hstep
            exact ⟨_, _, _, rfl, ⟨.inr ⟨by omega, by omega, hl2⟩, hstep⟩, by omega⟩
        · simp only [dif_neg h3]
          cases h4 : someB s (e : Int) 2 with
          | false => exact Tr.all_t hb (Tr.all_f rfl (Tr.all_ret (.inl rfl)))
          | true =>
            have := (someB_nat (m := 2)).1 h4
            exact Tr.all_t hb (Tr.all_t rfl (Tr.all_t (dec_true (by omega)) (Tr.all_ret (.inl rfl))))
/-- derrickref03.Take -/
def t28 (s : List UInt8) (at_ : Int) : Tr Res := Tr.br (bigS s && nilS ([])) (Tr.br (Prod.fst (tk3 s at_ (-1 : Int) ([]))) (Tr.br (decide ((↑(List.length (Prod.fst (Prod.snd (tk3 s at_ (-1 : Int) ([]))))) : Int) > (255 : Int))) (Tr.ret ([AV.str [], AV.int IntKind.i64 (0 : Int), AV.int IntKind.i64 (2 : Int)], [])) (Tr.br (bigS (Prod.fst (Prod.snd (tk3 s at_ (-1 : Int) ([]))))) (Tr.ret ([AV.str (foldB (Prod.fst (Prod.snd (tk3 s at_ (-1 : Int) ([]))))), AV.int IntKind.i64 (Prod.snd (Prod.snd (tk3 s at_ (-1 : Int) ([])))), AV.int IntKind.i64 (0 : Int)], [])) Tr.no)) (Tr.ret ([AV.str [], AV.int IntKind.i64 (0 : Int), AV.int IntKind.i64 (2 : Int)], []))) Tr.no
def os28 : OSpec := { f := 28, sh := [.d .str false, .d (.int .i64) false], so := [], F := fun (s, at_, _) _ => t28 s at_ }
set_option maxRecDepth 1000000 in
theorem fn28 (s : List UInt8) (at_ : Int) : evC T0 (orcB [fs54w, fs55w, fs56w, fs57w] []) (lpOf h28 0 (lsOf [ls28])) c28 1000000 (startSt [.str s, .int .i64 at_] [] Try.f28.ntmps) (finishK T0 false 0 Try.f28) = (t28 s at_).get := by kernel_rfl
theorem ok28 : os28.Ok Try.prog := by
  refine os_ok mixed0 tab0 (orcB_sound (all_cons okf54w (all_cons okf55w (all_cons okf56w (all_cons okf57w all_nil)))) all_nil) h28 (d := 0) (n0 := 0) (S := lsOf [ls28]) Try.func28 (by kernel_rfl) (c := c28) (by kernel_rfl) rfl (loops_eq (xs := [(0, b28)]) (by kernel_rfl) (all_cons (ls_here loop28) all_nil)) (by omega) (by kernel_rfl) ?_
  intro x'' y'' q'' hq''
  obtain ⟨(s : List UInt8), (at_ : Int), _⟩ := x''
  exact (fn28 s at_).trans hq''
def fs28 : FSpec := fsT 28 [(.str, false), ((.int .i64), false)] [(.str, false), ((.int .i64), false), ((.int .i64), false)] fun (s, at_, _) => t28 s at_
theorem okf28 : fs28.Ok Try.prog := fsT_ok fun x'' r'' hr'' => ok28 x'' () r'' hr''
def fs28w : FSpec := fs28.like fun (s, at_, _) => .on (bigS s) (tkS (takeG s at_ at_ (-1) []), tkN (takeG s at_ at_ (-1) []), tkE (takeG s at_ at_ (-1) []), ())
theorem okf28w : fs28w.Ok Try.prog := by
  refine flike_ok okf28 _ ?_
  rintro ⟨(s : List UInt8), (at_ : Int), _⟩ y h
  obtain ⟨hb, rfl⟩ := Tr.get_on h
  refine convR_of (vs := resT (takeG s at_ at_ (-1) [])) rfl rfl (Tr.get_of_all ?_)
  show (t28 s at_).all _
  rw [tk3_G]
  refine Tr.all_t (by rw [hb]; rfl) (Tr.all_br (fun c1 => Tr.all_br (fun c2 => Tr.all_ret ?_) fun c2 => Tr.all_t ?_ (Tr.all_ret ?_)) fun c1 => Tr.all_ret ?_)
  · simp only [decide_eq_true_eq] at c2
    rw [c1, cond_true, if_neg (by omega)]
    rfl
  · simp only [decide_eq_false_iff_not] at c2
    simp [bigS]
    omega
  · simp only [decide_eq_false_iff_not] at c2
    rw [c1, cond_true, if_pos (by omega)]
    rfl
  · rw [c1]
    rfl
end Go.Proofs.YtfepkpindchleaaE

/- The document's data: words. -/
namespace Go.Proofs.YtfepkpindchleaaE
open Go Go.Proofs.YtfepkpindchleaaB
set_option linter.unusedVariables false
set_option linter.unusedSimpArgs false
noncomputable def b41 : Code := nthLoop c41 0
def ls41 : LoopSpec := { bid := 0, sh := [.d .str false, .d (.int .i64) false], so := [], F := fun (s, k, _) _ => .on2 (bigS s && decide (k = 1)) (wholeV s == 0) (.exit 0, [.dead], []) (.ret, [.int .i64 (wholeV s)], []) }
def r41 (s : List UInt8) (k : Int) : Tr (St ⊕ (Ex × St)) := Tr.br (decide (k ≤ (↑(List.length s) : Int))) (Tr.br (decide (k ≤ (255 : Int))) (Tr.br (decide ((0 : Int) ≤ k) && decide (k ≤ (↑(List.length s) : Int))) (Tr.br (decide ((0 : Int) ≤ (0 : Int)) && decide ((0 : Int) ≤ k)) (Tr.br (bigS (List.take (Int.toNat k - Int.toNat (0 : Int)) (List.drop (Int.toNat (0 : Int)) s))) (Tr.br (mayV (List.take (Int.toNat k - Int.toNat (0 : Int)) (List.drop (Int.toNat (0 : Int)) s))) (Tr.ret (Sum.inr (Ex.ret, stOf [2] [AV.int IntKind.i64 k] []))) (Tr.ret (Sum.inl (stOf [0, 3] [AV.str s, AV.int IntKind.i64 (IntKind.wrap IntKind.i64 (k + (1 : Int)))] [])))) Tr.no) Tr.no) Tr.no) (Tr.ret (Sum.inr (Ex.exit 0, stOf [2] [AV.dead] [])))) (Tr.ret (Sum.inr (Ex.exit 0, stOf [2] [AV.dead] [])))
set_option maxRecDepth 1000000 in
theorem round41 (lp : Lp) (s : List UInt8) (k : Int) : evC T0 (orcB [fs43v] []) lp b41 0 (stOf [0, 3] [.str s, .int .i64 k] []) (roundK [0, 3] [2] 0) = (r41 s k).get := by kernel_rfl
theorem wf41 (s : List UInt8) (I'' : Int → Prop) (m'' : Int → Nat) (r'' : Ex × St) (h : ∀ (k : Int), I'' k → (r41 s k).all fun x'' => x'' = .inr r'' ∨ ∃ (k' : Int), x'' = .inl (stOf [0, 3] [.str s, .int .i64 k'] []) ∧ I'' k' ∧ m'' k' < m'' k) (lp : Lp) (k : Int) : I'' k →
    loopF (fun st => evC T0 (orcB [fs43v] []) lp b41 0 st (roundK [0, 3] [2] 0)) (stOf [0, 3] [.str s, .int .i64 k] []) = some r'' :=
  loop_tr (fun a'' : Int => stOf [0, 3] [.str s, .int .i64 a''] []) (fun a'' => I'' a'') (fun a'' => m'' a'') r'' (fun a'' => r41 s a'')
    (fun a'' x hx => (round41 lp s a'').trans hx) (fun a'' ha => Tr.all_mono (fun x'' hx => hx.imp id fun ⟨k', h1, h2, h3⟩ => ⟨(k'), h1, h2, h3⟩) (h (a'') ha)) (k)
theorem loop41 : ls41.Ok T0 (orcB [fs43v] []) h41 0 0 b41 := by
  intro q'' hq'' x'' y'' r'' h
  obtain ⟨(s : List UInt8), (k : Int), _⟩ := x''
  obtain ⟨hc, rfl⟩ := Tr.get_on2 h
  show loopF (fun st => evC T0 (orcB [fs43v] []) (lpN T0 (orcB [fs43v] []) h41 0 q'') b41 0 st (roundK [0, 3] [2] 0)) (stOf [0, 3] [.str s, .int .i64 k] []) = some ((bif wholeV s == 0 then (.exit 0, [.dead], []) else (.ret, [.int .i64 (wholeV s)], []) : Ex × List AV × List LObj).1, stOf [2] (bif wholeV s == 0 then (.exit 0, [.dead], []) else (.ret, [.int .i64 (wholeV s)], []) : Ex × List AV × List LObj).2.1 (bif wholeV s == 0 then (.exit 0, [.dead], []) else (.ret, [.int .i64 (wholeV s)], []) : Ex × List AV × List LObj).2.2)
  simp only [Bool.and_eq_true, decide_eq_true_eq] at hc
  obtain ⟨hb, rfl⟩ := hc
  have hB : s.length ≤ 1000000000000 := by simpa [bigS] using hb
  refine wf41 s (fun k => 1 ≤ k ∧ k ≤ 256 ∧ (wholeV s = 0 ∨ k ≤ wholeV s)) (fun k => (257 - k).toNat) _ ?_ _ 1 ⟨by omega, by omega, by omega⟩
  rintro k ⟨h1, h2, h3⟩
  unfold r41
  have hwl := wholeV_le s
  have hwm : wholeV s ≠ 0 → wholeV s ≤ 255 := fun h => by
    have := (whole_of (d := s) hwl (whole_may h)).2
    omega
  by_cases hk : k ≤ s.length
  · by_cases h255 : k ≤ 255
    · have ht : List.take (Int.toNat k - Int.toNat (0 : Int)) (List.drop (Int.toNat (0 : Int)) s) = s.take k.toNat := rfl
      rw [ht, IntWalk.i64_in _ (by omega)]
      refine Tr.all_t (dec_true hk) (Tr.all_t (dec_true h255) (Tr.all_t (by rw [dec_true (by omega), dec_true hk]; rfl) (Tr.all_t (by rw [dec_true (by omega), dec_true (by omega)]; rfl) (Tr.all_t (by simp [bigS]; omega) (Tr.all_br (fun c => Tr.all_ret (.inl ?_)) fun c => Tr.all_ret (.inr ⟨_, rfl, ⟨by omega, by omega, ?_⟩, by omega⟩))))))
      · obtain ⟨e, _⟩ := whole_of (d := s) (by omega) c
        rw [show (wholeV s == 0) = false from beq_eq_false_iff_ne.2 (by omega), e, Int.toNat_of_nonneg (by omega)]
        rfl
      · rcases h3 with h3 | h3
        · exact .inl h3
        · by_cases he : k = (wholeV s : Int)
          · have := whole_may (d := s) (by omega)
            rw [show wholeV s = k.toNat by omega, c] at this
            cases this
          · omega
    · have h0 : wholeV s = 0 := by
        rcases h3 with h3 | h3
        · exact h3
        · by_cases hz : wholeV s = 0
          · exact hz
          · have := hwm hz; omega
      rw [h0]
      exact Tr.all_t (dec_true hk) (Tr.all_f (dec_false h255) (Tr.all_ret (.inl rfl)))
  · have h0 : wholeV s = 0 := by omega
    rw [h0]
    exact Tr.all_f (dec_false hk) (Tr.all_ret (.inl rfl))
/-- derrickref04.size -/
def t41 (s : List UInt8) : Tr Res := Tr.br (bigS s && decide ((1 : Int) = (1 : Ty.den (Ty.int IntKind.i64)))) (Tr.br (wholeV s == 0) (Tr.ret ([AV.int IntKind.i64 (0 : Int)], [])) (Tr.ret ([AV.int IntKind.i64 (↑(wholeV s) : Int)], []))) Tr.no
def os41 : OSpec := { f := 41, sh := [.d .str false], so := [], F := fun (s, _) _ => t41 s }
set_option maxRecDepth 1000000 in
theorem fn41 (s : List UInt8) : evC T0 (orcB [fs43v] []) (lpOf h41 0 (lsOf [ls41])) c41 1000000 (startSt [.str s] [] Try.f41.ntmps) (finishK T0 false 0 Try.f41) = (t41 s).get := by kernel_rfl
theorem ok41 : os41.Ok Try.prog := by
  refine os_ok mixed0 tab0 (orcB_sound (all_cons okf43v all_nil) all_nil) h41 (d := 0) (n0 := 0) (S := lsOf [ls41]) Try.func41 (by kernel_rfl) (c := c41) (by kernel_rfl) rfl (loops_eq (xs := [(0, b41)]) (by kernel_rfl) (all_cons (ls_here loop41) all_nil)) (by omega) (by kernel_rfl) ?_
  intro x'' y'' q'' hq''
  obtain ⟨(s : List UInt8), _⟩ := x''
  exact (fn41 s).trans hq''
def fs41 : FSpec := fsT 41 [(.str, false)] [((.int .i64), false)] fun (s, _) => t41 s
theorem okf41 : fs41.Ok Try.prog := fsT_ok fun x'' r'' hr'' => ok41 x'' () r'' hr''
def fs41w : FSpec := fs41.like fun (s, _) => .on (bigS s) ((wholeV s : Int), ())
theorem okf41w : fs41w.Ok Try.prog := by
  refine flike_ok okf41 _ ?_
  rintro ⟨(s : List UInt8), _⟩ y h
  obtain ⟨hb, rfl⟩ := Tr.get_on h
  refine convR_of (vs := [.int .i64 (wholeV s)]) rfl rfl (Tr.get_of_all ?_)
  show (t41 s).all _
  refine Tr.all_t (by rw [hb]; rfl) (Tr.all_br (fun c1 => Tr.all_ret ?_) fun c1 => Tr.all_ret rfl)
  rw [beq_iff_eq.1 c1]
  rfl
noncomputable def b61 : Code := nthLoop c61 0
def ls61 : LoopSpec := { bid := 0, sh := [.d .str false], so := [], F := fun (s, _) _ => .on2 (bigS s) (texR s) (.exit 0, [.dead], []) (.ret, [.bool false], []) }
def r61 (s : List UInt8) : Tr (St ⊕ (Ex × St)) := Tr.br (!s == []) (Tr.br (decide ((0 : Int) < (↑(List.length s) : Int))) (Tr.br (decide (IntKind.wrap IntKind.i64 ((1 : Int) + IntKind.wrap IntKind.i64 (↑(UInt8.toNat (List.getD s (Int.toNat (0 : Int)) 0)) : Int)) > (↑(List.length s) : Int))) (Tr.ret (Sum.inr (Ex.ret, stOf [2] [AV.bool false] []))) (Tr.br (decide ((0 : Int) ≤ (↑(List.length s) : Int)) && decide ((↑(List.length s) : Int) ≤ (↑(List.length s) : Int))) (Tr.br (decide ((0 : Int) ≤ IntKind.wrap IntKind.i64 ((1 : Int) + IntKind.wrap IntKind.i64 (↑(UInt8.toNat (List.getD s (Int.toNat (0 : Int)) 0)) : Int))) && decide (IntKind.wrap IntKind.i64 ((1 : Int) + IntKind.wrap IntKind.i64 (↑(UInt8.toNat (List.getD s (Int.toNat (0 : Int)) 0)) : Int)) ≤ (↑(List.length s) : Int))) (Tr.ret (Sum.inl (stOf [0] [AV.str (List.take (Int.toNat (↑(List.length s) : Int) - Int.toNat (IntKind.wrap IntKind.i64 ((1 : Int) + IntKind.wrap IntKind.i64 (↑(UInt8.toNat (List.getD s (Int.toNat (0 : Int)) 0)) : Int)))) (List.drop (Int.toNat (IntKind.wrap IntKind.i64 ((1 : Int) + IntKind.wrap IntKind.i64 (↑(UInt8.toNat (List.getD s (Int.toNat (0 : Int)) 0)) : Int)))) s))] []))) Tr.no) Tr.no)) Tr.no) (Tr.ret (Sum.inr (Ex.exit 0, stOf [2] [AV.dead] [])))
set_option maxRecDepth 1000000 in
theorem round61 (orc : Orc) (lp : Lp) (s : List UInt8) : evC T0 orc lp b61 0 (stOf [0] [.str s] []) (roundK [0] [2] 0) = (r61 s).get := by kernel_rfl
theorem wf61 (orc : Orc) (I'' : List UInt8 → Prop) (m'' : List UInt8 → Nat) (r'' : Ex × St) (h : ∀ (s : List UInt8), I'' s → (r61 s).all fun x'' => x'' = .inr r'' ∨ ∃ (s' : List UInt8), x'' = .inl (stOf [0] [.str s'] []) ∧ I'' s' ∧ m'' s' < m'' s) (lp : Lp) (s : List UInt8) : I'' s →
    loopF (fun st => evC T0 orc lp b61 0 st (roundK [0] [2] 0)) (stOf [0] [.str s] []) = some r'' :=
  loop_tr (fun a'' : List UInt8 => stOf [0] [.str a''] []) (fun a'' => I'' a'') (fun a'' => m'' a'') r'' (fun a'' => r61 a'')
    (fun a'' x hx => (round61 orc lp a'').trans hx) (fun a'' ha => Tr.all_mono (fun x'' hx => hx.imp id fun ⟨s', h1, h2, h3⟩ => ⟨(s'), h1, h2, h3⟩) (h (a'') ha)) (s)
theorem loop61 (orc : Orc) : ls61.Ok T0 orc h61 0 0 b61 := by
  intro q'' hq'' x'' y'' r'' h
  obtain ⟨(s : List UInt8), _⟩ := x''
  obtain ⟨hc, rfl⟩ := Tr.get_on2 h
  show loopF (fun st => evC T0 orc (lpN T0 orc h61 0 q'') b61 0 st (roundK [0] [2] 0)) (stOf [0] [.str s] []) = some ((bif texR s then (.exit 0, [.dead], []) else (.ret, [.bool false], []) : Ex × List AV × List LObj).1, stOf [2] (bif texR s then (.exit 0, [.dead], []) else (.ret, [.bool false], []) : Ex × List AV × List LObj).2.1 (bif texR s then (.exit 0, [.dead], []) else (.ret, [.bool false], []) : Ex × List AV × List LObj).2.2)
  refine wf61 _ (fun t => bigS t = true ∧ texR t = texR s) (fun t => t.length) _ ?_ _ s ⟨hc, rfl⟩
  clear hc
  rintro t ⟨hb, h2⟩
  rw [← h2]
  have hB : t.length ≤ 1000000000000 := by simpa [bigS] using hb
  unfold r61
  cases ht : t with
  | nil =>
    rw [texR_nil]
    exact Tr.all_f rfl (Tr.all_ret (.inl rfl))
  | cons c0 t0 =>
    rw [← ht]
    have hne : t ≠ [] := by rw [ht]; simp
    have hpos := List.length_pos_iff.2 hne
    have hb0 : (↑(UInt8.toNat (List.getD t (Int.toNat (0 : Int)) 0)) : Int) = (byN t 0 : Int) := rfl
    have hbl : byN t 0 < 256 := (t.getD 0 0).toNat_lt
    rw [hb0]
    simp (disch := omega) only [IntWalk.i64_in]
    refine Tr.all_t (by rw [ht]; rfl) (Tr.all_t (dec_true (by omega)) (Tr.all_br (fun c => Tr.all_ret (.inl ?_)) fun c => Tr.all_t (by rw [dec_true (by omega), dec_true (by omega)]; rfl) (Tr.all_t ?_ (Tr.all_ret (.inr ⟨_, rfl, ?_, ?_⟩)))))
    · simp only [decide_eq_true_eq] at c
      rw [texR_long hne (by omega)]
      rfl
    · simp only [decide_eq_false_iff_not] at c
      rw [dec_true (by omega), dec_true (by omega)]
      rfl
    · simp only [decide_eq_false_iff_not] at c
      have e : List.take (Int.toNat (t.length : Int) - Int.toNat ((1 : Int) + (byN t 0 : Int))) (List.drop (Int.toNat ((1 : Int) + (byN t 0 : Int))) t) = t.drop (1 + byN t 0) := by
        rw [show Int.toNat ((1 : Int) + (byN t 0 : Int)) = 1 + byN t 0 by omega]
        exact List.take_of_length_le (by simp)
      rw [e]
      exact ⟨by simp [bigS]; omega, (texR_on hne (by omega)).symm⟩
    · rw [List.length_take, List.length_drop]
      omega
/-- derrickref04.texts -/
def t61 (s : List UInt8) : Tr Res := Tr.br (s == []) (Tr.ret ([AV.bool false], [])) (Tr.br (bigS s) (Tr.br (texR s) (Tr.ret ([AV.bool true], [])) (Tr.ret ([AV.bool false], []))) Tr.no)
def os61 : OSpec := { f := 61, sh := [.d .str false], so := [], F := fun (s, _) _ => t61 s }
set_option maxRecDepth 1000000 in
theorem fn61 (s : List UInt8) : evC T0 (orcB [] []) (lpOf h61 0 (lsOf [ls61])) c61 1000000 (startSt [.str s] [] Try.f61.ntmps) (finishK T0 false 0 Try.f61) = (t61 s).get := by kernel_rfl
theorem ok61 : os61.Ok Try.prog := by
  refine os_ok mixed0 tab0 (orcB_sound all_nil all_nil) h61 (d := 0) (n0 := 0) (S := lsOf [ls61]) Try.func61 (by kernel_rfl) (c := c61) (by kernel_rfl) rfl (loops_eq (xs := [(0, b61)]) (by kernel_rfl) (all_cons (ls_here (loop61 _)) all_nil)) (by omega) (by kernel_rfl) ?_
  intro x'' y'' q'' hq''
  obtain ⟨(s : List UInt8), _⟩ := x''
  exact (fn61 s).trans hq''
def fs61 : FSpec := fsT 61 [(.str, false)] [(.bool, false)] fun (s, _) => t61 s
theorem okf61 : fs61.Ok Try.prog := fsT_ok fun x'' r'' hr'' => ok61 x'' () r'' hr''
def fs61w : FSpec := fs61.like fun (s, _) => .on (bigS s) (textsV s, ())
theorem okf61w : fs61w.Ok Try.prog := by
  refine flike_ok okf61 _ ?_
  rintro ⟨(s : List UInt8), _⟩ y h
  obtain ⟨hb, rfl⟩ := Tr.get_on h
  refine convR_of (vs := [.bool (textsV s)]) rfl rfl (Tr.get_of_all ?_)
  show (t61 s).all _
  unfold t61
  have e : textsV s = (!s.isEmpty && texR s) := rfl
  rw [e]
  cases hs : s with
  | nil => exact Tr.all_t rfl (Tr.all_ret rfl)
  | cons c0 s0 =>
    rw [← hs]
    refine Tr.all_f (by rw [hs]; rfl) (Tr.all_t hb (Tr.all_br (fun c => Tr.all_ret ?_) fun c => Tr.all_ret ?_))
    · rw [c, hs]; rfl
    · rw [c, hs]; rfl
noncomputable def b60 : Code := nthLoop c60 0
def ls60 : LoopSpec := { bid := 0, sh := [.d .str false, .d (.int .i64) false, .d (.int .i64) false, .d (.int .i64) false, .d .str false, .d (.int .i64) false], so := [], F := fun (s, at_, end_, many, d, i, _) _ => .on2 (nmsC s many i d) ((nmsV many.toNat s at_ end_ d).1) (.exit 0, [.int .i64 (nmsV many.toNat s at_ end_ d).2.1, .dead, .dead, .str (nmsV many.toNat s at_ end_ d).2.2], []) (.ret, [.int .i64 (nmsV many.toNat s at_ end_ d).2.1, .str [], .int .i64 0, .str (nmsV many.toNat s at_ end_ d).2.2], []) }
def r60 (s : List UInt8) (at_ : Int) (end_ : Int) (many : Int) (d : List UInt8) (i : Int) : Tr (St ⊕ (Ex × St)) := Tr.br (decide (i < many)) (Tr.br (bigS s) (Tr.br (tkE (takeG s at_ at_ (-1 : Int) []) != (0 : Int)) (Tr.ret (Sum.inr (Ex.ret, stOf [1, 8, 9, 10] [AV.int IntKind.i64 at_, AV.str [], AV.int IntKind.i64 (0 : Int), AV.str d] []))) (Tr.br (decide (tkN (takeG s at_ at_ (-1 : Int) []) > end_)) (Tr.ret (Sum.inr (Ex.ret, stOf [1, 8, 9, 10] [AV.int IntKind.i64 at_, AV.str [], AV.int IntKind.i64 (0 : Int), AV.str d] []))) (Tr.br (Nat.ble (List.length d + List.length (tkS (takeG s at_ at_ (-1 : Int) []))) 9223372036854775807) (Tr.ret (Sum.inl (stOf [0, 1, 2, 3, 10, 11] [AV.str s, AV.int IntKind.i64 (tkN (takeG s at_ at_ (-1 : Int) [])), AV.int IntKind.i64 end_, AV.int IntKind.i64 many, AV.str (d ++ tkS (takeG s at_ at_ (-1 : Int) [])), AV.int IntKind.i64 (IntKind.wrap IntKind.i64 (i + (1 : Int)))] []))) Tr.no))) Tr.no) (Tr.ret (Sum.inr (Ex.exit 0, stOf [1, 8, 9, 10] [AV.int IntKind.i64 at_, AV.dead, AV.dead, AV.str d] [])))
set_option maxRecDepth 1000000 in
theorem round60 (lp : Lp) (s : List UInt8) (at_ : Int) (end_ : Int) (many : Int) (d : List UInt8) (i : Int) : evC T0 (orcB [fs28w] []) lp b60 0 (stOf [0, 1, 2, 3, 10, 11] [.str s, .int .i64 at_, .int .i64 end_, .int .i64 many, .str d, .int .i64 i] []) (roundK [0, 1, 2, 3, 10, 11] [1, 8, 9, 10] 0) = (r60 s at_ end_ many d i).get := by kernel_rfl
theorem wf60 (s : List UInt8) (end_ : Int) (many : Int) (I'' : Int → List UInt8 → Int → Prop) (m'' : Int → List UInt8 → Int → Nat) (r'' : Ex × St) (h : ∀ (at_ : Int) (d : List UInt8) (i : Int), I'' at_ d i → (r60 s at_ end_ many d i).all fun x'' => x'' = .inr r'' ∨ ∃ (at_' : Int) (d' : List UInt8) (i' : Int), x'' = .inl (stOf [0, 1, 2, 3, 10, 11] [.str s, .int .i64 at_', .int .i64 end_, .int .i64 many, .str d', .int .i64 i'] []) ∧ I'' at_' d' i' ∧ m'' at_' d' i' < m'' at_ d i) (lp : Lp) (at_ : Int) (d : List UInt8) (i : Int) : I'' at_ d i →
    loopF (fun st => evC T0 (orcB [fs28w] []) lp b60 0 st (roundK [0, 1, 2, 3, 10, 11] [1, 8, 9, 10] 0)) (stOf [0, 1, 2, 3, 10, 11] [.str s, .int .i64 at_, .int .i64 end_, .int .i64 many, .str d, .int .i64 i] []) = some r'' :=
  loop_tr (fun a'' : Int × List UInt8 × Int => stOf [0, 1, 2, 3, 10, 11] [.str s, .int .i64 a''.1, .int .i64 end_, .int .i64 many, .str a''.2.1, .int .i64 a''.2.2] []) (fun a'' => I'' a''.1 a''.2.1 a''.2.2) (fun a'' => m'' a''.1 a''.2.1 a''.2.2) r'' (fun a'' => r60 s a''.1 end_ many a''.2.1 a''.2.2)
    (fun a'' x hx => (round60 lp s a''.1 end_ many a''.2.1 a''.2.2).trans hx) (fun a'' ha => Tr.all_mono (fun x'' hx => hx.imp id fun ⟨at_', d', i', h1, h2, h3⟩ => ⟨(at_', d', i'), h1, h2, h3⟩) (h (a''.1) (a''.2.1) (a''.2.2) ha)) (at_, d, i)
def nmsI (s : List UInt8) (at_ e many a : Int) (d : List UInt8) (i : Int) : Prop := 0 ≤ i ∧ i ≤ many ∧ (d.length : Int) ≤ 255 * i ∧ nmsV (many - i).toNat s a e d = nmsV many.toNat s at_ e []
theorem loop60 : ls60.Ok T0 (orcB [fs28w] []) h60 0 0 b60 := by
  intro q'' hq'' x'' y'' r'' h
  obtain ⟨(s : List UInt8), (at_ : Int), (end_ : Int), (many : Int), (d : List UInt8), (i : Int), _⟩ := x''
  obtain ⟨hc, rfl⟩ := Tr.get_on2 h
  show loopF (fun st => evC T0 (orcB [fs28w] []) (lpN T0 (orcB [fs28w] []) h60 0 q'') b60 0 st (roundK [0, 1, 2, 3, 10, 11] [1, 8, 9, 10] 0)) (stOf [0, 1, 2, 3, 10, 11] [.str s, .int .i64 at_, .int .i64 end_, .int .i64 many, .str d, .int .i64 i] []) = some ((bif (nmsV many.toNat s at_ end_ d).1 then (.exit 0, [.int .i64 (nmsV many.toNat s at_ end_ d).2.1, .dead, .dead, .str (nmsV many.toNat s at_ end_ d).2.2], []) else (.ret, [.int .i64 (nmsV many.toNat s at_ end_ d).2.1, .str [], .int .i64 0, .str (nmsV many.toNat s at_ end_ d).2.2], []) : Ex × List AV × List LObj).1, stOf [1, 8, 9, 10] (bif (nmsV many.toNat s at_ end_ d).1 then (.exit 0, [.int .i64 (nmsV many.toNat s at_ end_ d).2.1, .dead, .dead, .str (nmsV many.toNat s at_ end_ d).2.2], []) else (.ret, [.int .i64 (nmsV many.toNat s at_ end_ d).2.1, .str [], .int .i64 0, .str (nmsV many.toNat s at_ end_ d).2.2], []) : Ex × List AV × List LObj).2.1 (bif (nmsV many.toNat s at_ end_ d).1 then (.exit 0, [.int .i64 (nmsV many.toNat s at_ end_ d).2.1, .dead, .dead, .str (nmsV many.toNat s at_ end_ d).2.2], []) else (.ret, [.int .i64 (nmsV many.toNat s at_ end_ d).2.1, .str [], .int .i64 0, .str (nmsV many.toNat s at_ end_ d).2.2], []) : Ex × List AV × List LObj).2.2)
  simp only [nmsC, Bool.and_eq_true, decide_eq_true_eq, noT, List.isEmpty_iff] at hc
  obtain ⟨hb, hm0, hm3, rfl, rfl⟩ := hc
  have hB : s.length ≤ 1000000000000 := by simpa [bigS] using hb
  refine wf60 s end_ many (nmsI s at_ end_ many) (fun _ _ i => (many - i).toNat) _ ?_ _ at_ [] 0 ⟨by omega, by omega, by simp, by rw [Int.sub_zero]⟩
  rintro a d i ⟨h0, h1, hdl, hF⟩
  rw [← hF]
  unfold r60
  by_cases hi : i < many
  · have e : (many - i).toNat = (many - (i + 1)).toNat + 1 := by omega
    rw [e, nmsV] at hF ⊢
    rw [IntWalk.i64_in _ (by omega)]
    refine Tr.all_t (dec_true hi) (Tr.all_t hb ?_)
    cases ho : takeG s a a (-1) [] with
    | none => exact Tr.all_t rfl (Tr.all_ret (.inl rfl))
    | some q =>
      obtain ⟨n, next⟩ := q
      have ha : 0 ≤ a := by
        by_cases ha : a < 0
        · rw [takeG_neg ha] at ho; cases ho
        · omega
      obtain ⟨p1, p2, p3⟩ := takeG_place ha ho
      have hn := (may_iff.1 p1).2.1
      rw [ho] at hF
      simp only at hF ⊢
      refine Tr.all_f rfl (Tr.all_br (fun c => Tr.all_ret (.inl ?_)) fun c => Tr.all_t ?_ (Tr.all_ret (.inr ?_)))
      · have c' : next > end_ := of_decide_eq_true c
        rw [if_pos c']
        rfl
      · simp only [tkS]
        exact Nat.ble_eq_true_of_le (by omega)
      · have c' : ¬ next > end_ := of_decide_eq_false c
        rw [if_neg c'] at hF
        exact ⟨_, _, _, rfl, ⟨by omega, by omega, by simp only [tkS, List.length_append]; omega, hF⟩, by omega⟩
  · have e : (many - i).toNat = 0 := by omega
    rw [e]
    exact Tr.all_f (dec_false hi) (Tr.all_ret (.inl rfl))
/-- derrickref04.names -/
def t60 (s : List UInt8) (at_ : Int) (end_ : Int) (many : Int) : Tr Res := Tr.br (nmsC s many (0 : Int) ([])) (Tr.br (Prod.fst (nmsV (Int.toNat many) s at_ end_ ([]))) (Tr.ret ([AV.str (Prod.snd (Prod.snd (nmsV (Int.toNat many) s at_ end_ ([])))), AV.int IntKind.i64 (Prod.fst (Prod.snd (nmsV (Int.toNat many) s at_ end_ ([]))))], [])) (Tr.ret ([AV.str [], AV.int IntKind.i64 (0 : Int)], []))) Tr.no
def os60 : OSpec := { f := 60, sh := [.d .str false, .d (.int .i64) false, .d (.int .i64) false, .d (.int .i64) false], so := [], F := fun (s, at_, end_, many, _) _ => t60 s at_ end_ many }
set_option maxRecDepth 1000000 in
theorem fn60 (s : List UInt8) (at_ : Int) (end_ : Int) (many : Int) : evC T0 (orcB [fs28w] []) (lpOf h60 0 (lsOf [ls60])) c60 1000000 (startSt [.str s, .int .i64 at_, .int .i64 end_, .int .i64 many] [] Try.f60.ntmps) (finishK T0 false 0 Try.f60) = (t60 s at_ end_ many).get := by kernel_rfl
theorem ok60 : os60.Ok Try.prog := by
  refine os_ok mixed0 tab0 (orcB_sound (all_cons okf28w all_nil) all_nil) h60 (d := 0) (n0 := 0) (S := lsOf [ls60]) Try.func60 (by kernel_rfl) (c := c60) (by kernel_rfl) rfl (loops_eq (xs := [(0, b60)]) (by kernel_rfl) (all_cons (ls_here loop60) all_nil)) (by omega) (by kernel_rfl) ?_
  intro x'' y'' q'' hq''
  obtain ⟨(s : List UInt8), (at_ : Int), (end_ : Int), (many : Int), _⟩ := x''
  exact (fn60 s at_ end_ many).trans hq''
def fs60 : FSpec := fsT 60 [(.str, false), ((.int .i64), false), ((.int .i64), false), ((.int .i64), false)] [(.str, false), ((.int .i64), false)] fun (s, at_, end_, many, _) => t60 s at_ end_ many
theorem okf60 : fs60.Ok Try.prog := fsT_ok fun x'' r'' hr'' => ok60 x'' () r'' hr''
noncomputable def b59 : Code := nthLoop c59 0
def ls59 : LoopSpec := { bid := 0, sh := [.d .str false, .d (.int .i64) false, .d (.int .i64) false, .row 0, .d (.int .i64) false], so := [.row (.int .u8)], F := fun (s, at_, many, i, _) (b, _) => .on (smC s at_ many i b) (.exit 0, [.int .i64 at_, .int .i64 many, .rowA 0], [.row (.int .u8) (bytesInt (someV s at_ many))]) }
def r59 (s : List UInt8) (at_ : Int) (many : Int) (i : Int) (b : List Int) : Tr (St ⊕ (Ex × St)) := Tr.br (decide (i < many)) (Tr.br (decide ((0 : Int) ≤ IntKind.wrap IntKind.i64 (at_ + i))) (Tr.br (decide (IntKind.wrap IntKind.i64 (at_ + i) < (↑(List.length s) : Int))) (Tr.br (fits (List.length b + 1) 1) (Tr.ret (Sum.inl (stOf [0, 1, 2, 9, 10] [AV.str s, AV.int IntKind.i64 at_, AV.int IntKind.i64 many, AV.rowA 0, AV.int IntKind.i64 (IntKind.wrap IntKind.i64 (i + (1 : Int)))] [LObj.row (Ty.int IntKind.u8) (b ++ [(↑(UInt8.toNat (List.getD s (Int.toNat (IntKind.wrap IntKind.i64 (at_ + i))) 0)) : Int)])]))) Tr.no) Tr.no) Tr.no) (Tr.ret (Sum.inr (Ex.exit 0, stOf [1, 2, 9] [AV.int IntKind.i64 at_, AV.int IntKind.i64 many, AV.rowA 0] [LObj.row (Ty.int IntKind.u8) b])))
set_option maxRecDepth 1000000 in
theorem round59 (orc : Orc) (lp : Lp) (s : List UInt8) (at_ : Int) (many : Int) (i : Int) (b : List Int) : evC T0 orc lp b59 0 (stOf [0, 1, 2, 9, 10] [.str s, .int .i64 at_, .int .i64 many, .rowA 0, .int .i64 i] [.row (.int .u8) b]) (roundK [0, 1, 2, 9, 10] [1, 2, 9] 0) = (r59 s at_ many i b).get := by kernel_rfl
theorem wf59 (orc : Orc) (s : List UInt8) (at_ : Int) (many : Int) (I'' : Int → List Int → Prop) (m'' : Int → List Int → Nat) (r'' : Ex × St) (h : ∀ (i : Int) (b : List Int), I'' i b → (r59 s at_ many i b).all fun x'' => x'' = .inr r'' ∨ ∃ (i' : Int) (b' : List Int), x'' = .inl (stOf [0, 1, 2, 9, 10] [.str s, .int .i64 at_, .int .i64 many, .rowA 0, .int .i64 i'] [.row (.int .u8) b']) ∧ I'' i' b' ∧ m'' i' b' < m'' i b) (lp : Lp) (i : Int) (b : List Int) : I'' i b →
    loopF (fun st => evC T0 orc lp b59 0 st (roundK [0, 1, 2, 9, 10] [1, 2, 9] 0)) (stOf [0, 1, 2, 9, 10] [.str s, .int .i64 at_, .int .i64 many, .rowA 0, .int .i64 i] [.row (.int .u8) b]) = some r'' :=
  loop_tr (fun a'' : Int × List Int => stOf [0, 1, 2, 9, 10] [.str s, .int .i64 at_, .int .i64 many, .rowA 0, .int .i64 a''.1] [.row (.int .u8) a''.2]) (fun a'' => I'' a''.1 a''.2) (fun a'' => m'' a''.1 a''.2) r'' (fun a'' => r59 s at_ many a''.1 a''.2)
    (fun a'' x hx => (round59 orc lp s at_ many a''.1 a''.2).trans hx) (fun a'' ha => Tr.all_mono (fun x'' hx => hx.imp id fun ⟨i', b', h1, h2, h3⟩ => ⟨(i', b'), h1, h2, h3⟩) (h (a''.1) (a''.2) ha)) (i, b)
theorem loop59 (orc : Orc) : ls59.Ok T0 orc h59 0 0 b59 := by
  intro q'' hq'' x'' y'' r'' h
  obtain ⟨(s : List UInt8), (at_ : Int), (many : Int), (i : Int), _⟩ := x''
  obtain ⟨(b : List Int), _⟩ := y''
  obtain ⟨hc, rfl⟩ := Tr.get_on h
  show loopF (fun st => evC T0 orc (lpN T0 orc h59 0 q'') b59 0 st (roundK [0, 1, 2, 9, 10] [1, 2, 9] 0)) (stOf [0, 1, 2, 9, 10] [.str s, .int .i64 at_, .int .i64 many, .rowA 0, .int .i64 i] [.row (.int .u8) b]) = some (.exit 0, stOf [1, 2, 9] ([.int .i64 at_, .int .i64 many, .rowA 0]) ([.row (.int .u8) (bytesInt (someV s at_ many))]))
  simp only [smC, Bool.and_eq_true, decide_eq_true_eq, List.isEmpty_iff] at hc
  obtain ⟨hb, hs, rfl, rfl⟩ := hc
  have hB : s.length ≤ 1000000000000 := by simpa [bigS] using hb
  have hs' := someB_iff.1 hs
  refine wf59 _ s at_ many (fun i b => 0 ≤ i ∧ i ≤ many ∧ b = bytesInt (someV s at_ i)) (fun i _ => (many - i).toNat) _ ?_ _ 0 [] ⟨by omega, by omega, by simp [someV, bytesInt]⟩
  rintro i b ⟨h0, h1, rfl⟩
  unfold r59
  by_cases hi : i < many
  · have hl : (someV s at_ i).length = i.toNat := by unfold someV; rw [List.length_take, List.length_drop]; omega
    rw [IntWalk.i64_in (at_ + i) (by omega), IntWalk.i64_in (i + 1) (by omega)]
    refine Tr.all_t (dec_true hi) (Tr.all_t (dec_true (by omega)) (Tr.all_t (dec_true (by omega)) (Tr.all_t (fits_true (by rw [bytesInt_len]; omega) (by rw [bytesInt_len]; omega)) (Tr.all_ret (.inr ⟨_, _, rfl, ⟨by omega, by omega, ?_⟩, by omega⟩)))))
    have e : someV s at_ (i + 1) = someV s at_ i ++ [s.getD (at_ + i).toNat 0] := by
      unfold someV
      rw [show (i + 1).toNat = i.toNat + 1 by omega, List.take_add_one, List.getElem?_drop, show at_.toNat + i.toNat = (at_ + i).toNat by omega, List.getD_eq_getElem?_getD, List.getElem?_eq_getElem (by omega)]
      rfl
    rw [e, bytesInt_app]
    rfl
  · have : i = many := by omega
    subst this
    exact Tr.all_f (dec_false hi) (Tr.all_ret (.inl rfl))
/-- derrickref01.Some -/
def t59 (s : List UInt8) (at_ : Int) (many : Int) : Tr Res := Tr.br (decide (at_ ≥ (0 : Int))) (Tr.br (decide (at_ ≤ (↑(List.length s) : Int))) (Tr.br (decide (many ≥ (0 : Int))) (Tr.br (decide (many ≤ (↑(List.length s) : Int))) (Tr.br (!decide (IntKind.wrap IntKind.i64 (at_ + many) ≤ (↑(List.length s) : Int))) (Tr.ret ([AV.str [], AV.int IntKind.i64 (0 : Int), AV.int IntKind.i64 (2 : Int)], [])) (Tr.br (smC s at_ many (0 : Int) []) (Tr.ret ([AV.str (intBytes (bytesInt (someV s at_ many))), AV.int IntKind.i64 (IntKind.wrap IntKind.i64 (at_ + many)), AV.int IntKind.i64 (0 : Int)], [])) Tr.no)) (Tr.ret ([AV.str [], AV.int IntKind.i64 (0 : Int), AV.int IntKind.i64 (2 : Int)], []))) (Tr.ret ([AV.str [], AV.int IntKind.i64 (0 : Int), AV.int IntKind.i64 (2 : Int)], []))) (Tr.ret ([AV.str [], AV.int IntKind.i64 (0 : Int), AV.int IntKind.i64 (2 : Int)], []))) (Tr.ret ([AV.str [], AV.int IntKind.i64 (0 : Int), AV.int IntKind.i64 (2 : Int)], []))
def os59 : OSpec := { f := 59, sh := [.d .str false, .d (.int .i64) false, .d (.int .i64) false], so := [], F := fun (s, at_, many, _) _ => t59 s at_ many }
set_option maxRecDepth 1000000 in
theorem fn59 (s : List UInt8) (at_ : Int) (many : Int) : evC T0 (orcB [fs70] []) (lpOf h59 0 (lsOf [ls59])) c59 1000000 (startSt [.str s, .int .i64 at_, .int .i64 many] [] Try.f59.ntmps) (finishK T0 false 0 Try.f59) = (t59 s at_ many).get := by kernel_rfl
theorem ok59 : os59.Ok Try.prog := by
  refine os_ok mixed0 tab0 (orcB_sound (all_cons okf70 all_nil) all_nil) h59 (d := 0) (n0 := 0) (S := lsOf [ls59]) Try.func59 (by kernel_rfl) (c := c59) (by kernel_rfl) rfl (loops_eq (xs := [(0, b59)]) (by kernel_rfl) (all_cons (ls_here (loop59 _)) all_nil)) (by omega) (by kernel_rfl) ?_
  intro x'' y'' q'' hq''
  obtain ⟨(s : List UInt8), (at_ : Int), (many : Int), _⟩ := x''
  exact (fn59 s at_ many).trans hq''
def fs59 : FSpec := fsT 59 [(.str, false), ((.int .i64), false), ((.int .i64), false)] [(.str, false), ((.int .i64), false), ((.int .i64), false)] fun (s, at_, many, _) => t59 s at_ many
theorem okf59 : fs59.Ok Try.prog := fsT_ok fun x'' r'' hr'' => ok59 x'' () r'' hr''
def fs59w : FSpec := fs59.like fun (s, at_, many, _) => .br (bigS s) (.br (someB s at_ many) (.ret (someV s at_ many, at_ + many, (0 : Int), ())) (.ret (([] : List UInt8), (0 : Int), (2 : Int), ()))) .no
theorem okf59w : fs59w.Ok Try.prog := by
  refine flike_ok okf59 _ ?_
  rintro ⟨(s : List UInt8), (at_ : Int), (many : Int), _⟩ y h
  simp only [Tr.get] at h
  cases hb : bigS s with
  | false => rw [hb] at h; cases h
  | true =>
    rw [hb, cond_true] at h
    have hB : s.length ≤ 1000000000000 := by simpa [bigS] using hb
    cases hs : someB s at_ many with
    | true =>
      rw [hs, cond_true] at h
      cases h
      have hs' := someB_iff.1 hs
      refine convR_of (vs := [.str (someV s at_ many), .int .i64 (at_ + many), .int .i64 0]) rfl rfl (Tr.get_of_all ?_)
      show (t59 s at_ many).all _
      unfold t59
      rw [IntWalk.i64_in _ (by omega), intB_bytes]
      exact Tr.all_t (dec_true (by omega)) (Tr.all_t (dec_true (by omega)) (Tr.all_t (dec_true (by omega)) (Tr.all_t (dec_true (by omega)) (Tr.all_f (by rw [dec_true (by omega)]; rfl) (Tr.all_t (by simp [smC, hb, hs]) (Tr.all_ret rfl))))))
    | false =>
      rw [hs, cond_false] at h
      cases h
      refine convR_of (vs := [.str [], .int .i64 0, .int .i64 2]) rfl rfl (Tr.get_of_all ?_)
      show (t59 s at_ many).all _
      unfold t59
      have hn : ¬ (0 ≤ at_ ∧ 0 ≤ many ∧ at_ + many ≤ s.length) := fun hh => by
        rw [someB_iff.2 hh] at hs
        cases hs
      refine Tr.all_br (fun c1 => Tr.all_br (fun c2 => Tr.all_br (fun c3 => Tr.all_br (fun c4 => Tr.all_t ?_ (Tr.all_ret rfl)) fun _ => Tr.all_ret rfl) fun _ => Tr.all_ret rfl) fun _ => Tr.all_ret rfl) fun _ => Tr.all_ret rfl
      simp only [decide_eq_true_eq] at c1 c2 c3 c4
      rw [IntWalk.i64_in _ (by omega), dec_false (by omega)]
      rfl
/-- derrickref04.May -/
def t37 (k : Int) (d : List UInt8) : Tr Res := Tr.br (decide ((↑(List.length d) : Int) > (65535 : Int))) (Tr.ret ([AV.bool false], [])) (Tr.br (k == (1 : Int)) (Tr.ret ([AV.bool ((↑(List.length d) : Int) == (4 : Int))], [])) (Tr.br (k == (28 : Int)) (Tr.ret ([AV.bool ((↑(List.length d) : Int) == (16 : Int))], [])) (Tr.br (k == (2 : Int)) (Tr.br (bigS d) (Tr.ret ([AV.bool (mayV d)], [])) Tr.no) (Tr.br (k == (5 : Int)) (Tr.br (bigS d) (Tr.ret ([AV.bool (mayV d)], [])) Tr.no) (Tr.br (k == (12 : Int)) (Tr.br (bigS d) (Tr.ret ([AV.bool (mayV d)], [])) Tr.no) (Tr.br (k == (15 : Int)) (Tr.br (decide ((↑(List.length d) : Int) > (2 : Int))) (Tr.br (decide ((0 : Int) ≤ (↑(List.length d) : Int)) && decide ((↑(List.length d) : Int) ≤ (↑(List.length d) : Int))) (Tr.br (decide ((0 : Int) ≤ (2 : Int)) && decide ((2 : Int) ≤ (↑(List.length d) : Int))) (Tr.br (bigS (List.take (Int.toNat (↑(List.length d) : Int) - Int.toNat (2 : Int)) (List.drop (Int.toNat (2 : Int)) d))) (Tr.ret ([AV.bool (mayV (List.take (Int.toNat (↑(List.length d) : Int) - Int.toNat (2 : Int)) (List.drop (Int.toNat (2 : Int)) d)))], [])) Tr.no) Tr.no) Tr.no) (Tr.ret ([AV.bool false], []))) (Tr.br (k == (6 : Int)) (Tr.br (bigS d) (Tr.br (decide ((0 : Int) ≤ (↑(List.length d) : Int)) && decide ((↑(List.length d) : Int) ≤ (↑(List.length d) : Int))) (Tr.br (decide ((0 : Int) ≤ (↑(wholeV d) : Int)) && decide ((↑(wholeV d) : Int) ≤ (↑(List.length d) : Int))) (Tr.br (bigS (List.take (Int.toNat (↑(List.length d) : Int) - Int.toNat (↑(wholeV d) : Int)) (List.drop (Int.toNat (↑(wholeV d) : Int)) d))) (Tr.br (decide ((↑(wholeV d) : Int) > (0 : Int))) (Tr.br (decide ((↑(wholeV (List.take (Int.toNat (↑(List.length d) : Int) - Int.toNat (↑(wholeV d) : Int)) (List.drop (Int.toNat (↑(wholeV d) : Int)) d))) : Int) > (0 : Int))) (Tr.ret ([AV.bool ((↑(List.length d) : Int) == IntKind.wrap IntKind.i64 (IntKind.wrap IntKind.i64 ((↑(wholeV d) : Int) + (↑(wholeV (List.take (Int.toNat (↑(List.length d) : Int) - Int.toNat (↑(wholeV d) : Int)) (List.drop (Int.toNat (↑(wholeV d) : Int)) d))) : Int)) + (20 : Int)))], [])) (Tr.ret ([AV.bool false], []))) (Tr.ret ([AV.bool false], []))) Tr.no) Tr.no) Tr.no) Tr.no) (Tr.br (k == (16 : Int)) (Tr.br (bigS d) (Tr.ret ([AV.bool (textsV d)], [])) Tr.no) (Tr.ret ([AV.bool true], []))))))))))
def os37 : OSpec := { f := 37, sh := [.d (.int .u16) false, .d .str false], so := [], F := fun (k, d, _) _ => t37 k d }
set_option maxRecDepth 1000000 in
theorem fn37 (k : Int) (d : List UInt8) : evC T0 (orcB [fs41w, fs61w, fs43v] []) (lpOf h37 0 (lsOf [])) c37 1000000 (startSt [.int .u16 k, .str d] [] Try.f37.ntmps) (finishK T0 false 0 Try.f37) = (t37 k d).get := by kernel_rfl
theorem ok37 : os37.Ok Try.prog := by
  refine os_ok mixed0 tab0 (orcB_sound (all_cons okf41w (all_cons okf61w (all_cons okf43v all_nil))) all_nil) h37 (d := 0) (n0 := 0) (S := lsOf []) Try.func37 (by kernel_rfl) (c := c37) (by kernel_rfl) rfl (no_loops (by kernel_rfl)) (by omega) (by kernel_rfl) ?_
  intro x'' y'' q'' hq''
  obtain ⟨(k : Int), (d : List UInt8), _⟩ := x''
  exact (fn37 k d).trans hq''
def fs37 : FSpec := fsT 37 [((.int .u16), false), (.str, false)] [(.bool, false)] fun (k, d, _) => t37 k d
theorem okf37 : fs37.Ok Try.prog := fsT_ok fun x'' r'' hr'' => ok37 x'' () r'' hr''
def fs37w : FSpec := fs37.like fun (k, d, _) => .on (bigS d) (mayR k d, ())
theorem okf37w : fs37w.Ok Try.prog := by
  refine flike_ok okf37 _ ?_
  rintro ⟨(k : Int), (d : List UInt8), _⟩ y h
  obtain ⟨hb, rfl⟩ := Tr.get_on h
  refine convR_of (vs := [.bool (mayR k d)]) rfl rfl (Tr.get_of_all ?_)
  show (t37 k d).all _
  unfold t37
  have hB : d.length ≤ 1000000000000 := by simpa [bigS] using hb
  by_cases hl : (d.length : Int) > 65535
  · have hf : Nat.ble d.length 65535 = false := by rw [ble_iff]; exact dec_false (by omega)
    have : mayR k d = false := by rw [mayR_cut, hf, Bool.and_false]
    rw [this]
    exact Tr.all_t (dec_true hl) (Tr.all_ret rfl)
  have ht : Nat.ble d.length 65535 = true := Nat.ble_eq_true_of_le (by omega)
  refine Tr.all_f (dec_false hl) ?_
  by_cases k1 : k = 1
  · subst k1
    rw [may_A, ht, Bool.and_true]
    exact Tr.all_t rfl (Tr.all_ret rfl)
  refine Tr.all_f (beq_eq_false_iff_ne.2 k1) ?_
  by_cases k2 : k = 28
  · subst k2
    rw [may_AAAA, ht, Bool.and_true]
    exact Tr.all_t rfl (Tr.all_ret rfl)
  refine Tr.all_f (beq_eq_false_iff_ne.2 k2) ?_
  by_cases k3 : k = 2
  · rw [may_name (.inl k3), ht, Bool.and_true]
    exact Tr.all_t (beq_iff_eq.2 k3) (Tr.all_t hb (Tr.all_ret rfl))
  refine Tr.all_f (beq_eq_false_iff_ne.2 k3) ?_
  by_cases k4 : k = 5
  · rw [may_name (.inr (.inl k4)), ht, Bool.and_true]
    exact Tr.all_t (beq_iff_eq.2 k4) (Tr.all_t hb (Tr.all_ret rfl))
  refine Tr.all_f (beq_eq_false_iff_ne.2 k4) ?_
  by_cases k5 : k = 12
  · rw [may_name (.inr (.inr k5)), ht, Bool.and_true]
    exact Tr.all_t (beq_iff_eq.2 k5) (Tr.all_t hb (Tr.all_ret rfl))
  refine Tr.all_f (beq_eq_false_iff_ne.2 k5) ?_
  have hsub : ∀ a : Nat, List.take (Int.toNat (↑(List.length d) : Int) - Int.toNat (a : Int)) (List.drop (Int.toNat (a : Int)) d) = d.drop a := fun a => List.take_of_length_le (by simp)
  by_cases k6 : k = 15
  · subst k6
    rw [may_MX, ht, Bool.and_true]
    refine Tr.all_t rfl (Tr.all_br (fun c => ?_) fun c => Tr.all_ret ?_)
    · simp only [decide_eq_true_eq] at c
      rw [show (2 : Int) = ((2 : Nat) : Int) from rfl, hsub 2]
      rw [dec_true (show ((2 : Nat) : Int) ≤ d.length by omega)]
      exact Tr.all_t (by rw [dec_true (by omega), dec_true (by omega)]; rfl) (Tr.all_t (by rw [dec_true (by omega)]; rfl) (Tr.all_t (by simp [bigS]; omega) (Tr.all_ret rfl)))
    · simp only [decide_eq_false_iff_not] at c
      have : (decide ((2 : Int) ≤ d.length) && mayV (d.drop 2)) = false := by
        by_cases h2 : d.length = 2
        · rw [List.drop_eq_nil_of_le (by omega)]
          rw [may_nil, Bool.and_false]
        · rw [dec_false (by omega), Bool.false_and]
      rw [this]
  refine Tr.all_f (beq_eq_false_iff_ne.2 k6) ?_
  by_cases k7 : k = 6
  · subst k7
    have hw := wholeV_le d
    have hw2 := wholeV_le (d.drop (wholeV d))
    rw [List.length_drop] at hw2
    rw [may_SOA, ht, Bool.and_true, hsub]
    refine Tr.all_t rfl (Tr.all_t hb (Tr.all_t (by rw [dec_true (by omega), dec_true (by omega)]; rfl) (Tr.all_t (by rw [dec_true (by omega), dec_true (by omega)]; rfl) (Tr.all_t (by simp [bigS]; omega) (Tr.all_br (fun c1 => Tr.all_br (fun c2 => Tr.all_ret ?_) fun c2 => Tr.all_ret ?_) fun c1 => Tr.all_ret ?_)))))
    · simp only [decide_eq_true_eq] at c1 c2
      rw [IntWalk.i64_in ((wholeV d : Int) + (wholeV (d.drop (wholeV d)) : Int)) (by omega), IntWalk.i64_in _ (by omega), dec_false (show ¬ wholeV d = 0 by omega), dec_false (show ¬ wholeV (d.drop (wholeV d)) = 0 by omega)]
      simp only [Bool.not_false, Bool.true_and, List.length_drop]
      congr 3
      rw [Bool.eq_iff_iff]
      simp
      omega
    · simp only [decide_eq_false_iff_not] at c2
      rw [dec_true (show wholeV (d.drop (wholeV d)) = 0 by omega)]
      simp
    · simp only [decide_eq_false_iff_not] at c1
      rw [dec_true (show wholeV d = 0 by omega)]
      rfl
  refine Tr.all_f (beq_eq_false_iff_ne.2 k7) ?_
  by_cases k8 : k = 16
  · subst k8
    rw [may_TXT, ht, Bool.and_true]
    exact Tr.all_t rfl (Tr.all_t hb (Tr.all_ret rfl))
  rw [may_any ⟨k1, k2, k3, k4, k5, k6, k7, k8⟩, ht]
  exact Tr.all_f (beq_eq_false_iff_ne.2 k8) (Tr.all_ret rfl)
end Go.Proofs.YtfepkpindchleaaE
