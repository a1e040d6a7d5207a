import Derived.Test.YtfepkpindchleaaMRdataOther2
import Derived.Test.YtfepkpindchleaaRows
import Derived.WalkKit
import Derived.ProofKit
import Derived.OpenShut
import Derived.ShutString
import Derived.ChangeOld
import Derived.Below
import Derived.Carry
import Derived.SizedLaws
/- The document's data: Take, Target. -/
namespace Go.Proofs.YtfepkpindchleaaE
open Go Go.Proofs.YtfepkpindchleaaB
set_option linter.unusedVariables false
set_option linter.unusedSimpArgs false
def fs60w : FSpec := fs60.like fun (s, a, e, m, _) => .on (bigS s && (decide (0 ≤ m) && decide (m ≤ 3))) (nmD s a e m, nmA s a e m, ())
theorem okf60w : fs60w.Ok Try.prog := by
  refine flike_ok okf60 _ ?_
  rintro ⟨(s : List UInt8), (a : Int), (e : Int), (m : Int), _⟩ y h
  obtain ⟨hb, rfl⟩ := Tr.get_on h
  refine convR_of (vs := [.str (nmD s a e m), .int .i64 (nmA s a e m)]) rfl rfl (Tr.get_of_all ?_)
  show (t60 s a e m).all _
  simp only [Bool.and_eq_true, decide_eq_true_eq] at hb
  unfold t60 nmD nmA
  refine Tr.all_t ?_ (Tr.all_br (fun c => Tr.all_ret ?_) fun c => Tr.all_ret ?_)
  · unfold nmsC noT
    rw [hb.1, dec_true hb.2.1, dec_true hb.2.2, dec_true rfl]
    rfl
  · rw [c]; rfl
  · rw [c]; rfl
/-- derrickref04.Take -/
def t33 (s : List UInt8) (at_ : Int) (many : Int) (k : Int) : Tr Res := Tr.br (bigS s) (Tr.br (someB s at_ many) (Tr.br (k == (2 : Int)) (Tr.br (bigS s && (decide ((0 : Ty.den (Ty.int IntKind.i64)) ≤ (1 : Int)) && decide ((1 : Int) ≤ (3 : Ty.den (Ty.int IntKind.i64))))) (Tr.br (nmA s at_ (at_ + many) (1 : Int) != at_ + many) (Tr.ret ([AV.str [], AV.int IntKind.i64 (2 : Int)], [])) (Tr.br (bigS (nmD s at_ (at_ + many) (1 : Int))) (Tr.br (!mayR k (nmD s at_ (at_ + many) (1 : Int))) (Tr.ret ([AV.str [], AV.int IntKind.i64 (2 : Int)], [])) (Tr.ret ([AV.str (nmD s at_ (at_ + many) (1 : Int)), AV.int IntKind.i64 (0 : Int)], []))) Tr.no)) Tr.no) (Tr.br (k == (5 : Int)) (Tr.br (bigS s && (decide ((0 : Ty.den (Ty.int IntKind.i64)) ≤ (1 : Int)) && decide ((1 : Int) ≤ (3 : Ty.den (Ty.int IntKind.i64))))) (Tr.br (nmA s at_ (at_ + many) (1 : Int) != at_ + many) (Tr.ret ([AV.str [], AV.int IntKind.i64 (2 : Int)], [])) (Tr.br (bigS (nmD s at_ (at_ + many) (1 : Int))) (Tr.br (!mayR k (nmD s at_ (at_ + many) (1 : Int))) (Tr.ret ([AV.str [], AV.int IntKind.i64 (2 : Int)], [])) (Tr.ret ([AV.str (nmD s at_ (at_ + many) (1 : Int)), AV.int IntKind.i64 (0 : Int)], []))) Tr.no)) Tr.no) (Tr.br (k == (12 : Int)) (Tr.br (bigS s && (decide ((0 : Ty.den (Ty.int IntKind.i64)) ≤ (1 : Int)) && decide ((1 : Int) ≤ (3 : Ty.den (Ty.int IntKind.i64))))) (Tr.br (nmA s at_ (at_ + many) (1 : Int) != at_ + many) (Tr.ret ([AV.str [], AV.int IntKind.i64 (2 : Int)], [])) (Tr.br (bigS (nmD s at_ (at_ + many) (1 : Int))) (Tr.br (!mayR k (nmD s at_ (at_ + many) (1 : Int))) (Tr.ret ([AV.str [], AV.int IntKind.i64 (2 : Int)], [])) (Tr.ret ([AV.str (nmD s at_ (at_ + many) (1 : Int)), AV.int IntKind.i64 (0 : Int)], []))) Tr.no)) Tr.no) (Tr.br (k == (15 : Int)) (Tr.br (decide (many < (3 : Int))) (Tr.ret ([AV.str [], AV.int IntKind.i64 (2 : Int)], [])) (Tr.br (bigS s && (decide ((0 : Ty.den (Ty.int IntKind.i64)) ≤ (1 : Int)) && decide ((1 : Int) ≤ (3 : Ty.den (Ty.int IntKind.i64))))) (Tr.br (decide ((0 : Int) ≤ (2 : Int)) && decide ((2 : Int) ≤ (↑(List.length (someV s at_ many)) : Int))) (Tr.br (Nat.ble (List.length (List.take (Int.toNat (2 : Int) - Int.toNat (0 : Int)) (List.drop (Int.toNat (0 : Int)) (someV s at_ many))) + List.length (nmD s (IntKind.wrap IntKind.i64 (at_ + (2 : Int))) (at_ + many) (1 : Int))) 9223372036854775807) (Tr.br (nmA s (IntKind.wrap IntKind.i64 (at_ + (2 : Int))) (at_ + many) (1 : Int) != at_ + many) (Tr.ret ([AV.str [], AV.int IntKind.i64 (2 : Int)], [])) (Tr.br (bigS (List.take (Int.toNat (2 : Int) - Int.toNat (0 : Int)) (List.drop (Int.toNat (0 : Int)) (someV s at_ many)) ++ nmD s (IntKind.wrap IntKind.i64 (at_ + (2 : Int))) (at_ + many) (1 : Int))) (Tr.br (!mayR k (List.take (Int.toNat (2 : Int) - Int.toNat (0 : Int)) (List.drop (Int.toNat (0 : Int)) (someV s at_ many)) ++ nmD s (IntKind.wrap IntKind.i64 (at_ + (2 : Int))) (at_ + many) (1 : Int))) (Tr.ret ([AV.str [], AV.int IntKind.i64 (2 : Int)], [])) (Tr.ret ([AV.str (List.take (Int.toNat (2 : Int) - Int.toNat (0 : Int)) (List.drop (Int.toNat (0 : Int)) (someV s at_ many)) ++ nmD s (IntKind.wrap IntKind.i64 (at_ + (2 : Int))) (at_ + many) (1 : Int)), AV.int IntKind.i64 (0 : Int)], []))) Tr.no)) Tr.no) Tr.no) Tr.no)) (Tr.br (k == (6 : Int)) (Tr.br (bigS s && (decide ((0 : Ty.den (Ty.int IntKind.i64)) ≤ (2 : Int)) && decide ((2 : Int) ≤ (3 : Ty.den (Ty.int IntKind.i64))))) (Tr.br (nmA s at_ (at_ + many) (2 : Int) == (0 : Int)) (Tr.ret ([AV.str [], AV.int IntKind.i64 (2 : Int)], [])) (Tr.br (decide (nmA s at_ (at_ + many) (2 : Int) > at_ + many)) (Tr.ret ([AV.str [], AV.int IntKind.i64 (2 : Int)], [])) (Tr.br (IntKind.wrap IntKind.i64 (at_ + many - nmA s at_ (at_ + many) (2 : Int)) != (20 : Int)) (Tr.ret ([AV.str [], AV.int IntKind.i64 (2 : Int)], [])) (Tr.br (decide ((0 : Int) ≤ at_ + many) && decide (at_ + many ≤ (↑(List.length s) : Int))) (Tr.br (decide ((0 : Int) ≤ nmA s at_ (at_ + many) (2 : Int)) && decide (nmA s at_ (at_ + many) (2 : Int) ≤ at_ + many)) (Tr.br (Nat.ble (List.length (nmD s at_ (at_ + many) (2 : Int)) + List.length (List.take (Int.toNat (at_ + many) - Int.toNat (nmA s at_ (at_ + many) (2 : Int))) (List.drop (Int.toNat (nmA s at_ (at_ + many) (2 : Int))) s))) 9223372036854775807) (Tr.br (at_ + many != at_ + many) (Tr.ret ([AV.str [], AV.int IntKind.i64 (2 : Int)], [])) (Tr.br (bigS (nmD s at_ (at_ + many) (2 : Int) ++ List.take (Int.toNat (at_ + many) - Int.toNat (nmA s at_ (at_ + many) (2 : Int))) (List.drop (Int.toNat (nmA s at_ (at_ + many) (2 : Int))) s))) (Tr.br (!mayR k (nmD s at_ (at_ + many) (2 : Int) ++ List.take (Int.toNat (at_ + many) - Int.toNat (nmA s at_ (at_ + many) (2 : Int))) (List.drop (Int.toNat (nmA s at_ (at_ + many) (2 : Int))) s))) (Tr.ret ([AV.str [], AV.int IntKind.i64 (2 : Int)], [])) (Tr.ret ([AV.str (nmD s at_ (at_ + many) (2 : Int) ++ List.take (Int.toNat (at_ + many) - Int.toNat (nmA s at_ (at_ + many) (2 : Int))) (List.drop (Int.toNat (nmA s at_ (at_ + many) (2 : Int))) s)), AV.int IntKind.i64 (0 : Int)], []))) Tr.no)) Tr.no) Tr.no) Tr.no)))) Tr.no) (Tr.br (at_ + many != at_ + many) (Tr.ret ([AV.str [], AV.int IntKind.i64 (2 : Int)], [])) (Tr.br (bigS (someV s at_ many)) (Tr.br (!mayR k (someV s at_ many)) (Tr.ret ([AV.str [], AV.int IntKind.i64 (2 : Int)], [])) (Tr.ret ([AV.str (someV s at_ many), AV.int IntKind.i64 (0 : Int)], []))) Tr.no))))))) (Tr.ret ([AV.str [], AV.int IntKind.i64 (2 : Int)], []))) Tr.no
def os33 : OSpec := { f := 33, sh := [.d .str false, .d (.int .i64) false, .d (.int .i64) false, .d (.int .u16) false], so := [], F := fun (s, at_, many, k, _) _ => t33 s at_ many k }
set_option maxRecDepth 1000000 in
theorem fn33 (s : List UInt8) (at_ : Int) (many : Int) (k : Int) : evC T0 (orcB [fs59w, fs60w, fs37w] []) (lpOf h33 0 (lsOf [])) c33 1000000 (startSt [.str s, .int .i64 at_, .int .i64 many, .int .u16 k] [] Try.f33.ntmps) (finishK T0 false 0 Try.f33) = (t33 s at_ many k).get := by kernel_rfl
theorem ok33 : os33.Ok Try.prog := by
  refine os_ok mixed0 tab0 (orcB_sound (all_cons okf59w (all_cons okf60w (all_cons okf37w all_nil))) all_nil) h33 (d := 0) (n0 := 0) (S := lsOf []) Try.func33 (by kernel_rfl) (c := c33) (by kernel_rfl) rfl (no_loops (by kernel_rfl)) (by omega) (by kernel_rfl) ?_
  intro x'' y'' q'' hq''
  obtain ⟨(s : List UInt8), (at_ : Int), (many : Int), (k : Int), _⟩ := x''
  exact (fn33 s at_ many k).trans hq''
def fs33 : FSpec := fsT 33 [(.str, false), ((.int .i64), false), ((.int .i64), false), ((.int .u16), false)] [(.str, false), ((.int .i64), false)] fun (s, at_, many, k, _) => t33 s at_ many k
theorem okf33 : fs33.Ok Try.prog := fsT_ok fun x'' r'' hr'' => ok33 x'' () r'' hr''
def fs33w : FSpec := fs33.like fun (s, a, n, k, _) => .on (smS s) ((takeV s a n k).getD [], if (takeV s a n k).isSome then (0 : Int) else 2, ())
theorem take_end {s : List UInt8} {a n k E at' : Int} {d : List UInt8} {ok : Bool} (ht : takeV s a n k = if ok = true ∧ at' = E ∧ mayR k d = true then some d else none) (hb : bigS d = true) (hno : ok = false → at' = E → mayR k d = false) :
    (Tr.br (at' != E) (Tr.ret ([AV.str [], AV.int IntKind.i64 (2 : Int)], [])) (Tr.br (bigS d) (Tr.br (!mayR k d) (Tr.ret ([AV.str [], AV.int IntKind.i64 (2 : Int)], [])) (Tr.ret ([AV.str d, AV.int IntKind.i64 (0 : Int)], []))) Tr.no) : Tr Res).all
      fun x => x = ([.str ((takeV s a n k).getD []), .int .i64 (if (takeV s a n k).isSome then 0 else 2)], []) := by
  rw [ht]
  refine Tr.all_br (fun c => Tr.all_ret ?_) fun c => Tr.all_t hb (Tr.all_br (fun c2 => Tr.all_ret ?_) fun c2 => Tr.all_ret ?_)
  · rw [if_neg (fun h => bne_iff_ne.1 c h.2.1)]
    rfl
  · rw [Bool.not_eq_true'] at c2
    rw [if_neg (fun h => by rw [c2] at h; exact Bool.false_ne_true h.2.2)]
    rfl
  · rw [Bool.not_eq_false'] at c2
    have he : at' = E := by simpa using c
    cases hk : ok with
    | false =>
      rw [hno hk he] at c2
      cases c2
    | true =>
      rw [if_pos ⟨rfl, he, c2⟩]
      rfl
theorem okf33w : fs33w.Ok Try.prog := by
  refine flike_ok okf33 _ ?_
  rintro ⟨(s : List UInt8), (a : Int), (n : Int), (k : Int), _⟩ y h
  obtain ⟨hb, rfl⟩ := Tr.get_on h
  refine convR_of (vs := [.str ((takeV s a n k).getD []), .int .i64 (if (takeV s a n k).isSome then 0 else 2)]) rfl rfl (Tr.get_of_all ?_)
  show (t33 s a n k).all _
  unfold t33
  have hB : s.length ≤ 100000000 := by simpa [smS] using hb
  have hbig : bigS s = true := by simp [bigS]; omega
  refine Tr.all_t hbig ?_
  cases hs : someB s a n with
  | false =>
    have : takeV s a n k = none := by unfold takeV; rw [if_neg (by rw [hs]; exact Bool.false_ne_true)]
    rw [this]
    exact Tr.all_f rfl (Tr.all_ret rfl)
  | true =>
    have hs' := someB_iff.1 hs
    have hT : takeV s a n k = if (takeD (layV k) s a (a + n) []).1 = true ∧ (takeD (layV k) s a (a + n) []).2.1 = a + n ∧ mayR k (takeD (layV k) s a (a + n) []).2.2 = true then some (takeD (layV k) s a (a + n) []).2.2 else none := by unfold takeV; rw [if_pos hs]
    refine Tr.all_t rfl ?_
    have hc1 : (bigS s && (decide ((0 : Int) ≤ 1) && decide ((1 : Int) ≤ 3))) = true := by rw [hbig]; rfl
    have hc2 : (bigS s && (decide ((0 : Int) ≤ 2) && decide ((2 : Int) ≤ 3))) = true := by rw [hbig]; rfl
    have hvl : (someV s a n).length = n.toNat := by unfold someV; rw [List.length_take, List.length_drop]; omega
    have names : (k = 2 ∨ k = 5 ∨ k = 12) → (Tr.br (bigS s && (decide ((0 : Ty.den (Ty.int IntKind.i64)) ≤ (1 : Int)) && decide ((1 : Int) ≤ (3 : Ty.den (Ty.int IntKind.i64))))) (Tr.br (nmA s a (a + n) (1 : Int) != a + n) (Tr.ret ([AV.str [], AV.int IntKind.i64 (2 : Int)], [])) (Tr.br (bigS (nmD s a (a + n) (1 : Int))) (Tr.br (!mayR k (nmD s a (a + n) (1 : Int))) (Tr.ret ([AV.str [], AV.int IntKind.i64 (2 : Int)], [])) (Tr.ret ([AV.str (nmD s a (a + n) (1 : Int)), AV.int IntKind.i64 (0 : Int)], []))) Tr.no)) Tr.no : Tr Res).all
      fun x => x = ([.str ((takeV s a n k).getD []), .int .i64 (if (takeV s a n k).isSome then 0 else 2)], []) := fun hk => by
      have hlay : layV k = [-1] := by rcases hk with rfl | rfl | rfl <;> rfl
      rw [hlay, takeD_name] at hT
      refine Tr.all_t hc1 ?_
      cases hok : (nmsV 1 s a (a + n) []).1 with
      | false =>
        have e1 : nmA s a (a + n) 1 = 0 := by unfold nmA; rw [show (1 : Int).toNat = 1 from rfl, hok]; rfl
        have e2 : nmD s a (a + n) 1 = [] := by unfold nmD; rw [show (1 : Int).toNat = 1 from rfl, hok]; rfl
        rw [e1, e2]
        exact take_end (ok := false) (by rw [hT, hok, if_neg (fun h => Bool.false_ne_true h.1), if_neg (fun h => Bool.false_ne_true h.1)]) rfl fun _ _ => by rw [may_name hk, may_nil]; rfl
      | true =>
        have e1 : nmA s a (a + n) 1 = (nmsV 1 s a (a + n) []).2.1 := by unfold nmA; rw [show (1 : Int).toNat = 1 from rfl, hok]; rfl
        have e2 : nmD s a (a + n) 1 = (nmsV 1 s a (a + n) []).2.2 := by unfold nmD; rw [show (1 : Int).toNat = 1 from rfl, hok]; rfl
        have hp := (nms_place 1 s a (a + n) [] hs'.1 hok).2.2
        rw [e1, e2]
        exact take_end (ok := true) (by rw [hT, hok]) (by simp [bigS] at hp ⊢; omega) fun h => by cases h
    by_cases k2 : k = 2
    · exact Tr.all_t (beq_iff_eq.2 k2) (names (.inl k2))
    refine Tr.all_f (beq_eq_false_iff_ne.2 k2) ?_
    by_cases k5 : k = 5
    · exact Tr.all_t (beq_iff_eq.2 k5) (names (.inr (.inl k5)))
    refine Tr.all_f (beq_eq_false_iff_ne.2 k5) ?_
    by_cases k12 : k = 12
    · exact Tr.all_t (beq_iff_eq.2 k12) (names (.inr (.inr k12)))
    refine Tr.all_f (beq_eq_false_iff_ne.2 k12) ?_
    by_cases k15 : k = 15
    · refine Tr.all_t (beq_iff_eq.2 k15) ?_
      rw [k15, show layV 15 = [2, -1] from rfl] at hT
      have htwo : takeD [2, -1] s a (a + n) [] = if someB s a 2 = true ∧ a + 2 ≤ a + n then takeD [-1] s (a + 2) (a + n) ([] ++ someV s a 2) else (false, a, []) := by
        rw [takeD, if_neg (by omega), show (if (2 : Int) = -2 ∨ (2 : Int) = -3 then a + n - a else 2) = 2 from if_neg (by omega)]
      have hw : IntKind.wrap IntKind.i64 (a + 2) = a + 2 := IntWalk.i64_in _ (by omega)
      rw [hw]
      by_cases h3 : n < 3
      · have hno : takeV s a n 15 = none := by
          rw [hT, htwo]
          by_cases hc : someB s a 2 = true ∧ a + 2 ≤ a + n
          · rw [if_pos hc, takeD_name]
            refine if_neg fun h => ?_
            have := (nms_place 1 s (a + 2) (a + n) ([] ++ someV s a 2) (by omega) h.1).2.1 (by omega)
            omega
          · rw [if_neg hc]
            exact if_neg fun h => Bool.false_ne_true h.1
        rw [k15, hno]
        exact Tr.all_t (dec_true h3) (Tr.all_ret rfl)
      · have hs2 : someB s a 2 = true := someB_iff.2 (by omega)
        have hv2 : List.take (Int.toNat (2 : Int) - Int.toNat (0 : Int)) (List.drop (Int.toNat (0 : Int)) (someV s a n)) = someV s a 2 := by
          show List.take 2 (List.drop 0 (someV s a n)) = someV s a 2
          unfold someV
          rw [List.drop_zero, List.take_take, show min 2 n.toNat = (2 : Int).toNat by omega]
        have hvl2 : (someV s a 2).length = 2 := by unfold someV; rw [List.length_take, List.length_drop]; omega
        rw [if_pos ⟨hs2, by omega⟩, takeD_name, List.nil_append] at htwo
        rw [htwo] at hT
        have hpre := nmsV_pre 1 s (a + 2) (a + n) (someV s a 2) []
        rw [List.append_nil] at hpre
        rw [hpre] at hT
        rw [hv2]
        refine Tr.all_f (dec_false h3) (Tr.all_t hc1 (Tr.all_t (by rw [hvl, dec_true (show (2 : Int) ≤ (n.toNat : Int) by omega)]; rfl) ?_))
        cases hok : (nmsV 1 s (a + 2) (a + n) []).1 with
        | false =>
          have e1 : nmA s (a + 2) (a + n) 1 = 0 := by unfold nmA; rw [show (1 : Int).toNat = 1 from rfl, hok]; rfl
          have e2 : nmD s (a + 2) (a + n) 1 = [] := by unfold nmD; rw [show (1 : Int).toNat = 1 from rfl, hok]; rfl
          rw [e1, e2, List.append_nil]
          refine Tr.all_t (Nat.ble_eq_true_of_le (by rw [hvl2]; simp)) ?_
          rw [k15]
          exact take_end (ok := false) (by rw [hT, hok, if_neg (fun h => Bool.false_ne_true h.1), if_neg (fun h => Bool.false_ne_true h.1)]) (by simp [bigS, hvl2]) fun _ h => by omega
        | true =>
          have e1 : nmA s (a + 2) (a + n) 1 = (nmsV 1 s (a + 2) (a + n) []).2.1 := by unfold nmA; rw [show (1 : Int).toNat = 1 from rfl, hok]; rfl
          have e2 : nmD s (a + 2) (a + n) 1 = (nmsV 1 s (a + 2) (a + n) []).2.2 := by unfold nmD; rw [show (1 : Int).toNat = 1 from rfl, hok]; rfl
          have hp := (nms_place 1 s (a + 2) (a + n) [] (by omega) hok).2.2
          simp only [List.length_nil] at hp
          rw [e1, e2]
          refine Tr.all_t (Nat.ble_eq_true_of_le (by rw [hvl2]; omega)) ?_
          rw [k15]
          exact take_end (ok := true) (by rw [hT, hok]) (by simp [bigS, hvl2]; omega) fun h => by cases h
    refine Tr.all_f (beq_eq_false_iff_ne.2 k15) ?_
    by_cases k6 : k = 6
    · refine Tr.all_t (beq_iff_eq.2 k6) (Tr.all_t hc2 ?_)
      rw [k6, show layV 6 = [-1, -1, 20] from rfl] at hT
      obtain ⟨t1, t2⟩ := takeD_two [20] s a (a + n) []
      cases hok : (nmsV 2 s a (a + n) []).1 with
      | false =>
        have e1 : nmA s a (a + n) 2 = 0 := by unfold nmA; rw [show (2 : Int).toNat = 2 from rfl, hok]; rfl
        have hno : takeV s a n 6 = none := by
          rw [hT]
          exact if_neg fun h => by rw [t2 hok] at h; exact Bool.false_ne_true h.1
        rw [e1, k6, hno]
        exact Tr.all_t rfl (Tr.all_ret rfl)
      | true =>
        have e1 : nmA s a (a + n) 2 = (nmsV 2 s a (a + n) []).2.1 := by unfold nmA; rw [show (2 : Int).toNat = 2 from rfl, hok]; rfl
        have e2 : nmD s a (a + n) 2 = (nmsV 2 s a (a + n) []).2.2 := by unfold nmD; rw [show (2 : Int).toNat = 2 from rfl, hok]; rfl
        obtain ⟨p1, p2, p3⟩ := nms_place 2 s a (a + n) [] hs'.1 hok
        have p2 := p2 (by omega)
        simp only [List.length_nil] at p3
        have hfix := takeD_fix (x := 20) (by omega) s (nmsV 2 s a (a + n) []).2.1 (a + n) (nmsV 2 s a (a + n) []).2.2
        rw [t1 hok] at hT
        rw [e1, e2]
        generalize nmsV 2 s a (a + n) [] = r at hT p1 p2 p3 hfix
        obtain ⟨ok, c, d⟩ := r
        simp only at hT p1 p2 p3 hfix ⊢
        have hw : IntKind.wrap IntKind.i64 (a + n - c) = a + n - c := IntWalk.i64_in _ (by omega)
        rw [hw]
        refine Tr.all_f (beq_eq_false_iff_ne.2 (by omega)) (Tr.all_f (dec_false (by omega)) (Tr.all_br (fun c1 => Tr.all_ret ?_) fun c1 => ?_))
        · have hne := bne_iff_ne.1 c1
          have hno : takeV s a n 6 = none := by
            rw [hT, hfix]
            refine if_neg fun h => ?_
            by_cases hc : someB s c 20 = true ∧ c + 20 ≤ a + n
            · rw [if_pos hc] at h
              have := h.2.1
              simp only at this
              omega
            · rw [if_neg hc] at h
              exact Bool.false_ne_true h.1
          rw [k6, hno]
          rfl
        · have he : a + n - c = 20 := by simpa using c1
          have hs20 : someB s c 20 = true := someB_iff.2 (by omega)
          have hv : List.take (Int.toNat (a + n) - Int.toNat c) (List.drop (Int.toNat c) s) = someV s c 20 := by
            unfold someV
            rw [show Int.toNat (a + n) - Int.toNat c = (20 : Int).toNat by omega]
          have hvl20 : (someV s c 20).length = 20 := by unfold someV; rw [List.length_take, List.length_drop]; omega
          rw [if_pos ⟨hs20, by omega⟩] at hfix
          rw [hfix] at hT
          rw [hv]
          refine Tr.all_t (by rw [dec_true (by omega), dec_true (by omega)]; rfl) (Tr.all_t (by rw [dec_true (by omega), dec_true (by omega)]; rfl) (Tr.all_t (Nat.ble_eq_true_of_le (by omega)) ?_))
          rw [k6]
          refine take_end (ok := true) ?_ (by simp [bigS, hvl20]; omega) fun h => by cases h
          rw [hT]
          simp only [show c + 20 = a + n by omega]
    refine Tr.all_f (beq_eq_false_iff_ne.2 k6) ?_
    have hbv : bigS (someV s a n) = true := by simp [bigS, hvl]; omega
    by_cases kf : k = 1 ∨ k = 28
    · obtain ⟨x, hx0, hx, hm⟩ : ∃ x : Int, 0 ≤ x ∧ layV k = [x] ∧ ∀ d : List UInt8, (d.length : Int) ≠ x → mayR k d = false := by
        rcases kf with rfl | rfl
        · exact ⟨4, by omega, rfl, fun d h => by rw [may_A, dec_false h]; rfl⟩
        · exact ⟨16, by omega, rfl, fun d h => by rw [may_AAAA, dec_false h]; rfl⟩
      have hfix := takeD_fix hx0 s a (a + n) []
      rw [hx] at hT
      by_cases hn : n = x
      · subst hn
        rw [if_pos ⟨hs, by omega⟩, List.nil_append] at hfix
        rw [hfix] at hT
        exact take_end (ok := true) hT hbv fun h => by cases h
      · have hmf := hm (someV s a n) (by rw [hvl]; omega)
        refine take_end (ok := false) ?_ hbv fun _ _ => hmf
        rw [hT, hfix, if_neg (c := false = true ∧ _) (fun h => Bool.false_ne_true h.1)]
        refine if_neg fun h => ?_
        by_cases hc : someB s a x = true ∧ a + x ≤ a + n
        · rw [if_pos hc] at h
          have := h.2.1
          simp only at this
          omega
        · rw [if_neg hc] at h
          exact Bool.false_ne_true h.1
    · have hrest : ∃ x, layV k = [x] ∧ (x = -2 ∨ x = -3) := by
        by_cases k16 : k = 16
        · exact ⟨-2, by rw [k16]; rfl, .inl rfl⟩
        · refine ⟨-3, ?_, .inr rfl⟩
          simp [layV, k2, k5, k12, k15, k6, k16, show ¬ k = 1 by omega, show ¬ k = 28 by omega]
      obtain ⟨x, hx, hx'⟩ := hrest
      rw [hx, takeD_rest hx' s a n hs] at hT
      exact take_end (ok := true) hT hbv fun h => by cases h
/-- derrickref04.Target -/
def t35 (k : Int) (d : List UInt8) : Tr Res := Tr.br (bigS d) (Tr.br (!mayR k d) (Tr.ret ([AV.str [], AV.bool false], [])) (Tr.br (k == (2 : Int)) (Tr.ret ([AV.str d, AV.bool true], [])) (Tr.br (k == (5 : Int)) (Tr.ret ([AV.str d, AV.bool true], [])) (Tr.br (k == (12 : Int)) (Tr.ret ([AV.str d, AV.bool true], [])) (Tr.br (k == (15 : Int)) (Tr.br (decide ((0 : Int) ≤ (↑(List.length d) : Int)) && decide ((↑(List.length d) : Int) ≤ (↑(List.length d) : Int))) (Tr.br (decide ((0 : Int) ≤ (2 : Int)) && decide ((2 : Int) ≤ (↑(List.length d) : Int))) (Tr.ret ([AV.str (List.take (Int.toNat (↑(List.length d) : Int) - Int.toNat (2 : Int)) (List.drop (Int.toNat (2 : Int)) d)), AV.bool true], [])) Tr.no) Tr.no) (Tr.ret ([AV.str [], AV.bool false], []))))))) Tr.no
def os35 : OSpec := { f := 35, sh := [.d (.int .u16) false, .d .str false], so := [], F := fun (k, d, _) _ => t35 k d }
set_option maxRecDepth 1000000 in
theorem fn35 (k : Int) (d : List UInt8) : evC T0 (orcB [fs37w] []) (lpOf h35 0 (lsOf [])) c35 1000000 (startSt [.int .u16 k, .str d] [] Try.f35.ntmps) (finishK T0 false 0 Try.f35) = (t35 k d).get := by kernel_rfl
theorem ok35 : os35.Ok Try.prog := by
  refine os_ok mixed0 tab0 (orcB_sound (all_cons okf37w all_nil) all_nil) h35 (d := 0) (n0 := 0) (S := lsOf []) Try.func35 (by kernel_rfl) (c := c35) (by kernel_rfl) rfl (no_loops (by kernel_rfl)) (by omega) (by kernel_rfl) ?_
  intro x'' y'' q'' hq''
  obtain ⟨(k : Int), (d : List UInt8), _⟩ := x''
  exact (fn35 k d).trans hq''
def fs35 : FSpec := fsT 35 [((.int .u16), false), (.str, false)] [(.str, false), (.bool, false)] fun (k, d, _) => t35 k d
theorem okf35 : fs35.Ok Try.prog := fsT_ok fun x'' r'' hr'' => ok35 x'' () r'' hr''
def fs35w : FSpec := fs35.like fun (k, d, _) => .on (bigS d) ((targV k d).getD [], (targV k d).isSome, ())
theorem okf35w : fs35w.Ok Try.prog := by
  refine flike_ok okf35 _ ?_
  rintro ⟨(k : Int), (d : List UInt8), _⟩ y h
  obtain ⟨hb, rfl⟩ := Tr.get_on h
  refine convR_of (vs := [.str ((targV k d).getD []), .bool (targV k d).isSome]) rfl rfl (Tr.get_of_all ?_)
  show (t35 k d).all _
  unfold t35 targV
  refine Tr.all_t hb ?_
  cases hm : mayR k d with
  | false =>
    rw [if_neg Bool.false_ne_true]
    exact Tr.all_t rfl (Tr.all_ret rfl)
  | true =>
    rw [if_pos rfl]
    refine Tr.all_f rfl ?_
    by_cases k2 : k = 2
    · rw [if_pos (.inl k2)]
      exact Tr.all_t (beq_iff_eq.2 k2) (Tr.all_ret rfl)
    by_cases k5 : k = 5
    · rw [if_pos (.inr (.inl k5))]
      exact Tr.all_f (beq_eq_false_iff_ne.2 k2) (Tr.all_t (beq_iff_eq.2 k5) (Tr.all_ret rfl))
    by_cases k12 : k = 12
    · rw [if_pos (.inr (.inr k12))]
      exact Tr.all_f (beq_eq_false_iff_ne.2 k2) (Tr.all_f (beq_eq_false_iff_ne.2 k5) (Tr.all_t (beq_iff_eq.2 k12) (Tr.all_ret rfl)))
    rw [if_neg (by omega)]
    refine Tr.all_f (beq_eq_false_iff_ne.2 k2) (Tr.all_f (beq_eq_false_iff_ne.2 k5) (Tr.all_f (beq_eq_false_iff_ne.2 k12) ?_))
    by_cases k15 : k = 15
    · rw [if_pos k15]
      subst k15
      rw [may_MX, Bool.and_eq_true, Bool.and_eq_true, decide_eq_true_eq] at hm
      have h2 := hm.1.1
      have e : List.take (Int.toNat (↑(List.length d) : Int) - Int.toNat (2 : Int)) (List.drop (Int.toNat (2 : Int)) d) = d.drop 2 := List.take_of_length_le (by simp)
      rw [e]
      exact Tr.all_t rfl (Tr.all_t (by rw [dec_true (by omega), dec_true (by omega)]; rfl) (Tr.all_t (by rw [dec_true h2]; rfl) (Tr.all_ret rfl)))
    · rw [if_neg k15]
      exact Tr.all_f (beq_eq_false_iff_ne.2 k15) (Tr.all_ret rfl)
def fs34w : FSpec := fs34.like fun (k, d, _) => .on (bigS d) ((targV k d).getD [], (targV k d).isSome, ())
theorem okf34w : fs34w.Ok Try.prog := by
  refine flike_ok okf34 _ ?_
  rintro ⟨(k : Int), (d : List UInt8), _⟩ y h
  obtain ⟨hb, rfl⟩ := Tr.get_on h
  refine convR_of (vs := [.str ((targV k d).getD []), .bool (targV k d).isSome]) rfl rfl (Tr.get_of_all ?_)
  show (t34 k d).all _
  unfold t34 targV
  refine Tr.all_t hb ?_
  cases hm : mayR k d with
  | false =>
    rw [if_neg Bool.false_ne_true]
    exact Tr.all_br (fun _ => Tr.all_ret rfl) fun _ => Tr.all_t hb (Tr.all_t rfl (Tr.all_ret rfl))
  | true =>
    obtain ⟨p1, p2, _⟩ := may_parts hm
    rw [if_pos rfl, p1, p2, cond_true]
    refine Tr.all_f rfl (Tr.all_t hb (Tr.all_f rfl ?_))
    by_cases k2 : k = 2
    · rw [if_pos (.inl k2), parts_name (.inl k2) hm]
      exact Tr.all_t (beq_iff_eq.2 k2) (Tr.all_t rfl (Tr.all_ret rfl))
    by_cases k5 : k = 5
    · rw [if_pos (.inr (.inl k5)), parts_name (.inr (.inl k5)) hm]
      exact Tr.all_f (beq_eq_false_iff_ne.2 k2) (Tr.all_t (beq_iff_eq.2 k5) (Tr.all_t rfl (Tr.all_ret rfl)))
    by_cases k12 : k = 12
    · rw [if_pos (.inr (.inr k12)), parts_name (.inr (.inr k12)) hm]
      exact Tr.all_f (beq_eq_false_iff_ne.2 k2) (Tr.all_f (beq_eq_false_iff_ne.2 k5) (Tr.all_t (beq_iff_eq.2 k12) (Tr.all_t rfl (Tr.all_ret rfl))))
    rw [if_neg (by omega)]
    refine Tr.all_f (beq_eq_false_iff_ne.2 k2) (Tr.all_f (beq_eq_false_iff_ne.2 k5) (Tr.all_f (beq_eq_false_iff_ne.2 k12) ?_))
    by_cases k15 : k = 15
    · rw [if_pos k15]
      subst k15
      rw [parts_MX hm]
      exact Tr.all_t rfl (Tr.all_t rfl (Tr.all_ret rfl))
    · rw [if_neg k15]
      exact Tr.all_f (beq_eq_false_iff_ne.2 k15) (Tr.all_ret rfl)
/-- derricklaw04.shown -/
def t15 : Tr Res := Tr.ret ([AV.bool !mayR (1 : Int) ([0, 10, 2, 97, 98, 0])], [])
def os15 : OSpec := { f := 15, sh := [], so := [], F := fun _ _ => t15 }
set_option maxRecDepth 1000000 in
theorem fn15 : evC T0 (orcB [fs36w, fs34w] [os16, os17w, os19]) (lpOf h15 0 (lsOf [])) c15 1000000 (startSt [] [] Try.f15.ntmps) (finishK T0 false 0 Try.f15) = (t15).get := by kernel_rfl
theorem ok15 : os15.Ok Try.prog := by
  refine os_ok mixed0 tab0 (orcB_sound (all_cons okf36w (all_cons okf34w all_nil)) (all_cons ok16 (all_cons ok17w (all_cons ok19 all_nil)))) h15 (d := 0) (n0 := 0) (S := lsOf []) Try.func15 (by kernel_rfl) (c := c15) (by kernel_rfl) rfl (no_loops (by kernel_rfl)) (by omega) (by kernel_rfl) ?_
  intro x'' y'' q'' hq''
  exact (fn15).trans hq''
def fs15 : FSpec := fsT 15 [] [(.bool, false)] fun _ => t15
theorem okf15 : fs15.Ok Try.prog := fsT_ok fun x'' r'' hr'' => ok15 x'' () r'' hr''
end Go.Proofs.YtfepkpindchleaaE

/- WireShort: the law. -/
namespace Go.Proofs.YtfepkpindchleaaE
open Go Go.Proofs.YtfepkpindchleaaB
set_option linter.unusedVariables false
set_option linter.unusedSimpArgs false
theorem wireShort_all (l : Parts) (n : List UInt8) (hb : bigS n = true) : (t9 l n).all fun x => x = ([.bool true], []) := by
  unfold t9
  cases hf : fewB l with
  | false => exact Tr.all_t rfl (Tr.all_ret rfl)
  | true =>
    obtain ⟨hl, hx⟩ := fewB_iff.1 hf
    refine Tr.all_f rfl (Tr.all_t hb ?_)
    cases hm : mayV n with
    | false => exact Tr.all_t rfl (Tr.all_ret rfl)
    | true =>
      have hg : GoodP l.length (l.foldl stN ([], [])) := by
        have := fold_good (st := stN) (fun k p x h hx => (stN_good h hx).1) l 0 ([], []) good_nil hx
        rwa [Nat.zero_add] at this
      generalize l.foldl stN ([], []) = p at hg
      have hn := (may_iff.1 hm).2.1
      have g1 : GoodP (l.length + 1) (nameP n p.1 p.2) := by
        have := (stN_good (x := (n, false)) hg (by show n.length ≤ 400; omega)).1
        unfold stN at this
        rw [show mayV (n, false).1 = true from hm, cond_true] at this
        exact this
      have g2 : GoodP (l.length + 2) (nameP n (nameP n p.1 p.2).1 (nameP n p.1 p.2).2) := by
        have := (stN_good (x := (n, false)) g1 (by show n.length ≤ 400; omega)).1
        unfold stN at this
        rw [show mayV (n, false).1 = true from hm, cond_true] at this
        exact this
      have hp := hg.2
      have hp1 := g1.2
      have ht := nameP_twice (n := n) (S := p.1) (L := p.2) hm (by omega)
      have hw1 := IntWalk.i64_in (((nameP n p.1 p.2).1.length : Int) + 1) (by omega)
      have hw2 := IntWalk.i64_in (((nameP n p.1 p.2).1.length : Int) + 2) (by omega)
      have hbl : Nat.ble n.length 100000000000 = true := Nat.ble_eq_true_of_le (by omega)
      by_cases h0 : n = [0]
      · rw [if_pos h0] at ht
        have hz : (n == [0]) = true := beq_iff_eq.2 h0
        simp [hm, hf, p0C, intB_bytes, pkC_good hg (by omega), pkC_good g1 (by omega), hbl, allT, allF, allR, bytesInt_len, hw1, ht, hz]
      · rw [if_neg h0] at ht
        have hz : (n == [0]) = false := beq_eq_false_iff_ne.2 h0
        simp [hm, hf, p0C, intB_bytes, pkC_good hg (by omega), pkC_good g1 (by omega), hbl, allT, allF, allR, bytesInt_len, hw2, ht, hz]
theorem bulk_big {n : List UInt8} (h : bulkT .str n ≤ 1048576) : bigS n = true := by
  have : List.length n + 1 ≤ 1048576 := h
  simp [bigS]
  omega
theorem sem9 (l : Parts) (n : List UInt8) (hbk : bulkT .str n ≤ 1048576) : SemF Try.prog 9 [.list (.pair .str .bool) l, .str n] [] [.bool true] [] :=
  ok9 (l, n, ()) () ([.bool true], []) (Tr.get_of_all (wireShort_all l n (bulk_big hbk)))
end Go.Proofs.YtfepkpindchleaaE

/- RdataTells, RdataVery, RdataOther. -/
namespace Go.Proofs.YtfepkpindchleaaE
open Go Go.Proofs.YtfepkpindchleaaB
set_option linter.unusedVariables false
set_option linter.unusedSimpArgs false
def fs15w : FSpec := fs15.like fun _ => .ret (true, ())
theorem okf15w : fs15w.Ok Try.prog := by
  refine flike_ok okf15 _ ?_
  rintro _ y h
  cases h
  refine convR_of (vs := [.bool true]) rfl rfl (Tr.get_of_all ?_)
  show t15.all _
  unfold t15
  rw [may_A]
  exact Tr.all_ret rfl
/-- derricklaw04.RdataTells -/
def t11 (k : Int) (d : List UInt8) (s : List UInt8) (at_ : Int) (many : Int) : Tr Res := Tr.br (decide ((↑(List.length d) : Int) > (1000 : Int))) (Tr.ret ([AV.bool true], [])) (Tr.br (decide ((↑(List.length s) : Int) > (1000 : Int))) (Tr.ret ([AV.bool true], [])) (Tr.br (smS s) (Tr.br (smS s) (Tr.br (bigS d) (Tr.br (bigS d) (Tr.br (bigS d) (Tr.br (bigS d) (Tr.br (mayR k d == mayR k d) (Tr.br (Option.getD (takeV s at_ many k) [] == Option.getD (takeV s at_ many k) []) (Tr.br ((if Option.isSome (takeV s at_ many k) = true then (0 : Int) else (2 : Ty.den (Ty.int IntKind.i64))) == if Option.isSome (takeV s at_ many k) = true then (0 : Int) else (2 : Ty.den (Ty.int IntKind.i64))) (Tr.br (Option.getD (targV k d) [] == Option.getD (targV k d) []) (Tr.ret ([AV.bool (Option.isSome (targV k d) == Option.isSome (targV k d))], [])) (Tr.ret ([AV.bool false], []))) (Tr.ret ([AV.bool false], []))) (Tr.ret ([AV.bool false], []))) (Tr.ret ([AV.bool false], []))) Tr.no) Tr.no) Tr.no) Tr.no) Tr.no) Tr.no))
def os11 : OSpec := { f := 11, sh := [.d (.int .u16) false, .d .str false, .d .str false, .d (.int .i64) false, .d (.int .i64) false], so := [], F := fun (k, d, s, at_, many, _) _ => t11 k d s at_ many }
set_option maxRecDepth 1000000 in
theorem fn11 (k : Int) (d : List UInt8) (s : List UInt8) (at_ : Int) (many : Int) : evC T0 (orcB [fs15w, fs36w, fs34w, fs32w, fs37w, fs33w, fs35w, fs29w] [os16, os17w, os19]) (lpOf h11 0 (lsOf [])) c11 1000000 (startSt [.int .u16 k, .str d, .str s, .int .i64 at_, .int .i64 many] [] Try.f11.ntmps) (finishK T0 false 0 Try.f11) = (t11 k d s at_ many).get := by kernel_rfl
theorem ok11 : os11.Ok Try.prog := by
  refine os_ok mixed0 tab0 (orcB_sound (all_cons okf15w (all_cons okf36w (all_cons okf34w (all_cons okf32w (all_cons okf37w (all_cons okf33w (all_cons okf35w (all_cons okf29w all_nil)))))))) (all_cons ok16 (all_cons ok17w (all_cons ok19 all_nil)))) h11 (d := 0) (n0 := 0) (S := lsOf []) Try.func11 (by kernel_rfl) (c := c11) (by kernel_rfl) rfl (no_loops (by kernel_rfl)) (by omega) (by kernel_rfl) ?_
  intro x'' y'' q'' hq''
  obtain ⟨(k : Int), (d : List UInt8), (s : List UInt8), (at_ : Int), (many : Int), _⟩ := x''
  exact (fn11 k d s at_ many).trans hq''
def fs11 : FSpec := fsT 11 [((.int .u16), false), (.str, false), (.str, false), ((.int .i64), false), ((.int .i64), false)] [(.bool, false)] fun (k, d, s, at_, many, _) => t11 k d s at_ many
theorem okf11 : fs11.Ok Try.prog := fsT_ok fun x'' r'' hr'' => ok11 x'' () r'' hr''
theorem rdataTells_all (k : Int) (d s : List UInt8) (at_ many : Int) : (t11 k d s at_ many).all fun x => x = ([.bool true], []) := by
  unfold t11
  by_cases h1 : (d.length : Int) > 1000
  · exact Tr.all_t (dec_true h1) (Tr.all_ret rfl)
  by_cases h2 : (s.length : Int) > 1000
  · exact Tr.all_f (dec_false h1) (Tr.all_t (dec_true h2) (Tr.all_ret rfl))
  have hb : bigS d = true := by simp [bigS]; omega
  have hs : smS s = true := by simp [smS]; omega
  simp [decide_eq_false h1, decide_eq_false h2, hb, hs, allT, allF, allR]
theorem sem11 (k : Int) (d s : List UInt8) (at_ many : Int) : SemF Try.prog 11 [.int .u16 k, .str d, .str s, .int .i64 at_, .int .i64 many] [] [.bool true] [] :=
  ok11 (k, d, s, at_, many, ()) () ([.bool true], []) (Tr.get_of_all (rdataTells_all k d s at_ many))
/-- derricklaw04.RdataVery -/
def t12 (s : List UInt8) (at_ : Int) (many : Int) (k : Int) : Tr Res := Tr.br (decide ((↑(List.length s) : Int) > (1000 : Int))) (Tr.ret ([AV.bool true], [])) (Tr.br (smS s) (Tr.br ((if Option.isSome (takeV s (IntKind.wrap IntKind.i64 at_) (IntKind.wrap IntKind.i64 many) k) = true then (0 : Int) else (2 : Ty.den (Ty.int IntKind.i64))) != (0 : Int)) (Tr.br ((if Option.isSome (takeV s (IntKind.wrap IntKind.i64 at_) (IntKind.wrap IntKind.i64 many) k) = true then (0 : Int) else (2 : Ty.den (Ty.int IntKind.i64))) == (2 : Int)) (Tr.ret ([AV.bool (Option.getD (takeV s (IntKind.wrap IntKind.i64 at_) (IntKind.wrap IntKind.i64 many) k) [] == [])], [])) (Tr.ret ([AV.bool false], []))) (Tr.br (smS s) (Tr.br (smS s) (Tr.br (bigS (Option.getD (takeV s (IntKind.wrap IntKind.i64 at_) (IntKind.wrap IntKind.i64 many) k) [])) (Tr.br (k == (1 : Int)) (Tr.br (bigS (Option.getD (takeV s (IntKind.wrap IntKind.i64 at_) (IntKind.wrap IntKind.i64 many) k) [])) (Tr.br (mayR k (Option.getD (takeV s (IntKind.wrap IntKind.i64 at_) (IntKind.wrap IntKind.i64 many) k) [])) (Tr.br ((if Option.isSome (takeV s (IntKind.wrap IntKind.i64 at_) (IntKind.wrap IntKind.i64 (IntKind.wrap IntKind.i64 many + (1 : Int))) k) = true then (0 : Int) else (2 : Ty.den (Ty.int IntKind.i64))) == (2 : Int)) (Tr.br ((if Option.isSome (takeV s (IntKind.wrap IntKind.i64 at_) (IntKind.wrap IntKind.i64 (IntKind.wrap IntKind.i64 many - (1 : Int))) k) = true then (0 : Int) else (2 : Ty.den (Ty.int IntKind.i64))) == (2 : Int)) (Tr.br (!Option.isSome (targV k (Option.getD (takeV s (IntKind.wrap IntKind.i64 at_) (IntKind.wrap IntKind.i64 many) k) []))) (Tr.ret ([AV.bool true], [])) (Tr.br (bigS (Option.getD (targV k (Option.getD (takeV s (IntKind.wrap IntKind.i64 at_) (IntKind.wrap IntKind.i64 many) k) [])) [])) (Tr.br (mayV (Option.getD (targV k (Option.getD (takeV s (IntKind.wrap IntKind.i64 at_) (IntKind.wrap IntKind.i64 many) k) [])) [])) (Tr.ret ([AV.bool (decide ((↑(List.length (Option.getD (targV k (Option.getD (takeV s (IntKind.wrap IntKind.i64 at_) (IntKind.wrap IntKind.i64 many) k) [])) [])) : Int) ≤ (↑(List.length (Option.getD (takeV s (IntKind.wrap IntKind.i64 at_) (IntKind.wrap IntKind.i64 many) k) [])) : Int)))], [])) (Tr.ret ([AV.bool false], []))) Tr.no)) (Tr.ret ([AV.bool false], []))) (Tr.ret ([AV.bool false], []))) (Tr.ret ([AV.bool false], []))) Tr.no) (Tr.br (k == (28 : Int)) (Tr.br (bigS (Option.getD (takeV s (IntKind.wrap IntKind.i64 at_) (IntKind.wrap IntKind.i64 many) k) [])) (Tr.br (mayR k (Option.getD (takeV s (IntKind.wrap IntKind.i64 at_) (IntKind.wrap IntKind.i64 many) k) [])) (Tr.br ((if Option.isSome (takeV s (IntKind.wrap IntKind.i64 at_) (IntKind.wrap IntKind.i64 (IntKind.wrap IntKind.i64 many + (1 : Int))) k) = true then (0 : Int) else (2 : Ty.den (Ty.int IntKind.i64))) == (2 : Int)) (Tr.br ((if Option.isSome (takeV s (IntKind.wrap IntKind.i64 at_) (IntKind.wrap IntKind.i64 (IntKind.wrap IntKind.i64 many - (1 : Int))) k) = true then (0 : Int) else (2 : Ty.den (Ty.int IntKind.i64))) == (2 : Int)) (Tr.br (!Option.isSome (targV k (Option.getD (takeV s (IntKind.wrap IntKind.i64 at_) (IntKind.wrap IntKind.i64 many) k) []))) (Tr.ret ([AV.bool true], [])) (Tr.br (bigS (Option.getD (targV k (Option.getD (takeV s (IntKind.wrap IntKind.i64 at_) (IntKind.wrap IntKind.i64 many) k) [])) [])) (Tr.br (mayV (Option.getD (targV k (Option.getD (takeV s (IntKind.wrap IntKind.i64 at_) (IntKind.wrap IntKind.i64 many) k) [])) [])) (Tr.ret ([AV.bool (decide ((↑(List.length (Option.getD (targV k (Option.getD (takeV s (IntKind.wrap IntKind.i64 at_) (IntKind.wrap IntKind.i64 many) k) [])) [])) : Int) ≤ (↑(List.length (Option.getD (takeV s (IntKind.wrap IntKind.i64 at_) (IntKind.wrap IntKind.i64 many) k) [])) : Int)))], [])) (Tr.ret ([AV.bool false], []))) Tr.no)) (Tr.ret ([AV.bool false], []))) (Tr.ret ([AV.bool false], []))) (Tr.ret ([AV.bool false], []))) Tr.no) (Tr.br (k == (2 : Int)) (Tr.br (bigS (Option.getD (takeV s (IntKind.wrap IntKind.i64 at_) (IntKind.wrap IntKind.i64 many) k) [])) (Tr.br (mayR k (Option.getD (takeV s (IntKind.wrap IntKind.i64 at_) (IntKind.wrap IntKind.i64 many) k) [])) (Tr.br ((if Option.isSome (takeV s (IntKind.wrap IntKind.i64 at_) (IntKind.wrap IntKind.i64 (IntKind.wrap IntKind.i64 many + (1 : Int))) k) = true then (0 : Int) else (2 : Ty.den (Ty.int IntKind.i64))) == (2 : Int)) (Tr.br ((if Option.isSome (takeV s (IntKind.wrap IntKind.i64 at_) (IntKind.wrap IntKind.i64 (IntKind.wrap IntKind.i64 many - (1 : Int))) k) = true then (0 : Int) else (2 : Ty.den (Ty.int IntKind.i64))) == (2 : Int)) (Tr.br (!Option.isSome (targV k (Option.getD (takeV s (IntKind.wrap IntKind.i64 at_) (IntKind.wrap IntKind.i64 many) k) []))) (Tr.ret ([AV.bool true], [])) (Tr.br (bigS (Option.getD (targV k (Option.getD (takeV s (IntKind.wrap IntKind.i64 at_) (IntKind.wrap IntKind.i64 many) k) [])) [])) (Tr.br (mayV (Option.getD (targV k (Option.getD (takeV s (IntKind.wrap IntKind.i64 at_) (IntKind.wrap IntKind.i64 many) k) [])) [])) (Tr.ret ([AV.bool (decide ((↑(List.length (Option.getD (targV k (Option.getD (takeV s (IntKind.wrap IntKind.i64 at_) (IntKind.wrap IntKind.i64 many) k) [])) [])) : Int) ≤ (↑(List.length (Option.getD (takeV s (IntKind.wrap IntKind.i64 at_) (IntKind.wrap IntKind.i64 many) k) [])) : Int)))], [])) (Tr.ret ([AV.bool false], []))) Tr.no)) (Tr.ret ([AV.bool false], []))) (Tr.ret ([AV.bool false], []))) (Tr.ret ([AV.bool false], []))) Tr.no) (Tr.br (k == (5 : Int)) (Tr.br (bigS (Option.getD (takeV s (IntKind.wrap IntKind.i64 at_) (IntKind.wrap IntKind.i64 many) k) [])) (Tr.br (mayR k (Option.getD (takeV s (IntKind.wrap IntKind.i64 at_) (IntKind.wrap IntKind.i64 many) k) [])) (Tr.br ((if Option.isSome (takeV s (IntKind.wrap IntKind.i64 at_) (IntKind.wrap IntKind.i64 (IntKind.wrap IntKind.i64 many + (1 : Int))) k) = true then (0 : Int) else (2 : Ty.den (Ty.int IntKind.i64))) == (2 : Int)) (Tr.br ((if Option.isSome (takeV s (IntKind.wrap IntKind.i64 at_) (IntKind.wrap IntKind.i64 (IntKind.wrap IntKind.i64 many - (1 : Int))) k) = true then (0 : Int) else (2 : Ty.den (Ty.int IntKind.i64))) == (2 : Int)) (Tr.br (!Option.isSome (targV k (Option.getD (takeV s (IntKind.wrap IntKind.i64 at_) (IntKind.wrap IntKind.i64 many) k) []))) (Tr.ret ([AV.bool true], [])) (Tr.br (bigS (Option.getD (targV k (Option.getD (takeV s (IntKind.wrap IntKind.i64 at_) (IntKind.wrap IntKind.i64 many) k) [])) [])) (Tr.br (mayV (Option.getD (targV k (Option.getD (takeV s (IntKind.wrap IntKind.i64 at_) (IntKind.wrap IntKind.i64 many) k) [])) [])) (Tr.ret ([AV.bool (decide ((↑(List.length (Option.getD (targV k (Option.getD (takeV s (IntKind.wrap IntKind.i64 at_) (IntKind.wrap IntKind.i64 many) k) [])) [])) : Int) ≤ (↑(List.length (Option.getD (takeV s (IntKind.wrap IntKind.i64 at_) (IntKind.wrap IntKind.i64 many) k) [])) : Int)))], [])) (Tr.ret ([AV.bool false], []))) Tr.no)) (Tr.ret ([AV.bool false], []))) (Tr.ret ([AV.bool false], []))) (Tr.ret ([AV.bool false], []))) Tr.no) (Tr.br (k == (12 : Int)) (Tr.br (bigS (Option.getD (takeV s (IntKind.wrap IntKind.i64 at_) (IntKind.wrap IntKind.i64 many) k) [])) (Tr.br (mayR k (Option.getD (takeV s (IntKind.wrap IntKind.i64 at_) (IntKind.wrap IntKind.i64 many) k) [])) (Tr.br ((if Option.isSome (takeV s (IntKind.wrap IntKind.i64 at_) (IntKind.wrap IntKind.i64 (IntKind.wrap IntKind.i64 many + (1 : Int))) k) = true then (0 : Int) else (2 : Ty.den (Ty.int IntKind.i64))) == (2 : Int)) (Tr.br ((if Option.isSome (takeV s (IntKind.wrap IntKind.i64 at_) (IntKind.wrap IntKind.i64 (IntKind.wrap IntKind.i64 many - (1 : Int))) k) = true then (0 : Int) else (2 : Ty.den (Ty.int IntKind.i64))) == (2 : Int)) (Tr.br (!Option.isSome (targV k (Option.getD (takeV s (IntKind.wrap IntKind.i64 at_) (IntKind.wrap IntKind.i64 many) k) []))) (Tr.ret ([AV.bool true], [])) (Tr.br (bigS (Option.getD (targV k (Option.getD (takeV s (IntKind.wrap IntKind.i64 at_) (IntKind.wrap IntKind.i64 many) k) [])) [])) (Tr.br (mayV (Option.getD (targV k (Option.getD (takeV s (IntKind.wrap IntKind.i64 at_) (IntKind.wrap IntKind.i64 many) k) [])) [])) (Tr.ret ([AV.bool (decide ((↑(List.length (Option.getD (targV k (Option.getD (takeV s (IntKind.wrap IntKind.i64 at_) (IntKind.wrap IntKind.i64 many) k) [])) [])) : Int) ≤ (↑(List.length (Option.getD (takeV s (IntKind.wrap IntKind.i64 at_) (IntKind.wrap IntKind.i64 many) k) [])) : Int)))], [])) (Tr.ret ([AV.bool false], []))) Tr.no)) (Tr.ret ([AV.bool false], []))) (Tr.ret ([AV.bool false], []))) (Tr.ret ([AV.bool false], []))) Tr.no) (Tr.br (k == (15 : Int)) (Tr.br (bigS (Option.getD (takeV s (IntKind.wrap IntKind.i64 at_) (IntKind.wrap IntKind.i64 many) k) [])) (Tr.br (mayR k (Option.getD (takeV s (IntKind.wrap IntKind.i64 at_) (IntKind.wrap IntKind.i64 many) k) [])) (Tr.br ((if Option.isSome (takeV s (IntKind.wrap IntKind.i64 at_) (IntKind.wrap IntKind.i64 (IntKind.wrap IntKind.i64 many + (1 : Int))) k) = true then (0 : Int) else (2 : Ty.den (Ty.int IntKind.i64))) == (2 : Int)) (Tr.br ((if Option.isSome (takeV s (IntKind.wrap IntKind.i64 at_) (IntKind.wrap IntKind.i64 (IntKind.wrap IntKind.i64 many - (1 : Int))) k) = true then (0 : Int) else (2 : Ty.den (Ty.int IntKind.i64))) == (2 : Int)) (Tr.br (!Option.isSome (targV k (Option.getD (takeV s (IntKind.wrap IntKind.i64 at_) (IntKind.wrap IntKind.i64 many) k) []))) (Tr.ret ([AV.bool true], [])) (Tr.br (bigS (Option.getD (targV k (Option.getD (takeV s (IntKind.wrap IntKind.i64 at_) (IntKind.wrap IntKind.i64 many) k) [])) [])) (Tr.br (mayV (Option.getD (targV k (Option.getD (takeV s (IntKind.wrap IntKind.i64 at_) (IntKind.wrap IntKind.i64 many) k) [])) [])) (Tr.ret ([AV.bool (decide ((↑(List.length (Option.getD (targV k (Option.getD (takeV s (IntKind.wrap IntKind.i64 at_) (IntKind.wrap IntKind.i64 many) k) [])) [])) : Int) ≤ (↑(List.length (Option.getD (takeV s (IntKind.wrap IntKind.i64 at_) (IntKind.wrap IntKind.i64 many) k) [])) : Int)))], [])) (Tr.ret ([AV.bool false], []))) Tr.no)) (Tr.ret ([AV.bool false], []))) (Tr.ret ([AV.bool false], []))) (Tr.ret ([AV.bool false], []))) Tr.no) (Tr.br (bigS (Option.getD (takeV s (IntKind.wrap IntKind.i64 at_) (IntKind.wrap IntKind.i64 many) k) [])) (Tr.br (mayR k (Option.getD (takeV s (IntKind.wrap IntKind.i64 at_) (IntKind.wrap IntKind.i64 many) k) [])) (Tr.br (!k == (6 : Int)) (Tr.br (!Option.isSome (targV k (Option.getD (takeV s (IntKind.wrap IntKind.i64 at_) (IntKind.wrap IntKind.i64 many) k) []))) (Tr.ret ([AV.bool true], [])) (Tr.br (bigS (Option.getD (targV k (Option.getD (takeV s (IntKind.wrap IntKind.i64 at_) (IntKind.wrap IntKind.i64 many) k) [])) [])) (Tr.br (mayV (Option.getD (targV k (Option.getD (takeV s (IntKind.wrap IntKind.i64 at_) (IntKind.wrap IntKind.i64 many) k) [])) [])) (Tr.ret ([AV.bool (decide ((↑(List.length (Option.getD (targV k (Option.getD (takeV s (IntKind.wrap IntKind.i64 at_) (IntKind.wrap IntKind.i64 many) k) [])) [])) : Int) ≤ (↑(List.length (Option.getD (takeV s (IntKind.wrap IntKind.i64 at_) (IntKind.wrap IntKind.i64 many) k) [])) : Int)))], [])) (Tr.ret ([AV.bool false], []))) Tr.no)) (Tr.br ((if Option.isSome (takeV s (IntKind.wrap IntKind.i64 at_) (IntKind.wrap IntKind.i64 (IntKind.wrap IntKind.i64 many + (1 : Int))) k) = true then (0 : Int) else (2 : Ty.den (Ty.int IntKind.i64))) == (2 : Int)) (Tr.br ((if Option.isSome (takeV s (IntKind.wrap IntKind.i64 at_) (IntKind.wrap IntKind.i64 (IntKind.wrap IntKind.i64 many - (1 : Int))) k) = true then (0 : Int) else (2 : Ty.den (Ty.int IntKind.i64))) == (2 : Int)) (Tr.br (!Option.isSome (targV k (Option.getD (takeV s (IntKind.wrap IntKind.i64 at_) (IntKind.wrap IntKind.i64 many) k) []))) (Tr.ret ([AV.bool true], [])) (Tr.br (bigS (Option.getD (targV k (Option.getD (takeV s (IntKind.wrap IntKind.i64 at_) (IntKind.wrap IntKind.i64 many) k) [])) [])) (Tr.br (mayV (Option.getD (targV k (Option.getD (takeV s (IntKind.wrap IntKind.i64 at_) (IntKind.wrap IntKind.i64 many) k) [])) [])) (Tr.ret ([AV.bool (decide ((↑(List.length (Option.getD (targV k (Option.getD (takeV s (IntKind.wrap IntKind.i64 at_) (IntKind.wrap IntKind.i64 many) k) [])) [])) : Int) ≤ (↑(List.length (Option.getD (takeV s (IntKind.wrap IntKind.i64 at_) (IntKind.wrap IntKind.i64 many) k) [])) : Int)))], [])) (Tr.ret ([AV.bool false], []))) Tr.no)) (Tr.ret ([AV.bool false], []))) (Tr.ret ([AV.bool false], [])))) (Tr.ret ([AV.bool false], []))) Tr.no))))))) Tr.no) Tr.no) Tr.no)) Tr.no)
def os12 : OSpec := { f := 12, sh := [.d .str false, .d (.int .u8) false, .d (.int .u8) false, .d (.int .u16) false], so := [], F := fun (s, at_, many, k, _) _ => t12 s at_ many k }
set_option maxRecDepth 1000000 in
theorem fn12 (s : List UInt8) (at_ : Int) (many : Int) (k : Int) : evC T0 (orcB [fs15w, fs36w, fs34w, fs32w, fs37w, fs33w, fs35w, fs29w] [os16, os17w, os19]) (lpOf h12 0 (lsOf [])) c12 1000000 (startSt [.str s, .int .u8 at_, .int .u8 many, .int .u16 k] [] Try.f12.ntmps) (finishK T0 false 0 Try.f12) = (t12 s at_ many k).get := by kernel_rfl
theorem ok12 : os12.Ok Try.prog := by
  refine os_ok mixed0 tab0 (orcB_sound (all_cons okf15w (all_cons okf36w (all_cons okf34w (all_cons okf32w (all_cons okf37w (all_cons okf33w (all_cons okf35w (all_cons okf29w all_nil)))))))) (all_cons ok16 (all_cons ok17w (all_cons ok19 all_nil)))) h12 (d := 0) (n0 := 0) (S := lsOf []) Try.func12 (by kernel_rfl) (c := c12) (by kernel_rfl) rfl (no_loops (by kernel_rfl)) (by omega) (by kernel_rfl) ?_
  intro x'' y'' q'' hq''
  obtain ⟨(s : List UInt8), (at_ : Int), (many : Int), (k : Int), _⟩ := x''
  exact (fn12 s at_ many k).trans hq''
def fs12 : FSpec := fsT 12 [(.str, false), ((.int .u8), false), ((.int .u8), false), ((.int .u16), false)] [(.bool, false)] fun (s, at_, many, k, _) => t12 s at_ many k
theorem okf12 : fs12.Ok Try.prog := fsT_ok fun x'' r'' hr'' => ok12 x'' () r'' hr''
theorem rdataVery_all (s : List UInt8) (at_ many k : Int) (hm0 : 0 ≤ many) (hm1 : many ≤ 255) : (t12 s at_ many k).all fun x => x = ([.bool true], []) := by
  unfold t12
  by_cases h1 : (s.length : Int) > 1000
  · exact Tr.all_t (dec_true h1) (Tr.all_ret rfl)
  have hs : smS s = true := by simp [smS]; omega
  have hsl : s.length ≤ 1000 := by omega
  rw [IntWalk.i64_in many (by omega), IntWalk.i64_in (many + 1) (by omega), IntWalk.i64_in (many - 1) (by omega)]
  generalize IntKind.wrap IntKind.i64 at_ = a
  cases ht : takeV s a many k with
  | none => simp [decide_eq_false h1, hs, allT, allF, allR]
  | some d =>
    obtain ⟨m1, _, _, _, m5⟩ := takeV_may ht
    have hdl : d.length ≤ 65535 := (may_parts m1).2.2.1
    have hbd : bigS d = true := by simp [bigS]; omega
    have hend : (Tr.br (targV k d).isNone (Tr.ret ([AV.bool true], [])) (Tr.br (bigS ((targV k d).getD [])) (Tr.br (mayV ((targV k d).getD [])) (Tr.ret ([AV.bool (decide (((targV k d).getD []).length ≤ d.length))], [])) (Tr.ret ([AV.bool false], []))) Tr.no) : Tr Res).all fun x => x = ([.bool true], []) := by
      cases hg : targV k d with
      | none => exact Tr.all_t rfl (Tr.all_ret rfl)
      | some t =>
        obtain ⟨g1, g2⟩ := targ_may hg
        refine Tr.all_f rfl (Tr.all_t (by simp [bigS]; omega) (Tr.all_t g1 (Tr.all_ret ?_)))
        simp
        exact g2
    by_cases hk : k = 1 ∨ k = 28 ∨ k = 2 ∨ k = 5 ∨ k = 12 ∨ k = 15 ∨ k = 6
    · have hf := takeV_one (n' := many + 1) hk ht (by omega)
      have hg := takeV_one (n' := many - 1) hk ht (by omega)
      rcases hk with rfl | rfl | rfl | rfl | rfl | rfl | rfl <;> (simp [decide_eq_false h1, hs, hf, hg, hbd, m1, allT, allF, allR]; exact hend)
    · have q1 : (k == 1) = false := beq_eq_false_iff_ne.2 (by omega)
      have q2 : (k == 28) = false := beq_eq_false_iff_ne.2 (by omega)
      have q3 : (k == 2) = false := beq_eq_false_iff_ne.2 (by omega)
      have q4 : (k == 5) = false := beq_eq_false_iff_ne.2 (by omega)
      have q5 : (k == 12) = false := beq_eq_false_iff_ne.2 (by omega)
      have q6 : (k == 15) = false := beq_eq_false_iff_ne.2 (by omega)
      have q7 : (k == 6) = false := beq_eq_false_iff_ne.2 (by omega)
      simp [decide_eq_false h1, hs, hbd, m1, q1, q2, q3, q4, q5, q6, q7, allT, allF, allR]
      exact hend
theorem sem12 (s : List UInt8) (at_ many k : Int) (h : okT (.int .u8) many) : SemF Try.prog 12 [.str s, .int .u8 at_, .int .u8 many, .int .u16 k] [] [.bool true] [] := by
  have hr : 0 ≤ many ∧ many ≤ 255 := by simpa [okT, Lit.wf, IntKind.min, IntKind.max, IntKind.signed, IntKind.bits] using h
  exact ok12 (s, at_, many, k, ()) () ([.bool true], []) (Tr.get_of_all (rdataVery_all s at_ many k hr.1 hr.2))
/-- derricklaw04.RdataOther -/
def t13 (k : Int) (d : List UInt8) : Tr Res := Tr.br (k == (1 : Int)) (Tr.br (decide ((↑(List.length d) : Int) > (1000 : Int))) (Tr.ret ([AV.bool true], [])) (Tr.ret ([AV.bool true], []))) (Tr.br (k == (28 : Int)) (Tr.br (decide ((↑(List.length d) : Int) > (1000 : Int))) (Tr.ret ([AV.bool true], [])) (Tr.ret ([AV.bool true], []))) (Tr.br (k == (2 : Int)) (Tr.br (decide ((↑(List.length d) : Int) > (1000 : Int))) (Tr.ret ([AV.bool true], [])) (Tr.ret ([AV.bool true], []))) (Tr.br (k == (5 : Int)) (Tr.br (decide ((↑(List.length d) : Int) > (1000 : Int))) (Tr.ret ([AV.bool true], [])) (Tr.ret ([AV.bool true], []))) (Tr.br (k == (12 : Int)) (Tr.br (decide ((↑(List.length d) : Int) > (1000 : Int))) (Tr.ret ([AV.bool true], [])) (Tr.ret ([AV.bool true], []))) (Tr.br (k == (15 : Int)) (Tr.br (decide ((↑(List.length d) : Int) > (1000 : Int))) (Tr.ret ([AV.bool true], [])) (Tr.ret ([AV.bool true], []))) (Tr.br (k == (6 : Int)) (Tr.br (decide ((↑(List.length d) : Int) > (1000 : Int))) (Tr.ret ([AV.bool true], [])) (Tr.ret ([AV.bool true], []))) (Tr.br (decide ((↑(List.length d) : Int) > (1000 : Int))) (Tr.ret ([AV.bool true], [])) (Tr.br (k == (16 : Int)) (Tr.ret ([AV.bool true], [])) (Tr.br (pkT [] [] && Nat.ble (List.length d) 1000000) (Tr.br (mayR k d) (Tr.br (smS d) (Tr.br (bigS d) (Tr.br (bigS d) (Tr.br (mayR k d) (Tr.br (intBytes (bytesInt (Prod.fst (putR k d (intBytes [], [])))) == d) (Tr.br ((if Option.isSome (takeV d (0 : Int) (↑(List.length d) : Int) k) = true then (0 : Int) else (2 : Ty.den (Ty.int IntKind.i64))) == (0 : Int)) (Tr.br (Option.getD (takeV d (0 : Int) (↑(List.length d) : Int) k) [] == d) (Tr.ret ([AV.bool !Option.isSome (targV k d)], [])) (Tr.ret ([AV.bool false], []))) (Tr.ret ([AV.bool false], []))) (Tr.ret ([AV.bool false], []))) (Tr.ret ([AV.bool false], []))) Tr.no) Tr.no) Tr.no) (Tr.br (smS d) (Tr.br (bigS d) (Tr.br (bigS d) (Tr.br (mayR k d) (Tr.ret ([AV.bool false], [])) (Tr.ret ([AV.bool false], []))) Tr.no) Tr.no) Tr.no)) Tr.no)))))))))
def os13 : OSpec := { f := 13, sh := [.d (.int .u16) false, .d .str false], so := [], F := fun (k, d, _) _ => t13 k d }
set_option maxRecDepth 1000000 in
theorem fn13 (k : Int) (d : List UInt8) : evC T0 (orcB [fs15w, fs36w, fs34w, fs32w, fs37w, fs33w, fs35w, fs29w] [os16, os17w, os19]) (lpOf h13 0 (lsOf [])) c13 1000000 (startSt [.int .u16 k, .str d] [] Try.f13.ntmps) (finishK T0 false 0 Try.f13) = (t13 k d).get := by kernel_rfl
theorem ok13 : os13.Ok Try.prog := by
  refine os_ok mixed0 tab0 (orcB_sound (all_cons okf15w (all_cons okf36w (all_cons okf34w (all_cons okf32w (all_cons okf37w (all_cons okf33w (all_cons okf35w (all_cons okf29w all_nil)))))))) (all_cons ok16 (all_cons ok17w (all_cons ok19 all_nil)))) h13 (d := 0) (n0 := 0) (S := lsOf []) Try.func13 (by kernel_rfl) (c := c13) (by kernel_rfl) rfl (no_loops (by kernel_rfl)) (by omega) (by kernel_rfl) ?_
  intro x'' y'' q'' hq''
  obtain ⟨(k : Int), (d : List UInt8), _⟩ := x''
  exact (fn13 k d).trans hq''
def fs13 : FSpec := fsT 13 [((.int .u16), false), (.str, false)] [(.bool, false)] fun (k, d, _) => t13 k d
theorem okf13 : fs13.Ok Try.prog := fsT_ok fun x'' r'' hr'' => ok13 x'' () r'' hr''
theorem rdataOther_all (k : Int) (d : List UInt8) : (t13 k d).all fun x => x = ([.bool true], []) := by
  unfold t13
  by_cases hl : (d.length : Int) > 1000
  · have h0 := decide_eq_true hl
    repeat' first | exact Tr.all_ret rfl | refine Tr.all_br (fun _ => ?_) fun _ => ?_
    all_goals (simp_all; done)
  · have hf := decide_eq_false hl
    by_cases k1 : k = 1
    · exact Tr.all_t (beq_iff_eq.2 k1) (Tr.all_f hf (Tr.all_ret rfl))
    refine Tr.all_f (beq_eq_false_iff_ne.2 k1) ?_
    by_cases k2 : k = 28
    · exact Tr.all_t (beq_iff_eq.2 k2) (Tr.all_f hf (Tr.all_ret rfl))
    refine Tr.all_f (beq_eq_false_iff_ne.2 k2) ?_
    by_cases k3 : k = 2
    · exact Tr.all_t (beq_iff_eq.2 k3) (Tr.all_f hf (Tr.all_ret rfl))
    refine Tr.all_f (beq_eq_false_iff_ne.2 k3) ?_
    by_cases k4 : k = 5
    · exact Tr.all_t (beq_iff_eq.2 k4) (Tr.all_f hf (Tr.all_ret rfl))
    refine Tr.all_f (beq_eq_false_iff_ne.2 k4) ?_
    by_cases k5 : k = 12
    · exact Tr.all_t (beq_iff_eq.2 k5) (Tr.all_f hf (Tr.all_ret rfl))
    refine Tr.all_f (beq_eq_false_iff_ne.2 k5) ?_
    by_cases k6 : k = 15
    · exact Tr.all_t (beq_iff_eq.2 k6) (Tr.all_f hf (Tr.all_ret rfl))
    refine Tr.all_f (beq_eq_false_iff_ne.2 k6) ?_
    by_cases k7 : k = 6
    · exact Tr.all_t (beq_iff_eq.2 k7) (Tr.all_f hf (Tr.all_ret rfl))
    refine Tr.all_f (beq_eq_false_iff_ne.2 k7) (Tr.all_f hf ?_)
    by_cases k8 : k = 16
    · exact Tr.all_t (beq_iff_eq.2 k8) (Tr.all_ret rfl)
    refine Tr.all_f (beq_eq_false_iff_ne.2 k8) ?_
    have hm : mayR k d = true := by rw [may_any ⟨k1, k2, k3, k4, k5, k6, k7, k8⟩]; exact Nat.ble_eq_true_of_le (by omega)
    have hlay : layV k = [-3] := by simp [layV, k1, k2, k3, k4, k5, k6, k7, k8]
    have hp : (putR k d (intBytes [], [])).1 = d := by
      unfold putR
      rw [hlay, parts_one hlay hm]
      rfl
    have hs0 : someB d 0 (d.length : Int) = true := someB_iff.2 (by omega)
    have hv0 : someV d 0 (d.length : Int) = d := by
      unfold someV
      simp
    have ht : takeV d 0 (d.length : Int) k = some d := by
      unfold takeV
      rw [if_pos hs0, hlay, takeD_rest (.inr rfl) d 0 (d.length : Int) hs0, hv0, if_pos ⟨rfl, rfl, hm⟩]
    have hg : targV k d = none := by
      unfold targV
      rw [if_pos hm, if_neg (by omega), if_neg k6]
    have h0 : pkT [] [] = true := rfl
    have hbl : Nat.ble d.length 1000000 = true := Nat.ble_eq_true_of_le (by omega)
    have hsm : smS d = true := by simp [smS]; omega
    have hbd : bigS d = true := by simp [bigS]; omega
    simp [h0, hbl, hm, hsm, hbd, hp, intB_bytes, ht, hg, allT, allF, allR]
theorem sem13 (k : Int) (d : List UInt8) : SemF Try.prog 13 [.int .u16 k, .str d] [] [.bool true] [] :=
  ok13 (k, d, ()) () ([.bool true], []) (Tr.get_of_all (rdataOther_all k d))
end Go.Proofs.YtfepkpindchleaaE

/- The row of RdataOther. Printed by mklaw.py. -/
namespace Go.Proofs.Ytfepkpindchleaa.rdataOther
open Go.ChangeShapes Go.WideShapes Go.ChangeAt Go.RowKit Go.Proofs.YtfepkpindchleaaE
open Go.ChangeMaps (open_string shut_string)
set_option linter.unusedVariables false
theorem own : ownKnob Try.prog.godebug = none := by kernel_rfl
theorem laidOut : laidOutB Try.prog = true := by kernel_rfl
set_option maxRecDepth 100000 in
theorem lifted (os : Os) (started : os.Started) (H : Type) (enc : TypeId × Value → H) :
    ReturnsInHanded {} Try.checked os 13 .any (Rows.rdataOtherSpec.pre6 enc Try.prog Try.f13 Rows.rdataOtherRow.domain false) (Rows.rdataOtherSpec.post enc Try.prog Try.f13 false true false false) := by
  refine returnsInHanded_of_change_sized (C := Try.checked) own started (by kernel_rfl) Try.func13
    (ChangeSpec.witness6 (enc := enc) (C := Try.checked) false ⟨#[], #[.int .u16 0, .string ByteArray.empty], []⟩ 8 (by kernel_rfl) (by kernel_rfl) (by kernel_rfl) (by kernel_rfl)) ?_
  intro W base args ds gs before hval0 hW hcnd hsz0 _
  have hsz : ∀ n ∈ DataW.weightsEach Try.prog (Try.f13.params.toList ++ Rows.rdataOtherSpec.plain.varTypes Try.prog) (ds ++ gs), n ≤ reachBytes := fun n hn => of_decide_eq_true (List.all_eq_true.1 hsz0 n hn)
  have hval : ∀ (j : Nat) t v, Try.f13.params[j]? = some t → args[j]? = some v → Value.okWide Try.prog W .any base t v := hval0
  have hW' := hW
  obtain ⟨p, q, hA0, hV, rfl, hfz, hnd⟩ := hW
  have hA : DataW.TrodAll enc Try.prog W 0 (fun _ => true) true Try.f13.params.toList args.toList ds p := hA0
  rw [Try.params13] at hA hval hsz
  obtain ⟨v0, vs0, d0, ds0, p0, q0, hargs, rfl, rfl, k0, r0⟩ := trodAll_cons hA
  obtain ⟨v1, vs1, d1, ds1, p1, q1, rfl, rfl, rfl, k1, r1⟩ := trodAll_cons r0
  obtain ⟨rfl, rfl, rfl⟩ := trodAll_nil r1
  obtain rfl : args = #[v0, v1] := by cases args; simp_all
  obtain ⟨rfl, rfl⟩ := trodVars_none hV
  have lt0 : ∀ x ∈ p0, x.block < W.heap.size := by obtain ⟨m, hm⟩ := k0; exact DataW.trod_lt m _ _ _ hm
  obtain ⟨x0, e0, w0, b0⟩ := arg_told (n := 8) (τ := .int .u16) (agg := false) (by kernel_rfl) (hval 0 29 v0 rfl rfl) k0 (fun n hn => hsz n (DataW.weights_mem_each (j := 0) (t := 29) rfl rfl n hn)) (by kernel_rfl)
  have lt1 : ∀ x ∈ p1, x.block < W.heap.size := by obtain ⟨m, hm⟩ := k1; exact DataW.trod_lt m _ _ _ hm
  obtain ⟨x1, e1, w1, b1⟩ := arg_told (n := 8) (τ := .str) (agg := false) (by kernel_rfl) (hval 1 9 v1 rfl rfl) k1 (fun n hn => hsz n (DataW.weights_mem_each (j := 1) (t := 9) rfl rfl n hn)) (by kernel_rfl)
  clear hA0 hval0 hsz0 hsz
  refine (law_calls ((fun x0 x1 _ _ => sem13 x0 x1) x0 x1 w0 w1) W (vs := [v0, v1]) ?_).mono fun e W' ⟨he, bel⟩ => ?_
  · simp only [VRelL]
    exact ⟨_, _, rfl, e0, ⟨_, _, rfl, e1, rfl⟩⟩
  subst he
  exact ⟨_, rfl, _, _, _, [], _, [], hW', trodAll_mk1 (shut_bool Try.underlying4 _), (trodAll_cons_mk (Below.trod laidOut (by kernel_rfl) (of_decide_eq_true (by kernel_rfl)) k0 bel lt0) (trodAll_cons_mk (Below.trod laidOut (by kernel_rfl) (of_decide_eq_true (by kernel_rfl)) k1 bel lt1) trodAll_mk0)), rfl, bel.frame _, fun h => by cases h⟩
theorem over : Rows.rdataOtherRow.holds Try.pinned (OpenSpec.ofChange Rows.rdataOtherSpec) :=
  OpenClaim.holds_of_wide 13 Try.f13 rfl rfl rfl rfl rfl rfl rfl ⟨rfl, rfl, rfl, rfl, rfl⟩ rfl rfl rfl rfl rfl (by kernel_rfl) Try.func13 (by kernel_rfl)
    (of_decide_eq_true (by kernel_rfl)) (by unfold Func.isWrapper; first | (rw [if_pos (by decide +kernel)]; kernel_rfl) | (rw [if_neg (by decide +kernel)]; exact ⟨rfl, rfl⟩))
    (fun os started H enc _ => lifted os started H enc)
theorem proved : Rows.RdataOtherSaid := over
end Go.Proofs.Ytfepkpindchleaa.rdataOther
namespace Go.Proofs.Ytfepkpindchleaa
/-- The row, under a short name, for the claim. -/
theorem rdataOther_holds : Rows.RdataOtherSaid := rdataOther.proved
#print axioms rdataOther_holds
end Go.Proofs.Ytfepkpindchleaa
