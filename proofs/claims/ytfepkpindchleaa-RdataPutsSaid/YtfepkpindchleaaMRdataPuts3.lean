import Derived.Test.YtfepkpindchleaaMRdataPuts2
import Derived.Test.YtfepkpindchleaaRows
import Derived.WalkKit
import Derived.ProofKit
import Derived.OpenShut
import Derived.ShutString
import Derived.ChangeOld
import Derived.Below
import Derived.Carry
import Derived.SizedLaws
/- The document's data: Take, Target. -/
namespace Go.Proofs.YtfepkpindchleaaE
open Go Go.Proofs.YtfepkpindchleaaB
set_option linter.unusedVariables false
set_option linter.unusedSimpArgs false
def fs60w : FSpec := fs60.like fun (s, a, e, m, _) => .on (bigS s && (decide (0 ≤ m) && decide (m ≤ 3))) (nmD s a e m, nmA s a e m, ())
theorem okf60w : fs60w.Ok Try.prog := by
  refine flike_ok okf60 _ ?_
  rintro ⟨(s : List UInt8), (a : Int), (e : Int), (m : Int), _⟩ y h
  obtain ⟨hb, rfl⟩ := Tr.get_on h
  refine convR_of (vs := [.str (nmD s a e m), .int .i64 (nmA s a e m)]) rfl rfl (Tr.get_of_all ?_)
  show (t60 s a e m).all _
  simp only [Bool.and_eq_true, decide_eq_true_eq] at hb
  unfold t60 nmD nmA
  refine Tr.all_t ?_ (Tr.all_br (fun c => Tr.all_ret ?_) fun c => Tr.all_ret ?_)
  · unfold nmsC noT
    rw [hb.1, dec_true hb.2.1, dec_true hb.2.2, dec_true rfl]
    rfl
  · rw [c]; rfl
  · rw [c]; rfl
/-- derrickref04.Take -/
def t33 (s : List UInt8) (at_ : Int) (many : Int) (k : Int) : Tr Res := Tr.br (bigS s) (Tr.br (someB s at_ many) (Tr.br (k == (2 : Int)) (Tr.br (bigS s && (decide ((0 : Ty.den (Ty.int IntKind.i64)) ≤ (1 : Int)) && decide ((1 : Int) ≤ (3 : Ty.den (Ty.int IntKind.i64))))) (Tr.br (nmA s at_ (at_ + many) (1 : Int) != at_ + many) (Tr.ret ([AV.str [], AV.int IntKind.i64 (2 : Int)], [])) (Tr.br (bigS (nmD s at_ (at_ + many) (1 : Int))) (Tr.br (!mayR k (nmD s at_ (at_ + many) (1 : Int))) (Tr.ret ([AV.str [], AV.int IntKind.i64 (2 : Int)], [])) (Tr.ret ([AV.str (nmD s at_ (at_ + many) (1 : Int)), AV.int IntKind.i64 (0 : Int)], []))) Tr.no)) Tr.no) (Tr.br (k == (5 : Int)) (Tr.br (bigS s && (decide ((0 : Ty.den (Ty.int IntKind.i64)) ≤ (1 : Int)) && decide ((1 : Int) ≤ (3 : Ty.den (Ty.int IntKind.i64))))) (Tr.br (nmA s at_ (at_ + many) (1 : Int) != at_ + many) (Tr.ret ([AV.str [], AV.int IntKind.i64 (2 : Int)], [])) (Tr.br (bigS (nmD s at_ (at_ + many) (1 : Int))) (Tr.br (!mayR k (nmD s at_ (at_ + many) (1 : Int))) (Tr.ret ([AV.str [], AV.int IntKind.i64 (2 : Int)], [])) (Tr.ret ([AV.str (nmD s at_ (at_ + many) (1 : Int)), AV.int IntKind.i64 (0 : Int)], []))) Tr.no)) Tr.no) (Tr.br (k == (12 : Int)) (Tr.br (bigS s && (decide ((0 : Ty.den (Ty.int IntKind.i64)) ≤ (1 : Int)) && decide ((1 : Int) ≤ (3 : Ty.den (Ty.int IntKind.i64))))) (Tr.br (nmA s at_ (at_ + many) (1 : Int) != at_ + many) (Tr.ret ([AV.str [], AV.int IntKind.i64 (2 : Int)], [])) (Tr.br (bigS (nmD s at_ (at_ + many) (1 : Int))) (Tr.br (!mayR k (nmD s at_ (at_ + many) (1 : Int))) (Tr.ret ([AV.str [], AV.int IntKind.i64 (2 : Int)], [])) (Tr.ret ([AV.str (nmD s at_ (at_ + many) (1 : Int)), AV.int IntKind.i64 (0 : Int)], []))) Tr.no)) Tr.no) (Tr.br (k == (15 : Int)) (Tr.br (decide (many < (3 : Int))) (Tr.ret ([AV.str [], AV.int IntKind.i64 (2 : Int)], [])) (Tr.br (bigS s && (decide ((0 : Ty.den (Ty.int IntKind.i64)) ≤ (1 : Int)) && decide ((1 : Int) ≤ (3 : Ty.den (Ty.int IntKind.i64))))) (Tr.br (decide ((0 : Int) ≤ (2 : Int)) && decide ((2 : Int) ≤ (↑(List.length (someV s at_ many)) : Int))) (Tr.br (Nat.ble (List.length (List.take (Int.toNat (2 : Int) - Int.toNat (0 : Int)) (List.drop (Int.toNat (0 : Int)) (someV s at_ many))) + List.length (nmD s (IntKind.wrap IntKind.i64 (at_ + (2 : Int))) (at_ + many) (1 : Int))) 9223372036854775807) (Tr.br (nmA s (IntKind.wrap IntKind.i64 (at_ + (2 : Int))) (at_ + many) (1 : Int) != at_ + many) (Tr.ret ([AV.str [], AV.int IntKind.i64 (2 : Int)], [])) (Tr.br (bigS (List.take (Int.toNat (2 : Int) - Int.toNat (0 : Int)) (List.drop (Int.toNat (0 : Int)) (someV s at_ many)) ++ nmD s (IntKind.wrap IntKind.i64 (at_ + (2 : Int))) (at_ + many) (1 : Int))) (Tr.br (!mayR k (List.take (Int.toNat (2 : Int) - Int.toNat (0 : Int)) (List.drop (Int.toNat (0 : Int)) (someV s at_ many)) ++ nmD s (IntKind.wrap IntKind.i64 (at_ + (2 : Int))) (at_ + many) (1 : Int))) (Tr.ret ([AV.str [], AV.int IntKind.i64 (2 : Int)], [])) (Tr.ret ([AV.str (List.take (Int.toNat (2 : Int) - Int.toNat (0 : Int)) (List.drop (Int.toNat (0 : Int)) (someV s at_ many)) ++ nmD s (IntKind.wrap IntKind.i64 (at_ + (2 : Int))) (at_ + many) (1 : Int)), AV.int IntKind.i64 (0 : Int)], []))) Tr.no)) Tr.no) Tr.no) Tr.no)) (Tr.br (k == (6 : Int)) (Tr.br (bigS s && (decide ((0 : Ty.den (Ty.int IntKind.i64)) ≤ (2 : Int)) && decide ((2 : Int) ≤ (3 : Ty.den (Ty.int IntKind.i64))))) (Tr.br (nmA s at_ (at_ + many) (2 : Int) == (0 : Int)) (Tr.ret ([AV.str [], AV.int IntKind.i64 (2 : Int)], [])) (Tr.br (decide (nmA s at_ (at_ + many) (2 : Int) > at_ + many)) (Tr.ret ([AV.str [], AV.int IntKind.i64 (2 : Int)], [])) (Tr.br (IntKind.wrap IntKind.i64 (at_ + many - nmA s at_ (at_ + many) (2 : Int)) != (20 : Int)) (Tr.ret ([AV.str [], AV.int IntKind.i64 (2 : Int)], [])) (Tr.br (decide ((0 : Int) ≤ at_ + many) && decide (at_ + many ≤ (↑(List.length s) : Int))) (Tr.br (decide ((0 : Int) ≤ nmA s at_ (at_ + many) (2 : Int)) && decide (nmA s at_ (at_ + many) (2 : Int) ≤ at_ + many)) (Tr.br (Nat.ble (List.length (nmD s at_ (at_ + many) (2 : Int)) + List.length (List.take (Int.toNat (at_ + many) - Int.toNat (nmA s at_ (at_ + many) (2 : Int))) (List.drop (Int.toNat (nmA s at_ (at_ + many) (2 : Int))) s))) 9223372036854775807) (Tr.br (at_ + many != at_ + many) (Tr.ret ([AV.str [], AV.int IntKind.i64 (2 : Int)], [])) (Tr.br (bigS (nmD s at_ (at_ + many) (2 : Int) ++ List.take (Int.toNat (at_ + many) - Int.toNat (nmA s at_ (at_ + many) (2 : Int))) (List.drop (Int.toNat (nmA s at_ (at_ + many) (2 : Int))) s))) (Tr.br (!mayR k (nmD s at_ (at_ + many) (2 : Int) ++ List.take (Int.toNat (at_ + many) - Int.toNat (nmA s at_ (at_ + many) (2 : Int))) (List.drop (Int.toNat (nmA s at_ (at_ + many) (2 : Int))) s))) (Tr.ret ([AV.str [], AV.int IntKind.i64 (2 : Int)], [])) (Tr.ret ([AV.str (nmD s at_ (at_ + many) (2 : Int) ++ List.take (Int.toNat (at_ + many) - Int.toNat (nmA s at_ (at_ + many) (2 : Int))) (List.drop (Int.toNat (nmA s at_ (at_ + many) (2 : Int))) s)), AV.int IntKind.i64 (0 : Int)], []))) Tr.no)) Tr.no) Tr.no) Tr.no)))) Tr.no) (Tr.br (at_ + many != at_ + many) (Tr.ret ([AV.str [], AV.int IntKind.i64 (2 : Int)], [])) (Tr.br (bigS (someV s at_ many)) (Tr.br (!mayR k (someV s at_ many)) (Tr.ret ([AV.str [], AV.int IntKind.i64 (2 : Int)], [])) (Tr.ret ([AV.str (someV s at_ many), AV.int IntKind.i64 (0 : Int)], []))) Tr.no))))))) (Tr.ret ([AV.str [], AV.int IntKind.i64 (2 : Int)], []))) Tr.no
def os33 : OSpec := { f := 33, sh := [.d .str false, .d (.int .i64) false, .d (.int .i64) false, .d (.int .u16) false], so := [], F := fun (s, at_, many, k, _) _ => t33 s at_ many k }
set_option maxRecDepth 1000000 in
theorem fn33 (s : List UInt8) (at_ : Int) (many : Int) (k : Int) : evC T0 (orcB [fs59w, fs60w, fs37w] []) (lpOf h33 0 (lsOf [])) c33 1000000 (startSt [.str s, .int .i64 at_, .int .i64 many, .int .u16 k] [] Try.f33.ntmps) (finishK T0 false 0 Try.f33) = (t33 s at_ many k).get := by kernel_rfl
theorem ok33 : os33.Ok Try.prog := by
  refine os_ok mixed0 tab0 (orcB_sound (all_cons okf59w (all_cons okf60w (all_cons okf37w all_nil))) all_nil) h33 (d := 0) (n0 := 0) (S := lsOf []) Try.func33 (by kernel_rfl) (c := c33) (by kernel_rfl) rfl (no_loops (by kernel_rfl)) (by omega) (by kernel_rfl) ?_
  intro x'' y'' q'' hq''
  obtain ⟨(s : List UInt8), (at_ : Int), (many : Int), (k : Int), _⟩ := x''
  exact (fn33 s at_ many k).trans hq''
def fs33 : FSpec := fsT 33 [(.str, false), ((.int .i64), false), ((.int .i64), false), ((.int .u16), false)] [(.str, false), ((.int .i64), false)] fun (s, at_, many, k, _) => t33 s at_ many k
theorem okf33 : fs33.Ok Try.prog := fsT_ok fun x'' r'' hr'' => ok33 x'' () r'' hr''
def fs33w : FSpec := fs33.like fun (s, a, n, k, _) => .on (smS s) ((takeV s a n k).getD [], if (takeV s a n k).isSome then (0 : Int) else 2, ())
theorem take_end {s : List UInt8} {a n k E at' : Int} {d : List UInt8} {ok : Bool} (ht : takeV s a n k = if ok = true ∧ at' = E ∧ mayR k d = true then some d else none) (hb : bigS d = true) (hno : ok = false → at' = E → mayR k d = false) :
    (Tr.br (at' != E) (Tr.ret ([AV.str [], AV.int IntKind.i64 (2 : Int)], [])) (Tr.br (bigS d) (Tr.br (!mayR k d) (Tr.ret ([AV.str [], AV.int IntKind.i64 (2 : Int)], [])) (Tr.ret ([AV.str d, AV.int IntKind.i64 (0 : Int)], []))) Tr.no) : Tr Res).all
      fun x => x = ([.str ((takeV s a n k).getD []), .int .i64 (if (takeV s a n k).isSome then 0 else 2)], []) := by
  rw [ht]
  refine Tr.all_br (fun c => Tr.all_ret ?_) fun c => Tr.all_t hb (Tr.all_br (fun c2 => Tr.all_ret ?_) fun c2 => Tr.all_ret ?_)
  · rw [if_neg (fun h => bne_iff_ne.1 c h.2.1)]
    rfl
  · rw [Bool.not_eq_true'] at c2
    rw [if_neg (fun h => by rw [c2] at h; exact Bool.false_ne_true h.2.2)]
    rfl
  · rw [Bool.not_eq_false'] at c2
    have he : at' = E := by simpa using c
    cases hk : ok with
    | false =>
      rw [hno hk he] at c2
      cases c2
    | true =>
      rw [if_pos ⟨rfl, he, c2⟩]
      rfl
theorem okf33w : fs33w.Ok Try.prog := by
  refine flike_ok okf33 _ ?_
  rintro ⟨(s : List UInt8), (a : Int), (n : Int), (k : Int), _⟩ y h
  obtain ⟨hb, rfl⟩ := Tr.get_on h
  refine convR_of (vs := [.str ((takeV s a n k).getD []), .int .i64 (if (takeV s a n k).isSome then 0 else 2)]) rfl rfl (Tr.get_of_all ?_)
  show (t33 s a n k).all _
  unfold t33
  have hB : s.length ≤ 100000000 := by simpa [smS] using hb
  have hbig : bigS s = true := by simp [bigS]; omega
  refine Tr.all_t hbig ?_
  cases hs : someB s a n with
  | false =>
    have : takeV s a n k = none := by unfold takeV; rw [if_neg (by rw [hs]; exact Bool.false_ne_true)]
    rw [this]
    exact Tr.all_f rfl (Tr.all_ret rfl)
  | true =>
    have hs' := someB_iff.1 hs
    have hT : takeV s a n k = if (takeD (layV k) s a (a + n) []).1 = true ∧ (takeD (layV k) s a (a + n) []).2.1 = a + n ∧ mayR k (takeD (layV k) s a (a + n) []).2.2 = true then some (takeD (layV k) s a (a + n) []).2.2 else none := by unfold takeV; rw [if_pos hs]
    refine Tr.all_t rfl ?_
    have hc1 : (bigS s && (decide ((0 : Int) ≤ 1) && decide ((1 : Int) ≤ 3))) = true := by rw [hbig]; rfl
    have hc2 : (bigS s && (decide ((0 : Int) ≤ 2) && decide ((2 : Int) ≤ 3))) = true := by rw [hbig]; rfl
    have hvl : (someV s a n).length = n.toNat := by unfold someV; rw [List.length_take, List.length_drop]; omega
    have names : (k = 2 ∨ k = 5 ∨ k = 12) → (Tr.br (bigS s && (decide ((0 : Ty.den (Ty.int IntKind.i64)) ≤ (1 : Int)) && decide ((1 : Int) ≤ (3 : Ty.den (Ty.int IntKind.i64))))) (Tr.br (nmA s a (a + n) (1 : Int) != a + n) (Tr.ret ([AV.str [], AV.int IntKind.i64 (2 : Int)], [])) (Tr.br (bigS (nmD s a (a + n) (1 : Int))) (Tr.br (!mayR k (nmD s a (a + n) (1 : Int))) (Tr.ret ([AV.str [], AV.int IntKind.i64 (2 : Int)], [])) (Tr.ret ([AV.str (nmD s a (a + n) (1 : Int)), AV.int IntKind.i64 (0 : Int)], []))) Tr.no)) Tr.no : Tr Res).all
      fun x => x = ([.str ((takeV s a n k).getD []), .int .i64 (if (takeV s a n k).isSome then 0 else 2)], []) := fun hk => by
      have hlay : layV k = [-1] := by rcases hk with rfl | rfl | rfl <;> rfl
      rw [hlay, takeD_name] at hT
      refine Tr.all_t hc1 ?_
      cases hok : (nmsV 1 s a (a + n) []).1 with
      | false =>
        have e1 : nmA s a (a + n) 1 = 0 := by unfold nmA; rw [show (1 : Int).toNat = 1 from rfl, hok]; rfl
        have e2 : nmD s a (a + n) 1 = [] := by unfold nmD; rw [show (1 : Int).toNat = 1 from rfl, hok]; rfl
        rw [e1, e2]
        exact take_end (ok := false) (by rw [hT, hok, if_neg (fun h => Bool.false_ne_true h.1), if_neg (fun h => Bool.false_ne_true h.1)]) rfl fun _ _ => by rw [may_name hk, may_nil]; rfl
      | true =>
        have e1 : nmA s a (a + n) 1 = (nmsV 1 s a (a + n) []).2.1 := by unfold nmA; rw [show (1 : Int).toNat = 1 from rfl, hok]; rfl
        have e2 : nmD s a (a + n) 1 = (nmsV 1 s a (a + n) []).2.2 := by unfold nmD; rw [show (1 : Int).toNat = 1 from rfl, hok]; rfl
        have hp := (nms_place 1 s a (a + n) [] hs'.1 hok).2.2
        rw [e1, e2]
        exact take_end (ok := true) (by rw [hT, hok]) (by simp [bigS] at hp ⊢; omega) fun h => by cases h
    by_cases k2 : k = 2
    · exact Tr.all_t (beq_iff_eq.2 k2) (names (.inl k2))
    refine Tr.all_f (beq_eq_false_iff_ne.2 k2) ?_
    by_cases k5 : k = 5
    · exact Tr.all_t (beq_iff_eq.2 k5) (names (.inr (.inl k5)))
    refine Tr.all_f (beq_eq_false_iff_ne.2 k5) ?_
    by_cases k12 : k = 12
    · exact Tr.all_t (beq_iff_eq.2 k12) (names (.inr (.inr k12)))
    refine Tr.all_f (beq_eq_false_iff_ne.2 k12) ?_
    by_cases k15 : k = 15
    · refine Tr.all_t (beq_iff_eq.2 k15) ?_
      rw [k15, show layV 15 = [2, -1] from rfl] at hT
      have htwo : takeD [2, -1] s a (a + n) [] = if someB s a 2 = true ∧ a + 2 ≤ a + n then takeD [-1] s (a + 2) (a + n) ([] ++ someV s a 2) else (false, a, []) := by
        rw [takeD, if_neg (by omega), show (if (2 : Int) = -2 ∨ (2 : Int) = -3 then a + n - a else 2) = 2 from if_neg (by omega)]
      have hw : IntKind.wrap IntKind.i64 (a + 2) = a + 2 := IntWalk.i64_in _ (by omega)
      rw [hw]
      by_cases h3 : n < 3
      · have hno : takeV s a n 15 = none := by
          rw [hT, htwo]
          by_cases hc : someB s a 2 = true ∧ a + 2 ≤ a + n
          · rw [if_pos hc, takeD_name]
            refine if_neg fun h => ?_
            have := (nms_place 1 s (a + 2) (a + n) ([] ++ someV s a 2) (by omega) h.1).2.1 (by omega)
            omega
          · rw [if_neg hc]
            exact if_neg fun h => Bool.false_ne_true h.1
        rw [k15, hno]
        exact Tr.all_t (dec_true h3) (Tr.all_ret rfl)
      · have hs2 : someB s a 2 = true := someB_iff.2 (by omega)
        have hv2 : List.take (Int.toNat (2 : Int) - Int.toNat (0 : Int)) (List.drop (Int.toNat (0 : Int)) (someV s a n)) = someV s a 2 := by
          show List.take 2 (List.drop 0 (someV s a n)) = someV s a 2
          unfold someV
          rw [List.drop_zero, List.take_take, show min 2 n.toNat = (2 : Int).toNat by omega]
        have hvl2 : (someV s a 2).length = 2 := by unfold someV; rw [List.length_take, List.length_drop]; omega
        rw [if_pos ⟨hs2, by omega⟩, takeD_name, List.nil_append] at htwo
        rw [htwo] at hT
        have hpre := nmsV_pre 1 s (a + 2) (a + n) (someV s a 2) []
        rw [List.append_nil] at hpre
        rw [hpre] at hT
        rw [hv2]
        refine Tr.all_f (dec_false h3) (Tr.all_t hc1 (Tr.all_t (by rw [hvl, dec_true (show (2 : Int) ≤ (n.toNat : Int) by omega)]; rfl) ?_))
        cases hok : (nmsV 1 s (a + 2) (a + n) []).1 with
        | false =>
          have e1 : nmA s (a + 2) (a + n) 1 = 0 := by unfold nmA; rw [show (1 : Int).toNat = 1 from rfl, hok]; rfl
          have e2 : nmD s (a + 2) (a + n) 1 = [] := by unfold nmD; rw [show (1 : Int).toNat = 1 from rfl, hok]; rfl
          rw [e1, e2, List.append_nil]
          refine Tr.all_t (Nat.ble_eq_true_of_le (by rw [hvl2]; simp)) ?_
          rw [k15]
          exact take_end (ok := false) (by rw [hT, hok, if_neg (fun h => Bool.false_ne_true h.1), if_neg (fun h => Bool.false_ne_true h.1)]) (by simp [bigS, hvl2]) fun _ h => by omega
        | true =>
          have e1 : nmA s (a + 2) (a + n) 1 = (nmsV 1 s (a + 2) (a + n) []).2.1 := by unfold nmA; rw [show (1 : Int).toNat = 1 from rfl, hok]; rfl
          have e2 : nmD s (a + 2) (a + n) 1 = (nmsV 1 s (a + 2) (a + n) []).2.2 := by unfold nmD; rw [show (1 : Int).toNat = 1 from rfl, hok]; rfl
          have hp := (nms_place 1 s (a + 2) (a + n) [] (by omega) hok).2.2
          simp only [List.length_nil] at hp
          rw [e1, e2]
          refine Tr.all_t (Nat.ble_eq_true_of_le (by rw [hvl2]; omega)) ?_
          rw [k15]
          exact take_end (ok := true) (by rw [hT, hok]) (by simp [bigS, hvl2]; omega) fun h => by cases h
    refine Tr.all_f (beq_eq_false_iff_ne.2 k15) ?_
    by_cases k6 : k = 6
    · refine Tr.all_t (beq_iff_eq.2 k6) (Tr.all_t hc2 ?_)
      rw [k6, show layV 6 = [-1, -1, 20] from rfl] at hT
      obtain ⟨t1, t2⟩ := takeD_two [20] s a (a + n) []
      cases hok : (nmsV 2 s a (a + n) []).1 with
      | false =>
        have e1 : nmA s a (a + n) 2 = 0 := by unfold nmA; rw [show (2 : Int).toNat = 2 from rfl, hok]; rfl
        have hno : takeV s a n 6 = none := by
          rw [hT]
          exact if_neg fun h => by rw [t2 hok] at h; exact Bool.false_ne_true h.1
        rw [e1, k6, hno]
        exact Tr.all_t rfl (Tr.all_ret rfl)
      | true =>
        have e1 : nmA s a (a + n) 2 = (nmsV 2 s a (a + n) []).2.1 := by unfold nmA; rw [show (2 : Int).toNat = 2 from rfl, hok]; rfl
        have e2 : nmD s a (a + n) 2 = (nmsV 2 s a (a + n) []).2.2 := by unfold nmD; rw [show (2 : Int).toNat = 2 from rfl, hok]; rfl
        obtain ⟨p1, p2, p3⟩ := nms_place 2 s a (a + n) [] hs'.1 hok
        have p2 := p2 (by omega)
        simp only [List.length_nil] at p3
        have hfix := takeD_fix (x := 20) (by omega) s (nmsV 2 s a (a + n) []).2.1 (a + n) (nmsV 2 s a (a + n) []).2.2
        rw [t1 hok] at hT
        rw [e1, e2]
        generalize nmsV 2 s a (a + n) [] = r at hT p1 p2 p3 hfix
        obtain ⟨ok, c, d⟩ := r
        simp only at hT p1 p2 p3 hfix ⊢
        have hw : IntKind.wrap IntKind.i64 (a + n - c) = a + n - c := IntWalk.i64_in _ (by omega)
        rw [hw]
        refine Tr.all_f (beq_eq_false_iff_ne.2 (by omega)) (Tr.all_f (dec_false (by omega)) (Tr.all_br (fun c1 => Tr.all_ret ?_) fun c1 => ?_))
        · have hne := bne_iff_ne.1 c1
          have hno : takeV s a n 6 = none := by
            rw [hT, hfix]
            refine if_neg fun h => ?_
            by_cases hc : someB s c 20 = true ∧ c + 20 ≤ a + n
            · rw [if_pos hc] at h
              have := h.2.1
              simp only at this
              omega
            · rw [if_neg hc] at h
              exact Bool.false_ne_true h.1
          rw [k6, hno]
          rfl
        · have he : a + n - c = 20 := by simpa using c1
          have hs20 : someB s c 20 = true := someB_iff.2 (by omega)
          have hv : List.take (Int.toNat (a + n) - Int.toNat c) (List.drop (Int.toNat c) s) = someV s c 20 := by
            unfold someV
            rw [show Int.toNat (a + n) - Int.toNat c = (20 : Int).toNat by omega]
          have hvl20 : (someV s c 20).length = 20 := by unfold someV; rw [List.length_take, List.length_drop]; omega
          rw [if_pos ⟨hs20, by omega⟩] at hfix
          rw [hfix] at hT
          rw [hv]
          refine Tr.all_t (by rw [dec_true (by omega), dec_true (by omega)]; rfl) (Tr.all_t (by rw [dec_true (by omega), dec_true (by omega)]; rfl) (Tr.all_t (Nat.ble_eq_true_of_le (by omega)) ?_))
          rw [k6]
          refine take_end (ok := true) ?_ (by simp [bigS, hvl20]; omega) fun h => by cases h
          rw [hT]
          simp only [show c + 20 = a + n by omega]
    refine Tr.all_f (beq_eq_false_iff_ne.2 k6) ?_
    have hbv : bigS (someV s a n) = true := by simp [bigS, hvl]; omega
    by_cases kf : k = 1 ∨ k = 28
    · obtain ⟨x, hx0, hx, hm⟩ : ∃ x : Int, 0 ≤ x ∧ layV k = [x] ∧ ∀ d : List UInt8, (d.length : Int) ≠ x → mayR k d = false := by
        rcases kf with rfl | rfl
        · exact ⟨4, by omega, rfl, fun d h => by rw [may_A, dec_false h]; rfl⟩
        · exact ⟨16, by omega, rfl, fun d h => by rw [may_AAAA, dec_false h]; rfl⟩
      have hfix := takeD_fix hx0 s a (a + n) []
      rw [hx] at hT
      by_cases hn : n = x
      · subst hn
        rw [if_pos ⟨hs, by omega⟩, List.nil_append] at hfix
        rw [hfix] at hT
        exact take_end (ok := true) hT hbv fun h => by cases h
      · have hmf := hm (someV s a n) (by rw [hvl]; omega)
        refine take_end (ok := false) ?_ hbv fun _ _ => hmf
        rw [hT, hfix, if_neg (c := false = true ∧ _) (fun h => Bool.false_ne_true h.1)]
        refine if_neg fun h => ?_
        by_cases hc : someB s a x = true ∧ a + x ≤ a + n
        · rw [if_pos hc] at h
          have := h.2.1
          simp only at this
          omega
        · rw [if_neg hc] at h
          exact Bool.false_ne_true h.1
    · have hrest : ∃ x, layV k = [x] ∧ (x = -2 ∨ x = -3) := by
        by_cases k16 : k = 16
        · exact ⟨-2, by rw [k16]; rfl, .inl rfl⟩
        · refine ⟨-3, ?_, .inr rfl⟩
          simp [layV, k2, k5, k12, k15, k6, k16, show ¬ k = 1 by omega, show ¬ k = 28 by omega]
      obtain ⟨x, hx, hx'⟩ := hrest
      rw [hx, takeD_rest hx' s a n hs] at hT
      exact take_end (ok := true) hT hbv fun h => by cases h
/-- derrickref04.Target -/
def t35 (k : Int) (d : List UInt8) : Tr Res := Tr.br (bigS d) (Tr.br (!mayR k d) (Tr.ret ([AV.str [], AV.bool false], [])) (Tr.br (k == (2 : Int)) (Tr.ret ([AV.str d, AV.bool true], [])) (Tr.br (k == (5 : Int)) (Tr.ret ([AV.str d, AV.bool true], [])) (Tr.br (k == (12 : Int)) (Tr.ret ([AV.str d, AV.bool true], [])) (Tr.br (k == (15 : Int)) (Tr.br (decide ((0 : Int) ≤ (↑(List.length d) : Int)) && decide ((↑(List.length d) : Int) ≤ (↑(List.length d) : Int))) (Tr.br (decide ((0 : Int) ≤ (2 : Int)) && decide ((2 : Int) ≤ (↑(List.length d) : Int))) (Tr.ret ([AV.str (List.take (Int.toNat (↑(List.length d) : Int) - Int.toNat (2 : Int)) (List.drop (Int.toNat (2 : Int)) d)), AV.bool true], [])) Tr.no) Tr.no) (Tr.ret ([AV.str [], AV.bool false], []))))))) Tr.no
def os35 : OSpec := { f := 35, sh := [.d (.int .u16) false, .d .str false], so := [], F := fun (k, d, _) _ => t35 k d }
set_option maxRecDepth 1000000 in
theorem fn35 (k : Int) (d : List UInt8) : evC T0 (orcB [fs37w] []) (lpOf h35 0 (lsOf [])) c35 1000000 (startSt [.int .u16 k, .str d] [] Try.f35.ntmps) (finishK T0 false 0 Try.f35) = (t35 k d).get := by kernel_rfl
theorem ok35 : os35.Ok Try.prog := by
  refine os_ok mixed0 tab0 (orcB_sound (all_cons okf37w all_nil) all_nil) h35 (d := 0) (n0 := 0) (S := lsOf []) Try.func35 (by kernel_rfl) (c := c35) (by kernel_rfl) rfl (no_loops (by kernel_rfl)) (by omega) (by kernel_rfl) ?_
  intro x'' y'' q'' hq''
  obtain ⟨(k : Int), (d : List UInt8), _⟩ := x''
  exact (fn35 k d).trans hq''
def fs35 : FSpec := fsT 35 [((.int .u16), false), (.str, false)] [(.str, false), (.bool, false)] fun (k, d, _) => t35 k d
theorem okf35 : fs35.Ok Try.prog := fsT_ok fun x'' r'' hr'' => ok35 x'' () r'' hr''
def fs35w : FSpec := fs35.like fun (k, d, _) => .on (bigS d) ((targV k d).getD [], (targV k d).isSome, ())
theorem okf35w : fs35w.Ok Try.prog := by
  refine flike_ok okf35 _ ?_
  rintro ⟨(k : Int), (d : List UInt8), _⟩ y h
  obtain ⟨hb, rfl⟩ := Tr.get_on h
  refine convR_of (vs := [.str ((targV k d).getD []), .bool (targV k d).isSome]) rfl rfl (Tr.get_of_all ?_)
  show (t35 k d).all _
  unfold t35 targV
  refine Tr.all_t hb ?_
  cases hm : mayR k d with
  | false =>
    rw [if_neg Bool.false_ne_true]
    exact Tr.all_t rfl (Tr.all_ret rfl)
  | true =>
    rw [if_pos rfl]
    refine Tr.all_f rfl ?_
    by_cases k2 : k = 2
    · rw [if_pos (.inl k2)]
      exact Tr.all_t (beq_iff_eq.2 k2) (Tr.all_ret rfl)
    by_cases k5 : k = 5
    · rw [if_pos (.inr (.inl k5))]
      exact Tr.all_f (beq_eq_false_iff_ne.2 k2) (Tr.all_t (beq_iff_eq.2 k5) (Tr.all_ret rfl))
    by_cases k12 : k = 12
    · rw [if_pos (.inr (.inr k12))]
      exact Tr.all_f (beq_eq_false_iff_ne.2 k2) (Tr.all_f (beq_eq_false_iff_ne.2 k5) (Tr.all_t (beq_iff_eq.2 k12) (Tr.all_ret rfl)))
    rw [if_neg (by omega)]
    refine Tr.all_f (beq_eq_false_iff_ne.2 k2) (Tr.all_f (beq_eq_false_iff_ne.2 k5) (Tr.all_f (beq_eq_false_iff_ne.2 k12) ?_))
    by_cases k15 : k = 15
    · rw [if_pos k15]
      subst k15
      rw [may_MX, Bool.and_eq_true, Bool.and_eq_true, decide_eq_true_eq] at hm
      have h2 := hm.1.1
      have e : List.take (Int.toNat (↑(List.length d) : Int) - Int.toNat (2 : Int)) (List.drop (Int.toNat (2 : Int)) d) = d.drop 2 := List.take_of_length_le (by simp)
      rw [e]
      exact Tr.all_t rfl (Tr.all_t (by rw [dec_true (by omega), dec_true (by omega)]; rfl) (Tr.all_t (by rw [dec_true h2]; rfl) (Tr.all_ret rfl)))
    · rw [if_neg k15]
      exact Tr.all_f (beq_eq_false_iff_ne.2 k15) (Tr.all_ret rfl)
def fs34w : FSpec := fs34.like fun (k, d, _) => .on (bigS d) ((targV k d).getD [], (targV k d).isSome, ())
theorem okf34w : fs34w.Ok Try.prog := by
  refine flike_ok okf34 _ ?_
  rintro ⟨(k : Int), (d : List UInt8), _⟩ y h
  obtain ⟨hb, rfl⟩ := Tr.get_on h
  refine convR_of (vs := [.str ((targV k d).getD []), .bool (targV k d).isSome]) rfl rfl (Tr.get_of_all ?_)
  show (t34 k d).all _
  unfold t34 targV
  refine Tr.all_t hb ?_
  cases hm : mayR k d with
  | false =>
    rw [if_neg Bool.false_ne_true]
    exact Tr.all_br (fun _ => Tr.all_ret rfl) fun _ => Tr.all_t hb (Tr.all_t rfl (Tr.all_ret rfl))
  | true =>
    obtain ⟨p1, p2, _⟩ := may_parts hm
    rw [if_pos rfl, p1, p2, cond_true]
    refine Tr.all_f rfl (Tr.all_t hb (Tr.all_f rfl ?_))
    by_cases k2 : k = 2
    · rw [if_pos (.inl k2), parts_name (.inl k2) hm]
      exact Tr.all_t (beq_iff_eq.2 k2) (Tr.all_t rfl (Tr.all_ret rfl))
    by_cases k5 : k = 5
    · rw [if_pos (.inr (.inl k5)), parts_name (.inr (.inl k5)) hm]
      exact Tr.all_f (beq_eq_false_iff_ne.2 k2) (Tr.all_t (beq_iff_eq.2 k5) (Tr.all_t rfl (Tr.all_ret rfl)))
    by_cases k12 : k = 12
    · rw [if_pos (.inr (.inr k12)), parts_name (.inr (.inr k12)) hm]
      exact Tr.all_f (beq_eq_false_iff_ne.2 k2) (Tr.all_f (beq_eq_false_iff_ne.2 k5) (Tr.all_t (beq_iff_eq.2 k12) (Tr.all_t rfl (Tr.all_ret rfl))))
    rw [if_neg (by omega)]
    refine Tr.all_f (beq_eq_false_iff_ne.2 k2) (Tr.all_f (beq_eq_false_iff_ne.2 k5) (Tr.all_f (beq_eq_false_iff_ne.2 k12) ?_))
    by_cases k15 : k = 15
    · rw [if_pos k15]
      subst k15
      rw [parts_MX hm]
      exact Tr.all_t rfl (Tr.all_t rfl (Tr.all_ret rfl))
    · rw [if_neg k15]
      exact Tr.all_f (beq_eq_false_iff_ne.2 k15) (Tr.all_ret rfl)
/-- derricklaw04.shown -/
def t15 : Tr Res := Tr.ret ([AV.bool !mayR (1 : Int) ([0, 10, 2, 97, 98, 0])], [])
def os15 : OSpec := { f := 15, sh := [], so := [], F := fun _ _ => t15 }
set_option maxRecDepth 1000000 in
theorem fn15 : evC T0 (orcB [fs36w, fs34w] [os16, os17w, os19]) (lpOf h15 0 (lsOf [])) c15 1000000 (startSt [] [] Try.f15.ntmps) (finishK T0 false 0 Try.f15) = (t15).get := by kernel_rfl
theorem ok15 : os15.Ok Try.prog := by
  refine os_ok mixed0 tab0 (orcB_sound (all_cons okf36w (all_cons okf34w all_nil)) (all_cons ok16 (all_cons ok17w (all_cons ok19 all_nil)))) h15 (d := 0) (n0 := 0) (S := lsOf []) Try.func15 (by kernel_rfl) (c := c15) (by kernel_rfl) rfl (no_loops (by kernel_rfl)) (by omega) (by kernel_rfl) ?_
  intro x'' y'' q'' hq''
  exact (fn15).trans hq''
def fs15 : FSpec := fsT 15 [] [(.bool, false)] fun _ => t15
theorem okf15 : fs15.Ok Try.prog := fsT_ok fun x'' r'' hr'' => ok15 x'' () r'' hr''
end Go.Proofs.YtfepkpindchleaaE

/- WireShort: the law. -/
namespace Go.Proofs.YtfepkpindchleaaE
open Go Go.Proofs.YtfepkpindchleaaB
set_option linter.unusedVariables false
set_option linter.unusedSimpArgs false
theorem wireShort_all (l : Parts) (n : List UInt8) (hb : bigS n = true) : (t9 l n).all fun x => x = ([.bool true], []) := by
  unfold t9
  cases hf : fewB l with
  | false => exact Tr.all_t rfl (Tr.all_ret rfl)
  | true =>
    obtain ⟨hl, hx⟩ := fewB_iff.1 hf
    refine Tr.all_f rfl (Tr.all_t hb ?_)
    cases hm : mayV n with
    | false => exact Tr.all_t rfl (Tr.all_ret rfl)
    | true =>
      have hg : GoodP l.length (l.foldl stN ([], [])) := by
        have := fold_good (st := stN) (fun k p x h hx => (stN_good h hx).1) l 0 ([], []) good_nil hx
        rwa [Nat.zero_add] at this
      generalize l.foldl stN ([], []) = p at hg
      have hn := (may_iff.1 hm).2.1
      have g1 : GoodP (l.length + 1) (nameP n p.1 p.2) := by
        have := (stN_good (x := (n, false)) hg (by show n.length ≤ 400; omega)).1
        unfold stN at this
        rw [show mayV (n, false).1 = true from hm, cond_true] at this
        exact this
      have g2 : GoodP (l.length + 2) (nameP n (nameP n p.1 p.2).1 (nameP n p.1 p.2).2) := by
        have := (stN_good (x := (n, false)) g1 (by show n.length ≤ 400; omega)).1
        unfold stN at this
        rw [show mayV (n, false).1 = true from hm, cond_true] at this
        exact this
      have hp := hg.2
      have hp1 := g1.2
      have ht := nameP_twice (n := n) (S := p.1) (L := p.2) hm (by omega)
      have hw1 := IntWalk.i64_in (((nameP n p.1 p.2).1.length : Int) + 1) (by omega)
      have hw2 := IntWalk.i64_in (((nameP n p.1 p.2).1.length : Int) + 2) (by omega)
      have hbl : Nat.ble n.length 100000000000 = true := Nat.ble_eq_true_of_le (by omega)
      by_cases h0 : n = [0]
      · rw [if_pos h0] at ht
        have hz : (n == [0]) = true := beq_iff_eq.2 h0
        simp [hm, hf, p0C, intB_bytes, pkC_good hg (by omega), pkC_good g1 (by omega), hbl, allT, allF, allR, bytesInt_len, hw1, ht, hz]
      · rw [if_neg h0] at ht
        have hz : (n == [0]) = false := beq_eq_false_iff_ne.2 h0
        simp [hm, hf, p0C, intB_bytes, pkC_good hg (by omega), pkC_good g1 (by omega), hbl, allT, allF, allR, bytesInt_len, hw2, ht, hz]
theorem bulk_big {n : List UInt8} (h : bulkT .str n ≤ 1048576) : bigS n = true := by
  have : List.length n + 1 ≤ 1048576 := h
  simp [bigS]
  omega
theorem sem9 (l : Parts) (n : List UInt8) (hbk : bulkT .str n ≤ 1048576) : SemF Try.prog 9 [.list (.pair .str .bool) l, .str n] [] [.bool true] [] :=
  ok9 (l, n, ()) () ([.bool true], []) (Tr.get_of_all (wireShort_all l n (bulk_big hbk)))
end Go.Proofs.YtfepkpindchleaaE

/- RdataTells, RdataVery, RdataOther. -/
namespace Go.Proofs.YtfepkpindchleaaE
open Go Go.Proofs.YtfepkpindchleaaB
set_option linter.unusedVariables false
set_option linter.unusedSimpArgs false
def fs15w : FSpec := fs15.like fun _ => .ret (true, ())
theorem okf15w : fs15w.Ok Try.prog := by
  refine flike_ok okf15 _ ?_
  rintro _ y h
  cases h
  refine convR_of (vs := [.bool true]) rfl rfl (Tr.get_of_all ?_)
  show t15.all _
  unfold t15
  rw [may_A]
  exact Tr.all_ret rfl
/-- derricklaw04.RdataTells -/
def t11 (k : Int) (d : List UInt8) (s : List UInt8) (at_ : Int) (many : Int) : Tr Res := Tr.br (decide ((↑(List.length d) : Int) > (1000 : Int))) (Tr.ret ([AV.bool true], [])) (Tr.br (decide ((↑(List.length s) : Int) > (1000 : Int))) (Tr.ret ([AV.bool true], [])) (Tr.br (smS s) (Tr.br (smS s) (Tr.br (bigS d) (Tr.br (bigS d) (Tr.br (bigS d) (Tr.br (bigS d) (Tr.br (mayR k d == mayR k d) (Tr.br (Option.getD (takeV s at_ many k) [] == Option.getD (takeV s at_ many k) []) (Tr.br ((if Option.isSome (takeV s at_ many k) = true then (0 : Int) else (2 : Ty.den (Ty.int IntKind.i64))) == if Option.isSome (takeV s at_ many k) = true then (0 : Int) else (2 : Ty.den (Ty.int IntKind.i64))) (Tr.br (Option.getD (targV k d) [] == Option.getD (targV k d) []) (Tr.ret ([AV.bool (Option.isSome (targV k d) == Option.isSome (targV k d))], [])) (Tr.ret ([AV.bool false], []))) (Tr.ret ([AV.bool false], []))) (Tr.ret ([AV.bool false], []))) (Tr.ret ([AV.bool false], []))) Tr.no) Tr.no) Tr.no) Tr.no) Tr.no) Tr.no))
def os11 : OSpec := { f := 11, sh := [.d (.int .u16) false, .d .str false, .d .str false, .d (.int .i64) false, .d (.int .i64) false], so := [], F := fun (k, d, s, at_, many, _) _ => t11 k d s at_ many }
set_option maxRecDepth 1000000 in
theorem fn11 (k : Int) (d : List UInt8) (s : List UInt8) (at_ : Int) (many : Int) : evC T0 (orcB [fs15w, fs36w, fs34w, fs32w, fs37w, fs33w, fs35w, fs29w] [os16, os17w, os19]) (lpOf h11 0 (lsOf [])) c11 1000000 (startSt [.int .u16 k, .str d, .str s, .int .i64 at_, .int .i64 many] [] Try.f11.ntmps) (finishK T0 false 0 Try.f11) = (t11 k d s at_ many).get := by kernel_rfl
theorem ok11 : os11.Ok Try.prog := by
  refine os_ok mixed0 tab0 (orcB_sound (all_cons okf15w (all_cons okf36w (all_cons okf34w (all_cons okf32w (all_cons okf37w (all_cons okf33w (all_cons okf35w (all_cons okf29w all_nil)))))))) (all_cons ok16 (all_cons ok17w (all_cons ok19 all_nil)))) h11 (d := 0) (n0 := 0) (S := lsOf []) Try.func11 (by kernel_rfl) (c := c11) (by kernel_rfl) rfl (no_loops (by kernel_rfl)) (by omega) (by kernel_rfl) ?_
  intro x'' y'' q'' hq''
  obtain ⟨(k : Int), (d : List UInt8), (s : List UInt8), (at_ : Int), (many : Int), _⟩ := x''
  exact (fn11 k d s at_ many).trans hq''
def fs11 : FSpec := fsT 11 [((.int .u16), false), (.str, false), (.str, false), ((.int .i64), false), ((.int .i64), false)] [(.bool, false)] fun (k, d, s, at_, many, _) => t11 k d s at_ many
theorem okf11 : fs11.Ok Try.prog := fsT_ok fun x'' r'' hr'' => ok11 x'' () r'' hr''
theorem rdataTells_all (k : Int) (d s : List UInt8) (at_ many : Int) : (t11 k d s at_ many).all fun x => x = ([.bool true], []) := by
  unfold t11
  by_cases h1 : (d.length : Int) > 1000
  · exact Tr.all_t (dec_true h1) (Tr.all_ret rfl)
  by_cases h2 : (s.length : Int) > 1000
  · exact Tr.all_f (dec_false h1) (Tr.all_t (dec_true h2) (Tr.all_ret rfl))
  have hb : bigS d = true := by simp [bigS]; omega
  have hs : smS s = true := by simp [smS]; omega
  simp [decide_eq_false h1, decide_eq_false h2, hb, hs, allT, allF, allR]
theorem sem11 (k : Int) (d s : List UInt8) (at_ many : Int) : SemF Try.prog 11 [.int .u16 k, .str d, .str s, .int .i64 at_, .int .i64 many] [] [.bool true] [] :=
  ok11 (k, d, s, at_, many, ()) () ([.bool true], []) (Tr.get_of_all (rdataTells_all k d s at_ many))
/-- derricklaw04.RdataVery -/
def t12 (s : List UInt8) (at_ : Int) (many : Int) (k : Int) : Tr Res := Tr.br (decide ((↑(List.length s) : Int) > (1000 : Int))) (Tr.ret ([AV.bool true], [])) (Tr.br (smS s) (Tr.br ((if Option.isSome (takeV s (IntKind.wrap IntKind.i64 at_) (IntKind.wrap IntKind.i64 many) k) = true then (0 : Int) else (2 : Ty.den (Ty.int IntKind.i64))) != (0 : Int)) (Tr.br ((if Option.isSome (takeV s (IntKind.wrap IntKind.i64 at_) (IntKind.wrap IntKind.i64 many) k) = true then (0 : Int) else (2 : Ty.den (Ty.int IntKind.i64))) == (2 : Int)) (Tr.ret ([AV.bool (Option.getD (takeV s (IntKind.wrap IntKind.i64 at_) (IntKind.wrap IntKind.i64 many) k) [] == [])], [])) (Tr.ret ([AV.bool false], []))) (Tr.br (smS s) (Tr.br (smS s) (Tr.br (bigS (Option.getD (takeV s (IntKind.wrap IntKind.i64 at_) (IntKind.wrap IntKind.i64 many) k) [])) (Tr.br (k == (1 : Int)) (Tr.br (bigS (Option.getD (takeV s (IntKind.wrap IntKind.i64 at_) (IntKind.wrap IntKind.i64 many) k) [])) (Tr.br (mayR k (Option.getD (takeV s (IntKind.wrap IntKind.i64 at_) (IntKind.wrap IntKind.i64 many) k) [])) (Tr.br ((if Option.isSome (takeV s (IntKind.wrap IntKind.i64 at_) (IntKind.wrap IntKind.i64 (IntKind.wrap IntKind.i64 many + (1 : Int))) k) = true then (0 : Int) else (2 : Ty.den (Ty.int IntKind.i64))) == (2 : Int)) (Tr.br ((if Option.isSome (takeV s (IntKind.wrap IntKind.i64 at_) (IntKind.wrap IntKind.i64 (IntKind.wrap IntKind.i64 many - (1 : Int))) k) = true then (0 : Int) else (2 : Ty.den (Ty.int IntKind.i64))) == (2 : Int)) (Tr.br (!Option.isSome (targV k (Option.getD (takeV s (IntKind.wrap IntKind.i64 at_) (IntKind.wrap IntKind.i64 many) k) []))) (Tr.ret ([AV.bool true], [])) (Tr.br (bigS (Option.getD (targV k (Option.getD (takeV s (IntKind.wrap IntKind.i64 at_) (IntKind.wrap IntKind.i64 many) k) [])) [])) (Tr.br (mayV (Option.getD (targV k (Option.getD (takeV s (IntKind.wrap IntKind.i64 at_) (IntKind.wrap IntKind.i64 many) k) [])) [])) (Tr.ret ([AV.bool (decide ((↑(List.length (Option.getD (targV k (Option.getD (takeV s (IntKind.wrap IntKind.i64 at_) (IntKind.wrap IntKind.i64 many) k) [])) [])) : Int) ≤ (↑(List.length (Option.getD (takeV s (IntKind.wrap IntKind.i64 at_) (IntKind.wrap IntKind.i64 many) k) [])) : Int)))], [])) (Tr.ret ([AV.bool false], []))) Tr.no)) (Tr.ret ([AV.bool false], []))) (Tr.ret ([AV.bool false], []))) (Tr.ret ([AV.bool false], []))) Tr.no) (Tr.br (k == (28 : Int)) (Tr.br (bigS (Option.getD (takeV s (IntKind.wrap IntKind.i64 at_) (IntKind.wrap IntKind.i64 many) k) [])) (Tr.br (mayR k (Option.getD (takeV s (IntKind.wrap IntKind.i64 at_) (IntKind.wrap IntKind.i64 many) k) [])) (Tr.br ((if Option.isSome (takeV s (IntKind.wrap IntKind.i64 at_) (IntKind.wrap IntKind.i64 (IntKind.wrap IntKind.i64 many + (1 : Int))) k) = true then (0 : Int) else (2 : Ty.den (Ty.int IntKind.i64))) == (2 : Int)) (Tr.br ((if Option.isSome (takeV s (IntKind.wrap IntKind.i64 at_) (IntKind.wrap IntKind.i64 (IntKind.wrap IntKind.i64 many - (1 : Int))) k) = true then (0 : Int) else (2 : Ty.den (Ty.int IntKind.i64))) == (2 : Int)) (Tr.br (!Option.isSome (targV k (Option.getD (takeV s (IntKind.wrap IntKind.i64 at_) (IntKind.wrap IntKind.i64 many) k) []))) (Tr.ret ([AV.bool true], [])) (Tr.br (bigS (Option.getD (targV k (Option.getD (takeV s (IntKind.wrap IntKind.i64 at_) (IntKind.wrap IntKind.i64 many) k) [])) [])) (Tr.br (mayV (Option.getD (targV k (Option.getD (takeV s (IntKind.wrap IntKind.i64 at_) (IntKind.wrap IntKind.i64 many) k) [])) [])) (Tr.ret ([AV.bool (decide ((↑(List.length (Option.getD (targV k (Option.getD (takeV s (IntKind.wrap IntKind.i64 at_) (IntKind.wrap IntKind.i64 many) k) [])) [])) : Int) ≤ (↑(List.length (Option.getD (takeV s (IntKind.wrap IntKind.i64 at_) (IntKind.wrap IntKind.i64 many) k) [])) : Int)))], [])) (Tr.ret ([AV.bool false], []))) Tr.no)) (Tr.ret ([AV.bool false], []))) (Tr.ret ([AV.bool false], []))) (Tr.ret ([AV.bool false], []))) Tr.no) (Tr.br (k == (2 : Int)) (Tr.br (bigS (Option.getD (takeV s (IntKind.wrap IntKind.i64 at_) (IntKind.wrap IntKind.i64 many) k) [])) (Tr.br (mayR k (Option.getD (takeV s (IntKind.wrap IntKind.i64 at_) (IntKind.wrap IntKind.i64 many) k) [])) (Tr.br ((if Option.isSome (takeV s (IntKind.wrap IntKind.i64 at_) (IntKind.wrap IntKind.i64 (IntKind.wrap IntKind.i64 many + (1 : Int))) k) = true then (0 : Int) else (2 : Ty.den (Ty.int IntKind.i64))) == (2 : Int)) (Tr.br ((if Option.isSome (takeV s (IntKind.wrap IntKind.i64 at_) (IntKind.wrap IntKind.i64 (IntKind.wrap IntKind.i64 many - (1 : Int))) k) = true then (0 : Int) else (2 : Ty.den (Ty.int IntKind.i64))) == (2 : Int)) (Tr.br (!Option.isSome (targV k (Option.getD (takeV s (IntKind.wrap IntKind.i64 at_) (IntKind.wrap IntKind.i64 many) k) []))) (Tr.ret ([AV.bool true], [])) (Tr.br (bigS (Option.getD (targV k (Option.getD (takeV s (IntKind.wrap IntKind.i64 at_) (IntKind.wrap IntKind.i64 many) k) [])) [])) (Tr.br (mayV (Option.getD (targV k (Option.getD (takeV s (IntKind.wrap IntKind.i64 at_) (IntKind.wrap IntKind.i64 many) k) [])) [])) (Tr.ret ([AV.bool (decide ((↑(List.length (Option.getD (targV k (Option.getD (takeV s (IntKind.wrap IntKind.i64 at_) (IntKind.wrap IntKind.i64 many) k) [])) [])) : Int) ≤ (↑(List.length (Option.getD (takeV s (IntKind.wrap IntKind.i64 at_) (IntKind.wrap IntKind.i64 many) k) [])) : Int)))], [])) (Tr.ret ([AV.bool false], []))) Tr.no)) (Tr.ret ([AV.bool false], []))) (Tr.ret ([AV.bool false], []))) (Tr.ret ([AV.bool false], []))) Tr.no) (Tr.br (k == (5 : Int)) (Tr.br (bigS (Option.getD (takeV s (IntKind.wrap IntKind.i64 at_) (IntKind.wrap IntKind.i64 many) k) [])) (Tr.br (mayR k (Option.getD (takeV s (IntKind.wrap IntKind.i64 at_) (IntKind.wrap IntKind.i64 many) k) [])) (Tr.br ((if Option.isSome (takeV s (IntKind.wrap IntKind.i64 at_) (IntKind.wrap IntKind.i64 (IntKind.wrap IntKind.i64 many + (1 : Int))) k) = true then (0 : Int) else (2 : Ty.den (Ty.int IntKind.i64))) == (2 : Int)) (Tr.br ((if Option.isSome (takeV s (IntKind.wrap IntKind.i64 at_) (IntKind.wrap IntKind.i64 (IntKind.wrap IntKind.i64 many - (1 : Int))) k) = true then (0 : Int) else (2 : Ty.den (Ty.int IntKind.i64))) == (2 : Int)) (Tr.br (!Option.isSome (targV k (Option.getD (takeV s (IntKind.wrap IntKind.i64 at_) (IntKind.wrap IntKind.i64 many) k) []))) (Tr.ret ([AV.bool true], [])) (Tr.br (bigS (Option.getD (targV k (Option.getD (takeV s (IntKind.wrap IntKind.i64 at_) (IntKind.wrap IntKind.i64 many) k) [])) [])) (Tr.br (mayV (Option.getD (targV k (Option.getD (takeV s (IntKind.wrap IntKind.i64 at_) (IntKind.wrap IntKind.i64 many) k) [])) [])) (Tr.ret ([AV.bool (decide ((↑(List.length (Option.getD (targV k (Option.getD (takeV s (IntKind.wrap IntKind.i64 at_) (IntKind.wrap IntKind.i64 many) k) [])) [])) : Int) ≤ (↑(List.length (Option.getD (takeV s (IntKind.wrap IntKind.i64 at_) (IntKind.wrap IntKind.i64 many) k) [])) : Int)))], [])) (Tr.ret ([AV.bool false], []))) Tr.no)) (Tr.ret ([AV.bool false], []))) (Tr.ret ([AV.bool false], []))) (Tr.ret ([AV.bool false], []))) Tr.no) (Tr.br (k == (12 : Int)) (Tr.br (bigS (Option.getD (takeV s (IntKind.wrap IntKind.i64 at_) (IntKind.wrap IntKind.i64 many) k) [])) (Tr.br (mayR k (Option.getD (takeV s (IntKind.wrap IntKind.i64 at_) (IntKind.wrap IntKind.i64 many) k) [])) (Tr.br ((if Option.isSome (takeV s (IntKind.wrap IntKind.i64 at_) (IntKind.wrap IntKind.i64 (IntKind.wrap IntKind.i64 many + (1 : Int))) k) = true then (0 : Int) else (2 : Ty.den (Ty.int IntKind.i64))) == (2 : Int)) (Tr.br ((if Option.isSome (takeV s (IntKind.wrap IntKind.i64 at_) (IntKind.wrap IntKind.i64 (IntKind.wrap IntKind.i64 many - (1 : Int))) k) = true then (0 : Int) else (2 : Ty.den (Ty.int IntKind.i64))) == (2 : Int)) (Tr.br (!Option.isSome (targV k (Option.getD (takeV s (IntKind.wrap IntKind.i64 at_) (IntKind.wrap IntKind.i64 many) k) []))) (Tr.ret ([AV.bool true], [])) (Tr.br (bigS (Option.getD (targV k (Option.getD (takeV s (IntKind.wrap IntKind.i64 at_) (IntKind.wrap IntKind.i64 many) k) [])) [])) (Tr.br (mayV (Option.getD (targV k (Option.getD (takeV s (IntKind.wrap IntKind.i64 at_) (IntKind.wrap IntKind.i64 many) k) [])) [])) (Tr.ret ([AV.bool (decide ((↑(List.length (Option.getD (targV k (Option.getD (takeV s (IntKind.wrap IntKind.i64 at_) (IntKind.wrap IntKind.i64 many) k) [])) [])) : Int) ≤ (↑(List.length (Option.getD (takeV s (IntKind.wrap IntKind.i64 at_) (IntKind.wrap IntKind.i64 many) k) [])) : Int)))], [])) (Tr.ret ([AV.bool false], []))) Tr.no)) (Tr.ret ([AV.bool false], []))) (Tr.ret ([AV.bool false], []))) (Tr.ret ([AV.bool false], []))) Tr.no) (Tr.br (k == (15 : Int)) (Tr.br (bigS (Option.getD (takeV s (IntKind.wrap IntKind.i64 at_) (IntKind.wrap IntKind.i64 many) k) [])) (Tr.br (mayR k (Option.getD (takeV s (IntKind.wrap IntKind.i64 at_) (IntKind.wrap IntKind.i64 many) k) [])) (Tr.br ((if Option.isSome (takeV s (IntKind.wrap IntKind.i64 at_) (IntKind.wrap IntKind.i64 (IntKind.wrap IntKind.i64 many + (1 : Int))) k) = true then (0 : Int) else (2 : Ty.den (Ty.int IntKind.i64))) == (2 : Int)) (Tr.br ((if Option.isSome (takeV s (IntKind.wrap IntKind.i64 at_) (IntKind.wrap IntKind.i64 (IntKind.wrap IntKind.i64 many - (1 : Int))) k) = true then (0 : Int) else (2 : Ty.den (Ty.int IntKind.i64))) == (2 : Int)) (Tr.br (!Option.isSome (targV k (Option.getD (takeV s (IntKind.wrap IntKind.i64 at_) (IntKind.wrap IntKind.i64 many) k) []))) (Tr.ret ([AV.bool true], [])) (Tr.br (bigS (Option.getD (targV k (Option.getD (takeV s (IntKind.wrap IntKind.i64 at_) (IntKind.wrap IntKind.i64 many) k) [])) [])) (Tr.br (mayV (Option.getD (targV k (Option.getD (takeV s (IntKind.wrap IntKind.i64 at_) (IntKind.wrap IntKind.i64 many) k) [])) [])) (Tr.ret ([AV.bool (decide ((↑(List.length (Option.getD (targV k (Option.getD (takeV s (IntKind.wrap IntKind.i64 at_) (IntKind.wrap IntKind.i64 many) k) [])) [])) : Int) ≤ (↑(List.length (Option.getD (takeV s (IntKind.wrap IntKind.i64 at_) (IntKind.wrap IntKind.i64 many) k) [])) : Int)))], [])) (Tr.ret ([AV.bool false], []))) Tr.no)) (Tr.ret ([AV.bool false], []))) (Tr.ret ([AV.bool false], []))) (Tr.ret ([AV.bool false], []))) Tr.no) (Tr.br (bigS (Option.getD (takeV s (IntKind.wrap IntKind.i64 at_) (IntKind.wrap IntKind.i64 many) k) [])) (Tr.br (mayR k (Option.getD (takeV s (IntKind.wrap IntKind.i64 at_) (IntKind.wrap IntKind.i64 many) k) [])) (Tr.br (!k == (6 : Int)) (Tr.br (!Option.isSome (targV k (Option.getD (takeV s (IntKind.wrap IntKind.i64 at_) (IntKind.wrap IntKind.i64 many) k) []))) (Tr.ret ([AV.bool true], [])) (Tr.br (bigS (Option.getD (targV k (Option.getD (takeV s (IntKind.wrap IntKind.i64 at_) (IntKind.wrap IntKind.i64 many) k) [])) [])) (Tr.br (mayV (Option.getD (targV k (Option.getD (takeV s (IntKind.wrap IntKind.i64 at_) (IntKind.wrap IntKind.i64 many) k) [])) [])) (Tr.ret ([AV.bool (decide ((↑(List.length (Option.getD (targV k (Option.getD (takeV s (IntKind.wrap IntKind.i64 at_) (IntKind.wrap IntKind.i64 many) k) [])) [])) : Int) ≤ (↑(List.length (Option.getD (takeV s (IntKind.wrap IntKind.i64 at_) (IntKind.wrap IntKind.i64 many) k) [])) : Int)))], [])) (Tr.ret ([AV.bool false], []))) Tr.no)) (Tr.br ((if Option.isSome (takeV s (IntKind.wrap IntKind.i64 at_) (IntKind.wrap IntKind.i64 (IntKind.wrap IntKind.i64 many + (1 : Int))) k) = true then (0 : Int) else (2 : Ty.den (Ty.int IntKind.i64))) == (2 : Int)) (Tr.br ((if Option.isSome (takeV s (IntKind.wrap IntKind.i64 at_) (IntKind.wrap IntKind.i64 (IntKind.wrap IntKind.i64 many - (1 : Int))) k) = true then (0 : Int) else (2 : Ty.den (Ty.int IntKind.i64))) == (2 : Int)) (Tr.br (!Option.isSome (targV k (Option.getD (takeV s (IntKind.wrap IntKind.i64 at_) (IntKind.wrap IntKind.i64 many) k) []))) (Tr.ret ([AV.bool true], [])) (Tr.br (bigS (Option.getD (targV k (Option.getD (takeV s (IntKind.wrap IntKind.i64 at_) (IntKind.wrap IntKind.i64 many) k) [])) [])) (Tr.br (mayV (Option.getD (targV k (Option.getD (takeV s (IntKind.wrap IntKind.i64 at_) (IntKind.wrap IntKind.i64 many) k) [])) [])) (Tr.ret ([AV.bool (decide ((↑(List.length (Option.getD (targV k (Option.getD (takeV s (IntKind.wrap IntKind.i64 at_) (IntKind.wrap IntKind.i64 many) k) [])) [])) : Int) ≤ (↑(List.length (Option.getD (takeV s (IntKind.wrap IntKind.i64 at_) (IntKind.wrap IntKind.i64 many) k) [])) : Int)))], [])) (Tr.ret ([AV.bool false], []))) Tr.no)) (Tr.ret ([AV.bool false], []))) (Tr.ret ([AV.bool false], [])))) (Tr.ret ([AV.bool false], []))) Tr.no))))))) Tr.no) Tr.no) Tr.no)) Tr.no)
def os12 : OSpec := { f := 12, sh := [.d .str false, .d (.int .u8) false, .d (.int .u8) false, .d (.int .u16) false], so := [], F := fun (s, at_, many, k, _) _ => t12 s at_ many k }
set_option maxRecDepth 1000000 in
theorem fn12 (s : List UInt8) (at_ : Int) (many : Int) (k : Int) : evC T0 (orcB [fs15w, fs36w, fs34w, fs32w, fs37w, fs33w, fs35w, fs29w] [os16, os17w, os19]) (lpOf h12 0 (lsOf [])) c12 1000000 (startSt [.str s, .int .u8 at_, .int .u8 many, .int .u16 k] [] Try.f12.ntmps) (finishK T0 false 0 Try.f12) = (t12 s at_ many k).get := by kernel_rfl
theorem ok12 : os12.Ok Try.prog := by
  refine os_ok mixed0 tab0 (orcB_sound (all_cons okf15w (all_cons okf36w (all_cons okf34w (all_cons okf32w (all_cons okf37w (all_cons okf33w (all_cons okf35w (all_cons okf29w all_nil)))))))) (all_cons ok16 (all_cons ok17w (all_cons ok19 all_nil)))) h12 (d := 0) (n0 := 0) (S := lsOf []) Try.func12 (by kernel_rfl) (c := c12) (by kernel_rfl) rfl (no_loops (by kernel_rfl)) (by omega) (by kernel_rfl) ?_
  intro x'' y'' q'' hq''
  obtain ⟨(s : List UInt8), (at_ : Int), (many : Int), (k : Int), _⟩ := x''
  exact (fn12 s at_ many k).trans hq''
def fs12 : FSpec := fsT 12 [(.str, false), ((.int .u8), false), ((.int .u8), false), ((.int .u16), false)] [(.bool, false)] fun (s, at_, many, k, _) => t12 s at_ many k
theorem okf12 : fs12.Ok Try.prog := fsT_ok fun x'' r'' hr'' => ok12 x'' () r'' hr''
theorem rdataVery_all (s : List UInt8) (at_ many k : Int) (hm0 : 0 ≤ many) (hm1 : many ≤ 255) : (t12 s at_ many k).all fun x => x = ([.bool true], []) := by
  unfold t12
  by_cases h1 : (s.length : Int) > 1000
  · exact Tr.all_t (dec_true h1) (Tr.all_ret rfl)
  have hs : smS s = true := by simp [smS]; omega
  have hsl : s.length ≤ 1000 := by omega
  rw [IntWalk.i64_in many (by omega), IntWalk.i64_in (many + 1) (by omega), IntWalk.i64_in (many - 1) (by omega)]
  generalize IntKind.wrap IntKind.i64 at_ = a
  cases ht : takeV s a many k with
  | none => simp [decide_eq_false h1, hs, allT, allF, allR]
  | some d =>
    obtain ⟨m1, _, _, _, m5⟩ := takeV_may ht
    have hdl : d.length ≤ 65535 := (may_parts m1).2.2.1
    have hbd : bigS d = true := by simp [bigS]; omega
    have hend : (Tr.br (targV k d).isNone (Tr.ret ([AV.bool true], [])) (Tr.br (bigS ((targV k d).getD [])) (Tr.br (mayV ((targV k d).getD [])) (Tr.ret ([AV.bool (decide (((targV k d).getD []).length ≤ d.length))], [])) (Tr.ret ([AV.bool false], []))) Tr.no) : Tr Res).all fun x => x = ([.bool true], []) := by
      cases hg : targV k d with
      | none => exact Tr.all_t rfl (Tr.all_ret rfl)
      | some t =>
        obtain ⟨g1, g2⟩ := targ_may hg
        refine Tr.all_f rfl (Tr.all_t (by simp [bigS]; omega) (Tr.all_t g1 (Tr.all_ret ?_)))
        simp
        exact g2
    by_cases hk : k = 1 ∨ k = 28 ∨ k = 2 ∨ k = 5 ∨ k = 12 ∨ k = 15 ∨ k = 6
    · have hf := takeV_one (n' := many + 1) hk ht (by omega)
      have hg := takeV_one (n' := many - 1) hk ht (by omega)
      rcases hk with rfl | rfl | rfl | rfl | rfl | rfl | rfl <;> (simp [decide_eq_false h1, hs, hf, hg, hbd, m1, allT, allF, allR]; exact hend)
    · have q1 : (k == 1) = false := beq_eq_false_iff_ne.2 (by omega)
      have q2 : (k == 28) = false := beq_eq_false_iff_ne.2 (by omega)
      have q3 : (k == 2) = false := beq_eq_false_iff_ne.2 (by omega)
      have q4 : (k == 5) = false := beq_eq_false_iff_ne.2 (by omega)
      have q5 : (k == 12) = false := beq_eq_false_iff_ne.2 (by omega)
      have q6 : (k == 15) = false := beq_eq_false_iff_ne.2 (by omega)
      have q7 : (k == 6) = false := beq_eq_false_iff_ne.2 (by omega)
      simp [decide_eq_false h1, hs, hbd, m1, q1, q2, q3, q4, q5, q6, q7, allT, allF, allR]
      exact hend
theorem sem12 (s : List UInt8) (at_ many k : Int) (h : okT (.int .u8) many) : SemF Try.prog 12 [.str s, .int .u8 at_, .int .u8 many, .int .u16 k] [] [.bool true] [] := by
  have hr : 0 ≤ many ∧ many ≤ 255 := by simpa [okT, Lit.wf, IntKind.min, IntKind.max, IntKind.signed, IntKind.bits] using h
  exact ok12 (s, at_, many, k, ()) () ([.bool true], []) (Tr.get_of_all (rdataVery_all s at_ many k hr.1 hr.2))
/-- derricklaw04.RdataOther -/
def t13 (k : Int) (d : List UInt8) : Tr Res := Tr.br (k == (1 : Int)) (Tr.br (decide ((↑(List.length d) : Int) > (1000 : Int))) (Tr.ret ([AV.bool true], [])) (Tr.ret ([AV.bool true], []))) (Tr.br (k == (28 : Int)) (Tr.br (decide ((↑(List.length d) : Int) > (1000 : Int))) (Tr.ret ([AV.bool true], [])) (Tr.ret ([AV.bool true], []))) (Tr.br (k == (2 : Int)) (Tr.br (decide ((↑(List.length d) : Int) > (1000 : Int))) (Tr.ret ([AV.bool true], [])) (Tr.ret ([AV.bool true], []))) (Tr.br (k == (5 : Int)) (Tr.br (decide ((↑(List.length d) : Int) > (1000 : Int))) (Tr.ret ([AV.bool true], [])) (Tr.ret ([AV.bool true], []))) (Tr.br (k == (12 : Int)) (Tr.br (decide ((↑(List.length d) : Int) > (1000 : Int))) (Tr.ret ([AV.bool true], [])) (Tr.ret ([AV.bool true], []))) (Tr.br (k == (15 : Int)) (Tr.br (decide ((↑(List.length d) : Int) > (1000 : Int))) (Tr.ret ([AV.bool true], [])) (Tr.ret ([AV.bool true], []))) (Tr.br (k == (6 : Int)) (Tr.br (decide ((↑(List.length d) : Int) > (1000 : Int))) (Tr.ret ([AV.bool true], [])) (Tr.ret ([AV.bool true], []))) (Tr.br (decide ((↑(List.length d) : Int) > (1000 : Int))) (Tr.ret ([AV.bool true], [])) (Tr.br (k == (16 : Int)) (Tr.ret ([AV.bool true], [])) (Tr.br (pkT [] [] && Nat.ble (List.length d) 1000000) (Tr.br (mayR k d) (Tr.br (smS d) (Tr.br (bigS d) (Tr.br (bigS d) (Tr.br (mayR k d) (Tr.br (intBytes (bytesInt (Prod.fst (putR k d (intBytes [], [])))) == d) (Tr.br ((if Option.isSome (takeV d (0 : Int) (↑(List.length d) : Int) k) = true then (0 : Int) else (2 : Ty.den (Ty.int IntKind.i64))) == (0 : Int)) (Tr.br (Option.getD (takeV d (0 : Int) (↑(List.length d) : Int) k) [] == d) (Tr.ret ([AV.bool !Option.isSome (targV k d)], [])) (Tr.ret ([AV.bool false], []))) (Tr.ret ([AV.bool false], []))) (Tr.ret ([AV.bool false], []))) (Tr.ret ([AV.bool false], []))) Tr.no) Tr.no) Tr.no) (Tr.br (smS d) (Tr.br (bigS d) (Tr.br (bigS d) (Tr.br (mayR k d) (Tr.ret ([AV.bool false], [])) (Tr.ret ([AV.bool false], []))) Tr.no) Tr.no) Tr.no)) Tr.no)))))))))
def os13 : OSpec := { f := 13, sh := [.d (.int .u16) false, .d .str false], so := [], F := fun (k, d, _) _ => t13 k d }
set_option maxRecDepth 1000000 in
theorem fn13 (k : Int) (d : List UInt8) : evC T0 (orcB [fs15w, fs36w, fs34w, fs32w, fs37w, fs33w, fs35w, fs29w] [os16, os17w, os19]) (lpOf h13 0 (lsOf [])) c13 1000000 (startSt [.int .u16 k, .str d] [] Try.f13.ntmps) (finishK T0 false 0 Try.f13) = (t13 k d).get := by kernel_rfl
theorem ok13 : os13.Ok Try.prog := by
  refine os_ok mixed0 tab0 (orcB_sound (all_cons okf15w (all_cons okf36w (all_cons okf34w (all_cons okf32w (all_cons okf37w (all_cons okf33w (all_cons okf35w (all_cons okf29w all_nil)))))))) (all_cons ok16 (all_cons ok17w (all_cons ok19 all_nil)))) h13 (d := 0) (n0 := 0) (S := lsOf []) Try.func13 (by kernel_rfl) (c := c13) (by kernel_rfl) rfl (no_loops (by kernel_rfl)) (by omega) (by kernel_rfl) ?_
  intro x'' y'' q'' hq''
  obtain ⟨(k : Int), (d : List UInt8), _⟩ := x''
  exact (fn13 k d).trans hq''
def fs13 : FSpec := fsT 13 [((.int .u16), false), (.str, false)] [(.bool, false)] fun (k, d, _) => t13 k d
theorem okf13 : fs13.Ok Try.prog := fsT_ok fun x'' r'' hr'' => ok13 x'' () r'' hr''
theorem rdataOther_all (k : Int) (d : List UInt8) : (t13 k d).all fun x => x = ([.bool true], []) := by
  unfold t13
  by_cases hl : (d.length : Int) > 1000
  · have h0 := decide_eq_true hl
    repeat' first | exact Tr.all_ret rfl | refine Tr.all_br (fun _ => ?_) fun _ => ?_
    all_goals (simp_all; done)
  · have hf := decide_eq_false hl
    by_cases k1 : k = 1
    · exact Tr.all_t (beq_iff_eq.2 k1) (Tr.all_f hf (Tr.all_ret rfl))
    refine Tr.all_f (beq_eq_false_iff_ne.2 k1) ?_
    by_cases k2 : k = 28
    · exact Tr.all_t (beq_iff_eq.2 k2) (Tr.all_f hf (Tr.all_ret rfl))
    refine Tr.all_f (beq_eq_false_iff_ne.2 k2) ?_
    by_cases k3 : k = 2
    · exact Tr.all_t (beq_iff_eq.2 k3) (Tr.all_f hf (Tr.all_ret rfl))
    refine Tr.all_f (beq_eq_false_iff_ne.2 k3) ?_
    by_cases k4 : k = 5
    · exact Tr.all_t (beq_iff_eq.2 k4) (Tr.all_f hf (Tr.all_ret rfl))
    refine Tr.all_f (beq_eq_false_iff_ne.2 k4) ?_
    by_cases k5 : k = 12
    · exact Tr.all_t (beq_iff_eq.2 k5) (Tr.all_f hf (Tr.all_ret rfl))
    refine Tr.all_f (beq_eq_false_iff_ne.2 k5) ?_
    by_cases k6 : k = 15
    · exact Tr.all_t (beq_iff_eq.2 k6) (Tr.all_f hf (Tr.all_ret rfl))
    refine Tr.all_f (beq_eq_false_iff_ne.2 k6) ?_
    by_cases k7 : k = 6
    · exact Tr.all_t (beq_iff_eq.2 k7) (Tr.all_f hf (Tr.all_ret rfl))
    refine Tr.all_f (beq_eq_false_iff_ne.2 k7) (Tr.all_f hf ?_)
    by_cases k8 : k = 16
    · exact Tr.all_t (beq_iff_eq.2 k8) (Tr.all_ret rfl)
    refine Tr.all_f (beq_eq_false_iff_ne.2 k8) ?_
    have hm : mayR k d = true := by rw [may_any ⟨k1, k2, k3, k4, k5, k6, k7, k8⟩]; exact Nat.ble_eq_true_of_le (by omega)
    have hlay : layV k = [-3] := by simp [layV, k1, k2, k3, k4, k5, k6, k7, k8]
    have hp : (putR k d (intBytes [], [])).1 = d := by
      unfold putR
      rw [hlay, parts_one hlay hm]
      rfl
    have hs0 : someB d 0 (d.length : Int) = true := someB_iff.2 (by omega)
    have hv0 : someV d 0 (d.length : Int) = d := by
      unfold someV
      simp
    have ht : takeV d 0 (d.length : Int) k = some d := by
      unfold takeV
      rw [if_pos hs0, hlay, takeD_rest (.inr rfl) d 0 (d.length : Int) hs0, hv0, if_pos ⟨rfl, rfl, hm⟩]
    have hg : targV k d = none := by
      unfold targV
      rw [if_pos hm, if_neg (by omega), if_neg k6]
    have h0 : pkT [] [] = true := rfl
    have hbl : Nat.ble d.length 1000000 = true := Nat.ble_eq_true_of_le (by omega)
    have hsm : smS d = true := by simp [smS]; omega
    have hbd : bigS d = true := by simp [bigS]; omega
    simp [h0, hbl, hm, hsm, hbd, hp, intB_bytes, ht, hg, allT, allF, allR]
theorem sem13 (k : Int) (d : List UInt8) : SemF Try.prog 13 [.int .u16 k, .str d] [] [.bool true] [] :=
  ok13 (k, d, ()) () ([.bool true], []) (Tr.get_of_all (rdataOther_all k d))
end Go.Proofs.YtfepkpindchleaaE

/- Data put is taken: plain words. -/
namespace Go.Proofs.YtfepkpindchleaaE
open Go Go.Proofs.YtfepkpindchleaaB
set_option linter.unusedVariables false
set_option linter.unusedSimpArgs false
def LayOk : List Int → Bool
  | [] => true
  | x :: ps => ((x == -1 || decide (0 ≤ x)) || ((x == -2 || x == -3) && ps.isEmpty)) && LayOk ps
theorem layV_ok (k : Int) : LayOk (layV k) = true := by
  unfold layV
  repeat' split
  all_goals decide
def PartsOk : List Int → List (List UInt8) → Prop
  | [], [] => True
  | x :: ps, y :: ls => ((x = -1 ∧ mayV y = true) ∨ x = (y.length : Int) ∨ ((x = -2 ∨ x = -3) ∧ ps = [])) ∧ PartsOk ps ls
  | _, _ => False
theorem cut_partsOk : ∀ (ps : List Int) (d : List UInt8) (out : List (List UInt8)), LayOk ps = true → (cutS ps d out).1 = true → ∃ l, (cutS ps d out).2.2 = out ++ l ∧ PartsOk ps l
  | [], d, out, _, _ => ⟨[], by simp [cutS], trivial⟩
  | x :: ps, d, out, hl, h => by
    unfold cutS at h ⊢
    simp only [LayOk, Bool.and_eq_true, Bool.or_eq_true, beq_iff_eq, decide_eq_true_eq, List.isEmpty_iff] at hl
    by_cases ho : okP x d = true
    · rw [if_pos ho] at h ⊢
      obtain ⟨l, h1, h2⟩ := cut_partsOk ps _ _ hl.2 h
      refine ⟨d.take (szP x d).toNat :: l, by rw [h1, List.append_assoc]; rfl, ?_, h2⟩
      rcases hl.1 with (rfl | h0) | h3
      · obtain ⟨e1, e2⟩ := okP_name d
        rw [e2] at ho
        rw [e1, Int.toNat_natCast]
        exact .inl ⟨rfl, whole_may (by simpa using ho)⟩
      · obtain ⟨e1, e2⟩ := okP_fix h0 d
        rw [e2, decide_eq_true_eq] at ho
        rw [e1]
        refine .inr (.inl ?_)
        rw [List.length_take]
        omega
      · exact .inr (.inr h3)
    · rw [if_neg ho] at h
      cases h
theorem putS_pre : ∀ (ps : List Int) (ls : List (List UInt8)) (p : PKt), PartsOk ps ls → PI p.1 p.2 → PI (putS ps ls p).1 (putS ps ls p).2 ∧ ∃ T, (putS ps ls p).1 = p.1 ++ T
  | [], [], p, _, h => ⟨h, [], by simp [putS]⟩
  | x :: ps, y :: ls, p, ho, h => by
    rw [putS]
    simp only [List.tail_cons, List.headD_cons]
    cases hx : x == -1 with
    | true =>
      rw [cond_true]
      have hs : ∃ T, (stN p (y, false)).1 = p.1 ++ T ∧ PI (stN p (y, false)).1 (stN p (y, false)).2 := by
        unfold stN
        cases hm : mayV y with
        | false => exact ⟨[], by simp, by simpa using h⟩
        | true =>
          obtain ⟨T, N', a1, a2, a3, _⟩ := name_put hm h
          refine ⟨T, a1, ?_⟩
          rw [cond_true]
          simp only
          rw [a1, a2]
          exact a3
      obtain ⟨T, t1, t2⟩ := hs
      obtain ⟨q1, X, q2⟩ := putS_pre ps ls (stN p (y, false)) ho.2 t2
      exact ⟨q1, T ++ X, by rw [q2, t1, List.append_assoc]⟩
    | false =>
      rw [cond_false]
      obtain ⟨q1, X, q2⟩ := putS_pre ps ls (p.1 ++ y, p.2) ho.2 (h.mono y)
      exact ⟨q1, y ++ X, by rw [q2, List.append_assoc]⟩
  | [], _ :: _, _, ho, _ => ho.elim
  | _ :: _, [], _, ho, _ => ho.elim
theorem someV_at (A y X : List UInt8) : someV (A ++ (y ++ X)) (A.length : Int) (y.length : Int) = y := by
  unfold someV
  rw [Int.toNat_natCast, Int.toNat_natCast, List.drop_left, List.take_left]
theorem takeD_put : ∀ (ps : List Int) (ls : List (List UInt8)) (p : PKt) (X d0 : List UInt8), PartsOk ps ls → LayOk ps = true → PI p.1 p.2 →
    takeD ps ((putS ps ls p).1 ++ X) (p.1.length : Int) ((putS ps ls p).1.length : Int) d0 = (true, ((putS ps ls p).1.length : Int), d0 ++ ls.flatten)
  | [], [], p, X, d0, _, _, h => by simp [takeD, putS]
  | x :: ps, y :: ls, p, X, d0, ho, hl, h => by
    simp only [LayOk, Bool.and_eq_true] at hl
    obtain ⟨_, Tall, hall⟩ := putS_pre (x :: ps) (y :: ls) p ho h
    by_cases hx : x = -1
    · subst hx
      have hm : mayV y = true := by
        rcases ho.1 with h | h | ⟨h, _⟩
        · exact h.2
        · omega
        · omega
      obtain ⟨T, N', a1, a2, a3, a4⟩ := name_put hm h
      have hs : stN p (y, false) = nameP y p.1 p.2 := by unfold stN; rw [hm]; rfl
      have hp : putS (-1 :: ps) (y :: ls) p = putS ps ls (nameP y p.1 p.2) := by rw [putS]; simp only [List.tail_cons, List.headD_cons, beq_self_eq_true, cond_true, hs]
      have hPI : PI (nameP y p.1 p.2).1 (nameP y p.1 p.2).2 := by rw [a1, a2]; exact a3
      obtain ⟨_, X2, hX2⟩ := putS_pre ps ls (nameP y p.1 p.2) ho.2 hPI
      rw [hp]
      have hg : takeG ((putS ps ls (nameP y p.1 p.2)).1 ++ X) (p.1.length : Int) (p.1.length : Int) (-1) [] = some (y, ((nameP y p.1 p.2).1.length : Int)) := by
        rw [hX2, a1, List.append_assoc]
        have := takeG_rd (a4.mono (X2 ++ X)) (-1) [] (by have := (may_iff.1 hm).2.1; simpa using this)
        simpa using this
      rw [takeD_on hg, if_neg (by rw [hX2, List.length_append]; omega)]
      have := takeD_put ps ls (nameP y p.1 p.2) X (d0 ++ y) ho.2 hl.2 hPI
      rw [this, List.flatten_cons, List.append_assoc]
    · have hxb : (x == -1) = false := beq_eq_false_iff_ne.2 hx
      have hp : putS (x :: ps) (y :: ls) p = putS ps ls (p.1 ++ y, p.2) := by rw [putS, hxb]; rfl
      have hPI := h.mono y
      obtain ⟨_, X2, hX2⟩ := putS_pre ps ls (p.1 ++ y, p.2) ho.2 hPI
      rw [hp]
      have hlen : ((putS ps ls (p.1 ++ y, p.2)).1).length = p.1.length + y.length + X2.length := by rw [hX2]; simp; omega
      have hsz : (if x = -2 ∨ x = -3 then ((putS ps ls (p.1 ++ y, p.2)).1.length : Int) - (p.1.length : Int) else x) = (y.length : Int) := by
        rcases ho.1 with h1 | h1 | ⟨h1, h2⟩
        · exact absurd h1.1 hx
        · rw [if_neg (by omega)]; exact h1
        · subst h2
          rw [if_pos h1]
          cases ls with
          | nil =>
            show (((p.1 ++ y).length : Int) - (p.1.length : Int)) = (y.length : Int)
            rw [List.length_append]
            omega
          | cons _ _ => exact ho.2.elim
      rw [takeD, if_neg hx, hsz]
      have hS : (putS ps ls (p.1 ++ y, p.2)).1 ++ X = p.1 ++ (y ++ (X2 ++ X)) := by rw [hX2]; simp
      have hv : someV ((putS ps ls (p.1 ++ y, p.2)).1 ++ X) (p.1.length : Int) (y.length : Int) = y := by rw [hS, someV_at]
      rw [hv, if_pos ⟨someB_iff.2 (by rw [List.length_append, hlen]; omega), by omega⟩]
      have := takeD_put ps ls (p.1 ++ y, p.2) X (d0 ++ y) ho.2 hl.2 hPI
      rw [show (p.1.length : Int) + (y.length : Int) = ((p.1 ++ y, p.2).1.length : Int) by simp, this, List.flatten_cons, List.append_assoc]
  | [], _ :: _, _, _, _, ho, _, _ => ho.elim
  | _ :: _, [], _, _, _, ho, _, _ => ho.elim
/-- What was put is taken. -/
theorem putR_take {k : Int} {d : List UInt8} {p : PKt} (hm : mayR k d = true) (h : PI p.1 p.2) (X : List UInt8) : PI (putR k d p).1 (putR k d p).2 ∧ (∃ T, (putR k d p).1 = p.1 ++ T) ∧
    takeV ((putR k d p).1 ++ X) (p.1.length : Int) (((putR k d p).1.length : Int) - (p.1.length : Int)) k = some d := by
  obtain ⟨m1, m2, m3, m4, m5, m6⟩ := may_parts hm
  obtain ⟨l, c1, c2⟩ := cut_partsOk (layV k) d [] (layV_ok k) m1
  have hl : partsV k d = l := c1
  obtain ⟨q1, T, q2⟩ := putS_pre (layV k) (partsV k d) p (by rw [hl]; exact c2) h
  refine ⟨q1, ⟨T, q2⟩, ?_⟩
  have hT := takeD_put (layV k) (partsV k d) p X [] (by rw [hl]; exact c2) (layV_ok k) h
  unfold takeV putR
  have hlen : (putS (layV k) (partsV k d) p).1.length = p.1.length + T.length := by rw [q2, List.length_append]
  rw [if_pos (someB_iff.2 (by rw [List.length_append]; omega)), show (p.1.length : Int) + (((putS (layV k) (partsV k d) p).1.length : Int) - (p.1.length : Int)) = ((putS (layV k) (partsV k d) p).1.length : Int) by omega, hT, m6, List.nil_append]
  exact if_pos ⟨rfl, rfl, hm⟩
theorem putS_len : ∀ (ps : List Int) (ls : List (List UInt8)) (p : PKt), kOk p.2 = true → kOk (putS ps ls p).2 = true ∧ (putS ps ls p).1.length ≤ p.1.length + ls.flatten.length
  | [], _, p, h => ⟨h, by simp [putS]⟩
  | x :: ps, ls, p, h => by
    rw [putS]
    have hl : ls.flatten.length = (ls.headD []).length + ls.tail.flatten.length := by cases ls <;> simp
    cases hx : x == -1 with
    | true =>
      obtain ⟨k1, k2⟩ := stN_k (p := p) (x := (ls.headD [], false)) h
      obtain ⟨q1, q2⟩ := putS_len ps ls.tail (stN p (ls.headD [], false)) k1
      refine ⟨q1, ?_⟩
      rw [cond_true, hl]
      have k2 : (stN p (ls.headD [], false)).1.length ≤ p.1.length + (ls.headD []).length := k2
      omega
    | false =>
      obtain ⟨q1, q2⟩ := putS_len ps ls.tail (p.1 ++ ls.headD [], p.2) h
      refine ⟨q1, ?_⟩
      rw [cond_false, hl]
      have q2 : (putS ps ls.tail (p.1 ++ ls.headD [], p.2)).1.length ≤ (p.1 ++ ls.headD []).length + ls.tail.flatten.length := q2
      rw [List.length_append] at q2
      omega
/-! ### Items -/
abbrev Items := List (Int × List UInt8)
def stD (p : PKt) (x : Int × List UInt8) : PKt := bif mayR x.1 x.2 then putR x.1 x.2 p else p
def smallI (l : Items) : Items := (l.take 20).takeWhile fun x => decide (x.2.length ≤ 700)
def atsD : Items → PKt → List Int × List Int
  | [], _ => ([], [])
  | x :: l, p => ((p.1.length : Int) :: (atsD l (stD p x)).1, (((stD p x).1.length : Int) - (p.1.length : Int)) :: (atsD l (stD p x)).2)
def bkC (b : List Int) (m : Known) (at_ many : List Int) (i : Int) : Bool := bytesOk b && (kOk m && (Nat.ble b.length 100000 && (decide (i = 0) && (at_.isEmpty && many.isEmpty))))
def bkE (l : Items) (s : List UInt8) (at_ many : List Int) : Bool := smS s && (decide (at_.length ≤ l.length) && (decide (at_.length ≤ 20) && (decide (many.length = at_.length) && (List.range at_.length).all fun i => decide ((l.getD i (0, [])).2.length ≤ 700) && (!mayR (l.getD i (0, [])).1 (l.getD i (0, [])).2 || (takeV s (at_.getD i 0) (many.getD i 0) (l.getD i (0, [])).1 == some (l.getD i (0, [])).2)))))
def fewS (l : List (List UInt8)) : Bool := (l.take 61).all (fun x => decide (x.length ≤ 700)) && decide (l.length ≤ 60)
def ahN (p : PKt) (x : List UInt8) : PKt := stN p (x, false)
end Go.Proofs.YtfepkpindchleaaE

/- RdataBack. -/
namespace Go.Proofs.YtfepkpindchleaaE
open Go Go.Proofs.YtfepkpindchleaaB
set_option linter.unusedVariables false
set_option linter.unusedSimpArgs false
noncomputable def b38 : Code := nthLoop c38 0
def ls38 : LoopSpec := { bid := 0, sh := [.d (.list .str) false, .d (.int .i64) false], so := [], F := fun (l, i, _) _ => .on2 (decide (i = 0)) ((l.take 61).all (fun x => decide (x.length ≤ 700))) (.exit 0, [AV.list .str l, .dead], []) (.ret, [AV.list .str l, .bool false], []) }
def r38 (l : List (List UInt8)) (i : Int) : Tr (St ⊕ (Ex × St)) := Tr.br (decide (i < (↑(List.length l) : Int))) (Tr.br (decide (i < (61 : Int))) (Tr.br (decide ((0 : Int) ≤ i)) (Tr.br (decide (i < (↑(List.length l) : Int))) (Tr.br (decide ((↑(List.length (List.getD l (Int.toNat i) (Ty.dflt Ty.str))) : Int) > (700 : Int))) (Tr.ret (Sum.inr (Ex.ret, stOf [0, 2] [AV.list Ty.str l, AV.bool false] []))) (Tr.ret (Sum.inl (stOf [0, 3] [AV.list Ty.str l, AV.int IntKind.i64 (IntKind.wrap IntKind.i64 (i + (1 : Int)))] [])))) Tr.no) Tr.no) (Tr.ret (Sum.inr (Ex.exit 0, stOf [0, 2] [AV.list Ty.str l, AV.dead] [])))) (Tr.ret (Sum.inr (Ex.exit 0, stOf [0, 2] [AV.list Ty.str l, AV.dead] [])))
set_option maxRecDepth 1000000 in
theorem round38 (orc : Orc) (lp : Lp) (l : List (List UInt8)) (i : Int) : evC T0 orc lp b38 0 (stOf [0, 3] [.list .str l, .int .i64 i] []) (roundK [0, 3] [0, 2] 0) = (r38 l i).get := by kernel_rfl
theorem wf38 (orc : Orc) (l : List (List UInt8)) (I'' : Int → Prop) (m'' : Int → Nat) (r'' : Ex × St) (h : ∀ (i : Int), I'' i → (r38 l i).all fun x'' => x'' = .inr r'' ∨ ∃ (i' : Int), x'' = .inl (stOf [0, 3] [.list .str l, .int .i64 i'] []) ∧ I'' i' ∧ m'' i' < m'' i) (lp : Lp) (i : Int) : I'' i →
    loopF (fun st => evC T0 orc lp b38 0 st (roundK [0, 3] [0, 2] 0)) (stOf [0, 3] [.list .str l, .int .i64 i] []) = some r'' :=
  loop_tr (fun a'' : Int => stOf [0, 3] [.list .str l, .int .i64 a''] []) (fun a'' => I'' a'') (fun a'' => m'' a'') r'' (fun a'' => r38 l a'')
    (fun a'' x hx => (round38 orc lp l a'').trans hx) (fun a'' ha => Tr.all_mono (fun x'' hx => hx.imp id fun ⟨i', h1, h2, h3⟩ => ⟨(i'), h1, h2, h3⟩) (h (a'') ha)) (i)
theorem loop38 (orc : Orc) : ls38.Ok T0 orc h38 0 0 b38 := by
  intro q'' hq'' x'' y'' r'' h
  obtain ⟨(l : List (List UInt8)), (i : Int), _⟩ := x''
  obtain ⟨hc, rfl⟩ := Tr.get_on2 h
  show loopF (fun st => evC T0 orc (lpN T0 orc h38 0 q'') b38 0 st (roundK [0, 3] [0, 2] 0)) (stOf [0, 3] [.list .str l, .int .i64 i] []) = some ((bif (l.take 61).all (fun x => decide (x.length ≤ 700)) then (.exit 0, [AV.list .str l, .dead], []) else (.ret, [AV.list .str l, .bool false], []) : Ex × List AV × List LObj).1, stOf [0, 2] (bif (l.take 61).all (fun x => decide (x.length ≤ 700)) then (.exit 0, [AV.list .str l, .dead], []) else (.ret, [AV.list .str l, .bool false], []) : Ex × List AV × List LObj).2.1 (bif (l.take 61).all (fun x => decide (x.length ≤ 700)) then (.exit 0, [AV.list .str l, .dead], []) else (.ret, [AV.list .str l, .bool false], []) : Ex × List AV × List LObj).2.2)
  simp only [decide_eq_true_eq] at hc
  subst hc
  refine wf38 _ l (fun i => 0 ≤ i ∧ i ≤ 61 ∧ (l.take 61).all (fun x => decide (x.length ≤ 700)) = ((l.drop i.toNat).take (61 - i.toNat)).all (fun x => decide (x.length ≤ 700))) (fun i => (61 - i).toNat) _ ?_ _ 0 ⟨by omega, by omega, by simp⟩
  rintro i ⟨h0, h1, h2⟩
  rw [h2]
  unfold r38
  by_cases hk : i.toNat < l.length
  · by_cases h41 : i < 61
    · have hg : l.getD i.toNat (Ty.dflt Ty.str) = l[i.toNat] := by rw [List.getD_eq_getElem?_getD, List.getElem?_eq_getElem hk]; rfl
      rw [List.drop_eq_getElem_cons hk, show 61 - i.toNat = (60 - i.toNat) + 1 by omega, List.take_succ_cons, List.all_cons, hg]
      refine Tr.all_t (dec_true (by omega)) (Tr.all_t (dec_true (by omega)) (Tr.all_t (dec_true h0) (Tr.all_t (dec_true (by omega)) (Tr.all_br (fun c1 => Tr.all_ret (.inl ?_)) fun c1 => Tr.all_ret (.inr ⟨_, rfl, ?_, ?_⟩)))))
      · simp only [decide_eq_true_eq] at c1
        rw [decide_eq_false (by omega), Bool.false_and]
        rfl
      · rw [IntWalk.i64_in _ (by omega)]
        simp only [decide_eq_false_iff_not] at c1
        refine ⟨by omega, by omega, ?_⟩
        rw [decide_eq_true (by omega), Bool.true_and, show (i + 1).toNat = i.toNat + 1 by omega, show 61 - (i.toNat + 1) = 60 - i.toNat by omega]
      · rw [IntWalk.i64_in _ (by omega)]
        omega
    · refine Tr.all_t (dec_true (by omega)) (Tr.all_f (dec_false h41) (Tr.all_ret (.inl ?_)))
      rw [show 61 - i.toNat = 0 by omega]
      simp
  · refine Tr.all_f (dec_false (by omega)) (Tr.all_ret (.inl ?_))
    rw [List.drop_eq_nil_of_le (by omega)]
    simp
/-- derricklaw04.few -/
def t38 (l : List (List UInt8)) : Tr Res := Tr.br (List.all (List.take 61 l) fun x ↦ decide (List.length x ≤ 700)) (Tr.ret ([AV.bool (decide ((↑(List.length l) : Int) ≤ (60 : Int)))], [])) (Tr.ret ([AV.bool false], []))
def os38 : OSpec := { f := 38, sh := [.d (.list .str) false], so := [], F := fun (l, _) _ => t38 l }
set_option maxRecDepth 1000000 in
theorem fn38 (l : List (List UInt8)) : evC T0 (orcB [] []) (lpOf h38 0 (lsOf [ls38])) c38 1000000 (startSt [.list .str l] [] Try.f38.ntmps) (finishK T0 false 0 Try.f38) = (t38 l).get := by kernel_rfl
theorem ok38 : os38.Ok Try.prog := by
  refine os_ok mixed0 tab0 (orcB_sound all_nil all_nil) h38 (d := 0) (n0 := 0) (S := lsOf [ls38]) Try.func38 (by kernel_rfl) (c := c38) (by kernel_rfl) rfl (loops_eq (xs := [(0, b38)]) (by kernel_rfl) (all_cons (ls_here (loop38 _)) all_nil)) (by omega) (by kernel_rfl) ?_
  intro x'' y'' q'' hq''
  obtain ⟨(l : List (List UInt8)), _⟩ := x''
  exact (fn38 l).trans hq''
def fs38 : FSpec := fsT 38 [((.list .str), false)] [(.bool, false)] fun (l, _) => t38 l
theorem okf38 : fs38.Ok Try.prog := fsT_ok fun x'' r'' hr'' => ok38 x'' () r'' hr''
def fs38w : FSpec := fs38.like fun (l, _) => .ret (fewS l, ())
theorem okf38w : fs38w.Ok Try.prog := by
  refine flike_ok okf38 _ ?_
  rintro ⟨(l : List (List UInt8)), _⟩ y h
  cases h
  refine convR_of (vs := [.bool (fewS l)]) rfl rfl (Tr.get_of_all ?_)
  show (t38 l).all _
  unfold t38 fewS
  refine Tr.all_br (fun c1 => Tr.all_ret ?_) fun c1 => Tr.all_ret ?_
  · rw [c1, Bool.true_and]
    congr 3
    rw [Bool.eq_iff_iff]
    simp
    omega
  · rw [c1]
    rfl
theorem fewS_iff {l : List (List UInt8)} : fewS l = true ↔ l.length ≤ 60 ∧ ∀ x ∈ l, x.length ≤ 700 := by
  unfold fewS
  simp only [Bool.and_eq_true, decide_eq_true_eq, List.all_eq_true]
  constructor
  · rintro ⟨h1, h2⟩
    exact ⟨h2, fun x hx => h1 x (by rw [List.take_of_length_le (by omega)]; exact hx)⟩
  · rintro ⟨h1, h2⟩
    exact ⟨fun x hx => h2 x (List.mem_of_mem_take hx), h1⟩
noncomputable def b14 : Code := nthLoop c14 0
def ls14 : LoopSpec := { bid := 0, sh := [.d (.list .str) false, .d (.list (.pair (.int .u16) .str)) false, .d .bool false, .ptr 0 0, .d (.int .i64) false], so := [.box [.row 1, .mp 2], .row (.int .u8), .map .str (.int .i64)], F := fun (ah, l, up, i, _) (_, b, m, _) => .on (fewS ah && (decide (i = 0) && p0C b m)) (.exit 0, [AV.list (.pair (.int .u16) .str) l, .bool up, .ptr 0 0], [.box [.rowA 1, .mp 2], .row (.int .u8) (bytesInt (ah.foldl ahN ([], [])).1), .mpo .str (.int .i64) (ah.foldl ahN ([], [])).2]) }
def r14 (ah : List (List UInt8)) (l : List (Int × List UInt8)) (up : Bool) (i : Int) (b : List Int) (m : List (List UInt8 × Int)) : Tr (St ⊕ (Ex × St)) := Tr.br (decide (i < (↑(List.length ah) : Int))) (Tr.br (decide ((0 : Int) ≤ i)) (Tr.br (decide (i < (↑(List.length ah) : Int))) (Tr.br (pkC b m && Nat.ble (List.length (List.getD ah (Int.toNat i) (Ty.dflt Ty.str))) 100000000000) (Tr.br (mayV (List.getD ah (Int.toNat i) (Ty.dflt Ty.str))) (Tr.ret (Sum.inl (stOf [0, 1, 5, 6, 7] [AV.list Ty.str ah, AV.list (Ty.pair (Ty.int IntKind.u16) Ty.str) l, AV.bool up, AV.ptr 0 0, AV.int IntKind.i64 (IntKind.wrap IntKind.i64 (i + (1 : Int)))] [LObj.boxT none [AV.rowA 1, AV.mp 2], LObj.row (Ty.int IntKind.u8) (bytesInt (Prod.fst (nameP (List.getD ah (Int.toNat i) (Ty.dflt Ty.str)) (intBytes b) m))), LObj.mpo Ty.str (Ty.int IntKind.i64) (Prod.snd (nameP (List.getD ah (Int.toNat i) (Ty.dflt Ty.str)) (intBytes b) m))]))) (Tr.ret (Sum.inl (stOf [0, 1, 5, 6, 7] [AV.list Ty.str ah, AV.list (Ty.pair (Ty.int IntKind.u16) Ty.str) l, AV.bool up, AV.ptr 0 0, AV.int IntKind.i64 (IntKind.wrap IntKind.i64 (i + (1 : Int)))] [LObj.boxT none [AV.rowA 1, AV.mp 2], LObj.row (Ty.int IntKind.u8) b, LObj.mpo Ty.str (Ty.int IntKind.i64) m])))) Tr.no) Tr.no) Tr.no) (Tr.ret (Sum.inr (Ex.exit 0, stOf [1, 5, 6] [AV.list (Ty.pair (Ty.int IntKind.u16) Ty.str) l, AV.bool up, AV.ptr 0 0] [LObj.boxT none [AV.rowA 1, AV.mp 2], LObj.row (Ty.int IntKind.u8) b, LObj.mpo Ty.str (Ty.int IntKind.i64) m])))
set_option maxRecDepth 1000000 in
theorem round14 (lp : Lp) (ah : List (List UInt8)) (l : List (Int × List UInt8)) (up : Bool) (i : Int) (b : List Int) (m : List (List UInt8 × Int)) : evC T0 (orcB [fs15w, fs38w, fs36w, fs32w] [os16, os24w, os26, os17w, os19]) lp b14 0 (stOf [0, 1, 5, 6, 7] [.list .str ah, .list (.pair (.int .u16) .str) l, .bool up, .ptr 0 0, .int .i64 i] [.box [.rowA 1, .mp 2], .row (.int .u8) b, .mpo .str (.int .i64) m]) (roundK [0, 1, 5, 6, 7] [1, 5, 6] 0) = (r14 ah l up i b m).get := by kernel_rfl
theorem wf14 (ah : List (List UInt8)) (l : List (Int × List UInt8)) (up : Bool) (I'' : Int → List Int → List (List UInt8 × Int) → Prop) (m'' : Int → List Int → List (List UInt8 × Int) → Nat) (r'' : Ex × St) (h : ∀ (i : Int) (b : List Int) (m : List (List UInt8 × Int)), I'' i b m → (r14 ah l up i b m).all fun x'' => x'' = .inr r'' ∨ ∃ (i' : Int) (b' : List Int) (m' : List (List UInt8 × Int)), x'' = .inl (stOf [0, 1, 5, 6, 7] [.list .str ah, .list (.pair (.int .u16) .str) l, .bool up, .ptr 0 0, .int .i64 i'] [.box [.rowA 1, .mp 2], .row (.int .u8) b', .mpo .str (.int .i64) m']) ∧ I'' i' b' m' ∧ m'' i' b' m' < m'' i b m) (lp : Lp) (i : Int) (b : List Int) (m : List (List UInt8 × Int)) : I'' i b m →
    loopF (fun st => evC T0 (orcB [fs15w, fs38w, fs36w, fs32w] [os16, os24w, os26, os17w, os19]) lp b14 0 st (roundK [0, 1, 5, 6, 7] [1, 5, 6] 0)) (stOf [0, 1, 5, 6, 7] [.list .str ah, .list (.pair (.int .u16) .str) l, .bool up, .ptr 0 0, .int .i64 i] [.box [.rowA 1, .mp 2], .row (.int .u8) b, .mpo .str (.int .i64) m]) = some r'' :=
  loop_tr (fun a'' : Int × List Int × List (List UInt8 × Int) => stOf [0, 1, 5, 6, 7] [.list .str ah, .list (.pair (.int .u16) .str) l, .bool up, .ptr 0 0, .int .i64 a''.1] [.box [.rowA 1, .mp 2], .row (.int .u8) a''.2.1, .mpo .str (.int .i64) a''.2.2]) (fun a'' => I'' a''.1 a''.2.1 a''.2.2) (fun a'' => m'' a''.1 a''.2.1 a''.2.2) r'' (fun a'' => r14 ah l up a''.1 a''.2.1 a''.2.2)
    (fun a'' x hx => (round14 lp ah l up a''.1 a''.2.1 a''.2.2).trans hx) (fun a'' ha => Tr.all_mono (fun x'' hx => hx.imp id fun ⟨i', b', m', h1, h2, h3⟩ => ⟨(i', b', m'), h1, h2, h3⟩) (h (a''.1) (a''.2.1) (a''.2.2) ha)) (i, b, m)
def ahI (l : List (List UInt8)) (i : Int) (b : List Int) (m : Known) : Prop := 0 ≤ i ∧ i ≤ l.length ∧ ∃ p : PKt, b = bytesInt p.1 ∧ m = p.2 ∧ kOk p.2 = true ∧ p.1.length ≤ 700 * i.toNat ∧ (l.drop i.toNat).foldl ahN p = l.foldl ahN ([], [])
theorem loop14 : ls14.Ok T0 (orcB [fs15w, fs38w, fs36w, fs32w] [os16, os24w, os26, os17w, os19]) h14 0 0 b14 := by
  intro q'' hq'' x'' y'' r'' h
  obtain ⟨(ah : List (List UInt8)), (l : List (Int × List UInt8)), (up : Bool), (i : Int), _⟩ := x''
  obtain ⟨_, (b : List Int), (m : List (List UInt8 × Int)), _⟩ := y''
  obtain ⟨hc, rfl⟩ := Tr.get_on h
  show loopF (fun st => evC T0 (orcB [fs15w, fs38w, fs36w, fs32w] [os16, os24w, os26, os17w, os19]) (lpN T0 (orcB [fs15w, fs38w, fs36w, fs32w] [os16, os24w, os26, os17w, os19]) h14 0 q'') b14 0 st (roundK [0, 1, 5, 6, 7] [1, 5, 6] 0)) (stOf [0, 1, 5, 6, 7] [.list .str ah, .list (.pair (.int .u16) .str) l, .bool up, .ptr 0 0, .int .i64 i] [.box [.rowA 1, .mp 2], .row (.int .u8) b, .mpo .str (.int .i64) m]) = some (.exit 0, stOf [1, 5, 6] ([AV.list (.pair (.int .u16) .str) l, .bool up, .ptr 0 0]) ([.box [.rowA 1, .mp 2], .row (.int .u8) (bytesInt (ah.foldl ahN ([], [])).1), .mpo .str (.int .i64) (ah.foldl ahN ([], [])).2]))
  simp only [p0C, Bool.and_eq_true, decide_eq_true_eq, List.isEmpty_iff] at hc
  obtain ⟨hf, rfl, rfl, rfl⟩ := hc
  obtain ⟨hl, hx⟩ := fewS_iff.1 hf
  refine wf14 ah l up (ahI ah) (fun i _ _ => (ah.length - i).toNat) _ ?_ _ 0 [] [] ⟨by omega, by omega, ([], []), rfl, rfl, rfl, by simp, by simp⟩
  rintro i b m ⟨h0, h1, p, rfl, rfl, hk, hpl, hF⟩
  rw [← hF]
  unfold r14
  by_cases hi : i < ah.length
  · obtain ⟨d1, d2⟩ := drop_getD (Ty.dflt Ty.str) h0 hi
    generalize List.getD ah (Int.toNat i) (Ty.dflt Ty.str) = x at d1 d2
    have hxl := hx x d2
    rw [d1, List.foldl_cons] at hF
    obtain ⟨k1, k2⟩ := stN_k (p := p) (x := (x, false)) hk
    have k2 : (ahN p x).1.length ≤ p.1.length + x.length := k2
    have k1 : kOk (ahN p x).2 = true := k1
    have hpk : (pkC (bytesInt p.1) p.2 && Nat.ble x.length 100000000000) = true := by
      unfold pkC
      rw [bytesInt_ok, hk, bytesInt_len, Nat.ble_eq_true_of_le (by omega), Nat.ble_eq_true_of_le (by omega)]
      rfl
    rw [intB_bytes, IntWalk.i64_in _ (by omega)]
    refine Tr.all_t (dec_true hi) (Tr.all_t (dec_true h0) (Tr.all_t (dec_true hi) (Tr.all_t hpk (Tr.all_br (fun c1 => Tr.all_ret (.inr ?_)) fun c1 => Tr.all_ret (.inr ?_)))))
    · have e : ahN p x = nameP x p.1 p.2 := by unfold ahN stN; rw [c1]; rfl
      rw [e] at hF k1 k2
      exact ⟨_, _, _, rfl, ⟨by omega, by omega, nameP x p.1 p.2, rfl, rfl, k1, by omega, hF⟩, by omega⟩
    · have e : ahN p x = p := by unfold ahN stN; rw [c1]; rfl
      rw [e] at hF
      exact ⟨_, _, _, rfl, ⟨by omega, by omega, p, rfl, rfl, hk, by omega, hF⟩, by omega⟩
  · refine Tr.all_f (dec_false hi) (Tr.all_ret (.inl ?_))
    rw [List.drop_eq_nil_of_le (by omega)]
    rfl
noncomputable def b14b : Code := nthLoop c14 1
def ls14b : LoopSpec := { bid := 2, sh := [.d (.list (.pair (.int .u16) .str)) false, .d .bool false, .ptr 0 0, .row 3, .row 4, .d (.int .i64) false], so := [.box [.row 1, .mp 2], .row (.int .u8), .map .str (.int .i64), .row (.int .i64), .row (.int .i64)], F := fun (l, up, i, _) (_, b, m, at_, many, _) => .on2 (bkC b m at_ many i) (Nat.beq (smallI l).length (l.take 20).length) (.exit 2, [AV.list (.pair (.int .u16) .str) l, .dead, .bool up, .ptr 0 0, .rowA 3, .rowA 4], [.box [.rowA 1, .mp 2], .row (.int .u8) (bytesInt ((smallI l).foldl stD (intBytes b, m)).1), .mpo .str (.int .i64) ((smallI l).foldl stD (intBytes b, m)).2, .row (.int .i64) (atsD (smallI l) (intBytes b, m)).1, .row (.int .i64) (atsD (smallI l) (intBytes b, m)).2]) (.ret, [AV.list (.pair (.int .u16) .str) l, .bool up, .bool up, .ptr 0 0, .rowA 3, .rowA 4], [.box [.rowA 1, .mp 2], .row (.int .u8) (bytesInt ((smallI l).foldl stD (intBytes b, m)).1), .mpo .str (.int .i64) ((smallI l).foldl stD (intBytes b, m)).2, .row (.int .i64) (atsD (smallI l) (intBytes b, m)).1, .row (.int .i64) (atsD (smallI l) (intBytes b, m)).2]) }
def r14b (l : List (Int × List UInt8)) (up : Bool) (i : Int) (b : List Int) (m : List (List UInt8 × Int)) (at_ : List Int) (many : List Int) : Tr (St ⊕ (Ex × St)) := Tr.br (decide (i < (↑(List.length l) : Int))) (Tr.br (decide (i < (20 : Int))) (Tr.br (decide ((0 : Int) ≤ i)) (Tr.br (decide (i < (↑(List.length l) : Int))) (Tr.br (decide ((↑(List.length (Prod.snd (List.getD l (Int.toNat i) (Ty.dflt (Ty.pair (Ty.int IntKind.u16) Ty.str))))) : Int) > (700 : Int))) (Tr.ret (Sum.inr (Ex.ret, stOf [1, 4, 5, 6, 8, 9] [AV.list (Ty.pair (Ty.int IntKind.u16) Ty.str) l, AV.bool up, AV.bool up, AV.ptr 0 0, AV.rowA 3, AV.rowA 4] [LObj.boxT none [AV.rowA 1, AV.mp 2], LObj.row (Ty.int IntKind.u8) b, LObj.mpo Ty.str (Ty.int IntKind.i64) m, LObj.row (Ty.int IntKind.i64) at_, LObj.row (Ty.int IntKind.i64) many]))) (Tr.br (fits (List.length at_ + 1) 8) (Tr.br (decide ((0 : Int) ≤ i)) (Tr.br (decide (i < (↑(List.length l) : Int))) (Tr.br (decide ((0 : Int) ≤ i)) (Tr.br (decide (i < (↑(List.length l) : Int))) (Tr.br (pkT b m && Nat.ble (List.length (Prod.snd (List.getD l (Int.toNat i) (Ty.dflt (Ty.pair (Ty.int IntKind.u16) Ty.str))))) 1000000) (Tr.br (mayR (Prod.fst (List.getD l (Int.toNat i) (Ty.dflt (Ty.pair (Ty.int IntKind.u16) Ty.str)))) (Prod.snd (List.getD l (Int.toNat i) (Ty.dflt (Ty.pair (Ty.int IntKind.u16) Ty.str))))) (Tr.br (decide ((0 : Int) ≤ i)) (Tr.br (decide (i < (↑(List.length (at_ ++ [(↑(List.length b) : Int)])) : Int))) (Tr.br (fits (List.length many + 1) 8) (Tr.ret (Sum.inl (stOf [1, 5, 6, 8, 9, 10] [AV.list (Ty.pair (Ty.int IntKind.u16) Ty.str) l, AV.bool up, AV.ptr 0 0, AV.rowA 3, AV.rowA 4, AV.int IntKind.i64 (IntKind.wrap IntKind.i64 (i + (1 : Int)))] [LObj.boxT none [AV.rowA 1, AV.mp 2], LObj.row (Ty.int IntKind.u8) (bytesInt (Prod.fst (putR (Prod.fst (List.getD l (Int.toNat i) (Ty.dflt (Ty.pair (Ty.int IntKind.u16) Ty.str)))) (Prod.snd (List.getD l (Int.toNat i) (Ty.dflt (Ty.pair (Ty.int IntKind.u16) Ty.str)))) (intBytes b, m)))), LObj.mpo Ty.str (Ty.int IntKind.i64) (Prod.snd (putR (Prod.fst (List.getD l (Int.toNat i) (Ty.dflt (Ty.pair (Ty.int IntKind.u16) Ty.str)))) (Prod.snd (List.getD l (Int.toNat i) (Ty.dflt (Ty.pair (Ty.int IntKind.u16) Ty.str)))) (intBytes b, m))), LObj.row (Ty.int IntKind.i64) (at_ ++ [(↑(List.length b) : Int)]), LObj.row (Ty.int IntKind.i64) (many ++ [IntKind.wrap IntKind.i64 ((↑(List.length (bytesInt (Prod.fst (putR (Prod.fst (List.getD l (Int.toNat i) (Ty.dflt (Ty.pair (Ty.int IntKind.u16) Ty.str)))) (Prod.snd (List.getD l (Int.toNat i) (Ty.dflt (Ty.pair (Ty.int IntKind.u16) Ty.str)))) (intBytes b, m))))) : Int) - List.getD (at_ ++ [(↑(List.length b) : Int)]) (Int.toNat i) (Ty.dflt (Ty.int IntKind.i64)))])]))) Tr.no) Tr.no) Tr.no) (Tr.br (decide ((0 : Int) ≤ i)) (Tr.br (decide (i < (↑(List.length (at_ ++ [(↑(List.length b) : Int)])) : Int))) (Tr.br (fits (List.length many + 1) 8) (Tr.ret (Sum.inl (stOf [1, 5, 6, 8, 9, 10] [AV.list (Ty.pair (Ty.int IntKind.u16) Ty.str) l, AV.bool up, AV.ptr 0 0, AV.rowA 3, AV.rowA 4, AV.int IntKind.i64 (IntKind.wrap IntKind.i64 (i + (1 : Int)))] [LObj.boxT none [AV.rowA 1, AV.mp 2], LObj.row (Ty.int IntKind.u8) b, LObj.mpo Ty.str (Ty.int IntKind.i64) m, LObj.row (Ty.int IntKind.i64) (at_ ++ [(↑(List.length b) : Int)]), LObj.row (Ty.int IntKind.i64) (many ++ [IntKind.wrap IntKind.i64 ((↑(List.length b) : Int) - List.getD (at_ ++ [(↑(List.length b) : Int)]) (Int.toNat i) (Ty.dflt (Ty.int IntKind.i64)))])]))) Tr.no) Tr.no) Tr.no)) Tr.no) Tr.no) Tr.no) Tr.no) Tr.no) Tr.no)) Tr.no) Tr.no) (Tr.ret (Sum.inr (Ex.exit 2, stOf [1, 4, 5, 6, 8, 9] [AV.list (Ty.pair (Ty.int IntKind.u16) Ty.str) l, AV.dead, AV.bool up, AV.ptr 0 0, AV.rowA 3, AV.rowA 4] [LObj.boxT none [AV.rowA 1, AV.mp 2], LObj.row (Ty.int IntKind.u8) b, LObj.mpo Ty.str (Ty.int IntKind.i64) m, LObj.row (Ty.int IntKind.i64) at_, LObj.row (Ty.int IntKind.i64) many])))) (Tr.ret (Sum.inr (Ex.exit 2, stOf [1, 4, 5, 6, 8, 9] [AV.list (Ty.pair (Ty.int IntKind.u16) Ty.str) l, AV.dead, AV.bool up, AV.ptr 0 0, AV.rowA 3, AV.rowA 4] [LObj.boxT none [AV.rowA 1, AV.mp 2], LObj.row (Ty.int IntKind.u8) b, LObj.mpo Ty.str (Ty.int IntKind.i64) m, LObj.row (Ty.int IntKind.i64) at_, LObj.row (Ty.int IntKind.i64) many])))
set_option maxRecDepth 1000000 in
theorem round14b (lp : Lp) (l : List (Int × List UInt8)) (up : Bool) (i : Int) (b : List Int) (m : List (List UInt8 × Int)) (at_ : List Int) (many : List Int) : evC T0 (orcB [fs15w, fs38w, fs36w, fs32w] [os16, os24w, os26, os17w, os19]) lp b14b 2 (stOf [1, 5, 6, 8, 9, 10] [.list (.pair (.int .u16) .str) l, .bool up, .ptr 0 0, .rowA 3, .rowA 4, .int .i64 i] [.box [.rowA 1, .mp 2], .row (.int .u8) b, .mpo .str (.int .i64) m, .row (.int .i64) at_, .row (.int .i64) many]) (roundK [1, 5, 6, 8, 9, 10] [1, 4, 5, 6, 8, 9] 0) = (r14b l up i b m at_ many).get := by kernel_rfl
theorem wf14b (l : List (Int × List UInt8)) (up : Bool) (I'' : Int → List Int → List (List UInt8 × Int) → List Int → List Int → Prop) (m'' : Int → List Int → List (List UInt8 × Int) → List Int → List Int → Nat) (r'' : Ex × St) (h : ∀ (i : Int) (b : List Int) (m : List (List UInt8 × Int)) (at_ : List Int) (many : List Int), I'' i b m at_ many → (r14b l up i b m at_ many).all fun x'' => x'' = .inr r'' ∨ ∃ (i' : Int) (b' : List Int) (m' : List (List UInt8 × Int)) (at_' : List Int) (many' : List Int), x'' = .inl (stOf [1, 5, 6, 8, 9, 10] [.list (.pair (.int .u16) .str) l, .bool up, .ptr 0 0, .rowA 3, .rowA 4, .int .i64 i'] [.box [.rowA 1, .mp 2], .row (.int .u8) b', .mpo .str (.int .i64) m', .row (.int .i64) at_', .row (.int .i64) many']) ∧ I'' i' b' m' at_' many' ∧ m'' i' b' m' at_' many' < m'' i b m at_ many) (lp : Lp) (i : Int) (b : List Int) (m : List (List UInt8 × Int)) (at_ : List Int) (many : List Int) : I'' i b m at_ many →
    loopF (fun st => evC T0 (orcB [fs15w, fs38w, fs36w, fs32w] [os16, os24w, os26, os17w, os19]) lp b14b 2 st (roundK [1, 5, 6, 8, 9, 10] [1, 4, 5, 6, 8, 9] 0)) (stOf [1, 5, 6, 8, 9, 10] [.list (.pair (.int .u16) .str) l, .bool up, .ptr 0 0, .rowA 3, .rowA 4, .int .i64 i] [.box [.rowA 1, .mp 2], .row (.int .u8) b, .mpo .str (.int .i64) m, .row (.int .i64) at_, .row (.int .i64) many]) = some r'' :=
  loop_tr (fun a'' : Int × List Int × List (List UInt8 × Int) × List Int × List Int => stOf [1, 5, 6, 8, 9, 10] [.list (.pair (.int .u16) .str) l, .bool up, .ptr 0 0, .rowA 3, .rowA 4, .int .i64 a''.1] [.box [.rowA 1, .mp 2], .row (.int .u8) a''.2.1, .mpo .str (.int .i64) a''.2.2.1, .row (.int .i64) a''.2.2.2.1, .row (.int .i64) a''.2.2.2.2]) (fun a'' => I'' a''.1 a''.2.1 a''.2.2.1 a''.2.2.2.1 a''.2.2.2.2) (fun a'' => m'' a''.1 a''.2.1 a''.2.2.1 a''.2.2.2.1 a''.2.2.2.2) r'' (fun a'' => r14b l up a''.1 a''.2.1 a''.2.2.1 a''.2.2.2.1 a''.2.2.2.2)
    (fun a'' x hx => (round14b lp l up a''.1 a''.2.1 a''.2.2.1 a''.2.2.2.1 a''.2.2.2.2).trans hx) (fun a'' ha => Tr.all_mono (fun x'' hx => hx.imp id fun ⟨i', b', m', at_', many', h1, h2, h3⟩ => ⟨(i', b', m', at_', many'), h1, h2, h3⟩) (h (a''.1) (a''.2.1) (a''.2.2.1) (a''.2.2.2.1) (a''.2.2.2.2) ha)) (i, b, m, at_, many)
def itI (l : Items) (p0 : PKt) (i : Int) (b : List Int) (m : Known) (at_ many : List Int) : Prop := 0 ≤ i ∧ i ≤ 20 ∧ i ≤ l.length ∧ at_.length = i.toNat ∧ many.length = i.toNat ∧ ∃ p : PKt, b = bytesInt p.1 ∧ m = p.2 ∧ kOk p.2 = true ∧ p.1.length ≤ 100000 + 700 * i.toNat ∧
  (((l.take 20).drop i.toNat).takeWhile fun x => decide (x.2.length ≤ 700)).foldl stD p = (smallI l).foldl stD p0 ∧
  at_ ++ (atsD (((l.take 20).drop i.toNat).takeWhile fun x => decide (x.2.length ≤ 700)) p).1 = (atsD (smallI l) p0).1 ∧
  many ++ (atsD (((l.take 20).drop i.toNat).takeWhile fun x => decide (x.2.length ≤ 700)) p).2 = (atsD (smallI l) p0).2 ∧
  (smallI l).length = i.toNat + (((l.take 20).drop i.toNat).takeWhile fun x => decide (x.2.length ≤ 700)).length
theorem getD_last {α : Type} (l : List α) (v d : α) {n : Nat} (h : l.length = n) : (l ++ [v]).getD n d = v := by
  rw [List.getD_eq_getElem?_getD, List.getElem?_append_right (by omega), h, Nat.sub_self]
  rfl
theorem stD_k {p : PKt} {x : Int × List UInt8} (h : kOk p.2 = true) : kOk (stD p x).2 = true ∧ (stD p x).1.length ≤ p.1.length + x.2.length := by
  unfold stD
  cases hm : mayR x.1 x.2 with
  | false => exact ⟨h, by simp⟩
  | true =>
    obtain ⟨q1, q2⟩ := putS_len (layV x.1) (partsV x.1 x.2) p h
    rw [(may_parts hm).2.2.2.2.2] at q2
    exact ⟨q1, q2⟩
theorem loop14b : ls14b.Ok T0 (orcB [fs15w, fs38w, fs36w, fs32w] [os16, os24w, os26, os17w, os19]) h14 0 0 b14b := by
  intro q'' hq'' x'' y'' r'' h
  obtain ⟨(l : List (Int × List UInt8)), (up : Bool), (i : Int), _⟩ := x''
  obtain ⟨_, (b : List Int), (m : List (List UInt8 × Int)), (at_ : List Int), (many : List Int), _⟩ := y''
  obtain ⟨hc, rfl⟩ := Tr.get_on2 h
  show loopF (fun st => evC T0 (orcB [fs15w, fs38w, fs36w, fs32w] [os16, os24w, os26, os17w, os19]) (lpN T0 (orcB [fs15w, fs38w, fs36w, fs32w] [os16, os24w, os26, os17w, os19]) h14 0 q'') b14b 2 st (roundK [1, 5, 6, 8, 9, 10] [1, 4, 5, 6, 8, 9] 0)) (stOf [1, 5, 6, 8, 9, 10] [.list (.pair (.int .u16) .str) l, .bool up, .ptr 0 0, .rowA 3, .rowA 4, .int .i64 i] [.box [.rowA 1, .mp 2], .row (.int .u8) b, .mpo .str (.int .i64) m, .row (.int .i64) at_, .row (.int .i64) many]) = some ((bif Nat.beq (smallI l).length (l.take 20).length then (.exit 2, [AV.list (.pair (.int .u16) .str) l, .dead, .bool up, .ptr 0 0, .rowA 3, .rowA 4], [.box [.rowA 1, .mp 2], .row (.int .u8) (bytesInt ((smallI l).foldl stD (intBytes b, m)).1), .mpo .str (.int .i64) ((smallI l).foldl stD (intBytes b, m)).2, .row (.int .i64) (atsD (smallI l) (intBytes b, m)).1, .row (.int .i64) (atsD (smallI l) (intBytes b, m)).2]) else (.ret, [AV.list (.pair (.int .u16) .str) l, .bool up, .bool up, .ptr 0 0, .rowA 3, .rowA 4], [.box [.rowA 1, .mp 2], .row (.int .u8) (bytesInt ((smallI l).foldl stD (intBytes b, m)).1), .mpo .str (.int .i64) ((smallI l).foldl stD (intBytes b, m)).2, .row (.int .i64) (atsD (smallI l) (intBytes b, m)).1, .row (.int .i64) (atsD (smallI l) (intBytes b, m)).2]) : Ex × List AV × List LObj).1, stOf [1, 4, 5, 6, 8, 9] (bif Nat.beq (smallI l).length (l.take 20).length then (.exit 2, [AV.list (.pair (.int .u16) .str) l, .dead, .bool up, .ptr 0 0, .rowA 3, .rowA 4], [.box [.rowA 1, .mp 2], .row (.int .u8) (bytesInt ((smallI l).foldl stD (intBytes b, m)).1), .mpo .str (.int .i64) ((smallI l).foldl stD (intBytes b, m)).2, .row (.int .i64) (atsD (smallI l) (intBytes b, m)).1, .row (.int .i64) (atsD (smallI l) (intBytes b, m)).2]) else (.ret, [AV.list (.pair (.int .u16) .str) l, .bool up, .bool up, .ptr 0 0, .rowA 3, .rowA 4], [.box [.rowA 1, .mp 2], .row (.int .u8) (bytesInt ((smallI l).foldl stD (intBytes b, m)).1), .mpo .str (.int .i64) ((smallI l).foldl stD (intBytes b, m)).2, .row (.int .i64) (atsD (smallI l) (intBytes b, m)).1, .row (.int .i64) (atsD (smallI l) (intBytes b, m)).2]) : Ex × List AV × List LObj).2.1 (bif Nat.beq (smallI l).length (l.take 20).length then (.exit 2, [AV.list (.pair (.int .u16) .str) l, .dead, .bool up, .ptr 0 0, .rowA 3, .rowA 4], [.box [.rowA 1, .mp 2], .row (.int .u8) (bytesInt ((smallI l).foldl stD (intBytes b, m)).1), .mpo .str (.int .i64) ((smallI l).foldl stD (intBytes b, m)).2, .row (.int .i64) (atsD (smallI l) (intBytes b, m)).1, .row (.int .i64) (atsD (smallI l) (intBytes b, m)).2]) else (.ret, [AV.list (.pair (.int .u16) .str) l, .bool up, .bool up, .ptr 0 0, .rowA 3, .rowA 4], [.box [.rowA 1, .mp 2], .row (.int .u8) (bytesInt ((smallI l).foldl stD (intBytes b, m)).1), .mpo .str (.int .i64) ((smallI l).foldl stD (intBytes b, m)).2, .row (.int .i64) (atsD (smallI l) (intBytes b, m)).1, .row (.int .i64) (atsD (smallI l) (intBytes b, m)).2]) : Ex × List AV × List LObj).2.2)
  simp only [bkC, Bool.and_eq_true, decide_eq_true_eq, List.isEmpty_iff] at hc
  obtain ⟨hok, hk, hb, rfl, rfl, rfl⟩ := hc
  have hb := Nat.le_of_ble_eq_true hb
  refine wf14b l up (itI l (intBytes b, m)) (fun i _ _ _ _ => (20 - i).toNat) _ ?_ _ 0 b m [] [] ⟨by omega, by omega, by omega, rfl, rfl, (intBytes b, m), (bytes_intB hok).symm, rfl, hk, by rw [intB_len]; omega, rfl, rfl, rfl, by simp [smallI]⟩
  clear hok hk hb
  rintro i b' m' at_ many ⟨h0, h20, h1, hla, hlm, p, rfl, rfl, hk, hpl, hF, hA, hM, hN⟩
  rw [← hF, ← hA, ← hM]
  unfold r14b
  have hexit : ((l.take 20).drop i.toNat) = [] → Nat.beq (smallI l).length (l.take 20).length = true := fun h => by
    have := congrArg List.length h
    rw [List.length_drop] at this
    rw [h] at hN
    rw [hN]
    simp at this ⊢
    omega
  by_cases hi : i < l.length
  · by_cases hi20 : i < 20
    · have hlt : i.toNat < (l.take 20).length := by rw [List.length_take]; omega
      have hrem : (l.take 20).drop i.toNat = l.getD i.toNat (Ty.dflt (Ty.pair (Ty.int IntKind.u16) Ty.str)) :: (l.take 20).drop (i + 1).toNat := by
        rw [List.drop_eq_getElem_cons hlt, show (i + 1).toNat = i.toNat + 1 by omega, List.getElem_take, List.getD_eq_getElem?_getD, List.getElem?_eq_getElem (by omega)]
        rfl
      generalize List.getD l i.toNat (Ty.dflt (Ty.pair (Ty.int IntKind.u16) Ty.str)) = x at hrem
      rw [hrem, List.takeWhile_cons] at hF hA hM hN ⊢
      refine Tr.all_t (dec_true hi) (Tr.all_t (dec_true hi20) (Tr.all_t (dec_true h0) (Tr.all_t (dec_true hi) (Tr.all_br (fun c => Tr.all_ret (.inl ?_)) fun c => ?_))))
      · simp only [decide_eq_true_eq] at c
        have hd : decide (x.2.length ≤ 700) = false := decide_eq_false (by omega)
        rw [hd, if_neg Bool.false_ne_true] at hN ⊢
        have hb2 : Nat.beq (smallI l).length (l.take 20).length = false := by
          cases hq : Nat.beq (smallI l).length (l.take 20).length with
          | false => rfl
          | true =>
            have := Nat.eq_of_beq_eq_true hq
            rw [hN] at this
            simp only [List.length_nil] at this
            omega
        rw [hb2]
        simp [atsD]
      · simp only [decide_eq_false_iff_not] at c
        have hd : decide (x.2.length ≤ 700) = true := decide_eq_true (by omega)
        rw [hd, if_pos rfl] at hF hA hM hN
        rw [List.foldl_cons] at hF
        simp only [atsD, List.length_cons] at hA hM hN
        obtain ⟨k1, k2⟩ := stD_k (p := p) (x := x) hk
        have fa : fits (at_.length + 1) 8 = true := fits_true (by omega) (by omega)
        have fm : fits (many.length + 1) 8 = true := fits_true (by omega) (by omega)
        have hpk : (pkT (bytesInt p.1) p.2 && Nat.ble x.2.length 1000000) = true := by
          unfold pkT
          rw [bytesInt_ok, hk, bytesInt_len, Nat.ble_eq_true_of_le (by omega), Nat.ble_eq_true_of_le (by omega)]
          rfl
        have hal : decide (i < ((at_ ++ [(p.1.length : Int)]).length : Int)) = true := decide_eq_true (by simp; omega)
        have hA2 : (at_ ++ [(p.1.length : Int)]) ++ (atsD (((l.take 20).drop (i + 1).toNat).takeWhile fun x => decide (x.2.length ≤ 700)) (stD p x)).1 = (atsD (smallI l) (intBytes b, m)).1 := by rw [← hA, List.append_assoc]; rfl
        have hM2 : (many ++ [((stD p x).1.length : Int) - (p.1.length : Int)]) ++ (atsD (((l.take 20).drop (i + 1).toNat).takeWhile fun x => decide (x.2.length ≤ 700)) (stD p x)).2 = (atsD (smallI l) (intBytes b, m)).2 := by rw [← hM, List.append_assoc]; rfl
        have hpe : ((p.1, p.2) : PKt) = p := rfl
        rw [intB_bytes, IntWalk.i64_in (i + 1) (by omega), hpe]
        simp only [bytesInt_len]
        rw [getD_last _ _ _ hla]
        refine Tr.all_t fa (Tr.all_t (dec_true h0) (Tr.all_t (dec_true hi) (Tr.all_t (dec_true h0) (Tr.all_t (dec_true hi) (Tr.all_t hpk (Tr.all_br (fun c1 => Tr.all_t (dec_true h0) (Tr.all_t hal (Tr.all_t fm (Tr.all_ret (.inr ?_))))) fun c1 => Tr.all_t (dec_true h0) (Tr.all_t hal (Tr.all_t fm (Tr.all_ret (.inr ?_))))))))))
        · have e : stD p x = putR x.1 x.2 p := by unfold stD; rw [c1]; rfl
          rw [e] at hF hA2 hM2 k1 k2
          rw [IntWalk.i64_in _ (by omega)]
          exact ⟨_, _, _, _, _, rfl, ⟨by omega, by omega, by omega, by simp; omega, by simp; omega, putR x.1 x.2 p, rfl, rfl, k1, by omega, hF, hA2, hM2, by omega⟩, by omega⟩
        · have e : stD p x = p := by unfold stD; rw [c1]; rfl
          rw [e] at hF hA2 hM2
          rw [IntWalk.i64_in _ (by omega)]
          exact ⟨_, _, _, _, _, rfl, ⟨by omega, by omega, by omega, by simp; omega, by simp; omega, p, rfl, rfl, hk, by omega, hF, hA2, hM2, by omega⟩, by omega⟩
    · have he : (l.take 20).drop i.toNat = [] := List.drop_eq_nil_of_le (by rw [List.length_take]; omega)
      rw [hexit he, he]
      refine Tr.all_t (dec_true hi) (Tr.all_f (dec_false hi20) (Tr.all_ret (.inl ?_)))
      simp [atsD]
  · have he : (l.take 20).drop i.toNat = [] := List.drop_eq_nil_of_le (by rw [List.length_take]; omega)
    rw [hexit he, he]
    refine Tr.all_f (dec_false hi) (Tr.all_ret (.inl ?_))
    simp [atsD]
noncomputable def b14c : Code := nthLoop c14 2
def ls14c : LoopSpec := { bid := 4, sh := [.d (.list (.pair (.int .u16) .str)) false, .d .bool false, .row 0, .row 1, .d .str false, .d (.int .i64) false], so := [.row (.int .i64), .row (.int .i64)], F := fun (l, up, s, i, _) (at_, many, _) => .on (decide (i = 0) && bkE l s at_ many) (.exit 4, [.dead, .bool up], []) }
def r14c (l : List (Int × List UInt8)) (up : Bool) (s : List UInt8) (i : Int) (at_ : List Int) (many : List Int) : Tr (St ⊕ (Ex × St)) := Tr.br (decide (i < (↑(List.length at_) : Int))) (Tr.br (decide ((0 : Int) ≤ i)) (Tr.br (decide (i < (↑(List.length at_) : Int))) (Tr.br (decide ((0 : Int) ≤ i)) (Tr.br (decide (i < (↑(List.length many) : Int))) (Tr.br (decide ((0 : Int) ≤ i)) (Tr.br (decide (i < (↑(List.length l) : Int))) (Tr.br (smS s) (Tr.br (decide ((0 : Int) ≤ i)) (Tr.br (decide (i < (↑(List.length l) : Int))) (Tr.br (decide ((0 : Int) ≤ i)) (Tr.br (decide (i < (↑(List.length l) : Int))) (Tr.br (bigS (Prod.snd (List.getD l (Int.toNat i) (Ty.dflt (Ty.pair (Ty.int IntKind.u16) Ty.str))))) (Tr.br (mayR (Prod.fst (List.getD l (Int.toNat i) (Ty.dflt (Ty.pair (Ty.int IntKind.u16) Ty.str)))) (Prod.snd (List.getD l (Int.toNat i) (Ty.dflt (Ty.pair (Ty.int IntKind.u16) Ty.str))))) (Tr.br ((if Option.isSome (takeV s (List.getD at_ (Int.toNat i) (Ty.dflt (Ty.int IntKind.i64))) (List.getD many (Int.toNat i) (Ty.dflt (Ty.int IntKind.i64))) (Prod.fst (List.getD l (Int.toNat i) (Ty.dflt (Ty.pair (Ty.int IntKind.u16) Ty.str))))) = true then (0 : Int) else (2 : Ty.den (Ty.int IntKind.i64))) != (0 : Int)) (Tr.ret (Sum.inr (Ex.ret, stOf [4, 5] [AV.bool false, AV.bool up] []))) (Tr.br (decide ((0 : Int) ≤ i)) (Tr.br (decide (i < (↑(List.length l) : Int))) (Tr.br (!Option.getD (takeV s (List.getD at_ (Int.toNat i) (Ty.dflt (Ty.int IntKind.i64))) (List.getD many (Int.toNat i) (Ty.dflt (Ty.int IntKind.i64))) (Prod.fst (List.getD l (Int.toNat i) (Ty.dflt (Ty.pair (Ty.int IntKind.u16) Ty.str))))) [] == Prod.snd (List.getD l (Int.toNat i) (Ty.dflt (Ty.pair (Ty.int IntKind.u16) Ty.str)))) (Tr.ret (Sum.inr (Ex.ret, stOf [4, 5] [AV.bool false, AV.bool up] []))) (Tr.ret (Sum.inl (stOf [1, 5, 8, 9, 11, 12] [AV.list (Ty.pair (Ty.int IntKind.u16) Ty.str) l, AV.bool up, AV.rowA 0, AV.rowA 1, AV.str s, AV.int IntKind.i64 (IntKind.wrap IntKind.i64 (i + (1 : Int)))] [LObj.row (Ty.int IntKind.i64) at_, LObj.row (Ty.int IntKind.i64) many])))) Tr.no) Tr.no)) (Tr.ret (Sum.inl (stOf [1, 5, 8, 9, 11, 12] [AV.list (Ty.pair (Ty.int IntKind.u16) Ty.str) l, AV.bool up, AV.rowA 0, AV.rowA 1, AV.str s, AV.int IntKind.i64 (IntKind.wrap IntKind.i64 (i + (1 : Int)))] [LObj.row (Ty.int IntKind.i64) at_, LObj.row (Ty.int IntKind.i64) many])))) Tr.no) Tr.no) Tr.no) Tr.no) Tr.no) Tr.no) Tr.no) Tr.no) Tr.no) Tr.no) Tr.no) Tr.no) (Tr.ret (Sum.inr (Ex.exit 4, stOf [4, 5] [AV.dead, AV.bool up] [])))
set_option maxRecDepth 1000000 in
theorem round14c (lp : Lp) (l : List (Int × List UInt8)) (up : Bool) (s : List UInt8) (i : Int) (at_ : List Int) (many : List Int) : evC T0 (orcB [fs15w, fs38w, fs36w, fs32w] [os16, os24w, os26, os17w, os19]) lp b14c 4 (stOf [1, 5, 8, 9, 11, 12] [.list (.pair (.int .u16) .str) l, .bool up, .rowA 0, .rowA 1, .str s, .int .i64 i] [.row (.int .i64) at_, .row (.int .i64) many]) (roundK [1, 5, 8, 9, 11, 12] [4, 5] 0) = (r14c l up s i at_ many).get := by kernel_rfl
theorem wf14c (l : List (Int × List UInt8)) (up : Bool) (s : List UInt8) (at_ : List Int) (many : List Int) (I'' : Int → Prop) (m'' : Int → Nat) (r'' : Ex × St) (h : ∀ (i : Int), I'' i → (r14c l up s i at_ many).all fun x'' => x'' = .inr r'' ∨ ∃ (i' : Int), x'' = .inl (stOf [1, 5, 8, 9, 11, 12] [.list (.pair (.int .u16) .str) l, .bool up, .rowA 0, .rowA 1, .str s, .int .i64 i'] [.row (.int .i64) at_, .row (.int .i64) many]) ∧ I'' i' ∧ m'' i' < m'' i) (lp : Lp) (i : Int) : I'' i →
    loopF (fun st => evC T0 (orcB [fs15w, fs38w, fs36w, fs32w] [os16, os24w, os26, os17w, os19]) lp b14c 4 st (roundK [1, 5, 8, 9, 11, 12] [4, 5] 0)) (stOf [1, 5, 8, 9, 11, 12] [.list (.pair (.int .u16) .str) l, .bool up, .rowA 0, .rowA 1, .str s, .int .i64 i] [.row (.int .i64) at_, .row (.int .i64) many]) = some r'' :=
  loop_tr (fun a'' : Int => stOf [1, 5, 8, 9, 11, 12] [.list (.pair (.int .u16) .str) l, .bool up, .rowA 0, .rowA 1, .str s, .int .i64 a''] [.row (.int .i64) at_, .row (.int .i64) many]) (fun a'' => I'' a'') (fun a'' => m'' a'') r'' (fun a'' => r14c l up s a'' at_ many)
    (fun a'' x hx => (round14c lp l up s a'' at_ many).trans hx) (fun a'' ha => Tr.all_mono (fun x'' hx => hx.imp id fun ⟨i', h1, h2, h3⟩ => ⟨(i'), h1, h2, h3⟩) (h (a'') ha)) (i)
theorem loop14c : ls14c.Ok T0 (orcB [fs15w, fs38w, fs36w, fs32w] [os16, os24w, os26, os17w, os19]) h14 0 0 b14c := by
  intro q'' hq'' x'' y'' r'' h
  obtain ⟨(l : List (Int × List UInt8)), (up : Bool), (s : List UInt8), (i : Int), _⟩ := x''
  obtain ⟨(at_ : List Int), (many : List Int), _⟩ := y''
  obtain ⟨hc, rfl⟩ := Tr.get_on h
  show loopF (fun st => evC T0 (orcB [fs15w, fs38w, fs36w, fs32w] [os16, os24w, os26, os17w, os19]) (lpN T0 (orcB [fs15w, fs38w, fs36w, fs32w] [os16, os24w, os26, os17w, os19]) h14 0 q'') b14c 4 st (roundK [1, 5, 8, 9, 11, 12] [4, 5] 0)) (stOf [1, 5, 8, 9, 11, 12] [.list (.pair (.int .u16) .str) l, .bool up, .rowA 0, .rowA 1, .str s, .int .i64 i] [.row (.int .i64) at_, .row (.int .i64) many]) = some (.exit 4, stOf [4, 5] ([.dead, .bool up]) ([]))
  simp only [bkE, Bool.and_eq_true, decide_eq_true_eq, List.all_eq_true, List.mem_range, Bool.or_eq_true, Bool.not_eq_true', beq_iff_eq] at hc
  obtain ⟨rfl, hs, hl, hl20, hm, hx⟩ := hc
  refine wf14c l up _ _ _ (fun i => 0 ≤ i) (fun i => (at_.length - i).toNat) _ ?_ _ 0 (by omega)
  intro i h0
  unfold r14c
  have hsl : s.length ≤ 100000000 := by simpa [smS] using hs
  by_cases hi : i < at_.length
  · obtain ⟨x1, x2⟩ := hx i.toNat (by omega)
    have hil : i < (l.length : Int) := by omega
    have him : i < (many.length : Int) := by omega
    have e0 : (Ty.dflt (Ty.pair (Ty.int IntKind.u16) Ty.str) : Int × List UInt8) = (0, []) := rfl
    have e1 : (Ty.dflt (Ty.int IntKind.i64) : Int) = 0 := rfl
    rw [IntWalk.i64_in _ (by omega)]
    refine Tr.all_t (dec_true hi) (Tr.all_t (dec_true h0) (Tr.all_t (dec_true hi) (Tr.all_t (dec_true h0) (Tr.all_t (dec_true him) (Tr.all_t (dec_true h0) (Tr.all_t (dec_true hil) (Tr.all_t hs (Tr.all_t (dec_true h0) (Tr.all_t (dec_true hil) (Tr.all_t (dec_true h0) (Tr.all_t (dec_true hil) (Tr.all_t ?_ (Tr.all_br (fun c => ?_) fun c => Tr.all_ret (.inr ⟨_, rfl, by omega, by omega⟩))))))))))))))
    · rw [e0]
      exact decide_eq_true (by omega)
    · rw [e0] at c ⊢
      rw [e1]
      have ht := x2.resolve_left (by rw [c]; simp)
      rw [ht]
      exact Tr.all_f rfl (Tr.all_t (dec_true h0) (Tr.all_t (dec_true hil) (Tr.all_f (by simp) (Tr.all_ret (.inr ⟨_, rfl, by omega, by omega⟩)))))
  · exact Tr.all_f (dec_false hi) (Tr.all_ret (.inl rfl))
/-- derricklaw04.RdataBack -/
def t14 (ah : List (List UInt8)) (l : List (Int × List UInt8)) : Tr Res := Tr.br (!fewS ah) (Tr.ret ([AV.bool true], [])) (Tr.br (fewS ah && (decide ((0 : Int) = (0 : Ty.den (Ty.int IntKind.i64))) && p0C [] [])) (Tr.br (bkC (bytesInt (Prod.fst (List.foldl ahN ([], []) ah))) (Prod.snd (List.foldl ahN ([], []) ah)) [] [] (0 : Int)) (Tr.br (Nat.beq (List.length (smallI l)) (List.length (List.take 20 l))) (Tr.br (decide ((0 : Int) = (0 : Ty.den (Ty.int IntKind.i64))) && bkE l (intBytes (bytesInt (Prod.fst (List.foldl stD (intBytes (bytesInt (Prod.fst (List.foldl ahN ([], []) ah))), Prod.snd (List.foldl ahN ([], []) ah)) (smallI l))))) (Prod.fst (atsD (smallI l) (intBytes (bytesInt (Prod.fst (List.foldl ahN ([], []) ah))), Prod.snd (List.foldl ahN ([], []) ah)))) (Prod.snd (atsD (smallI l) (intBytes (bytesInt (Prod.fst (List.foldl ahN ([], []) ah))), Prod.snd (List.foldl ahN ([], []) ah))))) (Tr.ret ([AV.bool true], [])) Tr.no) (Tr.ret ([AV.bool true], []))) Tr.no) Tr.no)
def os14 : OSpec := { f := 14, sh := [.d (.list .str) false, .d (.list (.pair (.int .u16) .str)) false], so := [], F := fun (ah, l, _) _ => t14 ah l }
set_option maxRecDepth 1000000 in
theorem fn14 (ah : List (List UInt8)) (l : List (Int × List UInt8)) : evC T0 (orcB [fs15w, fs38w, fs36w, fs32w] [os16, os24w, os26, os17w, os19]) (lpOf h14 0 (lsOf [ls14, ls14b, ls14c])) c14 1000000 (startSt [.list .str ah, .list (.pair (.int .u16) .str) l] [] Try.f14.ntmps) (finishK T0 false 0 Try.f14) = (t14 ah l).get := by kernel_rfl
theorem ok14 : os14.Ok Try.prog := by
  refine os_ok mixed0 tab0 (orcB_sound (all_cons okf15w (all_cons okf38w (all_cons okf36w (all_cons okf32w all_nil)))) (all_cons ok16 (all_cons ok24w (all_cons ok26 (all_cons ok17w (all_cons ok19 all_nil)))))) h14 (d := 0) (n0 := 0) (S := lsOf [ls14, ls14b, ls14c]) Try.func14 (by kernel_rfl) (c := c14) (by kernel_rfl) rfl (loops_eq (xs := [(0, b14), (2, b14b), (4, b14c)]) (by kernel_rfl) (all_cons (ls_here loop14) (all_cons (ls_skip (by kernel_rfl) (ls_here loop14b)) (all_cons (ls_skip (by kernel_rfl) (ls_skip (by kernel_rfl) (ls_here loop14c))) all_nil)))) (by omega) (by kernel_rfl) ?_
  intro x'' y'' q'' hq''
  obtain ⟨(ah : List (List UInt8)), (l : List (Int × List UInt8)), _⟩ := x''
  exact (fn14 ah l).trans hq''
def fs14 : FSpec := fsT 14 [((.list .str), false), ((.list (.pair (.int .u16) .str)), false)] [(.bool, false)] fun (ah, l, _) => t14 ah l
theorem okf14 : fs14.Ok Try.prog := fsT_ok fun x'' r'' hr'' => ok14 x'' () r'' hr''
theorem stD_pre {p : PKt} {x : Int × List UInt8} (h : PI p.1 p.2) : PI (stD p x).1 (stD p x).2 ∧ ∃ T, (stD p x).1 = p.1 ++ T := by
  unfold stD
  cases hm : mayR x.1 x.2 with
  | false => exact ⟨h, [], by simp⟩
  | true => exact ⟨(putR_take hm h []).1, (putR_take hm h []).2.1⟩
theorem foldD_pre : ∀ (l : Items) (p : PKt), PI p.1 p.2 → ∃ X, (l.foldl stD p).1 = p.1 ++ X
  | [], p, _ => ⟨[], by simp⟩
  | x :: l, p, h => by
    obtain ⟨h1, T, h2⟩ := stD_pre (x := x) h
    obtain ⟨X, h3⟩ := foldD_pre l (stD p x) h1
    exact ⟨T ++ X, by rw [List.foldl_cons, h3, h2, List.append_assoc]⟩
theorem atsD_len : ∀ (l : Items) (p : PKt), (atsD l p).1.length = l.length ∧ (atsD l p).2.length = l.length
  | [], _ => ⟨rfl, rfl⟩
  | x :: l, p => by
    obtain ⟨h1, h2⟩ := atsD_len l (stD p x)
    simp [atsD, h1, h2]
theorem ats_take : ∀ (l : Items) (p : PKt), PI p.1 p.2 → ∀ i (hi : i < l.length), mayR l[i].1 l[i].2 = true → takeV (l.foldl stD p).1 ((atsD l p).1.getD i 0) ((atsD l p).2.getD i 0) l[i].1 = some l[i].2
  | [], _, _, i, hi, _ => by simp at hi
  | x :: l, p, h, i, hi, hm => by
    obtain ⟨h1, T, hT⟩ := stD_pre (x := x) h
    cases i with
    | zero =>
      have hm : mayR x.1 x.2 = true := hm
      obtain ⟨X, hX⟩ := foldD_pre l (stD p x) h1
      have hs : stD p x = putR x.1 x.2 p := by unfold stD; rw [hm]; rfl
      obtain ⟨_, _, ht⟩ := putR_take hm h X
      rw [List.foldl_cons, hX]
      show takeV _ (p.1.length : Int) (((stD p x).1.length : Int) - (p.1.length : Int)) x.1 = some x.2
      rw [hs]
      exact ht
    | succ i => exact ats_take l (stD p x) h1 i (by simpa using hi) hm
theorem foldA_pi : ∀ (l : List (List UInt8)) (p : PKt), PI p.1 p.2 → PI (l.foldl ahN p).1 (l.foldl ahN p).2
  | [], _, h => h
  | x :: l, p, h => by
    rw [List.foldl_cons]
    refine foldA_pi l _ ?_
    unfold ahN stN
    cases hm : mayV x with
    | false => exact h
    | true =>
      obtain ⟨T, N', a1, a2, a3, _⟩ := name_put hm h
      rw [cond_true]
      simp only
      rw [a1, a2]
      exact a3
theorem foldA_len : ∀ (l : List (List UInt8)) (p : PKt), kOk p.2 = true → (∀ x ∈ l, x.length ≤ 700) → (l.foldl ahN p).1.length ≤ p.1.length + 700 * l.length
  | [], _, _, _ => by simp
  | x :: l, p, h, hx => by
    obtain ⟨k1, k2⟩ := stN_k (p := p) (x := (x, false)) h
    have k2 : (ahN p x).1.length ≤ p.1.length + x.length := k2
    have := foldA_len l (ahN p x) k1 fun y hy => hx y (List.mem_cons_of_mem _ hy)
    have := hx x List.mem_cons_self
    rw [List.foldl_cons]
    simp only [List.length_cons]
    omega
theorem foldD_len : ∀ (l : Items) (p : PKt), kOk p.2 = true → (∀ x ∈ l, x.2.length ≤ 700) → (l.foldl stD p).1.length ≤ p.1.length + 700 * l.length
  | [], _, _, _ => by simp
  | x :: l, p, h, hx => by
    obtain ⟨k1, k2⟩ := stD_k (p := p) (x := x) h
    have := foldD_len l (stD p x) k1 fun y hy => hx y (List.mem_cons_of_mem _ hy)
    have := hx x List.mem_cons_self
    rw [List.foldl_cons]
    simp only [List.length_cons]
    omega
theorem in_while {α : Type} {p : α → Bool} : ∀ {l : List α} {x : α}, x ∈ l.takeWhile p → p x = true
  | y :: l, x, h => by
    rw [List.takeWhile_cons] at h
    cases hp : p y with
    | true =>
      rw [hp, if_pos rfl] at h
      rcases List.mem_cons.1 h with rfl | h
      · exact hp
      · exact in_while h
    | false =>
      rw [hp, if_neg Bool.false_ne_true] at h
      cases h
theorem rdataBack_all (ah : List (List UInt8)) (l : Items) : (t14 ah l).all fun x => x = ([.bool true], []) := by
  unfold t14
  cases hf : fewS ah with
  | false => exact Tr.all_t rfl (Tr.all_ret rfl)
  | true =>
    obtain ⟨hl, hx⟩ := fewS_iff.1 hf
    have hPI : PI (ah.foldl ahN ([], [])).1 (ah.foldl ahN ([], [])).2 := foldA_pi ah ([], []) fun n a h => by cases h
    have hlen := foldA_len ah ([], []) rfl hx
    generalize ah.foldl ahN ([], []) = p at hPI hlen
    obtain ⟨S, L⟩ := p
    simp only [List.length_nil] at hPI hlen ⊢
    rw [intB_bytes, intB_bytes]
    have hbk : bkC (bytesInt S) L [] [] 0 = true := by
      unfold bkC
      rw [bytesInt_ok, show kOk L = true from hPI.kOk, bytesInt_len, Nat.ble_eq_true_of_le (by omega)]
      rfl
    refine Tr.all_f rfl (Tr.all_t rfl (Tr.all_t hbk (Tr.all_br (fun c => Tr.all_t ?_ (Tr.all_ret rfl)) fun c => Tr.all_ret rfl)))
    have hc := Nat.eq_of_beq_eq_true c
    have hall : smallI l = l.take 20 := (List.takeWhile_prefix _).eq_of_length hc
    have hsm : ∀ x ∈ smallI l, x.2.length ≤ 700 := fun x hx => by
      have := in_while hx
      simpa using this
    have hsl : (smallI l).length ≤ 20 := by rw [hall, List.length_take]; omega
    obtain ⟨a1, a2⟩ := atsD_len (smallI l) (S, L)
    have hd := foldD_len (smallI l) (S, L) hPI.kOk hsm
    have hget : ∀ i (hi : i < (smallI l).length), l.getD i (0, []) = (smallI l)[i] := fun i hi => by
      have hi2 : i < (l.take 20).length := by rw [← hall]; exact hi
      have : (smallI l)[i] = (l.take 20)[i] := by congr 1
      rw [this, List.getElem_take, List.getD_eq_getElem?_getD, List.getElem?_eq_getElem (by rw [List.length_take] at hi2; omega)]
      rfl
    simp only [Bool.and_eq_true, bkE, decide_eq_true_eq, List.all_eq_true, List.mem_range, Bool.or_eq_true, Bool.not_eq_true', beq_iff_eq]
    refine ⟨trivial, ?_, ?_, by rw [a1]; exact hsl, by rw [a1, a2], fun i hi => ?_⟩
    · simp only [smS, decide_eq_true_eq]
      have hd : ((smallI l).foldl stD (S, L)).1.length ≤ S.length + 700 * (smallI l).length := hd
      omega
    · rw [a1, hall, List.length_take]
      omega
    · rw [a1] at hi
      rw [hget i hi]
      refine ⟨hsm _ (List.getElem_mem hi), ?_⟩
      cases hm : mayR (smallI l)[i].1 (smallI l)[i].2 with
      | false => exact .inl rfl
      | true => exact .inr (ats_take (smallI l) (S, L) hPI i hi hm)
theorem sem14 (ah : List (List UInt8)) (l : Items) : SemF Try.prog 14 [.list .str ah, .list (.pair (.int .u16) .str) l] [] [.bool true] [] :=
  ok14 (ah, l, ()) () ([.bool true], []) (Tr.get_of_all (rdataBack_all ah l))
end Go.Proofs.YtfepkpindchleaaE

/- the document's packs. -/
namespace Go.Proofs.YtfepkpindchleaaE
open Go Go.Proofs.YtfepkpindchleaaB
set_option linter.unusedVariables false
set_option linter.unusedSimpArgs false
set_option maxRecDepth 100000
def knC (n S : List UInt8) (L : Known) (i : Int) : Bool := decide (i = 0) && Nat.ble L.length 1000000000000
noncomputable def b44 : Code := (nthLoop c44 0)
def ls44 : LoopSpec := { bid := 0, sh := [.d .str false, .ptr 0 0, .d (.int .i64) false], so := [.box [.d .str false, .d (.list (.pair .str (.int .i64))) false]], F := fun (n, i, _) ((S, L, _), _) => .on2 (knC n S L i) ((lookK n L).isSome) (.ret, [.int .i64 ((lookK n L).getD 0)], []) (.exit 0, [.dead], []) }
def r44 (n : List UInt8) (i : Int) (S : List UInt8) (L : List (List UInt8 × Int)) : Tr (St ⊕ (Ex × St)) := Tr.br (decide (i < (↑(List.length L) : Int))) (Tr.br (decide ((0 : Int) ≤ i)) (Tr.br (decide (i < (↑(List.length L) : Int))) (Tr.br (Prod.fst (List.getD L (Int.toNat i) (([], 0))) == n) (Tr.br (decide ((0 : Int) ≤ i)) (Tr.br (decide (i < (↑(List.length L) : Int))) (Tr.ret (Sum.inr (Ex.ret, stOf [4] [AV.int IntKind.i64 (Prod.snd (List.getD L (Int.toNat i) (([], 0))))] []))) Tr.no) Tr.no) (Tr.ret (Sum.inl (stOf [1, 2, 5] [AV.str n, AV.ptr 0 0, AV.int IntKind.i64 (IntKind.wrap IntKind.i64 (i + (1 : Int)))] [LObj.boxT none [AV.str S, AV.list (Ty.pair Ty.str (Ty.int IntKind.i64)) L]])))) Tr.no) Tr.no) (Tr.ret (Sum.inr (Ex.exit 0, stOf [4] [AV.dead] [])))
set_option maxRecDepth 1000000 in
theorem round44 (orc : Orc) (lp : Lp) (n : List UInt8) (i : Int) (S : List UInt8) (L : List (List UInt8 × Int)) : evC T0 orc lp b44 0 (stOf [1, 2, 5] [.str n, .ptr 0 0, .int .i64 i] [.box [.str S, .list (.pair .str (.int .i64)) L]]) (roundK [1, 2, 5] [4] 0) = (r44 n i S L).get := by kernel_rfl
theorem wf44 (orc : Orc) (n : List UInt8) (S : List UInt8) (L : List (List UInt8 × Int)) (I'' : Int → Prop) (m'' : Int → Nat) (r'' : Ex × St) (h : ∀ (i : Int), I'' i → (r44 n i S L).all fun x'' => x'' = .inr r'' ∨ ∃ (i' : Int), x'' = .inl (stOf [1, 2, 5] [.str n, .ptr 0 0, .int .i64 i'] [.box [.str S, .list (.pair .str (.int .i64)) L]]) ∧ I'' i' ∧ m'' i' < m'' i) (lp : Lp) (i : Int) : I'' i →
    loopF (fun st => evC T0 orc lp b44 0 st (roundK [1, 2, 5] [4] 0)) (stOf [1, 2, 5] [.str n, .ptr 0 0, .int .i64 i] [.box [.str S, .list (.pair .str (.int .i64)) L]]) = some r'' :=
  loop_tr (fun a'' : Int => stOf [1, 2, 5] [.str n, .ptr 0 0, .int .i64 a''] [.box [.str S, .list (.pair .str (.int .i64)) L]]) (fun a'' => I'' a'') (fun a'' => m'' a'') r'' (fun a'' => r44 n a'' S L)
    (fun a'' x hx => (round44 orc lp n a'' S L).trans hx) (fun a'' ha => Tr.all_mono (fun x'' hx => hx.imp id fun ⟨i', h1, h2, h3⟩ => ⟨(i'), h1, h2, h3⟩) (h (a'') ha)) (i)
theorem keq_str (a b : List UInt8) : Ty.keq .str a b = (a == b) := rfl
theorem lookK_at {n : List UInt8} {L : Known} {k : Nat} (hk : k < L.length) : lookK n (L.drop k) = if (L.getD k ([], 0)).1 == n then some (L.getD k ([], 0)).2 else lookK n (L.drop (k + 1)) := by
  rw [drop_get L k ([], 0) hk]
  unfold lookK
  rw [lookM, keq_str]
  by_cases h : n = (L.getD k ([], 0)).1
  · rw [show (n == (L.getD k ([], 0)).1) = true by simp only [beq_iff_eq]; exact h, show ((L.getD k ([], 0)).1 == n) = true by simp only [beq_iff_eq]; exact h.symm]
    rfl
  · rw [show (n == (L.getD k ([], 0)).1) = false by simp only [beq_eq_false_iff_ne]; exact h, show ((L.getD k ([], 0)).1 == n) = false by simp only [beq_eq_false_iff_ne]; exact fun e => h e.symm]
    rfl
theorem loop44 (orc : Orc) : ls44.Ok T0 orc h44 0 0 b44 := by
  intro q'' hq'' x'' y'' r'' h
  obtain ⟨(n : List UInt8), (i : Int), _⟩ := x''
  obtain ⟨⟨(S : List UInt8), (L : List (List UInt8 × Int)), _⟩, _⟩ := y''
  obtain ⟨hc, rfl⟩ := Tr.get_on2 h
  show loopF (fun st => evC T0 orc (lpN T0 orc h44 0 q'') b44 0 st (roundK [1, 2, 5] [4] 0)) (stOf [1, 2, 5] [.str n, .ptr 0 0, .int .i64 i] [.box [.str S, .list (.pair .str (.int .i64)) L]]) = some ((bif (lookK n L).isSome then (.ret, [.int .i64 ((lookK n L).getD 0)], []) else (.exit 0, [.dead], []) : Ex × List AV × List LObj).1, stOf [4] (bif (lookK n L).isSome then (.ret, [.int .i64 ((lookK n L).getD 0)], []) else (.exit 0, [.dead], []) : Ex × List AV × List LObj).2.1 (bif (lookK n L).isSome then (.ret, [.int .i64 ((lookK n L).getD 0)], []) else (.exit 0, [.dead], []) : Ex × List AV × List LObj).2.2)
  simp only [knC, Bool.and_eq_true, decide_eq_true_eq] at hc
  obtain ⟨rfl, hb⟩ := hc
  have hb := Nat.le_of_ble_eq_true hb
  refine wf44 _ n S L (fun i => 0 ≤ i ∧ i ≤ L.length ∧ lookK n (L.drop i.toNat) = lookK n L) (fun i => (L.length - i).toNat) _ ?_ _ 0 ⟨by omega, by omega, rfl⟩
  rintro i ⟨h0, h1, he⟩
  unfold r44
  by_cases hlt : i < L.length
  · rw [lookK_at (by omega)] at he
    refine Tr.all_t (dec_true hlt) (Tr.all_t (dec_true h0) (Tr.all_t (dec_true hlt) (Tr.all_br (fun c1 => ?_) fun c1 => ?_)))
    · rw [if_pos c1] at he
      rw [← he]
      exact Tr.all_t (dec_true h0) (Tr.all_t (dec_true hlt) (Tr.all_ret (.inl rfl)))
    · rw [if_neg (by rw [c1]; simp)] at he
      rw [IntWalk.i64_in _ (by omega)]
      exact Tr.all_ret (.inr ⟨_, rfl, ⟨by omega, by omega, by rw [show (i + 1).toNat = i.toNat + 1 by omega]; exact he⟩, by omega⟩)
  · rw [List.drop_of_length_le (by omega)] at he
    rw [← he]
    exact Tr.all_f (dec_false hlt) (Tr.all_ret (.inl rfl))
/-- derrickref03.known -/
def t44 (p : (List UInt8 × List (List UInt8 × Int))) (n : List UInt8) : Tr Res := Tr.br (knC n (Prod.fst p) (Prod.snd p) (0 : Int)) (Tr.br (Option.isSome (lookK n (Prod.snd p))) (Tr.ret ([AV.int IntKind.i64 (Option.getD (lookK n (Prod.snd p)) (0 : Int))], [])) (Tr.ret ([AV.int IntKind.i64 (-1 : Int)], []))) Tr.no
def os44 : OSpec := { f := 44, sh := [.d (.pair .str (.list (.pair .str (.int .i64)))) true, .d .str false], so := [], F := fun (p, n, _) _ => t44 p n }
set_option maxRecDepth 1000000 in
theorem fn44 (p : (List UInt8 × List (List UInt8 × Int))) (n : List UInt8) : evC T0 (orcB [] []) (lpOf h44 0 (lsOf [ls44])) c44 1000000 (startSt [AV.ofTy (.pair .str (.list (.pair .str (.int .i64)))) p true, .str n] [] Try.f44.ntmps) (finishK T0 false 0 Try.f44) = (t44 p n).get := by kernel_rfl
theorem ok44 : os44.Ok Try.prog := by
  refine os_ok mixed0 tab0 (orcB_sound all_nil all_nil) h44 (d := 0) (n0 := 0) (S := lsOf [ls44]) Try.func44 (by kernel_rfl) (c := c44) (by kernel_rfl) rfl (loops_eq (xs := [(0, b44)]) (by kernel_rfl) (all_cons (ls_here (loop44 _)) all_nil)) (by omega) (by kernel_rfl) ?_
  intro x'' y'' q'' hq''
  obtain ⟨(p : (List UInt8 × List (List UInt8 × Int))), (n : List UInt8), _⟩ := x''
  exact (fn44 p n).trans hq''
def fs44 : FSpec := fsT 44 [((.pair .str (.list (.pair .str (.int .i64)))), true), (.str, false)] [((.int .i64), false)] fun (p, n, _) => t44 p n
theorem okf44 : fs44.Ok Try.prog := fsT_ok fun x'' r'' hr'' => ok44 x'' () r'' hr''
/-- derrickref03.Add -/
def t23 (p : (List UInt8 × List (List UInt8 × Int))) (s : List UInt8) : Tr Res := Tr.br (Nat.ble (List.length (Prod.fst p) + List.length s) 9223372036854775807) (Tr.ret ([AV.agg [AV.str (Prod.fst p ++ s), AV.list (Ty.pair Ty.str (Ty.int IntKind.i64)) (Prod.snd p)]], [])) Tr.no
def os23 : OSpec := { f := 23, sh := [.d (.pair .str (.list (.pair .str (.int .i64)))) true, .d .str false], so := [], F := fun (p, s, _) _ => t23 p s }
set_option maxRecDepth 1000000 in
theorem fn23 (p : (List UInt8 × List (List UInt8 × Int))) (s : List UInt8) : evC T0 (orcB [] []) (lpOf h23 0 (lsOf [])) c23 1000000 (startSt [AV.ofTy (.pair .str (.list (.pair .str (.int .i64)))) p true, .str s] [] Try.f23.ntmps) (finishK T0 false 0 Try.f23) = (t23 p s).get := by kernel_rfl
theorem ok23 : os23.Ok Try.prog := by
  refine os_ok mixed0 tab0 (orcB_sound all_nil all_nil) h23 (d := 0) (n0 := 0) (S := lsOf []) Try.func23 (by kernel_rfl) (c := c23) (by kernel_rfl) rfl (no_loops (by kernel_rfl)) (by omega) (by kernel_rfl) ?_
  intro x'' y'' q'' hq''
  obtain ⟨(p : (List UInt8 × List (List UInt8 × Int))), (s : List UInt8), _⟩ := x''
  exact (fn23 p s).trans hq''
def fs23 : FSpec := fsT 23 [((.pair .str (.list (.pair .str (.int .i64)))), true), (.str, false)] [((.pair .str (.list (.pair .str (.int .i64)))), true)] fun (p, s, _) => t23 p s
theorem okf23 : fs23.Ok Try.prog := fsT_ok fun x'' r'' hr'' => ok23 x'' () r'' hr''
def kLen (L : Known) : Bool := Nat.ble L.length 1000000000000
def fs44w : FSpec := fs44.like fun (p, n, _) => .on (kLen p.2) ((lookK n p.2).getD (-1), ())
theorem okf44w : fs44w.Ok Try.prog := by
  refine flike_ok okf44 _ ?_
  rintro ⟨(p : List UInt8 × Known), (n : List UInt8), _⟩ y h
  obtain ⟨hb, rfl⟩ := Tr.get_on h
  have hb' : Nat.ble p.2.length 1000000000000 = true := hb
  refine convR_of (vs := [.int .i64 ((lookK n p.2).getD (-1))]) rfl rfl (Tr.get_of_all ?_)
  show (t44 p n).all _
  refine Tr.all_t (by unfold knC; rw [hb']; rfl) ?_
  cases h : lookK n p.2 with
  | none => exact Tr.all_f rfl (Tr.all_ret rfl)
  | some a => exact Tr.all_t rfl (Tr.all_ret rfl)
def rnC (n S0 : List UInt8) (L0 : Known) (S : List UInt8) (L : Known) : Bool := rootV n && (kOk L && (Nat.ble (S.length + n.length) 100000000000 && Nat.ble (L.length + n.length) 100000000000))
noncomputable def b25 : Code := (nthLoop c25 0)
def ls25 : LoopSpec := { bid := 0, sh := [.d .str false, .ptr 0 0, .ptr 2 0], so := [.box [.d .str false, .row 1], .row (.pair .str (.int .i64)), .box [.d .str false, .row 3], .row (.pair .str (.int .i64))], F := fun (n, _) ((S0, _), L0, (S, _), L, _) => .on2 (rnC n S0 L0 S L) ((nameL n S L).1.isSome) (.ret, [.ptr 0 0, .int .i64 0, .ptr 1 0], [.box [.str ((nameL n S L).2.2.1 ++ put16 (49152 + (nameL n S L).1.getD 0)), .list (.pair .str (.int .i64)) (nameL n S L).2.2.2], .box [.str (nameL n S L).2.2.1, .list (.pair .str (.int .i64)) (nameL n S L).2.2.2]]) (.exit 0, [.ptr 0 0, .dead, .ptr 2 0], [.box [.str S0, .rowA 1], .row (.pair .str (.int .i64)) L0, .box [.str (nameL n S L).2.2.1, .rowA 3], .row (.pair .str (.int .i64)) (nameL n S L).2.2.2]) }
def r25 (n : List UInt8) (S0 : List UInt8) (L0 : List (List UInt8 × Int)) (S : List UInt8) (L : List (List UInt8 × Int)) : Tr (St ⊕ (Ex × St)) := Tr.br (!n == [0]) (Tr.br (kLen L) (Tr.br (decide (Option.getD (lookK n L) (-1 : Int) ≥ (0 : Int))) (Tr.br (n16C (IntKind.wrap IntKind.u16 (IntKind.wrap IntKind.i64 ((49152 : Int) + Option.getD (lookK n L) (-1 : Int))))) (Tr.br (Nat.ble (List.length S + List.length (put16 (IntKind.wrap IntKind.u16 (IntKind.wrap IntKind.i64 ((49152 : Int) + Option.getD (lookK n L) (-1 : Int)))))) 9223372036854775807) (Tr.ret (Sum.inr (Ex.ret, stOf [4, 5, 6] [AV.ptr 0 0, AV.int IntKind.i64 (0 : Int), AV.ptr 1 0] [LObj.boxT none [AV.str (S ++ put16 (IntKind.wrap IntKind.u16 (IntKind.wrap IntKind.i64 ((49152 : Int) + Option.getD (lookK n L) (-1 : Int))))), AV.list (Ty.pair Ty.str (Ty.int IntKind.i64)) L], LObj.boxT none [AV.str S, AV.list (Ty.pair Ty.str (Ty.int IntKind.i64)) L]]))) Tr.no) Tr.no) (Tr.br (decide ((↑(List.length S) : Int) < (16384 : Int))) (Tr.br (fits (List.length L + 1) 24) (Tr.br (decide ((0 : Int) < (↑(List.length n) : Int))) (Tr.br (decide ((0 : Int) ≤ IntKind.wrap IntKind.i64 ((1 : Int) + IntKind.wrap IntKind.i64 (↑(UInt8.toNat (List.getD n (Int.toNat (0 : Int)) 0)) : Int))) && decide (IntKind.wrap IntKind.i64 ((1 : Int) + IntKind.wrap IntKind.i64 (↑(UInt8.toNat (List.getD n (Int.toNat (0 : Int)) 0)) : Int)) ≤ (↑(List.length n) : Int))) (Tr.br (decide ((0 : Int) ≤ (0 : Int)) && decide ((0 : Int) ≤ IntKind.wrap IntKind.i64 ((1 : Int) + IntKind.wrap IntKind.i64 (↑(UInt8.toNat (List.getD n (Int.toNat (0 : Int)) 0)) : Int)))) (Tr.br (Nat.ble (List.length S + List.length (List.take (Int.toNat (IntKind.wrap IntKind.i64 ((1 : Int) + IntKind.wrap IntKind.i64 (↑(UInt8.toNat (List.getD n (Int.toNat (0 : Int)) 0)) : Int))) - Int.toNat (0 : Int)) (List.drop (Int.toNat (0 : Int)) n))) 9223372036854775807) (Tr.br (decide ((0 : Int) ≤ (↑(List.length n) : Int)) && decide ((↑(List.length n) : Int) ≤ (↑(List.length n) : Int))) (Tr.br (decide ((0 : Int) ≤ IntKind.wrap IntKind.i64 ((1 : Int) + IntKind.wrap IntKind.i64 (↑(UInt8.toNat (List.getD n (Int.toNat (0 : Int)) 0)) : Int))) && decide (IntKind.wrap IntKind.i64 ((1 : Int) + IntKind.wrap IntKind.i64 (↑(UInt8.toNat (List.getD n (Int.toNat (0 : Int)) 0)) : Int)) ≤ (↑(List.length n) : Int))) (Tr.ret (Sum.inl (stOf [1, 4, 6] [AV.str (List.take (Int.toNat (↑(List.length n) : Int) - Int.toNat (IntKind.wrap IntKind.i64 ((1 : Int) + IntKind.wrap IntKind.i64 (↑(UInt8.toNat (List.getD n (Int.toNat (0 : Int)) 0)) : Int)))) (List.drop (Int.toNat (IntKind.wrap IntKind.i64 ((1 : Int) + IntKind.wrap IntKind.i64 (↑(UInt8.toNat (List.getD n (Int.toNat (0 : Int)) 0)) : Int)))) n)), AV.ptr 0 0, AV.ptr 2 0] [LObj.boxT none [AV.str S0, AV.rowA 1], LObj.row (Ty.pair Ty.str (Ty.int IntKind.i64)) L0, LObj.boxT none [AV.str (S ++ List.take (Int.toNat (IntKind.wrap IntKind.i64 ((1 : Int) + IntKind.wrap IntKind.i64 (↑(UInt8.toNat (List.getD n (Int.toNat (0 : Int)) 0)) : Int))) - Int.toNat (0 : Int)) (List.drop (Int.toNat (0 : Int)) n)), AV.rowA 3], LObj.row (Ty.pair Ty.str (Ty.int IntKind.i64)) (L ++ [(n, (↑(List.length S) : Int))])]))) Tr.no) Tr.no) Tr.no) Tr.no) Tr.no) Tr.no) Tr.no) (Tr.br (decide ((0 : Int) < (↑(List.length n) : Int))) (Tr.br (decide ((0 : Int) ≤ IntKind.wrap IntKind.i64 ((1 : Int) + IntKind.wrap IntKind.i64 (↑(UInt8.toNat (List.getD n (Int.toNat (0 : Int)) 0)) : Int))) && decide (IntKind.wrap IntKind.i64 ((1 : Int) + IntKind.wrap IntKind.i64 (↑(UInt8.toNat (List.getD n (Int.toNat (0 : Int)) 0)) : Int)) ≤ (↑(List.length n) : Int))) (Tr.br (decide ((0 : Int) ≤ (0 : Int)) && decide ((0 : Int) ≤ IntKind.wrap IntKind.i64 ((1 : Int) + IntKind.wrap IntKind.i64 (↑(UInt8.toNat (List.getD n (Int.toNat (0 : Int)) 0)) : Int)))) (Tr.br (Nat.ble (List.length S + List.length (List.take (Int.toNat (IntKind.wrap IntKind.i64 ((1 : Int) + IntKind.wrap IntKind.i64 (↑(UInt8.toNat (List.getD n (Int.toNat (0 : Int)) 0)) : Int))) - Int.toNat (0 : Int)) (List.drop (Int.toNat (0 : Int)) n))) 9223372036854775807) (Tr.br (decide ((0 : Int) ≤ (↑(List.length n) : Int)) && decide ((↑(List.length n) : Int) ≤ (↑(List.length n) : Int))) (Tr.br (decide ((0 : Int) ≤ IntKind.wrap IntKind.i64 ((1 : Int) + IntKind.wrap IntKind.i64 (↑(UInt8.toNat (List.getD n (Int.toNat (0 : Int)) 0)) : Int))) && decide (IntKind.wrap IntKind.i64 ((1 : Int) + IntKind.wrap IntKind.i64 (↑(UInt8.toNat (List.getD n (Int.toNat (0 : Int)) 0)) : Int)) ≤ (↑(List.length n) : Int))) (Tr.ret (Sum.inl (stOf [1, 4, 6] [AV.str (List.take (Int.toNat (↑(List.length n) : Int) - Int.toNat (IntKind.wrap IntKind.i64 ((1 : Int) + IntKind.wrap IntKind.i64 (↑(UInt8.toNat (List.getD n (Int.toNat (0 : Int)) 0)) : Int)))) (List.drop (Int.toNat (IntKind.wrap IntKind.i64 ((1 : Int) + IntKind.wrap IntKind.i64 (↑(UInt8.toNat (List.getD n (Int.toNat (0 : Int)) 0)) : Int)))) n)), AV.ptr 0 0, AV.ptr 2 0] [LObj.boxT none [AV.str S0, AV.rowA 1], LObj.row (Ty.pair Ty.str (Ty.int IntKind.i64)) L0, LObj.boxT none [AV.str (S ++ List.take (Int.toNat (IntKind.wrap IntKind.i64 ((1 : Int) + IntKind.wrap IntKind.i64 (↑(UInt8.toNat (List.getD n (Int.toNat (0 : Int)) 0)) : Int))) - Int.toNat (0 : Int)) (List.drop (Int.toNat (0 : Int)) n)), AV.rowA 3], LObj.row (Ty.pair Ty.str (Ty.int IntKind.i64)) L]))) Tr.no) Tr.no) Tr.no) Tr.no) Tr.no) Tr.no))) Tr.no) (Tr.ret (Sum.inr (Ex.exit 0, stOf [4, 5, 6] [AV.ptr 0 0, AV.dead, AV.ptr 2 0] [LObj.boxT none [AV.str S0, AV.rowA 1], LObj.row (Ty.pair Ty.str (Ty.int IntKind.i64)) L0, LObj.boxT none [AV.str S, AV.rowA 3], LObj.row (Ty.pair Ty.str (Ty.int IntKind.i64)) L])))
set_option maxRecDepth 1000000 in
theorem round25 (lp : Lp) (n : List UInt8) (S0 : List UInt8) (L0 : List (List UInt8 × Int)) (S : List UInt8) (L : List (List UInt8 × Int)) : evC T0 (orcB [fs43v, fs44w, fs23, fs45w] []) lp b25 0 (stOf [1, 4, 6] [.str n, .ptr 0 0, .ptr 2 0] [.box [.str S0, .rowA 1], .row (.pair .str (.int .i64)) L0, .box [.str S, .rowA 3], .row (.pair .str (.int .i64)) L]) (roundK [1, 4, 6] [4, 5, 6] 0) = (r25 n S0 L0 S L).get := by kernel_rfl
theorem wf25 (S0 : List UInt8) (L0 : List (List UInt8 × Int)) (I'' : List UInt8 → List UInt8 → List (List UInt8 × Int) → Prop) (m'' : List UInt8 → List UInt8 → List (List UInt8 × Int) → Nat) (r'' : Ex × St) (h : ∀ (n : List UInt8) (S : List UInt8) (L : List (List UInt8 × Int)), I'' n S L → (r25 n S0 L0 S L).all fun x'' => x'' = .inr r'' ∨ ∃ (n' : List UInt8) (S' : List UInt8) (L' : List (List UInt8 × Int)), x'' = .inl (stOf [1, 4, 6] [.str n', .ptr 0 0, .ptr 2 0] [.box [.str S0, .rowA 1], .row (.pair .str (.int .i64)) L0, .box [.str S', .rowA 3], .row (.pair .str (.int .i64)) L']) ∧ I'' n' S' L' ∧ m'' n' S' L' < m'' n S L) (lp : Lp) (n : List UInt8) (S : List UInt8) (L : List (List UInt8 × Int)) : I'' n S L →
    loopF (fun st => evC T0 (orcB [fs43v, fs44w, fs23, fs45w] []) lp b25 0 st (roundK [1, 4, 6] [4, 5, 6] 0)) (stOf [1, 4, 6] [.str n, .ptr 0 0, .ptr 2 0] [.box [.str S0, .rowA 1], .row (.pair .str (.int .i64)) L0, .box [.str S, .rowA 3], .row (.pair .str (.int .i64)) L]) = some r'' :=
  loop_tr (fun a'' : List UInt8 × List UInt8 × List (List UInt8 × Int) => stOf [1, 4, 6] [.str a''.1, .ptr 0 0, .ptr 2 0] [.box [.str S0, .rowA 1], .row (.pair .str (.int .i64)) L0, .box [.str a''.2.1, .rowA 3], .row (.pair .str (.int .i64)) a''.2.2]) (fun a'' => I'' a''.1 a''.2.1 a''.2.2) (fun a'' => m'' a''.1 a''.2.1 a''.2.2) r'' (fun a'' => r25 a''.1 S0 L0 a''.2.1 a''.2.2)
    (fun a'' x hx => (round25 lp a''.1 S0 L0 a''.2.1 a''.2.2).trans hx) (fun a'' ha => Tr.all_mono (fun x'' hx => hx.imp id fun ⟨n', S', L', h1, h2, h3⟩ => ⟨(n', S', L'), h1, h2, h3⟩) (h (a''.1) (a''.2.1) (a''.2.2) ha)) (n, S, L)
def rnI (n S : List UInt8) (L : Known) (n' S' : List UInt8) (L' : Known) : Prop := rootV n' = true ∧ kOk L' = true ∧ S'.length + n'.length ≤ 100000000000 ∧ L'.length + n'.length ≤ 100000000000 ∧ nameL n' S' L' = nameL n S L
theorem loop25 : ls25.Ok T0 (orcB [fs43v, fs44w, fs23, fs45w] []) h25 0 0 b25 := by
  intro q'' hq'' x'' y'' r'' h
  obtain ⟨(n : List UInt8), _⟩ := x''
  obtain ⟨⟨(S0 : List UInt8), _⟩, (L0 : List (List UInt8 × Int)), ⟨(S : List UInt8), _⟩, (L : List (List UInt8 × Int)), _⟩ := y''
  obtain ⟨hc, rfl⟩ := Tr.get_on2 h
  show loopF (fun st => evC T0 (orcB [fs43v, fs44w, fs23, fs45w] []) (lpN T0 (orcB [fs43v, fs44w, fs23, fs45w] []) h25 0 q'') b25 0 st (roundK [1, 4, 6] [4, 5, 6] 0)) (stOf [1, 4, 6] [.str n, .ptr 0 0, .ptr 2 0] [.box [.str S0, .rowA 1], .row (.pair .str (.int .i64)) L0, .box [.str S, .rowA 3], .row (.pair .str (.int .i64)) L]) = some ((bif (nameL n S L).1.isSome then (.ret, [.ptr 0 0, .int .i64 0, .ptr 1 0], [.box [.str ((nameL n S L).2.2.1 ++ put16 (49152 + (nameL n S L).1.getD 0)), .list (.pair .str (.int .i64)) (nameL n S L).2.2.2], .box [.str (nameL n S L).2.2.1, .list (.pair .str (.int .i64)) (nameL n S L).2.2.2]]) else (.exit 0, [.ptr 0 0, .dead, .ptr 2 0], [.box [.str S0, .rowA 1], .row (.pair .str (.int .i64)) L0, .box [.str (nameL n S L).2.2.1, .rowA 3], .row (.pair .str (.int .i64)) (nameL n S L).2.2.2]) : Ex × List AV × List LObj).1, stOf [4, 5, 6] (bif (nameL n S L).1.isSome then (.ret, [.ptr 0 0, .int .i64 0, .ptr 1 0], [.box [.str ((nameL n S L).2.2.1 ++ put16 (49152 + (nameL n S L).1.getD 0)), .list (.pair .str (.int .i64)) (nameL n S L).2.2.2], .box [.str (nameL n S L).2.2.1, .list (.pair .str (.int .i64)) (nameL n S L).2.2.2]]) else (.exit 0, [.ptr 0 0, .dead, .ptr 2 0], [.box [.str S0, .rowA 1], .row (.pair .str (.int .i64)) L0, .box [.str (nameL n S L).2.2.1, .rowA 3], .row (.pair .str (.int .i64)) (nameL n S L).2.2.2]) : Ex × List AV × List LObj).2.1 (bif (nameL n S L).1.isSome then (.ret, [.ptr 0 0, .int .i64 0, .ptr 1 0], [.box [.str ((nameL n S L).2.2.1 ++ put16 (49152 + (nameL n S L).1.getD 0)), .list (.pair .str (.int .i64)) (nameL n S L).2.2.2], .box [.str (nameL n S L).2.2.1, .list (.pair .str (.int .i64)) (nameL n S L).2.2.2]]) else (.exit 0, [.ptr 0 0, .dead, .ptr 2 0], [.box [.str S0, .rowA 1], .row (.pair .str (.int .i64)) L0, .box [.str (nameL n S L).2.2.1, .rowA 3], .row (.pair .str (.int .i64)) (nameL n S L).2.2.2]) : Ex × List AV × List LObj).2.2)
  simp only [rnC, Bool.and_eq_true] at hc
  obtain ⟨hr, hk, hb, hb2⟩ := hc
  have hb := Nat.le_of_ble_eq_true hb
  have hb2 := Nat.le_of_ble_eq_true hb2
  refine wf25 S0 L0 (rnI n S L) (fun n _ _ => n.length) _ ?_ _ n S L ⟨hr, hk, hb, hb2, rfl⟩
  clear hr hk hb hb2
  rintro n S L ⟨hr, hk, hb, hb2, he⟩
  rw [← he]
  unfold r25
  have hkl : kLen L = true := Nat.ble_eq_true_of_le (by omega)
  rcases root_cases hr with rfl | ⟨hn0, hn1, hlt, h63, hne, hrt⟩
  · rw [nameL_root]
    exact Tr.all_f (by simp) (Tr.all_ret (.inl rfl))
  · refine Tr.all_t (by simpa using hn0) (Tr.all_t hkl ?_)
    cases hlk : lookK n L with
    | some a =>
      obtain ⟨ha0, ha1⟩ := kOk_look hk hlk
      rw [nameL_known hn0 hlk]
      have hw : IntKind.wrap IntKind.u16 (IntKind.wrap IntKind.i64 ((49152 : Int) + a)) = 49152 + a := by
        rw [IntWalk.i64_in _ (by omega), IntWalk.u16_in _ (by omega)]
      simp only [Option.getD_some, hw]
      exact Tr.all_t (dec_true (by omega)) (Tr.all_t (by simp [n16C]; omega) (Tr.all_t (Nat.ble_eq_true_of_le (by rw [put16_len]; omega)) (Tr.all_ret (.inl rfl))))
    | none =>
      rw [nameL_next hn0 hn1 hlk]
      simp only [szW, hdW, tlW, Option.getD_none]
      have hl := hdN_len (n := n) (by omega)
      have hl2 := tlN_len n
      have hm : (tlN n).length < n.length := tlN_lt hn1
      refine Tr.all_f (by decide) (Tr.all_br (fun c1 => ?_) fun c1 => ?_)
      · simp only [decide_eq_true_eq] at c1
        refine Tr.all_t (fits_true (by omega) (by omega)) (Tr.all_t (dec_true (by omega)) (Tr.all_t (by rw [dec_true (by omega), dec_true (by omega)]; rfl) (Tr.all_t (by rw [dec_true (by omega), dec_true (by omega)]; rfl) (Tr.all_t (Nat.ble_eq_true_of_le (by omega)) (Tr.all_t (by rw [dec_true (by omega), dec_true (by omega)]; rfl) (Tr.all_t (by rw [dec_true (by omega), dec_true (by omega)]; rfl) (Tr.all_ret (.inr ⟨_, _, _, rfl, ⟨hrt, kOk_add hk (by omega), by rw [List.length_append]; omega, by simp; omega, ?_⟩, hm⟩))))))))
        rw [← he, nameL_next hn0 hn1 hlk, if_pos (by omega)]
      · simp only [decide_eq_false_iff_not] at c1
        refine Tr.all_t (dec_true (by omega)) (Tr.all_t (by rw [dec_true (by omega), dec_true (by omega)]; rfl) (Tr.all_t (by rw [dec_true (by omega), dec_true (by omega)]; rfl) (Tr.all_t (Nat.ble_eq_true_of_le (by omega)) (Tr.all_t (by rw [dec_true (by omega), dec_true (by omega)]; rfl) (Tr.all_t (by rw [dec_true (by omega), dec_true (by omega)]; rfl) (Tr.all_ret (.inr ⟨_, _, _, rfl, ⟨hrt, hk, by rw [List.length_append]; omega, by omega, ?_⟩, hm⟩)))))))
        rw [← he, nameL_next hn0 hn1 hlk, if_neg (by omega)]
/-- derrickref03.Name -/
def t25 (p : (List UInt8 × List (List UInt8 × Int))) (n : List UInt8) : Tr Res := Tr.br (bigS n) (Tr.br (!mayV n) (Tr.ret ([AV.agg [AV.str (Prod.fst p), AV.list (Ty.pair Ty.str (Ty.int IntKind.i64)) (Prod.snd p)], AV.int IntKind.i64 (1 : Int)], [])) (Tr.br (fits (0 + List.length (Prod.snd p)) 24) (Tr.br (rnC n [] [] (Prod.fst p) ([] ++ Prod.snd p)) (Tr.br (Option.isSome (Prod.fst (nameL n (Prod.fst p) ([] ++ Prod.snd p)))) (Tr.ret ([AV.agg [AV.str (Prod.fst (Prod.snd (Prod.snd (nameL n (Prod.fst p) ([] ++ Prod.snd p)))) ++ put16 ((49152 : Int) + Option.getD (Prod.fst (nameL n (Prod.fst p) ([] ++ Prod.snd p))) (0 : Int))), AV.list (Ty.pair Ty.str (Ty.int IntKind.i64)) (Prod.snd (Prod.snd (Prod.snd (nameL n (Prod.fst p) ([] ++ Prod.snd p)))))], AV.int IntKind.i64 (0 : Int)], [])) (Tr.br (Nat.ble (List.length (Prod.fst (Prod.snd (Prod.snd (nameL n (Prod.fst p) ([] ++ Prod.snd p))))) + List.length ([0])) 9223372036854775807) (Tr.ret ([AV.agg [AV.str (Prod.fst (Prod.snd (Prod.snd (nameL n (Prod.fst p) ([] ++ Prod.snd p)))) ++ [0]), AV.list (Ty.pair Ty.str (Ty.int IntKind.i64)) (Prod.snd (Prod.snd (Prod.snd (nameL n (Prod.fst p) ([] ++ Prod.snd p)))))], AV.int IntKind.i64 (0 : Int)], [])) Tr.no)) Tr.no) Tr.no)) Tr.no
def os25 : OSpec := { f := 25, sh := [.d (.pair .str (.list (.pair .str (.int .i64)))) true, .d .str false], so := [], F := fun (p, n, _) _ => t25 p n }
set_option maxRecDepth 1000000 in
theorem fn25 (p : (List UInt8 × List (List UInt8 × Int))) (n : List UInt8) : evC T0 (orcB [fs43v, fs44w, fs23, fs45w] []) (lpOf h25 0 (lsOf [ls25])) c25 1000000 (startSt [AV.ofTy (.pair .str (.list (.pair .str (.int .i64)))) p true, .str n] [] Try.f25.ntmps) (finishK T0 false 0 Try.f25) = (t25 p n).get := by kernel_rfl
theorem ok25 : os25.Ok Try.prog := by
  refine os_ok mixed0 tab0 (orcB_sound (all_cons okf43v (all_cons okf44w (all_cons okf23 (all_cons okf45w all_nil)))) all_nil) h25 (d := 0) (n0 := 0) (S := lsOf [ls25]) Try.func25 (by kernel_rfl) (c := c25) (by kernel_rfl) rfl (loops_eq (xs := [(0, b25)]) (by kernel_rfl) (all_cons (ls_here loop25) all_nil)) (by omega) (by kernel_rfl) ?_
  intro x'' y'' q'' hq''
  obtain ⟨(p : (List UInt8 × List (List UInt8 × Int))), (n : List UInt8), _⟩ := x''
  exact (fn25 p n).trans hq''
def fs25 : FSpec := fsT 25 [((.pair .str (.list (.pair .str (.int .i64)))), true), (.str, false)] [((.pair .str (.list (.pair .str (.int .i64)))), true), ((.int .i64), false)] fun (p, n, _) => t25 p n
theorem okf25 : fs25.Ok Try.prog := fsT_ok fun x'' r'' hr'' => ok25 x'' () r'' hr''
def nmOk (p : List UInt8 × Known) (n : List UInt8) : Bool := bigS n && (kOk p.2 && (Nat.ble p.1.length 10000000000 && Nat.ble p.2.length 10000000000))
def fs25w : FSpec := fs25.like fun (p, n, _) => .br (nmOk p n) (.br (mayV n) (.ret (nameP n p.1 p.2, (0 : Int), ())) (.ret (p, (1 : Int), ()))) .no
theorem okf25w : fs25w.Ok Try.prog := by
  refine flike_ok okf25 _ ?_
  rintro ⟨(p : List UInt8 × Known), (n : List UInt8), _⟩ y h
  simp only [Tr.get] at h
  cases hc : nmOk p n with
  | false => rw [hc] at h; cases h
  | true =>
    rw [hc, cond_true] at h
    simp only [nmOk, Bool.and_eq_true] at hc
    obtain ⟨hbn, hk, h1, h2⟩ := hc
    have h1 := Nat.le_of_ble_eq_true h1
    have h2 := Nat.le_of_ble_eq_true h2
    obtain ⟨S, L⟩ := p
    simp only at hk h1 h2
    cases hm : mayV n with
    | false =>
      rw [hm, cond_false] at h
      cases h
      refine convR_of (vs := [AV.agg [.str S, .list (.pair .str (.int .i64)) L], .int .i64 1]) rfl rfl (Tr.get_of_all ?_)
      show (t25 (S, L) n).all _
      unfold t25
      rw [hm]
      exact Tr.all_t hbn (Tr.all_t rfl (Tr.all_ret rfl))
    | true =>
      rw [hm, cond_true] at h
      cases h
      refine convR_of (vs := [AV.agg [.str (nameP n S L).1, .list (.pair .str (.int .i64)) (nameP n S L).2], .int .i64 0]) rfl rfl (Tr.get_of_all ?_)
      show (t25 (S, L) n).all _
      unfold t25
      obtain ⟨r1, r2⟩ := show rootV n = true ∧ n.length ≤ 255 by simp only [mayV, Bool.and_eq_true] at hm; exact ⟨hm.1, Nat.le_of_ble_eq_true hm.2.1⟩
      obtain ⟨f1, f2, f3, f4, f5, f6⟩ := nameL_facts _ n S L rfl r1
      rw [hm, List.nil_append]
      have hrn : rnC n [] [] S L = true := by unfold rnC; rw [r1, hk, Nat.ble_eq_true_of_le (by omega), Nat.ble_eq_true_of_le (by omega)]; rfl
      refine Tr.all_t hbn (Tr.all_f rfl (Tr.all_t (fits_true (show (0 + L.length) * 24 ≤ _ by omega) (show 0 + L.length ≤ _ by omega)) (Tr.all_t hrn ?_)))
      unfold nameP
      cases hl : (nameL n S L).1 with
      | none => exact Tr.all_f rfl (Tr.all_t (Nat.ble_eq_true_of_le (by simp; omega)) (Tr.all_ret rfl))
      | some a => exact Tr.all_t rfl (Tr.all_ret rfl)
end Go.Proofs.YtfepkpindchleaaE

/- RdataPuts. -/
namespace Go.Proofs.YtfepkpindchleaaE
open Go Go.Proofs.YtfepkpindchleaaB
set_option linter.unusedVariables false
set_option linter.unusedSimpArgs false
set_option maxRecDepth 100000
def TN : Tab := { T0 with nild := true }
theorem tabN : TabOk Try.prog TN := tab_nild tab0 _ _
/-- derrickref04.Put -/
def t18 (p : (List UInt8 × List (List UInt8 × Int))) (k : Int) (d : List UInt8) : Tr Res := Tr.br (bigS d) (Tr.br (!mayR k d) (Tr.ret ([AV.agg [AV.str (Prod.fst p), AV.list (Ty.pair Ty.str (Ty.int IntKind.i64)) (Prod.snd p)], AV.int IntKind.i64 (1 : Int)], [])) (Tr.br (k == (2 : Int)) (Tr.br (nmOk p d) (Tr.br (mayV d) (Tr.ret ([AV.agg [AV.str (Prod.fst (nameP d (Prod.fst p) (Prod.snd p))), AV.list (Ty.pair Ty.str (Ty.int IntKind.i64)) (Prod.snd (nameP d (Prod.fst p) (Prod.snd p)))], AV.int IntKind.i64 (0 : Int)], [])) (Tr.ret ([AV.agg [AV.str (Prod.fst p), AV.list (Ty.pair Ty.str (Ty.int IntKind.i64)) (Prod.snd p)], AV.int IntKind.i64 (0 : Int)], []))) Tr.no) (Tr.br (k == (5 : Int)) (Tr.br (nmOk p d) (Tr.br (mayV d) (Tr.ret ([AV.agg [AV.str (Prod.fst (nameP d (Prod.fst p) (Prod.snd p))), AV.list (Ty.pair Ty.str (Ty.int IntKind.i64)) (Prod.snd (nameP d (Prod.fst p) (Prod.snd p)))], AV.int IntKind.i64 (0 : Int)], [])) (Tr.ret ([AV.agg [AV.str (Prod.fst p), AV.list (Ty.pair Ty.str (Ty.int IntKind.i64)) (Prod.snd p)], AV.int IntKind.i64 (0 : Int)], []))) Tr.no) (Tr.br (k == (12 : Int)) (Tr.br (nmOk p d) (Tr.br (mayV d) (Tr.ret ([AV.agg [AV.str (Prod.fst (nameP d (Prod.fst p) (Prod.snd p))), AV.list (Ty.pair Ty.str (Ty.int IntKind.i64)) (Prod.snd (nameP d (Prod.fst p) (Prod.snd p)))], AV.int IntKind.i64 (0 : Int)], [])) (Tr.ret ([AV.agg [AV.str (Prod.fst p), AV.list (Ty.pair Ty.str (Ty.int IntKind.i64)) (Prod.snd p)], AV.int IntKind.i64 (0 : Int)], []))) Tr.no) (Tr.br (k == (15 : Int)) (Tr.br (decide ((0 : Int) ≤ (2 : Int)) && decide ((2 : Int) ≤ (↑(List.length d) : Int))) (Tr.br (Nat.ble (List.length (Prod.fst p) + List.length (List.take (Int.toNat (2 : Int) - Int.toNat (0 : Int)) (List.drop (Int.toNat (0 : Int)) d))) 9223372036854775807) (Tr.br (decide ((0 : Int) ≤ (↑(List.length d) : Int)) && decide ((↑(List.length d) : Int) ≤ (↑(List.length d) : Int))) (Tr.br (decide ((0 : Int) ≤ (2 : Int)) && decide ((2 : Int) ≤ (↑(List.length d) : Int))) (Tr.br (nmOk (Prod.fst p ++ List.take (Int.toNat (2 : Int) - Int.toNat (0 : Int)) (List.drop (Int.toNat (0 : Int)) d), Prod.snd p) (List.take (Int.toNat (↑(List.length d) : Int) - Int.toNat (2 : Int)) (List.drop (Int.toNat (2 : Int)) d))) (Tr.br (mayV (List.take (Int.toNat (↑(List.length d) : Int) - Int.toNat (2 : Int)) (List.drop (Int.toNat (2 : Int)) d))) (Tr.ret ([AV.agg [AV.str (Prod.fst (nameP (List.take (Int.toNat (↑(List.length d) : Int) - Int.toNat (2 : Int)) (List.drop (Int.toNat (2 : Int)) d)) (Prod.fst p ++ List.take (Int.toNat (2 : Int) - Int.toNat (0 : Int)) (List.drop (Int.toNat (0 : Int)) d)) (Prod.snd p))), AV.list (Ty.pair Ty.str (Ty.int IntKind.i64)) (Prod.snd (nameP (List.take (Int.toNat (↑(List.length d) : Int) - Int.toNat (2 : Int)) (List.drop (Int.toNat (2 : Int)) d)) (Prod.fst p ++ List.take (Int.toNat (2 : Int) - Int.toNat (0 : Int)) (List.drop (Int.toNat (0 : Int)) d)) (Prod.snd p)))], AV.int IntKind.i64 (0 : Int)], [])) (Tr.ret ([AV.agg [AV.str (Prod.fst p ++ List.take (Int.toNat (2 : Int) - Int.toNat (0 : Int)) (List.drop (Int.toNat (0 : Int)) d)), AV.list (Ty.pair Ty.str (Ty.int IntKind.i64)) (Prod.snd p)], AV.int IntKind.i64 (0 : Int)], []))) Tr.no) Tr.no) Tr.no) Tr.no) Tr.no) (Tr.br (k == (6 : Int)) (Tr.br (bigS d) (Tr.br (decide ((0 : Int) ≤ (↑(List.length d) : Int)) && decide ((↑(List.length d) : Int) ≤ (↑(List.length d) : Int))) (Tr.br (decide ((0 : Int) ≤ (↑(wholeV d) : Int)) && decide ((↑(wholeV d) : Int) ≤ (↑(List.length d) : Int))) (Tr.br (bigS (List.take (Int.toNat (↑(List.length d) : Int) - Int.toNat (↑(wholeV d) : Int)) (List.drop (Int.toNat (↑(wholeV d) : Int)) d))) (Tr.br (decide ((0 : Int) ≤ (↑(wholeV d) : Int)) && decide ((↑(wholeV d) : Int) ≤ (↑(List.length d) : Int))) (Tr.br (nmOk p (List.take (Int.toNat (↑(wholeV d) : Int) - Int.toNat (0 : Int)) (List.drop (Int.toNat (0 : Int)) d))) (Tr.br (mayV (List.take (Int.toNat (↑(wholeV d) : Int) - Int.toNat (0 : Int)) (List.drop (Int.toNat (0 : Int)) d))) (Tr.br (decide ((0 : Int) ≤ IntKind.wrap IntKind.i64 ((↑(wholeV d) : Int) + (↑(wholeV (List.take (Int.toNat (↑(List.length d) : Int) - Int.toNat (↑(wholeV d) : Int)) (List.drop (Int.toNat (↑(wholeV d) : Int)) d))) : Int))) && decide (IntKind.wrap IntKind.i64 ((↑(wholeV d) : Int) + (↑(wholeV (List.take (Int.toNat (↑(List.length d) : Int) - Int.toNat (↑(wholeV d) : Int)) (List.drop (Int.toNat (↑(wholeV d) : Int)) d))) : Int)) ≤ (↑(List.length d) : Int))) (Tr.br (decide ((0 : Int) ≤ (↑(wholeV d) : Int)) && decide ((↑(wholeV d) : Int) ≤ IntKind.wrap IntKind.i64 ((↑(wholeV d) : Int) + (↑(wholeV (List.take (Int.toNat (↑(List.length d) : Int) - Int.toNat (↑(wholeV d) : Int)) (List.drop (Int.toNat (↑(wholeV d) : Int)) d))) : Int)))) (Tr.br (nmOk (nameP (List.take (Int.toNat (↑(wholeV d) : Int) - Int.toNat (0 : Int)) (List.drop (Int.toNat (0 : Int)) d)) (Prod.fst p) (Prod.snd p)) (List.take (Int.toNat (IntKind.wrap IntKind.i64 ((↑(wholeV d) : Int) + (↑(wholeV (List.take (Int.toNat (↑(List.length d) : Int) - Int.toNat (↑(wholeV d) : Int)) (List.drop (Int.toNat (↑(wholeV d) : Int)) d))) : Int))) - Int.toNat (↑(wholeV d) : Int)) (List.drop (Int.toNat (↑(wholeV d) : Int)) d))) (Tr.br (mayV (List.take (Int.toNat (IntKind.wrap IntKind.i64 ((↑(wholeV d) : Int) + (↑(wholeV (List.take (Int.toNat (↑(List.length d) : Int) - Int.toNat (↑(wholeV d) : Int)) (List.drop (Int.toNat (↑(wholeV d) : Int)) d))) : Int))) - Int.toNat (↑(wholeV d) : Int)) (List.drop (Int.toNat (↑(wholeV d) : Int)) d))) (Tr.br (decide ((0 : Int) ≤ (↑(List.length d) : Int)) && decide ((↑(List.length d) : Int) ≤ (↑(List.length d) : Int))) (Tr.br (decide ((0 : Int) ≤ IntKind.wrap IntKind.i64 ((↑(wholeV d) : Int) + (↑(wholeV (List.take (Int.toNat (↑(List.length d) : Int) - Int.toNat (↑(wholeV d) : Int)) (List.drop (Int.toNat (↑(wholeV d) : Int)) d))) : Int))) && decide (IntKind.wrap IntKind.i64 ((↑(wholeV d) : Int) + (↑(wholeV (List.take (Int.toNat (↑(List.length d) : Int) - Int.toNat (↑(wholeV d) : Int)) (List.drop (Int.toNat (↑(wholeV d) : Int)) d))) : Int)) ≤ (↑(List.length d) : Int))) (Tr.br (Nat.ble (List.length (Prod.fst (nameP (List.take (Int.toNat (IntKind.wrap IntKind.i64 ((↑(wholeV d) : Int) + (↑(wholeV (List.take (Int.toNat (↑(List.length d) : Int) - Int.toNat (↑(wholeV d) : Int)) (List.drop (Int.toNat (↑(wholeV d) : Int)) d))) : Int))) - Int.toNat (↑(wholeV d) : Int)) (List.drop (Int.toNat (↑(wholeV d) : Int)) d)) (Prod.fst (nameP (List.take (Int.toNat (↑(wholeV d) : Int) - Int.toNat (0 : Int)) (List.drop (Int.toNat (0 : Int)) d)) (Prod.fst p) (Prod.snd p))) (Prod.snd (nameP (List.take (Int.toNat (↑(wholeV d) : Int) - Int.toNat (0 : Int)) (List.drop (Int.toNat (0 : Int)) d)) (Prod.fst p) (Prod.snd p))))) + List.length (List.take (Int.toNat (↑(List.length d) : Int) - Int.toNat (IntKind.wrap IntKind.i64 ((↑(wholeV d) : Int) + (↑(wholeV (List.take (Int.toNat (↑(List.length d) : Int) - Int.toNat (↑(wholeV d) : Int)) (List.drop (Int.toNat (↑(wholeV d) : Int)) d))) : Int)))) (List.drop (Int.toNat (IntKind.wrap IntKind.i64 ((↑(wholeV d) : Int) + (↑(wholeV (List.take (Int.toNat (↑(List.length d) : Int) - Int.toNat (↑(wholeV d) : Int)) (List.drop (Int.toNat (↑(wholeV d) : Int)) d))) : Int)))) d))) 9223372036854775807) (Tr.ret ([AV.agg [AV.str (Prod.fst (nameP (List.take (Int.toNat (IntKind.wrap IntKind.i64 ((↑(wholeV d) : Int) + (↑(wholeV (List.take (Int.toNat (↑(List.length d) : Int) - Int.toNat (↑(wholeV d) : Int)) (List.drop (Int.toNat (↑(wholeV d) : Int)) d))) : Int))) - Int.toNat (↑(wholeV d) : Int)) (List.drop (Int.toNat (↑(wholeV d) : Int)) d)) (Prod.fst (nameP (List.take (Int.toNat (↑(wholeV d) : Int) - Int.toNat (0 : Int)) (List.drop (Int.toNat (0 : Int)) d)) (Prod.fst p) (Prod.snd p))) (Prod.snd (nameP (List.take (Int.toNat (↑(wholeV d) : Int) - Int.toNat (0 : Int)) (List.drop (Int.toNat (0 : Int)) d)) (Prod.fst p) (Prod.snd p)))) ++ List.take (Int.toNat (↑(List.length d) : Int) - Int.toNat (IntKind.wrap IntKind.i64 ((↑(wholeV d) : Int) + (↑(wholeV (List.take (Int.toNat (↑(List.length d) : Int) - Int.toNat (↑(wholeV d) : Int)) (List.drop (Int.toNat (↑(wholeV d) : Int)) d))) : Int)))) (List.drop (Int.toNat (IntKind.wrap IntKind.i64 ((↑(wholeV d) : Int) + (↑(wholeV (List.take (Int.toNat (↑(List.length d) : Int) - Int.toNat (↑(wholeV d) : Int)) (List.drop (Int.toNat (↑(wholeV d) : Int)) d))) : Int)))) d)), AV.list (Ty.pair Ty.str (Ty.int IntKind.i64)) (Prod.snd (nameP (List.take (Int.toNat (IntKind.wrap IntKind.i64 ((↑(wholeV d) : Int) + (↑(wholeV (List.take (Int.toNat (↑(List.length d) : Int) - Int.toNat (↑(wholeV d) : Int)) (List.drop (Int.toNat (↑(wholeV d) : Int)) d))) : Int))) - Int.toNat (↑(wholeV d) : Int)) (List.drop (Int.toNat (↑(wholeV d) : Int)) d)) (Prod.fst (nameP (List.take (Int.toNat (↑(wholeV d) : Int) - Int.toNat (0 : Int)) (List.drop (Int.toNat (0 : Int)) d)) (Prod.fst p) (Prod.snd p))) (Prod.snd (nameP (List.take (Int.toNat (↑(wholeV d) : Int) - Int.toNat (0 : Int)) (List.drop (Int.toNat (0 : Int)) d)) (Prod.fst p) (Prod.snd p)))))], AV.int IntKind.i64 (0 : Int)], [])) Tr.no) Tr.no) Tr.no) (Tr.br (decide ((0 : Int) ≤ (↑(List.length d) : Int)) && decide ((↑(List.length d) : Int) ≤ (↑(List.length d) : Int))) (Tr.br (decide ((0 : Int) ≤ IntKind.wrap IntKind.i64 ((↑(wholeV d) : Int) + (↑(wholeV (List.take (Int.toNat (↑(List.length d) : Int) - Int.toNat (↑(wholeV d) : Int)) (List.drop (Int.toNat (↑(wholeV d) : Int)) d))) : Int))) && decide (IntKind.wrap IntKind.i64 ((↑(wholeV d) : Int) + (↑(wholeV (List.take (Int.toNat (↑(List.length d) : Int) - Int.toNat (↑(wholeV d) : Int)) (List.drop (Int.toNat (↑(wholeV d) : Int)) d))) : Int)) ≤ (↑(List.length d) : Int))) (Tr.br (Nat.ble (List.length (Prod.fst (nameP (List.take (Int.toNat (↑(wholeV d) : Int) - Int.toNat (0 : Int)) (List.drop (Int.toNat (0 : Int)) d)) (Prod.fst p) (Prod.snd p))) + List.length (List.take (Int.toNat (↑(List.length d) : Int) - Int.toNat (IntKind.wrap IntKind.i64 ((↑(wholeV d) : Int) + (↑(wholeV (List.take (Int.toNat (↑(List.length d) : Int) - Int.toNat (↑(wholeV d) : Int)) (List.drop (Int.toNat (↑(wholeV d) : Int)) d))) : Int)))) (List.drop (Int.toNat (IntKind.wrap IntKind.i64 ((↑(wholeV d) : Int) + (↑(wholeV (List.take (Int.toNat (↑(List.length d) : Int) - Int.toNat (↑(wholeV d) : Int)) (List.drop (Int.toNat (↑(wholeV d) : Int)) d))) : Int)))) d))) 9223372036854775807) (Tr.ret ([AV.agg [AV.str (Prod.fst (nameP (List.take (Int.toNat (↑(wholeV d) : Int) - Int.toNat (0 : Int)) (List.drop (Int.toNat (0 : Int)) d)) (Prod.fst p) (Prod.snd p)) ++ List.take (Int.toNat (↑(List.length d) : Int) - Int.toNat (IntKind.wrap IntKind.i64 ((↑(wholeV d) : Int) + (↑(wholeV (List.take (Int.toNat (↑(List.length d) : Int) - Int.toNat (↑(wholeV d) : Int)) (List.drop (Int.toNat (↑(wholeV d) : Int)) d))) : Int)))) (List.drop (Int.toNat (IntKind.wrap IntKind.i64 ((↑(wholeV d) : Int) + (↑(wholeV (List.take (Int.toNat (↑(List.length d) : Int) - Int.toNat (↑(wholeV d) : Int)) (List.drop (Int.toNat (↑(wholeV d) : Int)) d))) : Int)))) d)), AV.list (Ty.pair Ty.str (Ty.int IntKind.i64)) (Prod.snd (nameP (List.take (Int.toNat (↑(wholeV d) : Int) - Int.toNat (0 : Int)) (List.drop (Int.toNat (0 : Int)) d)) (Prod.fst p) (Prod.snd p)))], AV.int IntKind.i64 (0 : Int)], [])) Tr.no) Tr.no) Tr.no)) Tr.no) Tr.no) Tr.no) (Tr.br (decide ((0 : Int) ≤ IntKind.wrap IntKind.i64 ((↑(wholeV d) : Int) + (↑(wholeV (List.take (Int.toNat (↑(List.length d) : Int) - Int.toNat (↑(wholeV d) : Int)) (List.drop (Int.toNat (↑(wholeV d) : Int)) d))) : Int))) && decide (IntKind.wrap IntKind.i64 ((↑(wholeV d) : Int) + (↑(wholeV (List.take (Int.toNat (↑(List.length d) : Int) - Int.toNat (↑(wholeV d) : Int)) (List.drop (Int.toNat (↑(wholeV d) : Int)) d))) : Int)) ≤ (↑(List.length d) : Int))) (Tr.br (decide ((0 : Int) ≤ (↑(wholeV d) : Int)) && decide ((↑(wholeV d) : Int) ≤ IntKind.wrap IntKind.i64 ((↑(wholeV d) : Int) + (↑(wholeV (List.take (Int.toNat (↑(List.length d) : Int) - Int.toNat (↑(wholeV d) : Int)) (List.drop (Int.toNat (↑(wholeV d) : Int)) d))) : Int)))) (Tr.br (nmOk p (List.take (Int.toNat (IntKind.wrap IntKind.i64 ((↑(wholeV d) : Int) + (↑(wholeV (List.take (Int.toNat (↑(List.length d) : Int) - Int.toNat (↑(wholeV d) : Int)) (List.drop (Int.toNat (↑(wholeV d) : Int)) d))) : Int))) - Int.toNat (↑(wholeV d) : Int)) (List.drop (Int.toNat (↑(wholeV d) : Int)) d))) (Tr.br (mayV (List.take (Int.toNat (IntKind.wrap IntKind.i64 ((↑(wholeV d) : Int) + (↑(wholeV (List.take (Int.toNat (↑(List.length d) : Int) - Int.toNat (↑(wholeV d) : Int)) (List.drop (Int.toNat (↑(wholeV d) : Int)) d))) : Int))) - Int.toNat (↑(wholeV d) : Int)) (List.drop (Int.toNat (↑(wholeV d) : Int)) d))) (Tr.br (decide ((0 : Int) ≤ (↑(List.length d) : Int)) && decide ((↑(List.length d) : Int) ≤ (↑(List.length d) : Int))) (Tr.br (decide ((0 : Int) ≤ IntKind.wrap IntKind.i64 ((↑(wholeV d) : Int) + (↑(wholeV (List.take (Int.toNat (↑(List.length d) : Int) - Int.toNat (↑(wholeV d) : Int)) (List.drop (Int.toNat (↑(wholeV d) : Int)) d))) : Int))) && decide (IntKind.wrap IntKind.i64 ((↑(wholeV d) : Int) + (↑(wholeV (List.take (Int.toNat (↑(List.length d) : Int) - Int.toNat (↑(wholeV d) : Int)) (List.drop (Int.toNat (↑(wholeV d) : Int)) d))) : Int)) ≤ (↑(List.length d) : Int))) (Tr.br (Nat.ble (List.length (Prod.fst (nameP (List.take (Int.toNat (IntKind.wrap IntKind.i64 ((↑(wholeV d) : Int) + (↑(wholeV (List.take (Int.toNat (↑(List.length d) : Int) - Int.toNat (↑(wholeV d) : Int)) (List.drop (Int.toNat (↑(wholeV d) : Int)) d))) : Int))) - Int.toNat (↑(wholeV d) : Int)) (List.drop (Int.toNat (↑(wholeV d) : Int)) d)) (Prod.fst p) (Prod.snd p))) + List.length (List.take (Int.toNat (↑(List.length d) : Int) - Int.toNat (IntKind.wrap IntKind.i64 ((↑(wholeV d) : Int) + (↑(wholeV (List.take (Int.toNat (↑(List.length d) : Int) - Int.toNat (↑(wholeV d) : Int)) (List.drop (Int.toNat (↑(wholeV d) : Int)) d))) : Int)))) (List.drop (Int.toNat (IntKind.wrap IntKind.i64 ((↑(wholeV d) : Int) + (↑(wholeV (List.take (Int.toNat (↑(List.length d) : Int) - Int.toNat (↑(wholeV d) : Int)) (List.drop (Int.toNat (↑(wholeV d) : Int)) d))) : Int)))) d))) 9223372036854775807) (Tr.ret ([AV.agg [AV.str (Prod.fst (nameP (List.take (Int.toNat (IntKind.wrap IntKind.i64 ((↑(wholeV d) : Int) + (↑(wholeV (List.take (Int.toNat (↑(List.length d) : Int) - Int.toNat (↑(wholeV d) : Int)) (List.drop (Int.toNat (↑(wholeV d) : Int)) d))) : Int))) - Int.toNat (↑(wholeV d) : Int)) (List.drop (Int.toNat (↑(wholeV d) : Int)) d)) (Prod.fst p) (Prod.snd p)) ++ List.take (Int.toNat (↑(List.length d) : Int) - Int.toNat (IntKind.wrap IntKind.i64 ((↑(wholeV d) : Int) + (↑(wholeV (List.take (Int.toNat (↑(List.length d) : Int) - Int.toNat (↑(wholeV d) : Int)) (List.drop (Int.toNat (↑(wholeV d) : Int)) d))) : Int)))) (List.drop (Int.toNat (IntKind.wrap IntKind.i64 ((↑(wholeV d) : Int) + (↑(wholeV (List.take (Int.toNat (↑(List.length d) : Int) - Int.toNat (↑(wholeV d) : Int)) (List.drop (Int.toNat (↑(wholeV d) : Int)) d))) : Int)))) d)), AV.list (Ty.pair Ty.str (Ty.int IntKind.i64)) (Prod.snd (nameP (List.take (Int.toNat (IntKind.wrap IntKind.i64 ((↑(wholeV d) : Int) + (↑(wholeV (List.take (Int.toNat (↑(List.length d) : Int) - Int.toNat (↑(wholeV d) : Int)) (List.drop (Int.toNat (↑(wholeV d) : Int)) d))) : Int))) - Int.toNat (↑(wholeV d) : Int)) (List.drop (Int.toNat (↑(wholeV d) : Int)) d)) (Prod.fst p) (Prod.snd p)))], AV.int IntKind.i64 (0 : Int)], [])) Tr.no) Tr.no) Tr.no) (Tr.br (decide ((0 : Int) ≤ (↑(List.length d) : Int)) && decide ((↑(List.length d) : Int) ≤ (↑(List.length d) : Int))) (Tr.br (decide ((0 : Int) ≤ IntKind.wrap IntKind.i64 ((↑(wholeV d) : Int) + (↑(wholeV (List.take (Int.toNat (↑(List.length d) : Int) - Int.toNat (↑(wholeV d) : Int)) (List.drop (Int.toNat (↑(wholeV d) : Int)) d))) : Int))) && decide (IntKind.wrap IntKind.i64 ((↑(wholeV d) : Int) + (↑(wholeV (List.take (Int.toNat (↑(List.length d) : Int) - Int.toNat (↑(wholeV d) : Int)) (List.drop (Int.toNat (↑(wholeV d) : Int)) d))) : Int)) ≤ (↑(List.length d) : Int))) (Tr.br (Nat.ble (List.length (Prod.fst p) + List.length (List.take (Int.toNat (↑(List.length d) : Int) - Int.toNat (IntKind.wrap IntKind.i64 ((↑(wholeV d) : Int) + (↑(wholeV (List.take (Int.toNat (↑(List.length d) : Int) - Int.toNat (↑(wholeV d) : Int)) (List.drop (Int.toNat (↑(wholeV d) : Int)) d))) : Int)))) (List.drop (Int.toNat (IntKind.wrap IntKind.i64 ((↑(wholeV d) : Int) + (↑(wholeV (List.take (Int.toNat (↑(List.length d) : Int) - Int.toNat (↑(wholeV d) : Int)) (List.drop (Int.toNat (↑(wholeV d) : Int)) d))) : Int)))) d))) 9223372036854775807) (Tr.ret ([AV.agg [AV.str (Prod.fst p ++ List.take (Int.toNat (↑(List.length d) : Int) - Int.toNat (IntKind.wrap IntKind.i64 ((↑(wholeV d) : Int) + (↑(wholeV (List.take (Int.toNat (↑(List.length d) : Int) - Int.toNat (↑(wholeV d) : Int)) (List.drop (Int.toNat (↑(wholeV d) : Int)) d))) : Int)))) (List.drop (Int.toNat (IntKind.wrap IntKind.i64 ((↑(wholeV d) : Int) + (↑(wholeV (List.take (Int.toNat (↑(List.length d) : Int) - Int.toNat (↑(wholeV d) : Int)) (List.drop (Int.toNat (↑(wholeV d) : Int)) d))) : Int)))) d)), AV.list (Ty.pair Ty.str (Ty.int IntKind.i64)) (Prod.snd p)], AV.int IntKind.i64 (0 : Int)], [])) Tr.no) Tr.no) Tr.no)) Tr.no) Tr.no) Tr.no)) Tr.no) Tr.no) Tr.no) Tr.no) Tr.no) Tr.no) (Tr.br (Nat.ble (List.length (Prod.fst p) + List.length d) 9223372036854775807) (Tr.ret ([AV.agg [AV.str (Prod.fst p ++ d), AV.list (Ty.pair Ty.str (Ty.int IntKind.i64)) (Prod.snd p)], AV.int IntKind.i64 (0 : Int)], [])) Tr.no))))))) Tr.no
def os18 : OSpec := { f := 18, sh := [.d (.pair .str (.list (.pair .str (.int .i64)))) true, .d (.int .u16) false, .d .str false], so := [], F := fun (p, k, d, _) _ => t18 p k d }
set_option maxRecDepth 1000000 in
theorem fn18 (p : (List UInt8 × List (List UInt8 × Int))) (k : Int) (d : List UInt8) : evC TN (orcB [fs37w, fs41w, fs25w, fs23] []) (lpOf h18 0 (lsOf [])) c18 1000000 (startSt [AV.ofTy (.pair .str (.list (.pair .str (.int .i64)))) p true, .int .u16 k, .str d] [] Try.f18.ntmps) (finishK TN false 0 Try.f18) = (t18 p k d).get := by kernel_rfl
theorem ok18 : os18.Ok Try.prog := by
  refine os_ok mixed0 tabN (orcB_sound (all_cons okf37w (all_cons okf41w (all_cons okf25w (all_cons okf23 all_nil)))) all_nil) h18 (d := 0) (n0 := 0) (S := lsOf []) Try.func18 (by kernel_rfl) (c := c18) (by kernel_rfl) rfl (no_loops (by kernel_rfl)) (by omega) (by kernel_rfl) ?_
  intro x'' y'' q'' hq''
  obtain ⟨(p : (List UInt8 × List (List UInt8 × Int))), (k : Int), (d : List UInt8), _⟩ := x''
  exact (fn18 p k d).trans hq''
def fs18 : FSpec := fsT 18 [((.pair .str (.list (.pair .str (.int .i64)))), true), ((.int .u16), false), (.str, false)] [((.pair .str (.list (.pair .str (.int .i64)))), true), ((.int .i64), false)] fun (p, k, d, _) => t18 p k d
theorem okf18 : fs18.Ok Try.prog := fsT_ok fun x'' r'' hr'' => ok18 x'' () r'' hr''
theorem parts_SOA {d : List UInt8} (h : mayR 6 d = true) : partsV 6 d = [d.take (wholeV d), (d.drop (wholeV d)).take (wholeV (d.drop (wholeV d))), (d.drop (wholeV d)).drop (wholeV (d.drop (wholeV d)))] := by
  rw [may_SOA, Bool.and_eq_true, Bool.and_eq_true, Bool.and_eq_true, decide_eq_true_eq] at h
  obtain ⟨⟨h0, h1, h2⟩, _⟩ := h
  obtain ⟨e1, e2⟩ := okP_name d
  obtain ⟨e3, e4⟩ := okP_name (d.drop (wholeV d))
  obtain ⟨e5, e6⟩ := okP_fix (x := 20) (by omega) ((d.drop (wholeV d)).drop (wholeV (d.drop (wholeV d))))
  unfold partsV
  rw [show layV 6 = [-1, -1, 20] from rfl, cutS, e2, e1, if_pos h0, Int.toNat_natCast, cutS, e4, e3, if_pos h1, Int.toNat_natCast, cutS, e6, e5, if_pos (by rw [h2]; rfl), show (20 : Int).toNat = 20 from rfl, List.take_of_length_le (show ((d.drop (wholeV d)).drop (wholeV (d.drop (wholeV d)))).length ≤ 20 by omega)]
  rfl
theorem tk_end (d : List UInt8) (a : Nat) : List.take (Int.toNat (d.length : Int) - Int.toNat (a : Int)) (List.drop (Int.toNat (a : Int)) d) = d.drop a := by
  simp only [Int.toNat_natCast]
  exact List.take_of_length_le (by rw [List.length_drop]; omega)
theorem tk_end2 (d : List UInt8) (a b : Nat) : List.take (Int.toNat (d.length : Int) - Int.toNat ((a : Int) + (b : Int))) (List.drop (Int.toNat ((a : Int) + (b : Int))) d) = (d.drop a).drop b := by
  rw [show Int.toNat ((a : Int) + (b : Int)) = a + b by omega, List.drop_drop]
  exact List.take_of_length_le (by rw [List.length_drop]; omega)
theorem tk_mid (d : List UInt8) (a b : Nat) : List.take (Int.toNat ((a : Int) + (b : Int)) - Int.toNat (a : Int)) (List.drop (Int.toNat (a : Int)) d) = (d.drop a).take b := by
  rw [show Int.toNat ((a : Int) + (b : Int)) - Int.toNat (a : Int) = b by omega, Int.toNat_natCast]
theorem tk_beg (d : List UInt8) (a : Nat) : List.take (Int.toNat (a : Int) - Int.toNat (0 : Int)) (List.drop (Int.toNat (0 : Int)) d) = d.take a := by
  rw [show Int.toNat (a : Int) - Int.toNat (0 : Int) = a by omega, show Int.toNat (0 : Int) = 0 from rfl, List.drop_zero]
def ptOk (p : PKt) (d : List UInt8) : Bool := bigS d && (kOk p.2 && (Nat.ble p.1.length 1000000000 && Nat.ble p.2.length 1000000000))
theorem nmOk_of {p : PKt} {n : List UInt8} (hn : n.length ≤ 70000) (hk : kOk p.2 = true) (h1 : p.1.length ≤ 10000000000) (h2 : p.2.length ≤ 10000000000) : nmOk p n = true := by
  unfold nmOk
  rw [hk, show bigS n = true by simp [bigS]; omega, Nat.ble_eq_true_of_le h1, Nat.ble_eq_true_of_le h2]
  rfl
theorem nameP_k {p : PKt} {n : List UInt8} (hm : mayV n = true) (hk : kOk p.2 = true) : kOk (nameP n p.1 p.2).2 = true ∧ (nameP n p.1 p.2).1.length ≤ p.1.length + n.length ∧ (nameP n p.1 p.2).2.length ≤ p.2.length + n.length := by
  have hk2 := (stN_k (p := p) (x := (n, false)) hk).1
  unfold stN at hk2
  rw [show mayV (n, false).1 = true from hm, cond_true] at hk2
  obtain ⟨l1, _, l3⟩ := nameL_len _ n p.1 p.2 rfl (may_iff.1 hm).1
  exact ⟨hk2, by omega, by omega⟩
theorem putR_one {k x : Int} {d : List UInt8} {p : PKt} (hlay : layV k = [x]) (hx : (x == -1) = false) (h : mayR k d = true) : putR k d p = (p.1 ++ d, p.2) := by
  unfold putR
  rw [parts_one hlay h, hlay, putS, hx]
  rfl
theorem putR_name {k : Int} {d : List UInt8} {p : PKt} (hk : k = 2 ∨ k = 5 ∨ k = 12) (h : mayR k d = true) (hm : mayV d = true) : putR k d p = nameP d p.1 p.2 := by
  unfold putR
  rw [parts_name hk h, show layV k = [-1] by rcases hk with rfl | rfl | rfl <;> rfl, putS, putS]
  show (bif mayV d then nameP d p.1 p.2 else p) = _
  rw [hm, cond_true]
theorem putR_MX {d : List UInt8} {p : PKt} (h : mayR 15 d = true) (hm : mayV (d.drop 2) = true) : putR 15 d p = nameP (d.drop 2) (p.1 ++ d.take 2) p.2 := by
  unfold putR
  rw [parts_MX h, show layV 15 = [2, -1] from rfl, putS, putS, putS]
  show (bif mayV (d.drop 2) then nameP (d.drop 2) (p.1 ++ d.take 2) p.2 else _) = _
  rw [hm, cond_true]
theorem putR_SOA {d x y z : List UInt8} {p : PKt} (hp : partsV 6 d = [x, y, z]) (hx : mayV x = true) (hy : mayV y = true) : putR 6 d p = ((nameP y (nameP x p.1 p.2).1 (nameP x p.1 p.2).2).1 ++ z, (nameP y (nameP x p.1 p.2).1 (nameP x p.1 p.2).2).2) := by
  unfold putR
  rw [hp, show layV 6 = [-1, -1, 20] from rfl, putS, putS, putS, putS]
  have e1 : stN p (List.headD [x, y, z] [], false) = nameP x p.1 p.2 := by
    show (bif mayV x then nameP x p.1 p.2 else p) = _
    rw [hx, cond_true]
  rw [show ((-1 : Int) == -1) = true from rfl, show ((20 : Int) == -1) = false from rfl, cond_true, cond_true, cond_false, e1]
  have e2 : stN (nameP x p.1 p.2) (List.headD [x, y, z].tail [], false) = nameP y (nameP x p.1 p.2).1 (nameP x p.1 p.2).2 := by
    show (bif mayV y then nameP y (nameP x p.1 p.2).1 (nameP x p.1 p.2).2 else _) = _
    rw [hy, cond_true]
  rw [e2]
  rfl
def pkV (p : PKt) (e : Int) : Res := ([.agg [.str p.1, .list (.pair .str (.int .i64)) p.2], .int .i64 e], [])
theorem put4_all (p : PKt) (k : Int) (d : List UInt8) (h : ptOk p d = true) : Tr.all (fun r : Res => r = bif mayR k d then pkV (putR k d p) 0 else pkV p 1) (t18 p k d) := by
  simp only [ptOk, Bool.and_eq_true] at h
  obtain ⟨hd, hk, h1, h2⟩ := h
  have h1 := Nat.le_of_ble_eq_true h1
  have h2 := Nat.le_of_ble_eq_true h2
  have hlen : d.length ≤ 1000000000000 := by simpa [bigS] using hd
  unfold t18
  cases hm : mayR k d with
  | false => exact Tr.all_t hd (Tr.all_t rfl (Tr.all_ret rfl))
  | true =>
    rw [cond_true]
    have h65 := (may_parts hm).2.2.1
    have hname : (k = 2 ∨ k = 5 ∨ k = 12) → mayV d = true ∧ nmOk p d = true ∧ putR k d p = nameP d p.1 p.2 := fun hk3 => by
      have h3 := hm
      rw [may_name hk3, Bool.and_eq_true] at h3
      exact ⟨h3.1, nmOk_of (by omega) hk (by omega) (by omega), putR_name hk3 hm h3.1⟩
    refine Tr.all_t hd (Tr.all_f rfl ?_)
    refine Tr.all_br (fun c => ?_) fun c2 => Tr.all_br (fun c => ?_) fun c5 => Tr.all_br (fun c => ?_) fun c12 => Tr.all_br (fun c => ?_) fun c15 => Tr.all_br (fun c => ?_) fun c6 => ?_
    · obtain ⟨a, b, e⟩ := hname (.inl (beq_iff_eq.1 c))
      rw [e]; exact Tr.all_t b (Tr.all_t a (Tr.all_ret rfl))
    · obtain ⟨a, b, e⟩ := hname (.inr (.inl (beq_iff_eq.1 c)))
      rw [e]; exact Tr.all_t b (Tr.all_t a (Tr.all_ret rfl))
    · obtain ⟨a, b, e⟩ := hname (.inr (.inr (beq_iff_eq.1 c)))
      rw [e]; exact Tr.all_t b (Tr.all_t a (Tr.all_ret rfl))
    · obtain rfl := beq_iff_eq.1 c
      have h3 := hm
      rw [may_MX, Bool.and_eq_true, Bool.and_eq_true, decide_eq_true_eq] at h3
      obtain ⟨⟨h3, h4⟩, _⟩ := h3
      have e1 : List.take (Int.toNat (d.length : Int) - Int.toNat (2 : Int)) (List.drop (Int.toNat (2 : Int)) d) = d.drop 2 := tk_end d 2
      have e2 : List.take (Int.toNat (2 : Int) - Int.toNat (0 : Int)) (List.drop (Int.toNat (0 : Int)) d) = d.take 2 := tk_beg d 2
      rw [e1, e2, putR_MX hm h4]
      have hl2 := List.length_drop (l := d) (i := 2)
      have hl3 := List.length_take (l := d) (i := 2)
      exact Tr.all_t (by rw [dec_true (by omega), dec_true (by omega)]; rfl) (Tr.all_t (Nat.ble_eq_true_of_le (by omega)) (Tr.all_t (by rw [dec_true (by omega), dec_true (by omega)]; rfl) (Tr.all_t (by rw [dec_true (by omega), dec_true (by omega)]; rfl) (Tr.all_t (nmOk_of (by omega) hk (by rw [List.length_append]; omega) (show p.2.length ≤ _ by omega)) (Tr.all_t h4 (Tr.all_ret rfl))))))
    · obtain rfl := beq_iff_eq.1 c
      have h3 := hm
      rw [may_SOA, Bool.and_eq_true, Bool.and_eq_true, Bool.and_eq_true, decide_eq_true_eq] at h3
      obtain ⟨⟨h3, h4, h5⟩, _⟩ := h3
      have m1 := whole_may (d := d) (by simpa using h3)
      have m2 := whole_may (d := d.drop (wholeV d)) (by simpa using h4)
      have l1 := wholeV_le d
      have l2 := wholeV_le (d.drop (wholeV d))
      have l3 := List.length_drop (l := d) (i := wholeV d)
      rw [tk_end, IntWalk.i64_in ((wholeV d : Int) + (wholeV (d.drop (wholeV d)) : Int)) (by omega), tk_end2, tk_mid, tk_beg, putR_SOA (parts_SOA hm) m1 m2]
      generalize wholeV (d.drop (wholeV d)) = b at *
      generalize wholeV d = a at *
      have l4 := List.length_take (l := d) (i := a)
      have l5 := List.length_take (l := d.drop a) (i := b)
      obtain ⟨k1, k2, k3⟩ := nameP_k m1 hk
      obtain ⟨k4, k5, k6⟩ := nameP_k m2 k1
      refine Tr.all_t ?_ (Tr.all_t ?_ (Tr.all_t ?_ (Tr.all_t ?_ (Tr.all_t ?_ (Tr.all_t (nmOk_of (by omega) hk (by omega) (by omega)) (Tr.all_t m1 (Tr.all_t ?_ (Tr.all_t ?_ (Tr.all_t (nmOk_of (by omega) k1 (by omega) (by omega)) (Tr.all_t m2 (Tr.all_t ?_ (Tr.all_t ?_ (Tr.all_t (Nat.ble_eq_true_of_le (by omega)) (Tr.all_ret rfl))))))))))))))
      all_goals first | (rw [dec_true (by omega), dec_true (by omega)]; rfl) | (simp [bigS]; omega) | exact hd
    · have hx : ∃ x, layV k = [x] ∧ (x == -1) = false := by
        have h2 : k ≠ 2 := by simpa using c2
        have h5 : k ≠ 5 := by simpa using c5
        have h12 : k ≠ 12 := by simpa using c12
        have h15 : k ≠ 15 := by simpa using c15
        have h6 : k ≠ 6 := by simpa using c6
        unfold layV
        by_cases a1 : k = 1
        · exact ⟨_, if_pos a1, rfl⟩
        rw [if_neg a1]
        by_cases a2 : k = 28
        · exact ⟨_, if_pos a2, rfl⟩
        rw [if_neg a2, if_neg (by omega), if_neg h15, if_neg h6]
        by_cases a3 : k = 16
        · exact ⟨_, if_pos a3, rfl⟩
        · exact ⟨_, if_neg a3, rfl⟩
      obtain ⟨x, e1, e2⟩ := hx
      rw [putR_one e1 e2 hm]
      exact Tr.all_t (Nat.ble_eq_true_of_le (by omega)) (Tr.all_ret rfl)
def fs18w : FSpec := fs18.like fun (p, k, d, _) => .br (ptOk p d) (.br (mayR k d) (.ret (putR k d p, (0 : Int), ())) (.ret (p, (1 : Int), ()))) .no
theorem okf18w : fs18w.Ok Try.prog := by
  refine flike_ok okf18 _ ?_
  rintro ⟨(p : List UInt8 × Known), (k : Int), (d : List UInt8), _⟩ y h
  simp only [Tr.get] at h
  cases hc : ptOk p d with
  | false => rw [hc] at h; cases h
  | true =>
    rw [hc, cond_true] at h
    have ha := put4_all p k d hc
    cases hm : mayR k d with
    | false =>
      rw [hm, cond_false] at h ha
      cases h
      exact convR_of (vs := (pkV p 1).1) rfl rfl (Tr.get_of_all ha)
    | true =>
      rw [hm, cond_true] at h ha
      cases h
      exact convR_of (vs := (pkV (putR k d p) 0).1) rfl rfl (Tr.get_of_all ha)
def ls17q : LoopSpec := { bid := 0, sh := [], so := [], F := fun _ _ => .no }
theorem loop17q (orc : Orc) : ls17q.Ok TN orc h17 0 0 b17 := by
  intro q'' hq'' x'' y'' r'' h
  cases h
/-- rdata.Put -/
def t17z (k : Int) (d : List UInt8) : Tr Res := Tr.ret ([AV.int IntKind.i64 (1 : Int)], [])
def os17z : OSpec := { f := 17, sh := [.np, .d (.int .u16) false, .d .str false], so := [], F := fun (k, d, _) _ => t17z k d }
set_option maxRecDepth 1000000 in
theorem fn17z (k : Int) (d : List UInt8) : evC TN (orcB [] []) (lpOf h17 0 (lsOf [ls17q])) c17 1000000 (startSt [.np, .int .u16 k, .str d] [] Try.f17.ntmps) (finishK TN false 0 Try.f17) = (t17z k d).get := by kernel_rfl
theorem ok17z : os17z.Ok Try.prog := by
  refine os_ok mixed0 tabN (orcB_sound all_nil all_nil) h17 (d := 0) (n0 := 0) (S := lsOf [ls17q]) Try.func17 (by kernel_rfl) (c := c17) (by kernel_rfl) rfl (loops_eq (xs := [(0, b17)]) (by kernel_rfl) (all_cons (ls_here (loop17q _)) all_nil)) (by omega) (by kernel_rfl) ?_
  intro x'' y'' q'' hq''
  obtain ⟨(k : Int), (d : List UInt8), _⟩ := x''
  exact (fn17z k d).trans hq''
def rpS (l : Items) : Bool := (l.take 20).all fun x => decide (x.2.length ≤ 700)
def rpC (b : List Int) (m : Known) (S : List UInt8) (L : Known) (i : Int) : Bool := b.isEmpty && (m.isEmpty && (S.isEmpty && (L.isEmpty && decide (i = 0))))
noncomputable def b3 : Code := nthLoop c3 0
def ls3 : LoopSpec := { bid := 0, sh := [.d (.list (.pair (.int .u16) .str)) false, .d .bool false, .ptr 0 0, .ptr 3 0, .d (.int .i64) false], so := [.box [.row 1, .mp 2], .row (.int .u8), .map .str (.int .i64), .box [.d .str false, .d (.list (.pair .str (.int .i64))) false]], F := fun (l, up, i, _) (_, b, m, (S, L, _), _) => .on2 (rpC b m S L i) (rpS l) (.exit 0, [.dead, .bool up], []) (.ret, [.bool up, .bool up], []) }
def r3 (l : List (Int × List UInt8)) (up : Bool) (i : Int) (b : List Int) (m : List (List UInt8 × Int)) (S : List UInt8) (L : List (List UInt8 × Int)) : Tr (St ⊕ (Ex × St)) := Tr.br (decide (i < (↑(List.length l) : Int))) (Tr.br (decide (i < (20 : Int))) (Tr.br (decide ((0 : Int) ≤ i)) (Tr.br (decide (i < (↑(List.length l) : Int))) (Tr.br (decide ((↑(List.length (Prod.snd (List.getD l (Int.toNat i) (Ty.dflt (Ty.pair (Ty.int IntKind.u16) Ty.str))))) : Int) > (700 : Int))) (Tr.ret (Sum.inr (Ex.ret, stOf [2, 3] [AV.bool up, AV.bool up] []))) (Tr.br (decide ((0 : Int) ≤ i)) (Tr.br (decide (i < (↑(List.length l) : Int))) (Tr.br (decide ((0 : Int) ≤ i)) (Tr.br (decide (i < (↑(List.length l) : Int))) (Tr.br (pkT b m && Nat.ble (List.length (Prod.snd (List.getD l (Int.toNat i) (Ty.dflt (Ty.pair (Ty.int IntKind.u16) Ty.str))))) 1000000) (Tr.br (mayR (Prod.fst (List.getD l (Int.toNat i) (Ty.dflt (Ty.pair (Ty.int IntKind.u16) Ty.str)))) (Prod.snd (List.getD l (Int.toNat i) (Ty.dflt (Ty.pair (Ty.int IntKind.u16) Ty.str))))) (Tr.br (decide ((0 : Int) ≤ i)) (Tr.br (decide (i < (↑(List.length l) : Int))) (Tr.br (decide ((0 : Int) ≤ i)) (Tr.br (decide (i < (↑(List.length l) : Int))) (Tr.br (ptOk (S, L) (Prod.snd (List.getD l (Int.toNat i) (Ty.dflt (Ty.pair (Ty.int IntKind.u16) Ty.str))))) (Tr.br (mayR (Prod.fst (List.getD l (Int.toNat i) (Ty.dflt (Ty.pair (Ty.int IntKind.u16) Ty.str)))) (Prod.snd (List.getD l (Int.toNat i) (Ty.dflt (Ty.pair (Ty.int IntKind.u16) Ty.str))))) (Tr.br (!intBytes (bytesInt (Prod.fst (putR (Prod.fst (List.getD l (Int.toNat i) (Ty.dflt (Ty.pair (Ty.int IntKind.u16) Ty.str)))) (Prod.snd (List.getD l (Int.toNat i) (Ty.dflt (Ty.pair (Ty.int IntKind.u16) Ty.str)))) (intBytes b, m)))) == Prod.fst (putR (Prod.fst (List.getD l (Int.toNat i) (Ty.dflt (Ty.pair (Ty.int IntKind.u16) Ty.str)))) (Prod.snd (List.getD l (Int.toNat i) (Ty.dflt (Ty.pair (Ty.int IntKind.u16) Ty.str)))) (S, L))) (Tr.ret (Sum.inr (Ex.ret, stOf [2, 3] [AV.bool false, AV.bool up] []))) (Tr.ret (Sum.inl (stOf [0, 3, 4, 5, 6] [AV.list (Ty.pair (Ty.int IntKind.u16) Ty.str) l, AV.bool up, AV.ptr 0 0, AV.ptr 3 0, AV.int IntKind.i64 (IntKind.wrap IntKind.i64 (i + (1 : Int)))] [LObj.boxT none [AV.rowA 1, AV.mp 2], LObj.row (Ty.int IntKind.u8) (bytesInt (Prod.fst (putR (Prod.fst (List.getD l (Int.toNat i) (Ty.dflt (Ty.pair (Ty.int IntKind.u16) Ty.str)))) (Prod.snd (List.getD l (Int.toNat i) (Ty.dflt (Ty.pair (Ty.int IntKind.u16) Ty.str)))) (intBytes b, m)))), LObj.mpo Ty.str (Ty.int IntKind.i64) (Prod.snd (putR (Prod.fst (List.getD l (Int.toNat i) (Ty.dflt (Ty.pair (Ty.int IntKind.u16) Ty.str)))) (Prod.snd (List.getD l (Int.toNat i) (Ty.dflt (Ty.pair (Ty.int IntKind.u16) Ty.str)))) (intBytes b, m))), LObj.boxT none [AV.str (Prod.fst (putR (Prod.fst (List.getD l (Int.toNat i) (Ty.dflt (Ty.pair (Ty.int IntKind.u16) Ty.str)))) (Prod.snd (List.getD l (Int.toNat i) (Ty.dflt (Ty.pair (Ty.int IntKind.u16) Ty.str)))) (S, L))), AV.list (Ty.pair Ty.str (Ty.int IntKind.i64)) (Prod.snd (putR (Prod.fst (List.getD l (Int.toNat i) (Ty.dflt (Ty.pair (Ty.int IntKind.u16) Ty.str)))) (Prod.snd (List.getD l (Int.toNat i) (Ty.dflt (Ty.pair (Ty.int IntKind.u16) Ty.str)))) (S, L)))]])))) (Tr.ret (Sum.inr (Ex.ret, stOf [2, 3] [AV.bool false, AV.bool up] [])))) Tr.no) Tr.no) Tr.no) Tr.no) Tr.no) (Tr.br (decide ((0 : Int) ≤ i)) (Tr.br (decide (i < (↑(List.length l) : Int))) (Tr.br (decide ((0 : Int) ≤ i)) (Tr.br (decide (i < (↑(List.length l) : Int))) (Tr.br (ptOk (S, L) (Prod.snd (List.getD l (Int.toNat i) (Ty.dflt (Ty.pair (Ty.int IntKind.u16) Ty.str))))) (Tr.br (mayR (Prod.fst (List.getD l (Int.toNat i) (Ty.dflt (Ty.pair (Ty.int IntKind.u16) Ty.str)))) (Prod.snd (List.getD l (Int.toNat i) (Ty.dflt (Ty.pair (Ty.int IntKind.u16) Ty.str))))) (Tr.ret (Sum.inr (Ex.ret, stOf [2, 3] [AV.bool false, AV.bool up] []))) (Tr.br (!intBytes b == S) (Tr.ret (Sum.inr (Ex.ret, stOf [2, 3] [AV.bool false, AV.bool up] []))) (Tr.ret (Sum.inl (stOf [0, 3, 4, 5, 6] [AV.list (Ty.pair (Ty.int IntKind.u16) Ty.str) l, AV.bool up, AV.ptr 0 0, AV.ptr 3 0, AV.int IntKind.i64 (IntKind.wrap IntKind.i64 (i + (1 : Int)))] [LObj.boxT none [AV.rowA 1, AV.mp 2], LObj.row (Ty.int IntKind.u8) b, LObj.mpo Ty.str (Ty.int IntKind.i64) m, LObj.boxT none [AV.str S, AV.list (Ty.pair Ty.str (Ty.int IntKind.i64)) L]]))))) Tr.no) Tr.no) Tr.no) Tr.no) Tr.no)) Tr.no) Tr.no) Tr.no) Tr.no) Tr.no)) Tr.no) Tr.no) (Tr.ret (Sum.inr (Ex.exit 0, stOf [2, 3] [AV.dead, AV.bool up] [])))) (Tr.ret (Sum.inr (Ex.exit 0, stOf [2, 3] [AV.dead, AV.bool up] [])))
set_option maxRecDepth 1000000 in
theorem round3 (lp : Lp) (l : List (Int × List UInt8)) (up : Bool) (i : Int) (b : List Int) (m : List (List UInt8 × Int)) (S : List UInt8) (L : List (List UInt8 × Int)) : evC TN (orcB [fs15w, fs18w] [os16, os17w, os17z, os19]) lp b3 0 (stOf [0, 3, 4, 5, 6] [.list (.pair (.int .u16) .str) l, .bool up, .ptr 0 0, .ptr 3 0, .int .i64 i] [.box [.rowA 1, .mp 2], .row (.int .u8) b, .mpo .str (.int .i64) m, .box [.str S, .list (.pair .str (.int .i64)) L]]) (roundK [0, 3, 4, 5, 6] [2, 3] 0) = (r3 l up i b m S L).get := by kernel_rfl
theorem wf3 (l : List (Int × List UInt8)) (up : Bool) (I'' : Int → List Int → List (List UInt8 × Int) → List UInt8 → List (List UInt8 × Int) → Prop) (m'' : Int → List Int → List (List UInt8 × Int) → List UInt8 → List (List UInt8 × Int) → Nat) (r'' : Ex × St) (h : ∀ (i : Int) (b : List Int) (m : List (List UInt8 × Int)) (S : List UInt8) (L : List (List UInt8 × Int)), I'' i b m S L → (r3 l up i b m S L).all fun x'' => x'' = .inr r'' ∨ ∃ (i' : Int) (b' : List Int) (m' : List (List UInt8 × Int)) (S' : List UInt8) (L' : List (List UInt8 × Int)), x'' = .inl (stOf [0, 3, 4, 5, 6] [.list (.pair (.int .u16) .str) l, .bool up, .ptr 0 0, .ptr 3 0, .int .i64 i'] [.box [.rowA 1, .mp 2], .row (.int .u8) b', .mpo .str (.int .i64) m', .box [.str S', .list (.pair .str (.int .i64)) L']]) ∧ I'' i' b' m' S' L' ∧ m'' i' b' m' S' L' < m'' i b m S L) (lp : Lp) (i : Int) (b : List Int) (m : List (List UInt8 × Int)) (S : List UInt8) (L : List (List UInt8 × Int)) : I'' i b m S L →
    loopF (fun st => evC TN (orcB [fs15w, fs18w] [os16, os17w, os17z, os19]) lp b3 0 st (roundK [0, 3, 4, 5, 6] [2, 3] 0)) (stOf [0, 3, 4, 5, 6] [.list (.pair (.int .u16) .str) l, .bool up, .ptr 0 0, .ptr 3 0, .int .i64 i] [.box [.rowA 1, .mp 2], .row (.int .u8) b, .mpo .str (.int .i64) m, .box [.str S, .list (.pair .str (.int .i64)) L]]) = some r'' :=
  loop_tr (fun a'' : Int × List Int × List (List UInt8 × Int) × List UInt8 × List (List UInt8 × Int) => stOf [0, 3, 4, 5, 6] [.list (.pair (.int .u16) .str) l, .bool up, .ptr 0 0, .ptr 3 0, .int .i64 a''.1] [.box [.rowA 1, .mp 2], .row (.int .u8) a''.2.1, .mpo .str (.int .i64) a''.2.2.1, .box [.str a''.2.2.2.1, .list (.pair .str (.int .i64)) a''.2.2.2.2]]) (fun a'' => I'' a''.1 a''.2.1 a''.2.2.1 a''.2.2.2.1 a''.2.2.2.2) (fun a'' => m'' a''.1 a''.2.1 a''.2.2.1 a''.2.2.2.1 a''.2.2.2.2) r'' (fun a'' => r3 l up a''.1 a''.2.1 a''.2.2.1 a''.2.2.2.1 a''.2.2.2.2)
    (fun a'' x hx => (round3 lp l up a''.1 a''.2.1 a''.2.2.1 a''.2.2.2.1 a''.2.2.2.2).trans hx) (fun a'' ha => Tr.all_mono (fun x'' hx => hx.imp id fun ⟨i', b', m', S', L', h1, h2, h3⟩ => ⟨(i', b', m', S', L'), h1, h2, h3⟩) (h (a''.1) (a''.2.1) (a''.2.2.1) (a''.2.2.2.1) (a''.2.2.2.2) ha)) (i, b, m, S, L)
theorem putS_len2 : ∀ (ps : List Int) (ls : List (List UInt8)) (p : PKt), (putS ps ls p).2.length ≤ p.2.length + ls.flatten.length
  | [], _, p => by simp [putS]
  | x :: ps, ls, p => by
    rw [putS]
    have hl : ls.flatten.length = (ls.headD []).length + ls.tail.flatten.length := by cases ls <;> simp
    cases hx : x == -1 with
    | true =>
      have q2 := putS_len2 ps ls.tail (stN p (ls.headD [], false))
      rw [cond_true, hl]
      have k2 : (stN p (ls.headD [], false)).2.length ≤ p.2.length + (ls.headD []).length := by
        show (bif mayV (ls.headD []) then nameP (ls.headD []) p.1 p.2 else p).2.length ≤ _
        cases hm : mayV (ls.headD []) with
        | false => rw [cond_false]; omega
        | true =>
          rw [cond_true]
          obtain ⟨_, _, l3⟩ := nameL_len _ (ls.headD []) p.1 p.2 rfl (may_iff.1 hm).1
          omega
      omega
    | false =>
      have q2 : (putS ps ls.tail (p.1 ++ ls.headD [], p.2)).2.length ≤ p.2.length + ls.tail.flatten.length := putS_len2 ps ls.tail (p.1 ++ ls.headD [], p.2)
      rw [cond_false, hl]
      omega
theorem putR_len {k : Int} {d : List UInt8} {p : PKt} (hm : mayR k d = true) (hk : kOk p.2 = true) : kOk (putR k d p).2 = true ∧ (putR k d p).1.length ≤ p.1.length + d.length ∧ (putR k d p).2.length ≤ p.2.length + d.length := by
  obtain ⟨q1, q2⟩ := putS_len (layV k) (partsV k d) p hk
  have q3 := putS_len2 (layV k) (partsV k d) p
  rw [(may_parts hm).2.2.2.2.2] at q2 q3
  exact ⟨q1, q2, q3⟩
def rpI (l : Items) (i : Int) (b : List Int) (m : Known) (S : List UInt8) (L : Known) : Prop := 0 ≤ i ∧ i ≤ 20 ∧ i ≤ l.length ∧ ∃ p : PKt, b = bytesInt p.1 ∧ m = p.2 ∧ S = p.1 ∧ L = p.2 ∧ kOk p.2 = true ∧ p.1.length ≤ 700 * i.toNat ∧ p.2.length ≤ 700 * i.toNat ∧ ∀ j : Nat, j < i.toNat → (l.getD j (0, [])).2.length ≤ 700
theorem rpS_of {l : Items} {n : Nat} (hn : n = l.length ∨ n = 20) (h : ∀ j : Nat, j < n → (l.getD j (0, [])).2.length ≤ 700) : rpS l = true := by
  unfold rpS
  rw [List.all_eq_true]
  intro x hx
  obtain ⟨j, hj, rfl⟩ := List.mem_iff_getElem.1 hx
  rw [List.getElem_take]
  rw [List.length_take] at hj
  have := h j (by omega)
  rw [List.getD_eq_getElem?_getD, List.getElem?_eq_getElem (by omega)] at this
  exact decide_eq_true this
theorem rpS_not {l : Items} {j : Nat} (h1 : j < l.length) (h2 : j < 20) (h : 700 < (l.getD j (0, [])).2.length) : rpS l = false := by
  rw [Bool.eq_false_iff]
  intro hs
  unfold rpS at hs
  rw [List.all_eq_true] at hs
  have hj : j < (l.take 20).length := by rw [List.length_take]; omega
  have := hs _ (List.getElem_mem hj)
  rw [List.getElem_take, decide_eq_true_eq] at this
  rw [List.getD_eq_getElem?_getD, List.getElem?_eq_getElem (by omega)] at h
  simp only [Option.getD_some] at h
  omega
theorem loop3 : ls3.Ok TN (orcB [fs15w, fs18w] [os16, os17w, os17z, os19]) h3 0 0 b3 := by
  intro q'' hq'' x'' y'' r'' h
  obtain ⟨(l : List (Int × List UInt8)), (up : Bool), (i : Int), _⟩ := x''
  obtain ⟨_, (b : List Int), (m : List (List UInt8 × Int)), ⟨(S : List UInt8), (L : List (List UInt8 × Int)), _⟩, _⟩ := y''
  obtain ⟨hc, rfl⟩ := Tr.get_on2 h
  show loopF (fun st => evC TN (orcB [fs15w, fs18w] [os16, os17w, os17z, os19]) (lpN TN (orcB [fs15w, fs18w] [os16, os17w, os17z, os19]) h3 0 q'') b3 0 st (roundK [0, 3, 4, 5, 6] [2, 3] 0)) (stOf [0, 3, 4, 5, 6] [.list (.pair (.int .u16) .str) l, .bool up, .ptr 0 0, .ptr 3 0, .int .i64 i] [.box [.rowA 1, .mp 2], .row (.int .u8) b, .mpo .str (.int .i64) m, .box [.str S, .list (.pair .str (.int .i64)) L]]) = some ((bif rpS l then (.exit 0, [.dead, .bool up], []) else (.ret, [.bool up, .bool up], []) : Ex × List AV × List LObj).1, stOf [2, 3] (bif rpS l then (.exit 0, [.dead, .bool up], []) else (.ret, [.bool up, .bool up], []) : Ex × List AV × List LObj).2.1 (bif rpS l then (.exit 0, [.dead, .bool up], []) else (.ret, [.bool up, .bool up], []) : Ex × List AV × List LObj).2.2)
  simp only [rpC, Bool.and_eq_true, decide_eq_true_eq, List.isEmpty_iff] at hc
  obtain ⟨rfl, rfl, rfl, rfl, rfl⟩ := hc
  refine wf3 l up (rpI l) (fun i _ _ _ _ => (20 - i).toNat) _ ?_ _ 0 [] [] [] [] ⟨by omega, by omega, by omega, ([], []), rfl, rfl, rfl, rfl, rfl, by simp, by simp, fun j hj => by omega⟩
  rintro i b m S L ⟨h0, h20, h1, p, rfl, rfl, rfl, rfl, hk, hp1, hp2, hs⟩
  unfold r3
  have hpe : ((p.1, p.2) : PKt) = p := rfl
  by_cases hi : i < l.length
  · refine Tr.all_t (dec_true hi) ?_
    by_cases hi2 : i < 20
    · have hdf : (Ty.dflt (Ty.pair (Ty.int IntKind.u16) Ty.str)) = ((0 : Int), ([] : List UInt8)) := rfl
      have hj := fun (hx : (l.getD i.toNat (0, [])).2.length ≤ 700) => show ∀ j : Nat, j < (i + 1).toNat → (l.getD j (0, [])).2.length ≤ 700 from fun j hj => if e : j = i.toNat then (by rw [e]; exact hx) else hs j (by omega)
      have hno := fun (hx : 700 < (l.getD i.toNat (0, [])).2.length) => rpS_not (l := l) (j := i.toNat) (by omega) (by omega) hx
      rw [hdf]
      generalize l.getD i.toNat (0, []) = x at *
      obtain ⟨k, d⟩ := x
      simp only at hj hno ⊢
      refine Tr.all_t (dec_true hi2) (Tr.all_t (dec_true h0) (Tr.all_t (dec_true hi) (Tr.all_br (fun c => ?_) fun c => ?_)))
      · refine Tr.all_ret (.inl ?_)
        rw [hno (by have := of_decide_eq_true c; omega)]
        rfl
      · have c : ¬ ((d.length : Int) > 700) := of_decide_eq_false c
        have hpk : (pkT (bytesInt p.1) p.2 && Nat.ble d.length 1000000) = true := by
          unfold pkT
          rw [bytesInt_ok, hk, bytesInt_len, Nat.ble_eq_true_of_le (by omega), Nat.ble_eq_true_of_le (by omega)]
          rfl
        have hpt : ptOk (p.1, p.2) d = true := by
          unfold ptOk
          rw [hk, show bigS d = true by simp [bigS]; omega, Nat.ble_eq_true_of_le (show p.1.length ≤ _ by omega), Nat.ble_eq_true_of_le (show p.2.length ≤ _ by omega)]
          rfl
        rw [intB_bytes, intB_bytes, hpe, IntWalk.i64_in _ (by omega)]
        refine Tr.all_t (dec_true h0) (Tr.all_t (dec_true hi) (Tr.all_t (dec_true h0) (Tr.all_t (dec_true hi) (Tr.all_t hpk (Tr.all_br (fun cm => ?_) fun cm => ?_)))))
        · obtain ⟨q1, q2, q3⟩ := putR_len (p := p) cm hk
          refine Tr.all_t (dec_true h0) (Tr.all_t (dec_true hi) (Tr.all_t (dec_true h0) (Tr.all_t (dec_true hi) (Tr.all_t hpt (Tr.all_t cm (Tr.all_f (by simp) (Tr.all_ret (.inr ?_))))))))
          exact ⟨_, _, _, _, _, rfl, ⟨by omega, by omega, by omega, putR k d p, rfl, rfl, rfl, rfl, q1, by omega, by omega, hj (by omega)⟩, by omega⟩
        · refine Tr.all_t (dec_true h0) (Tr.all_t (dec_true hi) (Tr.all_t (dec_true h0) (Tr.all_t (dec_true hi) (Tr.all_t hpt (Tr.all_f cm (Tr.all_f (by simp) (Tr.all_ret (.inr ?_))))))))
          exact ⟨_, _, _, _, _, rfl, ⟨by omega, by omega, by omega, p, rfl, rfl, rfl, rfl, hk, by omega, by omega, hj (by omega)⟩, by omega⟩
    · refine Tr.all_f (dec_false hi2) (Tr.all_ret (.inl ?_))
      rw [rpS_of (n := i.toNat) (.inr (by omega)) hs]
      rfl
  · refine Tr.all_f (dec_false hi) (Tr.all_ret (.inl ?_))
    rw [rpS_of (n := i.toNat) (.inl (by omega)) hs]
    rfl
/-- derricklaw04.RdataPuts -/
def t3 (l : List (Int × List UInt8)) : Tr Res := Tr.br (rpS l) (Tr.ret ([AV.bool ((1 : Int) == (1 : Int))], [])) (Tr.ret ([AV.bool true], []))
def os3 : OSpec := { f := 3, sh := [.d (.list (.pair (.int .u16) .str)) false], so := [], F := fun (l, _) _ => t3 l }
set_option maxRecDepth 1000000 in
theorem fn3 (l : List (Int × List UInt8)) : evC TN (orcB [fs15w, fs18w] [os16, os17w, os17z, os19]) (lpOf h3 0 (lsOf [ls3])) c3 1000000 (startSt [.list (.pair (.int .u16) .str) l] [] Try.f3.ntmps) (finishK TN false 0 Try.f3) = (t3 l).get := by kernel_rfl
theorem ok3 : os3.Ok Try.prog := by
  refine os_ok mixed0 tabN (orcB_sound (all_cons okf15w (all_cons okf18w all_nil)) (all_cons ok16 (all_cons ok17w (all_cons ok17z (all_cons ok19 all_nil))))) h3 (d := 0) (n0 := 0) (S := lsOf [ls3]) Try.func3 (by kernel_rfl) (c := c3) (by kernel_rfl) rfl (loops_eq (xs := [(0, b3)]) (by kernel_rfl) (all_cons (ls_here loop3) all_nil)) (by omega) (by kernel_rfl) ?_
  intro x'' y'' q'' hq''
  obtain ⟨(l : List (Int × List UInt8)), _⟩ := x''
  exact (fn3 l).trans hq''
def fs3 : FSpec := fsT 3 [((.list (.pair (.int .u16) .str)), false)] [(.bool, false)] fun (l, _) => t3 l
theorem okf3 : fs3.Ok Try.prog := fsT_ok fun x'' r'' hr'' => ok3 x'' () r'' hr''
theorem sem3 (l : Items) : SemF Try.prog 3 [.list (.pair (.int .u16) .str) l] [] [.bool true] [] :=
  ok3 (l, ()) () ([.bool true], []) (Tr.get_of_all (Tr.all_br (fun _ => Tr.all_ret rfl) fun _ => Tr.all_ret rfl))
end Go.Proofs.YtfepkpindchleaaE

/- The row of RdataPuts. Printed by mklaw.py. -/
namespace Go.Proofs.Ytfepkpindchleaa.rdataPuts
open Go.ChangeShapes Go.WideShapes Go.ChangeAt Go.RowKit Go.Proofs.YtfepkpindchleaaE
open Go.ChangeMaps (open_string shut_string)
set_option linter.unusedVariables false
theorem own : ownKnob Try.prog.godebug = none := by kernel_rfl
theorem laidOut : laidOutB Try.prog = true := by kernel_rfl
set_option maxRecDepth 100000 in
theorem lifted (os : Os) (started : os.Started) (H : Type) (enc : TypeId × Value → H) :
    ReturnsInHanded {} Try.checked os 3 .any (Rows.rdataPutsSpec.pre6 enc Try.prog Try.f3 Rows.rdataPutsRow.domain false) (Rows.rdataPutsSpec.post enc Try.prog Try.f3 false true false false) := by
  refine returnsInHanded_of_change_sized (C := Try.checked) own started (by kernel_rfl) Try.func3
    (ChangeSpec.witness6 (enc := enc) (C := Try.checked) false ⟨#[], #[.slice none 0 0], []⟩ 8 (by kernel_rfl) (by kernel_rfl) (by kernel_rfl) (by kernel_rfl)) ?_
  intro W base args ds gs before hval0 hW hcnd hsz0 _
  have hsz : ∀ n ∈ DataW.weightsEach Try.prog (Try.f3.params.toList ++ Rows.rdataPutsSpec.plain.varTypes Try.prog) (ds ++ gs), n ≤ reachBytes := fun n hn => of_decide_eq_true (List.all_eq_true.1 hsz0 n hn)
  have hval : ∀ (j : Nat) t v, Try.f3.params[j]? = some t → args[j]? = some v → Value.okWide Try.prog W .any base t v := hval0
  have hW' := hW
  obtain ⟨p, q, hA0, hV, rfl, hfz, hnd⟩ := hW
  have hA : DataW.TrodAll enc Try.prog W 0 (fun _ => true) true Try.f3.params.toList args.toList ds p := hA0
  rw [Try.params3] at hA hval hsz
  obtain ⟨v0, vs0, d0, ds0, p0, q0, hargs, rfl, rfl, k0, r0⟩ := trodAll_cons hA
  obtain ⟨rfl, rfl, rfl⟩ := trodAll_nil r0
  obtain rfl : args = #[v0] := by cases args; simp_all
  obtain ⟨rfl, rfl⟩ := trodVars_none hV
  have lt0 : ∀ x ∈ p0, x.block < W.heap.size := by obtain ⟨m, hm⟩ := k0; exact DataW.trod_lt m _ _ _ hm
  obtain ⟨x0, e0, w0, b0⟩ := arg_told (n := 8) (τ := (.list (.pair (.int .u16) .str))) (agg := false) (by kernel_rfl) (hval 0 22 v0 rfl rfl) k0 (fun n hn => hsz n (DataW.weights_mem_each (j := 0) (t := 22) rfl rfl n hn)) (by kernel_rfl)
  clear hA0 hval0 hsz0 hsz
  refine (law_calls ((fun l _ => sem3 l) x0 w0) W (vs := [v0]) ?_).mono fun e W' ⟨he, bel⟩ => ?_
  · simp only [VRelL]
    exact ⟨_, _, rfl, e0, rfl⟩
  subst he
  exact ⟨_, rfl, _, _, _, [], _, [], hW', trodAll_mk1 (shut_bool Try.underlying4 _), (trodAll_cons_mk (Below.trod laidOut (by kernel_rfl) (of_decide_eq_true (by kernel_rfl)) k0 bel lt0) trodAll_mk0), rfl, bel.frame _, fun h => by cases h⟩
theorem over : Rows.rdataPutsRow.holds Try.pinned (OpenSpec.ofChange Rows.rdataPutsSpec) :=
  OpenClaim.holds_of_wide 3 Try.f3 rfl rfl rfl rfl rfl rfl rfl ⟨rfl, rfl, rfl, rfl, rfl⟩ rfl rfl rfl rfl rfl (by kernel_rfl) Try.func3 (by kernel_rfl)
    (of_decide_eq_true (by kernel_rfl)) (by unfold Func.isWrapper; first | (rw [if_pos (by decide +kernel)]; kernel_rfl) | (rw [if_neg (by decide +kernel)]; exact ⟨rfl, rfl⟩))
    (fun os started H enc _ => lifted os started H enc)
theorem proved : Rows.RdataPutsSaid := over
end Go.Proofs.Ytfepkpindchleaa.rdataPuts
namespace Go.Proofs.Ytfepkpindchleaa
/-- The row, under a short name, for the claim. -/
theorem rdataPuts_holds : Rows.RdataPutsSaid := rdataPuts.proved
#print axioms rdataPuts_holds
end Go.Proofs.Ytfepkpindchleaa
