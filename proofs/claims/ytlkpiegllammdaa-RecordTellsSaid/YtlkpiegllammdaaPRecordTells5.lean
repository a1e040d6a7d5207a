import Derived.Test.YtlkpiegllammdaaPRecordTells4
import Derived.Test.YtlkpiegllammdaaRows
import Derived.WalkKit
import Derived.ProofKit
import Derived.OpenShut
import Derived.ShutString
import Derived.ChangeOld
import Derived.Below
import Derived.Carry
import Derived.SizedLaws
namespace Go.Proofs.YtlkpiegllammdaaE
open Go Go.Proofs.YtlkpiegllammdaaB
set_option linter.unusedVariables false
set_option linter.unusedSimpArgs false
def fs103w : FSpec := fs103.like fun (s, a, e, m, _) => .on (bigS s && (decide (0 ≤ m) && decide (m ≤ 3))) (nmD s a e m, nmA s a e m, ())
theorem okf103w : fs103w.Ok Try.prog := by
  refine flike_ok okf103 _ ?_
  rintro ⟨(s : List UInt8), (a : Int), (e : Int), (m : Int), _⟩ y h
  obtain ⟨hb, rfl⟩ := Tr.get_on h
  refine convR_of (vs := [.str (nmD s a e m), .int .i64 (nmA s a e m)]) rfl rfl (Tr.get_of_all ?_)
  show (t103 s a e m).all _
  simp only [Bool.and_eq_true, decide_eq_true_eq] at hb
  unfold t103 nmD nmA
  refine Tr.all_t ?_ (Tr.all_br (fun c => Tr.all_ret ?_) fun c => Tr.all_ret ?_)
  · unfold nmsC noT
    rw [hb.1, dec_true hb.2.1, dec_true hb.2.2, dec_true rfl]
    rfl
  · rw [c]; rfl
  · rw [c]; rfl
def t73 (s : List UInt8) (at_ : Int) (many : Int) (k : Int) : Tr Res := Tr.br (bigS s) (Tr.br (someB s at_ many) (Tr.br (k == (2 : Int)) (Tr.br (bigS s && (decide ((0 : Ty.den (Ty.int IntKind.i64)) ≤ (1 : Int)) && decide ((1 : Int) ≤ (3 : Ty.den (Ty.int IntKind.i64))))) (Tr.br (nmA s at_ (at_ + many) (1 : Int) != at_ + many) (Tr.ret ([AV.str [], AV.int IntKind.i64 (2 : Int)], [])) (Tr.br (bigS (nmD s at_ (at_ + many) (1 : Int))) (Tr.br (!mayR k (nmD s at_ (at_ + many) (1 : Int))) (Tr.ret ([AV.str [], AV.int IntKind.i64 (2 : Int)], [])) (Tr.ret ([AV.str (nmD s at_ (at_ + many) (1 : Int)), AV.int IntKind.i64 (0 : Int)], []))) Tr.no)) Tr.no) (Tr.br (k == (5 : Int)) (Tr.br (bigS s && (decide ((0 : Ty.den (Ty.int IntKind.i64)) ≤ (1 : Int)) && decide ((1 : Int) ≤ (3 : Ty.den (Ty.int IntKind.i64))))) (Tr.br (nmA s at_ (at_ + many) (1 : Int) != at_ + many) (Tr.ret ([AV.str [], AV.int IntKind.i64 (2 : Int)], [])) (Tr.br (bigS (nmD s at_ (at_ + many) (1 : Int))) (Tr.br (!mayR k (nmD s at_ (at_ + many) (1 : Int))) (Tr.ret ([AV.str [], AV.int IntKind.i64 (2 : Int)], [])) (Tr.ret ([AV.str (nmD s at_ (at_ + many) (1 : Int)), AV.int IntKind.i64 (0 : Int)], []))) Tr.no)) Tr.no) (Tr.br (k == (12 : Int)) (Tr.br (bigS s && (decide ((0 : Ty.den (Ty.int IntKind.i64)) ≤ (1 : Int)) && decide ((1 : Int) ≤ (3 : Ty.den (Ty.int IntKind.i64))))) (Tr.br (nmA s at_ (at_ + many) (1 : Int) != at_ + many) (Tr.ret ([AV.str [], AV.int IntKind.i64 (2 : Int)], [])) (Tr.br (bigS (nmD s at_ (at_ + many) (1 : Int))) (Tr.br (!mayR k (nmD s at_ (at_ + many) (1 : Int))) (Tr.ret ([AV.str [], AV.int IntKind.i64 (2 : Int)], [])) (Tr.ret ([AV.str (nmD s at_ (at_ + many) (1 : Int)), AV.int IntKind.i64 (0 : Int)], []))) Tr.no)) Tr.no) (Tr.br (k == (15 : Int)) (Tr.br (decide (many < (3 : Int))) (Tr.ret ([AV.str [], AV.int IntKind.i64 (2 : Int)], [])) (Tr.br (bigS s && (decide ((0 : Ty.den (Ty.int IntKind.i64)) ≤ (1 : Int)) && decide ((1 : Int) ≤ (3 : Ty.den (Ty.int IntKind.i64))))) (Tr.br (decide ((0 : Int) ≤ (2 : Int)) && decide ((2 : Int) ≤ (↑(List.length (someV s at_ many)) : Int))) (Tr.br (Nat.ble (List.length (List.take (Int.toNat (2 : Int) - Int.toNat (0 : Int)) (List.drop (Int.toNat (0 : Int)) (someV s at_ many))) + List.length (nmD s (IntKind.wrap IntKind.i64 (at_ + (2 : Int))) (at_ + many) (1 : Int))) 9223372036854775807) (Tr.br (nmA s (IntKind.wrap IntKind.i64 (at_ + (2 : Int))) (at_ + many) (1 : Int) != at_ + many) (Tr.ret ([AV.str [], AV.int IntKind.i64 (2 : Int)], [])) (Tr.br (bigS (List.take (Int.toNat (2 : Int) - Int.toNat (0 : Int)) (List.drop (Int.toNat (0 : Int)) (someV s at_ many)) ++ nmD s (IntKind.wrap IntKind.i64 (at_ + (2 : Int))) (at_ + many) (1 : Int))) (Tr.br (!mayR k (List.take (Int.toNat (2 : Int) - Int.toNat (0 : Int)) (List.drop (Int.toNat (0 : Int)) (someV s at_ many)) ++ nmD s (IntKind.wrap IntKind.i64 (at_ + (2 : Int))) (at_ + many) (1 : Int))) (Tr.ret ([AV.str [], AV.int IntKind.i64 (2 : Int)], [])) (Tr.ret ([AV.str (List.take (Int.toNat (2 : Int) - Int.toNat (0 : Int)) (List.drop (Int.toNat (0 : Int)) (someV s at_ many)) ++ nmD s (IntKind.wrap IntKind.i64 (at_ + (2 : Int))) (at_ + many) (1 : Int)), AV.int IntKind.i64 (0 : Int)], []))) Tr.no)) Tr.no) Tr.no) Tr.no)) (Tr.br (k == (6 : Int)) (Tr.br (bigS s && (decide ((0 : Ty.den (Ty.int IntKind.i64)) ≤ (2 : Int)) && decide ((2 : Int) ≤ (3 : Ty.den (Ty.int IntKind.i64))))) (Tr.br (nmA s at_ (at_ + many) (2 : Int) == (0 : Int)) (Tr.ret ([AV.str [], AV.int IntKind.i64 (2 : Int)], [])) (Tr.br (decide (nmA s at_ (at_ + many) (2 : Int) > at_ + many)) (Tr.ret ([AV.str [], AV.int IntKind.i64 (2 : Int)], [])) (Tr.br (IntKind.wrap IntKind.i64 (at_ + many - nmA s at_ (at_ + many) (2 : Int)) != (20 : Int)) (Tr.ret ([AV.str [], AV.int IntKind.i64 (2 : Int)], [])) (Tr.br (decide ((0 : Int) ≤ at_ + many) && decide (at_ + many ≤ (↑(List.length s) : Int))) (Tr.br (decide ((0 : Int) ≤ nmA s at_ (at_ + many) (2 : Int)) && decide (nmA s at_ (at_ + many) (2 : Int) ≤ at_ + many)) (Tr.br (Nat.ble (List.length (nmD s at_ (at_ + many) (2 : Int)) + List.length (List.take (Int.toNat (at_ + many) - Int.toNat (nmA s at_ (at_ + many) (2 : Int))) (List.drop (Int.toNat (nmA s at_ (at_ + many) (2 : Int))) s))) 9223372036854775807) (Tr.br (at_ + many != at_ + many) (Tr.ret ([AV.str [], AV.int IntKind.i64 (2 : Int)], [])) (Tr.br (bigS (nmD s at_ (at_ + many) (2 : Int) ++ List.take (Int.toNat (at_ + many) - Int.toNat (nmA s at_ (at_ + many) (2 : Int))) (List.drop (Int.toNat (nmA s at_ (at_ + many) (2 : Int))) s))) (Tr.br (!mayR k (nmD s at_ (at_ + many) (2 : Int) ++ List.take (Int.toNat (at_ + many) - Int.toNat (nmA s at_ (at_ + many) (2 : Int))) (List.drop (Int.toNat (nmA s at_ (at_ + many) (2 : Int))) s))) (Tr.ret ([AV.str [], AV.int IntKind.i64 (2 : Int)], [])) (Tr.ret ([AV.str (nmD s at_ (at_ + many) (2 : Int) ++ List.take (Int.toNat (at_ + many) - Int.toNat (nmA s at_ (at_ + many) (2 : Int))) (List.drop (Int.toNat (nmA s at_ (at_ + many) (2 : Int))) s)), AV.int IntKind.i64 (0 : Int)], []))) Tr.no)) Tr.no) Tr.no) Tr.no)))) Tr.no) (Tr.br (at_ + many != at_ + many) (Tr.ret ([AV.str [], AV.int IntKind.i64 (2 : Int)], [])) (Tr.br (bigS (someV s at_ many)) (Tr.br (!mayR k (someV s at_ many)) (Tr.ret ([AV.str [], AV.int IntKind.i64 (2 : Int)], [])) (Tr.ret ([AV.str (someV s at_ many), AV.int IntKind.i64 (0 : Int)], []))) Tr.no))))))) (Tr.ret ([AV.str [], AV.int IntKind.i64 (2 : Int)], []))) Tr.no
def os73 : OSpec := { f := 73, sh := [.d .str false, .d (.int .i64) false, .d (.int .i64) false, .d (.int .u16) false], so := [], F := fun (s, at_, many, k, _) _ => t73 s at_ many k }
set_option maxRecDepth 1000000 in
theorem fn73 (s : List UInt8) (at_ : Int) (many : Int) (k : Int) : evC T0 (orcB [fs102w, fs103w, fs76w] []) (lpOf h73 0 (lsOf [])) c73 1000000 (startSt [.str s, .int .i64 at_, .int .i64 many, .int .u16 k] [] Try.f73.ntmps) (finishK T0 false 0 Try.f73) = (t73 s at_ many k).get := by kernel_rfl
theorem ok73 : os73.Ok Try.prog := by
  refine os_ok mixed0 tab0 (orcB_sound (all_cons okf102w (all_cons okf103w (all_cons okf76w all_nil))) all_nil) h73 (d := 0) (n0 := 0) (S := lsOf []) Try.func73 (by kernel_rfl) (c := c73) (by kernel_rfl) rfl (no_loops (by kernel_rfl)) (by omega) (by kernel_rfl) ?_
  intro x'' y'' q'' hq''
  obtain ⟨(s : List UInt8), (at_ : Int), (many : Int), (k : Int), _⟩ := x''
  exact (fn73 s at_ many k).trans hq''
def fs73 : FSpec := fsT 73 [(.str, false), ((.int .i64), false), ((.int .i64), false), ((.int .u16), false)] [(.str, false), ((.int .i64), false)] fun (s, at_, many, k, _) => t73 s at_ many k
theorem okf73 : fs73.Ok Try.prog := fsT_ok fun x'' r'' hr'' => ok73 x'' () r'' hr''
def fs73w : FSpec := fs73.like fun (s, a, n, k, _) => .on (smS s) ((takeV s a n k).getD [], if (takeV s a n k).isSome then (0 : Int) else 2, ())
theorem take_end {s : List UInt8} {a n k E at' : Int} {d : List UInt8} {ok : Bool} (ht : takeV s a n k = if ok = true ∧ at' = E ∧ mayR k d = true then some d else none) (hb : bigS d = true) (hno : ok = false → at' = E → mayR k d = false) :
    (Tr.br (at' != E) (Tr.ret ([AV.str [], AV.int IntKind.i64 (2 : Int)], [])) (Tr.br (bigS d) (Tr.br (!mayR k d) (Tr.ret ([AV.str [], AV.int IntKind.i64 (2 : Int)], [])) (Tr.ret ([AV.str d, AV.int IntKind.i64 (0 : Int)], []))) Tr.no) : Tr Res).all
      fun x => x = ([.str ((takeV s a n k).getD []), .int .i64 (if (takeV s a n k).isSome then 0 else 2)], []) := by
  rw [ht]
  refine Tr.all_br (fun c => Tr.all_ret ?_) fun c => Tr.all_t hb (Tr.all_br (fun c2 => Tr.all_ret ?_) fun c2 => Tr.all_ret ?_)
  · rw [if_neg (fun h => bne_iff_ne.1 c h.2.1)]
    rfl
  · rw [Bool.not_eq_true'] at c2
    rw [if_neg (fun h => by rw [c2] at h; exact Bool.false_ne_true h.2.2)]
    rfl
  · rw [Bool.not_eq_false'] at c2
    have he : at' = E := by simpa using c
    cases hk : ok with
    | false =>
      rw [hno hk he] at c2
      cases c2
    | true =>
      rw [if_pos ⟨rfl, he, c2⟩]
      rfl
theorem okf73w : fs73w.Ok Try.prog := by
  refine flike_ok okf73 _ ?_
  rintro ⟨(s : List UInt8), (a : Int), (n : Int), (k : Int), _⟩ y h
  obtain ⟨hb, rfl⟩ := Tr.get_on h
  refine convR_of (vs := [.str ((takeV s a n k).getD []), .int .i64 (if (takeV s a n k).isSome then 0 else 2)]) rfl rfl (Tr.get_of_all ?_)
  show (t73 s a n k).all _
  unfold t73
  have hB : s.length ≤ 100000000 := by simpa [smS] using hb
  have hbig : bigS s = true := by simp [bigS]; omega
  refine Tr.all_t hbig ?_
  cases hs : someB s a n with
  | false =>
    have : takeV s a n k = none := by unfold takeV; rw [if_neg (by rw [hs]; exact Bool.false_ne_true)]
    rw [this]
    exact Tr.all_f rfl (Tr.all_ret rfl)
  | true =>
    have hs' := someB_iff.1 hs
    have hT : takeV s a n k = if (takeD (layV k) s a (a + n) []).1 = true ∧ (takeD (layV k) s a (a + n) []).2.1 = a + n ∧ mayR k (takeD (layV k) s a (a + n) []).2.2 = true then some (takeD (layV k) s a (a + n) []).2.2 else none := by unfold takeV; rw [if_pos hs]
    refine Tr.all_t rfl ?_
    have hc1 : (bigS s && (decide ((0 : Int) ≤ 1) && decide ((1 : Int) ≤ 3))) = true := by rw [hbig]; rfl
    have hc2 : (bigS s && (decide ((0 : Int) ≤ 2) && decide ((2 : Int) ≤ 3))) = true := by rw [hbig]; rfl
    have hvl : (someV s a n).length = n.toNat := by unfold someV; rw [List.length_take, List.length_drop]; omega
    have names : (k = 2 ∨ k = 5 ∨ k = 12) → (Tr.br (bigS s && (decide ((0 : Ty.den (Ty.int IntKind.i64)) ≤ (1 : Int)) && decide ((1 : Int) ≤ (3 : Ty.den (Ty.int IntKind.i64))))) (Tr.br (nmA s a (a + n) (1 : Int) != a + n) (Tr.ret ([AV.str [], AV.int IntKind.i64 (2 : Int)], [])) (Tr.br (bigS (nmD s a (a + n) (1 : Int))) (Tr.br (!mayR k (nmD s a (a + n) (1 : Int))) (Tr.ret ([AV.str [], AV.int IntKind.i64 (2 : Int)], [])) (Tr.ret ([AV.str (nmD s a (a + n) (1 : Int)), AV.int IntKind.i64 (0 : Int)], []))) Tr.no)) Tr.no : Tr Res).all
      fun x => x = ([.str ((takeV s a n k).getD []), .int .i64 (if (takeV s a n k).isSome then 0 else 2)], []) := fun hk => by
      have hlay : layV k = [-1] := by rcases hk with rfl | rfl | rfl <;> rfl
      rw [hlay, takeD_name] at hT
      refine Tr.all_t hc1 ?_
      cases hok : (nmsV 1 s a (a + n) []).1 with
      | false =>
        have e1 : nmA s a (a + n) 1 = 0 := by unfold nmA; rw [show (1 : Int).toNat = 1 from rfl, hok]; rfl
        have e2 : nmD s a (a + n) 1 = [] := by unfold nmD; rw [show (1 : Int).toNat = 1 from rfl, hok]; rfl
        rw [e1, e2]
        exact take_end (ok := false) (by rw [hT, hok, if_neg (fun h => Bool.false_ne_true h.1), if_neg (fun h => Bool.false_ne_true h.1)]) rfl fun _ _ => by rw [may_name hk, may_nil]; rfl
      | true =>
        have e1 : nmA s a (a + n) 1 = (nmsV 1 s a (a + n) []).2.1 := by unfold nmA; rw [show (1 : Int).toNat = 1 from rfl, hok]; rfl
        have e2 : nmD s a (a + n) 1 = (nmsV 1 s a (a + n) []).2.2 := by unfold nmD; rw [show (1 : Int).toNat = 1 from rfl, hok]; rfl
        have hp := (nms_place 1 s a (a + n) [] hs'.1 hok).2.2
        rw [e1, e2]
        exact take_end (ok := true) (by rw [hT, hok]) (by simp [bigS] at hp ⊢; omega) fun h => by cases h
    by_cases k2 : k = 2
    · exact Tr.all_t (beq_iff_eq.2 k2) (names (.inl k2))
    refine Tr.all_f (beq_eq_false_iff_ne.2 k2) ?_
    by_cases k5 : k = 5
    · exact Tr.all_t (beq_iff_eq.2 k5) (names (.inr (.inl k5)))
    refine Tr.all_f (beq_eq_false_iff_ne.2 k5) ?_
    by_cases k12 : k = 12
    · exact Tr.all_t (beq_iff_eq.2 k12) (names (.inr (.inr k12)))
    refine Tr.all_f (beq_eq_false_iff_ne.2 k12) ?_
    by_cases k15 : k = 15
    · refine Tr.all_t (beq_iff_eq.2 k15) ?_
      rw [k15, show layV 15 = [2, -1] from rfl] at hT
      have htwo : takeD [2, -1] s a (a + n) [] = if someB s a 2 = true ∧ a + 2 ≤ a + n then takeD [-1] s (a + 2) (a + n) ([] ++ someV s a 2) else (false, a, []) := by
        rw [takeD, if_neg (by omega), show (if (2 : Int) = -2 ∨ (2 : Int) = -3 then a + n - a else 2) = 2 from if_neg (by omega)]
      have hw : IntKind.wrap IntKind.i64 (a + 2) = a + 2 := IntWalk.i64_in _ (by omega)
      rw [hw]
      by_cases h3 : n < 3
      · have hno : takeV s a n 15 = none := by
          rw [hT, htwo]
          by_cases hc : someB s a 2 = true ∧ a + 2 ≤ a + n
          · rw [if_pos hc, takeD_name]
            refine if_neg fun h => ?_
            have := (nms_place 1 s (a + 2) (a + n) ([] ++ someV s a 2) (by omega) h.1).2.1 (by omega)
            omega
          · rw [if_neg hc]
            exact if_neg fun h => Bool.false_ne_true h.1
        rw [k15, hno]
        exact Tr.all_t (dec_true h3) (Tr.all_ret rfl)
      · have hs2 : someB s a 2 = true := someB_iff.2 (by omega)
        have hv2 : List.take (Int.toNat (2 : Int) - Int.toNat (0 : Int)) (List.drop (Int.toNat (0 : Int)) (someV s a n)) = someV s a 2 := by
          show List.take 2 (List.drop 0 (someV s a n)) = someV s a 2
          unfold someV
          rw [List.drop_zero, List.take_take, show min 2 n.toNat = (2 : Int).toNat by omega]
        have hvl2 : (someV s a 2).length = 2 := by unfold someV; rw [List.length_take, List.length_drop]; omega
        rw [if_pos ⟨hs2, by omega⟩, takeD_name, List.nil_append] at htwo
        rw [htwo] at hT
        have hpre := nmsV_pre 1 s (a + 2) (a + n) (someV s a 2) []
        rw [List.append_nil] at hpre
        rw [hpre] at hT
        rw [hv2]
        refine Tr.all_f (dec_false h3) (Tr.all_t hc1 (Tr.all_t (by rw [hvl, dec_true (show (2 : Int) ≤ (n.toNat : Int) by omega)]; rfl) ?_))
        cases hok : (nmsV 1 s (a + 2) (a + n) []).1 with
        | false =>
          have e1 : nmA s (a + 2) (a + n) 1 = 0 := by unfold nmA; rw [show (1 : Int).toNat = 1 from rfl, hok]; rfl
          have e2 : nmD s (a + 2) (a + n) 1 = [] := by unfold nmD; rw [show (1 : Int).toNat = 1 from rfl, hok]; rfl
          rw [e1, e2, List.append_nil]
          refine Tr.all_t (Nat.ble_eq_true_of_le (by rw [hvl2]; simp)) ?_
          rw [k15]
          exact take_end (ok := false) (by rw [hT, hok, if_neg (fun h => Bool.false_ne_true h.1), if_neg (fun h => Bool.false_ne_true h.1)]) (by simp [bigS, hvl2]) fun _ h => by omega
        | true =>
          have e1 : nmA s (a + 2) (a + n) 1 = (nmsV 1 s (a + 2) (a + n) []).2.1 := by unfold nmA; rw [show (1 : Int).toNat = 1 from rfl, hok]; rfl
          have e2 : nmD s (a + 2) (a + n) 1 = (nmsV 1 s (a + 2) (a + n) []).2.2 := by unfold nmD; rw [show (1 : Int).toNat = 1 from rfl, hok]; rfl
          have hp := (nms_place 1 s (a + 2) (a + n) [] (by omega) hok).2.2
          simp only [List.length_nil] at hp
          rw [e1, e2]
          refine Tr.all_t (Nat.ble_eq_true_of_le (by rw [hvl2]; omega)) ?_
          rw [k15]
          exact take_end (ok := true) (by rw [hT, hok]) (by simp [bigS, hvl2]; omega) fun h => by cases h
    refine Tr.all_f (beq_eq_false_iff_ne.2 k15) ?_
    by_cases k6 : k = 6
    · refine Tr.all_t (beq_iff_eq.2 k6) (Tr.all_t hc2 ?_)
      rw [k6, show layV 6 = [-1, -1, 20] from rfl] at hT
      obtain ⟨t1, t2⟩ := takeD_two [20] s a (a + n) []
      cases hok : (nmsV 2 s a (a + n) []).1 with
      | false =>
        have e1 : nmA s a (a + n) 2 = 0 := by unfold nmA; rw [show (2 : Int).toNat = 2 from rfl, hok]; rfl
        have hno : takeV s a n 6 = none := by
          rw [hT]
          exact if_neg fun h => by rw [t2 hok] at h; exact Bool.false_ne_true h.1
        rw [e1, k6, hno]
        exact Tr.all_t rfl (Tr.all_ret rfl)
      | true =>
        have e1 : nmA s a (a + n) 2 = (nmsV 2 s a (a + n) []).2.1 := by unfold nmA; rw [show (2 : Int).toNat = 2 from rfl, hok]; rfl
        have e2 : nmD s a (a + n) 2 = (nmsV 2 s a (a + n) []).2.2 := by unfold nmD; rw [show (2 : Int).toNat = 2 from rfl, hok]; rfl
        obtain ⟨p1, p2, p3⟩ := nms_place 2 s a (a + n) [] hs'.1 hok
        have p2 := p2 (by omega)
        simp only [List.length_nil] at p3
        have hfix := takeD_fix (x := 20) (by omega) s (nmsV 2 s a (a + n) []).2.1 (a + n) (nmsV 2 s a (a + n) []).2.2
        rw [t1 hok] at hT
        rw [e1, e2]
        generalize nmsV 2 s a (a + n) [] = r at hT p1 p2 p3 hfix
        obtain ⟨ok, c, d⟩ := r
        simp only at hT p1 p2 p3 hfix ⊢
        have hw : IntKind.wrap IntKind.i64 (a + n - c) = a + n - c := IntWalk.i64_in _ (by omega)
        rw [hw]
        refine Tr.all_f (beq_eq_false_iff_ne.2 (by omega)) (Tr.all_f (dec_false (by omega)) (Tr.all_br (fun c1 => Tr.all_ret ?_) fun c1 => ?_))
        · have hne := bne_iff_ne.1 c1
          have hno : takeV s a n 6 = none := by
            rw [hT, hfix]
            refine if_neg fun h => ?_
            by_cases hc : someB s c 20 = true ∧ c + 20 ≤ a + n
            · rw [if_pos hc] at h
              have := h.2.1
              simp only at this
              omega
            · rw [if_neg hc] at h
              exact Bool.false_ne_true h.1
          rw [k6, hno]
          rfl
        · have he : a + n - c = 20 := by simpa using c1
          have hs20 : someB s c 20 = true := someB_iff.2 (by omega)
          have hv : List.take (Int.toNat (a + n) - Int.toNat c) (List.drop (Int.toNat c) s) = someV s c 20 := by
            unfold someV
            rw [show Int.toNat (a + n) - Int.toNat c = (20 : Int).toNat by omega]
          have hvl20 : (someV s c 20).length = 20 := by unfold someV; rw [List.length_take, List.length_drop]; omega
          rw [if_pos ⟨hs20, by omega⟩] at hfix
          rw [hfix] at hT
          rw [hv]
          refine Tr.all_t (by rw [dec_true (by omega), dec_true (by omega)]; rfl) (Tr.all_t (by rw [dec_true (by omega), dec_true (by omega)]; rfl) (Tr.all_t (Nat.ble_eq_true_of_le (by omega)) ?_))
          rw [k6]
          refine take_end (ok := true) ?_ (by simp [bigS, hvl20]; omega) fun h => by cases h
          rw [hT]
          simp only [show c + 20 = a + n by omega]
    refine Tr.all_f (beq_eq_false_iff_ne.2 k6) ?_
    have hbv : bigS (someV s a n) = true := by simp [bigS, hvl]; omega
    by_cases kf : k = 1 ∨ k = 28
    · obtain ⟨x, hx0, hx, hm⟩ : ∃ x : Int, 0 ≤ x ∧ layV k = [x] ∧ ∀ d : List UInt8, (d.length : Int) ≠ x → mayR k d = false := by
        rcases kf with rfl | rfl
        · exact ⟨4, by omega, rfl, fun d h => by rw [may_A, dec_false h]; rfl⟩
        · exact ⟨16, by omega, rfl, fun d h => by rw [may_AAAA, dec_false h]; rfl⟩
      have hfix := takeD_fix hx0 s a (a + n) []
      rw [hx] at hT
      by_cases hn : n = x
      · subst hn
        rw [if_pos ⟨hs, by omega⟩, List.nil_append] at hfix
        rw [hfix] at hT
        exact take_end (ok := true) hT hbv fun h => by cases h
      · have hmf := hm (someV s a n) (by rw [hvl]; omega)
        refine take_end (ok := false) ?_ hbv fun _ _ => hmf
        rw [hT, hfix, if_neg (c := false = true ∧ _) (fun h => Bool.false_ne_true h.1)]
        refine if_neg fun h => ?_
        by_cases hc : someB s a x = true ∧ a + x ≤ a + n
        · rw [if_pos hc] at h
          have := h.2.1
          simp only at this
          omega
        · rw [if_neg hc] at h
          exact Bool.false_ne_true h.1
    · have hrest : ∃ x, layV k = [x] ∧ (x = -2 ∨ x = -3) := by
        by_cases k16 : k = 16
        · exact ⟨-2, by rw [k16]; rfl, .inl rfl⟩
        · refine ⟨-3, ?_, .inr rfl⟩
          simp [layV, k2, k5, k12, k15, k6, k16, show ¬ k = 1 by omega, show ¬ k = 28 by omega]
      obtain ⟨x, hx, hx'⟩ := hrest
      rw [hx, takeD_rest hx' s a n hs] at hT
      exact take_end (ok := true) hT hbv fun h => by cases h
end Go.Proofs.YtlkpiegllammdaaE
namespace Go.Proofs.YtlkpiegllammdaaE
open Go Go.Proofs.YtlkpiegllammdaaB
set_option linter.unusedVariables false
set_option linter.unusedSimpArgs false
set_option maxRecDepth 100000
theorem len_big {n : List UInt8} (h : n.length ≤ 1000000000000) : bigS n = true := by simp [bigS]; omega
theorem big_len {n : List UInt8} (h : bigS n = true) : n.length ≤ 1000000000000 := by simpa [bigS] using h
end Go.Proofs.YtlkpiegllammdaaE
namespace Go.Proofs.YtlkpiegllammdaaE
open Go Go.Proofs.YtlkpiegllammdaaB
set_option linter.unusedVariables false
set_option linter.unusedSimpArgs false
set_option maxRecDepth 100000
abbrev RR : Ty := .pair .str (.pair (.int .u16) (.pair (.int .u16) (.pair (.int .u32) .str)))
abbrev RRt := List UInt8 × (Int × (Int × (Int × List UInt8)))
abbrev ZNt := List UInt8 × List RRt
abbrev QQ : Ty := .pair .str (.pair (.int .u16) (.int .u16))
abbrev QQt := List UInt8 × (Int × Int)
instance decRR : DecidableEq RRt := inferInstance
instance decLRR : DecidableEq (List RRt) := inferInstance
instance decZN : DecidableEq ZNt := inferInstanceAs (DecidableEq (List UInt8 × List RRt))
instance decLZN : DecidableEq (List ZNt) := inferInstance
end Go.Proofs.YtlkpiegllammdaaE
namespace Go.Proofs.YtlkpiegllammdaaE
open Go Go.Proofs.YtlkpiegllammdaaB
set_option linter.unusedVariables false
set_option linter.unusedSimpArgs false
set_option maxRecDepth 100000
theorem stepN_eq4 {n : Nat} (hn : n < 16777216) (c : UInt8) : stepN n c = ((n * 256 + c.toNat : Nat) : Int) := by
  have hc := c.toNat_lt
  have e1 : ((n : Int) * (2 : Int) ^ min (Int.toNat (8 : Int)) (IntKind.bits IntKind.u32)) = ((n * 256 : Nat) : Int) := by
    simp [IntKind.bits]
  unfold stepN
  rw [e1, IntWalk.u32_in ((n * 256 : Nat) : Int) (by omega), IntWalk.u32_in ((c.toNat : Nat) : Int) (by omega)]
  have e3 : BitVec.toNat (BitVec.ofInt (IntKind.bits IntKind.u32) ((n * 256 : Nat) : Int) ||| BitVec.ofInt (IntKind.bits IntKind.u32) ((c.toNat : Nat) : Int)) = n * 256 + c.toNat := by
    show BitVec.toNat (BitVec.ofInt 32 ((n * 256 : Nat) : Int) ||| BitVec.ofInt 32 ((c.toNat : Nat) : Int)) = _
    rw [BitVec.ofInt_natCast, BitVec.ofInt_natCast, BitVec.toNat_or, BitVec.toNat_ofNat, BitVec.toNat_ofNat, Nat.mod_eq_of_lt (by omega), Nat.mod_eq_of_lt (by omega)]
    have := Nat.shiftLeft_add_eq_or_of_lt (a := n) (b := c.toNat) (i := 8) (by omega)
    rw [Nat.shiftLeft_eq] at this
    exact this.symm
  rw [e3, IntWalk.u32_in _ (by omega)]
def numN (b : List UInt8) : Nat := b.foldl (fun n c => n * 256 + c.toNat) 0
theorem numN_snoc (b : List UInt8) (c : UInt8) : numN (b ++ [c]) = numN b * 256 + c.toNat := by unfold numN; rw [List.foldl_append]; rfl
theorem numN_lt : ∀ (b : List UInt8), numN b < 256 ^ b.length := by
  intro b
  have h : ∀ m (b : List UInt8), b.length = m → numN b < 256 ^ m := by
    intro m
    induction m with
    | zero => intro b hb; rw [List.length_eq_zero_iff.1 hb]; simp [numN]
    | succ m ih =>
      intro b hb
      have hne : b ≠ [] := fun e => by rw [e] at hb; simp at hb
      rw [← List.dropLast_concat_getLast hne, numN_snoc]
      have h1 := ih b.dropLast (by rw [List.length_dropLast]; omega)
      have h2 := (b.getLast hne).toNat_lt
      rw [Nat.pow_succ]
      omega
  exact h _ b rfl
def nbC4 (b : List UInt8) (n len i : Int) : Bool := decide (n = 0) && (decide (i = 0) && (decide (len = b.length) && decide (b.length ≤ 4)))
theorem nb_step4 {b : List UInt8} {i : Nat} (hi : i < b.length) (h4 : b.length ≤ 4) : stepN (numB (b.take i)) (b.getD i 0) = numB (b.take (i + 1)) := by
  have hl := numN_lt (b.take i)
  rw [List.length_take, Nat.min_eq_left (by omega)] at hl
  have hp : 256 ^ i ≤ 256 ^ 3 := Nat.pow_le_pow_right (by omega) (by omega)
  have e : numB (b.take i) = ((numN (b.take i) : Nat) : Int) := rfl
  have e2 : numB (b.take (i + 1)) = ((numN (b.take (i + 1)) : Nat) : Int) := rfl
  rw [e, e2, stepN_eq4 (by omega), List.take_succ_eq_append_getElem hi, numN_snoc, List.getD_eq_getElem?_getD, List.getElem?_eq_getElem hi]
  rfl
noncomputable def b91 : Code := nthLoop c91 0
def ls91 : LoopSpec := { bid := 0, sh := [.d .str false, .d (.int .i64) false, .d (.int .i64) false, .d (.int .u32) false, .d (.int .i64) false, .d (.int .i64) false], so := [], F := fun (b, nx, e, n, len, i, _) _ => .on (nbC4 b n len i) (.exit 0, [.int .i64 nx, .int .i64 e, .int .u32 (numB b)], []) }
def r91 (b : List UInt8) (nx : Int) (e : Int) (n : Int) (len : Int) (i : Int) : Tr (St ⊕ (Ex × St)) := Tr.br (decide (i < len)) (Tr.br (decide ((0 : Int) ≤ i)) (Tr.br (decide (i < (↑(List.length b) : Int))) (Tr.ret (Sum.inl (stOf [9, 10, 11, 12, 23, 24] [AV.str b, AV.int IntKind.i64 nx, AV.int IntKind.i64 e, AV.int IntKind.u32 (IntKind.wrap IntKind.u32 (↑(BitVec.toNat (BitVec.ofInt (IntKind.bits IntKind.u32) (IntKind.wrap IntKind.u32 (n * (2 : Int) ^ min (Int.toNat (8 : Int)) (IntKind.bits IntKind.u32))) ||| BitVec.ofInt (IntKind.bits IntKind.u32) (IntKind.wrap IntKind.u32 (↑(UInt8.toNat (List.getD b (Int.toNat i) 0)) : Int)))) : Int)), AV.int IntKind.i64 len, AV.int IntKind.i64 (IntKind.wrap IntKind.i64 (i + (1 : Int)))] []))) Tr.no) Tr.no) (Tr.ret (Sum.inr (Ex.exit 0, stOf [10, 11, 12] [AV.int IntKind.i64 nx, AV.int IntKind.i64 e, AV.int IntKind.u32 n] [])))
set_option maxRecDepth 1000000 in
theorem round91 (orc : Orc) (lp : Lp) (b : List UInt8) (nx : Int) (e : Int) (n : Int) (len : Int) (i : Int) : evC T0 orc lp b91 0 (stOf [9, 10, 11, 12, 23, 24] [.str b, .int .i64 nx, .int .i64 e, .int .u32 n, .int .i64 len, .int .i64 i] []) (roundK [9, 10, 11, 12, 23, 24] [10, 11, 12] 0) = (r91 b nx e n len i).get := by kernel_rfl
theorem wf91 (orc : Orc) (b : List UInt8) (nx : Int) (e : Int) (len : Int) (I'' : Int → Int → Prop) (m'' : Int → Int → Nat) (r'' : Ex × St) (h : ∀ (n : Int) (i : Int), I'' n i → (r91 b nx e n len i).all fun x'' => x'' = .inr r'' ∨ ∃ (n' : Int) (i' : Int), x'' = .inl (stOf [9, 10, 11, 12, 23, 24] [.str b, .int .i64 nx, .int .i64 e, .int .u32 n', .int .i64 len, .int .i64 i'] []) ∧ I'' n' i' ∧ m'' n' i' < m'' n i) (lp : Lp) (n : Int) (i : Int) : I'' n i →
    loopF (fun st => evC T0 orc lp b91 0 st (roundK [9, 10, 11, 12, 23, 24] [10, 11, 12] 0)) (stOf [9, 10, 11, 12, 23, 24] [.str b, .int .i64 nx, .int .i64 e, .int .u32 n, .int .i64 len, .int .i64 i] []) = some r'' :=
  loop_tr (fun a'' : Int × Int => stOf [9, 10, 11, 12, 23, 24] [.str b, .int .i64 nx, .int .i64 e, .int .u32 a''.1, .int .i64 len, .int .i64 a''.2] []) (fun a'' => I'' a''.1 a''.2) (fun a'' => m'' a''.1 a''.2) r'' (fun a'' => r91 b nx e a''.1 len a''.2)
    (fun a'' x hx => (round91 orc lp b nx e a''.1 len a''.2).trans hx) (fun a'' ha => Tr.all_mono (fun x'' hx => hx.imp id fun ⟨n', i', h1, h2, h3⟩ => ⟨(n', i'), h1, h2, h3⟩) (h (a''.1) (a''.2) ha)) (n, i)
theorem loop91 (orc : Orc) : ls91.Ok T0 orc h91 0 0 b91 := by
  intro q'' hq'' x'' y'' r'' h
  obtain ⟨(b : List UInt8), (nx : Int), (e : Int), (n : Int), (len : Int), (i : Int), _⟩ := x''
  obtain ⟨hc, rfl⟩ := Tr.get_on h
  show loopF (fun st => evC T0 orc (lpN T0 orc h91 0 q'') b91 0 st (roundK [9, 10, 11, 12, 23, 24] [10, 11, 12] 0)) (stOf [9, 10, 11, 12, 23, 24] [.str b, .int .i64 nx, .int .i64 e, .int .u32 n, .int .i64 len, .int .i64 i] []) = some (.exit 0, stOf [10, 11, 12] ([.int .i64 nx, .int .i64 e, .int .u32 (numB b)]) ([]))
  simp only [nbC4, Bool.and_eq_true, decide_eq_true_eq] at hc
  obtain ⟨rfl, rfl, rfl, h2⟩ := hc
  refine wf91 _ b nx e b.length (nbI b) (fun _ i => (b.length - i).toNat) _ ?_ _ 0 0 ⟨by omega, by omega, by simp [numB]⟩
  rintro n i ⟨h0, h1, rfl⟩
  unfold r91
  by_cases hlt : i < b.length
  · refine Tr.all_t (dec_true hlt) (Tr.all_t (dec_true h0) (Tr.all_t (dec_true hlt) (Tr.all_ret (.inr ⟨_, _, rfl, ?_, ?_⟩))))
    · rw [IntWalk.i64_in _ (by omega)]
      exact ⟨by omega, by omega, by rw [show (i + 1).toNat = i.toNat + 1 by omega]; exact nb_step4 (by omega) h2⟩
    · rw [IntWalk.i64_in _ (by omega)]
      omega
  · refine Tr.all_f (dec_false hlt) (Tr.all_ret (.inl ?_))
    rw [List.take_of_length_le (by omega)]
def t91 (s : List UInt8) (at_ : Int) (many : Int) : Tr Res := Tr.br (bigS s) (Tr.br (someB s at_ many) (Tr.br (nbC4 (someV s at_ many) (0 : Int) (↑(List.length (someV s at_ many)) : Int) (0 : Int)) (Tr.ret ([AV.int IntKind.u32 (numB (someV s at_ many)), AV.int IntKind.i64 (at_ + many), AV.int IntKind.i64 (0 : Int)], [])) Tr.no) (Tr.ret ([AV.int IntKind.u32 (numB []), AV.int IntKind.i64 (0 : Int), AV.int IntKind.i64 (2 : Int)], []))) Tr.no
def os91 : OSpec := { f := 91, sh := [.d .str false, .d (.int .i64) false, .d (.int .i64) false], so := [], F := fun (s, at_, many, _) _ => t91 s at_ many }
set_option maxRecDepth 1000000 in
theorem fn91 (s : List UInt8) (at_ : Int) (many : Int) : evC T0 (orcB [fs93w] []) (lpOf h91 0 (lsOf [ls91])) c91 1000000 (startSt [.str s, .int .i64 at_, .int .i64 many] [] Try.f91.ntmps) (finishK T0 false 0 Try.f91) = (t91 s at_ many).get := by kernel_rfl
theorem ok91 : os91.Ok Try.prog := by
  refine os_ok mixed0 tab0 (orcB_sound (all_cons okf93w all_nil) all_nil) h91 (d := 0) (n0 := 0) (S := lsOf [ls91]) Try.func91 (by kernel_rfl) (c := c91) (by kernel_rfl) rfl (loops_eq (xs := [(0, b91)]) (by kernel_rfl) (all_cons (ls_here (loop91 _)) all_nil)) (by omega) (by kernel_rfl) ?_
  intro x'' y'' q'' hq''
  obtain ⟨(s : List UInt8), (at_ : Int), (many : Int), _⟩ := x''
  exact (fn91 s at_ many).trans hq''
def fs91 : FSpec := fsT 91 [(.str, false), ((.int .i64), false), ((.int .i64), false)] [((.int .u32), false), ((.int .i64), false), ((.int .i64), false)] fun (s, at_, many, _) => t91 s at_ many
theorem okf91 : fs91.Ok Try.prog := fsT_ok fun x'' r'' hr'' => ok91 x'' () r'' hr''
def t53 (s : List UInt8) (at_ : Int) : Tr Res := Tr.br (bigS s) (Tr.br (someB s at_ (4 : Int)) (Tr.br (nbC4 (someV s at_ (4 : Int)) (0 : Int) (↑(List.length (someV s at_ (4 : Int))) : Int) (0 : Int)) (Tr.ret ([AV.int IntKind.u32 (numB (someV s at_ (4 : Int))), AV.int IntKind.i64 (at_ + (4 : Int)), AV.int IntKind.i64 (0 : Int)], [])) Tr.no) (Tr.ret ([AV.int IntKind.u32 (numB []), AV.int IntKind.i64 (0 : Int), AV.int IntKind.i64 (2 : Int)], []))) Tr.no
def os53 : OSpec := { f := 53, sh := [.d .str false, .d (.int .i64) false], so := [], F := fun (s, at_, _) _ => t53 s at_ }
set_option maxRecDepth 1000000 in
theorem fn53 (s : List UInt8) (at_ : Int) : evC T0 (orcB [fs91] []) (lpOf h53 0 (lsOf [])) c53 1000000 (startSt [.str s, .int .i64 at_] [] Try.f53.ntmps) (finishK T0 false 0 Try.f53) = (t53 s at_).get := by kernel_rfl
theorem ok53 : os53.Ok Try.prog := by
  refine os_ok mixed0 tab0 (orcB_sound (all_cons okf91 all_nil) all_nil) h53 (d := 0) (n0 := 0) (S := lsOf []) Try.func53 (by kernel_rfl) (c := c53) (by kernel_rfl) rfl (no_loops (by kernel_rfl)) (by omega) (by kernel_rfl) ?_
  intro x'' y'' q'' hq''
  obtain ⟨(s : List UInt8), (at_ : Int), _⟩ := x''
  exact (fn53 s at_).trans hq''
def fs53 : FSpec := fsT 53 [(.str, false), ((.int .i64), false)] [((.int .u32), false), ((.int .i64), false), ((.int .i64), false)] fun (s, at_, _) => t53 s at_
theorem okf53 : fs53.Ok Try.prog := fsT_ok fun x'' r'' hr'' => ok53 x'' () r'' hr''
def n32 (s : List UInt8) (at_ : Int) : Int := n16 s at_ * 65536 + n16 s (at_ + 2)
theorem some4 {s : List UInt8} {at_ : Int} (h : someB s at_ 4 = true) : someV s at_ 4 = [s.getD at_.toNat 0, s.getD (at_.toNat + 1) 0, s.getD (at_.toNat + 2) 0, s.getD (at_.toNat + 3) 0] := by
  simp only [someB, Bool.and_eq_true, decide_eq_true_eq] at h
  unfold someV
  rw [drop_get s at_.toNat 0 (by omega), drop_get s (at_.toNat + 1) 0 (by omega), drop_get s (at_.toNat + 2) 0 (by omega), drop_get s (at_.toNat + 3) 0 (by omega)]
  rfl
theorem n16_le (s : List UInt8) (a : Int) : 0 ≤ n16 s a ∧ n16 s a ≤ 65535 := by
  have h1 := byte_in (s.getD a.toNat 0)
  have h2 := byte_in (s.getD (a.toNat + 1) 0)
  unfold n16
  omega
def fs53w : FSpec := fs53.like fun (s, at_, _) => .br (bigS s) (.br (someB s at_ 4) (.ret (n32 s at_, at_ + 4, (0 : Int), ())) (.ret ((0 : Int), (0 : Int), (2 : Int), ()))) .no
theorem okf53w : fs53w.Ok Try.prog := by
  refine flike_ok okf53 _ ?_
  rintro ⟨(s : List UInt8), (at_ : Int), _⟩ y h
  simp only [Tr.get] at h
  cases hb : bigS s with
  | false => rw [hb] at h; cases h
  | true =>
    rw [hb, cond_true] at h
    cases hs : someB s at_ 4 with
    | true =>
      rw [hs, cond_true] at h
      cases h
      have hi : at_ + 4 ≤ s.length ∧ 0 ≤ at_ := by simp only [someB, Bool.and_eq_true, decide_eq_true_eq] at hs; omega
      have hc := n16_le s at_
      have hd := n16_le s (at_ + 2)
      refine convR_of (vs := [.int .u32 (n32 s at_), .int .i64 (at_ + 4), .int .i64 0]) rfl rfl (Tr.get_of_all ?_)
      show (t53 s at_).all _
      unfold t53
      refine Tr.all_t hb (Tr.all_t hs ?_)
      have hn : numB (someV s at_ 4) = n32 s at_ := by
        rw [some4 hs]
        unfold n32 n16
        rw [show (at_ + 2).toNat = at_.toNat + 2 by omega, show at_.toNat + 2 + 1 = at_.toNat + 3 from rfl]
        simp only [numB, List.foldl_cons, List.foldl_nil]
        omega
      have hl : (someV s at_ 4).length = 4 := by rw [some4 hs]; rfl
      refine Tr.all_t (by unfold nbC4; rw [hl]; simp) (Tr.all_ret ?_)
      rw [hn]
    | false =>
      rw [hs, cond_false] at h
      cases h
      refine convR_of (vs := [.int .u32 0, .int .i64 0, .int .i64 2]) rfl rfl (Tr.get_of_all ?_)
      show (t53 s at_).all _
      exact Tr.all_t hb (Tr.all_f hs (Tr.all_ret rfl))
end Go.Proofs.YtlkpiegllammdaaE
namespace Go.Proofs.YtlkpiegllammdaaE
open Go Go.Proofs.YtlkpiegllammdaaB
set_option linter.unusedVariables false
set_option linter.unusedSimpArgs false
set_option maxRecDepth 100000
def t17 (r : RRt) : Tr Res := Tr.br (bigS r.1) (Tr.br (mayV r.1) (Tr.br (bigS r.2.2.2.2) (Tr.ret ([AV.bool (mayR r.2.1 r.2.2.2.2)], [])) Tr.no) (Tr.ret ([AV.bool false], []))) Tr.no
def os17 : OSpec := { f := 17, sh := [.d RR true], so := [], F := fun (r, _) _ => t17 r }
set_option maxRecDepth 1000000 in
theorem fn17 (r : RRt) : evC T0 (orcB [fs57w, fs58w] []) (lpOf h17 0 (lsOf [])) c17 1000000 (startSt [AV.ofTy RR r true] [] Try.f17.ntmps) (finishK T0 false 0 Try.f17) = (t17 r).get := by kernel_rfl
theorem ok17 : os17.Ok Try.prog := by
  refine os_ok mixed0 tab0 (orcB_sound (all_cons okf57w (all_cons okf58w all_nil)) all_nil) h17 (d := 0) (n0 := 0) (S := lsOf []) Try.func17 (by kernel_rfl) (c := c17) (by kernel_rfl) rfl (no_loops (by kernel_rfl)) (by omega) (by kernel_rfl) ?_
  intro x'' y'' q'' hq''
  obtain ⟨(r : RRt), _⟩ := x''
  exact (fn17 r).trans hq''
def fs17 : FSpec := fsT 17 [(RR, true)] [(.bool, false)] fun (r, _) => t17 r
theorem okf17 : fs17.Ok Try.prog := fsT_ok fun x'' r'' hr'' => ok17 x'' () r'' hr''
def t31 (q : QQt) : Tr Res := Tr.br (bigS q.1) (Tr.ret ([AV.bool (mayV q.1)], [])) Tr.no
def os31 : OSpec := { f := 31, sh := [.d QQ true], so := [], F := fun (q, _) _ => t31 q }
set_option maxRecDepth 1000000 in
theorem fn31 (q : QQt) : evC T0 (orcB [fs57w, fs58w] []) (lpOf h31 0 (lsOf [])) c31 1000000 (startSt [AV.ofTy QQ q true] [] Try.f31.ntmps) (finishK T0 false 0 Try.f31) = (t31 q).get := by kernel_rfl
theorem ok31 : os31.Ok Try.prog := by
  refine os_ok mixed0 tab0 (orcB_sound (all_cons okf57w (all_cons okf58w all_nil)) all_nil) h31 (d := 0) (n0 := 0) (S := lsOf []) Try.func31 (by kernel_rfl) (c := c31) (by kernel_rfl) rfl (no_loops (by kernel_rfl)) (by omega) (by kernel_rfl) ?_
  intro x'' y'' q'' hq''
  obtain ⟨(q : QQt), _⟩ := x''
  exact (fn31 q).trans hq''
def fs31 : FSpec := fsT 31 [(QQ, true)] [(.bool, false)] fun (q, _) => t31 q
theorem okf31 : fs31.Ok Try.prog := fsT_ok fun x'' r'' hr'' => ok31 x'' () r'' hr''
def t20 (r : RRt) : Tr Res := Tr.ret ([AV.agg [AV.str r.1, AV.int IntKind.u16 r.2.1, AV.int IntKind.u16 r.2.2.1]], [])
def os20 : OSpec := { f := 20, sh := [.d RR true], so := [], F := fun (r, _) _ => t20 r }
set_option maxRecDepth 1000000 in
theorem fn20 (r : RRt) : evC T0 (orcB [fs57w, fs58w] []) (lpOf h20 0 (lsOf [])) c20 1000000 (startSt [AV.ofTy RR r true] [] Try.f20.ntmps) (finishK T0 false 0 Try.f20) = (t20 r).get := by kernel_rfl
theorem ok20 : os20.Ok Try.prog := by
  refine os_ok mixed0 tab0 (orcB_sound (all_cons okf57w (all_cons okf58w all_nil)) all_nil) h20 (d := 0) (n0 := 0) (S := lsOf []) Try.func20 (by kernel_rfl) (c := c20) (by kernel_rfl) rfl (no_loops (by kernel_rfl)) (by omega) (by kernel_rfl) ?_
  intro x'' y'' q'' hq''
  obtain ⟨(r : RRt), _⟩ := x''
  exact (fn20 r).trans hq''
def fs20 : FSpec := fsT 20 [(RR, true)] [(QQ, true)] fun (r, _) => t20 r
theorem okf20 : fs20.Ok Try.prog := fsT_ok fun x'' r'' hr'' => ok20 x'' () r'' hr''
def t19 (a : RRt) (b : RRt) : Tr Res := Tr.ret ([AV.bool (a.1 == b.1 && (a.2.1 == b.2.1 && (a.2.2.1 == b.2.2.1 && (b.2.2.2.1 == b.2.2.2.1 && (a.2.2.2.2 == b.2.2.2.2 && true)))))], [])
def os19 : OSpec := { f := 19, sh := [.d RR true, .d RR true], so := [], F := fun (a, b, _) _ => t19 a b }
set_option maxRecDepth 1000000 in
theorem fn19 (a : RRt) (b : RRt) : evC T0 (orcB [fs57w, fs58w] []) (lpOf h19 0 (lsOf [])) c19 1000000 (startSt [AV.ofTy RR a true, AV.ofTy RR b true] [] Try.f19.ntmps) (finishK T0 false 0 Try.f19) = (t19 a b).get := by kernel_rfl
theorem ok19 : os19.Ok Try.prog := by
  refine os_ok mixed0 tab0 (orcB_sound (all_cons okf57w (all_cons okf58w all_nil)) all_nil) h19 (d := 0) (n0 := 0) (S := lsOf []) Try.func19 (by kernel_rfl) (c := c19) (by kernel_rfl) rfl (no_loops (by kernel_rfl)) (by omega) (by kernel_rfl) ?_
  intro x'' y'' q'' hq''
  obtain ⟨(a : RRt), (b : RRt), _⟩ := x''
  exact (fn19 a b).trans hq''
def fs19 : FSpec := fsT 19 [(RR, true), (RR, true)] [(.bool, false)] fun (a, b, _) => t19 a b
theorem okf19 : fs19.Ok Try.prog := fsT_ok fun x'' r'' hr'' => ok19 x'' () r'' hr''
def recV (r : RRt) : Bool := mayV r.1 && mayR r.2.1 r.2.2.2.2
def keyV (r : RRt) : QQt := (r.1, r.2.1, r.2.2.1)
def sayV (a b : RRt) : Bool := a.1 == b.1 && (a.2.1 == b.2.1 && (a.2.2.1 == b.2.2.1 && a.2.2.2.2 == b.2.2.2.2))
def rrBig (r : RRt) : Bool := bigS r.1 && bigS r.2.2.2.2
def fs17w : FSpec := fs17.like fun (r, _) => .on (rrBig r) (recV r, ())
theorem okf17w : fs17w.Ok Try.prog := by
  refine flike_ok okf17 _ ?_
  rintro ⟨(r : RRt), _⟩ y h
  obtain ⟨hb, rfl⟩ := Tr.get_on h
  obtain ⟨h1, h2⟩ := Bool.and_eq_true_iff.1 (show (bigS r.1 && bigS r.2.2.2.2) = true from hb)
  refine convR_of (vs := [.bool (recV r)]) rfl rfl (Tr.get_of_all ?_)
  show (t17 r).all _
  unfold t17 recV
  refine Tr.all_t h1 (Tr.all_br (fun c => Tr.all_t h2 (Tr.all_ret (by rw [c]; rfl))) fun c => Tr.all_ret (by rw [c]; rfl))
def fs31w : FSpec := fs31.like fun (q, _) => .on (bigS q.1) (mayV q.1, ())
theorem okf31w : fs31w.Ok Try.prog := by
  refine flike_ok okf31 _ ?_
  rintro ⟨(q : QQt), _⟩ y h
  obtain ⟨hb, rfl⟩ := Tr.get_on h
  refine convR_of (vs := [.bool (mayV q.1)]) rfl rfl (Tr.get_of_all ?_)
  exact Tr.all_t hb (Tr.all_ret rfl)
def fs20w : FSpec := fs20.like fun (r, _) => .ret (keyV r, ())
theorem okf20w : fs20w.Ok Try.prog := by
  refine flike_ok okf20 _ ?_
  rintro ⟨(r : RRt), _⟩ y h
  cases h
  exact convR_of (vs := [.agg [.str r.1, .int .u16 r.2.1, .int .u16 r.2.2.1]]) rfl rfl (Tr.get_of_all (Tr.all_ret rfl))
def fs19w : FSpec := fs19.like fun (a, b, _) => .ret (sayV a b, ())
theorem okf19w : fs19w.Ok Try.prog := by
  refine flike_ok okf19 _ ?_
  rintro ⟨(a : RRt), (b : RRt), _⟩ y h
  cases h
  refine convR_of (vs := [.bool (sayV a b)]) rfl rfl (Tr.get_of_all ?_)
  refine Tr.all_ret ?_
  unfold sayV
  rw [beq_self_eq_true, Bool.true_and, Bool.and_true]
def t30 (r : RRt) : Tr Res := Tr.br (bigS r.1) (Tr.br (mayV r.1) (Tr.br (bigS r.2.2.2.2) (Tr.ret ([AV.bool (mayR r.2.1 r.2.2.2.2)], [])) Tr.no) (Tr.ret ([AV.bool false], []))) Tr.no
def os30 : OSpec := { f := 30, sh := [.d RR true], so := [], F := fun (r, _) _ => t30 r }
set_option maxRecDepth 1000000 in
theorem fn30 (r : RRt) : evC T0 (orcB [fs75v, fs76w] []) (lpOf h30 0 (lsOf [])) c30 1000000 (startSt [AV.ofTy RR r true] [] Try.f30.ntmps) (finishK T0 false 0 Try.f30) = (t30 r).get := by kernel_rfl
theorem ok30 : os30.Ok Try.prog := by
  refine os_ok mixed0 tab0 (orcB_sound (all_cons okf75v (all_cons okf76w all_nil)) all_nil) h30 (d := 0) (n0 := 0) (S := lsOf []) Try.func30 (by kernel_rfl) (c := c30) (by kernel_rfl) rfl (no_loops (by kernel_rfl)) (by omega) (by kernel_rfl) ?_
  intro x'' y'' q'' hq''
  obtain ⟨(r : RRt), _⟩ := x''
  exact (fn30 r).trans hq''
def fs30 : FSpec := fsT 30 [(RR, true)] [(.bool, false)] fun (r, _) => t30 r
theorem okf30 : fs30.Ok Try.prog := fsT_ok fun x'' r'' hr'' => ok30 x'' () r'' hr''
def t32 (q : QQt) : Tr Res := Tr.br (bigS q.1) (Tr.ret ([AV.bool (mayV q.1)], [])) Tr.no
def os32 : OSpec := { f := 32, sh := [.d QQ true], so := [], F := fun (q, _) _ => t32 q }
set_option maxRecDepth 1000000 in
theorem fn32 (q : QQt) : evC T0 (orcB [fs75v, fs76w] []) (lpOf h32 0 (lsOf [])) c32 1000000 (startSt [AV.ofTy QQ q true] [] Try.f32.ntmps) (finishK T0 false 0 Try.f32) = (t32 q).get := by kernel_rfl
theorem ok32 : os32.Ok Try.prog := by
  refine os_ok mixed0 tab0 (orcB_sound (all_cons okf75v (all_cons okf76w all_nil)) all_nil) h32 (d := 0) (n0 := 0) (S := lsOf []) Try.func32 (by kernel_rfl) (c := c32) (by kernel_rfl) rfl (no_loops (by kernel_rfl)) (by omega) (by kernel_rfl) ?_
  intro x'' y'' q'' hq''
  obtain ⟨(q : QQt), _⟩ := x''
  exact (fn32 q).trans hq''
def fs32 : FSpec := fsT 32 [(QQ, true)] [(.bool, false)] fun (q, _) => t32 q
theorem okf32 : fs32.Ok Try.prog := fsT_ok fun x'' r'' hr'' => ok32 x'' () r'' hr''
def t33 (a : RRt) (b : RRt) : Tr Res := Tr.br (a.1 == b.1) (Tr.br (a.2.1 == b.2.1) (Tr.br (a.2.2.1 == b.2.2.1) (Tr.ret ([AV.bool (a.2.2.2.2 == b.2.2.2.2)], [])) (Tr.ret ([AV.bool false], []))) (Tr.ret ([AV.bool false], []))) (Tr.ret ([AV.bool false], []))
def os33 : OSpec := { f := 33, sh := [.d RR true, .d RR true], so := [], F := fun (a, b, _) _ => t33 a b }
set_option maxRecDepth 1000000 in
theorem fn33 (a : RRt) (b : RRt) : evC T0 (orcB [fs75v, fs76w] []) (lpOf h33 0 (lsOf [])) c33 1000000 (startSt [AV.ofTy RR a true, AV.ofTy RR b true] [] Try.f33.ntmps) (finishK T0 false 0 Try.f33) = (t33 a b).get := by kernel_rfl
theorem ok33 : os33.Ok Try.prog := by
  refine os_ok mixed0 tab0 (orcB_sound (all_cons okf75v (all_cons okf76w all_nil)) all_nil) h33 (d := 0) (n0 := 0) (S := lsOf []) Try.func33 (by kernel_rfl) (c := c33) (by kernel_rfl) rfl (no_loops (by kernel_rfl)) (by omega) (by kernel_rfl) ?_
  intro x'' y'' q'' hq''
  obtain ⟨(a : RRt), (b : RRt), _⟩ := x''
  exact (fn33 a b).trans hq''
def fs33 : FSpec := fsT 33 [(RR, true), (RR, true)] [(.bool, false)] fun (a, b, _) => t33 a b
theorem okf33 : fs33.Ok Try.prog := fsT_ok fun x'' r'' hr'' => ok33 x'' () r'' hr''
def fs30w : FSpec := fs30.like fun (r, _) => .on (rrBig r) (recV r, ())
theorem okf30w : fs30w.Ok Try.prog := by
  refine flike_ok okf30 _ ?_
  rintro ⟨(r : RRt), _⟩ y h
  obtain ⟨hb, rfl⟩ := Tr.get_on h
  obtain ⟨h1, h2⟩ := Bool.and_eq_true_iff.1 (show (bigS r.1 && bigS r.2.2.2.2) = true from hb)
  refine convR_of (vs := [.bool (recV r)]) rfl rfl (Tr.get_of_all ?_)
  show (t30 r).all _
  unfold t30 recV
  refine Tr.all_t h1 (Tr.all_br (fun c => Tr.all_t h2 (Tr.all_ret (by rw [c]; rfl))) fun c => Tr.all_ret (by rw [c]; rfl))
def fs32w : FSpec := fs32.like fun (q, _) => .on (bigS q.1) (mayV q.1, ())
theorem okf32w : fs32w.Ok Try.prog := by
  refine flike_ok okf32 _ ?_
  rintro ⟨(q : QQt), _⟩ y h
  obtain ⟨hb, rfl⟩ := Tr.get_on h
  refine convR_of (vs := [.bool (mayV q.1)]) rfl rfl (Tr.get_of_all ?_)
  exact Tr.all_t hb (Tr.all_ret rfl)
def fs33w : FSpec := fs33.like fun (a, b, _) => .ret (sayV a b, ())
theorem okf33w : fs33w.Ok Try.prog := by
  refine flike_ok okf33 _ ?_
  rintro ⟨(a : RRt), (b : RRt), _⟩ y h
  cases h
  refine convR_of (vs := [.bool (sayV a b)]) rfl rfl (Tr.get_of_all ?_)
  show (t33 a b).all _
  unfold t33 sayV
  cases h1 : a.1 == b.1 <;> cases h2 : a.2.1 == b.2.1 <;> cases h3 : a.2.2.1 == b.2.2.1 <;> simp [h1, h2, h3, Tr.all]
end Go.Proofs.YtlkpiegllammdaaE
namespace Go.Proofs.YtlkpiegllammdaaE
open Go Go.Proofs.YtlkpiegllammdaaB
set_option linter.unusedVariables false
set_option linter.unusedSimpArgs false
theorem putS_len : ∀ (ps : List Int) (ls : List (List UInt8)) (p : PKt), kOk p.2 = true → kOk (putS ps ls p).2 = true ∧ (putS ps ls p).1.length ≤ p.1.length + ls.flatten.length
  | [], _, p, h => ⟨h, by simp [putS]⟩
  | x :: ps, ls, p, h => by
    rw [putS]
    have hl : ls.flatten.length = (ls.headD []).length + ls.tail.flatten.length := by cases ls <;> simp
    cases hx : x == -1 with
    | true =>
      obtain ⟨k1, k2⟩ := stN_k (p := p) (x := (ls.headD [], false)) h
      obtain ⟨q1, q2⟩ := putS_len ps ls.tail (stN p (ls.headD [], false)) k1
      refine ⟨q1, ?_⟩
      rw [cond_true, hl]
      have k2 : (stN p (ls.headD [], false)).1.length ≤ p.1.length + (ls.headD []).length := k2
      omega
    | false =>
      obtain ⟨q1, q2⟩ := putS_len ps ls.tail (p.1 ++ ls.headD [], p.2) h
      refine ⟨q1, ?_⟩
      rw [cond_false, hl]
      have q2 : (putS ps ls.tail (p.1 ++ ls.headD [], p.2)).1.length ≤ (p.1 ++ ls.headD []).length + ls.tail.flatten.length := q2
      rw [List.length_append] at q2
      omega
end Go.Proofs.YtlkpiegllammdaaE
namespace Go.Proofs.YtlkpiegllammdaaE
open Go Go.Proofs.YtlkpiegllammdaaB
set_option linter.unusedVariables false
set_option linter.unusedSimpArgs false
set_option maxRecDepth 100000
def knC (n S : List UInt8) (L : Known) (i : Int) : Bool := decide (i = 0) && Nat.ble L.length 1000000000000
noncomputable def b99 : Code := (nthLoop c99 0)
def ls99 : LoopSpec := { bid := 0, sh := [.d .str false, .ptr 0 0, .d (.int .i64) false], so := [.box [.d .str false, .d (.list (.pair .str (.int .i64))) false]], F := fun (n, i, _) ((S, L, _), _) => .on2 (knC n S L i) ((lookK n L).isSome) (.ret, [.int .i64 ((lookK n L).getD 0)], []) (.exit 0, [.dead], []) }
def r99 (n : List UInt8) (i : Int) (S : List UInt8) (L : List (List UInt8 × Int)) : Tr (St ⊕ (Ex × St)) := Tr.br (decide (i < (↑(List.length L) : Int))) (Tr.br (decide ((0 : Int) ≤ i)) (Tr.br (decide (i < (↑(List.length L) : Int))) (Tr.br (Prod.fst (List.getD L (Int.toNat i) (([], 0))) == n) (Tr.br (decide ((0 : Int) ≤ i)) (Tr.br (decide (i < (↑(List.length L) : Int))) (Tr.ret (Sum.inr (Ex.ret, stOf [4] [AV.int IntKind.i64 (Prod.snd (List.getD L (Int.toNat i) (([], 0))))] []))) Tr.no) Tr.no) (Tr.ret (Sum.inl (stOf [1, 2, 5] [AV.str n, AV.ptr 0 0, AV.int IntKind.i64 (IntKind.wrap IntKind.i64 (i + (1 : Int)))] [LObj.boxT none [AV.str S, AV.list (Ty.pair Ty.str (Ty.int IntKind.i64)) L]])))) Tr.no) Tr.no) (Tr.ret (Sum.inr (Ex.exit 0, stOf [4] [AV.dead] [])))
set_option maxRecDepth 1000000 in
theorem round99 (orc : Orc) (lp : Lp) (n : List UInt8) (i : Int) (S : List UInt8) (L : List (List UInt8 × Int)) : evC T0 orc lp b99 0 (stOf [1, 2, 5] [.str n, .ptr 0 0, .int .i64 i] [.box [.str S, .list (.pair .str (.int .i64)) L]]) (roundK [1, 2, 5] [4] 0) = (r99 n i S L).get := by kernel_rfl
def t99 (p : (List UInt8 × List (List UInt8 × Int))) (n : List UInt8) : Tr Res := Tr.br (knC n p.1 p.2 (0 : Int)) (Tr.br (Option.isSome (lookK n p.2)) (Tr.ret ([AV.int IntKind.i64 (Option.getD (lookK n p.2) (0 : Int))], [])) (Tr.ret ([AV.int IntKind.i64 (-1 : Int)], []))) Tr.no
set_option maxRecDepth 1000000 in
theorem fn99 (p : (List UInt8 × List (List UInt8 × Int))) (n : List UInt8) : evC T0 (orcB [] []) (lpOf h99 0 (lsOf [ls99])) c99 1000000 (startSt [AV.ofTy (.pair .str (.list (.pair .str (.int .i64)))) p true, .str n] [] Try.f99.ntmps) (finishK T0 false 0 Try.f99) = (t99 p n).get := by kernel_rfl
def fs99 : FSpec := fsT 99 [((.pair .str (.list (.pair .str (.int .i64)))), true), (.str, false)] [((.int .i64), false)] fun (p, n, _) => t99 p n
def t63 (p : (List UInt8 × List (List UInt8 × Int))) (s : List UInt8) : Tr Res := Tr.br (Nat.ble (List.length p.1 + List.length s) 9223372036854775807) (Tr.ret ([AV.agg [AV.str (p.1 ++ s), AV.list (Ty.pair Ty.str (Ty.int IntKind.i64)) p.2]], [])) Tr.no
set_option maxRecDepth 1000000 in
theorem fn63 (p : (List UInt8 × List (List UInt8 × Int))) (s : List UInt8) : evC T0 (orcB [] []) (lpOf h63 0 (lsOf [])) c63 1000000 (startSt [AV.ofTy (.pair .str (.list (.pair .str (.int .i64)))) p true, .str s] [] Try.f63.ntmps) (finishK T0 false 0 Try.f63) = (t63 p s).get := by kernel_rfl
def fs63 : FSpec := fsT 63 [((.pair .str (.list (.pair .str (.int .i64)))), true), (.str, false)] [((.pair .str (.list (.pair .str (.int .i64)))), true)] fun (p, s, _) => t63 p s
def kLen (L : Known) : Bool := Nat.ble L.length 1000000000000
def fs99w : FSpec := fs99.like fun (p, n, _) => .on (kLen p.2) ((lookK n p.2).getD (-1), ())
def rnC (n S0 : List UInt8) (L0 : Known) (S : List UInt8) (L : Known) : Bool := rootV n && (kOk L && (Nat.ble (S.length + n.length) 100000000000 && Nat.ble (L.length + n.length) 100000000000))
noncomputable def b62 : Code := (nthLoop c62 0)
def ls62 : LoopSpec := { bid := 0, sh := [.d .str false, .ptr 0 0, .ptr 2 0], so := [.box [.d .str false, .row 1], .row (.pair .str (.int .i64)), .box [.d .str false, .row 3], .row (.pair .str (.int .i64))], F := fun (n, _) ((S0, _), L0, (S, _), L, _) => .on2 (rnC n S0 L0 S L) ((nameL n S L).1.isSome) (.ret, [.ptr 0 0, .int .i64 0, .ptr 1 0], [.box [.str ((nameL n S L).2.2.1 ++ put16 (49152 + (nameL n S L).1.getD 0)), .list (.pair .str (.int .i64)) (nameL n S L).2.2.2], .box [.str (nameL n S L).2.2.1, .list (.pair .str (.int .i64)) (nameL n S L).2.2.2]]) (.exit 0, [.ptr 0 0, .dead, .ptr 2 0], [.box [.str S0, .rowA 1], .row (.pair .str (.int .i64)) L0, .box [.str (nameL n S L).2.2.1, .rowA 3], .row (.pair .str (.int .i64)) (nameL n S L).2.2.2]) }
def r62 (n : List UInt8) (S0 : List UInt8) (L0 : List (List UInt8 × Int)) (S : List UInt8) (L : List (List UInt8 × Int)) : Tr (St ⊕ (Ex × St)) := Tr.br (!n == [0]) (Tr.br (kLen L) (Tr.br (decide (Option.getD (lookK n L) (-1 : Int) ≥ (0 : Int))) (Tr.br (n16C (IntKind.wrap IntKind.u16 (IntKind.wrap IntKind.i64 ((49152 : Int) + Option.getD (lookK n L) (-1 : Int))))) (Tr.br (Nat.ble (List.length S + List.length (put16 (IntKind.wrap IntKind.u16 (IntKind.wrap IntKind.i64 ((49152 : Int) + Option.getD (lookK n L) (-1 : Int)))))) 9223372036854775807) (Tr.ret (Sum.inr (Ex.ret, stOf [4, 5, 6] [AV.ptr 0 0, AV.int IntKind.i64 (0 : Int), AV.ptr 1 0] [LObj.boxT none [AV.str (S ++ put16 (IntKind.wrap IntKind.u16 (IntKind.wrap IntKind.i64 ((49152 : Int) + Option.getD (lookK n L) (-1 : Int))))), AV.list (Ty.pair Ty.str (Ty.int IntKind.i64)) L], LObj.boxT none [AV.str S, AV.list (Ty.pair Ty.str (Ty.int IntKind.i64)) L]]))) Tr.no) Tr.no) (Tr.br (decide ((↑(List.length S) : Int) < (16384 : Int))) (Tr.br (fits (List.length L + 1) 24) (Tr.br (decide ((0 : Int) < (↑(List.length n) : Int))) (Tr.br (decide ((0 : Int) ≤ IntKind.wrap IntKind.i64 ((1 : Int) + IntKind.wrap IntKind.i64 (↑(UInt8.toNat (List.getD n (Int.toNat (0 : Int)) 0)) : Int))) && decide (IntKind.wrap IntKind.i64 ((1 : Int) + IntKind.wrap IntKind.i64 (↑(UInt8.toNat (List.getD n (Int.toNat (0 : Int)) 0)) : Int)) ≤ (↑(List.length n) : Int))) (Tr.br (decide ((0 : Int) ≤ (0 : Int)) && decide ((0 : Int) ≤ IntKind.wrap IntKind.i64 ((1 : Int) + IntKind.wrap IntKind.i64 (↑(UInt8.toNat (List.getD n (Int.toNat (0 : Int)) 0)) : Int)))) (Tr.br (Nat.ble (List.length S + List.length (List.take (Int.toNat (IntKind.wrap IntKind.i64 ((1 : Int) + IntKind.wrap IntKind.i64 (↑(UInt8.toNat (List.getD n (Int.toNat (0 : Int)) 0)) : Int))) - Int.toNat (0 : Int)) (List.drop (Int.toNat (0 : Int)) n))) 9223372036854775807) (Tr.br (decide ((0 : Int) ≤ (↑(List.length n) : Int)) && decide ((↑(List.length n) : Int) ≤ (↑(List.length n) : Int))) (Tr.br (decide ((0 : Int) ≤ IntKind.wrap IntKind.i64 ((1 : Int) + IntKind.wrap IntKind.i64 (↑(UInt8.toNat (List.getD n (Int.toNat (0 : Int)) 0)) : Int))) && decide (IntKind.wrap IntKind.i64 ((1 : Int) + IntKind.wrap IntKind.i64 (↑(UInt8.toNat (List.getD n (Int.toNat (0 : Int)) 0)) : Int)) ≤ (↑(List.length n) : Int))) (Tr.ret (Sum.inl (stOf [1, 4, 6] [AV.str (List.take (Int.toNat (↑(List.length n) : Int) - Int.toNat (IntKind.wrap IntKind.i64 ((1 : Int) + IntKind.wrap IntKind.i64 (↑(UInt8.toNat (List.getD n (Int.toNat (0 : Int)) 0)) : Int)))) (List.drop (Int.toNat (IntKind.wrap IntKind.i64 ((1 : Int) + IntKind.wrap IntKind.i64 (↑(UInt8.toNat (List.getD n (Int.toNat (0 : Int)) 0)) : Int)))) n)), AV.ptr 0 0, AV.ptr 2 0] [LObj.boxT none [AV.str S0, AV.rowA 1], LObj.row (Ty.pair Ty.str (Ty.int IntKind.i64)) L0, LObj.boxT none [AV.str (S ++ List.take (Int.toNat (IntKind.wrap IntKind.i64 ((1 : Int) + IntKind.wrap IntKind.i64 (↑(UInt8.toNat (List.getD n (Int.toNat (0 : Int)) 0)) : Int))) - Int.toNat (0 : Int)) (List.drop (Int.toNat (0 : Int)) n)), AV.rowA 3], LObj.row (Ty.pair Ty.str (Ty.int IntKind.i64)) (L ++ [(n, (↑(List.length S) : Int))])]))) Tr.no) Tr.no) Tr.no) Tr.no) Tr.no) Tr.no) Tr.no) (Tr.br (decide ((0 : Int) < (↑(List.length n) : Int))) (Tr.br (decide ((0 : Int) ≤ IntKind.wrap IntKind.i64 ((1 : Int) + IntKind.wrap IntKind.i64 (↑(UInt8.toNat (List.getD n (Int.toNat (0 : Int)) 0)) : Int))) && decide (IntKind.wrap IntKind.i64 ((1 : Int) + IntKind.wrap IntKind.i64 (↑(UInt8.toNat (List.getD n (Int.toNat (0 : Int)) 0)) : Int)) ≤ (↑(List.length n) : Int))) (Tr.br (decide ((0 : Int) ≤ (0 : Int)) && decide ((0 : Int) ≤ IntKind.wrap IntKind.i64 ((1 : Int) + IntKind.wrap IntKind.i64 (↑(UInt8.toNat (List.getD n (Int.toNat (0 : Int)) 0)) : Int)))) (Tr.br (Nat.ble (List.length S + List.length (List.take (Int.toNat (IntKind.wrap IntKind.i64 ((1 : Int) + IntKind.wrap IntKind.i64 (↑(UInt8.toNat (List.getD n (Int.toNat (0 : Int)) 0)) : Int))) - Int.toNat (0 : Int)) (List.drop (Int.toNat (0 : Int)) n))) 9223372036854775807) (Tr.br (decide ((0 : Int) ≤ (↑(List.length n) : Int)) && decide ((↑(List.length n) : Int) ≤ (↑(List.length n) : Int))) (Tr.br (decide ((0 : Int) ≤ IntKind.wrap IntKind.i64 ((1 : Int) + IntKind.wrap IntKind.i64 (↑(UInt8.toNat (List.getD n (Int.toNat (0 : Int)) 0)) : Int))) && decide (IntKind.wrap IntKind.i64 ((1 : Int) + IntKind.wrap IntKind.i64 (↑(UInt8.toNat (List.getD n (Int.toNat (0 : Int)) 0)) : Int)) ≤ (↑(List.length n) : Int))) (Tr.ret (Sum.inl (stOf [1, 4, 6] [AV.str (List.take (Int.toNat (↑(List.length n) : Int) - Int.toNat (IntKind.wrap IntKind.i64 ((1 : Int) + IntKind.wrap IntKind.i64 (↑(UInt8.toNat (List.getD n (Int.toNat (0 : Int)) 0)) : Int)))) (List.drop (Int.toNat (IntKind.wrap IntKind.i64 ((1 : Int) + IntKind.wrap IntKind.i64 (↑(UInt8.toNat (List.getD n (Int.toNat (0 : Int)) 0)) : Int)))) n)), AV.ptr 0 0, AV.ptr 2 0] [LObj.boxT none [AV.str S0, AV.rowA 1], LObj.row (Ty.pair Ty.str (Ty.int IntKind.i64)) L0, LObj.boxT none [AV.str (S ++ List.take (Int.toNat (IntKind.wrap IntKind.i64 ((1 : Int) + IntKind.wrap IntKind.i64 (↑(UInt8.toNat (List.getD n (Int.toNat (0 : Int)) 0)) : Int))) - Int.toNat (0 : Int)) (List.drop (Int.toNat (0 : Int)) n)), AV.rowA 3], LObj.row (Ty.pair Ty.str (Ty.int IntKind.i64)) L]))) Tr.no) Tr.no) Tr.no) Tr.no) Tr.no) Tr.no))) Tr.no) (Tr.ret (Sum.inr (Ex.exit 0, stOf [4, 5, 6] [AV.ptr 0 0, AV.dead, AV.ptr 2 0] [LObj.boxT none [AV.str S0, AV.rowA 1], LObj.row (Ty.pair Ty.str (Ty.int IntKind.i64)) L0, LObj.boxT none [AV.str S, AV.rowA 3], LObj.row (Ty.pair Ty.str (Ty.int IntKind.i64)) L])))
set_option maxRecDepth 1000000 in
theorem round62 (lp : Lp) (n : List UInt8) (S0 : List UInt8) (L0 : List (List UInt8 × Int)) (S : List UInt8) (L : List (List UInt8 × Int)) : evC T0 (orcB [fs75v, fs99w, fs63, fs64w] []) lp b62 0 (stOf [1, 4, 6] [.str n, .ptr 0 0, .ptr 2 0] [.box [.str S0, .rowA 1], .row (.pair .str (.int .i64)) L0, .box [.str S, .rowA 3], .row (.pair .str (.int .i64)) L]) (roundK [1, 4, 6] [4, 5, 6] 0) = (r62 n S0 L0 S L).get := by kernel_rfl
def t62 (p : (List UInt8 × List (List UInt8 × Int))) (n : List UInt8) : Tr Res := Tr.br (bigS n) (Tr.br (!mayV n) (Tr.ret ([AV.agg [AV.str p.1, AV.list (Ty.pair Ty.str (Ty.int IntKind.i64)) p.2], AV.int IntKind.i64 (1 : Int)], [])) (Tr.br (fits (0 + List.length p.2) 24) (Tr.br (rnC n [] [] p.1 ([] ++ p.2)) (Tr.br (Option.isSome (Prod.fst (nameL n p.1 ([] ++ p.2)))) (Tr.ret ([AV.agg [AV.str (Prod.fst (Prod.snd (Prod.snd (nameL n p.1 ([] ++ p.2)))) ++ put16 ((49152 : Int) + Option.getD (Prod.fst (nameL n p.1 ([] ++ p.2))) (0 : Int))), AV.list (Ty.pair Ty.str (Ty.int IntKind.i64)) (Prod.snd (Prod.snd (Prod.snd (nameL n p.1 ([] ++ p.2)))))], AV.int IntKind.i64 (0 : Int)], [])) (Tr.br (Nat.ble (List.length (Prod.fst (Prod.snd (Prod.snd (nameL n p.1 ([] ++ p.2))))) + List.length ([0])) 9223372036854775807) (Tr.ret ([AV.agg [AV.str (Prod.fst (Prod.snd (Prod.snd (nameL n p.1 ([] ++ p.2)))) ++ [0]), AV.list (Ty.pair Ty.str (Ty.int IntKind.i64)) (Prod.snd (Prod.snd (Prod.snd (nameL n p.1 ([] ++ p.2)))))], AV.int IntKind.i64 (0 : Int)], [])) Tr.no)) Tr.no) Tr.no)) Tr.no
set_option maxRecDepth 1000000 in
theorem fn62 (p : (List UInt8 × List (List UInt8 × Int))) (n : List UInt8) : evC T0 (orcB [fs75v, fs99w, fs63, fs64w] []) (lpOf h62 0 (lsOf [ls62])) c62 1000000 (startSt [AV.ofTy (.pair .str (.list (.pair .str (.int .i64)))) p true, .str n] [] Try.f62.ntmps) (finishK T0 false 0 Try.f62) = (t62 p n).get := by kernel_rfl
def fs62 : FSpec := fsT 62 [((.pair .str (.list (.pair .str (.int .i64)))), true), (.str, false)] [((.pair .str (.list (.pair .str (.int .i64)))), true), ((.int .i64), false)] fun (p, n, _) => t62 p n
def nmOk (p : List UInt8 × Known) (n : List UInt8) : Bool := bigS n && (kOk p.2 && (Nat.ble p.1.length 10000000000 && Nat.ble p.2.length 10000000000))
def fs62w : FSpec := fs62.like fun (p, n, _) => .br (nmOk p n) (.br (mayV n) (.ret (nameP n p.1 p.2, (0 : Int), ())) (.ret (p, (1 : Int), ()))) .no
end Go.Proofs.YtlkpiegllammdaaE
namespace Go.Proofs.YtlkpiegllammdaaE
open Go Go.Proofs.YtlkpiegllammdaaB
set_option linter.unusedVariables false
set_option linter.unusedSimpArgs false
set_option maxRecDepth 100000
def TN : Tab := { T0 with nild := true }
def t70 (p : (List UInt8 × List (List UInt8 × Int))) (k : Int) (d : List UInt8) : Tr Res := Tr.br (bigS d) (Tr.br (!mayR k d) (Tr.ret ([AV.agg [AV.str p.1, AV.list (Ty.pair Ty.str (Ty.int IntKind.i64)) p.2], AV.int IntKind.i64 (1 : Int)], [])) (Tr.br (k == (2 : Int)) (Tr.br (nmOk p d) (Tr.br (mayV d) (Tr.ret ([AV.agg [AV.str (Prod.fst (nameP d p.1 p.2)), AV.list (Ty.pair Ty.str (Ty.int IntKind.i64)) (Prod.snd (nameP d p.1 p.2))], AV.int IntKind.i64 (0 : Int)], [])) (Tr.ret ([AV.agg [AV.str p.1, AV.list (Ty.pair Ty.str (Ty.int IntKind.i64)) p.2], AV.int IntKind.i64 (0 : Int)], []))) Tr.no) (Tr.br (k == (5 : Int)) (Tr.br (nmOk p d) (Tr.br (mayV d) (Tr.ret ([AV.agg [AV.str (Prod.fst (nameP d p.1 p.2)), AV.list (Ty.pair Ty.str (Ty.int IntKind.i64)) (Prod.snd (nameP d p.1 p.2))], AV.int IntKind.i64 (0 : Int)], [])) (Tr.ret ([AV.agg [AV.str p.1, AV.list (Ty.pair Ty.str (Ty.int IntKind.i64)) p.2], AV.int IntKind.i64 (0 : Int)], []))) Tr.no) (Tr.br (k == (12 : Int)) (Tr.br (nmOk p d) (Tr.br (mayV d) (Tr.ret ([AV.agg [AV.str (Prod.fst (nameP d p.1 p.2)), AV.list (Ty.pair Ty.str (Ty.int IntKind.i64)) (Prod.snd (nameP d p.1 p.2))], AV.int IntKind.i64 (0 : Int)], [])) (Tr.ret ([AV.agg [AV.str p.1, AV.list (Ty.pair Ty.str (Ty.int IntKind.i64)) p.2], AV.int IntKind.i64 (0 : Int)], []))) Tr.no) (Tr.br (k == (15 : Int)) (Tr.br (decide ((0 : Int) ≤ (2 : Int)) && decide ((2 : Int) ≤ (↑(List.length d) : Int))) (Tr.br (Nat.ble (List.length p.1 + List.length (List.take (Int.toNat (2 : Int) - Int.toNat (0 : Int)) (List.drop (Int.toNat (0 : Int)) d))) 9223372036854775807) (Tr.br (decide ((0 : Int) ≤ (↑(List.length d) : Int)) && decide ((↑(List.length d) : Int) ≤ (↑(List.length d) : Int))) (Tr.br (decide ((0 : Int) ≤ (2 : Int)) && decide ((2 : Int) ≤ (↑(List.length d) : Int))) (Tr.br (nmOk (p.1 ++ List.take (Int.toNat (2 : Int) - Int.toNat (0 : Int)) (List.drop (Int.toNat (0 : Int)) d), p.2) (List.take (Int.toNat (↑(List.length d) : Int) - Int.toNat (2 : Int)) (List.drop (Int.toNat (2 : Int)) d))) (Tr.br (mayV (List.take (Int.toNat (↑(List.length d) : Int) - Int.toNat (2 : Int)) (List.drop (Int.toNat (2 : Int)) d))) (Tr.ret ([AV.agg [AV.str (Prod.fst (nameP (List.take (Int.toNat (↑(List.length d) : Int) - Int.toNat (2 : Int)) (List.drop (Int.toNat (2 : Int)) d)) (p.1 ++ List.take (Int.toNat (2 : Int) - Int.toNat (0 : Int)) (List.drop (Int.toNat (0 : Int)) d)) p.2)), AV.list (Ty.pair Ty.str (Ty.int IntKind.i64)) (Prod.snd (nameP (List.take (Int.toNat (↑(List.length d) : Int) - Int.toNat (2 : Int)) (List.drop (Int.toNat (2 : Int)) d)) (p.1 ++ List.take (Int.toNat (2 : Int) - Int.toNat (0 : Int)) (List.drop (Int.toNat (0 : Int)) d)) p.2))], AV.int IntKind.i64 (0 : Int)], [])) (Tr.ret ([AV.agg [AV.str (p.1 ++ List.take (Int.toNat (2 : Int) - Int.toNat (0 : Int)) (List.drop (Int.toNat (0 : Int)) d)), AV.list (Ty.pair Ty.str (Ty.int IntKind.i64)) p.2], AV.int IntKind.i64 (0 : Int)], []))) Tr.no) Tr.no) Tr.no) Tr.no) Tr.no) (Tr.br (k == (6 : Int)) (Tr.br (bigS d) (Tr.br (decide ((0 : Int) ≤ (↑(List.length d) : Int)) && decide ((↑(List.length d) : Int) ≤ (↑(List.length d) : Int))) (Tr.br (decide ((0 : Int) ≤ (↑(wholeV d) : Int)) && decide ((↑(wholeV d) : Int) ≤ (↑(List.length d) : Int))) (Tr.br (bigS (List.take (Int.toNat (↑(List.length d) : Int) - Int.toNat (↑(wholeV d) : Int)) (List.drop (Int.toNat (↑(wholeV d) : Int)) d))) (Tr.br (decide ((0 : Int) ≤ (↑(wholeV d) : Int)) && decide ((↑(wholeV d) : Int) ≤ (↑(List.length d) : Int))) (Tr.br (nmOk p (List.take (Int.toNat (↑(wholeV d) : Int) - Int.toNat (0 : Int)) (List.drop (Int.toNat (0 : Int)) d))) (Tr.br (mayV (List.take (Int.toNat (↑(wholeV d) : Int) - Int.toNat (0 : Int)) (List.drop (Int.toNat (0 : Int)) d))) (Tr.br (decide ((0 : Int) ≤ IntKind.wrap IntKind.i64 ((↑(wholeV d) : Int) + (↑(wholeV (List.take (Int.toNat (↑(List.length d) : Int) - Int.toNat (↑(wholeV d) : Int)) (List.drop (Int.toNat (↑(wholeV d) : Int)) d))) : Int))) && decide (IntKind.wrap IntKind.i64 ((↑(wholeV d) : Int) + (↑(wholeV (List.take (Int.toNat (↑(List.length d) : Int) - Int.toNat (↑(wholeV d) : Int)) (List.drop (Int.toNat (↑(wholeV d) : Int)) d))) : Int)) ≤ (↑(List.length d) : Int))) (Tr.br (decide ((0 : Int) ≤ (↑(wholeV d) : Int)) && decide ((↑(wholeV d) : Int) ≤ IntKind.wrap IntKind.i64 ((↑(wholeV d) : Int) + (↑(wholeV (List.take (Int.toNat (↑(List.length d) : Int) - Int.toNat (↑(wholeV d) : Int)) (List.drop (Int.toNat (↑(wholeV d) : Int)) d))) : Int)))) (Tr.br (nmOk (nameP (List.take (Int.toNat (↑(wholeV d) : Int) - Int.toNat (0 : Int)) (List.drop (Int.toNat (0 : Int)) d)) p.1 p.2) (List.take (Int.toNat (IntKind.wrap IntKind.i64 ((↑(wholeV d) : Int) + (↑(wholeV (List.take (Int.toNat (↑(List.length d) : Int) - Int.toNat (↑(wholeV d) : Int)) (List.drop (Int.toNat (↑(wholeV d) : Int)) d))) : Int))) - Int.toNat (↑(wholeV d) : Int)) (List.drop (Int.toNat (↑(wholeV d) : Int)) d))) (Tr.br (mayV (List.take (Int.toNat (IntKind.wrap IntKind.i64 ((↑(wholeV d) : Int) + (↑(wholeV (List.take (Int.toNat (↑(List.length d) : Int) - Int.toNat (↑(wholeV d) : Int)) (List.drop (Int.toNat (↑(wholeV d) : Int)) d))) : Int))) - Int.toNat (↑(wholeV d) : Int)) (List.drop (Int.toNat (↑(wholeV d) : Int)) d))) (Tr.br (decide ((0 : Int) ≤ (↑(List.length d) : Int)) && decide ((↑(List.length d) : Int) ≤ (↑(List.length d) : Int))) (Tr.br (decide ((0 : Int) ≤ IntKind.wrap IntKind.i64 ((↑(wholeV d) : Int) + (↑(wholeV (List.take (Int.toNat (↑(List.length d) : Int) - Int.toNat (↑(wholeV d) : Int)) (List.drop (Int.toNat (↑(wholeV d) : Int)) d))) : Int))) && decide (IntKind.wrap IntKind.i64 ((↑(wholeV d) : Int) + (↑(wholeV (List.take (Int.toNat (↑(List.length d) : Int) - Int.toNat (↑(wholeV d) : Int)) (List.drop (Int.toNat (↑(wholeV d) : Int)) d))) : Int)) ≤ (↑(List.length d) : Int))) (Tr.br (Nat.ble (List.length (Prod.fst (nameP (List.take (Int.toNat (IntKind.wrap IntKind.i64 ((↑(wholeV d) : Int) + (↑(wholeV (List.take (Int.toNat (↑(List.length d) : Int) - Int.toNat (↑(wholeV d) : Int)) (List.drop (Int.toNat (↑(wholeV d) : Int)) d))) : Int))) - Int.toNat (↑(wholeV d) : Int)) (List.drop (Int.toNat (↑(wholeV d) : Int)) d)) (Prod.fst (nameP (List.take (Int.toNat (↑(wholeV d) : Int) - Int.toNat (0 : Int)) (List.drop (Int.toNat (0 : Int)) d)) p.1 p.2)) (Prod.snd (nameP (List.take (Int.toNat (↑(wholeV d) : Int) - Int.toNat (0 : Int)) (List.drop (Int.toNat (0 : Int)) d)) p.1 p.2)))) + List.length (List.take (Int.toNat (↑(List.length d) : Int) - Int.toNat (IntKind.wrap IntKind.i64 ((↑(wholeV d) : Int) + (↑(wholeV (List.take (Int.toNat (↑(List.length d) : Int) - Int.toNat (↑(wholeV d) : Int)) (List.drop (Int.toNat (↑(wholeV d) : Int)) d))) : Int)))) (List.drop (Int.toNat (IntKind.wrap IntKind.i64 ((↑(wholeV d) : Int) + (↑(wholeV (List.take (Int.toNat (↑(List.length d) : Int) - Int.toNat (↑(wholeV d) : Int)) (List.drop (Int.toNat (↑(wholeV d) : Int)) d))) : Int)))) d))) 9223372036854775807) (Tr.ret ([AV.agg [AV.str (Prod.fst (nameP (List.take (Int.toNat (IntKind.wrap IntKind.i64 ((↑(wholeV d) : Int) + (↑(wholeV (List.take (Int.toNat (↑(List.length d) : Int) - Int.toNat (↑(wholeV d) : Int)) (List.drop (Int.toNat (↑(wholeV d) : Int)) d))) : Int))) - Int.toNat (↑(wholeV d) : Int)) (List.drop (Int.toNat (↑(wholeV d) : Int)) d)) (Prod.fst (nameP (List.take (Int.toNat (↑(wholeV d) : Int) - Int.toNat (0 : Int)) (List.drop (Int.toNat (0 : Int)) d)) p.1 p.2)) (Prod.snd (nameP (List.take (Int.toNat (↑(wholeV d) : Int) - Int.toNat (0 : Int)) (List.drop (Int.toNat (0 : Int)) d)) p.1 p.2))) ++ List.take (Int.toNat (↑(List.length d) : Int) - Int.toNat (IntKind.wrap IntKind.i64 ((↑(wholeV d) : Int) + (↑(wholeV (List.take (Int.toNat (↑(List.length d) : Int) - Int.toNat (↑(wholeV d) : Int)) (List.drop (Int.toNat (↑(wholeV d) : Int)) d))) : Int)))) (List.drop (Int.toNat (IntKind.wrap IntKind.i64 ((↑(wholeV d) : Int) + (↑(wholeV (List.take (Int.toNat (↑(List.length d) : Int) - Int.toNat (↑(wholeV d) : Int)) (List.drop (Int.toNat (↑(wholeV d) : Int)) d))) : Int)))) d)), AV.list (Ty.pair Ty.str (Ty.int IntKind.i64)) (Prod.snd (nameP (List.take (Int.toNat (IntKind.wrap IntKind.i64 ((↑(wholeV d) : Int) + (↑(wholeV (List.take (Int.toNat (↑(List.length d) : Int) - Int.toNat (↑(wholeV d) : Int)) (List.drop (Int.toNat (↑(wholeV d) : Int)) d))) : Int))) - Int.toNat (↑(wholeV d) : Int)) (List.drop (Int.toNat (↑(wholeV d) : Int)) d)) (Prod.fst (nameP (List.take (Int.toNat (↑(wholeV d) : Int) - Int.toNat (0 : Int)) (List.drop (Int.toNat (0 : Int)) d)) p.1 p.2)) (Prod.snd (nameP (List.take (Int.toNat (↑(wholeV d) : Int) - Int.toNat (0 : Int)) (List.drop (Int.toNat (0 : Int)) d)) p.1 p.2))))], AV.int IntKind.i64 (0 : Int)], [])) Tr.no) Tr.no) Tr.no) (Tr.br (decide ((0 : Int) ≤ (↑(List.length d) : Int)) && decide ((↑(List.length d) : Int) ≤ (↑(List.length d) : Int))) (Tr.br (decide ((0 : Int) ≤ IntKind.wrap IntKind.i64 ((↑(wholeV d) : Int) + (↑(wholeV (List.take (Int.toNat (↑(List.length d) : Int) - Int.toNat (↑(wholeV d) : Int)) (List.drop (Int.toNat (↑(wholeV d) : Int)) d))) : Int))) && decide (IntKind.wrap IntKind.i64 ((↑(wholeV d) : Int) + (↑(wholeV (List.take (Int.toNat (↑(List.length d) : Int) - Int.toNat (↑(wholeV d) : Int)) (List.drop (Int.toNat (↑(wholeV d) : Int)) d))) : Int)) ≤ (↑(List.length d) : Int))) (Tr.br (Nat.ble (List.length (Prod.fst (nameP (List.take (Int.toNat (↑(wholeV d) : Int) - Int.toNat (0 : Int)) (List.drop (Int.toNat (0 : Int)) d)) p.1 p.2)) + List.length (List.take (Int.toNat (↑(List.length d) : Int) - Int.toNat (IntKind.wrap IntKind.i64 ((↑(wholeV d) : Int) + (↑(wholeV (List.take (Int.toNat (↑(List.length d) : Int) - Int.toNat (↑(wholeV d) : Int)) (List.drop (Int.toNat (↑(wholeV d) : Int)) d))) : Int)))) (List.drop (Int.toNat (IntKind.wrap IntKind.i64 ((↑(wholeV d) : Int) + (↑(wholeV (List.take (Int.toNat (↑(List.length d) : Int) - Int.toNat (↑(wholeV d) : Int)) (List.drop (Int.toNat (↑(wholeV d) : Int)) d))) : Int)))) d))) 9223372036854775807) (Tr.ret ([AV.agg [AV.str (Prod.fst (nameP (List.take (Int.toNat (↑(wholeV d) : Int) - Int.toNat (0 : Int)) (List.drop (Int.toNat (0 : Int)) d)) p.1 p.2) ++ List.take (Int.toNat (↑(List.length d) : Int) - Int.toNat (IntKind.wrap IntKind.i64 ((↑(wholeV d) : Int) + (↑(wholeV (List.take (Int.toNat (↑(List.length d) : Int) - Int.toNat (↑(wholeV d) : Int)) (List.drop (Int.toNat (↑(wholeV d) : Int)) d))) : Int)))) (List.drop (Int.toNat (IntKind.wrap IntKind.i64 ((↑(wholeV d) : Int) + (↑(wholeV (List.take (Int.toNat (↑(List.length d) : Int) - Int.toNat (↑(wholeV d) : Int)) (List.drop (Int.toNat (↑(wholeV d) : Int)) d))) : Int)))) d)), AV.list (Ty.pair Ty.str (Ty.int IntKind.i64)) (Prod.snd (nameP (List.take (Int.toNat (↑(wholeV d) : Int) - Int.toNat (0 : Int)) (List.drop (Int.toNat (0 : Int)) d)) p.1 p.2))], AV.int IntKind.i64 (0 : Int)], [])) Tr.no) Tr.no) Tr.no)) Tr.no) Tr.no) Tr.no) (Tr.br (decide ((0 : Int) ≤ IntKind.wrap IntKind.i64 ((↑(wholeV d) : Int) + (↑(wholeV (List.take (Int.toNat (↑(List.length d) : Int) - Int.toNat (↑(wholeV d) : Int)) (List.drop (Int.toNat (↑(wholeV d) : Int)) d))) : Int))) && decide (IntKind.wrap IntKind.i64 ((↑(wholeV d) : Int) + (↑(wholeV (List.take (Int.toNat (↑(List.length d) : Int) - Int.toNat (↑(wholeV d) : Int)) (List.drop (Int.toNat (↑(wholeV d) : Int)) d))) : Int)) ≤ (↑(List.length d) : Int))) (Tr.br (decide ((0 : Int) ≤ (↑(wholeV d) : Int)) && decide ((↑(wholeV d) : Int) ≤ IntKind.wrap IntKind.i64 ((↑(wholeV d) : Int) + (↑(wholeV (List.take (Int.toNat (↑(List.length d) : Int) - Int.toNat (↑(wholeV d) : Int)) (List.drop (Int.toNat (↑(wholeV d) : Int)) d))) : Int)))) (Tr.br (nmOk p (List.take (Int.toNat (IntKind.wrap IntKind.i64 ((↑(wholeV d) : Int) + (↑(wholeV (List.take (Int.toNat (↑(List.length d) : Int) - Int.toNat (↑(wholeV d) : Int)) (List.drop (Int.toNat (↑(wholeV d) : Int)) d))) : Int))) - Int.toNat (↑(wholeV d) : Int)) (List.drop (Int.toNat (↑(wholeV d) : Int)) d))) (Tr.br (mayV (List.take (Int.toNat (IntKind.wrap IntKind.i64 ((↑(wholeV d) : Int) + (↑(wholeV (List.take (Int.toNat (↑(List.length d) : Int) - Int.toNat (↑(wholeV d) : Int)) (List.drop (Int.toNat (↑(wholeV d) : Int)) d))) : Int))) - Int.toNat (↑(wholeV d) : Int)) (List.drop (Int.toNat (↑(wholeV d) : Int)) d))) (Tr.br (decide ((0 : Int) ≤ (↑(List.length d) : Int)) && decide ((↑(List.length d) : Int) ≤ (↑(List.length d) : Int))) (Tr.br (decide ((0 : Int) ≤ IntKind.wrap IntKind.i64 ((↑(wholeV d) : Int) + (↑(wholeV (List.take (Int.toNat (↑(List.length d) : Int) - Int.toNat (↑(wholeV d) : Int)) (List.drop (Int.toNat (↑(wholeV d) : Int)) d))) : Int))) && decide (IntKind.wrap IntKind.i64 ((↑(wholeV d) : Int) + (↑(wholeV (List.take (Int.toNat (↑(List.length d) : Int) - Int.toNat (↑(wholeV d) : Int)) (List.drop (Int.toNat (↑(wholeV d) : Int)) d))) : Int)) ≤ (↑(List.length d) : Int))) (Tr.br (Nat.ble (List.length (Prod.fst (nameP (List.take (Int.toNat (IntKind.wrap IntKind.i64 ((↑(wholeV d) : Int) + (↑(wholeV (List.take (Int.toNat (↑(List.length d) : Int) - Int.toNat (↑(wholeV d) : Int)) (List.drop (Int.toNat (↑(wholeV d) : Int)) d))) : Int))) - Int.toNat (↑(wholeV d) : Int)) (List.drop (Int.toNat (↑(wholeV d) : Int)) d)) p.1 p.2)) + List.length (List.take (Int.toNat (↑(List.length d) : Int) - Int.toNat (IntKind.wrap IntKind.i64 ((↑(wholeV d) : Int) + (↑(wholeV (List.take (Int.toNat (↑(List.length d) : Int) - Int.toNat (↑(wholeV d) : Int)) (List.drop (Int.toNat (↑(wholeV d) : Int)) d))) : Int)))) (List.drop (Int.toNat (IntKind.wrap IntKind.i64 ((↑(wholeV d) : Int) + (↑(wholeV (List.take (Int.toNat (↑(List.length d) : Int) - Int.toNat (↑(wholeV d) : Int)) (List.drop (Int.toNat (↑(wholeV d) : Int)) d))) : Int)))) d))) 9223372036854775807) (Tr.ret ([AV.agg [AV.str (Prod.fst (nameP (List.take (Int.toNat (IntKind.wrap IntKind.i64 ((↑(wholeV d) : Int) + (↑(wholeV (List.take (Int.toNat (↑(List.length d) : Int) - Int.toNat (↑(wholeV d) : Int)) (List.drop (Int.toNat (↑(wholeV d) : Int)) d))) : Int))) - Int.toNat (↑(wholeV d) : Int)) (List.drop (Int.toNat (↑(wholeV d) : Int)) d)) p.1 p.2) ++ List.take (Int.toNat (↑(List.length d) : Int) - Int.toNat (IntKind.wrap IntKind.i64 ((↑(wholeV d) : Int) + (↑(wholeV (List.take (Int.toNat (↑(List.length d) : Int) - Int.toNat (↑(wholeV d) : Int)) (List.drop (Int.toNat (↑(wholeV d) : Int)) d))) : Int)))) (List.drop (Int.toNat (IntKind.wrap IntKind.i64 ((↑(wholeV d) : Int) + (↑(wholeV (List.take (Int.toNat (↑(List.length d) : Int) - Int.toNat (↑(wholeV d) : Int)) (List.drop (Int.toNat (↑(wholeV d) : Int)) d))) : Int)))) d)), AV.list (Ty.pair Ty.str (Ty.int IntKind.i64)) (Prod.snd (nameP (List.take (Int.toNat (IntKind.wrap IntKind.i64 ((↑(wholeV d) : Int) + (↑(wholeV (List.take (Int.toNat (↑(List.length d) : Int) - Int.toNat (↑(wholeV d) : Int)) (List.drop (Int.toNat (↑(wholeV d) : Int)) d))) : Int))) - Int.toNat (↑(wholeV d) : Int)) (List.drop (Int.toNat (↑(wholeV d) : Int)) d)) p.1 p.2))], AV.int IntKind.i64 (0 : Int)], [])) Tr.no) Tr.no) Tr.no) (Tr.br (decide ((0 : Int) ≤ (↑(List.length d) : Int)) && decide ((↑(List.length d) : Int) ≤ (↑(List.length d) : Int))) (Tr.br (decide ((0 : Int) ≤ IntKind.wrap IntKind.i64 ((↑(wholeV d) : Int) + (↑(wholeV (List.take (Int.toNat (↑(List.length d) : Int) - Int.toNat (↑(wholeV d) : Int)) (List.drop (Int.toNat (↑(wholeV d) : Int)) d))) : Int))) && decide (IntKind.wrap IntKind.i64 ((↑(wholeV d) : Int) + (↑(wholeV (List.take (Int.toNat (↑(List.length d) : Int) - Int.toNat (↑(wholeV d) : Int)) (List.drop (Int.toNat (↑(wholeV d) : Int)) d))) : Int)) ≤ (↑(List.length d) : Int))) (Tr.br (Nat.ble (List.length p.1 + List.length (List.take (Int.toNat (↑(List.length d) : Int) - Int.toNat (IntKind.wrap IntKind.i64 ((↑(wholeV d) : Int) + (↑(wholeV (List.take (Int.toNat (↑(List.length d) : Int) - Int.toNat (↑(wholeV d) : Int)) (List.drop (Int.toNat (↑(wholeV d) : Int)) d))) : Int)))) (List.drop (Int.toNat (IntKind.wrap IntKind.i64 ((↑(wholeV d) : Int) + (↑(wholeV (List.take (Int.toNat (↑(List.length d) : Int) - Int.toNat (↑(wholeV d) : Int)) (List.drop (Int.toNat (↑(wholeV d) : Int)) d))) : Int)))) d))) 9223372036854775807) (Tr.ret ([AV.agg [AV.str (p.1 ++ List.take (Int.toNat (↑(List.length d) : Int) - Int.toNat (IntKind.wrap IntKind.i64 ((↑(wholeV d) : Int) + (↑(wholeV (List.take (Int.toNat (↑(List.length d) : Int) - Int.toNat (↑(wholeV d) : Int)) (List.drop (Int.toNat (↑(wholeV d) : Int)) d))) : Int)))) (List.drop (Int.toNat (IntKind.wrap IntKind.i64 ((↑(wholeV d) : Int) + (↑(wholeV (List.take (Int.toNat (↑(List.length d) : Int) - Int.toNat (↑(wholeV d) : Int)) (List.drop (Int.toNat (↑(wholeV d) : Int)) d))) : Int)))) d)), AV.list (Ty.pair Ty.str (Ty.int IntKind.i64)) p.2], AV.int IntKind.i64 (0 : Int)], [])) Tr.no) Tr.no) Tr.no)) Tr.no) Tr.no) Tr.no)) Tr.no) Tr.no) Tr.no) Tr.no) Tr.no) Tr.no) (Tr.br (Nat.ble (List.length p.1 + List.length d) 9223372036854775807) (Tr.ret ([AV.agg [AV.str (p.1 ++ d), AV.list (Ty.pair Ty.str (Ty.int IntKind.i64)) p.2], AV.int IntKind.i64 (0 : Int)], [])) Tr.no))))))) Tr.no
set_option maxRecDepth 1000000 in
theorem fn70 (p : (List UInt8 × List (List UInt8 × Int))) (k : Int) (d : List UInt8) : evC TN (orcB [fs76w, fs100w, fs62w, fs63] []) (lpOf h70 0 (lsOf [])) c70 1000000 (startSt [AV.ofTy (.pair .str (.list (.pair .str (.int .i64)))) p true, .int .u16 k, .str d] [] Try.f70.ntmps) (finishK TN false 0 Try.f70) = (t70 p k d).get := by kernel_rfl
def fs70 : FSpec := fsT 70 [((.pair .str (.list (.pair .str (.int .i64)))), true), ((.int .u16), false), (.str, false)] [((.pair .str (.list (.pair .str (.int .i64)))), true), ((.int .i64), false)] fun (p, k, d, _) => t70 p k d
def ptOk (p : PKt) (d : List UInt8) : Bool := bigS d && (kOk p.2 && (Nat.ble p.1.length 1000000000 && Nat.ble p.2.length 1000000000))
theorem nameP_k {p : PKt} {n : List UInt8} (hm : mayV n = true) (hk : kOk p.2 = true) : kOk (nameP n p.1 p.2).2 = true ∧ (nameP n p.1 p.2).1.length ≤ p.1.length + n.length ∧ (nameP n p.1 p.2).2.length ≤ p.2.length + n.length := by
  have hk2 := (stN_k (p := p) (x := (n, false)) hk).1
  unfold stN at hk2
  rw [show mayV (n, false).1 = true from hm, cond_true] at hk2
  obtain ⟨l1, _, l3⟩ := nameL_len _ n p.1 p.2 rfl (may_iff.1 hm).1
  exact ⟨hk2, by omega, by omega⟩
def fs70w : FSpec := fs70.like fun (p, k, d, _) => .br (ptOk p d) (.br (mayR k d) (.ret (putR k d p, (0 : Int), ())) (.ret (p, (1 : Int), ()))) .no
def ls67q : LoopSpec := { bid := 0, sh := [], so := [], F := fun _ _ => .no }
def t67z (k : Int) (d : List UInt8) : Tr Res := Tr.ret ([AV.int IntKind.i64 (1 : Int)], [])
set_option maxRecDepth 1000000 in
theorem fn67z (k : Int) (d : List UInt8) : evC TN (orcB [] []) (lpOf h67 0 (lsOf [ls67q])) c67 1000000 (startSt [.np, .int .u16 k, .str d] [] Try.f67.ntmps) (finishK TN false 0 Try.f67) = (t67z k d).get := by kernel_rfl
theorem putS_len2 : ∀ (ps : List Int) (ls : List (List UInt8)) (p : PKt), (putS ps ls p).2.length ≤ p.2.length + ls.flatten.length
  | [], _, p => by simp [putS]
  | x :: ps, ls, p => by
    rw [putS]
    have hl : ls.flatten.length = (ls.headD []).length + ls.tail.flatten.length := by cases ls <;> simp
    cases hx : x == -1 with
    | true =>
      have q2 := putS_len2 ps ls.tail (stN p (ls.headD [], false))
      rw [cond_true, hl]
      have k2 : (stN p (ls.headD [], false)).2.length ≤ p.2.length + (ls.headD []).length := by
        show (bif mayV (ls.headD []) then nameP (ls.headD []) p.1 p.2 else p).2.length ≤ _
        cases hm : mayV (ls.headD []) with
        | false => rw [cond_false]; omega
        | true =>
          rw [cond_true]
          obtain ⟨_, _, l3⟩ := nameL_len _ (ls.headD []) p.1 p.2 rfl (may_iff.1 hm).1
          omega
      omega
    | false =>
      have q2 : (putS ps ls.tail (p.1 ++ ls.headD [], p.2)).2.length ≤ p.2.length + ls.tail.flatten.length := putS_len2 ps ls.tail (p.1 ++ ls.headD [], p.2)
      rw [cond_false, hl]
      omega
theorem putR_len {k : Int} {d : List UInt8} {p : PKt} (hm : mayR k d = true) (hk : kOk p.2 = true) : kOk (putR k d p).2 = true ∧ (putR k d p).1.length ≤ p.1.length + d.length ∧ (putR k d p).2.length ≤ p.2.length + d.length := by
  obtain ⟨q1, q2⟩ := putS_len (layV k) (partsV k d) p hk
  have q3 := putS_len2 (layV k) (partsV k d) p
  rw [(may_parts hm).2.2.2.2.2] at q2 q3
  exact ⟨q1, q2, q3⟩
end Go.Proofs.YtlkpiegllammdaaE
namespace Go.Proofs.YtlkpiegllammdaaE
open Go Go.Proofs.YtlkpiegllammdaaB
set_option linter.unusedVariables false
set_option linter.unusedSimpArgs false
theorem wrapU16 (n : Int) : IntKind.wrap .u16 n = n % 65536 := IntKind.wrap_u16 n
def closeB (b : List Int) (a : Int) : List Int := b.take (a - 2).toNat ++ bytesInt (put16 (((b.length : Int) - a) % 65536)) ++ b.drop a.toNat
def os66w : OSpec := os66.like fun _ (_, b, l, _) => .on (Nat.ble b.length 100000000000) ([.int .i64 ((b.length : Int) + 2)], pkO (b ++ [0, 0]) l)
theorem ok66w : os66w.Ok Try.prog := by
  refine like_ok ok66 _ ?_
  rintro _ ⟨_, (b : List Int), (l : Known), _⟩ r h
  obtain ⟨hb, rfl⟩ := Tr.get_on h
  have hb := Nat.le_of_ble_eq_true hb
  refine Tr.get_of_all ?_
  show (t66 b l).all _
  have e : bytesInt (put16 0) = [0, 0] := by decide
  unfold t66
  rw [e]
  refine Tr.all_t (fits_true (by simp [put16_len]; omega) (by simp [put16_len]; omega)) (Tr.all_ret ?_)
  simp
def os68w : OSpec := os68.like fun (a, _) (_, b, l, _) => .br (Nat.ble b.length 100000000000) (.br (decide (2 ≤ a) && decide (a ≤ (b.length : Int))) (.ret ([.int .i64 0], pkO (closeB b a) l)) (.ret ([.int .i64 1], pkO b l))) .no
theorem ok68w : os68w.Ok Try.prog := by
  refine like_ok ok68 _ ?_
  rintro ⟨(a : Int), _⟩ ⟨_, (b : List Int), (l : Known), _⟩ r h
  simp only [Tr.get] at h
  cases hb : Nat.ble b.length 100000000000 with
  | false => rw [hb] at h; cases h
  | true =>
    rw [hb, cond_true] at h
    have hb := Nat.le_of_ble_eq_true hb
    refine Tr.get_of_all ?_
    show (t68 a b l).all _
    unfold t68
    by_cases h2 : 2 ≤ a
    · by_cases h3 : a ≤ (b.length : Int)
      · rw [dec_true h2, dec_true h3] at h
        cases h
        have hw := wrapU16 ((b.length : Int) - a)
        rw [IntWalk.i64_in (a - 2) (by omega), IntWalk.i64_in ((b.length : Int) - a) (by omega), hw]
        refine Tr.all_f (dec_false (by omega)) (Tr.all_f (dec_false (by omega)) (Tr.all_t (by rw [dec_true (by omega), dec_true (by omega)]; rfl) (Tr.all_t (by rw [dec_true (by omega), dec_true (by omega)]; rfl) (Tr.all_t ?_ (Tr.all_ret ?_)))))
        · simp [n16C]; omega
        · unfold closeB
          rw [show a.toNat - (a - 2).toNat = 2 by omega, put16_len, show min 2 2 = 2 from rfl, show (a - 2).toNat + 2 = a.toNat by omega, List.take_of_length_le (l := bytesInt (put16 _)) (by rw [bytesInt_len, put16_len]; exact Nat.le_refl _)]
      · rw [dec_true h2, dec_false h3] at h
        cases h
        exact Tr.all_f (dec_false (by omega)) (Tr.all_t (dec_true (by omega)) (Tr.all_ret rfl))
    · rw [dec_false h2] at h
      cases h
      exact Tr.all_t (dec_true (by omega)) (Tr.all_ret rfl)
end Go.Proofs.YtlkpiegllammdaaE
namespace Go.Proofs.YtlkpiegllammdaaE
open Go Go.Proofs.YtlkpiegllammdaaB
set_option linter.unusedVariables false
set_option linter.unusedSimpArgs false
set_option maxRecDepth 100000
def btC4 (n many m i : Int) (b : List Int) : Bool := decide (many = 4) && (decide (m = 4) && (decide (i = 0) && decide (b = [0, 0, 0, 0])))
def byN4 (n : Int) (k : Nat) : Int := IntKind.wrap .u8 (Int.fdiv n (2 ^ (8 * k)))
noncomputable def b98f : Code := nthLoop c98 0
def ls98f : LoopSpec := { bid := 0, sh := [.d (.int .u32) false, .d (.int .i64) false, .row 0, .d (.int .i64) false, .d (.int .i64) false], so := [.row (.int .u8)], F := fun (n, many, m, i, _) (b, _) => .on (btC4 n many m i b) (.exit 0, [.rowA 0], [.row (.int .u8) [byN4 n 3, byN4 n 2, byN4 n 1, byN4 n 0]]) }
def r98f (n : Int) (many : Int) (m : Int) (i : Int) (b : List Int) : Tr (St ⊕ (Ex × St)) := Tr.br (decide (i < m)) (Tr.br (decide ((0 : Int) ≤ IntKind.wrap IntKind.i64 ((8 : Int) * i))) (Tr.br (decide ((0 : Int) ≤ IntKind.wrap IntKind.i64 (IntKind.wrap IntKind.i64 (many - (1 : Int)) - i))) (Tr.br (decide (IntKind.wrap IntKind.i64 (IntKind.wrap IntKind.i64 (many - (1 : Int)) - i) < (↑(List.length b) : Int))) (Tr.ret (Sum.inl (stOf [0, 1, 5, 9, 10] [AV.int IntKind.u32 n, AV.int IntKind.i64 many, AV.rowA 0, AV.int IntKind.i64 m, AV.int IntKind.i64 (IntKind.wrap IntKind.i64 (i + (1 : Int)))] [LObj.row (Ty.int IntKind.u8) (List.set b (Int.toNat (IntKind.wrap IntKind.i64 (IntKind.wrap IntKind.i64 (many - (1 : Int)) - i))) (IntKind.wrap IntKind.u8 (Int.fdiv n ((2 : Int) ^ min (Int.toNat (IntKind.wrap IntKind.i64 ((8 : Int) * i))) (IntKind.bits IntKind.u32)))))]))) Tr.no) Tr.no) Tr.no) (Tr.ret (Sum.inr (Ex.exit 0, stOf [5] [AV.rowA 0] [LObj.row (Ty.int IntKind.u8) b])))
set_option maxRecDepth 1000000 in
theorem round98f (orc : Orc) (lp : Lp) (n : Int) (many : Int) (m : Int) (i : Int) (b : List Int) : evC T0 orc lp b98f 0 (stOf [0, 1, 5, 9, 10] [.int .u32 n, .int .i64 many, .rowA 0, .int .i64 m, .int .i64 i] [.row (.int .u8) b]) (roundK [0, 1, 5, 9, 10] [5] 0) = (r98f n many m i b).get := by kernel_rfl
theorem wf98f (orc : Orc) (n : Int) (many : Int) (m : Int) (I'' : Int → List Int → Prop) (m'' : Int → List Int → Nat) (r'' : Ex × St) (h : ∀ (i : Int) (b : List Int), I'' i b → (r98f n many m i b).all fun x'' => x'' = .inr r'' ∨ ∃ (i' : Int) (b' : List Int), x'' = .inl (stOf [0, 1, 5, 9, 10] [.int .u32 n, .int .i64 many, .rowA 0, .int .i64 m, .int .i64 i'] [.row (.int .u8) b']) ∧ I'' i' b' ∧ m'' i' b' < m'' i b) (lp : Lp) (i : Int) (b : List Int) : I'' i b →
    loopF (fun st => evC T0 orc lp b98f 0 st (roundK [0, 1, 5, 9, 10] [5] 0)) (stOf [0, 1, 5, 9, 10] [.int .u32 n, .int .i64 many, .rowA 0, .int .i64 m, .int .i64 i] [.row (.int .u8) b]) = some r'' :=
  loop_tr (fun a'' : Int × List Int => stOf [0, 1, 5, 9, 10] [.int .u32 n, .int .i64 many, .rowA 0, .int .i64 m, .int .i64 a''.1] [.row (.int .u8) a''.2]) (fun a'' => I'' a''.1 a''.2) (fun a'' => m'' a''.1 a''.2) r'' (fun a'' => r98f n many m a''.1 a''.2)
    (fun a'' x hx => (round98f orc lp n many m a''.1 a''.2).trans hx) (fun a'' ha => Tr.all_mono (fun x'' hx => hx.imp id fun ⟨i', b', h1, h2, h3⟩ => ⟨(i', b'), h1, h2, h3⟩) (h (a''.1) (a''.2) ha)) (i, b)
theorem byN4_eq {n : Int} (h : 0 ≤ n) (k : Nat) : Int.fdiv n (2 ^ k) = n / 2 ^ k := Int.fdiv_eq_ediv_of_nonneg _ (by have : (0 : Int) < 2 ^ k := Int.pow_pos (by omega); omega)
theorem loop98f (orc : Orc) : ls98f.Ok T0 orc h98 0 0 b98f := by
  intro q'' hq'' x'' y'' r'' h
  obtain ⟨(n : Int), (many : Int), (m : Int), (i : Int), _⟩ := x''
  obtain ⟨(b : List Int), _⟩ := y''
  obtain ⟨hc, rfl⟩ := Tr.get_on h
  show loopF (fun st => evC T0 orc (lpN T0 orc h98 0 q'') b98f 0 st (roundK [0, 1, 5, 9, 10] [5] 0)) (stOf [0, 1, 5, 9, 10] [.int .u32 n, .int .i64 many, .rowA 0, .int .i64 m, .int .i64 i] [.row (.int .u8) b]) = some (.exit 0, stOf [5] ([.rowA 0]) ([.row (.int .u8) [byN4 n 3, byN4 n 2, byN4 n 1, byN4 n 0]]))
  simp only [btC4, Bool.and_eq_true, decide_eq_true_eq] at hc
  obtain ⟨rfl, rfl, rfl, rfl⟩ := hc
  refine wf98f _ n 4 4 (fun i b => (i = 0 ∧ b = [0, 0, 0, 0]) ∨ (i = 1 ∧ b = [0, 0, 0, byN4 n 0]) ∨ (i = 2 ∧ b = [0, 0, byN4 n 1, byN4 n 0]) ∨ (i = 3 ∧ b = [0, byN4 n 2, byN4 n 1, byN4 n 0]) ∨ (i = 4 ∧ b = [byN4 n 3, byN4 n 2, byN4 n 1, byN4 n 0])) (fun i _ => (4 - i).toNat) _ ?_ _ 0 [0, 0, 0, 0] (.inl ⟨rfl, rfl⟩)
  rintro i b (⟨rfl, rfl⟩ | ⟨rfl, rfl⟩ | ⟨rfl, rfl⟩ | ⟨rfl, rfl⟩ | ⟨rfl, rfl⟩)
  · exact Tr.all_t rfl (Tr.all_t (by decide) (Tr.all_t (by decide) (Tr.all_t (by decide) (Tr.all_ret (.inr ⟨_, _, rfl, .inr (.inl ⟨by decide, rfl⟩), by decide⟩)))))
  · exact Tr.all_t rfl (Tr.all_t (by decide) (Tr.all_t (by decide) (Tr.all_t rfl (Tr.all_ret (.inr ⟨_, _, rfl, .inr (.inr (.inl ⟨by decide, rfl⟩)), by decide⟩)))))
  · exact Tr.all_t rfl (Tr.all_t (by decide) (Tr.all_t (by decide) (Tr.all_t rfl (Tr.all_ret (.inr ⟨_, _, rfl, .inr (.inr (.inr (.inl ⟨by decide, rfl⟩))), by decide⟩)))))
  · exact Tr.all_t rfl (Tr.all_t (by decide) (Tr.all_t (by decide) (Tr.all_t rfl (Tr.all_ret (.inr ⟨_, _, rfl, .inr (.inr (.inr (.inr ⟨by decide, rfl⟩))), by decide⟩)))))
  · exact Tr.all_f rfl (Tr.all_ret (.inl rfl))
def t98f (n : Int) (many : Int) : Tr Res := Tr.br (decide ((0 : Int) ≤ many) && many == many && fits (Int.toNat many) 1) (Tr.br (btC4 n many many (0 : Int) (List.replicate (Int.toNat many) (Ty.dflt (Ty.int IntKind.u8)))) (Tr.ret ([AV.str [UInt8.ofNat (Int.toNat (byN4 n 3)), UInt8.ofNat (Int.toNat (byN4 n 2)), UInt8.ofNat (Int.toNat (byN4 n 1)), UInt8.ofNat (Int.toNat (byN4 n 0))]], [])) Tr.no) Tr.no
def os98f : OSpec := { f := 98, sh := [.d (.int .u32) false, .d (.int .i64) false], so := [], F := fun (n, many, _) _ => t98f n many }
set_option maxRecDepth 1000000 in
theorem fn98f (n : Int) (many : Int) : evC T0 (orcB [] []) (lpOf h98 0 (lsOf [ls98f])) c98 1000000 (startSt [.int .u32 n, .int .i64 many] [] Try.f98.ntmps) (finishK T0 false 0 Try.f98) = (t98f n many).get := by kernel_rfl
theorem ok98f : os98f.Ok Try.prog := by
  refine os_ok mixed0 tab0 (orcB_sound all_nil all_nil) h98 (d := 0) (n0 := 0) (S := lsOf [ls98f]) Try.func98 (by kernel_rfl) (c := c98) (by kernel_rfl) rfl (loops_eq (xs := [(0, b98f)]) (by kernel_rfl) (all_cons (ls_here (loop98f _)) all_nil)) (by omega) (by kernel_rfl) ?_
  intro x'' y'' q'' hq''
  obtain ⟨(n : Int), (many : Int), _⟩ := x''
  exact (fn98f n many).trans hq''
def fs98f : FSpec := fsT 98 [((.int .u32), false), ((.int .i64), false)] [(.str, false)] fun (n, many, _) => t98f n many
theorem okf98f : fs98f.Ok Try.prog := fsT_ok fun x'' r'' hr'' => ok98f x'' () r'' hr''
def t65 (n : Int) : Tr Res := Tr.ret ([AV.str [UInt8.ofNat (Int.toNat (byN4 n 3)), UInt8.ofNat (Int.toNat (byN4 n 2)), UInt8.ofNat (Int.toNat (byN4 n 1)), UInt8.ofNat (Int.toNat (byN4 n 0))]], [])
def os65 : OSpec := { f := 65, sh := [.d (.int .u32) false], so := [], F := fun (n, _) _ => t65 n }
set_option maxRecDepth 1000000 in
theorem fn65 (n : Int) : evC T0 (orcB [fs98f] []) (lpOf h65 0 (lsOf [])) c65 1000000 (startSt [.int .u32 n] [] Try.f65.ntmps) (finishK T0 false 0 Try.f65) = (t65 n).get := by kernel_rfl
theorem ok65 : os65.Ok Try.prog := by
  refine os_ok mixed0 tab0 (orcB_sound (all_cons okf98f all_nil) all_nil) h65 (d := 0) (n0 := 0) (S := lsOf []) Try.func65 (by kernel_rfl) (c := c65) (by kernel_rfl) rfl (no_loops (by kernel_rfl)) (by omega) (by kernel_rfl) ?_
  intro x'' y'' q'' hq''
  obtain ⟨(n : Int), _⟩ := x''
  exact (fn65 n).trans hq''
def fs65 : FSpec := fsT 65 [((.int .u32), false)] [(.str, false)] fun (n, _) => t65 n
theorem okf65 : fs65.Ok Try.prog := fsT_ok fun x'' r'' hr'' => ok65 x'' () r'' hr''
def t69 (n : Int) : Tr Res := Tr.br (n16C (IntKind.wrap IntKind.u16 (IntKind.wrap IntKind.u32 (Int.tdiv n (65536 : Int))))) (Tr.br (n16C (IntKind.wrap IntKind.u16 (Int.tmod n (65536 : Int)))) (Tr.ret ([AV.str [UInt8.ofNat (Int.toNat (IntKind.wrap IntKind.u16 (IntKind.wrap IntKind.u32 (Int.tdiv n (65536 : Int))) / (256 : Int))), UInt8.ofNat (Int.toNat (IntKind.wrap IntKind.u16 (IntKind.wrap IntKind.u32 (Int.tdiv n (65536 : Int))) % (256 : Int))), UInt8.ofNat (Int.toNat (IntKind.wrap IntKind.u16 (Int.tmod n (65536 : Int)) / (256 : Int))), UInt8.ofNat (Int.toNat (IntKind.wrap IntKind.u16 (Int.tmod n (65536 : Int)) % (256 : Int)))]], [])) Tr.no) Tr.no
set_option maxRecDepth 1000000 in
theorem fn69 (n : Int) : evC T0 (orcB [fs64w] []) (lpOf h69 0 (lsOf [])) c69 1000000 (startSt [.int .u32 n] [] Try.f69.ntmps) (finishK T0 false 0 Try.f69) = (t69 n).get := by kernel_rfl
def fs69 : FSpec := fsT 69 [((.int .u32), false)] [(.str, false)] fun (n, _) => t69 n
def put32 (n : Int) : List UInt8 := put16 (n / 65536) ++ put16 (n % 65536)
def n32C (n : Int) : Bool := decide (0 ≤ n) && decide (n ≤ 4294967295)
def fs65w : FSpec := fs65.like fun (n, _) => .on (n32C n) (put32 n, ())
theorem okf65w : fs65w.Ok Try.prog := by
  refine flike_ok okf65 _ ?_
  rintro ⟨(n : Int), _⟩ y h
  obtain ⟨hc, rfl⟩ := Tr.get_on h
  simp only [n32C, Bool.and_eq_true, decide_eq_true_eq] at hc
  refine convR_of (vs := [.str (put32 n)]) rfl rfl (Tr.get_of_all ?_)
  show (t65 n).all _
  unfold t65
  have e : intBytes [byN4 n 3, byN4 n 2, byN4 n 1, byN4 n 0] = put32 n := by
    unfold byN4
    rw [byN4_eq hc.1, byN4_eq hc.1, byN4_eq hc.1, byN4_eq hc.1]
    simp only [IntKind.wrap_u8]
    unfold intBytes put32 put16
    simp only [List.map_cons, List.map_nil, List.cons_append, List.nil_append]
    have e1 : n / 2 ^ (8 * 3) % 256 = n / 65536 / 256 := by
      rw [show (2 : Int) ^ (8 * 3) = 16777216 from rfl]; omega
    have e2 : n / 2 ^ (8 * 2) % 256 = n / 65536 % 256 := by rw [show (2 : Int) ^ (8 * 2) = 65536 from rfl]
    have e3 : n / 2 ^ (8 * 1) % 256 = n % 65536 / 256 := by rw [show (2 : Int) ^ (8 * 1) = 256 from rfl]; omega
    have e4 : n / 2 ^ (8 * 0) % 256 = n % 65536 % 256 := by rw [show (2 : Int) ^ (8 * 0) = 1 from rfl]; omega
    rw [e1, e2, e3, e4]
  refine Tr.all_ret ?_
  rw [← e]
  rfl
def fs69w : FSpec := fs69.like fun (n, _) => .on (n32C n) (put32 n, ())
def t22 (q : QQt) (b : List Int) (m : List (List UInt8 × Int)) : Tr Res := Tr.br (bigS q.1) (Tr.br (!mayV q.1) (Tr.ret ([AV.int IntKind.i64 (1 : Int)], [LObj.boxT none [AV.rowA 1, AV.mp 2], LObj.row (Ty.int IntKind.u8) b, LObj.mpo Ty.str (Ty.int IntKind.i64) m])) (Tr.br (pkC b m && Nat.ble (List.length q.1) 100000000000) (Tr.br (mayV q.1) (Tr.br (n16C q.2.1) (Tr.br (n16C q.2.2) (Tr.br (fits (List.length (bytesInt (Prod.fst (nameP q.1 (intBytes b) m))) + List.length (bytesInt (put16 q.2.1 ++ put16 q.2.2))) 1) (Tr.ret ([AV.int IntKind.i64 (0 : Int)], [LObj.boxT none [AV.rowA 1, AV.mp 2], LObj.row (Ty.int IntKind.u8) (bytesInt (Prod.fst (nameP q.1 (intBytes b) m)) ++ bytesInt (put16 q.2.1 ++ put16 q.2.2)), LObj.mpo Ty.str (Ty.int IntKind.i64) (Prod.snd (nameP q.1 (intBytes b) m))])) Tr.no) Tr.no) Tr.no) (Tr.br (n16C q.2.1) (Tr.br (n16C q.2.2) (Tr.br (fits (List.length b + List.length (bytesInt (put16 q.2.1 ++ put16 q.2.2))) 1) (Tr.ret ([AV.int IntKind.i64 (0 : Int)], [LObj.boxT none [AV.rowA 1, AV.mp 2], LObj.row (Ty.int IntKind.u8) (b ++ bytesInt (put16 q.2.1 ++ put16 q.2.2)), LObj.mpo Ty.str (Ty.int IntKind.i64) m])) Tr.no) Tr.no) Tr.no)) Tr.no)) Tr.no
set_option maxRecDepth 1000000 in
theorem fn22 (q : QQt) (b : List Int) (m : List (List UInt8 × Int)) : evC T0 (orcB [fs31w, fs17w, fs61w] [os59w, os60]) (lpOf h22 3 (lsOf [])) c22 1000000 (startSt [.ptr 0 0, AV.ofTy QQ q true] [.box [.rowA 1, .mp 2], .row (.int .u8) b, .mpo .str (.int .i64) m] Try.f22.ntmps) (finishK T0 false 3 Try.f22) = (t22 q b m).get := by kernel_rfl
def t22z (q : QQt) : Tr Res := Tr.ret ([AV.int IntKind.i64 (1 : Int)], [])
set_option maxRecDepth 1000000 in
theorem fn22z (q : QQt) : evC T0 (orcB [fs31w, fs17w, fs61w] [os59w, os60]) (lpOf h22 0 (lsOf [])) c22 1000000 (startSt [.np, AV.ofTy QQ q true] [] Try.f22.ntmps) (finishK T0 false 0 Try.f22) = (t22z q).get := by kernel_rfl
def t23 (p : (List UInt8 × List (List UInt8 × Int))) (q : QQt) : Tr Res := Tr.br (bigS q.1) (Tr.br (!mayV q.1) (Tr.ret ([AV.agg [AV.str p.1, AV.list (Ty.pair Ty.str (Ty.int IntKind.i64)) p.2], AV.int IntKind.i64 (1 : Int)], [])) (Tr.br (nmOk p q.1) (Tr.br (mayV q.1) (Tr.br (n16C q.2.1) (Tr.br (n16C q.2.2) (Tr.br (Nat.ble (List.length (Prod.fst (nameP q.1 p.1 p.2)) + List.length (put16 q.2.1 ++ put16 q.2.2)) 9223372036854775807) (Tr.ret ([AV.agg [AV.str (Prod.fst (nameP q.1 p.1 p.2) ++ (put16 q.2.1 ++ put16 q.2.2)), AV.list (Ty.pair Ty.str (Ty.int IntKind.i64)) (Prod.snd (nameP q.1 p.1 p.2))], AV.int IntKind.i64 (0 : Int)], [])) Tr.no) Tr.no) Tr.no) (Tr.br (n16C q.2.1) (Tr.br (n16C q.2.2) (Tr.br (Nat.ble (List.length p.1 + List.length (put16 q.2.1 ++ put16 q.2.2)) 9223372036854775807) (Tr.ret ([AV.agg [AV.str (p.1 ++ (put16 q.2.1 ++ put16 q.2.2)), AV.list (Ty.pair Ty.str (Ty.int IntKind.i64)) p.2], AV.int IntKind.i64 (0 : Int)], [])) Tr.no) Tr.no) Tr.no)) Tr.no)) Tr.no
set_option maxRecDepth 1000000 in
theorem fn23 (p : (List UInt8 × List (List UInt8 × Int))) (q : QQt) : evC T0 (orcB [fs32w, fs62w, fs63, fs64w] []) (lpOf h23 0 (lsOf [])) c23 1000000 (startSt [AV.ofTy (.pair .str (.list (.pair .str (.int .i64)))) p true, AV.ofTy QQ q true] [] Try.f23.ntmps) (finishK T0 false 0 Try.f23) = (t23 p q).get := by kernel_rfl
def fs23 : FSpec := fsT 23 [((.pair .str (.list (.pair .str (.int .i64)))), true), (QQ, true)] [((.pair .str (.list (.pair .str (.int .i64)))), true), ((.int .i64), false)] fun (p, q, _) => t23 p q
def qOk (q : QQt) : Bool := Nat.ble q.1.length 1000000 && (n16C q.2.1 && n16C q.2.2)
def qB (q : QQt) : List UInt8 := put16 q.2.1 ++ put16 q.2.2
def putQ (q : QQt) (p : PKt) : PKt := ((nameP q.1 p.1 p.2).1 ++ qB q, (nameP q.1 p.1 p.2).2)
theorem pkT_iff {b : List Int} {m : Known} : pkT b m = true ↔ bytesOk b = true ∧ kOk m = true ∧ b.length ≤ 1000000000 := by
  unfold pkT
  rw [Bool.and_eq_true, Bool.and_eq_true]
  exact ⟨fun ⟨a, b, c⟩ => ⟨a, b, Nat.le_of_ble_eq_true c⟩, fun ⟨a, b, c⟩ => ⟨a, b, Nat.ble_eq_true_of_le c⟩⟩
def fs23w : FSpec := fs23.like fun (p, q, _) => .br (ptOk p q.1 && qOk q) (.br (mayV q.1) (.ret (putQ q p, (0 : Int), ())) (.ret (p, (1 : Int), ()))) .no
def t24 (r : RRt) (b : List Int) (m : List (List UInt8 × Int)) : Tr Res := Tr.br (rrBig r) (Tr.br (!recV r) (Tr.ret ([AV.int IntKind.i64 (1 : Int)], [LObj.boxT none [AV.rowA 1, AV.mp 2], LObj.row (Ty.int IntKind.u8) b, LObj.mpo Ty.str (Ty.int IntKind.i64) m])) (Tr.br (pkC b m && Nat.ble (List.length r.1) 100000000000) (Tr.br (mayV r.1) (Tr.br (n16C r.2.1) (Tr.br (n16C r.2.2.1) (Tr.br (n32C r.2.2.2.1) (Tr.br (fits (List.length (bytesInt (Prod.fst (nameP r.1 (intBytes b) m))) + List.length (bytesInt (put16 r.2.1 ++ put16 r.2.2.1 ++ put32 r.2.2.2.1))) 1) (Tr.br (Nat.ble (List.length (bytesInt (Prod.fst (nameP r.1 (intBytes b) m)) ++ bytesInt (put16 r.2.1 ++ put16 r.2.2.1 ++ put32 r.2.2.2.1))) 100000000000) (Tr.br (pkT (bytesInt (Prod.fst (nameP r.1 (intBytes b) m)) ++ bytesInt (put16 r.2.1 ++ put16 r.2.2.1 ++ put32 r.2.2.2.1) ++ [(0 : Ty.den (Ty.int IntKind.u8)), (0 : Ty.den (Ty.int IntKind.u8))]) (Prod.snd (nameP r.1 (intBytes b) m)) && Nat.ble (List.length r.2.2.2.2) 1000000) (Tr.br (mayR r.2.1 r.2.2.2.2) (Tr.br (Nat.ble (List.length (bytesInt (Prod.fst (putR r.2.1 r.2.2.2.2 (intBytes (bytesInt (Prod.fst (nameP r.1 (intBytes b) m)) ++ bytesInt (put16 r.2.1 ++ put16 r.2.2.1 ++ put32 r.2.2.2.1) ++ [(0 : Ty.den (Ty.int IntKind.u8)), (0 : Ty.den (Ty.int IntKind.u8))]), Prod.snd (nameP r.1 (intBytes b) m)))))) 100000000000) (Tr.br (decide ((2 : Ty.den (Ty.int IntKind.i64)) ≤ (↑(List.length (bytesInt (Prod.fst (nameP r.1 (intBytes b) m)) ++ bytesInt (put16 r.2.1 ++ put16 r.2.2.1 ++ put32 r.2.2.2.1))) : Int) + (2 : Int)) && decide ((↑(List.length (bytesInt (Prod.fst (nameP r.1 (intBytes b) m)) ++ bytesInt (put16 r.2.1 ++ put16 r.2.2.1 ++ put32 r.2.2.2.1))) : Int) + (2 : Int) ≤ (↑(List.length (bytesInt (Prod.fst (putR r.2.1 r.2.2.2.2 (intBytes (bytesInt (Prod.fst (nameP r.1 (intBytes b) m)) ++ bytesInt (put16 r.2.1 ++ put16 r.2.2.1 ++ put32 r.2.2.2.1) ++ [(0 : Ty.den (Ty.int IntKind.u8)), (0 : Ty.den (Ty.int IntKind.u8))]), Prod.snd (nameP r.1 (intBytes b) m)))))) : Int))) (Tr.ret ([AV.int IntKind.i64 (0 : Int)], [LObj.boxT none [AV.rowA 1, AV.mp 2], LObj.row (Ty.int IntKind.u8) (closeB (bytesInt (Prod.fst (putR r.2.1 r.2.2.2.2 (intBytes (bytesInt (Prod.fst (nameP r.1 (intBytes b) m)) ++ bytesInt (put16 r.2.1 ++ put16 r.2.2.1 ++ put32 r.2.2.2.1) ++ [(0 : Ty.den (Ty.int IntKind.u8)), (0 : Ty.den (Ty.int IntKind.u8))]), Prod.snd (nameP r.1 (intBytes b) m))))) ((↑(List.length (bytesInt (Prod.fst (nameP r.1 (intBytes b) m)) ++ bytesInt (put16 r.2.1 ++ put16 r.2.2.1 ++ put32 r.2.2.2.1))) : Int) + (2 : Int))), LObj.mpo Ty.str (Ty.int IntKind.i64) (Prod.snd (putR r.2.1 r.2.2.2.2 (intBytes (bytesInt (Prod.fst (nameP r.1 (intBytes b) m)) ++ bytesInt (put16 r.2.1 ++ put16 r.2.2.1 ++ put32 r.2.2.2.1) ++ [(0 : Ty.den (Ty.int IntKind.u8)), (0 : Ty.den (Ty.int IntKind.u8))]), Prod.snd (nameP r.1 (intBytes b) m))))])) (Tr.ret ([AV.int IntKind.i64 (1 : Int)], [LObj.boxT none [AV.rowA 1, AV.mp 2], LObj.row (Ty.int IntKind.u8) (bytesInt (Prod.fst (putR r.2.1 r.2.2.2.2 (intBytes (bytesInt (Prod.fst (nameP r.1 (intBytes b) m)) ++ bytesInt (put16 r.2.1 ++ put16 r.2.2.1 ++ put32 r.2.2.2.1) ++ [(0 : Ty.den (Ty.int IntKind.u8)), (0 : Ty.den (Ty.int IntKind.u8))]), Prod.snd (nameP r.1 (intBytes b) m))))), LObj.mpo Ty.str (Ty.int IntKind.i64) (Prod.snd (putR r.2.1 r.2.2.2.2 (intBytes (bytesInt (Prod.fst (nameP r.1 (intBytes b) m)) ++ bytesInt (put16 r.2.1 ++ put16 r.2.2.1 ++ put32 r.2.2.2.1) ++ [(0 : Ty.den (Ty.int IntKind.u8)), (0 : Ty.den (Ty.int IntKind.u8))]), Prod.snd (nameP r.1 (intBytes b) m))))]))) Tr.no) (Tr.br (Nat.ble (List.length (bytesInt (Prod.fst (nameP r.1 (intBytes b) m)) ++ bytesInt (put16 r.2.1 ++ put16 r.2.2.1 ++ put32 r.2.2.2.1) ++ [(0 : Ty.den (Ty.int IntKind.u8)), (0 : Ty.den (Ty.int IntKind.u8))])) 100000000000) (Tr.br (decide ((2 : Ty.den (Ty.int IntKind.i64)) ≤ (↑(List.length (bytesInt (Prod.fst (nameP r.1 (intBytes b) m)) ++ bytesInt (put16 r.2.1 ++ put16 r.2.2.1 ++ put32 r.2.2.2.1))) : Int) + (2 : Int)) && decide ((↑(List.length (bytesInt (Prod.fst (nameP r.1 (intBytes b) m)) ++ bytesInt (put16 r.2.1 ++ put16 r.2.2.1 ++ put32 r.2.2.2.1))) : Int) + (2 : Int) ≤ (↑(List.length (bytesInt (Prod.fst (nameP r.1 (intBytes b) m)) ++ bytesInt (put16 r.2.1 ++ put16 r.2.2.1 ++ put32 r.2.2.2.1) ++ [(0 : Ty.den (Ty.int IntKind.u8)), (0 : Ty.den (Ty.int IntKind.u8))])) : Int))) (Tr.ret ([AV.int IntKind.i64 (0 : Int)], [LObj.boxT none [AV.rowA 1, AV.mp 2], LObj.row (Ty.int IntKind.u8) (closeB (bytesInt (Prod.fst (nameP r.1 (intBytes b) m)) ++ bytesInt (put16 r.2.1 ++ put16 r.2.2.1 ++ put32 r.2.2.2.1) ++ [(0 : Ty.den (Ty.int IntKind.u8)), (0 : Ty.den (Ty.int IntKind.u8))]) ((↑(List.length (bytesInt (Prod.fst (nameP r.1 (intBytes b) m)) ++ bytesInt (put16 r.2.1 ++ put16 r.2.2.1 ++ put32 r.2.2.2.1))) : Int) + (2 : Int))), LObj.mpo Ty.str (Ty.int IntKind.i64) (Prod.snd (nameP r.1 (intBytes b) m))])) (Tr.ret ([AV.int IntKind.i64 (1 : Int)], [LObj.boxT none [AV.rowA 1, AV.mp 2], LObj.row (Ty.int IntKind.u8) (bytesInt (Prod.fst (nameP r.1 (intBytes b) m)) ++ bytesInt (put16 r.2.1 ++ put16 r.2.2.1 ++ put32 r.2.2.2.1) ++ [(0 : Ty.den (Ty.int IntKind.u8)), (0 : Ty.den (Ty.int IntKind.u8))]), LObj.mpo Ty.str (Ty.int IntKind.i64) (Prod.snd (nameP r.1 (intBytes b) m))]))) Tr.no)) Tr.no) Tr.no) Tr.no) Tr.no) Tr.no) Tr.no) (Tr.br (n16C r.2.1) (Tr.br (n16C r.2.2.1) (Tr.br (n32C r.2.2.2.1) (Tr.br (fits (List.length b + List.length (bytesInt (put16 r.2.1 ++ put16 r.2.2.1 ++ put32 r.2.2.2.1))) 1) (Tr.br (Nat.ble (List.length (b ++ bytesInt (put16 r.2.1 ++ put16 r.2.2.1 ++ put32 r.2.2.2.1))) 100000000000) (Tr.br (pkT (b ++ bytesInt (put16 r.2.1 ++ put16 r.2.2.1 ++ put32 r.2.2.2.1) ++ [(0 : Ty.den (Ty.int IntKind.u8)), (0 : Ty.den (Ty.int IntKind.u8))]) m && Nat.ble (List.length r.2.2.2.2) 1000000) (Tr.br (mayR r.2.1 r.2.2.2.2) (Tr.br (Nat.ble (List.length (bytesInt (Prod.fst (putR r.2.1 r.2.2.2.2 (intBytes (b ++ bytesInt (put16 r.2.1 ++ put16 r.2.2.1 ++ put32 r.2.2.2.1) ++ [(0 : Ty.den (Ty.int IntKind.u8)), (0 : Ty.den (Ty.int IntKind.u8))]), m))))) 100000000000) (Tr.br (decide ((2 : Ty.den (Ty.int IntKind.i64)) ≤ (↑(List.length (b ++ bytesInt (put16 r.2.1 ++ put16 r.2.2.1 ++ put32 r.2.2.2.1))) : Int) + (2 : Int)) && decide ((↑(List.length (b ++ bytesInt (put16 r.2.1 ++ put16 r.2.2.1 ++ put32 r.2.2.2.1))) : Int) + (2 : Int) ≤ (↑(List.length (bytesInt (Prod.fst (putR r.2.1 r.2.2.2.2 (intBytes (b ++ bytesInt (put16 r.2.1 ++ put16 r.2.2.1 ++ put32 r.2.2.2.1) ++ [(0 : Ty.den (Ty.int IntKind.u8)), (0 : Ty.den (Ty.int IntKind.u8))]), m))))) : Int))) (Tr.ret ([AV.int IntKind.i64 (0 : Int)], [LObj.boxT none [AV.rowA 1, AV.mp 2], LObj.row (Ty.int IntKind.u8) (closeB (bytesInt (Prod.fst (putR r.2.1 r.2.2.2.2 (intBytes (b ++ bytesInt (put16 r.2.1 ++ put16 r.2.2.1 ++ put32 r.2.2.2.1) ++ [(0 : Ty.den (Ty.int IntKind.u8)), (0 : Ty.den (Ty.int IntKind.u8))]), m)))) ((↑(List.length (b ++ bytesInt (put16 r.2.1 ++ put16 r.2.2.1 ++ put32 r.2.2.2.1))) : Int) + (2 : Int))), LObj.mpo Ty.str (Ty.int IntKind.i64) (Prod.snd (putR r.2.1 r.2.2.2.2 (intBytes (b ++ bytesInt (put16 r.2.1 ++ put16 r.2.2.1 ++ put32 r.2.2.2.1) ++ [(0 : Ty.den (Ty.int IntKind.u8)), (0 : Ty.den (Ty.int IntKind.u8))]), m)))])) (Tr.ret ([AV.int IntKind.i64 (1 : Int)], [LObj.boxT none [AV.rowA 1, AV.mp 2], LObj.row (Ty.int IntKind.u8) (bytesInt (Prod.fst (putR r.2.1 r.2.2.2.2 (intBytes (b ++ bytesInt (put16 r.2.1 ++ put16 r.2.2.1 ++ put32 r.2.2.2.1) ++ [(0 : Ty.den (Ty.int IntKind.u8)), (0 : Ty.den (Ty.int IntKind.u8))]), m)))), LObj.mpo Ty.str (Ty.int IntKind.i64) (Prod.snd (putR r.2.1 r.2.2.2.2 (intBytes (b ++ bytesInt (put16 r.2.1 ++ put16 r.2.2.1 ++ put32 r.2.2.2.1) ++ [(0 : Ty.den (Ty.int IntKind.u8)), (0 : Ty.den (Ty.int IntKind.u8))]), m)))]))) Tr.no) (Tr.br (Nat.ble (List.length (b ++ bytesInt (put16 r.2.1 ++ put16 r.2.2.1 ++ put32 r.2.2.2.1) ++ [(0 : Ty.den (Ty.int IntKind.u8)), (0 : Ty.den (Ty.int IntKind.u8))])) 100000000000) (Tr.br (decide ((2 : Ty.den (Ty.int IntKind.i64)) ≤ (↑(List.length (b ++ bytesInt (put16 r.2.1 ++ put16 r.2.2.1 ++ put32 r.2.2.2.1))) : Int) + (2 : Int)) && decide ((↑(List.length (b ++ bytesInt (put16 r.2.1 ++ put16 r.2.2.1 ++ put32 r.2.2.2.1))) : Int) + (2 : Int) ≤ (↑(List.length (b ++ bytesInt (put16 r.2.1 ++ put16 r.2.2.1 ++ put32 r.2.2.2.1) ++ [(0 : Ty.den (Ty.int IntKind.u8)), (0 : Ty.den (Ty.int IntKind.u8))])) : Int))) (Tr.ret ([AV.int IntKind.i64 (0 : Int)], [LObj.boxT none [AV.rowA 1, AV.mp 2], LObj.row (Ty.int IntKind.u8) (closeB (b ++ bytesInt (put16 r.2.1 ++ put16 r.2.2.1 ++ put32 r.2.2.2.1) ++ [(0 : Ty.den (Ty.int IntKind.u8)), (0 : Ty.den (Ty.int IntKind.u8))]) ((↑(List.length (b ++ bytesInt (put16 r.2.1 ++ put16 r.2.2.1 ++ put32 r.2.2.2.1))) : Int) + (2 : Int))), LObj.mpo Ty.str (Ty.int IntKind.i64) m])) (Tr.ret ([AV.int IntKind.i64 (1 : Int)], [LObj.boxT none [AV.rowA 1, AV.mp 2], LObj.row (Ty.int IntKind.u8) (b ++ bytesInt (put16 r.2.1 ++ put16 r.2.2.1 ++ put32 r.2.2.2.1) ++ [(0 : Ty.den (Ty.int IntKind.u8)), (0 : Ty.den (Ty.int IntKind.u8))]), LObj.mpo Ty.str (Ty.int IntKind.i64) m]))) Tr.no)) Tr.no) Tr.no) Tr.no) Tr.no) Tr.no) Tr.no)) Tr.no)) Tr.no
def os24 : OSpec := { f := 24, sh := [.ptr 0 0, .d RR true], so := [.box [.row 1, .mp 2], .row (.int .u8), .map .str (.int .i64)], F := fun (r, _) (_, b, m, _) => t24 r b m }
set_option maxRecDepth 1000000 in
theorem fn24 (r : RRt) (b : List Int) (m : List (List UInt8 × Int)) : evC T0 (orcB [fs17w, fs61w, fs65w] [os59w, os60, os66w, os68w, os67w]) (lpOf h24 3 (lsOf [])) c24 1000000 (startSt [.ptr 0 0, AV.ofTy RR r true] [.box [.rowA 1, .mp 2], .row (.int .u8) b, .mpo .str (.int .i64) m] Try.f24.ntmps) (finishK T0 false 3 Try.f24) = (t24 r b m).get := by kernel_rfl
theorem ok24 : os24.Ok Try.prog := by
  refine os_ok mixed0 tab0 (orcB_sound (all_cons okf17w (all_cons okf61w (all_cons okf65w all_nil))) (all_cons ok59w (all_cons ok60 (all_cons ok66w (all_cons ok68w (all_cons ok67w all_nil)))))) h24 (d := 0) (n0 := 3) (S := lsOf []) Try.func24 (by kernel_rfl) (c := c24) (by kernel_rfl) rfl (no_loops (by kernel_rfl)) (by omega) (by kernel_rfl) ?_
  intro x'' y'' q'' hq''
  obtain ⟨(r : RRt), _⟩ := x''
  obtain ⟨_, (b : List Int), (m : List (List UInt8 × Int)), _⟩ := y''
  exact (fn24 r b m).trans hq''
def t24z (r : RRt) : Tr Res := Tr.ret ([AV.int IntKind.i64 (1 : Int)], [])
set_option maxRecDepth 1000000 in
theorem fn24z (r : RRt) : evC T0 (orcB [fs17w, fs61w, fs65w] [os59w, os60, os66w, os68w, os67w]) (lpOf h24 0 (lsOf [])) c24 1000000 (startSt [.np, AV.ofTy RR r true] [] Try.f24.ntmps) (finishK T0 false 0 Try.f24) = (t24z r).get := by kernel_rfl
def t25 (p : (List UInt8 × List (List UInt8 × Int))) (r : RRt) : Tr Res := Tr.br (rrBig r) (Tr.br (!recV r) (Tr.ret ([AV.agg [AV.str p.1, AV.list (Ty.pair Ty.str (Ty.int IntKind.i64)) p.2], AV.int IntKind.i64 (1 : Int)], [])) (Tr.br (ptOk p r.1 && qOk (r.1, r.2.1, r.2.2.1)) (Tr.br (mayV r.1) (Tr.br (n32C r.2.2.2.1) (Tr.br (Nat.ble (List.length (Prod.fst (putQ (r.1, r.2.1, r.2.2.1) p)) + List.length (put32 r.2.2.2.1 ++ [0, 0])) 9223372036854775807) (Tr.br (ptOk (Prod.fst (putQ (r.1, r.2.1, r.2.2.1) p) ++ (put32 r.2.2.2.1 ++ [0, 0]), Prod.snd (putQ (r.1, r.2.1, r.2.2.1) p)) r.2.2.2.2) (Tr.br (mayR r.2.1 r.2.2.2.2) (Tr.br (decide ((0 : Int) ≤ IntKind.wrap IntKind.i64 ((↑(List.length (Prod.fst (putQ (r.1, r.2.1, r.2.2.1) p) ++ (put32 r.2.2.2.1 ++ [0, 0]))) : Int) - (2 : Int))) && decide (IntKind.wrap IntKind.i64 ((↑(List.length (Prod.fst (putQ (r.1, r.2.1, r.2.2.1) p) ++ (put32 r.2.2.2.1 ++ [0, 0]))) : Int) - (2 : Int)) ≤ (↑(List.length (Prod.fst (putR r.2.1 r.2.2.2.2 (Prod.fst (putQ (r.1, r.2.1, r.2.2.1) p) ++ (put32 r.2.2.2.1 ++ [0, 0]), Prod.snd (putQ (r.1, r.2.1, r.2.2.1) p))))) : Int))) (Tr.br (decide ((0 : Int) ≤ (0 : Int)) && decide ((0 : Int) ≤ IntKind.wrap IntKind.i64 ((↑(List.length (Prod.fst (putQ (r.1, r.2.1, r.2.2.1) p) ++ (put32 r.2.2.2.1 ++ [0, 0]))) : Int) - (2 : Int)))) (Tr.br (n16C (IntKind.wrap IntKind.u16 (IntKind.wrap IntKind.i64 ((↑(List.length (Prod.fst (putR r.2.1 r.2.2.2.2 (Prod.fst (putQ (r.1, r.2.1, r.2.2.1) p) ++ (put32 r.2.2.2.1 ++ [0, 0]), Prod.snd (putQ (r.1, r.2.1, r.2.2.1) p))))) : Int) - (↑(List.length (Prod.fst (putQ (r.1, r.2.1, r.2.2.1) p) ++ (put32 r.2.2.2.1 ++ [0, 0]))) : Int))))) (Tr.br (Nat.ble (List.length (List.take (Int.toNat (IntKind.wrap IntKind.i64 ((↑(List.length (Prod.fst (putQ (r.1, r.2.1, r.2.2.1) p) ++ (put32 r.2.2.2.1 ++ [0, 0]))) : Int) - (2 : Int))) - Int.toNat (0 : Int)) (List.drop (Int.toNat (0 : Int)) (Prod.fst (putR r.2.1 r.2.2.2.2 (Prod.fst (putQ (r.1, r.2.1, r.2.2.1) p) ++ (put32 r.2.2.2.1 ++ [0, 0]), Prod.snd (putQ (r.1, r.2.1, r.2.2.1) p)))))) + List.length (put16 (IntKind.wrap IntKind.u16 (IntKind.wrap IntKind.i64 ((↑(List.length (Prod.fst (putR r.2.1 r.2.2.2.2 (Prod.fst (putQ (r.1, r.2.1, r.2.2.1) p) ++ (put32 r.2.2.2.1 ++ [0, 0]), Prod.snd (putQ (r.1, r.2.1, r.2.2.1) p))))) : Int) - (↑(List.length (Prod.fst (putQ (r.1, r.2.1, r.2.2.1) p) ++ (put32 r.2.2.2.1 ++ [0, 0]))) : Int)))))) 9223372036854775807) (Tr.br (decide ((0 : Int) ≤ (↑(List.length (Prod.fst (putR r.2.1 r.2.2.2.2 (Prod.fst (putQ (r.1, r.2.1, r.2.2.1) p) ++ (put32 r.2.2.2.1 ++ [0, 0]), Prod.snd (putQ (r.1, r.2.1, r.2.2.1) p))))) : Int)) && decide ((↑(List.length (Prod.fst (putR r.2.1 r.2.2.2.2 (Prod.fst (putQ (r.1, r.2.1, r.2.2.1) p) ++ (put32 r.2.2.2.1 ++ [0, 0]), Prod.snd (putQ (r.1, r.2.1, r.2.2.1) p))))) : Int) ≤ (↑(List.length (Prod.fst (putR r.2.1 r.2.2.2.2 (Prod.fst (putQ (r.1, r.2.1, r.2.2.1) p) ++ (put32 r.2.2.2.1 ++ [0, 0]), Prod.snd (putQ (r.1, r.2.1, r.2.2.1) p))))) : Int))) (Tr.br (decide ((0 : Int) ≤ (↑(List.length (Prod.fst (putQ (r.1, r.2.1, r.2.2.1) p) ++ (put32 r.2.2.2.1 ++ [0, 0]))) : Int)) && decide ((↑(List.length (Prod.fst (putQ (r.1, r.2.1, r.2.2.1) p) ++ (put32 r.2.2.2.1 ++ [0, 0]))) : Int) ≤ (↑(List.length (Prod.fst (putR r.2.1 r.2.2.2.2 (Prod.fst (putQ (r.1, r.2.1, r.2.2.1) p) ++ (put32 r.2.2.2.1 ++ [0, 0]), Prod.snd (putQ (r.1, r.2.1, r.2.2.1) p))))) : Int))) (Tr.br (Nat.ble (List.length (List.take (Int.toNat (IntKind.wrap IntKind.i64 ((↑(List.length (Prod.fst (putQ (r.1, r.2.1, r.2.2.1) p) ++ (put32 r.2.2.2.1 ++ [0, 0]))) : Int) - (2 : Int))) - Int.toNat (0 : Int)) (List.drop (Int.toNat (0 : Int)) (Prod.fst (putR r.2.1 r.2.2.2.2 (Prod.fst (putQ (r.1, r.2.1, r.2.2.1) p) ++ (put32 r.2.2.2.1 ++ [0, 0]), Prod.snd (putQ (r.1, r.2.1, r.2.2.1) p))))) ++ put16 (IntKind.wrap IntKind.u16 (IntKind.wrap IntKind.i64 ((↑(List.length (Prod.fst (putR r.2.1 r.2.2.2.2 (Prod.fst (putQ (r.1, r.2.1, r.2.2.1) p) ++ (put32 r.2.2.2.1 ++ [0, 0]), Prod.snd (putQ (r.1, r.2.1, r.2.2.1) p))))) : Int) - (↑(List.length (Prod.fst (putQ (r.1, r.2.1, r.2.2.1) p) ++ (put32 r.2.2.2.1 ++ [0, 0]))) : Int))))) + List.length (List.take (Int.toNat (↑(List.length (Prod.fst (putR r.2.1 r.2.2.2.2 (Prod.fst (putQ (r.1, r.2.1, r.2.2.1) p) ++ (put32 r.2.2.2.1 ++ [0, 0]), Prod.snd (putQ (r.1, r.2.1, r.2.2.1) p))))) : Int) - Int.toNat (↑(List.length (Prod.fst (putQ (r.1, r.2.1, r.2.2.1) p) ++ (put32 r.2.2.2.1 ++ [0, 0]))) : Int)) (List.drop (Int.toNat (↑(List.length (Prod.fst (putQ (r.1, r.2.1, r.2.2.1) p) ++ (put32 r.2.2.2.1 ++ [0, 0]))) : Int)) (Prod.fst (putR r.2.1 r.2.2.2.2 (Prod.fst (putQ (r.1, r.2.1, r.2.2.1) p) ++ (put32 r.2.2.2.1 ++ [0, 0]), Prod.snd (putQ (r.1, r.2.1, r.2.2.1) p))))))) 9223372036854775807) (Tr.ret ([AV.agg [AV.str (List.take (Int.toNat (IntKind.wrap IntKind.i64 ((↑(List.length (Prod.fst (putQ (r.1, r.2.1, r.2.2.1) p) ++ (put32 r.2.2.2.1 ++ [0, 0]))) : Int) - (2 : Int))) - Int.toNat (0 : Int)) (List.drop (Int.toNat (0 : Int)) (Prod.fst (putR r.2.1 r.2.2.2.2 (Prod.fst (putQ (r.1, r.2.1, r.2.2.1) p) ++ (put32 r.2.2.2.1 ++ [0, 0]), Prod.snd (putQ (r.1, r.2.1, r.2.2.1) p))))) ++ put16 (IntKind.wrap IntKind.u16 (IntKind.wrap IntKind.i64 ((↑(List.length (Prod.fst (putR r.2.1 r.2.2.2.2 (Prod.fst (putQ (r.1, r.2.1, r.2.2.1) p) ++ (put32 r.2.2.2.1 ++ [0, 0]), Prod.snd (putQ (r.1, r.2.1, r.2.2.1) p))))) : Int) - (↑(List.length (Prod.fst (putQ (r.1, r.2.1, r.2.2.1) p) ++ (put32 r.2.2.2.1 ++ [0, 0]))) : Int)))) ++ List.take (Int.toNat (↑(List.length (Prod.fst (putR r.2.1 r.2.2.2.2 (Prod.fst (putQ (r.1, r.2.1, r.2.2.1) p) ++ (put32 r.2.2.2.1 ++ [0, 0]), Prod.snd (putQ (r.1, r.2.1, r.2.2.1) p))))) : Int) - Int.toNat (↑(List.length (Prod.fst (putQ (r.1, r.2.1, r.2.2.1) p) ++ (put32 r.2.2.2.1 ++ [0, 0]))) : Int)) (List.drop (Int.toNat (↑(List.length (Prod.fst (putQ (r.1, r.2.1, r.2.2.1) p) ++ (put32 r.2.2.2.1 ++ [0, 0]))) : Int)) (Prod.fst (putR r.2.1 r.2.2.2.2 (Prod.fst (putQ (r.1, r.2.1, r.2.2.1) p) ++ (put32 r.2.2.2.1 ++ [0, 0]), Prod.snd (putQ (r.1, r.2.1, r.2.2.1) p)))))), AV.list (Ty.pair Ty.str (Ty.int IntKind.i64)) (Prod.snd (putR r.2.1 r.2.2.2.2 (Prod.fst (putQ (r.1, r.2.1, r.2.2.1) p) ++ (put32 r.2.2.2.1 ++ [0, 0]), Prod.snd (putQ (r.1, r.2.1, r.2.2.1) p))))], AV.int IntKind.i64 (0 : Int)], [])) Tr.no) Tr.no) Tr.no) Tr.no) Tr.no) Tr.no) Tr.no) (Tr.br (decide ((0 : Int) ≤ IntKind.wrap IntKind.i64 ((↑(List.length (Prod.fst (putQ (r.1, r.2.1, r.2.2.1) p) ++ (put32 r.2.2.2.1 ++ [0, 0]))) : Int) - (2 : Int))) && decide (IntKind.wrap IntKind.i64 ((↑(List.length (Prod.fst (putQ (r.1, r.2.1, r.2.2.1) p) ++ (put32 r.2.2.2.1 ++ [0, 0]))) : Int) - (2 : Int)) ≤ (↑(List.length (Prod.fst (putQ (r.1, r.2.1, r.2.2.1) p) ++ (put32 r.2.2.2.1 ++ [0, 0]))) : Int))) (Tr.br (decide ((0 : Int) ≤ (0 : Int)) && decide ((0 : Int) ≤ IntKind.wrap IntKind.i64 ((↑(List.length (Prod.fst (putQ (r.1, r.2.1, r.2.2.1) p) ++ (put32 r.2.2.2.1 ++ [0, 0]))) : Int) - (2 : Int)))) (Tr.br (n16C (IntKind.wrap IntKind.u16 (IntKind.wrap IntKind.i64 ((↑(List.length (Prod.fst (putQ (r.1, r.2.1, r.2.2.1) p) ++ (put32 r.2.2.2.1 ++ [0, 0]))) : Int) - (↑(List.length (Prod.fst (putQ (r.1, r.2.1, r.2.2.1) p) ++ (put32 r.2.2.2.1 ++ [0, 0]))) : Int))))) (Tr.br (Nat.ble (List.length (List.take (Int.toNat (IntKind.wrap IntKind.i64 ((↑(List.length (Prod.fst (putQ (r.1, r.2.1, r.2.2.1) p) ++ (put32 r.2.2.2.1 ++ [0, 0]))) : Int) - (2 : Int))) - Int.toNat (0 : Int)) (List.drop (Int.toNat (0 : Int)) (Prod.fst (putQ (r.1, r.2.1, r.2.2.1) p) ++ (put32 r.2.2.2.1 ++ [0, 0])))) + List.length (put16 (IntKind.wrap IntKind.u16 (IntKind.wrap IntKind.i64 ((↑(List.length (Prod.fst (putQ (r.1, r.2.1, r.2.2.1) p) ++ (put32 r.2.2.2.1 ++ [0, 0]))) : Int) - (↑(List.length (Prod.fst (putQ (r.1, r.2.1, r.2.2.1) p) ++ (put32 r.2.2.2.1 ++ [0, 0]))) : Int)))))) 9223372036854775807) (Tr.br (decide ((0 : Int) ≤ (↑(List.length (Prod.fst (putQ (r.1, r.2.1, r.2.2.1) p) ++ (put32 r.2.2.2.1 ++ [0, 0]))) : Int)) && decide ((↑(List.length (Prod.fst (putQ (r.1, r.2.1, r.2.2.1) p) ++ (put32 r.2.2.2.1 ++ [0, 0]))) : Int) ≤ (↑(List.length (Prod.fst (putQ (r.1, r.2.1, r.2.2.1) p) ++ (put32 r.2.2.2.1 ++ [0, 0]))) : Int))) (Tr.br (decide ((0 : Int) ≤ (↑(List.length (Prod.fst (putQ (r.1, r.2.1, r.2.2.1) p) ++ (put32 r.2.2.2.1 ++ [0, 0]))) : Int)) && decide ((↑(List.length (Prod.fst (putQ (r.1, r.2.1, r.2.2.1) p) ++ (put32 r.2.2.2.1 ++ [0, 0]))) : Int) ≤ (↑(List.length (Prod.fst (putQ (r.1, r.2.1, r.2.2.1) p) ++ (put32 r.2.2.2.1 ++ [0, 0]))) : Int))) (Tr.br (Nat.ble (List.length (List.take (Int.toNat (IntKind.wrap IntKind.i64 ((↑(List.length (Prod.fst (putQ (r.1, r.2.1, r.2.2.1) p) ++ (put32 r.2.2.2.1 ++ [0, 0]))) : Int) - (2 : Int))) - Int.toNat (0 : Int)) (List.drop (Int.toNat (0 : Int)) (Prod.fst (putQ (r.1, r.2.1, r.2.2.1) p) ++ (put32 r.2.2.2.1 ++ [0, 0]))) ++ put16 (IntKind.wrap IntKind.u16 (IntKind.wrap IntKind.i64 ((↑(List.length (Prod.fst (putQ (r.1, r.2.1, r.2.2.1) p) ++ (put32 r.2.2.2.1 ++ [0, 0]))) : Int) - (↑(List.length (Prod.fst (putQ (r.1, r.2.1, r.2.2.1) p) ++ (put32 r.2.2.2.1 ++ [0, 0]))) : Int))))) + List.length (List.take (Int.toNat (↑(List.length (Prod.fst (putQ (r.1, r.2.1, r.2.2.1) p) ++ (put32 r.2.2.2.1 ++ [0, 0]))) : Int) - Int.toNat (↑(List.length (Prod.fst (putQ (r.1, r.2.1, r.2.2.1) p) ++ (put32 r.2.2.2.1 ++ [0, 0]))) : Int)) (List.drop (Int.toNat (↑(List.length (Prod.fst (putQ (r.1, r.2.1, r.2.2.1) p) ++ (put32 r.2.2.2.1 ++ [0, 0]))) : Int)) (Prod.fst (putQ (r.1, r.2.1, r.2.2.1) p) ++ (put32 r.2.2.2.1 ++ [0, 0]))))) 9223372036854775807) (Tr.ret ([AV.agg [AV.str (List.take (Int.toNat (IntKind.wrap IntKind.i64 ((↑(List.length (Prod.fst (putQ (r.1, r.2.1, r.2.2.1) p) ++ (put32 r.2.2.2.1 ++ [0, 0]))) : Int) - (2 : Int))) - Int.toNat (0 : Int)) (List.drop (Int.toNat (0 : Int)) (Prod.fst (putQ (r.1, r.2.1, r.2.2.1) p) ++ (put32 r.2.2.2.1 ++ [0, 0]))) ++ put16 (IntKind.wrap IntKind.u16 (IntKind.wrap IntKind.i64 ((↑(List.length (Prod.fst (putQ (r.1, r.2.1, r.2.2.1) p) ++ (put32 r.2.2.2.1 ++ [0, 0]))) : Int) - (↑(List.length (Prod.fst (putQ (r.1, r.2.1, r.2.2.1) p) ++ (put32 r.2.2.2.1 ++ [0, 0]))) : Int)))) ++ List.take (Int.toNat (↑(List.length (Prod.fst (putQ (r.1, r.2.1, r.2.2.1) p) ++ (put32 r.2.2.2.1 ++ [0, 0]))) : Int) - Int.toNat (↑(List.length (Prod.fst (putQ (r.1, r.2.1, r.2.2.1) p) ++ (put32 r.2.2.2.1 ++ [0, 0]))) : Int)) (List.drop (Int.toNat (↑(List.length (Prod.fst (putQ (r.1, r.2.1, r.2.2.1) p) ++ (put32 r.2.2.2.1 ++ [0, 0]))) : Int)) (Prod.fst (putQ (r.1, r.2.1, r.2.2.1) p) ++ (put32 r.2.2.2.1 ++ [0, 0])))), AV.list (Ty.pair Ty.str (Ty.int IntKind.i64)) (Prod.snd (putQ (r.1, r.2.1, r.2.2.1) p))], AV.int IntKind.i64 (0 : Int)], [])) Tr.no) Tr.no) Tr.no) Tr.no) Tr.no) Tr.no) Tr.no)) Tr.no) Tr.no) Tr.no) (Tr.br (n32C r.2.2.2.1) (Tr.br (Nat.ble (List.length p.1 + List.length (put32 r.2.2.2.1 ++ [0, 0])) 9223372036854775807) (Tr.br (ptOk (p.1 ++ (put32 r.2.2.2.1 ++ [0, 0]), p.2) r.2.2.2.2) (Tr.br (mayR r.2.1 r.2.2.2.2) (Tr.br (decide ((0 : Int) ≤ IntKind.wrap IntKind.i64 ((↑(List.length (p.1 ++ (put32 r.2.2.2.1 ++ [0, 0]))) : Int) - (2 : Int))) && decide (IntKind.wrap IntKind.i64 ((↑(List.length (p.1 ++ (put32 r.2.2.2.1 ++ [0, 0]))) : Int) - (2 : Int)) ≤ (↑(List.length (Prod.fst (putR r.2.1 r.2.2.2.2 (p.1 ++ (put32 r.2.2.2.1 ++ [0, 0]), p.2)))) : Int))) (Tr.br (decide ((0 : Int) ≤ (0 : Int)) && decide ((0 : Int) ≤ IntKind.wrap IntKind.i64 ((↑(List.length (p.1 ++ (put32 r.2.2.2.1 ++ [0, 0]))) : Int) - (2 : Int)))) (Tr.br (n16C (IntKind.wrap IntKind.u16 (IntKind.wrap IntKind.i64 ((↑(List.length (Prod.fst (putR r.2.1 r.2.2.2.2 (p.1 ++ (put32 r.2.2.2.1 ++ [0, 0]), p.2)))) : Int) - (↑(List.length (p.1 ++ (put32 r.2.2.2.1 ++ [0, 0]))) : Int))))) (Tr.br (Nat.ble (List.length (List.take (Int.toNat (IntKind.wrap IntKind.i64 ((↑(List.length (p.1 ++ (put32 r.2.2.2.1 ++ [0, 0]))) : Int) - (2 : Int))) - Int.toNat (0 : Int)) (List.drop (Int.toNat (0 : Int)) (Prod.fst (putR r.2.1 r.2.2.2.2 (p.1 ++ (put32 r.2.2.2.1 ++ [0, 0]), p.2))))) + List.length (put16 (IntKind.wrap IntKind.u16 (IntKind.wrap IntKind.i64 ((↑(List.length (Prod.fst (putR r.2.1 r.2.2.2.2 (p.1 ++ (put32 r.2.2.2.1 ++ [0, 0]), p.2)))) : Int) - (↑(List.length (p.1 ++ (put32 r.2.2.2.1 ++ [0, 0]))) : Int)))))) 9223372036854775807) (Tr.br (decide ((0 : Int) ≤ (↑(List.length (Prod.fst (putR r.2.1 r.2.2.2.2 (p.1 ++ (put32 r.2.2.2.1 ++ [0, 0]), p.2)))) : Int)) && decide ((↑(List.length (Prod.fst (putR r.2.1 r.2.2.2.2 (p.1 ++ (put32 r.2.2.2.1 ++ [0, 0]), p.2)))) : Int) ≤ (↑(List.length (Prod.fst (putR r.2.1 r.2.2.2.2 (p.1 ++ (put32 r.2.2.2.1 ++ [0, 0]), p.2)))) : Int))) (Tr.br (decide ((0 : Int) ≤ (↑(List.length (p.1 ++ (put32 r.2.2.2.1 ++ [0, 0]))) : Int)) && decide ((↑(List.length (p.1 ++ (put32 r.2.2.2.1 ++ [0, 0]))) : Int) ≤ (↑(List.length (Prod.fst (putR r.2.1 r.2.2.2.2 (p.1 ++ (put32 r.2.2.2.1 ++ [0, 0]), p.2)))) : Int))) (Tr.br (Nat.ble (List.length (List.take (Int.toNat (IntKind.wrap IntKind.i64 ((↑(List.length (p.1 ++ (put32 r.2.2.2.1 ++ [0, 0]))) : Int) - (2 : Int))) - Int.toNat (0 : Int)) (List.drop (Int.toNat (0 : Int)) (Prod.fst (putR r.2.1 r.2.2.2.2 (p.1 ++ (put32 r.2.2.2.1 ++ [0, 0]), p.2)))) ++ put16 (IntKind.wrap IntKind.u16 (IntKind.wrap IntKind.i64 ((↑(List.length (Prod.fst (putR r.2.1 r.2.2.2.2 (p.1 ++ (put32 r.2.2.2.1 ++ [0, 0]), p.2)))) : Int) - (↑(List.length (p.1 ++ (put32 r.2.2.2.1 ++ [0, 0]))) : Int))))) + List.length (List.take (Int.toNat (↑(List.length (Prod.fst (putR r.2.1 r.2.2.2.2 (p.1 ++ (put32 r.2.2.2.1 ++ [0, 0]), p.2)))) : Int) - Int.toNat (↑(List.length (p.1 ++ (put32 r.2.2.2.1 ++ [0, 0]))) : Int)) (List.drop (Int.toNat (↑(List.length (p.1 ++ (put32 r.2.2.2.1 ++ [0, 0]))) : Int)) (Prod.fst (putR r.2.1 r.2.2.2.2 (p.1 ++ (put32 r.2.2.2.1 ++ [0, 0]), p.2)))))) 9223372036854775807) (Tr.ret ([AV.agg [AV.str (List.take (Int.toNat (IntKind.wrap IntKind.i64 ((↑(List.length (p.1 ++ (put32 r.2.2.2.1 ++ [0, 0]))) : Int) - (2 : Int))) - Int.toNat (0 : Int)) (List.drop (Int.toNat (0 : Int)) (Prod.fst (putR r.2.1 r.2.2.2.2 (p.1 ++ (put32 r.2.2.2.1 ++ [0, 0]), p.2)))) ++ put16 (IntKind.wrap IntKind.u16 (IntKind.wrap IntKind.i64 ((↑(List.length (Prod.fst (putR r.2.1 r.2.2.2.2 (p.1 ++ (put32 r.2.2.2.1 ++ [0, 0]), p.2)))) : Int) - (↑(List.length (p.1 ++ (put32 r.2.2.2.1 ++ [0, 0]))) : Int)))) ++ List.take (Int.toNat (↑(List.length (Prod.fst (putR r.2.1 r.2.2.2.2 (p.1 ++ (put32 r.2.2.2.1 ++ [0, 0]), p.2)))) : Int) - Int.toNat (↑(List.length (p.1 ++ (put32 r.2.2.2.1 ++ [0, 0]))) : Int)) (List.drop (Int.toNat (↑(List.length (p.1 ++ (put32 r.2.2.2.1 ++ [0, 0]))) : Int)) (Prod.fst (putR r.2.1 r.2.2.2.2 (p.1 ++ (put32 r.2.2.2.1 ++ [0, 0]), p.2))))), AV.list (Ty.pair Ty.str (Ty.int IntKind.i64)) (Prod.snd (putR r.2.1 r.2.2.2.2 (p.1 ++ (put32 r.2.2.2.1 ++ [0, 0]), p.2)))], AV.int IntKind.i64 (0 : Int)], [])) Tr.no) Tr.no) Tr.no) Tr.no) Tr.no) Tr.no) Tr.no) (Tr.br (decide ((0 : Int) ≤ IntKind.wrap IntKind.i64 ((↑(List.length (p.1 ++ (put32 r.2.2.2.1 ++ [0, 0]))) : Int) - (2 : Int))) && decide (IntKind.wrap IntKind.i64 ((↑(List.length (p.1 ++ (put32 r.2.2.2.1 ++ [0, 0]))) : Int) - (2 : Int)) ≤ (↑(List.length (p.1 ++ (put32 r.2.2.2.1 ++ [0, 0]))) : Int))) (Tr.br (decide ((0 : Int) ≤ (0 : Int)) && decide ((0 : Int) ≤ IntKind.wrap IntKind.i64 ((↑(List.length (p.1 ++ (put32 r.2.2.2.1 ++ [0, 0]))) : Int) - (2 : Int)))) (Tr.br (n16C (IntKind.wrap IntKind.u16 (IntKind.wrap IntKind.i64 ((↑(List.length (p.1 ++ (put32 r.2.2.2.1 ++ [0, 0]))) : Int) - (↑(List.length (p.1 ++ (put32 r.2.2.2.1 ++ [0, 0]))) : Int))))) (Tr.br (Nat.ble (List.length (List.take (Int.toNat (IntKind.wrap IntKind.i64 ((↑(List.length (p.1 ++ (put32 r.2.2.2.1 ++ [0, 0]))) : Int) - (2 : Int))) - Int.toNat (0 : Int)) (List.drop (Int.toNat (0 : Int)) (p.1 ++ (put32 r.2.2.2.1 ++ [0, 0])))) + List.length (put16 (IntKind.wrap IntKind.u16 (IntKind.wrap IntKind.i64 ((↑(List.length (p.1 ++ (put32 r.2.2.2.1 ++ [0, 0]))) : Int) - (↑(List.length (p.1 ++ (put32 r.2.2.2.1 ++ [0, 0]))) : Int)))))) 9223372036854775807) (Tr.br (decide ((0 : Int) ≤ (↑(List.length (p.1 ++ (put32 r.2.2.2.1 ++ [0, 0]))) : Int)) && decide ((↑(List.length (p.1 ++ (put32 r.2.2.2.1 ++ [0, 0]))) : Int) ≤ (↑(List.length (p.1 ++ (put32 r.2.2.2.1 ++ [0, 0]))) : Int))) (Tr.br (decide ((0 : Int) ≤ (↑(List.length (p.1 ++ (put32 r.2.2.2.1 ++ [0, 0]))) : Int)) && decide ((↑(List.length (p.1 ++ (put32 r.2.2.2.1 ++ [0, 0]))) : Int) ≤ (↑(List.length (p.1 ++ (put32 r.2.2.2.1 ++ [0, 0]))) : Int))) (Tr.br (Nat.ble (List.length (List.take (Int.toNat (IntKind.wrap IntKind.i64 ((↑(List.length (p.1 ++ (put32 r.2.2.2.1 ++ [0, 0]))) : Int) - (2 : Int))) - Int.toNat (0 : Int)) (List.drop (Int.toNat (0 : Int)) (p.1 ++ (put32 r.2.2.2.1 ++ [0, 0]))) ++ put16 (IntKind.wrap IntKind.u16 (IntKind.wrap IntKind.i64 ((↑(List.length (p.1 ++ (put32 r.2.2.2.1 ++ [0, 0]))) : Int) - (↑(List.length (p.1 ++ (put32 r.2.2.2.1 ++ [0, 0]))) : Int))))) + List.length (List.take (Int.toNat (↑(List.length (p.1 ++ (put32 r.2.2.2.1 ++ [0, 0]))) : Int) - Int.toNat (↑(List.length (p.1 ++ (put32 r.2.2.2.1 ++ [0, 0]))) : Int)) (List.drop (Int.toNat (↑(List.length (p.1 ++ (put32 r.2.2.2.1 ++ [0, 0]))) : Int)) (p.1 ++ (put32 r.2.2.2.1 ++ [0, 0]))))) 9223372036854775807) (Tr.ret ([AV.agg [AV.str (List.take (Int.toNat (IntKind.wrap IntKind.i64 ((↑(List.length (p.1 ++ (put32 r.2.2.2.1 ++ [0, 0]))) : Int) - (2 : Int))) - Int.toNat (0 : Int)) (List.drop (Int.toNat (0 : Int)) (p.1 ++ (put32 r.2.2.2.1 ++ [0, 0]))) ++ put16 (IntKind.wrap IntKind.u16 (IntKind.wrap IntKind.i64 ((↑(List.length (p.1 ++ (put32 r.2.2.2.1 ++ [0, 0]))) : Int) - (↑(List.length (p.1 ++ (put32 r.2.2.2.1 ++ [0, 0]))) : Int)))) ++ List.take (Int.toNat (↑(List.length (p.1 ++ (put32 r.2.2.2.1 ++ [0, 0]))) : Int) - Int.toNat (↑(List.length (p.1 ++ (put32 r.2.2.2.1 ++ [0, 0]))) : Int)) (List.drop (Int.toNat (↑(List.length (p.1 ++ (put32 r.2.2.2.1 ++ [0, 0]))) : Int)) (p.1 ++ (put32 r.2.2.2.1 ++ [0, 0])))), AV.list (Ty.pair Ty.str (Ty.int IntKind.i64)) p.2], AV.int IntKind.i64 (0 : Int)], [])) Tr.no) Tr.no) Tr.no) Tr.no) Tr.no) Tr.no) Tr.no)) Tr.no) Tr.no) Tr.no)) Tr.no)) Tr.no
set_option maxRecDepth 1000000 in
theorem fn25 (p : (List UInt8 × List (List UInt8 × Int))) (r : RRt) : evC T0 (orcB [fs30w, fs23w, fs63, fs69w, fs70w, fs64w] []) (lpOf h25 0 (lsOf [])) c25 1000000 (startSt [AV.ofTy (.pair .str (.list (.pair .str (.int .i64)))) p true, AV.ofTy RR r true] [] Try.f25.ntmps) (finishK T0 false 0 Try.f25) = (t25 p r).get := by kernel_rfl
end Go.Proofs.YtlkpiegllammdaaE
namespace Go.Proofs.YtlkpiegllammdaaE
open Go Go.Proofs.YtlkpiegllammdaaB
set_option linter.unusedVariables false
set_option linter.unusedSimpArgs false
set_option maxRecDepth 100000
def rOk (r : RRt) : Bool := Nat.ble r.1.length 1000000 && (n16C r.2.1 && (n16C r.2.2.1 && (n32C r.2.2.2.1 && Nat.ble r.2.2.2.2.length 1000000)))
def pkS (b : List Int) (m : Known) : Bool := bytesOk b && (kOk m && Nat.ble b.length 900000000)
def hdR (r : RRt) : List UInt8 := put16 r.2.1 ++ put16 r.2.2.1 ++ put32 r.2.2.2.1
def S1R (r : RRt) (p : PKt) : List UInt8 := (nameP r.1 p.1 p.2).1 ++ hdR r ++ [0, 0]
def p2R (r : RRt) (p : PKt) : PKt := putR r.2.1 r.2.2.2.2 (S1R r p, (nameP r.1 p.1 p.2).2)
def clV (S : List UInt8) (a : Nat) : List UInt8 := S.take (a - 2) ++ put16 (((S.length : Int) - a) % 65536) ++ S.drop a
def recP (r : RRt) (p : PKt) : PKt := (clV (p2R r p).1 (S1R r p).length, (p2R r p).2)
theorem rOk_iff {r : RRt} : rOk r = true ↔ r.1.length ≤ 1000000 ∧ n16C r.2.1 = true ∧ n16C r.2.2.1 = true ∧ n32C r.2.2.2.1 = true ∧ r.2.2.2.2.length ≤ 1000000 := by
  unfold rOk
  rw [Bool.and_eq_true, Bool.and_eq_true, Bool.and_eq_true, Bool.and_eq_true]
  exact ⟨fun ⟨a, b, c, d, e⟩ => ⟨Nat.le_of_ble_eq_true a, b, c, d, Nat.le_of_ble_eq_true e⟩, fun ⟨a, b, c, d, e⟩ => ⟨Nat.ble_eq_true_of_le a, b, c, d, Nat.ble_eq_true_of_le e⟩⟩
theorem pkS_iff {b : List Int} {m : Known} : pkS b m = true ↔ bytesOk b = true ∧ kOk m = true ∧ b.length ≤ 900000000 := by
  unfold pkS
  rw [Bool.and_eq_true, Bool.and_eq_true]
  exact ⟨fun ⟨a, b, c⟩ => ⟨a, b, Nat.le_of_ble_eq_true c⟩, fun ⟨a, b, c⟩ => ⟨a, b, Nat.ble_eq_true_of_le c⟩⟩
theorem hdR_len (r : RRt) : (hdR r).length = 8 := rfl
theorem S1R_len (r : RRt) (p : PKt) : (S1R r p).length = (nameP r.1 p.1 p.2).1.length + 10 := by
  unfold S1R
  rw [List.length_append, List.length_append, hdR_len]
  rfl
theorem bytesInt_take (s : List UInt8) (n : Nat) : (bytesInt s).take n = bytesInt (s.take n) := by simp [bytesInt]
theorem bytesInt_drop (s : List UInt8) (n : Nat) : (bytesInt s).drop n = bytesInt (s.drop n) := by simp [bytesInt]
theorem closeB_bytes (S : List UInt8) (a : Nat) : closeB (bytesInt S) ((a : Int) + 2) = bytesInt (clV S (a + 2)) := by
  unfold closeB clV
  rw [bytesInt_len, bytesInt_take, bytesInt_drop, bytesInt_app, bytesInt_app, show ((a : Int) + 2 - 2).toNat = a + 2 - 2 by omega, show ((a : Int) + 2).toNat = a + 2 by omega, Int.natCast_add]
  rfl
theorem putS_ge : ∀ (ps : List Int) (ls : List (List UInt8)) (p : PKt), p.1.length ≤ (putS ps ls p).1.length
  | [], _, p => Nat.le_refl _
  | x :: ps, ls, p => by
    rw [putS]
    cases hx : x == -1 with
    | true =>
      have q2 := putS_ge ps ls.tail (stN p (ls.headD [], false))
      rw [cond_true]
      have k2 : p.1.length ≤ (stN p (ls.headD [], false)).1.length := by
        show p.1.length ≤ (bif mayV (ls.headD []) then nameP (ls.headD []) p.1 p.2 else p).1.length
        cases hm : mayV (ls.headD []) with
        | false => exact Nat.le_refl _
        | true =>
          rw [cond_true]
          obtain ⟨_, l2, _⟩ := nameL_len _ (ls.headD []) p.1 p.2 rfl (may_iff.1 hm).1
          omega
      omega
    | false =>
      have q2 : (p.1 ++ ls.headD []).length ≤ (putS ps ls.tail (p.1 ++ ls.headD [], p.2)).1.length := putS_ge ps ls.tail (p.1 ++ ls.headD [], p.2)
      rw [List.length_append] at q2
      rw [cond_false]
      omega
theorem putR_ge (k : Int) (d : List UInt8) (p : PKt) : p.1.length ≤ (putR k d p).1.length := putS_ge _ _ _
theorem recP_facts {r : RRt} {p : PKt} (hk : kOk p.2 = true) (hm : recV r = true) : kOk (nameP r.1 p.1 p.2).2 = true ∧ (nameP r.1 p.1 p.2).1.length ≤ p.1.length + r.1.length ∧ (nameP r.1 p.1 p.2).2.length ≤ p.2.length + r.1.length ∧ kOk (p2R r p).2 = true ∧ (S1R r p).length ≤ (p2R r p).1.length ∧ (p2R r p).1.length ≤ (S1R r p).length + r.2.2.2.2.length ∧ (p2R r p).2.length ≤ (nameP r.1 p.1 p.2).2.length + r.2.2.2.2.length := by
  obtain ⟨m1, m2⟩ := Bool.and_eq_true_iff.1 (show (mayV r.1 && mayR r.2.1 r.2.2.2.2) = true from hm)
  obtain ⟨a1, a2, a3⟩ := nameP_k (p := p) m1 hk
  obtain ⟨b1, b2, b3⟩ := putR_len (p := (S1R r p, (nameP r.1 p.1 p.2).2)) m2 a1
  exact ⟨a1, a2, a3, b1, putR_ge r.2.1 r.2.2.2.2 (S1R r p, (nameP r.1 p.1 p.2).2), b2, b3⟩
def os24w : OSpec := os24.like fun (r, _) (_, b, m, _) => .br (pkS b m && rOk r) (.br (recV r) (.ret ([.int .i64 0], pkO (bytesInt (recP r (intBytes b, m)).1) (recP r (intBytes b, m)).2)) (.ret ([.int .i64 1], pkO b m))) .no
theorem ok24w : os24w.Ok Try.prog := by
  refine like_ok ok24 _ ?_
  rintro ⟨(r : RRt), _⟩ ⟨_, (b : List Int), (m : Known), _⟩ y h
  simp only [Tr.get] at h
  cases hc : pkS b m && rOk r with
  | false => rw [hc] at h; cases h
  | true =>
    rw [hc, cond_true] at h
    obtain ⟨h1, h2⟩ := Bool.and_eq_true_iff.1 hc
    obtain ⟨b1, b2, b3⟩ := pkS_iff.1 h1
    obtain ⟨r1, r2, r3, r4, r5⟩ := rOk_iff.1 h2
    have hbig : rrBig r = true := by unfold rrBig; rw [len_big (show r.1.length ≤ _ by omega), len_big (show r.2.2.2.2.length ≤ _ by omega)]; rfl
    refine Tr.get_of_all ?_
    show (t24 r b m).all _
    unfold t24
    cases hm : recV r with
    | false =>
      rw [hm, cond_false] at h
      cases h
      exact Tr.all_t hbig (Tr.all_t rfl (Tr.all_ret rfl))
    | true =>
      rw [hm, cond_true] at h
      cases h
      obtain ⟨m1, m2⟩ := Bool.and_eq_true_iff.1 (show (mayV r.1 && mayR r.2.1 r.2.2.2.2) = true from hm)
      obtain ⟨a1, a2, a3, a4, a5, a6, a7⟩ := recP_facts (p := (intBytes b, m)) b2 hm
      have hl := intB_len b
      have hs1 := S1R_len r (intBytes b, m)
      have hz : [(0 : Ty.den (Ty.int IntKind.u8)), (0 : Ty.den (Ty.int IntKind.u8))] = bytesInt [0, 0] := rfl
      have hS : (nameP r.1 (intBytes b) m).1 ++ (put16 r.2.1 ++ put16 r.2.2.1 ++ put32 r.2.2.2.1) ++ [0, 0] = S1R r (intBytes b, m) := rfl
      have hp2 : putR r.2.1 r.2.2.2.2 (S1R r (intBytes b, m), (nameP r.1 (intBytes b) m).2) = p2R r (intBytes b, m) := rfl
      have hhl : (put16 r.2.1 ++ put16 r.2.2.1 ++ put32 r.2.2.2.1).length = 8 := rfl
      simp only [hz, ← bytesInt_app, intB_bytes, bytesInt_len, hS, hp2, List.length_append, hhl]
      simp only at a1 a2 a3 hs1
      have hk1 : pkC b m = true := by unfold pkC; rw [b1, b2, Nat.ble_eq_true_of_le (by omega)]; rfl
      refine Tr.all_t hbig (Tr.all_f rfl (Tr.all_t (by rw [hk1, Nat.ble_eq_true_of_le (by omega)]; rfl) (Tr.all_t m1 (Tr.all_t r2 (Tr.all_t r3 (Tr.all_t r4 (Tr.all_t (fits_true (by omega) (by omega)) (Tr.all_t (Nat.ble_eq_true_of_le (by omega)) (Tr.all_t ?_ (Tr.all_t m2 (Tr.all_t (Nat.ble_eq_true_of_le (by omega)) (Tr.all_t ?_ (Tr.all_ret ?_)))))))))))))
      · rw [pkT_iff.2 ⟨bytesInt_ok _, a1, by rw [bytesInt_len]; omega⟩, Nat.ble_eq_true_of_le r5]
        rfl
      · have h3 : (2 : Int) ≤ (((nameP r.1 (intBytes b) m).1.length + 8 : Nat) : Int) + 2 := by omega
        have h4 : (((nameP r.1 (intBytes b) m).1.length + 8 : Nat) : Int) + 2 ≤ ((p2R r (intBytes b, m)).1.length : Int) := by omega
        exact Bool.and_eq_true_iff.2 ⟨decide_eq_true h3, decide_eq_true h4⟩
      · have hcl := closeB_bytes (p2R r (intBytes b, m)).1 ((nameP r.1 (intBytes b) m).1.length + 8)
        rw [hcl, show (nameP r.1 (intBytes b) m).1.length + 8 + 2 = (S1R r (intBytes b, m)).length by omega]
        rfl
def t89 (s : List UInt8) (at_ : Int) (bad : Bool) : Tr Res := Tr.br (bigS s) (Tr.br bad (Tr.ret ([AV.str (tkS (takeG s at_ at_ (-1 : Int) []))], [LObj.boxT none [AV.str s, AV.int IntKind.i64 (tkN (takeG s at_ at_ (-1 : Int) [])), AV.bool true]])) (Tr.ret ([AV.str (tkS (takeG s at_ at_ (-1 : Int) []))], [LObj.boxT none [AV.str s, AV.int IntKind.i64 (tkN (takeG s at_ at_ (-1 : Int) [])), AV.bool (tkE (takeG s at_ at_ (-1 : Int) []) != (0 : Int))]]))) Tr.no
def os89 : OSpec := { f := 89, sh := [.ptr 0 0, .fnp 90 []], so := [.box [.d .str false, .d (.int .i64) false, .d .bool false]], F := fun _ ((s, at_, bad, _), _) => t89 s at_ bad }
set_option maxRecDepth 1000000 in
theorem fn89 (s : List UInt8) (at_ : Int) (bad : Bool) : evC T0 (orcB [fs90w, fs55w, fs53w] []) (lpOf h89 1 (lsOf [])) c89 1000000 (startSt [.ptr 0 0, .fn 90 []] [.box [.str s, .int .i64 at_, .bool bad]] Try.f89.ntmps) (finishK T0 false 1 Try.f89) = (t89 s at_ bad).get := by kernel_rfl
theorem ok89 : os89.Ok Try.prog := by
  refine os_ok mixed0 tab0 (orcB_sound (all_cons okf90w (all_cons okf55w (all_cons okf53w all_nil))) all_nil) h89 (d := 0) (n0 := 1) (S := lsOf []) Try.func89 (by kernel_rfl) (c := c89) (by kernel_rfl) rfl (no_loops (by kernel_rfl)) (by omega) (by kernel_rfl) ?_
  intro x'' y'' q'' hq''
  obtain ⟨⟨(s : List UInt8), (at_ : Int), (bad : Bool), _⟩, _⟩ := y''
  exact (fn89 s at_ bad).trans hq''
def t54 (s : List UInt8) (at_ : Int) (bad : Bool) : Tr Res := Tr.br (bigS s) (Tr.br (someB s at_ (2 : Int)) (Tr.br bad (Tr.ret ([AV.int IntKind.u16 (n16 s at_)], [LObj.boxT none [AV.str s, AV.int IntKind.i64 (at_ + (2 : Ty.den (Ty.int IntKind.i64))), AV.bool true]])) (Tr.ret ([AV.int IntKind.u16 (n16 s at_)], [LObj.boxT none [AV.str s, AV.int IntKind.i64 (at_ + (2 : Ty.den (Ty.int IntKind.i64))), AV.bool ((0 : Int) != (0 : Int))]]))) (Tr.br bad (Tr.ret ([AV.int IntKind.u16 (0 : Int)], [LObj.boxT none [AV.str s, AV.int IntKind.i64 (0 : Int), AV.bool true]])) (Tr.ret ([AV.int IntKind.u16 (0 : Int)], [LObj.boxT none [AV.str s, AV.int IntKind.i64 (0 : Int), AV.bool ((2 : Int) != (0 : Int))]])))) Tr.no
def os54 : OSpec := { f := 54, sh := [.ptr 0 0, .fnp 55 []], so := [.box [.d .str false, .d (.int .i64) false, .d .bool false]], F := fun _ ((s, at_, bad, _), _) => t54 s at_ bad }
set_option maxRecDepth 1000000 in
theorem fn54 (s : List UInt8) (at_ : Int) (bad : Bool) : evC T0 (orcB [fs90w, fs55w, fs53w] []) (lpOf h54 1 (lsOf [])) c54 1000000 (startSt [.ptr 0 0, .fn 55 []] [.box [.str s, .int .i64 at_, .bool bad]] Try.f54.ntmps) (finishK T0 false 1 Try.f54) = (t54 s at_ bad).get := by kernel_rfl
theorem ok54 : os54.Ok Try.prog := by
  refine os_ok mixed0 tab0 (orcB_sound (all_cons okf90w (all_cons okf55w (all_cons okf53w all_nil))) all_nil) h54 (d := 0) (n0 := 1) (S := lsOf []) Try.func54 (by kernel_rfl) (c := c54) (by kernel_rfl) rfl (no_loops (by kernel_rfl)) (by omega) (by kernel_rfl) ?_
  intro x'' y'' q'' hq''
  obtain ⟨⟨(s : List UInt8), (at_ : Int), (bad : Bool), _⟩, _⟩ := y''
  exact (fn54 s at_ bad).trans hq''
def t52 (s : List UInt8) (at_ : Int) (bad : Bool) : Tr Res := Tr.br (bigS s) (Tr.br (someB s at_ (4 : Int)) (Tr.br bad (Tr.ret ([AV.int IntKind.u32 (n32 s at_)], [LObj.boxT none [AV.str s, AV.int IntKind.i64 (at_ + (4 : Ty.den (Ty.int IntKind.i64))), AV.bool true]])) (Tr.ret ([AV.int IntKind.u32 (n32 s at_)], [LObj.boxT none [AV.str s, AV.int IntKind.i64 (at_ + (4 : Ty.den (Ty.int IntKind.i64))), AV.bool ((0 : Int) != (0 : Int))]]))) (Tr.br bad (Tr.ret ([AV.int IntKind.u32 (0 : Int)], [LObj.boxT none [AV.str s, AV.int IntKind.i64 (0 : Int), AV.bool true]])) (Tr.ret ([AV.int IntKind.u32 (0 : Int)], [LObj.boxT none [AV.str s, AV.int IntKind.i64 (0 : Int), AV.bool ((2 : Int) != (0 : Int))]])))) Tr.no
def os52 : OSpec := { f := 52, sh := [.ptr 0 0, .fnp 53 []], so := [.box [.d .str false, .d (.int .i64) false, .d .bool false]], F := fun _ ((s, at_, bad, _), _) => t52 s at_ bad }
set_option maxRecDepth 1000000 in
theorem fn52 (s : List UInt8) (at_ : Int) (bad : Bool) : evC T0 (orcB [fs90w, fs55w, fs53w] []) (lpOf h52 1 (lsOf [])) c52 1000000 (startSt [.ptr 0 0, .fn 53 []] [.box [.str s, .int .i64 at_, .bool bad]] Try.f52.ntmps) (finishK T0 false 1 Try.f52) = (t52 s at_ bad).get := by kernel_rfl
theorem ok52 : os52.Ok Try.prog := by
  refine os_ok mixed0 tab0 (orcB_sound (all_cons okf90w (all_cons okf55w (all_cons okf53w all_nil))) all_nil) h52 (d := 0) (n0 := 1) (S := lsOf []) Try.func52 (by kernel_rfl) (c := c52) (by kernel_rfl) rfl (no_loops (by kernel_rfl)) (by omega) (by kernel_rfl) ?_
  intro x'' y'' q'' hq''
  obtain ⟨⟨(s : List UInt8), (at_ : Int), (bad : Bool), _⟩, _⟩ := y''
  exact (fn52 s at_ bad).trans hq''
end Go.Proofs.YtlkpiegllammdaaE
namespace Go.Proofs.YtlkpiegllammdaaE
open Go Go.Proofs.YtlkpiegllammdaaB
set_option linter.unusedVariables false
set_option linter.unusedSimpArgs false
set_option maxRecDepth 100000
abbrev tk0 (s : List UInt8) (a : Int) : Option (List UInt8 × Int) := takeG s a a (-1) []
def vn16 (s : List UInt8) (a : Int) : Int := bif someB s a 2 then n16 s a else 0
def xn16 (s : List UInt8) (a : Int) : Int := bif someB s a 2 then a + 2 else 0
def vn32 (s : List UInt8) (a : Int) : Int := bif someB s a 4 then n32 s a else 0
def xn32 (s : List UInt8) (a : Int) : Int := bif someB s a 4 then a + 4 else 0
def rdB (s : List UInt8) (a : Int) (bad : Bool) : LObj := .boxT none [.str s, .int .i64 a, .bool bad]
def os89w : OSpec := os89.like fun _ ((s, at_, bad, _), _) => .on (bigS s) ([.str (tkS (tk0 s at_))], [rdB s (tkN (tk0 s at_)) (bad || tkE (tk0 s at_) != 0)])
theorem ok89w : os89w.Ok Try.prog := by
  refine like_ok ok89 _ ?_
  rintro _ ⟨⟨(s : List UInt8), (at_ : Int), (bad : Bool), _⟩, _⟩ y h
  obtain ⟨hb, rfl⟩ := Tr.get_on h
  refine Tr.get_of_all ?_
  show (t89 s at_ bad).all _
  exact Tr.all_t hb (Tr.all_br (fun h => Tr.all_ret (by rw [h]; rfl)) fun h => Tr.all_ret (by rw [h]; rfl))
def os54w : OSpec := os54.like fun _ ((s, at_, bad, _), _) => .on (bigS s) ([.int .u16 (vn16 s at_)], [rdB s (xn16 s at_) (bad || !someB s at_ 2)])
theorem ok54w : os54w.Ok Try.prog := by
  refine like_ok ok54 _ ?_
  rintro _ ⟨⟨(s : List UInt8), (at_ : Int), (bad : Bool), _⟩, _⟩ y h
  obtain ⟨hb, rfl⟩ := Tr.get_on h
  refine Tr.get_of_all ?_
  show (t54 s at_ bad).all _
  unfold t54 vn16 xn16
  exact Tr.all_t hb (Tr.all_br (fun h => Tr.all_br (fun h2 => Tr.all_ret (by rw [h, h2]; rfl)) fun h2 => Tr.all_ret (by rw [h, h2]; rfl)) fun h => Tr.all_br (fun h2 => Tr.all_ret (by rw [h, h2]; rfl)) fun h2 => Tr.all_ret (by rw [h, h2]; rfl))
def os52w : OSpec := os52.like fun _ ((s, at_, bad, _), _) => .on (bigS s) ([.int .u32 (vn32 s at_)], [rdB s (xn32 s at_) (bad || !someB s at_ 4)])
theorem ok52w : os52w.Ok Try.prog := by
  refine like_ok ok52 _ ?_
  rintro _ ⟨⟨(s : List UInt8), (at_ : Int), (bad : Bool), _⟩, _⟩ y h
  obtain ⟨hb, rfl⟩ := Tr.get_on h
  refine Tr.get_of_all ?_
  show (t52 s at_ bad).all _
  unfold t52 vn32 xn32
  exact Tr.all_t hb (Tr.all_br (fun h => Tr.all_br (fun h2 => Tr.all_ret (by rw [h, h2]; rfl)) fun h2 => Tr.all_ret (by rw [h, h2]; rfl)) fun h => Tr.all_br (fun h2 => Tr.all_ret (by rw [h, h2]; rfl)) fun h2 => Tr.all_ret (by rw [h, h2]; rfl))
def t51 (s : List UInt8) (at_ : Int) (bad : Bool) : Tr Res := Tr.br (bigS s) (Tr.br (bigS s) (Tr.br (bigS s) (Tr.ret ([AV.agg [AV.str (tkS (tk0 s at_)), AV.int IntKind.u16 (vn16 s (tkN (tk0 s at_))), AV.int IntKind.u16 (vn16 s (xn16 s (tkN (tk0 s at_))))]], [LObj.boxT none [AV.str s, AV.int IntKind.i64 (xn16 s (xn16 s (tkN (tk0 s at_)))), AV.bool (bad || tkE (tk0 s at_) != (0 : Int) || !someB s (tkN (tk0 s at_)) (2 : Int) || !someB s (xn16 s (tkN (tk0 s at_))) (2 : Int))]])) Tr.no) Tr.no) Tr.no
def os51 : OSpec := { f := 51, sh := [.ptr 0 0], so := [.box [.d .str false, .d (.int .i64) false, .d .bool false]], F := fun _ ((s, at_, bad, _), _) => t51 s at_ bad }
set_option maxRecDepth 1000000 in
theorem fn51 (s : List UInt8) (at_ : Int) (bad : Bool) : evC T0 (orcB [] [os89w, os54w, os52w]) (lpOf h51 1 (lsOf [])) c51 1000000 (startSt [.ptr 0 0] [.box [.str s, .int .i64 at_, .bool bad]] Try.f51.ntmps) (finishK T0 false 1 Try.f51) = (t51 s at_ bad).get := by kernel_rfl
theorem ok51 : os51.Ok Try.prog := by
  refine os_ok mixed0 tab0 (orcB_sound all_nil (all_cons ok89w (all_cons ok54w (all_cons ok52w all_nil)))) h51 (d := 0) (n0 := 1) (S := lsOf []) Try.func51 (by kernel_rfl) (c := c51) (by kernel_rfl) rfl (no_loops (by kernel_rfl)) (by omega) (by kernel_rfl) ?_
  intro x'' y'' q'' hq''
  obtain ⟨⟨(s : List UInt8), (at_ : Int), (bad : Bool), _⟩, _⟩ := y''
  exact (fn51 s at_ bad).trans hq''
def t28 (s : List UInt8) (at_ : Int) : Tr Res := Tr.br (bigS s) (Tr.br (bigS s) (Tr.br (bigS s) (Tr.br (false || tkE (tk0 s at_) != (0 : Int) || !someB s (tkN (tk0 s at_)) (2 : Int) || !someB s (xn16 s (tkN (tk0 s at_))) (2 : Int)) (Tr.ret ([AV.agg [AV.str [], AV.int IntKind.u16 (0 : Int), AV.int IntKind.u16 (0 : Int)], AV.int IntKind.i64 (0 : Int), AV.int IntKind.i64 (2 : Int)], [])) (Tr.ret ([AV.agg [AV.str (tkS (tk0 s at_)), AV.int IntKind.u16 (vn16 s (tkN (tk0 s at_))), AV.int IntKind.u16 (vn16 s (xn16 s (tkN (tk0 s at_))))], AV.int IntKind.i64 (xn16 s (xn16 s (tkN (tk0 s at_)))), AV.int IntKind.i64 (0 : Int)], []))) Tr.no) Tr.no) Tr.no
def os28 : OSpec := { f := 28, sh := [.d .str false, .d (.int .i64) false], so := [], F := fun (s, at_, _) _ => t28 s at_ }
set_option maxRecDepth 1000000 in
theorem fn28 (s : List UInt8) (at_ : Int) : evC T0 (orcB [fs56w] [os89w, os54w, os52w, os51]) (lpOf h28 0 (lsOf [])) c28 1000000 (startSt [.str s, .int .i64 at_] [] Try.f28.ntmps) (finishK T0 false 0 Try.f28) = (t28 s at_).get := by kernel_rfl
theorem ok28 : os28.Ok Try.prog := by
  refine os_ok mixed0 tab0 (orcB_sound (all_cons okf56w all_nil) (all_cons ok89w (all_cons ok54w (all_cons ok52w (all_cons ok51 all_nil))))) h28 (d := 0) (n0 := 0) (S := lsOf []) Try.func28 (by kernel_rfl) (c := c28) (by kernel_rfl) rfl (no_loops (by kernel_rfl)) (by omega) (by kernel_rfl) ?_
  intro x'' y'' q'' hq''
  obtain ⟨(s : List UInt8), (at_ : Int), _⟩ := x''
  exact (fn28 s at_).trans hq''
def fs28 : FSpec := fsT 28 [(.str, false), ((.int .i64), false)] [(QQ, true), ((.int .i64), false), ((.int .i64), false)] fun (s, at_, _) => t28 s at_
theorem okf28 : fs28.Ok Try.prog := fsT_ok fun x'' r'' hr'' => ok28 x'' () r'' hr''
def t16 (s : List UInt8) (at_ : Int) : Tr Res := Tr.br (bigS s) (Tr.br (bigS s) (Tr.br (bigS s) (Tr.br (bigS s) (Tr.br (bigS s) (Tr.br (false || tkE (tk0 s at_) != (0 : Int) || !someB s (tkN (tk0 s at_)) (2 : Int) || !someB s (xn16 s (tkN (tk0 s at_))) (2 : Int) || !someB s (xn16 s (xn16 s (tkN (tk0 s at_)))) (4 : Int) || !someB s (xn32 s (xn16 s (xn16 s (tkN (tk0 s at_))))) (2 : Int)) (Tr.ret ([AV.agg [AV.str [], AV.int IntKind.u16 (0 : Int), AV.int IntKind.u16 (0 : Int), AV.int IntKind.u32 (0 : Int), AV.str []], AV.int IntKind.i64 (0 : Int), AV.int IntKind.i64 (2 : Int)], [])) (Tr.br (smS s) (Tr.br ((if Option.isSome (takeV s (xn16 s (xn32 s (xn16 s (xn16 s (tkN (tk0 s at_)))))) (IntKind.wrap IntKind.i64 (vn16 s (xn32 s (xn16 s (xn16 s (tkN (tk0 s at_))))))) (vn16 s (tkN (tk0 s at_)))) = true then (0 : Int) else (2 : Ty.den (Ty.int IntKind.i64))) != (0 : Int)) (Tr.ret ([AV.agg [AV.str [], AV.int IntKind.u16 (0 : Int), AV.int IntKind.u16 (0 : Int), AV.int IntKind.u32 (0 : Int), AV.str []], AV.int IntKind.i64 (0 : Int), AV.int IntKind.i64 (if Option.isSome (takeV s (xn16 s (xn32 s (xn16 s (xn16 s (tkN (tk0 s at_)))))) (IntKind.wrap IntKind.i64 (vn16 s (xn32 s (xn16 s (xn16 s (tkN (tk0 s at_))))))) (vn16 s (tkN (tk0 s at_)))) = true then (0 : Int) else (2 : Ty.den (Ty.int IntKind.i64)))], [])) (Tr.ret ([AV.agg [AV.str (tkS (tk0 s at_)), AV.int IntKind.u16 (vn16 s (tkN (tk0 s at_))), AV.int IntKind.u16 (vn16 s (xn16 s (tkN (tk0 s at_)))), AV.int IntKind.u32 (vn32 s (xn16 s (xn16 s (tkN (tk0 s at_))))), AV.str (Option.getD (takeV s (xn16 s (xn32 s (xn16 s (xn16 s (tkN (tk0 s at_)))))) (IntKind.wrap IntKind.i64 (vn16 s (xn32 s (xn16 s (xn16 s (tkN (tk0 s at_))))))) (vn16 s (tkN (tk0 s at_)))) [])], AV.int IntKind.i64 (IntKind.wrap IntKind.i64 (xn16 s (xn32 s (xn16 s (xn16 s (tkN (tk0 s at_))))) + IntKind.wrap IntKind.i64 (vn16 s (xn32 s (xn16 s (xn16 s (tkN (tk0 s at_)))))))), AV.int IntKind.i64 (0 : Int)], []))) Tr.no)) Tr.no) Tr.no) Tr.no) Tr.no) Tr.no
def os16 : OSpec := { f := 16, sh := [.d .str false, .d (.int .i64) false], so := [], F := fun (s, at_, _) _ => t16 s at_ }
set_option maxRecDepth 1000000 in
theorem fn16 (s : List UInt8) (at_ : Int) : evC T0 (orcB [fs56w] [os89w, os54w, os52w, os51]) (lpOf h16 0 (lsOf [])) c16 1000000 (startSt [.str s, .int .i64 at_] [] Try.f16.ntmps) (finishK T0 false 0 Try.f16) = (t16 s at_).get := by kernel_rfl
theorem ok16 : os16.Ok Try.prog := by
  refine os_ok mixed0 tab0 (orcB_sound (all_cons okf56w all_nil) (all_cons ok89w (all_cons ok54w (all_cons ok52w (all_cons ok51 all_nil))))) h16 (d := 0) (n0 := 0) (S := lsOf []) Try.func16 (by kernel_rfl) (c := c16) (by kernel_rfl) rfl (no_loops (by kernel_rfl)) (by omega) (by kernel_rfl) ?_
  intro x'' y'' q'' hq''
  obtain ⟨(s : List UInt8), (at_ : Int), _⟩ := x''
  exact (fn16 s at_).trans hq''
def fs16 : FSpec := fsT 16 [(.str, false), ((.int .i64), false)] [(RR, true), ((.int .i64), false), ((.int .i64), false)] fun (s, at_, _) => t16 s at_
theorem okf16 : fs16.Ok Try.prog := fsT_ok fun x'' r'' hr'' => ok16 x'' () r'' hr''
def t29 (s : List UInt8) (at_ : Int) : Tr Res := Tr.br (bigS s) (Tr.br (tkE (takeG s at_ at_ (-1 : Int) []) != (0 : Int)) (Tr.ret ([AV.agg [AV.str [], AV.int IntKind.u16 (0 : Int), AV.int IntKind.u16 (0 : Int)], AV.int IntKind.i64 (0 : Int), AV.int IntKind.i64 (2 : Int)], [])) (Tr.br (bigS s) (Tr.br (someB s (tkN (takeG s at_ at_ (-1 : Int) [])) (2 : Int)) (Tr.br (bigS s) (Tr.br (someB s (tkN (takeG s at_ at_ (-1 : Int) []) + (2 : Ty.den (Ty.int IntKind.i64))) (2 : Int)) (Tr.ret ([AV.agg [AV.str (tkS (takeG s at_ at_ (-1 : Int) [])), AV.int IntKind.u16 (n16 s (tkN (takeG s at_ at_ (-1 : Int) []))), AV.int IntKind.u16 (n16 s (tkN (takeG s at_ at_ (-1 : Int) []) + (2 : Ty.den (Ty.int IntKind.i64))))], AV.int IntKind.i64 (tkN (takeG s at_ at_ (-1 : Int) []) + (2 : Ty.den (Ty.int IntKind.i64)) + (2 : Ty.den (Ty.int IntKind.i64))), AV.int IntKind.i64 (0 : Int)], [])) (Tr.ret ([AV.agg [AV.str [], AV.int IntKind.u16 (0 : Int), AV.int IntKind.u16 (0 : Int)], AV.int IntKind.i64 (0 : Int), AV.int IntKind.i64 (2 : Int)], []))) Tr.no) (Tr.br (bigS s) (Tr.br (someB s (0 : Int) (2 : Int)) (Tr.ret ([AV.agg [AV.str [], AV.int IntKind.u16 (0 : Int), AV.int IntKind.u16 (0 : Int)], AV.int IntKind.i64 (0 : Int), AV.int IntKind.i64 (2 : Int)], [])) (Tr.ret ([AV.agg [AV.str [], AV.int IntKind.u16 (0 : Int), AV.int IntKind.u16 (0 : Int)], AV.int IntKind.i64 (0 : Int), AV.int IntKind.i64 (2 : Int)], []))) Tr.no)) Tr.no)) Tr.no
def os29 : OSpec := { f := 29, sh := [.d .str false, .d (.int .i64) false], so := [], F := fun (s, at_, _) _ => t29 s at_ }
set_option maxRecDepth 1000000 in
theorem fn29 (s : List UInt8) (at_ : Int) : evC T0 (orcB [fs74w, fs72w] []) (lpOf h29 0 (lsOf [])) c29 1000000 (startSt [.str s, .int .i64 at_] [] Try.f29.ntmps) (finishK T0 false 0 Try.f29) = (t29 s at_).get := by kernel_rfl
theorem ok29 : os29.Ok Try.prog := by
  refine os_ok mixed0 tab0 (orcB_sound (all_cons okf74w (all_cons okf72w all_nil)) all_nil) h29 (d := 0) (n0 := 0) (S := lsOf []) Try.func29 (by kernel_rfl) (c := c29) (by kernel_rfl) rfl (no_loops (by kernel_rfl)) (by omega) (by kernel_rfl) ?_
  intro x'' y'' q'' hq''
  obtain ⟨(s : List UInt8), (at_ : Int), _⟩ := x''
  exact (fn29 s at_).trans hq''
def fs29 : FSpec := fsT 29 [(.str, false), ((.int .i64), false)] [(QQ, true), ((.int .i64), false), ((.int .i64), false)] fun (s, at_, _) => t29 s at_
theorem okf29 : fs29.Ok Try.prog := fsT_ok fun x'' r'' hr'' => ok29 x'' () r'' hr''
theorem some_iff {s : List UInt8} {a n : Int} : someB s a n = true ↔ 0 ≤ a ∧ 0 ≤ n ∧ a + n ≤ s.length := by
  unfold someB
  rw [Bool.and_eq_true, Bool.and_eq_true, decide_eq_true_eq, decide_eq_true_eq, decide_eq_true_eq]
theorem some_not {s : List UInt8} {a n : Int} (h : ¬ (0 ≤ a ∧ 0 ≤ n ∧ a + n ≤ s.length)) : someB s a n = false := by
  cases hb : someB s a n
  · rfl
  · exact absurd (some_iff.1 hb) h
def tkQ (s : List UInt8) (a : Int) : Option (QQt × Int) := match tk0 s a with
  | none => none
  | some p => if someB s p.2 4 = true then some ((p.1, n16 s p.2, n16 s (p.2 + 2)), p.2 + 4) else none
def tkR (s : List UInt8) (a : Int) : Option (RRt × Int) := match tkQ s a with
  | none => none
  | some p => if someB s p.2 6 = true then (match takeV s (p.2 + 6) (n16 s (p.2 + 4)) p.1.2.1 with
    | some d => some ((p.1.1, p.1.2.1, p.1.2.2, n32 s p.2, d), p.2 + 6 + n16 s (p.2 + 4))
    | none => none) else none
def oQ : Option (QQt × Int) → QQt × (Int × Int)
  | some p => (p.1, p.2, 0)
  | none => (([], 0, 0), 0, 2)
def oR : Option (RRt × Int) → RRt × (Int × Int)
  | some p => (p.1, p.2, 0)
  | none => (([], 0, 0, 0, []), 0, 2)
def qqA (q : QQt) : AV := .agg [.str q.1, .int .u16 q.2.1, .int .u16 q.2.2]
def rrA (r : RRt) : AV := .agg [.str r.1, .int .u16 r.2.1, .int .u16 r.2.2.1, .int .u32 r.2.2.2.1, .str r.2.2.2.2]
theorem takeQ_all (s : List UInt8) (a : Int) (hb : bigS s = true) : Tr.all (fun r : Res => r = ([qqA (oQ (tkQ s a)).1, .int .i64 (oQ (tkQ s a)).2.1, .int .i64 (oQ (tkQ s a)).2.2], [])) (t28 s a) := by
  unfold t28 tkQ
  refine Tr.all_t hb (Tr.all_t hb (Tr.all_t hb ?_))
  cases ht : tk0 s a with
  | none => exact Tr.all_t rfl (Tr.all_ret rfl)
  | some p =>
    obtain ⟨n, e⟩ := p
    simp only [tkN, tkS, tkE]
    by_cases h : 0 ≤ e ∧ e + 4 ≤ s.length
    · have h1 : someB s e 2 = true := some_iff.2 ⟨by omega, by omega, by omega⟩
      have h2 : someB s (e + 2) 2 = true := some_iff.2 ⟨by omega, by omega, by omega⟩
      have h4 : someB s e 4 = true := some_iff.2 ⟨by omega, by omega, by omega⟩
      have e1 : xn16 s e = e + 2 := by unfold xn16; rw [h1]; rfl
      have e2 : xn16 s (e + 2) = e + 4 := by unfold xn16; rw [h2, cond_true]; omega
      have e3 : vn16 s e = n16 s e := by unfold vn16; rw [h1]; rfl
      have e4 : vn16 s (e + 2) = n16 s (e + 2) := by unfold vn16; rw [h2]; rfl
      simp only [e1, e2, e3, e4, h1, h2]
      rw [if_pos h4]
      exact Tr.all_f rfl (Tr.all_ret rfl)
    · have h4 : ¬ someB s e 4 = true := fun hh => by have := some_iff.1 hh; exact h ⟨this.1, this.2.2⟩
      rw [if_neg h4]
      refine Tr.all_t ?_ (Tr.all_ret rfl)
      cases h1 : someB s e 2 with
      | false => simp
      | true =>
        have e1 : xn16 s e = e + 2 := by unfold xn16; rw [h1]; rfl
        have := some_iff.1 h1
        rw [e1, some_not (by omega)]
        simp
def fs28w : FSpec := fs28.like fun (s, a, _) => .on (bigS s) ((oQ (tkQ s a)).1, (oQ (tkQ s a)).2.1, (oQ (tkQ s a)).2.2, ())
theorem okf28w : fs28w.Ok Try.prog := by
  refine flike_ok okf28 _ ?_
  rintro ⟨(s : List UInt8), (a : Int), _⟩ y h
  obtain ⟨hb, rfl⟩ := Tr.get_on h
  exact convR_of (vs := [qqA (oQ (tkQ s a)).1, .int .i64 (oQ (tkQ s a)).2.1, .int .i64 (oQ (tkQ s a)).2.2]) rfl rfl (Tr.get_of_all (takeQ_all s a hb))
theorem refTakeQ_all (s : List UInt8) (a : Int) (hb : bigS s = true) : Tr.all (fun r : Res => r = ([qqA (oQ (tkQ s a)).1, .int .i64 (oQ (tkQ s a)).2.1, .int .i64 (oQ (tkQ s a)).2.2], [])) (t29 s a) := by
  unfold t29 tkQ tk0
  refine Tr.all_t hb ?_
  cases ht : takeG s a a (-1) [] with
  | none => exact Tr.all_t rfl (Tr.all_ret rfl)
  | some p =>
    obtain ⟨n, e⟩ := p
    simp only [tkN, tkS, tkE]
    refine Tr.all_f rfl (Tr.all_t hb ?_)
    by_cases h : 0 ≤ e ∧ e + 4 ≤ s.length
    · have h1 : someB s e 2 = true := some_iff.2 ⟨by omega, by omega, by omega⟩
      have h2 : someB s (e + 2) 2 = true := some_iff.2 ⟨by omega, by omega, by omega⟩
      have h4 : someB s e 4 = true := some_iff.2 ⟨by omega, by omega, by omega⟩
      rw [if_pos h4]
      refine Tr.all_t h1 (Tr.all_t hb (Tr.all_t h2 (Tr.all_ret ?_)))
      have e4 : e + 2 + 2 = e + 4 := by omega
      show ([qqA (n, n16 s e, n16 s (e + 2)), AV.int .i64 (e + 2 + 2), AV.int .i64 0], ([] : List LObj)) = _
      rw [e4]
      rfl
    · have h4 : ¬ someB s e 4 = true := fun hh => by have := some_iff.1 hh; exact h ⟨this.1, this.2.2⟩
      rw [if_neg h4]
      cases h1 : someB s e 2 with
      | false => exact Tr.all_f rfl (Tr.all_t hb (Tr.all_br (fun _ => Tr.all_ret rfl) fun _ => Tr.all_ret rfl))
      | true =>
        have := some_iff.1 h1
        exact Tr.all_t rfl (Tr.all_t hb (Tr.all_f (some_not (s := s) (a := e + 2) (by omega)) (Tr.all_ret rfl)))
def fs29w : FSpec := fs29.like fun (s, a, _) => .on (bigS s) ((oQ (tkQ s a)).1, (oQ (tkQ s a)).2.1, (oQ (tkQ s a)).2.2, ())
theorem okf29w : fs29w.Ok Try.prog := by
  refine flike_ok okf29 _ ?_
  rintro ⟨(s : List UInt8), (a : Int), _⟩ y h
  obtain ⟨hb, rfl⟩ := Tr.get_on h
  exact convR_of (vs := [qqA (oQ (tkQ s a)).1, .int .i64 (oQ (tkQ s a)).2.1, .int .i64 (oQ (tkQ s a)).2.2]) rfl rfl (Tr.get_of_all (refTakeQ_all s a hb))
theorem sm_big {s : List UInt8} (h : smS s = true) : bigS s = true := by
  simp only [smS, decide_eq_true_eq] at h
  exact len_big (by omega)
theorem n16_wrap (s : List UInt8) (a : Int) : IntKind.wrap IntKind.i64 (n16 s a) = n16 s a := by
  have := n16_le s a
  exact IntWalk.i64_in _ (by omega)
theorem takeR_all (s : List UInt8) (a : Int) (hs : smS s = true) : Tr.all (fun r : Res => r = ([rrA (oR (tkR s a)).1, .int .i64 (oR (tkR s a)).2.1, .int .i64 (oR (tkR s a)).2.2], [])) (t16 s a) := by
  have hb := sm_big hs
  have hlen : s.length ≤ 100000000 := by simpa [smS] using hs
  unfold t16 tkR tkQ
  refine Tr.all_t hb (Tr.all_t hb (Tr.all_t hb (Tr.all_t hb (Tr.all_t hb ?_))))
  cases ht : tk0 s a with
  | none => exact Tr.all_t rfl (Tr.all_ret rfl)
  | some p =>
    obtain ⟨n, e⟩ := p
    rw [show tkN (some (n, e)) = e from rfl, show tkS (some (n, e)) = n from rfl, show tkE (some (n, e)) = 0 from rfl]
    by_cases h : 0 ≤ e ∧ e + 10 ≤ s.length
    · have h1 : someB s e 2 = true := some_iff.2 ⟨by omega, by omega, by omega⟩
      have h2 : someB s (e + 2) 2 = true := some_iff.2 ⟨by omega, by omega, by omega⟩
      have h4 : someB s e 4 = true := some_iff.2 ⟨by omega, by omega, by omega⟩
      have h5 : someB s (e + 4) 4 = true := some_iff.2 ⟨by omega, by omega, by omega⟩
      have h6 : someB s (e + 8) 2 = true := some_iff.2 ⟨by omega, by omega, by omega⟩
      have h7 : someB s (e + 4) 6 = true := some_iff.2 ⟨by omega, by omega, by omega⟩
      have e1 : xn16 s e = e + 2 := by unfold xn16; rw [h1]; rfl
      have e2 : xn16 s (e + 2) = e + 4 := by unfold xn16; rw [h2, cond_true]; omega
      have e3 : vn16 s e = n16 s e := by unfold vn16; rw [h1]; rfl
      have e4 : vn16 s (e + 2) = n16 s (e + 2) := by unfold vn16; rw [h2]; rfl
      have e5 : xn32 s (e + 4) = e + 8 := by unfold xn32; rw [h5, cond_true]; omega
      have e6 : vn32 s (e + 4) = n32 s (e + 4) := by unfold vn32; rw [h5]; rfl
      have e7 : xn16 s (e + 8) = e + 10 := by unfold xn16; rw [h6, cond_true]; omega
      have e8 : vn16 s (e + 8) = n16 s (e + 8) := by unfold vn16; rw [h6]; rfl
      have hn := n16_le s (e + 8)
      have e9 : IntKind.wrap IntKind.i64 (e + 10 + n16 s (e + 8)) = e + 10 + n16 s (e + 8) := IntWalk.i64_in _ (by omega)
      rw [e1, e2, e3, e4, e5, e6, e7, e8, n16_wrap, e9, h1, h2, h5, h6]
      simp only [if_pos h4]
      simp only [if_pos h7, show e + 4 + 6 = e + 10 by omega, show e + 4 + 4 = e + 8 by omega]
      refine Tr.all_f rfl (Tr.all_t hs ?_)
      cases takeV s (e + 10) (n16 s (e + 8)) (n16 s e) with
      | none => exact Tr.all_t rfl (Tr.all_ret rfl)
      | some d => exact Tr.all_f rfl (Tr.all_ret rfl)
    · have hres : (match (if someB s e 4 = true then some ((n, n16 s e, n16 s (e + 2)), e + 4) else none : Option (QQt × Int)) with
          | none => none
          | some p => if someB s p.2 6 = true then (match takeV s (p.2 + 6) (n16 s (p.2 + 4)) p.1.2.1 with
            | some d => some ((p.1.1, p.1.2.1, p.1.2.2, n32 s p.2, d), p.2 + 6 + n16 s (p.2 + 4))
            | none => none) else none : Option (RRt × Int)) = none := by
        by_cases h4 : someB s e 4 = true
        · have := some_iff.1 h4
          rw [if_pos h4]
          simp only
          rw [if_neg (fun hh => by have := some_iff.1 hh; omega)]
        · rw [if_neg h4]
      simp only at hres ⊢
      rw [hres]
      refine Tr.all_t ?_ (Tr.all_ret rfl)
      cases h1 : someB s e 2 with
      | false => simp
      | true =>
        have a1 := some_iff.1 h1
        have e1 : xn16 s e = e + 2 := by unfold xn16; rw [h1]; rfl
        rw [e1]
        cases h2 : someB s (e + 2) 2 with
        | false => simp
        | true =>
          have a2 := some_iff.1 h2
          have e2 : xn16 s (e + 2) = e + 4 := by unfold xn16; rw [h2, cond_true]; omega
          rw [e2]
          cases h3 : someB s (e + 4) 4 with
          | false => simp
          | true =>
            have a3 := some_iff.1 h3
            have e5 : xn32 s (e + 4) = e + 8 := by unfold xn32; rw [h3, cond_true]; omega
            rw [e5, some_not (s := s) (a := e + 8) (by omega)]
            simp
def fs16w : FSpec := fs16.like fun (s, a, _) => .on (smS s) ((oR (tkR s a)).1, (oR (tkR s a)).2.1, (oR (tkR s a)).2.2, ())
theorem okf16w : fs16w.Ok Try.prog := by
  refine flike_ok okf16 _ ?_
  rintro ⟨(s : List UInt8), (a : Int), _⟩ y h
  obtain ⟨hb, rfl⟩ := Tr.get_on h
  exact convR_of (vs := [rrA (oR (tkR s a)).1, .int .i64 (oR (tkR s a)).2.1, .int .i64 (oR (tkR s a)).2.2]) rfl rfl (Tr.get_of_all (takeR_all s a hb))
end Go.Proofs.YtlkpiegllammdaaE
namespace Go.Proofs.YtlkpiegllammdaaE
open Go Go.Proofs.YtlkpiegllammdaaB
set_option linter.unusedVariables false
set_option linter.unusedSimpArgs false
set_option maxRecDepth 100000
def t71 (s : List UInt8) (at_ : Int) : Tr Res := Tr.br (decide (at_ ≥ (0 : Int))) (Tr.br (decide (at_ ≤ (↑(List.length s) : Int))) (Tr.br (decide ((4 : Int) ≤ (↑(List.length s) : Int))) (Tr.br (!decide (IntKind.wrap IntKind.i64 (at_ + (4 : Int)) ≤ (↑(List.length s) : Int))) (Tr.ret ([AV.int IntKind.u32 (0 : Int), AV.int IntKind.i64 (0 : Int), AV.int IntKind.i64 (2 : Int)], [])) (Tr.br (bigS s) (Tr.br (someB s at_ (2 : Int)) (Tr.br (bigS s) (Tr.br (someB s (at_ + (2 : Ty.den (Ty.int IntKind.i64))) (2 : Int)) (Tr.ret ([AV.int IntKind.u32 (IntKind.wrap IntKind.u32 (IntKind.wrap IntKind.u32 ((65536 : Int) * IntKind.wrap IntKind.u32 (n16 s at_)) + IntKind.wrap IntKind.u32 (n16 s (at_ + (2 : Ty.den (Ty.int IntKind.i64)))))), AV.int IntKind.i64 (at_ + (2 : Ty.den (Ty.int IntKind.i64)) + (2 : Ty.den (Ty.int IntKind.i64))), AV.int IntKind.i64 (0 : Int)], [])) (Tr.ret ([AV.int IntKind.u32 (IntKind.wrap IntKind.u32 (IntKind.wrap IntKind.u32 ((65536 : Int) * IntKind.wrap IntKind.u32 (n16 s at_)) + IntKind.wrap IntKind.u32 (0 : Int))), AV.int IntKind.i64 (0 : Int), AV.int IntKind.i64 (0 : Int)], []))) Tr.no) (Tr.br (bigS s) (Tr.br (someB s (0 : Int) (2 : Int)) (Tr.ret ([AV.int IntKind.u32 (IntKind.wrap IntKind.u32 (IntKind.wrap IntKind.u32 ((65536 : Int) * IntKind.wrap IntKind.u32 (0 : Int)) + IntKind.wrap IntKind.u32 (n16 s (0 : Int)))), AV.int IntKind.i64 ((0 : Int) + (2 : Ty.den (Ty.int IntKind.i64))), AV.int IntKind.i64 (0 : Int)], [])) (Tr.ret ([AV.int IntKind.u32 (IntKind.wrap IntKind.u32 (IntKind.wrap IntKind.u32 ((65536 : Int) * IntKind.wrap IntKind.u32 (0 : Int)) + IntKind.wrap IntKind.u32 (0 : Int))), AV.int IntKind.i64 (0 : Int), AV.int IntKind.i64 (0 : Int)], []))) Tr.no)) Tr.no)) (Tr.ret ([AV.int IntKind.u32 (0 : Int), AV.int IntKind.i64 (0 : Int), AV.int IntKind.i64 (2 : Int)], []))) (Tr.ret ([AV.int IntKind.u32 (0 : Int), AV.int IntKind.i64 (0 : Int), AV.int IntKind.i64 (2 : Int)], []))) (Tr.ret ([AV.int IntKind.u32 (0 : Int), AV.int IntKind.i64 (0 : Int), AV.int IntKind.i64 (2 : Int)], []))
def os71 : OSpec := { f := 71, sh := [.d .str false, .d (.int .i64) false], so := [], F := fun (s, at_, _) _ => t71 s at_ }
set_option maxRecDepth 1000000 in
theorem fn71 (s : List UInt8) (at_ : Int) : evC T0 (orcB [fs101, fs72w] []) (lpOf h71 0 (lsOf [])) c71 1000000 (startSt [.str s, .int .i64 at_] [] Try.f71.ntmps) (finishK T0 false 0 Try.f71) = (t71 s at_).get := by kernel_rfl
theorem ok71 : os71.Ok Try.prog := by
  refine os_ok mixed0 tab0 (orcB_sound (all_cons okf101 (all_cons okf72w all_nil)) all_nil) h71 (d := 0) (n0 := 0) (S := lsOf []) Try.func71 (by kernel_rfl) (c := c71) (by kernel_rfl) rfl (no_loops (by kernel_rfl)) (by omega) (by kernel_rfl) ?_
  intro x'' y'' q'' hq''
  obtain ⟨(s : List UInt8), (at_ : Int), _⟩ := x''
  exact (fn71 s at_).trans hq''
def fs71 : FSpec := fsT 71 [(.str, false), ((.int .i64), false)] [((.int .u32), false), ((.int .i64), false), ((.int .i64), false)] fun (s, at_, _) => t71 s at_
theorem okf71 : fs71.Ok Try.prog := fsT_ok fun x'' r'' hr'' => ok71 x'' () r'' hr''
def fs71w : FSpec := fs71.like fun (s, at_, _) => .br (bigS s) (.br (someB s at_ 4) (.ret (n32 s at_, at_ + 4, (0 : Int), ())) (.ret ((0 : Int), (0 : Int), (2 : Int), ()))) .no
theorem okf71w : fs71w.Ok Try.prog := by
  refine flike_ok okf71 _ ?_
  rintro ⟨(s : List UInt8), (at_ : Int), _⟩ y h
  simp only [Tr.get] at h
  cases hb : bigS s with
  | false => rw [hb] at h; cases h
  | true =>
    rw [hb, cond_true] at h
    have hlen := big_len hb
    cases hs : someB s at_ 4 with
    | true =>
      rw [hs, cond_true] at h
      cases h
      have hi := some_iff.1 hs
      have h1 : someB s at_ 2 = true := some_iff.2 ⟨by omega, by omega, by omega⟩
      have h2 : someB s (at_ + 2) 2 = true := some_iff.2 ⟨by omega, by omega, by omega⟩
      have hc := n16_le s at_
      have hd := n16_le s (at_ + 2)
      refine convR_of (vs := [.int .u32 (n32 s at_), .int .i64 (at_ + 4), .int .i64 0]) rfl rfl (Tr.get_of_all ?_)
      show (t71 s at_).all _
      unfold t71
      refine Tr.all_t (decide_eq_true (by omega)) (Tr.all_t (decide_eq_true (by omega)) (Tr.all_t (decide_eq_true (by omega)) (Tr.all_f ?_ (Tr.all_t hb (Tr.all_t h1 (Tr.all_t hb (Tr.all_t h2 (Tr.all_ret ?_))))))))
      · rw [IntWalk.i64_in _ (by omega), decide_eq_true (by omega)]; rfl
      · have e : IntKind.wrap IntKind.u32 (IntKind.wrap IntKind.u32 ((65536 : Int) * IntKind.wrap IntKind.u32 (n16 s at_)) + IntKind.wrap IntKind.u32 (n16 s (at_ + 2))) = n32 s at_ := by
          unfold n32
          rw [IntWalk.u32_in (n16 s at_) (by omega), IntWalk.u32_in (n16 s (at_ + 2)) (by omega), IntWalk.u32_in (65536 * n16 s at_) (by omega), IntWalk.u32_in _ (by omega)]
          omega
        have e4 : at_ + 2 + 2 = at_ + 4 := by omega
        show ([AV.int .u32 (IntKind.wrap IntKind.u32 (IntKind.wrap IntKind.u32 ((65536 : Int) * IntKind.wrap IntKind.u32 (n16 s at_)) + IntKind.wrap IntKind.u32 (n16 s (at_ + 2)))), AV.int .i64 (at_ + 2 + 2), AV.int .i64 0], ([] : List LObj)) = _
        rw [e, e4]
    | false =>
      rw [hs, cond_false] at h
      cases h
      refine convR_of (vs := [.int .u32 0, .int .i64 0, .int .i64 2]) rfl rfl (Tr.get_of_all ?_)
      show (t71 s at_).all _
      unfold t71
      refine Tr.all_br (fun c1 => Tr.all_br (fun c2 => Tr.all_br (fun c3 => Tr.all_t ?_ (Tr.all_ret rfl)) fun _ => Tr.all_ret rfl) fun _ => Tr.all_ret rfl) fun _ => Tr.all_ret rfl
      have c1 := of_decide_eq_true c1
      have c2 := of_decide_eq_true c2
      have c3 := of_decide_eq_true c3
      rw [IntWalk.i64_in _ (by omega), decide_eq_false (fun hh => by rw [some_iff.2 ⟨c1, by omega, hh⟩] at hs; cases hs)]
      rfl
def t27 (s : List UInt8) (at_ : Int) : Tr Res := Tr.br (bigS s) (Tr.br (Prod.snd (Prod.snd (oQ (tkQ s at_))) != (0 : Int)) (Tr.ret ([AV.agg [AV.str [], AV.int IntKind.u16 (0 : Int), AV.int IntKind.u16 (0 : Int), AV.int IntKind.u32 (0 : Int), AV.str []], AV.int IntKind.i64 (0 : Int), AV.int IntKind.i64 (2 : Int)], [])) (Tr.br (bigS s) (Tr.br (someB s (Prod.fst (Prod.snd (oQ (tkQ s at_)))) (4 : Int)) (Tr.br (bigS s) (Tr.br (someB s (Prod.fst (Prod.snd (oQ (tkQ s at_))) + (4 : Ty.den (Ty.int IntKind.i64))) (2 : Int)) (Tr.br (smS s) (Tr.br ((if Option.isSome (takeV s (Prod.fst (Prod.snd (oQ (tkQ s at_))) + (4 : Ty.den (Ty.int IntKind.i64)) + (2 : Ty.den (Ty.int IntKind.i64))) (IntKind.wrap IntKind.i64 (n16 s (Prod.fst (Prod.snd (oQ (tkQ s at_))) + (4 : Ty.den (Ty.int IntKind.i64))))) (Prod.fst (Prod.snd (Prod.fst (oQ (tkQ s at_)))))) = true then (0 : Int) else (2 : Ty.den (Ty.int IntKind.i64))) != (0 : Int)) (Tr.ret ([AV.agg [AV.str [], AV.int IntKind.u16 (0 : Int), AV.int IntKind.u16 (0 : Int), AV.int IntKind.u32 (0 : Int), AV.str []], AV.int IntKind.i64 (0 : Int), AV.int IntKind.i64 (2 : Int)], [])) (Tr.ret ([AV.agg [AV.str (Prod.fst (Prod.fst (oQ (tkQ s at_)))), AV.int IntKind.u16 (Prod.fst (Prod.snd (Prod.fst (oQ (tkQ s at_))))), AV.int IntKind.u16 (Prod.snd (Prod.snd (Prod.fst (oQ (tkQ s at_))))), AV.int IntKind.u32 (n32 s (Prod.fst (Prod.snd (oQ (tkQ s at_))))), AV.str (Option.getD (takeV s (Prod.fst (Prod.snd (oQ (tkQ s at_))) + (4 : Ty.den (Ty.int IntKind.i64)) + (2 : Ty.den (Ty.int IntKind.i64))) (IntKind.wrap IntKind.i64 (n16 s (Prod.fst (Prod.snd (oQ (tkQ s at_))) + (4 : Ty.den (Ty.int IntKind.i64))))) (Prod.fst (Prod.snd (Prod.fst (oQ (tkQ s at_)))))) [])], AV.int IntKind.i64 (IntKind.wrap IntKind.i64 (Prod.fst (Prod.snd (oQ (tkQ s at_))) + (4 : Ty.den (Ty.int IntKind.i64)) + (2 : Ty.den (Ty.int IntKind.i64)) + IntKind.wrap IntKind.i64 (n16 s (Prod.fst (Prod.snd (oQ (tkQ s at_))) + (4 : Ty.den (Ty.int IntKind.i64)))))), AV.int IntKind.i64 (0 : Int)], []))) Tr.no) (Tr.ret ([AV.agg [AV.str [], AV.int IntKind.u16 (0 : Int), AV.int IntKind.u16 (0 : Int), AV.int IntKind.u32 (0 : Int), AV.str []], AV.int IntKind.i64 (0 : Int), AV.int IntKind.i64 (2 : Int)], []))) Tr.no) (Tr.br (bigS s) (Tr.br (someB s (0 : Int) (2 : Int)) (Tr.ret ([AV.agg [AV.str [], AV.int IntKind.u16 (0 : Int), AV.int IntKind.u16 (0 : Int), AV.int IntKind.u32 (0 : Int), AV.str []], AV.int IntKind.i64 (0 : Int), AV.int IntKind.i64 (2 : Int)], [])) (Tr.ret ([AV.agg [AV.str [], AV.int IntKind.u16 (0 : Int), AV.int IntKind.u16 (0 : Int), AV.int IntKind.u32 (0 : Int), AV.str []], AV.int IntKind.i64 (0 : Int), AV.int IntKind.i64 (2 : Int)], []))) Tr.no)) Tr.no)) Tr.no
def os27 : OSpec := { f := 27, sh := [.d .str false, .d (.int .i64) false], so := [], F := fun (s, at_, _) _ => t27 s at_ }
set_option maxRecDepth 1000000 in
theorem fn27 (s : List UInt8) (at_ : Int) : evC T0 (orcB [fs29w, fs71w, fs72w, fs73w] []) (lpOf h27 0 (lsOf [])) c27 1000000 (startSt [.str s, .int .i64 at_] [] Try.f27.ntmps) (finishK T0 false 0 Try.f27) = (t27 s at_).get := by kernel_rfl
theorem ok27 : os27.Ok Try.prog := by
  refine os_ok mixed0 tab0 (orcB_sound (all_cons okf29w (all_cons okf71w (all_cons okf72w (all_cons okf73w all_nil)))) all_nil) h27 (d := 0) (n0 := 0) (S := lsOf []) Try.func27 (by kernel_rfl) (c := c27) (by kernel_rfl) rfl (no_loops (by kernel_rfl)) (by omega) (by kernel_rfl) ?_
  intro x'' y'' q'' hq''
  obtain ⟨(s : List UInt8), (at_ : Int), _⟩ := x''
  exact (fn27 s at_).trans hq''
def fs27 : FSpec := fsT 27 [(.str, false), ((.int .i64), false)] [(RR, true), ((.int .i64), false), ((.int .i64), false)] fun (s, at_, _) => t27 s at_
theorem okf27 : fs27.Ok Try.prog := fsT_ok fun x'' r'' hr'' => ok27 x'' () r'' hr''
def t18 (r : RRt) : Tr Res := Tr.br (decide ((↑(List.length r.1) : Int) ≤ (700 : Int))) (Tr.ret ([AV.bool (decide ((↑(List.length r.2.2.2.2) : Int) ≤ (700 : Int)))], [])) (Tr.ret ([AV.bool false], []))
def os18 : OSpec := { f := 18, sh := [.d RR true], so := [], F := fun (r, _) _ => t18 r }
set_option maxRecDepth 1000000 in
theorem fn18 (r : RRt) : evC T0 (orcB [] [os21, os26, os50]) (lpOf h18 0 (lsOf [])) c18 1000000 (startSt [AV.ofTy RR r true] [] Try.f18.ntmps) (finishK T0 false 0 Try.f18) = (t18 r).get := by kernel_rfl
theorem ok18 : os18.Ok Try.prog := by
  refine os_ok mixed0 tab0 (orcB_sound all_nil (all_cons ok21 (all_cons ok26 (all_cons ok50 all_nil)))) h18 (d := 0) (n0 := 0) (S := lsOf []) Try.func18 (by kernel_rfl) (c := c18) (by kernel_rfl) rfl (no_loops (by kernel_rfl)) (by omega) (by kernel_rfl) ?_
  intro x'' y'' q'' hq''
  obtain ⟨(r : RRt), _⟩ := x''
  exact (fn18 r).trans hq''
def fs18 : FSpec := fsT 18 [(RR, true)] [(.bool, false)] fun (r, _) => t18 r
theorem okf18 : fs18.Ok Try.prog := fsT_ok fun x'' r'' hr'' => ok18 x'' () r'' hr''
def t15 : Tr Res := Tr.ret ([AV.bool (Prod.snd (Prod.snd (oR (tkR (intBytes (bytesInt (Prod.fst (recP ([2, 97, 98, 0], (1 : Int), (1 : Int), (5 : Int), [1, 2, 3, 4]) (intBytes [], []))))) (0 : Int)))) == (0 : Int))], [])
def os15 : OSpec := { f := 15, sh := [], so := [], F := fun _ _ => t15 }
set_option maxRecDepth 1000000 in
theorem fn15 : evC T0 (orcB [fs16w] [os21, os26, os50, os24w]) (lpOf h15 0 (lsOf [])) c15 1000000 (startSt [] [] Try.f15.ntmps) (finishK T0 false 0 Try.f15) = (t15).get := by kernel_rfl
theorem ok15 : os15.Ok Try.prog := by
  refine os_ok mixed0 tab0 (orcB_sound (all_cons okf16w all_nil) (all_cons ok21 (all_cons ok26 (all_cons ok50 (all_cons ok24w all_nil))))) h15 (d := 0) (n0 := 0) (S := lsOf []) Try.func15 (by kernel_rfl) (c := c15) (by kernel_rfl) rfl (no_loops (by kernel_rfl)) (by omega) (by kernel_rfl) ?_
  intro x'' y'' q'' hq''
  exact (fn15).trans hq''
def fs15 : FSpec := fsT 15 [] [(.bool, false)] fun _ => t15
theorem okf15 : fs15.Ok Try.prog := fsT_ok fun x'' r'' hr'' => ok15 x'' () r'' hr''
theorem shown05 : t15 = .ret ([.bool true], []) := by kernel_rfl
def fs15w : FSpec := fs15.like fun _ => .ret (true, ())
theorem okf15w : fs15w.Ok Try.prog := by
  refine flike_ok okf15 _ ?_
  rintro _ y h
  cases h
  refine convR_of (vs := [.bool true]) rfl rfl (Tr.get_of_all ?_)
  show t15.all _
  rw [shown05]
  exact Tr.all_ret rfl
def fw5 (r : RRt) : Bool := decide (r.1.length ≤ 700) && decide (r.2.2.2.2.length ≤ 700)
theorem fw5_iff {r : RRt} : fw5 r = true ↔ r.1.length ≤ 700 ∧ r.2.2.2.2.length ≤ 700 := by
  unfold fw5
  rw [Bool.and_eq_true, decide_eq_true_eq, decide_eq_true_eq]
def fs18w : FSpec := fs18.like fun (r, _) => .ret (fw5 r, ())
theorem okf18w : fs18w.Ok Try.prog := by
  refine flike_ok okf18 _ ?_
  rintro ⟨(r : RRt), _⟩ y h
  cases h
  refine convR_of (vs := [.bool (fw5 r)]) rfl rfl (Tr.get_of_all ?_)
  show (t18 r).all _
  unfold t18 fw5
  have hc : ∀ n : Nat, decide ((n : Int) ≤ 700) = decide (n ≤ 700) := fun n => by
    by_cases h : n ≤ 700
    · rw [dec_true h, dec_true (by omega)]
    · rw [dec_false h, dec_false (by omega)]
  rw [hc, hc]
  exact Tr.all_br (fun h => Tr.all_ret (by rw [h]; rfl)) fun h => Tr.all_ret (by rw [h]; rfl)
def t4 (a : RRt) (b : RRt) (ttl : Int) : Tr Res := Tr.br (!fw5 a) (Tr.ret ([AV.bool true], [])) (Tr.br (!fw5 b) (Tr.ret ([AV.bool true], [])) (Tr.br (Nat.ble (List.length a.2.2.2.2 + List.length ([120])) 9223372036854775807) (Tr.br (sayV a (a.1, a.2.1, a.2.2.1, ttl, a.2.2.2.2)) (Tr.br (!sayV a (a.1, a.2.1, a.2.2.1, a.2.2.2.1, a.2.2.2.2 ++ [120])) (Tr.br (sayV a b == sayV b a) (Tr.br (!sayV a b) (Tr.br (rrBig a) (Tr.br (rrBig (a.1, a.2.1, a.2.2.1, ttl, a.2.2.2.2)) (Tr.ret ([AV.bool (recV a == recV (a.1, a.2.1, a.2.2.1, ttl, a.2.2.2.2))], [])) Tr.no) Tr.no) (Tr.br (Prod.fst (keyV a) == Prod.fst (keyV b) && (Prod.fst (Prod.snd (keyV a)) == Prod.fst (Prod.snd (keyV b)) && (Prod.snd (Prod.snd (keyV a)) == Prod.snd (Prod.snd (keyV b)) && true))) (Tr.br (rrBig a) (Tr.br (rrBig (a.1, a.2.1, a.2.2.1, ttl, a.2.2.2.2)) (Tr.ret ([AV.bool (recV a == recV (a.1, a.2.1, a.2.2.1, ttl, a.2.2.2.2))], [])) Tr.no) Tr.no) (Tr.ret ([AV.bool false], [])))) (Tr.ret ([AV.bool false], []))) (Tr.ret ([AV.bool false], []))) (Tr.ret ([AV.bool false], []))) Tr.no))
set_option maxRecDepth 1000000 in
theorem fn4 (a : RRt) (b : RRt) (ttl : Int) : evC T0 (orcB [fs15w, fs18w, fs19w, fs20w, fs17w] []) (lpOf h4 0 (lsOf [])) c4 1000000 (startSt [AV.ofTy RR a true, AV.ofTy RR b true, .int .u32 ttl] [] Try.f4.ntmps) (finishK T0 false 0 Try.f4) = (t4 a b ttl).get := by kernel_rfl
theorem nf5 {b : Bool} (h : (!b) = false) : b = true := by cases b; cases h; rfl
theorem fw5_big {a : RRt} (h : fw5 a = true) : rrBig a = true := by
  obtain ⟨h1, h2⟩ := fw5_iff.1 h
  unfold rrBig
  rw [len_big (show a.1.length ≤ _ by omega), len_big (show a.2.2.2.2.length ≤ _ by omega)]
  rfl
theorem refTakeR_all (s : List UInt8) (a : Int) (hs : smS s = true) : Tr.all (fun r : Res => r = ([rrA (oR (tkR s a)).1, .int .i64 (oR (tkR s a)).2.1, .int .i64 (oR (tkR s a)).2.2], [])) (t27 s a) := by
  have hb := sm_big hs
  have hlen : s.length ≤ 100000000 := by simpa [smS] using hs
  unfold t27 tkR
  refine Tr.all_t hb ?_
  cases ht : tkQ s a with
  | none => exact Tr.all_t rfl (Tr.all_ret rfl)
  | some p =>
    obtain ⟨q, e⟩ := p
    rw [show oQ (some (q, e)) = (q, e, 0) from rfl]
    refine Tr.all_f rfl (Tr.all_t hb ?_)
    by_cases h : 0 ≤ e ∧ e + 6 ≤ s.length
    · have h4 : someB s e 4 = true := some_iff.2 ⟨by omega, by omega, by omega⟩
      have h5 : someB s (e + 4) 2 = true := some_iff.2 ⟨by omega, by omega, by omega⟩
      have h6 : someB s e 6 = true := some_iff.2 ⟨by omega, by omega, by omega⟩
      have hn := n16_le s (e + 4)
      have e9 : IntKind.wrap IntKind.i64 (e + 4 + 2 + n16 s (e + 4)) = e + 6 + n16 s (e + 4) := by rw [IntWalk.i64_in _ (by omega)]; omega
      have e10 : e + 4 + 2 = e + 6 := by omega
      simp only [if_pos h6]
      refine Tr.all_t h4 (Tr.all_t hb (Tr.all_t h5 (Tr.all_t hs ?_)))
      show Tr.all _ (Tr.br ((if (takeV s (e + 4 + 2) (IntKind.wrap IntKind.i64 (n16 s (e + 4))) q.2.1).isSome = true then (0 : Int) else 2) != 0) (Tr.ret ([rrA ([], 0, 0, 0, []), .int .i64 0, .int .i64 2], [])) (Tr.ret ([rrA (q.1, q.2.1, q.2.2, n32 s e, (takeV s (e + 4 + 2) (IntKind.wrap IntKind.i64 (n16 s (e + 4))) q.2.1).getD []), .int .i64 (IntKind.wrap IntKind.i64 (e + 4 + 2 + IntKind.wrap IntKind.i64 (n16 s (e + 4)))), .int .i64 0], [])))
      rw [n16_wrap, e9, e10]
      cases takeV s (e + 6) (n16 s (e + 4)) q.2.1 with
      | none => exact Tr.all_t rfl (Tr.all_ret rfl)
      | some d => exact Tr.all_f rfl (Tr.all_ret rfl)
    · have h6 : ¬ someB s e 6 = true := fun hh => by have := some_iff.1 hh; exact h ⟨this.1, this.2.2⟩
      simp only [if_neg h6]
      cases h4 : someB s e 4 with
      | false => exact Tr.all_f rfl (Tr.all_t hb (Tr.all_br (fun _ => Tr.all_ret rfl) fun _ => Tr.all_ret rfl))
      | true =>
        have := some_iff.1 h4
        exact Tr.all_t rfl (Tr.all_t hb (Tr.all_f (some_not (s := s) (a := e + 4) (by omega)) (Tr.all_ret rfl)))
def fs27w : FSpec := fs27.like fun (s, a, _) => .on (smS s) ((oR (tkR s a)).1, (oR (tkR s a)).2.1, (oR (tkR s a)).2.2, ())
theorem okf27w : fs27w.Ok Try.prog := by
  refine flike_ok okf27 _ ?_
  rintro ⟨(s : List UInt8), (a : Int), _⟩ y h
  obtain ⟨hb, rfl⟩ := Tr.get_on h
  exact convR_of (vs := [rrA (oR (tkR s a)).1, .int .i64 (oR (tkR s a)).2.1, .int .i64 (oR (tkR s a)).2.2]) rfl rfl (Tr.get_of_all (refTakeR_all s a hb))
def t6 (a : RRt) (b : RRt) (s : List UInt8) (at_ : Int) : Tr Res := Tr.br (decide ((↑(List.length s) : Int) > (1000 : Int))) (Tr.ret ([AV.bool true], [])) (Tr.br (!fw5 a) (Tr.ret ([AV.bool true], [])) (Tr.br (!fw5 b) (Tr.ret ([AV.bool true], [])) (Tr.br (smS s) (Tr.br (smS s) (Tr.br (bigS s) (Tr.br (bigS s) (Tr.br (rrBig a) (Tr.br (rrBig a) (Tr.br (recV a == recV a) (Tr.br (bigS (Prod.fst (keyV a))) (Tr.br (bigS (Prod.fst (keyV a))) (Tr.br (mayV (Prod.fst (keyV a)) == mayV (Prod.fst (keyV a))) (Tr.br (sayV a b == sayV a b) (Tr.br (Prod.fst (keyV a) == a.1) (Tr.br (Prod.fst (Prod.snd (keyV a)) == a.2.1) (Tr.br (Prod.snd (Prod.snd (keyV a)) == a.2.2.1) (Tr.br (Prod.fst (Prod.fst (oR (tkR s at_))) == Prod.fst (Prod.fst (oR (tkR s at_))) && (Prod.fst (Prod.snd (Prod.fst (oR (tkR s at_)))) == Prod.fst (Prod.snd (Prod.fst (oR (tkR s at_)))) && (Prod.fst (Prod.snd (Prod.snd (Prod.fst (oR (tkR s at_))))) == Prod.fst (Prod.snd (Prod.snd (Prod.fst (oR (tkR s at_))))) && (Prod.fst (Prod.snd (Prod.snd (Prod.snd (Prod.fst (oR (tkR s at_)))))) == Prod.fst (Prod.snd (Prod.snd (Prod.snd (Prod.fst (oR (tkR s at_)))))) && (Prod.snd (Prod.snd (Prod.snd (Prod.snd (Prod.fst (oR (tkR s at_)))))) == Prod.snd (Prod.snd (Prod.snd (Prod.snd (Prod.fst (oR (tkR s at_)))))) && true))))) (Tr.br (Prod.fst (Prod.snd (oR (tkR s at_))) == Prod.fst (Prod.snd (oR (tkR s at_)))) (Tr.br (Prod.snd (Prod.snd (oR (tkR s at_))) == Prod.snd (Prod.snd (oR (tkR s at_)))) (Tr.br (Prod.fst (Prod.fst (oQ (tkQ s at_))) == Prod.fst (Prod.fst (oQ (tkQ s at_))) && (Prod.fst (Prod.snd (Prod.fst (oQ (tkQ s at_)))) == Prod.fst (Prod.snd (Prod.fst (oQ (tkQ s at_)))) && (Prod.snd (Prod.snd (Prod.fst (oQ (tkQ s at_)))) == Prod.snd (Prod.snd (Prod.fst (oQ (tkQ s at_)))) && true))) (Tr.br (Prod.fst (Prod.snd (oQ (tkQ s at_))) == Prod.fst (Prod.snd (oQ (tkQ s at_)))) (Tr.ret ([AV.bool (Prod.snd (Prod.snd (oQ (tkQ s at_))) == Prod.snd (Prod.snd (oQ (tkQ s at_))))], [])) (Tr.ret ([AV.bool false], []))) (Tr.ret ([AV.bool false], []))) (Tr.ret ([AV.bool false], []))) (Tr.ret ([AV.bool false], []))) (Tr.ret ([AV.bool false], []))) (Tr.ret ([AV.bool false], []))) (Tr.ret ([AV.bool false], []))) (Tr.ret ([AV.bool false], []))) (Tr.ret ([AV.bool false], []))) (Tr.ret ([AV.bool false], []))) Tr.no) Tr.no) (Tr.ret ([AV.bool false], []))) Tr.no) Tr.no) Tr.no) Tr.no) Tr.no) Tr.no)))
def os6 : OSpec := { f := 6, sh := [.d RR true, .d RR true, .d .str false, .d (.int .i64) false], so := [], F := fun (a, b, s, at_, _) _ => t6 a b s at_ }
set_option maxRecDepth 1000000 in
theorem fn6 (a : RRt) (b : RRt) (s : List UInt8) (at_ : Int) : evC T0 (orcB [fs15w, fs18w, fs19w, fs33w, fs20w, fs17w, fs30w, fs31w, fs32w, fs16w, fs27w, fs28w, fs29w] []) (lpOf h6 0 (lsOf [])) c6 1000000 (startSt [AV.ofTy RR a true, AV.ofTy RR b true, .str s, .int .i64 at_] [] Try.f6.ntmps) (finishK T0 false 0 Try.f6) = (t6 a b s at_).get := by kernel_rfl
theorem ok6 : os6.Ok Try.prog := by
  refine os_ok mixed0 tab0 (orcB_sound (all_cons okf15w (all_cons okf18w (all_cons okf19w (all_cons okf33w (all_cons okf20w (all_cons okf17w (all_cons okf30w (all_cons okf31w (all_cons okf32w (all_cons okf16w (all_cons okf27w (all_cons okf28w (all_cons okf29w all_nil))))))))))))) all_nil) h6 (d := 0) (n0 := 0) (S := lsOf []) Try.func6 (by kernel_rfl) (c := c6) (by kernel_rfl) rfl (no_loops (by kernel_rfl)) (by omega) (by kernel_rfl) ?_
  intro x'' y'' q'' hq''
  obtain ⟨(a : RRt), (b : RRt), (s : List UInt8), (at_ : Int), _⟩ := x''
  exact (fn6 a b s at_).trans hq''
theorem recordTells_all (a b : RRt) (s : List UInt8) (at_ : Int) : Tr.all (fun r : Res => r = ([.bool true], [])) (t6 a b s at_) := by
  unfold t6
  refine Tr.all_br (fun _ => Tr.all_ret rfl) fun h0 => Tr.all_br (fun _ => Tr.all_ret rfl) fun h1 => Tr.all_br (fun _ => Tr.all_ret rfl) fun h2 => ?_
  have h0 := of_decide_eq_false h0
  have hs : smS s = true := by simp [smS]; omega
  have hb := sm_big hs
  have ha := fw5_big (nf5 h1)
  have hq : bigS (keyV a).1 = true := by
    have := (fw5_iff.1 (nf5 h1)).1
    exact len_big (show a.1.length ≤ _ by omega)
  repeat (first | refine Tr.all_t hs ?_ | refine Tr.all_t hb ?_ | refine Tr.all_t ha ?_ | refine Tr.all_t hq ?_ | refine Tr.all_t (by simp [keyV]) ?_)
  exact Tr.all_ret (by rw [beq_self_eq_true])
theorem sem6 (a b : RRt) (s : List UInt8) (at_ : Int) : SemF Try.prog 6 [rrA a, rrA b, .str s, .int .i64 at_] [] [.bool true] [] :=
  ok6 (a, b, s, at_, ()) () ([.bool true], []) (Tr.get_of_all (recordTells_all a b s at_))
end Go.Proofs.YtlkpiegllammdaaE
namespace Go.Proofs.Ytlkpiegllammdaa.recordTells
open Go.ChangeShapes Go.WideShapes Go.ChangeAt Go.RowKit Go.Proofs.YtlkpiegllammdaaE
open Go.ChangeMaps (open_string shut_string)
set_option linter.unusedVariables false
theorem own : ownKnob Try.prog.godebug = none := by kernel_rfl
theorem laidOut : laidOutB Try.prog = true := by kernel_rfl
set_option maxRecDepth 100000 in
theorem lifted (os : Os) (started : os.Started) (H : Type) (enc : TypeId × Value → H) :
    ReturnsInHanded {} Try.checked os 6 .any (Rows.recordTellsSpec.pre6 enc Try.prog Try.f6 Rows.recordTellsRow.domain false) (Rows.recordTellsSpec.post enc Try.prog Try.f6 false true false false) := by
  refine returnsInHanded_of_change_sized (C := Try.checked) own started (by kernel_rfl) Try.func6
    (ChangeSpec.witness6 (enc := enc) (C := Try.checked) false ⟨#[], #[.agg #[.string ByteArray.empty, .int .u16 0, .int .u16 0, .int .u32 0, .string ByteArray.empty], .agg #[.string ByteArray.empty, .int .u16 0, .int .u16 0, .int .u32 0, .string ByteArray.empty], .string ByteArray.empty, .int .i64 0], []⟩ 8 (by kernel_rfl) (by kernel_rfl) (by kernel_rfl) (by kernel_rfl)) ?_
  intro W base args ds gs before hval0 hW hcnd hsz0 _
  have hsz : ∀ n ∈ DataW.weightsEach Try.prog (Try.f6.params.toList ++ Rows.recordTellsSpec.plain.varTypes Try.prog) (ds ++ gs), n ≤ reachBytes := fun n hn => of_decide_eq_true (List.all_eq_true.1 hsz0 n hn)
  have hval : ∀ (j : Nat) t v, Try.f6.params[j]? = some t → args[j]? = some v → Value.okWide Try.prog W .any base t v := hval0
  have hW' := hW
  obtain ⟨p, q, hA0, hV, rfl, hfz, hnd⟩ := hW
  have hA : DataW.TrodAll enc Try.prog W 0 (fun _ => true) true Try.f6.params.toList args.toList ds p := hA0
  rw [Try.params6] at hA hval hsz
  obtain ⟨v0, vs0, d0, ds0, p0, q0, hargs, rfl, rfl, k0, r0⟩ := trodAll_cons hA
  obtain ⟨v1, vs1, d1, ds1, p1, q1, rfl, rfl, rfl, k1, r1⟩ := trodAll_cons r0
  obtain ⟨v2, vs2, d2, ds2, p2, q2, rfl, rfl, rfl, k2, r2⟩ := trodAll_cons r1
  obtain ⟨v3, vs3, d3, ds3, p3, q3, rfl, rfl, rfl, k3, r3⟩ := trodAll_cons r2
  obtain ⟨rfl, rfl, rfl⟩ := trodAll_nil r3
  obtain rfl : args = #[v0, v1, v2, v3] := by cases args; simp_all
  obtain ⟨rfl, rfl⟩ := trodVars_none hV
  have lt0 : ∀ x ∈ p0, x.block < W.heap.size := by obtain ⟨m, hm⟩ := k0; exact DataW.trod_lt m _ _ _ hm
  obtain ⟨x0, e0, w0, b0⟩ := arg_told (n := 8) (τ := (.pair .str (.pair (.int .u16) (.pair (.int .u16) (.pair (.int .u32) .str))))) (agg := true) (by kernel_rfl) (hval 0 26 v0 rfl rfl) k0 (fun n hn => hsz n (DataW.weights_mem_each (j := 0) (t := 26) rfl rfl n hn)) (by kernel_rfl)
  have lt1 : ∀ x ∈ p1, x.block < W.heap.size := by obtain ⟨m, hm⟩ := k1; exact DataW.trod_lt m _ _ _ hm
  obtain ⟨x1, e1, w1, b1⟩ := arg_told (n := 8) (τ := (.pair .str (.pair (.int .u16) (.pair (.int .u16) (.pair (.int .u32) .str))))) (agg := true) (by kernel_rfl) (hval 1 26 v1 rfl rfl) k1 (fun n hn => hsz n (DataW.weights_mem_each (j := 1) (t := 26) rfl rfl n hn)) (by kernel_rfl)
  have lt2 : ∀ x ∈ p2, x.block < W.heap.size := by obtain ⟨m, hm⟩ := k2; exact DataW.trod_lt m _ _ _ hm
  obtain ⟨x2, e2, w2, b2⟩ := arg_told (n := 8) (τ := .str) (agg := false) (by kernel_rfl) (hval 2 9 v2 rfl rfl) k2 (fun n hn => hsz n (DataW.weights_mem_each (j := 2) (t := 9) rfl rfl n hn)) (by kernel_rfl)
  have lt3 : ∀ x ∈ p3, x.block < W.heap.size := by obtain ⟨m, hm⟩ := k3; exact DataW.trod_lt m _ _ _ hm
  obtain ⟨x3, e3, w3, b3⟩ := arg_told (n := 8) (τ := .int .i64) (agg := false) (by kernel_rfl) (hval 3 3 v3 rfl rfl) k3 (fun n hn => hsz n (DataW.weights_mem_each (j := 3) (t := 3) rfl rfl n hn)) (by kernel_rfl)
  clear hA0 hval0 hsz0 hsz
  refine (law_calls ((fun a b s at_ _ _ _ _ => sem6 a b s at_) x0 x1 x2 x3 w0 w1 w2 w3) W (vs := [v0, v1, v2, v3]) ?_).mono fun e W' ⟨he, bel⟩ => ?_
  · simp only [VRelL]
    exact ⟨_, _, rfl, e0, ⟨_, _, rfl, e1, ⟨_, _, rfl, e2, ⟨_, _, rfl, e3, rfl⟩⟩⟩⟩
  subst he
  exact ⟨_, rfl, _, _, _, [], _, [], hW', trodAll_mk1 (shut_bool Try.underlying4 _), (trodAll_cons_mk (Below.trod laidOut (by kernel_rfl) (of_decide_eq_true (by kernel_rfl)) k0 bel lt0) (trodAll_cons_mk (Below.trod laidOut (by kernel_rfl) (of_decide_eq_true (by kernel_rfl)) k1 bel lt1) (trodAll_cons_mk (Below.trod laidOut (by kernel_rfl) (of_decide_eq_true (by kernel_rfl)) k2 bel lt2) (trodAll_cons_mk (Below.trod laidOut (by kernel_rfl) (of_decide_eq_true (by kernel_rfl)) k3 bel lt3) trodAll_mk0)))), rfl, bel.frame _, fun h => by cases h⟩
theorem over : Rows.recordTellsRow.holds Try.pinned (OpenSpec.ofChange Rows.recordTellsSpec) :=
  OpenClaim.holds_of_wide 6 Try.f6 rfl rfl rfl rfl rfl rfl rfl ⟨rfl, rfl, rfl, rfl, rfl⟩ rfl rfl rfl rfl rfl (by kernel_rfl) Try.func6 (by kernel_rfl)
    (of_decide_eq_true (by kernel_rfl)) (by unfold Func.isWrapper; first | (rw [if_pos (by decide +kernel)]; kernel_rfl) | (rw [if_neg (by decide +kernel)]; exact ⟨rfl, rfl⟩))
    (fun os started H enc _ => lifted os started H enc)
theorem proved : Rows.RecordTellsSaid := over
end Go.Proofs.Ytlkpiegllammdaa.recordTells
namespace Go.Proofs.Ytlkpiegllammdaa
/-- The row, under a short name, for the claim. -/
theorem recordTells_holds : Rows.RecordTellsSaid := recordTells.proved
#print axioms recordTells_holds
end Go.Proofs.Ytlkpiegllammdaa
