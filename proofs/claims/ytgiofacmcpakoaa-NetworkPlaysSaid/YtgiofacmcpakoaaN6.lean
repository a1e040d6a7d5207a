/- network: the law NetworkNobody. -/
import Derived.Test.YtgiofacmcpakoaaN5
namespace Go.Proofs.YtgiofacmcpakoaaE
open Go
set_option linter.unusedVariables false
def os33m : OSpec := os33n.like fun _ _ => .ret ([pk0, .bool false], [])
theorem ok33m : os33m.Ok Try.prog := by
  refine like_ok ok33n _ ?_
  rintro ⟨(k : Int), _⟩ _ q h
  refine (show (t33n k).get = _ from ?_)
  cases h
  refine Tr.get_of_all (Tr.all_br (fun _ => Tr.all_ret rfl) fun h => Tr.all_t (dec_true ?_) (Tr.all_ret rfl))
  simpa using h
def os31m : OSpec := os31n.like fun _ _ => .ret ([pk0, .bool false], [])
theorem ok31m : os31m.Ok Try.prog := by
  refine like_ok ok31n _ ?_
  rintro ⟨(k : Int), _⟩ _ q h
  refine (show (t31n k).get = _ from ?_)
  cases h
  refine Tr.get_of_all (Tr.all_br (fun _ => Tr.all_ret rfl) fun h => Tr.all_t (dec_true ?_) (Tr.all_ret rfl))
  simpa using h
def os38m : OSpec := os38n.like fun _ _ => .ret ([.bool false], [])
theorem ok38m : os38m.Ok Try.prog := by
  refine like_ok ok38n _ ?_
  rintro ⟨(k : Int), _⟩ _ q h
  refine (show (t38n k).get = _ from ?_)
  cases h
  refine Tr.get_of_all (Tr.all_br (fun _ => Tr.all_ret rfl) fun h => Tr.all_t (dec_true ?_) (Tr.all_ret rfl))
  simpa using h
/-- derricklaw18.NetworkNobody -/
def t13 (k : Int) (p : ((Int × Int) × ((Int × Int) × List UInt8))) : Tr Res := Tr.br (hasK [] k) (Tr.br (Nat.ble (List.length (Prod.snd (Prod.snd p)) + List.length (Array.toList (ByteArray.data { data := #[120] }))) 9223372036854775807) (Tr.ret ([AV.bool false], [])) Tr.no) (Tr.br (Nat.ble (List.length (Prod.snd (Prod.snd p)) + List.length (Array.toList (ByteArray.data { data := #[120] }))) 9223372036854775807) (Tr.ret ([AV.bool (Prod.fst (Prod.fst (atK ([] ++ [p]) (0 : Int))) == Prod.fst (Prod.fst p) && (Prod.snd (Prod.fst (atK ([] ++ [p]) (0 : Int))) == Prod.snd (Prod.fst p) && true) && (Prod.fst (Prod.fst (Prod.snd (atK ([] ++ [p]) (0 : Int)))) == Prod.fst (Prod.fst (Prod.snd p)) && (Prod.snd (Prod.fst (Prod.snd (atK ([] ++ [p]) (0 : Int)))) == Prod.snd (Prod.fst (Prod.snd p)) && true) && (Prod.snd (Prod.snd (atK ([] ++ [p]) (0 : Int))) == Prod.snd (Prod.snd p) && true)))], [])) Tr.no)
def os13 : OSpec := { f := 13, sh := [.d (.int .i64) false, .d PK true], so := [], F := fun (k, p, _) _ => t13 k p }
theorem fn13 (k : Int) (p : ((Int × Int) × ((Int × Int) × List UInt8))) : evC T13 (orcB [] [os28, os29, os33, os31, os37, os38p, os30, os32, os27, os34o, os35o, os36o, os40r, os33m, os31m, os29n, os37n, os38m, os40n, os42n, os34n, os36n, os35n]) (lpOf h13 0 (lsOf [])) c13 1000000 (startSt [.int .i64 k, AV.ofTy PK p true] [] Try.f13.ntmps) (finishK T13 false 0 Try.f13) = (t13 k p).get := by kernel_rfl
theorem ok13 : os13.Ok Try.prog := by
  refine os_ok mixed0 (tab_live tab0 v13 u13) (orcB_sound all_nil (all_cons ok28 (all_cons ok29 (all_cons ok33 (all_cons ok31 (all_cons ok37 (all_cons ok38p (all_cons ok30 (all_cons ok32 (all_cons ok27 (all_cons ok34o (all_cons ok35o (all_cons ok36o (all_cons ok40r (all_cons ok33m (all_cons ok31m (all_cons ok29n (all_cons ok37n (all_cons ok38m (all_cons ok40n (all_cons ok42n (all_cons ok34n (all_cons ok36n (all_cons ok35n all_nil)))))))))))))))))))))))) h13 (d := 0) (n0 := 0) (S := lsOf []) Try.func13 (by kernel_rfl) (c := c13) (by kernel_rfl) rfl (no_loops (by kernel_rfl)) (by omega) (by kernel_rfl) ?_
  intro x'' y'' q'' hq''
  obtain ⟨(k : Int), (p : ((Int × Int) × ((Int × Int) × List UInt8))), _⟩ := x''
  exact (fn13 k p).trans hq''
theorem sem13 (k : Int) (p : (Int × Int) × ((Int × Int) × List UInt8)) (h : okT PK p) : SemF Try.prog 13 [.int .i64 k, AV.ofTy PK p true] [] [.bool true] [] := by
  refine ok13 (k, p, ()) () ([.bool true], []) (Tr.get_of_all ?_)
  show (t13 k p).all _
  have hl : List.length p.2.2 ≤ reachBytes := h.2.2
  have hb : reachBytes ≤ 4611686018427387904 := by decide
  unfold t13
  refine Tr.all_f (by simp [hasK]) (Tr.all_t (Nat.ble_eq_true_of_le ?_) (Tr.all_ret ?_))
  · show p.2.2.length + 1 ≤ _
    omega
  · have := pkEq_refl p
    unfold pkEq at this
    show ([AV.bool _], ([] : List LObj)) = _
    rw [show atK ([] ++ [p]) 0 = p from rfl, this]

end Go.Proofs.YtgiofacmcpakoaaE
