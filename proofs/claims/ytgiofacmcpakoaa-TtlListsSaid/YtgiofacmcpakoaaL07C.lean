/- TtlLists: records with another time; what the document says of them. -/
import Derived.Test.YtgiofacmcpakoaaL07B
import Derived.Test.YtgiofacmcpakoaaE29
namespace Go.Proofs.YtgiofacmcpakoaaE
open Go
set_option linter.unusedVariables false

/-! ### slices.Clone of records: a row of its own -/
def cloneO (f0 : Nat) (t : Ty) (bytes : Nat) : Orc := fun f args objs => bif Nat.beq f f0 && objs.isEmpty then (match args with
    | [v] => (match getX (.list t) false v with | some xs => .on (fits (List.length xs) bytes) ([.rowA 0], [.row t xs]) | none => .no)
    | _ => .no) else .no
theorem cloneO_sound {P : Program} {f0 : Nat} {t : Ty} {bytes : Nat} (h : ∀ xs : List t.den, fits xs.length bytes = true → SemF P f0 [.list t xs] [] [.rowA 0] [.row t xs]) : SoundOrc P (cloneO f0 t bytes) := by
  intro f args objs res objs' hg
  unfold cloneO at hg
  cases hf : (Nat.beq f f0 && objs.isEmpty) with
  | false => rw [hf] at hg; cases hg
  | true =>
    rw [hf] at hg
    simp only [Bool.and_eq_true, List.isEmpty_iff] at hf
    obtain ⟨hf, rfl⟩ := hf
    have := Nat.eq_of_beq_eq_true hf
    subst this
    simp only [cond_true] at hg
    split at hg
    · split at hg
      · rename_i xs hx
        obtain ⟨hc, he⟩ := Tr.get_on hg
        cases he
        rw [getX_eq hx]
        exact h xs hc
      · cases hg
    · cases hg

structure CP where
  r0 : Code
  cx : Code
  cy : Code
  ops : Array Oper
  id : Nat
def cC : Code → CP
  | .seq r0 (.seq (.seq (.region id ops _) cx) cy) => ⟨r0, cx, cy, ops, id⟩
  | c => ⟨c, c, c, #[], 0⟩
theorem sem45 (xs : List RR.den) (hc : fits xs.length 40 = true) : SemF Try.prog 45 [.list RR xs] [] [.rowA 0] [.row RR xs] := by
  have h : evNil T0 (orcOf []) (fun _ _ _ => .no) Try.f45 true 0 (cC c45).r0 (.seq (cC c45).cx (cC c45).cy) 3 4 (startSt [.list RR xs] [] Try.f45.ntmps) =
      bif fits (([] : List RR.den).length + xs.length) 40 then some (([.rowA 0], [.row RR []]), ([.rowA 0], [.row RR ([] ++ xs)]), xs.isEmpty) else none := by kernel_rfl
  rw [show fits (([] : List RR.den).length + xs.length) 40 = true by simpa using hc] at h
  exact nil_sem mixed0 tab0 (orcOf_sound [] (by simp)) Try.func45 (by kernel_rfl) (id := (cC c45).id) (ops := (cC c45).ops) (o1 := (cC c45).ops.getD 0 default) (o2 := (cC c45).ops.getD 1 default) (d1 := 3) (d2 := 4) (t := 33) (yt := 33) (e := 37)
    (by kernel_rfl) (by kernel_rfl) (by kernel_rfl) (by kernel_rfl) (by kernel_rfl) (by kernel_rfl) (by kernel_rfl) (by kernel_rfl) (by kernel_rfl) (by kernel_rfl) h rfl (fun he => by rw [List.isEmpty_iff.1 he])

/-! ### With -/
def setT (x : RR.den) (t : Int) : RR.den := (x.1, x.2.1, x.2.2.1, t, x.2.2.2.2)
def withL (l : List RR.den) (t : Int) : List RR.den := l.map fun x => setT x t
def wC (l : List RR.den) (n i : Int) : Bool := decide (n = l.length) && decide (0 ≤ i) && decide (i ≤ n) && decide (l.length ≤ 1000000000000)
def wR (l : List RR.den) (t i : Int) : List RR.den := l.take i.toNat ++ withL (l.drop i.toNat) t
def ls23 : LoopSpec := { bid := 0, sh := [.row 0, .d U32 false, .d (.int .i64) false, .d (.int .i64) false], so := [.row RR], F := fun (t, n, i, _) (l, _) => .on (wC l n i) (.exit 0, [.rowA 0], [.row RR (wR l t i)]) }
noncomputable def b23 : Code := nthLoop c23 0
theorem round23 (orc : Orc) (lp : Lp) (l : List RR.den) (t n i : Int) : evC T0 orc lp b23 0 (stOf [0, 1, 9, 10] [.rowA 0, .int .u32 t, .int .i64 n, .int .i64 i] [.row RR l]) (roundK [0, 1, 9, 10] [0] 0) =
    bif decide (i < n) then (bif decide (0 ≤ i) then (bif decide (i < (l.length : Int)) then some (.inl (stOf [0, 1, 9, 10] [.rowA 0, .int .u32 t, .int .i64 n, .int .i64 (IntKind.wrap .i64 (i + 1))] [.row RR (l.set i.toNat (setT (l.getD i.toNat (Ty.dflt RR)) t))])) else none) else none)
    else some (.inr (.exit 0, stOf [0] [.rowA 0] [.row RR l])) := by kernel_rfl
theorem with_step (l : List RR.den) (t : Int) (k : Nat) (h : k < l.length) : (l.set k (setT (l.getD k (Ty.dflt RR)) t)).take (k + 1) ++ withL ((l.set k (setT (l.getD k (Ty.dflt RR)) t)).drop (k + 1)) t = l.take k ++ withL (l.drop k) t := by
  rw [drop_get l k (Ty.dflt RR) h]
  have h1 : (l.set k (setT (l.getD k (Ty.dflt RR)) t)).drop (k + 1) = l.drop (k + 1) := by rw [List.drop_set]; simp
  have h2 : (l.set k (setT (l.getD k (Ty.dflt RR)) t)).take (k + 1) = l.take k ++ [setT (l.getD k (Ty.dflt RR)) t] := by
    rw [List.take_add_one, List.take_set, List.set_eq_of_length_le (by simp; omega)]
    simp [h]
  rw [h1, h2]
  simp [withL]
theorem loop23 (orc : Orc) : ls23.Ok T0 orc h23 0 0 b23 := by
  intro q _ x y r h
  obtain ⟨(t : Int), (n : Int), (i : Int), _⟩ := x
  obtain ⟨(l : List RR.den), _⟩ := y
  obtain ⟨hc, rfl⟩ := Tr.get_on h
  simp only [wC, Bool.and_eq_true, decide_eq_true_eq] at hc
  obtain ⟨⟨⟨rfl, h0⟩, h1⟩, h2⟩ := hc
  have hi : ((i.toNat : Nat) : Int) = i := Int.toNat_of_nonneg h0
  have key := loop_wf (F := fun st => evC T0 orc (lpN T0 orc h23 0 q) b23 0 st (roundK [0, 1, 9, 10] [0] 0)) (fun a : List RR.den × Nat => stOf [0, 1, 9, 10] [.rowA 0, .int .u32 t, .int .i64 l.length, .int .i64 a.2] [.row RR a.1])
    (fun a => a.2 ≤ l.length ∧ a.1.length = l.length ∧ a.1.take a.2 ++ withL (a.1.drop a.2) t = wR l t i) (fun a => l.length - a.2) (.exit 0, stOf [0] [.rowA 0] [.row RR (wR l t i)]) ?_ (l, i.toNat) ⟨by simp only; omega, rfl, rfl⟩
  · simp only [hi] at key
    exact key
  · rintro ⟨m, k⟩ ⟨hk, hl, hI⟩
    simp only at hk hl hI ⊢
    rw [round23]
    by_cases hlt : k < l.length
    · right
      refine ⟨(m.set k (setT (m.getD k (Ty.dflt RR)) t), k + 1), ?_, ⟨by simp only; omega, by simp only [List.length_set]; omega, ?_⟩, by simp only; omega⟩
      · simp only [dec_true (show (k : Int) < l.length by omega), dec_true (show (k : Int) < m.length by omega), dec_true (show (0 : Int) ≤ k by omega), cond_true, IntWalk.i64_in (k + 1 : Int) (by omega), int_nat]
        rfl
      · rw [← hI]
        exact with_step m t k (by omega)
    · left
      rw [dec_false (by omega), cond_false]
      have h3 : m.drop k = [] := List.drop_eq_nil_of_le (by omega)
      have h4 : m.take k = m := List.take_of_length_le (by omega)
      rw [← hI, h3, h4]
      simp [withL]

def fs23 : FSpec := { f := 23, ins := [(.list RR, false), (U32, false)], outs := [(.list RR, false)], F := fun (l, t, _) => .on (bigL l) (withL l t, ()) }
theorem fn23 (l : List RR.den) (t : Int) : evC T0 (cloneO 45 RR 40) (lpOf h23 0 (lsOf [ls23])) c23 1000000 (startSt [.list RR l, .int .u32 t] [] Try.f23.ntmps) (finishK T0 false 0 Try.f23) =
    bif fits l.length 40 then (bif wC l l.length 0 then some ([.list RR (wR l t 0)], []) else none) else none := by kernel_rfl
theorem ok23 : fs23.Ok Try.prog := by
  refine fs_ok mixed0 tab0 (cloneO_sound sem45) h23 (d := 0) (S := lsOf [ls23]) Try.func23 (by kernel_rfl) (c := c23) (by kernel_rfl) (one_loop (x := (0, b23)) (by kernel_rfl) (one_spec (loop23 _))) (by omega) (by kernel_rfl) ?_
  intro x y h
  obtain ⟨(l : List RR.den), (t : Int), _⟩ := x
  obtain ⟨hc, rfl⟩ := Tr.get_on h
  simp only [bigL, decide_eq_true_eq] at hc
  refine (fn23 l t).trans ?_
  rw [fits_true (by omega) (by omega), show wC l l.length 0 = true by simp [wC]; omega]
  simp [wR]
  rfl

end Go.Proofs.YtgiofacmcpakoaaE
