/- The engine, part 28: small laws for use. -/
import Derived.Test.YtfepkpindchleaaE27
import Derived.IntWalk
namespace Go.Proofs.YtfepkpindchleaaE
open Go
set_option linter.unusedVariables false
set_option linter.unusedSimpArgs false

/-- A loop that ends: each round ends it, or goes on with less to do. -/
theorem loop_wf {α : Type} {F : St → Option (St ⊕ (Ex × St))} (mk : α → St) (I : α → Prop) (m : α → Nat) (r : Ex × St)
    (step : ∀ a, I a → F (mk a) = some (.inr r) ∨ ∃ a', F (mk a) = some (.inl (mk a')) ∧ I a' ∧ m a' < m a) : ∀ a, I a → loopF F (mk a) = some r := by
  have key : ∀ (n : Nat) (a : α), m a = n → I a → loopF F (mk a) = some r := by
    intro n
    induction n using Nat.strongRecOn with
    | _ n ih =>
      intro a hn ha
      rcases step a ha with h | ⟨a', h, ha', hlt⟩
      · exact loopF_inr h
      · rw [loopF_inl h]
        exact ih (m a') (by omega) a' rfl ha'
  exact fun a ha => key _ a rfl ha

theorem req_true {R : Type} {b : Bool} {x : Option R} (h : b = true) : req b x = x := by rw [h]; rfl
theorem dec_true {p : Prop} [Decidable p] (h : p) : decide p = true := decide_eq_true h
theorem dec_false {p : Prop} [Decidable p] (h : ¬ p) : decide p = false := decide_eq_false h
theorem fits_true {n b : Nat} (h : n * b ≤ 140737488355328) (h' : n ≤ 140737488355328) : fits n b = true := by
  unfold fits lenLim
  rw [dec_true h, dec_true h']
  rfl

theorem drop_get {α : Type} (l : List α) (k : Nat) (d : α) (h : k < l.length) : l.drop k = l.getD k d :: l.drop (k + 1) := by
  rw [List.drop_eq_getElem_cons h, List.getD_eq_getElem?_getD, List.getElem?_eq_getElem h]
  rfl
theorem int_nat (k : Nat) : ((k : Int)).toNat = k := Int.toNat_natCast k

theorem evFn_semF {P : Program} (hmo : P.follows .mixedOrders = true) {T : Tab} (hT : TabOk P T) {orc : Orc} (hO : SoundOrc P orc) {H : Hint} {d : Nat} {S : LSpec} {f : Nat} {fn : Func} {c : Code} (hf : P.funcs[f]? = some fn) (hn : (fn.name == "runtime.NumGoroutine") = false) (hb : fn.body = some c)
    {args : List AV} {objs : List LObj} {res : List AV} {objs' : List LObj} (hl : ∀ x ∈ loopsOf c 1000000, LoopHolds T orc H objs.length d S x) (hd : d < 8) (hok : (dstOk fn.ntmps c && Nat.ble args.length fn.ntmps) = true)
    (h : evC T orc (lpOf H objs.length S) c 1000000 (startSt args objs fn.ntmps) (finishK T H.own objs.length fn) = some (res, objs')) : SemF P f args objs res objs' :=
  evFn_sound hmo hT hO hf (by simpa using hn) (evFn_of hb hl hd hok h)

/-- Without a loop. -/
theorem no_loops {T : Tab} {orc : Orc} {H : Hint} {n0 d : Nat} {S : LSpec} {c : Code} (h : (loopsOf c 1000000).isEmpty = true) : ∀ x ∈ loopsOf c 1000000, LoopHolds T orc H n0 d S x := by
  rw [List.isEmpty_iff.1 h]
  simp
/-- With one. -/
theorem one_loop {T : Tab} {orc : Orc} {H : Hint} {n0 d : Nat} {S : LSpec} {c : Code} {x : Nat × Code} (h : loopsOf c 1000000 = [x]) (hx : LoopHolds T orc H n0 d S x) : ∀ y ∈ loopsOf c 1000000, LoopHolds T orc H n0 d S y := by
  rw [h]
  intro y hy
  rw [List.mem_singleton.1 hy]
  exact hx
theorem one_spec {T : Tab} {orc : Orc} {H : Hint} {n0 d : Nat} {L : LoopSpec} {body : Code} (h : L.Ok T orc H n0 d body) : LoopHolds T orc H n0 d (lsOf [L]) (L.bid, body) :=
  lsOf_holds fun L' hL' _ => by rw [List.mem_singleton.1 hL']; exact h

theorem ofTys_len : ∀ (ts : List (Ty × Bool)) (x : Dens ts), (ofTys ts x).length = ts.length
  | [], _ => rfl
  | t :: ts, x => by simp [ofTys, ofTys_len ts x.2]

/-- The words of a function on data hold. -/
theorem fs_ok {P : Program} (hmo : P.follows .mixedOrders = true) {T : Tab} (hT : TabOk P T) {orc : Orc} (hO : SoundOrc P orc) (H : Hint) {d : Nat} {S : LSpec} {s : FSpec} {fn : Func} {c : Code} (hf : P.funcs[s.f]? = some fn) (hn : (fn.name == "runtime.NumGoroutine") = false) (hb : fn.body = some c)
    (hl : ∀ x ∈ loopsOf c 1000000, LoopHolds T orc H 0 d S x) (hd : d < 8) (hok : (dstOk fn.ntmps c && Nat.ble s.ins.length fn.ntmps) = true)
    (h : ∀ x y, (s.F x).get = some y → evC T orc (lpOf H 0 S) c 1000000 (startSt (ofTys s.ins x) [] fn.ntmps) (finishK T H.own 0 fn) = some (ofTys s.outs y, [])) : s.Ok P := fun x y hxy =>
  evFn_semF hmo hT hO (objs := []) hf hn hb hl hd (by rw [ofTys_len]; exact hok) (h x y hxy)

end Go.Proofs.YtfepkpindchleaaE
