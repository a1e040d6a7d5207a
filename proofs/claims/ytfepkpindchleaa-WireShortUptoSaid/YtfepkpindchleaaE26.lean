/- The engine, part 26: loops by what they come to; functions on data. -/
import Derived.Test.YtfepkpindchleaaE23
namespace Go.Proofs.YtfepkpindchleaaE
open Go
set_option linter.unusedVariables false
set_option linter.unusedSimpArgs false

/-! ### Loops, each by what it comes to -/
abbrev LSpec := Nat → List AV → List LObj → Tr (Ex × List AV × List LObj)
def Tr.map {α β : Type} (f : α → β) : Tr α → Tr β
  | .no => .no
  | .ret a => .ret (f a)
  | .br c x y => .br c (x.map f) (y.map f)
theorem Tr.get_map {α β : Type} {f : α → β} : ∀ (t : Tr α), (t.map f).get = t.get.map f
  | .no => rfl
  | .ret a => rfl
  | .br c x y => by cases c <;> simp only [Tr.map, Tr.get, cond_true, cond_false] <;> exact Tr.get_map _

def lpOf (H : Hint) (n0 : Nat) (S : LSpec) : Lp := fun bid _ st =>
  let p := normL (H.keep bid) n0 st
  (S bid p.1 p.2).map fun r => (r.1, stOf (H.keepX bid) r.2.1 r.2.2)

def loopsOf : Code → Nat → List (Nat × Code)
  | .seq a b, bid => loopsOf a bid ++ loopsOf b bid
  | .cond _ a b, bid => loopsOf a bid ++ loopsOf b bid
  | .block id c, _ => loopsOf c id
  | .loop c, bid => [(bid, c)]
  | _, _ => []

theorem gate_mono {R : Type} {r : R} {all : List Oper} {o : Oper} {st : St} {run skip run' skip' : St → Option R} (h1 : ∀ st, run st = some r → run' st = some r) (h2 : ∀ st, skip st = some r → skip' st = some r)
    (h : gate all o st run skip = some r) : gate all o st run' skip' = some r := by
  unfold gate at h ⊢
  cases hg : o.guard with
  | none => rw [hg] at h; exact h1 _ h
  | some g =>
    obtain ⟨j, want⟩ := g
    rw [hg] at h
    simp only at h ⊢
    cases hd : dstOf all j with
    | none => rw [hd] at h; cases h
    | some t =>
      rw [hd] at h
      simp only at h ⊢
      split at h
      · rename_i b hb
        cases want <;> cases b <;> simp only [cond_true, cond_false] at h ⊢ <;> first | exact h1 _ h | exact h2 _ h
      · exact h2 _ h
      · cases h
theorem op_mono {T : Tab} {orc : Orc} {o : Op} {ty : Nat} {st : St} {R : Type} {r : R} {K K' : Eff → Option R} (hk : ∀ f, K f = some r → K' f = some r) (h : evOp T orc o ty st K = some r) : evOp T orc o ty st K' = some r := by
  rw [evOp_bind] at h ⊢
  cases he : evOp T orc o ty st some with
  | none => rw [he] at h; cases h
  | some f => rw [he] at h; exact hk f h
theorem ops_mono {T : Tab} {orc : Orc} {all : List Oper} {R : Type} {r : R} {K K' : St → Option R} (hk : ∀ st, K st = some r → K' st = some r) : ∀ (os : List Oper) (st : St), evOps T orc all os st K = some r → evOps T orc all os st K' = some r
  | [], st, h => hk st h
  | o :: os, st, h => gate_mono (fun st h => op_mono (fun f h => by rw [forceSt_eq] at h ⊢; exact ops_mono hk os _ h) h) (fun st h => ops_mono hk os _ h) h
theorem draw_mono {T : Tab} {orc : Orc} {all : List Oper} {bs : List Nat} {n0 : Nat} {R : Type} {r : R} {K K' : St → Option R} (hk : ∀ st, K st = some r → K' st = some r) : ∀ (os : List Oper) (cs : List Cls) (st : St), evDraw T orc all bs n0 os cs st K = some r → evDraw T orc all bs n0 os cs st K' = some r
  | [], cs, st, h => by
    simp only [evDraw] at h ⊢
    cases hm : mayMeet bs cs.reverse with
    | true => rw [hm] at h; exact hk st h
    | false => rw [hm] at h; cases h
  | o :: os, cs, st, h => by
    simp only [evDraw, forceC_eq, forceV_eq, laySt_eq] at h ⊢
    exact gate_mono (fun st h => op_mono (fun f h => draw_mono hk os _ _ h) h) (fun st h => draw_mono hk os _ _ h) h

theorem evC_mono {T : Tab} {orc : Orc} {lp lp' : Lp} {R : Type} {r : R} : ∀ (c : Code) (bid : Nat) (st : St) (K K' : Ex → St → Option R), (∀ x ∈ loopsOf c bid, ∀ st q, (lp x.1 x.2 st).get = some q → (lp' x.1 x.2 st).get = some q) →
    (∀ ex st, K ex st = some r → K' ex st = some r) → evC T orc lp c bid st K = some r → evC T orc lp' c bid st K' = some r
  | .skip, _, _, _, _, _, hk, h => hk _ _ h
  | .label _, _, _, _, _, _, hk, h => hk _ _ h
  | .exit _, _, _, _, _, _, hk, h => hk _ _ h
  | .ret, _, _, _, _, _, hk, h => hk _ _ h
  | .goto _, _, _, _, _, _, _, h => by simp [evC] at h
  | .scope .., _, _, _, _, _, _, h => by simp [evC] at h
  | .rangeFunc .., _, _, _, _, _, _, h => by simp [evC] at h
  | .refuse .., _, _, _, _, _, _, h => by simp [evC] at h
  | .region id ops draw, bid, st, K, K', hl, hk, h => by
    simp only [evC] at h ⊢
    cases draw with
    | true =>
      rw [if_pos rfl] at h ⊢
      cases hd : drawOk ops (Region.before ops).toList with
      | true => rw [hd] at h; exact draw_mono (fun st h => by rw [forceSt_eq] at h ⊢; exact hk _ _ h) _ _ _ h
      | false => rw [hd] at h; cases h
    | false =>
      rw [if_neg (by simp)] at h ⊢
      exact ops_mono (fun st h => by rw [forceSt_eq] at h ⊢; exact hk _ _ h) _ _ h
  | .seq a b, bid, st, K, K', hl, hk, h => by
    simp only [evC] at h ⊢
    refine evC_mono a bid st _ _ (fun x hx => hl x (by simp [loopsOf, hx])) (fun ex st' h' => ?_) h
    cases ex with
    | normal => exact evC_mono b bid st' K K' (fun x hx => hl x (by simp [loopsOf, hx])) hk h'
    | exit id => exact hk _ _ h'
    | ret => exact hk _ _ h'
  | .cond c a b, bid, st, K, K', hl, hk, h => by
    simp only [evC, condE] at h ⊢
    split at h
    · rename_i t ht
      cases t with
      | true => exact evC_mono a bid _ K K' (fun x hx => hl x (by simp [loopsOf, hx])) hk h
      | false => exact evC_mono b bid _ K K' (fun x hx => hl x (by simp [loopsOf, hx])) hk h
    · cases h
  | .block id c, bid, st, K, K', hl, hk, h => by
    simp only [evC] at h ⊢
    refine evC_mono c id st _ _ (fun x hx => hl x (by simpa [loopsOf] using hx)) (fun ex st' h' => ?_) h
    cases ex with
    | normal => exact hk _ _ h'
    | ret => exact hk _ _ h'
    | exit i =>
      simp only [blockK] at h' ⊢
      cases hi : i == id with
      | true => rw [hi] at h'; exact hk _ _ h'
      | false => rw [hi] at h'; exact hk _ _ h'
  | .loop c, bid, st, K, K', hl, hk, h => by
    simp only [evC] at h ⊢
    obtain ⟨q, hq, h⟩ := Tr.run_some h
    rw [Tr.run_get, hl (bid, c) (by simp [loopsOf]) st q hq]
    exact hk _ _ h

/-- A loop is what its words say: at every depth from d on. -/
def LoopHolds (T : Tab) (orc : Orc) (H : Hint) (n0 d : Nat) (S : LSpec) (x : Nat × Code) : Prop :=
  ∀ n, d ≤ n → ∀ vs os ex vs' os', (S x.1 vs os).get = some (ex, vs', os') →
    loopF (fun st => evC T orc (lpN T orc H n0 n) x.2 x.1 st (roundK (H.keep x.1) (H.keepX x.1) n0)) (stOf (H.keep x.1) vs os) = some (ex, stOf (H.keepX x.1) vs' os')

theorem lp_of {T : Tab} {orc : Orc} {H : Hint} {n0 d : Nat} {S : LSpec} {x : Nat × Code} (h : LoopHolds T orc H n0 d S x) {n : Nat} (hn : d ≤ n) {st : St} {q : Ex × St} (hq : (lpOf H n0 S x.1 x.2 st).get = some q) : (lpN T orc H n0 (n + 1) x.1 x.2 st).get = some q := by
  unfold lpOf at hq
  simp only [Tr.get_map] at hq
  simp only [lpN, Tr.get_of]
  cases hr : (S x.1 (normL (H.keep x.1) n0 st).1 (normL (H.keep x.1) n0 st).2).get with
  | none => rw [hr] at hq; cases hq
  | some r =>
    rw [hr] at hq
    cases hq
    exact h n hn _ _ _ _ _ hr

/-- A round, by the words of the loops in it. -/
theorem round_of {T : Tab} {orc : Orc} {H : Hint} {n0 d : Nat} {S : LSpec} {bid : Nat} {body : Code} (hl : ∀ x ∈ loopsOf body bid, LoopHolds T orc H n0 d S x) {n : Nat} (hn : d < n) {st : St} {R : Type} {K : Ex → St → Option R} {r : R}
    (h : evC T orc (lpOf H n0 S) body bid st K = some r) : evC T orc (lpN T orc H n0 n) body bid st K = some r := by
  cases n with
  | zero => omega
  | succ n => exact evC_mono body bid st K K (fun x hx st q hq => lp_of (hl x hx) (by omega) hq) (fun _ _ h => h) h

/-- **A function, by the words of its loops.** -/
theorem evFn_of {T : Tab} {orc : Orc} {H : Hint} {d : Nat} {S : LSpec} {fn : Func} {c : Code} {args : List AV} {objs : List LObj} {res : Res} (hb : fn.body = some c) (hl : ∀ x ∈ loopsOf c 1000000, LoopHolds T orc H objs.length d S x) (hd : d < 8)
    (hok : (dstOk fn.ntmps c && Nat.ble args.length fn.ntmps) = true)
    (h : evC T orc (lpOf H objs.length S) c 1000000 (startSt args objs fn.ntmps) (finishK T H.own objs.length fn) = some res) : evFn T orc H fn args objs = some res := by
  unfold evFn
  rw [hb]
  simp only [hok, cond_true]
  exact round_of hl hd h

/-! ### Functions on data -/
def Dens : List (Ty × Bool) → Type
  | [] => Unit
  | t :: ts => t.1.den × Dens ts
def ofTys : (ts : List (Ty × Bool)) → Dens ts → List AV
  | [], _ => []
  | t :: ts, x => AV.ofTy t.1 x.1 t.2 :: ofTys ts x.2
def asTys : (ts : List (Ty × Bool)) → List AV → Option (Dens ts)
  | [], [] => some ()
  | t :: ts, v :: vs => match asTy t.1 v with
    | some x => (match asTys ts vs with | some xs => some (x, xs) | none => none)
    | none => none
  | _, _ => none

def aggs : List (Ty × Bool) → List AV → Bool
  | [], [] => true
  | t :: ts, v :: vs => (v.isAgg == t.2) && aggs ts vs
  | _, _ => false

structure FSpec where
  f : Nat
  ins : List (Ty × Bool)
  outs : List (Ty × Bool)
  F : Dens ins → Tr (Dens outs)

def FSpec.run (s : FSpec) (args : List AV) : Tr Res :=
  bif aggs s.ins args then
    (match asTys s.ins args with
    | some x => (s.F x).map fun y => (ofTys s.outs y, [])
    | none => .no)
  else .no

def orcOf : List FSpec → Orc
  | [], _, _, _ => .no
  | s :: ss, f, args, objs => bif Nat.beq f s.f && objs.isEmpty then s.run args else orcOf ss f args objs

/-- What the words of a function on data claim. -/
def FSpec.Ok (P : Program) (s : FSpec) : Prop := ∀ x y, (s.F x).get = some y → SemF P s.f (ofTys s.ins x) [] (ofTys s.outs y) []

theorem single_cells {μ : Nat → Pl} {F : Nat → Prop} {w : World} {v : AV} {cs : List AV} {u : Value} (ha : v.isAgg = false) (h : v.cellsOf = some cs) (hv : VRel μ F w v u) : u.cells = #[u] := by
  cases v <;> simp only [AV.cellsOf] at h <;> (try cases h) <;> simp only [VRel] at hv <;> (try (subst hv; rfl))
  case agg => simp [AV.isAgg] at ha
  case list => obtain ⟨A, cap, rfl, _⟩ := enc_list.1 hv; rfl
  case ptr => obtain ⟨b, _, rfl⟩ := hv; rfl
  case rptr => obtain ⟨b, o, l, c, _, _, rfl⟩ := hv; rfl
  case lptr => obtain ⟨b, o, _, _, _, rfl⟩ := hv; rfl
  case rowA => obtain ⟨a, l, c, s, A, _, rfl, _⟩ := hv; rfl
  case rowS => obtain ⟨a, l, cp, s, A, c', _, _, _, rfl, _⟩ := hv; rfl
  case mp => obtain ⟨b, _, rfl⟩ := hv; rfl
  case fn => obtain ⟨us, rfl, _⟩ := hv; rfl

theorem ofTy_rel {μ : Nat → Pl} {F : Nat → Prop} {w : World} {t : Ty} {v : AV} {x : t.den} {u : Value} (h : asTy t v = some x) (hv : VRel μ F w v u) : VRel μ F w (AV.ofTy t x v.isAgg) u := by
  have e := asTy_rel h hv
  have hf := flat_rel (μ := μ) t x _ e
  cases hag : v.isAgg with
  | true =>
    cases v <;> simp only [AV.isAgg] at hag <;> try cases hag
    rename_i cs
    simp only [VRel] at hv
    obtain ⟨us, rfl, h1, h2⟩ := hv
    simp only [AV.ofTy, if_true, VRel]
    exact ⟨us, rfl, by simpa [Value.cells] using hf, h2⟩
  | false =>
    have hc : ∃ cs, v.cellsOf = some cs := by
      unfold asTy at h
      split at h
      · rename_i cs hcs; exact ⟨cs, hcs⟩
      · cases h
    obtain ⟨cs, hcs⟩ := hc
    rw [single_cells hag hcs hv] at hf
    simp only [AV.ofTy, Bool.false_eq_true, if_false]
    split
    · rename_i y hy
      rw [hy] at hf
      simp only [VRelL] at hf
      obtain ⟨u', us', h1, h2, h3⟩ := hf
      simp at h1
      rw [h1.1]
      exact h2
    · simp [VRel]

theorem ofTys_rel {μ : Nat → Pl} {F : Nat → Prop} {w : World} : ∀ (ts : List (Ty × Bool)) (vs : List AV) (x : Dens ts) (us : List Value), aggs ts vs = true → asTys ts vs = some x → VRelL μ F w vs us → VRelL μ F w (ofTys ts x) us
  | [], [], x, us, _, _, h => by simpa [ofTys] using h
  | [], _ :: _, x, us, ha, _, _ => by simp [aggs] at ha
  | _ :: _, [], x, us, ha, _, _ => by simp [aggs] at ha
  | t :: ts, v :: vs, x, us, ha, hx, h => by
    simp only [aggs, Bool.and_eq_true, beq_iff_eq] at ha
    simp only [asTys] at hx
    split at hx
    · rename_i y hy
      split at hx
      · rename_i ys hys
        cases hx
        simp only [VRelL] at h
        obtain ⟨u, us', rfl, h1, h2⟩ := h
        simp only [ofTys, VRelL]
        refine ⟨u, us', rfl, ?_, ofTys_rel ts vs ys us' ha.2 hys h2⟩
        rw [← ha.1]
        exact ofTy_rel hy h1
      · cases hx
    · cases hx

theorem asTys_len : ∀ {ts : List (Ty × Bool)} {vs : List AV} {x : Dens ts}, asTys ts vs = some x → vs.length = (ofTys ts x).length
  | [], [], x, _ => rfl
  | [], _ :: _, x, h => by simp [asTys] at h
  | _ :: _, [], x, h => by simp [asTys] at h
  | t :: ts, v :: vs, x, h => by
    simp only [asTys] at h
    split at h
    · split at h
      · rename_i ys hys
        cases h
        simp only [List.length_cons, ofTys, asTys_len hys]
      · cases h
    · cases h

theorem tupled_ofTys {μ : Nat → Pl} {F : Nat → Prop} {w : World} {ts : List (Ty × Bool)} {vs : List AV} {x : Dens ts} {u : Value} (ha : aggs ts vs = true) (hx : asTys ts vs = some x) (h : VRel μ F w (tupled vs) u) : VRel μ F w (tupled (ofTys ts x)) u := by
  match ts, vs, x, ha, hx, h with
  | [], [], x, _, _, h => simpa [ofTys] using h
  | [], _ :: _, _, ha, _, _ => simp [aggs] at ha
  | _ :: _, [], _, ha, _, _ => simp [aggs] at ha
  | [t], [v], x, ha, hx, h =>
    have := ofTys_rel (μ := μ) (F := F) (w := w) [t] [v] x [u] ha hx (by simp only [VRelL]; exact ⟨u, [], rfl, h, rfl⟩)
    simp only [ofTys, VRelL] at this
    obtain ⟨u', us', h1, h2, _⟩ := this
    simp at h1
    rw [h1.1]
    exact h2
  | [t], _ :: _ :: _, _, ha, _, _ => simp [aggs] at ha
  | _ :: _ :: _, [v], _, ha, _, _ => simp [aggs] at ha
  | t :: t' :: ts, v :: v' :: vs, x, ha, hx, h =>
    simp only [tupled, VRel] at h
    obtain ⟨us, rfl, h1⟩ := h
    have := ofTys_rel (t :: t' :: ts) (v :: v' :: vs) x us ha hx h1
    simp only [ofTys] at this
    simp only [tupled, ofTys, VRel]
    exact ⟨us, rfl, this⟩

theorem semF_in {P : Program} {f : Nat} {ts : List (Ty × Bool)} {vs : List AV} {x : Dens ts} {res : List AV} {objs : List LObj} (ha : aggs ts vs = true) (hx : asTys ts vs = some x) (h : SemF P f (ofTys ts x) [] res objs) : SemF P f vs [] res objs :=
  ⟨h.1, fun w μ F us hh hv => h.2 w μ F us hh (ofTys_rel ts vs x us ha hx hv)⟩
theorem semF_out {P : Program} {f : Nat} {ts : List (Ty × Bool)} {vs : List AV} {x : Dens ts} {args : List AV} {objs objs' : List LObj} (ha : aggs ts vs = true) (hx : asTys ts vs = some x) (h : SemF P f args objs vs objs') : SemF P f args objs (ofTys ts x) objs' :=
  ⟨h.1, fun w μ F us hh hv => (h.2 w μ F us hh hv).mono fun e w' ⟨v, he, μ', F', h1, h2⟩ => ⟨v, he, μ', F', tupled_ofTys ha hx h1, h2⟩⟩

theorem orcOf_sound {P : Program} : ∀ (ss : List FSpec), (∀ s ∈ ss, s.Ok P) → SoundOrc P (orcOf ss)
  | [], _, f, args, objs, res, objs', h => by simp [orcOf, Tr.get] at h
  | s :: ss, hs, f, args, objs, res, objs', h => by
    simp only [orcOf] at h
    cases hc : (Nat.beq f s.f && objs.isEmpty) with
    | false =>
      rw [hc] at h
      exact orcOf_sound ss (fun s hs' => hs s (by simp [hs'])) f args objs res objs' h
    | true =>
      rw [hc] at h
      simp only [cond_true] at h
      simp only [Bool.and_eq_true, List.isEmpty_iff] at hc
      obtain ⟨h1, rfl⟩ := hc
      have := Nat.eq_of_beq_eq_true h1
      subst this
      unfold FSpec.run at h
      cases ha : aggs s.ins args with
      | false => rw [ha] at h; cases h
      | true =>
        rw [ha] at h
        simp only [cond_true] at h
        split at h
        · rename_i x hx
          rw [Tr.get_map] at h
          cases hy : (s.F x).get with
          | none => rw [hy] at h; cases h
          | some y =>
            rw [hy] at h
            cases h
            exact semF_in ha hx (hs s (by simp) x y hy)
        · cases h

/-- One more. -/
def orcPlus (sel : Nat → Bool) (o1 o2 : Orc) : Orc := fun f args objs => bif sel f then o1 f args objs else o2 f args objs
theorem orcPlus_sound {P : Program} {sel : Nat → Bool} {o1 o2 : Orc} (h1 : SoundOrc P o1) (h2 : SoundOrc P o2) : SoundOrc P (orcPlus sel o1 o2) := fun f args objs res objs' h => by
  unfold orcPlus at h
  cases hs : sel f with
  | true => rw [hs] at h; exact h1 _ _ _ _ _ h
  | false => rw [hs] at h; exact h2 _ _ _ _ _ h

end Go.Proofs.YtfepkpindchleaaE
