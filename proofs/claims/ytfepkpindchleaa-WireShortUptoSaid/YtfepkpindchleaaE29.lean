/- The engine, part 29: a slice held against nil, first thing in a function: either answer comes to the same. -/
import Derived.Test.YtfepkpindchleaaE28
namespace Go.Proofs.YtfepkpindchleaaE
open Go
set_option linter.unusedVariables false
set_option linter.unusedSimpArgs false

theorem gate_bind {A R : Type} (all : List Oper) (o : Oper) (st : St) (run skip : St → Option A) (K : A → Option R) : (gate all o st run skip).bind K = gate all o st (fun st => (run st).bind K) (fun st => (skip st).bind K) := by
  unfold gate
  cases hg : o.guard with
  | none => rfl
  | some g =>
    obtain ⟨j, want⟩ := g
    simp only
    cases hd : dstOf all j with
    | none => rfl
    | some t =>
      simp only
      split
      · rename_i b hb
        cases want <;> cases b <;> rfl
      · rfl
      · rfl
theorem op_bind {T : Tab} {orc : Orc} {o : Op} {ty : Nat} {st : St} {A R : Type} (G : Eff → Option A) (K : A → Option R) : (evOp T orc o ty st G).bind K = evOp T orc o ty st fun f => (G f).bind K := by
  rw [evOp_bind, evOp_bind (K := fun f => (G f).bind K)]
  cases evOp T orc o ty st some <;> rfl
theorem ops_bind {T : Tab} {orc : Orc} {all : List Oper} {A R : Type} (G : St → Option A) (K : A → Option R) : ∀ (os : List Oper) (st : St), (evOps T orc all os st G).bind K = evOps T orc all os st fun st => (G st).bind K
  | [], st => rfl
  | o :: os, st => by
    simp only [evOps]
    rw [gate_bind]
    congr 1
    · funext st
      rw [op_bind]
      congr 1
      funext f
      rw [forceSt_eq, forceSt_eq]
      exact ops_bind G K os _
    · funext st
      exact ops_bind G K os _
theorem draw_bind {T : Tab} {orc : Orc} {all : List Oper} {bs : List Nat} {n0 : Nat} {A R : Type} (G : St → Option A) (K : A → Option R) : ∀ (os : List Oper) (cs : List Cls) (st : St), (evDraw T orc all bs n0 os cs st G).bind K = evDraw T orc all bs n0 os cs st fun st => (G st).bind K
  | [], cs, st => by
    simp only [evDraw]
    cases mayMeet bs cs.reverse <;> rfl
  | o :: os, cs, st => by
    simp only [evDraw, forceC_eq, forceV_eq, laySt_eq]
    rw [gate_bind]
    congr 1
    · funext st
      rw [op_bind]
      congr 1
      funext f
      exact draw_bind G K os _ _
    · funext st
      exact draw_bind G K os _ _
theorem trun_bind {α A R : Type} (G : α → Option A) (K : A → Option R) (t : Tr α) : (t.run G).bind K = t.run fun a => (G a).bind K := by
  rw [Tr.run_get, Tr.run_get]
  cases t.get <;> rfl
theorem evC_bind {T : Tab} {orc : Orc} {lp : Lp} {A R : Type} (K : A → Option R) : ∀ (c : Code) (bid : Nat) (st : St) (G : Ex → St → Option A), (evC T orc lp c bid st G).bind K = evC T orc lp c bid st fun ex st => (G ex st).bind K
  | .skip, _, _, _ => rfl
  | .label _, _, _, _ => rfl
  | .exit _, _, _, _ => rfl
  | .ret, _, _, _ => rfl
  | .goto _, _, _, _ => rfl
  | .scope .., _, _, _ => rfl
  | .rangeFunc .., _, _, _ => rfl
  | .refuse .., _, _, _ => rfl
  | .region id ops draw, bid, st, G => by
    simp only [evC]
    cases draw with
    | true =>
      rw [if_pos rfl, if_pos rfl]
      cases drawOk ops (Region.before ops).toList with
      | true =>
        refine (draw_bind _ _ _ _ _).trans ?_
        congr 1
        funext st
        rw [forceSt_eq, forceSt_eq]
      | false => rfl
    | false =>
      rw [if_neg (by simp), if_neg (by simp)]
      refine (ops_bind _ _ _ _).trans ?_
      congr 1
      funext st
      rw [forceSt_eq, forceSt_eq]
  | .seq a b, bid, st, G => by
    simp only [evC]
    rw [evC_bind K a]
    congr 1
    funext ex st'
    cases ex with
    | normal => exact evC_bind K b bid st' G
    | exit id => rfl
    | ret => rfl
  | .cond c a b, bid, st, G => by
    simp only [evC, condE]
    split
    · rename_i t _
      cases t with
      | true => exact evC_bind K a bid _ G
      | false => exact evC_bind K b bid _ G
    · rfl
  | .block id c, bid, st, G => by
    simp only [evC]
    rw [evC_bind K c]
    congr 1
    funext ex st'
    cases ex with
    | normal => rfl
    | ret => rfl
    | exit i =>
      simp only [blockK]
      cases i == id <;> rfl
  | .loop c, bid, st, G => by
    simp only [evC]
    exact trun_bind _ _ _

/-- The first part; then, for either answer, the rest: what both come to. -/
def evNil (T : Tab) (orc : Orc) (lp : Lp) (fn : Func) (own : Bool) (n0 : Nat) (r0 rest : Code) (d1 d2 : Nat) (st0 : St) : Option (Res × Res × Bool) :=
  evC T orc lp r0 1000000 st0 fun ex st => match ex with
    | .normal => match st.tm 0 with
      | .list _ xs => evC T orc lp rest 1000000 ((st.put d1 (st.tm 0)).put d2 (.bool true)) fun e1 s1 => match finishK T own n0 fn e1 s1 with
        | some x => evC T orc lp rest 1000000 ((st.put d1 (st.tm 0)).put d2 (.bool false)) fun e2 s2 => match finishK T own n0 fn e2 s2 with
          | some y => some (x, y, xs.isEmpty)
          | none => none
        | none => none
      | _ => none
    | _ => none

theorem run_nil {P : Program} {t : Nat} {e : TypeId} (ht : P.underlying t = some (.slice e)) (A : Option Addr) (n c : Nat) (X Y : Operand) (w : World) :
    ((do eqGuard .eql t X Y (.slice A n c) (.slice none 0 0); binOp .eql t (.slice A n c) (.slice none 0 0)) : Sem Value).run P w = .ok (.bool A.isNone) w := by
  have h : ∀ d, (Op.equalIn (d + 1) t (.slice A n c) (.slice none 0 0)).run P w = .ok A.isNone w := fun d => by cases A <;> simp [Op.equalIn, run_underlying ht]
  have h2 : (Op.equal t (.slice A n c) (.slice none 0 0)).run P w = .ok A.isNone w := h 9999
  simp [eqGuard, binOp, h2]

theorem post_of {P : Program} {T : Tab} (hT : TabOk P T) {c : Cx} {st : St} {a : Act} {w : World} {μ : Nat → Pl} {F : Nat → Prop} (hi : Inv c st a w μ F) {own : Bool} {fn : Func} {ex : Ex} {res : List AV} {objs' : List LObj} (hfp : c.fp = Owned c.μ0)
    (hk : finishK T own c.n0 fn ex st = some (res, objs')) : bodyPost P fn (fun e w' => ∃ v, e = .returned v ∧ Post c.w0 c.μ0 c.F0 c.n0 res objs' v w') (exitOf ex) a w := by
  have fin : ∀ vs', resultsE T st fn.results.toList = some vs' → finish T own c.n0 fn.resultTypes.toList st vs' = (res, objs') →
      a.defers = [] ∧ ∃ v, (results fn a.tmps).run P w = .ok v w ∧ ∃ v', (Ending.returned v : Ending) = .returned v' ∧ Post c.w0 c.μ0 c.F0 c.n0 res objs' v' w := fun vs' h1 h2 => by
    obtain ⟨us, h3, h4⟩ := resultsE_rel hT hi _ _ h1
    exact ⟨hi.df, _, results_run h3, _, rfl, finish_sound (P := P) hi h4 hfp h2⟩
  cases ex with
  | exit id => simp [finishK] at hk
  | normal =>
    simp only [finishK] at hk
    split at hk
    · rename_i vs' hvs
      exact fin vs' hvs (by simpa using hk)
    · cases hk
  | ret =>
    simp only [finishK] at hk
    split at hk
    · rename_i vs' hvs
      exact fin vs' hvs (by simpa using hk)
    · cases hk

theorem nil_sem {P : Program} (hmo : P.follows .mixedOrders = true) {T : Tab} (hT : TabOk P T) {orc : Orc} (hO : SoundOrc P orc) {own : Bool} {f : Nat} {fn : Func} (hf : P.funcs[f]? = some fn) (hn : (fn.name == "runtime.NumGoroutine") = false) {r0 cx cy : Code} {id d1 d2 : Nat} {ops : Array Oper} {o1 o2 : Oper} {t yt : Nat} {e : TypeId}
    (hb : fn.body = some (.seq r0 (.seq (.seq (.region id ops false) cx) cy))) (hops : ops = #[o1, o2]) (h1 : o1.op = .move (.tmp 0)) (h1d : o1.dst = some d1) (h1g : o1.guard = none) (h2 : o2.op = .binOp .eql t (.tmp d1) (.const (.slice none 0 0)) yt) (h2d : o2.dst = some d2) (h2g : o2.guard = none)
    (ht : P.underlying t = some (.slice e)) {args : List AV} (hok : (dstOk fn.ntmps (.seq r0 (.seq (.seq (.region id ops false) cx) cy)) && Nat.ble args.length fn.ntmps) = true)
    {res : List AV} {objs' : List LObj} {x y : Res} {em : Bool} (h : evNil T orc (fun _ _ _ => .no) fn own 0 r0 (.seq cx cy) d1 d2 (startSt args [] fn.ntmps) = some (x, y, em)) (hy : y = (res, objs')) (hx : em = true → x = (res, objs')) : SemF P f args [] res objs' := by
  refine ⟨⟨fn, hf, by simpa using hn, by rw [hb]; rfl⟩, fun w μ F vs hh hv => ?_⟩
  simp only [Bool.and_eq_true, Nat.ble_eq] at hok
  obtain ⟨hok, hle⟩ := hok
  have hi := start_inv hh hv hle
  simp only [dstOk, Bool.and_eq_true] at hok
  obtain ⟨k0, ⟨k1, k2⟩, k3⟩ := hok
  have hd1 : d1 < fn.ntmps := by
    rw [hops] at k1
    simp [h1d, h2d] at k1
    exact k1.1
  have hd2 : d2 < fn.ntmps := by
    rw [hops] at k1
    simp [h1d, h2d] at k1
    exact k1.2
  have hlpok : LpOk P ⟨w, Owned μ, F, μ, 0, fn.ntmps⟩ (fun _ _ _ => .no) := fun bid body st ex st' h => by simp [Tr.get] at h
  refine calls_of_wp hf hb (wp_seq (evC_sound hmo hT hO hlpok r0 1000000 _ _ _ _ w μ F k0 h hi ?_))
  intro ex st a w' μ' F' hi' hk
  cases ex with
  | exit id => cases hk
  | ret => cases hk
  | normal =>
    simp only at hk
    split at hk
    · rename_i τ xs hxs
      have hv0 := hi'.tm 0
      rw [hxs] at hv0
      simp only [VRel] at hv0
      obtain ⟨A, cap, hval, _, hAn, _⟩ := enc_list.1 hv0
      -- both answers
      have hk1 : ((evC T orc (fun _ _ _ => .no) (.seq cx cy) 1000000 ((st.put d1 (st.tm 0)).put d2 (.bool true)) fun e1 s1 => finishK T own 0 fn e1 s1).bind fun x => (evC T orc (fun _ _ _ => .no) (.seq cx cy) 1000000 ((st.put d1 (st.tm 0)).put d2 (.bool false)) fun e2 s2 => (finishK T own 0 fn e2 s2)).bind fun y => some (x, y, xs.isEmpty)) = some (x, y, em) := by
        rw [evC_bind, ← hk]
        congr 1
        funext e1 s1
        cases finishK T own 0 fn e1 s1 with
        | none => rfl
        | some x =>
          simp only [Option.bind_some]
          rw [evC_bind]
          congr 1
          funext e2 s2
          cases finishK T own 0 fn e2 s2 <;> rfl
      obtain ⟨x', q1, q2⟩ := Option.bind_eq_some_iff.1 hk1
      obtain ⟨y', q3, q4⟩ := Option.bind_eq_some_iff.1 q2
      simp only [Option.some.injEq, Prod.mk.injEq] at q4
      obtain ⟨rfl, rfl, rfl⟩ := q4
      have hboth : evC T orc (fun _ _ _ => .no) (.seq cx cy) 1000000 ((st.put d1 (st.tm 0)).put d2 (.bool A.isNone)) (fun e2 s2 => finishK T own 0 fn e2 s2) = some (res, objs') := by
        cases hA : A.isNone with
        | true =>
          have : xs = [] := hAn (by simpa using hA)
          rw [q1, hx (by rw [this]; rfl)]
        | false => rw [q3, hy]
      refine wp_seq (wp_seq (wp_region ?_))
      subst hops
      simp only [List.size_toArray, List.length_cons, List.length_nil, List.range_succ, List.range_zero, List.nil_append, List.cons_append, wpOps]
      simp only [Region.wanted, h1g, h2g, List.getElem?_toArray, List.getElem?_cons_zero, List.getElem?_cons_succ, if_true]
      have p1 := inv_put hi' (d := some d1) (x := st.tm 0) (v := a.tmps.getD 0 undef) (fun t ht => by cases ht; exact hd1) (hi'.tm 0)
      refine .inl ?_
      have hex1 : (execOp a.eval o1).run P w' = .ok (.value (a.tmps.getD 0 undef)) w' := by simp [execOp, h1, Act.eval]
      show o1.upon P a _ _ ((execOp a.eval o1).run P w')
      rw [hex1, Oper.upon_value, h1d]
      refine .inl ?_
      have hev : (a.put (some d1) (a.tmps.getD 0 undef)).eval (.tmp d1) = .slice A xs.length cap := by
        have hsz : d1 < a.tmps.size := by rw [hi'.sz]; exact hd1
        simp only [Act.eval, Act.put]
        rw [Array.getD_eq_getD_getElem?, Array.getElem?_setIfInBounds_self, if_pos hsz]
        exact hval
      have hrun := run_nil (P := P) ht A xs.length cap (.tmp d1) (.const (.slice none 0 0)) w'
      have hex : (execOp (a.put (some d1) (a.tmps.getD 0 undef)).eval o2).run P w' = .ok (.value (.bool A.isNone)) w' := by
        have he2 : (a.put (some d1) (a.tmps.getD 0 undef)).eval (.const (.slice none 0 0)) = .slice none 0 0 := rfl
        simp only [execOp, h2, hev, he2]
        rw [Sem.run_bind, hrun]
        simp
      show o2.upon P _ _ _ ((execOp (a.put (some d1) (a.tmps.getD 0 undef)).eval o2).run P w')
      rw [hex, Oper.upon_value, h2d]
      have p2 := inv_put p1 (d := some d2) (x := .bool A.isNone) (v := .bool A.isNone) (fun t ht => by cases ht; exact hd2) (by simp [VRel])
      simp only [evC] at hboth
      refine evC_sound hmo hT hO hlpok cx 1000000 _ _ _ _ w' μ' F' k2 hboth p2 ?_
      intro ex' st'' a'' w'' μ'' F'' hi'' hk''
      cases ex' with
      | normal =>
        refine evC_sound hmo hT hO hlpok cy 1000000 _ _ _ _ w'' μ'' F'' k3 hk'' hi'' ?_
        intro ex' st'' a'' w'' μ'' F'' hi'' hk''
        exact post_of hT hi'' rfl hk''
      | exit id => exact post_of hT hi'' rfl (show finishK T own 0 fn (.exit id) st'' = some (res, objs') from hk'')
      | ret => exact post_of hT hi'' rfl (show finishK T own 0 fn .ret st'' = some (res, objs') from hk'')
    · cases hk

end Go.Proofs.YtfepkpindchleaaE
