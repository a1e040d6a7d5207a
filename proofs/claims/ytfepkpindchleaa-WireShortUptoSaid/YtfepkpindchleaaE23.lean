/- The engine, part 23: functions. -/
import Derived.Test.YtfepkpindchleaaE22
namespace Go.Proofs.YtfepkpindchleaaE
open Go
set_option linter.unusedVariables false
set_option linter.unusedSimpArgs false

theorem loadVar_rel {P : Program} {T : Tab} (hT : TabOk P T) {w : World} {hp : Nat → LObj} {nx : Nat} {μ : Nat → Pl} {F : Nat → Prop} (hi : HInv w hp nx μ F) {t : Nat} {p x : AV} {v : Value}
    (h : loadE T hp t p = some x) (hv : VRel μ F w p v) : ∃ ad u, v = .pointer (some ad) ∧ (loadVar t ad).run P w = .ok u w ∧ VRel μ F w x u := by
  obtain ⟨u, h1, h2⟩ := loadE_rel hT hi h hv
  have : ∃ ad, v = .pointer (some ad) := by
    cases p <;> simp only [loadE] at h <;> (try cases h)
    · simp only [VRel] at hv; obtain ⟨b, _, rfl⟩ := hv; exact ⟨_, rfl⟩
    · simp only [VRel] at hv; obtain ⟨b, o, len, cap, _, _, rfl⟩ := hv; exact ⟨_, rfl⟩
    · simp only [VRel] at hv; obtain ⟨b, o, _, _, _, rfl⟩ := hv; exact ⟨_, rfl⟩
  obtain ⟨ad, rfl⟩ := this
  refine ⟨ad, u, rfl, ?_, h2⟩
  simpa [Instr.loadAt, Instr.sureAddr] using h1

def resOne (tmps : Array Value) : ResultVar → Sem Value
  | .tmp t => pure (tmps.getD t undef)
  | .cell a t => do loadVar t (← asAddr (tmps.getD a undef))

theorem resultsE_rel {P : Program} {T : Tab} (hT : TabOk P T) {c : Cx} {st : St} {a : Act} {w : World} {μ : Nat → Pl} {F : Nat → Prop} (hi : Inv c st a w μ F) :
    ∀ (rs : List ResultVar) (vs : List AV), resultsE T st rs = some vs → ∃ us, (rs.mapM (resOne a.tmps)).run P w = .ok us w ∧ VRelL μ F w vs us
  | [], vs, h => by
    simp only [resultsE, Option.some.injEq] at h
    subst h
    exact ⟨[], by simp, by simp [VRelL]⟩
  | .tmp t :: rs, vs, h => by
    simp only [resultsE] at h
    split at h
    · rename_i vs' hvs
      cases h
      obtain ⟨us, h1, h2⟩ := resultsE_rel hT hi rs vs' hvs
      refine ⟨a.tmps.getD t undef :: us, ?_, by simp only [VRelL]; exact ⟨_, _, rfl, hi.tm t, h2⟩⟩
      simp [List.mapM_cons, resOne, h1]
    · cases h
  | .cell p t :: rs, vs, h => by
    simp only [resultsE] at h
    split at h
    · rename_i v vs' hv hvs
      cases h
      obtain ⟨us, h1, h2⟩ := resultsE_rel hT hi rs vs' hvs
      obtain ⟨ad, u, h3, h4, h5⟩ := loadVar_rel (P := P) hT hi.h hv (hi.tm p)
      refine ⟨u :: us, ?_, by simp only [VRelL]; exact ⟨_, _, rfl, h5, h2⟩⟩
      rw [List.mapM_cons]
      simp only [resOne]
      rw [h3]
      simp [asAddr, h4, h1]
    · cases h

theorem results_eq (fn : Func) (tmps : Array Value) : results fn tmps = (fn.results.mapM (resOne tmps) >>= fun vs => pure (if h : vs.size = 1 then vs[0] else .tuple vs)) := by
  unfold results
  congr 1

theorem results_run {P : Program} {fn : Func} {a : Act} {w : World} {us : List Value} (h : (fn.results.toList.mapM (resOne a.tmps)).run P w = .ok us w) :
    (results fn a.tmps).run P w = .ok (if h : us.toArray.size = 1 then us.toArray[0] else .tuple us.toArray) w := by
  have hm : (fn.results.mapM (resOne a.tmps)).run P w = .ok us.toArray w := by
    rw [Array.mapM_eq_mapM_toList]
    simp only [Sem.run_map, h, Result.andThen_ok]
  rw [results_eq, Sem.run_bind, hm]
  simp

theorem tupled_rel {μ : Nat → Pl} {F : Nat → Prop} {w : World} {vs : List AV} {us : List Value} (h : VRelL μ F w vs us) : VRel μ F w (tupled vs) (if h : us.toArray.size = 1 then us.toArray[0] else .tuple us.toArray) := by
  match vs, us, h with
  | [], us, h =>
    simp only [VRelL] at h
    subst h
    simp only [tupled, VRel]
    exact ⟨[], by simp, by simp [VRelL]⟩
  | [x], us, h =>
    simp only [VRelL] at h
    obtain ⟨u, us', rfl, h1, rfl⟩ := h
    simpa [tupled] using h1
  | x :: y :: r, us, h =>
    have hl := vrelL_len h
    simp only [List.length_cons] at hl
    have : ¬ us.toArray.size = 1 := by simp; omega
    rw [dif_neg this]
    simp only [tupled, VRel]
    exact ⟨us, rfl, h⟩

theorem rowsOf_mem {hp : Nat → LObj} {k : Nat} : ∀ {ks : List Nat}, k ∈ rowsOf hp ks → k ∈ ks ∧ ∃ t xs, hp k = .row t xs
  | [], h => by simp [rowsOf] at h
  | j :: ks, h => by
    simp only [rowsOf] at h
    split at h
    · rename_i t xs hj
      rcases List.mem_cons.1 h with rfl | h
      · exact ⟨by simp, t, xs, hj⟩
      · have := rowsOf_mem h
        exact ⟨by simp [this.1], this.2⟩
    · have := rowsOf_mem h
      exact ⟨by simp [this.1], this.2⟩

theorem finish_sound {P : Program} {T : Tab} {c : Cx} {st : St} {a : Act} {w : World} {μ : Nat → Pl} {F : Nat → Prop} (hi : Inv c st a w μ F) {own : Bool} {rts : List Nat} {vs : List AV} {us : List Value} (hv : VRelL μ F w vs us)
    (hfp : c.fp = Owned c.μ0) {res : List AV} {objs' : List LObj} (h : finish T own c.n0 rts st vs = (res, objs')) :
    Post c.w0 c.μ0 c.F0 c.n0 res objs' (if h : us.toArray.size = 1 then us.toArray[0] else .tuple us.toArray) w := by
  unfold finish at h
  simp only [Prod.mk.injEq] at h
  obtain ⟨rfl, rfl⟩ := h
  have hv1 := normArgs_rel (P := P) (T := T) rts hv
  generalize hvs : normArgs T rts vs = vs1 at hv1 ⊢
  have hfz : ∀ k, (bif own then [] else (rowsOf st.hp (AV.refsL vs1)).filter fun k => Nat.ble c.n0 k).contains k = true → k < st.nx ∧ ∃ al l cp sz, μ k = .row al l cp sz := fun k hk => by
    have hk' : k ∈ (bif own then [] else (rowsOf st.hp (AV.refsL vs1)).filter fun k => Nat.ble c.n0 k) := by simpa using hk
    cases own with
    | true => simp at hk'
    | false =>
      simp only [cond_false, List.mem_filter] at hk'
      obtain ⟨h1, t, xs, h2⟩ := rowsOf_mem hk'.1
      have hne := refsL_there hv1 k h1
      have hlt := hinv_there hi.h hne
      have ho := hi.h.obj k hlt
      rw [h2] at ho
      cases hp : μ k with
      | row al l cp sz => exact ⟨hlt, al, l, cp, sz, rfl⟩
      | none => exact absurd hp hne
      | box b => rw [hp] at ho; simp [ORel] at ho
      | map b => rw [hp] at ho; simp [ORel] at ho
  have hge : ∀ k, (bif own then [] else (rowsOf st.hp (AV.refsL vs1)).filter fun k => Nat.ble c.n0 k).contains k = true → c.n0 ≤ k := fun k hk => by
    have hk' : k ∈ (bif own then [] else (rowsOf st.hp (AV.refsL vs1)).filter fun k => Nat.ble c.n0 k) := by simpa using hk
    cases own with
    | true => simp at hk'
    | false =>
      simp only [cond_false, List.mem_filter] at hk'
      simpa using hk'.2
  generalize hF : (bif own then [] else (rowsOf st.hp (AV.refsL vs1)).filter fun k => Nat.ble c.n0 k) = fz at hfz hge ⊢
  have hi1 := inv_frz hi hfz
  have hv2 := frzL_rel hi hfz hv1
  obtain ⟨h1, h2, h3, h4⟩ := kept_spec hi1.h hi1.n0 (refsL_there hv2) 1000
  have hsub : ∀ k i, posIn k (reach (st.frz fz).hp 1000 (heldRefs (st.frz fz).hp c.n0 ++ AV.refsL (AV.frzL st.hp fz vs1)) (rng 0 c.n0)) 0 = some i → subPl (frzPl μ fz) (reach (st.frz fz).hp 1000 (heldRefs (st.frz fz).hp c.n0 ++ AV.refsL (AV.frzL st.hp fz vs1)) (rng 0 c.n0)) i = frzPl μ fz k := fun k i h => by
    obtain ⟨_, h2⟩ := posIn_some h
    simp only [Nat.sub_zero] at h2
    simp [subPl, h2]
  have hh := sub_inv hi1.h h1 h2
  refine ⟨_, _, tupled_rel (vrelL_ren hsub hv2), hh, ⟨hi1.fr.os, hi1.fr.tape, hi1.fr.output, hi1.fr.size, fun b hb hn => hi1.fr.keep b hb (by rw [hfp]; exact hn), hi1.fr.old, fun b hb => by have := hi1.fr.newF b hb; rw [hfp] at this; exact this, fun k b hk => ?_⟩, by rw [List.length_map]; exact h3, fun k b hk h => ?_, fun k b hk h => ?_⟩
  · obtain ⟨k', h'⟩ := subPl_owns hk
    have := hi1.fr.newO k' b h'
    rw [hfp] at this
    exact this
  · rw [h4 k hk]; exact hi1.idb k b hk h
  · rw [h4 k hk]; exact hi1.idm k b hk h

theorem startTm_get : ∀ (vs : List AV) (i t : Nat), i ≤ t → t < i + vs.length → some (ofTm (startTm vs i) t) = vs[t - i]?
  | [], i, t, h1, h2 => by simp at h2; omega
  | v :: vs, i, t, h1, h2 => by
    simp only [startTm, ofTm]
    cases he : t == i with
    | true =>
      have := eq_of_beq he
      subst this
      simp
    | false =>
      have hne : t ≠ i := by simpa using he
      simp only [cond_false]
      rw [startTm_get vs (i + 1) t (by omega) (by simp at h2; omega)]
      have : t - i = (t - (i + 1)) + 1 := by omega
      rw [this, List.getElem?_cons_succ]

theorem start_inv {w : World} {μ : Nat → Pl} {F : Nat → Prop} {args : List AV} {objs : List LObj} {vs : List Value} {nt : Nat} (hh : HInv w (ofHp objs) objs.length μ F) (hv : VRelL μ F w args vs) (hle : args.length ≤ nt) :
    Inv ⟨w, Owned μ, F, μ, objs.length, nt⟩ (startSt args objs nt) { tmps := vs.toArray ++ Array.replicate (nt - vs.toArray.size) undef, defers := [] } w μ F := by
  have hl := vrelL_len hv
  refine ⟨hh, ⟨rfl, rfl, rfl, Nat.le_refl _, fun _ _ _ => rfl, fun _ h => h, fun _ h => .inl h, fun k b h => .inl ⟨k, h⟩⟩, fun _ _ _ h => h, fun _ _ _ h => h, Nat.le_refl _, fun t => ?_, by simp; omega, rfl⟩
  simp only [startSt]
  cases hb : Nat.blt t args.length with
  | true =>
    have hlt : t < args.length := by simpa using hb
    simp only [cond_true]
    have h1 := startTm_get args 0 t (Nat.zero_le _) (by omega)
    obtain ⟨u, hu, hr⟩ := vrelL_get hv (i := t) (c := ofTm (startTm args 0) t) (by rw [h1]; simp)
    have : (vs.toArray ++ Array.replicate (nt - vs.toArray.size) undef).getD t undef = u := by
      rw [Array.getD_eq_getD_getElem?, Array.getElem?_append_left (by simp; omega)]
      simp [hu]
    rw [this]
    exact hr
  | false =>
    have hge : args.length ≤ t := Nat.not_lt.1 fun h => by rw [show Nat.blt t args.length = true from by simpa using h] at hb; cases hb
    simp only [cond_false]
    cases hb2 : Nat.blt t nt with
    | true =>
      simp only [cond_true, VRel]
      rw [Array.getD_eq_getD_getElem?, Array.getElem?_append_right (by simp; omega)]
      have hlt : t < nt := by simpa using hb2
      simp
      rw [Array.getElem?_replicate, if_pos (by omega)]
      rfl
    | false => simp [VRel]

/-- **A function, evaluated, is what its call comes to.** -/
theorem evFn_sound {P : Program} (hmo : P.follows .mixedOrders = true) {T : Tab} (hT : TabOk P T) {orc : Orc} (hO : SoundOrc P orc) {H : Hint} {f : Nat} {fn : Func} (hf : P.funcs[f]? = some fn) (hn : fn.name ≠ "runtime.NumGoroutine")
    {args : List AV} {objs : List LObj} {res : List AV} {objs' : List LObj} (h : evFn T orc H fn args objs = some (res, objs')) : SemF P f args objs res objs' := by
  unfold evFn at h
  split at h
  · cases h
  · rename_i code hb
    refine ⟨⟨fn, hf, hn, by rw [hb]; rfl⟩, fun w μ F vs hh hv => ?_⟩
    cases hd : (dstOk fn.ntmps code && Nat.ble args.length fn.ntmps) with
    | false => rw [hd] at h; cases h
    | true =>
      rw [hd] at h
      simp only [cond_true] at h
      simp only [Bool.and_eq_true, Nat.ble_eq] at hd
      have hi := start_inv hh hv hd.2
      refine calls_of_wp hf hb (evC_sound hmo hT hO (lpN_ok hmo hT hO (c := ⟨w, Owned μ, F, μ, objs.length, fn.ntmps⟩) H 8) code 1000000 _ _ _ _ w μ F hd.1 h hi ?_)
      intro ex st a w' μ' F' hi' hk
      have fin : ∀ vs', resultsE T st fn.results.toList = some vs' → finish T H.own objs.length fn.resultTypes.toList st vs' = (res, objs') →
          a.defers = [] ∧ ∃ v, (results fn a.tmps).run P w' = .ok v w' ∧ ∃ v', (Ending.returned v : Ending) = .returned v' ∧ Post w μ F objs.length res objs' v' w' := fun vs' h1 h2 => by
        obtain ⟨us, h3, h4⟩ := resultsE_rel hT hi' _ _ h1
        exact ⟨hi'.df, _, results_run h3, _, rfl, finish_sound (P := P) hi' h4 rfl h2⟩
      cases ex with
      | exit id => simp [finishK] at hk
      | normal =>
        simp only [finishK] at hk
        split at hk
        · rename_i vs' hvs
          exact fin vs' hvs (by simpa using hk)
        · cases hk
      | ret =>
        simp only [finishK] at hk
        split at hk
        · rename_i vs' hvs
          exact fin vs' hvs (by simpa using hk)
        · cases hk

end Go.Proofs.YtfepkpindchleaaE
