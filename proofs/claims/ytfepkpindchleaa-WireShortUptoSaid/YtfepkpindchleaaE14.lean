/- The engine, part 14: an operation's step. -/
import Derived.Test.YtfepkpindchleaaE13
import Derived.MapKept
namespace Go.Proofs.YtfepkpindchleaaE
open Go
set_option linter.unusedVariables false
set_option linter.unusedSimpArgs false

mutual
theorem refs_frz {hp : Nat → LObj} {ks : List Nat} : ∀ {x : AV} {k : Nat}, k ∈ (x.frz hp ks).refs → k ∈ x.refs
  | .agg cs, k, h => by simp only [AV.frz, AV.refs] at h ⊢; exact refsL_frz h
  | .tup cs, k, h => by simp only [AV.frz, AV.refs] at h ⊢; exact refsL_frz h
  | .fn f cs, k, h => by simp only [AV.frz, AV.refs] at h ⊢; exact refsL_frz h
  | .rptr k' t i off, k, h => by
    simp only [AV.frz] at h
    cases hc : ks.contains k' with
    | true => rw [hc] at h; simp [AV.refs] at h
    | false => rw [hc] at h; simpa using h
  | .rowA k', k, h => by
    simp only [AV.frz] at h
    cases hc : ks.contains k' with
    | true => rw [hc] at h; simp only [cond_true] at h; split at h <;> simp [AV.refs] at h
    | false => rw [hc] at h; simpa using h
  | .rowS k' off n c, k, h => by
    simp only [AV.frz] at h
    cases hc : ks.contains k' with
    | true => rw [hc] at h; simp only [cond_true] at h; split at h <;> simp [AV.refs] at h
    | false => rw [hc] at h; simpa using h
  | .ptr _ _, k, h => by simpa only [AV.frz] using h
  | .mp _, k, h => by simpa only [AV.frz] using h
  | .int _ _, k, h => by simpa only [AV.frz] using h
  | .bool _, k, h => by simpa only [AV.frz] using h
  | .str _, k, h => by simpa only [AV.frz] using h
  | .list _ _, k, h => by simpa only [AV.frz] using h
  | .np, k, h => by simpa only [AV.frz] using h
  | .nm, k, h => by simpa only [AV.frz] using h
  | .nf, k, h => by simpa only [AV.frz] using h
  | .ns, k, h => by simpa only [AV.frz] using h
  | .lptr _ _ _ _, k, h => by simpa only [AV.frz] using h
  | .undef, k, h => by simpa only [AV.frz] using h
  | .dead, k, h => by simpa only [AV.frz] using h
theorem refsL_frz {hp : Nat → LObj} {ks : List Nat} : ∀ {cs : List AV} {k : Nat}, k ∈ AV.refsL (AV.frzL hp ks cs) → k ∈ AV.refsL cs
  | [], k, h => by simpa only [AV.frzL] using h
  | c :: cs, k, h => by
    simp only [AV.frzL, AV.refsL, List.mem_append] at h ⊢
    rcases h with h | h
    · exact .inl (refs_frz h)
    · exact .inr (refsL_frz h)
end

theorem frzL_rel {c : Cx} {st : St} {a : Act} {w : World} {μ : Nat → Pl} {F : Nat → Prop} (hi : Inv c st a w μ F) {ks : List Nat} (hks : ∀ k, ks.contains k = true → k < st.nx ∧ ∃ al l cp sz, μ k = .row al l cp sz) :
    ∀ {xs : List AV} {us : List Value}, VRelL μ F w xs us → VRelL (frzPl μ ks) (frzF μ F ks) w (AV.frzL st.hp ks xs) us
  | [], _, h => by simpa only [AV.frzL, VRelL] using h
  | x :: xs, _, h => by
    simp only [VRelL] at h
    obtain ⟨u, us, rfl, h1, h2⟩ := h
    simp only [AV.frzL, VRelL]
    exact ⟨u, us, rfl, frz_rel hi hks h1, frzL_rel hi hks h2⟩

/-- What a step may count on: the continuation, at whatever the call or the run comes to. -/
def StepOk (P : Program) (c : Cx) (st : St) (a : Act) (w : World) (o : Oper) (f : Eff) : Prop :=
  ∀ (next : Act → World → Prop) (Q : Exit → Act → World → Prop), (∀ v w' μ' F', Inv c (st.apply f).2 a w' μ' F' → VRel μ' F' w' (st.apply f).1 v → next (a.put o.dst v) w') → o.wp P a w next Q

theorem step_outc {P : Program} {c : Cx} {st : St} {a : Act} {w : World} {o : Oper} {s : Sem Value} {f : Eff} (h : Outc P c st a w s f)
    (he : ∀ v w', s.run P w = .ok v w' → (execOp a.eval o).run P w = .ok (.value v) w') : StepOk P c st a w o f := by
  intro next Q hn
  obtain ⟨v, w', μ', F', h1, h2, h3⟩ := h
  unfold Oper.wp
  rw [he v w' h1]
  simp only [Oper.upon]
  exact hn v w' μ' F' h2 h3

theorem calls_step {P : Program} {c : Cx} {st : St} {a : Act} {w : World} {o : Oper} {f : Nat} {vs : List Value} {e : Eff} (hrun : (execOp a.eval o).run P w = .ok (.enter f vs.toArray) w)
    (h : Calls P f vs.toArray w fun x w' => ∃ v, x = .returned v ∧ ∃ μ' F', Inv c (st.apply e).2 a w' μ' F' ∧ VRel μ' F' w' (st.apply e).1 v) : StepOk P c st a w o e := by
  intro next Q hn
  unfold Oper.wp
  rw [hrun]
  simp only [Oper.upon]
  refine h.mono fun x w' hx => ?_
  obtain ⟨v, rfl, μ', F', h1, h2⟩ := hx
  exact hn v w' μ' F' h1 h2

theorem tupled_plain {vs : List AV} (h : AV.plainL vs = true) : (tupled vs).plain = true := by
  match vs with
  | [] => rfl
  | [v] => simp only [AV.plainL, Bool.and_eq_true] at h; exact h.1
  | a :: b :: r => simpa [tupled, AV.plain] using h

mutual
theorem ren_norefs (f : Nat → Option Nat) : ∀ (x : AV), x.refs = [] → x.ren f = x
  | .agg cs, h => by simp only [AV.refs] at h; simp only [AV.ren, renL_norefs f cs h]
  | .tup cs, h => by simp only [AV.refs] at h; simp only [AV.ren, renL_norefs f cs h]
  | .fn g cs, h => by simp only [AV.refs] at h; simp only [AV.ren, renL_norefs f cs h]
  | .ptr _ _, h => by simp [AV.refs] at h
  | .rptr _ _ _ _, h => by simp [AV.refs] at h
  | .rowA _, h => by simp [AV.refs] at h
  | .rowS _ _ _ _, h => by simp [AV.refs] at h
  | .mp _, h => by simp [AV.refs] at h
  | .int _ _, _ => by simp only [AV.ren]
  | .bool _, _ => by simp only [AV.ren]
  | .str _, _ => by simp only [AV.ren]
  | .list _ _, _ => by simp only [AV.ren]
  | .np, _ => by simp only [AV.ren]
  | .nm, _ => by simp only [AV.ren]
  | .nf, _ => by simp only [AV.ren]
  | .ns, _ => by simp only [AV.ren]
  | .lptr _ _ _ _, _ => by simp only [AV.ren]
  | .undef, _ => by simp only [AV.ren]
  | .dead, _ => by simp only [AV.ren]
theorem renL_norefs (f : Nat → Option Nat) : ∀ (cs : List AV), AV.refsL cs = [] → AV.renL f cs = cs
  | [], _ => by simp only [AV.renL]
  | c :: cs, h => by
    simp only [AV.refsL, List.append_eq_nil_iff] at h
    simp only [AV.renL, ren_norefs f c h.1, renL_norefs f cs h.2]
end

theorem callE_rel {P : Program} {T : Tab} {orc : Orc} (hO : SoundOrc P orc) {R : Type} {K : Eff → Option R} {r : R} {c : Cx} {st : St} {a : Act} {w : World} {μ : Nat → Pl} {F : Nat → Prop} (hi : Inv c st a w μ F) {f : Nat} {args : List AV} {vs : List Value} {o : Oper}
    (h : callE T orc st.hp f args K = some r) (hv : VRelL μ F w args vs)
    (hrun : (∃ fn, P.funcs[f]? = some fn ∧ fn.name ≠ "runtime.NumGoroutine" ∧ fn.body.isNone = false) → (execOp a.eval o).run P w = .ok (.enter f vs.toArray) w) : ∃ e, K e = some r ∧ StepOk P c st a w o e := by
  unfold callE at h
  simp only at h
  split at h
  · rename_i hrows
    obtain ⟨hks, _⟩ := rows_all hi.h _ hrows (refsL_there hv)
    · obtain ⟨⟨res, objs'⟩, horc, h⟩ := Tr.run_some h
      simp only at h
      obtain ⟨hfn, hsem⟩ := hO _ _ _ _ _ horc
      have hi1 := inv_frz hi hks
      have hargs0 := frzL_rel hi hks hv
      have hargs : VRelL (fun _ => .none) (frzF μ F (AV.refsL args)) w (AV.frzL st.hp (AV.refsL args) args) vs := by
        refine vrelL_mono (fun _ h => h) (fun _ _ => rfl) (fun k hk => ?_) hargs0
        have h1 := refsL_there hargs0 k hk
        have h2 := refsL_frz hk
        have h3 : (AV.refsL args).contains k = true := by simpa using h2
        simp [frzPl, h2] at h1
      have hcall := hsem w (fun _ => .none) (frzF μ F (AV.refsL args)) vs ⟨fun k hk => by simp at hk, fun _ _ => rfl, fun k k' b h => by simp [Pl.owns] at h, fun k b h => by simp [Pl.owns] at h, hi1.h.inn⟩ hargs
      have hnone : ∀ b, ¬ Owned (fun _ => Pl.none) b := fun b ⟨k, h⟩ => by simp [Pl.owns] at h
      split at h
      · rename_i hpl
        simp only [Bool.and_eq_true] at hpl
        refine ⟨_, h, calls_step (hrun hfn) (hcall.mono fun x w' hx => ?_)⟩
        obtain ⟨v, rfl, μ', F', h1, h2, h3, _⟩ := hx
        have hg : Grew w w' := ⟨h3.os, h3.tape, h3.output, h3.size, fun b hb => h3.keep b hb (hnone b)⟩
        have := inv_news hi hg [] [] rfl (by simp) (by simp) (by simp)
        refine ⟨v, rfl, _, F, this, ?_⟩
        simp only [St.apply]
        exact vrel_plain (tupled_plain hpl.1) h1
      · have hpost' : ∀ v w', Post w (fun _ => .none) (frzF μ F (AV.refsL args)) ([] : List LObj).length res objs' v w' → ∀ (m : Nat → Pl), Post w (subPl m []) (frzF μ F (AV.refsL args)) ([] : List Nat).length res objs' v w' := fun v w' hp m => by
          have : subPl m [] = fun _ => .none := by funext i; simp [subPl]
          rw [this]
          exact hp
        cases hrs : AV.refsL args with
        | nil =>
          have hF : frzF μ F (AV.refsL args) = F := by
            funext b
            rw [hrs]
            simp [frzF]
          have hin : ∀ v w', Post w (fun _ => .none) (frzF μ F (AV.refsL args)) ([] : List LObj).length res objs' v w' → ∃ μ' F', Inv c (st.apply (.call [] [] objs' res)).2 a w' μ' F' ∧ VRel μ' F' w' (st.apply (.call [] [] objs' res)).1 v := fun v w' hp => by
            have h1 := hpost' v w' hp μ
            rw [hF] at h1
            exact inv_call (ks := []) hi (by simp) (by simp) h1
          rw [hrs] at h
          simp only at h
          split at h
          · rename_i hem
            simp only [Bool.and_eq_true, List.isEmpty_iff] at hem
            refine ⟨_, h, calls_step (hrun hfn) (hcall.mono fun x w' hx => ?_)⟩
            obtain ⟨v, rfl, hp⟩ := hx
            obtain ⟨μ', F', h1, h2⟩ := hin v w' hp
            obtain ⟨rfl, hrf⟩ := hem
            refine ⟨v, rfl, μ', F', h1, ?_⟩
            have he : (st.apply (.call [] [] [] res)).1 = (st.apply (.val (tupled res))).1 := by
              simp only [St.apply]
              rw [renL_norefs _ _ hrf]
            rw [he] at h2
            exact h2
          · refine ⟨_, h, calls_step (hrun hfn) (hcall.mono fun x w' hx => ?_)⟩
            obtain ⟨v, rfl, hp⟩ := hx
            exact ⟨v, rfl, hin v w' hp⟩
        | cons k0 ks =>
          rw [hrs] at h
          simp only at h
          split at h
          · rename_i hthin
            simp only [Bool.and_eq_true] at hthin
            refine ⟨_, h, calls_step (hrun hfn) (hcall.mono fun x w' hx => ?_)⟩
            obtain ⟨v, rfl, hp⟩ := hx
            have hp2 := post_thin (F := F) (fun b hb => Or.inl hb) hthin.1 hthin.2 hi.h.inn hp
            have h1 : Post w (subPl μ []) F ([] : List Nat).length res objs' v w' := by
              have : subPl μ [] = fun _ => .none := by funext i; simp [subPl]
              rw [this]
              exact hp2
            exact ⟨v, rfl, inv_call (ks := []) hi (by simp) (by simp) h1⟩
          refine ⟨_, h, calls_step (hrun hfn) (hcall.mono fun x w' hx => ?_)⟩
          obtain ⟨v, rfl, hp⟩ := hx
          have h1 := hpost' v w' hp (frzPl μ (AV.refsL args))
          have h2 := inv_call (ks := []) hi1 (by simp) (by simp) h1
          rw [hrs] at h2
          exact ⟨v, rfl, h2⟩
  · · obtain ⟨⟨res, objs'⟩, horc, h⟩ := Tr.run_some h
      simp only at h
      obtain ⟨hfn, hsem⟩ := hO _ _ _ _ _ horc
      have hQ : ∀ k ∈ reach st.hp 1000 (AV.refsL args) [], μ k ≠ .none := by
        refine reach_all (fun k hk j hj => ?_) 1000 _ _ (refsL_there hv) (by simp)
        exact obj_refs_there (hi.h.obj k (hinv_there hi.h hk)) j hj
      have hnd := reach_nodup (hp := st.hp) 1000 (AV.refsL args) [] (by simp)
      have hlt : ∀ k ∈ reach st.hp 1000 (AV.refsL args) [], k < st.nx := fun k hk => hinv_there hi.h (hQ k hk)
      have hinv := sub_inv hi.h hnd hlt
      have hargs : VRelL (subPl μ (reach st.hp 1000 (AV.refsL args) [])) F w (AV.renL (fun k => posIn k (reach st.hp 1000 (AV.refsL args) []) 0) args) vs :=
        vrelL_ren (fun k i h => by
          obtain ⟨_, h2⟩ := posIn_some h
          simp only [Nat.sub_zero] at h2
          simp [subPl, h2]) hv
      have hcall := hsem w _ F vs hinv hargs
      refine ⟨_, h, calls_step (hrun hfn) (hcall.mono fun x w' hx => ?_)⟩
      obtain ⟨v, rfl, hpost⟩ := hx
      rw [List.length_map] at hpost
      exact ⟨v, rfl, inv_call hi hnd (fun k hk => ⟨hlt k hk, hQ k hk⟩) hpost⟩

theorem mapRel {c : Cx} {st : St} {a : Act} {w : World} {μ : Nat → Pl} {F : Nat → Prop} (hi : Inv c st a w μ F) : ∀ (xs : List Operand), VRelL μ F w (xs.map st.ev) (xs.map a.eval)
  | [] => by simp [VRelL]
  | x :: xs => by simp only [List.map_cons, VRelL]; exact ⟨_, _, rfl, ev_rel hi x, mapRel hi xs⟩

theorem dataNs_rel {μ : Nat → Pl} {F : Nat → Prop} {w : World} : ∀ {cs : List AV} {ts : List (Option Ty)} {us : List Value}, VRelL μ F w cs us → VRelL μ F w (dataNs cs ts) us
  | [], ts, us, h => by cases ts <;> simpa only [dataNs] using h
  | c :: cs, [], us, h => by cases c <;> simpa only [dataNs] using h
  | c :: cs, t :: ts, us, h => by
    simp only [VRelL] at h
    obtain ⟨u, us, rfl, h1, h2⟩ := h
    have key : ∀ c', VRel μ F w c' u → VRelL μ F w (c' :: dataNs cs ts) (u :: us) := fun c' hc => by
      simp only [VRelL]
      exact ⟨u, us, rfl, hc, dataNs_rel h2⟩
    cases c <;> cases t <;> simp only [dataNs] <;> first | exact key _ h1 | skip
    rename_i τ
    simp only [VRel] at h1
    subst h1
    exact key (.list τ []) (enc_list.2 ⟨none, 0, rfl, by simp, fun _ => rfl, fun a ha => by cases ha⟩)
theorem dataAgg_rel {T : Tab} {μ : Nat → Pl} {F : Nat → Prop} {w : World} (t : Nat) {x : AV} {v : Value} (h : VRel μ F w x v) : VRel μ F w (dataAgg T t x) v := by
  unfold dataAgg
  split
  · split
    · simp only [VRel] at h ⊢
      obtain ⟨us, rfl, h1, h2⟩ := h
      exact ⟨us, rfl, dataNs_rel h1, h2⟩
    · exact h
  · exact h

theorem nildV_rel {T : Tab} {μ : Nat → Pl} {F : Nat → Prop} {w : World} (t : Nat) {x : AV} {v : Value} (h : VRel μ F w x v) : VRel μ F w (nildV T t x) v := by
  unfold nildV
  cases T.nild with
  | true => exact dataAgg_rel t h
  | false => exact h
theorem normArg_rel {P : Program} {T : Tab} {μ : Nat → Pl} {F : Nat → Prop} {w : World} (t : Nat) {x : AV} {v : Value} (h : VRel μ F w x v) : VRel μ F w (normArg T t x) v := by
  unfold normArg
  split
  · split
    · split
      · simp only [VRel] at h ⊢
        subst h
        exact ⟨none, 0, rfl, by simp, fun _ => rfl, fun a ha => by cases ha⟩
      · exact h
    · exact h
  · exact dataAgg_rel t h
theorem normArgs_rel {P : Program} {T : Tab} {μ : Nat → Pl} {F : Nat → Prop} {w : World} : ∀ (ts : List Nat) {xs : List AV} {vs : List Value}, VRelL μ F w xs vs → VRelL μ F w (normArgs T ts xs) vs
  | [], xs, vs, h => by cases xs <;> simpa [normArgs] using h
  | t :: ts, [], vs, h => by simpa [normArgs] using h
  | t :: ts, x :: xs, vs, h => by
    simp only [VRelL] at h
    obtain ⟨u, us, rfl, h1, h2⟩ := h
    simp only [normArgs, VRelL]
    exact ⟨u, us, rfl, normArg_rel (P := P) t h1, normArgs_rel (P := P) ts h2⟩

theorem placesE_ok {P : Program} {T : Tab} (hT : TabOk P T) : ∀ (fs : List Field) (ps : List (Nat × Nat)) (w : World), placesE T (fs.map fun f => (f.offset, f.type)) = some ps →
    ((fs.mapM fun f => Prod.mk f.offset <$> sizeOf f.type) : Sem (List (Nat × Nat))).run P w = .ok ps w
  | [], ps, w, h => by simp [placesE] at h; subst h; simp
  | f :: fs, ps, w, h => by
    simp only [List.map_cons, placesE] at h
    split at h
    · rename_i n r hn hr
      cases h
      have := placesE_ok hT fs r w hr
      simp [List.mapM_cons, size_run hT hn, this]
    · cases h

theorem buildE_rel {P : Program} {T : Tab} (hT : TabOk P T) {μ : Nat → Pl} {F : Nat → Prop} {w : World} {t : Nat} {ps : List (Nat × AV)} {qs : List (Nat × Value)} {x : AV}
    (h : buildE T t ps = some x) (hl : qs.length = ps.length) (hr : ∀ (i : Nat) (p : Nat × AV) (q : Nat × Value), ps[i]? = some p → qs[i]? = some q → q.1 = p.1 ∧ VRel μ F w p.2 q.2) :
    ∃ v, (Instr.build t qs.toArray).run P w = .ok v w ∧ VRel μ F w x v := by
  unfold buildE at h
  split at h
  · cases h
  · rename_i row hrow
    obtain ⟨i0, z, e1, e2, e3, e4, e5, e6, e7, e8⟩ := (hT t row hrow).info
    have hdesc := (hT t row hrow).desc
    split at h
    · rename_i fs hd
      rw [hd] at hdesc
      obtain ⟨fields, hu, rfl, _⟩ := hdesc
      split at h
      · rename_i pl hpl
        split at h
        · rename_i cs hcs
          cases h
          obtain ⟨vs, g1, g2, g3⟩ := fillE_rel ps qs row.zero cs z.cells.toList hl hr hcs (e6 μ F w) e7
          refine ⟨.agg vs.toArray, ?_, by simp only [VRel]; exact ⟨vs, rfl, g2, g3⟩⟩
          have hm := placesE_ok hT fields.toList pl w hpl
          have hm2 : ((fields.mapM fun f => Prod.mk f.offset <$> sizeOf f.type) : Sem (Array (Nat × Nat))).run P w = .ok pl.toArray w := by
            rw [Array.mapM_eq_mapM_toList]
            simp only [Sem.run_map, hm, Result.andThen_ok]
          have g1' : Instr.fill (fun i => pl[i]?) z.cells qs = some vs.toArray := by simpa using g1
          simp [Instr.build, zeroValue, typeInfo, e1, e4, run_underlying hu, hm2, g1']
        · cases h
      · cases h
    · rename_i n e hd
      rw [hd] at hdesc
      simp only [DescOk] at hdesc
      split at h
      · rename_i m hm
        split at h
        · rename_i cs hcs
          cases h
          obtain ⟨vs, g1, g2, g3⟩ := fillE_rel ps qs row.zero cs z.cells.toList hl hr hcs (e6 μ F w) e7
          refine ⟨.agg vs.toArray, ?_, by simp only [VRel]; exact ⟨vs, rfl, g2, g3⟩⟩
          have g1' : Instr.fill (fun i => some (i * m, m)) z.cells qs = some vs.toArray := by simpa using g1
          simp [Instr.build, zeroValue, typeInfo, e1, e4, run_underlying hdesc, size_run hT hm, g1']
        · cases h
      · cases h
    · cases h


/-! ### Copy of a string into a row -/
theorem copyE_rel {P : Program} {T : Tab} (hT : TabOk P T) {c : Cx} {st : St} {a : Act} {w : World} {μ : Nat → Pl} {F : Nat → Prop} (hi : Inv c st a w μ F) {t tx : Nat} (ty : Nat) {x y : AV} {v u : Value} {f : Eff}
    (h : copyE T st.hp t tx x y = some f) (hv : VRel μ F w x v) (hu : VRel μ F w y u) : Outc P c st a w (Builtin.copy_ #[t, tx] ty #[v, u]) f := by
  unfold copyE at h
  split at h <;> try cases h
  rename_i e hd
  have ht := desc_ok hT hd (by simp)
  simp only [DescOk] at ht
  split at h <;> try cases h
  rename_i s k off len cc hd2
  split at h <;> try cases h
  rename_i xs hk
  split at h <;> cases h
  rename_i hsz
  have hs := size_run hT hsz
  simp only [VRel] at hv hu
  subst hu
  obtain ⟨al, len0, cap, sz, A, cap', hμ, hle, hcap', rfl, hA⟩ := hv
  have hkn : k < st.nx := hinv_there hi.h (by rw [hμ]; simp)
  have ho := hi.h.obj k hkn
  rw [hμ, hk] at ho
  have ho' := ho
  simp only [ORel] at ho
  obtain ⟨h1, h2, h3, h4, h5⟩ := ho
  subst h1 h2
  have hss : (⟨s.toArray⟩ : ByteArray).size = s.length := by simp [ByteArray.size]
  obtain ⟨news, hn⟩ : ∃ news, news = byteCells ⟨(s.take len).toArray⟩ := ⟨_, rfl⟩
  have henc : EncL F w (.int .u8) (bytesInt (s.take len)) news := by rw [hn]; exact encL_bytes _
  have hnl : news.length = min len s.length := by
    have := encL_len henc
    simpa [bytesInt, Ty.sz] using this
  have hmin : Nat.min s.length len = min len s.length := Nat.min_comm _ _
  have htake : (bytesInt s).take len = bytesInt (s.take len) := by simp [bytesInt, List.map_take]
  have hcells : ∀ w, (Builtin.firstCells 1 (min len s.length) (.string ⟨s.toArray⟩)).run P w = .ok news.toArray w := fun w => by
    rw [hn]
    have : ((⟨s.toArray⟩ : ByteArray).extract 0 (min len s.length)) = ⟨(s.take len).toArray⟩ := by
      have e : ((⟨s.toArray⟩ : ByteArray).extract 0 (min len s.length)).data = (s.take len).toArray := by
        rw [ByteArray.data_extract]
        apply Array.ext'
        simp [List.take_eq_take_iff]
      exact ByteArray.ext e
    simp only [Builtin.firstCells, this, byteCells, Sem.run_pure]
    congr 1
    apply Array.ext'
    simp
  by_cases h0 : min len s.length = 0
  · have hnews : news = [] := List.length_eq_zero_iff.1 (by omega)
    have hrun : (Builtin.copy_ #[t, tx] ty #[.slice A len cap', .string ⟨s.toArray⟩]).run P w = .ok (.int .i64 ((min len s.length : Nat) : Int)) w := by
      have hc := hcells w
      rw [hnews] at hc
      cases A with
      | none => simp [Builtin.copy_, run_underlying ht, Builtin.lenOf, hss, hs, hmin, hc, goInt]
      | some ad => simp [Builtin.copy_, run_underlying ht, Builtin.lenOf, hss, hs, hmin, hc, goInt, storeCells]
    refine ⟨_, w, μ, F, hrun, ?_, by simp [St.apply, VRel]⟩
    simp only [St.apply]
    refine inv_upd hi hkn ((Grew.refl w).changed _) ?_
    have e0 : (xs : List Int).take off ++ (bytesInt s).take len ++ (xs : List Int).drop (off + min len s.length) = xs := by
      rw [htake]
      have : s.take len = [] := List.length_eq_zero_iff.1 (by rw [List.length_take]; omega)
      rw [this, h0]
      simp [bytesInt]
    rw [hμ, show (LObj.row (.int .u8) ((xs : List Int).take off ++ (bytesInt s).take len ++ (xs : List Int).drop (off + min len s.length))) = LObj.row (.int .u8) xs by rw [e0]]
    exact ho'
  · have hlen : 0 < len := by omega
    have hcap0 : cap' ≠ 0 := by rw [hcap']; split <;> omega
    obtain ⟨b, o, rfl, rfl⟩ := hA hcap0
    have hcapne : cap ≠ 0 := by omega
    obtain ⟨us, E, fz, g1, g2, g3, g4, g5⟩ := h5 b o rfl hcapne
    simp only [Ty.sz, Nat.mul_one] at g3 g4 ⊢
    have hown : (μ k).owns = some b := by simp [hμ, Pl.owns, hcapne]
    have hfit : o + off + news.length ≤ us.length := by omega
    obtain ⟨e1, e2, e3, e4, e5⟩ := setCells_world b news (o + off) w
    have hFw : ∀ b', F b' → (w.setCells b (o + off) news).heap[b']? = w.heap[b']? := fun b' hb' => e5 b' (fun e => (hi.h.out k b hown).1 (e ▸ hb'))
    have hst := run_storeCells_cells (P := P) b (o + off) news 0 w (fun j hj => by
        have : o + off + j < us.length := by omega
        simp [World.cell?, g1, List.getElem?_eq_getElem this]) (fun j hj => by
        have : o + off + j < us.length := by omega
        have := g2 _ this
        simp only [World.frozen?, g1]
        simp
        intro h1
        simp at this
        omega) (encL_one henc)
    simp only [Nat.add_zero] at hst
    have hrun : (Builtin.copy_ #[t, tx] ty #[.slice (some ⟨b, o + off, none⟩) len cap', .string ⟨s.toArray⟩]).run P w = .ok (.int .i64 ((min len s.length : Nat) : Int)) (w.setCells b (o + off) news) := by
      simp [Builtin.copy_, run_underlying ht, Builtin.lenOf, hss, hs, hmin, hcells w, goInt, hst]
    refine ⟨_, _, μ, F, hrun, ?_, by simp [St.apply, VRel]⟩
    simp only [St.apply]
    refine inv_upd hi hkn ⟨e1, e2, e3, by omega, fun b' _ hne => e5 b' (fun e => hne (by rw [hown, e]))⟩ ?_
    rw [hμ]
    simp only [ORel]
    refine ⟨trivial, by simp [bytesInt]; omega, h3, h4, fun b' o' hbo _ => ?_⟩
    cases hbo
    refine ⟨_, E, fz, setCells_block b E fz news _ w us g1 hfit, free_set hfit g2, by simp [Ty.sz]; omega, ?_, g5⟩
    have := row_put (p := off) (w' := w.setCells b (o + off) news) (us := us) (o := o) (xs := xs) (by simpa [Ty.sz] using g4) henc (by omega) (by simpa [Ty.sz] using hfit) hFw
    intro i q hq
    have := this i q (by rw [htake] at hq; simpa [bytesInt] using hq)
    simpa [Ty.sz] using this

/-! ### Maps -/
theorem cells1 {μ : Nat → Pl} {F : Nat → Prop} {w : World} {v : AV} {cs : List AV} {u : Value} (ha : v.isAgg = false) (h : v.cellsOf = some cs) (hv : VRel μ F w v u) : u.cells = #[u] := by
  cases v <;> simp only [AV.cellsOf] at h <;> (try cases h) <;> simp only [VRel] at hv <;> (try (subst hv; rfl))
  case agg => simp [AV.isAgg] at ha
  case list => obtain ⟨A, cap, rfl, _⟩ := enc_list.1 hv; rfl
  case ptr => obtain ⟨b, _, rfl⟩ := hv; rfl
  case rptr => obtain ⟨b, o, l, c, _, _, rfl⟩ := hv; rfl
  case lptr => obtain ⟨b, o, _, _, _, rfl⟩ := hv; rfl
  case rowA => obtain ⟨a, l, c, s, A, _, rfl, _⟩ := hv; rfl
  case rowS => obtain ⟨a, l, cp, s, A, c', _, _, _, rfl, _⟩ := hv; rfl
  case mp => obtain ⟨b, _, rfl⟩ := hv; rfl
  case fn => obtain ⟨us, rfl, _⟩ := hv; rfl
theorem asTy_one {μ : Nat → Pl} {F : Nat → Prop} {w : World} {t : Ty} {v : AV} {x : t.den} {u : Value} (ha : v.isAgg = false) (h : asTy t v = some x) (hv : VRel μ F w v u) : Enc F w t x [u] := by
  have he := asTy_rel h hv
  unfold asTy at h
  split at h
  · rename_i cs hcs
    rw [cells1 ha hcs hv] at he
    exact he
  · cases h
theorem ofTy_one {μ : Nat → Pl} {F : Nat → Prop} {w : World} {t : Ty} {x : t.den} {u : Value} (h : Enc F w t x [u]) : VRel μ F w (AV.ofTy t x false) u := by
  have hf := flat_rel (μ := μ) t x _ h
  simp only [AV.ofTy, Bool.false_eq_true, if_false]
  split
  · rename_i y hy
    rw [hy] at hf
    simp only [VRelL] at hf
    obtain ⟨u', us', h1, h2, _⟩ := hf
    simp at h1
    rw [h1.1]
    exact h2
  · simp [VRel]

/-- A key's type, and what it is in the model. -/
def KeyD : Ty → TypeDesc → Prop
  | .int k, d => d = .int k
  | .str, d => d = .string
  | _, _ => False
theorem keyTy_ok {P : Program} {T : Tab} (hT : TabOk P T) {t : Nat} {kt : Ty} (h : keyTy T t = some kt) : ∃ d, P.underlying t = some d ∧ KeyD kt d := by
  unfold keyTy at h
  split at h
  · rename_i k hd; cases h; exact ⟨_, by have := desc_ok hT hd (by simp); simpa only [DescOk] using this, rfl⟩
  · rename_i hd; cases h; exact ⟨_, by have := desc_ok hT hd (by simp); simpa only [DescOk] using this, rfl⟩
  · cases h
theorem key_is {F : Nat → Prop} {w : World} {kt : Ty} {d : TypeDesc} (hk : KeyD kt d) {x : kt.den} {v : Value} (h : Enc F w kt x [v]) : MapKept.IsKey d v := by
  cases kt <;> simp only [KeyD] at hk
  · subst hk; simp [Enc] at h; subst h; simp [MapKept.IsKey]
  · subst hk; simp [Enc] at h; subst h; simp [MapKept.IsKey]
theorem key_same {F : Nat → Prop} {w : World} {kt : Ty} {d : TypeDesc} (hk : KeyD kt d) {x y : kt.den} {u v : Value} (hx : Enc F w kt x [u]) (hy : Enc F w kt y [v]) : Instr.sameNow d u v = some (kt.keq x y) ∧ (kt.keq x y = true → Instr.sameBits 10000 v u = true) := by
  cases kt <;> simp only [KeyD] at hk
  · subst hk
    simp [Enc] at hx hy
    subst hx hy
    simp [Instr.sameNow, Ty.keq, Instr.sameBits]
    exact ⟨rfl, fun h => h.symm⟩
  · subst hk
    simp [Enc] at hx hy
    subst hx hy
    refine ⟨?_, fun h => ?_⟩
    · simp only [Instr.sameNow, Ty.keq]
      congr 1
      by_cases h : x = y
      · rw [h]
        exact ((MapKept.bytes_beq _ _).2 rfl).trans (by simp)
      · have h1 : (x == y) = false := by simpa using h
        have h2 : ((⟨List.toArray x⟩ : ByteArray) == ⟨List.toArray y⟩) = false := by
          cases hb : ((⟨List.toArray x⟩ : ByteArray) == ⟨List.toArray y⟩) with
          | false => rfl
          | true =>
            have e := (MapKept.bytes_beq _ _).1 hb
            simp at e
            exact absurd e h
        rw [h1, h2]
    · simp only [Ty.keq, beq_iff_eq] at h
      rw [h]
      simp only [Instr.sameBits]
      exact (MapKept.bytes_beq _ _).2 rfl

theorem find_rel {F : Nat → Prop} {w : World} {kt vt : Ty} {d : TypeDesc} (hk : KeyD kt d) {x : kt.den} {k : Value} (hx : Enc F w kt x [k]) : ∀ (es : List (kt.den × vt.den)) (ms : List MapEntry) (i : Nat), MRel F w kt vt es ms →
    (Instr.findNow d k ms i = some none ∧ lookM kt vt x es = none ∧ ∀ y v b, Enc F w vt y [v] → MRel F w kt vt (putM kt vt x y es) (ms ++ [{ key := k, val := v, born := b }])) ∨
    ∃ n m y, Instr.findNow d k ms i = some (some (i + n, m.val)) ∧ ms[n]? = some m ∧ lookM kt vt x es = some y ∧ Enc F w vt y [m.val] ∧ Instr.sameBits 10000 m.key k = true ∧
      ∀ z v, Enc F w vt z [v] → MRel F w kt vt (putM kt vt x z es) (ms.modify n fun e => { e with key := k, val := v })
  | [], ms, i, h => by
    simp only [MRel] at h
    subst h
    refine .inl ⟨rfl, rfl, fun y v b hv => ?_⟩
    simp only [putM, List.nil_append, MRel]
    exact ⟨_, [], rfl, hx, hv, rfl⟩
  | e :: es, _, i, ⟨m, r, rfl, h2, h3, h4⟩ => by
    obtain ⟨hs, hb⟩ := key_same hk hx h2
    cases hq : kt.keq x e.1 with
    | true =>
      refine .inr ⟨0, m, e.2, by simp [Instr.findNow, hs, hq], rfl, by simp [lookM, hq], h3, hb hq, fun z v hv => ?_⟩
      simp only [putM, hq, cond_true, MRel]
      exact ⟨_, r, rfl, hx, hv, h4⟩
    | false =>
      rcases find_rel hk hx es r (i + 1) h4 with ⟨f1, f2, f3⟩ | ⟨n, m', y, f1, f2, f3, f4, f5, f6⟩
      · refine .inl ⟨by simp [Instr.findNow, hs, hq, f1], by simp [lookM, hq, f2], fun y v b hv => ?_⟩
        simp only [putM, hq, cond_false, MRel, List.cons_append]
        exact ⟨_, _, rfl, h2, h3, f3 y v b hv⟩
      · refine .inr ⟨n + 1, m', y, by simp [Instr.findNow, hs, hq, f1]; omega, by simpa using f2, by simp [lookM, hq, f3], f4, f5, fun z v hv => ?_⟩
        simp only [putM, hq, cond_false, MRel, List.modify_succ_cons]
        exact ⟨_, _, rfl, h2, h3, f6 z v hv⟩

theorem valTy_ok {P : Program} {T : Tab} (hT : TabOk P T) {t : Nat} {vt : Ty} (h : valTy T t = some vt) : ∃ z, (∀ w, (zeroValue t).run P w = .ok z w) ∧ (∀ F w, Enc F w vt vt.dflt [z]) := by
  unfold valTy at h
  split at h
  · rename_i r hr
    split at h
    · rename_i τ hτ
      split at h <;> cases h
      rename_i hc
      obtain ⟨i, z, e1, e2, e3, e4, e5, e6, e7, e8⟩ := (hT t r hr).info
      have hz : z.cells = #[z] := (hT t r hr).plain hc.2 i z e1 e4
      exact ⟨z, fun w => by simp [zeroValue, typeInfo, e1, e4], fun F w => by have := e8 _ hτ F w; rwa [hz] at this⟩
    · cases h
  · cases h


theorem mapTys_ok {P : Program} {T : Tab} (hT : TabOk P T) {t : Nat} {p : Ty × Ty} (h : mapTys T t = some p) : ∃ k e, P.underlying t = some (.map k e) ∧ keyTy T k = some p.1 ∧ valTy T e = some p.2 := by
  unfold mapTys at h
  split at h
  · rename_i k e hd
    split at h
    · rename_i kt vt h1 h2
      cases h
      exact ⟨k, e, by have := desc_ok hT hd (by simp); simpa only [DescOk] using this, h1, h2⟩
    · cases h
  · cases h


theorem inv_map {c : Cx} {st : St} {a : Act} {w : World} {μ : Nat → Pl} {F : Nat → Prop} (hi : Inv c st a w μ F) (kt vt : Ty) :
    Inv c (st.news [.mpo kt vt []]) a (w.alloc (.map #[] 0)) (addPl μ st.nx [.map w.heap.size]) F ∧ VRel (addPl μ st.nx [.map w.heap.size]) F (w.alloc (.map #[] 0)) (.mp st.nx) (.map (some w.heap.size)) := by
  refine ⟨inv_news hi (grew_alloc w _) _ _ rfl ?_ ?_ ?_, ?_⟩
  · intro i o p ho hp
    cases i with
    | zero =>
      simp at ho hp
      subst ho hp
      simp only [ORel]
      exact ⟨[], 0, alloc_new w _, rfl⟩
    | succ i => simp at ho
  · intro i p b hp hpo
    cases i with
    | zero => simp at hp; subst hp; simp [Pl.owns] at hpo; subst hpo; simp
    | succ i => simp at hp
  · intro i j p q b hp hq _ _
    cases i <;> cases j <;> simp at hp hq <;> rfl
  · simp only [VRel]
    exact ⟨w.heap.size, by have := addPl_new (μ := μ) (nx := st.nx) (ps := [Pl.map w.heap.size]) 0; simpa using this, rfl⟩

theorem makeMapE_rel {P : Program} {T : Tab} {c : Cx} {st : St} {a : Act} {w : World} {μ : Nat → Pl} {F : Nat → Prop} (hi : Inv c st a w μ F) {t : Nat} {f : Eff}
    (h : makeMapE T st.nx t = some f) : Outc P c st a w (Instr.makeMap t none) f := by
  unfold makeMapE at h
  split at h <;> cases h
  rename_i p _
  have := inv_map hi p.1 p.2
  exact ⟨_, _, _, F, by simp [Instr.makeMap], this.1, this.2⟩

theorem lookE_rel {P : Program} {T : Tab} (hT : TabOk P T) {w : World} {hp : Nat → LObj} {nx : Nat} {μ : Nat → Pl} {F : Nat → Prop} (hi : HInv w hp nx μ F) {t : Nat} {m k z : AV} {ok : Bool} {u v : Value}
    (h : lookE T hp t m k ok = some z) (hm : VRel μ F w m u) (hk : VRel μ F w k v) : ∃ q, (Instr.lookup t u v ok).run P w = .ok q w ∧ VRel μ F w z q := by
  unfold lookE at h
  split at h <;> try cases h
  rename_i p j hp'
  obtain ⟨kd, e, ht, hkt, hvt⟩ := mapTys_ok hT hp'
  split at h <;> try cases h
  rename_i kt vt es hes
  split at h <;> try cases h
  rename_i hpe
  obtain ⟨rfl, hka⟩ := hpe
  split at h <;> try cases h
  rename_i x hx
  simp only [VRel] at hm
  obtain ⟨b, hμ, rfl⟩ := hm
  have ho := hi.obj j (by
    by_cases hlt : j < nx
    · exact hlt
    · rw [hi.top j (by omega)] at hμ; cases hμ)
  rw [hes, hμ] at ho
  simp only [ORel] at ho
  obtain ⟨ms, clock, hb, hM⟩ := ho
  obtain ⟨d, hd, hkd⟩ := keyTy_ok hT hkt
  have hkv := asTy_one hka hx hk
  have hck : ∀ e', (Instr.checkKey e' 10000 kd v).run P w = .ok () w := fun e' => MapKept.run_checkKey hd (key_is hkd hkv) e' 9999
  obtain ⟨zv, hz1, hz2⟩ := valTy_ok hT hvt
  rcases find_rel hkd hkv es ms 0 hM with ⟨f1, f2, _⟩ | ⟨n, m, y, f1, f2, f3, f4, _, _⟩
  · have hf := MapKept.run_findKey (P := P) (w := w) hd f1
    have hg : getM kt vt x es = vt.dflt := by simp [getM, f2]
    have hh : hasM kt vt x es = false := by simp [hasM, f2]
    cases ok with
    | true =>
      simp only [if_true] at h
      cases h
      refine ⟨.tuple #[zv, .bool false], by simp [Instr.lookup, run_underlying ht, MapKept.run_getObj_map hb, hck, hf, hz1], ?_⟩
      simp only [VRel, VRelL]
      exact ⟨[zv, .bool false], rfl, zv, [.bool false], rfl, by rw [hg]; exact ofTy_one (hz2 F w), .bool false, [], rfl, by rw [hh], rfl⟩
    | false =>
      simp at h
      subst h
      exact ⟨zv, by simp [Instr.lookup, run_underlying ht, MapKept.run_getObj_map hb, hck, hf, hz1], by rw [hg]; exact ofTy_one (hz2 F w)⟩
  · have hf := MapKept.run_findKey (P := P) (w := w) hd f1
    have hg : getM kt vt x es = y := by simp [getM, f3]
    have hh : hasM kt vt x es = true := by simp [hasM, f3]
    cases ok with
    | true =>
      simp only [if_true] at h
      cases h
      refine ⟨.tuple #[m.val, .bool true], by simp [Instr.lookup, run_underlying ht, MapKept.run_getObj_map hb, hck, hf], ?_⟩
      simp only [VRel, VRelL]
      exact ⟨[m.val, .bool true], rfl, m.val, [.bool true], rfl, by rw [hg]; exact ofTy_one f4, .bool true, [], rfl, by rw [hh], rfl⟩
    | false =>
      simp at h
      subst h
      exact ⟨m.val, by simp [Instr.lookup, run_underlying ht, MapKept.run_getObj_map hb, hck, hf], by rw [hg]; exact ofTy_one f4⟩


theorem isAgg_frz (hp : Nat → LObj) (ks : List Nat) (v : AV) (h : v.isAgg = false) : (v.frz hp ks).isAgg = false := by
  cases v <;> first | rfl | (simp [AV.isAgg] at h; done) | skip
  all_goals simp only [AV.frz]
  all_goals (cases ks.contains _ <;> simp only [cond_true, cond_false])
  all_goals first | rfl | skip
  all_goals (split <;> rfl)

/-- An entry more, or another value. -/
theorem put_map {P : Program} {T : Tab} (hT : TabOk P T) {c : Cx} {st : St} {a : Act} {w : World} {μ : Nat → Pl} {F : Nat → Prop} (hi : Inv c st a w μ F) {t j b : Nat} {kt vt : Ty} {es : List (kt.den × vt.den)}
    (hp' : mapTys T t = some (kt, vt)) (hes : st.hp j = .mpo kt vt es) (hμ : μ j = .map b) {x : kt.den} {y : vt.den} {k v : Value} (hx : Enc F w kt x [k]) (hy : Enc F w vt y [v]) :
    ∃ w', (Instr.mapUpdate t (.map (some b)) k v).run P w = .ok () w' ∧ Inv c (st.upd j (.mpo kt vt (putM kt vt x y es))) a w' μ F := by
  obtain ⟨kd, e, ht, hkt, hvt⟩ := mapTys_ok hT hp'
  have hj : j < st.nx := by
    by_cases hlt : j < st.nx
    · exact hlt
    · rw [hi.h.top j (by omega)] at hμ; cases hμ
  have ho := hi.h.obj j hj
  rw [hes, hμ] at ho
  simp only [ORel] at ho
  obtain ⟨ms, clock, hb, hM⟩ := ho
  obtain ⟨d, hd, hkd⟩ := keyTy_ok hT hkt
  have hck : (Instr.checkKey false 10000 kd k).run P w = .ok () w := MapKept.run_checkKey hd (key_is hkd hx) false 9999
  have hch : ∀ o : Obj, Changed w { w with heap := w.heap.setIfInBounds b o } (fun b' => (μ j).owns = some b') := fun o =>
    ⟨rfl, rfl, rfl, by simp, fun b' _ hne => (MapKept.heap_set (o' := o) hb).2 b' (fun e => hne (by rw [hμ, e]; rfl))⟩
  have hFw : ∀ (o : Obj) b', F b' → ({ w with heap := w.heap.setIfInBounds b o } : World).heap[b']? = w.heap[b']? := fun o b' hb' => (MapKept.heap_set (o' := o) hb).2 b' (fun e => (hi.h.out j b (by rw [hμ]; rfl)).1 (e ▸ hb'))
  rcases find_rel hkd hx es ms 0 hM with ⟨f1, f2, f3⟩ | ⟨n, m, z, f1, f2, f3, f4, f5, f6⟩
  · have hf := MapKept.run_findKey (P := P) (w := w) hd f1
    refine ⟨({ w with heap := w.heap.setIfInBounds b (.map (ms ++ [({ key := k, val := v, born := clock } : MapEntry)]).toArray (clock + 1)) } : World), by simp [Instr.mapUpdate, run_underlying ht, MapKept.run_getObj_map hb, hck, hf, MapKept.run_setObj_map _ hb], ?_⟩
    refine inv_upd hi hj (hch _) ?_
    rw [hμ]
    simp only [ORel]
    refine ⟨ms ++ [{ key := k, val := v, born := clock }], clock + 1, ?_, (f3 y v clock hy).mono (fun _ h => h) (hFw _)⟩
    rw [(MapKept.heap_set hb).1]
  · have hf := MapKept.run_findKey (P := P) (w := w) hd f1
    have hkeep : (Instr.keyThatStays (((ms.toArray[n]?).map (·.key)).getD k) k).run P w = .ok k w := by
      have : ms.toArray[n]? = some m := by simpa using f2
      rw [this]
      simp [Instr.keyThatStays, f5]
    refine ⟨_, by
      simp only [Instr.mapUpdate, Sem.run_bind, run_underlying ht, Result.andThen_ok, MapKept.run_getObj_map hb, hck, hf]
      simp only [Nat.zero_add, hkeep, Result.andThen_ok, Sem.run_bind]
      exact MapKept.run_setObj_map _ hb, ?_⟩
    refine inv_upd hi hj (hch _) ?_
    rw [hμ]
    simp only [ORel]
    refine ⟨ms.modify n (fun e => { e with key := k, val := v }), clock, ?_, (f6 y v hy).mono (fun _ h => h) (hFw _)⟩
    rw [(MapKept.heap_set hb).1]
    simp

theorem updE_rel {P : Program} {T : Tab} (hT : TabOk P T) {c : Cx} {st : St} {a : Act} {w : World} {μ : Nat → Pl} {F : Nat → Prop} (hi : Inv c st a w μ F) {t : Nat} {m k v : AV} {f : Eff} {u uk uv : Value}
    (h : updE T st.hp t m k v = some f) (hm : VRel μ F w m u) (hk : VRel μ F w k uk) (hv : VRel μ F w v uv) :
    ∃ w' μ' F', (Instr.mapUpdate t u uk uv).run P w = .ok () w' ∧ Inv c (st.apply f).2 a w' μ' F' ∧ (st.apply f).1 = .undef := by
  unfold updE at h
  split at h <;> try cases h
  rename_i p j hp'
  split at h <;> try cases h
  rename_i kt vt es hes
  split at h <;> try cases h
  rename_i hpe
  obtain ⟨rfl, hka, hva⟩ := hpe
  simp only [VRel] at hm
  obtain ⟨b, hμ, rfl⟩ := hm
  split at h
  · split at h <;> cases h
    rename_i x y hx hy
    obtain ⟨w', g1, g2⟩ := put_map hT hi hp' hes hμ (asTy_one hka hx hk) (asTy_one hva hy hv)
    exact ⟨w', μ, F, g1, g2, rfl⟩
  · rename_i r rs hrs
    split at h <;> try cases h
    rename_i hrows
    split at h <;> cases h
    rename_i x y hx hy
    have hall := rows_all hi.h (r :: rs) hrows (fun k hk => refs_there hv k (hrs ▸ hk))
    have hks : ∀ k, (r :: rs).contains k = true → k < st.nx ∧ ∃ al l cp sz, μ k = .row al l cp sz := hall.1
    have hi2 := inv_frz hi hks
    have hjk : (r :: rs).contains j = false := by
      cases hc : (r :: rs).contains j with
      | false => rfl
      | true => obtain ⟨_, al, l, cp, sz, e⟩ := hks j hc; rw [hμ] at e; cases e
    have hμ2 : frzPl μ (r :: rs) j = .map b := by simp only [frzPl, hjk]; exact hμ
    have hes2 : (st.frz (r :: rs)).hp j = .mpo kt vt es := by simp only [St.frz, hjk, cond_false, hes]; rfl
    have hv2 := frz_rel hi hks hv
    have hxe := (asTy_one hka hx hk).mono (F' := frzF μ F (r :: rs)) (w' := w) (fun b h => Or.inl h) (fun _ _ => rfl)
    have hye := asTy_one (isAgg_frz _ _ _ hva) hy hv2
    obtain ⟨w', g1, g2⟩ := put_map hT hi2 hp' hes2 hμ2 hxe hye
    refine ⟨w', frzPl μ (r :: rs), frzF μ F (r :: rs), g1, ?_, rfl⟩
    have e : (st.apply (.call (r :: rs) [j] [.mpo kt vt (putM kt vt x y es)] [.undef])).2 = (st.frz (r :: rs)).upd j (.mpo kt vt (putM kt vt x y es)) := by
      have hr0 : rowsOf (st.frz (r :: rs)).hp [j] = [] := by simp only [rowsOf, hes2]
      simp only [St.apply, List.length_cons, List.length_nil, List.drop_succ_cons, List.drop_nil, List.map_nil, St.news]
      rw [hr0]
      simp only [St.upd]
      congr 1
      · funext t; exact kill_nil _
      · funext k'
        simp only [posIn]
        by_cases hkj : j = k'
        · subst hkj
          simp [ofHp, LObj.ren]
        · have h1 : (j == k') = false := by simpa using hkj
          have h2 : (k' == j) = false := by simpa using fun e : k' = j => hkj e.symm
          rw [h1, h2]
          simp only [cond_false]
          cases hob : (st.frz (r :: rs)).hp k' <;> simp only [LObj.kill]
          rw [killL_nil]
    rw [e]
    exact g2

end Go.Proofs.YtfepkpindchleaaE
