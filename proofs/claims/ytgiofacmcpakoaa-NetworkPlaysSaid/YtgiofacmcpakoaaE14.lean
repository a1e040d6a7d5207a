/- The engine, part 14: an operation's step. -/
import Derived.Test.YtgiofacmcpakoaaE13
namespace Go.Proofs.YtgiofacmcpakoaaE
open Go
set_option linter.unusedVariables false
set_option linter.unusedSimpArgs false

mutual
theorem refs_frz {hp : Nat → LObj} {ks : List Nat} : ∀ {x : AV} {k : Nat}, k ∈ (x.frz hp ks).refs → k ∈ x.refs
  | .agg cs, k, h => by simp only [AV.frz, AV.refs] at h ⊢; exact refsL_frz h
  | .tup cs, k, h => by simp only [AV.frz, AV.refs] at h ⊢; exact refsL_frz h
  | .fn f cs, k, h => by simp only [AV.frz, AV.refs] at h ⊢; exact refsL_frz h
  | .rptr k' t i off, k, h => by
    simp only [AV.frz] at h
    cases hc : ks.contains k' with
    | true => rw [hc] at h; simp [AV.refs] at h
    | false => rw [hc] at h; simpa using h
  | .rowA k', k, h => by
    simp only [AV.frz] at h
    cases hc : ks.contains k' with
    | true => rw [hc] at h; simp only [cond_true] at h; split at h <;> simp [AV.refs] at h
    | false => rw [hc] at h; simpa using h
  | .rowS k' off n c, k, h => by
    simp only [AV.frz] at h
    cases hc : ks.contains k' with
    | true => rw [hc] at h; simp only [cond_true] at h; split at h <;> simp [AV.refs] at h
    | false => rw [hc] at h; simpa using h
  | .ptr _ _, k, h => by simpa only [AV.frz] using h
  | .mp _, k, h => by simpa only [AV.frz] using h
  | .int _ _, k, h => by simpa only [AV.frz] using h
  | .bool _, k, h => by simpa only [AV.frz] using h
  | .str _, k, h => by simpa only [AV.frz] using h
  | .list _ _, k, h => by simpa only [AV.frz] using h
  | .np, k, h => by simpa only [AV.frz] using h
  | .nm, k, h => by simpa only [AV.frz] using h
  | .nf, k, h => by simpa only [AV.frz] using h
  | .ns, k, h => by simpa only [AV.frz] using h
  | .lptr _ _ _ _, k, h => by simpa only [AV.frz] using h
  | .undef, k, h => by simpa only [AV.frz] using h
  | .dead, k, h => by simpa only [AV.frz] using h
theorem refsL_frz {hp : Nat → LObj} {ks : List Nat} : ∀ {cs : List AV} {k : Nat}, k ∈ AV.refsL (AV.frzL hp ks cs) → k ∈ AV.refsL cs
  | [], k, h => by simpa only [AV.frzL] using h
  | c :: cs, k, h => by
    simp only [AV.frzL, AV.refsL, List.mem_append] at h ⊢
    rcases h with h | h
    · exact .inl (refs_frz h)
    · exact .inr (refsL_frz h)
end

theorem frzL_rel {c : Cx} {st : St} {a : Act} {w : World} {μ : Nat → Pl} {F : Nat → Prop} (hi : Inv c st a w μ F) {ks : List Nat} (hks : ∀ k, ks.contains k = true → k < st.nx ∧ ∃ al l cp sz, μ k = .row al l cp sz) :
    ∀ {xs : List AV} {us : List Value}, VRelL μ F w xs us → VRelL (frzPl μ ks) (frzF μ F ks) w (AV.frzL st.hp ks xs) us
  | [], _, h => by simpa only [AV.frzL, VRelL] using h
  | x :: xs, _, h => by
    simp only [VRelL] at h
    obtain ⟨u, us, rfl, h1, h2⟩ := h
    simp only [AV.frzL, VRelL]
    exact ⟨u, us, rfl, frz_rel hi hks h1, frzL_rel hi hks h2⟩

/-- What a step may count on: the continuation, at whatever the call or the run comes to. -/
def StepOk (P : Program) (c : Cx) (st : St) (a : Act) (w : World) (o : Oper) (f : Eff) : Prop :=
  ∀ (next : Act → World → Prop) (Q : Exit → Act → World → Prop), (∀ v w' μ' F', Inv c (st.apply f).2 a w' μ' F' → VRel μ' F' w' (st.apply f).1 v → next (a.put o.dst v) w') → o.wp P a w next Q

theorem step_outc {P : Program} {c : Cx} {st : St} {a : Act} {w : World} {o : Oper} {s : Sem Value} {f : Eff} (h : Outc P c st a w s f)
    (he : ∀ v w', s.run P w = .ok v w' → (execOp a.eval o).run P w = .ok (.value v) w') : StepOk P c st a w o f := by
  intro next Q hn
  obtain ⟨v, w', μ', F', h1, h2, h3⟩ := h
  unfold Oper.wp
  rw [he v w' h1]
  simp only [Oper.upon]
  exact hn v w' μ' F' h2 h3

theorem calls_step {P : Program} {c : Cx} {st : St} {a : Act} {w : World} {o : Oper} {f : Nat} {vs : List Value} {e : Eff} (hrun : (execOp a.eval o).run P w = .ok (.enter f vs.toArray) w)
    (h : Calls P f vs.toArray w fun x w' => ∃ v, x = .returned v ∧ ∃ μ' F', Inv c (st.apply e).2 a w' μ' F' ∧ VRel μ' F' w' (st.apply e).1 v) : StepOk P c st a w o e := by
  intro next Q hn
  unfold Oper.wp
  rw [hrun]
  simp only [Oper.upon]
  refine h.mono fun x w' hx => ?_
  obtain ⟨v, rfl, μ', F', h1, h2⟩ := hx
  exact hn v w' μ' F' h1 h2

theorem tupled_plain {vs : List AV} (h : AV.plainL vs = true) : (tupled vs).plain = true := by
  match vs with
  | [] => rfl
  | [v] => simp only [AV.plainL, Bool.and_eq_true] at h; exact h.1
  | a :: b :: r => simpa [tupled, AV.plain] using h

mutual
theorem ren_norefs (f : Nat → Option Nat) : ∀ (x : AV), x.refs = [] → x.ren f = x
  | .agg cs, h => by simp only [AV.refs] at h; simp only [AV.ren, renL_norefs f cs h]
  | .tup cs, h => by simp only [AV.refs] at h; simp only [AV.ren, renL_norefs f cs h]
  | .fn g cs, h => by simp only [AV.refs] at h; simp only [AV.ren, renL_norefs f cs h]
  | .ptr _ _, h => by simp [AV.refs] at h
  | .rptr _ _ _ _, h => by simp [AV.refs] at h
  | .rowA _, h => by simp [AV.refs] at h
  | .rowS _ _ _ _, h => by simp [AV.refs] at h
  | .mp _, h => by simp [AV.refs] at h
  | .int _ _, _ => by simp only [AV.ren]
  | .bool _, _ => by simp only [AV.ren]
  | .str _, _ => by simp only [AV.ren]
  | .list _ _, _ => by simp only [AV.ren]
  | .np, _ => by simp only [AV.ren]
  | .nm, _ => by simp only [AV.ren]
  | .nf, _ => by simp only [AV.ren]
  | .ns, _ => by simp only [AV.ren]
  | .lptr _ _ _ _, _ => by simp only [AV.ren]
  | .undef, _ => by simp only [AV.ren]
  | .dead, _ => by simp only [AV.ren]
theorem renL_norefs (f : Nat → Option Nat) : ∀ (cs : List AV), AV.refsL cs = [] → AV.renL f cs = cs
  | [], _ => by simp only [AV.renL]
  | c :: cs, h => by
    simp only [AV.refsL, List.append_eq_nil_iff] at h
    simp only [AV.renL, ren_norefs f c h.1, renL_norefs f cs h.2]
end

theorem callE_rel {P : Program} {T : Tab} {orc : Orc} (hO : SoundOrc P orc) {R : Type} {K : Eff → Option R} {r : R} {c : Cx} {st : St} {a : Act} {w : World} {μ : Nat → Pl} {F : Nat → Prop} (hi : Inv c st a w μ F) {f : Nat} {args : List AV} {vs : List Value} {o : Oper}
    (h : callE T orc st.hp f args K = some r) (hv : VRelL μ F w args vs)
    (hrun : (∃ fn, P.funcs[f]? = some fn ∧ fn.name ≠ "runtime.NumGoroutine" ∧ fn.body.isNone = false) → (execOp a.eval o).run P w = .ok (.enter f vs.toArray) w) : ∃ e, K e = some r ∧ StepOk P c st a w o e := by
  unfold callE at h
  simp only at h
  split at h
  · rename_i hrows
    obtain ⟨hks, _⟩ := rows_all hi.h _ hrows (refsL_there hv)
    · obtain ⟨⟨res, objs'⟩, horc, h⟩ := Tr.run_some h
      simp only at h
      obtain ⟨hfn, hsem⟩ := hO _ _ _ _ _ horc
      have hi1 := inv_frz hi hks
      have hargs0 := frzL_rel hi hks hv
      have hargs : VRelL (fun _ => .none) (frzF μ F (AV.refsL args)) w (AV.frzL st.hp (AV.refsL args) args) vs := by
        refine vrelL_mono (fun _ h => h) (fun _ _ => rfl) (fun k hk => ?_) hargs0
        have h1 := refsL_there hargs0 k hk
        have h2 := refsL_frz hk
        have h3 : (AV.refsL args).contains k = true := by simpa using h2
        simp [frzPl, h2] at h1
      have hcall := hsem w (fun _ => .none) (frzF μ F (AV.refsL args)) vs ⟨fun k hk => by simp at hk, fun _ _ => rfl, fun k k' b h => by simp [Pl.owns] at h, fun k b h => by simp [Pl.owns] at h, hi1.h.inn⟩ hargs
      have hnone : ∀ b, ¬ Owned (fun _ => Pl.none) b := fun b ⟨k, h⟩ => by simp [Pl.owns] at h
      split at h
      · rename_i hpl
        simp only [Bool.and_eq_true] at hpl
        refine ⟨_, h, calls_step (hrun hfn) (hcall.mono fun x w' hx => ?_)⟩
        obtain ⟨v, rfl, μ', F', h1, h2, h3, _⟩ := hx
        have hg : Grew w w' := ⟨h3.os, h3.tape, h3.output, h3.size, fun b hb => h3.keep b hb (hnone b)⟩
        have := inv_news hi hg [] [] rfl (by simp) (by simp) (by simp)
        refine ⟨v, rfl, _, F, this, ?_⟩
        simp only [St.apply]
        exact vrel_plain (tupled_plain hpl.1) h1
      · have hpost' : ∀ v w', Post w (fun _ => .none) (frzF μ F (AV.refsL args)) ([] : List LObj).length res objs' v w' → ∀ (m : Nat → Pl), Post w (subPl m []) (frzF μ F (AV.refsL args)) ([] : List Nat).length res objs' v w' := fun v w' hp m => by
          have : subPl m [] = fun _ => .none := by funext i; simp [subPl]
          rw [this]
          exact hp
        cases hrs : AV.refsL args with
        | nil =>
          have hF : frzF μ F (AV.refsL args) = F := by
            funext b
            rw [hrs]
            simp [frzF]
          have hin : ∀ v w', Post w (fun _ => .none) (frzF μ F (AV.refsL args)) ([] : List LObj).length res objs' v w' → ∃ μ' F', Inv c (st.apply (.call [] [] objs' res)).2 a w' μ' F' ∧ VRel μ' F' w' (st.apply (.call [] [] objs' res)).1 v := fun v w' hp => by
            have h1 := hpost' v w' hp μ
            rw [hF] at h1
            exact inv_call (ks := []) hi (by simp) (by simp) h1
          rw [hrs] at h
          simp only at h
          split at h
          · rename_i hem
            simp only [Bool.and_eq_true, List.isEmpty_iff] at hem
            refine ⟨_, h, calls_step (hrun hfn) (hcall.mono fun x w' hx => ?_)⟩
            obtain ⟨v, rfl, hp⟩ := hx
            obtain ⟨μ', F', h1, h2⟩ := hin v w' hp
            obtain ⟨rfl, hrf⟩ := hem
            refine ⟨v, rfl, μ', F', h1, ?_⟩
            have he : (st.apply (.call [] [] [] res)).1 = (st.apply (.val (tupled res))).1 := by
              simp only [St.apply]
              rw [renL_norefs _ _ hrf]
            rw [he] at h2
            exact h2
          · refine ⟨_, h, calls_step (hrun hfn) (hcall.mono fun x w' hx => ?_)⟩
            obtain ⟨v, rfl, hp⟩ := hx
            exact ⟨v, rfl, hin v w' hp⟩
        | cons k0 ks =>
          rw [hrs] at h
          simp only at h
          split at h
          · rename_i hthin
            simp only [Bool.and_eq_true] at hthin
            refine ⟨_, h, calls_step (hrun hfn) (hcall.mono fun x w' hx => ?_)⟩
            obtain ⟨v, rfl, hp⟩ := hx
            have hp2 := post_thin (F := F) (fun b hb => Or.inl hb) hthin.1 hthin.2 hi.h.inn hp
            have h1 : Post w (subPl μ []) F ([] : List Nat).length res objs' v w' := by
              have : subPl μ [] = fun _ => .none := by funext i; simp [subPl]
              rw [this]
              exact hp2
            exact ⟨v, rfl, inv_call (ks := []) hi (by simp) (by simp) h1⟩
          refine ⟨_, h, calls_step (hrun hfn) (hcall.mono fun x w' hx => ?_)⟩
          obtain ⟨v, rfl, hp⟩ := hx
          have h1 := hpost' v w' hp (frzPl μ (AV.refsL args))
          have h2 := inv_call (ks := []) hi1 (by simp) (by simp) h1
          rw [hrs] at h2
          exact ⟨v, rfl, h2⟩
  · · obtain ⟨⟨res, objs'⟩, horc, h⟩ := Tr.run_some h
      simp only at h
      obtain ⟨hfn, hsem⟩ := hO _ _ _ _ _ horc
      have hQ : ∀ k ∈ reach st.hp 1000 (AV.refsL args) [], μ k ≠ .none := by
        refine reach_all (fun k hk j hj => ?_) 1000 _ _ (refsL_there hv) (by simp)
        exact obj_refs_there (hi.h.obj k (hinv_there hi.h hk)) j hj
      have hnd := reach_nodup (hp := st.hp) 1000 (AV.refsL args) [] (by simp)
      have hlt : ∀ k ∈ reach st.hp 1000 (AV.refsL args) [], k < st.nx := fun k hk => hinv_there hi.h (hQ k hk)
      have hinv := sub_inv hi.h hnd hlt
      have hargs : VRelL (subPl μ (reach st.hp 1000 (AV.refsL args) [])) F w (AV.renL (fun k => posIn k (reach st.hp 1000 (AV.refsL args) []) 0) args) vs :=
        vrelL_ren (fun k i h => by
          obtain ⟨_, h2⟩ := posIn_some h
          simp only [Nat.sub_zero] at h2
          simp [subPl, h2]) hv
      have hcall := hsem w _ F vs hinv hargs
      refine ⟨_, h, calls_step (hrun hfn) (hcall.mono fun x w' hx => ?_)⟩
      obtain ⟨v, rfl, hpost⟩ := hx
      rw [List.length_map] at hpost
      exact ⟨v, rfl, inv_call hi hnd (fun k hk => ⟨hlt k hk, hQ k hk⟩) hpost⟩

theorem mapRel {c : Cx} {st : St} {a : Act} {w : World} {μ : Nat → Pl} {F : Nat → Prop} (hi : Inv c st a w μ F) : ∀ (xs : List Operand), VRelL μ F w (xs.map st.ev) (xs.map a.eval)
  | [] => by simp [VRelL]
  | x :: xs => by simp only [List.map_cons, VRelL]; exact ⟨_, _, rfl, ev_rel hi x, mapRel hi xs⟩

theorem dataNs_rel {μ : Nat → Pl} {F : Nat → Prop} {w : World} : ∀ {cs : List AV} {ts : List (Option Ty)} {us : List Value}, VRelL μ F w cs us → VRelL μ F w (dataNs cs ts) us
  | [], ts, us, h => by cases ts <;> simpa only [dataNs] using h
  | c :: cs, [], us, h => by cases c <;> simpa only [dataNs] using h
  | c :: cs, t :: ts, us, h => by
    simp only [VRelL] at h
    obtain ⟨u, us, rfl, h1, h2⟩ := h
    have key : ∀ c', VRel μ F w c' u → VRelL μ F w (c' :: dataNs cs ts) (u :: us) := fun c' hc => by
      simp only [VRelL]
      exact ⟨u, us, rfl, hc, dataNs_rel h2⟩
    cases c <;> cases t <;> simp only [dataNs] <;> first | exact key _ h1 | skip
    rename_i τ
    simp only [VRel] at h1
    subst h1
    exact key (.list τ []) (enc_list.2 ⟨none, 0, rfl, by simp, fun _ => rfl, fun a ha => by cases ha⟩)
theorem dataAgg_rel {T : Tab} {μ : Nat → Pl} {F : Nat → Prop} {w : World} (t : Nat) {x : AV} {v : Value} (h : VRel μ F w x v) : VRel μ F w (dataAgg T t x) v := by
  unfold dataAgg
  split
  · split
    · simp only [VRel] at h ⊢
      obtain ⟨us, rfl, h1, h2⟩ := h
      exact ⟨us, rfl, dataNs_rel h1, h2⟩
    · exact h
  · exact h

theorem nildV_rel {T : Tab} {μ : Nat → Pl} {F : Nat → Prop} {w : World} (t : Nat) {x : AV} {v : Value} (h : VRel μ F w x v) : VRel μ F w (nildV T t x) v := by
  unfold nildV
  cases T.nild with
  | true => exact dataAgg_rel t h
  | false => exact h
theorem normArg_rel {P : Program} {T : Tab} {μ : Nat → Pl} {F : Nat → Prop} {w : World} (t : Nat) {x : AV} {v : Value} (h : VRel μ F w x v) : VRel μ F w (normArg T t x) v := by
  unfold normArg
  split
  · split
    · split
      · simp only [VRel] at h ⊢
        subst h
        exact ⟨none, 0, rfl, by simp, fun _ => rfl, fun a ha => by cases ha⟩
      · exact h
    · exact h
  · exact dataAgg_rel t h
theorem normArgs_rel {P : Program} {T : Tab} {μ : Nat → Pl} {F : Nat → Prop} {w : World} : ∀ (ts : List Nat) {xs : List AV} {vs : List Value}, VRelL μ F w xs vs → VRelL μ F w (normArgs T ts xs) vs
  | [], xs, vs, h => by cases xs <;> simpa [normArgs] using h
  | t :: ts, [], vs, h => by simpa [normArgs] using h
  | t :: ts, x :: xs, vs, h => by
    simp only [VRelL] at h
    obtain ⟨u, us, rfl, h1, h2⟩ := h
    simp only [normArgs, VRelL]
    exact ⟨u, us, rfl, normArg_rel (P := P) t h1, normArgs_rel (P := P) ts h2⟩

theorem placesE_ok {P : Program} {T : Tab} (hT : TabOk P T) : ∀ (fs : List Field) (ps : List (Nat × Nat)) (w : World), placesE T (fs.map fun f => (f.offset, f.type)) = some ps →
    ((fs.mapM fun f => Prod.mk f.offset <$> sizeOf f.type) : Sem (List (Nat × Nat))).run P w = .ok ps w
  | [], ps, w, h => by simp [placesE] at h; subst h; simp
  | f :: fs, ps, w, h => by
    simp only [List.map_cons, placesE] at h
    split at h
    · rename_i n r hn hr
      cases h
      have := placesE_ok hT fs r w hr
      simp [List.mapM_cons, size_run hT hn, this]
    · cases h

theorem buildE_rel {P : Program} {T : Tab} (hT : TabOk P T) {μ : Nat → Pl} {F : Nat → Prop} {w : World} {t : Nat} {ps : List (Nat × AV)} {qs : List (Nat × Value)} {x : AV}
    (h : buildE T t ps = some x) (hl : qs.length = ps.length) (hr : ∀ (i : Nat) (p : Nat × AV) (q : Nat × Value), ps[i]? = some p → qs[i]? = some q → q.1 = p.1 ∧ VRel μ F w p.2 q.2) :
    ∃ v, (Instr.build t qs.toArray).run P w = .ok v w ∧ VRel μ F w x v := by
  unfold buildE at h
  split at h
  · cases h
  · rename_i row hrow
    obtain ⟨i0, z, e1, e2, e3, e4, e5, e6, e7, e8⟩ := (hT t row hrow).info
    have hdesc := (hT t row hrow).desc
    split at h
    · rename_i fs hd
      rw [hd] at hdesc
      obtain ⟨fields, hu, rfl, _⟩ := hdesc
      split at h
      · rename_i pl hpl
        split at h
        · rename_i cs hcs
          cases h
          obtain ⟨vs, g1, g2, g3⟩ := fillE_rel ps qs row.zero cs z.cells.toList hl hr hcs (e6 μ F w) e7
          refine ⟨.agg vs.toArray, ?_, by simp only [VRel]; exact ⟨vs, rfl, g2, g3⟩⟩
          have hm := placesE_ok hT fields.toList pl w hpl
          have hm2 : ((fields.mapM fun f => Prod.mk f.offset <$> sizeOf f.type) : Sem (Array (Nat × Nat))).run P w = .ok pl.toArray w := by
            rw [Array.mapM_eq_mapM_toList]
            simp only [Sem.run_map, hm, Result.andThen_ok]
          have g1' : Instr.fill (fun i => pl[i]?) z.cells qs = some vs.toArray := by simpa using g1
          simp [Instr.build, zeroValue, typeInfo, e1, e4, run_underlying hu, hm2, g1']
        · cases h
      · cases h
    · rename_i n e hd
      rw [hd] at hdesc
      simp only [DescOk] at hdesc
      split at h
      · rename_i m hm
        split at h
        · rename_i cs hcs
          cases h
          obtain ⟨vs, g1, g2, g3⟩ := fillE_rel ps qs row.zero cs z.cells.toList hl hr hcs (e6 μ F w) e7
          refine ⟨.agg vs.toArray, ?_, by simp only [VRel]; exact ⟨vs, rfl, g2, g3⟩⟩
          have g1' : Instr.fill (fun i => some (i * m, m)) z.cells qs = some vs.toArray := by simpa using g1
          simp [Instr.build, zeroValue, typeInfo, e1, e4, run_underlying hdesc, size_run hT hm, g1']
        · cases h
      · cases h
    · cases h

end Go.Proofs.YtgiofacmcpakoaaE
