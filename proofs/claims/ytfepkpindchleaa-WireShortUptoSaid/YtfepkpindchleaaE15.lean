/- The engine, part 15: every operation's step. -/
import Derived.Test.YtfepkpindchleaaE14
namespace Go.Proofs.YtfepkpindchleaaE
open Go
set_option linter.unusedVariables false
set_option linter.unusedSimpArgs false

theorem assignE_rel {P : Program} {T : Tab} {c : Cx} {st : St} {a : Act} {w : World} {μ : Nat → Pl} {F : Nat → Prop} (hi : Inv c st a w μ F) {t : Nat} {x : AV} {v : Value} (h : VRel μ F w x v) :
    Outc P c st a w (pure v) (assignE T st.nx t x) := by
  unfold assignE
  split
  · simp only [VRel] at h
    subst h
    split
    · split
      · rename_i τ _
        have := inv_row0 hi τ none
        exact ⟨_, w, _, F, rfl, this.1, this.2⟩
      · exact outc_val hi rfl (by simp [VRel])
    · exact outc_val hi rfl (by simp [VRel])
  · exact outc_val hi rfl (dataAgg_rel t h)

theorem partsRel {c : Cx} {st : St} {a : Act} {w : World} {μ : Nat → Pl} {F : Nat → Prop} (hi : Inv c st a w μ F) (ps : List (Nat × Operand)) :
    ∀ (i : Nat) (p : Nat × AV) (q : Nat × Value), (ps.map fun p => (p.1, st.ev p.2))[i]? = some p → (ps.map fun p => (p.1, a.eval p.2))[i]? = some q → q.1 = p.1 ∧ VRel μ F w p.2 q.2 := by
  intro i p q hp hq
  rw [List.getElem?_map] at hp hq
  cases h : ps[i]? with
  | none => rw [h] at hp; cases hp
  | some x =>
    rw [h] at hp hq
    cases hp
    cases hq
    exact ⟨rfl, ev_rel hi x.2⟩

theorem optRel {c : Cx} {st : St} {a : Act} {w : World} {μ : Nat → Pl} {F : Nat → Prop} (hi : Inv c st a w μ F) (x : Option Operand) : ORelO μ F w (x.map st.ev) (x.map a.eval) := by
  cases x with
  | none => simp [ORelO]
  | some x => simp only [Option.map_some, ORelO]; exact ev_rel hi x

theorem notNil_run {P : Program} {μ : Nat → Pl} {F : Nat → Prop} {w : World} {x : AV} {v : Value} {o : Oper} {X : Operand} {ρ : Operand → Value} (h : notNil x = true) (hv : VRel μ F w x v) (hx : ρ X = v) (ho : o.op = .nilCheck X) :
    (execOp ρ o).run P w = .ok (.value v) w := by
  unfold notNil at h
  split at h <;> try cases h
  · simp only [VRel] at hv; obtain ⟨b, _, rfl⟩ := hv; simp [execOp, ho, hx]
  · simp only [VRel] at hv; obtain ⟨b, o, l, c, _, _, rfl⟩ := hv; simp [execOp, ho, hx]
  · simp only [VRel] at hv; obtain ⟨b, o, _, _, _, rfl⟩ := hv; simp [execOp, ho, hx]
  · simp only [VRel] at hv; obtain ⟨us, rfl, _⟩ := hv; simp [execOp, ho, hx]

theorem foldE_rel {P : Program} {μ : Nat → Pl} {F : Nat → Prop} {w : World} {f : AV → AV → Option AV} {g : Value → Value → Sem Value}
    (hf : ∀ x y z u v, f x y = some z → VRel μ F w x u → VRel μ F w y v → ∃ q, (g u v).run P w = .ok q w ∧ VRel μ F w z q) :
    ∀ (r : List AV) (vs : List Value) (x z : AV) (u : Value), foldE f x r = some z → VRel μ F w x u → VRelL μ F w r vs → ∃ q, (vs.foldlM g u).run P w = .ok q w ∧ VRel μ F w z q
  | [], vs, x, z, u, h, hx, hr => by
    simp only [foldE, Option.some.injEq] at h
    subst h
    simp only [VRelL] at hr
    subst hr
    exact ⟨u, by simp, hx⟩
  | y :: r, vs, x, z, u, h, hx, hr => by
    simp only [foldE] at h
    split at h
    · rename_i s hs
      simp only [VRelL] at hr
      obtain ⟨v, vs, rfl, h1, h2⟩ := hr
      obtain ⟨q, g1, g2⟩ := hf _ _ _ _ _ hs hx h1
      obtain ⟨q', g3, g4⟩ := foldE_rel hf r vs s z q h g2 h2
      exact ⟨q', by simp [List.foldlM_cons, g1, g3], g4⟩
    · cases h

theorem min2_rel {P : Program} {μ : Nat → Pl} {F : Nat → Prop} {w : World} (x y z : AV) (u v : Value) (h : min2E x y = some z) (hu : VRel μ F w x u) (hv : VRel μ F w y v) : ∃ q, (Builtin.min2 u v).run P w = .ok q w ∧ VRel μ F w z q := by
  unfold min2E at h
  split at h
  · split at h
    · rename_i hk
      subst hk
      cases h
      simp only [VRel] at hu hv
      subst hu hv
      exact ⟨_, by simp [Builtin.min2]; rfl, by simp [VRel]⟩
    · cases h
  · cases h
theorem max2_rel {P : Program} {μ : Nat → Pl} {F : Nat → Prop} {w : World} (x y z : AV) (u v : Value) (h : max2E x y = some z) (hu : VRel μ F w x u) (hv : VRel μ F w y v) : ∃ q, (Builtin.max2 u v).run P w = .ok q w ∧ VRel μ F w z q := by
  unfold max2E at h
  split at h
  · split at h
    · rename_i hk
      subst hk
      cases h
      simp only [VRel] at hu hv
      subst hu hv
      exact ⟨_, by simp [Builtin.max2]; rfl, by simp [VRel]⟩
    · cases h
  · cases h

theorem bytes_size (s : List UInt8) : (⟨s.toArray⟩ : ByteArray).size = s.length := by simp [ByteArray.size]

theorem lenTE_rel {P : Program} {T : Tab} (hT : TabOk P T) {w : World} {hp : Nat → LObj} {nx : Nat} {μ : Nat → Pl} {F : Nat → Prop} (hi : HInv w hp nx μ F) {t ty : Nat} {x : AV} {n : Nat} {v : Value} (h : lenTE T hp t x = some n) (hv : VRel μ F w x v) :
    (Builtin.len_ #[t] ty #[v]).run P w = .ok (.int .i64 n) w := by
  unfold lenTE at h
  split at h
  · rename_i s hd
    have ht := desc_ok hT hd (by simp)
    simp only [DescOk] at ht
    cases h
    simp only [VRel] at hv
    subst hv
    simp [Builtin.len_, run_underlying ht, goInt, bytes_size]
  · cases h
  · cases h
  · rename_i e hd hs
    have ht := desc_ok hT hd (by simp)
    simp only [DescOk] at ht
    rcases lenE_rel (P := P) hi h hv with ⟨s, rfl, _⟩ | ⟨A, cap, rfl⟩
    · exact absurd rfl (hs s)
    · simp [Builtin.len_, run_underlying ht, goInt]
  · cases h

theorem builtinE_rel {P : Program} {T : Tab} (hT : TabOk P T) {R : Type} {K : Eff → Option R} {r : R} {c : Cx} {st : St} {a : Act} {w : World} {μ : Nat → Pl} {F : Nat → Prop} (hi : Inv c st a w μ F) {b : Builtin} {ts : Array TypeId} {xs : List AV} {vs : List Value} {o : Oper}
    {consts : Array Bool} (h : builtinE T st.hp st.nx b ts.toList xs K = some r) (hv : VRelL μ F w xs vs)
    (hrun : ∀ v w', (builtin b ts o.type consts vs.toArray).run P w = .ok (.value v) w' → (execOp a.eval o).run P w = .ok (.value v) w') : ∃ f, K f = some r ∧ StepOk P c st a w o f := by
  unfold builtinE at h
  split at h
  · rename_i t x hts
    simp only [VRelL] at hv
    obtain ⟨u, us, rfl, hu, rfl⟩ := hv
    have hts' : ts = #[t] := by rw [← Array.toArray_toList (xs := ts), hts]
    subst hts'
    split at h
    · rename_i n hn
      refine ⟨_, h, step_outc (s := Builtin.len_ #[t] o.type #[u]) (outc_val hi (lenTE_rel hT hi.h hn hu) (by simp [VRel])) fun v w' hr => hrun v w' ?_⟩
      simp [builtin, hr]
    · cases h
  · rename_i t t2 x y hts
    simp only [VRelL] at hv
    obtain ⟨u, us, rfl, hu, u2, us2, rfl, hu2, rfl⟩ := hv
    have hts' : ts = #[t, t2] := by rw [← Array.toArray_toList (xs := ts), hts]
    subst hts'
    obtain ⟨f, hf, ho⟩ := appendE_rel hT hi o.type h hu hu2
    refine ⟨f, hf, step_outc ho fun v w' hr => hrun v w' ?_⟩
    simp [builtin, hr]
  · rename_i x q
    simp only [VRelL] at hv
    obtain ⟨u, us, rfl, hu, hus⟩ := hv
    split at h
    · rename_i z hz
      obtain ⟨q, g1, g2⟩ := foldE_rel (P := P) (fun x y z u v h hu hv => min2_rel (P := P) x y z u v h hu hv) _ _ _ _ _ hz hu hus
      refine ⟨_, h, step_outc (s := us.foldlM Builtin.min2 u) (outc_val hi g1 g2) fun v w' hr => hrun v w' ?_⟩
      simp [builtin, Builtin.min_, hr]
    · cases h
  · rename_i x q
    simp only [VRelL] at hv
    obtain ⟨u, us, rfl, hu, hus⟩ := hv
    split at h
    · rename_i z hz
      obtain ⟨q, g1, g2⟩ := foldE_rel (P := P) (fun x y z u v h hu hv => max2_rel (P := P) x y z u v h hu hv) _ _ _ _ _ hz hu hus
      refine ⟨_, h, step_outc (s := us.foldlM Builtin.max2 u) (outc_val hi g1 g2) fun v w' hr => hrun v w' ?_⟩
      simp [builtin, Builtin.max_, hr]
    · cases h
  · rename_i t t2 x y hts
    simp only [VRelL] at hv
    obtain ⟨u, us, rfl, hu, u2, us2, rfl, hu2, rfl⟩ := hv
    have hts' : ts = #[t, t2] := by rw [← Array.toArray_toList (xs := ts), hts]
    subst hts'
    split at h
    · rename_i f hf
      refine ⟨f, h, step_outc (copyE_rel hT hi o.type hf hu hu2) fun v w' hr => hrun v w' ?_⟩
      simp [builtin, hr]
    · cases h
  · cases h

theorem amap_eq {α β : Type} (xs : Array α) (f : α → β) : xs.map f = (xs.toList.map f).toArray := by rw [← Array.toList_map, Array.toArray_toList]

theorem evOp_sound {P : Program} {T : Tab} (hT : TabOk P T) {orc : Orc} (hO : SoundOrc P orc) {R : Type} {K : Eff → Option R} {r : R} {c : Cx} {st : St} {a : Act} {w : World} {μ : Nat → Pl} {F : Nat → Prop} (hi : Inv c st a w μ F) {o : Oper}
    (h : evOp T orc o.op o.type st K = some r) : ∃ f, K f = some r ∧ StepOk P c st a w o f := by
  have hev := fun x => ev_rel hi x
  cases ho : o.op <;> rw [ho] at h <;> simp only [evOp] at h
  case move x =>
    exact ⟨_, h, step_outc (s := pure (a.eval x)) (outc_val hi rfl (hev x)) fun v w' hr => by simpa [execOp, ho] using hr⟩
  case assign x =>
    exact ⟨_, h, step_outc (assignE_rel hi (hev x)) fun v w' hr => by simpa [execOp, ho] using hr⟩
  case pick cnd x y =>
    split at h
    · rename_i t ht
      have hc := hev cnd
      rw [ht] at hc
      simp only [VRel] at hc
      cases t with
      | true => exact ⟨_, h, step_outc (s := pure (a.eval x)) (outc_val hi rfl (hev x)) fun v w' hr => by simp [execOp, ho, hc, asBool]; simpa using hr⟩
      | false => exact ⟨_, h, step_outc (s := pure (a.eval y)) (outc_val hi rfl (hev y)) fun v w' hr => by simp [execOp, ho, hc, asBool]; simpa using hr⟩
    · cases h
  case alloc e =>
    split at h
    · rename_i row hrow
      split at h
      · rename_i f hf
        exact ⟨_, h, step_outc (allocE_rel hT hi hrow hf (.tuple #[])) fun v w' hr => by simp [execOp, ho, hr]⟩
      · cases h
    · cases h
  case box e x =>
    split at h
    · rename_i cs hcs
      split at h
      · rename_i f hf
        obtain ⟨h1, h2⟩ := cells_rel hcs (hev x)
        exact ⟨_, h, step_outc (boxE_rel hi hf h1 h2) fun v w' hr => by simp [execOp, ho, hr]⟩
      · cases h
    · cases h
  case build t ps =>
    split at h
    · rename_i x hx
      obtain ⟨v, g1, g2⟩ := buildE_rel hT hx (qs := ps.toList.map fun p => (p.1, a.eval p.2)) (by simp) (partsRel hi ps.toList)
      refine ⟨_, h, step_outc (outc_val hi g1 g2) fun v w' hr => ?_⟩
      rw [← amap_eq] at hr
      simp [execOp, ho, hr]
    · cases h
  case buildSlice t n ps =>
    obtain ⟨f, hf, g⟩ := buildSliceE_rel hT hi h (qs := ps.toList.map fun p => (p.1, a.eval p.2)) (by simp) (partsRel hi ps.toList)
    refine ⟨_, hf, step_outc g fun v w' hr => ?_⟩
    rw [← amap_eq] at hr
    simp [execOp, ho, hr]
  case load t x =>
    split at h
    · rename_i z hz
      obtain ⟨u, g1, g2⟩ := loadE_rel hT hi.h hz (hev x)
      exact ⟨_, h, step_outc (outc_val hi g1 g2) fun v w' hr => by simp [execOp, ho, hr]⟩
    · cases h
  case store t x y =>
    split at h
    · rename_i f hf
      obtain ⟨w', g1, g2, g3⟩ := storeE_rel (P := P) hT hi hf (hev x) (nildV_rel _ (hev y))
      refine ⟨_, h, fun next Q hn => ?_⟩
      unfold Oper.wp
      have : (execOp a.eval o).run P w = .ok .skip w' := by simp [execOp, ho, g1]
      rw [this]
      simp only [Oper.upon]
      exact hn undef w' μ F g2 (by rw [g3]; simp [VRel])
    · cases h
  case nilCheck x =>
    split at h
    · rename_i hx
      exact ⟨_, h, step_outc (s := pure (a.eval x)) (outc_val hi rfl (hev x)) fun v w' hr => by
        have := notNil_run (P := P) hx (hev x) rfl ho
        simp at hr
        obtain ⟨rfl, rfl⟩ := hr
        exact this⟩
    · cases h
  case binOp op t x y yt =>
    obtain ⟨z, q, hz, g1, g2⟩ := binOpE_rel hT x y h (hev x) (hev y)
    exact ⟨_, hz, step_outc (outc_val hi g1 g2) fun v w' hr => by simp only [execOp, ho]; simp only [Sem.run_bind] at hr ⊢; simp [hr]⟩
  case unOp op t x =>
    split at h
    · rename_i z hz
      obtain ⟨q, g1, g2⟩ := unOpE_rel (P := P) hz (hev x)
      exact ⟨_, h, step_outc (outc_val hi g1 g2) fun v w' hr => by simp [execOp, ho, hr]⟩
    · cases h
  case convert s d x =>
    obtain ⟨f, hf, g⟩ := convertE_rel hT hi h (hev x)
    exact ⟨_, hf, step_outc g fun v w' hr => by simp [execOp, ho, hr]⟩
  case makeFunc fn first caps =>
    split at h
    · rename_i z hz
      unfold makeFnE at hz
      split at hz <;> cases hz
      rename_i f hf
      have hf' : first = #[] := by rw [← Array.toArray_toList (xs := first), hf]
      subst hf'
      refine ⟨_, h, step_outc (s := pure (.func (.func f) #[] (caps.map a.eval))) (outc_val hi rfl ?_) fun v w' hr => by simpa [execOp, ho, Instr.makeFunc] using hr⟩
      simp only [VRel]
      exact ⟨caps.toList.map a.eval, by rw [← amap_eq], mapRel hi caps.toList⟩
    · cases h
  case makeSlice t l cp =>
    obtain ⟨f, hf, g⟩ := makeSliceE_rel hT hi h (hev l) (hev cp)
    exact ⟨_, hf, step_outc g fun v w' hr => by simp [execOp, ho, hr]⟩
  case slice t x lo hi' mx =>
    obtain ⟨z, q, hz, g1, g2⟩ := sliceE_rel hT hi.h h (hev x) (optRel hi lo) (optRel hi hi') (optRel hi mx)
    exact ⟨_, hz, step_outc (outc_val hi g1 g2) fun v w' hr => by simp [execOp, ho, hr]⟩
  case fieldAddr s x f =>
    split at h
    · rename_i z hz
      obtain ⟨q, g1, g2⟩ := fieldAddrE_rel (P := P) hT hz (hev x)
      exact ⟨_, h, step_outc (outc_val hi g1 g2) fun v w' hr => by simp [execOp, ho, hr]⟩
    · cases h
  case field s x f =>
    split at h
    · rename_i d t cs hfo hx
      have hx' := hev x
      rw [hx] at hx'
      split at h
      · rename_i z hz
        obtain ⟨q, g1, g2⟩ := field_rel (P := P) hT hfo hz hx'
        exact ⟨_, h, step_outc (outc_val hi g1 g2) fun v w' hr => by simp [execOp, ho, hr]⟩
      · cases h
    · cases h
  case indexAddr t x i =>
    obtain ⟨z, q, hz, g1, g2⟩ := indexAddrE_rel hT hi.h h (hev x) (hev i)
    exact ⟨_, hz, step_outc (outc_val hi g1 g2) fun v w' hr => by simp [execOp, ho, hr]⟩
  case index t x i =>
    obtain ⟨z, q, hz, g1, g2⟩ := indexE_rel hT h (hev x) (hev i)
    exact ⟨_, hz, step_outc (outc_val hi g1 g2) fun v w' hr => by simp [execOp, ho, hr]⟩
  case makeMap t r =>
    split at h
    · split at h
      · rename_i f hf
        exact ⟨_, h, step_outc (makeMapE_rel (P := P) hi hf) fun v w' hr => by simp [execOp, ho, hr]⟩
      · cases h
    · cases h
  case lookup t m k ok =>
    split at h
    · rename_i z hz
      obtain ⟨q, g1, g2⟩ := lookE_rel hT hi.h hz (hev m) (hev k)
      exact ⟨_, h, step_outc (outc_val hi g1 g2) fun v w' hr => by simp [execOp, ho, hr]⟩
    · cases h
  case mapUpdate t m k v =>
    split at h
    · rename_i f hf
      obtain ⟨w', μ', F', g1, g2, g3⟩ := updE_rel hT hi hf (hev m) (hev k) (hev v)
      refine ⟨_, h, fun next Q hn => ?_⟩
      unfold Oper.wp
      have : (execOp a.eval o).run P w = .ok .skip w' := by simp [execOp, ho, g1]
      rw [this]
      simp only [Oper.upon]
      exact hn undef w' μ' F' g2 (by rw [g3]; simp [VRel])
    · cases h
  case insert t m k v =>
    split at h
    · rename_i f hf
      obtain ⟨w', μ', F', g1, g2, g3⟩ := updE_rel hT hi hf (hev m) (hev k) (hev v)
      refine ⟨_, h, fun next Q hn => ?_⟩
      unfold Oper.wp
      have : (execOp a.eval o).run P w = .ok .skip w' := by simp [execOp, ho, g1]
      rw [this]
      simp only [Oper.upon]
      exact hn undef w' μ' F' g2 (by rw [g3]; simp [VRel])
    · cases h
  case extract x i =>
    split at h
    · rename_i vs hx
      have hx' := hev x
      rw [hx] at hx'
      simp only [VRel] at hx'
      obtain ⟨us, hus, hL⟩ := hx'
      split at h
      · rename_i z hz
        obtain ⟨u, hu, hr⟩ := vrelL_get hL hz
        refine ⟨_, h, step_outc (s := pure u) (outc_val hi rfl hr) fun v w' hr => ?_⟩
        simp at hr
        obtain ⟨rfl, rfl⟩ := hr
        simp [execOp, ho, Instr.extract, hus, hu]
      · cases h
    · cases h
  case call cl =>
    split at h
    · rename_i b hb
      refine builtinE_rel hT hi h (vs := cl.args.toList.map a.eval) (mapRel hi _) (consts := cl.args.map fun | .const _ => true | _ => false) fun v w' hr => ?_
      rw [← amap_eq] at hr
      simp only [execOp, ho, resolve, hb, invoke, Sem.run_bind, Sem.run_pure, Result.andThen_ok]
      exact hr
    · rename_i f hf
      split at h
      · rename_i g caps hg
        have hf' := hev f
        rw [hg] at hf'
        simp only [VRel] at hf'
        obtain ⟨us, hus, hL⟩ := hf'
        have hargs := vrelL_append (normArgs_rel (P := P) (T := T) cl.argTypes.toList (mapRel hi cl.args.toList)) hL
        refine callE_rel hO hi h hargs fun ⟨fn, h1, h2, h3⟩ => ?_
        simp [execOp, ho, resolve, hf, hus, Deferred.ofValue, invoke, callFunc, h1, h2, h3, amap_eq]
        exact fun e => absurd h3 (by rw [e]; simp)
      · cases h
    · cases h
  all_goals cases h

end Go.Proofs.YtfepkpindchleaaE
