/- The engine, part 18: what an operation's effect depends on. -/
import Derived.Test.YtfepkpindchleaaE17
namespace Go.Proofs.YtfepkpindchleaaE
open Go
set_option linter.unusedVariables false
set_option linter.unusedSimpArgs false

theorem map_agree {st st' : St} (xs : List Operand) (h : ∀ x ∈ xs, st'.ev x = st.ev x) : xs.map st'.ev = xs.map st.ev := List.map_congr_left h
theorem pmap_agree {st st' : St} (ps : List (Nat × Operand)) (h : ∀ x ∈ ps.map (·.2), st'.ev x = st.ev x) : (ps.map fun p => (p.1, st'.ev p.2)) = ps.map fun p => (p.1, st.ev p.2) :=
  List.map_congr_left fun p hp => by rw [h p.2 (List.mem_map.2 ⟨p, hp, rfl⟩)]
theorem omap_agree {st st' : St} (x : Option Operand) (h : ∀ y, x = some y → st'.ev y = st.ev y) : x.map st'.ev = x.map st.ev := by
  cases x with
  | none => rfl
  | some y => simp [h y rfl]

/-- The operands alike: what is left is memory. -/
theorem evOp_agree (T : Tab) (orc : Orc) (o : Op) (ty : Nat) {st st' : St} (h : ∀ x ∈ o.operands.toList, st'.ev x = st.ev x) (hh : st'.hp = st.hp) (hn : st'.nx = st.nx) :
    evOp T orc o ty st' some = evOp T orc o ty st some := by
  cases o <;> simp only [evOp] <;> (try rfl)
  case move x => rw [h x (by simp [Op.operands])]
  case assign x => rw [h x (by simp [Op.operands]), hn]
  case pick c a b => rw [h c (by simp [Op.operands]), h a (by simp [Op.operands]), h b (by simp [Op.operands])]
  case alloc e => rw [hn]
  case box e x => rw [h x (by simp [Op.operands]), hn]
  case build t ps => rw [pmap_agree ps.toList fun x hx => h x (by simpa [Op.operands] using hx)]
  case buildSlice t n ps => rw [pmap_agree ps.toList fun x hx => h x (by simpa [Op.operands] using hx), hh, hn]
  case load t x => rw [h x (by simp [Op.operands]), hh]
  case store t x y => rw [h x (by simp [Op.operands]), h y (by simp [Op.operands]), hh]
  case nilCheck x => rw [h x (by simp [Op.operands])]
  case binOp op t x y yt => rw [h x (by simp [Op.operands]), h y (by simp [Op.operands])]
  case unOp op t x => rw [h x (by simp [Op.operands])]
  case convert s d x => rw [h x (by simp [Op.operands]), hh, hn]
  case makeFunc fn first caps =>
    rw [map_agree caps.toList fun x hx => h x (by simp [Op.operands]; right; simpa using hx)]
  case makeSlice t x y => rw [h x (by simp [Op.operands]), h y (by simp [Op.operands]), hn]
  case slice t x lo hi mx =>
    rw [h x (by simp [Op.operands]), hh, omap_agree lo fun y hy => h y (by subst hy; simp [Op.operands]), omap_agree hi fun y hy => h y (by subst hy; simp [Op.operands]), omap_agree mx fun y hy => h y (by subst hy; simp [Op.operands])]
  case fieldAddr s x f => rw [h x (by simp [Op.operands])]
  case field s x f => rw [h x (by simp [Op.operands])]
  case indexAddr t x i => rw [h x (by simp [Op.operands]), h i (by simp [Op.operands]), hh]
  case index t x i => rw [h x (by simp [Op.operands]), h i (by simp [Op.operands])]
  case makeMap t r => rw [hn]
  case lookup t m k ok => rw [h m (by simp [Op.operands]), h k (by simp [Op.operands]), hh]
  case mapUpdate t m k v => rw [h m (by simp [Op.operands]), h k (by simp [Op.operands]), h v (by simp [Op.operands]), hh]
  case insert t m k v => rw [h m (by simp [Op.operands]), h k (by simp [Op.operands]), h v (by simp [Op.operands]), hh]
  case extract x i => rw [h x (by simp [Op.operands])]
  case call c =>
    have ha : c.args.toList.map st'.ev = c.args.toList.map st.ev := map_agree _ fun x hx => h x (by simp [Op.operands, Call.operands]; right; simpa using hx)
    cases hc : c.callee with
    | builtin b => simp only [ha, hh, hn]
    | value f => simp only [ha, hh, h f (by simp [Op.operands, Call.operands, hc])]
    | invoke r n => rfl

theorem elems_near {hp hp' : Nat → LObj} {t : Ty} {x : AV} (h : ∀ k ∈ x.refs, hp' k = hp k) : elemsOf hp' t x = elemsOf hp t x := by
  cases x <;> first | rfl | (simp only [elemsOf, h _ (List.mem_singleton.2 rfl)])
theorem len_near {hp hp' : Nat → LObj} {x : AV} (h : ∀ k ∈ x.refs, hp' k = hp k) : lenE hp' x = lenE hp x := by
  cases x <;> first | rfl | (simp only [lenE, h _ (List.mem_singleton.2 rfl)])
theorem lenT_near {T : Tab} {hp hp' : Nat → LObj} {t : Nat} {x : AV} (h : ∀ k ∈ x.refs, hp' k = hp k) : lenTE T hp' t x = lenTE T hp t x := by
  unfold lenTE
  split <;> first | rfl | exact len_near h | skip
theorem load_near {T : Tab} {hp hp' : Nat → LObj} {t : Nat} {x : AV} (h : ∀ k ∈ x.refs, hp' k = hp k) : loadE T hp' t x = loadE T hp t x := by
  cases x <;> first | rfl | (simp only [loadE, h _ (List.mem_singleton.2 rfl)])
theorem slice_near {T : Tab} {hp hp' : Nat → LObj} {t : Nat} {x : AV} {lo hi mx : Option AV} (h : ∀ k ∈ x.refs, hp' k = hp k) : sliceE T hp' t x lo hi mx some = sliceE T hp t x lo hi mx some := by
  unfold sliceE
  cases x
  case rowS k off len c => cases c <;> first | rfl | (simp only [h k (List.mem_singleton.2 rfl)])
  all_goals first | rfl | (simp only [h _ (List.mem_singleton.2 rfl)])
theorem indexAddr_near {T : Tab} {hp hp' : Nat → LObj} {t : Nat} {x i : AV} (h : ∀ k ∈ x.refs, hp' k = hp k) : indexAddrE T hp' t x i some = indexAddrE T hp t x i some := by
  unfold indexAddrE
  cases x <;> first | rfl | (simp only [h _ (List.mem_singleton.2 rfl)]) | skip

theorem reqE_some {b : Bool} {x : Option Eff} {f : Eff} (h : req b x = some f) : x = some f := by
  cases b
  · cases h
  · exact h

theorem convert_val {T : Tab} {hp hp' : Nat → LObj} {nx nx' s d : Nat} {x v : AV} (hx : ∀ k ∈ x.refs, hp' k = hp k) (h : convertE T hp nx s d x some = some (.val v)) : convertE T hp' nx' s d x some = some (.val v) := by
  unfold convertE at h ⊢
  split at h
  · simp_all
  · simp_all
  · split at h
    · have := reqE_some h
      simp at this
    · cases h
  · rw [elems_near (hp := hp) hx]
    simp_all
  · cases h

theorem append_val {T : Tab} {hp : Nat → LObj} {nx s d : Nat} {x y v : AV} (h : appendE T hp nx s d x y some = some (.val v)) : False := by
  unfold appendE at h
  repeat' split at h
  all_goals (first | (cases h; done) | (have := reqE_some h; simp at this; done) | skip)
  simp only at h
  have := reqE_some h
  generalize (_ || _ : Bool) = b at this
  cases b <;> simp at this

theorem makeSlice_val {T : Tab} {nx t : Nat} {x y v : AV} (h : makeSliceE T nx t x y some = some (.val v)) : False := by
  unfold makeSliceE at h
  repeat' split at h
  all_goals (first | (cases h; done) | (have := reqE_some h; simp at this; done))

theorem buildSlice_val {T : Tab} {hp : Nat → LObj} {nx t n : Nat} {ps : List (Nat × AV)} {v : AV} (h : buildSliceE T hp nx t n ps some = some (.val v)) : False := by
  unfold buildSliceE at h
  repeat' split at h
  all_goals (first | (cases h; done) | skip)
  simp only at h
  repeat' split at h
  all_goals (first | (cases h; done) | (simp at h; done))

mutual
theorem frz_near {hp hp' : Nat → LObj} {ks : List Nat} : ∀ (x : AV), (∀ k ∈ x.refs, hp' k = hp k) → x.frz hp' ks = x.frz hp ks
  | .agg cs, h => by simp only [AV.frz, frzL_near cs h]
  | .tup cs, h => by simp only [AV.frz, frzL_near cs h]
  | .fn g cs, h => by simp only [AV.frz, frzL_near cs h]
  | .rptr _ _ _ _, _ => by simp only [AV.frz]
  | .rowA k, h => by simp only [AV.frz, h k (List.mem_singleton.2 rfl)]
  | .rowS k _ _ _, h => by simp only [AV.frz, h k (List.mem_singleton.2 rfl)]
  | .ptr _ _, _ => by simp only [AV.frz]
  | .mp _, _ => by simp only [AV.frz]
  | .int _ _, _ => by simp only [AV.frz]
  | .bool _, _ => by simp only [AV.frz]
  | .str _, _ => by simp only [AV.frz]
  | .list _ _, _ => by simp only [AV.frz]
  | .np, _ => by simp only [AV.frz]
  | .nm, _ => by simp only [AV.frz]
  | .nf, _ => by simp only [AV.frz]
  | .ns, _ => by simp only [AV.frz]
  | .lptr _ _ _ _, _ => by simp only [AV.frz]
  | .undef, _ => by simp only [AV.frz]
  | .dead, _ => by simp only [AV.frz]
theorem frzL_near {hp hp' : Nat → LObj} {ks : List Nat} : ∀ (cs : List AV), (∀ k ∈ AV.refsL cs, hp' k = hp k) → AV.frzL hp' ks cs = AV.frzL hp ks cs
  | [], _ => by simp only [AV.frzL]
  | c :: cs, h => by
    simp only [AV.refsL, List.mem_append] at h
    simp only [AV.frzL, frz_near c (fun k hk => h k (.inl hk)), frzL_near cs (fun k hk => h k (.inr hk))]
end
theorem rows_near {hp hp' : Nat → LObj} : ∀ (ks : List Nat), (∀ k ∈ ks, hp' k = hp k) → rowsOf hp' ks = rowsOf hp ks
  | [], _ => rfl
  | k :: ks, h => by
    simp only [rowsOf, h k (by simp), rows_near ks (fun j hj => h j (by simp [hj]))]

theorem call_near {T : Tab} {orc : Orc} {hp hp' : Nat → LObj} {f : Nat} {args : List AV} {v : AV} (hk : ∀ k ∈ AV.refsL args, hp' k = hp k) (h : callE T orc hp f args some = some (.val v)) : callE T orc hp' f args some = some (.val v) := by
  unfold callE at h ⊢
  simp only at h ⊢
  rw [rows_near _ hk]
  split at h
  · rename_i hr
    rw [if_pos hr, frzL_near args hk]
    exact h
  · rename_i hr
    obtain ⟨q, _, hq⟩ := Tr.run_some h
    cases hq

theorem dataNs_refs : ∀ (cs : List AV) (ts : List (Option Ty)), AV.refsL (dataNs cs ts) = AV.refsL cs
  | [], ts => by cases ts <;> simp only [dataNs]
  | c :: cs, [] => by cases c <;> simp only [dataNs]
  | c :: cs, t :: ts => by cases c <;> cases t <;> simp only [dataNs, AV.refsL, dataNs_refs cs ts, AV.refs]
theorem dataAgg_refs (T : Tab) (t : Nat) (v : AV) : (dataAgg T t v).refs = v.refs := by
  unfold dataAgg
  split
  · split
    · simp only [AV.refs, dataNs_refs]
    · rfl
  · rfl
theorem normArg_refs (T : Tab) (t : Nat) (v : AV) : (normArg T t v).refs = v.refs := by
  unfold normArg
  split
  · split
    · split <;> rfl
    · rfl
  · exact dataAgg_refs T t v
theorem normArgs_refs (T : Tab) : ∀ (ts : List Nat) (vs : List AV), AV.refsL (normArgs T ts vs) = AV.refsL vs
  | [], vs => by cases vs <;> rfl
  | t :: ts, [] => rfl
  | t :: ts, v :: vs => by simp only [normArgs, AV.refsL, normArg_refs, normArgs_refs T ts vs]
theorem refsL_append (xs ys : List AV) : AV.refsL (xs ++ ys) = AV.refsL xs ++ AV.refsL ys := by
  induction xs with
  | nil => rfl
  | cons x xs ih => simp [AV.refsL, ih]
theorem refsL_in {xs : List AV} {x : AV} (hx : x ∈ xs) : ∀ {k : Nat}, k ∈ x.refs → k ∈ AV.refsL xs := by
  intro k hk
  induction xs with
  | nil => cases hx
  | cons y ys ih =>
    simp only [AV.refsL, List.mem_append]
    rcases List.mem_cons.1 hx with rfl | hx
    · exact .inl hk
    · exact .inr (ih hx)

theorem look_near {T : Tab} {hp hp' : Nat → LObj} {t : Nat} {m k : AV} {ok : Bool} (h : ∀ j ∈ m.refs, hp' j = hp j) : lookE T hp' t m k ok = lookE T hp t m k ok := by
  cases m
  case mp j =>
    unfold lookE
    cases mapTys T t with
    | none => rfl
    | some p => simp only [h j (by simp [AV.refs])]
  all_goals (unfold lookE; cases mapTys T t <;> rfl)
theorem upd_val {T : Tab} {hp : Nat → LObj} {t : Nat} {m k v z : AV} (h : updE T hp t m k v = some (.val z)) : False := by
  unfold updE at h
  repeat' split at h
  all_goals cases h
theorem makeMap_val {T : Tab} {nx t : Nat} {z : AV} (h : makeMapE T nx t = some (.val z)) : False := by
  unfold makeMapE at h
  split at h <;> cases h
theorem copy_val {T : Tab} {hp : Nat → LObj} {t t2 : Nat} {x y z : AV} (h : copyE T hp t t2 x y = some (.val z)) : False := by
  unfold copyE at h
  repeat' split at h
  all_goals cases h
theorem builtin_val {T : Tab} {hp hp' : Nat → LObj} {nx nx' : Nat} {b : Builtin} {ts : List Nat} {vs : List AV} {v : AV} (hr : ∀ k ∈ AV.refsL vs, hp' k = hp k) (h : builtinE T hp nx b ts vs some = some (.val v)) : builtinE T hp' nx' b ts vs some = some (.val v) := by
  unfold builtinE at h ⊢
  split at h
  · rename_i t x
    rw [lenT_near (hp := hp) (fun k hk => hr k (refsL_in (by simp) hk))]
    exact h
  · exact (append_val h).elim
  · exact h
  · exact h
  · split at h
    · rename_i f hf
      cases h
      exact (copy_val hf).elim
    · cases h
  · cases h

theorem ev_mem (st : St) (hp' : Nat → LObj) (nx' : Nat) (x : Operand) : St.ev { st with hp := hp', nx := nx' } x = st.ev x := by cases x <;> rfl

/-- Memory may be another, where the operation looks at it. -/
theorem evOp_near {T : Tab} {orc : Orc} {o : Op} {ty : Nat} {st : St} {v : AV} (h : evOp T orc o ty st some = some (.val v)) (hp' : Nat → LObj) (nx' : Nat) (hk : blindOp o = false → ∀ k ∈ AV.refsL (opVals st o), hp' k = st.hp k) :
    evOp T orc o ty { st with hp := hp', nx := nx' } some = some (.val v) := by
  have hev : St.ev { st with hp := hp', nx := nx' } = st.ev := funext (ev_mem st hp' nx')
  have hrefs : blindOp o = false → ∀ x ∈ o.operands.toList, ∀ k ∈ (st.ev x).refs, hp' k = st.hp k := fun hf x hx k hkx => hk hf k (refsL_in (List.mem_map.2 ⟨x, hx, rfl⟩) hkx)
  cases o <;> simp only [evOp, hev] at h ⊢ <;> (try exact h)
  case assign x =>
    unfold assignE at h ⊢
    split at h
    · split at h
      · split at h
        · cases h
        · exact h
      · exact h
    · exact h
  case alloc e =>
    split at h
    · unfold boxE at h
      split at h
      · rename_i hx; split at hx <;> cases hx <;> cases h
      · cases h
    · cases h
  case box e x =>
    split at h
    · unfold boxE at h
      split at h
      · rename_i hx; split at hx <;> cases hx <;> cases h
      · cases h
    · cases h
  case buildSlice t n ps => exact (buildSlice_val h).elim
  case load t x => rw [load_near (hp := st.hp) (hrefs rfl x (by simp [Op.operands]))]; exact h
  case store t x y =>
    split at h
    · rename_i f hf
      unfold storeE at hf
      repeat' split at hf
      all_goals (first | (cases hf; done) | (cases hf; cases h; done))
    · cases h
  case convert s d x => exact convert_val (hrefs rfl x (by simp [Op.operands])) h
  case makeSlice t x y => exact (makeSlice_val h).elim
  case slice t x lo hi mx => rw [slice_near (hp := st.hp) (hrefs rfl x (by simp [Op.operands]))]; exact h
  case makeMap t r =>
    split at h
    · split at h
      · rename_i f hf
        cases h
        exact (makeMap_val hf).elim
      · cases h
    · cases h
  case lookup t m k ok => rw [look_near (hp := st.hp) (hrefs rfl m (by simp [Op.operands]))]; exact h
  case mapUpdate t m k v =>
    split at h
    · rename_i f hf
      cases h
      exact (upd_val hf).elim
    · cases h
  case insert t m k v =>
    split at h
    · rename_i f hf
      cases h
      exact (upd_val hf).elim
    · cases h
  case indexAddr t x i => rw [indexAddr_near (hp := st.hp) (hrefs rfl x (by simp [Op.operands]))]; exact h
  case call c =>
    have hL : ∀ k ∈ AV.refsL (c.args.toList.map st.ev), hp' k = st.hp k := fun k hkk => by
      obtain ⟨y, hy, hky⟩ := refsL_mem hkk
      obtain ⟨x, hx, rfl⟩ := List.mem_map.1 hy
      exact hrefs rfl x (by simp [Op.operands, Call.operands]; right; simpa using hx) k hky
    split at h
    · exact builtin_val hL h
    · rename_i f hf
      split at h
      · rename_i g caps hg
        have hc := hrefs rfl f (by simp [Op.operands, Call.operands, hf])
        rw [hg] at hc
        simp only [AV.refs] at hc
        refine call_near (hp := st.hp) (fun k hkk => ?_) h
        rw [refsL_append, normArgs_refs, List.mem_append] at hkk
        exact hkk.elim (hL k) (hc k)
      · cases h
    · cases h

end Go.Proofs.YtfepkpindchleaaE
