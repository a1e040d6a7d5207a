/- The engine, part 18: what an operation's effect depends on. -/
import Derived.Test.YtgiofacmcpakoaaE17
namespace Go.Proofs.YtgiofacmcpakoaaE
open Go
set_option linter.unusedVariables false
set_option linter.unusedSimpArgs false

theorem map_agree {st st' : St} (xs : List Operand) (h : ∀ x ∈ xs, st'.ev x = st.ev x) : xs.map st'.ev = xs.map st.ev := List.map_congr_left h
theorem pmap_agree {st st' : St} (ps : List (Nat × Operand)) (h : ∀ x ∈ ps.map (·.2), st'.ev x = st.ev x) : (ps.map fun p => (p.1, st'.ev p.2)) = ps.map fun p => (p.1, st.ev p.2) :=
  List.map_congr_left fun p hp => by rw [h p.2 (List.mem_map.2 ⟨p, hp, rfl⟩)]
theorem omap_agree {st st' : St} (x : Option Operand) (h : ∀ y, x = some y → st'.ev y = st.ev y) : x.map st'.ev = x.map st.ev := by
  cases x with
  | none => rfl
  | some y => simp [h y rfl]

/-- The operands alike: what is left is memory. -/
theorem evOp_agree (T : Tab) (orc : Orc) (o : Op) (ty : Nat) {st st' : St} (h : ∀ x ∈ o.operands.toList, st'.ev x = st.ev x) (hh : st'.hp = st.hp) (hn : st'.nx = st.nx) :
    evOp T orc o ty st' some = evOp T orc o ty st some := by
  cases o <;> simp only [evOp] <;> (try rfl)
  case move x => rw [h x (by simp [Op.operands])]
  case assign x => rw [h x (by simp [Op.operands]), hn]
  case pick c a b => rw [h c (by simp [Op.operands]), h a (by simp [Op.operands]), h b (by simp [Op.operands])]
  case alloc e => rw [hn]
  case box e x => rw [h x (by simp [Op.operands]), hn]
  case build t ps => rw [pmap_agree ps.toList fun x hx => h x (by simpa [Op.operands] using hx)]
  case buildSlice t n ps => rw [pmap_agree ps.toList fun x hx => h x (by simpa [Op.operands] using hx), hh, hn]
  case load t x => rw [h x (by simp [Op.operands]), hh]
  case store t x y => rw [h x (by simp [Op.operands]), h y (by simp [Op.operands]), hh]
  case nilCheck x => rw [h x (by simp [Op.operands])]
  case binOp op t x y yt => rw [h x (by simp [Op.operands]), h y (by simp [Op.operands])]
  case unOp op t x => rw [h x (by simp [Op.operands])]
  case convert s d x => rw [h x (by simp [Op.operands]), hh, hn]
  case makeFunc fn first caps =>
    cases fn <;> simp only [evOp]
    rw [map_agree caps.toList fun x hx => h x (by simp [Op.operands]; right; simpa using hx)]
  case makeSlice t x y => rw [h x (by simp [Op.operands]), h y (by simp [Op.operands]), hn]
  case slice t x lo hi mx =>
    rw [h x (by simp [Op.operands]), hh, omap_agree lo fun y hy => h y (by subst hy; simp [Op.operands]), omap_agree hi fun y hy => h y (by subst hy; simp [Op.operands]), omap_agree mx fun y hy => h y (by subst hy; simp [Op.operands])]
  case fieldAddr s x f => rw [h x (by simp [Op.operands])]
  case field s x f => rw [h x (by simp [Op.operands])]
  case indexAddr t x i => rw [h x (by simp [Op.operands]), h i (by simp [Op.operands]), hh]
  case index t x i => rw [h x (by simp [Op.operands]), h i (by simp [Op.operands])]
  case extract x i => rw [h x (by simp [Op.operands])]
  case call c =>
    have ha : c.args.toList.map st'.ev = c.args.toList.map st.ev := map_agree _ fun x hx => h x (by simp [Op.operands, Call.operands]; right; simpa using hx)
    cases hc : c.callee with
    | builtin b => simp only [ha, hh, hn]
    | value f => simp only [ha, hh, h f (by simp [Op.operands, Call.operands, hc])]
    | invoke r n => rfl

theorem elems_norefs {hp hp' : Nat → LObj} {t : Ty} {x : AV} (h : x.refs = []) : elemsOf hp' t x = elemsOf hp t x := by
  cases x <;> first | rfl | (simp [AV.refs] at h)
theorem len_norefs {hp hp' : Nat → LObj} {x : AV} (h : x.refs = []) : lenE hp' x = lenE hp x := by
  cases x <;> first | rfl | (simp [AV.refs] at h)
theorem lenT_norefs {T : Tab} {hp hp' : Nat → LObj} {t : Nat} {x : AV} (h : x.refs = []) : lenTE T hp' t x = lenTE T hp t x := by
  unfold lenTE
  split <;> first | rfl | exact len_norefs h | skip
theorem load_norefs {T : Tab} {hp hp' : Nat → LObj} {t : Nat} {x : AV} (h : x.refs = []) : loadE T hp' t x = loadE T hp t x := by
  cases x <;> first | rfl | (simp [AV.refs] at h)
theorem slice_norefs {T : Tab} {hp hp' : Nat → LObj} {t : Nat} {x : AV} {lo hi mx : Option AV} (h : x.refs = []) : sliceE T hp' t x lo hi mx some = sliceE T hp t x lo hi mx some := by
  cases x <;> first | rfl | (simp [AV.refs] at h)
theorem indexAddr_norefs {T : Tab} {hp hp' : Nat → LObj} {t : Nat} {x i : AV} (h : x.refs = []) : indexAddrE T hp' t x i some = indexAddrE T hp t x i some := by
  unfold indexAddrE
  cases x <;> first | rfl | (simp [AV.refs] at h)

theorem reqE_some {b : Bool} {x : Option Eff} {f : Eff} (h : req b x = some f) : x = some f := by
  cases b
  · cases h
  · exact h

theorem convert_val {T : Tab} {hp hp' : Nat → LObj} {nx nx' s d : Nat} {x v : AV} (hx : x.refs = []) (h : convertE T hp nx s d x some = some (.val v)) : convertE T hp' nx' s d x some = some (.val v) := by
  unfold convertE at h ⊢
  split at h
  · simp_all
  · simp_all
  · split at h
    · have := reqE_some h
      simp at this
    · cases h
  · rw [elems_norefs (hp := hp) hx]
    simp_all
  · cases h

theorem append_val {T : Tab} {hp : Nat → LObj} {nx s d : Nat} {x y v : AV} (h : appendE T hp nx s d x y some = some (.val v)) : False := by
  unfold appendE at h
  repeat' split at h
  all_goals (first | (cases h; done) | (have := reqE_some h; simp at this; done) | skip)
  simp only at h
  have := reqE_some h
  generalize (_ || _ : Bool) = b at this
  cases b <;> simp at this

theorem makeSlice_val {T : Tab} {nx t : Nat} {x y v : AV} (h : makeSliceE T nx t x y some = some (.val v)) : False := by
  unfold makeSliceE at h
  repeat' split at h
  all_goals (first | (cases h; done) | (have := reqE_some h; simp at this; done))

theorem buildSlice_val {T : Tab} {hp : Nat → LObj} {nx t n : Nat} {ps : List (Nat × AV)} {v : AV} (h : buildSliceE T hp nx t n ps some = some (.val v)) : False := by
  unfold buildSliceE at h
  repeat' split at h
  all_goals (first | (cases h; done) | skip)
  simp only at h
  repeat' split at h
  all_goals (first | (cases h; done) | (simp at h; done))

mutual
theorem frz_norefs (hp : Nat → LObj) : ∀ (x : AV), x.frz hp [] = x
  | .agg cs => by simp only [AV.frz, frzL_norefs hp cs]
  | .tup cs => by simp only [AV.frz, frzL_norefs hp cs]
  | .fn g cs => by simp only [AV.frz, frzL_norefs hp cs]
  | .rptr _ _ _ _ => by simp only [AV.frz]; rfl
  | .rowA _ => by simp only [AV.frz]; rfl
  | .rowS _ _ _ _ => by simp only [AV.frz]; rfl
  | .ptr _ _ => by simp only [AV.frz]
  | .mp _ => by simp only [AV.frz]
  | .int _ _ => by simp only [AV.frz]
  | .bool _ => by simp only [AV.frz]
  | .str _ => by simp only [AV.frz]
  | .list _ _ => by simp only [AV.frz]
  | .np => by simp only [AV.frz]
  | .nm => by simp only [AV.frz]
  | .nf => by simp only [AV.frz]
  | .ns => by simp only [AV.frz]
  | .lptr _ _ _ _ => by simp only [AV.frz]
  | .undef => by simp only [AV.frz]
  | .dead => by simp only [AV.frz]
theorem frzL_norefs (hp : Nat → LObj) : ∀ (cs : List AV), AV.frzL hp [] cs = cs
  | [] => by simp only [AV.frzL]
  | c :: cs => by simp only [AV.frzL, frz_norefs hp c, frzL_norefs hp cs]
end

theorem call_norefs {T : Tab} {orc : Orc} {hp hp' : Nat → LObj} {f : Nat} {args : List AV} (h : AV.refsL args = []) : callE T orc hp' f args some = callE T orc hp f args some := by
  unfold callE
  rw [h]
  simp only [rowsOf, frzL_norefs, if_true]

theorem normArg_refs (T : Tab) (t : Nat) (v : AV) : (normArg T t v).refs = v.refs := by
  unfold normArg
  split
  · split
    · split <;> rfl
    · rfl
  · rfl
theorem normArgs_refs (T : Tab) : ∀ (ts : List Nat) (vs : List AV), AV.refsL (normArgs T ts vs) = AV.refsL vs
  | [], vs => by cases vs <;> rfl
  | t :: ts, [] => rfl
  | t :: ts, v :: vs => by simp only [normArgs, AV.refsL, normArg_refs, normArgs_refs T ts vs]
theorem refsL_append (xs ys : List AV) : AV.refsL (xs ++ ys) = AV.refsL xs ++ AV.refsL ys := by
  induction xs with
  | nil => rfl
  | cons x xs ih => simp [AV.refsL, ih]
theorem refsL_none {xs : List AV} (h : AV.refsL xs = []) : ∀ x ∈ xs, x.refs = [] := by
  induction xs with
  | nil => simp
  | cons y ys ih =>
    simp only [AV.refsL, List.append_eq_nil_iff] at h
    intro x hx
    rcases List.mem_cons.1 hx with rfl | hx
    · exact h.1
    · exact ih h.2 x hx

theorem builtin_val {T : Tab} {hp hp' : Nat → LObj} {nx nx' : Nat} {b : Builtin} {ts : List Nat} {vs : List AV} {v : AV} (hr : AV.refsL vs = []) (h : builtinE T hp nx b ts vs some = some (.val v)) : builtinE T hp' nx' b ts vs some = some (.val v) := by
  unfold builtinE at h ⊢
  split at h
  · rename_i t x
    rw [lenT_norefs (hp := hp) (refsL_none hr x (by simp))]
    exact h
  · exact (append_val h).elim
  · exact h
  · exact h
  · cases h

theorem ev_mem (st : St) (hp' : Nat → LObj) (nx' : Nat) (x : Operand) : St.ev { st with hp := hp', nx := nx' } x = st.ev x := by cases x <;> rfl

/-- Memory may be another: the operation looks at none. -/
theorem evOp_mem {T : Tab} {orc : Orc} {o : Op} {ty : Nat} {st : St} {v : AV} (hb : (blindOp o || (AV.refsL (opVals st o)).isEmpty) = true) (h : evOp T orc o ty st some = some (.val v)) (hp' : Nat → LObj) (nx' : Nat) :
    evOp T orc o ty { st with hp := hp', nx := nx' } some = some (.val v) := by
  have hev : St.ev { st with hp := hp', nx := nx' } = st.ev := funext (ev_mem st hp' nx')
  have hrefs : blindOp o = false → ∀ x ∈ o.operands.toList, (st.ev x).refs = [] := fun hf x hx => by
    rw [hf, Bool.false_or, List.isEmpty_iff] at hb
    exact refsL_none hb _ (List.mem_map.2 ⟨x, hx, rfl⟩)
  cases o <;> simp only [evOp, hev] at h ⊢ <;> (try exact h)
  case assign x =>
    unfold assignE at h ⊢
    split at h
    · split at h
      · split at h
        · cases h
        · exact h
      · exact h
    · exact h
  case alloc e =>
    split at h
    · unfold boxE at h
      split at h
      · rename_i hx; split at hx <;> cases hx <;> cases h
      · cases h
    · cases h
  case box e x =>
    split at h
    · unfold boxE at h
      split at h
      · rename_i hx; split at hx <;> cases hx <;> cases h
      · cases h
    · cases h
  case buildSlice t n ps => exact (buildSlice_val h).elim
  case load t x => rw [load_norefs (hp := st.hp) (hrefs rfl x (by simp [Op.operands]))]; exact h
  case store t x y =>
    split at h
    · rename_i f hf
      unfold storeE at hf
      repeat' split at hf
      all_goals (first | (cases hf; done) | (cases hf; cases h; done))
    · cases h
  case convert s d x => exact convert_val (hrefs rfl x (by simp [Op.operands])) h
  case makeFunc fn first caps => cases fn <;> simp only [evOp, hev] at h ⊢ <;> exact h
  case makeSlice t x y => exact (makeSlice_val h).elim
  case slice t x lo hi mx => rw [slice_norefs (hp := st.hp) (hrefs rfl x (by simp [Op.operands]))]; exact h
  case indexAddr t x i => rw [indexAddr_norefs (hp := st.hp) (hrefs rfl x (by simp [Op.operands]))]; exact h
  case call c =>
    have hL : AV.refsL (c.args.toList.map st.ev) = [] := by
      have : ∀ (xs : List Operand), (∀ x ∈ xs, (st.ev x).refs = []) → AV.refsL (xs.map st.ev) = [] := fun xs => by
        induction xs with
        | nil => intro _; rfl
        | cons x xs ih => intro hx; simp only [List.map_cons, AV.refsL, hx x (by simp), ih fun y hy => hx y (by simp [hy]), List.append_nil]
      exact this _ fun x hx => hrefs rfl x (by simp [Op.operands, Call.operands]; right; simpa using hx)
    split at h
    · exact builtin_val hL h
    · rename_i f hf
      split at h
      · rename_i g caps hg
        have hc := hrefs rfl f (by simp [Op.operands, Call.operands, hf])
        rw [hg] at hc
        simp only [AV.refs] at hc
        rw [call_norefs (hp := st.hp) (by rw [refsL_append, normArgs_refs, hL, hc]; rfl)]
        exact h
      · cases h
    · cases h

end Go.Proofs.YtgiofacmcpakoaaE
