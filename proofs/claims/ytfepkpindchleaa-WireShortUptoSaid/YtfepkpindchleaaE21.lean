/- The engine, part 21: a region whose order is open. -/
import Derived.Test.YtfepkpindchleaaE20
namespace Go.Proofs.YtfepkpindchleaaE
open Go
set_option linter.unusedVariables false
set_option linter.unusedSimpArgs false

theorem drawOk_pair {ops : Array Oper} {bs : List Nat} (h : drawOk ops bs = true) {i j : Nat} {x y : Oper} (hij : i < j) (hx : ops[i]? = some x) (hy : ops[j]? = some y) : (bs.getD j 0).testBit i = true ∨ Oper.apart ops x y = true := by
  have hj : j < ops.size := (Array.getElem?_eq_some_iff.1 hy).1
  have h1 := rng_all _ _ h j (by omega) (by omega)
  simp only [Bool.and_eq_true] at h1
  have h2 := rng_all _ _ h1.2 i (by omega) (by omega)
  simp only [hx, hy, Bool.or_eq_true] at h2
  exact h2
theorem drawOk_edge {ops : Array Oper} {bs : List Nat} (h : drawOk ops bs = true) {j : Nat} {y : Oper} (hy : ops[j]? = some y) : ∀ e ∈ y.after, Region.binds .any e = true → e.on < j := by
  intro e he hb
  have hj : j < ops.size := (Array.getElem?_eq_some_iff.1 hy).1
  have h1 := rng_all _ _ h j (by omega) (by omega)
  simp only [Bool.and_eq_true, hy, List.all_eq_true] at h1
  have h2 := h1.1 e (by simpa using he)
  rw [hb] at h2
  simpa using h2
theorem mayMeet_pair {bs : List Nat} {cs : List Cls} (h : mayMeet bs cs = true) {i j : Nat} {x y : Cls} (hij : i < j) (hx : cs[i]? = some x) (hy : cs[j]? = some y) : (bs.getD j 0).testBit i = true ∨ meet x y = true := by
  obtain ⟨hj, _⟩ := List.getElem?_eq_some_iff.1 hy
  have h1 := rng_all _ _ h j (by omega) (by omega)
  have h2 := rng_all _ _ h1 i (by omega) (by omega)
  rw [Bool.or_eq_true] at h2
  refine h2.imp id fun h3 => ?_
  rw [List.getD_eq_getElem?_getD, List.getD_eq_getElem?_getD, hx, hy] at h3
  exact h3

theorem getD_false_lt {listed : Array Bool} {j : Nat} (h : listed.getD j true = false) : listed.getD j false = false := by
  rcases Nat.lt_or_ge j listed.size with h' | h'
  · simp [h'] at h ⊢; exact h
  · simp [Array.getElem?_eq_none h'] at h

theorem set_addL {listed : Array Bool} {i : Nat} (hi : i < listed.size) : (fun k => (listed.setIfInBounds i true).getD k false) = addL (fun k => listed.getD k false) i := by
  funext k
  by_cases hk : k = i
  · subst hk; simp [addL, hi]
  · have : (k == i) = false := by simp [hk]
    simp [addL, this, Array.getElem?_setIfInBounds_ne (Ne.symm hk)]

theorem stepAt_nx (ops : List Oper) (es : List (Option Eff × Cls)) (i : Nat) (s : St) : s.nx ≤ (stepAt ops es i s).nx := by
  unfold stepAt
  cases ops[i]? with
  | none => exact Nat.le_refl _
  | some o =>
    cases es[i]? with
    | none => exact Nat.le_refl _
    | some e => exact stepS_nx _ _ _

theorem any_go {P : Program} {T : Tab} (hT : TabOk P T) {orc : Orc} (hO : SoundOrc P orc) {c : Cx} {ops : Array Oper} {Q : Exit → Act → World → Prop} (hd : ∀ o ∈ ops.toList, ∀ t, o.dst = some t → t < c.nt)
    {es : List (Option Eff × Cls)} {st0 st' : St} (htr : Trace T orc st0.nx ops.toList ops.toList es st0 st') (hdr : drawOk ops (Region.before ops).toList = true) (hmm : mayMeet (Region.before ops).toList (es.map (·.2)) = true)
    (hQ : ∀ a w μ F, Inv c st' a w μ F → Q .normal a w) :
    ∀ (fuel : Nat) (listed : Array Bool) (U : List Nat) (a : Act) (w : World) (μ : Nat → Pl) (F : Nat → Prop), listed.size = ops.size → (∀ i, i < ops.size → listed.getD i false = false → i ∈ U) → U.length ≤ fuel →
      (∀ j o, ops[j]? = some o → listed.getD j false = true → ∀ x, ((Region.before ops).toList.getD j 0).testBit x = true → listed.getD x false = true) →
      Inv c (runS (stepAt ops.toList es) (fun i => listed.getD i false) st0 ops.size) a w μ F → wpAny P .any ops Q fuel listed a w := by
  have hlen := trace_len htr
  have hsz : ops.toList.length = ops.size := by simp
  have hend := trace_end htr
  rw [hsz] at hend
  have fin : ∀ (listed : Array Bool) a w μ F, (∀ i, i < ops.size → listed.getD i false = true) → Inv c (runS (stepAt ops.toList es) (fun i => listed.getD i false) st0 ops.size) a w μ F → Q .normal a w := fun listed a w μ F hall hi => by
    have : runS (stepAt ops.toList es) (fun i => listed.getD i false) st0 ops.size = st' := by
      rw [← hend]
      exact runS_congr _ fun i h => hall i h
    rw [this] at hi
    exact hQ a w μ F hi
  have getE : ∀ {i : Nat} {o : Oper}, ops[i]? = some o → ∃ e, es[i]? = some e ∧ stepAt ops.toList es i = stepS o e.1 := fun {i o} ho => by
    have hi : i < es.length := by rw [hlen, hsz]; exact (Array.getElem?_eq_some_iff.1 ho).1
    refine ⟨es[i], List.getElem?_eq_getElem hi, ?_⟩
    funext s
    unfold stepAt
    rw [List.getElem?_eq_getElem hi, Array.getElem?_toList, ho]
  have getC : ∀ {i : Nat} {o : Oper} {e : Option Eff × Cls}, ops[i]? = some o → es[i]? = some e → Cl st0.nx e.1 e.2 := fun {i o e} ho he => by
    obtain ⟨e', he', hc, _⟩ := trace_at htr (i := i) (o := o) (by rw [Array.getElem?_toList]; exact ho)
    rw [he] at he'
    cases he'
    exact hc
  have meets : ∀ {i j : Nat} {x y : Option Eff × Cls}, i < j → es[i]? = some x → es[j]? = some y → ((Region.before ops).toList.getD j 0).testBit i = false → meet x.2 y.2 = true := fun {i j x y} hij hx hy hb => by
    rcases mayMeet_pair hmm hij (x := x.2) (y := y.2) (by rw [List.getElem?_map, hx]; rfl) (by rw [List.getElem?_map, hy]; rfl) with h | h
    · rw [hb] at h; cases h
    · exact h
  have aparts : ∀ {i j : Nat} {x y : Oper}, i < j → ops[i]? = some x → ops[j]? = some y → ((Region.before ops).toList.getD j 0).testBit i = false → Oper.apart ops x y = true := fun {i j x y} hij hx hy hb => by
    rcases drawOk_pair hdr hij hx hy with h | h
    · rw [hb] at h; cases h
    · exact h
  have swap : ∀ {i j : Nat}, i < j → j < ops.size → ((Region.before ops).toList.getD j 0).testBit i = false → ∀ s, st0.nx ≤ s.nx → stepAt ops.toList es j (stepAt ops.toList es i s) = stepAt ops.toList es i (stepAt ops.toList es j s) := fun {i j} hij hj hb s hsn => by
    have hoi : ops[i]? = some ops[i] := Array.getElem?_eq_getElem (by omega)
    have hoj : ops[j]? = some ops[j] := Array.getElem?_eq_getElem hj
    obtain ⟨ei, hei, hsi⟩ := getE hoi
    obtain ⟨ej, hej, hsj⟩ := getE hoj
    rw [hsi, hsj]
    exact step_swap (getC hoi hei) (getC hoj hej) (meets hij hei hej hb) (Oper.apart_spec (aparts hij hoi hoj hb)).2.1 s hsn
  intro fuel
  induction fuel with
  | zero =>
    intro listed U a w μ F hls hU hUl hcl hi
    have hall : ∀ i, i < ops.size → listed.getD i false = true := fun i h => by
      cases hx : listed.getD i false with
      | true => rfl
      | false =>
        have := hU i h hx
        have hnil : U = [] := by cases U with | nil => rfl | cons _ _ => simp at hUl
        rw [hnil] at this; cases this
    refine ⟨?_, fin listed a w μ F hall hi⟩
    cases hr : Region.ready .any ops listed with
    | nil => rfl
    | cons x xs =>
      have hx : x ∈ Region.ready .any ops listed := by rw [hr]; simp
      obtain ⟨h1, o, h2, _⟩ := mem_ready.1 hx
      have h3 := hall x (Array.getElem?_eq_some_iff.1 h2).1
      rw [getD_false_lt h1] at h3
      cases h3
  | succ fuel ih =>
    intro listed U a w μ F hls hU hUl hcl hi
    refine ⟨fun hr => ?_, fun i hi' => ?_⟩
    · refine fin listed a w μ F ?_ hi
      intro i
      induction i using Nat.strongRecOn with
      | _ i ihi =>
        intro hlt
        cases hx : listed.getD i false with
        | true => rfl
        | false =>
          have ho : ops[i]? = some ops[i] := Array.getElem?_eq_getElem hlt
          have : i ∈ Region.ready .any ops listed := by
            rw [mem_ready]
            refine ⟨?_, ops[i], ho, fun e he hb => ?_⟩
            · have : i < listed.size := by omega
              simp [this] at hx ⊢; exact hx
            · have hlt' := drawOk_edge hdr ho e he hb
              exact ihi e.on hlt' (by omega)
          rw [hr] at this
          cases this
    · obtain ⟨hun, o, ho, hall⟩ := mem_ready.1 hi'
      have hil : i < ops.size := (Array.getElem?_eq_some_iff.1 ho).1
      have hLi : listed.getD i false = false := getD_false_lt hun
      have hbi : ∀ x, ((Region.before ops).toList.getD i 0).testBit x = true → listed.getD x false = true := fun x hx => by
        obtain ⟨e, he, hb, h⟩ := before_spec ho hx
        have hL := hall e (by simpa using he) hb
        rcases h with rfl | h
        · exact hL
        · have : e.on < ops.size := by
            rcases Nat.lt_or_ge e.on ops.size with h' | h'
            · exact h'
            · simp [Array.getElem?_eq_none (show listed.size ≤ e.on by omega)] at hL
          exact hcl e.on ops[e.on] (Array.getElem?_eq_getElem this) hL x h
      -- what stands ahead of what is listed, is listed
      have hnb : ∀ k, k < ops.size → listed.getD k false = true → ∀ x, listed.getD x false = false → ((Region.before ops).toList.getD k 0).testBit x = false := fun k hk hLk x hLx => by
        cases hb : ((Region.before ops).toList.getD k 0).testBit x with
        | false => rfl
        | true =>
          have := hcl k ops[k] (Array.getElem?_eq_getElem hk) hLk x hb
          rw [hLx] at this; cases this
      obtain ⟨e, hei, hce, hcase⟩ := trace_at htr (i := i) (o := o) (by rw [Array.getElem?_toList]; exact ho)
      have hstep : stepAt ops.toList es i = stepS o e.1 := by
        obtain ⟨e', he', h⟩ := getE ho
        rw [hei] at he'
        cases he'
        exact h
      obtain ⟨core, hcore, hobs, hobs'⟩ : ∃ core : St, st0.nx ≤ core.nx ∧ Obs st0.nx o ops e.2 core (runS (stepAt ops.toList es) (fun _ => true) st0 i) ∧ Obs st0.nx o ops e.2 core (runS (stepAt ops.toList es) (fun k => listed.getD k false) st0 ops.size) := by
        -- the common part
        have h1 : Obs st0.nx o ops e.2 (runS (stepAt ops.toList es) (fun k => listed.getD k false && decide (k < i)) st0 ops.size) (runS (stepAt ops.toList es) (fun k => listed.getD k false) st0 ops.size) := by
          refine runS_obs (stepAt_nx _ _) (Nat.le_refl _) obs_refl obs_trans (fun k h => by simp only [Bool.and_eq_true] at h; exact h.1) fun k hk h2 h3 => ?_
          have hki : i < k := by
            rw [h3] at h2
            simp at h2
            rcases Nat.lt_or_eq_of_le h2 with h | h
            · exact h
            · subst h; rw [hLi] at h3; cases h3
          have hb := hnb k hk h3 i hLi
          have hok : ops[k]? = some ops[k] := Array.getElem?_eq_getElem hk
          obtain ⟨ek, hek, hsk⟩ := getE hok
          refine ⟨fun s _ => ?_, fun k' h4 h5 h6 s hsn => ?_⟩
          · rw [hsk]
            exact obs_step (getC hok hek) (meets hki hei hek hb) (Oper.apart_spec (aparts hki ho hok hb)).2.2 s
          · simp only [Bool.and_eq_true, decide_eq_true_eq] at h6
            omega
        have h2 : Obs st0.nx o ops e.2 (runS (stepAt ops.toList es) (fun k => listed.getD k false && decide (k < i)) st0 ops.size) (runS (stepAt ops.toList es) (fun k => decide (k < i)) st0 ops.size) := by
          refine runS_obs (stepAt_nx _ _) (Nat.le_refl _) obs_refl obs_trans (fun k h => by simp only [Bool.and_eq_true] at h; exact h.2) fun k hk h2 h3 => ?_
          have hki : k < i := of_decide_eq_true h3
          have hLk : listed.getD k false = false := by
            rw [h3, Bool.and_true] at h2
            exact h2
          have hb : ((Region.before ops).toList.getD i 0).testBit k = false := by
            cases hb : ((Region.before ops).toList.getD i 0).testBit k with
            | false => rfl
            | true => rw [hbi k hb] at hLk; cases hLk
          have hok : ops[k]? = some ops[k] := Array.getElem?_eq_getElem hk
          obtain ⟨ek, hek, hsk⟩ := getE hok
          refine ⟨fun s _ => ?_, fun k' h4 h5 h6 s hsn => ?_⟩
          · rw [hsk]
            have hm := meets hki hek hei hb
            have hm' : meet e.2 ek.2 = true := by rw [meet_comm]; exact hm
            exact obs_step (getC hok hek) hm' (Oper.apart_spec (aparts hki hok ho hb)).1 s
          · simp only [Bool.and_eq_true, decide_eq_true_eq] at h6
            exact swap h4 h5 (hnb k' h5 h6.1 k hLk) s hsn
        have h3 : runS (stepAt ops.toList es) (fun k => decide (k < i)) st0 ops.size = runS (stepAt ops.toList es) (fun _ => true) st0 i := by
          have : ∀ m, i ≤ m → runS (stepAt ops.toList es) (fun k => decide (k < i)) st0 m = runS (stepAt ops.toList es) (fun _ => true) st0 i := by
            intro m hm
            induction m with
            | zero =>
              have : i = 0 := by omega
              subst this
              rfl
            | succ m ihm =>
              by_cases h : i = m + 1
              · subst h
                exact runS_congr _ fun k hk => by simp [hk]
              · simp only [runS]
                have : ¬ m < i := by omega
                simp only [this, decide_false, cond_false]
                exact ihm (by omega)
          exact this ops.size (by omega)
        have h4 : ∀ m, st0.nx ≤ (runS (stepAt ops.toList es) (fun k => listed.getD k false && decide (k < i)) st0 m).nx := by
          intro m
          induction m with
          | zero => exact Nat.le_refl _
          | succ m ihm =>
            simp only [runS]
            cases (listed.getD m false && decide (m < i)) with
            | false => exact ihm
            | true =>
              exact Nat.le_trans ihm (stepAt_nx _ _ _ _)
        rw [← h3]
        exact ⟨_, h4 ops.size, h2, h1⟩
      have hmem : o ∈ ops.toList := by
        have := List.mem_of_getElem? (l := ops.toList) (i := i) (a := o) (by rw [Array.getElem?_toList]; exact ho)
        exact this
      -- behind it
      have next : ∀ a' w' μ' F', Inv c (stepS o e.1 (runS (stepAt ops.toList es) (fun k => listed.getD k false) st0 ops.size)) a' w' μ' F' → wpAny P .any ops Q fuel (listed.setIfInBounds i true) a' w' := fun a' w' μ' F' hi2 => by
        have hils : i < listed.size := by omega
        have hset := set_addL (listed := listed) hils
        refine ih (listed.setIfInBounds i true) (U.erase i) a' w' μ' F' (by simp [hls]) (fun k hk hLk => ?_) ?_ (fun j oj hj hLj x hx => ?_) ?_
        · have := congrFun hset k
          rw [this] at hLk
          unfold addL at hLk
          simp only [Bool.or_eq_false_iff, beq_eq_false_iff_ne] at hLk
          exact (List.mem_erase_of_ne hLk.2).2 (hU k hk hLk.1)
        · have := List.length_erase_of_mem (hU i hil hLi)
          omega
        · have h1 := congrFun hset j
          have h2 := congrFun hset x
          rw [h1] at hLj
          rw [h2]
          unfold addL at hLj ⊢
          simp only [Bool.or_eq_true, beq_iff_eq] at hLj ⊢
          rcases hLj with hLj | rfl
          · exact .inl (hcl j oj hj hLj x hx)
          · exact .inl (hbi x hx)
        · rw [hset, runS_add (stepAt_nx _ _) (Nat.le_refl _) hLi _ hil fun k h1 h2 h3 s hsn => swap h1 h2 (hnb k h2 h3 i hLi) s hsn, hstep]
          exact hi2
      unfold wpOp
      simp only [ho]
      rcases hcase with ⟨he, hg⟩ | ⟨f, rfl, hg, hev⟩
      · replace hg := obs_gate hobs hobs' hg
        rw [if_neg (by rw [gateB_wanted hi hg]; simp)]
        rw [he] at next
        exact next _ _ _ _ (inv_put hi (hd o hmem) (by simp [VRel]))
      · have hg' := obs_gate hobs hobs' hg
        replace hev := obs_op hcore hobs hobs' hev
        replace hg := hg'
        rw [if_pos (gateB_wanted hi hg)]
        obtain ⟨f', hf', hs⟩ := evOp_sound hT hO hi hev
        cases hf'
        exact .inl (hs _ _ fun v w' μ' F' h1 h2 => next _ _ _ _ (inv_put h1 (hd o hmem) h2))

theorem inv_drew {c : Cx} {st : St} {a : Act} {w : World} {μ : Nat → Pl} {F : Nat → Prop} (hi : Inv c st a w μ F) : ∃ μ', Inv c st a { w with drawn := w.drawn + 1 } μ' F :=
  ⟨_, inv_news hi (Grew.drew w) [] [] rfl (by simp) (by simp) (by simp)⟩

theorem evDraw_sound {P : Program} (hmo : P.follows .mixedOrders = true) {T : Tab} (hT : TabOk P T) {orc : Orc} (hO : SoundOrc P orc) {R : Type} {K : St → Option R} {r : R} {c : Cx} {ops : Array Oper} {Q : Exit → Act → World → Prop}
    (hd : ∀ o ∈ ops.toList, ∀ t, o.dst = some t → t < c.nt) (hQ : ∀ st a w μ F, Inv c st a w μ F → K st = some r → Q .normal a w) {st : St} {a : Act} {w : World} {μ : Nat → Pl} {F : Nat → Prop} (hi : Inv c st a w μ F)
    (hdr : drawOk ops (Region.before ops).toList = true) (h : evDraw T orc ops.toList (Region.before ops).toList st.nx ops.toList [] st K = some r) (id : Nat) : (Code.region id ops true).wp P Q a w := by
  obtain ⟨es, st', h1, h2, h3⟩ := evDraw_trace _ _ _ h
  obtain ⟨μ', hi'⟩ := inv_drew hi
  refine wp_region_any hmo (any_go hT hO hd h1 hdr (by simpa using h2) (fun a w μ F hi => hQ _ a w μ F hi h3) ops.size _ (List.range ops.size) a _ μ' F (by simp) (fun i h _ => by simpa using h) (by simp) (fun j o ho hL => ?_) ?_)
  · have hj : j < ops.size := (Array.getElem?_eq_some_iff.1 ho).1
    simp [hj] at hL
  · have : ∀ n, runS (stepAt ops.toList es) (fun i => (Array.replicate ops.size false).getD i false) st n = st := fun n => by
      induction n with
      | zero => rfl
      | succ n ih =>
        simp only [runS]
        have : (Array.replicate ops.size false).getD n false = false := by
          rcases Nat.lt_or_ge n ops.size with h | h
          · simp [h]
          · simp [h]
        rw [this, cond_false, ih]
    rw [this]
    exact hi'

end Go.Proofs.YtfepkpindchleaaE
