/- The engine, part 13: calls. -/
import Derived.Test.YtfepkpindchleaaE12
namespace Go.Proofs.YtfepkpindchleaaE
open Go
set_option linter.unusedVariables false
set_option linter.unusedSimpArgs false

/-! ### Names -/
mutual
theorem kill_nil : ∀ (x : AV), x.kill [] = x
  | .agg cs => by simp only [AV.kill, killL_nil cs]
  | .tup cs => by simp only [AV.kill, killL_nil cs]
  | .fn g cs => by simp only [AV.kill, killL_nil cs]
  | .rptr _ _ _ _ => by simp only [AV.kill]; rfl
  | .rowA _ => by simp only [AV.kill]; rfl
  | .rowS _ _ _ _ => by simp only [AV.kill]; rfl
  | .ptr _ _ => by simp only [AV.kill]
  | .mp _ => by simp only [AV.kill]
  | .int _ _ => by simp only [AV.kill]
  | .bool _ => by simp only [AV.kill]
  | .str _ => by simp only [AV.kill]
  | .list _ _ => by simp only [AV.kill]
  | .np => by simp only [AV.kill]
  | .nm => by simp only [AV.kill]
  | .nf => by simp only [AV.kill]
  | .ns => by simp only [AV.kill]
  | .lptr _ _ _ _ => by simp only [AV.kill]
  | .undef => by simp only [AV.kill]
  | .dead => by simp only [AV.kill]
theorem killL_nil : ∀ (cs : List AV), AV.killL [] cs = cs
  | [] => by simp only [AV.killL]
  | c :: cs => by simp only [AV.killL, kill_nil c, killL_nil cs]
end

theorem posIn_some {k : Nat} : ∀ {ks : List Nat} {j i : Nat}, posIn k ks j = some i → j ≤ i ∧ ks[i - j]? = some k
  | [], j, i, h => by simp [posIn] at h
  | x :: xs, j, i, h => by
    simp only [posIn] at h
    cases hx : (x == k) with
    | true =>
      rw [hx] at h
      simp only [cond_true, Option.some.injEq] at h
      subst h
      have : x = k := by simpa using hx
      subst this
      simp
    | false =>
      rw [hx] at h
      simp only [cond_false] at h
      obtain ⟨h1, h2⟩ := posIn_some h
      refine ⟨by omega, ?_⟩
      rw [show i - j = (i - (j + 1)) + 1 by omega]
      simpa using h2
theorem posIn_none {k : Nat} : ∀ {ks : List Nat} {j : Nat}, posIn k ks j = none → k ∉ ks
  | [], _, _ => by simp
  | x :: xs, j, h => by
    simp only [posIn] at h
    cases hx : (x == k) with
    | true => rw [hx] at h; simp at h
    | false =>
      rw [hx] at h
      simp only [cond_false] at h
      have hne : x ≠ k := by simpa using hx
      intro hm
      rcases List.mem_cons.1 hm with rfl | hm
      · exact hne rfl
      · exact posIn_none h hm
theorem posIn_mem {k : Nat} {ks : List Nat} (h : k ∈ ks) : ∃ i, posIn k ks 0 = some i := by
  cases hp : posIn k ks 0 with
  | some i => exact ⟨i, rfl⟩
  | none => exact absurd h (posIn_none hp)
theorem posIn_at {ks : List Nat} (hn : ks.Nodup) {i k : Nat} (h : ks[i]? = some k) : posIn k ks 0 = some i := by
  obtain ⟨j, hj⟩ := posIn_mem (List.mem_of_getElem? h)
  obtain ⟨_, h2⟩ := posIn_some hj
  rw [hj]
  congr 1
  simp only [Nat.sub_zero] at h2
  obtain ⟨a1, a2⟩ := List.getElem?_eq_some_iff.1 h
  obtain ⟨b1, b2⟩ := List.getElem?_eq_some_iff.1 h2
  exact (List.getElem_inj hn).1 (b2.trans a2.symm)

theorem reach_all {hp : Nat → LObj} {Q : Nat → Prop} (hQ : ∀ k, Q k → ∀ j ∈ (hp k).refs, Q j) : ∀ (n : Nat) (work seen : List Nat), (∀ k ∈ work, Q k) → (∀ k ∈ seen, Q k) → ∀ k ∈ reach hp n work seen, Q k
  | 0, _, _, _, hs => by simpa only [reach] using hs
  | n + 1, [], _, _, hs => by simpa only [reach] using hs
  | n + 1, w :: ws, seen, hw, hs => by
    simp only [reach]
    cases hc : seen.contains w with
    | true => exact reach_all hQ n ws seen (fun k hk => hw k (by simp [hk])) hs
    | false =>
      refine reach_all hQ n _ _ (fun k hk => ?_) (fun k hk => ?_)
      · rcases List.mem_append.1 hk with hk | hk
        · exact hQ w (hw w (by simp)) k hk
        · exact hw k (by simp [hk])
      · rcases List.mem_append.1 hk with hk | hk
        · exact hs k hk
        · simp at hk; subst hk; exact hw _ (by simp)
theorem reach_nodup {hp : Nat → LObj} : ∀ (n : Nat) (work seen : List Nat), seen.Nodup → (reach hp n work seen).Nodup
  | 0, _, _, h => by simpa only [reach] using h
  | n + 1, [], _, h => by simpa only [reach] using h
  | n + 1, w :: ws, seen, h => by
    simp only [reach]
    cases hc : seen.contains w with
    | true => exact reach_nodup n ws seen h
    | false =>
      refine reach_nodup n _ _ ?_
      have hm : w ∉ seen := by simpa using hc
      rw [List.nodup_append]
      exact ⟨h, by simp, by intro x hx y hy; simp at hy; subst hy; rintro rfl; exact hm hx⟩

theorem ofHp_get : ∀ (os : List LObj) (i : Nat), ofHp os i = (os[i]?).getD .gone
  | [], i => by simp [ofHp]
  | o :: os, 0 => by simp [ofHp]
  | o :: os, i + 1 => by simp [ofHp, ofHp_get os i]

mutual
theorem ren_plain (f : Nat → Option Nat) : ∀ (x : AV), x.plain = true → x.ren f = x
  | .int _ _, _ => rfl
  | .bool _, _ => rfl
  | .str _, _ => rfl
  | .np, _ => rfl
  | .undef, _ => rfl
  | .agg cs, h => by simp only [AV.plain] at h; simp only [AV.ren]; rw [renL_plain f cs h]
  | .tup cs, h => by simp only [AV.plain] at h; simp only [AV.ren]; rw [renL_plain f cs h]
  | .list _ _, h => by simp [AV.plain] at h
  | .nm, h => by simp [AV.plain] at h
  | .nf, h => by simp [AV.plain] at h
  | .ns, h => by simp [AV.plain] at h
  | .ptr _ _, h => by simp [AV.plain] at h
  | .rptr _ _ _ _, h => by simp [AV.plain] at h
  | .lptr _ _ _ _, h => by simp [AV.plain] at h
  | .rowA _, h => by simp [AV.plain] at h
  | .rowS _ _ _ _, h => by simp [AV.plain] at h
  | .mp _, h => by simp [AV.plain] at h
  | .fn _ _, h => by simp [AV.plain] at h
  | .dead, h => by simp [AV.plain] at h
theorem renL_plain (f : Nat → Option Nat) : ∀ (cs : List AV), AV.plainL cs = true → AV.renL f cs = cs
  | [], _ => rfl
  | c :: cs, h => by
    simp only [AV.plainL, Bool.and_eq_true] at h
    simp only [AV.renL]
    rw [ren_plain f c h.1, renL_plain f cs h.2]
end
-- a plain value hangs on nothing
mutual
theorem vrel_plain {μ μ' : Nat → Pl} {F F' : Nat → Prop} {w w' : World} : ∀ {x : AV} {v : Value}, x.plain = true → VRel μ F w x v → VRel μ' F' w' x v
  | .int _ _, _, _, h => by simpa only [VRel] using h
  | .bool _, _, _, h => by simpa only [VRel] using h
  | .str _, _, _, h => by simpa only [VRel] using h
  | .np, _, _, h => by simpa only [VRel] using h
  | .undef, _, _, h => by simpa only [VRel] using h
  | .agg cs, _, hp, h => by
    simp only [AV.plain] at hp
    simp only [VRel] at h ⊢
    obtain ⟨us, rfl, h1, h2⟩ := h
    exact ⟨us, rfl, vrelL_plain hp h1, h2⟩
  | .tup cs, _, hp, h => by
    simp only [AV.plain] at hp
    simp only [VRel] at h ⊢
    obtain ⟨us, rfl, h1⟩ := h
    exact ⟨us, rfl, vrelL_plain hp h1⟩
  | .list _ _, _, h, _ => by simp [AV.plain] at h
  | .nm, _, h, _ => by simp [AV.plain] at h
  | .nf, _, h, _ => by simp [AV.plain] at h
  | .ns, _, h, _ => by simp [AV.plain] at h
  | .ptr _ _, _, h, _ => by simp [AV.plain] at h
  | .rptr _ _ _ _, _, h, _ => by simp [AV.plain] at h
  | .lptr _ _ _ _, _, h, _ => by simp [AV.plain] at h
  | .rowA _, _, h, _ => by simp [AV.plain] at h
  | .rowS _ _ _ _, _, h, _ => by simp [AV.plain] at h
  | .mp _, _, h, _ => by simp [AV.plain] at h
  | .fn _ _, _, h, _ => by simp [AV.plain] at h
  | .dead, _, h, _ => by simp [AV.plain] at h
theorem vrelL_plain {μ μ' : Nat → Pl} {F F' : Nat → Prop} {w w' : World} : ∀ {cs : List AV} {us : List Value}, AV.plainL cs = true → VRelL μ F w cs us → VRelL μ' F' w' cs us
  | [], _, _, h => by simpa only [VRelL] using h
  | c :: cs, _, hp, h => by
    simp only [AV.plainL, Bool.and_eq_true] at hp
    simp only [VRelL] at h ⊢
    obtain ⟨u, us, rfl, h1, h2⟩ := h
    exact ⟨u, us, rfl, vrel_plain hp.1 h1, vrelL_plain hp.2 h2⟩
end

/-! ### What a call of a function comes to -/
def Owned (μ : Nat → Pl) : Nat → Prop := fun b => ∃ k, (μ k).owns = some b

def Post (w : World) (μ : Nat → Pl) (F : Nat → Prop) (n0 : Nat) (res : List AV) (objs' : List LObj) (v : Value) (w' : World) : Prop :=
  ∃ μ' F', VRel μ' F' w' (tupled res) v ∧ HInv w' (ofHp objs') objs'.length μ' F' ∧ Fr w (Owned μ) F w' F' μ' ∧ n0 ≤ objs'.length ∧
    (∀ k b, k < n0 → μ k = .box b → μ' k = .box b) ∧ (∀ k b, k < n0 → μ k = .map b → μ' k = .map b)

def SemF (P : Program) (f : Nat) (args : List AV) (objs : List LObj) (res : List AV) (objs' : List LObj) : Prop :=
  (∃ fn, P.funcs[f]? = some fn ∧ fn.name ≠ "runtime.NumGoroutine" ∧ fn.body.isNone = false) ∧
  ∀ (w : World) (μ : Nat → Pl) (F : Nat → Prop) (vs : List Value), HInv w (ofHp objs) objs.length μ F → VRelL μ F w args vs →
    Calls P f vs.toArray w fun e w' => ∃ v, e = .returned v ∧ Post w μ F objs.length res objs' v w'

def SoundOrc (P : Program) (orc : Orc) : Prop := ∀ f args objs res objs', (orc f args objs).get = some (res, objs') → SemF P f args objs res objs'

theorem tupled_ren (f : Nat → Option Nat) (vs : List AV) : (tupled vs).ren f = tupled (AV.renL f vs) := by
  match vs with
  | [] => rfl
  | [v] => rfl
  | a :: b :: r => rfl

/-- The places that a callee is handed. -/
def subPl (μ : Nat → Pl) (ks : List Nat) : Nat → Pl := fun i => match ks[i]? with | some k => μ k | none => .none
/-- The places behind a call. -/
def backPl (μ μ' : Nat → Pl) (ks : List Nat) (nx : Nat) : Nat → Pl := fun k => if k < nx then (match posIn k ks 0 with | some i => μ' i | none => μ k) else μ' (ks.length + (k - nx))

theorem sub_inv {w : World} {hp : Nat → LObj} {nx : Nat} {μ : Nat → Pl} {F : Nat → Prop} (hi : HInv w hp nx μ F) {ks : List Nat} (hn : ks.Nodup) (hk : ∀ k ∈ ks, k < nx) :
    HInv w (ofHp (ks.map fun k => (hp k).ren fun k => posIn k ks 0)) (ks.map fun k => (hp k).ren fun k => posIn k ks 0).length (subPl μ ks) F := by
  have hf : ∀ k i, posIn k ks 0 = some i → subPl μ ks i = μ k := fun k i h => by
    obtain ⟨_, h2⟩ := posIn_some h
    simp only [Nat.sub_zero] at h2
    simp [subPl, h2]
  have hget : ∀ i b, (subPl μ ks i).owns = some b → ∃ k, ks[i]? = some k ∧ (μ k).owns = some b := fun i b h => by
    unfold subPl at h
    split at h
    · rename_i k hk; exact ⟨k, hk, h⟩
    · cases h
  refine ⟨fun i hi' => ?_, fun i hi' => ?_, fun i j b h1 h2 => ?_, fun i b h => ?_, hi.inn⟩
  · simp at hi'
    rw [ofHp_get]
    simp only [List.getElem?_map, List.getElem?_eq_getElem hi', Option.map_some, Option.getD_some]
    have : subPl μ ks i = μ ks[i] := by simp [subPl, List.getElem?_eq_getElem hi']
    rw [this]
    exact orel_ren hf (hi.obj _ (hk _ (List.getElem_mem hi')))
  · simp at hi'
    simp [subPl, List.getElem?_eq_none hi']
  · obtain ⟨k, e1, e2⟩ := hget i b h1
    obtain ⟨k', e3, e4⟩ := hget j b h2
    have := hi.one k k' b e2 e4
    subst this
    obtain ⟨a1, a2⟩ := List.getElem?_eq_some_iff.1 e1
    obtain ⟨b1, b2⟩ := List.getElem?_eq_some_iff.1 e3
    exact (List.getElem_inj hn).1 (a2.trans b2.symm)
  · obtain ⟨k, e1, e2⟩ := hget i b h
    exact hi.out k b e2

/-- Behind a call that was handed objects. -/
theorem inv_call {c : Cx} {st : St} {a : Act} {w w' : World} {μ : Nat → Pl} {F : Nat → Prop} (hi : Inv c st a w μ F) {ks : List Nat} (hn : ks.Nodup) (hk : ∀ k ∈ ks, k < st.nx ∧ μ k ≠ .none)
    {res : List AV} {objs' : List LObj} {v : Value} (hp : Post w (subPl μ ks) F ks.length res objs' v w') :
    ∃ μ' F', Inv c (st.apply (.call [] ks objs' res)).2 a w' μ' F' ∧ VRel μ' F' w' (st.apply (.call [] ks objs' res)).1 v := by
  obtain ⟨μ', F', hv, hh, hfr, hlen, hbx, hmp⟩ := hp
  have hsub : ∀ k i, posIn k ks 0 = some i → subPl μ ks i = μ k := fun k i h => by
    obtain ⟨_, h2⟩ := posIn_some h
    simp only [Nat.sub_zero] at h2
    simp [subPl, h2]
  have hlt : ∀ k i, posIn k ks 0 = some i → i < ks.length := fun k i h => by
    obtain ⟨_, h2⟩ := posIn_some h
    obtain ⟨h3, _⟩ := List.getElem?_eq_some_iff.1 h2
    simpa using h3
  have hfp : ∀ b, Owned (subPl μ ks) b → ∃ k ∈ ks, (μ k).owns = some b := fun b ⟨i, h⟩ => by
    unfold subPl at h
    split at h
    · rename_i k hk'; exact ⟨k, List.mem_of_getElem? hk', h⟩
    · cases h
  -- the places behind the call
  have hold : ∀ k, k < st.nx → posIn k ks 0 = none → backPl μ μ' ks st.nx k = μ k := fun k h1 h2 => by simp [backPl, h1, h2]
  have hkey : ∀ k i, k < st.nx → posIn k ks 0 = some i → backPl μ μ' ks st.nx k = μ' i := fun k i h1 h2 => by simp [backPl, h1, h2]
  have hnew : ∀ j, backPl μ μ' ks st.nx (st.nx + j) = μ' (ks.length + j) := fun j => by
    have h1 : ¬ (st.nx + j < st.nx) := by omega
    simp only [backPl, h1, if_false]
    congr 1
    omega
  have hback : ∀ i k, backName ks st.nx i = some k → backPl μ μ' ks st.nx k = μ' i := fun i k h => by
    unfold backName at h
    cases hb : Nat.blt i ks.length with
    | true =>
      rw [hb] at h
      simp only [cond_true] at h
      exact hkey k i (hk k (List.mem_of_getElem? h)).1 (posIn_at hn h)
    | false =>
      rw [hb] at h
      simp only [cond_false, Option.some.injEq] at h
      have hge : ks.length ≤ i := by
        rcases Nat.lt_or_ge i ks.length with h1 | h1
        · rw [show Nat.blt i ks.length = true by simpa using h1] at hb; cases hb
        · exact h1
      subst h
      rw [hnew]
      congr 1
      omega
  have hFw : ∀ b, F b → w'.heap[b]? = w.heap[b]? := fun b hb => hfr.keep b (hi.h.inn b hb) (fun h => by
    obtain ⟨k, _, h2⟩ := hfp b h
    exact (hi.h.out k b h2).1 hb)
  have hobj : ∀ k, k ∈ ks → ORel μ F w (st.hp k) (μ k) := fun k h => hi.h.obj k (hk k h).1
  have hμ : ∀ k, (rowsOf st.hp ks).contains k = false → μ k ≠ .none → backPl μ μ' ks st.nx k = μ k := fun k h1 h2 => by
    have hkn : k < st.nx := hinv_there hi.h h2
    cases hp : posIn k ks 0 with
    | none => exact hold k hkn hp
    | some i =>
      rw [hkey k i hkn hp]
      have hmem : k ∈ ks := by obtain ⟨_, h3⟩ := posIn_some hp; exact List.mem_of_getElem? h3
      have ho := hobj k hmem
      cases hm : μ k with
      | none => exact absurd hm h2
      | box b => exact hbx i b (hlt k i hp) (by rw [hsub k i hp]; exact hm)
      | map b => exact hmp i b (hlt k i hp) (by rw [hsub k i hp]; exact hm)
      | row al l cp sz =>
        exfalso
        rw [hm] at ho
        obtain ⟨t, xs, hrow, _⟩ := sz_row ho
        have : k ∈ rowsOf st.hp ks := by
          have : ∀ (l : List Nat), k ∈ l → k ∈ rowsOf st.hp l := by
            intro l
            induction l with
            | nil => simp
            | cons x l ih =>
              intro h
              simp only [rowsOf]
              rcases List.mem_cons.1 h with rfl | h
              · rw [hrow]; simp
              · split
                · exact List.mem_cons_of_mem _ (ih h)
                · exact ih h
          exact this ks hmem
        simp [this] at h1
  have hb : ∀ k b, μ k = .box b → backPl μ μ' ks st.nx k = .box b := fun k b h => by
    have hkn : k < st.nx := hinv_there hi.h (by rw [h]; simp)
    cases hp : posIn k ks 0 with
    | none => rw [hold k hkn hp]; exact h
    | some i => rw [hkey k i hkn hp]; exact hbx i b (hlt k i hp) (by rw [hsub k i hp]; exact h)
  have hm : ∀ k b, μ k = .map b → backPl μ μ' ks st.nx k = .map b := fun k b h => by
    have hkn : k < st.nx := hinv_there hi.h (by rw [h]; simp)
    cases hp : posIn k ks 0 with
    | none => rw [hold k hkn hp]; exact h
    | some i => rw [hkey k i hkn hp]; exact hmp i b (hlt k i hp) (by rw [hsub k i hp]; exact h)
  -- who owns what
  have hown : ∀ k b, (backPl μ μ' ks st.nx k).owns = some b → (k < st.nx ∧ posIn k ks 0 = none ∧ (μ k).owns = some b) ∨ (∃ i, (μ' i).owns = some b ∧ backName ks st.nx i = some k) := fun k b h => by
    by_cases hkn : k < st.nx
    · cases hp : posIn k ks 0 with
      | none => rw [hold k hkn hp] at h; exact .inl ⟨hkn, rfl, h⟩
      | some i =>
        rw [hkey k i hkn hp] at h
        refine .inr ⟨i, h, ?_⟩
        have hil := hlt k i hp
        obtain ⟨_, h3⟩ := posIn_some hp
        simp only [backName, show Nat.blt i ks.length = true by simpa using hil, cond_true]
        simpa using h3
    · obtain ⟨j, rfl⟩ : ∃ j, k = st.nx + j := ⟨k - st.nx, by omega⟩
      rw [hnew] at h
      refine .inr ⟨ks.length + j, h, ?_⟩
      have : Nat.blt (ks.length + j) ks.length = false := by
        cases hb : Nat.blt (ks.length + j) ks.length with
        | false => rfl
        | true => have : ks.length + j < ks.length := by simpa using hb
                  omega
      simp [backName, this]
  have hfar : ∀ k b, k < st.nx → posIn k ks 0 = none → (μ k).owns = some b → ¬ Owned (subPl μ ks) b := fun k b h1 h2 h3 h4 => by
    obtain ⟨k', hk', h5⟩ := hfp b h4
    have := hi.h.one k k' b h3 h5
    subst this
    exact posIn_none h2 hk'
  have hcallee : ∀ i b, (μ' i).owns = some b → Owned (subPl μ ks) b ∨ w.heap.size ≤ b := fun i b h => hfr.newO i b h
  have hkept : ∀ k b, k < st.nx → posIn k ks 0 = none → (μ k).owns = some b → w'.heap[b]? = w.heap[b]? := fun k b h1 h2 h3 => hfr.keep b (hi.h.out k b h3).2 (hfar k b h1 h2 h3)
  have hlen2 : ((objs'.drop ks.length).map (LObj.ren (backName ks st.nx))).length = objs'.length - ks.length := by simp
  refine ⟨backPl μ μ' ks st.nx, F', ?_, ?_⟩
  · -- the state behind the call
    have main : ∀ (st2 : St), st2.nx = st.nx → (∀ t, ∃ x, st.tm t = x ∧ (st2.tm t = x.kill (rowsOf st.hp ks) ∨ (ks = [] ∧ st2.tm t = x))) →
        (∀ k, k < st.nx → (∀ i, posIn k ks 0 = some i → st2.hp k = (ofHp objs' i).ren (backName ks st.nx)) ∧ (posIn k ks 0 = none → st2.hp k = (st.hp k).kill (rowsOf st.hp ks) ∨ (ks = [] ∧ st2.hp k = st.hp k))) →
        Inv c (st2.news ((objs'.drop ks.length).map (LObj.ren (backName ks st.nx)))) a w' (backPl μ μ' ks st.nx) F' := by
      intro st2 hnx htm hhp
      refine ⟨⟨fun k hk2 => ?_, fun k hk2 => ?_, fun k k' b h1 h2 => ?_, fun k b h => ?_, hh.inn⟩, ?_, fun k b h1 h2 => hb k b (hi.idb k b h1 h2), fun k b h1 h2 => hm k b (hi.idm k b h1 h2), ?_, fun t => ?_, hi.sz, hi.df⟩
      · rw [news_nx, hlen2, hnx] at hk2
        by_cases hkn : k < st.nx
        · rw [news_old _ _ k (by omega)]
          obtain ⟨g1, g2⟩ := hhp k hkn
          cases hp : posIn k ks 0 with
          | some i =>
            rw [g1 i hp, hkey k i hkn hp]
            exact orel_ren hback (hh.obj i (by have := hlt k i hp; omega))
          | none =>
            rw [hold k hkn hp]
            have ho := hi.h.obj k hkn
            have hkb : ∀ b, (μ k).owns = some b → w'.heap[b]? = w.heap[b]? := fun b h => hkept k b hkn hp h
            rcases g2 hp with g | ⟨hks, g⟩
            · rw [g]; exact orel_kill hfr.old hFw hμ hb hm hkb ho
            · rw [g]
              subst hks
              exact orel_mono hfr.old hFw hkb (fun j hj => hold j (hinv_there hi.h (obj_refs_there ho j hj)) rfl) ho
        · obtain ⟨j, rfl⟩ : ∃ j, k = st.nx + j := ⟨k - st.nx, by omega⟩
          have hj : ks.length + j < objs'.length := by omega
          have hat := news_at ((objs'.drop ks.length).map (LObj.ren (backName ks st.nx))) st2 j ((ofHp objs' (ks.length + j)).ren (backName ks st.nx)) (by
            rw [List.getElem?_map, List.getElem?_drop, List.getElem?_eq_getElem hj, ofHp_get, List.getElem?_eq_getElem hj]
            rfl)
          rw [hnx] at hat
          rw [hat, hnew]
          exact orel_ren hback (hh.obj _ hj)
      · rw [news_nx, hlen2, hnx] at hk2
        obtain ⟨j, rfl⟩ : ∃ j, k = st.nx + j := ⟨k - st.nx, by omega⟩
        rw [hnew]
        exact hh.top _ (by omega)
      · rcases hown k b h1 with ⟨a1, a2, a3⟩ | ⟨i, a1, a2⟩ <;> rcases hown k' b h2 with ⟨b1, b2, b3⟩ | ⟨j, b1, b2⟩
        · exact hi.h.one k k' b a3 b3
        · rcases hcallee j b b1 with h | h
          · exact absurd h (hfar k b a1 a2 a3)
          · have := (hi.h.out k b a3).2; omega
        · rcases hcallee i b a1 with h | h
          · exact absurd h (hfar k' b b1 b2 b3)
          · have := (hi.h.out k' b b3).2; omega
        · have := hh.one i j b a1 b1
          subst this
          rw [a2] at b2
          exact Option.some.inj b2
      · rcases hown k b h with ⟨a1, a2, a3⟩ | ⟨i, a1, a2⟩
        · refine ⟨fun hF => ?_, Nat.lt_of_lt_of_le (hi.h.out k b a3).2 hfr.size⟩
          rcases hfr.newF b hF with h1 | h1 | h1
          · exact (hi.h.out k b a3).1 h1
          · exact hfar k b a1 a2 a3 h1
          · have := (hi.h.out k b a3).2; omega
        · exact hh.out i b a1
      · refine ⟨hfr.os.trans hi.fr.os, hfr.tape.trans hi.fr.tape, hfr.output.trans hi.fr.output, Nat.le_trans hi.fr.size hfr.size, fun b h1 h2 => ?_, fun b h => hfr.old b (hi.fr.old b h), fun b h => ?_, fun k b h => ?_⟩
        · rw [hfr.keep b (Nat.lt_of_lt_of_le h1 hi.fr.size) (fun h3 => ?_)]
          · exact hi.fr.keep b h1 h2
          · obtain ⟨k', _, h4⟩ := hfp b h3
            rcases hi.fr.newO k' b h4 with h5 | h5
            · exact h2 h5
            · omega
        · rcases hfr.newF b h with h1 | h1 | h1
          · exact hi.fr.newF b h1
          · obtain ⟨k', _, h4⟩ := hfp b h1
            rcases hi.fr.newO k' b h4 with h5 | h5
            · exact .inr (.inl h5)
            · exact .inr (.inr h5)
          · exact .inr (.inr (Nat.le_trans hi.fr.size h1))
        · rcases hown k b h with ⟨a1, a2, a3⟩ | ⟨i, a1, a2⟩
          · exact hi.fr.newO k b a3
          · rcases hcallee i b a1 with h1 | h1
            · obtain ⟨k', _, h4⟩ := hfp b h1
              exact hi.fr.newO k' b h4
            · exact .inr (Nat.le_trans hi.fr.size h1)
      · rw [news_nx, hnx]
        exact Nat.le_trans hi.n0 (Nat.le_add_right _ _)
      · rw [news_tm]
        obtain ⟨x, hx, h⟩ := htm t
        have ht := hi.tm t
        rw [hx] at ht
        rcases h with h | ⟨hks, h⟩
        · rw [h]; exact vrel_kill hfr.old hFw hμ hb hm ht
        · rw [h]
          subst hks
          exact vrel_mono hfr.old hFw (fun j hj => hold j (hinv_there hi.h (refs_there ht j hj)) rfl) ht
    simp only [St.apply]
    cases ks with
    | nil => exact main st rfl (fun t => ⟨_, rfl, .inr ⟨rfl, rfl⟩⟩) (fun k _ => ⟨fun i h => by simp [posIn] at h, fun _ => .inr ⟨rfl, rfl⟩⟩)
    | cons k0 ks => exact main _ rfl (fun t => ⟨_, rfl, .inl rfl⟩) (fun k _ => ⟨fun i h => by simp only [h], fun h => .inl (by simp only [h])⟩)
  · simp only [St.apply]
    rw [← tupled_ren]
    exact vrel_ren hback hv

mutual
theorem vrel_thin {μ : Nat → Pl} {F F' : Nat → Prop} {w w' : World} : ∀ {x : AV} {v : Value}, x.thin = true → VRel μ F w x v → VRel μ F' w' x v
  | .int _ _, _, _, h => by simpa only [VRel] using h
  | .bool _, _, _, h => by simpa only [VRel] using h
  | .str _, _, _, h => by simpa only [VRel] using h
  | .np, _, _, h => by simpa only [VRel] using h
  | .undef, _, _, h => by simpa only [VRel] using h
  | .nm, _, _, h => by simpa only [VRel] using h
  | .nf, _, _, h => by simpa only [VRel] using h
  | .ns, _, _, h => by simpa only [VRel] using h
  | .ptr _ _, _, _, h => by simpa only [VRel] using h
  | .rptr _ _ _ _, _, _, h => by simpa only [VRel] using h
  | .rowA _, _, _, h => by simpa only [VRel] using h
  | .rowS _ _ _ _, _, _, h => by simpa only [VRel] using h
  | .mp _, _, _, h => by simpa only [VRel] using h
  | .dead, _, _, h => by simp only [VRel]
  | .agg cs, _, hp, h => by
    simp only [AV.thin] at hp
    simp only [VRel] at h ⊢
    obtain ⟨us, rfl, h1, h2⟩ := h
    exact ⟨us, rfl, vrelL_thin hp h1, h2⟩
  | .tup cs, _, hp, h => by
    simp only [AV.thin] at hp
    simp only [VRel] at h ⊢
    obtain ⟨us, rfl, h1⟩ := h
    exact ⟨us, rfl, vrelL_thin hp h1⟩
  | .fn _ cs, _, hp, h => by
    simp only [AV.thin] at hp
    simp only [VRel] at h ⊢
    obtain ⟨us, rfl, h1⟩ := h
    exact ⟨us, rfl, vrelL_thin hp h1⟩
  | .list _ _, _, h, _ => by simp [AV.thin] at h
  | .lptr _ _ _ _, _, h, _ => by simp [AV.thin] at h
theorem vrelL_thin {μ : Nat → Pl} {F F' : Nat → Prop} {w w' : World} : ∀ {cs : List AV} {us : List Value}, AV.thinL cs = true → VRelL μ F w cs us → VRelL μ F' w' cs us
  | [], _, _, h => by simpa only [VRelL] using h
  | c :: cs, _, hp, h => by
    simp only [AV.thinL, Bool.and_eq_true] at hp
    simp only [VRelL] at h ⊢
    obtain ⟨u, us, rfl, h1, h2⟩ := h
    exact ⟨u, us, rfl, vrel_thin hp.1 h1, vrelL_thin hp.2 h2⟩
end

theorem enc_thin {F F' : Nat → Prop} {w w' : World} : ∀ {t : Ty} {x : t.den} {vs : List Value}, t.flatTy = true → Enc F w t x vs → Enc F' w' t x vs
  | .int _, _, _, _, h => by simpa only [Enc] using h
  | .bool, _, _, _, h => by simpa only [Enc] using h
  | .str, _, _, _, h => by simpa only [Enc] using h
  | .unit, _, _, _, h => by simpa only [Enc] using h
  | .list _, _, _, ht, _ => by simp [Ty.flatTy] at ht
  | .pair a b, x, _, ht, h => by
    simp only [Ty.flatTy, Bool.and_eq_true] at ht
    simp only [Enc] at h ⊢
    obtain ⟨us, us', rfl, h1, h2⟩ := h
    exact ⟨us, us', rfl, enc_thin ht.1 h1, enc_thin ht.2 h2⟩

theorem mrel_thin {F F' : Nat → Prop} {w w' : World} {kt vt : Ty} (hk : kt.flatTy = true) (hv : vt.flatTy = true) : ∀ {es : List (kt.den × vt.den)} {ms : List MapEntry}, MRel F w kt vt es ms → MRel F' w' kt vt es ms
  | [], _, h => h
  | e :: es, _, ⟨m, r, h1, h2, h3, h4⟩ => ⟨m, r, h1, enc_thin hk h2, enc_thin hv h3, mrel_thin hk hv h4⟩
theorem orel_thin {μ : Nat → Pl} {F F' : Nat → Prop} {w : World} {o : LObj} {p : Pl} (ho : o.thin = true) (h : ORel μ F w o p) : ORel μ F' w o p := by
  cases o with
  | boxT g cs =>
    cases p <;> simp only [ORel] at h ⊢
    obtain ⟨us, E, fz, h1, h2, h3, h4⟩ := h
    exact ⟨us, E, fz, h1, h2, vrelL_thin ho h3, h4⟩
  | row t xs =>
    cases p <;> simp only [ORel] at h ⊢
    obtain ⟨h1, h2, h3, h4, h5⟩ := h
    refine ⟨h1, h2, h3, h4, fun b o ha hc => ?_⟩
    obtain ⟨us, E, fz, e1, e2, e3, e4, e5⟩ := h5 b o ha hc
    refine ⟨us, E, fz, e1, e2, e3, fun i x hx => ?_, e5⟩
    obtain ⟨vs, f1, f2, f3⟩ := e4 i x hx
    exact ⟨vs, enc_thin ho f1, f2, f3⟩
  | mpo kt vt es =>
    cases p <;> simp only [ORel] at h ⊢
    obtain ⟨ms, cl, h1, h2⟩ := h
    simp only [LObj.thin, Bool.and_eq_true] at ho
    exact ⟨ms, cl, h1, mrel_thin ho.1 ho.2 h2⟩
  | gone => simp [LObj.thin] at ho

theorem tupled_thin {vs : List AV} (h : AV.thinL vs = true) : (tupled vs).thin = true := by
  match vs with
  | [] => rfl
  | [v] => simp only [AV.thinL, Bool.and_eq_true] at h; exact h.1
  | a :: b :: r => simpa [tupled, AV.thin] using h

/-- What holds no data in memory doesn't need what was held still for it. -/
theorem post_thin {w : World} {F F1 : Nat → Prop} (hF : ∀ b, F b → F1 b) {res : List AV} {objs' : List LObj} {v : Value} {w' : World} (hr : AV.thinL res = true) (ho : objs'.all LObj.thin = true)
    (hin : ∀ b, F b → b < w.heap.size) (h : Post w (fun _ => .none) F1 0 res objs' v w') : Post w (fun _ => .none) F 0 res objs' v w' := by
  obtain ⟨μ', F', h1, h2, h3, h4, h5, h6⟩ := h
  refine ⟨μ', F, vrel_thin (tupled_thin hr) h1, ⟨fun k hk => ?_, h2.top, h2.one, fun k b hb => ⟨fun hf => (h2.out k b hb).1 (h3.old b (hF b hf)), (h2.out k b hb).2⟩, fun b hb => Nat.lt_of_lt_of_le (hin b hb) h3.size⟩,
    ⟨h3.os, h3.tape, h3.output, h3.size, h3.keep, fun _ h => h, fun _ h => .inl h, h3.newO⟩, h4, h5, h6⟩
  refine orel_thin ?_ (h2.obj k hk)
  rw [ofHp_get, List.getElem?_eq_getElem hk, Option.getD_some]
  exact List.all_eq_true.1 ho _ (List.getElem_mem hk)

end Go.Proofs.YtfepkpindchleaaE
