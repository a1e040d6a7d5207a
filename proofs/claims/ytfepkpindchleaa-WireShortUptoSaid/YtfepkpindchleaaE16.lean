/- The engine, part 16: regions in the order that is listed. -/
import Derived.Test.YtfepkpindchleaaE15
namespace Go.Proofs.YtfepkpindchleaaE
open Go
set_option linter.unusedVariables false
set_option linter.unusedSimpArgs false

theorem put_same {st : St} {t : Nat} {x : AV} (h : st.tm t = x) : st.put t x = st := by
  unfold St.put
  have : (fun t' => bif t' == t then x else st.tm t') = st.tm := by
    funext t'
    cases he : t' == t with
    | true => have := eq_of_beq he; subst this; exact h.symm
    | false => rfl
  rw [this]

theorem inv_put {c : Cx} {st : St} {a : Act} {w : World} {μ : Nat → Pl} {F : Nat → Prop} (hi : Inv c st a w μ F) {d : Option Nat} {x : AV} {v : Value} (hd : ∀ t, d = some t → t < c.nt) (h : VRel μ F w x v) :
    Inv c (st.putO d x) (a.put d v) w μ F := by
  cases d with
  | none => exact hi
  | some t =>
    refine ⟨hi.h, hi.fr, hi.idb, hi.idm, hi.n0, ?_, by simp [Act.put, hi.sz], hi.df⟩
    intro t'
    have hlt : t < a.tmps.size := by rw [hi.sz]; exact hd t rfl
    simp only [St.putO, St.put, Act.put]
    cases he : t' == t with
    | true =>
      have := eq_of_beq he
      subst this
      simp only [cond_true]
      rw [Array.getD_eq_getD_getElem?, Array.getElem?_setIfInBounds_self, if_pos hlt]
      exact h
    | false =>
      have hne : t ≠ t' := fun e => by subst e; simp at he
      simp only [cond_false]
      rw [Array.getD_eq_getD_getElem?, Array.getElem?_setIfInBounds_ne hne, ← Array.getD_eq_getD_getElem?]
      exact hi.tm t'

theorem yield_bool {c : Cx} {st : St} {a : Act} {w : World} {μ : Nat → Pl} {F : Nat → Prop} (hi : Inv c st a w μ F) {ops : Array Oper} {j t : Nat} (hd : dstOf ops.toList j = some t) {b : Bool} (h : st.tm t = .bool b) :
    yielded ops a.tmps j = some b := by
  have hv := hi.tm t
  rw [h] at hv
  simp only [VRel] at hv
  unfold dstOf at hd
  unfold yielded
  have h1 : (ops[j]?).bind (·.dst) = some t := by
    rw [Array.getElem?_toList] at hd
    cases ho : ops[j]? with
    | none => rw [ho] at hd; cases hd
    | some o => rw [ho] at hd; exact hd
  have h2 : a.tmps[t]? = some (.bool b) := by
    rw [Array.getD_eq_getD_getElem?] at hv
    cases hx : a.tmps[t]? with
    | none => rw [hx] at hv; simp [undef] at hv
    | some x => rw [hx] at hv; simpa using hv
  rw [h1, Option.bind_some, h2]

theorem yield_undef {c : Cx} {st : St} {a : Act} {w : World} {μ : Nat → Pl} {F : Nat → Prop} (hi : Inv c st a w μ F) {ops : Array Oper} {j t : Nat} (hd : dstOf ops.toList j = some t) (h : st.tm t = .undef) :
    yielded ops a.tmps j = none := by
  have hv := hi.tm t
  rw [h] at hv
  simp only [VRel] at hv
  unfold dstOf at hd
  unfold yielded
  have h1 : (ops[j]?).bind (·.dst) = some t := by
    rw [Array.getElem?_toList] at hd
    cases ho : ops[j]? with
    | none => rw [ho] at hd; cases hd
    | some o => rw [ho] at hd; exact hd
  rw [h1, Option.bind_some]
  rw [Array.getD_eq_getD_getElem?] at hv
  cases hx : a.tmps[t]? with
  | none => rfl
  | some x => rw [hx] at hv; simp [undef] at hv; subst hv; rfl

theorem gate_sound {R : Type} {c : Cx} {st : St} {a : Act} {w : World} {μ : Nat → Pl} {F : Nat → Prop} (hi : Inv c st a w μ F) {ops : Array Oper} {o : Oper} {run skip : St → Option R} {r : R}
    (h : gate ops.toList o st run skip = some r) :
    (Region.wanted o (yielded ops a.tmps) = true ∧ run st = some r) ∨ (Region.wanted o (yielded ops a.tmps) = false ∧ skip st = some r) := by
  unfold gate at h
  unfold Region.wanted
  split at h
  · rename_i hg
    rw [hg]
    exact .inl ⟨rfl, h⟩
  · rename_i j want hg
    rw [hg]
    simp only
    split at h
    · cases h
    · rename_i t hd
      split at h
      · rename_i b hb
        rw [yield_bool hi hd hb]
        cases want <;> cases b <;> simp only [cond_true, cond_false] at h <;> rw [put_same hb] at h <;> simp [h]
      · rename_i hu
        rw [yield_undef hi hd hu]
        exact .inr ⟨by simp, h⟩
      · cases h

theorem rng_get : ∀ (n a k : Nat), k < n → (rng a n)[k]? = some (a + k)
  | 0, a, k, h => by omega
  | n + 1, a, 0, h => by simp [rng]
  | n + 1, a, k + 1, h => by
    simp only [rng, List.getElem?_cons_succ]
    rw [rng_get n (a + 1) k (by omega)]
    congr 1
    omega
theorem rng_len : ∀ (n a : Nat), (rng a n).length = n
  | 0, _ => rfl
  | n + 1, a => by simp [rng, rng_len n (a + 1)]

theorem ofTm_rel {μ : Nat → Pl} {F : Nat → Prop} {w : World} {G : Nat → Value} : ∀ (ps : List (Nat × AV)), (∀ p ∈ ps, VRel μ F w p.2 (G p.1)) → ∀ t, VRel μ F w (ofTm ps t) (G t)
  | [], _, t => by simp [ofTm, VRel]
  | p :: ps, h, t => by
    simp only [ofTm]
    cases he : t == p.1 with
    | true =>
      have := eq_of_beq he
      subst this
      exact h p (by simp)
    | false => exact ofTm_rel ps (fun q hq => h q (by simp [hq])) t

theorem zip_rel {μ : Nat → Pl} {F : Nat → Prop} {w : World} {G : Nat → Value} {g : Nat → AV} : ∀ (ts : List Nat), (∀ t ∈ ts, VRel μ F w (g t) (G t)) → ∀ p ∈ zipTm ts (ts.map g), VRel μ F w p.2 (G p.1)
  | [], _, p, hp => by simp [zipTm] at hp
  | t :: ts, h, p, hp => by
    simp only [List.map_cons, zipTm, List.mem_cons] at hp
    rcases hp with rfl | hp
    · exact h t (by simp)
    · exact zip_rel ts (fun t ht => h t (by simp [ht])) p hp

theorem inv_keep {c : Cx} {st : St} {a : Act} {w : World} {μ : Nat → Pl} {F : Nat → Prop} (hi : Inv c st a w μ F) (o : Option (List Nat)) : Inv c (match o with | none => st | some ls => keepSt ls st) a w μ F := by
  cases o with
  | none => exact hi
  | some ls =>
    have hnx : (keepSt ls st).nx = st.nx := by simp [keepSt, stOf, rng_len]
    have hhp : ∀ k, k < st.nx → (keepSt ls st).hp k = st.hp k := fun k hk => by
      show ofHp ((rng 0 st.nx).map st.hp) k = _
      rw [ofHp_get, List.getElem?_map, rng_get _ _ _ hk]
      simp
    refine ⟨⟨fun k hk => ?_, fun k hk => hi.h.top k (by rw [hnx] at hk; exact hk), hi.h.one, hi.h.out, hi.h.inn⟩, hi.fr, hi.idb, hi.idm, by rw [hnx]; exact hi.n0, fun t => ?_, hi.sz, hi.df⟩
    · rw [hnx] at hk
      rw [hhp k hk]
      exact hi.h.obj k hk
    · exact ofTm_rel (G := fun t => a.tmps.getD t undef) _ (zip_rel (G := fun t => a.tmps.getD t undef) ls fun t _ => hi.tm t) t

theorem evOps_sound {P : Program} {T : Tab} (hT : TabOk P T) {orc : Orc} (hO : SoundOrc P orc) {R : Type} {K : St → Option R} {r : R} {c : Cx} {ops : Array Oper} {Q : Exit → Act → World → Prop} (hd : ∀ o ∈ ops.toList, ∀ t, o.dst = some t → t < c.nt)
    (hQ : ∀ st a w μ F, Inv c st a w μ F → K st = some r → Q .normal a w) :
    ∀ (os : List Oper) (i : Nat) (st : St) (a : Act) (w : World) (μ : Nat → Pl) (F : Nat → Prop), ops.toList.drop i = os → Inv c st a w μ F → evOps T orc ops.toList os st K = some r →
      wpOps P ops Q (List.range' i os.length) a w
  | [], i, st, a, w, μ, F, _, hi, h => by
    simp only [evOps] at h
    simp only [List.length_nil, List.range'_zero, wpOps]
    exact hQ st a w μ F hi h
  | o :: os, i, st, a, w, μ, F, hdr, hi, h => by
    have ho : ops[i]? = some o := by
      have : (ops.toList.drop i)[0]? = some o := by rw [hdr]; rfl
      rw [List.getElem?_drop, Nat.add_zero, Array.getElem?_toList] at this
      exact this
    have hos : ops.toList.drop (i + 1) = os := by rw [← List.drop_drop, hdr]; rfl
    have hmem : o ∈ ops.toList := by
      have := List.mem_of_getElem? (l := ops.toList) (i := i) (a := o) (by rw [Array.getElem?_toList]; exact ho)
      exact this
    simp only [evOps] at h
    rw [List.length_cons, List.range'_succ]
    simp only [wpOps, ho]
    rcases gate_sound hi h with ⟨hw, h⟩ | ⟨hw, h⟩
    · rw [if_pos hw]
      obtain ⟨f, hf, hs⟩ := evOp_sound hT hO hi h
      refine .inl (hs _ _ fun v w' μ' F' h1 h2 => ?_)
      rw [forceSt_eq] at hf
      exact evOps_sound hT hO hd hQ os (i + 1) _ _ _ μ' F' hos (inv_keep (inv_put h1 (hd o hmem) h2) (midOf T o)) hf
    · rw [if_neg (by simp [hw])]
      exact evOps_sound hT hO hd hQ os (i + 1) _ _ _ μ F hos (inv_put hi (hd o hmem) (by simp [VRel])) h

end Go.Proofs.YtfepkpindchleaaE
