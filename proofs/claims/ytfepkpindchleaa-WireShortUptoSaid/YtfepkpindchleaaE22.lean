/- The engine, part 22: code, loops. -/
import Derived.Test.YtfepkpindchleaaE21
namespace Go.Proofs.YtfepkpindchleaaE
open Go
set_option linter.unusedVariables false
set_option linter.unusedSimpArgs false

def exitOf : Ex → Exit
  | .normal => .normal
  | .exit id => .exit id
  | .ret => .ret

/-- What a continuation of states is worth. -/
def Post2 (c : Cx) {R : Type} (K : Ex → St → Option R) (r : R) (Q : Exit → Act → World → Prop) : Prop :=
  ∀ ex st a w μ F, Inv c st a w μ F → K ex st = some r → Q (exitOf ex) a w

def LpOk (P : Program) (c : Cx) (lp : Lp) : Prop :=
  ∀ bid body st ex st', (lp bid body st).get = some (ex, st') → dstOk c.nt body = true → ∀ a w μ F, Inv c st a w μ F → ∀ Q : Exit → Act → World → Prop, (∀ a' w' μ' F', Inv c st' a' w' μ' F' → Q (exitOf ex) a' w') → (Code.loop body).wp P Q a w

theorem refine_same {st : St} {c : Operand} {b : Bool} (h : st.ev c = .bool b) : refine st c b = st := by
  cases c with
  | tmp t => exact put_same h
  | _ => rfl

theorem evC_sound {P : Program} (hmo : P.follows .mixedOrders = true) {T : Tab} (hT : TabOk P T) {orc : Orc} (hO : SoundOrc P orc) {c : Cx} {lp : Lp} (hlp : LpOk P c lp) {R : Type} {r : R} :
    ∀ (code : Code) (bid : Nat) (st : St) (K : Ex → St → Option R) (Q : Exit → Act → World → Prop) (a : Act) (w : World) (μ : Nat → Pl) (F : Nat → Prop), dstOk c.nt code = true → evC T orc lp code bid st K = some r → Inv c st a w μ F → Post2 c K r Q → code.wp P Q a w
  | .skip, bid, st, K, Q, a, w, μ, F, hd, h, hi, hq => wp_skip (hq .normal st a w μ F hi h)
  | .label l, bid, st, K, Q, a, w, μ, F, hd, h, hi, hq => wp_label (hq .normal st a w μ F hi h)
  | .exit id, bid, st, K, Q, a, w, μ, F, hd, h, hi, hq => wp_exit (hq (.exit id) st a w μ F hi h)
  | .ret, bid, st, K, Q, a, w, μ, F, hd, h, hi, hq => wp_ret (hq .ret st a w μ F hi h)
  | .region id ops draw, bid, st, K, Q, a, w, μ, F, hd, h, hi, hq => by
    have hdst : ∀ o ∈ ops.toList, ∀ t, o.dst = some t → t < c.nt := fun o ho t ht => by
      simp only [dstOk, List.all_eq_true] at hd
      have := hd o ho
      rw [ht] at this
      simpa using this
    simp only [evC] at h
    cases draw with
    | true =>
      rw [if_pos rfl] at h
      cases hdr : drawOk ops (Region.before ops).toList with
      | false => rw [hdr] at h; cases h
      | true =>
        rw [hdr] at h
        exact evDraw_sound hmo hT hO hdst (fun st a w μ F hi hk => hq .normal _ a w μ F (inv_keep hi (T.live id)) (by rw [forceSt_eq] at hk; exact hk)) hi hdr h id
    | false =>
      rw [if_neg (by simp)] at h
      refine wp_region ?_
      have := evOps_sound hT hO hdst (Q := Q) (fun st a w μ F hi hk => hq .normal _ a w μ F (inv_keep hi (T.live id)) (by rw [forceSt_eq] at hk; exact hk)) ops.toList 0 st a w μ F rfl hi h
      rw [List.range_eq_range']
      simpa using this
  | .seq x y, bid, st, K, Q, a, w, μ, F, hd, h, hi, hq => by
    simp only [dstOk, Bool.and_eq_true] at hd
    simp only [evC] at h
    refine wp_seq (evC_sound hmo hT hO hlp x bid st _ _ a w μ F hd.1 h hi fun ex st' a' w' μ' F' hi' hk => ?_)
    cases ex with
    | normal => exact evC_sound hmo hT hO hlp y bid st' K Q a' w' μ' F' hd.2 hk hi' hq
    | exit id => exact hq (.exit id) st' a' w' μ' F' hi' hk
    | ret => exact hq .ret st' a' w' μ' F' hi' hk
  | .cond cnd x y, bid, st, K, Q, a, w, μ, F, hd, h, hi, hq => by
    simp only [dstOk, Bool.and_eq_true] at hd
    simp only [evC, condE] at h
    split at h
    · rename_i b hb
      have hv := ev_rel hi cnd
      rw [hb] at hv
      simp only [VRel] at hv
      cases b with
      | true =>
        simp only [cond_true] at h
        rw [refine_same hb] at h
        exact wp_cond_true hv (evC_sound hmo hT hO hlp x bid st K Q a w μ F hd.1 h hi hq)
      | false =>
        simp only [cond_false] at h
        rw [refine_same hb] at h
        exact wp_cond_false hv (evC_sound hmo hT hO hlp y bid st K Q a w μ F hd.2 h hi hq)
    · cases h
  | .block id x, bid, st, K, Q, a, w, μ, F, hd, h, hi, hq => by
    simp only [dstOk] at hd
    simp only [evC] at h
    refine wp_block (evC_sound hmo hT hO hlp x id st _ _ a w μ F hd h hi fun ex st' a' w' μ' F' hi' hk => ?_)
    cases ex with
    | normal => exact hq .normal st' a' w' μ' F' hi' hk
    | ret => exact hq .ret st' a' w' μ' F' hi' hk
    | exit i =>
      simp only [blockK] at hk
      simp only [exitOf, Exit.inBlock]
      cases he : i == id with
      | true =>
        have := eq_of_beq he
        rw [he] at hk
        rw [if_pos this]
        exact hq .normal st' a' w' μ' F' hi' hk
      | false =>
        rw [he] at hk
        rw [if_neg (by simpa using he)]
        exact hq (.exit i) st' a' w' μ' F' hi' hk
  | .loop x, bid, st, K, Q, a, w, μ, F, hd, h, hi, hq => by
    simp only [dstOk] at hd
    simp only [evC] at h
    obtain ⟨p, hl, h⟩ := Tr.run_some h
    exact hlp bid x st p.1 p.2 hl hd a w μ F hi Q fun a' w' μ' F' hi' => hq p.1 p.2 a' w' μ' F' hi' h

/-! ### Names anew -/
theorem rng_mem : ∀ (n a k : Nat), k ∈ rng a n → a ≤ k ∧ k < a + n
  | 0, a, k, h => by simp [rng] at h
  | n + 1, a, k, h => by
    simp only [rng, List.mem_cons] at h
    rcases h with rfl | h
    · omega
    · have := rng_mem n (a + 1) k h
      omega
theorem rng_nodup : ∀ (n a : Nat), (rng a n).Nodup
  | 0, a => by simp [rng]
  | n + 1, a => by
    simp only [rng, List.nodup_cons]
    refine ⟨fun h => ?_, rng_nodup n (a + 1)⟩
    have := rng_mem _ _ _ h
    omega
theorem reach_prefix {hp : Nat → LObj} : ∀ (n : Nat) (work seen : List Nat), ∃ more, reach hp n work seen = seen ++ more
  | 0, work, seen => ⟨[], by simp [reach]⟩
  | n + 1, [], seen => ⟨[], by simp [reach]⟩
  | n + 1, k :: ks, seen => by
    simp only [reach]
    cases seen.contains k with
    | true => exact reach_prefix n ks seen
    | false =>
      obtain ⟨more, h⟩ := reach_prefix n ((hp k).refs ++ ks) (seen ++ [k]) (hp := hp)
      exact ⟨k :: more, by simp only [cond_false]; rw [h]; simp⟩

/-- The names that are kept: the first ones, and what the work leads to. -/
theorem kept_spec {w : World} {hp : Nat → LObj} {nx : Nat} {μ : Nat → Pl} {F : Nat → Prop} (hi : HInv w hp nx μ F) {n0 : Nat} (hn0 : n0 ≤ nx) {work : List Nat} (hw : ∀ k ∈ work, μ k ≠ .none) (n : Nat) :
    (reach hp n (heldRefs hp n0 ++ work) (rng 0 n0)).Nodup ∧ (∀ k ∈ reach hp n (heldRefs hp n0 ++ work) (rng 0 n0), k < nx) ∧ n0 ≤ (reach hp n (heldRefs hp n0 ++ work) (rng 0 n0)).length ∧
      ∀ k, k < n0 → subPl μ (reach hp n (heldRefs hp n0 ++ work) (rng 0 n0)) k = μ k := by
  obtain ⟨more, hm⟩ := reach_prefix (hp := hp) n (heldRefs hp n0 ++ work) (rng 0 n0)
  have hq : ∀ k, k < nx → ∀ j ∈ (hp k).refs, j < nx := fun k hk j hj => hinv_there hi (obj_refs_there (hi.obj k hk) j hj)
  refine ⟨reach_nodup n _ _ (rng_nodup _ _), ?_, ?_, fun k hk => ?_⟩
  · refine reach_all (Q := fun k => k < nx) hq n _ _ (fun k hk => ?_) (fun k hk => ?_)
    · rcases List.mem_append.1 hk with h | h
      · unfold heldRefs at h
        obtain ⟨j, hj, hjk⟩ := List.mem_flatMap.1 h
        have := rng_mem _ _ _ hj
        exact hq j (by omega) k hjk
      · exact hinv_there hi (hw k h)
    · have := rng_mem _ _ _ hk
      omega
  · rw [hm, List.length_append, rng_len]
    omega
  · rw [hm]
    have : (rng 0 n0 ++ more)[k]? = some k := by
      rw [List.getElem?_append_left (by rw [rng_len]; exact hk), rng_get n0 0 k hk, Nat.zero_add]
    simp [subPl, this]

theorem subPl_owns {μ : Nat → Pl} {ks : List Nat} {k b : Nat} (h : (subPl μ ks k).owns = some b) : ∃ k', (μ k').owns = some b := by
  unfold subPl at h
  split at h
  · rename_i k' _; exact ⟨k', h⟩
  · cases h

theorem norm_inv {c : Cx} {st : St} {a : Act} {w : World} {μ : Nat → Pl} {F : Nat → Prop} (hi : Inv c st a w μ F) (keep : List Nat) : ∃ μ', Inv c (norm keep c.n0 st) a w μ' F := by
  have hwork : ∀ k ∈ refsOf (keep.map st.tm), μ k ≠ .none := by
    intro k hk
    unfold refsOf at hk
    obtain ⟨x, hx, hxk⟩ := refsL_mem hk
    obtain ⟨t, _, rfl⟩ := List.mem_map.1 hx
    exact refs_there (hi.tm t) k hxk
  obtain ⟨h1, h2, h3, h4⟩ := kept_spec hi.h hi.n0 hwork 1000
  have hsub : ∀ k i, posIn k (reach st.hp 1000 (heldRefs st.hp c.n0 ++ refsOf (keep.map st.tm)) (rng 0 c.n0)) 0 = some i → subPl μ (reach st.hp 1000 (heldRefs st.hp c.n0 ++ refsOf (keep.map st.tm)) (rng 0 c.n0)) i = μ k := fun k i h => by
    obtain ⟨_, h2⟩ := posIn_some h
    simp only [Nat.sub_zero] at h2
    simp [subPl, h2]
  have hh := sub_inv hi.h h1 h2
  rw [List.length_map] at hh
  have hlen : (reach st.hp 1000 (heldRefs st.hp c.n0 ++ refsOf (keep.map st.tm)) (rng 0 c.n0)).length = (norm keep c.n0 st).nx := by simp only [norm, normL, stOf, List.length_map]
  rw [hlen] at hh h3
  refine ⟨subPl μ (reach st.hp 1000 (heldRefs st.hp c.n0 ++ refsOf (keep.map st.tm)) (rng 0 c.n0)), hh, ⟨hi.fr.os, hi.fr.tape, hi.fr.output, hi.fr.size, hi.fr.keep, hi.fr.old, hi.fr.newF, fun k b h => ?_⟩, fun k b hk h => ?_, fun k b hk h => ?_, h3, fun t => ?_, hi.sz, hi.df⟩
  · obtain ⟨k', h'⟩ := subPl_owns h
    exact hi.fr.newO k' b h'
  · rw [h4 k hk]; exact hi.idb k b hk h
  · rw [h4 k hk]; exact hi.idm k b hk h
  · exact ofTm_rel (G := fun t => a.tmps.getD t undef) _ (zip_rel keep fun t' _ => vrel_ren hsub (hi.tm t')) t

/-! ### Loops -/
theorem loop_rounds {P : Program} {body : Code} {Q : Exit → Act → World → Prop} (J : Nat → Act → World → Prop) (round : ∀ n a w, J n a w → body.wp P (Exit.then (fun a' w' => ∃ m, m < n ∧ J m a' w') Q) a w) :
    ∀ n a w, J n a w → (Code.loop body).wp P Q a w := by
  intro n a w hJ b k cs
  have key : ∀ n a w, J n a w → ∃ e a' w', Q e a' w' ∧ Arrives P (lone (b.at a (.code body :: .inLoop body :: k)) cs w) b k cs e a' w' := by
    intro n
    induction n using Nat.strongRecOn with
    | _ n ih =>
      intro a w hI
      obtain ⟨e, a₁, w₁, hq, harr⟩ := round n a w hI b (.inLoop body :: k) cs
      cases e with
      | normal =>
        obtain ⟨m, hm, hJ'⟩ := hq
        obtain ⟨e₂, a₂, w₂, hq₂, harr₂⟩ := ih m hm a₁ w₁ hJ'
        exact ⟨e₂, a₂, w₂, hq₂, .of_steps (Steps.trans harr (.one step_inLoop)) harr₂⟩
      | exit id => exact ⟨_, a₁, w₁, hq, .pass (x := .inLoop body) rfl (fun _ _ => .inl (by simp)) harr⟩
      | goto l => exact ⟨_, a₁, w₁, hq, .pass (x := .inLoop body) rfl (fun _ _ => .inl (by simp)) harr⟩
      | ret => exact ⟨_, a₁, w₁, hq, .pass (x := .inLoop body) rfl (fun _ _ => .inl (by simp)) harr⟩
      | panic ch => exact ⟨_, a₁, w₁, hq, .pass (x := .inLoop body) rfl (fun _ _ => .inl (by simp)) harr⟩
      | outgrown => exact ⟨_, a₁, w₁, hq, .pass (x := .inLoop body) rfl (fun _ _ => .inl (by simp)) harr⟩
  obtain ⟨e, a', w', hq, harr⟩ := key n a w hJ
  exact ⟨e, a', w', hq, .of_steps (.one step_loop) harr⟩

theorem lpN_ok {P : Program} (hmo : P.follows .mixedOrders = true) {T : Tab} (hT : TabOk P T) {orc : Orc} (hO : SoundOrc P orc) {c : Cx} (H : Hint) : ∀ (n : Nat), LpOk P c (lpN T orc H c.n0 n)
  | 0 => fun bid body st ex st' h => by simp [lpN, Tr.get] at h
  | n + 1 => by
    intro bid body st ex st' h hd a w μ F hi Q hQ
    simp only [lpN, Tr.get_of] at h
    obtain ⟨m, hm⟩ := of_loopF h
    obtain ⟨μ', hi'⟩ := norm_inv hi (H.keep bid)
    refine loop_rounds (fun m a w => ∃ st1 μ F, Inv c st1 a w μ F ∧ loopN (fun st => evC T orc (lpN T orc H c.n0 n) body bid st (roundK (H.keep bid) (H.keepX bid) c.n0)) m st1 = some (ex, st')) ?_ m a w ⟨_, μ', F, hi', hm⟩
    rintro m a w ⟨st1, μ1, F1, hi1, h1⟩
    cases m with
    | zero => simp [loopN] at h1
    | succ m =>
      simp only [loopN] at h1
      split at h1
      · cases h1
      · rename_i r hr
        cases h1
        refine evC_sound hmo hT hO (lpN_ok hmo hT hO H n) body bid st1 _ _ a w μ1 F1 hd hr hi1 ?_
        intro e s a2 w2 μ2 F2 hi2 hk
        cases e with
        | normal => simp [roundK] at hk
        | exit id =>
          simp only [roundK, Option.some.injEq, Sum.inr.injEq, Prod.mk.injEq] at hk
          obtain ⟨rfl, rfl⟩ := hk
          obtain ⟨μ3, hi3⟩ := norm_inv hi2 (H.keepX bid)
          exact hQ a2 w2 μ3 F2 hi3
        | ret =>
          simp only [roundK, Option.some.injEq, Sum.inr.injEq, Prod.mk.injEq] at hk
          obtain ⟨rfl, rfl⟩ := hk
          obtain ⟨μ3, hi3⟩ := norm_inv hi2 (H.keepX bid)
          exact hQ a2 w2 μ3 F2 hi3
      · rename_i st2 hr
        refine evC_sound hmo hT hO (lpN_ok hmo hT hO H n) body bid st1 _ _ a w μ1 F1 hd hr hi1 ?_
        intro e s a2 w2 μ2 F2 hi2 hk
        cases e with
        | normal =>
          simp only [roundK, Option.some.injEq, Sum.inl.injEq] at hk
          subst hk
          obtain ⟨μ3, hi3⟩ := norm_inv hi2 (H.keep bid)
          exact ⟨m, by omega, _, μ3, F2, hi3, h1⟩
        | exit id => simp [roundK] at hk
        | ret => simp [roundK] at hk

end Go.Proofs.YtfepkpindchleaaE
