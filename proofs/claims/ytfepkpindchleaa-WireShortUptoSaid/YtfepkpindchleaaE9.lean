/- The engine, part 9: parts of slices, fields, literals, conversions. -/
import Derived.Test.YtfepkpindchleaaE8
namespace Go.Proofs.YtfepkpindchleaaE
open Go
set_option linter.unusedVariables false
set_option linter.unusedSimpArgs false

/-- Values of the bounds of a slice expression. -/
def ORelO (μ : Nat → Pl) (F : Nat → Prop) (w : World) : Option AV → Option Value → Prop
  | none, none => True
  | some x, some v => VRel μ F w x v
  | _, _ => False

theorem boundE_rel {μ : Nat → Pl} {F : Nat → Prop} {w : World} {x : Option AV} {d n : Int} {v : Option Value} (h : boundE x d = some n) (hv : ORelO μ F w x v) :
    (v = none ∧ n = d) ∨ (∃ k, v = some (.int k n)) := by
  cases x <;> cases v <;> simp only [ORelO] at hv <;> simp only [boundE] at h
  · exact .inl ⟨rfl, (Option.some.inj h).symm⟩
  · obtain ⟨k, rfl⟩ := natOf_rel h hv; exact .inr ⟨k, rfl⟩

theorem bound_run {P : Program} {w : World} {k : IntKind} {i : Int} {y : Nat} (h : 0 ≤ i ∧ i ≤ (y : Int)) (code : BoundsCode) : (Instr.sliceBound (.int k i) y code).run P w = .ok i.toNat w := by
  simp only [Instr.sliceBound, asIntOf, Sem.run_bind, Sem.run_pure, Result.andThen_ok, if_pos h]

theorem bounds_run {P : Program} {μ : Nat → Pl} {F : Nat → Prop} {w : World} {R : Type} {lo hi mx : Option AV} {l h m : Option Value} {n cap : Nat} {K : Nat → Nat → Bool → Option R} {r : R} (isSlice : Bool)
    (hc : n ≤ cap) (hg : sliceGo lo hi mx n K = some r) (rl : ORelO μ F w lo l) (rh : ORelO μ F w hi h) (rm : ORelO μ F w mx m) :
    ∃ a b c, K a b c = some r ∧ a ≤ b ∧ b ≤ n ∧ (m = none → c = false) ∧ (m ≠ none → c = true) ∧ (Instr.sliceBounds isSlice n cap l h m).run P w = .ok (a, b, if c then b else cap) w := by
  unfold sliceGo at hg
  split at hg
  · rename_i lv hv hl hh
    obtain ⟨h1, hg⟩ := req_some hg
    obtain ⟨h2, hg⟩ := req_some hg
    simp only [Bool.and_eq_true, decide_eq_true_eq] at h1 h2
    have hcap : hv ≤ (cap : Int) := by omega
    have sl : ∀ (kl : IntKind) (code : BoundsCode), (Instr.sliceBound (.int kl lv) hv.toNat code).run P w = .ok lv.toNat w := fun kl code => bound_run (by omega) code
    have sh : ∀ (kh : IntKind) (code : BoundsCode), (Instr.sliceBound (.int kh hv) cap code).run P w = .ok hv.toNat w := fun kh code => bound_run (by omega) code
    have sh2 : ∀ (kh : IntKind) (code : BoundsCode), (Instr.sliceBound (.int kh hv) hv.toNat code).run P w = .ok hv.toNat w := fun kh code => bound_run (by omega) code
    have hz : (0 : Int).toNat = 0 := rfl
    have hn : ((n : Nat) : Int).toNat = n := by simp
    cases mx with
    | none =>
      cases m <;> simp only [ORelO] at rm
      refine ⟨_, _, _, hg, by omega, by omega, fun _ => rfl, fun h => absurd rfl h, ?_⟩
      rcases boundE_rel hl rl with ⟨rfl, rfl⟩ | ⟨kl, rfl⟩ <;> rcases boundE_rel hh rh with ⟨rfl, rfl⟩ | ⟨kh, rfl⟩
      · simp only [Instr.sliceBounds, Sem.run_bind, Sem.run_pure, Result.andThen_ok, hz, hn, Bool.false_eq_true, if_false]
      · simp only [Instr.sliceBounds, Sem.run_bind, Sem.run_pure, Result.andThen_ok, sh, hz, Bool.false_eq_true, if_false]
      · have := sl kl
        rw [hn] at this
        simp only [Instr.sliceBounds, Sem.run_bind, Sem.run_pure, Result.andThen_ok, this, hn, Bool.false_eq_true, if_false]
      · simp only [Instr.sliceBounds, Sem.run_bind, Sem.run_pure, Result.andThen_ok, sl, sh, Bool.false_eq_true, if_false]
    | some x =>
      cases m with
      | none => simp only [ORelO] at rm
      | some u =>
        simp only [ORelO] at rm
        simp only at hg
        split at hg
        · rename_i m' hm _ _
          obtain ⟨km, rfl⟩ := natOf_rel hm rm
          obtain ⟨h4, hg⟩ := req_some hg
          have h4 : m' = hv := by simpa using h4
          subst h4
          refine ⟨_, _, _, hg, by omega, by omega, (fun h => by cases h), fun _ => rfl, ?_⟩
          rcases boundE_rel hh rh with ⟨rfl, rfl⟩ | ⟨kh, rfl⟩
          · simp only [ORelO] at rh
          · rcases boundE_rel hl rl with ⟨rfl, rfl⟩ | ⟨kl, rfl⟩
            · simp only [Instr.sliceBounds, Sem.run_bind, Sem.run_pure, Result.andThen_ok, sh, sh2, hz, if_true]
            · simp only [Instr.sliceBounds, Sem.run_bind, Sem.run_pure, Result.andThen_ok, sl, sh, sh2, if_true]
        · cases hg
  · cases hg

theorem sliceE_rel {P : Program} {T : Tab} (hT : TabOk P T) {R : Type} {K : Eff → Option R} {r : R} {w : World} {hp : Nat → LObj} {nx : Nat} {μ : Nat → Pl} {F : Nat → Prop} (hi : HInv w hp nx μ F) {t : Nat} {x : AV} {lo hi' mx : Option AV} {u : Value} {l h' m : Option Value}
    (h : sliceE T hp t x lo hi' mx K = some r) (hu : VRel μ F w x u) (rl : ORelO μ F w lo l) (rh : ORelO μ F w hi' h') (rm : ORelO μ F w mx m) :
    ∃ z q, K (.val z) = some r ∧ (Instr.sliceAt t u l h' m).run P w = .ok q w ∧ VRel μ F w z q := by
  unfold sliceE at h
  split at h
  · rename_i hd
    have ht := desc_ok hT hd (by simp)
    simp only [DescOk] at ht
    split at h
    · rename_i s
      simp only [VRel] at hu
      subst hu
      cases m <;> simp only [ORelO] at rm
      obtain ⟨a, b, c, h1, h2, h3, h4, _, h5⟩ := bounds_run (P := P) false (Nat.le_refl _) h rl rh (m := none) (by simp [ORelO])
      refine ⟨_, .string ⟨((s.drop a).take (b - a)).toArray⟩, h1, ?_, by simp only [VRel]⟩
      have hs : (⟨s.toArray⟩ : ByteArray).size = s.length := by simp [ByteArray.size]
      simp [Instr.sliceAt, Instr.slice, run_underlying ht, hs, h5, ByteArray.extract_mk]
    · cases h
  · rename_i e hd
    have ht := desc_ok hT hd (by simp)
    simp only [DescOk] at ht
    split at h
    · cases h
    · rename_i n hn
      have hsz := size_run hT hn (P := P)
      cases x <;> simp only at h <;> try cases h
      case list τ xs =>
        split at h
        · rename_i hszτ
          simp only [VRel] at hu
          obtain ⟨A, cap, rfl, hc, hnn, ha⟩ := enc_list.1 hu
          obtain ⟨a, b, c, h1, h2, h3, h4, h5, h6⟩ := bounds_run (P := P) true hc h rl rh rm
          have hlen : ((xs.drop a).take (b - a)).length = b - a := by simp; omega
          refine ⟨_, _, h1, by simp [Instr.sliceAt, Instr.slice, run_underlying ht, h6, hsz]; rfl, ?_⟩
          simp only [VRel]
          refine enc_list.2 ⟨_, _, by rw [hlen], by rw [hlen]; split <;> omega, fun hA => ?_, fun ad hA hne => ?_⟩
          · refine List.length_eq_zero_iff.1 ?_
            rw [hlen]
            have hA' : A = none := by
              by_cases h9 : (if c = true then b else cap) = a
              · rw [if_pos h9] at hA; exact hA
              · rw [if_neg h9] at hA; simpa using hA
            have := hnn hA'
            subst this
            simp at h3
            omega
          · have hba : b - a ≠ 0 := by intro h0; exact hne (List.length_eq_zero_iff.1 (by rw [hlen]; exact h0))
            have hxs : xs ≠ [] := by rintro rfl; simp at h3; omega
            have hmne : ¬ ((if c = true then b else cap) = a) := by split <;> omega
            rw [if_neg hmne] at hA
            cases A with
            | none => simp at hA
            | some a0 =>
              obtain ⟨e1, e2, e3⟩ := ha a0 rfl hxs
              obtain ⟨bb, o, s⟩ := a0
              simp only at e1
              subst e1
              simp only [Option.map_some, Option.some.injEq] at hA
              subst hA
              rw [addr_add]
              refine ⟨rfl, e2, ?_⟩
              rw [← hszτ]
              exact e3.part a (b - a)
        · cases h
      case ns =>
        simp only [VRel] at hu
        subst hu
        cases mx with
        | none =>
          cases m <;> simp only [ORelO] at rm
          obtain ⟨a, b, c, h1, h2, h3, h4, h5, h6⟩ := bounds_run (P := P) true (Nat.le_refl _) h rl rh (m := none) (by simp [ORelO])
          have hb : b = 0 := by omega
          have ha : a = 0 := by omega
          subst hb ha
          have hc : c = false := h4 rfl
          subst hc
          refine ⟨_, _, h1, by simp [Instr.sliceAt, Instr.slice, run_underlying ht, h6, hsz]; rfl, by simp [VRel]⟩
        | some mv =>
          exfalso
          unfold sliceGo at h
          split at h
          · obtain ⟨_, h⟩ := req_some h
            obtain ⟨_, h⟩ := req_some h
            simp at h
          · cases h
      case rowA k =>
        simp only [VRel] at hu
        obtain ⟨a, len, cap, sz, A0, hk, rfl, hA0⟩ := hu
        have hkn : k < nx := by
          by_cases hlt : k < nx
          · exact hlt
          · rw [hi.top k (by omega)] at hk; cases hk
        have ho := hi.obj k hkn
        rw [hk] at ho
        obtain ⟨τ, ys, h3, h4, h5, h6, h7, h8⟩ := sz_row ho
        rw [h3] at h
        simp only at h
        split at h
        · rename_i hszτ
          rw [← h5] at h
          obtain ⟨i, j, c, g1, g2, g3, g4, g5, g6⟩ := bounds_run (P := P) true h6 h rl rh rm
          refine ⟨_, _, g1, by simp [Instr.sliceAt, Instr.slice, run_underlying ht, g6, hsz]; rfl, ?_⟩
          simp only [VRel]
          refine ⟨a, len, cap, sz, _, _, hk, by omega, ?_, rfl, fun hne => ?_⟩
          · cases c <;> simp
          · have hmne : ¬ ((if c = true then j else cap) = i) := by omega
            rw [if_neg hmne]
            rw [hA0 (by intro h0; apply hne; split <;> omega)]
            cases a with
            | none => have := h7 rfl; exfalso; apply hne; split <;> omega
            | some bo =>
              obtain ⟨b, o⟩ := bo
              refine ⟨b, o, rfl, ?_⟩
              simp only [rowAddr, Option.map_some, addr_add]
              rw [h4, hszτ]
        · cases h
      case rowS k off len0 cp =>
        cases cp <;> simp only at h <;> try cases h
        simp only [VRel] at hu
        obtain ⟨a, len, cap, sz, A, cap', hk, hle, hcap', rfl, hA'⟩ := hu
        have hkn : k < nx := by
          by_cases hlt : k < nx
          · exact hlt
          · rw [hi.top k (by omega)] at hk; cases hk
        have ho := hi.obj k hkn
        rw [hk] at ho
        obtain ⟨τ, ys, h3, h4, h5, h6, h7, h8⟩ := sz_row ho
        rw [h3] at h
        simp only at h
        simp only [Bool.false_eq_true, if_false] at hcap'
        split at h
        · rename_i hszτ
          obtain ⟨i, j, c, g1, g2, g3, g4, g5, g6⟩ := bounds_run (P := P) true (show len0 ≤ cap' by omega) h rl rh rm
          refine ⟨_, _, g1, by simp [Instr.sliceAt, Instr.slice, run_underlying ht, g6, hsz]; rfl, ?_⟩
          simp only [VRel]
          refine ⟨a, len, cap, sz, _, _, hk, by omega, ?_, rfl, fun hne => ?_⟩
          · cases c <;> simp
            omega
          · have hmne : ¬ ((if c = true then j else cap') = i) := by omega
            rw [if_neg hmne]
            obtain ⟨b, o, rfl, rfl⟩ := hA' (by intro h0; apply hne; split <;> omega)
            refine ⟨b, o, rfl, ?_⟩
            simp only [Option.map_some, addr_add]
            rw [h4, hszτ, Nat.add_mul, Nat.add_assoc]
        · cases h
  · cases h

/-! ### Fields -/
theorem fieldOff_ok {P : Program} {T : Tab} (hT : TabOk P T) {s f d t : Nat} (h : fieldOff T s f = some (d, t)) : ∃ fields fl, P.underlying s = some (.struct fields) ∧ fields[f]? = some fl ∧ fl.offset = d ∧ fl.type = t := by
  unfold fieldOff at h
  split at h
  · rename_i fs hd
    have ht := desc_ok hT hd (by simp)
    simp only [DescOk] at ht
    obtain ⟨fields, ht, rfl, _⟩ := ht
    rw [List.getElem?_map] at h
    cases hf : fields.toList[f]? with
    | none => rw [hf] at h; cases h
    | some fl =>
      rw [hf] at h
      cases h
      exact ⟨fields, fl, ht, by simpa using hf, rfl, rfl⟩
  · cases h

theorem fieldAddrE_rel {P : Program} {T : Tab} (hT : TabOk P T) {μ : Nat → Pl} {F : Nat → Prop} {w : World} {s f : Nat} {p x : AV} {u : Value}
    (h : fieldAddrE T s p f = some x) (hu : VRel μ F w p u) : ∃ q, (Instr.fieldAt s u f).run P w = .ok q w ∧ VRel μ F w x q := by
  unfold fieldAddrE at h
  split at h
  · cases h
  · rename_i d t hf
    obtain ⟨fields, fl, h1, h2, h3, h4⟩ := fieldOff_ok hT hf
    split at h
    · rename_i n hn
      split at h
      · cases h
      · rename_i hn0
        have key : ∀ b o, (Instr.fieldAt s (.pointer (some ⟨b, o, none⟩)) f).run P w = .ok (.pointer (some ⟨b, o + d, none⟩)) w := by
          intro b o
          subst h3 h4
          simp [Instr.fieldAt, run_underlying h1, h2, Instr.sureAddr, fieldPlace, size_run hT hn, hn0, addr_add]
        cases p <;> simp only [Option.some.injEq, reduceCtorEq] at h <;> subst h
        case ptr k off =>
          simp only [VRel] at hu
          obtain ⟨b, hb, rfl⟩ := hu
          exact ⟨_, key b off, by simp [VRel, hb]⟩
        case rptr k t' i off =>
          simp only [VRel] at hu
          obtain ⟨b, o, len, cap, hb, hi, rfl⟩ := hu
          refine ⟨_, key b _, ?_⟩
          simp only [VRel]
          exact ⟨b, o, len, cap, hb, hi, by rw [Nat.add_assoc]⟩
        case lptr t' xs i off =>
          simp only [VRel] at hu
          obtain ⟨b, o, hF, hl, hi, rfl⟩ := hu
          refine ⟨_, key b _, ?_⟩
          simp only [VRel]
          exact ⟨b, o, hF, hl, hi, by rw [Nat.add_assoc]⟩
    · cases h

theorem field_rel {P : Program} {T : Tab} (hT : TabOk P T) {μ : Nat → Pl} {F : Nat → Prop} {w : World} {s f d t : Nat} {cs : List AV} {x : AV} {u : Value}
    (hf : fieldOff T s f = some (d, t)) (h : partE T t cs d = some x) (hu : VRel μ F w (.agg cs) u) : ∃ q, (Instr.field s u f).run P w = .ok q w ∧ VRel μ F w x q := by
  obtain ⟨fields, fl, h1, h2, h3, h4⟩ := fieldOff_ok hT hf
  simp only [VRel] at hu
  obtain ⟨us, rfl, h5, h6⟩ := hu
  obtain ⟨q, e1, e2⟩ := part_rel hT h h5 h6 w
  refine ⟨q, ?_, e2⟩
  subst h3 h4
  simp [Instr.field, run_underlying h1, h2, asAgg, e1]

/-! ### One operand -/
theorem unOpE_rel {P : Program} {μ : Nat → Pl} {F : Nat → Prop} {w : World} {op : UnOp} {x z : AV} {u : Value} (h : unOpE op x = some z) (hu : VRel μ F w x u) :
    ∃ q, (Op.unary op u).run P w = .ok q w ∧ VRel μ F w z q := by
  unfold unOpE at h
  split at h <;> (try cases h) <;> simp only [VRel] at hu <;> subst hu
  · exact ⟨_, by simp [Op.unary]; rfl, by simp [VRel]⟩
  · exact ⟨_, by simp [Op.unary, Op.intArith]; rfl, by simp [VRel]⟩
  · exact ⟨_, by simp [Op.unary, Op.intBits]; rfl, by simp [VRel]⟩

/-! ### Composite literals -/
theorem foldl_put : ∀ (vs us : List Value) (off : Nat), off + vs.length ≤ us.length →
    (vs.zipIdx.foldl (fun cs (c, j) => cs.setIfInBounds (off + j) c) us.toArray) = (us.take off ++ vs ++ us.drop (off + vs.length)).toArray := by
  intro vs
  have gen : ∀ (vs us : List Value) (off k : Nat), off + k + vs.length ≤ us.length →
      ((vs.zipIdx k).foldl (fun cs (c, j) => cs.setIfInBounds (off + j) c) us.toArray) = (us.take (off + k) ++ vs ++ us.drop (off + k + vs.length)).toArray := by
    intro vs
    induction vs with
    | nil => intro us off k _; simp
    | cons v vs ih =>
      intro us off k h
      simp only [List.length_cons] at h
      simp only [List.zipIdx_cons, List.foldl_cons, List.setIfInBounds_toArray]
      rw [ih _ off (k + 1) (by simp; omega)]
      have ho : off + k < us.length := by omega
      have ht : (us.take (off + k)).length = off + k := by simp; omega
      rw [← Nat.add_assoc off k 1, List.take_set, List.drop_set_of_lt (by omega), List.take_succ_eq_append_getElem ho, List.set_append_right _ _ (by omega), ht, Nat.sub_self]
      simp only [List.set_cons_zero, List.append_assoc, List.length_cons, List.cons_append, List.nil_append]
      rw [show off + k + 1 + vs.length = off + k + (vs.length + 1) by omega]
  intro us off h
  simpa using gen vs us off 0 (by omega)

theorem fillE_rel {μ : Nat → Pl} {F : Nat → Prop} {w : World} {pl : Nat → Option (Nat × Nat)} : ∀ (ps : List (Nat × AV)) (qs : List (Nat × Value)) (cs ds : List AV) (us : List Value),
    qs.length = ps.length → (∀ (i : Nat) (p : Nat × AV) (q : Nat × Value), ps[i]? = some p → qs[i]? = some q → q.1 = p.1 ∧ VRel μ F w p.2 q.2) →
    fillE pl cs ps = some ds → VRelL μ F w cs us → (∀ u ∈ us, u.oneCell' = true) →
    ∃ vs, Instr.fill pl us.toArray qs = some vs.toArray ∧ VRelL μ F w ds vs ∧ (∀ u ∈ vs, u.oneCell' = true)
  | [], qs, cs, ds, us, hl, _, h, hu, h1 => by
    have : qs = [] := List.length_eq_zero_iff.1 hl
    subst this
    simp only [fillE, Option.some.injEq] at h
    subst h
    exact ⟨us, by simp [Instr.fill], hu, h1⟩
  | (i, x) :: ps, [], _, _, _, hl, _, _, _, _ => by simp at hl
  | (i, x) :: ps, (j, v) :: qs, cs, ds, us, hl, hr, h, hu, h1 => by
    obtain ⟨hj, hx⟩ := hr 0 (i, x) (j, v) rfl rfl
    simp only at hj hx
    subst hj
    simp only [fillE] at h
    split at h
    · rename_i off size vs hp hvs
      split at h
      · rename_i hs
        obtain ⟨hs1, hs2⟩ := hs
        obtain ⟨hv, hv1⟩ := cells_rel hvs hx
        have hlen := vrelL_len hv
        have hul := vrelL_len hu
        obtain ⟨zs, z1, z2, z3⟩ := fillE_rel ps qs _ ds _ (by simpa using hl) (fun i p q hp hq => hr (i + 1) p q (by simpa using hp) (by simpa using hq)) h (splice_rel hu hv off) (fun u hm => by
          simp only [List.mem_append] at hm
          rcases hm with (hm | hm) | hm
          · exact h1 u (List.mem_of_mem_take hm)
          · exact hv1 u hm
          · exact h1 u (List.mem_of_mem_drop hm))
        refine ⟨zs, ?_, z2, z3⟩
        have hsz : v.cells.size = size := by rw [← hs1, ← hlen]; simp
        have hnot : ¬ ((v.cells.size ≠ size || decide (off + v.cells.size > us.toArray.size)) = true) := by
          simp [hsz]; omega
        simp only [Instr.fill, hp, if_neg hnot]
        have := foldl_put v.cells.toList us off (by simp; omega)
        rw [← z1, ← this]
        congr 1
        rw [← Array.foldl_toList, Array.toList_zipIdx]
      · cases h
    · cases h

end Go.Proofs.YtfepkpindchleaaE
