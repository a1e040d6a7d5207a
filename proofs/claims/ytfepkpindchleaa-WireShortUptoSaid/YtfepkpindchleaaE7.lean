/- The engine, part 7: operations that only compute. -/
import Derived.Test.YtfepkpindchleaaE6
import Derived.Laws.StructEq
import Derived.Laws.Concat
import Derived.Laws.Strings2
namespace Go.Proofs.YtfepkpindchleaaE
open Go
set_option linter.unusedVariables false
set_option linter.unusedSimpArgs false

theorem req_some {R : Type} {b : Bool} {x : Option R} {r : R} (h : req b x = some r) : b = true ∧ x = some r := by
  cases b
  · simp [req] at h
  · exact ⟨rfl, by simpa [req] using h⟩

theorem constAV_rel {μ : Nat → Pl} {F : Nat → Prop} {w : World} (v : Value) : VRel μ F w (constAV v) v := by
  unfold constAV
  split <;> simp [VRel]

theorem ev_rel {c : Cx} {st : St} {a : Act} {w : World} {μ : Nat → Pl} {F : Nat → Prop} (hi : Inv c st a w μ F) (x : Operand) : VRel μ F w (st.ev x) (a.eval x) := by
  cases x with
  | tmp t => exact hi.tm t
  | const v => exact constAV_rel v
  | global g => simp [St.ev, VRel]
  | func f => simp [St.ev, VRel, VRelL, Act.eval]

/-! ### Whole numbers, strings, structs -/
theorem intBin_rel {P : Program} {μ : Nat → Pl} {F : Nat → Prop} {w : World} {op : BinOp} {k : IntKind} {a b : Int} {z : AV} (h : intBin op k a b = some z) (t : TypeId) (X Y : Operand) :
    ∃ q, ((do eqGuard op t X Y (.int k a) (.int k b); binOp op t (.int k a) (.int k b)) : Sem Value).run P w = .ok q w ∧ VRel μ F w z q := by
  cases op <;> simp only [intBin] at h <;> try cases h
  all_goals exact ⟨_, by simp [eqGuard, binOp, Op.intArith, Op.intBits, Op.intCmp]; rfl, by simp [VRel]⟩

theorem bytes_beq (a b : List UInt8) : ((⟨a.toArray⟩ : ByteArray).toList == (⟨b.toArray⟩ : ByteArray).toList) = (a == b) := by
  rw [ByteArray.toList_eq, ByteArray.toList_eq]

theorem strBin_rel {P : Program} {μ : Nat → Pl} {F : Nat → Prop} {w : World} {op : BinOp} {a b : List UInt8} {z : AV} (h : strBin op a b = some z) (t : TypeId) (X Y : Operand) :
    ∃ q, ((do eqGuard op t X Y (.string ⟨a.toArray⟩) (.string ⟨b.toArray⟩); binOp op t (.string ⟨a.toArray⟩) (.string ⟨b.toArray⟩)) : Sem Value).run P w = .ok q w ∧ VRel μ F w z q := by
  cases op <;> simp only [strBin] at h <;> try cases h
  · exact ⟨_, by simp [eqGuard, binOp, Op.stringOp]; rfl, by simp [VRel, ByteArray.toList_eq]⟩
  · exact ⟨_, by simp [eqGuard, binOp, Op.stringOp]; rfl, by simp [VRel, ByteArray.toList_eq]⟩
  · exact ⟨_, by simp [eqGuard, binOp, Op.stringOp]; rfl, by simp [VRel, ByteArray.toList_eq]⟩

theorem eqFs_rel {P : Program} {T : Tab} (hT : TabOk P T) {μ : Nat → Pl} {F : Nat → Prop} {w : World} {d : Nat} {cs ds : List AV} {us vs : List Value}
    (hu : VRelL μ F w cs us) (hv : VRelL μ F w ds vs) (hu1 : ∀ u ∈ us, u.oneCell' = true) (hv1 : ∀ u ∈ vs, u.oneCell' = true)
    (ih : ∀ (t : Nat) (x y : AV) (u v : Value) (b : Bool) (w' : World), eqV T d t x y = some b → VRel μ F w x u → VRel μ F w y v → (Op.equalIn d t u v).run P w' = .ok b w') :
    ∀ (fs : List Field) (b : Bool) (w' : World), (∀ f ∈ fs, f.name ≠ "_") → eqFs T (eqV T d) cs ds (fs.map fun f => (f.offset, f.type)) = some b →
      (Op.eqFields d us.toArray vs.toArray fs).run P w' = .ok b w'
  | [], b, w', _, h => by simp [eqFs] at h; subst h; simp [Op.eqFields]
  | f :: fs, b, w', hn, h => by
    simp only [List.map_cons, eqFs] at h
    split at h
    · rename_i x y hx hy
      split at h
      · rename_i r q hr hq
        cases h
        obtain ⟨u, e1, e2⟩ := part_rel hT hx hu hu1 w'
        obtain ⟨v, e3, e4⟩ := part_rel hT hy hv hv1 w'
        have e5 := ih _ _ _ _ _ _ w' hr e2 e4
        have e6 := eqFs_rel hT hu hv hu1 hv1 ih fs q w' (fun f hf => hn f (by simp [hf])) hq
        simp only [Op.eqFields, if_pos (hn f (by simp)), Sem.run_bind, e1, e3, e5, Result.andThen_ok]
        cases r
        · simp
        · simpa using e6
      · cases h
    · cases h

theorem eqV_rel {P : Program} {T : Tab} (hT : TabOk P T) {μ : Nat → Pl} {F : Nat → Prop} {w : World} : ∀ (d t : Nat) (x y : AV) (u v : Value) (b : Bool) (w' : World),
    eqV T d t x y = some b → VRel μ F w x u → VRel μ F w y v → (Op.equalIn d t u v).run P w' = .ok b w'
  | 0, t, x, y, u, v, b, w', h, _, _ => by simp [eqV] at h
  | d + 1, t, x, y, u, v, b, w', h, hu, hv => by
    simp only [eqV] at h
    split at h
    · rename_i k0 k a k' b' hd
      have ht := desc_ok hT hd (by simp)
      simp only [DescOk] at ht
      split at h
      · rename_i hk
        cases h
        simp only [VRel] at hu hv
        subst hu hv hk
        exact run_equalIn_int w' d t _ _ _ _ ht
      · cases h
    · rename_i a b' hd
      have ht := desc_ok hT hd (by simp)
      simp only [DescOk] at ht
      cases h
      simp only [VRel] at hu hv
      subst hu hv
      exact run_equalIn_bool' w' d t _ _ ht
    · rename_i a b' hd
      have ht := desc_ok hT hd (by simp)
      simp only [DescOk] at ht
      cases h
      simp only [VRel] at hu hv
      subst hu hv
      rw [run_equalIn_string w' d t _ _ ht, bytes_beq]
    · rename_i fs cs ds hd
      have ht := desc_ok hT hd (by simp)
      simp only [DescOk] at ht
      obtain ⟨fields, ht, hfs, hn, hp, _⟩ := ht
      simp only [VRel] at hu hv
      obtain ⟨us, rfl, hu, hu1⟩ := hu
      obtain ⟨vs, rfl, hv, hv1⟩ := hv
      have hfo : P.fieldsOf t = fields := by simp [Program.fieldsOf, ht]
      rw [run_equalIn_struct w' d t _ _ (by rw [hfo]; exact ht) hp, hfo]
      subst hfs
      exact eqFs_rel hT hu hv hu1 hv1 (fun t x y u v b w'' => eqV_rel hT d t x y u v b w'') fields.toList b w' hn h
    · cases h

theorem eqFs_more {T : Tab} {e e' : Nat → AV → AV → Option Bool} {cs ds : List AV} (he : ∀ t x y b, e t x y = some b → e' t x y = some b) : ∀ (fs : List (Nat × Nat)) (b : Bool), eqFs T e cs ds fs = some b → eqFs T e' cs ds fs = some b
  | [], b, h => h
  | (off, t) :: fs, b, h => by
    simp only [eqFs] at h ⊢
    split at h
    · split at h
      · rename_i r q hr hq
        rw [he _ _ _ _ hr, eqFs_more he fs q hq]
        exact h
      · cases h
    · cases h
theorem eqV_more {T : Tab} : ∀ (d d' t : Nat) (x y : AV) (b : Bool), d ≤ d' → eqV T d t x y = some b → eqV T d' t x y = some b
  | 0, _, _, _, _, _, _, h => by simp [eqV] at h
  | d + 1, 0, _, _, _, _, hd, _ => by omega
  | d + 1, d' + 1, t, x, y, b, hd, h => by
    simp only [eqV] at h ⊢
    split at h
    · exact h
    · exact h
    · exact h
    · exact eqFs_more (fun t x y b => eqV_more d d' t x y b (by omega)) _ b h
    · cases h

theorem eq_struct_rel {P : Program} {T : Tab} (hT : TabOk P T) {μ : Nat → Pl} {F : Nat → Prop} {w : World} {t : Nat} {cs ds : List AV} {u v : Value} {b : Bool} (op : BinOp) (hop : op = .eql ∨ op = .neq) (X Y : Operand)
    (h : eqV T 12 t (.agg cs) (.agg ds) = some b) (hu : VRel μ F w (.agg cs) u) (hv : VRel μ F w (.agg ds) v) :
    ((do eqGuard op t X Y u v; binOp op t u v) : Sem Value).run P w = .ok (.bool (if op = .eql then b else !b)) w := by
  have hd : ∃ fs, T.desc t = .struct fs := by
    cases hd : T.desc t <;> simp [eqV, hd] at h
    exact ⟨_, rfl⟩
  obtain ⟨fs, hd⟩ := hd
  have ht := desc_ok hT hd (by simp)
  simp only [DescOk] at ht
  obtain ⟨fields, ht, hfs, hn, hp, hg⟩ := ht
  have he : (Op.equal t u v).run P w = .ok b w :=
    eqV_rel hT _ t _ _ u v b w (eqV_more 12 Op.maxDepth t _ _ b (by decide) h) hu hv
  simp only [VRel] at hu hv
  obtain ⟨us, rfl, _⟩ := hu
  obtain ⟨vs, rfl, _⟩ := hv
  rcases hop with rfl | rfl
  · simp [eqGuard, hg, binOp, he]
  · simp [eqGuard, hg, binOp, he]

theorem nilEq_rel {P : Program} {T : Tab} (hT : TabOk P T) {μ : Nat → Pl} {F : Nat → Prop} {w : World} {t : Nat} {x y : AV} {u v : Value} {b : Bool} (d : Nat)
    (h : nilV T t x y = some b) (hu : VRel μ F w x u) (hv : VRel μ F w y v) : (Op.equalIn (d + 1) t u v).run P w = .ok b w := by
  unfold nilV at h
  split at h <;> (try cases h) <;> (rename_i hd; have ht := desc_ok hT hd (by simp); simp only [DescOk] at ht; simp only [VRel] at hu hv)
  case h_1 => subst hu hv; simp [Op.equalIn, run_underlying ht]
  case h_2 => obtain ⟨b, _, rfl⟩ := hu; subst hv; simp [Op.equalIn, run_underlying ht]
  case h_3 => obtain ⟨b, _, _, _, _, _, rfl⟩ := hu; subst hv; simp [Op.equalIn, run_underlying ht]
  case h_4 => obtain ⟨b, _, _, _, _, rfl⟩ := hu; subst hv; simp [Op.equalIn, run_underlying ht]
  case h_5 =>
    split at h <;> cases h
    rename_i e
    obtain ⟨⟨rfl, rfl⟩, hz⟩ := e
    obtain ⟨b, h1, rfl⟩ := hu
    obtain ⟨b', h2, rfl⟩ := hv
    rw [h1] at h2
    cases h2
    obtain ⟨n, hn⟩ := Option.isSome_iff_exists.1 hz
    have hs := size_run hT hn w
    by_cases h0 : n = 0
    · simp [Op.equalIn, run_underlying ht, hs, h0]
    · simp [Op.equalIn, run_underlying ht, hs, h0, sameAddr]
  case h_6 => obtain ⟨a1, a2, a3, ht⟩ := ht; subst hu hv; simp [Op.equalIn, run_underlying ht]
  case h_7 => obtain ⟨a1, a2, a3, ht⟩ := ht; obtain ⟨us, rfl, _⟩ := hu; subst hv; simp [Op.equalIn, run_underlying ht]
  case h_8 => subst hu hv; simp [Op.equalIn, run_underlying ht]
  case h_9 => obtain ⟨b, _, rfl⟩ := hu; subst hv; simp [Op.equalIn, run_underlying ht]

theorem nilV_run {P : Program} {T : Tab} (hT : TabOk P T) {μ : Nat → Pl} {F : Nat → Prop} {w : World} {t : Nat} {x y : AV} {u v : Value} {b : Bool}
    (h : nilV T t x y = some b) (hu : VRel μ F w x u) (hv : VRel μ F w y v) : (Op.equal t u v).run P w = .ok b w := nilEq_rel hT 9999 h hu hv

theorem nilV_rel {P : Program} {T : Tab} (hT : TabOk P T) {μ : Nat → Pl} {F : Nat → Prop} {w : World} {t : Nat} {x y : AV} {u v : Value} {b : Bool} (op : BinOp) (hop : op = .eql ∨ op = .neq) (X Y : Operand)
    (h : nilV T t x y = some b) (hu : VRel μ F w x u) (hv : VRel μ F w y v) :
    ((do eqGuard op t X Y u v; binOp op t u v) : Sem Value).run P w = .ok (.bool (if op = .eql then b else !b)) w := by
  have he := nilV_run hT h hu hv
  clear hT
  unfold nilV at h
  split at h <;> (try cases h) <;> (simp only [VRel] at hu hv)
  case h_1 => subst hu hv; rcases hop with rfl | rfl <;> simp [eqGuard, binOp, he]
  case h_2 => obtain ⟨b, _, rfl⟩ := hu; subst hv; rcases hop with rfl | rfl <;> simp [eqGuard, binOp, he]
  case h_3 => obtain ⟨b, _, _, _, _, _, rfl⟩ := hu; subst hv; rcases hop with rfl | rfl <;> simp [eqGuard, binOp, he]
  case h_4 => obtain ⟨b, _, _, _, _, rfl⟩ := hu; subst hv; rcases hop with rfl | rfl <;> simp [eqGuard, binOp, he]
  case h_5 => obtain ⟨b, _, rfl⟩ := hu; obtain ⟨b', _, rfl⟩ := hv; rcases hop with rfl | rfl <;> simp [eqGuard, binOp, he]
  case h_6 => subst hu hv; rcases hop with rfl | rfl <;> simp [eqGuard, binOp, he]
  case h_7 => obtain ⟨us, rfl, _⟩ := hu; subst hv; rcases hop with rfl | rfl <;> simp [eqGuard, binOp, he]
  case h_8 => subst hu hv; rcases hop with rfl | rfl <;> simp [eqGuard, binOp, he]
  case h_9 => obtain ⟨b, _, rfl⟩ := hu; subst hv; rcases hop with rfl | rfl <;> simp [eqGuard, binOp, he]

theorem nlt0 {b : Int} (h : decide (0 ≤ b) = true) : ¬ (b < 0) := by have := of_decide_eq_true h; omega
theorem ne0 {b : Int} (h : (b != 0) = true) : ¬ (b = 0) := by simpa using h

theorem binOpE_rel {P : Program} {T : Tab} (hT : TabOk P T) {R : Type} {K : Eff → Option R} {r : R} {μ : Nat → Pl} {F : Nat → Prop} {w : World} {t : Nat} {op : BinOp} {x y : AV} {u v : Value} (X Y : Operand)
    (h : binOpE T t op x y K = some r) (hu : VRel μ F w x u) (hv : VRel μ F w y v) :
    ∃ z q, K (.val z) = some r ∧ ((do eqGuard op t X Y u v; binOp op t u v) : Sem Value).run P w = .ok q w ∧ VRel μ F w z q := by
  unfold binOpE at h
  split at h
  · simp only [VRel] at hu hv
    subst hu hv
    obtain ⟨hb, h⟩ := req_some h
    have hb := nlt0 hb
    exact ⟨_, _, h, by simp [eqGuard, binOp, Op.shift, hb]; rfl, by simp [VRel]⟩
  · simp only [VRel] at hu hv
    subst hu hv
    obtain ⟨hb, h⟩ := req_some h
    have hb := nlt0 hb
    exact ⟨_, _, h, by simp [eqGuard, binOp, Op.shift, hb]; rfl, by simp [VRel]⟩
  · split at h
    · rename_i hk
      subst hk
      simp only [VRel] at hu hv
      subst hu hv
      obtain ⟨hb, h⟩ := req_some h
      have hb := ne0 hb
      exact ⟨_, _, h, by simp [eqGuard, binOp, Op.intDiv, hb]; rfl, by simp [VRel]⟩
    · cases h
  · split at h
    · rename_i hk
      subst hk
      simp only [VRel] at hu hv
      subst hu hv
      obtain ⟨hb, h⟩ := req_some h
      have hb := ne0 hb
      exact ⟨_, _, h, by simp [eqGuard, binOp, Op.intDiv, hb]; rfl, by simp [VRel]⟩
    · cases h
  · split at h
    · rename_i hk
      subst hk
      split at h
      · rename_i z hz
        simp only [VRel] at hu hv
        subst hu hv
        obtain ⟨q, h1, h2⟩ := intBin_rel (P := P) (μ := μ) (F := F) (w := w) hz t X Y
        exact ⟨z, q, h, h1, h2⟩
      · cases h
    · cases h
  · rename_i a b
    simp only [VRel] at hu hv
    subst hu hv
    obtain ⟨hb, h⟩ := req_some h
    have hb := Nat.le_of_ble_eq_true hb
    refine ⟨_, .string (⟨a.toArray⟩ ++ ⟨b.toArray⟩), h, ?_, by simp [VRel, ByteArray.mk_append_mk]⟩
    have := run_string_add_sum (P := P) (w := w) ⟨a.toArray⟩ ⟨b.toArray⟩ (by simp [ByteArray.size]; omega)
    simp [eqGuard, binOp, this]
  · split at h
    · rename_i z hz
      simp only [VRel] at hu hv
      subst hu hv
      obtain ⟨q, h1, h2⟩ := strBin_rel (P := P) (μ := μ) (F := F) (w := w) hz t X Y
      exact ⟨z, q, h, h1, h2⟩
    · cases h
  · split at h
    · rename_i hd
      have ht := desc_ok hT hd (by simp)
      simp only [DescOk] at ht
      simp only [VRel] at hu hv
      subst hu hv
      exact ⟨_, _, h, by simp [eqGuard, binOp, Op.equal, show (Op.equalIn Op.maxDepth t _ _).run P w = _ from run_equalIn_bool' w 9999 t _ _ ht]; rfl, by simp [VRel]⟩
    · cases h
  · split at h
    · rename_i hd
      have ht := desc_ok hT hd (by simp)
      simp only [DescOk] at ht
      simp only [VRel] at hu hv
      subst hu hv
      exact ⟨_, _, h, by simp [eqGuard, binOp, Op.equal, show (Op.equalIn Op.maxDepth t _ _).run P w = _ from run_equalIn_bool' w 9999 t _ _ ht]; rfl, by simp [VRel]⟩
    · cases h
  · split at h
    · rename_i b hb
      exact ⟨_, _, h, eq_struct_rel hT .eql (.inl rfl) X Y hb hu hv, by simp [VRel]⟩
    · cases h
  · split at h
    · rename_i b hb
      exact ⟨_, _, h, eq_struct_rel hT .neq (.inr rfl) X Y hb hu hv, by simp [VRel]⟩
    · cases h
  · split at h
    · rename_i b hb
      exact ⟨_, _, h, nilV_rel hT .eql (.inl rfl) X Y hb hu hv, by simp [VRel]⟩
    · cases h
  · split at h
    · rename_i b hb
      exact ⟨_, _, h, nilV_rel hT .neq (.inr rfl) X Y hb hu hv, by simp [VRel]⟩
    · cases h
  · cases h

end Go.Proofs.YtfepkpindchleaaE
