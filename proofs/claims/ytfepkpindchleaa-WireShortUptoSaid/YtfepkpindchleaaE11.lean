/- The engine, part 11: make, conversions, append, copy. -/
import Derived.Test.YtfepkpindchleaaE10
import Derived.Deep.AppendSrc
import Derived.Deep.Upon
import Derived.Laws.AppendOwn
namespace Go.Proofs.YtfepkpindchleaaE
open Go
set_option linter.unusedVariables false
set_option linter.unusedSimpArgs false

theorem fits_le {n b : Nat} (h : fits n b = true) : n * b ≤ 140737488355328 ∧ n ≤ 140737488355328 := by
  simp only [fits, Bool.and_eq_true] at h
  exact ⟨of_decide_eq_true h.1, of_decide_eq_true h.2⟩

theorem makeSliceE_rel {P : Program} {T : Tab} (hT : TabOk P T) {R : Type} {K : Eff → Option R} {r : R} {c : Cx} {st : St} {a : Act} {w : World} {μ : Nat → Pl} {F : Nat → Prop} (hi : Inv c st a w μ F) {t : Nat} {x y : AV} {u v : Value}
    (h : makeSliceE T st.nx t x y K = some r) (hu : VRel μ F w x u) (hv : VRel μ F w y v) : ∃ f, K f = some r ∧ Outc P c st a w (Instr.makeSlice t u v) f := by
  unfold makeSliceE at h
  split at h
  · rename_i e hd
    have ht := desc_ok hT hd (by simp)
    simp only [DescOk] at ht
    split at h
    · cases h
    · rename_i row hrow
      split at h
      · rename_i τ l m hτ hx hy
        obtain ⟨kl, rfl⟩ := natOf_rel hx hu
        obtain ⟨km, rfl⟩ := natOf_rel hy hv
        split at h
        · rename_i hsz
          obtain ⟨hc, hK⟩ := req_some h
          simp only [Bool.and_eq_true, decide_eq_true_eq, beq_iff_eq] at hc
          obtain ⟨⟨h0, rfl⟩, hfit⟩ := hc
          obtain ⟨hb1, hb2⟩ := fits_le hfit
          obtain ⟨i0, z, e1, e2, e3, e4, e5, e6, e7, e8⟩ := (hT e row hrow).info
          have hbytes : (i0.bytes : Int) * l ≤ 281474976710656 := by
            have h3 : (row.bytes : Int) * l = ((l.toNat * row.bytes : Nat) : Int) := by
              rw [Int.natCast_mul, Int.toNat_of_nonneg h0, Int.mul_comm]
            rw [e3, h3]
            omega
          have hrun := run_make (P := P) w t e i0 z ht e1 e4 kl km l l h0 (Int.le_refl _) hbytes (by omega)
          rw [e2] at hrun
          have hlen : (madeCells z.cells (l.toNat * row.size)).toList.length = l.toNat * row.size := by simp [size_madeCells]
          have := inv_row hi (grew_alloc w (.cells (madeCells z.cells (l.toNat * row.size)) e)) (τ := τ) (xs := List.replicate l.toNat τ.dflt) (us := (madeCells z.cells (l.toNat * row.size)).toList) (E := e) (fz := (0, 0)) (cap := l.toNat)
            (by rw [World.size_alloc]; omega) (by simpa using alloc_new w (.cells (madeCells z.cells (l.toNat * row.size)) e)) (fun i _ h => by simp at h) (by simp) (by rw [hlen, hsz]; exact Nat.le_refl _) (fun i x hx => by
              obtain ⟨hil, hix⟩ := List.getElem?_eq_some_iff.1 hx
              simp at hil hix
              subst hix
              refine ⟨z.cells.toList, e8 τ hτ F _, by simp [e5, hsz], fun j q hj => ?_⟩
              have hjl : j < z.cells.toList.length := by obtain ⟨h2, _⟩ := List.getElem?_eq_some_iff.1 hj; exact h2
              have hzl : z.cells.toList.length = τ.sz := by simp [e5, hsz]
              have hlt : i * τ.sz + j < l.toNat * row.size := by
                have : (i + 1) * τ.sz ≤ l.toNat * τ.sz := Nat.mul_le_mul_right _ (by omega)
                rw [Nat.add_mul, Nat.one_mul] at this
                rw [← hsz]
                omega
              have := zero_range z.cells.toList (l.toNat * row.size) i j q (by omega) hj (by rw [hzl]; exact hlt)
              rw [hzl] at this
              simpa [madeCells] using this) (fun hu => (hT e row hrow).byte (.inl (by rw [hτ, hu])))
          rw [List.length_replicate] at this
          exact ⟨_, hK, _, _, _, F, hrun, this.1, this.2⟩
        · cases h
      · cases h
  · cases h

theorem strOf_bytes (xs : List Int) : strOfNums xs = ⟨(intBytes xs).toArray⟩ := by
  have := strOfNums_data xs
  unfold intBytes
  rw [← this]

theorem convertE_rel {P : Program} {T : Tab} (hT : TabOk P T) {R : Type} {K : Eff → Option R} {r : R} {c : Cx} {st : St} {a : Act} {w : World} {μ : Nat → Pl} {F : Nat → Prop} (hi : Inv c st a w μ F) {src dst : Nat} {x : AV} {u : Value}
    (h : convertE T st.hp st.nx src dst x K = some r) (hu : VRel μ F w x u) : ∃ f, K f = some r ∧ Outc P c st a w (convert src dst u) f := by
  unfold convertE at h
  split at h
  · rename_i k0 k k1 n hs hd
    have hs := desc_ok hT hs (by simp)
    have hd := desc_ok hT hd (by simp)
    simp only [DescOk] at hs hd
    simp only [VRel] at hu
    subst hu
    exact ⟨_, h, outc_val hi (by simp [convert, run_underlying hs, run_underlying hd, Conv.intToInt]; rfl) (by simp [VRel])⟩
  · rename_i s hs hd
    have hs := desc_ok hT hs (by simp)
    have hd := desc_ok hT hd (by simp)
    simp only [DescOk] at hs hd
    simp only [VRel] at hu
    subst hu
    exact ⟨_, h, outc_val hi (by simp [convert, run_underlying hs, run_underlying hd]; rfl) (by simp [VRel])⟩
  · rename_i e s hs hd
    have hs := desc_ok hT hs (by simp)
    have hd := desc_ok hT hd (by simp)
    simp only [DescOk] at hs hd
    split at h
    · rename_i he
      have hby : e = 5 := by
        obtain ⟨r5, hr5, hd5⟩ := desc_row he (by simp)
        exact (hT e r5 hr5).byte (.inr hd5)
      have he := desc_ok hT he (by simp)
      simp only [DescOk] at he
      simp only [VRel] at hu
      subst hu
      obtain ⟨hfit, h⟩ := req_some h
      have hrun := Lib.run_convert_string_bytes (P := P) w src dst e ⟨s.toArray⟩ hs hd he
      have hsize : (⟨s.toArray⟩ : ByteArray).size = s.length := by simp [ByteArray.size]
      rw [hsize] at hrun
      have hnew := Lib.bytesWorld_at_new w e ⟨s.toArray⟩
      have hgr : Grew w (Lib.bytesWorld w e ⟨s.toArray⟩) := ⟨rfl, rfl, rfl, by rw [Lib.bytesWorld_size]; omega, fun b hb => Lib.bytesWorld_at_old w e _ b hb⟩
      have hcells : (Lib.bytesCells w e ⟨s.toArray⟩).toList.length = grownCap w s.length 0 e := by
        have := grownCap_ge w s.length 0 e
        simp only [Lib.bytesCells]
        simp [hsize, ByteArray.size] 
        unfold grownCap at this ⊢
        omega
      have hbl : (bytesInt s).length = s.length := by simp [bytesInt]
      have := inv_row hi hgr (τ := .int .u8) (xs := bytesInt s) (us := (Lib.bytesCells w e ⟨s.toArray⟩).toList) (E := e) (fz := ((Lib.bytesCells w e ⟨s.toArray⟩).size, (Lib.bytesCells w e ⟨s.toArray⟩).size + 1)) (cap := grownCap w s.length 0 e)
        (by rw [Lib.bytesWorld_size]; omega) (by rw [hnew]) (fun i hi => by simp at hi ⊢; omega) (by rw [hbl]; exact grownCap_ge w _ _ e) (by rw [hcells]; simp [Ty.sz]) (fun i y hy => by
          have hil : i < s.length := by obtain ⟨h2, _⟩ := List.getElem?_eq_some_iff.1 hy; omega
          have hc := Lib.bytesWorld_cell w e ⟨s.toArray⟩ i (by omega)
          simp only [World.cell?, hnew] at hc
          simp [bytesInt, List.getElem?_eq_getElem hil] at hy
          subst hy
          refine ⟨[.int .u8 (s[i].toNat : Int)], by simp [Enc], rfl, fun j q hj => ?_⟩
          cases j with
          | zero =>
            simp at hj
            subst hj
            simp [Ty.sz]
            simpa [List.getD, List.getElem?_eq_getElem hil] using hc
          | succ j => simp at hj) (fun _ => hby)
      rw [hbl] at this
      exact ⟨_, h, _, _, _, F, hrun, this.1, this.2⟩
    · cases h
  · rename_i e0 e hs hd
    have hs := desc_ok hT hs (by simp)
    have hd := desc_ok hT hd (by simp)
    simp only [DescOk] at hs hd
    split at h
    · rename_i he
      have he := desc_ok hT he (by simp)
      simp only [DescOk] at he
      split at h
      · rename_i xs hxs
        obtain ⟨A, cap, rfl, h1, h2, h3⟩ := elemsOf_rel hi.h hxs hu
        by_cases hne : xs = []
        · subst hne
          refine ⟨_, h, outc_val hi (v := .string ⟨#[]⟩) ?_ (by simp [VRel, intBytes])⟩
          cases A with
          | none => exact run_convert_bytes_nil (P := P) w src e hs he _ _ dst hd
          | some ad =>
            have := run_bytesToString (P := P) w ad 0 cap [] (by simp [loadCells, loadCellsFrom])
            rw [run_convert_bytes_string w src dst e _ _ _ hs he hd]
            exact this
        · obtain ⟨b, o, rfl, hl⟩ := h3 hne
          refine ⟨_, h, outc_val hi (v := .string ⟨(intBytes xs).toArray⟩) ?_ (by simp [VRel])⟩
          rw [← strOf_bytes]
          exact run_convert_bytes_arg (P := P) w src e hs he b o xs.length cap xs rfl (fun i hi => by
            obtain ⟨us, u1, u2, u3⟩ := lies_get hl hi
            simp only [Enc] at u1
            subst u1
            have := u3 0 _ rfl
            simpa [Ty.sz, Ty.dflt] using this) dst hd
      · cases h
    · cases h
  · cases h

/-! ### What append and copy take from -/
theorem srcOf_rel {P : Program} {T : Tab} (hT : TabOk P T) {w : World} {hp : Nat → LObj} {nx : Nat} {μ : Nat → Pl} {F : Nat → Prop} (hi : HInv w hp nx μ F) {τ : Ty} {x : AV} {ys : List τ.den} {u : Value} {tx : Nat}
    (h : srcOf hp τ x = some ys) (hu : VRel μ F w x u) (hk : srcKind T tx = true) : ∃ news, EncL F w τ ys news ∧ Src P τ.sz tx u ys.length news w := by
  have hkind : (∃ e', P.underlying tx = some (.slice e')) ∨ P.underlying tx = some .string := by
    unfold srcKind at hk
    split at hk
    · rename_i e hd; exact .inl ⟨e, by have := desc_ok hT hd (by simp); simpa only [DescOk] using this⟩
    · rename_i hd; exact .inr (by have := desc_ok hT hd (by simp); simpa only [DescOk] using this)
    · cases hk
  have slice : ∀ {ys : List τ.den}, elemsOf hp τ x = some ys → ∃ news, EncL F w τ ys news ∧ Src P τ.sz tx u ys.length news w := by
    intro ys h
    obtain ⟨A, cap, rfl, h1, h2, h3⟩ := elemsOf_rel hi h hu
    by_cases hne : ys = []
    · subst hne
      refine ⟨[], by simp [EncL], hkind, fun _ => rfl, ?_, ?_, by simp, by simp⟩
      · cases A with
        | none => exact run_firstCells_none w _ _ _ _
        | some ad => simp [Builtin.firstCells, loadCells, loadCellsFrom]
      · cases A with
        | none => exact run_firstCells_none w.drew _ _ _ _
        | some ad => simp [Builtin.firstCells, loadCells, loadCellsFrom]
    · obtain ⟨b, o, rfl, hl⟩ := h3 hne
      obtain ⟨news, n1, n2⟩ := lies_encL hl
      refine ⟨news, n1, hkind, fun _ => rfl, ?_, ?_, encL_len n1, encL_one n1⟩
      · exact run_firstCells_some w _ _ _ _ _ news (encL_len n1) (fun j v hj => by rw [addr_add]; exact n2 j v hj)
      · exact run_firstCells_some w.drew _ _ _ _ _ news (encL_len n1) (fun j v hj => by rw [addr_add]; simpa using n2 j v hj)
  unfold srcOf at h
  split at h
  · rename_i s
    cases h
    simp only [VRel] at hu
    subst hu
    have hs : (⟨s.toArray⟩ : ByteArray).size = (bytesInt s).length := by simp [ByteArray.size, bytesInt]
    refine ⟨_, encL_bytes s, hkind, fun _ => by simp [Builtin.lenOf, hs], ?_, ?_, encL_len (F := F) (w := w) (encL_bytes s), encL_one (F := F) (w := w) (encL_bytes s)⟩
    · rw [← hs]; exact firstCells_string _ w
    · rw [← hs]; exact firstCells_string _ w.drew
  · exact slice h

/-! ### append -/
/-- Cells that grow where they are: what a row's block holds behind it. -/
theorem row_put {w w' : World} {F : Nat → Prop} {τ : Ty} {xs ys : List τ.den} {us news : List Value} {o p : Nat}
    (hold : ∀ (i : Nat) (x : τ.den), xs[i]? = some x → ∃ vs, Enc F w τ x vs ∧ vs.length = τ.sz ∧ ∀ (j : Nat) (u : Value), vs[j]? = some u → us[o + i * τ.sz + j]? = some u)
    (hnew : EncL F w τ ys news) (hpx : p ≤ xs.length) (hle : o + p * τ.sz + news.length ≤ us.length) (hFw : ∀ b, F b → w'.heap[b]? = w.heap[b]?) :
    ∀ (i : Nat) (x : τ.den), (xs.take p ++ ys ++ xs.drop (p + ys.length))[i]? = some x → ∃ vs, Enc F w' τ x vs ∧ vs.length = τ.sz ∧
      ∀ (j : Nat) (u : Value), vs[j]? = some u → (us.take (o + p * τ.sz) ++ news ++ us.drop (o + p * τ.sz + news.length))[o + i * τ.sz + j]? = some u := by
  intro i x hx
  have hnl := encL_len hnew
  have hpl : (xs.take p).length = p := by simp; omega
  rw [List.append_assoc] at hx
  by_cases hi : i < p
  · rw [List.getElem?_append_left (by omega), List.getElem?_take_of_lt hi] at hx
    obtain ⟨vs, v1, v2, v3⟩ := hold i x hx
    refine ⟨vs, v1.mono (fun _ h => h) hFw, v2, fun j u hj => ?_⟩
    have hjl : j < τ.sz := by obtain ⟨h2, _⟩ := List.getElem?_eq_some_iff.1 hj; omega
    have : (i + 1) * τ.sz ≤ p * τ.sz := Nat.mul_le_mul_right _ (by omega)
    rw [Nat.add_mul, Nat.one_mul] at this
    rw [List.append_assoc, List.getElem?_append_left (by simp; omega), List.getElem?_take_of_lt (by omega)]
    exact v3 j u hj
  · rw [List.getElem?_append_right (by omega), hpl] at hx
    by_cases hi2 : i - p < ys.length
    · rw [List.getElem?_append_left hi2] at hx
      obtain ⟨vs, v1, v2, v3⟩ := encL_get hnew (i - p) x hx
      refine ⟨vs, v1.mono (fun _ h => h) hFw, v2, fun j u hj => ?_⟩
      have hjl : j < τ.sz := by obtain ⟨h2, _⟩ := List.getElem?_eq_some_iff.1 hj; omega
      have e1 : i * τ.sz = p * τ.sz + (i - p) * τ.sz := by rw [← Nat.add_mul]; congr 1; omega
      have h3 : ((i - p) + 1) * τ.sz ≤ ys.length * τ.sz := Nat.mul_le_mul_right _ (by omega)
      rw [Nat.add_mul, Nat.one_mul] at h3
      rw [List.append_assoc, List.getElem?_append_right (by simp; omega), List.getElem?_append_left (by simp; omega)]
      rw [← v3 j u hj]
      congr 1
      simp
      omega
    · rw [List.getElem?_append_right (by omega), List.getElem?_drop] at hx
      obtain ⟨vs, v1, v2, v3⟩ := hold _ x hx
      refine ⟨vs, v1.mono (fun _ h => h) hFw, v2, fun j u hj => ?_⟩
      have e1 : p + ys.length + (i - p - ys.length) = i := by omega
      rw [e1] at v3
      have h3 : (p + ys.length) * τ.sz ≤ i * τ.sz := Nat.mul_le_mul_right _ (by omega)
      rw [Nat.add_mul] at h3
      rw [List.append_assoc, List.getElem?_append_right (by simp; omega), List.getElem?_append_right (by simp; omega), List.getElem?_drop]
      rw [← v3 j u hj]
      congr 1
      simp
      omega

theorem lenLim_ok {n b : Nat} (h : fits n b = true) : n * b ≤ 140737488355328 ∧ (n : Int) ≤ 9223372036854775807 := by
  have := fits_le h
  omega

/-- There is no room: a new row. -/
theorem grow_rel {P : Program} {T : Tab} (hT : TabOk P T) {w : World} {F : Nat → Prop} (hF : ∀ b, F b → b < w.heap.size) {t e tx ty : Nat} {row : Row} (ht : P.underlying t = some (.slice e)) (hrow : T.row e = some row) {τ : Ty} (hsz : τ.sz = row.size)
    {A : Option Addr} {sLen sCap : Nat} {xs ys : List τ.den} {olds news : List Value} {u : Value} (hxl : xs.length = sLen) (ho : EncL F w τ xs olds) (hn : EncL F w τ ys news)
    (hold : (Builtin.firstCells τ.sz sLen (.slice A sLen sCap)).run P w.drew = .ok olds.toArray w.drew)
    (hs : Src P τ.sz tx u ys.length news w) (hg : sCap < sLen + ys.length) (hfit : fits (sLen + ys.length) row.bytes = true) :
    ∃ cap' us, (Builtin.append_ #[t, tx] ty #[.slice A sLen sCap, u]).run P w = .ok (.slice (some ⟨w.heap.size, 0, none⟩) (sLen + ys.length) cap') (w.drew.alloc (.cells us.toArray e)) ∧
      sLen + ys.length ≤ cap' ∧ cap' * τ.sz ≤ us.length ∧ EncL F w τ (xs ++ ys) (olds ++ news) ∧ ∃ rest, us = (olds ++ news) ++ rest := by
  obtain ⟨i0, z, e1, e2, e3, e4, e5, e6, e7, e8⟩ := (hT e row hrow).info
  obtain ⟨h1, h2⟩ := lenLim_ok hfit
  rw [hsz, ← e2] at hold hs
  have hrun := run_append_grow_src (P := P) w t tx ty e i0 z ht e1 e4 A sLen sCap olds hold u ys.length news hs hg h2 (growslice_fits hg (by rw [e3]; exact h1))
  have hge := grownCap_ge w (sLen + ys.length) sCap e
  have hol := encL_len ho
  have hnl := encL_len hn
  refine ⟨grownCap w (sLen + ys.length) sCap e, (olds ++ news) ++ (Builtin.zeroCells z.cells (grownCap w (sLen + ys.length) sCap e - (sLen + ys.length))).toList, ?_, hge, ?_, encL_append ho hn, _, rfl⟩
  · rw [hrun]
    congr 3
    apply Array.ext'
    simp
  · have hz : (Builtin.zeroCells z.cells (grownCap w (sLen + ys.length) sCap e - (sLen + ys.length))).toList.length = (grownCap w (sLen + ys.length) sCap e - (sLen + ys.length)) * τ.sz := by
      simp [Builtin.zeroCells, e5, hsz]
    rw [List.length_append, List.length_append, hol, hnl, hz, hxl, ← Nat.add_mul, ← Nat.add_mul]
    exact Nat.mul_le_mul_right _ (by omega)

end Go.Proofs.YtfepkpindchleaaE
