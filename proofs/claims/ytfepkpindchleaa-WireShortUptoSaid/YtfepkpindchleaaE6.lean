/- The engine, part 6: tables that are right; places: what is read there, what is stored. -/
import Derived.Test.YtfepkpindchleaaE5
import Derived.Laws.IdiomCopy
import Derived.Laws.Cells
import Derived.Laws.Entries
import Derived.Laws.Append
namespace Go.Proofs.YtfepkpindchleaaE
open Go
set_option linter.unusedVariables false
set_option linter.unusedSimpArgs false

/-! ### Tables that are right -/
def DescOk (P : Program) (t : Nat) : TD → Prop
  | .bool => P.underlying t = some .bool
  | .int k => P.underlying t = some (.int k)
  | .str => P.underlying t = some .string
  | .ptr e => P.underlying t = some (.pointer e)
  | .slice e => P.underlying t = some (.slice e)
  | .array n e => P.underlying t = some (.array n e)
  | .struct fs => ∃ fields, P.underlying t = some (.struct fields) ∧ fields.toList.map (fun f => (f.offset, f.type)) = fs ∧ (∀ f ∈ fields.toList, f.name ≠ "_") ∧ P.stoodInHeld t = false ∧ P.eqGuardType P.depth t = false
  | .map k e => P.underlying t = some (.map k e)
  | .func => ∃ a b c, P.underlying t = some (.func a b c)
  | .other => ∃ d, P.underlying t = some d ∧ (∀ fs, d ≠ .struct fs) ∧ (∀ n e, d ≠ .array n e)

structure RowOk (P : Program) (t : Nat) (r : Row) : Prop where
  desc : DescOk P t r.desc
  info : ∃ i z, P.info? t = some i ∧ i.size = r.size ∧ i.bytes = r.bytes ∧ i.zero = some z ∧ z.cells.size = r.size ∧
    (∀ μ F w, VRelL μ F w r.zero z.cells.toList) ∧ (∀ u ∈ z.cells.toList, u.oneCell' = true) ∧ (∀ τ, r.ty = some τ → ∀ F w, Enc F w τ τ.dflt z.cells.toList)
  byte : r.ty = some (.int .u8) ∨ r.desc = .int .u8 → t = 5
  plain : r.desc.agg = false → ∀ i z, P.info? t = some i → i.zero = some z → z.cells = #[z]

def TabOk (P : Program) (T : Tab) : Prop := ∀ t r, T.row t = some r → RowOk P t r

theorem agg_run {P : Program} {T : Tab} (hT : TabOk P T) {t : Nat} {r : Row} (hr : T.row t = some r) (w : World) : (isAgg t).run P w = .ok (T.agg t) w := by
  have h := (hT t r hr).desc
  have e : T.agg t = r.desc.agg := by simp [Tab.agg, Tab.desc, hr]
  rw [e]
  unfold isAgg
  cases hd : r.desc with
  | struct fs => rw [hd] at h; obtain ⟨fields, hu, _⟩ := h; simp [run_underlying hu, TD.agg]
  | other =>
    rw [hd] at h
    obtain ⟨d, hu, h1, h2⟩ := h
    cases d <;> first | (exact absurd rfl (h1 _)) | (exact absurd rfl (h2 _ _)) | simp [run_underlying hu, TD.agg]
  | func => rw [hd] at h; obtain ⟨a, b, c, hu⟩ := h; simp [run_underlying hu, TD.agg]
  | _ => rw [hd] at h; simp only [DescOk] at h; simp [run_underlying h, TD.agg]

theorem size_run {P : Program} {T : Tab} (hT : TabOk P T) {t n : Nat} (h : T.size t = some n) (w : World) : (sizeOf t).run P w = .ok n w := by
  unfold Tab.size at h
  split at h
  · rename_i r hr
    cases h
    obtain ⟨i, z, h1, h2, _⟩ := (hT t r hr).info
    simp [sizeOf, typeInfo, h1, h2]
  · cases h
theorem size_row {T : Tab} {t n : Nat} (h : T.size t = some n) : ∃ r, T.row t = some r ∧ r.size = n := by
  unfold Tab.size at h
  split at h
  · rename_i r hr; cases h; exact ⟨r, hr, rfl⟩
  · cases h
theorem desc_row {T : Tab} {t : Nat} {d : TD} (h : T.desc t = d) (hd : d ≠ .other) : ∃ r, T.row t = some r ∧ r.desc = d := by
  unfold Tab.desc at h
  split at h
  · rename_i r hr; exact ⟨r, hr, h⟩
  · exact absurd h.symm hd
theorem desc_ok {P : Program} {T : Tab} (hT : TabOk P T) {t : Nat} {d : TD} (h : T.desc t = d) (hd : d ≠ .other) : DescOk P t d := by
  obtain ⟨r, hr, rfl⟩ := desc_row h hd
  exact (hT t r hr).desc

/-! ### A part of cells -/
theorem extract_list (us : List Value) (a b : Nat) : us.toArray.extract a b = ((us.drop a).take (b - a)).toArray := by
  apply Array.ext'
  simp

theorem part_rel {P : Program} {T : Tab} (hT : TabOk P T) {μ : Nat → Pl} {F : Nat → Prop} {w : World} {t : Nat} {cs : List AV} {off : Nat} {x : AV} {us : List Value}
    (h : partE T t cs off = some x) (hv : VRelL μ F w cs us) (h1 : ∀ u ∈ us, u.oneCell' = true) (w' : World) :
    ∃ v, (part t us.toArray off).run P w' = .ok v w' ∧ VRel μ F w x v := by
  unfold partE at h
  split at h
  · cases h
  · rename_i n hn
    obtain ⟨r, hr, hrn⟩ := size_row hn
    have ha := agg_run hT hr w'
    have hs := size_run hT hn w'
    split at h
    · rename_i hagg
      split at h
      · rename_i hle
        cases h
        refine ⟨.agg ((us.drop off).take n).toArray, ?_, ?_⟩
        · simp [part, ha, hagg, hs, extract_list]
        · simp only [VRel]
          exact ⟨_, rfl, vrelL_take (vrelL_drop hv off) n, fun u hu => h1 u (List.mem_of_mem_drop (List.mem_of_mem_take hu))⟩
      · cases h
    · rename_i hagg
      obtain ⟨v, hv1, hv2⟩ := vrelL_get hv h
      refine ⟨v, ?_, hv2⟩
      simp [part, ha, hagg, hv1]

/-! ### Loads -/
theorem addr_add (b o j : Nat) : (⟨b, o, none⟩ : Addr).add j = ⟨b, o + j, none⟩ := by unfold Addr.add; split <;> simp_all

theorem load_rel {P : Program} {T : Tab} (hT : TabOk P T) {μ : Nat → Pl} {F : Nat → Prop} {w : World} {t : Nat} {cs : List AV} {off b base : Nat} {x : AV} {us : List Value}
    (h : partE T t cs off = some x) (hv : VRelL μ F w cs us) (h1 : ∀ u ∈ us, u.oneCell' = true)
    (hc : ∀ (j : Nat) (u : Value), us[j]? = some u → w.cell? ⟨b, base + j, none⟩ = some u) :
    ∃ v, (Instr.loadAt t (.pointer (some ⟨b, base + off, none⟩))).run P w = .ok v w ∧ VRel μ F w x v := by
  unfold partE at h
  split at h
  · cases h
  · rename_i n hn
    obtain ⟨r, hr, hrn⟩ := size_row hn
    have ha := agg_run hT hr w
    have hs := size_run hT hn w
    split at h
    · rename_i hagg
      split at h
      · rename_i hle
        cases h
        have hlen : ((us.drop off).take n).length = n := by simp [vrelL_len hv]; omega
        have hl := run_loadCells_list (P := P) w ⟨b, base + off, none⟩ ((us.drop off).take n) (fun j v hj => by
          have hjn : j < n := by obtain ⟨h2, _⟩ := List.getElem?_eq_some_iff.1 hj; omega
          rw [List.getElem?_take_of_lt hjn, List.getElem?_drop] at hj
          rw [addr_add, Nat.add_assoc]
          exact hc _ _ hj)
        rw [hlen] at hl
        refine ⟨.agg ((us.drop off).take n).toArray, ?_, ?_⟩
        · simp [Instr.loadAt, Instr.sureAddr, loadVar, ha, hagg, hs, hl]
        · simp only [VRel]
          exact ⟨_, rfl, vrelL_take (vrelL_drop hv off) n, fun u hu => h1 u (List.mem_of_mem_drop (List.mem_of_mem_take hu))⟩
      · cases h
    · rename_i hagg
      obtain ⟨v, hv1, hv2⟩ := vrelL_get hv h
      refine ⟨v, ?_, hv2⟩
      have := hc off v hv1
      simp [Instr.loadAt, Instr.sureAddr, loadVar, ha, hagg, load, Sem.run, this]

/-- An element of a place. -/
theorem lies_get {F : Nat → Prop} {w : World} {t : Ty} {xs : List t.den} {b o i : Nat} (h : Lies F w t xs b o) (hi : i < xs.length) :
    ∃ us, Enc F w t (xs.getD i t.dflt) us ∧ us.length = t.sz ∧ ∀ (j : Nat) (u : Value), us[j]? = some u → w.cell? ⟨b, o + i * t.sz + j, none⟩ = some u := by
  have : xs[i]? = some (xs.getD i t.dflt) := by simp [List.getD, List.getElem?_eq_getElem hi]
  exact h i _ this

theorem loadE_rel {P : Program} {T : Tab} (hT : TabOk P T) {w : World} {hp : Nat → LObj} {nx : Nat} {μ : Nat → Pl} {F : Nat → Prop} (hi : HInv w hp nx μ F) {t : Nat} {p x : AV} {v : Value}
    (h : loadE T hp t p = some x) (hv : VRel μ F w p v) : ∃ u, (Instr.loadAt t v).run P w = .ok u w ∧ VRel μ F w x u := by
  cases p <;> simp only [loadE] at h <;> try cases h
  case ptr k off =>
    simp only [VRel] at hv
    obtain ⟨b, hb, rfl⟩ := hv
    have hk : k < nx := hi.lt (b := b) (by rw [hb]; rfl)
    have ho := hi.obj k hk
    split at h
    · rename_i cs hcs
      rw [hcs, hb] at ho
      simp only [ORel] at ho
      obtain ⟨us, E, fz, h1, h2, h3, h4, _⟩ := ho
      have := load_rel (P := P) hT (b := b) (base := 0) h h3 h4 (fun j u hj => by simp [World.cell?, h1, hj])
      simpa using this
    · cases h
  case rptr k t' i off =>
    simp only [VRel] at hv
    obtain ⟨b, o, len, cap, hk, hlt, rfl⟩ := hv
    have hkn : k < nx := by
      by_cases hlt : k < nx
      · exact hlt
      · rw [hi.top k (by omega)] at hk; cases hk
    have ho := hi.obj k hkn
    rw [hk] at ho
    obtain ⟨τ, xs, h3, h4, h5, h6, h7, h8⟩ := sz_row ho
    rw [h3] at h
    simp only at h
    split at h
    · rename_i he
      subst he
      have hl := row_lies (F' := F) (fun _ h => h) (h8 b o rfl (by omega))
      obtain ⟨us, e1, e2, e3⟩ := lies_get hl (by omega : i < xs.length)
      exact load_rel hT h (flat_rel _ _ _ e1) e1.one e3
    · cases h
  case lptr τ xs i off =>
    simp only [VRel] at hv
    obtain ⟨b, o, h1, h2, h3, rfl⟩ := hv
    obtain ⟨us, e1, e2, e3⟩ := lies_get h2 h3
    exact load_rel hT h (flat_rel _ _ _ e1) e1.one e3

/-! ### Stores -/
theorem setCells_world (b : Nat) : ∀ (vs : List Value) (o : Nat) (w : World), (w.setCells b o vs).os = w.os ∧ (w.setCells b o vs).tape = w.tape ∧ (w.setCells b o vs).output = w.output ∧ (w.setCells b o vs).heap.size = w.heap.size ∧
    ∀ k, k ≠ b → (w.setCells b o vs).heap[k]? = w.heap[k]?
  | [], _, w => ⟨rfl, rfl, rfl, rfl, fun _ _ => rfl⟩
  | v :: r, o, w => by
    obtain ⟨h1, h2, h3, h4, h5⟩ := setCells_world b r (o + 1) (w.setCell ⟨b, o, none⟩ v)
    rw [World.setCells]
    exact ⟨h1, h2, h3, by rw [h4]; simp [World.setCell], fun k hk => by
      rw [h5 k hk]
      simp only [World.setCell]
      rw [Array.getElem?_modify]
      rw [if_neg (by omega)]⟩

theorem setCells_block (b : Nat) (E : TypeId) (fz : Nat × Nat) : ∀ (vs : List Value) (o : Nat) (w : World) (us : List Value), w.heap[b]? = some (.cells us.toArray E fz) → o + vs.length ≤ us.length →
    (w.setCells b o vs).heap[b]? = some (.cells (us.take o ++ vs ++ us.drop (o + vs.length)).toArray E fz)
  | [], o, w, us, h, _ => by simpa [World.setCells] using h
  | v :: r, o, w, us, h, hl => by
    simp only [List.length_cons] at hl
    have h2 : (w.setCell ⟨b, o, none⟩ v).heap[b]? = some (.cells (us.set o v).toArray E fz) := by
      simp [World.setCell, Array.getElem?_modify, h]
    rw [World.setCells, setCells_block b E fz r (o + 1) _ _ h2 (by simp; omega)]
    congr 3
    have ho : o < us.length := by omega
    have ht : (us.take o).length = o := by simp; omega
    rw [List.take_set, List.drop_set_of_lt (by omega), List.take_succ_eq_append_getElem ho, List.set_append_right _ _ (by omega), ht, Nat.sub_self]
    simp only [List.set_cons_zero, List.append_assoc, List.length_cons, List.cons_append, List.nil_append]
    rw [show o + 1 + r.length = o + (r.length + 1) by omega]

theorem splice_rel {μ : Nat → Pl} {F : Nat → Prop} {w : World} {cs ds : List AV} {us vs : List Value} (h : VRelL μ F w cs us) (h' : VRelL μ F w ds vs) (off : Nat) :
    VRelL μ F w (splice cs off ds) (us.take off ++ vs ++ us.drop (off + vs.length)) := by
  unfold splice
  rw [vrelL_len h']
  exact vrelL_append (vrelL_append (vrelL_take h off) h') (vrelL_drop h _)

theorem free_set {us vs : List Value} {off : Nat} {fz : Nat × Nat} (hle : off + vs.length ≤ us.length) (h : ∀ i, i < us.length → ¬ (fz.1 ≤ i ∧ i < fz.2)) :
    ∀ i, i < (us.take off ++ vs ++ us.drop (off + vs.length)).length → ¬ (fz.1 ≤ i ∧ i < fz.2) := fun i hi => h i (by simp at hi; omega)

theorem store_run {P : Program} {T : Tab} (hT : TabOk P T) {t n : Nat} (hn : T.size t = some n) {w : World} {b o : Nat} {us : List Value} {E : TypeId} {fz : Nat × Nat} {v : Value}
    (hb : w.heap[b]? = some (.cells us.toArray E fz)) (hfz : ∀ i, i < us.length → ¬ (fz.1 ≤ i ∧ i < fz.2)) (hvn : v.cells.size = n) (hle : o + n ≤ us.length) (h1 : ∀ u ∈ v.cells.toList, u.oneCell' = true) :
    (Instr.storeAt t (.pointer (some ⟨b, o, none⟩)) v).run P w = .ok () (w.setCells b o v.cells.toList) := by
  have hs := size_run hT hn w
  have hst := run_storeCells_cells (P := P) b o v.cells.toList 0 w (fun j hj => by
      have : o + j < us.length := by simp at hj; omega
      simp [World.cell?, hb, List.getElem?_eq_getElem this]) (fun j hj => by
      have : o + j < us.length := by simp at hj; omega
      have := hfz _ this
      simp only [World.frozen?, hb]
      simp
      intro h1
      simp at this
      omega) h1
  simp only [Nat.add_zero] at hst
  simp [Instr.storeAt, Instr.sureAddr, storeVar, hs, hvn, hst]

theorem storeE_rel {P : Program} {T : Tab} (hT : TabOk P T) {c : Cx} {st : St} {a : Act} {w : World} {μ : Nat → Pl} {F : Nat → Prop} (hi : Inv c st a w μ F) {t : Nat} {p x : AV} {v u : Value} {f : Eff}
    (h : storeE T st.hp t p x = some f) (hv : VRel μ F w p v) (hu : VRel μ F w x u) :
    ∃ w', (Instr.storeAt t v u).run P w = .ok () w' ∧ Inv c (st.apply f).2 a w' μ F ∧ (st.apply f).1 = .undef := by
  unfold storeE at h
  split at h
  · rename_i n vs hn hvs
    obtain ⟨hr, h1⟩ := cells_rel hvs hu
    split at h
    · rename_i hlen
      have hsz : u.cells.size = n := by rw [← hlen, ← vrelL_len hr]; simp
      cases p <;> simp only at h <;> try cases h
      case ptr k off =>
        simp only [VRel] at hv
        obtain ⟨b, hb, rfl⟩ := hv
        have hk : k < st.nx := hi.h.lt (b := b) (by rw [hb]; rfl)
        have ho := hi.h.obj k hk
        split at h
        · rename_i cs hcs
          rw [hcs, hb] at ho
          simp only [ORel] at ho
          obtain ⟨us, E, fz, g1, g2, g3, g4, g5⟩ := ho
          split at h
          · rename_i hle
            cases h
            have hul := vrelL_len g3
            have hulen : u.cells.toList.length = n := by simpa using hsz
            refine ⟨_, store_run hT hn g1 g2 hsz (by omega) h1, ?_, rfl⟩
            obtain ⟨e1, e2, e3, e4, e5⟩ := setCells_world b u.cells.toList off w
            have hFw : ∀ b', F b' → (w.setCells b off u.cells.toList).heap[b']? = w.heap[b']? := fun b' hb' => e5 b' (fun e => (hi.h.out k b (by rw [hb]; rfl)).1 (e ▸ hb'))
            refine inv_upd hi hk ⟨e1, e2, e3, by omega, fun b' _ hne => e5 b' (fun e => hne (by rw [hb, e]; rfl))⟩ ?_
            rw [hb]
            simp only [ORel]
            refine ⟨_, E, fz, setCells_block b E fz _ off w us g1 (by omega), free_set (by omega) g2, ?_, ?_, g5⟩
            · exact vrelL_mono (fun _ h => h) hFw (fun _ _ => rfl) (splice_rel g3 hr off)
            · intro y hy
              simp only [List.mem_append] at hy
              rcases hy with (hy | hy) | hy
              · exact g4 y (List.mem_of_mem_take hy)
              · exact h1 y hy
              · exact g4 y (List.mem_of_mem_drop hy)
          · cases h
        · cases h
      case rptr k t' i off =>
        simp only [VRel] at hv
        obtain ⟨b, o, len, cap, hk, hlt, rfl⟩ := hv
        have hkn : k < st.nx := by
          by_cases hlt : k < st.nx
          · exact hlt
          · rw [hi.h.top k (by omega)] at hk; cases hk
        have ho := hi.h.obj k hkn
        rw [hk] at ho
        obtain ⟨τ, xs, h3, h4, h5, h6, h7, h8⟩ := sz_row ho
        rw [h3] at h
        simp only at h
        split at h
        · rename_i he
          subst he
          split at h
          · rename_i hle
            split at h
            · rename_i ys hys
              cases h
              have hcap : cap ≠ 0 := by omega
              obtain ⟨us, E, fz, g1, g2, g3, g4, g5⟩ := h8 b o rfl hcap
              have hown : (μ k).owns = some b := by simp [hk, Pl.owns, hcap]
              have hulen : u.cells.toList.length = n := by simpa using hsz
              have hfit : o + i * τ.sz + τ.sz ≤ us.length := by
                have : (i + 1) * τ.sz ≤ cap * τ.sz := Nat.mul_le_mul_right _ (by omega)
                rw [Nat.add_mul] at this
                omega
              refine ⟨_, store_run hT hn g1 g2 hsz (by omega) h1, ?_, rfl⟩
              obtain ⟨e1, e2, e3, e4, e5⟩ := setCells_world b u.cells.toList (o + i * τ.sz + off) w
              have hFw : ∀ b', F b' → (w.setCells b (o + i * τ.sz + off) u.cells.toList).heap[b']? = w.heap[b']? := fun b' hb' => e5 b' (fun e => (hi.h.out k b hown).1 (e ▸ hb'))
              refine inv_upd hi hkn ⟨e1, e2, e3, by omega, fun b' _ hne => e5 b' (fun e => hne (by rw [hown, e]))⟩ ?_
              rw [hk]
              unfold storeRow at hys
              split at hys
              · rename_i x' hx'
                cases hys
                simp only [ORel]
                refine ⟨trivial, by simp [h5], h6, fun h => (by cases h), fun b' o' hbo _ => ?_⟩
                cases hbo
                refine ⟨_, E, fz, setCells_block b E fz _ _ w us g1 (by omega), free_set (by omega) g2, by simp; omega, fun j y hy => ?_, g5⟩
                have hxi : xs[i]? = some (xs.getD i τ.dflt) := by simp [List.getD, List.getElem?_eq_getElem (show i < xs.length by omega)]
                by_cases hji : j = i
                · subst hji
                  obtain ⟨zs, z1, z2, z3⟩ := g4 j _ hxi
                  have hyx : y = x' := by
                    rw [List.getElem?_set_self (by omega)] at hy
                    exact (Option.some.inj hy).symm
                  subst hyx
                  have henc := unflatAll_rel hx' (splice_rel (flat_rel (μ := μ) _ _ _ z1) hr off)
                  refine ⟨_, henc.mono (fun _ h => h) hFw, by simp [z2]; omega, fun l q hq => ?_⟩
                  rw [hulen] at hq ⊢
                  rw [List.append_assoc] at hq ⊢
                  by_cases hl1 : l < off
                  · rw [List.getElem?_append_left (by simp [z2]; omega), List.getElem?_take_of_lt hl1] at hq
                    rw [List.getElem?_append_left (by simp; omega), List.getElem?_take_of_lt (by omega)]
                    exact z3 l q hq
                  · rw [List.getElem?_append_right (by simp [z2]; omega)] at hq
                    simp only [List.length_take, z2, show min off τ.sz = off by omega] at hq
                    rw [List.getElem?_append_right (by simp; omega)]
                    simp only [List.length_take, show min (o + j * τ.sz + off) us.length = o + j * τ.sz + off by omega]
                    rw [show o + j * τ.sz + l - (o + j * τ.sz + off) = l - off by omega]
                    by_cases hl2 : l - off < n
                    · rw [List.getElem?_append_left (by omega)] at hq ⊢
                      exact hq
                    · rw [List.getElem?_append_right (by omega)] at hq ⊢
                      rw [hulen] at hq ⊢
                      rw [List.getElem?_drop] at hq ⊢
                      have := z3 _ q hq
                      rw [← this]
                      congr 1
                      omega
                · rw [List.getElem?_set_ne (by omega)] at hy
                  obtain ⟨zs, z1, z2, z3⟩ := g4 j y hy
                  refine ⟨zs, z1.mono (fun _ h => h) hFw, z2, fun l q hq => ?_⟩
                  have hl : l < τ.sz := by obtain ⟨h2, _⟩ := List.getElem?_eq_some_iff.1 hq; omega
                  have hold := z3 l q hq
                  rw [hulen, List.append_assoc]
                  by_cases hjl : j < i
                  · have : (j + 1) * τ.sz ≤ i * τ.sz := Nat.mul_le_mul_right _ (by omega)
                    rw [Nat.add_mul] at this
                    rw [List.getElem?_append_left (by simp; omega), List.getElem?_take_of_lt (by omega)]
                    exact hold
                  · have : (i + 1) * τ.sz ≤ j * τ.sz := Nat.mul_le_mul_right _ (by omega)
                    rw [Nat.add_mul] at this
                    rw [List.getElem?_append_right (by simp; omega), List.getElem?_append_right (by simp; omega), List.getElem?_drop]
                    rw [← hold]
                    congr 1
                    simp
                    omega
              · cases hys
            · cases h
          · cases h
        · cases h
    · cases h
  · cases h

end Go.Proofs.YtfepkpindchleaaE
