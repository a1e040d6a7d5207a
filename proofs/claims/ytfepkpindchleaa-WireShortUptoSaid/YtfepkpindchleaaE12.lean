/- The engine, part 12: append, copy. -/
import Derived.Test.YtfepkpindchleaaE11
namespace Go.Proofs.YtfepkpindchleaaE
open Go
set_option linter.unusedVariables false
set_option linter.unusedSimpArgs false

theorem hinv_there {w : World} {hp : Nat → LObj} {nx : Nat} {μ : Nat → Pl} {F : Nat → Prop} (hi : HInv w hp nx μ F) {k : Nat} (h : μ k ≠ .none) : k < nx := by
  by_cases hlt : k < nx
  · exact hlt
  · exact absurd (hi.top k (by omega)) h

/-- What a slice holds, as cells. -/
theorem olds_rel {P : Program} {w : World} {F : Nat → Prop} {τ : Ty} {xs : List τ.den} {A : Option Addr} (cap : Nat) (h : xs ≠ [] → ∃ b o, A = some ⟨b, o, none⟩ ∧ Lies F w τ xs b o) :
    ∃ olds, EncL F w τ xs olds ∧ (Builtin.firstCells τ.sz xs.length (.slice A xs.length cap)).run P w.drew = .ok olds.toArray w.drew := by
  by_cases hne : xs = []
  · subst hne
    refine ⟨[], by simp [EncL], ?_⟩
    cases A with
    | none => exact run_firstCells_none w.drew _ _ _ _
    | some ad => simp [Builtin.firstCells, loadCells, loadCellsFrom]
  · obtain ⟨b, o, rfl, hl⟩ := h hne
    obtain ⟨news, n1, n2⟩ := lies_encL hl
    exact ⟨news, n1, run_firstCells_some w.drew _ _ _ _ _ news (encL_len n1) (fun j v hj => by rw [addr_add]; simpa using n2 j v hj)⟩

theorem drew_grew (w : World) (o : Obj) : Grew w (w.drew.alloc o) := (Grew.drew w).trans (Grew.push w.drew o)
theorem drew_new (w : World) (o : Obj) : (w.drew.alloc o).heap[w.heap.size]? = some o := by simp [World.alloc, World.drew, -World.alloc_eq, -World.drew_eq]
theorem drew_size (w : World) (o : Obj) : (w.drew.alloc o).heap.size = w.heap.size + 1 := by simp

/-- There is room: the cells are stored behind. -/
theorem room_run {P : Program} {T : Tab} (hT : TabOk P T) {w : World} {t e tx ty : Nat} {row : Row} (ht : P.underlying t = some (.slice e)) (hrow : T.row e = some row) {τ : Ty} (hsz : τ.sz = row.size)
    {b o sLen sCap n : Nat} {us news : List Value} {E : TypeId} {fz : Nat × Nat} {u : Value} (hs : Src P τ.sz tx u n news w) (hroom : sLen + n ≤ sCap)
    (hb : w.heap[b]? = some (.cells us.toArray E fz)) (hfz : ∀ i, i < us.length → ¬ (fz.1 ≤ i ∧ i < fz.2)) (hle : o + sLen * τ.sz + news.length ≤ us.length) :
    (Builtin.append_ #[t, tx] ty #[.slice (some ⟨b, o, none⟩) sLen sCap, u]).run P w = .ok (.slice (some ⟨b, o, none⟩) (sLen + n) sCap) (w.setCells b (o + sLen * τ.sz) news) := by
  obtain ⟨i0, z, e1, e2, e3, e4, e5, e6, e7, e8⟩ := (hT e row hrow).info
  rw [hsz, ← e2] at hs
  have := run_append_room_src (P := P) w t tx ty e i0 ht e1 b o sLen sCap u n news hs hroom (fun j hj => by
    rw [hsz, ← e2] at hle
    have : o + sLen * i0.size + j < us.length := by omega
    simp [World.cell?, hb, List.getElem?_eq_getElem this]) (fun j hj => by
    rw [hsz, ← e2] at hle
    have : o + sLen * i0.size + j < us.length := by omega
    have h3 := hfz _ this
    simp only [World.frozen?, hb]
    simp
    intro h4
    simp at h3
    omega)
  rw [e2, ← hsz] at this
  exact this

theorem nothing_run {P : Program} {T : Tab} (hT : TabOk P T) {w : World} {t e tx ty : Nat} {row : Row} (ht : P.underlying t = some (.slice e)) (hrow : T.row e = some row) {τ : Ty} (hsz : τ.sz = row.size)
    {A : Option Addr} {sLen sCap : Nat} {news : List Value} {u : Value} (hs : Src P τ.sz tx u 0 news w) (hle : sLen ≤ sCap) :
    (Builtin.append_ #[t, tx] ty #[.slice A sLen sCap, u]).run P w = .ok (.slice A sLen sCap) w := by
  obtain ⟨i0, z, e1, e2, e3, e4, e5, e6, e7, e8⟩ := (hT e row hrow).info
  have hn : news = [] := List.length_eq_zero_iff.1 (by have := hs.newsLen; simpa using this)
  subst hn
  rw [hsz, ← e2] at hs
  exact run_append_nothing w t tx ty e i0 ht e1 A sLen sCap hle u hs

/-- A row that grew into a new block. -/
theorem inv_grown {P : Program} {c : Cx} {st : St} {a : Act} {w : World} {μ : Nat → Pl} {F : Nat → Prop} (hi : Inv c st a w μ F) {k : Nat} (hk : k < st.nx) {al : Option (Nat × Nat)} {l cp sz : Nat} (hrow : μ k = .row al l cp sz)
    {τ : Ty} {xs : List τ.den} {cells us : List Value} {e : TypeId} {cap' : Nat} (hn : EncL F w τ xs cells) (hpre : ∃ rest, us = cells ++ rest) (hcap : xs.length ≤ cap') (hfit : cap' * τ.sz ≤ us.length) (hby : ByteOk τ e) :
    Inv c ((st.kill [k]).upd k (.row τ xs)) a (w.drew.alloc (.cells us.toArray e)) (setPl μ k (.row (some (w.heap.size, 0)) xs.length cap' τ.sz)) F ∧
      VRel (setPl μ k (.row (some (w.heap.size, 0)) xs.length cap' τ.sz)) F (w.drew.alloc (.cells us.toArray e)) (.rowA k) (.slice (some ⟨w.heap.size, 0, none⟩) xs.length cap') := by
  have hg := drew_grew w (.cells us.toArray e)
  refine ⟨inv_app hi hk hrow (hg.changed _) ?_ ?_, ?_⟩
  · simp only [ORel]
    refine ⟨trivial, trivial, hcap, (fun h => by cases h), fun b o hbo _ => ?_⟩
    cases hbo
    refine ⟨us, e, (0, 0), drew_new w _, by simp, by omega, fun i x hx => ?_, hby⟩
    obtain ⟨rest, rfl⟩ := hpre
    obtain ⟨vs, v1, v2, v3⟩ := encL_get hn i x hx
    refine ⟨vs, v1.mono (fun _ h => h) (fun b hb => hg.block b (hi.h.inn b hb)), v2, fun j u hj => ?_⟩
    have := v3 j u hj
    rw [Nat.zero_add, List.getElem?_append_left (by obtain ⟨h2, _⟩ := List.getElem?_eq_some_iff.1 this; exact h2)]
    exact this
  · intro b hb
    simp only [Pl.owns] at hb
    split at hb
    · cases hb
    · cases hb
      exact .inr ⟨Nat.le_refl _, by rw [drew_size]; omega⟩
  · simp only [VRel]
    exact ⟨_, _, _, _, _, setPl_at _ _ _, rfl, fun _ => rfl⟩

theorem appendE_rel {P : Program} {T : Tab} (hT : TabOk P T) {R : Type} {K : Eff → Option R} {r : R} {c : Cx} {st : St} {a : Act} {w : World} {μ : Nat → Pl} {F : Nat → Prop} (hi : Inv c st a w μ F) {t tx : Nat} (ty : Nat) {x y : AV} {v u : Value}
    (h : appendE T st.hp st.nx t tx x y K = some r) (hv : VRel μ F w x v) (hu : VRel μ F w y u) : ∃ f, K f = some r ∧ Outc P c st a w (Builtin.append_ #[t, tx] ty #[v, u]) f := by
  unfold appendE at h
  split at h
  · rename_i e hd
    have ht := desc_ok hT hd (by simp)
    simp only [DescOk] at ht
    split at h
    · cases h
    · rename_i row hrow
      split at h
      · cases h
      · rename_i τ hτ
        split at h
        · rename_i hcond
          obtain ⟨hsz, hkind⟩ := hcond
          have hbt : ByteOk τ e := fun hu => (hT e row hrow).byte (.inl (by rw [hτ, hu]))
          split at h
          · cases h
          · rename_i ys hys
            obtain ⟨news, hn, hs⟩ := srcOf_rel hT hi.h hys hu hkind
            have hnl := encL_len hn
            cases x <;> simp only at h <;> try cases h
            case ns =>
              obtain ⟨hfit, hK⟩ := req_some h
              simp only [VRel] at hv
              subst hv
              by_cases hne : ys = []
              · subst hne
                have := inv_row0 hi τ none
                exact ⟨_, hK, _, _, _, F, nothing_run hT ht hrow hsz hs (Nat.le_refl _), this.1, this.2⟩
              · have hpos : 0 < ys.length := List.length_pos_iff.2 hne
                obtain ⟨cap', us, g1, g2, g3, g4, rest, g5⟩ := grow_rel (xs := []) (olds := []) (ty := ty) hT (fun b hb => hi.h.inn b hb) ht hrow hsz (A := none) (sLen := 0) (sCap := 0) rfl (by simp [EncL]) hn
                  (run_firstCells_none w.drew _ _ _ _) hs (by omega) (by simpa using hfit)
                simp only [List.nil_append, Nat.zero_add] at g1 g2 g4
                have hgr := drew_grew w (.cells us.toArray e)
                have := inv_row hi hgr (τ := τ) (xs := ys) (us := us) (E := e) (fz := (0, 0)) (cap := cap') (by rw [drew_size]; omega) (drew_new w _) (by simp) g2 g3 (fun i q hq => by
                  obtain ⟨vs, v1, v2, v3⟩ := encL_get g4 i q hq
                  refine ⟨vs, v1.mono (fun _ h => h) (fun b hb => hgr.block b (hi.h.inn b hb)), v2, fun j z hj => ?_⟩
                  have := v3 j z hj
                  rw [g5, List.getElem?_append_left (by obtain ⟨h2, _⟩ := List.getElem?_eq_some_iff.1 this; exact h2)]
                  exact this)
                exact ⟨_, hK, _, _, _, F, g1, (this hbt).1, (this hbt).2⟩
            case rowA k =>
              have hv0 := hv
              simp only [VRel] at hv
              obtain ⟨al, len, cap, sz, A0, hk, rfl, hA0⟩ := hv
              have hkn : k < st.nx := hinv_there hi.h (by rw [hk]; simp)
              have ho := hi.h.obj k hkn
              rw [hk] at ho
              obtain ⟨τ', xs, h3, h4, h5, h6, h7, h8⟩ := sz_row ho
              rw [h3] at h
              simp only at h
              split at h
              · rename_i hττ
                subst hττ
                replace h : req (fits (xs.length + ys.length) row.bytes) (K (.app k (.row τ' (xs ++ ys)) (.rowA k))) = some r := h
                obtain ⟨hfit, hK⟩ := req_some h
                subst h4 h5
                obtain ⟨A1, cap1, hveq, _, _, hlies⟩ := elemsOf_rel hi.h (t := τ') (xs := xs) (x := .rowA k) (by simp [elemsOf, h3]) hv0
                simp only [Value.slice.injEq] at hveq
                obtain ⟨rfl, _, rfl⟩ := hveq
                by_cases hroom : xs.length + ys.length ≤ cap
                · by_cases hcap : cap = 0
                  · have hx0 : xs = [] := List.length_eq_zero_iff.1 (by omega)
                    have hy0 : ys = [] := List.length_eq_zero_iff.1 (by omega)
                    subst hx0 hy0 hcap
                    refine ⟨_, hK, _, _, setPl μ k (μ k), F, nothing_run hT ht hrow hsz hs (by simp), ?_, ?_⟩
                    · refine inv_app hi hkn hk ((Grew.refl w).changed _) ?_ (fun b hb => .inl hb)
                      rw [hk]
                      have hself : setPl μ k (.row al ([] : List τ'.den).length 0 τ'.sz) = μ := by funext j; by_cases hj : j = k; subst hj; rw [setPl_at]; exact hk.symm; rw [setPl_ne hj]
                      rw [hself]
                      rw [h3] at ho
                      exact ho
                    · simp only [St.apply, VRel]
                      exact ⟨al, _, 0, τ'.sz, A0, by rw [setPl_at]; exact hk, rfl, fun h => absurd rfl h⟩
                  · cases al with
                    | none => exact absurd (h7 rfl) hcap
                    | some bo =>
                      obtain ⟨b, o⟩ := bo
                      have hA := hA0 hcap
                      simp only [rowAddr] at hA
                      subst hA
                      obtain ⟨us, E, fz, g1, g2, g3, g4, g5⟩ := h8 b o rfl hcap
                      have hown : (μ k).owns = some b := by simp [hk, Pl.owns, hcap]
                      have hle : o + xs.length * τ'.sz + news.length ≤ us.length := by
                        rw [hnl, Nat.add_assoc, ← Nat.add_mul]
                        have : (xs.length + ys.length) * τ'.sz ≤ cap * τ'.sz := Nat.mul_le_mul_right _ hroom
                        omega
                      obtain ⟨e1, e2, e3, e4, e5⟩ := setCells_world b news (o + xs.length * τ'.sz) w
                      have hFw : ∀ b', F b' → (w.setCells b (o + xs.length * τ'.sz) news).heap[b']? = w.heap[b']? := fun b' hb' => e5 b' (fun e => (hi.h.out k b hown).1 (e ▸ hb'))
                      refine ⟨_, hK, _, _, setPl μ k (.row (some (b, o)) (xs.length + ys.length) cap τ'.sz), F, room_run hT ht hrow hsz hs hroom g1 g2 hle, ?_, ?_⟩
                      · refine inv_app hi hkn hk ⟨e1, e2, e3, by omega, fun b' _ hne => e5 b' (fun e => hne (by rw [hown, e]))⟩ ?_ (fun b' hb' => .inl ?_)
                        · simp only [ORel]
                          refine ⟨trivial, by simp, hroom, (fun h => by cases h), fun b' o' hbo _ => ?_⟩
                          cases hbo
                          refine ⟨_, E, fz, setCells_block b E fz news _ w us g1 hle, free_set hle g2, by simp; omega, ?_, g5⟩
                          have := row_put g4 hn (Nat.le_refl xs.length) hle hFw
                          intro i q hq
                          exact this i q (by simpa [List.take_of_length_le, List.drop_of_length_le] using hq)
                        · simp only [Pl.owns, hcap, if_false] at hb'
                          rw [hown]; exact hb'
                      · simp only [St.apply, VRel]
                        exact ⟨_, _, _, _, _, setPl_at _ _ _, rfl, fun _ => rfl⟩
                · obtain ⟨olds, o1, o2⟩ := olds_rel (P := P) cap hlies
                  obtain ⟨cap', us, g1, g2, g3, g4, g5⟩ := grow_rel (ty := ty) hT (fun b hb => hi.h.inn b hb) ht hrow hsz rfl o1 hn o2 hs (by omega) hfit
                  have := inv_grown (P := P) hi hkn hk (e := e) g4 g5 (by simpa using g2) g3
                  rw [List.length_append] at this
                  exact ⟨_, hK, _, _, _, F, g1, (this hbt).1, (this hbt).2⟩
              · cases h
            case rowS k off n0 cp =>
              have hv0 := hv
              simp only [VRel] at hv
              obtain ⟨al, len, cap, sz, A, cap', hk, hle0, hcap', rfl, hA'⟩ := hv
              have hkn : k < st.nx := hinv_there hi.h (by rw [hk]; simp)
              have ho := hi.h.obj k hkn
              rw [hk] at ho
              obtain ⟨τ', zs, h3, h4, h5, h6, h7, h8⟩ := sz_row ho
              rw [h3] at h
              simp only at h
              split at h
              · rename_i hττ
                subst hττ
                replace h : req (fits (n0 + ys.length) row.bytes) (bif cp || decide (zs.length < off + n0 + ys.length)
                      then K (.app k (.row τ' ((zs.drop off).take n0 ++ ys)) (.rowA k))
                      else K (.upd k (.row τ' (zs.take (off + n0) ++ ys ++ zs.drop (off + n0 + ys.length))) (.rowS k off (n0 + ys.length) false))) = some r := h
                obtain ⟨hfit, hK⟩ := req_some h
                clear h
                subst h4 h5
                have hxl : ((zs.drop off).take n0).length = n0 := by simp; omega
                obtain ⟨A1, cap1, hveq, _, _, hlies⟩ := elemsOf_rel hi.h (t := τ') (xs := (zs.drop off).take n0) (x := .rowS k off n0 cp) (by simp [elemsOf, h3]) hv0
                simp only [Value.slice.injEq] at hveq
                obtain ⟨rfl, _, rfl⟩ := hveq
                cases hb0 : (cp || decide (zs.length < off + n0 + ys.length)) with
                | true =>
                  rw [hb0] at hK
                  simp only [cond_true] at hK
                  by_cases hroom : n0 + ys.length ≤ cap'
                  · by_cases hcap : cap' = 0
                    · have hn00 : n0 = 0 := by omega
                      have hy0 : ys = [] := List.length_eq_zero_iff.1 (by omega)
                      subst hy0
                      refine ⟨_, hK, _, _, setPl μ k (.row none 0 0 τ'.sz), F, nothing_run hT ht hrow hsz hs (by omega), ?_, ?_⟩
                      · refine inv_app hi hkn hk ((Grew.refl w).changed _) ?_ (fun b hb => by simp [Pl.owns] at hb)
                        subst hn00
                        simp only [ORel]
                        exact ⟨trivial, by simp, Nat.le_refl _, fun _ => trivial, (fun b o hbo _ => by cases hbo)⟩
                      · simp only [St.apply, VRel]
                        subst hn00
                        exact ⟨_, _, _, _, A, setPl_at _ _ _, by rw [hcap], fun h => absurd rfl h⟩
                    · obtain ⟨b, o, rfl, rfl⟩ := hA' hcap
                      have hcapne : cap ≠ 0 := by
                        intro h0
                        apply hcap
                        rw [hcap']
                        split <;> omega
                      obtain ⟨us, E, fz, g1, g2, g3, g4, g5⟩ := h8 b o rfl hcapne
                      have hown : (μ k).owns = some b := by simp [hk, Pl.owns, hcapne]
                      have hcapoff : off + cap' ≤ cap := by
                        rw [hcap']
                        split <;> omega
                      have hfit2 : o + off * τ'.sz + cap' * τ'.sz ≤ us.length := by
                        have : (off + cap') * τ'.sz ≤ cap * τ'.sz := Nat.mul_le_mul_right _ hcapoff
                        rw [Nat.add_mul] at this
                        omega
                      have hle : o + off * τ'.sz + n0 * τ'.sz + news.length ≤ us.length := by
                        rw [hnl]
                        have : (n0 + ys.length) * τ'.sz ≤ cap' * τ'.sz := Nat.mul_le_mul_right _ hroom
                        rw [Nat.add_mul] at this
                        omega
                      obtain ⟨e1, e2, e3, e4, e5⟩ := setCells_world b news (o + off * τ'.sz + n0 * τ'.sz) w
                      have hFw : ∀ b', F b' → (w.setCells b (o + off * τ'.sz + n0 * τ'.sz) news).heap[b']? = w.heap[b']? := fun b' hb' => e5 b' (fun e => (hi.h.out k b hown).1 (e ▸ hb'))
                      have g4' : ∀ (i : Nat) (q : τ'.den), ((zs.drop off).take n0)[i]? = some q → ∃ vs, Enc F w τ' q vs ∧ vs.length = τ'.sz ∧ ∀ (j : Nat) (u : Value), vs[j]? = some u → us[o + off * τ'.sz + i * τ'.sz + j]? = some u := by
                        intro i q hq
                        have hin : i < n0 := by obtain ⟨h2, _⟩ := List.getElem?_eq_some_iff.1 hq; omega
                        rw [List.getElem?_take_of_lt hin, List.getElem?_drop] at hq
                        obtain ⟨vs, v1, v2, v3⟩ := g4 _ q hq
                        refine ⟨vs, v1, v2, fun j z hj => ?_⟩
                        have := v3 j z hj
                        rw [Nat.add_mul] at this
                        rw [← this]
                        congr 1
                        omega
                      refine ⟨_, hK, _, _, setPl μ k (.row (some (b, o + off * τ'.sz)) (n0 + ys.length) cap' τ'.sz), F, room_run hT ht hrow hsz hs hroom g1 g2 hle, ?_, ?_⟩
                      · refine inv_app hi hkn hk ⟨e1, e2, e3, by omega, fun b' _ hne => e5 b' (fun e => hne (by rw [hown, e]))⟩ ?_ (fun b' hb' => .inl ?_)
                        · simp only [ORel]
                          refine ⟨trivial, by rw [List.length_append, hxl], hroom, (fun h => by cases h), fun b' o' hbo _ => ?_⟩
                          cases hbo
                          refine ⟨_, E, fz, setCells_block b E fz news _ w us g1 hle, free_set hle g2, by simp; omega, ?_, g5⟩
                          have := row_put g4' hn (by rw [hxl]; exact Nat.le_refl n0) hle hFw
                          intro i q hq
                          have htk : ((zs.drop off).take n0).take n0 = (zs.drop off).take n0 := List.take_of_length_le (by omega)
                          have hdr : ((zs.drop off).take n0).drop (n0 + ys.length) = [] := List.drop_of_length_le (by omega)
                          exact this i q (by rw [htk, hdr, List.append_nil]; exact hq)
                        · simp only [Pl.owns, hcap, if_false] at hb'
                          rw [hown]; exact hb'
                      · simp only [St.apply, VRel]
                        exact ⟨_, _, _, _, _, setPl_at _ _ _, rfl, fun _ => rfl⟩
                  · obtain ⟨olds, o1, o2⟩ := olds_rel (P := P) cap' hlies
                    rw [hxl] at o2
                    obtain ⟨cap2, us, g1, g2, g3, g4, g5⟩ := grow_rel (ty := ty) hT (fun b hb => hi.h.inn b hb) ht hrow hsz hxl o1 hn o2 hs (by omega) hfit
                    have := inv_grown (P := P) hi hkn hk (e := e) g4 g5 (by rw [List.length_append, hxl]; exact g2) g3
                    rw [List.length_append, hxl] at this
                    exact ⟨_, hK, _, _, _, F, g1, (this hbt).1, (this hbt).2⟩
                | false =>
                  rw [hb0] at hK
                  simp only [cond_false] at hK
                  simp only [Bool.or_eq_false_iff, decide_eq_false_iff_not] at hb0
                  obtain ⟨rfl, hlt⟩ := hb0
                  simp only [Bool.false_eq_true, if_false] at hcap'
                  have hroom : n0 + ys.length ≤ cap' := by omega
                  have hnewlen : (zs.take (off + n0) ++ ys ++ zs.drop (off + n0 + ys.length)).length = zs.length := by simp; omega
                  have hval : ∀ (μ' : Nat → Pl) (w' : World), μ' k = μ k → VRel μ' F w' (.rowS k off (n0 + ys.length) false) (.slice A (n0 + ys.length) cap') := by
                    intro μ' w' hμ'
                    simp only [VRel]
                    exact ⟨al, zs.length, cap, τ'.sz, A, cap', by rw [hμ']; exact hk, by omega, by simpa using hcap', rfl, hA'⟩
                  by_cases hcap : cap' = 0
                  · have hn00 : n0 = 0 := by omega
                    have hy0 : ys = [] := List.length_eq_zero_iff.1 (by omega)
                    subst hy0
                    refine ⟨_, hK, _, _, μ, F, nothing_run hT ht hrow hsz hs (by omega), ?_, ?_⟩
                    · refine inv_upd hi hkn ((Grew.refl w).changed _) ?_
                      have hsame : zs.take (off + n0) ++ [] ++ zs.drop (off + n0 + ([] : List τ'.den).length) = zs := by simp
                      rw [hsame, hk]
                      rw [h3] at ho
                      exact ho
                    · simp only [St.apply]
                      have := hval μ w rfl
                      simpa using this
                  · obtain ⟨b, o, rfl, rfl⟩ := hA' hcap
                    have hcapne : cap ≠ 0 := by omega
                    obtain ⟨us, E, fz, g1, g2, g3, g4, g5⟩ := h8 b o rfl hcapne
                    have hown : (μ k).owns = some b := by simp [hk, Pl.owns, hcapne]
                    have hle : o + off * τ'.sz + n0 * τ'.sz + news.length ≤ us.length := by
                      rw [hnl]
                      have : (off + n0 + ys.length) * τ'.sz ≤ cap * τ'.sz := Nat.mul_le_mul_right _ (by omega)
                      rw [Nat.add_mul, Nat.add_mul] at this
                      omega
                    obtain ⟨e1, e2, e3, e4, e5⟩ := setCells_world b news (o + off * τ'.sz + n0 * τ'.sz) w
                    have hFw : ∀ b', F b' → (w.setCells b (o + off * τ'.sz + n0 * τ'.sz) news).heap[b']? = w.heap[b']? := fun b' hb' => e5 b' (fun e => (hi.h.out k b hown).1 (e ▸ hb'))
                    refine ⟨_, hK, _, _, μ, F, room_run hT ht hrow hsz hs hroom g1 g2 hle, ?_, hval μ _ rfl⟩
                    refine inv_upd hi hkn ⟨e1, e2, e3, by omega, fun b' _ hne => e5 b' (fun e => hne (by rw [hown, e]))⟩ ?_
                    rw [hk]
                    simp only [ORel]
                    refine ⟨trivial, hnewlen.symm, h6, (fun h => by cases h), fun b' o' hbo _ => ?_⟩
                    cases hbo
                    have hle2 : o + (off + n0) * τ'.sz + news.length ≤ us.length := by rw [Nat.add_mul]; omega
                    have hpos : o + off * τ'.sz + n0 * τ'.sz = o + (off + n0) * τ'.sz := by rw [Nat.add_mul]; omega
                    rw [hpos] at hFw ⊢
                    refine ⟨_, E, fz, setCells_block b E fz news _ w us g1 hle2, free_set hle2 g2, by simp; omega, ?_, g5⟩
                    exact row_put g4 hn (by omega) hle2 hFw
              · cases h
        · cases h
  · cases h

end Go.Proofs.YtfepkpindchleaaE
