/- The engine, part 5: a state and the machine's: what a change of one does to the other. -/
import Derived.Test.YtfepkpindchleaaE4
namespace Go.Proofs.YtfepkpindchleaaE
open Go
set_option linter.unusedVariables false
set_option linter.unusedSimpArgs false

theorem orel_mono {μ μ' : Nat → Pl} {F F' : Nat → Prop} {w w' : World} (hF : ∀ b, F b → F' b) (hw : ∀ b, F b → w'.heap[b]? = w.heap[b]?) {o : LObj} {p : Pl}
    (ho : ∀ b, p.owns = some b → w'.heap[b]? = w.heap[b]?) (hr : ∀ k ∈ o.refs, μ' k = μ k) (h : ORel μ F w o p) : ORel μ' F' w' o p := by
  cases o with
  | boxT g cs =>
    cases p <;> simp only [ORel] at h ⊢
    obtain ⟨us, E, fz, h1, h2, h3, h4, h5⟩ := h
    exact ⟨us, E, fz, by rw [ho _ rfl]; exact h1, h2, vrelL_mono hF hw (by simpa only [LObj.refs] using hr) h3, h4, h5⟩
  | row t xs =>
    cases p <;> simp only [ORel] at h ⊢
    obtain ⟨h1, h2, h3, h4, h5⟩ := h
    refine ⟨h1, h2, h3, h4, fun b o ha hc => ?_⟩
    subst ha
    obtain ⟨us, E, fz, g1, g2, g3, g4, g5⟩ := h5 b o rfl hc
    refine ⟨us, E, fz, by rw [ho b (by simp [Pl.owns, hc])]; exact g1, g2, g3, fun i x hx => ?_, g5⟩
    obtain ⟨vs, e1, e2, e3⟩ := g4 i x hx
    exact ⟨vs, e1.mono hF hw, e2, e3⟩
  | mpo kt vt es =>
    cases p <;> simp only [ORel] at h ⊢
    obtain ⟨ms, cl, h1, h2⟩ := h
    exact ⟨ms, cl, by rw [ho _ rfl]; exact h1, h2.mono hF hw⟩
  | gone => cases p <;> simp only [ORel] at h ⊢

theorem orel_kill {μ μ' : Nat → Pl} {F F' : Nat → Prop} {w w' : World} {ks : List Nat} (hF : ∀ b, F b → F' b) (hw : ∀ b, F b → w'.heap[b]? = w.heap[b]?)
    (hμ : ∀ k, ks.contains k = false → μ k ≠ .none → μ' k = μ k) (hb : ∀ k b, μ k = .box b → μ' k = .box b) (hm : ∀ k b, μ k = .map b → μ' k = .map b) {o : LObj} {p : Pl}
    (ho : ∀ b, p.owns = some b → w'.heap[b]? = w.heap[b]?) (h : ORel μ F w o p) : ORel μ' F' w' (o.kill ks) p := by
  cases o with
  | boxT g cs =>
    cases p <;> simp only [ORel, LObj.kill] at h ⊢
    obtain ⟨us, E, fz, h1, h2, h3, h4, h5⟩ := h
    exact ⟨us, E, fz, by rw [ho _ rfl]; exact h1, h2, vrelL_kill hF hw hμ hb hm h3, h4, h5⟩
  | row t xs => exact orel_mono hF hw ho (by simp [LObj.refs, LObj.kill, LObj.frz, LObj.ren]) h
  | mpo kt vt es => exact orel_mono hF hw ho (by simp [LObj.refs, LObj.kill, LObj.frz, LObj.ren]) h
  | gone => exact orel_mono hF hw ho (by simp [LObj.refs, LObj.kill, LObj.frz, LObj.ren]) h

theorem orel_frz {μ μ' : Nat → Pl} {F F' : Nat → Prop} {w : World} {hp : Nat → LObj} {ks : List Nat} (hF : ∀ b, F b → F' b)
    (ho : ∀ k, ks.contains k = true → ORel μ F w (hp k) (μ k)) (hn : ∀ k b, ks.contains k = true → (μ k).owns = some b → F' b)
    (hμ : ∀ k, ks.contains k = false → μ' k = μ k) (hb : ∀ k b, μ k = .box b → μ' k = .box b) (hm : ∀ k b, μ k = .map b → μ' k = .map b) {o : LObj} {p : Pl}
    (h : ORel μ F w o p) : ORel μ' F' w (o.frz hp ks) p := by
  cases o with
  | boxT g cs =>
    cases p <;> simp only [ORel, LObj.frz] at h ⊢
    obtain ⟨us, E, fz, h1, h2, h3, h4, h5⟩ := h
    exact ⟨us, E, fz, h1, h2, vrelL_frz hF ho hn hμ hb hm h3, h4, h5⟩
  | row t xs => exact orel_mono hF (fun _ _ => rfl) (fun _ _ => rfl) (by simp [LObj.refs, LObj.kill, LObj.frz, LObj.ren]) h
  | mpo kt vt es => exact orel_mono hF (fun _ _ => rfl) (fun _ _ => rfl) (by simp [LObj.refs, LObj.kill, LObj.frz, LObj.ren]) h
  | gone => exact orel_mono hF (fun _ _ => rfl) (fun _ _ => rfl) (by simp [LObj.refs, LObj.kill, LObj.frz, LObj.ren]) h

theorem orel_ren {μ μ' : Nat → Pl} {F : Nat → Prop} {w : World} {f : Nat → Option Nat} (hf : ∀ k i, f k = some i → μ' i = μ k) {o : LObj} {p : Pl}
    (h : ORel μ F w o p) : ORel μ' F w (o.ren f) p := by
  cases o with
  | boxT g cs =>
    cases p <;> simp only [ORel, LObj.ren] at h ⊢
    obtain ⟨us, E, fz, h1, h2, h3, h4, h5⟩ := h
    exact ⟨us, E, fz, h1, h2, vrelL_ren hf h3, h4, h5⟩
  | row t xs => exact orel_mono (fun _ h => h) (fun _ _ => rfl) (fun _ _ => rfl) (by simp [LObj.refs, LObj.kill, LObj.frz, LObj.ren]) h
  | mpo kt vt es => exact orel_mono (fun _ h => h) (fun _ _ => rfl) (fun _ _ => rfl) (by simp [LObj.refs, LObj.kill, LObj.frz, LObj.ren]) h
  | gone => exact orel_mono (fun _ h => h) (fun _ _ => rfl) (fun _ _ => rfl) (by simp [LObj.refs, LObj.kill, LObj.frz, LObj.ren]) h

/-! ### References point to what is there -/
mutual
theorem refs_there {μ : Nat → Pl} {F : Nat → Prop} {w : World} : ∀ {x : AV} {v : Value}, VRel μ F w x v → ∀ k ∈ x.refs, μ k ≠ .none
  | .agg cs, _, h => by simp only [VRel] at h; obtain ⟨us, _, h1, _⟩ := h; simpa only [AV.refs] using refsL_there h1
  | .tup cs, _, h => by simp only [VRel] at h; obtain ⟨us, _, h1⟩ := h; simpa only [AV.refs] using refsL_there h1
  | .ptr k off, _, h => by simp only [VRel] at h; obtain ⟨b, h1, _⟩ := h; simp [AV.refs, h1]
  | .rptr k t i off, _, h => by simp only [VRel] at h; obtain ⟨b, o, l, c, h1, _⟩ := h; simp [AV.refs, h1]
  | .rowA k, _, h => by simp only [VRel] at h; obtain ⟨a, l, c, s, A, h1, _⟩ := h; simp [AV.refs, h1]
  | .rowS k off n c, _, h => by simp only [VRel] at h; obtain ⟨a, l, c, s, A, cap', h1, _⟩ := h; simp [AV.refs, h1]
  | .mp k, _, h => by simp only [VRel] at h; obtain ⟨b, h1, _⟩ := h; simp [AV.refs, h1]
  | .fn f cs, _, h => by simp only [VRel] at h; obtain ⟨us, _, h1⟩ := h; simpa only [AV.refs] using refsL_there h1
  | .int _ _, _, _ => by simp [AV.refs]
  | .bool _, _, _ => by simp [AV.refs]
  | .str _, _, _ => by simp [AV.refs]
  | .list _ _, _, _ => by simp [AV.refs]
  | .np, _, _ => by simp [AV.refs]
  | .nm, _, _ => by simp [AV.refs]
  | .nf, _, _ => by simp [AV.refs]
  | .ns, _, _ => by simp [AV.refs]
  | .lptr _ _ _ _, _, _ => by simp [AV.refs]
  | .undef, _, _ => by simp [AV.refs]
  | .dead, _, _ => by simp [AV.refs]
theorem refsL_there {μ : Nat → Pl} {F : Nat → Prop} {w : World} : ∀ {cs : List AV} {us : List Value}, VRelL μ F w cs us → ∀ k ∈ AV.refsL cs, μ k ≠ .none
  | [], _, _ => by simp [AV.refsL]
  | c :: cs, _, h => by
    simp only [VRelL] at h
    obtain ⟨u, us, _, h1, h2⟩ := h
    intro k hk
    simp only [AV.refsL, List.mem_append] at hk
    rcases hk with hk | hk
    · exact refs_there h1 k hk
    · exact refsL_there h2 k hk
end

theorem obj_refs_there {μ : Nat → Pl} {F : Nat → Prop} {w : World} {o : LObj} {p : Pl} (h : ORel μ F w o p) : ∀ k ∈ o.refs, μ k ≠ .none := by
  cases o with
  | boxT g cs =>
    cases p <;> simp only [ORel] at h
    obtain ⟨us, E, fz, _, _, h3, _, _⟩ := h
    simpa only [LObj.refs] using refsL_there h3
  | row t xs => simp [LObj.refs]
  | mpo kt vt es => simp [LObj.refs]
  | gone => simp [LObj.refs]

/-! ### States -/
structure Cx where
  w0 : World
  fp : Nat → Prop
  F0 : Nat → Prop
  μ0 : Nat → Pl
  n0 : Nat
  nt : Nat

structure Inv (c : Cx) (st : St) (a : Act) (w : World) (μ : Nat → Pl) (F : Nat → Prop) : Prop where
  h : HInv w st.hp st.nx μ F
  fr : Fr c.w0 c.fp c.F0 w F μ
  idb : ∀ k b, k < c.n0 → c.μ0 k = .box b → μ k = .box b
  idm : ∀ k b, k < c.n0 → c.μ0 k = .map b → μ k = .map b
  n0 : c.n0 ≤ st.nx
  tm : ∀ t, VRel μ F w (st.tm t) (a.tmps.getD t undef)
  sz : a.tmps.size = c.nt
  df : a.defers = []

theorem news_tm : ∀ (os : List LObj) (st : St), (st.news os).tm = st.tm
  | [], _ => rfl
  | o :: os, st => by simp only [St.news]; rw [news_tm os]; rfl
theorem news_nx : ∀ (os : List LObj) (st : St), (st.news os).nx = st.nx + os.length
  | [], _ => rfl
  | o :: os, st => by simp only [St.news]; rw [news_nx os]; simp [St.new]; omega
theorem news_old : ∀ (os : List LObj) (st : St) (k : Nat), k < st.nx → (st.news os).hp k = st.hp k
  | [], _, _, _ => rfl
  | o :: os, st, k, h => by
    simp only [St.news]
    rw [news_old os _ k (by simp [St.new]; omega)]
    have : (k == st.nx) = false := by simp; omega
    simp [St.new, this]
theorem news_at : ∀ (os : List LObj) (st : St) (i : Nat) (o : LObj), os[i]? = some o → (st.news os).hp (st.nx + i) = o
  | [], _, _, _, h => by simp at h
  | o :: os, st, 0, o', h => by
    simp at h; subst h
    simp only [St.news, Nat.add_zero]
    rw [news_old os _ _ (by simp [St.new])]
    simp [St.new]
  | o :: os, st, i + 1, o', h => by
    simp only [St.news]
    have := news_at os (st.new o) i o' (by simpa using h)
    rw [← this]
    congr 1
    simp [St.new]; omega

/-- The places of objects that are new. -/
def addPl (μ : Nat → Pl) (nx : Nat) (ps : List Pl) : Nat → Pl := fun k => if k < nx then μ k else (ps[k - nx]?).getD .none
theorem addPl_old {μ : Nat → Pl} {nx : Nat} {ps : List Pl} {k : Nat} (h : k < nx) : addPl μ nx ps k = μ k := by simp [addPl, h]
theorem addPl_new {μ : Nat → Pl} {nx : Nat} {ps : List Pl} (i : Nat) : addPl μ nx ps (nx + i) = (ps[i]?).getD .none := by
  have h : ¬ (nx + i < nx) := by omega
  simp only [addPl, h, if_false]
  rw [Nat.add_sub_cancel_left]
theorem addPl_there {μ : Nat → Pl} {nx : Nat} {ps : List Pl} (ht : ∀ k, nx ≤ k → μ k = .none) {k : Nat} (h : μ k ≠ .none) : addPl μ nx ps k = μ k := by
  by_cases hk : k < nx
  · exact addPl_old hk
  · exact absurd (ht k (by omega)) h

/-- Memory grows: old blocks stay, the world's other parts too. -/
structure Grew (w w' : World) : Prop where
  os : w'.os = w.os
  tape : w'.tape = w.tape
  output : w'.output = w.output
  size : w.heap.size ≤ w'.heap.size
  block : ∀ b, b < w.heap.size → w'.heap[b]? = w.heap[b]?

theorem Grew.refl (w : World) : Grew w w := ⟨rfl, rfl, rfl, Nat.le_refl _, fun _ _ => rfl⟩
theorem Grew.trans {w w1 w2 : World} (h : Grew w w1) (h' : Grew w1 w2) : Grew w w2 :=
  ⟨h'.os.trans h.os, h'.tape.trans h.tape, h'.output.trans h.output, Nat.le_trans h.size h'.size, fun b hb => (h'.block b (Nat.lt_of_lt_of_le hb h.size)).trans (h.block b hb)⟩
theorem Grew.drew (w : World) : Grew w { w with drawn := w.drawn + 1 } := ⟨rfl, rfl, rfl, Nat.le_refl _, fun _ _ => rfl⟩
theorem Grew.push (w : World) (o : Obj) : Grew w { w with heap := w.heap.push o } :=
  ⟨rfl, rfl, rfl, by simp, fun b hb => by simp [Array.getElem?_push]; intro h; omega⟩

theorem HInv.lt {w : World} {hp : Nat → LObj} {nx : Nat} {μ : Nat → Pl} {F : Nat → Prop} (h : HInv w hp nx μ F) {k b : Nat} (hk : (μ k).owns = some b) : k < nx := by
  by_cases hlt : k < nx
  · exact hlt
  · rw [h.top k (by omega)] at hk; simp [Pl.owns] at hk

/-- New objects, in new memory or in none. -/
theorem inv_news {c : Cx} {st : St} {a : Act} {w w' : World} {μ : Nat → Pl} {F : Nat → Prop} (hi : Inv c st a w μ F) (hg : Grew w w')
    (os : List LObj) (ps : List Pl) (hl : ps.length = os.length)
    (ho : ∀ (i : Nat) (o : LObj) (p : Pl), os[i]? = some o → ps[i]? = some p → ORel (addPl μ st.nx ps) F w' o p)
    (hown : ∀ (i : Nat) (p : Pl) (b : Nat), ps[i]? = some p → p.owns = some b → w.heap.size ≤ b ∧ b < w'.heap.size)
    (hone : ∀ (i j : Nat) (p q : Pl) (b : Nat), ps[i]? = some p → ps[j]? = some q → p.owns = some b → q.owns = some b → i = j) :
    Inv c (st.news os) a w' (addPl μ st.nx ps) F := by
  have hFw : ∀ b, F b → w'.heap[b]? = w.heap[b]? := fun b hb => hg.block b (hi.h.inn b hb)
  have hnew : ∀ k b, (addPl μ st.nx ps k).owns = some b → (k < st.nx ∧ (μ k).owns = some b) ∨ (∃ i p, k = st.nx + i ∧ ps[i]? = some p ∧ p.owns = some b) := by
    intro k b hk
    by_cases h : k < st.nx
    · rw [addPl_old h] at hk; exact .inl ⟨h, hk⟩
    · obtain ⟨i, rfl⟩ : ∃ i, k = st.nx + i := ⟨k - st.nx, by omega⟩
      rw [addPl_new] at hk
      cases hp : ps[i]? with
      | none => rw [hp] at hk; simp [Pl.owns] at hk
      | some p => rw [hp] at hk; exact .inr ⟨i, p, rfl, hp, hk⟩
  refine ⟨⟨fun k hk => ?_, fun k hk => ?_, fun k k' b h1 h2 => ?_, fun k b hk => ?_, fun b hb => Nat.lt_of_lt_of_le (hi.h.inn b hb) hg.size⟩, ?_, fun k b hk h0 => ?_, fun k b hk h0 => ?_, ?_, fun t => ?_, hi.sz, hi.df⟩
  · rw [news_nx] at hk
    by_cases h : k < st.nx
    · rw [news_old os st k h, addPl_old h]
      have h1 := hi.h.obj k h
      exact orel_mono (fun _ h => h) hFw (fun b hb => hg.block b (hi.h.out k b hb).2) (fun j hj => addPl_there hi.h.top (obj_refs_there h1 j hj)) h1
    · obtain ⟨i, rfl⟩ : ∃ i, k = st.nx + i := ⟨k - st.nx, by omega⟩
      have hio : i < os.length := by omega
      have hip : i < ps.length := by omega
      rw [news_at os st i os[i] (List.getElem?_eq_getElem hio), addPl_new, List.getElem?_eq_getElem hip]
      exact ho i os[i] ps[i] (List.getElem?_eq_getElem hio) (List.getElem?_eq_getElem hip)
  · rw [news_nx] at hk
    obtain ⟨i, rfl⟩ : ∃ i, k = st.nx + i := ⟨k - st.nx, by omega⟩
    rw [addPl_new, List.getElem?_eq_none (by omega)]; rfl
  · rcases hnew k b h1 with ⟨hk, h3⟩ | ⟨i, p, rfl, hp, h3⟩ <;> rcases hnew k' b h2 with ⟨hk', h4⟩ | ⟨j, q, rfl, hq, h4⟩
    · exact hi.h.one k k' b h3 h4
    · have := (hi.h.out k b h3).2; have := (hown j q b hq h4).1; omega
    · have := (hi.h.out k' b h4).2; have := (hown i p b hp h3).1; omega
    · rw [hone i j p q b hp hq h3 h4]
  · rcases hnew k b hk with ⟨h, h3⟩ | ⟨i, p, rfl, hp, h3⟩
    · exact ⟨(hi.h.out k b h3).1, Nat.lt_of_lt_of_le (hi.h.out k b h3).2 hg.size⟩
    · have := hown i p b hp h3
      exact ⟨fun hF => by have := hi.h.inn b hF; omega, this.2⟩
  · refine ⟨hg.os.trans hi.fr.os, hg.tape.trans hi.fr.tape, hg.output.trans hi.fr.output, Nat.le_trans hi.fr.size hg.size, fun b hb hnb => ?_, hi.fr.old, hi.fr.newF, fun k b hk => ?_⟩
    · rw [hg.block b (Nat.lt_of_lt_of_le hb hi.fr.size)]; exact hi.fr.keep b hb hnb
    · rcases hnew k b hk with ⟨h, h3⟩ | ⟨i, p, rfl, hp, h3⟩
      · exact hi.fr.newO k b h3
      · exact .inr (Nat.le_trans hi.fr.size (hown i p b hp h3).1)
  · rw [addPl_old (Nat.lt_of_lt_of_le hk hi.n0)]; exact hi.idb k b hk h0
  · rw [addPl_old (Nat.lt_of_lt_of_le hk hi.n0)]; exact hi.idm k b hk h0
  · rw [news_nx]; exact Nat.le_trans hi.n0 (Nat.le_add_right _ _)
  · rw [news_tm]
    exact vrel_mono (fun _ h => h) hFw (fun k hk => addPl_there hi.h.top (refs_there (hi.tm t) k hk)) (hi.tm t)

/-- A block changes: the block of one object. -/
structure Changed (w w' : World) (own : Nat → Prop) : Prop where
  os : w'.os = w.os
  tape : w'.tape = w.tape
  output : w'.output = w.output
  size : w.heap.size ≤ w'.heap.size
  block : ∀ b, b < w.heap.size → ¬ own b → w'.heap[b]? = w.heap[b]?

theorem Grew.changed {w w' : World} (h : Grew w w') (own : Nat → Prop) : Changed w w' own := ⟨h.os, h.tape, h.output, h.size, fun b hb _ => h.block b hb⟩

/-- An object changes, its place stays. -/
theorem inv_upd {c : Cx} {st : St} {a : Act} {w w' : World} {μ : Nat → Pl} {F : Nat → Prop} (hi : Inv c st a w μ F) {k : Nat} {o : LObj} (hk : k < st.nx)
    (hg : Changed w w' (fun b => (μ k).owns = some b)) (ho : ORel μ F w' o (μ k)) : Inv c (st.upd k o) a w' μ F := by
  have hFw : ∀ b, F b → w'.heap[b]? = w.heap[b]? := fun b hb => hg.block b (hi.h.inn b hb) (fun h => (hi.h.out k b h).1 hb)
  refine ⟨⟨fun j hj => ?_, hi.h.top, hi.h.one, fun j b hj => ⟨(hi.h.out j b hj).1, Nat.lt_of_lt_of_le (hi.h.out j b hj).2 hg.size⟩, fun b hb => Nat.lt_of_lt_of_le (hi.h.inn b hb) hg.size⟩, ?_, hi.idb, hi.idm, hi.n0, fun t => ?_, hi.sz, hi.df⟩
  · show ORel μ F w' ((st.upd k o).hp j) (μ j)
    by_cases h : j = k
    · subst h; simpa [St.upd] using ho
    · have hjk : (j == k) = false := by simpa using h
      simp only [St.upd, hjk, cond_false]
      exact orel_mono (fun _ h => h) hFw (fun b hb => hg.block b (hi.h.out j b hb).2 (fun h2 => h (hi.h.one j k b hb h2))) (fun _ _ => rfl) (hi.h.obj j hj)
  · refine ⟨hg.os.trans hi.fr.os, hg.tape.trans hi.fr.tape, hg.output.trans hi.fr.output, Nat.le_trans hi.fr.size hg.size, fun b hb hnb => ?_, hi.fr.old, hi.fr.newF, hi.fr.newO⟩
    rw [hg.block b (Nat.lt_of_lt_of_le hb hi.fr.size) (fun h => by rcases hi.fr.newO k b h with h1 | h1; exact hnb h1; omega)]
    exact hi.fr.keep b hb hnb
  · exact vrel_mono (fun _ h => h) hFw (fun _ _ => rfl) (hi.tm t)

/-- One object's place turns. -/
def setPl (μ : Nat → Pl) (k : Nat) (p : Pl) : Nat → Pl := fun j => if j = k then p else μ j
theorem setPl_at (μ : Nat → Pl) (k : Nat) (p : Pl) : setPl μ k p k = p := by simp [setPl]
theorem setPl_ne {μ : Nat → Pl} {k j : Nat} {p : Pl} (h : j ≠ k) : setPl μ k p j = μ j := by simp [setPl, h]

/-- A row grows: it stays where it is, or it moves to new memory; what referred to it is lost. -/
theorem inv_app {c : Cx} {st : St} {a : Act} {w w' : World} {μ : Nat → Pl} {F : Nat → Prop} (hi : Inv c st a w μ F) {k : Nat} {o : LObj} {p : Pl} (hk : k < st.nx)
    {al : Option (Nat × Nat)} {l cp sz : Nat} (hrow : μ k = .row al l cp sz)
    (hg : Changed w w' (fun b => (μ k).owns = some b)) (ho : ORel (setPl μ k p) F w' o p)
    (hp : ∀ b, p.owns = some b → (μ k).owns = some b ∨ (w.heap.size ≤ b ∧ b < w'.heap.size)) : Inv c ((st.kill [k]).upd k o) a w' (setPl μ k p) F := by
  have hFw : ∀ b, F b → w'.heap[b]? = w.heap[b]? := fun b hb => hg.block b (hi.h.inn b hb) (fun h => (hi.h.out k b h).1 hb)
  have hμ : ∀ j, [k].contains j = false → μ j ≠ .none → setPl μ k p j = μ j := fun j hj _ => setPl_ne (by simpa using hj)
  have hb : ∀ j b, μ j = .box b → setPl μ k p j = .box b := fun j b hj => by
    rw [setPl_ne (by rintro rfl; rw [hrow] at hj; cases hj)]; exact hj
  have hm : ∀ j b, μ j = .map b → setPl μ k p j = .map b := fun j b hj => by
    rw [setPl_ne (by rintro rfl; rw [hrow] at hj; cases hj)]; exact hj
  have hown : ∀ j b, (setPl μ k p j).owns = some b → (j ≠ k ∧ (μ j).owns = some b) ∨ (j = k ∧ p.owns = some b) := fun j b hj => by
    by_cases h : j = k
    · subst h; rw [setPl_at] at hj; exact .inr ⟨rfl, hj⟩
    · rw [setPl_ne h] at hj; exact .inl ⟨h, hj⟩
  refine ⟨⟨fun j hj => ?_, fun j hj => ?_, fun j j' b h1 h2 => ?_, fun j b hj => ?_, fun b hb => Nat.lt_of_lt_of_le (hi.h.inn b hb) hg.size⟩, ?_, fun j b hj h0 => hb j b (hi.idb j b hj h0), fun j b hj h0 => hm j b (hi.idm j b hj h0), hi.n0, fun t => ?_, hi.sz, hi.df⟩
  · by_cases h : j = k
    · subst h; rw [setPl_at]; simpa [St.upd] using ho
    · rw [setPl_ne h]
      have hjk : (j == k) = false := by simpa using h
      simp only [St.upd, hjk, cond_false, St.kill]
      exact orel_kill (fun _ h => h) hFw hμ hb hm (fun b hb => hg.block b (hi.h.out j b hb).2 (fun h2 => h (hi.h.one j k b hb h2))) (hi.h.obj j hj)
  · have hj' : st.nx ≤ j := hj
    rw [setPl_ne (by omega)]; exact hi.h.top j hj'
  · rcases hown j b h1 with ⟨e1, h3⟩ | ⟨rfl, h3⟩ <;> rcases hown j' b h2 with ⟨e2, h4⟩ | ⟨rfl, h4⟩
    · exact hi.h.one j j' b h3 h4
    · rcases hp b h4 with h5 | h5
      · exact absurd (hi.h.one j _ b h3 h5) e1
      · have := (hi.h.out j b h3).2; omega
    · rcases hp b h3 with h5 | h5
      · exact absurd (hi.h.one j' _ b h4 h5) e2
      · have := (hi.h.out j' b h4).2; omega
    · rfl
  · rcases hown j b hj with ⟨e1, h3⟩ | ⟨rfl, h3⟩
    · exact ⟨(hi.h.out j b h3).1, Nat.lt_of_lt_of_le (hi.h.out j b h3).2 hg.size⟩
    · rcases hp b h3 with h5 | h5
      · exact ⟨(hi.h.out _ b h5).1, Nat.lt_of_lt_of_le (hi.h.out _ b h5).2 hg.size⟩
      · exact ⟨fun hF => by have := hi.h.inn b hF; omega, h5.2⟩
  · refine ⟨hg.os.trans hi.fr.os, hg.tape.trans hi.fr.tape, hg.output.trans hi.fr.output, Nat.le_trans hi.fr.size hg.size, fun b hb hnb => ?_, hi.fr.old, hi.fr.newF, fun j b hj => ?_⟩
    · rw [hg.block b (Nat.lt_of_lt_of_le hb hi.fr.size) (fun h => by rcases hi.fr.newO k b h with h1 | h1; exact hnb h1; omega)]
      exact hi.fr.keep b hb hnb
    · rcases hown j b hj with ⟨e1, h3⟩ | ⟨rfl, h3⟩
      · exact hi.fr.newO j b h3
      · rcases hp b h3 with h5 | h5
        · exact hi.fr.newO _ b h5
        · exact .inr (Nat.le_trans hi.fr.size h5.1)
  · exact vrel_kill (fun _ h => h) hFw hμ hb hm (hi.tm t)

/-- Rows become data. -/
def frzPl (μ : Nat → Pl) (ks : List Nat) : Nat → Pl := fun j => if ks.contains j = true then .none else μ j
def frzF (μ : Nat → Pl) (F : Nat → Prop) (ks : List Nat) : Nat → Prop := fun b => F b ∨ ∃ k, ks.contains k = true ∧ (μ k).owns = some b
theorem inv_frz {c : Cx} {st : St} {a : Act} {w : World} {μ : Nat → Pl} {F : Nat → Prop} (hi : Inv c st a w μ F) {ks : List Nat}
    (hks : ∀ k, ks.contains k = true → k < st.nx ∧ ∃ al l cp sz, μ k = .row al l cp sz) :
    Inv c (st.frz ks) a w (frzPl μ ks) (frzF μ F ks) := by
  have hμ : ∀ j, ks.contains j = false → frzPl μ ks j = μ j := fun j hj => by simp only [frzPl, hj]; rfl
  have hμ1 : ∀ j, ks.contains j = true → frzPl μ ks j = .none := fun j hj => by simp only [frzPl, hj]; rfl
  have hrow : ∀ j, ks.contains j = true → ∀ b, μ j ≠ .box b ∧ μ j ≠ .map b := fun j hj b => by
    obtain ⟨_, al, l, cp, sz, h⟩ := hks j hj
    rw [h]; simp
  have hb : ∀ j b, μ j = .box b → frzPl μ ks j = .box b := fun j b hj => by
    cases h : ks.contains j with
    | true => exact absurd hj (hrow j h b).1
    | false => rw [hμ j h]; exact hj
  have hm : ∀ j b, μ j = .map b → frzPl μ ks j = .map b := fun j b hj => by
    cases h : ks.contains j with
    | true => exact absurd hj (hrow j h b).2
    | false => rw [hμ j h]; exact hj
  have hF : ∀ b, F b → frzF μ F ks b := fun b h => .inl h
  have ho : ∀ k, ks.contains k = true → ORel μ F w (st.hp k) (μ k) := fun k hk => hi.h.obj k (hks k hk).1
  have hn : ∀ k b, ks.contains k = true → (μ k).owns = some b → frzF μ F ks b := fun k b hk h => .inr ⟨k, hk, h⟩
  have hown : ∀ j b, (frzPl μ ks j).owns = some b → ks.contains j = false ∧ (μ j).owns = some b := fun j b hj => by
    cases h : ks.contains j with
    | true => rw [hμ1 j h] at hj; cases hj
    | false => rw [hμ j h] at hj; exact ⟨rfl, hj⟩
  refine ⟨⟨fun j hj => ?_, fun j hj => ?_, fun j j' b h1 h2 => hi.h.one j j' b (hown j b h1).2 (hown j' b h2).2, fun j b hj => ?_, fun b hb => ?_⟩, ?_, fun j b hj h0 => hb j b (hi.idb j b hj h0), fun j b hj h0 => hm j b (hi.idm j b hj h0), hi.n0, fun t => ?_, hi.sz, hi.df⟩
  · have hj' : j < st.nx := hj
    simp only [St.frz]
    cases h : ks.contains j with
    | true => rw [hμ1 j h]; simp only [cond_true, ORel]
    | false => rw [hμ j h]; exact orel_frz hF ho hn hμ hb hm (hi.h.obj j hj')
  · have hj' : st.nx ≤ j := hj
    cases h : ks.contains j with
    | true => exact hμ1 j h
    | false => rw [hμ j h]; exact hi.h.top j hj'
  · obtain ⟨h1, h2⟩ := hown j b hj
    refine ⟨fun hF => ?_, (hi.h.out j b h2).2⟩
    rcases hF with hF | ⟨k, hk, h3⟩
    · exact (hi.h.out j b h2).1 hF
    · have := hi.h.one j k b h2 h3
      subst this
      rw [hk] at h1; cases h1
  · rcases hb with hb | ⟨k, _, h3⟩
    · exact hi.h.inn b hb
    · exact (hi.h.out k b h3).2
  · refine ⟨hi.fr.os, hi.fr.tape, hi.fr.output, hi.fr.size, hi.fr.keep, fun b h => .inl (hi.fr.old b h), fun b h => ?_, fun j b hj => hi.fr.newO j b (hown j b hj).2⟩
    rcases h with h | ⟨k, _, h3⟩
    · exact hi.fr.newF b h
    · rcases hi.fr.newO k b h3 with h | h
      · exact .inr (.inl h)
      · exact .inr (.inr h)
  · exact vrel_frz hF ho hn hμ hb hm (hi.tm t)

end Go.Proofs.YtfepkpindchleaaE
