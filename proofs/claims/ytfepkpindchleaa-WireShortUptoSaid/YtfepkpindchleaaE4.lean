/- The engine, part 4: memory as a whole: what holds of it, and how a change of it leaves what was known. -/
import Derived.Test.YtfepkpindchleaaE3
namespace Go.Proofs.YtfepkpindchleaaE
open Go
set_option linter.unusedVariables false
set_option linter.unusedSimpArgs false

/-- A map's entries. -/
def MRel (F : Nat → Prop) (w : World) (kt vt : Ty) : List (kt.den × vt.den) → List MapEntry → Prop
  | [], ms => ms = []
  | e :: es, ms => ∃ m r, ms = m :: r ∧ Enc F w kt e.1 [m.key] ∧ Enc F w vt e.2 [m.val] ∧ MRel F w kt vt es r
theorem MRel.mono {F F' : Nat → Prop} {w w' : World} (hF : ∀ b, F b → F' b) (hw : ∀ b, F b → w'.heap[b]? = w.heap[b]?) {kt vt : Ty} : ∀ {es : List (kt.den × vt.den)} {ms : List MapEntry}, MRel F w kt vt es ms → MRel F' w' kt vt es ms
  | [], _, h => h
  | e :: es, _, ⟨m, r, h1, h2, h3, h4⟩ => ⟨m, r, h1, h2.mono hF hw, h3.mono hF hw, h4.mono hF hw⟩

/-- What a block was laid for. -/
def TagOk (g : Option Nat) (E : TypeId) : Prop := ∀ n, g = some n → E = n
def ByteOk (t : Ty) (E : TypeId) : Prop := t = .int .u8 → E = 5

/-- An object in the model's memory. -/
def ORel (μ : Nat → Pl) (F : Nat → Prop) (w : World) : LObj → Pl → Prop
  | .boxT g cs, .box b => ∃ (us : List Value) (E : TypeId) (fz : Nat × Nat), w.heap[b]? = some (.cells us.toArray E fz) ∧ (∀ i, i < us.length → ¬ (fz.1 ≤ i ∧ i < fz.2)) ∧ VRelL μ F w cs us ∧ (∀ u ∈ us, u.oneCell' = true) ∧ TagOk g E
  | .row t xs, .row a len cap sz => sz = t.sz ∧ len = xs.length ∧ len ≤ cap ∧ (a = none → cap = 0) ∧
      ∀ b o, a = some (b, o) → cap ≠ 0 → ∃ (us : List Value) (E : TypeId) (fz : Nat × Nat), w.heap[b]? = some (.cells us.toArray E fz) ∧ (∀ i, i < us.length → ¬ (fz.1 ≤ i ∧ i < fz.2)) ∧ o + cap * sz ≤ us.length ∧
        (∀ (i : Nat) (x : t.den), xs[i]? = some x → ∃ vs, Enc F w t x vs ∧ vs.length = t.sz ∧ ∀ (j : Nat) (u : Value), vs[j]? = some u → us[o + i * t.sz + j]? = some u) ∧ ByteOk t E
  | .mpo kt vt es, .map b => ∃ (ms : List MapEntry) (clock : Nat), w.heap[b]? = some (.map ms.toArray clock) ∧ MRel F w kt vt es ms
  | .gone, .none => True
  | _, _ => False

structure HInv (w : World) (hp : Nat → LObj) (nx : Nat) (μ : Nat → Pl) (F : Nat → Prop) : Prop where
  obj : ∀ k, k < nx → ORel μ F w (hp k) (μ k)
  top : ∀ k, nx ≤ k → μ k = .none
  one : ∀ k k' b, (μ k).owns = some b → (μ k').owns = some b → k = k'
  out : ∀ k b, (μ k).owns = some b → ¬ F b ∧ b < w.heap.size
  inn : ∀ b, F b → b < w.heap.size

/-- What an activation has left alone since it began in w0: all but the blocks that it was handed (fp). -/
structure Fr (w0 : World) (fp F0 : Nat → Prop) (w : World) (F : Nat → Prop) (μ : Nat → Pl) : Prop where
  os : w.os = w0.os
  tape : w.tape = w0.tape
  output : w.output = w0.output
  size : w0.heap.size ≤ w.heap.size
  keep : ∀ b, b < w0.heap.size → ¬ fp b → w.heap[b]? = w0.heap[b]?
  old : ∀ b, F0 b → F b
  newF : ∀ b, F b → F0 b ∨ fp b ∨ w0.heap.size ≤ b
  newO : ∀ k b, (μ k).owns = some b → fp b ∨ w0.heap.size ≤ b

/-! ### Values under a change: of the world where it isn't frozen, of the places of objects -/
mutual
theorem vrel_mono {μ μ' : Nat → Pl} {F F' : Nat → Prop} {w w' : World} (hF : ∀ b, F b → F' b) (hw : ∀ b, F b → w'.heap[b]? = w.heap[b]?) :
    ∀ {x : AV} {v : Value}, (∀ k ∈ x.refs, μ' k = μ k) → VRel μ F w x v → VRel μ' F' w' x v
  | .int k n, v, _, h => by simpa only [VRel] using h
  | .bool b, v, _, h => by simpa only [VRel] using h
  | .str s, v, _, h => by simpa only [VRel] using h
  | .list t xs, v, _, h => by simp only [VRel] at h ⊢; exact h.mono hF hw
  | .agg cs, v, hr, h => by
    simp only [VRel] at h ⊢
    obtain ⟨us, rfl, h1, h2⟩ := h
    exact ⟨us, rfl, vrelL_mono hF hw (by simpa only [AV.refs] using hr) h1, h2⟩
  | .tup cs, v, hr, h => by
    simp only [VRel] at h ⊢
    obtain ⟨us, rfl, h1⟩ := h
    exact ⟨us, rfl, vrelL_mono hF hw (by simpa only [AV.refs] using hr) h1⟩
  | .np, v, _, h => by simpa only [VRel] using h
  | .nm, v, _, h => by simpa only [VRel] using h
  | .nf, v, _, h => by simpa only [VRel] using h
  | .ns, v, _, h => by simpa only [VRel] using h
  | .ptr k off, v, hr, h => by simp only [VRel] at h ⊢; rw [hr k (by simp [AV.refs])]; exact h
  | .rptr k t i off, v, hr, h => by simp only [VRel] at h ⊢; rw [hr k (by simp [AV.refs])]; exact h
  | .lptr t xs i off, v, _, h => by
    simp only [VRel] at h ⊢
    obtain ⟨b, o, h1, h2, h3, h4⟩ := h
    exact ⟨b, o, hF b h1, h2.mono hF hw (hw b h1), h3, h4⟩
  | .rowA k, v, hr, h => by simp only [VRel] at h ⊢; rw [hr k (by simp [AV.refs])]; exact h
  | .rowS k off n c, v, hr, h => by simp only [VRel] at h ⊢; rw [hr k (by simp [AV.refs])]; exact h
  | .mp k, v, hr, h => by simp only [VRel] at h ⊢; rw [hr k (by simp [AV.refs])]; exact h
  | .fn f cs, v, hr, h => by
    simp only [VRel] at h ⊢
    obtain ⟨us, rfl, h1⟩ := h
    exact ⟨us, rfl, vrelL_mono hF hw (by simpa only [AV.refs] using hr) h1⟩
  | .undef, v, _, h => by simpa only [VRel] using h
  | .dead, v, _, _ => by simp only [VRel]
theorem vrelL_mono {μ μ' : Nat → Pl} {F F' : Nat → Prop} {w w' : World} (hF : ∀ b, F b → F' b) (hw : ∀ b, F b → w'.heap[b]? = w.heap[b]?) :
    ∀ {cs : List AV} {us : List Value}, (∀ k ∈ AV.refsL cs, μ' k = μ k) → VRelL μ F w cs us → VRelL μ' F' w' cs us
  | [], us, _, h => by simpa only [VRelL] using h
  | c :: cs, us, hr, h => by
    simp only [VRelL] at h ⊢
    obtain ⟨u, us, rfl, h1, h2⟩ := h
    exact ⟨u, us, rfl, vrel_mono hF hw (fun k hk => hr k (by simp [AV.refsL, hk])) h1, vrelL_mono hF hw (fun k hk => hr k (by simp [AV.refsL, hk])) h2⟩
end

-- references that die, references that stay
mutual
theorem vrel_kill {μ μ' : Nat → Pl} {F F' : Nat → Prop} {w w' : World} {ks : List Nat} (hF : ∀ b, F b → F' b) (hw : ∀ b, F b → w'.heap[b]? = w.heap[b]?)
    (hμ : ∀ k, ks.contains k = false → μ k ≠ .none → μ' k = μ k) (hb : ∀ k b, μ k = .box b → μ' k = .box b) (hm : ∀ k b, μ k = .map b → μ' k = .map b) :
    ∀ {x : AV} {v : Value}, VRel μ F w x v → VRel μ' F' w' (x.kill ks) v
  | .int k n, v, h => by simpa only [AV.kill, VRel] using h
  | .bool b, v, h => by simpa only [AV.kill, VRel] using h
  | .str s, v, h => by simpa only [AV.kill, VRel] using h
  | .list t xs, v, h => by simp only [AV.kill, VRel] at h ⊢; exact h.mono hF hw
  | .agg cs, v, h => by
    simp only [AV.kill, VRel] at h ⊢
    obtain ⟨us, rfl, h1, h2⟩ := h
    exact ⟨us, rfl, vrelL_kill hF hw hμ hb hm h1, h2⟩
  | .tup cs, v, h => by
    simp only [AV.kill, VRel] at h ⊢
    obtain ⟨us, rfl, h1⟩ := h
    exact ⟨us, rfl, vrelL_kill hF hw hμ hb hm h1⟩
  | .np, v, h => by simpa only [AV.kill, VRel] using h
  | .nm, v, h => by simpa only [AV.kill, VRel] using h
  | .nf, v, h => by simpa only [AV.kill, VRel] using h
  | .ns, v, h => by simpa only [AV.kill, VRel] using h
  | .ptr k off, v, h => by
    simp only [AV.kill, VRel] at h ⊢
    obtain ⟨b, h1, h2⟩ := h
    exact ⟨b, hb k b h1, h2⟩
  | .rptr k t i off, v, h => by
    simp only [AV.kill]
    cases hc : ks.contains k with
    | true => simp [VRel]
    | false => simp only [cond_false, VRel] at h ⊢; rw [hμ k hc (by obtain ⟨_, _, _, _, h1, _⟩ := h; rw [h1]; simp)]; exact h
  | .lptr t xs i off, v, h => by
    simp only [AV.kill, VRel] at h ⊢
    obtain ⟨b, o, h1, h2, h3, h4⟩ := h
    exact ⟨b, o, hF b h1, h2.mono hF hw (hw b h1), h3, h4⟩
  | .rowA k, v, h => by
    simp only [AV.kill]
    cases hc : ks.contains k with
    | true => simp [VRel]
    | false => simp only [cond_false, VRel] at h ⊢; rw [hμ k hc (by obtain ⟨_, _, _, _, _, h1, _⟩ := h; rw [h1]; simp)]; exact h
  | .rowS k off n c, v, h => by
    simp only [AV.kill]
    cases hc : ks.contains k with
    | true => simp [VRel]
    | false => simp only [cond_false, VRel] at h ⊢; rw [hμ k hc (by obtain ⟨_, _, _, _, _, _, h1, _⟩ := h; rw [h1]; simp)]; exact h
  | .mp k, v, h => by
    simp only [AV.kill, VRel] at h ⊢
    obtain ⟨b, h1, h2⟩ := h
    exact ⟨b, hm k b h1, h2⟩
  | .fn f cs, v, h => by
    simp only [AV.kill, VRel] at h ⊢
    obtain ⟨us, rfl, h1⟩ := h
    exact ⟨us, rfl, vrelL_kill hF hw hμ hb hm h1⟩
  | .undef, v, h => by simpa only [AV.kill, VRel] using h
  | .dead, v, _ => by simp only [AV.kill, VRel]
theorem vrelL_kill {μ μ' : Nat → Pl} {F F' : Nat → Prop} {w w' : World} {ks : List Nat} (hF : ∀ b, F b → F' b) (hw : ∀ b, F b → w'.heap[b]? = w.heap[b]?)
    (hμ : ∀ k, ks.contains k = false → μ k ≠ .none → μ' k = μ k) (hb : ∀ k b, μ k = .box b → μ' k = .box b) (hm : ∀ k b, μ k = .map b → μ' k = .map b) :
    ∀ {cs : List AV} {us : List Value}, VRelL μ F w cs us → VRelL μ' F' w' (AV.killL ks cs) us
  | [], us, h => by simpa only [AV.killL, VRelL] using h
  | c :: cs, us, h => by
    simp only [AV.killL, VRelL] at h ⊢
    obtain ⟨u, us, rfl, h1, h2⟩ := h
    exact ⟨u, us, rfl, vrel_kill hF hw hμ hb hm h1, vrelL_kill hF hw hμ hb hm h2⟩
end

-- new names for the same places
mutual
theorem vrel_ren {μ μ' : Nat → Pl} {F : Nat → Prop} {w : World} {f : Nat → Option Nat} (hf : ∀ k i, f k = some i → μ' i = μ k) :
    ∀ {x : AV} {v : Value}, VRel μ F w x v → VRel μ' F w (x.ren f) v
  | .int k n, v, h => by simpa only [AV.ren, VRel] using h
  | .bool b, v, h => by simpa only [AV.ren, VRel] using h
  | .str s, v, h => by simpa only [AV.ren, VRel] using h
  | .list t xs, v, h => by simpa only [AV.ren, VRel] using h
  | .agg cs, v, h => by
    simp only [AV.ren, VRel] at h ⊢
    obtain ⟨us, rfl, h1, h2⟩ := h
    exact ⟨us, rfl, vrelL_ren hf h1, h2⟩
  | .tup cs, v, h => by
    simp only [AV.ren, VRel] at h ⊢
    obtain ⟨us, rfl, h1⟩ := h
    exact ⟨us, rfl, vrelL_ren hf h1⟩
  | .np, v, h => by simpa only [AV.ren, VRel] using h
  | .nm, v, h => by simpa only [AV.ren, VRel] using h
  | .nf, v, h => by simpa only [AV.ren, VRel] using h
  | .ns, v, h => by simpa only [AV.ren, VRel] using h
  | .ptr k off, v, h => by
    simp only [AV.ren]
    cases hk : f k with
    | none => simp [VRel]
    | some i => simp only [VRel] at h ⊢; rw [hf k i hk]; exact h
  | .rptr k t i off, v, h => by
    simp only [AV.ren]
    cases hk : f k with
    | none => simp [VRel]
    | some i => simp only [VRel] at h ⊢; rw [hf k i hk]; exact h
  | .lptr t xs i off, v, h => by simpa only [AV.ren, VRel] using h
  | .rowA k, v, h => by
    simp only [AV.ren]
    cases hk : f k with
    | none => simp [VRel]
    | some i => simp only [VRel] at h ⊢; rw [hf k i hk]; exact h
  | .rowS k off n c, v, h => by
    simp only [AV.ren]
    cases hk : f k with
    | none => simp [VRel]
    | some i => simp only [VRel] at h ⊢; rw [hf k i hk]; exact h
  | .mp k, v, h => by
    simp only [AV.ren]
    cases hk : f k with
    | none => simp [VRel]
    | some i => simp only [VRel] at h ⊢; rw [hf k i hk]; exact h
  | .fn g cs, v, h => by
    simp only [AV.ren, VRel] at h ⊢
    obtain ⟨us, rfl, h1⟩ := h
    exact ⟨us, rfl, vrelL_ren hf h1⟩
  | .undef, v, h => by simpa only [AV.ren, VRel] using h
  | .dead, v, _ => by simp only [AV.ren, VRel]
theorem vrelL_ren {μ μ' : Nat → Pl} {F : Nat → Prop} {w : World} {f : Nat → Option Nat} (hf : ∀ k i, f k = some i → μ' i = μ k) :
    ∀ {cs : List AV} {us : List Value}, VRelL μ F w cs us → VRelL μ' F w (AV.renL f cs) us
  | [], us, h => by simpa only [AV.renL, VRelL] using h
  | c :: cs, us, h => by
    simp only [AV.renL, VRelL] at h ⊢
    obtain ⟨u, us, rfl, h1, h2⟩ := h
    exact ⟨u, us, rfl, vrel_ren hf h1, vrelL_ren hf h2⟩
end

theorem sz_row {μ : Nat → Pl} {F : Nat → Prop} {w : World} {o : LObj} {a : Option (Nat × Nat)} {len cap sz : Nat} (h : ORel μ F w o (.row a len cap sz)) :
    ∃ t xs, o = .row t xs ∧ sz = t.sz ∧ len = xs.length ∧ len ≤ cap ∧ (a = none → cap = 0) ∧
      ∀ b o, a = some (b, o) → cap ≠ 0 → ∃ (us : List Value) (E : TypeId) (fz : Nat × Nat), w.heap[b]? = some (.cells us.toArray E fz) ∧ (∀ i, i < us.length → ¬ (fz.1 ≤ i ∧ i < fz.2)) ∧ o + cap * sz ≤ us.length ∧
        (∀ (i : Nat) (x : t.den), xs[i]? = some x → ∃ vs, Enc F w t x vs ∧ vs.length = t.sz ∧ ∀ (j : Nat) (u : Value), vs[j]? = some u → us[o + i * t.sz + j]? = some u) ∧ ByteOk t E := by
  cases o with
  | row t xs => simp only [ORel] at h; exact ⟨t, xs, rfl, h⟩
  | boxT g cs => simp [ORel] at h
  | mpo kt vt es => simp [ORel] at h
  | gone => simp [ORel] at h

/-- A row's elements lie where its place says. -/
theorem row_lies {F F' : Nat → Prop} {w : World} {t : Ty} {xs : List t.den} {b o cap : Nat} (hF : ∀ b, F b → F' b)
    (h : ∃ (us : List Value) (E : TypeId) (fz : Nat × Nat), w.heap[b]? = some (.cells us.toArray E fz) ∧ (∀ i, i < us.length → ¬ (fz.1 ≤ i ∧ i < fz.2)) ∧ o + cap * t.sz ≤ us.length ∧
        (∀ (i : Nat) (x : t.den), xs[i]? = some x → ∃ vs, Enc F w t x vs ∧ vs.length = t.sz ∧ ∀ (j : Nat) (u : Value), vs[j]? = some u → us[o + i * t.sz + j]? = some u) ∧ ByteOk t E) :
    Lies F' w t xs b o := fun i x hx => by
  obtain ⟨us, E, fz, h1, _, _, h2, _⟩ := h
  obtain ⟨vs, he, hl, hc⟩ := h2 i x hx
  exact ⟨vs, he.mono hF (fun _ _ => rfl), hl, fun j u hu => by simp [World.cell?, h1, hc j u hu]⟩

mutual
theorem vrel_frz {μ μ' : Nat → Pl} {F F' : Nat → Prop} {w : World} {hp : Nat → LObj} {ks : List Nat} (hF : ∀ b, F b → F' b)
    (ho : ∀ k, ks.contains k = true → ORel μ F w (hp k) (μ k)) (hn : ∀ k b, ks.contains k = true → (μ k).owns = some b → F' b)
    (hμ : ∀ k, ks.contains k = false → μ' k = μ k) (hb : ∀ k b, μ k = .box b → μ' k = .box b) (hm : ∀ k b, μ k = .map b → μ' k = .map b) :
    ∀ {x : AV} {v : Value}, VRel μ F w x v → VRel μ' F' w (x.frz hp ks) v
  | .int k n, v, h => by simpa only [AV.frz, VRel] using h
  | .bool b, v, h => by simpa only [AV.frz, VRel] using h
  | .str s, v, h => by simpa only [AV.frz, VRel] using h
  | .list t xs, v, h => by simp only [AV.frz, VRel] at h ⊢; exact h.mono hF fun _ _ => rfl
  | .agg cs, v, h => by
    simp only [AV.frz, VRel] at h ⊢
    obtain ⟨us, rfl, h1, h2⟩ := h
    exact ⟨us, rfl, vrelL_frz hF ho hn hμ hb hm h1, h2⟩
  | .tup cs, v, h => by
    simp only [AV.frz, VRel] at h ⊢
    obtain ⟨us, rfl, h1⟩ := h
    exact ⟨us, rfl, vrelL_frz hF ho hn hμ hb hm h1⟩
  | .np, v, h => by simpa only [AV.frz, VRel] using h
  | .nm, v, h => by simpa only [AV.frz, VRel] using h
  | .nf, v, h => by simpa only [AV.frz, VRel] using h
  | .ns, v, h => by simpa only [AV.frz, VRel] using h
  | .ptr k off, v, h => by
    simp only [AV.frz, VRel] at h ⊢
    obtain ⟨b, h1, h2⟩ := h
    exact ⟨b, hb k b h1, h2⟩
  | .rptr k t i off, v, h => by
    simp only [AV.frz]
    cases hc : ks.contains k with
    | true => simp [VRel]
    | false => simp only [cond_false, VRel] at h ⊢; rw [hμ k hc]; exact h
  | .lptr t xs i off, v, h => by
    simp only [AV.frz, VRel] at h ⊢
    obtain ⟨b, o, h1, h2, h3, h4⟩ := h
    exact ⟨b, o, hF b h1, h2.mono hF (fun _ _ => rfl) rfl, h3, h4⟩
  | .rowA k, v, h => by
    simp only [AV.frz]
    cases hc : ks.contains k with
    | true =>
      simp only [cond_true]
      simp only [VRel] at h
      obtain ⟨a, len, cap, sz, A, h1, rfl, hA0⟩ := h
      have h2 := ho k hc
      rw [h1] at h2
      obtain ⟨t, xs, h3, h4, h5, h6, h7, h8⟩ := sz_row h2
      rw [h3]
      simp only [VRel]
      refine enc_list.2 ⟨A, cap, by rw [h5], by omega, fun hA => ?_, fun ad hA hne => ?_⟩
      · refine List.length_eq_zero_iff.1 ?_
        by_cases hcap : cap = 0
        · omega
        · rw [hA0 hcap] at hA
          cases a with
          | none => have := h7 rfl; omega
          | some bo => simp [rowAddr] at hA
      · have hcap : cap ≠ 0 := by
          intro h0
          exact hne (List.length_eq_zero_iff.1 (by omega))
        rw [hA0 hcap] at hA
        cases a with
        | none => simp [rowAddr] at hA
        | some bo =>
          obtain ⟨b, o⟩ := bo
          simp only [rowAddr, Option.some.injEq] at hA
          subst hA
          subst h4
          exact ⟨rfl, hn k b hc (by simp [h1, Pl.owns, hcap]), row_lies hF (h8 b o rfl hcap)⟩
    | false => simp only [cond_false, VRel] at h ⊢; rw [hμ k hc]; exact h
  | .rowS k off n c, v, h => by
    simp only [AV.frz]
    cases hc : ks.contains k with
    | true =>
      simp only [cond_true]
      simp only [VRel] at h
      obtain ⟨a, len, cap, sz, A, cap', h1, hle, hcap', rfl, hA'⟩ := h
      have h2 := ho k hc
      rw [h1] at h2
      obtain ⟨t, xs, h3, h4, h5, h6, h7, h8⟩ := sz_row h2
      rw [h3]
      simp only [VRel]
      have hlen : ((xs.drop off).take n).length = n := by simp; omega
      refine enc_list.2 ⟨A, cap', by rw [hlen], by rw [hlen, hcap']; split <;> omega, fun hA => ?_, fun ad hA hne => ?_⟩
      · refine List.length_eq_zero_iff.1 ?_
        rw [hlen]
        by_cases h0 : cap' = 0
        · rw [hcap'] at h0; split at h0 <;> omega
        · obtain ⟨b, o, _, h9⟩ := hA' h0
          rw [hA] at h9; cases h9
      · have h0 : cap' ≠ 0 := by
          intro h0
          refine hne (List.length_eq_zero_iff.1 ?_)
          rw [hlen]
          rw [hcap'] at h0; split at h0 <;> omega
        obtain ⟨b, o, rfl, h9⟩ := hA' h0
        rw [hA] at h9
        cases h9
        have hcap : cap ≠ 0 := by
          intro h0'
          refine hne (List.length_eq_zero_iff.1 ?_)
          rw [hlen]; omega
        subst h4
        exact ⟨rfl, hn k b hc (by simp [h1, Pl.owns, hcap]), (row_lies hF (h8 b o rfl hcap)).part off n⟩
    | false => simp only [cond_false, VRel] at h ⊢; rw [hμ k hc]; exact h
  | .mp k, v, h => by
    simp only [AV.frz, VRel] at h ⊢
    obtain ⟨b, h1, h2⟩ := h
    exact ⟨b, hm k b h1, h2⟩
  | .fn f cs, v, h => by
    simp only [AV.frz, VRel] at h ⊢
    obtain ⟨us, rfl, h1⟩ := h
    exact ⟨us, rfl, vrelL_frz hF ho hn hμ hb hm h1⟩
  | .undef, v, h => by simpa only [AV.frz, VRel] using h
  | .dead, v, _ => by simp only [AV.frz, VRel]
theorem vrelL_frz {μ μ' : Nat → Pl} {F F' : Nat → Prop} {w : World} {hp : Nat → LObj} {ks : List Nat} (hF : ∀ b, F b → F' b)
    (ho : ∀ k, ks.contains k = true → ORel μ F w (hp k) (μ k)) (hn : ∀ k b, ks.contains k = true → (μ k).owns = some b → F' b)
    (hμ : ∀ k, ks.contains k = false → μ' k = μ k) (hb : ∀ k b, μ k = .box b → μ' k = .box b) (hm : ∀ k b, μ k = .map b → μ' k = .map b) :
    ∀ {cs : List AV} {us : List Value}, VRelL μ F w cs us → VRelL μ' F' w (AV.frzL hp ks cs) us
  | [], us, h => by simpa only [AV.frzL, VRelL] using h
  | c :: cs, us, h => by
    simp only [AV.frzL, VRelL] at h ⊢
    obtain ⟨u, us, rfl, h1, h2⟩ := h
    exact ⟨u, us, rfl, vrel_frz hF ho hn hμ hb hm h1, vrelL_frz hF ho hn hμ hb hm h2⟩
end

end Go.Proofs.YtfepkpindchleaaE
