/- The engine, part 3: what a logical value says of a value of the model, and what a change of the world leaves of it. -/
import Derived.Test.YtfepkpindchleaaE2
import Derived.Calls
import Derived.Below
import Derived.Deep.AppendSrc
namespace Go.Proofs.YtfepkpindchleaaE
open Go
set_option linter.unusedVariables false
set_option linter.unusedSimpArgs false

/-! ### Data in cells that nobody changes (F: the blocks that stay) -/
def Enc (F : Nat → Prop) (w : World) : (t : Ty) → t.den → List Value → Prop
  | .int k, n, vs => vs = [.int k n]
  | .bool, b, vs => vs = [.bool b]
  | .str, s, vs => vs = [.string ⟨List.toArray s⟩]
  | .unit, _, vs => vs = []
  | .list t, xs, vs => ∃ A cap, vs = [.slice A (List.length xs) cap] ∧ List.length xs ≤ cap ∧ (A = none → xs = []) ∧
      ∀ a, A = some a → ∀ (i : Nat) (x : t.den), (xs : List t.den)[i]? = some x → a.spot = none ∧ F a.block ∧
        ∃ us, Enc F w t x us ∧ us.length = t.sz ∧ ∀ (j : Nat) (u : Value), us[j]? = some u → w.cell? ⟨a.block, a.off + i * t.sz + j, none⟩ = some u
  | .pair a b, x, vs => ∃ us us', vs = us ++ us' ∧ Enc F w a x.1 us ∧ Enc F w b x.2 us'

theorem Enc.len {F : Nat → Prop} {w : World} : ∀ {t : Ty} {x : t.den} {vs : List Value}, Enc F w t x vs → vs.length = t.sz
  | .int _, _, _, h => by simp [Enc] at h; subst h; rfl
  | .bool, _, _, h => by simp [Enc] at h; subst h; rfl
  | .str, _, _, h => by simp [Enc] at h; subst h; rfl
  | .unit, _, _, h => by simp [Enc] at h; subst h; rfl
  | .list t, _, _, h => by obtain ⟨A, cap, rfl, _⟩ := h; rfl
  | .pair a b, _, _, h => by obtain ⟨us, us', rfl, h1, h2⟩ := h; simp [h1.len, h2.len, Ty.sz]

theorem Enc.one {F : Nat → Prop} {w : World} : ∀ {t : Ty} {x : t.den} {vs : List Value}, Enc F w t x vs → ∀ u ∈ vs, u.oneCell' = true
  | .int _, _, _, h => by simp [Enc] at h; subst h; simp [Value.oneCell']
  | .bool, _, _, h => by simp [Enc] at h; subst h; simp [Value.oneCell']
  | .str, _, _, h => by simp [Enc] at h; subst h; simp [Value.oneCell']
  | .unit, _, _, h => by simp [Enc] at h; subst h; simp
  | .list t, _, _, h => by obtain ⟨A, cap, rfl, _⟩ := h; simp [Value.oneCell']
  | .pair a b, _, _, h => by
    obtain ⟨us, us', rfl, h1, h2⟩ := h
    intro u hu
    rcases List.mem_append.1 hu with hu | hu
    · exact h1.one u hu
    · exact h2.one u hu

theorem cell_of_block {w w' : World} {b off : Nat} (h : w'.heap[b]? = w.heap[b]?) : w'.cell? ⟨b, off, none⟩ = w.cell? ⟨b, off, none⟩ := by
  simp [World.cell?, h]

theorem Enc.mono {F F' : Nat → Prop} {w w' : World} (hF : ∀ b, F b → F' b) (hw : ∀ b, F b → w'.heap[b]? = w.heap[b]?) :
    ∀ {t : Ty} {x : t.den} {vs : List Value}, Enc F w t x vs → Enc F' w' t x vs
  | .int _, _, _, h => h
  | .bool, _, _, h => h
  | .str, _, _, h => h
  | .unit, _, _, h => h
  | .list t, _, _, h => by
    obtain ⟨A, cap, rfl, hc, hn, ha⟩ := h
    refine ⟨A, cap, rfl, hc, hn, fun a hA i x hx => ?_⟩
    obtain ⟨hs, hb, us, he, hl, hcell⟩ := ha a hA i x hx
    exact ⟨hs, hF _ hb, us, he.mono hF hw, hl, fun j u hu => by rw [cell_of_block (hw _ hb)]; exact hcell j u hu⟩
  | .pair a b, _, _, h => by
    obtain ⟨us, us', rfl, h1, h2⟩ := h
    exact ⟨us, us', rfl, h1.mono hF hw, h2.mono hF hw⟩

/-- Elements of a type from a place on. -/
def Lies (F : Nat → Prop) (w : World) (t : Ty) (xs : List t.den) (b o : Nat) : Prop :=
  ∀ (i : Nat) (x : t.den), xs[i]? = some x → ∃ us, Enc F w t x us ∧ us.length = t.sz ∧ ∀ (j : Nat) (u : Value), us[j]? = some u → w.cell? ⟨b, o + i * t.sz + j, none⟩ = some u

theorem Lies.mono {F F' : Nat → Prop} {w w' : World} (hF : ∀ b, F b → F' b) (hw : ∀ b, F b → w'.heap[b]? = w.heap[b]?) {t : Ty} {xs : List t.den} {b o : Nat}
    (hb : w'.heap[b]? = w.heap[b]?) (h : Lies F w t xs b o) : Lies F' w' t xs b o := fun i x hx => by
  obtain ⟨us, he, hl, hc⟩ := h i x hx
  exact ⟨us, he.mono hF hw, hl, fun j u hu => by rw [cell_of_block hb]; exact hc j u hu⟩

theorem Lies.part {F : Nat → Prop} {w : World} {t : Ty} {xs : List t.den} {b o : Nat} (h : Lies F w t xs b o) (l n : Nat) :
    Lies F w t ((xs.drop l).take n) b (o + l * t.sz) := fun i x hx => by
  have hi : i < n := by
    have := List.getElem?_eq_some_iff.1 hx
    obtain ⟨h1, _⟩ := this
    simp at h1; omega
  have hx' : xs[l + i]? = some x := by
    rw [List.getElem?_take_of_lt hi, List.getElem?_drop] at hx
    exact hx
  obtain ⟨us, he, hl, hc⟩ := h (l + i) x hx'
  refine ⟨us, he, hl, fun j u hu => ?_⟩
  have := hc j u hu
  rw [Nat.add_mul] at this
  rw [Nat.add_assoc o]
  exact this

/-- A slice that nobody changes, in other words. -/
theorem enc_list {F : Nat → Prop} {w : World} {t : Ty} {xs : List t.den} {v : Value} :
    Enc F w (.list t) xs [v] ↔ ∃ A cap, v = .slice A xs.length cap ∧ xs.length ≤ cap ∧ (A = none → xs = []) ∧
      ∀ a, A = some a → xs ≠ [] → a.spot = none ∧ F a.block ∧ Lies F w t xs a.block a.off := by
  constructor
  · rintro ⟨A, cap, hv, hc, hn, h⟩
    refine ⟨A, cap, by simpa using hv, hc, hn, fun a hA hne => ?_⟩
    obtain ⟨x, xs', rfl⟩ := List.exists_cons_of_ne_nil hne
    obtain ⟨hs, hb, _⟩ := h a hA 0 x rfl
    exact ⟨hs, hb, fun i y hy => (h a hA i y hy).2.2⟩
  · rintro ⟨A, cap, rfl, hc, hn, h⟩
    refine ⟨A, cap, rfl, hc, hn, fun a hA i x hx => ?_⟩
    obtain ⟨hs, hb, hl⟩ := h a hA (by rintro rfl; simp at hx)
    exact ⟨hs, hb, hl i x hx⟩

/-! ### Where objects lie -/
inductive Pl where
  | none
  | box (b : Nat)
  | row (a : Option (Nat × Nat)) (len cap sz : Nat)     -- a slice of all of it: block and offset, length, capacity; cells of an element
  | map (b : Nat)

def Pl.owns : Pl → Option Nat
  | .none => Option.none
  | .box b => some b
  | .row (some (b, _)) _ cap _ => if cap = 0 then Option.none else some b
  | .row Option.none _ _ _ => Option.none
  | .map b => some b

def rowAddr : Option (Nat × Nat) → Option Addr
  | some (b, o) => some ⟨b, o, none⟩
  | none => none

mutual
def VRel (μ : Nat → Pl) (F : Nat → Prop) (w : World) : AV → Value → Prop
  | .int k n, v => v = .int k n
  | .bool b, v => v = .bool b
  | .str s, v => v = .string ⟨s.toArray⟩
  | .list t xs, v => Enc F w (.list t) xs [v]
  | .agg cs, v => ∃ us, v = .agg us.toArray ∧ VRelL μ F w cs us ∧ ∀ u ∈ us, u.oneCell' = true
  | .tup cs, v => ∃ us, v = .tuple us.toArray ∧ VRelL μ F w cs us
  | .np, v => v = .pointer none
  | .nm, v => v = .map none
  | .nf, v => v = .nilFunc
  | .ns, v => v = .slice none 0 0
  | .ptr k off, v => ∃ b, μ k = .box b ∧ v = .pointer (some ⟨b, off, none⟩)
  | .rptr k t i off, v => ∃ b o len cap, μ k = .row (some (b, o)) len cap t.sz ∧ i < len ∧ v = .pointer (some ⟨b, o + i * t.sz + off, none⟩)
  | .lptr t xs i off, v => ∃ b o, F b ∧ Lies F w t xs b o ∧ i < xs.length ∧ v = .pointer (some ⟨b, o + i * t.sz + off, none⟩)
  | .rowA k, v => ∃ a len cap sz A, μ k = .row a len cap sz ∧ v = .slice A len cap ∧ (cap ≠ 0 → A = rowAddr a)
  | .rowS k off n c, v => ∃ a len cap sz A cap', μ k = .row a len cap sz ∧ off + n ≤ len ∧ cap' = (if c then n else cap - off) ∧ v = .slice A n cap' ∧
      (cap' ≠ 0 → ∃ b o, a = some (b, o) ∧ A = some ⟨b, o + off * sz, none⟩)
  | .mp k, v => ∃ b, μ k = .map b ∧ v = .map (some b)
  | .fn f cs, v => ∃ us, v = .func (.func f) #[] us.toArray ∧ VRelL μ F w cs us
  | .undef, v => v = undef
  | .dead, _ => True
def VRelL (μ : Nat → Pl) (F : Nat → Prop) (w : World) : List AV → List Value → Prop
  | [], vs => vs = []
  | c :: cs, vs => ∃ u us, vs = u :: us ∧ VRel μ F w c u ∧ VRelL μ F w cs us
end

theorem vrelL_len {μ : Nat → Pl} {F : Nat → Prop} {w : World} : ∀ {cs : List AV} {us : List Value}, VRelL μ F w cs us → us.length = cs.length
  | [], _, h => by simp only [VRelL] at h; subst h; rfl
  | c :: cs, _, h => by simp only [VRelL] at h; obtain ⟨u, us, rfl, _, h⟩ := h; simp [vrelL_len h]

theorem vrelL_get {μ : Nat → Pl} {F : Nat → Prop} {w : World} : ∀ {cs : List AV} {us : List Value}, VRelL μ F w cs us → ∀ {i : Nat} {c : AV}, cs[i]? = some c → ∃ u, us[i]? = some u ∧ VRel μ F w c u
  | [], _, _, i, c, hc => by simp at hc
  | c :: cs, _, h, i, d, hc => by
    simp only [VRelL] at h
    obtain ⟨u, us, rfl, h1, h2⟩ := h
    cases i with
    | zero => simp at hc; subst hc; exact ⟨u, rfl, h1⟩
    | succ i => simp at hc; simpa using vrelL_get h2 hc

theorem vrelL_of_get {μ : Nat → Pl} {F : Nat → Prop} {w : World} : ∀ {cs : List AV} {us : List Value}, us.length = cs.length → (∀ (i : Nat) (c : AV) (u : Value), cs[i]? = some c → us[i]? = some u → VRel μ F w c u) → VRelL μ F w cs us
  | [], us, hl, _ => by simp only [VRelL]; exact List.length_eq_zero_iff.1 hl
  | c :: cs, [], hl, _ => by simp at hl
  | c :: cs, u :: us, hl, h => by
    simp only [VRelL]
    exact ⟨u, us, rfl, h 0 c u rfl rfl, vrelL_of_get (by simpa using hl) fun i c u hc hu => h (i + 1) c u (by simpa using hc) (by simpa using hu)⟩

theorem vrelL_append {μ : Nat → Pl} {F : Nat → Prop} {w : World} : ∀ {cs ds : List AV} {us vs : List Value}, VRelL μ F w cs us → VRelL μ F w ds vs → VRelL μ F w (cs ++ ds) (us ++ vs)
  | [], _, _, _, h, h' => by simp only [VRelL] at h; subst h; exact h'
  | c :: cs, ds, _, vs, h, h' => by
    simp only [VRelL] at h
    obtain ⟨u, us, rfl, h1, h2⟩ := h
    simp only [List.cons_append, VRelL]
    exact ⟨u, us ++ vs, rfl, h1, vrelL_append h2 h'⟩

theorem vrelL_take {μ : Nat → Pl} {F : Nat → Prop} {w : World} {cs : List AV} {us : List Value} (h : VRelL μ F w cs us) (n : Nat) : VRelL μ F w (cs.take n) (us.take n) := by
  refine vrelL_of_get (by simp [vrelL_len h]) fun i c u hc hu => ?_
  have hi : i < n := by obtain ⟨h1, _⟩ := List.getElem?_eq_some_iff.1 hc; simp at h1; omega
  rw [List.getElem?_take_of_lt hi] at hc hu
  obtain ⟨u', hu', hr⟩ := vrelL_get h hc
  rw [hu] at hu'; cases hu'; exact hr

theorem vrelL_drop {μ : Nat → Pl} {F : Nat → Prop} {w : World} {cs : List AV} {us : List Value} (h : VRelL μ F w cs us) (n : Nat) : VRelL μ F w (cs.drop n) (us.drop n) := by
  refine vrelL_of_get (by simp [vrelL_len h]) fun i c u hc hu => ?_
  rw [List.getElem?_drop] at hc hu
  obtain ⟨u', hu', hr⟩ := vrelL_get h hc
  rw [hu] at hu'; cases hu'; exact hr

theorem vrelL_split {μ : Nat → Pl} {F : Nat → Prop} {w : World} : ∀ {cs ds : List AV} {vs : List Value}, VRelL μ F w (cs ++ ds) vs → ∃ us us', vs = us ++ us' ∧ VRelL μ F w cs us ∧ VRelL μ F w ds us'
  | [], _, vs, h => ⟨[], vs, rfl, by simp [VRelL], h⟩
  | c :: cs, ds, vs, h => by
    simp only [List.cons_append, VRelL] at h
    obtain ⟨u, us, rfl, h1, h2⟩ := h
    obtain ⟨a, b, rfl, h3, h4⟩ := vrelL_split h2
    exact ⟨u :: a, b, rfl, by simp only [VRelL]; exact ⟨u, a, rfl, h1, h3⟩, h4⟩

/-! ### Data and its cells -/
theorem flat_rel {μ : Nat → Pl} {F : Nat → Prop} {w : World} : ∀ (t : Ty) (x : t.den) (us : List Value), Enc F w t x us → VRelL μ F w (flat t x) us
  | .int k, n, _, h => by simp only [Enc] at h; subst h; simp [flat, VRelL, VRel]
  | .bool, b, _, h => by simp only [Enc] at h; subst h; simp [flat, VRelL, VRel]
  | .str, s, _, h => by simp only [Enc] at h; subst h; simp [flat, VRelL, VRel]
  | .unit, _, _, h => by simp only [Enc] at h; subst h; simp [flat, VRelL]
  | .list t, xs, us, h => by
    have h' := h
    obtain ⟨A, cap, rfl, _⟩ := h
    simp only [flat, VRelL, VRel]
    exact ⟨_, [], rfl, h', rfl⟩
  | .pair a b, x, _, h => by
    obtain ⟨us, us', rfl, h1, h2⟩ := h
    exact vrelL_append (flat_rel a x.1 us h1) (flat_rel b x.2 us' h2)

theorem unflat_rel {μ : Nat → Pl} {F : Nat → Prop} {w : World} : ∀ (t : Ty) (cs : List AV) (x : t.den) (r : List AV) (vs : List Value), unflat t cs = some (x, r) → VRelL μ F w cs vs →
    ∃ us us', vs = us ++ us' ∧ Enc F w t x us ∧ VRelL μ F w r us'
  | .int k, cs, x, r, vs, h, hv => by
    cases cs with
    | nil => simp [unflat] at h
    | cons c cs =>
      cases c <;> simp [unflat] at h
      obtain ⟨rfl, rfl, rfl⟩ := h
      simp only [VRelL, VRel] at hv
      obtain ⟨_, us, rfl, rfl, hv⟩ := hv
      exact ⟨[_], us, rfl, by simp [Enc], hv⟩
  | .bool, cs, x, r, vs, h, hv => by
    cases cs with
    | nil => simp [unflat] at h
    | cons c cs =>
      cases c <;> simp [unflat] at h
      obtain ⟨rfl, rfl⟩ := h
      simp only [VRelL, VRel] at hv
      obtain ⟨_, us, rfl, rfl, hv⟩ := hv
      exact ⟨[_], us, rfl, by simp [Enc], hv⟩
  | .str, cs, x, r, vs, h, hv => by
    cases cs with
    | nil => simp [unflat] at h
    | cons c cs =>
      cases c <;> simp [unflat] at h
      obtain ⟨rfl, rfl⟩ := h
      simp only [VRelL, VRel] at hv
      obtain ⟨_, us, rfl, rfl, hv⟩ := hv
      exact ⟨[_], us, rfl, by simp [Enc], hv⟩
  | .unit, cs, x, r, vs, h, hv => by
    have : cs = r := by cases cs <;> simp [unflat] at h <;> simp [h]
    subst this
    exact ⟨[], vs, rfl, by simp [Enc], hv⟩
  | .list t, cs, x, r, vs, h, hv => by
    cases cs with
    | nil => simp [unflat] at h
    | cons c cs =>
      cases c <;> simp [unflat] at h
      · rename_i t' xs
        obtain ⟨⟨ht, rfl⟩, rfl⟩ := h
        subst ht
        simp only [VRelL, VRel] at hv
        obtain ⟨v, us, rfl, hx, hv⟩ := hv
        exact ⟨[v], us, rfl, hx, hv⟩
      · obtain ⟨rfl, rfl⟩ := h
        simp only [VRelL, VRel] at hv
        obtain ⟨v, us, rfl, rfl, hv⟩ := hv
        exact ⟨[_], us, rfl, ⟨none, 0, rfl, by simp, fun _ => rfl, fun a ha => by cases ha⟩, hv⟩
  | .pair a b, cs, x, r, vs, h, hv => by
    simp only [unflat] at h
    split at h
    · rename_i x1 r1 h1
      split at h
      · rename_i x2 r2 h2
        simp only [Option.some.injEq, Prod.mk.injEq] at h
        obtain ⟨rfl, rfl⟩ := h
        obtain ⟨us, us1, rfl, e1, hv1⟩ := unflat_rel a cs x1 r1 vs h1 hv
        obtain ⟨us2, us3, rfl, e2, hv2⟩ := unflat_rel b r1 x2 r2 us1 h2 hv1
        exact ⟨us ++ us2, us3, by simp, ⟨us, us2, rfl, e1, e2⟩, hv2⟩
      · simp at h
    · simp at h

theorem unflatAll_rel {μ : Nat → Pl} {F : Nat → Prop} {w : World} {t : Ty} {cs : List AV} {x : t.den} {vs : List Value} (h : unflatAll t cs = some x) (hv : VRelL μ F w cs vs) : Enc F w t x vs := by
  unfold unflatAll at h
  split at h
  · rename_i y hy
    cases h
    obtain ⟨us, us', rfl, e, hr⟩ := unflat_rel t cs _ _ vs hy hv
    simp only [VRelL] at hr
    subst hr
    simpa using e
  · simp at h

/-- A value's cells. -/
theorem cells_rel {μ : Nat → Pl} {F : Nat → Prop} {w : World} {x : AV} {cs : List AV} {v : Value} (h : x.cellsOf = some cs) (hv : VRel μ F w x v) :
    VRelL μ F w cs v.cells.toList ∧ ∀ u ∈ v.cells.toList, u.oneCell' = true := by
  cases x <;> simp [AV.cellsOf] at h <;> subst h <;> simp only [VRel] at hv
  case agg cs => obtain ⟨us, rfl, h1, h2⟩ := hv; exact ⟨by simpa [Value.cells] using h1, by simpa [Value.cells] using h2⟩
  case list t xs =>
    have hv' := hv
    obtain ⟨A, cap, hs, _⟩ := hv
    obtain rfl : v = _ := by simpa using hs
    exact ⟨by simp [Value.cells, VRelL, VRel]; exact hv', by simp [Value.cells, Value.oneCell']⟩
  case ptr k off => obtain ⟨b, h1, rfl⟩ := hv; exact ⟨by simp [Value.cells, VRelL, VRel, h1], by simp [Value.cells, Value.oneCell']⟩
  case rptr k t i off => obtain ⟨b, o, len, cap, h1, h2, rfl⟩ := hv; exact ⟨by simp only [Value.cells, VRelL, VRel]; exact ⟨_, [], rfl, ⟨b, o, len, cap, h1, h2, rfl⟩, rfl⟩, by simp [Value.cells, Value.oneCell']⟩
  case lptr t xs i off => obtain ⟨b, o, h1, h2, h3, rfl⟩ := hv; exact ⟨by simp only [Value.cells, VRelL, VRel]; exact ⟨_, [], rfl, ⟨b, o, h1, h2, h3, rfl⟩, rfl⟩, by simp [Value.cells, Value.oneCell']⟩
  case rowA k => obtain ⟨a, len, cap, sz, A, h1, rfl, h2⟩ := hv; exact ⟨by simp only [Value.cells, VRelL, VRel]; exact ⟨_, [], rfl, ⟨a, len, cap, sz, A, h1, rfl, h2⟩, rfl⟩, by simp [Value.cells, Value.oneCell']⟩
  case rowS k off n c =>
    obtain ⟨a, len, cap, sz, A, cap', h1, h2, h3, rfl, h4⟩ := hv
    exact ⟨by simp only [Value.cells, VRelL, VRel]; exact ⟨_, [], rfl, ⟨a, len, cap, sz, A, cap', h1, h2, h3, rfl, h4⟩, rfl⟩, by simp [Value.cells, Value.oneCell']⟩
  case mp k => obtain ⟨b, h1, rfl⟩ := hv; exact ⟨by simp [Value.cells, VRelL, VRel, h1], by simp [Value.cells, Value.oneCell']⟩
  case fn f caps => obtain ⟨us, rfl, h1⟩ := hv; exact ⟨by simp only [Value.cells, VRelL, VRel]; exact ⟨_, [], rfl, ⟨us, rfl, h1⟩, rfl⟩, by simp [Value.cells, Value.oneCell']⟩
  all_goals (subst hv; exact ⟨by simp [Value.cells, VRelL, VRel], by simp [Value.cells, Value.oneCell']⟩)

theorem asTy_rel {μ : Nat → Pl} {F : Nat → Prop} {w : World} {t : Ty} {v : AV} {x : t.den} {u : Value} (h : asTy t v = some x) (hv : VRel μ F w v u) : Enc F w t x u.cells.toList := by
  unfold asTy at h
  split at h
  · rename_i cs hcs
    exact unflatAll_rel h (cells_rel hcs hv).1
  · simp at h

end Go.Proofs.YtfepkpindchleaaE
