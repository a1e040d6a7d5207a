/- strings.Builder: words. -/
import Derived.Test.YtfepkpindchleaaB4
import Derived.Test.YtfepkpindchleaaW5
namespace Go.Proofs.YtfepkpindchleaaE
open Go Go.Proofs.YtfepkpindchleaaB
set_option linter.unusedVariables false
set_option linter.unusedSimpArgs false
def bldO (self : AV) (r : AV) : LObj := .boxT (some 88) [self, r]
theorem cells_two {us : List Value} {μ : Nat → Pl} {F : Nat → Prop} {w : World} {x y : AV} (h : VRelL μ F w [x, y] us) : ∃ u v, us = [u, v] ∧ VRel μ F w x u ∧ VRel μ F w y v := by
  simp only [VRelL] at h
  obtain ⟨u, _, rfl, h1, v, _, rfl, h2, rfl⟩ := h
  exact ⟨u, v, rfl, h1, h2⟩
theorem check_sem (new : Bool) (xs : List Int) : SemF Try.prog 69 [.ptr 0 0] [bldO (if new then .np else .ptr 0 0) (.rowA 1), .row (.int .u8) xs] [] [bldO (.ptr 0 0) (.rowA 1), .row (.int .u8) xs] := by
  refine ⟨⟨_, Try.func69, by decide, by kernel_rfl⟩, fun w μ F us hh hv => ?_⟩
  simp only [VRelL, VRel] at hv
  obtain ⟨u, us', rfl, ⟨b, hb, rfl⟩, rfl⟩ := hv
  have h0 := hh.obj 0 (by simp)
  have h1 := hh.obj 1 (by simp)
  rw [hb] at h0
  simp only [ofHp, bldO, ORel] at h0
  obtain ⟨us, E, fz, g1, g2, g3, g4, g5⟩ := h0
  obtain ⟨u0, u1, rfl, r0, r1⟩ := cells_two g3
  have hE : E = 88 := g5 88 rfl
  subst hE
  have hF0 := hh.out 0 b (by rw [hb]; rfl)
  cases new with
  | false =>
    simp only [Bool.false_eq_true, if_false, VRel] at r0
    obtain ⟨b', hb', rfl⟩ := r0
    rw [hb] at hb'
    cases hb'
    have h := check_used b w (by simp [World.cell?, g1])
    refine h.mono ?_
    rintro e w' ⟨rfl, rfl⟩
    refine ⟨_, rfl, μ, F, by simp [tupled, VRel, VRelL], ?_, ⟨rfl, rfl, rfl, Nat.le_refl _, fun _ _ _ => rfl, fun _ h => h, fun _ h => .inl h, fun k b h => .inl ⟨k, h⟩⟩, by simp, fun k b _ h => h, fun k b _ h => h⟩
    simpa using hh
  | true =>
    simp only [if_true, VRel] at r0
    subst r0
    have hfree := g2 0 (by simp)
    have h := check_new b u1 fz w g1 (by simpa using hfree)
    refine h.mono ?_
    rintro e w' ⟨rfl, rfl⟩
    have ot : ∀ j, j ≠ b → (w.setCell ⟨b, 0, none⟩ (.pointer (some ⟨b, 0, none⟩))).heap[j]? = w.heap[j]? := fun j hj => Go.RowKit.Below.heap_setCell _ _ _ _ hj
    have at_ : (w.setCell ⟨b, 0, none⟩ (.pointer (some ⟨b, 0, none⟩))).heap[b]? = some (.cells #[.pointer (some ⟨b, 0, none⟩), u1] 88 fz) := by
      simp [World.setCell, Array.getElem?_modify, g1]
    have hFw : ∀ b', F b' → (w.setCell ⟨b, 0, none⟩ (.pointer (some ⟨b, 0, none⟩))).heap[b']? = w.heap[b']? := fun b' hb' => ot b' (fun e => hF0.1 (e ▸ hb'))
    have hsz : (w.setCell ⟨b, 0, none⟩ (.pointer (some ⟨b, 0, none⟩))).heap.size = w.heap.size := by simp [World.setCell]
    refine ⟨_, rfl, μ, F, by simp [tupled, VRel, VRelL], ⟨fun k hk => ?_, hh.top, hh.one, fun k b' hk => by rw [hsz]; exact hh.out k b' hk, fun b' hb' => by rw [hsz]; exact hh.inn b' hb'⟩,
      ⟨rfl, rfl, rfl, by rw [hsz]; exact Nat.le_refl _, fun b' _ hn => ot b' (fun e => hn ⟨0, by rw [hb, e]; rfl⟩), fun _ h => h, fun _ h => .inl h, fun k b h => .inl ⟨k, h⟩⟩, by simp, fun k b _ h => h, fun k b _ h => h⟩
    match k, hk with
    | 0, _ =>
      rw [hb]
      simp only [ofHp, bldO, ORel]
      refine ⟨[.pointer (some ⟨b, 0, none⟩), u1], 88, fz, at_, g2, ?_, ?_, fun n hn => (Option.some.inj hn)⟩
      · simp only [VRelL]
        exact ⟨_, _, rfl, by simp only [VRel]; exact ⟨b, hb, rfl⟩, _, _, rfl, vrel_mono (fun _ h => h) hFw (fun _ _ => rfl) r1, rfl⟩
      · intro u hu
        simp at hu
        rcases hu with rfl | rfl
        · rfl
        · exact g4 _ (by simp)
    | 1, _ =>
      simp only [ofHp] at h1 ⊢
      exact orel_mono (fun _ h => h) hFw (fun b' hb' => ot b' (fun e => by
        have := hh.one 1 0 b' hb' (by rw [hb, e]; rfl)
        omega)) (by simp [LObj.refs]) h1
def osNew : OSpec := { f := 69, sh := [.ptr 0 0], so := [.tbox 88 [.np, .row 1], .row (.int .u8)], F := fun _ (_, xs, _) => .ret ([], [.boxT (some 88) [.ptr 0 0, .rowA 1], .row (.int .u8) xs]) }
def osUsed : OSpec := { f := 69, sh := [.ptr 0 0], so := [.tbox 88 [.ptr 0 0, .row 1], .row (.int .u8)], F := fun _ (_, xs, _) => .ret ([], [.boxT (some 88) [.ptr 0 0, .rowA 1], .row (.int .u8) xs]) }
theorem okNew : osNew.Ok Try.prog := by
  rintro x y r h
  obtain ⟨_, (xs : List Int), _⟩ := y
  cases h
  exact check_sem true xs
theorem okUsed : osUsed.Ok Try.prog := by
  rintro x y r h
  obtain ⟨_, (xs : List Int), _⟩ := y
  cases h
  exact check_sem false xs
theorem bytes_back {xs : List Int} (h : bytesOk xs = true) : ∀ (j : Nat) (x : UInt8), (intBytes xs)[j]? = some x → xs[j]? = some (x.toNat : Int) := fun j x hx => by
  simp only [intBytes, List.getElem?_map, Option.map_eq_some_iff] at hx
  obtain ⟨n, hn, rfl⟩ := hx
  have := List.all_eq_true.1 h n (List.mem_of_getElem? hn)
  simp only [Bool.and_eq_true, decide_eq_true_eq] at this
  rw [hn]
  congr 1
  simp
  omega
theorem string_sem (xs : List Int) (hok : bytesOk xs = true) (hne : xs ≠ []) (hlen : xs.length ≤ 9223372036854775807) : SemF Try.prog 53 [.ptr 0 0] [bldO (.ptr 0 0) (.rowA 1), .row (.int .u8) xs] [.str (intBytes xs)] [bldO (.ptr 0 0) .dead, .gone] := by
  refine ⟨⟨_, Try.func53, by decide, by kernel_rfl⟩, fun w μ F us hh hv => ?_⟩
  simp only [VRelL, VRel] at hv
  obtain ⟨u, us', rfl, ⟨b, hb, rfl⟩, rfl⟩ := hv
  have h0 := hh.obj 0 (by simp)
  have h1 := hh.obj 1 (by simp)
  rw [hb] at h0
  simp only [ofHp, bldO, ORel] at h0
  obtain ⟨us, E, fz, g1, g2, g3, g4, g5⟩ := h0
  obtain ⟨u0, u1, rfl, r0, r1⟩ := cells_two g3
  simp only [VRel] at r0 r1
  obtain ⟨b', hb', rfl⟩ := r0
  rw [hb] at hb'
  cases hb'
  obtain ⟨al, len, cap, sz, A, hμ1, rfl, hA⟩ := r1
  simp only [ofHp] at h1
  rw [hμ1] at h1
  simp only [ORel] at h1
  obtain ⟨rfl, rfl, hle, hcap0, hrow⟩ := h1
  have hpos : 0 < xs.length := List.length_pos_iff.2 hne
  have hcapne : cap ≠ 0 := by omega
  cases al with
  | none => exact absurd (hcap0 rfl) hcapne
  | some go =>
    obtain ⟨g, o⟩ := go
    have hAeq := hA hcapne
    simp only [rowAddr] at hAeq
    subst hAeq
    obtain ⟨cs, E2, fz2, k1, k2, k3, k4, k5⟩ := hrow g o rfl hcapne
    have hE2 : E2 = 5 := k5 rfl
    subst hE2
    simp only [Ty.sz, Nat.mul_one] at k3 k4
    have hl : (intBytes xs).length = xs.length := by simp [intBytes]
    have hgb : g ≠ b := fun e => by
      have := hh.one 1 0 b (by rw [hμ1]; simp [Pl.owns, hcapne, e]) (by rw [hb]; rfl)
      omega
    have h := string_walk b g o cap cs.length (intBytes xs) w (by rw [hl]; simp [World.cell?, g1]) hcapne (by simp [World.shape?, k1]) (by simpa [intBytes] using hne) (by omega) (by omega) (fun j x hx => by
      have hb := bytes_back hok j x hx
      obtain ⟨vs, e1, e2, e3⟩ := k4 j _ hb
      simp only [Enc] at e1
      subst e1
      have := e3 0 _ rfl
      rw [addr_add]
      simp [World.cell?, k1, this]
      simpa using this)
    refine h.mono ?_
    rintro e w' ⟨rfl, rfl⟩
    have ot : ∀ j, j ≠ g → (w.drew.freeze ⟨g, o, none⟩ (intBytes xs).length).heap[j]? = w.heap[j]? := fun j hj => by
      unfold World.freeze
      split
      · rfl
      · simp only [Array.getElem?_modify]
        rw [if_neg (by omega)]
        rfl
    have hsz : (w.drew.freeze ⟨g, o, none⟩ (intBytes xs).length).heap.size = w.heap.size := by
      unfold World.freeze
      split
      · rfl
      · simp
    have hF1 := hh.out 1 g (by rw [hμ1]; simp [Pl.owns, hcapne])
    have how : ∀ k b', (setPl μ 1 .none k).owns = some b' → (μ k).owns = some b' := fun k b' hk => by
      by_cases h : k = 1
      · subst h; rw [setPl_at] at hk; cases hk
      · rwa [setPl_ne h] at hk
    refine ⟨_, rfl, setPl μ 1 .none, F, by simp [tupled, VRel], ⟨fun k hk => ?_, fun k hk => ?_, fun k k' b' h1 h2 => hh.one k k' b' (how k b' h1) (how k' b' h2), fun k b' hk => by rw [hsz]; exact hh.out k b' (how k b' hk), fun b' hb' => by rw [hsz]; exact hh.inn b' hb'⟩,
      ⟨?_, ?_, ?_, by rw [hsz]; exact Nat.le_refl _, fun b' _ hn => ot b' (fun e => hn ⟨1, by rw [hμ1, e]; simp [Pl.owns, hcapne]⟩), fun _ h => h, fun _ h => .inl h, fun k b' h => .inl ⟨k, how k b' h⟩⟩, by simp, fun k b' hk h => ?_, fun k b' hk h => ?_⟩
    · match k, hk with
      | 0, _ =>
        rw [setPl_ne (by omega), hb]
        simp only [ofHp, bldO, ORel]
        refine ⟨_, 88, fz, by rw [ot b (fun e => hgb e.symm), g1, g5 88 rfl], g2, ?_, g4, fun n hn => (Option.some.inj hn)⟩
        simp only [VRelL, VRel]
        exact ⟨_, _, rfl, ⟨b, by rw [setPl_ne (by omega)]; exact hb, rfl⟩, _, _, rfl, trivial, rfl⟩
      | 1, _ =>
        rw [setPl_at]
        simp only [ofHp, ORel]
    · by_cases h : k = 1
      · subst h; exact setPl_at _ _ _
      · rw [setPl_ne h]; exact hh.top k hk
    · unfold World.freeze; split <;> rfl
    · unfold World.freeze; split <;> rfl
    · unfold World.freeze; split <;> rfl
    · have : k ≠ 1 := fun e => by subst e; rw [hμ1] at h; cases h
      rw [setPl_ne this]; exact h
    · have : k ≠ 1 := fun e => by subst e; rw [hμ1] at h; cases h
      rw [setPl_ne this]; exact h
def osStr : OSpec := { f := 53, sh := [.ptr 0 0], so := [.tbox 88 [.ptr 0 0, .row 1], .row (.int .u8)], F := fun _ (_, xs, _) => .on (bytesOk xs && (!xs.isEmpty && Nat.ble xs.length 9223372036854775807)) ([.str (intBytes xs)], [.boxT (some 88) [.ptr 0 0, .dead], .gone]) }
theorem okStr : osStr.Ok Try.prog := by
  rintro x y r h
  obtain ⟨_, (xs : List Int), _⟩ := y
  obtain ⟨hc, rfl⟩ := Tr.get_on h
  simp only [Bool.and_eq_true] at hc
  exact string_sem xs hc.1 (by intro e; rw [e] at hc; simp at hc) (Nat.le_of_ble_eq_true hc.2.2)
end Go.Proofs.YtfepkpindchleaaE
