import Derived.Test.YtpledbapngdkeaaPFrontNever3
set_option maxRecDepth 1000000
namespace Go.Proofs.YtpledbapngdkeaaE
open Go Go.Proofs.YtpledbapngdkeaaB
set_option linter.unusedVariables false
set_option linter.unusedSimpArgs false
def X4d (s : List UInt8) : List (List UInt8) := (Ua s).1
def Jq (s : List UInt8) : Bool := (Ua s).2 == [0]
theorem Q29 {F : Nat → Prop} {w : World} : ∀ (l : List (List UInt8)), EncL F w .str l (strs l)
 | [] => by simp [EncL, strs]
 | x :: l => by
   simp only [EncL]
   exact ⟨[.string ⟨x.toArray⟩], strs l, rfl, rfl, Q29 l⟩
theorem J42 {w : World} {base : Nat} {v : Value} {l : List (List UInt8)} (h : w.ownsRow base 9 1 v l.length (strs l)) {F : Nat → Prop} (hF : ∀ b, v.ownBlock = some b → F b) : Enc F w (.list .str) l [v] := by
 refine Jg.2 ?_
 rcases h.2 with ⟨rfl, h0⟩ | ⟨g, cap, cur, rfl, hb, hg, hle, hcap, hcs, htk⟩
 · have : l = [] := List.length_eq_zero_iff.1 h0
   subst this
   exact ⟨none, 0, rfl, by simp, fun _ => rfl, fun a ha => by cases ha⟩
 · refine ⟨some ⟨g, 0, none⟩, cap, rfl, hle, fun h => (by cases h), fun a ha _ => ?_⟩
   cases ha
   refine ⟨rfl, hF g rfl, J2y (Q29 l) fun j u hu => ?_⟩
   have := h.cells (g := g) rfl j u hu
   rw [Qc] at this
   exact this
theorem Q2m (s : List UInt8) (hb : bigS s = true) : SemF Try.prog 90 [.str s] []
    (if (Ua s).2 = [0] then (if s.length ≤ 255 then [.list .str (X4d s), .int .i64 0] else [.list .str [], .int .i64 3]) else [.list .str [], .int .i64 2]) [] := by
 have hs : s.length ≤ 1000000000000 := by simpa [bigS] using hb
 refine ⟨⟨_, Try.func90, by decide, by kernel_rfl⟩, fun w μ F us hh hv => ?_⟩
 simp only [Q0, VRel] at hv
 obtain ⟨u, us', rfl, rfl, rfl⟩ := hv
 have h := callsIn_wide.1 (X30 3 (by omega) s hs w)
 refine h.mono ?_
 rintro e w' ⟨v, rfl, u, en, rfl, hB, hc⟩
 have hμ : ∀ k, μ k = .none := fun k => hh.top k (by simp)
 refine ⟨_, rfl, fun _ => .none, fun b => F b ∨ (w.heap.size ≤ b ∧ b < w'.heap.size), ?_, ⟨fun k hk => by simp at hk, fun _ _ => rfl, fun k k' b h => by simp [Pl.owns] at h, fun k b h => by simp [Pl.owns] at h, fun b hb => ?_⟩,
  ⟨hB.os, hB.tape, hB.output, hB.size, fun b hb _ => hB.block b hb, fun b hb => .inl hb, fun b hb => ?_, fun k b h => by simp [Pl.owns] at h⟩, by simp, fun k b hk => by simp at hk, fun k b hk => by simp at hk⟩
 · rcases hc with ⟨h1, rfl, rfl⟩ | ⟨h1, h2, rfl, rfl⟩ | ⟨h1, h2, rfl, hrow⟩
   · rw [if_neg h1]
     simp only [J9, VRel, Q0]
     exact ⟨_, rfl, _, _, rfl, ⟨none, 0, rfl, by simp, fun _ => rfl, fun a ha => by cases ha⟩, _, _, rfl, rfl, rfl⟩
   · rw [if_pos h1, if_neg (by omega)]
     simp only [J9, VRel, Q0]
     exact ⟨_, rfl, _, _, rfl, ⟨none, 0, rfl, by simp, fun _ => rfl, fun a ha => by cases ha⟩, _, _, rfl, rfl, rfl⟩
   · rw [if_pos h1, if_pos h2]
     simp only [J9, VRel, Q0]
     refine ⟨_, rfl, _, _, rfl, J42 hrow (fun b hb => .inr ?_), _, _, rfl, rfl, rfl⟩
     have := hrow.lt b hb
     omega
 · rcases hb with hb | hb
   · exact Nat.lt_of_lt_of_le (hh.inn b hb) hB.size
   · exact hb.2
 · rcases hb with hb | hb
   · exact .inl hb
   · exact .inr (.inr hb.1)
def fs90 : FSpec := { f := 90, ins := [(.str, false)], outs := [(.list .str, false), (.int .i64, false)], F := fun (s, _) => .br (bigS s) (.br (Jq s) (.br (decide (s.length > 255)) (.ret (([] : List (List UInt8)), (3 : Int), ())) (.ret (X4d s, (0 : Int), ()))) (.ret (([] : List (List UInt8)), (2 : Int), ()))) .no }
theorem X4b : fs90.Ok Try.prog := by
 rintro ⟨(s : List UInt8), _⟩ y h
 simp only [fs90, Tr.get] at h
 cases hb : bigS s with
 | false => rw [hb] at h; cases h
 | true =>
   rw [hb, cond_true] at h
   have := Q2m s hb
   cases hr : Jq s with
   | false =>
     rw [hr, cond_false] at h
     cases h
     have hne : (Ua s).2 ≠ [0] := by simpa [Jq] using hr
     rw [if_neg hne] at this
     exact this
   | true =>
     rw [hr, cond_true] at h
     have he : (Ua s).2 = [0] := by simpa [Jq] using hr
     rw [if_pos he] at this
     by_cases hl : s.length ≤ 255
     · rw [if_pos hl] at this
       rw [show decide (s.length > 255) = false by simp; omega, cond_false] at h
       cases h
       exact this
     · rw [if_neg hl] at this
       rw [show decide (s.length > 255) = true by simp; omega, cond_true] at h
       cases h
       exact this
def bldO (self : AV) (r : AV) : LObj := .boxT (some 203) [self, r]
theorem V1o {us : List Value} {μ : Nat → Pl} {F : Nat → Prop} {w : World} {x y : AV} (h : Q0 μ F w [x, y] us) : ∃ u v, us = [u, v] ∧ VRel μ F w x u ∧ VRel μ F w y v := by
 simp only [Q0] at h
 obtain ⟨u, _, rfl, h1, v, _, rfl, h2, rfl⟩ := h
 exact ⟨u, v, rfl, h1, h2⟩
theorem V1l (new : Bool) (xs : List Int) : SemF Try.prog 151 [.ptr 0 0] [bldO (if new then .np else .ptr 0 0) (.rowA 1), .row (.int .u8) xs] [] [bldO (.ptr 0 0) (.rowA 1), .row (.int .u8) xs] := by
 refine ⟨⟨_, Try.func151, by decide, by kernel_rfl⟩, fun w μ F us hh hv => ?_⟩
 simp only [Q0, VRel] at hv
 obtain ⟨u, us', rfl, ⟨b, hb, rfl⟩, rfl⟩ := hv
 have h0 := hh.obj 0 (by simp)
 have h1 := hh.obj 1 (by simp)
 rw [hb] at h0
 simp only [ofHp, bldO, ORel] at h0
 obtain ⟨us, E, fz, g1, g2, g3, g4, g5⟩ := h0
 obtain ⟨u0, u1, rfl, r0, r1⟩ := V1o g3
 have hE : E = 203 := g5 203 rfl
 subst hE
 have hF0 := hh.out 0 b (by rw [hb]; rfl)
 cases new with
 | false =>
   simp only [Bool.false_eq_true, if_false, VRel] at r0
   obtain ⟨b', hb', rfl⟩ := r0
   rw [hb] at hb'
   cases hb'
   have h := Z2h b w (by simp [World.cell?, g1])
   refine h.mono ?_
   rintro e w' ⟨rfl, rfl⟩
   refine ⟨_, rfl, μ, F, by simp [J9, VRel, Q0], ?_, ⟨rfl, rfl, rfl, Nat.le_refl _, fun _ _ _ => rfl, fun _ h => h, fun _ h => .inl h, fun k b h => .inl ⟨k, h⟩⟩, by simp, fun k b _ h => h, fun k b _ h => h⟩
   simpa using hh
 | true =>
   simp only [if_true, VRel] at r0
   subst r0
   have hfree := g2 0 (by simp)
   have h := U36 b u1 fz w g1 (by simpa using hfree)
   refine h.mono ?_
   rintro e w' ⟨rfl, rfl⟩
   have ot : ∀ j, j ≠ b → (w.setCell ⟨b, 0, none⟩ (.pointer (some ⟨b, 0, none⟩))).heap[j]? = w.heap[j]? := fun j hj => Go.RowKit.Below.heap_setCell _ _ _ _ hj
   have at_ : (w.setCell ⟨b, 0, none⟩ (.pointer (some ⟨b, 0, none⟩))).heap[b]? = some (.cells #[.pointer (some ⟨b, 0, none⟩), u1] 203 fz) := by
    simp [World.setCell, Array.getElem?_modify, g1]
   have hFw : ∀ b', F b' → (w.setCell ⟨b, 0, none⟩ (.pointer (some ⟨b, 0, none⟩))).heap[b']? = w.heap[b']? := fun b' hb' => ot b' (fun e => hF0.1 (e ▸ hb'))
   have hsz : (w.setCell ⟨b, 0, none⟩ (.pointer (some ⟨b, 0, none⟩))).heap.size = w.heap.size := by simp [World.setCell]
   refine ⟨_, rfl, μ, F, by simp [J9, VRel, Q0], ⟨fun k hk => ?_, hh.top, hh.one, fun k b' hk => by rw [hsz]; exact hh.out k b' hk, fun b' hb' => by rw [hsz]; exact hh.inn b' hb'⟩,
    ⟨rfl, rfl, rfl, by rw [hsz]; exact Nat.le_refl _, fun b' _ hn => ot b' (fun e => hn ⟨0, by rw [hb, e]; rfl⟩), fun _ h => h, fun _ h => .inl h, fun k b h => .inl ⟨k, h⟩⟩, by simp, fun k b _ h => h, fun k b _ h => h⟩
   match k, hk with
   | 0, _ =>
     rw [hb]
     simp only [ofHp, bldO, ORel]
     refine ⟨[.pointer (some ⟨b, 0, none⟩), u1], 203, fz, at_, g2, ?_, ?_, fun n hn => (Option.some.inj hn)⟩
     · simp only [Q0]
       exact ⟨_, _, rfl, by simp only [VRel]; exact ⟨b, hb, rfl⟩, _, _, rfl, Jr (fun _ h => h) hFw (fun _ _ => rfl) r1, rfl⟩
     · intro u hu
       simp at hu
       rcases hu with rfl | rfl
       · rfl
       · exact g4 _ (by simp)
   | 1, _ =>
     simp only [ofHp] at h1 ⊢
     exact Za (fun _ h => h) hFw (fun b' hb' => ot b' (fun e => by
      have := hh.one 1 0 b' hb' (by rw [hb, e]; rfl)
      omega)) (by simp [LObj.refs]) h1
def V1m : OSpec := { f := 151, sh := [.ptr 0 0], so := [.tbox 203 [.np, .row 1], .row (.int .u8)], F := fun _ (_, xs, _) => .ret ([], [.boxT (some 203) [.ptr 0 0, .rowA 1], .row (.int .u8) xs]) }
def X0z : OSpec := { f := 151, sh := [.ptr 0 0], so := [.tbox 203 [.ptr 0 0, .row 1], .row (.int .u8)], F := fun _ (_, xs, _) => .ret ([], [.boxT (some 203) [.ptr 0 0, .rowA 1], .row (.int .u8) xs]) }
theorem X2c : V1m.Ok Try.prog := by
 rintro x y r h
 obtain ⟨_, (xs : List Int), _⟩ := y
 cases h
 exact V1l true xs
theorem U1g : X0z.Ok Try.prog := by
 rintro x y r h
 obtain ⟨_, (xs : List Int), _⟩ := y
 cases h
 exact V1l false xs
theorem U2n {xs : List Int} (h : J5 xs = true) : ∀ (j : Nat) (x : UInt8), (Z0 xs)[j]? = some x → xs[j]? = some (x.toNat : Int) := fun j x hx => by
 simp only [Z0, List.getElem?_map, Option.map_eq_some_iff] at hx
 obtain ⟨n, hn, rfl⟩ := hx
 have := List.all_eq_true.1 h n (List.mem_of_getElem? hn)
 simp only [Bool.and_eq_true, decide_eq_true_eq] at this
 rw [hn]
 congr 1
 simp
 omega
theorem Q2f (xs : List Int) (hok : J5 xs = true) (hne : xs ≠ []) (hlen : xs.length ≤ 9223372036854775807) : SemF Try.prog 137 [.ptr 0 0] [bldO (.ptr 0 0) (.rowA 1), .row (.int .u8) xs] [.str (Z0 xs)] [bldO (.ptr 0 0) .dead, .gone] := by
 refine ⟨⟨_, Try.func137, by decide, by kernel_rfl⟩, fun w μ F us hh hv => ?_⟩
 simp only [Q0, VRel] at hv
 obtain ⟨u, us', rfl, ⟨b, hb, rfl⟩, rfl⟩ := hv
 have h0 := hh.obj 0 (by simp)
 have h1 := hh.obj 1 (by simp)
 rw [hb] at h0
 simp only [ofHp, bldO, ORel] at h0
 obtain ⟨us, E, fz, g1, g2, g3, g4, g5⟩ := h0
 obtain ⟨u0, u1, rfl, r0, r1⟩ := V1o g3
 simp only [VRel] at r0 r1
 obtain ⟨b', hb', rfl⟩ := r0
 rw [hb] at hb'
 cases hb'
 obtain ⟨al, len, cap, sz, A, hμ1, rfl, hA⟩ := r1
 simp only [ofHp] at h1
 rw [hμ1] at h1
 simp only [ORel] at h1
 obtain ⟨rfl, rfl, hle, hcap0, hrow⟩ := h1
 have hpos : 0 < xs.length := List.length_pos_iff.2 hne
 have hcapne : cap ≠ 0 := by omega
 cases al with
 | none => exact absurd (hcap0 rfl) hcapne
 | some go =>
   obtain ⟨g, o⟩ := go
   have hAeq := hA hcapne
   simp only [Vs] at hAeq
   subst hAeq
   obtain ⟨cs, E2, fz2, k1, k2, k3, k4, k5⟩ := hrow g o rfl hcapne
   have hE2 : E2 = 5 := k5 rfl
   subst hE2
   simp only [Ty.sz, Nat.mul_one] at k3 k4
   have hl : (Z0 xs).length = xs.length := by simp [Z0]
   have hgb : g ≠ b := fun e => by
    have := hh.one 1 0 b (by rw [hμ1]; simp [Pl.owns, hcapne, e]) (by rw [hb]; rfl)
    omega
   have h := Z23 b g o cap cs.length (Z0 xs) w (by rw [hl]; simp [World.cell?, g1]) hcapne (by simp [World.shape?, k1]) (by simpa [Z0] using hne) (by omega) (by omega) (fun j x hx => by
    have hb := U2n hok j x hx
    obtain ⟨vs, e1, e2, e3⟩ := k4 j _ hb
    simp only [Enc] at e1
    subst e1
    have := e3 0 _ rfl
    rw [Qc]
    simp [World.cell?, k1, this]
    simpa using this)
   refine h.mono ?_
   rintro e w' ⟨rfl, rfl⟩
   have ot : ∀ j, j ≠ g → (w.drew.freeze ⟨g, o, none⟩ (Z0 xs).length).heap[j]? = w.heap[j]? := fun j hj => by
    unfold World.freeze
    split
    · rfl
    · simp only [Array.getElem?_modify]
      rw [if_neg (by omega)]
      rfl
   have hsz : (w.drew.freeze ⟨g, o, none⟩ (Z0 xs).length).heap.size = w.heap.size := by
    unfold World.freeze
    split
    · rfl
    · simp
   have hF1 := hh.out 1 g (by rw [hμ1]; simp [Pl.owns, hcapne])
   have how : ∀ k b', (Qg μ 1 .none k).owns = some b' → (μ k).owns = some b' := fun k b' hk => by
    by_cases h : k = 1
    · subst h; rw [Jb] at hk; cases hk
    · rwa [X9 h] at hk
   refine ⟨_, rfl, Qg μ 1 .none, F, by simp [J9, VRel], ⟨fun k hk => ?_, fun k hk => ?_, fun k k' b' h1 h2 => hh.one k k' b' (how k b' h1) (how k' b' h2), fun k b' hk => by rw [hsz]; exact hh.out k b' (how k b' hk), fun b' hb' => by rw [hsz]; exact hh.inn b' hb'⟩,
    ⟨?_, ?_, ?_, by rw [hsz]; exact Nat.le_refl _, fun b' _ hn => ot b' (fun e => hn ⟨1, by rw [hμ1, e]; simp [Pl.owns, hcapne]⟩), fun _ h => h, fun _ h => .inl h, fun k b' h => .inl ⟨k, how k b' h⟩⟩, by simp, fun k b' hk h => ?_, fun k b' hk h => ?_⟩
   · match k, hk with
     | 0, _ =>
       rw [X9 (by omega), hb]
       simp only [ofHp, bldO, ORel]
       refine ⟨_, 203, fz, by rw [ot b (fun e => hgb e.symm), g1, g5 203 rfl], g2, ?_, g4, fun n hn => (Option.some.inj hn)⟩
       simp only [Q0, VRel]
       exact ⟨_, _, rfl, ⟨b, by rw [X9 (by omega)]; exact hb, rfl⟩, _, _, rfl, trivial, rfl⟩
     | 1, _ =>
       rw [Jb]
       simp only [ofHp, ORel]
   · by_cases h : k = 1
     · subst h; exact Jb _ _ _
     · rw [X9 h]; exact hh.top k hk
   · unfold World.freeze; split <;> rfl
   · unfold World.freeze; split <;> rfl
   · unfold World.freeze; split <;> rfl
   · have : k ≠ 1 := fun e => by subst e; rw [hμ1] at h; cases h
     rw [X9 this]; exact h
   · have : k ≠ 1 := fun e => by subst e; rw [hμ1] at h; cases h
     rw [X9 this]; exact h
def U0b : OSpec := { f := 137, sh := [.ptr 0 0], so := [.tbox 203 [.ptr 0 0, .row 1], .row (.int .u8)], F := fun _ (_, xs, _) => .on (J5 xs && (!xs.isEmpty && Nat.ble xs.length 9223372036854775807)) ([.str (Z0 xs)], [.boxT (some 203) [.ptr 0 0, .dead], .gone]) }
theorem okStr : U0b.Ok Try.prog := by
 rintro x y r h
 obtain ⟨_, (xs : List Int), _⟩ := y
 obtain ⟨hc, rfl⟩ := Tr.get_on h
 simp only [Bool.and_eq_true] at hc
 exact Q2f xs hc.1 (by intro e; rw [e] at hc; simp at hc) (Nat.le_of_ble_eq_true hc.2.2)
open Go
def J4g (b : List Int) : Tr Res := .ret ([.int .i64 (↑b.length : Int)], [.boxT (some 203) [.np, .rowA 1], .row (.int .u8) b])
def V01 : OSpec := { f := 134, sh := [.ptr 0 0], so := [.tbox 203 [.np, .row 1], .row (.int .u8)], F := fun _ (_, b, _) => J4g b }
theorem X4v (b : List Int) : evC T0 (orcB [] [V1m, X0z]) (lpOf h134 2 (lsOf [])) c134 1000000 (V1 [.ptr 0 0] [.boxT (some 203) [.np, .rowA 1], .row (.int .u8) b] Try.f134.ntmps) (J1 T0 false 2 Try.f134) = (J4g b).get := by kernel_rfl
theorem Z4x : V01.Ok Try.prog := by
 refine V3 X2 tab0 (V0 all_nil (all_cons X2c (all_cons U1g all_nil))) h134 (d := 0) (n0 := 2) (S := lsOf []) Try.func134 (by kernel_rfl) (c := c134) (by kernel_rfl) rfl (U2 (by kernel_rfl)) (by omega) (by kernel_rfl) ?_
 intro x'' y'' q'' hq''
 obtain ⟨_, (b : List Int), _⟩ := y''
 exact (X4v b).trans hq''
def X4f (b : List Int) : Tr Res := .ret ([.int .i64 (↑b.length : Int)], [.boxT (some 203) [.ptr 0 0, .rowA 1], .row (.int .u8) b])
def Qy : OSpec := { f := 134, sh := [.ptr 0 0], so := [.tbox 203 [.ptr 0 0, .row 1], .row (.int .u8)], F := fun _ (_, b, _) => X4f b }
theorem Z4s (b : List Int) : evC T0 (orcB [] [V1m, X0z]) (lpOf h134 2 (lsOf [])) c134 1000000 (V1 [.ptr 0 0] [.boxT (some 203) [.ptr 0 0, .rowA 1], .row (.int .u8) b] Try.f134.ntmps) (J1 T0 false 2 Try.f134) = (X4f b).get := by kernel_rfl
theorem V4y : Qy.Ok Try.prog := by
 refine V3 X2 tab0 (V0 all_nil (all_cons X2c (all_cons U1g all_nil))) h134 (d := 0) (n0 := 2) (S := lsOf []) Try.func134 (by kernel_rfl) (c := c134) (by kernel_rfl) rfl (U2 (by kernel_rfl)) (by omega) (by kernel_rfl) ?_
 intro x'' y'' q'' hq''
 obtain ⟨_, (b : List Int), _⟩ := y''
 exact (Z4s b).trans hq''
def V4k (c : Int) (b : List Int) : Tr Res := .br (fits (List.length b + 1) 1) (.ret ([.dead], [.boxT (some 203) [.ptr 0 0, .rowA 1], .row (.int .u8) (b ++ [c])])) .no
def Uy : OSpec := { f := 135, sh := [.ptr 0 0, .d (.int .u8) false], so := [.tbox 203 [.np, .row 1], .row (.int .u8)], F := fun (c, _) (_, b, _) => V4k c b }
theorem Z4m (c : Int) (b : List Int) : evC T0 (orcB [] [V1m, X0z]) (lpOf h135 2 (lsOf [])) c135 1000000 (V1 [.ptr 0 0, .int .u8 c] [.boxT (some 203) [.np, .rowA 1], .row (.int .u8) b] Try.f135.ntmps) (J1 T0 false 2 Try.f135) = (V4k c b).get := by kernel_rfl
theorem Q4t : Uy.Ok Try.prog := by
 refine V3 X2 tab0 (V0 all_nil (all_cons X2c (all_cons U1g all_nil))) h135 (d := 0) (n0 := 2) (S := lsOf []) Try.func135 (by kernel_rfl) (c := c135) (by kernel_rfl) rfl (U2 (by kernel_rfl)) (by omega) (by kernel_rfl) ?_
 intro x'' y'' q'' hq''
 obtain ⟨(c : Int), _⟩ := x''
 obtain ⟨_, (b : List Int), _⟩ := y''
 exact (Z4m c b).trans hq''
def X4g (c : Int) (b : List Int) : Tr Res := .br (fits (List.length b + 1) 1) (.ret ([.dead], [.boxT (some 203) [.ptr 0 0, .rowA 1], .row (.int .u8) (b ++ [c])])) .no
def Qz : OSpec := { f := 135, sh := [.ptr 0 0, .d (.int .u8) false], so := [.tbox 203 [.ptr 0 0, .row 1], .row (.int .u8)], F := fun (c, _) (_, b, _) => X4g c b }
theorem Q4r (c : Int) (b : List Int) : evC T0 (orcB [] [V1m, X0z]) (lpOf h135 2 (lsOf [])) c135 1000000 (V1 [.ptr 0 0, .int .u8 c] [.boxT (some 203) [.ptr 0 0, .rowA 1], .row (.int .u8) b] Try.f135.ntmps) (J1 T0 false 2 Try.f135) = (X4g c b).get := by kernel_rfl
theorem V4m : Qz.Ok Try.prog := by
 refine V3 X2 tab0 (V0 all_nil (all_cons X2c (all_cons U1g all_nil))) h135 (d := 0) (n0 := 2) (S := lsOf []) Try.func135 (by kernel_rfl) (c := c135) (by kernel_rfl) rfl (U2 (by kernel_rfl)) (by omega) (by kernel_rfl) ?_
 intro x'' y'' q'' hq''
 obtain ⟨(c : Int), _⟩ := x''
 obtain ⟨_, (b : List Int), _⟩ := y''
 exact (Q4r c b).trans hq''
def J4d (s : List UInt8) (b : List Int) : Tr Res := .br (fits (List.length b + List.length (J0 s)) 1) (.ret ([.int .i64 (↑s.length : Int), .dead], [.boxT (some 203) [.ptr 0 0, .rowA 1], .row (.int .u8) (b ++ J0 s)])) .no
def Q00 : OSpec := { f := 136, sh := [.ptr 0 0, .d .str false], so := [.tbox 203 [.ptr 0 0, .row 1], .row (.int .u8)], F := fun (s, _) (_, b, _) => J4d s b }
theorem Q4q (s : List UInt8) (b : List Int) : evC T0 (orcB [] [V1m, X0z]) (lpOf h136 2 (lsOf [])) c136 1000000 (V1 [.ptr 0 0, .str s] [.boxT (some 203) [.ptr 0 0, .rowA 1], .row (.int .u8) b] Try.f136.ntmps) (J1 T0 false 2 Try.f136) = (J4d s b).get := by kernel_rfl
theorem Q4l : Q00.Ok Try.prog := by
 refine V3 X2 tab0 (V0 all_nil (all_cons X2c (all_cons U1g all_nil))) h136 (d := 0) (n0 := 2) (S := lsOf []) Try.func136 (by kernel_rfl) (c := c136) (by kernel_rfl) rfl (U2 (by kernel_rfl)) (by omega) (by kernel_rfl) ?_
 intro x'' y'' q'' hq''
 obtain ⟨(s : List UInt8), _⟩ := x''
 obtain ⟨_, (b : List Int), _⟩ := y''
 exact (Q4q s b).trans hq''
def t97 : Tr Res := .ret ([.ptr 0 0], [.boxT none [.rowA 1, .mp 2], .row (.int .u8) [], .mpo .str (.int .i64) []])
def os97 : OSpec := { f := 97, sh := [], so := [], F := fun _ _ => t97 }
theorem fn97 : evC T0 (orcB [] []) (lpOf (hOwn h97) 0 (lsOf [])) c97 1000000 (V1 [] [] Try.f97.ntmps) (J1 T0 true 0 Try.f97) = (t97).get := by kernel_rfl
theorem ok97 : os97.Ok Try.prog := by
 refine V3 X2 tab0 (V0 all_nil all_nil) (hOwn h97) (d := 0) (n0 := 0) (S := lsOf []) Try.func97 (by kernel_rfl) (c := c97) (by kernel_rfl) rfl (U2 (by kernel_rfl)) (by omega) (by kernel_rfl) ?_
 intro x'' y'' q'' hq''
 exact (fn97).trans hq''
def t98 (s : List UInt8) (b : List Int) (l : List (List UInt8 × Int)) : Tr Res := .br (fits (List.length b + List.length (J0 s)) 1) (.ret ([], [.boxT none [.rowA 1, .mp 2], .row (.int .u8) (b ++ J0 s), .mpo .str (.int .i64) l])) .no
def os98 : OSpec := { f := 98, sh := [.ptr 0 0, .d .str false], so := [.box [.row 1, .mp 2], .row (.int .u8), .map .str (.int .i64)], F := fun (s, _) (_, b, l, _) => t98 s b l }
theorem fn98 (s : List UInt8) (b : List Int) (l : List (List UInt8 × Int)) : evC T0 (orcB [] []) (lpOf h98 3 (lsOf [])) c98 1000000 (V1 [.ptr 0 0, .str s] [.box [.rowA 1, .mp 2], .row (.int .u8) b, .mpo .str (.int .i64) l] Try.f98.ntmps) (J1 T0 false 3 Try.f98) = (t98 s b l).get := by kernel_rfl
theorem ok98 : os98.Ok Try.prog := by
 refine V3 X2 tab0 (V0 all_nil all_nil) h98 (d := 0) (n0 := 3) (S := lsOf []) Try.func98 (by kernel_rfl) (c := c98) (by kernel_rfl) rfl (U2 (by kernel_rfl)) (by omega) (by kernel_rfl) ?_
 intro x'' y'' q'' hq''
 obtain ⟨(s : List UInt8), _⟩ := x''
 obtain ⟨_, (b : List Int), (l : List (List UInt8 × Int)), _⟩ := y''
 exact (fn98 s b l).trans hq''
def t98z (s : List UInt8) : Tr Res := .ret ([], [])
def U3d : OSpec := { f := 98, sh := [.np, .d .str false], so := [], F := fun (s, _) _ => t98z s }
theorem fn98z (s : List UInt8) : evC T0 (orcB [] []) (lpOf h98 0 (lsOf [])) c98 1000000 (V1 [.np, .str s] [] Try.f98.ntmps) (J1 T0 false 0 Try.f98) = (t98z s).get := by kernel_rfl
theorem V4f : U3d.Ok Try.prog := by
 refine V3 X2 tab0 (V0 all_nil all_nil) h98 (d := 0) (n0 := 0) (S := lsOf []) Try.func98 (by kernel_rfl) (c := c98) (by kernel_rfl) rfl (U2 (by kernel_rfl)) (by omega) (by kernel_rfl) ?_
 intro x'' y'' q'' hq''
 obtain ⟨(s : List UInt8), _⟩ := x''
 exact (fn98z s).trans hq''
def t152 (b : List Int) (l : List (List UInt8 × Int)) : Tr Res := .ret ([.int .i64 (↑b.length : Int)], [.boxT none [.rowA 1, .mp 2], .row (.int .u8) b, .mpo .str (.int .i64) l])
def Z3s : OSpec := { f := 152, sh := [.ptr 0 0], so := [.box [.row 1, .mp 2], .row (.int .u8), .map .str (.int .i64)], F := fun _ (_, b, l, _) => t152 b l }
theorem fn152 (b : List Int) (l : List (List UInt8 × Int)) : evC T0 (orcB [] []) (lpOf h152 3 (lsOf [])) c152 1000000 (V1 [.ptr 0 0] [.box [.rowA 1, .mp 2], .row (.int .u8) b, .mpo .str (.int .i64) l] Try.f152.ntmps) (J1 T0 false 3 Try.f152) = (t152 b l).get := by kernel_rfl
theorem X4c : Z3s.Ok Try.prog := by
 refine V3 X2 tab0 (V0 all_nil all_nil) h152 (d := 0) (n0 := 3) (S := lsOf []) Try.func152 (by kernel_rfl) (c := c152) (by kernel_rfl) rfl (U2 (by kernel_rfl)) (by omega) (by kernel_rfl) ?_
 intro x'' y'' q'' hq''
 obtain ⟨_, (b : List Int), (l : List (List UInt8 × Int)), _⟩ := y''
 exact (fn152 b l).trans hq''
def X4j : Tr Res := .ret ([.int .i64 0], [])
def Z2p : OSpec := { f := 152, sh := [.np], so := [], F := fun _ _ => X4j }
theorem U4w : evC T0 (orcB [] []) (lpOf h152 0 (lsOf [])) c152 1000000 (V1 [.np] [] Try.f152.ntmps) (J1 T0 false 0 Try.f152) = (X4j).get := by kernel_rfl
theorem V3q : Z2p.Ok Try.prog := by
 refine V3 X2 tab0 (V0 all_nil all_nil) h152 (d := 0) (n0 := 0) (S := lsOf []) Try.func152 (by kernel_rfl) (c := c152) (by kernel_rfl) rfl (U2 (by kernel_rfl)) (by omega) (by kernel_rfl) ?_
 intro x'' y'' q'' hq''
 exact (U4w).trans hq''
def t104 (b : List Int) (l : List (List UInt8 × Int)) : Tr Res := .ret ([.str (Z0 b)], [.boxT none [.rowA 1, .mp 2], .row (.int .u8) b, .mpo .str (.int .i64) l])
def Q0a : OSpec := { f := 104, sh := [.ptr 0 0], so := [.box [.row 1, .mp 2], .row (.int .u8), .map .str (.int .i64)], F := fun _ (_, b, l, _) => t104 b l }
theorem fn104 (b : List Int) (l : List (List UInt8 × Int)) : evC T0 (orcB [] []) (lpOf h104 3 (lsOf [])) c104 1000000 (V1 [.ptr 0 0] [.box [.rowA 1, .mp 2], .row (.int .u8) b, .mpo .str (.int .i64) l] Try.f104.ntmps) (J1 T0 false 3 Try.f104) = (t104 b l).get := by kernel_rfl
theorem ok104 : Q0a.Ok Try.prog := by
 refine V3 X2 tab0 (V0 all_nil all_nil) h104 (d := 0) (n0 := 3) (S := lsOf []) Try.func104 (by kernel_rfl) (c := c104) (by kernel_rfl) rfl (U2 (by kernel_rfl)) (by omega) (by kernel_rfl) ?_
 intro x'' y'' q'' hq''
 obtain ⟨_, (b : List Int), (l : List (List UInt8 × Int)), _⟩ := y''
 exact (fn104 b l).trans hq''
def t141 (b : List Int) (l : List (List UInt8 × Int)) : Tr Res := .br (fits (List.length b + List.length (J0 (X1 0))) 1) (.ret ([.int .i64 (↑(List.length (b ++ J0 (X1 0))) : Int)], [.boxT none [.rowA 1, .mp 2], .row (.int .u8) (b ++ J0 (X1 0)), .mpo .str (.int .i64) l])) .no
def Q4g : OSpec := { f := 141, sh := [.ptr 0 0], so := [.box [.row 1, .mp 2], .row (.int .u8), .map .str (.int .i64)], F := fun _ (_, b, l, _) => t141 b l }
theorem fn141 (b : List Int) (l : List (List UInt8 × Int)) : evC T0 (orcB [Ul] [os98, U3d, Z3s, Z2p]) (lpOf h141 3 (lsOf [])) c141 1000000 (V1 [.ptr 0 0] [.box [.rowA 1, .mp 2], .row (.int .u8) b, .mpo .str (.int .i64) l] Try.f141.ntmps) (J1 T0 false 3 Try.f141) = (t141 b l).get := by kernel_rfl
theorem ok141 : Q4g.Ok Try.prog := by
 refine V3 X2 tab0 (V0 (all_cons U0w all_nil) (all_cons ok98 (all_cons V4f (all_cons X4c (all_cons V3q all_nil))))) h141 (d := 0) (n0 := 3) (S := lsOf []) Try.func141 (by kernel_rfl) (c := c141) (by kernel_rfl) rfl (U2 (by kernel_rfl)) (by omega) (by kernel_rfl) ?_
 intro x'' y'' q'' hq''
 obtain ⟨_, (b : List Int), (l : List (List UInt8 × Int)), _⟩ := y''
 exact (fn141 b l).trans hq''
def t143 (at_ : Int) (b : List Int) (l : List (List UInt8 × Int)) : Tr Res := .br (decide (at_ < 2)) (.ret ([.int .i64 1], [.boxT none [.rowA 1, .mp 2], .row (.int .u8) b, .mpo .str (.int .i64) l])) (.br (decide (at_ > (↑b.length : Int))) (.ret ([.int .i64 1], [.boxT none [.rowA 1, .mp 2], .row (.int .u8) b, .mpo .str (.int .i64) l])) (.br (decide (0 ≤ at_) && decide (at_ ≤ (↑b.length : Int))) (.br (decide (0 ≤ IntKind.wrap .i64 (at_ - 2)) && decide (IntKind.wrap .i64 (at_ - 2) ≤ at_)) (.br (n16C (IntKind.wrap .u16 (IntKind.wrap .i64 ((↑b.length : Int) - at_)))) (.ret ([.int .i64 0], [.boxT none [.rowA 1, .mp 2], .row (.int .u8) (List.take (Int.toNat (IntKind.wrap .i64 (at_ - 2))) b ++ List.take (Int.toNat at_ - Int.toNat (IntKind.wrap .i64 (at_ - 2))) (J0 (X1 (IntKind.wrap .u16 (IntKind.wrap .i64 ((↑b.length : Int) - at_))))) ++ List.drop (Int.toNat (IntKind.wrap .i64 (at_ - 2)) + min (Int.toNat at_ - Int.toNat (IntKind.wrap .i64 (at_ - 2))) (List.length (X1 (IntKind.wrap .u16 (IntKind.wrap .i64 ((↑b.length : Int) - at_)))))) b), .mpo .str (.int .i64) l])) .no) .no) .no))
def Z4d : OSpec := { f := 143, sh := [.ptr 0 0, .d (.int .i64) false], so := [.box [.row 1, .mp 2], .row (.int .u8), .map .str (.int .i64)], F := fun (at_, _) (_, b, l, _) => t143 at_ b l }
theorem fn143 (at_ : Int) (b : List Int) (l : List (List UInt8 × Int)) : evC T0 (orcB [Ul] [os98, U3d, Z3s, Z2p]) (lpOf h143 3 (lsOf [])) c143 1000000 (V1 [.ptr 0 0, .int .i64 at_] [.box [.rowA 1, .mp 2], .row (.int .u8) b, .mpo .str (.int .i64) l] Try.f143.ntmps) (J1 T0 false 3 Try.f143) = (t143 at_ b l).get := by kernel_rfl
theorem ok143 : Z4d.Ok Try.prog := by
 refine V3 X2 tab0 (V0 (all_cons U0w all_nil) (all_cons ok98 (all_cons V4f (all_cons X4c (all_cons V3q all_nil))))) h143 (d := 0) (n0 := 3) (S := lsOf []) Try.func143 (by kernel_rfl) (c := c143) (by kernel_rfl) rfl (U2 (by kernel_rfl)) (by omega) (by kernel_rfl) ?_
 intro x'' y'' q'' hq''
 obtain ⟨(at_ : Int), _⟩ := x''
 obtain ⟨_, (b : List Int), (l : List (List UInt8 × Int)), _⟩ := y''
 exact (fn143 at_ b l).trans hq''
def t68 (n : List UInt8) : Tr Res := .br (bigS n) (.br (Jq n) (.br (decide (List.length n > 255)) (.ret ([.bool false], [])) (.br (bigS n) (.ret ([.bool (X3 n == n)], [])) .no)) (.ret ([.bool false], []))) .no
def os68 : OSpec := { f := 68, sh := [.d .str false], so := [], F := fun (n, _) _ => t68 n }
theorem fn68 (n : List UInt8) : evC T0 (orcB [fs90, U0a] []) (lpOf h68 0 (lsOf [])) c68 1000000 (V1 [.str n] [] Try.f68.ntmps) (J1 T0 false 0 Try.f68) = (t68 n).get := by kernel_rfl
theorem ok68 : os68.Ok Try.prog := by
 refine V3 X2 tab0 (V0 (all_cons X4b (all_cons U3n all_nil)) all_nil) h68 (d := 0) (n0 := 0) (S := lsOf []) Try.func68 (by kernel_rfl) (c := c68) (by kernel_rfl) rfl (U2 (by kernel_rfl)) (by omega) (by kernel_rfl) ?_
 intro x'' y'' q'' hq''
 obtain ⟨(n : List UInt8), _⟩ := x''
 exact (fn68 n).trans hq''
def fs68 : FSpec := fsT 68 [(.str, false)] [(.bool, false)] fun (n, _) => t68 n
theorem okf68 : fs68.Ok Try.prog := V6 fun x'' r'' hr'' => ok68 x'' () r'' hr''
def mayV (s : List UInt8) : Bool := Jq s && (Nat.ble s.length 255 && (X3 s == s))
theorem Q13 {a b : Nat} : Nat.ble a b = decide (a ≤ b) := by
 by_cases h : a ≤ b
 · rw [decide_eq_true h, Nat.ble_eq_true_of_le h]
 · rw [decide_eq_false h]
   cases hb : Nat.ble a b with
   | false => rfl
   | true => exact absurd (Nat.le_of_ble_eq_true hb) h
def Z0j : FSpec := fs68.like fun (s, _) => .on (bigS s) (mayV s, ())
theorem Q1u : Z0j.Ok Try.prog := by
 refine U3 okf68 _ ?_
 rintro ⟨(s : List UInt8), _⟩ y h
 obtain ⟨hb, rfl⟩ := Tr.get_on h
 refine J3 (vs := [.bool (mayV s)]) rfl rfl (Tr.get_of_all ?_)
 show (t68 s).all _
 refine Tr.all_t hb (Tr.all_br (fun c1 => Tr.all_br (fun c2 => Tr.all_ret ?_) fun c2 => Tr.all_t hb (Tr.all_ret ?_)) fun c1 => Tr.all_ret ?_)
 · simp only [decide_eq_true_eq] at c2
   have : ¬ s.length ≤ 255 := by omega
   simp [mayV, Q13, this]
 · simp only [decide_eq_false_iff_not] at c2
   have : s.length ≤ 255 := by omega
   simp [mayV, Q13, this, c1]
 · simp [mayV, c1]
abbrev V7 := List (List UInt8 × Int)
abbrev Vz (n : List UInt8) (L : V7) : Option Int := U04 .str (.int .i64) n L
def hdN (n : List UInt8) : List UInt8 := n.take (1 + (n.getD 0 0).toNat)
def tlN (n : List UInt8) : List UInt8 := n.drop (1 + (n.getD 0 0).toNat)
theorem U0v {n : List UInt8} (h : n ≠ []) : (tlN n).length < n.length := by
 have := List.length_pos_iff.2 h
 simp [tlN]
 omega
def Q3 (n S : List UInt8) (L : V7) : Option Int × (List UInt8 × (List UInt8 × V7)) :=
 if n = [0] then (none, n, S, L)
 else match Vz n L with
  | some a => (some a, n, S, L)
  | none => if h : n = [] then (none, n, S, L) else Q3 (tlN n) (S ++ hdN n) (if S.length < 16384 then L ++ [(n, (S.length : Int))] else L)
termination_by n.length
decreasing_by exact U0v h
def endN : Option Int → List UInt8
 | some a => X1 (49152 + a)
 | none => [0]
def Z4 (n S : List UInt8) (L : V7) : List UInt8 × V7 := ((Q3 n S L).2.2.1 ++ endN (Q3 n S L).1, (Q3 n S L).2.2.2)
def kOk (L : V7) : Bool := L.all fun e => decide (0 ≤ e.2) && decide (e.2 < 16384)
theorem Q3h {L : V7} (h : kOk L = true) {n : List UInt8} {a : Int} (ha : Vz n L = some a) : 0 ≤ a ∧ a < 16384 := by
 induction L with
 | nil => cases ha
 | cons e L ih =>
   simp only [kOk, List.all_cons, Bool.and_eq_true, decide_eq_true_eq] at h
   unfold Vz U04 at ha
   cases hq : Ty.keq .str n e.1 with
   | true => rw [hq] at ha; cases ha; exact h.1
   | false => rw [hq] at ha; exact ih h.2 ha
theorem V3b {L : V7} {n : List UInt8} (h : Vz n L = none) (v : Int) : putM .str (.int .i64) n v L = L ++ [(n, v)] := by
 induction L with
 | nil => rfl
 | cons e L ih =>
   unfold Vz U04 at h
   unfold putM
   cases hq : Ty.keq .str n e.1 with
   | true => rw [hq] at h; cases h
   | false => rw [hq] at h; rw [cond_false, ih h]; rfl
theorem U4q {a : Int} (h0 : 0 ≤ a) (h1 : a < 16384) : IntKind.wrap IntKind.u16 (IntKind.wrap IntKind.i64 (↑(BitVec.toNat (BitVec.ofInt (IntKind.bits IntKind.i64) (49152 : Int) ||| BitVec.ofInt (IntKind.bits IntKind.i64) a)) : Int)) = 49152 + a := by
 obtain ⟨m, rfl⟩ : ∃ m : Nat, a = m := ⟨a.toNat, by omega⟩
 have e : BitVec.toNat (BitVec.ofInt (IntKind.bits IntKind.i64) (49152 : Int) ||| BitVec.ofInt (IntKind.bits IntKind.i64) (m : Int)) = 49152 + m := by
  show BitVec.toNat (BitVec.ofInt 64 ((49152 : Nat) : Int) ||| BitVec.ofInt 64 ((m : Nat) : Int)) = _
  rw [BitVec.ofInt_natCast, BitVec.ofInt_natCast, BitVec.toNat_or, BitVec.toNat_ofNat, BitVec.toNat_ofNat, Nat.mod_eq_of_lt (by omega), Nat.mod_eq_of_lt (by omega)]
  have := Nat.shiftLeft_add_eq_or_of_lt (a := 3) (b := m) (i := 14) (by omega)
  exact this.symm
 rw [e, IntWalk.i64_in _ (by omega), IntWalk.u16_in _ (by omega)]
 omega
theorem U07 {n : List UInt8} (h : Jq n = true) : n = [0] ∨ (n ≠ [0] ∧ n ≠ [] ∧ 1 + (n.getD 0 0).toNat < n.length ∧ (n.getD 0 0).toNat ≤ 63 ∧ (n.getD 0 0).toNat ≠ 0 ∧ Jq (tlN n) = true) := by
 unfold Jq at h
 cases n with
 | nil => rw [Ua] at h; simp at h
 | cons c t =>
   rw [Ua] at h
   split at h
   · exact .inl (by simpa using h)
   · rename_i hc
     refine .inr ⟨fun e => ?_, by simp, ?_, ?_, ?_, ?_⟩
     · cases e; simp at hc
     · have he : (t.drop c.toNat) ≠ [] := fun e => by
         rw [e, Ua] at h
         simp at h
       have := List.length_pos_iff.2 he
       simp at this ⊢
       omega
     · simp; omega
     · simp; omega
     · unfold Jq tlN
       simpa [Nat.add_comm 1] using h
theorem Vj (s : List UInt8) : Z0 (J0 s) = s := by
 unfold Z0 J0
 rw [List.map_map]
 conv => rhs; rw [← List.map_id s]
 exact List.map_congr_left fun x _ => by simp
theorem J09 {b : List Int} (h : J5 b = true) : J0 (Z0 b) = b := by
 unfold Z0 J0
 rw [List.map_map]
 conv => rhs; rw [← List.map_id b]
 refine List.map_congr_left fun x hx => ?_
 have := List.all_eq_true.1 h x hx
 simp only [Bool.and_eq_true, decide_eq_true_eq] at this
 simp
 omega
theorem Zg (b : List Int) : (Z0 b).length = b.length := by simp [Z0]
theorem U0d (a b : List Int) : Z0 (a ++ b) = Z0 a ++ Z0 b := by simp [Z0]
theorem Jc (a b : List UInt8) : J0 (a ++ b) = J0 a ++ J0 b := by simp [J0]
theorem Qq (S : List UInt8) (L : V7) : Q3 [0] S L = (none, [0], S, L) := by rw [Q3, if_pos rfl]
theorem Xn {n S : List UInt8} {L : V7} {a : Int} (h : n ≠ [0]) (ha : Vz n L = some a) : Q3 n S L = (some a, n, S, L) := by
 rw [Q3, if_neg h]
 simp only [ha]
theorem Vk {n S : List UInt8} {L : V7} (h : n ≠ [0]) (h0 : n ≠ []) (ha : Vz n L = none) : Q3 n S L = Q3 (tlN n) (S ++ hdN n) (if S.length < 16384 then L ++ [(n, (S.length : Int))] else L) := by
 rw [Q3, if_neg h]
 simp only [ha, dif_neg h0]
theorem Z35 {L : V7} {n : List UInt8} {a : Int} (h : Vz n L = some a) : getM .str (.int .i64) n L = a := by
 unfold getM
 rw [show U04 .str (.int .i64) n L = some a from h]
 rfl
theorem U1q {L : V7} {n : List UInt8} : hasM .str (.int .i64) n L = (Vz n L).isSome := rfl
theorem Z2w {L : V7} (h : kOk L = true) {n : List UInt8} {v : Nat} (hv : v < 16384) : kOk (L ++ [(n, (v : Int))]) = true := by
 simp only [kOk, List.all_append, List.all_cons, List.all_nil, Bool.and_true, Bool.and_eq_true, decide_eq_true_eq]
 exact ⟨h, by omega, by omega⟩
theorem Xt {a b : List Int} (ha : J5 a = true) (hb : J5 b = true) : J5 (a ++ b) = true := by
 simp only [J5, List.all_append, Bool.and_eq_true] at *
 exact ⟨ha, hb⟩
theorem Qn (n : Int) : (X1 n).length = 2 := rfl
theorem Z13 {n : List UInt8} (h : 1 + (n.getD 0 0).toNat ≤ n.length) : (hdN n).length = 1 + (n.getD 0 0).toNat := by unfold hdN; rw [List.length_take]; omega
theorem U2u (n : List UInt8) : (tlN n).length = n.length - (1 + (n.getD 0 0).toNat) := by unfold tlN; rw [List.length_drop]
theorem szW (n : List UInt8) : IntKind.wrap IntKind.i64 ((1 : Int) + IntKind.wrap IntKind.i64 (↑(UInt8.toNat (List.getD n (Int.toNat (0 : Int)) 0)) : Int)) = ((1 + (n.getD 0 0).toNat : Nat) : Int) := by
 have := (n.getD 0 0).toNat_lt
 rw [show Int.toNat (0 : Int) = 0 from rfl]
 rw [IntWalk.i64_in (((n.getD 0 0).toNat : Nat) : Int) (by omega), IntWalk.i64_in _ (by omega)]
 omega
theorem hdW (n : List UInt8) : List.take (Int.toNat ((1 + (n.getD 0 0).toNat : Nat) : Int) - Int.toNat (0 : Int)) (List.drop (Int.toNat (0 : Int)) n) = hdN n := by
 rw [Int.toNat_natCast]; rfl
theorem tlW (n : List UInt8) : List.take (Int.toNat (↑(List.length n) : Int) - Int.toNat ((1 + (n.getD 0 0).toNat : Nat) : Int)) (List.drop (Int.toNat ((1 + (n.getD 0 0).toNat : Nat) : Int)) n) = tlN n := by
 rw [Int.toNat_natCast, Int.toNat_natCast]
 exact List.take_of_length_le (by simp)
theorem getD_some {α : Type} {o : Option α} {a d : α} (h : o = some a) : o.getD d = a := by rw [h]; rfl
theorem J0c : ∀ (m : Nat) (n S : List UInt8) (L : V7), n.length = m → Jq n = true → ((Q3 n S L).1 = none → (Q3 n S L).2.1 = [0]) ∧ (∀ a, (Q3 n S L).1 = some a → Vz (Q3 n S L).2.1 (Q3 n S L).2.2.2 = some a) ∧
    (Q3 n S L).2.2.1.length + (Q3 n S L).2.1.length = S.length + n.length ∧ (kOk L = true → kOk (Q3 n S L).2.2.2 = true) ∧ (Q3 n S L).2.1.length ≥ 1 ∧ (Q3 n S L).2.2.2.length ≤ L.length + n.length := by
 intro m
 induction m using Nat.strongRecOn with
 | _ m ih =>
   intro n S L hm hr
   rcases U07 hr with rfl | ⟨hn0, hn1, hlt, h63, hne, hrt⟩
   · rw [Qq]
     refine ⟨fun _ => rfl, fun a h => (by cases h), rfl, fun h => h, ?_, ?_⟩ <;> simp
   · cases hlk : Vz n L with
     | some a =>
       rw [Xn hn0 hlk]
       refine ⟨fun h => (by cases h), fun a' h => ?_, rfl, fun h => h, List.length_pos_iff.2 hn1, Nat.le_add_right _ _⟩
       cases h
       exact hlk
     | none =>
       rw [Vk hn0 hn1 hlk]
       have hlt2 := U0v hn1
       obtain ⟨a1, a2, a3, a4, a5, a6⟩ := ih (tlN n).length (by omega) (tlN n) (S ++ hdN n) (if S.length < 16384 then L ++ [(n, (S.length : Int))] else L) rfl hrt
       refine ⟨a1, a2, ?_, fun h => a4 ?_, a5, ?_⟩
       · rw [a3, List.length_append, Z13 (by omega), U2u]
         omega
       · split
         · exact Z2w h (by assumption)
         · exact h
       · refine Nat.le_trans a6 ?_
         split
         · simp; omega
         · omega
theorem X3u : ∀ i, i < 16 → (49152 : Nat).testBit i = decide (14 ≤ i) := by decide
theorem X4a (n : Nat) (hn : n < 65536) : n &&& (2 ^ 64 - 1 - 49152) = n % 16384 := by
 refine Nat.eq_of_testBit_eq fun i => ?_
 rw [Nat.testBit_and, show (16384 : Nat) = 2 ^ 14 from rfl, Nat.testBit_mod_two_pow]
 by_cases hi : i < 16
 · have h1 := X3u i hi
   have h2 : (2 ^ 64 - 1 - 49152 : Nat).testBit i = !(49152 : Nat).testBit i := by
    have := Nat.testBit_two_pow_sub_succ (n := 64) (x := 49152) (by decide) i
    rw [show (2 ^ 64 - 1 - 49152 : Nat) = 2 ^ 64 - (49152 + 1) by decide, this]
    simp
    omega
   rw [h2, h1]
   by_cases h14 : i < 14
   · have : ¬ 14 ≤ i := by omega
     simp [h14, this]
   · have : 14 ≤ i := by omega
     simp [h14, this]
 · have : n.testBit i = false := Nat.testBit_lt_two_pow (Nat.lt_of_lt_of_le hn (show 2 ^ 16 ≤ 2 ^ i from Nat.pow_le_pow_right (by omega) (by omega)))
   rw [this]
   simp
theorem V2t {a : Int} (h0 : 0 ≤ a) (h1 : a ≤ 65535) : IntKind.wrap IntKind.i64 (↑(BitVec.toNat (BitVec.ofInt (IntKind.bits IntKind.i64) (IntKind.wrap IntKind.i64 a) &&& ~~~BitVec.ofInt (IntKind.bits IntKind.i64) (49152 : Int))) : Int) = a % 16384 := by
 obtain ⟨m, rfl⟩ : ∃ m : Nat, a = m := ⟨a.toNat, by omega⟩
 rw [IntWalk.i64_in (m : Int) (by omega)]
 have e : BitVec.toNat (BitVec.ofInt (IntKind.bits IntKind.i64) ((m : Nat) : Int) &&& ~~~BitVec.ofInt (IntKind.bits IntKind.i64) ((49152 : Nat) : Int)) = m % 16384 := by
  show BitVec.toNat (BitVec.ofInt 64 ((m : Nat) : Int) &&& ~~~BitVec.ofInt 64 ((49152 : Nat) : Int)) = _
  rw [BitVec.ofInt_natCast, BitVec.ofInt_natCast, BitVec.toNat_and, BitVec.toNat_not, BitVec.toNat_ofNat, BitVec.toNat_ofNat, Nat.mod_eq_of_lt (by omega), Nat.mod_eq_of_lt (by omega)]
  exact X4a m (by omega)
 rw [show ((49152 : Int)) = ((49152 : Nat) : Int) from rfl, e, IntWalk.i64_in _ (by omega)]
 rfl
def szT (s : List UInt8) (at_ : Int) : Nat := (s.getD at_.toNat 0).toNat
def toT (s : List UInt8) (at_ : Int) : Int := n16 s at_ % 16384
theorem Z3d (s : List UInt8) (at_ : Int) : szT s at_ ≤ 255 := by
 have := (s.getD at_.toNat 0).toNat_lt
 unfold szT
 omega
theorem Z1u (s : List UInt8) (at_ : Int) : 0 ≤ n16 s at_ ∧ n16 s at_ ≤ 65535 := by
 have h1 := (s.getD at_.toNat 0).toNat_lt
 have h2 := (s.getD (at_.toNat + 1) 0).toNat_lt
 unfold n16
 omega
theorem J1y (s : List UInt8) (at_ : Int) : 0 ≤ toT s at_ ∧ toT s at_ < 16384 := by
 unfold toT
 omega
def msT (s : List UInt8) (at_ from_ : Int) : Nat := from_.toNat * (s.length + 2) + (s.length + 1 - at_.toNat)
theorem Xa {s : List UInt8} {at_ many : Int} : Q1 s at_ many = true ↔ 0 ≤ at_ ∧ 0 ≤ many ∧ at_ + many ≤ s.length := by simp [Q1]
theorem X0v {s : List UInt8} {at_ from_ to : Int} (h0 : 0 ≤ to) (h : to < from_) : msT s to to < msT s at_ from_ := by
 unfold msT
 have h1 : to.toNat + 1 ≤ from_.toNat := by omega
 have h2 : (to.toNat + 1) * (s.length + 2) ≤ from_.toNat * (s.length + 2) := Nat.mul_le_mul_right _ h1
 rw [Nat.add_mul, Nat.one_mul] at h2
 omega
theorem Q2l {s : List UInt8} {at_ from_ : Int} {c : Nat} (h0 : 0 ≤ at_) (h : at_ + 1 + c ≤ s.length) : msT s (at_ + 1 + c) from_ < msT s at_ from_ := by
 unfold msT
 omega
def Q4 (s : List UInt8) (at_ from_ behind : Int) (out : List UInt8) : Option (List UInt8 × Int) :=
 if h1 : Q1 s at_ 1 = true then
  if 192 ≤ szT s at_ then
   (if h3 : Q1 s at_ 2 = true ∧ toT s at_ < from_ then Q4 s (toT s at_) (toT s at_) (if behind < 0 then at_ + 2 else behind) out else none)
  else if 63 < szT s at_ then none
  else if h4 : Q1 s (at_ + 1) (szT s at_) = true ∧ out.length + 1 + szT s at_ ≤ 255 then
   (if szT s at_ = 0 then some (out ++ [0], if behind < 0 then at_ + 1 else behind)
    else Q4 s (at_ + 1 + szT s at_) from_ behind (out ++ s.getD at_.toNat 0 :: X3 (U1 s (at_ + 1) (szT s at_))))
  else none
 else none
termination_by msT s at_ from_
decreasing_by
 · exact X0v (J1y s at_).1 h3.2
 · have h1 := Xa.1 h1
   have h4 := Xa.1 h4.1
   exact Q2l h1.1 h4.2.2
def tkS : Option (List UInt8 × Int) → List UInt8
 | some p => p.1
 | none => []
def tkN : Option (List UInt8 × Int) → Int
 | some p => p.2
 | none => 0
def tkE : Option (List UInt8 × Int) → Int
 | some _ => 0
 | none => 2
def resT (o : Option (List UInt8 × Int)) : List AV := [.str (tkS o), .int .i64 (tkN o), .int .i64 (tkE o)]
section
variable {s : List UInt8} {at_ from_ behind : Int} {out : List UInt8}
theorem J0z (h : Q1 s at_ 1 = false) : Q4 s at_ from_ behind out = none := by rw [Q4, dif_neg (by rw [h]; simp)]
theorem Z0u (h : Q1 s at_ 1 = true) (h2 : 192 ≤ szT s at_) (h3 : Q1 s at_ 2 = true) (h4 : toT s at_ < from_) : Q4 s at_ from_ behind out = Q4 s (toT s at_) (toT s at_) (if behind < 0 then at_ + 2 else behind) out := by
 rw [Q4, dif_pos h, if_pos h2, dif_pos ⟨h3, h4⟩]
theorem V0v (h : Q1 s at_ 1 = true) (h2 : 192 ≤ szT s at_) (h3 : ¬ (Q1 s at_ 2 = true ∧ toT s at_ < from_)) : Q4 s at_ from_ behind out = none := by
 rw [Q4, dif_pos h, if_pos h2, dif_neg h3]
theorem X0x (h : Q1 s at_ 1 = true) (h2 : ¬ 192 ≤ szT s at_) (h3 : 63 < szT s at_) : Q4 s at_ from_ behind out = none := by
 rw [Q4, dif_pos h, if_neg h2, if_pos h3]
theorem Uz (h : Q1 s at_ 1 = true) (h2 : szT s at_ ≤ 63) (h4 : ¬ (Q1 s (at_ + 1) (szT s at_) = true ∧ out.length + 1 + szT s at_ ≤ 255)) : Q4 s at_ from_ behind out = none := by
 rw [Q4, dif_pos h, if_neg (by omega), if_neg (by omega), dif_neg h4]
theorem Q0y (h : Q1 s at_ 1 = true) (h2 : szT s at_ = 0) (h4 : out.length + 1 ≤ 255) : Q4 s at_ from_ behind out = some (out ++ [0], if behind < 0 then at_ + 1 else behind) := by
 have h5 : Q1 s (at_ + 1) (szT s at_) = true := by
  have := Xa.1 h
  rw [h2]
  exact Xa.2 ⟨by omega, by simp, by simp; omega⟩
 rw [Q4, dif_pos h, if_neg (by omega), if_neg (by omega), dif_pos ⟨h5, by omega⟩, if_pos h2]
theorem U1a (h : Q1 s at_ 1 = true) (h2 : szT s at_ ≤ 63) (h3 : szT s at_ ≠ 0) (h4 : Q1 s (at_ + 1) (szT s at_) = true) (h5 : out.length + 1 + szT s at_ ≤ 255) :
    Q4 s at_ from_ behind out = Q4 s (at_ + 1 + szT s at_) from_ behind (out ++ s.getD at_.toNat 0 :: X3 (U1 s (at_ + 1) (szT s at_))) := by
 rw [Q4, dif_pos h, if_neg (by omega), if_neg (by omega), dif_pos ⟨h4, h5⟩, if_neg h3]
end
theorem Xi (s : List UInt8) : (X3 s).length = s.length := by simp [X3]
theorem V0w {s : List UInt8} {at_ many : Int} (h : Q1 s at_ many = true) : (U1 s at_ many).length = many.toNat := by
 have := Xa.1 h
 simp [U1]
 omega
end Go.Proofs.YtpledbapngdkeaaE
namespace Go.Proofs.YtpledbapngdkeaaE
open Go Go.Proofs.YtpledbapngdkeaaB
set_option linter.unusedVariables false
set_option linter.unusedSimpArgs false
theorem Z3o (c : UInt8) : lowB (lowB c) = lowB c := by
 unfold lowB
 have hlt := c.toNat_lt
 by_cases h : c.toNat ≥ 65 ∧ c.toNat ≤ 90
 · rw [show (decide (c.toNat ≥ 65) && decide (c.toNat ≤ 90)) = true by simp; omega, cond_true]
   have e : (UInt8.ofNat (c.toNat + 32)).toNat = c.toNat + 32 := by simp; omega
   rw [show (decide ((UInt8.ofNat (c.toNat + 32)).toNat ≥ 65) && decide ((UInt8.ofNat (c.toNat + 32)).toNat ≤ 90)) = false by rw [e]; simp; omega, cond_false]
 · rw [show (decide (c.toNat ≥ 65) && decide (c.toNat ≤ 90)) = false by simp; omega, cond_false]
   rw [show (decide (c.toNat ≥ 65) && decide (c.toNat ≤ 90)) = false by simp; omega, cond_false]
theorem Z2q {c : UInt8} (h : c.toNat ≤ 63) : lowB c = c := by
 unfold lowB
 rw [show (decide (c.toNat ≥ 65) && decide (c.toNat ≤ 90)) = false by simp; omega, cond_false]
theorem Z2i (s : List UInt8) : X3 (X3 s) = X3 s := by
 unfold X3
 rw [List.map_map]
 exact List.map_congr_left fun c _ => Z3o c
theorem J31 (a b : List UInt8) : X3 (a ++ b) = X3 a ++ X3 b := by simp [X3]
theorem X2j (c : UInt8) (b : List UInt8) : X3 (c :: b) = lowB c :: X3 b := rfl
def Q0p (s : List UInt8) : Prop := X3 s = s
theorem X1s {a b : List UInt8} : Q0p (a ++ b) ↔ Q0p a ∧ Q0p b := by
 unfold Q0p
 rw [J31]
 constructor
 · intro h
   have h1 := (List.append_inj h (Xi a))
   exact h1
 · rintro ⟨h1, h2⟩
   rw [h1, h2]
def byN (s : List UInt8) (k : Nat) : Nat := (s.getD k 0).toNat
inductive Rd (S : List UInt8) : Nat → Nat → List UInt8 → Nat → Prop where
 | root {k f : Nat} (h : k < S.length) (h0 : byN S k = 0) : Rd S k f [0] (k + 1)
 | label {k f e : Nat} {n : List UInt8} (h1 : byN S k ≠ 0) (h63 : byN S k ≤ 63) (hin : k + 1 + byN S k ≤ S.length) (h : Rd S (k + 1 + byN S k) f n e) :
     Rd S k f (S.getD k 0 :: X3 ((S.drop (k + 1)).take (byN S k)) ++ n) e
 | ptr {k f e : Nat} {n : List UInt8} {to : Nat} (h192 : 192 ≤ byN S k) (hin : k + 2 ≤ S.length) (hto : toT S (k : Int) = to) (hlt : to < f) (h : Rd S to to n e) : Rd S k f n (k + 2)
theorem Up {n : List UInt8} : mayV n = true ↔ Jq n = true ∧ n.length ≤ 255 ∧ Q0p n := by
 unfold mayV Q0p
 rw [Q13]
 simp
theorem V3n {n : List UInt8} (hr : Jq n = true) (h : n ≠ [0]) : 3 ≤ n.length := by
 rcases U07 hr with rfl | ⟨_, _, hlt, _, hne, _⟩
 · exact absurd rfl h
 · omega
theorem U2m : ∀ (m : Nat) (n S : List UInt8) (L : V7), n.length = m → S.length ≤ (Q3 n S L).2.2.1.length := by
 intro m
 induction m using Nat.strongRecOn with
 | _ m ih =>
   intro n S L hm
   by_cases h0 : n = [0]
   · rw [h0, Qq]; exact Nat.le_refl _
   · cases hlk : Vz n L with
     | some a => rw [Xn h0 hlk]; exact Nat.le_refl _
     | none =>
       by_cases h1 : n = []
       · rw [Q3, if_neg h0]; simp only [hlk, dif_pos h1]; exact Nat.le_refl _
       · rw [Vk h0 h1 hlk]
         have := ih (tlN n).length (by have := U0v h1; omega) (tlN n) (S ++ hdN n) (if S.length < 16384 then L ++ [(n, (S.length : Int))] else L) rfl
         rw [List.length_append] at this
         omega
theorem Z0f : ∀ (m : Nat) (n S : List UInt8) (L : V7), n.length = m → Jq n = true → (Z4 n S L).1.length ≤ S.length + n.length ∧ S.length + 1 ≤ (Z4 n S L).1.length ∧ (Z4 n S L).2.length ≤ L.length + n.length := by
 intro m n S L hm hr
 obtain ⟨f1, f2, f3, f4, f5, f6⟩ := J0c _ n S L rfl hr
 have f7 := U2m _ n S L rfl
 unfold Z4
 rw [List.length_append]
 cases h : (Q3 n S L).1 with
 | none =>
   have := f1 h
   rw [this] at f3
   simp only [endN, List.length_cons, List.length_nil] at f3 ⊢
   omega
 | some a =>
   have hne : (Q3 n S L).2.1.length ≥ 3 := by
    have : ∀ (m : Nat) (n S : List UInt8) (L : V7), n.length = m → Jq n = true → ∀ a, (Q3 n S L).1 = some a → 3 ≤ (Q3 n S L).2.1.length := by
     intro m
     induction m using Nat.strongRecOn with
     | _ m ih =>
       intro n S L hm hr a ha
       rcases U07 hr with rfl | ⟨hn0, hn1, hlt, h63, hne, hrt⟩
       · rw [Qq] at ha; cases ha
       · cases hlk : Vz n L with
         | some a' => rw [Xn hn0 hlk]; exact V3n hr hn0
         | none =>
           rw [Vk hn0 hn1 hlk] at ha ⊢
           exact ih (tlN n).length (by have := U0v hn1; omega) _ _ _ rfl hrt a ha
    exact this _ n S L rfl hr a h
   simp only [endN, Qn]
   omega
def LP (out : List UInt8) : Prop := Q0p out ∧ ∀ r, (Ua (out ++ r)).2 = (Ua r).2
theorem U4u : LP [] := ⟨rfl, fun r => rfl⟩
theorem LP_on {out v : List UInt8} {c : UInt8} (h : LP out) (h0 : c.toNat ≠ 0) (h63 : c.toNat ≤ 63) (hv : v.length = c.toNat) : LP (out ++ c :: X3 v) := by
 refine ⟨X1s.2 ⟨h.1, ?_⟩, fun r => ?_⟩
 · unfold Q0p
   rw [X2j, Z2q h63, Z2i]
 · rw [List.append_assoc, h.2, List.cons_append, Ua, if_neg (by simp [Xi, hv]; omega)]
   simp only
   rw [List.drop_append_of_le_length (by simp [Xi, hv]), List.drop_eq_nil_of_le (by simp [Xi, hv])]
   rfl
theorem Z32 {s : List UInt8} : ∀ (m : Nat) (at_ from_ b : Int) (out n : List UInt8) (next : Int), msT s at_ from_ = m → LP out → Q4 s at_ from_ b out = some (n, next) →
    mayV n = true ∧ (0 ≤ b → next = b) ∧ (b < 0 → at_ < next ∧ next ≤ s.length) ∧ 0 ≤ at_ := by
 intro m
 induction m using Nat.strongRecOn with
 | _ m ih =>
   intro at_ from_ b out n next hm hL h
   cases h1 : Q1 s at_ 1 with
   | false => rw [J0z h1] at h; cases h
   | true =>
     have hs1 := Xa.1 h1
     by_cases h192 : 192 ≤ szT s at_
     · by_cases h3 : Q1 s at_ 2 = true ∧ toT s at_ < from_
       · rw [Z0u h1 h192 h3.1 h3.2] at h
         have hto := J1y s at_
         obtain ⟨a1, a2, a3, a4⟩ := ih (msT s (toT s at_) (toT s at_)) (by have := X0v (s := s) (at_ := at_) hto.1 h3.2; omega) _ _ _ _ _ _ rfl hL h
         have hs2 := Xa.1 h3.1
         refine ⟨a1, fun hb => ?_, fun hb => ?_, hs1.1⟩
         · rw [if_neg (by omega)] at a2
           exact a2 hb
         · rw [if_pos hb] at a2
           have := a2 (by omega)
           omega
       · rw [V0v h1 h192 h3] at h; cases h
     · by_cases h63 : 63 < szT s at_
       · rw [X0x h1 h192 h63] at h; cases h
       · by_cases h4 : Q1 s (at_ + 1) (szT s at_) = true ∧ out.length + 1 + szT s at_ ≤ 255
         · have hs4 := Xa.1 h4.1
           have hvl : (U1 s (at_ + 1) (szT s at_ : Int)).length = szT s at_ := by rw [V0w h4.1]; omega
           by_cases h0 : szT s at_ = 0
           · rw [Q0y h1 h0 (by omega)] at h
             cases h
             refine ⟨Up.2 ⟨?_, by simp; omega, X1s.2 ⟨hL.1, by unfold Q0p; decide⟩⟩, fun hb => by rw [if_neg (by omega)], fun hb => by rw [if_pos hb]; omega, hs1.1⟩
             unfold Jq
             rw [hL.2, Ua, if_pos (by decide)]
             rfl
           · rw [U1a h1 (by omega) h0 h4.1 h4.2] at h
             have hg : (s.getD at_.toNat 0).toNat = szT s at_ := rfl
             obtain ⟨a1, a2, a3, a4⟩ := ih (msT s (at_ + 1 + szT s at_) from_) (by have := Q2l (s := s) (from_ := from_) hs1.1 hs4.2.2; omega) _ _ _ _ _ _ rfl (LP_on hL (by rw [hg]; exact h0) (by rw [hg]; omega) (by rw [hg]; exact hvl)) h
             refine ⟨a1, a2, fun hb => ?_, hs1.1⟩
             have := a3 hb
             omega
         · rw [Uz h1 (by omega) h4] at h; cases h
def nmC (n : List UInt8) (b : List Int) (l : V7) : Bool := Jq n && (J5 b && (kOk l && Nat.ble (b.length + n.length) 1000000000000))
noncomputable def b123 : Code := (Z5 c123 0)
def J3u : LoopSpec := { bid := 0, sh := [.ptr 0 0, .d .str false], so := [.box [.row 1, .mp 2], .row (.int .u8), .map .str (.int .i64)], F := fun (n, _) (_, b, l, _) => .on2 (nmC n b l) ((Q3 n (Z0 b) l).1.isSome) (.ret, [.ptr 0 0, .str (Q3 n (Z0 b) l).2.1, .int .i64 0], [.box [.rowA 1, .mp 2], .row (.int .u8) (J0 ((Q3 n (Z0 b) l).2.2.1 ++ X1 (49152 + (Q3 n (Z0 b) l).1.getD 0))), .mpo .str (.int .i64) (Q3 n (Z0 b) l).2.2.2]) (.exit 0, [.ptr 0 0, .str (Q3 n (Z0 b) l).2.1, .dead], [.box [.rowA 1, .mp 2], .row (.int .u8) (J0 (Q3 n (Z0 b) l).2.2.1), .mpo .str (.int .i64) (Q3 n (Z0 b) l).2.2.2]) }
def r123 (n : List UInt8) (b : List Int) (l : List (List UInt8 × Int)) : Tr (St ⊕ (Ex × St)) := .br (!n == [0]) (.br (hasM Ty.str (Ty.int .i64) n l) (.br (n16C (IntKind.wrap .u16 (IntKind.wrap .i64 (↑(BitVec.toNat (BitVec.ofInt (IntKind.bits IntKind.i64) 49152 ||| BitVec.ofInt (IntKind.bits IntKind.i64) (getM Ty.str (Ty.int .i64) n l))) : Int)))) (.br (fits (List.length b + List.length (J0 (X1 (IntKind.wrap .u16 (IntKind.wrap .i64 (↑(BitVec.toNat (BitVec.ofInt (IntKind.bits IntKind.i64) 49152 ||| BitVec.ofInt (IntKind.bits IntKind.i64) (getM Ty.str (Ty.int .i64) n l))) : Int)))))) 1) (.ret (.inr (.ret, stOf [0, 1, 4] [.ptr 0 0, .str n, .int .i64 0] [.boxT none [.rowA 1, .mp 2], .row (.int .u8) (b ++ J0 (X1 (IntKind.wrap .u16 (IntKind.wrap .i64 (↑(BitVec.toNat (BitVec.ofInt (IntKind.bits IntKind.i64) 49152 ||| BitVec.ofInt (IntKind.bits IntKind.i64) (getM Ty.str (Ty.int .i64) n l))) : Int))))), .mpo .str (.int .i64) l]))) .no) .no) (.br (decide ((↑b.length : Int) < 16384)) (.br (decide (0 < (↑n.length : Int))) (.br (decide (0 ≤ IntKind.wrap .i64 (1 + IntKind.wrap .i64 (↑(UInt8.toNat (n.getD (Int.toNat 0) 0)) : Int))) && decide (IntKind.wrap .i64 (1 + IntKind.wrap .i64 (↑(UInt8.toNat (n.getD (Int.toNat 0) 0)) : Int)) ≤ (↑n.length : Int))) (.br (decide (0 ≤ 0) && decide (0 ≤ IntKind.wrap .i64 (1 + IntKind.wrap .i64 (↑(UInt8.toNat (n.getD (Int.toNat 0) 0)) : Int)))) (.br (fits (List.length b + List.length (J0 (List.take (Int.toNat (IntKind.wrap .i64 (1 + IntKind.wrap .i64 (↑(UInt8.toNat (n.getD (Int.toNat 0) 0)) : Int))) - Int.toNat 0) (List.drop (Int.toNat 0) n)))) 1) (.br (decide (0 ≤ (↑n.length : Int)) && decide ((↑n.length : Int) ≤ (↑n.length : Int))) (.br (decide (0 ≤ IntKind.wrap .i64 (1 + IntKind.wrap .i64 (↑(UInt8.toNat (n.getD (Int.toNat 0) 0)) : Int))) && decide (IntKind.wrap .i64 (1 + IntKind.wrap .i64 (↑(UInt8.toNat (n.getD (Int.toNat 0) 0)) : Int)) ≤ (↑n.length : Int))) (.ret (.inl (stOf [0, 1] [.ptr 0 0, .str (List.take (Int.toNat (↑n.length : Int) - Int.toNat (IntKind.wrap .i64 (1 + IntKind.wrap .i64 (↑(UInt8.toNat (n.getD (Int.toNat 0) 0)) : Int)))) (List.drop (Int.toNat (IntKind.wrap .i64 (1 + IntKind.wrap .i64 (↑(UInt8.toNat (n.getD (Int.toNat 0) 0)) : Int)))) n))] [.boxT none [.rowA 1, .mp 2], .row (.int .u8) (b ++ J0 (List.take (Int.toNat (IntKind.wrap .i64 (1 + IntKind.wrap .i64 (↑(UInt8.toNat (n.getD (Int.toNat 0) 0)) : Int))) - Int.toNat 0) (List.drop (Int.toNat 0) n))), .mpo .str (.int .i64) (putM Ty.str (Ty.int .i64) n (↑b.length : Int) l)]))) .no) .no) .no) .no) .no) .no) (.br (decide (0 < (↑n.length : Int))) (.br (decide (0 ≤ IntKind.wrap .i64 (1 + IntKind.wrap .i64 (↑(UInt8.toNat (n.getD (Int.toNat 0) 0)) : Int))) && decide (IntKind.wrap .i64 (1 + IntKind.wrap .i64 (↑(UInt8.toNat (n.getD (Int.toNat 0) 0)) : Int)) ≤ (↑n.length : Int))) (.br (decide (0 ≤ 0) && decide (0 ≤ IntKind.wrap .i64 (1 + IntKind.wrap .i64 (↑(UInt8.toNat (n.getD (Int.toNat 0) 0)) : Int)))) (.br (fits (List.length b + List.length (J0 (List.take (Int.toNat (IntKind.wrap .i64 (1 + IntKind.wrap .i64 (↑(UInt8.toNat (n.getD (Int.toNat 0) 0)) : Int))) - Int.toNat 0) (List.drop (Int.toNat 0) n)))) 1) (.br (decide (0 ≤ (↑n.length : Int)) && decide ((↑n.length : Int) ≤ (↑n.length : Int))) (.br (decide (0 ≤ IntKind.wrap .i64 (1 + IntKind.wrap .i64 (↑(UInt8.toNat (n.getD (Int.toNat 0) 0)) : Int))) && decide (IntKind.wrap .i64 (1 + IntKind.wrap .i64 (↑(UInt8.toNat (n.getD (Int.toNat 0) 0)) : Int)) ≤ (↑n.length : Int))) (.ret (.inl (stOf [0, 1] [.ptr 0 0, .str (List.take (Int.toNat (↑n.length : Int) - Int.toNat (IntKind.wrap .i64 (1 + IntKind.wrap .i64 (↑(UInt8.toNat (n.getD (Int.toNat 0) 0)) : Int)))) (List.drop (Int.toNat (IntKind.wrap .i64 (1 + IntKind.wrap .i64 (↑(UInt8.toNat (n.getD (Int.toNat 0) 0)) : Int)))) n))] [.boxT none [.rowA 1, .mp 2], .row (.int .u8) (b ++ J0 (List.take (Int.toNat (IntKind.wrap .i64 (1 + IntKind.wrap .i64 (↑(UInt8.toNat (n.getD (Int.toNat 0) 0)) : Int))) - Int.toNat 0) (List.drop (Int.toNat 0) n))), .mpo .str (.int .i64) l]))) .no) .no) .no) .no) .no) .no))) (.ret (.inr (.exit 0, stOf [0, 1, 4] [.ptr 0 0, .str n, .dead] [.boxT none [.rowA 1, .mp 2], .row (.int .u8) b, .mpo .str (.int .i64) l])))
theorem Z3t (lp : Lp) (n : List UInt8) (b : List Int) (l : List (List UInt8 × Int)) : evC T0 (orcB [Ul, Z0j] [os98]) lp b123 0 (stOf [0, 1] [.ptr 0 0, .str n] [.box [.rowA 1, .mp 2], .row (.int .u8) b, .mpo .str (.int .i64) l]) (Z1 [0, 1] [0, 1, 4] 3) = (r123 n b l).get := by kernel_rfl
theorem wf123 (I'' : List UInt8 → List Int → List (List UInt8 × Int) → Prop) (m'' : List UInt8 → List Int → List (List UInt8 × Int) → Nat) (r'' : Ex × St) (h : ∀ (n : List UInt8) (b : List Int) (l : List (List UInt8 × Int)), I'' n b l → (r123 n b l).all fun x'' => x'' = .inr r'' ∨ ∃ (n' : List UInt8) (b' : List Int) (l' : List (List UInt8 × Int)), x'' = .inl (stOf [0, 1] [.ptr 0 0, .str n'] [.box [.rowA 1, .mp 2], .row (.int .u8) b', .mpo .str (.int .i64) l']) ∧ I'' n' b' l' ∧ m'' n' b' l' < m'' n b l) (lp : Lp) (n : List UInt8) (b : List Int) (l : List (List UInt8 × Int)) : I'' n b l →
    Z3 (fun st => evC T0 (orcB [Ul, Z0j] [os98]) lp b123 0 st (Z1 [0, 1] [0, 1, 4] 3)) (stOf [0, 1] [.ptr 0 0, .str n] [.box [.rowA 1, .mp 2], .row (.int .u8) b, .mpo .str (.int .i64) l]) = some r'' :=
 Z6 (fun a'' : List UInt8 × List Int × List (List UInt8 × Int) => stOf [0, 1] [.ptr 0 0, .str a''.1] [.box [.rowA 1, .mp 2], .row (.int .u8) a''.2.1, .mpo .str (.int .i64) a''.2.2]) (fun a'' => I'' a''.1 a''.2.1 a''.2.2) (fun a'' => m'' a''.1 a''.2.1 a''.2.2) r'' (fun a'' => r123 a''.1 a''.2.1 a''.2.2)
  (fun a'' x hx => (Z3t lp a''.1 a''.2.1 a''.2.2).trans hx) (fun a'' ha => Tr.all_mono (fun x'' hx => hx.imp id fun ⟨n', b', l', h1, h2, h3⟩ => ⟨(n', b', l'), h1, h2, h3⟩) (h (a''.1) (a''.2.1) (a''.2.2) ha)) (n, b, l)
def nmI (n0 : List UInt8) (b0 : List Int) (l0 : V7) (n : List UInt8) (b : List Int) (l : V7) : Prop := Jq n = true ∧ J5 b = true ∧ kOk l = true ∧ b.length + n.length ≤ 1000000000000 ∧ Q3 n (Z0 b) l = Q3 n0 (Z0 b0) l0
theorem Q47 : J3u.Ok T0 (orcB [Ul, Z0j] [os98]) h123 3 0 b123 := by
 intro q'' hq'' x'' y'' r'' h
 obtain ⟨(n : List UInt8), _⟩ := x''
 obtain ⟨_, (b : List Int), (l : List (List UInt8 × Int)), _⟩ := y''
 obtain ⟨hc, rfl⟩ := Tr.get_on2 h
 show Z3 (fun st => evC T0 (orcB [Ul, Z0j] [os98]) (lpN T0 (orcB [Ul, Z0j] [os98]) h123 3 q'') b123 0 st (Z1 [0, 1] [0, 1, 4] 3)) (stOf [0, 1] [.ptr 0 0, .str n] [.box [.rowA 1, .mp 2], .row (.int .u8) b, .mpo .str (.int .i64) l]) = some ((bif (Q3 n (Z0 b) l).1.isSome then (.ret, [.ptr 0 0, .str (Q3 n (Z0 b) l).2.1, .int .i64 0], [.box [.rowA 1, .mp 2], .row (.int .u8) (J0 ((Q3 n (Z0 b) l).2.2.1 ++ X1 (49152 + (Q3 n (Z0 b) l).1.getD 0))), .mpo .str (.int .i64) (Q3 n (Z0 b) l).2.2.2]) else (.exit 0, [.ptr 0 0, .str (Q3 n (Z0 b) l).2.1, .dead], [.box [.rowA 1, .mp 2], .row (.int .u8) (J0 (Q3 n (Z0 b) l).2.2.1), .mpo .str (.int .i64) (Q3 n (Z0 b) l).2.2.2]) : Ex × List AV × List LObj).1, stOf [0, 1, 4] (bif (Q3 n (Z0 b) l).1.isSome then (.ret, [.ptr 0 0, .str (Q3 n (Z0 b) l).2.1, .int .i64 0], [.box [.rowA 1, .mp 2], .row (.int .u8) (J0 ((Q3 n (Z0 b) l).2.2.1 ++ X1 (49152 + (Q3 n (Z0 b) l).1.getD 0))), .mpo .str (.int .i64) (Q3 n (Z0 b) l).2.2.2]) else (.exit 0, [.ptr 0 0, .str (Q3 n (Z0 b) l).2.1, .dead], [.box [.rowA 1, .mp 2], .row (.int .u8) (J0 (Q3 n (Z0 b) l).2.2.1), .mpo .str (.int .i64) (Q3 n (Z0 b) l).2.2.2]) : Ex × List AV × List LObj).2.1 (bif (Q3 n (Z0 b) l).1.isSome then (.ret, [.ptr 0 0, .str (Q3 n (Z0 b) l).2.1, .int .i64 0], [.box [.rowA 1, .mp 2], .row (.int .u8) (J0 ((Q3 n (Z0 b) l).2.2.1 ++ X1 (49152 + (Q3 n (Z0 b) l).1.getD 0))), .mpo .str (.int .i64) (Q3 n (Z0 b) l).2.2.2]) else (.exit 0, [.ptr 0 0, .str (Q3 n (Z0 b) l).2.1, .dead], [.box [.rowA 1, .mp 2], .row (.int .u8) (J0 (Q3 n (Z0 b) l).2.2.1), .mpo .str (.int .i64) (Q3 n (Z0 b) l).2.2.2]) : Ex × List AV × List LObj).2.2)
 simp only [nmC, Bool.and_eq_true] at hc
 obtain ⟨hr, hok, hk, hb⟩ := hc
 have hb := Nat.le_of_ble_eq_true hb
 refine wf123 (nmI n b l) (fun n _ _ => n.length) _ ?_ _ n b l ⟨hr, hok, hk, hb, rfl⟩
 clear hr hok hk hb
 rename_i n0 b0 l0
 rintro n b l ⟨hr, hok, hk, hb, he⟩
 rw [← he]
 unfold r123
 have hbS : J0 (Z0 b) = b := J09 hok
 have hSl : (Z0 b).length = b.length := Zg b
 rcases U07 hr with rfl | ⟨hn0, hn1, hlt, h63, hne, hrt⟩
 · rw [Qq]
   refine Tr.all_f (by simp) (Tr.all_ret (.inl ?_))
   simp only [Option.isSome_none, cond_false, hbS]
 · refine Tr.all_t (by simpa using hn0) ?_
   cases hlk : Vz n l with
   | some a =>
     obtain ⟨ha0, ha1⟩ := Q3h hk hlk
     rw [Xn hn0 hlk]
     rw [Z35 hlk]
     simp only [U4q ha0 ha1]
     refine Tr.all_t (by rw [U1q, hlk]; rfl) (Tr.all_t (by simp [n16C]; omega) (Tr.all_t (Q6 (by simp [J2, Qn]; omega) (by simp [J2, Qn]; omega)) (Tr.all_ret (.inl ?_))))
     simp only [Option.isSome_some, cond_true, Jc, hbS, Option.getD_some]
   | none =>
     rw [Vk hn0 hn1 hlk]
     rw [V3b hlk]
     simp only [szW, hdW, tlW]
     have hfit : fits (List.length b + List.length (J0 (hdN n))) 1 = true := Q6 (by rw [J2, Z13 (by omega)]; omega) (by rw [J2, Z13 (by omega)]; omega)
     have hnew : J5 (b ++ J0 (hdN n)) = true := Xt hok (Vc _)
     have hlen : (b ++ J0 (hdN n)).length + (tlN n).length ≤ 1000000000000 := by
      rw [List.length_append, J2, Z13 (by omega), U2u]; omega
     have hS2 : Z0 (b ++ J0 (hdN n)) = Z0 b ++ hdN n := by rw [U0d, Vj]
     have hm : (tlN n).length < n.length := U0v hn1
     refine Tr.all_f (by rw [U1q, hlk]; rfl) (Tr.all_br (fun c1 => ?_) fun c1 => ?_)
     · simp only [decide_eq_true_eq] at c1
       refine Tr.all_t (X0 (by omega)) (Tr.all_t (by rw [X0 (by omega), X0 (by omega)]; rfl) (Tr.all_t (by rw [X0 (by omega), X0 (by omega)]; rfl) (Tr.all_t hfit (Tr.all_t (by rw [X0 (by omega), X0 (by omega)]; rfl) (Tr.all_t (by rw [X0 (by omega), X0 (by omega)]; rfl) (Tr.all_ret (.inr ⟨_, _, _, rfl, ⟨hrt, hnew, Z2w hk (by omega), hlen, ?_⟩, hm⟩)))))))
       rw [hS2, ← he, Vk hn0 hn1 hlk, if_pos (by omega), hSl]
     · simp only [decide_eq_false_iff_not] at c1
       refine Tr.all_t (X0 (by omega)) (Tr.all_t (by rw [X0 (by omega), X0 (by omega)]; rfl) (Tr.all_t (by rw [X0 (by omega), X0 (by omega)]; rfl) (Tr.all_t hfit (Tr.all_t (by rw [X0 (by omega), X0 (by omega)]; rfl) (Tr.all_t (by rw [X0 (by omega), X0 (by omega)]; rfl) (Tr.all_ret (.inr ⟨_, _, _, rfl, ⟨hrt, hnew, hk, hlen, ?_⟩, hm⟩)))))))
       rw [hS2, ← he, Vk hn0 hn1 hlk, if_neg (by omega)]
def t123 (n : List UInt8) (b : List Int) (l : List (List UInt8 × Int)) : Tr Res := .br (bigS n) (.br (!mayV n) (.ret ([.int .i64 1], [.boxT none [.rowA 1, .mp 2], .row (.int .u8) b, .mpo .str (.int .i64) l])) (.br (nmC n b l) (.br (Option.isSome (Q3 n (Z0 b) l).1) (.ret ([.int .i64 0], [.boxT none [.rowA 1, .mp 2], .row (.int .u8) (J0 ((Q3 n (Z0 b) l).2.2.1 ++ X1 (49152 + Option.getD (Q3 n (Z0 b) l).1 0))), .mpo .str (.int .i64) (Q3 n (Z0 b) l).2.2.2])) (.br (fits (List.length (J0 (Q3 n (Z0 b) l).2.2.1) + List.length (J0 (Q3 n (Z0 b) l).2.1)) 1) (.ret ([.int .i64 0], [.boxT none [.rowA 1, .mp 2], .row (.int .u8) (J0 (Q3 n (Z0 b) l).2.2.1 ++ J0 (Q3 n (Z0 b) l).2.1), .mpo .str (.int .i64) (Q3 n (Z0 b) l).2.2.2])) .no)) .no)) .no
def J4i : OSpec := { f := 123, sh := [.ptr 0 0, .d .str false], so := [.box [.row 1, .mp 2], .row (.int .u8), .map .str (.int .i64)], F := fun (n, _) (_, b, l, _) => t123 n b l }
theorem fn123 (n : List UInt8) (b : List Int) (l : List (List UInt8 × Int)) : evC T0 (orcB [Ul, Z0j] [os98]) (lpOf h123 3 (lsOf [J3u])) c123 1000000 (V1 [.ptr 0 0, .str n] [.box [.rowA 1, .mp 2], .row (.int .u8) b, .mpo .str (.int .i64) l] Try.f123.ntmps) (J1 T0 false 3 Try.f123) = (t123 n b l).get := by kernel_rfl
theorem ok123 : J4i.Ok Try.prog := by
 refine V3 X2 tab0 (V0 (all_cons U0w (all_cons Q1u all_nil)) (all_cons ok98 all_nil)) h123 (d := 0) (n0 := 3) (S := lsOf [J3u]) Try.func123 (by kernel_rfl) (c := c123) (by kernel_rfl) rfl (Q5 (xs := [(0, b123)]) (by kernel_rfl) (all_cons (J7 Q47) all_nil)) (by omega) (by kernel_rfl) ?_
 intro x'' y'' q'' hq''
 obtain ⟨(n : List UInt8), _⟩ := x''
 obtain ⟨_, (b : List Int), (l : List (List UInt8 × Int)), _⟩ := y''
 exact (fn123 n b l).trans hq''
abbrev pkO (b : List Int) (l : V7) : List LObj := [.box [.rowA 1, .mp 2], .row (.int .u8) b, .mpo .str (.int .i64) l]
def pkC (b : List Int) (l : V7) : Bool := J5 b && (kOk l && Nat.ble b.length 100000000000)
def Z09 : OSpec := J4i.like fun (n, _) (_, b, l, _) => .br (pkC b l && Nat.ble n.length 100000000000) (.br (mayV n) (.ret ([.int .i64 0], pkO (J0 (Z4 n (Z0 b) l).1) (Z4 n (Z0 b) l).2)) (.ret ([.int .i64 1], pkO b l))) .no
theorem V2k : Z09.Ok Try.prog := by
 refine Uh ok123 _ ?_
 rintro ⟨(n : List UInt8), _⟩ ⟨_, (b : List Int), (l : V7), _⟩ r h
 simp only [Tr.get] at h
 cases hc : (pkC b l && Nat.ble n.length 100000000000) with
 | false => rw [hc] at h; cases h
 | true =>
   rw [hc, cond_true] at h
   simp only [pkC, Bool.and_eq_true] at hc
   obtain ⟨⟨hok, hk, hb⟩, hn⟩ := hc
   have hb := Nat.le_of_ble_eq_true hb
   have hn := Nat.le_of_ble_eq_true hn
   refine Tr.get_of_all ?_
   show (t123 n b l).all _
   have hbig : bigS n = true := by simp [bigS]; omega
   cases hm : mayV n with
   | false =>
     rw [hm, cond_false] at h
     cases h
     unfold t123
     rw [hm]
     exact Tr.all_t hbig (Tr.all_t rfl (Tr.all_ret rfl))
   | true =>
     rw [hm, cond_true] at h
     cases h
     unfold t123
     rw [hm]
     have hr : Jq n = true := by simp only [mayV, Bool.and_eq_true] at hm; exact hm.1
     obtain ⟨f1, f2, f3, f4, f5, f6⟩ := J0c _ n (Z0 b) l rfl hr
     rw [Zg] at f3
     refine Tr.all_t hbig (Tr.all_f rfl (Tr.all_t (by simp only [nmC, hr, hok, hk, Bool.true_and]; exact Nat.ble_eq_true_of_le (by omega)) ?_))
     unfold Z4
     cases hf : (Q3 n (Z0 b) l).1 with
     | some a =>
       refine Tr.all_t rfl (Tr.all_ret ?_)
       rfl
     | none =>
       rw [f1 hf] at f3
       refine Tr.all_f rfl (Tr.all_t (Q6 (by rw [J2, J2, f1 hf]; simp at f3 ⊢; omega) (by rw [J2, J2, f1 hf]; simp at f3 ⊢; omega)) (Tr.all_ret ?_))
       rw [f1 hf, ← Jc]
       rfl
abbrev PKt := List UInt8 × V7
def stN (p : PKt) (x : List UInt8 × Bool) : PKt := bif mayV x.1 then Z4 x.1 p.1 p.2 else p
theorem Js {α : Type} {l : List α} {i : Int} (d : α) (h0 : 0 ≤ i) (h : i < l.length) : l.drop i.toNat = l.getD i.toNat d :: l.drop (i + 1).toNat ∧ l.getD i.toNat d ∈ l := by
 have hk : i.toNat < l.length := by omega
 rw [List.getD_eq_getElem?_getD, List.getElem?_eq_getElem hk, show (i + 1).toNat = i.toNat + 1 by omega]
 exact ⟨List.drop_eq_getElem_cons hk, List.getElem_mem hk⟩
def layV (k : Int) : List Int := if k = 1 then [4] else if k = 28 then [16] else if k = 2 ∨ k = 5 ∨ k = 12 then [-1] else if k = 15 then [2, -1] else if k = 6 then [-1, -1, 20] else if k = 16 then [-2] else [-3]
def whAt (s : List UInt8) (k : Nat) : Nat := if h : k < s.length ∧ 0 < byN s k then whAt s (k + 1 + byN s k) else k
termination_by s.length - k
def Zc (s : List UInt8) : Nat := if whAt s 0 < s.length ∧ mayV (s.take (whAt s 0 + 1)) = true then whAt s 0 + 1 else 0
theorem U2x (s : List UInt8) : Zc s ≤ s.length := by
 unfold Zc
 split <;> omega
def txAt (s : List UInt8) (k : Nat) : Nat := if h : k < s.length then txAt s (k + 1 + byN s k) else k
termination_by s.length - k
def X0k (s : List UInt8) : Bool := !s.isEmpty && decide (txAt s 0 = s.length)
def szP (p : Int) (d : List UInt8) : Int := if p = -1 then (Zc d : Int) else if p = -2 ∧ X0k d = true ∨ p = -3 then (d.length : Int) else p
def okP (p : Int) (d : List UInt8) : Bool := decide (0 ≤ szP p d) && (decide (szP p d ≤ (d.length : Int)) && !(decide (p = -1) && decide (szP p d = 0)))
def cutS : List Int → List UInt8 → List (List UInt8) → Bool × (List UInt8 × List (List UInt8))
 | [], d, out => (true, d, out)
 | p :: ps, d, out => if okP p d = true then cutS ps (d.drop (szP p d).toNat) (out ++ [d.take (szP p d).toNat]) else (false, d, out)
def noS (l : List (List UInt8)) : Bool := l.isEmpty
def cutC (d : List UInt8) (ps : List Int) (n i : Int) (l : List (List UInt8)) : Bool := bigS d && (decide (n = ps.length) && (decide (i = 0) && (noS l && decide (ps.length ≤ 10))))
def okV (k : Int) (d : List UInt8) : Bool := (cutS (layV k) d []).1
def U1n (k : Int) (d : List UInt8) : List UInt8 := (cutS (layV k) d []).2.1
def Xr (k : Int) (d : List UInt8) : List (List UInt8) := (cutS (layV k) d []).2.2
def mayR (k : Int) (d : List UInt8) : Bool := (okV k d && (U1n k d).isEmpty) && Nat.ble d.length 65535
def putS : List Int → List (List UInt8) → PKt → PKt
 | [], _, p => p
 | x :: ps, ls, p => putS ps ls.tail (bif x == -1 then stN p (ls.headD [], false) else (p.1 ++ ls.headD [], p.2))
def putC (ls : List (List UInt8)) (ps : List Int) (n i : Int) (b : List Int) (m : V7) : Bool := (J5 b && (kOk m && Nat.ble b.length 1000000000)) && (decide (n = ps.length) && (decide (i = 0) && (decide (ls.length = ps.length) && (decide (ps.length ≤ 10) && ls.all fun x => decide (x.length ≤ 1000000)))))
def U5 : List Int → List UInt8 → Int → Int → List UInt8 → Bool × (Int × List UInt8)
 | [], _, a, _, d => (true, a, d)
 | x :: ps, s, a, e, d =>
   if x = -1 then
    (match Q4 s a a (-1) [] with
    | none => (false, a, d)
    | some (n, next) => if next > e then (false, a, d) else U5 ps s next e (d ++ n))
   else
    (if Q1 s a (if x = -2 ∨ x = -3 then e - a else x) = true ∧ a + (if x = -2 ∨ x = -3 then e - a else x) ≤ e then U5 ps s (a + (if x = -2 ∨ x = -3 then e - a else x)) e (d ++ U1 s a (if x = -2 ∨ x = -3 then e - a else x)) else (false, a, d))
def noT (d : List UInt8) : Bool := d.isEmpty
def smS (s : List UInt8) : Bool := decide (s.length ≤ 100000000)
def J2e (s : List UInt8) (a e : Int) (d : List UInt8) (ps : List Int) (n i : Int) : Bool := smS s && (decide (n = ps.length) && (decide (i = 0) && (decide (0 ≤ a) && (decide (a ≤ e) && (decide (e ≤ s.length) && (noT d && decide (ps.length ≤ 10)))))))
def pkT (b : List Int) (m : V7) : Bool := J5 b && (kOk m && Nat.ble b.length 1000000000)
def putR (k : Int) (d : List UInt8) (p : PKt) : PKt := putS (layV k) (Xr k d) p
def U01 (s : List UInt8) (a n k : Int) : Option (List UInt8) := if Q1 s a n = true then (if (U5 (layV k) s a (a + n) []).1 = true ∧ (U5 (layV k) s a (a + n) []).2.1 = a + n ∧ mayR k (U5 (layV k) s a (a + n) []).2.2 = true then some (U5 (layV k) s a (a + n) []).2.2 else none) else none
theorem X3e {p : PKt} {x : List UInt8 × Bool} (h : kOk p.2 = true) : kOk (stN p x).2 = true ∧ (stN p x).1.length ≤ p.1.length + x.1.length := by
 unfold stN
 cases hm : mayV x.1 with
 | false => exact ⟨h, by simp⟩
 | true =>
   obtain ⟨_, _, _, f4, _⟩ := J0c _ x.1 p.1 p.2 rfl (Up.1 hm).1
   obtain ⟨l1, _⟩ := Z0f _ x.1 p.1 p.2 rfl (Up.1 hm).1
   exact ⟨f4 h, l1⟩
theorem J0d {s : List UInt8} {a : Int} {n : List UInt8} {next : Int} (h0 : 0 ≤ a) (h : Q4 s a a (-1) [] = some (n, next)) : mayV n = true ∧ a < next ∧ next ≤ s.length := by
 obtain ⟨a1, _, a3, _⟩ := Z32 _ a a (-1) [] n next rfl U4u h
 exact ⟨a1, a3 (by omega)⟩
theorem J38 {α : Type} {F : St → Option (St ⊕ (Ex × St))} (mk : α → St) (I : α → Prop) (m : α → Nat) (r : Ex × St) (t : α → Tr (St ⊕ (Ex × St))) (hF : ∀ a x, (t a).get = some x → F (mk a) = some x)
    (h : ∀ a, I a → (t a).all fun x => x = .inr r ∨ (∃ a', x = .inl (mk a') ∧ I a' ∧ m a' < m a) ∨ ∃ st', x = .inl st' ∧ Z3 F st' = some r) : ∀ a, I a → Z3 F (mk a) = some r := by
 have key : ∀ (n : Nat) (a : α), m a = n → I a → Z3 F (mk a) = some r := by
  intro n
  induction n using Nat.strongRecOn with
  | _ n ih =>
    intro a hn ha
    obtain ⟨x, h1, h2⟩ := Tr.all_get (h a ha)
    rcases h2 with rfl | ⟨a', rfl, ha', hlt⟩ | ⟨st', rfl, h3⟩
    · exact V1q (hF a _ h1)
    · rw [J0y (hF a _ h1)]
      exact ih (m a') (by omega) a' rfl ha'
    · rw [J0y (hF a _ h1)]
      exact h3
 exact fun a ha => key _ a rfl ha
def tkC (s : List UInt8) (b : List Int) : Bool := bigS s && (J5 b && Nat.ble b.length 255)
def tkI (s : List UInt8) (a0 f0 h0 : Int) (b0 : List Int) (at_ from_ behind : Int) (b : List Int) : Prop := J5 b = true ∧ b.length ≤ 255 ∧ Q4 s at_ from_ behind (Z0 b) = Q4 s a0 f0 h0 (Z0 b0)
noncomputable def J2v : Code := (Z5 c114 0)
def J4n : LoopSpec := { bid := 0, sh := [.d .str false, .d (.int .i64) false, .ptr 0 0, .d (.int .i64) false, .d (.int .i64) false], so := [.tbox 203 [.ptr 0 0, .row 1], .row (.int .u8)], F := fun (s, at_, from_, behind, _) (_, b, _) => .on (tkC s b) (.ret, [.str (tkS (Q4 s at_ from_ behind (Z0 b))), .int .i64 (tkN (Q4 s at_ from_ behind (Z0 b))), .int .i64 (tkE (Q4 s at_ from_ behind (Z0 b)))], []) }
def X2v (s : List UInt8) (at_ from_ behind : Int) (b : List Int) : Tr (St ⊕ (Ex × St)) := .br (bigS s) (.br (Q1 s at_ 1) (.br (decide ((↑(UInt8.toNat (s.getD at_.toNat 0)) : Int) > 63)) (.br (decide ((↑(UInt8.toNat (s.getD at_.toNat 0)) : Int) < 192)) (.ret (.inr (.ret, stOf [4, 5, 6] [.str [], .int .i64 0, .int .i64 2] []))) (.br (decide ((↑(UInt8.toNat (s.getD at_.toNat 0)) : Int) ≥ 192)) (.br (bigS s) (.br (Q1 s at_ 2) (.br (decide (IntKind.wrap .i64 (↑(BitVec.toNat (BitVec.ofInt (IntKind.bits IntKind.i64) (IntKind.wrap .i64 (n16 s at_)) &&& ~~~BitVec.ofInt (IntKind.bits IntKind.i64) 49152)) : Int) < from_)) (.br (decide (behind < 0)) (.ret (.inl (stOf [0, 1, 7, 8, 9] [.str s, .int .i64 (IntKind.wrap .i64 (↑(BitVec.toNat (BitVec.ofInt (IntKind.bits IntKind.i64) (IntKind.wrap .i64 (n16 s at_)) &&& ~~~BitVec.ofInt (IntKind.bits IntKind.i64) 49152)) : Int)), .ptr 0 0, .int .i64 (IntKind.wrap .i64 (↑(BitVec.toNat (BitVec.ofInt (IntKind.bits IntKind.i64) (IntKind.wrap .i64 (n16 s at_)) &&& ~~~BitVec.ofInt (IntKind.bits IntKind.i64) 49152)) : Int)), .int .i64 (at_ + (2 : Ty.den (Ty.int .i64)))] [.boxT (some 203) [.ptr 0 0, .rowA 1], .row (.int .u8) b]))) (.ret (.inl (stOf [0, 1, 7, 8, 9] [.str s, .int .i64 (IntKind.wrap .i64 (↑(BitVec.toNat (BitVec.ofInt (IntKind.bits IntKind.i64) (IntKind.wrap .i64 (n16 s at_)) &&& ~~~BitVec.ofInt (IntKind.bits IntKind.i64) 49152)) : Int)), .ptr 0 0, .int .i64 (IntKind.wrap .i64 (↑(BitVec.toNat (BitVec.ofInt (IntKind.bits IntKind.i64) (IntKind.wrap .i64 (n16 s at_)) &&& ~~~BitVec.ofInt (IntKind.bits IntKind.i64) 49152)) : Int)), .int .i64 behind] [.boxT (some 203) [.ptr 0 0, .rowA 1], .row (.int .u8) b])))) (.ret (.inr (.ret, stOf [4, 5, 6] [.str [], .int .i64 0, .int .i64 2] [])))) (.ret (.inr (.ret, stOf [4, 5, 6] [.str [], .int .i64 0, .int .i64 2] [])))) .no) (.br (bigS s) (.br (Q1 s (at_ + (1 : Ty.den (Ty.int .i64))) (IntKind.wrap .i64 (↑(UInt8.toNat (s.getD at_.toNat 0)) : Int))) (.br (decide (IntKind.wrap .i64 (IntKind.wrap .i64 ((↑b.length : Int) + 1) + (↑(List.length (U1 s (at_ + (1 : Ty.den (Ty.int .i64))) (IntKind.wrap .i64 (↑(UInt8.toNat (s.getD at_.toNat 0)) : Int)))) : Int)) > 255)) (.ret (.inr (.ret, stOf [4, 5, 6] [.str [], .int .i64 0, .int .i64 2] []))) (.br (fits (List.length b + 1) 1) (.br (bigS (U1 s (at_ + (1 : Ty.den (Ty.int .i64))) (IntKind.wrap .i64 (↑(UInt8.toNat (s.getD at_.toNat 0)) : Int)))) (.br (fits (List.length (b ++ [(↑(UInt8.toNat (s.getD at_.toNat 0)) : Int)]) + List.length (J0 (X3 (U1 s (at_ + (1 : Ty.den (Ty.int .i64))) (IntKind.wrap .i64 (↑(UInt8.toNat (s.getD at_.toNat 0)) : Int)))))) 1) (.br (decide ((↑(UInt8.toNat (s.getD at_.toNat 0)) : Int) > 0)) (.ret (.inl (stOf [0, 1, 7, 8, 9] [.str s, .int .i64 (at_ + (1 : Ty.den (Ty.int .i64)) + IntKind.wrap .i64 (↑(UInt8.toNat (s.getD at_.toNat 0)) : Int)), .ptr 0 0, .int .i64 from_, .int .i64 behind] [.boxT (some 203) [.ptr 0 0, .rowA 1], .row (.int .u8) (b ++ [(↑(UInt8.toNat (s.getD at_.toNat 0)) : Int)] ++ J0 (X3 (U1 s (at_ + (1 : Ty.den (Ty.int .i64))) (IntKind.wrap .i64 (↑(UInt8.toNat (s.getD at_.toNat 0)) : Int)))))]))) (.br (decide (behind < 0)) (.br (J5 (b ++ [(↑(UInt8.toNat (s.getD at_.toNat 0)) : Int)] ++ J0 (X3 (U1 s (at_ + (1 : Ty.den (Ty.int .i64))) (IntKind.wrap .i64 (↑(UInt8.toNat (s.getD at_.toNat 0)) : Int))))) && (!List.isEmpty (b ++ [(↑(UInt8.toNat (s.getD at_.toNat 0)) : Int)] ++ J0 (X3 (U1 s (at_ + (1 : Ty.den (Ty.int .i64))) (IntKind.wrap .i64 (↑(UInt8.toNat (s.getD at_.toNat 0)) : Int))))) && Nat.ble (List.length (b ++ [(↑(UInt8.toNat (s.getD at_.toNat 0)) : Int)] ++ J0 (X3 (U1 s (at_ + (1 : Ty.den (Ty.int .i64))) (IntKind.wrap .i64 (↑(UInt8.toNat (s.getD at_.toNat 0)) : Int)))))) 9223372036854775807)) (.ret (.inr (.ret, stOf [4, 5, 6] [.str (Z0 (b ++ [(↑(UInt8.toNat (s.getD at_.toNat 0)) : Int)] ++ J0 (X3 (U1 s (at_ + (1 : Ty.den (Ty.int .i64))) (IntKind.wrap .i64 (↑(UInt8.toNat (s.getD at_.toNat 0)) : Int)))))), .int .i64 (at_ + (1 : Ty.den (Ty.int .i64)) + IntKind.wrap .i64 (↑(UInt8.toNat (s.getD at_.toNat 0)) : Int)), .int .i64 0] []))) .no) (.br (J5 (b ++ [(↑(UInt8.toNat (s.getD at_.toNat 0)) : Int)] ++ J0 (X3 (U1 s (at_ + (1 : Ty.den (Ty.int .i64))) (IntKind.wrap .i64 (↑(UInt8.toNat (s.getD at_.toNat 0)) : Int))))) && (!List.isEmpty (b ++ [(↑(UInt8.toNat (s.getD at_.toNat 0)) : Int)] ++ J0 (X3 (U1 s (at_ + (1 : Ty.den (Ty.int .i64))) (IntKind.wrap .i64 (↑(UInt8.toNat (s.getD at_.toNat 0)) : Int))))) && Nat.ble (List.length (b ++ [(↑(UInt8.toNat (s.getD at_.toNat 0)) : Int)] ++ J0 (X3 (U1 s (at_ + (1 : Ty.den (Ty.int .i64))) (IntKind.wrap .i64 (↑(UInt8.toNat (s.getD at_.toNat 0)) : Int)))))) 9223372036854775807)) (.ret (.inr (.ret, stOf [4, 5, 6] [.str (Z0 (b ++ [(↑(UInt8.toNat (s.getD at_.toNat 0)) : Int)] ++ J0 (X3 (U1 s (at_ + (1 : Ty.den (Ty.int .i64))) (IntKind.wrap .i64 (↑(UInt8.toNat (s.getD at_.toNat 0)) : Int)))))), .int .i64 behind, .int .i64 0] []))) .no))) .no) .no) .no)) (.ret (.inr (.ret, stOf [4, 5, 6] [.str [], .int .i64 0, .int .i64 2] [])))) .no))) (.br (decide ((↑(UInt8.toNat (s.getD at_.toNat 0)) : Int) ≥ 192)) (.br (bigS s) (.br (Q1 s at_ 2) (.br (decide (IntKind.wrap .i64 (↑(BitVec.toNat (BitVec.ofInt (IntKind.bits IntKind.i64) (IntKind.wrap .i64 (n16 s at_)) &&& ~~~BitVec.ofInt (IntKind.bits IntKind.i64) 49152)) : Int) < from_)) (.br (decide (behind < 0)) (.ret (.inl (stOf [0, 1, 7, 8, 9] [.str s, .int .i64 (IntKind.wrap .i64 (↑(BitVec.toNat (BitVec.ofInt (IntKind.bits IntKind.i64) (IntKind.wrap .i64 (n16 s at_)) &&& ~~~BitVec.ofInt (IntKind.bits IntKind.i64) 49152)) : Int)), .ptr 0 0, .int .i64 (IntKind.wrap .i64 (↑(BitVec.toNat (BitVec.ofInt (IntKind.bits IntKind.i64) (IntKind.wrap .i64 (n16 s at_)) &&& ~~~BitVec.ofInt (IntKind.bits IntKind.i64) 49152)) : Int)), .int .i64 (at_ + (2 : Ty.den (Ty.int .i64)))] [.boxT (some 203) [.ptr 0 0, .rowA 1], .row (.int .u8) b]))) (.ret (.inl (stOf [0, 1, 7, 8, 9] [.str s, .int .i64 (IntKind.wrap .i64 (↑(BitVec.toNat (BitVec.ofInt (IntKind.bits IntKind.i64) (IntKind.wrap .i64 (n16 s at_)) &&& ~~~BitVec.ofInt (IntKind.bits IntKind.i64) 49152)) : Int)), .ptr 0 0, .int .i64 (IntKind.wrap .i64 (↑(BitVec.toNat (BitVec.ofInt (IntKind.bits IntKind.i64) (IntKind.wrap .i64 (n16 s at_)) &&& ~~~BitVec.ofInt (IntKind.bits IntKind.i64) 49152)) : Int)), .int .i64 behind] [.boxT (some 203) [.ptr 0 0, .rowA 1], .row (.int .u8) b])))) (.ret (.inr (.ret, stOf [4, 5, 6] [.str [], .int .i64 0, .int .i64 2] [])))) (.ret (.inr (.ret, stOf [4, 5, 6] [.str [], .int .i64 0, .int .i64 2] [])))) .no) (.br (bigS s) (.br (Q1 s (at_ + (1 : Ty.den (Ty.int .i64))) (IntKind.wrap .i64 (↑(UInt8.toNat (s.getD at_.toNat 0)) : Int))) (.br (decide (IntKind.wrap .i64 (IntKind.wrap .i64 ((↑b.length : Int) + 1) + (↑(List.length (U1 s (at_ + (1 : Ty.den (Ty.int .i64))) (IntKind.wrap .i64 (↑(UInt8.toNat (s.getD at_.toNat 0)) : Int)))) : Int)) > 255)) (.ret (.inr (.ret, stOf [4, 5, 6] [.str [], .int .i64 0, .int .i64 2] []))) (.br (fits (List.length b + 1) 1) (.br (bigS (U1 s (at_ + (1 : Ty.den (Ty.int .i64))) (IntKind.wrap .i64 (↑(UInt8.toNat (s.getD at_.toNat 0)) : Int)))) (.br (fits (List.length (b ++ [(↑(UInt8.toNat (s.getD at_.toNat 0)) : Int)]) + List.length (J0 (X3 (U1 s (at_ + (1 : Ty.den (Ty.int .i64))) (IntKind.wrap .i64 (↑(UInt8.toNat (s.getD at_.toNat 0)) : Int)))))) 1) (.br (decide ((↑(UInt8.toNat (s.getD at_.toNat 0)) : Int) > 0)) (.ret (.inl (stOf [0, 1, 7, 8, 9] [.str s, .int .i64 (at_ + (1 : Ty.den (Ty.int .i64)) + IntKind.wrap .i64 (↑(UInt8.toNat (s.getD at_.toNat 0)) : Int)), .ptr 0 0, .int .i64 from_, .int .i64 behind] [.boxT (some 203) [.ptr 0 0, .rowA 1], .row (.int .u8) (b ++ [(↑(UInt8.toNat (s.getD at_.toNat 0)) : Int)] ++ J0 (X3 (U1 s (at_ + (1 : Ty.den (Ty.int .i64))) (IntKind.wrap .i64 (↑(UInt8.toNat (s.getD at_.toNat 0)) : Int)))))]))) (.br (decide (behind < 0)) (.br (J5 (b ++ [(↑(UInt8.toNat (s.getD at_.toNat 0)) : Int)] ++ J0 (X3 (U1 s (at_ + (1 : Ty.den (Ty.int .i64))) (IntKind.wrap .i64 (↑(UInt8.toNat (s.getD at_.toNat 0)) : Int))))) && (!List.isEmpty (b ++ [(↑(UInt8.toNat (s.getD at_.toNat 0)) : Int)] ++ J0 (X3 (U1 s (at_ + (1 : Ty.den (Ty.int .i64))) (IntKind.wrap .i64 (↑(UInt8.toNat (s.getD at_.toNat 0)) : Int))))) && Nat.ble (List.length (b ++ [(↑(UInt8.toNat (s.getD at_.toNat 0)) : Int)] ++ J0 (X3 (U1 s (at_ + (1 : Ty.den (Ty.int .i64))) (IntKind.wrap .i64 (↑(UInt8.toNat (s.getD at_.toNat 0)) : Int)))))) 9223372036854775807)) (.ret (.inr (.ret, stOf [4, 5, 6] [.str (Z0 (b ++ [(↑(UInt8.toNat (s.getD at_.toNat 0)) : Int)] ++ J0 (X3 (U1 s (at_ + (1 : Ty.den (Ty.int .i64))) (IntKind.wrap .i64 (↑(UInt8.toNat (s.getD at_.toNat 0)) : Int)))))), .int .i64 (at_ + (1 : Ty.den (Ty.int .i64)) + IntKind.wrap .i64 (↑(UInt8.toNat (s.getD at_.toNat 0)) : Int)), .int .i64 0] []))) .no) (.br (J5 (b ++ [(↑(UInt8.toNat (s.getD at_.toNat 0)) : Int)] ++ J0 (X3 (U1 s (at_ + (1 : Ty.den (Ty.int .i64))) (IntKind.wrap .i64 (↑(UInt8.toNat (s.getD at_.toNat 0)) : Int))))) && (!List.isEmpty (b ++ [(↑(UInt8.toNat (s.getD at_.toNat 0)) : Int)] ++ J0 (X3 (U1 s (at_ + (1 : Ty.den (Ty.int .i64))) (IntKind.wrap .i64 (↑(UInt8.toNat (s.getD at_.toNat 0)) : Int))))) && Nat.ble (List.length (b ++ [(↑(UInt8.toNat (s.getD at_.toNat 0)) : Int)] ++ J0 (X3 (U1 s (at_ + (1 : Ty.den (Ty.int .i64))) (IntKind.wrap .i64 (↑(UInt8.toNat (s.getD at_.toNat 0)) : Int)))))) 9223372036854775807)) (.ret (.inr (.ret, stOf [4, 5, 6] [.str (Z0 (b ++ [(↑(UInt8.toNat (s.getD at_.toNat 0)) : Int)] ++ J0 (X3 (U1 s (at_ + (1 : Ty.den (Ty.int .i64))) (IntKind.wrap .i64 (↑(UInt8.toNat (s.getD at_.toNat 0)) : Int)))))), .int .i64 behind, .int .i64 0] []))) .no))) .no) .no) .no)) (.ret (.inr (.ret, stOf [4, 5, 6] [.str [], .int .i64 0, .int .i64 2] [])))) .no))) (.ret (.inr (.ret, stOf [4, 5, 6] [.str [], .int .i64 0, .int .i64 2] [])))) .no
theorem U32 (lp : Lp) (s : List UInt8) (at_ from_ behind : Int) (b : List Int) : evC T0 (orcB [Z00, Zo, Qf, U0a] [V01, Qy, Uy, Qz, Q00, U0b]) lp J2v 0 (stOf [0, 1, 7, 8, 9] [.str s, .int .i64 at_, .ptr 0 0, .int .i64 from_, .int .i64 behind] [.boxT (some 203) [.ptr 0 0, .rowA 1], .row (.int .u8) b]) (Z1 [0, 1, 7, 8, 9] [4, 5, 6] 0) = (X2v s at_ from_ behind b).get := by kernel_rfl
theorem Q4u (s : List UInt8) (I'' : Int → Int → Int → List Int → Prop) (m'' : Int → Int → Int → List Int → Nat) (r'' : Ex × St) (h : ∀ (at_ from_ behind : Int) (b : List Int), I'' at_ from_ behind b → (X2v s at_ from_ behind b).all fun x'' => x'' = .inr r'' ∨ ∃ (at_' from_' behind' : Int) (b' : List Int), x'' = .inl (stOf [0, 1, 7, 8, 9] [.str s, .int .i64 at_', .ptr 0 0, .int .i64 from_', .int .i64 behind'] [.boxT (some 203) [.ptr 0 0, .rowA 1], .row (.int .u8) b']) ∧ I'' at_' from_' behind' b' ∧ m'' at_' from_' behind' b' < m'' at_ from_ behind b) (lp : Lp) (at_ from_ behind : Int) (b : List Int) : I'' at_ from_ behind b →
    Z3 (fun st => evC T0 (orcB [Z00, Zo, Qf, U0a] [V01, Qy, Uy, Qz, Q00, U0b]) lp J2v 0 st (Z1 [0, 1, 7, 8, 9] [4, 5, 6] 0)) (stOf [0, 1, 7, 8, 9] [.str s, .int .i64 at_, .ptr 0 0, .int .i64 from_, .int .i64 behind] [.boxT (some 203) [.ptr 0 0, .rowA 1], .row (.int .u8) b]) = some r'' :=
 Z6 (fun a'' : Int × Int × Int × List Int => stOf [0, 1, 7, 8, 9] [.str s, .int .i64 a''.1, .ptr 0 0, .int .i64 a''.2.1, .int .i64 a''.2.2.1] [.boxT (some 203) [.ptr 0 0, .rowA 1], .row (.int .u8) a''.2.2.2]) (fun a'' => I'' a''.1 a''.2.1 a''.2.2.1 a''.2.2.2) (fun a'' => m'' a''.1 a''.2.1 a''.2.2.1 a''.2.2.2) r'' (fun a'' => X2v s a''.1 a''.2.1 a''.2.2.1 a''.2.2.2)
  (fun a'' x hx => (U32 lp s a''.1 a''.2.1 a''.2.2.1 a''.2.2.2).trans hx) (fun a'' ha => Tr.all_mono (fun x'' hx => hx.imp id fun ⟨at_', from_', behind', b', h1, h2, h3⟩ => ⟨(at_', from_', behind', b'), h1, h2, h3⟩) (h (a''.1) (a''.2.1) (a''.2.2.1) (a''.2.2.2) ha)) (at_, from_, behind, b)
theorem U3k : J4n.Ok T0 (orcB [Z00, Zo, Qf, U0a] [V01, Qy, Uy, Qz, Q00, U0b]) h114 0 0 J2v := by
 intro q'' hq'' x'' y'' r'' h
 obtain ⟨(s : List UInt8), (at_ : Int), (from_ : Int), (behind : Int), _⟩ := x''
 obtain ⟨_, (b : List Int), _⟩ := y''
 obtain ⟨hc, rfl⟩ := Tr.get_on h
 show Z3 (fun st => evC T0 (orcB [Z00, Zo, Qf, U0a] [V01, Qy, Uy, Qz, Q00, U0b]) (lpN T0 (orcB [Z00, Zo, Qf, U0a] [V01, Qy, Uy, Qz, Q00, U0b]) h114 0 q'') J2v 0 st (Z1 [0, 1, 7, 8, 9] [4, 5, 6] 0)) (stOf [0, 1, 7, 8, 9] [.str s, .int .i64 at_, .ptr 0 0, .int .i64 from_, .int .i64 behind] [.boxT (some 203) [.ptr 0 0, .rowA 1], .row (.int .u8) b]) = some (.ret, stOf [4, 5, 6] ([.str (tkS (Q4 s at_ from_ behind (Z0 b))), .int .i64 (tkN (Q4 s at_ from_ behind (Z0 b))), .int .i64 (tkE (Q4 s at_ from_ behind (Z0 b)))]) ([]))
 simp only [tkC, Bool.and_eq_true] at hc
 obtain ⟨hbig, hok, hb⟩ := hc
 have hb := Nat.le_of_ble_eq_true hb
 refine Q4u s (tkI s at_ from_ behind b) (fun at_ from_ _ _ => msT s at_ from_) _ ?_ _ at_ from_ behind b ⟨hok, hb, rfl⟩
 clear hok hb
 rintro at_ from_ behind b ⟨hok, hb, he⟩
 rw [← he]
 unfold X2v
 have hB : s.length ≤ 1000000000000 := by simpa [bigS] using hbig
 have hc : (↑(UInt8.toNat (List.getD s (Int.toNat at_) 0)) : Int) = (szT s at_ : Int) := rfl
 have hc255 := Z3d s at_
 have hto := J1y s at_
 simp only [V2t (Z1u s at_).1 (Z1u s at_).2, hc]
 simp only [show n16 s at_ % 16384 = toT s at_ from rfl, IntWalk.i64_in ((szT s at_ : Nat) : Int) (by omega)]
 cases h1 : Q1 s at_ 1 with
 | false =>
   rw [J0z h1]
   exact Tr.all_t hbig (Tr.all_f rfl (Tr.all_ret (.inl rfl)))
 | true =>
   have hs1 := Xa.1 h1
   refine Tr.all_t hbig (Tr.all_t rfl ?_)
   by_cases h192 : 192 ≤ szT s at_
   · refine Tr.all_t (X0 (by omega)) (Tr.all_f (U0 (by omega)) (Tr.all_t (X0 (by omega)) (Tr.all_t hbig ?_)))
     by_cases h3 : Q1 s at_ 2 = true ∧ toT s at_ < from_
     · rw [Z0u h1 h192 h3.1 h3.2] at he ⊢
       refine Tr.all_t h3.1 (Tr.all_t (X0 h3.2) (Tr.all_br (fun c1 => ?_) fun c1 => ?_))
       · simp only [decide_eq_true_eq] at c1
         rw [if_pos c1] at he
         exact Tr.all_ret (.inr ⟨_, _, _, _, rfl, ⟨hok, hb, he⟩, X0v hto.1 h3.2⟩)
       · simp only [decide_eq_false_iff_not] at c1
         rw [if_neg c1] at he
         exact Tr.all_ret (.inr ⟨_, _, _, _, rfl, ⟨hok, hb, he⟩, X0v hto.1 h3.2⟩)
     · rw [V0v h1 h192 h3]
       cases h2 : Q1 s at_ 2 with
       | false => exact Tr.all_f rfl (Tr.all_ret (.inl rfl))
       | true => exact Tr.all_t rfl (Tr.all_f (U0 (fun h => h3 ⟨h2, h⟩)) (Tr.all_ret (.inl rfl)))
   · by_cases h63 : 63 < szT s at_
     · rw [X0x h1 h192 h63]
       exact Tr.all_t (X0 (by omega)) (Tr.all_t (X0 (by omega)) (Tr.all_ret (.inl rfl)))
     · refine Tr.all_f (U0 (by omega)) (Tr.all_f (U0 (by omega)) (Tr.all_t hbig ?_))
       cases h4 : Q1 s (at_ + 1) (szT s at_) with
       | false =>
         rw [Uz h1 (by omega) (by rw [h4]; simp)]
         exact Tr.all_f rfl (Tr.all_ret (.inl rfl))
       | true =>
         have hs4 := Xa.1 h4
         have hvl : (U1 s (at_ + 1) (szT s at_ : Int)).length = szT s at_ := by rw [V0w h4]; omega
         have hvb : bigS (U1 s (at_ + 1) (szT s at_ : Int)) = true := by simp [bigS, hvl]; omega
         rw [hvl]
         rw [IntWalk.i64_in ((List.length b : Int) + 1) (by omega), IntWalk.i64_in _ (by omega)]
         refine Tr.all_t rfl ?_
         by_cases h5 : b.length + 1 + szT s at_ ≤ 255
         · have hnew : J5 (b ++ [((szT s at_ : Nat) : Int)] ++ J0 (X3 (U1 s (at_ + 1) (szT s at_ : Int)))) = true := by
             refine Xt (Xt hok ?_) (Vc _)
             simp [J5]
             omega
           have hnl : (b ++ [((szT s at_ : Nat) : Int)] ++ J0 (X3 (U1 s (at_ + 1) (szT s at_ : Int)))).length = b.length + 1 + szT s at_ := by
            simp [J2, Xi, hvl]
            omega
           have hS2 : Z0 (b ++ [((szT s at_ : Nat) : Int)] ++ J0 (X3 (U1 s (at_ + 1) (szT s at_ : Int)))) = Z0 b ++ s.getD at_.toNat 0 :: X3 (U1 s (at_ + 1) (szT s at_ : Int)) := by
            rw [U0d, U0d, Vj]
            have : Z0 [((szT s at_ : Nat) : Int)] = [s.getD at_.toNat 0] := by simp [Z0, szT]
            rw [this]
            simp
           refine Tr.all_f (U0 (by omega)) (Tr.all_t (Q6 (by omega) (by omega)) (Tr.all_t hvb (Tr.all_t (Q6 (by simp [J2, Xi, hvl]; omega) (by simp [J2, Xi, hvl]; omega)) ?_)))
           by_cases h0 : szT s at_ = 0
           · rw [Q0y h1 h0 (by rw [Zg]; omega)]
             have hv0 : U1 s (at_ + 1) (szT s at_ : Int) = [] := List.length_eq_zero_iff.1 (by rw [hvl]; exact h0)
             have hg0 : s.getD at_.toNat 0 = 0 := by
              have : (s.getD at_.toNat 0).toNat = 0 := h0
              exact UInt8.toNat_inj.1 (by simpa using this)
             have hend : (J5 (b ++ [((szT s at_ : Nat) : Int)] ++ J0 (X3 (U1 s (at_ + 1) (szT s at_ : Int)))) && (!List.isEmpty (b ++ [((szT s at_ : Nat) : Int)] ++ J0 (X3 (U1 s (at_ + 1) (szT s at_ : Int)))) && Nat.ble (List.length (b ++ [((szT s at_ : Nat) : Int)] ++ J0 (X3 (U1 s (at_ + 1) (szT s at_ : Int))))) 9223372036854775807)) = true := by
              rw [hnew, Nat.ble_eq_true_of_le (by omega)]
              simp
             refine Tr.all_f (U0 (by omega)) (Tr.all_br (fun c1 => Tr.all_t hend (Tr.all_ret (.inl ?_))) fun c1 => Tr.all_t hend (Tr.all_ret (.inl ?_)))
             · simp only [decide_eq_true_eq] at c1
               rw [if_pos c1, hS2, hv0, hg0, h0]
               simp [X3]
               rfl
             · simp only [decide_eq_false_iff_not] at c1
               rw [if_neg c1, hS2, hv0, hg0]
               rfl
           · have hG := U1a (s := s) (at_ := at_) (from_ := from_) (behind := behind) (out := Z0 b) h1 (by omega) h0 h4 (by rw [Zg]; omega)
             rw [← hS2] at hG
             rw [hG] at he ⊢
             refine Tr.all_t (X0 (by omega)) (Tr.all_ret ?_)
             exact .inr ⟨_, _, _, _, rfl, ⟨hnew, by omega, he⟩, Q2l hs1.1 hs4.2.2⟩
         · rw [Uz h1 (by omega) (by rw [Zg]; exact fun h => h5 h.2)]
           exact Tr.all_t (X0 (by omega)) (Tr.all_ret (.inl rfl))
noncomputable def Z2t : Code := (Z5 c114 0)
def V2j : LoopSpec := { bid := 0, sh := [.d .str false, .d (.int .i64) false, .ptr 0 0, .d (.int .i64) false, .d (.int .i64) false], so := [.tbox 203 [.np, .row 1], .row (.int .u8)], F := fun (s, at_, from_, behind, _) (_, b, _) => .on (tkC s b) (.ret, [.str (tkS (Q4 s at_ from_ behind (Z0 b))), .int .i64 (tkN (Q4 s at_ from_ behind (Z0 b))), .int .i64 (tkE (Q4 s at_ from_ behind (Z0 b)))], []) }
def J3e (s : List UInt8) (at_ from_ behind : Int) (b : List Int) : Tr (St ⊕ (Ex × St)) := .br (bigS s) (.br (Q1 s at_ 1) (.br (decide ((↑(UInt8.toNat (s.getD at_.toNat 0)) : Int) > 63)) (.br (decide ((↑(UInt8.toNat (s.getD at_.toNat 0)) : Int) < 192)) (.ret (.inr (.ret, stOf [4, 5, 6] [.str [], .int .i64 0, .int .i64 2] []))) (.br (decide ((↑(UInt8.toNat (s.getD at_.toNat 0)) : Int) ≥ 192)) (.br (bigS s) (.br (Q1 s at_ 2) (.br (decide (IntKind.wrap .i64 (↑(BitVec.toNat (BitVec.ofInt (IntKind.bits IntKind.i64) (IntKind.wrap .i64 (n16 s at_)) &&& ~~~BitVec.ofInt (IntKind.bits IntKind.i64) 49152)) : Int) < from_)) (.br (decide (behind < 0)) (.ret (.inl (stOf [0, 1, 7, 8, 9] [.str s, .int .i64 (IntKind.wrap .i64 (↑(BitVec.toNat (BitVec.ofInt (IntKind.bits IntKind.i64) (IntKind.wrap .i64 (n16 s at_)) &&& ~~~BitVec.ofInt (IntKind.bits IntKind.i64) 49152)) : Int)), .ptr 0 0, .int .i64 (IntKind.wrap .i64 (↑(BitVec.toNat (BitVec.ofInt (IntKind.bits IntKind.i64) (IntKind.wrap .i64 (n16 s at_)) &&& ~~~BitVec.ofInt (IntKind.bits IntKind.i64) 49152)) : Int)), .int .i64 (at_ + (2 : Ty.den (Ty.int .i64)))] [.boxT (some 203) [.np, .rowA 1], .row (.int .u8) b]))) (.ret (.inl (stOf [0, 1, 7, 8, 9] [.str s, .int .i64 (IntKind.wrap .i64 (↑(BitVec.toNat (BitVec.ofInt (IntKind.bits IntKind.i64) (IntKind.wrap .i64 (n16 s at_)) &&& ~~~BitVec.ofInt (IntKind.bits IntKind.i64) 49152)) : Int)), .ptr 0 0, .int .i64 (IntKind.wrap .i64 (↑(BitVec.toNat (BitVec.ofInt (IntKind.bits IntKind.i64) (IntKind.wrap .i64 (n16 s at_)) &&& ~~~BitVec.ofInt (IntKind.bits IntKind.i64) 49152)) : Int)), .int .i64 behind] [.boxT (some 203) [.np, .rowA 1], .row (.int .u8) b])))) (.ret (.inr (.ret, stOf [4, 5, 6] [.str [], .int .i64 0, .int .i64 2] [])))) (.ret (.inr (.ret, stOf [4, 5, 6] [.str [], .int .i64 0, .int .i64 2] [])))) .no) (.br (bigS s) (.br (Q1 s (at_ + (1 : Ty.den (Ty.int .i64))) (IntKind.wrap .i64 (↑(UInt8.toNat (s.getD at_.toNat 0)) : Int))) (.br (decide (IntKind.wrap .i64 (IntKind.wrap .i64 ((↑b.length : Int) + 1) + (↑(List.length (U1 s (at_ + (1 : Ty.den (Ty.int .i64))) (IntKind.wrap .i64 (↑(UInt8.toNat (s.getD at_.toNat 0)) : Int)))) : Int)) > 255)) (.ret (.inr (.ret, stOf [4, 5, 6] [.str [], .int .i64 0, .int .i64 2] []))) (.br (fits (List.length b + 1) 1) (.br (bigS (U1 s (at_ + (1 : Ty.den (Ty.int .i64))) (IntKind.wrap .i64 (↑(UInt8.toNat (s.getD at_.toNat 0)) : Int)))) (.br (fits (List.length (b ++ [(↑(UInt8.toNat (s.getD at_.toNat 0)) : Int)]) + List.length (J0 (X3 (U1 s (at_ + (1 : Ty.den (Ty.int .i64))) (IntKind.wrap .i64 (↑(UInt8.toNat (s.getD at_.toNat 0)) : Int)))))) 1) (.br (decide ((↑(UInt8.toNat (s.getD at_.toNat 0)) : Int) > 0)) (.ret (.inl (stOf [0, 1, 7, 8, 9] [.str s, .int .i64 (at_ + (1 : Ty.den (Ty.int .i64)) + IntKind.wrap .i64 (↑(UInt8.toNat (s.getD at_.toNat 0)) : Int)), .ptr 0 0, .int .i64 from_, .int .i64 behind] [.boxT (some 203) [.ptr 0 0, .rowA 1], .row (.int .u8) (b ++ [(↑(UInt8.toNat (s.getD at_.toNat 0)) : Int)] ++ J0 (X3 (U1 s (at_ + (1 : Ty.den (Ty.int .i64))) (IntKind.wrap .i64 (↑(UInt8.toNat (s.getD at_.toNat 0)) : Int)))))]))) (.br (decide (behind < 0)) (.br (J5 (b ++ [(↑(UInt8.toNat (s.getD at_.toNat 0)) : Int)] ++ J0 (X3 (U1 s (at_ + (1 : Ty.den (Ty.int .i64))) (IntKind.wrap .i64 (↑(UInt8.toNat (s.getD at_.toNat 0)) : Int))))) && (!List.isEmpty (b ++ [(↑(UInt8.toNat (s.getD at_.toNat 0)) : Int)] ++ J0 (X3 (U1 s (at_ + (1 : Ty.den (Ty.int .i64))) (IntKind.wrap .i64 (↑(UInt8.toNat (s.getD at_.toNat 0)) : Int))))) && Nat.ble (List.length (b ++ [(↑(UInt8.toNat (s.getD at_.toNat 0)) : Int)] ++ J0 (X3 (U1 s (at_ + (1 : Ty.den (Ty.int .i64))) (IntKind.wrap .i64 (↑(UInt8.toNat (s.getD at_.toNat 0)) : Int)))))) 9223372036854775807)) (.ret (.inr (.ret, stOf [4, 5, 6] [.str (Z0 (b ++ [(↑(UInt8.toNat (s.getD at_.toNat 0)) : Int)] ++ J0 (X3 (U1 s (at_ + (1 : Ty.den (Ty.int .i64))) (IntKind.wrap .i64 (↑(UInt8.toNat (s.getD at_.toNat 0)) : Int)))))), .int .i64 (at_ + (1 : Ty.den (Ty.int .i64)) + IntKind.wrap .i64 (↑(UInt8.toNat (s.getD at_.toNat 0)) : Int)), .int .i64 0] []))) .no) (.br (J5 (b ++ [(↑(UInt8.toNat (s.getD at_.toNat 0)) : Int)] ++ J0 (X3 (U1 s (at_ + (1 : Ty.den (Ty.int .i64))) (IntKind.wrap .i64 (↑(UInt8.toNat (s.getD at_.toNat 0)) : Int))))) && (!List.isEmpty (b ++ [(↑(UInt8.toNat (s.getD at_.toNat 0)) : Int)] ++ J0 (X3 (U1 s (at_ + (1 : Ty.den (Ty.int .i64))) (IntKind.wrap .i64 (↑(UInt8.toNat (s.getD at_.toNat 0)) : Int))))) && Nat.ble (List.length (b ++ [(↑(UInt8.toNat (s.getD at_.toNat 0)) : Int)] ++ J0 (X3 (U1 s (at_ + (1 : Ty.den (Ty.int .i64))) (IntKind.wrap .i64 (↑(UInt8.toNat (s.getD at_.toNat 0)) : Int)))))) 9223372036854775807)) (.ret (.inr (.ret, stOf [4, 5, 6] [.str (Z0 (b ++ [(↑(UInt8.toNat (s.getD at_.toNat 0)) : Int)] ++ J0 (X3 (U1 s (at_ + (1 : Ty.den (Ty.int .i64))) (IntKind.wrap .i64 (↑(UInt8.toNat (s.getD at_.toNat 0)) : Int)))))), .int .i64 behind, .int .i64 0] []))) .no))) .no) .no) .no)) (.ret (.inr (.ret, stOf [4, 5, 6] [.str [], .int .i64 0, .int .i64 2] [])))) .no))) (.br (decide ((↑(UInt8.toNat (s.getD at_.toNat 0)) : Int) ≥ 192)) (.br (bigS s) (.br (Q1 s at_ 2) (.br (decide (IntKind.wrap .i64 (↑(BitVec.toNat (BitVec.ofInt (IntKind.bits IntKind.i64) (IntKind.wrap .i64 (n16 s at_)) &&& ~~~BitVec.ofInt (IntKind.bits IntKind.i64) 49152)) : Int) < from_)) (.br (decide (behind < 0)) (.ret (.inl (stOf [0, 1, 7, 8, 9] [.str s, .int .i64 (IntKind.wrap .i64 (↑(BitVec.toNat (BitVec.ofInt (IntKind.bits IntKind.i64) (IntKind.wrap .i64 (n16 s at_)) &&& ~~~BitVec.ofInt (IntKind.bits IntKind.i64) 49152)) : Int)), .ptr 0 0, .int .i64 (IntKind.wrap .i64 (↑(BitVec.toNat (BitVec.ofInt (IntKind.bits IntKind.i64) (IntKind.wrap .i64 (n16 s at_)) &&& ~~~BitVec.ofInt (IntKind.bits IntKind.i64) 49152)) : Int)), .int .i64 (at_ + (2 : Ty.den (Ty.int .i64)))] [.boxT (some 203) [.np, .rowA 1], .row (.int .u8) b]))) (.ret (.inl (stOf [0, 1, 7, 8, 9] [.str s, .int .i64 (IntKind.wrap .i64 (↑(BitVec.toNat (BitVec.ofInt (IntKind.bits IntKind.i64) (IntKind.wrap .i64 (n16 s at_)) &&& ~~~BitVec.ofInt (IntKind.bits IntKind.i64) 49152)) : Int)), .ptr 0 0, .int .i64 (IntKind.wrap .i64 (↑(BitVec.toNat (BitVec.ofInt (IntKind.bits IntKind.i64) (IntKind.wrap .i64 (n16 s at_)) &&& ~~~BitVec.ofInt (IntKind.bits IntKind.i64) 49152)) : Int)), .int .i64 behind] [.boxT (some 203) [.np, .rowA 1], .row (.int .u8) b])))) (.ret (.inr (.ret, stOf [4, 5, 6] [.str [], .int .i64 0, .int .i64 2] [])))) (.ret (.inr (.ret, stOf [4, 5, 6] [.str [], .int .i64 0, .int .i64 2] [])))) .no) (.br (bigS s) (.br (Q1 s (at_ + (1 : Ty.den (Ty.int .i64))) (IntKind.wrap .i64 (↑(UInt8.toNat (s.getD at_.toNat 0)) : Int))) (.br (decide (IntKind.wrap .i64 (IntKind.wrap .i64 ((↑b.length : Int) + 1) + (↑(List.length (U1 s (at_ + (1 : Ty.den (Ty.int .i64))) (IntKind.wrap .i64 (↑(UInt8.toNat (s.getD at_.toNat 0)) : Int)))) : Int)) > 255)) (.ret (.inr (.ret, stOf [4, 5, 6] [.str [], .int .i64 0, .int .i64 2] []))) (.br (fits (List.length b + 1) 1) (.br (bigS (U1 s (at_ + (1 : Ty.den (Ty.int .i64))) (IntKind.wrap .i64 (↑(UInt8.toNat (s.getD at_.toNat 0)) : Int)))) (.br (fits (List.length (b ++ [(↑(UInt8.toNat (s.getD at_.toNat 0)) : Int)]) + List.length (J0 (X3 (U1 s (at_ + (1 : Ty.den (Ty.int .i64))) (IntKind.wrap .i64 (↑(UInt8.toNat (s.getD at_.toNat 0)) : Int)))))) 1) (.br (decide ((↑(UInt8.toNat (s.getD at_.toNat 0)) : Int) > 0)) (.ret (.inl (stOf [0, 1, 7, 8, 9] [.str s, .int .i64 (at_ + (1 : Ty.den (Ty.int .i64)) + IntKind.wrap .i64 (↑(UInt8.toNat (s.getD at_.toNat 0)) : Int)), .ptr 0 0, .int .i64 from_, .int .i64 behind] [.boxT (some 203) [.ptr 0 0, .rowA 1], .row (.int .u8) (b ++ [(↑(UInt8.toNat (s.getD at_.toNat 0)) : Int)] ++ J0 (X3 (U1 s (at_ + (1 : Ty.den (Ty.int .i64))) (IntKind.wrap .i64 (↑(UInt8.toNat (s.getD at_.toNat 0)) : Int)))))]))) (.br (decide (behind < 0)) (.br (J5 (b ++ [(↑(UInt8.toNat (s.getD at_.toNat 0)) : Int)] ++ J0 (X3 (U1 s (at_ + (1 : Ty.den (Ty.int .i64))) (IntKind.wrap .i64 (↑(UInt8.toNat (s.getD at_.toNat 0)) : Int))))) && (!List.isEmpty (b ++ [(↑(UInt8.toNat (s.getD at_.toNat 0)) : Int)] ++ J0 (X3 (U1 s (at_ + (1 : Ty.den (Ty.int .i64))) (IntKind.wrap .i64 (↑(UInt8.toNat (s.getD at_.toNat 0)) : Int))))) && Nat.ble (List.length (b ++ [(↑(UInt8.toNat (s.getD at_.toNat 0)) : Int)] ++ J0 (X3 (U1 s (at_ + (1 : Ty.den (Ty.int .i64))) (IntKind.wrap .i64 (↑(UInt8.toNat (s.getD at_.toNat 0)) : Int)))))) 9223372036854775807)) (.ret (.inr (.ret, stOf [4, 5, 6] [.str (Z0 (b ++ [(↑(UInt8.toNat (s.getD at_.toNat 0)) : Int)] ++ J0 (X3 (U1 s (at_ + (1 : Ty.den (Ty.int .i64))) (IntKind.wrap .i64 (↑(UInt8.toNat (s.getD at_.toNat 0)) : Int)))))), .int .i64 (at_ + (1 : Ty.den (Ty.int .i64)) + IntKind.wrap .i64 (↑(UInt8.toNat (s.getD at_.toNat 0)) : Int)), .int .i64 0] []))) .no) (.br (J5 (b ++ [(↑(UInt8.toNat (s.getD at_.toNat 0)) : Int)] ++ J0 (X3 (U1 s (at_ + (1 : Ty.den (Ty.int .i64))) (IntKind.wrap .i64 (↑(UInt8.toNat (s.getD at_.toNat 0)) : Int))))) && (!List.isEmpty (b ++ [(↑(UInt8.toNat (s.getD at_.toNat 0)) : Int)] ++ J0 (X3 (U1 s (at_ + (1 : Ty.den (Ty.int .i64))) (IntKind.wrap .i64 (↑(UInt8.toNat (s.getD at_.toNat 0)) : Int))))) && Nat.ble (List.length (b ++ [(↑(UInt8.toNat (s.getD at_.toNat 0)) : Int)] ++ J0 (X3 (U1 s (at_ + (1 : Ty.den (Ty.int .i64))) (IntKind.wrap .i64 (↑(UInt8.toNat (s.getD at_.toNat 0)) : Int)))))) 9223372036854775807)) (.ret (.inr (.ret, stOf [4, 5, 6] [.str (Z0 (b ++ [(↑(UInt8.toNat (s.getD at_.toNat 0)) : Int)] ++ J0 (X3 (U1 s (at_ + (1 : Ty.den (Ty.int .i64))) (IntKind.wrap .i64 (↑(UInt8.toNat (s.getD at_.toNat 0)) : Int)))))), .int .i64 behind, .int .i64 0] []))) .no))) .no) .no) .no)) (.ret (.inr (.ret, stOf [4, 5, 6] [.str [], .int .i64 0, .int .i64 2] [])))) .no))) (.ret (.inr (.ret, stOf [4, 5, 6] [.str [], .int .i64 0, .int .i64 2] [])))) .no
theorem X33 (lp : Lp) (s : List UInt8) (at_ from_ behind : Int) (b : List Int) : evC T0 (orcB [Z00, Zo, Qf, U0a] [V01, Qy, Uy, Qz, Q00, U0b]) lp Z2t 0 (stOf [0, 1, 7, 8, 9] [.str s, .int .i64 at_, .ptr 0 0, .int .i64 from_, .int .i64 behind] [.boxT (some 203) [.np, .rowA 1], .row (.int .u8) b]) (Z1 [0, 1, 7, 8, 9] [4, 5, 6] 0) = (J3e s at_ from_ behind b).get := by kernel_rfl
theorem Z3n : V2j.Ok T0 (orcB [Z00, Zo, Qf, U0a] [V01, Qy, Uy, Qz, Q00, U0b]) h114 0 0 Z2t := by
 intro q'' hq'' x'' y'' r'' h
 obtain ⟨(s : List UInt8), (at_ : Int), (from_ : Int), (behind : Int), _⟩ := x''
 obtain ⟨_, (b : List Int), _⟩ := y''
 obtain ⟨hc, rfl⟩ := Tr.get_on h
 show Z3 (fun st => evC T0 (orcB [Z00, Zo, Qf, U0a] [V01, Qy, Uy, Qz, Q00, U0b]) (lpN T0 (orcB [Z00, Zo, Qf, U0a] [V01, Qy, Uy, Qz, Q00, U0b]) h114 0 q'') Z2t 0 st (Z1 [0, 1, 7, 8, 9] [4, 5, 6] 0)) (stOf [0, 1, 7, 8, 9] [.str s, .int .i64 at_, .ptr 0 0, .int .i64 from_, .int .i64 behind] [.boxT (some 203) [.np, .rowA 1], .row (.int .u8) b]) = some (.ret, stOf [4, 5, 6] ([.str (tkS (Q4 s at_ from_ behind (Z0 b))), .int .i64 (tkN (Q4 s at_ from_ behind (Z0 b))), .int .i64 (tkE (Q4 s at_ from_ behind (Z0 b)))]) ([]))
 simp only [tkC, Bool.and_eq_true] at hc
 obtain ⟨hbig, hok, hb⟩ := hc
 have hb := Nat.le_of_ble_eq_true hb
 refine J38 (fun a : Int × Int × Int × List Int => stOf [0, 1, 7, 8, 9] [.str s, .int .i64 a.1, .ptr 0 0, .int .i64 a.2.1, .int .i64 a.2.2.1] [.boxT (some 203) [.np, .rowA 1], .row (.int .u8) a.2.2.2]) (fun a => tkI s at_ from_ behind b a.1 a.2.1 a.2.2.1 a.2.2.2) (fun a => msT s a.1 a.2.1) _
  (fun a => J3e s a.1 a.2.1 a.2.2.1 a.2.2.2) (fun a x hx => (X33 _ s a.1 a.2.1 a.2.2.1 a.2.2.2).trans hx) ?_ (at_, from_, behind, b) ⟨hok, hb, rfl⟩
 clear hok hb
 rintro ⟨at_, from_, behind, b⟩ ⟨hok, hb, he⟩
 simp only at hok hb he ⊢
 rw [← he]
 unfold J3e
 have hB : s.length ≤ 1000000000000 := by simpa [bigS] using hbig
 have hc : (↑(UInt8.toNat (List.getD s (Int.toNat at_) 0)) : Int) = (szT s at_ : Int) := rfl
 have hc255 := Z3d s at_
 have hto := J1y s at_
 simp only [V2t (Z1u s at_).1 (Z1u s at_).2, hc]
 simp only [show n16 s at_ % 16384 = toT s at_ from rfl, IntWalk.i64_in ((szT s at_ : Nat) : Int) (by omega)]
 cases h1 : Q1 s at_ 1 with
 | false =>
   rw [J0z h1]
   exact Tr.all_t hbig (Tr.all_f rfl (Tr.all_ret (.inl rfl)))
 | true =>
   have hs1 := Xa.1 h1
   refine Tr.all_t hbig (Tr.all_t rfl ?_)
   by_cases h192 : 192 ≤ szT s at_
   · refine Tr.all_t (X0 (by omega)) (Tr.all_f (U0 (by omega)) (Tr.all_t (X0 (by omega)) (Tr.all_t hbig ?_)))
     by_cases h3 : Q1 s at_ 2 = true ∧ toT s at_ < from_
     · rw [Z0u h1 h192 h3.1 h3.2] at he ⊢
       refine Tr.all_t h3.1 (Tr.all_t (X0 h3.2) (Tr.all_br (fun c1 => ?_) fun c1 => ?_))
       · simp only [decide_eq_true_eq] at c1
         rw [if_pos c1] at he
         exact Tr.all_ret (.inr (.inl ⟨(_, _, _, _), rfl, ⟨hok, hb, he⟩, X0v hto.1 h3.2⟩))
       · simp only [decide_eq_false_iff_not] at c1
         rw [if_neg c1] at he
         exact Tr.all_ret (.inr (.inl ⟨(_, _, _, _), rfl, ⟨hok, hb, he⟩, X0v hto.1 h3.2⟩))
     · rw [V0v h1 h192 h3]
       cases h2 : Q1 s at_ 2 with
       | false => exact Tr.all_f rfl (Tr.all_ret (.inl rfl))
       | true => exact Tr.all_t rfl (Tr.all_f (U0 (fun h => h3 ⟨h2, h⟩)) (Tr.all_ret (.inl rfl)))
   · by_cases h63 : 63 < szT s at_
     · rw [X0x h1 h192 h63]
       exact Tr.all_t (X0 (by omega)) (Tr.all_t (X0 (by omega)) (Tr.all_ret (.inl rfl)))
     · refine Tr.all_f (U0 (by omega)) (Tr.all_f (U0 (by omega)) (Tr.all_t hbig ?_))
       cases h4 : Q1 s (at_ + 1) (szT s at_) with
       | false =>
         rw [Uz h1 (by omega) (by rw [h4]; simp)]
         exact Tr.all_f rfl (Tr.all_ret (.inl rfl))
       | true =>
         have hs4 := Xa.1 h4
         have hvl : (U1 s (at_ + 1) (szT s at_ : Int)).length = szT s at_ := by rw [V0w h4]; omega
         have hvb : bigS (U1 s (at_ + 1) (szT s at_ : Int)) = true := by simp [bigS, hvl]; omega
         rw [hvl]
         rw [IntWalk.i64_in ((List.length b : Int) + 1) (by omega), IntWalk.i64_in _ (by omega)]
         refine Tr.all_t rfl ?_
         by_cases h5 : b.length + 1 + szT s at_ ≤ 255
         · have hnew : J5 (b ++ [((szT s at_ : Nat) : Int)] ++ J0 (X3 (U1 s (at_ + 1) (szT s at_ : Int)))) = true := by
             refine Xt (Xt hok ?_) (Vc _)
             simp [J5]
             omega
           have hnl : (b ++ [((szT s at_ : Nat) : Int)] ++ J0 (X3 (U1 s (at_ + 1) (szT s at_ : Int)))).length = b.length + 1 + szT s at_ := by
            simp [J2, Xi, hvl]
            omega
           have hS2 : Z0 (b ++ [((szT s at_ : Nat) : Int)] ++ J0 (X3 (U1 s (at_ + 1) (szT s at_ : Int)))) = Z0 b ++ s.getD at_.toNat 0 :: X3 (U1 s (at_ + 1) (szT s at_ : Int)) := by
            rw [U0d, U0d, Vj]
            have : Z0 [((szT s at_ : Nat) : Int)] = [s.getD at_.toNat 0] := by simp [Z0, szT]
            rw [this]
            simp
           refine Tr.all_f (U0 (by omega)) (Tr.all_t (Q6 (by omega) (by omega)) (Tr.all_t hvb (Tr.all_t (Q6 (by simp [J2, Xi, hvl]; omega) (by simp [J2, Xi, hvl]; omega)) ?_)))
           by_cases h0 : szT s at_ = 0
           · rw [Q0y h1 h0 (by rw [Zg]; omega)]
             have hv0 : U1 s (at_ + 1) (szT s at_ : Int) = [] := List.length_eq_zero_iff.1 (by rw [hvl]; exact h0)
             have hg0 : s.getD at_.toNat 0 = 0 := by
              have : (s.getD at_.toNat 0).toNat = 0 := h0
              exact UInt8.toNat_inj.1 (by simpa using this)
             have hend : (J5 (b ++ [((szT s at_ : Nat) : Int)] ++ J0 (X3 (U1 s (at_ + 1) (szT s at_ : Int)))) && (!List.isEmpty (b ++ [((szT s at_ : Nat) : Int)] ++ J0 (X3 (U1 s (at_ + 1) (szT s at_ : Int)))) && Nat.ble (List.length (b ++ [((szT s at_ : Nat) : Int)] ++ J0 (X3 (U1 s (at_ + 1) (szT s at_ : Int))))) 9223372036854775807)) = true := by
              rw [hnew, Nat.ble_eq_true_of_le (by omega)]
              simp
             refine Tr.all_f (U0 (by omega)) (Tr.all_br (fun c1 => Tr.all_t hend (Tr.all_ret (.inl ?_))) fun c1 => Tr.all_t hend (Tr.all_ret (.inl ?_)))
             · simp only [decide_eq_true_eq] at c1
               rw [if_pos c1, hS2, hv0, hg0, h0]
               simp [X3]
               rfl
             · simp only [decide_eq_false_iff_not] at c1
               rw [if_neg c1, hS2, hv0, hg0]
               rfl
           · have hG := U1a (s := s) (at_ := at_) (from_ := from_) (behind := behind) (out := Z0 b) h1 (by omega) h0 h4 (by rw [Zg]; omega)
             rw [← hS2] at hG
             rw [hG] at he ⊢
             refine Tr.all_t (X0 (by omega)) (Tr.all_ret ?_)
             refine .inr (.inr ⟨_, rfl, ?_⟩)
             have := U3k q'' (Nat.zero_le _) (s, at_ + 1 + szT s at_, from_, behind, ()) ((), b ++ [((szT s at_ : Nat) : Int)] ++ J0 (X3 (U1 s (at_ + 1) (szT s at_ : Int))), ()) (.ret, resT (Q4 s (at_ + 1 + szT s at_) from_ behind (Z0 (b ++ [((szT s at_ : Nat) : Int)] ++ J0 (X3 (U1 s (at_ + 1) (szT s at_ : Int)))))), []) (by
              show (Tr.on (tkC s _) _).get = _
              rw [show tkC s (b ++ [((szT s at_ : Nat) : Int)] ++ J0 (X3 (U1 s (at_ + 1) (szT s at_ : Int)))) = true by simp only [tkC, hbig, hnew, Bool.true_and]; exact Nat.ble_eq_true_of_le (by omega)]
              rfl)
             exact this
         · rw [Uz h1 (by omega) (by rw [Zg]; exact fun h => h5 h.2)]
           exact Tr.all_t (X0 (by omega)) (Tr.all_ret (.inl rfl))
def t114 (s : List UInt8) (at_ : Int) : Tr Res := .br (tkC s []) (.ret ([.str (tkS (Q4 s at_ at_ (-1 : Int) (Z0 []))), .int .i64 (tkN (Q4 s at_ at_ (-1 : Int) (Z0 []))), .int .i64 (tkE (Q4 s at_ at_ (-1 : Int) (Z0 [])))], [])) .no
def os114 : OSpec := { f := 114, sh := [.d .str false, .d (.int .i64) false], so := [], F := fun (s, at_, _) _ => t114 s at_ }
theorem fn114 (s : List UInt8) (at_ : Int) : evC T0 (orcB [Z00, Zo, Qf, U0a] [V01, Qy, Uy, Qz, Q00, U0b]) (lpOf h114 0 (lsOf [V2j])) c114 1000000 (V1 [.str s, .int .i64 at_] [] Try.f114.ntmps) (J1 T0 false 0 Try.f114) = (t114 s at_).get := by kernel_rfl
theorem ok114 : os114.Ok Try.prog := by
 refine V3 X2 tab0 (V0 (all_cons V40 (all_cons U1d (all_cons X0o (all_cons U3n all_nil)))) (all_cons Z4x (all_cons V4y (all_cons Q4t (all_cons V4m (all_cons Q4l (all_cons okStr all_nil))))))) h114 (d := 0) (n0 := 0) (S := lsOf [V2j]) Try.func114 (by kernel_rfl) (c := c114) (by kernel_rfl) rfl (Q5 (xs := [(0, Z2t)]) (by kernel_rfl) (all_cons (J7 Z3n) all_nil)) (by omega) (by kernel_rfl) ?_
 intro x'' y'' q'' hq''
 obtain ⟨(s : List UInt8), (at_ : Int), _⟩ := x''
 exact (fn114 s at_).trans hq''
def V4e : FSpec := fsT 114 [(.str, false), ((.int .i64), false)] [(.str, false), ((.int .i64), false), ((.int .i64), false)] fun (s, at_, _) => t114 s at_
theorem Z4t : V4e.Ok Try.prog := V6 fun x'' r'' hr'' => ok114 x'' () r'' hr''
def Q02 : FSpec := V4e.like fun (s, at_, _) => .on (bigS s) (tkS (Q4 s at_ at_ (-1) []), tkN (Q4 s at_ at_ (-1) []), tkE (Q4 s at_ at_ (-1) []), ())
theorem Q14 : Q02.Ok Try.prog := by
 refine U3 Z4t _ ?_
 rintro ⟨(s : List UInt8), (at_ : Int), _⟩ y h
 obtain ⟨hb, rfl⟩ := Tr.get_on h
 refine J3 (vs := resT (Q4 s at_ at_ (-1) [])) rfl rfl (Tr.get_of_all ?_)
 show (t114 s at_).all _
 exact Tr.all_t (by simp only [tkC, hb]; rfl) (Tr.all_ret rfl)
def t138 : Tr Res := .ret ([.mp 0], [.mpo (Ty.int .u16) (Ty.list (.int .i64)) [(1, [4]), (28, [16]), (2, [(-1 : Int)]), (5, [(-1 : Int)]), (12, [(-1 : Int)]), (15, [2, (-1 : Int)]), (6, [(-1 : Int), (-1 : Int), 20]), (16, [(-2 : Int)])]])
def Z4g : OSpec := { f := 138, sh := [], so := [], F := fun _ _ => t138 }
theorem fn138 : evC T0 (orcB [] []) (lpOf (hOwn h138) 0 (lsOf [])) c138 1000000 (V1 [] [] Try.f138.ntmps) (J1 T0 true 0 Try.f138) = (t138).get := by kernel_rfl
theorem ok138 : Z4g.Ok Try.prog := by
 refine V3 X2 tab0 (V0 all_nil all_nil) (hOwn h138) (d := 0) (n0 := 0) (S := lsOf []) Try.func138 (by kernel_rfl) (c := c138) (by kernel_rfl) rfl (U2 (by kernel_rfl)) (by omega) (by kernel_rfl) ?_
 intro x'' y'' q'' hq''
 exact (fn138).trans hq''
def t117 (k : Int) : Tr Res := .br (!hasM (Ty.int .u16) (Ty.list (.int .i64)) k [(1, [4]), (28, [16]), (2, [(-1 : Int)]), (5, [(-1 : Int)]), (12, [(-1 : Int)]), (15, [2, (-1 : Int)]), (6, [(-1 : Int), (-1 : Int), 20]), (16, [(-2 : Int)])]) (.ret ([.list (.int .i64) [(-3 : Int)]], [])) (.ret ([.list (.int .i64) (getM (Ty.int .u16) (Ty.list (.int .i64)) k [(1, [4]), (28, [16]), (2, [(-1 : Int)]), (5, [(-1 : Int)]), (12, [(-1 : Int)]), (15, [2, (-1 : Int)]), (6, [(-1 : Int), (-1 : Int), 20]), (16, [(-2 : Int)])])], []))
def os117 : OSpec := { f := 117, sh := [.d (.int .u16) false], so := [], F := fun (k, _) _ => t117 k }
theorem fn117 (k : Int) : evC T0 (orcB [] [Z4g]) (lpOf h117 0 (lsOf [])) c117 1000000 (V1 [.int .u16 k] [] Try.f117.ntmps) (J1 T0 false 0 Try.f117) = (t117 k).get := by kernel_rfl
theorem ok117 : os117.Ok Try.prog := by
 refine V3 X2 tab0 (V0 all_nil (all_cons ok138 all_nil)) h117 (d := 0) (n0 := 0) (S := lsOf []) Try.func117 (by kernel_rfl) (c := c117) (by kernel_rfl) rfl (U2 (by kernel_rfl)) (by omega) (by kernel_rfl) ?_
 intro x'' y'' q'' hq''
 obtain ⟨(k : Int), _⟩ := x''
 exact (fn117 k).trans hq''
def Q4b : FSpec := fsT 117 [((.int .u16), false)] [((.list (.int .i64)), false)] fun (k, _) => t117 k
theorem J4q : Q4b.Ok Try.prog := V6 fun x'' r'' hr'' => ok117 x'' () r'' hr''
noncomputable def b119 : Code := Z5 c119 0
def Z37 : LoopSpec := { bid := 0, sh := [.d .str false, .d (.int .i64) false], so := [], F := fun (s, at_, _) _ => .on (bigS s && decide (at_ = 0)) (.exit 0, [.str s, .int .i64 (whAt s 0)], []) }
def r119 (s : List UInt8) (at_ : Int) : Tr (St ⊕ (Ex × St)) := .br (decide (at_ < (↑s.length : Int))) (.br (decide (0 ≤ at_)) (.br (decide (at_ < (↑s.length : Int))) (.br (decide ((↑(UInt8.toNat (s.getD at_.toNat 0)) : Int) > 0)) (.br (decide (0 ≤ at_)) (.br (decide (at_ < (↑s.length : Int))) (.ret (.inl (stOf [0, 3] [.str s, .int .i64 (IntKind.wrap .i64 (at_ + IntKind.wrap .i64 (1 + IntKind.wrap .i64 (↑(UInt8.toNat (s.getD at_.toNat 0)) : Int))))] []))) .no) .no) (.ret (.inr (.exit 0, stOf [0, 3] [.str s, .int .i64 at_] [])))) .no) .no) (.ret (.inr (.exit 0, stOf [0, 3] [.str s, .int .i64 at_] [])))
theorem J3v (orc : Orc) (lp : Lp) (s : List UInt8) (at_ : Int) : evC T0 orc lp b119 0 (stOf [0, 3] [.str s, .int .i64 at_] []) (Z1 [0, 3] [0, 3] 0) = (r119 s at_).get := by kernel_rfl
theorem wf119 (orc : Orc) (s : List UInt8) (I'' : Int → Prop) (m'' : Int → Nat) (r'' : Ex × St) (h : ∀ (at_ : Int), I'' at_ → (r119 s at_).all fun x'' => x'' = .inr r'' ∨ ∃ (at_' : Int), x'' = .inl (stOf [0, 3] [.str s, .int .i64 at_'] []) ∧ I'' at_' ∧ m'' at_' < m'' at_) (lp : Lp) (at_ : Int) : I'' at_ →
    Z3 (fun st => evC T0 orc lp b119 0 st (Z1 [0, 3] [0, 3] 0)) (stOf [0, 3] [.str s, .int .i64 at_] []) = some r'' :=
 Z6 (fun a'' : Int => stOf [0, 3] [.str s, .int .i64 a''] []) (fun a'' => I'' a'') (fun a'' => m'' a'') r'' (fun a'' => r119 s a'')
  (fun a'' x hx => (J3v orc lp s a'').trans hx) (fun a'' ha => Tr.all_mono (fun x'' hx => hx.imp id fun ⟨at_', h1, h2, h3⟩ => ⟨(at_'), h1, h2, h3⟩) (h (a'') ha)) (at_)
theorem Q49 (orc : Orc) : Z37.Ok T0 orc h119 0 0 b119 := by
 intro q'' hq'' x'' y'' r'' h
 obtain ⟨(s : List UInt8), (at_ : Int), _⟩ := x''
 obtain ⟨hc, rfl⟩ := Tr.get_on h
 show Z3 (fun st => evC T0 orc (lpN T0 orc h119 0 q'') b119 0 st (Z1 [0, 3] [0, 3] 0)) (stOf [0, 3] [.str s, .int .i64 at_] []) = some (.exit 0, stOf [0, 3] ([.str s, .int .i64 (whAt s 0)]) ([]))
 simp only [Bool.and_eq_true, decide_eq_true_eq] at hc
 obtain ⟨hb, rfl⟩ := hc
 refine wf119 _ s (fun a => 0 ≤ a ∧ whAt s a.toNat = whAt s 0) (fun a => (s.length - a).toNat) _ ?_ _ 0 ⟨by omega, rfl⟩
 rintro a ⟨h1, h2⟩
 have hB : s.length ≤ 1000000000000 := by simpa [bigS] using hb
 have hto : ((a.toNat : Nat) : Int) = a := Int.toNat_of_nonneg h1
 unfold r119
 rw [← h2, whAt.eq_1 s a.toNat]
 by_cases hk : a.toNat < s.length
 · have hb0 : (↑(UInt8.toNat (List.getD s (Int.toNat a) 0)) : Int) = (byN s a.toNat : Int) := rfl
   have hbl : byN s a.toNat < 256 := (s.getD a.toNat 0).toNat_lt
   rw [hb0]
   simp (disch := omega) only [IntWalk.i64_in]
   refine Tr.all_t (X0 (by omega)) (Tr.all_t (X0 h1) (Tr.all_t (X0 (by omega)) (Tr.all_br (fun c1 => Tr.all_t (X0 h1) (Tr.all_t (X0 (by omega)) (Tr.all_ret (.inr ⟨_, rfl, ⟨by omega, ?_⟩, by omega⟩)))) fun c1 => Tr.all_ret (.inl ?_))))
   · simp only [decide_eq_true_eq] at c1
     rw [dif_pos ⟨hk, by omega⟩]
     congr 1
     omega
   · simp only [decide_eq_false_iff_not] at c1
     rw [dif_neg (by omega), hto]
 · rw [dif_neg (by omega), hto]
   exact Tr.all_f (U0 (by omega)) (Tr.all_ret (.inl rfl))
noncomputable def b120 : Code := Z5 c120 0
def J3k : LoopSpec := { bid := 0, sh := [.d .str false, .d (.int .i64) false], so := [], F := fun (s, at_, _) _ => .on (bigS s && decide (at_ = 0)) (.exit 0, [.str s, .int .i64 (txAt s 0)], []) }
def r120 (s : List UInt8) (at_ : Int) : Tr (St ⊕ (Ex × St)) := .br (decide (at_ < (↑s.length : Int))) (.br (decide (0 ≤ at_)) (.br (decide (at_ < (↑s.length : Int))) (.ret (.inl (stOf [0, 3] [.str s, .int .i64 (IntKind.wrap .i64 (at_ + IntKind.wrap .i64 (1 + IntKind.wrap .i64 (↑(UInt8.toNat (s.getD at_.toNat 0)) : Int))))] []))) .no) .no) (.ret (.inr (.exit 0, stOf [0, 3] [.str s, .int .i64 at_] [])))
theorem J3b (orc : Orc) (lp : Lp) (s : List UInt8) (at_ : Int) : evC T0 orc lp b120 0 (stOf [0, 3] [.str s, .int .i64 at_] []) (Z1 [0, 3] [0, 3] 0) = (r120 s at_).get := by kernel_rfl
theorem wf120 (orc : Orc) (s : List UInt8) (I'' : Int → Prop) (m'' : Int → Nat) (r'' : Ex × St) (h : ∀ (at_ : Int), I'' at_ → (r120 s at_).all fun x'' => x'' = .inr r'' ∨ ∃ (at_' : Int), x'' = .inl (stOf [0, 3] [.str s, .int .i64 at_'] []) ∧ I'' at_' ∧ m'' at_' < m'' at_) (lp : Lp) (at_ : Int) : I'' at_ →
    Z3 (fun st => evC T0 orc lp b120 0 st (Z1 [0, 3] [0, 3] 0)) (stOf [0, 3] [.str s, .int .i64 at_] []) = some r'' :=
 Z6 (fun a'' : Int => stOf [0, 3] [.str s, .int .i64 a''] []) (fun a'' => I'' a'') (fun a'' => m'' a'') r'' (fun a'' => r120 s a'')
  (fun a'' x hx => (J3b orc lp s a'').trans hx) (fun a'' ha => Tr.all_mono (fun x'' hx => hx.imp id fun ⟨at_', h1, h2, h3⟩ => ⟨(at_'), h1, h2, h3⟩) (h (a'') ha)) (at_)
theorem U3z (orc : Orc) : J3k.Ok T0 orc h120 0 0 b120 := by
 intro q'' hq'' x'' y'' r'' h
 obtain ⟨(s : List UInt8), (at_ : Int), _⟩ := x''
 obtain ⟨hc, rfl⟩ := Tr.get_on h
 show Z3 (fun st => evC T0 orc (lpN T0 orc h120 0 q'') b120 0 st (Z1 [0, 3] [0, 3] 0)) (stOf [0, 3] [.str s, .int .i64 at_] []) = some (.exit 0, stOf [0, 3] ([.str s, .int .i64 (txAt s 0)]) ([]))
 simp only [Bool.and_eq_true, decide_eq_true_eq] at hc
 obtain ⟨hb, rfl⟩ := hc
 refine wf120 _ s (fun a => 0 ≤ a ∧ txAt s a.toNat = txAt s 0) (fun a => (s.length - a).toNat) _ ?_ _ 0 ⟨by omega, rfl⟩
 rintro a ⟨h1, h2⟩
 have hB : s.length ≤ 1000000000000 := by simpa [bigS] using hb
 have hto : ((a.toNat : Nat) : Int) = a := Int.toNat_of_nonneg h1
 unfold r120
 rw [← h2, txAt.eq_1 s a.toNat]
 by_cases hk : a.toNat < s.length
 · have hb0 : (↑(UInt8.toNat (List.getD s (Int.toNat a) 0)) : Int) = (byN s a.toNat : Int) := rfl
   have hbl : byN s a.toNat < 256 := (s.getD a.toNat 0).toNat_lt
   rw [hb0]
   simp (disch := omega) only [IntWalk.i64_in]
   refine Tr.all_t (X0 (by omega)) (Tr.all_t (X0 h1) (Tr.all_t (X0 (by omega)) (Tr.all_ret (.inr ⟨_, rfl, ⟨by omega, ?_⟩, by omega⟩))))
   rw [dif_pos hk]
   congr 1
   omega
 · rw [dif_neg hk, hto]
   exact Tr.all_f (U0 (by omega)) (Tr.all_ret (.inl rfl))
def t119 (s : List UInt8) : Tr Res := .br (bigS s && decide (0 = (0 : Ty.den (Ty.int .i64)))) (.br (decide ((↑(whAt s 0) : Int) ≥ (↑s.length : Int))) (.ret ([.int .i64 0], [])) (.br (decide (0 ≤ IntKind.wrap .i64 ((↑(whAt s 0) : Int) + 1)) && decide (IntKind.wrap .i64 ((↑(whAt s 0) : Int) + 1) ≤ (↑s.length : Int))) (.br (decide (0 ≤ 0) && decide (0 ≤ IntKind.wrap .i64 ((↑(whAt s 0) : Int) + 1))) (.br (bigS (List.take (Int.toNat (IntKind.wrap .i64 ((↑(whAt s 0) : Int) + 1)) - Int.toNat 0) (List.drop (Int.toNat 0) s))) (.br (!mayV (List.take (Int.toNat (IntKind.wrap .i64 ((↑(whAt s 0) : Int) + 1)) - Int.toNat 0) (List.drop (Int.toNat 0) s))) (.ret ([.int .i64 0], [])) (.ret ([.int .i64 (IntKind.wrap .i64 ((↑(whAt s 0) : Int) + 1))], []))) .no) .no) .no)) .no
def os119 : OSpec := { f := 119, sh := [.d .str false], so := [], F := fun (s, _) _ => t119 s }
theorem fn119 (s : List UInt8) : evC T0 (orcB [Z0j] []) (lpOf h119 0 (lsOf [Z37])) c119 1000000 (V1 [.str s] [] Try.f119.ntmps) (J1 T0 false 0 Try.f119) = (t119 s).get := by kernel_rfl
theorem ok119 : os119.Ok Try.prog := by
 refine V3 X2 tab0 (V0 (all_cons Q1u all_nil) all_nil) h119 (d := 0) (n0 := 0) (S := lsOf [Z37]) Try.func119 (by kernel_rfl) (c := c119) (by kernel_rfl) rfl (Q5 (xs := [(0, b119)]) (by kernel_rfl) (all_cons (J7 (Q49 _)) all_nil)) (by omega) (by kernel_rfl) ?_
 intro x'' y'' q'' hq''
 obtain ⟨(s : List UInt8), _⟩ := x''
 exact (fn119 s).trans hq''
def U4j : FSpec := fsT 119 [(.str, false)] [((.int .i64), false)] fun (s, _) => t119 s
theorem U4y : U4j.Ok Try.prog := V6 fun x'' r'' hr'' => ok119 x'' () r'' hr''
def V0k : FSpec := U4j.like fun (s, _) => .on (bigS s) ((Zc s : Int), ())
theorem Q3y : V0k.Ok Try.prog := by
 refine U3 U4y _ ?_
 rintro ⟨(s : List UInt8), _⟩ y h
 obtain ⟨hb, rfl⟩ := Tr.get_on h
 refine J3 (vs := [.int .i64 (Zc s)]) rfl rfl (Tr.get_of_all ?_)
 show (t119 s).all _
 unfold t119 Zc
 have hB : s.length ≤ 1000000000000 := by simpa [bigS] using hb
 refine Tr.all_t (by rw [hb]; rfl) ?_
 by_cases hk : whAt s 0 < s.length
 · have hw : IntKind.wrap .i64 ((whAt s 0 : Int) + 1) = (whAt s 0 : Int) + 1 := IntWalk.i64_in _ (by omega)
   have hs : List.take (Int.toNat ((whAt s 0 : Int) + 1) - Int.toNat 0) (List.drop (Int.toNat 0) s) = s.take (whAt s 0 + 1) := by
    rw [show Int.toNat ((whAt s 0 : Int) + 1) - Int.toNat 0 = whAt s 0 + 1 by omega]; rfl
   rw [hw, hs]
   refine Tr.all_f (U0 (by omega)) (Tr.all_t (by rw [X0 (by omega), X0 (by omega)]; rfl) (Tr.all_t (by rw [X0 (by omega), X0 (by omega)]; rfl) (Tr.all_t (by simp [bigS]; omega) (Tr.all_br (fun c1 => Tr.all_ret ?_) fun c1 => Tr.all_ret ?_))))
   · rw [Bool.not_eq_true'] at c1
     rw [if_neg (by rw [c1]; simp)]
     rfl
   · rw [Bool.not_eq_false'] at c1
     rw [if_pos ⟨hk, c1⟩]
     rfl
 · rw [if_neg (fun h => hk h.1)]
   exact Tr.all_t (X0 (by omega)) (Tr.all_ret rfl)
def t120 (s : List UInt8) : Tr Res := .br (bigS s && decide (0 = (0 : Ty.den (Ty.int .i64)))) (.br (!s == []) (.ret ([.bool ((↑(txAt s 0) : Int) == (↑s.length : Int))], [])) (.ret ([.bool false], []))) .no
def os120 : OSpec := { f := 120, sh := [.d .str false], so := [], F := fun (s, _) _ => t120 s }
theorem fn120 (s : List UInt8) : evC T0 (orcB [] []) (lpOf h120 0 (lsOf [J3k])) c120 1000000 (V1 [.str s] [] Try.f120.ntmps) (J1 T0 false 0 Try.f120) = (t120 s).get := by kernel_rfl
theorem ok120 : os120.Ok Try.prog := by
 refine V3 X2 tab0 (V0 all_nil all_nil) h120 (d := 0) (n0 := 0) (S := lsOf [J3k]) Try.func120 (by kernel_rfl) (c := c120) (by kernel_rfl) rfl (Q5 (xs := [(0, b120)]) (by kernel_rfl) (all_cons (J7 (U3z _)) all_nil)) (by omega) (by kernel_rfl) ?_
 intro x'' y'' q'' hq''
 obtain ⟨(s : List UInt8), _⟩ := x''
 exact (fn120 s).trans hq''
def Q4k : FSpec := fsT 120 [(.str, false)] [(.bool, false)] fun (s, _) => t120 s
theorem V4n : Q4k.Ok Try.prog := V6 fun x'' r'' hr'' => ok120 x'' () r'' hr''
def J0n : FSpec := Q4k.like fun (s, _) => .on (bigS s) (X0k s, ())
theorem V43 : J0n.Ok Try.prog := by
 refine U3 V4n _ ?_
 rintro ⟨(s : List UInt8), _⟩ y h
 obtain ⟨hb, rfl⟩ := Tr.get_on h
 refine J3 (vs := [.bool (X0k s)]) rfl rfl (Tr.get_of_all ?_)
 show (t120 s).all _
 unfold t120 X0k
 refine Tr.all_t (by rw [hb]; rfl) (Tr.all_br (fun c1 => Tr.all_ret ?_) fun c1 => Tr.all_ret ?_)
 · have : s.isEmpty = false := by cases s with | nil => cases c1 | cons _ _ => rfl
   rw [this]
   congr 3
   rw [Bool.eq_iff_iff]
   simp
   omega
 · have : s.isEmpty = true := by cases s with | nil => rfl | cons _ _ => cases c1
   rw [this]
   rfl
def Zf : FSpec := Q4b.like fun (k, _) => .ret (layV k, ())
theorem U15 : Zf.Ok Try.prog := by
 refine U3 J4q _ ?_
 rintro ⟨(k : Int), _⟩ y h
 cases h
 refine J3 (vs := [.list (.int .i64) (layV k)]) rfl rfl (Tr.get_of_all ?_)
 show (t117 k).all _
 by_cases h1 : k = 1
 · subst h1; exact Tr.all_f rfl (Tr.all_ret rfl)
 by_cases h2 : k = 28
 · subst h2; exact Tr.all_f rfl (Tr.all_ret rfl)
 by_cases h3 : k = 2
 · subst h3; exact Tr.all_f rfl (Tr.all_ret rfl)
 by_cases h4 : k = 5
 · subst h4; exact Tr.all_f rfl (Tr.all_ret rfl)
 by_cases h5 : k = 12
 · subst h5; exact Tr.all_f rfl (Tr.all_ret rfl)
 by_cases h6 : k = 15
 · subst h6; exact Tr.all_f rfl (Tr.all_ret rfl)
 by_cases h7 : k = 6
 · subst h7; exact Tr.all_f rfl (Tr.all_ret rfl)
 by_cases h8 : k = 16
 · subst h8; exact Tr.all_f rfl (Tr.all_ret rfl)
 refine Tr.all_t ?_ (Tr.all_ret ?_)
 · simp [hasM, U04, Ty.keq, h1, h2, h3, h4, h5, h6, h7, h8]
 · simp [layV, h1, h2, h3, h4, h5, h6, h7, h8]
noncomputable def b92 : Code := Z5 c92 0
def ls92 : LoopSpec := { bid := 0, sh := [.d .str false, .row 0, .d (.list (.int .i64)) false, .d (.int .i64) false, .d (.int .i64) false], so := [.row .str], F := fun (d, ps, n, i, _) (l, _) => .on2 (cutC d ps n i l) ((cutS ps d l).1) (.exit 0, [.str (cutS ps d l).2.1, .dead, .dead, .rowA 0], [.row .str (cutS ps d l).2.2]) (.ret, [.str (cutS ps d l).2.1, .rowA 0, .bool false, .rowA 1], [.row .str [], .row .str (cutS ps d l).2.2]) }
def r92 (d : List UInt8) (ps : List Int) (n i : Int) (l : List (List UInt8)) : Tr (St ⊕ (Ex × St)) := .br (decide (i < n)) (.br (decide (0 ≤ i)) (.br (decide (i < (↑ps.length : Int))) (.br (ps.getD i.toNat (Ty.dflt (Ty.int .i64)) == (-1 : Int)) (.br (bigS d) (.br (decide ((↑(Zc d) : Int) > (↑d.length : Int))) (.ret (.inr (.ret, stOf [1, 4, 5, 6] [.str d, .rowA 0, .bool false, .rowA 1] [.row Ty.str [], .row Ty.str l]))) (.br (ps.getD i.toNat (Ty.dflt (Ty.int .i64)) == (-1 : Int)) (.br ((↑(Zc d) : Int) == 0) (.ret (.inr (.ret, stOf [1, 4, 5, 6] [.str d, .rowA 0, .bool false, .rowA 1] [.row Ty.str [], .row Ty.str l]))) (.br (decide (0 ≤ (↑(Zc d) : Int)) && decide ((↑(Zc d) : Int) ≤ (↑d.length : Int))) (.br (fits (List.length l + 1) 16) (.br (decide (0 ≤ (↑d.length : Int)) && decide ((↑d.length : Int) ≤ (↑d.length : Int))) (.br (decide (0 ≤ (↑(Zc d) : Int)) && decide ((↑(Zc d) : Int) ≤ (↑d.length : Int))) (.ret (.inl (stOf [1, 6, 11, 12, 13] [.str (List.take (Int.toNat (↑d.length : Int) - Int.toNat (↑(Zc d) : Int)) (List.drop (Int.toNat (↑(Zc d) : Int)) d)), .rowA 0, .list (.int .i64) ps, .int .i64 n, .int .i64 (IntKind.wrap .i64 (i + 1))] [.row Ty.str (l ++ [List.take (Int.toNat (↑(Zc d) : Int) - Int.toNat 0) (List.drop (Int.toNat 0) d)])]))) .no) .no) .no) .no)) (.br (decide (0 ≤ (↑(Zc d) : Int)) && decide ((↑(Zc d) : Int) ≤ (↑d.length : Int))) (.br (fits (List.length l + 1) 16) (.br (decide (0 ≤ (↑d.length : Int)) && decide ((↑d.length : Int) ≤ (↑d.length : Int))) (.br (decide (0 ≤ (↑(Zc d) : Int)) && decide ((↑(Zc d) : Int) ≤ (↑d.length : Int))) (.ret (.inl (stOf [1, 6, 11, 12, 13] [.str (List.take (Int.toNat (↑d.length : Int) - Int.toNat (↑(Zc d) : Int)) (List.drop (Int.toNat (↑(Zc d) : Int)) d)), .rowA 0, .list (.int .i64) ps, .int .i64 n, .int .i64 (IntKind.wrap .i64 (i + 1))] [.row Ty.str (l ++ [List.take (Int.toNat (↑(Zc d) : Int) - Int.toNat 0) (List.drop (Int.toNat 0) d)])]))) .no) .no) .no) .no))) .no) (.br (ps.getD i.toNat (Ty.dflt (Ty.int .i64)) == (-2 : Int)) (.br (bigS d) (.br (X0k d) (.br (decide ((↑d.length : Int) > (↑d.length : Int))) (.ret (.inr (.ret, stOf [1, 4, 5, 6] [.str d, .rowA 0, .bool false, .rowA 1] [.row Ty.str [], .row Ty.str l]))) (.br (ps.getD i.toNat (Ty.dflt (Ty.int .i64)) == (-1 : Int)) (.br ((↑d.length : Int) == 0) (.ret (.inr (.ret, stOf [1, 4, 5, 6] [.str d, .rowA 0, .bool false, .rowA 1] [.row Ty.str [], .row Ty.str l]))) (.br (decide (0 ≤ (↑d.length : Int)) && decide ((↑d.length : Int) ≤ (↑d.length : Int))) (.br (fits (List.length l + 1) 16) (.br (decide (0 ≤ (↑d.length : Int)) && decide ((↑d.length : Int) ≤ (↑d.length : Int))) (.br (decide (0 ≤ (↑d.length : Int)) && decide ((↑d.length : Int) ≤ (↑d.length : Int))) (.ret (.inl (stOf [1, 6, 11, 12, 13] [.str (List.take (Int.toNat (↑d.length : Int) - Int.toNat (↑d.length : Int)) (List.drop (Int.toNat (↑d.length : Int)) d)), .rowA 0, .list (.int .i64) ps, .int .i64 n, .int .i64 (IntKind.wrap .i64 (i + 1))] [.row Ty.str (l ++ [List.take (Int.toNat (↑d.length : Int) - Int.toNat 0) (List.drop (Int.toNat 0) d)])]))) .no) .no) .no) .no)) (.br (decide (0 ≤ (↑d.length : Int)) && decide ((↑d.length : Int) ≤ (↑d.length : Int))) (.br (fits (List.length l + 1) 16) (.br (decide (0 ≤ (↑d.length : Int)) && decide ((↑d.length : Int) ≤ (↑d.length : Int))) (.br (decide (0 ≤ (↑d.length : Int)) && decide ((↑d.length : Int) ≤ (↑d.length : Int))) (.ret (.inl (stOf [1, 6, 11, 12, 13] [.str (List.take (Int.toNat (↑d.length : Int) - Int.toNat (↑d.length : Int)) (List.drop (Int.toNat (↑d.length : Int)) d)), .rowA 0, .list (.int .i64) ps, .int .i64 n, .int .i64 (IntKind.wrap .i64 (i + 1))] [.row Ty.str (l ++ [List.take (Int.toNat (↑d.length : Int) - Int.toNat 0) (List.drop (Int.toNat 0) d)])]))) .no) .no) .no) .no))) (.br (ps.getD i.toNat (Ty.dflt (Ty.int .i64)) == (-3 : Int)) (.br (decide ((↑d.length : Int) > (↑d.length : Int))) (.ret (.inr (.ret, stOf [1, 4, 5, 6] [.str d, .rowA 0, .bool false, .rowA 1] [.row Ty.str [], .row Ty.str l]))) (.br (ps.getD i.toNat (Ty.dflt (Ty.int .i64)) == (-1 : Int)) (.br ((↑d.length : Int) == 0) (.ret (.inr (.ret, stOf [1, 4, 5, 6] [.str d, .rowA 0, .bool false, .rowA 1] [.row Ty.str [], .row Ty.str l]))) (.br (decide (0 ≤ (↑d.length : Int)) && decide ((↑d.length : Int) ≤ (↑d.length : Int))) (.br (fits (List.length l + 1) 16) (.br (decide (0 ≤ (↑d.length : Int)) && decide ((↑d.length : Int) ≤ (↑d.length : Int))) (.br (decide (0 ≤ (↑d.length : Int)) && decide ((↑d.length : Int) ≤ (↑d.length : Int))) (.ret (.inl (stOf [1, 6, 11, 12, 13] [.str (List.take (Int.toNat (↑d.length : Int) - Int.toNat (↑d.length : Int)) (List.drop (Int.toNat (↑d.length : Int)) d)), .rowA 0, .list (.int .i64) ps, .int .i64 n, .int .i64 (IntKind.wrap .i64 (i + 1))] [.row Ty.str (l ++ [List.take (Int.toNat (↑d.length : Int) - Int.toNat 0) (List.drop (Int.toNat 0) d)])]))) .no) .no) .no) .no)) (.br (decide (0 ≤ (↑d.length : Int)) && decide ((↑d.length : Int) ≤ (↑d.length : Int))) (.br (fits (List.length l + 1) 16) (.br (decide (0 ≤ (↑d.length : Int)) && decide ((↑d.length : Int) ≤ (↑d.length : Int))) (.br (decide (0 ≤ (↑d.length : Int)) && decide ((↑d.length : Int) ≤ (↑d.length : Int))) (.ret (.inl (stOf [1, 6, 11, 12, 13] [.str (List.take (Int.toNat (↑d.length : Int) - Int.toNat (↑d.length : Int)) (List.drop (Int.toNat (↑d.length : Int)) d)), .rowA 0, .list (.int .i64) ps, .int .i64 n, .int .i64 (IntKind.wrap .i64 (i + 1))] [.row Ty.str (l ++ [List.take (Int.toNat (↑d.length : Int) - Int.toNat 0) (List.drop (Int.toNat 0) d)])]))) .no) .no) .no) .no))) (.br (decide (ps.getD i.toNat (Ty.dflt (Ty.int .i64)) < 0)) (.ret (.inr (.ret, stOf [1, 4, 5, 6] [.str d, .rowA 0, .bool false, .rowA 1] [.row Ty.str [], .row Ty.str l]))) (.br (decide (ps.getD i.toNat (Ty.dflt (Ty.int .i64)) > (↑d.length : Int))) (.ret (.inr (.ret, stOf [1, 4, 5, 6] [.str d, .rowA 0, .bool false, .rowA 1] [.row Ty.str [], .row Ty.str l]))) (.br (ps.getD i.toNat (Ty.dflt (Ty.int .i64)) == (-1 : Int)) (.br (ps.getD i.toNat (Ty.dflt (Ty.int .i64)) == 0) (.ret (.inr (.ret, stOf [1, 4, 5, 6] [.str d, .rowA 0, .bool false, .rowA 1] [.row Ty.str [], .row Ty.str l]))) (.br (decide (0 ≤ List.getD ps i.toNat (Ty.dflt (Ty.int .i64))) && decide (ps.getD i.toNat (Ty.dflt (Ty.int .i64)) ≤ (↑d.length : Int))) (.br (decide (0 ≤ 0) && decide (0 ≤ List.getD ps i.toNat (Ty.dflt (Ty.int .i64)))) (.br (fits (List.length l + 1) 16) (.br (decide (0 ≤ (↑d.length : Int)) && decide ((↑d.length : Int) ≤ (↑d.length : Int))) (.br (decide (0 ≤ List.getD ps i.toNat (Ty.dflt (Ty.int .i64))) && decide (ps.getD i.toNat (Ty.dflt (Ty.int .i64)) ≤ (↑d.length : Int))) (.ret (.inl (stOf [1, 6, 11, 12, 13] [.str (List.take (Int.toNat (↑d.length : Int) - Int.toNat (ps.getD i.toNat (Ty.dflt (Ty.int .i64)))) (List.drop (Int.toNat (ps.getD i.toNat (Ty.dflt (Ty.int .i64)))) d)), .rowA 0, .list (.int .i64) ps, .int .i64 n, .int .i64 (IntKind.wrap .i64 (i + 1))] [.row Ty.str (l ++ [List.take (Int.toNat (ps.getD i.toNat (Ty.dflt (Ty.int .i64))) - Int.toNat 0) (List.drop (Int.toNat 0) d)])]))) .no) .no) .no) .no) .no)) (.br (decide (0 ≤ List.getD ps i.toNat (Ty.dflt (Ty.int .i64))) && decide (ps.getD i.toNat (Ty.dflt (Ty.int .i64)) ≤ (↑d.length : Int))) (.br (decide (0 ≤ 0) && decide (0 ≤ List.getD ps i.toNat (Ty.dflt (Ty.int .i64)))) (.br (fits (List.length l + 1) 16) (.br (decide (0 ≤ (↑d.length : Int)) && decide ((↑d.length : Int) ≤ (↑d.length : Int))) (.br (decide (0 ≤ List.getD ps i.toNat (Ty.dflt (Ty.int .i64))) && decide (ps.getD i.toNat (Ty.dflt (Ty.int .i64)) ≤ (↑d.length : Int))) (.ret (.inl (stOf [1, 6, 11, 12, 13] [.str (List.take (Int.toNat (↑d.length : Int) - Int.toNat (ps.getD i.toNat (Ty.dflt (Ty.int .i64)))) (List.drop (Int.toNat (ps.getD i.toNat (Ty.dflt (Ty.int .i64)))) d)), .rowA 0, .list (.int .i64) ps, .int .i64 n, .int .i64 (IntKind.wrap .i64 (i + 1))] [.row Ty.str (l ++ [List.take (Int.toNat (ps.getD i.toNat (Ty.dflt (Ty.int .i64))) - Int.toNat 0) (List.drop (Int.toNat 0) d)])]))) .no) .no) .no) .no) .no)))))) .no) (.br (ps.getD i.toNat (Ty.dflt (Ty.int .i64)) == (-3 : Int)) (.br (decide ((↑d.length : Int) > (↑d.length : Int))) (.ret (.inr (.ret, stOf [1, 4, 5, 6] [.str d, .rowA 0, .bool false, .rowA 1] [.row Ty.str [], .row Ty.str l]))) (.br (ps.getD i.toNat (Ty.dflt (Ty.int .i64)) == (-1 : Int)) (.br ((↑d.length : Int) == 0) (.ret (.inr (.ret, stOf [1, 4, 5, 6] [.str d, .rowA 0, .bool false, .rowA 1] [.row Ty.str [], .row Ty.str l]))) (.br (decide (0 ≤ (↑d.length : Int)) && decide ((↑d.length : Int) ≤ (↑d.length : Int))) (.br (fits (List.length l + 1) 16) (.br (decide (0 ≤ (↑d.length : Int)) && decide ((↑d.length : Int) ≤ (↑d.length : Int))) (.br (decide (0 ≤ (↑d.length : Int)) && decide ((↑d.length : Int) ≤ (↑d.length : Int))) (.ret (.inl (stOf [1, 6, 11, 12, 13] [.str (List.take (Int.toNat (↑d.length : Int) - Int.toNat (↑d.length : Int)) (List.drop (Int.toNat (↑d.length : Int)) d)), .rowA 0, .list (.int .i64) ps, .int .i64 n, .int .i64 (IntKind.wrap .i64 (i + 1))] [.row Ty.str (l ++ [List.take (Int.toNat (↑d.length : Int) - Int.toNat 0) (List.drop (Int.toNat 0) d)])]))) .no) .no) .no) .no)) (.br (decide (0 ≤ (↑d.length : Int)) && decide ((↑d.length : Int) ≤ (↑d.length : Int))) (.br (fits (List.length l + 1) 16) (.br (decide (0 ≤ (↑d.length : Int)) && decide ((↑d.length : Int) ≤ (↑d.length : Int))) (.br (decide (0 ≤ (↑d.length : Int)) && decide ((↑d.length : Int) ≤ (↑d.length : Int))) (.ret (.inl (stOf [1, 6, 11, 12, 13] [.str (List.take (Int.toNat (↑d.length : Int) - Int.toNat (↑d.length : Int)) (List.drop (Int.toNat (↑d.length : Int)) d)), .rowA 0, .list (.int .i64) ps, .int .i64 n, .int .i64 (IntKind.wrap .i64 (i + 1))] [.row Ty.str (l ++ [List.take (Int.toNat (↑d.length : Int) - Int.toNat 0) (List.drop (Int.toNat 0) d)])]))) .no) .no) .no) .no))) (.br (decide (ps.getD i.toNat (Ty.dflt (Ty.int .i64)) < 0)) (.ret (.inr (.ret, stOf [1, 4, 5, 6] [.str d, .rowA 0, .bool false, .rowA 1] [.row Ty.str [], .row Ty.str l]))) (.br (decide (ps.getD i.toNat (Ty.dflt (Ty.int .i64)) > (↑d.length : Int))) (.ret (.inr (.ret, stOf [1, 4, 5, 6] [.str d, .rowA 0, .bool false, .rowA 1] [.row Ty.str [], .row Ty.str l]))) (.br (ps.getD i.toNat (Ty.dflt (Ty.int .i64)) == (-1 : Int)) (.br (ps.getD i.toNat (Ty.dflt (Ty.int .i64)) == 0) (.ret (.inr (.ret, stOf [1, 4, 5, 6] [.str d, .rowA 0, .bool false, .rowA 1] [.row Ty.str [], .row Ty.str l]))) (.br (decide (0 ≤ List.getD ps i.toNat (Ty.dflt (Ty.int .i64))) && decide (ps.getD i.toNat (Ty.dflt (Ty.int .i64)) ≤ (↑d.length : Int))) (.br (decide (0 ≤ 0) && decide (0 ≤ List.getD ps i.toNat (Ty.dflt (Ty.int .i64)))) (.br (fits (List.length l + 1) 16) (.br (decide (0 ≤ (↑d.length : Int)) && decide ((↑d.length : Int) ≤ (↑d.length : Int))) (.br (decide (0 ≤ List.getD ps i.toNat (Ty.dflt (Ty.int .i64))) && decide (ps.getD i.toNat (Ty.dflt (Ty.int .i64)) ≤ (↑d.length : Int))) (.ret (.inl (stOf [1, 6, 11, 12, 13] [.str (List.take (Int.toNat (↑d.length : Int) - Int.toNat (ps.getD i.toNat (Ty.dflt (Ty.int .i64)))) (List.drop (Int.toNat (ps.getD i.toNat (Ty.dflt (Ty.int .i64)))) d)), .rowA 0, .list (.int .i64) ps, .int .i64 n, .int .i64 (IntKind.wrap .i64 (i + 1))] [.row Ty.str (l ++ [List.take (Int.toNat (ps.getD i.toNat (Ty.dflt (Ty.int .i64))) - Int.toNat 0) (List.drop (Int.toNat 0) d)])]))) .no) .no) .no) .no) .no)) (.br (decide (0 ≤ List.getD ps i.toNat (Ty.dflt (Ty.int .i64))) && decide (ps.getD i.toNat (Ty.dflt (Ty.int .i64)) ≤ (↑d.length : Int))) (.br (decide (0 ≤ 0) && decide (0 ≤ List.getD ps i.toNat (Ty.dflt (Ty.int .i64)))) (.br (fits (List.length l + 1) 16) (.br (decide (0 ≤ (↑d.length : Int)) && decide ((↑d.length : Int) ≤ (↑d.length : Int))) (.br (decide (0 ≤ List.getD ps i.toNat (Ty.dflt (Ty.int .i64))) && decide (ps.getD i.toNat (Ty.dflt (Ty.int .i64)) ≤ (↑d.length : Int))) (.ret (.inl (stOf [1, 6, 11, 12, 13] [.str (List.take (Int.toNat (↑d.length : Int) - Int.toNat (ps.getD i.toNat (Ty.dflt (Ty.int .i64)))) (List.drop (Int.toNat (ps.getD i.toNat (Ty.dflt (Ty.int .i64)))) d)), .rowA 0, .list (.int .i64) ps, .int .i64 n, .int .i64 (IntKind.wrap .i64 (i + 1))] [.row Ty.str (l ++ [List.take (Int.toNat (ps.getD i.toNat (Ty.dflt (Ty.int .i64))) - Int.toNat 0) (List.drop (Int.toNat 0) d)])]))) .no) .no) .no) .no) .no))))))) .no) .no) (.ret (.inr (.exit 0, stOf [1, 4, 5, 6] [.str d, .dead, .dead, .rowA 0] [.row Ty.str l])))
theorem X42 (lp : Lp) (d : List UInt8) (ps : List Int) (n i : Int) (l : List (List UInt8)) : evC T0 (orcB [Zf, V0k, J0n] []) lp b92 0 (stOf [1, 6, 11, 12, 13] [.str d, .rowA 0, .list (.int .i64) ps, .int .i64 n, .int .i64 i] [.row .str l]) (Z1 [1, 6, 11, 12, 13] [1, 4, 5, 6] 0) = (r92 d ps n i l).get := by kernel_rfl
theorem wf92 (ps : List Int) (n : Int) (I'' : List UInt8 → Int → List (List UInt8) → Prop) (m'' : List UInt8 → Int → List (List UInt8) → Nat) (r'' : Ex × St) (h : ∀ (d : List UInt8) (i : Int) (l : List (List UInt8)), I'' d i l → (r92 d ps n i l).all fun x'' => x'' = .inr r'' ∨ ∃ (d' : List UInt8) (i' : Int) (l' : List (List UInt8)), x'' = .inl (stOf [1, 6, 11, 12, 13] [.str d', .rowA 0, .list (.int .i64) ps, .int .i64 n, .int .i64 i'] [.row .str l']) ∧ I'' d' i' l' ∧ m'' d' i' l' < m'' d i l) (lp : Lp) (d : List UInt8) (i : Int) (l : List (List UInt8)) : I'' d i l →
    Z3 (fun st => evC T0 (orcB [Zf, V0k, J0n] []) lp b92 0 st (Z1 [1, 6, 11, 12, 13] [1, 4, 5, 6] 0)) (stOf [1, 6, 11, 12, 13] [.str d, .rowA 0, .list (.int .i64) ps, .int .i64 n, .int .i64 i] [.row .str l]) = some r'' :=
 Z6 (fun a'' : List UInt8 × Int × List (List UInt8) => stOf [1, 6, 11, 12, 13] [.str a''.1, .rowA 0, .list (.int .i64) ps, .int .i64 n, .int .i64 a''.2.1] [.row .str a''.2.2]) (fun a'' => I'' a''.1 a''.2.1 a''.2.2) (fun a'' => m'' a''.1 a''.2.1 a''.2.2) r'' (fun a'' => r92 a''.1 ps n a''.2.1 a''.2.2)
  (fun a'' x hx => (X42 lp a''.1 ps n a''.2.1 a''.2.2).trans hx) (fun a'' ha => Tr.all_mono (fun x'' hx => hx.imp id fun ⟨d', i', l', h1, h2, h3⟩ => ⟨(d', i', l'), h1, h2, h3⟩) (h (a''.1) (a''.2.1) (a''.2.2) ha)) (d, i, l)
def cutI (ps0 : List Int) (d0 : List UInt8) (l0 : List (List UInt8)) (d : List UInt8) (i : Int) (l : List (List UInt8)) : Prop := 0 ≤ i ∧ i ≤ ps0.length ∧ bigS d = true ∧ l.length = i.toNat ∧ cutS (ps0.drop i.toNat) d l = cutS ps0 d0 l0
theorem Z1i {P : St ⊕ (Ex × St) → Prop} {d : List UInt8} {l : List (List UInt8)} {ps : List Int} {n i sz : Int} (h0 : 0 ≤ sz) (h1 : sz ≤ d.length) (hf : fits (l.length + 1) 16 = true)
    (hr : P (Sum.inl (stOf [1, 6, 11, 12, 13] [AV.str (d.drop sz.toNat), AV.rowA 0, AV.list (Ty.int IntKind.i64) ps, AV.int IntKind.i64 n, AV.int IntKind.i64 (IntKind.wrap IntKind.i64 (i + (1 : Int)))] [LObj.row Ty.str (l ++ [d.take sz.toNat])]))) :
    (Tr.br (decide ((0 : Int) ≤ sz) && decide (sz ≤ (↑(List.length d) : Int))) (Tr.br (fits (List.length l + 1) 16) (Tr.br (decide ((0 : Int) ≤ (↑(List.length d) : Int)) && decide ((↑(List.length d) : Int) ≤ (↑(List.length d) : Int))) (Tr.br (decide ((0 : Int) ≤ sz) && decide (sz ≤ (↑(List.length d) : Int)))
     (Tr.ret (Sum.inl (stOf [1, 6, 11, 12, 13] [AV.str (List.take (Int.toNat (↑(List.length d) : Int) - Int.toNat sz) (List.drop (Int.toNat sz) d)), AV.rowA 0, AV.list (Ty.int IntKind.i64) ps, AV.int IntKind.i64 n, AV.int IntKind.i64 (IntKind.wrap IntKind.i64 (i + (1 : Int)))] [LObj.row Ty.str (l ++ [List.take (Int.toNat sz - Int.toNat (0 : Int)) (List.drop (Int.toNat (0 : Int)) d)])]))) Tr.no) Tr.no) Tr.no) Tr.no).all P := by
 have e : List.take (Int.toNat (↑(List.length d) : Int) - Int.toNat sz) (List.drop (Int.toNat sz) d) = d.drop sz.toNat := List.take_of_length_le (by simp)
 have e2 : List.take (Int.toNat sz - Int.toNat (0 : Int)) (List.drop (Int.toNat (0 : Int)) d) = d.take sz.toNat := rfl
 rw [e, e2]
 refine Tr.all_t (by rw [X0 h0, X0 h1]; rfl) (Tr.all_t hf (Tr.all_t (by rw [X0 (by omega), X0 (by omega)]; rfl) (Tr.all_t (by rw [X0 h0, X0 h1]; rfl) (Tr.all_ret hr))))
theorem X2z {P : St ⊕ (Ex × St) → Prop} {d : List UInt8} {l : List (List UInt8)} {ps : List Int} {n i sz : Int} (h0 : 0 ≤ sz) (h1 : sz ≤ d.length) (hf : fits (l.length + 1) 16 = true)
    (hr : P (Sum.inl (stOf [1, 6, 11, 12, 13] [AV.str (d.drop sz.toNat), AV.rowA 0, AV.list (Ty.int IntKind.i64) ps, AV.int IntKind.i64 n, AV.int IntKind.i64 (IntKind.wrap IntKind.i64 (i + (1 : Int)))] [LObj.row Ty.str (l ++ [d.take sz.toNat])]))) :
    (Tr.br (decide ((0 : Int) ≤ sz) && decide (sz ≤ (↑(List.length d) : Int))) (Tr.br (decide ((0 : Int) ≤ (0 : Int)) && decide ((0 : Int) ≤ sz)) (Tr.br (fits (List.length l + 1) 16) (Tr.br (decide ((0 : Int) ≤ (↑(List.length d) : Int)) && decide ((↑(List.length d) : Int) ≤ (↑(List.length d) : Int))) (Tr.br (decide ((0 : Int) ≤ sz) && decide (sz ≤ (↑(List.length d) : Int)))
     (Tr.ret (Sum.inl (stOf [1, 6, 11, 12, 13] [AV.str (List.take (Int.toNat (↑(List.length d) : Int) - Int.toNat sz) (List.drop (Int.toNat sz) d)), AV.rowA 0, AV.list (Ty.int IntKind.i64) ps, AV.int IntKind.i64 n, AV.int IntKind.i64 (IntKind.wrap IntKind.i64 (i + (1 : Int)))] [LObj.row Ty.str (l ++ [List.take (Int.toNat sz - Int.toNat (0 : Int)) (List.drop (Int.toNat (0 : Int)) d)])]))) Tr.no) Tr.no) Tr.no) Tr.no) Tr.no).all P := by
 have e : List.take (Int.toNat (↑(List.length d) : Int) - Int.toNat sz) (List.drop (Int.toNat sz) d) = d.drop sz.toNat := List.take_of_length_le (by simp)
 have e2 : List.take (Int.toNat sz - Int.toNat (0 : Int)) (List.drop (Int.toNat (0 : Int)) d) = d.take sz.toNat := rfl
 rw [e, e2]
 refine Tr.all_t (by rw [X0 h0, X0 h1]; rfl) (Tr.all_t (by rw [X0 h0]; rfl) (Tr.all_t hf (Tr.all_t (by rw [X0 (by omega), X0 (by omega)]; rfl) (Tr.all_t (by rw [X0 h0, X0 h1]; rfl) (Tr.all_ret hr)))))
theorem Z4y : ls92.Ok T0 (orcB [Zf, V0k, J0n] []) h92 0 0 b92 := by
 intro q'' hq'' x'' y'' r'' h
 obtain ⟨(d : List UInt8), (ps : List Int), (n : Int), (i : Int), _⟩ := x''
 obtain ⟨(l : List (List UInt8)), _⟩ := y''
 obtain ⟨hc, rfl⟩ := Tr.get_on2 h
 show Z3 (fun st => evC T0 (orcB [Zf, V0k, J0n] []) (lpN T0 (orcB [Zf, V0k, J0n] []) h92 0 q'') b92 0 st (Z1 [1, 6, 11, 12, 13] [1, 4, 5, 6] 0)) (stOf [1, 6, 11, 12, 13] [.str d, .rowA 0, .list (.int .i64) ps, .int .i64 n, .int .i64 i] [.row .str l]) = some ((bif (cutS ps d l).1 then (.exit 0, [.str (cutS ps d l).2.1, .dead, .dead, .rowA 0], [.row .str (cutS ps d l).2.2]) else (.ret, [.str (cutS ps d l).2.1, .rowA 0, .bool false, .rowA 1], [.row .str [], .row .str (cutS ps d l).2.2]) : Ex × List AV × List LObj).1, stOf [1, 4, 5, 6] (bif (cutS ps d l).1 then (.exit 0, [.str (cutS ps d l).2.1, .dead, .dead, .rowA 0], [.row .str (cutS ps d l).2.2]) else (.ret, [.str (cutS ps d l).2.1, .rowA 0, .bool false, .rowA 1], [.row .str [], .row .str (cutS ps d l).2.2]) : Ex × List AV × List LObj).2.1 (bif (cutS ps d l).1 then (.exit 0, [.str (cutS ps d l).2.1, .dead, .dead, .rowA 0], [.row .str (cutS ps d l).2.2]) else (.ret, [.str (cutS ps d l).2.1, .rowA 0, .bool false, .rowA 1], [.row .str [], .row .str (cutS ps d l).2.2]) : Ex × List AV × List LObj).2.2)
 simp only [cutC, Bool.and_eq_true, decide_eq_true_eq, noS, List.isEmpty_iff] at hc
 obtain ⟨hb, rfl, rfl, rfl, hps⟩ := hc
 refine wf92 ps _ (cutI ps d []) (fun _ i _ => (ps.length - i).toNat) _ ?_ _ d 0 [] ⟨by omega, by omega, hb, rfl, rfl⟩
 clear hb
 rintro d' i l' ⟨h0, h1, hb, hl, hF⟩
 rw [← hF]
 have hB : d'.length ≤ 1000000000000 := by simpa [bigS] using hb
 unfold r92
 by_cases hi : i < ps.length
 · obtain ⟨d1, _⟩ := Js (Ty.dflt (Ty.int .i64)) h0 hi
   generalize List.getD ps (Int.toNat i) (Ty.dflt (Ty.int .i64)) = x at d1
   rw [d1, cutS] at hF ⊢
   have hfit : fits (l'.length + 1) 16 = true := Q6 (by omega) (by omega)
   have hw : IntKind.wrap .i64 (i + 1) = i + 1 := IntWalk.i64_in _ (by omega)
   have X23 : ∀ sz, szP x d' = sz → okP x d' = true → cutI ps d [] (d'.drop sz.toNat) (IntKind.wrap .i64 (i + 1)) (l' ++ [d'.take sz.toNat]) ∧ (ps.length - IntKind.wrap .i64 (i + 1)).toNat < (ps.length - i).toNat := fun sz hs ho => by
    subst hs
    rw [hw]
    refine ⟨⟨by omega, by omega, by simp [bigS]; omega, by simp; omega, ?_⟩, by omega⟩
    rw [← hF, if_pos ho]
   have hwh := U2x d'
   have hfail : okP x d' = false → (if okP x d' = true then cutS (List.drop (i + 1).toNat ps) (List.drop (szP x d').toNat d') (l' ++ [List.take (szP x d').toNat d']) else (false, d', l')) = (false, d', l') := fun h => if_neg (by rw [h]; simp)
   refine Tr.all_t (X0 hi) (Tr.all_t (X0 h0) (Tr.all_t (X0 hi) ?_))
   by_cases x1 : x = -1
   · have es : szP x d' = (Zc d' : Int) := by unfold szP; rw [if_pos x1]
     have eo : okP x d' = !decide ((Zc d' : Int) = 0) := by
      unfold okP
      rw [es, X0 (by omega), X0 (by omega), X0 x1]
      rfl
     refine Tr.all_t (beq_iff_eq.2 x1) (Tr.all_t hb (Tr.all_f (U0 (by omega)) (Tr.all_t (beq_iff_eq.2 x1) (Tr.all_br (fun c => Tr.all_ret (.inl ?_)) fun c => Z1i (by omega) (by omega) hfit (.inr ⟨_, _, _, rfl, X23 _ es ?_⟩)))))
     · rw [hfail (by rw [eo, X0 (beq_iff_eq.1 c)]; rfl)]
       rfl
     · rw [eo, U0 (beq_eq_false_iff_ne.1 c)]
       rfl
   have hx1 : (x == -1) = false := beq_eq_false_iff_ne.2 x1
   have other : ¬ (x = -2 ∧ X0k d' = true ∨ x = -3) → szP x d' = x ∧ okP x d' = (decide (0 ≤ x) && decide (x ≤ (d'.length : Int))) := fun h => by
    have es : szP x d' = x := by unfold szP; rw [if_neg x1, if_neg h]
    refine ⟨es, ?_⟩
    unfold okP
    rw [es, U0 x1]
    simp
   have full : (x = -2 ∧ X0k d' = true ∨ x = -3) → szP x d' = (d'.length : Int) ∧ okP x d' = true := fun h => by
    have es : szP x d' = (d'.length : Int) := by unfold szP; rw [if_neg x1, if_pos h]
    refine ⟨es, ?_⟩
    unfold okP
    rw [es, U0 x1]
    simp
   refine Tr.all_f hx1 (Tr.all_br (fun c2 => Tr.all_t hb (Tr.all_br (fun ct => ?_) fun ct => ?_)) fun c2 => ?_)
   · obtain ⟨es, eo⟩ := full (.inl ⟨beq_iff_eq.1 c2, ct⟩)
     exact Tr.all_f (U0 (by omega)) (Tr.all_f hx1 (Z1i (by omega) (by omega) hfit (.inr ⟨_, _, _, rfl, X23 _ es eo⟩)))
   · have hx2 := beq_iff_eq.1 c2
     obtain ⟨es, eo⟩ := other (by rw [ct]; simp; omega)
     refine Tr.all_f (beq_eq_false_iff_ne.2 (by omega)) (Tr.all_t (X0 (by omega)) (Tr.all_ret (.inl ?_)))
     rw [hfail (by rw [eo, U0 (by omega)]; rfl)]
     rfl
   · refine Tr.all_br (fun c3 => ?_) fun c3 => ?_
     · obtain ⟨es, eo⟩ := full (.inr (beq_iff_eq.1 c3))
       exact Tr.all_f (U0 (by omega)) (Tr.all_f hx1 (Z1i (by omega) (by omega) hfit (.inr ⟨_, _, _, rfl, X23 _ es eo⟩)))
     · have hx2 := beq_eq_false_iff_ne.1 c2
       have hx3 := beq_eq_false_iff_ne.1 c3
       obtain ⟨es, eo⟩ := other (by omega)
       refine Tr.all_br (fun c4 => Tr.all_ret (.inl ?_)) fun c4 => Tr.all_br (fun c5 => Tr.all_ret (.inl ?_)) fun c5 => ?_
       · simp only [decide_eq_true_eq] at c4
         rw [hfail (by rw [eo, U0 (by omega)]; rfl)]
         rfl
       · simp only [decide_eq_true_eq] at c5
         rw [hfail (by rw [eo, U0 (show ¬ x ≤ (d'.length : Int) by omega), Bool.and_false])]
         rfl
       · simp only [decide_eq_false_iff_not] at c4 c5
         exact Tr.all_f hx1 (X2z (by omega) (by omega) hfit (.inr ⟨_, _, _, rfl, X23 _ es (by rw [eo, X0 (by omega), X0 (by omega)]; rfl)⟩))
 · have : ps.drop i.toNat = [] := List.drop_eq_nil_of_le (by omega)
   rw [this]
   exact Tr.all_f (U0 hi) (Tr.all_ret (.inl rfl))
def t92 (k : Int) (d : List UInt8) : Tr Res := .br (cutC d (layV k) (↑(List.length (layV k)) : Int) 0 []) (.br (cutS (layV k) d []).1 (.ret ([.list Ty.str (cutS (layV k) d []).2.2, .bool ((cutS (layV k) d []).2.1 == [])], [])) (.ret ([.list Ty.str [], .bool false], []))) .no
def os92 : OSpec := { f := 92, sh := [.d (.int .u16) false, .d .str false], so := [], F := fun (k, d, _) _ => t92 k d }
theorem fn92 (k : Int) (d : List UInt8) : evC T0 (orcB [Zf, V0k, J0n] []) (lpOf h92 0 (lsOf [ls92])) c92 1000000 (V1 [.int .u16 k, .str d] [] Try.f92.ntmps) (J1 T0 false 0 Try.f92) = (t92 k d).get := by kernel_rfl
theorem ok92 : os92.Ok Try.prog := by
 refine V3 X2 tab0 (V0 (all_cons U15 (all_cons Q3y (all_cons V43 all_nil))) all_nil) h92 (d := 0) (n0 := 0) (S := lsOf [ls92]) Try.func92 (by kernel_rfl) (c := c92) (by kernel_rfl) rfl (Q5 (xs := [(0, b92)]) (by kernel_rfl) (all_cons (J7 Z4y) all_nil)) (by omega) (by kernel_rfl) ?_
 intro x'' y'' q'' hq''
 obtain ⟨(k : Int), (d : List UInt8), _⟩ := x''
 exact (fn92 k d).trans hq''
def fs92 : FSpec := fsT 92 [((.int .u16), false), (.str, false)] [((.list .str), false), (.bool, false)] fun (k, d, _) => t92 k d
theorem okf92 : fs92.Ok Try.prog := V6 fun x'' r'' hr'' => ok92 x'' () r'' hr''
theorem Z1c (k : Int) : (layV k).length ≤ 10 := by
 unfold layV
 repeat' split
 all_goals simp
def V0z : FSpec := fs92.like fun (k, d, _) => .on (bigS d) (bif okV k d then Xr k d else [], okV k d && (U1n k d).isEmpty, ())
theorem V3j : V0z.Ok Try.prog := by
 refine U3 okf92 _ ?_
 rintro ⟨(k : Int), (d : List UInt8), _⟩ y h
 obtain ⟨hb, rfl⟩ := Tr.get_on h
 refine J3 (vs := [.list .str (bif okV k d then Xr k d else []), .bool (okV k d && (U1n k d).isEmpty)]) rfl rfl (Tr.get_of_all ?_)
 show (t92 k d).all _
 unfold t92 okV Xr U1n
 have hl := Z1c k
 refine Tr.all_t (by simp [cutC, hb, noS, hl]) (Tr.all_br (fun c1 => Tr.all_ret ?_) fun c1 => Tr.all_ret ?_)
 · rw [c1]
   have : ((cutS (layV k) d []).2.1 == []) = (cutS (layV k) d []).2.1.isEmpty := by cases (cutS (layV k) d []).2.1 <;> rfl
   rw [this]
   rfl
 · rw [c1]
   rfl
def t69 (k : Int) (d : List UInt8) : Tr Res := .br (bigS d) (.br (okV k d && List.isEmpty (U1n k d)) (.ret ([.bool (decide ((↑d.length : Int) ≤ 65535))], [])) (.ret ([.bool false], []))) .no
def os69 : OSpec := { f := 69, sh := [.d (.int .u16) false, .d .str false], so := [], F := fun (k, d, _) _ => t69 k d }
theorem fn69 (k : Int) (d : List UInt8) : evC T0 (orcB [Zf, V0z] []) (lpOf h69 0 (lsOf [])) c69 1000000 (V1 [.int .u16 k, .str d] [] Try.f69.ntmps) (J1 T0 false 0 Try.f69) = (t69 k d).get := by kernel_rfl
theorem ok69 : os69.Ok Try.prog := by
 refine V3 X2 tab0 (V0 (all_cons U15 (all_cons V3j all_nil)) all_nil) h69 (d := 0) (n0 := 0) (S := lsOf []) Try.func69 (by kernel_rfl) (c := c69) (by kernel_rfl) rfl (U2 (by kernel_rfl)) (by omega) (by kernel_rfl) ?_
 intro x'' y'' q'' hq''
 obtain ⟨(k : Int), (d : List UInt8), _⟩ := x''
 exact (fn69 k d).trans hq''
def fs69 : FSpec := fsT 69 [((.int .u16), false), (.str, false)] [(.bool, false)] fun (k, d, _) => t69 k d
theorem okf69 : fs69.Ok Try.prog := V6 fun x'' r'' hr'' => ok69 x'' () r'' hr''
def J01 : FSpec := fs69.like fun (k, d, _) => .on (bigS d) (mayR k d, ())
theorem Z1y : J01.Ok Try.prog := by
 refine U3 okf69 _ ?_
 rintro ⟨(k : Int), (d : List UInt8), _⟩ y h
 obtain ⟨hb, rfl⟩ := Tr.get_on h
 refine J3 (vs := [.bool (mayR k d)]) rfl rfl (Tr.get_of_all ?_)
 show (t69 k d).all _
 unfold t69 mayR
 refine Tr.all_t hb (Tr.all_br (fun c1 => Tr.all_ret ?_) fun c1 => Tr.all_ret ?_)
 · rw [c1, Q13, Bool.true_and]
   congr 3
   rw [Bool.eq_iff_iff]
   simp
   omega
 · rw [c1]
   rfl
noncomputable def b142 : Code := Z5 c142 0
def V39 : LoopSpec := { bid := 0, sh := [.ptr 0 0, .d (.list .str) false, .d (.list (.int .i64)) false, .d (.int .i64) false, .d (.int .i64) false], so := [.box [.row 1, .mp 2], .row (.int .u8), .map .str (.int .i64)], F := fun (ls, ps, n, i, _) (_, b, m, _) => .on (putC ls ps n i b m) (.exit 0, [], [.box [.rowA 1, .mp 2], .row (.int .u8) (J0 (putS ps ls (Z0 b, m)).1), .mpo .str (.int .i64) (putS ps ls (Z0 b, m)).2]) }
def r142 (ls : List (List UInt8)) (ps : List Int) (n i : Int) (b : List Int) (m : List (List UInt8 × Int)) : Tr (St ⊕ (Ex × St)) := .br (decide (i < n)) (.br (decide (0 ≤ i)) (.br (decide (i < (↑ps.length : Int))) (.br (ps.getD i.toNat (Ty.dflt (Ty.int .i64)) == (-1 : Int)) (.br (decide (0 ≤ i)) (.br (decide (i < (↑ls.length : Int))) (.br (pkC b m && Nat.ble (List.length (ls.getD i.toNat (Ty.dflt Ty.str))) 100000000000) (.br (mayV (ls.getD i.toNat (Ty.dflt Ty.str))) (.ret (.inl (stOf [0, 7, 26, 27, 28] [.ptr 0 0, .list Ty.str ls, .list (.int .i64) ps, .int .i64 n, .int .i64 (IntKind.wrap .i64 (i + 1))] [.boxT none [.rowA 1, .mp 2], .row (.int .u8) (J0 (Z4 (ls.getD i.toNat (Ty.dflt Ty.str)) (Z0 b) m).1), .mpo .str (.int .i64) (Z4 (ls.getD i.toNat (Ty.dflt Ty.str)) (Z0 b) m).2]))) (.ret (.inl (stOf [0, 7, 26, 27, 28] [.ptr 0 0, .list Ty.str ls, .list (.int .i64) ps, .int .i64 n, .int .i64 (IntKind.wrap .i64 (i + 1))] [.boxT none [.rowA 1, .mp 2], .row (.int .u8) b, .mpo .str (.int .i64) m])))) .no) .no) .no) (.br (decide (0 ≤ i)) (.br (decide (i < (↑ls.length : Int))) (.br (fits (List.length b + List.length (J0 (ls.getD i.toNat (Ty.dflt Ty.str)))) 1) (.ret (.inl (stOf [0, 7, 26, 27, 28] [.ptr 0 0, .list Ty.str ls, .list (.int .i64) ps, .int .i64 n, .int .i64 (IntKind.wrap .i64 (i + 1))] [.boxT none [.rowA 1, .mp 2], .row (.int .u8) (b ++ J0 (ls.getD i.toNat (Ty.dflt Ty.str))), .mpo .str (.int .i64) m]))) .no) .no) .no)) .no) .no) (.ret (.inr (.exit 0, stOf [] [] [.boxT none [.rowA 1, .mp 2], .row (.int .u8) b, .mpo .str (.int .i64) m])))
theorem V3x (lp : Lp) (ls : List (List UInt8)) (ps : List Int) (n i : Int) (b : List Int) (m : List (List UInt8 × Int)) : evC T0 (orcB [Zf, V0z, J01] [Z09, os98]) lp b142 0 (stOf [0, 7, 26, 27, 28] [.ptr 0 0, .list .str ls, .list (.int .i64) ps, .int .i64 n, .int .i64 i] [.box [.rowA 1, .mp 2], .row (.int .u8) b, .mpo .str (.int .i64) m]) (Z1 [0, 7, 26, 27, 28] [] 3) = (r142 ls ps n i b m).get := by kernel_rfl
theorem wf142 (ls : List (List UInt8)) (ps : List Int) (n : Int) (I'' : Int → List Int → List (List UInt8 × Int) → Prop) (m'' : Int → List Int → List (List UInt8 × Int) → Nat) (r'' : Ex × St) (h : ∀ (i : Int) (b : List Int) (m : List (List UInt8 × Int)), I'' i b m → (r142 ls ps n i b m).all fun x'' => x'' = .inr r'' ∨ ∃ (i' : Int) (b' : List Int) (m' : List (List UInt8 × Int)), x'' = .inl (stOf [0, 7, 26, 27, 28] [.ptr 0 0, .list .str ls, .list (.int .i64) ps, .int .i64 n, .int .i64 i'] [.box [.rowA 1, .mp 2], .row (.int .u8) b', .mpo .str (.int .i64) m']) ∧ I'' i' b' m' ∧ m'' i' b' m' < m'' i b m) (lp : Lp) (i : Int) (b : List Int) (m : List (List UInt8 × Int)) : I'' i b m →
    Z3 (fun st => evC T0 (orcB [Zf, V0z, J01] [Z09, os98]) lp b142 0 st (Z1 [0, 7, 26, 27, 28] [] 3)) (stOf [0, 7, 26, 27, 28] [.ptr 0 0, .list .str ls, .list (.int .i64) ps, .int .i64 n, .int .i64 i] [.box [.rowA 1, .mp 2], .row (.int .u8) b, .mpo .str (.int .i64) m]) = some r'' :=
 Z6 (fun a'' : Int × List Int × List (List UInt8 × Int) => stOf [0, 7, 26, 27, 28] [.ptr 0 0, .list .str ls, .list (.int .i64) ps, .int .i64 n, .int .i64 a''.1] [.box [.rowA 1, .mp 2], .row (.int .u8) a''.2.1, .mpo .str (.int .i64) a''.2.2]) (fun a'' => I'' a''.1 a''.2.1 a''.2.2) (fun a'' => m'' a''.1 a''.2.1 a''.2.2) r'' (fun a'' => r142 ls ps n a''.1 a''.2.1 a''.2.2)
  (fun a'' x hx => (V3x lp ls ps n a''.1 a''.2.1 a''.2.2).trans hx) (fun a'' ha => Tr.all_mono (fun x'' hx => hx.imp id fun ⟨i', b', m', h1, h2, h3⟩ => ⟨(i', b', m'), h1, h2, h3⟩) (h (a''.1) (a''.2.1) (a''.2.2) ha)) (i, b, m)
def putI (ps0 : List Int) (ls0 : List (List UInt8)) (p0 : PKt) (i : Int) (b : List Int) (m : V7) : Prop := 0 ≤ i ∧ i ≤ ps0.length ∧ ∃ p : PKt, b = J0 p.1 ∧ m = p.2 ∧ kOk p.2 = true ∧ p.1.length ≤ 1000000000 + 1000000 * i.toNat ∧ putS (ps0.drop i.toNat) (ls0.drop i.toNat) p = putS ps0 ls0 p0
theorem Z48 : V39.Ok T0 (orcB [Zf, V0z, J01] [Z09, os98]) h142 3 0 b142 := by
 intro q'' hq'' x'' y'' r'' h
 obtain ⟨(ls : List (List UInt8)), (ps : List Int), (n : Int), (i : Int), _⟩ := x''
 obtain ⟨_, (b : List Int), (m : List (List UInt8 × Int)), _⟩ := y''
 obtain ⟨hc, rfl⟩ := Tr.get_on h
 show Z3 (fun st => evC T0 (orcB [Zf, V0z, J01] [Z09, os98]) (lpN T0 (orcB [Zf, V0z, J01] [Z09, os98]) h142 3 q'') b142 0 st (Z1 [0, 7, 26, 27, 28] [] 3)) (stOf [0, 7, 26, 27, 28] [.ptr 0 0, .list .str ls, .list (.int .i64) ps, .int .i64 n, .int .i64 i] [.box [.rowA 1, .mp 2], .row (.int .u8) b, .mpo .str (.int .i64) m]) = some (.exit 0, stOf [] ([]) ([.box [.rowA 1, .mp 2], .row (.int .u8) (J0 (putS ps ls (Z0 b, m)).1), .mpo .str (.int .i64) (putS ps ls (Z0 b, m)).2]))
 simp only [putC, Bool.and_eq_true, decide_eq_true_eq, List.all_eq_true] at hc
 obtain ⟨⟨hok, hk, hb⟩, rfl, rfl, hl, hps, hx⟩ := hc
 have hb := Nat.le_of_ble_eq_true hb
 refine wf142 ls ps _ (putI ps ls (Z0 b, m)) (fun i _ _ => (ps.length - i).toNat) _ ?_ _ 0 b m ⟨by omega, by omega, (Z0 b, m), (J09 hok).symm, rfl, hk, by rw [Zg]; exact hb, rfl⟩
 clear hok hk hb
 rintro i b' m' ⟨h0, h1, p, rfl, rfl, hk, hpl, hF⟩
 rw [← hF]
 unfold r142
 by_cases hi : i < ps.length
 · obtain ⟨d1, _⟩ := Js (Ty.dflt (Ty.int .i64)) h0 hi
   obtain ⟨e1, e2⟩ := Js (l := ls) (Ty.dflt Ty.str) h0 (by omega)
   generalize List.getD ps (Int.toNat i) (Ty.dflt (Ty.int .i64)) = x at d1
   generalize List.getD ls (Int.toNat i) (Ty.dflt Ty.str) = y at e1 e2
   have hy := hx y e2
   rw [d1, e1, putS] at hF
   simp only [List.tail_cons, List.headD_cons] at hF
   have hpk : (pkC (J0 p.1) p.2 && Nat.ble y.length 100000000000) = true := by
    unfold pkC
    rw [Vc, hk, J2, Nat.ble_eq_true_of_le (by omega), Nat.ble_eq_true_of_le (by omega)]
    rfl
   have hfb : fits ((J0 p.1).length + (J0 y).length) 1 = true := Q6 (by rw [J2, J2]; omega) (by rw [J2, J2]; omega)
   obtain ⟨k1, k2⟩ := X3e (p := p) (x := (y, false)) hk
   have hil : i < (ls.length : Int) := by omega
   rw [Vj, IntWalk.i64_in _ (by omega), ← Jc]
   refine Tr.all_t (X0 hi) (Tr.all_t (X0 h0) (Tr.all_t (X0 hi) (Tr.all_br (fun c => Tr.all_t (X0 h0) (Tr.all_t (X0 hil) (Tr.all_t hpk (Tr.all_br (fun c1 => Tr.all_ret (.inr ?_)) fun c1 => Tr.all_ret (.inr ?_))))) fun c => Tr.all_t (X0 h0) (Tr.all_t (X0 hil) (Tr.all_t hfb (Tr.all_ret (.inr ?_)))))))
   · rw [c, cond_true] at hF
     have e : stN p (y, false) = Z4 y p.1 p.2 := by unfold stN; rw [c1]; rfl
     rw [e] at hF k1 k2
     have k2 : (Z4 y p.1 p.2).1.length ≤ p.1.length + y.length := k2
     exact ⟨_, _, _, rfl, ⟨by omega, by omega, Z4 y p.1 p.2, rfl, rfl, k1, by omega, hF⟩, by omega⟩
   · rw [c, cond_true] at hF
     have e : stN p (y, false) = p := by unfold stN; rw [c1]; rfl
     rw [e] at hF
     exact ⟨_, _, _, rfl, ⟨by omega, by omega, p, rfl, rfl, hk, by omega, hF⟩, by omega⟩
   · rw [c, cond_false] at hF
     exact ⟨_, _, _, rfl, ⟨by omega, by omega, (p.1 ++ y, p.2), rfl, rfl, hk, by simp only [List.length_append]; omega, hF⟩, by omega⟩
 · refine Tr.all_f (U0 hi) (Tr.all_ret (.inl ?_))
   rw [List.drop_eq_nil_of_le (by omega)]
   rfl
def t142 (k : Int) (d : List UInt8) (b : List Int) (m : List (List UInt8 × Int)) : Tr Res := .br (bigS d) (.br (!mayR k d) (.ret ([.int .i64 1], [.boxT none [.rowA 1, .mp 2], .row (.int .u8) b, .mpo .str (.int .i64) m])) (.br (bigS d) (.br (putC (bif okV k d then Xr k d else []) (layV k) (↑(List.length (layV k)) : Int) 0 b m) (.ret ([.int .i64 0], [.boxT none [.rowA 1, .mp 2], .row (.int .u8) (J0 (putS (layV k) (bif okV k d then Xr k d else []) (Z0 b, m)).1), .mpo .str (.int .i64) (putS (layV k) (bif okV k d then Xr k d else []) (Z0 b, m)).2])) .no) .no)) .no
def V4d : OSpec := { f := 142, sh := [.ptr 0 0, .d (.int .u16) false, .d .str false], so := [.box [.row 1, .mp 2], .row (.int .u8), .map .str (.int .i64)], F := fun (k, d, _) (_, b, m, _) => t142 k d b m }
theorem fn142 (k : Int) (d : List UInt8) (b : List Int) (m : List (List UInt8 × Int)) : evC T0 (orcB [Zf, V0z, J01] [Z09, os98]) (lpOf h142 3 (lsOf [V39])) c142 1000000 (V1 [.ptr 0 0, .int .u16 k, .str d] [.box [.rowA 1, .mp 2], .row (.int .u8) b, .mpo .str (.int .i64) m] Try.f142.ntmps) (J1 T0 false 3 Try.f142) = (t142 k d b m).get := by kernel_rfl
theorem ok142 : V4d.Ok Try.prog := by
 refine V3 X2 tab0 (V0 (all_cons U15 (all_cons V3j (all_cons Z1y all_nil))) (all_cons V2k (all_cons ok98 all_nil))) h142 (d := 0) (n0 := 3) (S := lsOf [V39]) Try.func142 (by kernel_rfl) (c := c142) (by kernel_rfl) rfl (Q5 (xs := [(0, b142)]) (by kernel_rfl) (all_cons (J7 Z48) all_nil)) (by omega) (by kernel_rfl) ?_
 intro x'' y'' q'' hq''
 obtain ⟨(k : Int), (d : List UInt8), _⟩ := x''
 obtain ⟨_, (b : List Int), (m : List (List UInt8 × Int)), _⟩ := y''
 exact (fn142 k d b m).trans hq''
noncomputable def b89 : Code := Z5 c89 0
def ls89 : LoopSpec := { bid := 0, sh := [.d .str false, .d (.int .i64) false, .d (.int .u16) false, .d (.int .i64) false, .d .str false, .d (.list (.int .i64)) false, .d (.int .i64) false, .d (.int .i64) false], so := [], F := fun (s, at_, k, end_, d, ps, n, i, _) _ => .on2 (J2e s at_ end_ d ps n i) ((U5 ps s at_ end_ d).1) (.exit 0, [.int .i64 (U5 ps s at_ end_ d).2.1, .int .u16 k, .dead, .dead, .int .i64 end_, .str (U5 ps s at_ end_ d).2.2], []) (.ret, [.int .i64 (U5 ps s at_ end_ d).2.1, .int .u16 k, .str [], .int .i64 2, .int .i64 end_, .str (U5 ps s at_ end_ d).2.2], []) }
def r89 (s : List UInt8) (at_ k end_ : Int) (d : List UInt8) (ps : List Int) (n i : Int) : Tr (St ⊕ (Ex × St)) := .br (decide (i < n)) (.br (decide (0 ≤ i)) (.br (decide (i < (↑ps.length : Int))) (.br (ps.getD i.toNat (Ty.dflt (Ty.int .i64)) == (-2 : Int)) (.br (ps.getD i.toNat (Ty.dflt (Ty.int .i64)) == (-1 : Int)) (.br (bigS s) (.br (tkE (Q4 s at_ at_ (-1 : Int) []) != 0) (.ret (.inr (.ret, stOf [1, 3, 8, 9, 13, 14] [.int .i64 at_, .int .u16 k, .str [], .int .i64 2, .int .i64 end_, .str d] []))) (.br (decide (tkN (Q4 s at_ at_ (-1 : Int) []) > end_)) (.ret (.inr (.ret, stOf [1, 3, 8, 9, 13, 14] [.int .i64 at_, .int .u16 k, .str [], .int .i64 2, .int .i64 end_, .str d] []))) (.br (Nat.ble (List.length d + List.length (tkS (Q4 s at_ at_ (-1 : Int) []))) 9223372036854775807) (.ret (.inl (stOf [0, 1, 3, 13, 14, 39, 40, 41] [.str s, .int .i64 (tkN (Q4 s at_ at_ (-1 : Int) [])), .int .u16 k, .int .i64 end_, .str (d ++ tkS (Q4 s at_ at_ (-1 : Int) [])), .list (.int .i64) ps, .int .i64 n, .int .i64 (IntKind.wrap .i64 (i + 1))] []))) .no))) .no) (.br (bigS s) (.br (Q1 s at_ (IntKind.wrap .i64 (end_ - at_))) (.br (decide (at_ + IntKind.wrap .i64 (end_ - at_) > end_)) (.ret (.inr (.ret, stOf [1, 3, 8, 9, 13, 14] [.int .i64 at_, .int .u16 k, .str [], .int .i64 2, .int .i64 end_, .str d] []))) (.br (Nat.ble (List.length d + List.length (U1 s at_ (IntKind.wrap .i64 (end_ - at_)))) 9223372036854775807) (.ret (.inl (stOf [0, 1, 3, 13, 14, 39, 40, 41] [.str s, .int .i64 (at_ + IntKind.wrap .i64 (end_ - at_)), .int .u16 k, .int .i64 end_, .str (d ++ U1 s at_ (IntKind.wrap .i64 (end_ - at_))), .list (.int .i64) ps, .int .i64 n, .int .i64 (IntKind.wrap .i64 (i + 1))] []))) .no)) (.ret (.inr (.ret, stOf [1, 3, 8, 9, 13, 14] [.int .i64 at_, .int .u16 k, .str [], .int .i64 2, .int .i64 end_, .str d] [])))) .no)) (.br (ps.getD i.toNat (Ty.dflt (Ty.int .i64)) == (-3 : Int)) (.br (ps.getD i.toNat (Ty.dflt (Ty.int .i64)) == (-1 : Int)) (.br (bigS s) (.br (tkE (Q4 s at_ at_ (-1 : Int) []) != 0) (.ret (.inr (.ret, stOf [1, 3, 8, 9, 13, 14] [.int .i64 at_, .int .u16 k, .str [], .int .i64 2, .int .i64 end_, .str d] []))) (.br (decide (tkN (Q4 s at_ at_ (-1 : Int) []) > end_)) (.ret (.inr (.ret, stOf [1, 3, 8, 9, 13, 14] [.int .i64 at_, .int .u16 k, .str [], .int .i64 2, .int .i64 end_, .str d] []))) (.br (Nat.ble (List.length d + List.length (tkS (Q4 s at_ at_ (-1 : Int) []))) 9223372036854775807) (.ret (.inl (stOf [0, 1, 3, 13, 14, 39, 40, 41] [.str s, .int .i64 (tkN (Q4 s at_ at_ (-1 : Int) [])), .int .u16 k, .int .i64 end_, .str (d ++ tkS (Q4 s at_ at_ (-1 : Int) [])), .list (.int .i64) ps, .int .i64 n, .int .i64 (IntKind.wrap .i64 (i + 1))] []))) .no))) .no) (.br (bigS s) (.br (Q1 s at_ (IntKind.wrap .i64 (end_ - at_))) (.br (decide (at_ + IntKind.wrap .i64 (end_ - at_) > end_)) (.ret (.inr (.ret, stOf [1, 3, 8, 9, 13, 14] [.int .i64 at_, .int .u16 k, .str [], .int .i64 2, .int .i64 end_, .str d] []))) (.br (Nat.ble (List.length d + List.length (U1 s at_ (IntKind.wrap .i64 (end_ - at_)))) 9223372036854775807) (.ret (.inl (stOf [0, 1, 3, 13, 14, 39, 40, 41] [.str s, .int .i64 (at_ + IntKind.wrap .i64 (end_ - at_)), .int .u16 k, .int .i64 end_, .str (d ++ U1 s at_ (IntKind.wrap .i64 (end_ - at_))), .list (.int .i64) ps, .int .i64 n, .int .i64 (IntKind.wrap .i64 (i + 1))] []))) .no)) (.ret (.inr (.ret, stOf [1, 3, 8, 9, 13, 14] [.int .i64 at_, .int .u16 k, .str [], .int .i64 2, .int .i64 end_, .str d] [])))) .no)) (.br (ps.getD i.toNat (Ty.dflt (Ty.int .i64)) == (-1 : Int)) (.br (bigS s) (.br (tkE (Q4 s at_ at_ (-1 : Int) []) != 0) (.ret (.inr (.ret, stOf [1, 3, 8, 9, 13, 14] [.int .i64 at_, .int .u16 k, .str [], .int .i64 2, .int .i64 end_, .str d] []))) (.br (decide (tkN (Q4 s at_ at_ (-1 : Int) []) > end_)) (.ret (.inr (.ret, stOf [1, 3, 8, 9, 13, 14] [.int .i64 at_, .int .u16 k, .str [], .int .i64 2, .int .i64 end_, .str d] []))) (.br (Nat.ble (List.length d + List.length (tkS (Q4 s at_ at_ (-1 : Int) []))) 9223372036854775807) (.ret (.inl (stOf [0, 1, 3, 13, 14, 39, 40, 41] [.str s, .int .i64 (tkN (Q4 s at_ at_ (-1 : Int) [])), .int .u16 k, .int .i64 end_, .str (d ++ tkS (Q4 s at_ at_ (-1 : Int) [])), .list (.int .i64) ps, .int .i64 n, .int .i64 (IntKind.wrap .i64 (i + 1))] []))) .no))) .no) (.br (bigS s) (.br (Q1 s at_ (ps.getD i.toNat (Ty.dflt (Ty.int .i64)))) (.br (decide (at_ + List.getD ps i.toNat (Ty.dflt (Ty.int .i64)) > end_)) (.ret (.inr (.ret, stOf [1, 3, 8, 9, 13, 14] [.int .i64 at_, .int .u16 k, .str [], .int .i64 2, .int .i64 end_, .str d] []))) (.br (Nat.ble (List.length d + List.length (U1 s at_ (ps.getD i.toNat (Ty.dflt (Ty.int .i64))))) 9223372036854775807) (.ret (.inl (stOf [0, 1, 3, 13, 14, 39, 40, 41] [.str s, .int .i64 (at_ + List.getD ps i.toNat (Ty.dflt (Ty.int .i64))), .int .u16 k, .int .i64 end_, .str (d ++ U1 s at_ (ps.getD i.toNat (Ty.dflt (Ty.int .i64)))), .list (.int .i64) ps, .int .i64 n, .int .i64 (IntKind.wrap .i64 (i + 1))] []))) .no)) (.ret (.inr (.ret, stOf [1, 3, 8, 9, 13, 14] [.int .i64 at_, .int .u16 k, .str [], .int .i64 2, .int .i64 end_, .str d] [])))) .no)))) .no) .no) (.ret (.inr (.exit 0, stOf [1, 3, 8, 9, 13, 14] [.int .i64 at_, .int .u16 k, .dead, .dead, .int .i64 end_, .str d] [])))
theorem U46 (lp : Lp) (s : List UInt8) (at_ k end_ : Int) (d : List UInt8) (ps : List Int) (n i : Int) : evC T0 (orcB [Zf, J01, Qf, Q02] []) lp b89 0 (stOf [0, 1, 3, 13, 14, 39, 40, 41] [.str s, .int .i64 at_, .int .u16 k, .int .i64 end_, .str d, .list (.int .i64) ps, .int .i64 n, .int .i64 i] []) (Z1 [0, 1, 3, 13, 14, 39, 40, 41] [1, 3, 8, 9, 13, 14] 0) = (r89 s at_ k end_ d ps n i).get := by kernel_rfl
theorem wf89 (s : List UInt8) (k end_ : Int) (ps : List Int) (n : Int) (I'' : Int → List UInt8 → Int → Prop) (m'' : Int → List UInt8 → Int → Nat) (r'' : Ex × St) (h : ∀ (at_ : Int) (d : List UInt8) (i : Int), I'' at_ d i → (r89 s at_ k end_ d ps n i).all fun x'' => x'' = .inr r'' ∨ ∃ (at_' : Int) (d' : List UInt8) (i' : Int), x'' = .inl (stOf [0, 1, 3, 13, 14, 39, 40, 41] [.str s, .int .i64 at_', .int .u16 k, .int .i64 end_, .str d', .list (.int .i64) ps, .int .i64 n, .int .i64 i'] []) ∧ I'' at_' d' i' ∧ m'' at_' d' i' < m'' at_ d i) (lp : Lp) (at_ : Int) (d : List UInt8) (i : Int) : I'' at_ d i →
    Z3 (fun st => evC T0 (orcB [Zf, J01, Qf, Q02] []) lp b89 0 st (Z1 [0, 1, 3, 13, 14, 39, 40, 41] [1, 3, 8, 9, 13, 14] 0)) (stOf [0, 1, 3, 13, 14, 39, 40, 41] [.str s, .int .i64 at_, .int .u16 k, .int .i64 end_, .str d, .list (.int .i64) ps, .int .i64 n, .int .i64 i] []) = some r'' :=
 Z6 (fun a'' : Int × List UInt8 × Int => stOf [0, 1, 3, 13, 14, 39, 40, 41] [.str s, .int .i64 a''.1, .int .u16 k, .int .i64 end_, .str a''.2.1, .list (.int .i64) ps, .int .i64 n, .int .i64 a''.2.2] []) (fun a'' => I'' a''.1 a''.2.1 a''.2.2) (fun a'' => m'' a''.1 a''.2.1 a''.2.2) r'' (fun a'' => r89 s a''.1 k end_ a''.2.1 ps n a''.2.2)
  (fun a'' x hx => (U46 lp s a''.1 k end_ a''.2.1 ps n a''.2.2).trans hx) (fun a'' ha => Tr.all_mono (fun x'' hx => hx.imp id fun ⟨at_', d', i', h1, h2, h3⟩ => ⟨(at_', d', i'), h1, h2, h3⟩) (h (a''.1) (a''.2.1) (a''.2.2) ha)) (at_, d, i)
def X39 (ps0 : List Int) (s : List UInt8) (a0 e : Int) (a : Int) (d : List UInt8) (i : Int) : Prop := 0 ≤ i ∧ i ≤ ps0.length ∧ 0 ≤ a ∧ a ≤ e ∧ (d.length : Int) ≤ 200000000 * i ∧ U5 (ps0.drop i.toNat) s a e d = U5 ps0 s a0 e []
theorem U4p : ls89.Ok T0 (orcB [Zf, J01, Qf, Q02] []) h89 0 0 b89 := by
 intro q'' hq'' x'' y'' r'' h
 obtain ⟨(s : List UInt8), (at_ : Int), (k : Int), (end_ : Int), (d : List UInt8), (ps : List Int), (n : Int), (i : Int), _⟩ := x''
 obtain ⟨hc, rfl⟩ := Tr.get_on2 h
 show Z3 (fun st => evC T0 (orcB [Zf, J01, Qf, Q02] []) (lpN T0 (orcB [Zf, J01, Qf, Q02] []) h89 0 q'') b89 0 st (Z1 [0, 1, 3, 13, 14, 39, 40, 41] [1, 3, 8, 9, 13, 14] 0)) (stOf [0, 1, 3, 13, 14, 39, 40, 41] [.str s, .int .i64 at_, .int .u16 k, .int .i64 end_, .str d, .list (.int .i64) ps, .int .i64 n, .int .i64 i] []) = some ((bif (U5 ps s at_ end_ d).1 then (.exit 0, [.int .i64 (U5 ps s at_ end_ d).2.1, .int .u16 k, .dead, .dead, .int .i64 end_, .str (U5 ps s at_ end_ d).2.2], []) else (.ret, [.int .i64 (U5 ps s at_ end_ d).2.1, .int .u16 k, .str [], .int .i64 2, .int .i64 end_, .str (U5 ps s at_ end_ d).2.2], []) : Ex × List AV × List LObj).1, stOf [1, 3, 8, 9, 13, 14] (bif (U5 ps s at_ end_ d).1 then (.exit 0, [.int .i64 (U5 ps s at_ end_ d).2.1, .int .u16 k, .dead, .dead, .int .i64 end_, .str (U5 ps s at_ end_ d).2.2], []) else (.ret, [.int .i64 (U5 ps s at_ end_ d).2.1, .int .u16 k, .str [], .int .i64 2, .int .i64 end_, .str (U5 ps s at_ end_ d).2.2], []) : Ex × List AV × List LObj).2.1 (bif (U5 ps s at_ end_ d).1 then (.exit 0, [.int .i64 (U5 ps s at_ end_ d).2.1, .int .u16 k, .dead, .dead, .int .i64 end_, .str (U5 ps s at_ end_ d).2.2], []) else (.ret, [.int .i64 (U5 ps s at_ end_ d).2.1, .int .u16 k, .str [], .int .i64 2, .int .i64 end_, .str (U5 ps s at_ end_ d).2.2], []) : Ex × List AV × List LObj).2.2)
 simp only [J2e, Bool.and_eq_true, decide_eq_true_eq, noT, List.isEmpty_iff] at hc
 obtain ⟨hb, rfl, rfl, ha0, hae, hes, rfl, hps⟩ := hc
 refine wf89 s k end_ ps _ (X39 ps s at_ end_) (fun _ _ i => (ps.length - i).toNat) _ ?_ _ at_ [] 0 ⟨by omega, by omega, ha0, hae, by simp, rfl⟩
 clear ha0 hae
 rintro a d i ⟨h0, h1, ha, hae, hdl, hF⟩
 rw [← hF]
 have hB : s.length ≤ 100000000 := by simpa [smS] using hb
 have hbig : bigS s = true := by simp [bigS]; omega
 unfold r89
 by_cases hi : i < ps.length
 · obtain ⟨d1, _⟩ := Js (Ty.dflt (Ty.int .i64)) h0 hi
   generalize List.getD ps (Int.toNat i) (Ty.dflt (Ty.int .i64)) = x at d1
   rw [d1, U5] at hF ⊢
   rw [IntWalk.i64_in (i + 1) (by omega), IntWalk.i64_in (end_ - a) (by omega)]
   refine Tr.all_t (X0 hi) (Tr.all_t (X0 h0) (Tr.all_t (X0 hi) ?_))
   by_cases x1 : x = -1
   · rw [if_pos x1] at hF ⊢
     refine Tr.all_f (beq_eq_false_iff_ne.2 (by omega)) (Tr.all_f (beq_eq_false_iff_ne.2 (by omega)) (Tr.all_t (beq_iff_eq.2 x1) (Tr.all_t hbig ?_)))
     cases ho : Q4 s a a (-1) [] with
     | none => exact Tr.all_t rfl (Tr.all_ret (.inl rfl))
     | some q =>
       obtain ⟨n, next⟩ := q
       obtain ⟨p1, p2, p3⟩ := J0d ha ho
       have hn := (Up.1 p1).2.1
       rw [ho] at hF
       simp only at hF ⊢
       refine Tr.all_f rfl (Tr.all_br (fun c => Tr.all_ret (.inl ?_)) fun c => Tr.all_t ?_ (Tr.all_ret (.inr ?_)))
       · have c' : next > end_ := of_decide_eq_true c
         rw [if_pos c']
         rfl
       · simp only [tkS]
         exact Nat.ble_eq_true_of_le (by omega)
       · have c' : ¬ next > end_ := of_decide_eq_false c
         rw [if_neg c'] at hF
         exact ⟨_, _, _, rfl, ⟨by omega, by omega, by simp only [tkN]; omega, by simp only [tkN]; omega, by simp only [tkS, List.length_append]; omega, hF⟩, by omega⟩
   · rw [if_neg x1] at hF ⊢
     have hx1 : (x == -1) = false := beq_eq_false_iff_ne.2 x1
     have key : ∀ sz : Int, (if x = -2 ∨ x = -3 then end_ - a else x) = sz → (Q1 s a sz = true ∧ a + sz ≤ end_ → X39 ps s at_ end_ (a + sz) (d ++ U1 s a sz) (i + 1)) ∧ (Nat.ble (d.length + (U1 s a sz).length) 9223372036854775807 = true) := fun sz hs => by
      rw [hs] at hF
      have hvl : (U1 s a sz).length ≤ s.length := by unfold U1; rw [List.length_take, List.length_drop]; omega
      refine ⟨fun hh => ?_, Nat.ble_eq_true_of_le (by omega)⟩
      rw [if_pos hh] at hF
      have := Xa.1 hh.1
      exact ⟨by omega, by omega, by omega, hh.2, by rw [List.length_append]; omega, hF⟩
     have half : ∀ sz : Int, (if x = -2 ∨ x = -3 then end_ - a else x) = sz → (Tr.br (bigS s) (Tr.br (Q1 s a sz) (Tr.br (decide (a + sz > end_)) (Tr.ret (Sum.inr (Ex.ret, stOf [1, 3, 8, 9, 13, 14] [AV.int .i64 a, AV.int .u16 k, AV.str [], AV.int .i64 (2 : Int), AV.int .i64 end_, AV.str d] []))) (Tr.br (Nat.ble (List.length d + List.length (U1 s a sz)) 9223372036854775807) (Tr.ret (Sum.inl (stOf [0, 1, 3, 13, 14, 39, 40, 41] [AV.str s, AV.int .i64 (a + sz), AV.int .u16 k, AV.int .i64 end_, AV.str (d ++ U1 s a sz), AV.list (Ty.int .i64) ps, AV.int .i64 ps.length, AV.int .i64 (i + 1)] []))) Tr.no)) (Tr.ret (Sum.inr (Ex.ret, stOf [1, 3, 8, 9, 13, 14] [AV.int .i64 a, AV.int .u16 k, AV.str [], AV.int .i64 (2 : Int), AV.int .i64 end_, AV.str d] [])))) Tr.no).all
         fun x'' => x'' = .inr ((bif (if Q1 s a sz = true ∧ a + sz ≤ end_ then U5 (ps.drop (i + 1).toNat) s (a + sz) end_ (d ++ U1 s a sz) else (false, a, d)).1 then (Ex.exit 0, [.int .i64 (if Q1 s a sz = true ∧ a + sz ≤ end_ then U5 (ps.drop (i + 1).toNat) s (a + sz) end_ (d ++ U1 s a sz) else (false, a, d)).2.1, .int .u16 k, .dead, .dead, .int .i64 end_, .str (if Q1 s a sz = true ∧ a + sz ≤ end_ then U5 (ps.drop (i + 1).toNat) s (a + sz) end_ (d ++ U1 s a sz) else (false, a, d)).2.2], []) else (Ex.ret, [.int .i64 (if Q1 s a sz = true ∧ a + sz ≤ end_ then U5 (ps.drop (i + 1).toNat) s (a + sz) end_ (d ++ U1 s a sz) else (false, a, d)).2.1, .int .u16 k, .str [], .int .i64 2, .int .i64 end_, .str (if Q1 s a sz = true ∧ a + sz ≤ end_ then U5 (ps.drop (i + 1).toNat) s (a + sz) end_ (d ++ U1 s a sz) else (false, a, d)).2.2], []) : Ex × List AV × List LObj).1, stOf [1, 3, 8, 9, 13, 14] (bif (if Q1 s a sz = true ∧ a + sz ≤ end_ then U5 (ps.drop (i + 1).toNat) s (a + sz) end_ (d ++ U1 s a sz) else (false, a, d)).1 then (Ex.exit 0, [.int .i64 (if Q1 s a sz = true ∧ a + sz ≤ end_ then U5 (ps.drop (i + 1).toNat) s (a + sz) end_ (d ++ U1 s a sz) else (false, a, d)).2.1, .int .u16 k, .dead, .dead, .int .i64 end_, .str (if Q1 s a sz = true ∧ a + sz ≤ end_ then U5 (ps.drop (i + 1).toNat) s (a + sz) end_ (d ++ U1 s a sz) else (false, a, d)).2.2], []) else (Ex.ret, [.int .i64 (if Q1 s a sz = true ∧ a + sz ≤ end_ then U5 (ps.drop (i + 1).toNat) s (a + sz) end_ (d ++ U1 s a sz) else (false, a, d)).2.1, .int .u16 k, .str [], .int .i64 2, .int .i64 end_, .str (if Q1 s a sz = true ∧ a + sz ≤ end_ then U5 (ps.drop (i + 1).toNat) s (a + sz) end_ (d ++ U1 s a sz) else (false, a, d)).2.2], []) : Ex × List AV × List LObj).2.1 (bif (if Q1 s a sz = true ∧ a + sz ≤ end_ then U5 (ps.drop (i + 1).toNat) s (a + sz) end_ (d ++ U1 s a sz) else (false, a, d)).1 then (Ex.exit 0, [.int .i64 (if Q1 s a sz = true ∧ a + sz ≤ end_ then U5 (ps.drop (i + 1).toNat) s (a + sz) end_ (d ++ U1 s a sz) else (false, a, d)).2.1, .int .u16 k, .dead, .dead, .int .i64 end_, .str (if Q1 s a sz = true ∧ a + sz ≤ end_ then U5 (ps.drop (i + 1).toNat) s (a + sz) end_ (d ++ U1 s a sz) else (false, a, d)).2.2], []) else (Ex.ret, [.int .i64 (if Q1 s a sz = true ∧ a + sz ≤ end_ then U5 (ps.drop (i + 1).toNat) s (a + sz) end_ (d ++ U1 s a sz) else (false, a, d)).2.1, .int .u16 k, .str [], .int .i64 2, .int .i64 end_, .str (if Q1 s a sz = true ∧ a + sz ≤ end_ then U5 (ps.drop (i + 1).toNat) s (a + sz) end_ (d ++ U1 s a sz) else (false, a, d)).2.2], []) : Ex × List AV × List LObj).2.2) ∨
          ∃ at' d' i', x'' = .inl (stOf [0, 1, 3, 13, 14, 39, 40, 41] [AV.str s, AV.int .i64 at', AV.int .u16 k, AV.int .i64 end_, AV.str d', AV.list (Ty.int .i64) ps, AV.int .i64 ps.length, AV.int .i64 i'] []) ∧ X39 ps s at_ end_ at' d' i' ∧ (ps.length - i').toNat < (ps.length - i).toNat := fun sz hs => by
      obtain ⟨k1, k2⟩ := key sz hs
      refine Tr.all_t hbig (Tr.all_br (fun c1 => Tr.all_br (fun c2 => Tr.all_ret (.inl ?_)) fun c2 => Tr.all_t k2 (Tr.all_ret (.inr ⟨_, _, _, rfl, k1 ⟨c1, ?_⟩, by omega⟩))) fun c1 => Tr.all_ret (.inl ?_))
      · simp only [decide_eq_true_eq] at c2
        rw [if_neg (by omega)]
        rfl
      · simp only [decide_eq_false_iff_not] at c2
        omega
      · rw [if_neg (by rw [c1]; simp)]
        rfl
     by_cases x2 : x = -2
     · rw [if_pos (Or.inl x2)]
       exact Tr.all_t (beq_iff_eq.2 x2) (Tr.all_f hx1 (half _ (if_pos (Or.inl x2))))
     · by_cases x3 : x = -3
       · rw [if_pos (Or.inr x3)]
         exact Tr.all_f (beq_eq_false_iff_ne.2 x2) (Tr.all_t (beq_iff_eq.2 x3) (Tr.all_f hx1 (half _ (if_pos (Or.inr x3)))))
       · have hne : ¬ (x = -2 ∨ x = -3) := by omega
         rw [if_neg hne]
         exact Tr.all_f (beq_eq_false_iff_ne.2 x2) (Tr.all_f (beq_eq_false_iff_ne.2 x3) (Tr.all_f hx1 (half _ (if_neg hne))))
 · refine Tr.all_f (U0 hi) (Tr.all_ret (.inl ?_))
   rw [List.drop_eq_nil_of_le (by omega)]
   rfl
def t89 (s : List UInt8) (at_ many k : Int) : Tr Res := .br (bigS s) (.br (Q1 s at_ many) (.br (J2e s at_ (IntKind.wrap .i64 (at_ + many)) ([]) (layV k) (↑(List.length (layV k)) : Int) 0) (.br (U5 (layV k) s at_ (IntKind.wrap .i64 (at_ + many)) ([])).1 (.br ((U5 (layV k) s at_ (IntKind.wrap .i64 (at_ + many)) ([])).2.1 != IntKind.wrap .i64 (at_ + many)) (.ret ([.str [], .int .i64 2], [])) (.br (bigS (U5 (layV k) s at_ (IntKind.wrap .i64 (at_ + many)) ([])).2.2) (.br (!mayR k (U5 (layV k) s at_ (IntKind.wrap .i64 (at_ + many)) ([])).2.2) (.ret ([.str [], .int .i64 2], [])) (.ret ([.str (U5 (layV k) s at_ (IntKind.wrap .i64 (at_ + many)) ([])).2.2, .int .i64 0], []))) .no)) (.ret ([.str [], .int .i64 2], []))) .no) (.ret ([.str [], .int .i64 2], []))) .no
def os89 : OSpec := { f := 89, sh := [.d .str false, .d (.int .i64) false, .d (.int .i64) false, .d (.int .u16) false], so := [], F := fun (s, at_, many, k, _) _ => t89 s at_ many k }
theorem fn89 (s : List UInt8) (at_ many k : Int) : evC T0 (orcB [Zf, J01, Qf, Q02] []) (lpOf h89 0 (lsOf [ls89])) c89 1000000 (V1 [.str s, .int .i64 at_, .int .i64 many, .int .u16 k] [] Try.f89.ntmps) (J1 T0 false 0 Try.f89) = (t89 s at_ many k).get := by kernel_rfl
theorem ok89 : os89.Ok Try.prog := by
 refine V3 X2 tab0 (V0 (all_cons U15 (all_cons Z1y (all_cons X0o (all_cons Q14 all_nil)))) all_nil) h89 (d := 0) (n0 := 0) (S := lsOf [ls89]) Try.func89 (by kernel_rfl) (c := c89) (by kernel_rfl) rfl (Q5 (xs := [(0, b89)]) (by kernel_rfl) (all_cons (J7 U4p) all_nil)) (by omega) (by kernel_rfl) ?_
 intro x'' y'' q'' hq''
 obtain ⟨(s : List UInt8), (at_ : Int), (many : Int), (k : Int), _⟩ := x''
 exact (fn89 s at_ many k).trans hq''
def fs89 : FSpec := fsT 89 [(.str, false), ((.int .i64), false), ((.int .i64), false), ((.int .u16), false)] [(.str, false), ((.int .i64), false)] fun (s, at_, many, k, _) => t89 s at_ many k
theorem okf89 : fs89.Ok Try.prog := V6 fun x'' r'' hr'' => ok89 x'' () r'' hr''
theorem J1g : ∀ (ps : List Int) (d : List UInt8) (out : List (List UInt8)), (cutS ps d out).1 = true → ∃ l, (cutS ps d out).2.2 = out ++ l ∧ l.length = ps.length ∧ (∀ x ∈ l, x.length ≤ d.length) ∧ l.flatten ++ (cutS ps d out).2.1 = d
 | [], d, out, _ => ⟨[], by simp [cutS]⟩
 | p :: ps, d, out, h => by
   unfold cutS at h ⊢
   by_cases ho : okP p d = true
   · rw [if_pos ho] at h ⊢
     obtain ⟨l, h1, h2, h3, h4⟩ := J1g ps _ _ h
     refine ⟨d.take (szP p d).toNat :: l, by rw [h1, List.append_assoc]; rfl, by simp [h2], fun x hx => ?_, ?_⟩
     · rcases List.mem_cons.1 hx with rfl | hx
       · rw [List.length_take]; omega
       · have := h3 x hx
         rw [List.length_drop] at this
         omega
     · rw [List.flatten_cons, List.append_assoc, h4, List.take_append_drop]
   · rw [if_neg ho] at h
     cases h
theorem Q0w {k : Int} {d : List UInt8} (h : mayR k d = true) : okV k d = true ∧ U1n k d = [] ∧ d.length ≤ 65535 ∧ (Xr k d).length = (layV k).length ∧ (∀ x ∈ Xr k d, x.length ≤ d.length) ∧ (Xr k d).flatten = d := by
 unfold mayR at h
 simp only [Bool.and_eq_true, List.isEmpty_iff] at h
 obtain ⟨⟨h1, h2⟩, h3⟩ := h
 obtain ⟨l, a1, a2, a3, a4⟩ := J1g (layV k) d [] h1
 have a1 : Xr k d = l := a1
 have h2' : (cutS (layV k) d []).2.1 = [] := h2
 rw [h2', List.append_nil] at a4
 exact ⟨h1, h2, Nat.le_of_ble_eq_true h3, by rw [a1, a2], by rw [a1]; exact a3, by rw [a1, a4]⟩
theorem V2x {s : List UInt8} {a n k : Int} {d : List UInt8} (h : U01 s a n k = some d) : mayR k d = true ∧ Q1 s a n = true ∧ (U5 (layV k) s a (a + n) []).1 = true ∧ (U5 (layV k) s a (a + n) []).2.1 = a + n ∧ d = (U5 (layV k) s a (a + n) []).2.2 := by
 unfold U01 at h
 by_cases h1 : Q1 s a n = true
 · rw [if_pos h1] at h
   by_cases h2 : (U5 (layV k) s a (a + n) []).1 = true ∧ (U5 (layV k) s a (a + n) []).2.1 = a + n ∧ mayR k (U5 (layV k) s a (a + n) []).2.2 = true
   · rw [if_pos h2] at h
     cases h
     exact ⟨h2.2.2, h1, h2.1, h2.2.1, rfl⟩
   · rw [if_neg h2] at h; cases h
 · rw [if_neg h1] at h; cases h
def U3q : OSpec := V4d.like fun (k, d, _) (_, b, m, _) => .br (pkT b m && Nat.ble d.length 1000000) (.br (mayR k d) (.ret ([.int .i64 0], pkO (J0 (putR k d (Z0 b, m)).1) (putR k d (Z0 b, m)).2)) (.ret ([.int .i64 1], pkO b m))) .no
theorem X4q : U3q.Ok Try.prog := by
 refine Uh ok142 _ ?_
 rintro ⟨(k : Int), (d : List UInt8), _⟩ ⟨_, (b : List Int), (m : V7), _⟩ r h
 simp only [Tr.get] at h
 cases hc : (pkT b m && Nat.ble d.length 1000000) with
 | false => rw [hc] at h; cases h
 | true =>
   rw [hc, cond_true] at h
   simp only [pkT, Bool.and_eq_true] at hc
   obtain ⟨⟨hok, hk, hb⟩, hd⟩ := hc
   have hd := Nat.le_of_ble_eq_true hd
   refine Tr.get_of_all ?_
   show (t142 k d b m).all _
   unfold t142
   have hbig : bigS d = true := by simp [bigS]; omega
   cases hm : mayR k d with
   | false =>
     rw [hm, cond_false] at h
     cases h
     exact Tr.all_t hbig (Tr.all_t rfl (Tr.all_ret rfl))
   | true =>
     rw [hm, cond_true] at h
     cases h
     obtain ⟨h1, h2, h3, h4, h5, h6⟩ := Q0w hm
     have hl := Z1c k
     rw [h1, cond_true]
     refine Tr.all_t hbig (Tr.all_f rfl (Tr.all_t hbig (Tr.all_t ?_ (Tr.all_ret rfl))))
     unfold putC
     rw [hok, hk, hb, X0 rfl, X0 rfl, X0 h4, X0 hl]
     simp only [Bool.true_and, List.all_eq_true, decide_eq_true_eq]
     exact fun x hx => by have := h5 x hx; omega
def J39 : FSpec := fs89.like fun (s, a, n, k, _) => .on (smS s) ((U01 s a n k).getD [], if (U01 s a n k).isSome then (0 : Int) else 2, ())
theorem Z0e : ∀ (ps : List Int) (s : List UInt8) (a e : Int) (d : List UInt8), 0 ≤ a → s.length ≤ 100000000 → (U5 ps s a e d).2.2.length ≤ d.length + 200000000 * ps.length
 | [], s, a, e, d, _, _ => by simp [U5]
 | x :: ps, s, a, e, d, h0, hs => by
   unfold U5
   by_cases h1 : x = -1
   · rw [if_pos h1]
     cases ho : Q4 s a a (-1) [] with
     | none => exact Nat.le_add_right _ _
     | some q =>
       obtain ⟨n, next⟩ := q
       obtain ⟨p1, p2, p3⟩ := J0d h0 ho
       have hn := (Up.1 p1).2.1
       simp only
       by_cases hn2 : next > e
       · rw [if_pos hn2]
         exact Nat.le_add_right _ _
       · rw [if_neg hn2]
         have := Z0e ps s next e (d ++ n) (by omega) hs
         rw [List.length_append] at this
         simp only [List.length_cons]
         omega
   · rw [if_neg h1]
     generalize (if x = -2 ∨ x = -3 then e - a else x) = sz
     by_cases hh : Q1 s a sz = true ∧ a + sz ≤ e
     · rw [if_pos hh]
       have := Xa.1 hh.1
       have hvl : (U1 s a sz).length ≤ s.length := by unfold U1; rw [List.length_take, List.length_drop]; omega
       have := Z0e ps s (a + sz) e (d ++ U1 s a sz) (by omega) hs
       rw [List.length_append] at this
       simp only [List.length_cons]
       omega
     · rw [if_neg hh]
       exact Nat.le_add_right _ _
theorem V3g : J39.Ok Try.prog := by
 refine U3 okf89 _ ?_
 rintro ⟨(s : List UInt8), (a : Int), (n : Int), (k : Int), _⟩ y h
 obtain ⟨hb, rfl⟩ := Tr.get_on h
 refine J3 (vs := [.str ((U01 s a n k).getD []), .int .i64 (if (U01 s a n k).isSome then 0 else 2)]) rfl rfl (Tr.get_of_all ?_)
 show (t89 s a n k).all _
 unfold t89 U01
 have hB : s.length ≤ 100000000 := by simpa [smS] using hb
 have hbig : bigS s = true := by simp [bigS]; omega
 have hl := Z1c k
 refine Tr.all_t hbig ?_
 cases h1 : Q1 s a n with
 | false =>
   rw [if_neg Bool.false_ne_true]
   exact Tr.all_f rfl (Tr.all_ret rfl)
 | true =>
   have hs := Xa.1 h1
   have hw : IntKind.wrap .i64 (a + n) = a + n := IntWalk.i64_in _ (by omega)
   have hd := Z0e (layV k) s a (a + n) [] hs.1 hB
   rw [hw, if_pos rfl]
   have hc : J2e s a (a + n) [] (layV k) (layV k).length 0 = true := by
    unfold J2e noT
    rw [hb, X0 rfl, X0 rfl, X0 hs.1, X0 (show a ≤ a + n by omega), X0 (show a + n ≤ (s.length : Int) by omega), X0 hl]
    rfl
   generalize U5 (layV k) s a (a + n) [] = t at hd
   obtain ⟨ok, at', d⟩ := t
   have hbd : bigS d = true := by
    have : d.length ≤ ([] : List UInt8).length + 200000000 * (layV k).length := hd
    simp [bigS] at this ⊢
    omega
   refine Tr.all_t rfl (Tr.all_t hc (Tr.all_br (fun c1 => Tr.all_br (fun c2 => Tr.all_ret ?_) fun c2 => Tr.all_t hbd (Tr.all_br (fun c3 => Tr.all_ret ?_) fun c3 => Tr.all_ret ?_)) fun c1 => Tr.all_ret ?_))
   · have hne : at' ≠ a + n := by simpa using c2
     rw [if_neg (fun h => hne h.2.1)]
     rfl
   · rw [Bool.not_eq_true'] at c3
     rw [if_neg (fun h => by rw [show mayR k d = false from c3] at h; exact Bool.false_ne_true h.2.2)]
     rfl
   · rw [Bool.not_eq_false'] at c3
     have he : at' = a + n := by simpa using c2
     rw [if_pos ⟨c1, he, c3⟩]
     rfl
   · rw [if_neg (fun h => by rw [show ok = false from c1] at h; exact Bool.false_ne_true h.1)]
     rfl
theorem Qw {n : List UInt8} (h : n.length ≤ 1000000000000) : bigS n = true := by simp [bigS]; omega
theorem Jk {α : Type} {l : List α} {k : Nat} (h : k < l.length) (x : α) : l.drop k = l.getD k x :: l.drop (k + 1) := by
 rw [List.getD_eq_getElem?_getD, List.getElem?_eq_getElem h]
 exact List.drop_eq_getElem_cons h
abbrev RR : Ty := .pair .str (.pair (.int .u16) (.pair (.int .u16) (.pair (.int .u32) .str)))
abbrev RRt := List UInt8 × (Int × (Int × (Int × List UInt8)))
abbrev ZNt := List UInt8 × List RRt
abbrev QQ : Ty := .pair .str (.pair (.int .u16) (.int .u16))
abbrev QQt := List UInt8 × (Int × Int)
abbrev MG : Ty := .pair (.int .u16) (.pair .bool (.pair .bool (.pair .bool (.pair .bool (.pair .bool (.pair (.int .i64) (.pair (.int .i64) (.pair (.list QQ) (.pair (.list RR) (.pair (.list RR) (.list RR)))))))))))
abbrev MGt := Int × (Bool × (Bool × (Bool × (Bool × (Bool × (Int × (Int × (List QQt × (List RRt × (List RRt × List RRt))))))))))
instance decRR : DecidableEq RRt := inferInstance
instance decLRR : DecidableEq (List RRt) := inferInstance
instance decZN : DecidableEq ZNt := inferInstanceAs (DecidableEq (List UInt8 × List RRt))
instance decLZN : DecidableEq (List ZNt) := inferInstance
theorem J36 {n : Nat} (hn : n < 16777216) (c : UInt8) : J1q n c = ((n * 256 + c.toNat : Nat) : Int) := by
 have hc := c.toNat_lt
 have e1 : ((n : Int) * (2 : Int) ^ min (Int.toNat (8 : Int)) (IntKind.bits IntKind.u32)) = ((n * 256 : Nat) : Int) := by
  simp [IntKind.bits]
 unfold J1q
 rw [e1, IntWalk.u32_in ((n * 256 : Nat) : Int) (by omega), IntWalk.u32_in ((c.toNat : Nat) : Int) (by omega)]
 have e3 : BitVec.toNat (BitVec.ofInt (IntKind.bits IntKind.u32) ((n * 256 : Nat) : Int) ||| BitVec.ofInt (IntKind.bits IntKind.u32) ((c.toNat : Nat) : Int)) = n * 256 + c.toNat := by
  show BitVec.toNat (BitVec.ofInt 32 ((n * 256 : Nat) : Int) ||| BitVec.ofInt 32 ((c.toNat : Nat) : Int)) = _
  rw [BitVec.ofInt_natCast, BitVec.ofInt_natCast, BitVec.toNat_or, BitVec.toNat_ofNat, BitVec.toNat_ofNat, Nat.mod_eq_of_lt (by omega), Nat.mod_eq_of_lt (by omega)]
  have := Nat.shiftLeft_add_eq_or_of_lt (a := n) (b := c.toNat) (i := 8) (by omega)
  rw [Nat.shiftLeft_eq] at this
  exact this.symm
 rw [e3, IntWalk.u32_in _ (by omega)]
def numN (b : List UInt8) : Nat := b.foldl (fun n c => n * 256 + c.toNat) 0
theorem Z1l (b : List UInt8) (c : UInt8) : numN (b ++ [c]) = numN b * 256 + c.toNat := by unfold numN; rw [List.foldl_append]; rfl
theorem U42 : ∀ (b : List UInt8), numN b < 256 ^ b.length := by
 intro b
 have h : ∀ m (b : List UInt8), b.length = m → numN b < 256 ^ m := by
  intro m
  induction m with
  | zero => intro b hb; rw [List.length_eq_zero_iff.1 hb]; simp [numN]
  | succ m ih =>
    intro b hb
    have hne : b ≠ [] := fun e => by rw [e] at hb; simp at hb
    rw [← List.dropLast_concat_getLast hne, Z1l]
    have h1 := ih b.dropLast (by rw [List.length_dropLast]; omega)
    have h2 := (b.getLast hne).toNat_lt
    rw [Nat.pow_succ]
    omega
 exact h _ b rfl
def nbC4 (b : List UInt8) (n len i : Int) : Bool := decide (n = 0) && (decide (i = 0) && (decide (len = b.length) && decide (b.length ≤ 4)))
theorem X3s {b : List UInt8} {i : Nat} (hi : i < b.length) (h4 : b.length ≤ 4) : J1q (numB (b.take i)) (b.getD i 0) = numB (b.take (i + 1)) := by
 have hl := U42 (b.take i)
 rw [List.length_take, Nat.min_eq_left (by omega)] at hl
 have hp : 256 ^ i ≤ 256 ^ 3 := Nat.pow_le_pow_right (by omega) (by omega)
 have e : numB (b.take i) = ((numN (b.take i) : Nat) : Int) := rfl
 have e2 : numB (b.take (i + 1)) = ((numN (b.take (i + 1)) : Nat) : Int) := rfl
 rw [e, e2, J36 (by omega), List.take_succ_eq_append_getElem hi, Z1l, List.getD_eq_getElem?_getD, List.getElem?_eq_getElem hi]
 rfl
noncomputable def b115 : Code := Z5 c115 0
def X3g : LoopSpec := { bid := 0, sh := [.d .str false, .d (.int .i64) false, .d (.int .i64) false, .d (.int .u32) false, .d (.int .i64) false, .d (.int .i64) false], so := [], F := fun (b, nx, e, n, len, i, _) _ => .on (nbC4 b n len i) (.exit 0, [.int .i64 nx, .int .i64 e, .int .u32 (numB b)], []) }
def r115 (b : List UInt8) (nx e n len i : Int) : Tr (St ⊕ (Ex × St)) := .br (decide (i < len)) (.br (decide (0 ≤ i)) (.br (decide (i < (↑b.length : Int))) (.ret (.inl (stOf [9, 10, 11, 12, 23, 24] [.str b, .int .i64 nx, .int .i64 e, .int .u32 (IntKind.wrap .u32 (↑(BitVec.toNat (BitVec.ofInt (IntKind.bits IntKind.u32) (IntKind.wrap .u32 (n * 2 ^ min (Int.toNat 8) (IntKind.bits IntKind.u32))) ||| BitVec.ofInt (IntKind.bits IntKind.u32) (IntKind.wrap .u32 (↑(UInt8.toNat (b.getD i.toNat 0)) : Int)))) : Int)), .int .i64 len, .int .i64 (IntKind.wrap .i64 (i + 1))] []))) .no) .no) (.ret (.inr (.exit 0, stOf [10, 11, 12] [.int .i64 nx, .int .i64 e, .int .u32 n] [])))
theorem U3m (orc : Orc) (lp : Lp) (b : List UInt8) (nx e n len i : Int) : evC T0 orc lp b115 0 (stOf [9, 10, 11, 12, 23, 24] [.str b, .int .i64 nx, .int .i64 e, .int .u32 n, .int .i64 len, .int .i64 i] []) (Z1 [9, 10, 11, 12, 23, 24] [10, 11, 12] 0) = (r115 b nx e n len i).get := by kernel_rfl
theorem wf115 (orc : Orc) (b : List UInt8) (nx e len : Int) (I'' : Int → Int → Prop) (m'' : Int → Int → Nat) (r'' : Ex × St) (h : ∀ (n i : Int), I'' n i → (r115 b nx e n len i).all fun x'' => x'' = .inr r'' ∨ ∃ (n' i' : Int), x'' = .inl (stOf [9, 10, 11, 12, 23, 24] [.str b, .int .i64 nx, .int .i64 e, .int .u32 n', .int .i64 len, .int .i64 i'] []) ∧ I'' n' i' ∧ m'' n' i' < m'' n i) (lp : Lp) (n i : Int) : I'' n i →
    Z3 (fun st => evC T0 orc lp b115 0 st (Z1 [9, 10, 11, 12, 23, 24] [10, 11, 12] 0)) (stOf [9, 10, 11, 12, 23, 24] [.str b, .int .i64 nx, .int .i64 e, .int .u32 n, .int .i64 len, .int .i64 i] []) = some r'' :=
 Z6 (fun a'' : Int × Int => stOf [9, 10, 11, 12, 23, 24] [.str b, .int .i64 nx, .int .i64 e, .int .u32 a''.1, .int .i64 len, .int .i64 a''.2] []) (fun a'' => I'' a''.1 a''.2) (fun a'' => m'' a''.1 a''.2) r'' (fun a'' => r115 b nx e a''.1 len a''.2)
  (fun a'' x hx => (U3m orc lp b nx e a''.1 len a''.2).trans hx) (fun a'' ha => Tr.all_mono (fun x'' hx => hx.imp id fun ⟨n', i', h1, h2, h3⟩ => ⟨(n', i'), h1, h2, h3⟩) (h (a''.1) (a''.2) ha)) (n, i)
theorem V44 (orc : Orc) : X3g.Ok T0 orc h115 0 0 b115 := by
 intro q'' hq'' x'' y'' r'' h
 obtain ⟨(b : List UInt8), (nx : Int), (e : Int), (n : Int), (len : Int), (i : Int), _⟩ := x''
 obtain ⟨hc, rfl⟩ := Tr.get_on h
 show Z3 (fun st => evC T0 orc (lpN T0 orc h115 0 q'') b115 0 st (Z1 [9, 10, 11, 12, 23, 24] [10, 11, 12] 0)) (stOf [9, 10, 11, 12, 23, 24] [.str b, .int .i64 nx, .int .i64 e, .int .u32 n, .int .i64 len, .int .i64 i] []) = some (.exit 0, stOf [10, 11, 12] ([.int .i64 nx, .int .i64 e, .int .u32 (numB b)]) ([]))
 simp only [nbC4, Bool.and_eq_true, decide_eq_true_eq] at hc
 obtain ⟨rfl, rfl, rfl, h2⟩ := hc
 refine wf115 _ b nx e b.length (nbI b) (fun _ i => (b.length - i).toNat) _ ?_ _ 0 0 ⟨by omega, by omega, by simp [numB]⟩
 rintro n i ⟨h0, h1, rfl⟩
 unfold r115
 by_cases hlt : i < b.length
 · refine Tr.all_t (X0 hlt) (Tr.all_t (X0 h0) (Tr.all_t (X0 hlt) (Tr.all_ret (.inr ⟨_, _, rfl, ?_, ?_⟩))))
   · rw [IntWalk.i64_in _ (by omega)]
     exact ⟨by omega, by omega, by rw [show (i + 1).toNat = i.toNat + 1 by omega]; exact X3s (by omega) h2⟩
   · rw [IntWalk.i64_in _ (by omega)]
     omega
 · refine Tr.all_f (U0 hlt) (Tr.all_ret (.inl ?_))
   rw [List.take_of_length_le (by omega)]
def t115 (s : List UInt8) (at_ many : Int) : Tr Res := .br (bigS s) (.br (Q1 s at_ many) (.br (nbC4 (U1 s at_ many) 0 (↑(List.length (U1 s at_ many)) : Int) 0) (.ret ([.int .u32 (numB (U1 s at_ many)), .int .i64 (at_ + many), .int .i64 0], [])) .no) (.ret ([.int .u32 (numB []), .int .i64 0, .int .i64 2], []))) .no
def os115 : OSpec := { f := 115, sh := [.d .str false, .d (.int .i64) false, .d (.int .i64) false], so := [], F := fun (s, at_, many, _) _ => t115 s at_ many }
theorem fn115 (s : List UInt8) (at_ many : Int) : evC T0 (orcB [Qf] []) (lpOf h115 0 (lsOf [X3g])) c115 1000000 (V1 [.str s, .int .i64 at_, .int .i64 many] [] Try.f115.ntmps) (J1 T0 false 0 Try.f115) = (t115 s at_ many).get := by kernel_rfl
theorem ok115 : os115.Ok Try.prog := by
 refine V3 X2 tab0 (V0 (all_cons X0o all_nil) all_nil) h115 (d := 0) (n0 := 0) (S := lsOf [X3g]) Try.func115 (by kernel_rfl) (c := c115) (by kernel_rfl) rfl (Q5 (xs := [(0, b115)]) (by kernel_rfl) (all_cons (J7 (V44 _)) all_nil)) (by omega) (by kernel_rfl) ?_
 intro x'' y'' q'' hq''
 obtain ⟨(s : List UInt8), (at_ : Int), (many : Int), _⟩ := x''
 exact (fn115 s at_ many).trans hq''
def J4c : FSpec := fsT 115 [(.str, false), ((.int .i64), false), ((.int .i64), false)] [((.int .u32), false), ((.int .i64), false), ((.int .i64), false)] fun (s, at_, many, _) => t115 s at_ many
theorem J4o : J4c.Ok Try.prog := V6 fun x'' r'' hr'' => ok115 x'' () r'' hr''
def t87 (s : List UInt8) (at_ : Int) : Tr Res := .br (bigS s) (.br (Q1 s at_ 4) (.br (nbC4 (U1 s at_ 4) 0 (↑(List.length (U1 s at_ 4)) : Int) 0) (.ret ([.int .u32 (numB (U1 s at_ 4)), .int .i64 (at_ + 4), .int .i64 0], [])) .no) (.ret ([.int .u32 (numB []), .int .i64 0, .int .i64 2], []))) .no
def os87 : OSpec := { f := 87, sh := [.d .str false, .d (.int .i64) false], so := [], F := fun (s, at_, _) _ => t87 s at_ }
theorem fn87 (s : List UInt8) (at_ : Int) : evC T0 (orcB [J4c] []) (lpOf h87 0 (lsOf [])) c87 1000000 (V1 [.str s, .int .i64 at_] [] Try.f87.ntmps) (J1 T0 false 0 Try.f87) = (t87 s at_).get := by kernel_rfl
theorem ok87 : os87.Ok Try.prog := by
 refine V3 X2 tab0 (V0 (all_cons J4o all_nil) all_nil) h87 (d := 0) (n0 := 0) (S := lsOf []) Try.func87 (by kernel_rfl) (c := c87) (by kernel_rfl) rfl (U2 (by kernel_rfl)) (by omega) (by kernel_rfl) ?_
 intro x'' y'' q'' hq''
 obtain ⟨(s : List UInt8), (at_ : Int), _⟩ := x''
 exact (fn87 s at_).trans hq''
def fs87 : FSpec := fsT 87 [(.str, false), ((.int .i64), false)] [((.int .u32), false), ((.int .i64), false), ((.int .i64), false)] fun (s, at_, _) => t87 s at_
theorem okf87 : fs87.Ok Try.prog := V6 fun x'' r'' hr'' => ok87 x'' () r'' hr''
def n32 (s : List UInt8) (at_ : Int) : Int := n16 s at_ * 65536 + n16 s (at_ + 2)
theorem X4e {s : List UInt8} {at_ : Int} (h : Q1 s at_ 4 = true) : U1 s at_ 4 = [s.getD at_.toNat 0, s.getD (at_.toNat + 1) 0, s.getD (at_.toNat + 2) 0, s.getD (at_.toNat + 3) 0] := by
 simp only [Q1, Bool.and_eq_true, decide_eq_true_eq] at h
 unfold U1
 rw [Jv s at_.toNat 0 (by omega), Jv s (at_.toNat + 1) 0 (by omega), Jv s (at_.toNat + 2) 0 (by omega), Jv s (at_.toNat + 3) 0 (by omega)]
 rfl
theorem Vi (s : List UInt8) (a : Int) : 0 ≤ n16 s a ∧ n16 s a ≤ 65535 := by
 have h1 := J0g (s.getD a.toNat 0)
 have h2 := J0g (s.getD (a.toNat + 1) 0)
 unfold n16
 omega
def U2r : FSpec := fs87.like fun (s, at_, _) => .br (bigS s) (.br (Q1 s at_ 4) (.ret (n32 s at_, at_ + 4, (0 : Int), ())) (.ret ((0 : Int), (0 : Int), (2 : Int), ()))) .no
theorem Z2m : U2r.Ok Try.prog := by
 refine U3 okf87 _ ?_
 rintro ⟨(s : List UInt8), (at_ : Int), _⟩ y h
 simp only [Tr.get] at h
 cases hb : bigS s with
 | false => rw [hb] at h; cases h
 | true =>
   rw [hb, cond_true] at h
   cases hs : Q1 s at_ 4 with
   | true =>
     rw [hs, cond_true] at h
     cases h
     have hi : at_ + 4 ≤ s.length ∧ 0 ≤ at_ := by simp only [Q1, Bool.and_eq_true, decide_eq_true_eq] at hs; omega
     have hc := Vi s at_
     have hd := Vi s (at_ + 2)
     refine J3 (vs := [.int .u32 (n32 s at_), .int .i64 (at_ + 4), .int .i64 0]) rfl rfl (Tr.get_of_all ?_)
     show (t87 s at_).all _
     unfold t87
     refine Tr.all_t hb (Tr.all_t hs ?_)
     have hn : numB (U1 s at_ 4) = n32 s at_ := by
      rw [X4e hs]
      unfold n32 n16
      rw [show (at_ + 2).toNat = at_.toNat + 2 by omega, show at_.toNat + 2 + 1 = at_.toNat + 3 from rfl]
      simp only [numB, List.foldl_cons, List.foldl_nil]
      omega
     have hl : (U1 s at_ 4).length = 4 := by rw [X4e hs]; rfl
     refine Tr.all_t (by unfold nbC4; rw [hl]; simp) (Tr.all_ret ?_)
     rw [hn]
   | false =>
     rw [hs, cond_false] at h
     cases h
     refine J3 (vs := [.int .u32 0, .int .i64 0, .int .i64 2]) rfl rfl (Tr.get_of_all ?_)
     show (t87 s at_).all _
     exact Tr.all_t hb (Tr.all_f hs (Tr.all_ret rfl))
def t32 (r : RRt) : Tr Res := .br (bigS r.1) (.br (mayV r.1) (.br (bigS r.2.2.2.2) (.ret ([.bool (mayR r.2.1 r.2.2.2.2)], [])) .no) (.ret ([.bool false], []))) .no
def os32 : OSpec := { f := 32, sh := [.d RR true], so := [], F := fun (r, _) _ => t32 r }
theorem fn32 (r : RRt) : evC T0 (orcB [Z0j, J01] []) (lpOf h32 0 (lsOf [])) c32 1000000 (V1 [AV.ofTy RR r true] [] Try.f32.ntmps) (J1 T0 false 0 Try.f32) = (t32 r).get := by kernel_rfl
theorem ok32 : os32.Ok Try.prog := by
 refine V3 X2 tab0 (V0 (all_cons Q1u (all_cons Z1y all_nil)) all_nil) h32 (d := 0) (n0 := 0) (S := lsOf []) Try.func32 (by kernel_rfl) (c := c32) (by kernel_rfl) rfl (U2 (by kernel_rfl)) (by omega) (by kernel_rfl) ?_
 intro x'' y'' q'' hq''
 obtain ⟨(r : RRt), _⟩ := x''
 exact (fn32 r).trans hq''
def fs32 : FSpec := fsT 32 [(RR, true)] [(.bool, false)] fun (r, _) => t32 r
theorem okf32 : fs32.Ok Try.prog := V6 fun x'' r'' hr'' => ok32 x'' () r'' hr''
def t59 (q : QQt) : Tr Res := .br (bigS q.1) (.ret ([.bool (mayV q.1)], [])) .no
def os59 : OSpec := { f := 59, sh := [.d QQ true], so := [], F := fun (q, _) _ => t59 q }
theorem fn59 (q : QQt) : evC T0 (orcB [Z0j, J01] []) (lpOf h59 0 (lsOf [])) c59 1000000 (V1 [AV.ofTy QQ q true] [] Try.f59.ntmps) (J1 T0 false 0 Try.f59) = (t59 q).get := by kernel_rfl
theorem ok59 : os59.Ok Try.prog := by
 refine V3 X2 tab0 (V0 (all_cons Q1u (all_cons Z1y all_nil)) all_nil) h59 (d := 0) (n0 := 0) (S := lsOf []) Try.func59 (by kernel_rfl) (c := c59) (by kernel_rfl) rfl (U2 (by kernel_rfl)) (by omega) (by kernel_rfl) ?_
 intro x'' y'' q'' hq''
 obtain ⟨(q : QQt), _⟩ := x''
 exact (fn59 q).trans hq''
def fs59 : FSpec := fsT 59 [(QQ, true)] [(.bool, false)] fun (q, _) => t59 q
theorem okf59 : fs59.Ok Try.prog := V6 fun x'' r'' hr'' => ok59 x'' () r'' hr''
def recV (r : RRt) : Bool := mayV r.1 && mayR r.2.1 r.2.2.2.2
def Uw (r : RRt) : Bool := bigS r.1 && bigS r.2.2.2.2
def V2c : FSpec := fs32.like fun (r, _) => .on (Uw r) (recV r, ())
theorem Q1y : V2c.Ok Try.prog := by
 refine U3 okf32 _ ?_
 rintro ⟨(r : RRt), _⟩ y h
 obtain ⟨hb, rfl⟩ := Tr.get_on h
 obtain ⟨h1, h2⟩ := Bool.and_eq_true_iff.1 (show (bigS r.1 && bigS r.2.2.2.2) = true from hb)
 refine J3 (vs := [.bool (recV r)]) rfl rfl (Tr.get_of_all ?_)
 show (t32 r).all _
 unfold t32 recV
 refine Tr.all_t h1 (Tr.all_br (fun c => Tr.all_t h2 (Tr.all_ret (by rw [c]; rfl))) fun c => Tr.all_ret (by rw [c]; rfl))
def J25 : FSpec := fs59.like fun (q, _) => .on (bigS q.1) (mayV q.1, ())
theorem U1v : J25.Ok Try.prog := by
 refine U3 okf59 _ ?_
 rintro ⟨(q : QQt), _⟩ y h
 obtain ⟨hb, rfl⟩ := Tr.get_on h
 refine J3 (vs := [.bool (mayV q.1)]) rfl rfl (Tr.get_of_all ?_)
 exact Tr.all_t hb (Tr.all_ret rfl)
theorem U1f : ∀ (ps : List Int) (ls : List (List UInt8)) (p : PKt), kOk p.2 = true → kOk (putS ps ls p).2 = true ∧ (putS ps ls p).1.length ≤ p.1.length + ls.flatten.length
 | [], _, p, h => ⟨h, by simp [putS]⟩
 | x :: ps, ls, p, h => by
   rw [putS]
   have hl : ls.flatten.length = (ls.headD []).length + ls.tail.flatten.length := by cases ls <;> simp
   cases hx : x == -1 with
   | true =>
     obtain ⟨k1, k2⟩ := X3e (p := p) (x := (ls.headD [], false)) h
     obtain ⟨q1, q2⟩ := U1f ps ls.tail (stN p (ls.headD [], false)) k1
     refine ⟨q1, ?_⟩
     rw [cond_true, hl]
     have k2 : (stN p (ls.headD [], false)).1.length ≤ p.1.length + (ls.headD []).length := k2
     omega
   | false =>
     obtain ⟨q1, q2⟩ := U1f ps ls.tail (p.1 ++ ls.headD [], p.2) h
     refine ⟨q1, ?_⟩
     rw [cond_false, hl]
     have q2 : (putS ps ls.tail (p.1 ++ ls.headD [], p.2)).1.length ≤ (p.1 ++ ls.headD []).length + ls.tail.flatten.length := q2
     rw [List.length_append] at q2
     omega
def TN : Tab := { T0 with nild := true }
theorem tabN : V4 Try.prog TN := U39 tab0 _ _
theorem X20 {p : PKt} {n : List UInt8} (hm : mayV n = true) (hk : kOk p.2 = true) : kOk (Z4 n p.1 p.2).2 = true ∧ (Z4 n p.1 p.2).1.length ≤ p.1.length + n.length ∧ (Z4 n p.1 p.2).2.length ≤ p.2.length + n.length := by
 have hk2 := (X3e (p := p) (x := (n, false)) hk).1
 unfold stN at hk2
 rw [show mayV (n, false).1 = true from hm, cond_true] at hk2
 obtain ⟨l1, _, l3⟩ := Z0f _ n p.1 p.2 rfl (Up.1 hm).1
 exact ⟨hk2, by omega, by omega⟩
theorem Q0t : ∀ (ps : List Int) (ls : List (List UInt8)) (p : PKt), (putS ps ls p).2.length ≤ p.2.length + ls.flatten.length
 | [], _, p => by simp [putS]
 | x :: ps, ls, p => by
   rw [putS]
   have hl : ls.flatten.length = (ls.headD []).length + ls.tail.flatten.length := by cases ls <;> simp
   cases hx : x == -1 with
   | true =>
     have q2 := Q0t ps ls.tail (stN p (ls.headD [], false))
     rw [cond_true, hl]
     have k2 : (stN p (ls.headD [], false)).2.length ≤ p.2.length + (ls.headD []).length := by
      show (bif mayV (ls.headD []) then Z4 (ls.headD []) p.1 p.2 else p).2.length ≤ _
      cases hm : mayV (ls.headD []) with
      | false => rw [cond_false]; omega
      | true =>
        rw [cond_true]
        obtain ⟨_, _, l3⟩ := Z0f _ (ls.headD []) p.1 p.2 rfl (Up.1 hm).1
        omega
     omega
   | false =>
     have q2 : (putS ps ls.tail (p.1 ++ ls.headD [], p.2)).2.length ≤ p.2.length + ls.tail.flatten.length := Q0t ps ls.tail (p.1 ++ ls.headD [], p.2)
     rw [cond_false, hl]
     omega
theorem Z3e {k : Int} {d : List UInt8} {p : PKt} (hm : mayR k d = true) (hk : kOk p.2 = true) : kOk (putR k d p).2 = true ∧ (putR k d p).1.length ≤ p.1.length + d.length ∧ (putR k d p).2.length ≤ p.2.length + d.length := by
 obtain ⟨q1, q2⟩ := U1f (layV k) (Xr k d) p hk
 have q3 := Q0t (layV k) (Xr k d) p
 rw [(Q0w hm).2.2.2.2.2] at q2 q3
 exact ⟨q1, q2, q3⟩
theorem Z4b (n : Int) : IntKind.wrap .u16 n = n % 65536 := IntKind.wrap_u16 n
def X0c (b : List Int) (a : Int) : List Int := b.take (a - 2).toNat ++ J0 (X1 (((b.length : Int) - a) % 65536)) ++ b.drop a.toNat
def V3h : OSpec := Q4g.like fun _ (_, b, l, _) => .on (Nat.ble b.length 100000000000) ([.int .i64 ((b.length : Int) + 2)], pkO (b ++ [0, 0]) l)
theorem V4w : V3h.Ok Try.prog := by
 refine Uh ok141 _ ?_
 rintro _ ⟨_, (b : List Int), (l : V7), _⟩ r h
 obtain ⟨hb, rfl⟩ := Tr.get_on h
 have hb := Nat.le_of_ble_eq_true hb
 refine Tr.get_of_all ?_
 show (t141 b l).all _
 have e : J0 (X1 0) = [0, 0] := by decide
 unfold t141
 rw [e]
 refine Tr.all_t (Q6 (by simp [Qn]; omega) (by simp [Qn]; omega)) (Tr.all_ret ?_)
 simp
def X3a : OSpec := Z4d.like fun (a, _) (_, b, l, _) => .br (Nat.ble b.length 100000000000) (.br (decide (2 ≤ a) && decide (a ≤ (b.length : Int))) (.ret ([.int .i64 0], pkO (X0c b a) l)) (.ret ([.int .i64 1], pkO b l))) .no
theorem U4n : X3a.Ok Try.prog := by
 refine Uh ok143 _ ?_
 rintro ⟨(a : Int), _⟩ ⟨_, (b : List Int), (l : V7), _⟩ r h
 simp only [Tr.get] at h
 cases hb : Nat.ble b.length 100000000000 with
 | false => rw [hb] at h; cases h
 | true =>
   rw [hb, cond_true] at h
   have hb := Nat.le_of_ble_eq_true hb
   refine Tr.get_of_all ?_
   show (t143 a b l).all _
   unfold t143
   by_cases h2 : 2 ≤ a
   · by_cases h3 : a ≤ (b.length : Int)
     · rw [X0 h2, X0 h3] at h
       cases h
       have hw := Z4b ((b.length : Int) - a)
       rw [IntWalk.i64_in (a - 2) (by omega), IntWalk.i64_in ((b.length : Int) - a) (by omega), hw]
       refine Tr.all_f (U0 (by omega)) (Tr.all_f (U0 (by omega)) (Tr.all_t (by rw [X0 (by omega), X0 (by omega)]; rfl) (Tr.all_t (by rw [X0 (by omega), X0 (by omega)]; rfl) (Tr.all_t ?_ (Tr.all_ret ?_)))))
       · simp [n16C]; omega
       · unfold X0c
         rw [show a.toNat - (a - 2).toNat = 2 by omega, Qn, show min 2 2 = 2 from rfl, show (a - 2).toNat + 2 = a.toNat by omega, List.take_of_length_le (l := J0 (X1 _)) (by rw [J2, Qn]; exact Nat.le_refl _)]
     · rw [X0 h2, U0 h3] at h
       cases h
       exact Tr.all_f (U0 (by omega)) (Tr.all_t (X0 (by omega)) (Tr.all_ret rfl))
   · rw [U0 h2] at h
     cases h
     exact Tr.all_t (X0 (by omega)) (Tr.all_ret rfl)
def btC4 (n many m i : Int) (b : List Int) : Bool := decide (many = 4) && (decide (m = 4) && (decide (i = 0) && decide (b = [0, 0, 0, 0])))
def byN4 (n : Int) (k : Nat) : Int := IntKind.wrap .u8 (Int.fdiv n (2 ^ (8 * k)))
noncomputable def X27 : Code := Z5 c121 0
def J2q : LoopSpec := { bid := 0, sh := [.d (.int .u32) false, .d (.int .i64) false, .row 0, .d (.int .i64) false, .d (.int .i64) false], so := [.row (.int .u8)], F := fun (n, many, m, i, _) (b, _) => .on (btC4 n many m i b) (.exit 0, [.rowA 0], [.row (.int .u8) [byN4 n 3, byN4 n 2, byN4 n 1, byN4 n 0]]) }
def Q3n (n many m i : Int) (b : List Int) : Tr (St ⊕ (Ex × St)) := .br (decide (i < m)) (.br (decide (0 ≤ IntKind.wrap .i64 (8 * i))) (.br (decide (0 ≤ IntKind.wrap .i64 (IntKind.wrap .i64 (many - 1) - i))) (.br (decide (IntKind.wrap .i64 (IntKind.wrap .i64 (many - 1) - i) < (↑b.length : Int))) (.ret (.inl (stOf [0, 1, 5, 9, 10] [.int .u32 n, .int .i64 many, .rowA 0, .int .i64 m, .int .i64 (IntKind.wrap .i64 (i + 1))] [.row (.int .u8) (List.set b (Int.toNat (IntKind.wrap .i64 (IntKind.wrap .i64 (many - 1) - i))) (IntKind.wrap .u8 (Int.fdiv n (2 ^ min (Int.toNat (IntKind.wrap .i64 (8 * i))) (IntKind.bits IntKind.u32)))))]))) .no) .no) .no) (.ret (.inr (.exit 0, stOf [5] [.rowA 0] [.row (.int .u8) b])))
theorem Z2y (orc : Orc) (lp : Lp) (n many m i : Int) (b : List Int) : evC T0 orc lp X27 0 (stOf [0, 1, 5, 9, 10] [.int .u32 n, .int .i64 many, .rowA 0, .int .i64 m, .int .i64 i] [.row (.int .u8) b]) (Z1 [0, 1, 5, 9, 10] [5] 0) = (Q3n n many m i b).get := by kernel_rfl
theorem Z4p (orc : Orc) (n many m : Int) (I'' : Int → List Int → Prop) (m'' : Int → List Int → Nat) (r'' : Ex × St) (h : ∀ (i : Int) (b : List Int), I'' i b → (Q3n n many m i b).all fun x'' => x'' = .inr r'' ∨ ∃ (i' : Int) (b' : List Int), x'' = .inl (stOf [0, 1, 5, 9, 10] [.int .u32 n, .int .i64 many, .rowA 0, .int .i64 m, .int .i64 i'] [.row (.int .u8) b']) ∧ I'' i' b' ∧ m'' i' b' < m'' i b) (lp : Lp) (i : Int) (b : List Int) : I'' i b →
    Z3 (fun st => evC T0 orc lp X27 0 st (Z1 [0, 1, 5, 9, 10] [5] 0)) (stOf [0, 1, 5, 9, 10] [.int .u32 n, .int .i64 many, .rowA 0, .int .i64 m, .int .i64 i] [.row (.int .u8) b]) = some r'' :=
 Z6 (fun a'' : Int × List Int => stOf [0, 1, 5, 9, 10] [.int .u32 n, .int .i64 many, .rowA 0, .int .i64 m, .int .i64 a''.1] [.row (.int .u8) a''.2]) (fun a'' => I'' a''.1 a''.2) (fun a'' => m'' a''.1 a''.2) r'' (fun a'' => Q3n n many m a''.1 a''.2)
  (fun a'' x hx => (Z2y orc lp n many m a''.1 a''.2).trans hx) (fun a'' ha => Tr.all_mono (fun x'' hx => hx.imp id fun ⟨i', b', h1, h2, h3⟩ => ⟨(i', b'), h1, h2, h3⟩) (h (a''.1) (a''.2) ha)) (i, b)
theorem Z15 {n : Int} (h : 0 ≤ n) (k : Nat) : Int.fdiv n (2 ^ k) = n / 2 ^ k := Int.fdiv_eq_ediv_of_nonneg _ (by have : (0 : Int) < 2 ^ k := Int.pow_pos (by omega); omega)
theorem Z3x (orc : Orc) : J2q.Ok T0 orc h121 0 0 X27 := by
 intro q'' hq'' x'' y'' r'' h
 obtain ⟨(n : Int), (many : Int), (m : Int), (i : Int), _⟩ := x''
 obtain ⟨(b : List Int), _⟩ := y''
 obtain ⟨hc, rfl⟩ := Tr.get_on h
 show Z3 (fun st => evC T0 orc (lpN T0 orc h121 0 q'') X27 0 st (Z1 [0, 1, 5, 9, 10] [5] 0)) (stOf [0, 1, 5, 9, 10] [.int .u32 n, .int .i64 many, .rowA 0, .int .i64 m, .int .i64 i] [.row (.int .u8) b]) = some (.exit 0, stOf [5] ([.rowA 0]) ([.row (.int .u8) [byN4 n 3, byN4 n 2, byN4 n 1, byN4 n 0]]))
 simp only [btC4, Bool.and_eq_true, decide_eq_true_eq] at hc
 obtain ⟨rfl, rfl, rfl, rfl⟩ := hc
 refine Z4p _ n 4 4 (fun i b => (i = 0 ∧ b = [0, 0, 0, 0]) ∨ (i = 1 ∧ b = [0, 0, 0, byN4 n 0]) ∨ (i = 2 ∧ b = [0, 0, byN4 n 1, byN4 n 0]) ∨ (i = 3 ∧ b = [0, byN4 n 2, byN4 n 1, byN4 n 0]) ∨ (i = 4 ∧ b = [byN4 n 3, byN4 n 2, byN4 n 1, byN4 n 0])) (fun i _ => (4 - i).toNat) _ ?_ _ 0 [0, 0, 0, 0] (.inl ⟨rfl, rfl⟩)
 rintro i b (⟨rfl, rfl⟩ | ⟨rfl, rfl⟩ | ⟨rfl, rfl⟩ | ⟨rfl, rfl⟩ | ⟨rfl, rfl⟩)
 · exact Tr.all_t rfl (Tr.all_t (by decide) (Tr.all_t (by decide) (Tr.all_t (by decide) (Tr.all_ret (.inr ⟨_, _, rfl, .inr (.inl ⟨by decide, rfl⟩), by decide⟩)))))
 · exact Tr.all_t rfl (Tr.all_t (by decide) (Tr.all_t (by decide) (Tr.all_t rfl (Tr.all_ret (.inr ⟨_, _, rfl, .inr (.inr (.inl ⟨by decide, rfl⟩)), by decide⟩)))))
 · exact Tr.all_t rfl (Tr.all_t (by decide) (Tr.all_t (by decide) (Tr.all_t rfl (Tr.all_ret (.inr ⟨_, _, rfl, .inr (.inr (.inr (.inl ⟨by decide, rfl⟩))), by decide⟩)))))
 · exact Tr.all_t rfl (Tr.all_t (by decide) (Tr.all_t (by decide) (Tr.all_t rfl (Tr.all_ret (.inr ⟨_, _, rfl, .inr (.inr (.inr (.inr ⟨by decide, rfl⟩))), by decide⟩)))))
 · exact Tr.all_f rfl (Tr.all_ret (.inl rfl))
def J3t (n many : Int) : Tr Res := .br (decide (0 ≤ many) && many == many && fits many.toNat 1) (.br (btC4 n many many 0 (List.replicate many.toNat (Ty.dflt (Ty.int .u8)))) (.ret ([.str [UInt8.ofNat (Int.toNat (byN4 n 3)), UInt8.ofNat (Int.toNat (byN4 n 2)), UInt8.ofNat (Int.toNat (byN4 n 1)), UInt8.ofNat (Int.toNat (byN4 n 0))]], [])) .no) .no
def V4z : OSpec := { f := 121, sh := [.d (.int .u32) false, .d (.int .i64) false], so := [], F := fun (n, many, _) _ => J3t n many }
theorem X4z (n many : Int) : evC T0 (orcB [] []) (lpOf h121 0 (lsOf [J2q])) c121 1000000 (V1 [.int .u32 n, .int .i64 many] [] Try.f121.ntmps) (J1 T0 false 0 Try.f121) = (J3t n many).get := by kernel_rfl
theorem J4s : V4z.Ok Try.prog := by
 refine V3 X2 tab0 (V0 all_nil all_nil) h121 (d := 0) (n0 := 0) (S := lsOf [J2q]) Try.func121 (by kernel_rfl) (c := c121) (by kernel_rfl) rfl (Q5 (xs := [(0, X27)]) (by kernel_rfl) (all_cons (J7 (Z3x _)) all_nil)) (by omega) (by kernel_rfl) ?_
 intro x'' y'' q'' hq''
 obtain ⟨(n : Int), (many : Int), _⟩ := x''
 exact (X4z n many).trans hq''
def U3a : FSpec := fsT 121 [((.int .u32), false), ((.int .i64), false)] [(.str, false)] fun (n, many, _) => J3t n many
theorem Q43 : U3a.Ok Try.prog := V6 fun x'' r'' hr'' => J4s x'' () r'' hr''
def t140 (n : Int) : Tr Res := .ret ([.str [UInt8.ofNat (Int.toNat (byN4 n 3)), UInt8.ofNat (Int.toNat (byN4 n 2)), UInt8.ofNat (Int.toNat (byN4 n 1)), UInt8.ofNat (Int.toNat (byN4 n 0))]], [])
def os140 : OSpec := { f := 140, sh := [.d (.int .u32) false], so := [], F := fun (n, _) _ => t140 n }
theorem fn140 (n : Int) : evC T0 (orcB [U3a] []) (lpOf h140 0 (lsOf [])) c140 1000000 (V1 [.int .u32 n] [] Try.f140.ntmps) (J1 T0 false 0 Try.f140) = (t140 n).get := by kernel_rfl
theorem ok140 : os140.Ok Try.prog := by
 refine V3 X2 tab0 (V0 (all_cons Q43 all_nil) all_nil) h140 (d := 0) (n0 := 0) (S := lsOf []) Try.func140 (by kernel_rfl) (c := c140) (by kernel_rfl) rfl (U2 (by kernel_rfl)) (by omega) (by kernel_rfl) ?_
 intro x'' y'' q'' hq''
 obtain ⟨(n : Int), _⟩ := x''
 exact (fn140 n).trans hq''
def J4k : FSpec := fsT 140 [((.int .u32), false)] [(.str, false)] fun (n, _) => t140 n
theorem J4r : J4k.Ok Try.prog := V6 fun x'' r'' hr'' => ok140 x'' () r'' hr''
def U7 (n : Int) : List UInt8 := X1 (n / 65536) ++ X1 (n % 65536)
def n32C (n : Int) : Bool := decide (0 ≤ n) && decide (n ≤ 4294967295)
def Z3k : FSpec := J4k.like fun (n, _) => .on (n32C n) (U7 n, ())
theorem J40 : Z3k.Ok Try.prog := by
 refine U3 J4r _ ?_
 rintro ⟨(n : Int), _⟩ y h
 obtain ⟨hc, rfl⟩ := Tr.get_on h
 simp only [n32C, Bool.and_eq_true, decide_eq_true_eq] at hc
 refine J3 (vs := [.str (U7 n)]) rfl rfl (Tr.get_of_all ?_)
 show (t140 n).all _
 unfold t140
 have e : Z0 [byN4 n 3, byN4 n 2, byN4 n 1, byN4 n 0] = U7 n := by
  unfold byN4
  rw [Z15 hc.1, Z15 hc.1, Z15 hc.1, Z15 hc.1]
  simp only [IntKind.wrap_u8]
  unfold Z0 U7 X1
  simp only [List.map_cons, List.map_nil, List.cons_append, List.nil_append]
  have e1 : n / 2 ^ (8 * 3) % 256 = n / 65536 / 256 := by
   rw [show (2 : Int) ^ (8 * 3) = 16777216 from rfl]; omega
  have e2 : n / 2 ^ (8 * 2) % 256 = n / 65536 % 256 := by rw [show (2 : Int) ^ (8 * 2) = 65536 from rfl]
  have e3 : n / 2 ^ (8 * 1) % 256 = n % 65536 / 256 := by rw [show (2 : Int) ^ (8 * 1) = 256 from rfl]; omega
  have e4 : n / 2 ^ (8 * 0) % 256 = n % 65536 % 256 := by rw [show (2 : Int) ^ (8 * 0) = 1 from rfl]; omega
  rw [e1, e2, e3, e4]
 refine Tr.all_ret ?_
 rw [← e]
 rfl
def t101 (q : QQt) (b : List Int) (m : List (List UInt8 × Int)) : Tr Res := .br (bigS q.1) (.br (!mayV q.1) (.ret ([.int .i64 1], [.boxT none [.rowA 1, .mp 2], .row (.int .u8) b, .mpo .str (.int .i64) m])) (.br (pkC b m && Nat.ble q.1.length 100000000000) (.br (mayV q.1) (.br (n16C q.2.1) (.br (n16C q.2.2) (.br (fits (List.length (J0 (Z4 q.1 (Z0 b) m).1) + List.length (J0 (X1 q.2.1 ++ X1 q.2.2))) 1) (.ret ([.int .i64 0], [.boxT none [.rowA 1, .mp 2], .row (.int .u8) (J0 (Z4 q.1 (Z0 b) m).1 ++ J0 (X1 q.2.1 ++ X1 q.2.2)), .mpo .str (.int .i64) (Z4 q.1 (Z0 b) m).2])) .no) .no) .no) (.br (n16C q.2.1) (.br (n16C q.2.2) (.br (fits (List.length b + List.length (J0 (X1 q.2.1 ++ X1 q.2.2))) 1) (.ret ([.int .i64 0], [.boxT none [.rowA 1, .mp 2], .row (.int .u8) (b ++ J0 (X1 q.2.1 ++ X1 q.2.2)), .mpo .str (.int .i64) m])) .no) .no) .no)) .no)) .no
def U4d : OSpec := { f := 101, sh := [.ptr 0 0, .d QQ true], so := [.box [.row 1, .mp 2], .row (.int .u8), .map .str (.int .i64)], F := fun (q, _) (_, b, m, _) => t101 q b m }
theorem fn101 (q : QQt) (b : List Int) (m : List (List UInt8 × Int)) : evC T0 (orcB [J25, V2c, Ul] [Z09, os98]) (lpOf h101 3 (lsOf [])) c101 1000000 (V1 [.ptr 0 0, AV.ofTy QQ q true] [.box [.rowA 1, .mp 2], .row (.int .u8) b, .mpo .str (.int .i64) m] Try.f101.ntmps) (J1 T0 false 3 Try.f101) = (t101 q b m).get := by kernel_rfl
theorem ok101 : U4d.Ok Try.prog := by
 refine V3 X2 tab0 (V0 (all_cons U1v (all_cons Q1y (all_cons U0w all_nil))) (all_cons V2k (all_cons ok98 all_nil))) h101 (d := 0) (n0 := 3) (S := lsOf []) Try.func101 (by kernel_rfl) (c := c101) (by kernel_rfl) rfl (U2 (by kernel_rfl)) (by omega) (by kernel_rfl) ?_
 intro x'' y'' q'' hq''
 obtain ⟨(q : QQt), _⟩ := x''
 obtain ⟨_, (b : List Int), (m : List (List UInt8 × Int)), _⟩ := y''
 exact (fn101 q b m).trans hq''
def qOk (q : QQt) : Bool := Nat.ble q.1.length 1000000 && (n16C q.2.1 && n16C q.2.2)
def qB (q : QQt) : List UInt8 := X1 q.2.1 ++ X1 q.2.2
def putQ (q : QQt) (p : PKt) : PKt := ((Z4 q.1 p.1 p.2).1 ++ qB q, (Z4 q.1 p.1 p.2).2)
theorem V4r (q : QQt) : (qB q).length = 4 := rfl
theorem X2s {q : QQt} : qOk q = true ↔ q.1.length ≤ 1000000 ∧ n16C q.2.1 = true ∧ n16C q.2.2 = true := by
 unfold qOk
 rw [Bool.and_eq_true, Bool.and_eq_true]
 exact ⟨fun ⟨a, b⟩ => ⟨Nat.le_of_ble_eq_true a, b⟩, fun ⟨a, b⟩ => ⟨Nat.ble_eq_true_of_le a, b⟩⟩
theorem U1u {b : List Int} {m : V7} : pkT b m = true ↔ J5 b = true ∧ kOk m = true ∧ b.length ≤ 1000000000 := by
 unfold pkT
 rw [Bool.and_eq_true, Bool.and_eq_true]
 exact ⟨fun ⟨a, b, c⟩ => ⟨a, b, Nat.le_of_ble_eq_true c⟩, fun ⟨a, b, c⟩ => ⟨a, b, Nat.ble_eq_true_of_le c⟩⟩
def Qv : OSpec := U4d.like fun (q, _) (_, b, m, _) => .br (pkT b m && qOk q) (.br (mayV q.1) (.ret ([.int .i64 0], pkO (J0 (putQ q (Z0 b, m)).1) (putQ q (Z0 b, m)).2)) (.ret ([.int .i64 1], pkO b m))) .no
theorem J4z : Qv.Ok Try.prog := by
 refine Uh ok101 _ ?_
 rintro ⟨(q : QQt), _⟩ ⟨_, (b : List Int), (m : V7), _⟩ r h
 simp only [Tr.get] at h
 cases hc : pkT b m && qOk q with
 | false => rw [hc] at h; cases h
 | true =>
   rw [hc, cond_true] at h
   obtain ⟨h1, h2⟩ := Bool.and_eq_true_iff.1 hc
   obtain ⟨b1, b2, b3⟩ := U1u.1 h1
   obtain ⟨q1, q2, q3⟩ := X2s.1 h2
   refine Tr.get_of_all ?_
   show (t101 q b m).all _
   unfold t101
   cases hm : mayV q.1 with
   | false =>
     rw [hm, cond_false] at h
     cases h
     exact Tr.all_t (Qw (by omega)) (Tr.all_t rfl (Tr.all_ret rfl))
   | true =>
     rw [hm, cond_true] at h
     cases h
     obtain ⟨_, k2, _⟩ := X20 (p := (Z0 b, m)) hm b2
     have hl := Zg b
     have k2 : (Z4 q.1 (Z0 b) m).1.length ≤ (Z0 b).length + q.1.length := k2
     refine Tr.all_t (Qw (by omega)) (Tr.all_f rfl (Tr.all_t ?_ (Tr.all_t rfl (Tr.all_t q2 (Tr.all_t q3 (Tr.all_t ?_ (Tr.all_ret ?_)))))))
     · unfold pkC
       rw [b1, b2, Nat.ble_eq_true_of_le (by omega), Nat.ble_eq_true_of_le (by omega)]
       rfl
     · have e : (J0 (X1 q.2.1 ++ X1 q.2.2)).length = 4 := rfl
       exact Q6 (by rw [J2, e]; omega) (by rw [J2, e]; omega)
     · rw [← Jc]
       rfl
def t124 (r : RRt) (b : List Int) (m : List (List UInt8 × Int)) : Tr Res := .br (Uw r) (.br (!recV r) (.ret ([.int .i64 1], [.boxT none [.rowA 1, .mp 2], .row (.int .u8) b, .mpo .str (.int .i64) m])) (.br (pkC b m && Nat.ble r.1.length 100000000000) (.br (mayV r.1) (.br (n16C r.2.1) (.br (n16C r.2.2.1) (.br (n32C r.2.2.2.1) (.br (fits (List.length (J0 (Z4 r.1 (Z0 b) m).1) + List.length (J0 (X1 r.2.1 ++ X1 r.2.2.1 ++ U7 r.2.2.2.1))) 1) (.br (Nat.ble (List.length (J0 (Z4 r.1 (Z0 b) m).1 ++ J0 (X1 r.2.1 ++ X1 r.2.2.1 ++ U7 r.2.2.2.1))) 100000000000) (.br (pkT (J0 (Z4 r.1 (Z0 b) m).1 ++ J0 (X1 r.2.1 ++ X1 r.2.2.1 ++ U7 r.2.2.2.1) ++ [(0 : Ty.den (Ty.int .u8)), (0 : Ty.den (Ty.int .u8))]) (Z4 r.1 (Z0 b) m).2 && Nat.ble r.2.2.2.2.length 1000000) (.br (mayR r.2.1 r.2.2.2.2) (.br (Nat.ble (List.length (J0 (putR r.2.1 r.2.2.2.2 (Z0 (J0 (Z4 r.1 (Z0 b) m).1 ++ J0 (X1 r.2.1 ++ X1 r.2.2.1 ++ U7 r.2.2.2.1) ++ [(0 : Ty.den (Ty.int .u8)), (0 : Ty.den (Ty.int .u8))]), (Z4 r.1 (Z0 b) m).2)).1)) 100000000000) (.br (decide ((2 : Ty.den (Ty.int .i64)) ≤ (↑(List.length (J0 (Z4 r.1 (Z0 b) m).1 ++ J0 (X1 r.2.1 ++ X1 r.2.2.1 ++ U7 r.2.2.2.1))) : Int) + 2) && decide ((↑(List.length (J0 (Z4 r.1 (Z0 b) m).1 ++ J0 (X1 r.2.1 ++ X1 r.2.2.1 ++ U7 r.2.2.2.1))) : Int) + 2 ≤ (↑(List.length (J0 (putR r.2.1 r.2.2.2.2 (Z0 (J0 (Z4 r.1 (Z0 b) m).1 ++ J0 (X1 r.2.1 ++ X1 r.2.2.1 ++ U7 r.2.2.2.1) ++ [(0 : Ty.den (Ty.int .u8)), (0 : Ty.den (Ty.int .u8))]), (Z4 r.1 (Z0 b) m).2)).1)) : Int))) (.ret ([.int .i64 0], [.boxT none [.rowA 1, .mp 2], .row (.int .u8) (X0c (J0 (putR r.2.1 r.2.2.2.2 (Z0 (J0 (Z4 r.1 (Z0 b) m).1 ++ J0 (X1 r.2.1 ++ X1 r.2.2.1 ++ U7 r.2.2.2.1) ++ [(0 : Ty.den (Ty.int .u8)), (0 : Ty.den (Ty.int .u8))]), (Z4 r.1 (Z0 b) m).2)).1) ((↑(List.length (J0 (Z4 r.1 (Z0 b) m).1 ++ J0 (X1 r.2.1 ++ X1 r.2.2.1 ++ U7 r.2.2.2.1))) : Int) + 2)), .mpo .str (.int .i64) (putR r.2.1 r.2.2.2.2 (Z0 (J0 (Z4 r.1 (Z0 b) m).1 ++ J0 (X1 r.2.1 ++ X1 r.2.2.1 ++ U7 r.2.2.2.1) ++ [(0 : Ty.den (Ty.int .u8)), (0 : Ty.den (Ty.int .u8))]), (Z4 r.1 (Z0 b) m).2)).2])) (.ret ([.int .i64 1], [.boxT none [.rowA 1, .mp 2], .row (.int .u8) (J0 (putR r.2.1 r.2.2.2.2 (Z0 (J0 (Z4 r.1 (Z0 b) m).1 ++ J0 (X1 r.2.1 ++ X1 r.2.2.1 ++ U7 r.2.2.2.1) ++ [(0 : Ty.den (Ty.int .u8)), (0 : Ty.den (Ty.int .u8))]), (Z4 r.1 (Z0 b) m).2)).1), .mpo .str (.int .i64) (putR r.2.1 r.2.2.2.2 (Z0 (J0 (Z4 r.1 (Z0 b) m).1 ++ J0 (X1 r.2.1 ++ X1 r.2.2.1 ++ U7 r.2.2.2.1) ++ [(0 : Ty.den (Ty.int .u8)), (0 : Ty.den (Ty.int .u8))]), (Z4 r.1 (Z0 b) m).2)).2]))) .no) (.br (Nat.ble (List.length (J0 (Z4 r.1 (Z0 b) m).1 ++ J0 (X1 r.2.1 ++ X1 r.2.2.1 ++ U7 r.2.2.2.1) ++ [(0 : Ty.den (Ty.int .u8)), (0 : Ty.den (Ty.int .u8))])) 100000000000) (.br (decide ((2 : Ty.den (Ty.int .i64)) ≤ (↑(List.length (J0 (Z4 r.1 (Z0 b) m).1 ++ J0 (X1 r.2.1 ++ X1 r.2.2.1 ++ U7 r.2.2.2.1))) : Int) + 2) && decide ((↑(List.length (J0 (Z4 r.1 (Z0 b) m).1 ++ J0 (X1 r.2.1 ++ X1 r.2.2.1 ++ U7 r.2.2.2.1))) : Int) + 2 ≤ (↑(List.length (J0 (Z4 r.1 (Z0 b) m).1 ++ J0 (X1 r.2.1 ++ X1 r.2.2.1 ++ U7 r.2.2.2.1) ++ [(0 : Ty.den (Ty.int .u8)), (0 : Ty.den (Ty.int .u8))])) : Int))) (.ret ([.int .i64 0], [.boxT none [.rowA 1, .mp 2], .row (.int .u8) (X0c (J0 (Z4 r.1 (Z0 b) m).1 ++ J0 (X1 r.2.1 ++ X1 r.2.2.1 ++ U7 r.2.2.2.1) ++ [(0 : Ty.den (Ty.int .u8)), (0 : Ty.den (Ty.int .u8))]) ((↑(List.length (J0 (Z4 r.1 (Z0 b) m).1 ++ J0 (X1 r.2.1 ++ X1 r.2.2.1 ++ U7 r.2.2.2.1))) : Int) + 2)), .mpo .str (.int .i64) (Z4 r.1 (Z0 b) m).2])) (.ret ([.int .i64 1], [.boxT none [.rowA 1, .mp 2], .row (.int .u8) (J0 (Z4 r.1 (Z0 b) m).1 ++ J0 (X1 r.2.1 ++ X1 r.2.2.1 ++ U7 r.2.2.2.1) ++ [(0 : Ty.den (Ty.int .u8)), (0 : Ty.den (Ty.int .u8))]), .mpo .str (.int .i64) (Z4 r.1 (Z0 b) m).2]))) .no)) .no) .no) .no) .no) .no) .no) (.br (n16C r.2.1) (.br (n16C r.2.2.1) (.br (n32C r.2.2.2.1) (.br (fits (List.length b + List.length (J0 (X1 r.2.1 ++ X1 r.2.2.1 ++ U7 r.2.2.2.1))) 1) (.br (Nat.ble (List.length (b ++ J0 (X1 r.2.1 ++ X1 r.2.2.1 ++ U7 r.2.2.2.1))) 100000000000) (.br (pkT (b ++ J0 (X1 r.2.1 ++ X1 r.2.2.1 ++ U7 r.2.2.2.1) ++ [(0 : Ty.den (Ty.int .u8)), (0 : Ty.den (Ty.int .u8))]) m && Nat.ble r.2.2.2.2.length 1000000) (.br (mayR r.2.1 r.2.2.2.2) (.br (Nat.ble (List.length (J0 (putR r.2.1 r.2.2.2.2 (Z0 (b ++ J0 (X1 r.2.1 ++ X1 r.2.2.1 ++ U7 r.2.2.2.1) ++ [(0 : Ty.den (Ty.int .u8)), (0 : Ty.den (Ty.int .u8))]), m)).1)) 100000000000) (.br (decide ((2 : Ty.den (Ty.int .i64)) ≤ (↑(List.length (b ++ J0 (X1 r.2.1 ++ X1 r.2.2.1 ++ U7 r.2.2.2.1))) : Int) + 2) && decide ((↑(List.length (b ++ J0 (X1 r.2.1 ++ X1 r.2.2.1 ++ U7 r.2.2.2.1))) : Int) + 2 ≤ (↑(List.length (J0 (putR r.2.1 r.2.2.2.2 (Z0 (b ++ J0 (X1 r.2.1 ++ X1 r.2.2.1 ++ U7 r.2.2.2.1) ++ [(0 : Ty.den (Ty.int .u8)), (0 : Ty.den (Ty.int .u8))]), m)).1)) : Int))) (.ret ([.int .i64 0], [.boxT none [.rowA 1, .mp 2], .row (.int .u8) (X0c (J0 (putR r.2.1 r.2.2.2.2 (Z0 (b ++ J0 (X1 r.2.1 ++ X1 r.2.2.1 ++ U7 r.2.2.2.1) ++ [(0 : Ty.den (Ty.int .u8)), (0 : Ty.den (Ty.int .u8))]), m)).1) ((↑(List.length (b ++ J0 (X1 r.2.1 ++ X1 r.2.2.1 ++ U7 r.2.2.2.1))) : Int) + 2)), .mpo .str (.int .i64) (putR r.2.1 r.2.2.2.2 (Z0 (b ++ J0 (X1 r.2.1 ++ X1 r.2.2.1 ++ U7 r.2.2.2.1) ++ [(0 : Ty.den (Ty.int .u8)), (0 : Ty.den (Ty.int .u8))]), m)).2])) (.ret ([.int .i64 1], [.boxT none [.rowA 1, .mp 2], .row (.int .u8) (J0 (putR r.2.1 r.2.2.2.2 (Z0 (b ++ J0 (X1 r.2.1 ++ X1 r.2.2.1 ++ U7 r.2.2.2.1) ++ [(0 : Ty.den (Ty.int .u8)), (0 : Ty.den (Ty.int .u8))]), m)).1), .mpo .str (.int .i64) (putR r.2.1 r.2.2.2.2 (Z0 (b ++ J0 (X1 r.2.1 ++ X1 r.2.2.1 ++ U7 r.2.2.2.1) ++ [(0 : Ty.den (Ty.int .u8)), (0 : Ty.den (Ty.int .u8))]), m)).2]))) .no) (.br (Nat.ble (List.length (b ++ J0 (X1 r.2.1 ++ X1 r.2.2.1 ++ U7 r.2.2.2.1) ++ [(0 : Ty.den (Ty.int .u8)), (0 : Ty.den (Ty.int .u8))])) 100000000000) (.br (decide ((2 : Ty.den (Ty.int .i64)) ≤ (↑(List.length (b ++ J0 (X1 r.2.1 ++ X1 r.2.2.1 ++ U7 r.2.2.2.1))) : Int) + 2) && decide ((↑(List.length (b ++ J0 (X1 r.2.1 ++ X1 r.2.2.1 ++ U7 r.2.2.2.1))) : Int) + 2 ≤ (↑(List.length (b ++ J0 (X1 r.2.1 ++ X1 r.2.2.1 ++ U7 r.2.2.2.1) ++ [(0 : Ty.den (Ty.int .u8)), (0 : Ty.den (Ty.int .u8))])) : Int))) (.ret ([.int .i64 0], [.boxT none [.rowA 1, .mp 2], .row (.int .u8) (X0c (b ++ J0 (X1 r.2.1 ++ X1 r.2.2.1 ++ U7 r.2.2.2.1) ++ [(0 : Ty.den (Ty.int .u8)), (0 : Ty.den (Ty.int .u8))]) ((↑(List.length (b ++ J0 (X1 r.2.1 ++ X1 r.2.2.1 ++ U7 r.2.2.2.1))) : Int) + 2)), .mpo .str (.int .i64) m])) (.ret ([.int .i64 1], [.boxT none [.rowA 1, .mp 2], .row (.int .u8) (b ++ J0 (X1 r.2.1 ++ X1 r.2.2.1 ++ U7 r.2.2.2.1) ++ [(0 : Ty.den (Ty.int .u8)), (0 : Ty.den (Ty.int .u8))]), .mpo .str (.int .i64) m]))) .no)) .no) .no) .no) .no) .no) .no)) .no)) .no
def Q4f : OSpec := { f := 124, sh := [.ptr 0 0, .d RR true], so := [.box [.row 1, .mp 2], .row (.int .u8), .map .str (.int .i64)], F := fun (r, _) (_, b, m, _) => t124 r b m }
theorem fn124 (r : RRt) (b : List Int) (m : List (List UInt8 × Int)) : evC T0 (orcB [V2c, Ul, Z3k] [Z09, os98, V3h, X3a, U3q]) (lpOf h124 3 (lsOf [])) c124 1000000 (V1 [.ptr 0 0, AV.ofTy RR r true] [.box [.rowA 1, .mp 2], .row (.int .u8) b, .mpo .str (.int .i64) m] Try.f124.ntmps) (J1 T0 false 3 Try.f124) = (t124 r b m).get := by kernel_rfl
theorem ok124 : Q4f.Ok Try.prog := by
 refine V3 X2 tab0 (V0 (all_cons Q1y (all_cons U0w (all_cons J40 all_nil))) (all_cons V2k (all_cons ok98 (all_cons V4w (all_cons U4n (all_cons X4q all_nil)))))) h124 (d := 0) (n0 := 3) (S := lsOf []) Try.func124 (by kernel_rfl) (c := c124) (by kernel_rfl) rfl (U2 (by kernel_rfl)) (by omega) (by kernel_rfl) ?_
 intro x'' y'' q'' hq''
 obtain ⟨(r : RRt), _⟩ := x''
 obtain ⟨_, (b : List Int), (m : List (List UInt8 × Int)), _⟩ := y''
 exact (fn124 r b m).trans hq''
def rOk (r : RRt) : Bool := Nat.ble r.1.length 1000000 && (n16C r.2.1 && (n16C r.2.2.1 && (n32C r.2.2.2.1 && Nat.ble r.2.2.2.2.length 1000000)))
def pkS (b : List Int) (m : V7) : Bool := J5 b && (kOk m && Nat.ble b.length 900000000)
def hdR (r : RRt) : List UInt8 := X1 r.2.1 ++ X1 r.2.2.1 ++ U7 r.2.2.2.1
def S1R (r : RRt) (p : PKt) : List UInt8 := (Z4 r.1 p.1 p.2).1 ++ hdR r ++ [0, 0]
def p2R (r : RRt) (p : PKt) : PKt := putR r.2.1 r.2.2.2.2 (S1R r p, (Z4 r.1 p.1 p.2).2)
def clV (S : List UInt8) (a : Nat) : List UInt8 := S.take (a - 2) ++ X1 (((S.length : Int) - a) % 65536) ++ S.drop a
def recP (r : RRt) (p : PKt) : PKt := (clV (p2R r p).1 (S1R r p).length, (p2R r p).2)
theorem X2r {r : RRt} : rOk r = true ↔ r.1.length ≤ 1000000 ∧ n16C r.2.1 = true ∧ n16C r.2.2.1 = true ∧ n32C r.2.2.2.1 = true ∧ r.2.2.2.2.length ≤ 1000000 := by
 unfold rOk
 rw [Bool.and_eq_true, Bool.and_eq_true, Bool.and_eq_true, Bool.and_eq_true]
 exact ⟨fun ⟨a, b, c, d, e⟩ => ⟨Nat.le_of_ble_eq_true a, b, c, d, Nat.le_of_ble_eq_true e⟩, fun ⟨a, b, c, d, e⟩ => ⟨Nat.ble_eq_true_of_le a, b, c, d, Nat.ble_eq_true_of_le e⟩⟩
theorem X2u {b : List Int} {m : V7} : pkS b m = true ↔ J5 b = true ∧ kOk m = true ∧ b.length ≤ 900000000 := by
 unfold pkS
 rw [Bool.and_eq_true, Bool.and_eq_true]
 exact ⟨fun ⟨a, b, c⟩ => ⟨a, b, Nat.le_of_ble_eq_true c⟩, fun ⟨a, b, c⟩ => ⟨a, b, Nat.ble_eq_true_of_le c⟩⟩
theorem Q46 (r : RRt) : (hdR r).length = 8 := rfl
theorem V2v (r : RRt) (p : PKt) : (S1R r p).length = (Z4 r.1 p.1 p.2).1.length + 10 := by
 unfold S1R
 rw [List.length_append, List.length_append, Q46]
 rfl
theorem Z1k (s : List UInt8) (n : Nat) : (J0 s).take n = J0 (s.take n) := by simp [J0]
theorem J1k (s : List UInt8) (n : Nat) : (J0 s).drop n = J0 (s.drop n) := by simp [J0]
theorem J1z (S : List UInt8) (a : Nat) : X0c (J0 S) ((a : Int) + 2) = J0 (clV S (a + 2)) := by
 unfold X0c clV
 rw [J2, Z1k, J1k, Jc, Jc, show ((a : Int) + 2 - 2).toNat = a + 2 - 2 by omega, show ((a : Int) + 2).toNat = a + 2 by omega, Int.natCast_add]
 rfl
theorem U1t : ∀ (ps : List Int) (ls : List (List UInt8)) (p : PKt), p.1.length ≤ (putS ps ls p).1.length
 | [], _, p => Nat.le_refl _
 | x :: ps, ls, p => by
   rw [putS]
   cases hx : x == -1 with
   | true =>
     have q2 := U1t ps ls.tail (stN p (ls.headD [], false))
     rw [cond_true]
     have k2 : p.1.length ≤ (stN p (ls.headD [], false)).1.length := by
      show p.1.length ≤ (bif mayV (ls.headD []) then Z4 (ls.headD []) p.1 p.2 else p).1.length
      cases hm : mayV (ls.headD []) with
      | false => exact Nat.le_refl _
      | true =>
        rw [cond_true]
        obtain ⟨_, l2, _⟩ := Z0f _ (ls.headD []) p.1 p.2 rfl (Up.1 hm).1
        omega
     omega
   | false =>
     have q2 : (p.1 ++ ls.headD []).length ≤ (putS ps ls.tail (p.1 ++ ls.headD [], p.2)).1.length := U1t ps ls.tail (p.1 ++ ls.headD [], p.2)
     rw [List.length_append] at q2
     rw [cond_false]
     omega
theorem U49 (k : Int) (d : List UInt8) (p : PKt) : p.1.length ≤ (putR k d p).1.length := U1t _ _ _
theorem Q19 {r : RRt} {p : PKt} (hk : kOk p.2 = true) (hm : recV r = true) : kOk (Z4 r.1 p.1 p.2).2 = true ∧ (Z4 r.1 p.1 p.2).1.length ≤ p.1.length + r.1.length ∧ (Z4 r.1 p.1 p.2).2.length ≤ p.2.length + r.1.length ∧ kOk (p2R r p).2 = true ∧ (S1R r p).length ≤ (p2R r p).1.length ∧ (p2R r p).1.length ≤ (S1R r p).length + r.2.2.2.2.length ∧ (p2R r p).2.length ≤ (Z4 r.1 p.1 p.2).2.length + r.2.2.2.2.length := by
 obtain ⟨m1, m2⟩ := Bool.and_eq_true_iff.1 (show (mayV r.1 && mayR r.2.1 r.2.2.2.2) = true from hm)
 obtain ⟨a1, a2, a3⟩ := X20 (p := p) m1 hk
 obtain ⟨b1, b2, b3⟩ := Z3e (p := (S1R r p, (Z4 r.1 p.1 p.2).2)) m2 a1
 exact ⟨a1, a2, a3, b1, U49 r.2.1 r.2.2.2.2 (S1R r p, (Z4 r.1 p.1 p.2).2), b2, b3⟩
theorem Q41 {S : List UInt8} {a : Nat} (h2 : 2 ≤ a) (h : a ≤ S.length) : (clV S a).length = S.length := by
 unfold clV
 rw [List.length_append, List.length_append, List.length_take, List.length_drop, Qn]
 omega
def Q0k : OSpec := Q4f.like fun (r, _) (_, b, m, _) => .br (pkS b m && rOk r) (.br (recV r) (.ret ([.int .i64 0], pkO (J0 (recP r (Z0 b, m)).1) (recP r (Z0 b, m)).2)) (.ret ([.int .i64 1], pkO b m))) .no
theorem Z4w : Q0k.Ok Try.prog := by
 refine Uh ok124 _ ?_
 rintro ⟨(r : RRt), _⟩ ⟨_, (b : List Int), (m : V7), _⟩ y h
 simp only [Tr.get] at h
 cases hc : pkS b m && rOk r with
 | false => rw [hc] at h; cases h
 | true =>
   rw [hc, cond_true] at h
   obtain ⟨h1, h2⟩ := Bool.and_eq_true_iff.1 hc
   obtain ⟨b1, b2, b3⟩ := X2u.1 h1
   obtain ⟨r1, r2, r3, r4, r5⟩ := X2r.1 h2
   have hbig : Uw r = true := by unfold Uw; rw [Qw (show r.1.length ≤ _ by omega), Qw (show r.2.2.2.2.length ≤ _ by omega)]; rfl
   refine Tr.get_of_all ?_
   show (t124 r b m).all _
   unfold t124
   cases hm : recV r with
   | false =>
     rw [hm, cond_false] at h
     cases h
     exact Tr.all_t hbig (Tr.all_t rfl (Tr.all_ret rfl))
   | true =>
     rw [hm, cond_true] at h
     cases h
     obtain ⟨m1, m2⟩ := Bool.and_eq_true_iff.1 (show (mayV r.1 && mayR r.2.1 r.2.2.2.2) = true from hm)
     obtain ⟨a1, a2, a3, a4, a5, a6, a7⟩ := Q19 (p := (Z0 b, m)) b2 hm
     have hl := Zg b
     have hs1 := V2v r (Z0 b, m)
     have hz : [(0 : Ty.den (Ty.int .u8)), (0 : Ty.den (Ty.int .u8))] = J0 [0, 0] := rfl
     have hS : (Z4 r.1 (Z0 b) m).1 ++ (X1 r.2.1 ++ X1 r.2.2.1 ++ U7 r.2.2.2.1) ++ [0, 0] = S1R r (Z0 b, m) := rfl
     have hp2 : putR r.2.1 r.2.2.2.2 (S1R r (Z0 b, m), (Z4 r.1 (Z0 b) m).2) = p2R r (Z0 b, m) := rfl
     have hhl : (X1 r.2.1 ++ X1 r.2.2.1 ++ U7 r.2.2.2.1).length = 8 := rfl
     simp only [hz, ← Jc, Vj, J2, hS, hp2, List.length_append, hhl]
     simp only at a1 a2 a3 hs1
     have hk1 : pkC b m = true := by unfold pkC; rw [b1, b2, Nat.ble_eq_true_of_le (by omega)]; rfl
     refine Tr.all_t hbig (Tr.all_f rfl (Tr.all_t (by rw [hk1, Nat.ble_eq_true_of_le (by omega)]; rfl) (Tr.all_t m1 (Tr.all_t r2 (Tr.all_t r3 (Tr.all_t r4 (Tr.all_t (Q6 (by omega) (by omega)) (Tr.all_t (Nat.ble_eq_true_of_le (by omega)) (Tr.all_t ?_ (Tr.all_t m2 (Tr.all_t (Nat.ble_eq_true_of_le (by omega)) (Tr.all_t ?_ (Tr.all_ret ?_)))))))))))))
     · rw [U1u.2 ⟨Vc _, a1, by rw [J2]; omega⟩, Nat.ble_eq_true_of_le r5]
       rfl
     · have h3 : (2 : Int) ≤ (((Z4 r.1 (Z0 b) m).1.length + 8 : Nat) : Int) + 2 := by omega
       have h4 : (((Z4 r.1 (Z0 b) m).1.length + 8 : Nat) : Int) + 2 ≤ ((p2R r (Z0 b, m)).1.length : Int) := by omega
       exact Bool.and_eq_true_iff.2 ⟨decide_eq_true h3, decide_eq_true h4⟩
     · have hcl := J1z (p2R r (Z0 b, m)).1 ((Z4 r.1 (Z0 b) m).1.length + 8)
       rw [hcl, show (Z4 r.1 (Z0 b) m).1.length + 8 + 2 = (S1R r (Z0 b, m)).length by omega]
       rfl
def t113 (s : List UInt8) (at_ : Int) (bad : Bool) : Tr Res := .br (bigS s) (.br bad (.ret ([.str (tkS (Q4 s at_ at_ (-1 : Int) []))], [.boxT none [.str s, .int .i64 (tkN (Q4 s at_ at_ (-1 : Int) [])), .bool true]])) (.ret ([.str (tkS (Q4 s at_ at_ (-1 : Int) []))], [.boxT none [.str s, .int .i64 (tkN (Q4 s at_ at_ (-1 : Int) [])), .bool (tkE (Q4 s at_ at_ (-1 : Int) []) != 0)]]))) .no
def U4h : OSpec := { f := 113, sh := [.ptr 0 0, .fnp 114 []], so := [.box [.d .str false, .d (.int .i64) false, .d .bool false]], F := fun _ ((s, at_, bad, _), _) => t113 s at_ bad }
theorem fn113 (s : List UInt8) (at_ : Int) (bad : Bool) : evC T0 (orcB [Q02, Zo, U2r] []) (lpOf h113 1 (lsOf [])) c113 1000000 (V1 [.ptr 0 0, .fn 114 []] [.box [.str s, .int .i64 at_, .bool bad]] Try.f113.ntmps) (J1 T0 false 1 Try.f113) = (t113 s at_ bad).get := by kernel_rfl
theorem ok113 : U4h.Ok Try.prog := by
 refine V3 X2 tab0 (V0 (all_cons Q14 (all_cons U1d (all_cons Z2m all_nil))) all_nil) h113 (d := 0) (n0 := 1) (S := lsOf []) Try.func113 (by kernel_rfl) (c := c113) (by kernel_rfl) rfl (U2 (by kernel_rfl)) (by omega) (by kernel_rfl) ?_
 intro x'' y'' q'' hq''
 obtain ⟨⟨(s : List UInt8), (at_ : Int), (bad : Bool), _⟩, _⟩ := y''
 exact (fn113 s at_ bad).trans hq''
def t88 (s : List UInt8) (at_ : Int) (bad : Bool) : Tr Res := .br (bigS s) (.br (Q1 s at_ 2) (.br bad (.ret ([.int .u16 (n16 s at_)], [.boxT none [.str s, .int .i64 (at_ + (2 : Ty.den (Ty.int .i64))), .bool true]])) (.ret ([.int .u16 (n16 s at_)], [.boxT none [.str s, .int .i64 (at_ + (2 : Ty.den (Ty.int .i64))), .bool (0 != 0)]]))) (.br bad (.ret ([.int .u16 0], [.boxT none [.str s, .int .i64 0, .bool true]])) (.ret ([.int .u16 0], [.boxT none [.str s, .int .i64 0, .bool (2 != 0)]])))) .no
def os88 : OSpec := { f := 88, sh := [.ptr 0 0, .fnp 84 []], so := [.box [.d .str false, .d (.int .i64) false, .d .bool false]], F := fun _ ((s, at_, bad, _), _) => t88 s at_ bad }
theorem fn88 (s : List UInt8) (at_ : Int) (bad : Bool) : evC T0 (orcB [Q02, Zo, U2r] []) (lpOf h88 1 (lsOf [])) c88 1000000 (V1 [.ptr 0 0, .fn 84 []] [.box [.str s, .int .i64 at_, .bool bad]] Try.f88.ntmps) (J1 T0 false 1 Try.f88) = (t88 s at_ bad).get := by kernel_rfl
theorem ok88 : os88.Ok Try.prog := by
 refine V3 X2 tab0 (V0 (all_cons Q14 (all_cons U1d (all_cons Z2m all_nil))) all_nil) h88 (d := 0) (n0 := 1) (S := lsOf []) Try.func88 (by kernel_rfl) (c := c88) (by kernel_rfl) rfl (U2 (by kernel_rfl)) (by omega) (by kernel_rfl) ?_
 intro x'' y'' q'' hq''
 obtain ⟨⟨(s : List UInt8), (at_ : Int), (bad : Bool), _⟩, _⟩ := y''
 exact (fn88 s at_ bad).trans hq''
def t86 (s : List UInt8) (at_ : Int) (bad : Bool) : Tr Res := .br (bigS s) (.br (Q1 s at_ 4) (.br bad (.ret ([.int .u32 (n32 s at_)], [.boxT none [.str s, .int .i64 (at_ + (4 : Ty.den (Ty.int .i64))), .bool true]])) (.ret ([.int .u32 (n32 s at_)], [.boxT none [.str s, .int .i64 (at_ + (4 : Ty.den (Ty.int .i64))), .bool (0 != 0)]]))) (.br bad (.ret ([.int .u32 0], [.boxT none [.str s, .int .i64 0, .bool true]])) (.ret ([.int .u32 0], [.boxT none [.str s, .int .i64 0, .bool (2 != 0)]])))) .no
def os86 : OSpec := { f := 86, sh := [.ptr 0 0, .fnp 87 []], so := [.box [.d .str false, .d (.int .i64) false, .d .bool false]], F := fun _ ((s, at_, bad, _), _) => t86 s at_ bad }
theorem fn86 (s : List UInt8) (at_ : Int) (bad : Bool) : evC T0 (orcB [Q02, Zo, U2r] []) (lpOf h86 1 (lsOf [])) c86 1000000 (V1 [.ptr 0 0, .fn 87 []] [.box [.str s, .int .i64 at_, .bool bad]] Try.f86.ntmps) (J1 T0 false 1 Try.f86) = (t86 s at_ bad).get := by kernel_rfl
theorem ok86 : os86.Ok Try.prog := by
 refine V3 X2 tab0 (V0 (all_cons Q14 (all_cons U1d (all_cons Z2m all_nil))) all_nil) h86 (d := 0) (n0 := 1) (S := lsOf []) Try.func86 (by kernel_rfl) (c := c86) (by kernel_rfl) rfl (U2 (by kernel_rfl)) (by omega) (by kernel_rfl) ?_
 intro x'' y'' q'' hq''
 obtain ⟨⟨(s : List UInt8), (at_ : Int), (bad : Bool), _⟩, _⟩ := y''
 exact (fn86 s at_ bad).trans hq''
end Go.Proofs.YtpledbapngdkeaaE
