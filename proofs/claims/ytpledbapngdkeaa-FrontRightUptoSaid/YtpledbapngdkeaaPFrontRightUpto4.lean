import Derived.Test.YtpledbapngdkeaaPFrontRightUpto3
set_option maxRecDepth 1000000
namespace Go.Proofs.YtpledbapngdkeaaE
open Go Go.Proofs.YtpledbapngdkeaaB
set_option linter.unusedVariables false
set_option linter.unusedSimpArgs false
def U4k (s : List UInt8) : List (List UInt8) := (Qb s).1
def Vp (s : List UInt8) : Bool := (Qb s).2 == [0]
theorem U2j {F : Nat → Prop} {w : World} : ∀ (l : List (List UInt8)), EncL F w .str l (strs l)
 | [] => by simp [EncL, strs]
 | x :: l => by
   simp only [EncL]
   exact ⟨[.string ⟨x.toArray⟩], strs l, rfl, rfl, U2j l⟩
theorem Z48 {w : World} {base : Nat} {v : Value} {l : List (List UInt8)} (h : w.ownsRow base 9 1 v l.length (strs l)) {F : Nat → Prop} (hF : ∀ b, v.ownBlock = some b → F b) : Enc F w (.list .str) l [v] := by
 refine Qh.2 ?_
 rcases h.2 with ⟨rfl, h0⟩ | ⟨g, cap, cur, rfl, hb, hg, hle, hcap, hcs, htk⟩
 · have : l = [] := List.length_eq_zero_iff.1 h0
   subst this
   exact ⟨none, 0, rfl, by simp, fun _ => rfl, fun a ha => by cases ha⟩
 · refine ⟨some ⟨g, 0, none⟩, cap, rfl, hle, fun h => (by cases h), fun a ha _ => ?_⟩
   cases ha
   refine ⟨rfl, hF g rfl, U34 (U2j l) fun j u hu => ?_⟩
   have := h.cells (g := g) rfl j u hu
   rw [Je] at this
   exact this
theorem Z2v (s : List UInt8) (hb : bigS s = true) : SemF Try.prog 90 [.str s] []
    (if (Qb s).2 = [0] then (if s.length ≤ 255 then [.list .str (U4k s), .int .i64 0] else [.list .str [], .int .i64 3]) else [.list .str [], .int .i64 2]) [] := by
 have hs : s.length ≤ 1000000000000 := by simpa [bigS] using hb
 refine ⟨⟨_, Try.func90, by decide, by kernel_rfl⟩, fun w μ F us hh hv => ?_⟩
 simp only [J1, VRel] at hv
 obtain ⟨u, us', rfl, rfl, rfl⟩ := hv
 have h := callsIn_wide.1 (J3c 3 (by omega) s hs w)
 refine h.mono ?_
 rintro e w' ⟨v, rfl, u, en, rfl, hB, hc⟩
 have hμ : ∀ k, μ k = .none := fun k => hh.top k (by simp)
 refine ⟨_, rfl, fun _ => .none, fun b => F b ∨ (w.heap.size ≤ b ∧ b < w'.heap.size), ?_, ⟨fun k hk => by simp at hk, fun _ _ => rfl, fun k k' b h => by simp [Pl.owns] at h, fun k b h => by simp [Pl.owns] at h, fun b hb => ?_⟩,
  ⟨hB.os, hB.tape, hB.output, hB.size, fun b hb _ => hB.block b hb, fun b hb => .inl hb, fun b hb => ?_, fun k b h => by simp [Pl.owns] at h⟩, by simp, fun k b hk => by simp at hk, fun k b hk => by simp at hk⟩
 · rcases hc with ⟨h1, rfl, rfl⟩ | ⟨h1, h2, rfl, rfl⟩ | ⟨h1, h2, rfl, hrow⟩
   · rw [if_neg h1]
     simp only [Q9, VRel, J1]
     exact ⟨_, rfl, _, _, rfl, ⟨none, 0, rfl, by simp, fun _ => rfl, fun a ha => by cases ha⟩, _, _, rfl, rfl, rfl⟩
   · rw [if_pos h1, if_neg (by omega)]
     simp only [Q9, VRel, J1]
     exact ⟨_, rfl, _, _, rfl, ⟨none, 0, rfl, by simp, fun _ => rfl, fun a ha => by cases ha⟩, _, _, rfl, rfl, rfl⟩
   · rw [if_pos h1, if_pos h2]
     simp only [Q9, VRel, J1]
     refine ⟨_, rfl, _, _, rfl, Z48 hrow (fun b hb => .inr ?_), _, _, rfl, rfl, rfl⟩
     have := hrow.lt b hb
     omega
 · rcases hb with hb | hb
   · exact Nat.lt_of_lt_of_le (hh.inn b hb) hB.size
   · exact hb.2
 · rcases hb with hb | hb
   · exact .inl hb
   · exact .inr (.inr hb.1)
def fs90 : FSpec := { f := 90, ins := [(.str, false)], outs := [(.list .str, false), (.int .i64, false)], F := fun (s, _) => .br (bigS s) (.br (Vp s) (.br (decide (s.length > 255)) (.ret (([] : List (List UInt8)), (3 : Int), ())) (.ret (U4k s, (0 : Int), ()))) (.ret (([] : List (List UInt8)), (2 : Int), ()))) .no }
theorem Q4m : fs90.Ok Try.prog := by
 rintro ⟨(s : List UInt8), _⟩ y h
 simp only [fs90, Tr.get] at h
 cases hb : bigS s with
 | false => rw [hb] at h; cases h
 | true =>
   rw [hb, cond_true] at h
   have := Z2v s hb
   cases hr : Vp s with
   | false =>
     rw [hr, cond_false] at h
     cases h
     have hne : (Qb s).2 ≠ [0] := by simpa [Vp] using hr
     rw [if_neg hne] at this
     exact this
   | true =>
     rw [hr, cond_true] at h
     have he : (Qb s).2 = [0] := by simpa [Vp] using hr
     rw [if_pos he] at this
     by_cases hl : s.length ≤ 255
     · rw [if_pos hl] at this
       rw [show decide (s.length > 255) = false by simp; omega, cond_false] at h
       cases h
       exact this
     · rw [if_neg hl] at this
       rw [show decide (s.length > 255) = true by simp; omega, cond_true] at h
       cases h
       exact this
def bldO (self : AV) (r : AV) : LObj := .boxT (some 203) [self, r]
theorem J1u {us : List Value} {μ : Nat → Pl} {F : Nat → Prop} {w : World} {x y : AV} (h : J1 μ F w [x, y] us) : ∃ u v, us = [u, v] ∧ VRel μ F w x u ∧ VRel μ F w y v := by
 simp only [J1] at h
 obtain ⟨u, _, rfl, h1, v, _, rfl, h2, rfl⟩ := h
 exact ⟨u, v, rfl, h1, h2⟩
theorem U1v (new : Bool) (xs : List Int) : SemF Try.prog 151 [.ptr 0 0] [bldO (if new then .np else .ptr 0 0) (.rowA 1), .row (.int .u8) xs] [] [bldO (.ptr 0 0) (.rowA 1), .row (.int .u8) xs] := by
 refine ⟨⟨_, Try.func151, by decide, by kernel_rfl⟩, fun w μ F us hh hv => ?_⟩
 simp only [J1, VRel] at hv
 obtain ⟨u, us', rfl, ⟨b, hb, rfl⟩, rfl⟩ := hv
 have h0 := hh.obj 0 (by simp)
 have h1 := hh.obj 1 (by simp)
 rw [hb] at h0
 simp only [ofHp, bldO, ORel] at h0
 obtain ⟨us, E, fz, g1, g2, g3, g4, g5⟩ := h0
 obtain ⟨u0, u1, rfl, r0, r1⟩ := J1u g3
 have hE : E = 203 := g5 203 rfl
 subst hE
 have hF0 := hh.out 0 b (by rw [hb]; rfl)
 cases new with
 | false =>
   simp only [Bool.false_eq_true, if_false, VRel] at r0
   obtain ⟨b', hb', rfl⟩ := r0
   rw [hb] at hb'
   cases hb'
   have h := Q2l b w (by simp [World.cell?, g1])
   refine h.mono ?_
   rintro e w' ⟨rfl, rfl⟩
   refine ⟨_, rfl, μ, F, by simp [Q9, VRel, J1], ?_, ⟨rfl, rfl, rfl, Nat.le_refl _, fun _ _ _ => rfl, fun _ h => h, fun _ h => .inl h, fun k b h => .inl ⟨k, h⟩⟩, by simp, fun k b _ h => h, fun k b _ h => h⟩
   simpa using hh
 | true =>
   simp only [if_true, VRel] at r0
   subst r0
   have hfree := g2 0 (by simp)
   have h := J37 b u1 fz w g1 (by simpa using hfree)
   refine h.mono ?_
   rintro e w' ⟨rfl, rfl⟩
   have ot : ∀ j, j ≠ b → (w.setCell ⟨b, 0, none⟩ (.pointer (some ⟨b, 0, none⟩))).heap[j]? = w.heap[j]? := fun j hj => Go.RowKit.Below.heap_setCell _ _ _ _ hj
   have at_ : (w.setCell ⟨b, 0, none⟩ (.pointer (some ⟨b, 0, none⟩))).heap[b]? = some (.cells #[.pointer (some ⟨b, 0, none⟩), u1] 203 fz) := by
    simp [World.setCell, Array.getElem?_modify, g1]
   have hFw : ∀ b', F b' → (w.setCell ⟨b, 0, none⟩ (.pointer (some ⟨b, 0, none⟩))).heap[b']? = w.heap[b']? := fun b' hb' => ot b' (fun e => hF0.1 (e ▸ hb'))
   have hsz : (w.setCell ⟨b, 0, none⟩ (.pointer (some ⟨b, 0, none⟩))).heap.size = w.heap.size := by simp [World.setCell]
   refine ⟨_, rfl, μ, F, by simp [Q9, VRel, J1], ⟨fun k hk => ?_, hh.top, hh.one, fun k b' hk => by rw [hsz]; exact hh.out k b' hk, fun b' hb' => by rw [hsz]; exact hh.inn b' hb'⟩,
    ⟨rfl, rfl, rfl, by rw [hsz]; exact Nat.le_refl _, fun b' _ hn => ot b' (fun e => hn ⟨0, by rw [hb, e]; rfl⟩), fun _ h => h, fun _ h => .inl h, fun k b h => .inl ⟨k, h⟩⟩, by simp, fun k b _ h => h, fun k b _ h => h⟩
   match k, hk with
   | 0, _ =>
     rw [hb]
     simp only [ofHp, bldO, ORel]
     refine ⟨[.pointer (some ⟨b, 0, none⟩), u1], 203, fz, at_, g2, ?_, ?_, fun n hn => (Option.some.inj hn)⟩
     · simp only [J1]
       exact ⟨_, _, rfl, by simp only [VRel]; exact ⟨b, hb, rfl⟩, _, _, rfl, Xt (fun _ h => h) hFw (fun _ _ => rfl) r1, rfl⟩
     · intro u hu
       simp at hu
       rcases hu with rfl | rfl
       · rfl
       · exact g4 _ (by simp)
   | 1, _ =>
     simp only [ofHp] at h1 ⊢
     exact Vb (fun _ h => h) hFw (fun b' hb' => ot b' (fun e => by
      have := hh.one 1 0 b' hb' (by rw [hb, e]; rfl)
      omega)) (by simp [LObj.refs]) h1
def V1s : OSpec := { f := 151, sh := [.ptr 0 0], so := [.tbox 203 [.np, .row 1], .row (.int .u8)], F := fun _ (_, xs, _) => .ret ([], [.boxT (some 203) [.ptr 0 0, .rowA 1], .row (.int .u8) xs]) }
def Q0z : OSpec := { f := 151, sh := [.ptr 0 0], so := [.tbox 203 [.ptr 0 0, .row 1], .row (.int .u8)], F := fun _ (_, xs, _) => .ret ([], [.boxT (some 203) [.ptr 0 0, .rowA 1], .row (.int .u8) xs]) }
theorem V29 : V1s.Ok Try.prog := by
 rintro x y r h
 obtain ⟨_, (xs : List Int), _⟩ := y
 cases h
 exact U1v true xs
theorem Q19 : Q0z.Ok Try.prog := by
 rintro x y r h
 obtain ⟨_, (xs : List Int), _⟩ := y
 cases h
 exact U1v false xs
theorem X2l {xs : List Int} (h : V5 xs = true) : ∀ (j : Nat) (x : UInt8), (Z0 xs)[j]? = some x → xs[j]? = some (x.toNat : Int) := fun j x hx => by
 simp only [Z0, List.getElem?_map, Option.map_eq_some_iff] at hx
 obtain ⟨n, hn, rfl⟩ := hx
 have := List.all_eq_true.1 h n (List.mem_of_getElem? hn)
 simp only [Bool.and_eq_true, decide_eq_true_eq] at this
 rw [hn]
 congr 1
 simp
 omega
theorem X2k (xs : List Int) (hok : V5 xs = true) (hne : xs ≠ []) (hlen : xs.length ≤ 9223372036854775807) : SemF Try.prog 137 [.ptr 0 0] [bldO (.ptr 0 0) (.rowA 1), .row (.int .u8) xs] [.str (Z0 xs)] [bldO (.ptr 0 0) .dead, .gone] := by
 refine ⟨⟨_, Try.func137, by decide, by kernel_rfl⟩, fun w μ F us hh hv => ?_⟩
 simp only [J1, VRel] at hv
 obtain ⟨u, us', rfl, ⟨b, hb, rfl⟩, rfl⟩ := hv
 have h0 := hh.obj 0 (by simp)
 have h1 := hh.obj 1 (by simp)
 rw [hb] at h0
 simp only [ofHp, bldO, ORel] at h0
 obtain ⟨us, E, fz, g1, g2, g3, g4, g5⟩ := h0
 obtain ⟨u0, u1, rfl, r0, r1⟩ := J1u g3
 simp only [VRel] at r0 r1
 obtain ⟨b', hb', rfl⟩ := r0
 rw [hb] at hb'
 cases hb'
 obtain ⟨al, len, cap, sz, A, hμ1, rfl, hA⟩ := r1
 simp only [ofHp] at h1
 rw [hμ1] at h1
 simp only [ORel] at h1
 obtain ⟨rfl, rfl, hle, hcap0, hrow⟩ := h1
 have hpos : 0 < xs.length := List.length_pos_iff.2 hne
 have hcapne : cap ≠ 0 := by omega
 cases al with
 | none => exact absurd (hcap0 rfl) hcapne
 | some go =>
   obtain ⟨g, o⟩ := go
   have hAeq := hA hcapne
   simp only [Zu] at hAeq
   subst hAeq
   obtain ⟨cs, E2, fz2, k1, k2, k3, k4, k5⟩ := hrow g o rfl hcapne
   have hE2 : E2 = 5 := k5 rfl
   subst hE2
   simp only [Ty.sz, Nat.mul_one] at k3 k4
   have hl : (Z0 xs).length = xs.length := by simp [Z0]
   have hgb : g ≠ b := fun e => by
    have := hh.one 1 0 b (by rw [hμ1]; simp [Pl.owns, hcapne, e]) (by rw [hb]; rfl)
    omega
   have h := U2i b g o cap cs.length (Z0 xs) w (by rw [hl]; simp [World.cell?, g1]) hcapne (by simp [World.shape?, k1]) (by simpa [Z0] using hne) (by omega) (by omega) (fun j x hx => by
    have hb := X2l hok j x hx
    obtain ⟨vs, e1, e2, e3⟩ := k4 j _ hb
    simp only [Enc] at e1
    subst e1
    have := e3 0 _ rfl
    rw [Je]
    simp [World.cell?, k1, this]
    simpa using this)
   refine h.mono ?_
   rintro e w' ⟨rfl, rfl⟩
   have ot : ∀ j, j ≠ g → (w.drew.freeze ⟨g, o, none⟩ (Z0 xs).length).heap[j]? = w.heap[j]? := fun j hj => by
    unfold World.freeze
    split
    · rfl
    · simp only [Array.getElem?_modify]
      rw [if_neg (by omega)]
      rfl
   have hsz : (w.drew.freeze ⟨g, o, none⟩ (Z0 xs).length).heap.size = w.heap.size := by
    unfold World.freeze
    split
    · rfl
    · simp
   have hF1 := hh.out 1 g (by rw [hμ1]; simp [Pl.owns, hcapne])
   have how : ∀ k b', (Ui μ 1 .none k).owns = some b' → (μ k).owns = some b' := fun k b' hk => by
    by_cases h : k = 1
    · subst h; rw [Zc] at hk; cases hk
    · rwa [Va h] at hk
   refine ⟨_, rfl, Ui μ 1 .none, F, by simp [Q9, VRel], ⟨fun k hk => ?_, fun k hk => ?_, fun k k' b' h1 h2 => hh.one k k' b' (how k b' h1) (how k' b' h2), fun k b' hk => by rw [hsz]; exact hh.out k b' (how k b' hk), fun b' hb' => by rw [hsz]; exact hh.inn b' hb'⟩,
    ⟨?_, ?_, ?_, by rw [hsz]; exact Nat.le_refl _, fun b' _ hn => ot b' (fun e => hn ⟨1, by rw [hμ1, e]; simp [Pl.owns, hcapne]⟩), fun _ h => h, fun _ h => .inl h, fun k b' h => .inl ⟨k, how k b' h⟩⟩, by simp, fun k b' hk h => ?_, fun k b' hk h => ?_⟩
   · match k, hk with
     | 0, _ =>
       rw [Va (by omega), hb]
       simp only [ofHp, bldO, ORel]
       refine ⟨_, 203, fz, by rw [ot b (fun e => hgb e.symm), g1, g5 203 rfl], g2, ?_, g4, fun n hn => (Option.some.inj hn)⟩
       simp only [J1, VRel]
       exact ⟨_, _, rfl, ⟨b, by rw [Va (by omega)]; exact hb, rfl⟩, _, _, rfl, trivial, rfl⟩
     | 1, _ =>
       rw [Zc]
       simp only [ofHp, ORel]
   · by_cases h : k = 1
     · subst h; exact Zc _ _ _
     · rw [Va h]; exact hh.top k hk
   · unfold World.freeze; split <;> rfl
   · unfold World.freeze; split <;> rfl
   · unfold World.freeze; split <;> rfl
   · have : k ≠ 1 := fun e => by subst e; rw [hμ1] at h; cases h
     rw [Va this]; exact h
   · have : k ≠ 1 := fun e => by subst e; rw [hμ1] at h; cases h
     rw [Va this]; exact h
def U0c : OSpec := { f := 137, sh := [.ptr 0 0], so := [.tbox 203 [.ptr 0 0, .row 1], .row (.int .u8)], F := fun _ (_, xs, _) => .on (V5 xs && (!xs.isEmpty && Nat.ble xs.length 9223372036854775807)) ([.str (Z0 xs)], [.boxT (some 203) [.ptr 0 0, .dead], .gone]) }
theorem okStr : U0c.Ok Try.prog := by
 rintro x y r h
 obtain ⟨_, (xs : List Int), _⟩ := y
 obtain ⟨hc, rfl⟩ := Tr.get_on h
 simp only [Bool.and_eq_true] at hc
 exact X2k xs hc.1 (by intro e; rw [e] at hc; simp at hc) (Nat.le_of_ble_eq_true hc.2.2)
open Go
def J4j (b : List Int) : Tr Res := .ret ([.int .i64 (↑b.length : Int)], [.boxT (some 203) [.np, .rowA 1], .row (.int .u8) b])
def Z00 : OSpec := { f := 134, sh := [.ptr 0 0], so := [.tbox 203 [.np, .row 1], .row (.int .u8)], F := fun _ (_, b, _) => J4j b }
theorem J53 (b : List Int) : evC T0 (orcB [] [V1s, Q0z]) (lpOf h134 2 (lsOf [])) c134 1000000 (V1 [.ptr 0 0] [.boxT (some 203) [.np, .rowA 1], .row (.int .u8) b] Try.f134.ntmps) (Z1 T0 false 2 Try.f134) = (J4j b).get := by kernel_rfl
theorem Q4r : Z00.Ok Try.prog := by
 refine J4 U2 tab0 (U0 all_nil (all_cons V29 (all_cons Q19 all_nil))) h134 (d := 0) (n0 := 2) (S := lsOf []) Try.func134 (by kernel_rfl) (c := c134) (by kernel_rfl) rfl (Z3 (by kernel_rfl)) (by omega) (by kernel_rfl) ?_
 intro x'' y'' q'' hq''
 obtain ⟨_, (b : List Int), _⟩ := y''
 exact (J53 b).trans hq''
def Z4p (b : List Int) : Tr Res := .ret ([.int .i64 (↑b.length : Int)], [.boxT (some 203) [.ptr 0 0, .rowA 1], .row (.int .u8) b])
def Zz : OSpec := { f := 134, sh := [.ptr 0 0], so := [.tbox 203 [.ptr 0 0, .row 1], .row (.int .u8)], F := fun _ (_, b, _) => Z4p b }
theorem U4t (b : List Int) : evC T0 (orcB [] [V1s, Q0z]) (lpOf h134 2 (lsOf [])) c134 1000000 (V1 [.ptr 0 0] [.boxT (some 203) [.ptr 0 0, .rowA 1], .row (.int .u8) b] Try.f134.ntmps) (Z1 T0 false 2 Try.f134) = (Z4p b).get := by kernel_rfl
theorem Z53 : Zz.Ok Try.prog := by
 refine J4 U2 tab0 (U0 all_nil (all_cons V29 (all_cons Q19 all_nil))) h134 (d := 0) (n0 := 2) (S := lsOf []) Try.func134 (by kernel_rfl) (c := c134) (by kernel_rfl) rfl (Z3 (by kernel_rfl)) (by omega) (by kernel_rfl) ?_
 intro x'' y'' q'' hq''
 obtain ⟨_, (b : List Int), _⟩ := y''
 exact (U4t b).trans hq''
def U4l (c : Int) (b : List Int) : Tr Res := .br (fits (List.length b + 1) 1) (.ret ([.dead], [.boxT (some 203) [.ptr 0 0, .rowA 1], .row (.int .u8) (b ++ [c])])) .no
def V00 : OSpec := { f := 135, sh := [.ptr 0 0, .d (.int .u8) false], so := [.tbox 203 [.np, .row 1], .row (.int .u8)], F := fun (c, _) (_, b, _) => U4l c b }
theorem V4s (c : Int) (b : List Int) : evC T0 (orcB [] [V1s, Q0z]) (lpOf h135 2 (lsOf [])) c135 1000000 (V1 [.ptr 0 0, .int .u8 c] [.boxT (some 203) [.np, .rowA 1], .row (.int .u8) b] Try.f135.ntmps) (Z1 T0 false 2 Try.f135) = (U4l c b).get := by kernel_rfl
theorem X52 : V00.Ok Try.prog := by
 refine J4 U2 tab0 (U0 all_nil (all_cons V29 (all_cons Q19 all_nil))) h135 (d := 0) (n0 := 2) (S := lsOf []) Try.func135 (by kernel_rfl) (c := c135) (by kernel_rfl) rfl (Z3 (by kernel_rfl)) (by omega) (by kernel_rfl) ?_
 intro x'' y'' q'' hq''
 obtain ⟨(c : Int), _⟩ := x''
 obtain ⟨_, (b : List Int), _⟩ := y''
 exact (V4s c b).trans hq''
def Q4l (c : Int) (b : List Int) : Tr Res := .br (fits (List.length b + 1) 1) (.ret ([.dead], [.boxT (some 203) [.ptr 0 0, .rowA 1], .row (.int .u8) (b ++ [c])])) .no
def Vz : OSpec := { f := 135, sh := [.ptr 0 0, .d (.int .u8) false], so := [.tbox 203 [.ptr 0 0, .row 1], .row (.int .u8)], F := fun (c, _) (_, b, _) => Q4l c b }
theorem V4z (c : Int) (b : List Int) : evC T0 (orcB [] [V1s, Q0z]) (lpOf h135 2 (lsOf [])) c135 1000000 (V1 [.ptr 0 0, .int .u8 c] [.boxT (some 203) [.ptr 0 0, .rowA 1], .row (.int .u8) b] Try.f135.ntmps) (Z1 T0 false 2 Try.f135) = (Q4l c b).get := by kernel_rfl
theorem V4w : Vz.Ok Try.prog := by
 refine J4 U2 tab0 (U0 all_nil (all_cons V29 (all_cons Q19 all_nil))) h135 (d := 0) (n0 := 2) (S := lsOf []) Try.func135 (by kernel_rfl) (c := c135) (by kernel_rfl) rfl (Z3 (by kernel_rfl)) (by omega) (by kernel_rfl) ?_
 intro x'' y'' q'' hq''
 obtain ⟨(c : Int), _⟩ := x''
 obtain ⟨_, (b : List Int), _⟩ := y''
 exact (V4z c b).trans hq''
def U4n (s : List UInt8) (b : List Int) : Tr Res := .br (fits (List.length b + List.length (J0 s)) 1) (.ret ([.int .i64 (↑s.length : Int), .dead], [.boxT (some 203) [.ptr 0 0, .rowA 1], .row (.int .u8) (b ++ J0 s)])) .no
def V01 : OSpec := { f := 136, sh := [.ptr 0 0, .d .str false], so := [.tbox 203 [.ptr 0 0, .row 1], .row (.int .u8)], F := fun (s, _) (_, b, _) => U4n s b }
theorem Q4x (s : List UInt8) (b : List Int) : evC T0 (orcB [] [V1s, Q0z]) (lpOf h136 2 (lsOf [])) c136 1000000 (V1 [.ptr 0 0, .str s] [.boxT (some 203) [.ptr 0 0, .rowA 1], .row (.int .u8) b] Try.f136.ntmps) (Z1 T0 false 2 Try.f136) = (U4n s b).get := by kernel_rfl
theorem Z4r : V01.Ok Try.prog := by
 refine J4 U2 tab0 (U0 all_nil (all_cons V29 (all_cons Q19 all_nil))) h136 (d := 0) (n0 := 2) (S := lsOf []) Try.func136 (by kernel_rfl) (c := c136) (by kernel_rfl) rfl (Z3 (by kernel_rfl)) (by omega) (by kernel_rfl) ?_
 intro x'' y'' q'' hq''
 obtain ⟨(s : List UInt8), _⟩ := x''
 obtain ⟨_, (b : List Int), _⟩ := y''
 exact (Q4x s b).trans hq''
def t97 : Tr Res := .ret ([.ptr 0 0], [.boxT none [.rowA 1, .mp 2], .row (.int .u8) [], .mpo .str (.int .i64) []])
def os97 : OSpec := { f := 97, sh := [], so := [], F := fun _ _ => t97 }
theorem fn97 : evC T0 (orcB [] []) (lpOf (hOwn h97) 0 (lsOf [])) c97 1000000 (V1 [] [] Try.f97.ntmps) (Z1 T0 true 0 Try.f97) = (t97).get := by kernel_rfl
theorem ok97 : os97.Ok Try.prog := by
 refine J4 U2 tab0 (U0 all_nil all_nil) (hOwn h97) (d := 0) (n0 := 0) (S := lsOf []) Try.func97 (by kernel_rfl) (c := c97) (by kernel_rfl) rfl (Z3 (by kernel_rfl)) (by omega) (by kernel_rfl) ?_
 intro x'' y'' q'' hq''
 exact (fn97).trans hq''
def t98 (s : List UInt8) (b : List Int) (l : List (List UInt8 × Int)) : Tr Res := .br (fits (List.length b + List.length (J0 s)) 1) (.ret ([], [.boxT none [.rowA 1, .mp 2], .row (.int .u8) (b ++ J0 s), .mpo .str (.int .i64) l])) .no
def os98 : OSpec := { f := 98, sh := [.ptr 0 0, .d .str false], so := [.box [.row 1, .mp 2], .row (.int .u8), .map .str (.int .i64)], F := fun (s, _) (_, b, l, _) => t98 s b l }
theorem fn98 (s : List UInt8) (b : List Int) (l : List (List UInt8 × Int)) : evC T0 (orcB [] []) (lpOf h98 3 (lsOf [])) c98 1000000 (V1 [.ptr 0 0, .str s] [.box [.rowA 1, .mp 2], .row (.int .u8) b, .mpo .str (.int .i64) l] Try.f98.ntmps) (Z1 T0 false 3 Try.f98) = (t98 s b l).get := by kernel_rfl
theorem ok98 : os98.Ok Try.prog := by
 refine J4 U2 tab0 (U0 all_nil all_nil) h98 (d := 0) (n0 := 3) (S := lsOf []) Try.func98 (by kernel_rfl) (c := c98) (by kernel_rfl) rfl (Z3 (by kernel_rfl)) (by omega) (by kernel_rfl) ?_
 intro x'' y'' q'' hq''
 obtain ⟨(s : List UInt8), _⟩ := x''
 obtain ⟨_, (b : List Int), (l : List (List UInt8 × Int)), _⟩ := y''
 exact (fn98 s b l).trans hq''
def t98z (s : List UInt8) : Tr Res := .ret ([], [])
def Z3n : OSpec := { f := 98, sh := [.np, .d .str false], so := [], F := fun (s, _) _ => t98z s }
theorem fn98z (s : List UInt8) : evC T0 (orcB [] []) (lpOf h98 0 (lsOf [])) c98 1000000 (V1 [.np, .str s] [] Try.f98.ntmps) (Z1 T0 false 0 Try.f98) = (t98z s).get := by kernel_rfl
theorem V4m : Z3n.Ok Try.prog := by
 refine J4 U2 tab0 (U0 all_nil all_nil) h98 (d := 0) (n0 := 0) (S := lsOf []) Try.func98 (by kernel_rfl) (c := c98) (by kernel_rfl) rfl (Z3 (by kernel_rfl)) (by omega) (by kernel_rfl) ?_
 intro x'' y'' q'' hq''
 obtain ⟨(s : List UInt8), _⟩ := x''
 exact (fn98z s).trans hq''
def t152 (b : List Int) (l : List (List UInt8 × Int)) : Tr Res := .ret ([.int .i64 (↑b.length : Int)], [.boxT none [.rowA 1, .mp 2], .row (.int .u8) b, .mpo .str (.int .i64) l])
def J3s : OSpec := { f := 152, sh := [.ptr 0 0], so := [.box [.row 1, .mp 2], .row (.int .u8), .map .str (.int .i64)], F := fun _ (_, b, l, _) => t152 b l }
theorem fn152 (b : List Int) (l : List (List UInt8 × Int)) : evC T0 (orcB [] []) (lpOf h152 3 (lsOf [])) c152 1000000 (V1 [.ptr 0 0] [.box [.rowA 1, .mp 2], .row (.int .u8) b, .mpo .str (.int .i64) l] Try.f152.ntmps) (Z1 T0 false 3 Try.f152) = (t152 b l).get := by kernel_rfl
theorem V4p : J3s.Ok Try.prog := by
 refine J4 U2 tab0 (U0 all_nil all_nil) h152 (d := 0) (n0 := 3) (S := lsOf []) Try.func152 (by kernel_rfl) (c := c152) (by kernel_rfl) rfl (Z3 (by kernel_rfl)) (by omega) (by kernel_rfl) ?_
 intro x'' y'' q'' hq''
 obtain ⟨_, (b : List Int), (l : List (List UInt8 × Int)), _⟩ := y''
 exact (fn152 b l).trans hq''
def U4o : Tr Res := .ret ([.int .i64 0], [])
def Z2n : OSpec := { f := 152, sh := [.np], so := [], F := fun _ _ => U4o }
theorem Q4z : evC T0 (orcB [] []) (lpOf h152 0 (lsOf [])) c152 1000000 (V1 [.np] [] Try.f152.ntmps) (Z1 T0 false 0 Try.f152) = (U4o).get := by kernel_rfl
theorem V3f : Z2n.Ok Try.prog := by
 refine J4 U2 tab0 (U0 all_nil all_nil) h152 (d := 0) (n0 := 0) (S := lsOf []) Try.func152 (by kernel_rfl) (c := c152) (by kernel_rfl) rfl (Z3 (by kernel_rfl)) (by omega) (by kernel_rfl) ?_
 intro x'' y'' q'' hq''
 exact (Q4z).trans hq''
def t104 (b : List Int) (l : List (List UInt8 × Int)) : Tr Res := .ret ([.str (Z0 b)], [.boxT none [.rowA 1, .mp 2], .row (.int .u8) b, .mpo .str (.int .i64) l])
def V0b : OSpec := { f := 104, sh := [.ptr 0 0], so := [.box [.row 1, .mp 2], .row (.int .u8), .map .str (.int .i64)], F := fun _ (_, b, l, _) => t104 b l }
theorem fn104 (b : List Int) (l : List (List UInt8 × Int)) : evC T0 (orcB [] []) (lpOf h104 3 (lsOf [])) c104 1000000 (V1 [.ptr 0 0] [.box [.rowA 1, .mp 2], .row (.int .u8) b, .mpo .str (.int .i64) l] Try.f104.ntmps) (Z1 T0 false 3 Try.f104) = (t104 b l).get := by kernel_rfl
theorem ok104 : V0b.Ok Try.prog := by
 refine J4 U2 tab0 (U0 all_nil all_nil) h104 (d := 0) (n0 := 3) (S := lsOf []) Try.func104 (by kernel_rfl) (c := c104) (by kernel_rfl) rfl (Z3 (by kernel_rfl)) (by omega) (by kernel_rfl) ?_
 intro x'' y'' q'' hq''
 obtain ⟨_, (b : List Int), (l : List (List UInt8 × Int)), _⟩ := y''
 exact (fn104 b l).trans hq''
def t141 (b : List Int) (l : List (List UInt8 × Int)) : Tr Res := .br (fits (List.length b + List.length (J0 (V0 0))) 1) (.ret ([.int .i64 (↑(List.length (b ++ J0 (V0 0))) : Int)], [.boxT none [.rowA 1, .mp 2], .row (.int .u8) (b ++ J0 (V0 0)), .mpo .str (.int .i64) l])) .no
def Q4p : OSpec := { f := 141, sh := [.ptr 0 0], so := [.box [.row 1, .mp 2], .row (.int .u8), .map .str (.int .i64)], F := fun _ (_, b, l, _) => t141 b l }
theorem fn141 (b : List Int) (l : List (List UInt8 × Int)) : evC T0 (orcB [Xn] [os98, Z3n, J3s, Z2n]) (lpOf h141 3 (lsOf [])) c141 1000000 (V1 [.ptr 0 0] [.box [.rowA 1, .mp 2], .row (.int .u8) b, .mpo .str (.int .i64) l] Try.f141.ntmps) (Z1 T0 false 3 Try.f141) = (t141 b l).get := by kernel_rfl
theorem ok141 : Q4p.Ok Try.prog := by
 refine J4 U2 tab0 (U0 (all_cons Z11 all_nil) (all_cons ok98 (all_cons V4m (all_cons V4p (all_cons V3f all_nil))))) h141 (d := 0) (n0 := 3) (S := lsOf []) Try.func141 (by kernel_rfl) (c := c141) (by kernel_rfl) rfl (Z3 (by kernel_rfl)) (by omega) (by kernel_rfl) ?_
 intro x'' y'' q'' hq''
 obtain ⟨_, (b : List Int), (l : List (List UInt8 × Int)), _⟩ := y''
 exact (fn141 b l).trans hq''
def t143 (at_ : Int) (b : List Int) (l : List (List UInt8 × Int)) : Tr Res := .br (decide (at_ < 2)) (.ret ([.int .i64 1], [.boxT none [.rowA 1, .mp 2], .row (.int .u8) b, .mpo .str (.int .i64) l])) (.br (decide (at_ > (↑b.length : Int))) (.ret ([.int .i64 1], [.boxT none [.rowA 1, .mp 2], .row (.int .u8) b, .mpo .str (.int .i64) l])) (.br (decide (0 ≤ at_) && decide (at_ ≤ (↑b.length : Int))) (.br (decide (0 ≤ IntKind.wrap .i64 (at_ - 2)) && decide (IntKind.wrap .i64 (at_ - 2) ≤ at_)) (.br (n16C (IntKind.wrap .u16 (IntKind.wrap .i64 ((↑b.length : Int) - at_)))) (.ret ([.int .i64 0], [.boxT none [.rowA 1, .mp 2], .row (.int .u8) (List.take (Int.toNat (IntKind.wrap .i64 (at_ - 2))) b ++ List.take (Int.toNat at_ - Int.toNat (IntKind.wrap .i64 (at_ - 2))) (J0 (V0 (IntKind.wrap .u16 (IntKind.wrap .i64 ((↑b.length : Int) - at_))))) ++ List.drop (Int.toNat (IntKind.wrap .i64 (at_ - 2)) + min (Int.toNat at_ - Int.toNat (IntKind.wrap .i64 (at_ - 2))) (List.length (V0 (IntKind.wrap .u16 (IntKind.wrap .i64 ((↑b.length : Int) - at_)))))) b), .mpo .str (.int .i64) l])) .no) .no) .no))
def J4r : OSpec := { f := 143, sh := [.ptr 0 0, .d (.int .i64) false], so := [.box [.row 1, .mp 2], .row (.int .u8), .map .str (.int .i64)], F := fun (at_, _) (_, b, l, _) => t143 at_ b l }
theorem fn143 (at_ : Int) (b : List Int) (l : List (List UInt8 × Int)) : evC T0 (orcB [Xn] [os98, Z3n, J3s, Z2n]) (lpOf h143 3 (lsOf [])) c143 1000000 (V1 [.ptr 0 0, .int .i64 at_] [.box [.rowA 1, .mp 2], .row (.int .u8) b, .mpo .str (.int .i64) l] Try.f143.ntmps) (Z1 T0 false 3 Try.f143) = (t143 at_ b l).get := by kernel_rfl
theorem ok143 : J4r.Ok Try.prog := by
 refine J4 U2 tab0 (U0 (all_cons Z11 all_nil) (all_cons ok98 (all_cons V4m (all_cons V4p (all_cons V3f all_nil))))) h143 (d := 0) (n0 := 3) (S := lsOf []) Try.func143 (by kernel_rfl) (c := c143) (by kernel_rfl) rfl (Z3 (by kernel_rfl)) (by omega) (by kernel_rfl) ?_
 intro x'' y'' q'' hq''
 obtain ⟨(at_ : Int), _⟩ := x''
 obtain ⟨_, (b : List Int), (l : List (List UInt8 × Int)), _⟩ := y''
 exact (fn143 at_ b l).trans hq''
def t68 (n : List UInt8) : Tr Res := .br (bigS n) (.br (Vp n) (.br (decide (List.length n > 255)) (.ret ([.bool false], [])) (.br (bigS n) (.ret ([.bool (Q3 n == n)], [])) .no)) (.ret ([.bool false], []))) .no
def os68 : OSpec := { f := 68, sh := [.d .str false], so := [], F := fun (n, _) _ => t68 n }
theorem fn68 (n : List UInt8) : evC T0 (orcB [fs90, X0c] []) (lpOf h68 0 (lsOf [])) c68 1000000 (V1 [.str n] [] Try.f68.ntmps) (Z1 T0 false 0 Try.f68) = (t68 n).get := by kernel_rfl
theorem ok68 : os68.Ok Try.prog := by
 refine J4 U2 tab0 (U0 (all_cons Q4m (all_cons Q3q all_nil)) all_nil) h68 (d := 0) (n0 := 0) (S := lsOf []) Try.func68 (by kernel_rfl) (c := c68) (by kernel_rfl) rfl (Z3 (by kernel_rfl)) (by omega) (by kernel_rfl) ?_
 intro x'' y'' q'' hq''
 obtain ⟨(n : List UInt8), _⟩ := x''
 exact (fn68 n).trans hq''
def fs68 : FSpec := fsT 68 [(.str, false)] [(.bool, false)] fun (n, _) => t68 n
theorem okf68 : fs68.Ok Try.prog := J7 fun x'' r'' hr'' => ok68 x'' () r'' hr''
def mayV (s : List UInt8) : Bool := Vp s && (Nat.ble s.length 255 && (Q3 s == s))
theorem J19 {a b : Nat} : Nat.ble a b = decide (a ≤ b) := by
 by_cases h : a ≤ b
 · rw [decide_eq_true h, Nat.ble_eq_true_of_le h]
 · rw [decide_eq_false h]
   cases hb : Nat.ble a b with
   | false => rfl
   | true => exact absurd (Nat.le_of_ble_eq_true hb) h
def Z0l : FSpec := fs68.like fun (s, _) => .on (bigS s) (mayV s, ())
theorem Q1x : Z0l.Ok Try.prog := by
 refine Z4 okf68 _ ?_
 rintro ⟨(s : List UInt8), _⟩ y h
 obtain ⟨hb, rfl⟩ := Tr.get_on h
 refine V3 (vs := [.bool (mayV s)]) rfl rfl (Tr.get_of_all ?_)
 show (t68 s).all _
 refine Tr.all_t hb (Tr.all_br (fun c1 => Tr.all_br (fun c2 => Tr.all_ret ?_) fun c2 => Tr.all_t hb (Tr.all_ret ?_)) fun c1 => Tr.all_ret ?_)
 · simp only [decide_eq_true_eq] at c2
   have : ¬ s.length ≤ 255 := by omega
   simp [mayV, J19, this]
 · simp only [decide_eq_false_iff_not] at c2
   have : s.length ≤ 255 := by omega
   simp [mayV, J19, this, c1]
 · simp [mayV, c1]
abbrev X6 := List (List UInt8 × Int)
abbrev Jk (n : List UInt8) (L : X6) : Option Int := Ux .str (.int .i64) n L
def hdN (n : List UInt8) : List UInt8 := n.take (1 + (n.getD 0 0).toNat)
def tlN (n : List UInt8) : List UInt8 := n.drop (1 + (n.getD 0 0).toNat)
theorem J0o {n : List UInt8} (h : n ≠ []) : (tlN n).length < n.length := by
 have := List.length_pos_iff.2 h
 simp [tlN]
 omega
def X4 (n S : List UInt8) (L : X6) : Option Int × (List UInt8 × (List UInt8 × X6)) :=
 if n = [0] then (none, n, S, L)
 else match Jk n L with
  | some a => (some a, n, S, L)
  | none => if h : n = [] then (none, n, S, L) else X4 (tlN n) (S ++ hdN n) (if S.length < 16384 then L ++ [(n, (S.length : Int))] else L)
termination_by n.length
decreasing_by exact J0o h
def endN : Option Int → List UInt8
 | some a => V0 (49152 + a)
 | none => [0]
def J3 (n S : List UInt8) (L : X6) : List UInt8 × X6 := ((X4 n S L).2.2.1 ++ endN (X4 n S L).1, (X4 n S L).2.2.2)
def kOk (L : X6) : Bool := L.all fun e => decide (0 ≤ e.2) && decide (e.2 < 16384)
theorem J3t {L : X6} (h : kOk L = true) {n : List UInt8} {a : Int} (ha : Jk n L = some a) : 0 ≤ a ∧ a < 16384 := by
 induction L with
 | nil => cases ha
 | cons e L ih =>
   simp only [kOk, List.all_cons, Bool.and_eq_true, decide_eq_true_eq] at h
   unfold Jk Ux at ha
   cases hq : Ty.keq .str n e.1 with
   | true => rw [hq] at ha; cases ha; exact h.1
   | false => rw [hq] at ha; exact ih h.2 ha
theorem Q3t {L : X6} {n : List UInt8} (h : Jk n L = none) (v : Int) : putM .str (.int .i64) n v L = L ++ [(n, v)] := by
 induction L with
 | nil => rfl
 | cons e L ih =>
   unfold Jk Ux at h
   unfold putM
   cases hq : Ty.keq .str n e.1 with
   | true => rw [hq] at h; cases h
   | false => rw [hq] at h; rw [cond_false, ih h]; rfl
theorem X4w {a : Int} (h0 : 0 ≤ a) (h1 : a < 16384) : IntKind.wrap IntKind.u16 (IntKind.wrap IntKind.i64 (↑(BitVec.toNat (BitVec.ofInt (IntKind.bits IntKind.i64) (49152 : Int) ||| BitVec.ofInt (IntKind.bits IntKind.i64) a)) : Int)) = 49152 + a := by
 obtain ⟨m, rfl⟩ : ∃ m : Nat, a = m := ⟨a.toNat, by omega⟩
 have e : BitVec.toNat (BitVec.ofInt (IntKind.bits IntKind.i64) (49152 : Int) ||| BitVec.ofInt (IntKind.bits IntKind.i64) (m : Int)) = 49152 + m := by
  show BitVec.toNat (BitVec.ofInt 64 ((49152 : Nat) : Int) ||| BitVec.ofInt 64 ((m : Nat) : Int)) = _
  rw [BitVec.ofInt_natCast, BitVec.ofInt_natCast, BitVec.toNat_or, BitVec.toNat_ofNat, BitVec.toNat_ofNat, Nat.mod_eq_of_lt (by omega), Nat.mod_eq_of_lt (by omega)]
  have := Nat.shiftLeft_add_eq_or_of_lt (a := 3) (b := m) (i := 14) (by omega)
  exact this.symm
 rw [e, IntWalk.i64_in _ (by omega), IntWalk.u16_in _ (by omega)]
 omega
theorem Q01 {n : List UInt8} (h : Vp n = true) : n = [0] ∨ (n ≠ [0] ∧ n ≠ [] ∧ 1 + (n.getD 0 0).toNat < n.length ∧ (n.getD 0 0).toNat ≤ 63 ∧ (n.getD 0 0).toNat ≠ 0 ∧ Vp (tlN n) = true) := by
 unfold Vp at h
 cases n with
 | nil => rw [Qb] at h; simp at h
 | cons c t =>
   rw [Qb] at h
   split at h
   · exact .inl (by simpa using h)
   · rename_i hc
     refine .inr ⟨fun e => ?_, by simp, ?_, ?_, ?_, ?_⟩
     · cases e; simp at hc
     · have he : (t.drop c.toNat) ≠ [] := fun e => by
         rw [e, Qb] at h
         simp at h
       have := List.length_pos_iff.2 he
       simp at this ⊢
       omega
     · simp; omega
     · simp; omega
     · unfold Vp tlN
       simpa [Nat.add_comm 1] using h
theorem Vl (s : List UInt8) : Z0 (J0 s) = s := by
 unfold Z0 J0
 rw [List.map_map]
 conv => rhs; rw [← List.map_id s]
 exact List.map_congr_left fun x _ => by simp
theorem Q08 {b : List Int} (h : V5 b = true) : J0 (Z0 b) = b := by
 unfold Z0 J0
 rw [List.map_map]
 conv => rhs; rw [← List.map_id b]
 refine List.map_congr_left fun x hx => ?_
 have := List.all_eq_true.1 h x hx
 simp only [Bool.and_eq_true, decide_eq_true_eq] at this
 simp
 omega
theorem Xi (b : List Int) : (Z0 b).length = b.length := by simp [Z0]
theorem V0e (a b : List Int) : Z0 (a ++ b) = Z0 a ++ Z0 b := by simp [Z0]
theorem Zd (a b : List UInt8) : J0 (a ++ b) = J0 a ++ J0 b := by simp [J0]
theorem Xm (S : List UInt8) (L : X6) : X4 [0] S L = (none, [0], S, L) := by rw [X4, if_pos rfl]
theorem Qi {n S : List UInt8} {L : X6} {a : Int} (h : n ≠ [0]) (ha : Jk n L = some a) : X4 n S L = (some a, n, S, L) := by
 rw [X4, if_neg h]
 simp only [ha]
theorem Xj {n S : List UInt8} {L : X6} (h : n ≠ [0]) (h0 : n ≠ []) (ha : Jk n L = none) : X4 n S L = X4 (tlN n) (S ++ hdN n) (if S.length < 16384 then L ++ [(n, (S.length : Int))] else L) := by
 rw [X4, if_neg h]
 simp only [ha, dif_neg h0]
theorem V3b {L : X6} {n : List UInt8} {a : Int} (h : Jk n L = some a) : getM .str (.int .i64) n L = a := by
 unfold getM
 rw [show Ux .str (.int .i64) n L = some a from h]
 rfl
theorem X1r {L : X6} {n : List UInt8} : hasM .str (.int .i64) n L = (Jk n L).isSome := rfl
theorem Q2z {L : X6} (h : kOk L = true) {n : List UInt8} {v : Nat} (hv : v < 16384) : kOk (L ++ [(n, (v : Int))]) = true := by
 simp only [kOk, List.all_append, List.all_cons, List.all_nil, Bool.and_true, Bool.and_eq_true, decide_eq_true_eq]
 exact ⟨h, by omega, by omega⟩
theorem Vv {a b : List Int} (ha : V5 a = true) (hb : V5 b = true) : V5 (a ++ b) = true := by
 simp only [V5, List.all_append, Bool.and_eq_true] at *
 exact ⟨ha, hb⟩
theorem V9 (n : Int) : (V0 n).length = 2 := rfl
theorem Q17 {n : List UInt8} (h : 1 + (n.getD 0 0).toNat ≤ n.length) : (hdN n).length = 1 + (n.getD 0 0).toNat := by unfold hdN; rw [List.length_take]; omega
theorem V2x (n : List UInt8) : (tlN n).length = n.length - (1 + (n.getD 0 0).toNat) := by unfold tlN; rw [List.length_drop]
theorem szW (n : List UInt8) : IntKind.wrap IntKind.i64 ((1 : Int) + IntKind.wrap IntKind.i64 (↑(UInt8.toNat (List.getD n (Int.toNat (0 : Int)) 0)) : Int)) = ((1 + (n.getD 0 0).toNat : Nat) : Int) := by
 have := (n.getD 0 0).toNat_lt
 rw [show Int.toNat (0 : Int) = 0 from rfl]
 rw [IntWalk.i64_in (((n.getD 0 0).toNat : Nat) : Int) (by omega), IntWalk.i64_in _ (by omega)]
 omega
theorem hdW (n : List UInt8) : List.take (Int.toNat ((1 + (n.getD 0 0).toNat : Nat) : Int) - Int.toNat (0 : Int)) (List.drop (Int.toNat (0 : Int)) n) = hdN n := by
 rw [Int.toNat_natCast]; rfl
theorem tlW (n : List UInt8) : List.take (Int.toNat (↑(List.length n) : Int) - Int.toNat ((1 + (n.getD 0 0).toNat : Nat) : Int)) (List.drop (Int.toNat ((1 + (n.getD 0 0).toNat : Nat) : Int)) n) = tlN n := by
 rw [Int.toNat_natCast, Int.toNat_natCast]
 exact List.take_of_length_le (by simp)
theorem getD_some {α : Type} {o : Option α} {a d : α} (h : o = some a) : o.getD d = a := by rw [h]; rfl
theorem X0d : ∀ (m : Nat) (n S : List UInt8) (L : X6), n.length = m → Vp n = true → ((X4 n S L).1 = none → (X4 n S L).2.1 = [0]) ∧ (∀ a, (X4 n S L).1 = some a → Jk (X4 n S L).2.1 (X4 n S L).2.2.2 = some a) ∧
    (X4 n S L).2.2.1.length + (X4 n S L).2.1.length = S.length + n.length ∧ (kOk L = true → kOk (X4 n S L).2.2.2 = true) ∧ (X4 n S L).2.1.length ≥ 1 ∧ (X4 n S L).2.2.2.length ≤ L.length + n.length := by
 intro m
 induction m using Nat.strongRecOn with
 | _ m ih =>
   intro n S L hm hr
   rcases Q01 hr with rfl | ⟨hn0, hn1, hlt, h63, hne, hrt⟩
   · rw [Xm]
     refine ⟨fun _ => rfl, fun a h => (by cases h), rfl, fun h => h, ?_, ?_⟩ <;> simp
   · cases hlk : Jk n L with
     | some a =>
       rw [Qi hn0 hlk]
       refine ⟨fun h => (by cases h), fun a' h => ?_, rfl, fun h => h, List.length_pos_iff.2 hn1, Nat.le_add_right _ _⟩
       cases h
       exact hlk
     | none =>
       rw [Xj hn0 hn1 hlk]
       have hlt2 := J0o hn1
       obtain ⟨a1, a2, a3, a4, a5, a6⟩ := ih (tlN n).length (by omega) (tlN n) (S ++ hdN n) (if S.length < 16384 then L ++ [(n, (S.length : Int))] else L) rfl hrt
       refine ⟨a1, a2, ?_, fun h => a4 ?_, a5, ?_⟩
       · rw [a3, List.length_append, Q17 (by omega), V2x]
         omega
       · split
         · exact Q2z h (by assumption)
         · exact h
       · refine Nat.le_trans a6 ?_
         split
         · simp; omega
         · omega
theorem X3q : ∀ i, i < 16 → (49152 : Nat).testBit i = decide (14 ≤ i) := by decide
theorem J48 (n : Nat) (hn : n < 65536) : n &&& (2 ^ 64 - 1 - 49152) = n % 16384 := by
 refine Nat.eq_of_testBit_eq fun i => ?_
 rw [Nat.testBit_and, show (16384 : Nat) = 2 ^ 14 from rfl, Nat.testBit_mod_two_pow]
 by_cases hi : i < 16
 · have h1 := X3q i hi
   have h2 : (2 ^ 64 - 1 - 49152 : Nat).testBit i = !(49152 : Nat).testBit i := by
    have := Nat.testBit_two_pow_sub_succ (n := 64) (x := 49152) (by decide) i
    rw [show (2 ^ 64 - 1 - 49152 : Nat) = 2 ^ 64 - (49152 + 1) by decide, this]
    simp
    omega
   rw [h2, h1]
   by_cases h14 : i < 14
   · have : ¬ 14 ≤ i := by omega
     simp [h14, this]
   · have : 14 ≤ i := by omega
     simp [h14, this]
 · have : n.testBit i = false := Nat.testBit_lt_two_pow (Nat.lt_of_lt_of_le hn (show 2 ^ 16 ≤ 2 ^ i from Nat.pow_le_pow_right (by omega) (by omega)))
   rw [this]
   simp
theorem Z2x {a : Int} (h0 : 0 ≤ a) (h1 : a ≤ 65535) : IntKind.wrap IntKind.i64 (↑(BitVec.toNat (BitVec.ofInt (IntKind.bits IntKind.i64) (IntKind.wrap IntKind.i64 a) &&& ~~~BitVec.ofInt (IntKind.bits IntKind.i64) (49152 : Int))) : Int) = a % 16384 := by
 obtain ⟨m, rfl⟩ : ∃ m : Nat, a = m := ⟨a.toNat, by omega⟩
 rw [IntWalk.i64_in (m : Int) (by omega)]
 have e : BitVec.toNat (BitVec.ofInt (IntKind.bits IntKind.i64) ((m : Nat) : Int) &&& ~~~BitVec.ofInt (IntKind.bits IntKind.i64) ((49152 : Nat) : Int)) = m % 16384 := by
  show BitVec.toNat (BitVec.ofInt 64 ((m : Nat) : Int) &&& ~~~BitVec.ofInt 64 ((49152 : Nat) : Int)) = _
  rw [BitVec.ofInt_natCast, BitVec.ofInt_natCast, BitVec.toNat_and, BitVec.toNat_not, BitVec.toNat_ofNat, BitVec.toNat_ofNat, Nat.mod_eq_of_lt (by omega), Nat.mod_eq_of_lt (by omega)]
  exact J48 m (by omega)
 rw [show ((49152 : Int)) = ((49152 : Nat) : Int) from rfl, e, IntWalk.i64_in _ (by omega)]
 rfl
def szT (s : List UInt8) (at_ : Int) : Nat := (s.getD at_.toNat 0).toNat
def toT (s : List UInt8) (at_ : Int) : Int := n16 s at_ % 16384
theorem U3d (s : List UInt8) (at_ : Int) : szT s at_ ≤ 255 := by
 have := (s.getD at_.toNat 0).toNat_lt
 unfold szT
 omega
theorem X1z (s : List UInt8) (at_ : Int) : 0 ≤ n16 s at_ ∧ n16 s at_ ≤ 65535 := by
 have h1 := (s.getD at_.toNat 0).toNat_lt
 have h2 := (s.getD (at_.toNat + 1) 0).toNat_lt
 unfold n16
 omega
theorem V20 (s : List UInt8) (at_ : Int) : 0 ≤ toT s at_ ∧ toT s at_ < 16384 := by
 unfold toT
 omega
def msT (s : List UInt8) (at_ from_ : Int) : Nat := from_.toNat * (s.length + 2) + (s.length + 1 - at_.toNat)
theorem J9 {s : List UInt8} {at_ many : Int} : Q1 s at_ many = true ↔ 0 ≤ at_ ∧ 0 ≤ many ∧ at_ + many ≤ s.length := by simp [Q1]
theorem V0y {s : List UInt8} {at_ from_ to : Int} (h0 : 0 ≤ to) (h : to < from_) : msT s to to < msT s at_ from_ := by
 unfold msT
 have h1 : to.toNat + 1 ≤ from_.toNat := by omega
 have h2 : (to.toNat + 1) * (s.length + 2) ≤ from_.toNat * (s.length + 2) := Nat.mul_le_mul_right _ h1
 rw [Nat.add_mul, Nat.one_mul] at h2
 omega
theorem V2t {s : List UInt8} {at_ from_ : Int} {c : Nat} (h0 : 0 ≤ at_) (h : at_ + 1 + c ≤ s.length) : msT s (at_ + 1 + c) from_ < msT s at_ from_ := by
 unfold msT
 omega
def J5 (s : List UInt8) (at_ from_ behind : Int) (out : List UInt8) : Option (List UInt8 × Int) :=
 if h1 : Q1 s at_ 1 = true then
  if 192 ≤ szT s at_ then
   (if h3 : Q1 s at_ 2 = true ∧ toT s at_ < from_ then J5 s (toT s at_) (toT s at_) (if behind < 0 then at_ + 2 else behind) out else none)
  else if 63 < szT s at_ then none
  else if h4 : Q1 s (at_ + 1) (szT s at_) = true ∧ out.length + 1 + szT s at_ ≤ 255 then
   (if szT s at_ = 0 then some (out ++ [0], if behind < 0 then at_ + 1 else behind)
    else J5 s (at_ + 1 + szT s at_) from_ behind (out ++ s.getD at_.toNat 0 :: Q3 (U1 s (at_ + 1) (szT s at_))))
  else none
 else none
termination_by msT s at_ from_
decreasing_by
 · exact V0y (V20 s at_).1 h3.2
 · have h1 := J9.1 h1
   have h4 := J9.1 h4.1
   exact V2t h1.1 h4.2.2
def tkS : Option (List UInt8 × Int) → List UInt8
 | some p => p.1
 | none => []
def tkN : Option (List UInt8 × Int) → Int
 | some p => p.2
 | none => 0
def tkE : Option (List UInt8 × Int) → Int
 | some _ => 0
 | none => 2
def resT (o : Option (List UInt8 × Int)) : List AV := [.str (tkS o), .int .i64 (tkN o), .int .i64 (tkE o)]
section
variable {s : List UInt8} {at_ from_ behind : Int} {out : List UInt8}
theorem U0x (h : Q1 s at_ 1 = false) : J5 s at_ from_ behind out = none := by rw [J5, dif_neg (by rw [h]; simp)]
theorem X0i (h : Q1 s at_ 1 = true) (h2 : 192 ≤ szT s at_) (h3 : Q1 s at_ 2 = true) (h4 : toT s at_ < from_) : J5 s at_ from_ behind out = J5 s (toT s at_) (toT s at_) (if behind < 0 then at_ + 2 else behind) out := by
 rw [J5, dif_pos h, if_pos h2, dif_pos ⟨h3, h4⟩]
theorem V0w (h : Q1 s at_ 1 = true) (h2 : 192 ≤ szT s at_) (h3 : ¬ (Q1 s at_ 2 = true ∧ toT s at_ < from_)) : J5 s at_ from_ behind out = none := by
 rw [J5, dif_pos h, if_pos h2, dif_neg h3]
theorem Z0z (h : Q1 s at_ 1 = true) (h2 : ¬ 192 ≤ szT s at_) (h3 : 63 < szT s at_) : J5 s at_ from_ behind out = none := by
 rw [J5, dif_pos h, if_neg h2, if_pos h3]
theorem Z01 (h : Q1 s at_ 1 = true) (h2 : szT s at_ ≤ 63) (h4 : ¬ (Q1 s (at_ + 1) (szT s at_) = true ∧ out.length + 1 + szT s at_ ≤ 255)) : J5 s at_ from_ behind out = none := by
 rw [J5, dif_pos h, if_neg (by omega), if_neg (by omega), dif_neg h4]
theorem Q0i (h : Q1 s at_ 1 = true) (h2 : szT s at_ = 0) (h4 : out.length + 1 ≤ 255) : J5 s at_ from_ behind out = some (out ++ [0], if behind < 0 then at_ + 1 else behind) := by
 have h5 : Q1 s (at_ + 1) (szT s at_) = true := by
  have := J9.1 h
  rw [h2]
  exact J9.2 ⟨by omega, by simp, by simp; omega⟩
 rw [J5, dif_pos h, if_neg (by omega), if_neg (by omega), dif_pos ⟨h5, by omega⟩, if_pos h2]
theorem X0u (h : Q1 s at_ 1 = true) (h2 : szT s at_ ≤ 63) (h3 : szT s at_ ≠ 0) (h4 : Q1 s (at_ + 1) (szT s at_) = true) (h5 : out.length + 1 + szT s at_ ≤ 255) :
    J5 s at_ from_ behind out = J5 s (at_ + 1 + szT s at_) from_ behind (out ++ s.getD at_.toNat 0 :: Q3 (U1 s (at_ + 1) (szT s at_))) := by
 rw [J5, dif_pos h, if_neg (by omega), if_neg (by omega), dif_pos ⟨h4, h5⟩, if_neg h3]
end
theorem Vf (s : List UInt8) : (Q3 s).length = s.length := by simp [Q3]
theorem V11 {s : List UInt8} {at_ many : Int} (h : Q1 s at_ many = true) : (U1 s at_ many).length = many.toNat := by
 have := J9.1 h
 simp [U1]
 omega
end Go.Proofs.YtpledbapngdkeaaE
namespace Go.Proofs.YtpledbapngdkeaaE
open Go Go.Proofs.YtpledbapngdkeaaB
set_option linter.unusedVariables false
set_option linter.unusedSimpArgs false
theorem U3h (c : UInt8) : lowB (lowB c) = lowB c := by
 unfold lowB
 have hlt := c.toNat_lt
 by_cases h : c.toNat ≥ 65 ∧ c.toNat ≤ 90
 · rw [show (decide (c.toNat ≥ 65) && decide (c.toNat ≤ 90)) = true by simp; omega, cond_true]
   have e : (UInt8.ofNat (c.toNat + 32)).toNat = c.toNat + 32 := by simp; omega
   rw [show (decide ((UInt8.ofNat (c.toNat + 32)).toNat ≥ 65) && decide ((UInt8.ofNat (c.toNat + 32)).toNat ≤ 90)) = false by rw [e]; simp; omega, cond_false]
 · rw [show (decide (c.toNat ≥ 65) && decide (c.toNat ≤ 90)) = false by simp; omega, cond_false]
   rw [show (decide (c.toNat ≥ 65) && decide (c.toNat ≤ 90)) = false by simp; omega, cond_false]
theorem J2o {c : UInt8} (h : c.toNat ≤ 63) : lowB c = c := by
 unfold lowB
 rw [show (decide (c.toNat ≥ 65) && decide (c.toNat ≤ 90)) = false by simp; omega, cond_false]
theorem J2v (s : List UInt8) : Q3 (Q3 s) = Q3 s := by
 unfold Q3
 rw [List.map_map]
 exact List.map_congr_left fun c _ => U3h c
theorem Z35 (a b : List UInt8) : Q3 (a ++ b) = Q3 a ++ Q3 b := by simp [Q3]
theorem Z2k (c : UInt8) (b : List UInt8) : Q3 (c :: b) = lowB c :: Q3 b := rfl
def J0c (s : List UInt8) : Prop := Q3 s = s
theorem X0x {a b : List UInt8} : J0c (a ++ b) ↔ J0c a ∧ J0c b := by
 unfold J0c
 rw [Z35]
 constructor
 · intro h
   have h1 := (List.append_inj h (Vf a))
   exact h1
 · rintro ⟨h1, h2⟩
   rw [h1, h2]
def byN (s : List UInt8) (k : Nat) : Nat := (s.getD k 0).toNat
theorem U03 (s : List UInt8) (k : Nat) : szT s (k : Int) = byN s k := by unfold szT byN; rw [Int.toNat_natCast]
inductive Rd (S : List UInt8) : Nat → Nat → List UInt8 → Nat → Prop where
 | root {k f : Nat} (h : k < S.length) (h0 : byN S k = 0) : Rd S k f [0] (k + 1)
 | label {k f e : Nat} {n : List UInt8} (h1 : byN S k ≠ 0) (h63 : byN S k ≤ 63) (hin : k + 1 + byN S k ≤ S.length) (h : Rd S (k + 1 + byN S k) f n e) :
     Rd S k f (S.getD k 0 :: Q3 ((S.drop (k + 1)).take (byN S k)) ++ n) e
 | ptr {k f e : Nat} {n : List UInt8} {to : Nat} (h192 : 192 ≤ byN S k) (hin : k + 2 ≤ S.length) (hto : toT S (k : Int) = to) (hlt : to < f) (h : Rd S to to n e) : Rd S k f n (k + 2)
theorem Z05 {s : List UInt8} {k m : Nat} : Q1 s (k : Int) (m : Int) = true ↔ k + m ≤ s.length := by
 rw [J9]
 omega
theorem Rd.pos {S : List UInt8} {k f e : Nat} {n : List UInt8} (h : Rd S k f n e) : 1 ≤ n.length ∧ k < e ∧ e ≤ S.length := by
 induction h with
 | root h h0 => simp; omega
 | label h1 h63 hin h ih => simp; omega
 | ptr h192 hin hto hlt h ih => omega
theorem J1k {S : List UInt8} {k f e : Nat} {n : List UInt8} (h : Rd S k f n e) : ∀ (b : Int) (out : List UInt8), out.length + n.length ≤ 255 → J5 S (k : Int) (f : Int) b out = some (out ++ n, if b < 0 then (e : Int) else b) := by
 induction h with
 | @root k f hk h0 =>
   intro b out hl
   simp at hl
   rw [Q0i (Z05.2 (by omega : k + 1 ≤ S.length)) (by rw [U03]; exact h0) (by omega)]
   rfl
 | @label k f e n h1 h63 hin h ih =>
   intro b out hl
   have hp := h.pos
   simp [Vf] at hl
   have hlen : ((S.drop (k + 1)).take (byN S k)).length = byN S k := by simp; omega
   have h4 : Q1 S ((k : Int) + 1) (szT S (k : Int) : Int) = true := by
    rw [U03, show ((k : Int) + 1) = ((k + 1 : Nat) : Int) by omega, Z05]
    omega
   rw [X0u (Z05.2 (by omega : k + 1 ≤ S.length)) (by rw [U03]; omega) (by rw [U03]; exact h1) h4 (by rw [U03]; omega)]
   have e1 : (k : Int) + 1 + (szT S (k : Int) : Int) = ((k + 1 + byN S k : Nat) : Int) := by rw [U03]; omega
   have e2 : U1 S ((k : Int) + 1) (szT S (k : Int) : Int) = (S.drop (k + 1)).take (byN S k) := by
    unfold U1
    rw [U03, Int.toNat_natCast, show ((k : Int) + 1).toNat = k + 1 by omega]
   rw [e1, e2, ih b _ (by simp [Vf]; omega), Int.toNat_natCast]
   simp
 | @ptr k f e n to h192 hin hto hlt h ih =>
   intro b out hl
   rw [X0i (Z05.2 (by omega : k + 1 ≤ S.length)) (by rw [U03]; exact h192) (Z05.2 (by omega : k + 2 ≤ S.length)) (by rw [hto]; omega), hto, ih _ _ hl]
   congr 2
   by_cases hb : b < 0
   · rw [if_pos hb, if_neg (by omega), if_pos hb]
     omega
   · rw [if_neg hb, if_neg hb, if_neg hb]
theorem Z0v {S X : List UInt8} {k : Nat} (h : k < S.length) : (S ++ X).getD k 0 = S.getD k 0 := by
 rw [List.getD_eq_getElem?_getD, List.getD_eq_getElem?_getD, List.getElem?_append_left h]
theorem J23 {S X : List UInt8} {k : Nat} (h : k < S.length) : byN (S ++ X) k = byN S k := by unfold byN; rw [Z0v h]
theorem U48 {S X : List UInt8} {k : Nat} (h : k + 2 ≤ S.length) : toT (S ++ X) (k : Int) = toT S (k : Int) := by
 unfold toT n16
 rw [Int.toNat_natCast, Z0v (by omega), Z0v (by omega)]
theorem Rd.mono {S : List UInt8} (X : List UInt8) {k f e : Nat} {n : List UInt8} (h : Rd S k f n e) : Rd (S ++ X) k f n e := by
 induction h with
 | @root k f hk h0 => exact .root (by simp; omega) (by rw [J23 hk]; exact h0)
 | @label k f e n h1 h63 hin h ih =>
   have hb : byN (S ++ X) k = byN S k := J23 (by omega)
   have := Rd.label (S := S ++ X) (k := k) (f := f) (e := e) (n := n) (by rw [hb]; exact h1) (by rw [hb]; exact h63) (by rw [hb]; simp; omega) (by rw [hb]; exact ih)
   rw [hb, Z0v (by omega)] at this
   rw [List.drop_append_of_le_length (by omega), List.take_append_of_le_length (by simp; omega)] at this
   exact this
 | @ptr k f e n to h192 hin hto hlt h ih => exact .ptr (by rw [J23 (by omega)]; exact h192) (by simp; omega) (by rw [U48 hin]; exact hto) hlt ih
theorem Rd.up {S : List UInt8} {k f f' e : Nat} {n : List UInt8} (h : Rd S k f n e) (hf : f ≤ f') : Rd S k f' n e := by
 induction h generalizing f' with
 | root h h0 => exact .root h h0
 | label h1 h63 hin h ih => exact .label h1 h63 hin (ih hf)
 | ptr h192 hin hto hlt h ih => exact .ptr h192 hin hto (by omega) h
def PI (S : List UInt8) (L : X6) : Prop := ∀ n a, (n, a) ∈ L → ∃ k e : Nat, a = (k : Int) ∧ k < 16384 ∧ Rd S k k n e
theorem PI.mono {S : List UInt8} {L : X6} (h : PI S L) (X : List UInt8) : PI (S ++ X) L := fun n a hm => by
 obtain ⟨k, e, h1, h2, h3⟩ := h n a hm
 exact ⟨k, e, h1, h2, h3.mono X⟩
theorem X3f {n : List UInt8} {L : X6} {a : Int} (h : Jk n L = some a) : (n, a) ∈ L := by
 induction L with
 | nil => cases h
 | cons e L ih =>
   unfold Jk Ux at h
   by_cases hq : n = e.1
   · rw [show Ty.keq .str n e.1 = true by simp only [Ty.keq, beq_iff_eq]; exact hq] at h
     cases h
     rw [hq]
     exact List.mem_cons_self
   · rw [show Ty.keq .str n e.1 = false by simp only [Ty.keq, beq_eq_false_iff_ne]; exact hq] at h
     exact List.mem_cons_of_mem _ (ih h)
theorem X3d {n : List UInt8} {L N : X6} (h : ∀ m b, (m, b) ∈ N → m ≠ n) : Jk n (L ++ N) = Jk n L := by
 induction L with
 | nil =>
   show Jk n N = none
   induction N with
   | nil => rfl
   | cons e N ih =>
     unfold Jk Ux
     have hq : n ≠ e.1 := fun e' => h e.1 e.2 List.mem_cons_self e'.symm
     rw [show Ty.keq .str n e.1 = false by simp only [Ty.keq, beq_eq_false_iff_ne]; exact hq]
     exact ih fun m b hm => h m b (List.mem_cons_of_mem _ hm)
 | cons e L ih =>
   simp only [List.cons_append]
   unfold Jk Ux
   cases Ty.keq .str n e.1 with
   | true => rfl
   | false => exact ih
theorem PI.kOk {S : List UInt8} {L : X6} (h : PI S L) : kOk L = true := by
 refine List.all_eq_true.2 fun ⟨n, a⟩ hm => ?_
 obtain ⟨k, e, rfl, h2, _⟩ := h n a hm
 simp only [Bool.and_eq_true, decide_eq_true_eq]
 omega
theorem U3e {S X : List UInt8} {a : Nat} (ha : a < 16384) : byN (S ++ (V0 (49152 + (a : Int)) ++ X)) S.length ≥ 192 ∧ toT (S ++ (V0 (49152 + (a : Int)) ++ X)) (S.length : Int) = a := by
 have e0 : (S ++ (V0 (49152 + (a : Int)) ++ X)).getD S.length 0 = UInt8.ofNat ((49152 + (a : Int)) / 256).toNat := by
  rw [List.getD_eq_getElem?_getD, List.getElem?_append_right (Nat.le_refl _), Nat.sub_self]; rfl
 have e1 : (S ++ (V0 (49152 + (a : Int)) ++ X)).getD (S.length + 1) 0 = UInt8.ofNat ((49152 + (a : Int)) % 256).toNat := by
  rw [List.getD_eq_getElem?_getD, List.getElem?_append_right (by omega), show S.length + 1 - S.length = 1 by omega]; rfl
 have t0 : (UInt8.ofNat ((49152 + (a : Int)) / 256).toNat).toNat = 192 + a / 256 := by simp; omega
 have t1 : (UInt8.ofNat ((49152 + (a : Int)) % 256).toNat).toNat = a % 256 := by simp; omega
 constructor
 · unfold byN
   rw [e0, t0]
   omega
 · unfold toT n16
   rw [Int.toNat_natCast, e0, e1, t0, t1]
   omega
theorem V3d : ∀ (m : Nat) (n S : List UInt8) (L0 N : X6) (S0 T0 : List UInt8), n.length = m → Vp n = true → J0c n → PI S0 L0 → S = S0 ++ T0 → (∀ q b, (q, b) ∈ N → n.length < q.length) →
    ∃ T N', (J3 n S (L0 ++ N)).1 = S ++ T ∧ (J3 n S (L0 ++ N)).2 = (L0 ++ N) ++ N' ∧ Rd (S ++ T) S.length S0.length n (S ++ T).length ∧ (∀ q b, (q, b) ∈ N' → ∃ k e : Nat, b = (k : Int) ∧ k < 16384 ∧ Rd (S ++ T) k k q e) := by
 intro m
 induction m using Nat.strongRecOn with
 | _ m ih =>
   intro n S L0 N S0 T0 hm hr hlow hPI hS hN
   rcases Q01 hr with rfl | ⟨hn0, hn1, hlt, h63, hne, hrt⟩
   · refine ⟨[0], [], ?_, ?_, ?_, fun q b h => by simp at h⟩
     · unfold J3; rw [Xm]; rfl
     · unfold J3; rw [Xm]; simp
     · have hb : byN (S ++ [0]) S.length = 0 := by
         unfold byN
         rw [List.getD_eq_getElem?_getD, List.getElem?_append_right (Nat.le_refl _), Nat.sub_self]; rfl
       have := Rd.root (S := S ++ [0]) (k := S.length) (f := S0.length) (by simp) hb
       simpa using this
   · have hlk : Jk n (L0 ++ N) = Jk n L0 := X3d fun q b hq e => by have := hN q b hq; rw [e] at this; omega
     cases ha : Jk n L0 with
     | some a =>
       obtain ⟨k, e, rfl, hk, hrd⟩ := hPI n a (X3f ha)
       refine ⟨V0 (49152 + (k : Int)), [], ?_, ?_, ?_, fun q b h => by simp at h⟩
       · unfold J3; rw [Qi hn0 (hlk.trans ha)]; rfl
       · unfold J3; rw [Qi hn0 (hlk.trans ha)]; simp
       · obtain ⟨h1, h2⟩ := U3e (S := S) (X := []) hk
         rw [List.append_nil] at h1 h2
         have hp := hrd.pos
         have := Rd.ptr (S := S ++ V0 (49152 + (k : Int))) (k := S.length) (f := S0.length) (to := k) h1 (by simp [V9]) h2 (by omega) (by rw [hS, List.append_assoc]; exact hrd.mono _)
         simpa [V9] using this
     | none =>
       have hlt2 := J0o hn1
       obtain ⟨c, t, rfl⟩ := List.exists_cons_of_ne_nil hn1
       have hc : (c :: t).getD 0 0 = c := rfl
       rw [hc] at hlt h63 hne
       have htl : tlN (c :: t) = t.drop c.toNat := by unfold tlN; rw [hc, Nat.add_comm]; rfl
       have hhd : hdN (c :: t) = c :: t.take c.toNat := by unfold hdN; rw [hc, Nat.add_comm]; rfl
       have hsplit : (c :: t) = hdN (c :: t) ++ tlN (c :: t) := by rw [hhd, htl]; simp
       have hlow2 : J0c (hdN (c :: t)) ∧ J0c (tlN (c :: t)) := X0x.1 (hsplit ▸ hlow)
       have hhl : (hdN (c :: t)).length = 1 + c.toNat := by rw [hhd]; simp at hlt ⊢; omega
       obtain ⟨N2, hN2, hN2len, hN2k⟩ : ∃ N2 : X6, (if S.length < 16384 then (L0 ++ N) ++ [((c :: t), (S.length : Int))] else L0 ++ N) = L0 ++ (N ++ N2) ∧ (∀ q b, (q, b) ∈ N2 → q = c :: t ∧ b = (S.length : Int) ∧ S.length < 16384) ∧ True := by
        by_cases h : S.length < 16384
        · rw [if_pos h]
          exact ⟨[((c :: t), (S.length : Int))], by simp, fun q b hq => by simp at hq; exact ⟨hq.1, hq.2, h⟩, trivial⟩
        · rw [if_neg h]
          exact ⟨[], by simp, fun q b hq => by simp at hq, trivial⟩
       obtain ⟨T, N', i1, i2, i3, i4⟩ := ih (tlN (c :: t)).length (by omega) (tlN (c :: t)) (S ++ hdN (c :: t)) L0 (N ++ N2) S0 (T0 ++ hdN (c :: t)) rfl hrt hlow2.2 hPI (by rw [hS]; simp) (fun q b hq => by
        rcases List.mem_append.1 hq with hq | hq
        · have := hN q b hq; omega
        · obtain ⟨rfl, _⟩ := hN2len q b hq; omega)
       have hP : J3 (c :: t) S (L0 ++ N) = J3 (tlN (c :: t)) (S ++ hdN (c :: t)) (L0 ++ (N ++ N2)) := by
        unfold J3
        rw [Xj hn0 hn1 (hlk.trans ha), hN2]
       rw [hP]
       have hb : byN (S ++ (hdN (c :: t) ++ T)) S.length = c.toNat := by
        unfold byN
        rw [List.getD_eq_getElem?_getD, List.getElem?_append_right (Nat.le_refl _), Nat.sub_self, hhd]; rfl
       have hg : (S ++ (hdN (c :: t) ++ T)).getD S.length 0 = c := by
        rw [List.getD_eq_getElem?_getD, List.getElem?_append_right (Nat.le_refl _), Nat.sub_self, hhd]; rfl
       rw [List.append_assoc] at i1 i3 i4
       have hrd : Rd (S ++ (hdN (c :: t) ++ T)) S.length S0.length (c :: t) (S ++ (hdN (c :: t) ++ T)).length := by
        have hl := Rd.label (S := S ++ (hdN (c :: t) ++ T)) (k := S.length) (f := S0.length) (e := (S ++ (hdN (c :: t) ++ T)).length) (n := tlN (c :: t)) (by rw [hb]; exact hne) (by rw [hb]; exact h63) (by rw [hb]; simp [hhl]; omega) (by
         rw [hb]
         have : (S ++ hdN (c :: t)).length = S.length + 1 + c.toNat := by rw [List.length_append, hhl]; omega
         rw [this] at i3
         exact i3)
        rw [hb, hg] at hl
        have hv : ((S ++ (hdN (c :: t) ++ T)).drop (S.length + 1)).take c.toNat = t.take c.toNat := by
         rw [← List.drop_drop, List.drop_left, hhd]
         simp only [List.cons_append, List.drop_succ_cons, List.drop_zero]
         rw [List.take_append_of_le_length (by simp at hlt ⊢; omega), List.take_take, Nat.min_self]
        rw [hv] at hl
        have hf : Q3 (t.take c.toNat) = t.take c.toNat := by
         have := hlow2.1
         rw [hhd] at this
         exact (List.cons.inj this).2
        rw [hf, htl] at hl
        have e : c :: List.take c.toNat t ++ List.drop c.toNat t = c :: t := by simp
        rw [e] at hl
        exact hl
       refine ⟨hdN (c :: t) ++ T, N2 ++ N', i1, by rw [i2]; simp, hrd, fun q b hq => ?_⟩
       rcases List.mem_append.1 hq with hq | hq
       · obtain ⟨rfl, rfl, h⟩ := hN2len q b hq
         exact ⟨S.length, _, rfl, h, hrd.up (by rw [hS]; simp)⟩
       · exact i4 q b hq
theorem Vg {n : List UInt8} : mayV n = true ↔ Vp n = true ∧ n.length ≤ 255 ∧ J0c n := by
 unfold mayV J0c
 rw [J19]
 simp
theorem V0q {n S : List UInt8} {L : X6} (hm : mayV n = true) (hP : PI S L) :
    ∃ T N', (J3 n S L).1 = S ++ T ∧ (J3 n S L).2 = L ++ N' ∧ PI (S ++ T) (L ++ N') ∧ Rd (S ++ T) S.length S.length n (S ++ T).length := by
 obtain ⟨h1, h2, h3⟩ := Vg.1 hm
 obtain ⟨T, N', a1, a2, a3, a4⟩ := V3d _ n S L [] S [] rfl h1 h3 hP (by simp) (fun q b h => by simp at h)
 rw [List.append_nil] at a1 a2
 refine ⟨T, N', a1, a2, fun q b hq => ?_, a3⟩
 rcases List.mem_append.1 hq with hq | hq
 · exact hP.mono T q b hq
 · exact a4 q b hq
theorem J3q {n : List UInt8} (hr : Vp n = true) (h : n ≠ [0]) : 3 ≤ n.length := by
 rcases Q01 hr with rfl | ⟨_, _, hlt, _, hne, _⟩
 · exact absurd rfl h
 · omega
theorem V2n : ∀ (m : Nat) (n S : List UInt8) (L : X6), n.length = m → S.length ≤ (X4 n S L).2.2.1.length := by
 intro m
 induction m using Nat.strongRecOn with
 | _ m ih =>
   intro n S L hm
   by_cases h0 : n = [0]
   · rw [h0, Xm]; exact Nat.le_refl _
   · cases hlk : Jk n L with
     | some a => rw [Qi h0 hlk]; exact Nat.le_refl _
     | none =>
       by_cases h1 : n = []
       · rw [X4, if_neg h0]; simp only [hlk, dif_pos h1]; exact Nat.le_refl _
       · rw [Xj h0 h1 hlk]
         have := ih (tlN n).length (by have := J0o h1; omega) (tlN n) (S ++ hdN n) (if S.length < 16384 then L ++ [(n, (S.length : Int))] else L) rfl
         rw [List.length_append] at this
         omega
theorem Q07 : ∀ (m : Nat) (n S : List UInt8) (L : X6), n.length = m → Vp n = true → (J3 n S L).1.length ≤ S.length + n.length ∧ S.length + 1 ≤ (J3 n S L).1.length ∧ (J3 n S L).2.length ≤ L.length + n.length := by
 intro m n S L hm hr
 obtain ⟨f1, f2, f3, f4, f5, f6⟩ := X0d _ n S L rfl hr
 have f7 := V2n _ n S L rfl
 unfold J3
 rw [List.length_append]
 cases h : (X4 n S L).1 with
 | none =>
   have := f1 h
   rw [this] at f3
   simp only [endN, List.length_cons, List.length_nil] at f3 ⊢
   omega
 | some a =>
   have hne : (X4 n S L).2.1.length ≥ 3 := by
    have : ∀ (m : Nat) (n S : List UInt8) (L : X6), n.length = m → Vp n = true → ∀ a, (X4 n S L).1 = some a → 3 ≤ (X4 n S L).2.1.length := by
     intro m
     induction m using Nat.strongRecOn with
     | _ m ih =>
       intro n S L hm hr a ha
       rcases Q01 hr with rfl | ⟨hn0, hn1, hlt, h63, hne, hrt⟩
       · rw [Xm] at ha; cases ha
       · cases hlk : Jk n L with
         | some a' => rw [Qi hn0 hlk]; exact J3q hr hn0
         | none =>
           rw [Xj hn0 hn1 hlk] at ha ⊢
           exact ih (tlN n).length (by have := J0o hn1; omega) _ _ _ rfl hrt a ha
    exact this _ n S L rfl hr a h
   simp only [endN, V9]
   omega
def LP (out : List UInt8) : Prop := J0c out ∧ ∀ r, (Qb (out ++ r)).2 = (Qb r).2
theorem X4y : LP [] := ⟨rfl, fun r => rfl⟩
theorem LP_on {out v : List UInt8} {c : UInt8} (h : LP out) (h0 : c.toNat ≠ 0) (h63 : c.toNat ≤ 63) (hv : v.length = c.toNat) : LP (out ++ c :: Q3 v) := by
 refine ⟨X0x.2 ⟨h.1, ?_⟩, fun r => ?_⟩
 · unfold J0c
   rw [Z2k, J2o h63, J2v]
 · rw [List.append_assoc, h.2, List.cons_append, Qb, if_neg (by simp [Vf, hv]; omega)]
   simp only
   rw [List.drop_append_of_le_length (by simp [Vf, hv]), List.drop_eq_nil_of_le (by simp [Vf, hv])]
   rfl
theorem Q37 {s : List UInt8} : ∀ (m : Nat) (at_ from_ b : Int) (out n : List UInt8) (next : Int), msT s at_ from_ = m → LP out → J5 s at_ from_ b out = some (n, next) →
    mayV n = true ∧ (0 ≤ b → next = b) ∧ (b < 0 → at_ < next ∧ next ≤ s.length) ∧ 0 ≤ at_ := by
 intro m
 induction m using Nat.strongRecOn with
 | _ m ih =>
   intro at_ from_ b out n next hm hL h
   cases h1 : Q1 s at_ 1 with
   | false => rw [U0x h1] at h; cases h
   | true =>
     have hs1 := J9.1 h1
     by_cases h192 : 192 ≤ szT s at_
     · by_cases h3 : Q1 s at_ 2 = true ∧ toT s at_ < from_
       · rw [X0i h1 h192 h3.1 h3.2] at h
         have hto := V20 s at_
         obtain ⟨a1, a2, a3, a4⟩ := ih (msT s (toT s at_) (toT s at_)) (by have := V0y (s := s) (at_ := at_) hto.1 h3.2; omega) _ _ _ _ _ _ rfl hL h
         have hs2 := J9.1 h3.1
         refine ⟨a1, fun hb => ?_, fun hb => ?_, hs1.1⟩
         · rw [if_neg (by omega)] at a2
           exact a2 hb
         · rw [if_pos hb] at a2
           have := a2 (by omega)
           omega
       · rw [V0w h1 h192 h3] at h; cases h
     · by_cases h63 : 63 < szT s at_
       · rw [Z0z h1 h192 h63] at h; cases h
       · by_cases h4 : Q1 s (at_ + 1) (szT s at_) = true ∧ out.length + 1 + szT s at_ ≤ 255
         · have hs4 := J9.1 h4.1
           have hvl : (U1 s (at_ + 1) (szT s at_ : Int)).length = szT s at_ := by rw [V11 h4.1]; omega
           by_cases h0 : szT s at_ = 0
           · rw [Q0i h1 h0 (by omega)] at h
             cases h
             refine ⟨Vg.2 ⟨?_, by simp; omega, X0x.2 ⟨hL.1, by unfold J0c; decide⟩⟩, fun hb => by rw [if_neg (by omega)], fun hb => by rw [if_pos hb]; omega, hs1.1⟩
             unfold Vp
             rw [hL.2, Qb, if_pos (by decide)]
             rfl
           · rw [X0u h1 (by omega) h0 h4.1 h4.2] at h
             have hg : (s.getD at_.toNat 0).toNat = szT s at_ := rfl
             obtain ⟨a1, a2, a3, a4⟩ := ih (msT s (at_ + 1 + szT s at_) from_) (by have := V2t (s := s) (from_ := from_) hs1.1 hs4.2.2; omega) _ _ _ _ _ _ rfl (LP_on hL (by rw [hg]; exact h0) (by rw [hg]; omega) (by rw [hg]; exact hvl)) h
             refine ⟨a1, a2, fun hb => ?_, hs1.1⟩
             have := a3 hb
             omega
         · rw [Z01 h1 (by omega) h4] at h; cases h
def nmC (n : List UInt8) (b : List Int) (l : X6) : Bool := Vp n && (V5 b && (kOk l && Nat.ble (b.length + n.length) 1000000000000))
noncomputable def b123 : Code := (U5 c123 0)
def X3l : LoopSpec := { bid := 0, sh := [.ptr 0 0, .d .str false], so := [.box [.row 1, .mp 2], .row (.int .u8), .map .str (.int .i64)], F := fun (n, _) (_, b, l, _) => .on2 (nmC n b l) ((X4 n (Z0 b) l).1.isSome) (.ret, [.ptr 0 0, .str (X4 n (Z0 b) l).2.1, .int .i64 0], [.box [.rowA 1, .mp 2], .row (.int .u8) (J0 ((X4 n (Z0 b) l).2.2.1 ++ V0 (49152 + (X4 n (Z0 b) l).1.getD 0))), .mpo .str (.int .i64) (X4 n (Z0 b) l).2.2.2]) (.exit 0, [.ptr 0 0, .str (X4 n (Z0 b) l).2.1, .dead], [.box [.rowA 1, .mp 2], .row (.int .u8) (J0 (X4 n (Z0 b) l).2.2.1), .mpo .str (.int .i64) (X4 n (Z0 b) l).2.2.2]) }
def r123 (n : List UInt8) (b : List Int) (l : List (List UInt8 × Int)) : Tr (St ⊕ (Ex × St)) := .br (!n == [0]) (.br (hasM Ty.str (Ty.int .i64) n l) (.br (n16C (IntKind.wrap .u16 (IntKind.wrap .i64 (↑(BitVec.toNat (BitVec.ofInt (IntKind.bits IntKind.i64) 49152 ||| BitVec.ofInt (IntKind.bits IntKind.i64) (getM Ty.str (Ty.int .i64) n l))) : Int)))) (.br (fits (List.length b + List.length (J0 (V0 (IntKind.wrap .u16 (IntKind.wrap .i64 (↑(BitVec.toNat (BitVec.ofInt (IntKind.bits IntKind.i64) 49152 ||| BitVec.ofInt (IntKind.bits IntKind.i64) (getM Ty.str (Ty.int .i64) n l))) : Int)))))) 1) (.ret (.inr (.ret, stOf [0, 1, 4] [.ptr 0 0, .str n, .int .i64 0] [.boxT none [.rowA 1, .mp 2], .row (.int .u8) (b ++ J0 (V0 (IntKind.wrap .u16 (IntKind.wrap .i64 (↑(BitVec.toNat (BitVec.ofInt (IntKind.bits IntKind.i64) 49152 ||| BitVec.ofInt (IntKind.bits IntKind.i64) (getM Ty.str (Ty.int .i64) n l))) : Int))))), .mpo .str (.int .i64) l]))) .no) .no) (.br (decide ((↑b.length : Int) < 16384)) (.br (decide (0 < (↑n.length : Int))) (.br (decide (0 ≤ IntKind.wrap .i64 (1 + IntKind.wrap .i64 (↑(UInt8.toNat (n.getD (Int.toNat 0) 0)) : Int))) && decide (IntKind.wrap .i64 (1 + IntKind.wrap .i64 (↑(UInt8.toNat (n.getD (Int.toNat 0) 0)) : Int)) ≤ (↑n.length : Int))) (.br (decide (0 ≤ 0) && decide (0 ≤ IntKind.wrap .i64 (1 + IntKind.wrap .i64 (↑(UInt8.toNat (n.getD (Int.toNat 0) 0)) : Int)))) (.br (fits (List.length b + List.length (J0 (List.take (Int.toNat (IntKind.wrap .i64 (1 + IntKind.wrap .i64 (↑(UInt8.toNat (n.getD (Int.toNat 0) 0)) : Int))) - Int.toNat 0) (List.drop (Int.toNat 0) n)))) 1) (.br (decide (0 ≤ (↑n.length : Int)) && decide ((↑n.length : Int) ≤ (↑n.length : Int))) (.br (decide (0 ≤ IntKind.wrap .i64 (1 + IntKind.wrap .i64 (↑(UInt8.toNat (n.getD (Int.toNat 0) 0)) : Int))) && decide (IntKind.wrap .i64 (1 + IntKind.wrap .i64 (↑(UInt8.toNat (n.getD (Int.toNat 0) 0)) : Int)) ≤ (↑n.length : Int))) (.ret (.inl (stOf [0, 1] [.ptr 0 0, .str (List.take (Int.toNat (↑n.length : Int) - Int.toNat (IntKind.wrap .i64 (1 + IntKind.wrap .i64 (↑(UInt8.toNat (n.getD (Int.toNat 0) 0)) : Int)))) (List.drop (Int.toNat (IntKind.wrap .i64 (1 + IntKind.wrap .i64 (↑(UInt8.toNat (n.getD (Int.toNat 0) 0)) : Int)))) n))] [.boxT none [.rowA 1, .mp 2], .row (.int .u8) (b ++ J0 (List.take (Int.toNat (IntKind.wrap .i64 (1 + IntKind.wrap .i64 (↑(UInt8.toNat (n.getD (Int.toNat 0) 0)) : Int))) - Int.toNat 0) (List.drop (Int.toNat 0) n))), .mpo .str (.int .i64) (putM Ty.str (Ty.int .i64) n (↑b.length : Int) l)]))) .no) .no) .no) .no) .no) .no) (.br (decide (0 < (↑n.length : Int))) (.br (decide (0 ≤ IntKind.wrap .i64 (1 + IntKind.wrap .i64 (↑(UInt8.toNat (n.getD (Int.toNat 0) 0)) : Int))) && decide (IntKind.wrap .i64 (1 + IntKind.wrap .i64 (↑(UInt8.toNat (n.getD (Int.toNat 0) 0)) : Int)) ≤ (↑n.length : Int))) (.br (decide (0 ≤ 0) && decide (0 ≤ IntKind.wrap .i64 (1 + IntKind.wrap .i64 (↑(UInt8.toNat (n.getD (Int.toNat 0) 0)) : Int)))) (.br (fits (List.length b + List.length (J0 (List.take (Int.toNat (IntKind.wrap .i64 (1 + IntKind.wrap .i64 (↑(UInt8.toNat (n.getD (Int.toNat 0) 0)) : Int))) - Int.toNat 0) (List.drop (Int.toNat 0) n)))) 1) (.br (decide (0 ≤ (↑n.length : Int)) && decide ((↑n.length : Int) ≤ (↑n.length : Int))) (.br (decide (0 ≤ IntKind.wrap .i64 (1 + IntKind.wrap .i64 (↑(UInt8.toNat (n.getD (Int.toNat 0) 0)) : Int))) && decide (IntKind.wrap .i64 (1 + IntKind.wrap .i64 (↑(UInt8.toNat (n.getD (Int.toNat 0) 0)) : Int)) ≤ (↑n.length : Int))) (.ret (.inl (stOf [0, 1] [.ptr 0 0, .str (List.take (Int.toNat (↑n.length : Int) - Int.toNat (IntKind.wrap .i64 (1 + IntKind.wrap .i64 (↑(UInt8.toNat (n.getD (Int.toNat 0) 0)) : Int)))) (List.drop (Int.toNat (IntKind.wrap .i64 (1 + IntKind.wrap .i64 (↑(UInt8.toNat (n.getD (Int.toNat 0) 0)) : Int)))) n))] [.boxT none [.rowA 1, .mp 2], .row (.int .u8) (b ++ J0 (List.take (Int.toNat (IntKind.wrap .i64 (1 + IntKind.wrap .i64 (↑(UInt8.toNat (n.getD (Int.toNat 0) 0)) : Int))) - Int.toNat 0) (List.drop (Int.toNat 0) n))), .mpo .str (.int .i64) l]))) .no) .no) .no) .no) .no) .no))) (.ret (.inr (.exit 0, stOf [0, 1, 4] [.ptr 0 0, .str n, .dead] [.boxT none [.rowA 1, .mp 2], .row (.int .u8) b, .mpo .str (.int .i64) l])))
theorem Z3x (lp : Lp) (n : List UInt8) (b : List Int) (l : List (List UInt8 × Int)) : evC T0 (orcB [Xn, Z0l] [os98]) lp b123 0 (stOf [0, 1] [.ptr 0 0, .str n] [.box [.rowA 1, .mp 2], .row (.int .u8) b, .mpo .str (.int .i64) l]) (X1 [0, 1] [0, 1, 4] 3) = (r123 n b l).get := by kernel_rfl
theorem wf123 (I'' : List UInt8 → List Int → List (List UInt8 × Int) → Prop) (m'' : List UInt8 → List Int → List (List UInt8 × Int) → Nat) (r'' : Ex × St) (h : ∀ (n : List UInt8) (b : List Int) (l : List (List UInt8 × Int)), I'' n b l → (r123 n b l).all fun x'' => x'' = .inr r'' ∨ ∃ (n' : List UInt8) (b' : List Int) (l' : List (List UInt8 × Int)), x'' = .inl (stOf [0, 1] [.ptr 0 0, .str n'] [.box [.rowA 1, .mp 2], .row (.int .u8) b', .mpo .str (.int .i64) l']) ∧ I'' n' b' l' ∧ m'' n' b' l' < m'' n b l) (lp : Lp) (n : List UInt8) (b : List Int) (l : List (List UInt8 × Int)) : I'' n b l →
    U3 (fun st => evC T0 (orcB [Xn, Z0l] [os98]) lp b123 0 st (X1 [0, 1] [0, 1, 4] 3)) (stOf [0, 1] [.ptr 0 0, .str n] [.box [.rowA 1, .mp 2], .row (.int .u8) b, .mpo .str (.int .i64) l]) = some r'' :=
 U6 (fun a'' : List UInt8 × List Int × List (List UInt8 × Int) => stOf [0, 1] [.ptr 0 0, .str a''.1] [.box [.rowA 1, .mp 2], .row (.int .u8) a''.2.1, .mpo .str (.int .i64) a''.2.2]) (fun a'' => I'' a''.1 a''.2.1 a''.2.2) (fun a'' => m'' a''.1 a''.2.1 a''.2.2) r'' (fun a'' => r123 a''.1 a''.2.1 a''.2.2)
  (fun a'' x hx => (Z3x lp a''.1 a''.2.1 a''.2.2).trans hx) (fun a'' ha => Tr.all_mono (fun x'' hx => hx.imp id fun ⟨n', b', l', h1, h2, h3⟩ => ⟨(n', b', l'), h1, h2, h3⟩) (h (a''.1) (a''.2.1) (a''.2.2) ha)) (n, b, l)
def nmI (n0 : List UInt8) (b0 : List Int) (l0 : X6) (n : List UInt8) (b : List Int) (l : X6) : Prop := Vp n = true ∧ V5 b = true ∧ kOk l = true ∧ b.length + n.length ≤ 1000000000000 ∧ X4 n (Z0 b) l = X4 n0 (Z0 b0) l0
theorem Q4b : X3l.Ok T0 (orcB [Xn, Z0l] [os98]) h123 3 0 b123 := by
 intro q'' hq'' x'' y'' r'' h
 obtain ⟨(n : List UInt8), _⟩ := x''
 obtain ⟨_, (b : List Int), (l : List (List UInt8 × Int)), _⟩ := y''
 obtain ⟨hc, rfl⟩ := Tr.get_on2 h
 show U3 (fun st => evC T0 (orcB [Xn, Z0l] [os98]) (lpN T0 (orcB [Xn, Z0l] [os98]) h123 3 q'') b123 0 st (X1 [0, 1] [0, 1, 4] 3)) (stOf [0, 1] [.ptr 0 0, .str n] [.box [.rowA 1, .mp 2], .row (.int .u8) b, .mpo .str (.int .i64) l]) = some ((bif (X4 n (Z0 b) l).1.isSome then (.ret, [.ptr 0 0, .str (X4 n (Z0 b) l).2.1, .int .i64 0], [.box [.rowA 1, .mp 2], .row (.int .u8) (J0 ((X4 n (Z0 b) l).2.2.1 ++ V0 (49152 + (X4 n (Z0 b) l).1.getD 0))), .mpo .str (.int .i64) (X4 n (Z0 b) l).2.2.2]) else (.exit 0, [.ptr 0 0, .str (X4 n (Z0 b) l).2.1, .dead], [.box [.rowA 1, .mp 2], .row (.int .u8) (J0 (X4 n (Z0 b) l).2.2.1), .mpo .str (.int .i64) (X4 n (Z0 b) l).2.2.2]) : Ex × List AV × List LObj).1, stOf [0, 1, 4] (bif (X4 n (Z0 b) l).1.isSome then (.ret, [.ptr 0 0, .str (X4 n (Z0 b) l).2.1, .int .i64 0], [.box [.rowA 1, .mp 2], .row (.int .u8) (J0 ((X4 n (Z0 b) l).2.2.1 ++ V0 (49152 + (X4 n (Z0 b) l).1.getD 0))), .mpo .str (.int .i64) (X4 n (Z0 b) l).2.2.2]) else (.exit 0, [.ptr 0 0, .str (X4 n (Z0 b) l).2.1, .dead], [.box [.rowA 1, .mp 2], .row (.int .u8) (J0 (X4 n (Z0 b) l).2.2.1), .mpo .str (.int .i64) (X4 n (Z0 b) l).2.2.2]) : Ex × List AV × List LObj).2.1 (bif (X4 n (Z0 b) l).1.isSome then (.ret, [.ptr 0 0, .str (X4 n (Z0 b) l).2.1, .int .i64 0], [.box [.rowA 1, .mp 2], .row (.int .u8) (J0 ((X4 n (Z0 b) l).2.2.1 ++ V0 (49152 + (X4 n (Z0 b) l).1.getD 0))), .mpo .str (.int .i64) (X4 n (Z0 b) l).2.2.2]) else (.exit 0, [.ptr 0 0, .str (X4 n (Z0 b) l).2.1, .dead], [.box [.rowA 1, .mp 2], .row (.int .u8) (J0 (X4 n (Z0 b) l).2.2.1), .mpo .str (.int .i64) (X4 n (Z0 b) l).2.2.2]) : Ex × List AV × List LObj).2.2)
 simp only [nmC, Bool.and_eq_true] at hc
 obtain ⟨hr, hok, hk, hb⟩ := hc
 have hb := Nat.le_of_ble_eq_true hb
 refine wf123 (nmI n b l) (fun n _ _ => n.length) _ ?_ _ n b l ⟨hr, hok, hk, hb, rfl⟩
 clear hr hok hk hb
 rename_i n0 b0 l0
 rintro n b l ⟨hr, hok, hk, hb, he⟩
 rw [← he]
 unfold r123
 have hbS : J0 (Z0 b) = b := Q08 hok
 have hSl : (Z0 b).length = b.length := Xi b
 rcases Q01 hr with rfl | ⟨hn0, hn1, hlt, h63, hne, hrt⟩
 · rw [Xm]
   refine Tr.all_f (by simp) (Tr.all_ret (.inl ?_))
   simp only [Option.isSome_none, cond_false, hbS]
 · refine Tr.all_t (by simpa using hn0) ?_
   cases hlk : Jk n l with
   | some a =>
     obtain ⟨ha0, ha1⟩ := J3t hk hlk
     rw [Qi hn0 hlk]
     rw [V3b hlk]
     simp only [X4w ha0 ha1]
     refine Tr.all_t (by rw [X1r, hlk]; rfl) (Tr.all_t (by simp [n16C]; omega) (Tr.all_t (X7 (by simp [Z2, V9]; omega) (by simp [Z2, V9]; omega)) (Tr.all_ret (.inl ?_))))
     simp only [Option.isSome_some, cond_true, Zd, hbS, Option.getD_some]
   | none =>
     rw [Xj hn0 hn1 hlk]
     rw [Q3t hlk]
     simp only [szW, hdW, tlW]
     have hfit : fits (List.length b + List.length (J0 (hdN n))) 1 = true := X7 (by rw [Z2, Q17 (by omega)]; omega) (by rw [Z2, Q17 (by omega)]; omega)
     have hnew : V5 (b ++ J0 (hdN n)) = true := Vv hok (Ud _)
     have hlen : (b ++ J0 (hdN n)).length + (tlN n).length ≤ 1000000000000 := by
      rw [List.length_append, Z2, Q17 (by omega), V2x]; omega
     have hS2 : Z0 (b ++ J0 (hdN n)) = Z0 b ++ hdN n := by rw [V0e, Vl]
     have hm : (tlN n).length < n.length := J0o hn1
     refine Tr.all_f (by rw [X1r, hlk]; rfl) (Tr.all_br (fun c1 => ?_) fun c1 => ?_)
     · simp only [decide_eq_true_eq] at c1
       refine Tr.all_t (X0 (by omega)) (Tr.all_t (by rw [X0 (by omega), X0 (by omega)]; rfl) (Tr.all_t (by rw [X0 (by omega), X0 (by omega)]; rfl) (Tr.all_t hfit (Tr.all_t (by rw [X0 (by omega), X0 (by omega)]; rfl) (Tr.all_t (by rw [X0 (by omega), X0 (by omega)]; rfl) (Tr.all_ret (.inr ⟨_, _, _, rfl, ⟨hrt, hnew, Q2z hk (by omega), hlen, ?_⟩, hm⟩)))))))
       rw [hS2, ← he, Xj hn0 hn1 hlk, if_pos (by omega), hSl]
     · simp only [decide_eq_false_iff_not] at c1
       refine Tr.all_t (X0 (by omega)) (Tr.all_t (by rw [X0 (by omega), X0 (by omega)]; rfl) (Tr.all_t (by rw [X0 (by omega), X0 (by omega)]; rfl) (Tr.all_t hfit (Tr.all_t (by rw [X0 (by omega), X0 (by omega)]; rfl) (Tr.all_t (by rw [X0 (by omega), X0 (by omega)]; rfl) (Tr.all_ret (.inr ⟨_, _, _, rfl, ⟨hrt, hnew, hk, hlen, ?_⟩, hm⟩)))))))
       rw [hS2, ← he, Xj hn0 hn1 hlk, if_neg (by omega)]
def t123 (n : List UInt8) (b : List Int) (l : List (List UInt8 × Int)) : Tr Res := .br (bigS n) (.br (!mayV n) (.ret ([.int .i64 1], [.boxT none [.rowA 1, .mp 2], .row (.int .u8) b, .mpo .str (.int .i64) l])) (.br (nmC n b l) (.br (Option.isSome (X4 n (Z0 b) l).1) (.ret ([.int .i64 0], [.boxT none [.rowA 1, .mp 2], .row (.int .u8) (J0 ((X4 n (Z0 b) l).2.2.1 ++ V0 (49152 + Option.getD (X4 n (Z0 b) l).1 0))), .mpo .str (.int .i64) (X4 n (Z0 b) l).2.2.2])) (.br (fits (List.length (J0 (X4 n (Z0 b) l).2.2.1) + List.length (J0 (X4 n (Z0 b) l).2.1)) 1) (.ret ([.int .i64 0], [.boxT none [.rowA 1, .mp 2], .row (.int .u8) (J0 (X4 n (Z0 b) l).2.2.1 ++ J0 (X4 n (Z0 b) l).2.1), .mpo .str (.int .i64) (X4 n (Z0 b) l).2.2.2])) .no)) .no)) .no
def X4k : OSpec := { f := 123, sh := [.ptr 0 0, .d .str false], so := [.box [.row 1, .mp 2], .row (.int .u8), .map .str (.int .i64)], F := fun (n, _) (_, b, l, _) => t123 n b l }
theorem fn123 (n : List UInt8) (b : List Int) (l : List (List UInt8 × Int)) : evC T0 (orcB [Xn, Z0l] [os98]) (lpOf h123 3 (lsOf [X3l])) c123 1000000 (V1 [.ptr 0 0, .str n] [.box [.rowA 1, .mp 2], .row (.int .u8) b, .mpo .str (.int .i64) l] Try.f123.ntmps) (Z1 T0 false 3 Try.f123) = (t123 n b l).get := by kernel_rfl
theorem ok123 : X4k.Ok Try.prog := by
 refine J4 U2 tab0 (U0 (all_cons Z11 (all_cons Q1x all_nil)) (all_cons ok98 all_nil)) h123 (d := 0) (n0 := 3) (S := lsOf [X3l]) Try.func123 (by kernel_rfl) (c := c123) (by kernel_rfl) rfl (J6 (xs := [(0, b123)]) (by kernel_rfl) (all_cons (V7 Q4b) all_nil)) (by omega) (by kernel_rfl) ?_
 intro x'' y'' q'' hq''
 obtain ⟨(n : List UInt8), _⟩ := x''
 obtain ⟨_, (b : List Int), (l : List (List UInt8 × Int)), _⟩ := y''
 exact (fn123 n b l).trans hq''
abbrev pkO (b : List Int) (l : X6) : List LObj := [.box [.rowA 1, .mp 2], .row (.int .u8) b, .mpo .str (.int .i64) l]
def pkC (b : List Int) (l : X6) : Bool := V5 b && (kOk l && Nat.ble b.length 100000000000)
def Z0b : OSpec := X4k.like fun (n, _) (_, b, l, _) => .br (pkC b l && Nat.ble n.length 100000000000) (.br (mayV n) (.ret ([.int .i64 0], pkO (J0 (J3 n (Z0 b) l).1) (J3 n (Z0 b) l).2)) (.ret ([.int .i64 1], pkO b l))) .no
theorem U2l : Z0b.Ok Try.prog := by
 refine Jj ok123 _ ?_
 rintro ⟨(n : List UInt8), _⟩ ⟨_, (b : List Int), (l : X6), _⟩ r h
 simp only [Tr.get] at h
 cases hc : (pkC b l && Nat.ble n.length 100000000000) with
 | false => rw [hc] at h; cases h
 | true =>
   rw [hc, cond_true] at h
   simp only [pkC, Bool.and_eq_true] at hc
   obtain ⟨⟨hok, hk, hb⟩, hn⟩ := hc
   have hb := Nat.le_of_ble_eq_true hb
   have hn := Nat.le_of_ble_eq_true hn
   refine Tr.get_of_all ?_
   show (t123 n b l).all _
   have hbig : bigS n = true := by simp [bigS]; omega
   cases hm : mayV n with
   | false =>
     rw [hm, cond_false] at h
     cases h
     unfold t123
     rw [hm]
     exact Tr.all_t hbig (Tr.all_t rfl (Tr.all_ret rfl))
   | true =>
     rw [hm, cond_true] at h
     cases h
     unfold t123
     rw [hm]
     have hr : Vp n = true := by simp only [mayV, Bool.and_eq_true] at hm; exact hm.1
     obtain ⟨f1, f2, f3, f4, f5, f6⟩ := X0d _ n (Z0 b) l rfl hr
     rw [Xi] at f3
     refine Tr.all_t hbig (Tr.all_f rfl (Tr.all_t (by simp only [nmC, hr, hok, hk, Bool.true_and]; exact Nat.ble_eq_true_of_le (by omega)) ?_))
     unfold J3
     cases hf : (X4 n (Z0 b) l).1 with
     | some a =>
       refine Tr.all_t rfl (Tr.all_ret ?_)
       rfl
     | none =>
       rw [f1 hf] at f3
       refine Tr.all_f rfl (Tr.all_t (X7 (by rw [Z2, Z2, f1 hf]; simp at f3 ⊢; omega) (by rw [Z2, Z2, f1 hf]; simp at f3 ⊢; omega)) (Tr.all_ret ?_))
       rw [f1 hf, ← Zd]
       rfl
abbrev PKt := List UInt8 × X6
def stN (p : PKt) (x : List UInt8 × Bool) : PKt := bif mayV x.1 then J3 x.1 p.1 p.2 else p
theorem Us {α : Type} {l : List α} {i : Int} (d : α) (h0 : 0 ≤ i) (h : i < l.length) : l.drop i.toNat = l.getD i.toNat d :: l.drop (i + 1).toNat ∧ l.getD i.toNat d ∈ l := by
 have hk : i.toNat < l.length := by omega
 rw [List.getD_eq_getElem?_getD, List.getElem?_eq_getElem hk, show (i + 1).toNat = i.toNat + 1 by omega]
 exact ⟨List.drop_eq_getElem_cons hk, List.getElem_mem hk⟩
def layV (k : Int) : List Int := if k = 1 then [4] else if k = 28 then [16] else if k = 2 ∨ k = 5 ∨ k = 12 then [-1] else if k = 15 then [2, -1] else if k = 6 then [-1, -1, 20] else if k = 16 then [-2] else [-3]
def whAt (s : List UInt8) (k : Nat) : Nat := if h : k < s.length ∧ 0 < byN s k then whAt s (k + 1 + byN s k) else k
termination_by s.length - k
def Ja (s : List UInt8) : Nat := if whAt s 0 < s.length ∧ mayV (s.take (whAt s 0 + 1)) = true then whAt s 0 + 1 else 0
theorem X1x (s : List UInt8) : Ja s ≤ s.length := by
 unfold Ja
 split <;> omega
def txAt (s : List UInt8) (k : Nat) : Nat := if h : k < s.length then txAt s (k + 1 + byN s k) else k
termination_by s.length - k
def X0n (s : List UInt8) : Bool := !s.isEmpty && decide (txAt s 0 = s.length)
def szP (p : Int) (d : List UInt8) : Int := if p = -1 then (Ja d : Int) else if p = -2 ∧ X0n d = true ∨ p = -3 then (d.length : Int) else p
def okP (p : Int) (d : List UInt8) : Bool := decide (0 ≤ szP p d) && (decide (szP p d ≤ (d.length : Int)) && !(decide (p = -1) && decide (szP p d = 0)))
def cutS : List Int → List UInt8 → List (List UInt8) → Bool × (List UInt8 × List (List UInt8))
 | [], d, out => (true, d, out)
 | p :: ps, d, out => if okP p d = true then cutS ps (d.drop (szP p d).toNat) (out ++ [d.take (szP p d).toNat]) else (false, d, out)
def noS (l : List (List UInt8)) : Bool := l.isEmpty
def cutC (d : List UInt8) (ps : List Int) (n i : Int) (l : List (List UInt8)) : Bool := bigS d && (decide (n = ps.length) && (decide (i = 0) && (noS l && decide (ps.length ≤ 10))))
def okV (k : Int) (d : List UInt8) : Bool := (cutS (layV k) d []).1
def X1u (k : Int) (d : List UInt8) : List UInt8 := (cutS (layV k) d []).2.1
def Ji (k : Int) (d : List UInt8) : List (List UInt8) := (cutS (layV k) d []).2.2
def mayR (k : Int) (d : List UInt8) : Bool := (okV k d && (X1u k d).isEmpty) && Nat.ble d.length 65535
def putS : List Int → List (List UInt8) → PKt → PKt
 | [], _, p => p
 | x :: ps, ls, p => putS ps ls.tail (bif x == -1 then stN p (ls.headD [], false) else (p.1 ++ ls.headD [], p.2))
def putC (ls : List (List UInt8)) (ps : List Int) (n i : Int) (b : List Int) (m : X6) : Bool := (V5 b && (kOk m && Nat.ble b.length 1000000000)) && (decide (n = ps.length) && (decide (i = 0) && (decide (ls.length = ps.length) && (decide (ps.length ≤ 10) && ls.all fun x => decide (x.length ≤ 1000000)))))
def X5 : List Int → List UInt8 → Int → Int → List UInt8 → Bool × (Int × List UInt8)
 | [], _, a, _, d => (true, a, d)
 | x :: ps, s, a, e, d =>
   if x = -1 then
    (match J5 s a a (-1) [] with
    | none => (false, a, d)
    | some (n, next) => if next > e then (false, a, d) else X5 ps s next e (d ++ n))
   else
    (if Q1 s a (if x = -2 ∨ x = -3 then e - a else x) = true ∧ a + (if x = -2 ∨ x = -3 then e - a else x) ≤ e then X5 ps s (a + (if x = -2 ∨ x = -3 then e - a else x)) e (d ++ U1 s a (if x = -2 ∨ x = -3 then e - a else x)) else (false, a, d))
def noT (d : List UInt8) : Bool := d.isEmpty
def smS (s : List UInt8) : Bool := decide (s.length ≤ 100000000)
def Q2g (s : List UInt8) (a e : Int) (d : List UInt8) (ps : List Int) (n i : Int) : Bool := smS s && (decide (n = ps.length) && (decide (i = 0) && (decide (0 ≤ a) && (decide (a ≤ e) && (decide (e ≤ s.length) && (noT d && decide (ps.length ≤ 10)))))))
def pkT (b : List Int) (m : X6) : Bool := V5 b && (kOk m && Nat.ble b.length 1000000000)
def putR (k : Int) (d : List UInt8) (p : PKt) : PKt := putS (layV k) (Ji k d) p
def Vx (s : List UInt8) (a n k : Int) : Option (List UInt8) := if Q1 s a n = true then (if (X5 (layV k) s a (a + n) []).1 = true ∧ (X5 (layV k) s a (a + n) []).2.1 = a + n ∧ mayR k (X5 (layV k) s a (a + n) []).2.2 = true then some (X5 (layV k) s a (a + n) []).2.2 else none) else none
theorem J3w {p : PKt} {x : List UInt8 × Bool} (h : kOk p.2 = true) : kOk (stN p x).2 = true ∧ (stN p x).1.length ≤ p.1.length + x.1.length := by
 unfold stN
 cases hm : mayV x.1 with
 | false => exact ⟨h, by simp⟩
 | true =>
   obtain ⟨_, _, _, f4, _⟩ := X0d _ x.1 p.1 p.2 rfl (Vg.1 hm).1
   obtain ⟨l1, _⟩ := Q07 _ x.1 p.1 p.2 rfl (Vg.1 hm).1
   exact ⟨f4 h, l1⟩
theorem Q0d {s : List UInt8} {a : Int} {n : List UInt8} {next : Int} (h0 : 0 ≤ a) (h : J5 s a a (-1) [] = some (n, next)) : mayV n = true ∧ a < next ∧ next ≤ s.length := by
 obtain ⟨a1, _, a3, _⟩ := Q37 _ a a (-1) [] n next rfl X4y h
 exact ⟨a1, a3 (by omega)⟩
theorem Z3d {α : Type} {F : St → Option (St ⊕ (Ex × St))} (mk : α → St) (I : α → Prop) (m : α → Nat) (r : Ex × St) (t : α → Tr (St ⊕ (Ex × St))) (hF : ∀ a x, (t a).get = some x → F (mk a) = some x)
    (h : ∀ a, I a → (t a).all fun x => x = .inr r ∨ (∃ a', x = .inl (mk a') ∧ I a' ∧ m a' < m a) ∨ ∃ st', x = .inl st' ∧ U3 F st' = some r) : ∀ a, I a → U3 F (mk a) = some r := by
 have key : ∀ (n : Nat) (a : α), m a = n → I a → U3 F (mk a) = some r := by
  intro n
  induction n using Nat.strongRecOn with
  | _ n ih =>
    intro a hn ha
    obtain ⟨x, h1, h2⟩ := Tr.all_get (h a ha)
    rcases h2 with rfl | ⟨a', rfl, ha', hlt⟩ | ⟨st', rfl, h3⟩
    · exact Q1v (hF a _ h1)
    · rw [U0y (hF a _ h1)]
      exact ih (m a') (by omega) a' rfl ha'
    · rw [U0y (hF a _ h1)]
      exact h3
 exact fun a ha => key _ a rfl ha
def tkC (s : List UInt8) (b : List Int) : Bool := bigS s && (V5 b && Nat.ble b.length 255)
def tkI (s : List UInt8) (a0 f0 h0 : Int) (b0 : List Int) (at_ from_ behind : Int) (b : List Int) : Prop := V5 b = true ∧ b.length ≤ 255 ∧ J5 s at_ from_ behind (Z0 b) = J5 s a0 f0 h0 (Z0 b0)
noncomputable def X31 : Code := (U5 c114 0)
def J4x : LoopSpec := { bid := 0, sh := [.d .str false, .d (.int .i64) false, .ptr 0 0, .d (.int .i64) false, .d (.int .i64) false], so := [.tbox 203 [.ptr 0 0, .row 1], .row (.int .u8)], F := fun (s, at_, from_, behind, _) (_, b, _) => .on (tkC s b) (.ret, [.str (tkS (J5 s at_ from_ behind (Z0 b))), .int .i64 (tkN (J5 s at_ from_ behind (Z0 b))), .int .i64 (tkE (J5 s at_ from_ behind (Z0 b)))], []) }
def J30 (s : List UInt8) (at_ from_ behind : Int) (b : List Int) : Tr (St ⊕ (Ex × St)) := .br (bigS s) (.br (Q1 s at_ 1) (.br (decide ((↑(UInt8.toNat (s.getD at_.toNat 0)) : Int) > 63)) (.br (decide ((↑(UInt8.toNat (s.getD at_.toNat 0)) : Int) < 192)) (.ret (.inr (.ret, stOf [4, 5, 6] [.str [], .int .i64 0, .int .i64 2] []))) (.br (decide ((↑(UInt8.toNat (s.getD at_.toNat 0)) : Int) ≥ 192)) (.br (bigS s) (.br (Q1 s at_ 2) (.br (decide (IntKind.wrap .i64 (↑(BitVec.toNat (BitVec.ofInt (IntKind.bits IntKind.i64) (IntKind.wrap .i64 (n16 s at_)) &&& ~~~BitVec.ofInt (IntKind.bits IntKind.i64) 49152)) : Int) < from_)) (.br (decide (behind < 0)) (.ret (.inl (stOf [0, 1, 7, 8, 9] [.str s, .int .i64 (IntKind.wrap .i64 (↑(BitVec.toNat (BitVec.ofInt (IntKind.bits IntKind.i64) (IntKind.wrap .i64 (n16 s at_)) &&& ~~~BitVec.ofInt (IntKind.bits IntKind.i64) 49152)) : Int)), .ptr 0 0, .int .i64 (IntKind.wrap .i64 (↑(BitVec.toNat (BitVec.ofInt (IntKind.bits IntKind.i64) (IntKind.wrap .i64 (n16 s at_)) &&& ~~~BitVec.ofInt (IntKind.bits IntKind.i64) 49152)) : Int)), .int .i64 (at_ + (2 : Ty.den (Ty.int .i64)))] [.boxT (some 203) [.ptr 0 0, .rowA 1], .row (.int .u8) b]))) (.ret (.inl (stOf [0, 1, 7, 8, 9] [.str s, .int .i64 (IntKind.wrap .i64 (↑(BitVec.toNat (BitVec.ofInt (IntKind.bits IntKind.i64) (IntKind.wrap .i64 (n16 s at_)) &&& ~~~BitVec.ofInt (IntKind.bits IntKind.i64) 49152)) : Int)), .ptr 0 0, .int .i64 (IntKind.wrap .i64 (↑(BitVec.toNat (BitVec.ofInt (IntKind.bits IntKind.i64) (IntKind.wrap .i64 (n16 s at_)) &&& ~~~BitVec.ofInt (IntKind.bits IntKind.i64) 49152)) : Int)), .int .i64 behind] [.boxT (some 203) [.ptr 0 0, .rowA 1], .row (.int .u8) b])))) (.ret (.inr (.ret, stOf [4, 5, 6] [.str [], .int .i64 0, .int .i64 2] [])))) (.ret (.inr (.ret, stOf [4, 5, 6] [.str [], .int .i64 0, .int .i64 2] [])))) .no) (.br (bigS s) (.br (Q1 s (at_ + (1 : Ty.den (Ty.int .i64))) (IntKind.wrap .i64 (↑(UInt8.toNat (s.getD at_.toNat 0)) : Int))) (.br (decide (IntKind.wrap .i64 (IntKind.wrap .i64 ((↑b.length : Int) + 1) + (↑(List.length (U1 s (at_ + (1 : Ty.den (Ty.int .i64))) (IntKind.wrap .i64 (↑(UInt8.toNat (s.getD at_.toNat 0)) : Int)))) : Int)) > 255)) (.ret (.inr (.ret, stOf [4, 5, 6] [.str [], .int .i64 0, .int .i64 2] []))) (.br (fits (List.length b + 1) 1) (.br (bigS (U1 s (at_ + (1 : Ty.den (Ty.int .i64))) (IntKind.wrap .i64 (↑(UInt8.toNat (s.getD at_.toNat 0)) : Int)))) (.br (fits (List.length (b ++ [(↑(UInt8.toNat (s.getD at_.toNat 0)) : Int)]) + List.length (J0 (Q3 (U1 s (at_ + (1 : Ty.den (Ty.int .i64))) (IntKind.wrap .i64 (↑(UInt8.toNat (s.getD at_.toNat 0)) : Int)))))) 1) (.br (decide ((↑(UInt8.toNat (s.getD at_.toNat 0)) : Int) > 0)) (.ret (.inl (stOf [0, 1, 7, 8, 9] [.str s, .int .i64 (at_ + (1 : Ty.den (Ty.int .i64)) + IntKind.wrap .i64 (↑(UInt8.toNat (s.getD at_.toNat 0)) : Int)), .ptr 0 0, .int .i64 from_, .int .i64 behind] [.boxT (some 203) [.ptr 0 0, .rowA 1], .row (.int .u8) (b ++ [(↑(UInt8.toNat (s.getD at_.toNat 0)) : Int)] ++ J0 (Q3 (U1 s (at_ + (1 : Ty.den (Ty.int .i64))) (IntKind.wrap .i64 (↑(UInt8.toNat (s.getD at_.toNat 0)) : Int)))))]))) (.br (decide (behind < 0)) (.br (V5 (b ++ [(↑(UInt8.toNat (s.getD at_.toNat 0)) : Int)] ++ J0 (Q3 (U1 s (at_ + (1 : Ty.den (Ty.int .i64))) (IntKind.wrap .i64 (↑(UInt8.toNat (s.getD at_.toNat 0)) : Int))))) && (!List.isEmpty (b ++ [(↑(UInt8.toNat (s.getD at_.toNat 0)) : Int)] ++ J0 (Q3 (U1 s (at_ + (1 : Ty.den (Ty.int .i64))) (IntKind.wrap .i64 (↑(UInt8.toNat (s.getD at_.toNat 0)) : Int))))) && Nat.ble (List.length (b ++ [(↑(UInt8.toNat (s.getD at_.toNat 0)) : Int)] ++ J0 (Q3 (U1 s (at_ + (1 : Ty.den (Ty.int .i64))) (IntKind.wrap .i64 (↑(UInt8.toNat (s.getD at_.toNat 0)) : Int)))))) 9223372036854775807)) (.ret (.inr (.ret, stOf [4, 5, 6] [.str (Z0 (b ++ [(↑(UInt8.toNat (s.getD at_.toNat 0)) : Int)] ++ J0 (Q3 (U1 s (at_ + (1 : Ty.den (Ty.int .i64))) (IntKind.wrap .i64 (↑(UInt8.toNat (s.getD at_.toNat 0)) : Int)))))), .int .i64 (at_ + (1 : Ty.den (Ty.int .i64)) + IntKind.wrap .i64 (↑(UInt8.toNat (s.getD at_.toNat 0)) : Int)), .int .i64 0] []))) .no) (.br (V5 (b ++ [(↑(UInt8.toNat (s.getD at_.toNat 0)) : Int)] ++ J0 (Q3 (U1 s (at_ + (1 : Ty.den (Ty.int .i64))) (IntKind.wrap .i64 (↑(UInt8.toNat (s.getD at_.toNat 0)) : Int))))) && (!List.isEmpty (b ++ [(↑(UInt8.toNat (s.getD at_.toNat 0)) : Int)] ++ J0 (Q3 (U1 s (at_ + (1 : Ty.den (Ty.int .i64))) (IntKind.wrap .i64 (↑(UInt8.toNat (s.getD at_.toNat 0)) : Int))))) && Nat.ble (List.length (b ++ [(↑(UInt8.toNat (s.getD at_.toNat 0)) : Int)] ++ J0 (Q3 (U1 s (at_ + (1 : Ty.den (Ty.int .i64))) (IntKind.wrap .i64 (↑(UInt8.toNat (s.getD at_.toNat 0)) : Int)))))) 9223372036854775807)) (.ret (.inr (.ret, stOf [4, 5, 6] [.str (Z0 (b ++ [(↑(UInt8.toNat (s.getD at_.toNat 0)) : Int)] ++ J0 (Q3 (U1 s (at_ + (1 : Ty.den (Ty.int .i64))) (IntKind.wrap .i64 (↑(UInt8.toNat (s.getD at_.toNat 0)) : Int)))))), .int .i64 behind, .int .i64 0] []))) .no))) .no) .no) .no)) (.ret (.inr (.ret, stOf [4, 5, 6] [.str [], .int .i64 0, .int .i64 2] [])))) .no))) (.br (decide ((↑(UInt8.toNat (s.getD at_.toNat 0)) : Int) ≥ 192)) (.br (bigS s) (.br (Q1 s at_ 2) (.br (decide (IntKind.wrap .i64 (↑(BitVec.toNat (BitVec.ofInt (IntKind.bits IntKind.i64) (IntKind.wrap .i64 (n16 s at_)) &&& ~~~BitVec.ofInt (IntKind.bits IntKind.i64) 49152)) : Int) < from_)) (.br (decide (behind < 0)) (.ret (.inl (stOf [0, 1, 7, 8, 9] [.str s, .int .i64 (IntKind.wrap .i64 (↑(BitVec.toNat (BitVec.ofInt (IntKind.bits IntKind.i64) (IntKind.wrap .i64 (n16 s at_)) &&& ~~~BitVec.ofInt (IntKind.bits IntKind.i64) 49152)) : Int)), .ptr 0 0, .int .i64 (IntKind.wrap .i64 (↑(BitVec.toNat (BitVec.ofInt (IntKind.bits IntKind.i64) (IntKind.wrap .i64 (n16 s at_)) &&& ~~~BitVec.ofInt (IntKind.bits IntKind.i64) 49152)) : Int)), .int .i64 (at_ + (2 : Ty.den (Ty.int .i64)))] [.boxT (some 203) [.ptr 0 0, .rowA 1], .row (.int .u8) b]))) (.ret (.inl (stOf [0, 1, 7, 8, 9] [.str s, .int .i64 (IntKind.wrap .i64 (↑(BitVec.toNat (BitVec.ofInt (IntKind.bits IntKind.i64) (IntKind.wrap .i64 (n16 s at_)) &&& ~~~BitVec.ofInt (IntKind.bits IntKind.i64) 49152)) : Int)), .ptr 0 0, .int .i64 (IntKind.wrap .i64 (↑(BitVec.toNat (BitVec.ofInt (IntKind.bits IntKind.i64) (IntKind.wrap .i64 (n16 s at_)) &&& ~~~BitVec.ofInt (IntKind.bits IntKind.i64) 49152)) : Int)), .int .i64 behind] [.boxT (some 203) [.ptr 0 0, .rowA 1], .row (.int .u8) b])))) (.ret (.inr (.ret, stOf [4, 5, 6] [.str [], .int .i64 0, .int .i64 2] [])))) (.ret (.inr (.ret, stOf [4, 5, 6] [.str [], .int .i64 0, .int .i64 2] [])))) .no) (.br (bigS s) (.br (Q1 s (at_ + (1 : Ty.den (Ty.int .i64))) (IntKind.wrap .i64 (↑(UInt8.toNat (s.getD at_.toNat 0)) : Int))) (.br (decide (IntKind.wrap .i64 (IntKind.wrap .i64 ((↑b.length : Int) + 1) + (↑(List.length (U1 s (at_ + (1 : Ty.den (Ty.int .i64))) (IntKind.wrap .i64 (↑(UInt8.toNat (s.getD at_.toNat 0)) : Int)))) : Int)) > 255)) (.ret (.inr (.ret, stOf [4, 5, 6] [.str [], .int .i64 0, .int .i64 2] []))) (.br (fits (List.length b + 1) 1) (.br (bigS (U1 s (at_ + (1 : Ty.den (Ty.int .i64))) (IntKind.wrap .i64 (↑(UInt8.toNat (s.getD at_.toNat 0)) : Int)))) (.br (fits (List.length (b ++ [(↑(UInt8.toNat (s.getD at_.toNat 0)) : Int)]) + List.length (J0 (Q3 (U1 s (at_ + (1 : Ty.den (Ty.int .i64))) (IntKind.wrap .i64 (↑(UInt8.toNat (s.getD at_.toNat 0)) : Int)))))) 1) (.br (decide ((↑(UInt8.toNat (s.getD at_.toNat 0)) : Int) > 0)) (.ret (.inl (stOf [0, 1, 7, 8, 9] [.str s, .int .i64 (at_ + (1 : Ty.den (Ty.int .i64)) + IntKind.wrap .i64 (↑(UInt8.toNat (s.getD at_.toNat 0)) : Int)), .ptr 0 0, .int .i64 from_, .int .i64 behind] [.boxT (some 203) [.ptr 0 0, .rowA 1], .row (.int .u8) (b ++ [(↑(UInt8.toNat (s.getD at_.toNat 0)) : Int)] ++ J0 (Q3 (U1 s (at_ + (1 : Ty.den (Ty.int .i64))) (IntKind.wrap .i64 (↑(UInt8.toNat (s.getD at_.toNat 0)) : Int)))))]))) (.br (decide (behind < 0)) (.br (V5 (b ++ [(↑(UInt8.toNat (s.getD at_.toNat 0)) : Int)] ++ J0 (Q3 (U1 s (at_ + (1 : Ty.den (Ty.int .i64))) (IntKind.wrap .i64 (↑(UInt8.toNat (s.getD at_.toNat 0)) : Int))))) && (!List.isEmpty (b ++ [(↑(UInt8.toNat (s.getD at_.toNat 0)) : Int)] ++ J0 (Q3 (U1 s (at_ + (1 : Ty.den (Ty.int .i64))) (IntKind.wrap .i64 (↑(UInt8.toNat (s.getD at_.toNat 0)) : Int))))) && Nat.ble (List.length (b ++ [(↑(UInt8.toNat (s.getD at_.toNat 0)) : Int)] ++ J0 (Q3 (U1 s (at_ + (1 : Ty.den (Ty.int .i64))) (IntKind.wrap .i64 (↑(UInt8.toNat (s.getD at_.toNat 0)) : Int)))))) 9223372036854775807)) (.ret (.inr (.ret, stOf [4, 5, 6] [.str (Z0 (b ++ [(↑(UInt8.toNat (s.getD at_.toNat 0)) : Int)] ++ J0 (Q3 (U1 s (at_ + (1 : Ty.den (Ty.int .i64))) (IntKind.wrap .i64 (↑(UInt8.toNat (s.getD at_.toNat 0)) : Int)))))), .int .i64 (at_ + (1 : Ty.den (Ty.int .i64)) + IntKind.wrap .i64 (↑(UInt8.toNat (s.getD at_.toNat 0)) : Int)), .int .i64 0] []))) .no) (.br (V5 (b ++ [(↑(UInt8.toNat (s.getD at_.toNat 0)) : Int)] ++ J0 (Q3 (U1 s (at_ + (1 : Ty.den (Ty.int .i64))) (IntKind.wrap .i64 (↑(UInt8.toNat (s.getD at_.toNat 0)) : Int))))) && (!List.isEmpty (b ++ [(↑(UInt8.toNat (s.getD at_.toNat 0)) : Int)] ++ J0 (Q3 (U1 s (at_ + (1 : Ty.den (Ty.int .i64))) (IntKind.wrap .i64 (↑(UInt8.toNat (s.getD at_.toNat 0)) : Int))))) && Nat.ble (List.length (b ++ [(↑(UInt8.toNat (s.getD at_.toNat 0)) : Int)] ++ J0 (Q3 (U1 s (at_ + (1 : Ty.den (Ty.int .i64))) (IntKind.wrap .i64 (↑(UInt8.toNat (s.getD at_.toNat 0)) : Int)))))) 9223372036854775807)) (.ret (.inr (.ret, stOf [4, 5, 6] [.str (Z0 (b ++ [(↑(UInt8.toNat (s.getD at_.toNat 0)) : Int)] ++ J0 (Q3 (U1 s (at_ + (1 : Ty.den (Ty.int .i64))) (IntKind.wrap .i64 (↑(UInt8.toNat (s.getD at_.toNat 0)) : Int)))))), .int .i64 behind, .int .i64 0] []))) .no))) .no) .no) .no)) (.ret (.inr (.ret, stOf [4, 5, 6] [.str [], .int .i64 0, .int .i64 2] [])))) .no))) (.ret (.inr (.ret, stOf [4, 5, 6] [.str [], .int .i64 0, .int .i64 2] [])))) .no
theorem Q32 (lp : Lp) (s : List UInt8) (at_ from_ behind : Int) (b : List Int) : evC T0 (orcB [Z02, Qp, Qg, X0c] [Z00, Zz, V00, Vz, V01, U0c]) lp X31 0 (stOf [0, 1, 7, 8, 9] [.str s, .int .i64 at_, .ptr 0 0, .int .i64 from_, .int .i64 behind] [.boxT (some 203) [.ptr 0 0, .rowA 1], .row (.int .u8) b]) (X1 [0, 1, 7, 8, 9] [4, 5, 6] 0) = (J30 s at_ from_ behind b).get := by kernel_rfl
theorem Z50 (s : List UInt8) (I'' : Int → Int → Int → List Int → Prop) (m'' : Int → Int → Int → List Int → Nat) (r'' : Ex × St) (h : ∀ (at_ from_ behind : Int) (b : List Int), I'' at_ from_ behind b → (J30 s at_ from_ behind b).all fun x'' => x'' = .inr r'' ∨ ∃ (at_' from_' behind' : Int) (b' : List Int), x'' = .inl (stOf [0, 1, 7, 8, 9] [.str s, .int .i64 at_', .ptr 0 0, .int .i64 from_', .int .i64 behind'] [.boxT (some 203) [.ptr 0 0, .rowA 1], .row (.int .u8) b']) ∧ I'' at_' from_' behind' b' ∧ m'' at_' from_' behind' b' < m'' at_ from_ behind b) (lp : Lp) (at_ from_ behind : Int) (b : List Int) : I'' at_ from_ behind b →
    U3 (fun st => evC T0 (orcB [Z02, Qp, Qg, X0c] [Z00, Zz, V00, Vz, V01, U0c]) lp X31 0 st (X1 [0, 1, 7, 8, 9] [4, 5, 6] 0)) (stOf [0, 1, 7, 8, 9] [.str s, .int .i64 at_, .ptr 0 0, .int .i64 from_, .int .i64 behind] [.boxT (some 203) [.ptr 0 0, .rowA 1], .row (.int .u8) b]) = some r'' :=
 U6 (fun a'' : Int × Int × Int × List Int => stOf [0, 1, 7, 8, 9] [.str s, .int .i64 a''.1, .ptr 0 0, .int .i64 a''.2.1, .int .i64 a''.2.2.1] [.boxT (some 203) [.ptr 0 0, .rowA 1], .row (.int .u8) a''.2.2.2]) (fun a'' => I'' a''.1 a''.2.1 a''.2.2.1 a''.2.2.2) (fun a'' => m'' a''.1 a''.2.1 a''.2.2.1 a''.2.2.2) r'' (fun a'' => J30 s a''.1 a''.2.1 a''.2.2.1 a''.2.2.2)
  (fun a'' x hx => (Q32 lp s a''.1 a''.2.1 a''.2.2.1 a''.2.2.2).trans hx) (fun a'' ha => Tr.all_mono (fun x'' hx => hx.imp id fun ⟨at_', from_', behind', b', h1, h2, h3⟩ => ⟨(at_', from_', behind', b'), h1, h2, h3⟩) (h (a''.1) (a''.2.1) (a''.2.2.1) (a''.2.2.2) ha)) (at_, from_, behind, b)
theorem U3o : J4x.Ok T0 (orcB [Z02, Qp, Qg, X0c] [Z00, Zz, V00, Vz, V01, U0c]) h114 0 0 X31 := by
 intro q'' hq'' x'' y'' r'' h
 obtain ⟨(s : List UInt8), (at_ : Int), (from_ : Int), (behind : Int), _⟩ := x''
 obtain ⟨_, (b : List Int), _⟩ := y''
 obtain ⟨hc, rfl⟩ := Tr.get_on h
 show U3 (fun st => evC T0 (orcB [Z02, Qp, Qg, X0c] [Z00, Zz, V00, Vz, V01, U0c]) (lpN T0 (orcB [Z02, Qp, Qg, X0c] [Z00, Zz, V00, Vz, V01, U0c]) h114 0 q'') X31 0 st (X1 [0, 1, 7, 8, 9] [4, 5, 6] 0)) (stOf [0, 1, 7, 8, 9] [.str s, .int .i64 at_, .ptr 0 0, .int .i64 from_, .int .i64 behind] [.boxT (some 203) [.ptr 0 0, .rowA 1], .row (.int .u8) b]) = some (.ret, stOf [4, 5, 6] ([.str (tkS (J5 s at_ from_ behind (Z0 b))), .int .i64 (tkN (J5 s at_ from_ behind (Z0 b))), .int .i64 (tkE (J5 s at_ from_ behind (Z0 b)))]) ([]))
 simp only [tkC, Bool.and_eq_true] at hc
 obtain ⟨hbig, hok, hb⟩ := hc
 have hb := Nat.le_of_ble_eq_true hb
 refine Z50 s (tkI s at_ from_ behind b) (fun at_ from_ _ _ => msT s at_ from_) _ ?_ _ at_ from_ behind b ⟨hok, hb, rfl⟩
 clear hok hb
 rintro at_ from_ behind b ⟨hok, hb, he⟩
 rw [← he]
 unfold J30
 have hB : s.length ≤ 1000000000000 := by simpa [bigS] using hbig
 have hc : (↑(UInt8.toNat (List.getD s (Int.toNat at_) 0)) : Int) = (szT s at_ : Int) := rfl
 have hc255 := U3d s at_
 have hto := V20 s at_
 simp only [Z2x (X1z s at_).1 (X1z s at_).2, hc]
 simp only [show n16 s at_ % 16384 = toT s at_ from rfl, IntWalk.i64_in ((szT s at_ : Nat) : Int) (by omega)]
 cases h1 : Q1 s at_ 1 with
 | false =>
   rw [U0x h1]
   exact Tr.all_t hbig (Tr.all_f rfl (Tr.all_ret (.inl rfl)))
 | true =>
   have hs1 := J9.1 h1
   refine Tr.all_t hbig (Tr.all_t rfl ?_)
   by_cases h192 : 192 ≤ szT s at_
   · refine Tr.all_t (X0 (by omega)) (Tr.all_f (Q0 (by omega)) (Tr.all_t (X0 (by omega)) (Tr.all_t hbig ?_)))
     by_cases h3 : Q1 s at_ 2 = true ∧ toT s at_ < from_
     · rw [X0i h1 h192 h3.1 h3.2] at he ⊢
       refine Tr.all_t h3.1 (Tr.all_t (X0 h3.2) (Tr.all_br (fun c1 => ?_) fun c1 => ?_))
       · simp only [decide_eq_true_eq] at c1
         rw [if_pos c1] at he
         exact Tr.all_ret (.inr ⟨_, _, _, _, rfl, ⟨hok, hb, he⟩, V0y hto.1 h3.2⟩)
       · simp only [decide_eq_false_iff_not] at c1
         rw [if_neg c1] at he
         exact Tr.all_ret (.inr ⟨_, _, _, _, rfl, ⟨hok, hb, he⟩, V0y hto.1 h3.2⟩)
     · rw [V0w h1 h192 h3]
       cases h2 : Q1 s at_ 2 with
       | false => exact Tr.all_f rfl (Tr.all_ret (.inl rfl))
       | true => exact Tr.all_t rfl (Tr.all_f (Q0 (fun h => h3 ⟨h2, h⟩)) (Tr.all_ret (.inl rfl)))
   · by_cases h63 : 63 < szT s at_
     · rw [Z0z h1 h192 h63]
       exact Tr.all_t (X0 (by omega)) (Tr.all_t (X0 (by omega)) (Tr.all_ret (.inl rfl)))
     · refine Tr.all_f (Q0 (by omega)) (Tr.all_f (Q0 (by omega)) (Tr.all_t hbig ?_))
       cases h4 : Q1 s (at_ + 1) (szT s at_) with
       | false =>
         rw [Z01 h1 (by omega) (by rw [h4]; simp)]
         exact Tr.all_f rfl (Tr.all_ret (.inl rfl))
       | true =>
         have hs4 := J9.1 h4
         have hvl : (U1 s (at_ + 1) (szT s at_ : Int)).length = szT s at_ := by rw [V11 h4]; omega
         have hvb : bigS (U1 s (at_ + 1) (szT s at_ : Int)) = true := by simp [bigS, hvl]; omega
         rw [hvl]
         rw [IntWalk.i64_in ((List.length b : Int) + 1) (by omega), IntWalk.i64_in _ (by omega)]
         refine Tr.all_t rfl ?_
         by_cases h5 : b.length + 1 + szT s at_ ≤ 255
         · have hnew : V5 (b ++ [((szT s at_ : Nat) : Int)] ++ J0 (Q3 (U1 s (at_ + 1) (szT s at_ : Int)))) = true := by
             refine Vv (Vv hok ?_) (Ud _)
             simp [V5]
             omega
           have hnl : (b ++ [((szT s at_ : Nat) : Int)] ++ J0 (Q3 (U1 s (at_ + 1) (szT s at_ : Int)))).length = b.length + 1 + szT s at_ := by
            simp [Z2, Vf, hvl]
            omega
           have hS2 : Z0 (b ++ [((szT s at_ : Nat) : Int)] ++ J0 (Q3 (U1 s (at_ + 1) (szT s at_ : Int)))) = Z0 b ++ s.getD at_.toNat 0 :: Q3 (U1 s (at_ + 1) (szT s at_ : Int)) := by
            rw [V0e, V0e, Vl]
            have : Z0 [((szT s at_ : Nat) : Int)] = [s.getD at_.toNat 0] := by simp [Z0, szT]
            rw [this]
            simp
           refine Tr.all_f (Q0 (by omega)) (Tr.all_t (X7 (by omega) (by omega)) (Tr.all_t hvb (Tr.all_t (X7 (by simp [Z2, Vf, hvl]; omega) (by simp [Z2, Vf, hvl]; omega)) ?_)))
           by_cases h0 : szT s at_ = 0
           · rw [Q0i h1 h0 (by rw [Xi]; omega)]
             have hv0 : U1 s (at_ + 1) (szT s at_ : Int) = [] := List.length_eq_zero_iff.1 (by rw [hvl]; exact h0)
             have hg0 : s.getD at_.toNat 0 = 0 := by
              have : (s.getD at_.toNat 0).toNat = 0 := h0
              exact UInt8.toNat_inj.1 (by simpa using this)
             have hend : (V5 (b ++ [((szT s at_ : Nat) : Int)] ++ J0 (Q3 (U1 s (at_ + 1) (szT s at_ : Int)))) && (!List.isEmpty (b ++ [((szT s at_ : Nat) : Int)] ++ J0 (Q3 (U1 s (at_ + 1) (szT s at_ : Int)))) && Nat.ble (List.length (b ++ [((szT s at_ : Nat) : Int)] ++ J0 (Q3 (U1 s (at_ + 1) (szT s at_ : Int))))) 9223372036854775807)) = true := by
              rw [hnew, Nat.ble_eq_true_of_le (by omega)]
              simp
             refine Tr.all_f (Q0 (by omega)) (Tr.all_br (fun c1 => Tr.all_t hend (Tr.all_ret (.inl ?_))) fun c1 => Tr.all_t hend (Tr.all_ret (.inl ?_)))
             · simp only [decide_eq_true_eq] at c1
               rw [if_pos c1, hS2, hv0, hg0, h0]
               simp [Q3]
               rfl
             · simp only [decide_eq_false_iff_not] at c1
               rw [if_neg c1, hS2, hv0, hg0]
               rfl
           · have hG := X0u (s := s) (at_ := at_) (from_ := from_) (behind := behind) (out := Z0 b) h1 (by omega) h0 h4 (by rw [Xi]; omega)
             rw [← hS2] at hG
             rw [hG] at he ⊢
             refine Tr.all_t (X0 (by omega)) (Tr.all_ret ?_)
             exact .inr ⟨_, _, _, _, rfl, ⟨hnew, by omega, he⟩, V2t hs1.1 hs4.2.2⟩
         · rw [Z01 h1 (by omega) (by rw [Xi]; exact fun h => h5 h.2)]
           exact Tr.all_t (X0 (by omega)) (Tr.all_ret (.inl rfl))
noncomputable def V2y : Code := (U5 c114 0)
def J2q : LoopSpec := { bid := 0, sh := [.d .str false, .d (.int .i64) false, .ptr 0 0, .d (.int .i64) false, .d (.int .i64) false], so := [.tbox 203 [.np, .row 1], .row (.int .u8)], F := fun (s, at_, from_, behind, _) (_, b, _) => .on (tkC s b) (.ret, [.str (tkS (J5 s at_ from_ behind (Z0 b))), .int .i64 (tkN (J5 s at_ from_ behind (Z0 b))), .int .i64 (tkE (J5 s at_ from_ behind (Z0 b)))], []) }
def X3y (s : List UInt8) (at_ from_ behind : Int) (b : List Int) : Tr (St ⊕ (Ex × St)) := .br (bigS s) (.br (Q1 s at_ 1) (.br (decide ((↑(UInt8.toNat (s.getD at_.toNat 0)) : Int) > 63)) (.br (decide ((↑(UInt8.toNat (s.getD at_.toNat 0)) : Int) < 192)) (.ret (.inr (.ret, stOf [4, 5, 6] [.str [], .int .i64 0, .int .i64 2] []))) (.br (decide ((↑(UInt8.toNat (s.getD at_.toNat 0)) : Int) ≥ 192)) (.br (bigS s) (.br (Q1 s at_ 2) (.br (decide (IntKind.wrap .i64 (↑(BitVec.toNat (BitVec.ofInt (IntKind.bits IntKind.i64) (IntKind.wrap .i64 (n16 s at_)) &&& ~~~BitVec.ofInt (IntKind.bits IntKind.i64) 49152)) : Int) < from_)) (.br (decide (behind < 0)) (.ret (.inl (stOf [0, 1, 7, 8, 9] [.str s, .int .i64 (IntKind.wrap .i64 (↑(BitVec.toNat (BitVec.ofInt (IntKind.bits IntKind.i64) (IntKind.wrap .i64 (n16 s at_)) &&& ~~~BitVec.ofInt (IntKind.bits IntKind.i64) 49152)) : Int)), .ptr 0 0, .int .i64 (IntKind.wrap .i64 (↑(BitVec.toNat (BitVec.ofInt (IntKind.bits IntKind.i64) (IntKind.wrap .i64 (n16 s at_)) &&& ~~~BitVec.ofInt (IntKind.bits IntKind.i64) 49152)) : Int)), .int .i64 (at_ + (2 : Ty.den (Ty.int .i64)))] [.boxT (some 203) [.np, .rowA 1], .row (.int .u8) b]))) (.ret (.inl (stOf [0, 1, 7, 8, 9] [.str s, .int .i64 (IntKind.wrap .i64 (↑(BitVec.toNat (BitVec.ofInt (IntKind.bits IntKind.i64) (IntKind.wrap .i64 (n16 s at_)) &&& ~~~BitVec.ofInt (IntKind.bits IntKind.i64) 49152)) : Int)), .ptr 0 0, .int .i64 (IntKind.wrap .i64 (↑(BitVec.toNat (BitVec.ofInt (IntKind.bits IntKind.i64) (IntKind.wrap .i64 (n16 s at_)) &&& ~~~BitVec.ofInt (IntKind.bits IntKind.i64) 49152)) : Int)), .int .i64 behind] [.boxT (some 203) [.np, .rowA 1], .row (.int .u8) b])))) (.ret (.inr (.ret, stOf [4, 5, 6] [.str [], .int .i64 0, .int .i64 2] [])))) (.ret (.inr (.ret, stOf [4, 5, 6] [.str [], .int .i64 0, .int .i64 2] [])))) .no) (.br (bigS s) (.br (Q1 s (at_ + (1 : Ty.den (Ty.int .i64))) (IntKind.wrap .i64 (↑(UInt8.toNat (s.getD at_.toNat 0)) : Int))) (.br (decide (IntKind.wrap .i64 (IntKind.wrap .i64 ((↑b.length : Int) + 1) + (↑(List.length (U1 s (at_ + (1 : Ty.den (Ty.int .i64))) (IntKind.wrap .i64 (↑(UInt8.toNat (s.getD at_.toNat 0)) : Int)))) : Int)) > 255)) (.ret (.inr (.ret, stOf [4, 5, 6] [.str [], .int .i64 0, .int .i64 2] []))) (.br (fits (List.length b + 1) 1) (.br (bigS (U1 s (at_ + (1 : Ty.den (Ty.int .i64))) (IntKind.wrap .i64 (↑(UInt8.toNat (s.getD at_.toNat 0)) : Int)))) (.br (fits (List.length (b ++ [(↑(UInt8.toNat (s.getD at_.toNat 0)) : Int)]) + List.length (J0 (Q3 (U1 s (at_ + (1 : Ty.den (Ty.int .i64))) (IntKind.wrap .i64 (↑(UInt8.toNat (s.getD at_.toNat 0)) : Int)))))) 1) (.br (decide ((↑(UInt8.toNat (s.getD at_.toNat 0)) : Int) > 0)) (.ret (.inl (stOf [0, 1, 7, 8, 9] [.str s, .int .i64 (at_ + (1 : Ty.den (Ty.int .i64)) + IntKind.wrap .i64 (↑(UInt8.toNat (s.getD at_.toNat 0)) : Int)), .ptr 0 0, .int .i64 from_, .int .i64 behind] [.boxT (some 203) [.ptr 0 0, .rowA 1], .row (.int .u8) (b ++ [(↑(UInt8.toNat (s.getD at_.toNat 0)) : Int)] ++ J0 (Q3 (U1 s (at_ + (1 : Ty.den (Ty.int .i64))) (IntKind.wrap .i64 (↑(UInt8.toNat (s.getD at_.toNat 0)) : Int)))))]))) (.br (decide (behind < 0)) (.br (V5 (b ++ [(↑(UInt8.toNat (s.getD at_.toNat 0)) : Int)] ++ J0 (Q3 (U1 s (at_ + (1 : Ty.den (Ty.int .i64))) (IntKind.wrap .i64 (↑(UInt8.toNat (s.getD at_.toNat 0)) : Int))))) && (!List.isEmpty (b ++ [(↑(UInt8.toNat (s.getD at_.toNat 0)) : Int)] ++ J0 (Q3 (U1 s (at_ + (1 : Ty.den (Ty.int .i64))) (IntKind.wrap .i64 (↑(UInt8.toNat (s.getD at_.toNat 0)) : Int))))) && Nat.ble (List.length (b ++ [(↑(UInt8.toNat (s.getD at_.toNat 0)) : Int)] ++ J0 (Q3 (U1 s (at_ + (1 : Ty.den (Ty.int .i64))) (IntKind.wrap .i64 (↑(UInt8.toNat (s.getD at_.toNat 0)) : Int)))))) 9223372036854775807)) (.ret (.inr (.ret, stOf [4, 5, 6] [.str (Z0 (b ++ [(↑(UInt8.toNat (s.getD at_.toNat 0)) : Int)] ++ J0 (Q3 (U1 s (at_ + (1 : Ty.den (Ty.int .i64))) (IntKind.wrap .i64 (↑(UInt8.toNat (s.getD at_.toNat 0)) : Int)))))), .int .i64 (at_ + (1 : Ty.den (Ty.int .i64)) + IntKind.wrap .i64 (↑(UInt8.toNat (s.getD at_.toNat 0)) : Int)), .int .i64 0] []))) .no) (.br (V5 (b ++ [(↑(UInt8.toNat (s.getD at_.toNat 0)) : Int)] ++ J0 (Q3 (U1 s (at_ + (1 : Ty.den (Ty.int .i64))) (IntKind.wrap .i64 (↑(UInt8.toNat (s.getD at_.toNat 0)) : Int))))) && (!List.isEmpty (b ++ [(↑(UInt8.toNat (s.getD at_.toNat 0)) : Int)] ++ J0 (Q3 (U1 s (at_ + (1 : Ty.den (Ty.int .i64))) (IntKind.wrap .i64 (↑(UInt8.toNat (s.getD at_.toNat 0)) : Int))))) && Nat.ble (List.length (b ++ [(↑(UInt8.toNat (s.getD at_.toNat 0)) : Int)] ++ J0 (Q3 (U1 s (at_ + (1 : Ty.den (Ty.int .i64))) (IntKind.wrap .i64 (↑(UInt8.toNat (s.getD at_.toNat 0)) : Int)))))) 9223372036854775807)) (.ret (.inr (.ret, stOf [4, 5, 6] [.str (Z0 (b ++ [(↑(UInt8.toNat (s.getD at_.toNat 0)) : Int)] ++ J0 (Q3 (U1 s (at_ + (1 : Ty.den (Ty.int .i64))) (IntKind.wrap .i64 (↑(UInt8.toNat (s.getD at_.toNat 0)) : Int)))))), .int .i64 behind, .int .i64 0] []))) .no))) .no) .no) .no)) (.ret (.inr (.ret, stOf [4, 5, 6] [.str [], .int .i64 0, .int .i64 2] [])))) .no))) (.br (decide ((↑(UInt8.toNat (s.getD at_.toNat 0)) : Int) ≥ 192)) (.br (bigS s) (.br (Q1 s at_ 2) (.br (decide (IntKind.wrap .i64 (↑(BitVec.toNat (BitVec.ofInt (IntKind.bits IntKind.i64) (IntKind.wrap .i64 (n16 s at_)) &&& ~~~BitVec.ofInt (IntKind.bits IntKind.i64) 49152)) : Int) < from_)) (.br (decide (behind < 0)) (.ret (.inl (stOf [0, 1, 7, 8, 9] [.str s, .int .i64 (IntKind.wrap .i64 (↑(BitVec.toNat (BitVec.ofInt (IntKind.bits IntKind.i64) (IntKind.wrap .i64 (n16 s at_)) &&& ~~~BitVec.ofInt (IntKind.bits IntKind.i64) 49152)) : Int)), .ptr 0 0, .int .i64 (IntKind.wrap .i64 (↑(BitVec.toNat (BitVec.ofInt (IntKind.bits IntKind.i64) (IntKind.wrap .i64 (n16 s at_)) &&& ~~~BitVec.ofInt (IntKind.bits IntKind.i64) 49152)) : Int)), .int .i64 (at_ + (2 : Ty.den (Ty.int .i64)))] [.boxT (some 203) [.np, .rowA 1], .row (.int .u8) b]))) (.ret (.inl (stOf [0, 1, 7, 8, 9] [.str s, .int .i64 (IntKind.wrap .i64 (↑(BitVec.toNat (BitVec.ofInt (IntKind.bits IntKind.i64) (IntKind.wrap .i64 (n16 s at_)) &&& ~~~BitVec.ofInt (IntKind.bits IntKind.i64) 49152)) : Int)), .ptr 0 0, .int .i64 (IntKind.wrap .i64 (↑(BitVec.toNat (BitVec.ofInt (IntKind.bits IntKind.i64) (IntKind.wrap .i64 (n16 s at_)) &&& ~~~BitVec.ofInt (IntKind.bits IntKind.i64) 49152)) : Int)), .int .i64 behind] [.boxT (some 203) [.np, .rowA 1], .row (.int .u8) b])))) (.ret (.inr (.ret, stOf [4, 5, 6] [.str [], .int .i64 0, .int .i64 2] [])))) (.ret (.inr (.ret, stOf [4, 5, 6] [.str [], .int .i64 0, .int .i64 2] [])))) .no) (.br (bigS s) (.br (Q1 s (at_ + (1 : Ty.den (Ty.int .i64))) (IntKind.wrap .i64 (↑(UInt8.toNat (s.getD at_.toNat 0)) : Int))) (.br (decide (IntKind.wrap .i64 (IntKind.wrap .i64 ((↑b.length : Int) + 1) + (↑(List.length (U1 s (at_ + (1 : Ty.den (Ty.int .i64))) (IntKind.wrap .i64 (↑(UInt8.toNat (s.getD at_.toNat 0)) : Int)))) : Int)) > 255)) (.ret (.inr (.ret, stOf [4, 5, 6] [.str [], .int .i64 0, .int .i64 2] []))) (.br (fits (List.length b + 1) 1) (.br (bigS (U1 s (at_ + (1 : Ty.den (Ty.int .i64))) (IntKind.wrap .i64 (↑(UInt8.toNat (s.getD at_.toNat 0)) : Int)))) (.br (fits (List.length (b ++ [(↑(UInt8.toNat (s.getD at_.toNat 0)) : Int)]) + List.length (J0 (Q3 (U1 s (at_ + (1 : Ty.den (Ty.int .i64))) (IntKind.wrap .i64 (↑(UInt8.toNat (s.getD at_.toNat 0)) : Int)))))) 1) (.br (decide ((↑(UInt8.toNat (s.getD at_.toNat 0)) : Int) > 0)) (.ret (.inl (stOf [0, 1, 7, 8, 9] [.str s, .int .i64 (at_ + (1 : Ty.den (Ty.int .i64)) + IntKind.wrap .i64 (↑(UInt8.toNat (s.getD at_.toNat 0)) : Int)), .ptr 0 0, .int .i64 from_, .int .i64 behind] [.boxT (some 203) [.ptr 0 0, .rowA 1], .row (.int .u8) (b ++ [(↑(UInt8.toNat (s.getD at_.toNat 0)) : Int)] ++ J0 (Q3 (U1 s (at_ + (1 : Ty.den (Ty.int .i64))) (IntKind.wrap .i64 (↑(UInt8.toNat (s.getD at_.toNat 0)) : Int)))))]))) (.br (decide (behind < 0)) (.br (V5 (b ++ [(↑(UInt8.toNat (s.getD at_.toNat 0)) : Int)] ++ J0 (Q3 (U1 s (at_ + (1 : Ty.den (Ty.int .i64))) (IntKind.wrap .i64 (↑(UInt8.toNat (s.getD at_.toNat 0)) : Int))))) && (!List.isEmpty (b ++ [(↑(UInt8.toNat (s.getD at_.toNat 0)) : Int)] ++ J0 (Q3 (U1 s (at_ + (1 : Ty.den (Ty.int .i64))) (IntKind.wrap .i64 (↑(UInt8.toNat (s.getD at_.toNat 0)) : Int))))) && Nat.ble (List.length (b ++ [(↑(UInt8.toNat (s.getD at_.toNat 0)) : Int)] ++ J0 (Q3 (U1 s (at_ + (1 : Ty.den (Ty.int .i64))) (IntKind.wrap .i64 (↑(UInt8.toNat (s.getD at_.toNat 0)) : Int)))))) 9223372036854775807)) (.ret (.inr (.ret, stOf [4, 5, 6] [.str (Z0 (b ++ [(↑(UInt8.toNat (s.getD at_.toNat 0)) : Int)] ++ J0 (Q3 (U1 s (at_ + (1 : Ty.den (Ty.int .i64))) (IntKind.wrap .i64 (↑(UInt8.toNat (s.getD at_.toNat 0)) : Int)))))), .int .i64 (at_ + (1 : Ty.den (Ty.int .i64)) + IntKind.wrap .i64 (↑(UInt8.toNat (s.getD at_.toNat 0)) : Int)), .int .i64 0] []))) .no) (.br (V5 (b ++ [(↑(UInt8.toNat (s.getD at_.toNat 0)) : Int)] ++ J0 (Q3 (U1 s (at_ + (1 : Ty.den (Ty.int .i64))) (IntKind.wrap .i64 (↑(UInt8.toNat (s.getD at_.toNat 0)) : Int))))) && (!List.isEmpty (b ++ [(↑(UInt8.toNat (s.getD at_.toNat 0)) : Int)] ++ J0 (Q3 (U1 s (at_ + (1 : Ty.den (Ty.int .i64))) (IntKind.wrap .i64 (↑(UInt8.toNat (s.getD at_.toNat 0)) : Int))))) && Nat.ble (List.length (b ++ [(↑(UInt8.toNat (s.getD at_.toNat 0)) : Int)] ++ J0 (Q3 (U1 s (at_ + (1 : Ty.den (Ty.int .i64))) (IntKind.wrap .i64 (↑(UInt8.toNat (s.getD at_.toNat 0)) : Int)))))) 9223372036854775807)) (.ret (.inr (.ret, stOf [4, 5, 6] [.str (Z0 (b ++ [(↑(UInt8.toNat (s.getD at_.toNat 0)) : Int)] ++ J0 (Q3 (U1 s (at_ + (1 : Ty.den (Ty.int .i64))) (IntKind.wrap .i64 (↑(UInt8.toNat (s.getD at_.toNat 0)) : Int)))))), .int .i64 behind, .int .i64 0] []))) .no))) .no) .no) .no)) (.ret (.inr (.ret, stOf [4, 5, 6] [.str [], .int .i64 0, .int .i64 2] [])))) .no))) (.ret (.inr (.ret, stOf [4, 5, 6] [.str [], .int .i64 0, .int .i64 2] [])))) .no
theorem V36 (lp : Lp) (s : List UInt8) (at_ from_ behind : Int) (b : List Int) : evC T0 (orcB [Z02, Qp, Qg, X0c] [Z00, Zz, V00, Vz, V01, U0c]) lp V2y 0 (stOf [0, 1, 7, 8, 9] [.str s, .int .i64 at_, .ptr 0 0, .int .i64 from_, .int .i64 behind] [.boxT (some 203) [.np, .rowA 1], .row (.int .u8) b]) (X1 [0, 1, 7, 8, 9] [4, 5, 6] 0) = (X3y s at_ from_ behind b).get := by kernel_rfl
theorem V3q : J2q.Ok T0 (orcB [Z02, Qp, Qg, X0c] [Z00, Zz, V00, Vz, V01, U0c]) h114 0 0 V2y := by
 intro q'' hq'' x'' y'' r'' h
 obtain ⟨(s : List UInt8), (at_ : Int), (from_ : Int), (behind : Int), _⟩ := x''
 obtain ⟨_, (b : List Int), _⟩ := y''
 obtain ⟨hc, rfl⟩ := Tr.get_on h
 show U3 (fun st => evC T0 (orcB [Z02, Qp, Qg, X0c] [Z00, Zz, V00, Vz, V01, U0c]) (lpN T0 (orcB [Z02, Qp, Qg, X0c] [Z00, Zz, V00, Vz, V01, U0c]) h114 0 q'') V2y 0 st (X1 [0, 1, 7, 8, 9] [4, 5, 6] 0)) (stOf [0, 1, 7, 8, 9] [.str s, .int .i64 at_, .ptr 0 0, .int .i64 from_, .int .i64 behind] [.boxT (some 203) [.np, .rowA 1], .row (.int .u8) b]) = some (.ret, stOf [4, 5, 6] ([.str (tkS (J5 s at_ from_ behind (Z0 b))), .int .i64 (tkN (J5 s at_ from_ behind (Z0 b))), .int .i64 (tkE (J5 s at_ from_ behind (Z0 b)))]) ([]))
 simp only [tkC, Bool.and_eq_true] at hc
 obtain ⟨hbig, hok, hb⟩ := hc
 have hb := Nat.le_of_ble_eq_true hb
 refine Z3d (fun a : Int × Int × Int × List Int => stOf [0, 1, 7, 8, 9] [.str s, .int .i64 a.1, .ptr 0 0, .int .i64 a.2.1, .int .i64 a.2.2.1] [.boxT (some 203) [.np, .rowA 1], .row (.int .u8) a.2.2.2]) (fun a => tkI s at_ from_ behind b a.1 a.2.1 a.2.2.1 a.2.2.2) (fun a => msT s a.1 a.2.1) _
  (fun a => X3y s a.1 a.2.1 a.2.2.1 a.2.2.2) (fun a x hx => (V36 _ s a.1 a.2.1 a.2.2.1 a.2.2.2).trans hx) ?_ (at_, from_, behind, b) ⟨hok, hb, rfl⟩
 clear hok hb
 rintro ⟨at_, from_, behind, b⟩ ⟨hok, hb, he⟩
 simp only at hok hb he ⊢
 rw [← he]
 unfold X3y
 have hB : s.length ≤ 1000000000000 := by simpa [bigS] using hbig
 have hc : (↑(UInt8.toNat (List.getD s (Int.toNat at_) 0)) : Int) = (szT s at_ : Int) := rfl
 have hc255 := U3d s at_
 have hto := V20 s at_
 simp only [Z2x (X1z s at_).1 (X1z s at_).2, hc]
 simp only [show n16 s at_ % 16384 = toT s at_ from rfl, IntWalk.i64_in ((szT s at_ : Nat) : Int) (by omega)]
 cases h1 : Q1 s at_ 1 with
 | false =>
   rw [U0x h1]
   exact Tr.all_t hbig (Tr.all_f rfl (Tr.all_ret (.inl rfl)))
 | true =>
   have hs1 := J9.1 h1
   refine Tr.all_t hbig (Tr.all_t rfl ?_)
   by_cases h192 : 192 ≤ szT s at_
   · refine Tr.all_t (X0 (by omega)) (Tr.all_f (Q0 (by omega)) (Tr.all_t (X0 (by omega)) (Tr.all_t hbig ?_)))
     by_cases h3 : Q1 s at_ 2 = true ∧ toT s at_ < from_
     · rw [X0i h1 h192 h3.1 h3.2] at he ⊢
       refine Tr.all_t h3.1 (Tr.all_t (X0 h3.2) (Tr.all_br (fun c1 => ?_) fun c1 => ?_))
       · simp only [decide_eq_true_eq] at c1
         rw [if_pos c1] at he
         exact Tr.all_ret (.inr (.inl ⟨(_, _, _, _), rfl, ⟨hok, hb, he⟩, V0y hto.1 h3.2⟩))
       · simp only [decide_eq_false_iff_not] at c1
         rw [if_neg c1] at he
         exact Tr.all_ret (.inr (.inl ⟨(_, _, _, _), rfl, ⟨hok, hb, he⟩, V0y hto.1 h3.2⟩))
     · rw [V0w h1 h192 h3]
       cases h2 : Q1 s at_ 2 with
       | false => exact Tr.all_f rfl (Tr.all_ret (.inl rfl))
       | true => exact Tr.all_t rfl (Tr.all_f (Q0 (fun h => h3 ⟨h2, h⟩)) (Tr.all_ret (.inl rfl)))
   · by_cases h63 : 63 < szT s at_
     · rw [Z0z h1 h192 h63]
       exact Tr.all_t (X0 (by omega)) (Tr.all_t (X0 (by omega)) (Tr.all_ret (.inl rfl)))
     · refine Tr.all_f (Q0 (by omega)) (Tr.all_f (Q0 (by omega)) (Tr.all_t hbig ?_))
       cases h4 : Q1 s (at_ + 1) (szT s at_) with
       | false =>
         rw [Z01 h1 (by omega) (by rw [h4]; simp)]
         exact Tr.all_f rfl (Tr.all_ret (.inl rfl))
       | true =>
         have hs4 := J9.1 h4
         have hvl : (U1 s (at_ + 1) (szT s at_ : Int)).length = szT s at_ := by rw [V11 h4]; omega
         have hvb : bigS (U1 s (at_ + 1) (szT s at_ : Int)) = true := by simp [bigS, hvl]; omega
         rw [hvl]
         rw [IntWalk.i64_in ((List.length b : Int) + 1) (by omega), IntWalk.i64_in _ (by omega)]
         refine Tr.all_t rfl ?_
         by_cases h5 : b.length + 1 + szT s at_ ≤ 255
         · have hnew : V5 (b ++ [((szT s at_ : Nat) : Int)] ++ J0 (Q3 (U1 s (at_ + 1) (szT s at_ : Int)))) = true := by
             refine Vv (Vv hok ?_) (Ud _)
             simp [V5]
             omega
           have hnl : (b ++ [((szT s at_ : Nat) : Int)] ++ J0 (Q3 (U1 s (at_ + 1) (szT s at_ : Int)))).length = b.length + 1 + szT s at_ := by
            simp [Z2, Vf, hvl]
            omega
           have hS2 : Z0 (b ++ [((szT s at_ : Nat) : Int)] ++ J0 (Q3 (U1 s (at_ + 1) (szT s at_ : Int)))) = Z0 b ++ s.getD at_.toNat 0 :: Q3 (U1 s (at_ + 1) (szT s at_ : Int)) := by
            rw [V0e, V0e, Vl]
            have : Z0 [((szT s at_ : Nat) : Int)] = [s.getD at_.toNat 0] := by simp [Z0, szT]
            rw [this]
            simp
           refine Tr.all_f (Q0 (by omega)) (Tr.all_t (X7 (by omega) (by omega)) (Tr.all_t hvb (Tr.all_t (X7 (by simp [Z2, Vf, hvl]; omega) (by simp [Z2, Vf, hvl]; omega)) ?_)))
           by_cases h0 : szT s at_ = 0
           · rw [Q0i h1 h0 (by rw [Xi]; omega)]
             have hv0 : U1 s (at_ + 1) (szT s at_ : Int) = [] := List.length_eq_zero_iff.1 (by rw [hvl]; exact h0)
             have hg0 : s.getD at_.toNat 0 = 0 := by
              have : (s.getD at_.toNat 0).toNat = 0 := h0
              exact UInt8.toNat_inj.1 (by simpa using this)
             have hend : (V5 (b ++ [((szT s at_ : Nat) : Int)] ++ J0 (Q3 (U1 s (at_ + 1) (szT s at_ : Int)))) && (!List.isEmpty (b ++ [((szT s at_ : Nat) : Int)] ++ J0 (Q3 (U1 s (at_ + 1) (szT s at_ : Int)))) && Nat.ble (List.length (b ++ [((szT s at_ : Nat) : Int)] ++ J0 (Q3 (U1 s (at_ + 1) (szT s at_ : Int))))) 9223372036854775807)) = true := by
              rw [hnew, Nat.ble_eq_true_of_le (by omega)]
              simp
             refine Tr.all_f (Q0 (by omega)) (Tr.all_br (fun c1 => Tr.all_t hend (Tr.all_ret (.inl ?_))) fun c1 => Tr.all_t hend (Tr.all_ret (.inl ?_)))
             · simp only [decide_eq_true_eq] at c1
               rw [if_pos c1, hS2, hv0, hg0, h0]
               simp [Q3]
               rfl
             · simp only [decide_eq_false_iff_not] at c1
               rw [if_neg c1, hS2, hv0, hg0]
               rfl
           · have hG := X0u (s := s) (at_ := at_) (from_ := from_) (behind := behind) (out := Z0 b) h1 (by omega) h0 h4 (by rw [Xi]; omega)
             rw [← hS2] at hG
             rw [hG] at he ⊢
             refine Tr.all_t (X0 (by omega)) (Tr.all_ret ?_)
             refine .inr (.inr ⟨_, rfl, ?_⟩)
             have := U3o q'' (Nat.zero_le _) (s, at_ + 1 + szT s at_, from_, behind, ()) ((), b ++ [((szT s at_ : Nat) : Int)] ++ J0 (Q3 (U1 s (at_ + 1) (szT s at_ : Int))), ()) (.ret, resT (J5 s (at_ + 1 + szT s at_) from_ behind (Z0 (b ++ [((szT s at_ : Nat) : Int)] ++ J0 (Q3 (U1 s (at_ + 1) (szT s at_ : Int)))))), []) (by
              show (Tr.on (tkC s _) _).get = _
              rw [show tkC s (b ++ [((szT s at_ : Nat) : Int)] ++ J0 (Q3 (U1 s (at_ + 1) (szT s at_ : Int)))) = true by simp only [tkC, hbig, hnew, Bool.true_and]; exact Nat.ble_eq_true_of_le (by omega)]
              rfl)
             exact this
         · rw [Z01 h1 (by omega) (by rw [Xi]; exact fun h => h5 h.2)]
           exact Tr.all_t (X0 (by omega)) (Tr.all_ret (.inl rfl))
def t114 (s : List UInt8) (at_ : Int) : Tr Res := .br (tkC s []) (.ret ([.str (tkS (J5 s at_ at_ (-1 : Int) (Z0 []))), .int .i64 (tkN (J5 s at_ at_ (-1 : Int) (Z0 []))), .int .i64 (tkE (J5 s at_ at_ (-1 : Int) (Z0 [])))], [])) .no
def os114 : OSpec := { f := 114, sh := [.d .str false, .d (.int .i64) false], so := [], F := fun (s, at_, _) _ => t114 s at_ }
theorem fn114 (s : List UInt8) (at_ : Int) : evC T0 (orcB [Z02, Qp, Qg, X0c] [Z00, Zz, V00, Vz, V01, U0c]) (lpOf h114 0 (lsOf [J2q])) c114 1000000 (V1 [.str s, .int .i64 at_] [] Try.f114.ntmps) (Z1 T0 false 0 Try.f114) = (t114 s at_).get := by kernel_rfl
theorem ok114 : os114.Ok Try.prog := by
 refine J4 U2 tab0 (U0 (all_cons U44 (all_cons Q1c (all_cons Q0u (all_cons Q3q all_nil)))) (all_cons Q4r (all_cons Z53 (all_cons X52 (all_cons V4w (all_cons Z4r (all_cons okStr all_nil))))))) h114 (d := 0) (n0 := 0) (S := lsOf [J2q]) Try.func114 (by kernel_rfl) (c := c114) (by kernel_rfl) rfl (J6 (xs := [(0, V2y)]) (by kernel_rfl) (all_cons (V7 V3q) all_nil)) (by omega) (by kernel_rfl) ?_
 intro x'' y'' q'' hq''
 obtain ⟨(s : List UInt8), (at_ : Int), _⟩ := x''
 exact (fn114 s at_).trans hq''
def X4i : FSpec := fsT 114 [(.str, false), ((.int .i64), false)] [(.str, false), ((.int .i64), false), ((.int .i64), false)] fun (s, at_, _) => t114 s at_
theorem X4u : X4i.Ok Try.prog := J7 fun x'' r'' hr'' => ok114 x'' () r'' hr''
def Z04 : FSpec := X4i.like fun (s, at_, _) => .on (bigS s) (tkS (J5 s at_ at_ (-1) []), tkN (J5 s at_ at_ (-1) []), tkE (J5 s at_ at_ (-1) []), ())
theorem Z18 : Z04.Ok Try.prog := by
 refine Z4 X4u _ ?_
 rintro ⟨(s : List UInt8), (at_ : Int), _⟩ y h
 obtain ⟨hb, rfl⟩ := Tr.get_on h
 refine V3 (vs := resT (J5 s at_ at_ (-1) [])) rfl rfl (Tr.get_of_all ?_)
 show (t114 s at_).all _
 exact Tr.all_t (by simp only [tkC, hb]; rfl) (Tr.all_ret rfl)
def t138 : Tr Res := .ret ([.mp 0], [.mpo (Ty.int .u16) (Ty.list (.int .i64)) [(1, [4]), (28, [16]), (2, [(-1 : Int)]), (5, [(-1 : Int)]), (12, [(-1 : Int)]), (15, [2, (-1 : Int)]), (6, [(-1 : Int), (-1 : Int), 20]), (16, [(-2 : Int)])]])
def Z4q : OSpec := { f := 138, sh := [], so := [], F := fun _ _ => t138 }
theorem fn138 : evC T0 (orcB [] []) (lpOf (hOwn h138) 0 (lsOf [])) c138 1000000 (V1 [] [] Try.f138.ntmps) (Z1 T0 true 0 Try.f138) = (t138).get := by kernel_rfl
theorem ok138 : Z4q.Ok Try.prog := by
 refine J4 U2 tab0 (U0 all_nil all_nil) (hOwn h138) (d := 0) (n0 := 0) (S := lsOf []) Try.func138 (by kernel_rfl) (c := c138) (by kernel_rfl) rfl (Z3 (by kernel_rfl)) (by omega) (by kernel_rfl) ?_
 intro x'' y'' q'' hq''
 exact (fn138).trans hq''
def t117 (k : Int) : Tr Res := .br (!hasM (Ty.int .u16) (Ty.list (.int .i64)) k [(1, [4]), (28, [16]), (2, [(-1 : Int)]), (5, [(-1 : Int)]), (12, [(-1 : Int)]), (15, [2, (-1 : Int)]), (6, [(-1 : Int), (-1 : Int), 20]), (16, [(-2 : Int)])]) (.ret ([.list (.int .i64) [(-3 : Int)]], [])) (.ret ([.list (.int .i64) (getM (Ty.int .u16) (Ty.list (.int .i64)) k [(1, [4]), (28, [16]), (2, [(-1 : Int)]), (5, [(-1 : Int)]), (12, [(-1 : Int)]), (15, [2, (-1 : Int)]), (6, [(-1 : Int), (-1 : Int), 20]), (16, [(-2 : Int)])])], []))
def os117 : OSpec := { f := 117, sh := [.d (.int .u16) false], so := [], F := fun (k, _) _ => t117 k }
theorem fn117 (k : Int) : evC T0 (orcB [] [Z4q]) (lpOf h117 0 (lsOf [])) c117 1000000 (V1 [.int .u16 k] [] Try.f117.ntmps) (Z1 T0 false 0 Try.f117) = (t117 k).get := by kernel_rfl
theorem ok117 : os117.Ok Try.prog := by
 refine J4 U2 tab0 (U0 all_nil (all_cons ok138 all_nil)) h117 (d := 0) (n0 := 0) (S := lsOf []) Try.func117 (by kernel_rfl) (c := c117) (by kernel_rfl) rfl (Z3 (by kernel_rfl)) (by omega) (by kernel_rfl) ?_
 intro x'' y'' q'' hq''
 obtain ⟨(k : Int), _⟩ := x''
 exact (fn117 k).trans hq''
def X4n : FSpec := fsT 117 [((.int .u16), false)] [((.list (.int .i64)), false)] fun (k, _) => t117 k
theorem U4u : X4n.Ok Try.prog := J7 fun x'' r'' hr'' => ok117 x'' () r'' hr''
noncomputable def b119 : Code := U5 c119 0
def J41 : LoopSpec := { bid := 0, sh := [.d .str false, .d (.int .i64) false], so := [], F := fun (s, at_, _) _ => .on (bigS s && decide (at_ = 0)) (.exit 0, [.str s, .int .i64 (whAt s 0)], []) }
def r119 (s : List UInt8) (at_ : Int) : Tr (St ⊕ (Ex × St)) := .br (decide (at_ < (↑s.length : Int))) (.br (decide (0 ≤ at_)) (.br (decide (at_ < (↑s.length : Int))) (.br (decide ((↑(UInt8.toNat (s.getD at_.toNat 0)) : Int) > 0)) (.br (decide (0 ≤ at_)) (.br (decide (at_ < (↑s.length : Int))) (.ret (.inl (stOf [0, 3] [.str s, .int .i64 (IntKind.wrap .i64 (at_ + IntKind.wrap .i64 (1 + IntKind.wrap .i64 (↑(UInt8.toNat (s.getD at_.toNat 0)) : Int))))] []))) .no) .no) (.ret (.inr (.exit 0, stOf [0, 3] [.str s, .int .i64 at_] [])))) .no) .no) (.ret (.inr (.exit 0, stOf [0, 3] [.str s, .int .i64 at_] [])))
theorem J3n (orc : Orc) (lp : Lp) (s : List UInt8) (at_ : Int) : evC T0 orc lp b119 0 (stOf [0, 3] [.str s, .int .i64 at_] []) (X1 [0, 3] [0, 3] 0) = (r119 s at_).get := by kernel_rfl
theorem wf119 (orc : Orc) (s : List UInt8) (I'' : Int → Prop) (m'' : Int → Nat) (r'' : Ex × St) (h : ∀ (at_ : Int), I'' at_ → (r119 s at_).all fun x'' => x'' = .inr r'' ∨ ∃ (at_' : Int), x'' = .inl (stOf [0, 3] [.str s, .int .i64 at_'] []) ∧ I'' at_' ∧ m'' at_' < m'' at_) (lp : Lp) (at_ : Int) : I'' at_ →
    U3 (fun st => evC T0 orc lp b119 0 st (X1 [0, 3] [0, 3] 0)) (stOf [0, 3] [.str s, .int .i64 at_] []) = some r'' :=
 U6 (fun a'' : Int => stOf [0, 3] [.str s, .int .i64 a''] []) (fun a'' => I'' a'') (fun a'' => m'' a'') r'' (fun a'' => r119 s a'')
  (fun a'' x hx => (J3n orc lp s a'').trans hx) (fun a'' ha => Tr.all_mono (fun x'' hx => hx.imp id fun ⟨at_', h1, h2, h3⟩ => ⟨(at_'), h1, h2, h3⟩) (h (a'') ha)) (at_)
theorem J4h (orc : Orc) : J41.Ok T0 orc h119 0 0 b119 := by
 intro q'' hq'' x'' y'' r'' h
 obtain ⟨(s : List UInt8), (at_ : Int), _⟩ := x''
 obtain ⟨hc, rfl⟩ := Tr.get_on h
 show U3 (fun st => evC T0 orc (lpN T0 orc h119 0 q'') b119 0 st (X1 [0, 3] [0, 3] 0)) (stOf [0, 3] [.str s, .int .i64 at_] []) = some (.exit 0, stOf [0, 3] ([.str s, .int .i64 (whAt s 0)]) ([]))
 simp only [Bool.and_eq_true, decide_eq_true_eq] at hc
 obtain ⟨hb, rfl⟩ := hc
 refine wf119 _ s (fun a => 0 ≤ a ∧ whAt s a.toNat = whAt s 0) (fun a => (s.length - a).toNat) _ ?_ _ 0 ⟨by omega, rfl⟩
 rintro a ⟨h1, h2⟩
 have hB : s.length ≤ 1000000000000 := by simpa [bigS] using hb
 have hto : ((a.toNat : Nat) : Int) = a := Int.toNat_of_nonneg h1
 unfold r119
 rw [← h2, whAt.eq_1 s a.toNat]
 by_cases hk : a.toNat < s.length
 · have hb0 : (↑(UInt8.toNat (List.getD s (Int.toNat a) 0)) : Int) = (byN s a.toNat : Int) := rfl
   have hbl : byN s a.toNat < 256 := (s.getD a.toNat 0).toNat_lt
   rw [hb0]
   simp (disch := omega) only [IntWalk.i64_in]
   refine Tr.all_t (X0 (by omega)) (Tr.all_t (X0 h1) (Tr.all_t (X0 (by omega)) (Tr.all_br (fun c1 => Tr.all_t (X0 h1) (Tr.all_t (X0 (by omega)) (Tr.all_ret (.inr ⟨_, rfl, ⟨by omega, ?_⟩, by omega⟩)))) fun c1 => Tr.all_ret (.inl ?_))))
   · simp only [decide_eq_true_eq] at c1
     rw [dif_pos ⟨hk, by omega⟩]
     congr 1
     omega
   · simp only [decide_eq_false_iff_not] at c1
     rw [dif_neg (by omega), hto]
 · rw [dif_neg (by omega), hto]
   exact Tr.all_f (Q0 (by omega)) (Tr.all_ret (.inl rfl))
noncomputable def b120 : Code := U5 c120 0
def X3m : LoopSpec := { bid := 0, sh := [.d .str false, .d (.int .i64) false], so := [], F := fun (s, at_, _) _ => .on (bigS s && decide (at_ = 0)) (.exit 0, [.str s, .int .i64 (txAt s 0)], []) }
def r120 (s : List UInt8) (at_ : Int) : Tr (St ⊕ (Ex × St)) := .br (decide (at_ < (↑s.length : Int))) (.br (decide (0 ≤ at_)) (.br (decide (at_ < (↑s.length : Int))) (.ret (.inl (stOf [0, 3] [.str s, .int .i64 (IntKind.wrap .i64 (at_ + IntKind.wrap .i64 (1 + IntKind.wrap .i64 (↑(UInt8.toNat (s.getD at_.toNat 0)) : Int))))] []))) .no) .no) (.ret (.inr (.exit 0, stOf [0, 3] [.str s, .int .i64 at_] [])))
theorem V3s (orc : Orc) (lp : Lp) (s : List UInt8) (at_ : Int) : evC T0 orc lp b120 0 (stOf [0, 3] [.str s, .int .i64 at_] []) (X1 [0, 3] [0, 3] 0) = (r120 s at_).get := by kernel_rfl
theorem wf120 (orc : Orc) (s : List UInt8) (I'' : Int → Prop) (m'' : Int → Nat) (r'' : Ex × St) (h : ∀ (at_ : Int), I'' at_ → (r120 s at_).all fun x'' => x'' = .inr r'' ∨ ∃ (at_' : Int), x'' = .inl (stOf [0, 3] [.str s, .int .i64 at_'] []) ∧ I'' at_' ∧ m'' at_' < m'' at_) (lp : Lp) (at_ : Int) : I'' at_ →
    U3 (fun st => evC T0 orc lp b120 0 st (X1 [0, 3] [0, 3] 0)) (stOf [0, 3] [.str s, .int .i64 at_] []) = some r'' :=
 U6 (fun a'' : Int => stOf [0, 3] [.str s, .int .i64 a''] []) (fun a'' => I'' a'') (fun a'' => m'' a'') r'' (fun a'' => r120 s a'')
  (fun a'' x hx => (V3s orc lp s a'').trans hx) (fun a'' ha => Tr.all_mono (fun x'' hx => hx.imp id fun ⟨at_', h1, h2, h3⟩ => ⟨(at_'), h1, h2, h3⟩) (h (a'') ha)) (at_)
theorem Z47 (orc : Orc) : X3m.Ok T0 orc h120 0 0 b120 := by
 intro q'' hq'' x'' y'' r'' h
 obtain ⟨(s : List UInt8), (at_ : Int), _⟩ := x''
 obtain ⟨hc, rfl⟩ := Tr.get_on h
 show U3 (fun st => evC T0 orc (lpN T0 orc h120 0 q'') b120 0 st (X1 [0, 3] [0, 3] 0)) (stOf [0, 3] [.str s, .int .i64 at_] []) = some (.exit 0, stOf [0, 3] ([.str s, .int .i64 (txAt s 0)]) ([]))
 simp only [Bool.and_eq_true, decide_eq_true_eq] at hc
 obtain ⟨hb, rfl⟩ := hc
 refine wf120 _ s (fun a => 0 ≤ a ∧ txAt s a.toNat = txAt s 0) (fun a => (s.length - a).toNat) _ ?_ _ 0 ⟨by omega, rfl⟩
 rintro a ⟨h1, h2⟩
 have hB : s.length ≤ 1000000000000 := by simpa [bigS] using hb
 have hto : ((a.toNat : Nat) : Int) = a := Int.toNat_of_nonneg h1
 unfold r120
 rw [← h2, txAt.eq_1 s a.toNat]
 by_cases hk : a.toNat < s.length
 · have hb0 : (↑(UInt8.toNat (List.getD s (Int.toNat a) 0)) : Int) = (byN s a.toNat : Int) := rfl
   have hbl : byN s a.toNat < 256 := (s.getD a.toNat 0).toNat_lt
   rw [hb0]
   simp (disch := omega) only [IntWalk.i64_in]
   refine Tr.all_t (X0 (by omega)) (Tr.all_t (X0 h1) (Tr.all_t (X0 (by omega)) (Tr.all_ret (.inr ⟨_, rfl, ⟨by omega, ?_⟩, by omega⟩))))
   rw [dif_pos hk]
   congr 1
   omega
 · rw [dif_neg hk, hto]
   exact Tr.all_f (Q0 (by omega)) (Tr.all_ret (.inl rfl))
def t119 (s : List UInt8) : Tr Res := .br (bigS s && decide (0 = (0 : Ty.den (Ty.int .i64)))) (.br (decide ((↑(whAt s 0) : Int) ≥ (↑s.length : Int))) (.ret ([.int .i64 0], [])) (.br (decide (0 ≤ IntKind.wrap .i64 ((↑(whAt s 0) : Int) + 1)) && decide (IntKind.wrap .i64 ((↑(whAt s 0) : Int) + 1) ≤ (↑s.length : Int))) (.br (decide (0 ≤ 0) && decide (0 ≤ IntKind.wrap .i64 ((↑(whAt s 0) : Int) + 1))) (.br (bigS (List.take (Int.toNat (IntKind.wrap .i64 ((↑(whAt s 0) : Int) + 1)) - Int.toNat 0) (List.drop (Int.toNat 0) s))) (.br (!mayV (List.take (Int.toNat (IntKind.wrap .i64 ((↑(whAt s 0) : Int) + 1)) - Int.toNat 0) (List.drop (Int.toNat 0) s))) (.ret ([.int .i64 0], [])) (.ret ([.int .i64 (IntKind.wrap .i64 ((↑(whAt s 0) : Int) + 1))], []))) .no) .no) .no)) .no
def os119 : OSpec := { f := 119, sh := [.d .str false], so := [], F := fun (s, _) _ => t119 s }
theorem fn119 (s : List UInt8) : evC T0 (orcB [Z0l] []) (lpOf h119 0 (lsOf [J41])) c119 1000000 (V1 [.str s] [] Try.f119.ntmps) (Z1 T0 false 0 Try.f119) = (t119 s).get := by kernel_rfl
theorem ok119 : os119.Ok Try.prog := by
 refine J4 U2 tab0 (U0 (all_cons Q1x all_nil) all_nil) h119 (d := 0) (n0 := 0) (S := lsOf [J41]) Try.func119 (by kernel_rfl) (c := c119) (by kernel_rfl) rfl (J6 (xs := [(0, b119)]) (by kernel_rfl) (all_cons (V7 (J4h _)) all_nil)) (by omega) (by kernel_rfl) ?_
 intro x'' y'' q'' hq''
 obtain ⟨(s : List UInt8), _⟩ := x''
 exact (fn119 s).trans hq''
def Q4i : FSpec := fsT 119 [(.str, false)] [((.int .i64), false)] fun (s, _) => t119 s
theorem Q51 : Q4i.Ok Try.prog := J7 fun x'' r'' hr'' => ok119 x'' () r'' hr''
def Z0n : FSpec := Q4i.like fun (s, _) => .on (bigS s) ((Ja s : Int), ())
theorem J45 : Z0n.Ok Try.prog := by
 refine Z4 Q51 _ ?_
 rintro ⟨(s : List UInt8), _⟩ y h
 obtain ⟨hb, rfl⟩ := Tr.get_on h
 refine V3 (vs := [.int .i64 (Ja s)]) rfl rfl (Tr.get_of_all ?_)
 show (t119 s).all _
 unfold t119 Ja
 have hB : s.length ≤ 1000000000000 := by simpa [bigS] using hb
 refine Tr.all_t (by rw [hb]; rfl) ?_
 by_cases hk : whAt s 0 < s.length
 · have hw : IntKind.wrap .i64 ((whAt s 0 : Int) + 1) = (whAt s 0 : Int) + 1 := IntWalk.i64_in _ (by omega)
   have hs : List.take (Int.toNat ((whAt s 0 : Int) + 1) - Int.toNat 0) (List.drop (Int.toNat 0) s) = s.take (whAt s 0 + 1) := by
    rw [show Int.toNat ((whAt s 0 : Int) + 1) - Int.toNat 0 = whAt s 0 + 1 by omega]; rfl
   rw [hw, hs]
   refine Tr.all_f (Q0 (by omega)) (Tr.all_t (by rw [X0 (by omega), X0 (by omega)]; rfl) (Tr.all_t (by rw [X0 (by omega), X0 (by omega)]; rfl) (Tr.all_t (by simp [bigS]; omega) (Tr.all_br (fun c1 => Tr.all_ret ?_) fun c1 => Tr.all_ret ?_))))
   · rw [Bool.not_eq_true'] at c1
     rw [if_neg (by rw [c1]; simp)]
     rfl
   · rw [Bool.not_eq_false'] at c1
     rw [if_pos ⟨hk, c1⟩]
     rfl
 · rw [if_neg (fun h => hk h.1)]
   exact Tr.all_t (X0 (by omega)) (Tr.all_ret rfl)
def t120 (s : List UInt8) : Tr Res := .br (bigS s && decide (0 = (0 : Ty.den (Ty.int .i64)))) (.br (!s == []) (.ret ([.bool ((↑(txAt s 0) : Int) == (↑s.length : Int))], [])) (.ret ([.bool false], []))) .no
def os120 : OSpec := { f := 120, sh := [.d .str false], so := [], F := fun (s, _) _ => t120 s }
theorem fn120 (s : List UInt8) : evC T0 (orcB [] []) (lpOf h120 0 (lsOf [X3m])) c120 1000000 (V1 [.str s] [] Try.f120.ntmps) (Z1 T0 false 0 Try.f120) = (t120 s).get := by kernel_rfl
theorem ok120 : os120.Ok Try.prog := by
 refine J4 U2 tab0 (U0 all_nil all_nil) h120 (d := 0) (n0 := 0) (S := lsOf [X3m]) Try.func120 (by kernel_rfl) (c := c120) (by kernel_rfl) rfl (J6 (xs := [(0, b120)]) (by kernel_rfl) (all_cons (V7 (Z47 _)) all_nil)) (by omega) (by kernel_rfl) ?_
 intro x'' y'' q'' hq''
 obtain ⟨(s : List UInt8), _⟩ := x''
 exact (fn120 s).trans hq''
def V4q : FSpec := fsT 120 [(.str, false)] [(.bool, false)] fun (s, _) => t120 s
theorem U4r : V4q.Ok Try.prog := J7 fun x'' r'' hr'' => ok120 x'' () r'' hr''
def J0p : FSpec := V4q.like fun (s, _) => .on (bigS s) (X0n s, ())
theorem Q46 : J0p.Ok Try.prog := by
 refine Z4 U4r _ ?_
 rintro ⟨(s : List UInt8), _⟩ y h
 obtain ⟨hb, rfl⟩ := Tr.get_on h
 refine V3 (vs := [.bool (X0n s)]) rfl rfl (Tr.get_of_all ?_)
 show (t120 s).all _
 unfold t120 X0n
 refine Tr.all_t (by rw [hb]; rfl) (Tr.all_br (fun c1 => Tr.all_ret ?_) fun c1 => Tr.all_ret ?_)
 · have : s.isEmpty = false := by cases s with | nil => cases c1 | cons _ _ => rfl
   rw [this]
   congr 3
   rw [Bool.eq_iff_iff]
   simp
   omega
 · have : s.isEmpty = true := by cases s with | nil => rfl | cons _ _ => cases c1
   rw [this]
   rfl
def Jh : FSpec := X4n.like fun (k, _) => .ret (layV k, ())
theorem U19 : Jh.Ok Try.prog := by
 refine Z4 U4u _ ?_
 rintro ⟨(k : Int), _⟩ y h
 cases h
 refine V3 (vs := [.list (.int .i64) (layV k)]) rfl rfl (Tr.get_of_all ?_)
 show (t117 k).all _
 by_cases h1 : k = 1
 · subst h1; exact Tr.all_f rfl (Tr.all_ret rfl)
 by_cases h2 : k = 28
 · subst h2; exact Tr.all_f rfl (Tr.all_ret rfl)
 by_cases h3 : k = 2
 · subst h3; exact Tr.all_f rfl (Tr.all_ret rfl)
 by_cases h4 : k = 5
 · subst h4; exact Tr.all_f rfl (Tr.all_ret rfl)
 by_cases h5 : k = 12
 · subst h5; exact Tr.all_f rfl (Tr.all_ret rfl)
 by_cases h6 : k = 15
 · subst h6; exact Tr.all_f rfl (Tr.all_ret rfl)
 by_cases h7 : k = 6
 · subst h7; exact Tr.all_f rfl (Tr.all_ret rfl)
 by_cases h8 : k = 16
 · subst h8; exact Tr.all_f rfl (Tr.all_ret rfl)
 refine Tr.all_t ?_ (Tr.all_ret ?_)
 · simp [hasM, Ux, Ty.keq, h1, h2, h3, h4, h5, h6, h7, h8]
 · simp [layV, h1, h2, h3, h4, h5, h6, h7, h8]
noncomputable def b92 : Code := U5 c92 0
def ls92 : LoopSpec := { bid := 0, sh := [.d .str false, .row 0, .d (.list (.int .i64)) false, .d (.int .i64) false, .d (.int .i64) false], so := [.row .str], F := fun (d, ps, n, i, _) (l, _) => .on2 (cutC d ps n i l) ((cutS ps d l).1) (.exit 0, [.str (cutS ps d l).2.1, .dead, .dead, .rowA 0], [.row .str (cutS ps d l).2.2]) (.ret, [.str (cutS ps d l).2.1, .rowA 0, .bool false, .rowA 1], [.row .str [], .row .str (cutS ps d l).2.2]) }
def r92 (d : List UInt8) (ps : List Int) (n i : Int) (l : List (List UInt8)) : Tr (St ⊕ (Ex × St)) := .br (decide (i < n)) (.br (decide (0 ≤ i)) (.br (decide (i < (↑ps.length : Int))) (.br (ps.getD i.toNat (Ty.dflt (Ty.int .i64)) == (-1 : Int)) (.br (bigS d) (.br (decide ((↑(Ja d) : Int) > (↑d.length : Int))) (.ret (.inr (.ret, stOf [1, 4, 5, 6] [.str d, .rowA 0, .bool false, .rowA 1] [.row Ty.str [], .row Ty.str l]))) (.br (ps.getD i.toNat (Ty.dflt (Ty.int .i64)) == (-1 : Int)) (.br ((↑(Ja d) : Int) == 0) (.ret (.inr (.ret, stOf [1, 4, 5, 6] [.str d, .rowA 0, .bool false, .rowA 1] [.row Ty.str [], .row Ty.str l]))) (.br (decide (0 ≤ (↑(Ja d) : Int)) && decide ((↑(Ja d) : Int) ≤ (↑d.length : Int))) (.br (fits (List.length l + 1) 16) (.br (decide (0 ≤ (↑d.length : Int)) && decide ((↑d.length : Int) ≤ (↑d.length : Int))) (.br (decide (0 ≤ (↑(Ja d) : Int)) && decide ((↑(Ja d) : Int) ≤ (↑d.length : Int))) (.ret (.inl (stOf [1, 6, 11, 12, 13] [.str (List.take (Int.toNat (↑d.length : Int) - Int.toNat (↑(Ja d) : Int)) (List.drop (Int.toNat (↑(Ja d) : Int)) d)), .rowA 0, .list (.int .i64) ps, .int .i64 n, .int .i64 (IntKind.wrap .i64 (i + 1))] [.row Ty.str (l ++ [List.take (Int.toNat (↑(Ja d) : Int) - Int.toNat 0) (List.drop (Int.toNat 0) d)])]))) .no) .no) .no) .no)) (.br (decide (0 ≤ (↑(Ja d) : Int)) && decide ((↑(Ja d) : Int) ≤ (↑d.length : Int))) (.br (fits (List.length l + 1) 16) (.br (decide (0 ≤ (↑d.length : Int)) && decide ((↑d.length : Int) ≤ (↑d.length : Int))) (.br (decide (0 ≤ (↑(Ja d) : Int)) && decide ((↑(Ja d) : Int) ≤ (↑d.length : Int))) (.ret (.inl (stOf [1, 6, 11, 12, 13] [.str (List.take (Int.toNat (↑d.length : Int) - Int.toNat (↑(Ja d) : Int)) (List.drop (Int.toNat (↑(Ja d) : Int)) d)), .rowA 0, .list (.int .i64) ps, .int .i64 n, .int .i64 (IntKind.wrap .i64 (i + 1))] [.row Ty.str (l ++ [List.take (Int.toNat (↑(Ja d) : Int) - Int.toNat 0) (List.drop (Int.toNat 0) d)])]))) .no) .no) .no) .no))) .no) (.br (ps.getD i.toNat (Ty.dflt (Ty.int .i64)) == (-2 : Int)) (.br (bigS d) (.br (X0n d) (.br (decide ((↑d.length : Int) > (↑d.length : Int))) (.ret (.inr (.ret, stOf [1, 4, 5, 6] [.str d, .rowA 0, .bool false, .rowA 1] [.row Ty.str [], .row Ty.str l]))) (.br (ps.getD i.toNat (Ty.dflt (Ty.int .i64)) == (-1 : Int)) (.br ((↑d.length : Int) == 0) (.ret (.inr (.ret, stOf [1, 4, 5, 6] [.str d, .rowA 0, .bool false, .rowA 1] [.row Ty.str [], .row Ty.str l]))) (.br (decide (0 ≤ (↑d.length : Int)) && decide ((↑d.length : Int) ≤ (↑d.length : Int))) (.br (fits (List.length l + 1) 16) (.br (decide (0 ≤ (↑d.length : Int)) && decide ((↑d.length : Int) ≤ (↑d.length : Int))) (.br (decide (0 ≤ (↑d.length : Int)) && decide ((↑d.length : Int) ≤ (↑d.length : Int))) (.ret (.inl (stOf [1, 6, 11, 12, 13] [.str (List.take (Int.toNat (↑d.length : Int) - Int.toNat (↑d.length : Int)) (List.drop (Int.toNat (↑d.length : Int)) d)), .rowA 0, .list (.int .i64) ps, .int .i64 n, .int .i64 (IntKind.wrap .i64 (i + 1))] [.row Ty.str (l ++ [List.take (Int.toNat (↑d.length : Int) - Int.toNat 0) (List.drop (Int.toNat 0) d)])]))) .no) .no) .no) .no)) (.br (decide (0 ≤ (↑d.length : Int)) && decide ((↑d.length : Int) ≤ (↑d.length : Int))) (.br (fits (List.length l + 1) 16) (.br (decide (0 ≤ (↑d.length : Int)) && decide ((↑d.length : Int) ≤ (↑d.length : Int))) (.br (decide (0 ≤ (↑d.length : Int)) && decide ((↑d.length : Int) ≤ (↑d.length : Int))) (.ret (.inl (stOf [1, 6, 11, 12, 13] [.str (List.take (Int.toNat (↑d.length : Int) - Int.toNat (↑d.length : Int)) (List.drop (Int.toNat (↑d.length : Int)) d)), .rowA 0, .list (.int .i64) ps, .int .i64 n, .int .i64 (IntKind.wrap .i64 (i + 1))] [.row Ty.str (l ++ [List.take (Int.toNat (↑d.length : Int) - Int.toNat 0) (List.drop (Int.toNat 0) d)])]))) .no) .no) .no) .no))) (.br (ps.getD i.toNat (Ty.dflt (Ty.int .i64)) == (-3 : Int)) (.br (decide ((↑d.length : Int) > (↑d.length : Int))) (.ret (.inr (.ret, stOf [1, 4, 5, 6] [.str d, .rowA 0, .bool false, .rowA 1] [.row Ty.str [], .row Ty.str l]))) (.br (ps.getD i.toNat (Ty.dflt (Ty.int .i64)) == (-1 : Int)) (.br ((↑d.length : Int) == 0) (.ret (.inr (.ret, stOf [1, 4, 5, 6] [.str d, .rowA 0, .bool false, .rowA 1] [.row Ty.str [], .row Ty.str l]))) (.br (decide (0 ≤ (↑d.length : Int)) && decide ((↑d.length : Int) ≤ (↑d.length : Int))) (.br (fits (List.length l + 1) 16) (.br (decide (0 ≤ (↑d.length : Int)) && decide ((↑d.length : Int) ≤ (↑d.length : Int))) (.br (decide (0 ≤ (↑d.length : Int)) && decide ((↑d.length : Int) ≤ (↑d.length : Int))) (.ret (.inl (stOf [1, 6, 11, 12, 13] [.str (List.take (Int.toNat (↑d.length : Int) - Int.toNat (↑d.length : Int)) (List.drop (Int.toNat (↑d.length : Int)) d)), .rowA 0, .list (.int .i64) ps, .int .i64 n, .int .i64 (IntKind.wrap .i64 (i + 1))] [.row Ty.str (l ++ [List.take (Int.toNat (↑d.length : Int) - Int.toNat 0) (List.drop (Int.toNat 0) d)])]))) .no) .no) .no) .no)) (.br (decide (0 ≤ (↑d.length : Int)) && decide ((↑d.length : Int) ≤ (↑d.length : Int))) (.br (fits (List.length l + 1) 16) (.br (decide (0 ≤ (↑d.length : Int)) && decide ((↑d.length : Int) ≤ (↑d.length : Int))) (.br (decide (0 ≤ (↑d.length : Int)) && decide ((↑d.length : Int) ≤ (↑d.length : Int))) (.ret (.inl (stOf [1, 6, 11, 12, 13] [.str (List.take (Int.toNat (↑d.length : Int) - Int.toNat (↑d.length : Int)) (List.drop (Int.toNat (↑d.length : Int)) d)), .rowA 0, .list (.int .i64) ps, .int .i64 n, .int .i64 (IntKind.wrap .i64 (i + 1))] [.row Ty.str (l ++ [List.take (Int.toNat (↑d.length : Int) - Int.toNat 0) (List.drop (Int.toNat 0) d)])]))) .no) .no) .no) .no))) (.br (decide (ps.getD i.toNat (Ty.dflt (Ty.int .i64)) < 0)) (.ret (.inr (.ret, stOf [1, 4, 5, 6] [.str d, .rowA 0, .bool false, .rowA 1] [.row Ty.str [], .row Ty.str l]))) (.br (decide (ps.getD i.toNat (Ty.dflt (Ty.int .i64)) > (↑d.length : Int))) (.ret (.inr (.ret, stOf [1, 4, 5, 6] [.str d, .rowA 0, .bool false, .rowA 1] [.row Ty.str [], .row Ty.str l]))) (.br (ps.getD i.toNat (Ty.dflt (Ty.int .i64)) == (-1 : Int)) (.br (ps.getD i.toNat (Ty.dflt (Ty.int .i64)) == 0) (.ret (.inr (.ret, stOf [1, 4, 5, 6] [.str d, .rowA 0, .bool false, .rowA 1] [.row Ty.str [], .row Ty.str l]))) (.br (decide (0 ≤ List.getD ps i.toNat (Ty.dflt (Ty.int .i64))) && decide (ps.getD i.toNat (Ty.dflt (Ty.int .i64)) ≤ (↑d.length : Int))) (.br (decide (0 ≤ 0) && decide (0 ≤ List.getD ps i.toNat (Ty.dflt (Ty.int .i64)))) (.br (fits (List.length l + 1) 16) (.br (decide (0 ≤ (↑d.length : Int)) && decide ((↑d.length : Int) ≤ (↑d.length : Int))) (.br (decide (0 ≤ List.getD ps i.toNat (Ty.dflt (Ty.int .i64))) && decide (ps.getD i.toNat (Ty.dflt (Ty.int .i64)) ≤ (↑d.length : Int))) (.ret (.inl (stOf [1, 6, 11, 12, 13] [.str (List.take (Int.toNat (↑d.length : Int) - Int.toNat (ps.getD i.toNat (Ty.dflt (Ty.int .i64)))) (List.drop (Int.toNat (ps.getD i.toNat (Ty.dflt (Ty.int .i64)))) d)), .rowA 0, .list (.int .i64) ps, .int .i64 n, .int .i64 (IntKind.wrap .i64 (i + 1))] [.row Ty.str (l ++ [List.take (Int.toNat (ps.getD i.toNat (Ty.dflt (Ty.int .i64))) - Int.toNat 0) (List.drop (Int.toNat 0) d)])]))) .no) .no) .no) .no) .no)) (.br (decide (0 ≤ List.getD ps i.toNat (Ty.dflt (Ty.int .i64))) && decide (ps.getD i.toNat (Ty.dflt (Ty.int .i64)) ≤ (↑d.length : Int))) (.br (decide (0 ≤ 0) && decide (0 ≤ List.getD ps i.toNat (Ty.dflt (Ty.int .i64)))) (.br (fits (List.length l + 1) 16) (.br (decide (0 ≤ (↑d.length : Int)) && decide ((↑d.length : Int) ≤ (↑d.length : Int))) (.br (decide (0 ≤ List.getD ps i.toNat (Ty.dflt (Ty.int .i64))) && decide (ps.getD i.toNat (Ty.dflt (Ty.int .i64)) ≤ (↑d.length : Int))) (.ret (.inl (stOf [1, 6, 11, 12, 13] [.str (List.take (Int.toNat (↑d.length : Int) - Int.toNat (ps.getD i.toNat (Ty.dflt (Ty.int .i64)))) (List.drop (Int.toNat (ps.getD i.toNat (Ty.dflt (Ty.int .i64)))) d)), .rowA 0, .list (.int .i64) ps, .int .i64 n, .int .i64 (IntKind.wrap .i64 (i + 1))] [.row Ty.str (l ++ [List.take (Int.toNat (ps.getD i.toNat (Ty.dflt (Ty.int .i64))) - Int.toNat 0) (List.drop (Int.toNat 0) d)])]))) .no) .no) .no) .no) .no)))))) .no) (.br (ps.getD i.toNat (Ty.dflt (Ty.int .i64)) == (-3 : Int)) (.br (decide ((↑d.length : Int) > (↑d.length : Int))) (.ret (.inr (.ret, stOf [1, 4, 5, 6] [.str d, .rowA 0, .bool false, .rowA 1] [.row Ty.str [], .row Ty.str l]))) (.br (ps.getD i.toNat (Ty.dflt (Ty.int .i64)) == (-1 : Int)) (.br ((↑d.length : Int) == 0) (.ret (.inr (.ret, stOf [1, 4, 5, 6] [.str d, .rowA 0, .bool false, .rowA 1] [.row Ty.str [], .row Ty.str l]))) (.br (decide (0 ≤ (↑d.length : Int)) && decide ((↑d.length : Int) ≤ (↑d.length : Int))) (.br (fits (List.length l + 1) 16) (.br (decide (0 ≤ (↑d.length : Int)) && decide ((↑d.length : Int) ≤ (↑d.length : Int))) (.br (decide (0 ≤ (↑d.length : Int)) && decide ((↑d.length : Int) ≤ (↑d.length : Int))) (.ret (.inl (stOf [1, 6, 11, 12, 13] [.str (List.take (Int.toNat (↑d.length : Int) - Int.toNat (↑d.length : Int)) (List.drop (Int.toNat (↑d.length : Int)) d)), .rowA 0, .list (.int .i64) ps, .int .i64 n, .int .i64 (IntKind.wrap .i64 (i + 1))] [.row Ty.str (l ++ [List.take (Int.toNat (↑d.length : Int) - Int.toNat 0) (List.drop (Int.toNat 0) d)])]))) .no) .no) .no) .no)) (.br (decide (0 ≤ (↑d.length : Int)) && decide ((↑d.length : Int) ≤ (↑d.length : Int))) (.br (fits (List.length l + 1) 16) (.br (decide (0 ≤ (↑d.length : Int)) && decide ((↑d.length : Int) ≤ (↑d.length : Int))) (.br (decide (0 ≤ (↑d.length : Int)) && decide ((↑d.length : Int) ≤ (↑d.length : Int))) (.ret (.inl (stOf [1, 6, 11, 12, 13] [.str (List.take (Int.toNat (↑d.length : Int) - Int.toNat (↑d.length : Int)) (List.drop (Int.toNat (↑d.length : Int)) d)), .rowA 0, .list (.int .i64) ps, .int .i64 n, .int .i64 (IntKind.wrap .i64 (i + 1))] [.row Ty.str (l ++ [List.take (Int.toNat (↑d.length : Int) - Int.toNat 0) (List.drop (Int.toNat 0) d)])]))) .no) .no) .no) .no))) (.br (decide (ps.getD i.toNat (Ty.dflt (Ty.int .i64)) < 0)) (.ret (.inr (.ret, stOf [1, 4, 5, 6] [.str d, .rowA 0, .bool false, .rowA 1] [.row Ty.str [], .row Ty.str l]))) (.br (decide (ps.getD i.toNat (Ty.dflt (Ty.int .i64)) > (↑d.length : Int))) (.ret (.inr (.ret, stOf [1, 4, 5, 6] [.str d, .rowA 0, .bool false, .rowA 1] [.row Ty.str [], .row Ty.str l]))) (.br (ps.getD i.toNat (Ty.dflt (Ty.int .i64)) == (-1 : Int)) (.br (ps.getD i.toNat (Ty.dflt (Ty.int .i64)) == 0) (.ret (.inr (.ret, stOf [1, 4, 5, 6] [.str d, .rowA 0, .bool false, .rowA 1] [.row Ty.str [], .row Ty.str l]))) (.br (decide (0 ≤ List.getD ps i.toNat (Ty.dflt (Ty.int .i64))) && decide (ps.getD i.toNat (Ty.dflt (Ty.int .i64)) ≤ (↑d.length : Int))) (.br (decide (0 ≤ 0) && decide (0 ≤ List.getD ps i.toNat (Ty.dflt (Ty.int .i64)))) (.br (fits (List.length l + 1) 16) (.br (decide (0 ≤ (↑d.length : Int)) && decide ((↑d.length : Int) ≤ (↑d.length : Int))) (.br (decide (0 ≤ List.getD ps i.toNat (Ty.dflt (Ty.int .i64))) && decide (ps.getD i.toNat (Ty.dflt (Ty.int .i64)) ≤ (↑d.length : Int))) (.ret (.inl (stOf [1, 6, 11, 12, 13] [.str (List.take (Int.toNat (↑d.length : Int) - Int.toNat (ps.getD i.toNat (Ty.dflt (Ty.int .i64)))) (List.drop (Int.toNat (ps.getD i.toNat (Ty.dflt (Ty.int .i64)))) d)), .rowA 0, .list (.int .i64) ps, .int .i64 n, .int .i64 (IntKind.wrap .i64 (i + 1))] [.row Ty.str (l ++ [List.take (Int.toNat (ps.getD i.toNat (Ty.dflt (Ty.int .i64))) - Int.toNat 0) (List.drop (Int.toNat 0) d)])]))) .no) .no) .no) .no) .no)) (.br (decide (0 ≤ List.getD ps i.toNat (Ty.dflt (Ty.int .i64))) && decide (ps.getD i.toNat (Ty.dflt (Ty.int .i64)) ≤ (↑d.length : Int))) (.br (decide (0 ≤ 0) && decide (0 ≤ List.getD ps i.toNat (Ty.dflt (Ty.int .i64)))) (.br (fits (List.length l + 1) 16) (.br (decide (0 ≤ (↑d.length : Int)) && decide ((↑d.length : Int) ≤ (↑d.length : Int))) (.br (decide (0 ≤ List.getD ps i.toNat (Ty.dflt (Ty.int .i64))) && decide (ps.getD i.toNat (Ty.dflt (Ty.int .i64)) ≤ (↑d.length : Int))) (.ret (.inl (stOf [1, 6, 11, 12, 13] [.str (List.take (Int.toNat (↑d.length : Int) - Int.toNat (ps.getD i.toNat (Ty.dflt (Ty.int .i64)))) (List.drop (Int.toNat (ps.getD i.toNat (Ty.dflt (Ty.int .i64)))) d)), .rowA 0, .list (.int .i64) ps, .int .i64 n, .int .i64 (IntKind.wrap .i64 (i + 1))] [.row Ty.str (l ++ [List.take (Int.toNat (ps.getD i.toNat (Ty.dflt (Ty.int .i64))) - Int.toNat 0) (List.drop (Int.toNat 0) d)])]))) .no) .no) .no) .no) .no))))))) .no) .no) (.ret (.inr (.exit 0, stOf [1, 4, 5, 6] [.str d, .dead, .dead, .rowA 0] [.row Ty.str l])))
theorem U4e (lp : Lp) (d : List UInt8) (ps : List Int) (n i : Int) (l : List (List UInt8)) : evC T0 (orcB [Jh, Z0n, J0p] []) lp b92 0 (stOf [1, 6, 11, 12, 13] [.str d, .rowA 0, .list (.int .i64) ps, .int .i64 n, .int .i64 i] [.row .str l]) (X1 [1, 6, 11, 12, 13] [1, 4, 5, 6] 0) = (r92 d ps n i l).get := by kernel_rfl
theorem wf92 (ps : List Int) (n : Int) (I'' : List UInt8 → Int → List (List UInt8) → Prop) (m'' : List UInt8 → Int → List (List UInt8) → Nat) (r'' : Ex × St) (h : ∀ (d : List UInt8) (i : Int) (l : List (List UInt8)), I'' d i l → (r92 d ps n i l).all fun x'' => x'' = .inr r'' ∨ ∃ (d' : List UInt8) (i' : Int) (l' : List (List UInt8)), x'' = .inl (stOf [1, 6, 11, 12, 13] [.str d', .rowA 0, .list (.int .i64) ps, .int .i64 n, .int .i64 i'] [.row .str l']) ∧ I'' d' i' l' ∧ m'' d' i' l' < m'' d i l) (lp : Lp) (d : List UInt8) (i : Int) (l : List (List UInt8)) : I'' d i l →
    U3 (fun st => evC T0 (orcB [Jh, Z0n, J0p] []) lp b92 0 st (X1 [1, 6, 11, 12, 13] [1, 4, 5, 6] 0)) (stOf [1, 6, 11, 12, 13] [.str d, .rowA 0, .list (.int .i64) ps, .int .i64 n, .int .i64 i] [.row .str l]) = some r'' :=
 U6 (fun a'' : List UInt8 × Int × List (List UInt8) => stOf [1, 6, 11, 12, 13] [.str a''.1, .rowA 0, .list (.int .i64) ps, .int .i64 n, .int .i64 a''.2.1] [.row .str a''.2.2]) (fun a'' => I'' a''.1 a''.2.1 a''.2.2) (fun a'' => m'' a''.1 a''.2.1 a''.2.2) r'' (fun a'' => r92 a''.1 ps n a''.2.1 a''.2.2)
  (fun a'' x hx => (U4e lp a''.1 ps n a''.2.1 a''.2.2).trans hx) (fun a'' ha => Tr.all_mono (fun x'' hx => hx.imp id fun ⟨d', i', l', h1, h2, h3⟩ => ⟨(d', i', l'), h1, h2, h3⟩) (h (a''.1) (a''.2.1) (a''.2.2) ha)) (d, i, l)
def cutI (ps0 : List Int) (d0 : List UInt8) (l0 : List (List UInt8)) (d : List UInt8) (i : Int) (l : List (List UInt8)) : Prop := 0 ≤ i ∧ i ≤ ps0.length ∧ bigS d = true ∧ l.length = i.toNat ∧ cutS (ps0.drop i.toNat) d l = cutS ps0 d0 l0
theorem X1b {P : St ⊕ (Ex × St) → Prop} {d : List UInt8} {l : List (List UInt8)} {ps : List Int} {n i sz : Int} (h0 : 0 ≤ sz) (h1 : sz ≤ d.length) (hf : fits (l.length + 1) 16 = true)
    (hr : P (Sum.inl (stOf [1, 6, 11, 12, 13] [AV.str (d.drop sz.toNat), AV.rowA 0, AV.list (Ty.int IntKind.i64) ps, AV.int IntKind.i64 n, AV.int IntKind.i64 (IntKind.wrap IntKind.i64 (i + (1 : Int)))] [LObj.row Ty.str (l ++ [d.take sz.toNat])]))) :
    (Tr.br (decide ((0 : Int) ≤ sz) && decide (sz ≤ (↑(List.length d) : Int))) (Tr.br (fits (List.length l + 1) 16) (Tr.br (decide ((0 : Int) ≤ (↑(List.length d) : Int)) && decide ((↑(List.length d) : Int) ≤ (↑(List.length d) : Int))) (Tr.br (decide ((0 : Int) ≤ sz) && decide (sz ≤ (↑(List.length d) : Int)))
     (Tr.ret (Sum.inl (stOf [1, 6, 11, 12, 13] [AV.str (List.take (Int.toNat (↑(List.length d) : Int) - Int.toNat sz) (List.drop (Int.toNat sz) d)), AV.rowA 0, AV.list (Ty.int IntKind.i64) ps, AV.int IntKind.i64 n, AV.int IntKind.i64 (IntKind.wrap IntKind.i64 (i + (1 : Int)))] [LObj.row Ty.str (l ++ [List.take (Int.toNat sz - Int.toNat (0 : Int)) (List.drop (Int.toNat (0 : Int)) d)])]))) Tr.no) Tr.no) Tr.no) Tr.no).all P := by
 have e : List.take (Int.toNat (↑(List.length d) : Int) - Int.toNat sz) (List.drop (Int.toNat sz) d) = d.drop sz.toNat := List.take_of_length_le (by simp)
 have e2 : List.take (Int.toNat sz - Int.toNat (0 : Int)) (List.drop (Int.toNat (0 : Int)) d) = d.take sz.toNat := rfl
 rw [e, e2]
 refine Tr.all_t (by rw [X0 h0, X0 h1]; rfl) (Tr.all_t hf (Tr.all_t (by rw [X0 (by omega), X0 (by omega)]; rfl) (Tr.all_t (by rw [X0 h0, X0 h1]; rfl) (Tr.all_ret hr))))
theorem Q33 {P : St ⊕ (Ex × St) → Prop} {d : List UInt8} {l : List (List UInt8)} {ps : List Int} {n i sz : Int} (h0 : 0 ≤ sz) (h1 : sz ≤ d.length) (hf : fits (l.length + 1) 16 = true)
    (hr : P (Sum.inl (stOf [1, 6, 11, 12, 13] [AV.str (d.drop sz.toNat), AV.rowA 0, AV.list (Ty.int IntKind.i64) ps, AV.int IntKind.i64 n, AV.int IntKind.i64 (IntKind.wrap IntKind.i64 (i + (1 : Int)))] [LObj.row Ty.str (l ++ [d.take sz.toNat])]))) :
    (Tr.br (decide ((0 : Int) ≤ sz) && decide (sz ≤ (↑(List.length d) : Int))) (Tr.br (decide ((0 : Int) ≤ (0 : Int)) && decide ((0 : Int) ≤ sz)) (Tr.br (fits (List.length l + 1) 16) (Tr.br (decide ((0 : Int) ≤ (↑(List.length d) : Int)) && decide ((↑(List.length d) : Int) ≤ (↑(List.length d) : Int))) (Tr.br (decide ((0 : Int) ≤ sz) && decide (sz ≤ (↑(List.length d) : Int)))
     (Tr.ret (Sum.inl (stOf [1, 6, 11, 12, 13] [AV.str (List.take (Int.toNat (↑(List.length d) : Int) - Int.toNat sz) (List.drop (Int.toNat sz) d)), AV.rowA 0, AV.list (Ty.int IntKind.i64) ps, AV.int IntKind.i64 n, AV.int IntKind.i64 (IntKind.wrap IntKind.i64 (i + (1 : Int)))] [LObj.row Ty.str (l ++ [List.take (Int.toNat sz - Int.toNat (0 : Int)) (List.drop (Int.toNat (0 : Int)) d)])]))) Tr.no) Tr.no) Tr.no) Tr.no) Tr.no).all P := by
 have e : List.take (Int.toNat (↑(List.length d) : Int) - Int.toNat sz) (List.drop (Int.toNat sz) d) = d.drop sz.toNat := List.take_of_length_le (by simp)
 have e2 : List.take (Int.toNat sz - Int.toNat (0 : Int)) (List.drop (Int.toNat (0 : Int)) d) = d.take sz.toNat := rfl
 rw [e, e2]
 refine Tr.all_t (by rw [X0 h0, X0 h1]; rfl) (Tr.all_t (by rw [X0 h0]; rfl) (Tr.all_t hf (Tr.all_t (by rw [X0 (by omega), X0 (by omega)]; rfl) (Tr.all_t (by rw [X0 h0, X0 h1]; rfl) (Tr.all_ret hr)))))
theorem X4v : ls92.Ok T0 (orcB [Jh, Z0n, J0p] []) h92 0 0 b92 := by
 intro q'' hq'' x'' y'' r'' h
 obtain ⟨(d : List UInt8), (ps : List Int), (n : Int), (i : Int), _⟩ := x''
 obtain ⟨(l : List (List UInt8)), _⟩ := y''
 obtain ⟨hc, rfl⟩ := Tr.get_on2 h
 show U3 (fun st => evC T0 (orcB [Jh, Z0n, J0p] []) (lpN T0 (orcB [Jh, Z0n, J0p] []) h92 0 q'') b92 0 st (X1 [1, 6, 11, 12, 13] [1, 4, 5, 6] 0)) (stOf [1, 6, 11, 12, 13] [.str d, .rowA 0, .list (.int .i64) ps, .int .i64 n, .int .i64 i] [.row .str l]) = some ((bif (cutS ps d l).1 then (.exit 0, [.str (cutS ps d l).2.1, .dead, .dead, .rowA 0], [.row .str (cutS ps d l).2.2]) else (.ret, [.str (cutS ps d l).2.1, .rowA 0, .bool false, .rowA 1], [.row .str [], .row .str (cutS ps d l).2.2]) : Ex × List AV × List LObj).1, stOf [1, 4, 5, 6] (bif (cutS ps d l).1 then (.exit 0, [.str (cutS ps d l).2.1, .dead, .dead, .rowA 0], [.row .str (cutS ps d l).2.2]) else (.ret, [.str (cutS ps d l).2.1, .rowA 0, .bool false, .rowA 1], [.row .str [], .row .str (cutS ps d l).2.2]) : Ex × List AV × List LObj).2.1 (bif (cutS ps d l).1 then (.exit 0, [.str (cutS ps d l).2.1, .dead, .dead, .rowA 0], [.row .str (cutS ps d l).2.2]) else (.ret, [.str (cutS ps d l).2.1, .rowA 0, .bool false, .rowA 1], [.row .str [], .row .str (cutS ps d l).2.2]) : Ex × List AV × List LObj).2.2)
 simp only [cutC, Bool.and_eq_true, decide_eq_true_eq, noS, List.isEmpty_iff] at hc
 obtain ⟨hb, rfl, rfl, rfl, hps⟩ := hc
 refine wf92 ps _ (cutI ps d []) (fun _ i _ => (ps.length - i).toNat) _ ?_ _ d 0 [] ⟨by omega, by omega, hb, rfl, rfl⟩
 clear hb
 rintro d' i l' ⟨h0, h1, hb, hl, hF⟩
 rw [← hF]
 have hB : d'.length ≤ 1000000000000 := by simpa [bigS] using hb
 unfold r92
 by_cases hi : i < ps.length
 · obtain ⟨d1, _⟩ := Us (Ty.dflt (Ty.int .i64)) h0 hi
   generalize List.getD ps (Int.toNat i) (Ty.dflt (Ty.int .i64)) = x at d1
   rw [d1, cutS] at hF ⊢
   have hfit : fits (l'.length + 1) 16 = true := X7 (by omega) (by omega)
   have hw : IntKind.wrap .i64 (i + 1) = i + 1 := IntWalk.i64_in _ (by omega)
   have Z2j : ∀ sz, szP x d' = sz → okP x d' = true → cutI ps d [] (d'.drop sz.toNat) (IntKind.wrap .i64 (i + 1)) (l' ++ [d'.take sz.toNat]) ∧ (ps.length - IntKind.wrap .i64 (i + 1)).toNat < (ps.length - i).toNat := fun sz hs ho => by
    subst hs
    rw [hw]
    refine ⟨⟨by omega, by omega, by simp [bigS]; omega, by simp; omega, ?_⟩, by omega⟩
    rw [← hF, if_pos ho]
   have hwh := X1x d'
   have hfail : okP x d' = false → (if okP x d' = true then cutS (List.drop (i + 1).toNat ps) (List.drop (szP x d').toNat d') (l' ++ [List.take (szP x d').toNat d']) else (false, d', l')) = (false, d', l') := fun h => if_neg (by rw [h]; simp)
   refine Tr.all_t (X0 hi) (Tr.all_t (X0 h0) (Tr.all_t (X0 hi) ?_))
   by_cases x1 : x = -1
   · have es : szP x d' = (Ja d' : Int) := by unfold szP; rw [if_pos x1]
     have eo : okP x d' = !decide ((Ja d' : Int) = 0) := by
      unfold okP
      rw [es, X0 (by omega), X0 (by omega), X0 x1]
      rfl
     refine Tr.all_t (beq_iff_eq.2 x1) (Tr.all_t hb (Tr.all_f (Q0 (by omega)) (Tr.all_t (beq_iff_eq.2 x1) (Tr.all_br (fun c => Tr.all_ret (.inl ?_)) fun c => X1b (by omega) (by omega) hfit (.inr ⟨_, _, _, rfl, Z2j _ es ?_⟩)))))
     · rw [hfail (by rw [eo, X0 (beq_iff_eq.1 c)]; rfl)]
       rfl
     · rw [eo, Q0 (beq_eq_false_iff_ne.1 c)]
       rfl
   have hx1 : (x == -1) = false := beq_eq_false_iff_ne.2 x1
   have other : ¬ (x = -2 ∧ X0n d' = true ∨ x = -3) → szP x d' = x ∧ okP x d' = (decide (0 ≤ x) && decide (x ≤ (d'.length : Int))) := fun h => by
    have es : szP x d' = x := by unfold szP; rw [if_neg x1, if_neg h]
    refine ⟨es, ?_⟩
    unfold okP
    rw [es, Q0 x1]
    simp
   have full : (x = -2 ∧ X0n d' = true ∨ x = -3) → szP x d' = (d'.length : Int) ∧ okP x d' = true := fun h => by
    have es : szP x d' = (d'.length : Int) := by unfold szP; rw [if_neg x1, if_pos h]
    refine ⟨es, ?_⟩
    unfold okP
    rw [es, Q0 x1]
    simp
   refine Tr.all_f hx1 (Tr.all_br (fun c2 => Tr.all_t hb (Tr.all_br (fun ct => ?_) fun ct => ?_)) fun c2 => ?_)
   · obtain ⟨es, eo⟩ := full (.inl ⟨beq_iff_eq.1 c2, ct⟩)
     exact Tr.all_f (Q0 (by omega)) (Tr.all_f hx1 (X1b (by omega) (by omega) hfit (.inr ⟨_, _, _, rfl, Z2j _ es eo⟩)))
   · have hx2 := beq_iff_eq.1 c2
     obtain ⟨es, eo⟩ := other (by rw [ct]; simp; omega)
     refine Tr.all_f (beq_eq_false_iff_ne.2 (by omega)) (Tr.all_t (X0 (by omega)) (Tr.all_ret (.inl ?_)))
     rw [hfail (by rw [eo, Q0 (by omega)]; rfl)]
     rfl
   · refine Tr.all_br (fun c3 => ?_) fun c3 => ?_
     · obtain ⟨es, eo⟩ := full (.inr (beq_iff_eq.1 c3))
       exact Tr.all_f (Q0 (by omega)) (Tr.all_f hx1 (X1b (by omega) (by omega) hfit (.inr ⟨_, _, _, rfl, Z2j _ es eo⟩)))
     · have hx2 := beq_eq_false_iff_ne.1 c2
       have hx3 := beq_eq_false_iff_ne.1 c3
       obtain ⟨es, eo⟩ := other (by omega)
       refine Tr.all_br (fun c4 => Tr.all_ret (.inl ?_)) fun c4 => Tr.all_br (fun c5 => Tr.all_ret (.inl ?_)) fun c5 => ?_
       · simp only [decide_eq_true_eq] at c4
         rw [hfail (by rw [eo, Q0 (by omega)]; rfl)]
         rfl
       · simp only [decide_eq_true_eq] at c5
         rw [hfail (by rw [eo, Q0 (show ¬ x ≤ (d'.length : Int) by omega), Bool.and_false])]
         rfl
       · simp only [decide_eq_false_iff_not] at c4 c5
         exact Tr.all_f hx1 (Q33 (by omega) (by omega) hfit (.inr ⟨_, _, _, rfl, Z2j _ es (by rw [eo, X0 (by omega), X0 (by omega)]; rfl)⟩))
 · have : ps.drop i.toNat = [] := List.drop_eq_nil_of_le (by omega)
   rw [this]
   exact Tr.all_f (Q0 hi) (Tr.all_ret (.inl rfl))
def t92 (k : Int) (d : List UInt8) : Tr Res := .br (cutC d (layV k) (↑(List.length (layV k)) : Int) 0 []) (.br (cutS (layV k) d []).1 (.ret ([.list Ty.str (cutS (layV k) d []).2.2, .bool ((cutS (layV k) d []).2.1 == [])], [])) (.ret ([.list Ty.str [], .bool false], []))) .no
def os92 : OSpec := { f := 92, sh := [.d (.int .u16) false, .d .str false], so := [], F := fun (k, d, _) _ => t92 k d }
theorem fn92 (k : Int) (d : List UInt8) : evC T0 (orcB [Jh, Z0n, J0p] []) (lpOf h92 0 (lsOf [ls92])) c92 1000000 (V1 [.int .u16 k, .str d] [] Try.f92.ntmps) (Z1 T0 false 0 Try.f92) = (t92 k d).get := by kernel_rfl
theorem ok92 : os92.Ok Try.prog := by
 refine J4 U2 tab0 (U0 (all_cons U19 (all_cons J45 (all_cons Q46 all_nil))) all_nil) h92 (d := 0) (n0 := 0) (S := lsOf [ls92]) Try.func92 (by kernel_rfl) (c := c92) (by kernel_rfl) rfl (J6 (xs := [(0, b92)]) (by kernel_rfl) (all_cons (V7 X4v) all_nil)) (by omega) (by kernel_rfl) ?_
 intro x'' y'' q'' hq''
 obtain ⟨(k : Int), (d : List UInt8), _⟩ := x''
 exact (fn92 k d).trans hq''
def fs92 : FSpec := fsT 92 [((.int .u16), false), (.str, false)] [((.list .str), false), (.bool, false)] fun (k, d, _) => t92 k d
theorem okf92 : fs92.Ok Try.prog := J7 fun x'' r'' hr'' => ok92 x'' () r'' hr''
theorem J1g (k : Int) : (layV k).length ≤ 10 := by
 unfold layV
 repeat' split
 all_goals simp
def Q13 : FSpec := fs92.like fun (k, d, _) => .on (bigS d) (bif okV k d then Ji k d else [], okV k d && (X1u k d).isEmpty, ())
theorem Z3t : Q13.Ok Try.prog := by
 refine Z4 okf92 _ ?_
 rintro ⟨(k : Int), (d : List UInt8), _⟩ y h
 obtain ⟨hb, rfl⟩ := Tr.get_on h
 refine V3 (vs := [.list .str (bif okV k d then Ji k d else []), .bool (okV k d && (X1u k d).isEmpty)]) rfl rfl (Tr.get_of_all ?_)
 show (t92 k d).all _
 unfold t92 okV Ji X1u
 have hl := J1g k
 refine Tr.all_t (by simp [cutC, hb, noS, hl]) (Tr.all_br (fun c1 => Tr.all_ret ?_) fun c1 => Tr.all_ret ?_)
 · rw [c1]
   have : ((cutS (layV k) d []).2.1 == []) = (cutS (layV k) d []).2.1.isEmpty := by cases (cutS (layV k) d []).2.1 <;> rfl
   rw [this]
   rfl
 · rw [c1]
   rfl
def t69 (k : Int) (d : List UInt8) : Tr Res := .br (bigS d) (.br (okV k d && List.isEmpty (X1u k d)) (.ret ([.bool (decide ((↑d.length : Int) ≤ 65535))], [])) (.ret ([.bool false], []))) .no
def os69 : OSpec := { f := 69, sh := [.d (.int .u16) false, .d .str false], so := [], F := fun (k, d, _) _ => t69 k d }
theorem fn69 (k : Int) (d : List UInt8) : evC T0 (orcB [Jh, Q13] []) (lpOf h69 0 (lsOf [])) c69 1000000 (V1 [.int .u16 k, .str d] [] Try.f69.ntmps) (Z1 T0 false 0 Try.f69) = (t69 k d).get := by kernel_rfl
theorem ok69 : os69.Ok Try.prog := by
 refine J4 U2 tab0 (U0 (all_cons U19 (all_cons Z3t all_nil)) all_nil) h69 (d := 0) (n0 := 0) (S := lsOf []) Try.func69 (by kernel_rfl) (c := c69) (by kernel_rfl) rfl (Z3 (by kernel_rfl)) (by omega) (by kernel_rfl) ?_
 intro x'' y'' q'' hq''
 obtain ⟨(k : Int), (d : List UInt8), _⟩ := x''
 exact (fn69 k d).trans hq''
def fs69 : FSpec := fsT 69 [((.int .u16), false), (.str, false)] [(.bool, false)] fun (k, d, _) => t69 k d
theorem okf69 : fs69.Ok Try.prog := J7 fun x'' r'' hr'' => ok69 x'' () r'' hr''
def U02 : FSpec := fs69.like fun (k, d, _) => .on (bigS d) (mayR k d, ())
theorem U25 : U02.Ok Try.prog := by
 refine Z4 okf69 _ ?_
 rintro ⟨(k : Int), (d : List UInt8), _⟩ y h
 obtain ⟨hb, rfl⟩ := Tr.get_on h
 refine V3 (vs := [.bool (mayR k d)]) rfl rfl (Tr.get_of_all ?_)
 show (t69 k d).all _
 unfold t69 mayR
 refine Tr.all_t hb (Tr.all_br (fun c1 => Tr.all_ret ?_) fun c1 => Tr.all_ret ?_)
 · rw [c1, J19, Bool.true_and]
   congr 3
   rw [Bool.eq_iff_iff]
   simp
   omega
 · rw [c1]
   rfl
noncomputable def b142 : Code := U5 c142 0
def J42 : LoopSpec := { bid := 0, sh := [.ptr 0 0, .d (.list .str) false, .d (.list (.int .i64)) false, .d (.int .i64) false, .d (.int .i64) false], so := [.box [.row 1, .mp 2], .row (.int .u8), .map .str (.int .i64)], F := fun (ls, ps, n, i, _) (_, b, m, _) => .on (putC ls ps n i b m) (.exit 0, [], [.box [.rowA 1, .mp 2], .row (.int .u8) (J0 (putS ps ls (Z0 b, m)).1), .mpo .str (.int .i64) (putS ps ls (Z0 b, m)).2]) }
def r142 (ls : List (List UInt8)) (ps : List Int) (n i : Int) (b : List Int) (m : List (List UInt8 × Int)) : Tr (St ⊕ (Ex × St)) := .br (decide (i < n)) (.br (decide (0 ≤ i)) (.br (decide (i < (↑ps.length : Int))) (.br (ps.getD i.toNat (Ty.dflt (Ty.int .i64)) == (-1 : Int)) (.br (decide (0 ≤ i)) (.br (decide (i < (↑ls.length : Int))) (.br (pkC b m && Nat.ble (List.length (ls.getD i.toNat (Ty.dflt Ty.str))) 100000000000) (.br (mayV (ls.getD i.toNat (Ty.dflt Ty.str))) (.ret (.inl (stOf [0, 7, 26, 27, 28] [.ptr 0 0, .list Ty.str ls, .list (.int .i64) ps, .int .i64 n, .int .i64 (IntKind.wrap .i64 (i + 1))] [.boxT none [.rowA 1, .mp 2], .row (.int .u8) (J0 (J3 (ls.getD i.toNat (Ty.dflt Ty.str)) (Z0 b) m).1), .mpo .str (.int .i64) (J3 (ls.getD i.toNat (Ty.dflt Ty.str)) (Z0 b) m).2]))) (.ret (.inl (stOf [0, 7, 26, 27, 28] [.ptr 0 0, .list Ty.str ls, .list (.int .i64) ps, .int .i64 n, .int .i64 (IntKind.wrap .i64 (i + 1))] [.boxT none [.rowA 1, .mp 2], .row (.int .u8) b, .mpo .str (.int .i64) m])))) .no) .no) .no) (.br (decide (0 ≤ i)) (.br (decide (i < (↑ls.length : Int))) (.br (fits (List.length b + List.length (J0 (ls.getD i.toNat (Ty.dflt Ty.str)))) 1) (.ret (.inl (stOf [0, 7, 26, 27, 28] [.ptr 0 0, .list Ty.str ls, .list (.int .i64) ps, .int .i64 n, .int .i64 (IntKind.wrap .i64 (i + 1))] [.boxT none [.rowA 1, .mp 2], .row (.int .u8) (b ++ J0 (ls.getD i.toNat (Ty.dflt Ty.str))), .mpo .str (.int .i64) m]))) .no) .no) .no)) .no) .no) (.ret (.inr (.exit 0, stOf [] [] [.boxT none [.rowA 1, .mp 2], .row (.int .u8) b, .mpo .str (.int .i64) m])))
theorem J3y (lp : Lp) (ls : List (List UInt8)) (ps : List Int) (n i : Int) (b : List Int) (m : List (List UInt8 × Int)) : evC T0 (orcB [Jh, Q13, U02] [Z0b, os98]) lp b142 0 (stOf [0, 7, 26, 27, 28] [.ptr 0 0, .list .str ls, .list (.int .i64) ps, .int .i64 n, .int .i64 i] [.box [.rowA 1, .mp 2], .row (.int .u8) b, .mpo .str (.int .i64) m]) (X1 [0, 7, 26, 27, 28] [] 3) = (r142 ls ps n i b m).get := by kernel_rfl
theorem wf142 (ls : List (List UInt8)) (ps : List Int) (n : Int) (I'' : Int → List Int → List (List UInt8 × Int) → Prop) (m'' : Int → List Int → List (List UInt8 × Int) → Nat) (r'' : Ex × St) (h : ∀ (i : Int) (b : List Int) (m : List (List UInt8 × Int)), I'' i b m → (r142 ls ps n i b m).all fun x'' => x'' = .inr r'' ∨ ∃ (i' : Int) (b' : List Int) (m' : List (List UInt8 × Int)), x'' = .inl (stOf [0, 7, 26, 27, 28] [.ptr 0 0, .list .str ls, .list (.int .i64) ps, .int .i64 n, .int .i64 i'] [.box [.rowA 1, .mp 2], .row (.int .u8) b', .mpo .str (.int .i64) m']) ∧ I'' i' b' m' ∧ m'' i' b' m' < m'' i b m) (lp : Lp) (i : Int) (b : List Int) (m : List (List UInt8 × Int)) : I'' i b m →
    U3 (fun st => evC T0 (orcB [Jh, Q13, U02] [Z0b, os98]) lp b142 0 st (X1 [0, 7, 26, 27, 28] [] 3)) (stOf [0, 7, 26, 27, 28] [.ptr 0 0, .list .str ls, .list (.int .i64) ps, .int .i64 n, .int .i64 i] [.box [.rowA 1, .mp 2], .row (.int .u8) b, .mpo .str (.int .i64) m]) = some r'' :=
 U6 (fun a'' : Int × List Int × List (List UInt8 × Int) => stOf [0, 7, 26, 27, 28] [.ptr 0 0, .list .str ls, .list (.int .i64) ps, .int .i64 n, .int .i64 a''.1] [.box [.rowA 1, .mp 2], .row (.int .u8) a''.2.1, .mpo .str (.int .i64) a''.2.2]) (fun a'' => I'' a''.1 a''.2.1 a''.2.2) (fun a'' => m'' a''.1 a''.2.1 a''.2.2) r'' (fun a'' => r142 ls ps n a''.1 a''.2.1 a''.2.2)
  (fun a'' x hx => (J3y lp ls ps n a''.1 a''.2.1 a''.2.2).trans hx) (fun a'' ha => Tr.all_mono (fun x'' hx => hx.imp id fun ⟨i', b', m', h1, h2, h3⟩ => ⟨(i', b', m'), h1, h2, h3⟩) (h (a''.1) (a''.2.1) (a''.2.2) ha)) (i, b, m)
def putI (ps0 : List Int) (ls0 : List (List UInt8)) (p0 : PKt) (i : Int) (b : List Int) (m : X6) : Prop := 0 ≤ i ∧ i ≤ ps0.length ∧ ∃ p : PKt, b = J0 p.1 ∧ m = p.2 ∧ kOk p.2 = true ∧ p.1.length ≤ 1000000000 + 1000000 * i.toNat ∧ putS (ps0.drop i.toNat) (ls0.drop i.toNat) p = putS ps0 ls0 p0
theorem V4d : J42.Ok T0 (orcB [Jh, Q13, U02] [Z0b, os98]) h142 3 0 b142 := by
 intro q'' hq'' x'' y'' r'' h
 obtain ⟨(ls : List (List UInt8)), (ps : List Int), (n : Int), (i : Int), _⟩ := x''
 obtain ⟨_, (b : List Int), (m : List (List UInt8 × Int)), _⟩ := y''
 obtain ⟨hc, rfl⟩ := Tr.get_on h
 show U3 (fun st => evC T0 (orcB [Jh, Q13, U02] [Z0b, os98]) (lpN T0 (orcB [Jh, Q13, U02] [Z0b, os98]) h142 3 q'') b142 0 st (X1 [0, 7, 26, 27, 28] [] 3)) (stOf [0, 7, 26, 27, 28] [.ptr 0 0, .list .str ls, .list (.int .i64) ps, .int .i64 n, .int .i64 i] [.box [.rowA 1, .mp 2], .row (.int .u8) b, .mpo .str (.int .i64) m]) = some (.exit 0, stOf [] ([]) ([.box [.rowA 1, .mp 2], .row (.int .u8) (J0 (putS ps ls (Z0 b, m)).1), .mpo .str (.int .i64) (putS ps ls (Z0 b, m)).2]))
 simp only [putC, Bool.and_eq_true, decide_eq_true_eq, List.all_eq_true] at hc
 obtain ⟨⟨hok, hk, hb⟩, rfl, rfl, hl, hps, hx⟩ := hc
 have hb := Nat.le_of_ble_eq_true hb
 refine wf142 ls ps _ (putI ps ls (Z0 b, m)) (fun i _ _ => (ps.length - i).toNat) _ ?_ _ 0 b m ⟨by omega, by omega, (Z0 b, m), (Q08 hok).symm, rfl, hk, by rw [Xi]; exact hb, rfl⟩
 clear hok hk hb
 rintro i b' m' ⟨h0, h1, p, rfl, rfl, hk, hpl, hF⟩
 rw [← hF]
 unfold r142
 by_cases hi : i < ps.length
 · obtain ⟨d1, _⟩ := Us (Ty.dflt (Ty.int .i64)) h0 hi
   obtain ⟨e1, e2⟩ := Us (l := ls) (Ty.dflt Ty.str) h0 (by omega)
   generalize List.getD ps (Int.toNat i) (Ty.dflt (Ty.int .i64)) = x at d1
   generalize List.getD ls (Int.toNat i) (Ty.dflt Ty.str) = y at e1 e2
   have hy := hx y e2
   rw [d1, e1, putS] at hF
   simp only [List.tail_cons, List.headD_cons] at hF
   have hpk : (pkC (J0 p.1) p.2 && Nat.ble y.length 100000000000) = true := by
    unfold pkC
    rw [Ud, hk, Z2, Nat.ble_eq_true_of_le (by omega), Nat.ble_eq_true_of_le (by omega)]
    rfl
   have hfb : fits ((J0 p.1).length + (J0 y).length) 1 = true := X7 (by rw [Z2, Z2]; omega) (by rw [Z2, Z2]; omega)
   obtain ⟨k1, k2⟩ := J3w (p := p) (x := (y, false)) hk
   have hil : i < (ls.length : Int) := by omega
   rw [Vl, IntWalk.i64_in _ (by omega), ← Zd]
   refine Tr.all_t (X0 hi) (Tr.all_t (X0 h0) (Tr.all_t (X0 hi) (Tr.all_br (fun c => Tr.all_t (X0 h0) (Tr.all_t (X0 hil) (Tr.all_t hpk (Tr.all_br (fun c1 => Tr.all_ret (.inr ?_)) fun c1 => Tr.all_ret (.inr ?_))))) fun c => Tr.all_t (X0 h0) (Tr.all_t (X0 hil) (Tr.all_t hfb (Tr.all_ret (.inr ?_)))))))
   · rw [c, cond_true] at hF
     have e : stN p (y, false) = J3 y p.1 p.2 := by unfold stN; rw [c1]; rfl
     rw [e] at hF k1 k2
     have k2 : (J3 y p.1 p.2).1.length ≤ p.1.length + y.length := k2
     exact ⟨_, _, _, rfl, ⟨by omega, by omega, J3 y p.1 p.2, rfl, rfl, k1, by omega, hF⟩, by omega⟩
   · rw [c, cond_true] at hF
     have e : stN p (y, false) = p := by unfold stN; rw [c1]; rfl
     rw [e] at hF
     exact ⟨_, _, _, rfl, ⟨by omega, by omega, p, rfl, rfl, hk, by omega, hF⟩, by omega⟩
   · rw [c, cond_false] at hF
     exact ⟨_, _, _, rfl, ⟨by omega, by omega, (p.1 ++ y, p.2), rfl, rfl, hk, by simp only [List.length_append]; omega, hF⟩, by omega⟩
 · refine Tr.all_f (Q0 hi) (Tr.all_ret (.inl ?_))
   rw [List.drop_eq_nil_of_le (by omega)]
   rfl
def t142 (k : Int) (d : List UInt8) (b : List Int) (m : List (List UInt8 × Int)) : Tr Res := .br (bigS d) (.br (!mayR k d) (.ret ([.int .i64 1], [.boxT none [.rowA 1, .mp 2], .row (.int .u8) b, .mpo .str (.int .i64) m])) (.br (bigS d) (.br (putC (bif okV k d then Ji k d else []) (layV k) (↑(List.length (layV k)) : Int) 0 b m) (.ret ([.int .i64 0], [.boxT none [.rowA 1, .mp 2], .row (.int .u8) (J0 (putS (layV k) (bif okV k d then Ji k d else []) (Z0 b, m)).1), .mpo .str (.int .i64) (putS (layV k) (bif okV k d then Ji k d else []) (Z0 b, m)).2])) .no) .no)) .no
def Z4n : OSpec := { f := 142, sh := [.ptr 0 0, .d (.int .u16) false, .d .str false], so := [.box [.row 1, .mp 2], .row (.int .u8), .map .str (.int .i64)], F := fun (k, d, _) (_, b, m, _) => t142 k d b m }
theorem fn142 (k : Int) (d : List UInt8) (b : List Int) (m : List (List UInt8 × Int)) : evC T0 (orcB [Jh, Q13, U02] [Z0b, os98]) (lpOf h142 3 (lsOf [J42])) c142 1000000 (V1 [.ptr 0 0, .int .u16 k, .str d] [.box [.rowA 1, .mp 2], .row (.int .u8) b, .mpo .str (.int .i64) m] Try.f142.ntmps) (Z1 T0 false 3 Try.f142) = (t142 k d b m).get := by kernel_rfl
theorem ok142 : Z4n.Ok Try.prog := by
 refine J4 U2 tab0 (U0 (all_cons U19 (all_cons Z3t (all_cons U25 all_nil))) (all_cons U2l (all_cons ok98 all_nil))) h142 (d := 0) (n0 := 3) (S := lsOf [J42]) Try.func142 (by kernel_rfl) (c := c142) (by kernel_rfl) rfl (J6 (xs := [(0, b142)]) (by kernel_rfl) (all_cons (V7 V4d) all_nil)) (by omega) (by kernel_rfl) ?_
 intro x'' y'' q'' hq''
 obtain ⟨(k : Int), (d : List UInt8), _⟩ := x''
 obtain ⟨_, (b : List Int), (m : List (List UInt8 × Int)), _⟩ := y''
 exact (fn142 k d b m).trans hq''
noncomputable def b89 : Code := U5 c89 0
def ls89 : LoopSpec := { bid := 0, sh := [.d .str false, .d (.int .i64) false, .d (.int .u16) false, .d (.int .i64) false, .d .str false, .d (.list (.int .i64)) false, .d (.int .i64) false, .d (.int .i64) false], so := [], F := fun (s, at_, k, end_, d, ps, n, i, _) _ => .on2 (Q2g s at_ end_ d ps n i) ((X5 ps s at_ end_ d).1) (.exit 0, [.int .i64 (X5 ps s at_ end_ d).2.1, .int .u16 k, .dead, .dead, .int .i64 end_, .str (X5 ps s at_ end_ d).2.2], []) (.ret, [.int .i64 (X5 ps s at_ end_ d).2.1, .int .u16 k, .str [], .int .i64 2, .int .i64 end_, .str (X5 ps s at_ end_ d).2.2], []) }
def r89 (s : List UInt8) (at_ k end_ : Int) (d : List UInt8) (ps : List Int) (n i : Int) : Tr (St ⊕ (Ex × St)) := .br (decide (i < n)) (.br (decide (0 ≤ i)) (.br (decide (i < (↑ps.length : Int))) (.br (ps.getD i.toNat (Ty.dflt (Ty.int .i64)) == (-2 : Int)) (.br (ps.getD i.toNat (Ty.dflt (Ty.int .i64)) == (-1 : Int)) (.br (bigS s) (.br (tkE (J5 s at_ at_ (-1 : Int) []) != 0) (.ret (.inr (.ret, stOf [1, 3, 8, 9, 13, 14] [.int .i64 at_, .int .u16 k, .str [], .int .i64 2, .int .i64 end_, .str d] []))) (.br (decide (tkN (J5 s at_ at_ (-1 : Int) []) > end_)) (.ret (.inr (.ret, stOf [1, 3, 8, 9, 13, 14] [.int .i64 at_, .int .u16 k, .str [], .int .i64 2, .int .i64 end_, .str d] []))) (.br (Nat.ble (List.length d + List.length (tkS (J5 s at_ at_ (-1 : Int) []))) 9223372036854775807) (.ret (.inl (stOf [0, 1, 3, 13, 14, 39, 40, 41] [.str s, .int .i64 (tkN (J5 s at_ at_ (-1 : Int) [])), .int .u16 k, .int .i64 end_, .str (d ++ tkS (J5 s at_ at_ (-1 : Int) [])), .list (.int .i64) ps, .int .i64 n, .int .i64 (IntKind.wrap .i64 (i + 1))] []))) .no))) .no) (.br (bigS s) (.br (Q1 s at_ (IntKind.wrap .i64 (end_ - at_))) (.br (decide (at_ + IntKind.wrap .i64 (end_ - at_) > end_)) (.ret (.inr (.ret, stOf [1, 3, 8, 9, 13, 14] [.int .i64 at_, .int .u16 k, .str [], .int .i64 2, .int .i64 end_, .str d] []))) (.br (Nat.ble (List.length d + List.length (U1 s at_ (IntKind.wrap .i64 (end_ - at_)))) 9223372036854775807) (.ret (.inl (stOf [0, 1, 3, 13, 14, 39, 40, 41] [.str s, .int .i64 (at_ + IntKind.wrap .i64 (end_ - at_)), .int .u16 k, .int .i64 end_, .str (d ++ U1 s at_ (IntKind.wrap .i64 (end_ - at_))), .list (.int .i64) ps, .int .i64 n, .int .i64 (IntKind.wrap .i64 (i + 1))] []))) .no)) (.ret (.inr (.ret, stOf [1, 3, 8, 9, 13, 14] [.int .i64 at_, .int .u16 k, .str [], .int .i64 2, .int .i64 end_, .str d] [])))) .no)) (.br (ps.getD i.toNat (Ty.dflt (Ty.int .i64)) == (-3 : Int)) (.br (ps.getD i.toNat (Ty.dflt (Ty.int .i64)) == (-1 : Int)) (.br (bigS s) (.br (tkE (J5 s at_ at_ (-1 : Int) []) != 0) (.ret (.inr (.ret, stOf [1, 3, 8, 9, 13, 14] [.int .i64 at_, .int .u16 k, .str [], .int .i64 2, .int .i64 end_, .str d] []))) (.br (decide (tkN (J5 s at_ at_ (-1 : Int) []) > end_)) (.ret (.inr (.ret, stOf [1, 3, 8, 9, 13, 14] [.int .i64 at_, .int .u16 k, .str [], .int .i64 2, .int .i64 end_, .str d] []))) (.br (Nat.ble (List.length d + List.length (tkS (J5 s at_ at_ (-1 : Int) []))) 9223372036854775807) (.ret (.inl (stOf [0, 1, 3, 13, 14, 39, 40, 41] [.str s, .int .i64 (tkN (J5 s at_ at_ (-1 : Int) [])), .int .u16 k, .int .i64 end_, .str (d ++ tkS (J5 s at_ at_ (-1 : Int) [])), .list (.int .i64) ps, .int .i64 n, .int .i64 (IntKind.wrap .i64 (i + 1))] []))) .no))) .no) (.br (bigS s) (.br (Q1 s at_ (IntKind.wrap .i64 (end_ - at_))) (.br (decide (at_ + IntKind.wrap .i64 (end_ - at_) > end_)) (.ret (.inr (.ret, stOf [1, 3, 8, 9, 13, 14] [.int .i64 at_, .int .u16 k, .str [], .int .i64 2, .int .i64 end_, .str d] []))) (.br (Nat.ble (List.length d + List.length (U1 s at_ (IntKind.wrap .i64 (end_ - at_)))) 9223372036854775807) (.ret (.inl (stOf [0, 1, 3, 13, 14, 39, 40, 41] [.str s, .int .i64 (at_ + IntKind.wrap .i64 (end_ - at_)), .int .u16 k, .int .i64 end_, .str (d ++ U1 s at_ (IntKind.wrap .i64 (end_ - at_))), .list (.int .i64) ps, .int .i64 n, .int .i64 (IntKind.wrap .i64 (i + 1))] []))) .no)) (.ret (.inr (.ret, stOf [1, 3, 8, 9, 13, 14] [.int .i64 at_, .int .u16 k, .str [], .int .i64 2, .int .i64 end_, .str d] [])))) .no)) (.br (ps.getD i.toNat (Ty.dflt (Ty.int .i64)) == (-1 : Int)) (.br (bigS s) (.br (tkE (J5 s at_ at_ (-1 : Int) []) != 0) (.ret (.inr (.ret, stOf [1, 3, 8, 9, 13, 14] [.int .i64 at_, .int .u16 k, .str [], .int .i64 2, .int .i64 end_, .str d] []))) (.br (decide (tkN (J5 s at_ at_ (-1 : Int) []) > end_)) (.ret (.inr (.ret, stOf [1, 3, 8, 9, 13, 14] [.int .i64 at_, .int .u16 k, .str [], .int .i64 2, .int .i64 end_, .str d] []))) (.br (Nat.ble (List.length d + List.length (tkS (J5 s at_ at_ (-1 : Int) []))) 9223372036854775807) (.ret (.inl (stOf [0, 1, 3, 13, 14, 39, 40, 41] [.str s, .int .i64 (tkN (J5 s at_ at_ (-1 : Int) [])), .int .u16 k, .int .i64 end_, .str (d ++ tkS (J5 s at_ at_ (-1 : Int) [])), .list (.int .i64) ps, .int .i64 n, .int .i64 (IntKind.wrap .i64 (i + 1))] []))) .no))) .no) (.br (bigS s) (.br (Q1 s at_ (ps.getD i.toNat (Ty.dflt (Ty.int .i64)))) (.br (decide (at_ + List.getD ps i.toNat (Ty.dflt (Ty.int .i64)) > end_)) (.ret (.inr (.ret, stOf [1, 3, 8, 9, 13, 14] [.int .i64 at_, .int .u16 k, .str [], .int .i64 2, .int .i64 end_, .str d] []))) (.br (Nat.ble (List.length d + List.length (U1 s at_ (ps.getD i.toNat (Ty.dflt (Ty.int .i64))))) 9223372036854775807) (.ret (.inl (stOf [0, 1, 3, 13, 14, 39, 40, 41] [.str s, .int .i64 (at_ + List.getD ps i.toNat (Ty.dflt (Ty.int .i64))), .int .u16 k, .int .i64 end_, .str (d ++ U1 s at_ (ps.getD i.toNat (Ty.dflt (Ty.int .i64)))), .list (.int .i64) ps, .int .i64 n, .int .i64 (IntKind.wrap .i64 (i + 1))] []))) .no)) (.ret (.inr (.ret, stOf [1, 3, 8, 9, 13, 14] [.int .i64 at_, .int .u16 k, .str [], .int .i64 2, .int .i64 end_, .str d] [])))) .no)))) .no) .no) (.ret (.inr (.exit 0, stOf [1, 3, 8, 9, 13, 14] [.int .i64 at_, .int .u16 k, .dead, .dead, .int .i64 end_, .str d] [])))
theorem V4c (lp : Lp) (s : List UInt8) (at_ k end_ : Int) (d : List UInt8) (ps : List Int) (n i : Int) : evC T0 (orcB [Jh, U02, Qg, Z04] []) lp b89 0 (stOf [0, 1, 3, 13, 14, 39, 40, 41] [.str s, .int .i64 at_, .int .u16 k, .int .i64 end_, .str d, .list (.int .i64) ps, .int .i64 n, .int .i64 i] []) (X1 [0, 1, 3, 13, 14, 39, 40, 41] [1, 3, 8, 9, 13, 14] 0) = (r89 s at_ k end_ d ps n i).get := by kernel_rfl
theorem wf89 (s : List UInt8) (k end_ : Int) (ps : List Int) (n : Int) (I'' : Int → List UInt8 → Int → Prop) (m'' : Int → List UInt8 → Int → Nat) (r'' : Ex × St) (h : ∀ (at_ : Int) (d : List UInt8) (i : Int), I'' at_ d i → (r89 s at_ k end_ d ps n i).all fun x'' => x'' = .inr r'' ∨ ∃ (at_' : Int) (d' : List UInt8) (i' : Int), x'' = .inl (stOf [0, 1, 3, 13, 14, 39, 40, 41] [.str s, .int .i64 at_', .int .u16 k, .int .i64 end_, .str d', .list (.int .i64) ps, .int .i64 n, .int .i64 i'] []) ∧ I'' at_' d' i' ∧ m'' at_' d' i' < m'' at_ d i) (lp : Lp) (at_ : Int) (d : List UInt8) (i : Int) : I'' at_ d i →
    U3 (fun st => evC T0 (orcB [Jh, U02, Qg, Z04] []) lp b89 0 st (X1 [0, 1, 3, 13, 14, 39, 40, 41] [1, 3, 8, 9, 13, 14] 0)) (stOf [0, 1, 3, 13, 14, 39, 40, 41] [.str s, .int .i64 at_, .int .u16 k, .int .i64 end_, .str d, .list (.int .i64) ps, .int .i64 n, .int .i64 i] []) = some r'' :=
 U6 (fun a'' : Int × List UInt8 × Int => stOf [0, 1, 3, 13, 14, 39, 40, 41] [.str s, .int .i64 a''.1, .int .u16 k, .int .i64 end_, .str a''.2.1, .list (.int .i64) ps, .int .i64 n, .int .i64 a''.2.2] []) (fun a'' => I'' a''.1 a''.2.1 a''.2.2) (fun a'' => m'' a''.1 a''.2.1 a''.2.2) r'' (fun a'' => r89 s a''.1 k end_ a''.2.1 ps n a''.2.2)
  (fun a'' x hx => (V4c lp s a''.1 k end_ a''.2.1 ps n a''.2.2).trans hx) (fun a'' ha => Tr.all_mono (fun x'' hx => hx.imp id fun ⟨at_', d', i', h1, h2, h3⟩ => ⟨(at_', d', i'), h1, h2, h3⟩) (h (a''.1) (a''.2.1) (a''.2.2) ha)) (at_, d, i)
def V3t (ps0 : List Int) (s : List UInt8) (a0 e : Int) (a : Int) (d : List UInt8) (i : Int) : Prop := 0 ≤ i ∧ i ≤ ps0.length ∧ 0 ≤ a ∧ a ≤ e ∧ (d.length : Int) ≤ 200000000 * i ∧ X5 (ps0.drop i.toNat) s a e d = X5 ps0 s a0 e []
theorem U53 : ls89.Ok T0 (orcB [Jh, U02, Qg, Z04] []) h89 0 0 b89 := by
 intro q'' hq'' x'' y'' r'' h
 obtain ⟨(s : List UInt8), (at_ : Int), (k : Int), (end_ : Int), (d : List UInt8), (ps : List Int), (n : Int), (i : Int), _⟩ := x''
 obtain ⟨hc, rfl⟩ := Tr.get_on2 h
 show U3 (fun st => evC T0 (orcB [Jh, U02, Qg, Z04] []) (lpN T0 (orcB [Jh, U02, Qg, Z04] []) h89 0 q'') b89 0 st (X1 [0, 1, 3, 13, 14, 39, 40, 41] [1, 3, 8, 9, 13, 14] 0)) (stOf [0, 1, 3, 13, 14, 39, 40, 41] [.str s, .int .i64 at_, .int .u16 k, .int .i64 end_, .str d, .list (.int .i64) ps, .int .i64 n, .int .i64 i] []) = some ((bif (X5 ps s at_ end_ d).1 then (.exit 0, [.int .i64 (X5 ps s at_ end_ d).2.1, .int .u16 k, .dead, .dead, .int .i64 end_, .str (X5 ps s at_ end_ d).2.2], []) else (.ret, [.int .i64 (X5 ps s at_ end_ d).2.1, .int .u16 k, .str [], .int .i64 2, .int .i64 end_, .str (X5 ps s at_ end_ d).2.2], []) : Ex × List AV × List LObj).1, stOf [1, 3, 8, 9, 13, 14] (bif (X5 ps s at_ end_ d).1 then (.exit 0, [.int .i64 (X5 ps s at_ end_ d).2.1, .int .u16 k, .dead, .dead, .int .i64 end_, .str (X5 ps s at_ end_ d).2.2], []) else (.ret, [.int .i64 (X5 ps s at_ end_ d).2.1, .int .u16 k, .str [], .int .i64 2, .int .i64 end_, .str (X5 ps s at_ end_ d).2.2], []) : Ex × List AV × List LObj).2.1 (bif (X5 ps s at_ end_ d).1 then (.exit 0, [.int .i64 (X5 ps s at_ end_ d).2.1, .int .u16 k, .dead, .dead, .int .i64 end_, .str (X5 ps s at_ end_ d).2.2], []) else (.ret, [.int .i64 (X5 ps s at_ end_ d).2.1, .int .u16 k, .str [], .int .i64 2, .int .i64 end_, .str (X5 ps s at_ end_ d).2.2], []) : Ex × List AV × List LObj).2.2)
 simp only [Q2g, Bool.and_eq_true, decide_eq_true_eq, noT, List.isEmpty_iff] at hc
 obtain ⟨hb, rfl, rfl, ha0, hae, hes, rfl, hps⟩ := hc
 refine wf89 s k end_ ps _ (V3t ps s at_ end_) (fun _ _ i => (ps.length - i).toNat) _ ?_ _ at_ [] 0 ⟨by omega, by omega, ha0, hae, by simp, rfl⟩
 clear ha0 hae
 rintro a d i ⟨h0, h1, ha, hae, hdl, hF⟩
 rw [← hF]
 have hB : s.length ≤ 100000000 := by simpa [smS] using hb
 have hbig : bigS s = true := by simp [bigS]; omega
 unfold r89
 by_cases hi : i < ps.length
 · obtain ⟨d1, _⟩ := Us (Ty.dflt (Ty.int .i64)) h0 hi
   generalize List.getD ps (Int.toNat i) (Ty.dflt (Ty.int .i64)) = x at d1
   rw [d1, X5] at hF ⊢
   rw [IntWalk.i64_in (i + 1) (by omega), IntWalk.i64_in (end_ - a) (by omega)]
   refine Tr.all_t (X0 hi) (Tr.all_t (X0 h0) (Tr.all_t (X0 hi) ?_))
   by_cases x1 : x = -1
   · rw [if_pos x1] at hF ⊢
     refine Tr.all_f (beq_eq_false_iff_ne.2 (by omega)) (Tr.all_f (beq_eq_false_iff_ne.2 (by omega)) (Tr.all_t (beq_iff_eq.2 x1) (Tr.all_t hbig ?_)))
     cases ho : J5 s a a (-1) [] with
     | none => exact Tr.all_t rfl (Tr.all_ret (.inl rfl))
     | some q =>
       obtain ⟨n, next⟩ := q
       obtain ⟨p1, p2, p3⟩ := Q0d ha ho
       have hn := (Vg.1 p1).2.1
       rw [ho] at hF
       simp only at hF ⊢
       refine Tr.all_f rfl (Tr.all_br (fun c => Tr.all_ret (.inl ?_)) fun c => Tr.all_t ?_ (Tr.all_ret (.inr ?_)))
       · have c' : next > end_ := of_decide_eq_true c
         rw [if_pos c']
         rfl
       · simp only [tkS]
         exact Nat.ble_eq_true_of_le (by omega)
       · have c' : ¬ next > end_ := of_decide_eq_false c
         rw [if_neg c'] at hF
         exact ⟨_, _, _, rfl, ⟨by omega, by omega, by simp only [tkN]; omega, by simp only [tkN]; omega, by simp only [tkS, List.length_append]; omega, hF⟩, by omega⟩
   · rw [if_neg x1] at hF ⊢
     have hx1 : (x == -1) = false := beq_eq_false_iff_ne.2 x1
     have key : ∀ sz : Int, (if x = -2 ∨ x = -3 then end_ - a else x) = sz → (Q1 s a sz = true ∧ a + sz ≤ end_ → V3t ps s at_ end_ (a + sz) (d ++ U1 s a sz) (i + 1)) ∧ (Nat.ble (d.length + (U1 s a sz).length) 9223372036854775807 = true) := fun sz hs => by
      rw [hs] at hF
      have hvl : (U1 s a sz).length ≤ s.length := by unfold U1; rw [List.length_take, List.length_drop]; omega
      refine ⟨fun hh => ?_, Nat.ble_eq_true_of_le (by omega)⟩
      rw [if_pos hh] at hF
      have := J9.1 hh.1
      exact ⟨by omega, by omega, by omega, hh.2, by rw [List.length_append]; omega, hF⟩
     have half : ∀ sz : Int, (if x = -2 ∨ x = -3 then end_ - a else x) = sz → (Tr.br (bigS s) (Tr.br (Q1 s a sz) (Tr.br (decide (a + sz > end_)) (Tr.ret (Sum.inr (Ex.ret, stOf [1, 3, 8, 9, 13, 14] [AV.int .i64 a, AV.int .u16 k, AV.str [], AV.int .i64 (2 : Int), AV.int .i64 end_, AV.str d] []))) (Tr.br (Nat.ble (List.length d + List.length (U1 s a sz)) 9223372036854775807) (Tr.ret (Sum.inl (stOf [0, 1, 3, 13, 14, 39, 40, 41] [AV.str s, AV.int .i64 (a + sz), AV.int .u16 k, AV.int .i64 end_, AV.str (d ++ U1 s a sz), AV.list (Ty.int .i64) ps, AV.int .i64 ps.length, AV.int .i64 (i + 1)] []))) Tr.no)) (Tr.ret (Sum.inr (Ex.ret, stOf [1, 3, 8, 9, 13, 14] [AV.int .i64 a, AV.int .u16 k, AV.str [], AV.int .i64 (2 : Int), AV.int .i64 end_, AV.str d] [])))) Tr.no).all
         fun x'' => x'' = .inr ((bif (if Q1 s a sz = true ∧ a + sz ≤ end_ then X5 (ps.drop (i + 1).toNat) s (a + sz) end_ (d ++ U1 s a sz) else (false, a, d)).1 then (Ex.exit 0, [.int .i64 (if Q1 s a sz = true ∧ a + sz ≤ end_ then X5 (ps.drop (i + 1).toNat) s (a + sz) end_ (d ++ U1 s a sz) else (false, a, d)).2.1, .int .u16 k, .dead, .dead, .int .i64 end_, .str (if Q1 s a sz = true ∧ a + sz ≤ end_ then X5 (ps.drop (i + 1).toNat) s (a + sz) end_ (d ++ U1 s a sz) else (false, a, d)).2.2], []) else (Ex.ret, [.int .i64 (if Q1 s a sz = true ∧ a + sz ≤ end_ then X5 (ps.drop (i + 1).toNat) s (a + sz) end_ (d ++ U1 s a sz) else (false, a, d)).2.1, .int .u16 k, .str [], .int .i64 2, .int .i64 end_, .str (if Q1 s a sz = true ∧ a + sz ≤ end_ then X5 (ps.drop (i + 1).toNat) s (a + sz) end_ (d ++ U1 s a sz) else (false, a, d)).2.2], []) : Ex × List AV × List LObj).1, stOf [1, 3, 8, 9, 13, 14] (bif (if Q1 s a sz = true ∧ a + sz ≤ end_ then X5 (ps.drop (i + 1).toNat) s (a + sz) end_ (d ++ U1 s a sz) else (false, a, d)).1 then (Ex.exit 0, [.int .i64 (if Q1 s a sz = true ∧ a + sz ≤ end_ then X5 (ps.drop (i + 1).toNat) s (a + sz) end_ (d ++ U1 s a sz) else (false, a, d)).2.1, .int .u16 k, .dead, .dead, .int .i64 end_, .str (if Q1 s a sz = true ∧ a + sz ≤ end_ then X5 (ps.drop (i + 1).toNat) s (a + sz) end_ (d ++ U1 s a sz) else (false, a, d)).2.2], []) else (Ex.ret, [.int .i64 (if Q1 s a sz = true ∧ a + sz ≤ end_ then X5 (ps.drop (i + 1).toNat) s (a + sz) end_ (d ++ U1 s a sz) else (false, a, d)).2.1, .int .u16 k, .str [], .int .i64 2, .int .i64 end_, .str (if Q1 s a sz = true ∧ a + sz ≤ end_ then X5 (ps.drop (i + 1).toNat) s (a + sz) end_ (d ++ U1 s a sz) else (false, a, d)).2.2], []) : Ex × List AV × List LObj).2.1 (bif (if Q1 s a sz = true ∧ a + sz ≤ end_ then X5 (ps.drop (i + 1).toNat) s (a + sz) end_ (d ++ U1 s a sz) else (false, a, d)).1 then (Ex.exit 0, [.int .i64 (if Q1 s a sz = true ∧ a + sz ≤ end_ then X5 (ps.drop (i + 1).toNat) s (a + sz) end_ (d ++ U1 s a sz) else (false, a, d)).2.1, .int .u16 k, .dead, .dead, .int .i64 end_, .str (if Q1 s a sz = true ∧ a + sz ≤ end_ then X5 (ps.drop (i + 1).toNat) s (a + sz) end_ (d ++ U1 s a sz) else (false, a, d)).2.2], []) else (Ex.ret, [.int .i64 (if Q1 s a sz = true ∧ a + sz ≤ end_ then X5 (ps.drop (i + 1).toNat) s (a + sz) end_ (d ++ U1 s a sz) else (false, a, d)).2.1, .int .u16 k, .str [], .int .i64 2, .int .i64 end_, .str (if Q1 s a sz = true ∧ a + sz ≤ end_ then X5 (ps.drop (i + 1).toNat) s (a + sz) end_ (d ++ U1 s a sz) else (false, a, d)).2.2], []) : Ex × List AV × List LObj).2.2) ∨
          ∃ at' d' i', x'' = .inl (stOf [0, 1, 3, 13, 14, 39, 40, 41] [AV.str s, AV.int .i64 at', AV.int .u16 k, AV.int .i64 end_, AV.str d', AV.list (Ty.int .i64) ps, AV.int .i64 ps.length, AV.int .i64 i'] []) ∧ V3t ps s at_ end_ at' d' i' ∧ (ps.length - i').toNat < (ps.length - i).toNat := fun sz hs => by
      obtain ⟨k1, k2⟩ := key sz hs
      refine Tr.all_t hbig (Tr.all_br (fun c1 => Tr.all_br (fun c2 => Tr.all_ret (.inl ?_)) fun c2 => Tr.all_t k2 (Tr.all_ret (.inr ⟨_, _, _, rfl, k1 ⟨c1, ?_⟩, by omega⟩))) fun c1 => Tr.all_ret (.inl ?_))
      · simp only [decide_eq_true_eq] at c2
        rw [if_neg (by omega)]
        rfl
      · simp only [decide_eq_false_iff_not] at c2
        omega
      · rw [if_neg (by rw [c1]; simp)]
        rfl
     by_cases x2 : x = -2
     · rw [if_pos (Or.inl x2)]
       exact Tr.all_t (beq_iff_eq.2 x2) (Tr.all_f hx1 (half _ (if_pos (Or.inl x2))))
     · by_cases x3 : x = -3
       · rw [if_pos (Or.inr x3)]
         exact Tr.all_f (beq_eq_false_iff_ne.2 x2) (Tr.all_t (beq_iff_eq.2 x3) (Tr.all_f hx1 (half _ (if_pos (Or.inr x3)))))
       · have hne : ¬ (x = -2 ∨ x = -3) := by omega
         rw [if_neg hne]
         exact Tr.all_f (beq_eq_false_iff_ne.2 x2) (Tr.all_f (beq_eq_false_iff_ne.2 x3) (Tr.all_f hx1 (half _ (if_neg hne))))
 · refine Tr.all_f (Q0 hi) (Tr.all_ret (.inl ?_))
   rw [List.drop_eq_nil_of_le (by omega)]
   rfl
def t89 (s : List UInt8) (at_ many k : Int) : Tr Res := .br (bigS s) (.br (Q1 s at_ many) (.br (Q2g s at_ (IntKind.wrap .i64 (at_ + many)) ([]) (layV k) (↑(List.length (layV k)) : Int) 0) (.br (X5 (layV k) s at_ (IntKind.wrap .i64 (at_ + many)) ([])).1 (.br ((X5 (layV k) s at_ (IntKind.wrap .i64 (at_ + many)) ([])).2.1 != IntKind.wrap .i64 (at_ + many)) (.ret ([.str [], .int .i64 2], [])) (.br (bigS (X5 (layV k) s at_ (IntKind.wrap .i64 (at_ + many)) ([])).2.2) (.br (!mayR k (X5 (layV k) s at_ (IntKind.wrap .i64 (at_ + many)) ([])).2.2) (.ret ([.str [], .int .i64 2], [])) (.ret ([.str (X5 (layV k) s at_ (IntKind.wrap .i64 (at_ + many)) ([])).2.2, .int .i64 0], []))) .no)) (.ret ([.str [], .int .i64 2], []))) .no) (.ret ([.str [], .int .i64 2], []))) .no
def os89 : OSpec := { f := 89, sh := [.d .str false, .d (.int .i64) false, .d (.int .i64) false, .d (.int .u16) false], so := [], F := fun (s, at_, many, k, _) _ => t89 s at_ many k }
theorem fn89 (s : List UInt8) (at_ many k : Int) : evC T0 (orcB [Jh, U02, Qg, Z04] []) (lpOf h89 0 (lsOf [ls89])) c89 1000000 (V1 [.str s, .int .i64 at_, .int .i64 many, .int .u16 k] [] Try.f89.ntmps) (Z1 T0 false 0 Try.f89) = (t89 s at_ many k).get := by kernel_rfl
theorem ok89 : os89.Ok Try.prog := by
 refine J4 U2 tab0 (U0 (all_cons U19 (all_cons U25 (all_cons Q0u (all_cons Z18 all_nil)))) all_nil) h89 (d := 0) (n0 := 0) (S := lsOf [ls89]) Try.func89 (by kernel_rfl) (c := c89) (by kernel_rfl) rfl (J6 (xs := [(0, b89)]) (by kernel_rfl) (all_cons (V7 U53) all_nil)) (by omega) (by kernel_rfl) ?_
 intro x'' y'' q'' hq''
 obtain ⟨(s : List UInt8), (at_ : Int), (many : Int), (k : Int), _⟩ := x''
 exact (fn89 s at_ many k).trans hq''
def fs89 : FSpec := fsT 89 [(.str, false), ((.int .i64), false), ((.int .i64), false), ((.int .u16), false)] [(.str, false), ((.int .i64), false)] fun (s, at_, many, k, _) => t89 s at_ many k
theorem okf89 : fs89.Ok Try.prog := J7 fun x'' r'' hr'' => ok89 x'' () r'' hr''
theorem X3b {d : List UInt8} (h : Ja d ≠ 0) : mayV (d.take (Ja d)) = true := by
 unfold Ja at h ⊢
 split at h
 · rename_i hc
   rw [if_pos hc]
   exact hc.2
 · exact absurd rfl h
theorem J1f : ∀ (ps : List Int) (d : List UInt8) (out : List (List UInt8)), (cutS ps d out).1 = true → ∃ l, (cutS ps d out).2.2 = out ++ l ∧ l.length = ps.length ∧ (∀ x ∈ l, x.length ≤ d.length) ∧ l.flatten ++ (cutS ps d out).2.1 = d
 | [], d, out, _ => ⟨[], by simp [cutS]⟩
 | p :: ps, d, out, h => by
   unfold cutS at h ⊢
   by_cases ho : okP p d = true
   · rw [if_pos ho] at h ⊢
     obtain ⟨l, h1, h2, h3, h4⟩ := J1f ps _ _ h
     refine ⟨d.take (szP p d).toNat :: l, by rw [h1, List.append_assoc]; rfl, by simp [h2], fun x hx => ?_, ?_⟩
     · rcases List.mem_cons.1 hx with rfl | hx
       · rw [List.length_take]; omega
       · have := h3 x hx
         rw [List.length_drop] at this
         omega
     · rw [List.flatten_cons, List.append_assoc, h4, List.take_append_drop]
   · rw [if_neg ho] at h
     cases h
theorem Q06 {k : Int} {d : List UInt8} (h : mayR k d = true) : okV k d = true ∧ X1u k d = [] ∧ d.length ≤ 65535 ∧ (Ji k d).length = (layV k).length ∧ (∀ x ∈ Ji k d, x.length ≤ d.length) ∧ (Ji k d).flatten = d := by
 unfold mayR at h
 simp only [Bool.and_eq_true, List.isEmpty_iff] at h
 obtain ⟨⟨h1, h2⟩, h3⟩ := h
 obtain ⟨l, a1, a2, a3, a4⟩ := J1f (layV k) d [] h1
 have a1 : Ji k d = l := a1
 have h2' : (cutS (layV k) d []).2.1 = [] := h2
 rw [h2', List.append_nil] at a4
 exact ⟨h1, h2, Nat.le_of_ble_eq_true h3, by rw [a1, a2], by rw [a1]; exact a3, by rw [a1, a4]⟩
theorem Q4g {x : Int} (h : 0 ≤ x) (d : List UInt8) : szP x d = x ∧ okP x d = decide (x ≤ (d.length : Int)) := by
 have es : szP x d = x := by unfold szP; rw [if_neg (by omega), if_neg (by omega)]
 refine ⟨es, ?_⟩
 unfold okP
 rw [es, X0 h, Q0 (show ¬ x = -1 by omega)]
 simp
theorem U3j (d : List UInt8) : szP (-1) d = (Ja d : Int) ∧ okP (-1) d = !decide (Ja d = 0) := by
 have es : szP (-1) d = (Ja d : Int) := rfl
 have := X1x d
 refine ⟨es, ?_⟩
 unfold okP
 rw [es, X0 (by omega), X0 (by omega)]
 simp
theorem Q41 {ps : List Int} {s : List UInt8} {a e : Int} {d n : List UInt8} {next : Int} (h : J5 s a a (-1) [] = some (n, next)) : X5 (-1 :: ps) s a e d = if next > e then (false, a, d) else X5 ps s next e (d ++ n) := by
 rw [X5, if_pos rfl, h]
theorem X3a {s : List UInt8} {a n k : Int} {d : List UInt8} (h : Vx s a n k = some d) : mayR k d = true ∧ Q1 s a n = true ∧ (X5 (layV k) s a (a + n) []).1 = true ∧ (X5 (layV k) s a (a + n) []).2.1 = a + n ∧ d = (X5 (layV k) s a (a + n) []).2.2 := by
 unfold Vx at h
 by_cases h1 : Q1 s a n = true
 · rw [if_pos h1] at h
   by_cases h2 : (X5 (layV k) s a (a + n) []).1 = true ∧ (X5 (layV k) s a (a + n) []).2.1 = a + n ∧ mayR k (X5 (layV k) s a (a + n) []).2.2 = true
   · rw [if_pos h2] at h
     cases h
     exact ⟨h2.2.2, h1, h2.1, h2.2.1, rfl⟩
   · rw [if_neg h2] at h; cases h
 · rw [if_neg h1] at h; cases h
def U3l : OSpec := Z4n.like fun (k, d, _) (_, b, m, _) => .br (pkT b m && Nat.ble d.length 1000000) (.br (mayR k d) (.ret ([.int .i64 0], pkO (J0 (putR k d (Z0 b, m)).1) (putR k d (Z0 b, m)).2)) (.ret ([.int .i64 1], pkO b m))) .no
theorem Z51 : U3l.Ok Try.prog := by
 refine Jj ok142 _ ?_
 rintro ⟨(k : Int), (d : List UInt8), _⟩ ⟨_, (b : List Int), (m : X6), _⟩ r h
 simp only [Tr.get] at h
 cases hc : (pkT b m && Nat.ble d.length 1000000) with
 | false => rw [hc] at h; cases h
 | true =>
   rw [hc, cond_true] at h
   simp only [pkT, Bool.and_eq_true] at hc
   obtain ⟨⟨hok, hk, hb⟩, hd⟩ := hc
   have hd := Nat.le_of_ble_eq_true hd
   refine Tr.get_of_all ?_
   show (t142 k d b m).all _
   unfold t142
   have hbig : bigS d = true := by simp [bigS]; omega
   cases hm : mayR k d with
   | false =>
     rw [hm, cond_false] at h
     cases h
     exact Tr.all_t hbig (Tr.all_t rfl (Tr.all_ret rfl))
   | true =>
     rw [hm, cond_true] at h
     cases h
     obtain ⟨h1, h2, h3, h4, h5, h6⟩ := Q06 hm
     have hl := J1g k
     rw [h1, cond_true]
     refine Tr.all_t hbig (Tr.all_f rfl (Tr.all_t hbig (Tr.all_t ?_ (Tr.all_ret rfl))))
     unfold putC
     rw [hok, hk, hb, X0 rfl, X0 rfl, X0 h4, X0 hl]
     simp only [Bool.true_and, List.all_eq_true, decide_eq_true_eq]
     exact fun x hx => by have := h5 x hx; omega
def U3q : FSpec := fs89.like fun (s, a, n, k, _) => .on (smS s) ((Vx s a n k).getD [], if (Vx s a n k).isSome then (0 : Int) else 2, ())
theorem Q0g : ∀ (ps : List Int) (s : List UInt8) (a e : Int) (d : List UInt8), 0 ≤ a → s.length ≤ 100000000 → (X5 ps s a e d).2.2.length ≤ d.length + 200000000 * ps.length
 | [], s, a, e, d, _, _ => by simp [X5]
 | x :: ps, s, a, e, d, h0, hs => by
   unfold X5
   by_cases h1 : x = -1
   · rw [if_pos h1]
     cases ho : J5 s a a (-1) [] with
     | none => exact Nat.le_add_right _ _
     | some q =>
       obtain ⟨n, next⟩ := q
       obtain ⟨p1, p2, p3⟩ := Q0d h0 ho
       have hn := (Vg.1 p1).2.1
       simp only
       by_cases hn2 : next > e
       · rw [if_pos hn2]
         exact Nat.le_add_right _ _
       · rw [if_neg hn2]
         have := Q0g ps s next e (d ++ n) (by omega) hs
         rw [List.length_append] at this
         simp only [List.length_cons]
         omega
   · rw [if_neg h1]
     generalize (if x = -2 ∨ x = -3 then e - a else x) = sz
     by_cases hh : Q1 s a sz = true ∧ a + sz ≤ e
     · rw [if_pos hh]
       have := J9.1 hh.1
       have hvl : (U1 s a sz).length ≤ s.length := by unfold U1; rw [List.length_take, List.length_drop]; omega
       have := Q0g ps s (a + sz) e (d ++ U1 s a sz) (by omega) hs
       rw [List.length_append] at this
       simp only [List.length_cons]
       omega
     · rw [if_neg hh]
       exact Nat.le_add_right _ _
theorem Q3r : U3q.Ok Try.prog := by
 refine Z4 okf89 _ ?_
 rintro ⟨(s : List UInt8), (a : Int), (n : Int), (k : Int), _⟩ y h
 obtain ⟨hb, rfl⟩ := Tr.get_on h
 refine V3 (vs := [.str ((Vx s a n k).getD []), .int .i64 (if (Vx s a n k).isSome then 0 else 2)]) rfl rfl (Tr.get_of_all ?_)
 show (t89 s a n k).all _
 unfold t89 Vx
 have hB : s.length ≤ 100000000 := by simpa [smS] using hb
 have hbig : bigS s = true := by simp [bigS]; omega
 have hl := J1g k
 refine Tr.all_t hbig ?_
 cases h1 : Q1 s a n with
 | false =>
   rw [if_neg Bool.false_ne_true]
   exact Tr.all_f rfl (Tr.all_ret rfl)
 | true =>
   have hs := J9.1 h1
   have hw : IntKind.wrap .i64 (a + n) = a + n := IntWalk.i64_in _ (by omega)
   have hd := Q0g (layV k) s a (a + n) [] hs.1 hB
   rw [hw, if_pos rfl]
   have hc : Q2g s a (a + n) [] (layV k) (layV k).length 0 = true := by
    unfold Q2g noT
    rw [hb, X0 rfl, X0 rfl, X0 hs.1, X0 (show a ≤ a + n by omega), X0 (show a + n ≤ (s.length : Int) by omega), X0 hl]
    rfl
   generalize X5 (layV k) s a (a + n) [] = t at hd
   obtain ⟨ok, at', d⟩ := t
   have hbd : bigS d = true := by
    have : d.length ≤ ([] : List UInt8).length + 200000000 * (layV k).length := hd
    simp [bigS] at this ⊢
    omega
   refine Tr.all_t rfl (Tr.all_t hc (Tr.all_br (fun c1 => Tr.all_br (fun c2 => Tr.all_ret ?_) fun c2 => Tr.all_t hbd (Tr.all_br (fun c3 => Tr.all_ret ?_) fun c3 => Tr.all_ret ?_)) fun c1 => Tr.all_ret ?_))
   · have hne : at' ≠ a + n := by simpa using c2
     rw [if_neg (fun h => hne h.2.1)]
     rfl
   · rw [Bool.not_eq_true'] at c3
     rw [if_neg (fun h => by rw [show mayR k d = false from c3] at h; exact Bool.false_ne_true h.2.2)]
     rfl
   · rw [Bool.not_eq_false'] at c3
     have he : at' = a + n := by simpa using c2
     rw [if_pos ⟨c1, he, c3⟩]
     rfl
   · rw [if_neg (fun h => by rw [show ok = false from c1] at h; exact Bool.false_ne_true h.1)]
     rfl
theorem J0i {n : List UInt8} (h : n.length ≤ 1000000000000) : bigS n = true := by simp [bigS]; omega
theorem Zl {α : Type} {l : List α} {k : Nat} (h : k < l.length) (x : α) : l.drop k = l.getD k x :: l.drop (k + 1) := by
 rw [List.getD_eq_getElem?_getD, List.getElem?_eq_getElem h]
 exact List.drop_eq_getElem_cons h
abbrev RR : Ty := .pair .str (.pair (.int .u16) (.pair (.int .u16) (.pair (.int .u32) .str)))
abbrev RRt := List UInt8 × (Int × (Int × (Int × List UInt8)))
abbrev ZNt := List UInt8 × List RRt
abbrev QQ : Ty := .pair .str (.pair (.int .u16) (.int .u16))
abbrev QQt := List UInt8 × (Int × Int)
abbrev MG : Ty := .pair (.int .u16) (.pair .bool (.pair .bool (.pair .bool (.pair .bool (.pair .bool (.pair (.int .i64) (.pair (.int .i64) (.pair (.list QQ) (.pair (.list RR) (.pair (.list RR) (.list RR)))))))))))
abbrev MGt := Int × (Bool × (Bool × (Bool × (Bool × (Bool × (Int × (Int × (List QQt × (List RRt × (List RRt × List RRt))))))))))
instance decRR : DecidableEq RRt := inferInstance
instance decLRR : DecidableEq (List RRt) := inferInstance
instance decZN : DecidableEq ZNt := inferInstanceAs (DecidableEq (List UInt8 × List RRt))
instance decLZN : DecidableEq (List ZNt) := inferInstance
theorem V33 {n : Nat} (hn : n < 16777216) (c : UInt8) : J1s n c = ((n * 256 + c.toNat : Nat) : Int) := by
 have hc := c.toNat_lt
 have e1 : ((n : Int) * (2 : Int) ^ min (Int.toNat (8 : Int)) (IntKind.bits IntKind.u32)) = ((n * 256 : Nat) : Int) := by
  simp [IntKind.bits]
 unfold J1s
 rw [e1, IntWalk.u32_in ((n * 256 : Nat) : Int) (by omega), IntWalk.u32_in ((c.toNat : Nat) : Int) (by omega)]
 have e3 : BitVec.toNat (BitVec.ofInt (IntKind.bits IntKind.u32) ((n * 256 : Nat) : Int) ||| BitVec.ofInt (IntKind.bits IntKind.u32) ((c.toNat : Nat) : Int)) = n * 256 + c.toNat := by
  show BitVec.toNat (BitVec.ofInt 32 ((n * 256 : Nat) : Int) ||| BitVec.ofInt 32 ((c.toNat : Nat) : Int)) = _
  rw [BitVec.ofInt_natCast, BitVec.ofInt_natCast, BitVec.toNat_or, BitVec.toNat_ofNat, BitVec.toNat_ofNat, Nat.mod_eq_of_lt (by omega), Nat.mod_eq_of_lt (by omega)]
  have := Nat.shiftLeft_add_eq_or_of_lt (a := n) (b := c.toNat) (i := 8) (by omega)
  rw [Nat.shiftLeft_eq] at this
  exact this.symm
 rw [e3, IntWalk.u32_in _ (by omega)]
def numN (b : List UInt8) : Nat := b.foldl (fun n c => n * 256 + c.toNat) 0
theorem X1v (b : List UInt8) (c : UInt8) : numN (b ++ [c]) = numN b * 256 + c.toNat := by unfold numN; rw [List.foldl_append]; rfl
theorem U47 : ∀ (b : List UInt8), numN b < 256 ^ b.length := by
 intro b
 have h : ∀ m (b : List UInt8), b.length = m → numN b < 256 ^ m := by
  intro m
  induction m with
  | zero => intro b hb; rw [List.length_eq_zero_iff.1 hb]; simp [numN]
  | succ m ih =>
    intro b hb
    have hne : b ≠ [] := fun e => by rw [e] at hb; simp at hb
    rw [← List.dropLast_concat_getLast hne, X1v]
    have h1 := ih b.dropLast (by rw [List.length_dropLast]; omega)
    have h2 := (b.getLast hne).toNat_lt
    rw [Nat.pow_succ]
    omega
 exact h _ b rfl
def nbC4 (b : List UInt8) (n len i : Int) : Bool := decide (n = 0) && (decide (i = 0) && (decide (len = b.length) && decide (b.length ≤ 4)))
theorem X3s {b : List UInt8} {i : Nat} (hi : i < b.length) (h4 : b.length ≤ 4) : J1s (numB (b.take i)) (b.getD i 0) = numB (b.take (i + 1)) := by
 have hl := U47 (b.take i)
 rw [List.length_take, Nat.min_eq_left (by omega)] at hl
 have hp : 256 ^ i ≤ 256 ^ 3 := Nat.pow_le_pow_right (by omega) (by omega)
 have e : numB (b.take i) = ((numN (b.take i) : Nat) : Int) := rfl
 have e2 : numB (b.take (i + 1)) = ((numN (b.take (i + 1)) : Nat) : Int) := rfl
 rw [e, e2, V33 (by omega), List.take_succ_eq_append_getElem hi, X1v, List.getD_eq_getElem?_getD, List.getElem?_eq_getElem hi]
 rfl
noncomputable def b115 : Code := U5 c115 0
def J3l : LoopSpec := { bid := 0, sh := [.d .str false, .d (.int .i64) false, .d (.int .i64) false, .d (.int .u32) false, .d (.int .i64) false, .d (.int .i64) false], so := [], F := fun (b, nx, e, n, len, i, _) _ => .on (nbC4 b n len i) (.exit 0, [.int .i64 nx, .int .i64 e, .int .u32 (numB b)], []) }
def r115 (b : List UInt8) (nx e n len i : Int) : Tr (St ⊕ (Ex × St)) := .br (decide (i < len)) (.br (decide (0 ≤ i)) (.br (decide (i < (↑b.length : Int))) (.ret (.inl (stOf [9, 10, 11, 12, 23, 24] [.str b, .int .i64 nx, .int .i64 e, .int .u32 (IntKind.wrap .u32 (↑(BitVec.toNat (BitVec.ofInt (IntKind.bits IntKind.u32) (IntKind.wrap .u32 (n * 2 ^ min (Int.toNat 8) (IntKind.bits IntKind.u32))) ||| BitVec.ofInt (IntKind.bits IntKind.u32) (IntKind.wrap .u32 (↑(UInt8.toNat (b.getD i.toNat 0)) : Int)))) : Int)), .int .i64 len, .int .i64 (IntKind.wrap .i64 (i + 1))] []))) .no) .no) (.ret (.inr (.exit 0, stOf [10, 11, 12] [.int .i64 nx, .int .i64 e, .int .u32 n] [])))
theorem X3g (orc : Orc) (lp : Lp) (b : List UInt8) (nx e n len i : Int) : evC T0 orc lp b115 0 (stOf [9, 10, 11, 12, 23, 24] [.str b, .int .i64 nx, .int .i64 e, .int .u32 n, .int .i64 len, .int .i64 i] []) (X1 [9, 10, 11, 12, 23, 24] [10, 11, 12] 0) = (r115 b nx e n len i).get := by kernel_rfl
theorem wf115 (orc : Orc) (b : List UInt8) (nx e len : Int) (I'' : Int → Int → Prop) (m'' : Int → Int → Nat) (r'' : Ex × St) (h : ∀ (n i : Int), I'' n i → (r115 b nx e n len i).all fun x'' => x'' = .inr r'' ∨ ∃ (n' i' : Int), x'' = .inl (stOf [9, 10, 11, 12, 23, 24] [.str b, .int .i64 nx, .int .i64 e, .int .u32 n', .int .i64 len, .int .i64 i'] []) ∧ I'' n' i' ∧ m'' n' i' < m'' n i) (lp : Lp) (n i : Int) : I'' n i →
    U3 (fun st => evC T0 orc lp b115 0 st (X1 [9, 10, 11, 12, 23, 24] [10, 11, 12] 0)) (stOf [9, 10, 11, 12, 23, 24] [.str b, .int .i64 nx, .int .i64 e, .int .u32 n, .int .i64 len, .int .i64 i] []) = some r'' :=
 U6 (fun a'' : Int × Int => stOf [9, 10, 11, 12, 23, 24] [.str b, .int .i64 nx, .int .i64 e, .int .u32 a''.1, .int .i64 len, .int .i64 a''.2] []) (fun a'' => I'' a''.1 a''.2) (fun a'' => m'' a''.1 a''.2) r'' (fun a'' => r115 b nx e a''.1 len a''.2)
  (fun a'' x hx => (X3g orc lp b nx e a''.1 len a''.2).trans hx) (fun a'' ha => Tr.all_mono (fun x'' hx => hx.imp id fun ⟨n', i', h1, h2, h3⟩ => ⟨(n', i'), h1, h2, h3⟩) (h (a''.1) (a''.2) ha)) (n, i)
theorem Z49 (orc : Orc) : J3l.Ok T0 orc h115 0 0 b115 := by
 intro q'' hq'' x'' y'' r'' h
 obtain ⟨(b : List UInt8), (nx : Int), (e : Int), (n : Int), (len : Int), (i : Int), _⟩ := x''
 obtain ⟨hc, rfl⟩ := Tr.get_on h
 show U3 (fun st => evC T0 orc (lpN T0 orc h115 0 q'') b115 0 st (X1 [9, 10, 11, 12, 23, 24] [10, 11, 12] 0)) (stOf [9, 10, 11, 12, 23, 24] [.str b, .int .i64 nx, .int .i64 e, .int .u32 n, .int .i64 len, .int .i64 i] []) = some (.exit 0, stOf [10, 11, 12] ([.int .i64 nx, .int .i64 e, .int .u32 (numB b)]) ([]))
 simp only [nbC4, Bool.and_eq_true, decide_eq_true_eq] at hc
 obtain ⟨rfl, rfl, rfl, h2⟩ := hc
 refine wf115 _ b nx e b.length (nbI b) (fun _ i => (b.length - i).toNat) _ ?_ _ 0 0 ⟨by omega, by omega, by simp [numB]⟩
 rintro n i ⟨h0, h1, rfl⟩
 unfold r115
 by_cases hlt : i < b.length
 · refine Tr.all_t (X0 hlt) (Tr.all_t (X0 h0) (Tr.all_t (X0 hlt) (Tr.all_ret (.inr ⟨_, _, rfl, ?_, ?_⟩))))
   · rw [IntWalk.i64_in _ (by omega)]
     exact ⟨by omega, by omega, by rw [show (i + 1).toNat = i.toNat + 1 by omega]; exact X3s (by omega) h2⟩
   · rw [IntWalk.i64_in _ (by omega)]
     omega
 · refine Tr.all_f (Q0 hlt) (Tr.all_ret (.inl ?_))
   rw [List.take_of_length_le (by omega)]
def t115 (s : List UInt8) (at_ many : Int) : Tr Res := .br (bigS s) (.br (Q1 s at_ many) (.br (nbC4 (U1 s at_ many) 0 (↑(List.length (U1 s at_ many)) : Int) 0) (.ret ([.int .u32 (numB (U1 s at_ many)), .int .i64 (at_ + many), .int .i64 0], [])) .no) (.ret ([.int .u32 (numB []), .int .i64 0, .int .i64 2], []))) .no
def os115 : OSpec := { f := 115, sh := [.d .str false, .d (.int .i64) false, .d (.int .i64) false], so := [], F := fun (s, at_, many, _) _ => t115 s at_ many }
theorem fn115 (s : List UInt8) (at_ many : Int) : evC T0 (orcB [Qg] []) (lpOf h115 0 (lsOf [J3l])) c115 1000000 (V1 [.str s, .int .i64 at_, .int .i64 many] [] Try.f115.ntmps) (Z1 T0 false 0 Try.f115) = (t115 s at_ many).get := by kernel_rfl
theorem ok115 : os115.Ok Try.prog := by
 refine J4 U2 tab0 (U0 (all_cons Q0u all_nil) all_nil) h115 (d := 0) (n0 := 0) (S := lsOf [J3l]) Try.func115 (by kernel_rfl) (c := c115) (by kernel_rfl) rfl (J6 (xs := [(0, b115)]) (by kernel_rfl) (all_cons (V7 (Z49 _)) all_nil)) (by omega) (by kernel_rfl) ?_
 intro x'' y'' q'' hq''
 obtain ⟨(s : List UInt8), (at_ : Int), (many : Int), _⟩ := x''
 exact (fn115 s at_ many).trans hq''
def Q4o : FSpec := fsT 115 [(.str, false), ((.int .i64), false), ((.int .i64), false)] [((.int .u32), false), ((.int .i64), false), ((.int .i64), false)] fun (s, at_, many, _) => t115 s at_ many
theorem Z4z : Q4o.Ok Try.prog := J7 fun x'' r'' hr'' => ok115 x'' () r'' hr''
def t87 (s : List UInt8) (at_ : Int) : Tr Res := .br (bigS s) (.br (Q1 s at_ 4) (.br (nbC4 (U1 s at_ 4) 0 (↑(List.length (U1 s at_ 4)) : Int) 0) (.ret ([.int .u32 (numB (U1 s at_ 4)), .int .i64 (at_ + 4), .int .i64 0], [])) .no) (.ret ([.int .u32 (numB []), .int .i64 0, .int .i64 2], []))) .no
def os87 : OSpec := { f := 87, sh := [.d .str false, .d (.int .i64) false], so := [], F := fun (s, at_, _) _ => t87 s at_ }
theorem fn87 (s : List UInt8) (at_ : Int) : evC T0 (orcB [Q4o] []) (lpOf h87 0 (lsOf [])) c87 1000000 (V1 [.str s, .int .i64 at_] [] Try.f87.ntmps) (Z1 T0 false 0 Try.f87) = (t87 s at_).get := by kernel_rfl
theorem ok87 : os87.Ok Try.prog := by
 refine J4 U2 tab0 (U0 (all_cons Z4z all_nil) all_nil) h87 (d := 0) (n0 := 0) (S := lsOf []) Try.func87 (by kernel_rfl) (c := c87) (by kernel_rfl) rfl (Z3 (by kernel_rfl)) (by omega) (by kernel_rfl) ?_
 intro x'' y'' q'' hq''
 obtain ⟨(s : List UInt8), (at_ : Int), _⟩ := x''
 exact (fn87 s at_).trans hq''
def fs87 : FSpec := fsT 87 [(.str, false), ((.int .i64), false)] [((.int .u32), false), ((.int .i64), false), ((.int .i64), false)] fun (s, at_, _) => t87 s at_
theorem okf87 : fs87.Ok Try.prog := J7 fun x'' r'' hr'' => ok87 x'' () r'' hr''
def n32 (s : List UInt8) (at_ : Int) : Int := n16 s at_ * 65536 + n16 s (at_ + 2)
theorem X4m {s : List UInt8} {at_ : Int} (h : Q1 s at_ 4 = true) : U1 s at_ 4 = [s.getD at_.toNat 0, s.getD (at_.toNat + 1) 0, s.getD (at_.toNat + 2) 0, s.getD (at_.toNat + 3) 0] := by
 simp only [Q1, Bool.and_eq_true, decide_eq_true_eq] at h
 unfold U1
 rw [Jw s at_.toNat 0 (by omega), Jw s (at_.toNat + 1) 0 (by omega), Jw s (at_.toNat + 2) 0 (by omega), Jw s (at_.toNat + 3) 0 (by omega)]
 rfl
theorem X01 (s : List UInt8) (a : Int) : 0 ≤ n16 s a ∧ n16 s a ≤ 65535 := by
 have h1 := V0h (s.getD a.toNat 0)
 have h2 := V0h (s.getD (a.toNat + 1) 0)
 unfold n16
 omega
def V30 : FSpec := fs87.like fun (s, at_, _) => .br (bigS s) (.br (Q1 s at_ 4) (.ret (n32 s at_, at_ + 4, (0 : Int), ())) (.ret ((0 : Int), (0 : Int), (2 : Int), ()))) .no
theorem J2l : V30.Ok Try.prog := by
 refine Z4 okf87 _ ?_
 rintro ⟨(s : List UInt8), (at_ : Int), _⟩ y h
 simp only [Tr.get] at h
 cases hb : bigS s with
 | false => rw [hb] at h; cases h
 | true =>
   rw [hb, cond_true] at h
   cases hs : Q1 s at_ 4 with
   | true =>
     rw [hs, cond_true] at h
     cases h
     have hi : at_ + 4 ≤ s.length ∧ 0 ≤ at_ := by simp only [Q1, Bool.and_eq_true, decide_eq_true_eq] at hs; omega
     have hc := X01 s at_
     have hd := X01 s (at_ + 2)
     refine V3 (vs := [.int .u32 (n32 s at_), .int .i64 (at_ + 4), .int .i64 0]) rfl rfl (Tr.get_of_all ?_)
     show (t87 s at_).all _
     unfold t87
     refine Tr.all_t hb (Tr.all_t hs ?_)
     have hn : numB (U1 s at_ 4) = n32 s at_ := by
      rw [X4m hs]
      unfold n32 n16
      rw [show (at_ + 2).toNat = at_.toNat + 2 by omega, show at_.toNat + 2 + 1 = at_.toNat + 3 from rfl]
      simp only [numB, List.foldl_cons, List.foldl_nil]
      omega
     have hl : (U1 s at_ 4).length = 4 := by rw [X4m hs]; rfl
     refine Tr.all_t (by unfold nbC4; rw [hl]; simp) (Tr.all_ret ?_)
     rw [hn]
   | false =>
     rw [hs, cond_false] at h
     cases h
     refine V3 (vs := [.int .u32 0, .int .i64 0, .int .i64 2]) rfl rfl (Tr.get_of_all ?_)
     show (t87 s at_).all _
     exact Tr.all_t hb (Tr.all_f hs (Tr.all_ret rfl))
def t32 (r : RRt) : Tr Res := .br (bigS r.1) (.br (mayV r.1) (.br (bigS r.2.2.2.2) (.ret ([.bool (mayR r.2.1 r.2.2.2.2)], [])) .no) (.ret ([.bool false], []))) .no
def os32 : OSpec := { f := 32, sh := [.d RR true], so := [], F := fun (r, _) _ => t32 r }
theorem fn32 (r : RRt) : evC T0 (orcB [Z0l, U02] []) (lpOf h32 0 (lsOf [])) c32 1000000 (V1 [AV.ofTy RR r true] [] Try.f32.ntmps) (Z1 T0 false 0 Try.f32) = (t32 r).get := by kernel_rfl
theorem ok32 : os32.Ok Try.prog := by
 refine J4 U2 tab0 (U0 (all_cons Q1x (all_cons U25 all_nil)) all_nil) h32 (d := 0) (n0 := 0) (S := lsOf []) Try.func32 (by kernel_rfl) (c := c32) (by kernel_rfl) rfl (Z3 (by kernel_rfl)) (by omega) (by kernel_rfl) ?_
 intro x'' y'' q'' hq''
 obtain ⟨(r : RRt), _⟩ := x''
 exact (fn32 r).trans hq''
def fs32 : FSpec := fsT 32 [(RR, true)] [(.bool, false)] fun (r, _) => t32 r
theorem okf32 : fs32.Ok Try.prog := J7 fun x'' r'' hr'' => ok32 x'' () r'' hr''
def t59 (q : QQt) : Tr Res := .br (bigS q.1) (.ret ([.bool (mayV q.1)], [])) .no
def os59 : OSpec := { f := 59, sh := [.d QQ true], so := [], F := fun (q, _) _ => t59 q }
theorem fn59 (q : QQt) : evC T0 (orcB [Z0l, U02] []) (lpOf h59 0 (lsOf [])) c59 1000000 (V1 [AV.ofTy QQ q true] [] Try.f59.ntmps) (Z1 T0 false 0 Try.f59) = (t59 q).get := by kernel_rfl
theorem ok59 : os59.Ok Try.prog := by
 refine J4 U2 tab0 (U0 (all_cons Q1x (all_cons U25 all_nil)) all_nil) h59 (d := 0) (n0 := 0) (S := lsOf []) Try.func59 (by kernel_rfl) (c := c59) (by kernel_rfl) rfl (Z3 (by kernel_rfl)) (by omega) (by kernel_rfl) ?_
 intro x'' y'' q'' hq''
 obtain ⟨(q : QQt), _⟩ := x''
 exact (fn59 q).trans hq''
def fs59 : FSpec := fsT 59 [(QQ, true)] [(.bool, false)] fun (q, _) => t59 q
theorem okf59 : fs59.Ok Try.prog := J7 fun x'' r'' hr'' => ok59 x'' () r'' hr''
def recV (r : RRt) : Bool := mayV r.1 && mayR r.2.1 r.2.2.2.2
def V03 (r : RRt) : Bool := bigS r.1 && bigS r.2.2.2.2
def Z2g : FSpec := fs32.like fun (r, _) => .on (V03 r) (recV r, ())
theorem X25 : Z2g.Ok Try.prog := by
 refine Z4 okf32 _ ?_
 rintro ⟨(r : RRt), _⟩ y h
 obtain ⟨hb, rfl⟩ := Tr.get_on h
 obtain ⟨h1, h2⟩ := Bool.and_eq_true_iff.1 (show (bigS r.1 && bigS r.2.2.2.2) = true from hb)
 refine V3 (vs := [.bool (recV r)]) rfl rfl (Tr.get_of_all ?_)
 show (t32 r).all _
 unfold t32 recV
 refine Tr.all_t h1 (Tr.all_br (fun c => Tr.all_t h2 (Tr.all_ret (by rw [c]; rfl))) fun c => Tr.all_ret (by rw [c]; rfl))
def Z2c : FSpec := fs59.like fun (q, _) => .on (bigS q.1) (mayV q.1, ())
theorem V23 : Z2c.Ok Try.prog := by
 refine Z4 okf59 _ ?_
 rintro ⟨(q : QQt), _⟩ y h
 obtain ⟨hb, rfl⟩ := Tr.get_on h
 refine V3 (vs := [.bool (mayV q.1)]) rfl rfl (Tr.get_of_all ?_)
 exact Tr.all_t hb (Tr.all_ret rfl)
def X1q : List Int → Bool
 | [] => true
 | x :: ps => ((x == -1 || decide (0 ≤ x)) || ((x == -2 || x == -3) && ps.isEmpty)) && X1q ps
theorem Z30 (k : Int) : X1q (layV k) = true := by
 unfold layV
 repeat' split
 all_goals decide
def V16 : List Int → List (List UInt8) → Prop
 | [], [] => True
 | x :: ps, y :: ls => ((x = -1 ∧ mayV y = true) ∨ x = (y.length : Int) ∨ ((x = -2 ∨ x = -3) ∧ ps = [])) ∧ V16 ps ls
 | _, _ => False
theorem J15 : ∀ (ps : List Int) (d : List UInt8) (out : List (List UInt8)), X1q ps = true → (cutS ps d out).1 = true → ∃ l, (cutS ps d out).2.2 = out ++ l ∧ V16 ps l
 | [], d, out, _, _ => ⟨[], by simp [cutS], trivial⟩
 | x :: ps, d, out, hl, h => by
   unfold cutS at h ⊢
   simp only [X1q, Bool.and_eq_true, Bool.or_eq_true, beq_iff_eq, decide_eq_true_eq, List.isEmpty_iff] at hl
   by_cases ho : okP x d = true
   · rw [if_pos ho] at h ⊢
     obtain ⟨l, h1, h2⟩ := J15 ps _ _ hl.2 h
     refine ⟨d.take (szP x d).toNat :: l, by rw [h1, List.append_assoc]; rfl, ?_, h2⟩
     rcases hl.1 with (rfl | h0) | h3
     · obtain ⟨e1, e2⟩ := U3j d
       rw [e2] at ho
       rw [e1, Int.toNat_natCast]
       exact .inl ⟨rfl, X3b (by simpa using ho)⟩
     · obtain ⟨e1, e2⟩ := Q4g h0 d
       rw [e2, decide_eq_true_eq] at ho
       rw [e1]
       refine .inr (.inl ?_)
       rw [List.length_take]
       omega
     · exact .inr (.inr h3)
   · rw [if_neg ho] at h
     cases h
theorem Q05 : ∀ (ps : List Int) (ls : List (List UInt8)) (p : PKt), V16 ps ls → PI p.1 p.2 → PI (putS ps ls p).1 (putS ps ls p).2 ∧ ∃ T, (putS ps ls p).1 = p.1 ++ T
 | [], [], p, _, h => ⟨h, [], by simp [putS]⟩
 | x :: ps, y :: ls, p, ho, h => by
   rw [putS]
   simp only [List.tail_cons, List.headD_cons]
   cases hx : x == -1 with
   | true =>
     rw [cond_true]
     have hs : ∃ T, (stN p (y, false)).1 = p.1 ++ T ∧ PI (stN p (y, false)).1 (stN p (y, false)).2 := by
      unfold stN
      cases hm : mayV y with
      | false => exact ⟨[], by simp, by simpa using h⟩
      | true =>
        obtain ⟨T, N', a1, a2, a3, _⟩ := V0q hm h
        refine ⟨T, a1, ?_⟩
        rw [cond_true]
        simp only
        rw [a1, a2]
        exact a3
     obtain ⟨T, t1, t2⟩ := hs
     obtain ⟨q1, X, q2⟩ := Q05 ps ls (stN p (y, false)) ho.2 t2
     exact ⟨q1, T ++ X, by rw [q2, t1, List.append_assoc]⟩
   | false =>
     rw [cond_false]
     obtain ⟨q1, X, q2⟩ := Q05 ps ls (p.1 ++ y, p.2) ho.2 (h.mono y)
     exact ⟨q1, y ++ X, by rw [q2, List.append_assoc]⟩
 | [], _ :: _, _, ho, _ => ho.elim
 | _ :: _, [], _, ho, _ => ho.elim
theorem J3p (A y X : List UInt8) : U1 (A ++ (y ++ X)) (A.length : Int) (y.length : Int) = y := by
 unfold U1
 rw [Int.toNat_natCast, Int.toNat_natCast, List.drop_left, List.take_left]
theorem Z0x : ∀ (ps : List Int) (ls : List (List UInt8)) (p : PKt) (X d0 : List UInt8), V16 ps ls → X1q ps = true → PI p.1 p.2 →
    X5 ps ((putS ps ls p).1 ++ X) (p.1.length : Int) ((putS ps ls p).1.length : Int) d0 = (true, ((putS ps ls p).1.length : Int), d0 ++ ls.flatten)
 | [], [], p, X, d0, _, _, h => by simp [X5, putS]
 | x :: ps, y :: ls, p, X, d0, ho, hl, h => by
   simp only [X1q, Bool.and_eq_true] at hl
   obtain ⟨_, Tall, hall⟩ := Q05 (x :: ps) (y :: ls) p ho h
   by_cases hx : x = -1
   · subst hx
     have hm : mayV y = true := by
      rcases ho.1 with h | h | ⟨h, _⟩
      · exact h.2
      · omega
      · omega
     obtain ⟨T, N', a1, a2, a3, a4⟩ := V0q hm h
     have hs : stN p (y, false) = J3 y p.1 p.2 := by unfold stN; rw [hm]; rfl
     have hp : putS (-1 :: ps) (y :: ls) p = putS ps ls (J3 y p.1 p.2) := by rw [putS]; simp only [List.tail_cons, List.headD_cons, beq_self_eq_true, cond_true, hs]
     have hPI : PI (J3 y p.1 p.2).1 (J3 y p.1 p.2).2 := by rw [a1, a2]; exact a3
     obtain ⟨_, X2, hX2⟩ := Q05 ps ls (J3 y p.1 p.2) ho.2 hPI
     rw [hp]
     have hg : J5 ((putS ps ls (J3 y p.1 p.2)).1 ++ X) (p.1.length : Int) (p.1.length : Int) (-1) [] = some (y, ((J3 y p.1 p.2).1.length : Int)) := by
      rw [hX2, a1, List.append_assoc]
      have := J1k (a4.mono (X2 ++ X)) (-1) [] (by have := (Vg.1 hm).2.1; simpa using this)
      simpa using this
     rw [Q41 hg, if_neg (by rw [hX2, List.length_append]; omega)]
     have := Z0x ps ls (J3 y p.1 p.2) X (d0 ++ y) ho.2 hl.2 hPI
     rw [this, List.flatten_cons, List.append_assoc]
   · have hxb : (x == -1) = false := beq_eq_false_iff_ne.2 hx
     have hp : putS (x :: ps) (y :: ls) p = putS ps ls (p.1 ++ y, p.2) := by rw [putS, hxb]; rfl
     have hPI := h.mono y
     obtain ⟨_, X2, hX2⟩ := Q05 ps ls (p.1 ++ y, p.2) ho.2 hPI
     rw [hp]
     have hlen : ((putS ps ls (p.1 ++ y, p.2)).1).length = p.1.length + y.length + X2.length := by rw [hX2]; simp; omega
     have hsz : (if x = -2 ∨ x = -3 then ((putS ps ls (p.1 ++ y, p.2)).1.length : Int) - (p.1.length : Int) else x) = (y.length : Int) := by
      rcases ho.1 with h1 | h1 | ⟨h1, h2⟩
      · exact absurd h1.1 hx
      · rw [if_neg (by omega)]; exact h1
      · subst h2
        rw [if_pos h1]
        cases ls with
        | nil =>
          show (((p.1 ++ y).length : Int) - (p.1.length : Int)) = (y.length : Int)
          rw [List.length_append]
          omega
        | cons _ _ => exact ho.2.elim
     rw [X5, if_neg hx, hsz]
     have hS : (putS ps ls (p.1 ++ y, p.2)).1 ++ X = p.1 ++ (y ++ (X2 ++ X)) := by rw [hX2]; simp
     have hv : U1 ((putS ps ls (p.1 ++ y, p.2)).1 ++ X) (p.1.length : Int) (y.length : Int) = y := by rw [hS, J3p]
     rw [hv, if_pos ⟨J9.2 (by rw [List.length_append, hlen]; omega), by omega⟩]
     have := Z0x ps ls (p.1 ++ y, p.2) X (d0 ++ y) ho.2 hl.2 hPI
     rw [show (p.1.length : Int) + (y.length : Int) = ((p.1 ++ y, p.2).1.length : Int) by simp, this, List.flatten_cons, List.append_assoc]
 | [], _ :: _, _, _, _, ho, _, _ => ho.elim
 | _ :: _, [], _, _, _, ho, _, _ => ho.elim
theorem Z37 {k : Int} {d : List UInt8} {p : PKt} (hm : mayR k d = true) (h : PI p.1 p.2) (X : List UInt8) : PI (putR k d p).1 (putR k d p).2 ∧ (∃ T, (putR k d p).1 = p.1 ++ T) ∧
    Vx ((putR k d p).1 ++ X) (p.1.length : Int) (((putR k d p).1.length : Int) - (p.1.length : Int)) k = some d := by
 obtain ⟨m1, m2, m3, m4, m5, m6⟩ := Q06 hm
 obtain ⟨l, c1, c2⟩ := J15 (layV k) d [] (Z30 k) m1
 have hl : Ji k d = l := c1
 obtain ⟨q1, T, q2⟩ := Q05 (layV k) (Ji k d) p (by rw [hl]; exact c2) h
 refine ⟨q1, ⟨T, q2⟩, ?_⟩
 have hT := Z0x (layV k) (Ji k d) p X [] (by rw [hl]; exact c2) (Z30 k) h
 unfold Vx putR
 have hlen : (putS (layV k) (Ji k d) p).1.length = p.1.length + T.length := by rw [q2, List.length_append]
 rw [if_pos (J9.2 (by rw [List.length_append]; omega)), show (p.1.length : Int) + (((putS (layV k) (Ji k d) p).1.length : Int) - (p.1.length : Int)) = ((putS (layV k) (Ji k d) p).1.length : Int) by omega, hT, m6, List.nil_append]
 exact if_pos ⟨rfl, rfl, hm⟩
theorem Q1k : ∀ (ps : List Int) (ls : List (List UInt8)) (p : PKt), kOk p.2 = true → kOk (putS ps ls p).2 = true ∧ (putS ps ls p).1.length ≤ p.1.length + ls.flatten.length
 | [], _, p, h => ⟨h, by simp [putS]⟩
 | x :: ps, ls, p, h => by
   rw [putS]
   have hl : ls.flatten.length = (ls.headD []).length + ls.tail.flatten.length := by cases ls <;> simp
   cases hx : x == -1 with
   | true =>
     obtain ⟨k1, k2⟩ := J3w (p := p) (x := (ls.headD [], false)) h
     obtain ⟨q1, q2⟩ := Q1k ps ls.tail (stN p (ls.headD [], false)) k1
     refine ⟨q1, ?_⟩
     rw [cond_true, hl]
     have k2 : (stN p (ls.headD [], false)).1.length ≤ p.1.length + (ls.headD []).length := k2
     omega
   | false =>
     obtain ⟨q1, q2⟩ := Q1k ps ls.tail (p.1 ++ ls.headD [], p.2) h
     refine ⟨q1, ?_⟩
     rw [cond_false, hl]
     have q2 : (putS ps ls.tail (p.1 ++ ls.headD [], p.2)).1.length ≤ (p.1 ++ ls.headD []).length + ls.tail.flatten.length := q2
     rw [List.length_append] at q2
     omega
def TN : Tab := { T0 with nild := true }
theorem tabN : Q4 Try.prog TN := X3c tab0 _ _
theorem J27 {p : PKt} {n : List UInt8} (hm : mayV n = true) (hk : kOk p.2 = true) : kOk (J3 n p.1 p.2).2 = true ∧ (J3 n p.1 p.2).1.length ≤ p.1.length + n.length ∧ (J3 n p.1 p.2).2.length ≤ p.2.length + n.length := by
 have hk2 := (J3w (p := p) (x := (n, false)) hk).1
 unfold stN at hk2
 rw [show mayV (n, false).1 = true from hm, cond_true] at hk2
 obtain ⟨l1, _, l3⟩ := Q07 _ n p.1 p.2 rfl (Vg.1 hm).1
 exact ⟨hk2, by omega, by omega⟩
theorem X0y : ∀ (ps : List Int) (ls : List (List UInt8)) (p : PKt), (putS ps ls p).2.length ≤ p.2.length + ls.flatten.length
 | [], _, p => by simp [putS]
 | x :: ps, ls, p => by
   rw [putS]
   have hl : ls.flatten.length = (ls.headD []).length + ls.tail.flatten.length := by cases ls <;> simp
   cases hx : x == -1 with
   | true =>
     have q2 := X0y ps ls.tail (stN p (ls.headD [], false))
     rw [cond_true, hl]
     have k2 : (stN p (ls.headD [], false)).2.length ≤ p.2.length + (ls.headD []).length := by
      show (bif mayV (ls.headD []) then J3 (ls.headD []) p.1 p.2 else p).2.length ≤ _
      cases hm : mayV (ls.headD []) with
      | false => rw [cond_false]; omega
      | true =>
        rw [cond_true]
        obtain ⟨_, _, l3⟩ := Q07 _ (ls.headD []) p.1 p.2 rfl (Vg.1 hm).1
        omega
     omega
   | false =>
     have q2 : (putS ps ls.tail (p.1 ++ ls.headD [], p.2)).2.length ≤ p.2.length + ls.tail.flatten.length := X0y ps ls.tail (p.1 ++ ls.headD [], p.2)
     rw [cond_false, hl]
     omega
theorem Q27 {k : Int} {d : List UInt8} {p : PKt} (hm : mayR k d = true) (hk : kOk p.2 = true) : kOk (putR k d p).2 = true ∧ (putR k d p).1.length ≤ p.1.length + d.length ∧ (putR k d p).2.length ≤ p.2.length + d.length := by
 obtain ⟨q1, q2⟩ := Q1k (layV k) (Ji k d) p hk
 have q3 := X0y (layV k) (Ji k d) p
 rw [(Q06 hm).2.2.2.2.2] at q2 q3
 exact ⟨q1, q2, q3⟩
theorem Q44 (n : Int) : IntKind.wrap .u16 n = n % 65536 := IntKind.wrap_u16 n
def U0e (b : List Int) (a : Int) : List Int := b.take (a - 2).toNat ++ J0 (V0 (((b.length : Int) - a) % 65536)) ++ b.drop a.toNat
def Z3o : OSpec := Q4p.like fun _ (_, b, l, _) => .on (Nat.ble b.length 100000000000) ([.int .i64 ((b.length : Int) + 2)], pkO (b ++ [0, 0]) l)
theorem J4y : Z3o.Ok Try.prog := by
 refine Jj ok141 _ ?_
 rintro _ ⟨_, (b : List Int), (l : X6), _⟩ r h
 obtain ⟨hb, rfl⟩ := Tr.get_on h
 have hb := Nat.le_of_ble_eq_true hb
 refine Tr.get_of_all ?_
 show (t141 b l).all _
 have e : J0 (V0 0) = [0, 0] := by decide
 unfold t141
 rw [e]
 refine Tr.all_t (X7 (by simp [V9]; omega) (by simp [V9]; omega)) (Tr.all_ret ?_)
 simp
def V3i : OSpec := J4r.like fun (a, _) (_, b, l, _) => .br (Nat.ble b.length 100000000000) (.br (decide (2 ≤ a) && decide (a ≤ (b.length : Int))) (.ret ([.int .i64 0], pkO (U0e b a) l)) (.ret ([.int .i64 1], pkO b l))) .no
theorem Q4s : V3i.Ok Try.prog := by
 refine Jj ok143 _ ?_
 rintro ⟨(a : Int), _⟩ ⟨_, (b : List Int), (l : X6), _⟩ r h
 simp only [Tr.get] at h
 cases hb : Nat.ble b.length 100000000000 with
 | false => rw [hb] at h; cases h
 | true =>
   rw [hb, cond_true] at h
   have hb := Nat.le_of_ble_eq_true hb
   refine Tr.get_of_all ?_
   show (t143 a b l).all _
   unfold t143
   by_cases h2 : 2 ≤ a
   · by_cases h3 : a ≤ (b.length : Int)
     · rw [X0 h2, X0 h3] at h
       cases h
       have hw := Q44 ((b.length : Int) - a)
       rw [IntWalk.i64_in (a - 2) (by omega), IntWalk.i64_in ((b.length : Int) - a) (by omega), hw]
       refine Tr.all_f (Q0 (by omega)) (Tr.all_f (Q0 (by omega)) (Tr.all_t (by rw [X0 (by omega), X0 (by omega)]; rfl) (Tr.all_t (by rw [X0 (by omega), X0 (by omega)]; rfl) (Tr.all_t ?_ (Tr.all_ret ?_)))))
       · simp [n16C]; omega
       · unfold U0e
         rw [show a.toNat - (a - 2).toNat = 2 by omega, V9, show min 2 2 = 2 from rfl, show (a - 2).toNat + 2 = a.toNat by omega, List.take_of_length_le (l := J0 (V0 _)) (by rw [Z2, V9]; exact Nat.le_refl _)]
     · rw [X0 h2, Q0 h3] at h
       cases h
       exact Tr.all_f (Q0 (by omega)) (Tr.all_t (X0 (by omega)) (Tr.all_ret rfl))
   · rw [Q0 h2] at h
     cases h
     exact Tr.all_t (X0 (by omega)) (Tr.all_ret rfl)
def btC4 (n many m i : Int) (b : List Int) : Bool := decide (many = 4) && (decide (m = 4) && (decide (i = 0) && decide (b = [0, 0, 0, 0])))
def byN4 (n : Int) (k : Nat) : Int := IntKind.wrap .u8 (Int.fdiv n (2 ^ (8 * k)))
noncomputable def Q2d : Code := U5 c121 0
def J2s : LoopSpec := { bid := 0, sh := [.d (.int .u32) false, .d (.int .i64) false, .row 0, .d (.int .i64) false, .d (.int .i64) false], so := [.row (.int .u8)], F := fun (n, many, m, i, _) (b, _) => .on (btC4 n many m i b) (.exit 0, [.rowA 0], [.row (.int .u8) [byN4 n 3, byN4 n 2, byN4 n 1, byN4 n 0]]) }
def X3w (n many m i : Int) (b : List Int) : Tr (St ⊕ (Ex × St)) := .br (decide (i < m)) (.br (decide (0 ≤ IntKind.wrap .i64 (8 * i))) (.br (decide (0 ≤ IntKind.wrap .i64 (IntKind.wrap .i64 (many - 1) - i))) (.br (decide (IntKind.wrap .i64 (IntKind.wrap .i64 (many - 1) - i) < (↑b.length : Int))) (.ret (.inl (stOf [0, 1, 5, 9, 10] [.int .u32 n, .int .i64 many, .rowA 0, .int .i64 m, .int .i64 (IntKind.wrap .i64 (i + 1))] [.row (.int .u8) (List.set b (Int.toNat (IntKind.wrap .i64 (IntKind.wrap .i64 (many - 1) - i))) (IntKind.wrap .u8 (Int.fdiv n (2 ^ min (Int.toNat (IntKind.wrap .i64 (8 * i))) (IntKind.bits IntKind.u32)))))]))) .no) .no) .no) (.ret (.inr (.exit 0, stOf [5] [.rowA 0] [.row (.int .u8) b])))
theorem Z38 (orc : Orc) (lp : Lp) (n many m i : Int) (b : List Int) : evC T0 orc lp Q2d 0 (stOf [0, 1, 5, 9, 10] [.int .u32 n, .int .i64 many, .rowA 0, .int .i64 m, .int .i64 i] [.row (.int .u8) b]) (X1 [0, 1, 5, 9, 10] [5] 0) = (X3w n many m i b).get := by kernel_rfl
theorem Q4v (orc : Orc) (n many m : Int) (I'' : Int → List Int → Prop) (m'' : Int → List Int → Nat) (r'' : Ex × St) (h : ∀ (i : Int) (b : List Int), I'' i b → (X3w n many m i b).all fun x'' => x'' = .inr r'' ∨ ∃ (i' : Int) (b' : List Int), x'' = .inl (stOf [0, 1, 5, 9, 10] [.int .u32 n, .int .i64 many, .rowA 0, .int .i64 m, .int .i64 i'] [.row (.int .u8) b']) ∧ I'' i' b' ∧ m'' i' b' < m'' i b) (lp : Lp) (i : Int) (b : List Int) : I'' i b →
    U3 (fun st => evC T0 orc lp Q2d 0 st (X1 [0, 1, 5, 9, 10] [5] 0)) (stOf [0, 1, 5, 9, 10] [.int .u32 n, .int .i64 many, .rowA 0, .int .i64 m, .int .i64 i] [.row (.int .u8) b]) = some r'' :=
 U6 (fun a'' : Int × List Int => stOf [0, 1, 5, 9, 10] [.int .u32 n, .int .i64 many, .rowA 0, .int .i64 m, .int .i64 a''.1] [.row (.int .u8) a''.2]) (fun a'' => I'' a''.1 a''.2) (fun a'' => m'' a''.1 a''.2) r'' (fun a'' => X3w n many m a''.1 a''.2)
  (fun a'' x hx => (Z38 orc lp n many m a''.1 a''.2).trans hx) (fun a'' ha => Tr.all_mono (fun x'' hx => hx.imp id fun ⟨i', b', h1, h2, h3⟩ => ⟨(i', b'), h1, h2, h3⟩) (h (a''.1) (a''.2) ha)) (i, b)
theorem Z19 {n : Int} (h : 0 ≤ n) (k : Nat) : Int.fdiv n (2 ^ k) = n / 2 ^ k := Int.fdiv_eq_ediv_of_nonneg _ (by have : (0 : Int) < 2 ^ k := Int.pow_pos (by omega); omega)
theorem V3u (orc : Orc) : J2s.Ok T0 orc h121 0 0 Q2d := by
 intro q'' hq'' x'' y'' r'' h
 obtain ⟨(n : Int), (many : Int), (m : Int), (i : Int), _⟩ := x''
 obtain ⟨(b : List Int), _⟩ := y''
 obtain ⟨hc, rfl⟩ := Tr.get_on h
 show U3 (fun st => evC T0 orc (lpN T0 orc h121 0 q'') Q2d 0 st (X1 [0, 1, 5, 9, 10] [5] 0)) (stOf [0, 1, 5, 9, 10] [.int .u32 n, .int .i64 many, .rowA 0, .int .i64 m, .int .i64 i] [.row (.int .u8) b]) = some (.exit 0, stOf [5] ([.rowA 0]) ([.row (.int .u8) [byN4 n 3, byN4 n 2, byN4 n 1, byN4 n 0]]))
 simp only [btC4, Bool.and_eq_true, decide_eq_true_eq] at hc
 obtain ⟨rfl, rfl, rfl, rfl⟩ := hc
 refine Q4v _ n 4 4 (fun i b => (i = 0 ∧ b = [0, 0, 0, 0]) ∨ (i = 1 ∧ b = [0, 0, 0, byN4 n 0]) ∨ (i = 2 ∧ b = [0, 0, byN4 n 1, byN4 n 0]) ∨ (i = 3 ∧ b = [0, byN4 n 2, byN4 n 1, byN4 n 0]) ∨ (i = 4 ∧ b = [byN4 n 3, byN4 n 2, byN4 n 1, byN4 n 0])) (fun i _ => (4 - i).toNat) _ ?_ _ 0 [0, 0, 0, 0] (.inl ⟨rfl, rfl⟩)
 rintro i b (⟨rfl, rfl⟩ | ⟨rfl, rfl⟩ | ⟨rfl, rfl⟩ | ⟨rfl, rfl⟩ | ⟨rfl, rfl⟩)
 · exact Tr.all_t rfl (Tr.all_t (by decide) (Tr.all_t (by decide) (Tr.all_t (by decide) (Tr.all_ret (.inr ⟨_, _, rfl, .inr (.inl ⟨by decide, rfl⟩), by decide⟩)))))
 · exact Tr.all_t rfl (Tr.all_t (by decide) (Tr.all_t (by decide) (Tr.all_t rfl (Tr.all_ret (.inr ⟨_, _, rfl, .inr (.inr (.inl ⟨by decide, rfl⟩)), by decide⟩)))))
 · exact Tr.all_t rfl (Tr.all_t (by decide) (Tr.all_t (by decide) (Tr.all_t rfl (Tr.all_ret (.inr ⟨_, _, rfl, .inr (.inr (.inr (.inl ⟨by decide, rfl⟩))), by decide⟩)))))
 · exact Tr.all_t rfl (Tr.all_t (by decide) (Tr.all_t (by decide) (Tr.all_t rfl (Tr.all_ret (.inr ⟨_, _, rfl, .inr (.inr (.inr (.inr ⟨by decide, rfl⟩))), by decide⟩)))))
 · exact Tr.all_f rfl (Tr.all_ret (.inl rfl))
def U3f (n many : Int) : Tr Res := .br (decide (0 ≤ many) && many == many && fits many.toNat 1) (.br (btC4 n many many 0 (List.replicate many.toNat (Ty.dflt (Ty.int .u8)))) (.ret ([.str [UInt8.ofNat (Int.toNat (byN4 n 3)), UInt8.ofNat (Int.toNat (byN4 n 2)), UInt8.ofNat (Int.toNat (byN4 n 1)), UInt8.ofNat (Int.toNat (byN4 n 0))]], [])) .no) .no
def Q4t : OSpec := { f := 121, sh := [.d (.int .u32) false, .d (.int .i64) false], so := [], F := fun (n, many, _) _ => U3f n many }
theorem U4v (n many : Int) : evC T0 (orcB [] []) (lpOf h121 0 (lsOf [J2s])) c121 1000000 (V1 [.int .u32 n, .int .i64 many] [] Try.f121.ntmps) (Z1 T0 false 0 Try.f121) = (U3f n many).get := by kernel_rfl
theorem J4u : Q4t.Ok Try.prog := by
 refine J4 U2 tab0 (U0 all_nil all_nil) h121 (d := 0) (n0 := 0) (S := lsOf [J2s]) Try.func121 (by kernel_rfl) (c := c121) (by kernel_rfl) rfl (J6 (xs := [(0, Q2d)]) (by kernel_rfl) (all_cons (V7 (V3u _)) all_nil)) (by omega) (by kernel_rfl) ?_
 intro x'' y'' q'' hq''
 obtain ⟨(n : Int), (many : Int), _⟩ := x''
 exact (U4v n many).trans hq''
def U3k : FSpec := fsT 121 [((.int .u32), false), ((.int .i64), false)] [(.str, false)] fun (n, many, _) => U3f n many
theorem X45 : U3k.Ok Try.prog := J7 fun x'' r'' hr'' => J4u x'' () r'' hr''
def t140 (n : Int) : Tr Res := .ret ([.str [UInt8.ofNat (Int.toNat (byN4 n 3)), UInt8.ofNat (Int.toNat (byN4 n 2)), UInt8.ofNat (Int.toNat (byN4 n 1)), UInt8.ofNat (Int.toNat (byN4 n 0))]], [])
def os140 : OSpec := { f := 140, sh := [.d (.int .u32) false], so := [], F := fun (n, _) _ => t140 n }
theorem fn140 (n : Int) : evC T0 (orcB [U3k] []) (lpOf h140 0 (lsOf [])) c140 1000000 (V1 [.int .u32 n] [] Try.f140.ntmps) (Z1 T0 false 0 Try.f140) = (t140 n).get := by kernel_rfl
theorem ok140 : os140.Ok Try.prog := by
 refine J4 U2 tab0 (U0 (all_cons X45 all_nil) all_nil) h140 (d := 0) (n0 := 0) (S := lsOf []) Try.func140 (by kernel_rfl) (c := c140) (by kernel_rfl) rfl (Z3 (by kernel_rfl)) (by omega) (by kernel_rfl) ?_
 intro x'' y'' q'' hq''
 obtain ⟨(n : Int), _⟩ := x''
 exact (fn140 n).trans hq''
def U4m : FSpec := fsT 140 [((.int .u32), false)] [(.str, false)] fun (n, _) => t140 n
theorem V4u : U4m.Ok Try.prog := J7 fun x'' r'' hr'' => ok140 x'' () r'' hr''
def Q7 (n : Int) : List UInt8 := V0 (n / 65536) ++ V0 (n % 65536)
def n32C (n : Int) : Bool := decide (0 ≤ n) && decide (n ≤ 4294967295)
def Z3z : FSpec := U4m.like fun (n, _) => .on (n32C n) (Q7 n, ())
theorem U4g : Z3z.Ok Try.prog := by
 refine Z4 V4u _ ?_
 rintro ⟨(n : Int), _⟩ y h
 obtain ⟨hc, rfl⟩ := Tr.get_on h
 simp only [n32C, Bool.and_eq_true, decide_eq_true_eq] at hc
 refine V3 (vs := [.str (Q7 n)]) rfl rfl (Tr.get_of_all ?_)
 show (t140 n).all _
 unfold t140
 have e : Z0 [byN4 n 3, byN4 n 2, byN4 n 1, byN4 n 0] = Q7 n := by
  unfold byN4
  rw [Z19 hc.1, Z19 hc.1, Z19 hc.1, Z19 hc.1]
  simp only [IntKind.wrap_u8]
  unfold Z0 Q7 V0
  simp only [List.map_cons, List.map_nil, List.cons_append, List.nil_append]
  have e1 : n / 2 ^ (8 * 3) % 256 = n / 65536 / 256 := by
   rw [show (2 : Int) ^ (8 * 3) = 16777216 from rfl]; omega
  have e2 : n / 2 ^ (8 * 2) % 256 = n / 65536 % 256 := by rw [show (2 : Int) ^ (8 * 2) = 65536 from rfl]
  have e3 : n / 2 ^ (8 * 1) % 256 = n % 65536 / 256 := by rw [show (2 : Int) ^ (8 * 1) = 256 from rfl]; omega
  have e4 : n / 2 ^ (8 * 0) % 256 = n % 65536 % 256 := by rw [show (2 : Int) ^ (8 * 0) = 1 from rfl]; omega
  rw [e1, e2, e3, e4]
 refine Tr.all_ret ?_
 rw [← e]
 rfl
def t101 (q : QQt) (b : List Int) (m : List (List UInt8 × Int)) : Tr Res := .br (bigS q.1) (.br (!mayV q.1) (.ret ([.int .i64 1], [.boxT none [.rowA 1, .mp 2], .row (.int .u8) b, .mpo .str (.int .i64) m])) (.br (pkC b m && Nat.ble q.1.length 100000000000) (.br (mayV q.1) (.br (n16C q.2.1) (.br (n16C q.2.2) (.br (fits (List.length (J0 (J3 q.1 (Z0 b) m).1) + List.length (J0 (V0 q.2.1 ++ V0 q.2.2))) 1) (.ret ([.int .i64 0], [.boxT none [.rowA 1, .mp 2], .row (.int .u8) (J0 (J3 q.1 (Z0 b) m).1 ++ J0 (V0 q.2.1 ++ V0 q.2.2)), .mpo .str (.int .i64) (J3 q.1 (Z0 b) m).2])) .no) .no) .no) (.br (n16C q.2.1) (.br (n16C q.2.2) (.br (fits (List.length b + List.length (J0 (V0 q.2.1 ++ V0 q.2.2))) 1) (.ret ([.int .i64 0], [.boxT none [.rowA 1, .mp 2], .row (.int .u8) (b ++ J0 (V0 q.2.1 ++ V0 q.2.2)), .mpo .str (.int .i64) m])) .no) .no) .no)) .no)) .no
def Z4h : OSpec := { f := 101, sh := [.ptr 0 0, .d QQ true], so := [.box [.row 1, .mp 2], .row (.int .u8), .map .str (.int .i64)], F := fun (q, _) (_, b, m, _) => t101 q b m }
theorem fn101 (q : QQt) (b : List Int) (m : List (List UInt8 × Int)) : evC T0 (orcB [Z2c, Z2g, Xn] [Z0b, os98]) (lpOf h101 3 (lsOf [])) c101 1000000 (V1 [.ptr 0 0, AV.ofTy QQ q true] [.box [.rowA 1, .mp 2], .row (.int .u8) b, .mpo .str (.int .i64) m] Try.f101.ntmps) (Z1 T0 false 3 Try.f101) = (t101 q b m).get := by kernel_rfl
theorem ok101 : Z4h.Ok Try.prog := by
 refine J4 U2 tab0 (U0 (all_cons V23 (all_cons X25 (all_cons Z11 all_nil))) (all_cons U2l (all_cons ok98 all_nil))) h101 (d := 0) (n0 := 3) (S := lsOf []) Try.func101 (by kernel_rfl) (c := c101) (by kernel_rfl) rfl (Z3 (by kernel_rfl)) (by omega) (by kernel_rfl) ?_
 intro x'' y'' q'' hq''
 obtain ⟨(q : QQt), _⟩ := x''
 obtain ⟨_, (b : List Int), (m : List (List UInt8 × Int)), _⟩ := y''
 exact (fn101 q b m).trans hq''
def qOk (q : QQt) : Bool := Nat.ble q.1.length 1000000 && (n16C q.2.1 && n16C q.2.2)
def qB (q : QQt) : List UInt8 := V0 q.2.1 ++ V0 q.2.2
def putQ (q : QQt) (p : PKt) : PKt := ((J3 q.1 p.1 p.2).1 ++ qB q, (J3 q.1 p.1 p.2).2)
theorem J3k (q : QQt) : (qB q).length = 4 := rfl
theorem J2x {q : QQt} : qOk q = true ↔ q.1.length ≤ 1000000 ∧ n16C q.2.1 = true ∧ n16C q.2.2 = true := by
 unfold qOk
 rw [Bool.and_eq_true, Bool.and_eq_true]
 exact ⟨fun ⟨a, b⟩ => ⟨Nat.le_of_ble_eq_true a, b⟩, fun ⟨a, b⟩ => ⟨Nat.ble_eq_true_of_le a, b⟩⟩
theorem Z20 {b : List Int} {m : X6} : pkT b m = true ↔ V5 b = true ∧ kOk m = true ∧ b.length ≤ 1000000000 := by
 unfold pkT
 rw [Bool.and_eq_true, Bool.and_eq_true]
 exact ⟨fun ⟨a, b, c⟩ => ⟨a, b, Nat.le_of_ble_eq_true c⟩, fun ⟨a, b, c⟩ => ⟨a, b, Nat.ble_eq_true_of_le c⟩⟩
def Uw : OSpec := Z4h.like fun (q, _) (_, b, m, _) => .br (pkT b m && qOk q) (.br (mayV q.1) (.ret ([.int .i64 0], pkO (J0 (putQ q (Z0 b, m)).1) (putQ q (Z0 b, m)).2)) (.ret ([.int .i64 1], pkO b m))) .no
theorem Z52 : Uw.Ok Try.prog := by
 refine Jj ok101 _ ?_
 rintro ⟨(q : QQt), _⟩ ⟨_, (b : List Int), (m : X6), _⟩ r h
 simp only [Tr.get] at h
 cases hc : pkT b m && qOk q with
 | false => rw [hc] at h; cases h
 | true =>
   rw [hc, cond_true] at h
   obtain ⟨h1, h2⟩ := Bool.and_eq_true_iff.1 hc
   obtain ⟨b1, b2, b3⟩ := Z20.1 h1
   obtain ⟨q1, q2, q3⟩ := J2x.1 h2
   refine Tr.get_of_all ?_
   show (t101 q b m).all _
   unfold t101
   cases hm : mayV q.1 with
   | false =>
     rw [hm, cond_false] at h
     cases h
     exact Tr.all_t (J0i (by omega)) (Tr.all_t rfl (Tr.all_ret rfl))
   | true =>
     rw [hm, cond_true] at h
     cases h
     obtain ⟨_, k2, _⟩ := J27 (p := (Z0 b, m)) hm b2
     have hl := Xi b
     have k2 : (J3 q.1 (Z0 b) m).1.length ≤ (Z0 b).length + q.1.length := k2
     refine Tr.all_t (J0i (by omega)) (Tr.all_f rfl (Tr.all_t ?_ (Tr.all_t rfl (Tr.all_t q2 (Tr.all_t q3 (Tr.all_t ?_ (Tr.all_ret ?_)))))))
     · unfold pkC
       rw [b1, b2, Nat.ble_eq_true_of_le (by omega), Nat.ble_eq_true_of_le (by omega)]
       rfl
     · have e : (J0 (V0 q.2.1 ++ V0 q.2.2)).length = 4 := rfl
       exact X7 (by rw [Z2, e]; omega) (by rw [Z2, e]; omega)
     · rw [← Zd]
       rfl
def t124 (r : RRt) (b : List Int) (m : List (List UInt8 × Int)) : Tr Res := .br (V03 r) (.br (!recV r) (.ret ([.int .i64 1], [.boxT none [.rowA 1, .mp 2], .row (.int .u8) b, .mpo .str (.int .i64) m])) (.br (pkC b m && Nat.ble r.1.length 100000000000) (.br (mayV r.1) (.br (n16C r.2.1) (.br (n16C r.2.2.1) (.br (n32C r.2.2.2.1) (.br (fits (List.length (J0 (J3 r.1 (Z0 b) m).1) + List.length (J0 (V0 r.2.1 ++ V0 r.2.2.1 ++ Q7 r.2.2.2.1))) 1) (.br (Nat.ble (List.length (J0 (J3 r.1 (Z0 b) m).1 ++ J0 (V0 r.2.1 ++ V0 r.2.2.1 ++ Q7 r.2.2.2.1))) 100000000000) (.br (pkT (J0 (J3 r.1 (Z0 b) m).1 ++ J0 (V0 r.2.1 ++ V0 r.2.2.1 ++ Q7 r.2.2.2.1) ++ [(0 : Ty.den (Ty.int .u8)), (0 : Ty.den (Ty.int .u8))]) (J3 r.1 (Z0 b) m).2 && Nat.ble r.2.2.2.2.length 1000000) (.br (mayR r.2.1 r.2.2.2.2) (.br (Nat.ble (List.length (J0 (putR r.2.1 r.2.2.2.2 (Z0 (J0 (J3 r.1 (Z0 b) m).1 ++ J0 (V0 r.2.1 ++ V0 r.2.2.1 ++ Q7 r.2.2.2.1) ++ [(0 : Ty.den (Ty.int .u8)), (0 : Ty.den (Ty.int .u8))]), (J3 r.1 (Z0 b) m).2)).1)) 100000000000) (.br (decide ((2 : Ty.den (Ty.int .i64)) ≤ (↑(List.length (J0 (J3 r.1 (Z0 b) m).1 ++ J0 (V0 r.2.1 ++ V0 r.2.2.1 ++ Q7 r.2.2.2.1))) : Int) + 2) && decide ((↑(List.length (J0 (J3 r.1 (Z0 b) m).1 ++ J0 (V0 r.2.1 ++ V0 r.2.2.1 ++ Q7 r.2.2.2.1))) : Int) + 2 ≤ (↑(List.length (J0 (putR r.2.1 r.2.2.2.2 (Z0 (J0 (J3 r.1 (Z0 b) m).1 ++ J0 (V0 r.2.1 ++ V0 r.2.2.1 ++ Q7 r.2.2.2.1) ++ [(0 : Ty.den (Ty.int .u8)), (0 : Ty.den (Ty.int .u8))]), (J3 r.1 (Z0 b) m).2)).1)) : Int))) (.ret ([.int .i64 0], [.boxT none [.rowA 1, .mp 2], .row (.int .u8) (U0e (J0 (putR r.2.1 r.2.2.2.2 (Z0 (J0 (J3 r.1 (Z0 b) m).1 ++ J0 (V0 r.2.1 ++ V0 r.2.2.1 ++ Q7 r.2.2.2.1) ++ [(0 : Ty.den (Ty.int .u8)), (0 : Ty.den (Ty.int .u8))]), (J3 r.1 (Z0 b) m).2)).1) ((↑(List.length (J0 (J3 r.1 (Z0 b) m).1 ++ J0 (V0 r.2.1 ++ V0 r.2.2.1 ++ Q7 r.2.2.2.1))) : Int) + 2)), .mpo .str (.int .i64) (putR r.2.1 r.2.2.2.2 (Z0 (J0 (J3 r.1 (Z0 b) m).1 ++ J0 (V0 r.2.1 ++ V0 r.2.2.1 ++ Q7 r.2.2.2.1) ++ [(0 : Ty.den (Ty.int .u8)), (0 : Ty.den (Ty.int .u8))]), (J3 r.1 (Z0 b) m).2)).2])) (.ret ([.int .i64 1], [.boxT none [.rowA 1, .mp 2], .row (.int .u8) (J0 (putR r.2.1 r.2.2.2.2 (Z0 (J0 (J3 r.1 (Z0 b) m).1 ++ J0 (V0 r.2.1 ++ V0 r.2.2.1 ++ Q7 r.2.2.2.1) ++ [(0 : Ty.den (Ty.int .u8)), (0 : Ty.den (Ty.int .u8))]), (J3 r.1 (Z0 b) m).2)).1), .mpo .str (.int .i64) (putR r.2.1 r.2.2.2.2 (Z0 (J0 (J3 r.1 (Z0 b) m).1 ++ J0 (V0 r.2.1 ++ V0 r.2.2.1 ++ Q7 r.2.2.2.1) ++ [(0 : Ty.den (Ty.int .u8)), (0 : Ty.den (Ty.int .u8))]), (J3 r.1 (Z0 b) m).2)).2]))) .no) (.br (Nat.ble (List.length (J0 (J3 r.1 (Z0 b) m).1 ++ J0 (V0 r.2.1 ++ V0 r.2.2.1 ++ Q7 r.2.2.2.1) ++ [(0 : Ty.den (Ty.int .u8)), (0 : Ty.den (Ty.int .u8))])) 100000000000) (.br (decide ((2 : Ty.den (Ty.int .i64)) ≤ (↑(List.length (J0 (J3 r.1 (Z0 b) m).1 ++ J0 (V0 r.2.1 ++ V0 r.2.2.1 ++ Q7 r.2.2.2.1))) : Int) + 2) && decide ((↑(List.length (J0 (J3 r.1 (Z0 b) m).1 ++ J0 (V0 r.2.1 ++ V0 r.2.2.1 ++ Q7 r.2.2.2.1))) : Int) + 2 ≤ (↑(List.length (J0 (J3 r.1 (Z0 b) m).1 ++ J0 (V0 r.2.1 ++ V0 r.2.2.1 ++ Q7 r.2.2.2.1) ++ [(0 : Ty.den (Ty.int .u8)), (0 : Ty.den (Ty.int .u8))])) : Int))) (.ret ([.int .i64 0], [.boxT none [.rowA 1, .mp 2], .row (.int .u8) (U0e (J0 (J3 r.1 (Z0 b) m).1 ++ J0 (V0 r.2.1 ++ V0 r.2.2.1 ++ Q7 r.2.2.2.1) ++ [(0 : Ty.den (Ty.int .u8)), (0 : Ty.den (Ty.int .u8))]) ((↑(List.length (J0 (J3 r.1 (Z0 b) m).1 ++ J0 (V0 r.2.1 ++ V0 r.2.2.1 ++ Q7 r.2.2.2.1))) : Int) + 2)), .mpo .str (.int .i64) (J3 r.1 (Z0 b) m).2])) (.ret ([.int .i64 1], [.boxT none [.rowA 1, .mp 2], .row (.int .u8) (J0 (J3 r.1 (Z0 b) m).1 ++ J0 (V0 r.2.1 ++ V0 r.2.2.1 ++ Q7 r.2.2.2.1) ++ [(0 : Ty.den (Ty.int .u8)), (0 : Ty.den (Ty.int .u8))]), .mpo .str (.int .i64) (J3 r.1 (Z0 b) m).2]))) .no)) .no) .no) .no) .no) .no) .no) (.br (n16C r.2.1) (.br (n16C r.2.2.1) (.br (n32C r.2.2.2.1) (.br (fits (List.length b + List.length (J0 (V0 r.2.1 ++ V0 r.2.2.1 ++ Q7 r.2.2.2.1))) 1) (.br (Nat.ble (List.length (b ++ J0 (V0 r.2.1 ++ V0 r.2.2.1 ++ Q7 r.2.2.2.1))) 100000000000) (.br (pkT (b ++ J0 (V0 r.2.1 ++ V0 r.2.2.1 ++ Q7 r.2.2.2.1) ++ [(0 : Ty.den (Ty.int .u8)), (0 : Ty.den (Ty.int .u8))]) m && Nat.ble r.2.2.2.2.length 1000000) (.br (mayR r.2.1 r.2.2.2.2) (.br (Nat.ble (List.length (J0 (putR r.2.1 r.2.2.2.2 (Z0 (b ++ J0 (V0 r.2.1 ++ V0 r.2.2.1 ++ Q7 r.2.2.2.1) ++ [(0 : Ty.den (Ty.int .u8)), (0 : Ty.den (Ty.int .u8))]), m)).1)) 100000000000) (.br (decide ((2 : Ty.den (Ty.int .i64)) ≤ (↑(List.length (b ++ J0 (V0 r.2.1 ++ V0 r.2.2.1 ++ Q7 r.2.2.2.1))) : Int) + 2) && decide ((↑(List.length (b ++ J0 (V0 r.2.1 ++ V0 r.2.2.1 ++ Q7 r.2.2.2.1))) : Int) + 2 ≤ (↑(List.length (J0 (putR r.2.1 r.2.2.2.2 (Z0 (b ++ J0 (V0 r.2.1 ++ V0 r.2.2.1 ++ Q7 r.2.2.2.1) ++ [(0 : Ty.den (Ty.int .u8)), (0 : Ty.den (Ty.int .u8))]), m)).1)) : Int))) (.ret ([.int .i64 0], [.boxT none [.rowA 1, .mp 2], .row (.int .u8) (U0e (J0 (putR r.2.1 r.2.2.2.2 (Z0 (b ++ J0 (V0 r.2.1 ++ V0 r.2.2.1 ++ Q7 r.2.2.2.1) ++ [(0 : Ty.den (Ty.int .u8)), (0 : Ty.den (Ty.int .u8))]), m)).1) ((↑(List.length (b ++ J0 (V0 r.2.1 ++ V0 r.2.2.1 ++ Q7 r.2.2.2.1))) : Int) + 2)), .mpo .str (.int .i64) (putR r.2.1 r.2.2.2.2 (Z0 (b ++ J0 (V0 r.2.1 ++ V0 r.2.2.1 ++ Q7 r.2.2.2.1) ++ [(0 : Ty.den (Ty.int .u8)), (0 : Ty.den (Ty.int .u8))]), m)).2])) (.ret ([.int .i64 1], [.boxT none [.rowA 1, .mp 2], .row (.int .u8) (J0 (putR r.2.1 r.2.2.2.2 (Z0 (b ++ J0 (V0 r.2.1 ++ V0 r.2.2.1 ++ Q7 r.2.2.2.1) ++ [(0 : Ty.den (Ty.int .u8)), (0 : Ty.den (Ty.int .u8))]), m)).1), .mpo .str (.int .i64) (putR r.2.1 r.2.2.2.2 (Z0 (b ++ J0 (V0 r.2.1 ++ V0 r.2.2.1 ++ Q7 r.2.2.2.1) ++ [(0 : Ty.den (Ty.int .u8)), (0 : Ty.den (Ty.int .u8))]), m)).2]))) .no) (.br (Nat.ble (List.length (b ++ J0 (V0 r.2.1 ++ V0 r.2.2.1 ++ Q7 r.2.2.2.1) ++ [(0 : Ty.den (Ty.int .u8)), (0 : Ty.den (Ty.int .u8))])) 100000000000) (.br (decide ((2 : Ty.den (Ty.int .i64)) ≤ (↑(List.length (b ++ J0 (V0 r.2.1 ++ V0 r.2.2.1 ++ Q7 r.2.2.2.1))) : Int) + 2) && decide ((↑(List.length (b ++ J0 (V0 r.2.1 ++ V0 r.2.2.1 ++ Q7 r.2.2.2.1))) : Int) + 2 ≤ (↑(List.length (b ++ J0 (V0 r.2.1 ++ V0 r.2.2.1 ++ Q7 r.2.2.2.1) ++ [(0 : Ty.den (Ty.int .u8)), (0 : Ty.den (Ty.int .u8))])) : Int))) (.ret ([.int .i64 0], [.boxT none [.rowA 1, .mp 2], .row (.int .u8) (U0e (b ++ J0 (V0 r.2.1 ++ V0 r.2.2.1 ++ Q7 r.2.2.2.1) ++ [(0 : Ty.den (Ty.int .u8)), (0 : Ty.den (Ty.int .u8))]) ((↑(List.length (b ++ J0 (V0 r.2.1 ++ V0 r.2.2.1 ++ Q7 r.2.2.2.1))) : Int) + 2)), .mpo .str (.int .i64) m])) (.ret ([.int .i64 1], [.boxT none [.rowA 1, .mp 2], .row (.int .u8) (b ++ J0 (V0 r.2.1 ++ V0 r.2.2.1 ++ Q7 r.2.2.2.1) ++ [(0 : Ty.den (Ty.int .u8)), (0 : Ty.den (Ty.int .u8))]), .mpo .str (.int .i64) m]))) .no)) .no) .no) .no) .no) .no) .no)) .no)) .no
def J4l : OSpec := { f := 124, sh := [.ptr 0 0, .d RR true], so := [.box [.row 1, .mp 2], .row (.int .u8), .map .str (.int .i64)], F := fun (r, _) (_, b, m, _) => t124 r b m }
theorem fn124 (r : RRt) (b : List Int) (m : List (List UInt8 × Int)) : evC T0 (orcB [Z2g, Xn, Z3z] [Z0b, os98, Z3o, V3i, U3l]) (lpOf h124 3 (lsOf [])) c124 1000000 (V1 [.ptr 0 0, AV.ofTy RR r true] [.box [.rowA 1, .mp 2], .row (.int .u8) b, .mpo .str (.int .i64) m] Try.f124.ntmps) (Z1 T0 false 3 Try.f124) = (t124 r b m).get := by kernel_rfl
theorem ok124 : J4l.Ok Try.prog := by
 refine J4 U2 tab0 (U0 (all_cons X25 (all_cons Z11 (all_cons U4g all_nil))) (all_cons U2l (all_cons ok98 (all_cons J4y (all_cons Q4s (all_cons Z51 all_nil)))))) h124 (d := 0) (n0 := 3) (S := lsOf []) Try.func124 (by kernel_rfl) (c := c124) (by kernel_rfl) rfl (Z3 (by kernel_rfl)) (by omega) (by kernel_rfl) ?_
 intro x'' y'' q'' hq''
 obtain ⟨(r : RRt), _⟩ := x''
 obtain ⟨_, (b : List Int), (m : List (List UInt8 × Int)), _⟩ := y''
 exact (fn124 r b m).trans hq''
end Go.Proofs.YtpledbapngdkeaaE
