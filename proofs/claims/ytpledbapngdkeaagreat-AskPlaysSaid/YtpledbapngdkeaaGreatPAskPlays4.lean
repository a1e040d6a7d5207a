import Derived.Test.YtpledbapngdkeaaGreatPAskPlays3
import Derived.Shelf.RegionOpenPlain
import Derived.Lib.Strings
import Derived.Lib.Slices
import Derived.Lib.Walk
import Derived.Lib.Builder
import Derived.Lib.UnsafeStr
import Derived.Laws.Externs
set_option maxRecDepth 1000000
namespace Go.Proofs.YtpledbapngdkeaaGreatB
open Go Go.RowKit Go.Shelf
theorem X1y : Tryz.prog.underlying 210 = some (.pointer 212) := by kernel_rfl
theorem U26 : Tryz.prog.underlying 231 = some .unsafePointer := by kernel_rfl
theorem Z3f : (Tryz.prog.info? 212).map (·.size) = some 2 := by kernel_rfl
theorem V4r : liesAt Tryz.prog Tryz.prog.depth 212 (2 / Tryz.prog.cellsOf 212) 0 212 1 = true := by kernel_rfl
set_option maxHeartbeats 2000000 in
theorem X31 (b : Nat) (v : Value) (fz : Nat × Nat) (w : World) (h : w.heap[b]? = some (.cells #[.pointer none, v] 212 fz)) (hfz : ¬ (fz.1 ≤ 0 ∧ 0 < fz.2)) :
    Calls Tryz.prog 158 #[.pointer (some ⟨b, 0, none⟩)] w fun e W' => e = .returned (.tuple #[]) ∧ W' = w.setCell ⟨b, 0, none⟩ (.pointer (some ⟨b, 0, none⟩)) := by
 obtain ⟨j, hj, hjs⟩ := Option.map_eq_some_iff.1 Z3f
 have hc : w.cell? ⟨b, 0, none⟩ = some (.pointer none) := by simp [World.cell?, h]
 have hf : w.frozen? ⟨b, 0, none⟩ = false := by
  simp only [World.frozen?, h]
  simp
  intro h1
  simp at hfz
  omega
 have hsh : w.shape? b = some (212, 2) := by simp [World.shape?, h]
 go_enter Tryz.func158, Tryz.ntmps158
 go_wp2
 rw [Lib.run_to_unsafe w ⟨b, 0, none⟩ X1y U26 hj (by rw [hjs]; decide) hsh (Nat.zero_lt_succ 1)]
 simp only [Result.andThen]
 rw [Oper.upon_value]
 go_wp2
 rw [run_callFunc_extern Tryz.func160 (by kernel_rfl) (by kernel_rfl) (by kernel_rfl) (e := Extern.AbiNoEscape.same) (by kernel_rfl)]
 rw [Lib.run_noEscape]
 simp only [Result.andThen]
 rw [Oper.upon_value]
 go_wp2
 rw [Lib.run_from_unsafe w ⟨b, 0, none⟩ U26 X1y hj hsh V4r]
 simp only [Result.andThen]
 rw [Oper.upon_value]
 go_wp2
 go_end0
 exact ⟨rfl, rfl⟩
set_option maxHeartbeats 2000000 in
theorem J2m (b : Nat) (w : World) (hc : w.cell? ⟨b, 0, none⟩ = some (.pointer (some ⟨b, 0, none⟩))) :
    Calls Tryz.prog 158 #[.pointer (some ⟨b, 0, none⟩)] w fun e W' => e = .returned (.tuple #[]) ∧ W' = w := by
 obtain ⟨j, hj, hjs⟩ := Option.map_eq_some_iff.1 Z3f
 go_enter Tryz.func158, Tryz.ntmps158
 go_wp2
 rw [Lib.run_neq_ptr_same w _ X1y hj]
 go_wp2
 go_end0
 exact ⟨rfl, rfl⟩
theorem U48 {P : Program} {e : TypeId} (hc : P.cellsOf e = 1) (count off n : Nat) (hn : off + n ≤ count) : liesAt P P.depth e count off e n = true := by
 have hd : P.depth = (2 * (P.types.size + Made.depth) + 1) + 1 := rfl
 rw [hd]
 simp only [liesAt, Bool.or_eq_true]
 left
 rw [hd]
 simp [rowAt, hc, hn, sameLayout, Nat.mod_one]
theorem Q3r : Tryz.prog.underlying 230 = some (.pointer 5) := by kernel_rfl
theorem Q3n : Tryz.prog.cellsOf 5 = 1 := by kernel_rfl
theorem J41 (w : World) (g o cells : Nat) (hsh : w.shape? g = some (5, cells)) (l : List UInt8) (h0 : l ≠ []) (hn : o + l.length ≤ cells) (h63 : l.length ≤ 9223372036854775807)
    (hcell : ∀ j x, l[j]? = some x → w.cell? ((⟨g, o, none⟩ : Addr).add j) = some (.int .u8 x.toNat)) :
    (Builtin.unsafeString_ #[230, 3] 9 #[.pointer (some ⟨g, o, none⟩), .int .i64 l.length]).run Tryz.prog w = .ok (.string ⟨l.toArray⟩) (w.freeze ⟨g, o, none⟩ l.length) := by
 have hl : l.length ≠ 0 := by simpa using h0
 have hlb := Lib.run_loadBytes (P := Tryz.prog) w l ⟨g, o, none⟩ .empty hcell
 have hlies := U48 (P := Tryz.prog) Q3n (cells / Tryz.prog.cellsOf 5) o l.length (by rw [Q3n]; simpa using hn)
 have h63' : ¬ (9223372036854775807 : Int) < (l.length : Int) := by omega
 have hdef : Builtin.unsafeString_ #[230, 3] 9 #[.pointer (some ⟨g, o, none⟩), .int .i64 l.length] =
     (do
      let n ← asInt (.int .i64 l.length)
      if n < 0 then runtimePanic (.error "unsafe.String: len out of range")
      if n > IntKind.i64.max then unsupported (.unsafePointer "String: a length above the largest int")
      if n = 0 then pure (.string .empty)
      else if ← variablesAt ⟨g, o, none⟩ (← elemOf 230) n.toNat then do
       let s ← loadBytes ⟨g, o, none⟩ .empty n.toNat
       freeze ⟨g, o, none⟩ n.toNat
       pure (.string s)
      else unsupported (.unsafePointer "String: not so many bytes at ptr")) := rfl
 rw [hdef]
 have hmax : IntKind.i64.max = 9223372036854775807 := rfl
 have hneg : ¬ (l.length : Int) < 0 := by omega
 simp [asInt, asIntOf, hmax, h63', hneg, hl, variablesAt, hsh, elemOf, run_underlying Q3r, hlies, hlb]
set_option maxHeartbeats 2000000 in
theorem J2b (b g o cap cells : Nat) (l : List UInt8) (w : World) (hb : w.cell? ⟨b, 1, none⟩ = some (.slice (some ⟨g, o, none⟩) l.length cap)) (hcap : cap ≠ 0) (hsh : w.shape? g = some (5, cells)) (h0 : l ≠ []) (hn : o + l.length ≤ cells) (h63 : l.length ≤ 9223372036854775807)
    (hcell : ∀ j x, l[j]? = some x → w.cell? ((⟨g, o, none⟩ : Addr).add j) = some (.int .u8 x.toNat)) :
    Calls Tryz.prog 148 #[.pointer (some ⟨b, 0, none⟩)] w fun e w' => e = .returned (.string ⟨l.toArray⟩) ∧ w' = w.drew.freeze ⟨g, o, none⟩ l.length := by
 have c1 : w.drew.cell? ⟨b, 1, none⟩ = some (.slice (some ⟨g, o, none⟩) l.length cap) := hb
 have hSD : (Builtin.unsafeSliceData_ #[174] 230 #[.slice (some ⟨g, o, none⟩) l.length cap]).run Tryz.prog w.drew = .ok (.pointer (some ⟨g, o, none⟩)) w.drew := Lib.run_unsafeSliceData_row _ _ _ _ _ _ hcap
 have hUS := J41 w.drew g o cells hsh l h0 hn h63 hcell
 go_enter Tryz.func148, Tryz.ntmps148
 go_wp2
 go_region
 all_goals (go_wp2; go_ret; exact ⟨rfl, rfl⟩)
end Go.Proofs.YtpledbapngdkeaaGreatB
namespace Go.Proofs.YtpledbapngdkeaaGreatE
open Go Go.Proofs.YtpledbapngdkeaaGreatB
set_option linter.unusedVariables false
set_option linter.unusedSimpArgs false
def X2s (s : List UInt8) : List (List UInt8) := (X7 s).1
def Xv (s : List UInt8) : Bool := (X7 s).2 == [0]
theorem U24 {F : Nat → Prop} {w : World} : ∀ (l : List (List UInt8)), EncL F w .str l (strs l)
 | [] => by simp [EncL, strs]
 | x :: l => by
   simp only [EncL]
   exact ⟨[.string ⟨x.toArray⟩], strs l, rfl, rfl, U24 l⟩
theorem J48 {w : World} {base : Nat} {v : Value} {l : List (List UInt8)} (h : w.ownsRow base 9 1 v l.length (strs l)) {F : Nat → Prop} (hF : ∀ b, v.ownBlock = some b → F b) : Enc F w (.list .str) l [v] := by
 refine Uf.2 ?_
 rcases h.2 with ⟨rfl, h0⟩ | ⟨g, cap, cur, rfl, hb, hg, hle, hcap, hcs, htk⟩
 · have : l = [] := List.length_eq_zero_iff.1 h0
   subst this
   exact ⟨none, 0, rfl, by simp, fun _ => rfl, fun a ha => by cases ha⟩
 · refine ⟨some ⟨g, 0, none⟩, cap, rfl, hle, fun h => (by cases h), fun a ha _ => ?_⟩
   cases ha
   refine ⟨rfl, hF g rfl, X2x (U24 l) fun j u hu => ?_⟩
   have := h.cells (g := g) rfl j u hu
   rw [Xd] at this
   exact this
theorem Z2h (s : List UInt8) (hb : bigS s = true) : SemF Tryz.prog 97 [.str s] []
    (if (X7 s).2 = [0] then (if s.length ≤ 255 then [.list .str (X2s s), .int .i64 0] else [.list .str [], .int .i64 3]) else [.list .str [], .int .i64 2]) [] := by
 have hs : s.length ≤ 1000000000000 := by simpa [bigS] using hb
 refine ⟨⟨_, Tryz.func97, by decide, by kernel_rfl⟩, fun w μ F us hh hv => ?_⟩
 simp only [X1, VRel] at hv
 obtain ⟨u, us', rfl, rfl, rfl⟩ := hv
 have h := callsIn_wide.1 (X34 3 (by omega) s hs w)
 refine h.mono ?_
 rintro e w' ⟨v, rfl, u, en, rfl, hB, hc⟩
 have hμ : ∀ k, μ k = .none := fun k => hh.top k (by simp)
 refine ⟨_, rfl, fun _ => .none, fun b => F b ∨ (w.heap.size ≤ b ∧ b < w'.heap.size), ?_, ⟨fun k hk => by simp at hk, fun _ _ => rfl, fun k k' b h => by simp [Pl.owns] at h, fun k b h => by simp [Pl.owns] at h, fun b hb => ?_⟩,
  ⟨hB.os, hB.tape, hB.output, hB.size, fun b hb _ => hB.block b hb, fun b hb => .inl hb, fun b hb => ?_, fun k b h => by simp [Pl.owns] at h⟩, by simp, fun k b hk => by simp at hk, fun k b hk => by simp at hk⟩
 · rcases hc with ⟨h1, rfl, rfl⟩ | ⟨h1, h2, rfl, rfl⟩ | ⟨h1, h2, rfl, hrow⟩
   · rw [if_neg h1]
     simp only [U8, VRel, X1]
     exact ⟨_, rfl, _, _, rfl, ⟨none, 0, rfl, by simp, fun _ => rfl, fun a ha => by cases ha⟩, _, _, rfl, rfl, rfl⟩
   · rw [if_pos h1, if_neg (by omega)]
     simp only [U8, VRel, X1]
     exact ⟨_, rfl, _, _, rfl, ⟨none, 0, rfl, by simp, fun _ => rfl, fun a ha => by cases ha⟩, _, _, rfl, rfl, rfl⟩
   · rw [if_pos h1, if_pos h2]
     simp only [U8, VRel, X1]
     refine ⟨_, rfl, _, _, rfl, J48 hrow (fun b hb => .inr ?_), _, _, rfl, rfl, rfl⟩
     have := hrow.lt b hb
     omega
 · rcases hb with hb | hb
   · exact Nat.lt_of_lt_of_le (hh.inn b hb) hB.size
   · exact hb.2
 · rcases hb with hb | hb
   · exact .inl hb
   · exact .inr (.inr hb.1)
def fs97 : FSpec := { f := 97, ins := [(.str, false)], outs := [(.list .str, false), (.int .i64, false)], F := fun (s, _) => .br (bigS s) (.br (Xv s) (.br (decide (s.length > 255)) (.ret (([] : List (List UInt8)), (3 : Int), ())) (.ret (X2s s, (0 : Int), ()))) (.ret (([] : List (List UInt8)), (2 : Int), ()))) .no }
theorem J4l : fs97.Ok Tryz.prog := by
 rintro ⟨(s : List UInt8), _⟩ y h
 simp only [fs97, Tr.get] at h
 cases hb : bigS s with
 | false => rw [hb] at h; cases h
 | true =>
   rw [hb, cond_true] at h
   have := Z2h s hb
   cases hr : Xv s with
   | false =>
     rw [hr, cond_false] at h
     cases h
     have hne : (X7 s).2 ≠ [0] := by simpa [Xv] using hr
     rw [if_neg hne] at this
     exact this
   | true =>
     rw [hr, cond_true] at h
     have he : (X7 s).2 = [0] := by simpa [Xv] using hr
     rw [if_pos he] at this
     by_cases hl : s.length ≤ 255
     · rw [if_pos hl] at this
       rw [show decide (s.length > 255) = false by simp; omega, cond_false] at h
       cases h
       exact this
     · rw [if_neg hl] at this
       rw [show decide (s.length > 255) = true by simp; omega, cond_true] at h
       cases h
       exact this
def bldO (self : AV) (r : AV) : LObj := .boxT (some 212) [self, r]
theorem Z1s {us : List Value} {μ : Nat → Pl} {F : Nat → Prop} {w : World} {x y : AV} (h : X1 μ F w [x, y] us) : ∃ u v, us = [u, v] ∧ VRel μ F w x u ∧ VRel μ F w y v := by
 simp only [X1] at h
 obtain ⟨u, _, rfl, h1, v, _, rfl, h2, rfl⟩ := h
 exact ⟨u, v, rfl, h1, h2⟩
theorem J1o (new : Bool) (xs : List Int) : SemF Tryz.prog 158 [.ptr 0 0] [bldO (if new then .np else .ptr 0 0) (.rowA 1), .row (.int .u8) xs] [] [bldO (.ptr 0 0) (.rowA 1), .row (.int .u8) xs] := by
 refine ⟨⟨_, Tryz.func158, by decide, by kernel_rfl⟩, fun w μ F us hh hv => ?_⟩
 simp only [X1, VRel] at hv
 obtain ⟨u, us', rfl, ⟨b, hb, rfl⟩, rfl⟩ := hv
 have h0 := hh.obj 0 (by simp)
 have h1 := hh.obj 1 (by simp)
 rw [hb] at h0
 simp only [ofHp, bldO, ORel] at h0
 obtain ⟨us, E, fz, g1, g2, g3, g4, g5⟩ := h0
 obtain ⟨u0, u1, rfl, r0, r1⟩ := Z1s g3
 have hE : E = 212 := g5 212 rfl
 subst hE
 have hF0 := hh.out 0 b (by rw [hb]; rfl)
 cases new with
 | false =>
   simp only [Bool.false_eq_true, if_false, VRel] at r0
   obtain ⟨b', hb', rfl⟩ := r0
   rw [hb] at hb'
   cases hb'
   have h := J2m b w (by simp [World.cell?, g1])
   refine h.mono ?_
   rintro e w' ⟨rfl, rfl⟩
   refine ⟨_, rfl, μ, F, by simp [U8, VRel, X1], ?_, ⟨rfl, rfl, rfl, Nat.le_refl _, fun _ _ _ => rfl, fun _ h => h, fun _ h => .inl h, fun k b h => .inl ⟨k, h⟩⟩, by simp, fun k b _ h => h, fun k b _ h => h⟩
   simpa using hh
 | true =>
   simp only [if_true, VRel] at r0
   subst r0
   have hfree := g2 0 (by simp)
   have h := X31 b u1 fz w g1 (by simpa using hfree)
   refine h.mono ?_
   rintro e w' ⟨rfl, rfl⟩
   have ot : ∀ j, j ≠ b → (w.setCell ⟨b, 0, none⟩ (.pointer (some ⟨b, 0, none⟩))).heap[j]? = w.heap[j]? := fun j hj => Go.RowKit.Below.heap_setCell _ _ _ _ hj
   have at_ : (w.setCell ⟨b, 0, none⟩ (.pointer (some ⟨b, 0, none⟩))).heap[b]? = some (.cells #[.pointer (some ⟨b, 0, none⟩), u1] 212 fz) := by
    simp [World.setCell, Array.getElem?_modify, g1]
   have hFw : ∀ b', F b' → (w.setCell ⟨b, 0, none⟩ (.pointer (some ⟨b, 0, none⟩))).heap[b']? = w.heap[b']? := fun b' hb' => ot b' (fun e => hF0.1 (e ▸ hb'))
   have hsz : (w.setCell ⟨b, 0, none⟩ (.pointer (some ⟨b, 0, none⟩))).heap.size = w.heap.size := by simp [World.setCell]
   refine ⟨_, rfl, μ, F, by simp [U8, VRel, X1], ⟨fun k hk => ?_, hh.top, hh.one, fun k b' hk => by rw [hsz]; exact hh.out k b' hk, fun b' hb' => by rw [hsz]; exact hh.inn b' hb'⟩,
    ⟨rfl, rfl, rfl, by rw [hsz]; exact Nat.le_refl _, fun b' _ hn => ot b' (fun e => hn ⟨0, by rw [hb, e]; rfl⟩), fun _ h => h, fun _ h => .inl h, fun k b h => .inl ⟨k, h⟩⟩, by simp, fun k b _ h => h, fun k b _ h => h⟩
   match k, hk with
   | 0, _ =>
     rw [hb]
     simp only [ofHp, bldO, ORel]
     refine ⟨[.pointer (some ⟨b, 0, none⟩), u1], 212, fz, at_, g2, ?_, ?_, fun n hn => (Option.some.inj hn)⟩
     · simp only [X1]
       exact ⟨_, _, rfl, by simp only [VRel]; exact ⟨b, hb, rfl⟩, _, _, rfl, Jq (fun _ h => h) hFw (fun _ _ => rfl) r1, rfl⟩
     · intro u hu
       simp at hu
       rcases hu with rfl | rfl
       · rfl
       · exact g4 _ (by simp)
   | 1, _ =>
     simp only [ofHp] at h1 ⊢
     exact Ja (fun _ h => h) hFw (fun b' hb' => ot b' (fun e => by
      have := hh.one 1 0 b' hb' (by rw [hb, e]; rfl)
      omega)) (by simp [LObj.refs]) h1
def U1m : OSpec := { f := 158, sh := [.ptr 0 0], so := [.tbox 212 [.np, .row 1], .row (.int .u8)], F := fun _ (_, xs, _) => .ret ([], [.boxT (some 212) [.ptr 0 0, .rowA 1], .row (.int .u8) xs]) }
def Q0x : OSpec := { f := 158, sh := [.ptr 0 0], so := [.tbox 212 [.ptr 0 0, .row 1], .row (.int .u8)], F := fun _ (_, xs, _) => .ret ([], [.boxT (some 212) [.ptr 0 0, .rowA 1], .row (.int .u8) xs]) }
theorem X25 : U1m.Ok Tryz.prog := by
 rintro x y r h
 obtain ⟨_, (xs : List Int), _⟩ := y
 cases h
 exact J1o true xs
theorem V1f : Q0x.Ok Tryz.prog := by
 rintro x y r h
 obtain ⟨_, (xs : List Int), _⟩ := y
 cases h
 exact J1o false xs
theorem U2n {xs : List Int} (h : Z8 xs = true) : ∀ (j : Nat) (x : UInt8), (U1 xs)[j]? = some x → xs[j]? = some (x.toNat : Int) := fun j x hx => by
 simp only [U1, List.getElem?_map, Option.map_eq_some_iff] at hx
 obtain ⟨n, hn, rfl⟩ := hx
 have := List.all_eq_true.1 h n (List.mem_of_getElem? hn)
 simp only [Bool.and_eq_true, decide_eq_true_eq] at this
 rw [hn]
 congr 1
 simp
 omega
theorem J2l (xs : List Int) (hok : Z8 xs = true) (hne : xs ≠ []) (hlen : xs.length ≤ 9223372036854775807) : SemF Tryz.prog 148 [.ptr 0 0] [bldO (.ptr 0 0) (.rowA 1), .row (.int .u8) xs] [.str (U1 xs)] [bldO (.ptr 0 0) .dead, .gone] := by
 refine ⟨⟨_, Tryz.func148, by decide, by kernel_rfl⟩, fun w μ F us hh hv => ?_⟩
 simp only [X1, VRel] at hv
 obtain ⟨u, us', rfl, ⟨b, hb, rfl⟩, rfl⟩ := hv
 have h0 := hh.obj 0 (by simp)
 have h1 := hh.obj 1 (by simp)
 rw [hb] at h0
 simp only [ofHp, bldO, ORel] at h0
 obtain ⟨us, E, fz, g1, g2, g3, g4, g5⟩ := h0
 obtain ⟨u0, u1, rfl, r0, r1⟩ := Z1s g3
 simp only [VRel] at r0 r1
 obtain ⟨b', hb', rfl⟩ := r0
 rw [hb] at hb'
 cases hb'
 obtain ⟨al, len, cap, sz, A, hμ1, rfl, hA⟩ := r1
 simp only [ofHp] at h1
 rw [hμ1] at h1
 simp only [ORel] at h1
 obtain ⟨rfl, rfl, hle, hcap0, hrow⟩ := h1
 have hpos : 0 < xs.length := List.length_pos_iff.2 hne
 have hcapne : cap ≠ 0 := by omega
 cases al with
 | none => exact absurd (hcap0 rfl) hcapne
 | some go =>
   obtain ⟨g, o⟩ := go
   have hAeq := hA hcapne
   simp only [Xr] at hAeq
   subst hAeq
   obtain ⟨cs, E2, fz2, k1, k2, k3, k4, k5⟩ := hrow g o rfl hcapne
   have hE2 : E2 = 5 := k5 rfl
   subst hE2
   simp only [Ty.sz, Nat.mul_one] at k3 k4
   have hl : (U1 xs).length = xs.length := by simp [U1]
   have hgb : g ≠ b := fun e => by
    have := hh.one 1 0 b (by rw [hμ1]; simp [Pl.owns, hcapne, e]) (by rw [hb]; rfl)
    omega
   have h := J2b b g o cap cs.length (U1 xs) w (by rw [hl]; simp [World.cell?, g1]) hcapne (by simp [World.shape?, k1]) (by simpa [U1] using hne) (by omega) (by omega) (fun j x hx => by
    have hb := U2n hok j x hx
    obtain ⟨vs, e1, e2, e3⟩ := k4 j _ hb
    simp only [Enc] at e1
    subst e1
    have := e3 0 _ rfl
    rw [Xd]
    simp [World.cell?, k1, this]
    simpa using this)
   refine h.mono ?_
   rintro e w' ⟨rfl, rfl⟩
   have ot : ∀ j, j ≠ g → (w.drew.freeze ⟨g, o, none⟩ (U1 xs).length).heap[j]? = w.heap[j]? := fun j hj => by
    unfold World.freeze
    split
    · rfl
    · simp only [Array.getElem?_modify]
      rw [if_neg (by omega)]
      rfl
   have hsz : (w.drew.freeze ⟨g, o, none⟩ (U1 xs).length).heap.size = w.heap.size := by
    unfold World.freeze
    split
    · rfl
    · simp
   have hF1 := hh.out 1 g (by rw [hμ1]; simp [Pl.owns, hcapne])
   have how : ∀ k b', (Vg μ 1 .none k).owns = some b' → (μ k).owns = some b' := fun k b' hk => by
    by_cases h : k = 1
    · subst h; rw [Xa] at hk; cases hk
    · rwa [V9 h] at hk
   refine ⟨_, rfl, Vg μ 1 .none, F, by simp [U8, VRel], ⟨fun k hk => ?_, fun k hk => ?_, fun k k' b' h1 h2 => hh.one k k' b' (how k b' h1) (how k' b' h2), fun k b' hk => by rw [hsz]; exact hh.out k b' (how k b' hk), fun b' hb' => by rw [hsz]; exact hh.inn b' hb'⟩,
    ⟨?_, ?_, ?_, by rw [hsz]; exact Nat.le_refl _, fun b' _ hn => ot b' (fun e => hn ⟨1, by rw [hμ1, e]; simp [Pl.owns, hcapne]⟩), fun _ h => h, fun _ h => .inl h, fun k b' h => .inl ⟨k, how k b' h⟩⟩, by simp, fun k b' hk h => ?_, fun k b' hk h => ?_⟩
   · match k, hk with
     | 0, _ =>
       rw [V9 (by omega), hb]
       simp only [ofHp, bldO, ORel]
       refine ⟨_, 212, fz, by rw [ot b (fun e => hgb e.symm), g1, g5 212 rfl], g2, ?_, g4, fun n hn => (Option.some.inj hn)⟩
       simp only [X1, VRel]
       exact ⟨_, _, rfl, ⟨b, by rw [V9 (by omega)]; exact hb, rfl⟩, _, _, rfl, trivial, rfl⟩
     | 1, _ =>
       rw [Xa]
       simp only [ofHp, ORel]
   · by_cases h : k = 1
     · subst h; exact Xa _ _ _
     · rw [V9 h]; exact hh.top k hk
   · unfold World.freeze; split <;> rfl
   · unfold World.freeze; split <;> rfl
   · unfold World.freeze; split <;> rfl
   · have : k ≠ 1 := fun e => by subst e; rw [hμ1] at h; cases h
     rw [V9 this]; exact h
   · have : k ≠ 1 := fun e => by subst e; rw [hμ1] at h; cases h
     rw [V9 this]; exact h
def J0c : OSpec := { f := 148, sh := [.ptr 0 0], so := [.tbox 212 [.ptr 0 0, .row 1], .row (.int .u8)], F := fun _ (_, xs, _) => .on (Z8 xs && (!xs.isEmpty && Nat.ble xs.length 9223372036854775807)) ([.str (U1 xs)], [.boxT (some 212) [.ptr 0 0, .dead], .gone]) }
theorem okStr : J0c.Ok Tryz.prog := by
 rintro x y r h
 obtain ⟨_, (xs : List Int), _⟩ := y
 obtain ⟨hc, rfl⟩ := Tr.get_on h
 simp only [Bool.and_eq_true] at hc
 exact J2l xs hc.1 (by intro e; rw [e] at hc; simp at hc) (Nat.le_of_ble_eq_true hc.2.2)
open Go
def U4i (b : List Int) : Tr Res := .ret ([.int .i64 (↑b.length : Int)], [.boxT (some 212) [.np, .rowA 1], .row (.int .u8) b])
def Zz : OSpec := { f := 145, sh := [.ptr 0 0], so := [.tbox 212 [.np, .row 1], .row (.int .u8)], F := fun _ (_, b, _) => U4i b }
theorem J4z (b : List Int) : evC T0 (orcB [] [U1m, Q0x]) (lpOf h145 2 (lsOf [])) c145 1000000 (V1 [.ptr 0 0] [.boxT (some 212) [.np, .rowA 1], .row (.int .u8) b] Tryz.f145.ntmps) (J1 T0 false 2 Tryz.f145) = (U4i b).get := by kernel_rfl
theorem V50 : Zz.Ok Tryz.prog := by
 refine V3 Q1 tab0 (X0 all_nil (all_cons X25 (all_cons V1f all_nil))) h145 (d := 0) (n0 := 2) (S := lsOf []) Tryz.func145 (by kernel_rfl) (c := c145) (by kernel_rfl) rfl (Z3 (by kernel_rfl)) (by omega) (by kernel_rfl) ?_
 intro x'' y'' q'' hq''
 obtain ⟨_, (b : List Int), _⟩ := y''
 exact (J4z b).trans hq''
def V4i (b : List Int) : Tr Res := .ret ([.int .i64 (↑b.length : Int)], [.boxT (some 212) [.ptr 0 0, .rowA 1], .row (.int .u8) b])
def Vz : OSpec := { f := 145, sh := [.ptr 0 0], so := [.tbox 212 [.ptr 0 0, .row 1], .row (.int .u8)], F := fun _ (_, b, _) => V4i b }
theorem X51 (b : List Int) : evC T0 (orcB [] [U1m, Q0x]) (lpOf h145 2 (lsOf [])) c145 1000000 (V1 [.ptr 0 0] [.boxT (some 212) [.ptr 0 0, .rowA 1], .row (.int .u8) b] Tryz.f145.ntmps) (J1 T0 false 2 Tryz.f145) = (V4i b).get := by kernel_rfl
theorem V52 : Vz.Ok Tryz.prog := by
 refine V3 Q1 tab0 (X0 all_nil (all_cons X25 (all_cons V1f all_nil))) h145 (d := 0) (n0 := 2) (S := lsOf []) Tryz.func145 (by kernel_rfl) (c := c145) (by kernel_rfl) rfl (Z3 (by kernel_rfl)) (by omega) (by kernel_rfl) ?_
 intro x'' y'' q'' hq''
 obtain ⟨_, (b : List Int), _⟩ := y''
 exact (X51 b).trans hq''
def U4j (c : Int) (b : List Int) : Tr Res := .br (fits (List.length b + 1) 1) (.ret ([.dead], [.boxT (some 212) [.ptr 0 0, .rowA 1], .row (.int .u8) (b ++ [c])])) .no
def Vx : OSpec := { f := 146, sh := [.ptr 0 0, .d (.int .u8) false], so := [.tbox 212 [.np, .row 1], .row (.int .u8)], F := fun (c, _) (_, b, _) => U4j c b }
theorem V51 (c : Int) (b : List Int) : evC T0 (orcB [] [U1m, Q0x]) (lpOf h146 2 (lsOf [])) c146 1000000 (V1 [.ptr 0 0, .int .u8 c] [.boxT (some 212) [.np, .rowA 1], .row (.int .u8) b] Tryz.f146.ntmps) (J1 T0 false 2 Tryz.f146) = (U4j c b).get := by kernel_rfl
theorem Z4u : Vx.Ok Tryz.prog := by
 refine V3 Q1 tab0 (X0 all_nil (all_cons X25 (all_cons V1f all_nil))) h146 (d := 0) (n0 := 2) (S := lsOf []) Tryz.func146 (by kernel_rfl) (c := c146) (by kernel_rfl) rfl (Z3 (by kernel_rfl)) (by omega) (by kernel_rfl) ?_
 intro x'' y'' q'' hq''
 obtain ⟨(c : Int), _⟩ := x''
 obtain ⟨_, (b : List Int), _⟩ := y''
 exact (V51 c b).trans hq''
def Q4f (c : Int) (b : List Int) : Tr Res := .br (fits (List.length b + 1) 1) (.ret ([.dead], [.boxT (some 212) [.ptr 0 0, .rowA 1], .row (.int .u8) (b ++ [c])])) .no
def Uy : OSpec := { f := 146, sh := [.ptr 0 0, .d (.int .u8) false], so := [.tbox 212 [.ptr 0 0, .row 1], .row (.int .u8)], F := fun (c, _) (_, b, _) => Q4f c b }
theorem Q50 (c : Int) (b : List Int) : evC T0 (orcB [] [U1m, Q0x]) (lpOf h146 2 (lsOf [])) c146 1000000 (V1 [.ptr 0 0, .int .u8 c] [.boxT (some 212) [.ptr 0 0, .rowA 1], .row (.int .u8) b] Tryz.f146.ntmps) (J1 T0 false 2 Tryz.f146) = (Q4f c b).get := by kernel_rfl
theorem U4v : Uy.Ok Tryz.prog := by
 refine V3 Q1 tab0 (X0 all_nil (all_cons X25 (all_cons V1f all_nil))) h146 (d := 0) (n0 := 2) (S := lsOf []) Tryz.func146 (by kernel_rfl) (c := c146) (by kernel_rfl) rfl (Z3 (by kernel_rfl)) (by omega) (by kernel_rfl) ?_
 intro x'' y'' q'' hq''
 obtain ⟨(c : Int), _⟩ := x''
 obtain ⟨_, (b : List Int), _⟩ := y''
 exact (Q50 c b).trans hq''
def J4j (s : List UInt8) (b : List Int) : Tr Res := .br (fits (List.length b + List.length (V0 s)) 1) (.ret ([.int .i64 (↑s.length : Int), .dead], [.boxT (some 212) [.ptr 0 0, .rowA 1], .row (.int .u8) (b ++ V0 s)])) .no
def Qz : OSpec := { f := 147, sh := [.ptr 0 0, .d .str false], so := [.tbox 212 [.ptr 0 0, .row 1], .row (.int .u8)], F := fun (s, _) (_, b, _) => J4j s b }
theorem Z4p (s : List UInt8) (b : List Int) : evC T0 (orcB [] [U1m, Q0x]) (lpOf h147 2 (lsOf [])) c147 1000000 (V1 [.ptr 0 0, .str s] [.boxT (some 212) [.ptr 0 0, .rowA 1], .row (.int .u8) b] Tryz.f147.ntmps) (J1 T0 false 2 Tryz.f147) = (J4j s b).get := by kernel_rfl
theorem Q4o : Qz.Ok Tryz.prog := by
 refine V3 Q1 tab0 (X0 all_nil (all_cons X25 (all_cons V1f all_nil))) h147 (d := 0) (n0 := 2) (S := lsOf []) Tryz.func147 (by kernel_rfl) (c := c147) (by kernel_rfl) rfl (Z3 (by kernel_rfl)) (by omega) (by kernel_rfl) ?_
 intro x'' y'' q'' hq''
 obtain ⟨(s : List UInt8), _⟩ := x''
 obtain ⟨_, (b : List Int), _⟩ := y''
 exact (Z4p s b).trans hq''
def t66 (n : List UInt8) : Tr Res := .br (bigS n) (.br (Xv n) (.br (decide (List.length n > 255)) (.ret ([.bool false], [])) (.br (bigS n) (.ret ([.bool (Q2 n == n)], [])) .no)) (.ret ([.bool false], []))) .no
def os66 : OSpec := { f := 66, sh := [.d .str false], so := [], F := fun (n, _) _ => t66 n }
theorem fn66 (n : List UInt8) : evC T0 (orcB [fs97, X08] []) (lpOf h66 0 (lsOf [])) c66 1000000 (V1 [.str n] [] Tryz.f66.ntmps) (J1 T0 false 0 Tryz.f66) = (t66 n).get := by kernel_rfl
theorem ok66 : os66.Ok Tryz.prog := by
 refine V3 Q1 tab0 (X0 (all_cons J4l (all_cons X3v all_nil)) all_nil) h66 (d := 0) (n0 := 0) (S := lsOf []) Tryz.func66 (by kernel_rfl) (c := c66) (by kernel_rfl) rfl (Z3 (by kernel_rfl)) (by omega) (by kernel_rfl) ?_
 intro x'' y'' q'' hq''
 obtain ⟨(n : List UInt8), _⟩ := x''
 exact (fn66 n).trans hq''
def fs66 : FSpec := fsT 66 [(.str, false)] [(.bool, false)] fun (n, _) => t66 n
theorem okf66 : fs66.Ok Tryz.prog := V4 fun x'' r'' hr'' => ok66 x'' () r'' hr''
def mayV (s : List UInt8) : Bool := Xv s && (Nat.ble s.length 255 && (Q2 s == s))
theorem U2f (s : List UInt8) : ∀ (m k : Nat) (out : List (List UInt8)), s.length - k = m → k ≤ s.length →
    Zv s k out = (match (X7 (s.drop k)).2 with
     | [] => (true, s.length, out ++ (X7 (s.drop k)).1)
     | c :: t => (decide (c.toNat = 0), s.length - (t.length + 1), out ++ (X7 (s.drop k)).1)) := by
 intro m
 induction m using Nat.strongRecOn with
 | _ m ih =>
   intro k out hm hk
   by_cases hlt : k < s.length
   · obtain ⟨c, t, hct⟩ : ∃ c t, s.drop k = c :: t := by
       rw [Vh s k 0 hlt]
       exact ⟨_, _, rfl⟩
     have hc : s.getD k 0 = c := by
      have := Vh s k 0 hlt
      rw [hct] at this
      exact (List.cons.inj this).1.symm
     have htl : t.length = s.length - k - 1 := by
      have := congrArg List.length hct
      simp at this
      omega
     have ht : t = s.drop (k + 1) := by
      have := Vh s k 0 hlt
      rw [hct] at this
      exact (List.cons.inj this).2
     rw [Zv, dif_pos hlt, hc, hct]
     by_cases h0 : c.toNat = 0
     · rw [if_pos h0, X7, if_pos (.inl h0)]
       simp only [List.append_nil]
       rw [decide_eq_true h0]
       congr 2
       omega
     · rw [if_neg h0]
       by_cases h1 : c.toNat > 63 ∨ k + 1 + c.toNat > s.length
       · rw [if_pos h1, X7, if_pos (by omega)]
         simp only [List.append_nil]
         rw [decide_eq_false h0]
         congr 2
         omega
       · rw [if_neg h1, ih (s.length - (k + 1 + c.toNat)) (by omega) (k + 1 + c.toNat) _ rfl (by omega), X7, if_neg (by omega)]
         have e : s.drop (k + 1 + c.toNat) = t.drop c.toNat := by rw [ht, List.drop_drop]
         rw [e, ← ht]
         simp only [List.append_assoc, List.cons_append, List.nil_append]
   · rw [Zv, dif_neg hlt]
     have : s.drop k = [] := List.drop_eq_nil_of_le (by omega)
     rw [this, X7]
     simp only [List.append_nil]
     congr 2
     omega
theorem J32 : ∀ (n : Nat) (s : List UInt8), s.length = n → (X7 s).2.length ≤ s.length := by
 intro n
 induction n using Nat.strongRecOn with
 | _ n ih =>
   intro s hs
   cases s with
   | nil => rw [X7]; exact Nat.le_refl _
   | cons c t =>
     rw [X7]
     split
     · exact Nat.le_refl _
     · have := ih (t.drop c.toNat).length (by simp at hs ⊢; omega) _ rfl
       simp at this ⊢
       omega
theorem X3t (s : List UInt8) : (lbOk s && decide (lbAt s = (s.length : Int) - 1)) = Xv s ∧ (Xv s = true → Vy s = X2s s) := by
 have h := U2f s s.length 0 [] (by omega) (by omega)
 have hl := J32 _ s rfl
 rw [List.drop_zero] at h
 unfold lbOk lbAt Vy Xv X2s
 rw [h]
 cases hr : (X7 s).2 with
 | nil =>
   simp
   omega
 | cons c t =>
   rw [hr] at hl
   simp at hl
   simp only [List.nil_append, implies_true, and_true]
   rw [Bool.eq_iff_iff]
   simp only [Bool.and_eq_true, decide_eq_true_eq, beq_iff_eq, List.cons.injEq]
   constructor
   · rintro ⟨h1, h2⟩
     refine ⟨?_, List.length_eq_zero_iff.1 (by omega)⟩
     exact UInt8.toNat_inj.1 (by simpa using h1)
   · rintro ⟨rfl, rfl⟩
     simp
     simp at hl
     omega
theorem Z44 (s : List UInt8) : mayS s = mayV s := by
 unfold mayS mayV
 rw [← (X3t s).1, Bool.and_assoc]
 congr 3
 by_cases h : s.length ≤ 255
 · rw [decide_eq_true h, Nat.ble_eq_true_of_le h]
 · rw [decide_eq_false h]
   cases hb : Nat.ble s.length 255 with
   | false => rfl
   | true => exact absurd (Nat.le_of_ble_eq_true hb) h
theorem X0r {a b : Nat} : Nat.ble a b = decide (a ≤ b) := by
 by_cases h : a ≤ b
 · rw [decide_eq_true h, Nat.ble_eq_true_of_le h]
 · rw [decide_eq_false h]
   cases hb : Nat.ble a b with
   | false => rfl
   | true => exact absurd (Nat.le_of_ble_eq_true hb) h
def U4g : FSpec := fs66.like fun (s, _) => .on (bigS s) (mayV s, ())
theorem Z4r : U4g.Ok Tryz.prog := by
 refine Q3 okf66 _ ?_
 rintro ⟨(s : List UInt8), _⟩ y h
 obtain ⟨hb, rfl⟩ := Tr.get_on h
 refine X2 (vs := [.bool (mayV s)]) rfl rfl (Tr.get_of_all ?_)
 show (t66 s).all _
 refine Tr.all_t hb (Tr.all_br (fun c1 => Tr.all_br (fun c2 => Tr.all_ret ?_) fun c2 => Tr.all_t hb (Tr.all_ret ?_)) fun c1 => Tr.all_ret ?_)
 · simp only [decide_eq_true_eq] at c2
   have : ¬ s.length ≤ 255 := by omega
   simp [mayV, X0r, this]
 · simp only [decide_eq_false_iff_not] at c2
   have : s.length ≤ 255 := by omega
   simp [mayV, X0r, this, c1]
 · simp [mayV, c1]
def Z10 : FSpec := fs72.like fun (s, _) => .on (bigS s) (mayV s, ())
theorem U3l : Z10.Ok Tryz.prog := by
 rintro ⟨(s : List UInt8), _⟩ y h
 obtain ⟨hb, rfl⟩ := Tr.get_on h
 have := J4s (s, ()) (mayS s, ()) (by show (Tr.on (bigS s) _).get = _; rw [hb]; rfl)
 rw [Z44] at this
 exact this
def tlN (n : List UInt8) : List UInt8 := n.drop (1 + (n.getD 0 0).toNat)
theorem Z1b {n : List UInt8} (h : Xv n = true) : n = [0] ∨ (n ≠ [0] ∧ n ≠ [] ∧ 1 + (n.getD 0 0).toNat < n.length ∧ (n.getD 0 0).toNat ≤ 63 ∧ (n.getD 0 0).toNat ≠ 0 ∧ Xv (tlN n) = true) := by
 unfold Xv at h
 cases n with
 | nil => rw [X7] at h; simp at h
 | cons c t =>
   rw [X7] at h
   split at h
   · exact .inl (by simpa using h)
   · rename_i hc
     refine .inr ⟨fun e => ?_, by simp, ?_, ?_, ?_, ?_⟩
     · cases e; simp at hc
     · have he : (t.drop c.toNat) ≠ [] := fun e => by
         rw [e, X7] at h
         simp at h
       have := List.length_pos_iff.2 he
       simp at this ⊢
       omega
     · simp; omega
     · simp; omega
     · unfold Xv tlN
       simpa [Nat.add_comm 1] using h
theorem V0k (s : List UInt8) : U1 (V0 s) = s := by
 unfold U1 V0
 rw [List.map_map]
 conv => rhs; rw [← List.map_id s]
 exact List.map_congr_left fun x _ => by simp
theorem X02 (b : List Int) : (U1 b).length = b.length := by simp [U1]
theorem Z0p (a b : List Int) : U1 (a ++ b) = U1 a ++ U1 b := by simp [U1]
theorem X1u (a b : List UInt8) : V0 (a ++ b) = V0 a ++ V0 b := by simp [V0]
theorem Q00 {a b : List Int} (ha : Z8 a = true) (hb : Z8 b = true) : Z8 (a ++ b) = true := by
 simp only [Z8, List.all_append, Bool.and_eq_true] at *
 exact ⟨ha, hb⟩
theorem J43 (n : List UInt8) : (tlN n).length = n.length - (1 + (n.getD 0 0).toNat) := by unfold tlN; rw [List.length_drop]
theorem getD_some {α : Type} {o : Option α} {a d : α} (h : o = some a) : o.getD d = a := by rw [h]; rfl
theorem X3b : ∀ i, i < 16 → (49152 : Nat).testBit i = decide (14 ≤ i) := by decide
theorem V47 (n : Nat) (hn : n < 65536) : n &&& (2 ^ 64 - 1 - 49152) = n % 16384 := by
 refine Nat.eq_of_testBit_eq fun i => ?_
 rw [Nat.testBit_and, show (16384 : Nat) = 2 ^ 14 from rfl, Nat.testBit_mod_two_pow]
 by_cases hi : i < 16
 · have h1 := X3b i hi
   have h2 : (2 ^ 64 - 1 - 49152 : Nat).testBit i = !(49152 : Nat).testBit i := by
    have := Nat.testBit_two_pow_sub_succ (n := 64) (x := 49152) (by decide) i
    rw [show (2 ^ 64 - 1 - 49152 : Nat) = 2 ^ 64 - (49152 + 1) by decide, this]
    simp
    omega
   rw [h2, h1]
   by_cases h14 : i < 14
   · have : ¬ 14 ≤ i := by omega
     simp [h14, this]
   · have : 14 ≤ i := by omega
     simp [h14, this]
 · have : n.testBit i = false := Nat.testBit_lt_two_pow (Nat.lt_of_lt_of_le hn (show 2 ^ 16 ≤ 2 ^ i from Nat.pow_le_pow_right (by omega) (by omega)))
   rw [this]
   simp
theorem Z2q {a : Int} (h0 : 0 ≤ a) (h1 : a ≤ 65535) : IntKind.wrap IntKind.i64 (↑(BitVec.toNat (BitVec.ofInt (IntKind.bits IntKind.i64) (IntKind.wrap IntKind.i64 a) &&& ~~~BitVec.ofInt (IntKind.bits IntKind.i64) (49152 : Int))) : Int) = a % 16384 := by
 obtain ⟨m, rfl⟩ : ∃ m : Nat, a = m := ⟨a.toNat, by omega⟩
 rw [IntWalk.i64_in (m : Int) (by omega)]
 have e : BitVec.toNat (BitVec.ofInt (IntKind.bits IntKind.i64) ((m : Nat) : Int) &&& ~~~BitVec.ofInt (IntKind.bits IntKind.i64) ((49152 : Nat) : Int)) = m % 16384 := by
  show BitVec.toNat (BitVec.ofInt 64 ((m : Nat) : Int) &&& ~~~BitVec.ofInt 64 ((49152 : Nat) : Int)) = _
  rw [BitVec.ofInt_natCast, BitVec.ofInt_natCast, BitVec.toNat_and, BitVec.toNat_not, BitVec.toNat_ofNat, BitVec.toNat_ofNat, Nat.mod_eq_of_lt (by omega), Nat.mod_eq_of_lt (by omega)]
  exact V47 m (by omega)
 rw [show ((49152 : Int)) = ((49152 : Nat) : Int) from rfl, e, IntWalk.i64_in _ (by omega)]
 rfl
def szT (s : List UInt8) (at_ : Int) : Nat := (s.getD at_.toNat 0).toNat
def toT (s : List UInt8) (at_ : Int) : Int := n16 s at_ % 16384
theorem Z3w (s : List UInt8) (at_ : Int) : szT s at_ ≤ 255 := by
 have := (s.getD at_.toNat 0).toNat_lt
 unfold szT
 omega
theorem Q19 (s : List UInt8) (at_ : Int) : 0 ≤ n16 s at_ ∧ n16 s at_ ≤ 65535 := by
 have h1 := (s.getD at_.toNat 0).toNat_lt
 have h2 := (s.getD (at_.toNat + 1) 0).toNat_lt
 unfold n16
 omega
theorem Z01 (s : List UInt8) (at_ : Int) : 0 ≤ toT s at_ ∧ toT s at_ < 16384 := by
 unfold toT
 omega
def msT (s : List UInt8) (at_ from_ : Int) : Nat := from_.toNat * (s.length + 2) + (s.length + 1 - at_.toNat)
theorem V6 {s : List UInt8} {at_ many : Int} : Q0 s at_ many = true ↔ 0 ≤ at_ ∧ 0 ≤ many ∧ at_ + many ≤ s.length := by simp [Q0]
theorem U0u {s : List UInt8} {at_ from_ to : Int} (h0 : 0 ≤ to) (h : to < from_) : msT s to to < msT s at_ from_ := by
 unfold msT
 have h1 : to.toNat + 1 ≤ from_.toNat := by omega
 have h2 : (to.toNat + 1) * (s.length + 2) ≤ from_.toNat * (s.length + 2) := Nat.mul_le_mul_right _ h1
 rw [Nat.add_mul, Nat.one_mul] at h2
 omega
theorem Z2g {s : List UInt8} {at_ from_ : Int} {c : Nat} (h0 : 0 ≤ at_) (h : at_ + 1 + c ≤ s.length) : msT s (at_ + 1 + c) from_ < msT s at_ from_ := by
 unfold msT
 omega
def U2 (s : List UInt8) (at_ from_ behind : Int) (out : List UInt8) : Option (List UInt8 × Int) :=
 if h1 : Q0 s at_ 1 = true then
  if 192 ≤ szT s at_ then
   (if h3 : Q0 s at_ 2 = true ∧ toT s at_ < from_ then U2 s (toT s at_) (toT s at_) (if behind < 0 then at_ + 2 else behind) out else none)
  else if 63 < szT s at_ then none
  else if h4 : Q0 s (at_ + 1) (szT s at_) = true ∧ out.length + 1 + szT s at_ ≤ 255 then
   (if szT s at_ = 0 then some (out ++ [0], if behind < 0 then at_ + 1 else behind)
    else U2 s (at_ + 1 + szT s at_) from_ behind (out ++ s.getD at_.toNat 0 :: Q2 (Z1 s (at_ + 1) (szT s at_))))
  else none
 else none
termination_by msT s at_ from_
decreasing_by
 · exact U0u (Z01 s at_).1 h3.2
 · have h1 := V6.1 h1
   have h4 := V6.1 h4.1
   exact Z2g h1.1 h4.2.2
def tkS : Option (List UInt8 × Int) → List UInt8
 | some p => p.1
 | none => []
def tkN : Option (List UInt8 × Int) → Int
 | some p => p.2
 | none => 0
def tkE : Option (List UInt8 × Int) → Int
 | some _ => 0
 | none => 2
def resT (o : Option (List UInt8 × Int)) : List AV := [.str (tkS o), .int .i64 (tkN o), .int .i64 (tkE o)]
section
variable {s : List UInt8} {at_ from_ behind : Int} {out : List UInt8}
theorem Zx (h : Q0 s at_ 1 = false) : U2 s at_ from_ behind out = none := by rw [U2, dif_neg (by rw [h]; simp)]
theorem Z0f (h : Q0 s at_ 1 = true) (h2 : 192 ≤ szT s at_) (h3 : Q0 s at_ 2 = true) (h4 : toT s at_ < from_) : U2 s at_ from_ behind out = U2 s (toT s at_) (toT s at_) (if behind < 0 then at_ + 2 else behind) out := by
 rw [U2, dif_pos h, if_pos h2, dif_pos ⟨h3, h4⟩]
theorem U0e (h : Q0 s at_ 1 = true) (h2 : 192 ≤ szT s at_) (h3 : ¬ (Q0 s at_ 2 = true ∧ toT s at_ < from_)) : U2 s at_ from_ behind out = none := by
 rw [U2, dif_pos h, if_pos h2, dif_neg h3]
theorem X0e (h : Q0 s at_ 1 = true) (h2 : ¬ 192 ≤ szT s at_) (h3 : 63 < szT s at_) : U2 s at_ from_ behind out = none := by
 rw [U2, dif_pos h, if_neg h2, if_pos h3]
theorem Xj (h : Q0 s at_ 1 = true) (h2 : szT s at_ ≤ 63) (h4 : ¬ (Q0 s (at_ + 1) (szT s at_) = true ∧ out.length + 1 + szT s at_ ≤ 255)) : U2 s at_ from_ behind out = none := by
 rw [U2, dif_pos h, if_neg (by omega), if_neg (by omega), dif_neg h4]
theorem X0g (h : Q0 s at_ 1 = true) (h2 : szT s at_ = 0) (h4 : out.length + 1 ≤ 255) : U2 s at_ from_ behind out = some (out ++ [0], if behind < 0 then at_ + 1 else behind) := by
 have h5 : Q0 s (at_ + 1) (szT s at_) = true := by
  have := V6.1 h
  rw [h2]
  exact V6.2 ⟨by omega, by simp, by simp; omega⟩
 rw [U2, dif_pos h, if_neg (by omega), if_neg (by omega), dif_pos ⟨h5, by omega⟩, if_pos h2]
theorem J0n (h : Q0 s at_ 1 = true) (h2 : szT s at_ ≤ 63) (h3 : szT s at_ ≠ 0) (h4 : Q0 s (at_ + 1) (szT s at_) = true) (h5 : out.length + 1 + szT s at_ ≤ 255) :
    U2 s at_ from_ behind out = U2 s (at_ + 1 + szT s at_) from_ behind (out ++ s.getD at_.toNat 0 :: Q2 (Z1 s (at_ + 1) (szT s at_))) := by
 rw [U2, dif_pos h, if_neg (by omega), if_neg (by omega), dif_pos ⟨h4, h5⟩, if_neg h3]
end
theorem Vb (s : List UInt8) : (Q2 s).length = s.length := by simp [Q2]
theorem Z0x {s : List UInt8} {at_ many : Int} (h : Q0 s at_ many = true) : (Z1 s at_ many).length = many.toNat := by
 have := V6.1 h
 simp [Z1]
 omega
end Go.Proofs.YtpledbapngdkeaaGreatE
namespace Go.Proofs.YtpledbapngdkeaaGreatE
open Go Go.Proofs.YtpledbapngdkeaaGreatB
set_option linter.unusedVariables false
set_option linter.unusedSimpArgs false
theorem V3h (c : UInt8) : lowB (lowB c) = lowB c := by
 unfold lowB
 have hlt := c.toNat_lt
 by_cases h : c.toNat ≥ 65 ∧ c.toNat ≤ 90
 · rw [show (decide (c.toNat ≥ 65) && decide (c.toNat ≤ 90)) = true by simp; omega, cond_true]
   have e : (UInt8.ofNat (c.toNat + 32)).toNat = c.toNat + 32 := by simp; omega
   rw [show (decide ((UInt8.ofNat (c.toNat + 32)).toNat ≥ 65) && decide ((UInt8.ofNat (c.toNat + 32)).toNat ≤ 90)) = false by rw [e]; simp; omega, cond_false]
 · rw [show (decide (c.toNat ≥ 65) && decide (c.toNat ≤ 90)) = false by simp; omega, cond_false]
   rw [show (decide (c.toNat ≥ 65) && decide (c.toNat ≤ 90)) = false by simp; omega, cond_false]
theorem U16 {c : UInt8} (h : c.toNat ≤ 63) : lowB c = c := by
 unfold lowB
 rw [show (decide (c.toNat ≥ 65) && decide (c.toNat ≤ 90)) = false by simp; omega, cond_false]
theorem X2l (s : List UInt8) : Q2 (Q2 s) = Q2 s := by
 unfold Q2
 rw [List.map_map]
 exact List.map_congr_left fun c _ => V3h c
theorem V0v (a b : List UInt8) : Q2 (a ++ b) = Q2 a ++ Q2 b := by simp [Q2]
theorem Q18 (c : UInt8) (b : List UInt8) : Q2 (c :: b) = lowB c :: Q2 b := rfl
def X0q (s : List UInt8) : Prop := Q2 s = s
theorem V1s {a b : List UInt8} : X0q (a ++ b) ↔ X0q a ∧ X0q b := by
 unfold X0q
 rw [V0v]
 constructor
 · intro h
   have h1 := (List.append_inj h (Vb a))
   exact h1
 · rintro ⟨h1, h2⟩
   rw [h1, h2]
def byN (s : List UInt8) (k : Nat) : Nat := (s.getD k 0).toNat
theorem Qd (s : List UInt8) (k : Nat) : szT s (k : Int) = byN s k := by unfold szT byN; rw [Int.toNat_natCast]
inductive Rd (S : List UInt8) : Nat → Nat → List UInt8 → Nat → Prop where
 | root {k f : Nat} (h : k < S.length) (h0 : byN S k = 0) : Rd S k f [0] (k + 1)
 | label {k f e : Nat} {n : List UInt8} (h1 : byN S k ≠ 0) (h63 : byN S k ≤ 63) (hin : k + 1 + byN S k ≤ S.length) (h : Rd S (k + 1 + byN S k) f n e) :
     Rd S k f (S.getD k 0 :: Q2 ((S.drop (k + 1)).take (byN S k)) ++ n) e
 | ptr {k f e : Nat} {n : List UInt8} {to : Nat} (h192 : 192 ≤ byN S k) (hin : k + 2 ≤ S.length) (hto : toT S (k : Int) = to) (hlt : to < f) (h : Rd S to to n e) : Rd S k f n (k + 2)
theorem Xk {s : List UInt8} {k m : Nat} : Q0 s (k : Int) (m : Int) = true ↔ k + m ≤ s.length := by
 rw [V6]
 omega
theorem Z3h {S X : List UInt8} {k : Nat} (h : k < S.length) : (S ++ X).getD k 0 = S.getD k 0 := by
 rw [List.getD_eq_getElem?_getD, List.getD_eq_getElem?_getD, List.getElem?_append_left h]
theorem X48 {S X : List UInt8} {k : Nat} (h : k < S.length) : byN (S ++ X) k = byN S k := by unfold byN; rw [Z3h h]
theorem Q05 {n : List UInt8} : mayV n = true ↔ Xv n = true ∧ n.length ≤ 255 ∧ X0q n := by
 unfold mayV X0q
 rw [X0r]
 simp
def LP (out : List UInt8) : Prop := X0q out ∧ ∀ r, (X7 (out ++ r)).2 = (X7 r).2
theorem Z4z : LP [] := ⟨rfl, fun r => rfl⟩
theorem LP_on {out v : List UInt8} {c : UInt8} (h : LP out) (h0 : c.toNat ≠ 0) (h63 : c.toNat ≤ 63) (hv : v.length = c.toNat) : LP (out ++ c :: Q2 v) := by
 refine ⟨V1s.2 ⟨h.1, ?_⟩, fun r => ?_⟩
 · unfold X0q
   rw [Q18, U16 h63, X2l]
 · rw [List.append_assoc, h.2, List.cons_append, X7, if_neg (by simp [Vb, hv]; omega)]
   simp only
   rw [List.drop_append_of_le_length (by simp [Vb, hv]), List.drop_eq_nil_of_le (by simp [Vb, hv])]
   rfl
theorem J37 {s : List UInt8} : ∀ (m : Nat) (at_ from_ b : Int) (out n : List UInt8) (next : Int), msT s at_ from_ = m → LP out → U2 s at_ from_ b out = some (n, next) →
    mayV n = true ∧ (0 ≤ b → next = b) ∧ (b < 0 → at_ < next ∧ next ≤ s.length) ∧ 0 ≤ at_ := by
 intro m
 induction m using Nat.strongRecOn with
 | _ m ih =>
   intro at_ from_ b out n next hm hL h
   cases h1 : Q0 s at_ 1 with
   | false => rw [Zx h1] at h; cases h
   | true =>
     have hs1 := V6.1 h1
     by_cases h192 : 192 ≤ szT s at_
     · by_cases h3 : Q0 s at_ 2 = true ∧ toT s at_ < from_
       · rw [Z0f h1 h192 h3.1 h3.2] at h
         have hto := Z01 s at_
         obtain ⟨a1, a2, a3, a4⟩ := ih (msT s (toT s at_) (toT s at_)) (by have := U0u (s := s) (at_ := at_) hto.1 h3.2; omega) _ _ _ _ _ _ rfl hL h
         have hs2 := V6.1 h3.1
         refine ⟨a1, fun hb => ?_, fun hb => ?_, hs1.1⟩
         · rw [if_neg (by omega)] at a2
           exact a2 hb
         · rw [if_pos hb] at a2
           have := a2 (by omega)
           omega
       · rw [U0e h1 h192 h3] at h; cases h
     · by_cases h63 : 63 < szT s at_
       · rw [X0e h1 h192 h63] at h; cases h
       · by_cases h4 : Q0 s (at_ + 1) (szT s at_) = true ∧ out.length + 1 + szT s at_ ≤ 255
         · have hs4 := V6.1 h4.1
           have hvl : (Z1 s (at_ + 1) (szT s at_ : Int)).length = szT s at_ := by rw [Z0x h4.1]; omega
           by_cases h0 : szT s at_ = 0
           · rw [X0g h1 h0 (by omega)] at h
             cases h
             refine ⟨Q05.2 ⟨?_, by simp; omega, V1s.2 ⟨hL.1, by unfold X0q; decide⟩⟩, fun hb => by rw [if_neg (by omega)], fun hb => by rw [if_pos hb]; omega, hs1.1⟩
             unfold Xv
             rw [hL.2, X7, if_pos (by decide)]
             rfl
           · rw [J0n h1 (by omega) h0 h4.1 h4.2] at h
             have hg : (s.getD at_.toNat 0).toNat = szT s at_ := rfl
             obtain ⟨a1, a2, a3, a4⟩ := ih (msT s (at_ + 1 + szT s at_) from_) (by have := Z2g (s := s) (from_ := from_) hs1.1 hs4.2.2; omega) _ _ _ _ _ _ rfl (LP_on hL (by rw [hg]; exact h0) (by rw [hg]; omega) (by rw [hg]; exact hvl)) h
             refine ⟨a1, a2, fun hb => ?_, hs1.1⟩
             have := a3 hb
             omega
         · rw [Xj h1 (by omega) h4] at h; cases h
def labE (s : List UInt8) (k : Nat) : Option (Nat × Bool) :=
 if h : k < s.length then
  (if 192 ≤ byN s k then some (k, false) else if 63 < byN s k then none else if byN s k = 0 then some (k + 1, true) else labE s (k + 1 + byN s k))
 else none
termination_by s.length - k
theorem Z0g {s : List UInt8} : ∀ (m k e : Nat) (r : Bool), s.length - k = m → labE s k = some (e, r) → k ≤ e ∧ e ≤ s.length ∧ (r = true → k < e ∧ byN s (e - 1) = 0) := by
 intro m
 induction m using Nat.strongRecOn with
 | _ m ih =>
   intro k e r hm h
   rw [labE] at h
   by_cases hk : k < s.length
   · rw [dif_pos hk] at h
     split at h
     · cases h; exact ⟨Nat.le_refl _, by omega, fun h => by cases h⟩
     · split at h
       · cases h
       · split at h
         · cases h; exact ⟨by omega, by omega, fun _ => ⟨by omega, by simpa⟩⟩
         · have := ih (s.length - (k + 1 + byN s k)) (by omega) _ e r rfl h
           exact ⟨by omega, this.2.1, fun hr => ⟨by omega, (this.2.2 hr).2⟩⟩
   · rw [dif_neg hk] at h; cases h
def sub (s : List UInt8) (a e : Nat) : List UInt8 := (s.drop a).take (e - a)
theorem Q12 {s : List UInt8} {a e : Nat} (h : a ≤ e) (he : e ≤ s.length) : (sub s a e).length = e - a := by simp [sub]; omega
theorem V1y {s : List UInt8} {a e j : Nat} (h : a + j < e) (he : e ≤ s.length) : byN (sub s a e) j = byN s (a + j) := by
 unfold byN sub
 rw [List.getD_eq_getElem?_getD, List.getElem?_take_of_lt (by omega), List.getElem?_drop, List.getD_eq_getElem?_getD]
theorem Z1t {s : List UInt8} {a m e : Nat} (h1 : a ≤ m) (h2 : m ≤ e) : sub s a e = sub s a m ++ sub s m e := by
 unfold sub
 have : e - a = (m - a) + (e - m) := by omega
 rw [this, List.take_add, List.drop_drop]
 congr 3
 omega
theorem Q2v {s : List UInt8} {a c : Nat} (h : a < s.length) : sub s a (a + 1 + c) = s.getD a 0 :: (s.drop (a + 1)).take c := by
 unfold sub
 rw [Vh s a 0 h, show a + 1 + c - a = c + 1 by omega]
 rfl
def Qo (p : List UInt8) (k : Nat) : Bool :=
 if h : k < p.length then (if byN p k = 0 then decide (k = p.length - 1) else Qo p (k + 1 + byN p k)) else false
termination_by p.length - k
theorem V2y {s : List UInt8} : ∀ (m a k e : Nat) (r : Bool), s.length - k = m → a ≤ k → labE s k = some (e, r) → Qo (sub s a e) (k - a) = r := by
 intro m
 induction m using Nat.strongRecOn with
 | _ m ih =>
   intro a k e r hm hak h
   have hge := Z0g _ k e r rfl h
   have hlen := Q12 (s := s) (a := a) (e := e) (by omega) hge.2.1
   have h' := h
   rw [labE] at h
   by_cases hk : k < s.length
   · rw [dif_pos hk] at h
     split at h
     · cases h
       rw [Qo, dif_neg (by omega)]
     · split at h
       · cases h
       · split at h
         · rename_i h0
           cases h
           rw [Qo, dif_pos (by omega), if_pos (by rw [V1y (by omega) hge.2.1, show a + (k - a) = k by omega]; exact h0)]
           exact decide_eq_true (by omega)
         · rename_i h0
           have hge2 := Z0g _ _ e r rfl h
           have hb : byN (sub s a e) (k - a) = byN s k := by rw [V1y (by omega) hge.2.1, show a + (k - a) = k by omega]
           rw [Qo, dif_pos (by omega), if_neg (by rw [hb]; exact h0), hb, show k - a + 1 + byN s k = (k + 1 + byN s k) - a by omega]
           exact ih (s.length - (k + 1 + byN s k)) (by omega) a _ e r rfl (by omega) h
   · rw [dif_neg hk] at h; cases h
def V11 (s : List UInt8) (a : Nat) (b : Int) (n : List UInt8) : Option (List UInt8 × Int) :=
 match labE s a with
 | none => none
 | some (e, true) => some (n ++ sub s a e, if b < 0 then (e : Int) else b)
 | some (e, false) => if h : e + 2 ≤ s.length ∧ toT s (e : Int) < (a : Int) then V11 s (toT s (e : Int)).toNat (if b < 0 then (e : Int) + 2 else b) (n ++ sub s a e) else none
termination_by a
decreasing_by
 have := Z01 s (e : Int)
 omega
theorem Z34 {s : List UInt8} : ∀ (a : Nat) (b : Int) (n m : List UInt8) (b' : Int), V11 s a b n = some (m, b') → n.length ≤ m.length := by
 intro a
 induction a using Nat.strongRecOn with
 | _ a ih =>
   intro b n m b' h
   rw [V11] at h
   split at h
   · cases h
   · cases h; simp
   · rename_i e _
     split at h
     · rename_i hc
       have hto := Z01 s (e : Int)
       have := ih _ (by omega) _ _ _ _ h
       simp at this
       omega
     · cases h
theorem J35 {s : List UInt8} : ∀ (m k f : Nat) (b : Int) (out : List UInt8), s.length - k = m →
    (labE s k = none → U2 s (k : Int) (f : Int) b (Q2 out) = none) ∧
    (∀ e, labE s k = some (e, true) → U2 s (k : Int) (f : Int) b (Q2 out) = if out.length + (e - k) ≤ 255 then some (Q2 (out ++ sub s k e), if b < 0 then (e : Int) else b) else none) ∧
    (∀ e, labE s k = some (e, false) → out.length ≤ 255 → U2 s (k : Int) (f : Int) b (Q2 out) = if out.length + (e - k) ≤ 255 then U2 s (e : Int) (f : Int) b (Q2 (out ++ sub s k e)) else none) := by
 intro m
 induction m using Nat.strongRecOn with
 | _ m ih =>
   intro k f b out hm
   by_cases hk : k < s.length
   · have h1 : Q0 s (k : Int) 1 = true := Xk.2 (by omega : k + 1 ≤ s.length)
     have hL := labE.eq_1 s k
     rw [dif_pos hk] at hL
     by_cases h192 : 192 ≤ byN s k
     · rw [if_pos h192] at hL
       refine ⟨fun h => (by rw [h] at hL; cases hL), fun e h => (by rw [h] at hL; cases hL), fun e h hl => ?_⟩
       rw [h] at hL
       cases hL
       rw [if_pos (by omega)]
       simp [sub]
     · rw [if_neg h192] at hL
       by_cases h63 : 63 < byN s k
       · rw [if_pos h63] at hL
         refine ⟨fun h => X0e h1 (by rw [Qd]; exact h192) (by rw [Qd]; exact h63), fun e h => (by rw [h] at hL; cases hL), fun e h => (by rw [h] at hL; cases hL)⟩
       · rw [if_neg h63] at hL
         by_cases h0 : byN s k = 0
         · rw [if_pos h0] at hL
           have hg0 : s.getD k 0 = 0 := UInt8.toNat_inj.1 (by simpa using (show (s.getD k 0).toNat = 0 from h0))
           refine ⟨fun h => (by rw [h] at hL; cases hL), fun e h => ?_, fun e h => (by rw [h] at hL; cases hL)⟩
           rw [h] at hL
           cases hL
           have hs : sub s k (k + 1) = [0] := by
            have := Q2v (s := s) (a := k) (c := 0) hk
            rw [hg0] at this
            simpa using this
           by_cases hc : out.length + 1 ≤ 255
           · rw [if_pos (by omega), X0g h1 (by rw [Qd]; exact h0) (by rw [Vb]; exact hc), hs, V0v]
             rfl
           · rw [if_neg (by omega)]
             exact Xj h1 (by rw [Qd]; omega) (by rw [Vb, Qd]; exact fun h => hc (by omega))
         · rw [if_neg h0] at hL
           by_cases hin : k + 1 + byN s k ≤ s.length
           · have h4 : Q0 s ((k : Int) + 1) (szT s (k : Int) : Int) = true := by
               rw [Qd, show ((k : Int) + 1) = ((k + 1 : Nat) : Int) by omega, Xk]
               omega
             have e1 : (k : Int) + 1 + (szT s (k : Int) : Int) = ((k + 1 + byN s k : Nat) : Int) := by rw [Qd]; omega
             have e2 : Z1 s ((k : Int) + 1) (szT s (k : Int) : Int) = (s.drop (k + 1)).take (byN s k) := by
              unfold Z1
              rw [Qd, Int.toNat_natCast, show ((k : Int) + 1).toNat = k + 1 by omega]
             have hsl : (sub s k (k + 1 + byN s k)).length = 1 + byN s k := by rw [Q12 (by omega) hin]; omega
             have hfold : Q2 out ++ s.getD k 0 :: Q2 ((s.drop (k + 1)).take (byN s k)) = Q2 (out ++ sub s k (k + 1 + byN s k)) := by
              rw [V0v, Q2v hk, Q18, U16 (show (s.getD k 0).toNat ≤ 63 from by unfold byN at h63; omega)]
             obtain ⟨i1, i2, i3⟩ := ih (s.length - (k + 1 + byN s k)) (by omega) (k + 1 + byN s k) f b (out ++ sub s k (k + 1 + byN s k)) rfl
             have hstep : out.length + 1 + byN s k ≤ 255 → U2 s (k : Int) (f : Int) b (Q2 out) = U2 s ((k + 1 + byN s k : Nat) : Int) (f : Int) b (Q2 (out ++ sub s k (k + 1 + byN s k))) := fun hc => by
              rw [J0n h1 (by rw [Qd]; omega) (by rw [Qd]; exact h0) h4 (by rw [Vb, Qd]; exact hc), e1, e2, Int.toNat_natCast, hfold]
             have hbad : ¬ out.length + 1 + byN s k ≤ 255 → U2 s (k : Int) (f : Int) b (Q2 out) = none := fun hc =>
              Xj h1 (by rw [Qd]; omega) (by rw [Vb, Qd]; exact fun h => hc h.2)
             refine ⟨fun h => ?_, fun e h => ?_, fun e h hl => ?_⟩
             · rw [h] at hL
               by_cases hc : out.length + 1 + byN s k ≤ 255
               · rw [hstep hc]; exact i1 hL.symm
               · exact hbad hc
             · rw [h] at hL
               have hge := Z0g _ _ e true rfl hL.symm
               by_cases hc : out.length + 1 + byN s k ≤ 255
               · rw [hstep hc, i2 e hL.symm, List.length_append, hsl, List.append_assoc, ← Z1t (by omega) hge.1]
                 by_cases hd : out.length + (e - k) ≤ 255
                 · rw [if_pos hd, if_pos (by omega)]
                 · rw [if_neg hd, if_neg (by omega)]
               · rw [hbad hc, if_neg (by omega)]
             · rw [h] at hL
               have hge := Z0g _ _ e false rfl hL.symm
               by_cases hc : out.length + 1 + byN s k ≤ 255
               · rw [hstep hc, i3 e hL.symm (by rw [List.length_append, hsl]; omega), List.length_append, hsl, List.append_assoc, ← Z1t (by omega) hge.1]
                 by_cases hd : out.length + (e - k) ≤ 255
                 · rw [if_pos hd, if_pos (by omega)]
                 · rw [if_neg hd, if_neg (by omega)]
               · rw [hbad hc, if_neg (by omega)]
           · have hn : labE s (k + 1 + byN s k) = none := by rw [labE, dif_neg (by omega)]
             rw [hn] at hL
             refine ⟨fun h => ?_, fun e h => (by rw [h] at hL; cases hL), fun e h => (by rw [h] at hL; cases hL)⟩
             exact Xj h1 (by rw [Qd]; omega) (fun h => by
              have h4 := h.1
              rw [Qd, show ((k : Int) + 1) = ((k + 1 : Nat) : Int) by omega, Xk] at h4
              omega)
   · have hL : labE s k = none := by rw [labE, dif_neg hk]
     refine ⟨fun _ => Zx ?_, fun e h => (by rw [h] at hL; cases hL), fun e h => (by rw [h] at hL; cases hL)⟩
     cases h : Q0 s (k : Int) 1 with
     | false => rfl
     | true => have := (Xk (m := 1)).1 h; omega
theorem U4b {s : List UInt8} : ∀ (a : Nat) (b : Int) (out : List UInt8), out.length ≤ 255 → U2 s (a : Int) (a : Int) b (Q2 out) = (match V11 s a b out with
    | none => none
    | some p => if p.1.length ≤ 255 then some (Q2 p.1, p.2) else none) := by
 intro a
 induction a using Nat.strongRecOn with
 | _ a ih =>
   intro b out hl
   obtain ⟨l1, l2, l3⟩ := J35 (s := s) _ a a b out rfl
   rw [V11]
   cases hL : labE s a with
   | none => rw [l1 hL]
   | some p =>
     obtain ⟨e, r⟩ := p
     have hge := Z0g _ a e r rfl hL
     have hsl := Q12 (s := s) hge.1 hge.2.1
     cases r with
     | true =>
       rw [l2 e hL]
       simp only [List.length_append, hsl]
     | false =>
       rw [l3 e hL hl]
       have hto := Z01 s (e : Int)
       by_cases hc : out.length + (e - a) ≤ 255
       · rw [if_pos hc]
         by_cases h2 : e + 2 ≤ s.length ∧ toT s (e : Int) < (a : Int)
         · simp only [dif_pos h2]
           have h192 : 192 ≤ szT s (e : Int) := by
            rw [Qd]
            have : ∀ (m k : Nat), s.length - k = m → labE s k = some (e, false) → 192 ≤ byN s e := by
             intro m
             induction m using Nat.strongRecOn with
             | _ m ih =>
               intro k hm h
               rw [labE] at h
               by_cases hk : k < s.length
               · rw [dif_pos hk] at h
                 split at h
                 · cases h; assumption
                 · split at h
                   · cases h
                   · split at h
                     · cases h
                     · exact ih (s.length - (k + 1 + byN s k)) (by omega) _ rfl h
               · rw [dif_neg hk] at h; cases h
            exact this _ a rfl hL
           rw [Z0f (Xk.2 (by omega : e + 1 ≤ s.length)) h192 (Xk.2 (by omega : e + 2 ≤ s.length)) h2.2]
           have e1 : toT s (e : Int) = (((toT s (e : Int)).toNat : Nat) : Int) := by omega
           have := ih (toT s (e : Int)).toNat (by omega) (if b < 0 then (e : Int) + 2 else b) (out ++ sub s a e) (by rw [List.length_append, hsl]; exact hc)
           rw [← e1] at this
           exact this
         · simp only [dif_neg h2]
           by_cases h1 : Q0 s (e : Int) 1 = true
           · have h192 : 192 ≤ szT s (e : Int) := by
               rw [Qd]
               have : ∀ (m k : Nat), s.length - k = m → labE s k = some (e, false) → 192 ≤ byN s e := by
                intro m
                induction m using Nat.strongRecOn with
                | _ m ih =>
                  intro k hm h
                  rw [labE] at h
                  by_cases hk : k < s.length
                  · rw [dif_pos hk] at h
                    split at h
                    · cases h; assumption
                    · split at h
                      · cases h
                      · split at h
                        · cases h
                        · exact ih (s.length - (k + 1 + byN s k)) (by omega) _ rfl h
                  · rw [dif_neg hk] at h; cases h
               exact this _ a rfl hL
             exact U0e h1 h192 (fun h => h2 ⟨Xk.1 h.1, h.2⟩)
           · exact Zx (by simpa using h1)
       · rw [if_neg hc]
         by_cases h2 : e + 2 ≤ s.length ∧ toT s (e : Int) < (a : Int)
         · simp only [dif_pos h2]
           cases hp : V11 s (toT s (e : Int)).toNat (if b < 0 then (e : Int) + 2 else b) (out ++ sub s a e) with
           | none => rfl
           | some p =>
             have := Z34 _ _ _ _ _ hp
             rw [List.length_append, hsl] at this
             simp only
             rw [if_neg (by omega)]
         · simp only [dif_neg h2]
def labX (s : List UInt8) (k : Nat) : Bool := if h : k < s.length then (if 192 ≤ byN s k then false else if 63 < byN s k then false else if byN s k = 0 then false else labX s (k + 1 + byN s k)) else true
termination_by s.length - k
theorem J4y {s : List UInt8} : ∀ (m k : Nat), s.length - k = m → labX s k = true → labE s k = none := by
 intro m
 induction m using Nat.strongRecOn with
 | _ m ih =>
   intro k hm h
   rw [labX] at h
   rw [labE]
   by_cases hk : k < s.length
   · rw [dif_pos hk] at h ⊢
     split
     · rw [if_pos ‹_›] at h; cases h
     · rw [if_neg ‹_›] at h
       split
       · rfl
       · rw [if_neg ‹_›] at h
         split
         · rw [if_pos ‹_›] at h; cases h
         · rw [if_neg ‹_›] at h
           exact ih _ (by omega) _ rfl h
   · rw [dif_neg hk]
def J04 (p : List UInt8) (k : Nat) : Bool := if h : k < p.length then (if byN p k = 0 then false else J04 p (k + 1 + byN p k)) else true
termination_by p.length - k
theorem J46 {s : List UInt8} : ∀ (m k : Nat), s.length - k = m → J04 s k = true → Qo s k = false := by
 intro m
 induction m using Nat.strongRecOn with
 | _ m ih =>
   intro k hm h
   rw [J04] at h
   rw [Qo]
   by_cases hk : k < s.length
   · rw [dif_pos hk] at h ⊢
     split
     · rw [if_pos ‹_›] at h; cases h
     · rw [if_neg ‹_›] at h
       exact ih _ (by omega) _ rfl h
   · rw [dif_neg hk]
def lbS3 (s : List UInt8) (a : Int) : List UInt8 := if a < 0 then [] else match labE s a.toNat with
 | some (e, _) => sub s a.toNat e
 | none => []
def lbE3 (s : List UInt8) (a : Int) : Int := if a < 0 then -1 else match labE s a.toNat with
 | some (e, _) => e
 | none => -1
def lbX3 (s : List UInt8) (a : Int) : Bool := decide (a < 0) || labX s a.toNat
theorem Q1r {s : List UInt8} {at_ b : Int} {f : Int} {out : List UInt8} (h : at_ < 0) : U2 s at_ f b out = none := Zx (by
 cases hs : Q0 s at_ 1 with
 | false => rfl
 | true => have := V6.1 hs; omega)
def Z0i (s : List UInt8) (a : Nat) (b : Int) (n : List UInt8) : Bool × (List UInt8 × Int) :=
 match labE s a with
 | none => (false, n, b)
 | some (e, true) => (true, n ++ sub s a e, if b < 0 then (e : Int) else b)
 | some (e, false) => if h : e + 2 ≤ s.length ∧ toT s (e : Int) < (a : Int) then Z0i s (toT s (e : Int)).toNat (if b < 0 then (e : Int) + 2 else b) (n ++ sub s a e) else (false, n ++ sub s a e, b)
termination_by a
decreasing_by
 have := Z01 s (e : Int)
 omega
theorem V43 {s : List UInt8} : ∀ (a : Nat) (b : Int) (n : List UInt8), V11 s a b n = if (Z0i s a b n).1 = true then some (Z0i s a b n).2 else none := by
 intro a
 induction a using Nat.strongRecOn with
 | _ a ih =>
   intro b n
   rw [V11, Z0i]
   cases hL : labE s a with
   | none => rfl
   | some p =>
     obtain ⟨e, r⟩ := p
     cases r with
     | true => rfl
     | false =>
       by_cases h2 : e + 2 ≤ s.length ∧ toT s (e : Int) < (a : Int)
       · simp only [dif_pos h2]
         have := Z01 s (e : Int)
         exact ih _ (by omega) _ _
       · simp only [dif_neg h2]
         rfl
def nilS (n : List UInt8) : Bool := n.isEmpty
def tk3 (s : List UInt8) (a b : Int) (n : List UInt8) : Bool × (List UInt8 × Int) := if a < 0 then (false, n, b) else Z0i s a.toNat b n
theorem tk3_G {s : List UInt8} {a : Int} : U2 s a a (-1) [] = (bif (tk3 s a (-1) []).1 then (if (tk3 s a (-1) []).2.1.length ≤ 255 then some (Q2 (tk3 s a (-1) []).2.1, (tk3 s a (-1) []).2.2) else none) else none) := by
 unfold tk3
 by_cases h0 : a < 0
 · rw [if_pos h0, Q1r h0]; rfl
 · rw [if_neg h0]
   have := U4b (s := s) a.toNat (-1) [] (by simp)
   rw [Int.toNat_of_nonneg (by omega), show Q2 [] = [] from rfl] at this
   rw [this, V43]
   cases (Z0i s a.toNat (-1) []).1 <;> rfl
theorem V1l {α : Type} {l : List α} {i : Int} (d : α) (h0 : 0 ≤ i) (h : i < l.length) : l.drop i.toNat = l.getD i.toNat d :: l.drop (i + 1).toNat ∧ l.getD i.toNat d ∈ l := by
 have hk : i.toNat < l.length := by omega
 rw [List.getD_eq_getElem?_getD, List.getElem?_eq_getElem hk, show (i + 1).toNat = i.toNat + 1 by omega]
 exact ⟨List.drop_eq_getElem_cons hk, List.getElem_mem hk⟩
def layV (k : Int) : List Int := if k = 1 then [4] else if k = 28 then [16] else if k = 2 ∨ k = 5 ∨ k = 12 then [-1] else if k = 15 then [2, -1] else if k = 6 then [-1, -1, 20] else if k = 16 then [-2] else [-3]
def whAt (s : List UInt8) (k : Nat) : Nat := if h : k < s.length ∧ 0 < byN s k then whAt s (k + 1 + byN s k) else k
termination_by s.length - k
def J2 (s : List UInt8) : Nat := if whAt s 0 < s.length ∧ mayV (s.take (whAt s 0 + 1)) = true then whAt s 0 + 1 else 0
theorem Qw (s : List UInt8) : J2 s ≤ s.length := by
 unfold J2
 split <;> omega
def txAt (s : List UInt8) (k : Nat) : Nat := if h : k < s.length then txAt s (k + 1 + byN s k) else k
termination_by s.length - k
def Xp (s : List UInt8) : Bool := !s.isEmpty && decide (txAt s 0 = s.length)
def szP (p : Int) (d : List UInt8) : Int := if p = -1 then (J2 d : Int) else if p = -2 ∧ Xp d = true ∨ p = -3 then (d.length : Int) else p
def okP (p : Int) (d : List UInt8) : Bool := decide (0 ≤ szP p d) && (decide (szP p d ≤ (d.length : Int)) && !(decide (p = -1) && decide (szP p d = 0)))
def cutS : List Int → List UInt8 → List (List UInt8) → Bool × (List UInt8 × List (List UInt8))
 | [], d, out => (true, d, out)
 | p :: ps, d, out => if okP p d = true then cutS ps (d.drop (szP p d).toNat) (out ++ [d.take (szP p d).toNat]) else (false, d, out)
def noS (l : List (List UInt8)) : Bool := l.isEmpty
def cutC (d : List UInt8) (ps : List Int) (n i : Int) (l : List (List UInt8)) : Bool := bigS d && (decide (n = ps.length) && (decide (i = 0) && (noS l && decide (ps.length ≤ 10))))
def okV (k : Int) (d : List UInt8) : Bool := (cutS (layV k) d []).1
def X2e (k : Int) (d : List UInt8) : List UInt8 := (cutS (layV k) d []).2.1
def J2o (k : Int) (d : List UInt8) : List (List UInt8) := (cutS (layV k) d []).2.2
def mayR (k : Int) (d : List UInt8) : Bool := (okV k d && (X2e k d).isEmpty) && Nat.ble d.length 65535
def U3 : List Int → List UInt8 → Int → Int → List UInt8 → Bool × (Int × List UInt8)
 | [], _, a, _, d => (true, a, d)
 | x :: ps, s, a, e, d =>
   if x = -1 then
    (match U2 s a a (-1) [] with
    | none => (false, a, d)
    | some (n, next) => if next > e then (false, a, d) else U3 ps s next e (d ++ n))
   else
    (if Q0 s a (if x = -2 ∨ x = -3 then e - a else x) = true ∧ a + (if x = -2 ∨ x = -3 then e - a else x) ≤ e then U3 ps s (a + (if x = -2 ∨ x = -3 then e - a else x)) e (d ++ Z1 s a (if x = -2 ∨ x = -3 then e - a else x)) else (false, a, d))
def noT (d : List UInt8) : Bool := d.isEmpty
def smS (s : List UInt8) : Bool := decide (s.length ≤ 100000000)
def J2f (s : List UInt8) (a e : Int) (d : List UInt8) (ps : List Int) (n i : Int) : Bool := smS s && (decide (n = ps.length) && (decide (i = 0) && (decide (0 ≤ a) && (decide (a ≤ e) && (decide (e ≤ s.length) && (noT d && decide (ps.length ≤ 10)))))))
def Jb (s : List UInt8) (a n k : Int) : Option (List UInt8) := if Q0 s a n = true then (if (U3 (layV k) s a (a + n) []).1 = true ∧ (U3 (layV k) s a (a + n) []).2.1 = a + n ∧ mayR k (U3 (layV k) s a (a + n) []).2.2 = true then some (U3 (layV k) s a (a + n) []).2.2 else none) else none
theorem Us {s : List UInt8} {a : Int} {n : List UInt8} {next : Int} (h0 : 0 ≤ a) (h : U2 s a a (-1) [] = some (n, next)) : mayV n = true ∧ a < next ∧ next ≤ s.length := by
 obtain ⟨a1, _, a3, _⟩ := J37 _ a a (-1) [] n next rfl Z4z h
 exact ⟨a1, a3 (by omega)⟩
theorem J3f {α : Type} {F : St → Option (St ⊕ (Ex × St))} (mk : α → St) (I : α → Prop) (m : α → Nat) (r : Ex × St) (t : α → Tr (St ⊕ (Ex × St))) (hF : ∀ a x, (t a).get = some x → F (mk a) = some x)
    (h : ∀ a, I a → (t a).all fun x => x = .inr r ∨ (∃ a', x = .inl (mk a') ∧ I a' ∧ m a' < m a) ∨ ∃ st', x = .inl st' ∧ V2 F st' = some r) : ∀ a, I a → V2 F (mk a) = some r := by
 have key : ∀ (n : Nat) (a : α), m a = n → I a → V2 F (mk a) = some r := by
  intro n
  induction n using Nat.strongRecOn with
  | _ n ih =>
    intro a hn ha
    obtain ⟨x, h1, h2⟩ := Tr.all_get (h a ha)
    rcases h2 with rfl | ⟨a', rfl, ha', hlt⟩ | ⟨st', rfl, h3⟩
    · exact X1q (hF a _ h1)
    · rw [J0y (hF a _ h1)]
      exact ih (m a') (by omega) a' rfl ha'
    · rw [J0y (hF a _ h1)]
      exact h3
 exact fun a ha => key _ a rfl ha
def tkC (s : List UInt8) (b : List Int) : Bool := bigS s && (Z8 b && Nat.ble b.length 255)
def tkI (s : List UInt8) (a0 f0 h0 : Int) (b0 : List Int) (at_ from_ behind : Int) (b : List Int) : Prop := Z8 b = true ∧ b.length ≤ 255 ∧ U2 s at_ from_ behind (U1 b) = U2 s a0 f0 h0 (U1 b0)
noncomputable def Z2w : Code := (Z4 c124 0)
def Q4p : LoopSpec := { bid := 0, sh := [.d .str false, .d (.int .i64) false, .ptr 0 0, .d (.int .i64) false, .d (.int .i64) false], so := [.tbox 212 [.ptr 0 0, .row 1], .row (.int .u8)], F := fun (s, at_, from_, behind, _) (_, b, _) => .on (tkC s b) (.ret, [.str (tkS (U2 s at_ from_ behind (U1 b))), .int .i64 (tkN (U2 s at_ from_ behind (U1 b))), .int .i64 (tkE (U2 s at_ from_ behind (U1 b)))], []) }
def Z2v (s : List UInt8) (at_ from_ behind : Int) (b : List Int) : Tr (St ⊕ (Ex × St)) := .br (bigS s) (.br (Q0 s at_ 1) (.br (decide ((↑(UInt8.toNat (s.getD at_.toNat 0)) : Int) > 63)) (.br (decide ((↑(UInt8.toNat (s.getD at_.toNat 0)) : Int) < 192)) (.ret (.inr (.ret, stOf [4, 5, 6] [.str [], .int .i64 0, .int .i64 2] []))) (.br (decide ((↑(UInt8.toNat (s.getD at_.toNat 0)) : Int) ≥ 192)) (.br (bigS s) (.br (Q0 s at_ 2) (.br (decide (IntKind.wrap .i64 (↑(BitVec.toNat (BitVec.ofInt (IntKind.bits IntKind.i64) (IntKind.wrap .i64 (n16 s at_)) &&& ~~~BitVec.ofInt (IntKind.bits IntKind.i64) 49152)) : Int) < from_)) (.br (decide (behind < 0)) (.ret (.inl (stOf [0, 1, 7, 8, 9] [.str s, .int .i64 (IntKind.wrap .i64 (↑(BitVec.toNat (BitVec.ofInt (IntKind.bits IntKind.i64) (IntKind.wrap .i64 (n16 s at_)) &&& ~~~BitVec.ofInt (IntKind.bits IntKind.i64) 49152)) : Int)), .ptr 0 0, .int .i64 (IntKind.wrap .i64 (↑(BitVec.toNat (BitVec.ofInt (IntKind.bits IntKind.i64) (IntKind.wrap .i64 (n16 s at_)) &&& ~~~BitVec.ofInt (IntKind.bits IntKind.i64) 49152)) : Int)), .int .i64 (at_ + (2 : Ty.den (Ty.int .i64)))] [.boxT (some 212) [.ptr 0 0, .rowA 1], .row (.int .u8) b]))) (.ret (.inl (stOf [0, 1, 7, 8, 9] [.str s, .int .i64 (IntKind.wrap .i64 (↑(BitVec.toNat (BitVec.ofInt (IntKind.bits IntKind.i64) (IntKind.wrap .i64 (n16 s at_)) &&& ~~~BitVec.ofInt (IntKind.bits IntKind.i64) 49152)) : Int)), .ptr 0 0, .int .i64 (IntKind.wrap .i64 (↑(BitVec.toNat (BitVec.ofInt (IntKind.bits IntKind.i64) (IntKind.wrap .i64 (n16 s at_)) &&& ~~~BitVec.ofInt (IntKind.bits IntKind.i64) 49152)) : Int)), .int .i64 behind] [.boxT (some 212) [.ptr 0 0, .rowA 1], .row (.int .u8) b])))) (.ret (.inr (.ret, stOf [4, 5, 6] [.str [], .int .i64 0, .int .i64 2] [])))) (.ret (.inr (.ret, stOf [4, 5, 6] [.str [], .int .i64 0, .int .i64 2] [])))) .no) (.br (bigS s) (.br (Q0 s (at_ + (1 : Ty.den (Ty.int .i64))) (IntKind.wrap .i64 (↑(UInt8.toNat (s.getD at_.toNat 0)) : Int))) (.br (decide (IntKind.wrap .i64 (IntKind.wrap .i64 ((↑b.length : Int) + 1) + (↑(List.length (Z1 s (at_ + (1 : Ty.den (Ty.int .i64))) (IntKind.wrap .i64 (↑(UInt8.toNat (s.getD at_.toNat 0)) : Int)))) : Int)) > 255)) (.ret (.inr (.ret, stOf [4, 5, 6] [.str [], .int .i64 0, .int .i64 2] []))) (.br (fits (List.length b + 1) 1) (.br (bigS (Z1 s (at_ + (1 : Ty.den (Ty.int .i64))) (IntKind.wrap .i64 (↑(UInt8.toNat (s.getD at_.toNat 0)) : Int)))) (.br (fits (List.length (b ++ [(↑(UInt8.toNat (s.getD at_.toNat 0)) : Int)]) + List.length (V0 (Q2 (Z1 s (at_ + (1 : Ty.den (Ty.int .i64))) (IntKind.wrap .i64 (↑(UInt8.toNat (s.getD at_.toNat 0)) : Int)))))) 1) (.br (decide ((↑(UInt8.toNat (s.getD at_.toNat 0)) : Int) > 0)) (.ret (.inl (stOf [0, 1, 7, 8, 9] [.str s, .int .i64 (at_ + (1 : Ty.den (Ty.int .i64)) + IntKind.wrap .i64 (↑(UInt8.toNat (s.getD at_.toNat 0)) : Int)), .ptr 0 0, .int .i64 from_, .int .i64 behind] [.boxT (some 212) [.ptr 0 0, .rowA 1], .row (.int .u8) (b ++ [(↑(UInt8.toNat (s.getD at_.toNat 0)) : Int)] ++ V0 (Q2 (Z1 s (at_ + (1 : Ty.den (Ty.int .i64))) (IntKind.wrap .i64 (↑(UInt8.toNat (s.getD at_.toNat 0)) : Int)))))]))) (.br (decide (behind < 0)) (.br (Z8 (b ++ [(↑(UInt8.toNat (s.getD at_.toNat 0)) : Int)] ++ V0 (Q2 (Z1 s (at_ + (1 : Ty.den (Ty.int .i64))) (IntKind.wrap .i64 (↑(UInt8.toNat (s.getD at_.toNat 0)) : Int))))) && (!List.isEmpty (b ++ [(↑(UInt8.toNat (s.getD at_.toNat 0)) : Int)] ++ V0 (Q2 (Z1 s (at_ + (1 : Ty.den (Ty.int .i64))) (IntKind.wrap .i64 (↑(UInt8.toNat (s.getD at_.toNat 0)) : Int))))) && Nat.ble (List.length (b ++ [(↑(UInt8.toNat (s.getD at_.toNat 0)) : Int)] ++ V0 (Q2 (Z1 s (at_ + (1 : Ty.den (Ty.int .i64))) (IntKind.wrap .i64 (↑(UInt8.toNat (s.getD at_.toNat 0)) : Int)))))) 9223372036854775807)) (.ret (.inr (.ret, stOf [4, 5, 6] [.str (U1 (b ++ [(↑(UInt8.toNat (s.getD at_.toNat 0)) : Int)] ++ V0 (Q2 (Z1 s (at_ + (1 : Ty.den (Ty.int .i64))) (IntKind.wrap .i64 (↑(UInt8.toNat (s.getD at_.toNat 0)) : Int)))))), .int .i64 (at_ + (1 : Ty.den (Ty.int .i64)) + IntKind.wrap .i64 (↑(UInt8.toNat (s.getD at_.toNat 0)) : Int)), .int .i64 0] []))) .no) (.br (Z8 (b ++ [(↑(UInt8.toNat (s.getD at_.toNat 0)) : Int)] ++ V0 (Q2 (Z1 s (at_ + (1 : Ty.den (Ty.int .i64))) (IntKind.wrap .i64 (↑(UInt8.toNat (s.getD at_.toNat 0)) : Int))))) && (!List.isEmpty (b ++ [(↑(UInt8.toNat (s.getD at_.toNat 0)) : Int)] ++ V0 (Q2 (Z1 s (at_ + (1 : Ty.den (Ty.int .i64))) (IntKind.wrap .i64 (↑(UInt8.toNat (s.getD at_.toNat 0)) : Int))))) && Nat.ble (List.length (b ++ [(↑(UInt8.toNat (s.getD at_.toNat 0)) : Int)] ++ V0 (Q2 (Z1 s (at_ + (1 : Ty.den (Ty.int .i64))) (IntKind.wrap .i64 (↑(UInt8.toNat (s.getD at_.toNat 0)) : Int)))))) 9223372036854775807)) (.ret (.inr (.ret, stOf [4, 5, 6] [.str (U1 (b ++ [(↑(UInt8.toNat (s.getD at_.toNat 0)) : Int)] ++ V0 (Q2 (Z1 s (at_ + (1 : Ty.den (Ty.int .i64))) (IntKind.wrap .i64 (↑(UInt8.toNat (s.getD at_.toNat 0)) : Int)))))), .int .i64 behind, .int .i64 0] []))) .no))) .no) .no) .no)) (.ret (.inr (.ret, stOf [4, 5, 6] [.str [], .int .i64 0, .int .i64 2] [])))) .no))) (.br (decide ((↑(UInt8.toNat (s.getD at_.toNat 0)) : Int) ≥ 192)) (.br (bigS s) (.br (Q0 s at_ 2) (.br (decide (IntKind.wrap .i64 (↑(BitVec.toNat (BitVec.ofInt (IntKind.bits IntKind.i64) (IntKind.wrap .i64 (n16 s at_)) &&& ~~~BitVec.ofInt (IntKind.bits IntKind.i64) 49152)) : Int) < from_)) (.br (decide (behind < 0)) (.ret (.inl (stOf [0, 1, 7, 8, 9] [.str s, .int .i64 (IntKind.wrap .i64 (↑(BitVec.toNat (BitVec.ofInt (IntKind.bits IntKind.i64) (IntKind.wrap .i64 (n16 s at_)) &&& ~~~BitVec.ofInt (IntKind.bits IntKind.i64) 49152)) : Int)), .ptr 0 0, .int .i64 (IntKind.wrap .i64 (↑(BitVec.toNat (BitVec.ofInt (IntKind.bits IntKind.i64) (IntKind.wrap .i64 (n16 s at_)) &&& ~~~BitVec.ofInt (IntKind.bits IntKind.i64) 49152)) : Int)), .int .i64 (at_ + (2 : Ty.den (Ty.int .i64)))] [.boxT (some 212) [.ptr 0 0, .rowA 1], .row (.int .u8) b]))) (.ret (.inl (stOf [0, 1, 7, 8, 9] [.str s, .int .i64 (IntKind.wrap .i64 (↑(BitVec.toNat (BitVec.ofInt (IntKind.bits IntKind.i64) (IntKind.wrap .i64 (n16 s at_)) &&& ~~~BitVec.ofInt (IntKind.bits IntKind.i64) 49152)) : Int)), .ptr 0 0, .int .i64 (IntKind.wrap .i64 (↑(BitVec.toNat (BitVec.ofInt (IntKind.bits IntKind.i64) (IntKind.wrap .i64 (n16 s at_)) &&& ~~~BitVec.ofInt (IntKind.bits IntKind.i64) 49152)) : Int)), .int .i64 behind] [.boxT (some 212) [.ptr 0 0, .rowA 1], .row (.int .u8) b])))) (.ret (.inr (.ret, stOf [4, 5, 6] [.str [], .int .i64 0, .int .i64 2] [])))) (.ret (.inr (.ret, stOf [4, 5, 6] [.str [], .int .i64 0, .int .i64 2] [])))) .no) (.br (bigS s) (.br (Q0 s (at_ + (1 : Ty.den (Ty.int .i64))) (IntKind.wrap .i64 (↑(UInt8.toNat (s.getD at_.toNat 0)) : Int))) (.br (decide (IntKind.wrap .i64 (IntKind.wrap .i64 ((↑b.length : Int) + 1) + (↑(List.length (Z1 s (at_ + (1 : Ty.den (Ty.int .i64))) (IntKind.wrap .i64 (↑(UInt8.toNat (s.getD at_.toNat 0)) : Int)))) : Int)) > 255)) (.ret (.inr (.ret, stOf [4, 5, 6] [.str [], .int .i64 0, .int .i64 2] []))) (.br (fits (List.length b + 1) 1) (.br (bigS (Z1 s (at_ + (1 : Ty.den (Ty.int .i64))) (IntKind.wrap .i64 (↑(UInt8.toNat (s.getD at_.toNat 0)) : Int)))) (.br (fits (List.length (b ++ [(↑(UInt8.toNat (s.getD at_.toNat 0)) : Int)]) + List.length (V0 (Q2 (Z1 s (at_ + (1 : Ty.den (Ty.int .i64))) (IntKind.wrap .i64 (↑(UInt8.toNat (s.getD at_.toNat 0)) : Int)))))) 1) (.br (decide ((↑(UInt8.toNat (s.getD at_.toNat 0)) : Int) > 0)) (.ret (.inl (stOf [0, 1, 7, 8, 9] [.str s, .int .i64 (at_ + (1 : Ty.den (Ty.int .i64)) + IntKind.wrap .i64 (↑(UInt8.toNat (s.getD at_.toNat 0)) : Int)), .ptr 0 0, .int .i64 from_, .int .i64 behind] [.boxT (some 212) [.ptr 0 0, .rowA 1], .row (.int .u8) (b ++ [(↑(UInt8.toNat (s.getD at_.toNat 0)) : Int)] ++ V0 (Q2 (Z1 s (at_ + (1 : Ty.den (Ty.int .i64))) (IntKind.wrap .i64 (↑(UInt8.toNat (s.getD at_.toNat 0)) : Int)))))]))) (.br (decide (behind < 0)) (.br (Z8 (b ++ [(↑(UInt8.toNat (s.getD at_.toNat 0)) : Int)] ++ V0 (Q2 (Z1 s (at_ + (1 : Ty.den (Ty.int .i64))) (IntKind.wrap .i64 (↑(UInt8.toNat (s.getD at_.toNat 0)) : Int))))) && (!List.isEmpty (b ++ [(↑(UInt8.toNat (s.getD at_.toNat 0)) : Int)] ++ V0 (Q2 (Z1 s (at_ + (1 : Ty.den (Ty.int .i64))) (IntKind.wrap .i64 (↑(UInt8.toNat (s.getD at_.toNat 0)) : Int))))) && Nat.ble (List.length (b ++ [(↑(UInt8.toNat (s.getD at_.toNat 0)) : Int)] ++ V0 (Q2 (Z1 s (at_ + (1 : Ty.den (Ty.int .i64))) (IntKind.wrap .i64 (↑(UInt8.toNat (s.getD at_.toNat 0)) : Int)))))) 9223372036854775807)) (.ret (.inr (.ret, stOf [4, 5, 6] [.str (U1 (b ++ [(↑(UInt8.toNat (s.getD at_.toNat 0)) : Int)] ++ V0 (Q2 (Z1 s (at_ + (1 : Ty.den (Ty.int .i64))) (IntKind.wrap .i64 (↑(UInt8.toNat (s.getD at_.toNat 0)) : Int)))))), .int .i64 (at_ + (1 : Ty.den (Ty.int .i64)) + IntKind.wrap .i64 (↑(UInt8.toNat (s.getD at_.toNat 0)) : Int)), .int .i64 0] []))) .no) (.br (Z8 (b ++ [(↑(UInt8.toNat (s.getD at_.toNat 0)) : Int)] ++ V0 (Q2 (Z1 s (at_ + (1 : Ty.den (Ty.int .i64))) (IntKind.wrap .i64 (↑(UInt8.toNat (s.getD at_.toNat 0)) : Int))))) && (!List.isEmpty (b ++ [(↑(UInt8.toNat (s.getD at_.toNat 0)) : Int)] ++ V0 (Q2 (Z1 s (at_ + (1 : Ty.den (Ty.int .i64))) (IntKind.wrap .i64 (↑(UInt8.toNat (s.getD at_.toNat 0)) : Int))))) && Nat.ble (List.length (b ++ [(↑(UInt8.toNat (s.getD at_.toNat 0)) : Int)] ++ V0 (Q2 (Z1 s (at_ + (1 : Ty.den (Ty.int .i64))) (IntKind.wrap .i64 (↑(UInt8.toNat (s.getD at_.toNat 0)) : Int)))))) 9223372036854775807)) (.ret (.inr (.ret, stOf [4, 5, 6] [.str (U1 (b ++ [(↑(UInt8.toNat (s.getD at_.toNat 0)) : Int)] ++ V0 (Q2 (Z1 s (at_ + (1 : Ty.den (Ty.int .i64))) (IntKind.wrap .i64 (↑(UInt8.toNat (s.getD at_.toNat 0)) : Int)))))), .int .i64 behind, .int .i64 0] []))) .no))) .no) .no) .no)) (.ret (.inr (.ret, stOf [4, 5, 6] [.str [], .int .i64 0, .int .i64 2] [])))) .no))) (.ret (.inr (.ret, stOf [4, 5, 6] [.str [], .int .i64 0, .int .i64 2] [])))) .no
theorem V32 (lp : Lp) (s : List UInt8) (at_ from_ behind : Int) (b : List Int) : evC T0 (orcB [Z00, Jn, Xf, X08] [Zz, Vz, Vx, Uy, Qz, J0c]) lp Z2w 0 (stOf [0, 1, 7, 8, 9] [.str s, .int .i64 at_, .ptr 0 0, .int .i64 from_, .int .i64 behind] [.boxT (some 212) [.ptr 0 0, .rowA 1], .row (.int .u8) b]) (U0 [0, 1, 7, 8, 9] [4, 5, 6] 0) = (Z2v s at_ from_ behind b).get := by kernel_rfl
theorem Q4v (s : List UInt8) (I'' : Int → Int → Int → List Int → Prop) (m'' : Int → Int → Int → List Int → Nat) (r'' : Ex × St) (h : ∀ (at_ from_ behind : Int) (b : List Int), I'' at_ from_ behind b → (Z2v s at_ from_ behind b).all fun x'' => x'' = .inr r'' ∨ ∃ (at_' from_' behind' : Int) (b' : List Int), x'' = .inl (stOf [0, 1, 7, 8, 9] [.str s, .int .i64 at_', .ptr 0 0, .int .i64 from_', .int .i64 behind'] [.boxT (some 212) [.ptr 0 0, .rowA 1], .row (.int .u8) b']) ∧ I'' at_' from_' behind' b' ∧ m'' at_' from_' behind' b' < m'' at_ from_ behind b) (lp : Lp) (at_ from_ behind : Int) (b : List Int) : I'' at_ from_ behind b →
    V2 (fun st => evC T0 (orcB [Z00, Jn, Xf, X08] [Zz, Vz, Vx, Uy, Qz, J0c]) lp Z2w 0 st (U0 [0, 1, 7, 8, 9] [4, 5, 6] 0)) (stOf [0, 1, 7, 8, 9] [.str s, .int .i64 at_, .ptr 0 0, .int .i64 from_, .int .i64 behind] [.boxT (some 212) [.ptr 0 0, .rowA 1], .row (.int .u8) b]) = some r'' :=
 Z5 (fun a'' : Int × Int × Int × List Int => stOf [0, 1, 7, 8, 9] [.str s, .int .i64 a''.1, .ptr 0 0, .int .i64 a''.2.1, .int .i64 a''.2.2.1] [.boxT (some 212) [.ptr 0 0, .rowA 1], .row (.int .u8) a''.2.2.2]) (fun a'' => I'' a''.1 a''.2.1 a''.2.2.1 a''.2.2.2) (fun a'' => m'' a''.1 a''.2.1 a''.2.2.1 a''.2.2.2) r'' (fun a'' => Z2v s a''.1 a''.2.1 a''.2.2.1 a''.2.2.2)
  (fun a'' x hx => (V32 lp s a''.1 a''.2.1 a''.2.2.1 a''.2.2.2).trans hx) (fun a'' ha => Tr.all_mono (fun x'' hx => hx.imp id fun ⟨at_', from_', behind', b', h1, h2, h3⟩ => ⟨(at_', from_', behind', b'), h1, h2, h3⟩) (h (a''.1) (a''.2.1) (a''.2.2.1) (a''.2.2.2) ha)) (at_, from_, behind, b)
theorem Z3r : Q4p.Ok T0 (orcB [Z00, Jn, Xf, X08] [Zz, Vz, Vx, Uy, Qz, J0c]) h124 0 0 Z2w := by
 intro q'' hq'' x'' y'' r'' h
 obtain ⟨(s : List UInt8), (at_ : Int), (from_ : Int), (behind : Int), _⟩ := x''
 obtain ⟨_, (b : List Int), _⟩ := y''
 obtain ⟨hc, rfl⟩ := Tr.get_on h
 show V2 (fun st => evC T0 (orcB [Z00, Jn, Xf, X08] [Zz, Vz, Vx, Uy, Qz, J0c]) (lpN T0 (orcB [Z00, Jn, Xf, X08] [Zz, Vz, Vx, Uy, Qz, J0c]) h124 0 q'') Z2w 0 st (U0 [0, 1, 7, 8, 9] [4, 5, 6] 0)) (stOf [0, 1, 7, 8, 9] [.str s, .int .i64 at_, .ptr 0 0, .int .i64 from_, .int .i64 behind] [.boxT (some 212) [.ptr 0 0, .rowA 1], .row (.int .u8) b]) = some (.ret, stOf [4, 5, 6] ([.str (tkS (U2 s at_ from_ behind (U1 b))), .int .i64 (tkN (U2 s at_ from_ behind (U1 b))), .int .i64 (tkE (U2 s at_ from_ behind (U1 b)))]) ([]))
 simp only [tkC, Bool.and_eq_true] at hc
 obtain ⟨hbig, hok, hb⟩ := hc
 have hb := Nat.le_of_ble_eq_true hb
 refine Q4v s (tkI s at_ from_ behind b) (fun at_ from_ _ _ => msT s at_ from_) _ ?_ _ at_ from_ behind b ⟨hok, hb, rfl⟩
 clear hok hb
 rintro at_ from_ behind b ⟨hok, hb, he⟩
 rw [← he]
 unfold Z2v
 have hB : s.length ≤ 1000000000000 := by simpa [bigS] using hbig
 have hc : (↑(UInt8.toNat (List.getD s (Int.toNat at_) 0)) : Int) = (szT s at_ : Int) := rfl
 have hc255 := Z3w s at_
 have hto := Z01 s at_
 simp only [Z2q (Q19 s at_).1 (Q19 s at_).2, hc]
 simp only [show n16 s at_ % 16384 = toT s at_ from rfl, IntWalk.i64_in ((szT s at_ : Nat) : Int) (by omega)]
 cases h1 : Q0 s at_ 1 with
 | false =>
   rw [Zx h1]
   exact Tr.all_t hbig (Tr.all_f rfl (Tr.all_ret (.inl rfl)))
 | true =>
   have hs1 := V6.1 h1
   refine Tr.all_t hbig (Tr.all_t rfl ?_)
   by_cases h192 : 192 ≤ szT s at_
   · refine Tr.all_t (J0 (by omega)) (Tr.all_f (Z0 (by omega)) (Tr.all_t (J0 (by omega)) (Tr.all_t hbig ?_)))
     by_cases h3 : Q0 s at_ 2 = true ∧ toT s at_ < from_
     · rw [Z0f h1 h192 h3.1 h3.2] at he ⊢
       refine Tr.all_t h3.1 (Tr.all_t (J0 h3.2) (Tr.all_br (fun c1 => ?_) fun c1 => ?_))
       · simp only [decide_eq_true_eq] at c1
         rw [if_pos c1] at he
         exact Tr.all_ret (.inr ⟨_, _, _, _, rfl, ⟨hok, hb, he⟩, U0u hto.1 h3.2⟩)
       · simp only [decide_eq_false_iff_not] at c1
         rw [if_neg c1] at he
         exact Tr.all_ret (.inr ⟨_, _, _, _, rfl, ⟨hok, hb, he⟩, U0u hto.1 h3.2⟩)
     · rw [U0e h1 h192 h3]
       cases h2 : Q0 s at_ 2 with
       | false => exact Tr.all_f rfl (Tr.all_ret (.inl rfl))
       | true => exact Tr.all_t rfl (Tr.all_f (Z0 (fun h => h3 ⟨h2, h⟩)) (Tr.all_ret (.inl rfl)))
   · by_cases h63 : 63 < szT s at_
     · rw [X0e h1 h192 h63]
       exact Tr.all_t (J0 (by omega)) (Tr.all_t (J0 (by omega)) (Tr.all_ret (.inl rfl)))
     · refine Tr.all_f (Z0 (by omega)) (Tr.all_f (Z0 (by omega)) (Tr.all_t hbig ?_))
       cases h4 : Q0 s (at_ + 1) (szT s at_) with
       | false =>
         rw [Xj h1 (by omega) (by rw [h4]; simp)]
         exact Tr.all_f rfl (Tr.all_ret (.inl rfl))
       | true =>
         have hs4 := V6.1 h4
         have hvl : (Z1 s (at_ + 1) (szT s at_ : Int)).length = szT s at_ := by rw [Z0x h4]; omega
         have hvb : bigS (Z1 s (at_ + 1) (szT s at_ : Int)) = true := by simp [bigS, hvl]; omega
         rw [hvl]
         rw [IntWalk.i64_in ((List.length b : Int) + 1) (by omega), IntWalk.i64_in _ (by omega)]
         refine Tr.all_t rfl ?_
         by_cases h5 : b.length + 1 + szT s at_ ≤ 255
         · have hnew : Z8 (b ++ [((szT s at_ : Nat) : Int)] ++ V0 (Q2 (Z1 s (at_ + 1) (szT s at_ : Int)))) = true := by
             refine Q00 (Q00 hok ?_) (X09 _)
             simp [Z8]
             omega
           have hnl : (b ++ [((szT s at_ : Nat) : Int)] ++ V0 (Q2 (Z1 s (at_ + 1) (szT s at_ : Int)))).length = b.length + 1 + szT s at_ := by
            simp [Jc, Vb, hvl]
            omega
           have hS2 : U1 (b ++ [((szT s at_ : Nat) : Int)] ++ V0 (Q2 (Z1 s (at_ + 1) (szT s at_ : Int)))) = U1 b ++ s.getD at_.toNat 0 :: Q2 (Z1 s (at_ + 1) (szT s at_ : Int)) := by
            rw [Z0p, Z0p, V0k]
            have : U1 [((szT s at_ : Nat) : Int)] = [s.getD at_.toNat 0] := by simp [U1, szT]
            rw [this]
            simp
           refine Tr.all_f (Z0 (by omega)) (Tr.all_t (U5 (by omega) (by omega)) (Tr.all_t hvb (Tr.all_t (U5 (by simp [Jc, Vb, hvl]; omega) (by simp [Jc, Vb, hvl]; omega)) ?_)))
           by_cases h0 : szT s at_ = 0
           · rw [X0g h1 h0 (by rw [X02]; omega)]
             have hv0 : Z1 s (at_ + 1) (szT s at_ : Int) = [] := List.length_eq_zero_iff.1 (by rw [hvl]; exact h0)
             have hg0 : s.getD at_.toNat 0 = 0 := by
              have : (s.getD at_.toNat 0).toNat = 0 := h0
              exact UInt8.toNat_inj.1 (by simpa using this)
             have hend : (Z8 (b ++ [((szT s at_ : Nat) : Int)] ++ V0 (Q2 (Z1 s (at_ + 1) (szT s at_ : Int)))) && (!List.isEmpty (b ++ [((szT s at_ : Nat) : Int)] ++ V0 (Q2 (Z1 s (at_ + 1) (szT s at_ : Int)))) && Nat.ble (List.length (b ++ [((szT s at_ : Nat) : Int)] ++ V0 (Q2 (Z1 s (at_ + 1) (szT s at_ : Int))))) 9223372036854775807)) = true := by
              rw [hnew, Nat.ble_eq_true_of_le (by omega)]
              simp
             refine Tr.all_f (Z0 (by omega)) (Tr.all_br (fun c1 => Tr.all_t hend (Tr.all_ret (.inl ?_))) fun c1 => Tr.all_t hend (Tr.all_ret (.inl ?_)))
             · simp only [decide_eq_true_eq] at c1
               rw [if_pos c1, hS2, hv0, hg0, h0]
               simp [Q2]
               rfl
             · simp only [decide_eq_false_iff_not] at c1
               rw [if_neg c1, hS2, hv0, hg0]
               rfl
           · have hG := J0n (s := s) (at_ := at_) (from_ := from_) (behind := behind) (out := U1 b) h1 (by omega) h0 h4 (by rw [X02]; omega)
             rw [← hS2] at hG
             rw [hG] at he ⊢
             refine Tr.all_t (J0 (by omega)) (Tr.all_ret ?_)
             exact .inr ⟨_, _, _, _, rfl, ⟨hnew, by omega, he⟩, Z2g hs1.1 hs4.2.2⟩
         · rw [Xj h1 (by omega) (by rw [X02]; exact fun h => h5 h.2)]
           exact Tr.all_t (J0 (by omega)) (Tr.all_ret (.inl rfl))
noncomputable def X2q : Code := (Z4 c124 0)
def X2p : LoopSpec := { bid := 0, sh := [.d .str false, .d (.int .i64) false, .ptr 0 0, .d (.int .i64) false, .d (.int .i64) false], so := [.tbox 212 [.np, .row 1], .row (.int .u8)], F := fun (s, at_, from_, behind, _) (_, b, _) => .on (tkC s b) (.ret, [.str (tkS (U2 s at_ from_ behind (U1 b))), .int .i64 (tkN (U2 s at_ from_ behind (U1 b))), .int .i64 (tkE (U2 s at_ from_ behind (U1 b)))], []) }
def J3r (s : List UInt8) (at_ from_ behind : Int) (b : List Int) : Tr (St ⊕ (Ex × St)) := .br (bigS s) (.br (Q0 s at_ 1) (.br (decide ((↑(UInt8.toNat (s.getD at_.toNat 0)) : Int) > 63)) (.br (decide ((↑(UInt8.toNat (s.getD at_.toNat 0)) : Int) < 192)) (.ret (.inr (.ret, stOf [4, 5, 6] [.str [], .int .i64 0, .int .i64 2] []))) (.br (decide ((↑(UInt8.toNat (s.getD at_.toNat 0)) : Int) ≥ 192)) (.br (bigS s) (.br (Q0 s at_ 2) (.br (decide (IntKind.wrap .i64 (↑(BitVec.toNat (BitVec.ofInt (IntKind.bits IntKind.i64) (IntKind.wrap .i64 (n16 s at_)) &&& ~~~BitVec.ofInt (IntKind.bits IntKind.i64) 49152)) : Int) < from_)) (.br (decide (behind < 0)) (.ret (.inl (stOf [0, 1, 7, 8, 9] [.str s, .int .i64 (IntKind.wrap .i64 (↑(BitVec.toNat (BitVec.ofInt (IntKind.bits IntKind.i64) (IntKind.wrap .i64 (n16 s at_)) &&& ~~~BitVec.ofInt (IntKind.bits IntKind.i64) 49152)) : Int)), .ptr 0 0, .int .i64 (IntKind.wrap .i64 (↑(BitVec.toNat (BitVec.ofInt (IntKind.bits IntKind.i64) (IntKind.wrap .i64 (n16 s at_)) &&& ~~~BitVec.ofInt (IntKind.bits IntKind.i64) 49152)) : Int)), .int .i64 (at_ + (2 : Ty.den (Ty.int .i64)))] [.boxT (some 212) [.np, .rowA 1], .row (.int .u8) b]))) (.ret (.inl (stOf [0, 1, 7, 8, 9] [.str s, .int .i64 (IntKind.wrap .i64 (↑(BitVec.toNat (BitVec.ofInt (IntKind.bits IntKind.i64) (IntKind.wrap .i64 (n16 s at_)) &&& ~~~BitVec.ofInt (IntKind.bits IntKind.i64) 49152)) : Int)), .ptr 0 0, .int .i64 (IntKind.wrap .i64 (↑(BitVec.toNat (BitVec.ofInt (IntKind.bits IntKind.i64) (IntKind.wrap .i64 (n16 s at_)) &&& ~~~BitVec.ofInt (IntKind.bits IntKind.i64) 49152)) : Int)), .int .i64 behind] [.boxT (some 212) [.np, .rowA 1], .row (.int .u8) b])))) (.ret (.inr (.ret, stOf [4, 5, 6] [.str [], .int .i64 0, .int .i64 2] [])))) (.ret (.inr (.ret, stOf [4, 5, 6] [.str [], .int .i64 0, .int .i64 2] [])))) .no) (.br (bigS s) (.br (Q0 s (at_ + (1 : Ty.den (Ty.int .i64))) (IntKind.wrap .i64 (↑(UInt8.toNat (s.getD at_.toNat 0)) : Int))) (.br (decide (IntKind.wrap .i64 (IntKind.wrap .i64 ((↑b.length : Int) + 1) + (↑(List.length (Z1 s (at_ + (1 : Ty.den (Ty.int .i64))) (IntKind.wrap .i64 (↑(UInt8.toNat (s.getD at_.toNat 0)) : Int)))) : Int)) > 255)) (.ret (.inr (.ret, stOf [4, 5, 6] [.str [], .int .i64 0, .int .i64 2] []))) (.br (fits (List.length b + 1) 1) (.br (bigS (Z1 s (at_ + (1 : Ty.den (Ty.int .i64))) (IntKind.wrap .i64 (↑(UInt8.toNat (s.getD at_.toNat 0)) : Int)))) (.br (fits (List.length (b ++ [(↑(UInt8.toNat (s.getD at_.toNat 0)) : Int)]) + List.length (V0 (Q2 (Z1 s (at_ + (1 : Ty.den (Ty.int .i64))) (IntKind.wrap .i64 (↑(UInt8.toNat (s.getD at_.toNat 0)) : Int)))))) 1) (.br (decide ((↑(UInt8.toNat (s.getD at_.toNat 0)) : Int) > 0)) (.ret (.inl (stOf [0, 1, 7, 8, 9] [.str s, .int .i64 (at_ + (1 : Ty.den (Ty.int .i64)) + IntKind.wrap .i64 (↑(UInt8.toNat (s.getD at_.toNat 0)) : Int)), .ptr 0 0, .int .i64 from_, .int .i64 behind] [.boxT (some 212) [.ptr 0 0, .rowA 1], .row (.int .u8) (b ++ [(↑(UInt8.toNat (s.getD at_.toNat 0)) : Int)] ++ V0 (Q2 (Z1 s (at_ + (1 : Ty.den (Ty.int .i64))) (IntKind.wrap .i64 (↑(UInt8.toNat (s.getD at_.toNat 0)) : Int)))))]))) (.br (decide (behind < 0)) (.br (Z8 (b ++ [(↑(UInt8.toNat (s.getD at_.toNat 0)) : Int)] ++ V0 (Q2 (Z1 s (at_ + (1 : Ty.den (Ty.int .i64))) (IntKind.wrap .i64 (↑(UInt8.toNat (s.getD at_.toNat 0)) : Int))))) && (!List.isEmpty (b ++ [(↑(UInt8.toNat (s.getD at_.toNat 0)) : Int)] ++ V0 (Q2 (Z1 s (at_ + (1 : Ty.den (Ty.int .i64))) (IntKind.wrap .i64 (↑(UInt8.toNat (s.getD at_.toNat 0)) : Int))))) && Nat.ble (List.length (b ++ [(↑(UInt8.toNat (s.getD at_.toNat 0)) : Int)] ++ V0 (Q2 (Z1 s (at_ + (1 : Ty.den (Ty.int .i64))) (IntKind.wrap .i64 (↑(UInt8.toNat (s.getD at_.toNat 0)) : Int)))))) 9223372036854775807)) (.ret (.inr (.ret, stOf [4, 5, 6] [.str (U1 (b ++ [(↑(UInt8.toNat (s.getD at_.toNat 0)) : Int)] ++ V0 (Q2 (Z1 s (at_ + (1 : Ty.den (Ty.int .i64))) (IntKind.wrap .i64 (↑(UInt8.toNat (s.getD at_.toNat 0)) : Int)))))), .int .i64 (at_ + (1 : Ty.den (Ty.int .i64)) + IntKind.wrap .i64 (↑(UInt8.toNat (s.getD at_.toNat 0)) : Int)), .int .i64 0] []))) .no) (.br (Z8 (b ++ [(↑(UInt8.toNat (s.getD at_.toNat 0)) : Int)] ++ V0 (Q2 (Z1 s (at_ + (1 : Ty.den (Ty.int .i64))) (IntKind.wrap .i64 (↑(UInt8.toNat (s.getD at_.toNat 0)) : Int))))) && (!List.isEmpty (b ++ [(↑(UInt8.toNat (s.getD at_.toNat 0)) : Int)] ++ V0 (Q2 (Z1 s (at_ + (1 : Ty.den (Ty.int .i64))) (IntKind.wrap .i64 (↑(UInt8.toNat (s.getD at_.toNat 0)) : Int))))) && Nat.ble (List.length (b ++ [(↑(UInt8.toNat (s.getD at_.toNat 0)) : Int)] ++ V0 (Q2 (Z1 s (at_ + (1 : Ty.den (Ty.int .i64))) (IntKind.wrap .i64 (↑(UInt8.toNat (s.getD at_.toNat 0)) : Int)))))) 9223372036854775807)) (.ret (.inr (.ret, stOf [4, 5, 6] [.str (U1 (b ++ [(↑(UInt8.toNat (s.getD at_.toNat 0)) : Int)] ++ V0 (Q2 (Z1 s (at_ + (1 : Ty.den (Ty.int .i64))) (IntKind.wrap .i64 (↑(UInt8.toNat (s.getD at_.toNat 0)) : Int)))))), .int .i64 behind, .int .i64 0] []))) .no))) .no) .no) .no)) (.ret (.inr (.ret, stOf [4, 5, 6] [.str [], .int .i64 0, .int .i64 2] [])))) .no))) (.br (decide ((↑(UInt8.toNat (s.getD at_.toNat 0)) : Int) ≥ 192)) (.br (bigS s) (.br (Q0 s at_ 2) (.br (decide (IntKind.wrap .i64 (↑(BitVec.toNat (BitVec.ofInt (IntKind.bits IntKind.i64) (IntKind.wrap .i64 (n16 s at_)) &&& ~~~BitVec.ofInt (IntKind.bits IntKind.i64) 49152)) : Int) < from_)) (.br (decide (behind < 0)) (.ret (.inl (stOf [0, 1, 7, 8, 9] [.str s, .int .i64 (IntKind.wrap .i64 (↑(BitVec.toNat (BitVec.ofInt (IntKind.bits IntKind.i64) (IntKind.wrap .i64 (n16 s at_)) &&& ~~~BitVec.ofInt (IntKind.bits IntKind.i64) 49152)) : Int)), .ptr 0 0, .int .i64 (IntKind.wrap .i64 (↑(BitVec.toNat (BitVec.ofInt (IntKind.bits IntKind.i64) (IntKind.wrap .i64 (n16 s at_)) &&& ~~~BitVec.ofInt (IntKind.bits IntKind.i64) 49152)) : Int)), .int .i64 (at_ + (2 : Ty.den (Ty.int .i64)))] [.boxT (some 212) [.np, .rowA 1], .row (.int .u8) b]))) (.ret (.inl (stOf [0, 1, 7, 8, 9] [.str s, .int .i64 (IntKind.wrap .i64 (↑(BitVec.toNat (BitVec.ofInt (IntKind.bits IntKind.i64) (IntKind.wrap .i64 (n16 s at_)) &&& ~~~BitVec.ofInt (IntKind.bits IntKind.i64) 49152)) : Int)), .ptr 0 0, .int .i64 (IntKind.wrap .i64 (↑(BitVec.toNat (BitVec.ofInt (IntKind.bits IntKind.i64) (IntKind.wrap .i64 (n16 s at_)) &&& ~~~BitVec.ofInt (IntKind.bits IntKind.i64) 49152)) : Int)), .int .i64 behind] [.boxT (some 212) [.np, .rowA 1], .row (.int .u8) b])))) (.ret (.inr (.ret, stOf [4, 5, 6] [.str [], .int .i64 0, .int .i64 2] [])))) (.ret (.inr (.ret, stOf [4, 5, 6] [.str [], .int .i64 0, .int .i64 2] [])))) .no) (.br (bigS s) (.br (Q0 s (at_ + (1 : Ty.den (Ty.int .i64))) (IntKind.wrap .i64 (↑(UInt8.toNat (s.getD at_.toNat 0)) : Int))) (.br (decide (IntKind.wrap .i64 (IntKind.wrap .i64 ((↑b.length : Int) + 1) + (↑(List.length (Z1 s (at_ + (1 : Ty.den (Ty.int .i64))) (IntKind.wrap .i64 (↑(UInt8.toNat (s.getD at_.toNat 0)) : Int)))) : Int)) > 255)) (.ret (.inr (.ret, stOf [4, 5, 6] [.str [], .int .i64 0, .int .i64 2] []))) (.br (fits (List.length b + 1) 1) (.br (bigS (Z1 s (at_ + (1 : Ty.den (Ty.int .i64))) (IntKind.wrap .i64 (↑(UInt8.toNat (s.getD at_.toNat 0)) : Int)))) (.br (fits (List.length (b ++ [(↑(UInt8.toNat (s.getD at_.toNat 0)) : Int)]) + List.length (V0 (Q2 (Z1 s (at_ + (1 : Ty.den (Ty.int .i64))) (IntKind.wrap .i64 (↑(UInt8.toNat (s.getD at_.toNat 0)) : Int)))))) 1) (.br (decide ((↑(UInt8.toNat (s.getD at_.toNat 0)) : Int) > 0)) (.ret (.inl (stOf [0, 1, 7, 8, 9] [.str s, .int .i64 (at_ + (1 : Ty.den (Ty.int .i64)) + IntKind.wrap .i64 (↑(UInt8.toNat (s.getD at_.toNat 0)) : Int)), .ptr 0 0, .int .i64 from_, .int .i64 behind] [.boxT (some 212) [.ptr 0 0, .rowA 1], .row (.int .u8) (b ++ [(↑(UInt8.toNat (s.getD at_.toNat 0)) : Int)] ++ V0 (Q2 (Z1 s (at_ + (1 : Ty.den (Ty.int .i64))) (IntKind.wrap .i64 (↑(UInt8.toNat (s.getD at_.toNat 0)) : Int)))))]))) (.br (decide (behind < 0)) (.br (Z8 (b ++ [(↑(UInt8.toNat (s.getD at_.toNat 0)) : Int)] ++ V0 (Q2 (Z1 s (at_ + (1 : Ty.den (Ty.int .i64))) (IntKind.wrap .i64 (↑(UInt8.toNat (s.getD at_.toNat 0)) : Int))))) && (!List.isEmpty (b ++ [(↑(UInt8.toNat (s.getD at_.toNat 0)) : Int)] ++ V0 (Q2 (Z1 s (at_ + (1 : Ty.den (Ty.int .i64))) (IntKind.wrap .i64 (↑(UInt8.toNat (s.getD at_.toNat 0)) : Int))))) && Nat.ble (List.length (b ++ [(↑(UInt8.toNat (s.getD at_.toNat 0)) : Int)] ++ V0 (Q2 (Z1 s (at_ + (1 : Ty.den (Ty.int .i64))) (IntKind.wrap .i64 (↑(UInt8.toNat (s.getD at_.toNat 0)) : Int)))))) 9223372036854775807)) (.ret (.inr (.ret, stOf [4, 5, 6] [.str (U1 (b ++ [(↑(UInt8.toNat (s.getD at_.toNat 0)) : Int)] ++ V0 (Q2 (Z1 s (at_ + (1 : Ty.den (Ty.int .i64))) (IntKind.wrap .i64 (↑(UInt8.toNat (s.getD at_.toNat 0)) : Int)))))), .int .i64 (at_ + (1 : Ty.den (Ty.int .i64)) + IntKind.wrap .i64 (↑(UInt8.toNat (s.getD at_.toNat 0)) : Int)), .int .i64 0] []))) .no) (.br (Z8 (b ++ [(↑(UInt8.toNat (s.getD at_.toNat 0)) : Int)] ++ V0 (Q2 (Z1 s (at_ + (1 : Ty.den (Ty.int .i64))) (IntKind.wrap .i64 (↑(UInt8.toNat (s.getD at_.toNat 0)) : Int))))) && (!List.isEmpty (b ++ [(↑(UInt8.toNat (s.getD at_.toNat 0)) : Int)] ++ V0 (Q2 (Z1 s (at_ + (1 : Ty.den (Ty.int .i64))) (IntKind.wrap .i64 (↑(UInt8.toNat (s.getD at_.toNat 0)) : Int))))) && Nat.ble (List.length (b ++ [(↑(UInt8.toNat (s.getD at_.toNat 0)) : Int)] ++ V0 (Q2 (Z1 s (at_ + (1 : Ty.den (Ty.int .i64))) (IntKind.wrap .i64 (↑(UInt8.toNat (s.getD at_.toNat 0)) : Int)))))) 9223372036854775807)) (.ret (.inr (.ret, stOf [4, 5, 6] [.str (U1 (b ++ [(↑(UInt8.toNat (s.getD at_.toNat 0)) : Int)] ++ V0 (Q2 (Z1 s (at_ + (1 : Ty.den (Ty.int .i64))) (IntKind.wrap .i64 (↑(UInt8.toNat (s.getD at_.toNat 0)) : Int)))))), .int .i64 behind, .int .i64 0] []))) .no))) .no) .no) .no)) (.ret (.inr (.ret, stOf [4, 5, 6] [.str [], .int .i64 0, .int .i64 2] [])))) .no))) (.ret (.inr (.ret, stOf [4, 5, 6] [.str [], .int .i64 0, .int .i64 2] [])))) .no
theorem X30 (lp : Lp) (s : List UInt8) (at_ from_ behind : Int) (b : List Int) : evC T0 (orcB [Z00, Jn, Xf, X08] [Zz, Vz, Vx, Uy, Qz, J0c]) lp X2q 0 (stOf [0, 1, 7, 8, 9] [.str s, .int .i64 at_, .ptr 0 0, .int .i64 from_, .int .i64 behind] [.boxT (some 212) [.np, .rowA 1], .row (.int .u8) b]) (U0 [0, 1, 7, 8, 9] [4, 5, 6] 0) = (J3r s at_ from_ behind b).get := by kernel_rfl
theorem V3v : X2p.Ok T0 (orcB [Z00, Jn, Xf, X08] [Zz, Vz, Vx, Uy, Qz, J0c]) h124 0 0 X2q := by
 intro q'' hq'' x'' y'' r'' h
 obtain ⟨(s : List UInt8), (at_ : Int), (from_ : Int), (behind : Int), _⟩ := x''
 obtain ⟨_, (b : List Int), _⟩ := y''
 obtain ⟨hc, rfl⟩ := Tr.get_on h
 show V2 (fun st => evC T0 (orcB [Z00, Jn, Xf, X08] [Zz, Vz, Vx, Uy, Qz, J0c]) (lpN T0 (orcB [Z00, Jn, Xf, X08] [Zz, Vz, Vx, Uy, Qz, J0c]) h124 0 q'') X2q 0 st (U0 [0, 1, 7, 8, 9] [4, 5, 6] 0)) (stOf [0, 1, 7, 8, 9] [.str s, .int .i64 at_, .ptr 0 0, .int .i64 from_, .int .i64 behind] [.boxT (some 212) [.np, .rowA 1], .row (.int .u8) b]) = some (.ret, stOf [4, 5, 6] ([.str (tkS (U2 s at_ from_ behind (U1 b))), .int .i64 (tkN (U2 s at_ from_ behind (U1 b))), .int .i64 (tkE (U2 s at_ from_ behind (U1 b)))]) ([]))
 simp only [tkC, Bool.and_eq_true] at hc
 obtain ⟨hbig, hok, hb⟩ := hc
 have hb := Nat.le_of_ble_eq_true hb
 refine J3f (fun a : Int × Int × Int × List Int => stOf [0, 1, 7, 8, 9] [.str s, .int .i64 a.1, .ptr 0 0, .int .i64 a.2.1, .int .i64 a.2.2.1] [.boxT (some 212) [.np, .rowA 1], .row (.int .u8) a.2.2.2]) (fun a => tkI s at_ from_ behind b a.1 a.2.1 a.2.2.1 a.2.2.2) (fun a => msT s a.1 a.2.1) _
  (fun a => J3r s a.1 a.2.1 a.2.2.1 a.2.2.2) (fun a x hx => (X30 _ s a.1 a.2.1 a.2.2.1 a.2.2.2).trans hx) ?_ (at_, from_, behind, b) ⟨hok, hb, rfl⟩
 clear hok hb
 rintro ⟨at_, from_, behind, b⟩ ⟨hok, hb, he⟩
 simp only at hok hb he ⊢
 rw [← he]
 unfold J3r
 have hB : s.length ≤ 1000000000000 := by simpa [bigS] using hbig
 have hc : (↑(UInt8.toNat (List.getD s (Int.toNat at_) 0)) : Int) = (szT s at_ : Int) := rfl
 have hc255 := Z3w s at_
 have hto := Z01 s at_
 simp only [Z2q (Q19 s at_).1 (Q19 s at_).2, hc]
 simp only [show n16 s at_ % 16384 = toT s at_ from rfl, IntWalk.i64_in ((szT s at_ : Nat) : Int) (by omega)]
 cases h1 : Q0 s at_ 1 with
 | false =>
   rw [Zx h1]
   exact Tr.all_t hbig (Tr.all_f rfl (Tr.all_ret (.inl rfl)))
 | true =>
   have hs1 := V6.1 h1
   refine Tr.all_t hbig (Tr.all_t rfl ?_)
   by_cases h192 : 192 ≤ szT s at_
   · refine Tr.all_t (J0 (by omega)) (Tr.all_f (Z0 (by omega)) (Tr.all_t (J0 (by omega)) (Tr.all_t hbig ?_)))
     by_cases h3 : Q0 s at_ 2 = true ∧ toT s at_ < from_
     · rw [Z0f h1 h192 h3.1 h3.2] at he ⊢
       refine Tr.all_t h3.1 (Tr.all_t (J0 h3.2) (Tr.all_br (fun c1 => ?_) fun c1 => ?_))
       · simp only [decide_eq_true_eq] at c1
         rw [if_pos c1] at he
         exact Tr.all_ret (.inr (.inl ⟨(_, _, _, _), rfl, ⟨hok, hb, he⟩, U0u hto.1 h3.2⟩))
       · simp only [decide_eq_false_iff_not] at c1
         rw [if_neg c1] at he
         exact Tr.all_ret (.inr (.inl ⟨(_, _, _, _), rfl, ⟨hok, hb, he⟩, U0u hto.1 h3.2⟩))
     · rw [U0e h1 h192 h3]
       cases h2 : Q0 s at_ 2 with
       | false => exact Tr.all_f rfl (Tr.all_ret (.inl rfl))
       | true => exact Tr.all_t rfl (Tr.all_f (Z0 (fun h => h3 ⟨h2, h⟩)) (Tr.all_ret (.inl rfl)))
   · by_cases h63 : 63 < szT s at_
     · rw [X0e h1 h192 h63]
       exact Tr.all_t (J0 (by omega)) (Tr.all_t (J0 (by omega)) (Tr.all_ret (.inl rfl)))
     · refine Tr.all_f (Z0 (by omega)) (Tr.all_f (Z0 (by omega)) (Tr.all_t hbig ?_))
       cases h4 : Q0 s (at_ + 1) (szT s at_) with
       | false =>
         rw [Xj h1 (by omega) (by rw [h4]; simp)]
         exact Tr.all_f rfl (Tr.all_ret (.inl rfl))
       | true =>
         have hs4 := V6.1 h4
         have hvl : (Z1 s (at_ + 1) (szT s at_ : Int)).length = szT s at_ := by rw [Z0x h4]; omega
         have hvb : bigS (Z1 s (at_ + 1) (szT s at_ : Int)) = true := by simp [bigS, hvl]; omega
         rw [hvl]
         rw [IntWalk.i64_in ((List.length b : Int) + 1) (by omega), IntWalk.i64_in _ (by omega)]
         refine Tr.all_t rfl ?_
         by_cases h5 : b.length + 1 + szT s at_ ≤ 255
         · have hnew : Z8 (b ++ [((szT s at_ : Nat) : Int)] ++ V0 (Q2 (Z1 s (at_ + 1) (szT s at_ : Int)))) = true := by
             refine Q00 (Q00 hok ?_) (X09 _)
             simp [Z8]
             omega
           have hnl : (b ++ [((szT s at_ : Nat) : Int)] ++ V0 (Q2 (Z1 s (at_ + 1) (szT s at_ : Int)))).length = b.length + 1 + szT s at_ := by
            simp [Jc, Vb, hvl]
            omega
           have hS2 : U1 (b ++ [((szT s at_ : Nat) : Int)] ++ V0 (Q2 (Z1 s (at_ + 1) (szT s at_ : Int)))) = U1 b ++ s.getD at_.toNat 0 :: Q2 (Z1 s (at_ + 1) (szT s at_ : Int)) := by
            rw [Z0p, Z0p, V0k]
            have : U1 [((szT s at_ : Nat) : Int)] = [s.getD at_.toNat 0] := by simp [U1, szT]
            rw [this]
            simp
           refine Tr.all_f (Z0 (by omega)) (Tr.all_t (U5 (by omega) (by omega)) (Tr.all_t hvb (Tr.all_t (U5 (by simp [Jc, Vb, hvl]; omega) (by simp [Jc, Vb, hvl]; omega)) ?_)))
           by_cases h0 : szT s at_ = 0
           · rw [X0g h1 h0 (by rw [X02]; omega)]
             have hv0 : Z1 s (at_ + 1) (szT s at_ : Int) = [] := List.length_eq_zero_iff.1 (by rw [hvl]; exact h0)
             have hg0 : s.getD at_.toNat 0 = 0 := by
              have : (s.getD at_.toNat 0).toNat = 0 := h0
              exact UInt8.toNat_inj.1 (by simpa using this)
             have hend : (Z8 (b ++ [((szT s at_ : Nat) : Int)] ++ V0 (Q2 (Z1 s (at_ + 1) (szT s at_ : Int)))) && (!List.isEmpty (b ++ [((szT s at_ : Nat) : Int)] ++ V0 (Q2 (Z1 s (at_ + 1) (szT s at_ : Int)))) && Nat.ble (List.length (b ++ [((szT s at_ : Nat) : Int)] ++ V0 (Q2 (Z1 s (at_ + 1) (szT s at_ : Int))))) 9223372036854775807)) = true := by
              rw [hnew, Nat.ble_eq_true_of_le (by omega)]
              simp
             refine Tr.all_f (Z0 (by omega)) (Tr.all_br (fun c1 => Tr.all_t hend (Tr.all_ret (.inl ?_))) fun c1 => Tr.all_t hend (Tr.all_ret (.inl ?_)))
             · simp only [decide_eq_true_eq] at c1
               rw [if_pos c1, hS2, hv0, hg0, h0]
               simp [Q2]
               rfl
             · simp only [decide_eq_false_iff_not] at c1
               rw [if_neg c1, hS2, hv0, hg0]
               rfl
           · have hG := J0n (s := s) (at_ := at_) (from_ := from_) (behind := behind) (out := U1 b) h1 (by omega) h0 h4 (by rw [X02]; omega)
             rw [← hS2] at hG
             rw [hG] at he ⊢
             refine Tr.all_t (J0 (by omega)) (Tr.all_ret ?_)
             refine .inr (.inr ⟨_, rfl, ?_⟩)
             have := Z3r q'' (Nat.zero_le _) (s, at_ + 1 + szT s at_, from_, behind, ()) ((), b ++ [((szT s at_ : Nat) : Int)] ++ V0 (Q2 (Z1 s (at_ + 1) (szT s at_ : Int))), ()) (.ret, resT (U2 s (at_ + 1 + szT s at_) from_ behind (U1 (b ++ [((szT s at_ : Nat) : Int)] ++ V0 (Q2 (Z1 s (at_ + 1) (szT s at_ : Int)))))), []) (by
              show (Tr.on (tkC s _) _).get = _
              rw [show tkC s (b ++ [((szT s at_ : Nat) : Int)] ++ V0 (Q2 (Z1 s (at_ + 1) (szT s at_ : Int)))) = true by simp only [tkC, hbig, hnew, Bool.true_and]; exact Nat.ble_eq_true_of_le (by omega)]
              rfl)
             exact this
         · rw [Xj h1 (by omega) (by rw [X02]; exact fun h => h5 h.2)]
           exact Tr.all_t (J0 (by omega)) (Tr.all_ret (.inl rfl))
def t124 (s : List UInt8) (at_ : Int) : Tr Res := .br (tkC s []) (.ret ([.str (tkS (U2 s at_ at_ (-1 : Int) (U1 []))), .int .i64 (tkN (U2 s at_ at_ (-1 : Int) (U1 []))), .int .i64 (tkE (U2 s at_ at_ (-1 : Int) (U1 [])))], [])) .no
def os124 : OSpec := { f := 124, sh := [.d .str false, .d (.int .i64) false], so := [], F := fun (s, at_, _) _ => t124 s at_ }
theorem fn124 (s : List UInt8) (at_ : Int) : evC T0 (orcB [Z00, Jn, Xf, X08] [Zz, Vz, Vx, Uy, Qz, J0c]) (lpOf h124 0 (lsOf [X2p])) c124 1000000 (V1 [.str s, .int .i64 at_] [] Tryz.f124.ntmps) (J1 T0 false 0 Tryz.f124) = (t124 s at_).get := by kernel_rfl
theorem ok124 : os124.Ok Tryz.prog := by
 refine V3 Q1 tab0 (X0 (all_cons Q41 (all_cons U19 (all_cons J0s (all_cons X3v all_nil)))) (all_cons V50 (all_cons V52 (all_cons Z4u (all_cons U4v (all_cons Q4o (all_cons okStr all_nil))))))) h124 (d := 0) (n0 := 0) (S := lsOf [X2p]) Tryz.func124 (by kernel_rfl) (c := c124) (by kernel_rfl) rfl (X4 (xs := [(0, X2q)]) (by kernel_rfl) (all_cons (V5 V3v) all_nil)) (by omega) (by kernel_rfl) ?_
 intro x'' y'' q'' hq''
 obtain ⟨(s : List UInt8), (at_ : Int), _⟩ := x''
 exact (fn124 s at_).trans hq''
def Q4g : FSpec := fsT 124 [(.str, false), ((.int .i64), false)] [(.str, false), ((.int .i64), false), ((.int .i64), false)] fun (s, at_, _) => t124 s at_
theorem Q4q : Q4g.Ok Tryz.prog := V4 fun x'' r'' hr'' => ok124 x'' () r'' hr''
def U01 : FSpec := Q4g.like fun (s, at_, _) => .on (bigS s) (tkS (U2 s at_ at_ (-1) []), tkN (U2 s at_ at_ (-1) []), tkE (U2 s at_ at_ (-1) []), ())
theorem J14 : U01.Ok Tryz.prog := by
 refine Q3 Q4q _ ?_
 rintro ⟨(s : List UInt8), (at_ : Int), _⟩ y h
 obtain ⟨hb, rfl⟩ := Tr.get_on h
 refine X2 (vs := resT (U2 s at_ at_ (-1) [])) rfl rfl (Tr.get_of_all ?_)
 show (t124 s at_).all _
 exact Tr.all_t (by simp only [tkC, hb]; rfl) (Tr.all_ret rfl)
def t149 : Tr Res := .ret ([.mp 0], [.mpo (Ty.int .u16) (Ty.list (.int .i64)) [(1, [4]), (28, [16]), (2, [(-1 : Int)]), (5, [(-1 : Int)]), (12, [(-1 : Int)]), (15, [2, (-1 : Int)]), (6, [(-1 : Int), (-1 : Int), 20]), (16, [(-2 : Int)])]])
def V4n : OSpec := { f := 149, sh := [], so := [], F := fun _ _ => t149 }
theorem fn149 : evC T0 (orcB [] []) (lpOf (hOwn h149) 0 (lsOf [])) c149 1000000 (V1 [] [] Tryz.f149.ntmps) (J1 T0 true 0 Tryz.f149) = (t149).get := by kernel_rfl
theorem ok149 : V4n.Ok Tryz.prog := by
 refine V3 Q1 tab0 (X0 all_nil all_nil) (hOwn h149) (d := 0) (n0 := 0) (S := lsOf []) Tryz.func149 (by kernel_rfl) (c := c149) (by kernel_rfl) rfl (Z3 (by kernel_rfl)) (by omega) (by kernel_rfl) ?_
 intro x'' y'' q'' hq''
 exact (fn149).trans hq''
def t127 (k : Int) : Tr Res := .br (!hasM (Ty.int .u16) (Ty.list (.int .i64)) k [(1, [4]), (28, [16]), (2, [(-1 : Int)]), (5, [(-1 : Int)]), (12, [(-1 : Int)]), (15, [2, (-1 : Int)]), (6, [(-1 : Int), (-1 : Int), 20]), (16, [(-2 : Int)])]) (.ret ([.list (.int .i64) [(-3 : Int)]], [])) (.ret ([.list (.int .i64) (getM (Ty.int .u16) (Ty.list (.int .i64)) k [(1, [4]), (28, [16]), (2, [(-1 : Int)]), (5, [(-1 : Int)]), (12, [(-1 : Int)]), (15, [2, (-1 : Int)]), (6, [(-1 : Int), (-1 : Int), 20]), (16, [(-2 : Int)])])], []))
def os127 : OSpec := { f := 127, sh := [.d (.int .u16) false], so := [], F := fun (k, _) _ => t127 k }
theorem fn127 (k : Int) : evC T0 (orcB [] [V4n]) (lpOf h127 0 (lsOf [])) c127 1000000 (V1 [.int .u16 k] [] Tryz.f127.ntmps) (J1 T0 false 0 Tryz.f127) = (t127 k).get := by kernel_rfl
theorem ok127 : os127.Ok Tryz.prog := by
 refine V3 Q1 tab0 (X0 all_nil (all_cons ok149 all_nil)) h127 (d := 0) (n0 := 0) (S := lsOf []) Tryz.func127 (by kernel_rfl) (c := c127) (by kernel_rfl) rfl (Z3 (by kernel_rfl)) (by omega) (by kernel_rfl) ?_
 intro x'' y'' q'' hq''
 obtain ⟨(k : Int), _⟩ := x''
 exact (fn127 k).trans hq''
def Q4j : FSpec := fsT 127 [((.int .u16), false)] [((.list (.int .i64)), false)] fun (k, _) => t127 k
theorem V4x : Q4j.Ok Tryz.prog := V4 fun x'' r'' hr'' => ok127 x'' () r'' hr''
noncomputable def b133 : Code := Z4 c133 0
def X3l : LoopSpec := { bid := 0, sh := [.d .str false, .d (.int .i64) false], so := [], F := fun (s, at_, _) _ => .on (bigS s && decide (at_ = 0)) (.exit 0, [.str s, .int .i64 (whAt s 0)], []) }
def r133 (s : List UInt8) (at_ : Int) : Tr (St ⊕ (Ex × St)) := .br (decide (at_ < (↑s.length : Int))) (.br (decide (0 ≤ at_)) (.br (decide (at_ < (↑s.length : Int))) (.br (decide ((↑(UInt8.toNat (s.getD at_.toNat 0)) : Int) > 0)) (.br (decide (0 ≤ at_)) (.br (decide (at_ < (↑s.length : Int))) (.ret (.inl (stOf [0, 3] [.str s, .int .i64 (IntKind.wrap .i64 (at_ + IntKind.wrap .i64 (1 + IntKind.wrap .i64 (↑(UInt8.toNat (s.getD at_.toNat 0)) : Int))))] []))) .no) .no) (.ret (.inr (.exit 0, stOf [0, 3] [.str s, .int .i64 at_] [])))) .no) .no) (.ret (.inr (.exit 0, stOf [0, 3] [.str s, .int .i64 at_] [])))
theorem J3k (orc : Orc) (lp : Lp) (s : List UInt8) (at_ : Int) : evC T0 orc lp b133 0 (stOf [0, 3] [.str s, .int .i64 at_] []) (U0 [0, 3] [0, 3] 0) = (r133 s at_).get := by kernel_rfl
theorem wf133 (orc : Orc) (s : List UInt8) (I'' : Int → Prop) (m'' : Int → Nat) (r'' : Ex × St) (h : ∀ (at_ : Int), I'' at_ → (r133 s at_).all fun x'' => x'' = .inr r'' ∨ ∃ (at_' : Int), x'' = .inl (stOf [0, 3] [.str s, .int .i64 at_'] []) ∧ I'' at_' ∧ m'' at_' < m'' at_) (lp : Lp) (at_ : Int) : I'' at_ →
    V2 (fun st => evC T0 orc lp b133 0 st (U0 [0, 3] [0, 3] 0)) (stOf [0, 3] [.str s, .int .i64 at_] []) = some r'' :=
 Z5 (fun a'' : Int => stOf [0, 3] [.str s, .int .i64 a''] []) (fun a'' => I'' a'') (fun a'' => m'' a'') r'' (fun a'' => r133 s a'')
  (fun a'' x hx => (J3k orc lp s a'').trans hx) (fun a'' ha => Tr.all_mono (fun x'' hx => hx.imp id fun ⟨at_', h1, h2, h3⟩ => ⟨(at_'), h1, h2, h3⟩) (h (a'') ha)) (at_)
theorem V42 (orc : Orc) : X3l.Ok T0 orc h133 0 0 b133 := by
 intro q'' hq'' x'' y'' r'' h
 obtain ⟨(s : List UInt8), (at_ : Int), _⟩ := x''
 obtain ⟨hc, rfl⟩ := Tr.get_on h
 show V2 (fun st => evC T0 orc (lpN T0 orc h133 0 q'') b133 0 st (U0 [0, 3] [0, 3] 0)) (stOf [0, 3] [.str s, .int .i64 at_] []) = some (.exit 0, stOf [0, 3] ([.str s, .int .i64 (whAt s 0)]) ([]))
 simp only [Bool.and_eq_true, decide_eq_true_eq] at hc
 obtain ⟨hb, rfl⟩ := hc
 refine wf133 _ s (fun a => 0 ≤ a ∧ whAt s a.toNat = whAt s 0) (fun a => (s.length - a).toNat) _ ?_ _ 0 ⟨by omega, rfl⟩
 rintro a ⟨h1, h2⟩
 have hB : s.length ≤ 1000000000000 := by simpa [bigS] using hb
 have hto : ((a.toNat : Nat) : Int) = a := Int.toNat_of_nonneg h1
 unfold r133
 rw [← h2, whAt.eq_1 s a.toNat]
 by_cases hk : a.toNat < s.length
 · have hb0 : (↑(UInt8.toNat (List.getD s (Int.toNat a) 0)) : Int) = (byN s a.toNat : Int) := rfl
   have hbl : byN s a.toNat < 256 := (s.getD a.toNat 0).toNat_lt
   rw [hb0]
   simp (disch := omega) only [IntWalk.i64_in]
   refine Tr.all_t (J0 (by omega)) (Tr.all_t (J0 h1) (Tr.all_t (J0 (by omega)) (Tr.all_br (fun c1 => Tr.all_t (J0 h1) (Tr.all_t (J0 (by omega)) (Tr.all_ret (.inr ⟨_, rfl, ⟨by omega, ?_⟩, by omega⟩)))) fun c1 => Tr.all_ret (.inl ?_))))
   · simp only [decide_eq_true_eq] at c1
     rw [dif_pos ⟨hk, by omega⟩]
     congr 1
     omega
   · simp only [decide_eq_false_iff_not] at c1
     rw [dif_neg (by omega), hto]
 · rw [dif_neg (by omega), hto]
   exact Tr.all_f (Z0 (by omega)) (Tr.all_ret (.inl rfl))
noncomputable def b134 : Code := Z4 c134 0
def Z3c : LoopSpec := { bid := 0, sh := [.d .str false, .d (.int .i64) false], so := [], F := fun (s, at_, _) _ => .on (bigS s && decide (at_ = 0)) (.exit 0, [.str s, .int .i64 (txAt s 0)], []) }
def r134 (s : List UInt8) (at_ : Int) : Tr (St ⊕ (Ex × St)) := .br (decide (at_ < (↑s.length : Int))) (.br (decide (0 ≤ at_)) (.br (decide (at_ < (↑s.length : Int))) (.ret (.inl (stOf [0, 3] [.str s, .int .i64 (IntKind.wrap .i64 (at_ + IntKind.wrap .i64 (1 + IntKind.wrap .i64 (↑(UInt8.toNat (s.getD at_.toNat 0)) : Int))))] []))) .no) .no) (.ret (.inr (.exit 0, stOf [0, 3] [.str s, .int .i64 at_] [])))
theorem X3r (orc : Orc) (lp : Lp) (s : List UInt8) (at_ : Int) : evC T0 orc lp b134 0 (stOf [0, 3] [.str s, .int .i64 at_] []) (U0 [0, 3] [0, 3] 0) = (r134 s at_).get := by kernel_rfl
theorem wf134 (orc : Orc) (s : List UInt8) (I'' : Int → Prop) (m'' : Int → Nat) (r'' : Ex × St) (h : ∀ (at_ : Int), I'' at_ → (r134 s at_).all fun x'' => x'' = .inr r'' ∨ ∃ (at_' : Int), x'' = .inl (stOf [0, 3] [.str s, .int .i64 at_'] []) ∧ I'' at_' ∧ m'' at_' < m'' at_) (lp : Lp) (at_ : Int) : I'' at_ →
    V2 (fun st => evC T0 orc lp b134 0 st (U0 [0, 3] [0, 3] 0)) (stOf [0, 3] [.str s, .int .i64 at_] []) = some r'' :=
 Z5 (fun a'' : Int => stOf [0, 3] [.str s, .int .i64 a''] []) (fun a'' => I'' a'') (fun a'' => m'' a'') r'' (fun a'' => r134 s a'')
  (fun a'' x hx => (X3r orc lp s a'').trans hx) (fun a'' ha => Tr.all_mono (fun x'' hx => hx.imp id fun ⟨at_', h1, h2, h3⟩ => ⟨(at_'), h1, h2, h3⟩) (h (a'') ha)) (at_)
theorem X4a (orc : Orc) : Z3c.Ok T0 orc h134 0 0 b134 := by
 intro q'' hq'' x'' y'' r'' h
 obtain ⟨(s : List UInt8), (at_ : Int), _⟩ := x''
 obtain ⟨hc, rfl⟩ := Tr.get_on h
 show V2 (fun st => evC T0 orc (lpN T0 orc h134 0 q'') b134 0 st (U0 [0, 3] [0, 3] 0)) (stOf [0, 3] [.str s, .int .i64 at_] []) = some (.exit 0, stOf [0, 3] ([.str s, .int .i64 (txAt s 0)]) ([]))
 simp only [Bool.and_eq_true, decide_eq_true_eq] at hc
 obtain ⟨hb, rfl⟩ := hc
 refine wf134 _ s (fun a => 0 ≤ a ∧ txAt s a.toNat = txAt s 0) (fun a => (s.length - a).toNat) _ ?_ _ 0 ⟨by omega, rfl⟩
 rintro a ⟨h1, h2⟩
 have hB : s.length ≤ 1000000000000 := by simpa [bigS] using hb
 have hto : ((a.toNat : Nat) : Int) = a := Int.toNat_of_nonneg h1
 unfold r134
 rw [← h2, txAt.eq_1 s a.toNat]
 by_cases hk : a.toNat < s.length
 · have hb0 : (↑(UInt8.toNat (List.getD s (Int.toNat a) 0)) : Int) = (byN s a.toNat : Int) := rfl
   have hbl : byN s a.toNat < 256 := (s.getD a.toNat 0).toNat_lt
   rw [hb0]
   simp (disch := omega) only [IntWalk.i64_in]
   refine Tr.all_t (J0 (by omega)) (Tr.all_t (J0 h1) (Tr.all_t (J0 (by omega)) (Tr.all_ret (.inr ⟨_, rfl, ⟨by omega, ?_⟩, by omega⟩))))
   rw [dif_pos hk]
   congr 1
   omega
 · rw [dif_neg hk, hto]
   exact Tr.all_f (Z0 (by omega)) (Tr.all_ret (.inl rfl))
def t133 (s : List UInt8) : Tr Res := .br (bigS s && decide (0 = (0 : Ty.den (Ty.int .i64)))) (.br (decide ((↑(whAt s 0) : Int) ≥ (↑s.length : Int))) (.ret ([.int .i64 0], [])) (.br (decide (0 ≤ IntKind.wrap .i64 ((↑(whAt s 0) : Int) + 1)) && decide (IntKind.wrap .i64 ((↑(whAt s 0) : Int) + 1) ≤ (↑s.length : Int))) (.br (decide (0 ≤ 0) && decide (0 ≤ IntKind.wrap .i64 ((↑(whAt s 0) : Int) + 1))) (.br (bigS (List.take (Int.toNat (IntKind.wrap .i64 ((↑(whAt s 0) : Int) + 1)) - Int.toNat 0) (List.drop (Int.toNat 0) s))) (.br (!mayV (List.take (Int.toNat (IntKind.wrap .i64 ((↑(whAt s 0) : Int) + 1)) - Int.toNat 0) (List.drop (Int.toNat 0) s))) (.ret ([.int .i64 0], [])) (.ret ([.int .i64 (IntKind.wrap .i64 ((↑(whAt s 0) : Int) + 1))], []))) .no) .no) .no)) .no
def os133 : OSpec := { f := 133, sh := [.d .str false], so := [], F := fun (s, _) _ => t133 s }
theorem fn133 (s : List UInt8) : evC T0 (orcB [U4g] []) (lpOf h133 0 (lsOf [X3l])) c133 1000000 (V1 [.str s] [] Tryz.f133.ntmps) (J1 T0 false 0 Tryz.f133) = (t133 s).get := by kernel_rfl
theorem ok133 : os133.Ok Tryz.prog := by
 refine V3 Q1 tab0 (X0 (all_cons Z4r all_nil) all_nil) h133 (d := 0) (n0 := 0) (S := lsOf [X3l]) Tryz.func133 (by kernel_rfl) (c := c133) (by kernel_rfl) rfl (X4 (xs := [(0, b133)]) (by kernel_rfl) (all_cons (V5 (V42 _)) all_nil)) (by omega) (by kernel_rfl) ?_
 intro x'' y'' q'' hq''
 obtain ⟨(s : List UInt8), _⟩ := x''
 exact (fn133 s).trans hq''
def J4k : FSpec := fsT 133 [(.str, false)] [((.int .i64), false)] fun (s, _) => t133 s
theorem Z51 : J4k.Ok Tryz.prog := V4 fun x'' r'' hr'' => ok133 x'' () r'' hr''
def Q0k : FSpec := J4k.like fun (s, _) => .on (bigS s) ((J2 s : Int), ())
theorem Q46 : Q0k.Ok Tryz.prog := by
 refine Q3 Z51 _ ?_
 rintro ⟨(s : List UInt8), _⟩ y h
 obtain ⟨hb, rfl⟩ := Tr.get_on h
 refine X2 (vs := [.int .i64 (J2 s)]) rfl rfl (Tr.get_of_all ?_)
 show (t133 s).all _
 unfold t133 J2
 have hB : s.length ≤ 1000000000000 := by simpa [bigS] using hb
 refine Tr.all_t (by rw [hb]; rfl) ?_
 by_cases hk : whAt s 0 < s.length
 · have hw : IntKind.wrap .i64 ((whAt s 0 : Int) + 1) = (whAt s 0 : Int) + 1 := IntWalk.i64_in _ (by omega)
   have hs : List.take (Int.toNat ((whAt s 0 : Int) + 1) - Int.toNat 0) (List.drop (Int.toNat 0) s) = s.take (whAt s 0 + 1) := by
    rw [show Int.toNat ((whAt s 0 : Int) + 1) - Int.toNat 0 = whAt s 0 + 1 by omega]; rfl
   rw [hw, hs]
   refine Tr.all_f (Z0 (by omega)) (Tr.all_t (by rw [J0 (by omega), J0 (by omega)]; rfl) (Tr.all_t (by rw [J0 (by omega), J0 (by omega)]; rfl) (Tr.all_t (by simp [bigS]; omega) (Tr.all_br (fun c1 => Tr.all_ret ?_) fun c1 => Tr.all_ret ?_))))
   · rw [Bool.not_eq_true'] at c1
     rw [if_neg (by rw [c1]; simp)]
     rfl
   · rw [Bool.not_eq_false'] at c1
     rw [if_pos ⟨hk, c1⟩]
     rfl
 · rw [if_neg (fun h => hk h.1)]
   exact Tr.all_t (J0 (by omega)) (Tr.all_ret rfl)
def t134 (s : List UInt8) : Tr Res := .br (bigS s && decide (0 = (0 : Ty.den (Ty.int .i64)))) (.br (!s == []) (.ret ([.bool ((↑(txAt s 0) : Int) == (↑s.length : Int))], [])) (.ret ([.bool false], []))) .no
def os134 : OSpec := { f := 134, sh := [.d .str false], so := [], F := fun (s, _) _ => t134 s }
theorem fn134 (s : List UInt8) : evC T0 (orcB [] []) (lpOf h134 0 (lsOf [Z3c])) c134 1000000 (V1 [.str s] [] Tryz.f134.ntmps) (J1 T0 false 0 Tryz.f134) = (t134 s).get := by kernel_rfl
theorem ok134 : os134.Ok Tryz.prog := by
 refine V3 Q1 tab0 (X0 all_nil all_nil) h134 (d := 0) (n0 := 0) (S := lsOf [Z3c]) Tryz.func134 (by kernel_rfl) (c := c134) (by kernel_rfl) rfl (X4 (xs := [(0, b134)]) (by kernel_rfl) (all_cons (V5 (X4a _)) all_nil)) (by omega) (by kernel_rfl) ?_
 intro x'' y'' q'' hq''
 obtain ⟨(s : List UInt8), _⟩ := x''
 exact (fn134 s).trans hq''
def J4m : FSpec := fsT 134 [(.str, false)] [(.bool, false)] fun (s, _) => t134 s
theorem U4w : J4m.Ok Tryz.prog := V4 fun x'' r'' hr'' => ok134 x'' () r'' hr''
def U0i : FSpec := J4m.like fun (s, _) => .on (bigS s) (Xp s, ())
theorem Z4a : U0i.Ok Tryz.prog := by
 refine Q3 U4w _ ?_
 rintro ⟨(s : List UInt8), _⟩ y h
 obtain ⟨hb, rfl⟩ := Tr.get_on h
 refine X2 (vs := [.bool (Xp s)]) rfl rfl (Tr.get_of_all ?_)
 show (t134 s).all _
 unfold t134 Xp
 refine Tr.all_t (by rw [hb]; rfl) (Tr.all_br (fun c1 => Tr.all_ret ?_) fun c1 => Tr.all_ret ?_)
 · have : s.isEmpty = false := by cases s with | nil => cases c1 | cons _ _ => rfl
   rw [this]
   congr 3
   rw [Bool.eq_iff_iff]
   simp
   omega
 · have : s.isEmpty = true := by cases s with | nil => rfl | cons _ _ => cases c1
   rw [this]
   rfl
def Uo : FSpec := Q4j.like fun (k, _) => .ret (layV k, ())
theorem V1t : Uo.Ok Tryz.prog := by
 refine Q3 V4x _ ?_
 rintro ⟨(k : Int), _⟩ y h
 cases h
 refine X2 (vs := [.list (.int .i64) (layV k)]) rfl rfl (Tr.get_of_all ?_)
 show (t127 k).all _
 by_cases h1 : k = 1
 · subst h1; exact Tr.all_f rfl (Tr.all_ret rfl)
 by_cases h2 : k = 28
 · subst h2; exact Tr.all_f rfl (Tr.all_ret rfl)
 by_cases h3 : k = 2
 · subst h3; exact Tr.all_f rfl (Tr.all_ret rfl)
 by_cases h4 : k = 5
 · subst h4; exact Tr.all_f rfl (Tr.all_ret rfl)
 by_cases h5 : k = 12
 · subst h5; exact Tr.all_f rfl (Tr.all_ret rfl)
 by_cases h6 : k = 15
 · subst h6; exact Tr.all_f rfl (Tr.all_ret rfl)
 by_cases h7 : k = 6
 · subst h7; exact Tr.all_f rfl (Tr.all_ret rfl)
 by_cases h8 : k = 16
 · subst h8; exact Tr.all_f rfl (Tr.all_ret rfl)
 refine Tr.all_t ?_ (Tr.all_ret ?_)
 · simp [hasM, U0s, Ty.keq, h1, h2, h3, h4, h5, h6, h7, h8]
 · simp [layV, h1, h2, h3, h4, h5, h6, h7, h8]
noncomputable def b99 : Code := Z4 c99 0
def ls99 : LoopSpec := { bid := 0, sh := [.d .str false, .row 0, .d (.list (.int .i64)) false, .d (.int .i64) false, .d (.int .i64) false], so := [.row .str], F := fun (d, ps, n, i, _) (l, _) => .on2 (cutC d ps n i l) ((cutS ps d l).1) (.exit 0, [.str (cutS ps d l).2.1, .dead, .dead, .rowA 0], [.row .str (cutS ps d l).2.2]) (.ret, [.str (cutS ps d l).2.1, .rowA 0, .bool false, .rowA 1], [.row .str [], .row .str (cutS ps d l).2.2]) }
def r99 (d : List UInt8) (ps : List Int) (n i : Int) (l : List (List UInt8)) : Tr (St ⊕ (Ex × St)) := .br (decide (i < n)) (.br (decide (0 ≤ i)) (.br (decide (i < (↑ps.length : Int))) (.br (ps.getD i.toNat (Ty.dflt (Ty.int .i64)) == (-1 : Int)) (.br (bigS d) (.br (decide ((↑(J2 d) : Int) > (↑d.length : Int))) (.ret (.inr (.ret, stOf [1, 4, 5, 6] [.str d, .rowA 0, .bool false, .rowA 1] [.row Ty.str [], .row Ty.str l]))) (.br (ps.getD i.toNat (Ty.dflt (Ty.int .i64)) == (-1 : Int)) (.br ((↑(J2 d) : Int) == 0) (.ret (.inr (.ret, stOf [1, 4, 5, 6] [.str d, .rowA 0, .bool false, .rowA 1] [.row Ty.str [], .row Ty.str l]))) (.br (decide (0 ≤ (↑(J2 d) : Int)) && decide ((↑(J2 d) : Int) ≤ (↑d.length : Int))) (.br (fits (List.length l + 1) 16) (.br (decide (0 ≤ (↑d.length : Int)) && decide ((↑d.length : Int) ≤ (↑d.length : Int))) (.br (decide (0 ≤ (↑(J2 d) : Int)) && decide ((↑(J2 d) : Int) ≤ (↑d.length : Int))) (.ret (.inl (stOf [1, 6, 11, 12, 13] [.str (List.take (Int.toNat (↑d.length : Int) - Int.toNat (↑(J2 d) : Int)) (List.drop (Int.toNat (↑(J2 d) : Int)) d)), .rowA 0, .list (.int .i64) ps, .int .i64 n, .int .i64 (IntKind.wrap .i64 (i + 1))] [.row Ty.str (l ++ [List.take (Int.toNat (↑(J2 d) : Int) - Int.toNat 0) (List.drop (Int.toNat 0) d)])]))) .no) .no) .no) .no)) (.br (decide (0 ≤ (↑(J2 d) : Int)) && decide ((↑(J2 d) : Int) ≤ (↑d.length : Int))) (.br (fits (List.length l + 1) 16) (.br (decide (0 ≤ (↑d.length : Int)) && decide ((↑d.length : Int) ≤ (↑d.length : Int))) (.br (decide (0 ≤ (↑(J2 d) : Int)) && decide ((↑(J2 d) : Int) ≤ (↑d.length : Int))) (.ret (.inl (stOf [1, 6, 11, 12, 13] [.str (List.take (Int.toNat (↑d.length : Int) - Int.toNat (↑(J2 d) : Int)) (List.drop (Int.toNat (↑(J2 d) : Int)) d)), .rowA 0, .list (.int .i64) ps, .int .i64 n, .int .i64 (IntKind.wrap .i64 (i + 1))] [.row Ty.str (l ++ [List.take (Int.toNat (↑(J2 d) : Int) - Int.toNat 0) (List.drop (Int.toNat 0) d)])]))) .no) .no) .no) .no))) .no) (.br (ps.getD i.toNat (Ty.dflt (Ty.int .i64)) == (-2 : Int)) (.br (bigS d) (.br (Xp d) (.br (decide ((↑d.length : Int) > (↑d.length : Int))) (.ret (.inr (.ret, stOf [1, 4, 5, 6] [.str d, .rowA 0, .bool false, .rowA 1] [.row Ty.str [], .row Ty.str l]))) (.br (ps.getD i.toNat (Ty.dflt (Ty.int .i64)) == (-1 : Int)) (.br ((↑d.length : Int) == 0) (.ret (.inr (.ret, stOf [1, 4, 5, 6] [.str d, .rowA 0, .bool false, .rowA 1] [.row Ty.str [], .row Ty.str l]))) (.br (decide (0 ≤ (↑d.length : Int)) && decide ((↑d.length : Int) ≤ (↑d.length : Int))) (.br (fits (List.length l + 1) 16) (.br (decide (0 ≤ (↑d.length : Int)) && decide ((↑d.length : Int) ≤ (↑d.length : Int))) (.br (decide (0 ≤ (↑d.length : Int)) && decide ((↑d.length : Int) ≤ (↑d.length : Int))) (.ret (.inl (stOf [1, 6, 11, 12, 13] [.str (List.take (Int.toNat (↑d.length : Int) - Int.toNat (↑d.length : Int)) (List.drop (Int.toNat (↑d.length : Int)) d)), .rowA 0, .list (.int .i64) ps, .int .i64 n, .int .i64 (IntKind.wrap .i64 (i + 1))] [.row Ty.str (l ++ [List.take (Int.toNat (↑d.length : Int) - Int.toNat 0) (List.drop (Int.toNat 0) d)])]))) .no) .no) .no) .no)) (.br (decide (0 ≤ (↑d.length : Int)) && decide ((↑d.length : Int) ≤ (↑d.length : Int))) (.br (fits (List.length l + 1) 16) (.br (decide (0 ≤ (↑d.length : Int)) && decide ((↑d.length : Int) ≤ (↑d.length : Int))) (.br (decide (0 ≤ (↑d.length : Int)) && decide ((↑d.length : Int) ≤ (↑d.length : Int))) (.ret (.inl (stOf [1, 6, 11, 12, 13] [.str (List.take (Int.toNat (↑d.length : Int) - Int.toNat (↑d.length : Int)) (List.drop (Int.toNat (↑d.length : Int)) d)), .rowA 0, .list (.int .i64) ps, .int .i64 n, .int .i64 (IntKind.wrap .i64 (i + 1))] [.row Ty.str (l ++ [List.take (Int.toNat (↑d.length : Int) - Int.toNat 0) (List.drop (Int.toNat 0) d)])]))) .no) .no) .no) .no))) (.br (ps.getD i.toNat (Ty.dflt (Ty.int .i64)) == (-3 : Int)) (.br (decide ((↑d.length : Int) > (↑d.length : Int))) (.ret (.inr (.ret, stOf [1, 4, 5, 6] [.str d, .rowA 0, .bool false, .rowA 1] [.row Ty.str [], .row Ty.str l]))) (.br (ps.getD i.toNat (Ty.dflt (Ty.int .i64)) == (-1 : Int)) (.br ((↑d.length : Int) == 0) (.ret (.inr (.ret, stOf [1, 4, 5, 6] [.str d, .rowA 0, .bool false, .rowA 1] [.row Ty.str [], .row Ty.str l]))) (.br (decide (0 ≤ (↑d.length : Int)) && decide ((↑d.length : Int) ≤ (↑d.length : Int))) (.br (fits (List.length l + 1) 16) (.br (decide (0 ≤ (↑d.length : Int)) && decide ((↑d.length : Int) ≤ (↑d.length : Int))) (.br (decide (0 ≤ (↑d.length : Int)) && decide ((↑d.length : Int) ≤ (↑d.length : Int))) (.ret (.inl (stOf [1, 6, 11, 12, 13] [.str (List.take (Int.toNat (↑d.length : Int) - Int.toNat (↑d.length : Int)) (List.drop (Int.toNat (↑d.length : Int)) d)), .rowA 0, .list (.int .i64) ps, .int .i64 n, .int .i64 (IntKind.wrap .i64 (i + 1))] [.row Ty.str (l ++ [List.take (Int.toNat (↑d.length : Int) - Int.toNat 0) (List.drop (Int.toNat 0) d)])]))) .no) .no) .no) .no)) (.br (decide (0 ≤ (↑d.length : Int)) && decide ((↑d.length : Int) ≤ (↑d.length : Int))) (.br (fits (List.length l + 1) 16) (.br (decide (0 ≤ (↑d.length : Int)) && decide ((↑d.length : Int) ≤ (↑d.length : Int))) (.br (decide (0 ≤ (↑d.length : Int)) && decide ((↑d.length : Int) ≤ (↑d.length : Int))) (.ret (.inl (stOf [1, 6, 11, 12, 13] [.str (List.take (Int.toNat (↑d.length : Int) - Int.toNat (↑d.length : Int)) (List.drop (Int.toNat (↑d.length : Int)) d)), .rowA 0, .list (.int .i64) ps, .int .i64 n, .int .i64 (IntKind.wrap .i64 (i + 1))] [.row Ty.str (l ++ [List.take (Int.toNat (↑d.length : Int) - Int.toNat 0) (List.drop (Int.toNat 0) d)])]))) .no) .no) .no) .no))) (.br (decide (ps.getD i.toNat (Ty.dflt (Ty.int .i64)) < 0)) (.ret (.inr (.ret, stOf [1, 4, 5, 6] [.str d, .rowA 0, .bool false, .rowA 1] [.row Ty.str [], .row Ty.str l]))) (.br (decide (ps.getD i.toNat (Ty.dflt (Ty.int .i64)) > (↑d.length : Int))) (.ret (.inr (.ret, stOf [1, 4, 5, 6] [.str d, .rowA 0, .bool false, .rowA 1] [.row Ty.str [], .row Ty.str l]))) (.br (ps.getD i.toNat (Ty.dflt (Ty.int .i64)) == (-1 : Int)) (.br (ps.getD i.toNat (Ty.dflt (Ty.int .i64)) == 0) (.ret (.inr (.ret, stOf [1, 4, 5, 6] [.str d, .rowA 0, .bool false, .rowA 1] [.row Ty.str [], .row Ty.str l]))) (.br (decide (0 ≤ List.getD ps i.toNat (Ty.dflt (Ty.int .i64))) && decide (ps.getD i.toNat (Ty.dflt (Ty.int .i64)) ≤ (↑d.length : Int))) (.br (decide (0 ≤ 0) && decide (0 ≤ List.getD ps i.toNat (Ty.dflt (Ty.int .i64)))) (.br (fits (List.length l + 1) 16) (.br (decide (0 ≤ (↑d.length : Int)) && decide ((↑d.length : Int) ≤ (↑d.length : Int))) (.br (decide (0 ≤ List.getD ps i.toNat (Ty.dflt (Ty.int .i64))) && decide (ps.getD i.toNat (Ty.dflt (Ty.int .i64)) ≤ (↑d.length : Int))) (.ret (.inl (stOf [1, 6, 11, 12, 13] [.str (List.take (Int.toNat (↑d.length : Int) - Int.toNat (ps.getD i.toNat (Ty.dflt (Ty.int .i64)))) (List.drop (Int.toNat (ps.getD i.toNat (Ty.dflt (Ty.int .i64)))) d)), .rowA 0, .list (.int .i64) ps, .int .i64 n, .int .i64 (IntKind.wrap .i64 (i + 1))] [.row Ty.str (l ++ [List.take (Int.toNat (ps.getD i.toNat (Ty.dflt (Ty.int .i64))) - Int.toNat 0) (List.drop (Int.toNat 0) d)])]))) .no) .no) .no) .no) .no)) (.br (decide (0 ≤ List.getD ps i.toNat (Ty.dflt (Ty.int .i64))) && decide (ps.getD i.toNat (Ty.dflt (Ty.int .i64)) ≤ (↑d.length : Int))) (.br (decide (0 ≤ 0) && decide (0 ≤ List.getD ps i.toNat (Ty.dflt (Ty.int .i64)))) (.br (fits (List.length l + 1) 16) (.br (decide (0 ≤ (↑d.length : Int)) && decide ((↑d.length : Int) ≤ (↑d.length : Int))) (.br (decide (0 ≤ List.getD ps i.toNat (Ty.dflt (Ty.int .i64))) && decide (ps.getD i.toNat (Ty.dflt (Ty.int .i64)) ≤ (↑d.length : Int))) (.ret (.inl (stOf [1, 6, 11, 12, 13] [.str (List.take (Int.toNat (↑d.length : Int) - Int.toNat (ps.getD i.toNat (Ty.dflt (Ty.int .i64)))) (List.drop (Int.toNat (ps.getD i.toNat (Ty.dflt (Ty.int .i64)))) d)), .rowA 0, .list (.int .i64) ps, .int .i64 n, .int .i64 (IntKind.wrap .i64 (i + 1))] [.row Ty.str (l ++ [List.take (Int.toNat (ps.getD i.toNat (Ty.dflt (Ty.int .i64))) - Int.toNat 0) (List.drop (Int.toNat 0) d)])]))) .no) .no) .no) .no) .no)))))) .no) (.br (ps.getD i.toNat (Ty.dflt (Ty.int .i64)) == (-3 : Int)) (.br (decide ((↑d.length : Int) > (↑d.length : Int))) (.ret (.inr (.ret, stOf [1, 4, 5, 6] [.str d, .rowA 0, .bool false, .rowA 1] [.row Ty.str [], .row Ty.str l]))) (.br (ps.getD i.toNat (Ty.dflt (Ty.int .i64)) == (-1 : Int)) (.br ((↑d.length : Int) == 0) (.ret (.inr (.ret, stOf [1, 4, 5, 6] [.str d, .rowA 0, .bool false, .rowA 1] [.row Ty.str [], .row Ty.str l]))) (.br (decide (0 ≤ (↑d.length : Int)) && decide ((↑d.length : Int) ≤ (↑d.length : Int))) (.br (fits (List.length l + 1) 16) (.br (decide (0 ≤ (↑d.length : Int)) && decide ((↑d.length : Int) ≤ (↑d.length : Int))) (.br (decide (0 ≤ (↑d.length : Int)) && decide ((↑d.length : Int) ≤ (↑d.length : Int))) (.ret (.inl (stOf [1, 6, 11, 12, 13] [.str (List.take (Int.toNat (↑d.length : Int) - Int.toNat (↑d.length : Int)) (List.drop (Int.toNat (↑d.length : Int)) d)), .rowA 0, .list (.int .i64) ps, .int .i64 n, .int .i64 (IntKind.wrap .i64 (i + 1))] [.row Ty.str (l ++ [List.take (Int.toNat (↑d.length : Int) - Int.toNat 0) (List.drop (Int.toNat 0) d)])]))) .no) .no) .no) .no)) (.br (decide (0 ≤ (↑d.length : Int)) && decide ((↑d.length : Int) ≤ (↑d.length : Int))) (.br (fits (List.length l + 1) 16) (.br (decide (0 ≤ (↑d.length : Int)) && decide ((↑d.length : Int) ≤ (↑d.length : Int))) (.br (decide (0 ≤ (↑d.length : Int)) && decide ((↑d.length : Int) ≤ (↑d.length : Int))) (.ret (.inl (stOf [1, 6, 11, 12, 13] [.str (List.take (Int.toNat (↑d.length : Int) - Int.toNat (↑d.length : Int)) (List.drop (Int.toNat (↑d.length : Int)) d)), .rowA 0, .list (.int .i64) ps, .int .i64 n, .int .i64 (IntKind.wrap .i64 (i + 1))] [.row Ty.str (l ++ [List.take (Int.toNat (↑d.length : Int) - Int.toNat 0) (List.drop (Int.toNat 0) d)])]))) .no) .no) .no) .no))) (.br (decide (ps.getD i.toNat (Ty.dflt (Ty.int .i64)) < 0)) (.ret (.inr (.ret, stOf [1, 4, 5, 6] [.str d, .rowA 0, .bool false, .rowA 1] [.row Ty.str [], .row Ty.str l]))) (.br (decide (ps.getD i.toNat (Ty.dflt (Ty.int .i64)) > (↑d.length : Int))) (.ret (.inr (.ret, stOf [1, 4, 5, 6] [.str d, .rowA 0, .bool false, .rowA 1] [.row Ty.str [], .row Ty.str l]))) (.br (ps.getD i.toNat (Ty.dflt (Ty.int .i64)) == (-1 : Int)) (.br (ps.getD i.toNat (Ty.dflt (Ty.int .i64)) == 0) (.ret (.inr (.ret, stOf [1, 4, 5, 6] [.str d, .rowA 0, .bool false, .rowA 1] [.row Ty.str [], .row Ty.str l]))) (.br (decide (0 ≤ List.getD ps i.toNat (Ty.dflt (Ty.int .i64))) && decide (ps.getD i.toNat (Ty.dflt (Ty.int .i64)) ≤ (↑d.length : Int))) (.br (decide (0 ≤ 0) && decide (0 ≤ List.getD ps i.toNat (Ty.dflt (Ty.int .i64)))) (.br (fits (List.length l + 1) 16) (.br (decide (0 ≤ (↑d.length : Int)) && decide ((↑d.length : Int) ≤ (↑d.length : Int))) (.br (decide (0 ≤ List.getD ps i.toNat (Ty.dflt (Ty.int .i64))) && decide (ps.getD i.toNat (Ty.dflt (Ty.int .i64)) ≤ (↑d.length : Int))) (.ret (.inl (stOf [1, 6, 11, 12, 13] [.str (List.take (Int.toNat (↑d.length : Int) - Int.toNat (ps.getD i.toNat (Ty.dflt (Ty.int .i64)))) (List.drop (Int.toNat (ps.getD i.toNat (Ty.dflt (Ty.int .i64)))) d)), .rowA 0, .list (.int .i64) ps, .int .i64 n, .int .i64 (IntKind.wrap .i64 (i + 1))] [.row Ty.str (l ++ [List.take (Int.toNat (ps.getD i.toNat (Ty.dflt (Ty.int .i64))) - Int.toNat 0) (List.drop (Int.toNat 0) d)])]))) .no) .no) .no) .no) .no)) (.br (decide (0 ≤ List.getD ps i.toNat (Ty.dflt (Ty.int .i64))) && decide (ps.getD i.toNat (Ty.dflt (Ty.int .i64)) ≤ (↑d.length : Int))) (.br (decide (0 ≤ 0) && decide (0 ≤ List.getD ps i.toNat (Ty.dflt (Ty.int .i64)))) (.br (fits (List.length l + 1) 16) (.br (decide (0 ≤ (↑d.length : Int)) && decide ((↑d.length : Int) ≤ (↑d.length : Int))) (.br (decide (0 ≤ List.getD ps i.toNat (Ty.dflt (Ty.int .i64))) && decide (ps.getD i.toNat (Ty.dflt (Ty.int .i64)) ≤ (↑d.length : Int))) (.ret (.inl (stOf [1, 6, 11, 12, 13] [.str (List.take (Int.toNat (↑d.length : Int) - Int.toNat (ps.getD i.toNat (Ty.dflt (Ty.int .i64)))) (List.drop (Int.toNat (ps.getD i.toNat (Ty.dflt (Ty.int .i64)))) d)), .rowA 0, .list (.int .i64) ps, .int .i64 n, .int .i64 (IntKind.wrap .i64 (i + 1))] [.row Ty.str (l ++ [List.take (Int.toNat (ps.getD i.toNat (Ty.dflt (Ty.int .i64))) - Int.toNat 0) (List.drop (Int.toNat 0) d)])]))) .no) .no) .no) .no) .no))))))) .no) .no) (.ret (.inr (.exit 0, stOf [1, 4, 5, 6] [.str d, .dead, .dead, .rowA 0] [.row Ty.str l])))
theorem U43 (lp : Lp) (d : List UInt8) (ps : List Int) (n i : Int) (l : List (List UInt8)) : evC T0 (orcB [Uo, Q0k, U0i] []) lp b99 0 (stOf [1, 6, 11, 12, 13] [.str d, .rowA 0, .list (.int .i64) ps, .int .i64 n, .int .i64 i] [.row .str l]) (U0 [1, 6, 11, 12, 13] [1, 4, 5, 6] 0) = (r99 d ps n i l).get := by kernel_rfl
theorem wf99 (ps : List Int) (n : Int) (I'' : List UInt8 → Int → List (List UInt8) → Prop) (m'' : List UInt8 → Int → List (List UInt8) → Nat) (r'' : Ex × St) (h : ∀ (d : List UInt8) (i : Int) (l : List (List UInt8)), I'' d i l → (r99 d ps n i l).all fun x'' => x'' = .inr r'' ∨ ∃ (d' : List UInt8) (i' : Int) (l' : List (List UInt8)), x'' = .inl (stOf [1, 6, 11, 12, 13] [.str d', .rowA 0, .list (.int .i64) ps, .int .i64 n, .int .i64 i'] [.row .str l']) ∧ I'' d' i' l' ∧ m'' d' i' l' < m'' d i l) (lp : Lp) (d : List UInt8) (i : Int) (l : List (List UInt8)) : I'' d i l →
    V2 (fun st => evC T0 (orcB [Uo, Q0k, U0i] []) lp b99 0 st (U0 [1, 6, 11, 12, 13] [1, 4, 5, 6] 0)) (stOf [1, 6, 11, 12, 13] [.str d, .rowA 0, .list (.int .i64) ps, .int .i64 n, .int .i64 i] [.row .str l]) = some r'' :=
 Z5 (fun a'' : List UInt8 × Int × List (List UInt8) => stOf [1, 6, 11, 12, 13] [.str a''.1, .rowA 0, .list (.int .i64) ps, .int .i64 n, .int .i64 a''.2.1] [.row .str a''.2.2]) (fun a'' => I'' a''.1 a''.2.1 a''.2.2) (fun a'' => m'' a''.1 a''.2.1 a''.2.2) r'' (fun a'' => r99 a''.1 ps n a''.2.1 a''.2.2)
  (fun a'' x hx => (U43 lp a''.1 ps n a''.2.1 a''.2.2).trans hx) (fun a'' ha => Tr.all_mono (fun x'' hx => hx.imp id fun ⟨d', i', l', h1, h2, h3⟩ => ⟨(d', i', l'), h1, h2, h3⟩) (h (a''.1) (a''.2.1) (a''.2.2) ha)) (d, i, l)
def cutI (ps0 : List Int) (d0 : List UInt8) (l0 : List (List UInt8)) (d : List UInt8) (i : Int) (l : List (List UInt8)) : Prop := 0 ≤ i ∧ i ≤ ps0.length ∧ bigS d = true ∧ l.length = i.toNat ∧ cutS (ps0.drop i.toNat) d l = cutS ps0 d0 l0
theorem Q1i {P : St ⊕ (Ex × St) → Prop} {d : List UInt8} {l : List (List UInt8)} {ps : List Int} {n i sz : Int} (h0 : 0 ≤ sz) (h1 : sz ≤ d.length) (hf : fits (l.length + 1) 16 = true)
    (hr : P (Sum.inl (stOf [1, 6, 11, 12, 13] [AV.str (d.drop sz.toNat), AV.rowA 0, AV.list (Ty.int IntKind.i64) ps, AV.int IntKind.i64 n, AV.int IntKind.i64 (IntKind.wrap IntKind.i64 (i + (1 : Int)))] [LObj.row Ty.str (l ++ [d.take sz.toNat])]))) :
    (Tr.br (decide ((0 : Int) ≤ sz) && decide (sz ≤ (↑(List.length d) : Int))) (Tr.br (fits (List.length l + 1) 16) (Tr.br (decide ((0 : Int) ≤ (↑(List.length d) : Int)) && decide ((↑(List.length d) : Int) ≤ (↑(List.length d) : Int))) (Tr.br (decide ((0 : Int) ≤ sz) && decide (sz ≤ (↑(List.length d) : Int)))
     (Tr.ret (Sum.inl (stOf [1, 6, 11, 12, 13] [AV.str (List.take (Int.toNat (↑(List.length d) : Int) - Int.toNat sz) (List.drop (Int.toNat sz) d)), AV.rowA 0, AV.list (Ty.int IntKind.i64) ps, AV.int IntKind.i64 n, AV.int IntKind.i64 (IntKind.wrap IntKind.i64 (i + (1 : Int)))] [LObj.row Ty.str (l ++ [List.take (Int.toNat sz - Int.toNat (0 : Int)) (List.drop (Int.toNat (0 : Int)) d)])]))) Tr.no) Tr.no) Tr.no) Tr.no).all P := by
 have e : List.take (Int.toNat (↑(List.length d) : Int) - Int.toNat sz) (List.drop (Int.toNat sz) d) = d.drop sz.toNat := List.take_of_length_le (by simp)
 have e2 : List.take (Int.toNat sz - Int.toNat (0 : Int)) (List.drop (Int.toNat (0 : Int)) d) = d.take sz.toNat := rfl
 rw [e, e2]
 refine Tr.all_t (by rw [J0 h0, J0 h1]; rfl) (Tr.all_t hf (Tr.all_t (by rw [J0 (by omega), J0 (by omega)]; rfl) (Tr.all_t (by rw [J0 h0, J0 h1]; rfl) (Tr.all_ret hr))))
theorem X33 {P : St ⊕ (Ex × St) → Prop} {d : List UInt8} {l : List (List UInt8)} {ps : List Int} {n i sz : Int} (h0 : 0 ≤ sz) (h1 : sz ≤ d.length) (hf : fits (l.length + 1) 16 = true)
    (hr : P (Sum.inl (stOf [1, 6, 11, 12, 13] [AV.str (d.drop sz.toNat), AV.rowA 0, AV.list (Ty.int IntKind.i64) ps, AV.int IntKind.i64 n, AV.int IntKind.i64 (IntKind.wrap IntKind.i64 (i + (1 : Int)))] [LObj.row Ty.str (l ++ [d.take sz.toNat])]))) :
    (Tr.br (decide ((0 : Int) ≤ sz) && decide (sz ≤ (↑(List.length d) : Int))) (Tr.br (decide ((0 : Int) ≤ (0 : Int)) && decide ((0 : Int) ≤ sz)) (Tr.br (fits (List.length l + 1) 16) (Tr.br (decide ((0 : Int) ≤ (↑(List.length d) : Int)) && decide ((↑(List.length d) : Int) ≤ (↑(List.length d) : Int))) (Tr.br (decide ((0 : Int) ≤ sz) && decide (sz ≤ (↑(List.length d) : Int)))
     (Tr.ret (Sum.inl (stOf [1, 6, 11, 12, 13] [AV.str (List.take (Int.toNat (↑(List.length d) : Int) - Int.toNat sz) (List.drop (Int.toNat sz) d)), AV.rowA 0, AV.list (Ty.int IntKind.i64) ps, AV.int IntKind.i64 n, AV.int IntKind.i64 (IntKind.wrap IntKind.i64 (i + (1 : Int)))] [LObj.row Ty.str (l ++ [List.take (Int.toNat sz - Int.toNat (0 : Int)) (List.drop (Int.toNat (0 : Int)) d)])]))) Tr.no) Tr.no) Tr.no) Tr.no) Tr.no).all P := by
 have e : List.take (Int.toNat (↑(List.length d) : Int) - Int.toNat sz) (List.drop (Int.toNat sz) d) = d.drop sz.toNat := List.take_of_length_le (by simp)
 have e2 : List.take (Int.toNat sz - Int.toNat (0 : Int)) (List.drop (Int.toNat (0 : Int)) d) = d.take sz.toNat := rfl
 rw [e, e2]
 refine Tr.all_t (by rw [J0 h0, J0 h1]; rfl) (Tr.all_t (by rw [J0 h0]; rfl) (Tr.all_t hf (Tr.all_t (by rw [J0 (by omega), J0 (by omega)]; rfl) (Tr.all_t (by rw [J0 h0, J0 h1]; rfl) (Tr.all_ret hr)))))
theorem V4q : ls99.Ok T0 (orcB [Uo, Q0k, U0i] []) h99 0 0 b99 := by
 intro q'' hq'' x'' y'' r'' h
 obtain ⟨(d : List UInt8), (ps : List Int), (n : Int), (i : Int), _⟩ := x''
 obtain ⟨(l : List (List UInt8)), _⟩ := y''
 obtain ⟨hc, rfl⟩ := Tr.get_on2 h
 show V2 (fun st => evC T0 (orcB [Uo, Q0k, U0i] []) (lpN T0 (orcB [Uo, Q0k, U0i] []) h99 0 q'') b99 0 st (U0 [1, 6, 11, 12, 13] [1, 4, 5, 6] 0)) (stOf [1, 6, 11, 12, 13] [.str d, .rowA 0, .list (.int .i64) ps, .int .i64 n, .int .i64 i] [.row .str l]) = some ((bif (cutS ps d l).1 then (.exit 0, [.str (cutS ps d l).2.1, .dead, .dead, .rowA 0], [.row .str (cutS ps d l).2.2]) else (.ret, [.str (cutS ps d l).2.1, .rowA 0, .bool false, .rowA 1], [.row .str [], .row .str (cutS ps d l).2.2]) : Ex × List AV × List LObj).1, stOf [1, 4, 5, 6] (bif (cutS ps d l).1 then (.exit 0, [.str (cutS ps d l).2.1, .dead, .dead, .rowA 0], [.row .str (cutS ps d l).2.2]) else (.ret, [.str (cutS ps d l).2.1, .rowA 0, .bool false, .rowA 1], [.row .str [], .row .str (cutS ps d l).2.2]) : Ex × List AV × List LObj).2.1 (bif (cutS ps d l).1 then (.exit 0, [.str (cutS ps d l).2.1, .dead, .dead, .rowA 0], [.row .str (cutS ps d l).2.2]) else (.ret, [.str (cutS ps d l).2.1, .rowA 0, .bool false, .rowA 1], [.row .str [], .row .str (cutS ps d l).2.2]) : Ex × List AV × List LObj).2.2)
 simp only [cutC, Bool.and_eq_true, decide_eq_true_eq, noS, List.isEmpty_iff] at hc
 obtain ⟨hb, rfl, rfl, rfl, hps⟩ := hc
 refine wf99 ps _ (cutI ps d []) (fun _ i _ => (ps.length - i).toNat) _ ?_ _ d 0 [] ⟨by omega, by omega, hb, rfl, rfl⟩
 clear hb
 rintro d' i l' ⟨h0, h1, hb, hl, hF⟩
 rw [← hF]
 have hB : d'.length ≤ 1000000000000 := by simpa [bigS] using hb
 unfold r99
 by_cases hi : i < ps.length
 · obtain ⟨d1, _⟩ := V1l (Ty.dflt (Ty.int .i64)) h0 hi
   generalize List.getD ps (Int.toNat i) (Ty.dflt (Ty.int .i64)) = x at d1
   rw [d1, cutS] at hF ⊢
   have hfit : fits (l'.length + 1) 16 = true := U5 (by omega) (by omega)
   have hw : IntKind.wrap .i64 (i + 1) = i + 1 := IntWalk.i64_in _ (by omega)
   have Vn : ∀ sz, szP x d' = sz → okP x d' = true → cutI ps d [] (d'.drop sz.toNat) (IntKind.wrap .i64 (i + 1)) (l' ++ [d'.take sz.toNat]) ∧ (ps.length - IntKind.wrap .i64 (i + 1)).toNat < (ps.length - i).toNat := fun sz hs ho => by
    subst hs
    rw [hw]
    refine ⟨⟨by omega, by omega, by simp [bigS]; omega, by simp; omega, ?_⟩, by omega⟩
    rw [← hF, if_pos ho]
   have hwh := Qw d'
   have hfail : okP x d' = false → (if okP x d' = true then cutS (List.drop (i + 1).toNat ps) (List.drop (szP x d').toNat d') (l' ++ [List.take (szP x d').toNat d']) else (false, d', l')) = (false, d', l') := fun h => if_neg (by rw [h]; simp)
   refine Tr.all_t (J0 hi) (Tr.all_t (J0 h0) (Tr.all_t (J0 hi) ?_))
   by_cases x1 : x = -1
   · have es : szP x d' = (J2 d' : Int) := by unfold szP; rw [if_pos x1]
     have eo : okP x d' = !decide ((J2 d' : Int) = 0) := by
      unfold okP
      rw [es, J0 (by omega), J0 (by omega), J0 x1]
      rfl
     refine Tr.all_t (beq_iff_eq.2 x1) (Tr.all_t hb (Tr.all_f (Z0 (by omega)) (Tr.all_t (beq_iff_eq.2 x1) (Tr.all_br (fun c => Tr.all_ret (.inl ?_)) fun c => Q1i (by omega) (by omega) hfit (.inr ⟨_, _, _, rfl, Vn _ es ?_⟩)))))
     · rw [hfail (by rw [eo, J0 (beq_iff_eq.1 c)]; rfl)]
       rfl
     · rw [eo, Z0 (beq_eq_false_iff_ne.1 c)]
       rfl
   have hx1 : (x == -1) = false := beq_eq_false_iff_ne.2 x1
   have other : ¬ (x = -2 ∧ Xp d' = true ∨ x = -3) → szP x d' = x ∧ okP x d' = (decide (0 ≤ x) && decide (x ≤ (d'.length : Int))) := fun h => by
    have es : szP x d' = x := by unfold szP; rw [if_neg x1, if_neg h]
    refine ⟨es, ?_⟩
    unfold okP
    rw [es, Z0 x1]
    simp
   have full : (x = -2 ∧ Xp d' = true ∨ x = -3) → szP x d' = (d'.length : Int) ∧ okP x d' = true := fun h => by
    have es : szP x d' = (d'.length : Int) := by unfold szP; rw [if_neg x1, if_pos h]
    refine ⟨es, ?_⟩
    unfold okP
    rw [es, Z0 x1]
    simp
   refine Tr.all_f hx1 (Tr.all_br (fun c2 => Tr.all_t hb (Tr.all_br (fun ct => ?_) fun ct => ?_)) fun c2 => ?_)
   · obtain ⟨es, eo⟩ := full (.inl ⟨beq_iff_eq.1 c2, ct⟩)
     exact Tr.all_f (Z0 (by omega)) (Tr.all_f hx1 (Q1i (by omega) (by omega) hfit (.inr ⟨_, _, _, rfl, Vn _ es eo⟩)))
   · have hx2 := beq_iff_eq.1 c2
     obtain ⟨es, eo⟩ := other (by rw [ct]; simp; omega)
     refine Tr.all_f (beq_eq_false_iff_ne.2 (by omega)) (Tr.all_t (J0 (by omega)) (Tr.all_ret (.inl ?_)))
     rw [hfail (by rw [eo, Z0 (by omega)]; rfl)]
     rfl
   · refine Tr.all_br (fun c3 => ?_) fun c3 => ?_
     · obtain ⟨es, eo⟩ := full (.inr (beq_iff_eq.1 c3))
       exact Tr.all_f (Z0 (by omega)) (Tr.all_f hx1 (Q1i (by omega) (by omega) hfit (.inr ⟨_, _, _, rfl, Vn _ es eo⟩)))
     · have hx2 := beq_eq_false_iff_ne.1 c2
       have hx3 := beq_eq_false_iff_ne.1 c3
       obtain ⟨es, eo⟩ := other (by omega)
       refine Tr.all_br (fun c4 => Tr.all_ret (.inl ?_)) fun c4 => Tr.all_br (fun c5 => Tr.all_ret (.inl ?_)) fun c5 => ?_
       · simp only [decide_eq_true_eq] at c4
         rw [hfail (by rw [eo, Z0 (by omega)]; rfl)]
         rfl
       · simp only [decide_eq_true_eq] at c5
         rw [hfail (by rw [eo, Z0 (show ¬ x ≤ (d'.length : Int) by omega), Bool.and_false])]
         rfl
       · simp only [decide_eq_false_iff_not] at c4 c5
         exact Tr.all_f hx1 (X33 (by omega) (by omega) hfit (.inr ⟨_, _, _, rfl, Vn _ es (by rw [eo, J0 (by omega), J0 (by omega)]; rfl)⟩))
 · have : ps.drop i.toNat = [] := List.drop_eq_nil_of_le (by omega)
   rw [this]
   exact Tr.all_f (Z0 hi) (Tr.all_ret (.inl rfl))
def t99 (k : Int) (d : List UInt8) : Tr Res := .br (cutC d (layV k) (↑(List.length (layV k)) : Int) 0 []) (.br (cutS (layV k) d []).1 (.ret ([.list Ty.str (cutS (layV k) d []).2.2, .bool ((cutS (layV k) d []).2.1 == [])], [])) (.ret ([.list Ty.str [], .bool false], []))) .no
def os99 : OSpec := { f := 99, sh := [.d (.int .u16) false, .d .str false], so := [], F := fun (k, d, _) _ => t99 k d }
theorem fn99 (k : Int) (d : List UInt8) : evC T0 (orcB [Uo, Q0k, U0i] []) (lpOf h99 0 (lsOf [ls99])) c99 1000000 (V1 [.int .u16 k, .str d] [] Tryz.f99.ntmps) (J1 T0 false 0 Tryz.f99) = (t99 k d).get := by kernel_rfl
theorem ok99 : os99.Ok Tryz.prog := by
 refine V3 Q1 tab0 (X0 (all_cons V1t (all_cons Q46 (all_cons Z4a all_nil))) all_nil) h99 (d := 0) (n0 := 0) (S := lsOf [ls99]) Tryz.func99 (by kernel_rfl) (c := c99) (by kernel_rfl) rfl (X4 (xs := [(0, b99)]) (by kernel_rfl) (all_cons (V5 V4q) all_nil)) (by omega) (by kernel_rfl) ?_
 intro x'' y'' q'' hq''
 obtain ⟨(k : Int), (d : List UInt8), _⟩ := x''
 exact (fn99 k d).trans hq''
def fs99 : FSpec := fsT 99 [((.int .u16), false), (.str, false)] [((.list .str), false), (.bool, false)] fun (k, d, _) => t99 k d
theorem okf99 : fs99.Ok Tryz.prog := V4 fun x'' r'' hr'' => ok99 x'' () r'' hr''
theorem U27 (k : Int) : (layV k).length ≤ 10 := by
 unfold layV
 repeat' split
 all_goals simp
def X4l : FSpec := fs99.like fun (k, d, _) => .on (bigS d) (bif okV k d then J2o k d else [], okV k d && (X2e k d).isEmpty, ())
theorem J4x : X4l.Ok Tryz.prog := by
 refine Q3 okf99 _ ?_
 rintro ⟨(k : Int), (d : List UInt8), _⟩ y h
 obtain ⟨hb, rfl⟩ := Tr.get_on h
 refine X2 (vs := [.list .str (bif okV k d then J2o k d else []), .bool (okV k d && (X2e k d).isEmpty)]) rfl rfl (Tr.get_of_all ?_)
 show (t99 k d).all _
 unfold t99 okV J2o X2e
 have hl := U27 k
 refine Tr.all_t (by simp [cutC, hb, noS, hl]) (Tr.all_br (fun c1 => Tr.all_ret ?_) fun c1 => Tr.all_ret ?_)
 · rw [c1]
   have : ((cutS (layV k) d []).2.1 == []) = (cutS (layV k) d []).2.1.isEmpty := by cases (cutS (layV k) d []).2.1 <;> rfl
   rw [this]
   rfl
 · rw [c1]
   rfl
def t68 (k : Int) (d : List UInt8) : Tr Res := .br (bigS d) (.br (okV k d && List.isEmpty (X2e k d)) (.ret ([.bool (decide ((↑d.length : Int) ≤ 65535))], [])) (.ret ([.bool false], []))) .no
def os68 : OSpec := { f := 68, sh := [.d (.int .u16) false, .d .str false], so := [], F := fun (k, d, _) _ => t68 k d }
theorem fn68 (k : Int) (d : List UInt8) : evC T0 (orcB [Uo, X4l] []) (lpOf h68 0 (lsOf [])) c68 1000000 (V1 [.int .u16 k, .str d] [] Tryz.f68.ntmps) (J1 T0 false 0 Tryz.f68) = (t68 k d).get := by kernel_rfl
theorem ok68 : os68.Ok Tryz.prog := by
 refine V3 Q1 tab0 (X0 (all_cons V1t (all_cons J4x all_nil)) all_nil) h68 (d := 0) (n0 := 0) (S := lsOf []) Tryz.func68 (by kernel_rfl) (c := c68) (by kernel_rfl) rfl (Z3 (by kernel_rfl)) (by omega) (by kernel_rfl) ?_
 intro x'' y'' q'' hq''
 obtain ⟨(k : Int), (d : List UInt8), _⟩ := x''
 exact (fn68 k d).trans hq''
def fs68 : FSpec := fsT 68 [((.int .u16), false), (.str, false)] [(.bool, false)] fun (k, d, _) => t68 k d
theorem okf68 : fs68.Ok Tryz.prog := V4 fun x'' r'' hr'' => ok68 x'' () r'' hr''
def U1h : FSpec := fs68.like fun (k, d, _) => .on (bigS d) (mayR k d, ())
theorem Z4q : U1h.Ok Tryz.prog := by
 refine Q3 okf68 _ ?_
 rintro ⟨(k : Int), (d : List UInt8), _⟩ y h
 obtain ⟨hb, rfl⟩ := Tr.get_on h
 refine X2 (vs := [.bool (mayR k d)]) rfl rfl (Tr.get_of_all ?_)
 show (t68 k d).all _
 unfold t68 mayR
 refine Tr.all_t hb (Tr.all_br (fun c1 => Tr.all_ret ?_) fun c1 => Tr.all_ret ?_)
 · rw [c1, X0r, Bool.true_and]
   congr 3
   rw [Bool.eq_iff_iff]
   simp
   omega
 · rw [c1]
   rfl
noncomputable def b93 : Code := Z4 c93 0
def ls93 : LoopSpec := { bid := 0, sh := [.d .str false, .d (.int .i64) false, .d (.int .u16) false, .d (.int .i64) false, .d .str false, .d (.list (.int .i64)) false, .d (.int .i64) false, .d (.int .i64) false], so := [], F := fun (s, at_, k, end_, d, ps, n, i, _) _ => .on2 (J2f s at_ end_ d ps n i) ((U3 ps s at_ end_ d).1) (.exit 0, [.int .i64 (U3 ps s at_ end_ d).2.1, .int .u16 k, .dead, .dead, .int .i64 end_, .str (U3 ps s at_ end_ d).2.2], []) (.ret, [.int .i64 (U3 ps s at_ end_ d).2.1, .int .u16 k, .str [], .int .i64 2, .int .i64 end_, .str (U3 ps s at_ end_ d).2.2], []) }
def r93 (s : List UInt8) (at_ k end_ : Int) (d : List UInt8) (ps : List Int) (n i : Int) : Tr (St ⊕ (Ex × St)) := .br (decide (i < n)) (.br (decide (0 ≤ i)) (.br (decide (i < (↑ps.length : Int))) (.br (ps.getD i.toNat (Ty.dflt (Ty.int .i64)) == (-2 : Int)) (.br (ps.getD i.toNat (Ty.dflt (Ty.int .i64)) == (-1 : Int)) (.br (bigS s) (.br (tkE (U2 s at_ at_ (-1 : Int) []) != 0) (.ret (.inr (.ret, stOf [1, 3, 8, 9, 13, 14] [.int .i64 at_, .int .u16 k, .str [], .int .i64 2, .int .i64 end_, .str d] []))) (.br (decide (tkN (U2 s at_ at_ (-1 : Int) []) > end_)) (.ret (.inr (.ret, stOf [1, 3, 8, 9, 13, 14] [.int .i64 at_, .int .u16 k, .str [], .int .i64 2, .int .i64 end_, .str d] []))) (.br (Nat.ble (List.length d + List.length (tkS (U2 s at_ at_ (-1 : Int) []))) 9223372036854775807) (.ret (.inl (stOf [0, 1, 3, 13, 14, 39, 40, 41] [.str s, .int .i64 (tkN (U2 s at_ at_ (-1 : Int) [])), .int .u16 k, .int .i64 end_, .str (d ++ tkS (U2 s at_ at_ (-1 : Int) [])), .list (.int .i64) ps, .int .i64 n, .int .i64 (IntKind.wrap .i64 (i + 1))] []))) .no))) .no) (.br (bigS s) (.br (Q0 s at_ (IntKind.wrap .i64 (end_ - at_))) (.br (decide (at_ + IntKind.wrap .i64 (end_ - at_) > end_)) (.ret (.inr (.ret, stOf [1, 3, 8, 9, 13, 14] [.int .i64 at_, .int .u16 k, .str [], .int .i64 2, .int .i64 end_, .str d] []))) (.br (Nat.ble (List.length d + List.length (Z1 s at_ (IntKind.wrap .i64 (end_ - at_)))) 9223372036854775807) (.ret (.inl (stOf [0, 1, 3, 13, 14, 39, 40, 41] [.str s, .int .i64 (at_ + IntKind.wrap .i64 (end_ - at_)), .int .u16 k, .int .i64 end_, .str (d ++ Z1 s at_ (IntKind.wrap .i64 (end_ - at_))), .list (.int .i64) ps, .int .i64 n, .int .i64 (IntKind.wrap .i64 (i + 1))] []))) .no)) (.ret (.inr (.ret, stOf [1, 3, 8, 9, 13, 14] [.int .i64 at_, .int .u16 k, .str [], .int .i64 2, .int .i64 end_, .str d] [])))) .no)) (.br (ps.getD i.toNat (Ty.dflt (Ty.int .i64)) == (-3 : Int)) (.br (ps.getD i.toNat (Ty.dflt (Ty.int .i64)) == (-1 : Int)) (.br (bigS s) (.br (tkE (U2 s at_ at_ (-1 : Int) []) != 0) (.ret (.inr (.ret, stOf [1, 3, 8, 9, 13, 14] [.int .i64 at_, .int .u16 k, .str [], .int .i64 2, .int .i64 end_, .str d] []))) (.br (decide (tkN (U2 s at_ at_ (-1 : Int) []) > end_)) (.ret (.inr (.ret, stOf [1, 3, 8, 9, 13, 14] [.int .i64 at_, .int .u16 k, .str [], .int .i64 2, .int .i64 end_, .str d] []))) (.br (Nat.ble (List.length d + List.length (tkS (U2 s at_ at_ (-1 : Int) []))) 9223372036854775807) (.ret (.inl (stOf [0, 1, 3, 13, 14, 39, 40, 41] [.str s, .int .i64 (tkN (U2 s at_ at_ (-1 : Int) [])), .int .u16 k, .int .i64 end_, .str (d ++ tkS (U2 s at_ at_ (-1 : Int) [])), .list (.int .i64) ps, .int .i64 n, .int .i64 (IntKind.wrap .i64 (i + 1))] []))) .no))) .no) (.br (bigS s) (.br (Q0 s at_ (IntKind.wrap .i64 (end_ - at_))) (.br (decide (at_ + IntKind.wrap .i64 (end_ - at_) > end_)) (.ret (.inr (.ret, stOf [1, 3, 8, 9, 13, 14] [.int .i64 at_, .int .u16 k, .str [], .int .i64 2, .int .i64 end_, .str d] []))) (.br (Nat.ble (List.length d + List.length (Z1 s at_ (IntKind.wrap .i64 (end_ - at_)))) 9223372036854775807) (.ret (.inl (stOf [0, 1, 3, 13, 14, 39, 40, 41] [.str s, .int .i64 (at_ + IntKind.wrap .i64 (end_ - at_)), .int .u16 k, .int .i64 end_, .str (d ++ Z1 s at_ (IntKind.wrap .i64 (end_ - at_))), .list (.int .i64) ps, .int .i64 n, .int .i64 (IntKind.wrap .i64 (i + 1))] []))) .no)) (.ret (.inr (.ret, stOf [1, 3, 8, 9, 13, 14] [.int .i64 at_, .int .u16 k, .str [], .int .i64 2, .int .i64 end_, .str d] [])))) .no)) (.br (ps.getD i.toNat (Ty.dflt (Ty.int .i64)) == (-1 : Int)) (.br (bigS s) (.br (tkE (U2 s at_ at_ (-1 : Int) []) != 0) (.ret (.inr (.ret, stOf [1, 3, 8, 9, 13, 14] [.int .i64 at_, .int .u16 k, .str [], .int .i64 2, .int .i64 end_, .str d] []))) (.br (decide (tkN (U2 s at_ at_ (-1 : Int) []) > end_)) (.ret (.inr (.ret, stOf [1, 3, 8, 9, 13, 14] [.int .i64 at_, .int .u16 k, .str [], .int .i64 2, .int .i64 end_, .str d] []))) (.br (Nat.ble (List.length d + List.length (tkS (U2 s at_ at_ (-1 : Int) []))) 9223372036854775807) (.ret (.inl (stOf [0, 1, 3, 13, 14, 39, 40, 41] [.str s, .int .i64 (tkN (U2 s at_ at_ (-1 : Int) [])), .int .u16 k, .int .i64 end_, .str (d ++ tkS (U2 s at_ at_ (-1 : Int) [])), .list (.int .i64) ps, .int .i64 n, .int .i64 (IntKind.wrap .i64 (i + 1))] []))) .no))) .no) (.br (bigS s) (.br (Q0 s at_ (ps.getD i.toNat (Ty.dflt (Ty.int .i64)))) (.br (decide (at_ + List.getD ps i.toNat (Ty.dflt (Ty.int .i64)) > end_)) (.ret (.inr (.ret, stOf [1, 3, 8, 9, 13, 14] [.int .i64 at_, .int .u16 k, .str [], .int .i64 2, .int .i64 end_, .str d] []))) (.br (Nat.ble (List.length d + List.length (Z1 s at_ (ps.getD i.toNat (Ty.dflt (Ty.int .i64))))) 9223372036854775807) (.ret (.inl (stOf [0, 1, 3, 13, 14, 39, 40, 41] [.str s, .int .i64 (at_ + List.getD ps i.toNat (Ty.dflt (Ty.int .i64))), .int .u16 k, .int .i64 end_, .str (d ++ Z1 s at_ (ps.getD i.toNat (Ty.dflt (Ty.int .i64)))), .list (.int .i64) ps, .int .i64 n, .int .i64 (IntKind.wrap .i64 (i + 1))] []))) .no)) (.ret (.inr (.ret, stOf [1, 3, 8, 9, 13, 14] [.int .i64 at_, .int .u16 k, .str [], .int .i64 2, .int .i64 end_, .str d] [])))) .no)))) .no) .no) (.ret (.inr (.exit 0, stOf [1, 3, 8, 9, 13, 14] [.int .i64 at_, .int .u16 k, .dead, .dead, .int .i64 end_, .str d] [])))
theorem X46 (lp : Lp) (s : List UInt8) (at_ k end_ : Int) (d : List UInt8) (ps : List Int) (n i : Int) : evC T0 (orcB [Uo, U1h, Xf, U01] []) lp b93 0 (stOf [0, 1, 3, 13, 14, 39, 40, 41] [.str s, .int .i64 at_, .int .u16 k, .int .i64 end_, .str d, .list (.int .i64) ps, .int .i64 n, .int .i64 i] []) (U0 [0, 1, 3, 13, 14, 39, 40, 41] [1, 3, 8, 9, 13, 14] 0) = (r93 s at_ k end_ d ps n i).get := by kernel_rfl
theorem wf93 (s : List UInt8) (k end_ : Int) (ps : List Int) (n : Int) (I'' : Int → List UInt8 → Int → Prop) (m'' : Int → List UInt8 → Int → Nat) (r'' : Ex × St) (h : ∀ (at_ : Int) (d : List UInt8) (i : Int), I'' at_ d i → (r93 s at_ k end_ d ps n i).all fun x'' => x'' = .inr r'' ∨ ∃ (at_' : Int) (d' : List UInt8) (i' : Int), x'' = .inl (stOf [0, 1, 3, 13, 14, 39, 40, 41] [.str s, .int .i64 at_', .int .u16 k, .int .i64 end_, .str d', .list (.int .i64) ps, .int .i64 n, .int .i64 i'] []) ∧ I'' at_' d' i' ∧ m'' at_' d' i' < m'' at_ d i) (lp : Lp) (at_ : Int) (d : List UInt8) (i : Int) : I'' at_ d i →
    V2 (fun st => evC T0 (orcB [Uo, U1h, Xf, U01] []) lp b93 0 st (U0 [0, 1, 3, 13, 14, 39, 40, 41] [1, 3, 8, 9, 13, 14] 0)) (stOf [0, 1, 3, 13, 14, 39, 40, 41] [.str s, .int .i64 at_, .int .u16 k, .int .i64 end_, .str d, .list (.int .i64) ps, .int .i64 n, .int .i64 i] []) = some r'' :=
 Z5 (fun a'' : Int × List UInt8 × Int => stOf [0, 1, 3, 13, 14, 39, 40, 41] [.str s, .int .i64 a''.1, .int .u16 k, .int .i64 end_, .str a''.2.1, .list (.int .i64) ps, .int .i64 n, .int .i64 a''.2.2] []) (fun a'' => I'' a''.1 a''.2.1 a''.2.2) (fun a'' => m'' a''.1 a''.2.1 a''.2.2) r'' (fun a'' => r93 s a''.1 k end_ a''.2.1 ps n a''.2.2)
  (fun a'' x hx => (X46 lp s a''.1 k end_ a''.2.1 ps n a''.2.2).trans hx) (fun a'' ha => Tr.all_mono (fun x'' hx => hx.imp id fun ⟨at_', d', i', h1, h2, h3⟩ => ⟨(at_', d', i'), h1, h2, h3⟩) (h (a''.1) (a''.2.1) (a''.2.2) ha)) (at_, d, i)
def Z3t (ps0 : List Int) (s : List UInt8) (a0 e : Int) (a : Int) (d : List UInt8) (i : Int) : Prop := 0 ≤ i ∧ i ≤ ps0.length ∧ 0 ≤ a ∧ a ≤ e ∧ (d.length : Int) ≤ 200000000 * i ∧ U3 (ps0.drop i.toNat) s a e d = U3 ps0 s a0 e []
theorem U4y : ls93.Ok T0 (orcB [Uo, U1h, Xf, U01] []) h93 0 0 b93 := by
 intro q'' hq'' x'' y'' r'' h
 obtain ⟨(s : List UInt8), (at_ : Int), (k : Int), (end_ : Int), (d : List UInt8), (ps : List Int), (n : Int), (i : Int), _⟩ := x''
 obtain ⟨hc, rfl⟩ := Tr.get_on2 h
 show V2 (fun st => evC T0 (orcB [Uo, U1h, Xf, U01] []) (lpN T0 (orcB [Uo, U1h, Xf, U01] []) h93 0 q'') b93 0 st (U0 [0, 1, 3, 13, 14, 39, 40, 41] [1, 3, 8, 9, 13, 14] 0)) (stOf [0, 1, 3, 13, 14, 39, 40, 41] [.str s, .int .i64 at_, .int .u16 k, .int .i64 end_, .str d, .list (.int .i64) ps, .int .i64 n, .int .i64 i] []) = some ((bif (U3 ps s at_ end_ d).1 then (.exit 0, [.int .i64 (U3 ps s at_ end_ d).2.1, .int .u16 k, .dead, .dead, .int .i64 end_, .str (U3 ps s at_ end_ d).2.2], []) else (.ret, [.int .i64 (U3 ps s at_ end_ d).2.1, .int .u16 k, .str [], .int .i64 2, .int .i64 end_, .str (U3 ps s at_ end_ d).2.2], []) : Ex × List AV × List LObj).1, stOf [1, 3, 8, 9, 13, 14] (bif (U3 ps s at_ end_ d).1 then (.exit 0, [.int .i64 (U3 ps s at_ end_ d).2.1, .int .u16 k, .dead, .dead, .int .i64 end_, .str (U3 ps s at_ end_ d).2.2], []) else (.ret, [.int .i64 (U3 ps s at_ end_ d).2.1, .int .u16 k, .str [], .int .i64 2, .int .i64 end_, .str (U3 ps s at_ end_ d).2.2], []) : Ex × List AV × List LObj).2.1 (bif (U3 ps s at_ end_ d).1 then (.exit 0, [.int .i64 (U3 ps s at_ end_ d).2.1, .int .u16 k, .dead, .dead, .int .i64 end_, .str (U3 ps s at_ end_ d).2.2], []) else (.ret, [.int .i64 (U3 ps s at_ end_ d).2.1, .int .u16 k, .str [], .int .i64 2, .int .i64 end_, .str (U3 ps s at_ end_ d).2.2], []) : Ex × List AV × List LObj).2.2)
 simp only [J2f, Bool.and_eq_true, decide_eq_true_eq, noT, List.isEmpty_iff] at hc
 obtain ⟨hb, rfl, rfl, ha0, hae, hes, rfl, hps⟩ := hc
 refine wf93 s k end_ ps _ (Z3t ps s at_ end_) (fun _ _ i => (ps.length - i).toNat) _ ?_ _ at_ [] 0 ⟨by omega, by omega, ha0, hae, by simp, rfl⟩
 clear ha0 hae
 rintro a d i ⟨h0, h1, ha, hae, hdl, hF⟩
 rw [← hF]
 have hB : s.length ≤ 100000000 := by simpa [smS] using hb
 have hbig : bigS s = true := by simp [bigS]; omega
 unfold r93
 by_cases hi : i < ps.length
 · obtain ⟨d1, _⟩ := V1l (Ty.dflt (Ty.int .i64)) h0 hi
   generalize List.getD ps (Int.toNat i) (Ty.dflt (Ty.int .i64)) = x at d1
   rw [d1, U3] at hF ⊢
   rw [IntWalk.i64_in (i + 1) (by omega), IntWalk.i64_in (end_ - a) (by omega)]
   refine Tr.all_t (J0 hi) (Tr.all_t (J0 h0) (Tr.all_t (J0 hi) ?_))
   by_cases x1 : x = -1
   · rw [if_pos x1] at hF ⊢
     refine Tr.all_f (beq_eq_false_iff_ne.2 (by omega)) (Tr.all_f (beq_eq_false_iff_ne.2 (by omega)) (Tr.all_t (beq_iff_eq.2 x1) (Tr.all_t hbig ?_)))
     cases ho : U2 s a a (-1) [] with
     | none => exact Tr.all_t rfl (Tr.all_ret (.inl rfl))
     | some q =>
       obtain ⟨n, next⟩ := q
       obtain ⟨p1, p2, p3⟩ := Us ha ho
       have hn := (Q05.1 p1).2.1
       rw [ho] at hF
       simp only at hF ⊢
       refine Tr.all_f rfl (Tr.all_br (fun c => Tr.all_ret (.inl ?_)) fun c => Tr.all_t ?_ (Tr.all_ret (.inr ?_)))
       · have c' : next > end_ := of_decide_eq_true c
         rw [if_pos c']
         rfl
       · simp only [tkS]
         exact Nat.ble_eq_true_of_le (by omega)
       · have c' : ¬ next > end_ := of_decide_eq_false c
         rw [if_neg c'] at hF
         exact ⟨_, _, _, rfl, ⟨by omega, by omega, by simp only [tkN]; omega, by simp only [tkN]; omega, by simp only [tkS, List.length_append]; omega, hF⟩, by omega⟩
   · rw [if_neg x1] at hF ⊢
     have hx1 : (x == -1) = false := beq_eq_false_iff_ne.2 x1
     have key : ∀ sz : Int, (if x = -2 ∨ x = -3 then end_ - a else x) = sz → (Q0 s a sz = true ∧ a + sz ≤ end_ → Z3t ps s at_ end_ (a + sz) (d ++ Z1 s a sz) (i + 1)) ∧ (Nat.ble (d.length + (Z1 s a sz).length) 9223372036854775807 = true) := fun sz hs => by
      rw [hs] at hF
      have hvl : (Z1 s a sz).length ≤ s.length := by unfold Z1; rw [List.length_take, List.length_drop]; omega
      refine ⟨fun hh => ?_, Nat.ble_eq_true_of_le (by omega)⟩
      rw [if_pos hh] at hF
      have := V6.1 hh.1
      exact ⟨by omega, by omega, by omega, hh.2, by rw [List.length_append]; omega, hF⟩
     have half : ∀ sz : Int, (if x = -2 ∨ x = -3 then end_ - a else x) = sz → (Tr.br (bigS s) (Tr.br (Q0 s a sz) (Tr.br (decide (a + sz > end_)) (Tr.ret (Sum.inr (Ex.ret, stOf [1, 3, 8, 9, 13, 14] [AV.int .i64 a, AV.int .u16 k, AV.str [], AV.int .i64 (2 : Int), AV.int .i64 end_, AV.str d] []))) (Tr.br (Nat.ble (List.length d + List.length (Z1 s a sz)) 9223372036854775807) (Tr.ret (Sum.inl (stOf [0, 1, 3, 13, 14, 39, 40, 41] [AV.str s, AV.int .i64 (a + sz), AV.int .u16 k, AV.int .i64 end_, AV.str (d ++ Z1 s a sz), AV.list (Ty.int .i64) ps, AV.int .i64 ps.length, AV.int .i64 (i + 1)] []))) Tr.no)) (Tr.ret (Sum.inr (Ex.ret, stOf [1, 3, 8, 9, 13, 14] [AV.int .i64 a, AV.int .u16 k, AV.str [], AV.int .i64 (2 : Int), AV.int .i64 end_, AV.str d] [])))) Tr.no).all
         fun x'' => x'' = .inr ((bif (if Q0 s a sz = true ∧ a + sz ≤ end_ then U3 (ps.drop (i + 1).toNat) s (a + sz) end_ (d ++ Z1 s a sz) else (false, a, d)).1 then (Ex.exit 0, [.int .i64 (if Q0 s a sz = true ∧ a + sz ≤ end_ then U3 (ps.drop (i + 1).toNat) s (a + sz) end_ (d ++ Z1 s a sz) else (false, a, d)).2.1, .int .u16 k, .dead, .dead, .int .i64 end_, .str (if Q0 s a sz = true ∧ a + sz ≤ end_ then U3 (ps.drop (i + 1).toNat) s (a + sz) end_ (d ++ Z1 s a sz) else (false, a, d)).2.2], []) else (Ex.ret, [.int .i64 (if Q0 s a sz = true ∧ a + sz ≤ end_ then U3 (ps.drop (i + 1).toNat) s (a + sz) end_ (d ++ Z1 s a sz) else (false, a, d)).2.1, .int .u16 k, .str [], .int .i64 2, .int .i64 end_, .str (if Q0 s a sz = true ∧ a + sz ≤ end_ then U3 (ps.drop (i + 1).toNat) s (a + sz) end_ (d ++ Z1 s a sz) else (false, a, d)).2.2], []) : Ex × List AV × List LObj).1, stOf [1, 3, 8, 9, 13, 14] (bif (if Q0 s a sz = true ∧ a + sz ≤ end_ then U3 (ps.drop (i + 1).toNat) s (a + sz) end_ (d ++ Z1 s a sz) else (false, a, d)).1 then (Ex.exit 0, [.int .i64 (if Q0 s a sz = true ∧ a + sz ≤ end_ then U3 (ps.drop (i + 1).toNat) s (a + sz) end_ (d ++ Z1 s a sz) else (false, a, d)).2.1, .int .u16 k, .dead, .dead, .int .i64 end_, .str (if Q0 s a sz = true ∧ a + sz ≤ end_ then U3 (ps.drop (i + 1).toNat) s (a + sz) end_ (d ++ Z1 s a sz) else (false, a, d)).2.2], []) else (Ex.ret, [.int .i64 (if Q0 s a sz = true ∧ a + sz ≤ end_ then U3 (ps.drop (i + 1).toNat) s (a + sz) end_ (d ++ Z1 s a sz) else (false, a, d)).2.1, .int .u16 k, .str [], .int .i64 2, .int .i64 end_, .str (if Q0 s a sz = true ∧ a + sz ≤ end_ then U3 (ps.drop (i + 1).toNat) s (a + sz) end_ (d ++ Z1 s a sz) else (false, a, d)).2.2], []) : Ex × List AV × List LObj).2.1 (bif (if Q0 s a sz = true ∧ a + sz ≤ end_ then U3 (ps.drop (i + 1).toNat) s (a + sz) end_ (d ++ Z1 s a sz) else (false, a, d)).1 then (Ex.exit 0, [.int .i64 (if Q0 s a sz = true ∧ a + sz ≤ end_ then U3 (ps.drop (i + 1).toNat) s (a + sz) end_ (d ++ Z1 s a sz) else (false, a, d)).2.1, .int .u16 k, .dead, .dead, .int .i64 end_, .str (if Q0 s a sz = true ∧ a + sz ≤ end_ then U3 (ps.drop (i + 1).toNat) s (a + sz) end_ (d ++ Z1 s a sz) else (false, a, d)).2.2], []) else (Ex.ret, [.int .i64 (if Q0 s a sz = true ∧ a + sz ≤ end_ then U3 (ps.drop (i + 1).toNat) s (a + sz) end_ (d ++ Z1 s a sz) else (false, a, d)).2.1, .int .u16 k, .str [], .int .i64 2, .int .i64 end_, .str (if Q0 s a sz = true ∧ a + sz ≤ end_ then U3 (ps.drop (i + 1).toNat) s (a + sz) end_ (d ++ Z1 s a sz) else (false, a, d)).2.2], []) : Ex × List AV × List LObj).2.2) ∨
          ∃ at' d' i', x'' = .inl (stOf [0, 1, 3, 13, 14, 39, 40, 41] [AV.str s, AV.int .i64 at', AV.int .u16 k, AV.int .i64 end_, AV.str d', AV.list (Ty.int .i64) ps, AV.int .i64 ps.length, AV.int .i64 i'] []) ∧ Z3t ps s at_ end_ at' d' i' ∧ (ps.length - i').toNat < (ps.length - i).toNat := fun sz hs => by
      obtain ⟨k1, k2⟩ := key sz hs
      refine Tr.all_t hbig (Tr.all_br (fun c1 => Tr.all_br (fun c2 => Tr.all_ret (.inl ?_)) fun c2 => Tr.all_t k2 (Tr.all_ret (.inr ⟨_, _, _, rfl, k1 ⟨c1, ?_⟩, by omega⟩))) fun c1 => Tr.all_ret (.inl ?_))
      · simp only [decide_eq_true_eq] at c2
        rw [if_neg (by omega)]
        rfl
      · simp only [decide_eq_false_iff_not] at c2
        omega
      · rw [if_neg (by rw [c1]; simp)]
        rfl
     by_cases x2 : x = -2
     · rw [if_pos (Or.inl x2)]
       exact Tr.all_t (beq_iff_eq.2 x2) (Tr.all_f hx1 (half _ (if_pos (Or.inl x2))))
     · by_cases x3 : x = -3
       · rw [if_pos (Or.inr x3)]
         exact Tr.all_f (beq_eq_false_iff_ne.2 x2) (Tr.all_t (beq_iff_eq.2 x3) (Tr.all_f hx1 (half _ (if_pos (Or.inr x3)))))
       · have hne : ¬ (x = -2 ∨ x = -3) := by omega
         rw [if_neg hne]
         exact Tr.all_f (beq_eq_false_iff_ne.2 x2) (Tr.all_f (beq_eq_false_iff_ne.2 x3) (Tr.all_f hx1 (half _ (if_neg hne))))
 · refine Tr.all_f (Z0 hi) (Tr.all_ret (.inl ?_))
   rw [List.drop_eq_nil_of_le (by omega)]
   rfl
def t93 (s : List UInt8) (at_ many k : Int) : Tr Res := .br (bigS s) (.br (Q0 s at_ many) (.br (J2f s at_ (IntKind.wrap .i64 (at_ + many)) ([]) (layV k) (↑(List.length (layV k)) : Int) 0) (.br (U3 (layV k) s at_ (IntKind.wrap .i64 (at_ + many)) ([])).1 (.br ((U3 (layV k) s at_ (IntKind.wrap .i64 (at_ + many)) ([])).2.1 != IntKind.wrap .i64 (at_ + many)) (.ret ([.str [], .int .i64 2], [])) (.br (bigS (U3 (layV k) s at_ (IntKind.wrap .i64 (at_ + many)) ([])).2.2) (.br (!mayR k (U3 (layV k) s at_ (IntKind.wrap .i64 (at_ + many)) ([])).2.2) (.ret ([.str [], .int .i64 2], [])) (.ret ([.str (U3 (layV k) s at_ (IntKind.wrap .i64 (at_ + many)) ([])).2.2, .int .i64 0], []))) .no)) (.ret ([.str [], .int .i64 2], []))) .no) (.ret ([.str [], .int .i64 2], []))) .no
def os93 : OSpec := { f := 93, sh := [.d .str false, .d (.int .i64) false, .d (.int .i64) false, .d (.int .u16) false], so := [], F := fun (s, at_, many, k, _) _ => t93 s at_ many k }
theorem fn93 (s : List UInt8) (at_ many k : Int) : evC T0 (orcB [Uo, U1h, Xf, U01] []) (lpOf h93 0 (lsOf [ls93])) c93 1000000 (V1 [.str s, .int .i64 at_, .int .i64 many, .int .u16 k] [] Tryz.f93.ntmps) (J1 T0 false 0 Tryz.f93) = (t93 s at_ many k).get := by kernel_rfl
theorem ok93 : os93.Ok Tryz.prog := by
 refine V3 Q1 tab0 (X0 (all_cons V1t (all_cons Z4q (all_cons J0s (all_cons J14 all_nil)))) all_nil) h93 (d := 0) (n0 := 0) (S := lsOf [ls93]) Tryz.func93 (by kernel_rfl) (c := c93) (by kernel_rfl) rfl (X4 (xs := [(0, b93)]) (by kernel_rfl) (all_cons (V5 U4y) all_nil)) (by omega) (by kernel_rfl) ?_
 intro x'' y'' q'' hq''
 obtain ⟨(s : List UInt8), (at_ : Int), (many : Int), (k : Int), _⟩ := x''
 exact (fn93 s at_ many k).trans hq''
def fs93 : FSpec := fsT 93 [(.str, false), ((.int .i64), false), ((.int .i64), false), ((.int .u16), false)] [(.str, false), ((.int .i64), false)] fun (s, at_, many, k, _) => t93 s at_ many k
theorem okf93 : fs93.Ok Tryz.prog := V4 fun x'' r'' hr'' => ok93 x'' () r'' hr''
theorem Z2f (s : List UInt8) (k j : Nat) : byN (s.drop k) j = byN s (k + j) := by
 unfold byN
 rw [List.getD_eq_getElem?_getD, List.getD_eq_getElem?_getD, List.getElem?_drop]
theorem Q33 {s : List UInt8} : ∀ (m k j : Nat), s.length - (k + j) = m → k ≤ s.length → whAt s (k + j) = k + whAt (s.drop k) j := by
 intro m
 induction m using Nat.strongRecOn with
 | _ m ih =>
   intro k j hm hk
   rw [whAt.eq_1 s, whAt.eq_1 (s.drop k), Z2f, List.length_drop]
   by_cases h : k + j < s.length ∧ 0 < byN s (k + j)
   · rw [dif_pos h, dif_pos ⟨by omega, h.2⟩, show k + j + 1 + byN s (k + j) = k + (j + 1 + byN s (k + j)) by omega]
     exact ih (s.length - (k + (j + 1 + byN s (k + j)))) (by omega) k _ rfl hk
   · rw [dif_neg h, dif_neg (by omega)]
theorem U3n {t r : List UInt8} {k : Nat} (h : k < t.length) : byN (t ++ r) k = byN t k := X48 h
theorem Z41 : ∀ (m : Nat) (t r : List UInt8), t.length = m → Xv t = true → whAt (t ++ r) 0 + 1 = t.length := by
 intro m
 induction m using Nat.strongRecOn with
 | _ m ih =>
   intro t r hm hr
   rcases Z1b hr with rfl | ⟨_, hn, hlt, _, hne, hrt⟩
   · rw [whAt, dif_neg (fun h => by have : byN ([0] ++ r) 0 = 0 := rfl; omega)]
     rfl
   · have hb : byN (t ++ r) 0 = (t.getD 0 0).toNat := U3n (by omega)
     have hp : 0 < byN (t ++ r) 0 := by omega
     have hsp : (t ++ r).drop (0 + 1 + byN (t ++ r) 0) = tlN t ++ r := by
      unfold tlN
      rw [hb, List.drop_append_of_le_length (by omega), show 0 + 1 + (t.getD 0 0).toNat = 1 + (t.getD 0 0).toNat by omega]
     have hl := J43 t
     rw [whAt, dif_pos ⟨by simp; omega, hp⟩]
     have hd := Q33 (s := t ++ r) _ (0 + 1 + byN (t ++ r) 0) 0 rfl (by simp; omega)
     rw [Nat.add_zero] at hd
     rw [hd, hsp, Nat.add_assoc, ih (tlN t).length (by omega) (tlN t) r rfl hrt]
     omega
theorem J1k {d : List UInt8} {k : Nat} (hk : k ≤ d.length) (h : mayV (d.take k) = true) : J2 d = k ∧ 1 ≤ k ∧ k ≤ 255 := by
 obtain ⟨h1, h2, _⟩ := Q05.1 h
 have := Z41 _ (d.take k) (d.drop k) rfl h1
 rw [List.take_append_drop, List.length_take, Nat.min_eq_left hk] at this
 rw [List.length_take, Nat.min_eq_left hk] at h2
 unfold J2
 rw [this, if_pos ⟨by omega, h⟩]
 exact ⟨rfl, by omega, h2⟩
theorem U0t {d : List UInt8} (h : J2 d ≠ 0) : mayV (d.take (J2 d)) = true := by
 unfold J2 at h ⊢
 split at h
 · rename_i hc
   rw [if_pos hc]
   exact hc.2
 · exact absurd rfl h
theorem Z33 {d : List UInt8} : mayV d = true ↔ J2 d ≠ 0 ∧ J2 d = d.length := by
 constructor
 · intro h
   have := J1k (d := d) (k := d.length) (Nat.le_refl _) (by rw [List.take_length]; exact h)
   omega
 · rintro ⟨h1, h2⟩
   have := U0t h1
   rwa [h2, List.take_length] at this
theorem Q36 {s : List UInt8} : ∀ (m k j : Nat), s.length - (k + j) = m → k ≤ s.length → txAt s (k + j) = k + txAt (s.drop k) j := by
 intro m
 induction m using Nat.strongRecOn with
 | _ m ih =>
   intro k j hm hk
   rw [txAt.eq_1 s, txAt.eq_1 (s.drop k), Z2f, List.length_drop]
   by_cases h : k + j < s.length
   · rw [dif_pos h, dif_pos (by omega), show k + j + 1 + byN s (k + j) = k + (j + 1 + byN s (k + j)) by omega]
     exact ih (s.length - (k + (j + 1 + byN s (k + j)))) (by omega) k _ rfl hk
   · rw [dif_neg h, dif_neg (by omega)]
theorem Z4c {s : List UInt8} : ∀ (m k : Nat), s.length - k = m → k ≤ txAt s k := by
 intro m
 induction m using Nat.strongRecOn with
 | _ m ih =>
   intro k hm
   rw [txAt]
   split
   · have := ih (s.length - (k + 1 + byN s k)) (by omega) _ rfl
     omega
   · exact Nat.le_refl _
def texR (s : List UInt8) : Bool := decide (txAt s 0 = s.length)
theorem J3m : texR [] = true := by
 unfold texR
 rw [txAt, dif_neg (by simp)]
 rfl
theorem Q2y {s : List UInt8} (h0 : s ≠ []) (h : s.length < 1 + byN s 0) : texR s = false := by
 have := List.length_pos_iff.2 h0
 unfold texR
 rw [txAt, dif_pos this]
 have := Z4c (s := s) _ (0 + 1 + byN s 0) rfl
 exact decide_eq_false (by omega)
theorem V3y {s : List UInt8} (h0 : s ≠ []) (h : 1 + byN s 0 ≤ s.length) : texR s = texR (s.drop (1 + byN s 0)) := by
 have := List.length_pos_iff.2 h0
 unfold texR
 rw [txAt, dif_pos this]
 have hd := Q36 (s := s) _ (1 + byN s 0) 0 rfl h
 rw [Nat.add_zero] at hd
 rw [show 0 + 1 + byN s 0 = 1 + byN s 0 by omega, hd, List.length_drop]
 rw [Bool.eq_iff_iff]
 simp
 omega
def nmsV : Nat → List UInt8 → Int → Int → List UInt8 → Bool × (Int × List UInt8)
 | 0, _, a, _, d => (true, a, d)
 | m + 1, s, a, e, d =>
   match U2 s a a (-1) [] with
   | none => (false, a, d)
   | some (n, next) => if next > e then (false, a, d) else nmsV m s next e (d ++ n)
def nmD (s : List UInt8) (a e m : Int) : List UInt8 := bif (nmsV m.toNat s a e []).1 then (nmsV m.toNat s a e []).2.2 else []
def nmA (s : List UInt8) (a e m : Int) : Int := bif (nmsV m.toNat s a e []).1 then (nmsV m.toNat s a e []).2.1 else 0
def nmsC (s : List UInt8) (many i : Int) (d : List UInt8) : Bool := bigS s && (decide (0 ≤ many) && (decide (many ≤ 3) && (decide (i = 0) && noT d)))
def smC (s : List UInt8) (a m i : Int) (b : List Int) : Bool := bigS s && (Q0 s a m && (decide (i = 0) && b.isEmpty))
theorem X2t : mayV [] = false := by
 cases h : mayV [] with
 | false => rfl
 | true =>
   rcases Z1b (Q05.1 h).1 with h | ⟨_, h, _⟩
   · cases h
   · exact absurd rfl h
theorem U15 : ∀ (ps : List Int) (d : List UInt8) (out : List (List UInt8)), (cutS ps d out).1 = (cutS ps d []).1 ∧ (cutS ps d out).2.1 = (cutS ps d []).2.1
 | [], _, _ => ⟨rfl, rfl⟩
 | x :: ps, d, out => by
   unfold cutS
   by_cases h : okP x d = true
   · rw [if_pos h, if_pos h]
     obtain ⟨a1, a2⟩ := U15 ps (d.drop (szP x d).toNat) (out ++ [d.take (szP x d).toNat])
     obtain ⟨b1, b2⟩ := U15 ps (d.drop (szP x d).toNat) ([] ++ [d.take (szP x d).toNat])
     exact ⟨a1.trans b1.symm, a2.trans b2.symm⟩
   · rw [if_neg h, if_neg h]
     exact ⟨rfl, rfl⟩
def cutB (ps : List Int) (d : List UInt8) : Bool := (cutS ps d []).1 && (cutS ps d []).2.1.isEmpty
theorem Vq (x : Int) (ps : List Int) (d : List UInt8) : cutB (x :: ps) d = (okP x d && cutB ps (d.drop (szP x d).toNat)) := by
 unfold cutB
 rw [cutS]
 cases h : okP x d with
 | true =>
   rw [if_pos rfl]
   obtain ⟨a1, a2⟩ := U15 ps (d.drop (szP x d).toNat) ([] ++ [d.take (szP x d).toNat])
   rw [a1, a2, Bool.true_and]
 | false =>
   rw [if_neg Bool.false_ne_true]
   rfl
theorem V0n (d : List UInt8) : cutB [] d = d.isEmpty := rfl
theorem Vs (k : Int) (d : List UInt8) : mayR k d = (cutB (layV k) d && Nat.ble d.length 65535) := rfl
theorem V2v {x : Int} (h : 0 ≤ x) (d : List UInt8) : szP x d = x ∧ okP x d = decide (x ≤ (d.length : Int)) := by
 have es : szP x d = x := by unfold szP; rw [if_neg (by omega), if_neg (by omega)]
 refine ⟨es, ?_⟩
 unfold okP
 rw [es, J0 h, Z0 (show ¬ x = -1 by omega)]
 simp
theorem Z19 (d : List UInt8) : szP (-1) d = (J2 d : Int) ∧ okP (-1) d = !decide (J2 d = 0) := by
 have es : szP (-1) d = (J2 d : Int) := rfl
 have := Qw d
 refine ⟨es, ?_⟩
 unfold okP
 rw [es, J0 (by omega), J0 (by omega)]
 simp
theorem J0g {d : List UInt8} {n : Nat} : (d.drop n).isEmpty = decide (d.length ≤ n) := by
 rw [Bool.eq_iff_iff, List.isEmpty_iff, decide_eq_true_eq, List.drop_eq_nil_iff]
theorem Z17 {x : Int} (h : 0 ≤ x) (d : List UInt8) : cutB [x] d = decide ((d.length : Int) = x) := by
 obtain ⟨e1, e2⟩ := V2v h d
 rw [Vq, V0n, e1, e2, J0g]
 rw [Bool.eq_iff_iff]
 simp
 omega
theorem Q1l (d : List UInt8) : cutB [-1] d = mayV d := by
 obtain ⟨e1, e2⟩ := Z19 d
 have := Qw d
 rw [Vq, V0n, e1, e2, J0g]
 rw [Bool.eq_iff_iff, Z33]
 simp
 omega
theorem J2j (d : List UInt8) : cutB [-2] d = Xp d := by
 rw [Vq, V0n, J0g]
 unfold okP szP
 cases ht : Xp d with
 | true => simp
 | false => simp
theorem U3e (d : List UInt8) : cutB [-3] d = true := by
 rw [Vq, V0n, J0g]
 unfold okP szP
 simp
theorem J4i (d : List UInt8) : mayR 1 d = (decide ((d.length : Int) = 4) && Nat.ble d.length 65535) := by rw [Vs, show layV 1 = [4] from rfl, Z17 (by omega)]
theorem J27 (d : List UInt8) : mayR 28 d = (decide ((d.length : Int) = 16) && Nat.ble d.length 65535) := by rw [Vs, show layV 28 = [16] from rfl, Z17 (by omega)]
theorem U0p {k : Int} (h : k = 2 ∨ k = 5 ∨ k = 12) (d : List UInt8) : mayR k d = (mayV d && Nat.ble d.length 65535) := by
 have : layV k = [-1] := by rcases h with rfl | rfl | rfl <;> rfl
 rw [Vs, this, Q1l]
theorem U51 (d : List UInt8) : mayR 15 d = ((decide ((2 : Int) ≤ d.length) && mayV (d.drop 2)) && Nat.ble d.length 65535) := by
 obtain ⟨e1, e2⟩ := V2v (x := 2) (by omega) d
 rw [Vs, show layV 15 = [2, -1] from rfl, Vq, Q1l, e1, e2]
 rfl
theorem J3z (d : List UInt8) : mayR 6 d = ((!decide (J2 d = 0) && (!decide (J2 (d.drop (J2 d)) = 0) && decide (((d.drop (J2 d)).drop (J2 (d.drop (J2 d)))).length = 20))) && Nat.ble d.length 65535) := by
 obtain ⟨e1, e2⟩ := Z19 d
 rw [Vs, show layV 6 = [-1, -1, 20] from rfl, Vq, e1, e2, Int.toNat_natCast]
 obtain ⟨e3, e4⟩ := Z19 (d.drop (J2 d))
 rw [Vq, e3, e4, Int.toNat_natCast, Z17 (by omega)]
 congr 4
 exact propext (by omega)
theorem Z49 (d : List UInt8) : mayR 16 d = (Xp d && Nat.ble d.length 65535) := by rw [Vs, show layV 16 = [-2] from rfl, J2j]
theorem V44 {k : Int} (h : ¬ k = 1 ∧ ¬ k = 28 ∧ ¬ k = 2 ∧ ¬ k = 5 ∧ ¬ k = 12 ∧ ¬ k = 15 ∧ ¬ k = 6 ∧ ¬ k = 16) (d : List UInt8) : mayR k d = Nat.ble d.length 65535 := by
 obtain ⟨h1, h2, h3, h4, h5, h6, h7, h8⟩ := h
 have : layV k = [-3] := by simp [layV, h1, h2, h3, h4, h5, h6, h7, h8]
 rw [Vs, this, U3e]
 rfl
theorem Z25 : ∀ (m : Nat) (s : List UInt8) (a e : Int) (d x : List UInt8), nmsV m s a e (d ++ x) = ((nmsV m s a e x).1, (nmsV m s a e x).2.1, d ++ (nmsV m s a e x).2.2)
 | 0, _, _, _, _, _ => rfl
 | m + 1, s, a, e, d, x => by
   unfold nmsV
   cases U2 s a a (-1) [] with
   | none => rfl
   | some q =>
     obtain ⟨n, next⟩ := q
     simp only
     by_cases h : next > e
     · rw [if_pos h, if_pos h]
     · rw [if_neg h, if_neg h, List.append_assoc]
       exact Z25 m s next e d (x ++ n)
theorem Z0k (s : List UInt8) (a e : Int) (d : List UInt8) : U3 [-1] s a e d = nmsV 1 s a e d := by
 unfold U3 nmsV
 rw [if_pos rfl]
 cases U2 s a a (-1) [] with
 | none => rfl
 | some q => rfl
theorem Q2a {ps : List Int} {s : List UInt8} {a e : Int} {d : List UInt8} (h : U2 s a a (-1) [] = none) : U3 (-1 :: ps) s a e d = (false, a, d) := by
 rw [U3, if_pos rfl, h]
theorem V25 {ps : List Int} {s : List UInt8} {a e : Int} {d n : List UInt8} {next : Int} (h : U2 s a a (-1) [] = some (n, next)) : U3 (-1 :: ps) s a e d = if next > e then (false, a, d) else U3 ps s next e (d ++ n) := by
 rw [U3, if_pos rfl, h]
theorem U37 {m : Nat} {s : List UInt8} {a e : Int} {d : List UInt8} (h : U2 s a a (-1) [] = none) : nmsV (m + 1) s a e d = (false, a, d) := by
 rw [nmsV, h]
theorem X3n {m : Nat} {s : List UInt8} {a e : Int} {d n : List UInt8} {next : Int} (h : U2 s a a (-1) [] = some (n, next)) : nmsV (m + 1) s a e d = if next > e then (false, a, d) else nmsV m s next e (d ++ n) := by
 rw [nmsV, h]
theorem Q32 (ps : List Int) (s : List UInt8) (a e : Int) (d : List UInt8) : ((nmsV 2 s a e d).1 = true → U3 (-1 :: -1 :: ps) s a e d = U3 ps s (nmsV 2 s a e d).2.1 e (nmsV 2 s a e d).2.2) ∧ ((nmsV 2 s a e d).1 = false → (U3 (-1 :: -1 :: ps) s a e d).1 = false) := by
 cases h1 : U2 s a a (-1) [] with
 | none => rw [U37 h1, Q2a h1]; exact ⟨fun h => (by cases h), fun _ => rfl⟩
 | some q =>
   obtain ⟨n, next⟩ := q
   rw [X3n h1, V25 h1]
   by_cases h : next > e
   · rw [if_pos h, if_pos h]
     exact ⟨fun h => (by cases h), fun _ => rfl⟩
   · rw [if_neg h, if_neg h]
     cases h2 : U2 s next next (-1) [] with
     | none => rw [U37 h2, Q2a h2]; exact ⟨fun h => (by cases h), fun _ => rfl⟩
     | some q =>
       obtain ⟨n2, next2⟩ := q
       rw [X3n h2, V25 h2]
       by_cases h3 : next2 > e
       · rw [if_pos h3, if_pos h3]
         exact ⟨fun h => (by cases h), fun _ => rfl⟩
       · rw [if_neg h3, if_neg h3]
         exact ⟨fun _ => rfl, fun h => (by cases h)⟩
theorem U03 : ∀ (m : Nat) (s : List UInt8) (a e : Int) (d : List UInt8), 0 ≤ a → (nmsV m s a e d).1 = true → a ≤ (nmsV m s a e d).2.1 ∧ (m ≠ 0 → a < (nmsV m s a e d).2.1 ∧ (nmsV m s a e d).2.1 ≤ e) ∧ (nmsV m s a e d).2.2.length ≤ d.length + 255 * m
 | 0, s, a, e, d, _, _ => ⟨Int.le_refl _, fun h => absurd rfl h, Nat.le_refl _⟩
 | m + 1, s, a, e, d, h0, h => by
   unfold nmsV at h ⊢
   cases ho : U2 s a a (-1) [] with
   | none => rw [ho] at h; cases h
   | some q =>
     obtain ⟨n, next⟩ := q
     rw [ho] at h
     obtain ⟨p1, p2, p3⟩ := Us h0 ho
     have hn := (Q05.1 p1).2.1
     simp only at h ⊢
     by_cases hx : next > e
     · rw [if_pos hx] at h; cases h
     · rw [if_neg hx] at h ⊢
       obtain ⟨a1, a2, a3⟩ := U03 m s next e (d ++ n) (by omega) h
       rw [List.length_append] at a3
       refine ⟨by omega, fun _ => ⟨by omega, ?_⟩, by omega⟩
       by_cases hm : m = 0
       · subst hm
         show next ≤ e
         omega
       · exact (a2 hm).2
theorem V1m {x : Int} (h : 0 ≤ x) (s : List UInt8) (a e : Int) (d : List UInt8) : U3 [x] s a e d = if Q0 s a x = true ∧ a + x ≤ e then (true, a + x, d ++ Z1 s a x) else (false, a, d) := by
 unfold U3
 rw [if_neg (by omega)]
 have e1 : (if x = -2 ∨ x = -3 then e - a else x) = x := if_neg (by omega)
 rw [e1]
 rfl
theorem Q2m {x : Int} (h : x = -2 ∨ x = -3) (s : List UInt8) (a n : Int) (hs : Q0 s a n = true) : U3 [x] s a (a + n) [] = (true, a + n, Z1 s a n) := by
 unfold U3
 rw [if_neg (by omega)]
 have e1 : (if x = -2 ∨ x = -3 then a + n - a else x) = n := by rw [if_pos h]; omega
 rw [e1, if_pos ⟨hs, Int.le_refl _⟩]
 rfl
theorem V36 {s : List UInt8} {a n k : Int} {d : List UInt8} (h : Jb s a n k = some d) : mayR k d = true ∧ Q0 s a n = true ∧ (U3 (layV k) s a (a + n) []).1 = true ∧ (U3 (layV k) s a (a + n) []).2.1 = a + n ∧ d = (U3 (layV k) s a (a + n) []).2.2 := by
 unfold Jb at h
 by_cases h1 : Q0 s a n = true
 · rw [if_pos h1] at h
   by_cases h2 : (U3 (layV k) s a (a + n) []).1 = true ∧ (U3 (layV k) s a (a + n) []).2.1 = a + n ∧ mayR k (U3 (layV k) s a (a + n) []).2.2 = true
   · rw [if_pos h2] at h
     cases h
     exact ⟨h2.2.2, h1, h2.1, h2.2.1, rfl⟩
   · rw [if_neg h2] at h; cases h
 · rw [if_neg h1] at h; cases h
def X3c : FSpec := fs93.like fun (s, a, n, k, _) => .on (smS s) ((Jb s a n k).getD [], if (Jb s a n k).isSome then (0 : Int) else 2, ())
theorem V09 : ∀ (ps : List Int) (s : List UInt8) (a e : Int) (d : List UInt8), 0 ≤ a → s.length ≤ 100000000 → (U3 ps s a e d).2.2.length ≤ d.length + 200000000 * ps.length
 | [], s, a, e, d, _, _ => by simp [U3]
 | x :: ps, s, a, e, d, h0, hs => by
   unfold U3
   by_cases h1 : x = -1
   · rw [if_pos h1]
     cases ho : U2 s a a (-1) [] with
     | none => exact Nat.le_add_right _ _
     | some q =>
       obtain ⟨n, next⟩ := q
       obtain ⟨p1, p2, p3⟩ := Us h0 ho
       have hn := (Q05.1 p1).2.1
       simp only
       by_cases hn2 : next > e
       · rw [if_pos hn2]
         exact Nat.le_add_right _ _
       · rw [if_neg hn2]
         have := V09 ps s next e (d ++ n) (by omega) hs
         rw [List.length_append] at this
         simp only [List.length_cons]
         omega
   · rw [if_neg h1]
     generalize (if x = -2 ∨ x = -3 then e - a else x) = sz
     by_cases hh : Q0 s a sz = true ∧ a + sz ≤ e
     · rw [if_pos hh]
       have := V6.1 hh.1
       have hvl : (Z1 s a sz).length ≤ s.length := by unfold Z1; rw [List.length_take, List.length_drop]; omega
       have := V09 ps s (a + sz) e (d ++ Z1 s a sz) (by omega) hs
       rw [List.length_append] at this
       simp only [List.length_cons]
       omega
     · rw [if_neg hh]
       exact Nat.le_add_right _ _
theorem U3a : X3c.Ok Tryz.prog := by
 refine Q3 okf93 _ ?_
 rintro ⟨(s : List UInt8), (a : Int), (n : Int), (k : Int), _⟩ y h
 obtain ⟨hb, rfl⟩ := Tr.get_on h
 refine X2 (vs := [.str ((Jb s a n k).getD []), .int .i64 (if (Jb s a n k).isSome then 0 else 2)]) rfl rfl (Tr.get_of_all ?_)
 show (t93 s a n k).all _
 unfold t93 Jb
 have hB : s.length ≤ 100000000 := by simpa [smS] using hb
 have hbig : bigS s = true := by simp [bigS]; omega
 have hl := U27 k
 refine Tr.all_t hbig ?_
 cases h1 : Q0 s a n with
 | false =>
   rw [if_neg Bool.false_ne_true]
   exact Tr.all_f rfl (Tr.all_ret rfl)
 | true =>
   have hs := V6.1 h1
   have hw : IntKind.wrap .i64 (a + n) = a + n := IntWalk.i64_in _ (by omega)
   have hd := V09 (layV k) s a (a + n) [] hs.1 hB
   rw [hw, if_pos rfl]
   have hc : J2f s a (a + n) [] (layV k) (layV k).length 0 = true := by
    unfold J2f noT
    rw [hb, J0 rfl, J0 rfl, J0 hs.1, J0 (show a ≤ a + n by omega), J0 (show a + n ≤ (s.length : Int) by omega), J0 hl]
    rfl
   generalize U3 (layV k) s a (a + n) [] = t at hd
   obtain ⟨ok, at', d⟩ := t
   have hbd : bigS d = true := by
    have : d.length ≤ ([] : List UInt8).length + 200000000 * (layV k).length := hd
    simp [bigS] at this ⊢
    omega
   refine Tr.all_t rfl (Tr.all_t hc (Tr.all_br (fun c1 => Tr.all_br (fun c2 => Tr.all_ret ?_) fun c2 => Tr.all_t hbd (Tr.all_br (fun c3 => Tr.all_ret ?_) fun c3 => Tr.all_ret ?_)) fun c1 => Tr.all_ret ?_))
   · have hne : at' ≠ a + n := by simpa using c2
     rw [if_neg (fun h => hne h.2.1)]
     rfl
   · rw [Bool.not_eq_true'] at c3
     rw [if_neg (fun h => by rw [show mayR k d = false from c3] at h; exact Bool.false_ne_true h.2.2)]
     rfl
   · rw [Bool.not_eq_false'] at c3
     have he : at' = a + n := by simpa using c2
     rw [if_pos ⟨c1, he, c3⟩]
     rfl
   · rw [if_neg (fun h => by rw [show ok = false from c1] at h; exact Bool.false_ne_true h.1)]
     rfl
noncomputable def b128 : Code := Z4 c128 0
def Z3x : LoopSpec := { bid := 0, sh := [.d .str false, .d (.int .i64) false, .d (.int .i64) false], so := [], F := fun (s, at_, from_, _) _ => .on2 (bigS s && decide (from_ = at_)) (lbX3 s at_) (.exit 0, [.dead, .dead], []) (.ret, [.str (lbS3 s at_), .int .i64 (lbE3 s at_)], []) }
def r128 (s : List UInt8) (at_ from_ : Int) : Tr (St ⊕ (Ex × St)) := .br (decide (at_ ≥ 0)) (.br (decide (at_ < (↑s.length : Int))) (.br (decide (0 ≤ at_)) (.br (decide (at_ < (↑s.length : Int))) (.br (decide (IntKind.wrap .i64 (↑(UInt8.toNat (s.getD at_.toNat 0)) : Int) ≥ 192)) (.br (decide (0 ≤ at_) && decide (at_ ≤ (↑s.length : Int))) (.br (decide (0 ≤ from_) && decide (from_ ≤ at_)) (.ret (.inr (.ret, stOf [4, 5] [.str (List.take (Int.toNat at_ - Int.toNat from_) (List.drop from_.toNat s)), .int .i64 at_] []))) .no) .no) (.br (decide (IntKind.wrap .i64 (↑(UInt8.toNat (s.getD at_.toNat 0)) : Int) > 63)) (.ret (.inr (.ret, stOf [4, 5] [.str [], .int .i64 (-1)] []))) (.br (IntKind.wrap .i64 (↑(UInt8.toNat (s.getD at_.toNat 0)) : Int) == 0) (.br (decide (0 ≤ IntKind.wrap .i64 (at_ + 1)) && decide (IntKind.wrap .i64 (at_ + 1) ≤ (↑s.length : Int))) (.br (decide (0 ≤ from_) && decide (from_ ≤ IntKind.wrap .i64 (at_ + 1))) (.ret (.inr (.ret, stOf [4, 5] [.str (List.take (Int.toNat (IntKind.wrap .i64 (at_ + 1)) - Int.toNat from_) (List.drop from_.toNat s)), .int .i64 (IntKind.wrap .i64 (at_ + 1))] []))) .no) .no) (.ret (.inl (stOf [0, 1, 6] [.str s, .int .i64 (IntKind.wrap .i64 (IntKind.wrap .i64 (at_ + 1) + IntKind.wrap .i64 (↑(UInt8.toNat (s.getD at_.toNat 0)) : Int))), .int .i64 from_] [])))))) .no) .no) (.ret (.inr (.exit 0, stOf [4, 5] [.dead, .dead] [])))) (.ret (.inr (.exit 0, stOf [4, 5] [.dead, .dead] [])))
theorem U3f (orc : Orc) (lp : Lp) (s : List UInt8) (at_ from_ : Int) : evC T0 orc lp b128 0 (stOf [0, 1, 6] [.str s, .int .i64 at_, .int .i64 from_] []) (U0 [0, 1, 6] [4, 5] 0) = (r128 s at_ from_).get := by kernel_rfl
theorem Q4h (orc : Orc) (s : List UInt8) (from_ : Int) (I'' : Int → Prop) (m'' : Int → Nat) (r'' : Ex × St) (h : ∀ (at_ : Int), I'' at_ → (r128 s at_ from_).all fun x'' => x'' = .inr r'' ∨ ∃ (at_' : Int), x'' = .inl (stOf [0, 1, 6] [.str s, .int .i64 at_', .int .i64 from_] []) ∧ I'' at_' ∧ m'' at_' < m'' at_) (lp : Lp) (at_ : Int) : I'' at_ →
    V2 (fun st => evC T0 orc lp b128 0 st (U0 [0, 1, 6] [4, 5] 0)) (stOf [0, 1, 6] [.str s, .int .i64 at_, .int .i64 from_] []) = some r'' :=
 Z5 (fun a'' : Int => stOf [0, 1, 6] [.str s, .int .i64 a'', .int .i64 from_] []) (fun a'' => I'' a'') (fun a'' => m'' a'') r'' (fun a'' => r128 s a'' from_)
  (fun a'' x hx => (U3f orc lp s a'' from_).trans hx) (fun a'' ha => Tr.all_mono (fun x'' hx => hx.imp id fun ⟨at_', h1, h2, h3⟩ => ⟨(at_'), h1, h2, h3⟩) (h (a'') ha)) (at_)
def lb3I (s : List UInt8) (f at_ : Int) : Prop := f ≤ at_ ∧ labE s at_.toNat = labE s f.toNat ∧ labX s at_.toNat = labX s f.toNat
theorem U49 (orc : Orc) : Z3x.Ok T0 orc h128 0 0 b128 := by
 intro q'' hq'' x'' y'' r'' h
 obtain ⟨(s : List UInt8), (at_ : Int), (from_ : Int), _⟩ := x''
 obtain ⟨hc, rfl⟩ := Tr.get_on2 h
 show V2 (fun st => evC T0 orc (lpN T0 orc h128 0 q'') b128 0 st (U0 [0, 1, 6] [4, 5] 0)) (stOf [0, 1, 6] [.str s, .int .i64 at_, .int .i64 from_] []) = some ((bif lbX3 s at_ then (.exit 0, [.dead, .dead], []) else (.ret, [.str (lbS3 s at_), .int .i64 (lbE3 s at_)], []) : Ex × List AV × List LObj).1, stOf [4, 5] (bif lbX3 s at_ then (.exit 0, [.dead, .dead], []) else (.ret, [.str (lbS3 s at_), .int .i64 (lbE3 s at_)], []) : Ex × List AV × List LObj).2.1 (bif lbX3 s at_ then (.exit 0, [.dead, .dead], []) else (.ret, [.str (lbS3 s at_), .int .i64 (lbE3 s at_)], []) : Ex × List AV × List LObj).2.2)
 simp only [Bool.and_eq_true, decide_eq_true_eq] at hc
 obtain ⟨hb, rfl⟩ := hc
 by_cases h0 : from_ < 0
 · refine Q4h _ s from_ (fun a => a = from_) (fun _ => 0) _ ?_ _ from_ rfl
   rintro at_ rfl
   rw [show lbX3 s at_ = true by simp [lbX3, h0]]
   unfold r128
   exact Tr.all_f (Z0 (by omega)) (Tr.all_ret (.inl rfl))
 refine Q4h _ s from_ (lb3I s from_) (fun a => (s.length - a).toNat) _ ?_ _ from_ ⟨by omega, rfl, rfl⟩
 rintro at_ ⟨h1, h2, h3⟩
 have hB : s.length ≤ 1000000000000 := by simpa [bigS] using hb
 unfold r128 lbX3 lbS3 lbE3
 rw [if_neg h0, if_neg h0, decide_eq_false h0, Bool.false_or, ← h2, ← h3]
 have hto : ((at_.toNat : Nat) : Int) = at_ := Int.toNat_of_nonneg (by omega)
 by_cases hk : at_.toNat < s.length
 · have hb0 : (↑(UInt8.toNat (List.getD s (Int.toNat at_) 0)) : Int) = (byN s at_.toNat : Int) := rfl
   have hbl : byN s at_.toNat < 256 := (s.getD at_.toNat 0).toNat_lt
   refine Tr.all_t (J0 (by omega)) (Tr.all_t (J0 (by omega)) (Tr.all_t (J0 (by omega)) (Tr.all_t (J0 (by omega)) ?_)))
   rw [hb0, IntWalk.i64_in ((byN s at_.toNat : Nat) : Int) (by omega), IntWalk.i64_in (at_ + 1) (by omega), IntWalk.i64_in _ (by omega), labE.eq_1 s at_.toNat, labX.eq_1 s at_.toNat, dif_pos hk, dif_pos hk]
   by_cases c1 : 192 ≤ byN s at_.toNat
   · rw [if_pos c1, if_pos c1]
     refine Tr.all_t (J0 (by omega)) (Tr.all_t (by rw [J0 (by omega), J0 (by omega)]; rfl) (Tr.all_t (by rw [J0 (by omega), J0 (by omega)]; rfl) (Tr.all_ret (.inl ?_))))
     simp only [hto, sub]
     rfl
   rw [if_neg c1, if_neg c1]
   by_cases c2 : 63 < byN s at_.toNat
   · rw [if_pos c2, if_pos c2]
     exact Tr.all_f (Z0 (by omega)) (Tr.all_t (J0 (by omega)) (Tr.all_ret (.inl rfl)))
   rw [if_neg c2, if_neg c2]
   by_cases c3 : byN s at_.toNat = 0
   · rw [if_pos c3, if_pos c3]
     refine Tr.all_f (Z0 (by omega)) (Tr.all_f (Z0 (by omega)) (Tr.all_t (beq_iff_eq.2 (by omega)) (Tr.all_t (by rw [J0 (by omega), J0 (by omega)]; rfl) (Tr.all_t (by rw [J0 (by omega), J0 (by omega)]; rfl) (Tr.all_ret (.inl ?_))))))
     have : (((at_.toNat + 1 : Nat)) : Int) = at_ + 1 := by omega
     simp only [this, sub, show (at_ + 1).toNat = at_.toNat + 1 by omega]
     rfl
   rw [if_neg c3, if_neg c3]
   refine Tr.all_f (Z0 (by omega)) (Tr.all_f (Z0 (by omega)) (Tr.all_f (beq_eq_false_iff_ne.2 (by omega)) (Tr.all_ret (.inr ⟨_, rfl, ⟨by omega, ?_, ?_⟩, by omega⟩))))
   · rw [← h2, labE.eq_1 s at_.toNat, dif_pos hk, if_neg c1, if_neg c2, if_neg c3, show (at_ + 1 + (byN s at_.toNat : Int)).toNat = at_.toNat + 1 + byN s at_.toNat by omega]
   · rw [← h3, labX.eq_1 s at_.toNat, dif_pos hk, if_neg c1, if_neg c2, if_neg c3, show (at_ + 1 + (byN s at_.toNat : Int)).toNat = at_.toNat + 1 + byN s at_.toNat by omega]
 · rw [labX.eq_1 s at_.toNat, dif_neg hk]
   exact Tr.all_t (J0 (by omega)) (Tr.all_f (Z0 (by omega)) (Tr.all_ret (.inl rfl)))
noncomputable def b129 : Code := Z4 c129 0
def Z3j : LoopSpec := { bid := 0, sh := [.d .str false, .d (.int .i64) false], so := [], F := fun (s, at_, _) _ => .on2 (bigS s && decide (at_ = 0)) (J04 s 0) (.exit 0, [.dead], []) (.ret, [.bool (Qo s 0)], []) }
def r129 (s : List UInt8) (at_ : Int) : Tr (St ⊕ (Ex × St)) := .br (decide (at_ < (↑s.length : Int))) (.br (decide (0 ≤ at_)) (.br (decide (at_ < (↑s.length : Int))) (.br ((↑(UInt8.toNat (s.getD at_.toNat 0)) : Int) == 0) (.ret (.inr (.ret, stOf [2] [.bool (at_ == IntKind.wrap .i64 ((↑s.length : Int) - 1))] []))) (.br (decide (0 ≤ at_)) (.br (decide (at_ < (↑s.length : Int))) (.ret (.inl (stOf [0, 3] [.str s, .int .i64 (IntKind.wrap .i64 (IntKind.wrap .i64 (at_ + 1) + IntKind.wrap .i64 (↑(UInt8.toNat (s.getD at_.toNat 0)) : Int)))] []))) .no) .no)) .no) .no) (.ret (.inr (.exit 0, stOf [2] [.dead] [])))
theorem Q3k (orc : Orc) (lp : Lp) (s : List UInt8) (at_ : Int) : evC T0 orc lp b129 0 (stOf [0, 3] [.str s, .int .i64 at_] []) (U0 [0, 3] [2] 0) = (r129 s at_).get := by kernel_rfl
theorem wf129 (orc : Orc) (s : List UInt8) (I'' : Int → Prop) (m'' : Int → Nat) (r'' : Ex × St) (h : ∀ (at_ : Int), I'' at_ → (r129 s at_).all fun x'' => x'' = .inr r'' ∨ ∃ (at_' : Int), x'' = .inl (stOf [0, 3] [.str s, .int .i64 at_'] []) ∧ I'' at_' ∧ m'' at_' < m'' at_) (lp : Lp) (at_ : Int) : I'' at_ →
    V2 (fun st => evC T0 orc lp b129 0 st (U0 [0, 3] [2] 0)) (stOf [0, 3] [.str s, .int .i64 at_] []) = some r'' :=
 Z5 (fun a'' : Int => stOf [0, 3] [.str s, .int .i64 a''] []) (fun a'' => I'' a'') (fun a'' => m'' a'') r'' (fun a'' => r129 s a'')
  (fun a'' x hx => (Q3k orc lp s a'').trans hx) (fun a'' ha => Tr.all_mono (fun x'' hx => hx.imp id fun ⟨at_', h1, h2, h3⟩ => ⟨(at_'), h1, h2, h3⟩) (h (a'') ha)) (at_)
def en3I (s : List UInt8) (at_ : Int) : Prop := 0 ≤ at_ ∧ J04 s at_.toNat = J04 s 0 ∧ Qo s at_.toNat = Qo s 0
theorem Z45 (orc : Orc) : Z3j.Ok T0 orc h129 0 0 b129 := by
 intro q'' hq'' x'' y'' r'' h
 obtain ⟨(s : List UInt8), (at_ : Int), _⟩ := x''
 obtain ⟨hc, rfl⟩ := Tr.get_on2 h
 show V2 (fun st => evC T0 orc (lpN T0 orc h129 0 q'') b129 0 st (U0 [0, 3] [2] 0)) (stOf [0, 3] [.str s, .int .i64 at_] []) = some ((bif J04 s 0 then (.exit 0, [.dead], []) else (.ret, [.bool (Qo s 0)], []) : Ex × List AV × List LObj).1, stOf [2] (bif J04 s 0 then (.exit 0, [.dead], []) else (.ret, [.bool (Qo s 0)], []) : Ex × List AV × List LObj).2.1 (bif J04 s 0 then (.exit 0, [.dead], []) else (.ret, [.bool (Qo s 0)], []) : Ex × List AV × List LObj).2.2)
 simp only [Bool.and_eq_true, decide_eq_true_eq] at hc
 obtain ⟨hb, rfl⟩ := hc
 refine wf129 _ s (en3I s) (fun a => (s.length - a).toNat) _ ?_ _ 0 ⟨by omega, rfl, rfl⟩
 rintro at_ ⟨h1, h2, h3⟩
 have hB : s.length ≤ 1000000000000 := by simpa [bigS] using hb
 unfold r129
 rw [← h2, ← h3]
 have hto : ((at_.toNat : Nat) : Int) = at_ := Int.toNat_of_nonneg (by omega)
 by_cases hk : at_.toNat < s.length
 · have hb0 : (↑(UInt8.toNat (List.getD s (Int.toNat at_) 0)) : Int) = (byN s at_.toNat : Int) := rfl
   have hbl : byN s at_.toNat < 256 := (s.getD at_.toNat 0).toNat_lt
   refine Tr.all_t (J0 (by omega)) (Tr.all_t (J0 (by omega)) (Tr.all_t (J0 (by omega)) ?_))
   simp only [hb0]
   rw [IntWalk.i64_in ((byN s at_.toNat : Nat) : Int) (by omega), IntWalk.i64_in (at_ + 1) (by omega), IntWalk.i64_in (at_ + 1 + _) (by omega), IntWalk.i64_in (_ - 1) (by omega), J04.eq_1 s at_.toNat, Qo.eq_1 s at_.toNat, dif_pos hk, dif_pos hk]
   by_cases c3 : byN s at_.toNat = 0
   · rw [if_pos c3, if_pos c3]
     refine Tr.all_t (beq_iff_eq.2 (by omega)) (Tr.all_ret (.inl ?_))
     have : (at_ == (s.length : Int) - 1) = decide (at_.toNat = s.length - 1) := by
      rw [Bool.eq_iff_iff]
      simp
      omega
     rw [this]
     rfl
   rw [if_neg c3, if_neg c3]
   refine Tr.all_f (beq_eq_false_iff_ne.2 (by omega)) (Tr.all_t (J0 (by omega)) (Tr.all_t (J0 (by omega)) (Tr.all_ret (.inr ⟨_, rfl, ⟨by omega, ?_, ?_⟩, by omega⟩))))
   · rw [← h2, J04.eq_1 s at_.toNat, dif_pos hk, if_neg c3, show (at_ + 1 + (byN s at_.toNat : Int)).toNat = at_.toNat + 1 + byN s at_.toNat by omega]
   · rw [← h3, Qo.eq_1 s at_.toNat, dif_pos hk, if_neg c3, show (at_ + 1 + (byN s at_.toNat : Int)).toNat = at_.toNat + 1 + byN s at_.toNat by omega]
 · rw [J04.eq_1 s at_.toNat, dif_neg hk]
   exact Tr.all_f (Z0 (by omega)) (Tr.all_ret (.inl rfl))
def t128 (s : List UInt8) (at_ : Int) : Tr Res := .br (bigS s && decide (at_ = at_)) (.br (lbX3 s at_) (.ret ([.str [], .int .i64 (-1)], [])) (.ret ([.str (lbS3 s at_), .int .i64 (lbE3 s at_)], []))) .no
def os128 : OSpec := { f := 128, sh := [.d .str false, .d (.int .i64) false], so := [], F := fun (s, at_, _) _ => t128 s at_ }
theorem fn128 (s : List UInt8) (at_ : Int) : evC T0 (orcB [] []) (lpOf h128 0 (lsOf [Z3x])) c128 1000000 (V1 [.str s, .int .i64 at_] [] Tryz.f128.ntmps) (J1 T0 false 0 Tryz.f128) = (t128 s at_).get := by kernel_rfl
theorem ok128 : os128.Ok Tryz.prog := by
 refine V3 Q1 tab0 (X0 all_nil all_nil) h128 (d := 0) (n0 := 0) (S := lsOf [Z3x]) Tryz.func128 (by kernel_rfl) (c := c128) (by kernel_rfl) rfl (X4 (xs := [(0, b128)]) (by kernel_rfl) (all_cons (V5 (U49 _)) all_nil)) (by omega) (by kernel_rfl) ?_
 intro x'' y'' q'' hq''
 obtain ⟨(s : List UInt8), (at_ : Int), _⟩ := x''
 exact (fn128 s at_).trans hq''
def Z4k : FSpec := fsT 128 [(.str, false), ((.int .i64), false)] [(.str, false), ((.int .i64), false)] fun (s, at_, _) => t128 s at_
theorem Q52 : Z4k.Ok Tryz.prog := V4 fun x'' r'' hr'' => ok128 x'' () r'' hr''
def t129 (s : List UInt8) : Tr Res := .br (bigS s && decide (0 = (0 : Ty.den (Ty.int .i64)))) (.br (J04 s 0) (.ret ([.bool false], [])) (.ret ([.bool (Qo s 0)], []))) .no
def os129 : OSpec := { f := 129, sh := [.d .str false], so := [], F := fun (s, _) _ => t129 s }
theorem fn129 (s : List UInt8) : evC T0 (orcB [] []) (lpOf h129 0 (lsOf [Z3j])) c129 1000000 (V1 [.str s] [] Tryz.f129.ntmps) (J1 T0 false 0 Tryz.f129) = (t129 s).get := by kernel_rfl
theorem ok129 : os129.Ok Tryz.prog := by
 refine V3 Q1 tab0 (X0 all_nil all_nil) h129 (d := 0) (n0 := 0) (S := lsOf [Z3j]) Tryz.func129 (by kernel_rfl) (c := c129) (by kernel_rfl) rfl (X4 (xs := [(0, b129)]) (by kernel_rfl) (all_cons (V5 (Z45 _)) all_nil)) (by omega) (by kernel_rfl) ?_
 intro x'' y'' q'' hq''
 obtain ⟨(s : List UInt8), _⟩ := x''
 exact (fn129 s).trans hq''
def X4k : FSpec := fsT 129 [(.str, false)] [(.bool, false)] fun (s, _) => t129 s
theorem J4t : X4k.Ok Tryz.prog := V4 fun x'' r'' hr'' => ok129 x'' () r'' hr''
def J0l : FSpec := Z4k.like fun (s, a, _) => .on (bigS s) (lbS3 s a, lbE3 s a, ())
theorem U46 : J0l.Ok Tryz.prog := by
 refine Q3 Q52 _ ?_
 rintro ⟨(s : List UInt8), (a : Int), _⟩ y h
 obtain ⟨hb, rfl⟩ := Tr.get_on h
 refine X2 (vs := [.str (lbS3 s a), .int .i64 (lbE3 s a)]) rfl rfl (Tr.get_of_all ?_)
 show (t128 s a).all _
 refine Tr.all_t (by simp [hb]) (Tr.all_br (fun c1 => Tr.all_ret ?_) fun c1 => Tr.all_ret rfl)
 unfold lbX3 at c1
 unfold lbS3 lbE3
 by_cases h0 : a < 0
 · rw [if_pos h0, if_pos h0]
 · rw [decide_eq_false h0, Bool.false_or] at c1
   rw [if_neg h0, if_neg h0, J4y _ _ rfl c1]
def J0m : FSpec := X4k.like fun (s, _) => .on (bigS s) (Qo s 0, ())
theorem Q45 : J0m.Ok Tryz.prog := by
 refine Q3 J4t _ ?_
 rintro ⟨(s : List UInt8), _⟩ y h
 obtain ⟨hb, rfl⟩ := Tr.get_on h
 refine X2 (vs := [.bool (Qo s 0)]) rfl rfl (Tr.get_of_all ?_)
 show (t129 s).all _
 refine Tr.all_t (by rw [hb]; rfl) (Tr.all_br (fun c1 => Tr.all_ret ?_) fun c1 => Tr.all_ret rfl)
 rw [J46 _ _ rfl c1]
noncomputable def b95 : Code := Z4 c95 0
def ls95 : LoopSpec := { bid := 0, sh := [.d .str false, .d (.int .i64) false, .d .str false, .d (.int .i64) false], so := [], F := fun (s, at_, n, behind, _) _ => .on2 (bigS s && nilS n) ((tk3 s at_ behind n).1) (.exit 0, [.dead, .dead, .dead, .str (tk3 s at_ behind n).2.1, .int .i64 (tk3 s at_ behind n).2.2], []) (.ret, [.str [], .int .i64 0, .int .i64 2, .str (tk3 s at_ behind n).2.1, .int .i64 (tk3 s at_ behind n).2.2], []) }
def r95 (s : List UInt8) (at_ : Int) (n : List UInt8) (behind : Int) : Tr (St ⊕ (Ex × St)) := .br (bigS s) (.br (decide (lbE3 s at_ < 0)) (.ret (.inr (.ret, stOf [4, 5, 6, 7, 8] [.str [], .int .i64 0, .int .i64 2, .str n, .int .i64 behind] []))) (.br (Nat.ble (List.length n + List.length (lbS3 s at_)) 9223372036854775807) (.br (!lbS3 s at_ == []) (.br (decide (0 ≤ IntKind.wrap .i64 ((↑(List.length (lbS3 s at_)) : Int) - 1))) (.br (decide (IntKind.wrap .i64 ((↑(List.length (lbS3 s at_)) : Int) - 1) < (↑(List.length (lbS3 s at_)) : Int))) (.br ((↑(UInt8.toNat (List.getD (lbS3 s at_) (Int.toNat (IntKind.wrap .i64 ((↑(List.length (lbS3 s at_)) : Int) - 1))) 0)) : Int) == 0) (.br (bigS (lbS3 s at_)) (.br (Qo (lbS3 s at_) 0) (.br (decide (behind < 0)) (.ret (.inr (.exit 0, stOf [4, 5, 6, 7, 8] [.dead, .dead, .dead, .str (n ++ lbS3 s at_), .int .i64 (lbE3 s at_)] []))) (.ret (.inr (.exit 0, stOf [4, 5, 6, 7, 8] [.dead, .dead, .dead, .str (n ++ lbS3 s at_), .int .i64 behind] [])))) (.br (bigS s) (.br (Q0 s (lbE3 s at_) 2) (.br (decide (Int.tmod (IntKind.wrap .i64 (n16 s (lbE3 s at_))) 16384 ≥ at_)) (.ret (.inr (.ret, stOf [4, 5, 6, 7, 8] [.str [], .int .i64 0, .int .i64 2, .str (n ++ lbS3 s at_), .int .i64 behind] []))) (.br (decide (behind < 0)) (.ret (.inl (stOf [0, 1, 7, 8] [.str s, .int .i64 (Int.tmod (IntKind.wrap .i64 (n16 s (lbE3 s at_))) 16384), .str (n ++ lbS3 s at_), .int .i64 (lbE3 s at_ + (2 : Ty.den (Ty.int .i64)))] []))) (.ret (.inl (stOf [0, 1, 7, 8] [.str s, .int .i64 (Int.tmod (IntKind.wrap .i64 (n16 s (lbE3 s at_))) 16384), .str (n ++ lbS3 s at_), .int .i64 behind] []))))) (.ret (.inr (.ret, stOf [4, 5, 6, 7, 8] [.str [], .int .i64 0, .int .i64 2, .str (n ++ lbS3 s at_), .int .i64 behind] [])))) .no)) .no) (.br (bigS s) (.br (Q0 s (lbE3 s at_) 2) (.br (decide (Int.tmod (IntKind.wrap .i64 (n16 s (lbE3 s at_))) 16384 ≥ at_)) (.ret (.inr (.ret, stOf [4, 5, 6, 7, 8] [.str [], .int .i64 0, .int .i64 2, .str (n ++ lbS3 s at_), .int .i64 behind] []))) (.br (decide (behind < 0)) (.ret (.inl (stOf [0, 1, 7, 8] [.str s, .int .i64 (Int.tmod (IntKind.wrap .i64 (n16 s (lbE3 s at_))) 16384), .str (n ++ lbS3 s at_), .int .i64 (lbE3 s at_ + (2 : Ty.den (Ty.int .i64)))] []))) (.ret (.inl (stOf [0, 1, 7, 8] [.str s, .int .i64 (Int.tmod (IntKind.wrap .i64 (n16 s (lbE3 s at_))) 16384), .str (n ++ lbS3 s at_), .int .i64 behind] []))))) (.ret (.inr (.ret, stOf [4, 5, 6, 7, 8] [.str [], .int .i64 0, .int .i64 2, .str (n ++ lbS3 s at_), .int .i64 behind] [])))) .no)) .no) .no) (.br (bigS s) (.br (Q0 s (lbE3 s at_) 2) (.br (decide (Int.tmod (IntKind.wrap .i64 (n16 s (lbE3 s at_))) 16384 ≥ at_)) (.ret (.inr (.ret, stOf [4, 5, 6, 7, 8] [.str [], .int .i64 0, .int .i64 2, .str (n ++ lbS3 s at_), .int .i64 behind] []))) (.br (decide (behind < 0)) (.ret (.inl (stOf [0, 1, 7, 8] [.str s, .int .i64 (Int.tmod (IntKind.wrap .i64 (n16 s (lbE3 s at_))) 16384), .str (n ++ lbS3 s at_), .int .i64 (lbE3 s at_ + (2 : Ty.den (Ty.int .i64)))] []))) (.ret (.inl (stOf [0, 1, 7, 8] [.str s, .int .i64 (Int.tmod (IntKind.wrap .i64 (n16 s (lbE3 s at_))) 16384), .str (n ++ lbS3 s at_), .int .i64 behind] []))))) (.ret (.inr (.ret, stOf [4, 5, 6, 7, 8] [.str [], .int .i64 0, .int .i64 2, .str (n ++ lbS3 s at_), .int .i64 behind] [])))) .no)) .no)) .no
theorem V46 (lp : Lp) (s : List UInt8) (at_ : Int) (n : List UInt8) (behind : Int) : evC T0 (orcB [J0l, J0m, Uk, Z09] []) lp b95 0 (stOf [0, 1, 7, 8] [.str s, .int .i64 at_, .str n, .int .i64 behind] []) (U0 [0, 1, 7, 8] [4, 5, 6, 7, 8] 0) = (r95 s at_ n behind).get := by kernel_rfl
theorem wf95 (s : List UInt8) (I'' : Int → List UInt8 → Int → Prop) (m'' : Int → List UInt8 → Int → Nat) (r'' : Ex × St) (h : ∀ (at_ : Int) (n : List UInt8) (behind : Int), I'' at_ n behind → (r95 s at_ n behind).all fun x'' => x'' = .inr r'' ∨ ∃ (at_' : Int) (n' : List UInt8) (behind' : Int), x'' = .inl (stOf [0, 1, 7, 8] [.str s, .int .i64 at_', .str n', .int .i64 behind'] []) ∧ I'' at_' n' behind' ∧ m'' at_' n' behind' < m'' at_ n behind) (lp : Lp) (at_ : Int) (n : List UInt8) (behind : Int) : I'' at_ n behind →
    V2 (fun st => evC T0 (orcB [J0l, J0m, Uk, Z09] []) lp b95 0 st (U0 [0, 1, 7, 8] [4, 5, 6, 7, 8] 0)) (stOf [0, 1, 7, 8] [.str s, .int .i64 at_, .str n, .int .i64 behind] []) = some r'' :=
 Z5 (fun a'' : Int × List UInt8 × Int => stOf [0, 1, 7, 8] [.str s, .int .i64 a''.1, .str a''.2.1, .int .i64 a''.2.2] []) (fun a'' => I'' a''.1 a''.2.1 a''.2.2) (fun a'' => m'' a''.1 a''.2.1 a''.2.2) r'' (fun a'' => r95 s a''.1 a''.2.1 a''.2.2)
  (fun a'' x hx => (V46 lp s a''.1 a''.2.1 a''.2.2).trans hx) (fun a'' ha => Tr.all_mono (fun x'' hx => hx.imp id fun ⟨at_', n', behind', h1, h2, h3⟩ => ⟨(at_', n', behind'), h1, h2, h3⟩) (h (a''.1) (a''.2.1) (a''.2.2) ha)) (at_, n, behind)
def tk3I (s : List UInt8) (a0 b0 : Int) (n0 : List UInt8) (a : Int) (n : List UInt8) (b : Int) : Prop := (n = [] ∨ 0 ≤ a ∧ a < 16384 ∧ (n.length : Int) ≤ 1000000000000 * (16385 - a)) ∧ tk3 s a b n = tk3 s a0 b0 n0
theorem J4q : ls95.Ok T0 (orcB [J0l, J0m, Uk, Z09] []) h95 0 0 b95 := by
 intro q'' hq'' x'' y'' r'' h
 obtain ⟨(s : List UInt8), (at_ : Int), (n : List UInt8), (behind : Int), _⟩ := x''
 obtain ⟨hc, rfl⟩ := Tr.get_on2 h
 show V2 (fun st => evC T0 (orcB [J0l, J0m, Uk, Z09] []) (lpN T0 (orcB [J0l, J0m, Uk, Z09] []) h95 0 q'') b95 0 st (U0 [0, 1, 7, 8] [4, 5, 6, 7, 8] 0)) (stOf [0, 1, 7, 8] [.str s, .int .i64 at_, .str n, .int .i64 behind] []) = some ((bif (tk3 s at_ behind n).1 then (.exit 0, [.dead, .dead, .dead, .str (tk3 s at_ behind n).2.1, .int .i64 (tk3 s at_ behind n).2.2], []) else (.ret, [.str [], .int .i64 0, .int .i64 2, .str (tk3 s at_ behind n).2.1, .int .i64 (tk3 s at_ behind n).2.2], []) : Ex × List AV × List LObj).1, stOf [4, 5, 6, 7, 8] (bif (tk3 s at_ behind n).1 then (.exit 0, [.dead, .dead, .dead, .str (tk3 s at_ behind n).2.1, .int .i64 (tk3 s at_ behind n).2.2], []) else (.ret, [.str [], .int .i64 0, .int .i64 2, .str (tk3 s at_ behind n).2.1, .int .i64 (tk3 s at_ behind n).2.2], []) : Ex × List AV × List LObj).2.1 (bif (tk3 s at_ behind n).1 then (.exit 0, [.dead, .dead, .dead, .str (tk3 s at_ behind n).2.1, .int .i64 (tk3 s at_ behind n).2.2], []) else (.ret, [.str [], .int .i64 0, .int .i64 2, .str (tk3 s at_ behind n).2.1, .int .i64 (tk3 s at_ behind n).2.2], []) : Ex × List AV × List LObj).2.2)
 simp only [Bool.and_eq_true, nilS, List.isEmpty_iff] at hc
 obtain ⟨hb, hn⟩ := hc
 refine wf95 s (tk3I s at_ behind n) (fun a _ _ => a.toNat) _ ?_ _ at_ n behind ⟨.inl hn, rfl⟩
 clear hn
 rintro a n' b' ⟨h1, h2⟩
 rw [← h2]
 have hB : s.length ≤ 1000000000000 := by simpa [bigS] using hb
 unfold r95
 refine Tr.all_t hb ?_
 by_cases h0 : a < 0
 · rw [show lbE3 s a = -1 by simp [lbE3, h0], show tk3 s a b' n' = (false, n', b') by simp [tk3, h0]]
   exact Tr.all_t rfl (Tr.all_ret (.inl rfl))
 have hto : ((a.toNat : Nat) : Int) = a := Int.toNat_of_nonneg (by omega)
 have ht : tk3 s a b' n' = Z0i s a.toNat b' n' := by simp [tk3, h0]
 cases hL : labE s a.toNat with
 | none =>
   rw [show lbE3 s a = -1 by simp [lbE3, h0, hL], ht, Z0i.eq_1, hL]
   exact Tr.all_t rfl (Tr.all_ret (.inl rfl))
 | some p =>
   obtain ⟨e, r⟩ := p
   have hge := Z0g _ _ e r rfl hL
   have hsl := Q12 (s := s) hge.1 hge.2.1
   have hE : lbE3 s a = e := by simp [lbE3, h0, hL]
   have hS : lbS3 s a = sub s a.toNat e := by simp [lbS3, h0, hL]
   have hend := V2y (s := s) _ a.toNat a.toNat e r rfl (Nat.le_refl _) hL
   rw [Nat.sub_self] at hend
   rw [hE, hS, ht, Z0i.eq_1, hL]
   have hnl : n'.length + (sub s a.toNat e).length ≤ 9223372036854775807 := by
    rw [hsl]
    rcases h1 with rfl | h1
    · simp; omega
    · omega
   refine Tr.all_f (Z0 (by omega)) (Tr.all_t (Nat.ble_eq_true_of_le hnl) ?_)
   have hbs : bigS (sub s a.toNat e) = true := by simp [bigS, hsl]; omega
   have hwi : IntKind.wrap .i64 ((List.length (sub s a.toNat e) : Int) - 1) = (List.length (sub s a.toNat e) : Int) - 1 := IntWalk.i64_in _ (by omega)
   rw [hwi]
   cases r with
   | true =>
     have hlt := (hge.2.2 rfl).1
     have hlast : (↑(UInt8.toNat (List.getD (sub s a.toNat e) (Int.toNat ((List.length (sub s a.toNat e) : Int) - 1)) 0)) : Int) = 0 := by
      have : byN (sub s a.toNat e) (e - a.toNat - 1) = 0 := by rw [V1y (by omega) hge.2.1, show a.toNat + (e - a.toNat - 1) = e - 1 by omega]; exact (hge.2.2 rfl).2
      rw [show Int.toNat ((List.length (sub s a.toNat e) : Int) - 1) = e - a.toNat - 1 by rw [hsl]; omega]
      have h3 : (List.getD (sub s a.toNat e) (e - a.toNat - 1) 0).toNat = 0 := this
      omega
     refine Tr.all_t ?_ (Tr.all_t (J0 (by omega)) (Tr.all_t (J0 (by omega)) (Tr.all_t (beq_iff_eq.2 hlast) (Tr.all_t hbs (Tr.all_t hend (Tr.all_br (fun c1 => Tr.all_ret (.inl ?_)) fun c1 => Tr.all_ret (.inl ?_)))))))
     · cases hq : sub s a.toNat e with
       | nil => rw [hq] at hsl; simp at hsl; omega
       | cons _ _ => rfl
     · simp only [decide_eq_true_eq] at c1
       simp only [if_pos c1]
       rfl
     · simp only [decide_eq_false_iff_not] at c1
       simp only [if_neg c1]
       rfl
   | false =>
     have hm : Int.tmod (IntKind.wrap .i64 (n16 s (e : Int))) 16384 = toT s (e : Int) := by
      have := Q19 s (e : Int)
      rw [IntWalk.i64_in _ (by omega), Int.tmod_eq_emod_of_nonneg this.1]
      rfl
     have hti := Z01 s (e : Int)
     rw [hm]
     refine Tr.all_br (fun c0 => Tr.all_t (J0 ?_) (Tr.all_t (J0 (by omega)) (Tr.all_br (fun _ => Tr.all_t hbs (Tr.all_f hend ?_)) fun _ => ?_))) fun _ => ?_
     · cases hq : sub s a.toNat e with
       | nil => rw [hq] at c0; cases c0
       | cons _ _ => simp
     all_goals
      by_cases h3 : e + 2 ≤ s.length ∧ toT s (e : Int) < (a.toNat : Int)
      · simp only [dif_pos h3]
        have hstep : tk3 s (toT s (e : Int)) (if b' < 0 then (e : Int) + 2 else b') (n' ++ sub s a.toNat e) = tk3 s at_ behind n := by
         rw [← h2, ht, Z0i.eq_1 s a.toNat, hL]
         simp only [dif_pos h3]
         unfold tk3
         rw [if_neg (by omega)]
        have hl2 : ((n' ++ sub s a.toNat e).length : Int) ≤ 1000000000000 * (16385 - toT s (e : Int)) := by
         rw [List.length_append, hsl]
         rcases h1 with rfl | h1
         · simp; omega
         · omega
        refine Tr.all_t hb (Tr.all_t (Xk.2 (by omega : e + 2 ≤ s.length)) (Tr.all_f (Z0 (by omega)) (Tr.all_br (fun c1 => Tr.all_ret (.inr ?_)) fun c1 => Tr.all_ret (.inr ?_))))
        · simp only [decide_eq_true_eq] at c1
          rw [if_pos c1] at hstep
          exact ⟨_, _, _, rfl, ⟨.inr ⟨by omega, by omega, hl2⟩, hstep⟩, by omega⟩
        · simp only [decide_eq_false_iff_not] at c1
          rw [if_neg c1] at hstep
          exact ⟨_, _, _, rfl, ⟨.inr ⟨by omega, by omega, hl2⟩, hstep⟩, by omega⟩
      · simp only [dif_neg h3]
        cases h4 : Q0 s (e : Int) 2 with
        | false => exact Tr.all_t hb (Tr.all_f rfl (Tr.all_ret (.inl rfl)))
        | true =>
          have := (Xk (m := 2)).1 h4
          exact Tr.all_t hb (Tr.all_t rfl (Tr.all_t (J0 (by omega)) (Tr.all_ret (.inl rfl))))
def t95 (s : List UInt8) (at_ : Int) : Tr Res := .br (bigS s && nilS ([])) (.br (tk3 s at_ (-1 : Int) ([])).1 (.br (decide ((↑(List.length (tk3 s at_ (-1 : Int) ([])).2.1) : Int) > 255)) (.ret ([.str [], .int .i64 0, .int .i64 2], [])) (.br (bigS (tk3 s at_ (-1 : Int) ([])).2.1) (.ret ([.str (Q2 (tk3 s at_ (-1 : Int) ([])).2.1), .int .i64 (tk3 s at_ (-1 : Int) ([])).2.2, .int .i64 0], [])) .no)) (.ret ([.str [], .int .i64 0, .int .i64 2], []))) .no
def os95 : OSpec := { f := 95, sh := [.d .str false, .d (.int .i64) false], so := [], F := fun (s, at_, _) _ => t95 s at_ }
theorem fn95 (s : List UInt8) (at_ : Int) : evC T0 (orcB [J0l, J0m, Uk, Z09] []) (lpOf h95 0 (lsOf [ls95])) c95 1000000 (V1 [.str s, .int .i64 at_] [] Tryz.f95.ntmps) (J1 T0 false 0 Tryz.f95) = (t95 s at_).get := by kernel_rfl
theorem ok95 : os95.Ok Tryz.prog := by
 refine V3 Q1 tab0 (X0 (all_cons U46 (all_cons Q45 (all_cons V0y (all_cons J2w all_nil)))) all_nil) h95 (d := 0) (n0 := 0) (S := lsOf [ls95]) Tryz.func95 (by kernel_rfl) (c := c95) (by kernel_rfl) rfl (X4 (xs := [(0, b95)]) (by kernel_rfl) (all_cons (V5 J4q) all_nil)) (by omega) (by kernel_rfl) ?_
 intro x'' y'' q'' hq''
 obtain ⟨(s : List UInt8), (at_ : Int), _⟩ := x''
 exact (fn95 s at_).trans hq''
def fs95 : FSpec := fsT 95 [(.str, false), ((.int .i64), false)] [(.str, false), ((.int .i64), false), ((.int .i64), false)] fun (s, at_, _) => t95 s at_
theorem okf95 : fs95.Ok Tryz.prog := V4 fun x'' r'' hr'' => ok95 x'' () r'' hr''
def Q11 : FSpec := fs95.like fun (s, at_, _) => .on (bigS s) (tkS (U2 s at_ at_ (-1) []), tkN (U2 s at_ at_ (-1) []), tkE (U2 s at_ at_ (-1) []), ())
theorem U38 : Q11.Ok Tryz.prog := by
 refine Q3 okf95 _ ?_
 rintro ⟨(s : List UInt8), (at_ : Int), _⟩ y h
 obtain ⟨hb, rfl⟩ := Tr.get_on h
 refine X2 (vs := resT (U2 s at_ at_ (-1) [])) rfl rfl (Tr.get_of_all ?_)
 show (t95 s at_).all _
 rw [tk3_G]
 refine Tr.all_t (by rw [hb]; rfl) (Tr.all_br (fun c1 => Tr.all_br (fun c2 => Tr.all_ret ?_) fun c2 => Tr.all_t ?_ (Tr.all_ret ?_)) fun c1 => Tr.all_ret ?_)
 · simp only [decide_eq_true_eq] at c2
   rw [c1, cond_true, if_neg (by omega)]
   rfl
 · simp only [decide_eq_false_iff_not] at c2
   simp [bigS]
   omega
 · simp only [decide_eq_false_iff_not] at c2
   rw [c1, cond_true, if_pos (by omega)]
   rfl
 · rw [c1]
   rfl
noncomputable def b114 : Code := Z4 c114 0
def J3b : LoopSpec := { bid := 0, sh := [.d .str false, .d (.int .i64) false], so := [], F := fun (s, k, _) _ => .on2 (bigS s && decide (k = 1)) (J2 s == 0) (.exit 0, [.dead], []) (.ret, [.int .i64 (J2 s)], []) }
def r114 (s : List UInt8) (k : Int) : Tr (St ⊕ (Ex × St)) := .br (decide (k ≤ (↑s.length : Int))) (.br (decide (k ≤ 255)) (.br (decide (0 ≤ k) && decide (k ≤ (↑s.length : Int))) (.br (decide (0 ≤ 0) && decide (0 ≤ k)) (.br (bigS (List.take (Int.toNat k - Int.toNat 0) (List.drop (Int.toNat 0) s))) (.br (mayV (List.take (Int.toNat k - Int.toNat 0) (List.drop (Int.toNat 0) s))) (.ret (.inr (.ret, stOf [2] [.int .i64 k] []))) (.ret (.inl (stOf [0, 3] [.str s, .int .i64 (IntKind.wrap .i64 (k + 1))] [])))) .no) .no) .no) (.ret (.inr (.exit 0, stOf [2] [.dead] [])))) (.ret (.inr (.exit 0, stOf [2] [.dead] [])))
theorem Z3o (lp : Lp) (s : List UInt8) (k : Int) : evC T0 (orcB [Z10] []) lp b114 0 (stOf [0, 3] [.str s, .int .i64 k] []) (U0 [0, 3] [2] 0) = (r114 s k).get := by kernel_rfl
theorem wf114 (s : List UInt8) (I'' : Int → Prop) (m'' : Int → Nat) (r'' : Ex × St) (h : ∀ (k : Int), I'' k → (r114 s k).all fun x'' => x'' = .inr r'' ∨ ∃ (k' : Int), x'' = .inl (stOf [0, 3] [.str s, .int .i64 k'] []) ∧ I'' k' ∧ m'' k' < m'' k) (lp : Lp) (k : Int) : I'' k →
    V2 (fun st => evC T0 (orcB [Z10] []) lp b114 0 st (U0 [0, 3] [2] 0)) (stOf [0, 3] [.str s, .int .i64 k] []) = some r'' :=
 Z5 (fun a'' : Int => stOf [0, 3] [.str s, .int .i64 a''] []) (fun a'' => I'' a'') (fun a'' => m'' a'') r'' (fun a'' => r114 s a'')
  (fun a'' x hx => (Z3o lp s a'').trans hx) (fun a'' ha => Tr.all_mono (fun x'' hx => hx.imp id fun ⟨k', h1, h2, h3⟩ => ⟨(k'), h1, h2, h3⟩) (h (a'') ha)) (k)
theorem Z40 : J3b.Ok T0 (orcB [Z10] []) h114 0 0 b114 := by
 intro q'' hq'' x'' y'' r'' h
 obtain ⟨(s : List UInt8), (k : Int), _⟩ := x''
 obtain ⟨hc, rfl⟩ := Tr.get_on2 h
 show V2 (fun st => evC T0 (orcB [Z10] []) (lpN T0 (orcB [Z10] []) h114 0 q'') b114 0 st (U0 [0, 3] [2] 0)) (stOf [0, 3] [.str s, .int .i64 k] []) = some ((bif J2 s == 0 then (.exit 0, [.dead], []) else (.ret, [.int .i64 (J2 s)], []) : Ex × List AV × List LObj).1, stOf [2] (bif J2 s == 0 then (.exit 0, [.dead], []) else (.ret, [.int .i64 (J2 s)], []) : Ex × List AV × List LObj).2.1 (bif J2 s == 0 then (.exit 0, [.dead], []) else (.ret, [.int .i64 (J2 s)], []) : Ex × List AV × List LObj).2.2)
 simp only [Bool.and_eq_true, decide_eq_true_eq] at hc
 obtain ⟨hb, rfl⟩ := hc
 have hB : s.length ≤ 1000000000000 := by simpa [bigS] using hb
 refine wf114 s (fun k => 1 ≤ k ∧ k ≤ 256 ∧ (J2 s = 0 ∨ k ≤ J2 s)) (fun k => (257 - k).toNat) _ ?_ _ 1 ⟨by omega, by omega, by omega⟩
 rintro k ⟨h1, h2, h3⟩
 unfold r114
 have hwl := Qw s
 have hwm : J2 s ≠ 0 → J2 s ≤ 255 := fun h => by
  have := (J1k (d := s) hwl (U0t h)).2
  omega
 by_cases hk : k ≤ s.length
 · by_cases h255 : k ≤ 255
   · have ht : List.take (Int.toNat k - Int.toNat (0 : Int)) (List.drop (Int.toNat (0 : Int)) s) = s.take k.toNat := rfl
     rw [ht, IntWalk.i64_in _ (by omega)]
     refine Tr.all_t (J0 hk) (Tr.all_t (J0 h255) (Tr.all_t (by rw [J0 (by omega), J0 hk]; rfl) (Tr.all_t (by rw [J0 (by omega), J0 (by omega)]; rfl) (Tr.all_t (by simp [bigS]; omega) (Tr.all_br (fun c => Tr.all_ret (.inl ?_)) fun c => Tr.all_ret (.inr ⟨_, rfl, ⟨by omega, by omega, ?_⟩, by omega⟩))))))
     · obtain ⟨e, _⟩ := J1k (d := s) (by omega) c
       rw [show (J2 s == 0) = false from beq_eq_false_iff_ne.2 (by omega), e, Int.toNat_of_nonneg (by omega)]
       rfl
     · rcases h3 with h3 | h3
       · exact .inl h3
       · by_cases he : k = (J2 s : Int)
         · have := U0t (d := s) (by omega)
           rw [show J2 s = k.toNat by omega, c] at this
           cases this
         · omega
   · have h0 : J2 s = 0 := by
       rcases h3 with h3 | h3
       · exact h3
       · by_cases hz : J2 s = 0
         · exact hz
         · have := hwm hz; omega
     rw [h0]
     exact Tr.all_t (J0 hk) (Tr.all_f (Z0 h255) (Tr.all_ret (.inl rfl)))
 · have h0 : J2 s = 0 := by omega
   rw [h0]
   exact Tr.all_f (Z0 hk) (Tr.all_ret (.inl rfl))
def t114 (s : List UInt8) : Tr Res := .br (bigS s && decide (1 = (1 : Ty.den (Ty.int .i64)))) (.br (J2 s == 0) (.ret ([.int .i64 0], [])) (.ret ([.int .i64 (↑(J2 s) : Int)], []))) .no
def os114 : OSpec := { f := 114, sh := [.d .str false], so := [], F := fun (s, _) _ => t114 s }
theorem fn114 (s : List UInt8) : evC T0 (orcB [Z10] []) (lpOf h114 0 (lsOf [J3b])) c114 1000000 (V1 [.str s] [] Tryz.f114.ntmps) (J1 T0 false 0 Tryz.f114) = (t114 s).get := by kernel_rfl
theorem ok114 : os114.Ok Tryz.prog := by
 refine V3 Q1 tab0 (X0 (all_cons U3l all_nil) all_nil) h114 (d := 0) (n0 := 0) (S := lsOf [J3b]) Tryz.func114 (by kernel_rfl) (c := c114) (by kernel_rfl) rfl (X4 (xs := [(0, b114)]) (by kernel_rfl) (all_cons (V5 Z40) all_nil)) (by omega) (by kernel_rfl) ?_
 intro x'' y'' q'' hq''
 obtain ⟨(s : List UInt8), _⟩ := x''
 exact (fn114 s).trans hq''
def V4l : FSpec := fsT 114 [(.str, false)] [((.int .i64), false)] fun (s, _) => t114 s
theorem X4u : V4l.Ok Tryz.prog := V4 fun x'' r'' hr'' => ok114 x'' () r'' hr''
def J3q : FSpec := V4l.like fun (s, _) => .on (bigS s) ((J2 s : Int), ())
theorem X4e : J3q.Ok Tryz.prog := by
 refine Q3 X4u _ ?_
 rintro ⟨(s : List UInt8), _⟩ y h
 obtain ⟨hb, rfl⟩ := Tr.get_on h
 refine X2 (vs := [.int .i64 (J2 s)]) rfl rfl (Tr.get_of_all ?_)
 show (t114 s).all _
 refine Tr.all_t (by rw [hb]; rfl) (Tr.all_br (fun c1 => Tr.all_ret ?_) fun c1 => Tr.all_ret rfl)
 rw [beq_iff_eq.1 c1]
 rfl
noncomputable def b115 : Code := Z4 c115 0
def X3k : LoopSpec := { bid := 0, sh := [.d .str false], so := [], F := fun (s, _) _ => .on2 (bigS s) (texR s) (.exit 0, [.dead], []) (.ret, [.bool false], []) }
def r115 (s : List UInt8) : Tr (St ⊕ (Ex × St)) := .br (!s == []) (.br (decide (0 < (↑s.length : Int))) (.br (decide (IntKind.wrap .i64 (1 + IntKind.wrap .i64 (↑(UInt8.toNat (s.getD (Int.toNat 0) 0)) : Int)) > (↑s.length : Int))) (.ret (.inr (.ret, stOf [2] [.bool false] []))) (.br (decide (0 ≤ (↑s.length : Int)) && decide ((↑s.length : Int) ≤ (↑s.length : Int))) (.br (decide (0 ≤ IntKind.wrap .i64 (1 + IntKind.wrap .i64 (↑(UInt8.toNat (s.getD (Int.toNat 0) 0)) : Int))) && decide (IntKind.wrap .i64 (1 + IntKind.wrap .i64 (↑(UInt8.toNat (s.getD (Int.toNat 0) 0)) : Int)) ≤ (↑s.length : Int))) (.ret (.inl (stOf [0] [.str (List.take (Int.toNat (↑s.length : Int) - Int.toNat (IntKind.wrap .i64 (1 + IntKind.wrap .i64 (↑(UInt8.toNat (s.getD (Int.toNat 0) 0)) : Int)))) (List.drop (Int.toNat (IntKind.wrap .i64 (1 + IntKind.wrap .i64 (↑(UInt8.toNat (s.getD (Int.toNat 0) 0)) : Int)))) s))] []))) .no) .no)) .no) (.ret (.inr (.exit 0, stOf [2] [.dead] [])))
theorem Z3p (orc : Orc) (lp : Lp) (s : List UInt8) : evC T0 orc lp b115 0 (stOf [0] [.str s] []) (U0 [0] [2] 0) = (r115 s).get := by kernel_rfl
theorem wf115 (orc : Orc) (I'' : List UInt8 → Prop) (m'' : List UInt8 → Nat) (r'' : Ex × St) (h : ∀ (s : List UInt8), I'' s → (r115 s).all fun x'' => x'' = .inr r'' ∨ ∃ (s' : List UInt8), x'' = .inl (stOf [0] [.str s'] []) ∧ I'' s' ∧ m'' s' < m'' s) (lp : Lp) (s : List UInt8) : I'' s →
    V2 (fun st => evC T0 orc lp b115 0 st (U0 [0] [2] 0)) (stOf [0] [.str s] []) = some r'' :=
 Z5 (fun a'' : List UInt8 => stOf [0] [.str a''] []) (fun a'' => I'' a'') (fun a'' => m'' a'') r'' (fun a'' => r115 a'')
  (fun a'' x hx => (Z3p orc lp a'').trans hx) (fun a'' ha => Tr.all_mono (fun x'' hx => hx.imp id fun ⟨s', h1, h2, h3⟩ => ⟨(s'), h1, h2, h3⟩) (h (a'') ha)) (s)
theorem U3z (orc : Orc) : X3k.Ok T0 orc h115 0 0 b115 := by
 intro q'' hq'' x'' y'' r'' h
 obtain ⟨(s : List UInt8), _⟩ := x''
 obtain ⟨hc, rfl⟩ := Tr.get_on2 h
 show V2 (fun st => evC T0 orc (lpN T0 orc h115 0 q'') b115 0 st (U0 [0] [2] 0)) (stOf [0] [.str s] []) = some ((bif texR s then (.exit 0, [.dead], []) else (.ret, [.bool false], []) : Ex × List AV × List LObj).1, stOf [2] (bif texR s then (.exit 0, [.dead], []) else (.ret, [.bool false], []) : Ex × List AV × List LObj).2.1 (bif texR s then (.exit 0, [.dead], []) else (.ret, [.bool false], []) : Ex × List AV × List LObj).2.2)
 refine wf115 _ (fun t => bigS t = true ∧ texR t = texR s) (fun t => t.length) _ ?_ _ s ⟨hc, rfl⟩
 clear hc
 rintro t ⟨hb, h2⟩
 rw [← h2]
 have hB : t.length ≤ 1000000000000 := by simpa [bigS] using hb
 unfold r115
 cases ht : t with
 | nil =>
   rw [J3m]
   exact Tr.all_f rfl (Tr.all_ret (.inl rfl))
 | cons c0 t0 =>
   rw [← ht]
   have hne : t ≠ [] := by rw [ht]; simp
   have hpos := List.length_pos_iff.2 hne
   have hb0 : (↑(UInt8.toNat (List.getD t (Int.toNat (0 : Int)) 0)) : Int) = (byN t 0 : Int) := rfl
   have hbl : byN t 0 < 256 := (t.getD 0 0).toNat_lt
   rw [hb0]
   simp (disch := omega) only [IntWalk.i64_in]
   refine Tr.all_t (by rw [ht]; rfl) (Tr.all_t (J0 (by omega)) (Tr.all_br (fun c => Tr.all_ret (.inl ?_)) fun c => Tr.all_t (by rw [J0 (by omega), J0 (by omega)]; rfl) (Tr.all_t ?_ (Tr.all_ret (.inr ⟨_, rfl, ?_, ?_⟩)))))
   · simp only [decide_eq_true_eq] at c
     rw [Q2y hne (by omega)]
     rfl
   · simp only [decide_eq_false_iff_not] at c
     rw [J0 (by omega), J0 (by omega)]
     rfl
   · simp only [decide_eq_false_iff_not] at c
     have e : List.take (Int.toNat (t.length : Int) - Int.toNat ((1 : Int) + (byN t 0 : Int))) (List.drop (Int.toNat ((1 : Int) + (byN t 0 : Int))) t) = t.drop (1 + byN t 0) := by
      rw [show Int.toNat ((1 : Int) + (byN t 0 : Int)) = 1 + byN t 0 by omega]
      exact List.take_of_length_le (by simp)
     rw [e]
     exact ⟨by simp [bigS]; omega, (V3y hne (by omega)).symm⟩
   · rw [List.length_take, List.length_drop]
     omega
def t115 (s : List UInt8) : Tr Res := .br (s == []) (.ret ([.bool false], [])) (.br (bigS s) (.br (texR s) (.ret ([.bool true], [])) (.ret ([.bool false], []))) .no)
def os115 : OSpec := { f := 115, sh := [.d .str false], so := [], F := fun (s, _) _ => t115 s }
theorem fn115 (s : List UInt8) : evC T0 (orcB [] []) (lpOf h115 0 (lsOf [X3k])) c115 1000000 (V1 [.str s] [] Tryz.f115.ntmps) (J1 T0 false 0 Tryz.f115) = (t115 s).get := by kernel_rfl
theorem ok115 : os115.Ok Tryz.prog := by
 refine V3 Q1 tab0 (X0 all_nil all_nil) h115 (d := 0) (n0 := 0) (S := lsOf [X3k]) Tryz.func115 (by kernel_rfl) (c := c115) (by kernel_rfl) rfl (X4 (xs := [(0, b115)]) (by kernel_rfl) (all_cons (V5 (U3z _)) all_nil)) (by omega) (by kernel_rfl) ?_
 intro x'' y'' q'' hq''
 obtain ⟨(s : List UInt8), _⟩ := x''
 exact (fn115 s).trans hq''
def X4m : FSpec := fsT 115 [(.str, false)] [(.bool, false)] fun (s, _) => t115 s
theorem J4w : X4m.Ok Tryz.prog := V4 fun x'' r'' hr'' => ok115 x'' () r'' hr''
def V3r : FSpec := X4m.like fun (s, _) => .on (bigS s) (Xp s, ())
theorem V4c : V3r.Ok Tryz.prog := by
 refine Q3 J4w _ ?_
 rintro ⟨(s : List UInt8), _⟩ y h
 obtain ⟨hb, rfl⟩ := Tr.get_on h
 refine X2 (vs := [.bool (Xp s)]) rfl rfl (Tr.get_of_all ?_)
 show (t115 s).all _
 unfold t115
 have e : Xp s = (!s.isEmpty && texR s) := rfl
 rw [e]
 cases hs : s with
 | nil => exact Tr.all_t rfl (Tr.all_ret rfl)
 | cons c0 s0 =>
   rw [← hs]
   refine Tr.all_f (by rw [hs]; rfl) (Tr.all_t hb (Tr.all_br (fun c => Tr.all_ret ?_) fun c => Tr.all_ret ?_))
   · rw [c, hs]; rfl
   · rw [c, hs]; rfl
noncomputable def b151 : Code := Z4 c151 0
def Z3a : LoopSpec := { bid := 0, sh := [.d .str false, .d (.int .i64) false, .d (.int .i64) false, .d (.int .i64) false, .d .str false, .d (.int .i64) false], so := [], F := fun (s, at_, end_, many, d, i, _) _ => .on2 (nmsC s many i d) ((nmsV many.toNat s at_ end_ d).1) (.exit 0, [.int .i64 (nmsV many.toNat s at_ end_ d).2.1, .dead, .dead, .str (nmsV many.toNat s at_ end_ d).2.2], []) (.ret, [.int .i64 (nmsV many.toNat s at_ end_ d).2.1, .str [], .int .i64 0, .str (nmsV many.toNat s at_ end_ d).2.2], []) }
def r151 (s : List UInt8) (at_ end_ many : Int) (d : List UInt8) (i : Int) : Tr (St ⊕ (Ex × St)) := .br (decide (i < many)) (.br (bigS s) (.br (tkE (U2 s at_ at_ (-1 : Int) []) != 0) (.ret (.inr (.ret, stOf [1, 8, 9, 10] [.int .i64 at_, .str [], .int .i64 0, .str d] []))) (.br (decide (tkN (U2 s at_ at_ (-1 : Int) []) > end_)) (.ret (.inr (.ret, stOf [1, 8, 9, 10] [.int .i64 at_, .str [], .int .i64 0, .str d] []))) (.br (Nat.ble (List.length d + List.length (tkS (U2 s at_ at_ (-1 : Int) []))) 9223372036854775807) (.ret (.inl (stOf [0, 1, 2, 3, 10, 11] [.str s, .int .i64 (tkN (U2 s at_ at_ (-1 : Int) [])), .int .i64 end_, .int .i64 many, .str (d ++ tkS (U2 s at_ at_ (-1 : Int) [])), .int .i64 (IntKind.wrap .i64 (i + 1))] []))) .no))) .no) (.ret (.inr (.exit 0, stOf [1, 8, 9, 10] [.int .i64 at_, .dead, .dead, .str d] [])))
theorem J3e (lp : Lp) (s : List UInt8) (at_ end_ many : Int) (d : List UInt8) (i : Int) : evC T0 (orcB [Q11] []) lp b151 0 (stOf [0, 1, 2, 3, 10, 11] [.str s, .int .i64 at_, .int .i64 end_, .int .i64 many, .str d, .int .i64 i] []) (U0 [0, 1, 2, 3, 10, 11] [1, 8, 9, 10] 0) = (r151 s at_ end_ many d i).get := by kernel_rfl
theorem wf151 (s : List UInt8) (end_ many : Int) (I'' : Int → List UInt8 → Int → Prop) (m'' : Int → List UInt8 → Int → Nat) (r'' : Ex × St) (h : ∀ (at_ : Int) (d : List UInt8) (i : Int), I'' at_ d i → (r151 s at_ end_ many d i).all fun x'' => x'' = .inr r'' ∨ ∃ (at_' : Int) (d' : List UInt8) (i' : Int), x'' = .inl (stOf [0, 1, 2, 3, 10, 11] [.str s, .int .i64 at_', .int .i64 end_, .int .i64 many, .str d', .int .i64 i'] []) ∧ I'' at_' d' i' ∧ m'' at_' d' i' < m'' at_ d i) (lp : Lp) (at_ : Int) (d : List UInt8) (i : Int) : I'' at_ d i →
    V2 (fun st => evC T0 (orcB [Q11] []) lp b151 0 st (U0 [0, 1, 2, 3, 10, 11] [1, 8, 9, 10] 0)) (stOf [0, 1, 2, 3, 10, 11] [.str s, .int .i64 at_, .int .i64 end_, .int .i64 many, .str d, .int .i64 i] []) = some r'' :=
 Z5 (fun a'' : Int × List UInt8 × Int => stOf [0, 1, 2, 3, 10, 11] [.str s, .int .i64 a''.1, .int .i64 end_, .int .i64 many, .str a''.2.1, .int .i64 a''.2.2] []) (fun a'' => I'' a''.1 a''.2.1 a''.2.2) (fun a'' => m'' a''.1 a''.2.1 a''.2.2) r'' (fun a'' => r151 s a''.1 end_ many a''.2.1 a''.2.2)
  (fun a'' x hx => (J3e lp s a''.1 end_ many a''.2.1 a''.2.2).trans hx) (fun a'' ha => Tr.all_mono (fun x'' hx => hx.imp id fun ⟨at_', d', i', h1, h2, h3⟩ => ⟨(at_', d', i'), h1, h2, h3⟩) (h (a''.1) (a''.2.1) (a''.2.2) ha)) (at_, d, i)
def nmsI (s : List UInt8) (at_ e many a : Int) (d : List UInt8) (i : Int) : Prop := 0 ≤ i ∧ i ≤ many ∧ (d.length : Int) ≤ 255 * i ∧ nmsV (many - i).toNat s a e d = nmsV many.toNat s at_ e []
theorem V48 : Z3a.Ok T0 (orcB [Q11] []) h151 0 0 b151 := by
 intro q'' hq'' x'' y'' r'' h
 obtain ⟨(s : List UInt8), (at_ : Int), (end_ : Int), (many : Int), (d : List UInt8), (i : Int), _⟩ := x''
 obtain ⟨hc, rfl⟩ := Tr.get_on2 h
 show V2 (fun st => evC T0 (orcB [Q11] []) (lpN T0 (orcB [Q11] []) h151 0 q'') b151 0 st (U0 [0, 1, 2, 3, 10, 11] [1, 8, 9, 10] 0)) (stOf [0, 1, 2, 3, 10, 11] [.str s, .int .i64 at_, .int .i64 end_, .int .i64 many, .str d, .int .i64 i] []) = some ((bif (nmsV many.toNat s at_ end_ d).1 then (.exit 0, [.int .i64 (nmsV many.toNat s at_ end_ d).2.1, .dead, .dead, .str (nmsV many.toNat s at_ end_ d).2.2], []) else (.ret, [.int .i64 (nmsV many.toNat s at_ end_ d).2.1, .str [], .int .i64 0, .str (nmsV many.toNat s at_ end_ d).2.2], []) : Ex × List AV × List LObj).1, stOf [1, 8, 9, 10] (bif (nmsV many.toNat s at_ end_ d).1 then (.exit 0, [.int .i64 (nmsV many.toNat s at_ end_ d).2.1, .dead, .dead, .str (nmsV many.toNat s at_ end_ d).2.2], []) else (.ret, [.int .i64 (nmsV many.toNat s at_ end_ d).2.1, .str [], .int .i64 0, .str (nmsV many.toNat s at_ end_ d).2.2], []) : Ex × List AV × List LObj).2.1 (bif (nmsV many.toNat s at_ end_ d).1 then (.exit 0, [.int .i64 (nmsV many.toNat s at_ end_ d).2.1, .dead, .dead, .str (nmsV many.toNat s at_ end_ d).2.2], []) else (.ret, [.int .i64 (nmsV many.toNat s at_ end_ d).2.1, .str [], .int .i64 0, .str (nmsV many.toNat s at_ end_ d).2.2], []) : Ex × List AV × List LObj).2.2)
 simp only [nmsC, Bool.and_eq_true, decide_eq_true_eq, noT, List.isEmpty_iff] at hc
 obtain ⟨hb, hm0, hm3, rfl, rfl⟩ := hc
 have hB : s.length ≤ 1000000000000 := by simpa [bigS] using hb
 refine wf151 s end_ many (nmsI s at_ end_ many) (fun _ _ i => (many - i).toNat) _ ?_ _ at_ [] 0 ⟨by omega, by omega, by simp, by rw [Int.sub_zero]⟩
 rintro a d i ⟨h0, h1, hdl, hF⟩
 rw [← hF]
 unfold r151
 by_cases hi : i < many
 · have e : (many - i).toNat = (many - (i + 1)).toNat + 1 := by omega
   rw [e, nmsV] at hF ⊢
   rw [IntWalk.i64_in _ (by omega)]
   refine Tr.all_t (J0 hi) (Tr.all_t hb ?_)
   cases ho : U2 s a a (-1) [] with
   | none => exact Tr.all_t rfl (Tr.all_ret (.inl rfl))
   | some q =>
     obtain ⟨n, next⟩ := q
     have ha : 0 ≤ a := by
      by_cases ha : a < 0
      · rw [Q1r ha] at ho; cases ho
      · omega
     obtain ⟨p1, p2, p3⟩ := Us ha ho
     have hn := (Q05.1 p1).2.1
     rw [ho] at hF
     simp only at hF ⊢
     refine Tr.all_f rfl (Tr.all_br (fun c => Tr.all_ret (.inl ?_)) fun c => Tr.all_t ?_ (Tr.all_ret (.inr ?_)))
     · have c' : next > end_ := of_decide_eq_true c
       rw [if_pos c']
       rfl
     · simp only [tkS]
       exact Nat.ble_eq_true_of_le (by omega)
     · have c' : ¬ next > end_ := of_decide_eq_false c
       rw [if_neg c'] at hF
       exact ⟨_, _, _, rfl, ⟨by omega, by omega, by simp only [tkS, List.length_append]; omega, hF⟩, by omega⟩
 · have e : (many - i).toNat = 0 := by omega
   rw [e]
   exact Tr.all_f (Z0 hi) (Tr.all_ret (.inl rfl))
def t151 (s : List UInt8) (at_ end_ many : Int) : Tr Res := .br (nmsC s many 0 ([])) (.br (nmsV many.toNat s at_ end_ ([])).1 (.ret ([.str (nmsV many.toNat s at_ end_ ([])).2.2, .int .i64 (nmsV many.toNat s at_ end_ ([])).2.1], [])) (.ret ([.str [], .int .i64 0], []))) .no
def os151 : OSpec := { f := 151, sh := [.d .str false, .d (.int .i64) false, .d (.int .i64) false, .d (.int .i64) false], so := [], F := fun (s, at_, end_, many, _) _ => t151 s at_ end_ many }
theorem fn151 (s : List UInt8) (at_ end_ many : Int) : evC T0 (orcB [Q11] []) (lpOf h151 0 (lsOf [Z3a])) c151 1000000 (V1 [.str s, .int .i64 at_, .int .i64 end_, .int .i64 many] [] Tryz.f151.ntmps) (J1 T0 false 0 Tryz.f151) = (t151 s at_ end_ many).get := by kernel_rfl
theorem ok151 : os151.Ok Tryz.prog := by
 refine V3 Q1 tab0 (X0 (all_cons U38 all_nil) all_nil) h151 (d := 0) (n0 := 0) (S := lsOf [Z3a]) Tryz.func151 (by kernel_rfl) (c := c151) (by kernel_rfl) rfl (X4 (xs := [(0, b151)]) (by kernel_rfl) (all_cons (V5 V48) all_nil)) (by omega) (by kernel_rfl) ?_
 intro x'' y'' q'' hq''
 obtain ⟨(s : List UInt8), (at_ : Int), (end_ : Int), (many : Int), _⟩ := x''
 exact (fn151 s at_ end_ many).trans hq''
def X4i : FSpec := fsT 151 [(.str, false), ((.int .i64), false), ((.int .i64), false), ((.int .i64), false)] [(.str, false), ((.int .i64), false)] fun (s, at_, end_, many, _) => t151 s at_ end_ many
theorem X4z : X4i.Ok Tryz.prog := V4 fun x'' r'' hr'' => ok151 x'' () r'' hr''
noncomputable def b150 : Code := Z4 c150 0
def V3t : LoopSpec := { bid := 0, sh := [.d .str false, .d (.int .i64) false, .d (.int .i64) false, .row 0, .d (.int .i64) false], so := [.row (.int .u8)], F := fun (s, at_, many, i, _) (b, _) => .on (smC s at_ many i b) (.exit 0, [.int .i64 at_, .int .i64 many, .rowA 0], [.row (.int .u8) (V0 (Z1 s at_ many))]) }
def r150 (s : List UInt8) (at_ many i : Int) (b : List Int) : Tr (St ⊕ (Ex × St)) := .br (decide (i < many)) (.br (decide (0 ≤ IntKind.wrap .i64 (at_ + i))) (.br (decide (IntKind.wrap .i64 (at_ + i) < (↑s.length : Int))) (.br (fits (List.length b + 1) 1) (.ret (.inl (stOf [0, 1, 2, 9, 10] [.str s, .int .i64 at_, .int .i64 many, .rowA 0, .int .i64 (IntKind.wrap .i64 (i + 1))] [.row (.int .u8) (b ++ [(↑(UInt8.toNat (s.getD (Int.toNat (IntKind.wrap .i64 (at_ + i))) 0)) : Int)])]))) .no) .no) .no) (.ret (.inr (.exit 0, stOf [1, 2, 9] [.int .i64 at_, .int .i64 many, .rowA 0] [.row (.int .u8) b])))
theorem Q3s (orc : Orc) (lp : Lp) (s : List UInt8) (at_ many i : Int) (b : List Int) : evC T0 orc lp b150 0 (stOf [0, 1, 2, 9, 10] [.str s, .int .i64 at_, .int .i64 many, .rowA 0, .int .i64 i] [.row (.int .u8) b]) (U0 [0, 1, 2, 9, 10] [1, 2, 9] 0) = (r150 s at_ many i b).get := by kernel_rfl
theorem wf150 (orc : Orc) (s : List UInt8) (at_ many : Int) (I'' : Int → List Int → Prop) (m'' : Int → List Int → Nat) (r'' : Ex × St) (h : ∀ (i : Int) (b : List Int), I'' i b → (r150 s at_ many i b).all fun x'' => x'' = .inr r'' ∨ ∃ (i' : Int) (b' : List Int), x'' = .inl (stOf [0, 1, 2, 9, 10] [.str s, .int .i64 at_, .int .i64 many, .rowA 0, .int .i64 i'] [.row (.int .u8) b']) ∧ I'' i' b' ∧ m'' i' b' < m'' i b) (lp : Lp) (i : Int) (b : List Int) : I'' i b →
    V2 (fun st => evC T0 orc lp b150 0 st (U0 [0, 1, 2, 9, 10] [1, 2, 9] 0)) (stOf [0, 1, 2, 9, 10] [.str s, .int .i64 at_, .int .i64 many, .rowA 0, .int .i64 i] [.row (.int .u8) b]) = some r'' :=
 Z5 (fun a'' : Int × List Int => stOf [0, 1, 2, 9, 10] [.str s, .int .i64 at_, .int .i64 many, .rowA 0, .int .i64 a''.1] [.row (.int .u8) a''.2]) (fun a'' => I'' a''.1 a''.2) (fun a'' => m'' a''.1 a''.2) r'' (fun a'' => r150 s at_ many a''.1 a''.2)
  (fun a'' x hx => (Q3s orc lp s at_ many a''.1 a''.2).trans hx) (fun a'' ha => Tr.all_mono (fun x'' hx => hx.imp id fun ⟨i', b', h1, h2, h3⟩ => ⟨(i', b'), h1, h2, h3⟩) (h (a''.1) (a''.2) ha)) (i, b)
theorem X3z (orc : Orc) : V3t.Ok T0 orc h150 0 0 b150 := by
 intro q'' hq'' x'' y'' r'' h
 obtain ⟨(s : List UInt8), (at_ : Int), (many : Int), (i : Int), _⟩ := x''
 obtain ⟨(b : List Int), _⟩ := y''
 obtain ⟨hc, rfl⟩ := Tr.get_on h
 show V2 (fun st => evC T0 orc (lpN T0 orc h150 0 q'') b150 0 st (U0 [0, 1, 2, 9, 10] [1, 2, 9] 0)) (stOf [0, 1, 2, 9, 10] [.str s, .int .i64 at_, .int .i64 many, .rowA 0, .int .i64 i] [.row (.int .u8) b]) = some (.exit 0, stOf [1, 2, 9] ([.int .i64 at_, .int .i64 many, .rowA 0]) ([.row (.int .u8) (V0 (Z1 s at_ many))]))
 simp only [smC, Bool.and_eq_true, decide_eq_true_eq, List.isEmpty_iff] at hc
 obtain ⟨hb, hs, rfl, rfl⟩ := hc
 have hB : s.length ≤ 1000000000000 := by simpa [bigS] using hb
 have hs' := V6.1 hs
 refine wf150 _ s at_ many (fun i b => 0 ≤ i ∧ i ≤ many ∧ b = V0 (Z1 s at_ i)) (fun i _ => (many - i).toNat) _ ?_ _ 0 [] ⟨by omega, by omega, by simp [Z1, V0]⟩
 rintro i b ⟨h0, h1, rfl⟩
 unfold r150
 by_cases hi : i < many
 · have hl : (Z1 s at_ i).length = i.toNat := by unfold Z1; rw [List.length_take, List.length_drop]; omega
   rw [IntWalk.i64_in (at_ + i) (by omega), IntWalk.i64_in (i + 1) (by omega)]
   refine Tr.all_t (J0 hi) (Tr.all_t (J0 (by omega)) (Tr.all_t (J0 (by omega)) (Tr.all_t (U5 (by rw [Jc]; omega) (by rw [Jc]; omega)) (Tr.all_ret (.inr ⟨_, _, rfl, ⟨by omega, by omega, ?_⟩, by omega⟩)))))
   have e : Z1 s at_ (i + 1) = Z1 s at_ i ++ [s.getD (at_ + i).toNat 0] := by
    unfold Z1
    rw [show (i + 1).toNat = i.toNat + 1 by omega, List.take_add_one, List.getElem?_drop, show at_.toNat + i.toNat = (at_ + i).toNat by omega, List.getD_eq_getElem?_getD, List.getElem?_eq_getElem (by omega)]
    rfl
   rw [e, X1u]
   rfl
 · have : i = many := by omega
   subst this
   exact Tr.all_f (Z0 hi) (Tr.all_ret (.inl rfl))
def t150 (s : List UInt8) (at_ many : Int) : Tr Res := .br (decide (at_ ≥ 0)) (.br (decide (at_ ≤ (↑s.length : Int))) (.br (decide (many ≥ 0)) (.br (decide (many ≤ (↑s.length : Int))) (.br (!decide (IntKind.wrap .i64 (at_ + many) ≤ (↑s.length : Int))) (.ret ([.str [], .int .i64 0, .int .i64 2], [])) (.br (smC s at_ many 0 []) (.ret ([.str (U1 (V0 (Z1 s at_ many))), .int .i64 (IntKind.wrap .i64 (at_ + many)), .int .i64 0], [])) .no)) (.ret ([.str [], .int .i64 0, .int .i64 2], []))) (.ret ([.str [], .int .i64 0, .int .i64 2], []))) (.ret ([.str [], .int .i64 0, .int .i64 2], []))) (.ret ([.str [], .int .i64 0, .int .i64 2], []))
def os150 : OSpec := { f := 150, sh := [.d .str false, .d (.int .i64) false, .d (.int .i64) false], so := [], F := fun (s, at_, many, _) _ => t150 s at_ many }
theorem fn150 (s : List UInt8) (at_ many : Int) : evC T0 (orcB [fs94] []) (lpOf h150 0 (lsOf [V3t])) c150 1000000 (V1 [.str s, .int .i64 at_, .int .i64 many] [] Tryz.f150.ntmps) (J1 T0 false 0 Tryz.f150) = (t150 s at_ many).get := by kernel_rfl
theorem ok150 : os150.Ok Tryz.prog := by
 refine V3 Q1 tab0 (X0 (all_cons U3i all_nil) all_nil) h150 (d := 0) (n0 := 0) (S := lsOf [V3t]) Tryz.func150 (by kernel_rfl) (c := c150) (by kernel_rfl) rfl (X4 (xs := [(0, b150)]) (by kernel_rfl) (all_cons (V5 (X3z _)) all_nil)) (by omega) (by kernel_rfl) ?_
 intro x'' y'' q'' hq''
 obtain ⟨(s : List UInt8), (at_ : Int), (many : Int), _⟩ := x''
 exact (fn150 s at_ many).trans hq''
def V4j : FSpec := fsT 150 [(.str, false), ((.int .i64), false), ((.int .i64), false)] [(.str, false), ((.int .i64), false), ((.int .i64), false)] fun (s, at_, many, _) => t150 s at_ many
theorem Q4x : V4j.Ok Tryz.prog := V4 fun x'' r'' hr'' => ok150 x'' () r'' hr''
def Z3b : FSpec := V4j.like fun (s, at_, many, _) => .br (bigS s) (.br (Q0 s at_ many) (.ret (Z1 s at_ many, at_ + many, (0 : Int), ())) (.ret (([] : List UInt8), (0 : Int), (2 : Int), ()))) .no
theorem U40 : Z3b.Ok Tryz.prog := by
 refine Q3 Q4x _ ?_
 rintro ⟨(s : List UInt8), (at_ : Int), (many : Int), _⟩ y h
 simp only [Tr.get] at h
 cases hb : bigS s with
 | false => rw [hb] at h; cases h
 | true =>
   rw [hb, cond_true] at h
   have hB : s.length ≤ 1000000000000 := by simpa [bigS] using hb
   cases hs : Q0 s at_ many with
   | true =>
     rw [hs, cond_true] at h
     cases h
     have hs' := V6.1 hs
     refine X2 (vs := [.str (Z1 s at_ many), .int .i64 (at_ + many), .int .i64 0]) rfl rfl (Tr.get_of_all ?_)
     show (t150 s at_ many).all _
     unfold t150
     rw [IntWalk.i64_in _ (by omega), V0k]
     exact Tr.all_t (J0 (by omega)) (Tr.all_t (J0 (by omega)) (Tr.all_t (J0 (by omega)) (Tr.all_t (J0 (by omega)) (Tr.all_f (by rw [J0 (by omega)]; rfl) (Tr.all_t (by simp [smC, hb, hs]) (Tr.all_ret rfl))))))
   | false =>
     rw [hs, cond_false] at h
     cases h
     refine X2 (vs := [.str [], .int .i64 0, .int .i64 2]) rfl rfl (Tr.get_of_all ?_)
     show (t150 s at_ many).all _
     unfold t150
     have hn : ¬ (0 ≤ at_ ∧ 0 ≤ many ∧ at_ + many ≤ s.length) := fun hh => by
      rw [V6.2 hh] at hs
      cases hs
     refine Tr.all_br (fun c1 => Tr.all_br (fun c2 => Tr.all_br (fun c3 => Tr.all_br (fun c4 => Tr.all_t ?_ (Tr.all_ret rfl)) fun _ => Tr.all_ret rfl) fun _ => Tr.all_ret rfl) fun _ => Tr.all_ret rfl) fun _ => Tr.all_ret rfl
     simp only [decide_eq_true_eq] at c1 c2 c3 c4
     rw [IntWalk.i64_in _ (by omega), Z0 (by omega)]
     rfl
def t73 (k : Int) (d : List UInt8) : Tr Res := .br (decide ((↑d.length : Int) > 65535)) (.ret ([.bool false], [])) (.br (k == 1) (.ret ([.bool ((↑d.length : Int) == 4)], [])) (.br (k == 28) (.ret ([.bool ((↑d.length : Int) == 16)], [])) (.br (k == 2) (.br (bigS d) (.ret ([.bool (mayV d)], [])) .no) (.br (k == 5) (.br (bigS d) (.ret ([.bool (mayV d)], [])) .no) (.br (k == 12) (.br (bigS d) (.ret ([.bool (mayV d)], [])) .no) (.br (k == 15) (.br (decide ((↑d.length : Int) > 2)) (.br (decide (0 ≤ (↑d.length : Int)) && decide ((↑d.length : Int) ≤ (↑d.length : Int))) (.br (decide (0 ≤ 2) && decide (2 ≤ (↑d.length : Int))) (.br (bigS (List.take (Int.toNat (↑d.length : Int) - Int.toNat 2) (List.drop (Int.toNat 2) d))) (.ret ([.bool (mayV (List.take (Int.toNat (↑d.length : Int) - Int.toNat 2) (List.drop (Int.toNat 2) d)))], [])) .no) .no) .no) (.ret ([.bool false], []))) (.br (k == 6) (.br (bigS d) (.br (decide (0 ≤ (↑d.length : Int)) && decide ((↑d.length : Int) ≤ (↑d.length : Int))) (.br (decide (0 ≤ (↑(J2 d) : Int)) && decide ((↑(J2 d) : Int) ≤ (↑d.length : Int))) (.br (bigS (List.take (Int.toNat (↑d.length : Int) - Int.toNat (↑(J2 d) : Int)) (List.drop (Int.toNat (↑(J2 d) : Int)) d))) (.br (decide ((↑(J2 d) : Int) > 0)) (.br (decide ((↑(J2 (List.take (Int.toNat (↑d.length : Int) - Int.toNat (↑(J2 d) : Int)) (List.drop (Int.toNat (↑(J2 d) : Int)) d))) : Int) > 0)) (.ret ([.bool ((↑d.length : Int) == IntKind.wrap .i64 (IntKind.wrap .i64 ((↑(J2 d) : Int) + (↑(J2 (List.take (Int.toNat (↑d.length : Int) - Int.toNat (↑(J2 d) : Int)) (List.drop (Int.toNat (↑(J2 d) : Int)) d))) : Int)) + 20))], [])) (.ret ([.bool false], []))) (.ret ([.bool false], []))) .no) .no) .no) .no) (.br (k == 16) (.br (bigS d) (.ret ([.bool (Xp d)], [])) .no) (.ret ([.bool true], []))))))))))
def os73 : OSpec := { f := 73, sh := [.d (.int .u16) false, .d .str false], so := [], F := fun (k, d, _) _ => t73 k d }
theorem fn73 (k : Int) (d : List UInt8) : evC T0 (orcB [J3q, V3r, Z10] []) (lpOf h73 0 (lsOf [])) c73 1000000 (V1 [.int .u16 k, .str d] [] Tryz.f73.ntmps) (J1 T0 false 0 Tryz.f73) = (t73 k d).get := by kernel_rfl
theorem ok73 : os73.Ok Tryz.prog := by
 refine V3 Q1 tab0 (X0 (all_cons X4e (all_cons V4c (all_cons U3l all_nil))) all_nil) h73 (d := 0) (n0 := 0) (S := lsOf []) Tryz.func73 (by kernel_rfl) (c := c73) (by kernel_rfl) rfl (Z3 (by kernel_rfl)) (by omega) (by kernel_rfl) ?_
 intro x'' y'' q'' hq''
 obtain ⟨(k : Int), (d : List UInt8), _⟩ := x''
 exact (fn73 k d).trans hq''
def fs73 : FSpec := fsT 73 [((.int .u16), false), (.str, false)] [(.bool, false)] fun (k, d, _) => t73 k d
theorem okf73 : fs73.Ok Tryz.prog := V4 fun x'' r'' hr'' => ok73 x'' () r'' hr''
def U4k : FSpec := fs73.like fun (k, d, _) => .on (bigS d) (mayR k d, ())
theorem X4s : U4k.Ok Tryz.prog := by
 refine Q3 okf73 _ ?_
 rintro ⟨(k : Int), (d : List UInt8), _⟩ y h
 obtain ⟨hb, rfl⟩ := Tr.get_on h
 refine X2 (vs := [.bool (mayR k d)]) rfl rfl (Tr.get_of_all ?_)
 show (t73 k d).all _
 unfold t73
 have hB : d.length ≤ 1000000000000 := by simpa [bigS] using hb
 by_cases hl : (d.length : Int) > 65535
 · have hf : Nat.ble d.length 65535 = false := by rw [X0r]; exact Z0 (by omega)
   have : mayR k d = false := by rw [Vs, hf, Bool.and_false]
   rw [this]
   exact Tr.all_t (J0 hl) (Tr.all_ret rfl)
 have ht : Nat.ble d.length 65535 = true := Nat.ble_eq_true_of_le (by omega)
 refine Tr.all_f (Z0 hl) ?_
 by_cases k1 : k = 1
 · subst k1
   rw [J4i, ht, Bool.and_true]
   exact Tr.all_t rfl (Tr.all_ret rfl)
 refine Tr.all_f (beq_eq_false_iff_ne.2 k1) ?_
 by_cases k2 : k = 28
 · subst k2
   rw [J27, ht, Bool.and_true]
   exact Tr.all_t rfl (Tr.all_ret rfl)
 refine Tr.all_f (beq_eq_false_iff_ne.2 k2) ?_
 by_cases k3 : k = 2
 · rw [U0p (.inl k3), ht, Bool.and_true]
   exact Tr.all_t (beq_iff_eq.2 k3) (Tr.all_t hb (Tr.all_ret rfl))
 refine Tr.all_f (beq_eq_false_iff_ne.2 k3) ?_
 by_cases k4 : k = 5
 · rw [U0p (.inr (.inl k4)), ht, Bool.and_true]
   exact Tr.all_t (beq_iff_eq.2 k4) (Tr.all_t hb (Tr.all_ret rfl))
 refine Tr.all_f (beq_eq_false_iff_ne.2 k4) ?_
 by_cases k5 : k = 12
 · rw [U0p (.inr (.inr k5)), ht, Bool.and_true]
   exact Tr.all_t (beq_iff_eq.2 k5) (Tr.all_t hb (Tr.all_ret rfl))
 refine Tr.all_f (beq_eq_false_iff_ne.2 k5) ?_
 have hsub : ∀ a : Nat, List.take (Int.toNat (↑(List.length d) : Int) - Int.toNat (a : Int)) (List.drop (Int.toNat (a : Int)) d) = d.drop a := fun a => List.take_of_length_le (by simp)
 by_cases k6 : k = 15
 · subst k6
   rw [U51, ht, Bool.and_true]
   refine Tr.all_t rfl (Tr.all_br (fun c => ?_) fun c => Tr.all_ret ?_)
   · simp only [decide_eq_true_eq] at c
     rw [show (2 : Int) = ((2 : Nat) : Int) from rfl, hsub 2]
     rw [J0 (show ((2 : Nat) : Int) ≤ d.length by omega)]
     exact Tr.all_t (by rw [J0 (by omega), J0 (by omega)]; rfl) (Tr.all_t (by rw [J0 (by omega)]; rfl) (Tr.all_t (by simp [bigS]; omega) (Tr.all_ret rfl)))
   · simp only [decide_eq_false_iff_not] at c
     have : (decide ((2 : Int) ≤ d.length) && mayV (d.drop 2)) = false := by
      by_cases h2 : d.length = 2
      · rw [List.drop_eq_nil_of_le (by omega)]
        rw [X2t, Bool.and_false]
      · rw [Z0 (by omega), Bool.false_and]
     rw [this]
 refine Tr.all_f (beq_eq_false_iff_ne.2 k6) ?_
 by_cases k7 : k = 6
 · subst k7
   have hw := Qw d
   have hw2 := Qw (d.drop (J2 d))
   rw [List.length_drop] at hw2
   rw [J3z, ht, Bool.and_true, hsub]
   refine Tr.all_t rfl (Tr.all_t hb (Tr.all_t (by rw [J0 (by omega), J0 (by omega)]; rfl) (Tr.all_t (by rw [J0 (by omega), J0 (by omega)]; rfl) (Tr.all_t (by simp [bigS]; omega) (Tr.all_br (fun c1 => Tr.all_br (fun c2 => Tr.all_ret ?_) fun c2 => Tr.all_ret ?_) fun c1 => Tr.all_ret ?_)))))
   · simp only [decide_eq_true_eq] at c1 c2
     rw [IntWalk.i64_in ((J2 d : Int) + (J2 (d.drop (J2 d)) : Int)) (by omega), IntWalk.i64_in _ (by omega), Z0 (show ¬ J2 d = 0 by omega), Z0 (show ¬ J2 (d.drop (J2 d)) = 0 by omega)]
     simp only [Bool.not_false, Bool.true_and, List.length_drop]
     congr 3
     rw [Bool.eq_iff_iff]
     simp
     omega
   · simp only [decide_eq_false_iff_not] at c2
     rw [J0 (show J2 (d.drop (J2 d)) = 0 by omega)]
     simp
   · simp only [decide_eq_false_iff_not] at c1
     rw [J0 (show J2 d = 0 by omega)]
     rfl
 refine Tr.all_f (beq_eq_false_iff_ne.2 k7) ?_
 by_cases k8 : k = 16
 · subst k8
   rw [Z49, ht, Bool.and_true]
   exact Tr.all_t rfl (Tr.all_t hb (Tr.all_ret rfl))
 rw [V44 ⟨k1, k2, k3, k4, k5, k6, k7, k8⟩, ht]
 exact Tr.all_f (beq_eq_false_iff_ne.2 k8) (Tr.all_ret rfl)
end Go.Proofs.YtpledbapngdkeaaGreatE
