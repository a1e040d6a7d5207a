/- The engine, part 25: the table is the program's; laws. -/
import Derived.Test.YtfepkpindchleaaE24
import Derived.WideShapes
import Derived.Below
import Derived.Carry
namespace Go.Proofs.YtfepkpindchleaaE
open Go
set_option linter.unusedVariables false
set_option linter.unusedSimpArgs false
open Go.Proofs.Ytfepkpindchleaa.Rows (uptoBulk uptoBulkAll)

def pairsEq : List (Nat × Nat) → List (Nat × Nat) → Bool
  | [], [] => true
  | a :: r, b :: q => Nat.beq a.1 b.1 && Nat.beq a.2 b.2 && pairsEq r q
  | _, _ => false
theorem pairsEq_eq : ∀ {a b : List (Nat × Nat)}, pairsEq a b = true → a = b
  | [], [], _ => rfl
  | (x, y) :: r, (u, v) :: q, h => by
    simp only [pairsEq, Bool.and_eq_true] at h
    rw [pairsEq_eq h.2, Nat.eq_of_beq_eq_true h.1.1, Nat.eq_of_beq_eq_true h.1.2]
  | [], _ :: _, h => by simp [pairsEq] at h
  | _ :: _, [], h => by simp [pairsEq] at h

def descChk (P : Program) (t : Nat) (d : TD) : Bool :=
  match d, P.underlying t with
  | .bool, some .bool => true
  | .int k, some (.int k') => decide (k' = k)
  | .str, some .string => true
  | .ptr e, some (.pointer e') => Nat.beq e' e
  | .slice e, some (.slice e') => Nat.beq e' e
  | .array n e, some (.array n' e') => Nat.beq n' n && Nat.beq e' e
  | .struct fs, some (.struct fields) => pairsEq (fields.toList.map fun f => (f.offset, f.type)) fs && (fields.toList.all fun f => !(f.name == "_")) && !P.stoodInHeld t && !P.eqGuardType P.depth t
  | .map k e, some (.map k' e') => Nat.beq k' k && Nat.beq e' e
  | .func, some (.func _ _ _) => true
  | .other, some (.struct _) => false
  | .other, some (.array _ _) => false
  | .other, some _ => true
  | _, _ => false

theorem descChk_ok {P : Program} {t : Nat} {d : TD} (h : descChk P t d = true) : DescOk P t d := by
  unfold descChk at h
  split at h
  · rename_i hu; exact hu
  · rename_i k k' hu
    have := of_decide_eq_true h
    subst this
    exact hu
  · rename_i hu; exact hu
  · rename_i e e' hu
    have := Nat.eq_of_beq_eq_true h
    subst this
    exact hu
  · rename_i e e' hu
    have := Nat.eq_of_beq_eq_true h
    subst this
    exact hu
  · rename_i n e n' e' hu
    simp only [Bool.and_eq_true] at h
    have h1 := Nat.eq_of_beq_eq_true h.1
    have h2 := Nat.eq_of_beq_eq_true h.2
    subst h1 h2
    exact hu
  · rename_i fs fields hu
    simp only [Bool.and_eq_true, Bool.not_eq_true'] at h
    refine ⟨fields, hu, pairsEq_eq h.1.1.1, fun f hf => ?_, h.1.2, h.2⟩
    have := List.all_eq_true.1 h.1.1.2 f hf
    simpa using this
  · rename_i k e k' e' hu
    simp only [Bool.and_eq_true] at h
    have h1 := Nat.eq_of_beq_eq_true h.1
    have h2 := Nat.eq_of_beq_eq_true h.2
    subst h1 h2
    exact hu
  · rename_i a b c hu; exact ⟨a, b, c, hu⟩
  · cases h
  · cases h
  · rename_i d hn1 hn2 hu
    exact ⟨_, hu, fun fs e => hn1 fs (by rw [e]), fun n e he => hn2 n e (by rw [he])⟩
  · cases h

def cellChk : AV → Value → Bool
  | .int k n, .int k' n' => decide (k = k') && decide (n = n')
  | .bool b, .bool b' => b == b'
  | .str s, .string s' => s.isEmpty && Nat.beq s'.size 0
  | .np, .pointer none => true
  | .ns, .slice none 0 0 => true
  | .nm, .map none => true
  | .nf, .nilFunc => true
  | _, _ => false
theorem bytes_empty {s : ByteArray} (h : s.size = 0) : s = ⟨#[]⟩ := by
  have : s.data.size = 0 := h
  obtain ⟨d⟩ := s
  have h2 : d = #[] := Array.eq_empty_of_size_eq_zero this
  rw [h2]
theorem cellChk_ok {x : AV} {v : Value} (h : cellChk x v = true) (μ : Nat → Pl) (F : Nat → Prop) (w : World) : VRel μ F w x v ∧ v.oneCell' = true := by
  unfold cellChk at h
  split at h
  · simp only [Bool.and_eq_true, decide_eq_true_eq] at h
    obtain ⟨rfl, rfl⟩ := h
    exact ⟨by simp [VRel], rfl⟩
  · have := eq_of_beq h
    subst this
    exact ⟨by simp [VRel], rfl⟩
  · simp only [Bool.and_eq_true, List.isEmpty_iff] at h
    obtain ⟨rfl, h2⟩ := h
    have := bytes_empty (Nat.eq_of_beq_eq_true h2)
    subst this
    exact ⟨by simp [VRel], rfl⟩
  · exact ⟨by simp [VRel], rfl⟩
  · exact ⟨by simp [VRel], rfl⟩
  · exact ⟨by simp [VRel], rfl⟩
  · exact ⟨by simp [VRel], rfl⟩
  · cases h
def cellsChk : List AV → List Value → Bool
  | [], [] => true
  | x :: xs, v :: vs => cellChk x v && cellsChk xs vs
  | _, _ => false
theorem cellsChk_ok : ∀ {xs : List AV} {vs : List Value}, cellsChk xs vs = true → (∀ μ F w, VRelL μ F w xs vs) ∧ ∀ v ∈ vs, v.oneCell' = true
  | [], [], _ => ⟨fun _ _ _ => by simp [VRelL], by simp⟩
  | x :: xs, v :: vs, h => by
    simp only [cellsChk, Bool.and_eq_true] at h
    have h1 := fun μ F w => cellChk_ok h.1 μ F w
    have h2 := cellsChk_ok h.2
    refine ⟨fun μ F w => by simp only [VRelL]; exact ⟨v, vs, rfl, (h1 μ F w).1, h2.1 μ F w⟩, fun u hu => ?_⟩
    rcases List.mem_cons.1 hu with rfl | hu
    · exact (h1 (fun _ => .none) (fun _ => False) default).2
    · exact h2.2 u hu
  | [], _ :: _, h => by simp [cellsChk] at h
  | _ :: _, [], h => by simp [cellsChk] at h

/-- The zero value's cells, off the front. -/
def zeroEnc : Ty → List Value → Option (List Value)
  | .int k, .int k' n :: r => if k' = k ∧ n = 0 then some r else none
  | .bool, .bool false :: r => some r
  | .str, .string s :: r => if s.size = 0 then some r else none
  | .unit, r => some r
  | .list _, .slice none 0 0 :: r => some r
  | .pair a b, r => match zeroEnc a r with | some r => zeroEnc b r | none => none
  | _, _ => none
theorem zeroEnc_ok {F : Nat → Prop} {w : World} : ∀ (τ : Ty) (cs r : List Value), zeroEnc τ cs = some r → ∃ us, cs = us ++ r ∧ Enc F w τ τ.dflt us
  | .int k, cs, r, h => by
    unfold zeroEnc at h
    split at h <;> simp_all
    obtain ⟨⟨rfl, rfl⟩, rfl⟩ := h
    exact ⟨[_], rfl, by simp only [Enc]; simp_all [Ty.dflt]⟩
  | .bool, cs, r, h => by
    unfold zeroEnc at h
    split at h <;> simp_all
    exact ⟨[_], rfl, rfl⟩
  | .str, cs, r, h => by
    unfold zeroEnc at h
    split at h <;> simp_all
    obtain ⟨hs, rfl⟩ := h
    subst hs
    exact ⟨[_], rfl, rfl⟩
  | .unit, cs, r, h => by
    simp only [zeroEnc, Option.some.injEq] at h
    subst h
    exact ⟨[], rfl, rfl⟩
  | .list t, cs, r, h => by
    unfold zeroEnc at h
    split at h <;> simp_all
    exact ⟨[_], rfl, none, 0, rfl, Nat.le_refl _, fun _ => rfl, fun a ha => by cases ha⟩
  | .pair a b, cs, r, h => by
    simp only [zeroEnc] at h
    split at h
    · rename_i r1 h1
      obtain ⟨us, rfl, e1⟩ := zeroEnc_ok a cs r1 h1
      obtain ⟨us', rfl, e2⟩ := zeroEnc_ok b r1 r h
      exact ⟨us ++ us', by rw [List.append_assoc], us, us', rfl, e1, e2⟩
    · cases h

def oneChk : Value → Bool
  | .agg _ => false
  | _ => true
theorem oneChk_ok {z : Value} (h : oneChk z = true) : z.cells = #[z] := by
  cases z <;> first | rfl | cases h
def plainChk (P : Program) (t : Nat) (r : Row) : Bool := r.desc.agg || (match P.info? t with | some i => (match i.zero with | some z => oneChk z | none => true) | none => true)
theorem plainChk_ok {P : Program} {t : Nat} {r : Row} (h : plainChk P t r = true) : r.desc.agg = false → ∀ i z, P.info? t = some i → i.zero = some z → z.cells = #[z] := by
  intro ha i z hi hz
  unfold plainChk at h
  rw [ha, hi, Bool.false_or] at h
  simp only [hz] at h
  exact oneChk_ok h
def byteChk (t : Nat) (r : Row) : Bool := (match r.ty with | some (.int .u8) => Nat.beq t 5 | _ => true) && (match r.desc with | .int .u8 => Nat.beq t 5 | _ => true)
theorem byteChk_ok {t : Nat} {r : Row} (h : byteChk t r = true) : r.ty = some (.int .u8) ∨ r.desc = .int .u8 → t = 5 := by
  intro hr
  unfold byteChk at h
  rw [Bool.and_eq_true] at h
  rcases hr with hr | hr
  · rw [hr] at h; exact Nat.eq_of_beq_eq_true h.1
  · rw [hr] at h; exact Nat.eq_of_beq_eq_true h.2
def rowChk (P : Program) (t : Nat) (r : Row) : Bool :=
  (descChk P t r.desc && (byteChk t r && plainChk P t r)) && (match P.info? t with
    | some i => Nat.beq i.size r.size && Nat.beq i.bytes r.bytes && (match i.zero with
      | some z => Nat.beq z.cells.size r.size && cellsChk r.zero z.cells.toList && (match r.ty with
        | some τ => (match zeroEnc τ z.cells.toList with | some [] => true | _ => false)
        | none => true)
      | none => false)
    | none => false)

theorem rowChk_ok {P : Program} {t : Nat} {r : Row} (h : rowChk P t r = true) : RowOk P t r := by
  unfold rowChk at h
  rw [Bool.and_eq_true] at h
  obtain ⟨h1, h2⟩ := h
  simp only [Bool.and_eq_true] at h1
  refine ⟨descChk_ok h1.1, ?_, byteChk_ok h1.2.1, plainChk_ok h1.2.2⟩
  split at h2
  · rename_i i hi
    simp only [Bool.and_eq_true] at h2
    obtain ⟨⟨a1, a2⟩, h3⟩ := h2
    split at h3
    · rename_i z hz
      simp only [Bool.and_eq_true] at h3
      obtain ⟨⟨b1, b2⟩, h4⟩ := h3
      have hc := cellsChk_ok b2
      refine ⟨i, z, hi, Nat.eq_of_beq_eq_true a1, Nat.eq_of_beq_eq_true a2, hz, Nat.eq_of_beq_eq_true b1, hc.1, hc.2, fun τ hτ F w => ?_⟩
      rw [hτ] at h4
      simp only at h4
      split at h4
      · rename_i hz0
        obtain ⟨us, e1, e2⟩ := zeroEnc_ok (F := F) (w := w) τ _ _ hz0
        rw [e1, List.append_nil]
        exact e2
      · cases h4
    · cases h3
  · cases h2

def lookR : List (Nat × Row) → Nat → Option Row
  | [], _ => none
  | (k, r) :: rs, t => bif t == k then some r else lookR rs t
theorem lookR_mem : ∀ {rs : List (Nat × Row)} {t : Nat} {r : Row}, lookR rs t = some r → (t, r) ∈ rs
  | [], t, r, h => by simp [lookR] at h
  | (k, r') :: rs, t, r, h => by
    simp only [lookR] at h
    cases he : t == k with
    | true =>
      rw [he] at h
      have := eq_of_beq he
      subst this
      cases h
      simp
    | false =>
      rw [he] at h
      exact List.mem_cons_of_mem _ (lookR_mem h)
theorem tab_live {P : Program} {T : Tab} (h : TabOk P T) (l m : Nat → Option (List Nat)) : TabOk P { T with live := l, mid := m } := h
theorem tab_nild {P : Program} {T : Tab} (h : TabOk P T) (l m : Nat → Option (List Nat)) : TabOk P { T with live := l, mid := m, nild := true } := h
theorem tab_ok {P : Program} {rs : List (Nat × Row)} (h : rs.all (fun p => rowChk P p.1 p.2) = true) : TabOk P { row := lookR rs } :=
  fun t r hr => rowChk_ok (List.all_eq_true.1 h (t, r) (lookR_mem hr))

/-! ### Laws -/
theorem arg_told {H : Type} {enc : TypeId × Value → H} {P : Program} {W : World} {spare : Nat → Bool} {held : Bool} {r : Reach} {base n : Nat} {t : TypeId} {τ : Ty} {v : Value} {d : DataW H} {ps : List MemPlace} (hok : tyOk P n t τ = true)
    (hval : Value.okWide P W r base t v) (h : DataW.Trod enc P W 0 spare held t v d ps) (hw : ∀ n ∈ d.weights P t, n ≤ reachBytes) {agg : Bool} (hagg : (match P.underlying t with | some (.struct _) => true | some (.array _ _) => true | _ => false) = agg) :
    ∃ x : τ.den, VRel (fun _ => .none) (fun b => b < W.heap.size) W (AV.ofTy τ x agg) v ∧ okT τ x ∧ bulkT τ x ≤ uptoBulk d := by
  obtain ⟨fuel, hf⟩ := h
  obtain ⟨x, e1, e2, e3⟩ := trod_told n fuel t τ _ d ps hok hf hw
  refine ⟨x, ?_, e2, e3⟩
  have hfl := flat_rel (μ := fun _ => .none) τ x _ e1
  have one : ∀ u, v = u → v.cells = #[u] → agg = false → τ.sz = 1 → VRel (fun _ => .none) (fun b => b < W.heap.size) W (AV.ofTy τ x agg) v := fun u hu hc ha hs => by
    subst ha
    rw [hc] at hfl
    have hl := vrelL_len hfl
    simp at hl
    unfold AV.ofTy
    simp only [Bool.false_eq_true, if_false]
    cases hfx : flat τ x with
    | nil => rw [hfx] at hl; simp at hl
    | cons y ys =>
      rw [hfx] at hl
      simp at hl
      subst hl
      rw [hfx] at hfl
      simp only [VRelL] at hfl
      obtain ⟨u', us', h1, h2, _⟩ := hfl
      simp at h1
      obtain ⟨rfl, _⟩ := h1
      rw [hu]
      exact h2
  cases n with
  | zero => simp [tyOk] at hok
  | succ n =>
    simp only [tyOk] at hok
    split at hok
    · rename_i hu
      obtain ⟨b, rfl⟩ := WideShapes.okWide_bool hu hval
      exact one _ rfl rfl (by rw [← hagg, hu]) rfl
    · rename_i k k' hu
      obtain ⟨n, rfl⟩ := WideShapes.okWide_int hu hval
      exact one _ rfl rfl (by rw [← hagg, hu]) rfl
    · rename_i hu
      obtain ⟨s, rfl⟩ := WideShapes.okWide_string hu hval
      exact one _ rfl rfl (by rw [← hagg, hu]) rfl
    · rename_i e τ' hu
      obtain ⟨a, len, cap, rfl⟩ := WideShapes.okWide_slice hu hval
      exact one _ rfl rfl (by rw [← hagg, hu]) rfl
    · rename_i fs hu
      rw [hu] at hagg
      subst hagg
      simp only [Value.okWide, hu] at hval
      obtain ⟨cs, rfl, _, _⟩ := hval
      simp only [AV.ofTy, if_true, VRel]
      exact ⟨cs.toList, by simp, by simpa [Value.cells] using hfl, by simpa [Value.cells] using e1.one⟩
    · rename_i k e hu
      rw [hu] at hagg
      subst hagg
      simp only [Value.okWide, hu] at hval
      obtain ⟨cs, rfl, _, _⟩ := hval
      simp only [AV.ofTy, if_true, VRel]
      exact ⟨cs.toList, by simp, by simpa [Value.cells] using hfl, by simpa [Value.cells] using e1.one⟩
    · cases hok

theorem law_calls {P : Program} {f : Nat} {args : List AV} {b : Bool} (h : SemF P f args [] [.bool b] []) (W : World) {vs : List Value} (hv : VRelL (fun _ => .none) (fun b => b < W.heap.size) W args vs) :
    Calls P f vs.toArray W fun e W' => e = .returned (.bool b) ∧ RowKit.Below W.heap.size W W' := by
  refine (h.2 W (fun _ => .none) (fun b => b < W.heap.size) vs ⟨fun k hk => by simp at hk, fun _ _ => rfl, fun k k' b h => by simp [Pl.owns] at h, fun k b h => by simp [Pl.owns] at h, fun b h => h⟩ hv).mono fun e W' he => ?_
  obtain ⟨v, rfl, μ', F', h1, h2, h3, _⟩ := he
  simp only [tupled, VRel] at h1
  subst h1
  exact ⟨rfl, h3.os, h3.tape, h3.output, h3.size, fun b hb => h3.keep b hb fun ⟨k, hk⟩ => by simp [Pl.owns] at hk⟩

end Go.Proofs.YtfepkpindchleaaE
