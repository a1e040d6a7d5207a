/- The engine, part 27: the words of loops on typed data. -/
import Derived.Test.YtfepkpindchleaaE26
namespace Go.Proofs.YtfepkpindchleaaE
open Go
set_option linter.unusedVariables false
set_option linter.unusedSimpArgs false

/-- A value of a data type off the front of cells, exactly as it is written. -/
def unflatX : (t : Ty) → List AV → Option (t.den × List AV)
  | .int k, .int k' n :: r => if k' = k then some (n, r) else none
  | .bool, .bool b :: r => some (b, r)
  | .str, .str s :: r => some (s, r)
  | .unit, r => some ((), r)
  | .list t, .list t' xs :: r => if h : t' = t then some (h ▸ xs, r) else none
  | .pair a b, r =>
    match unflatX a r with
    | some (x, r) => match unflatX b r with
      | some (y, r) => some ((x, y), r)
      | none => none
    | none => none
  | _, _ => none
theorem unflatX_eq : ∀ (t : Ty) (cs : List AV) (x : t.den) (r : List AV), unflatX t cs = some (x, r) → cs = flat t x ++ r
  | .int k, [], x, r, h => by simp [unflatX] at h
  | .int k, v :: cs, x, r, h => by
    cases v <;> simp only [unflatX] at h <;> try cases h
    split at h <;> cases h
    rename_i hk
    subst hk
    rfl
  | .bool, [], x, r, h => by simp [unflatX] at h
  | .bool, v :: cs, x, r, h => by
    cases v <;> simp only [unflatX] at h <;> try cases h
    rfl
  | .str, [], x, r, h => by simp [unflatX] at h
  | .str, v :: cs, x, r, h => by
    cases v <;> simp only [unflatX] at h <;> try cases h
    rfl
  | .unit, cs, x, r, h => by
    simp only [unflatX, Option.some.injEq, Prod.mk.injEq] at h
    obtain ⟨_, rfl⟩ := h
    rfl
  | .list t, [], x, r, h => by simp [unflatX] at h
  | .list t, v :: cs, x, r, h => by
    cases v <;> simp only [unflatX] at h <;> try cases h
    split at h <;> cases h
    rename_i ht
    subst ht
    rfl
  | .pair a b, cs, x, r, h => by
    simp only [unflatX] at h
    split at h
    · rename_i y r1 h1
      split at h
      · rename_i z r2 h2
        cases h
        rw [unflatX_eq a _ _ _ h1, unflatX_eq b _ _ _ h2]
        simp [flat, List.append_assoc]
      · cases h
    · cases h

def getX (t : Ty) : Bool → AV → Option t.den
  | true, .agg cs => match unflatX t cs with | some (x, []) => some x | _ => none
  | false, .agg _ => none
  | false, v => match unflatX t [v] with | some (x, []) => some x | _ => none
  | true, _ => none
theorem getX_eq {t : Ty} {agg : Bool} {v : AV} {x : t.den} (h : getX t agg v = some x) : v = AV.ofTy t x agg := by
  unfold getX at h
  split at h
  · split at h
    · rename_i y hy
      cases h
      rw [unflatX_eq _ _ _ _ hy, List.append_nil]
      rfl
    · cases h
  · cases h
  · split at h
    · rename_i y hy
      cases h
      have := unflatX_eq _ _ _ _ hy
      rw [List.append_nil] at this
      simp only [AV.ofTy, Bool.false_eq_true, if_false]
      rw [← this]
    · cases h
  · cases h

/-- The shape of a value: data, or a name. -/
inductive Sh where
  | d (t : Ty) (agg : Bool)
  | row (j : Nat)
  | ptr (j off : Nat)
  | np
  | undef
  | mp (j : Nat)
  | dead
  | fnp (g : Nat) (ps : List (Nat × Nat))
def ShT : List Sh → Type
  | [] => Unit
  | .d t _ :: r => t.den × ShT r
  | .row _ :: r => ShT r
  | .ptr _ _ :: r => ShT r
  | .np :: r => ShT r
  | .undef :: r => ShT r
  | .mp _ :: r => ShT r
  | .dead :: r => ShT r
  | .fnp _ _ :: r => ShT r
def ptrsOf (ps : List (Nat × Nat)) : List AV := ps.map fun p => .ptr p.1 p.2
def pack : (s : List Sh) → ShT s → List AV
  | [], _ => []
  | .d t a :: r, x => AV.ofTy t x.1 a :: pack r x.2
  | .row j :: r, x => .rowA j :: pack r x
  | .ptr j o :: r, x => .ptr j o :: pack r x
  | .np :: r, x => .np :: pack r x
  | .undef :: r, x => .undef :: pack r x
  | .mp j :: r, x => .mp j :: pack r x
  | .dead :: r, x => .dead :: pack r x
  | .fnp g ps :: r, x => .fn g (ptrsOf ps) :: pack r x
def AV.isRow (j : Nat) : AV → Bool | .rowA k => Nat.beq k j | _ => false
def AV.isPtr (j o : Nat) : AV → Bool | .ptr k o' => Nat.beq k j && Nat.beq o' o | _ => false
def AV.isNp : AV → Bool | .np => true | _ => false
def AV.isUndef : AV → Bool | .undef => true | _ => false
def AV.isMp (j : Nat) : AV → Bool | .mp k => Nat.beq k j | _ => false
def AV.isDead : AV → Bool | .dead => true | _ => false
def isPtrs : List AV → List (Nat × Nat) → Bool
  | [], [] => true
  | v :: vs, p :: ps => v.isPtr p.1 p.2 && isPtrs vs ps
  | _, _ => false
def AV.isFnp (g : Nat) (ps : List (Nat × Nat)) : AV → Bool | .fn f cs => Nat.beq f g && isPtrs cs ps | _ => false
theorem isMp_eq {j : Nat} {v : AV} (h : v.isMp j = true) : v = .mp j := by
  cases v <;> simp only [AV.isMp] at h <;> try cases h
  rw [Nat.eq_of_beq_eq_true h]
theorem isDead_eq {v : AV} (h : v.isDead = true) : v = .dead := by
  cases v <;> simp only [AV.isDead] at h <;> try cases h
  rfl
theorem isRow_eq {j : Nat} {v : AV} (h : v.isRow j = true) : v = .rowA j := by
  cases v <;> simp only [AV.isRow] at h <;> try cases h
  rw [Nat.eq_of_beq_eq_true h]
theorem isPtr_eq {j o : Nat} {v : AV} (h : v.isPtr j o = true) : v = .ptr j o := by
  cases v <;> simp only [AV.isPtr] at h <;> try cases h
  simp only [Bool.and_eq_true] at h
  rw [Nat.eq_of_beq_eq_true h.1, Nat.eq_of_beq_eq_true h.2]
theorem isNp_eq {v : AV} (h : v.isNp = true) : v = .np := by
  cases v <;> simp only [AV.isNp] at h <;> try cases h
  rfl
theorem isPtrs_eq : ∀ {vs : List AV} {ps : List (Nat × Nat)}, isPtrs vs ps = true → vs = ptrsOf ps
  | [], [], _ => rfl
  | v :: vs, p :: ps, h => by
    simp only [isPtrs, Bool.and_eq_true] at h
    rw [isPtr_eq h.1, isPtrs_eq h.2]
    rfl
  | [], _ :: _, h => by cases h
  | _ :: _, [], h => by cases h
theorem isFnp_eq {g : Nat} {ps : List (Nat × Nat)} {v : AV} (h : v.isFnp g ps = true) : v = .fn g (ptrsOf ps) := by
  cases v <;> simp only [AV.isFnp] at h <;> try cases h
  simp only [Bool.and_eq_true] at h
  rw [Nat.eq_of_beq_eq_true h.1, isPtrs_eq h.2]
theorem isUndef_eq {v : AV} (h : v.isUndef = true) : v = .undef := by
  cases v <;> simp only [AV.isUndef] at h <;> try cases h
  rfl
def unpack : (s : List Sh) → List AV → Option (ShT s)
  | [], vs => bif vs.isEmpty then some () else none
  | .d t a :: r, vs => match vs with
    | v :: vs => (match getX t a v with | some x => (match unpack r vs with | some y => some (x, y) | none => none) | none => none)
    | [] => none
  | .row j :: r, vs => match vs with | v :: vs => bif v.isRow j then unpack r vs else none | [] => none
  | .ptr j o :: r, vs => match vs with | v :: vs => bif v.isPtr j o then unpack r vs else none | [] => none
  | .np :: r, vs => match vs with | v :: vs => bif v.isNp then unpack r vs else none | [] => none
  | .undef :: r, vs => match vs with | v :: vs => bif v.isUndef then unpack r vs else none | [] => none
  | .mp j :: r, vs => match vs with | v :: vs => bif v.isMp j then unpack r vs else none | [] => none
  | .dead :: r, vs => match vs with | v :: vs => bif v.isDead then unpack r vs else none | [] => none
  | .fnp g ps :: r, vs => match vs with | v :: vs => bif v.isFnp g ps then unpack r vs else none | [] => none
theorem bif_some {α : Type} {b : Bool} {x : Option α} {y : α} (h : (bif b then x else none) = some y) : b = true ∧ x = some y := by
  cases b
  · cases h
  · exact ⟨rfl, h⟩
theorem unpack_eq : ∀ (s : List Sh) (vs : List AV) (x : ShT s), unpack s vs = some x → vs = pack s x
  | [], vs, x, h => by
    simp only [unpack] at h
    have := (bif_some h).1
    rw [List.isEmpty_iff] at this
    rw [this]
    rfl
  | .d t a :: r, [], x, h => by cases h
  | .d t a :: r, v :: vs, x, h => by
    simp only [unpack] at h
    split at h
    · rename_i y hy
      split at h
      · rename_i z hz
        cases h
        simp only [pack]
        rw [getX_eq hy, unpack_eq r vs z hz]
      · cases h
    · cases h
  | .row j :: r, [], x, h => by cases h
  | .row j :: r, v :: vs, x, h => by
    simp only [unpack] at h
    obtain ⟨h1, h2⟩ := bif_some h
    simp only [pack]
    rw [isRow_eq h1, unpack_eq r vs x h2]
  | .ptr j o :: r, [], x, h => by cases h
  | .ptr j o :: r, v :: vs, x, h => by
    simp only [unpack] at h
    obtain ⟨h1, h2⟩ := bif_some h
    simp only [pack]
    rw [isPtr_eq h1, unpack_eq r vs x h2]
  | .np :: r, [], x, h => by cases h
  | .np :: r, v :: vs, x, h => by
    simp only [unpack] at h
    obtain ⟨h1, h2⟩ := bif_some h
    simp only [pack]
    rw [isNp_eq h1, unpack_eq r vs x h2]
  | .undef :: r, [], x, h => by cases h
  | .undef :: r, v :: vs, x, h => by
    simp only [unpack] at h
    obtain ⟨h1, h2⟩ := bif_some h
    simp only [pack]
    rw [isUndef_eq h1, unpack_eq r vs x h2]
  | .mp j :: r, [], x, h => by cases h
  | .mp j :: r, v :: vs, x, h => by
    simp only [unpack] at h
    obtain ⟨h1, h2⟩ := bif_some h
    simp only [pack]
    rw [isMp_eq h1, unpack_eq r vs x h2]
  | .dead :: r, [], x, h => by cases h
  | .dead :: r, v :: vs, x, h => by
    simp only [unpack] at h
    obtain ⟨h1, h2⟩ := bif_some h
    simp only [pack]
    rw [isDead_eq h1, unpack_eq r vs x h2]
  | .fnp g ps :: r, [], x, h => by cases h
  | .fnp g ps :: r, v :: vs, x, h => by
    simp only [unpack] at h
    obtain ⟨h1, h2⟩ := bif_some h
    simp only [pack]
    rw [isFnp_eq h1, unpack_eq r vs x h2]

/-- The shape of an object. -/
inductive ShO where
  | row (t : Ty)
  | box (cs : List Sh)
  | map (kt vt : Ty)
  | tbox (E : Nat) (cs : List Sh)
def ShOT : List ShO → Type
  | [] => Unit
  | .row t :: r => List t.den × ShOT r
  | .box cs :: r => ShT cs × ShOT r
  | .map kt vt :: r => List (kt.den × vt.den) × ShOT r
  | .tbox _ cs :: r => ShT cs × ShOT r
def packO : (s : List ShO) → ShOT s → List LObj
  | [], _ => []
  | .row t :: r, x => .row t x.1 :: packO r x.2
  | .box cs :: r, x => .box (pack cs x.1) :: packO r x.2
  | .map kt vt :: r, x => .mpo kt vt x.1 :: packO r x.2
  | .tbox E cs :: r, x => .boxT (some E) (pack cs x.1) :: packO r x.2
def LObj.asRow (t : Ty) : LObj → Option (List t.den)
  | .row t' xs => if h : t' = t then some (h ▸ xs) else none
  | _ => none
def LObj.asTBox (E : Nat) : LObj → Option (List AV)
  | .boxT (some n) cs => bif Nat.beq n E then some cs else none
  | _ => none
theorem asTBox_eq {E : Nat} {o : LObj} {cs : List AV} (h : o.asTBox E = some cs) : o = .boxT (some E) cs := by
  cases o <;> simp only [LObj.asTBox] at h <;> try cases h
  rename_i tag cs'
  cases tag with
  | none => cases h
  | some n =>
    obtain ⟨h1, h2⟩ := bif_some h
    cases h2
    rw [Nat.eq_of_beq_eq_true h1]
def LObj.asMap (kt vt : Ty) : LObj → Option (List (kt.den × vt.den))
  | .mpo k v es => if h : k = kt then (if h' : v = vt then some (h ▸ h' ▸ es) else none) else none
  | _ => none
theorem asMap_eq {kt vt : Ty} {o : LObj} {es : List (kt.den × vt.den)} (h : o.asMap kt vt = some es) : o = .mpo kt vt es := by
  cases o <;> simp only [LObj.asMap] at h <;> try cases h
  split at h
  · rename_i hk
    subst hk
    split at h
    · rename_i hv
      subst hv
      cases h
      rfl
    · cases h
  · cases h
def LObj.asBox : LObj → Option (List AV)
  | .boxT none cs => some cs
  | _ => none
theorem asRow_eq {t : Ty} {o : LObj} {xs : List t.den} (h : o.asRow t = some xs) : o = .row t xs := by
  cases o <;> simp only [LObj.asRow] at h <;> try cases h
  split at h
  · rename_i ht
    subst ht
    cases h
    rfl
  · cases h
theorem asBox_eq {o : LObj} {cs : List AV} (h : o.asBox = some cs) : o = .box cs := by
  cases o <;> simp only [LObj.asBox] at h <;> try cases h
  rename_i tag cs'
  cases tag <;> simp only [LObj.asBox] at h <;> cases h
  rfl
def unpackO : (s : List ShO) → List LObj → Option (ShOT s)
  | [], os => bif os.isEmpty then some () else none
  | .row t :: r, os => match os with
    | o :: os => (match o.asRow t with | some x => (match unpackO r os with | some y => some (x, y) | none => none) | none => none)
    | [] => none
  | .box cs :: r, os => match os with
    | o :: os => (match o.asBox with
      | some vs => (match unpack cs vs with | some x => (match unpackO r os with | some y => some (x, y) | none => none) | none => none)
      | none => none)
    | [] => none
  | .tbox E cs :: r, os => match os with
    | o :: os => (match o.asTBox E with
      | some vs => (match unpack cs vs with | some x => (match unpackO r os with | some y => some (x, y) | none => none) | none => none)
      | none => none)
    | [] => none
  | .map kt vt :: r, os => match os with
    | o :: os => (match o.asMap kt vt with | some x => (match unpackO r os with | some y => some (x, y) | none => none) | none => none)
    | [] => none
theorem unpackO_eq : ∀ (s : List ShO) (os : List LObj) (x : ShOT s), unpackO s os = some x → os = packO s x
  | [], os, x, h => by
    simp only [unpackO] at h
    have := (bif_some h).1
    rw [List.isEmpty_iff] at this
    rw [this]
    rfl
  | .row t :: r, [], x, h => by cases h
  | .row t :: r, o :: os, x, h => by
    simp only [unpackO] at h
    split at h
    · rename_i y hy
      split at h
      · rename_i z hz
        cases h
        simp only [packO]
        rw [asRow_eq hy, unpackO_eq r os z hz]
      · cases h
    · cases h
  | .tbox E cs :: r, [], x, h => by cases h
  | .tbox E cs :: r, o :: os, x, h => by
    simp only [unpackO] at h
    split at h
    · rename_i vs hvs
      split at h
      · rename_i y hy
        split at h
        · rename_i z hz
          cases h
          simp only [packO]
          rw [asTBox_eq hvs, unpack_eq cs vs y hy, unpackO_eq r os z hz]
        · cases h
      · cases h
    · cases h
  | .map kt vt :: r, [], x, h => by cases h
  | .map kt vt :: r, o :: os, x, h => by
    simp only [unpackO] at h
    split at h
    · rename_i y hy
      split at h
      · rename_i z hz
        cases h
        simp only [packO]
        rw [asMap_eq hy, unpackO_eq r os z hz]
      · cases h
    · cases h
  | .box cs :: r, [], x, h => by cases h
  | .box cs :: r, o :: os, x, h => by
    simp only [unpackO] at h
    split at h
    · rename_i vs hvs
      split at h
      · rename_i y hy
        split at h
        · rename_i z hz
          cases h
          simp only [packO]
          rw [asBox_eq hvs, unpack_eq cs vs y hy, unpackO_eq r os z hz]
        · cases h
      · cases h
    · cases h

structure LoopSpec where
  bid : Nat
  sh : List Sh
  so : List ShO
  F : ShT sh → ShOT so → Tr (Ex × List AV × List LObj)

def LoopSpec.run (L : LoopSpec) (vs : List AV) (os : List LObj) : Tr (Ex × List AV × List LObj) :=
  match unpack L.sh vs with
  | some x => (match unpackO L.so os with | some y => L.F x y | none => .no)
  | none => .no
def lsOf : List LoopSpec → LSpec
  | [], _, _, _ => .no
  | L :: Ls, bid, vs, os => bif Nat.beq bid L.bid then L.run vs os else lsOf Ls bid vs os

/-- A loop is what its words say, on typed data. -/
def LoopSpec.Ok (T : Tab) (orc : Orc) (H : Hint) (n0 d : Nat) (L : LoopSpec) (body : Code) : Prop :=
  ∀ n, d ≤ n → ∀ x y r, (L.F x y).get = some r →
    loopF (fun st => evC T orc (lpN T orc H n0 n) body L.bid st (roundK (H.keep L.bid) (H.keepX L.bid) n0)) (stOf (H.keep L.bid) (pack L.sh x) (packO L.so y)) = some (r.1, stOf (H.keepX L.bid) r.2.1 r.2.2)

theorem lsOf_holds {T : Tab} {orc : Orc} {H : Hint} {n0 d : Nat} {Ls : List LoopSpec} {bid : Nat} {body : Code} (h : ∀ L ∈ Ls, L.bid = bid → L.Ok T orc H n0 d body) : LoopHolds T orc H n0 d (lsOf Ls) (bid, body) := by
  intro n hn vs os ex vs' os' hS
  have key : ∀ (Ls : List LoopSpec), (∀ L ∈ Ls, L.bid = bid → L.Ok T orc H n0 d body) → (lsOf Ls bid vs os).get = some (ex, vs', os') →
      loopF (fun st => evC T orc (lpN T orc H n0 n) body bid st (roundK (H.keep bid) (H.keepX bid) n0)) (stOf (H.keep bid) vs os) = some (ex, stOf (H.keepX bid) vs' os') := by
    intro Ls
    induction Ls with
    | nil => intro _ h; simp [lsOf, Tr.get] at h
    | cons L Ls ih =>
      intro hL h
      simp only [lsOf] at h
      cases hb : Nat.beq bid L.bid with
      | false => rw [hb] at h; exact ih (fun L hl => hL L (by simp [hl])) h
      | true =>
        rw [hb] at h
        have e := Nat.eq_of_beq_eq_true hb
        subst e
        simp only [cond_true, LoopSpec.run] at h
        split at h
        · rename_i x hx
          split at h
          · rename_i y hy
            rw [unpack_eq _ _ _ hx, unpackO_eq _ _ _ hy]
            exact hL L (by simp) rfl n hn x y _ h
          · cases h
        · cases h
  exact key Ls h hS

/-- One round, then the rest. -/
theorem loop_next {F : St → Option (St ⊕ (Ex × St))} {st st' : St} {r : Option (Ex × St)} (h : F st = some (.inl st')) (hr : loopF F st' = r) : loopF F st = r := by rw [loopF_inl h, hr]
theorem loop_last {F : St → Option (St ⊕ (Ex × St))} {st : St} {r : Ex × St} (h : F st = some (.inr r)) : loopF F st = some r := loopF_inr h

/-- The body of the k-th loop, outermost ones only. -/
def nthLoop (c : Code) (k : Nat) : Code := match (loopsOf c 1000000)[k]? with | some x => x.2 | none => .skip

end Go.Proofs.YtfepkpindchleaaE
