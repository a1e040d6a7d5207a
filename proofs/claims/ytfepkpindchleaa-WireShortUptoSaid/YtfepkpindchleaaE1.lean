/- The engine, part 1: typed logical values, a logical heap, and an evaluator of the model's code over them (continuation style). Own work; nothing here is about one program. -/
import GoSem.Dispatch
import Derived.KernelRfl
namespace Go.Proofs.YtfepkpindchleaaE
open Go
set_option linter.unusedVariables false
set_option linter.unusedSimpArgs false

/-! ### Types of data, and their denotations -/
inductive Ty where
  | int (k : IntKind)
  | bool
  | str
  | unit
  | list (t : Ty)
  | pair (a b : Ty)

def Ty.decEq : (a b : Ty) → Decidable (a = b)
  | .int k, .int k' => if h : k = k' then .isTrue (by rw [h]) else .isFalse (fun e => h (by injection e))
  | .bool, .bool => .isTrue rfl
  | .str, .str => .isTrue rfl
  | .unit, .unit => .isTrue rfl
  | .list a, .list b => match Ty.decEq a b with
    | .isTrue h => .isTrue (by rw [h])
    | .isFalse h => .isFalse (fun e => h (by injection e))
  | .pair a b, .pair c d => match Ty.decEq a c, Ty.decEq b d with
    | .isTrue h, .isTrue h' => .isTrue (by rw [h, h'])
    | .isFalse h, _ => .isFalse (fun e => h (by injection e))
    | _, .isFalse h => .isFalse (fun e => h (by injection e))
  | .int _, .bool => .isFalse (fun e => by cases e)
  | .int _, .str => .isFalse (fun e => by cases e)
  | .int _, .unit => .isFalse (fun e => by cases e)
  | .int _, .list _ => .isFalse (fun e => by cases e)
  | .int _, .pair _ _ => .isFalse (fun e => by cases e)
  | .bool, .int _ => .isFalse (fun e => by cases e)
  | .bool, .str => .isFalse (fun e => by cases e)
  | .bool, .unit => .isFalse (fun e => by cases e)
  | .bool, .list _ => .isFalse (fun e => by cases e)
  | .bool, .pair _ _ => .isFalse (fun e => by cases e)
  | .str, .int _ => .isFalse (fun e => by cases e)
  | .str, .bool => .isFalse (fun e => by cases e)
  | .str, .unit => .isFalse (fun e => by cases e)
  | .str, .list _ => .isFalse (fun e => by cases e)
  | .str, .pair _ _ => .isFalse (fun e => by cases e)
  | .unit, .int _ => .isFalse (fun e => by cases e)
  | .unit, .bool => .isFalse (fun e => by cases e)
  | .unit, .str => .isFalse (fun e => by cases e)
  | .unit, .list _ => .isFalse (fun e => by cases e)
  | .unit, .pair _ _ => .isFalse (fun e => by cases e)
  | .list _, .int _ => .isFalse (fun e => by cases e)
  | .list _, .bool => .isFalse (fun e => by cases e)
  | .list _, .str => .isFalse (fun e => by cases e)
  | .list _, .unit => .isFalse (fun e => by cases e)
  | .list _, .pair _ _ => .isFalse (fun e => by cases e)
  | .pair _ _, .int _ => .isFalse (fun e => by cases e)
  | .pair _ _, .bool => .isFalse (fun e => by cases e)
  | .pair _ _, .str => .isFalse (fun e => by cases e)
  | .pair _ _, .unit => .isFalse (fun e => by cases e)
  | .pair _ _, .list _ => .isFalse (fun e => by cases e)
instance : DecidableEq Ty := Ty.decEq

@[reducible] def Ty.den : Ty → Type
  | .int _ => Int
  | .bool => Bool
  | .str => List UInt8
  | .unit => Unit
  | .list t => List t.den
  | .pair a b => a.den × b.den

def Ty.sz : Ty → Nat
  | .unit => 0
  | .pair a b => a.sz + b.sz
  | _ => 1

def Ty.dflt : (t : Ty) → t.den
  | .int _ => (0 : Int)
  | .bool => false
  | .str => ([] : List UInt8)
  | .unit => ()
  | .list _ => []
  | .pair a b => (a.dflt, b.dflt)

/-! ### Logical values -/
inductive AV where
  | int (k : IntKind) (n : Int)
  | bool (b : Bool)
  | str (s : List UInt8)
  | list (t : Ty) (xs : List t.den)                      -- a slice whose elements nobody will change
  | agg (cs : List AV)                                   -- a struct's or an array's cells
  | tup (vs : List AV)                                   -- several results
  | np                                                   -- a nil pointer
  | nm                                                   -- a nil map
  | nf                                                   -- a nil function
  | ns                                                   -- a nil slice, as the text writes it
  | ptr (k off : Nat)                                    -- into a box
  | rptr (k : Nat) (t : Ty) (i off : Nat)                -- into an element of a row
  | lptr (t : Ty) (xs : List t.den) (i off : Nat)        -- into an element of a slice that nobody changes
  | rowA (k : Nat)                                       -- all of a row
  | rowS (k : Nat) (off len : Nat) (capped : Bool)       -- a part of a row
  | mp (k : Nat)
  | fn (f : Nat) (caps : List AV)
  | undef                                                -- what a skipped operation leaves
  | dead                                                 -- nothing is known

/-- What lies in memory. -/
inductive LObj where
  | boxT (tag : Option Nat) (cs : List AV)                -- cells; where it matters, the type for which they were laid
  | row (t : Ty) (xs : List t.den)
  | mpo (kt vt : Ty) (es : List (kt.den × vt.den))        -- a map: entries in the order in which they came
  | gone

@[match_pattern, reducible] def LObj.box (cs : List AV) : LObj := .boxT none cs

/-- The cells of a value of a data type. -/
def flat : (t : Ty) → t.den → List AV
  | .int k, n => [.int k n]
  | .bool, b => [.bool b]
  | .str, s => [.str s]
  | .unit, _ => []
  | .list t, xs => [.list t xs]
  | .pair a b, x => flat a x.1 ++ flat b x.2

/-- A value of a data type out of cells; and the cells behind it. -/
def unflat : (t : Ty) → List AV → Option (t.den × List AV)
  | .int k, .int k' n :: r => if k = k' then some (n, r) else none
  | .bool, .bool b :: r => some (b, r)
  | .str, .str s :: r => some (s, r)
  | .unit, r => some ((), r)
  | .list t, .list t' xs :: r => if h : t' = t then some (h ▸ xs, r) else none
  | .list _, .ns :: r => some ([], r)
  | .pair a b, r =>
    match unflat a r with
    | some (x, r) => match unflat b r with
      | some (y, r) => some ((x, y), r)
      | none => none
    | none => none
  | _, _ => none

def unflatAll (t : Ty) (cs : List AV) : Option t.den :=
  match unflat t cs with
  | some (x, []) => some x
  | _ => none

/-- Whether a value is one of an aggregate type. -/
def AV.isAgg : AV → Bool
  | .agg _ => true
  | _ => false

/-- One value as data. -/
def AV.cellsOf : AV → Option (List AV)
  | .agg cs => some cs
  | .tup _ => none
  | .undef => none
  | .dead => none
  | v => some [v]

def asTy (t : Ty) (v : AV) : Option t.den :=
  match v.cellsOf with
  | some cs => unflatAll t cs
  | none => none

/-- The typed value as one value: what a load of it gives. -/
def AV.ofTy (t : Ty) (x : t.den) (agg : Bool) : AV :=
  if agg then .agg (flat t x) else match flat t x with
    | [v] => v
    | _ => .dead

/-! ### Tables: what the evaluator is told of the program's types -/
inductive TD where
  | bool
  | int (k : IntKind)
  | str
  | ptr (e : Nat)
  | slice (e : Nat)
  | array (n : Nat) (e : Nat)
  | struct (fs : List (Nat × Nat))   -- offset and type of each field
  | map (k e : Nat)
  | func
  | other

structure Row where
  desc : TD
  size : Nat
  bytes : Nat
  zero : List AV        -- the cells of the zero value
  cty : List (Option Ty)  -- of each cell: if it is a slice of data, its elements' type
  ty : Option Ty        -- as a type of data

structure Tab where
  row : Nat → Option Row
  inl : Nat → Option Func := fun _ => none
  live : Nat → Option (List Nat) := fun _ => none   -- the slots that live behind a region: there the state is laid out anew
  mid : Nat → Option (List Nat) := fun _ => none    -- the same behind an operation, by the slot that it writes
  tag : Nat → Bool := fun _ => false                -- types whose boxes say that they are laid for them
  nild : Bool := false   -- nil slices of structs that are stored are empty ones

def Tab.desc (T : Tab) (t : Nat) : TD := match T.row t with | some r => r.desc | none => .other
def TD.agg : TD → Bool
  | .array _ _ => true
  | .struct _ => true
  | _ => false
def Tab.agg (T : Tab) (t : Nat) : Bool := (T.desc t).agg
def Tab.size (T : Tab) (t : Nat) : Option Nat := match T.row t with | some r => some r.size | none => none
def Tab.ty (T : Tab) (t : Nat) : Option Ty := match T.row t with | some r => r.ty | none => none

/-! ### States -/
structure St where
  tm : Nat → AV
  hp : Nat → LObj
  nx : Nat

def ofTm : List (Nat × AV) → Nat → AV
  | [], _ => .dead
  | (k, v) :: r, t => bif t == k then v else ofTm r t
def ofHp : List LObj → Nat → LObj
  | [], _ => .gone
  | o :: r, k => match k with | 0 => o | k + 1 => ofHp r k

def St.put (st : St) (t : Nat) (v : AV) : St := { st with tm := fun t' => bif t' == t then v else st.tm t' }
def St.putO (st : St) (d : Option Nat) (v : AV) : St := match d with | some t => st.put t v | none => st
def St.new (st : St) (o : LObj) : St := { st with hp := fun k => bif k == st.nx then o else st.hp k, nx := st.nx + 1 }
def St.upd (st : St) (k : Nat) (o : LObj) : St := { st with hp := fun k' => bif k' == k then o else st.hp k' }

/-! ### Names: references in a value, and a renaming of them; a name that is lost makes the whole value unknown -/
mutual
def AV.refs : AV → List Nat
  | .agg cs => AV.refsL cs
  | .tup cs => AV.refsL cs
  | .ptr k _ => [k]
  | .rptr k _ _ _ => [k]
  | .rowA k => [k]
  | .rowS k _ _ _ => [k]
  | .mp k => [k]
  | .fn _ cs => AV.refsL cs
  | _ => []
def AV.refsL : List AV → List Nat
  | [] => []
  | v :: vs => AV.refs v ++ AV.refsL vs
end

mutual
def AV.ren (f : Nat → Option Nat) : AV → AV
  | .agg cs => .agg (AV.renL f cs)
  | .tup cs => .tup (AV.renL f cs)
  | .ptr k off => match f k with | some k => .ptr k off | none => .dead
  | .rptr k t i off => match f k with | some k => .rptr k t i off | none => .dead
  | .rowA k => match f k with | some k => .rowA k | none => .dead
  | .rowS k off len c => match f k with | some k => .rowS k off len c | none => .dead
  | .mp k => match f k with | some k => .mp k | none => .dead
  | .fn g cs => .fn g (AV.renL f cs)
  | v => v
def AV.renL (f : Nat → Option Nat) : List AV → List AV
  | [] => []
  | v :: vs => AV.ren f v :: AV.renL f vs
end

def LObj.refs : LObj → List Nat
  | .boxT _ cs => AV.refsL cs
  | _ => []
def LObj.ren (f : Nat → Option Nat) : LObj → LObj
  | .boxT g cs => .boxT g (AV.renL f cs)
  | o => o

-- a row's references die (but a pointer to a box stays: a box never moves)
mutual
def AV.kill (ks : List Nat) : AV → AV
  | .agg cs => .agg (AV.killL ks cs)
  | .tup cs => .tup (AV.killL ks cs)
  | .rptr k t i off => bif ks.contains k then .dead else .rptr k t i off
  | .rowA k => bif ks.contains k then .dead else .rowA k
  | .rowS k off len c => bif ks.contains k then .dead else .rowS k off len c
  | .fn g cs => .fn g (AV.killL ks cs)
  | v => v
def AV.killL (ks : List Nat) : List AV → List AV
  | [] => []
  | v :: vs => AV.kill ks v :: AV.killL ks vs
end
def LObj.kill (ks : List Nat) : LObj → LObj
  | .boxT g cs => .boxT g (AV.killL ks cs)
  | o => o
def St.kill (st : St) (ks : List Nat) : St := { st with tm := fun t => (st.tm t).kill ks, hp := fun k => (st.hp k).kill ks }

-- a row as data: all references to it become slices that nobody changes
mutual
def AV.frz (hp : Nat → LObj) (ks : List Nat) : AV → AV
  | .agg cs => .agg (AV.frzL hp ks cs)
  | .tup cs => .tup (AV.frzL hp ks cs)
  | .rptr k t i off => bif ks.contains k then .dead else .rptr k t i off
  | .rowA k => bif ks.contains k then (match hp k with | .row t xs => .list t xs | _ => .dead) else .rowA k
  | .rowS k off len c => bif ks.contains k then (match hp k with | .row t xs => .list t ((xs.drop off).take len) | _ => .dead) else .rowS k off len c
  | .fn g cs => .fn g (AV.frzL hp ks cs)
  | v => v
def AV.frzL (hp : Nat → LObj) (ks : List Nat) : List AV → List AV
  | [] => []
  | v :: vs => AV.frz hp ks v :: AV.frzL hp ks vs
end
def LObj.frz (hp : Nat → LObj) (ks : List Nat) : LObj → LObj
  | .boxT g cs => .boxT g (AV.frzL hp ks cs)
  | o => o
/-- The rows among some names. -/
def rowsOf (hp : Nat → LObj) : List Nat → List Nat
  | [] => []
  | k :: ks => match hp k with | .row _ _ => k :: rowsOf hp ks | _ => rowsOf hp ks
def St.frz (st : St) (ks : List Nat) : St :=
  { st with tm := fun t => (st.tm t).frz st.hp ks, hp := fun k => bif ks.contains k then .gone else (st.hp k).frz st.hp ks }

/-! ### What is still to be reached, in the order in which it is met -/
def reach (hp : Nat → LObj) : Nat → List Nat → List Nat → List Nat
  | 0, _, seen => seen
  | _, [], seen => seen
  | n + 1, k :: ks, seen => bif seen.contains k then reach hp n ks seen else reach hp n ((hp k).refs ++ ks) (seen ++ [k])
def posIn (k : Nat) : List Nat → Nat → Option Nat
  | [], _ => none
  | x :: xs, i => bif x == k then some i else posIn k xs (i + 1)
def rng : Nat → Nat → List Nat
  | _, 0 => []
  | a, n + 1 => a :: rng (a + 1) n

/-- What the first objects lead to. -/
def heldRefs (hp : Nat → LObj) (n0 : Nat) : List Nat := (rng 0 n0).flatMap fun k => (hp k).refs
def refsOf (vs : List AV) : List Nat := AV.refsL vs

/-- What a loop's head (or its end) keeps of a state: the slots that are kept, and what they lead to, under new names; the first n0 names stay. -/
def normL (keep : List Nat) (n0 : Nat) (st : St) : List AV × List LObj :=
  let ks := reach st.hp 1000 (heldRefs st.hp n0 ++ refsOf (keep.map st.tm)) (rng 0 n0)
  let f := fun k => posIn k ks 0
  (keep.map fun t => (st.tm t).ren f, ks.map fun k => (st.hp k).ren f)
def zipTm : List Nat → List AV → List (Nat × AV)
  | t :: ts, v :: vs => (t, v) :: zipTm ts vs
  | _, _ => []
def stOf (keep : List Nat) (vs : List AV) (os : List LObj) : St := { tm := ofTm (zipTm keep vs), hp := ofHp os, nx := os.length }
def norm (keep : List Nat) (n0 : Nat) (st : St) : St := let p := normL keep n0 st; stOf keep p.1 p.2

/-! ### Exits, answers -/
inductive Ex where
  | normal
  | exit (id : Nat)
  | ret

abbrev Res := List AV × List LObj
/-- A tree of choices. -/
inductive Tr (α : Type) where
  | no
  | ret (a : α)
  | br (c : Bool) (x y : Tr α)
def Tr.run {α R : Type} (K : α → Option R) : Tr α → Option R
  | .no => none
  | .ret a => K a
  | .br c x y => bif c then x.run K else y.run K
def Tr.get {α : Type} : Tr α → Option α
  | .no => none
  | .ret a => some a
  | .br c x y => bif c then x.get else y.get
/-- Under a condition. -/
def Tr.on {α : Type} (c : Bool) (a : α) : Tr α := .br c (.ret a) .no
def Tr.of {α : Type} : Option α → Tr α
  | some a => .ret a
  | none => .no
theorem Tr.run_get {α R : Type} {K : α → Option R} : ∀ (t : Tr α), t.run K = t.get.bind K
  | .no => rfl
  | .ret a => rfl
  | .br c x y => by cases c <;> simp only [Tr.run, Tr.get, cond_true, cond_false] <;> exact Tr.run_get _
theorem Tr.run_some {α R : Type} {K : α → Option R} {t : Tr α} {r : R} (h : t.run K = some r) : ∃ a, t.get = some a ∧ K a = some r := by
  rw [Tr.run_get] at h
  cases hg : t.get with
  | none => rw [hg] at h; cases h
  | some a => rw [hg] at h; exact ⟨a, rfl, h⟩
theorem Tr.get_on {α : Type} {c : Bool} {a b : α} (h : (Tr.on c a).get = some b) : c = true ∧ a = b := by
  cases c
  · cases h
  · cases h; exact ⟨rfl, rfl⟩
theorem Tr.get_of {α : Type} (x : Option α) : (Tr.of x).get = x := by cases x <;> rfl

abbrev Orc := Nat → List AV → List LObj → Tr Res

def req {R : Type} (b : Bool) (x : Option R) : Option R := bif b then x else none
/-- A choice between the first n numbers. -/
def pickIdx {R : Type} (i : Int) : Nat → Nat → (Nat → Option R) → Option R
  | 0, _, _ => none
  | n + 1, j, K => bif decide (i = (j : Int)) then K j else pickIdx i n (j + 1) K

end Go.Proofs.YtfepkpindchleaaE
