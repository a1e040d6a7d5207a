/- The engine, part 2: operations, regions, code (continuation style). -/
import Derived.Test.YtfepkpindchleaaE1
import Derived.Orders
namespace Go.Proofs.YtfepkpindchleaaE
open Go
set_option linter.unusedVariables false
set_option linter.unusedSimpArgs false

def constAV : Value → AV
  | .int k n => .int k n
  | .bool b => .bool b
  | .string s => .str s.data.toList
  | .pointer none => .np
  | .slice none 0 0 => .ns
  | .map none => .nm
  | .nilFunc => .nf
  | _ => .dead

def St.ev (st : St) : Operand → AV
  | .tmp t => st.tm t
  | .const v => constAV v
  | .func f => .fn f []
  | .global _ => .dead

/-- What an operation comes to. -/
inductive Eff where
  | val (v : AV)
  | new (os : List LObj) (v : AV)                          -- new objects, named from the next name on
  | upd (k : Nat) (o : LObj) (v : AV)                      -- an object is changed in place
  | app (k : Nat) (o : LObj) (v : AV)                      -- a row grows: it may move
  | frz (ks : List Nat) (os : List LObj) (v : AV)          -- rows become data, then new objects
  | call (fz ks : List Nat) (objs : List LObj) (vs : List AV) -- a call: rows that become data; the objects that were handed over; these objects behind it, and new ones; what came back

def St.news (st : St) : List LObj → St
  | [] => st
  | o :: os => (st.new o).news os

def tupled : List AV → AV
  | [v] => v
  | vs => .tup vs

/-- A callee's names in the caller's: those that it was handed, and new ones. -/
def backName (ks : List Nat) (nx : Nat) (i : Nat) : Option Nat := bif Nat.blt i ks.length then ks[i]? else some (nx + (i - ks.length))

def St.apply (st : St) : Eff → AV × St
  | .val v => (v, st)
  | .new os v => (v, st.news os)
  | .upd k o v => (v, st.upd k o)
  | .app k o v => (v, (st.kill [k]).upd k o)
  | .frz ks os v => (v, (st.frz ks).news os)
  | .call fz ks objs vs =>
    let st : St := match fz with | [] => st | _ => st.frz fz
    let f := backName ks st.nx
    let st2 : St := match ks with
      | [] => st
      | _ => { st with tm := fun t => (st.tm t).kill (rowsOf st.hp ks), hp := fun k => match posIn k ks 0 with | some i => (ofHp objs i).ren f | none => (st.hp k).kill (rowsOf st.hp ks) }
    (tupled (AV.renL f vs), st2.news ((objs.drop ks.length).map (LObj.ren f)))

/-- Nil slices among cells become rows of their own, so far empty. -/
def liven : List AV → List (Option Ty) → Nat → List AV × List LObj
  | .ns :: cs, some t :: ts, n => let r := liven cs ts (n + 1); (.rowA n :: r.1, .row t [] :: r.2)
  | c :: cs, _ :: ts, n => let r := liven cs ts n; (c :: r.1, r.2)
  | cs, [], _ => (cs, [])
  | [], _, _ => ([], [])

def kmax64 : Int := 9223372036854775807

def intBin (op : BinOp) (k : IntKind) (x y : Int) : Option AV :=
  match op with
  | .add => some (.int k (k.wrap (x + y)))
  | .sub => some (.int k (k.wrap (x - y)))
  | .mul => some (.int k (k.wrap (x * y)))
  | .and => some (.int k (k.wrap (BitVec.ofInt k.bits x &&& BitVec.ofInt k.bits y).toNat))
  | .or => some (.int k (k.wrap (BitVec.ofInt k.bits x ||| BitVec.ofInt k.bits y).toNat))
  | .xor => some (.int k (k.wrap (BitVec.ofInt k.bits x ^^^ BitVec.ofInt k.bits y).toNat))
  | .andNot => some (.int k (k.wrap (BitVec.ofInt k.bits x &&& ~~~ BitVec.ofInt k.bits y).toNat))
  | .eql => some (.bool (x == y))
  | .neq => some (.bool (x != y))
  | .lss => some (.bool (decide (x < y)))
  | .leq => some (.bool (decide (x ≤ y)))
  | .gtr => some (.bool (decide (x > y)))
  | .geq => some (.bool (decide (x ≥ y)))
  | _ => none

def strBin (op : BinOp) (x y : List UInt8) : Option AV :=
  match op with
  | .eql => some (.bool (x == y))
  | .neq => some (.bool (!(x == y)))
  | .lss => some (.bool (Op.bytesLess x y))
  | _ => none

/-- A part of a struct's or an array's cells. -/
def partE (T : Tab) (t : Nat) (cs : List AV) (off : Nat) : Option AV :=
  match T.size t with
  | none => none
  | some n => if T.agg t then (if off + n ≤ cs.length then some (.agg ((cs.drop off).take n)) else none) else cs[off]?

/-- Values of a type, field by field, as far as they are alike. -/
def eqFs (T : Tab) (eq : Nat → AV → AV → Option Bool) (cs ds : List AV) : List (Nat × Nat) → Option Bool
  | [] => some true
  | (off, t) :: fs => match partE T t cs off, partE T t ds off with
    | some a, some b => match eq t a b, eqFs T eq cs ds fs with
      | some r, some q => some (r && q)
      | _, _ => none
    | _, _ => none
def eqV (T : Tab) : Nat → Nat → AV → AV → Option Bool
  | 0, _, _, _ => none
  | d + 1, t, x, y => match T.desc t, x, y with
    | .int _, .int k a, .int k' b => if k = k' then some (a == b) else none
    | .bool, .bool a, .bool b => some (a == b)
    | .str, .str a, .str b => some (a == b)
    | .struct fs, .agg cs, .agg ds => eqFs T (eqV T d) cs ds fs
    | _, _, _ => none

/-- Against nil. -/
def nilV (T : Tab) (t : Nat) (x y : AV) : Option Bool :=
  match T.desc t, x, y with
  | .ptr _, .np, .np => some true
  | .ptr _, .ptr _ _, .np => some false
  | .ptr _, .rptr _ _ _ _, .np => some false
  | .ptr _, .lptr _ _ _ _, .np => some false
  | .ptr e, .ptr k o, .ptr k' o' => if (k = k' ∧ o = o') ∧ (T.size e).isSome = true then some true else none
  | .func, .nf, .nf => some true
  | .func, .fn _ _, .nf => some false
  | .map _ _, .nm, .nm => some true
  | .map _ _, .mp _, .nm => some false
  | _, _, _ => none

/-- Surely not nil. -/
def notNil : AV → Bool
  | .ptr _ _ => true
  | .rptr _ _ _ _ => true
  | .lptr _ _ _ _ => true
  | .fn _ _ => true
  | _ => false

def binOpE {R : Type} (T : Tab) (t : Nat) (op : BinOp) (x y : AV) (K : Eff → Option R) : Option R :=
  match op, x, y with
  | .shl, .int k a, .int _ b => req (decide (0 ≤ b)) (K (.val (.int k (k.wrap (a * 2 ^ (min b.toNat k.bits))))))
  | .shr, .int k a, .int _ b => req (decide (0 ≤ b)) (K (.val (.int k (a.fdiv (2 ^ (min b.toNat k.bits))))))
  | .quo, .int k a, .int k' b => if k = k' then req (b != 0) (K (.val (.int k (k.wrap (a.tdiv b))))) else none
  | .rem, .int k a, .int k' b => if k = k' then req (b != 0) (K (.val (.int k (a.tmod b)))) else none
  | op, .int k a, .int k' b => if k = k' then (match intBin op k a b with | some v => K (.val v) | none => none) else none
  | .add, .str a, .str b => req (Nat.ble (a.length + b.length) 9223372036854775807) (K (.val (.str (a ++ b))))
  | op, .str a, .str b => match strBin op a b with | some v => K (.val v) | none => none
  | .eql, .bool a, .bool b => match T.desc t with | .bool => K (.val (.bool (a == b))) | _ => none
  | .neq, .bool a, .bool b => match T.desc t with | .bool => K (.val (.bool (!(a == b)))) | _ => none
  | .eql, .agg a, .agg b => match eqV T 12 t (.agg a) (.agg b) with | some c => K (.val (.bool c)) | none => none
  | .neq, .agg a, .agg b => match eqV T 12 t (.agg a) (.agg b) with | some c => K (.val (.bool (!c))) | none => none
  | .eql, x, y => match nilV T t x y with | some c => K (.val (.bool c)) | none => none
  | .neq, x, y => match nilV T t x y with | some c => K (.val (.bool (!c))) | none => none
  | _, _, _ => none

def unOpE (op : UnOp) (x : AV) : Option AV :=
  match op, x with
  | .not, .bool b => some (.bool (!b))
  | .neg, .int k n => some (.int k (k.wrap (0 - n)))
  | .xor, .int k n => some (.int k (k.wrap (BitVec.ofInt k.bits (if k.signed then -1 else k.max) ^^^ BitVec.ofInt k.bits n).toNat))
  | _, _ => none

/-- A slice as a list of its elements. -/
def elemsOf (hp : Nat → LObj) (t : Ty) : AV → Option (List t.den)
  | .ns => some []
  | .list t' xs => if h : t' = t then some (h ▸ xs) else none
  | .rowA k => match hp k with | .row t' xs => if h : t' = t then some (h ▸ xs) else none | _ => none
  | .rowS k off len _ => match hp k with | .row t' xs => if h : t' = t then some (h ▸ ((xs.drop off).take len)) else none | _ => none
  | _ => none

def bytesInt (s : List UInt8) : List Int := s.map fun c => (c.toNat : Int)
def intBytes (xs : List Int) : List UInt8 := xs.map fun n => UInt8.ofNat n.toNat

/-- What a slice or a string gives to append and copy, for elements of a type. -/
def srcOf (hp : Nat → LObj) (t : Ty) (v : AV) : Option (List t.den) :=
  match t, v with
  | .int .u8, .str s => some (bytesInt s)
  | t, v => elemsOf hp t v

def lenE (hp : Nat → LObj) : AV → Option Nat
  | .str s => some s.length
  | .ns => some 0
  | .list _ xs => some xs.length
  | .rowA k => match hp k with | .row _ xs => some xs.length | _ => none
  | .rowS _ _ len _ => some len
  | _ => none

def lenLim : Nat := 140737488355328   -- 2^47 bytes
/-- So many elements of so many bytes may be. -/
def fits (n bytes : Nat) : Bool := decide (n * bytes ≤ lenLim) && decide (n ≤ lenLim)

/-- What a place holds. -/
def loadE (T : Tab) (hp : Nat → LObj) (t : Nat) (p : AV) : Option AV :=
  match p with
  | .ptr k off => match hp k with | .boxT _ cs => partE T t cs off | _ => none
  | .rptr k t' i off => match hp k with | .row τ xs => if τ = t' then partE T t (flat τ (xs.getD i τ.dflt)) off else none | _ => none
  | .lptr τ xs i off => partE T t (flat τ (xs.getD i τ.dflt)) off
  | _ => none

def splice (cs : List AV) (off : Nat) (vs : List AV) : List AV := cs.take off ++ vs ++ cs.drop (off + vs.length)

/-- The elements of a row behind a store into one. -/
def storeRow (τ : Ty) (xs : List τ.den) (i off : Nat) (vs : List AV) : Option (List τ.den) :=
  match unflatAll τ (splice (flat τ (xs.getD i τ.dflt)) off vs) with
  | some x => some (xs.set i x)
  | none => none

def storeE (T : Tab) (hp : Nat → LObj) (t : Nat) (p v : AV) : Option Eff :=
  match T.size t, v.cellsOf with
  | some n, some vs =>
    if vs.length = n then
      match p with
      | .ptr k off => match hp k with
        | .boxT g cs => if off + n ≤ cs.length then some (.upd k (.boxT g (splice cs off vs)) .undef) else none
        | _ => none
      | .rptr k t' i off => match hp k with
        | .row τ xs => if τ = t' then (if off + n ≤ τ.sz then (match storeRow τ xs i off vs with | some ys => some (.upd k (.row τ ys) .undef) | none => none) else none) else none
        | _ => none
      | _ => none
    else none
  | _, _ => none

/-- Parts of a composite literal, in turn, each at its place. -/
def fillE (place : Nat → Option (Nat × Nat)) (cells : List AV) : List (Nat × AV) → Option (List AV)
  | [] => some cells
  | (i, v) :: rest =>
    match place i, v.cellsOf with
    | some (off, size), some vs => if vs.length = size ∧ off + size ≤ cells.length then fillE place (splice cells off vs) rest else none
    | _, _ => none

def placesE (T : Tab) : List (Nat × Nat) → Option (List (Nat × Nat))
  | [] => some []
  | (off, t) :: fs => match T.size t, placesE T fs with | some n, some r => some ((off, n) :: r) | _, _ => none

/-- Elements of a slice literal: all of them, in turn. -/
def partsE (τ : Ty) : List (Nat × AV) → Nat → Option (List τ.den)
  | [], _ => some []
  | (i, v) :: rest, j =>
    if i = j then (match asTy τ v, partsE τ rest (j + 1) with | some x, some xs => some (x :: xs) | _, _ => none) else none

def natOf : AV → Option Int
  | .int _ n => some n
  | _ => none

def boundE (x : Option AV) (d : Int) : Option Int := match x with | some v => natOf v | none => some d

/-- Bounds of a slice expression over n places: from, to, and whether the capacity ends there. -/
def sliceGo {R : Type} (lo hi mx : Option AV) (n : Nat) (K : Nat → Nat → Bool → Option R) : Option R :=
  match boundE lo 0, boundE hi n with
  | some l, some h =>
    req (decide (0 ≤ h) && decide (h ≤ (n : Int))) (req (decide (0 ≤ l) && decide (l ≤ h)) (match mx with
      | none => K l.toNat h.toNat false
      | some m => match hi, natOf m with
        | some _, some m => req (m == h) (K l.toNat h.toNat true)
        | _, _ => none))
  | _, _ => none

def sliceE {R : Type} (T : Tab) (hp : Nat → LObj) (t : Nat) (x : AV) (lo hi mx : Option AV) (K : Eff → Option R) : Option R :=
  match T.desc t with
  | .str => match x, mx with
    | .str s, none => sliceGo lo hi none s.length fun l h _ => K (.val (.str ((s.drop l).take (h - l))))
    | _, _ => none
  | .slice e => match T.size e with
    | none => none
    | some n => match x with
      | .list τ xs => if τ.sz = n then sliceGo lo hi mx xs.length fun l h _ => K (.val (.list τ ((xs.drop l).take (h - l)))) else none
      | .rowA k => match hp k with
        | .row τ xs => if τ.sz = n then sliceGo lo hi mx xs.length fun l h c => K (.val (.rowS k l (h - l) c)) else none
        | _ => none
      | .rowS k off len false => match hp k with
        | .row τ xs => if τ.sz = n then sliceGo lo hi mx len fun l h c => K (.val (.rowS k (off + l) (h - l) c)) else none
        | _ => none
      | .ns => sliceGo lo hi none 0 fun _ _ _ => match mx with | none => K (.val .ns) | some _ => none
      | _ => none
  | _ => none

def srcKind (T : Tab) (t : Nat) : Bool := match T.desc t with | .slice _ => true | .str => true | _ => false

def appendE {R : Type} (T : Tab) (hp : Nat → LObj) (nx : Nat) (st st2 : Nat) (base src : AV) (K : Eff → Option R) : Option R :=
  match T.desc st with
  | .slice e =>
    match T.row e with
    | none => none
    | some r =>
      match r.ty with
      | none => none
      | some τ =>
        if τ.sz = r.size ∧ srcKind T st2 = true then
          match srcOf hp τ src with
          | none => none
          | some ys =>
            match base with
            | .ns => req (fits ys.length r.bytes) (K (.new [.row τ ys] (.rowA nx)))
            | .rowA k => match hp k with
              | .row τ' xs => if h : τ' = τ then req (fits (xs.length + ys.length) r.bytes) (K (.app k (.row τ (h ▸ xs ++ ys)) (.rowA k))) else none
              | _ => none
            | .rowS k off len capped => match hp k with
              | .row τ' xs =>
                if h : τ' = τ then
                  let zs : List τ.den := h ▸ xs
                  req (fits (len + ys.length) r.bytes)
                    (bif capped || decide (zs.length < off + len + ys.length)
                      then K (.app k (.row τ ((zs.drop off).take len ++ ys)) (.rowA k))
                      else K (.upd k (.row τ (zs.take (off + len) ++ ys ++ zs.drop (off + len + ys.length))) (.rowS k off (len + ys.length) false)))
                else none
              | _ => none
            | _ => none
        else none
  | _ => none

def min2E : AV → AV → Option AV
  | .int k x, .int k' y => if k = k' then some (.int k (if y < x then y else x)) else none
  | _, _ => none
def max2E : AV → AV → Option AV
  | .int k x, .int k' y => if k = k' then some (.int k (if x < y then y else x)) else none
  | _, _ => none
def foldE (f : AV → AV → Option AV) : AV → List AV → Option AV
  | x, [] => some x
  | x, y :: r => match f x y with | some z => foldE f z r | none => none

/-! ### Maps -/
def Ty.keq : (t : Ty) → t.den → t.den → Bool
  | .int _, a, b => decide ((a : Int) = b)
  | .str, a, b => (a : List UInt8) == b
  | _, _, _ => false
def lookM (kt vt : Ty) (x : kt.den) : List (kt.den × vt.den) → Option vt.den
  | [] => none
  | e :: es => bif kt.keq x e.1 then some e.2 else lookM kt vt x es
def putM (kt vt : Ty) (x : kt.den) (v : vt.den) : List (kt.den × vt.den) → List (kt.den × vt.den)
  | [] => [(x, v)]
  | e :: es => bif kt.keq x e.1 then (x, v) :: es else e :: putM kt vt x v es
def hasM (kt vt : Ty) (x : kt.den) (es : List (kt.den × vt.den)) : Bool := (lookM kt vt x es).isSome
def getM (kt vt : Ty) (x : kt.den) (es : List (kt.den × vt.den)) : vt.den := (lookM kt vt x es).getD vt.dflt
/-- The types of a map's keys and values, as data. -/
def keyTy (T : Tab) (t : Nat) : Option Ty := match T.desc t with | .int k => some (.int k) | .str => some .str | _ => none
def valTy (T : Tab) (t : Nat) : Option Ty := match T.row t with | some r => (match r.ty with | some τ => (if r.size = 1 ∧ r.desc.agg = false then some τ else none) | none => none) | none => none
def mapTys (T : Tab) (t : Nat) : Option (Ty × Ty) :=
  match T.desc t with
  | .map k e => match keyTy T k, valTy T e with | some kt, some vt => some (kt, vt) | _, _ => none
  | _ => none
def makeMapE (T : Tab) (nx t : Nat) : Option Eff := match mapTys T t with | some p => some (.new [.mpo p.1 p.2 []] (.mp nx)) | none => none
def lookE (T : Tab) (hp : Nat → LObj) (t : Nat) (m k : AV) (ok : Bool) : Option AV :=
  match mapTys T t, m with
  | some p, .mp j => match hp j with
    | .mpo kt vt es => if p = (kt, vt) ∧ k.isAgg = false then (match asTy kt k with
        | some x => (if ok then some (.tup [AV.ofTy vt (getM kt vt x es) false, .bool (hasM kt vt x es)]) else some (AV.ofTy vt (getM kt vt x es) false))
        | none => none) else none
    | _ => none
  | _, _ => none
def updE (T : Tab) (hp : Nat → LObj) (t : Nat) (m k v : AV) : Option Eff :=
  match mapTys T t, m with
  | some p, .mp j => match hp j with
    | .mpo kt vt es => if p = (kt, vt) ∧ k.isAgg = false ∧ v.isAgg = false then (match v.refs with
        | [] => (match asTy kt k, asTy vt v with
          | some x, some y => some (.upd j (.mpo kt vt (putM kt vt x y es)) .undef)
          | _, _ => none)
        | r :: rs => if (rowsOf hp (r :: rs)).length = (r :: rs).length then (match asTy kt k, asTy vt (v.frz hp (r :: rs)) with
            | some x, some y => some (.call (r :: rs) [j] [.mpo kt vt (putM kt vt x y es)] [.undef])
            | _, _ => none) else none) else none
    | _ => none
  | _, _ => none

/-- Copy of a string into a row's part. -/
def copyE (T : Tab) (hp : Nat → LObj) (t t2 : Nat) (dst src : AV) : Option Eff :=
  match T.desc t with
  | .slice e => (match T.desc t2, src, dst with
    | .str, .str s, .rowS k off len _ => (match hp k with
      | .row (.int .u8) xs => if T.size e = some 1 then some (.upd k (.row (.int .u8) (xs.take off ++ (bytesInt s).take len ++ xs.drop (off + min len s.length))) (.int .i64 (min len s.length : Nat))) else none
      | _ => none)
    | _, _, _ => none)
  | _ => none

/-! ### Calls -/
/-- Nil slices in a struct are empty ones. -/
def dataNs : List AV → List (Option Ty) → List AV
  | .ns :: cs, some t :: ts => .list t [] :: dataNs cs ts
  | c :: cs, _ :: ts => c :: dataNs cs ts
  | cs, [] => cs
  | [], _ => []
def dataAgg (T : Tab) (t : Nat) (v : AV) : AV :=
  match v with
  | .agg cs => (match T.row t with | some r => .agg (dataNs cs r.cty) | none => .agg cs)
  | v => v
def nildV (T : Tab) (t : Nat) (v : AV) : AV := bif T.nild then dataAgg T t v else v
/-- A nil slice that is handed over is an empty one. -/
def normArg (T : Tab) (t : Nat) (v : AV) : AV :=
  match v with
  | .ns => match T.desc t with | .slice e => (match T.ty e with | some τ => .list τ [] | none => .ns) | _ => .ns
  | v => dataAgg T t v
def normArgs (T : Tab) : List Nat → List AV → List AV
  | t :: ts, v :: vs => normArg T t v :: normArgs T ts vs
  | [], vs => vs
  | _, [] => []

-- nothing in it leads to memory
mutual
def AV.plain : AV → Bool
  | .int _ _ => true
  | .bool _ => true
  | .str _ => true
  | .np => true
  | .undef => true
  | .agg cs => AV.plainL cs
  | .tup cs => AV.plainL cs
  | _ => false
def AV.plainL : List AV → Bool
  | [] => true
  | v :: vs => AV.plain v && AV.plainL vs
end

-- nothing in it is data in memory
def Ty.flatTy : Ty → Bool
  | .list _ => false
  | .pair a b => a.flatTy && b.flatTy
  | _ => true
mutual
def AV.thin : AV → Bool
  | .list _ _ => false
  | .lptr _ _ _ _ => false
  | .agg cs => AV.thinL cs
  | .tup cs => AV.thinL cs
  | .fn _ cs => AV.thinL cs
  | _ => true
def AV.thinL : List AV → Bool
  | [] => true
  | v :: vs => AV.thin v && AV.thinL vs
end
def LObj.thin : LObj → Bool
  | .boxT _ cs => AV.thinL cs
  | .row t _ => t.flatTy
  | .mpo kt vt _ => kt.flatTy && vt.flatTy
  | _ => false

def callE {R : Type} (T : Tab) (orc : Orc) (hp : Nat → LObj) (f : Nat) (args : List AV) (K : Eff → Option R) : Option R :=
  let rs := AV.refsL args
  let rows := rowsOf hp rs
  if rows.length = rs.length then
    (orc f (AV.frzL hp rs args) []).run fun q =>
      if AV.plainL q.1 && q.2.isEmpty then K (.val (tupled q.1))
      else match rs with
        | [] => if q.2.isEmpty && (AV.refsL q.1).isEmpty then K (.val (tupled q.1)) else K (.call [] [] q.2 q.1)
        | r :: rs => if AV.thinL q.1 && q.2.all LObj.thin then K (.call [] [] q.2 q.1) else K (.call (r :: rs) [] q.2 q.1)
  else
    let ks := reach hp 1000 rs []
    let g := fun k => posIn k ks 0
    (orc f (AV.renL g args) (ks.map fun k => (hp k).ren g)).run fun q => K (.call [] ks q.2 q.1)

def lenTE (T : Tab) (hp : Nat → LObj) (t : Nat) (x : AV) : Option Nat :=
  match T.desc t, x with
  | .str, .str s => some s.length
  | .str, _ => none
  | .slice _, .str _ => none
  | .slice _, x => lenE hp x
  | _, _ => none

def builtinE {R : Type} (T : Tab) (hp : Nat → LObj) (nx : Nat) (b : Builtin) (ts : List Nat) (vs : List AV) (K : Eff → Option R) : Option R :=
  match b, ts, vs with
  | .len, [t], [x] => match lenTE T hp t x with | some n => K (.val (.int .i64 n)) | none => none
  | .append, [t, t2], [x, y] => appendE T hp nx t t2 x y K
  | .min, _, x :: r => match foldE min2E x r with | some v => K (.val v) | none => none
  | .max, _, x :: r => match foldE max2E x r with | some v => K (.val v) | none => none
  | .copy, [t, t2], [x, y] => match copyE T hp t t2 x y with | some f => K f | none => none
  | _, _, _ => none

def buildE (T : Tab) (t : Nat) (parts : List (Nat × AV)) : Option AV :=
  match T.row t with
  | none => none
  | some r =>
    match r.desc with
    | .struct fs => match placesE T fs with
      | some ps => (match fillE (fun i => ps[i]?) r.zero parts with | some cs => some (.agg cs) | none => none)
      | none => none
    | .array _ e => match T.size e with
      | some n => (match fillE (fun i => some (i * n, n)) r.zero parts with | some cs => some (.agg cs) | none => none)
      | none => none
    | _ => none

def buildSliceE {R : Type} (T : Tab) (hp : Nat → LObj) (nx : Nat) (t len : Nat) (parts : List (Nat × AV)) (K : Eff → Option R) : Option R :=
  match T.desc t with
  | .slice e => match T.row e with
    | none => none
    | some r => match r.ty with
      | none => none
      | some τ =>
        if τ.sz = r.size ∧ parts.length = len ∧ len * r.size ≤ 16777216 then
          let rs := AV.refsL (parts.map (·.2))
          if (rowsOf hp rs).length = rs.length then
            match partsE τ (parts.map fun p => (p.1, p.2.frz hp rs)) 0 with
            | some xs => match rs with
              | [] => K (.new [.row τ xs] (.rowA nx))
              | _ => K (.frz rs [.row τ xs] (.rowA nx))
            | none => none
          else none
        else none
  | _ => none

def makeSliceE {R : Type} (T : Tab) (nx : Nat) (t : Nat) (l c : AV) (K : Eff → Option R) : Option R :=
  match T.desc t with
  | .slice e => match T.row e with
    | none => none
    | some r => match r.ty, natOf l, natOf c with
      | some τ, some l, some c =>
        if τ.sz = r.size then
          req (decide (0 ≤ l) && (l == c) && fits l.toNat r.bytes) (K (.new [.row τ (List.replicate l.toNat τ.dflt)] (.rowA nx)))
        else none
      | _, _, _ => none
  | _ => none

def convertE {R : Type} (T : Tab) (hp : Nat → LObj) (nx : Nat) (src dst : Nat) (x : AV) (K : Eff → Option R) : Option R :=
  match T.desc src, T.desc dst, x with
  | .int _, .int k, .int _ n => K (.val (.int k (k.wrap n)))
  | .str, .str, .str s => K (.val (.str s))
  | .str, .slice e, .str s => match T.desc e with
    | .int .u8 => req (fits s.length 1) (K (.new [.row (.int .u8) (bytesInt s)] (.rowA nx)))
    | _ => none
  | .slice e, .str, x => match T.desc e with
    | .int .u8 => match elemsOf hp (.int .u8) x with | some xs => K (.val (.str (intBytes xs))) | none => none
    | _ => none
  | _, _, _ => none

def fieldOff (T : Tab) (s f : Nat) : Option (Nat × Nat) := match T.desc s with | .struct fs => fs[f]? | _ => none

def fieldAddrE (T : Tab) (s : Nat) (p : AV) (f : Nat) : Option AV :=
  match fieldOff T s f with
  | none => none
  | some (d, t) => match T.size t with
    | some n => if n = 0 then none else match p with
      | .ptr k off => some (.ptr k (off + d))
      | .rptr k t i off => some (.rptr k t i (off + d))
      | .lptr t xs i off => some (.lptr t xs i (off + d))
      | _ => none
    | none => none

def indexAddrE {R : Type} (T : Tab) (hp : Nat → LObj) (t : Nat) (x ix : AV) (K : Eff → Option R) : Option R :=
  match natOf ix with
  | none => none
  | some i =>
    match T.desc t with
    | .slice e =>
      match x with
      | .list τ xs => if T.size e = some τ.sz then req (decide (0 ≤ i)) (req (decide (i < xs.length)) (K (.val (.lptr τ xs i.toNat 0)))) else none
      | .rowA k => match hp k with
        | .row τ xs => if T.size e = some τ.sz then req (decide (0 ≤ i)) (req (decide (i < xs.length)) (K (.val (.rptr k τ i.toNat 0)))) else none
        | _ => none
      | .rowS k off len _ => match hp k with
        | .row τ _ => if T.size e = some τ.sz then req (decide (0 ≤ i)) (req (decide (i < len)) (K (.val (.rptr k τ (off + i.toNat) 0)))) else none
        | _ => none
      | _ => none
    | .array n e =>
      match x, T.size e with
      | .ptr k off, some m => pickIdx i n 0 fun j => K (.val (.ptr k (off + j * m)))
      | _, _ => none
    | _ => none

def indexE {R : Type} (T : Tab) (t : Nat) (x ix : AV) (K : Eff → Option R) : Option R :=
  match natOf ix with
  | none => none
  | some i =>
    match T.desc t, x with
    | .str, .str s => req (decide (0 ≤ i)) (req (decide (i < s.length)) (K (.val (.int .u8 (s.getD i.toNat 0).toNat))))
    | .array n e, .agg cs => match T.size e with
      | some m => pickIdx i n 0 fun j => match partE T e cs (j * m) with | some v => K (.val v) | none => none
      | none => none
    | _, _ => none

def tagOf (T : Tab) (t : Nat) : Option Nat := match T.tag t with | true => some t | false => none
/-- A value that is put into a box: a nil slice among its cells becomes a row of its own. -/
def boxE (T : Tab) (nx : Nat) (t : Nat) (cs : List AV) : Option Eff :=
  match T.row t with
  | some r => let p := liven cs r.cty (nx + 1); some (.new (.boxT (tagOf T t) p.1 :: p.2) (.ptr nx 0))
  | none => none

/-- A nil slice that is assigned to a variable becomes a row of its own. -/
def assignE (T : Tab) (nx : Nat) (t : Nat) (v : AV) : Eff :=
  match v with
  | .ns => match T.desc t with
    | .slice e => (match T.ty e with | some τ => .new [.row τ []] (.rowA nx) | none => .val .ns)
    | _ => .val .ns
  | v => .val (dataAgg T t v)

def makeFnE : Fn → List Operand → List AV → Option AV
  | .func f, [], caps => some (.fn f caps)
  | _, _, _ => none

def evOp {R : Type} (T : Tab) (orc : Orc) (o : Op) (ty : Nat) (st : St) (K : Eff → Option R) : Option R :=
  let ρ := st.ev
  match o with
  | .move x => K (.val (ρ x))
  | .assign x => K (assignE T st.nx ty (ρ x))
  | .pick c a b => match ρ c with | .bool t => bif t then K (.val (ρ a)) else K (.val (ρ b)) | _ => none
  | .alloc e => match T.row e with
    | some r => match boxE T st.nx e r.zero with | some f => K f | none => none
    | none => none
  | .box e x => match (ρ x).cellsOf with
    | some cs => match boxE T st.nx e cs with | some f => K f | none => none
    | none => none
  | .build t ps => match buildE T t (ps.toList.map fun p => (p.1, ρ p.2)) with | some v => K (.val v) | none => none
  | .buildSlice t n ps => buildSliceE T st.hp st.nx t n (ps.toList.map fun p => (p.1, ρ p.2)) K
  | .load t a => match loadE T st.hp t (ρ a) with | some v => K (.val v) | none => none
  | .store t a x => match storeE T st.hp t (ρ a) (nildV T t (ρ x)) with | some f => K f | none => none
  | .nilCheck x => if notNil (ρ x) then K (.val (ρ x)) else none
  | .binOp op t x y _ => binOpE T t op (ρ x) (ρ y) K
  | .unOp op _ x => match unOpE op (ρ x) with | some v => K (.val v) | none => none
  | .convert s d x => convertE T st.hp st.nx s d (ρ x) K
  | .makeFunc fn first caps => match makeFnE fn first.toList (caps.toList.map ρ) with | some v => K (.val v) | none => none
  | .makeSlice t l c => makeSliceE T st.nx t (ρ l) (ρ c) K
  | .slice t x lo hi mx => sliceE T st.hp t (ρ x) (lo.map ρ) (hi.map ρ) (mx.map ρ) K
  | .fieldAddr s x f => match fieldAddrE T s (ρ x) f with | some v => K (.val v) | none => none
  | .field s x f => match fieldOff T s f, ρ x with
    | some (d, t), .agg cs => match partE T t cs d with | some v => K (.val v) | none => none
    | _, _ => none
  | .indexAddr t x i => indexAddrE T st.hp t (ρ x) (ρ i) K
  | .index t x i => indexE T t (ρ x) (ρ i) K
  | .makeMap t r => match r with | none => (match makeMapE T st.nx t with | some f => K f | none => none) | some _ => none
  | .lookup t m k ok => match lookE T st.hp t (ρ m) (ρ k) ok with | some v => K (.val v) | none => none
  | .mapUpdate t m k v => match updE T st.hp t (ρ m) (ρ k) (ρ v) with | some f => K f | none => none
  | .insert t m k v => match updE T st.hp t (ρ m) (ρ k) (ρ v) with | some f => K f | none => none
  | .extract x i => match ρ x with
    | .tup vs => match vs[i]? with | some v => K (.val v) | none => none
    | _ => none
  | .call c => match c.callee with
    | .builtin b => builtinE T st.hp st.nx b c.argTypes.toList (c.args.toList.map ρ) K
    | .value f => match ρ f with
      | .fn g caps => callE T orc st.hp g (normArgs T c.argTypes.toList (c.args.toList.map ρ) ++ caps) K
      | _ => none
    | _ => none
  | _ => none

/-! ### Regions -/
def dstOf (all : List Oper) (j : Nat) : Option Nat := match all[j]? with | some o => o.dst | none => none

/-- Under its guard: run, or skipped. -/
def gate {R : Type} (all : List Oper) (o : Oper) (st : St) (run skip : St → Option R) : Option R :=
  match o.guard with
  | none => run st
  | some (j, want) => match dstOf all j with
    | none => none
    | some t => match st.tm t with
      | .bool b => match want with
        | true => bif b then run (st.put t (.bool true)) else skip (st.put t (.bool false))
        | false => bif b then skip (st.put t (.bool true)) else run (st.put t (.bool false))
      | .undef => skip st
      | _ => none

/-- The same, reckoned out: so that what stands behind doesn't hang on the way here. -/
def forceN {R : Type} (n : Nat) (K : Nat → Option R) : Option R := bif Nat.beq n 0 then K 0 else bif Nat.beq n 1 then K 1 else bif Nat.beq n 2 then K 2 else bif Nat.beq n 3 then K 3 else bif Nat.beq n 4 then K 4 else bif Nat.beq n 5 then K 5 else bif Nat.beq n 6 then K 6 else bif Nat.beq n 7 then K 7 else bif Nat.beq n 8 then K 8 else bif Nat.beq n 9 then K 9 else bif Nat.beq n 10 then K 10 else bif Nat.beq n 11 then K 11 else bif Nat.beq n 12 then K 12 else bif Nat.beq n 13 then K 13 else bif Nat.beq n 14 then K 14 else bif Nat.beq n 15 then K 15 else bif Nat.beq n 16 then K 16 else bif Nat.beq n 17 then K 17 else bif Nat.beq n 18 then K 18 else bif Nat.beq n 19 then K 19 else bif Nat.beq n 20 then K 20 else bif Nat.beq n 21 then K 21 else bif Nat.beq n 22 then K 22 else bif Nat.beq n 23 then K 23 else bif Nat.beq n 24 then K 24 else bif Nat.beq n 25 then K 25 else bif Nat.beq n 26 then K 26 else bif Nat.beq n 27 then K 27 else bif Nat.beq n 28 then K 28 else bif Nat.beq n 29 then K 29 else bif Nat.beq n 30 then K 30 else bif Nat.beq n 31 then K 31 else K n
mutual
def forceV {R : Type} : AV → (AV → Option R) → Option R
  | .int k n, K => K (.int k n)
  | .bool b, K => K (.bool b)
  | .str s, K => K (.str s)
  | .list t xs, K => K (.list t xs)
  | .agg cs, K => forceL cs fun cs => K (.agg cs)
  | .tup cs, K => forceL cs fun cs => K (.tup cs)
  | .np, K => K .np
  | .nm, K => K .nm
  | .nf, K => K .nf
  | .ns, K => K .ns
  | .ptr k off, K => forceN k fun k => forceN off fun off => K (.ptr k off)
  | .rptr k t i off, K => forceN k fun k => forceN off fun off => K (.rptr k t i off)
  | .lptr t xs i off, K => forceN off fun off => K (.lptr t xs i off)
  | .rowA k, K => forceN k fun k => K (.rowA k)
  | .rowS k off n c, K => forceN k fun k => K (.rowS k off n c)
  | .mp k, K => forceN k fun k => K (.mp k)
  | .fn g cs, K => forceL cs fun cs => K (.fn g cs)
  | .undef, K => K .undef
  | .dead, K => K .dead
def forceL {R : Type} : List AV → (List AV → Option R) → Option R
  | [], K => K []
  | v :: vs, K => forceV v fun v => forceL vs fun vs => K (v :: vs)
end
def forceO {R : Type} (o : LObj) (K : LObj → Option R) : Option R :=
  match o with
  | .boxT g cs => forceL cs fun cs => K (.boxT g cs)
  | .row t xs => K (.row t xs)
  | .mpo kt vt es => K (.mpo kt vt es)
  | .gone => K .gone
def forceOs {R : Type} : List LObj → (List LObj → Option R) → Option R
  | [], K => K []
  | o :: os, K => forceO o fun o => forceOs os fun os => K (o :: os)
def keepSt (ls : List Nat) (st : St) : St := stOf ls (ls.map st.tm) ((rng 0 st.nx).map st.hp)
def forceSt {R : Type} (o : Option (List Nat)) (st : St) (K : St → Option R) : Option R :=
  match o with
  | none => K st
  | some ls => forceN st.nx fun nx => forceL (ls.map st.tm) fun vs => forceOs ((rng 0 nx).map st.hp) fun os => K (stOf ls vs os)
theorem force_step {R : Type} {n i : Nat} {K : Nat → Option R} {x : Option R} (h : x = K n) : (bif Nat.beq n i then K i else x) = K n := by
  cases hb : Nat.beq n i with
  | true => rw [cond_true, Nat.eq_of_beq_eq_true hb]
  | false => rw [cond_false, h]
theorem forceN_eq {R : Type} (n : Nat) (K : Nat → Option R) : forceN n K = K n := by
  unfold forceN
  repeat refine force_step ?_
  rfl
mutual
theorem forceV_eq {R : Type} : ∀ (v : AV) (K : AV → Option R), forceV v K = K v
  | .int k n, K => by simp only [forceV]
  | .bool b, K => by simp only [forceV]
  | .str s, K => by simp only [forceV]
  | .list t xs, K => by simp only [forceV]
  | .agg cs, K => by simp only [forceV]; rw [forceL_eq cs]
  | .tup cs, K => by simp only [forceV]; rw [forceL_eq cs]
  | .np, K => by simp only [forceV]
  | .nm, K => by simp only [forceV]
  | .nf, K => by simp only [forceV]
  | .ns, K => by simp only [forceV]
  | .ptr k off, K => by simp only [forceV, forceN_eq]
  | .rptr k t i off, K => by simp only [forceV, forceN_eq]
  | .lptr t xs i off, K => by simp only [forceV, forceN_eq]
  | .rowA k, K => by simp only [forceV, forceN_eq]
  | .rowS k off n c, K => by simp only [forceV, forceN_eq]
  | .mp k, K => by simp only [forceV, forceN_eq]
  | .fn g cs, K => by simp only [forceV]; rw [forceL_eq cs]
  | .undef, K => by simp only [forceV]
  | .dead, K => by simp only [forceV]
theorem forceL_eq {R : Type} : ∀ (vs : List AV) (K : List AV → Option R), forceL vs K = K vs
  | [], K => by simp only [forceL]
  | v :: vs, K => by simp only [forceL]; rw [forceV_eq v, forceL_eq vs]
end
theorem forceOs_eq {R : Type} : ∀ (os : List LObj) (K : List LObj → Option R), forceOs os K = K os
  | [], K => rfl
  | o :: os, K => by
    simp only [forceOs]
    have : ∀ (K : LObj → Option R), forceO o K = K o := fun K => by cases o <;> simp only [forceO, forceL_eq]
    rw [this, forceOs_eq os]
theorem forceSt_eq {R : Type} (o : Option (List Nat)) (st : St) (K : St → Option R) : forceSt o st K = K (match o with | none => st | some ls => keepSt ls st) := by
  cases o with
  | none => rfl
  | some ls => simp only [forceSt, forceN_eq, forceL_eq, forceOs_eq, keepSt]

def laySt {R : Type} (st : St) (K : St → Option R) : Option R := match st with | ⟨tm, hp, nx⟩ => forceN nx fun nx => K ⟨tm, hp, nx⟩
theorem laySt_eq {R : Type} (st : St) (K : St → Option R) : laySt st K = K st := by
  cases st
  simp only [laySt]
  rw [forceN_eq]
def midOf (T : Tab) (o : Oper) : Option (List Nat) := match o.dst with | some t => T.mid t | none => none
def evOps {R : Type} (T : Tab) (orc : Orc) (all : List Oper) : List Oper → St → (St → Option R) → Option R
  | [], st, K => K st
  | o :: os, st, K =>
    gate all o st
      (fun st => evOp T orc o.op o.type st fun f => let r := st.apply f; forceSt (midOf T o) (r.2.putO o.dst r.1) fun st => evOps T orc all os st K)
      (fun st => evOps T orc all os (st.putO o.dst .undef) K)

-- no row's name in it, and nothing unknown: a row that moves leaves it as it is
mutual
def AV.solid : AV → Bool
  | .agg cs => AV.solidL cs
  | .tup cs => AV.solidL cs
  | .fn _ cs => AV.solidL cs
  | .rptr _ _ _ _ => false
  | .rowA _ => false
  | .rowS _ _ _ _ => false
  | .dead => false
  | _ => true
def AV.solidL : List AV → Bool
  | [] => true
  | v :: vs => AV.solid v && AV.solidL vs
end
/-- Operations that look at no memory. -/
def blindOp : Op → Bool
  | .move _ => true
  | .assign _ => true
  | .pick _ _ _ => true
  | .build _ _ => true
  | .nilCheck _ => true
  | .binOp _ _ _ _ _ => true
  | .unOp _ _ _ => true
  | .makeFunc _ _ _ => true
  | .fieldAddr _ _ _ => true
  | .field _ _ _ => true
  | .index _ _ _ => true
  | .extract _ _ => true
  | _ => false
def opVals (st : St) (o : Op) : List AV := o.operands.toList.map st.ev
-- all names in it are older than n0, and none is lost
mutual
def AV.low (n0 : Nat) : AV → Bool
  | .agg cs => AV.lowL n0 cs
  | .tup cs => AV.lowL n0 cs
  | .fn _ cs => AV.lowL n0 cs
  | .rptr k _ _ _ => Nat.blt k n0
  | .rowA k => Nat.blt k n0
  | .rowS k _ _ _ => Nat.blt k n0
  | .ptr k _ => Nat.blt k n0
  | .mp k => Nat.blt k n0
  | .dead => false
  | _ => true
def AV.lowL (n0 : Nat) : List AV → Bool
  | [] => true
  | v :: vs => AV.low n0 v && AV.lowL n0 vs
end
def LObj.low (n0 : Nat) : LObj → Bool
  | .boxT _ cs => AV.lowL n0 cs
  | .row _ _ => true
  | .mpo _ _ _ => true
  | _ => false

/-- A class, and the objects that are looked at (3), or changed (6). -/
abbrev Cls := Nat × List Nat
def LObj.solid : LObj → Bool
  | .boxT _ cs => AV.solidL cs
  | .row _ _ => true
  | .mpo _ _ _ => true
  | _ => false

-- all names in it are n0 or newer, and none is lost
mutual
def AV.high (n0 : Nat) : AV → Bool
  | .agg cs => AV.highL n0 cs
  | .tup cs => AV.highL n0 cs
  | .fn _ cs => AV.highL n0 cs
  | .rptr k _ _ _ => Nat.ble n0 k
  | .rowA k => Nat.ble n0 k
  | .rowS k _ _ _ => Nat.ble n0 k
  | .dead => false
  | _ => true
def AV.highL (n0 : Nat) : List AV → Bool
  | [] => true
  | v :: vs => AV.high n0 v && AV.highL n0 vs
end
def LObj.high (n0 : Nat) : LObj → Bool
  | .boxT _ cs => AV.highL n0 cs
  | .row _ _ => true
  | .mpo _ _ _ => true
  | _ => false
def isAlloc : Op → Bool | .alloc _ => true | _ => false
def isCall : Op → Bool | .call c => (match c.callee with | .value _ => true | _ => false) | _ => false
/-- A call that is handed old objects, and makes no new ones. -/
def plainCall (n0 : Nat) (st : St) (o : Op) (ks : List Nat) (objs : List LObj) (vs : List AV) : Bool :=
  isCall o && (Nat.beq objs.length ks.length && (ks.all (fun k => Nat.blt k n0) && (AV.lowL n0 (opVals st o) && ((AV.refsL vs).all (fun i => Nat.blt i ks.length) && objs.all (fun ob => ob.refs.all fun i => Nat.blt i ks.length)))))

/-- Effects by what stands beside them in either order. 0: a value that holds no row; 1: one of old names, memory isn't looked at; 2: memory isn't looked at; 3: of old names; 4: other values; 5: new objects; 6: a change in place; 7: a new row grows; 8: another row grows, a call; 9: the rest. -/
def classOf (n0 : Nat) (st : St) (o : Op) (f : Eff) : Cls :=
  match f with
  | .val v =>
    bif (blindOp o || (AV.refsL (opVals st o)).isEmpty) && (AV.solidL (opVals st o) && v.solid) then (0, [])
    else bif blindOp o then (bif AV.lowL n0 (opVals st o) && v.low n0 then (1, []) else (2, []))
    else bif (AV.lowL n0 (opVals st o) && v.low n0) && (AV.refsL (opVals st o)).all (fun k => (st.hp k).low n0) then
      (bif (AV.solidL (opVals st o) && v.solid) && (AV.refsL (opVals st o)).all (fun k => (st.hp k).solid) then (10, AV.refsL (opVals st o)) else (3, AV.refsL (opVals st o))) else (4, [])
  | .new os v => bif isAlloc o && (v.high n0 && os.all (LObj.high n0)) then (12, []) else (5, [])
  | .upd k _ _ => (6, [k])
  | .app k _ _ => bif Nat.ble n0 k then (7, []) else (8, [k])
  | .call [] [] _ _ => (8, [])
  | .call [] (k :: ks) objs vs => bif plainCall n0 st o (k :: ks) objs vs then (11, k :: ks) else (8, k :: ks)
  | _ => (9, [])

def apartN (xs ys : List Nat) : Bool := xs.all fun a => ys.all fun b => !Nat.beq a b
/-- In either order it comes to the same. -/
def valC (x : Cls) : Bool := Nat.ble x.1 4 || Nat.beq x.1 10
def meet1 (x y : Cls) : Bool := (valC x && valC y) || ((Nat.ble x.1 3 || Nat.beq x.1 10) && (Nat.beq y.1 5 || Nat.beq y.1 12)) || ((Nat.ble x.1 2 || ((Nat.beq x.1 3 || Nat.beq x.1 10) && apartN x.2 y.2)) && Nat.beq y.1 6) || ((Nat.ble x.1 1 || (Nat.beq x.1 3 || Nat.beq x.1 10)) && Nat.beq y.1 7) ||
  ((Nat.beq x.1 0 || (Nat.beq x.1 10 && apartN x.2 y.2)) && (Nat.beq y.1 8 || Nat.beq y.1 11)) || (Nat.beq x.1 11 && Nat.beq y.1 12)
def meet (x y : Cls) : Bool := meet1 x y || meet1 y x
def mayMeet (bs : List Nat) (cs : List Cls) : Bool :=   -- bs: what must stand ahead of each; cs: the classes
  (rng 0 cs.length).all fun j => (rng 0 j).all fun i => (bs.getD j 0).testBit i || meet (cs.getD i (9, [])) (cs.getD j (9, []))
/-- What may stand in either order writes and reads nothing in common. -/
def drawOk (ops : Array Oper) (bs : List Nat) : Bool :=
  (rng 0 ops.size).all fun j => (match ops[j]? with | some o => o.after.toList.all fun e => !Region.binds .any e || Nat.blt e.on j | none => false) && (rng 0 j).all fun i => (bs.getD j 0).testBit i || (match ops[i]?, ops[j]? with | some x, some y => Oper.apart ops x y | _, _ => false)

def forceNs {R : Type} : List Nat → (List Nat → Option R) → Option R
  | [], K => K []
  | n :: ns, K => forceN n fun n => forceNs ns fun ns => K (n :: ns)
def forceC {R : Type} (c : Cls) (K : Cls → Option R) : Option R := match c with | (a, b) => forceN a fun a => forceNs b fun b => K (a, b)
theorem forceNs_eq {R : Type} : ∀ (ns : List Nat) (K : List Nat → Option R), forceNs ns K = K ns
  | [], K => rfl
  | n :: ns, K => by simp only [forceNs]; rw [forceN_eq, forceNs_eq ns]
theorem forceC_eq {R : Type} (c : Cls) (K : Cls → Option R) : forceC c K = K c := by
  obtain ⟨a, b⟩ := c
  simp only [forceC]
  rw [forceN_eq, forceNs_eq]
def evDraw {R : Type} (T : Tab) (orc : Orc) (all : List Oper) (bs : List Nat) (n0 : Nat) : List Oper → List Cls → St → (St → Option R) → Option R
  | [], cs, st, K => bif mayMeet bs cs.reverse then K st else none
  | o :: os, cs, st, K =>
    gate all o st
      (fun st => evOp T orc o.op o.type st fun f => let r := st.apply f; forceC (classOf n0 st o.op f) fun c => forceV r.1 fun v => laySt (r.2.putO o.dst v) fun st => evDraw T orc all bs n0 os (c :: cs) st K)
      (fun st => laySt (st.putO o.dst .undef) fun st => evDraw T orc all bs n0 os ((0, []) :: cs) st K)

/-! ### Code -/
def refine (st : St) (c : Operand) (b : Bool) : St := match c with | .tmp t => st.put t (.bool b) | _ => st
def seqK {R : Type} (y : St → Option R) (K : Ex → St → Option R) : Ex → St → Option R
  | .normal, st => y st
  | e, st => K e st
def blockK {R : Type} (id : Nat) (K : Ex → St → Option R) : Ex → St → Option R
  | .exit i, st => bif i == id then K .normal st else K (.exit i) st
  | e, st => K e st
def condE {R : Type} (st : St) (c : Operand) (x y : St → Option R) : Option R :=
  match st.ev c with
  | .bool b => bif b then x (refine st c true) else y (refine st c false)
  | _ => none

abbrev Lp := Nat → Code → St → Tr (Ex × St)

def evC {R : Type} (T : Tab) (orc : Orc) (lp : Lp) : Code → Nat → St → (Ex → St → Option R) → Option R
  | .skip, _, st, K => K .normal st
  | .region id ops draw, _, st, K =>
    if draw then (bif drawOk ops (Region.before ops).toList then evDraw T orc ops.toList (Region.before ops).toList st.nx ops.toList [] st (fun st => forceSt (T.live id) st (K .normal)) else none)
    else evOps T orc ops.toList ops.toList st (fun st => forceSt (T.live id) st (K .normal))
  | .seq a b, bid, st, K => evC T orc lp a bid st (seqK (fun st => evC T orc lp b bid st K) K)
  | .cond c x y, bid, st, K => condE st c (fun st => evC T orc lp x bid st K) (fun st => evC T orc lp y bid st K)
  | .block id body, _, st, K => evC T orc lp body id st (blockK id K)
  | .loop body, bid, st, K => (lp bid body st).run fun r => K r.1 r.2
  | .exit id, _, st, K => K (.exit id) st
  | .ret, _, st, K => K .ret st
  | .label _, _, st, K => K .normal st
  | _, _, _, _ => none

/-- Rounds of a loop, n at most; and as many as there are. -/
def loopN (F : St → Option (St ⊕ (Ex × St))) : Nat → St → Option (Ex × St)
  | 0, _ => none
  | n + 1, st => match F st with
    | none => none
    | some (.inr r) => some r
    | some (.inl st') => loopN F n st'
theorem loopN_more (F : St → Option (St ⊕ (Ex × St))) {r : Ex × St} : ∀ (n m : Nat) (st : St), n ≤ m → loopN F n st = some r → loopN F m st = some r
  | 0, _, _, _, h => by simp [loopN] at h
  | n + 1, 0, _, h, _ => by omega
  | n + 1, m + 1, st, hnm, h => by
    simp only [loopN] at h ⊢
    split at h
    · simp at h
    · exact h
    · exact loopN_more F n m _ (by omega) h
open Classical in
noncomputable def loopF (F : St → Option (St ⊕ (Ex × St))) (st : St) : Option (Ex × St) :=
  if h : ∃ n r, loopN F n st = some r then some h.choose_spec.choose else none
theorem loopF_of {F : St → Option (St ⊕ (Ex × St))} {st : St} {r : Ex × St} {n : Nat} (h : loopN F n st = some r) : loopF F st = some r := by
  have hex : ∃ n r, loopN F n st = some r := ⟨n, r, h⟩
  unfold loopF
  rw [dif_pos hex]
  have h2 := hex.choose_spec.choose_spec
  have h3 := loopN_more F _ (max n hex.choose) st (Nat.le_max_right _ _) h2
  have h4 := loopN_more F _ (max n hex.choose) st (Nat.le_max_left _ _) h
  rw [h3] at h4
  exact h4
theorem of_loopF {F : St → Option (St ⊕ (Ex × St))} {st : St} {r : Ex × St} (h : loopF F st = some r) : ∃ n, loopN F n st = some r := by
  unfold loopF at h
  split at h
  · rename_i hex
    obtain rfl := Option.some.inj h
    exact ⟨_, hex.choose_spec.choose_spec⟩
  · simp at h
theorem loopF_inr {F : St → Option (St ⊕ (Ex × St))} {st : St} {r : Ex × St} (h : F st = some (.inr r)) : loopF F st = some r :=
  loopF_of (n := 1) (by simp [loopN, h])
theorem loopF_inl {F : St → Option (St ⊕ (Ex × St))} {st st' : St} (h : F st = some (.inl st')) : loopF F st = loopF F st' := by
  cases hr : loopF F st' with
  | some r =>
    obtain ⟨n, hn⟩ := of_loopF hr
    exact loopF_of (n := n + 1) (by simp [loopN, h, hn])
  | none =>
    cases hl : loopF F st with
    | none => rfl
    | some r =>
      obtain ⟨n, hn⟩ := of_loopF hl
      cases n with
      | zero => simp [loopN] at hn
      | succ n =>
        simp only [loopN, h] at hn
        rw [loopF_of hn] at hr
        cases hr

def roundK (keep keepX : List Nat) (n0 : Nat) : Ex → St → Option (St ⊕ (Ex × St))
  | .normal, st => some (.inl (norm keep n0 st))
  | e, st => some (.inr (e, norm keepX n0 st))

structure Hint where
  keep : Nat → List Nat     -- of a loop (by its block's number): the slots that live at its head
  keepX : Nat → List Nat    -- .. and behind it
  own : Bool := false       -- what is handed back is the caller's own

noncomputable def lpN (T : Tab) (orc : Orc) (H : Hint) (n0 : Nat) : Nat → Lp
  | 0 => fun _ _ _ => .no
  | n + 1 => fun bid body st =>
    .of (loopF (fun st => evC T orc (lpN T orc H n0 n) body bid st (roundK (H.keep bid) (H.keepX bid) n0)) (norm (H.keep bid) n0 st))

/-! ### Functions -/
def startTm : List AV → Nat → List (Nat × AV)
  | [], _ => []
  | v :: vs, i => (i, v) :: startTm vs (i + 1)
def startSt (args : List AV) (objs : List LObj) (nt : Nat) : St :=
  { tm := fun t => bif Nat.blt t args.length then ofTm (startTm args 0) t else bif Nat.blt t nt then .undef else .dead, hp := ofHp objs, nx := objs.length }

def resultsE (T : Tab) (st : St) : List ResultVar → Option (List AV)
  | [] => some []
  | .tmp t :: rs => match resultsE T st rs with | some vs => some (st.tm t :: vs) | none => none
  | .cell a t :: rs => match loadE T st.hp t (st.tm a), resultsE T st rs with | some v, some vs => some (v :: vs) | _, _ => none

/-- What a call hands back: rows of its own become data (but where they are the caller's). -/
def finish (T : Tab) (own : Bool) (n0 : Nat) (rts : List Nat) (st : St) (vs : List AV) : Res :=
  let vs := normArgs T rts vs
  let fz := bif own then [] else (rowsOf st.hp (AV.refsL vs)).filter fun k => Nat.ble n0 k
  let st1 := st.frz fz
  let vs1 := AV.frzL st.hp fz vs
  let ks := reach st1.hp 1000 (heldRefs st1.hp n0 ++ AV.refsL vs1) (rng 0 n0)
  let g := fun k => posIn k ks 0
  (AV.renL g vs1, ks.map fun k => (st1.hp k).ren g)

def finishK (T : Tab) (own : Bool) (n0 : Nat) (fn : Func) : Ex → St → Option Res
  | .exit _, _ => none
  | _, st => match resultsE T st fn.results.toList with
    | some vs => some (finish T own n0 fn.resultTypes.toList st vs)
    | none => none

/-- All that the code writes lies among so many slots. -/
def dstOk (n : Nat) : Code → Bool
  | .region _ ops _ => ops.toList.all fun o => match o.dst with | some t => Nat.blt t n | none => true
  | .seq a b => dstOk n a && dstOk n b
  | .cond _ a b => dstOk n a && dstOk n b
  | .block _ c => dstOk n c
  | .loop c => dstOk n c
  | .exit _ => true
  | .ret => true
  | .label _ => true
  | .skip => true
  | _ => false

noncomputable def evFn (T : Tab) (orc : Orc) (H : Hint) (fn : Func) (args : List AV) (objs : List LObj) : Option Res :=
  match fn.body with
  | none => none
  | some c => bif dstOk fn.ntmps c && Nat.ble args.length fn.ntmps then evC T orc (lpN T orc H objs.length 8) c 1000000 (startSt args objs fn.ntmps) (finishK T H.own objs.length fn) else none

/-! ### To a loop, from a loop -/
def evTo {R : Type} (T : Tab) (orc : Orc) (lp : Lp) : List Bool → Code → Nat → St → (St → Option R) → (Ex → St → Option R) → Option R
  | [], _, _, st, K0, _ => K0 st
  | false :: p, .seq a b, bid, st, K0, K => evTo T orc lp p a bid st K0 (seqK (fun st => evC T orc lp b bid st K) K)
  | true :: p, .seq a b, bid, st, K0, K => evC T orc lp a bid st (seqK (fun st => evTo T orc lp p b bid st K0 K) K)
  | false :: p, .cond c x y, bid, st, K0, K => condE st c (fun st => evTo T orc lp p x bid st K0 K) (fun st => evC T orc lp y bid st K)
  | true :: p, .cond c x y, bid, st, K0, K => condE st c (fun st => evC T orc lp x bid st K) (fun st => evTo T orc lp p y bid st K0 K)
  | _ :: p, .block id body, _, st, K0, K => evTo T orc lp p body id st K0 (blockK id K)
  | _, _, _, _, _, _ => none

def evFrom {R : Type} (T : Tab) (orc : Orc) (lp : Lp) : List Bool → Code → Nat → Ex → St → (Ex → St → Option R) → Option R
  | [], _, _, e, st, K => K e st
  | false :: p, .seq a b, bid, e, st, K => evFrom T orc lp p a bid e st (seqK (fun st => evC T orc lp b bid st K) K)
  | true :: p, .seq _ b, bid, e, st, K => evFrom T orc lp p b bid e st K
  | false :: p, .cond _ x _, bid, e, st, K => evFrom T orc lp p x bid e st K
  | true :: p, .cond _ _ y, bid, e, st, K => evFrom T orc lp p y bid e st K
  | _ :: p, .block id body, _, e, st, K => evFrom T orc lp p body id e st (blockK id K)
  | _, _, _, _, _, _ => none

def evFT {R : Type} (T : Tab) (orc : Orc) (lp : Lp) : List Bool → List Bool → Code → Nat → Ex → St → (St → Option R) → (Ex → St → Option R) → Option R
  | false :: p, false :: q, .seq a b, bid, e, st, K0, K => evFT T orc lp p q a bid e st K0 (seqK (fun st => evC T orc lp b bid st K) K)
  | false :: p, true :: q, .seq a b, bid, e, st, K0, K => evFrom T orc lp p a bid e st (seqK (fun st => evTo T orc lp q b bid st K0 K) K)
  | true :: p, true :: q, .seq _ b, bid, e, st, K0, K => evFT T orc lp p q b bid e st K0 K
  | false :: p, false :: q, .cond _ x _, bid, e, st, K0, K => evFT T orc lp p q x bid e st K0 K
  | true :: p, true :: q, .cond _ _ y, bid, e, st, K0, K => evFT T orc lp p q y bid e st K0 K
  | _ :: p, _ :: q, .block id body, _, e, st, K0, K => evFT T orc lp p q body id e st K0 (blockK id K)
  | _, _, _, _, _, _, _, _ => none

/-- The loop at a path: its block's number, its body. -/
def loopAt : List Bool → Code → Nat → Option (Nat × Code)
  | [], .loop body, bid => some (bid, body)
  | false :: p, .seq a _, bid => loopAt p a bid
  | true :: p, .seq _ b, bid => loopAt p b bid
  | false :: p, .cond _ x _, bid => loopAt p x bid
  | true :: p, .cond _ _ y, bid => loopAt p y bid
  | _ :: p, .block id body, _ => loopAt p body id
  | _, _, _ => none

end Go.Proofs.YtfepkpindchleaaE
