import GoSem.Dispatch
import Derived.KernelRfl
import Derived.Orders
import Derived.Calls
import Derived.Below
import Derived.Deep.AppendSrc
import Derived.Laws.IdiomCopy
import Derived.Laws.Cells
import Derived.Laws.Entries
import Derived.Laws.Append
import Derived.Laws.StructEq
import Derived.Laws.Concat
import Derived.Laws.Strings2
import Derived.Laws.Slices
import Derived.Laws.BytesArg
import Derived.Lib.ConvBytes
import Derived.Laws.MakeOwn
import Derived.Laws.Tables
import Derived.Great.BuildSlice
import Derived.Deep.Upon
import Derived.Laws.AppendOwn
set_option maxRecDepth 1000000
namespace Go.Proofs.YtkobjdhbfepkaaaE
open Go
set_option linter.unusedVariables false
set_option linter.unusedSimpArgs false
inductive Ty where
 | int (k:IntKind)
 | bool
 | str
 | unit
 | list (t:Ty)
 | pair (a b:Ty)
def Ty.decEq:(a b:Ty)→Decidable (a=b)
 | .int k,.int k'=>if h:k=k' then .isTrue (by rw[h]) else .isFalse (fun e=>h (by injection e))
 | .bool,.bool=>.isTrue rfl
 | .str,.str=>.isTrue rfl
 | .unit,.unit=>.isTrue rfl
 | .list a,.list b=>match Ty.decEq a b with
   | .isTrue h=>.isTrue (by rw[h])
   | .isFalse h=>.isFalse (fun e=>h (by injection e))
 | .pair a b,.pair c d=>match Ty.decEq a c,Ty.decEq b d with
   | .isTrue h,.isTrue h'=>.isTrue (by rw[h,h'])
   | .isFalse h,_=>.isFalse (fun e=>h (by injection e))
   | _,.isFalse h=>.isFalse (fun e=>h (by injection e))
 | .int _,.bool=>.isFalse (fun e=>by cases e)
 | .int _,.str=>.isFalse (fun e=>by cases e)
 | .int _,.unit=>.isFalse (fun e=>by cases e)
 | .int _,.list _=>.isFalse (fun e=>by cases e)
 | .int _,.pair _ _=>.isFalse (fun e=>by cases e)
 | .bool,.int _=>.isFalse (fun e=>by cases e)
 | .bool,.str=>.isFalse (fun e=>by cases e)
 | .bool,.unit=>.isFalse (fun e=>by cases e)
 | .bool,.list _=>.isFalse (fun e=>by cases e)
 | .bool,.pair _ _=>.isFalse (fun e=>by cases e)
 | .str,.int _=>.isFalse (fun e=>by cases e)
 | .str,.bool=>.isFalse (fun e=>by cases e)
 | .str,.unit=>.isFalse (fun e=>by cases e)
 | .str,.list _=>.isFalse (fun e=>by cases e)
 | .str,.pair _ _=>.isFalse (fun e=>by cases e)
 | .unit,.int _=>.isFalse (fun e=>by cases e)
 | .unit,.bool=>.isFalse (fun e=>by cases e)
 | .unit,.str=>.isFalse (fun e=>by cases e)
 | .unit,.list _=>.isFalse (fun e=>by cases e)
 | .unit,.pair _ _=>.isFalse (fun e=>by cases e)
 | .list _,.int _=>.isFalse (fun e=>by cases e)
 | .list _,.bool=>.isFalse (fun e=>by cases e)
 | .list _,.str=>.isFalse (fun e=>by cases e)
 | .list _,.unit=>.isFalse (fun e=>by cases e)
 | .list _,.pair _ _=>.isFalse (fun e=>by cases e)
 | .pair _ _,.int _=>.isFalse (fun e=>by cases e)
 | .pair _ _,.bool=>.isFalse (fun e=>by cases e)
 | .pair _ _,.str=>.isFalse (fun e=>by cases e)
 | .pair _ _,.unit=>.isFalse (fun e=>by cases e)
 | .pair _ _,.list _=>.isFalse (fun e=>by cases e)
instance:DecidableEq Ty:=Ty.decEq
@[reducible] def Ty.den:Ty→Type
 | .int _=>Int
 | .bool=>Bool
 | .str=>List UInt8
 | .unit=>Unit
 | .list t=>List t.den
 | .pair a b=>a.den×b.den
def Ty.sz:Ty→Nat
 | .unit=>0
 | .pair a b=>a.sz+b.sz
 | _=>1
def Ty.dflt:(t:Ty)→t.den
 | .int _=>(0:Int)
 | .bool=>false
 | .str=>([]:List UInt8)
 | .unit=>()
 | .list _=>[]
 | .pair a b=>(a.dflt,b.dflt)
inductive AV where
 | int (k:IntKind) (n:Int)
 | bool (b:Bool)
 | str (s:List UInt8)
 | list (t:Ty) (xs:List t.den)
 | agg (cs:List AV)
 | tup (vs:List AV)
 | np
 | nm
 | nf
 | ns
 | ptr (k off:Nat)
 | rptr (k:Nat) (t:Ty) (i off:Nat)
 | lptr (t:Ty) (xs:List t.den) (i off:Nat)
 | rowA (k:Nat)
 | rowS (k:Nat) (off len:Nat) (capped:Bool)
 | mp (k:Nat)
 | psl (k n:Nat)
 | fn (f:Nat) (caps:List AV)
 | undef
 | dead
inductive LObj where
 | boxT (tag:Option Nat) (cs:List AV)
 | row (t:Ty) (xs:List t.den)
 | mpo (kt vt:Ty) (es:List (kt.den×vt.den))
 | mpb (kt:Ty) (ki:IntKind) (t:Ty) (es:List (kt.den×(Int×List t.den))) (foc:Option (kt.den×AV))
 | gone
def focR {κ:Type} (f:AV→AV):Option (κ×AV)→Option (κ×AV)
 | none=>none
 | some q=>some (q.1,f q.2)
@[match_pattern,reducible] def LObj.box (cs:List AV):LObj:=.boxT none cs
def flat:(t:Ty)→t.den→List AV
 | .int k,n=>[.int k n]
 | .bool,b=>[.bool b]
 | .str,s=>[.str s]
 | .unit,_=>[]
 | .list t,xs=>[.list t xs]
 | .pair a b,x=>flat a x.1++flat b x.2
def Zm:(t:Ty)→List AV→Option (t.den×List AV)
 | .int k,.int k' n::r=>if k=k' then some (n,r) else none
 | .bool,.bool b::r=>some (b,r)
 | .str,.str s::r=>some (s,r)
 | .unit,r=>some ((),r)
 | .list t,.list t' xs::r=>if h:t'=t then some (h▸xs,r) else none
 | .list _,.ns::r=>some ([],r)
 | .pair a b,r=>
   match Zm a r with
   | some (x,r)=>match Zm b r with
     | some (y,r)=>some ((x,y),r)
     | none=>none
   | none=>none
 | _,_=>none
def X0e (t:Ty) (cs:List AV):Option t.den:=
 match Zm t cs with
 | some (x,[])=>some x
 | _=>none
def AV.isAgg:AV→Bool
 | .agg _=>true
 | _=>false
def AV.cellsOf:AV→Option (List AV)
 | .agg cs=>some cs
 | .tup _=>none
 | .undef=>none
 | .dead=>none
 | v=>some [v]
def asTy (t:Ty) (v:AV):Option t.den:=
 match v.cellsOf with
 | some cs=>X0e t cs
 | none=>none
def AV.ofTy (t:Ty) (x:t.den) (agg:Bool):AV:=
 if agg then .agg (flat t x) else match flat t x with
  | [v]=>v
  | _=>.dead
inductive TD where
 | bool
 | int (k:IntKind)
 | str
 | ptr (e:Nat)
 | slice (e:Nat)
 | array (n:Nat) (e:Nat)
 | struct (fs:List (Nat×Nat))
 | map (k e:Nat)
 | func
 | other
structure Row where
 desc:TD
 size:Nat
 bytes:Nat
 zero:List AV
 cty:List (Option Ty)
 ty:Option Ty
structure Tab where
 row:Nat→Option Row
 inl:Nat→Option Func:=fun _=>none
 live:Nat→Option (List Nat):=fun _=>none
 mid:Nat→Option (List Nat):=fun _=>none
 tag:Nat→Bool:=fun _=>false
 nild:Bool:=false
 kns:Bool:=false
 lvs:Bool:=false
 bsd:Bool:=false
 dcl:Bool:=false
 wide:Bool:=false
def Tab.desc (T:Tab) (t:Nat):TD:=match T.row t with | some r=>r.desc | none=>.other
def TD.agg:TD→Bool
 | .array _ _=>true
 | .struct _=>true
 | _=>false
def Tab.agg (T:Tab) (t:Nat):Bool:=(T.desc t).agg
def Tab.size (T:Tab) (t:Nat):Option Nat:=match T.row t with | some r=>some r.size | none=>none
def Tab.ty (T:Tab) (t:Nat):Option Ty:=match T.row t with | some r=>r.ty | none=>none
structure St where
 tm:Nat→AV
 hp:Nat→LObj
 nx:Nat
def ofTm:List (Nat×AV)→Nat→AV
 | [],_=>.dead
 | (k,v)::r,t=>bif t==k then v else ofTm r t
def ofHp:List LObj→Nat→LObj
 | [],_=>.gone
 | o::r,k=>match k with | 0=>o | k+1=>ofHp r k
def St.put (st:St) (t:Nat) (v:AV):St:={ st with tm:=fun t'=>bif t'==t then v else st.tm t' }
def St.putO (st:St) (d:Option Nat) (v:AV):St:=match d with | some t=>st.put t v | none=>st
def St.new (st:St) (o:LObj):St:={ st with hp:=fun k=>bif k==st.nx then o else st.hp k,nx:=st.nx+1 }
def St.upd (st:St) (k:Nat) (o:LObj):St:={ st with hp:=fun k'=>bif k'==k then o else st.hp k' }
mutual
def AV.refs:AV→List Nat
 | .agg cs=>AV.refsL cs
 | .tup cs=>AV.refsL cs
 | .ptr k _=>[k]
 | .rptr k _ _ _=>[k]
 | .rowA k=>[k]
 | .rowS k _ _ _=>[k]
 | .mp k=>[k]
 | .psl k n''=>[k]
 | .fn _ cs=>AV.refsL cs
 | _=>[]
def AV.refsL:List AV→List Nat
 | []=>[]
 | v::vs=>AV.refs v++AV.refsL vs
end
mutual
def AV.ren (f:Nat→Option Nat):AV→AV
 | .agg cs=>.agg (AV.renL f cs)
 | .tup cs=>.tup (AV.renL f cs)
 | .ptr k off=>match f k with | some k=>.ptr k off | none=>.dead
 | .rptr k t i off=>match f k with | some k=>.rptr k t i off | none=>.dead
 | .rowA k=>match f k with | some k=>.rowA k | none=>.dead
 | .rowS k off len c=>match f k with | some k=>.rowS k off len c | none=>.dead
 | .mp k=>match f k with | some k=>.mp k | none=>.dead
 | .psl k n''=>match f k with | some k=>.psl k n'' | none=>.dead
 | .fn g cs=>.fn g (AV.renL f cs)
 | v=>v
def AV.renL (f:Nat→Option Nat):List AV→List AV
 | []=>[]
 | v::vs=>AV.ren f v::AV.renL f vs
end
def LObj.refs:LObj→List Nat
 | .boxT _ cs=>AV.refsL cs
 | .mpb _ _ _ _ foc=>match foc with | some q=>q.2.refs | none=>[]
 | _=>[]
def LObj.ren (f:Nat→Option Nat):LObj→LObj
 | .boxT g cs=>.boxT g (AV.renL f cs)
 | .mpb kt ki t es foc=>.mpb kt ki t es (focR (AV.ren f) foc)
 | o=>o
mutual
def AV.kill (ks:List Nat):AV→AV
 | .agg cs=>.agg (AV.killL ks cs)
 | .tup cs=>.tup (AV.killL ks cs)
 | .rptr k t i off=>bif ks.contains k then .dead else .rptr k t i off
 | .rowA k=>bif ks.contains k then .dead else .rowA k
 | .rowS k off len c=>bif ks.contains k then .dead else .rowS k off len c
 | .fn g cs=>.fn g (AV.killL ks cs)
 | v=>v
def AV.killL (ks:List Nat):List AV→List AV
 | []=>[]
 | v::vs=>AV.kill ks v::AV.killL ks vs
end
def LObj.kill (ks:List Nat):LObj→LObj
 | .boxT g cs=>.boxT g (AV.killL ks cs)
 | .mpb kt ki t es foc=>.mpb kt ki t es (focR (AV.kill ks) foc)
 | o=>o
def St.kill (st:St) (ks:List Nat):St:={ st with tm:=fun t=>(st.tm t).kill ks,hp:=fun k=>(st.hp k).kill ks }
mutual
def AV.frz (hp:Nat→LObj) (ks:List Nat):AV→AV
 | .agg cs=>.agg (AV.frzL hp ks cs)
 | .tup cs=>.tup (AV.frzL hp ks cs)
 | .rptr k t i off=>bif ks.contains k then .dead else .rptr k t i off
 | .rowA k=>bif ks.contains k then (match hp k with | .row t xs=>.list t xs | _=>.dead) else .rowA k
 | .rowS k off len c=>bif ks.contains k then (match hp k with | .row t xs=>.list t ((xs.drop off).take len) | _=>.dead) else .rowS k off len c
 | .fn g cs=>.fn g (AV.frzL hp ks cs)
 | v=>v
def AV.frzL (hp:Nat→LObj) (ks:List Nat):List AV→List AV
 | []=>[]
 | v::vs=>AV.frz hp ks v::AV.frzL hp ks vs
end
def LObj.frz (hp:Nat→LObj) (ks:List Nat):LObj→LObj
 | .boxT g cs=>.boxT g (AV.frzL hp ks cs)
 | .mpb kt ki t es foc=>.mpb kt ki t es (focR (AV.frz hp ks) foc)
 | o=>o
def V1 (hp:Nat→LObj):List Nat→List Nat
 | []=>[]
 | k::ks=>match hp k with | .row _ _=>k::V1 hp ks | _=>V1 hp ks
def St.frz (st:St) (ks:List Nat):St:=
 { st with tm:=fun t=>(st.tm t).frz st.hp ks,hp:=fun k=>bif ks.contains k then .gone else (st.hp k).frz st.hp ks }
def U5 (hp:Nat→LObj):Nat→List Nat→List Nat→List Nat
 | 0,_,seen=>seen
 | _,[],seen=>seen
 | n+1,k::ks,seen=>bif seen.contains k then U5 hp n ks seen else U5 hp n ((hp k).refs++ks) (seen++[k])
def J5 (k:Nat):List Nat→Nat→Option Nat
 | [],_=>none
 | x::xs,i=>bif x==k then some i else J5 k xs (i+1)
def rng:Nat→Nat→List Nat
 | _,0=>[]
 | a,n+1=>a::rng (a+1) n
def Qb (hp:Nat→LObj) (n0:Nat):List Nat:=(rng 0 n0).flatMap fun k=>(hp k).refs
def U0g (vs:List AV):List Nat:=AV.refsL vs
def keqD:(t:Ty)→t.den→t.den→Bool
 | .int _,a,b=>decide ((a:Int)=b)
 | .bool,a,b=>(a:Bool)==b
 | .str,a,b=>(a:List UInt8)==b
 | .unit,_,_=>true
 | .pair a b,x,y=>keqD a x.1 y.1&&keqD b x.2 y.2
 | .list _,_,_=>false
def Q06 {κ α:Type} (eq:κ→κ→Bool) (x:κ):List (κ×α)→Option α
 | []=>none
 | e::es=>bif eq x e.1 then some e.2 else Q06 eq x es
def hasB {κ α:Type} (eq:κ→κ→Bool) (x:κ) (es:List (κ×α)):Bool:=(Q06 eq x es).isSome
def getB {κ α:Type} (eq:κ→κ→Bool) (d:α) (x:κ) (es:List (κ×α)):α:=(Q06 eq x es).getD d
def putB {κ α:Type} (eq:κ→κ→Bool) (x:κ) (v:α):List (κ×α)→List (κ×α)
 | []=>[(x,v)]
 | e::es=>bif eq x e.1 then (e.1,v)::es else e::putB eq x v es
def Z0y (a b:Nat) (k:Nat):Option Nat:=bif Nat.beq k a||Nat.beq k b then none else some k
def St.unfAt (st:St) (n0 k:Nat):St:=
 match st.hp k with
 | .mpb kt ki t es (some (x,.ptr j 0))=>match st.hp j with
   | .boxT none [.int ki' n,.rowA r]=>match st.hp r with
     | .row t' xs=>
       if h:t'=t then
        bif (decide (ki'=ki)&&(Nat.ble n0 j&&Nat.ble n0 r))&&(Nat.blt j st.nx&&Nat.blt r st.nx)
        then { st with tm:=fun i=>(st.tm i).ren (Z0y j r),hp:=fun i=>bif Nat.beq i k then .mpb kt ki t (putB (keqD kt) x (n,h▸xs) es) none else bif Nat.beq i j||Nat.beq i r then .gone else (st.hp i).ren (Z0y j r) }
        else st
       else st
     | _=>st
   | _=>st
 | _=>st
def St.unfL (n0:Nat):List Nat→St→St
 | [],st=>st
 | k::ks,st=>St.unfL n0 ks (st.unfAt n0 k)
def LObj.isOut:LObj→Bool
 | .mpb _ _ _ _ (some _)=>true
 | _=>false
def St.unf (st:St) (n0:Nat):St:=St.unfL n0 ((rng 0 st.nx).filter fun k=>(st.hp k).isOut) st
def J2k (keep:List Nat) (n0:Nat) (st:St):List AV×List LObj:=
 let ks:=U5 st.hp 1000 (Qb st.hp n0++U0g (keep.map st.tm)) (rng 0 n0)
 let f:=fun k=>J5 k ks 0
 (keep.map fun t=>(st.tm t).ren f,ks.map fun k=>(st.hp k).ren f)
def Q20 (keep:List Nat) (n0:Nat) (st:St):List AV×List LObj:=match st.unf n0 with | ⟨tm,hp,nx⟩=>J2k keep n0 ⟨tm,hp,nx⟩
def Z22:List Nat→List AV→List (Nat×AV)
 | t::ts,v::vs=>(t,v)::Z22 ts vs
 | _,_=>[]
def stOf (keep:List Nat) (vs:List AV) (os:List LObj):St:={ tm:=ofTm (Z22 keep vs),hp:=ofHp os,nx:=os.length }
def norm (keep:List Nat) (n0:Nat) (st:St):St:=let p:=Q20 keep n0 st;stOf keep p.1 p.2
inductive Ex where
 | normal
 | exit (id:Nat)
 | ret
abbrev Res:=List AV×List LObj
inductive Tr (α:Type) where
 | no
 | ret (a:α)
 | br (c:Bool) (x y:Tr α)
def Tr.run {α R:Type} (K:α→Option R):Tr α→Option R
 | .no=>none
 | .ret a=>K a
 | .br c x y=>bif c then x.run K else y.run K
def Tr.get {α:Type}:Tr α→Option α
 | .no=>none
 | .ret a=>some a
 | .br c x y=>bif c then x.get else y.get
def Tr.on {α:Type} (c:Bool) (a:α):Tr α:=.br c (.ret a) .no
def Tr.of {α:Type}:Option α→Tr α
 | some a=>.ret a
 | none=>.no
theorem Tr.run_get {α R:Type} {K:α→Option R}:∀ (t:Tr α),t.run K=t.get.bind K
 | .no=>rfl
 | .ret a=>rfl
 | .br c x y=>by cases c<;>simp only[Tr.run,Tr.get,cond_true,cond_false]<;>exact Tr.run_get _
theorem Tr.run_some {α R:Type} {K:α→Option R} {t:Tr α} {r:R} (h:t.run K=some r):∃ a,t.get=some a∧K a=some r:=by
 rw[Tr.run_get] at h
 cases hg:t.get with
 | none=>rw[hg] at h;cases h
 | some a=>rw[hg] at h;exact⟨a,rfl,h⟩
theorem Tr.get_on {α:Type} {c:Bool} {a b:α} (h:(Tr.on c a).get=some b):c=true∧a=b:=by
 cases c
 ·cases h
 ·cases h;exact⟨rfl,rfl⟩
theorem Tr.get_of {α:Type} (x:Option α):(Tr.of x).get=x:=by cases x<;>rfl
abbrev Orc:=Nat→List AV→List LObj→Tr Res
def req {R:Type} (b:Bool) (x:Option R):Option R:=bif b then x else none
def Xc {R:Type} (i:Int):Nat→Nat→(Nat→Option R)→Option R
 | 0,_,_=>none
 | n+1,j,K=>bif decide (i=(j:Int)) then K j else Xc i n (j+1) K
def J1q:Value→AV
 | .int k n=>.int k n
 | .bool b=>.bool b
 | .string s=>.str s.data.toList
 | .pointer none=>.np
 | .slice none 0 0=>.ns
 | .map none=>.nm
 | .nilFunc=>.nf
 | _=>.dead
def St.ev (st:St):Operand→AV
 | .tmp t=>st.tm t
 | .const v=>J1q v
 | .func f=>.fn f []
 | .global _=>.dead
inductive Eff where
 | val (v:AV)
 | new (os:List LObj) (v:AV)
 | upd (k:Nat) (o:LObj) (v:AV)
 | app (k:Nat) (o:LObj) (v:AV)
 | foc (k:Nat) (o:LObj) (os:List LObj) (v:AV)
 | frz (ks:List Nat) (os:List LObj) (v:AV)
 | call (fz ks:List Nat) (objs:List LObj) (vs:List AV)
def St.news (st:St):List LObj→St
 | []=>st
 | o::os=>(st.new o).news os
def Q8:List AV→AV
 | [v]=>v
 | vs=>.tup vs
def V6 (ks:List Nat) (nx:Nat) (i:Nat):Option Nat:=bif Nat.blt i ks.length then ks[i]? else some (nx+(i - ks.length))
def St.apply (st:St):Eff→AV×St
 | .val v=>(v,st)
 | .new os v=>(v,st.news os)
 | .upd k o v=>(v,st.upd k o)
 | .foc k o os v=>(v,(st.upd k o).news os)
 | .app k o v=>(v,(st.kill [k]).upd k o)
 | .frz ks os v=>(v,(st.frz ks).news os)
 | .call fz ks objs vs=>
   let st:St:=match fz with | []=>st | _=>st.frz fz
   let f:=V6 ks st.nx
   let st2:St:=match ks with
    | []=>st
    | _=>{ st with tm:=fun t=>(st.tm t).kill (V1 st.hp ks),hp:=fun k=>match J5 k ks 0 with | some i=>(ofHp objs i).ren f | none=>(st.hp k).kill (V1 st.hp ks) }
   (Q8 (AV.renL f vs),st2.news ((objs.drop ks.length).map (LObj.ren f)))
def Q9:List AV→List (Option Ty)→Nat→List AV×List LObj
 | .ns::cs,some t::ts,n=>let r:=Q9 cs ts (n+1);(.rowA n::r.1,.row t []::r.2)
 | c::cs,_::ts,n=>let r:=Q9 cs ts n;(c::r.1,r.2)
 | cs,[],_=>(cs,[])
 | [],_,_=>([],[])
def X2f (op:BinOp) (k:IntKind) (x y:Int):Option AV:=
 match op with
 | .add=>some (.int k (k.wrap (x+y)))
 | .sub=>some (.int k (k.wrap (x - y)))
 | .mul=>some (.int k (k.wrap (x * y)))
 | .and=>some (.int k (k.wrap (BitVec.ofInt k.bits x &&& BitVec.ofInt k.bits y).toNat))
 | .or=>some (.int k (k.wrap (BitVec.ofInt k.bits x ||| BitVec.ofInt k.bits y).toNat))
 | .xor=>some (.int k (k.wrap (BitVec.ofInt k.bits x ^^^ BitVec.ofInt k.bits y).toNat))
 | .andNot=>some (.int k (k.wrap (BitVec.ofInt k.bits x &&& ~~~ BitVec.ofInt k.bits y).toNat))
 | .eql=>some (.bool (x==y))
 | .neq=>some (.bool (x != y))
 | .lss=>some (.bool (decide (x < y)))
 | .leq=>some (.bool (decide (x≤y)))
 | .gtr=>some (.bool (decide (x > y)))
 | .geq=>some (.bool (decide (x≥y)))
 | _=>none
def Z2k (op:BinOp) (x y:List UInt8):Option AV:=
 match op with
 | .eql=>some (.bool (x==y))
 | .neq=>some (.bool (!(x==y)))
 | .lss=>some (.bool (Op.bytesLess x y))
 | _=>none
def Vs (T:Tab) (t:Nat) (cs:List AV) (off:Nat):Option AV:=
 match T.size t with
 | none=>none
 | some n=>if T.agg t then (if off+n≤cs.length then some (.agg ((cs.drop off).take n)) else none) else cs[off]?
def eqFs (T:Tab) (eq:Nat→AV→AV→Option Bool) (cs ds:List AV):List (Nat×Nat)→Option Bool
 | []=>some true
 | (off,t)::fs=>match Vs T t cs off,Vs T t ds off with
   | some a,some b=>match eq t a b,eqFs T eq cs ds fs with
     | some r,some q=>some (r&&q)
     | _,_=>none
   | _,_=>none
def eqV (T:Tab):Nat→Nat→AV→AV→Option Bool
 | 0,_,_,_=>none
 | d+1,t,x,y=>match T.desc t,x,y with
   | .int _,.int k a,.int k' b=>if k=k' then some (a==b) else none
   | .bool,.bool a,.bool b=>some (a==b)
   | .str,.str a,.str b=>some (a==b)
   | .struct fs,.agg cs,.agg ds=>eqFs T (eqV T d) cs ds fs
   | _,_,_=>none
def nilV (T:Tab) (t:Nat) (x y:AV):Option Bool:=
 match T.desc t,x,y with
 | .ptr _,.np,.np=>some true
 | .ptr _,.ptr _ _,.np=>some false
 | .ptr _,.rptr _ _ _ _,.np=>some false
 | .ptr _,.lptr _ _ _ _,.np=>some false
 | .ptr e,.ptr k o,.ptr k' o'=>if (k=k'∧o=o')∧(T.size e).isSome=true then some true else none
 | .func,.nf,.nf=>some true
 | .func,.fn _ _,.nf=>some false
 | .map _ _,.nm,.nm=>some true
 | .map _ _,.mp _,.nm=>some false
 | _,_,_=>none
def Z2g:AV→Bool
 | .ptr _ _=>true
 | .rptr _ _ _ _=>true
 | .lptr _ _ _ _=>true
 | .fn _ _=>true
 | _=>false
def X0u {R:Type} (T:Tab) (t:Nat) (op:BinOp) (x y:AV) (K:Eff→Option R):Option R:=
 match op,x,y with
 | .shl,.int k a,.int _ b=>req (decide (0≤b)) (K (.val (.int k (k.wrap (a * 2 ^ (min b.toNat k.bits))))))
 | .shr,.int k a,.int _ b=>req (decide (0≤b)) (K (.val (.int k (a.fdiv (2 ^ (min b.toNat k.bits))))))
 | .quo,.int k a,.int k' b=>if k=k' then req (b != 0) (K (.val (.int k (k.wrap (a.tdiv b))))) else none
 | .rem,.int k a,.int k' b=>if k=k' then req (b != 0) (K (.val (.int k (a.tmod b)))) else none
 | op,.int k a,.int k' b=>if k=k' then (match X2f op k a b with | some v=>K (.val v) | none=>none) else none
 | .add,.str a,.str b=>req (Nat.ble (a.length+b.length) 9223372036854775807) (K (.val (.str (a++b))))
 | op,.str a,.str b=>match Z2k op a b with | some v=>K (.val v) | none=>none
 | .eql,.bool a,.bool b=>match T.desc t with | .bool=>K (.val (.bool (a==b))) | _=>none
 | .neq,.bool a,.bool b=>match T.desc t with | .bool=>K (.val (.bool (!(a==b)))) | _=>none
 | .eql,.agg a,.agg b=>match eqV T 12 t (.agg a) (.agg b) with | some c=>K (.val (.bool c)) | none=>none
 | .neq,.agg a,.agg b=>match eqV T 12 t (.agg a) (.agg b) with | some c=>K (.val (.bool (!c))) | none=>none
 | .eql,x,y=>match nilV T t x y with | some c=>K (.val (.bool c)) | none=>none
 | .neq,x,y=>match nilV T t x y with | some c=>K (.val (.bool (!c))) | none=>none
 | _,_,_=>none
def X34 (op:UnOp) (x:AV):Option AV:=
 match op,x with
 | .not,.bool b=>some (.bool (!b))
 | .neg,.int k n=>some (.int k (k.wrap (0 - n)))
 | .xor,.int k n=>some (.int k (k.wrap (BitVec.ofInt k.bits (if k.signed then -1 else k.max) ^^^ BitVec.ofInt k.bits n).toNat))
 | _,_=>none
def Ur (hp:Nat→LObj) (t:Ty):AV→Option (List t.den)
 | .ns=>some []
 | .list t' xs=>if h:t'=t then some (h▸xs) else none
 | .rowA k=>match hp k with | .row t' xs=>if h:t'=t then some (h▸xs) else none | _=>none
 | .rowS k off len _=>match hp k with | .row t' xs=>if h:t'=t then some (h▸((xs.drop off).take len)) else none | _=>none
 | _=>none
def J4 (s:List UInt8):List Int:=s.map fun c=>(c.toNat:Int)
def Us (xs:List Int):List UInt8:=xs.map fun n=>UInt8.ofNat n.toNat
def Q1m (hp:Nat→LObj) (t:Ty) (v:AV):Option (List t.den):=
 match t,v with
 | .int .u8,.str s=>some (J4 s)
 | t,v=>Ur hp t v
def lenE (hp:Nat→LObj):AV→Option Nat
 | .str s=>some s.length
 | .ns=>some 0
 | .list _ xs=>some xs.length
 | .rowA k=>match hp k with | .row _ xs=>some xs.length | _=>none
 | .rowS _ _ len _=>some len
 | .psl _ n=>some n
 | _=>none
def Q1o:Nat:=140737488355328
def fits (n bytes:Nat):Bool:=decide (n * bytes≤Q1o)&&decide (n≤Q1o)
def V0p (T:Tab) (hp:Nat→LObj) (t:Nat) (p:AV):Option AV:=
 match p with
 | .ptr k off=>match hp k with | .boxT _ cs=>Vs T t cs off | _=>none
 | .rptr k t' i off=>match hp k with | .row τ xs=>if τ=t' then Vs T t (flat τ (xs.getD i τ.dflt)) off else none | _=>none
 | .lptr τ xs i off=>Vs T t (flat τ (xs.getD i τ.dflt)) off
 | _=>none
def J1a (cs:List AV) (off:Nat) (vs:List AV):List AV:=cs.take off++vs++cs.drop (off+vs.length)
def Z23 (τ:Ty) (xs:List τ.den) (i off:Nat) (vs:List AV):Option (List τ.den):=
 match X0e τ (J1a (flat τ (xs.getD i τ.dflt)) off vs) with
 | some x=>some (xs.set i x)
 | none=>none
def Q1t (T:Tab) (hp:Nat→LObj) (t:Nat) (p v:AV):Option Eff:=
 match T.size t,v.cellsOf with
 | some n,some vs=>
   if vs.length=n then
    match p with
    | .ptr k off=>match hp k with
      | .boxT g cs=>if off+n≤cs.length then some (.upd k (.boxT g (J1a cs off vs)) .undef) else none
      | _=>none
    | .rptr k t' i off=>match hp k with
      | .row τ xs=>if τ=t' then (if off+n≤τ.sz then (match Z23 τ xs i off vs with | some ys=>some (.upd k (.row τ ys) .undef) | none=>none) else none) else none
      | _=>none
    | _=>none
   else none
 | _,_=>none
def V1i (place:Nat→Option (Nat×Nat)) (cells:List AV):List (Nat×AV)→Option (List AV)
 | []=>some cells
 | (i,v)::rest=>
   match place i,v.cellsOf with
   | some (off,size),some vs=>if vs.length=size∧off+size≤cells.length then V1i place (J1a cells off vs) rest else none
   | _,_=>none
def U0m (T:Tab):List (Nat×Nat)→Option (List (Nat×Nat))
 | []=>some []
 | (off,t)::fs=>match T.size t,U0m T fs with | some n,some r=>some ((off,n)::r) | _,_=>none
def Xy (τ:Ty):List (Nat×AV)→Nat→Option (List τ.den)
 | [],_=>some []
 | (i,v)::rest,j=>
   if i=j then (match asTy τ v,Xy τ rest (j+1) with | some x,some xs=>some (x::xs) | _,_=>none) else none
def V0a:AV→Option Int
 | .int _ n=>some n
 | _=>none
def U1q (x:Option AV) (d:Int):Option Int:=match x with | some v=>V0a v | none=>some d
def Zg {R:Type} (lo hi mx:Option AV) (n:Nat) (K:Nat→Nat→Bool→Option R):Option R:=
 match U1q lo 0,U1q hi n with
 | some l,some h=>
   req (decide (0≤h)&&decide (h≤(n:Int))) (req (decide (0≤l)&&decide (l≤h)) (match mx with
    | none=>K l.toNat h.toNat false
    | some m=>match hi,V0a m with
      | some _,some m=>req (m==h) (K l.toNat h.toNat true)
      | _,_=>none))
 | _,_=>none
def X0o {R:Type} (lo hi mx:AV) (n:Nat) (r:Option R):Option R:=
 match V0a lo,V0a hi,V0a mx with
 | some l,some h,some m=>req (decide (0≤m)&&decide (m≤(n:Int))) (req (decide (0≤h)&&decide (h≤m)) (req (decide (0≤l)&&decide (l≤h)) r))
 | _,_,_=>none
def V04 {R:Type} (T:Tab) (hp:Nat→LObj) (t:Nat) (x:AV) (lo hi mx:Option AV) (K:Eff→Option R):Option R:=
 match T.desc t with
 | .str=>match x,mx with
   | .str s,none=>Zg lo hi none s.length fun l h _=>K (.val (.str ((s.drop l).take (h - l))))
   | _,_=>none
 | .slice e=>match T.size e with
   | none=>none
   | some n=>match x with
     | .list τ xs=>if τ.sz=n then Zg lo hi mx xs.length fun l h _=>K (.val (.list τ ((xs.drop l).take (h - l)))) else none
     | .rowA k=>match hp k with
       | .row τ xs=>if τ.sz=n then (match T.wide,lo,hi,mx with
         | true,some lo,some hi,some mx=>X0o lo hi mx xs.length (K (.val .dead))
         | _,_,_,_=>Zg lo hi mx xs.length fun l h c=>K (.val (.rowS k l (h - l) c))) else none
       | _=>none
     | .rowS k off len false=>match hp k with
       | .row τ xs=>if τ.sz=n then (match T.wide,lo,hi,mx with
         | true,some lo,some hi,none=>Zg (some lo) (some hi) none (xs.length - off) fun l h c=>K (.val (.rowS k (off+l) (h - l) c))
         | _,_,_,_=>Zg lo hi mx len fun l h c=>K (.val (.rowS k (off+l) (h - l) c))) else none
       | _=>none
     | .ns=>Zg lo hi none 0 fun _ _ _=>match mx with | none=>K (.val .ns) | some _=>none
     | _=>none
 | _=>none
def Q1p (T:Tab) (t:Nat):Bool:=match T.desc t with | .slice _=>true | .str=>true | _=>false
def Zd {R:Type} (T:Tab) (hp:Nat→LObj) (nx:Nat) (st st2:Nat) (base src:AV) (K:Eff→Option R):Option R:=
 match T.desc st with
 | .slice e=>
   match T.row e with
   | none=>none
   | some r=>
     match r.ty with
     | none=>none
     | some τ=>
       if τ.sz=r.size∧Q1p T st2=true then
        match Q1m hp τ src with
        | none=>none
        | some ys=>
          match base with
          | .ns=>req (fits ys.length r.bytes) (K (.new [.row τ ys] (.rowA nx)))
          | .rowA k=>match hp k with
            | .row τ' xs=>if h:τ'=τ then req (fits (xs.length+ys.length) r.bytes) (K (.app k (.row τ (h▸xs++ys)) (.rowA k))) else none
            | _=>none
          | .rowS k off len capped=>match hp k with
            | .row τ' xs=>
              if h:τ'=τ then
               let zs:List τ.den:=h▸xs
               req (fits (len+ys.length) r.bytes)
                (bif capped||decide (zs.length < off+len+ys.length)
                 then K (.app k (.row τ ((zs.drop off).take len++ys)) (.rowA k))
                 else K (.upd k (.row τ (zs.take (off+len)++ys++zs.drop (off+len+ys.length))) (.rowS k off (len+ys.length) false)))
              else none
            | _=>none
          | _=>none
       else none
 | _=>none
def V0g {R:Type} (T:Tab) (nx:Nat) (st st2:Nat) (n:Int) (K:Eff→Option R):Option R:=
 match T.desc st,T.desc st2 with
 | .slice e,.int _=>match T.row e with
   | none=>none
   | some r=>match r.ty with
     | none=>none
     | some τ=>if τ.sz=r.size∧0 < r.size then req (decide (0≤n)&&fits n.toNat r.bytes) (K (.new [.row τ (List.replicate n.toNat τ.dflt)] (.rowA nx))) else none
 | _,_=>none
def Xm {R:Type} (T:Tab) (hp:Nat→LObj) (nx:Nat) (st st2:Nat) (base src:AV) (K:Eff→Option R):Option R:=
 match base,src with
 | .ns,.int _ n=>V0g T nx st st2 n K
 | _,_=>Zd T hp nx st st2 base src K
def U3j:AV→AV→Option AV
 | .int k x,.int k' y=>if k=k' then some (.int k (if y < x then y else x)) else none
 | _,_=>none
def J32:AV→AV→Option AV
 | .int k x,.int k' y=>if k=k' then some (.int k (if x < y then y else x)) else none
 | _,_=>none
def Z1m (f:AV→AV→Option AV):AV→List AV→Option AV
 | x,[]=>some x
 | x,y::r=>match f x y with | some z=>Z1m f z r | none=>none
def Ty.keq:(t:Ty)→t.den→t.den→Bool
 | .int _,a,b=>decide ((a:Int)=b)
 | .str,a,b=>(a:List UInt8)==b
 | _,_,_=>false
def V0m (kt vt:Ty) (x:kt.den):List (kt.den×vt.den)→Option vt.den
 | []=>none
 | e::es=>bif kt.keq x e.1 then some e.2 else V0m kt vt x es
def putM (kt vt:Ty) (x:kt.den) (v:vt.den):List (kt.den×vt.den)→List (kt.den×vt.den)
 | []=>[(x,v)]
 | e::es=>bif kt.keq x e.1 then (x,v)::es else e::putM kt vt x v es
def hasM (kt vt:Ty) (x:kt.den) (es:List (kt.den×vt.den)):Bool:=(V0m kt vt x es).isSome
def getM (kt vt:Ty) (x:kt.den) (es:List (kt.den×vt.den)):vt.den:=(V0m kt vt x es).getD vt.dflt
def J2m (T:Tab) (t:Nat):Option Ty:=match T.desc t with | .int k=>some (.int k) | .str=>some .str | _=>none
def J2p (T:Tab) (t:Nat):Option Ty:=match T.row t with | some r=>(match r.ty with | some τ=>(if r.size=1∧r.desc.agg=false then some τ else none) | none=>none) | none=>none
def J0b (T:Tab) (t:Nat):Option (Ty×Ty):=
 match T.desc t with
 | .map k e=>match J2m T k,J2p T e with | some kt,some vt=>some (kt,vt) | _,_=>none
 | _=>none
def Xr (T:Tab) (t:Nat):Option Ty:=match T.row t with | some r=>(if r.size=1 then (match r.desc with | .int k=>some (.int k) | .str=>some .str | .bool=>some .bool | _=>none) else none) | none=>none
def U0f (T:Tab):List (Nat×Nat)→Nat→Option Ty
 | [],_=>none
 | (off,t)::fs,n=>if off=n then (match fs with
   | []=>Xr T t
   | f::fs=>match Xr T t,U0f T (f::fs) (n+1) with | some a,some b=>some (.pair a b) | _,_=>none) else none
def keyB (T:Tab) (t:Nat):Option Ty:=match T.desc t with | .struct fs=>U0f T fs 0 | _=>none
def setTy (T:Tab) (t:Nat):Option (IntKind×Ty):=
 match T.desc t with
 | .struct [(0,a),(1,b)]=>(match T.desc a,T.desc b with
   | .int ki,.slice e=>(match T.ty e with | some τ=>some (ki,τ) | none=>none)
   | _,_=>none)
 | _=>none
def V1u (T:Tab) (t:Nat):Option (IntKind×Ty):=match T.row t with | some r=>(match r.desc,r.zero with | .ptr s,[.np]=>setTy T s | _,_=>none) | none=>none
def V22 (T:Tab) (t:Nat):Option (Ty×IntKind×Ty):=
 match T.desc t with
 | .map k e=>match keyB T k,V1u T e with | some kt,some p=>some (kt,p.1,p.2) | _,_=>none
 | _=>none
def X07 (T:Tab) (nx t:Nat):Option Eff:=
 match J0b T t with
 | some p=>some (.new [.mpo p.1 p.2 []] (.mp nx))
 | none=>match V22 T t with
   | some p=>some (.new [.mpb p.1 p.2.1 p.2.2 [] none] (.mp nx))
   | none=>none
def U05 {R:Type} (T:Tab) (hp:Nat→LObj) (nx t:Nat) (m k:AV) (ok:Bool) (K:Eff→Option R):Option R:=
 match V22 T t,m,ok with
 | some p,.mp j,false=>match hp j with
   | .mpb kt ki τ es foc=>if p=(kt,ki,τ)∧k.isAgg=true then (match asTy kt k with
       | some x=>(match foc with
         | none=>bif hasB (keqD kt) x es
             then K (.foc j (.mpb kt ki τ es (some (x,.ptr nx 0))) [.boxT none [.int ki (getB (keqD kt) (0,[]) x es).1,.rowA (nx+1)],.row τ (getB (keqD kt) (0,[]) x es).2] (.ptr nx 0))
             else K (.val .np)
         | some q=>req (keqD kt x q.1) (K (.val q.2)))
       | none=>none) else none
   | _=>none
 | _,_,_=>none
def V0v {R:Type} (T:Tab) (hp:Nat→LObj) (t:Nat) (m k v:AV) (K:Eff→Option R):Option R:=
 match V22 T t,m,v with
 | some p,.mp j,.ptr b 0=>match hp j with
   | .mpb kt ki τ es none=>if p=(kt,ki,τ)∧k.isAgg=true then (match asTy kt k with
       | some x=>req (!hasB (keqD kt) x es&&keqD kt x x) (K (.upd j (.mpb kt ki τ (putB (keqD kt) x (0,[]) es) (some (x,.ptr b 0))) .undef))
       | none=>none) else none
   | _=>none
 | _,_,_=>none
def V19 (T:Tab) (hp:Nat→LObj) (t:Nat) (m k:AV) (ok:Bool):Option AV:=
 match J0b T t,m with
 | some p,.mp j=>match hp j with
   | .mpo kt vt es=>if p=(kt,vt)∧k.isAgg=false then (match asTy kt k with
       | some x=>(if ok then some (.tup [AV.ofTy vt (getM kt vt x es) false,.bool (hasM kt vt x es)]) else some (AV.ofTy vt (getM kt vt x es) false))
       | none=>none) else none
   | _=>none
 | _,_=>none
def updE (T:Tab) (hp:Nat→LObj) (t:Nat) (m k v:AV):Option Eff:=
 match J0b T t,m with
 | some p,.mp j=>match hp j with
   | .mpo kt vt es=>if p=(kt,vt)∧k.isAgg=false∧v.isAgg=false then (match v.refs with
       | []=>(match asTy kt k,asTy vt v with
         | some x,some y=>some (.upd j (.mpo kt vt (putM kt vt x y es)) .undef)
         | _,_=>none)
       | r::rs=>if (V1 hp (r::rs)).length=(r::rs).length then (match asTy kt k,asTy vt (v.frz hp (r::rs)) with
           | some x,some y=>some (.call (r::rs) [j] [.mpo kt vt (putM kt vt x y es)] [.undef])
           | _,_=>none) else none) else none
   | _=>none
 | _,_=>none
def X21 (T:Tab) (hp:Nat→LObj) (t t2:Nat) (dst src:AV):Option Eff:=
 match T.desc t with
 | .slice e=>(match T.desc t2,src,dst with
   | .str,.str s,.rowS k off len _=>(match hp k with
     | .row (.int .u8) xs=>if T.size e=some 1 then some (.upd k (.row (.int .u8) (xs.take off++(J4 s).take len++xs.drop (off+min len s.length))) (.int .i64 (min len s.length:Nat))) else none
     | _=>none)
   | _,_,_=>none)
 | _=>none
def X1e (T:Tab) (hp:Nat→LObj) (t:Nat) (x:AV):Option Eff:=
 match T.desc t with
 | .slice e=>(match T.row e,x with
   | some r,.rowS k off len _=>(match hp k with
     | .row τ xs=>if r.ty=some τ∧τ.sz=r.size then some (.upd k (.row τ (xs.take off++List.replicate len τ.dflt++xs.drop (off+len))) (.tup [])) else none
     | _=>none)
   | _,_=>none)
 | _=>none
def Zt:List AV→List (Option Ty)→List AV
 | .ns::cs,some t::ts=>.list t []::Zt cs ts
 | c::cs,_::ts=>c::Zt cs ts
 | cs,[]=>cs
 | [],_=>[]
def Q03 (T:Tab) (t:Nat) (v:AV):AV:=
 match v with
 | .agg cs=>(match T.row t with | some r=>.agg (Zt cs r.cty) | none=>.agg cs)
 | v=>v
def U3e (T:Tab) (t:Nat) (v:AV):AV:=bif T.nild then Q03 T t v else v
def X0m (T:Tab) (t:Nat) (v:AV):AV:=
 match v with
 | .ns=>bif T.kns then .ns else match T.desc t with | .slice e=>(match T.ty e with | some τ=>.list τ [] | none=>.ns) | _=>.ns
 | v=>bif T.kns then v else Q03 T t v
def Qe (T:Tab):List Nat→List AV→List AV
 | t::ts,v::vs=>X0m T t v::Qe T ts vs
 | [],vs=>vs
 | _,[]=>[]
mutual
def AV.plain:AV→Bool
 | .int _ _=>true
 | .bool _=>true
 | .str _=>true
 | .np=>true
 | .undef=>true
 | .agg cs=>AV.plainL cs
 | .tup cs=>AV.plainL cs
 | _=>false
def AV.plainL:List AV→Bool
 | []=>true
 | v::vs=>AV.plain v&&AV.plainL vs
end
def Ty.flatTy:Ty→Bool
 | .list _=>false
 | .pair a b=>a.flatTy&&b.flatTy
 | _=>true
mutual
def AV.thin:AV→Bool
 | .list _ _=>false
 | .lptr _ _ _ _=>false
 | .agg cs=>AV.thinL cs
 | .tup cs=>AV.thinL cs
 | .fn _ cs=>AV.thinL cs
 | _=>true
def AV.thinL:List AV→Bool
 | []=>true
 | v::vs=>AV.thin v&&AV.thinL vs
end
def LObj.thin:LObj→Bool
 | .boxT _ cs=>AV.thinL cs
 | .row t _=>t.flatTy
 | .mpo kt vt _=>kt.flatTy&&vt.flatTy
 | _=>false
def Tr.isNo {α:Type}:Tr α→Bool
 | .no=>true
 | _=>false
def Z1v (T:Tab) (q:Res):Option AV:=match T.dcl,q.1,q.2 with | true,[.rowA 0],[.row t ys]=>some (.list t ys) | _,_,_=>none
def Q0f {R:Type} (T:Tab) (orc:Orc) (hp:Nat→LObj) (f:Nat) (args:List AV) (K:Eff→Option R):Option R:=
 let rs:=AV.refsL args
 let rows:=V1 hp rs
 if rows.length=rs.length∧(orc f (AV.frzL hp rs args) []).isNo=false then
  (orc f (AV.frzL hp rs args) []).run fun q=>
   if AV.plainL q.1&&q.2.isEmpty then K (.val (Q8 q.1))
   else match rs with
    | []=>if q.2.isEmpty&&(AV.refsL q.1).isEmpty then K (.val (Q8 q.1)) else K (.call [] [] q.2 q.1)
    | r::rs=>if AV.thinL q.1&&q.2.all LObj.thin then (match Z1v T q with | some v=>K (.new [] v) | none=>K (.call [] [] q.2 q.1)) else K (.call (r::rs) [] q.2 q.1)
 else
  let ks:=U5 hp 1000 rs []
  let ks1:=ks.filter fun k=>!rows.contains k
  let g1:=fun k=>J5 k ks1 0
  if rows.isEmpty=false∧(orc f (AV.renL g1 (AV.frzL hp rows args)) (ks1.map fun k=>(hp k).ren g1)).isNo=false then
   (orc f (AV.renL g1 (AV.frzL hp rows args)) (ks1.map fun k=>(hp k).ren g1)).run fun q=>if AV.thinL q.1&&q.2.all LObj.thin then K (.call [] ks1 q.2 q.1) else K (.call rows ks1 q.2 q.1)
  else
   let g:=fun k=>J5 k ks 0
   (orc f (AV.renL g args) (ks.map fun k=>(hp k).ren g)).run fun q=>K (.call [] ks q.2 q.1)
def V1h (T:Tab) (hp:Nat→LObj) (t:Nat) (x:AV):Option Nat:=
 match T.desc t,x with
 | .str,.str s=>some s.length
 | .str,_=>none
 | .slice _,.str _=>none
 | .slice _,x=>lenE hp x
 | _,_=>none
def Xn {R:Type} (T:Tab) (hp:Nat→LObj) (nx:Nat) (b:Builtin) (ts:List Nat) (vs:List AV) (K:Eff→Option R):Option R:=
 match b,ts,vs with
 | .len,[t],[x]=>match V1h T hp t x with | some n=>K (.val (.int .i64 n)) | none=>none
 | .append,[t,t2],[x,y]=>Xm T hp nx t t2 x y K
 | .min,_,x::r=>match Z1m U3j x r with | some v=>K (.val v) | none=>none
 | .max,_,x::r=>match Z1m J32 x r with | some v=>K (.val v) | none=>none
 | .copy,[t,t2],[x,y]=>match X21 T hp t t2 x y with | some f=>K f | none=>none
 | .clear,[t],[x]=>match X1e T hp t x with | some f=>K f | none=>none
 | .cap,[t],[.ns]=>match T.desc t with | .slice _=>K (.val (.int .i64 0)) | _=>none
 | _,_,_=>none
def Q2a (T:Tab) (t:Nat) (parts:List (Nat×AV)):Option AV:=
 match T.row t with
 | none=>none
 | some r=>
   match r.desc with
   | .struct fs=>match U0m T fs with
     | some ps=>(match V1i (fun i=>ps[i]?) r.zero parts with | some cs=>some (.agg cs) | none=>none)
     | none=>none
   | .array _ e=>match T.size e with
     | some n=>(match V1i (fun i=>some (i * n,n)) r.zero parts with | some cs=>some (.agg cs) | none=>none)
     | none=>none
   | _=>none
def Z0o:List (Nat×AV)→Nat→Bool
 | [],_=>true
 | (i,.ptr _ _)::ps,j=>Nat.beq i j&&Z0o ps (j+1)
 | _,_=>false
def Z6 {R:Type} (T:Tab) (hp:Nat→LObj) (nx:Nat) (t len:Nat) (parts:List (Nat×AV)) (K:Eff→Option R):Option R:=
 match T.desc t with
 | .slice e=>match T.row e with
   | none=>none
   | some r=>match r.ty with
     | none=>bif Nat.beq r.size 1&&(Nat.beq parts.length len&&(Z0o parts 0&&(Nat.ble 1 len&&Nat.ble len 16777216))) then K (.new [.boxT none (parts.map (·.2))] (.psl nx len)) else none
     | some τ=>
       if τ.sz=r.size∧parts.length=len∧len * r.size≤16777216 then
        let rs:=AV.refsL (parts.map (·.2))
        if (V1 hp rs).length=rs.length then
         match Xy τ (parts.map fun p=>(p.1,p.2.frz hp rs)) 0 with
         | some xs=>match rs with
           | []=>K (.new [.row τ xs] (.rowA nx))
           | _=>K (.frz rs [.row τ xs] (.rowA nx))
         | none=>none
        else none
       else none
 | _=>none
def Vg {R:Type} (T:Tab) (nx:Nat) (t:Nat) (l c:AV) (K:Eff→Option R):Option R:=
 match T.desc t with
 | .slice e=>match T.row e with
   | none=>none
   | some r=>match r.ty,V0a l,V0a c with
     | some τ,some l,some c=>
       if τ.sz=r.size then
        req (decide (0≤l)&&(l==c)&&fits l.toNat r.bytes) (K (.new [.row τ (List.replicate l.toNat τ.dflt)] (.rowA nx)))
       else none
     | _,_,_=>none
 | _=>none
def Jm {R:Type} (T:Tab) (hp:Nat→LObj) (nx:Nat) (src dst:Nat) (x:AV) (K:Eff→Option R):Option R:=
 match T.desc src,T.desc dst,x with
 | .int _,.int k,.int _ n=>K (.val (.int k (k.wrap n)))
 | .str,.str,.str s=>K (.val (.str s))
 | .str,.slice e,.str s=>match T.desc e with
   | .int .u8=>req (fits s.length 1) (K (.new [.row (.int .u8) (J4 s)] (.rowA nx)))
   | _=>none
 | .slice e,.str,x=>match T.desc e with
   | .int .u8=>match Ur hp (.int .u8) x with | some xs=>K (.val (.str (Us xs))) | none=>none
   | _=>none
 | _,_,_=>none
def U0a (T:Tab) (s f:Nat):Option (Nat×Nat):=match T.desc s with | .struct fs=>fs[f]? | _=>none
def X0h (T:Tab) (s:Nat) (p:AV) (f:Nat):Option AV:=
 match U0a T s f with
 | none=>none
 | some (d,t)=>match T.size t with
   | some n=>if n=0 then none else match p with
     | .ptr k off=>some (.ptr k (off+d))
     | .rptr k t i off=>some (.rptr k t i (off+d))
     | .lptr t xs i off=>some (.lptr t xs i (off+d))
     | _=>none
   | none=>none
def Xd {R:Type} (T:Tab) (hp:Nat→LObj) (t:Nat) (x ix:AV) (K:Eff→Option R):Option R:=
 match V0a ix with
 | none=>none
 | some i=>
   match T.desc t with
   | .slice e=>
     match x with
     | .list τ xs=>if T.size e=some τ.sz then req (decide (0≤i)) (req (decide (i < xs.length)) (K (.val (.lptr τ xs i.toNat 0)))) else none
     | .rowA k=>match hp k with
       | .row τ xs=>if T.size e=some τ.sz then req (decide (0≤i)) (req (decide (i < xs.length)) (K (.val (.rptr k τ i.toNat 0)))) else none
       | _=>none
     | .rowS k off len _=>match hp k with
       | .row τ _=>if T.size e=some τ.sz then req (decide (0≤i)) (req (decide (i < len)) (K (.val (.rptr k τ (off+i.toNat) 0)))) else none
       | _=>none
     | .psl k n=>if T.size e=some 1 then Xc i n 0 fun j=>K (.val (.ptr k j)) else none
     | _=>none
   | .array n e=>
     match x,T.size e with
     | .ptr k off,some m=>Xc i n 0 fun j=>K (.val (.ptr k (off+j * m)))
     | _,_=>none
   | _=>none
def Z0t {R:Type} (T:Tab) (t:Nat) (x ix:AV) (K:Eff→Option R):Option R:=
 match V0a ix with
 | none=>none
 | some i=>
   match T.desc t,x with
   | .str,.str s=>req (decide (0≤i)) (req (decide (i < s.length)) (K (.val (.int .u8 (s.getD i.toNat 0).toNat))))
   | .array n e,.agg cs=>match T.size e with
     | some m=>Xc i n 0 fun j=>match Vs T e cs (j * m) with | some v=>K (.val v) | none=>none
     | none=>none
   | _,_=>none
def V2o (T:Tab) (t:Nat):Option Nat:=match T.tag t with | true=>some t | false=>none
def boxE (T:Tab) (nx:Nat) (t:Nat) (cs:List AV):Option Eff:=
 match T.row t with
 | some r=>let p:=Q9 cs r.cty (nx+1);some (.new (.boxT (V2o T t) p.1::p.2) (.ptr nx 0))
 | none=>none
def U10 (T:Tab) (nx:Nat) (t:Nat) (v:AV):Eff:=
 match v with
 | .ns=>match T.desc t with
   | .slice e=>(match T.ty e with | some τ=>(match T.wide with | true=>.val (.list τ []) | false=>.new [.row τ []] (.rowA nx)) | none=>.val .ns)
   | _=>.val .ns
 | v=>.val (Q03 T t v)
def Q2l:Fn→List Operand→List AV→Option AV
 | .func f,[],caps=>some (.fn f caps)
 | _,_,_=>none
def J1l:List AV→List (Option Ty)→Bool
 | .ns::_,some _::_=>true
 | _::cs,_::ts=>J1l cs ts
 | _,_=>false
def V1n (T:Tab) (nx:Nat) (t:Nat) (v:AV):Eff:=
 match v with
 | .agg cs=>match T.row t with
   | some r=>bif T.kns&&J1l cs r.cty then .new (Q9 cs r.cty nx).2 (.agg (Q9 cs r.cty nx).1) else .val v
   | none=>.val v
 | v=>.val v
def livE (T:Tab) (nx t:Nat) (p:AV) (f:Eff):Eff:=
 match T.lvs,T.row t,p,f with
 | true,some r,.ptr _ 0,.upd k (.boxT g bs) w=>bif Nat.blt k nx&&J1l bs r.cty then .foc k (.boxT g (Q9 bs r.cty nx).1) (Q9 bs r.cty nx).2 w else .upd k (.boxT g bs) w
 | _,_,_,f=>f
def evOp {R:Type} (T:Tab) (orc:Orc) (o:Op) (ty:Nat) (st:St) (K:Eff→Option R):Option R:=
 let ρ:=st.ev
 match o with
 | .move x=>K (.val (ρ x))
 | .assign x=>K (U10 T st.nx ty (ρ x))
 | .pick c a b=>match ρ c with | .bool t=>bif t then K (.val (ρ a)) else K (.val (ρ b)) | _=>none
 | .alloc e=>match T.row e with
   | some r=>match boxE T st.nx e r.zero with | some f=>K f | none=>none
   | none=>none
 | .box e x=>match (ρ x).cellsOf with
   | some cs=>match boxE T st.nx e cs with | some f=>K f | none=>none
   | none=>none
 | .build t ps=>match Q2a T t (ps.toList.map fun p=>(p.1,ρ p.2)) with | some v=>K (.val v) | none=>none
 | .buildSlice t n ps=>Z6 T st.hp st.nx t n (ps.toList.map fun p=>(p.1,ρ p.2)) K
 | .load t a=>match V0p T st.hp t (ρ a) with | some v=>K (.val v) | none=>none
 | .store t a x=>match Q1t T st.hp t (ρ a) (U3e T t (ρ x)) with | some f=>K (livE T st.nx t (ρ a) f) | none=>none
 | .nilCheck x=>if Z2g (ρ x) then K (.val (ρ x)) else none
 | .binOp op t x y _=>X0u T t op (ρ x) (ρ y) K
 | .unOp op _ x=>match X34 op (ρ x) with | some v=>K (.val v) | none=>none
 | .convert s d x=>Jm T st.hp st.nx s d (ρ x) K
 | .makeFunc fn first caps=>match Q2l fn first.toList (caps.toList.map ρ) with | some v=>K (.val v) | none=>none
 | .makeSlice t l c=>Vg T st.nx t (ρ l) (ρ c) K
 | .slice t x lo hi mx=>V04 T st.hp t (ρ x) (lo.map ρ) (hi.map ρ) (mx.map ρ) K
 | .fieldAddr s x f=>match X0h T s (ρ x) f with | some v=>K (.val v) | none=>none
 | .field s x f=>match U0a T s f,ρ x with
   | some (d,t),.agg cs=>match Vs T t cs d with | some v=>K (.val v) | none=>none
   | _,_=>none
 | .indexAddr t x i=>Xd T st.hp t (ρ x) (ρ i) K
 | .index t x i=>Z0t T t (ρ x) (ρ i) K
 | .makeMap t r=>match r with | none=>(match X07 T st.nx t with | some f=>K f | none=>none) | some _=>none
 | .lookup t m k ok=>match V19 T st.hp t (ρ m) (ρ k) ok with | some v=>K (.val v) | none=>U05 T st.hp st.nx t (ρ m) (ρ k) ok K
 | .mapUpdate t m k v=>match updE T st.hp t (ρ m) (ρ k) (ρ v) with | some f=>K f | none=>V0v T st.hp t (ρ m) (ρ k) (ρ v) K
 | .insert t m k v=>match updE T st.hp t (ρ m) (ρ k) (ρ v) with | some f=>K f | none=>none
 | .extract x i=>match ρ x with
   | .tup vs=>match vs[i]? with | some v=>K (V1n T st.nx ty v) | none=>none
   | _=>none
 | .call c=>match c.callee with
   | .builtin b=>Xn T st.hp st.nx b c.argTypes.toList (c.args.toList.map ρ) K
   | .value f=>match ρ f with
     | .fn g caps=>Q0f T orc st.hp g (Qe T c.argTypes.toList (c.args.toList.map ρ)++caps) K
     | _=>none
   | _=>none
 | _=>none
def Z0f (all:List Oper) (j:Nat):Option Nat:=match all[j]? with | some o=>o.dst | none=>none
def gate {R:Type} (all:List Oper) (o:Oper) (st:St) (run skip:St→Option R):Option R:=
 match o.guard with
 | none=>run st
 | some (j,want)=>match Z0f all j with
   | none=>none
   | some t=>match st.tm t with
     | .bool b=>match want with
       | true=>bif b then run (st.put t (.bool true)) else skip (st.put t (.bool false))
       | false=>bif b then skip (st.put t (.bool true)) else run (st.put t (.bool false))
     | .undef=>skip st
     | _=>none
def Vh {R:Type} (n:Nat) (K:Nat→Option R):Option R:=bif Nat.beq n 0 then K 0 else bif Nat.beq n 1 then K 1 else bif Nat.beq n 2 then K 2 else bif Nat.beq n 3 then K 3 else bif Nat.beq n 4 then K 4 else bif Nat.beq n 5 then K 5 else bif Nat.beq n 6 then K 6 else bif Nat.beq n 7 then K 7 else bif Nat.beq n 8 then K 8 else bif Nat.beq n 9 then K 9 else bif Nat.beq n 10 then K 10 else bif Nat.beq n 11 then K 11 else bif Nat.beq n 12 then K 12 else bif Nat.beq n 13 then K 13 else bif Nat.beq n 14 then K 14 else bif Nat.beq n 15 then K 15 else bif Nat.beq n 16 then K 16 else bif Nat.beq n 17 then K 17 else bif Nat.beq n 18 then K 18 else bif Nat.beq n 19 then K 19 else bif Nat.beq n 20 then K 20 else bif Nat.beq n 21 then K 21 else bif Nat.beq n 22 then K 22 else bif Nat.beq n 23 then K 23 else bif Nat.beq n 24 then K 24 else bif Nat.beq n 25 then K 25 else bif Nat.beq n 26 then K 26 else bif Nat.beq n 27 then K 27 else bif Nat.beq n 28 then K 28 else bif Nat.beq n 29 then K 29 else bif Nat.beq n 30 then K 30 else bif Nat.beq n 31 then K 31 else K n
mutual
def Ja {R:Type}:AV→(AV→Option R)→Option R
 | .int k n,K=>K (.int k n)
 | .bool b,K=>K (.bool b)
 | .str s,K=>K (.str s)
 | .list t xs,K=>K (.list t xs)
 | .agg cs,K=>Z03 cs fun cs=>K (.agg cs)
 | .tup cs,K=>Z03 cs fun cs=>K (.tup cs)
 | .np,K=>K .np
 | .nm,K=>K .nm
 | .nf,K=>K .nf
 | .ns,K=>K .ns
 | .ptr k off,K=>Vh k fun k=>Vh off fun off=>K (.ptr k off)
 | .rptr k t i off,K=>Vh k fun k=>Vh off fun off=>K (.rptr k t i off)
 | .lptr t xs i off,K=>Vh off fun off=>K (.lptr t xs i off)
 | .rowA k,K=>Vh k fun k=>K (.rowA k)
 | .rowS k off n c,K=>Vh k fun k=>K (.rowS k off n c)
 | .mp k,K=>Vh k fun k=>K (.mp k)
 | .psl k n'',K=>Vh k fun k=>K (.psl k n'')
 | .fn g cs,K=>Z03 cs fun cs=>K (.fn g cs)
 | .undef,K=>K .undef
 | .dead,K=>K .dead
def Z03 {R:Type}:List AV→(List AV→Option R)→Option R
 | [],K=>K []
 | v::vs,K=>Ja v fun v=>Z03 vs fun vs=>K (v::vs)
end
def Q1r {R:Type} (o:LObj) (K:LObj→Option R):Option R:=
 match o with
 | .boxT g cs=>Z03 cs fun cs=>K (.boxT g cs)
 | .row t xs=>K (.row t xs)
 | .mpo kt vt es=>K (.mpo kt vt es)
 | .mpb kt ki t es foc=>match foc with | none=>K (.mpb kt ki t es none) | some q=>Ja q.2 fun v=>K (.mpb kt ki t es (some (q.1,v)))
 | .gone=>K .gone
def Q0y {R:Type}:List LObj→(List LObj→Option R)→Option R
 | [],K=>K []
 | o::os,K=>Q1r o fun o=>Q0y os fun os=>K (o::os)
def U0t (ls:List Nat) (st:St):St:=stOf ls (ls.map st.tm) ((rng 0 st.nx).map st.hp)
def U0l {R:Type} (o:Option (List Nat)) (st:St) (K:St→Option R):Option R:=
 match o with
 | none=>K st
 | some ls=>Vh st.nx fun nx=>Z03 (ls.map st.tm) fun vs=>Q0y ((rng 0 nx).map st.hp) fun os=>K (stOf ls vs os)
theorem Z2f {R:Type} {n i:Nat} {K:Nat→Option R} {x:Option R} (h:x=K n):(bif Nat.beq n i then K i else x)=K n:=by
 cases hb:Nat.beq n i with
 | true=>rw[cond_true,Nat.eq_of_beq_eq_true hb]
 | false=>rw[cond_false,h]
theorem X9 {R:Type} (n:Nat) (K:Nat→Option R):Vh n K=K n:=by
 unfold Vh
 repeat refine Z2f ?_
 rfl
mutual
theorem X01 {R:Type}:∀ (v:AV) (K:AV→Option R),Ja v K=K v
 | .int k n,K=>by simp only[Ja]
 | .bool b,K=>by simp only[Ja]
 | .str s,K=>by simp only[Ja]
 | .list t xs,K=>by simp only[Ja]
 | .agg cs,K=>by simp only[Ja];rw[Qu cs]
 | .tup cs,K=>by simp only[Ja];rw[Qu cs]
 | .np,K=>by simp only[Ja]
 | .nm,K=>by simp only[Ja]
 | .nf,K=>by simp only[Ja]
 | .ns,K=>by simp only[Ja]
 | .ptr k off,K=>by simp only[Ja,X9]
 | .rptr k t i off,K=>by simp only[Ja,X9]
 | .lptr t xs i off,K=>by simp only[Ja,X9]
 | .rowA k,K=>by simp only[Ja,X9]
 | .rowS k off n c,K=>by simp only[Ja,X9]
 | .mp k,K=>by simp only[Ja,X9]
 | .psl k n'',K=>by simp only[Ja,X9]
 | .fn g cs,K=>by simp only[Ja];rw[Qu cs]
 | .undef,K=>by simp only[Ja]
 | .dead,K=>by simp only[Ja]
theorem Qu {R:Type}:∀ (vs:List AV) (K:List AV→Option R),Z03 vs K=K vs
 | [],K=>by simp only[Z03]
 | v::vs,K=>by simp only[Z03];rw[X01 v,Qu vs]
end
theorem V15 {R:Type}:∀ (os:List LObj) (K:List LObj→Option R),Q0y os K=K os
 | [],K=>rfl
 | o::os,K=>by
   simp only[Q0y]
   have:∀ (K:LObj→Option R),Q1r o K=K o:=fun K=>by
    cases o
    case mpb kt ki t es foc=>cases foc<;>simp only[Q1r,X01]
    all_goals simp only[Q1r,Qu]
   rw[this,V15 os]
theorem V9 {R:Type} (o:Option (List Nat)) (st:St) (K:St→Option R):U0l o st K=K (match o with | none=>st | some ls=>U0t ls st):=by
 cases o with
 | none=>rfl
 | some ls=>simp only[U0l,X9,Qu,V15,U0t]
def J2n {R:Type} (st:St) (K:St→Option R):Option R:=match st with | ⟨tm,hp,nx⟩=>Vh nx fun nx=>K ⟨tm,hp,nx⟩
theorem Q19 {R:Type} (st:St) (K:St→Option R):J2n st K=K st:=by
 cases st
 simp only[J2n]
 rw[X9]
def V44 (T:Tab) (o:Oper):Option (List Nat):=match o.dst with | some t=>T.mid t | none=>none
def J09 {R:Type} (T:Tab) (orc:Orc) (all:List Oper):List Oper→St→(St→Option R)→Option R
 | [],st,K=>K st
 | o::os,st,K=>
   gate all o st
    (fun st=>evOp T orc o.op o.type st fun f=>let r:=st.apply f;U0l (V44 T o) (r.2.putO o.dst r.1) fun st=>J09 T orc all os st K)
    (fun st=>J09 T orc all os (st.putO o.dst .undef) K)
mutual
def AV.solid:AV→Bool
 | .agg cs=>AV.solidL cs
 | .tup cs=>AV.solidL cs
 | .fn _ cs=>AV.solidL cs
 | .rptr _ _ _ _=>false
 | .rowA _=>false
 | .rowS _ _ _ _=>false
 | .dead=>false
 | _=>true
def AV.solidL:List AV→Bool
 | []=>true
 | v::vs=>AV.solid v&&AV.solidL vs
end
def Ul:Op→Bool
 | .move _=>true
 | .assign _=>true
 | .pick _ _ _=>true
 | .build _ _=>true
 | .nilCheck _=>true
 | .binOp _ _ _ _ _=>true
 | .unOp _ _ _=>true
 | .makeFunc _ _ _=>true
 | .fieldAddr _ _ _=>true
 | .field _ _ _=>true
 | .index _ _ _=>true
 | .extract _ _=>true
 | _=>false
def U1 (st:St) (o:Op):List AV:=o.operands.toList.map st.ev
mutual
def AV.low (n0:Nat):AV→Bool
 | .agg cs=>AV.lowL n0 cs
 | .tup cs=>AV.lowL n0 cs
 | .fn _ cs=>AV.lowL n0 cs
 | .rptr k _ _ _=>Nat.blt k n0
 | .rowA k=>Nat.blt k n0
 | .rowS k _ _ _=>Nat.blt k n0
 | .ptr k _=>Nat.blt k n0
 | .mp k=>Nat.blt k n0
 | .psl k n''=>Nat.blt k n0
 | .dead=>false
 | _=>true
def AV.lowL (n0:Nat):List AV→Bool
 | []=>true
 | v::vs=>AV.low n0 v&&AV.lowL n0 vs
end
def LObj.low (n0:Nat):LObj→Bool
 | .boxT _ cs=>AV.lowL n0 cs
 | .row _ _=>true
 | .mpo _ _ _=>true
 | _=>false
abbrev Cls:=Nat×List Nat
def LObj.solid:LObj→Bool
 | .boxT _ cs=>AV.solidL cs
 | .row _ _=>true
 | .mpo _ _ _=>true
 | _=>false
mutual
def AV.high (n0:Nat):AV→Bool
 | .agg cs=>AV.highL n0 cs
 | .tup cs=>AV.highL n0 cs
 | .fn _ cs=>AV.highL n0 cs
 | .rptr k _ _ _=>Nat.ble n0 k
 | .rowA k=>Nat.ble n0 k
 | .rowS k _ _ _=>Nat.ble n0 k
 | .dead=>false
 | _=>true
def AV.highL (n0:Nat):List AV→Bool
 | []=>true
 | v::vs=>AV.high n0 v&&AV.highL n0 vs
end
def LObj.high (n0:Nat):LObj→Bool
 | .boxT _ cs=>AV.highL n0 cs
 | .row _ _=>true
 | .mpo _ _ _=>true
 | _=>false
def Z1d (st:St) (o:Op):Bool:=match o with | .alloc _=>true | .buildSlice _ _ _=>AV.solidL (U1 st o) | _=>false
def Q2k:Op→Bool | .call c=>(match c.callee with | .value _=>true | _=>false) | _=>false
def Z19:Op→Bool | .call c=>(match c.callee with | .builtin .append=>true | _=>false) | _=>false
def Xu (n0:Nat) (st:St) (o:Op) (ks:List Nat) (objs:List LObj) (vs:List AV):Bool:=
 Q2k o&&(Nat.beq objs.length ks.length&&(ks.all (fun k=>Nat.blt k n0)&&(AV.lowL n0 (U1 st o)&&((AV.refsL vs).all (fun i=>Nat.blt i ks.length)&&objs.all (fun ob=>ob.refs.all fun i=>Nat.blt i ks.length)))))
def X1 (n0:Nat) (st:St) (o:Op) (f:Eff):Cls:=
 match f with
 | .val v=>
   bif (Ul o||(AV.refsL (U1 st o)).isEmpty)&&(AV.solidL (U1 st o)&&v.solid) then (0,[])
   else bif Ul o then (bif AV.lowL n0 (U1 st o)&&v.low n0 then (1,AV.refsL (U1 st o)++v.refs) else (2,[]))
   else bif (AV.lowL n0 (U1 st o)&&v.low n0)&&(AV.refsL (U1 st o)).all (fun k=>(st.hp k).low n0) then
    (bif (AV.solidL (U1 st o)&&v.solid)&&(AV.refsL (U1 st o)).all (fun k=>(st.hp k).solid) then (10,AV.refsL (U1 st o))
     else bif v.refs.all (fun k=>(AV.refsL (U1 st o)).contains k)&&(AV.refsL (U1 st o)).all (fun k=>(st.hp k).solid) then (15,AV.refsL (U1 st o)) else (3,AV.refsL (U1 st o)))
   else bif (AV.highL n0 (U1 st o)&&v.solid)&&(AV.refsL (U1 st o)).all (fun k=>Nat.ble n0 k&&(st.hp k).high n0) then (13,AV.refsL (U1 st o)) else (4,[])
 | .new os v=>bif Z1d st o&&(v.high n0&&os.all (LObj.high n0)) then (12,[]) else (5,[])
 | .upd k ob v=>match o with | .alloc _=>bif (ob.solid&&v.solid)&&Nat.blt k n0 then (14,[k]) else (9,[]) | _=>(6,[k])
 | .app k _ _=>bif Nat.ble n0 k then (bif Z19 o then (16,AV.refsL (U1 st o)) else (7,[])) else (8,[k])
 | .call [] [] _ _=>(8,[])
 | .call [] (k::ks) objs vs=>bif Xu n0 st o (k::ks) objs vs then (11,k::ks) else (8,k::ks)
 | _=>(9,[])
def J0v (xs ys:List Nat):Bool:=xs.all fun a=>ys.all fun b=>!Nat.beq a b
def valC (x:Cls):Bool:=Nat.ble x.1 4||(Nat.beq x.1 10||(Nat.beq x.1 13||Nat.beq x.1 15))
def oldC (x:Cls):Bool:=Nat.beq x.1 3||(Nat.beq x.1 10||Nat.beq x.1 15)
def U1f (x y:Cls):Bool:=(valC x&&valC y)||((Nat.ble x.1 2||oldC x)&&(Nat.beq y.1 5||Nat.beq y.1 12))||((Nat.ble x.1 2||(oldC x&&J0v x.2 y.2))&&Nat.beq y.1 6)||((Nat.ble x.1 1||oldC x)&&(Nat.beq y.1 7||Nat.beq y.1 16)) ||
 ((Nat.beq x.1 0||(Nat.beq x.1 10&&J0v x.2 y.2))&&(Nat.beq y.1 8||Nat.beq y.1 11))||(Nat.beq x.1 11&&Nat.beq y.1 12)||(Nat.beq x.1 13&&Nat.beq y.1 11)||(((Nat.beq x.1 1||Nat.beq x.1 15)&&J0v x.2 y.2)&&Nat.beq y.1 11) ||
 (((Nat.ble x.1 2||Nat.beq x.1 13)||(oldC x&&J0v x.2 y.2))&&Nat.beq y.1 14)||(Nat.beq x.1 14&&(Nat.beq y.1 12||((Nat.beq y.1 14||Nat.beq y.1 16)&&J0v x.2 y.2)))
def meet (x y:Cls):Bool:=U1f x y||U1f y x
def J05 (bs:List Nat) (cs:List Cls):Bool:=
 (rng 0 cs.length).all fun j=>(rng 0 j).all fun i=>(bs.getD j 0).testBit i||meet (cs.getD i (9,[])) (cs.getD j (9,[]))
def U07 (ops:Array Oper) (bs:List Nat):Bool:=
 (rng 0 ops.size).all fun j=>(match ops[j]? with | some o=>o.after.toList.all fun e=>!Region.binds .any e||Nat.blt e.on j | none=>false)&&(rng 0 j).all fun i=>(bs.getD j 0).testBit i||(match ops[i]?,ops[j]? with | some x,some y=>Oper.apart ops x y | _,_=>false)
def X0z {R:Type}:List Nat→(List Nat→Option R)→Option R
 | [],K=>K []
 | n::ns,K=>Vh n fun n=>X0z ns fun ns=>K (n::ns)
def Z2e {R:Type} (c:Cls) (K:Cls→Option R):Option R:=match c with | (a,b)=>Vh a fun a=>X0z b fun b=>K (a,b)
theorem U19 {R:Type}:∀ (ns:List Nat) (K:List Nat→Option R),X0z ns K=K ns
 | [],K=>rfl
 | n::ns,K=>by simp only[X0z];rw[X9,U19 ns]
theorem U0u {R:Type} (c:Cls) (K:Cls→Option R):Z2e c K=K c:=by
 obtain⟨a,b⟩:=c
 simp only[Z2e]
 rw[X9,U19]
def J0q (T:Tab) (e:Nat):Option LObj:=match T.row e with | some r=>bif AV.solidL r.zero then some (.boxT (V2o T e) r.zero) else none | none=>none
def Z2m (T:Tab) (o:Oper):Option (Nat×LObj):=match o.op,o.guard,o.dst with | .alloc e,none,some d=>(match J0q T e with | some ob=>some (d,ob) | none=>none) | _,_,_=>none
def V4a (o:Op):Bool:=match o with | .alloc _=>true | .buildSlice _ _ _=>true | .makeSlice _ _ _=>true | o=>Z19 o
def J2c (T:Tab) (all:List Oper):List Nat:=bif Nat.ble (all.filter fun o=>V4a o.op).length 1 then [] else all.filterMap fun o=>(Z2m T o).map (·.1)
def V0t (T:Tab) (all:List Oper) (n0:Nat) (o:Oper):Option (Nat×LObj):=
 match Z2m T o with
 | some (d,ob)=>(match J5 d (J2c T all) 0 with | some i=>some (n0 - (J2c T all).length+i,ob) | none=>none)
 | none=>none
def V2c (T:Tab) (t n:Nat) (parts:List (Nat×AV)):Option AV:=
 match T.desc t with
 | .slice e=>match T.row e with
   | some r=>match r.ty with
     | some τ=>bif !parts.isEmpty&&((AV.refsL (parts.map (·.2))).isEmpty&&AV.solidL (parts.map (·.2))) then
         (if τ.sz=r.size∧parts.length=n∧n * r.size≤16777216 then (match Xy τ parts 0 with | some xs=>some (.list τ xs) | none=>none) else none) else none
     | none=>none
   | none=>none
 | _=>none
def Uv (T:Tab) (o:Op) (st:St):Option AV:=match T.bsd,o with | true,.buildSlice t n ps=>V2c T t n (ps.toList.map fun p=>(p.1,st.ev p.2)) | _,_=>none
def Xp {R:Type} (T:Tab) (orc:Orc) (all:List Oper) (n0:Nat) (o:Oper) (st:St) (K:Eff→Option R):Option R:=
 match V0t T all n0 o with
 | some (k,ob)=>(match st.hp k with | .gone=>bif Nat.blt k st.nx then K (.upd k ob (.ptr k 0)) else none | _=>none)
 | none=>match Uv T o.op st with | some v=>K (.val v) | none=>evOp T orc o.op o.type st K
def U45 (st:St) (m:Nat):St:={ st with nx:=st.nx+m,hp:=fun k=>bif Nat.ble st.nx k then .gone else st.hp k }
def resE {R:Type} (T:Tab) (all:List Oper) (st:St) (K:Nat→St→Option R):Option R:=
 match J2c T all with
 | []=>K st.nx st
 | d::ds=>Vh (st.nx+(d::ds).length) fun n=>K n (U45 st (d::ds).length)
def Uh {R:Type} (T:Tab) (orc:Orc) (all:List Oper) (bs:List Nat) (n0:Nat):List Oper→List Cls→St→(St→Option R)→Option R
 | [],cs,st,K=>bif J05 bs cs.reverse then K st else none
 | o::os,cs,st,K=>
   gate all o st
    (fun st=>Xp T orc all n0 o st fun f=>let r:=st.apply f;Z2e (X1 n0 st o.op f) fun c=>Ja r.1 fun v=>J2n (r.2.putO o.dst v) fun st=>Uh T orc all bs n0 os (c::cs) st K)
    (fun st=>J2n (st.putO o.dst .undef) fun st=>Uh T orc all bs n0 os ((0,[])::cs) st K)
def refine(st:St) (c:Operand) (b:Bool):St:=match c with | .tmp t=>st.put t (.bool b) | _=>st
def seqK {R:Type} (y:St→Option R) (K:Ex→St→Option R):Ex→St→Option R
 | .normal,st=>y st
 | e,st=>K e st
def V1x {R:Type} (id:Nat) (K:Ex→St→Option R):Ex→St→Option R
 | .exit i,st=>bif i==id then K .normal st else K (.exit i) st
 | e,st=>K e st
def Z2o {R:Type} (st:St) (c:Operand) (x y:St→Option R):Option R:=
 match st.ev c with
 | .bool b=>bif b then x (refine st c true) else y (refine st c false)
 | _=>none
abbrev Lp:=Nat→Code→St→Tr (Ex×St)
def evC {R:Type} (T:Tab) (orc:Orc) (lp:Lp):Code→Nat→St→(Ex→St→Option R)→Option R
 | .skip,_,st,K=>K .normal st
 | .region id ops draw,_,st,K=>
   if draw then (bif U07 ops (Region.before ops).toList then resE T ops.toList st (fun n0 st=>Uh T orc ops.toList (Region.before ops).toList n0 ops.toList [] st (fun st=>U0l (T.live id) st (K .normal))) else none)
   else J09 T orc ops.toList ops.toList st (fun st=>U0l (T.live id) st (K .normal))
 | .seq a b,bid,st,K=>evC T orc lp a bid st (seqK (fun st=>evC T orc lp b bid st K) K)
 | .cond c x y,bid,st,K=>Z2o st c (fun st=>evC T orc lp x bid st K) (fun st=>evC T orc lp y bid st K)
 | .block id body,_,st,K=>evC T orc lp body id st (V1x id K)
 | .loop body,bid,st,K=>(lp bid body st).run fun r=>K r.1 r.2
 | .exit id,_,st,K=>K (.exit id) st
 | .ret,_,st,K=>K .ret st
 | .label _,_,st,K=>K .normal st
 | _,_,_,_=>none
def Xt (F:St→Option (St⊕(Ex×St))):Nat→St→Option (Ex×St)
 | 0,_=>none
 | n+1,st=>match F st with
   | none=>none
   | some (.inr r)=>some r
   | some (.inl st')=>Xt F n st'
theorem Q0h (F:St→Option (St⊕(Ex×St))) {r:Ex×St}:∀ (n m:Nat) (st:St),n≤m→Xt F n st=some r→Xt F m st=some r
 | 0,_,_,_,h=>by simp[Xt] at h
 | n+1,0,_,h,_=>by omega
 | n+1,m+1,st,hnm,h=>by
   simp only[Xt] at h ⊢
   split at h
   ·simp at h
   ·exact h
   ·exact Q0h F n m _ (by omega) h
open Classical in
noncomputable def X2 (F:St→Option (St⊕(Ex×St))) (st:St):Option (Ex×St):=
 if h:∃ n r,Xt F n st=some r then some h.choose_spec.choose else none
theorem X16 {F:St→Option (St⊕(Ex×St))} {st:St} {r:Ex×St} {n:Nat} (h:Xt F n st=some r):X2 F st=some r:=by
 have hex:∃ n r,Xt F n st=some r:=⟨n,r,h⟩
 unfold X2
 rw[dif_pos hex]
 have h2:=hex.choose_spec.choose_spec
 have h3:=Q0h F _ (max n hex.choose) st (Nat.le_max_right _ _) h2
 have h4:=Q0h F _ (max n hex.choose) st (Nat.le_max_left _ _) h
 rw[h3] at h4
 exact h4
theorem V16 {F:St→Option (St⊕(Ex×St))} {st:St} {r:Ex×St} (h:X2 F st=some r):∃ n,Xt F n st=some r:=by
 unfold X2 at h
 split at h
 ·rename_i hex
  obtain rfl:=Option.some.inj h
  exact⟨_,hex.choose_spec.choose_spec⟩
 ·simp at h
theorem X2t {F:St→Option (St⊕(Ex×St))} {st:St} {r:Ex×St} (h:F st=some (.inr r)):X2 F st=some r:=
 X16 (n:=1) (by simp[Xt,h])
theorem Z2t {F:St→Option (St⊕(Ex×St))} {st st':St} (h:F st=some (.inl st')):X2 F st=X2 F st':=by
 cases hr:X2 F st' with
 | some r=>
   obtain⟨n,hn⟩:=V16 hr
   exact X16 (n:=n+1) (by simp[Xt,h,hn])
 | none=>
   cases hl:X2 F st with
   | none=>rfl
   | some r=>
     obtain⟨n,hn⟩:=V16 hl
     cases n with
     | zero=>simp[Xt] at hn
     | succ n=>
       simp only[Xt,h] at hn
       rw[X16 hn] at hr
       cases hr
def Q0 (keep keepX:List Nat) (n0:Nat):Ex→St→Option (St⊕(Ex×St))
 | .normal,st=>some (.inl (norm keep n0 st))
 | e,st=>some (.inr (e,norm keepX n0 st))
structure Hint where
 keep:Nat→List Nat
 keepX:Nat→List Nat
 own:Bool:=false
noncomputable def lpN (T:Tab) (orc:Orc) (H:Hint) (n0:Nat):Nat→Lp
 | 0=>fun _ _ _=>.no
 | n+1=>fun bid body st=>
   .of (X2 (fun st=>evC T orc (lpN T orc H n0 n) body bid st (Q0 (H.keep bid) (H.keepX bid) n0)) (norm (H.keep bid) n0 st))
def U0o:List AV→Nat→List (Nat×AV)
 | [],_=>[]
 | v::vs,i=>(i,v)::U0o vs (i+1)
def Z1 (args:List AV) (objs:List LObj) (nt:Nat):St:=
 { tm:=fun t=>bif Nat.blt t args.length then ofTm (U0o args 0) t else bif Nat.blt t nt then .undef else .dead,hp:=ofHp objs,nx:=objs.length }
def Xl (T:Tab) (st:St):List ResultVar→Option (List AV)
 | []=>some []
 | .tmp t::rs=>match Xl T st rs with | some vs=>some (st.tm t::vs) | none=>none
 | .cell a t::rs=>match V0p T st.hp t (st.tm a),Xl T st rs with | some v,some vs=>some (v::vs) | _,_=>none
def Z1f (T:Tab) (own:Bool) (n0:Nat) (rts:List Nat) (st:St) (vs:List AV):Res:=
 let vs:=Qe T rts vs
 let fz:=bif own then [] else (V1 st.hp (AV.refsL vs)).filter fun k=>Nat.ble n0 k
 let st1:=st.frz fz
 let vs1:=AV.frzL st.hp fz vs
 let ks:=U5 st1.hp 1000 (Qb st1.hp n0++AV.refsL vs1) (rng 0 n0)
 let g:=fun k=>J5 k ks 0
 (AV.renL g vs1,ks.map fun k=>(st1.hp k).ren g)
def J1 (T:Tab) (own:Bool) (n0:Nat) (fn:Func):Ex→St→Option Res
 | .exit _,_=>none
 | _,st=>match Xl T st fn.results.toList with
   | some vs=>some (Z1f T own n0 fn.resultTypes.toList st vs)
   | none=>none
def Qk (n:Nat):Code→Bool
 | .region _ ops _=>ops.toList.all fun o=>match o.dst with | some t=>Nat.blt t n | none=>true
 | .seq a b=>Qk n a&&Qk n b
 | .cond _ a b=>Qk n a&&Qk n b
 | .block _ c=>Qk n c
 | .loop c=>Qk n c
 | .exit _=>true
 | .ret=>true
 | .label _=>true
 | .skip=>true
 | _=>false
noncomputable def evFn (T:Tab) (orc:Orc) (H:Hint) (fn:Func) (args:List AV) (objs:List LObj):Option Res:=
 match fn.body with
 | none=>none
 | some c=>bif Qk fn.ntmps c&&Nat.ble args.length fn.ntmps then evC T orc (lpN T orc H objs.length 8) c 1000000 (Z1 args objs fn.ntmps) (J1 T H.own objs.length fn) else none
def Enc (F:Nat→Prop) (w:World):(t:Ty)→t.den→List Value→Prop
 | .int k,n,vs=>vs=[.int k n]
 | .bool,b,vs=>vs=[.bool b]
 | .str,s,vs=>vs=[.string ⟨List.toArray s⟩]
 | .unit,_,vs=>vs=[]
 | .list t,xs,vs=>∃ A cap,vs=[.slice A (List.length xs) cap]∧List.length xs≤cap∧(A=none→xs=[]) ∧
     ∀ a,A=some a→∀ (i:Nat) (x:t.den),(xs:List t.den)[i]?=some x→a.spot=none∧F a.block ∧
       ∃ us,Enc F w t x us∧us.length=t.sz∧∀ (j:Nat) (u:Value),us[j]?=some u→w.cell? ⟨a.block,a.off+i * t.sz+j,none⟩=some u
 | .pair a b,x,vs=>∃ us us',vs=us++us'∧Enc F w a x.1 us∧Enc F w b x.2 us'
theorem Enc.len {F:Nat→Prop} {w:World}:∀ {t:Ty} {x:t.den} {vs:List Value},Enc F w t x vs→vs.length=t.sz
 | .int _,_,_,h=>by simp[Enc] at h;subst h;rfl
 | .bool,_,_,h=>by simp[Enc] at h;subst h;rfl
 | .str,_,_,h=>by simp[Enc] at h;subst h;rfl
 | .unit,_,_,h=>by simp[Enc] at h;subst h;rfl
 | .list t,_,_,h=>by obtain⟨A,cap,rfl,_⟩:=h;rfl
 | .pair a b,_,_,h=>by obtain⟨us,us',rfl,h1,h2⟩:=h;simp[h1.len,h2.len,Ty.sz]
theorem Enc.one {F:Nat→Prop} {w:World}:∀ {t:Ty} {x:t.den} {vs:List Value},Enc F w t x vs→∀ u∈vs,u.oneCell'=true
 | .int _,_,_,h=>by simp[Enc] at h;subst h;simp[Value.oneCell']
 | .bool,_,_,h=>by simp[Enc] at h;subst h;simp[Value.oneCell']
 | .str,_,_,h=>by simp[Enc] at h;subst h;simp[Value.oneCell']
 | .unit,_,_,h=>by simp[Enc] at h;subst h;simp
 | .list t,_,_,h=>by obtain⟨A,cap,rfl,_⟩:=h;simp[Value.oneCell']
 | .pair a b,_,_,h=>by
   obtain⟨us,us',rfl,h1,h2⟩:=h
   intro u hu
   rcases List.mem_append.1 hu with hu | hu
   ·exact h1.one u hu
   ·exact h2.one u hu
theorem X0g {w w':World} {b off:Nat} (h:w'.heap[b]?=w.heap[b]?):w'.cell? ⟨b,off,none⟩=w.cell? ⟨b,off,none⟩:=by
 simp[World.cell?,h]
theorem Enc.mono {F F':Nat→Prop} {w w':World} (hF:∀ b,F b→F' b) (hw:∀ b,F b→w'.heap[b]?=w.heap[b]?) :
    ∀ {t:Ty} {x:t.den} {vs:List Value},Enc F w t x vs→Enc F' w' t x vs
 | .int _,_,_,h=>h
 | .bool,_,_,h=>h
 | .str,_,_,h=>h
 | .unit,_,_,h=>h
 | .list t,_,_,h=>by
   obtain⟨A,cap,rfl,hc,hn,ha⟩:=h
   refine⟨A,cap,rfl,hc,hn,fun a hA i x hx=>?_⟩
   obtain⟨hs,hb,us,he,hl,hcell⟩:=ha a hA i x hx
   exact⟨hs,hF _ hb,us,he.mono hF hw,hl,fun j u hu=>by rw[X0g (hw _ hb)];exact hcell j u hu⟩
 | .pair a b,_,_,h=>by
   obtain⟨us,us',rfl,h1,h2⟩:=h
   exact⟨us,us',rfl,h1.mono hF hw,h2.mono hF hw⟩
def Lies (F:Nat→Prop) (w:World) (t:Ty) (xs:List t.den) (b o:Nat):Prop:=
 ∀ (i:Nat) (x:t.den),xs[i]?=some x→∃ us,Enc F w t x us∧us.length=t.sz∧∀ (j:Nat) (u:Value),us[j]?=some u→w.cell? ⟨b,o+i * t.sz+j,none⟩=some u
theorem Lies.mono {F F':Nat→Prop} {w w':World} (hF:∀ b,F b→F' b) (hw:∀ b,F b→w'.heap[b]?=w.heap[b]?) {t:Ty} {xs:List t.den} {b o:Nat}
    (hb:w'.heap[b]?=w.heap[b]?) (h:Lies F w t xs b o):Lies F' w' t xs b o:=fun i x hx=>by
 obtain⟨us,he,hl,hc⟩:=h i x hx
 exact⟨us,he.mono hF hw,hl,fun j u hu=>by rw[X0g hb];exact hc j u hu⟩
theorem Lies.part {F:Nat→Prop} {w:World} {t:Ty} {xs:List t.den} {b o:Nat} (h:Lies F w t xs b o) (l n:Nat) :
    Lies F w t ((xs.drop l).take n) b (o+l * t.sz):=fun i x hx=>by
 have hi:i < n:=by
  have:=List.getElem?_eq_some_iff.1 hx
  obtain⟨h1,_⟩:=this
  simp at h1;omega
 have hx':xs[l+i]?=some x:=by
  rw[List.getElem?_take_of_lt hi,List.getElem?_drop] at hx
  exact hx
 obtain⟨us,he,hl,hc⟩:=h (l+i) x hx'
 refine⟨us,he,hl,fun j u hu=>?_⟩
 have:=hc j u hu
 rw[Nat.add_mul] at this
 rw[Nat.add_assoc o]
 exact this
theorem Jd {F:Nat→Prop} {w:World} {t:Ty} {xs:List t.den} {v:Value} :
    Enc F w (.list t) xs [v]↔∃ A cap,v=.slice A xs.length cap∧xs.length≤cap∧(A=none→xs=[]) ∧
     ∀ a,A=some a→xs≠[]→a.spot=none∧F a.block∧Lies F w t xs a.block a.off:=by
 constructor
 ·rintro⟨A,cap,hv,hc,hn,h⟩
  refine⟨A,cap,by simpa using hv,hc,hn,fun a hA hne=>?_⟩
  obtain⟨x,xs',rfl⟩:=List.exists_cons_of_ne_nil hne
  obtain⟨hs,hb,_⟩:=h a hA 0 x rfl
  exact⟨hs,hb,fun i y hy=>(h a hA i y hy).2.2⟩
 ·rintro⟨A,cap,rfl,hc,hn,h⟩
  refine⟨A,cap,rfl,hc,hn,fun a hA i x hx=>?_⟩
  obtain⟨hs,hb,hl⟩:=h a hA (by rintro rfl;simp at hx)
  exact⟨hs,hb,hl i x hx⟩
inductive Pl where
 | none
 | box (b:Nat)
 | row (a:Option (Nat×Nat)) (len cap sz:Nat)
 | map (b:Nat)
 | mapb (b:Nat) (cks:List (List Nat))
def Pl.own:Pl→Nat→Prop
 | .none,_=>False
 | .box b,x=>b=x
 | .row (some (b,_)) _ cap _,x=>cap≠0∧b=x
 | .row Option.none _ _ _,_=>False
 | .map b,x=>b=x
 | .mapb b cks,x=>b=x∨∃ ck,ck∈cks∧x∈ck
def Pl.isRow:Pl→Prop
 | .row _ _ _ _=>True
 | _=>False
def Pl.mapAt:Pl→Nat→Prop
 | .map b,x=>b=x
 | .mapb b _,x=>b=x
 | _,_=>False
theorem Pl.mapAt_ne {p:Pl} {b:Nat} (h:p.mapAt b):p≠.none:=by rintro rfl;exact h
def Qt:Option (Nat×Nat)→Option Addr
 | some (b,o)=>some ⟨b,o,none⟩
 | none=>none
mutual
def VRel (μ:Nat→Pl) (F:Nat→Prop) (w:World):AV→Value→Prop
 | .int k n,v=>v=.int k n
 | .bool b,v=>v=.bool b
 | .str s,v=>v=.string ⟨s.toArray⟩
 | .list t xs,v=>Enc F w (.list t) xs [v]
 | .agg cs,v=>∃ us,v=.agg us.toArray∧U0 μ F w cs us∧∀ u∈us,u.oneCell'=true
 | .tup cs,v=>∃ us,v=.tuple us.toArray∧U0 μ F w cs us
 | .np,v=>v=.pointer none
 | .nm,v=>v=.map none
 | .nf,v=>v=.nilFunc
 | .ns,v=>v=.slice none 0 0
 | .ptr k off,v=>∃ b,μ k=.box b∧v=.pointer (some ⟨b,off,none⟩)
 | .rptr k t i off,v=>∃ b o len cap,μ k=.row (some (b,o)) len cap t.sz∧i < len∧v=.pointer (some ⟨b,o+i * t.sz+off,none⟩)
 | .lptr t xs i off,v=>∃ b o,F b∧Lies F w t xs b o∧i < xs.length∧v=.pointer (some ⟨b,o+i * t.sz+off,none⟩)
 | .rowA k,v=>∃ a len cap sz A,μ k=.row a len cap sz∧v=.slice A len cap∧(cap≠0→A=Qt a)
 | .rowS k off n c,v=>∃ a len cap sz A cap',μ k=.row a len cap sz∧off+n≤len∧cap'=(if c then n else cap - off)∧v=.slice A n cap' ∧
     (cap'≠0→∃ b o,a=some (b,o)∧A=some ⟨b,o+off * sz,none⟩)
 | .mp k,v=>∃ b,(μ k).mapAt b∧v=.map (some b)
 | .psl k n,v=>∃ b,μ k=.box b∧v=.slice (some ⟨b,0,none⟩) n n
 | .fn f cs,v=>∃ us,v=.func (.func f) #[] us.toArray∧U0 μ F w cs us
 | .undef,v=>v=undef
 | .dead,_=>True
def U0 (μ:Nat→Pl) (F:Nat→Prop) (w:World):List AV→List Value→Prop
 | [],vs=>vs=[]
 | c::cs,vs=>∃ u us,vs=u::us∧VRel μ F w c u∧U0 μ F w cs us
end
theorem Xb {μ:Nat→Pl} {F:Nat→Prop} {w:World}:∀ {cs:List AV} {us:List Value},U0 μ F w cs us→us.length=cs.length
 | [],_,h=>by simp only[U0] at h;subst h;rfl
 | c::cs,_,h=>by simp only[U0] at h;obtain⟨u,us,rfl,_,h⟩:=h;simp[Xb h]
theorem Qq {μ:Nat→Pl} {F:Nat→Prop} {w:World}:∀ {cs:List AV} {us:List Value},U0 μ F w cs us→∀ {i:Nat} {c:AV},cs[i]?=some c→∃ u,us[i]?=some u∧VRel μ F w c u
 | [],_,_,i,c,hc=>by simp at hc
 | c::cs,_,h,i,d,hc=>by
   simp only[U0] at h
   obtain⟨u,us,rfl,h1,h2⟩:=h
   cases i with
   | zero=>simp at hc;subst hc;exact⟨u,rfl,h1⟩
   | succ i=>simp at hc;simpa using Qq h2 hc
theorem Z05 {μ:Nat→Pl} {F:Nat→Prop} {w:World}:∀ {cs:List AV} {us:List Value},us.length=cs.length→(∀ (i:Nat) (c:AV) (u:Value),cs[i]?=some c→us[i]?=some u→VRel μ F w c u)→U0 μ F w cs us
 | [],us,hl,_=>by simp only[U0];exact List.length_eq_zero_iff.1 hl
 | c::cs,[],hl,_=>by simp at hl
 | c::cs,u::us,hl,h=>by
   simp only[U0]
   exact⟨u,us,rfl,h 0 c u rfl rfl,Z05 (by simpa using hl) fun i c u hc hu=>h (i+1) c u (by simpa using hc) (by simpa using hu)⟩
theorem Zl {μ:Nat→Pl} {F:Nat→Prop} {w:World}:∀ {cs ds:List AV} {us vs:List Value},U0 μ F w cs us→U0 μ F w ds vs→U0 μ F w (cs++ds) (us++vs)
 | [],_,_,_,h,h'=>by simp only[U0] at h;subst h;exact h'
 | c::cs,ds,_,vs,h,h'=>by
   simp only[U0] at h
   obtain⟨u,us,rfl,h1,h2⟩:=h
   simp only[List.cons_append,U0]
   exact⟨u,us++vs,rfl,h1,Zl h2 h'⟩
theorem Q0i {μ:Nat→Pl} {F:Nat→Prop} {w:World} {cs:List AV} {us:List Value} (h:U0 μ F w cs us) (n:Nat):U0 μ F w (cs.take n) (us.take n):=by
 refine Z05 (by simp[Xb h]) fun i c u hc hu=>?_
 have hi:i < n:=by obtain⟨h1,_⟩:=List.getElem?_eq_some_iff.1 hc;simp at h1;omega
 rw[List.getElem?_take_of_lt hi] at hc hu
 obtain⟨u',hu',hr⟩:=Qq h hc
 rw[hu] at hu';cases hu';exact hr
theorem Z0h {μ:Nat→Pl} {F:Nat→Prop} {w:World} {cs:List AV} {us:List Value} (h:U0 μ F w cs us) (n:Nat):U0 μ F w (cs.drop n) (us.drop n):=by
 refine Z05 (by simp[Xb h]) fun i c u hc hu=>?_
 rw[List.getElem?_drop] at hc hu
 obtain⟨u',hu',hr⟩:=Qq h hc
 rw[hu] at hu';cases hu';exact hr
theorem Vl {μ:Nat→Pl} {F:Nat→Prop} {w:World}:∀ (t:Ty) (x:t.den) (us:List Value),Enc F w t x us→U0 μ F w (flat t x) us
 | .int k,n,_,h=>by simp only[Enc] at h;subst h;simp[flat,U0,VRel]
 | .bool,b,_,h=>by simp only[Enc] at h;subst h;simp[flat,U0,VRel]
 | .str,s,_,h=>by simp only[Enc] at h;subst h;simp[flat,U0,VRel]
 | .unit,_,_,h=>by simp only[Enc] at h;subst h;simp[flat,U0]
 | .list t,xs,us,h=>by
   have h':=h
   obtain⟨A,cap,rfl,_⟩:=h
   simp only[flat,U0,VRel]
   exact⟨_,[],rfl,h',rfl⟩
 | .pair a b,x,_,h=>by
   obtain⟨us,us',rfl,h1,h2⟩:=h
   exact Zl (Vl a x.1 us h1) (Vl b x.2 us' h2)
theorem X0k {μ:Nat→Pl} {F:Nat→Prop} {w:World}:∀ (t:Ty) (cs:List AV) (x:t.den) (r:List AV) (vs:List Value),Zm t cs=some (x,r)→U0 μ F w cs vs→
    ∃ us us',vs=us++us'∧Enc F w t x us∧U0 μ F w r us'
 | .int k,cs,x,r,vs,h,hv=>by
   cases cs with
   | nil=>simp[Zm] at h
   | cons c cs=>
     cases c<;>simp[Zm] at h
     obtain⟨rfl,rfl,rfl⟩:=h
     simp only[U0,VRel] at hv
     obtain⟨_,us,rfl,rfl,hv⟩:=hv
     exact⟨[_],us,rfl,by simp[Enc],hv⟩
 | .bool,cs,x,r,vs,h,hv=>by
   cases cs with
   | nil=>simp[Zm] at h
   | cons c cs=>
     cases c<;>simp[Zm] at h
     obtain⟨rfl,rfl⟩:=h
     simp only[U0,VRel] at hv
     obtain⟨_,us,rfl,rfl,hv⟩:=hv
     exact⟨[_],us,rfl,by simp[Enc],hv⟩
 | .str,cs,x,r,vs,h,hv=>by
   cases cs with
   | nil=>simp[Zm] at h
   | cons c cs=>
     cases c<;>simp[Zm] at h
     obtain⟨rfl,rfl⟩:=h
     simp only[U0,VRel] at hv
     obtain⟨_,us,rfl,rfl,hv⟩:=hv
     exact⟨[_],us,rfl,by simp[Enc],hv⟩
 | .unit,cs,x,r,vs,h,hv=>by
   have:cs=r:=by cases cs<;>simp[Zm] at h<;>simp[h]
   subst this
   exact⟨[],vs,rfl,by simp[Enc],hv⟩
 | .list t,cs,x,r,vs,h,hv=>by
   cases cs with
   | nil=>simp[Zm] at h
   | cons c cs=>
     cases c<;>simp[Zm] at h
     ·rename_i t' xs
      obtain⟨⟨ht,rfl⟩,rfl⟩:=h
      subst ht
      simp only[U0,VRel] at hv
      obtain⟨v,us,rfl,hx,hv⟩:=hv
      exact⟨[v],us,rfl,hx,hv⟩
     ·obtain⟨rfl,rfl⟩:=h
      simp only[U0,VRel] at hv
      obtain⟨v,us,rfl,rfl,hv⟩:=hv
      exact⟨[_],us,rfl,⟨none,0,rfl,by simp,fun _=>rfl,fun a ha=>by cases ha⟩,hv⟩
 | .pair a b,cs,x,r,vs,h,hv=>by
   simp only[Zm] at h
   split at h
   ·rename_i x1 r1 h1
    split at h
    ·rename_i x2 r2 h2
     simp only[Option.some.injEq,Prod.mk.injEq] at h
     obtain⟨rfl,rfl⟩:=h
     obtain⟨us,us1,rfl,e1,hv1⟩:=X0k a cs x1 r1 vs h1 hv
     obtain⟨us2,us3,rfl,e2,hv2⟩:=X0k b r1 x2 r2 us1 h2 hv1
     exact⟨us++us2,us3,by simp,⟨us,us2,rfl,e1,e2⟩,hv2⟩
    ·simp at h
   ·simp at h
theorem Z0g {μ:Nat→Pl} {F:Nat→Prop} {w:World} {t:Ty} {cs:List AV} {x:t.den} {vs:List Value} (h:X0e t cs=some x) (hv:U0 μ F w cs vs):Enc F w t x vs:=by
 unfold X0e at h
 split at h
 ·rename_i y hy
  cases h
  obtain⟨us,us',rfl,e,hr⟩:=X0k t cs _ _ vs hy hv
  simp only[U0] at hr
  subst hr
  simpa using e
 ·simp at h
theorem X0c {μ:Nat→Pl} {F:Nat→Prop} {w:World} {x:AV} {cs:List AV} {v:Value} (h:x.cellsOf=some cs) (hv:VRel μ F w x v) :
    U0 μ F w cs v.cells.toList∧∀ u∈v.cells.toList,u.oneCell'=true:=by
 cases x<;>simp[AV.cellsOf] at h<;>subst h<;>simp only[VRel] at hv
 case agg cs=>obtain⟨us,rfl,h1,h2⟩:=hv;exact⟨by simpa[Value.cells] using h1,by simpa[Value.cells] using h2⟩
 case list t xs=>
  have hv':=hv
  obtain⟨A,cap,hs,_⟩:=hv
  obtain rfl:v=_:=by simpa using hs
  exact⟨by simp[Value.cells,U0,VRel];exact hv',by simp[Value.cells,Value.oneCell']⟩
 case ptr k off=>obtain⟨b,h1,rfl⟩:=hv;exact⟨by simp[Value.cells,U0,VRel,h1],by simp[Value.cells,Value.oneCell']⟩
 case rptr k t i off=>obtain⟨b,o,len,cap,h1,h2,rfl⟩:=hv;exact⟨by simp only[Value.cells,U0,VRel];exact⟨_,[],rfl,⟨b,o,len,cap,h1,h2,rfl⟩,rfl⟩,by simp[Value.cells,Value.oneCell']⟩
 case lptr t xs i off=>obtain⟨b,o,h1,h2,h3,rfl⟩:=hv;exact⟨by simp only[Value.cells,U0,VRel];exact⟨_,[],rfl,⟨b,o,h1,h2,h3,rfl⟩,rfl⟩,by simp[Value.cells,Value.oneCell']⟩
 case rowA k=>obtain⟨a,len,cap,sz,A,h1,rfl,h2⟩:=hv;exact⟨by simp only[Value.cells,U0,VRel];exact⟨_,[],rfl,⟨a,len,cap,sz,A,h1,rfl,h2⟩,rfl⟩,by simp[Value.cells,Value.oneCell']⟩
 case rowS k off n c=>
  obtain⟨a,len,cap,sz,A,cap',h1,h2,h3,rfl,h4⟩:=hv
  exact⟨by simp only[Value.cells,U0,VRel];exact⟨_,[],rfl,⟨a,len,cap,sz,A,cap',h1,h2,h3,rfl,h4⟩,rfl⟩,by simp[Value.cells,Value.oneCell']⟩
 case mp k=>obtain⟨b,h1,rfl⟩:=hv;exact⟨by simp[Value.cells,U0,VRel,h1],by simp[Value.cells,Value.oneCell']⟩
 case psl k n=>obtain⟨b,h1,rfl⟩:=hv;exact⟨by simp[Value.cells,U0,VRel,h1],by simp[Value.cells,Value.oneCell']⟩
 case fn f caps=>obtain⟨us,rfl,h1⟩:=hv;exact⟨by simp only[Value.cells,U0,VRel];exact⟨_,[],rfl,⟨us,rfl,h1⟩,rfl⟩,by simp[Value.cells,Value.oneCell']⟩
 all_goals (subst hv;exact⟨by simp[Value.cells,U0,VRel],by simp[Value.cells,Value.oneCell']⟩)
theorem Q0n {μ:Nat→Pl} {F:Nat→Prop} {w:World} {t:Ty} {v:AV} {x:t.den} {u:Value} (h:asTy t v=some x) (hv:VRel μ F w v u):Enc F w t x u.cells.toList:=by
 unfold asTy at h
 split at h
 ·rename_i cs hcs
  exact Z0g h (X0c hcs hv).1
 ·simp at h
def MRel (F:Nat→Prop) (w:World) (kt vt:Ty):List (kt.den×vt.den)→List MapEntry→Prop
 | [],ms=>ms=[]
 | e::es,ms=>∃ m r,ms=m::r∧Enc F w kt e.1 [m.key]∧Enc F w vt e.2 [m.val]∧MRel F w kt vt es r
theorem MRel.mono {F F':Nat→Prop} {w w':World} (hF:∀ b,F b→F' b) (hw:∀ b,F b→w'.heap[b]?=w.heap[b]?) {kt vt:Ty}:∀ {es:List (kt.den×vt.den)} {ms:List MapEntry},MRel F w kt vt es ms→MRel F' w' kt vt es ms
 | [],_,h=>h
 | e::es,_,⟨m,r,h1,h2,h3,h4⟩=>⟨m,r,h1,h2.mono hF hw,h3.mono hF hw,h4.mono hF hw⟩
def Q46 (g:Option Nat) (E:TypeId):Prop:=∀ n,g=some n→E=n
def X0j (t:Ty) (E:TypeId):Prop:=t=.int .u8→E=5
def Q2p (F:Nat→Prop) (w:World) (t:Ty) (xs:List t.den) (a:Option (Nat×Nat)) (cap:Nat):Prop:=
 xs.length≤cap∧(a=none→cap=0) ∧
     ∀ b o,a=some (b,o)→cap≠0→∃ (us:List Value) (E:TypeId) (fz:Nat×Nat),w.heap[b]?=some (.cells us.toArray E fz)∧(∀ i,i < us.length→¬ (fz.1≤i∧i < fz.2))∧o+cap * t.sz≤us.length ∧
       (∀ (i:Nat) (x:t.den),xs[i]?=some x→∃ vs,Enc F w t x vs∧vs.length=t.sz∧∀ (j:Nat) (u:Value),vs[j]?=some u→us[o+i * t.sz+j]?=some u)∧X0j t E
def Vp:Option (Nat×Nat)→Nat→List Nat
 | some (b,_),cap=>if cap=0 then [] else [b]
 | none,_=>[]
theorem X0r {a:Option (Nat×Nat)} {l cap sz x:Nat}:x∈Vp a cap↔(Pl.row a l cap sz).own x:=by
 cases a with
 | none=>simp[Vp,Pl.own]
 | some bo=>
   obtain⟨b,o⟩:=bo
   by_cases h:cap=0
   ·simp[Vp,Pl.own,h]
   ·simp[Vp,Pl.own,h,eq_comm]
def U2l (F:Nat→Prop) (w:World) (ki:IntKind) (t:Ty) (e:Int×List t.den) (ck:List Nat) (v:Value):Prop:=
 ∃ (bb:Nat) (a:Option (Nat×Nat)) (cap:Nat) (E:TypeId) (fz:Nat×Nat) (A:Option Addr),v=.pointer (some ⟨bb,0,none⟩) ∧
   w.heap[bb]?=some (.cells #[.int ki e.1,.slice A e.2.length cap] E fz)∧(∀ i,i < 2→¬ (fz.1≤i∧i < fz.2))∧(cap≠0→A=Qt a)∧ck=bb::Vp a cap∧bb ∉ Vp a cap∧Q2p F w t e.2 a cap
def Uz (F:Nat→Prop) (w:World) (kt:Ty) (x:kt.den) (v:Value):Prop:=∃ us:List Value,v=.agg us.toArray∧Enc F w kt x us
def V0x {kt:Ty} (foc:Option (kt.den×AV)) (x:kt.den):Bool:=match foc with | some q=>keqD kt q.1 x | none=>false
def Q42 (μ:Nat→Pl) (F:Nat→Prop) (w:World) (kt:Ty) (ki:IntKind) (t:Ty) (foc:Option (kt.den×AV)) (e:kt.den×(Int×List t.den)) (ck:List Nat) (m:MapEntry):Prop:=
 Uz F w kt e.1 m.key∧(V0x foc e.1=false→U2l F w ki t e.2 ck m.val)∧(V0x foc e.1=true→ck=[]∧∀ q,foc=some q→VRel μ F w q.2 m.val)
structure MapbAt (μ:Nat→Pl) (F:Nat→Prop) (w:World) (kt:Ty) (ki:IntKind) (t:Ty) (es:List (kt.den×(Int×List t.den))) (foc:Option (kt.den×AV)) (b:Nat) (cks:List (List Nat)) (ms:List MapEntry) (clock:Nat):Prop where
 at_:w.heap[b]?=some (.map ms.toArray clock)
 lm:ms.length=es.length
 lc:cks.length=es.length
 en:∀ (n:Nat) e ck m,es[n]?=some e→cks[n]?=some ck→ms[n]?=some m→Q42 μ F w kt ki t foc e ck m
 keys:∀ (i j:Nat) e e',es[i]?=some e→es[j]?=some e'→keqD kt e.1 e'.1=true→i=j
 apart:∀ (i j:Nat) ck ck' (x:Nat),cks[i]?=some ck→cks[j]?=some ck'→x∈ck→x∈ck'→i=j
 off:∀ ck,ck∈cks→b ∉ ck
 fv:∀ q,foc=some q→∃ (n:Nat) (e:kt.den×(Int×List t.den)),es[n]?=some e∧keqD kt q.1 e.1=true
def ORel (μ:Nat→Pl) (F:Nat→Prop) (w:World):LObj→Pl→Prop
 | .boxT g cs,.box b=>∃ (us:List Value) (E:TypeId) (fz:Nat×Nat),w.heap[b]?=some (.cells us.toArray E fz)∧(∀ i,i < us.length→¬ (fz.1≤i∧i < fz.2))∧U0 μ F w cs us∧(∀ u∈us,u.oneCell'=true)∧Q46 g E
 | .row t xs,.row a len cap sz=>sz=t.sz∧len=xs.length∧len≤cap∧(a=none→cap=0) ∧
     ∀ b o,a=some (b,o)→cap≠0→∃ (us:List Value) (E:TypeId) (fz:Nat×Nat),w.heap[b]?=some (.cells us.toArray E fz)∧(∀ i,i < us.length→¬ (fz.1≤i∧i < fz.2))∧o+cap * sz≤us.length ∧
       (∀ (i:Nat) (x:t.den),xs[i]?=some x→∃ vs,Enc F w t x vs∧vs.length=t.sz∧∀ (j:Nat) (u:Value),vs[j]?=some u→us[o+i * t.sz+j]?=some u)∧X0j t E
 | .mpo kt vt es,.map b=>∃ (ms:List MapEntry) (clock:Nat),w.heap[b]?=some (.map ms.toArray clock)∧MRel F w kt vt es ms
 | .mpb kt ki t es foc,.mapb b cks=>∃ ms clock,MapbAt μ F w kt ki t es foc b cks ms clock
 | .gone,.none=>True
 | _,_=>False
theorem Z36 {μ:Nat→Pl} {F:Nat→Prop} {w:World} {kt vt:Ty} {es:List (kt.den×vt.den)} {p:Pl} {b:Nat} (h:ORel μ F w (.mpo kt vt es) p) (hm:p.mapAt b) :
    p=.map b∧∃ (ms:List MapEntry) (clock:Nat),w.heap[b]?=some (.map ms.toArray clock)∧MRel F w kt vt es ms:=by
 cases p<;>simp only[ORel] at h
 simp only[Pl.mapAt] at hm
 subst hm
 exact⟨rfl,h⟩
theorem U35 {μ:Nat→Pl} {F:Nat→Prop} {w:World} {kt:Ty} {ki:IntKind} {t:Ty} {es:List (kt.den×(Int×List t.den))} {foc:Option (kt.den×AV)} {p:Pl} {b:Nat} (h:ORel μ F w (.mpb kt ki t es foc) p) (hm:p.mapAt b) :
    ∃ cks ms clock,p=.mapb b cks∧MapbAt μ F w kt ki t es foc b cks ms clock:=by
 cases p<;>simp only[ORel] at h
 simp only[Pl.mapAt] at hm
 subst hm
 obtain⟨ms,clock,h⟩:=h
 exact⟨_,ms,clock,rfl,h⟩
structure HInv (w:World) (hp:Nat→LObj) (nx:Nat) (μ:Nat→Pl) (F:Nat→Prop):Prop where
 obj:∀ k,k < nx→ORel μ F w (hp k) (μ k)
 top:∀ k,nx≤k→μ k=.none
 one:∀ k k' b,(μ k).own b→(μ k').own b→k=k'
 out:∀ k b,(μ k).own b→¬ F b∧b < w.heap.size
 inn:∀ b,F b→b < w.heap.size
structure Fr (w0:World) (fp F0:Nat→Prop) (w:World) (F:Nat→Prop) (μ:Nat→Pl):Prop where
 os:w.os=w0.os
 tape:w.tape=w0.tape
 output:w.output=w0.output
 size:w0.heap.size≤w.heap.size
 keep:∀ b,b < w0.heap.size→¬ fp b→w.heap[b]?=w0.heap[b]?
 old:∀ b,F0 b→F b
 newF:∀ b,F b→F0 b∨fp b∨w0.heap.size≤b
 newO:∀ k b,(μ k).own b→fp b∨w0.heap.size≤b
mutual
theorem Uk {μ μ':Nat→Pl} {F F':Nat→Prop} {w w':World} (hF:∀ b,F b→F' b) (hw:∀ b,F b→w'.heap[b]?=w.heap[b]?) :
    ∀ {x:AV} {v:Value},(∀ k∈x.refs,μ' k=μ k)→VRel μ F w x v→VRel μ' F' w' x v
 | .int k n,v,_,h=>by simpa only[VRel] using h
 | .bool b,v,_,h=>by simpa only[VRel] using h
 | .str s,v,_,h=>by simpa only[VRel] using h
 | .list t xs,v,_,h=>by simp only[VRel] at h ⊢;exact h.mono hF hw
 | .agg cs,v,hr,h=>by
   simp only[VRel] at h ⊢
   obtain⟨us,rfl,h1,h2⟩:=h
   exact⟨us,rfl,Ua hF hw (by simpa only[AV.refs] using hr) h1,h2⟩
 | .tup cs,v,hr,h=>by
   simp only[VRel] at h ⊢
   obtain⟨us,rfl,h1⟩:=h
   exact⟨us,rfl,Ua hF hw (by simpa only[AV.refs] using hr) h1⟩
 | .np,v,_,h=>by simpa only[VRel] using h
 | .nm,v,_,h=>by simpa only[VRel] using h
 | .nf,v,_,h=>by simpa only[VRel] using h
 | .ns,v,_,h=>by simpa only[VRel] using h
 | .ptr k off,v,hr,h=>by simp only[VRel] at h ⊢;rw[hr k (by simp[AV.refs])];exact h
 | .rptr k t i off,v,hr,h=>by simp only[VRel] at h ⊢;rw[hr k (by simp[AV.refs])];exact h
 | .lptr t xs i off,v,_,h=>by
   simp only[VRel] at h ⊢
   obtain⟨b,o,h1,h2,h3,h4⟩:=h
   exact⟨b,o,hF b h1,h2.mono hF hw (hw b h1),h3,h4⟩
 | .rowA k,v,hr,h=>by simp only[VRel] at h ⊢;rw[hr k (by simp[AV.refs])];exact h
 | .rowS k off n c,v,hr,h=>by simp only[VRel] at h ⊢;rw[hr k (by simp[AV.refs])];exact h
 | .mp k,v,hr,h=>by simp only[VRel] at h ⊢;rw[hr k (by simp[AV.refs])];exact h
 | .psl k n'',v,hr,h=>by simp only[VRel] at h ⊢;rw[hr k (by simp[AV.refs])];exact h
 | .fn f cs,v,hr,h=>by
   simp only[VRel] at h ⊢
   obtain⟨us,rfl,h1⟩:=h
   exact⟨us,rfl,Ua hF hw (by simpa only[AV.refs] using hr) h1⟩
 | .undef,v,_,h=>by simpa only[VRel] using h
 | .dead,v,_,_=>by simp only[VRel]
theorem Ua {μ μ':Nat→Pl} {F F':Nat→Prop} {w w':World} (hF:∀ b,F b→F' b) (hw:∀ b,F b→w'.heap[b]?=w.heap[b]?) :
    ∀ {cs:List AV} {us:List Value},(∀ k∈AV.refsL cs,μ' k=μ k)→U0 μ F w cs us→U0 μ' F' w' cs us
 | [],us,_,h=>by simpa only[U0] using h
 | c::cs,us,hr,h=>by
   simp only[U0] at h ⊢
   obtain⟨u,us,rfl,h1,h2⟩:=h
   exact⟨u,us,rfl,Uk hF hw (fun k hk=>hr k (by simp[AV.refsL,hk])) h1,Ua hF hw (fun k hk=>hr k (by simp[AV.refsL,hk])) h2⟩
end
mutual
theorem U02 {μ μ':Nat→Pl} {F F':Nat→Prop} {w w':World} {ks:List Nat} (hF:∀ b,F b→F' b) (hw:∀ b,F b→w'.heap[b]?=w.heap[b]?)
    (hμ:∀ k,ks.contains k=false→(μ k).isRow→μ' k=μ k) (hb:∀ k b,μ k=.box b→μ' k=.box b) (hm:∀ k b,(μ k).mapAt b→(μ' k).mapAt b) :
    ∀ {x:AV} {v:Value},VRel μ F w x v→VRel μ' F' w' (x.kill ks) v
 | .int k n,v,h=>by simpa only[AV.kill,VRel] using h
 | .bool b,v,h=>by simpa only[AV.kill,VRel] using h
 | .str s,v,h=>by simpa only[AV.kill,VRel] using h
 | .list t xs,v,h=>by simp only[AV.kill,VRel] at h ⊢;exact h.mono hF hw
 | .agg cs,v,h=>by
   simp only[AV.kill,VRel] at h ⊢
   obtain⟨us,rfl,h1,h2⟩:=h
   exact⟨us,rfl,Zv hF hw hμ hb hm h1,h2⟩
 | .tup cs,v,h=>by
   simp only[AV.kill,VRel] at h ⊢
   obtain⟨us,rfl,h1⟩:=h
   exact⟨us,rfl,Zv hF hw hμ hb hm h1⟩
 | .np,v,h=>by simpa only[AV.kill,VRel] using h
 | .nm,v,h=>by simpa only[AV.kill,VRel] using h
 | .nf,v,h=>by simpa only[AV.kill,VRel] using h
 | .ns,v,h=>by simpa only[AV.kill,VRel] using h
 | .ptr k off,v,h=>by
   simp only[AV.kill,VRel] at h ⊢
   obtain⟨b,h1,h2⟩:=h
   exact⟨b,hb k b h1,h2⟩
 | .rptr k t i off,v,h=>by
   simp only[AV.kill]
   cases hc:ks.contains k with
   | true=>simp[VRel]
   | false=>simp only[cond_false,VRel] at h ⊢;rw[hμ k hc (by obtain⟨_,_,_,_,h1,_⟩:=h;rw[h1];trivial)];exact h
 | .lptr t xs i off,v,h=>by
   simp only[AV.kill,VRel] at h ⊢
   obtain⟨b,o,h1,h2,h3,h4⟩:=h
   exact⟨b,o,hF b h1,h2.mono hF hw (hw b h1),h3,h4⟩
 | .rowA k,v,h=>by
   simp only[AV.kill]
   cases hc:ks.contains k with
   | true=>simp[VRel]
   | false=>simp only[cond_false,VRel] at h ⊢;rw[hμ k hc (by obtain⟨_,_,_,_,_,h1,_⟩:=h;rw[h1];trivial)];exact h
 | .rowS k off n c,v,h=>by
   simp only[AV.kill]
   cases hc:ks.contains k with
   | true=>simp[VRel]
   | false=>simp only[cond_false,VRel] at h ⊢;rw[hμ k hc (by obtain⟨_,_,_,_,_,_,h1,_⟩:=h;rw[h1];trivial)];exact h
 | .mp k,v,h=>by
   simp only[AV.kill,VRel] at h ⊢
   obtain⟨b,h1,h2⟩:=h
   exact⟨b,hm k b h1,h2⟩
 | .psl k n'',v,h=>by
   simp only[AV.kill,VRel] at h ⊢
   obtain⟨b,h1,h2⟩:=h
   exact⟨b,hb k b h1,h2⟩
 | .fn f cs,v,h=>by
   simp only[AV.kill,VRel] at h ⊢
   obtain⟨us,rfl,h1⟩:=h
   exact⟨us,rfl,Zv hF hw hμ hb hm h1⟩
 | .undef,v,h=>by simpa only[AV.kill,VRel] using h
 | .dead,v,_=>by simp only[AV.kill,VRel]
theorem Zv {μ μ':Nat→Pl} {F F':Nat→Prop} {w w':World} {ks:List Nat} (hF:∀ b,F b→F' b) (hw:∀ b,F b→w'.heap[b]?=w.heap[b]?)
    (hμ:∀ k,ks.contains k=false→(μ k).isRow→μ' k=μ k) (hb:∀ k b,μ k=.box b→μ' k=.box b) (hm:∀ k b,(μ k).mapAt b→(μ' k).mapAt b) :
    ∀ {cs:List AV} {us:List Value},U0 μ F w cs us→U0 μ' F' w' (AV.killL ks cs) us
 | [],us,h=>by simpa only[AV.killL,U0] using h
 | c::cs,us,h=>by
   simp only[AV.killL,U0] at h ⊢
   obtain⟨u,us,rfl,h1,h2⟩:=h
   exact⟨u,us,rfl,U02 hF hw hμ hb hm h1,Zv hF hw hμ hb hm h2⟩
end
mutual
theorem Q09 {μ μ':Nat→Pl} {F:Nat→Prop} {w:World} {f:Nat→Option Nat} (hf:∀ k i,f k=some i→μ' i=μ k) :
    ∀ {x:AV} {v:Value},VRel μ F w x v→VRel μ' F w (x.ren f) v
 | .int k n,v,h=>by simpa only[AV.ren,VRel] using h
 | .bool b,v,h=>by simpa only[AV.ren,VRel] using h
 | .str s,v,h=>by simpa only[AV.ren,VRel] using h
 | .list t xs,v,h=>by simpa only[AV.ren,VRel] using h
 | .agg cs,v,h=>by
   simp only[AV.ren,VRel] at h ⊢
   obtain⟨us,rfl,h1,h2⟩:=h
   exact⟨us,rfl,Uj hf h1,h2⟩
 | .tup cs,v,h=>by
   simp only[AV.ren,VRel] at h ⊢
   obtain⟨us,rfl,h1⟩:=h
   exact⟨us,rfl,Uj hf h1⟩
 | .np,v,h=>by simpa only[AV.ren,VRel] using h
 | .nm,v,h=>by simpa only[AV.ren,VRel] using h
 | .nf,v,h=>by simpa only[AV.ren,VRel] using h
 | .ns,v,h=>by simpa only[AV.ren,VRel] using h
 | .ptr k off,v,h=>by
   simp only[AV.ren]
   cases hk:f k with
   | none=>simp[VRel]
   | some i=>simp only[VRel] at h ⊢;rw[hf k i hk];exact h
 | .rptr k t i off,v,h=>by
   simp only[AV.ren]
   cases hk:f k with
   | none=>simp[VRel]
   | some i=>simp only[VRel] at h ⊢;rw[hf k i hk];exact h
 | .lptr t xs i off,v,h=>by simpa only[AV.ren,VRel] using h
 | .rowA k,v,h=>by
   simp only[AV.ren]
   cases hk:f k with
   | none=>simp[VRel]
   | some i=>simp only[VRel] at h ⊢;rw[hf k i hk];exact h
 | .rowS k off n c,v,h=>by
   simp only[AV.ren]
   cases hk:f k with
   | none=>simp[VRel]
   | some i=>simp only[VRel] at h ⊢;rw[hf k i hk];exact h
 | .mp k,v,h=>by
   simp only[AV.ren]
   cases hk:f k with
   | none=>simp[VRel]
   | some i=>simp only[VRel] at h ⊢;rw[hf k i hk];exact h
 | .psl k n'',v,h=>by
   simp only[AV.ren]
   cases hk:f k with
   | none=>simp[VRel]
   | some i=>simp only[VRel] at h ⊢;rw[hf k i hk];exact h
 | .fn g cs,v,h=>by
   simp only[AV.ren,VRel] at h ⊢
   obtain⟨us,rfl,h1⟩:=h
   exact⟨us,rfl,Uj hf h1⟩
 | .undef,v,h=>by simpa only[AV.ren,VRel] using h
 | .dead,v,_=>by simp only[AV.ren,VRel]
theorem Uj {μ μ':Nat→Pl} {F:Nat→Prop} {w:World} {f:Nat→Option Nat} (hf:∀ k i,f k=some i→μ' i=μ k) :
    ∀ {cs:List AV} {us:List Value},U0 μ F w cs us→U0 μ' F w (AV.renL f cs) us
 | [],us,h=>by simpa only[AV.renL,U0] using h
 | c::cs,us,h=>by
   simp only[AV.renL,U0] at h ⊢
   obtain⟨u,us,rfl,h1,h2⟩:=h
   exact⟨u,us,rfl,Q09 hf h1,Uj hf h2⟩
end
theorem Jl {μ:Nat→Pl} {F:Nat→Prop} {w:World} {o:LObj} {a:Option (Nat×Nat)} {len cap sz:Nat} (h:ORel μ F w o (.row a len cap sz)) :
    ∃ t xs,o=.row t xs∧sz=t.sz∧len=xs.length∧len≤cap∧(a=none→cap=0) ∧
      ∀ b o,a=some (b,o)→cap≠0→∃ (us:List Value) (E:TypeId) (fz:Nat×Nat),w.heap[b]?=some (.cells us.toArray E fz)∧(∀ i,i < us.length→¬ (fz.1≤i∧i < fz.2))∧o+cap * sz≤us.length ∧
        (∀ (i:Nat) (x:t.den),xs[i]?=some x→∃ vs,Enc F w t x vs∧vs.length=t.sz∧∀ (j:Nat) (u:Value),vs[j]?=some u→us[o+i * t.sz+j]?=some u)∧X0j t E:=by
 cases o with
 | row t xs=>simp only[ORel] at h;exact⟨t,xs,rfl,h⟩
 | boxT g cs=>simp[ORel] at h
 | mpo kt vt es=>simp[ORel] at h
 | mpb kt ki t es foc=>simp[ORel] at h
 | gone=>simp[ORel] at h
theorem V08 {F F':Nat→Prop} {w:World} {t:Ty} {xs:List t.den} {b o cap:Nat} (hF:∀ b,F b→F' b)
    (h:∃ (us:List Value) (E:TypeId) (fz:Nat×Nat),w.heap[b]?=some (.cells us.toArray E fz)∧(∀ i,i < us.length→¬ (fz.1≤i∧i < fz.2))∧o+cap * t.sz≤us.length ∧
        (∀ (i:Nat) (x:t.den),xs[i]?=some x→∃ vs,Enc F w t x vs∧vs.length=t.sz∧∀ (j:Nat) (u:Value),vs[j]?=some u→us[o+i * t.sz+j]?=some u)∧X0j t E) :
    Lies F' w t xs b o:=fun i x hx=>by
 obtain⟨us,E,fz,h1,_,_,h2,_⟩:=h
 obtain⟨vs,he,hl,hc⟩:=h2 i x hx
 exact⟨vs,he.mono hF (fun _ _=>rfl),hl,fun j u hu=>by simp[World.cell?,h1,hc j u hu]⟩
mutual
theorem Z0b {μ μ':Nat→Pl} {F F':Nat→Prop} {w:World} {hp:Nat→LObj} {ks:List Nat} (hF:∀ b,F b→F' b)
    (ho:∀ k,ks.contains k=true→ORel μ F w (hp k) (μ k)) (hn:∀ k b,ks.contains k=true→(μ k).own b→F' b)
    (hμ:∀ k,ks.contains k=false→μ' k=μ k) (hb:∀ k b,μ k=.box b→μ' k=.box b) (hm:∀ k b,(μ k).mapAt b→(μ' k).mapAt b) :
    ∀ {x:AV} {v:Value},VRel μ F w x v→VRel μ' F' w (x.frz hp ks) v
 | .int k n,v,h=>by simpa only[AV.frz,VRel] using h
 | .bool b,v,h=>by simpa only[AV.frz,VRel] using h
 | .str s,v,h=>by simpa only[AV.frz,VRel] using h
 | .list t xs,v,h=>by simp only[AV.frz,VRel] at h ⊢;exact h.mono hF fun _ _=>rfl
 | .agg cs,v,h=>by
   simp only[AV.frz,VRel] at h ⊢
   obtain⟨us,rfl,h1,h2⟩:=h
   exact⟨us,rfl,Z01 hF ho hn hμ hb hm h1,h2⟩
 | .tup cs,v,h=>by
   simp only[AV.frz,VRel] at h ⊢
   obtain⟨us,rfl,h1⟩:=h
   exact⟨us,rfl,Z01 hF ho hn hμ hb hm h1⟩
 | .np,v,h=>by simpa only[AV.frz,VRel] using h
 | .nm,v,h=>by simpa only[AV.frz,VRel] using h
 | .nf,v,h=>by simpa only[AV.frz,VRel] using h
 | .ns,v,h=>by simpa only[AV.frz,VRel] using h
 | .ptr k off,v,h=>by
   simp only[AV.frz,VRel] at h ⊢
   obtain⟨b,h1,h2⟩:=h
   exact⟨b,hb k b h1,h2⟩
 | .rptr k t i off,v,h=>by
   simp only[AV.frz]
   cases hc:ks.contains k with
   | true=>simp[VRel]
   | false=>simp only[cond_false,VRel] at h ⊢;rw[hμ k hc];exact h
 | .lptr t xs i off,v,h=>by
   simp only[AV.frz,VRel] at h ⊢
   obtain⟨b,o,h1,h2,h3,h4⟩:=h
   exact⟨b,o,hF b h1,h2.mono hF (fun _ _=>rfl) rfl,h3,h4⟩
 | .rowA k,v,h=>by
   simp only[AV.frz]
   cases hc:ks.contains k with
   | true=>
     simp only[cond_true]
     simp only[VRel] at h
     obtain⟨a,len,cap,sz,A,h1,rfl,hA0⟩:=h
     have h2:=ho k hc
     rw[h1] at h2
     obtain⟨t,xs,h3,h4,h5,h6,h7,h8⟩:=Jl h2
     rw[h3]
     simp only[VRel]
     refine Jd.2 ⟨A,cap,by rw[h5],by omega,fun hA=>?_,fun ad hA hne=>?_⟩
     ·refine List.length_eq_zero_iff.1 ?_
      by_cases hcap:cap=0
      ·omega
      ·rw[hA0 hcap] at hA
       cases a with
       | none=>have:=h7 rfl;omega
       | some bo=>simp[Qt] at hA
     ·have hcap:cap≠0:=by
       intro h0
       exact hne (List.length_eq_zero_iff.1 (by omega))
      rw[hA0 hcap] at hA
      cases a with
      | none=>simp[Qt] at hA
      | some bo=>
        obtain⟨b,o⟩:=bo
        simp only[Qt,Option.some.injEq] at hA
        subst hA
        subst h4
        exact⟨rfl,hn k b hc (by simp[h1,Pl.own,hcap]),V08 hF (h8 b o rfl hcap)⟩
   | false=>simp only[cond_false,VRel] at h ⊢;rw[hμ k hc];exact h
 | .rowS k off n c,v,h=>by
   simp only[AV.frz]
   cases hc:ks.contains k with
   | true=>
     simp only[cond_true]
     simp only[VRel] at h
     obtain⟨a,len,cap,sz,A,cap',h1,hle,hcap',rfl,hA'⟩:=h
     have h2:=ho k hc
     rw[h1] at h2
     obtain⟨t,xs,h3,h4,h5,h6,h7,h8⟩:=Jl h2
     rw[h3]
     simp only[VRel]
     have hlen:((xs.drop off).take n).length=n:=by simp;omega
     refine Jd.2 ⟨A,cap',by rw[hlen],by rw[hlen,hcap'];split<;>omega,fun hA=>?_,fun ad hA hne=>?_⟩
     ·refine List.length_eq_zero_iff.1 ?_
      rw[hlen]
      by_cases h0:cap'=0
      ·rw[hcap'] at h0;split at h0<;>omega
      ·obtain⟨b,o,_,h9⟩:=hA' h0
       rw[hA] at h9;cases h9
     ·have h0:cap'≠0:=by
       intro h0
       refine hne (List.length_eq_zero_iff.1 ?_)
       rw[hlen]
       rw[hcap'] at h0;split at h0<;>omega
      obtain⟨b,o,rfl,h9⟩:=hA' h0
      rw[hA] at h9
      cases h9
      have hcap:cap≠0:=by
       intro h0'
       refine hne (List.length_eq_zero_iff.1 ?_)
       rw[hlen];omega
      subst h4
      exact⟨rfl,hn k b hc (by simp[h1,Pl.own,hcap]),(V08 hF (h8 b o rfl hcap)).part off n⟩
   | false=>simp only[cond_false,VRel] at h ⊢;rw[hμ k hc];exact h
 | .mp k,v,h=>by
   simp only[AV.frz,VRel] at h ⊢
   obtain⟨b,h1,h2⟩:=h
   exact⟨b,hm k b h1,h2⟩
 | .psl k n'',v,h=>by
   simp only[AV.frz,VRel] at h ⊢
   obtain⟨b,h1,h2⟩:=h
   exact⟨b,hb k b h1,h2⟩
 | .fn f cs,v,h=>by
   simp only[AV.frz,VRel] at h ⊢
   obtain⟨us,rfl,h1⟩:=h
   exact⟨us,rfl,Z01 hF ho hn hμ hb hm h1⟩
 | .undef,v,h=>by simpa only[AV.frz,VRel] using h
 | .dead,v,_=>by simp only[AV.frz,VRel]
theorem Z01 {μ μ':Nat→Pl} {F F':Nat→Prop} {w:World} {hp:Nat→LObj} {ks:List Nat} (hF:∀ b,F b→F' b)
    (ho:∀ k,ks.contains k=true→ORel μ F w (hp k) (μ k)) (hn:∀ k b,ks.contains k=true→(μ k).own b→F' b)
    (hμ:∀ k,ks.contains k=false→μ' k=μ k) (hb:∀ k b,μ k=.box b→μ' k=.box b) (hm:∀ k b,(μ k).mapAt b→(μ' k).mapAt b) :
    ∀ {cs:List AV} {us:List Value},U0 μ F w cs us→U0 μ' F' w (AV.frzL hp ks cs) us
 | [],us,h=>by simpa only[AV.frzL,U0] using h
 | c::cs,us,h=>by
   simp only[AV.frzL,U0] at h ⊢
   obtain⟨u,us,rfl,h1,h2⟩:=h
   exact⟨u,us,rfl,Z0b hF ho hn hμ hb hm h1,Z01 hF ho hn hμ hb hm h2⟩
end
theorem Q2p.mono {F F':Nat→Prop} {w w':World} (hF:∀ b,F b→F' b) (hw:∀ b,F b→w'.heap[b]?=w.heap[b]?) {t:Ty} {xs:List t.den} {a:Option (Nat×Nat)} {cap:Nat}
    (ho:∀ b,b∈Vp a cap→w'.heap[b]?=w.heap[b]?) (h:Q2p F w t xs a cap):Q2p F' w' t xs a cap:=by
 obtain⟨h1,h2,h3⟩:=h
 refine⟨h1,h2,fun b o ha hc=>?_⟩
 subst ha
 obtain⟨us,E,fz,g1,g2,g3,g4,g5⟩:=h3 b o rfl hc
 refine⟨us,E,fz,by rw[ho b (by simp[Vp,hc])];exact g1,g2,g3,fun i x hx=>?_,g5⟩
 obtain⟨vs,e1,e2,e3⟩:=g4 i x hx
 exact⟨vs,e1.mono hF hw,e2,e3⟩
theorem U2l.mono {F F':Nat→Prop} {w w':World} (hF:∀ b,F b→F' b) (hw:∀ b,F b→w'.heap[b]?=w.heap[b]?) {ki:IntKind} {t:Ty} {e:Int×List t.den} {ck:List Nat} {v:Value}
    (ho:∀ b,b∈ck→w'.heap[b]?=w.heap[b]?) (h:U2l F w ki t e ck v):U2l F' w' ki t e ck v:=by
 obtain⟨bb,a,cap,E,fz,A,rfl,h1,h2,h3,rfl,h5,h6⟩:=h
 exact⟨bb,a,cap,E,fz,A,rfl,by rw[ho bb (by simp)];exact h1,h2,h3,rfl,h5,h6.mono hF hw fun b hb=>ho b (by simp[hb])⟩
theorem Uz.mono {F F':Nat→Prop} {w w':World} (hF:∀ b,F b→F' b) (hw:∀ b,F b→w'.heap[b]?=w.heap[b]?) {kt:Ty} {x:kt.den} {v:Value} (h:Uz F w kt x v):Uz F' w' kt x v:=by
 obtain⟨us,h1,h2⟩:=h
 exact⟨us,h1,h2.mono hF hw⟩
theorem X2n {kt:Ty} (f:AV→AV) (foc:Option (kt.den×AV)) (x:kt.den):V0x (focR f foc) x=V0x foc x:=by cases foc<;>rfl
theorem U3u {κ:Type} (foc:Option (κ×AV)):focR (fun v=>v) foc=foc:=by cases foc<;>rfl
theorem MapbAt.turn {μ μ':Nat→Pl} {F F':Nat→Prop} {w w':World} {f:AV→AV} (hF:∀ b,F b→F' b) (hw:∀ b,F b→w'.heap[b]?=w.heap[b]?)
    {kt:Ty} {ki:IntKind} {t:Ty} {es:List (kt.den×(Int×List t.den))} {foc:Option (kt.den×AV)} {b:Nat} {cks:List (List Nat)} {ms:List MapEntry} {clock:Nat}
    (ho:∀ x,(Pl.mapb b cks).own x→w'.heap[x]?=w.heap[x]?) (hv:∀ q,foc=some q→∀ v,VRel μ F w q.2 v→VRel μ' F' w' (f q.2) v)
    (h:MapbAt μ F w kt ki t es foc b cks ms clock):MapbAt μ' F' w' kt ki t es (focR f foc) b cks ms clock:=by
 refine⟨by rw[ho b (.inl rfl)];exact h.at_,h.lm,h.lc,fun n e ck m he hck hm=>?_,h.keys,h.apart,h.off,fun q hq=>?_⟩
 ·obtain⟨h1,h2,h3⟩:=h.en n e ck m he hck hm
  refine⟨h1.mono hF hw,fun hf=>(h2 (by rw[←X2n f];exact hf)).mono hF hw fun x hx=>ho x (.inr ⟨ck,List.mem_of_getElem? hck,hx⟩),fun hf=>?_⟩
  obtain⟨h4,h5⟩:=h3 (by rw[←X2n f];exact hf)
  refine⟨h4,fun q hq=>?_⟩
  cases foc with
  | none=>cases hq
  | some q'=>cases hq;exact hv q' rfl _ (h5 q' rfl)
 ·cases foc with
  | none=>cases hq
  | some q'=>cases hq;exact h.fv q' rfl
theorem MapbAt.out {μ:Nat→Pl} {F:Nat→Prop} {w:World} {kt:Ty} {ki:IntKind} {t:Ty} {es:List (kt.den×(Int×List t.den))} {q:kt.den×AV} {b:Nat} {cks:List (List Nat)} {ms:List MapEntry} {clock:Nat}
    (h:MapbAt μ F w kt ki t es (some q) b cks ms clock):∃ (n:Nat) (e:kt.den×(Int×List t.den)) (m:MapEntry),es[n]?=some e∧keqD kt q.1 e.1=true∧ms[n]?=some m∧cks[n]?=some []∧VRel μ F w q.2 m.val:=by
 obtain⟨n,e,he,hk⟩:=h.fv q rfl
 have hn:n < es.length:=(List.getElem?_eq_some_iff.1 he).1
 have hm:ms[n]?=some (ms[n]'(by rw[h.lm];exact hn)):=List.getElem?_eq_getElem _
 have hc:cks[n]?=some (cks[n]'(by rw[h.lc];exact hn)):=List.getElem?_eq_getElem _
 obtain⟨h1,h2,h3⟩:=h.en n e _ _ he hc hm
 obtain⟨h4,h5⟩:=h3 hk
 exact⟨n,e,_,he,hk,hm,by rw[hc,h4],h5 q rfl⟩
theorem Z8 {μ μ':Nat→Pl} {F F':Nat→Prop} {w w':World} (hF:∀ b,F b→F' b) (hw:∀ b,F b→w'.heap[b]?=w.heap[b]?) {o:LObj} {p:Pl}
    (ho:∀ b,p.own b→w'.heap[b]?=w.heap[b]?) (hr:∀ k∈o.refs,μ' k=μ k) (h:ORel μ F w o p):ORel μ' F' w' o p:=by
 cases o with
 | boxT g cs=>
   cases p<;>simp only[ORel] at h ⊢
   obtain⟨us,E,fz,h1,h2,h3,h4,h5⟩:=h
   exact⟨us,E,fz,by rw[ho _ rfl];exact h1,h2,Ua hF hw (by simpa only[LObj.refs] using hr) h3,h4,h5⟩
 | row t xs=>
   cases p<;>simp only[ORel] at h ⊢
   obtain⟨h1,h2,h3,h4,h5⟩:=h
   refine⟨h1,h2,h3,h4,fun b o ha hc=>?_⟩
   subst ha
   obtain⟨us,E,fz,g1,g2,g3,g4,g5⟩:=h5 b o rfl hc
   refine⟨us,E,fz,by rw[ho b (by simp[Pl.own,hc])];exact g1,g2,g3,fun i x hx=>?_,g5⟩
   obtain⟨vs,e1,e2,e3⟩:=g4 i x hx
   exact⟨vs,e1.mono hF hw,e2,e3⟩
 | mpo kt vt es=>
   cases p<;>simp only[ORel] at h ⊢
   obtain⟨ms,cl,h1,h2⟩:=h
   exact⟨ms,cl,by rw[ho _ rfl];exact h1,h2.mono hF hw⟩
 | mpb kt ki t es foc=>
   cases p<;>simp only[ORel] at h ⊢
   obtain⟨ms,cl,h⟩:=h
   have:=h.turn (f:=fun v=>v) hF hw (fun x hx=>ho x hx) fun q hq v hv=>Uk hF hw (fun k hk=>hr k (by rw[hq];exact hk)) hv
   rw[U3u] at this
   exact⟨ms,cl,this⟩
 | gone=>cases p<;>simp only[ORel] at h ⊢
theorem V0q {μ μ':Nat→Pl} {F F':Nat→Prop} {w w':World} {ks:List Nat} (hF:∀ b,F b→F' b) (hw:∀ b,F b→w'.heap[b]?=w.heap[b]?)
    (hμ:∀ k,ks.contains k=false→(μ k).isRow→μ' k=μ k) (hb:∀ k b,μ k=.box b→μ' k=.box b) (hm:∀ k b,(μ k).mapAt b→(μ' k).mapAt b) {o:LObj} {p:Pl}
    (ho:∀ b,p.own b→w'.heap[b]?=w.heap[b]?) (h:ORel μ F w o p):ORel μ' F' w' (o.kill ks) p:=by
 cases o with
 | boxT g cs=>
   cases p<;>simp only[ORel,LObj.kill] at h ⊢
   obtain⟨us,E,fz,h1,h2,h3,h4,h5⟩:=h
   exact⟨us,E,fz,by rw[ho _ rfl];exact h1,h2,Zv hF hw hμ hb hm h3,h4,h5⟩
 | row t xs=>exact Z8 hF hw ho (by simp[LObj.refs,LObj.kill,LObj.frz,LObj.ren]) h
 | mpo kt vt es=>exact Z8 hF hw ho (by simp[LObj.refs,LObj.kill,LObj.frz,LObj.ren]) h
 | mpb kt ki t es foc=>
   cases p<;>simp only[ORel,LObj.kill] at h ⊢
   obtain⟨ms,cl,h⟩:=h
   exact⟨ms,cl,h.turn hF hw (fun x hx=>ho x hx) fun q hq v hv=>U02 hF hw hμ hb hm hv⟩
 | gone=>exact Z8 hF hw ho (by simp[LObj.refs,LObj.kill,LObj.frz,LObj.ren]) h
theorem Z3j {μ μ':Nat→Pl} {F F':Nat→Prop} {w:World} {hp:Nat→LObj} {ks:List Nat} (hF:∀ b,F b→F' b)
    (ho:∀ k,ks.contains k=true→ORel μ F w (hp k) (μ k)) (hn:∀ k b,ks.contains k=true→(μ k).own b→F' b)
    (hμ:∀ k,ks.contains k=false→μ' k=μ k) (hb:∀ k b,μ k=.box b→μ' k=.box b) (hm:∀ k b,(μ k).mapAt b→(μ' k).mapAt b) {o:LObj} {p:Pl}
    (h:ORel μ F w o p):ORel μ' F' w (o.frz hp ks) p:=by
 cases o with
 | boxT g cs=>
   cases p<;>simp only[ORel,LObj.frz] at h ⊢
   obtain⟨us,E,fz,h1,h2,h3,h4,h5⟩:=h
   exact⟨us,E,fz,h1,h2,Z01 hF ho hn hμ hb hm h3,h4,h5⟩
 | mpb kt ki t es foc=>
   cases p<;>simp only[ORel,LObj.frz] at h ⊢
   obtain⟨ms,cl,h⟩:=h
   exact⟨ms,cl,h.turn hF (fun _ _=>rfl) (fun _ _=>rfl) fun q hq v hv=>Z0b hF ho hn hμ hb hm hv⟩
 | row t xs=>exact Z8 hF (fun _ _=>rfl) (fun _ _=>rfl) (by simp[LObj.refs,LObj.kill,LObj.frz,LObj.ren]) h
 | mpo kt vt es=>exact Z8 hF (fun _ _=>rfl) (fun _ _=>rfl) (by simp[LObj.refs,LObj.kill,LObj.frz,LObj.ren]) h
 | gone=>exact Z8 hF (fun _ _=>rfl) (fun _ _=>rfl) (by simp[LObj.refs,LObj.kill,LObj.frz,LObj.ren]) h
theorem Z0q {μ μ':Nat→Pl} {F:Nat→Prop} {w:World} {f:Nat→Option Nat} (hf:∀ k i,f k=some i→μ' i=μ k) {o:LObj} {p:Pl}
    (h:ORel μ F w o p):ORel μ' F w (o.ren f) p:=by
 cases o with
 | boxT g cs=>
   cases p<;>simp only[ORel,LObj.ren] at h ⊢
   obtain⟨us,E,fz,h1,h2,h3,h4,h5⟩:=h
   exact⟨us,E,fz,h1,h2,Uj hf h3,h4,h5⟩
 | mpb kt ki t es foc=>
   cases p<;>simp only[ORel,LObj.ren] at h ⊢
   obtain⟨ms,cl,h⟩:=h
   exact⟨ms,cl,h.turn (fun _ h=>h) (fun _ _=>rfl) (fun _ _=>rfl) fun q hq v hv=>Q09 hf hv⟩
 | row t xs=>exact Z8 (fun _ h=>h) (fun _ _=>rfl) (fun _ _=>rfl) (by simp[LObj.refs,LObj.kill,LObj.frz,LObj.ren]) h
 | mpo kt vt es=>exact Z8 (fun _ h=>h) (fun _ _=>rfl) (fun _ _=>rfl) (by simp[LObj.refs,LObj.kill,LObj.frz,LObj.ren]) h
 | gone=>exact Z8 (fun _ h=>h) (fun _ _=>rfl) (fun _ _=>rfl) (by simp[LObj.refs,LObj.kill,LObj.frz,LObj.ren]) h
mutual
theorem Je {μ:Nat→Pl} {F:Nat→Prop} {w:World}:∀ {x:AV} {v:Value},VRel μ F w x v→∀ k∈x.refs,μ k≠.none
 | .agg cs,_,h=>by simp only[VRel] at h;obtain⟨us,_,h1,_⟩:=h;simpa only[AV.refs] using J6 h1
 | .tup cs,_,h=>by simp only[VRel] at h;obtain⟨us,_,h1⟩:=h;simpa only[AV.refs] using J6 h1
 | .ptr k off,_,h=>by simp only[VRel] at h;obtain⟨b,h1,_⟩:=h;simp[AV.refs,h1]
 | .rptr k t i off,_,h=>by simp only[VRel] at h;obtain⟨b,o,l,c,h1,_⟩:=h;simp[AV.refs,h1]
 | .rowA k,_,h=>by simp only[VRel] at h;obtain⟨a,l,c,s,A,h1,_⟩:=h;simp[AV.refs,h1]
 | .rowS k off n c,_,h=>by simp only[VRel] at h;obtain⟨a,l,c,s,A,cap',h1,_⟩:=h;simp[AV.refs,h1]
 | .mp k,_,h=>by simp only[VRel] at h;obtain⟨b,h1,_⟩:=h;simp[AV.refs,Pl.mapAt_ne h1]
 | .psl k n'',_,h=>by simp only[VRel] at h;obtain⟨b,h1,_⟩:=h;simp[AV.refs,h1]
 | .fn f cs,_,h=>by simp only[VRel] at h;obtain⟨us,_,h1⟩:=h;simpa only[AV.refs] using J6 h1
 | .int _ _,_,_=>by simp[AV.refs]
 | .bool _,_,_=>by simp[AV.refs]
 | .str _,_,_=>by simp[AV.refs]
 | .list _ _,_,_=>by simp[AV.refs]
 | .np,_,_=>by simp[AV.refs]
 | .nm,_,_=>by simp[AV.refs]
 | .nf,_,_=>by simp[AV.refs]
 | .ns,_,_=>by simp[AV.refs]
 | .lptr _ _ _ _,_,_=>by simp[AV.refs]
 | .undef,_,_=>by simp[AV.refs]
 | .dead,_,_=>by simp[AV.refs]
theorem J6 {μ:Nat→Pl} {F:Nat→Prop} {w:World}:∀ {cs:List AV} {us:List Value},U0 μ F w cs us→∀ k∈AV.refsL cs,μ k≠.none
 | [],_,_=>by simp[AV.refsL]
 | c::cs,_,h=>by
   simp only[U0] at h
   obtain⟨u,us,_,h1,h2⟩:=h
   intro k hk
   simp only[AV.refsL,List.mem_append] at hk
   rcases hk with hk | hk
   ·exact Je h1 k hk
   ·exact J6 h2 k hk
end
theorem Va {μ:Nat→Pl} {F:Nat→Prop} {w:World} {o:LObj} {p:Pl} (h:ORel μ F w o p):∀ k∈o.refs,μ k≠.none:=by
 cases o with
 | boxT g cs=>
   cases p<;>simp only[ORel] at h
   obtain⟨us,E,fz,_,_,h3,_,_⟩:=h
   simpa only[LObj.refs] using J6 h3
 | row t xs=>simp[LObj.refs]
 | mpo kt vt es=>simp[LObj.refs]
 | mpb kt ki t es foc=>
   cases p<;>simp only[ORel] at h
   obtain⟨ms,cl,h⟩:=h
   cases foc with
   | none=>simp[LObj.refs]
   | some q=>
     obtain⟨n,e,m,_,_,_,_,hv⟩:=h.out
     exact Je hv
 | gone=>simp[LObj.refs]
structure Cx where
 w0:World
 fp:Nat→Prop
 F0:Nat→Prop
 μ0:Nat→Pl
 n0:Nat
 nt:Nat
structure Inv (c:Cx) (st:St) (a:Act) (w:World) (μ:Nat→Pl) (F:Nat→Prop):Prop where
 h:HInv w st.hp st.nx μ F
 fr:Fr c.w0 c.fp c.F0 w F μ
 idb:∀ k b,k < c.n0→c.μ0 k=.box b→μ k=.box b
 idm:∀ k b,k < c.n0→(c.μ0 k).mapAt b→(μ k).mapAt b
 n0:c.n0≤st.nx
 tm:∀ t,VRel μ F w (st.tm t) (a.tmps.getD t undef)
 sz:a.tmps.size=c.nt
 df:a.defers=[]
theorem Xx:∀ (os:List LObj) (st:St),(st.news os).tm=st.tm
 | [],_=>rfl
 | o::os,st=>by simp only[St.news];rw[Xx os];rfl
theorem U7:∀ (os:List LObj) (st:St),(st.news os).nx=st.nx+os.length
 | [],_=>rfl
 | o::os,st=>by simp only[St.news];rw[U7 os];simp[St.new];omega
theorem Ve:∀ (os:List LObj) (st:St) (k:Nat),k < st.nx→(st.news os).hp k=st.hp k
 | [],_,_,_=>rfl
 | o::os,st,k,h=>by
   simp only[St.news]
   rw[Ve os _ k (by simp[St.new];omega)]
   have:(k==st.nx)=false:=by simp;omega
   simp[St.new,this]
theorem Z0d:∀ (os:List LObj) (st:St) (i:Nat) (o:LObj),os[i]?=some o→(st.news os).hp (st.nx+i)=o
 | [],_,_,_,h=>by simp at h
 | o::os,st,0,o',h=>by
   simp at h;subst h
   simp only[St.news,Nat.add_zero]
   rw[Ve os _ _ (by simp[St.new])]
   simp[St.new]
 | o::os,st,i+1,o',h=>by
   simp only[St.news]
   have:=Z0d os (st.new o) i o' (by simpa using h)
   rw[←this]
   congr 1
   simp[St.new];omega
def Zb (μ:Nat→Pl) (nx:Nat) (ps:List Pl):Nat→Pl:=fun k=>if k < nx then μ k else (ps[k - nx]?).getD .none
theorem Vq {μ:Nat→Pl} {nx:Nat} {ps:List Pl} {k:Nat} (h:k < nx):Zb μ nx ps k=μ k:=by simp[Zb,h]
theorem Z9 {μ:Nat→Pl} {nx:Nat} {ps:List Pl} (i:Nat):Zb μ nx ps (nx+i)=(ps[i]?).getD .none:=by
 have h:¬ (nx+i < nx):=by omega
 simp only[Zb,h,if_false]
 rw[Nat.add_sub_cancel_left]
theorem Vk {μ:Nat→Pl} {nx:Nat} {ps:List Pl} (ht:∀ k,nx≤k→μ k=.none) {k:Nat} (h:μ k≠.none):Zb μ nx ps k=μ k:=by
 by_cases hk:k < nx
 ·exact Vq hk
 ·exact absurd (ht k (by omega)) h
structure Grew (w w':World):Prop where
 os:w'.os=w.os
 tape:w'.tape=w.tape
 output:w'.output=w.output
 size:w.heap.size≤w'.heap.size
 block:∀ b,b < w.heap.size→w'.heap[b]?=w.heap[b]?
theorem Grew.refl (w:World):Grew w w:=⟨rfl,rfl,rfl,Nat.le_refl _,fun _ _=>rfl⟩
theorem Grew.trans {w w1 w2:World} (h:Grew w w1) (h':Grew w1 w2):Grew w w2:=
 ⟨h'.os.trans h.os,h'.tape.trans h.tape,h'.output.trans h.output,Nat.le_trans h.size h'.size,fun b hb=>(h'.block b (Nat.lt_of_lt_of_le hb h.size)).trans (h.block b hb)⟩
theorem Grew.drew (w:World):Grew w { w with drawn:=w.drawn+1 }:=⟨rfl,rfl,rfl,Nat.le_refl _,fun _ _=>rfl⟩
theorem Grew.push (w:World) (o:Obj):Grew w { w with heap:=w.heap.push o }:=
 ⟨rfl,rfl,rfl,by simp,fun b hb=>by simp[Array.getElem?_push];intro h;omega⟩
theorem HInv.lt {w:World} {hp:Nat→LObj} {nx:Nat} {μ:Nat→Pl} {F:Nat→Prop} (h:HInv w hp nx μ F) {k b:Nat} (hk:(μ k).own b):k < nx:=by
 by_cases hlt:k < nx
 ·exact hlt
 ·rw[h.top k (by omega)] at hk;simp[Pl.own] at hk
theorem Vi {c:Cx} {st:St} {a:Act} {w w':World} {μ:Nat→Pl} {F:Nat→Prop} (hi:Inv c st a w μ F) (hg:Grew w w')
    (os:List LObj) (ps:List Pl) (hl:ps.length=os.length)
    (ho:∀ (i:Nat) (o:LObj) (p:Pl),os[i]?=some o→ps[i]?=some p→ORel (Zb μ st.nx ps) F w' o p)
    (hown:∀ (i:Nat) (p:Pl) (b:Nat),ps[i]?=some p→p.own b→w.heap.size≤b∧b < w'.heap.size)
    (hone:∀ (i j:Nat) (p q:Pl) (b:Nat),ps[i]?=some p→ps[j]?=some q→p.own b→q.own b→i=j) :
    Inv c (st.news os) a w' (Zb μ st.nx ps) F:=by
 have hFw:∀ b,F b→w'.heap[b]?=w.heap[b]?:=fun b hb=>hg.block b (hi.h.inn b hb)
 have hnew:∀ k b,(Zb μ st.nx ps k).own b→(k < st.nx∧(μ k).own b)∨(∃ i p,k=st.nx+i∧ps[i]?=some p∧p.own b):=by
  intro k b hk
  by_cases h:k < st.nx
  ·rw[Vq h] at hk;exact .inl ⟨h,hk⟩
  ·obtain⟨i,rfl⟩:∃ i,k=st.nx+i:=⟨k - st.nx,by omega⟩
   rw[Z9] at hk
   cases hp:ps[i]? with
   | none=>rw[hp] at hk;simp[Pl.own] at hk
   | some p=>rw[hp] at hk;exact .inr ⟨i,p,rfl,hp,hk⟩
 refine⟨⟨fun k hk=>?_,fun k hk=>?_,fun k k' b h1 h2=>?_,fun k b hk=>?_,fun b hb=>Nat.lt_of_lt_of_le (hi.h.inn b hb) hg.size⟩,?_,fun k b hk h0=>?_,fun k b hk h0=>?_,?_,fun t=>?_,hi.sz,hi.df⟩
 ·rw[U7] at hk
  by_cases h:k < st.nx
  ·rw[Ve os st k h,Vq h]
   have h1:=hi.h.obj k h
   exact Z8 (fun _ h=>h) hFw (fun b hb=>hg.block b (hi.h.out k b hb).2) (fun j hj=>Vk hi.h.top (Va h1 j hj)) h1
  ·obtain⟨i,rfl⟩:∃ i,k=st.nx+i:=⟨k - st.nx,by omega⟩
   have hio:i < os.length:=by omega
   have hip:i < ps.length:=by omega
   rw[Z0d os st i os[i] (List.getElem?_eq_getElem hio),Z9,List.getElem?_eq_getElem hip]
   exact ho i os[i] ps[i] (List.getElem?_eq_getElem hio) (List.getElem?_eq_getElem hip)
 ·rw[U7] at hk
  obtain⟨i,rfl⟩:∃ i,k=st.nx+i:=⟨k - st.nx,by omega⟩
  rw[Z9,List.getElem?_eq_none (by omega)];rfl
 ·rcases hnew k b h1 with ⟨hk,h3⟩ | ⟨i,p,rfl,hp,h3⟩<;>rcases hnew k' b h2 with ⟨hk',h4⟩ | ⟨j,q,rfl,hq,h4⟩
  ·exact hi.h.one k k' b h3 h4
  ·have:=(hi.h.out k b h3).2;have:=(hown j q b hq h4).1;omega
  ·have:=(hi.h.out k' b h4).2;have:=(hown i p b hp h3).1;omega
  ·rw[hone i j p q b hp hq h3 h4]
 ·rcases hnew k b hk with ⟨h,h3⟩ | ⟨i,p,rfl,hp,h3⟩
  ·exact⟨(hi.h.out k b h3).1,Nat.lt_of_lt_of_le (hi.h.out k b h3).2 hg.size⟩
  ·have:=hown i p b hp h3
   exact⟨fun hF=>by have:=hi.h.inn b hF;omega,this.2⟩
 ·refine⟨hg.os.trans hi.fr.os,hg.tape.trans hi.fr.tape,hg.output.trans hi.fr.output,Nat.le_trans hi.fr.size hg.size,fun b hb hnb=>?_,hi.fr.old,hi.fr.newF,fun k b hk=>?_⟩
  ·rw[hg.block b (Nat.lt_of_lt_of_le hb hi.fr.size)];exact hi.fr.keep b hb hnb
  ·rcases hnew k b hk with ⟨h,h3⟩ | ⟨i,p,rfl,hp,h3⟩
   ·exact hi.fr.newO k b h3
   ·exact .inr (Nat.le_trans hi.fr.size (hown i p b hp h3).1)
 ·rw[Vq (Nat.lt_of_lt_of_le hk hi.n0)];exact hi.idb k b hk h0
 ·rw[Vq (Nat.lt_of_lt_of_le hk hi.n0)];exact hi.idm k b hk h0
 ·rw[U7];exact Nat.le_trans hi.n0 (Nat.le_add_right _ _)
 ·rw[Xx]
  exact Uk (fun _ h=>h) hFw (fun k hk=>Vk hi.h.top (Je (hi.tm t) k hk)) (hi.tm t)
structure Changed (w w':World) (own:Nat→Prop):Prop where
 os:w'.os=w.os
 tape:w'.tape=w.tape
 output:w'.output=w.output
 size:w.heap.size≤w'.heap.size
 block:∀ b,b < w.heap.size→¬ own b→w'.heap[b]?=w.heap[b]?
theorem Grew.changed {w w':World} (h:Grew w w') (own:Nat→Prop):Changed w w' own:=⟨h.os,h.tape,h.output,h.size,fun b hb _=>h.block b hb⟩
theorem Um {c:Cx} {st:St} {a:Act} {w w':World} {μ:Nat→Pl} {F:Nat→Prop} (hi:Inv c st a w μ F) {k:Nat} {o:LObj} (hk:k < st.nx)
    (hg:Changed w w' (fun b=>(μ k).own b)) (ho:ORel μ F w' o (μ k)):Inv c (st.upd k o) a w' μ F:=by
 have hFw:∀ b,F b→w'.heap[b]?=w.heap[b]?:=fun b hb=>hg.block b (hi.h.inn b hb) (fun h=>(hi.h.out k b h).1 hb)
 refine⟨⟨fun j hj=>?_,hi.h.top,hi.h.one,fun j b hj=>⟨(hi.h.out j b hj).1,Nat.lt_of_lt_of_le (hi.h.out j b hj).2 hg.size⟩,fun b hb=>Nat.lt_of_lt_of_le (hi.h.inn b hb) hg.size⟩,?_,hi.idb,hi.idm,hi.n0,fun t=>?_,hi.sz,hi.df⟩
 ·show ORel μ F w' ((st.upd k o).hp j) (μ j)
  by_cases h:j=k
  ·subst h;simpa[St.upd] using ho
  ·have hjk:(j==k)=false:=by simpa using h
   simp only[St.upd,hjk,cond_false]
   exact Z8 (fun _ h=>h) hFw (fun b hb=>hg.block b (hi.h.out j b hb).2 (fun h2=>h (hi.h.one j k b hb h2))) (fun _ _=>rfl) (hi.h.obj j hj)
 ·refine⟨hg.os.trans hi.fr.os,hg.tape.trans hi.fr.tape,hg.output.trans hi.fr.output,Nat.le_trans hi.fr.size hg.size,fun b hb hnb=>?_,hi.fr.old,hi.fr.newF,hi.fr.newO⟩
  rw[hg.block b (Nat.lt_of_lt_of_le hb hi.fr.size) (fun h=>by rcases hi.fr.newO k b h with h1 | h1;exact hnb h1;omega)]
  exact hi.fr.keep b hb hnb
 ·exact Uk (fun _ h=>h) hFw (fun _ _=>rfl) (hi.tm t)
def Vc (μ:Nat→Pl) (k:Nat) (p:Pl):Nat→Pl:=fun j=>if j=k then p else μ j
theorem U9 (μ:Nat→Pl) (k:Nat) (p:Pl):Vc μ k p k=p:=by simp[Vc]
theorem J7 {μ:Nat→Pl} {k j:Nat} {p:Pl} (h:j≠k):Vc μ k p j=μ j:=by simp[Vc,h]
theorem X0p {c:Cx} {st:St} {a:Act} {w w':World} {μ:Nat→Pl} {F:Nat→Prop} (hi:Inv c st a w μ F) {k:Nat} {o:LObj} {p:Pl} (hk:k < st.nx)
    {al:Option (Nat×Nat)} {l cp sz:Nat} (hrow:μ k=.row al l cp sz)
    (hg:Changed w w' (fun b=>(μ k).own b)) (ho:ORel (Vc μ k p) F w' o p)
    (hp:∀ b,p.own b→(μ k).own b∨(w.heap.size≤b∧b < w'.heap.size)):Inv c ((st.kill [k]).upd k o) a w' (Vc μ k p) F:=by
 have hFw:∀ b,F b→w'.heap[b]?=w.heap[b]?:=fun b hb=>hg.block b (hi.h.inn b hb) (fun h=>(hi.h.out k b h).1 hb)
 have hμ:∀ j,[k].contains j=false→(μ j).isRow→Vc μ k p j=μ j:=fun j hj _=>J7 (by simpa using hj)
 have hb:∀ j b,μ j=.box b→Vc μ k p j=.box b:=fun j b hj=>by
  rw[J7 (by rintro rfl;rw[hrow] at hj;cases hj)];exact hj
 have hm:∀ j b,(μ j).mapAt b→(Vc μ k p j).mapAt b:=fun j b hj=>by
  rw[J7 (by rintro rfl;rw[hrow] at hj;exact hj)];exact hj
 have hown:∀ j b,(Vc μ k p j).own b→(j≠k∧(μ j).own b)∨(j=k∧p.own b):=fun j b hj=>by
  by_cases h:j=k
  ·subst h;rw[U9] at hj;exact .inr ⟨rfl,hj⟩
  ·rw[J7 h] at hj;exact .inl ⟨h,hj⟩
 refine⟨⟨fun j hj=>?_,fun j hj=>?_,fun j j' b h1 h2=>?_,fun j b hj=>?_,fun b hb=>Nat.lt_of_lt_of_le (hi.h.inn b hb) hg.size⟩,?_,fun j b hj h0=>hb j b (hi.idb j b hj h0),fun j b hj h0=>hm j b (hi.idm j b hj h0),hi.n0,fun t=>?_,hi.sz,hi.df⟩
 ·by_cases h:j=k
  ·subst h;rw[U9];simpa[St.upd] using ho
  ·rw[J7 h]
   have hjk:(j==k)=false:=by simpa using h
   simp only[St.upd,hjk,cond_false,St.kill]
   exact V0q (fun _ h=>h) hFw hμ hb hm (fun b hb=>hg.block b (hi.h.out j b hb).2 (fun h2=>h (hi.h.one j k b hb h2))) (hi.h.obj j hj)
 ·have hj':st.nx≤j:=hj
  rw[J7 (by omega)];exact hi.h.top j hj'
 ·rcases hown j b h1 with ⟨e1,h3⟩ | ⟨rfl,h3⟩<;>rcases hown j' b h2 with ⟨e2,h4⟩ | ⟨rfl,h4⟩
  ·exact hi.h.one j j' b h3 h4
  ·rcases hp b h4 with h5 | h5
   ·exact absurd (hi.h.one j _ b h3 h5) e1
   ·have:=(hi.h.out j b h3).2;omega
  ·rcases hp b h3 with h5 | h5
   ·exact absurd (hi.h.one j' _ b h4 h5) e2
   ·have:=(hi.h.out j' b h4).2;omega
  ·rfl
 ·rcases hown j b hj with ⟨e1,h3⟩ | ⟨rfl,h3⟩
  ·exact⟨(hi.h.out j b h3).1,Nat.lt_of_lt_of_le (hi.h.out j b h3).2 hg.size⟩
  ·rcases hp b h3 with h5 | h5
   ·exact⟨(hi.h.out _ b h5).1,Nat.lt_of_lt_of_le (hi.h.out _ b h5).2 hg.size⟩
   ·exact⟨fun hF=>by have:=hi.h.inn b hF;omega,h5.2⟩
 ·refine⟨hg.os.trans hi.fr.os,hg.tape.trans hi.fr.tape,hg.output.trans hi.fr.output,Nat.le_trans hi.fr.size hg.size,fun b hb hnb=>?_,hi.fr.old,hi.fr.newF,fun j b hj=>?_⟩
  ·rw[hg.block b (Nat.lt_of_lt_of_le hb hi.fr.size) (fun h=>by rcases hi.fr.newO k b h with h1 | h1;exact hnb h1;omega)]
   exact hi.fr.keep b hb hnb
  ·rcases hown j b hj with ⟨e1,h3⟩ | ⟨rfl,h3⟩
   ·exact hi.fr.newO j b h3
   ·rcases hp b h3 with h5 | h5
    ·exact hi.fr.newO _ b h5
    ·exact .inr (Nat.le_trans hi.fr.size h5.1)
 ·exact U02 (fun _ h=>h) hFw hμ hb hm (hi.tm t)
theorem Q39 {c:Cx} {st:St} {a:Act} {w w':World} {μ:Nat→Pl} {F:Nat→Prop} (hi:Inv c st a w μ F) {k:Nat} {o:LObj} {b:Nat} (hk:k < st.nx) (hgone:st.hp k=.gone)
    (hg:Grew w w') (hb0:w.heap.size≤b) (hb1:b < w'.heap.size) (ho:ORel (Vc μ k (.box b)) F w' o (.box b)):Inv c (st.upd k o) a w' (Vc μ k (.box b)) F:=by
 have hnone:μ k=.none:=by
  have:=hi.h.obj k hk
  rw[hgone] at this
  cases hp:μ k<;>rw[hp] at this<;>first | rfl | (simp[ORel] at this)
 have hFw:∀ b,F b→w'.heap[b]?=w.heap[b]?:=fun b hb=>hg.block b (hi.h.inn b hb)
 have hμ:∀ j,μ j≠.none→Vc μ k (.box b) j=μ j:=fun j hj=>J7 (by rintro rfl;exact hj hnone)
 have hown:∀ j b',(Vc μ k (.box b) j).own b'→(j≠k∧(μ j).own b')∨(j=k∧b'=b):=fun j b' hj=>by
  by_cases h:j=k
  ·subst h;rw[U9] at hj;simp[Pl.own] at hj;exact .inr ⟨rfl,hj.symm⟩
  ·rw[J7 h] at hj;exact .inl ⟨h,hj⟩
 refine⟨⟨fun j hj=>?_,fun j hj=>?_,fun j j' b' h1 h2=>?_,fun j b' hj=>?_,fun b hb=>Nat.lt_of_lt_of_le (hi.h.inn b hb) hg.size⟩,?_,fun j b' hj h0=>?_,fun j b' hj h0=>?_,hi.n0,fun t=>?_,hi.sz,hi.df⟩
 ·by_cases h:j=k
  ·subst h;rw[U9];simpa[St.upd] using ho
  ·rw[J7 h]
   have hjk:(j==k)=false:=by simpa using h
   simp only[St.upd,hjk,cond_false]
   exact Z8 (fun _ h=>h) hFw (fun b hb=>hg.block b (hi.h.out j b hb).2) (fun i hi'=>hμ i (Va (hi.h.obj j hj) i hi')) (hi.h.obj j hj)
 ·have hj':st.nx≤j:=hj
  rw[J7 (by omega)];exact hi.h.top j hj'
 ·rcases hown j b' h1 with ⟨e1,h3⟩ | ⟨rfl,rfl⟩<;>rcases hown j' b' h2 with ⟨e2,h4⟩ | ⟨rfl,h4⟩
  ·exact hi.h.one j j' b' h3 h4
  ·have:=(hi.h.out j b' h3).2;omega
  ·have:=(hi.h.out j' b' h4).2;omega
  ·rfl
 ·rcases hown j b' hj with ⟨e1,h3⟩ | ⟨rfl,rfl⟩
  ·exact⟨(hi.h.out j b' h3).1,Nat.lt_of_lt_of_le (hi.h.out j b' h3).2 hg.size⟩
  ·exact⟨fun hF=>by have:=hi.h.inn b' hF;omega,hb1⟩
 ·refine⟨hg.os.trans hi.fr.os,hg.tape.trans hi.fr.tape,hg.output.trans hi.fr.output,Nat.le_trans hi.fr.size hg.size,fun b hb hnb=>?_,hi.fr.old,hi.fr.newF,fun j b' hj=>?_⟩
  ·rw[hg.block b (Nat.lt_of_lt_of_le hb hi.fr.size)]
   exact hi.fr.keep b hb hnb
  ·rcases hown j b' hj with ⟨e1,h3⟩ | ⟨rfl,rfl⟩
   ·exact hi.fr.newO j b' h3
   ·exact .inr (Nat.le_trans hi.fr.size hb0)
 ·have:=hi.idb j b' hj h0
  rw[hμ j (by rw[this];simp)]
  exact this
 ·have:=hi.idm j b' hj h0
  rw[hμ j (Pl.mapAt_ne this)]
  exact this
 ·exact Uk (fun _ h=>h) hFw (fun i hi'=>hμ i (Je (hi.tm t) i hi')) (hi.tm t)
theorem X3w {c:Cx} {st:St} {a:Act} {w:World} {μ:Nat→Pl} {F:Nat→Prop} (hi:Inv c st a w μ F) (m:Nat):Inv c (U45 st m) a w μ F:=by
 refine⟨⟨fun j hj=>?_,fun j hj=>hi.h.top j (by have:st.nx+m≤j:=hj;omega),hi.h.one,hi.h.out,hi.h.inn⟩,hi.fr,hi.idb,hi.idm,Nat.le_trans hi.n0 (Nat.le_add_right _ _),hi.tm,hi.sz,hi.df⟩
 show ORel μ F w (bif Nat.ble st.nx j then .gone else st.hp j) (μ j)
 cases hb:Nat.ble st.nx j with
 | true=>
   rw[cond_true,hi.h.top j (Nat.ble_eq▸hb)]
   trivial
 | false=>
   rw[cond_false]
   refine hi.h.obj j ?_
   by_cases h:j < st.nx
   ·exact h
   ·have:Nat.ble st.nx j=true:=Nat.ble_eq_true_of_le (by omega)
    rw[hb] at this;cases this
def Jf (μ:Nat→Pl) (ks:List Nat):Nat→Pl:=fun j=>if ks.contains j=true then .none else μ j
def frzF (μ:Nat→Pl) (F:Nat→Prop) (ks:List Nat):Nat→Prop:=fun b=>F b∨∃ k,ks.contains k=true∧(μ k).own b
theorem U0c {c:Cx} {st:St} {a:Act} {w:World} {μ:Nat→Pl} {F:Nat→Prop} (hi:Inv c st a w μ F) {ks:List Nat}
    (hks:∀ k,ks.contains k=true→k < st.nx∧∃ al l cp sz,μ k=.row al l cp sz) :
    Inv c (st.frz ks) a w (Jf μ ks) (frzF μ F ks):=by
 have hμ:∀ j,ks.contains j=false→Jf μ ks j=μ j:=fun j hj=>by simp only[Jf,hj];rfl
 have hμ1:∀ j,ks.contains j=true→Jf μ ks j=.none:=fun j hj=>by simp only[Jf,hj];rfl
 have hrow:∀ j,ks.contains j=true→∀ b,μ j≠.box b∧¬ (μ j).mapAt b:=fun j hj b=>by
  obtain⟨_,al,l,cp,sz,h⟩:=hks j hj
  rw[h];simp[Pl.mapAt]
 have hb:∀ j b,μ j=.box b→Jf μ ks j=.box b:=fun j b hj=>by
  cases h:ks.contains j with
  | true=>exact absurd hj (hrow j h b).1
  | false=>rw[hμ j h];exact hj
 have hm:∀ j b,(μ j).mapAt b→(Jf μ ks j).mapAt b:=fun j b hj=>by
  cases h:ks.contains j with
  | true=>exact absurd hj (hrow j h b).2
  | false=>rw[hμ j h];exact hj
 have hF:∀ b,F b→frzF μ F ks b:=fun b h=>.inl h
 have ho:∀ k,ks.contains k=true→ORel μ F w (st.hp k) (μ k):=fun k hk=>hi.h.obj k (hks k hk).1
 have hn:∀ k b,ks.contains k=true→(μ k).own b→frzF μ F ks b:=fun k b hk h=>.inr ⟨k,hk,h⟩
 have hown:∀ j b,(Jf μ ks j).own b→ks.contains j=false∧(μ j).own b:=fun j b hj=>by
  cases h:ks.contains j with
  | true=>rw[hμ1 j h] at hj;cases hj
  | false=>rw[hμ j h] at hj;exact⟨rfl,hj⟩
 refine⟨⟨fun j hj=>?_,fun j hj=>?_,fun j j' b h1 h2=>hi.h.one j j' b (hown j b h1).2 (hown j' b h2).2,fun j b hj=>?_,fun b hb=>?_⟩,?_,fun j b hj h0=>hb j b (hi.idb j b hj h0),fun j b hj h0=>hm j b (hi.idm j b hj h0),hi.n0,fun t=>?_,hi.sz,hi.df⟩
 ·have hj':j < st.nx:=hj
  simp only[St.frz]
  cases h:ks.contains j with
  | true=>rw[hμ1 j h];simp only[cond_true,ORel]
  | false=>rw[hμ j h];exact Z3j hF ho hn hμ hb hm (hi.h.obj j hj')
 ·have hj':st.nx≤j:=hj
  cases h:ks.contains j with
  | true=>exact hμ1 j h
  | false=>rw[hμ j h];exact hi.h.top j hj'
 ·obtain⟨h1,h2⟩:=hown j b hj
  refine⟨fun hF=>?_,(hi.h.out j b h2).2⟩
  rcases hF with hF | ⟨k,hk,h3⟩
  ·exact(hi.h.out j b h2).1 hF
  ·have:=hi.h.one j k b h2 h3
   subst this
   rw[hk] at h1;cases h1
 ·rcases hb with hb | ⟨k,_,h3⟩
  ·exact hi.h.inn b hb
  ·exact(hi.h.out k b h3).2
 ·refine⟨hi.fr.os,hi.fr.tape,hi.fr.output,hi.fr.size,hi.fr.keep,fun b h=>.inl (hi.fr.old b h),fun b h=>?_,fun j b hj=>hi.fr.newO j b (hown j b hj).2⟩
  rcases h with h | ⟨k,_,h3⟩
  ·exact hi.fr.newF b h
  ·rcases hi.fr.newO k b h3 with h | h
   ·exact .inr (.inl h)
   ·exact .inr (.inr h)
 ·exact Z0b hF ho hn hμ hb hm (hi.tm t)
theorem Z1b {c:Cx} {st st':St} {a:Act} {w w':World} {μ μ':Nat→Pl} {F:Nat→Prop} {own:Nat→Prop} (hi:Inv c st a w μ F)
    (hg:Changed w w' own) (hown:∀ b,own b→∃ k,(μ k).own b) (obj:∀ k,k < st'.nx→ORel μ' F w' (st'.hp k) (μ' k)) (top:∀ k,st'.nx≤k→μ' k=.none)
    (one:∀ k k' b,(μ' k).own b→(μ' k').own b→k=k') (sub:∀ k b,(μ' k).own b→∃ k',(μ k').own b)
    (idb:∀ k b,k < c.n0→μ k=.box b→μ' k=.box b) (idm:∀ k b,k < c.n0→(μ k).mapAt b→(μ' k).mapAt b) (n0:c.n0≤st'.nx)
    (tm:∀ t v,VRel μ F w (st.tm t) v→VRel μ' F w' (st'.tm t) v):Inv c st' a w' μ' F:=by
 refine⟨⟨obj,top,one,fun k b hk=>?_,fun b hb=>Nat.lt_of_lt_of_le (hi.h.inn b hb) hg.size⟩,?_,fun k b hk h0=>idb k b hk (hi.idb k b hk h0),fun k b hk h0=>idm k b hk (hi.idm k b hk h0),n0,fun t=>tm t _ (hi.tm t),hi.sz,hi.df⟩
 ·obtain⟨k',h⟩:=sub k b hk
  exact⟨(hi.h.out k' b h).1,Nat.lt_of_lt_of_le (hi.h.out k' b h).2 hg.size⟩
 ·refine⟨hg.os.trans hi.fr.os,hg.tape.trans hi.fr.tape,hg.output.trans hi.fr.output,Nat.le_trans hi.fr.size hg.size,fun b hb hnb=>?_,hi.fr.old,hi.fr.newF,fun j b hj=>?_⟩
  ·rw[hg.block b (Nat.lt_of_lt_of_le hb hi.fr.size) (fun h=>by
    obtain⟨k,h⟩:=hown b h
    rcases hi.fr.newO k b h with h1 | h1
    ·exact hnb h1
    ·omega)]
   exact hi.fr.keep b hb hnb
  ·obtain⟨k',h⟩:=sub j b hj
   exact hi.fr.newO k' b h
def Q3 (P:Program) (t:Nat):TD→Prop
 | .bool=>P.underlying t=some .bool
 | .int k=>P.underlying t=some (.int k)
 | .str=>P.underlying t=some .string
 | .ptr e=>P.underlying t=some (.pointer e)
 | .slice e=>P.underlying t=some (.slice e)
 | .array n e=>P.underlying t=some (.array n e)
 | .struct fs => ∃ fields, P.underlying t = some (.struct fields) ∧ fields.toList.map (fun f => (f.offset, f.type)) = fs ∧ (∀ f ∈ fields.toList, f.name ≠ "_") ∧ P.stoodInHeld t = false ∧ P.eqGuardType P.depth t = false
 | .map k e=>P.underlying t=some (.map k e)
 | .func=>∃ a b c,P.underlying t=some (.func a b c)
 | .other=>∃ d,P.underlying t=some d∧(∀ fs,d≠.struct fs)∧(∀ n e,d≠.array n e)
structure RowOk (P:Program) (t:Nat) (r:Row):Prop where
 desc:Q3 P t r.desc
 info:∃ i z,P.info? t=some i∧i.size=r.size∧i.bytes=r.bytes∧i.zero=some z∧z.cells.size=r.size ∧
  (∀ μ F w,U0 μ F w r.zero z.cells.toList)∧(∀ u∈z.cells.toList,u.oneCell'=true)∧(∀ τ,r.ty=some τ→∀ F w,Enc F w τ τ.dflt z.cells.toList)
 byte:r.ty=some (.int .u8)∨r.desc=.int .u8→t=5
 plain:r.desc.agg=false→∀ i z,P.info? t=some i→i.zero=some z→z.cells=#[z]
def U2 (P:Program) (T:Tab):Prop:=∀ t r,T.row t=some r→RowOk P t r
theorem J2o {P:Program} {T:Tab} (hT:U2 P T) {t:Nat} {r:Row} (hr:T.row t=some r) (w:World):(isAgg t).run P w=.ok (T.agg t) w:=by
 have h:=(hT t r hr).desc
 have e:T.agg t=r.desc.agg:=by simp[Tab.agg,Tab.desc,hr]
 rw[e]
 unfold isAgg
 cases hd:r.desc with
 | struct fs=>rw[hd] at h;obtain⟨fields,hu,_⟩:=h;simp[run_underlying hu,TD.agg]
 | other=>
   rw[hd] at h
   obtain⟨d,hu,h1,h2⟩:=h
   cases d<;>first | (exact absurd rfl (h1 _)) | (exact absurd rfl (h2 _ _)) | simp[run_underlying hu,TD.agg]
 | func=>rw[hd] at h;obtain⟨a,b,c,hu⟩:=h;simp[run_underlying hu,TD.agg]
 | _=>rw[hd] at h;simp only[Q3] at h;simp[run_underlying h,TD.agg]
theorem Jb {P:Program} {T:Tab} (hT:U2 P T) {t n:Nat} (h:T.size t=some n) (w:World):(sizeOf t).run P w=.ok n w:=by
 unfold Tab.size at h
 split at h
 ·rename_i r hr
  cases h
  obtain⟨i,z,h1,h2,_⟩:=(hT t r hr).info
  simp[sizeOf,typeInfo,h1,h2]
 ·cases h
theorem U24 {T:Tab} {t n:Nat} (h:T.size t=some n):∃ r,T.row t=some r∧r.size=n:=by
 unfold Tab.size at h
 split at h
 ·rename_i r hr;cases h;exact⟨r,hr,rfl⟩
 ·cases h
theorem Z2a {T:Tab} {t:Nat} {d:TD} (h:T.desc t=d) (hd:d≠.other):∃ r,T.row t=some r∧r.desc=d:=by
 unfold Tab.desc at h
 split at h
 ·rename_i r hr;exact⟨r,hr,h⟩
 ·exact absurd h.symm hd
theorem Q2 {P:Program} {T:Tab} (hT:U2 P T) {t:Nat} {d:TD} (h:T.desc t=d) (hd:d≠.other):Q3 P t d:=by
 obtain⟨r,hr,rfl⟩:=Z2a h hd
 exact(hT t r hr).desc
theorem Q1u (us:List Value) (a b:Nat):us.toArray.extract a b=((us.drop a).take (b - a)).toArray:=by
 apply Array.ext'
 simp
theorem X08 {P:Program} {T:Tab} (hT:U2 P T) {μ:Nat→Pl} {F:Nat→Prop} {w:World} {t:Nat} {cs:List AV} {off:Nat} {x:AV} {us:List Value}
    (h:Vs T t cs off=some x) (hv:U0 μ F w cs us) (h1:∀ u∈us,u.oneCell'=true) (w':World) :
    ∃ v,(part t us.toArray off).run P w'=.ok v w'∧VRel μ F w x v:=by
 unfold Vs at h
 split at h
 ·cases h
 ·rename_i n hn
  obtain⟨r,hr,hrn⟩:=U24 hn
  have ha:=J2o hT hr w'
  have hs:=Jb hT hn w'
  split at h
  ·rename_i hagg
   split at h
   ·rename_i hle
    cases h
    refine⟨.agg ((us.drop off).take n).toArray,?_,?_⟩
    ·simp[part,ha,hagg,hs,Q1u]
    ·simp only[VRel]
     exact⟨_,rfl,Q0i (Z0h hv off) n,fun u hu=>h1 u (List.mem_of_mem_drop (List.mem_of_mem_take hu))⟩
   ·cases h
  ·rename_i hagg
   obtain⟨v,hv1,hv2⟩:=Qq hv h
   refine⟨v,?_,hv2⟩
   simp[part,ha,hagg,hv1]
theorem Vb (b o j:Nat):(⟨b,o,none⟩:Addr).add j=⟨b,o+j,none⟩:=by unfold Addr.add;split<;>simp_all
theorem J16 {P:Program} {T:Tab} (hT:U2 P T) {μ:Nat→Pl} {F:Nat→Prop} {w:World} {t:Nat} {cs:List AV} {off b base:Nat} {x:AV} {us:List Value}
    (h:Vs T t cs off=some x) (hv:U0 μ F w cs us) (h1:∀ u∈us,u.oneCell'=true)
    (hc:∀ (j:Nat) (u:Value),us[j]?=some u→w.cell? ⟨b,base+j,none⟩=some u) :
    ∃ v,(Instr.loadAt t (.pointer (some ⟨b,base+off,none⟩))).run P w=.ok v w∧VRel μ F w x v:=by
 unfold Vs at h
 split at h
 ·cases h
 ·rename_i n hn
  obtain⟨r,hr,hrn⟩:=U24 hn
  have ha:=J2o hT hr w
  have hs:=Jb hT hn w
  split at h
  ·rename_i hagg
   split at h
   ·rename_i hle
    cases h
    have hlen:((us.drop off).take n).length=n:=by simp[Xb hv];omega
    have hl:=run_loadCells_list (P:=P) w ⟨b,base+off,none⟩ ((us.drop off).take n) (fun j v hj=>by
     have hjn:j < n:=by obtain⟨h2,_⟩:=List.getElem?_eq_some_iff.1 hj;omega
     rw[List.getElem?_take_of_lt hjn,List.getElem?_drop] at hj
     rw[Vb,Nat.add_assoc]
     exact hc _ _ hj)
    rw[hlen] at hl
    refine⟨.agg ((us.drop off).take n).toArray,?_,?_⟩
    ·simp[Instr.loadAt,Instr.sureAddr,loadVar,ha,hagg,hs,hl]
    ·simp only[VRel]
     exact⟨_,rfl,Q0i (Z0h hv off) n,fun u hu=>h1 u (List.mem_of_mem_drop (List.mem_of_mem_take hu))⟩
   ·cases h
  ·rename_i hagg
   obtain⟨v,hv1,hv2⟩:=Qq hv h
   refine⟨v,?_,hv2⟩
   have:=hc off v hv1
   simp[Instr.loadAt,Instr.sureAddr,loadVar,ha,hagg,load,Sem.run,this]
theorem X1c {F:Nat→Prop} {w:World} {t:Ty} {xs:List t.den} {b o i:Nat} (h:Lies F w t xs b o) (hi:i < xs.length) :
    ∃ us,Enc F w t (xs.getD i t.dflt) us∧us.length=t.sz∧∀ (j:Nat) (u:Value),us[j]?=some u→w.cell? ⟨b,o+i * t.sz+j,none⟩=some u:=by
 have:xs[i]?=some (xs.getD i t.dflt):=by simp[List.getD,List.getElem?_eq_getElem hi]
 exact h i _ this
theorem X1i {P:Program} {T:Tab} (hT:U2 P T) {w:World} {hp:Nat→LObj} {nx:Nat} {μ:Nat→Pl} {F:Nat→Prop} (hi:HInv w hp nx μ F) {t:Nat} {p x:AV} {v:Value}
    (h:V0p T hp t p=some x) (hv:VRel μ F w p v):∃ u,(Instr.loadAt t v).run P w=.ok u w∧VRel μ F w x u:=by
 cases p<;>simp only[V0p] at h<;>try cases h
 case ptr k off=>
  simp only[VRel] at hv
  obtain⟨b,hb,rfl⟩:=hv
  have hk:k < nx:=hi.lt (b:=b) (by rw[hb];rfl)
  have ho:=hi.obj k hk
  split at h
  ·rename_i cs hcs
   rw[hcs,hb] at ho
   simp only[ORel] at ho
   obtain⟨us,E,fz,h1,h2,h3,h4,_⟩:=ho
   have:=J16 (P:=P) hT (b:=b) (base:=0) h h3 h4 (fun j u hj=>by simp[World.cell?,h1,hj])
   simpa using this
  ·cases h
 case rptr k t' i off=>
  simp only[VRel] at hv
  obtain⟨b,o,len,cap,hk,hlt,rfl⟩:=hv
  have hkn:k < nx:=by
   by_cases hlt:k < nx
   ·exact hlt
   ·rw[hi.top k (by omega)] at hk;cases hk
  have ho:=hi.obj k hkn
  rw[hk] at ho
  obtain⟨τ,xs,h3,h4,h5,h6,h7,h8⟩:=Jl ho
  rw[h3] at h
  simp only at h
  split at h
  ·rename_i he
   subst he
   have hl:=V08 (F':=F) (fun _ h=>h) (h8 b o rfl (by omega))
   obtain⟨us,e1,e2,e3⟩:=X1c hl (by omega:i < xs.length)
   exact J16 hT h (Vl _ _ _ e1) e1.one e3
  ·cases h
 case lptr τ xs i off=>
  simp only[VRel] at hv
  obtain⟨b,o,h1,h2,h3,rfl⟩:=hv
  obtain⟨us,e1,e2,e3⟩:=X1c h2 h3
  exact J16 hT h (Vl _ _ _ e1) e1.one e3
theorem J9 (b:Nat):∀ (vs:List Value) (o:Nat) (w:World),(w.setCells b o vs).os=w.os∧(w.setCells b o vs).tape=w.tape∧(w.setCells b o vs).output=w.output∧(w.setCells b o vs).heap.size=w.heap.size ∧
    ∀ k,k≠b→(w.setCells b o vs).heap[k]?=w.heap[k]?
 | [],_,w=>⟨rfl,rfl,rfl,rfl,fun _ _=>rfl⟩
 | v::r,o,w=>by
   obtain⟨h1,h2,h3,h4,h5⟩:=J9 b r (o+1) (w.setCell ⟨b,o,none⟩ v)
   rw[World.setCells]
   exact⟨h1,h2,h3,by rw[h4];simp[World.setCell],fun k hk=>by
    rw[h5 k hk]
    simp only[World.setCell]
    rw[Array.getElem?_modify]
    rw[if_neg (by omega)]⟩
theorem U8 (b:Nat) (E:TypeId) (fz:Nat×Nat):∀ (vs:List Value) (o:Nat) (w:World) (us:List Value),w.heap[b]?=some (.cells us.toArray E fz)→o+vs.length≤us.length→
    (w.setCells b o vs).heap[b]?=some (.cells (us.take o++vs++us.drop (o+vs.length)).toArray E fz)
 | [],o,w,us,h,_=>by simpa[World.setCells] using h
 | v::r,o,w,us,h,hl=>by
   simp only[List.length_cons] at hl
   have h2:(w.setCell ⟨b,o,none⟩ v).heap[b]?=some (.cells (us.set o v).toArray E fz):=by
    simp[World.setCell,Array.getElem?_modify,h]
   rw[World.setCells,U8 b E fz r (o+1) _ _ h2 (by simp;omega)]
   congr 3
   have ho:o < us.length:=by omega
   have ht:(us.take o).length=o:=by simp;omega
   rw[List.take_set,List.drop_set_of_lt (by omega),List.take_succ_eq_append_getElem ho,List.set_append_right _ _ (by omega),ht,Nat.sub_self]
   simp only[List.set_cons_zero,List.append_assoc,List.length_cons,List.cons_append,List.nil_append]
   rw[show o+1+r.length=o+(r.length+1) by omega]
theorem J0j {μ:Nat→Pl} {F:Nat→Prop} {w:World} {cs ds:List AV} {us vs:List Value} (h:U0 μ F w cs us) (h':U0 μ F w ds vs) (off:Nat) :
    U0 μ F w (J1a cs off ds) (us.take off++vs++us.drop (off+vs.length)):=by
 unfold J1a
 rw[Xb h']
 exact Zl (Zl (Q0i h off) h') (Z0h h _)
theorem Qv {us vs:List Value} {off:Nat} {fz:Nat×Nat} (hle:off+vs.length≤us.length) (h:∀ i,i < us.length→¬ (fz.1≤i∧i < fz.2)) :
    ∀ i,i < (us.take off++vs++us.drop (off+vs.length)).length→¬ (fz.1≤i∧i < fz.2):=fun i hi=>h i (by simp at hi;omega)
theorem U1l {P:Program} {T:Tab} (hT:U2 P T) {t n:Nat} (hn:T.size t=some n) {w:World} {b o:Nat} {us:List Value} {E:TypeId} {fz:Nat×Nat} {v:Value}
    (hb:w.heap[b]?=some (.cells us.toArray E fz)) (hfz:∀ i,i < us.length→¬ (fz.1≤i∧i < fz.2)) (hvn:v.cells.size=n) (hle:o+n≤us.length) (h1:∀ u∈v.cells.toList,u.oneCell'=true) :
    (Instr.storeAt t (.pointer (some ⟨b,o,none⟩)) v).run P w=.ok () (w.setCells b o v.cells.toList):=by
 have hs:=Jb hT hn w
 have hst:=run_storeCells_cells (P:=P) b o v.cells.toList 0 w (fun j hj=>by
     have:o+j < us.length:=by simp at hj;omega
     simp[World.cell?,hb,List.getElem?_eq_getElem this]) (fun j hj=>by
     have:o+j < us.length:=by simp at hj;omega
     have:=hfz _ this
     simp only[World.frozen?,hb]
     simp
     intro h1
     simp at this
     omega) h1
 simp only[Nat.add_zero] at hst
 simp[Instr.storeAt,Instr.sureAddr,storeVar,hs,hvn,hst]
theorem V2f {P:Program} {T:Tab} (hT:U2 P T) {c:Cx} {st:St} {a:Act} {w:World} {μ:Nat→Pl} {F:Nat→Prop} (hi:Inv c st a w μ F) {t:Nat} {p x:AV} {v u:Value} {f:Eff}
    (h:Q1t T st.hp t p x=some f) (hv:VRel μ F w p v) (hu:VRel μ F w x u) :
    ∃ w',(Instr.storeAt t v u).run P w=.ok () w'∧Inv c (st.apply f).2 a w' μ F∧(st.apply f).1=.undef:=by
 unfold Q1t at h
 split at h
 ·rename_i n vs hn hvs
  obtain⟨hr,h1⟩:=X0c hvs hu
  split at h
  ·rename_i hlen
   have hsz:u.cells.size=n:=by rw[←hlen,←Xb hr];simp
   cases p<;>simp only at h<;>try cases h
   case ptr k off=>
    simp only[VRel] at hv
    obtain⟨b,hb,rfl⟩:=hv
    have hk:k < st.nx:=hi.h.lt (b:=b) (by rw[hb];rfl)
    have ho:=hi.h.obj k hk
    split at h
    ·rename_i cs hcs
     rw[hcs,hb] at ho
     simp only[ORel] at ho
     obtain⟨us,E,fz,g1,g2,g3,g4,g5⟩:=ho
     split at h
     ·rename_i hle
      cases h
      have hul:=Xb g3
      have hulen:u.cells.toList.length=n:=by simpa using hsz
      refine⟨_,U1l hT hn g1 g2 hsz (by omega) h1,?_,rfl⟩
      obtain⟨e1,e2,e3,e4,e5⟩:=J9 b u.cells.toList off w
      have hFw:∀ b',F b'→(w.setCells b off u.cells.toList).heap[b']?=w.heap[b']?:=fun b' hb'=>e5 b' (fun e=>(hi.h.out k b (by rw[hb];rfl)).1 (e▸hb'))
      refine Um hi hk ⟨e1,e2,e3,by omega,fun b' _ hne=>e5 b' (fun e=>hne (by rw[hb,e];rfl))⟩ ?_
      rw[hb]
      simp only[ORel]
      refine⟨_,E,fz,U8 b E fz _ off w us g1 (by omega),Qv (by omega) g2,?_,?_,g5⟩
      ·exact Ua (fun _ h=>h) hFw (fun _ _=>rfl) (J0j g3 hr off)
      ·intro y hy
       simp only[List.mem_append] at hy
       rcases hy with (hy | hy) | hy
       ·exact g4 y (List.mem_of_mem_take hy)
       ·exact h1 y hy
       ·exact g4 y (List.mem_of_mem_drop hy)
     ·cases h
    ·cases h
   case rptr k t' i off=>
    simp only[VRel] at hv
    obtain⟨b,o,len,cap,hk,hlt,rfl⟩:=hv
    have hkn:k < st.nx:=by
     by_cases hlt:k < st.nx
     ·exact hlt
     ·rw[hi.h.top k (by omega)] at hk;cases hk
    have ho:=hi.h.obj k hkn
    rw[hk] at ho
    obtain⟨τ,xs,h3,h4,h5,h6,h7,h8⟩:=Jl ho
    rw[h3] at h
    simp only at h
    split at h
    ·rename_i he
     subst he
     split at h
     ·rename_i hle
      split at h
      ·rename_i ys hys
       cases h
       have hcap:cap≠0:=by omega
       obtain⟨us,E,fz,g1,g2,g3,g4,g5⟩:=h8 b o rfl hcap
       have hown:(μ k).own b:=by simp[hk,Pl.own,hcap]
       have hulen:u.cells.toList.length=n:=by simpa using hsz
       have hfit:o+i * τ.sz+τ.sz≤us.length:=by
        have:(i+1) * τ.sz≤cap * τ.sz:=Nat.mul_le_mul_right _ (by omega)
        rw[Nat.add_mul] at this
        omega
       refine⟨_,U1l hT hn g1 g2 hsz (by omega) h1,?_,rfl⟩
       obtain⟨e1,e2,e3,e4,e5⟩:=J9 b u.cells.toList (o+i * τ.sz+off) w
       have hFw:∀ b',F b'→(w.setCells b (o+i * τ.sz+off) u.cells.toList).heap[b']?=w.heap[b']?:=fun b' hb'=>e5 b' (fun e=>(hi.h.out k b hown).1 (e▸hb'))
       refine Um hi hkn ⟨e1,e2,e3,by omega,fun b' _ hne=>e5 b' (fun e=>hne (by rw[e];exact hown))⟩ ?_
       rw[hk]
       unfold Z23 at hys
       split at hys
       ·rename_i x' hx'
        cases hys
        simp only[ORel]
        refine⟨trivial,by simp[h5],h6,fun h=>(by cases h),fun b' o' hbo _=>?_⟩
        cases hbo
        refine⟨_,E,fz,U8 b E fz _ _ w us g1 (by omega),Qv (by omega) g2,by simp;omega,fun j y hy=>?_,g5⟩
        have hxi:xs[i]?=some (xs.getD i τ.dflt):=by simp[List.getD,List.getElem?_eq_getElem (show i < xs.length by omega)]
        by_cases hji:j=i
        ·subst hji
         obtain⟨zs,z1,z2,z3⟩:=g4 j _ hxi
         have hyx:y=x':=by
          rw[List.getElem?_set_self (by omega)] at hy
          exact(Option.some.inj hy).symm
         subst hyx
         have henc:=Z0g hx' (J0j (Vl (μ:=μ) _ _ _ z1) hr off)
         refine⟨_,henc.mono (fun _ h=>h) hFw,by simp[z2];omega,fun l q hq=>?_⟩
         rw[hulen] at hq ⊢
         rw[List.append_assoc] at hq ⊢
         by_cases hl1:l < off
         ·rw[List.getElem?_append_left (by simp[z2];omega),List.getElem?_take_of_lt hl1] at hq
          rw[List.getElem?_append_left (by simp;omega),List.getElem?_take_of_lt (by omega)]
          exact z3 l q hq
         ·rw[List.getElem?_append_right (by simp[z2];omega)] at hq
          simp only[List.length_take,z2,show min off τ.sz=off by omega] at hq
          rw[List.getElem?_append_right (by simp;omega)]
          simp only[List.length_take,show min (o+j * τ.sz+off) us.length=o+j * τ.sz+off by omega]
          rw[show o+j * τ.sz+l - (o+j * τ.sz+off)=l - off by omega]
          by_cases hl2:l - off < n
          ·rw[List.getElem?_append_left (by omega)] at hq ⊢
           exact hq
          ·rw[List.getElem?_append_right (by omega)] at hq ⊢
           rw[hulen] at hq ⊢
           rw[List.getElem?_drop] at hq ⊢
           have:=z3 _ q hq
           rw[←this]
           congr 1
           omega
        ·rw[List.getElem?_set_ne (by omega)] at hy
         obtain⟨zs,z1,z2,z3⟩:=g4 j y hy
         refine⟨zs,z1.mono (fun _ h=>h) hFw,z2,fun l q hq=>?_⟩
         have hl:l < τ.sz:=by obtain⟨h2,_⟩:=List.getElem?_eq_some_iff.1 hq;omega
         have hold:=z3 l q hq
         rw[hulen,List.append_assoc]
         by_cases hjl:j < i
         ·have:(j+1) * τ.sz≤i * τ.sz:=Nat.mul_le_mul_right _ (by omega)
          rw[Nat.add_mul] at this
          rw[List.getElem?_append_left (by simp;omega),List.getElem?_take_of_lt (by omega)]
          exact hold
         ·have:(i+1) * τ.sz≤j * τ.sz:=Nat.mul_le_mul_right _ (by omega)
          rw[Nat.add_mul] at this
          rw[List.getElem?_append_right (by simp;omega),List.getElem?_append_right (by simp;omega),List.getElem?_drop]
          rw[←hold]
          congr 1
          simp
          omega
       ·cases hys
      ·cases h
     ·cases h
    ·cases h
  ·cases h
 ·cases h
theorem Z4 {R:Type} {b:Bool} {x:Option R} {r:R} (h:req b x=some r):b=true∧x=some r:=by
 cases b
 ·simp[req] at h
 ·exact⟨rfl,by simpa[req] using h⟩
theorem Z24 {μ:Nat→Pl} {F:Nat→Prop} {w:World} (v:Value):VRel μ F w (J1q v) v:=by
 unfold J1q
 split<;>simp[VRel]
theorem Q1a {c:Cx} {st:St} {a:Act} {w:World} {μ:Nat→Pl} {F:Nat→Prop} (hi:Inv c st a w μ F) (x:Operand):VRel μ F w (st.ev x) (a.eval x):=by
 cases x with
 | tmp t=>exact hi.tm t
 | const v=>exact Z24 v
 | global g=>simp[St.ev,VRel]
 | func f=>simp[St.ev,VRel,U0,Act.eval]
theorem X2b {P:Program} {μ:Nat→Pl} {F:Nat→Prop} {w:World} {op:BinOp} {k:IntKind} {a b:Int} {z:AV} (h:X2f op k a b=some z) (t:TypeId) (X Y:Operand) :
    ∃ q,((do eqGuard op t X Y (.int k a) (.int k b);binOp op t (.int k a) (.int k b)):Sem Value).run P w=.ok q w∧VRel μ F w z q:=by
 cases op<;>simp only[X2f] at h<;>try cases h
 all_goals exact⟨_,by simp[eqGuard,binOp,Op.intArith,Op.intBits,Op.intCmp];rfl,by simp[VRel]⟩
theorem bytes_beq (a b:List UInt8):((⟨a.toArray⟩:ByteArray).toList==(⟨b.toArray⟩:ByteArray).toList)=(a==b):=by
 rw[ByteArray.toList_eq,ByteArray.toList_eq]
theorem U2f {P:Program} {μ:Nat→Pl} {F:Nat→Prop} {w:World} {op:BinOp} {a b:List UInt8} {z:AV} (h:Z2k op a b=some z) (t:TypeId) (X Y:Operand) :
    ∃ q,((do eqGuard op t X Y (.string ⟨a.toArray⟩) (.string ⟨b.toArray⟩);binOp op t (.string ⟨a.toArray⟩) (.string ⟨b.toArray⟩)):Sem Value).run P w=.ok q w∧VRel μ F w z q:=by
 cases op<;>simp only[Z2k] at h<;>try cases h
 ·exact⟨_,by simp[eqGuard,binOp,Op.stringOp];rfl,by simp[VRel,ByteArray.toList_eq]⟩
 ·exact⟨_,by simp[eqGuard,binOp,Op.stringOp];rfl,by simp[VRel,ByteArray.toList_eq]⟩
 ·exact⟨_,by simp[eqGuard,binOp,Op.stringOp];rfl,by simp[VRel,ByteArray.toList_eq]⟩
theorem U21 {P:Program} {T:Tab} (hT:U2 P T) {μ:Nat→Pl} {F:Nat→Prop} {w:World} {d:Nat} {cs ds:List AV} {us vs:List Value}
    (hu:U0 μ F w cs us) (hv:U0 μ F w ds vs) (hu1:∀ u∈us,u.oneCell'=true) (hv1:∀ u∈vs,u.oneCell'=true)
    (ih:∀ (t:Nat) (x y:AV) (u v:Value) (b:Bool) (w':World),eqV T d t x y=some b→VRel μ F w x u→VRel μ F w y v→(Op.equalIn d t u v).run P w'=.ok b w') :
    ∀ (fs : List Field) (b : Bool) (w' : World), (∀ f ∈ fs, f.name ≠ "_") → eqFs T (eqV T d) cs ds (fs.map fun f => (f.offset, f.type)) = some b →
      (Op.eqFields d us.toArray vs.toArray fs).run P w'=.ok b w'
 | [],b,w',_,h=>by simp[eqFs] at h;subst h;simp[Op.eqFields]
 | f::fs,b,w',hn,h=>by
   simp only[List.map_cons,eqFs] at h
   split at h
   ·rename_i x y hx hy
    split at h
    ·rename_i r q hr hq
     cases h
     obtain⟨u,e1,e2⟩:=X08 hT hx hu hu1 w'
     obtain⟨v,e3,e4⟩:=X08 hT hy hv hv1 w'
     have e5:=ih _ _ _ _ _ _ w' hr e2 e4
     have e6:=U21 hT hu hv hu1 hv1 ih fs q w' (fun f hf=>hn f (by simp[hf])) hq
     simp only[Op.eqFields,if_pos (hn f (by simp)),Sem.run_bind,e1,e3,e5,Result.andThen_ok]
     cases r
     ·simp
     ·simpa using e6
    ·cases h
   ·cases h
theorem U1u {P:Program} {T:Tab} (hT:U2 P T) {μ:Nat→Pl} {F:Nat→Prop} {w:World}:∀ (d t:Nat) (x y:AV) (u v:Value) (b:Bool) (w':World),
    eqV T d t x y=some b→VRel μ F w x u→VRel μ F w y v→(Op.equalIn d t u v).run P w'=.ok b w'
 | 0,t,x,y,u,v,b,w',h,_,_=>by simp[eqV] at h
 | d+1,t,x,y,u,v,b,w',h,hu,hv=>by
   simp only[eqV] at h
   split at h
   ·rename_i k0 k a k' b' hd
    have ht:=Q2 hT hd (by simp)
    simp only[Q3] at ht
    split at h
    ·rename_i hk
     cases h
     simp only[VRel] at hu hv
     subst hu hv hk
     exact run_equalIn_int w' d t _ _ _ _ ht
    ·cases h
   ·rename_i a b' hd
    have ht:=Q2 hT hd (by simp)
    simp only[Q3] at ht
    cases h
    simp only[VRel] at hu hv
    subst hu hv
    exact run_equalIn_bool' w' d t _ _ ht
   ·rename_i a b' hd
    have ht:=Q2 hT hd (by simp)
    simp only[Q3] at ht
    cases h
    simp only[VRel] at hu hv
    subst hu hv
    rw[run_equalIn_string w' d t _ _ ht,bytes_beq]
   ·rename_i fs cs ds hd
    have ht:=Q2 hT hd (by simp)
    simp only[Q3] at ht
    obtain⟨fields,ht,hfs,hn,hp,_⟩:=ht
    simp only[VRel] at hu hv
    obtain⟨us,rfl,hu,hu1⟩:=hu
    obtain⟨vs,rfl,hv,hv1⟩:=hv
    have hfo:P.fieldsOf t=fields:=by simp[Program.fieldsOf,ht]
    rw[run_equalIn_struct w' d t _ _ (by rw[hfo];exact ht) hp,hfo]
    subst hfs
    exact U21 hT hu hv hu1 hv1 (fun t x y u v b w''=>U1u hT d t x y u v b w'') fields.toList b w' hn h
   ·cases h
theorem J1o {T:Tab} {e e':Nat→AV→AV→Option Bool} {cs ds:List AV} (he:∀ t x y b,e t x y=some b→e' t x y=some b):∀ (fs:List (Nat×Nat)) (b:Bool),eqFs T e cs ds fs=some b→eqFs T e' cs ds fs=some b
 | [],b,h=>h
 | (off,t)::fs,b,h=>by
   simp only[eqFs] at h ⊢
   split at h
   ·split at h
    ·rename_i r q hr hq
     rw[he _ _ _ _ hr,J1o he fs q hq]
     exact h
    ·cases h
   ·cases h
theorem U15 {T:Tab}:∀ (d d' t:Nat) (x y:AV) (b:Bool),d≤d'→eqV T d t x y=some b→eqV T d' t x y=some b
 | 0,_,_,_,_,_,_,h=>by simp[eqV] at h
 | d+1,0,_,_,_,_,hd,_=>by omega
 | d+1,d'+1,t,x,y,b,hd,h=>by
   simp only[eqV] at h ⊢
   split at h
   ·exact h
   ·exact h
   ·exact h
   ·exact J1o (fun t x y b=>U15 d d' t x y b (by omega)) _ b h
   ·cases h
theorem X0f {P:Program} {T:Tab} (hT:U2 P T) {μ:Nat→Pl} {F:Nat→Prop} {w:World} {t:Nat} {cs ds:List AV} {u v:Value} {b:Bool} (op:BinOp) (hop:op=.eql∨op=.neq) (X Y:Operand)
    (h:eqV T 12 t (.agg cs) (.agg ds)=some b) (hu:VRel μ F w (.agg cs) u) (hv:VRel μ F w (.agg ds) v) :
    ((do eqGuard op t X Y u v;binOp op t u v):Sem Value).run P w=.ok (.bool (if op=.eql then b else !b)) w:=by
 have hd:∃ fs,T.desc t=.struct fs:=by
  cases hd:T.desc t<;>simp[eqV,hd] at h
  exact⟨_,rfl⟩
 obtain⟨fs,hd⟩:=hd
 have ht:=Q2 hT hd (by simp)
 simp only[Q3] at ht
 obtain⟨fields,ht,hfs,hn,hp,hg⟩:=ht
 have he:(Op.equal t u v).run P w=.ok b w:=
  U1u hT _ t _ _ u v b w (U15 12 Op.maxDepth t _ _ b (by decide) h) hu hv
 simp only[VRel] at hu hv
 obtain⟨us,rfl,_⟩:=hu
 obtain⟨vs,rfl,_⟩:=hv
 rcases hop with rfl | rfl
 ·simp[eqGuard,hg,binOp,he]
 ·simp[eqGuard,hg,binOp,he]
theorem X2s {P:Program} {T:Tab} (hT:U2 P T) {μ:Nat→Pl} {F:Nat→Prop} {w:World} {t:Nat} {x y:AV} {u v:Value} {b:Bool} (d:Nat)
    (h:nilV T t x y=some b) (hu:VRel μ F w x u) (hv:VRel μ F w y v):(Op.equalIn (d+1) t u v).run P w=.ok b w:=by
 unfold nilV at h
 split at h<;>(try cases h)<;>(rename_i hd;have ht:=Q2 hT hd (by simp);simp only[Q3] at ht;simp only[VRel] at hu hv)
 case h_1=>subst hu hv;simp[Op.equalIn,run_underlying ht]
 case h_2=>obtain⟨b,_,rfl⟩:=hu;subst hv;simp[Op.equalIn,run_underlying ht]
 case h_3=>obtain⟨b,_,_,_,_,_,rfl⟩:=hu;subst hv;simp[Op.equalIn,run_underlying ht]
 case h_4=>obtain⟨b,_,_,_,_,rfl⟩:=hu;subst hv;simp[Op.equalIn,run_underlying ht]
 case h_5=>
  split at h<;>cases h
  rename_i e
  obtain⟨⟨rfl,rfl⟩,hz⟩:=e
  obtain⟨b,h1,rfl⟩:=hu
  obtain⟨b',h2,rfl⟩:=hv
  rw[h1] at h2
  cases h2
  obtain⟨n,hn⟩:=Option.isSome_iff_exists.1 hz
  have hs:=Jb hT hn w
  by_cases h0:n=0
  ·simp[Op.equalIn,run_underlying ht,hs,h0]
  ·simp[Op.equalIn,run_underlying ht,hs,h0,sameAddr]
 case h_6=>obtain⟨a1,a2,a3,ht⟩:=ht;subst hu hv;simp[Op.equalIn,run_underlying ht]
 case h_7=>obtain⟨a1,a2,a3,ht⟩:=ht;obtain⟨us,rfl,_⟩:=hu;subst hv;simp[Op.equalIn,run_underlying ht]
 case h_8=>subst hu hv;simp[Op.equalIn,run_underlying ht]
 case h_9=>obtain⟨b,_,rfl⟩:=hu;subst hv;simp[Op.equalIn,run_underlying ht]
theorem Q34 {P:Program} {T:Tab} (hT:U2 P T) {μ:Nat→Pl} {F:Nat→Prop} {w:World} {t:Nat} {x y:AV} {u v:Value} {b:Bool}
    (h:nilV T t x y=some b) (hu:VRel μ F w x u) (hv:VRel μ F w y v):(Op.equal t u v).run P w=.ok b w:=X2s hT 9999 h hu hv
theorem Z20 {P:Program} {T:Tab} (hT:U2 P T) {μ:Nat→Pl} {F:Nat→Prop} {w:World} {t:Nat} {x y:AV} {u v:Value} {b:Bool} (op:BinOp) (hop:op=.eql∨op=.neq) (X Y:Operand)
    (h:nilV T t x y=some b) (hu:VRel μ F w x u) (hv:VRel μ F w y v) :
    ((do eqGuard op t X Y u v;binOp op t u v):Sem Value).run P w=.ok (.bool (if op=.eql then b else !b)) w:=by
 have he:=Q34 hT h hu hv
 clear hT
 unfold nilV at h
 split at h<;>(try cases h)<;>(simp only[VRel] at hu hv)
 case h_1=>subst hu hv;rcases hop with rfl | rfl<;>simp[eqGuard,binOp,he]
 case h_2=>obtain⟨b,_,rfl⟩:=hu;subst hv;rcases hop with rfl | rfl<;>simp[eqGuard,binOp,he]
 case h_3=>obtain⟨b,_,_,_,_,_,rfl⟩:=hu;subst hv;rcases hop with rfl | rfl<;>simp[eqGuard,binOp,he]
 case h_4=>obtain⟨b,_,_,_,_,rfl⟩:=hu;subst hv;rcases hop with rfl | rfl<;>simp[eqGuard,binOp,he]
 case h_5=>obtain⟨b,_,rfl⟩:=hu;obtain⟨b',_,rfl⟩:=hv;rcases hop with rfl | rfl<;>simp[eqGuard,binOp,he]
 case h_6=>subst hu hv;rcases hop with rfl | rfl<;>simp[eqGuard,binOp,he]
 case h_7=>obtain⟨us,rfl,_⟩:=hu;subst hv;rcases hop with rfl | rfl<;>simp[eqGuard,binOp,he]
 case h_8=>subst hu hv;rcases hop with rfl | rfl<;>simp[eqGuard,binOp,he]
 case h_9=>obtain⟨b,_,rfl⟩:=hu;subst hv;rcases hop with rfl | rfl<;>simp[eqGuard,binOp,he]
theorem nlt0 {b:Int} (h:decide (0≤b)=true):¬ (b < 0):=by have:=of_decide_eq_true h;omega
theorem ne0 {b:Int} (h:(b != 0)=true):¬ (b=0):=by simpa using h
theorem J2b {P:Program} {T:Tab} (hT:U2 P T) {R:Type} {K:Eff→Option R} {r:R} {μ:Nat→Pl} {F:Nat→Prop} {w:World} {t:Nat} {op:BinOp} {x y:AV} {u v:Value} (X Y:Operand)
    (h:X0u T t op x y K=some r) (hu:VRel μ F w x u) (hv:VRel μ F w y v) :
    ∃ z q,K (.val z)=some r∧((do eqGuard op t X Y u v;binOp op t u v):Sem Value).run P w=.ok q w∧VRel μ F w z q:=by
 unfold X0u at h
 split at h
 ·simp only[VRel] at hu hv
  subst hu hv
  obtain⟨hb,h⟩:=Z4 h
  have hb:=nlt0 hb
  exact⟨_,_,h,by simp[eqGuard,binOp,Op.shift,hb];rfl,by simp[VRel]⟩
 ·simp only[VRel] at hu hv
  subst hu hv
  obtain⟨hb,h⟩:=Z4 h
  have hb:=nlt0 hb
  exact⟨_,_,h,by simp[eqGuard,binOp,Op.shift,hb];rfl,by simp[VRel]⟩
 ·split at h
  ·rename_i hk
   subst hk
   simp only[VRel] at hu hv
   subst hu hv
   obtain⟨hb,h⟩:=Z4 h
   have hb:=ne0 hb
   exact⟨_,_,h,by simp[eqGuard,binOp,Op.intDiv,hb];rfl,by simp[VRel]⟩
  ·cases h
 ·split at h
  ·rename_i hk
   subst hk
   simp only[VRel] at hu hv
   subst hu hv
   obtain⟨hb,h⟩:=Z4 h
   have hb:=ne0 hb
   exact⟨_,_,h,by simp[eqGuard,binOp,Op.intDiv,hb];rfl,by simp[VRel]⟩
  ·cases h
 ·split at h
  ·rename_i hk
   subst hk
   split at h
   ·rename_i z hz
    simp only[VRel] at hu hv
    subst hu hv
    obtain⟨q,h1,h2⟩:=X2b (P:=P) (μ:=μ) (F:=F) (w:=w) hz t X Y
    exact⟨z,q,h,h1,h2⟩
   ·cases h
  ·cases h
 ·rename_i a b
  simp only[VRel] at hu hv
  subst hu hv
  obtain⟨hb,h⟩:=Z4 h
  have hb:=Nat.le_of_ble_eq_true hb
  refine⟨_,.string (⟨a.toArray⟩++⟨b.toArray⟩),h,?_,by simp[VRel,ByteArray.mk_append_mk]⟩
  have:=run_string_add_sum (P:=P) (w:=w) ⟨a.toArray⟩ ⟨b.toArray⟩ (by simp[ByteArray.size];omega)
  simp[eqGuard,binOp,this]
 ·split at h
  ·rename_i z hz
   simp only[VRel] at hu hv
   subst hu hv
   obtain⟨q,h1,h2⟩:=U2f (P:=P) (μ:=μ) (F:=F) (w:=w) hz t X Y
   exact⟨z,q,h,h1,h2⟩
  ·cases h
 ·split at h
  ·rename_i hd
   have ht:=Q2 hT hd (by simp)
   simp only[Q3] at ht
   simp only[VRel] at hu hv
   subst hu hv
   exact⟨_,_,h,by simp[eqGuard,binOp,Op.equal,show (Op.equalIn Op.maxDepth t _ _).run P w=_ from run_equalIn_bool' w 9999 t _ _ ht];rfl,by simp[VRel]⟩
  ·cases h
 ·split at h
  ·rename_i hd
   have ht:=Q2 hT hd (by simp)
   simp only[Q3] at ht
   simp only[VRel] at hu hv
   subst hu hv
   exact⟨_,_,h,by simp[eqGuard,binOp,Op.equal,show (Op.equalIn Op.maxDepth t _ _).run P w=_ from run_equalIn_bool' w 9999 t _ _ ht];rfl,by simp[VRel]⟩
  ·cases h
 ·split at h
  ·rename_i b hb
   exact⟨_,_,h,X0f hT .eql (.inl rfl) X Y hb hu hv,by simp[VRel]⟩
  ·cases h
 ·split at h
  ·rename_i b hb
   exact⟨_,_,h,X0f hT .neq (.inr rfl) X Y hb hu hv,by simp[VRel]⟩
  ·cases h
 ·split at h
  ·rename_i b hb
   exact⟨_,_,h,Z20 hT .eql (.inl rfl) X Y hb hu hv,by simp[VRel]⟩
  ·cases h
 ·split at h
  ·rename_i b hb
   exact⟨_,_,h,Z20 hT .neq (.inr rfl) X Y hb hu hv,by simp[VRel]⟩
  ·cases h
 ·cases h
def EncL (F:Nat→Prop) (w:World) (t:Ty):List t.den→List Value→Prop
 | [],vs=>vs=[]
 | x::xs,vs=>∃ us us',vs=us++us'∧Enc F w t x us∧EncL F w t xs us'
theorem Qc {F:Nat→Prop} {w:World} {t:Ty}:∀ {xs:List t.den} {vs:List Value},EncL F w t xs vs→vs.length=xs.length * t.sz
 | [],_,h=>by simp only[EncL] at h;subst h;simp
 | x::xs,_,h=>by
   simp only[EncL] at h
   obtain⟨us,us',rfl,h1,h2⟩:=h
   rw[List.length_append,h1.len,Qc h2,List.length_cons,Nat.add_mul]
   omega
theorem Q08 {F:Nat→Prop} {w:World} {t:Ty}:∀ {xs:List t.den} {vs:List Value},EncL F w t xs vs→∀ u∈vs,u.oneCell'=true
 | [],_,h=>by simp only[EncL] at h;subst h;simp
 | x::xs,_,h=>by
   simp only[EncL] at h
   obtain⟨us,us',rfl,h1,h2⟩:=h
   intro u hu
   rcases List.mem_append.1 hu with hu | hu
   ·exact h1.one u hu
   ·exact Q08 h2 u hu
theorem X1h {F F':Nat→Prop} {w w':World} (hF:∀ b,F b→F' b) (hw:∀ b,F b→w'.heap[b]?=w.heap[b]?) {t:Ty}:∀ {xs:List t.den} {vs:List Value},EncL F w t xs vs→EncL F' w' t xs vs
 | [],_,h=>by simpa only[EncL] using h
 | x::xs,_,h=>by
   simp only[EncL] at h ⊢
   obtain⟨us,us',rfl,h1,h2⟩:=h
   exact⟨us,us',rfl,h1.mono hF hw,X1h hF hw h2⟩
theorem J0x {F:Nat→Prop} {w:World} {t:Ty}:∀ {xs ys:List t.den} {us vs:List Value},EncL F w t xs us→EncL F w t ys vs→EncL F w t (xs++ys) (us++vs)
 | [],ys,us,vs,h,h'=>by simp only[EncL] at h;subst h;exact h'
 | x::xs,ys,_,vs,h,h'=>by
   simp only[EncL] at h
   obtain⟨us,us',rfl,h1,h2⟩:=h
   simp only[List.cons_append,EncL]
   exact⟨us,us'++vs,by simp,h1,J0x h2 h'⟩
theorem Xz {F:Nat→Prop} {w:World} {t:Ty}:∀ {xs:List t.den} {vs:List Value},EncL F w t xs vs→∀ (i:Nat) (x:t.den),xs[i]?=some x→
    ∃ us,Enc F w t x us∧us.length=t.sz∧∀ (j:Nat) (u:Value),us[j]?=some u→vs[i * t.sz+j]?=some u
 | [],_,_,i,x,hx=>by simp at hx
 | y::xs,_,h,i,x,hx=>by
   simp only[EncL] at h
   obtain⟨us,us',rfl,h1,h2⟩:=h
   cases i with
   | zero=>
     simp at hx
     subst hx
     refine⟨us,h1,h1.len,fun j u hj=>?_⟩
     rw[Nat.zero_mul,Nat.zero_add,List.getElem?_append_left (by obtain⟨h3,_⟩:=List.getElem?_eq_some_iff.1 hj;exact h3)]
     exact hj
   | succ i=>
     simp at hx
     obtain⟨zs,e1,e2,e3⟩:=Xz h2 i x hx
     refine⟨zs,e1,e2,fun j u hj=>?_⟩
     have:=e3 j u hj
     rw[List.getElem?_append_right (by rw[h1.len,Nat.add_mul];omega),←this]
     congr 1
     rw[h1.len,Nat.add_mul]
     omega
theorem Z0u {F:Nat→Prop} {w:World} {t:Ty}:∀ {xs:List t.den} {b o:Nat},Lies F w t xs b o→
    ∃ vs,EncL F w t xs vs∧∀ (j:Nat) (u:Value),vs[j]?=some u→w.cell? ⟨b,o+j,none⟩=some u
 | [],b,o,_=>⟨[],by simp[EncL],by simp⟩
 | x::xs,b,o,h=>by
   obtain⟨us,e1,e2,e3⟩:=h 0 x rfl
   have h':Lies F w t xs b (o+t.sz):=fun i y hy=>by
    obtain⟨zs,z1,z2,z3⟩:=h (i+1) y (by simpa using hy)
    refine⟨zs,z1,z2,fun j u hj=>?_⟩
    have:=z3 j u hj
    rw[Nat.add_mul,Nat.one_mul] at this
    rw[←this]
    congr 2
    omega
   obtain⟨vs,v1,v2⟩:=Z0u h'
   refine⟨us++vs,by simp only[EncL];exact⟨us,vs,rfl,e1,v1⟩,fun j u hj=>?_⟩
   by_cases hlt:j < us.length
   ·rw[List.getElem?_append_left hlt] at hj
    have:=e3 j u hj
    simpa using this
   ·rw[List.getElem?_append_right (by omega)] at hj
    have:=v2 _ u hj
    rw[←this]
    congr 2
    omega
theorem X31 {F:Nat→Prop} {w:World} {t:Ty} {xs:List t.den} {vs:List Value} {b o:Nat} (h:EncL F w t xs vs) (hc:∀ (j:Nat) (u:Value),vs[j]?=some u→w.cell? ⟨b,o+j,none⟩=some u):Lies F w t xs b o:=fun i x hx=>by
 obtain⟨us,e1,e2,e3⟩:=Xz h i x hx
 exact⟨us,e1,e2,fun j u hj=>by have:=hc _ u (e3 j u hj);rw[←Nat.add_assoc] at this;exact this⟩
theorem Jv {F:Nat→Prop} {w:World}:∀ (s:List UInt8),EncL F w (.int .u8) (J4 s) (byteCells ⟨s.toArray⟩)
 | []=>by simp[J4,byteCells,EncL]
 | c::s=>by
   have:=Jv (F:=F) (w:=w) s
   simp only[byteCells,J4,List.map_cons,EncL] at this ⊢
   exact⟨[_],_,rfl,by simp[Enc],this⟩
theorem Qx {w:World} {hp:Nat→LObj} {nx:Nat} {μ:Nat→Pl} {F:Nat→Prop} (hi:HInv w hp nx μ F) {t:Ty} {x:AV} {xs:List t.den} {v:Value} (h:Ur hp t x=some xs) (hv:VRel μ F w x v) :
    ∃ A cap,v=.slice A xs.length cap∧xs.length≤cap∧(A=none→xs=[])∧(xs≠[]→∃ b o,A=some ⟨b,o,none⟩∧Lies F w t xs b o):=by
 cases x<;>simp only[Ur] at h<;>try cases h
 case list t' ys=>
  split at h
  ·rename_i ht
   subst ht
   replace h:some ys=some xs:=h
   cases h
   simp only[VRel] at hv
   obtain⟨A,cap,rfl,h1,h2,h3⟩:=Jd.1 hv
   refine⟨A,cap,rfl,h1,h2,fun hne=>?_⟩
   cases A with
   | none=>exact absurd (h2 rfl) hne
   | some a=>
     obtain⟨e1,e2,e3⟩:=h3 a rfl hne
     obtain⟨b,o,s⟩:=a
     simp only at e1
     subst e1
     exact⟨b,o,rfl,e3⟩
  ·cases h
 case ns=>
  simp only[VRel] at hv
  subst hv
  exact⟨none,0,rfl,by simp,fun _=>rfl,fun h=>absurd rfl h⟩
 case rowA k=>
  simp only[VRel] at hv
  obtain⟨a,len,cap,sz,A0,hk,rfl,hA0⟩:=hv
  have hkn:k < nx:=by
   by_cases hlt:k < nx
   ·exact hlt
   ·rw[hi.top k (by omega)] at hk;cases hk
  have ho:=hi.obj k hkn
  rw[hk] at ho
  obtain⟨τ,ys,h3,h4,h5,h6,h7,h8⟩:=Jl ho
  rw[h3] at h
  simp only at h
  split at h
  ·rename_i ht
   subst ht
   replace h:some ys=some xs:=h
   cases h
   refine⟨A0,cap,by rw[h5],by omega,fun hA=>?_,fun hne=>?_⟩
   ·refine List.length_eq_zero_iff.1 ?_
    by_cases hcap:cap=0
    ·omega
    ·rw[hA0 hcap] at hA
     cases a with
     | none=>have:=h7 rfl;omega
     | some bo=>simp[Qt] at hA
   ·have hl:ys.length≠0:=fun h0=>hne (List.length_eq_zero_iff.1 h0)
    rw[hA0 (by omega)]
    cases a with
    | none=>have:=h7 rfl;omega
    | some bo=>
      obtain⟨b,o⟩:=bo
      subst h4
      exact⟨b,o,rfl,V08 (fun _ h=>h) (h8 b o rfl (by omega))⟩
  ·cases h
 case rowS k off n c=>
  simp only[VRel] at hv
  obtain⟨a,len,cap,sz,A,cap',hk,hle,hcap',rfl,hA'⟩:=hv
  have hkn:k < nx:=by
   by_cases hlt:k < nx
   ·exact hlt
   ·rw[hi.top k (by omega)] at hk;cases hk
  have ho:=hi.obj k hkn
  rw[hk] at ho
  obtain⟨τ,ys,h3,h4,h5,h6,h7,h8⟩:=Jl ho
  rw[h3] at h
  simp only at h
  split at h
  ·rename_i ht
   subst ht
   replace h:some ((ys.drop off).take n)=some xs:=h
   cases h
   have hlen:((ys.drop off).take n).length=n:=by simp;omega
   have hnc:n≤cap':=by rw[hcap'];split<;>omega
   refine⟨A,cap',by rw[hlen],by rw[hlen];exact hnc,fun hA=>?_,fun hne=>?_⟩
   ·refine List.length_eq_zero_iff.1 ?_
    rw[hlen]
    by_cases h0:cap'=0
    ·omega
    ·obtain⟨b,o,_,h9⟩:=hA' h0
     rw[hA] at h9;cases h9
   ·have hn0:n≠0:=fun h0=>hne (List.length_eq_zero_iff.1 (by rw[hlen];exact h0))
    obtain⟨b,o,rfl,rfl⟩:=hA' (by omega)
    subst h4
    exact⟨b,_,rfl,(V08 (fun _ h=>h) (h8 b o rfl (by omega))).part off n⟩
  ·cases h
theorem J3m {P:Program} {w:World} {hp:Nat→LObj} {nx:Nat} {μ:Nat→Pl} {F:Nat→Prop} (hi:HInv w hp nx μ F) {x:AV} {n:Nat} {v:Value} (h:lenE hp x=some n) (hv:VRel μ F w x v) :
    (∃ s:List UInt8,x=.str s∧v=.string ⟨s.toArray⟩∧n=s.length)∨(∃ A cap,v=.slice A n cap):=by
 cases x<;>simp only[lenE] at h<;>try cases h
 case str s=>simp only[VRel] at hv;exact .inl ⟨s,rfl,hv,rfl⟩
 case list t xs=>simp only[VRel] at hv;obtain⟨A,cap,rfl,_⟩:=Jd.1 hv;exact .inr ⟨A,cap,rfl⟩
 case ns=>simp only[VRel] at hv;exact .inr ⟨none,0,hv⟩
 case rowA k=>
  simp only[VRel] at hv
  obtain⟨a,len,cap,sz,A0,hk,rfl,hA0⟩:=hv
  have hkn:k < nx:=by
   by_cases hlt:k < nx
   ·exact hlt
   ·rw[hi.top k (by omega)] at hk;cases hk
  have ho:=hi.obj k hkn
  rw[hk] at ho
  obtain⟨τ,ys,h3,h4,h5,h6,h7,h8⟩:=Jl ho
  rw[h3] at h
  cases h
  exact .inr ⟨_,cap,by rw[h5]⟩
 case rowS k off c=>
  simp only[VRel] at hv
  obtain⟨a,len,cap,sz,A,cap',hk,hle,hcap',rfl,hA'⟩:=hv
  exact .inr ⟨A,cap',rfl⟩
 case psl k=>simp only[VRel] at hv;obtain⟨b,h1,rfl⟩:=hv;exact .inr ⟨_,_,rfl⟩
theorem Qg {μ:Nat→Pl} {F:Nat→Prop} {w:World} {x:AV} {n:Int} {v:Value} (h:V0a x=some n) (hv:VRel μ F w x v):∃ k,v=.int k n:=by
 cases x<;>simp only[V0a] at h<;>cases h
 simp only[VRel] at hv
 exact⟨_,hv⟩
theorem J1g (s:List UInt8) (i:Nat):(⟨s.toArray⟩:ByteArray)[i]?=s[i]?:=by
 by_cases h:i < s.length
 ·have hs:i < (⟨s.toArray⟩:ByteArray).size:=by simpa[ByteArray.size] using h
  rw[ByteArray.getElem?_lt' _ _ hs,List.getElem?_eq_getElem h]
  rfl
 ·have hs:¬ i < (⟨s.toArray⟩:ByteArray).size:=by simpa[ByteArray.size] using h
  rw[ByteArray.getElem?_ge' _ _ hs,List.getElem?_eq_none (by omega)]
theorem U2d {P:Program} {T:Tab} (hT:U2 P T) {R:Type} {K:Eff→Option R} {r:R} {μ:Nat→Pl} {F:Nat→Prop} {w:World} {t:Nat} {x ix:AV} {u v:Value}
    (h:Z0t T t x ix K=some r) (hu:VRel μ F w x u) (hv:VRel μ F w ix v):∃ z q,K (.val z)=some r∧(Instr.index t u v).run P w=.ok q w∧VRel μ F w z q:=by
 unfold Z0t at h
 split at h
 ·cases h
 ·rename_i i hix
  obtain⟨k,rfl⟩:=Qg hix hv
  split at h
  ·rename_i s hd
   have ht:=Q2 hT hd (by simp)
   simp only[Q3] at ht
   simp only[VRel] at hu
   subst hu
   obtain⟨h0,h⟩:=Z4 h
   obtain⟨h1,h⟩:=Z4 h
   have h0:=of_decide_eq_true h0
   have h1:=of_decide_eq_true h1
   have hlt:i.toNat < s.length:=by omega
   refine⟨_,.int .u8 (s.getD i.toNat 0).toNat,h,?_,by simp[VRel]⟩
   have hg:(⟨s.toArray⟩:ByteArray)[i.toNat]?=some (s.getD i.toNat 0):=by rw[J1g];simp[List.getD,List.getElem?_eq_getElem hlt]
   simp[Instr.index,asIntOf,run_underlying ht,h0,hg]
  ·rename_i n e cs hd
   have ht:=Q2 hT hd (by simp)
   simp only[Q3] at ht
   split at h
   ·rename_i m hm
    simp only[VRel] at hu
    obtain⟨us,rfl,hus,hu1⟩:=hu
    have key:∀ (n' j:Nat),j+n'=n→Xc i n' j (fun j=>match Vs T e cs (j * m) with | some v=>K (.val v) | none=>none)=some r→
        ∃ z q,K (.val z)=some r∧(Instr.index t (.agg us.toArray) (.int k i)).run P w=.ok q w∧VRel μ F w z q:=by
     intro n'
     induction n' with
     | zero=>intro j _ hj;simp[Xc] at hj
     | succ n' ih=>
       intro j hjn hj
       simp only[Xc] at hj
       cases hd2:decide (i=(j:Int)) with
       | true=>
         rw[hd2] at hj
         simp only[cond_true] at hj
         have hij:=of_decide_eq_true hd2
         split at hj
         ·rename_i z hz
          obtain⟨q,e1,e2⟩:=X08 hT hz hus hu1 w
          refine⟨z,q,hj,?_,e2⟩
          have hin:0≤i∧i < (n:Int):=by omega
          have hto:i.toNat=j:=by omega
          simp[Instr.index,asIntOf,run_underlying ht,hin,Jb hT hm,hto,e1]
         ·cases hj
       | false=>
         rw[hd2] at hj
         exact ih (j+1) (by omega) hj
    exact key n 0 (by omega) h
   ·cases h
  ·cases h
theorem X12 {P:Program} {T:Tab} (hT:U2 P T) {R:Type} {K:Eff→Option R} {r:R} {w:World} {hp:Nat→LObj} {nx:Nat} {μ:Nat→Pl} {F:Nat→Prop} (hi:HInv w hp nx μ F) {t:Nat} {x ix:AV} {u v:Value}
    (h:Xd T hp t x ix K=some r) (hu:VRel μ F w x u) (hv:VRel μ F w ix v):∃ z q,K (.val z)=some r∧(Instr.indexAt t u v).run P w=.ok q w∧VRel μ F w z q:=by
 unfold Xd at h
 split at h
 ·cases h
 ·rename_i i hix
  obtain⟨ik,rfl⟩:=Qg hix hv
  split at h
  ·rename_i e hd
   have ht:=Q2 hT hd (by simp)
   simp only[Q3] at ht
   cases x<;>simp only at h<;>try cases h
   case list τ xs=>
    split at h
    ·rename_i hsz
     obtain⟨h0,h⟩:=Z4 h
     obtain⟨h1,h⟩:=Z4 h
     have h0:=of_decide_eq_true h0
     have h1:=of_decide_eq_true h1
     simp only[VRel] at hu
     obtain⟨A,cap,rfl,hc,hn,ha⟩:=Jd.1 hu
     have hne:xs≠[]:=by rintro rfl;simp at h1;omega
     cases A with
     | none=>exact absurd (hn rfl) hne
     | some a=>
       obtain⟨hs,hF,hl⟩:=ha a rfl hne
       obtain⟨b,o,s⟩:=a
       simp only at hs
       subst hs
       refine⟨_,.pointer (some ⟨b,o+i.toNat * τ.sz,none⟩),h,?_,?_⟩
       ·simp[Instr.indexAt,asIntOf,run_underlying ht,h0,h1,Jb hT hsz,Vb]
       ·simp only[VRel]
        exact⟨b,o,hF,hl,by omega,by simp⟩
    ·cases h
   case rowA k=>
    simp only[VRel] at hu
    obtain⟨a,len,cap,sz,A0,hk,rfl,hA0⟩:=hu
    have hkn:k < nx:=by
     by_cases hlt:k < nx
     ·exact hlt
     ·rw[hi.top k (by omega)] at hk;cases hk
    have ho:=hi.obj k hkn
    rw[hk] at ho
    obtain⟨τ,ys,h3,h4,h5,h6,h7,h8⟩:=Jl ho
    rw[h3] at h
    simp only at h
    split at h
    ·rename_i hsz
     obtain⟨h0,h⟩:=Z4 h
     obtain⟨h1,h⟩:=Z4 h
     have h0:=of_decide_eq_true h0
     have h1:=of_decide_eq_true h1
     cases a with
     | none=>have:=h7 rfl;omega
     | some bo=>
       obtain⟨b,o⟩:=bo
       subst h4
       refine⟨_,.pointer (some ⟨b,o+i.toNat * τ.sz,none⟩),h,?_,?_⟩
       ·have h1':i < (len:Int):=by omega
        rw[hA0 (by omega)]
        simp[Instr.indexAt,asIntOf,run_underlying ht,h0,h1',Jb hT hsz,Vb,Qt]
       ·simp only[VRel]
        exact⟨b,o,len,cap,hk,by omega,by simp⟩
    ·cases h
   case rowS k off n c=>
    simp only[VRel] at hu
    obtain⟨a,len,cap,sz,A,cap',hk,hle,hcap',rfl,hA'⟩:=hu
    have hkn:k < nx:=by
     by_cases hlt:k < nx
     ·exact hlt
     ·rw[hi.top k (by omega)] at hk;cases hk
    have ho:=hi.obj k hkn
    rw[hk] at ho
    obtain⟨τ,ys,h3,h4,h5,h6,h7,h8⟩:=Jl ho
    rw[h3] at h
    simp only at h
    split at h
    ·rename_i hsz
     obtain⟨h0,h⟩:=Z4 h
     obtain⟨h1,h⟩:=Z4 h
     have h0:=of_decide_eq_true h0
     have h1:=of_decide_eq_true h1
     obtain⟨b,o,rfl,rfl⟩:=hA' (by rw[hcap'];split<;>omega)
     subst h4
     refine⟨_,.pointer (some ⟨b,o+off * τ.sz+i.toNat * τ.sz,none⟩),h,?_,?_⟩
     ·simp[Instr.indexAt,asIntOf,run_underlying ht,h0,h1,Jb hT hsz,Vb]
     ·simp only[VRel]
      refine⟨b,o,len,cap,hk,by omega,?_⟩
      rw[Nat.add_mul]
      simp[Nat.add_assoc]
    ·cases h
   case psl k n=>
    simp only[VRel] at hu
    obtain⟨b,hb,rfl⟩:=hu
    split at h
    ·rename_i hm
     have key:∀ (n' j:Nat),j+n'=n→Xc i n' j (fun j=>K (.val (.ptr k j)))=some r→
         ∃ z q,K (.val z)=some r∧(Instr.indexAt t (.slice (some ⟨b,0,none⟩) n n) (.int ik i)).run P w=.ok q w∧VRel μ F w z q:=by
      intro n'
      induction n' with
      | zero=>intro j _ hj;simp[Xc] at hj
      | succ n' ih=>
        intro j hjn hj
        simp only[Xc] at hj
        cases hd2:decide (i=(j:Int)) with
        | true=>
          rw[hd2] at hj
          simp only[cond_true] at hj
          have hij:=of_decide_eq_true hd2
          refine⟨_,.pointer (some ⟨b,j,none⟩),hj,?_,by simp[VRel,hb]⟩
          have h0:0≤i:=by omega
          have h1:i < (n:Int):=by omega
          have hto:i.toNat=j:=by omega
          simp[Instr.indexAt,asIntOf,run_underlying ht,h0,h1,Jb hT hm,hto,Vb]
        | false=>
          rw[hd2] at hj
          exact ih (j+1) (by omega) hj
     exact key n 0 (by omega) h
    ·cases h
  ·rename_i n e hd
   have ht:=Q2 hT hd (by simp)
   simp only[Q3] at ht
   split at h
   ·rename_i k off m hm
    simp only[VRel] at hu
    obtain⟨b,hb,rfl⟩:=hu
    have key:∀ (n' j:Nat),j+n'=n→Xc i n' j (fun j=>K (.val (.ptr k (off+j * m))))=some r→
        ∃ z q,K (.val z)=some r∧(Instr.indexAt t (.pointer (some ⟨b,off,none⟩)) (.int ik i)).run P w=.ok q w∧VRel μ F w z q:=by
     intro n'
     induction n' with
     | zero=>intro j _ hj;simp[Xc] at hj
     | succ n' ih=>
       intro j hjn hj
       simp only[Xc] at hj
       cases hd2:decide (i=(j:Int)) with
       | true=>
         rw[hd2] at hj
         simp only[cond_true] at hj
         have hij:=of_decide_eq_true hd2
         refine⟨_,.pointer (some ⟨b,off+j * m,none⟩),hj,?_,by simp[VRel,hb]⟩
         have hin:0≤i∧i < (n:Int):=by omega
         have hto:i.toNat=j:=by omega
         simp[Instr.indexAt,asIntOf,run_underlying ht,Instr.sureAddr,hin,Jb hT hm,hto,Vb]
       | false=>
         rw[hd2] at hj
         exact ih (j+1) (by omega) hj
    exact key n 0 (by omega) h
   ·cases h
  ·cases h
def Ui (μ:Nat→Pl) (F:Nat→Prop) (w:World):Option AV→Option Value→Prop
 | none,none=>True
 | some x,some v=>VRel μ F w x v
 | _,_=>False
theorem X04 {μ:Nat→Pl} {F:Nat→Prop} {w:World} {x:Option AV} {d n:Int} {v:Option Value} (h:U1q x d=some n) (hv:Ui μ F w x v) :
    (v=none∧n=d)∨(∃ k,v=some (.int k n)):=by
 cases x<;>cases v<;>simp only[Ui] at hv<;>simp only[U1q] at h
 ·exact .inl ⟨rfl,(Option.some.inj h).symm⟩
 ·obtain⟨k,rfl⟩:=Qg h hv;exact .inr ⟨k,rfl⟩
theorem bound_run {P:Program} {w:World} {k:IntKind} {i:Int} {y:Nat} (h:0≤i∧i≤(y:Int)) (code:BoundsCode):(Instr.sliceBound (.int k i) y code).run P w=.ok i.toNat w:=by
 simp only[Instr.sliceBound,asIntOf,Sem.run_bind,Sem.run_pure,Result.andThen_ok,if_pos h]
theorem Zw {P:Program} {μ:Nat→Pl} {F:Nat→Prop} {w:World} {R:Type} {lo hi mx:Option AV} {l h m:Option Value} {n cap:Nat} {K:Nat→Nat→Bool→Option R} {r:R} (isSlice:Bool)
    (hc:n≤cap) (hg:Zg lo hi mx n K=some r) (rl:Ui μ F w lo l) (rh:Ui μ F w hi h) (rm:Ui μ F w mx m) :
    ∃ a b c,K a b c=some r∧a≤b∧b≤n∧(m=none→c=false)∧(m≠none→c=true)∧(Instr.sliceBounds isSlice n cap l h m).run P w=.ok (a,b,if c then b else cap) w:=by
 unfold Zg at hg
 split at hg
 ·rename_i lv hv hl hh
  obtain⟨h1,hg⟩:=Z4 hg
  obtain⟨h2,hg⟩:=Z4 hg
  simp only[Bool.and_eq_true,decide_eq_true_eq] at h1 h2
  have hcap:hv≤(cap:Int):=by omega
  have sl:∀ (kl:IntKind) (code:BoundsCode),(Instr.sliceBound (.int kl lv) hv.toNat code).run P w=.ok lv.toNat w:=fun kl code=>bound_run (by omega) code
  have sh:∀ (kh:IntKind) (code:BoundsCode),(Instr.sliceBound (.int kh hv) cap code).run P w=.ok hv.toNat w:=fun kh code=>bound_run (by omega) code
  have sh2:∀ (kh:IntKind) (code:BoundsCode),(Instr.sliceBound (.int kh hv) hv.toNat code).run P w=.ok hv.toNat w:=fun kh code=>bound_run (by omega) code
  have hz:(0:Int).toNat=0:=rfl
  have hn:((n:Nat):Int).toNat=n:=by simp
  cases mx with
  | none=>
    cases m<;>simp only[Ui] at rm
    refine⟨_,_,_,hg,by omega,by omega,fun _=>rfl,fun h=>absurd rfl h,?_⟩
    rcases X04 hl rl with ⟨rfl,rfl⟩ | ⟨kl,rfl⟩<;>rcases X04 hh rh with ⟨rfl,rfl⟩ | ⟨kh,rfl⟩
    ·simp only[Instr.sliceBounds,Sem.run_bind,Sem.run_pure,Result.andThen_ok,hz,hn,Bool.false_eq_true,if_false]
    ·simp only[Instr.sliceBounds,Sem.run_bind,Sem.run_pure,Result.andThen_ok,sh,hz,Bool.false_eq_true,if_false]
    ·have:=sl kl
     rw[hn] at this
     simp only[Instr.sliceBounds,Sem.run_bind,Sem.run_pure,Result.andThen_ok,this,hn,Bool.false_eq_true,if_false]
    ·simp only[Instr.sliceBounds,Sem.run_bind,Sem.run_pure,Result.andThen_ok,sl,sh,Bool.false_eq_true,if_false]
  | some x=>
    cases m with
    | none=>simp only[Ui] at rm
    | some u=>
      simp only[Ui] at rm
      simp only at hg
      split at hg
      ·rename_i m' hm _ _
       obtain⟨km,rfl⟩:=Qg hm rm
       obtain⟨h4,hg⟩:=Z4 hg
       have h4:m'=hv:=by simpa using h4
       subst h4
       refine⟨_,_,_,hg,by omega,by omega,(fun h=>by cases h),fun _=>rfl,?_⟩
       rcases X04 hh rh with ⟨rfl,rfl⟩ | ⟨kh,rfl⟩
       ·simp only[Ui] at rh
       ·rcases X04 hl rl with ⟨rfl,rfl⟩ | ⟨kl,rfl⟩
        ·simp only[Instr.sliceBounds,Sem.run_bind,Sem.run_pure,Result.andThen_ok,sh,sh2,hz,if_true]
        ·simp only[Instr.sliceBounds,Sem.run_bind,Sem.run_pure,Result.andThen_ok,sl,sh,sh2,if_true]
      ·cases hg
 ·cases hg
theorem J2h {P:Program} {T:Tab} (hT:U2 P T) {R:Type} {K:Eff→Option R} {r:R} {w:World} {hp:Nat→LObj} {nx:Nat} {μ:Nat→Pl} {F:Nat→Prop} (hi:HInv w hp nx μ F) {t:Nat} {x:AV} {lo hi' mx:Option AV} {u:Value} {l h' m:Option Value}
    (h:V04 T hp t x lo hi' mx K=some r) (hu:VRel μ F w x u) (rl:Ui μ F w lo l) (rh:Ui μ F w hi' h') (rm:Ui μ F w mx m) :
    ∃ z q,K (.val z)=some r∧(Instr.sliceAt t u l h' m).run P w=.ok q w∧VRel μ F w z q:=by
 unfold V04 at h
 split at h
 ·rename_i hd
  have ht:=Q2 hT hd (by simp)
  simp only[Q3] at ht
  split at h
  ·rename_i s
   simp only[VRel] at hu
   subst hu
   cases m<;>simp only[Ui] at rm
   obtain⟨a,b,c,h1,h2,h3,h4,_,h5⟩:=Zw (P:=P) false (Nat.le_refl _) h rl rh (m:=none) (by simp[Ui])
   refine⟨_,.string ⟨((s.drop a).take (b - a)).toArray⟩,h1,?_,by simp only[VRel]⟩
   have hs:(⟨s.toArray⟩:ByteArray).size=s.length:=by simp[ByteArray.size]
   simp[Instr.sliceAt,Instr.slice,run_underlying ht,hs,h5,ByteArray.extract_mk]
  ·cases h
 ·rename_i e hd
  have ht:=Q2 hT hd (by simp)
  simp only[Q3] at ht
  split at h
  ·cases h
  ·rename_i n hn
   have hsz:=Jb hT hn (P:=P)
   cases x<;>simp only at h<;>try cases h
   case list τ xs=>
    split at h
    ·rename_i hszτ
     simp only[VRel] at hu
     obtain⟨A,cap,rfl,hc,hnn,ha⟩:=Jd.1 hu
     obtain⟨a,b,c,h1,h2,h3,h4,h5,h6⟩:=Zw (P:=P) true hc h rl rh rm
     have hlen:((xs.drop a).take (b - a)).length=b - a:=by simp;omega
     refine⟨_,_,h1,by simp[Instr.sliceAt,Instr.slice,run_underlying ht,h6,hsz];rfl,?_⟩
     simp only[VRel]
     refine Jd.2 ⟨_,_,by rw[hlen],by rw[hlen];split<;>omega,fun hA=>?_,fun ad hA hne=>?_⟩
     ·refine List.length_eq_zero_iff.1 ?_
      rw[hlen]
      have hA':A=none:=by
       by_cases h9:(if c=true then b else cap)=a
       ·rw[if_pos h9] at hA;exact hA
       ·rw[if_neg h9] at hA;simpa using hA
      have:=hnn hA'
      subst this
      simp at h3
      omega
     ·have hba:b - a≠0:=by intro h0;exact hne (List.length_eq_zero_iff.1 (by rw[hlen];exact h0))
      have hxs:xs≠[]:=by rintro rfl;simp at h3;omega
      have hmne:¬ ((if c=true then b else cap)=a):=by split<;>omega
      rw[if_neg hmne] at hA
      cases A with
      | none=>simp at hA
      | some a0=>
        obtain⟨e1,e2,e3⟩:=ha a0 rfl hxs
        obtain⟨bb,o,s⟩:=a0
        simp only at e1
        subst e1
        simp only[Option.map_some,Option.some.injEq] at hA
        subst hA
        rw[Vb]
        refine⟨rfl,e2,?_⟩
        rw[←hszτ]
        exact e3.part a (b - a)
    ·cases h
   case ns=>
    simp only[VRel] at hu
    subst hu
    cases mx with
    | none=>
      cases m<;>simp only[Ui] at rm
      obtain⟨a,b,c,h1,h2,h3,h4,h5,h6⟩:=Zw (P:=P) true (Nat.le_refl _) h rl rh (m:=none) (by simp[Ui])
      have hb:b=0:=by omega
      have ha:a=0:=by omega
      subst hb ha
      have hc:c=false:=h4 rfl
      subst hc
      refine⟨_,_,h1,by simp[Instr.sliceAt,Instr.slice,run_underlying ht,h6,hsz];rfl,by simp[VRel]⟩
    | some mv=>
      exfalso
      unfold Zg at h
      split at h
      ·obtain⟨_,h⟩:=Z4 h
       obtain⟨_,h⟩:=Z4 h
       simp at h
      ·cases h
   case rowA k=>
    simp only[VRel] at hu
    obtain⟨a,len,cap,sz,A0,hk,rfl,hA0⟩:=hu
    have hkn:k < nx:=by
     by_cases hlt:k < nx
     ·exact hlt
     ·rw[hi.top k (by omega)] at hk;cases hk
    have ho:=hi.obj k hkn
    rw[hk] at ho
    obtain⟨τ,ys,h3,h4,h5,h6,h7,h8⟩:=Jl ho
    rw[h3] at h
    simp only at h
    split at h
    ·rename_i hszτ
     rw[←h5] at h
     split at h
     ·rename_i lo' hi2 mx' _
      cases l<;>cases h'<;>cases m<;>simp only[Ui] at rl rh rm
      unfold X0o at h
      split at h
      ·rename_i lv hv mv hl1 hh1 hm1
       obtain⟨kl,rfl⟩:=Qg hl1 rl
       obtain⟨kh,rfl⟩:=Qg hh1 rh
       obtain⟨km,rfl⟩:=Qg hm1 rm
       obtain⟨q1,h⟩:=Z4 h
       obtain⟨q2,h⟩:=Z4 h
       obtain⟨q3,h⟩:=Z4 h
       simp only[Bool.and_eq_true,decide_eq_true_eq] at q1 q2 q3
       have b1:=fun code=>bound_run (P:=P) (w:=w) (k:=km) (i:=mv) (y:=cap) (by omega) code
       have b2:=fun code=>bound_run (P:=P) (w:=w) (k:=kh) (i:=hv) (y:=mv.toNat) (by omega) code
       have b3:=fun code=>bound_run (P:=P) (w:=w) (k:=kl) (i:=lv) (y:=hv.toNat) (by omega) code
       have hb:(Instr.sliceBounds true len cap (some (.int kl lv)) (some (.int kh hv)) (some (.int km mv))).run P w=.ok (lv.toNat,hv.toNat,mv.toNat) w:=by
        simp only[Instr.sliceBounds,Sem.run_bind,Sem.run_pure,Result.andThen_ok,b1,b2,b3,if_true]
       exact⟨_,_,h,by simp[Instr.sliceAt,Instr.slice,run_underlying ht,hb,hsz];rfl,by simp only[VRel]⟩
      ·cases h
     ·obtain⟨i,j,c,g1,g2,g3,g4,g5,g6⟩:=Zw (P:=P) true h6 h rl rh rm
      refine⟨_,_,g1,by simp[Instr.sliceAt,Instr.slice,run_underlying ht,g6,hsz];rfl,?_⟩
      simp only[VRel]
      refine⟨a,len,cap,sz,_,_,hk,by omega,?_,rfl,fun hne=>?_⟩
      ·cases c<;>simp
      ·have hmne:¬ ((if c=true then j else cap)=i):=by omega
       rw[if_neg hmne]
       rw[hA0 (by intro h0;apply hne;split<;>omega)]
       cases a with
       | none=>have:=h7 rfl;exfalso;apply hne;split<;>omega
       | some bo=>
         obtain⟨b,o⟩:=bo
         refine⟨b,o,rfl,?_⟩
         simp only[Qt,Option.map_some,Vb]
         rw[h4,hszτ]
    ·cases h
   case rowS k off len0 cp=>
    cases cp<;>simp only at h<;>try cases h
    simp only[VRel] at hu
    obtain⟨a,len,cap,sz,A,cap',hk,hle,hcap',rfl,hA'⟩:=hu
    have hkn:k < nx:=by
     by_cases hlt:k < nx
     ·exact hlt
     ·rw[hi.top k (by omega)] at hk;cases hk
    have ho:=hi.obj k hkn
    rw[hk] at ho
    obtain⟨τ,ys,h3,h4,h5,h6,h7,h8⟩:=Jl ho
    rw[h3] at h
    simp only at h
    simp only[Bool.false_eq_true,if_false] at hcap'
    split at h
    ·rename_i hszτ
     have key:∀ (n0:Nat),n0≤cap'→off+n0≤len→Zg lo hi' mx n0 (fun l h c=>K (.val (.rowS k (off+l) (h - l) c)))=some r→(n0=len0∨(∃ v,l=some v)∧(∃ v,h'=some v)∧m=none)→
         ∃ z q,K (.val z)=some r∧(Instr.sliceAt t (.slice A len0 cap') l h' m).run P w=.ok q w∧VRel μ F w z q:=fun n0 hc1 hc2 h hor=>by
      obtain⟨i,j,c,g1,g2,g3,g4,g5,g6⟩:=Zw (P:=P) true hc1 h rl rh rm
      have g6:(Instr.sliceBounds true len0 cap' l h' m).run P w=.ok (i,j,if c then j else cap') w:=by
       rcases hor with rfl | ⟨⟨v1,rfl⟩,⟨v2,rfl⟩,rfl⟩
       ·exact g6
       ·rw[←g6]
        rfl
      refine⟨_,_,g1,by simp[Instr.sliceAt,Instr.slice,run_underlying ht,g6,hsz];rfl,?_⟩
      simp only[VRel]
      refine⟨a,len,cap,sz,_,_,hk,by omega,?_,rfl,fun hne=>?_⟩
      ·cases c<;>simp
       omega
      ·have hmne:¬ ((if c=true then j else cap')=i):=by omega
       rw[if_neg hmne]
       obtain⟨b,o,rfl,rfl⟩:=hA' (by intro h0;apply hne;split<;>omega)
       refine⟨b,o,rfl,?_⟩
       simp only[Option.map_some,Vb]
       rw[h4,hszτ,Nat.add_mul,Nat.add_assoc]
     have hnar:Zg lo hi' mx len0 (fun l h c=>K (.val (.rowS k (off+l) (h - l) c)))=some r→_:=fun h=>key len0 (by omega) hle h (.inl rfl)
     split at h
     ·refine key _ ?_ ?_ h (.inr ?_)
      ·rw[←h5];omega
      ·rw[←h5];omega
      ·cases l<;>cases h'<;>cases m<;>simp only[Ui] at rl rh rm
       exact⟨⟨_,rfl⟩,⟨_,rfl⟩,rfl⟩
     ·exact hnar h
    ·cases h
 ·cases h
theorem Q0w {P:Program} {T:Tab} (hT:U2 P T) {s f d t:Nat} (h:U0a T s f=some (d,t)):∃ fields fl,P.underlying s=some (.struct fields)∧fields[f]?=some fl∧fl.offset=d∧fl.type=t:=by
 unfold U0a at h
 split at h
 ·rename_i fs hd
  have ht:=Q2 hT hd (by simp)
  simp only[Q3] at ht
  obtain⟨fields,ht,rfl,_⟩:=ht
  rw[List.getElem?_map] at h
  cases hf:fields.toList[f]? with
  | none=>rw[hf] at h;cases h
  | some fl=>
    rw[hf] at h
    cases h
    exact⟨fields,fl,ht,by simpa using hf,rfl,rfl⟩
 ·cases h
theorem J1d {P:Program} {T:Tab} (hT:U2 P T) {μ:Nat→Pl} {F:Nat→Prop} {w:World} {s f:Nat} {p x:AV} {u:Value}
    (h:X0h T s p f=some x) (hu:VRel μ F w p u):∃ q,(Instr.fieldAt s u f).run P w=.ok q w∧VRel μ F w x q:=by
 unfold X0h at h
 split at h
 ·cases h
 ·rename_i d t hf
  obtain⟨fields,fl,h1,h2,h3,h4⟩:=Q0w hT hf
  split at h
  ·rename_i n hn
   split at h
   ·cases h
   ·rename_i hn0
    have key:∀ b o,(Instr.fieldAt s (.pointer (some ⟨b,o,none⟩)) f).run P w=.ok (.pointer (some ⟨b,o+d,none⟩)) w:=by
     intro b o
     subst h3 h4
     simp[Instr.fieldAt,run_underlying h1,h2,Instr.sureAddr,fieldPlace,Jb hT hn,hn0,Vb]
    cases p<;>simp only[Option.some.injEq,reduceCtorEq] at h<;>subst h
    case ptr k off=>
     simp only[VRel] at hu
     obtain⟨b,hb,rfl⟩:=hu
     exact⟨_,key b off,by simp[VRel,hb]⟩
    case rptr k t' i off=>
     simp only[VRel] at hu
     obtain⟨b,o,len,cap,hb,hi,rfl⟩:=hu
     refine⟨_,key b _,?_⟩
     simp only[VRel]
     exact⟨b,o,len,cap,hb,hi,by rw[Nat.add_assoc]⟩
    case lptr t' xs i off=>
     simp only[VRel] at hu
     obtain⟨b,o,hF,hl,hi,rfl⟩:=hu
     refine⟨_,key b _,?_⟩
     simp only[VRel]
     exact⟨b,o,hF,hl,hi,by rw[Nat.add_assoc]⟩
  ·cases h
theorem Q2u {P:Program} {T:Tab} (hT:U2 P T) {μ:Nat→Pl} {F:Nat→Prop} {w:World} {s f d t:Nat} {cs:List AV} {x:AV} {u:Value}
    (hf:U0a T s f=some (d,t)) (h:Vs T t cs d=some x) (hu:VRel μ F w (.agg cs) u):∃ q,(Instr.field s u f).run P w=.ok q w∧VRel μ F w x q:=by
 obtain⟨fields,fl,h1,h2,h3,h4⟩:=Q0w hT hf
 simp only[VRel] at hu
 obtain⟨us,rfl,h5,h6⟩:=hu
 obtain⟨q,e1,e2⟩:=X08 hT h h5 h6 w
 refine⟨q,?_,e2⟩
 subst h3 h4
 simp[Instr.field,run_underlying h1,h2,asAgg,e1]
theorem J30 {P:Program} {μ:Nat→Pl} {F:Nat→Prop} {w:World} {op:UnOp} {x z:AV} {u:Value} (h:X34 op x=some z) (hu:VRel μ F w x u) :
    ∃ q,(Op.unary op u).run P w=.ok q w∧VRel μ F w z q:=by
 unfold X34 at h
 split at h<;>(try cases h)<;>simp only[VRel] at hu<;>subst hu
 ·exact⟨_,by simp[Op.unary];rfl,by simp[VRel]⟩
 ·exact⟨_,by simp[Op.unary,Op.intArith];rfl,by simp[VRel]⟩
 ·exact⟨_,by simp[Op.unary,Op.intBits];rfl,by simp[VRel]⟩
theorem U0r:∀ (vs us:List Value) (off:Nat),off+vs.length≤us.length→
    (vs.zipIdx.foldl (fun cs (c,j)=>cs.setIfInBounds (off+j) c) us.toArray)=(us.take off++vs++us.drop (off+vs.length)).toArray:=by
 intro vs
 have gen:∀ (vs us:List Value) (off k:Nat),off+k+vs.length≤us.length→
     ((vs.zipIdx k).foldl (fun cs (c,j)=>cs.setIfInBounds (off+j) c) us.toArray)=(us.take (off+k)++vs++us.drop (off+k+vs.length)).toArray:=by
  intro vs
  induction vs with
  | nil=>intro us off k _;simp
  | cons v vs ih=>
    intro us off k h
    simp only[List.length_cons] at h
    simp only[List.zipIdx_cons,List.foldl_cons,List.setIfInBounds_toArray]
    rw[ih _ off (k+1) (by simp;omega)]
    have ho:off+k < us.length:=by omega
    have ht:(us.take (off+k)).length=off+k:=by simp;omega
    rw[←Nat.add_assoc off k 1,List.take_set,List.drop_set_of_lt (by omega),List.take_succ_eq_append_getElem ho,List.set_append_right _ _ (by omega),ht,Nat.sub_self]
    simp only[List.set_cons_zero,List.append_assoc,List.length_cons,List.cons_append,List.nil_append]
    rw[show off+k+1+vs.length=off+k+(vs.length+1) by omega]
 intro us off h
 simpa using gen vs us off 0 (by omega)
theorem X0s {μ:Nat→Pl} {F:Nat→Prop} {w:World} {pl:Nat→Option (Nat×Nat)}:∀ (ps:List (Nat×AV)) (qs:List (Nat×Value)) (cs ds:List AV) (us:List Value),
    qs.length=ps.length→(∀ (i:Nat) (p:Nat×AV) (q:Nat×Value),ps[i]?=some p→qs[i]?=some q→q.1=p.1∧VRel μ F w p.2 q.2)→
    V1i pl cs ps=some ds→U0 μ F w cs us→(∀ u∈us,u.oneCell'=true)→
    ∃ vs,Instr.fill pl us.toArray qs=some vs.toArray∧U0 μ F w ds vs∧(∀ u∈vs,u.oneCell'=true)
 | [],qs,cs,ds,us,hl,_,h,hu,h1=>by
   have:qs=[]:=List.length_eq_zero_iff.1 hl
   subst this
   simp only[V1i,Option.some.injEq] at h
   subst h
   exact⟨us,by simp[Instr.fill],hu,h1⟩
 | (i,x)::ps,[],_,_,_,hl,_,_,_,_=>by simp at hl
 | (i,x)::ps,(j,v)::qs,cs,ds,us,hl,hr,h,hu,h1=>by
   obtain⟨hj,hx⟩:=hr 0 (i,x) (j,v) rfl rfl
   simp only at hj hx
   subst hj
   simp only[V1i] at h
   split at h
   ·rename_i off size vs hp hvs
    split at h
    ·rename_i hs
     obtain⟨hs1,hs2⟩:=hs
     obtain⟨hv,hv1⟩:=X0c hvs hx
     have hlen:=Xb hv
     have hul:=Xb hu
     obtain⟨zs,z1,z2,z3⟩:=X0s ps qs _ ds _ (by simpa using hl) (fun i p q hp hq=>hr (i+1) p q (by simpa using hp) (by simpa using hq)) h (J0j hu hv off) (fun u hm=>by
      simp only[List.mem_append] at hm
      rcases hm with (hm | hm) | hm
      ·exact h1 u (List.mem_of_mem_take hm)
      ·exact hv1 u hm
      ·exact h1 u (List.mem_of_mem_drop hm))
     refine⟨zs,?_,z2,z3⟩
     have hsz:v.cells.size=size:=by rw[←hs1,←hlen];simp
     have hnot:¬ ((v.cells.size≠size||decide (off+v.cells.size > us.toArray.size))=true):=by
      simp[hsz];omega
     simp only[Instr.fill,hp,if_neg hnot]
     have:=U0r v.cells.toList us off (by simp;omega)
     rw[←z1,←this]
     congr 1
     rw[←Array.foldl_toList,Array.toList_zipIdx]
    ·cases h
   ·cases h
def Outc (P:Program) (c:Cx) (st:St) (a:Act) (w:World) (s:Sem Value) (f:Eff):Prop:=
 ∃ v w' μ' F',s.run P w=.ok v w'∧Inv c (st.apply f).2 a w' μ' F'∧VRel μ' F' w' (st.apply f).1 v
theorem U3 {P:Program} {c:Cx} {st:St} {a:Act} {w:World} {μ:Nat→Pl} {F:Nat→Prop} {s:Sem Value} {x:AV} {v:Value} (hi:Inv c st a w μ F)
    (h:s.run P w=.ok v w) (hv:VRel μ F w x v):Outc P c st a w s (.val x):=⟨v,w,μ,F,h,hi,hv⟩
theorem Xj (w:World) (o:Obj):Grew w (w.alloc o):=Grew.push w o
theorem Jr (w:World) (o:Obj):(w.alloc o).heap[w.heap.size]?=some o:=by simp[World.alloc,-World.alloc_eq]
theorem J0l {c:Cx} {st:St} {a:Act} {w w':World} {μ:Nat→Pl} {F:Nat→Prop} (hi:Inv c st a w μ F) (hg:Grew w w') {τ:Ty} {xs:List τ.den} {us:List Value} {E:TypeId} {fz:Nat×Nat} {cap:Nat}
    (hsz:w.heap.size < w'.heap.size) (hb:w'.heap[w.heap.size]?=some (.cells us.toArray E fz)) (hfz:∀ i,i < us.length→¬ (fz.1≤i∧i < fz.2)) (hcap:xs.length≤cap) (hfit:cap * τ.sz≤us.length)
    (hel:∀ (i:Nat) (x:τ.den),xs[i]?=some x→∃ vs,Enc F w' τ x vs∧vs.length=τ.sz∧∀ (j:Nat) (u:Value),vs[j]?=some u→us[i * τ.sz+j]?=some u) (hby:X0j τ E) :
    Inv c (st.news [.row τ xs]) a w' (Zb μ st.nx [.row (some (w.heap.size,0)) xs.length cap τ.sz]) F ∧
     VRel (Zb μ st.nx [.row (some (w.heap.size,0)) xs.length cap τ.sz]) F w' (.rowA st.nx) (.slice (some ⟨w.heap.size,0,none⟩) xs.length cap):=by
 refine⟨Vi hi hg _ _ rfl ?_ ?_ ?_,?_⟩
 ·intro i o p ho hp
  cases i with
  | zero=>
    simp at ho hp
    subst ho hp
    simp only[ORel]
    refine⟨trivial,trivial,hcap,(fun h=>by cases h),fun b o hbo _=>?_⟩
    cases hbo
    refine⟨us,E,fz,hb,hfz,by omega,fun i x hx=>?_,hby⟩
    obtain⟨vs,e1,e2,e3⟩:=hel i x hx
    exact⟨vs,e1,e2,fun j u hj=>by rw[Nat.zero_add];exact e3 j u hj⟩
  | succ i=>simp at ho
 ·intro i p b hp hpo
  cases i with
  | zero=>
    simp at hp
    subst hp
    simp only[Pl.own] at hpo
    obtain⟨_,rfl⟩:=hpo
    exact⟨Nat.le_refl _,hsz⟩
  | succ i=>simp at hp
 ·intro i j p q b hp hq _ _
  cases i<;>cases j<;>simp at hp hq<;>rfl
 ·simp only[VRel]
  have:=Z9 (μ:=μ) (nx:=st.nx) (ps:=[.row (some (w.heap.size,0)) xs.length cap τ.sz]) 0
  refine⟨some (w.heap.size,0),xs.length,cap,τ.sz,_,by simpa using this,rfl,fun _=>rfl⟩
theorem U1a {c:Cx} {st:St} {a:Act} {w:World} {μ:Nat→Pl} {F:Nat→Prop} (hi:Inv c st a w μ F) (τ:Ty) (A:Option Addr) :
    Inv c (st.news [.row τ []]) a w (Zb μ st.nx [.row none 0 0 τ.sz]) F∧VRel (Zb μ st.nx [.row none 0 0 τ.sz]) F w (.rowA st.nx) (.slice A 0 0):=by
 refine⟨Vi hi (Grew.refl w) _ _ rfl ?_ ?_ ?_,?_⟩
 ·intro i o p ho hp
  cases i with
  | zero=>
    simp at ho hp
    subst ho hp
    simp only[ORel]
    exact⟨trivial,rfl,Nat.le_refl _,fun _=>trivial,(fun b o hbo _=>by cases hbo)⟩
  | succ i=>simp at ho
 ·intro i p b hp hpo
  cases i with
  | zero=>simp at hp;subst hp;simp[Pl.own] at hpo
  | succ i=>simp at hp
 ·intro i j p q b hp hq _ _
  cases i<;>cases j<;>simp at hp hq<;>rfl
 ·simp only[VRel]
  have:=Z9 (μ:=μ) (nx:=st.nx) (ps:=[.row none 0 0 τ.sz]) 0
  exact⟨none,0,0,τ.sz,A,by simpa using this,rfl,fun h=>absurd rfl h⟩
theorem Z07:∀ (cs:List AV) (ts:List (Option Ty)) (n:Nat),∃ ps:List Pl,ps.length=(Q9 cs ts n).2.length ∧
    (∀ (i:Nat) (o:LObj) (p:Pl),(Q9 cs ts n).2[i]?=some o→ps[i]?=some p→∃ τ:Ty,o=.row τ []∧p=.row none 0 0 τ.sz) ∧
    ∀ (μ μ':Nat→Pl) (F:Nat→Prop) (w:World) (us:List Value),(∀ k∈AV.refsL cs,μ' k=μ k)→(∀ (i:Nat) (p:Pl),ps[i]?=some p→μ' (n+i)=p)→U0 μ F w cs us→U0 μ' F w (Q9 cs ts n).1 us
 | [],ts,n=>⟨[],by cases ts<;>simp[Q9],by simp,fun μ μ' F w us _ _ h=>by cases ts<;>simpa[Q9,U0] using h⟩
 | c::cs,[],n=>by
   refine⟨[],by cases c<;>simp[Q9],by simp,fun μ μ' F w us hr _ h=>?_⟩
   have:(Q9 (c::cs) [] n).1=c::cs:=by cases c<;>simp[Q9]
   rw[this]
   exact Ua (fun _ h=>h) (fun _ _=>rfl) hr h
 | c::cs,t::ts,n=>by
   have plain:(Q9 (c::cs) (t::ts) n).1=c::(Q9 cs ts n).1→(Q9 (c::cs) (t::ts) n).2=(Q9 cs ts n).2→∃ ps:List Pl,ps.length=(Q9 (c::cs) (t::ts) n).2.length ∧
       (∀ (i:Nat) (o:LObj) (p:Pl),(Q9 (c::cs) (t::ts) n).2[i]?=some o→ps[i]?=some p→∃ τ:Ty,o=.row τ []∧p=.row none 0 0 τ.sz) ∧
       ∀ (μ μ':Nat→Pl) (F:Nat→Prop) (w:World) (us:List Value),(∀ k∈AV.refsL (c::cs),μ' k=μ k)→(∀ (i:Nat) (p:Pl),ps[i]?=some p→μ' (n+i)=p)→U0 μ F w (c::cs) us→U0 μ' F w (Q9 (c::cs) (t::ts) n).1 us:=by
    intro h1 h2
    obtain⟨ps,e1,e2,e3⟩:=Z07 cs ts n
    refine⟨ps,by rw[h2];exact e1,by rw[h2];exact e2,fun μ μ' F w us hr hp h=>?_⟩
    rw[h1]
    simp only[U0] at h ⊢
    obtain⟨u,us,rfl,g1,g2⟩:=h
    exact⟨u,us,rfl,Uk (fun _ h=>h) (fun _ _=>rfl) (fun k hk=>hr k (by simp[AV.refsL,hk])) g1,e3 μ μ' F w us (fun k hk=>hr k (by simp[AV.refsL,hk])) hp g2⟩
   cases c<;>try exact plain (by simp[Q9]) (by simp[Q9])
   cases t with
   | none=>exact plain (by simp[Q9]) (by simp[Q9])
   | some τ=>
     obtain⟨ps,e1,e2,e3⟩:=Z07 cs ts (n+1)
     refine⟨.row none 0 0 τ.sz::ps,by simp[Q9,e1],fun i o p ho hp=>?_,fun μ μ' F w us hr hp h=>?_⟩
     ·cases i with
      | zero=>simp[Q9] at ho hp;exact⟨τ,ho.symm,hp.symm⟩
      | succ i=>simp[Q9] at ho hp;exact e2 i o p ho hp
     ·simp only[Q9,U0] at h ⊢
      obtain⟨u,us,rfl,g1,g2⟩:=h
      refine⟨u,us,rfl,?_,e3 μ μ' F w us (fun k hk=>hr k (by simp[AV.refsL,hk])) (fun i p hi=>by have:=hp (i+1) p (by simpa using hi);rw[←this];congr 1;omega) g2⟩
      simp only[VRel] at g1 ⊢
      subst g1
      exact⟨none,0,0,τ.sz,none,hp 0 _ rfl,rfl,fun h=>absurd rfl h⟩
theorem Z21 {T:Tab} {t:Nat}:Q46 (V2o T t) t:=fun n h=>by
 unfold V2o at h
 split at h
 ·exact Option.some.inj h
 ·cases h
theorem V29 {P:Program} {T:Tab} {c:Cx} {st:St} {a:Act} {w:World} {μ:Nat→Pl} {F:Nat→Prop} (hi:Inv c st a w μ F) {t:Nat} {cs:List AV} {u:Value} {f:Eff}
    (h:boxE T st.nx t cs=some f) (hu:U0 μ F w cs u.cells.toList) (h1:∀ x∈u.cells.toList,x.oneCell'=true):Outc P c st a w (Instr.box t u) f:=by
 unfold boxE at h
 split at h
 ·rename_i r hr
  cases h
  obtain⟨ps,e1,e2,e3⟩:=Z07 cs r.cty (st.nx+1)
  have hg:=Xj w (.cells u.cells t)
  have hbox:=Jr w (.cells u.cells t)
  have hsz:(w.alloc (.cells u.cells t)).heap.size=w.heap.size+1:=by simp
  have hnew:∀ (i:Nat),Zb μ st.nx (.box w.heap.size::ps) (st.nx+i)=((.box w.heap.size::ps)[i]?).getD .none:=fun i=>Z9 i
  have hFw:∀ b,F b→(w.alloc (.cells u.cells t)).heap[b]?=w.heap[b]?:=fun b hb=>hg.block b (hi.h.inn b hb)
  have hnotbox:∀ (i:Nat) (p:Pl),ps[i]?=some p→∀ b,¬ p.own b:=fun i p hp b hb=>by
   have hlt:i < ps.length:=by obtain⟨h2,_⟩:=List.getElem?_eq_some_iff.1 hp;exact h2
   obtain⟨τ,_,rfl⟩:=e2 i _ p (List.getElem?_eq_getElem (by omega)) hp
   exact hb
  refine⟨.pointer (some ⟨w.heap.size,0,none⟩),w.alloc (.cells u.cells t),Zb μ st.nx (.box w.heap.size::ps),F,by simp[Instr.box,newVar,newRow],?_,?_⟩
  ·refine Vi hi hg _ _ (by simp[e1]) ?_ ?_ ?_
   ·intro i o p ho hp
    cases i with
    | zero=>
      simp at ho hp
      subst ho hp
      simp only[ORel]
      refine⟨u.cells.toList,t,(0,0),by simpa using hbox,by simp,?_,h1,Z21⟩
      have h2:=Ua (μ':=Zb μ st.nx (.box w.heap.size::ps)) (F':=F) (w':=w.alloc (.cells u.cells t)) (fun _ h=>h) hFw (fun k hk=>Vk hi.h.top (J6 hu k hk)) hu
      refine e3 _ _ F _ _ (fun _ _=>rfl) (fun i p hp=>?_) h2
      have:=hnew (i+1)
      rw[show st.nx+1+i=st.nx+(i+1) by omega,this]
      simp[hp]
    | succ i=>
      simp at ho hp
      obtain⟨τ,rfl,rfl⟩:=e2 i o p ho hp
      simp only[ORel]
      exact⟨trivial,rfl,Nat.le_refl _,fun _=>trivial,(fun b o hbo _=>by cases hbo)⟩
   ·intro i p b hp hpo
    cases i with
    | zero=>simp at hp;subst hp;simp[Pl.own] at hpo;subst hpo;exact⟨Nat.le_refl _,by omega⟩
    | succ i=>simp at hp;exact absurd hpo (hnotbox i p hp b)
   ·intro i j p q b hp hq hpo hqo
    cases i with
    | zero=>
      cases j with
      | zero=>rfl
      | succ j=>simp at hq;exact absurd hqo (hnotbox j q hq b)
    | succ i=>simp at hp;exact absurd hpo (hnotbox i p hp b)
  ·simp only[St.apply,VRel]
   have:=hnew 0
   exact⟨w.heap.size,by simpa using this,rfl⟩
 ·cases h
theorem J2e {P:Program} {T:Tab} (hT:U2 P T) {c:Cx} {st:St} {a:Act} {w:World} {μ:Nat→Pl} {F:Nat→Prop} (hi:Inv c st a w μ F) {t:Nat} {r:Row} {f:Eff}
    (hr:T.row t=some r) (h:boxE T st.nx t r.zero=some f) (old:Value):Outc P c st a w (Instr.alloc t true old) f:=by
 obtain⟨i,z,e1,e2,e3,e4,e5,e6,e7,e8⟩:=(hT t r hr).info
 obtain⟨v,w',μ',F',g1,g2,g3⟩:=V29 (P:=P) hi h (e6 μ F w) e7
 refine⟨v,w',μ',F',?_,g2,g3⟩
 rw[←g1]
 simp[Instr.alloc,zeroValue,typeInfo,e1,e4,Instr.box]
theorem X2c {P:Program} {T:Tab} (hT:U2 P T) {c:Cx} {st:St} {a:Act} {w:World} {μ:Nat→Pl} {F:Nat→Prop} (hi:Inv c st a w μ F) {t k:Nat} {ob:LObj}
    (hf:J0q T t=some ob) (hk:k < st.nx) (hgone:st.hp k=.gone) (old:Value):Outc P c st a w (Instr.alloc t true old) (.upd k ob (.ptr k 0)):=by
 unfold J0q at hf
 split at hf
 ·rename_i r hr
  cases hs:AV.solidL r.zero with
  | false=>rw[hs] at hf;cases hf
  | true=>
    rw[hs,cond_true] at hf
    cases hf
    obtain⟨i,z,e1,e2,e3,e4,e5,e6,e7,e8⟩:=(hT t r hr).info
    refine⟨.pointer (some ⟨w.heap.size,0,none⟩),w.alloc (.cells z.cells t),Vc μ k (.box w.heap.size),F,by simp[Instr.alloc,zeroValue,typeInfo,e1,e4,Instr.box,newVar,newRow],?_,?_⟩
    ·refine Q39 hi hk hgone (Xj w (.cells z.cells t)) (Nat.le_refl _) (by simp) ?_
     simp only[ORel]
     exact⟨z.cells.toList,t,(0,0),by simpa using Jr w (.cells z.cells t),by simp,e6 _ F _,e7,Z21⟩
    ·simp only[St.apply,VRel]
     exact⟨w.heap.size,U9 _ _ _,rfl⟩
 ·cases hf
theorem J1m (hp:Nat→LObj):∀ (ks:List Nat),(V1 hp ks).length≤ks.length
 | []=>by simp[V1]
 | k::ks=>by
   have:=J1m hp ks
   simp only[V1]
   split<;>simp<;>omega
theorem Z1c {hp:Nat→LObj}:∀ (ks:List Nat),(V1 hp ks).length=ks.length→∀ k∈ks,∃ t xs,hp k=.row t xs
 | [],_=>by simp
 | k::ks,h=>by
   have hle:=J1m hp ks
   simp only[V1] at h
   split at h
   ·rename_i t xs hk
    intro j hj
    rcases List.mem_cons.1 hj with rfl | hj
    ·exact⟨t,xs,hk⟩
    ·exact Z1c ks (by simpa using h) j hj
   ·simp at h;omega
theorem Z02 {k:Nat}:∀ {cs:List AV},k∈AV.refsL cs→∃ x∈cs,k∈x.refs
 | [],h=>by simp[AV.refsL] at h
 | c::cs,h=>by
   simp only[AV.refsL,List.mem_append] at h
   rcases h with h | h
   ·exact⟨c,by simp,h⟩
   ·obtain⟨x,hx,hk⟩:=Z02 h
    exact⟨x,by simp[hx],hk⟩
theorem J0m {w:World} {hp:Nat→LObj} {nx:Nat} {μ:Nat→Pl} {F:Nat→Prop} (hi:HInv w hp nx μ F) (ks:List Nat) (h:(V1 hp ks).length=ks.length) (hr:∀ k∈ks,μ k≠.none) :
    (∀ k,ks.contains k=true→k < nx∧∃ al l cp sz,μ k=.row al l cp sz)∧True:=by
 refine⟨fun k hk=>?_,trivial⟩
 have hk':k∈ks:=by simpa using hk
 have hlt:k < nx:=by
  by_cases hlt:k < nx
  ·exact hlt
  ·exact absurd (hi.top k (by omega)) (hr k hk')
 obtain⟨t,xs,hrow⟩:=Z1c ks h k hk'
 have ho:=hi.obj k hlt
 rw[hrow] at ho
 cases hm:μ k<;>rw[hm] at ho<;>simp only[ORel] at ho
 exact⟨hlt,_,_,_,_,rfl⟩
mutual
theorem Q0p (hp:Nat→LObj):∀ (x:AV),x.frz hp []=x
 | .agg cs=>by simp only[AV.frz];rw[J0n hp cs]
 | .tup cs=>by simp only[AV.frz];rw[J0n hp cs]
 | .fn f cs=>by simp only[AV.frz];rw[J0n hp cs]
 | .rptr _ _ _ _=>by simp[AV.frz]
 | .rowA _=>by simp[AV.frz]
 | .rowS _ _ _ _=>by simp[AV.frz]
 | .int _ _=>by simp[AV.frz]
 | .bool _=>by simp[AV.frz]
 | .str _=>by simp[AV.frz]
 | .list _ _=>by simp[AV.frz]
 | .np=>by simp[AV.frz]
 | .nm=>by simp[AV.frz]
 | .nf=>by simp[AV.frz]
 | .ns=>by simp[AV.frz]
 | .ptr _ _=>by simp[AV.frz]
 | .lptr _ _ _ _=>by simp[AV.frz]
 | .mp _=>by simp[AV.frz]
 | .psl _ _=>by simp[AV.frz]
 | .undef=>by simp[AV.frz]
 | .dead=>by simp[AV.frz]
theorem J0n (hp:Nat→LObj):∀ (cs:List AV),AV.frzL hp [] cs=cs
 | []=>by simp[AV.frzL]
 | c::cs=>by simp only[AV.frzL];rw[Q0p hp c,J0n hp cs]
end
theorem J0z {c:Cx} {st:St} {a:Act} {w:World} {μ:Nat→Pl} {F:Nat→Prop} (hi:Inv c st a w μ F) {ks:List Nat} (hks:∀ k,ks.contains k=true→k < st.nx∧∃ al l cp sz,μ k=.row al l cp sz)
    {x:AV} {v:Value} (h:VRel μ F w x v):VRel (Jf μ ks) (frzF μ F ks) w (x.frz st.hp ks) v:=by
 have hμ:∀ j,ks.contains j=false→Jf μ ks j=μ j:=fun j hj=>by simp only[Jf,hj];rfl
 have hrow:∀ j,ks.contains j=true→∀ b,μ j≠.box b∧¬ (μ j).mapAt b:=fun j hj b=>by
  obtain⟨_,al,l,cp,sz,h⟩:=hks j hj
  rw[h];simp[Pl.mapAt]
 refine Z0b (fun b h=>.inl h) (fun k hk=>hi.h.obj k (hks k hk).1) (fun k b hk h=>.inr ⟨k,hk,h⟩) hμ (fun j b hj=>?_) (fun j b hj=>?_) h
 ·cases h:ks.contains j with
  | true=>exact absurd hj (hrow j h b).1
  | false=>rw[hμ j h];exact hj
 ·cases h:ks.contains j with
  | true=>exact absurd hj (hrow j h b).2
  | false=>rw[hμ j h];exact hj
theorem V1j {μ:Nat→Pl} {F:Nat→Prop} {w:World} {τ:Ty}:∀ (ps:List (Nat×AV)) (qs:List (Nat×Value)) (j:Nat) (xs:List τ.den) (us:List Value),
    qs.length=ps.length→(∀ (i:Nat) (p:Nat×AV) (q:Nat×Value),ps[i]?=some p→qs[i]?=some q→q.1=p.1∧VRel μ F w p.2 q.2)→
    Xy τ ps j=some xs→us.length=(j+ps.length) * τ.sz→
    ∃ news,EncL F w τ xs news∧Instr.fill (fun i=>some (i * τ.sz,τ.sz)) us.toArray qs=some (us.take (j * τ.sz)++news).toArray
 | [],qs,j,xs,us,hl,_,h,hu=>by
   have:qs=[]:=List.length_eq_zero_iff.1 hl
   subst this
   simp only[Xy,Option.some.injEq] at h
   subst h
   refine⟨[],by simp[EncL],?_⟩
   simp only[List.length_nil,Nat.add_zero] at hu
   simp[Instr.fill,←hu]
 | (i,x)::ps,[],_,_,_,hl,_,_,_=>by simp at hl
 | (i,x)::ps,(i',v)::qs,j,xs,us,hl,hr,h,hu=>by
   obtain⟨hj,hx⟩:=hr 0 (i,x) (i',v) rfl rfl
   simp only at hj hx
   subst hj
   simp only[Xy] at h
   split at h
   ·rename_i hij
    subst hij
    split at h
    ·rename_i y ys hy hys
     cases h
     have henc:=Q0n hy hx
     have hvl:=henc.len
     have hle:i' * τ.sz+τ.sz≤us.length:=by
      rw[hu,List.length_cons,Nat.add_mul]
      have:τ.sz≤(ps.length+1) * τ.sz:=by rw[Nat.add_mul];omega
      omega
     have hsz:v.cells.size=τ.sz:=by rw[←hvl];simp
     have hput:=U0r v.cells.toList us (i' * τ.sz) (by omega)
     obtain⟨news,n1,n2⟩:=V1j ps qs (i'+1) ys (us.take (i' * τ.sz)++v.cells.toList++us.drop (i' * τ.sz+v.cells.toList.length)) (by simpa using hl)
      (fun i p q hp hq=>hr (i+1) p q (by simpa using hp) (by simpa using hq)) hys (by
       simp only[List.length_append,List.length_take,List.length_drop,hvl,hu,List.length_cons]
       rw[hu,List.length_cons] at hle
       have:(i'+1+ps.length) * τ.sz=(i'+(ps.length+1)) * τ.sz:=by congr 1;omega
       omega)
     refine⟨v.cells.toList++news,by simp only[EncL];exact⟨_,_,rfl,henc,n1⟩,?_⟩
     have hnot:¬ ((v.cells.size≠τ.sz||decide (i' * τ.sz+v.cells.size > us.toArray.size))=true):=by
      simp[hsz];omega
     simp only[Instr.fill,if_neg hnot]
     have e:(v.cells.zipIdx.foldl (fun cs (c,j)=>cs.setIfInBounds (i' * τ.sz+j) c) us.toArray)=(us.take (i' * τ.sz)++v.cells.toList++us.drop (i' * τ.sz+v.cells.toList.length)).toArray:=by
      rw[←hput,←Array.foldl_toList,Array.toList_zipIdx]
     have hA:(us.take (i' * τ.sz)).length=i' * τ.sz:=by simp;omega
     have htake:(us.take (i' * τ.sz)++v.cells.toList++us.drop (i' * τ.sz+v.cells.toList.length)).take ((i'+1) * τ.sz)=us.take (i' * τ.sz)++v.cells.toList:=by
      rw[Nat.add_mul,Nat.one_mul,List.take_append_of_le_length (by rw[List.length_append,hA,hvl];exact Nat.le_refl _),List.take_of_length_le (by rw[List.length_append,hA,hvl];exact Nat.le_refl _)]
     rw[e,n2,htake,List.append_assoc]
    ·cases h
   ·cases h
theorem J13 (z:List Value) (n:Nat) (i j:Nat) (u:Value) (hz:z.length≠0) (hj:z[j]?=some u) (hi:i * z.length+j < n):((List.range n).map fun i=>z.toArray[i % z.toArray.size]!)[i * z.length+j]?=some u:=by
 have hjl:j < z.length:=by obtain⟨h,_⟩:=List.getElem?_eq_some_iff.1 hj;exact h
 rw[List.getElem?_map,List.getElem?_range hi]
 simp only[Option.map_some,List.size_toArray]
 have:(i * z.length+j) % z.length=j:=by rw[Nat.mul_comm,Nat.mul_add_mod,Nat.mod_eq_of_lt hjl]
 rw[this]
 simp[hj,List.getElem?_eq_getElem hjl] at hj ⊢
theorem V1b {μ:Nat→Pl} {F:Nat→Prop} {w:World}:∀ (ps:List (Nat×AV)) (qs:List (Nat×Value)) (j:Nat) (us:List Value),
    qs.length=ps.length→(∀ (i:Nat) (p:Nat×AV) (q:Nat×Value),ps[i]?=some p→qs[i]?=some q→q.1=p.1∧VRel μ F w p.2 q.2)→
    Z0o ps j=true→us.length=j+ps.length→
    U0 μ F w (ps.map (·.2)) (qs.map (·.2))∧(∀ u∈qs.map (·.2),u.oneCell'=true)∧Instr.fill (fun i=>some (i * 1,1)) us.toArray qs=some (us.take j++qs.map (·.2)).toArray
 | [],qs,j,us,hl,_,h,hu=>by
   have:qs=[]:=List.length_eq_zero_iff.1 hl
   subst this
   simp only[List.length_nil,Nat.add_zero] at hu
   exact⟨by simp[U0],by simp,by simp[Instr.fill,←hu]⟩
 | (i,x)::ps,[],_,_,hl,_,_,_=>by simp at hl
 | (i,x)::ps,(i',v)::qs,j,us,hl,hr,h,hu=>by
   obtain⟨hj,hx⟩:=hr 0 (i,x) (i',v) rfl rfl
   simp only at hj hx
   subst hj
   cases x<;>simp only[Z0o] at h<;>try cases h
   case ptr k off=>
    obtain⟨h1,h2⟩:=Bool.and_eq_true_iff.1 h
    have h1:=Nat.eq_of_beq_eq_true h1
    subst h1
    have hx':=hx
    simp only[VRel] at hx
    obtain⟨b,hb,rfl⟩:=hx
    have hle:i'+1≤us.length:=by rw[hu,List.length_cons];omega
    have hput:=U0r [Value.pointer (some ⟨b,off,none⟩)] us i' (by simpa using hle)
    obtain⟨g1,g2,g3⟩:=V1b ps qs (i'+1) (us.take i'++[Value.pointer (some ⟨b,off,none⟩)]++us.drop (i'+1)) (by simpa using hl)
     (fun i p q hp hq=>hr (i+1) p q (by simpa using hp) (by simpa using hq)) h2 (by
      rw[List.length_append,List.length_append,List.length_take,List.length_drop,List.length_singleton]
      have:us.length=i'+(ps.length+1):=hu
      omega)
    refine⟨by simp only[List.map_cons,U0];exact⟨_,_,rfl,hx',g1⟩,?_,?_⟩
    ·intro u hu
     rw[List.map_cons,List.mem_cons] at hu
     rcases hu with rfl | hu
     ·simp[Value.oneCell']
     ·exact g2 u hu
    ·have hcl:(Value.pointer (some ⟨b,off,none⟩)).cells=#[Value.pointer (some ⟨b,off,none⟩)]:=rfl
     have hnot:¬ (((Value.pointer (some ⟨b,off,none⟩)).cells.size≠1||decide (i' * 1+(Value.pointer (some ⟨b,off,none⟩)).cells.size > us.toArray.size))=true):=by
      show ¬ ((decide ((1:Nat)≠1)||decide (i' * 1+1 > us.length))=true)
      rw[decide_eq_false (by omega),decide_eq_false (by omega)]
      decide
     simp only[Instr.fill,if_neg hnot]
     have e:((Value.pointer (some ⟨b,off,none⟩)).cells.zipIdx.foldl (fun cs (c,j)=>cs.setIfInBounds (i' * 1+j) c) us.toArray)=(us.take i'++[Value.pointer (some ⟨b,off,none⟩)]++us.drop (i'+1)).toArray:=by
      rw[←Array.foldl_toList,Array.toList_zipIdx,hcl,Nat.mul_one]
      exact hput
     have hA:(us.take i').length=i':=by simp;omega
     have htake:(us.take i'++[Value.pointer (some ⟨b,off,none⟩)]++us.drop (i'+1)).take (i'+1)=us.take i'++[Value.pointer (some ⟨b,off,none⟩)]:=by
      rw[List.take_append_of_le_length (by rw[List.length_append,hA];exact Nat.le_refl _),List.take_of_length_le (by rw[List.length_append,hA];exact Nat.le_refl _)]
     rw[e,g3,htake,List.append_assoc]
     rfl
theorem U2t {c:Cx} {st:St} {a:Act} {w:World} {μ:Nat→Pl} {F:Nat→Prop} (hi:Inv c st a w μ F) {cs:List AV} {us:List Value} (e:TypeId) (hu:U0 μ F w cs us) (h1:∀ x∈us,x.oneCell'=true) :
    Inv c (st.news [.boxT none cs]) a (w.alloc (.cells us.toArray e)) (Zb μ st.nx [.box w.heap.size]) F∧Zb μ st.nx [.box w.heap.size] st.nx=.box w.heap.size:=by
 have hg:=Xj w (.cells us.toArray e)
 have hbox:=Jr w (.cells us.toArray e)
 have hsz:(w.alloc (.cells us.toArray e)).heap.size=w.heap.size+1:=by simp
 have hFw:∀ b,F b→(w.alloc (.cells us.toArray e)).heap[b]?=w.heap[b]?:=fun b hb=>hg.block b (hi.h.inn b hb)
 have hnew:∀ (i:Nat),Zb μ st.nx [.box w.heap.size] (st.nx+i)=(([.box w.heap.size]:List Pl)[i]?).getD .none:=fun i=>Z9 i
 refine⟨Vi hi hg _ _ (by simp) ?_ ?_ ?_,by have:=hnew 0;simpa using this⟩
 ·intro i o p ho hp
  cases i with
  | zero=>
    simp at ho hp
    subst ho hp
    simp only[ORel]
    exact⟨us,e,(0,0),by simpa using hbox,by simp,Ua (fun _ h=>h) hFw (fun k hk=>Vk hi.h.top (J6 hu k hk)) hu,h1,fun n hn=>by cases hn⟩
  | succ i=>simp at ho
 ·intro i p b hp hpo
  cases i with
  | zero=>simp at hp;subst hp;simp[Pl.own] at hpo;subst hpo;exact⟨Nat.le_refl _,by omega⟩
  | succ i=>simp at hp
 ·intro i j p q b hp hq hpo hqo
  cases i with
  | zero=>
    cases j with
    | zero=>rfl
    | succ j=>simp at hq
  | succ i=>simp at hp
theorem J06 {P:Program} {T:Tab} (hT:U2 P T) {R:Type} {K:Eff→Option R} {r:R} {c:Cx} {st:St} {a:Act} {w:World} {μ:Nat→Pl} {F:Nat→Prop} (hi:Inv c st a w μ F) {t len:Nat} {ps:List (Nat×AV)} {qs:List (Nat×Value)}
    (h:Z6 T st.hp st.nx t len ps K=some r) (hl:qs.length=ps.length)
    (hr:∀ (i:Nat) (p:Nat×AV) (q:Nat×Value),ps[i]?=some p→qs[i]?=some q→q.1=p.1∧VRel μ F w p.2 q.2) :
    ∃ f,K f=some r∧Outc P c st a w (Instr.buildSlice t len qs.toArray) f:=by
 unfold Z6 at h
 split at h
 ·rename_i e hd
  have ht:=Q2 hT hd (by simp)
  simp only[Q3] at ht
  split at h
  ·cases h
  ·rename_i row hrow
   split at h
   ·rename_i hτ
    cases hc:(Nat.beq row.size 1&&(Nat.beq ps.length len&&(Z0o ps 0&&(Nat.ble 1 len&&Nat.ble len 16777216)))) with
    | false=>rw[hc] at h;cases h
    | true=>
      rw[hc,cond_true] at h
      simp only[Bool.and_eq_true] at hc
      obtain⟨c1,c2,c3,c4,c5⟩:=hc
      have c1:=Nat.eq_of_beq_eq_true c1
      have c2:=Nat.eq_of_beq_eq_true c2
      have c4:=Nat.le_of_ble_eq_true c4
      have c5:=Nat.le_of_ble_eq_true c5
      obtain⟨i0,z,e1,e2,e3,e4,e5,e6,e7,e8⟩:=(hT e row hrow).info
      have hcl:((Array.range (len * row.size)).map (z.cells[· % z.cells.size]!)).toList=(List.range (len * row.size)).map fun i=>z.cells.toList.toArray[i % z.cells.toList.toArray.size]!:=by
       simp
      obtain⟨n1,n3,n2⟩:=V1b ps qs 0 ((List.range (len * row.size)).map fun i=>z.cells.toList.toArray[i % z.cells.toList.toArray.size]!) hl hr c3 (by simp[c1,c2])
      simp only[List.take_zero,List.nil_append] at n2
      have hrun:(Instr.buildSlice t len qs.toArray).run P w=.ok (.slice (some ⟨w.heap.size,0,none⟩) len len) (w.alloc (.cells (qs.map (·.2)).toArray e)):=
       run_buildSlice w t e len qs.toArray (qs.map (·.2)).toArray i0 z ht e1 e4 (by rw[e2,c1];omega) (by rw[e2,c1];omega) (by
        rw[e2]
        rw[←n2,c1]
        congr 1
        apply Array.ext'
        rw[←c1,hcl]
        )
      obtain⟨g1,g2⟩:=U2t hi e n1 n3
      refine⟨_,h,_,_,_,F,hrun,g1,?_⟩
      show VRel _ F _ (.psl st.nx len) _
      simp only[VRel]
      exact⟨_,g2,rfl⟩
   ·rename_i τ hτ
    split at h
    ·rename_i hcond
     obtain⟨hsz,hlen,hsmall⟩:=hcond
     obtain⟨i0,z,e1,e2,e3,e4,e5,e6,e7,e8⟩:=(hT e row hrow).info
     simp only at h
     split at h
     ·rename_i hrows
      have key:∀ (rs:List Nat) (st1:St) (μ1:Nat→Pl) (F1:Nat→Prop) (xs:List τ.den),Inv c st1 a w μ1 F1→st1.nx=st.nx→
          (∀ (i:Nat) (p:Nat×AV) (q:Nat×Value),(ps.map fun p=>(p.1,p.2.frz st.hp rs))[i]?=some p→qs[i]?=some q→q.1=p.1∧VRel μ1 F1 w p.2 q.2)→
          Xy τ (ps.map fun p=>(p.1,p.2.frz st.hp rs)) 0=some xs→
          ∃ v w' μ',(Instr.buildSlice t len qs.toArray).run P w=.ok v w'∧Inv c (st1.news [.row τ xs]) a w' μ' F1∧VRel μ' F1 w' (.rowA st.nx) v:=by
       intro rs st1 μ1 F1 xs hi1 hnx hr1 hxs
       have hcl:((Array.range (len * row.size)).map (z.cells[· % z.cells.size]!)).toList=(List.range (len * row.size)).map fun i=>z.cells.toList.toArray[i % z.cells.toList.toArray.size]!:=by
        simp
       obtain⟨news,n1,n2⟩:=V1j _ qs 0 xs ((List.range (len * row.size)).map fun i=>z.cells.toList.toArray[i % z.cells.toList.toArray.size]!) (by simp[hl]) hr1 hxs (by simp[hlen,hsz])
       simp only[Nat.zero_mul,List.take_zero,List.nil_append] at n2
       have hnl:=Qc n1
       have hxl:xs.length=len:=by
        have hg:∀ (ps:List (Nat×AV)) (j:Nat) (xs:List τ.den),Xy τ ps j=some xs→xs.length=ps.length:=by
         intro ps
         induction ps with
         | nil=>intro j xs h;simp[Xy] at h;subst h;rfl
         | cons p ps ih=>
           intro j xs h
           simp only[Xy] at h
           split at h
           ·split at h
            ·rename_i hq;cases h;simp[ih _ _ hq]
            ·cases h
           ·cases h
        have:=hg _ _ _ hxs
        simp at this
        omega
       have hgr:=Xj w (.cells news.toArray e)
       have hFw:∀ b,F1 b→(w.alloc (.cells news.toArray e)).heap[b]?=w.heap[b]?:=fun b hb=>hgr.block b (hi1.h.inn b hb)
       have hrun:(Instr.buildSlice t len qs.toArray).run P w=.ok (.slice (some ⟨w.heap.size,0,none⟩) len len) (w.alloc (.cells news.toArray e)):=by
        by_cases hpos:len * row.size=0
        ·have hnews:news=[]:=List.length_eq_zero_iff.1 (by rw[hnl,hxl,hsz];exact hpos)
         subst hnews
         have hf:Instr.fill (fun i=>some (i * row.size,row.size)) #[] qs=some #[]:=by
          rw[hpos] at n2
          simpa[hsz] using n2
         simp[Instr.buildSlice,run_underlying ht,sizeOf,typeInfo,e1,e2,hpos,newRow,hf,Array.range_zero']
        ·exact run_buildSlice w t e len qs.toArray news.toArray i0 z ht e1 e4 (by rw[e2];omega) (by rw[e2];exact hpos) (by
          rw[e2]
          rw[←n2,hsz]
          congr 1
          apply Array.ext'
          rw[hcl]
          )
       have:=J0l hi1 hgr (τ:=τ) (xs:=xs) (us:=news) (E:=e) (fz:=(0,0)) (cap:=len) (by simp) (Jr w _) (by simp) (by omega) (by rw[hnl,hxl];omega)
        (fun i x hx=>Xz (X1h (fun _ h=>h) hFw n1) i x hx) (fun hu=>(hT e row hrow).byte (.inl (by rw[hτ,hu])))
       rw[hxl] at this
       exact⟨_,_,_,hrun,this.1,by rw[←hnx];exact this.2⟩
      split at h
      ·rename_i xs hxs
       have hrs:∀ (i:Nat) (p:Nat×AV) (q:Nat×Value),ps[i]?=some p→qs[i]?=some q→q.1=p.1∧VRel μ F w p.2 q.2:=hr
       split at h
       ·rename_i hnil
        have hnofrz:∀ (x:AV),x.frz st.hp []=x:=fun x=>Q0p st.hp x
        obtain⟨v,w',μ',g1,g2,g3⟩:=key [] st μ F xs hi rfl (fun i p q hp hq=>by
         rw[List.getElem?_map] at hp
         cases hp0:ps[i]? with
         | none=>rw[hp0] at hp;cases hp
         | some p0=>
           rw[hp0] at hp
           cases hp
           simp only[hnofrz]
           exact hr i p0 q hp0 hq) (by rw[hnil] at hxs;exact hxs)
        exact⟨_,h,v,w',μ',F,g1,g2,g3⟩
       ·obtain⟨hks,hlt⟩:=J0m hi.h _ hrows (fun k hk=>by
         obtain⟨p,hp,hkp⟩:=Z02 hk
         obtain⟨q0,hq0,rfl⟩:=List.mem_map.1 hp
         obtain⟨i,hi1,hi2⟩:=List.getElem_of_mem hq0
         have hq:i < qs.length:=by omega
         exact Je (hr i q0 qs[i] (by rw[List.getElem?_eq_getElem hi1,hi2]) (List.getElem?_eq_getElem hq)).2 k hkp)
        have hi1:=U0c hi (ks:=AV.refsL (ps.map (·.2))) hks
        obtain⟨v,w',μ',g1,g2,g3⟩:=key _ _ _ _ xs hi1 rfl (fun i p q hp hq=>by
         rw[List.getElem?_map] at hp
         cases hp0:ps[i]? with
         | none=>rw[hp0] at hp;cases hp
         | some p0=>
           rw[hp0] at hp
           cases hp
           have:=hr i p0 q hp0 hq
           exact⟨this.1,J0z hi hks this.2⟩) hxs
        exact⟨_,h,v,w',μ',_,g1,g2,g3⟩
      ·cases h
     ·cases h
    ·cases h
 ·cases h
theorem Q1w {n b:Nat} (h:fits n b=true):n * b≤140737488355328∧n≤140737488355328:=by
 simp only[fits,Bool.and_eq_true] at h
 exact⟨of_decide_eq_true h.1,of_decide_eq_true h.2⟩
theorem Q17 {P:Program} {T:Tab} (hT:U2 P T) {R:Type} {K:Eff→Option R} {r:R} {c:Cx} {st:St} {a:Act} {w:World} {μ:Nat→Pl} {F:Nat→Prop} (hi:Inv c st a w μ F) {t:Nat} {x y:AV} {u v:Value}
    (h:Vg T st.nx t x y K=some r) (hu:VRel μ F w x u) (hv:VRel μ F w y v):∃ f,K f=some r∧Outc P c st a w (Instr.makeSlice t u v) f:=by
 unfold Vg at h
 split at h
 ·rename_i e hd
  have ht:=Q2 hT hd (by simp)
  simp only[Q3] at ht
  split at h
  ·cases h
  ·rename_i row hrow
   split at h
   ·rename_i τ l m hτ hx hy
    obtain⟨kl,rfl⟩:=Qg hx hu
    obtain⟨km,rfl⟩:=Qg hy hv
    split at h
    ·rename_i hsz
     obtain⟨hc,hK⟩:=Z4 h
     simp only[Bool.and_eq_true,decide_eq_true_eq,beq_iff_eq] at hc
     obtain⟨⟨h0,rfl⟩,hfit⟩:=hc
     obtain⟨hb1,hb2⟩:=Q1w hfit
     obtain⟨i0,z,e1,e2,e3,e4,e5,e6,e7,e8⟩:=(hT e row hrow).info
     have hbytes:(i0.bytes:Int) * l≤281474976710656:=by
      have h3:(row.bytes:Int) * l=((l.toNat * row.bytes:Nat):Int):=by
       rw[Int.natCast_mul,Int.toNat_of_nonneg h0,Int.mul_comm]
      rw[e3,h3]
      omega
     have hrun:=run_make (P:=P) w t e i0 z ht e1 e4 kl km l l h0 (Int.le_refl _) hbytes (by omega)
     rw[e2] at hrun
     have hlen:(madeCells z.cells (l.toNat * row.size)).toList.length=l.toNat * row.size:=by simp[size_madeCells]
     have:=J0l hi (Xj w (.cells (madeCells z.cells (l.toNat * row.size)) e)) (τ:=τ) (xs:=List.replicate l.toNat τ.dflt) (us:=(madeCells z.cells (l.toNat * row.size)).toList) (E:=e) (fz:=(0,0)) (cap:=l.toNat)
      (by rw[World.size_alloc];omega) (by simpa using Jr w (.cells (madeCells z.cells (l.toNat * row.size)) e)) (fun i _ h=>by simp at h) (by simp) (by rw[hlen,hsz];exact Nat.le_refl _) (fun i x hx=>by
       obtain⟨hil,hix⟩:=List.getElem?_eq_some_iff.1 hx
       simp at hil hix
       subst hix
       refine⟨z.cells.toList,e8 τ hτ F _,by simp[e5,hsz],fun j q hj=>?_⟩
       have hjl:j < z.cells.toList.length:=by obtain⟨h2,_⟩:=List.getElem?_eq_some_iff.1 hj;exact h2
       have hzl:z.cells.toList.length=τ.sz:=by simp[e5,hsz]
       have hlt:i * τ.sz+j < l.toNat * row.size:=by
        have:(i+1) * τ.sz≤l.toNat * τ.sz:=Nat.mul_le_mul_right _ (by omega)
        rw[Nat.add_mul,Nat.one_mul] at this
        rw[←hsz]
        omega
       have:=J13 z.cells.toList (l.toNat * row.size) i j q (by omega) hj (by rw[hzl];exact hlt)
       rw[hzl] at this
       simpa[madeCells] using this) (fun hu=>(hT e row hrow).byte (.inl (by rw[hτ,hu])))
     rw[List.length_replicate] at this
     exact⟨_,hK,_,_,_,F,hrun,this.1,this.2⟩
    ·cases h
   ·cases h
 ·cases h
theorem Q24 (xs:List Int):strOfNums xs=⟨(Us xs).toArray⟩:=by
 have:=strOfNums_data xs
 unfold Us
 rw[←this]
theorem U1x {P:Program} {T:Tab} (hT:U2 P T) {R:Type} {K:Eff→Option R} {r:R} {c:Cx} {st:St} {a:Act} {w:World} {μ:Nat→Pl} {F:Nat→Prop} (hi:Inv c st a w μ F) {src dst:Nat} {x:AV} {u:Value}
    (h:Jm T st.hp st.nx src dst x K=some r) (hu:VRel μ F w x u):∃ f,K f=some r∧Outc P c st a w (convert src dst u) f:=by
 unfold Jm at h
 split at h
 ·rename_i k0 k k1 n hs hd
  have hs:=Q2 hT hs (by simp)
  have hd:=Q2 hT hd (by simp)
  simp only[Q3] at hs hd
  simp only[VRel] at hu
  subst hu
  exact⟨_,h,U3 hi (by simp[convert,run_underlying hs,run_underlying hd,Conv.intToInt];rfl) (by simp[VRel])⟩
 ·rename_i s hs hd
  have hs:=Q2 hT hs (by simp)
  have hd:=Q2 hT hd (by simp)
  simp only[Q3] at hs hd
  simp only[VRel] at hu
  subst hu
  exact⟨_,h,U3 hi (by simp[convert,run_underlying hs,run_underlying hd];rfl) (by simp[VRel])⟩
 ·rename_i e s hs hd
  have hs:=Q2 hT hs (by simp)
  have hd:=Q2 hT hd (by simp)
  simp only[Q3] at hs hd
  split at h
  ·rename_i he
   have hby:e=5:=by
    obtain⟨r5,hr5,hd5⟩:=Z2a he (by simp)
    exact(hT e r5 hr5).byte (.inr hd5)
   have he:=Q2 hT he (by simp)
   simp only[Q3] at he
   simp only[VRel] at hu
   subst hu
   obtain⟨hfit,h⟩:=Z4 h
   have hrun:=Lib.run_convert_string_bytes (P:=P) w src dst e ⟨s.toArray⟩ hs hd he
   have hsize:(⟨s.toArray⟩:ByteArray).size=s.length:=by simp[ByteArray.size]
   rw[hsize] at hrun
   have hnew:=Lib.bytesWorld_at_new w e ⟨s.toArray⟩
   have hgr:Grew w (Lib.bytesWorld w e ⟨s.toArray⟩):=⟨rfl,rfl,rfl,by rw[Lib.bytesWorld_size];omega,fun b hb=>Lib.bytesWorld_at_old w e _ b hb⟩
   have hcells:(Lib.bytesCells w e ⟨s.toArray⟩).toList.length=grownCap w s.length 0 e:=by
    have:=grownCap_ge w s.length 0 e
    simp only[Lib.bytesCells]
    simp[hsize,ByteArray.size]
    unfold grownCap at this ⊢
    omega
   have hbl:(J4 s).length=s.length:=by simp[J4]
   have:=J0l hi hgr (τ:=.int .u8) (xs:=J4 s) (us:=(Lib.bytesCells w e ⟨s.toArray⟩).toList) (E:=e) (fz:=((Lib.bytesCells w e ⟨s.toArray⟩).size,(Lib.bytesCells w e ⟨s.toArray⟩).size+1)) (cap:=grownCap w s.length 0 e)
    (by rw[Lib.bytesWorld_size];omega) (by rw[hnew]) (fun i hi=>by simp at hi ⊢;omega) (by rw[hbl];exact grownCap_ge w _ _ e) (by rw[hcells];simp[Ty.sz]) (fun i y hy=>by
     have hil:i < s.length:=by obtain⟨h2,_⟩:=List.getElem?_eq_some_iff.1 hy;omega
     have hc:=Lib.bytesWorld_cell w e ⟨s.toArray⟩ i (by omega)
     simp only[World.cell?,hnew] at hc
     simp[J4,List.getElem?_eq_getElem hil] at hy
     subst hy
     refine⟨[.int .u8 (s[i].toNat:Int)],by simp[Enc],rfl,fun j q hj=>?_⟩
     cases j with
     | zero=>
       simp at hj
       subst hj
       simp[Ty.sz]
       simpa[List.getD,List.getElem?_eq_getElem hil] using hc
     | succ j=>simp at hj) (fun _=>hby)
   rw[hbl] at this
   exact⟨_,h,_,_,_,F,hrun,this.1,this.2⟩
  ·cases h
 ·rename_i e0 e hs hd
  have hs:=Q2 hT hs (by simp)
  have hd:=Q2 hT hd (by simp)
  simp only[Q3] at hs hd
  split at h
  ·rename_i he
   have he:=Q2 hT he (by simp)
   simp only[Q3] at he
   split at h
   ·rename_i xs hxs
    obtain⟨A,cap,rfl,h1,h2,h3⟩:=Qx hi.h hxs hu
    by_cases hne:xs=[]
    ·subst hne
     refine⟨_,h,U3 hi (v:=.string ⟨#[]⟩) ?_ (by simp[VRel,Us])⟩
     cases A with
     | none=>exact run_convert_bytes_nil (P:=P) w src e hs he _ _ dst hd
     | some ad=>
       have:=run_bytesToString (P:=P) w ad 0 cap [] (by simp[loadCells,loadCellsFrom])
       rw[run_convert_bytes_string w src dst e _ _ _ hs he hd]
       exact this
    ·obtain⟨b,o,rfl,hl⟩:=h3 hne
     refine⟨_,h,U3 hi (v:=.string ⟨(Us xs).toArray⟩) ?_ (by simp[VRel])⟩
     rw[←Q24]
     exact run_convert_bytes_arg (P:=P) w src e hs he b o xs.length cap xs rfl (fun i hi=>by
      obtain⟨us,u1,u2,u3⟩:=X1c hl hi
      simp only[Enc] at u1
      subst u1
      have:=u3 0 _ rfl
      simpa[Ty.sz,Ty.dflt] using this) dst hd
   ·cases h
  ·cases h
 ·cases h
theorem J2r {P:Program} {T:Tab} (hT:U2 P T) {w:World} {hp:Nat→LObj} {nx:Nat} {μ:Nat→Pl} {F:Nat→Prop} (hi:HInv w hp nx μ F) {τ:Ty} {x:AV} {ys:List τ.den} {u:Value} {tx:Nat}
    (h:Q1m hp τ x=some ys) (hu:VRel μ F w x u) (hk:Q1p T tx=true):∃ news,EncL F w τ ys news∧Src P τ.sz tx u ys.length news w:=by
 have hkind:(∃ e',P.underlying tx=some (.slice e'))∨P.underlying tx=some .string:=by
  unfold Q1p at hk
  split at hk
  ·rename_i e hd;exact .inl ⟨e,by have:=Q2 hT hd (by simp);simpa only[Q3] using this⟩
  ·rename_i hd;exact .inr (by have:=Q2 hT hd (by simp);simpa only[Q3] using this)
  ·cases hk
 have slice:∀ {ys:List τ.den},Ur hp τ x=some ys→∃ news,EncL F w τ ys news∧Src P τ.sz tx u ys.length news w:=by
  intro ys h
  obtain⟨A,cap,rfl,h1,h2,h3⟩:=Qx hi h hu
  by_cases hne:ys=[]
  ·subst hne
   refine⟨[],by simp[EncL],hkind,fun _=>rfl,?_,?_,by simp,by simp⟩
   ·cases A with
    | none=>exact run_firstCells_none w _ _ _ _
    | some ad=>simp[Builtin.firstCells,loadCells,loadCellsFrom]
   ·cases A with
    | none=>exact run_firstCells_none w.drew _ _ _ _
    | some ad=>simp[Builtin.firstCells,loadCells,loadCellsFrom]
  ·obtain⟨b,o,rfl,hl⟩:=h3 hne
   obtain⟨news,n1,n2⟩:=Z0u hl
   refine⟨news,n1,hkind,fun _=>rfl,?_,?_,Qc n1,Q08 n1⟩
   ·exact run_firstCells_some w _ _ _ _ _ news (Qc n1) (fun j v hj=>by rw[Vb];exact n2 j v hj)
   ·exact run_firstCells_some w.drew _ _ _ _ _ news (Qc n1) (fun j v hj=>by rw[Vb];simpa using n2 j v hj)
 unfold Q1m at h
 split at h
 ·rename_i s
  cases h
  simp only[VRel] at hu
  subst hu
  have hs:(⟨s.toArray⟩:ByteArray).size=(J4 s).length:=by simp[ByteArray.size,J4]
  refine⟨_,Jv s,hkind,fun _=>by simp[Builtin.lenOf,hs],?_,?_,Qc (F:=F) (w:=w) (Jv s),Q08 (F:=F) (w:=w) (Jv s)⟩
  ·rw[←hs];exact firstCells_string _ w
  ·rw[←hs];exact firstCells_string _ w.drew
 ·exact slice h
theorem V0o {w w':World} {F:Nat→Prop} {τ:Ty} {xs ys:List τ.den} {us news:List Value} {o p:Nat}
    (hold:∀ (i:Nat) (x:τ.den),xs[i]?=some x→∃ vs,Enc F w τ x vs∧vs.length=τ.sz∧∀ (j:Nat) (u:Value),vs[j]?=some u→us[o+i * τ.sz+j]?=some u)
    (hnew:EncL F w τ ys news) (hpx:p≤xs.length) (hle:o+p * τ.sz+news.length≤us.length) (hFw:∀ b,F b→w'.heap[b]?=w.heap[b]?) :
    ∀ (i:Nat) (x:τ.den),(xs.take p++ys++xs.drop (p+ys.length))[i]?=some x→∃ vs,Enc F w' τ x vs∧vs.length=τ.sz ∧
      ∀ (j:Nat) (u:Value),vs[j]?=some u→(us.take (o+p * τ.sz)++news++us.drop (o+p * τ.sz+news.length))[o+i * τ.sz+j]?=some u:=by
 intro i x hx
 have hnl:=Qc hnew
 have hpl:(xs.take p).length=p:=by simp;omega
 rw[List.append_assoc] at hx
 by_cases hi:i < p
 ·rw[List.getElem?_append_left (by omega),List.getElem?_take_of_lt hi] at hx
  obtain⟨vs,v1,v2,v3⟩:=hold i x hx
  refine⟨vs,v1.mono (fun _ h=>h) hFw,v2,fun j u hj=>?_⟩
  have hjl:j < τ.sz:=by obtain⟨h2,_⟩:=List.getElem?_eq_some_iff.1 hj;omega
  have:(i+1) * τ.sz≤p * τ.sz:=Nat.mul_le_mul_right _ (by omega)
  rw[Nat.add_mul,Nat.one_mul] at this
  rw[List.append_assoc,List.getElem?_append_left (by simp;omega),List.getElem?_take_of_lt (by omega)]
  exact v3 j u hj
 ·rw[List.getElem?_append_right (by omega),hpl] at hx
  by_cases hi2:i - p < ys.length
  ·rw[List.getElem?_append_left hi2] at hx
   obtain⟨vs,v1,v2,v3⟩:=Xz hnew (i - p) x hx
   refine⟨vs,v1.mono (fun _ h=>h) hFw,v2,fun j u hj=>?_⟩
   have hjl:j < τ.sz:=by obtain⟨h2,_⟩:=List.getElem?_eq_some_iff.1 hj;omega
   have e1:i * τ.sz=p * τ.sz+(i - p) * τ.sz:=by rw[←Nat.add_mul];congr 1;omega
   have h3:((i - p)+1) * τ.sz≤ys.length * τ.sz:=Nat.mul_le_mul_right _ (by omega)
   rw[Nat.add_mul,Nat.one_mul] at h3
   rw[List.append_assoc,List.getElem?_append_right (by simp;omega),List.getElem?_append_left (by simp;omega)]
   rw[←v3 j u hj]
   congr 1
   simp
   omega
  ·rw[List.getElem?_append_right (by omega),List.getElem?_drop] at hx
   obtain⟨vs,v1,v2,v3⟩:=hold _ x hx
   refine⟨vs,v1.mono (fun _ h=>h) hFw,v2,fun j u hj=>?_⟩
   have e1:p+ys.length+(i - p - ys.length)=i:=by omega
   rw[e1] at v3
   have h3:(p+ys.length) * τ.sz≤i * τ.sz:=Nat.mul_le_mul_right _ (by omega)
   rw[Nat.add_mul] at h3
   rw[List.append_assoc,List.getElem?_append_right (by simp;omega),List.getElem?_append_right (by simp;omega),List.getElem?_drop]
   rw[←v3 j u hj]
   congr 1
   simp
   omega
theorem X2v {n b:Nat} (h:fits n b=true):n * b≤140737488355328∧(n:Int)≤9223372036854775807:=by
 have:=Q1w h
 omega
theorem Z16 {P:Program} {T:Tab} (hT:U2 P T) {w:World} {F:Nat→Prop} (hF:∀ b,F b→b < w.heap.size) {t e tx ty:Nat} {row:Row} (ht:P.underlying t=some (.slice e)) (hrow:T.row e=some row) {τ:Ty} (hsz:τ.sz=row.size)
    {A:Option Addr} {sLen sCap:Nat} {xs ys:List τ.den} {olds news:List Value} {u:Value} (hxl:xs.length=sLen) (ho:EncL F w τ xs olds) (hn:EncL F w τ ys news)
    (hold:(Builtin.firstCells τ.sz sLen (.slice A sLen sCap)).run P w.drew=.ok olds.toArray w.drew)
    (hs:Src P τ.sz tx u ys.length news w) (hg:sCap < sLen+ys.length) (hfit:fits (sLen+ys.length) row.bytes=true) :
    ∃ cap' us,(Builtin.append_ #[t,tx] ty #[.slice A sLen sCap,u]).run P w=.ok (.slice (some ⟨w.heap.size,0,none⟩) (sLen+ys.length) cap') (w.drew.alloc (.cells us.toArray e)) ∧
      sLen+ys.length≤cap'∧cap' * τ.sz≤us.length∧EncL F w τ (xs++ys) (olds++news)∧∃ rest,us=(olds++news)++rest:=by
 obtain⟨i0,z,e1,e2,e3,e4,e5,e6,e7,e8⟩:=(hT e row hrow).info
 obtain⟨h1,h2⟩:=X2v hfit
 rw[hsz,←e2] at hold hs
 have hrun:=run_append_grow_src (P:=P) w t tx ty e i0 z ht e1 e4 A sLen sCap olds hold u ys.length news hs hg h2 (growslice_fits hg (by rw[e3];exact h1))
 have hge:=grownCap_ge w (sLen+ys.length) sCap e
 have hol:=Qc ho
 have hnl:=Qc hn
 refine⟨grownCap w (sLen+ys.length) sCap e,(olds++news)++(Builtin.zeroCells z.cells (grownCap w (sLen+ys.length) sCap e - (sLen+ys.length))).toList,?_,hge,?_,J0x ho hn,_,rfl⟩
 ·rw[hrun]
  congr 3
  apply Array.ext'
  simp
 ·have hz:(Builtin.zeroCells z.cells (grownCap w (sLen+ys.length) sCap e - (sLen+ys.length))).toList.length=(grownCap w (sLen+ys.length) sCap e - (sLen+ys.length)) * τ.sz:=by
   simp[Builtin.zeroCells,e5,hsz]
  rw[List.length_append,List.length_append,hol,hnl,hz,hxl,←Nat.add_mul,←Nat.add_mul]
  exact Nat.mul_le_mul_right _ (by omega)
end Go.Proofs.YtkobjdhbfepkaaaE
