import Derived.Test.YtkobjdhbfepkaaaPAcceptZones3
import Derived.RangeFuncBox
import Derived.RangeFuncLeaves
import Derived.RangeFuncNested
import Derived.RangeFuncBound
import Derived.RangeFuncCalls
import Derived.Shelf.Abstract
import Derived.Shelf.RegionOpen
import Derived.WalkKit
import Derived.OwnWalkIn
import Derived.TacticsInMore
import Derived.LoopNIn
import Derived.LoopIn
import Derived.Maps.AppendAt
import Derived.Shelf.RegionOpenPlain
import Derived.Lib.Strings
import Derived.Lib.Slices
import Derived.Lib.Walk
import Derived.Lib.Builder
import Derived.Lib.UnsafeStr
import Derived.Laws.Externs
set_option maxRecDepth 1000000
namespace Go.Proofs.YtkobjdhbfepkaaaE
open Go
set_option linter.unusedVariables false
set_option linter.unusedSimpArgs false
def lowI (c:Int):Int:=bif decide (c≥65)&&decide (c≤90) then c+32 else c
def lowB (c:UInt8):UInt8:=bif decide (c.toNat≥65)&&decide (c.toNat≤90) then UInt8.ofNat (c.toNat+32) else c
def Vx (s:List UInt8):List UInt8:=s.map lowB
def X1p (b:List Int):Bool:=b.all fun x=>decide (0≤x)&&decide (x≤255)
theorem X1y {b:List Int} (h:X1p b=true) (i:Nat):0≤b.getD i 0∧b.getD i 0≤255:=by
 rw[List.getD_eq_getElem?_getD]
 cases hx:b[i]? with
 | none=>simp
 | some x=>
   have:=List.all_eq_true.1 h x (List.mem_of_getElem? hx)
   simpa using this
theorem U38 {α:Type} (l:List α) (i:Nat) (dd:α) (h:i < l.length):l.set i (l.getD i dd)=l:=by
 rw[List.getD_eq_getElem?_getD,List.getElem?_eq_getElem h]
 exact List.set_getElem_self h
theorem Z3s {n:Int} (h0:0≤n) (h1:n≤255):IntKind.wrap .u8 n=n:=by
 rw[IntKind.wrap]
 simp[IntKind.bits,IntKind.signed]
 omega
def fdC (n i:Int) (b:List Int):Bool:=decide (i=0)&&decide (n=b.length)&&X1p b&&decide (b.length≤1000000000000)
noncomputable def b73:Code:=X4 c73 0
def ls73:LoopSpec:={ bid:=0,sh:=[.row 0,.row 0,.d (.int .i64) false,.d (.int .i64) false],so:=[.row (.int .u8)],F:=fun(n,i,_) (b,_)=>.on (fdC n i b) (.exit 0,[.rowA 0],[.row (.int .u8) (b.map lowI)]) }
def r73 (n i:Int) (b:List Int):Tr (St⊕(Ex×St)):=.br (decide (i < n)) (.br (decide (0≤i)) (.br (decide (i < (↑b.length:Int))) (.br (decide (b.getD i.toNat (Ty.dflt (Ty.int .u8))≥65)) (.br (decide (b.getD i.toNat (Ty.dflt (Ty.int .u8))≤90)) (.br (decide (0≤i)) (.br (decide (i < (↑b.length:Int))) (.ret (.inl (stOf [3,8,9,10] [.rowA 0,.rowA 0,.int .i64 n,.int .i64 (IntKind.wrap .i64 (i+1))] [.row (.int .u8) (List.set b i.toNat (IntKind.wrap .u8 (b.getD i.toNat (Ty.dflt (Ty.int .u8))+32)))]))) .no) .no) (.ret (.inl (stOf [3,8,9,10] [.rowA 0,.rowA 0,.int .i64 n,.int .i64 (IntKind.wrap .i64 (i+1))] [.row (.int .u8) b])))) (.ret (.inl (stOf [3,8,9,10] [.rowA 0,.rowA 0,.int .i64 n,.int .i64 (IntKind.wrap .i64 (i+1))] [.row (.int .u8) b])))) .no) .no) (.ret (.inr (.exit 0,stOf [3] [.rowA 0] [.row (.int .u8) b])))
theorem X3y (orc:Orc) (lp:Lp) (n i:Int) (b:List Int):evC T0 orc lp b73 0 (stOf [3,8,9,10] [.rowA 0,.rowA 0,.int .i64 n,.int .i64 i] [.row (.int .u8) b]) (Q0 [3,8,9,10] [3] 0)=(r73 n i b).get:=by kernel_rfl
theorem wf73 (orc:Orc) (n:Int) (I'':Int→List Int→Prop) (m'':Int→List Int→Nat) (r'':Ex×St) (h:∀ (i:Int) (b:List Int),I'' i b→(r73 n i b).all fun x''=>x''=.inr r''∨∃ (i':Int) (b':List Int),x''=.inl (stOf [3,8,9,10] [.rowA 0,.rowA 0,.int .i64 n,.int .i64 i'] [.row (.int .u8) b'])∧I'' i' b'∧m'' i' b' < m'' i b) (lp:Lp) (i:Int) (b:List Int):I'' i b→
    X2 (fun st=>evC T0 orc lp b73 0 st (Q0 [3,8,9,10] [3] 0)) (stOf [3,8,9,10] [.rowA 0,.rowA 0,.int .i64 n,.int .i64 i] [.row (.int .u8) b])=some r'':=
 U4 (fun a'':Int×List Int=>stOf [3,8,9,10] [.rowA 0,.rowA 0,.int .i64 n,.int .i64 a''.1] [.row (.int .u8) a''.2]) (fun a''=>I'' a''.1 a''.2) (fun a''=>m'' a''.1 a''.2) r'' (fun a''=>r73 n a''.1 a''.2)
  (fun a'' x hx=>(X3y orc lp n a''.1 a''.2).trans hx) (fun a'' ha=>Tr.all_mono (fun x'' hx=>hx.imp id fun⟨i',b',h1,h2,h3⟩=>⟨(i',b'),h1,h2,h3⟩) (h (a''.1) (a''.2) ha)) (i,b)
def fdI (b0:List Int) (i:Int) (b:List Int):Prop:=0≤i∧i≤b0.length∧b=(b0.take i.toNat).map lowI++b0.drop i.toNat
theorem X2m {b0:List Int} {i:Nat} (hi:i < b0.length):((b0.take i).map lowI++b0.drop i).set i (lowI (b0.getD i 0))=(b0.take (i+1)).map lowI++b0.drop (i+1):=by
 have hl:((b0.take i).map lowI).length=i:=by simp;omega
 rw[List.set_append_right _ _ (by omega),hl,Nat.sub_self,J3n b0 i 0 hi,List.set_cons_zero,List.take_add_one,List.map_append,List.append_assoc]
 rw[List.getD_eq_getElem?_getD,List.getElem?_eq_getElem hi]
 rfl
theorem Q37 {b0:List Int} {i:Nat} (hi:i < b0.length) (dd:Int):((b0.take i).map lowI++b0.drop i).getD i dd=b0.getD i 0:=by
 have hl:((b0.take i).map lowI).length=i:=by simp;omega
 rw[List.getD_eq_getElem?_getD,List.getElem?_append_right (by omega),hl,Nat.sub_self,List.getElem?_drop,List.getD_eq_getElem?_getD,Nat.add_zero,List.getElem?_eq_getElem hi]
 rfl
theorem Q4f (orc:Orc):ls73.Ok T0 orc h73 0 0 b73:=by
 intro q'' hq'' x'' y'' r'' h
 obtain⟨(n:Int),(i:Int),_⟩:=x''
 obtain⟨(b:List Int),_⟩:=y''
 obtain⟨hc,rfl⟩:=Tr.get_on h
 show X2 (fun st=>evC T0 orc (lpN T0 orc h73 0 q'') b73 0 st (Q0 [3,8,9,10] [3] 0)) (stOf [3,8,9,10] [.rowA 0,.rowA 0,.int .i64 n,.int .i64 i] [.row (.int .u8) b])=some (.exit 0,stOf [3] ([.rowA 0]) ([.row (.int .u8) (b.map lowI)]))
 simp only[fdC,Bool.and_eq_true,decide_eq_true_eq] at hc
 obtain⟨⟨⟨rfl,rfl⟩,hok⟩,hb⟩:=hc
 refine wf73 _ b.length (fdI b) (fun i _=>(b.length - i).toNat) _ ?_ _ 0 b ⟨by omega,by omega,by simp⟩
 rintro i c ⟨h0,h1,rfl⟩
 unfold r73
 by_cases hlt:i < b.length
 ·have hn:i.toNat < b.length:=by omega
  have hlen:(i:Int) < (((b.take i.toNat).map lowI++b.drop i.toNat).length:Int):=by simp;omega
  have e1:(i+1).toNat=i.toNat+1:=by omega
  obtain⟨g0,g1⟩:=X1y hok i.toNat
  rw[Q37 hn]
  refine Tr.all_t (J0 hlt) (Tr.all_t (J0 h0) (Tr.all_t (J0 hlen) ?_))
  have hsame:lowI (b.getD i.toNat 0)=b.getD i.toNat 0→(b.take i.toNat).map lowI++b.drop i.toNat=(b.take (i.toNat+1)).map lowI++b.drop (i.toNat+1):=fun h=>by
   rw[←X2m hn,h,←Q37 hn 0]
   exact(U38 _ _ _ (by simp;omega)).symm
  refine Tr.all_br (fun c1=>Tr.all_br (fun c2=>?_) fun c2=>?_) fun c1=>?_
  ·refine Tr.all_t (J0 h0) (Tr.all_t (J0 hlen) (Tr.all_ret (.inr ⟨_,_,rfl,?_,?_⟩)))
   ·have q1:=of_decide_eq_true c1
    have q2:=of_decide_eq_true c2
    simp (disch:=omega) only[IntWalk.i64_in,Z3s]
    refine⟨by omega,by omega,?_⟩
    rw[e1,←X2m hn]
    congr 1
    unfold lowI
    rw[c1,c2]
    rfl
   ·simp (disch:=omega) only[IntWalk.i64_in]
    omega
  ·refine Tr.all_ret (.inr ⟨_,_,rfl,?_,?_⟩)
   ·simp (disch:=omega) only[IntWalk.i64_in]
    refine⟨by omega,by omega,?_⟩
    rw[e1]
    refine hsame ?_
    simp only[lowI,c2,Bool.and_false,cond_false]
   ·simp (disch:=omega) only[IntWalk.i64_in]
    omega
  ·refine Tr.all_ret (.inr ⟨_,_,rfl,?_,?_⟩)
   ·simp (disch:=omega) only[IntWalk.i64_in]
    refine⟨by omega,by omega,?_⟩
    rw[e1]
    refine hsame ?_
    simp only[lowI,c1,Bool.false_and,cond_false]
   ·simp (disch:=omega) only[IntWalk.i64_in]
    omega
 ·refine Tr.all_f (X0 hlt) (Tr.all_ret (.inl ?_))
  rw[List.take_of_length_le (by omega),List.drop_of_length_le (by omega),List.append_nil]
def t73 (s:List UInt8):Tr Res:=.br (fits s.length 1) (.br (fdC (↑(List.length (J4 s)):Int) 0 (J4 s)) (.ret ([.str (Us (List.map lowI (J4 s)))],[])) .no) .no
def os73:OSpec:={ f:=73,sh:=[.d .str false],so:=[],F:=fun(s,_) _=>t73 s }
theorem fn73 (s:List UInt8):evC T0 (orcB [] []) (lpOf h73 0 (lsOf [ls73])) c73 1000000 (Z1 [.str s] [] Try.f73.ntmps) (J1 T0 false 0 Try.f73)=(t73 s).get:=by kernel_rfl
theorem ok73:os73.Ok Try.prog:=by
 refine V3 Q1 tab0 (V0 Z0 Z0) h73 (d:=0) (n0:=0) (S:=lsOf [ls73]) Try.func73 (by kernel_rfl) (c:=c73) (by kernel_rfl) rfl (Q5 (xs:=[(0,b73)]) (by kernel_rfl) (all_cons (Q4 (Q4f _)) Z0)) (by omega) (by kernel_rfl) ?_
 intro x'' y'' q'' hq''
 obtain⟨(s:List UInt8),_⟩:=x''
 exact(fn73 s).trans hq''
def fs73:FSpec:=fsT 73 [(.str,false)] [(.str,false)] fun(s,_)=>t73 s
theorem okf73:fs73.Ok Try.prog:=X5 fun x'' r'' hr''=>ok73 x'' () r'' hr''
theorem J43 (c:UInt8):0≤(c.toNat:Int)∧(c.toNat:Int)≤255:=by
 have:=c.toNat_lt
 omega
theorem X3t (s:List UInt8):Us ((J4 s).map lowI)=Vx s:=by
 simp only[Us,J4,Vx,List.map_map]
 refine List.map_congr_left fun c _=>?_
 simp only[Function.comp,lowI,lowB]
 have hlt:=c.toNat_lt
 by_cases h:c.toNat≥65∧c.toNat≤90
 ·rw[show (decide ((c.toNat:Int)≥65)&&decide ((c.toNat:Int)≤90))=true by simp;omega,show (decide (c.toNat≥65)&&decide (c.toNat≤90))=true by simp;omega,cond_true,cond_true]
  congr 1
 ·rw[show (decide ((c.toNat:Int)≥65)&&decide ((c.toNat:Int)≤90))=false by simp;omega,show (decide (c.toNat≥65)&&decide (c.toNat≤90))=false by simp;omega,cond_false,cond_false]
  simp
def bigS (s:List UInt8):Bool:=decide (s.length≤1000000000000)
theorem J1r (s:List UInt8):(J4 s).length=s.length:=by simp[J4]
theorem J20 (s:List UInt8):X1p (J4 s)=true:=by
 refine List.all_eq_true.2 fun x hx=>?_
 obtain⟨c,_,rfl⟩:=List.mem_map.1 hx
 have:=J43 c
 simp only[Bool.and_eq_true,decide_eq_true_eq]
 exact this
def Z45:FSpec:=fs73.like fun(s,_)=>.on (bigS s) (Vx s,())
theorem Q4g:Z45.Ok Try.prog:=by
 refine J3 okf73 _ ?_
 rintro⟨(s:List UInt8),_⟩ y h
 obtain⟨hc,rfl⟩:=Tr.get_on h
 simp only[bigS,decide_eq_true_eq] at hc
 refine J2 (vs:=[.str (Vx s)]) rfl rfl (Tr.get_of_all ?_)
 show (t73 s).all _
 refine Tr.all_t (Zh (by omega) (by omega)) (Tr.all_t ?_ (Tr.all_ret ?_))
 ·simp only[fdC,J1r,J20,decide_true,Bool.true_and,Bool.and_true]
  exact J0 hc
 ·rw[X3t]
def n16 (s:List UInt8) (at_:Int):Int:=(s.getD at_.toNat 0).toNat * 256+(s.getD (at_.toNat+1) 0).toNat
end Go.Proofs.YtkobjdhbfepkaaaE
namespace Go.Proofs.YtkobjdhbfepkaaaB
open Go Go.RowKit Go.Shelf
attribute [local go_sem] Oper.semAt_some
theorem U3c:Try.prog.underlying 9=some .string:=by kernel_rfl
theorem Z2h (s:List UInt8) (a b:Nat) (hab:a≤b) (hb:b≤s.length) (i j:Int) (hi:i=a) (hj:j=b) (W:World) :
    (Instr.slice 9 (.string ⟨s.toArray⟩) (some (.int .i64 i)) (some (.int .i64 j)) none).run Try.prog W=.ok (.string ⟨((s.drop a).take (b - a)).toArray⟩) W:=by
 subst hi hj
 have hs:(⟨s.toArray⟩:ByteArray).size=s.length:=by simp[ByteArray.size]
 have h2:(Instr.sliceBounds false s.length s.length (some (.int .i64 (a:Int))) (some (.int .i64 (b:Int))) none).run Try.prog W=.ok (a,b,s.length) W:=by
  have s1:∀ code,(Instr.sliceBound (.int .i64 (a:Int)) b code).run Try.prog W=.ok a W:=fun code=>by
   have:=Go.Proofs.YtkobjdhbfepkaaaE.bound_run (P:=Try.prog) (w:=W) (k:=.i64) (i:=(a:Int)) (y:=b) (by omega) code
   simpa using this
  have s2:∀ code,(Instr.sliceBound (.int .i64 (b:Int)) s.length code).run Try.prog W=.ok b W:=fun code=>by
   have:=Go.Proofs.YtkobjdhbfepkaaaE.bound_run (P:=Try.prog) (w:=W) (k:=.i64) (i:=(b:Int)) (y:=s.length) (by omega) code
   simpa using this
  simp only[Instr.sliceBounds,Sem.run_bind,Sem.run_pure,Result.andThen_ok,s1,s2,Bool.false_eq_true,if_false]
 simp[Instr.slice,run_underlying U3c,hs,h2,ByteArray.extract_mk]
theorem X2d (s:List UInt8) (a:Nat) (ha:a≤s.length) (i:Int) (hi:i=a) (W:World) :
    (Instr.slice 9 (.string ⟨s.toArray⟩) (some (.int .i64 i)) none none).run Try.prog W=.ok (.string ⟨(s.drop a).toArray⟩) W:=by
 subst hi
 have hs:(⟨s.toArray⟩:ByteArray).size=s.length:=by simp[ByteArray.size]
 have h2:(Instr.sliceBounds false s.length s.length (some (.int .i64 (a:Int))) none none).run Try.prog W=.ok (a,s.length,s.length) W:=by
  have s1:∀ code,(Instr.sliceBound (.int .i64 (a:Int)) s.length code).run Try.prog W=.ok a W:=fun code=>by
   have:=Go.Proofs.YtkobjdhbfepkaaaE.bound_run (P:=Try.prog) (w:=W) (k:=.i64) (i:=(a:Int)) (y:=s.length) (by omega) code
   simpa using this
  simp only[Instr.sliceBounds,Sem.run_bind,Sem.run_pure,Result.andThen_ok,s1,Bool.false_eq_true,if_false]
 simp[Instr.slice,run_underlying U3c,hs,h2,ByteArray.extract_mk]
 exact List.take_of_length_le (by simp)
def U11:List UInt8→Prop
 | []=>True
 | c::t=>c.toNat=0∨63 < c.toNat∨t.length < c.toNat
set_option maxHeartbeats 1000000 in
theorem X3j (n:Nat) (hn:1≤n) (l Bn:Nat) (J K:List UInt8→World→Prop)
    (hB:∀ r W,J r W→Boxed W Bn 9 (.string ⟨r.toArray⟩)) (hd:∀ r W d,J r W→J r { W with drawn:=d })
    (hY:∀ (c:UInt8) (t:List UInt8) W,J (c::t) W→c.toNat≠0→c.toNat≤63→c.toNat≤t.length→
     YieldAt Fence.wide (n - 1) Try.prog l #[.string ⟨(t.take c.toNat).toArray⟩,.string ⟨(t.drop c.toNat).toArray⟩] W fun e W'=>e=.returned (.bool true)∧K (c::t) W')
    (hK:∀ c t W,K (c::t) W→Boxed W Bn 9 (.string ⟨(c::t).toArray⟩)∧J (t.drop c.toNat) (W.setCell ⟨Bn,0,none⟩ (.string ⟨(t.drop c.toNat).toArray⟩)))
    (W:World) (r0:List UInt8) (h0:J r0 W) :
    CallsIn Fence.wide n Try.prog 99 #[.func (.yield l) #[] #[],.pointer (some ⟨Bn,0,none⟩)] W fun e W'=>(∃ v,e=.returned v)∧∃ r,J r W'∧U11 r:=by
 refine callsIn_of_wp Try.func99 rfl trivial ?_ rfl
 simp only[Try.ntmps99,List.size_toArray,List.length_cons,List.length_nil,Nat.reduceAdd,Nat.reduceSub,Array.replicate_succ,Array.replicate_zero,List.push_toArray,List.append_toArray,List.nil_append,List.cons_append]
 gi_wp2
 gi_loopw [3] (fun p wr=>∃ (r:List UInt8),J r wr)
  (fun p wr=>match wr.cell? ⟨Bn,0,none⟩ with | some (.string b)=>b.size | _=>0)
 case atStart=>
  exact⟨r0,h0⟩
 case round=>
  obtain⟨r,hJ⟩:=hrel
  have hb:=hB r _ hJ
  have hc:=hb.cell
  cases r with
  | nil=>
    gi_wp2
    gi_quiet (fail)
    gi_wp2
    go_end0
    exact⟨⟨_,rfl⟩,_,hd _ wr _ hJ,trivial⟩
  | cons c t=>
    have hget:({ data:=(c::t).toArray }:ByteArray)[0]'(by simp[ByteArray.size])=c:=rfl
    have hsz:({ data:=(c::t).toArray }:ByteArray).size=t.length+1:=by simp[ByteArray.size]
    by_cases c0:c.toNat=0
    ·gi_wp2
     gi_quiet (fail)
     gi_wp2
     go_end0
     exact⟨⟨_,rfl⟩,_,hd _ wr _ hJ,.inl c0⟩
    have p0:0 < c.toNat:=by omega
    have d0:decide (0 < c.toNat)=true:=by simpa using p0
    by_cases c1:c.toNat≤63
    ·have d1:decide ((c.toNat:Int)≤63)=true:=by simp;omega
     by_cases c2:c.toNat≤t.length
     ·have d2:decide ((c.toNat:Int) < (t.length:Int)+1)=true:=by simp;omega
      gi_wp2
      gi_quiet (fail)
      gi_wp2
      rename_i nq _ _ _ _
      have hJ2:J (c::t) (wr.drewN (nq+1)):=hd _ wr _ hJ
      have hb2:=hB _ _ hJ2
      have hc2:=hb2.cell
      obtain⟨fn,tmps,assign,body,hy,hR⟩:=hY c t _ hJ2 c0 c1 c2
      have hs1:∀ W:World,(Instr.slice 9 (.string ⟨(c::t).toArray⟩) (some (.int .i64 1)) (some (.int .i64 (1+(c.toNat:Int)))) none).run Try.prog W=.ok (.string ⟨(t.take c.toNat).toArray⟩) W:=fun W=>by
       rw[Z2h (c::t) 1 (1+c.toNat) (by omega) (by simp;omega) 1 _ rfl (by omega) W]
       simp
      have hs2:∀ W:World,(Instr.slice 9 (.string ⟨(c::t).toArray⟩) (some (.int .i64 (1+(c.toNat:Int)))) none none).run Try.prog W=.ok (.string ⟨(t.drop c.toNat).toArray⟩) W:=fun W=>by
       rw[X2d (c::t) (1+c.toNat) (by simp;omega) _ (by omega) W]
       simp[Nat.add_comm 1]
      gi_region_with (refine RoundIn.mono hR ?_;rintro e W3 ⟨rfl,hK3⟩;obtain⟨hb3,hJ3⟩:=hK c t _ hK3;have hc3:=hb3.cell;have hf3:=hb3.frozen)
      all_goals gi_wp2
      all_goals (refine⟨⟨_,hJ3⟩,?_⟩;rw[hb3.set _ |>.cell,hc];simp[ByteArray.size];omega)
     ·have d2:decide ((c.toNat:Int) < (t.length:Int)+1)=false:=by simp;omega
      gi_wp2
      gi_quiet (fail)
      gi_wp2
      go_end0
      exact⟨⟨_,rfl⟩,_,hd _ wr _ hJ,.inr (.inr (by omega))⟩
    ·have d1:decide ((c.toNat:Int)≤63)=false:=by simp;omega
     gi_wp2
     gi_quiet (fail)
     gi_wp2
     go_end0
     exact⟨⟨_,rfl⟩,_,hd _ wr _ hJ,.inr (.inl (by omega))⟩
attribute [local go_sem] Oper.semAt_some
set_option maxHeartbeats 1000000 in
theorem U3w (n:Nat) (s:List UInt8) (w:World) :
    CallsIn Fence.wide n Try.prog 83 #[.string ⟨s.toArray⟩] w fun e w'=>e=.returned (.func (.func 99) #[] #[.pointer (some ⟨w.heap.size,0,none⟩)])∧w'=w.alloc (.cells #[.string ⟨s.toArray⟩] 9):=by
 refine callsIn_of_wp Try.func83 rfl trivial ?_ rfl
 simp only[Try.ntmps83,List.size_toArray,List.length_cons,List.length_nil,Nat.reduceAdd,Nat.reduceSub,Array.replicate_succ,Array.replicate_zero,List.push_toArray,List.append_toArray,List.nil_append,List.cons_append]
 gi_wp2
 go_ret
 exact⟨rfl,rfl⟩
theorem info9:(Try.prog.info? 9).map (fun i=>(i.zero,i.size,i.bytes))=some (some (.string ⟨#[]⟩),1,16):=by kernel_rfl
theorem V3q:Try.prog.underlying 81=some (.slice 9):=by kernel_rfl
def Za:List UInt8→List (List UInt8)×List UInt8
 | []=>([],[])
 | c::t=>if c.toNat=0∨63 < c.toNat∨t.length < c.toNat then ([],c::t) else ((t.take c.toNat)::(Za (t.drop c.toNat)).1,(Za (t.drop c.toNat)).2)
termination_by s=>s.length
decreasing_by all_goals (simp;omega)
theorem V2i {r:List UInt8} (h:U11 r):Za r=([],r):=by
 cases r with
 | nil=>rw[Za]
 | cons c t=>rw[Za];exact if_pos h
def strs (l:List (List UInt8)):List Value:=l.map fun s=>.string ⟨s.toArray⟩
structure JW (w:World) (rec:Loop) (st:LoopState) (v:Value) (k:Nat) (xs:List Value) (bn left:List UInt8) (W:World):Prop where
 out:Boxed W w.heap.size 81 v
 row:W.ownsRow (w.heap.size+5) 9 1 v k xs
 left:Boxed W (w.heap.size+1) 9 (.string ⟨left.toArray⟩)
 box:Boxed W (w.heap.size+2) 9 (.string ⟨bn.toArray⟩)
 bel:Below w.heap.size w W
 loop:W.heap[w.heap.size+4]?=some (.loop { rec with state:=st })
 dfr:W.heap[w.heap.size+3]?=some (.deferred (some []))
theorem Boxed.drawn {W:World} {B:Nat} {t:TypeId} {v:Value} (h:Boxed W B t v) (d:Nat):Boxed { W with drawn:=d } B t v:=h
section
variable {w:World} {rec:Loop} {st st':LoopState} {v:Value} {k:Nat} {xs:List Value} {bn left:List UInt8} {W:World}
theorem JW.lt (h:JW w rec st v k xs bn left W):w.heap.size+4 < W.heap.size:=(Array.getElem?_eq_some_iff.1 h.loop).1
theorem JW.drawn (h:JW w rec st v k xs bn left W) (d:Nat):JW w rec st v k xs bn left { W with drawn:=d }:=
 ⟨h.out,h.row,h.left,h.box,⟨h.bel.os,h.bel.tape,h.bel.output,h.bel.size,h.bel.block⟩,h.loop,h.dfr⟩
theorem JW.putLoop (h:JW w rec st v k xs bn left W) {L:Loop} (hL:L={ rec with state:=st' }):JW w rec st' v k xs bn left (W.putObj (w.heap.size+4) (.loop L)):=by
 subst hL
 have ot:∀ j,j≠w.heap.size+4→(W.putObj (w.heap.size+4) (.loop { rec with state:=st' })).heap[j]?=W.heap[j]?:=fun j hj=>World.putObj_heap_other hj
 exact⟨(ot _ (by omega)).trans h.out,ownsRow_putObj h.row _ h.loop rfl,(ot _ (by omega)).trans h.left,(ot _ (by omega)).trans h.box,
  ⟨h.bel.os,h.bel.tape,h.bel.output,by simpa using h.bel.size,fun j hj=>(ot _ (by omega)).trans (h.bel.block j hj)⟩,World.putObj_heap_same h.lt,(ot _ (by omega)).trans h.dfr⟩
theorem JW.ne (h:JW w rec st v k xs bn left W) {j:Nat} (hj:j < w.heap.size+5):some j≠v.ownBlock:=fun e=>by
 have:=(h.row.lt j e.symm).1
 omega
theorem JW.mid (h:JW w rec st v k xs bn left W) {tmp:Obj} {w1:World} (hg:(W.alloc tmp).grownBy w1 v.ownBlock):Boxed w1 w.heap.size 81 v:=by
 have hlt:=h.lt
 exact((hg.block _ (by simp;omega) (h.ne (by omega))).trans (Below.heap_alloc _ _ _ (by omega))).trans h.out
theorem JW.grown (h:JW w rec st v k xs bn left W) {tmp:Obj} {w1:World} {v':Value} {k':Nat} {ys:List Value} (hown:w1.ownsRow (w.heap.size+5) 9 1 v' k' ys) (hg:(W.alloc tmp).grownBy w1 v.ownBlock) :
    JW w rec st v' k' ys bn left (w1.setCell ⟨w.heap.size,0,none⟩ v'):=by
 have hlt:=h.lt
 have kp:∀ j,j < w.heap.size+5→w1.heap[j]?=W.heap[j]?:=fun j hj=>(hg.block j (by simp;omega) (h.ne hj)).trans (Below.heap_alloc _ _ _ (by omega))
 have hv1:Boxed w1 w.heap.size 81 v:=(kp _ (by omega)).trans h.out
 have ot:∀ j,j≠w.heap.size→(w1.setCell ⟨w.heap.size,0,none⟩ v').heap[j]?=w1.heap[j]?:=fun j hj=>Below.heap_setCell _ _ _ _ hj
 refine⟨hv1.set v',?_,(ot _ (by omega)).trans ((kp _ (by omega)).trans h.left),(ot _ (by omega)).trans ((kp _ (by omega)).trans h.box),?_,(ot _ (by omega)).trans ((kp _ (by omega)).trans h.loop),(ot _ (by omega)).trans ((kp _ (by omega)).trans h.dfr)⟩
 ·refine hown.kept (grownBy_setCell' w1 w.heap.size v') (.inr fun e=>?_)
  have:=(hown.lt _ e).1
  omega
 ·refine((h.bel.alloc (by omega) tmp).grown hg (by simp;omega) fun j ej=>?_).setCell (p:=⟨w.heap.size,0,none⟩) (Nat.le_refl _) v'
  have:=(h.row.lt j ej).1
  omega
theorem JW.setLeft (h:JW w rec st v k xs bn left W) (l:List UInt8):JW w rec st v k xs bn l (W.setCell ⟨w.heap.size+1,0,none⟩ (.string ⟨l.toArray⟩)):=by
 have ot:∀ j,j≠w.heap.size+1→(W.setCell ⟨w.heap.size+1,0,none⟩ (.string ⟨l.toArray⟩)).heap[j]?=W.heap[j]?:=fun j hj=>Below.heap_setCell _ _ _ _ hj
 refine⟨(ot _ (by omega)).trans h.out,h.row.kept (grownBy_setCell' W _ _) (.inr (h.ne (by omega)).symm),h.left.set _,(ot _ (by omega)).trans h.box,h.bel.setCell (p:=⟨w.heap.size+1,0,none⟩) (by simp) _,(ot _ (by omega)).trans h.loop,(ot _ (by omega)).trans h.dfr⟩
theorem JW.setBox (h:JW w rec st v k xs bn left W) (l:List UInt8):JW w rec st v k xs l left (W.setCell ⟨w.heap.size+2,0,none⟩ (.string ⟨l.toArray⟩)):=by
 have ot:∀ j,j≠w.heap.size+2→(W.setCell ⟨w.heap.size+2,0,none⟩ (.string ⟨l.toArray⟩)).heap[j]?=W.heap[j]?:=fun j hj=>Below.heap_setCell _ _ _ _ hj
 refine⟨(ot _ (by omega)).trans h.out,h.row.kept (grownBy_setCell' W _ _) (.inr (h.ne (by omega)).symm),(ot _ (by omega)).trans h.left,h.box.set _,h.bel.setCell (p:=⟨w.heap.size+2,0,none⟩) (by simp) _,(ot _ (by omega)).trans h.loop,(ot _ (by omega)).trans h.dfr⟩
end
theorem Z3b (l:List (List UInt8)) (x:List UInt8):strs l++[.string ⟨x.toArray⟩]=strs (l++[x]):=by simp[strs]
theorem V05 (pre:List (List UInt8)) {s t:List UInt8} {c:UInt8} (h0:c.toNat≠0) (h1:c.toNat≤63) (h2:c.toNat≤t.length) (he:Za s=(pre++(Za (c::t)).1,(Za (c::t)).2)) :
    Za s=((pre++[t.take c.toNat])++(Za (t.drop c.toNat)).1,(Za (t.drop c.toNat)).2):=by
 rw[he,Za,if_neg (by omega)]
 simp
def JR (w:World) (s:List UInt8) (rec:Loop) (r:List UInt8) (W:World):Prop:=
 ∃ pre v,JW w rec .ready v pre.length (strs pre) r r W∧Za s=(pre++(Za r).1,(Za r).2)∧pre.length+r.length≤s.length
def KR (w:World) (s:List UInt8) (rec:Loop) (cs:List UInt8) (W:World):Prop:=
 ∃ c t pre v,cs=c::t∧JW w rec .ready v pre.length (strs pre) (c::t) (t.drop c.toNat) W∧Za s=(pre++(Za (t.drop c.toNat)).1,(Za (t.drop c.toNat)).2)∧pre.length+(t.drop c.toNat).length≤s.length
def X3u (w:World) (s:List UInt8) (v:Value) (W':World):Prop:=
 ∃ u e,v=.tuple #[u,.int .i64 e]∧Below w.heap.size w W' ∧
   (((Za s).2≠[0]∧u=.slice none 0 0∧e=2)∨((Za s).2=[0]∧255 < s.length∧u=.slice none 0 0∧e=3) ∨
    ((Za s).2=[0]∧s.length≤255∧e=0∧W'.ownsRow (w.heap.size+5) 9 1 u (Za s).1.length (strs (Za s).1)))
theorem Q2j (n:Nat) (w:World) (s:List UInt8) (W0:World) (L0:Loop) (hps:L0.params.size=2) (hn:1≤n) (hJ:JR w s L0 s (W0.alloc (.loop L0)))
    (hround:∀ (c:UInt8) (t:List UInt8) (pre:List (List UInt8)) (v:Value) (W:World),JW w L0 .ready v pre.length (strs pre) (c::t) (c::t) W→c.toNat≤t.length→pre.length+(c::t).length≤s.length→
     (L0.assign).wpIn (Fence.wide.inRound (w.heap.size+4)) (n - 1) Try.prog (Exit.then (fun a₁ w₁=>∃ w₂,(Instr.beginRound (w.heap.size+4)).run Try.prog w₁=.ok () w₂ ∧
      L0.body.wpIn (Fence.wide.inRound (w.heap.size+4)) (n - 1) Try.prog (roundPost Try.prog (w.heap.size+4) fun e W'=>e=.returned (.bool true)∧∃ v',JW w L0 .ready v' (pre++[t.take c.toNat]).length (strs (pre++[t.take c.toNat])) (c::t) (t.drop c.toNat) W') a₁ w₂) (fun _ _ _=>False))
      { tmps:=(L0.params.zip #[.string ⟨(t.take c.toNat).toArray⟩,.string ⟨(t.drop c.toNat).toArray⟩]).foldl (fun t (p,v)=>t.setIfInBounds p v) L0.tmps,defers:=[] } W) :
    CallsIn Fence.wide n Try.prog 99 #[.func (.yield (w.heap.size+4)) #[] #[],.pointer (some ⟨w.heap.size+1+1,0,none⟩)] (W0.alloc (.loop L0)) fun e W'=>(∃ v,e=.returned v)∧∃ r,JR w s L0 r W'∧U11 r:=by
 refine X3j n hn (w.heap.size+4) (w.heap.size+1+1) (JR w s L0) (KR w s L0) ?_ ?_ ?_ ?_ _ s hJ
 ·rintro r W ⟨pre,v,h,_⟩
  exact h.box
 ·rintro r W d ⟨pre,v,h,h2⟩
  exact⟨pre,v,h.drawn d,h2⟩
 ·rintro c t W ⟨pre,v,h,h2,h3⟩ h0 h63 hle
  have hy:=run_yield (P:=Try.prog) (args:=#[.string ⟨(t.take c.toNat).toArray⟩,.string ⟨(t.drop c.toNat).toArray⟩]) h.loop (by simp[hps])
  refine⟨L0.fn,_,L0.assign,L0.body,hy,roundIn_of_wpIn trivial ?_⟩
  refine wpIn_mono (hround c t pre v W h hle h3) ?_
  intro e a' W' hq
  cases e<;>try exact hq
  obtain⟨w₂,hb,hw⟩:=hq
  refine⟨w₂,hb,wpIn_mono hw ?_⟩
  intro e a' W' hq
  cases e with
  | normal=>
    obtain⟨v1,w1,he,hr,v',hv'⟩:=hq
    refine⟨v1,w1,he,hr,c,t,_,v',rfl,hv',V05 pre h0 h63 hle h2,?_⟩
    simp at h3 ⊢
    omega
  | ret=>
    obtain⟨v1,w1,he,hr,v',hv'⟩:=hq
    refine⟨v1,w1,he,hr,c,t,_,v',rfl,hv',V05 pre h0 h63 hle h2,?_⟩
    simp at h3 ⊢
    omega
  | exit id=>
    obtain⟨v1,w1,he,hr,v',hv'⟩:=hq
    refine⟨v1,w1,he,hr,c,t,_,v',rfl,hv',V05 pre h0 h63 hle h2,?_⟩
    simp at h3 ⊢
    omega
  | goto id=>
    obtain⟨v1,w1,he,hr,v',hv'⟩:=hq
    refine⟨v1,w1,he,hr,c,t,_,v',rfl,hv',V05 pre h0 h63 hle h2,?_⟩
    simp at h3 ⊢
    omega
  | panic ch=>exact hq
  | outgrown=>exact hq
 ·rintro c t W ⟨c',t',pre,v,he,h,h2,h3⟩
  cases he
  exact⟨h.box,pre,v,h.setBox _,h2,h3⟩
theorem U1v {g:Operand} {ps:Array Tmp} {assign body:Code} {Q:Exit→Act→World→Prop} {a:Act} (n:Nat) (hn:3≤n) (w:World) (s:List UInt8) (w3:World)
    (hg:a.eval g=.func (.func 99) #[] #[.pointer (some ⟨w.heap.size+1+1,0,none⟩)]) (hps:ps.size=2) (hsz:w3.heap.size=w.heap.size+3)
    (b0:Boxed w3 w.heap.size 81 (.slice none 0 0)) (b1:Boxed w3 (w.heap.size+1) 9 (.string ⟨s.toArray⟩)) (b2:Boxed w3 (w.heap.size+2) 9 (.string ⟨s.toArray⟩)) (bB:Below w.heap.size w w3)
    (hround:∀ (L0:Loop) (_:L0.pending=none) (c:UInt8) (t:List UInt8) (pre:List (List UInt8)) (v:Value) (W:World),JW w L0 .ready v pre.length (strs pre) (c::t) (c::t) W→c.toNat≤t.length→pre.length+(c::t).length≤s.length→
     assign.wpIn (Fence.wide.inRound (w.heap.size+4)) (n - 1 - 1) Try.prog (Exit.then (fun a₁ w₁=>∃ w₂,(Instr.beginRound (w.heap.size+4)).run Try.prog w₁=.ok () w₂ ∧
      body.wpIn (Fence.wide.inRound (w.heap.size+4)) (n - 1 - 1) Try.prog (roundPost Try.prog (w.heap.size+4) fun e W'=>e=.returned (.bool true)∧∃ v',JW w L0 .ready v' (pre++[t.take c.toNat]).length (strs (pre++[t.take c.toNat])) (c::t) (t.drop c.toNat) W') a₁ w₂) (fun _ _ _=>False))
      { tmps:=(ps.zip #[.string ⟨(t.take c.toNat).toArray⟩,.string ⟨(t.drop c.toNat).toArray⟩]).foldl (fun t (p,v)=>t.setIfInBounds p v) a.tmps,defers:=[] } W)
    (hdone:∀ (L0:Loop) (pre:List (List UInt8)) (v:Value) (r:List UInt8) (W:World),JW w L0 .exhausted v pre.length (strs pre) r r W→Za s=(pre,r)→Q .normal { a with defers:={ target:=.collected w3.heap.size,args:=#[] }::a.defers } W) :
    (Code.rangeFunc g ps assign body).wpIn Fence.wide n Try.prog Q a w3:=by
 refine wpIn_rangeFunc ?_
 intro fn hfn
 obtain⟨L0,hL0⟩:∃ L0:Loop,L0={ state:=.ready,pending:=none,fn:=fn,tmps:=a.tmps,params:=ps,assign:=assign,body:=body,defers:=w3.heap.size }:=⟨_,rfl⟩
 have hJ:JR w s L0 s ((w3.alloc (.deferred (some []))).alloc (.loop L0)):=by
  have e0:L0={ L0 with state:=.ready }:=by rw[hL0]
  refine⟨[],.slice none 0 0,⟨(b0.alloc _).alloc _,World.ownsRow_nil _ _ _ _,(b1.alloc _).alloc _,(b2.alloc _).alloc _,((bB.alloc (by omega) _).alloc (by simp;omega) _),?_,?_⟩,by simp,by simp⟩
  ·have:=World.alloc_heap_new (w3.alloc (.deferred (some []))) (.loop L0)
   rw[World.size_alloc,hsz] at this
   rw[←e0]
   exact this
  ·rw[show w.heap.size+3=w3.heap.size by omega]
   exact(Below.heap_alloc _ _ _ (by simp)).trans (World.alloc_heap_new w3 _)
 refine⟨w.heap.size+4,[{ target:=.collected w3.heap.size,args:=#[] }],(w3.alloc (.deferred (some []))).alloc (.loop L0),{ target:=.fn (.func 99) #[.pointer (some ⟨w.heap.size+1+1,0,none⟩)],args:=#[.func (.yield (w.heap.size+4)) #[] #[]] },(w3.alloc (.deferred (some []))).alloc (.loop L0),99,
  #[.func (.yield (w.heap.size+4)) #[] #[],.pointer (some ⟨w.heap.size+1+1,0,none⟩)],(w3.alloc (.deferred (some []))).alloc (.loop L0),?_,?_,?_,?_,fun _=>(by omega),?_⟩
 ·rw[hL0,show w.heap.size+4=w3.heap.size+1 by omega]
  exact run_enterLoop_outer _ _ _ _ _
 ·simp only[resolve,hg]
  simp[go_sem]
 ·intro f' hf';trivial
 ·simp[invoke,go_sem]
 ·refine(Q2j (n - 1) w s _ L0 (by rw[hL0];exact hps) (by omega) hJ ?_).mono ?_
  ·intro c t pre v W hJ hle hb
   have:=hround L0 (by rw[hL0]) c t pre v W hJ hle hb
   rw[hL0] at this ⊢
   exact this
  ·rintro e W2 ⟨⟨v,rfl⟩,r,⟨pre,v',hJ2,he,_⟩,hstop⟩
   rw[V2i hstop,List.append_nil] at he
   have hend:=run_endLoop (P:=Try.prog) hJ2.loop (by simp)
   refine⟨none,_,?_,hdone L0 pre v' r _ (hJ2.putLoop (st':=.exhausted) rfl) he⟩
   rw[hend,hL0]
set_option maxHeartbeats 2000000 in
theorem V2x (n:Nat) (hn:3≤n) (s:List UInt8) (hs:s.length≤1000000000000) (w:World) :
    CallsIn Fence.wide n Try.prog 58 #[.string ⟨s.toArray⟩] w fun e W'=>∃ v,e=.returned v∧X3u w s v W':=by
 have h1:1≤n:=by omega
 obtain⟨i0,hi,hz0,hz1,hz2⟩:=info_parts info9
 refine callsIn_of_wp_marks Try.func58 rfl trivial ?_ rfl
 simp only[Try.ntmps58,List.size_toArray,List.length_cons,List.length_nil,Nat.reduceAdd,Nat.reduceSub,Array.replicate_succ,Array.replicate_zero,List.push_toArray,List.append_toArray,List.nil_append,List.cons_append]
 gi_wp2
 refine⟨trivial,(U3w (n - 1) s _).mono ?_⟩
 rintro e w' ⟨rfl,rfl⟩
 gi_wp2
 rename_i Q K hK
 obtain⟨w3,hw3⟩:∃ w3,((w.alloc (.cells #[.slice none 0 0] 81)).alloc (.cells #[.string ⟨s.toArray⟩] 9)).alloc (.cells #[.string ⟨s.toArray⟩] 9)=w3:=⟨_,rfl⟩
 have hsz:w3.heap.size=w.heap.size+3:=by rw[←hw3];simp
 have b0:Boxed w3 w.heap.size 81 (.slice none 0 0):=by rw[←hw3];exact((Boxed.new w 81 _).alloc _).alloc _
 have b1:Boxed w3 (w.heap.size+1) 9 (.string ⟨s.toArray⟩):=by
  rw[←hw3]
  have:=(Boxed.new (w.alloc (.cells #[.slice none 0 0] 81)) 9 (.string ⟨s.toArray⟩)).alloc (.cells #[.string ⟨s.toArray⟩] 9)
  simpa using this
 have b2:Boxed w3 (w.heap.size+2) 9 (.string ⟨s.toArray⟩):=by
  rw[←hw3]
  have:=Boxed.new ((w.alloc (.cells #[.slice none 0 0] 81)).alloc (.cells #[.string ⟨s.toArray⟩] 9)) 9 (.string ⟨s.toArray⟩)
  simpa using this
 have bB:Below w.heap.size w w3:=by
  rw[←hw3]
  exact(((Below.refl _ w).alloc (Nat.le_refl _) _).alloc (by simp) _).alloc (by simp;omega) _
 rw[hw3]
 refine U1v n hn w s w3 rfl rfl hsz b0 b1 b2 bB ?_ ?_
 ·intro L0 hpe c t pre v W hJ hle hb
  gi_wp2
  have hpl:pre.length+1≤s.length:=by simp at hb;omega
  refine⟨_,run_beginRound hJ.loop rfl,?_⟩
  have hJ2:=hJ.putLoop (st':=.busy) (L:={ { L0 with state:=.ready } with state:=.busy }) rfl
  obtain⟨W2,hW2⟩:∃ W2,W.putObj (w.heap.size+4) (.loop { { L0 with state:=.ready } with state:=.busy })=W2:=⟨_,rfl⟩
  rw[hW2] at hJ2 ⊢
  have hc:=hJ2.out.cell
  have hlt:=hJ2.lt
  gi_wp2_with (gi_at_builtin;refine wpListIn_append_own _ rfl _ _ 81 rfl (w.heap.size+5) 9 i0 (.string ⟨#[]⟩) 1 16 V3q hi hz0 hz1 hz2 rfl (by decide) _ _ _ rfl (hJ2.row.alloc _) ⟨W2.heap.size,0,none⟩ 1 1 [.string ⟨(t.take c.toNat).toArray⟩] rfl rfl (cell_one_new _ _ _) (by simp[Value.oneCell']) (by simp[maxLen];omega) (by omega) (by simp;omega) ?_;intro v' w1 hown' hgrow _;obtain⟨g',cap',rfl⟩:=ownsRow_succ hown';have hJ3:=hJ2.grown hown' hgrow;have hm:=hJ2.mid hgrow;have hc1:=hm.cell;have hf1:=hm.frozen;have hc2:=hJ3.left.cell;have hf2:=hJ3.left.frozen)
  have hJ4:=hJ3.setLeft (t.drop c.toNat)
  have hend:=run_endRound (P:=Try.prog) none hJ4.loop
  have hJ5:=hJ4.putLoop (st':=.ready) (L:={ { L0 with state:=.busy } with state:=if (none:Option Code).isNone then .ready else .done,pending:=none }) (by cases L0;cases hpe;rfl)
  rw[Z3b] at hJ5
  refine⟨_,_,hend,rfl,.slice (some ⟨g',0,none⟩) (pre.length+1) cap',?_⟩
  exact hJ5
 ·intro L0 pre v r W hJ he
  have hc:=hJ.left.cell
  have hc0:=hJ.out.cell
  have hdef:W.heap[w3.heap.size]?=some (.deferred (some [])):=by rw[hsz];exact hJ.dfr
  have hB:Below w.heap.size w (W.putObj w3.heap.size (.deferred none)):=
   ⟨hJ.bel.os,hJ.bel.tape,hJ.bel.output,by simpa using hJ.bel.size,fun j hj=>(World.putObj_heap_other (by omega)).trans (hJ.bel.block j hj)⟩
  have hrow:=ownsRow_putObj hJ.row (.deferred none) hdef rfl
  gi_wp2
  ·rename_i hr
   refine⟨by simp,.inl ⟨_,_,rfl,run_takeDeferred hdef,?_⟩⟩
   refine⟨_,results_tmp2 rfl _ _ _,_,rfl,_,_,rfl,hB,.inl ⟨?_,rfl,rfl⟩⟩
   rw[he]
   simpa using hr
  ·rename_i hr hl
   refine⟨by simp,.inl ⟨_,_,rfl,run_takeDeferred hdef,?_⟩⟩
   refine⟨_,results_tmp2 rfl _ _ _,_,rfl,_,_,rfl,hB,.inr (.inl ⟨?_,by omega,rfl,rfl⟩)⟩
   rw[he]
   simpa using hr
  ·rename_i hr hl
   refine⟨by simp,.inl ⟨_,_,rfl,run_takeDeferred hdef,?_⟩⟩
   refine⟨_,results_tmp2 rfl _ _ _,_,rfl,_,_,rfl,hB,.inr (.inr ⟨?_,by omega,rfl,?_⟩)⟩
   ·rw[he]
    simpa using hr
   ·rw[he]
    exact hrow
end Go.Proofs.YtkobjdhbfepkaaaB
namespace Go.Proofs.YtkobjdhbfepkaaaE
open Go Go.Proofs.YtkobjdhbfepkaaaB
set_option linter.unusedVariables false
set_option linter.unusedSimpArgs false
def J24 (s:List UInt8):List (List UInt8):=(Za s).1
def Z00 (s:List UInt8):Bool:=(Za s).2==[0]
theorem X20 {F:Nat→Prop} {w:World}:∀ (l:List (List UInt8)),EncL F w .str l (strs l)
 | []=>by simp[EncL,strs]
 | x::l=>by
   simp only[EncL]
   exact⟨[.string ⟨x.toArray⟩],strs l,rfl,rfl,X20 l⟩
theorem U41 {w:World} {base:Nat} {v:Value} {l:List (List UInt8)} (h:w.ownsRow base 9 1 v l.length (strs l)) {F:Nat→Prop} (hF:∀ b,v.ownBlock=some b→F b):Enc F w (.list .str) l [v]:=by
 refine Jd.2 ?_
 rcases h.2 with ⟨rfl,h0⟩ | ⟨g,cap,cur,rfl,hb,hg,hle,hcap,hcs,htk⟩
 ·have:l=[]:=List.length_eq_zero_iff.1 h0
  subst this
  exact⟨none,0,rfl,by simp,fun _=>rfl,fun a ha=>by cases ha⟩
 ·refine⟨some ⟨g,0,none⟩,cap,rfl,hle,fun h=>(by cases h),fun a ha _=>?_⟩
  cases ha
  refine⟨rfl,hF g rfl,X31 (X20 l) fun j u hu=>?_⟩
  have:=h.cells (g:=g) rfl j u hu
  rw[Vb] at this
  exact this
theorem U2k (s:List UInt8) (hb:bigS s=true):SemF Try.prog 58 [.str s] []
    (if (Za s).2=[0] then (if s.length≤255 then [.list .str (J24 s),.int .i64 0] else [.list .str [],.int .i64 3]) else [.list .str [],.int .i64 2]) []:=by
 have hs:s.length≤1000000000000:=by simpa[bigS] using hb
 refine⟨⟨_,Try.func58,by decide,by kernel_rfl⟩,fun w μ F us hh hv=>?_⟩
 simp only[U0,VRel] at hv
 obtain⟨u,us',rfl,rfl,rfl⟩:=hv
 have h:=callsIn_wide.1 (V2x 3 (by omega) s hs w)
 refine h.mono ?_
 rintro e w' ⟨v,rfl,u,en,rfl,hB,hc⟩
 have hμ:∀ k,μ k=.none:=fun k=>hh.top k (by simp)
 refine⟨_,rfl,fun _=>.none,fun b=>F b∨(w.heap.size≤b∧b < w'.heap.size),?_,⟨fun k hk=>by simp at hk,fun _ _=>rfl,fun k k' b h=>by simp[Pl.own] at h,fun k b h=>by simp[Pl.own] at h,fun b hb=>?_⟩,
  ⟨hB.os,hB.tape,hB.output,hB.size,fun b hb _=>hB.block b hb,fun b hb=>.inl hb,fun b hb=>?_,fun k b h=>by simp[Pl.own] at h⟩,by simp,fun k b hk=>by simp at hk,fun k b hk=>by simp at hk⟩
 ·rcases hc with ⟨h1,rfl,rfl⟩ | ⟨h1,h2,rfl,rfl⟩ | ⟨h1,h2,rfl,hrow⟩
  ·rw[if_neg h1]
   simp only[Q8,VRel,U0]
   exact⟨_,rfl,_,_,rfl,⟨none,0,rfl,by simp,fun _=>rfl,fun a ha=>by cases ha⟩,_,_,rfl,rfl,rfl⟩
  ·rw[if_pos h1,if_neg (by omega)]
   simp only[Q8,VRel,U0]
   exact⟨_,rfl,_,_,rfl,⟨none,0,rfl,by simp,fun _=>rfl,fun a ha=>by cases ha⟩,_,_,rfl,rfl,rfl⟩
  ·rw[if_pos h1,if_pos h2]
   simp only[Q8,VRel,U0]
   refine⟨_,rfl,_,_,rfl,U41 hrow (fun b hb=>.inr ?_),_,_,rfl,rfl,rfl⟩
   have:=hrow.lt b hb
   omega
 ·rcases hb with hb | hb
  ·exact Nat.lt_of_lt_of_le (hh.inn b hb) hB.size
  ·exact hb.2
 ·rcases hb with hb | hb
  ·exact .inl hb
  ·exact .inr (.inr hb.1)
def fs58:FSpec:={ f:=58,ins:=[(.str,false)],outs:=[(.list .str,false),(.int .i64,false)],F:=fun(s,_)=>.br (bigS s) (.br (Z00 s) (.br (decide (s.length > 255)) (.ret (([]:List (List UInt8)),(3:Int),())) (.ret (J24 s,(0:Int),()))) (.ret (([]:List (List UInt8)),(2:Int),()))) .no }
theorem X47:fs58.Ok Try.prog:=by
 rintro⟨(s:List UInt8),_⟩ y h
 simp only[fs58,Tr.get] at h
 cases hb:bigS s with
 | false=>rw[hb] at h;cases h
 | true=>
   rw[hb,cond_true] at h
   have:=U2k s hb
   cases hr:Z00 s with
   | false=>
     rw[hr,cond_false] at h
     cases h
     have hne:(Za s).2≠[0]:=by simpa[Z00] using hr
     rw[if_neg hne] at this
     exact this
   | true=>
     rw[hr,cond_true] at h
     have he:(Za s).2=[0]:=by simpa[Z00] using hr
     rw[if_pos he] at this
     by_cases hl:s.length≤255
     ·rw[if_pos hl] at this
      rw[show decide (s.length > 255)=false by simp;omega,cond_false] at h
      cases h
      exact this
     ·rw[if_neg hl] at this
      rw[show decide (s.length > 255)=true by simp;omega,cond_true] at h
      cases h
      exact this
def t41 (n:List UInt8):Tr Res:=.br (bigS n) (.br (Z00 n) (.br (decide (List.length n > 255)) (.ret ([.bool false],[])) (.br (bigS n) (.ret ([.bool (Vx n==n)],[])) .no)) (.ret ([.bool false],[]))) .no
def os41:OSpec:={ f:=41,sh:=[.d .str false],so:=[],F:=fun(n,_) _=>t41 n }
theorem fn41 (n:List UInt8):evC T0 (orcB [fs58,Z45] []) (lpOf h41 0 (lsOf [])) c41 1000000 (Z1 [.str n] [] Try.f41.ntmps) (J1 T0 false 0 Try.f41)=(t41 n).get:=by kernel_rfl
theorem ok41:os41.Ok Try.prog:=by
 refine V3 Q1 tab0 (V0 (all_cons X47 (all_cons Q4g Z0)) Z0) h41 (d:=0) (n0:=0) (S:=lsOf []) Try.func41 (by kernel_rfl) (c:=c41) (by kernel_rfl) rfl (Z2 (by kernel_rfl)) (by omega) (by kernel_rfl) ?_
 intro x'' y'' q'' hq''
 obtain⟨(n:List UInt8),_⟩:=x''
 exact(fn41 n).trans hq''
def fs41:FSpec:=fsT 41 [(.str,false)] [(.bool,false)] fun(n,_)=>t41 n
theorem okf41:fs41.Ok Try.prog:=X5 fun x'' r'' hr''=>ok41 x'' () r'' hr''
def mayV (s:List UInt8):Bool:=Z00 s&&(Nat.ble s.length 255&&(Vx s==s))
theorem Q10 {a b:Nat}:Nat.ble a b=decide (a≤b):=by
 by_cases h:a≤b
 ·rw[decide_eq_true h,Nat.ble_eq_true_of_le h]
 ·rw[decide_eq_false h]
  cases hb:Nat.ble a b with
  | false=>rfl
  | true=>exact absurd (Nat.le_of_ble_eq_true hb) h
def X0v:FSpec:=fs41.like fun(s,_)=>.on (bigS s) (mayV s,())
theorem J0h:X0v.Ok Try.prog:=by
 refine J3 okf41 _ ?_
 rintro⟨(s:List UInt8),_⟩ y h
 obtain⟨hb,rfl⟩:=Tr.get_on h
 refine J2 (vs:=[.bool (mayV s)]) rfl rfl (Tr.get_of_all ?_)
 show (t41 s).all _
 refine Tr.all_t hb (Tr.all_br (fun c1=>Tr.all_br (fun c2=>Tr.all_ret ?_) fun c2=>Tr.all_t hb (Tr.all_ret ?_)) fun c1=>Tr.all_ret ?_)
 ·simp only[decide_eq_true_eq] at c2
  have:¬ s.length≤255:=by omega
  simp[mayV,Q10,this]
 ·simp only[decide_eq_false_iff_not] at c2
  have:s.length≤255:=by omega
  simp[mayV,Q10,this,c1]
 ·simp[mayV,c1]
def tlN (n:List UInt8):List UInt8:=n.drop (1+(n.getD 0 0).toNat)
theorem J14 {n:List UInt8} (h:n≠[]):(tlN n).length < n.length:=by
 have:=List.length_pos_iff.2 h
 simp[tlN]
 omega
theorem U04 {n:List UInt8} (h:Z00 n=true):n=[0]∨(n≠[0]∧n≠[]∧1+(n.getD 0 0).toNat < n.length∧(n.getD 0 0).toNat≤63∧(n.getD 0 0).toNat≠0∧Z00 (tlN n)=true):=by
 unfold Z00 at h
 cases n with
 | nil=>rw[Za] at h;simp at h
 | cons c t=>
   rw[Za] at h
   split at h
   ·exact .inl (by simpa using h)
   ·rename_i hc
    refine .inr ⟨fun e=>?_,by simp,?_,?_,?_,?_⟩
    ·cases e;simp at hc
    ·have he:(t.drop c.toNat)≠[]:=fun e=>by
      rw[e,Za] at h
      simp at h
     have:=List.length_pos_iff.2 he
     simp at this ⊢
     omega
    ·simp;omega
    ·simp;omega
    ·unfold Z00 tlN
     simpa[Nat.add_comm 1] using h
theorem Z2l (n:List UInt8):(tlN n).length=n.length - (1+(n.getD 0 0).toNat):=by unfold tlN;rw[List.length_drop]
theorem szW (n:List UInt8):IntKind.wrap IntKind.i64 ((1:Int)+IntKind.wrap IntKind.i64 (↑(UInt8.toNat (List.getD n (Int.toNat (0:Int)) 0)):Int))=((1+(n.getD 0 0).toNat:Nat):Int):=by
 have:=(n.getD 0 0).toNat_lt
 rw[show Int.toNat (0:Int)=0 from rfl]
 rw[IntWalk.i64_in (((n.getD 0 0).toNat:Nat):Int) (by omega),IntWalk.i64_in _ (by omega)]
 omega
theorem tlW (n:List UInt8):List.take (Int.toNat (↑(List.length n):Int) - Int.toNat ((1+(n.getD 0 0).toNat:Nat):Int)) (List.drop (Int.toNat ((1+(n.getD 0 0).toNat:Nat):Int)) n)=tlN n:=by
 rw[Int.toNat_natCast,Int.toNat_natCast]
 exact List.take_of_length_le (by simp)
theorem getD_some {α:Type} {o:Option α} {a d:α} (h:o=some a):o.getD d=a:=by rw[h];rfl
def toT (s:List UInt8) (at_:Int):Int:=n16 s at_ % 16384
section
variable {s:List UInt8} {at_ from_ behind:Int} {out:List UInt8}
end
theorem X2u (s:List UInt8):(Vx s).length=s.length:=by simp[Vx]
end Go.Proofs.YtkobjdhbfepkaaaE
namespace Go.Proofs.YtkobjdhbfepkaaaE
open Go Go.Proofs.YtkobjdhbfepkaaaB
set_option linter.unusedVariables false
set_option linter.unusedSimpArgs false
theorem V2u (a b:List UInt8):Vx (a++b)=Vx a++Vx b:=by simp[Vx]
def Z14 (s:List UInt8):Prop:=Vx s=s
theorem Z2x {a b:List UInt8}:Z14 (a++b)↔Z14 a∧Z14 b:=by
 unfold Z14
 rw[V2u]
 constructor
 ·intro h
  have h1:=(List.append_inj h (X2u a))
  exact h1
 ·rintro⟨h1,h2⟩
  rw[h1,h2]
def byN (s:List UInt8) (k:Nat):Nat:=(s.getD k 0).toNat
inductive Rd (S:List UInt8):Nat→Nat→List UInt8→Nat→Prop where
 | root {k f:Nat} (h:k < S.length) (h0:byN S k=0):Rd S k f [0] (k+1)
 | label {k f e:Nat} {n:List UInt8} (h1:byN S k≠0) (h63:byN S k≤63) (hin:k+1+byN S k≤S.length) (h:Rd S (k+1+byN S k) f n e) :
     Rd S k f (S.getD k 0::Vx ((S.drop (k+1)).take (byN S k))++n) e
 | ptr {k f e:Nat} {n:List UInt8} {to:Nat} (h192:192≤byN S k) (hin:k+2≤S.length) (hto:toT S (k:Int)=to) (hlt:to < f) (h:Rd S to to n e):Rd S k f n (k+2)
theorem Z3m {S X:List UInt8} {k:Nat} (h:k < S.length):(S++X).getD k 0=S.getD k 0:=by
 rw[List.getD_eq_getElem?_getD,List.getD_eq_getElem?_getD,List.getElem?_append_left h]
theorem V3z {S X:List UInt8} {k:Nat} (h:k < S.length):byN (S++X) k=byN S k:=by unfold byN;rw[Z3m h]
theorem U03 {n:List UInt8}:mayV n=true↔Z00 n=true∧n.length≤255∧Z14 n:=by
 unfold mayV Z14
 rw[Q10]
 simp
theorem Z2u {α:Type} {l:List α} {i:Int} (d:α) (h0:0≤i) (h:i < l.length):l.drop i.toNat=l.getD i.toNat d::l.drop (i+1).toNat∧l.getD i.toNat d∈l:=by
 have hk:i.toNat < l.length:=by omega
 rw[List.getD_eq_getElem?_getD,List.getElem?_eq_getElem hk,show (i+1).toNat=i.toNat+1 by omega]
 exact⟨List.drop_eq_getElem_cons hk,List.getElem_mem hk⟩
def layV (k:Int):List Int:=if k=1 then [4] else if k=28 then [16] else if k=2∨k=5∨k=12 then [-1] else if k=15 then [2,-1] else if k=6 then [-1,-1,20] else if k=16 then [-2] else [-3]
def whAt (s:List UInt8) (k:Nat):Nat:=if h:k < s.length∧0 < byN s k then whAt s (k+1+byN s k) else k
termination_by s.length - k
def X6 (s:List UInt8):Nat:=if whAt s 0 < s.length∧mayV (s.take (whAt s 0+1))=true then whAt s 0+1 else 0
theorem J0s (s:List UInt8):X6 s≤s.length:=by
 unfold X6
 split<;>omega
def txAt (s:List UInt8) (k:Nat):Nat:=if h:k < s.length then txAt s (k+1+byN s k) else k
termination_by s.length - k
def Z0j (s:List UInt8):Bool:=!s.isEmpty&&decide (txAt s 0=s.length)
def szP (p:Int) (d:List UInt8):Int:=if p=-1 then (X6 d:Int) else if p=-2∧Z0j d=true∨p=-3 then (d.length:Int) else p
def okP (p:Int) (d:List UInt8):Bool:=decide (0≤szP p d)&&(decide (szP p d≤(d.length:Int))&&!(decide (p=-1)&&decide (szP p d=0)))
def cutS:List Int→List UInt8→List (List UInt8)→Bool×(List UInt8×List (List UInt8))
 | [],d,out=>(true,d,out)
 | p::ps,d,out=>if okP p d=true then cutS ps (d.drop (szP p d).toNat) (out++[d.take (szP p d).toNat]) else (false,d,out)
def noS (l:List (List UInt8)):Bool:=l.isEmpty
def cutC (d:List UInt8) (ps:List Int) (n i:Int) (l:List (List UInt8)):Bool:=bigS d&&(decide (n=ps.length)&&(decide (i=0)&&(noS l&&decide (ps.length≤10))))
def okV (k:Int) (d:List UInt8):Bool:=(cutS (layV k) d []).1
def Q12 (k:Int) (d:List UInt8):List UInt8:=(cutS (layV k) d []).2.1
def Xe (k:Int) (d:List UInt8):List (List UInt8):=(cutS (layV k) d []).2.2
def mayR (k:Int) (d:List UInt8):Bool:=(okV k d&&(Q12 k d).isEmpty)&&Nat.ble d.length 65535
def t102:Tr Res:=.ret ([.mp 0],[.mpo (Ty.int .u16) (Ty.list (.int .i64)) [(1,[4]),(28,[16]),(2,[(-1:Int)]),(5,[(-1:Int)]),(12,[(-1:Int)]),(15,[2,(-1:Int)]),(6,[(-1:Int),(-1:Int),20]),(16,[(-2:Int)])]])
def J44:OSpec:={ f:=102,sh:=[],so:=[],F:=fun _ _=>t102 }
theorem fn102:evC T0 (orcB [] []) (lpOf (hOwn h102) 0 (lsOf [])) c102 1000000 (Z1 [] [] Try.f102.ntmps) (J1 T0 true 0 Try.f102)=(t102).get:=by kernel_rfl
theorem ok102:J44.Ok Try.prog:=by
 refine V3 Q1 tab0 (V0 Z0 Z0) (hOwn h102) (d:=0) (n0:=0) (S:=lsOf []) Try.func102 (by kernel_rfl) (c:=c102) (by kernel_rfl) rfl (Z2 (by kernel_rfl)) (by omega) (by kernel_rfl) ?_
 intro x'' y'' q'' hq''
 exact(fn102).trans hq''
def t94 (k:Int):Tr Res:=.br (!hasM (Ty.int .u16) (Ty.list (.int .i64)) k [(1,[4]),(28,[16]),(2,[(-1:Int)]),(5,[(-1:Int)]),(12,[(-1:Int)]),(15,[2,(-1:Int)]),(6,[(-1:Int),(-1:Int),20]),(16,[(-2:Int)])]) (.ret ([.list (.int .i64) [(-3:Int)]],[])) (.ret ([.list (.int .i64) (getM (Ty.int .u16) (Ty.list (.int .i64)) k [(1,[4]),(28,[16]),(2,[(-1:Int)]),(5,[(-1:Int)]),(12,[(-1:Int)]),(15,[2,(-1:Int)]),(6,[(-1:Int),(-1:Int),20]),(16,[(-2:Int)])])],[]))
def os94:OSpec:={ f:=94,sh:=[.d (.int .u16) false],so:=[],F:=fun(k,_) _=>t94 k }
theorem fn94 (k:Int):evC T0 (orcB [] [J44]) (lpOf h94 0 (lsOf [])) c94 1000000 (Z1 [.int .u16 k] [] Try.f94.ntmps) (J1 T0 false 0 Try.f94)=(t94 k).get:=by kernel_rfl
theorem ok94:os94.Ok Try.prog:=by
 refine V3 Q1 tab0 (V0 Z0 (all_cons ok102 Z0)) h94 (d:=0) (n0:=0) (S:=lsOf []) Try.func94 (by kernel_rfl) (c:=c94) (by kernel_rfl) rfl (Z2 (by kernel_rfl)) (by omega) (by kernel_rfl) ?_
 intro x'' y'' q'' hq''
 obtain⟨(k:Int),_⟩:=x''
 exact(fn94 k).trans hq''
def fs94:FSpec:=fsT 94 [((.int .u16),false)] [((.list (.int .i64)),false)] fun(k,_)=>t94 k
theorem okf94:fs94.Ok Try.prog:=X5 fun x'' r'' hr''=>ok94 x'' () r'' hr''
noncomputable def b95:Code:=X4 c95 0
def ls95:LoopSpec:={ bid:=0,sh:=[.d .str false,.d (.int .i64) false],so:=[],F:=fun(s,at_,_) _=>.on (bigS s&&decide (at_=0)) (.exit 0,[.str s,.int .i64 (whAt s 0)],[]) }
def r95 (s:List UInt8) (at_:Int):Tr (St⊕(Ex×St)):=.br (decide (at_ < (↑s.length:Int))) (.br (decide (0≤at_)) (.br (decide (at_ < (↑s.length:Int))) (.br (decide ((↑(UInt8.toNat (s.getD at_.toNat 0)):Int) > 0)) (.br (decide (0≤at_)) (.br (decide (at_ < (↑s.length:Int))) (.ret (.inl (stOf [0,3] [.str s,.int .i64 (IntKind.wrap .i64 (at_+IntKind.wrap .i64 (1+IntKind.wrap .i64 (↑(UInt8.toNat (s.getD at_.toNat 0)):Int))))] []))) .no) .no) (.ret (.inr (.exit 0,stOf [0,3] [.str s,.int .i64 at_] [])))) .no) .no) (.ret (.inr (.exit 0,stOf [0,3] [.str s,.int .i64 at_] [])))
theorem Q40 (orc:Orc) (lp:Lp) (s:List UInt8) (at_:Int):evC T0 orc lp b95 0 (stOf [0,3] [.str s,.int .i64 at_] []) (Q0 [0,3] [0,3] 0)=(r95 s at_).get:=by kernel_rfl
theorem wf95 (orc:Orc) (s:List UInt8) (I'':Int→Prop) (m'':Int→Nat) (r'':Ex×St) (h:∀ (at_:Int),I'' at_→(r95 s at_).all fun x''=>x''=.inr r''∨∃ (at_':Int),x''=.inl (stOf [0,3] [.str s,.int .i64 at_'] [])∧I'' at_'∧m'' at_' < m'' at_) (lp:Lp) (at_:Int):I'' at_→
    X2 (fun st=>evC T0 orc lp b95 0 st (Q0 [0,3] [0,3] 0)) (stOf [0,3] [.str s,.int .i64 at_] [])=some r'':=
 U4 (fun a'':Int=>stOf [0,3] [.str s,.int .i64 a''] []) (fun a''=>I'' a'') (fun a''=>m'' a'') r'' (fun a''=>r95 s a'')
  (fun a'' x hx=>(Q40 orc lp s a'').trans hx) (fun a'' ha=>Tr.all_mono (fun x'' hx=>hx.imp id fun⟨at_',h1,h2,h3⟩=>⟨(at_'),h1,h2,h3⟩) (h (a'') ha)) (at_)
theorem X4b (orc:Orc):ls95.Ok T0 orc h95 0 0 b95:=by
 intro q'' hq'' x'' y'' r'' h
 obtain⟨(s:List UInt8),(at_:Int),_⟩:=x''
 obtain⟨hc,rfl⟩:=Tr.get_on h
 show X2 (fun st=>evC T0 orc (lpN T0 orc h95 0 q'') b95 0 st (Q0 [0,3] [0,3] 0)) (stOf [0,3] [.str s,.int .i64 at_] [])=some (.exit 0,stOf [0,3] ([.str s,.int .i64 (whAt s 0)]) ([]))
 simp only[Bool.and_eq_true,decide_eq_true_eq] at hc
 obtain⟨hb,rfl⟩:=hc
 refine wf95 _ s (fun a=>0≤a∧whAt s a.toNat=whAt s 0) (fun a=>(s.length - a).toNat) _ ?_ _ 0 ⟨by omega,rfl⟩
 rintro a ⟨h1,h2⟩
 have hB:s.length≤1000000000000:=by simpa[bigS] using hb
 have hto:((a.toNat:Nat):Int)=a:=Int.toNat_of_nonneg h1
 unfold r95
 rw[←h2,whAt.eq_1 s a.toNat]
 by_cases hk:a.toNat < s.length
 ·have hb0:(↑(UInt8.toNat (List.getD s (Int.toNat a) 0)):Int)=(byN s a.toNat:Int):=rfl
  have hbl:byN s a.toNat < 256:=(s.getD a.toNat 0).toNat_lt
  rw[hb0]
  simp (disch:=omega) only[IntWalk.i64_in]
  refine Tr.all_t (J0 (by omega)) (Tr.all_t (J0 h1) (Tr.all_t (J0 (by omega)) (Tr.all_br (fun c1=>Tr.all_t (J0 h1) (Tr.all_t (J0 (by omega)) (Tr.all_ret (.inr ⟨_,rfl,⟨by omega,?_⟩,by omega⟩)))) fun c1=>Tr.all_ret (.inl ?_))))
  ·simp only[decide_eq_true_eq] at c1
   rw[dif_pos ⟨hk,by omega⟩]
   congr 1
   omega
  ·simp only[decide_eq_false_iff_not] at c1
   rw[dif_neg (by omega),hto]
 ·rw[dif_neg (by omega),hto]
  exact Tr.all_f (X0 (by omega)) (Tr.all_ret (.inl rfl))
noncomputable def b96:Code:=X4 c96 0
def ls96:LoopSpec:={ bid:=0,sh:=[.d .str false,.d (.int .i64) false],so:=[],F:=fun(s,at_,_) _=>.on (bigS s&&decide (at_=0)) (.exit 0,[.str s,.int .i64 (txAt s 0)],[]) }
def r96 (s:List UInt8) (at_:Int):Tr (St⊕(Ex×St)):=.br (decide (at_ < (↑s.length:Int))) (.br (decide (0≤at_)) (.br (decide (at_ < (↑s.length:Int))) (.ret (.inl (stOf [0,3] [.str s,.int .i64 (IntKind.wrap .i64 (at_+IntKind.wrap .i64 (1+IntKind.wrap .i64 (↑(UInt8.toNat (s.getD at_.toNat 0)):Int))))] []))) .no) .no) (.ret (.inr (.exit 0,stOf [0,3] [.str s,.int .i64 at_] [])))
theorem J3r (orc:Orc) (lp:Lp) (s:List UInt8) (at_:Int):evC T0 orc lp b96 0 (stOf [0,3] [.str s,.int .i64 at_] []) (Q0 [0,3] [0,3] 0)=(r96 s at_).get:=by kernel_rfl
theorem wf96 (orc:Orc) (s:List UInt8) (I'':Int→Prop) (m'':Int→Nat) (r'':Ex×St) (h:∀ (at_:Int),I'' at_→(r96 s at_).all fun x''=>x''=.inr r''∨∃ (at_':Int),x''=.inl (stOf [0,3] [.str s,.int .i64 at_'] [])∧I'' at_'∧m'' at_' < m'' at_) (lp:Lp) (at_:Int):I'' at_→
    X2 (fun st=>evC T0 orc lp b96 0 st (Q0 [0,3] [0,3] 0)) (stOf [0,3] [.str s,.int .i64 at_] [])=some r'':=
 U4 (fun a'':Int=>stOf [0,3] [.str s,.int .i64 a''] []) (fun a''=>I'' a'') (fun a''=>m'' a'') r'' (fun a''=>r96 s a'')
  (fun a'' x hx=>(J3r orc lp s a'').trans hx) (fun a'' ha=>Tr.all_mono (fun x'' hx=>hx.imp id fun⟨at_',h1,h2,h3⟩=>⟨(at_'),h1,h2,h3⟩) (h (a'') ha)) (at_)
theorem J4b (orc:Orc):ls96.Ok T0 orc h96 0 0 b96:=by
 intro q'' hq'' x'' y'' r'' h
 obtain⟨(s:List UInt8),(at_:Int),_⟩:=x''
 obtain⟨hc,rfl⟩:=Tr.get_on h
 show X2 (fun st=>evC T0 orc (lpN T0 orc h96 0 q'') b96 0 st (Q0 [0,3] [0,3] 0)) (stOf [0,3] [.str s,.int .i64 at_] [])=some (.exit 0,stOf [0,3] ([.str s,.int .i64 (txAt s 0)]) ([]))
 simp only[Bool.and_eq_true,decide_eq_true_eq] at hc
 obtain⟨hb,rfl⟩:=hc
 refine wf96 _ s (fun a=>0≤a∧txAt s a.toNat=txAt s 0) (fun a=>(s.length - a).toNat) _ ?_ _ 0 ⟨by omega,rfl⟩
 rintro a ⟨h1,h2⟩
 have hB:s.length≤1000000000000:=by simpa[bigS] using hb
 have hto:((a.toNat:Nat):Int)=a:=Int.toNat_of_nonneg h1
 unfold r96
 rw[←h2,txAt.eq_1 s a.toNat]
 by_cases hk:a.toNat < s.length
 ·have hb0:(↑(UInt8.toNat (List.getD s (Int.toNat a) 0)):Int)=(byN s a.toNat:Int):=rfl
  have hbl:byN s a.toNat < 256:=(s.getD a.toNat 0).toNat_lt
  rw[hb0]
  simp (disch:=omega) only[IntWalk.i64_in]
  refine Tr.all_t (J0 (by omega)) (Tr.all_t (J0 h1) (Tr.all_t (J0 (by omega)) (Tr.all_ret (.inr ⟨_,rfl,⟨by omega,?_⟩,by omega⟩))))
  rw[dif_pos hk]
  congr 1
  omega
 ·rw[dif_neg hk,hto]
  exact Tr.all_f (X0 (by omega)) (Tr.all_ret (.inl rfl))
def t95 (s:List UInt8):Tr Res:=.br (bigS s&&decide (0=(0:Ty.den (Ty.int .i64)))) (.br (decide ((↑(whAt s 0):Int)≥(↑s.length:Int))) (.ret ([.int .i64 0],[])) (.br (decide (0≤IntKind.wrap .i64 ((↑(whAt s 0):Int)+1))&&decide (IntKind.wrap .i64 ((↑(whAt s 0):Int)+1)≤(↑s.length:Int))) (.br (decide (0≤0)&&decide (0≤IntKind.wrap .i64 ((↑(whAt s 0):Int)+1))) (.br (bigS (List.take (Int.toNat (IntKind.wrap .i64 ((↑(whAt s 0):Int)+1)) - Int.toNat 0) (List.drop (Int.toNat 0) s))) (.br (!mayV (List.take (Int.toNat (IntKind.wrap .i64 ((↑(whAt s 0):Int)+1)) - Int.toNat 0) (List.drop (Int.toNat 0) s))) (.ret ([.int .i64 0],[])) (.ret ([.int .i64 (IntKind.wrap .i64 ((↑(whAt s 0):Int)+1))],[]))) .no) .no) .no)) .no
def os95:OSpec:={ f:=95,sh:=[.d .str false],so:=[],F:=fun(s,_) _=>t95 s }
theorem fn95 (s:List UInt8):evC T0 (orcB [X0v] []) (lpOf h95 0 (lsOf [ls95])) c95 1000000 (Z1 [.str s] [] Try.f95.ntmps) (J1 T0 false 0 Try.f95)=(t95 s).get:=by kernel_rfl
theorem ok95:os95.Ok Try.prog:=by
 refine V3 Q1 tab0 (V0 (all_cons J0h Z0) Z0) h95 (d:=0) (n0:=0) (S:=lsOf [ls95]) Try.func95 (by kernel_rfl) (c:=c95) (by kernel_rfl) rfl (Q5 (xs:=[(0,b95)]) (by kernel_rfl) (all_cons (Q4 (X4b _)) Z0)) (by omega) (by kernel_rfl) ?_
 intro x'' y'' q'' hq''
 obtain⟨(s:List UInt8),_⟩:=x''
 exact(fn95 s).trans hq''
def fs95:FSpec:=fsT 95 [(.str,false)] [((.int .i64),false)] fun(s,_)=>t95 s
theorem okf95:fs95.Ok Try.prog:=X5 fun x'' r'' hr''=>ok95 x'' () r'' hr''
def X17:FSpec:=fs95.like fun(s,_)=>.on (bigS s) ((X6 s:Int),())
theorem U4e:X17.Ok Try.prog:=by
 refine J3 okf95 _ ?_
 rintro⟨(s:List UInt8),_⟩ y h
 obtain⟨hb,rfl⟩:=Tr.get_on h
 refine J2 (vs:=[.int .i64 (X6 s)]) rfl rfl (Tr.get_of_all ?_)
 show (t95 s).all _
 unfold t95 X6
 have hB:s.length≤1000000000000:=by simpa[bigS] using hb
 refine Tr.all_t (by rw[hb];rfl) ?_
 by_cases hk:whAt s 0 < s.length
 ·have hw:IntKind.wrap .i64 ((whAt s 0:Int)+1)=(whAt s 0:Int)+1:=IntWalk.i64_in _ (by omega)
  have hs:List.take (Int.toNat ((whAt s 0:Int)+1) - Int.toNat 0) (List.drop (Int.toNat 0) s)=s.take (whAt s 0+1):=by
   rw[show Int.toNat ((whAt s 0:Int)+1) - Int.toNat 0=whAt s 0+1 by omega];rfl
  rw[hw,hs]
  refine Tr.all_f (X0 (by omega)) (Tr.all_t (by rw[J0 (by omega),J0 (by omega)];rfl) (Tr.all_t (by rw[J0 (by omega),J0 (by omega)];rfl) (Tr.all_t (by simp[bigS];omega) (Tr.all_br (fun c1=>Tr.all_ret ?_) fun c1=>Tr.all_ret ?_))))
  ·rw[Bool.not_eq_true'] at c1
   rw[if_neg (by rw[c1];simp)]
   rfl
  ·rw[Bool.not_eq_false'] at c1
   rw[if_pos ⟨hk,c1⟩]
   rfl
 ·rw[if_neg (fun h=>hk h.1)]
  exact Tr.all_t (J0 (by omega)) (Tr.all_ret rfl)
def t96 (s:List UInt8):Tr Res:=.br (bigS s&&decide (0=(0:Ty.den (Ty.int .i64)))) (.br (!s==[]) (.ret ([.bool ((↑(txAt s 0):Int)==(↑s.length:Int))],[])) (.ret ([.bool false],[]))) .no
def os96:OSpec:={ f:=96,sh:=[.d .str false],so:=[],F:=fun(s,_) _=>t96 s }
theorem fn96 (s:List UInt8):evC T0 (orcB [] []) (lpOf h96 0 (lsOf [ls96])) c96 1000000 (Z1 [.str s] [] Try.f96.ntmps) (J1 T0 false 0 Try.f96)=(t96 s).get:=by kernel_rfl
theorem ok96:os96.Ok Try.prog:=by
 refine V3 Q1 tab0 (V0 Z0 Z0) h96 (d:=0) (n0:=0) (S:=lsOf [ls96]) Try.func96 (by kernel_rfl) (c:=c96) (by kernel_rfl) rfl (Q5 (xs:=[(0,b96)]) (by kernel_rfl) (all_cons (Q4 (J4b _)) Z0)) (by omega) (by kernel_rfl) ?_
 intro x'' y'' q'' hq''
 obtain⟨(s:List UInt8),_⟩:=x''
 exact(fn96 s).trans hq''
def fs96:FSpec:=fsT 96 [(.str,false)] [(.bool,false)] fun(s,_)=>t96 s
theorem okf96:fs96.Ok Try.prog:=X5 fun x'' r'' hr''=>ok96 x'' () r'' hr''
def V12:FSpec:=fs96.like fun(s,_)=>.on (bigS s) (Z0j s,())
theorem U4g:V12.Ok Try.prog:=by
 refine J3 okf96 _ ?_
 rintro⟨(s:List UInt8),_⟩ y h
 obtain⟨hb,rfl⟩:=Tr.get_on h
 refine J2 (vs:=[.bool (Z0j s)]) rfl rfl (Tr.get_of_all ?_)
 show (t96 s).all _
 unfold t96 Z0j
 refine Tr.all_t (by rw[hb];rfl) (Tr.all_br (fun c1=>Tr.all_ret ?_) fun c1=>Tr.all_ret ?_)
 ·have:s.isEmpty=false:=by cases s with | nil=>cases c1 | cons _ _=>rfl
  rw[this]
  congr 3
  rw[Bool.eq_iff_iff]
  simp
  omega
 ·have:s.isEmpty=true:=by cases s with | nil=>rfl | cons _ _=>cases c1
  rw[this]
  rfl
def Z0n:FSpec:=fs94.like fun(k,_)=>.ret (layV k,())
theorem Z2j:Z0n.Ok Try.prog:=by
 refine J3 okf94 _ ?_
 rintro⟨(k:Int),_⟩ y h
 cases h
 refine J2 (vs:=[.list (.int .i64) (layV k)]) rfl rfl (Tr.get_of_all ?_)
 show (t94 k).all _
 by_cases h1:k=1
 ·subst h1;exact Tr.all_f rfl (Tr.all_ret rfl)
 by_cases h2:k=28
 ·subst h2;exact Tr.all_f rfl (Tr.all_ret rfl)
 by_cases h3:k=2
 ·subst h3;exact Tr.all_f rfl (Tr.all_ret rfl)
 by_cases h4:k=5
 ·subst h4;exact Tr.all_f rfl (Tr.all_ret rfl)
 by_cases h5:k=12
 ·subst h5;exact Tr.all_f rfl (Tr.all_ret rfl)
 by_cases h6:k=15
 ·subst h6;exact Tr.all_f rfl (Tr.all_ret rfl)
 by_cases h7:k=6
 ·subst h7;exact Tr.all_f rfl (Tr.all_ret rfl)
 by_cases h8:k=16
 ·subst h8;exact Tr.all_f rfl (Tr.all_ret rfl)
 refine Tr.all_t ?_ (Tr.all_ret ?_)
 ·simp[hasM,V0m,Ty.keq,h1,h2,h3,h4,h5,h6,h7,h8]
 ·simp[layV,h1,h2,h3,h4,h5,h6,h7,h8]
noncomputable def b77:Code:=X4 c77 0
def ls77:LoopSpec:={ bid:=0,sh:=[.d .str false,.row 0,.d (.list (.int .i64)) false,.d (.int .i64) false,.d (.int .i64) false],so:=[.row .str],F:=fun(d,ps,n,i,_) (l,_)=>.on2 (cutC d ps n i l) ((cutS ps d l).1) (.exit 0,[.str (cutS ps d l).2.1,.dead,.dead,.rowA 0],[.row .str (cutS ps d l).2.2]) (.ret,[.str (cutS ps d l).2.1,.rowA 0,.bool false,.rowA 1],[.row .str [],.row .str (cutS ps d l).2.2]) }
def r77 (d:List UInt8) (ps:List Int) (n i:Int) (l:List (List UInt8)):Tr (St⊕(Ex×St)):=.br (decide (i < n)) (.br (decide (0≤i)) (.br (decide (i < (↑ps.length:Int))) (.br (ps.getD i.toNat (Ty.dflt (Ty.int .i64))==(-1:Int)) (.br (bigS d) (.br (decide ((↑(X6 d):Int) > (↑d.length:Int))) (.ret (.inr (.ret,stOf [1,4,5,6] [.str d,.rowA 0,.bool false,.rowA 1] [.row Ty.str [],.row Ty.str l]))) (.br (ps.getD i.toNat (Ty.dflt (Ty.int .i64))==(-1:Int)) (.br ((↑(X6 d):Int)==0) (.ret (.inr (.ret,stOf [1,4,5,6] [.str d,.rowA 0,.bool false,.rowA 1] [.row Ty.str [],.row Ty.str l]))) (.br (decide (0≤(↑(X6 d):Int))&&decide ((↑(X6 d):Int)≤(↑d.length:Int))) (.br (fits (List.length l+1) 16) (.br (decide (0≤(↑d.length:Int))&&decide ((↑d.length:Int)≤(↑d.length:Int))) (.br (decide (0≤(↑(X6 d):Int))&&decide ((↑(X6 d):Int)≤(↑d.length:Int))) (.ret (.inl (stOf [1,6,11,12,13] [.str (List.take (Int.toNat (↑d.length:Int) - Int.toNat (↑(X6 d):Int)) (List.drop (Int.toNat (↑(X6 d):Int)) d)),.rowA 0,.list (.int .i64) ps,.int .i64 n,.int .i64 (IntKind.wrap .i64 (i+1))] [.row Ty.str (l++[List.take (Int.toNat (↑(X6 d):Int) - Int.toNat 0) (List.drop (Int.toNat 0) d)])]))) .no) .no) .no) .no)) (.br (decide (0≤(↑(X6 d):Int))&&decide ((↑(X6 d):Int)≤(↑d.length:Int))) (.br (fits (List.length l+1) 16) (.br (decide (0≤(↑d.length:Int))&&decide ((↑d.length:Int)≤(↑d.length:Int))) (.br (decide (0≤(↑(X6 d):Int))&&decide ((↑(X6 d):Int)≤(↑d.length:Int))) (.ret (.inl (stOf [1,6,11,12,13] [.str (List.take (Int.toNat (↑d.length:Int) - Int.toNat (↑(X6 d):Int)) (List.drop (Int.toNat (↑(X6 d):Int)) d)),.rowA 0,.list (.int .i64) ps,.int .i64 n,.int .i64 (IntKind.wrap .i64 (i+1))] [.row Ty.str (l++[List.take (Int.toNat (↑(X6 d):Int) - Int.toNat 0) (List.drop (Int.toNat 0) d)])]))) .no) .no) .no) .no))) .no) (.br (ps.getD i.toNat (Ty.dflt (Ty.int .i64))==(-2:Int)) (.br (bigS d) (.br (Z0j d) (.br (decide ((↑d.length:Int) > (↑d.length:Int))) (.ret (.inr (.ret,stOf [1,4,5,6] [.str d,.rowA 0,.bool false,.rowA 1] [.row Ty.str [],.row Ty.str l]))) (.br (ps.getD i.toNat (Ty.dflt (Ty.int .i64))==(-1:Int)) (.br ((↑d.length:Int)==0) (.ret (.inr (.ret,stOf [1,4,5,6] [.str d,.rowA 0,.bool false,.rowA 1] [.row Ty.str [],.row Ty.str l]))) (.br (decide (0≤(↑d.length:Int))&&decide ((↑d.length:Int)≤(↑d.length:Int))) (.br (fits (List.length l+1) 16) (.br (decide (0≤(↑d.length:Int))&&decide ((↑d.length:Int)≤(↑d.length:Int))) (.br (decide (0≤(↑d.length:Int))&&decide ((↑d.length:Int)≤(↑d.length:Int))) (.ret (.inl (stOf [1,6,11,12,13] [.str (List.take (Int.toNat (↑d.length:Int) - Int.toNat (↑d.length:Int)) (List.drop (Int.toNat (↑d.length:Int)) d)),.rowA 0,.list (.int .i64) ps,.int .i64 n,.int .i64 (IntKind.wrap .i64 (i+1))] [.row Ty.str (l++[List.take (Int.toNat (↑d.length:Int) - Int.toNat 0) (List.drop (Int.toNat 0) d)])]))) .no) .no) .no) .no)) (.br (decide (0≤(↑d.length:Int))&&decide ((↑d.length:Int)≤(↑d.length:Int))) (.br (fits (List.length l+1) 16) (.br (decide (0≤(↑d.length:Int))&&decide ((↑d.length:Int)≤(↑d.length:Int))) (.br (decide (0≤(↑d.length:Int))&&decide ((↑d.length:Int)≤(↑d.length:Int))) (.ret (.inl (stOf [1,6,11,12,13] [.str (List.take (Int.toNat (↑d.length:Int) - Int.toNat (↑d.length:Int)) (List.drop (Int.toNat (↑d.length:Int)) d)),.rowA 0,.list (.int .i64) ps,.int .i64 n,.int .i64 (IntKind.wrap .i64 (i+1))] [.row Ty.str (l++[List.take (Int.toNat (↑d.length:Int) - Int.toNat 0) (List.drop (Int.toNat 0) d)])]))) .no) .no) .no) .no))) (.br (ps.getD i.toNat (Ty.dflt (Ty.int .i64))==(-3:Int)) (.br (decide ((↑d.length:Int) > (↑d.length:Int))) (.ret (.inr (.ret,stOf [1,4,5,6] [.str d,.rowA 0,.bool false,.rowA 1] [.row Ty.str [],.row Ty.str l]))) (.br (ps.getD i.toNat (Ty.dflt (Ty.int .i64))==(-1:Int)) (.br ((↑d.length:Int)==0) (.ret (.inr (.ret,stOf [1,4,5,6] [.str d,.rowA 0,.bool false,.rowA 1] [.row Ty.str [],.row Ty.str l]))) (.br (decide (0≤(↑d.length:Int))&&decide ((↑d.length:Int)≤(↑d.length:Int))) (.br (fits (List.length l+1) 16) (.br (decide (0≤(↑d.length:Int))&&decide ((↑d.length:Int)≤(↑d.length:Int))) (.br (decide (0≤(↑d.length:Int))&&decide ((↑d.length:Int)≤(↑d.length:Int))) (.ret (.inl (stOf [1,6,11,12,13] [.str (List.take (Int.toNat (↑d.length:Int) - Int.toNat (↑d.length:Int)) (List.drop (Int.toNat (↑d.length:Int)) d)),.rowA 0,.list (.int .i64) ps,.int .i64 n,.int .i64 (IntKind.wrap .i64 (i+1))] [.row Ty.str (l++[List.take (Int.toNat (↑d.length:Int) - Int.toNat 0) (List.drop (Int.toNat 0) d)])]))) .no) .no) .no) .no)) (.br (decide (0≤(↑d.length:Int))&&decide ((↑d.length:Int)≤(↑d.length:Int))) (.br (fits (List.length l+1) 16) (.br (decide (0≤(↑d.length:Int))&&decide ((↑d.length:Int)≤(↑d.length:Int))) (.br (decide (0≤(↑d.length:Int))&&decide ((↑d.length:Int)≤(↑d.length:Int))) (.ret (.inl (stOf [1,6,11,12,13] [.str (List.take (Int.toNat (↑d.length:Int) - Int.toNat (↑d.length:Int)) (List.drop (Int.toNat (↑d.length:Int)) d)),.rowA 0,.list (.int .i64) ps,.int .i64 n,.int .i64 (IntKind.wrap .i64 (i+1))] [.row Ty.str (l++[List.take (Int.toNat (↑d.length:Int) - Int.toNat 0) (List.drop (Int.toNat 0) d)])]))) .no) .no) .no) .no))) (.br (decide (ps.getD i.toNat (Ty.dflt (Ty.int .i64)) < 0)) (.ret (.inr (.ret,stOf [1,4,5,6] [.str d,.rowA 0,.bool false,.rowA 1] [.row Ty.str [],.row Ty.str l]))) (.br (decide (ps.getD i.toNat (Ty.dflt (Ty.int .i64)) > (↑d.length:Int))) (.ret (.inr (.ret,stOf [1,4,5,6] [.str d,.rowA 0,.bool false,.rowA 1] [.row Ty.str [],.row Ty.str l]))) (.br (ps.getD i.toNat (Ty.dflt (Ty.int .i64))==(-1:Int)) (.br (ps.getD i.toNat (Ty.dflt (Ty.int .i64))==0) (.ret (.inr (.ret,stOf [1,4,5,6] [.str d,.rowA 0,.bool false,.rowA 1] [.row Ty.str [],.row Ty.str l]))) (.br (decide (0≤List.getD ps i.toNat (Ty.dflt (Ty.int .i64)))&&decide (ps.getD i.toNat (Ty.dflt (Ty.int .i64))≤(↑d.length:Int))) (.br (decide (0≤0)&&decide (0≤List.getD ps i.toNat (Ty.dflt (Ty.int .i64)))) (.br (fits (List.length l+1) 16) (.br (decide (0≤(↑d.length:Int))&&decide ((↑d.length:Int)≤(↑d.length:Int))) (.br (decide (0≤List.getD ps i.toNat (Ty.dflt (Ty.int .i64)))&&decide (ps.getD i.toNat (Ty.dflt (Ty.int .i64))≤(↑d.length:Int))) (.ret (.inl (stOf [1,6,11,12,13] [.str (List.take (Int.toNat (↑d.length:Int) - Int.toNat (ps.getD i.toNat (Ty.dflt (Ty.int .i64)))) (List.drop (Int.toNat (ps.getD i.toNat (Ty.dflt (Ty.int .i64)))) d)),.rowA 0,.list (.int .i64) ps,.int .i64 n,.int .i64 (IntKind.wrap .i64 (i+1))] [.row Ty.str (l++[List.take (Int.toNat (ps.getD i.toNat (Ty.dflt (Ty.int .i64))) - Int.toNat 0) (List.drop (Int.toNat 0) d)])]))) .no) .no) .no) .no) .no)) (.br (decide (0≤List.getD ps i.toNat (Ty.dflt (Ty.int .i64)))&&decide (ps.getD i.toNat (Ty.dflt (Ty.int .i64))≤(↑d.length:Int))) (.br (decide (0≤0)&&decide (0≤List.getD ps i.toNat (Ty.dflt (Ty.int .i64)))) (.br (fits (List.length l+1) 16) (.br (decide (0≤(↑d.length:Int))&&decide ((↑d.length:Int)≤(↑d.length:Int))) (.br (decide (0≤List.getD ps i.toNat (Ty.dflt (Ty.int .i64)))&&decide (ps.getD i.toNat (Ty.dflt (Ty.int .i64))≤(↑d.length:Int))) (.ret (.inl (stOf [1,6,11,12,13] [.str (List.take (Int.toNat (↑d.length:Int) - Int.toNat (ps.getD i.toNat (Ty.dflt (Ty.int .i64)))) (List.drop (Int.toNat (ps.getD i.toNat (Ty.dflt (Ty.int .i64)))) d)),.rowA 0,.list (.int .i64) ps,.int .i64 n,.int .i64 (IntKind.wrap .i64 (i+1))] [.row Ty.str (l++[List.take (Int.toNat (ps.getD i.toNat (Ty.dflt (Ty.int .i64))) - Int.toNat 0) (List.drop (Int.toNat 0) d)])]))) .no) .no) .no) .no) .no)))))) .no) (.br (ps.getD i.toNat (Ty.dflt (Ty.int .i64))==(-3:Int)) (.br (decide ((↑d.length:Int) > (↑d.length:Int))) (.ret (.inr (.ret,stOf [1,4,5,6] [.str d,.rowA 0,.bool false,.rowA 1] [.row Ty.str [],.row Ty.str l]))) (.br (ps.getD i.toNat (Ty.dflt (Ty.int .i64))==(-1:Int)) (.br ((↑d.length:Int)==0) (.ret (.inr (.ret,stOf [1,4,5,6] [.str d,.rowA 0,.bool false,.rowA 1] [.row Ty.str [],.row Ty.str l]))) (.br (decide (0≤(↑d.length:Int))&&decide ((↑d.length:Int)≤(↑d.length:Int))) (.br (fits (List.length l+1) 16) (.br (decide (0≤(↑d.length:Int))&&decide ((↑d.length:Int)≤(↑d.length:Int))) (.br (decide (0≤(↑d.length:Int))&&decide ((↑d.length:Int)≤(↑d.length:Int))) (.ret (.inl (stOf [1,6,11,12,13] [.str (List.take (Int.toNat (↑d.length:Int) - Int.toNat (↑d.length:Int)) (List.drop (Int.toNat (↑d.length:Int)) d)),.rowA 0,.list (.int .i64) ps,.int .i64 n,.int .i64 (IntKind.wrap .i64 (i+1))] [.row Ty.str (l++[List.take (Int.toNat (↑d.length:Int) - Int.toNat 0) (List.drop (Int.toNat 0) d)])]))) .no) .no) .no) .no)) (.br (decide (0≤(↑d.length:Int))&&decide ((↑d.length:Int)≤(↑d.length:Int))) (.br (fits (List.length l+1) 16) (.br (decide (0≤(↑d.length:Int))&&decide ((↑d.length:Int)≤(↑d.length:Int))) (.br (decide (0≤(↑d.length:Int))&&decide ((↑d.length:Int)≤(↑d.length:Int))) (.ret (.inl (stOf [1,6,11,12,13] [.str (List.take (Int.toNat (↑d.length:Int) - Int.toNat (↑d.length:Int)) (List.drop (Int.toNat (↑d.length:Int)) d)),.rowA 0,.list (.int .i64) ps,.int .i64 n,.int .i64 (IntKind.wrap .i64 (i+1))] [.row Ty.str (l++[List.take (Int.toNat (↑d.length:Int) - Int.toNat 0) (List.drop (Int.toNat 0) d)])]))) .no) .no) .no) .no))) (.br (decide (ps.getD i.toNat (Ty.dflt (Ty.int .i64)) < 0)) (.ret (.inr (.ret,stOf [1,4,5,6] [.str d,.rowA 0,.bool false,.rowA 1] [.row Ty.str [],.row Ty.str l]))) (.br (decide (ps.getD i.toNat (Ty.dflt (Ty.int .i64)) > (↑d.length:Int))) (.ret (.inr (.ret,stOf [1,4,5,6] [.str d,.rowA 0,.bool false,.rowA 1] [.row Ty.str [],.row Ty.str l]))) (.br (ps.getD i.toNat (Ty.dflt (Ty.int .i64))==(-1:Int)) (.br (ps.getD i.toNat (Ty.dflt (Ty.int .i64))==0) (.ret (.inr (.ret,stOf [1,4,5,6] [.str d,.rowA 0,.bool false,.rowA 1] [.row Ty.str [],.row Ty.str l]))) (.br (decide (0≤List.getD ps i.toNat (Ty.dflt (Ty.int .i64)))&&decide (ps.getD i.toNat (Ty.dflt (Ty.int .i64))≤(↑d.length:Int))) (.br (decide (0≤0)&&decide (0≤List.getD ps i.toNat (Ty.dflt (Ty.int .i64)))) (.br (fits (List.length l+1) 16) (.br (decide (0≤(↑d.length:Int))&&decide ((↑d.length:Int)≤(↑d.length:Int))) (.br (decide (0≤List.getD ps i.toNat (Ty.dflt (Ty.int .i64)))&&decide (ps.getD i.toNat (Ty.dflt (Ty.int .i64))≤(↑d.length:Int))) (.ret (.inl (stOf [1,6,11,12,13] [.str (List.take (Int.toNat (↑d.length:Int) - Int.toNat (ps.getD i.toNat (Ty.dflt (Ty.int .i64)))) (List.drop (Int.toNat (ps.getD i.toNat (Ty.dflt (Ty.int .i64)))) d)),.rowA 0,.list (.int .i64) ps,.int .i64 n,.int .i64 (IntKind.wrap .i64 (i+1))] [.row Ty.str (l++[List.take (Int.toNat (ps.getD i.toNat (Ty.dflt (Ty.int .i64))) - Int.toNat 0) (List.drop (Int.toNat 0) d)])]))) .no) .no) .no) .no) .no)) (.br (decide (0≤List.getD ps i.toNat (Ty.dflt (Ty.int .i64)))&&decide (ps.getD i.toNat (Ty.dflt (Ty.int .i64))≤(↑d.length:Int))) (.br (decide (0≤0)&&decide (0≤List.getD ps i.toNat (Ty.dflt (Ty.int .i64)))) (.br (fits (List.length l+1) 16) (.br (decide (0≤(↑d.length:Int))&&decide ((↑d.length:Int)≤(↑d.length:Int))) (.br (decide (0≤List.getD ps i.toNat (Ty.dflt (Ty.int .i64)))&&decide (ps.getD i.toNat (Ty.dflt (Ty.int .i64))≤(↑d.length:Int))) (.ret (.inl (stOf [1,6,11,12,13] [.str (List.take (Int.toNat (↑d.length:Int) - Int.toNat (ps.getD i.toNat (Ty.dflt (Ty.int .i64)))) (List.drop (Int.toNat (ps.getD i.toNat (Ty.dflt (Ty.int .i64)))) d)),.rowA 0,.list (.int .i64) ps,.int .i64 n,.int .i64 (IntKind.wrap .i64 (i+1))] [.row Ty.str (l++[List.take (Int.toNat (ps.getD i.toNat (Ty.dflt (Ty.int .i64))) - Int.toNat 0) (List.drop (Int.toNat 0) d)])]))) .no) .no) .no) .no) .no))))))) .no) .no) (.ret (.inr (.exit 0,stOf [1,4,5,6] [.str d,.dead,.dead,.rowA 0] [.row Ty.str l])))
theorem Q3t (lp:Lp) (d:List UInt8) (ps:List Int) (n i:Int) (l:List (List UInt8)):evC T0 (orcB [Z0n,X17,V12] []) lp b77 0 (stOf [1,6,11,12,13] [.str d,.rowA 0,.list (.int .i64) ps,.int .i64 n,.int .i64 i] [.row .str l]) (Q0 [1,6,11,12,13] [1,4,5,6] 0)=(r77 d ps n i l).get:=by kernel_rfl
theorem wf77 (ps:List Int) (n:Int) (I'':List UInt8→Int→List (List UInt8)→Prop) (m'':List UInt8→Int→List (List UInt8)→Nat) (r'':Ex×St) (h:∀ (d:List UInt8) (i:Int) (l:List (List UInt8)),I'' d i l→(r77 d ps n i l).all fun x''=>x''=.inr r''∨∃ (d':List UInt8) (i':Int) (l':List (List UInt8)),x''=.inl (stOf [1,6,11,12,13] [.str d',.rowA 0,.list (.int .i64) ps,.int .i64 n,.int .i64 i'] [.row .str l'])∧I'' d' i' l'∧m'' d' i' l' < m'' d i l) (lp:Lp) (d:List UInt8) (i:Int) (l:List (List UInt8)):I'' d i l→
    X2 (fun st=>evC T0 (orcB [Z0n,X17,V12] []) lp b77 0 st (Q0 [1,6,11,12,13] [1,4,5,6] 0)) (stOf [1,6,11,12,13] [.str d,.rowA 0,.list (.int .i64) ps,.int .i64 n,.int .i64 i] [.row .str l])=some r'':=
 U4 (fun a'':List UInt8×Int×List (List UInt8)=>stOf [1,6,11,12,13] [.str a''.1,.rowA 0,.list (.int .i64) ps,.int .i64 n,.int .i64 a''.2.1] [.row .str a''.2.2]) (fun a''=>I'' a''.1 a''.2.1 a''.2.2) (fun a''=>m'' a''.1 a''.2.1 a''.2.2) r'' (fun a''=>r77 a''.1 ps n a''.2.1 a''.2.2)
  (fun a'' x hx=>(Q3t lp a''.1 ps n a''.2.1 a''.2.2).trans hx) (fun a'' ha=>Tr.all_mono (fun x'' hx=>hx.imp id fun⟨d',i',l',h1,h2,h3⟩=>⟨(d',i',l'),h1,h2,h3⟩) (h (a''.1) (a''.2.1) (a''.2.2) ha)) (d,i,l)
def cutI (ps0:List Int) (d0:List UInt8) (l0:List (List UInt8)) (d:List UInt8) (i:Int) (l:List (List UInt8)):Prop:=0≤i∧i≤ps0.length∧bigS d=true∧l.length=i.toNat∧cutS (ps0.drop i.toNat) d l=cutS ps0 d0 l0
theorem Q1d {P:St⊕(Ex×St)→Prop} {d:List UInt8} {l:List (List UInt8)} {ps:List Int} {n i sz:Int} (h0:0≤sz) (h1:sz≤d.length) (hf:fits (l.length+1) 16=true)
    (hr:P (Sum.inl (stOf [1,6,11,12,13] [AV.str (d.drop sz.toNat),AV.rowA 0,AV.list (Ty.int IntKind.i64) ps,AV.int IntKind.i64 n,AV.int IntKind.i64 (IntKind.wrap IntKind.i64 (i+(1:Int)))] [LObj.row Ty.str (l++[d.take sz.toNat])]))) :
    (Tr.br (decide ((0:Int)≤sz)&&decide (sz≤(↑(List.length d):Int))) (Tr.br (fits (List.length l+1) 16) (Tr.br (decide ((0:Int)≤(↑(List.length d):Int))&&decide ((↑(List.length d):Int)≤(↑(List.length d):Int))) (Tr.br (decide ((0:Int)≤sz)&&decide (sz≤(↑(List.length d):Int)))
     (Tr.ret (Sum.inl (stOf [1,6,11,12,13] [AV.str (List.take (Int.toNat (↑(List.length d):Int) - Int.toNat sz) (List.drop (Int.toNat sz) d)),AV.rowA 0,AV.list (Ty.int IntKind.i64) ps,AV.int IntKind.i64 n,AV.int IntKind.i64 (IntKind.wrap IntKind.i64 (i+(1:Int)))] [LObj.row Ty.str (l++[List.take (Int.toNat sz - Int.toNat (0:Int)) (List.drop (Int.toNat (0:Int)) d)])]))) Tr.no) Tr.no) Tr.no) Tr.no).all P:=by
 have e:List.take (Int.toNat (↑(List.length d):Int) - Int.toNat sz) (List.drop (Int.toNat sz) d)=d.drop sz.toNat:=List.take_of_length_le (by simp)
 have e2:List.take (Int.toNat sz - Int.toNat (0:Int)) (List.drop (Int.toNat (0:Int)) d)=d.take sz.toNat:=rfl
 rw[e,e2]
 refine Tr.all_t (by rw[J0 h0,J0 h1];rfl) (Tr.all_t hf (Tr.all_t (by rw[J0 (by omega),J0 (by omega)];rfl) (Tr.all_t (by rw[J0 h0,J0 h1];rfl) (Tr.all_ret hr))))
theorem X2y {P:St⊕(Ex×St)→Prop} {d:List UInt8} {l:List (List UInt8)} {ps:List Int} {n i sz:Int} (h0:0≤sz) (h1:sz≤d.length) (hf:fits (l.length+1) 16=true)
    (hr:P (Sum.inl (stOf [1,6,11,12,13] [AV.str (d.drop sz.toNat),AV.rowA 0,AV.list (Ty.int IntKind.i64) ps,AV.int IntKind.i64 n,AV.int IntKind.i64 (IntKind.wrap IntKind.i64 (i+(1:Int)))] [LObj.row Ty.str (l++[d.take sz.toNat])]))) :
    (Tr.br (decide ((0:Int)≤sz)&&decide (sz≤(↑(List.length d):Int))) (Tr.br (decide ((0:Int)≤(0:Int))&&decide ((0:Int)≤sz)) (Tr.br (fits (List.length l+1) 16) (Tr.br (decide ((0:Int)≤(↑(List.length d):Int))&&decide ((↑(List.length d):Int)≤(↑(List.length d):Int))) (Tr.br (decide ((0:Int)≤sz)&&decide (sz≤(↑(List.length d):Int)))
     (Tr.ret (Sum.inl (stOf [1,6,11,12,13] [AV.str (List.take (Int.toNat (↑(List.length d):Int) - Int.toNat sz) (List.drop (Int.toNat sz) d)),AV.rowA 0,AV.list (Ty.int IntKind.i64) ps,AV.int IntKind.i64 n,AV.int IntKind.i64 (IntKind.wrap IntKind.i64 (i+(1:Int)))] [LObj.row Ty.str (l++[List.take (Int.toNat sz - Int.toNat (0:Int)) (List.drop (Int.toNat (0:Int)) d)])]))) Tr.no) Tr.no) Tr.no) Tr.no) Tr.no).all P:=by
 have e:List.take (Int.toNat (↑(List.length d):Int) - Int.toNat sz) (List.drop (Int.toNat sz) d)=d.drop sz.toNat:=List.take_of_length_le (by simp)
 have e2:List.take (Int.toNat sz - Int.toNat (0:Int)) (List.drop (Int.toNat (0:Int)) d)=d.take sz.toNat:=rfl
 rw[e,e2]
 refine Tr.all_t (by rw[J0 h0,J0 h1];rfl) (Tr.all_t (by rw[J0 h0];rfl) (Tr.all_t hf (Tr.all_t (by rw[J0 (by omega),J0 (by omega)];rfl) (Tr.all_t (by rw[J0 h0,J0 h1];rfl) (Tr.all_ret hr)))))
theorem V4e:ls77.Ok T0 (orcB [Z0n,X17,V12] []) h77 0 0 b77:=by
 intro q'' hq'' x'' y'' r'' h
 obtain⟨(d:List UInt8),(ps:List Int),(n:Int),(i:Int),_⟩:=x''
 obtain⟨(l:List (List UInt8)),_⟩:=y''
 obtain⟨hc,rfl⟩:=Tr.get_on2 h
 show X2 (fun st=>evC T0 (orcB [Z0n,X17,V12] []) (lpN T0 (orcB [Z0n,X17,V12] []) h77 0 q'') b77 0 st (Q0 [1,6,11,12,13] [1,4,5,6] 0)) (stOf [1,6,11,12,13] [.str d,.rowA 0,.list (.int .i64) ps,.int .i64 n,.int .i64 i] [.row .str l])=some ((bif (cutS ps d l).1 then (.exit 0,[.str (cutS ps d l).2.1,.dead,.dead,.rowA 0],[.row .str (cutS ps d l).2.2]) else (.ret,[.str (cutS ps d l).2.1,.rowA 0,.bool false,.rowA 1],[.row .str [],.row .str (cutS ps d l).2.2]):Ex×List AV×List LObj).1,stOf [1,4,5,6] (bif (cutS ps d l).1 then (.exit 0,[.str (cutS ps d l).2.1,.dead,.dead,.rowA 0],[.row .str (cutS ps d l).2.2]) else (.ret,[.str (cutS ps d l).2.1,.rowA 0,.bool false,.rowA 1],[.row .str [],.row .str (cutS ps d l).2.2]):Ex×List AV×List LObj).2.1 (bif (cutS ps d l).1 then (.exit 0,[.str (cutS ps d l).2.1,.dead,.dead,.rowA 0],[.row .str (cutS ps d l).2.2]) else (.ret,[.str (cutS ps d l).2.1,.rowA 0,.bool false,.rowA 1],[.row .str [],.row .str (cutS ps d l).2.2]):Ex×List AV×List LObj).2.2)
 simp only[cutC,Bool.and_eq_true,decide_eq_true_eq,noS,List.isEmpty_iff] at hc
 obtain⟨hb,rfl,rfl,rfl,hps⟩:=hc
 refine wf77 ps _ (cutI ps d []) (fun _ i _=>(ps.length - i).toNat) _ ?_ _ d 0 [] ⟨by omega,by omega,hb,rfl,rfl⟩
 clear hb
 rintro d' i l' ⟨h0,h1,hb,hl,hF⟩
 rw[←hF]
 have hB:d'.length≤1000000000000:=by simpa[bigS] using hb
 unfold r77
 by_cases hi:i < ps.length
 ·obtain⟨d1,_⟩:=Z2u (Ty.dflt (Ty.int .i64)) h0 hi
  generalize List.getD ps (Int.toNat i) (Ty.dflt (Ty.int .i64))=x at d1
  rw[d1,cutS] at hF ⊢
  have hfit:fits (l'.length+1) 16=true:=Zh (by omega) (by omega)
  have hw:IntKind.wrap .i64 (i+1)=i+1:=IntWalk.i64_in _ (by omega)
  have nextI:∀ sz,szP x d'=sz→okP x d'=true→cutI ps d [] (d'.drop sz.toNat) (IntKind.wrap .i64 (i+1)) (l'++[d'.take sz.toNat])∧(ps.length - IntKind.wrap .i64 (i+1)).toNat < (ps.length - i).toNat:=fun sz hs ho=>by
   subst hs
   rw[hw]
   refine⟨⟨by omega,by omega,by simp[bigS];omega,by simp;omega,?_⟩,by omega⟩
   rw[←hF,if_pos ho]
  have hwh:=J0s d'
  have hfail:okP x d'=false→(if okP x d'=true then cutS (List.drop (i+1).toNat ps) (List.drop (szP x d').toNat d') (l'++[List.take (szP x d').toNat d']) else (false,d',l'))=(false,d',l'):=fun h=>if_neg (by rw[h];simp)
  refine Tr.all_t (J0 hi) (Tr.all_t (J0 h0) (Tr.all_t (J0 hi) ?_))
  by_cases x1:x=-1
  ·have es:szP x d'=(X6 d':Int):=by unfold szP;rw[if_pos x1]
   have eo:okP x d' = !decide ((X6 d':Int)=0):=by
    unfold okP
    rw[es,J0 (by omega),J0 (by omega),J0 x1]
    rfl
   refine Tr.all_t (beq_iff_eq.2 x1) (Tr.all_t hb (Tr.all_f (X0 (by omega)) (Tr.all_t (beq_iff_eq.2 x1) (Tr.all_br (fun c=>Tr.all_ret (.inl ?_)) fun c=>Q1d (by omega) (by omega) hfit (.inr ⟨_,_,_,rfl,nextI _ es ?_⟩)))))
   ·rw[hfail (by rw[eo,J0 (beq_iff_eq.1 c)];rfl)]
    rfl
   ·rw[eo,X0 (beq_eq_false_iff_ne.1 c)]
    rfl
  have hx1:(x == -1)=false:=beq_eq_false_iff_ne.2 x1
  have other:¬ (x=-2∧Z0j d'=true∨x=-3)→szP x d'=x∧okP x d'=(decide (0≤x)&&decide (x≤(d'.length:Int))):=fun h=>by
   have es:szP x d'=x:=by unfold szP;rw[if_neg x1,if_neg h]
   refine⟨es,?_⟩
   unfold okP
   rw[es,X0 x1]
   simp
  have full:(x=-2∧Z0j d'=true∨x=-3)→szP x d'=(d'.length:Int)∧okP x d'=true:=fun h=>by
   have es:szP x d'=(d'.length:Int):=by unfold szP;rw[if_neg x1,if_pos h]
   refine⟨es,?_⟩
   unfold okP
   rw[es,X0 x1]
   simp
  refine Tr.all_f hx1 (Tr.all_br (fun c2=>Tr.all_t hb (Tr.all_br (fun ct=>?_) fun ct=>?_)) fun c2=>?_)
  ·obtain⟨es,eo⟩:=full (.inl ⟨beq_iff_eq.1 c2,ct⟩)
   exact Tr.all_f (X0 (by omega)) (Tr.all_f hx1 (Q1d (by omega) (by omega) hfit (.inr ⟨_,_,_,rfl,nextI _ es eo⟩)))
  ·have hx2:=beq_iff_eq.1 c2
   obtain⟨es,eo⟩:=other (by rw[ct];simp;omega)
   refine Tr.all_f (beq_eq_false_iff_ne.2 (by omega)) (Tr.all_t (J0 (by omega)) (Tr.all_ret (.inl ?_)))
   rw[hfail (by rw[eo,X0 (by omega)];rfl)]
   rfl
  ·refine Tr.all_br (fun c3=>?_) fun c3=>?_
   ·obtain⟨es,eo⟩:=full (.inr (beq_iff_eq.1 c3))
    exact Tr.all_f (X0 (by omega)) (Tr.all_f hx1 (Q1d (by omega) (by omega) hfit (.inr ⟨_,_,_,rfl,nextI _ es eo⟩)))
   ·have hx2:=beq_eq_false_iff_ne.1 c2
    have hx3:=beq_eq_false_iff_ne.1 c3
    obtain⟨es,eo⟩:=other (by omega)
    refine Tr.all_br (fun c4=>Tr.all_ret (.inl ?_)) fun c4=>Tr.all_br (fun c5=>Tr.all_ret (.inl ?_)) fun c5=>?_
    ·simp only[decide_eq_true_eq] at c4
     rw[hfail (by rw[eo,X0 (by omega)];rfl)]
     rfl
    ·simp only[decide_eq_true_eq] at c5
     rw[hfail (by rw[eo,X0 (show ¬ x≤(d'.length:Int) by omega),Bool.and_false])]
     rfl
    ·simp only[decide_eq_false_iff_not] at c4 c5
     exact Tr.all_f hx1 (X2y (by omega) (by omega) hfit (.inr ⟨_,_,_,rfl,nextI _ es (by rw[eo,J0 (by omega),J0 (by omega)];rfl)⟩))
 ·have:ps.drop i.toNat=[]:=List.drop_eq_nil_of_le (by omega)
  rw[this]
  exact Tr.all_f (X0 hi) (Tr.all_ret (.inl rfl))
def t77 (k:Int) (d:List UInt8):Tr Res:=.br (cutC d (layV k) (↑(List.length (layV k)):Int) 0 []) (.br (cutS (layV k) d []).1 (.ret ([.list Ty.str (cutS (layV k) d []).2.2,.bool ((cutS (layV k) d []).2.1==[])],[])) (.ret ([.list Ty.str [],.bool false],[]))) .no
def os77:OSpec:={ f:=77,sh:=[.d (.int .u16) false,.d .str false],so:=[],F:=fun(k,d,_) _=>t77 k d }
theorem fn77 (k:Int) (d:List UInt8):evC T0 (orcB [Z0n,X17,V12] []) (lpOf h77 0 (lsOf [ls77])) c77 1000000 (Z1 [.int .u16 k,.str d] [] Try.f77.ntmps) (J1 T0 false 0 Try.f77)=(t77 k d).get:=by kernel_rfl
theorem ok77:os77.Ok Try.prog:=by
 refine V3 Q1 tab0 (V0 (all_cons Z2j (all_cons U4e (all_cons U4g Z0))) Z0) h77 (d:=0) (n0:=0) (S:=lsOf [ls77]) Try.func77 (by kernel_rfl) (c:=c77) (by kernel_rfl) rfl (Q5 (xs:=[(0,b77)]) (by kernel_rfl) (all_cons (Q4 V4e) Z0)) (by omega) (by kernel_rfl) ?_
 intro x'' y'' q'' hq''
 obtain⟨(k:Int),(d:List UInt8),_⟩:=x''
 exact(fn77 k d).trans hq''
def fs77:FSpec:=fsT 77 [((.int .u16),false),(.str,false)] [((.list .str),false),(.bool,false)] fun(k,d,_)=>t77 k d
theorem okf77:fs77.Ok Try.prog:=X5 fun x'' r'' hr''=>ok77 x'' () r'' hr''
theorem V3h (k:Int):(layV k).length≤10:=by
 unfold layV
 repeat' split
 all_goals simp
def Q3h:FSpec:=fs77.like fun(k,d,_)=>.on (bigS d) (bif okV k d then Xe k d else [],okV k d&&(Q12 k d).isEmpty,())
theorem U39:Q3h.Ok Try.prog:=by
 refine J3 okf77 _ ?_
 rintro⟨(k:Int),(d:List UInt8),_⟩ y h
 obtain⟨hb,rfl⟩:=Tr.get_on h
 refine J2 (vs:=[.list .str (bif okV k d then Xe k d else []),.bool (okV k d&&(Q12 k d).isEmpty)]) rfl rfl (Tr.get_of_all ?_)
 show (t77 k d).all _
 unfold t77 okV Xe Q12
 have hl:=V3h k
 refine Tr.all_t (by simp[cutC,hb,noS,hl]) (Tr.all_br (fun c1=>Tr.all_ret ?_) fun c1=>Tr.all_ret ?_)
 ·rw[c1]
  have:((cutS (layV k) d []).2.1==[])=(cutS (layV k) d []).2.1.isEmpty:=by cases (cutS (layV k) d []).2.1<;>rfl
  rw[this]
  rfl
 ·rw[c1]
  rfl
def t65 (k:Int) (d:List UInt8):Tr Res:=.br (bigS d) (.br (okV k d&&List.isEmpty (Q12 k d)) (.ret ([.bool (decide ((↑d.length:Int)≤65535))],[])) (.ret ([.bool false],[]))) .no
def os65:OSpec:={ f:=65,sh:=[.d (.int .u16) false,.d .str false],so:=[],F:=fun(k,d,_) _=>t65 k d }
theorem fn65 (k:Int) (d:List UInt8):evC T0 (orcB [Z0n,Q3h] []) (lpOf h65 0 (lsOf [])) c65 1000000 (Z1 [.int .u16 k,.str d] [] Try.f65.ntmps) (J1 T0 false 0 Try.f65)=(t65 k d).get:=by kernel_rfl
theorem ok65:os65.Ok Try.prog:=by
 refine V3 Q1 tab0 (V0 (all_cons Z2j (all_cons U39 Z0)) Z0) h65 (d:=0) (n0:=0) (S:=lsOf []) Try.func65 (by kernel_rfl) (c:=c65) (by kernel_rfl) rfl (Z2 (by kernel_rfl)) (by omega) (by kernel_rfl) ?_
 intro x'' y'' q'' hq''
 obtain⟨(k:Int),(d:List UInt8),_⟩:=x''
 exact(fn65 k d).trans hq''
def fs65:FSpec:=fsT 65 [((.int .u16),false),(.str,false)] [(.bool,false)] fun(k,d,_)=>t65 k d
theorem okf65:fs65.Ok Try.prog:=X5 fun x'' r'' hr''=>ok65 x'' () r'' hr''
def U27:FSpec:=fs65.like fun(k,d,_)=>.on (bigS d) (mayR k d,())
theorem U1r:U27.Ok Try.prog:=by
 refine J3 okf65 _ ?_
 rintro⟨(k:Int),(d:List UInt8),_⟩ y h
 obtain⟨hb,rfl⟩:=Tr.get_on h
 refine J2 (vs:=[.bool (mayR k d)]) rfl rfl (Tr.get_of_all ?_)
 show (t65 k d).all _
 unfold t65 mayR
 refine Tr.all_t hb (Tr.all_br (fun c1=>Tr.all_ret ?_) fun c1=>Tr.all_ret ?_)
 ·rw[c1,Q10,Bool.true_and]
  congr 3
  rw[Bool.eq_iff_iff]
  simp
  omega
 ·rw[c1]
  rfl
theorem Z3d (s:List UInt8) (k j:Nat):byN (s.drop k) j=byN s (k+j):=by
 unfold byN
 rw[List.getD_eq_getElem?_getD,List.getD_eq_getElem?_getD,List.getElem?_drop]
theorem J31 {s:List UInt8}:∀ (m k j:Nat),s.length - (k+j)=m→k≤s.length→whAt s (k+j)=k+whAt (s.drop k) j:=by
 intro m
 induction m using Nat.strongRecOn with
 | _ m ih=>
   intro k j hm hk
   rw[whAt.eq_1 s,whAt.eq_1 (s.drop k),Z3d,List.length_drop]
   by_cases h:k+j < s.length∧0 < byN s (k+j)
   ·rw[dif_pos h,dif_pos ⟨by omega,h.2⟩,show k+j+1+byN s (k+j)=k+(j+1+byN s (k+j)) by omega]
    exact ih (s.length - (k+(j+1+byN s (k+j)))) (by omega) k _ rfl hk
   ·rw[dif_neg h,dif_neg (by omega)]
theorem V3k {t r:List UInt8} {k:Nat} (h:k < t.length):byN (t++r) k=byN t k:=V3z h
theorem J3v:∀ (m:Nat) (t r:List UInt8),t.length=m→Z00 t=true→whAt (t++r) 0+1=t.length:=by
 intro m
 induction m using Nat.strongRecOn with
 | _ m ih=>
   intro t r hm hr
   rcases U04 hr with rfl | ⟨_,hn,hlt,_,hne,hrt⟩
   ·rw[whAt,dif_neg (fun h=>by have:byN ([0]++r) 0=0:=rfl;omega)]
    rfl
   ·have hb:byN (t++r) 0=(t.getD 0 0).toNat:=V3k (by omega)
    have hp:0 < byN (t++r) 0:=by omega
    have hsp:(t++r).drop (0+1+byN (t++r) 0)=tlN t++r:=by
     unfold tlN
     rw[hb,List.drop_append_of_le_length (by omega),show 0+1+(t.getD 0 0).toNat=1+(t.getD 0 0).toNat by omega]
    have hl:=Z2l t
    rw[whAt,dif_pos ⟨by simp;omega,hp⟩]
    have hd:=J31 (s:=t++r) _ (0+1+byN (t++r) 0) 0 rfl (by simp;omega)
    rw[Nat.add_zero] at hd
    rw[hd,hsp,Nat.add_assoc,ih (tlN t).length (by omega) (tlN t) r rfl hrt]
    omega
theorem J34 {d:List UInt8} {k:Nat} (hk:k≤d.length) (h:mayV (d.take k)=true):X6 d=k∧1≤k∧k≤255:=by
 obtain⟨h1,h2,_⟩:=U03.1 h
 have:=J3v _ (d.take k) (d.drop k) rfl h1
 rw[List.take_append_drop,List.length_take,Nat.min_eq_left hk] at this
 rw[List.length_take,Nat.min_eq_left hk] at h2
 unfold X6
 rw[this,if_pos ⟨by omega,h⟩]
 exact⟨rfl,by omega,h2⟩
theorem X30 {d:List UInt8} (h:X6 d≠0):mayV (d.take (X6 d))=true:=by
 unfold X6 at h ⊢
 split at h
 ·rename_i hc
  rw[if_pos hc]
  exact hc.2
 ·exact absurd rfl h
theorem V0u {d:List UInt8}:mayV d=true↔X6 d≠0∧X6 d=d.length:=by
 constructor
 ·intro h
  have:=J34 (d:=d) (k:=d.length) (Nat.le_refl _) (by rw[List.take_length];exact h)
  omega
 ·rintro⟨h1,h2⟩
  have:=X30 h1
  rwa [h2,List.take_length] at this
theorem Z1t:mayV []=false:=by
 cases h:mayV [] with
 | false=>rfl
 | true=>
   rcases U04 (U03.1 h).1 with h | ⟨_,h,_⟩
   ·cases h
   ·exact absurd rfl h
theorem V1d:∀ (ps:List Int) (d:List UInt8) (out:List (List UInt8)),(cutS ps d out).1=true→∃ l,(cutS ps d out).2.2=out++l∧l.length=ps.length∧(∀ x∈l,x.length≤d.length)∧l.flatten++(cutS ps d out).2.1=d
 | [],d,out,_=>⟨[],by simp[cutS]⟩
 | p::ps,d,out,h=>by
   unfold cutS at h ⊢
   by_cases ho:okP p d=true
   ·rw[if_pos ho] at h ⊢
    obtain⟨l,h1,h2,h3,h4⟩:=V1d ps _ _ h
    refine⟨d.take (szP p d).toNat::l,by rw[h1,List.append_assoc];rfl,by simp[h2],fun x hx=>?_,?_⟩
    ·rcases List.mem_cons.1 hx with rfl | hx
     ·rw[List.length_take];omega
     ·have:=h3 x hx
      rw[List.length_drop] at this
      omega
    ·rw[List.flatten_cons,List.append_assoc,h4,List.take_append_drop]
   ·rw[if_neg ho] at h
    cases h
theorem V2w {k:Int} {d:List UInt8} (h:mayR k d=true):okV k d=true∧Q12 k d=[]∧d.length≤65535∧(Xe k d).length=(layV k).length∧(∀ x∈Xe k d,x.length≤d.length)∧(Xe k d).flatten=d:=by
 unfold mayR at h
 simp only[Bool.and_eq_true,List.isEmpty_iff] at h
 obtain⟨⟨h1,h2⟩,h3⟩:=h
 obtain⟨l,a1,a2,a3,a4⟩:=V1d (layV k) d [] h1
 have a1:Xe k d=l:=a1
 have h2':(cutS (layV k) d []).2.1=[]:=h2
 rw[h2',List.append_nil] at a4
 exact⟨h1,h2,Nat.le_of_ble_eq_true h3,by rw[a1,a2],by rw[a1];exact a3,by rw[a1,a4]⟩
theorem Q16:∀ (ps:List Int) (d:List UInt8) (out:List (List UInt8)),(cutS ps d out).1=(cutS ps d []).1∧(cutS ps d out).2.1=(cutS ps d []).2.1
 | [],_,_=>⟨rfl,rfl⟩
 | x::ps,d,out=>by
   unfold cutS
   by_cases h:okP x d=true
   ·rw[if_pos h,if_pos h]
    obtain⟨a1,a2⟩:=Q16 ps (d.drop (szP x d).toNat) (out++[d.take (szP x d).toNat])
    obtain⟨b1,b2⟩:=Q16 ps (d.drop (szP x d).toNat) ([]++[d.take (szP x d).toNat])
    exact⟨a1.trans b1.symm,a2.trans b2.symm⟩
   ·rw[if_neg h,if_neg h]
    exact⟨rfl,rfl⟩
def cutB (ps:List Int) (d:List UInt8):Bool:=(cutS ps d []).1&&(cutS ps d []).2.1.isEmpty
theorem Q1n (x:Int) (ps:List Int) (d:List UInt8):cutB (x::ps) d=(okP x d&&cutB ps (d.drop (szP x d).toNat)):=by
 unfold cutB
 rw[cutS]
 cases h:okP x d with
 | true=>
   rw[if_pos rfl]
   obtain⟨a1,a2⟩:=Q16 ps (d.drop (szP x d).toNat) ([]++[d.take (szP x d).toNat])
   rw[a1,a2,Bool.true_and]
 | false=>
   rw[if_neg Bool.false_ne_true]
   rfl
theorem X32 (d:List UInt8):cutB [] d=d.isEmpty:=rfl
theorem Z29 (k:Int) (d:List UInt8):mayR k d=(cutB (layV k) d&&Nat.ble d.length 65535):=rfl
theorem J2q {x:Int} (h:0≤x) (d:List UInt8):szP x d=x∧okP x d=decide (x≤(d.length:Int)):=by
 have es:szP x d=x:=by unfold szP;rw[if_neg (by omega),if_neg (by omega)]
 refine⟨es,?_⟩
 unfold okP
 rw[es,J0 h,X0 (show ¬ x=-1 by omega)]
 simp
theorem Q11 (d:List UInt8):szP (-1) d=(X6 d:Int)∧okP (-1) d = !decide (X6 d=0):=by
 have es:szP (-1) d=(X6 d:Int):=rfl
 have:=J0s d
 refine⟨es,?_⟩
 unfold okP
 rw[es,J0 (by omega),J0 (by omega)]
 simp
theorem Z2s {d:List UInt8} {n:Nat}:(d.drop n).isEmpty=decide (d.length≤n):=by
 rw[Bool.eq_iff_iff,List.isEmpty_iff,decide_eq_true_eq,List.drop_eq_nil_iff]
theorem U1i (d:List UInt8):cutB [-1] d=mayV d:=by
 obtain⟨e1,e2⟩:=Q11 d
 have:=J0s d
 rw[Q1n,X32,e1,e2,Z2s]
 rw[Bool.eq_iff_iff,V0u]
 simp
 omega
theorem X38 {k:Int} (h:k=2∨k=5∨k=12) (d:List UInt8):mayR k d=(mayV d&&Nat.ble d.length 65535):=by
 have:layV k=[-1]:=by rcases h with rfl | rfl | rfl<;>rfl
 rw[Z29,this,U1i]
theorem U4d (d:List UInt8):mayR 15 d=((decide ((2:Int)≤d.length)&&mayV (d.drop 2))&&Nat.ble d.length 65535):=by
 obtain⟨e1,e2⟩:=J2q (x:=2) (by omega) d
 rw[Z29,show layV 15=[2,-1] from rfl,Q1n,U1i,e1,e2]
 rfl
theorem Z0i {k:Int} {d:List UInt8} (hk:k=2∨k=5∨k=12) (h:mayR k d=true):Xe k d=[d]:=by
 have hlay:layV k=[-1]:=by rcases hk with rfl | rfl | rfl<;>rfl
 rw[X38 hk,Bool.and_eq_true,V0u] at h
 obtain⟨⟨h1,h2⟩,_⟩:=h
 obtain⟨e1,e2⟩:=Q11 d
 unfold Xe
 rw[hlay,cutS,e2,e1,X0 h1,if_pos (show (!false)=true from rfl),cutS,Int.toNat_natCast,h2,List.take_length]
 rfl
theorem U37 {d:List UInt8} (h:mayR 15 d=true):Xe 15 d=[d.take 2,d.drop 2]:=by
 rw[U4d,Bool.and_eq_true,Bool.and_eq_true,decide_eq_true_eq,V0u] at h
 obtain⟨⟨h0,h1,h2⟩,_⟩:=h
 obtain⟨e1,e2⟩:=J2q (x:=2) (by omega) d
 obtain⟨e3,e4⟩:=Q11 (d.drop 2)
 unfold Xe
 rw[show layV 15=[2,-1] from rfl,cutS,e2,e1,J0 h0,if_pos rfl,show (2:Int).toNat=2 from rfl,cutS,e4,e3,X0 h1,if_pos (show (!false)=true from rfl),cutS,Int.toNat_natCast,h2,List.take_length]
 rfl
def J0a (k:Int) (d:List UInt8):Option (List UInt8):=if mayR k d=true then (if k=2∨k=5∨k=12 then some d else if k=15 then some (d.drop 2) else none) else none
def t51 (k:Int) (d:List UInt8):Tr Res:=.br (bigS d) (.br (!(okV k d&&List.isEmpty (Q12 k d))) (.ret ([.str [],.bool false],[])) (.br (bigS d) (.br (!mayR k d) (.ret ([.str [],.bool false],[])) (.br (k==2) (.br (decide (0 < (↑(List.length (bif okV k d then Xe k d else [])):Int))) (.ret ([.str (List.getD (bif okV k d then Xe k d else []) (Int.toNat 0) (Ty.dflt Ty.str)),.bool true],[])) .no) (.br (k==5) (.br (decide (0 < (↑(List.length (bif okV k d then Xe k d else [])):Int))) (.ret ([.str (List.getD (bif okV k d then Xe k d else []) (Int.toNat 0) (Ty.dflt Ty.str)),.bool true],[])) .no) (.br (k==12) (.br (decide (0 < (↑(List.length (bif okV k d then Xe k d else [])):Int))) (.ret ([.str (List.getD (bif okV k d then Xe k d else []) (Int.toNat 0) (Ty.dflt Ty.str)),.bool true],[])) .no) (.br (k==15) (.br (decide (1 < (↑(List.length (bif okV k d then Xe k d else [])):Int))) (.ret ([.str (List.getD (bif okV k d then Xe k d else []) (Int.toNat 1) (Ty.dflt Ty.str)),.bool true],[])) .no) (.ret ([.str [],.bool false],[]))))))) .no)) .no
def os51:OSpec:={ f:=51,sh:=[.d (.int .u16) false,.d .str false],so:=[],F:=fun(k,d,_) _=>t51 k d }
theorem fn51 (k:Int) (d:List UInt8):evC T0 (orcB [Z0n,U27,Q3h] []) (lpOf h51 0 (lsOf [])) c51 1000000 (Z1 [.int .u16 k,.str d] [] Try.f51.ntmps) (J1 T0 false 0 Try.f51)=(t51 k d).get:=by kernel_rfl
theorem ok51:os51.Ok Try.prog:=by
 refine V3 Q1 tab0 (V0 (all_cons Z2j (all_cons U1r (all_cons U39 Z0))) Z0) h51 (d:=0) (n0:=0) (S:=lsOf []) Try.func51 (by kernel_rfl) (c:=c51) (by kernel_rfl) rfl (Z2 (by kernel_rfl)) (by omega) (by kernel_rfl) ?_
 intro x'' y'' q'' hq''
 obtain⟨(k:Int),(d:List UInt8),_⟩:=x''
 exact(fn51 k d).trans hq''
def fs51:FSpec:=fsT 51 [((.int .u16),false),(.str,false)] [(.str,false),(.bool,false)] fun(k,d,_)=>t51 k d
theorem okf51:fs51.Ok Try.prog:=X5 fun x'' r'' hr''=>ok51 x'' () r'' hr''
def X02:FSpec:=fs51.like fun(k,d,_)=>.on (bigS d) ((J0a k d).getD [],(J0a k d).isSome,())
theorem Z4d:X02.Ok Try.prog:=by
 refine J3 okf51 _ ?_
 rintro⟨(k:Int),(d:List UInt8),_⟩ y h
 obtain⟨hb,rfl⟩:=Tr.get_on h
 refine J2 (vs:=[.str ((J0a k d).getD []),.bool (J0a k d).isSome]) rfl rfl (Tr.get_of_all ?_)
 show (t51 k d).all _
 unfold t51 J0a
 refine Tr.all_t hb ?_
 cases hm:mayR k d with
 | false=>
   rw[if_neg Bool.false_ne_true]
   exact Tr.all_br (fun _=>Tr.all_ret rfl) fun _=>Tr.all_t hb (Tr.all_t rfl (Tr.all_ret rfl))
 | true=>
   obtain⟨p1,p2,_⟩:=V2w hm
   rw[if_pos rfl,p1,p2,cond_true]
   refine Tr.all_f rfl (Tr.all_t hb (Tr.all_f rfl ?_))
   by_cases k2:k=2
   ·rw[if_pos (.inl k2),Z0i (.inl k2) hm]
    exact Tr.all_t (beq_iff_eq.2 k2) (Tr.all_t rfl (Tr.all_ret rfl))
   by_cases k5:k=5
   ·rw[if_pos (.inr (.inl k5)),Z0i (.inr (.inl k5)) hm]
    exact Tr.all_f (beq_eq_false_iff_ne.2 k2) (Tr.all_t (beq_iff_eq.2 k5) (Tr.all_t rfl (Tr.all_ret rfl)))
   by_cases k12:k=12
   ·rw[if_pos (.inr (.inr k12)),Z0i (.inr (.inr k12)) hm]
    exact Tr.all_f (beq_eq_false_iff_ne.2 k2) (Tr.all_f (beq_eq_false_iff_ne.2 k5) (Tr.all_t (beq_iff_eq.2 k12) (Tr.all_t rfl (Tr.all_ret rfl))))
   rw[if_neg (by omega)]
   refine Tr.all_f (beq_eq_false_iff_ne.2 k2) (Tr.all_f (beq_eq_false_iff_ne.2 k5) (Tr.all_f (beq_eq_false_iff_ne.2 k12) ?_))
   by_cases k15:k=15
   ·rw[if_pos k15]
    subst k15
    rw[U37 hm]
    exact Tr.all_t rfl (Tr.all_t rfl (Tr.all_ret rfl))
   ·rw[if_neg k15]
    exact Tr.all_f (beq_eq_false_iff_ne.2 k15) (Tr.all_ret rfl)
def sufB (n z:List UInt8):Bool:=if n=z then true else if h:n=[]∨n=[0] then false else sufB (tlN n) z
termination_by n.length
decreasing_by exact J14 (fun e=>h (.inl e))
def undV (n z:List UInt8):Bool:=mayV z&&(mayV n&&sufB n z)
theorem V2b {n:List UInt8} (h:mayV n=true) (h0:n≠[0]):mayV (tlN n)=true:=by
 obtain⟨h1,h2,h3⟩:=U03.1 h
 rcases U04 h1 with rfl | ⟨_,_,_,_,_,hr⟩
 ·exact absurd rfl h0
 ·refine U03.2 ⟨hr,by rw[Z2l];omega,?_⟩
  have:Z14 (n.take (1+(n.getD 0 0).toNat)++n.drop (1+(n.getD 0 0).toNat)):=by rw[List.take_append_drop];exact h3
  exact(Z2x.1 this).2
theorem Q2i {n:List UInt8} (h:mayV n=true):n≠[]:=fun e=>by rw[e,Z1t] at h;cases h
def depV (n:List UInt8):Int:=if mayV n=true then ((J24 n).length:Int) else -1
def t42 (n:List UInt8):Tr Res:=.br (bigS n) (.br (!mayV n) (.ret ([.str [],.bool false],[])) (.br (n==[0]) (.ret ([.str [],.bool false],[])) (.br (decide (0 < (↑n.length:Int))) (.br (decide (0≤(↑n.length:Int))&&decide ((↑n.length:Int)≤(↑n.length:Int))) (.br (decide (0≤IntKind.wrap .i64 (1+IntKind.wrap .i64 (↑(UInt8.toNat (n.getD (Int.toNat 0) 0)):Int)))&&decide (IntKind.wrap .i64 (1+IntKind.wrap .i64 (↑(UInt8.toNat (n.getD (Int.toNat 0) 0)):Int))≤(↑n.length:Int))) (.ret ([.str (List.take (Int.toNat (↑n.length:Int) - Int.toNat (IntKind.wrap .i64 (1+IntKind.wrap .i64 (↑(UInt8.toNat (n.getD (Int.toNat 0) 0)):Int)))) (List.drop (Int.toNat (IntKind.wrap .i64 (1+IntKind.wrap .i64 (↑(UInt8.toNat (n.getD (Int.toNat 0) 0)):Int)))) n)),.bool true],[])) .no) .no) .no))) .no
def os42:OSpec:={ f:=42,sh:=[.d .str false],so:=[],F:=fun(n,_) _=>t42 n }
theorem fn42 (n:List UInt8):evC T0 (orcB [X0v] []) (lpOf h42 0 (lsOf [])) c42 1000000 (Z1 [.str n] [] Try.f42.ntmps) (J1 T0 false 0 Try.f42)=(t42 n).get:=by kernel_rfl
theorem ok42:os42.Ok Try.prog:=by
 refine V3 Q1 tab0 (V0 (all_cons J0h Z0) Z0) h42 (d:=0) (n0:=0) (S:=lsOf []) Try.func42 (by kernel_rfl) (c:=c42) (by kernel_rfl) rfl (Z2 (by kernel_rfl)) (by omega) (by kernel_rfl) ?_
 intro x'' y'' q'' hq''
 obtain⟨(n:List UInt8),_⟩:=x''
 exact(fn42 n).trans hq''
def fs42:FSpec:=fsT 42 [(.str,false)] [(.str,false),(.bool,false)] fun(n,_)=>t42 n
theorem okf42:fs42.Ok Try.prog:=X5 fun x'' r'' hr''=>ok42 x'' () r'' hr''
theorem Ql {n:List UInt8} (h:n.length≤1000000000000):bigS n=true:=by simp[bigS];omega
theorem J3y {n:List UInt8} (h:bigS n=true):n.length≤1000000000000:=by simpa[bigS] using h
def J02:FSpec:=fs42.like fun(n,_)=>.br (bigS n) (.br (mayV n&&!(n==[0])) (.ret (tlN n,true,())) (.ret (([]:List UInt8),false,()))) .no
theorem V3n:J02.Ok Try.prog:=by
 refine J3 okf42 _ ?_
 rintro⟨(n:List UInt8),_⟩ y h
 simp only[Tr.get] at h
 cases hb:bigS n with
 | false=>rw[hb] at h;cases h
 | true=>
   rw[hb,cond_true] at h
   have hl:=J3y hb
   by_cases hc:mayV n=true∧n≠[0]
   ·obtain⟨hm,hn⟩:=hc
    rw[hm,show (n==[0])=false by simpa using hn] at h
    cases h
    refine J2 (vs:=[.str (tlN n),.bool true]) rfl rfl (Tr.get_of_all ?_)
    show (t42 n).all _
    unfold t42
    rcases U04 (U03.1 hm).1 with rfl | ⟨_,hn0,hlt,_,_,_⟩
    ·exact absurd rfl hn
    simp only[szW,tlW]
    refine Tr.all_t hb (Tr.all_f (by rw[hm];rfl) (Tr.all_f (by simpa using hn) (Tr.all_t (J0 (by omega)) (Tr.all_t (by rw[J0 (by omega),J0 (by omega)];rfl) (Tr.all_t (by rw[J0 (by omega),J0 (by omega)];rfl) (Tr.all_ret rfl))))))
   ·have hf:(mayV n&&!(n==[0]))=false:=by
     cases hm:mayV n with
     | false=>rfl
     | true=>
       have:n=[0]:=Classical.byContradiction fun e=>hc ⟨hm,e⟩
       rw[this]
       rfl
    rw[hf] at h
    cases h
    refine J2 (vs:=[.str [],.bool false]) rfl rfl (Tr.get_of_all ?_)
    show (t42 n).all _
    unfold t42
    refine Tr.all_t hb (Tr.all_br (fun _=>Tr.all_ret rfl) fun hm=>Tr.all_br (fun _=>Tr.all_ret rfl) fun hn=>?_)
    have hm:mayV n=true:=by cases h:mayV n;(rw[h] at hm;cases hm);rfl
    rw[hm,hn] at hf
    cases hf
def t32 (n:List UInt8):Tr Res:=.br (bigS n) (.br (Z00 n) (.br (decide (List.length n > 255)) (.br (bigS n) (.br (!mayV n) (.ret ([.int .i64 (-1)],[])) (.ret ([.int .i64 (↑0:Int)],[]))) .no) (.br (bigS n) (.br (!mayV n) (.ret ([.int .i64 (-1)],[])) (.ret ([.int .i64 (↑(List.length (J24 n)):Int)],[]))) .no)) (.br (bigS n) (.br (!mayV n) (.ret ([.int .i64 (-1)],[])) (.ret ([.int .i64 (↑0:Int)],[]))) .no)) .no
def os32:OSpec:={ f:=32,sh:=[.d .str false],so:=[],F:=fun(n,_) _=>t32 n }
theorem fn32 (n:List UInt8):evC T0 (orcB [X0v,fs58] []) (lpOf h32 0 (lsOf [])) c32 1000000 (Z1 [.str n] [] Try.f32.ntmps) (J1 T0 false 0 Try.f32)=(t32 n).get:=by kernel_rfl
theorem ok32:os32.Ok Try.prog:=by
 refine V3 Q1 tab0 (V0 (all_cons J0h (all_cons X47 Z0)) Z0) h32 (d:=0) (n0:=0) (S:=lsOf []) Try.func32 (by kernel_rfl) (c:=c32) (by kernel_rfl) rfl (Z2 (by kernel_rfl)) (by omega) (by kernel_rfl) ?_
 intro x'' y'' q'' hq''
 obtain⟨(n:List UInt8),_⟩:=x''
 exact(fn32 n).trans hq''
def fs32:FSpec:=fsT 32 [(.str,false)] [((.int .i64),false)] fun(n,_)=>t32 n
theorem okf32:fs32.Ok Try.prog:=X5 fun x'' r'' hr''=>ok32 x'' () r'' hr''
theorem J10 {n:List UInt8} (h:(!mayV n)=true):mayV n=false:=by cases hm:mayV n;rfl;(rw[hm] at h;cases h)
theorem J1x {n:List UInt8} (h:(!mayV n)=false):mayV n=true:=by cases hm:mayV n;(rw[hm] at h;cases h);rfl
theorem V14 {n:List UInt8} (h:mayV n=false):depV n=-1:=by unfold depV;rw[h];rfl
theorem J3c {n:List UInt8} (h:mayV n=true):depV n=((J24 n).length:Int):=by unfold depV;rw[h];rfl
def V1f:FSpec:=fs32.like fun(n,_)=>.on (bigS n) (depV n,())
theorem X4d:V1f.Ok Try.prog:=by
 refine J3 okf32 _ ?_
 rintro⟨(n:List UInt8),_⟩ y h
 obtain⟨hb,rfl⟩:=Tr.get_on h
 have hb:bigS n=true:=hb
 refine J2 (vs:=[.int .i64 (depV n)]) rfl rfl (Tr.get_of_all ?_)
 show (t32 n).all _
 unfold t32
 refine Tr.all_t hb (Tr.all_br (fun hr=>Tr.all_br (fun hl=>Tr.all_t hb (Tr.all_br (fun hm=>Tr.all_ret (by rw[V14 (J10 hm)])) fun hm=>?_)) fun hl=>Tr.all_t hb (Tr.all_br (fun hm=>Tr.all_ret (by rw[V14 (J10 hm)])) fun hm=>Tr.all_ret (by rw[J3c (J1x hm)]))) fun hr=>Tr.all_t hb (Tr.all_br (fun hm=>Tr.all_ret (by rw[V14 (J10 hm)])) fun hm=>?_))
 ·have:=(U03.1 (J1x hm)).2.1
  have:=of_decide_eq_true hl
  omega
 ·rw[(U03.1 (J1x hm)).1] at hr
  cases hr
def unC (n z:List UInt8) (ok:Bool):Bool:=ok==mayV n&&Nat.ble n.length 1000000
noncomputable def b31:Code:=X4 c31 0
def ls31:LoopSpec:={ bid:=0,sh:=[.d .str false,.d .str false,.d .bool false],so:=[],F:=fun(n,z,ok,_) _=>.on2 (unC n z ok) (!(mayV n&&sufB n z)) (.exit 0,[.dead],[]) (.ret,[.bool true],[]) }
def r31 (n z:List UInt8) (ok:Bool):Tr (St⊕(Ex×St)):=.br ok (.br (n==z) (.ret (.inr (.ret,stOf [4] [.bool true] []))) (.br (bigS n) (.br (mayV n&&!n==[0]) (.ret (.inl (stOf [0,1,5] [.str (tlN n),.str z,.bool true] []))) (.ret (.inl (stOf [0,1,5] [.str [],.str z,.bool false] [])))) .no)) (.ret (.inr (.exit 0,stOf [4] [.dead] [])))
theorem X42 (lp:Lp) (n z:List UInt8) (ok:Bool):evC T0 (orcB [J02] []) lp b31 0 (stOf [0,1,5] [.str n,.str z,.bool ok] []) (Q0 [0,1,5] [4] 0)=(r31 n z ok).get:=by kernel_rfl
theorem wf31 (z:List UInt8) (I'':List UInt8→Bool→Prop) (m'':List UInt8→Bool→Nat) (r'':Ex×St) (h:∀ (n:List UInt8) (ok:Bool),I'' n ok→(r31 n z ok).all fun x''=>x''=.inr r''∨∃ (n':List UInt8) (ok':Bool),x''=.inl (stOf [0,1,5] [.str n',.str z,.bool ok'] [])∧I'' n' ok'∧m'' n' ok' < m'' n ok) (lp:Lp) (n:List UInt8) (ok:Bool):I'' n ok→
    X2 (fun st=>evC T0 (orcB [J02] []) lp b31 0 st (Q0 [0,1,5] [4] 0)) (stOf [0,1,5] [.str n,.str z,.bool ok] [])=some r'':=
 U4 (fun a'':List UInt8×Bool=>stOf [0,1,5] [.str a''.1,.str z,.bool a''.2] []) (fun a''=>I'' a''.1 a''.2) (fun a''=>m'' a''.1 a''.2) r'' (fun a''=>r31 a''.1 z a''.2)
  (fun a'' x hx=>(X42 lp a''.1 z a''.2).trans hx) (fun a'' ha=>Tr.all_mono (fun x'' hx=>hx.imp id fun⟨n',ok',h1,h2,h3⟩=>⟨(n',ok'),h1,h2,h3⟩) (h (a''.1) (a''.2) ha)) (n,ok)
theorem X4i:ls31.Ok T0 (orcB [J02] []) h31 0 0 b31:=by
 intro q'' hq'' x'' y'' r'' h
 obtain⟨(n:List UInt8),(z:List UInt8),(ok:Bool),_⟩:=x''
 obtain⟨hc,rfl⟩:=Tr.get_on2 h
 show X2 (fun st=>evC T0 (orcB [J02] []) (lpN T0 (orcB [J02] []) h31 0 q'') b31 0 st (Q0 [0,1,5] [4] 0)) (stOf [0,1,5] [.str n,.str z,.bool ok] [])=some ((bif !(mayV n&&sufB n z) then (.exit 0,[.dead],[]) else (.ret,[.bool true],[]):Ex×List AV×List LObj).1,stOf [4] (bif !(mayV n&&sufB n z) then (.exit 0,[.dead],[]) else (.ret,[.bool true],[]):Ex×List AV×List LObj).2.1 (bif !(mayV n&&sufB n z) then (.exit 0,[.dead],[]) else (.ret,[.bool true],[]):Ex×List AV×List LObj).2.2)
 simp only[unC,Bool.and_eq_true,beq_iff_eq] at hc
 obtain⟨rfl,hb⟩:=hc
 have hb:=Nat.le_of_ble_eq_true hb
 refine wf31 z (fun m o=>o=mayV m∧m.length≤1000000∧(mayV n&&sufB n z)=(mayV m&&sufB m z)) (fun m o=>m.length+(bif o then 1 else 0)) _ ?_ _ n (mayV n) ⟨rfl,hb,rfl⟩
 rintro m _ ⟨rfl,hl,he⟩
 rw[he]
 unfold r31
 cases hm:mayV m with
 | false=>exact Tr.all_f rfl (Tr.all_ret (.inl rfl))
 | true=>
   have hm0:=Q2i hm
   rw[sufB]
   refine Tr.all_t rfl (Tr.all_br (fun hz=>Tr.all_ret (.inl ?_)) fun hz=>Tr.all_t (Ql (by omega)) ?_)
   ·rw[if_pos (beq_iff_eq.1 hz)];rfl
   ·rw[if_neg (beq_eq_false_iff_ne.1 hz)]
    by_cases h0:m=[0]
    ·subst h0
     refine Tr.all_f rfl (Tr.all_ret (.inr ⟨_,_,rfl,⟨?_,by simp,?_⟩,by simp⟩))
     ·rw[Z1t]
     ·rw[dif_pos (.inr rfl),Z1t];rfl
    ·rw[dif_neg (by simp[hm0,h0])]
     have hlt:=J14 hm0
     refine Tr.all_t (by simpa using h0) (Tr.all_ret (.inr ⟨_,_,rfl,⟨?_,by omega,?_⟩,?_⟩))
     ·exact(V2b hm h0).symm
     ·rw[V2b hm h0]
     ·simp;omega
def smN (n:List UInt8):Bool:=Nat.ble n.length 1000000
theorem Jx {n:List UInt8}:smN n=true↔n.length≤1000000:=by unfold smN;exact⟨Nat.le_of_ble_eq_true,Nat.ble_eq_true_of_le⟩
def t31 (n z:List UInt8):Tr Res:=.br (bigS z) (.br (!mayV z) (.ret ([.bool false],[])) (.br (bigS n) (.br (unC n z (mayV n)) (.br (!(mayV n&&sufB n z)) (.ret ([.bool false],[])) (.ret ([.bool true],[]))) .no) .no)) .no
def os31:OSpec:={ f:=31,sh:=[.d .str false,.d .str false],so:=[],F:=fun(n,z,_) _=>t31 n z }
theorem fn31 (n z:List UInt8):evC T0 (orcB [X0v,J02] []) (lpOf h31 0 (lsOf [ls31])) c31 1000000 (Z1 [.str n,.str z] [] Try.f31.ntmps) (J1 T0 false 0 Try.f31)=(t31 n z).get:=by kernel_rfl
theorem ok31:os31.Ok Try.prog:=by
 refine V3 Q1 tab0 (V0 (all_cons J0h (all_cons V3n Z0)) Z0) h31 (d:=0) (n0:=0) (S:=lsOf [ls31]) Try.func31 (by kernel_rfl) (c:=c31) (by kernel_rfl) rfl (Q5 (xs:=[(0,b31)]) (by kernel_rfl) (all_cons (Q4 X4i) Z0)) (by omega) (by kernel_rfl) ?_
 intro x'' y'' q'' hq''
 obtain⟨(n:List UInt8),(z:List UInt8),_⟩:=x''
 exact(fn31 n z).trans hq''
def fs31:FSpec:=fsT 31 [(.str,false),(.str,false)] [(.bool,false)] fun(n,z,_)=>t31 n z
theorem okf31:fs31.Ok Try.prog:=X5 fun x'' r'' hr''=>ok31 x'' () r'' hr''
def Ub:FSpec:=fs31.like fun(n,z,_)=>.on (smN n&&smN z) (undV n z,())
theorem J07:Ub.Ok Try.prog:=by
 refine J3 okf31 _ ?_
 rintro⟨(n:List UInt8),(z:List UInt8),_⟩ y h
 obtain⟨hb,rfl⟩:=Tr.get_on h
 obtain⟨hb1,hb2⟩:=Bool.and_eq_true_iff.1 (show (smN n&&smN z)=true from hb)
 have hb1:=Jx.1 hb1
 have hb2:=Jx.1 hb2
 refine J2 (vs:=[.bool (undV n z)]) rfl rfl (Tr.get_of_all ?_)
 show (t31 n z).all _
 unfold t31 undV
 refine Tr.all_t (Ql (by omega)) (Tr.all_br (fun hz=>Tr.all_ret (by rw[J10 hz];rfl)) fun hz=>?_)
 rw[J1x hz]
 have hc:unC n z (mayV n)=true:=by unfold unC;rw[Nat.ble_eq_true_of_le (by omega)];simp
 refine Tr.all_t (Ql (by omega)) (Tr.all_t hc (Tr.all_br (fun hs=>?_) fun hs=>?_))
 ·have hs:(mayV n&&sufB n z)=false:=by
   cases h:(mayV n&&sufB n z)
   ·rfl
   ·rw[h] at hs;cases hs
  rw[hs];exact Tr.all_ret rfl
 ·have hs:(mayV n&&sufB n z)=true:=by
   cases h:(mayV n&&sufB n z)
   ·rw[h] at hs;cases hs
   ·rfl
  rw[hs];exact Tr.all_ret rfl
theorem Z5 {α:Type} {l:List α} {k:Nat} (h:k < l.length) (x:α):l.drop k=l.getD k x::l.drop (k+1):=by
 rw[List.getD_eq_getElem?_getD,List.getElem?_eq_getElem h]
 exact List.drop_eq_getElem_cons h
abbrev RR:Ty:=.pair .str (.pair (.int .u16) (.pair (.int .u16) (.pair (.int .u32) .str)))
abbrev RRt:=List UInt8×(Int×(Int×(Int×List UInt8)))
abbrev ZN:Ty:=.pair .str (.list RR)
abbrev ZNt:=List UInt8×List RRt
abbrev QQ:Ty:=.pair .str (.pair (.int .u16) (.int .u16))
abbrev QQt:=List UInt8×(Int×Int)
abbrev MG:Ty:=.pair (.int .u16) (.pair .bool (.pair .bool (.pair .bool (.pair .bool (.pair .bool (.pair (.int .i64) (.pair (.int .i64) (.pair (.list QQ) (.pair (.list RR) (.pair (.list RR) (.list RR)))))))))))
abbrev MGt:=Int×(Bool×(Bool×(Bool×(Bool×(Bool×(Int×(Int×(List QQt×(List RRt×(List RRt×List RRt))))))))))
instance decRR:DecidableEq RRt:=inferInstance
instance decLRR:DecidableEq (List RRt):=inferInstance
instance decZN:DecidableEq ZNt:=inferInstanceAs (DecidableEq (List UInt8×List RRt))
instance decLZN:DecidableEq (List ZNt):=inferInstance
def t74 (r:(List UInt8×(Int×(Int×(Int×List UInt8))))) (n:List UInt8) (kind:Int):Tr Res:=.br (r.1==n) (.ret ([.bool (r.2.1==kind)],[.boxT none [.str n],.boxT none [.int .u16 kind]])) (.ret ([.bool false],[.boxT none [.str n],.boxT none [.int .u16 kind]]))
def os74:OSpec:={ f:=74,sh:=[.d RR true,.ptr 0 0,.ptr 1 0],so:=[.box [.d .str false],.box [.d (.int .u16) false]],F:=fun(r,_) ((n,_),(kind,_),_)=>t74 r n kind }
theorem fn74 (r:(List UInt8×(Int×(Int×(Int×List UInt8))))) (n:List UInt8) (kind:Int):evC T0 (orcB [] []) (lpOf h74 2 (lsOf [])) c74 1000000 (Z1 [AV.ofTy RR r true,.ptr 0 0,.ptr 1 0] [.box [.str n],.box [.int .u16 kind]] Try.f74.ntmps) (J1 T0 false 2 Try.f74)=(t74 r n kind).get:=by kernel_rfl
theorem ok74:os74.Ok Try.prog:=by
 refine V3 Q1 tab0 (V0 Z0 Z0) h74 (d:=0) (n0:=2) (S:=lsOf []) Try.func74 (by kernel_rfl) (c:=c74) (by kernel_rfl) rfl (Z2 (by kernel_rfl)) (by omega) (by kernel_rfl) ?_
 intro x'' y'' q'' hq''
 obtain⟨(r:(List UInt8×(Int×(Int×(Int×List UInt8))))),_⟩:=x''
 obtain⟨⟨(n:List UInt8),_⟩,⟨(kind:Int),_⟩,_⟩:=y''
 exact(fn74 r n kind).trans hq''
def isOf (n:List UInt8) (kind:Int) (r:RRt):Bool:=r.1==n&&r.2.1==kind
def ownV (ap:List UInt8) (f:RRt→Bool) (rs:List RRt):List RRt:=rs.filter fun r=>undV r.1 ap&&f r
def smR (rs:List RRt):Bool:=Nat.ble rs.length 1000000&&rs.all fun r=>smN r.1
def ownC (ap:List UInt8) (rs l:List RRt) (m i:Int):Bool:=smN ap&&(smR rs&&(l.isEmpty&&(decide (m=(rs.length:Int))&&decide (i=0))))
def Q14:OSpec:=os74.like fun(r,_) ((n,_),(kind,_),_)=>.ret ([.bool (isOf n kind r)],[.boxT none [.str n],.boxT none [.int .u16 kind]])
theorem ok74w:Q14.Ok Try.prog:=by
 refine Zc ok74 _ ?_
 rintro⟨(r:RRt),_⟩ ⟨⟨(n:List UInt8),_⟩,⟨(kind:Int),_⟩,_⟩ r' h
 cases h
 refine Tr.get_of_all ?_
 show (t74 r n kind).all _
 unfold t74 isOf
 refine Tr.all_br (fun c=>Tr.all_ret ?_) fun c=>Tr.all_ret ?_
 ·rw[c,Bool.true_and]
 ·rw[c,Bool.false_and]
noncomputable def b49o:Code:=X4 c49 0
def X36:LoopSpec:={ bid:=0,sh:=[.fnp 74 [(0,0),(1,0)],.ptr 2 0,.row 3,.d (.list RR) false,.d (.int .i64) false,.d (.int .i64) false],so:=[.box [.d .str false],.box [.d (.int .u16) false],.box [.d .str false,.d (.list RR) false],.row RR],F:=fun(rs,m,i,_) ((n,_),(kind,_),(ap,zr,_),l,_)=>.on (ownC ap rs l m i) (.exit 0,[.rowA 2],[.box [.str n],.box [.int .u16 kind],.row RR (ownV ap (isOf n kind) rs)]) }
def r49o (rs:List (List UInt8×(Int×(Int×(Int×List UInt8))))) (m i:Int) (n:List UInt8) (kind:Int) (ap:List UInt8) (zr l:List (List UInt8×(Int×(Int×(Int×List UInt8))))):Tr (St⊕(Ex×St)):=.br (decide (i < m)) (.br (decide (0≤i)) (.br (decide (i < (↑rs.length:Int))) (.br (smN (rs.getD i.toNat (Ty.dflt RR)).1&&smN ap) (.br (undV (rs.getD i.toNat (Ty.dflt RR)).1 ap) (.br (isOf n kind (rs.getD i.toNat (Ty.dflt RR))) (.br (fits (List.length l+1) 40) (.ret (.inl (stOf [1,2,5,9,10,11] [AV.fn 74 [.ptr 0 0,.ptr 1 0],.ptr 2 0,.rowA 3,.list RR rs,.int .i64 m,.int .i64 (IntKind.wrap .i64 (i+1))] [.boxT none [.str n],.boxT none [.int .u16 kind],.boxT none [.str ap,.list RR zr],.row RR (l++[List.getD rs i.toNat (Ty.dflt RR)])]))) .no) (.ret (.inl (stOf [1,2,5,9,10,11] [AV.fn 74 [.ptr 0 0,.ptr 1 0],.ptr 2 0,.rowA 3,.list RR rs,.int .i64 m,.int .i64 (IntKind.wrap .i64 (i+1))] [.boxT none [.str n],.boxT none [.int .u16 kind],.boxT none [.str ap,.list RR zr],.row RR l])))) (.ret (.inl (stOf [1,2,5,9,10,11] [AV.fn 74 [.ptr 0 0,.ptr 1 0],.ptr 2 0,.rowA 3,.list RR rs,.int .i64 m,.int .i64 (IntKind.wrap .i64 (i+1))] [.boxT none [.str n],.boxT none [.int .u16 kind],.boxT none [.str ap,.list RR zr],.row RR l])))) .no) .no) .no) (.ret (.inr (.exit 0,stOf [5] [.rowA 2] [.boxT none [.str n],.boxT none [.int .u16 kind],.row RR l])))
theorem X3f (lp:Lp) (rs:List (List UInt8×(Int×(Int×(Int×List UInt8))))) (m i:Int) (n:List UInt8) (kind:Int) (ap:List UInt8) (zr l:List (List UInt8×(Int×(Int×(Int×List UInt8))))):evC T0 (orcB [Ub] [Q14]) lp b49o 0 (stOf [1,2,5,9,10,11] [.fn 74 [.ptr 0 0,.ptr 1 0],.ptr 2 0,.rowA 3,.list RR rs,.int .i64 m,.int .i64 i] [.box [.str n],.box [.int .u16 kind],.box [.str ap,.list RR zr],.row RR l]) (Q0 [1,2,5,9,10,11] [5] 2)=(r49o rs m i n kind ap zr l).get:=by kernel_rfl
theorem wf49o (rs:List (List UInt8×(Int×(Int×(Int×List UInt8))))) (m:Int) (n:List UInt8) (kind:Int) (ap:List UInt8) (zr:List (List UInt8×(Int×(Int×(Int×List UInt8))))) (I'':List (List UInt8×(Int×(Int×(Int×List UInt8))))→Int→Prop) (m'':List (List UInt8×(Int×(Int×(Int×List UInt8))))→Int→Nat) (r'':Ex×St) (h:∀ (l:List (List UInt8×(Int×(Int×(Int×List UInt8))))) (i:Int),I'' l i→(r49o rs m i n kind ap zr l).all fun x''=>x''=.inr r''∨∃ (l':List (List UInt8×(Int×(Int×(Int×List UInt8))))) (i':Int),x''=.inl (stOf [1,2,5,9,10,11] [.fn 74 [.ptr 0 0,.ptr 1 0],.ptr 2 0,.rowA 3,.list RR rs,.int .i64 m,.int .i64 i'] [.box [.str n],.box [.int .u16 kind],.box [.str ap,.list RR zr],.row RR l'])∧I'' l' i'∧m'' l' i' < m'' l i) (lp:Lp) (l:List (List UInt8×(Int×(Int×(Int×List UInt8))))) (i:Int):I'' l i→
    X2 (fun st=>evC T0 (orcB [Ub] [Q14]) lp b49o 0 st (Q0 [1,2,5,9,10,11] [5] 2)) (stOf [1,2,5,9,10,11] [.fn 74 [.ptr 0 0,.ptr 1 0],.ptr 2 0,.rowA 3,.list RR rs,.int .i64 m,.int .i64 i] [.box [.str n],.box [.int .u16 kind],.box [.str ap,.list RR zr],.row RR l])=some r'':=
 U4 (fun a'':List (List UInt8×(Int×(Int×(Int×List UInt8))))×Int=>stOf [1,2,5,9,10,11] [.fn 74 [.ptr 0 0,.ptr 1 0],.ptr 2 0,.rowA 3,.list RR rs,.int .i64 m,.int .i64 a''.2] [.box [.str n],.box [.int .u16 kind],.box [.str ap,.list RR zr],.row RR a''.1]) (fun a''=>I'' a''.1 a''.2) (fun a''=>m'' a''.1 a''.2) r'' (fun a''=>r49o rs m a''.2 n kind ap zr a''.1)
  (fun a'' x hx=>(X3f lp rs m a''.2 n kind ap zr a''.1).trans hx) (fun a'' ha=>Tr.all_mono (fun x'' hx=>hx.imp id fun⟨l',i',h1,h2,h3⟩=>⟨(l',i'),h1,h2,h3⟩) (h (a''.1) (a''.2) ha)) (l,i)
theorem X2o {rs:List RRt} (h:smR rs=true) {k:Nat} (hk:k < rs.length) (x:RRt):smN (rs.getD k x).1=true:=by
 unfold smR at h
 rw[Bool.and_eq_true,List.all_eq_true] at h
 refine h.2 _ ?_
 rw[List.getD_eq_getElem?_getD,List.getElem?_eq_getElem hk]
 exact List.getElem_mem hk
theorem U2m {rs:List RRt} (h:smR rs=true):rs.length≤1000000:=by
 unfold smR at h
 rw[Bool.and_eq_true] at h
 exact Nat.le_of_ble_eq_true h.1
theorem U1m {ap:List UInt8} {f:RRt→Bool} {rs:List RRt} {k:Nat} (hk:k < rs.length) (x:RRt):ownV ap f (rs.drop k)=(bif undV (rs.getD k x).1 ap&&f (rs.getD k x) then [rs.getD k x] else [])++ownV ap f (rs.drop (k+1)):=by
 rw[Z5 hk x]
 unfold ownV
 rw[List.filter_cons]
 cases h:(undV (rs.getD k x).1 ap&&f (rs.getD k x))<;>simp
theorem Z15 {ap:List UInt8} {f:RRt→Bool} {rs:List RRt}:(ownV ap f rs).length≤rs.length:=List.length_filter_le _ _
theorem V4 {i:Int} {n:Nat} (h0:0≤i) (h:i≤n) (hn:n≤1000000000):IntKind.wrap IntKind.i64 (i+1)=i+1:=IntWalk.i64_in _ (by omega)
theorem Q3u:X36.Ok T0 (orcB [Ub] [Q14]) h49 2 0 b49o:=by
 intro q'' hq'' x'' y'' r'' h
 obtain⟨(rs:List (List UInt8×(Int×(Int×(Int×List UInt8))))),(m:Int),(i:Int),_⟩:=x''
 obtain⟨⟨(n:List UInt8),_⟩,⟨(kind:Int),_⟩,⟨(ap:List UInt8),(zr:List (List UInt8×(Int×(Int×(Int×List UInt8))))),_⟩,(l:List (List UInt8×(Int×(Int×(Int×List UInt8))))),_⟩:=y''
 obtain⟨hc,rfl⟩:=Tr.get_on h
 show X2 (fun st=>evC T0 (orcB [Ub] [Q14]) (lpN T0 (orcB [Ub] [Q14]) h49 2 q'') b49o 0 st (Q0 [1,2,5,9,10,11] [5] 2)) (stOf [1,2,5,9,10,11] [.fn 74 [.ptr 0 0,.ptr 1 0],.ptr 2 0,.rowA 3,.list RR rs,.int .i64 m,.int .i64 i] [.box [.str n],.box [.int .u16 kind],.box [.str ap,.list RR zr],.row RR l])=some (.exit 0,stOf [5] ([.rowA 2]) ([.box [.str n],.box [.int .u16 kind],.row RR (ownV ap (isOf n kind) rs)]))
 simp only[ownC,Bool.and_eq_true,decide_eq_true_eq,List.isEmpty_iff] at hc
 obtain⟨hap,hrs,rfl,rfl,rfl⟩:=hc
 have hl:=U2m hrs
 refine wf49o rs rs.length n kind ap zr (fun l i=>0≤i∧i≤rs.length∧l++ownV ap (isOf n kind) (rs.drop i.toNat)=ownV ap (isOf n kind) rs) (fun l i=>(rs.length - i).toNat) _ ?_ _ [] 0 ⟨by omega,by omega,rfl⟩
 rintro l i ⟨h0,h1,he⟩
 have hll:l.length≤1000000:=by
  have:=Z15 (ap:=ap) (f:=isOf n kind) (rs:=rs)
  rw[←he,List.length_append] at this
  omega
 unfold r49o
 rw[V4 h0 h1 (by omega)]
 by_cases hi:i < rs.length
 ·have hsm:=X2o hrs (k:=i.toNat) (by omega) (Ty.dflt RR)
  rw[U1m (k:=i.toNat) (by omega) (Ty.dflt RR)] at he
  generalize rs.getD i.toNat (Ty.dflt RR)=x at *
  refine Tr.all_t (J0 hi) (Tr.all_t (J0 h0) (Tr.all_t (J0 hi) (Tr.all_t (by rw[hsm,hap];rfl) (Tr.all_br (fun hu=>Tr.all_br (fun hf=>Tr.all_t (Zh (by omega) (by omega)) ?_) fun hf=>?_) fun hu=>?_))))
  all_goals rw[hu] at he
  all_goals try rw[hf] at he
  all_goals refine Tr.all_ret (.inr ⟨_,_,rfl,⟨by omega,by omega,?_⟩,by omega⟩)
  all_goals rw[show (i+1).toNat=i.toNat+1 by omega]
  ·rw[←he];simp
  ·rw[←he];simp
  ·rw[←he];simp
 ·refine Tr.all_f (X0 hi) (Tr.all_ret (.inl ?_))
  rw[show i.toNat=rs.length by omega,List.drop_length] at he
  rw[←he]
  simp[ownV]
def t49o (z:(List UInt8×List (List UInt8×(Int×(Int×(Int×List UInt8)))))) (n:List UInt8) (kind:Int):Tr Res:=.br (ownC z.1 z.2 [] (↑z.2.length:Int) 0) (.ret ([.rowA 2],[.boxT none [.str n],.boxT none [.int .u16 kind],.row RR (ownV z.1 (isOf n kind) z.2)])) .no
def Z3o:OSpec:={ f:=49,sh:=[.d ZN true,.fnp 74 [(0,0),(1,0)]],so:=[.box [.d .str false],.box [.d (.int .u16) false]],F:=fun(z,_) ((n,_),(kind,_),_)=>t49o z n kind }
theorem fn49o (z:(List UInt8×List (List UInt8×(Int×(Int×(Int×List UInt8)))))) (n:List UInt8) (kind:Int):evC T0 (orcB [Ub] [Q14]) (lpOf (hOwn h49) 2 (lsOf [X36])) c49 1000000 (Z1 [AV.ofTy ZN z true,.fn 74 [.ptr 0 0,.ptr 1 0]] [.box [.str n],.box [.int .u16 kind]] Try.f49.ntmps) (J1 T0 true 2 Try.f49)=(t49o z n kind).get:=by kernel_rfl
theorem Q48:Z3o.Ok Try.prog:=by
 refine V3 Q1 tab0 (V0 (all_cons J07 Z0) (all_cons ok74w Z0)) (hOwn h49) (d:=0) (n0:=2) (S:=lsOf [X36]) Try.func49 (by kernel_rfl) (c:=c49) (by kernel_rfl) rfl (Q5 (xs:=[(0,b49o)]) (by kernel_rfl) (all_cons (Q4 Q3u) Z0)) (by omega) (by kernel_rfl) ?_
 intro x'' y'' q'' hq''
 obtain⟨(z:(List UInt8×List (List UInt8×(Int×(Int×(Int×List UInt8)))))),_⟩:=x''
 obtain⟨⟨(n:List UInt8),_⟩,⟨(kind:Int),_⟩,_⟩:=y''
 exact(fn49o z n kind).trans hq''
def t43 (z:(List UInt8×List (List UInt8×(Int×(Int×(Int×List UInt8)))))) (n:List UInt8) (kind:Int):Tr Res:=.br (ownC z.1 z.2 [] (↑z.2.length:Int) 0) (.ret ([.list RR (ownV z.1 (isOf n kind) z.2)],[])) .no
def os43:OSpec:={ f:=43,sh:=[.d ZN true,.d .str false,.d (.int .u16) false],so:=[],F:=fun(z,n,kind,_) _=>t43 z n kind }
theorem fn43 (z:(List UInt8×List (List UInt8×(Int×(Int×(Int×List UInt8)))))) (n:List UInt8) (kind:Int):evC T0 (orcB [] [Z3o]) (lpOf h43 0 (lsOf [])) c43 1000000 (Z1 [AV.ofTy ZN z true,.str n,.int .u16 kind] [] Try.f43.ntmps) (J1 T0 false 0 Try.f43)=(t43 z n kind).get:=by kernel_rfl
theorem ok43:os43.Ok Try.prog:=by
 refine V3 Q1 tab0 (V0 Z0 (all_cons Q48 Z0)) h43 (d:=0) (n0:=0) (S:=lsOf []) Try.func43 (by kernel_rfl) (c:=c43) (by kernel_rfl) rfl (Z2 (by kernel_rfl)) (by omega) (by kernel_rfl) ?_
 intro x'' y'' q'' hq''
 obtain⟨(z:(List UInt8×List (List UInt8×(Int×(Int×(Int×List UInt8)))))),(n:List UInt8),(kind:Int),_⟩:=x''
 exact(fn43 z n kind).trans hq''
def fs43:FSpec:=fsT 43 [(ZN,true),(.str,false),((.int .u16),false)] [((.list RR),false)] fun(z,n,kind,_)=>t43 z n kind
theorem okf43:fs43.Ok Try.prog:=X5 fun x'' r'' hr''=>ok43 x'' () r'' hr''
def smZ (z:ZNt):Bool:=smN z.1&&smR z.2
def ofV (z:ZNt) (n:List UInt8) (kind:Int):List RRt:=ownV z.1 (isOf n kind) z.2
def Jk:FSpec:=fs43.like fun(z,n,kind,_)=>.on (smZ z) (ofV z n kind,())
theorem U2p {z:ZNt}:smZ z=true↔smN z.1=true∧smR z.2=true:=by unfold smZ;exact Bool.and_eq_true_iff
theorem Z2q {z:ZNt} (h:smZ z=true):ownC z.1 z.2 [] (z.2.length:Int) 0=true:=by
 obtain⟨h1,h2⟩:=U2p.1 h
 unfold ownC
 rw[h1,h2,decide_eq_true rfl]
 rfl
theorem Z2d:Jk.Ok Try.prog:=by
 refine J3 okf43 _ ?_
 rintro⟨(z:ZNt),(n:List UInt8),(kind:Int),_⟩ y h
 obtain⟨hb,rfl⟩:=Tr.get_on h
 refine J2 (vs:=[.list RR (ofV z n kind)]) rfl rfl (Tr.get_of_all ?_)
 show (t43 z n kind).all _
 exact Tr.all_t (Z2q hb) (Tr.all_ret rfl)
def t50 (r:(List UInt8×(Int×(Int×(Int×List UInt8))))) (n:List UInt8):Tr Res:=.br (smN r.1&&smN n) (.ret ([.bool (undV r.1 n)],[.boxT none [.str n]])) .no
def os50:OSpec:={ f:=50,sh:=[.d RR true,.ptr 0 0],so:=[.box [.d .str false]],F:=fun(r,_) ((n,_),_)=>t50 r n }
theorem fn50 (r:(List UInt8×(Int×(Int×(Int×List UInt8))))) (n:List UInt8):evC T0 (orcB [Ub] [Z3o]) (lpOf h50 1 (lsOf [])) c50 1000000 (Z1 [AV.ofTy RR r true,.ptr 0 0] [.box [.str n]] Try.f50.ntmps) (J1 T0 false 1 Try.f50)=(t50 r n).get:=by kernel_rfl
theorem ok50:os50.Ok Try.prog:=by
 refine V3 Q1 tab0 (V0 (all_cons J07 Z0) (all_cons Q48 Z0)) h50 (d:=0) (n0:=1) (S:=lsOf []) Try.func50 (by kernel_rfl) (c:=c50) (by kernel_rfl) rfl (Z2 (by kernel_rfl)) (by omega) (by kernel_rfl) ?_
 intro x'' y'' q'' hq''
 obtain⟨(r:(List UInt8×(Int×(Int×(Int×List UInt8))))),_⟩:=x''
 obtain⟨⟨(n:List UInt8),_⟩,_⟩:=y''
 exact(fn50 r n).trans hq''
def undF (n:List UInt8) (r:RRt):Bool:=undV r.1 n
def ownT (ap n:List UInt8) (rs l:List RRt) (m i:Int):Bool:=smN n&&ownC ap rs l m i
noncomputable def b49t:Code:=X4 c49 0
def J3h:LoopSpec:={ bid:=0,sh:=[.fnp 50 [(0,0)],.ptr 1 0,.row 2,.d (.list RR) false,.d (.int .i64) false,.d (.int .i64) false],so:=[.box [.d .str false],.box [.d .str false,.d (.list RR) false],.row RR],F:=fun(rs,m,i,_) ((n,_),(ap,zr,_),l,_)=>.on (ownT ap n rs l m i) (.exit 0,[.rowA 1],[.box [.str n],.row RR (ownV ap (undF n) rs)]) }
def r49t (rs:List (List UInt8×(Int×(Int×(Int×List UInt8))))) (m i:Int) (n ap:List UInt8) (zr l:List (List UInt8×(Int×(Int×(Int×List UInt8))))):Tr (St⊕(Ex×St)):=.br (decide (i < m)) (.br (decide (0≤i)) (.br (decide (i < (↑rs.length:Int))) (.br (smN (rs.getD i.toNat (Ty.dflt RR)).1&&smN ap) (.br (undV (rs.getD i.toNat (Ty.dflt RR)).1 ap) (.br (smN (rs.getD i.toNat (Ty.dflt RR)).1&&smN n) (.br (undV (rs.getD i.toNat (Ty.dflt RR)).1 n) (.br (fits (List.length l+1) 40) (.ret (.inl (stOf [1,2,5,9,10,11] [AV.fn 50 [.ptr 0 0],.ptr 1 0,.rowA 2,.list RR rs,.int .i64 m,.int .i64 (IntKind.wrap .i64 (i+1))] [.boxT none [.str n],.boxT none [.str ap,.list RR zr],.row RR (l++[List.getD rs i.toNat (Ty.dflt RR)])]))) .no) (.ret (.inl (stOf [1,2,5,9,10,11] [AV.fn 50 [.ptr 0 0],.ptr 1 0,.rowA 2,.list RR rs,.int .i64 m,.int .i64 (IntKind.wrap .i64 (i+1))] [.boxT none [.str n],.boxT none [.str ap,.list RR zr],.row RR l])))) .no) (.ret (.inl (stOf [1,2,5,9,10,11] [AV.fn 50 [.ptr 0 0],.ptr 1 0,.rowA 2,.list RR rs,.int .i64 m,.int .i64 (IntKind.wrap .i64 (i+1))] [.boxT none [.str n],.boxT none [.str ap,.list RR zr],.row RR l])))) .no) .no) .no) (.ret (.inr (.exit 0,stOf [5] [.rowA 1] [.boxT none [.str n],.row RR l])))
theorem Q35 (lp:Lp) (rs:List (List UInt8×(Int×(Int×(Int×List UInt8))))) (m i:Int) (n ap:List UInt8) (zr l:List (List UInt8×(Int×(Int×(Int×List UInt8))))):evC T0 (orcB [Ub] [os50]) lp b49t 0 (stOf [1,2,5,9,10,11] [.fn 50 [.ptr 0 0],.ptr 1 0,.rowA 2,.list RR rs,.int .i64 m,.int .i64 i] [.box [.str n],.box [.str ap,.list RR zr],.row RR l]) (Q0 [1,2,5,9,10,11] [5] 1)=(r49t rs m i n ap zr l).get:=by kernel_rfl
theorem wf49t (rs:List (List UInt8×(Int×(Int×(Int×List UInt8))))) (m:Int) (n ap:List UInt8) (zr:List (List UInt8×(Int×(Int×(Int×List UInt8))))) (I'':List (List UInt8×(Int×(Int×(Int×List UInt8))))→Int→Prop) (m'':List (List UInt8×(Int×(Int×(Int×List UInt8))))→Int→Nat) (r'':Ex×St) (h:∀ (l:List (List UInt8×(Int×(Int×(Int×List UInt8))))) (i:Int),I'' l i→(r49t rs m i n ap zr l).all fun x''=>x''=.inr r''∨∃ (l':List (List UInt8×(Int×(Int×(Int×List UInt8))))) (i':Int),x''=.inl (stOf [1,2,5,9,10,11] [.fn 50 [.ptr 0 0],.ptr 1 0,.rowA 2,.list RR rs,.int .i64 m,.int .i64 i'] [.box [.str n],.box [.str ap,.list RR zr],.row RR l'])∧I'' l' i'∧m'' l' i' < m'' l i) (lp:Lp) (l:List (List UInt8×(Int×(Int×(Int×List UInt8))))) (i:Int):I'' l i→
    X2 (fun st=>evC T0 (orcB [Ub] [os50]) lp b49t 0 st (Q0 [1,2,5,9,10,11] [5] 1)) (stOf [1,2,5,9,10,11] [.fn 50 [.ptr 0 0],.ptr 1 0,.rowA 2,.list RR rs,.int .i64 m,.int .i64 i] [.box [.str n],.box [.str ap,.list RR zr],.row RR l])=some r'':=
 U4 (fun a'':List (List UInt8×(Int×(Int×(Int×List UInt8))))×Int=>stOf [1,2,5,9,10,11] [.fn 50 [.ptr 0 0],.ptr 1 0,.rowA 2,.list RR rs,.int .i64 m,.int .i64 a''.2] [.box [.str n],.box [.str ap,.list RR zr],.row RR a''.1]) (fun a''=>I'' a''.1 a''.2) (fun a''=>m'' a''.1 a''.2) r'' (fun a''=>r49t rs m a''.2 n ap zr a''.1)
  (fun a'' x hx=>(Q35 lp rs m a''.2 n ap zr a''.1).trans hx) (fun a'' ha=>Tr.all_mono (fun x'' hx=>hx.imp id fun⟨l',i',h1,h2,h3⟩=>⟨(l',i'),h1,h2,h3⟩) (h (a''.1) (a''.2) ha)) (l,i)
theorem Q3z:J3h.Ok T0 (orcB [Ub] [os50]) h49 1 0 b49t:=by
 intro q'' hq'' x'' y'' r'' h
 obtain⟨(rs:List (List UInt8×(Int×(Int×(Int×List UInt8))))),(m:Int),(i:Int),_⟩:=x''
 obtain⟨⟨(n:List UInt8),_⟩,⟨(ap:List UInt8),(zr:List (List UInt8×(Int×(Int×(Int×List UInt8))))),_⟩,(l:List (List UInt8×(Int×(Int×(Int×List UInt8))))),_⟩:=y''
 obtain⟨hc,rfl⟩:=Tr.get_on h
 show X2 (fun st=>evC T0 (orcB [Ub] [os50]) (lpN T0 (orcB [Ub] [os50]) h49 1 q'') b49t 0 st (Q0 [1,2,5,9,10,11] [5] 1)) (stOf [1,2,5,9,10,11] [.fn 50 [.ptr 0 0],.ptr 1 0,.rowA 2,.list RR rs,.int .i64 m,.int .i64 i] [.box [.str n],.box [.str ap,.list RR zr],.row RR l])=some (.exit 0,stOf [5] ([.rowA 1]) ([.box [.str n],.row RR (ownV ap (undF n) rs)]))
 simp only[ownT,ownC,Bool.and_eq_true,decide_eq_true_eq,List.isEmpty_iff] at hc
 obtain⟨hn,hap,hrs,rfl,rfl,rfl⟩:=hc
 have hl:=U2m hrs
 refine wf49t rs rs.length n ap zr (fun l i=>0≤i∧i≤rs.length∧l++ownV ap (undF n) (rs.drop i.toNat)=ownV ap (undF n) rs) (fun l i=>(rs.length - i).toNat) _ ?_ _ [] 0 ⟨by omega,by omega,rfl⟩
 rintro l i ⟨h0,h1,he⟩
 have hll:l.length≤1000000:=by
  have:=Z15 (ap:=ap) (f:=undF n) (rs:=rs)
  rw[←he,List.length_append] at this
  omega
 unfold r49t
 rw[V4 h0 h1 (by omega)]
 by_cases hi:i < rs.length
 ·have hsm:=X2o hrs (k:=i.toNat) (by omega) (Ty.dflt RR)
  rw[U1m (k:=i.toNat) (by omega) (Ty.dflt RR)] at he
  generalize rs.getD i.toNat (Ty.dflt RR)=x at *
  refine Tr.all_t (J0 hi) (Tr.all_t (J0 h0) (Tr.all_t (J0 hi) (Tr.all_t (by rw[hsm,hap];rfl) (Tr.all_br (fun hu=>Tr.all_t (by rw[hsm,hn];rfl) (Tr.all_br (fun hf=>Tr.all_t (Zh (by omega) (by omega)) ?_) fun hf=>?_)) fun hu=>?_))))
  all_goals rw[hu] at he
  all_goals try rw[show undF n x=undV x.1 n from rfl,hf] at he
  all_goals refine Tr.all_ret (.inr ⟨_,_,rfl,⟨by omega,by omega,?_⟩,by omega⟩)
  all_goals rw[show (i+1).toNat=i.toNat+1 by omega]
  ·rw[←he];simp
  ·rw[←he];simp
  ·rw[←he];simp
 ·refine Tr.all_f (X0 hi) (Tr.all_ret (.inl ?_))
  rw[show i.toNat=rs.length by omega,List.drop_length] at he
  rw[←he]
  simp[ownV]
def t49t (z:(List UInt8×List (List UInt8×(Int×(Int×(Int×List UInt8)))))) (n:List UInt8):Tr Res:=.br (ownT z.1 n z.2 [] (↑z.2.length:Int) 0) (.ret ([.rowA 1],[.boxT none [.str n],.row RR (ownV z.1 (undF n) z.2)])) .no
def V45:OSpec:={ f:=49,sh:=[.d ZN true,.fnp 50 [(0,0)]],so:=[.box [.d .str false]],F:=fun(z,_) ((n,_),_)=>t49t z n }
theorem fn49t (z:(List UInt8×List (List UInt8×(Int×(Int×(Int×List UInt8)))))) (n:List UInt8):evC T0 (orcB [Ub] [os50]) (lpOf (hOwn h49) 1 (lsOf [J3h])) c49 1000000 (Z1 [AV.ofTy ZN z true,.fn 50 [.ptr 0 0]] [.box [.str n]] Try.f49.ntmps) (J1 T0 true 1 Try.f49)=(t49t z n).get:=by kernel_rfl
theorem ok49t:V45.Ok Try.prog:=by
 refine V3 Q1 tab0 (V0 (all_cons J07 Z0) (all_cons ok50 Z0)) (hOwn h49) (d:=0) (n0:=1) (S:=lsOf [J3h]) Try.func49 (by kernel_rfl) (c:=c49) (by kernel_rfl) rfl (Q5 (xs:=[(0,b49t)]) (by kernel_rfl) (all_cons (Q4 Q3z) Z0)) (by omega) (by kernel_rfl) ?_
 intro x'' y'' q'' hq''
 obtain⟨(z:(List UInt8×List (List UInt8×(Int×(Int×(Int×List UInt8)))))),_⟩:=x''
 obtain⟨⟨(n:List UInt8),_⟩,_⟩:=y''
 exact(fn49t z n).trans hq''
def t19 (z:(List UInt8×List (List UInt8×(Int×(Int×(Int×List UInt8)))))) (n:List UInt8):Tr Res:=.br (n==z.1) (.ret ([.bool true],[])) (.br (ownT z.1 n z.2 [] (↑z.2.length:Int) 0) (.ret ([.bool (decide ((↑(List.length (ownV z.1 (undF n) z.2)):Int) > 0))],[])) .no)
def os19:OSpec:={ f:=19,sh:=[.d ZN true,.d .str false],so:=[],F:=fun(z,n,_) _=>t19 z n }
theorem fn19 (z:(List UInt8×List (List UInt8×(Int×(Int×(Int×List UInt8)))))) (n:List UInt8):evC T0 (orcB [] [V45]) (lpOf h19 0 (lsOf [])) c19 1000000 (Z1 [AV.ofTy ZN z true,.str n] [] Try.f19.ntmps) (J1 T0 false 0 Try.f19)=(t19 z n).get:=by kernel_rfl
theorem ok19:os19.Ok Try.prog:=by
 refine V3 Q1 tab0 (V0 Z0 (all_cons ok49t Z0)) h19 (d:=0) (n0:=0) (S:=lsOf []) Try.func19 (by kernel_rfl) (c:=c19) (by kernel_rfl) rfl (Z2 (by kernel_rfl)) (by omega) (by kernel_rfl) ?_
 intro x'' y'' q'' hq''
 obtain⟨(z:(List UInt8×List (List UInt8×(Int×(Int×(Int×List UInt8)))))),(n:List UInt8),_⟩:=x''
 exact(fn19 z n).trans hq''
def fs19:FSpec:=fsT 19 [(ZN,true),(.str,false)] [(.bool,false)] fun(z,n,_)=>t19 z n
theorem okf19:fs19.Ok Try.prog:=X5 fun x'' r'' hr''=>ok19 x'' () r'' hr''
def Q04 (z:ZNt) (n:List UInt8):Bool:=n==z.1||!(ownV z.1 (undF n) z.2).isEmpty
def U46:FSpec:=fs19.like fun(z,n,_)=>.on (smZ z&&smN n) (Q04 z n,())
theorem V4d:U46.Ok Try.prog:=by
 refine J3 okf19 _ ?_
 rintro⟨(z:ZNt),(n:List UInt8),_⟩ y h
 obtain⟨hb,rfl⟩:=Tr.get_on h
 obtain⟨hz,hn⟩:=Bool.and_eq_true_iff.1 (show (smZ z&&smN n)=true from hb)
 refine J2 (vs:=[.bool (Q04 z n)]) rfl rfl (Tr.get_of_all ?_)
 show (t19 z n).all _
 unfold t19 Q04
 refine Tr.all_br (fun h=>Tr.all_ret (by rw[h];rfl)) fun h=>Tr.all_t (by unfold ownT;rw[hn,Z2q hz];rfl) (Tr.all_ret ?_)
 rw[h,Bool.false_or]
 cases ownV z.1 (undF n) z.2<;>simp
def apx (l:List ZNt) (i:Nat):List UInt8:=(l.getD i (Ty.dflt ZN)).1
def U08 (l:List ZNt) (n:List UInt8) (k:Nat) (b:Int):Int:=if undV n (apx l k)=true∧(b < 0∨depV (apx l k) > depV (apx l b.toNat)) then (k:Int) else b
def Xq (l:List ZNt) (n:List UInt8):Nat→Int
 | 0=>-1
 | k+1=>U08 l n k (Xq l n k)
def V5 (l:List ZNt) (n:List UInt8):Int:=Xq l n l.length
def smL (l:List ZNt):Bool:=Nat.ble l.length 1000000&&l.all fun z=>smN z.1
def Q2m (l l2:List ZNt) (n:List UInt8) (m i b:Int):Bool:=smL l&&(smN n&&(decide (m=(l.length:Int))&&(decide (i=0)&&(decide (b=-1)&&decide (l2=l)))))
theorem Q3w {l:List ZNt} (h:smL l=true):l.length≤1000000:=by
 unfold smL at h
 rw[Bool.and_eq_true] at h
 exact Nat.le_of_ble_eq_true h.1
theorem Z2n {l:List ZNt} (h:smL l=true) {k:Nat} (hk:k < l.length):smN (apx l k)=true:=by
 unfold smL at h
 rw[Bool.and_eq_true,List.all_eq_true] at h
 refine h.2 _ ?_
 rw[List.getD_eq_getElem?_getD,List.getElem?_eq_getElem hk]
 exact List.getElem_mem hk
theorem Z2p {n:List UInt8} (h:smN n=true):bigS n=true:=Ql (by have:=Jx.1 h;omega)
theorem U1o (l:List ZNt) (n:List UInt8):∀ k:Nat,-1≤Xq l n k∧Xq l n k < k∨k=0∧Xq l n k=-1
 | 0=>.inr ⟨rfl,rfl⟩
 | k+1=>by
   refine .inl ?_
   unfold Xq U08
   split
   ·omega
   ·rcases U1o l n k with h | h<;>omega
noncomputable def b24:Code:=X4 c24 0
def ls24:LoopSpec:={ bid:=0,sh:=[.d (.list ZN) false,.d .str false,.d (.int .i64) false,.d (.list ZN) false,.d (.int .i64) false,.d (.int .i64) false],so:=[],F:=fun(l,n,b,l2,m,i,_) _=>.on (Q2m l l2 n m i b) (.exit 0,[.int .i64 (V5 l n)],[]) }
def r24 (l:List (List UInt8×List (List UInt8×(Int×(Int×(Int×List UInt8)))))) (n:List UInt8) (b:Int) (l2:List (List UInt8×List (List UInt8×(Int×(Int×(Int×List UInt8)))))) (m i:Int):Tr (St⊕(Ex×St)):=.br (decide (i < m)) (.br (decide (0≤i)) (.br (decide (i < (↑l2.length:Int))) (.br (smN n&&smN (l2.getD i.toNat (Ty.dflt ZN)).1) (.br (undV n (l2.getD i.toNat (Ty.dflt ZN)).1) (.br (decide (b < 0)) (.ret (.inl (stOf [0,1,5,8,9,10] [.list ZN l,.str n,.int .i64 i,.list ZN l2,.int .i64 m,.int .i64 (IntKind.wrap .i64 (i+1))] []))) (.br (bigS (l2.getD i.toNat (Ty.dflt ZN)).1) (.br (decide (0≤b)) (.br (decide (b < (↑l.length:Int))) (.br (bigS (l.getD b.toNat (Ty.dflt ZN)).1) (.br (decide (depV (l2.getD i.toNat (Ty.dflt ZN)).1 > depV (l.getD b.toNat (Ty.dflt ZN)).1)) (.ret (.inl (stOf [0,1,5,8,9,10] [.list ZN l,.str n,.int .i64 i,.list ZN l2,.int .i64 m,.int .i64 (IntKind.wrap .i64 (i+1))] []))) (.ret (.inl (stOf [0,1,5,8,9,10] [.list ZN l,.str n,.int .i64 b,.list ZN l2,.int .i64 m,.int .i64 (IntKind.wrap .i64 (i+1))] [])))) .no) .no) .no) .no)) (.ret (.inl (stOf [0,1,5,8,9,10] [.list ZN l,.str n,.int .i64 b,.list ZN l2,.int .i64 m,.int .i64 (IntKind.wrap .i64 (i+1))] [])))) .no) .no) .no) (.ret (.inr (.exit 0,stOf [5] [.int .i64 b] [])))
theorem Z3y (lp:Lp) (l:List (List UInt8×List (List UInt8×(Int×(Int×(Int×List UInt8)))))) (n:List UInt8) (b:Int) (l2:List (List UInt8×List (List UInt8×(Int×(Int×(Int×List UInt8)))))) (m i:Int):evC T0 (orcB [Ub,V1f] []) lp b24 0 (stOf [0,1,5,8,9,10] [.list ZN l,.str n,.int .i64 b,.list ZN l2,.int .i64 m,.int .i64 i] []) (Q0 [0,1,5,8,9,10] [5] 0)=(r24 l n b l2 m i).get:=by kernel_rfl
theorem wf24 (l:List (List UInt8×List (List UInt8×(Int×(Int×(Int×List UInt8)))))) (n:List UInt8) (l2:List (List UInt8×List (List UInt8×(Int×(Int×(Int×List UInt8)))))) (m:Int) (I'':Int→Int→Prop) (m'':Int→Int→Nat) (r'':Ex×St) (h:∀ (b i:Int),I'' b i→(r24 l n b l2 m i).all fun x''=>x''=.inr r''∨∃ (b' i':Int),x''=.inl (stOf [0,1,5,8,9,10] [.list ZN l,.str n,.int .i64 b',.list ZN l2,.int .i64 m,.int .i64 i'] [])∧I'' b' i'∧m'' b' i' < m'' b i) (lp:Lp) (b i:Int):I'' b i→
    X2 (fun st=>evC T0 (orcB [Ub,V1f] []) lp b24 0 st (Q0 [0,1,5,8,9,10] [5] 0)) (stOf [0,1,5,8,9,10] [.list ZN l,.str n,.int .i64 b,.list ZN l2,.int .i64 m,.int .i64 i] [])=some r'':=
 U4 (fun a'':Int×Int=>stOf [0,1,5,8,9,10] [.list ZN l,.str n,.int .i64 a''.1,.list ZN l2,.int .i64 m,.int .i64 a''.2] []) (fun a''=>I'' a''.1 a''.2) (fun a''=>m'' a''.1 a''.2) r'' (fun a''=>r24 l n a''.1 l2 m a''.2)
  (fun a'' x hx=>(Z3y lp l n a''.1 l2 m a''.2).trans hx) (fun a'' ha=>Tr.all_mono (fun x'' hx=>hx.imp id fun⟨b',i',h1,h2,h3⟩=>⟨(b',i'),h1,h2,h3⟩) (h (a''.1) (a''.2) ha)) (b,i)
theorem V4j:ls24.Ok T0 (orcB [Ub,V1f] []) h24 0 0 b24:=by
 intro q'' hq'' x'' y'' r'' h
 obtain⟨(l:List (List UInt8×List (List UInt8×(Int×(Int×(Int×List UInt8)))))),(n:List UInt8),(b:Int),(l2:List (List UInt8×List (List UInt8×(Int×(Int×(Int×List UInt8)))))),(m:Int),(i:Int),_⟩:=x''
 obtain⟨hc,rfl⟩:=Tr.get_on h
 show X2 (fun st=>evC T0 (orcB [Ub,V1f] []) (lpN T0 (orcB [Ub,V1f] []) h24 0 q'') b24 0 st (Q0 [0,1,5,8,9,10] [5] 0)) (stOf [0,1,5,8,9,10] [.list ZN l,.str n,.int .i64 b,.list ZN l2,.int .i64 m,.int .i64 i] [])=some (.exit 0,stOf [5] ([.int .i64 (V5 l n)]) ([]))
 simp only[Q2m,Bool.and_eq_true,decide_eq_true_eq] at hc
 obtain⟨hs,hn,rfl,rfl,rfl,rfl⟩:=hc
 have hl:=Q3w hs
 refine wf24 l2 n l2 l2.length (fun b i=>0≤i∧i≤l2.length∧b=Xq l2 n i.toNat) (fun b i=>(l2.length - i).toNat) _ ?_ _ (-1) 0 ⟨by omega,by omega,rfl⟩
 rintro b i ⟨h0,h1,hb⟩
 unfold r24
 rw[V4 h0 h1 (by omega),show Prod.fst (l2.getD i.toNat (Ty.dflt ZN))=apx l2 i.toNat from rfl,show Prod.fst (l2.getD b.toNat (Ty.dflt ZN))=apx l2 b.toNat from rfl]
 by_cases hi:i < l2.length
 ·have hsm:=Z2n hs (k:=i.toNat) (by omega)
  have hst:Xq l2 n (i+1).toNat=U08 l2 n i.toNat b:=by rw[show (i+1).toNat=i.toNat+1 by omega,Xq,←hb]
  have hlt:=U1o l2 n i.toNat
  rw[←hb] at hlt
  unfold U08 at hst
  refine Tr.all_t (J0 hi) (Tr.all_t (J0 h0) (Tr.all_t (J0 hi) (Tr.all_t (by rw[hn,hsm];rfl) (Tr.all_br (fun hu=>Tr.all_br (fun hz=>?_) fun hz=>?_) fun hu=>?_))))
  ·rw[if_pos ⟨hu,.inl (of_decide_eq_true hz)⟩] at hst
   exact Tr.all_ret (.inr ⟨_,_,rfl,⟨by omega,by omega,by rw[hst];omega⟩,by omega⟩)
  ·have hz:=of_decide_eq_false hz
   refine Tr.all_t (Z2p hsm) (Tr.all_t (J0 (by omega)) (Tr.all_t (J0 (by omega)) (Tr.all_t (Z2p (Z2n hs (by omega))) (Tr.all_br (fun hd=>?_) fun hd=>?_))))
   ·rw[if_pos ⟨hu,.inr (of_decide_eq_true hd)⟩] at hst
    exact Tr.all_ret (.inr ⟨_,_,rfl,⟨by omega,by omega,by rw[hst];omega⟩,by omega⟩)
   ·rw[if_neg (fun h=>h.2.elim hz (of_decide_eq_false hd))] at hst
    exact Tr.all_ret (.inr ⟨_,_,rfl,⟨by omega,by omega,hst.symm⟩,by omega⟩)
  ·rw[if_neg (fun h=>by rw[hu] at h;cases h.1)] at hst
   exact Tr.all_ret (.inr ⟨_,_,rfl,⟨by omega,by omega,hst.symm⟩,by omega⟩)
 ·refine Tr.all_f (X0 hi) (Tr.all_ret (.inl ?_))
  rw[hb,show i.toNat=l2.length by omega]
  rfl
def t24 (l:List (List UInt8×List (List UInt8×(Int×(Int×(Int×List UInt8)))))) (n:List UInt8):Tr Res:=.br (Q2m l l n (↑l.length:Int) 0 (-1:Int)) (.ret ([.int .i64 (V5 l n)],[])) .no
def os24:OSpec:={ f:=24,sh:=[.d (.list ZN) false,.d .str false],so:=[],F:=fun(l,n,_) _=>t24 l n }
theorem fn24 (l:List (List UInt8×List (List UInt8×(Int×(Int×(Int×List UInt8)))))) (n:List UInt8):evC T0 (orcB [Ub,V1f] []) (lpOf h24 0 (lsOf [ls24])) c24 1000000 (Z1 [.list ZN l,.str n] [] Try.f24.ntmps) (J1 T0 false 0 Try.f24)=(t24 l n).get:=by kernel_rfl
theorem ok24:os24.Ok Try.prog:=by
 refine V3 Q1 tab0 (V0 (all_cons J07 (all_cons X4d Z0)) Z0) h24 (d:=0) (n0:=0) (S:=lsOf [ls24]) Try.func24 (by kernel_rfl) (c:=c24) (by kernel_rfl) rfl (Q5 (xs:=[(0,b24)]) (by kernel_rfl) (all_cons (Q4 V4j) Z0)) (by omega) (by kernel_rfl) ?_
 intro x'' y'' q'' hq''
 obtain⟨(l:List (List UInt8×List (List UInt8×(Int×(Int×(Int×List UInt8)))))),(n:List UInt8),_⟩:=x''
 exact(fn24 l n).trans hq''
def fs24:FSpec:=fsT 24 [((.list ZN),false),(.str,false)] [((.int .i64),false)] fun(l,n,_)=>t24 l n
theorem okf24:fs24.Ok Try.prog:=X5 fun x'' r'' hr''=>ok24 x'' () r'' hr''
def Jn:FSpec:=fs24.like fun(l,n,_)=>.on (smL l&&smN n) (V5 l n,())
theorem X3d:Jn.Ok Try.prog:=by
 refine J3 okf24 _ ?_
 rintro⟨(l:List ZNt),(n:List UInt8),_⟩ y h
 obtain⟨hb,rfl⟩:=Tr.get_on h
 obtain⟨hl,hn⟩:=Bool.and_eq_true_iff.1 (show (smL l&&smN n)=true from hb)
 refine J2 (vs:=[.int .i64 (V5 l n)]) rfl rfl (Tr.get_of_all ?_)
 show (t24 l n).all _
 unfold t24
 refine Tr.all_t ?_ (Tr.all_ret rfl)
 unfold Q2m
 rw[hl,hn,decide_eq_true rfl,decide_eq_true rfl,decide_eq_true rfl,decide_eq_true rfl]
 rfl
def J4h (l:List ZNt) (n:List UInt8) (k:Nat) (b:Int):Prop:=
 (b=-1∧∀ j,j < k→undV n (apx l j)=false)∨(0≤b∧b < k∧undV n (apx l b.toNat)=true∧(∀ j,j < k→undV n (apx l j)=true→depV (apx l j)≤depV (apx l b.toNat))∧∀ j:Nat,(j:Int) < b→undV n (apx l j)=true→depV (apx l j) < depV (apx l b.toNat))
theorem Q0t (l:List ZNt) (n:List UInt8):∀ k,J4h l n k (Xq l n k)
 | 0=>.inl ⟨rfl,fun j h=>by omega⟩
 | k+1=>by
   have ih:=Q0t l n k
   rw[Xq]
   generalize Xq l n k=b at ih
   unfold U08
   by_cases hu:undV n (apx l k)=true
   ·rcases ih with ⟨rfl,h1⟩ | ⟨h0,h1,h2,h3,h4⟩
    ·rw[if_pos ⟨hu,.inl (by omega)⟩]
     refine .inr ⟨by omega,by omega,by simpa using hu,fun j hj hju=>?_,fun j hj hju=>?_⟩
     ·rcases Nat.eq_or_lt_of_le (Nat.lt_succ_iff.1 hj) with rfl | hj
      ·simp
      ·rw[h1 j hj] at hju;cases hju
     ·rw[h1 j (by omega)] at hju;cases hju
    ·by_cases hd:depV (apx l k) > depV (apx l b.toNat)
     ·rw[if_pos ⟨hu,.inr hd⟩]
      refine .inr ⟨by omega,by omega,by simpa using hu,fun j hj hju=>?_,fun j hj hju=>?_⟩
      ·rcases Nat.eq_or_lt_of_le (Nat.lt_succ_iff.1 hj) with rfl | hj
       ·simp
       ·have:=h3 j hj hju;simp;omega
      ·have:=h3 j (by omega) hju;simp;omega
     ·rw[if_neg (by rintro⟨_,h | h⟩<;>omega)]
      refine .inr ⟨h0,by omega,h2,fun j hj hju=>?_,h4⟩
      rcases Nat.eq_or_lt_of_le (Nat.lt_succ_iff.1 hj) with rfl | hj
      ·omega
      ·exact h3 j hj hju
   ·rw[if_neg (fun h=>hu h.1)]
    have hu:undV n (apx l k)=false:=by simpa using hu
    rcases ih with ⟨rfl,h1⟩ | ⟨h0,h1,h2,h3,h4⟩
    ·refine .inl ⟨rfl,fun j hj=>?_⟩
     rcases Nat.eq_or_lt_of_le (Nat.lt_succ_iff.1 hj) with rfl | hj
     ·exact hu
     ·exact h1 j hj
    ·refine .inr ⟨h0,by omega,h2,fun j hj hju=>?_,h4⟩
     rcases Nat.eq_or_lt_of_le (Nat.lt_succ_iff.1 hj) with rfl | hj
     ·rw[hu] at hju;cases hju
     ·exact h3 j hj hju
def rrB (x y:RRt):Bool:=x.1==y.1&&(x.2.1==y.2.1&&(x.2.2.1==y.2.2.1&&(x.2.2.2.1==y.2.2.2.1&&(x.2.2.2.2==y.2.2.2.2&&true))))
theorem Z40 (x y:RRt):rrB x y=decide (x=y):=by
 obtain⟨a,b,c,d,e⟩:=x
 obtain⟨a',b',c',d',e'⟩:=y
 unfold rrB
 by_cases h:(a,b,c,d,e)=(a',b',c',d',e')
 ·rw[decide_eq_true h]
  cases h
  simp
 ·rw[decide_eq_false h]
  simp only[Prod.mk.injEq] at h
  cases h1:(a==a'&&(b==b'&&(c==c'&&(d==d'&&(e==e'&&true)))))
  ·rfl
  ·simp only[Bool.and_eq_true,beq_iff_eq] at h1
   exact absurd ⟨h1.1,h1.2.1,h1.2.2.1,h1.2.2.2.1,h1.2.2.2.2.1⟩ h
def hasV (l:List RRt) (r:RRt):Bool:=l.any fun x=>decide (x=r)
def lrB (l:List RRt):Bool:=Nat.ble l.length 1000000
def ixL:List RRt→RRt→Nat→Int
 | [],_,_=>-1
 | x::l,r,k=>if r=x then (k:Int) else ixL l r (k+1)
def ixV (l:List RRt) (r:RRt):Int:=ixL l r 0
theorem X2q:∀ (l:List RRt) (r:RRt) (k:Nat),hasV l r=decide (0≤ixL l r k)
 | [],r,k=>rfl
 | x::l,r,k=>by
   unfold hasV ixL
   rw[List.any_cons]
   by_cases h:r=x
   ·rw[if_pos h,decide_eq_true h.symm,Bool.true_or,decide_eq_true (by omega)]
   ·rw[if_neg h,decide_eq_false (fun e=>h e.symm),Bool.false_or]
    exact X2q l r (k+1)
def ixC (l:List RRt) (m i:Int):Bool:=Nat.ble l.length 1000000&&(decide (m=(l.length:Int))&&decide (i=0))
noncomputable def b78:Code:=X4 c78 0
def ls78:LoopSpec:={ bid:=0,sh:=[.d (.list RR) false,.ptr 0 0,.d (.int .i64) false,.d (.int .i64) false],so:=[.box [.d .str false,.d (.int .u16) false,.d (.int .u16) false,.d (.int .u32) false,.d .str false]],F:=fun(l,m,i,_) ((ra,rb,rc,rd,re,_),_)=>.on2 (ixC l m i) (decide (ixV l (ra,rb,rc,rd,re) < 0)) (.exit 0,[.dead],[]) (.ret,[.int .i64 (ixV l (ra,rb,rc,rd,re))],[]) }
def r78 (l:List (List UInt8×(Int×(Int×(Int×List UInt8))))) (m i:Int) (ra:List UInt8) (rb rc rd:Int) (re:List UInt8):Tr (St⊕(Ex×St)):=.br (decide (i < m)) (.br (decide (0≤i)) (.br (decide (i < (↑l.length:Int))) (.br (ra==(l.getD i.toNat (Ty.dflt RR)).1&&(rb==(l.getD i.toNat (Ty.dflt RR)).2.1&&(rc==(l.getD i.toNat (Ty.dflt RR)).2.2.1&&(rd==(l.getD i.toNat (Ty.dflt RR)).2.2.2.1&&(re==(l.getD i.toNat (Ty.dflt RR)).2.2.2.2&&true))))) (.ret (.inr (.ret,stOf [4] [.int .i64 i] []))) (.ret (.inl (stOf [0,3,7,8] [.list RR l,.ptr 0 0,.int .i64 m,.int .i64 (IntKind.wrap .i64 (i+1))] [.boxT none [.str ra,.int .u16 rb,.int .u16 rc,.int .u32 rd,.str re]])))) .no) .no) (.ret (.inr (.exit 0,stOf [4] [.dead] [])))
theorem Z3z (orc:Orc) (lp:Lp) (l:List (List UInt8×(Int×(Int×(Int×List UInt8))))) (m i:Int) (ra:List UInt8) (rb rc rd:Int) (re:List UInt8):evC T0 orc lp b78 0 (stOf [0,3,7,8] [.list RR l,.ptr 0 0,.int .i64 m,.int .i64 i] [.box [.str ra,.int .u16 rb,.int .u16 rc,.int .u32 rd,.str re]]) (Q0 [0,3,7,8] [4] 0)=(r78 l m i ra rb rc rd re).get:=by kernel_rfl
theorem wf78 (orc:Orc) (l:List (List UInt8×(Int×(Int×(Int×List UInt8))))) (m:Int) (ra:List UInt8) (rb rc rd:Int) (re:List UInt8) (I'':Int→Prop) (m'':Int→Nat) (r'':Ex×St) (h:∀ (i:Int),I'' i→(r78 l m i ra rb rc rd re).all fun x''=>x''=.inr r''∨∃ (i':Int),x''=.inl (stOf [0,3,7,8] [.list RR l,.ptr 0 0,.int .i64 m,.int .i64 i'] [.box [.str ra,.int .u16 rb,.int .u16 rc,.int .u32 rd,.str re]])∧I'' i'∧m'' i' < m'' i) (lp:Lp) (i:Int):I'' i→
    X2 (fun st=>evC T0 orc lp b78 0 st (Q0 [0,3,7,8] [4] 0)) (stOf [0,3,7,8] [.list RR l,.ptr 0 0,.int .i64 m,.int .i64 i] [.box [.str ra,.int .u16 rb,.int .u16 rc,.int .u32 rd,.str re]])=some r'':=
 U4 (fun a'':Int=>stOf [0,3,7,8] [.list RR l,.ptr 0 0,.int .i64 m,.int .i64 a''] [.box [.str ra,.int .u16 rb,.int .u16 rc,.int .u32 rd,.str re]]) (fun a''=>I'' a'') (fun a''=>m'' a'') r'' (fun a''=>r78 l m a'' ra rb rc rd re)
  (fun a'' x hx=>(Z3z orc lp l m a'' ra rb rc rd re).trans hx) (fun a'' ha=>Tr.all_mono (fun x'' hx=>hx.imp id fun⟨i',h1,h2,h3⟩=>⟨(i'),h1,h2,h3⟩) (h (a'') ha)) (i)
theorem Z4i (orc:Orc):ls78.Ok T0 orc h78 0 0 b78:=by
 intro q'' hq'' x'' y'' r'' h
 obtain⟨(l:List (List UInt8×(Int×(Int×(Int×List UInt8))))),(m:Int),(i:Int),_⟩:=x''
 obtain⟨⟨(ra:List UInt8),(rb:Int),(rc:Int),(rd:Int),(re:List UInt8),_⟩,_⟩:=y''
 obtain⟨hc,rfl⟩:=Tr.get_on2 h
 show X2 (fun st=>evC T0 orc (lpN T0 orc h78 0 q'') b78 0 st (Q0 [0,3,7,8] [4] 0)) (stOf [0,3,7,8] [.list RR l,.ptr 0 0,.int .i64 m,.int .i64 i] [.box [.str ra,.int .u16 rb,.int .u16 rc,.int .u32 rd,.str re]])=some ((bif decide (ixV l (ra,rb,rc,rd,re) < 0) then (.exit 0,[.dead],[]) else (.ret,[.int .i64 (ixV l (ra,rb,rc,rd,re))],[]):Ex×List AV×List LObj).1,stOf [4] (bif decide (ixV l (ra,rb,rc,rd,re) < 0) then (.exit 0,[.dead],[]) else (.ret,[.int .i64 (ixV l (ra,rb,rc,rd,re))],[]):Ex×List AV×List LObj).2.1 (bif decide (ixV l (ra,rb,rc,rd,re) < 0) then (.exit 0,[.dead],[]) else (.ret,[.int .i64 (ixV l (ra,rb,rc,rd,re))],[]):Ex×List AV×List LObj).2.2)
 simp only[ixC,Bool.and_eq_true,decide_eq_true_eq] at hc
 obtain⟨hl,rfl,rfl⟩:=hc
 have hl:=Nat.le_of_ble_eq_true hl
 refine wf78 _ l l.length ra rb rc rd re (fun i=>0≤i∧i≤l.length∧ixL (l.drop i.toNat) (ra,rb,rc,rd,re) i.toNat=ixV l (ra,rb,rc,rd,re)) (fun i=>(l.length - i).toNat) _ ?_ _ 0 ⟨by omega,by omega,rfl⟩
 rintro i ⟨h0,h1,he⟩
 unfold r78
 rw[V4 h0 h1 (by omega)]
 by_cases hi:i < l.length
 ·rw[Z5 (l:=l) (k:=i.toNat) (by omega) (Ty.dflt RR),ixL] at he
  generalize l.getD i.toNat (Ty.dflt RR)=x at *
  have hq:=Z40 (ra,rb,rc,rd,re) x
  unfold rrB at hq
  rw[hq]
  refine Tr.all_t (J0 hi) (Tr.all_t (J0 h0) (Tr.all_t (J0 hi) (Tr.all_br (fun h=>?_) fun h=>?_)))
  ·rw[if_pos (of_decide_eq_true h)] at he
   rw[←he,show ((i.toNat:Nat):Int)=i by omega,X0 (show ¬ i < 0 by omega)]
   exact Tr.all_ret (.inl rfl)
  ·rw[if_neg (of_decide_eq_false h)] at he
   exact Tr.all_ret (.inr ⟨_,rfl,⟨by omega,by omega,by rw[show (i+1).toNat=i.toNat+1 by omega];exact he⟩,by omega⟩)
 ·refine Tr.all_f (X0 hi) (Tr.all_ret (.inl ?_))
  rw[show i.toNat=l.length by omega,List.drop_length] at he
  rw[←he]
  rfl
def t78 (l:List (List UInt8×(Int×(Int×(Int×List UInt8))))) (r:(List UInt8×(Int×(Int×(Int×List UInt8))))):Tr Res:=.br (ixC l (↑l.length:Int) 0) (.br (decide (ixV l r < 0)) (.ret ([.int .i64 (-1)],[])) (.ret ([.int .i64 (ixV l r)],[]))) .no
def os78:OSpec:={ f:=78,sh:=[.d (.list RR) false,.d RR true],so:=[],F:=fun(l,r,_) _=>t78 l r }
theorem fn78 (l:List (List UInt8×(Int×(Int×(Int×List UInt8))))) (r:(List UInt8×(Int×(Int×(Int×List UInt8))))):evC T0 (orcB [] []) (lpOf h78 0 (lsOf [ls78])) c78 1000000 (Z1 [.list RR l,AV.ofTy RR r true] [] Try.f78.ntmps) (J1 T0 false 0 Try.f78)=(t78 l r).get:=by kernel_rfl
theorem ok78:os78.Ok Try.prog:=by
 refine V3 Q1 tab0 (V0 Z0 Z0) h78 (d:=0) (n0:=0) (S:=lsOf [ls78]) Try.func78 (by kernel_rfl) (c:=c78) (by kernel_rfl) rfl (Q5 (xs:=[(0,b78)]) (by kernel_rfl) (all_cons (Q4 (Z4i _)) Z0)) (by omega) (by kernel_rfl) ?_
 intro x'' y'' q'' hq''
 obtain⟨(l:List (List UInt8×(Int×(Int×(Int×List UInt8))))),(r:(List UInt8×(Int×(Int×(Int×List UInt8))))),_⟩:=x''
 exact(fn78 l r).trans hq''
def fs78:FSpec:=fsT 78 [((.list RR),false),(RR,true)] [((.int .i64),false)] fun(l,r,_)=>t78 l r
theorem okf78:fs78.Ok Try.prog:=X5 fun x'' r'' hr''=>ok78 x'' () r'' hr''
def Z48:FSpec:=fs78.like fun(l,r,_)=>.on (lrB l) (ixV l r,())
theorem Q4h:Z48.Ok Try.prog:=by
 refine J3 okf78 _ ?_
 rintro⟨(l:List RRt),(r:RRt),_⟩ y h
 obtain⟨hb,rfl⟩:=Tr.get_on h
 have hb:lrB l=true:=hb
 refine J2 (vs:=[.int .i64 (ixV l r)]) rfl rfl (Tr.get_of_all ?_)
 show (t78 l r).all _
 unfold t78
 refine Tr.all_t (by unfold ixC;unfold lrB at hb;rw[hb,decide_eq_true rfl];rfl) ?_
 refine Tr.all_br (fun h=>Tr.all_ret ?_) fun h=>Tr.all_ret rfl
 have h:=of_decide_eq_true h
 have:∀ (l:List RRt) (r:RRt) (k:Nat),-1≤ixL l r k:=by
  intro l
  induction l with
  | nil=>intro r k;exact Int.le_refl _
  | cons x l ih=>
    intro r k
    unfold ixL
    split
    ·omega
    ·exact ih r (k+1)
 have:=this l r 0
 unfold ixV at h ⊢
 rw[show ixL l r 0=-1 by omega]
def t52 (l:List (List UInt8×(Int×(Int×(Int×List UInt8))))) (r:(List UInt8×(Int×(Int×(Int×List UInt8))))):Tr Res:=.br (lrB l) (.ret ([.bool (decide (ixV l r≥0))],[])) .no
def os52:OSpec:={ f:=52,sh:=[.d (.list RR) false,.d RR true],so:=[],F:=fun(l,r,_) _=>t52 l r }
theorem fn52 (l:List (List UInt8×(Int×(Int×(Int×List UInt8))))) (r:(List UInt8×(Int×(Int×(Int×List UInt8))))):evC T0 (orcB [Z48] []) (lpOf h52 0 (lsOf [])) c52 1000000 (Z1 [.list RR l,AV.ofTy RR r true] [] Try.f52.ntmps) (J1 T0 false 0 Try.f52)=(t52 l r).get:=by kernel_rfl
theorem ok52:os52.Ok Try.prog:=by
 refine V3 Q1 tab0 (V0 (all_cons Q4h Z0) Z0) h52 (d:=0) (n0:=0) (S:=lsOf []) Try.func52 (by kernel_rfl) (c:=c52) (by kernel_rfl) rfl (Z2 (by kernel_rfl)) (by omega) (by kernel_rfl) ?_
 intro x'' y'' q'' hq''
 obtain⟨(l:List (List UInt8×(Int×(Int×(Int×List UInt8))))),(r:(List UInt8×(Int×(Int×(Int×List UInt8))))),_⟩:=x''
 exact(fn52 l r).trans hq''
def fs52:FSpec:=fsT 52 [((.list RR),false),(RR,true)] [(.bool,false)] fun(l,r,_)=>t52 l r
theorem okf52:fs52.Ok Try.prog:=X5 fun x'' r'' hr''=>ok52 x'' () r'' hr''
def J03:FSpec:=fs52.like fun(l,r,_)=>.on (lrB l) (hasV l r,())
theorem X4k:J03.Ok Try.prog:=by
 refine J3 okf52 _ ?_
 rintro⟨(l:List RRt),(r:RRt),_⟩ y h
 obtain⟨hb,rfl⟩:=Tr.get_on h
 have hb:lrB l=true:=hb
 refine J2 (vs:=[.bool (hasV l r)]) rfl rfl (Tr.get_of_all ?_)
 show (t52 l r).all _
 unfold t52
 refine Tr.all_t hb (Tr.all_ret ?_)
 rw[X2q l r 0]
 rfl
def addV (l:List RRt):List RRt→List RRt
 | []=>l
 | a::xs=>addV (if hasV l a=true then l else l++[a]) xs
def glC (l os:List RRt) (m2 k:Int):Bool:=Nat.ble (l.length+os.length) 1000000&&(decide (m2=(os.length:Int))&&decide (k=0))
noncomputable def b22i:Code:=X4 (X4 c22 0) 0
def V3b:LoopSpec:={ bid:=2,sh:=[.ptr 0 0,.row 1,.d (.list RR) false,.d (.int .i64) false,.d (.int .i64) false,.d (.list RR) false,.d (.int .i64) false,.d (.int .i64) false],so:=[.box [.d .str false,.d (.list RR) false],.row RR],F:=fun(ns,m,i,os,m2,k,_) ((ap,zr,_),l,_)=>.on (glC l os m2 k) (.exit 2,[.ptr 0 0,.rowA 1,.list RR ns,.int .i64 m,.int .i64 i],[.box [.str ap,.list RR zr],.row RR (addV l os)]) }
def r22i (ns:List (List UInt8×(Int×(Int×(Int×List UInt8))))) (m i:Int) (os:List (List UInt8×(Int×(Int×(Int×List UInt8))))) (m2 k:Int) (ap:List UInt8) (zr l:List (List UInt8×(Int×(Int×(Int×List UInt8))))):Tr (St⊕(Ex×St)):=.br (decide (k < m2)) (.br (decide (0≤k)) (.br (decide (k < (↑os.length:Int))) (.br (lrB l) (.br (!hasV l (os.getD k.toNat (Ty.dflt RR))) (.br (fits (List.length l+1) 40) (.ret (.inl (stOf [2,5,12,13,14,30,31,32] [.ptr 0 0,.rowA 1,.list RR ns,.int .i64 m,.int .i64 i,.list RR os,.int .i64 m2,.int .i64 (IntKind.wrap .i64 (k+1))] [.boxT none [.str ap,.list RR zr],.row RR (l++[List.getD os k.toNat (Ty.dflt RR)])]))) .no) (.ret (.inl (stOf [2,5,12,13,14,30,31,32] [.ptr 0 0,.rowA 1,.list RR ns,.int .i64 m,.int .i64 i,.list RR os,.int .i64 m2,.int .i64 (IntKind.wrap .i64 (k+1))] [.boxT none [.str ap,.list RR zr],.row RR l])))) .no) .no) .no) (.ret (.inr (.exit 2,stOf [2,5,12,13,14] [.ptr 0 0,.rowA 1,.list RR ns,.int .i64 m,.int .i64 i] [.boxT none [.str ap,.list RR zr],.row RR l])))
theorem U3n (lp:Lp) (ns:List (List UInt8×(Int×(Int×(Int×List UInt8))))) (m i:Int) (os:List (List UInt8×(Int×(Int×(Int×List UInt8))))) (m2 k:Int) (ap:List UInt8) (zr l:List (List UInt8×(Int×(Int×(Int×List UInt8))))):evC T0 (orcB [X02,Jk,J03] []) lp b22i 2 (stOf [2,5,12,13,14,30,31,32] [.ptr 0 0,.rowA 1,.list RR ns,.int .i64 m,.int .i64 i,.list RR os,.int .i64 m2,.int .i64 k] [.box [.str ap,.list RR zr],.row RR l]) (Q0 [2,5,12,13,14,30,31,32] [2,5,12,13,14] 0)=(r22i ns m i os m2 k ap zr l).get:=by kernel_rfl
theorem wf22i (ns:List (List UInt8×(Int×(Int×(Int×List UInt8))))) (m i:Int) (os:List (List UInt8×(Int×(Int×(Int×List UInt8))))) (m2:Int) (ap:List UInt8) (zr:List (List UInt8×(Int×(Int×(Int×List UInt8))))) (I'':List (List UInt8×(Int×(Int×(Int×List UInt8))))→Int→Prop) (m'':List (List UInt8×(Int×(Int×(Int×List UInt8))))→Int→Nat) (r'':Ex×St) (h:∀ (l:List (List UInt8×(Int×(Int×(Int×List UInt8))))) (k:Int),I'' l k→(r22i ns m i os m2 k ap zr l).all fun x''=>x''=.inr r''∨∃ (l':List (List UInt8×(Int×(Int×(Int×List UInt8))))) (k':Int),x''=.inl (stOf [2,5,12,13,14,30,31,32] [.ptr 0 0,.rowA 1,.list RR ns,.int .i64 m,.int .i64 i,.list RR os,.int .i64 m2,.int .i64 k'] [.box [.str ap,.list RR zr],.row RR l'])∧I'' l' k'∧m'' l' k' < m'' l k) (lp:Lp) (l:List (List UInt8×(Int×(Int×(Int×List UInt8))))) (k:Int):I'' l k→
    X2 (fun st=>evC T0 (orcB [X02,Jk,J03] []) lp b22i 2 st (Q0 [2,5,12,13,14,30,31,32] [2,5,12,13,14] 0)) (stOf [2,5,12,13,14,30,31,32] [.ptr 0 0,.rowA 1,.list RR ns,.int .i64 m,.int .i64 i,.list RR os,.int .i64 m2,.int .i64 k] [.box [.str ap,.list RR zr],.row RR l])=some r'':=
 U4 (fun a'':List (List UInt8×(Int×(Int×(Int×List UInt8))))×Int=>stOf [2,5,12,13,14,30,31,32] [.ptr 0 0,.rowA 1,.list RR ns,.int .i64 m,.int .i64 i,.list RR os,.int .i64 m2,.int .i64 a''.2] [.box [.str ap,.list RR zr],.row RR a''.1]) (fun a''=>I'' a''.1 a''.2) (fun a''=>m'' a''.1 a''.2) r'' (fun a''=>r22i ns m i os m2 a''.2 ap zr a''.1)
  (fun a'' x hx=>(U3n lp ns m i os m2 a''.2 ap zr a''.1).trans hx) (fun a'' ha=>Tr.all_mono (fun x'' hx=>hx.imp id fun⟨l',k',h1,h2,h3⟩=>⟨(l',k'),h1,h2,h3⟩) (h (a''.1) (a''.2) ha)) (l,k)
theorem Q1c:∀ (xs l:List RRt),(addV l xs).length≤l.length+xs.length
 | [],l=>Nat.le_refl _
 | a::xs,l=>by
   rw[addV,List.length_cons]
   by_cases h:hasV l a=true
   ·rw[if_pos h]
    have:=Q1c xs l
    omega
   ·rw[if_neg h]
    have:=Q1c xs (l++[a])
    rw[List.length_append,List.length_singleton] at this
    omega
theorem J42:V3b.Ok T0 (orcB [X02,Jk,J03] []) h22 0 0 b22i:=by
 intro q'' hq'' x'' y'' r'' h
 obtain⟨(ns:List (List UInt8×(Int×(Int×(Int×List UInt8))))),(m:Int),(i:Int),(os:List (List UInt8×(Int×(Int×(Int×List UInt8))))),(m2:Int),(k:Int),_⟩:=x''
 obtain⟨⟨(ap:List UInt8),(zr:List (List UInt8×(Int×(Int×(Int×List UInt8))))),_⟩,(l:List (List UInt8×(Int×(Int×(Int×List UInt8))))),_⟩:=y''
 obtain⟨hc,rfl⟩:=Tr.get_on h
 show X2 (fun st=>evC T0 (orcB [X02,Jk,J03] []) (lpN T0 (orcB [X02,Jk,J03] []) h22 0 q'') b22i 2 st (Q0 [2,5,12,13,14,30,31,32] [2,5,12,13,14] 0)) (stOf [2,5,12,13,14,30,31,32] [.ptr 0 0,.rowA 1,.list RR ns,.int .i64 m,.int .i64 i,.list RR os,.int .i64 m2,.int .i64 k] [.box [.str ap,.list RR zr],.row RR l])=some (.exit 2,stOf [2,5,12,13,14] ([.ptr 0 0,.rowA 1,.list RR ns,.int .i64 m,.int .i64 i]) ([.box [.str ap,.list RR zr],.row RR (addV l os)]))
 simp only[glC,Bool.and_eq_true,decide_eq_true_eq] at hc
 obtain⟨hl,rfl,rfl⟩:=hc
 have hl:=Nat.le_of_ble_eq_true hl
 refine wf22i ns m i os os.length ap zr (fun l' k=>0≤k∧k≤os.length∧l'.length≤l.length+k.toNat∧addV l' (os.drop k.toNat)=addV l os) (fun l' k=>(os.length - k).toNat) _ ?_ _ l 0 ⟨by omega,by omega,by omega,rfl⟩
 rintro l' k ⟨h0,h1,h2,he⟩
 unfold r22i
 rw[V4 h0 h1 (by omega)]
 by_cases hi:k < os.length
 ·rw[Z5 (l:=os) (k:=k.toNat) (by omega) (Ty.dflt RR),addV] at he
  generalize os.getD k.toNat (Ty.dflt RR)=x at *
  refine Tr.all_t (J0 hi) (Tr.all_t (J0 h0) (Tr.all_t (J0 hi) (Tr.all_t (Nat.ble_eq_true_of_le (by omega)) (Tr.all_br (fun h=>Tr.all_t (Zh (by omega) (by omega)) ?_) fun h=>?_))))
  ·have h:hasV l' x=false:=by cases hh:hasV l' x;rfl;(rw[hh] at h;cases h)
   rw[if_neg (by rw[h];simp)] at he
   exact Tr.all_ret (.inr ⟨_,_,rfl,⟨by omega,by omega,by rw[List.length_append,List.length_singleton];omega,by rw[show (k+1).toNat=k.toNat+1 by omega];exact he⟩,by omega⟩)
  ·have h:hasV l' x=true:=by cases hh:hasV l' x;(rw[hh] at h;cases h);rfl
   rw[if_pos h] at he
   exact Tr.all_ret (.inr ⟨_,_,rfl,⟨by omega,by omega,by omega,by rw[show (k+1).toNat=k.toNat+1 by omega];exact he⟩,by omega⟩)
 ·refine Tr.all_f (X0 hi) (Tr.all_ret (.inl ?_))
  rw[show k.toNat=os.length by omega,List.drop_length] at he
  rw[←he]
  rfl
def U06 (z:ZNt) (l:List RRt) (r:RRt):List RRt:=match J0a r.2.1 r.2.2.2.2 with | some n=>addV l (ofV z n 1) | none=>l
def X06 (z:ZNt) (l:List RRt):List RRt→List RRt
 | []=>l
 | r::rs=>X06 z (U06 z l r) rs
def Zf (z:ZNt) (ns:List RRt):List RRt:=X06 z [] ns
def smD (ns:List RRt):Bool:=ns.all fun r=>bigS r.2.2.2.2
def gnOk (z:ZNt) (ns:List RRt):Bool:=smZ z&&(smD ns&&(Nat.ble (ns.length * z.2.length) 1000000&&Nat.ble ns.length 1000000))
def gnC (ap:List UInt8) (zr ns l:List RRt) (m i:Int):Bool:=gnOk (ap,zr) ns&&(l.isEmpty&&(decide (m=(ns.length:Int))&&decide (i=0)))
noncomputable def b22o:Code:=X4 c22 0
def Z3a:LoopSpec:={ bid:=0,sh:=[.ptr 0 0,.row 1,.d (.list RR) false,.d (.int .i64) false,.d (.int .i64) false],so:=[.box [.d .str false,.d (.list RR) false],.row RR],F:=fun(ns,m,i,_) ((ap,zr,_),l,_)=>.on (gnC ap zr ns l m i) (.exit 0,[.rowA 0],[.row RR (Zf (ap,zr) ns)]) }
def r22o (ns:List (List UInt8×(Int×(Int×(Int×List UInt8))))) (m i:Int) (ap:List UInt8) (zr l:List (List UInt8×(Int×(Int×(Int×List UInt8))))):Tr (St⊕(Ex×St)):=.br (decide (i < m)) (.br (decide (0≤i)) (.br (decide (i < (↑ns.length:Int))) (.br (bigS (ns.getD i.toNat (Ty.dflt RR)).2.2.2.2) (.br (!Option.isSome (J0a (ns.getD i.toNat (Ty.dflt RR)).2.1 (ns.getD i.toNat (Ty.dflt RR)).2.2.2.2)) (.ret (.inl (stOf [2,5,12,13,14] [.ptr 0 0,.rowA 1,.list RR ns,.int .i64 m,.int .i64 (IntKind.wrap .i64 (i+1))] [.boxT none [.str ap,.list RR zr],.row RR l]))) (.br (smZ (ap,zr)) (.br (glC l (ofV (ap,zr) (Option.getD (J0a (ns.getD i.toNat (Ty.dflt RR)).2.1 (ns.getD i.toNat (Ty.dflt RR)).2.2.2.2) []) 1) (↑(List.length (ofV (ap,zr) (Option.getD (J0a (ns.getD i.toNat (Ty.dflt RR)).2.1 (ns.getD i.toNat (Ty.dflt RR)).2.2.2.2) []) 1)):Int) 0) (.ret (.inl (stOf [2,5,12,13,14] [.ptr 0 0,.rowA 1,.list RR ns,.int .i64 m,.int .i64 (IntKind.wrap .i64 (i+1))] [.boxT none [.str ap,.list RR zr],.row RR (addV l (ofV (ap,zr) (Option.getD (J0a (ns.getD i.toNat (Ty.dflt RR)).2.1 (ns.getD i.toNat (Ty.dflt RR)).2.2.2.2) []) 1))]))) .no) .no)) .no) .no) .no) (.ret (.inr (.exit 0,stOf [5] [.rowA 0] [.row RR l])))
theorem Q33 (ns:List (List UInt8×(Int×(Int×(Int×List UInt8))))) (m i:Int) (ap:List UInt8) (zr l:List (List UInt8×(Int×(Int×(Int×List UInt8))))):evC T0 (orcB [X02,Jk,J03] []) (lpOf h22 0 (lsOf [V3b])) b22o 0 (stOf [2,5,12,13,14] [.ptr 0 0,.rowA 1,.list RR ns,.int .i64 m,.int .i64 i] [.box [.str ap,.list RR zr],.row RR l]) (Q0 [2,5,12,13,14] [5] 0)=(r22o ns m i ap zr l).get:=by kernel_rfl
theorem wf22o (ns:List (List UInt8×(Int×(Int×(Int×List UInt8))))) (m:Int) (ap:List UInt8) (zr:List (List UInt8×(Int×(Int×(Int×List UInt8))))) (I'':List (List UInt8×(Int×(Int×(Int×List UInt8))))→Int→Prop) (m'':List (List UInt8×(Int×(Int×(Int×List UInt8))))→Int→Nat) (r'':Ex×St) (h:∀ (l:List (List UInt8×(Int×(Int×(Int×List UInt8))))) (i:Int),I'' l i→(r22o ns m i ap zr l).all fun x''=>x''=.inr r''∨∃ (l':List (List UInt8×(Int×(Int×(Int×List UInt8))))) (i':Int),x''=.inl (stOf [2,5,12,13,14] [.ptr 0 0,.rowA 1,.list RR ns,.int .i64 m,.int .i64 i'] [.box [.str ap,.list RR zr],.row RR l'])∧I'' l' i'∧m'' l' i' < m'' l i) (q'':Nat) (hq'':1≤q'') (l:List (List UInt8×(Int×(Int×(Int×List UInt8))))) (i:Int):I'' l i→
    X2 (fun st=>evC T0 (orcB [X02,Jk,J03] []) (lpN T0 (orcB [X02,Jk,J03] []) h22 0 q'') b22o 0 st (Q0 [2,5,12,13,14] [5] 0)) (stOf [2,5,12,13,14] [.ptr 0 0,.rowA 1,.list RR ns,.int .i64 m,.int .i64 i] [.box [.str ap,.list RR zr],.row RR l])=some r'':=
 U4 (fun a'':List (List UInt8×(Int×(Int×(Int×List UInt8))))×Int=>stOf [2,5,12,13,14] [.ptr 0 0,.rowA 1,.list RR ns,.int .i64 m,.int .i64 a''.2] [.box [.str ap,.list RR zr],.row RR a''.1]) (fun a''=>I'' a''.1 a''.2) (fun a''=>m'' a''.1 a''.2) r'' (fun a''=>r22o ns m a''.2 ap zr a''.1)
  (fun a'' x hx=>V0b (d:=0) (S:=lsOf [V3b]) (Q0o (xs:=[(2,b22i)]) (by kernel_rfl) (all_cons (Q4 J42) Z0)) (by omega) ((Q33 ns m a''.2 ap zr a''.1).trans hx)) (fun a'' ha=>Tr.all_mono (fun x'' hx=>hx.imp id fun⟨l',i',h1,h2,h3⟩=>⟨(l',i'),h1,h2,h3⟩) (h (a''.1) (a''.2) ha)) (l,i)
theorem X1x (z:ZNt) (n:List UInt8) (kind:Int):(ofV z n kind).length≤z.2.length:=Z15
theorem Z1i (z:ZNt) (l:List RRt) (r:RRt):(U06 z l r).length≤l.length+z.2.length:=by
 unfold U06
 split
 ·rename_i n _
  have h1:=Q1c (ofV z n 1) l
  have h2:=X1x z n 1
  omega
 ·omega
theorem U3x {ns:List RRt} (h:smD ns=true) {k:Nat} (hk:k < ns.length) (x:RRt):bigS (ns.getD k x).2.2.2.2=true:=by
 unfold smD at h
 rw[List.all_eq_true] at h
 refine h _ ?_
 rw[List.getD_eq_getElem?_getD,List.getElem?_eq_getElem hk]
 exact List.getElem_mem hk
theorem X39 {i n z t:Nat} (hi:i < n) (h:n * z≤t):i * z+z≤t:=by
 have:=Nat.mul_le_mul_right z (show i+1≤n by omega)
 rw[Nat.add_mul,Nat.one_mul] at this
 omega
theorem V40:Z3a.Ok T0 (orcB [X02,Jk,J03] []) h22 0 1 b22o:=by
 intro q'' hq'' x'' y'' r'' h
 obtain⟨(ns:List (List UInt8×(Int×(Int×(Int×List UInt8))))),(m:Int),(i:Int),_⟩:=x''
 obtain⟨⟨(ap:List UInt8),(zr:List (List UInt8×(Int×(Int×(Int×List UInt8))))),_⟩,(l:List (List UInt8×(Int×(Int×(Int×List UInt8))))),_⟩:=y''
 obtain⟨hc,rfl⟩:=Tr.get_on h
 show X2 (fun st=>evC T0 (orcB [X02,Jk,J03] []) (lpN T0 (orcB [X02,Jk,J03] []) h22 0 q'') b22o 0 st (Q0 [2,5,12,13,14] [5] 0)) (stOf [2,5,12,13,14] [.ptr 0 0,.rowA 1,.list RR ns,.int .i64 m,.int .i64 i] [.box [.str ap,.list RR zr],.row RR l])=some (.exit 0,stOf [5] ([.rowA 0]) ([.row RR (Zf (ap,zr) ns)]))
 simp only[gnC,gnOk,Bool.and_eq_true,decide_eq_true_eq,List.isEmpty_iff] at hc
 obtain⟨⟨hz,hd,hb,hb2⟩,rfl,rfl,rfl⟩:=hc
 have hb:=Nat.le_of_ble_eq_true hb
 have hb2:=Nat.le_of_ble_eq_true hb2
 refine wf22o ns ns.length ap zr (fun l i=>0≤i∧i≤ns.length∧l.length≤i.toNat * zr.length∧X06 (ap,zr) l (ns.drop i.toNat)=Zf (ap,zr) ns) (fun l i=>(ns.length - i).toNat) _ ?_ _ hq'' [] 0 ⟨by omega,by omega,by simp,rfl⟩
 rintro l i ⟨h0,h1,h2,he⟩
 unfold r22o
 rw[V4 h0 h1 (by omega)]
 by_cases hi:i < ns.length
 ·have hsm:=U3x hd (k:=i.toNat) (by omega) (Ty.dflt RR)
  rw[Z5 (l:=ns) (k:=i.toNat) (by omega) (Ty.dflt RR),X06] at he
  generalize ns.getD i.toNat (Ty.dflt RR)=x at *
  have hms:=X39 (i:=i.toNat) (n:=ns.length) (z:=zr.length) (by omega) hb
  have hl1:(U06 (ap,zr) l x).length≤l.length+zr.length:=Z1i (ap,zr) l x
  have hl2:(U06 (ap,zr) l x).length≤(i+1).toNat * zr.length:=by rw[show (i+1).toNat=i.toNat+1 by omega,Nat.add_mul,Nat.one_mul];omega
  have hgl:∀ n,glC l (ofV (ap,zr) n 1) ((ofV (ap,zr) n 1).length:Int) 0=true:=fun n=>by
   have:(ofV (ap,zr) n 1).length≤zr.length:=X1x (ap,zr) n 1
   unfold glC
   rw[Nat.ble_eq_true_of_le (by omega),decide_eq_true rfl]
   rfl
  refine Tr.all_t (J0 hi) (Tr.all_t (J0 h0) (Tr.all_t (J0 hi) (Tr.all_t hsm ?_)))
  unfold U06 at he hl2
  cases ht:J0a x.2.1 x.2.2.2.2 with
  | none=>
    rw[ht] at he hl2
    exact Tr.all_t rfl (Tr.all_ret (.inr ⟨_,_,rfl,⟨by omega,by omega,hl2,by rw[show (i+1).toNat=i.toNat+1 by omega];exact he⟩,by omega⟩))
  | some n=>
    rw[ht] at he hl2
    exact Tr.all_f rfl (Tr.all_t hz (Tr.all_t (hgl n) (Tr.all_ret (.inr ⟨_,_,rfl,⟨by omega,by omega,hl2,by rw[show (i+1).toNat=i.toNat+1 by omega];exact he⟩,by omega⟩))))
 ·refine Tr.all_f (X0 hi) (Tr.all_ret (.inl ?_))
  rw[show i.toNat=ns.length by omega,List.drop_length] at he
  rw[←he]
  rfl
def t22 (z:(List UInt8×List (List UInt8×(Int×(Int×(Int×List UInt8)))))) (ns:List (List UInt8×(Int×(Int×(Int×List UInt8))))):Tr Res:=.br (gnC z.1 z.2 ns [] (↑ns.length:Int) 0) (.ret ([.list RR (Zf z ns)],[])) .no
def os22:OSpec:={ f:=22,sh:=[.d ZN true,.d (.list RR) false],so:=[],F:=fun(z,ns,_) _=>t22 z ns }
theorem fn22 (z:(List UInt8×List (List UInt8×(Int×(Int×(Int×List UInt8)))))) (ns:List (List UInt8×(Int×(Int×(Int×List UInt8))))):evC T0 (orcB [X02,Jk,J03] []) (lpOf h22 0 (lsOf [Z3a])) c22 1000000 (Z1 [AV.ofTy ZN z true,.list RR ns] [] Try.f22.ntmps) (J1 T0 false 0 Try.f22)=(t22 z ns).get:=by kernel_rfl
theorem ok22:os22.Ok Try.prog:=by
 refine V3 Q1 tab0 (V0 (all_cons Z4d (all_cons Z2d (all_cons X4k Z0))) Z0) h22 (d:=1) (n0:=0) (S:=lsOf [Z3a]) Try.func22 (by kernel_rfl) (c:=c22) (by kernel_rfl) rfl (Q5 (xs:=[(0,b22o)]) (by kernel_rfl) (all_cons (Q4 V40) Z0)) (by omega) (by kernel_rfl) ?_
 intro x'' y'' q'' hq''
 obtain⟨(z:(List UInt8×List (List UInt8×(Int×(Int×(Int×List UInt8)))))),(ns:List (List UInt8×(Int×(Int×(Int×List UInt8))))),_⟩:=x''
 exact(fn22 z ns).trans hq''
def fs22:FSpec:=fsT 22 [(ZN,true),((.list RR),false)] [((.list RR),false)] fun(z,ns,_)=>t22 z ns
theorem okf22:fs22.Ok Try.prog:=X5 fun x'' r'' hr''=>ok22 x'' () r'' hr''
def J46:FSpec:=fs22.like fun(z,ns,_)=>.on (gnOk z ns) (Zf z ns,())
theorem Z4h:J46.Ok Try.prog:=by
 refine J3 okf22 _ ?_
 rintro⟨(z:ZNt),(ns:List RRt),_⟩ y h
 obtain⟨hb,rfl⟩:=Tr.get_on h
 have hb:gnOk z ns=true:=hb
 refine J2 (vs:=[.list RR (Zf z ns)]) rfl rfl (Tr.get_of_all ?_)
 show (t22 z ns).all _
 unfold t22
 refine Tr.all_t ?_ (Tr.all_ret rfl)
 unfold gnC
 rw[show gnOk (z.1,z.2) ns=true from hb,decide_eq_true rfl]
 rfl
theorem V32 {α:Type} {l:List α} {k:Nat} (hk:k < l.length) (x:α):l.getD k x∈l:=by
 rw[List.getD_eq_getElem?_getD,List.getElem?_eq_getElem hk]
 exact List.getElem_mem hk
def V0w (z:ZNt) (n:List UInt8):Bool:=!(ofV z n 2).isEmpty
def cutW (z:ZNt) (n:List UInt8):Option (List UInt8):=if n=z.1 then none else if h:n=[]∨n=[0] then none else match cutW z (tlN n) with | some c=>some c | none=>if V0w z n=true then some n else none
termination_by n.length
decreasing_by exact J14 (fun e=>h (.inl e))
def cuC (ap:List UInt8) (zr:List RRt) (n cut:List UInt8) (is ok:Bool):Bool:=smZ (ap,zr)&&(smN n&&(cut.isEmpty&&(!is&&(ok==undV n ap))))
noncomputable def b17:Code:=X4 c17 0
def ls17:LoopSpec:={ bid:=0,sh:=[.d .str false,.ptr 0 0,.d .str false,.d .bool false,.d .bool false],so:=[.box [.d .str false,.d (.list RR) false]],F:=fun(n,cut,is,ok,_) ((ap,zr,_),_)=>.on (cuC ap zr n cut is ok) (.exit 0,[.str (bif undV n ap then (cutW (ap,zr) n).getD [] else []),.bool (undV n ap&&(cutW (ap,zr) n).isSome)],[]) }
def r17 (n cut:List UInt8) (is ok:Bool) (ap:List UInt8) (zr:List (List UInt8×(Int×(Int×(Int×List UInt8))))):Tr (St⊕(Ex×St)):=.br ok (.br (!n==ap) (.br (smZ (ap,zr)) (.br (decide ((↑(List.length (ofV (ap,zr) n 2)):Int) > 0)) (.br (bigS n) (.br (mayV n&&!n==[0]) (.ret (.inl (stOf [1,2,6,7,8] [.str (tlN n),.ptr 0 0,.str n,.bool true,.bool true] [.boxT none [.str ap,.list RR zr]]))) (.ret (.inl (stOf [1,2,6,7,8] [.str [],.ptr 0 0,.str n,.bool true,.bool false] [.boxT none [.str ap,.list RR zr]])))) .no) (.br (bigS n) (.br (mayV n&&!n==[0]) (.ret (.inl (stOf [1,2,6,7,8] [.str (tlN n),.ptr 0 0,.str cut,.bool is,.bool true] [.boxT none [.str ap,.list RR zr]]))) (.ret (.inl (stOf [1,2,6,7,8] [.str [],.ptr 0 0,.str cut,.bool is,.bool false] [.boxT none [.str ap,.list RR zr]])))) .no)) .no) (.ret (.inr (.exit 0,stOf [6,7] [.str cut,.bool is] [])))) (.ret (.inr (.exit 0,stOf [6,7] [.str cut,.bool is] [])))
theorem X40 (lp:Lp) (n cut:List UInt8) (is ok:Bool) (ap:List UInt8) (zr:List (List UInt8×(Int×(Int×(Int×List UInt8))))):evC T0 (orcB [Ub,J02,Jk] []) lp b17 0 (stOf [1,2,6,7,8] [.str n,.ptr 0 0,.str cut,.bool is,.bool ok] [.box [.str ap,.list RR zr]]) (Q0 [1,2,6,7,8] [6,7] 0)=(r17 n cut is ok ap zr).get:=by kernel_rfl
theorem wf17 (ap:List UInt8) (zr:List (List UInt8×(Int×(Int×(Int×List UInt8))))) (I'':List UInt8→List UInt8→Bool→Bool→Prop) (m'':List UInt8→List UInt8→Bool→Bool→Nat) (r'':Ex×St) (h:∀ (n cut:List UInt8) (is ok:Bool),I'' n cut is ok→(r17 n cut is ok ap zr).all fun x''=>x''=.inr r''∨∃ (n' cut':List UInt8) (is' ok':Bool),x''=.inl (stOf [1,2,6,7,8] [.str n',.ptr 0 0,.str cut',.bool is',.bool ok'] [.box [.str ap,.list RR zr]])∧I'' n' cut' is' ok'∧m'' n' cut' is' ok' < m'' n cut is ok) (lp:Lp) (n cut:List UInt8) (is ok:Bool):I'' n cut is ok→
    X2 (fun st=>evC T0 (orcB [Ub,J02,Jk] []) lp b17 0 st (Q0 [1,2,6,7,8] [6,7] 0)) (stOf [1,2,6,7,8] [.str n,.ptr 0 0,.str cut,.bool is,.bool ok] [.box [.str ap,.list RR zr]])=some r'':=
 U4 (fun a'':List UInt8×List UInt8×Bool×Bool=>stOf [1,2,6,7,8] [.str a''.1,.ptr 0 0,.str a''.2.1,.bool a''.2.2.1,.bool a''.2.2.2] [.box [.str ap,.list RR zr]]) (fun a''=>I'' a''.1 a''.2.1 a''.2.2.1 a''.2.2.2) (fun a''=>m'' a''.1 a''.2.1 a''.2.2.1 a''.2.2.2) r'' (fun a''=>r17 a''.1 a''.2.1 a''.2.2.1 a''.2.2.2 ap zr)
  (fun a'' x hx=>(X40 lp a''.1 a''.2.1 a''.2.2.1 a''.2.2.2 ap zr).trans hx) (fun a'' ha=>Tr.all_mono (fun x'' hx=>hx.imp id fun⟨n',cut',is',ok',h1,h2,h3⟩=>⟨(n',cut',is',ok'),h1,h2,h3⟩) (h (a''.1) (a''.2.1) (a''.2.2.1) (a''.2.2.2) ha)) (n,cut,is,ok)
def resC (o:Option (List UInt8)) (p:List UInt8×Bool):List UInt8×Bool:=match o with | some c=>(c,true) | none=>p
theorem Q0e (o:Option (List UInt8)):resC o ([],false)=(o.getD [],o.isSome):=by cases o<;>rfl
theorem U1z {n ap:List UInt8} (h:undV n ap=true) (hne:n≠ap):mayV n=true∧n≠[0]∧n≠[]∧undV (tlN n) ap=true:=by
 unfold undV at h
 rw[Bool.and_eq_true,Bool.and_eq_true] at h
 obtain⟨h1,h2,h3⟩:=h
 rw[sufB,if_neg hne] at h3
 have hn:=Q2i h2
 by_cases h0:n=[0]
 ·rw[dif_pos (.inr h0)] at h3;cases h3
 ·rw[dif_neg (by simp[hn,h0])] at h3
  refine⟨h2,h0,hn,?_⟩
  unfold undV
  rw[h1,V2b h2 h0,h3]
  rfl
theorem Q2x {z:ZNt} {n:List UInt8} (h1:n≠z.1) (h2:n≠[]) (h3:n≠[0]) (p:List UInt8×Bool):resC (cutW z n) p=resC (cutW z (tlN n)) (if V0w z n=true then (n,true) else p):=by
 rw[cutW,if_neg h1,dif_neg (by simp[h2,h3])]
 cases cutW z (tlN n) with
 | some c=>rfl
 | none=>by_cases hb:V0w z n=true<;>simp[resC,hb]
theorem U2z (z:ZNt) (n:List UInt8):decide (((ofV z n 2).length:Int) > 0)=V0w z n:=by
 unfold V0w
 cases ofV z n 2<;>simp
def cuI (ap:List UInt8) (zr:List RRt) (n0 n cut:List UInt8) (is ok:Bool):Prop:=
 (undV n0 ap=false∧ok=false∧cut=[]∧is=false)∨(undV n0 ap=true∧ok=true∧undV n ap=true∧n.length≤1000000∧resC (cutW (ap,zr) n) (cut,is)=resC (cutW (ap,zr) n0) ([],false))
theorem Z4g:ls17.Ok T0 (orcB [Ub,J02,Jk] []) h17 0 0 b17:=by
 intro q'' hq'' x'' y'' r'' h
 obtain⟨(n:List UInt8),(cut:List UInt8),(is:Bool),(ok:Bool),_⟩:=x''
 obtain⟨⟨(ap:List UInt8),(zr:List (List UInt8×(Int×(Int×(Int×List UInt8))))),_⟩,_⟩:=y''
 obtain⟨hc,rfl⟩:=Tr.get_on h
 show X2 (fun st=>evC T0 (orcB [Ub,J02,Jk] []) (lpN T0 (orcB [Ub,J02,Jk] []) h17 0 q'') b17 0 st (Q0 [1,2,6,7,8] [6,7] 0)) (stOf [1,2,6,7,8] [.str n,.ptr 0 0,.str cut,.bool is,.bool ok] [.box [.str ap,.list RR zr]])=some (.exit 0,stOf [6,7] ([.str (bif undV n ap then (cutW (ap,zr) n).getD [] else []),.bool (undV n ap&&(cutW (ap,zr) n).isSome)]) ([]))
 simp only[cuC,Bool.and_eq_true,beq_iff_eq,List.isEmpty_iff,Bool.not_eq_true'] at hc
 obtain⟨hz,hn,rfl,rfl,rfl⟩:=hc
 have hn:=Jx.1 hn
 refine wf17 ap zr (cuI ap zr n) (fun n _ _ _=>n.length) _ ?_ _ n [] false (undV n ap) (by
  cases hu:undV n ap with
  | false=>exact .inl ⟨hu,rfl,rfl,rfl⟩
  | true=>exact .inr ⟨hu,rfl,hu,hn,rfl⟩)
 rintro n' cut is ok hI
 unfold r17
 rcases hI with ⟨h1,rfl,rfl,rfl⟩ | ⟨h1,rfl,h2,h3,he⟩
 ·refine Tr.all_f rfl (Tr.all_ret (.inl ?_))
  rw[h1]
  rfl
 ·rw[h1]
  rw[Q0e] at he
  by_cases hq:n'=ap
  ·refine Tr.all_t rfl (Tr.all_f (by simpa using hq) (Tr.all_ret (.inl ?_)))
   rw[cutW,if_pos hq] at he
   simp only[resC,Prod.mk.injEq] at he
   rw[he.1,he.2]
   rfl
  ·obtain⟨s1,s2,s3,s4⟩:=U1z h2 hq
   have hlt:=J14 s3
   rw[Q2x hq s3 s2] at he
   rw[U2z]
   refine Tr.all_t rfl (Tr.all_t (by simpa using hq) (Tr.all_t hz (Tr.all_br (fun hb=>Tr.all_t (Ql (by omega)) (Tr.all_t (by rw[s1];simpa using s2) (Tr.all_ret (.inr ?_)))) fun hb=>Tr.all_t (Ql (by omega)) (Tr.all_t (by rw[s1];simpa using s2) (Tr.all_ret (.inr ?_))))))
   ·rw[if_pos hb] at he
    exact⟨_,_,_,_,rfl,.inr ⟨h1,rfl,s4,by omega,by rw[Q0e];exact he⟩,hlt⟩
   ·rw[if_neg (by rw[hb];simp)] at he
    exact⟨_,_,_,_,rfl,.inr ⟨h1,rfl,s4,by omega,by rw[Q0e];exact he⟩,hlt⟩
def t17 (z:(List UInt8×List (List UInt8×(Int×(Int×(Int×List UInt8)))))) (n:List UInt8):Tr Res:=.br (smN n&&smN z.1) (.br (cuC z.1 z.2 n ([]) false (undV n z.1)) (.ret ([.str (bif undV n z.1 then Option.getD (cutW z n) [] else []),.bool (undV n z.1&&Option.isSome (cutW z n))],[])) .no) .no
def os17:OSpec:={ f:=17,sh:=[.d ZN true,.d .str false],so:=[],F:=fun(z,n,_) _=>t17 z n }
theorem fn17 (z:(List UInt8×List (List UInt8×(Int×(Int×(Int×List UInt8)))))) (n:List UInt8):evC T0 (orcB [Ub,J02,Jk] []) (lpOf h17 0 (lsOf [ls17])) c17 1000000 (Z1 [AV.ofTy ZN z true,.str n] [] Try.f17.ntmps) (J1 T0 false 0 Try.f17)=(t17 z n).get:=by kernel_rfl
theorem ok17:os17.Ok Try.prog:=by
 refine V3 Q1 tab0 (V0 (all_cons J07 (all_cons V3n (all_cons Z2d Z0))) Z0) h17 (d:=0) (n0:=0) (S:=lsOf [ls17]) Try.func17 (by kernel_rfl) (c:=c17) (by kernel_rfl) rfl (Q5 (xs:=[(0,b17)]) (by kernel_rfl) (all_cons (Q4 Z4g) Z0)) (by omega) (by kernel_rfl) ?_
 intro x'' y'' q'' hq''
 obtain⟨(z:(List UInt8×List (List UInt8×(Int×(Int×(Int×List UInt8)))))),(n:List UInt8),_⟩:=x''
 exact(fn17 z n).trans hq''
def fs17:FSpec:=fsT 17 [(ZN,true),(.str,false)] [(.str,false),(.bool,false)] fun(z,n,_)=>t17 z n
theorem okf17:fs17.Ok Try.prog:=X5 fun x'' r'' hr''=>ok17 x'' () r'' hr''
def cutV (z:ZNt) (n:List UInt8):List UInt8×Bool:=bif undV n z.1 then resC (cutW z n) ([],false) else ([],false)
def Z44:FSpec:=fs17.like fun(z,n,_)=>.on (smZ z&&smN n) ((cutV z n).1,(cutV z n).2,())
theorem Q4b:Z44.Ok Try.prog:=by
 refine J3 okf17 _ ?_
 rintro⟨(z:ZNt),(n:List UInt8),_⟩ y h
 obtain⟨hb,rfl⟩:=Tr.get_on h
 obtain⟨hz,hn⟩:=Bool.and_eq_true_iff.1 (show (smZ z&&smN n)=true from hb)
 obtain⟨z1,z2⟩:=U2p.1 hz
 refine J2 (vs:=[.str (cutV z n).1,.bool (cutV z n).2]) rfl rfl (Tr.get_of_all ?_)
 show (t17 z n).all _
 unfold t17
 refine Tr.all_t (by rw[hn,z1];rfl) (Tr.all_t ?_ (Tr.all_ret ?_))
 ·unfold cuC
  rw[show smZ (z.1,z.2)=true from hz,hn]
  simp
 ·unfold cutV
  rw[Q0e]
  cases undV n z.1<;>rfl
def t55 (m:(Int×(Bool×(Bool×(Bool×(Bool×(Bool×(Int×(Int×(List (List UInt8×(Int×Int))×(List (List UInt8×(Int×(Int×(Int×List UInt8))))×(List (List UInt8×(Int×(Int×(Int×List UInt8))))×List (List UInt8×(Int×(Int×(Int×List UInt8)))))))))))))))) (rc:Int):Tr Res:=.ret ([.agg [.int .u16 m.1,.bool true,.bool false,.bool false,.bool m.2.2.2.2.1,.bool true,.int .i64 m.2.2.2.2.2.2.1,.int .i64 rc,.list QQ m.2.2.2.2.2.2.2.2.1,.list RR [],.list RR [],.list RR []]],[])
def os55:OSpec:={ f:=55,sh:=[.d MG true,.d (.int .i64) false],so:=[],F:=fun(m,rc,_) _=>t55 m rc }
theorem fn55 (m:(Int×(Bool×(Bool×(Bool×(Bool×(Bool×(Int×(Int×(List (List UInt8×(Int×Int))×(List (List UInt8×(Int×(Int×(Int×List UInt8))))×(List (List UInt8×(Int×(Int×(Int×List UInt8))))×List (List UInt8×(Int×(Int×(Int×List UInt8)))))))))))))))) (rc:Int):evC T0 (orcB [] []) (lpOf h55 0 (lsOf [])) c55 1000000 (Z1 [AV.ofTy MG m true,.int .i64 rc] [] Try.f55.ntmps) (J1 T0 false 0 Try.f55)=(t55 m rc).get:=by kernel_rfl
theorem ok55:os55.Ok Try.prog:=by
 refine V3 Q1 tab0 (V0 Z0 Z0) h55 (d:=0) (n0:=0) (S:=lsOf []) Try.func55 (by kernel_rfl) (c:=c55) (by kernel_rfl) rfl (Z2 (by kernel_rfl)) (by omega) (by kernel_rfl) ?_
 intro x'' y'' q'' hq''
 obtain⟨(m:(Int×(Bool×(Bool×(Bool×(Bool×(Bool×(Int×(Int×(List (List UInt8×(Int×Int))×(List (List UInt8×(Int×(Int×(Int×List UInt8))))×(List (List UInt8×(Int×(Int×(Int×List UInt8))))×List (List UInt8×(Int×(Int×(Int×List UInt8)))))))))))))))),(rc:Int),_⟩:=x''
 exact(fn55 m rc).trans hq''
def fs55:FSpec:=fsT 55 [(MG,true),((.int .i64),false)] [(MG,true)] fun(m,rc,_)=>t55 m rc
theorem okf55:fs55.Ok Try.prog:=X5 fun x'' r'' hr''=>ok55 x'' () r'' hr''
def Uf (rs:List RRt):Bool:=rs.all fun r=>decide (r.1.length≤300)&&decide (r.2.2.2.2.length≤300)
def znAt (l:List ZNt) (i:Int):ZNt:=l.getD i.toNat (Ty.dflt ZN)
def fwI (l:List ZNt) (i k:Int):Bool:=decide (0≤i)&&(decide (i < (l.length:Int))&&(decide (k=0)&&Nat.ble (znAt l i).2.length 1000000))
noncomputable def b15i:Code:=X4 (X4 c15 0) 0
def Q3l:LoopSpec:={ bid:=2,sh:=[.d (.list ZN) false,.d (.int .i64) false,.d (.int .i64) false],so:=[],F:=fun(l,i,k,_) _=>.on2 (fwI l i k) (Uf (znAt l i).2) (.exit 2,[.list ZN l,.dead,.int .i64 i],[]) (.ret,[.list ZN l,.bool false,.int .i64 i],[]) }
def r15i (l:List (List UInt8×List (List UInt8×(Int×(Int×(Int×List UInt8)))))) (i k:Int):Tr (St⊕(Ex×St)):=.br (decide (0≤i)) (.br (decide (i < (↑l.length:Int))) (.br (decide (k < (↑(List.length (l.getD i.toNat (Ty.dflt ZN)).2):Int))) (.br (decide (0≤i)) (.br (decide (i < (↑l.length:Int))) (.br (decide (0≤k)) (.br (decide (k < (↑(List.length (l.getD i.toNat (Ty.dflt ZN)).2):Int))) (.br (decide ((↑(List.length (List.getD (l.getD i.toNat (Ty.dflt ZN)).2 k.toNat (Ty.dflt RR)).1):Int) > 300)) (.ret (.inr (.ret,stOf [0,2,3] [.list ZN l,.bool false,.int .i64 i] []))) (.br (decide (0≤i)) (.br (decide (i < (↑l.length:Int))) (.br (decide (0≤k)) (.br (decide (k < (↑(List.length (l.getD i.toNat (Ty.dflt ZN)).2):Int))) (.br (decide ((↑(List.length (List.getD (l.getD i.toNat (Ty.dflt ZN)).2 k.toNat (Ty.dflt RR)).2.2.2.2):Int) > 300)) (.ret (.inr (.ret,stOf [0,2,3] [.list ZN l,.bool false,.int .i64 i] []))) (.ret (.inl (stOf [0,3,4] [.list ZN l,.int .i64 i,.int .i64 (IntKind.wrap .i64 (k+1))] [])))) .no) .no) .no) .no)) .no) .no) .no) .no) (.ret (.inr (.exit 2,stOf [0,2,3] [.list ZN l,.dead,.int .i64 i] [])))) .no) .no
theorem U3p (orc:Orc) (lp:Lp) (l:List (List UInt8×List (List UInt8×(Int×(Int×(Int×List UInt8)))))) (i k:Int):evC T0 orc lp b15i 2 (stOf [0,3,4] [.list ZN l,.int .i64 i,.int .i64 k] []) (Q0 [0,3,4] [0,2,3] 0)=(r15i l i k).get:=by kernel_rfl
theorem wf15i (orc:Orc) (l:List (List UInt8×List (List UInt8×(Int×(Int×(Int×List UInt8)))))) (i:Int) (I'':Int→Prop) (m'':Int→Nat) (r'':Ex×St) (h:∀ (k:Int),I'' k→(r15i l i k).all fun x''=>x''=.inr r''∨∃ (k':Int),x''=.inl (stOf [0,3,4] [.list ZN l,.int .i64 i,.int .i64 k'] [])∧I'' k'∧m'' k' < m'' k) (lp:Lp) (k:Int):I'' k→
    X2 (fun st=>evC T0 orc lp b15i 2 st (Q0 [0,3,4] [0,2,3] 0)) (stOf [0,3,4] [.list ZN l,.int .i64 i,.int .i64 k] [])=some r'':=
 U4 (fun a'':Int=>stOf [0,3,4] [.list ZN l,.int .i64 i,.int .i64 a''] []) (fun a''=>I'' a'') (fun a''=>m'' a'') r'' (fun a''=>r15i l i a'')
  (fun a'' x hx=>(U3p orc lp l i a'').trans hx) (fun a'' ha=>Tr.all_mono (fun x'' hx=>hx.imp id fun⟨k',h1,h2,h3⟩=>⟨(k'),h1,h2,h3⟩) (h (a'') ha)) (k)
def rrOk (r:RRt):Bool:=decide (r.1.length≤300)&&decide (r.2.2.2.2.length≤300)
theorem U14 {rs:List RRt} {k:Nat} (hk:k < rs.length) (x:RRt):Uf (rs.drop k)=(rrOk (rs.getD k x)&&Uf (rs.drop (k+1))):=by
 rw[Z5 hk x]
 unfold Uf
 rw[List.all_cons]
 rfl
theorem Z3t (orc:Orc):Q3l.Ok T0 orc h15 0 0 b15i:=by
 intro q'' hq'' x'' y'' r'' h
 obtain⟨(l:List (List UInt8×List (List UInt8×(Int×(Int×(Int×List UInt8)))))),(i:Int),(k:Int),_⟩:=x''
 obtain⟨hc,rfl⟩:=Tr.get_on2 h
 show X2 (fun st=>evC T0 orc (lpN T0 orc h15 0 q'') b15i 2 st (Q0 [0,3,4] [0,2,3] 0)) (stOf [0,3,4] [.list ZN l,.int .i64 i,.int .i64 k] [])=some ((bif Uf (znAt l i).2 then (.exit 2,[.list ZN l,.dead,.int .i64 i],[]) else (.ret,[.list ZN l,.bool false,.int .i64 i],[]):Ex×List AV×List LObj).1,stOf [0,2,3] (bif Uf (znAt l i).2 then (.exit 2,[.list ZN l,.dead,.int .i64 i],[]) else (.ret,[.list ZN l,.bool false,.int .i64 i],[]):Ex×List AV×List LObj).2.1 (bif Uf (znAt l i).2 then (.exit 2,[.list ZN l,.dead,.int .i64 i],[]) else (.ret,[.list ZN l,.bool false,.int .i64 i],[]):Ex×List AV×List LObj).2.2)
 simp only[fwI,Bool.and_eq_true,decide_eq_true_eq] at hc
 obtain⟨h0,hi,rfl,hl⟩:=hc
 have hl:=Nat.le_of_ble_eq_true hl
 have hz:l.getD i.toNat (Ty.dflt ZN)=znAt l i:=rfl
 refine wf15i _ l i (fun k=>0≤k∧k≤(znAt l i).2.length∧Uf ((znAt l i).2.drop k.toNat)=Uf (znAt l i).2) (fun k=>((znAt l i).2.length - k).toNat) _ ?_ _ 0 ⟨by omega,by omega,rfl⟩
 rintro k ⟨k0,k1,he⟩
 unfold r15i
 rw[V4 k0 k1 (by omega),hz]
 refine Tr.all_t (J0 h0) (Tr.all_t (J0 hi) ?_)
 generalize (znAt l i).2=rs at *
 by_cases hk:k < rs.length
 ·rw[U14 (k:=k.toNat) (by omega) (Ty.dflt RR)] at he
  generalize rs.getD k.toNat (Ty.dflt RR)=r at *
  refine Tr.all_t (J0 hk) (Tr.all_t (J0 h0) (Tr.all_t (J0 hi) (Tr.all_t (J0 k0) (Tr.all_t (J0 hk) (Tr.all_br (fun c1=>?_) fun c1=>Tr.all_t (J0 h0) (Tr.all_t (J0 hi) (Tr.all_t (J0 k0) (Tr.all_t (J0 hk) (Tr.all_br (fun c2=>?_) fun c2=>?_)))))))))
  ·have c1:=of_decide_eq_true c1
   have:rrOk r=false:=by unfold rrOk;rw[X0 (by omega)];rfl
   rw[this] at he
   rw[←he]
   exact Tr.all_ret (.inl rfl)
  ·have c2:=of_decide_eq_true c2
   have:rrOk r=false:=by unfold rrOk;rw[X0 (show ¬ r.2.2.2.2.length≤300 by omega),Bool.and_false]
   rw[this] at he
   rw[←he]
   exact Tr.all_ret (.inl rfl)
  ·have c1:=of_decide_eq_false c1
   have c2:=of_decide_eq_false c2
   have:rrOk r=true:=by unfold rrOk;rw[J0 (by omega),J0 (by omega)];rfl
   rw[this,Bool.true_and] at he
   exact Tr.all_ret (.inr ⟨_,rfl,⟨by omega,by omega,by rw[show (k+1).toNat=k.toNat+1 by omega];exact he⟩,by omega⟩)
 ·refine Tr.all_f (X0 hk) (Tr.all_ret (.inl ?_))
  rw[show k.toNat=rs.length by omega,List.drop_length] at he
  rw[←he]
  rfl
def Vn (z:ZNt):Bool:=decide (z.2.length≤40)&&(decide (z.1.length≤300)&&Uf z.2)
def fewL (l:List ZNt):Bool:=(l.take 9).all Vn
noncomputable def b15o:Code:=X4 c15 0
def Q3c:LoopSpec:={ bid:=0,sh:=[.d (.list ZN) false,.d (.int .i64) false],so:=[],F:=fun(l,i,_) _=>.on2 (decide (i=0)) (fewL l) (.exit 0,[.list ZN l,.dead],[]) (.ret,[.list ZN l,.bool false],[]) }
def r15o (l:List (List UInt8×List (List UInt8×(Int×(Int×(Int×List UInt8)))))) (i:Int):Tr (St⊕(Ex×St)):=.br (decide (i < (↑l.length:Int))) (.br (decide (i < 9)) (.br (decide (0≤i)) (.br (decide (i < (↑l.length:Int))) (.br (decide ((↑(List.length (l.getD i.toNat (Ty.dflt ZN)).2):Int) > 40)) (.ret (.inr (.ret,stOf [0,2] [.list ZN l,.bool false] []))) (.br (decide (0≤i)) (.br (decide (i < (↑l.length:Int))) (.br (decide ((↑(List.length (l.getD i.toNat (Ty.dflt ZN)).1):Int) > 300)) (.ret (.inr (.ret,stOf [0,2] [.list ZN l,.bool false] []))) (.br (fwI l i 0) (.br (Uf (znAt l i).2) (.ret (.inl (stOf [0,3] [.list ZN l,.int .i64 (IntKind.wrap .i64 (i+1))] []))) (.ret (.inr (.ret,stOf [0,2] [.list ZN l,.bool false] [])))) .no)) .no) .no)) .no) .no) (.ret (.inr (.exit 0,stOf [0,2] [.list ZN l,.dead] [])))) (.ret (.inr (.exit 0,stOf [0,2] [.list ZN l,.dead] [])))
theorem J39 (l:List (List UInt8×List (List UInt8×(Int×(Int×(Int×List UInt8)))))) (i:Int):evC T0 (orcB [] []) (lpOf h15 0 (lsOf [Q3l])) b15o 0 (stOf [0,3] [.list ZN l,.int .i64 i] []) (Q0 [0,3] [0,2] 0)=(r15o l i).get:=by kernel_rfl
theorem wf15o (l:List (List UInt8×List (List UInt8×(Int×(Int×(Int×List UInt8)))))) (I'':Int→Prop) (m'':Int→Nat) (r'':Ex×St) (h:∀ (i:Int),I'' i→(r15o l i).all fun x''=>x''=.inr r''∨∃ (i':Int),x''=.inl (stOf [0,3] [.list ZN l,.int .i64 i'] [])∧I'' i'∧m'' i' < m'' i) (q'':Nat) (hq'':1≤q'') (i:Int):I'' i→
    X2 (fun st=>evC T0 (orcB [] []) (lpN T0 (orcB [] []) h15 0 q'') b15o 0 st (Q0 [0,3] [0,2] 0)) (stOf [0,3] [.list ZN l,.int .i64 i] [])=some r'':=
 U4 (fun a'':Int=>stOf [0,3] [.list ZN l,.int .i64 a''] []) (fun a''=>I'' a'') (fun a''=>m'' a'') r'' (fun a''=>r15o l a'')
  (fun a'' x hx=>V0b (d:=0) (S:=lsOf [Q3l]) (Q0o (xs:=[(2,b15i)]) (by kernel_rfl) (all_cons (Q4 (Z3t _)) Z0)) (by omega) ((J39 l a'').trans hx)) (fun a'' ha=>Tr.all_mono (fun x'' hx=>hx.imp id fun⟨i',h1,h2,h3⟩=>⟨(i'),h1,h2,h3⟩) (h (a'') ha)) (i)
theorem J3q:Q3c.Ok T0 (orcB [] []) h15 0 1 b15o:=by
 intro q'' hq'' x'' y'' r'' h
 obtain⟨(l:List (List UInt8×List (List UInt8×(Int×(Int×(Int×List UInt8)))))),(i:Int),_⟩:=x''
 obtain⟨hc,rfl⟩:=Tr.get_on2 h
 show X2 (fun st=>evC T0 (orcB [] []) (lpN T0 (orcB [] []) h15 0 q'') b15o 0 st (Q0 [0,3] [0,2] 0)) (stOf [0,3] [.list ZN l,.int .i64 i] [])=some ((bif fewL l then (.exit 0,[.list ZN l,.dead],[]) else (.ret,[.list ZN l,.bool false],[]):Ex×List AV×List LObj).1,stOf [0,2] (bif fewL l then (.exit 0,[.list ZN l,.dead],[]) else (.ret,[.list ZN l,.bool false],[]):Ex×List AV×List LObj).2.1 (bif fewL l then (.exit 0,[.list ZN l,.dead],[]) else (.ret,[.list ZN l,.bool false],[]):Ex×List AV×List LObj).2.2)
 obtain rfl:=of_decide_eq_true hc
 refine wf15o l (fun i=>0≤i∧i≤9∧i≤l.length∧((l.take 9).drop i.toNat).all Vn=fewL l) (fun i=>(9 - i).toNat) _ ?_ _ hq'' 0 ⟨by omega,by omega,by omega,rfl⟩
 rintro i ⟨h0,h9,h1,he⟩
 unfold r15o
 have hlt:(l.take 9).length=min 9 l.length:=List.length_take
 by_cases hi:i < l.length
 ·by_cases hi9:i < 9
  ·rw[Z5 (l:=l.take 9) (k:=i.toNat) (by omega) (Ty.dflt ZN),List.all_cons,show (l.take 9).getD i.toNat (Ty.dflt ZN)=znAt l i by
    unfold znAt
    rw[List.getD_eq_getElem?_getD,List.getD_eq_getElem?_getD,List.getElem?_take,if_pos (by omega)]] at he
   have hw:fwI l i 0=decide ((znAt l i).2.length≤1000000):=by
    unfold fwI
    rw[decide_eq_true h0,decide_eq_true hi,decide_eq_true rfl]
    cases h:Nat.ble (znAt l i).2.length 1000000 with
    | true=>rw[decide_eq_true (Nat.le_of_ble_eq_true h)];rfl
    | false=>rw[decide_eq_false (fun e=>by rw[Nat.ble_eq_true_of_le e] at h;cases h)];rfl
   rw[hw]
   have hz:l.getD i.toNat (Ty.dflt ZN)=znAt l i:=rfl
   rw[hz,IntWalk.i64_in _ (by omega)]
   generalize znAt l i=z at *
   refine Tr.all_t (J0 hi) (Tr.all_t (J0 hi9) (Tr.all_t (J0 h0) (Tr.all_t (J0 hi) (Tr.all_br (fun c1=>?_) fun c1=>Tr.all_t (J0 h0) (Tr.all_t (J0 hi) (Tr.all_br (fun c2=>?_) fun c2=>Tr.all_t ?_ (Tr.all_br (fun c3=>?_) fun c3=>?_)))))))
   ·have c1:=of_decide_eq_true c1
    rw[show Vn z=false by unfold Vn;rw[X0 (by omega)];rfl] at he
    rw[←he]
    exact Tr.all_ret (.inl rfl)
   ·have c2:=of_decide_eq_true c2
    rw[show Vn z=false by unfold Vn;rw[X0 (show ¬ z.1.length≤300 by omega),Bool.false_and,Bool.and_false]] at he
    rw[←he]
    exact Tr.all_ret (.inl rfl)
   ·have c1:=of_decide_eq_false c1
    exact decide_eq_true (by omega)
   ·have c1:=of_decide_eq_false c1
    have c2:=of_decide_eq_false c2
    rw[show Vn z=true by unfold Vn;rw[J0 (by omega),J0 (by omega),c3];rfl,Bool.true_and] at he
    exact Tr.all_ret (.inr ⟨_,rfl,⟨by omega,by omega,by omega,by rw[show (i+1).toNat=i.toNat+1 by omega];exact he⟩,by omega⟩)
   ·rw[show Vn z=false by unfold Vn;rw[c3];simp] at he
    rw[←he]
    exact Tr.all_ret (.inl rfl)
  ·refine Tr.all_t (J0 hi) (Tr.all_f (X0 hi9) (Tr.all_ret (.inl ?_)))
   rw[List.drop_eq_nil_of_le (by omega)] at he
   rw[←he]
   rfl
 ·refine Tr.all_f (X0 hi) (Tr.all_ret (.inl ?_))
  rw[List.drop_eq_nil_of_le (by omega)] at he
  rw[←he]
  rfl
def t15 (l:List (List UInt8×List (List UInt8×(Int×(Int×(Int×List UInt8)))))):Tr Res:=.br (fewL l) (.ret ([.bool (decide ((↑l.length:Int)≤8))],[])) (.ret ([.bool false],[]))
def os15:OSpec:={ f:=15,sh:=[.d (.list ZN) false],so:=[],F:=fun(l,_) _=>t15 l }
theorem fn15 (l:List (List UInt8×List (List UInt8×(Int×(Int×(Int×List UInt8)))))):evC T0 (orcB [] []) (lpOf h15 0 (lsOf [Q3c])) c15 1000000 (Z1 [.list ZN l] [] Try.f15.ntmps) (J1 T0 false 0 Try.f15)=(t15 l).get:=by kernel_rfl
theorem ok15:os15.Ok Try.prog:=by
 refine V3 Q1 tab0 (V0 Z0 Z0) h15 (d:=1) (n0:=0) (S:=lsOf [Q3c]) Try.func15 (by kernel_rfl) (c:=c15) (by kernel_rfl) rfl (Q5 (xs:=[(0,b15o)]) (by kernel_rfl) (all_cons (Q4 J3q) Z0)) (by omega) (by kernel_rfl) ?_
 intro x'' y'' q'' hq''
 obtain⟨(l:List (List UInt8×List (List UInt8×(Int×(Int×(Int×List UInt8)))))),_⟩:=x''
 exact(fn15 l).trans hq''
def fs15:FSpec:=fsT 15 [((.list ZN),false)] [(.bool,false)] fun(l,_)=>t15 l
theorem okf15:fs15.Ok Try.prog:=X5 fun x'' r'' hr''=>ok15 x'' () r'' hr''
def fewZ (l:List ZNt):Bool:=decide (l.length≤8)&&l.all Vn
theorem J3o {l:List ZNt}:fewZ l=true↔l.length≤8∧∀ z∈l,Vn z=true:=by
 unfold fewZ
 rw[Bool.and_eq_true,decide_eq_true_eq,List.all_eq_true]
def Zp:FSpec:=fs15.like fun(l,_)=>.ret (fewZ l,())
theorem X4g:Zp.Ok Try.prog:=by
 refine J3 okf15 _ ?_
 rintro⟨(l:List ZNt),_⟩ y h
 cases h
 refine J2 (vs:=[.bool (fewZ l)]) rfl rfl (Tr.get_of_all ?_)
 show (t15 l).all _
 unfold t15 fewZ
 have hle:decide ((l.length:Int)≤8)=decide (l.length≤8):=by
  by_cases h:l.length≤8
  ·rw[J0 h,J0 (by omega)]
  ·rw[X0 h,X0 (by omega)]
 have hfl:fewL l=(l.take 9).all Vn:=rfl
 refine Tr.all_br (fun h=>Tr.all_ret ?_) fun h=>Tr.all_ret ?_
 ·rw[hle]
  by_cases h8:l.length≤8
  ·rw[hfl,List.take_of_length_le (by omega)] at h
   rw[h,Bool.and_true]
  ·rw[X0 h8];rfl
 ·by_cases h8:l.length≤8
  ·rw[hfl,List.take_of_length_le (by omega)] at h
   rw[h,Bool.and_false]
  ·rw[X0 h8];rfl
theorem sem81 (xs:List RR.den) (hc:fits xs.length 40=true):SemF Try.prog 81 [.list RR xs] [] [.rowA 0] [.row RR xs]:=by
 have h:V49 T0 (V1o []) (fun _ _ _=>.no) Try.f81 true 0 (cC c81).r0 (.seq (cC c81).cx (cC c81).cy) 3 4 (Z1 [.list RR xs] [] Try.f81.ntmps) =
     bif fits (([]:List RR.den).length+xs.length) 40 then some (([.rowA 0],[.row RR []]),([.rowA 0],[.row RR ([]++xs)]),xs.isEmpty) else none:=by kernel_rfl
 rw[show fits (([]:List RR.den).length+xs.length) 40=true by simpa using hc] at h
 exact X3s Q1 tab0 (U09 [] (by simp)) Try.func81 (by kernel_rfl) (id:=(cC c81).id) (ops:=(cC c81).ops) (o1:=(cC c81).ops.getD 0 default) (o2:=(cC c81).ops.getD 1 default) (d1:=3) (d2:=4) (t:=23) (yt:=23) (e:=56)
  (by kernel_rfl) (by kernel_rfl) (by kernel_rfl) (by kernel_rfl) (by kernel_rfl) (by kernel_rfl) (by kernel_rfl) (by kernel_rfl) (by kernel_rfl) (by kernel_rfl) h rfl (fun he=>by rw[List.isEmpty_iff.1 he])
def os81:OSpec:=Q31 81 RR 40
theorem ok81:os81.Ok Try.prog:=V2t sem81
def t82 (r:(List UInt8×(Int×(Int×(Int×List UInt8))))):Tr Res:=.br (r.2.1 != 2) (.ret ([.bool (r.2.1 != 15)],[])) (.ret ([.bool false],[]))
def os82:OSpec:={ f:=82,sh:=[.d RR true],so:=[],F:=fun(r,_) _=>t82 r }
theorem fn82 (r:(List UInt8×(Int×(Int×(Int×List UInt8))))):evC T0 (orcB [] []) (lpOf h82 0 (lsOf [])) c82 1000000 (Z1 [AV.ofTy RR r true] [] Try.f82.ntmps) (J1 T0 false 0 Try.f82)=(t82 r).get:=by kernel_rfl
theorem ok82:os82.Ok Try.prog:=by
 refine V3 Q1 tab0 (V0 Z0 Z0) h82 (d:=0) (n0:=0) (S:=lsOf []) Try.func82 (by kernel_rfl) (c:=c82) (by kernel_rfl) rfl (Z2 (by kernel_rfl)) (by omega) (by kernel_rfl) ?_
 intro x'' y'' q'' hq''
 obtain⟨(r:(List UInt8×(Int×(Int×(Int×List UInt8))))),_⟩:=x''
 exact(fn82 r).trans hq''
def Qo (r:RRt):Bool:=r.2.1==2||r.2.1==15
def V00:OSpec:=os82.like fun(r,_) _=>.ret ([.bool (!Qo r)],[])
theorem X49:V00.Ok Try.prog:=by
 refine Zc ok82 _ ?_
 rintro⟨(r:RRt),_⟩ _ r' h
 cases h
 refine Tr.get_of_all ?_
 show (t82 r).all _
 unfold t82 Qo
 refine Tr.all_br (fun c=>Tr.all_ret ?_) fun c=>Tr.all_ret ?_
 ·cases h:r.2.1==2
  ·simp[bne]
  ·simp[bne,h] at c
 ·cases h:r.2.1==2
  ·simp[bne,h] at c
  ·rfl
def fnL:List RRt→Nat→Int
 | [],_=>-1
 | x::l,k=>if Qo x=true then fnL l (k+1) else (k:Int)
def fnC (l:List RRt) (m i:Int):Bool:=Nat.ble l.length 1000000&&(decide (m=(l.length:Int))&&decide (i=0))
noncomputable def b88d:Code:=X4 c88 0
def Z34:LoopSpec:={ bid:=0,sh:=[.d (.list RR) false,.fnp 82 [],.d (.int .i64) false,.d (.int .i64) false],so:=[],F:=fun(l,m,i,_) _=>.on2 (fnC l m i) (decide (fnL l 0 < 0)) (.exit 0,[.dead],[]) (.ret,[.int .i64 (fnL l 0)],[]) }
def r88d (l:List (List UInt8×(Int×(Int×(Int×List UInt8))))) (m i:Int):Tr (St⊕(Ex×St)):=.br (decide (i < m)) (.br (decide (0≤i)) (.br (decide (i < (↑l.length:Int))) (.br (!Qo (l.getD i.toNat (Ty.dflt RR))) (.ret (.inr (.ret,stOf [4] [.int .i64 i] []))) (.ret (.inl (stOf [0,1,7,8] [.list RR l,AV.fn 82 [],.int .i64 m,.int .i64 (IntKind.wrap .i64 (i+1))] [])))) .no) .no) (.ret (.inr (.exit 0,stOf [4] [.dead] [])))
theorem V31 (lp:Lp) (l:List (List UInt8×(Int×(Int×(Int×List UInt8))))) (m i:Int):evC T0 (orcB [] [V00]) lp b88d 0 (stOf [0,1,7,8] [.list RR l,.fn 82 [],.int .i64 m,.int .i64 i] []) (Q0 [0,1,7,8] [4] 0)=(r88d l m i).get:=by kernel_rfl
theorem wf88d (l:List (List UInt8×(Int×(Int×(Int×List UInt8))))) (m:Int) (I'':Int→Prop) (m'':Int→Nat) (r'':Ex×St) (h:∀ (i:Int),I'' i→(r88d l m i).all fun x''=>x''=.inr r''∨∃ (i':Int),x''=.inl (stOf [0,1,7,8] [.list RR l,.fn 82 [],.int .i64 m,.int .i64 i'] [])∧I'' i'∧m'' i' < m'' i) (lp:Lp) (i:Int):I'' i→
    X2 (fun st=>evC T0 (orcB [] [V00]) lp b88d 0 st (Q0 [0,1,7,8] [4] 0)) (stOf [0,1,7,8] [.list RR l,.fn 82 [],.int .i64 m,.int .i64 i] [])=some r'':=
 U4 (fun a'':Int=>stOf [0,1,7,8] [.list RR l,.fn 82 [],.int .i64 m,.int .i64 a''] []) (fun a''=>I'' a'') (fun a''=>m'' a'') r'' (fun a''=>r88d l m a'')
  (fun a'' x hx=>(V31 lp l m a'').trans hx) (fun a'' ha=>Tr.all_mono (fun x'' hx=>hx.imp id fun⟨i',h1,h2,h3⟩=>⟨(i'),h1,h2,h3⟩) (h (a'') ha)) (i)
theorem U2o:∀ (l:List RRt) (k:Nat),fnL l k=-1∨(k:Int)≤fnL l k
 | [],_=>.inl rfl
 | x::l,k=>by
   unfold fnL
   split
   ·rcases U2o l (k+1) with h | h
    ·exact .inl h
    ·exact .inr (by omega)
   ·exact .inr (Int.le_refl _)
theorem X3r:Z34.Ok T0 (orcB [] [V00]) h88 0 0 b88d:=by
 intro q'' hq'' x'' y'' r'' h
 obtain⟨(l:List (List UInt8×(Int×(Int×(Int×List UInt8))))),(m:Int),(i:Int),_⟩:=x''
 obtain⟨hc,rfl⟩:=Tr.get_on2 h
 show X2 (fun st=>evC T0 (orcB [] [V00]) (lpN T0 (orcB [] [V00]) h88 0 q'') b88d 0 st (Q0 [0,1,7,8] [4] 0)) (stOf [0,1,7,8] [.list RR l,.fn 82 [],.int .i64 m,.int .i64 i] [])=some ((bif decide (fnL l 0 < 0) then (.exit 0,[.dead],[]) else (.ret,[.int .i64 (fnL l 0)],[]):Ex×List AV×List LObj).1,stOf [4] (bif decide (fnL l 0 < 0) then (.exit 0,[.dead],[]) else (.ret,[.int .i64 (fnL l 0)],[]):Ex×List AV×List LObj).2.1 (bif decide (fnL l 0 < 0) then (.exit 0,[.dead],[]) else (.ret,[.int .i64 (fnL l 0)],[]):Ex×List AV×List LObj).2.2)
 simp only[fnC,Bool.and_eq_true,decide_eq_true_eq] at hc
 obtain⟨hl,rfl,rfl⟩:=hc
 have hl:=Nat.le_of_ble_eq_true hl
 refine wf88d l l.length (fun i=>0≤i∧i≤l.length∧fnL (l.drop i.toNat) i.toNat=fnL l 0) (fun i=>(l.length - i).toNat) _ ?_ _ 0 ⟨by omega,by omega,rfl⟩
 rintro i ⟨h0,h1,he⟩
 unfold r88d
 rw[V4 h0 h1 (by omega)]
 by_cases hi:i < l.length
 ·rw[Z5 (l:=l) (k:=i.toNat) (by omega) (Ty.dflt RR),fnL] at he
  generalize l.getD i.toNat (Ty.dflt RR)=x at *
  refine Tr.all_t (J0 hi) (Tr.all_t (J0 h0) (Tr.all_t (J0 hi) (Tr.all_br (fun h=>?_) fun h=>?_)))
  ·rw[if_neg (by cases hx:Qo x;simp;(rw[hx] at h;cases h))] at he
   rw[←he,show ((i.toNat:Nat):Int)=i by omega,X0 (show ¬ i < 0 by omega)]
   exact Tr.all_ret (.inl rfl)
  ·rw[if_pos (by cases hx:Qo x;(rw[hx] at h;cases h);rfl)] at he
   exact Tr.all_ret (.inr ⟨_,rfl,⟨by omega,by omega,by rw[show (i+1).toNat=i.toNat+1 by omega];exact he⟩,by omega⟩)
 ·refine Tr.all_f (X0 hi) (Tr.all_ret (.inl ?_))
  rw[List.drop_eq_nil_of_le (by omega)] at he
  rw[←he]
  rfl
def t88d (l:List (List UInt8×(Int×(Int×(Int×List UInt8))))):Tr Res:=.br (fnC l (↑l.length:Int) 0) (.br (decide (fnL l 0 < 0)) (.ret ([.int .i64 (-1)],[])) (.ret ([.int .i64 (fnL l 0)],[]))) .no
def U48:OSpec:={ f:=88,sh:=[.d (.list RR) false,.fnp 82 []],so:=[],F:=fun(l,_) _=>t88d l }
theorem fn88d (l:List (List UInt8×(Int×(Int×(Int×List UInt8))))):evC T0 (orcB [] [V00]) (lpOf h88 0 (lsOf [Z34])) c88 1000000 (Z1 [.list RR l,.fn 82 []] [] Try.f88.ntmps) (J1 T0 false 0 Try.f88)=(t88d l).get:=by kernel_rfl
theorem ok88d:U48.Ok Try.prog:=by
 refine V3 Q1 tab0 (V0 Z0 (all_cons X49 Z0)) h88 (d:=0) (n0:=0) (S:=lsOf [Z34]) Try.func88 (by kernel_rfl) (c:=c88) (by kernel_rfl) rfl (Q5 (xs:=[(0,b88d)]) (by kernel_rfl) (all_cons (Q4 X3r) Z0)) (by omega) (by kernel_rfl) ?_
 intro x'' y'' q'' hq''
 obtain⟨(l:List (List UInt8×(Int×(Int×(Int×List UInt8))))),_⟩:=x''
 exact(fn88d l).trans hq''
def V1c:OSpec:=U48.like fun(l,_) _=>.on (lrB l) ([.int .i64 (fnL l 0)],[])
theorem ok88e:V1c.Ok Try.prog:=by
 refine Zc ok88d _ ?_
 rintro⟨(l:List RRt),_⟩ _ r' h
 obtain⟨hb,rfl⟩:=Tr.get_on h
 have hb:lrB l=true:=hb
 refine Tr.get_of_all ?_
 show (t88d l).all _
 unfold t88d
 refine Tr.all_t (by unfold fnC;unfold lrB at hb;rw[hb,decide_eq_true rfl];rfl) (Tr.all_br (fun h=>Tr.all_ret ?_) fun h=>Tr.all_ret rfl)
 have h:=of_decide_eq_true h
 rcases U2o l 0 with h2 | h2
 ·rw[h2]
 ·omega
def ndV (l:List RRt):List RRt:=l.filter Qo
def dlC (l:List RRt) (i j:Int):Bool:=Nat.ble l.length 1000000&&(decide (0≤i)&&(decide (i < (l.length:Int))&&(decide (j=i+1)&&decide (ndV (l.take j.toNat)=l.take i.toNat))))
noncomputable def b80d:Code:=X4 c80 0
def V38:LoopSpec:={ bid:=0,sh:=[.row 0,.fnp 82 [],.d (.int .i64) false,.d (.int .i64) false],so:=[.row RR],F:=fun(i,j,_) (l,_)=>.on (dlC l i j) (.exit 0,[.rowA 0,.int .i64 ((ndV l).length:Nat)],[.row RR (ndV l++l.drop (ndV l).length)]) }
def r80d (i j:Int) (l:List (List UInt8×(Int×(Int×(Int×List UInt8))))):Tr (St⊕(Ex×St)):=.br (decide (j < (↑l.length:Int))) (.br (decide (0≤j)) (.br (decide (j < (↑l.length:Int))) (.br (!!Qo (l.getD j.toNat (Ty.dflt RR))) (.br (decide (0≤i)) (.br (decide (i < (↑l.length:Int))) (.ret (.inl (stOf [0,1,5,6] [.rowA 0,AV.fn 82 [],.int .i64 (IntKind.wrap .i64 (i+1)),.int .i64 (IntKind.wrap .i64 (j+1))] [.row RR (List.set l i.toNat (l.getD j.toNat (Ty.dflt RR)))]))) .no) .no) (.ret (.inl (stOf [0,1,5,6] [.rowA 0,AV.fn 82 [],.int .i64 i,.int .i64 (IntKind.wrap .i64 (j+1))] [.row RR l])))) .no) .no) (.ret (.inr (.exit 0,stOf [0,5] [.rowA 0,.int .i64 i] [.row RR l])))
theorem Q3o (lp:Lp) (i j:Int) (l:List (List UInt8×(Int×(Int×(Int×List UInt8))))):evC T0 (orcB [] [V00,V1c]) lp b80d 0 (stOf [0,1,5,6] [.rowA 0,.fn 82 [],.int .i64 i,.int .i64 j] [.row RR l]) (Q0 [0,1,5,6] [0,5] 1)=(r80d i j l).get:=by kernel_rfl
theorem wf80d (I'':Int→Int→List (List UInt8×(Int×(Int×(Int×List UInt8))))→Prop) (m'':Int→Int→List (List UInt8×(Int×(Int×(Int×List UInt8))))→Nat) (r'':Ex×St) (h:∀ (i j:Int) (l:List (List UInt8×(Int×(Int×(Int×List UInt8))))),I'' i j l→(r80d i j l).all fun x''=>x''=.inr r''∨∃ (i' j':Int) (l':List (List UInt8×(Int×(Int×(Int×List UInt8))))),x''=.inl (stOf [0,1,5,6] [.rowA 0,.fn 82 [],.int .i64 i',.int .i64 j'] [.row RR l'])∧I'' i' j' l'∧m'' i' j' l' < m'' i j l) (lp:Lp) (i j:Int) (l:List (List UInt8×(Int×(Int×(Int×List UInt8))))):I'' i j l→
    X2 (fun st=>evC T0 (orcB [] [V00,V1c]) lp b80d 0 st (Q0 [0,1,5,6] [0,5] 1)) (stOf [0,1,5,6] [.rowA 0,.fn 82 [],.int .i64 i,.int .i64 j] [.row RR l])=some r'':=
 U4 (fun a'':Int×Int×List (List UInt8×(Int×(Int×(Int×List UInt8))))=>stOf [0,1,5,6] [.rowA 0,.fn 82 [],.int .i64 a''.1,.int .i64 a''.2.1] [.row RR a''.2.2]) (fun a''=>I'' a''.1 a''.2.1 a''.2.2) (fun a''=>m'' a''.1 a''.2.1 a''.2.2) r'' (fun a''=>r80d a''.1 a''.2.1 a''.2.2)
  (fun a'' x hx=>(Q3o lp a''.1 a''.2.1 a''.2.2).trans hx) (fun a'' ha=>Tr.all_mono (fun x'' hx=>hx.imp id fun⟨i',j',l',h1,h2,h3⟩=>⟨(i',j',l'),h1,h2,h3⟩) (h (a''.1) (a''.2.1) (a''.2.2) ha)) (i,j,l)
theorem V0l {l:List RRt} {j:Nat} (hj:j < l.length) (d:RRt):ndV (l.take (j+1))=ndV (l.take j)++if Qo (l.getD j d)=true then [l.getD j d] else []:=by
 have hg:l.getD j d=l[j]:=by rw[List.getD_eq_getElem?_getD,List.getElem?_eq_getElem hj];rfl
 rw[hg,List.take_succ_eq_append_getElem hj]
 unfold ndV
 rw[List.filter_append]
 congr 1
 by_cases h:Qo l[j]=true
 ·rw[if_pos h,List.filter_cons_of_pos h];rfl
 ·rw[if_neg h,List.filter_cons_of_neg h];rfl
theorem Q2h (l:List RRt) (j:Nat):(ndV (l.take j)).length≤j:=by
 have:=List.length_filter_le Qo (l.take j)
 rw[List.length_take] at this
 unfold ndV
 omega
def dlW (l:List RRt) (j:Nat):List RRt:=ndV (l.take j)++l.drop (ndV (l.take j)).length
theorem Q41 {l:List RRt} {j:Nat} (hj:j≤l.length):(dlW l j).length=l.length:=by
 have:=Q2h l j
 unfold dlW
 rw[List.length_append,List.length_drop]
 omega
theorem J3x {l:List RRt} {j:Nat} (hj:j < l.length) (d:RRt):(dlW l j).getD j d=l.getD j d:=by
 have:=Q2h l j
 unfold dlW
 rw[List.getD_eq_getElem?_getD,List.getElem?_append_right this,List.getElem?_drop,List.getD_eq_getElem?_getD]
 congr 2
 omega
theorem J3u {l:List RRt} {j:Nat} (hj:j < l.length) (d:RRt) (h:Qo (l.getD j d)=true):(dlW l j).set (ndV (l.take j)).length (l.getD j d)=dlW l (j+1):=by
 have:=Q2h l j
 unfold dlW
 rw[V0l hj d,if_pos h,List.length_append,List.length_singleton,List.set_append_right _ _ (Nat.le_refl _),Nat.sub_self,Z5 (l:=l) (k:=(ndV (l.take j)).length) (by omega) d]
 simp
theorem V42 {l:List RRt} {j:Nat} (hj:j < l.length) (d:RRt) (h:Qo (l.getD j d)=false):dlW l (j+1)=dlW l j:=by
 unfold dlW
 rw[V0l hj d,if_neg (by rw[h];simp),List.append_nil]
theorem U3y:V38.Ok T0 (orcB [] [V00,V1c]) h80 1 0 b80d:=by
 intro q'' hq'' x'' y'' r'' h
 obtain⟨(i:Int),(j:Int),_⟩:=x''
 obtain⟨(l:List (List UInt8×(Int×(Int×(Int×List UInt8))))),_⟩:=y''
 obtain⟨hc,rfl⟩:=Tr.get_on h
 show X2 (fun st=>evC T0 (orcB [] [V00,V1c]) (lpN T0 (orcB [] [V00,V1c]) h80 1 q'') b80d 0 st (Q0 [0,1,5,6] [0,5] 1)) (stOf [0,1,5,6] [.rowA 0,.fn 82 [],.int .i64 i,.int .i64 j] [.row RR l])=some (.exit 0,stOf [0,5] ([.rowA 0,.int .i64 ((ndV l).length:Nat)]) ([.row RR (ndV l++l.drop (ndV l).length)]))
 simp only[dlC,Bool.and_eq_true,decide_eq_true_eq] at hc
 obtain⟨hl,h0,h1,rfl,ht⟩:=hc
 have hl:=Nat.le_of_ble_eq_true hl
 have hti:(l.take i.toNat).length=i.toNat:=by rw[List.length_take];omega
 have hc0:(ndV (l.take (i+1).toNat)).length=i.toNat:=by rw[ht,hti]
 have hw0:dlW l (i+1).toNat=l:=by unfold dlW;rw[hc0,ht];exact List.take_append_drop _ _
 refine wf80d (fun i j w=>0≤i∧i < j∧j≤l.length∧i=((ndV (l.take j.toNat)).length:Nat)∧w=dlW l j.toNat) (fun i j w=>(l.length - j).toNat) _ ?_ _ i (i+1) l ⟨h0,by omega,by omega,by rw[hc0];omega,hw0.symm⟩
 clear hti hc0 hw0 ht h0 h1
 rintro i j w ⟨h0,h1,h2,he,rfl⟩
 unfold r80d
 rw[Q41 (by omega),V4 (show 0≤j by omega) h2 (by omega),IntWalk.i64_in (i+1) (by omega)]
 by_cases hj:j < l.length
 ·rw[J3x (by omega) (Ty.dflt RR)]
  refine Tr.all_t (J0 hj) (Tr.all_t (J0 (by omega)) (Tr.all_t (J0 hj) (Tr.all_br (fun h=>Tr.all_t (J0 h0) (Tr.all_t (J0 (by omega)) (Tr.all_ret (.inr ?_)))) fun h=>Tr.all_ret (.inr ?_))))
  ·have h:Qo (l.getD j.toNat (Ty.dflt RR))=true:=by cases hx:Qo (l.getD j.toNat (Ty.dflt RR));(rw[hx] at h;cases h);rfl
   refine⟨_,_,_,rfl,⟨by omega,by omega,by omega,?_,?_⟩,by omega⟩
   ·rw[show (j+1).toNat=j.toNat+1 by omega,V0l (by omega) (Ty.dflt RR),if_pos h,List.length_append,List.length_singleton]
    omega
   ·rw[show (j+1).toNat=j.toNat+1 by omega,←J3u (by omega) (Ty.dflt RR) h]
    congr 1
    omega
  ·have h:Qo (l.getD j.toNat (Ty.dflt RR))=false:=by cases hx:Qo (l.getD j.toNat (Ty.dflt RR));rfl;(rw[hx] at h;cases h)
   refine⟨_,_,_,rfl,⟨by omega,by omega,by omega,?_,?_⟩,by omega⟩
   ·rw[show (j+1).toNat=j.toNat+1 by omega,V0l (by omega) (Ty.dflt RR),if_neg (by rw[h];simp),List.append_nil]
    exact he
   ·rw[show (j+1).toNat=j.toNat+1 by omega,V42 (by omega) (Ty.dflt RR) h]
 ·refine Tr.all_f (X0 hj) (Tr.all_ret (.inl ?_))
  have hj:j.toNat=l.length:=by omega
  rw[he]
  unfold dlW
  rw[hj,List.take_length]
def t80d (l:List (List UInt8×(Int×(Int×(Int×List UInt8))))):Tr Res:=.br (lrB l) (.br (fnL l 0==(-1:Int)) (.ret ([.rowA 0],[.row RR l])) (.br (dlC l (fnL l 0) (IntKind.wrap .i64 (fnL l 0+1))) (.br (decide (0≤(↑(List.length (ndV l++List.drop (List.length (ndV l)) l)):Int))&&decide ((↑(List.length (ndV l++List.drop (List.length (ndV l)) l)):Int)≤(↑(List.length (ndV l++List.drop (List.length (ndV l)) l)):Int))) (.br (decide (0≤(↑(List.length (ndV l)):Int))&&decide ((↑(List.length (ndV l)):Int)≤(↑(List.length (ndV l++List.drop (List.length (ndV l)) l)):Int))) (.br (decide (0≤(↑(List.length (ndV l)):Int))&&decide ((↑(List.length (ndV l)):Int)≤(↑(List.length (List.take (Int.toNat (↑(List.length (ndV l)):Int)) (ndV l++List.drop (List.length (ndV l)) l)++List.replicate (Int.toNat (↑(List.length (ndV l++List.drop (List.length (ndV l)) l)):Int) - Int.toNat (↑(List.length (ndV l)):Int)) (Ty.dflt RR)++List.drop (Int.toNat (↑(List.length (ndV l)):Int)+(Int.toNat (↑(List.length (ndV l++List.drop (List.length (ndV l)) l)):Int) - Int.toNat (↑(List.length (ndV l)):Int))) (ndV l++List.drop (List.length (ndV l)) l))):Int))) (.ret ([.rowS 0 0 (Int.toNat (↑(List.length (ndV l)):Int) - Int.toNat 0) false],[.row RR (List.take (Int.toNat (↑(List.length (ndV l)):Int)) (ndV l++List.drop (List.length (ndV l)) l)++List.replicate (Int.toNat (↑(List.length (ndV l++List.drop (List.length (ndV l)) l)):Int) - Int.toNat (↑(List.length (ndV l)):Int)) (Ty.dflt RR)++List.drop (Int.toNat (↑(List.length (ndV l)):Int)+(Int.toNat (↑(List.length (ndV l++List.drop (List.length (ndV l)) l)):Int) - Int.toNat (↑(List.length (ndV l)):Int))) (ndV l++List.drop (List.length (ndV l)) l))])) .no) .no) .no) .no)) .no
def J4a:OSpec:={ f:=80,sh:=[.row 0,.fnp 82 []],so:=[.row RR],F:=fun _ (l,_)=>t80d l }
theorem fn80d (l:List (List UInt8×(Int×(Int×(Int×List UInt8))))):evC T0 (orcB [] [V00,V1c]) (lpOf h80 1 (lsOf [V38])) c80 1000000 (Z1 [.rowA 0,.fn 82 []] [.row RR l] Try.f80.ntmps) (J1 T0 false 1 Try.f80)=(t80d l).get:=by kernel_rfl
theorem ok80d:J4a.Ok Try.prog:=by
 refine V3 Q1 tab0 (V0 Z0 (all_cons X49 (all_cons ok88e Z0))) h80 (d:=0) (n0:=1) (S:=lsOf [V38]) Try.func80 (by kernel_rfl) (c:=c80) (by kernel_rfl) rfl (Q5 (xs:=[(0,b80d)]) (by kernel_rfl) (all_cons (Q4 U3y) Z0)) (by omega) (by kernel_rfl) ?_
 intro x'' y'' q'' hq''
 obtain⟨(l:List (List UInt8×(Int×(Int×(Int×List UInt8))))),_⟩:=y''
 exact(fn80d l).trans hq''
theorem Q18:∀ (l:List RRt) (k:Nat),(fnL l k=-1∧ndV l=l)∨∃ j,j < l.length∧fnL l k=((k+j:Nat):Int)∧ndV (l.take (j+1))=l.take j
 | [],_=>.inl ⟨rfl,rfl⟩
 | x::l,k=>by
   unfold fnL
   by_cases h:Qo x=true
   ·rw[if_pos h]
    rcases Q18 l (k+1) with ⟨h1,h2⟩ | ⟨j,h1,h2,h3⟩
    ·refine .inl ⟨h1,?_⟩
     unfold ndV at h2 ⊢
     rw[List.filter_cons_of_pos h,h2]
    ·refine .inr ⟨j+1,by simpa using h1,by rw[h2];omega,?_⟩
     unfold ndV at h3 ⊢
     rw[List.take_succ_cons,List.take_succ_cons,List.filter_cons_of_pos h,h3]
   ·rw[if_neg h]
    refine .inr ⟨0,by simp,by simp,?_⟩
    unfold ndV
    rw[List.take_succ_cons,List.take_zero,List.take_zero,List.filter_cons_of_neg h]
    rfl
def Q47:OSpec:=J4a.like fun _ (l,_)=>.br (lrB l) (.br (fnL l 0 == -1) (.ret ([.rowA 0],[.row RR l])) (.ret ([.rowS 0 0 (ndV l).length false],[.row RR (ndV l++List.replicate (l.length - (ndV l).length) (Ty.dflt RR))]))) .no
theorem ok80w:Q47.Ok Try.prog:=by
 refine Zc ok80d _ ?_
 rintro _ ⟨(l:List RRt),_⟩ r' h
 simp only[Tr.get] at h
 cases hb:lrB l with
 | false=>rw[hb] at h;cases h
 | true=>
   rw[hb,cond_true] at h
   have hl:=Nat.le_of_ble_eq_true hb
   refine Tr.get_of_all ?_
   show (t80d l).all _
   unfold t80d
   rcases Q18 l 0 with ⟨h1,h2⟩ | ⟨j,h1,h2,h3⟩
   ·rw[h1] at h
    rw[h1]
    cases h
    exact Tr.all_t hb (Tr.all_t rfl (Tr.all_ret rfl))
   ·rw[Nat.zero_add] at h2
    rw[h2] at h
    rw[h2]
    have hne:(((j:Nat):Int) == -1)=false:=beq_eq_false_iff_ne.2 (by omega)
    rw[hne] at h
    cases h
    have hw:IntKind.wrap .i64 ((j:Int)+1)=(j:Int)+1:=IntWalk.i64_in _ (by omega)
    rw[hw]
    have hc:dlC l j ((j:Int)+1)=true:=by
     unfold dlC
     rw[show Nat.ble l.length 1000000=true from hb,show ((j:Int)+1).toNat=j+1 by omega,show ((j:Int)).toNat=j by omega,h3,J0 (by omega),J0 (by omega),J0 rfl,J0 rfl]
     rfl
    have hnl:(ndV l).length≤l.length:=List.length_filter_le _ _
    have hlen:(ndV l++List.drop (List.length (ndV l)) l).length=l.length:=by rw[List.length_append,List.length_drop];omega
    have hX:List.take (Int.toNat (((ndV l).length:Nat):Int)) (ndV l++List.drop (List.length (ndV l)) l)++List.replicate (Int.toNat ((l.length:Nat):Int) - Int.toNat (((ndV l).length:Nat):Int)) (Ty.dflt RR)++List.drop (Int.toNat (((ndV l).length:Nat):Int)+(Int.toNat ((l.length:Nat):Int) - Int.toNat (((ndV l).length:Nat):Int))) (ndV l++List.drop (List.length (ndV l)) l)=ndV l++List.replicate (l.length - (ndV l).length) (Ty.dflt RR):=by
     rw[Int.toNat_natCast,Int.toNat_natCast,List.take_left,List.drop_eq_nil_of_le (by rw[hlen];omega),List.append_nil]
    rw[hlen,hX]
    have hlen2:(ndV l++List.replicate (l.length - (ndV l).length) (Ty.dflt RR)).length=l.length:=by rw[List.length_append,List.length_replicate];omega
    rw[hlen2]
    refine Tr.all_t hb (Tr.all_f hne (Tr.all_t hc (Tr.all_t (by rw[J0 (by omega),J0 (by omega)];rfl) (Tr.all_t (by rw[J0 (by omega),J0 (by omega)];rfl) (Tr.all_t (by rw[J0 (by omega),J0 (by omega)];rfl) (Tr.all_ret ?_))))))
    rw[Int.toNat_natCast,show Int.toNat (0:Int)=0 from rfl,Nat.sub_zero]
def t56 (z:(List UInt8×List (List UInt8×(Int×(Int×(Int×List UInt8)))))) (m:(Int×(Bool×(Bool×(Bool×(Bool×(Bool×(Int×(Int×(List (List UInt8×(Int×Int))×(List (List UInt8×(Int×(Int×(Int×List UInt8))))×(List (List UInt8×(Int×(Int×(Int×List UInt8))))×List (List UInt8×(Int×(Int×(Int×List UInt8)))))))))))))))) (q:(List UInt8×(Int×Int))):Tr Res:=.br (smZ z&&smN q.1) (.br (cutV z q.1).2 (.br (smZ z) (.br (gnOk z (ofV z (cutV z q.1).1 2)) (.ret ([.agg [.int .u16 m.1,.bool m.2.1,.bool m.2.2.1,.bool m.2.2.2.1,.bool m.2.2.2.2.1,.bool m.2.2.2.2.2.1,.int .i64 m.2.2.2.2.2.2.1,.int .i64 m.2.2.2.2.2.2.2.1,.list QQ m.2.2.2.2.2.2.2.2.1,.list RR m.2.2.2.2.2.2.2.2.2.1,.list RR (ofV z (cutV z q.1).1 2),.list RR (Zf z (ofV z (cutV z q.1).1 2))]],[])) .no) .no) (.br (smZ z) (.br ((↑(List.length (ofV z q.1 q.2.1)):Int)==0) (.br (smZ z) (.br (fits (List.length (ofV z q.1 5)) 40) (.br (lrB (ofV z q.1 5)) (.br (fnL (ofV z q.1 5) 0==(-1:Int)) (.br (gnOk z (ofV z q.1 5)) (.br (decide ((↑(List.length (ofV z q.1 5)):Int) > 0)) (.ret ([.agg [.int .u16 m.1,.bool m.2.1,.bool true,.bool m.2.2.2.1,.bool m.2.2.2.2.1,.bool m.2.2.2.2.2.1,.int .i64 m.2.2.2.2.2.2.1,.int .i64 m.2.2.2.2.2.2.2.1,.list QQ m.2.2.2.2.2.2.2.2.1,.list RR (ofV z q.1 5),.list RR m.2.2.2.2.2.2.2.2.2.2.1,.list RR (Zf z (ofV z q.1 5))]],[])) (.br (smZ z) (.br (smZ z&&smN q.1) (.br (!Q04 z q.1) (.ret ([.agg [.int .u16 m.1,.bool m.2.1,.bool true,.bool m.2.2.2.1,.bool m.2.2.2.2.1,.bool m.2.2.2.2.2.1,.int .i64 m.2.2.2.2.2.2.1,.int .i64 3,.list QQ m.2.2.2.2.2.2.2.2.1,.list RR (ofV z q.1 5),.list RR (ofV z z.1 6),.list RR (Zf z (ofV z q.1 5))]],[])) (.ret ([.agg [.int .u16 m.1,.bool m.2.1,.bool true,.bool m.2.2.2.1,.bool m.2.2.2.2.1,.bool m.2.2.2.2.2.1,.int .i64 m.2.2.2.2.2.2.1,.int .i64 m.2.2.2.2.2.2.2.1,.list QQ m.2.2.2.2.2.2.2.2.1,.list RR (ofV z q.1 5),.list RR (ofV z z.1 6),.list RR (Zf z (ofV z q.1 5))]],[]))) .no) .no)) .no) (.br (gnOk z (List.take (List.length (ndV (ofV z q.1 5))) (List.drop 0 (ndV (ofV z q.1 5)++List.replicate (List.length (ofV z q.1 5) - List.length (ndV (ofV z q.1 5))) (Ty.dflt RR))))) (.br (decide ((↑(List.length (ofV z q.1 5)):Int) > 0)) (.ret ([.agg [.int .u16 m.1,.bool m.2.1,.bool true,.bool m.2.2.2.1,.bool m.2.2.2.2.1,.bool m.2.2.2.2.2.1,.int .i64 m.2.2.2.2.2.2.1,.int .i64 m.2.2.2.2.2.2.2.1,.list QQ m.2.2.2.2.2.2.2.2.1,.list RR (ofV z q.1 5),.list RR m.2.2.2.2.2.2.2.2.2.2.1,.list RR (Zf z (List.take (List.length (ndV (ofV z q.1 5))) (List.drop 0 (ndV (ofV z q.1 5)++List.replicate (List.length (ofV z q.1 5) - List.length (ndV (ofV z q.1 5))) (Ty.dflt RR)))))]],[])) (.br (smZ z) (.br (smZ z&&smN q.1) (.br (!Q04 z q.1) (.ret ([.agg [.int .u16 m.1,.bool m.2.1,.bool true,.bool m.2.2.2.1,.bool m.2.2.2.2.1,.bool m.2.2.2.2.2.1,.int .i64 m.2.2.2.2.2.2.1,.int .i64 3,.list QQ m.2.2.2.2.2.2.2.2.1,.list RR (ofV z q.1 5),.list RR (ofV z z.1 6),.list RR (Zf z (List.take (List.length (ndV (ofV z q.1 5))) (List.drop 0 (ndV (ofV z q.1 5)++List.replicate (List.length (ofV z q.1 5) - List.length (ndV (ofV z q.1 5))) (Ty.dflt RR)))))]],[])) (.ret ([.agg [.int .u16 m.1,.bool m.2.1,.bool true,.bool m.2.2.2.1,.bool m.2.2.2.2.1,.bool m.2.2.2.2.2.1,.int .i64 m.2.2.2.2.2.2.1,.int .i64 m.2.2.2.2.2.2.2.1,.list QQ m.2.2.2.2.2.2.2.2.1,.list RR (ofV z q.1 5),.list RR (ofV z z.1 6),.list RR (Zf z (List.take (List.length (ndV (ofV z q.1 5))) (List.drop 0 (ndV (ofV z q.1 5)++List.replicate (List.length (ofV z q.1 5) - List.length (ndV (ofV z q.1 5))) (Ty.dflt RR)))))]],[]))) .no) .no)) .no)) .no) .no) .no) (.br (fits (List.length (ofV z q.1 q.2.1)) 40) (.br (lrB (ofV z q.1 q.2.1)) (.br (fnL (ofV z q.1 q.2.1) 0==(-1:Int)) (.br (gnOk z (ofV z q.1 q.2.1)) (.br (decide ((↑(List.length (ofV z q.1 q.2.1)):Int) > 0)) (.ret ([.agg [.int .u16 m.1,.bool m.2.1,.bool true,.bool m.2.2.2.1,.bool m.2.2.2.2.1,.bool m.2.2.2.2.2.1,.int .i64 m.2.2.2.2.2.2.1,.int .i64 m.2.2.2.2.2.2.2.1,.list QQ m.2.2.2.2.2.2.2.2.1,.list RR (ofV z q.1 q.2.1),.list RR m.2.2.2.2.2.2.2.2.2.2.1,.list RR (Zf z (ofV z q.1 q.2.1))]],[])) (.br (smZ z) (.br (smZ z&&smN q.1) (.br (!Q04 z q.1) (.ret ([.agg [.int .u16 m.1,.bool m.2.1,.bool true,.bool m.2.2.2.1,.bool m.2.2.2.2.1,.bool m.2.2.2.2.2.1,.int .i64 m.2.2.2.2.2.2.1,.int .i64 3,.list QQ m.2.2.2.2.2.2.2.2.1,.list RR (ofV z q.1 q.2.1),.list RR (ofV z z.1 6),.list RR (Zf z (ofV z q.1 q.2.1))]],[])) (.ret ([.agg [.int .u16 m.1,.bool m.2.1,.bool true,.bool m.2.2.2.1,.bool m.2.2.2.2.1,.bool m.2.2.2.2.2.1,.int .i64 m.2.2.2.2.2.2.1,.int .i64 m.2.2.2.2.2.2.2.1,.list QQ m.2.2.2.2.2.2.2.2.1,.list RR (ofV z q.1 q.2.1),.list RR (ofV z z.1 6),.list RR (Zf z (ofV z q.1 q.2.1))]],[]))) .no) .no)) .no) (.br (gnOk z (List.take (List.length (ndV (ofV z q.1 q.2.1))) (List.drop 0 (ndV (ofV z q.1 q.2.1)++List.replicate (List.length (ofV z q.1 q.2.1) - List.length (ndV (ofV z q.1 q.2.1))) (Ty.dflt RR))))) (.br (decide ((↑(List.length (ofV z q.1 q.2.1)):Int) > 0)) (.ret ([.agg [.int .u16 m.1,.bool m.2.1,.bool true,.bool m.2.2.2.1,.bool m.2.2.2.2.1,.bool m.2.2.2.2.2.1,.int .i64 m.2.2.2.2.2.2.1,.int .i64 m.2.2.2.2.2.2.2.1,.list QQ m.2.2.2.2.2.2.2.2.1,.list RR (ofV z q.1 q.2.1),.list RR m.2.2.2.2.2.2.2.2.2.2.1,.list RR (Zf z (List.take (List.length (ndV (ofV z q.1 q.2.1))) (List.drop 0 (ndV (ofV z q.1 q.2.1)++List.replicate (List.length (ofV z q.1 q.2.1) - List.length (ndV (ofV z q.1 q.2.1))) (Ty.dflt RR)))))]],[])) (.br (smZ z) (.br (smZ z&&smN q.1) (.br (!Q04 z q.1) (.ret ([.agg [.int .u16 m.1,.bool m.2.1,.bool true,.bool m.2.2.2.1,.bool m.2.2.2.2.1,.bool m.2.2.2.2.2.1,.int .i64 m.2.2.2.2.2.2.1,.int .i64 3,.list QQ m.2.2.2.2.2.2.2.2.1,.list RR (ofV z q.1 q.2.1),.list RR (ofV z z.1 6),.list RR (Zf z (List.take (List.length (ndV (ofV z q.1 q.2.1))) (List.drop 0 (ndV (ofV z q.1 q.2.1)++List.replicate (List.length (ofV z q.1 q.2.1) - List.length (ndV (ofV z q.1 q.2.1))) (Ty.dflt RR)))))]],[])) (.ret ([.agg [.int .u16 m.1,.bool m.2.1,.bool true,.bool m.2.2.2.1,.bool m.2.2.2.2.1,.bool m.2.2.2.2.2.1,.int .i64 m.2.2.2.2.2.2.1,.int .i64 m.2.2.2.2.2.2.2.1,.list QQ m.2.2.2.2.2.2.2.2.1,.list RR (ofV z q.1 q.2.1),.list RR (ofV z z.1 6),.list RR (Zf z (List.take (List.length (ndV (ofV z q.1 q.2.1))) (List.drop 0 (ndV (ofV z q.1 q.2.1)++List.replicate (List.length (ofV z q.1 q.2.1) - List.length (ndV (ofV z q.1 q.2.1))) (Ty.dflt RR)))))]],[]))) .no) .no)) .no)) .no) .no)) .no)) .no
def os56:OSpec:={ f:=56,sh:=[.d ZN true,.d MG true,.d QQ true],so:=[],F:=fun(z,m,q,_) _=>t56 z m q }
theorem fn56 (z:(List UInt8×List (List UInt8×(Int×(Int×(Int×List UInt8)))))) (m:(Int×(Bool×(Bool×(Bool×(Bool×(Bool×(Int×(Int×(List (List UInt8×(Int×Int))×(List (List UInt8×(Int×(Int×(Int×List UInt8))))×(List (List UInt8×(Int×(Int×(Int×List UInt8))))×List (List UInt8×(Int×(Int×(Int×List UInt8)))))))))))))))) (q:(List UInt8×(Int×Int))):evC T0 (orcB [Z44,Jk,J46,U46] [os81,Q47]) (lpOf h56 0 (lsOf [])) c56 1000000 (Z1 [AV.ofTy ZN z true,AV.ofTy MG m true,AV.ofTy QQ q true] [] Try.f56.ntmps) (J1 T0 false 0 Try.f56)=(t56 z m q).get:=by kernel_rfl
theorem ok56:os56.Ok Try.prog:=by
 refine V3 Q1 tab0 (V0 (all_cons Q4b (all_cons Z2d (all_cons Z4h (all_cons V4d Z0)))) (all_cons ok81 (all_cons ok80w Z0))) h56 (d:=0) (n0:=0) (S:=lsOf []) Try.func56 (by kernel_rfl) (c:=c56) (by kernel_rfl) rfl (Z2 (by kernel_rfl)) (by omega) (by kernel_rfl) ?_
 intro x'' y'' q'' hq''
 obtain⟨(z:(List UInt8×List (List UInt8×(Int×(Int×(Int×List UInt8)))))),(m:(Int×(Bool×(Bool×(Bool×(Bool×(Bool×(Int×(Int×(List (List UInt8×(Int×Int))×(List (List UInt8×(Int×(Int×(Int×List UInt8))))×(List (List UInt8×(Int×(Int×(Int×List UInt8))))×List (List UInt8×(Int×(Int×(Int×List UInt8)))))))))))))))),(q:(List UInt8×(Int×Int))),_⟩:=x''
 exact(fn56 z m q).trans hq''
def fs56:FSpec:=fsT 56 [(ZN,true),(MG,true),(QQ,true)] [(MG,true)] fun(z,m,q,_)=>t56 z m q
theorem okf56:fs56.Ok Try.prog:=X5 fun x'' r'' hr''=>ok56 x'' () r'' hr''
def zOk (z:ZNt):Bool:=smZ z&&(smD z.2&&Nat.ble z.2.length 1000)
theorem J3e {z:ZNt} (h:zOk z=true) {X:List RRt} (hX:X.Sublist z.2):gnOk z X=true:=by
 unfold zOk at h
 rw[Bool.and_eq_true,Bool.and_eq_true] at h
 obtain⟨h1,h2,h3⟩:=h
 have h3:=Nat.le_of_ble_eq_true h3
 have hl:=hX.length_le
 have hm:X.length * z.2.length≤1000 * 1000:=Nat.mul_le_mul (by omega) h3
 unfold gnOk
 rw[h1,Nat.ble_eq_true_of_le (by omega),Nat.ble_eq_true_of_le (by omega)]
 unfold smD at h2 ⊢
 rw[List.all_eq_true] at h2
 rw[show (X.all fun r=>bigS r.2.2.2.2)=true from List.all_eq_true.2 fun x hx=>h2 x (hX.subset hx)]
 rfl
theorem U0e (z:ZNt) (n:List UInt8) (k:Int):(ofV z n k).Sublist z.2:=List.filter_sublist
theorem X2l (l:List RRt):(ndV l).Sublist l:=List.filter_sublist
def anV (z:ZNt) (q:QQt):List RRt:=bif ((ofV z q.1 q.2.1).length:Int)==0 then ofV z q.1 5 else ofV z q.1 q.2.1
theorem Q2n (z:ZNt) (q:QQt):(anV z q).Sublist z.2:=by
 unfold anV
 cases ((ofV z q.1 q.2.1).length:Int)==0
 ·exact U0e _ _ _
 ·exact U0e _ _ _
def Ue (z:ZNt) (m:MGt) (q:QQt):MGt:=
 bif (cutV z q.1).2 then (m.1,m.2.1,m.2.2.1,m.2.2.2.1,m.2.2.2.2.1,m.2.2.2.2.2.1,m.2.2.2.2.2.2.1,m.2.2.2.2.2.2.2.1,m.2.2.2.2.2.2.2.2.1,m.2.2.2.2.2.2.2.2.2.1,ofV z (cutV z q.1).1 2,Zf z (ofV z (cutV z q.1).1 2))
 else bif decide (((anV z q).length:Int) > 0) then (m.1,m.2.1,true,m.2.2.2.1,m.2.2.2.2.1,m.2.2.2.2.2.1,m.2.2.2.2.2.2.1,m.2.2.2.2.2.2.2.1,m.2.2.2.2.2.2.2.2.1,anV z q,m.2.2.2.2.2.2.2.2.2.2.1,Zf z (ndV (anV z q)))
 else (m.1,m.2.1,true,m.2.2.2.1,m.2.2.2.2.1,m.2.2.2.2.2.1,m.2.2.2.2.2.2.1,(bif Q04 z q.1 then m.2.2.2.2.2.2.2.1 else 3),m.2.2.2.2.2.2.2.2.1,anV z q,ofV z z.1 6,Zf z (ndV (anV z q)))
def mgA (m:MGt):AV:=.agg [.int .u16 m.1,.bool m.2.1,.bool m.2.2.1,.bool m.2.2.2.1,.bool m.2.2.2.2.1,.bool m.2.2.2.2.2.1,.int .i64 m.2.2.2.2.2.2.1,.int .i64 m.2.2.2.2.2.2.2.1,.list QQ m.2.2.2.2.2.2.2.2.1,.list RR m.2.2.2.2.2.2.2.2.2.1,.list RR m.2.2.2.2.2.2.2.2.2.2.1,.list RR m.2.2.2.2.2.2.2.2.2.2.2]
theorem Q43 {b:Bool} (h:(!b)=true):b=false:=by cases b;rfl;cases h
theorem J49 {b:Bool} (h:(!b)=false):b=true:=by cases b;cases h;rfl
theorem V3w (l w:List RRt):List.take (ndV l).length (List.drop 0 (ndV l++w))=ndV l:=by rw[List.drop_zero,List.take_left]
set_option maxHeartbeats 1000000 in
theorem U33 (z:ZNt) (m:MGt) (q:QQt) (hz:zOk z=true) (hq:smN q.1=true):Tr.all (fun r:Res=>r=([mgA (Ue z m q)],[])) (t56 z m q):=by
 have h1:smZ z=true:=by unfold zOk at hz;rw[Bool.and_eq_true] at hz;exact hz.1
 have h1000:z.2.length≤1000:=by
  unfold zOk at hz
  rw[Bool.and_eq_true,Bool.and_eq_true] at hz
  exact Nat.le_of_ble_eq_true hz.2.2
 have h2:(smZ z&&smN q.1)=true:=by rw[h1,hq];rfl
 have hgo:∀ n k,gnOk z (ofV z n k)=true:=fun n k=>J3e hz (U0e _ _ _)
 have hgn:∀ n k,gnOk z (ndV (ofV z n k))=true:=fun n k=>J3e hz ((X2l _).trans (U0e _ _ _))
 have hlen:∀ n k,(ofV z n k).length≤1000:=fun n k=>by have:=X1x z n k;omega
 have hlr:∀ n k,lrB (ofV z n k)=true:=fun n k=>Nat.ble_eq_true_of_le (by have:=hlen n k;omega)
 have hfit:∀ n k,fits (ofV z n k).length 40=true:=fun n k=>Zh (by have:=hlen n k;omega) (by have:=hlen n k;omega)
 have hnd:∀ l:List RRt,(fnL l 0 == -1)=true→ndV l=l:=fun l hl=>by
  have hl:=beq_iff_eq.1 hl
  rcases Q18 l 0 with ⟨_,h⟩ | ⟨j,_,h,_⟩
  ·exact h
  ·omega
 unfold t56
 simp only[V3w]
 refine Tr.all_t h2 (Tr.all_br (fun hc=>Tr.all_t h1 (Tr.all_t (hgo _ _) (Tr.all_ret ?_))) fun hc=>Tr.all_t h1 (Tr.all_br (fun he=>Tr.all_t h1 ?_) fun he=>?_))
 ·unfold Ue;rw[hc];rfl
 ·have ha:anV z q=ofV z q.1 5:=by unfold anV;rw[he];rfl
  unfold Ue
  rw[hc,cond_false,ha]
  refine Tr.all_t (hfit _ _) (Tr.all_t (hlr _ _) (Tr.all_br (fun hf=>Tr.all_t (hgo _ _) (Tr.all_br (fun hp=>Tr.all_ret ?_) fun hp=>Tr.all_t h1 (Tr.all_t h2 (Tr.all_br (fun ht=>Tr.all_ret ?_) fun ht=>Tr.all_ret ?_)))) fun hf=>Tr.all_t (hgn _ _) (Tr.all_br (fun hp=>Tr.all_ret ?_) fun hp=>Tr.all_t h1 (Tr.all_t h2 (Tr.all_br (fun ht=>Tr.all_ret ?_) fun ht=>Tr.all_ret ?_)))))
  all_goals rw[hp]
  all_goals try rw[hnd _ hf]
  all_goals try rw[Q43 ht]
  all_goals try rw[J49 ht]
  all_goals rfl
 ·have ha:anV z q=ofV z q.1 q.2.1:=by unfold anV;rw[he];rfl
  unfold Ue
  rw[hc,cond_false,ha]
  refine Tr.all_t (hfit _ _) (Tr.all_t (hlr _ _) (Tr.all_br (fun hf=>Tr.all_t (hgo _ _) (Tr.all_br (fun hp=>Tr.all_ret ?_) fun hp=>Tr.all_t h1 (Tr.all_t h2 (Tr.all_br (fun ht=>Tr.all_ret ?_) fun ht=>Tr.all_ret ?_)))) fun hf=>Tr.all_t (hgn _ _) (Tr.all_br (fun hp=>Tr.all_ret ?_) fun hp=>Tr.all_t h1 (Tr.all_t h2 (Tr.all_br (fun ht=>Tr.all_ret ?_) fun ht=>Tr.all_ret ?_)))))
  all_goals rw[hp]
  all_goals try rw[hnd _ hf]
  all_goals try rw[Q43 ht]
  all_goals try rw[J49 ht]
  all_goals rfl
def U43:FSpec:=fs56.like fun(z,m,q,_)=>.on (zOk z&&smN q.1) (Ue z m q,())
theorem V4h:U43.Ok Try.prog:=by
 refine J3 okf56 _ ?_
 rintro⟨(z:ZNt),(m:MGt),(q:QQt),_⟩ y h
 obtain⟨hb,rfl⟩:=Tr.get_on h
 obtain⟨hz,hq⟩:=Bool.and_eq_true_iff.1 (show (zOk z&&smN q.1)=true from hb)
 exact J2 (vs:=[mgA (Ue z m q)]) rfl rfl (Tr.get_of_all (U33 z m q hz hq))
def qAt (m:MGt):QQt:=m.2.2.2.2.2.2.2.2.1.getD 0 (Ty.dflt QQ)
def repV (m:MGt) (rc:Int):MGt:=(m.1,true,false,false,m.2.2.2.2.1,false,m.2.2.2.2.2.2.1,rc,m.2.2.2.2.2.2.2.2.1,[],[],[])
def ansV (l:List ZNt) (m:MGt):MGt:=
 bif (m.2.2.2.2.2.2.2.2.1.length:Int) != 1 then repV m 1
 else bif m.2.2.2.2.2.2.1 != 0 then repV m 4
 else bif decide (V5 l (qAt m).1 < 0)||(qAt m).2.2 != 1 then repV m 5
 else Ue (l.getD (V5 l (qAt m).1).toNat (Ty.dflt ZN)) (repV m 0) (qAt m)
def zsOk (l:List ZNt):Bool:=(l.all zOk)&&Nat.ble l.length 1000
theorem Z3f {l:List ZNt} (h:zsOk l=true):smL l=true:=by
 unfold zsOk at h
 rw[Bool.and_eq_true,List.all_eq_true] at h
 have:=Nat.le_of_ble_eq_true h.2
 unfold smL
 rw[Nat.ble_eq_true_of_le (by omega),Bool.true_and,List.all_eq_true]
 intro z hz
 have h1:=h.1 z hz
 unfold zOk smZ at h1
 rw[Bool.and_eq_true,Bool.and_eq_true] at h1
 exact h1.1.1
theorem X35 {l:List ZNt} (h:zsOk l=true) {k:Nat} (hk:k < l.length) (d:ZNt):zOk (l.getD k d)=true:=by
 unfold zsOk at h
 rw[Bool.and_eq_true,List.all_eq_true] at h
 exact h.1 _ (V32 hk d)
theorem V37 (l:List ZNt) (n:List UInt8) (h:¬ V5 l n < 0):0≤V5 l n∧V5 l n < l.length:=by
 rcases Q0t l n l.length with ⟨e,_⟩ | ⟨h1,h2,_⟩
 ·unfold V5 at h;omega
 ·exact⟨h1,h2⟩
def t28 (l:List (List UInt8×List (List UInt8×(Int×(Int×(Int×List UInt8)))))) (m:(Int×(Bool×(Bool×(Bool×(Bool×(Bool×(Int×(Int×(List (List UInt8×(Int×Int))×(List (List UInt8×(Int×(Int×(Int×List UInt8))))×(List (List UInt8×(Int×(Int×(Int×List UInt8))))×List (List UInt8×(Int×(Int×(Int×List UInt8)))))))))))))))):Tr Res:=.br ((↑m.2.2.2.2.2.2.2.2.1.length:Int) != 1) (.ret ([.agg [.int .u16 m.1,.bool true,.bool false,.bool false,.bool m.2.2.2.2.1,.bool false,.int .i64 m.2.2.2.2.2.2.1,.int .i64 1,.list QQ m.2.2.2.2.2.2.2.2.1,.list RR [],.list RR [],.list RR []]],[])) (.br (m.2.2.2.2.2.2.1 != 0) (.ret ([.agg [.int .u16 m.1,.bool true,.bool false,.bool false,.bool m.2.2.2.2.1,.bool false,.int .i64 m.2.2.2.2.2.2.1,.int .i64 4,.list QQ m.2.2.2.2.2.2.2.2.1,.list RR [],.list RR [],.list RR []]],[])) (.br (decide (0 < (↑m.2.2.2.2.2.2.2.2.1.length:Int))) (.br (smL l&&smN (List.getD m.2.2.2.2.2.2.2.2.1 (Int.toNat 0) (Ty.dflt QQ)).1) (.br (decide (V5 l (List.getD m.2.2.2.2.2.2.2.2.1 (Int.toNat 0) (Ty.dflt QQ)).1 < 0)) (.ret ([.agg [.int .u16 m.1,.bool true,.bool false,.bool false,.bool m.2.2.2.2.1,.bool false,.int .i64 m.2.2.2.2.2.2.1,.int .i64 5,.list QQ m.2.2.2.2.2.2.2.2.1,.list RR [],.list RR [],.list RR []]],[])) (.br ((List.getD m.2.2.2.2.2.2.2.2.1 (Int.toNat 0) (Ty.dflt QQ)).2.2 != 1) (.ret ([.agg [.int .u16 m.1,.bool true,.bool false,.bool false,.bool m.2.2.2.2.1,.bool false,.int .i64 m.2.2.2.2.2.2.1,.int .i64 5,.list QQ m.2.2.2.2.2.2.2.2.1,.list RR [],.list RR [],.list RR []]],[])) (.br (decide (0≤V5 l (List.getD m.2.2.2.2.2.2.2.2.1 (Int.toNat 0) (Ty.dflt QQ)).1)) (.br (decide (V5 l (List.getD m.2.2.2.2.2.2.2.2.1 (Int.toNat 0) (Ty.dflt QQ)).1 < (↑l.length:Int))) (.br (zOk (l.getD (Int.toNat (V5 l (List.getD m.2.2.2.2.2.2.2.2.1 (Int.toNat 0) (Ty.dflt QQ)).1)) (Ty.dflt ZN))&&smN (List.getD m.2.2.2.2.2.2.2.2.1 (Int.toNat 0) (Ty.dflt QQ)).1) (.ret ([.agg [.int .u16 (Ue (l.getD (Int.toNat (V5 l (List.getD m.2.2.2.2.2.2.2.2.1 (Int.toNat 0) (Ty.dflt QQ)).1)) (Ty.dflt ZN)) (m.1,true,false,false,m.2.2.2.2.1,false,m.2.2.2.2.2.2.1,0,m.2.2.2.2.2.2.2.2.1,[],[],[]) (List.getD m.2.2.2.2.2.2.2.2.1 (Int.toNat 0) (Ty.dflt QQ))).1,.bool (Ue (l.getD (Int.toNat (V5 l (List.getD m.2.2.2.2.2.2.2.2.1 (Int.toNat 0) (Ty.dflt QQ)).1)) (Ty.dflt ZN)) (m.1,true,false,false,m.2.2.2.2.1,false,m.2.2.2.2.2.2.1,0,m.2.2.2.2.2.2.2.2.1,[],[],[]) (List.getD m.2.2.2.2.2.2.2.2.1 (Int.toNat 0) (Ty.dflt QQ))).2.1,.bool (Ue (l.getD (Int.toNat (V5 l (List.getD m.2.2.2.2.2.2.2.2.1 (Int.toNat 0) (Ty.dflt QQ)).1)) (Ty.dflt ZN)) (m.1,true,false,false,m.2.2.2.2.1,false,m.2.2.2.2.2.2.1,0,m.2.2.2.2.2.2.2.2.1,[],[],[]) (List.getD m.2.2.2.2.2.2.2.2.1 (Int.toNat 0) (Ty.dflt QQ))).2.2.1,.bool (Ue (l.getD (Int.toNat (V5 l (List.getD m.2.2.2.2.2.2.2.2.1 (Int.toNat 0) (Ty.dflt QQ)).1)) (Ty.dflt ZN)) (m.1,true,false,false,m.2.2.2.2.1,false,m.2.2.2.2.2.2.1,0,m.2.2.2.2.2.2.2.2.1,[],[],[]) (List.getD m.2.2.2.2.2.2.2.2.1 (Int.toNat 0) (Ty.dflt QQ))).2.2.2.1,.bool (Ue (l.getD (Int.toNat (V5 l (List.getD m.2.2.2.2.2.2.2.2.1 (Int.toNat 0) (Ty.dflt QQ)).1)) (Ty.dflt ZN)) (m.1,true,false,false,m.2.2.2.2.1,false,m.2.2.2.2.2.2.1,0,m.2.2.2.2.2.2.2.2.1,[],[],[]) (List.getD m.2.2.2.2.2.2.2.2.1 (Int.toNat 0) (Ty.dflt QQ))).2.2.2.2.1,.bool (Ue (l.getD (Int.toNat (V5 l (List.getD m.2.2.2.2.2.2.2.2.1 (Int.toNat 0) (Ty.dflt QQ)).1)) (Ty.dflt ZN)) (m.1,true,false,false,m.2.2.2.2.1,false,m.2.2.2.2.2.2.1,0,m.2.2.2.2.2.2.2.2.1,[],[],[]) (List.getD m.2.2.2.2.2.2.2.2.1 (Int.toNat 0) (Ty.dflt QQ))).2.2.2.2.2.1,.int .i64 (Ue (l.getD (Int.toNat (V5 l (List.getD m.2.2.2.2.2.2.2.2.1 (Int.toNat 0) (Ty.dflt QQ)).1)) (Ty.dflt ZN)) (m.1,true,false,false,m.2.2.2.2.1,false,m.2.2.2.2.2.2.1,0,m.2.2.2.2.2.2.2.2.1,[],[],[]) (List.getD m.2.2.2.2.2.2.2.2.1 (Int.toNat 0) (Ty.dflt QQ))).2.2.2.2.2.2.1,.int .i64 (Ue (l.getD (Int.toNat (V5 l (List.getD m.2.2.2.2.2.2.2.2.1 (Int.toNat 0) (Ty.dflt QQ)).1)) (Ty.dflt ZN)) (m.1,true,false,false,m.2.2.2.2.1,false,m.2.2.2.2.2.2.1,0,m.2.2.2.2.2.2.2.2.1,[],[],[]) (List.getD m.2.2.2.2.2.2.2.2.1 (Int.toNat 0) (Ty.dflt QQ))).2.2.2.2.2.2.2.1,.list QQ (Ue (l.getD (Int.toNat (V5 l (List.getD m.2.2.2.2.2.2.2.2.1 (Int.toNat 0) (Ty.dflt QQ)).1)) (Ty.dflt ZN)) (m.1,true,false,false,m.2.2.2.2.1,false,m.2.2.2.2.2.2.1,0,m.2.2.2.2.2.2.2.2.1,[],[],[]) (List.getD m.2.2.2.2.2.2.2.2.1 (Int.toNat 0) (Ty.dflt QQ))).2.2.2.2.2.2.2.2.1,.list RR (Ue (l.getD (Int.toNat (V5 l (List.getD m.2.2.2.2.2.2.2.2.1 (Int.toNat 0) (Ty.dflt QQ)).1)) (Ty.dflt ZN)) (m.1,true,false,false,m.2.2.2.2.1,false,m.2.2.2.2.2.2.1,0,m.2.2.2.2.2.2.2.2.1,[],[],[]) (List.getD m.2.2.2.2.2.2.2.2.1 (Int.toNat 0) (Ty.dflt QQ))).2.2.2.2.2.2.2.2.2.1,.list RR (Ue (l.getD (Int.toNat (V5 l (List.getD m.2.2.2.2.2.2.2.2.1 (Int.toNat 0) (Ty.dflt QQ)).1)) (Ty.dflt ZN)) (m.1,true,false,false,m.2.2.2.2.1,false,m.2.2.2.2.2.2.1,0,m.2.2.2.2.2.2.2.2.1,[],[],[]) (List.getD m.2.2.2.2.2.2.2.2.1 (Int.toNat 0) (Ty.dflt QQ))).2.2.2.2.2.2.2.2.2.2.1,.list RR (Ue (l.getD (Int.toNat (V5 l (List.getD m.2.2.2.2.2.2.2.2.1 (Int.toNat 0) (Ty.dflt QQ)).1)) (Ty.dflt ZN)) (m.1,true,false,false,m.2.2.2.2.1,false,m.2.2.2.2.2.2.1,0,m.2.2.2.2.2.2.2.2.1,[],[],[]) (List.getD m.2.2.2.2.2.2.2.2.1 (Int.toNat 0) (Ty.dflt QQ))).2.2.2.2.2.2.2.2.2.2.2]],[])) .no) .no) .no))) .no) .no))
def os28:OSpec:={ f:=28,sh:=[.d (.list ZN) false,.d MG true],so:=[],F:=fun(l,m,_) _=>t28 l m }
theorem fn28 (l:List (List UInt8×List (List UInt8×(Int×(Int×(Int×List UInt8)))))) (m:(Int×(Bool×(Bool×(Bool×(Bool×(Bool×(Int×(Int×(List (List UInt8×(Int×Int))×(List (List UInt8×(Int×(Int×(Int×List UInt8))))×(List (List UInt8×(Int×(Int×(Int×List UInt8))))×List (List UInt8×(Int×(Int×(Int×List UInt8)))))))))))))))):evC T0 (orcB [fs55,Jn,U43] []) (lpOf h28 0 (lsOf [])) c28 1000000 (Z1 [.list ZN l,AV.ofTy MG m true] [] Try.f28.ntmps) (J1 T0 false 0 Try.f28)=(t28 l m).get:=by kernel_rfl
theorem ok28:os28.Ok Try.prog:=by
 refine V3 Q1 tab0 (V0 (all_cons okf55 (all_cons X3d (all_cons V4h Z0))) Z0) h28 (d:=0) (n0:=0) (S:=lsOf []) Try.func28 (by kernel_rfl) (c:=c28) (by kernel_rfl) rfl (Z2 (by kernel_rfl)) (by omega) (by kernel_rfl) ?_
 intro x'' y'' q'' hq''
 obtain⟨(l:List (List UInt8×List (List UInt8×(Int×(Int×(Int×List UInt8)))))),(m:(Int×(Bool×(Bool×(Bool×(Bool×(Bool×(Int×(Int×(List (List UInt8×(Int×Int))×(List (List UInt8×(Int×(Int×(Int×List UInt8))))×(List (List UInt8×(Int×(Int×(Int×List UInt8))))×List (List UInt8×(Int×(Int×(Int×List UInt8)))))))))))))))),_⟩:=x''
 exact(fn28 l m).trans hq''
def fs28:FSpec:=fsT 28 [((.list ZN),false),(MG,true)] [(MG,true)] fun(l,m,_)=>t28 l m
theorem okf28:fs28.Ok Try.prog:=X5 fun x'' r'' hr''=>ok28 x'' () r'' hr''
theorem Z3u (l:List ZNt) (m:MGt) (hl:zsOk l=true) (hq:smN (qAt m).1=true):Tr.all (fun r:Res=>r=([mgA (ansV l m)],[])) (t28 l m):=by
 unfold t28 ansV
 have hqq:(Prod.fst (Prod.snd (Prod.snd (Prod.snd (Prod.snd (Prod.snd (Prod.snd (Prod.snd (Prod.snd m)))))))) ).getD (Int.toNat (0:Int)) (Ty.dflt QQ)=qAt m:=rfl
 rw[hqq]
 refine Tr.all_br (fun h1=>Tr.all_ret (by rw[h1];rfl)) fun h1=>?_
 rw[h1,cond_false]
 have hl1:m.2.2.2.2.2.2.2.2.1.length=1:=by
  have:((m.2.2.2.2.2.2.2.2.1.length:Int) != 1)=false:=h1
  simp at this
  omega
 refine Tr.all_br (fun h2=>Tr.all_ret (by rw[h2];rfl)) fun h2=>Tr.all_t (J0 (by omega)) (Tr.all_t (by rw[Z3f hl,hq];rfl) ?_)
 rw[h2,cond_false]
 refine Tr.all_br (fun h3=>Tr.all_ret (by rw[h3];rfl)) fun h3=>Tr.all_br (fun h4=>Tr.all_ret (by rw[h4,h3];rfl)) fun h4=>?_
 obtain⟨b1,b2⟩:=V37 l (qAt m).1 (of_decide_eq_false h3)
 refine Tr.all_t (J0 b1) (Tr.all_t (J0 b2) (Tr.all_t (by rw[X35 hl (by omega),hq];rfl) (Tr.all_ret ?_)))
 rw[h3,h4]
 rfl
def Vo:FSpec:=fs28.like fun(l,m,_)=>.on (zsOk l&&smN (qAt m).1) (ansV l m,())
theorem X4f:Vo.Ok Try.prog:=by
 refine J3 okf28 _ ?_
 rintro⟨(l:List ZNt),(m:MGt),_⟩ y h
 obtain⟨hb,rfl⟩:=Tr.get_on h
 obtain⟨hz,hq⟩:=Bool.and_eq_true_iff.1 (show (zsOk l&&smN (qAt m).1)=true from hb)
 exact J2 (vs:=[mgA (ansV l m)]) rfl rfl (Tr.get_of_all (Z3u l m hz hq))
theorem Q30 {rs:List RRt}:Uf rs=true↔∀ r∈rs,r.1.length≤300∧r.2.2.2.2.length≤300:=by
 unfold Uf
 rw[List.all_eq_true]
 exact forall_congr' fun r=>forall_congr' fun _=>by rw[Bool.and_eq_true,decide_eq_true_eq,decide_eq_true_eq]
theorem V2v {z:ZNt}:Vn z=true↔z.2.length≤40∧z.1.length≤300∧Uf z.2=true:=by
 unfold Vn
 rw[Bool.and_eq_true,Bool.and_eq_true,decide_eq_true_eq,decide_eq_true_eq]
theorem U3k {z:ZNt} (h:Vn z=true):zOk z=true:=by
 obtain⟨h1,h2,h3⟩:=V2v.1 h
 have h3:=Q30.1 h3
 unfold zOk smZ smR smD
 rw[Jx.2 (by omega),Nat.ble_eq_true_of_le (show z.2.length≤1000000 by omega),Nat.ble_eq_true_of_le (show z.2.length≤1000 by omega)]
 rw[show (z.2.all fun r=>smN r.1)=true from List.all_eq_true.2 fun r hr=>Jx.2 (by have:=(h3 r hr).1;omega)]
 rw[show (z.2.all fun r=>bigS r.2.2.2.2)=true from List.all_eq_true.2 fun r hr=>Ql (by have:=(h3 r hr).2;omega)]
 rfl
theorem Q4e {l:List ZNt} (h:fewZ l=true):zsOk l=true:=by
 obtain⟨h1,h2⟩:=J3o.1 h
 unfold zsOk
 rw[show l.all zOk=true from List.all_eq_true.2 fun z hz=>U3k (h2 z hz),Nat.ble_eq_true_of_le (by omega)]
 rfl
theorem U3g {l:List RRt} {r:RRt}:hasV l r=true↔r∈l:=by
 unfold hasV
 rw[List.any_eq_true]
 constructor
 ·rintro⟨x,h1,h2⟩
  rw[←of_decide_eq_true h2];exact h1
 ·intro h
  exact⟨r,h,decide_eq_true rfl⟩
theorem J0k:∀ (xs l:List RRt),(∃ t,addV l xs=l++t)∧(∀ r∈addV l xs,r∈l∨r∈xs)∧(l.Nodup→(addV l xs).Nodup)
 | [],l=>⟨⟨[],by simp[addV]⟩,fun r h=>.inl h,fun h=>h⟩
 | a::xs,l=>by
   rw[addV]
   by_cases h:hasV l a=true
   ·rw[if_pos h]
    obtain⟨h1,h2,h3⟩:=J0k xs l
    exact⟨h1,fun r hr=>(h2 r hr).imp id fun h=>List.mem_cons_of_mem _ h,h3⟩
   ·rw[if_neg h]
    obtain⟨⟨t,h1⟩,h2,h3⟩:=J0k xs (l++[a])
    refine⟨⟨[a]++t,by rw[h1,List.append_assoc]⟩,fun r hr=>?_,fun hl=>h3 ?_⟩
    ·rcases h2 r hr with h | h
     ·rcases List.mem_append.1 h with h | h
      ·exact .inl h
      ·rw[List.mem_singleton.1 h];exact .inr (by simp)
     ·exact .inr (List.mem_cons_of_mem _ h)
    ·rw[List.nodup_append]
     refine⟨hl,by simp,fun x hx y hy e=>?_⟩
     rw[List.mem_singleton.1 hy] at e
     exact h (U3g.2 (e▸hx))
def okG (z:ZNt) (r:RRt):Prop:=r∈z.2∧r.2.1=1∧undV r.1 z.1=true
theorem U2q {z:ZNt} {n:List UInt8} {k:Int} {r:RRt}:r∈ofV z n k↔r∈z.2∧undV r.1 z.1=true∧r.1=n∧r.2.1=k:=by
 unfold ofV ownV isOf
 rw[List.mem_filter,Bool.and_eq_true,Bool.and_eq_true,beq_iff_eq,beq_iff_eq]
theorem V28 (z:ZNt) (l:List RRt) (r:RRt):(∃ t,U06 z l r=l++t)∧(∀ x∈U06 z l r,x∈l∨okG z x)∧(l.Nodup→(U06 z l r).Nodup):=by
 unfold U06
 split
 ·rename_i n _
  obtain⟨h1,h2,h3⟩:=J0k (ofV z n 1) l
  exact⟨h1,fun x hx=>(h2 x hx).imp id fun h=>by obtain⟨a,b,c,d⟩:=U2q.1 h;exact⟨a,d,b⟩,h3⟩
 ·exact⟨⟨[],by simp⟩,fun x hx=>.inl hx,fun h=>h⟩
theorem J0w (z:ZNt):∀ (ns l:List RRt),(∃ t,X06 z l ns=l++t)∧(∀ x∈X06 z l ns,x∈l∨okG z x)∧(l.Nodup→(X06 z l ns).Nodup)
 | [],l=>⟨⟨[],by simp[X06]⟩,fun x hx=>.inl hx,fun h=>h⟩
 | r::ns,l=>by
   obtain⟨⟨t,a1⟩,a2,a3⟩:=V28 z l r
   obtain⟨⟨u,b1⟩,b2,b3⟩:=J0w z ns (U06 z l r)
   rw[X06]
   refine⟨⟨t++u,by rw[b1,a1,List.append_assoc]⟩,fun x hx=>?_,fun h=>b3 (a3 h)⟩
   rcases b2 x hx with h | h
   ·exact a2 x h
   ·exact .inr h
theorem Q2q {z:ZNt} {ns:List RRt}:(Zf z ns).length≤ns.length * z.2.length:=by
 have:∀ (ns l:List RRt),(X06 z l ns).length≤l.length+ns.length * z.2.length:=by
  intro ns
  induction ns with
  | nil=>intro l;simp[X06]
  | cons r ns ih=>
    intro l
    have h1:=ih (U06 z l r)
    have h2:=Z1i z l r
    rw[X06,List.length_cons,Nat.add_mul,Nat.one_mul]
    omega
 have:=this ns []
 rw[List.length_nil,Nat.zero_add] at this
 exact this
end Go.Proofs.YtkobjdhbfepkaaaE
