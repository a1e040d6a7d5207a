import Derived.Test.YtkobjdhbfepkaaaPAcceptMore3
import Derived.RangeFuncBox
import Derived.RangeFuncLeaves
import Derived.RangeFuncNested
import Derived.RangeFuncBound
import Derived.RangeFuncCalls
import Derived.Shelf.Abstract
import Derived.Shelf.RegionOpen
import Derived.WalkKit
import Derived.OwnWalkIn
import Derived.TacticsInMore
import Derived.LoopNIn
import Derived.LoopIn
import Derived.Maps.AppendAt
import Derived.Shelf.RegionOpenPlain
import Derived.Lib.Strings
import Derived.Lib.Slices
import Derived.Lib.Walk
import Derived.Lib.Builder
import Derived.Lib.UnsafeStr
import Derived.Laws.Externs
set_option maxRecDepth 1000000
namespace Go.Proofs.YtkobjdhbfepkaaaE
open Go
set_option linter.unusedVariables false
set_option linter.unusedSimpArgs false
def lowI (c:Int):Int:=bif decide (c≥65)&&decide (c≤90) then c+32 else c
def lowB (c:UInt8):UInt8:=bif decide (c.toNat≥65)&&decide (c.toNat≤90) then UInt8.ofNat (c.toNat+32) else c
def Ju (s:List UInt8):List UInt8:=s.map lowB
def Q1m (b:List Int):Bool:=b.all fun x=>decide (0≤x)&&decide (x≤255)
theorem Q1t {b:List Int} (h:Q1m b=true) (i:Nat):0≤b.getD i 0∧b.getD i 0≤255:=by
 rw[List.getD_eq_getElem?_getD]
 cases hx:b[i]? with
 | none=>simp
 | some x=>
   have:=List.all_eq_true.1 h x (List.mem_of_getElem? hx)
   simpa using this
theorem Q32 {α:Type} (l:List α) (i:Nat) (dd:α) (h:i < l.length):l.set i (l.getD i dd)=l:=by
 rw[List.getD_eq_getElem?_getD,List.getElem?_eq_getElem h]
 exact List.set_getElem_self h
theorem V3c {n:Int} (h0:0≤n) (h1:n≤255):IntKind.wrap .u8 n=n:=by
 rw[IntKind.wrap]
 simp[IntKind.bits,IntKind.signed]
 omega
def fdC (n i:Int) (b:List Int):Bool:=decide (i=0)&&decide (n=b.length)&&Q1m b&&decide (b.length≤1000000000000)
noncomputable def b73:Code:=Z7 c73 0
def ls73:LoopSpec:={ bid:=0,sh:=[.row 0,.row 0,.d (.int .i64) false,.d (.int .i64) false],so:=[.row (.int .u8)],F:=fun(n,i,_) (b,_)=>.on (fdC n i b) (.exit 0,[.rowA 0],[.row (.int .u8) (b.map lowI)]) }
def r73 (n i:Int) (b:List Int):Tr (St⊕(Ex×St)):=.br (decide (i < n)) (.br (decide (0≤i)) (.br (decide (i < (↑b.length:Int))) (.br (decide (b.getD i.toNat (Ty.dflt (Ty.int .u8))≥65)) (.br (decide (b.getD i.toNat (Ty.dflt (Ty.int .u8))≤90)) (.br (decide (0≤i)) (.br (decide (i < (↑b.length:Int))) (.ret (.inl (stOf [3,8,9,10] [.rowA 0,.rowA 0,.int .i64 n,.int .i64 (IntKind.wrap .i64 (i+1))] [.row (.int .u8) (List.set b i.toNat (IntKind.wrap .u8 (b.getD i.toNat (Ty.dflt (Ty.int .u8))+32)))]))) .no) .no) (.ret (.inl (stOf [3,8,9,10] [.rowA 0,.rowA 0,.int .i64 n,.int .i64 (IntKind.wrap .i64 (i+1))] [.row (.int .u8) b])))) (.ret (.inl (stOf [3,8,9,10] [.rowA 0,.rowA 0,.int .i64 n,.int .i64 (IntKind.wrap .i64 (i+1))] [.row (.int .u8) b])))) .no) .no) (.ret (.inr (.exit 0,stOf [3] [.rowA 0] [.row (.int .u8) b])))
theorem U35 (orc:Orc) (lp:Lp) (n i:Int) (b:List Int):evC T0 orc lp b73 0 (stOf [3,8,9,10] [.rowA 0,.rowA 0,.int .i64 n,.int .i64 i] [.row (.int .u8) b]) (X1 [3,8,9,10] [3] 0)=(r73 n i b).get:=by kernel_rfl
theorem wf73 (orc:Orc) (n:Int) (I'':Int→List Int→Prop) (m'':Int→List Int→Nat) (r'':Ex×St) (h:∀ (i:Int) (b:List Int),I'' i b→(r73 n i b).all fun x''=>x''=.inr r''∨∃ (i':Int) (b':List Int),x''=.inl (stOf [3,8,9,10] [.rowA 0,.rowA 0,.int .i64 n,.int .i64 i'] [.row (.int .u8) b'])∧I'' i' b'∧m'' i' b' < m'' i b) (lp:Lp) (i:Int) (b:List Int):I'' i b→
    Q3 (fun st=>evC T0 orc lp b73 0 st (X1 [3,8,9,10] [3] 0)) (stOf [3,8,9,10] [.rowA 0,.rowA 0,.int .i64 n,.int .i64 i] [.row (.int .u8) b])=some r'':=
 V8 (fun a'':Int×List Int=>stOf [3,8,9,10] [.rowA 0,.rowA 0,.int .i64 n,.int .i64 a''.1] [.row (.int .u8) a''.2]) (fun a''=>I'' a''.1 a''.2) (fun a''=>m'' a''.1 a''.2) r'' (fun a''=>r73 n a''.1 a''.2)
  (fun a'' x hx=>(U35 orc lp n a''.1 a''.2).trans hx) (fun a'' ha=>Tr.all_mono (fun x'' hx=>hx.imp id fun⟨i',b',h1,h2,h3⟩=>⟨(i',b'),h1,h2,h3⟩) (h (a''.1) (a''.2) ha)) (i,b)
def fdI (b0:List Int) (i:Int) (b:List Int):Prop:=0≤i∧i≤b0.length∧b=(b0.take i.toNat).map lowI++b0.drop i.toNat
theorem V2b {b0:List Int} {i:Nat} (hi:i < b0.length):((b0.take i).map lowI++b0.drop i).set i (lowI (b0.getD i 0))=(b0.take (i+1)).map lowI++b0.drop (i+1):=by
 have hl:((b0.take i).map lowI).length=i:=by simp;omega
 rw[List.set_append_right _ _ (by omega),hl,Nat.sub_self,X2w b0 i 0 hi,List.set_cons_zero,List.take_add_one,List.map_append,List.append_assoc]
 rw[List.getD_eq_getElem?_getD,List.getElem?_eq_getElem hi]
 rfl
theorem J2r {b0:List Int} {i:Nat} (hi:i < b0.length) (dd:Int):((b0.take i).map lowI++b0.drop i).getD i dd=b0.getD i 0:=by
 have hl:((b0.take i).map lowI).length=i:=by simp;omega
 rw[List.getD_eq_getElem?_getD,List.getElem?_append_right (by omega),hl,Nat.sub_self,List.getElem?_drop,List.getD_eq_getElem?_getD,Nat.add_zero,List.getElem?_eq_getElem hi]
 rfl
theorem Z3l (orc:Orc):ls73.Ok T0 orc h73 0 0 b73:=by
 intro q'' hq'' x'' y'' r'' h
 obtain⟨(n:Int),(i:Int),_⟩:=x''
 obtain⟨(b:List Int),_⟩:=y''
 obtain⟨hc,rfl⟩:=Tr.get_on h
 show Q3 (fun st=>evC T0 orc (lpN T0 orc h73 0 q'') b73 0 st (X1 [3,8,9,10] [3] 0)) (stOf [3,8,9,10] [.rowA 0,.rowA 0,.int .i64 n,.int .i64 i] [.row (.int .u8) b])=some (.exit 0,stOf [3] ([.rowA 0]) ([.row (.int .u8) (b.map lowI)]))
 simp only[fdC,Bool.and_eq_true,decide_eq_true_eq] at hc
 obtain⟨⟨⟨rfl,rfl⟩,hok⟩,hb⟩:=hc
 refine wf73 _ b.length (fdI b) (fun i _=>(b.length - i).toNat) _ ?_ _ 0 b ⟨by omega,by omega,by simp⟩
 rintro i c ⟨h0,h1,rfl⟩
 unfold r73
 by_cases hlt:i < b.length
 ·have hn:i.toNat < b.length:=by omega
  have hlen:(i:Int) < (((b.take i.toNat).map lowI++b.drop i.toNat).length:Int):=by simp;omega
  have e1:(i+1).toNat=i.toNat+1:=by omega
  obtain⟨g0,g1⟩:=Q1t hok i.toNat
  rw[J2r hn]
  refine Tr.all_t (J0 hlt) (Tr.all_t (J0 h0) (Tr.all_t (J0 hlen) ?_))
  have hsame:lowI (b.getD i.toNat 0)=b.getD i.toNat 0→(b.take i.toNat).map lowI++b.drop i.toNat=(b.take (i.toNat+1)).map lowI++b.drop (i.toNat+1):=fun h=>by
   rw[←V2b hn,h,←J2r hn 0]
   exact(Q32 _ _ _ (by simp;omega)).symm
  refine Tr.all_br (fun c1=>Tr.all_br (fun c2=>?_) fun c2=>?_) fun c1=>?_
  ·refine Tr.all_t (J0 h0) (Tr.all_t (J0 hlen) (Tr.all_ret (.inr ⟨_,_,rfl,?_,?_⟩)))
   ·have q1:=of_decide_eq_true c1
    have q2:=of_decide_eq_true c2
    simp (disch:=omega) only[IntWalk.i64_in,V3c]
    refine⟨by omega,by omega,?_⟩
    rw[e1,←V2b hn]
    congr 1
    unfold lowI
    rw[c1,c2]
    rfl
   ·simp (disch:=omega) only[IntWalk.i64_in]
    omega
  ·refine Tr.all_ret (.inr ⟨_,_,rfl,?_,?_⟩)
   ·simp (disch:=omega) only[IntWalk.i64_in]
    refine⟨by omega,by omega,?_⟩
    rw[e1]
    refine hsame ?_
    simp only[lowI,c2,Bool.and_false,cond_false]
   ·simp (disch:=omega) only[IntWalk.i64_in]
    omega
  ·refine Tr.all_ret (.inr ⟨_,_,rfl,?_,?_⟩)
   ·simp (disch:=omega) only[IntWalk.i64_in]
    refine⟨by omega,by omega,?_⟩
    rw[e1]
    refine hsame ?_
    simp only[lowI,c1,Bool.false_and,cond_false]
   ·simp (disch:=omega) only[IntWalk.i64_in]
    omega
 ·refine Tr.all_f (V0 hlt) (Tr.all_ret (.inl ?_))
  rw[List.take_of_length_le (by omega),List.drop_of_length_le (by omega),List.append_nil]
def t73 (s:List UInt8):Tr Res:=.br (fits s.length 1) (.br (fdC (↑(List.length (Z3 s)):Int) 0 (Z3 s)) (.ret ([.str (Xo (List.map lowI (Z3 s)))],[])) .no) .no
def os73:OSpec:={ f:=73,sh:=[.d .str false],so:=[],F:=fun(s,_) _=>t73 s }
theorem fn73 (s:List UInt8):evC T0 (orcB [] []) (lpOf h73 0 (lsOf [ls73])) c73 1000000 (U1 [.str s] [] Try.f73.ntmps) (Q0 T0 false 0 Try.f73)=(t73 s).get:=by kernel_rfl
theorem ok73:os73.Ok Try.prog:=by
 refine Q4 Q2 tab0 (U0 Z0 Z0) h73 (d:=0) (n0:=0) (S:=lsOf [ls73]) Try.func73 (by kernel_rfl) (c:=c73) (by kernel_rfl) rfl (Z8 (xs:=[(0,b73)]) (by kernel_rfl) (all_cons (J9 (Z3l _)) Z0)) (by omega) (by kernel_rfl) ?_
 intro x'' y'' q'' hq''
 obtain⟨(s:List UInt8),_⟩:=x''
 exact(fn73 s).trans hq''
def fs73:FSpec:=fsT 73 [(.str,false)] [(.str,false)] fun(s,_)=>t73 s
theorem okf73:fs73.Ok Try.prog:=V6 fun x'' r'' hr''=>ok73 x'' () r'' hr''
theorem J39 (c:UInt8):0≤(c.toNat:Int)∧(c.toNat:Int)≤255:=by
 have:=c.toNat_lt
 omega
theorem U34 (s:List UInt8):Xo ((Z3 s).map lowI)=Ju s:=by
 simp only[Xo,Z3,Ju,List.map_map]
 refine List.map_congr_left fun c _=>?_
 simp only[Function.comp,lowI,lowB]
 have hlt:=c.toNat_lt
 by_cases h:c.toNat≥65∧c.toNat≤90
 ·rw[show (decide ((c.toNat:Int)≥65)&&decide ((c.toNat:Int)≤90))=true by simp;omega,show (decide (c.toNat≥65)&&decide (c.toNat≤90))=true by simp;omega,cond_true,cond_true]
  congr 1
 ·rw[show (decide ((c.toNat:Int)≥65)&&decide ((c.toNat:Int)≤90))=false by simp;omega,show (decide (c.toNat≥65)&&decide (c.toNat≤90))=false by simp;omega,cond_false,cond_false]
  simp
def bigS (s:List UInt8):Bool:=decide (s.length≤1000000000000)
theorem X1n (s:List UInt8):(Z3 s).length=s.length:=by simp[Z3]
theorem X1y (s:List UInt8):Q1m (Z3 s)=true:=by
 refine List.all_eq_true.2 fun x hx=>?_
 obtain⟨c,_,rfl⟩:=List.mem_map.1 hx
 have:=J39 c
 simp only[Bool.and_eq_true,decide_eq_true_eq]
 exact this
def U3i:FSpec:=fs73.like fun(s,_)=>.on (bigS s) (Ju s,())
theorem J3q:U3i.Ok Try.prog:=by
 refine J4 okf73 _ ?_
 rintro⟨(s:List UInt8),_⟩ y h
 obtain⟨hc,rfl⟩:=Tr.get_on h
 simp only[bigS,decide_eq_true_eq] at hc
 refine X3 (vs:=[.str (Ju s)]) rfl rfl (Tr.get_of_all ?_)
 show (t73 s).all _
 refine Tr.all_t (Jw (by omega) (by omega)) (Tr.all_t ?_ (Tr.all_ret ?_))
 ·simp only[fdC,X1n,X1y,decide_true,Bool.true_and,Bool.and_true]
  exact J0 hc
 ·rw[U34]
def n16 (s:List UInt8) (at_:Int):Int:=(s.getD at_.toNat 0).toNat * 256+(s.getD (at_.toNat+1) 0).toNat
end Go.Proofs.YtkobjdhbfepkaaaE
namespace Go.Proofs.YtkobjdhbfepkaaaB
open Go Go.RowKit Go.Shelf
attribute [local go_sem] Oper.semAt_some
theorem Q2s:Try.prog.underlying 9=some .string:=by kernel_rfl
theorem Z21 (s:List UInt8) (a b:Nat) (hab:a≤b) (hb:b≤s.length) (i j:Int) (hi:i=a) (hj:j=b) (W:World) :
    (Instr.slice 9 (.string ⟨s.toArray⟩) (some (.int .i64 i)) (some (.int .i64 j)) none).run Try.prog W=.ok (.string ⟨((s.drop a).take (b - a)).toArray⟩) W:=by
 subst hi hj
 have hs:(⟨s.toArray⟩:ByteArray).size=s.length:=by simp[ByteArray.size]
 have h2:(Instr.sliceBounds false s.length s.length (some (.int .i64 (a:Int))) (some (.int .i64 (b:Int))) none).run Try.prog W=.ok (a,b,s.length) W:=by
  have s1:∀ code,(Instr.sliceBound (.int .i64 (a:Int)) b code).run Try.prog W=.ok a W:=fun code=>by
   have:=Go.Proofs.YtkobjdhbfepkaaaE.bound_run (P:=Try.prog) (w:=W) (k:=.i64) (i:=(a:Int)) (y:=b) (by omega) code
   simpa using this
  have s2:∀ code,(Instr.sliceBound (.int .i64 (b:Int)) s.length code).run Try.prog W=.ok b W:=fun code=>by
   have:=Go.Proofs.YtkobjdhbfepkaaaE.bound_run (P:=Try.prog) (w:=W) (k:=.i64) (i:=(b:Int)) (y:=s.length) (by omega) code
   simpa using this
  simp only[Instr.sliceBounds,Sem.run_bind,Sem.run_pure,Result.andThen_ok,s1,s2,Bool.false_eq_true,if_false]
 simp[Instr.slice,run_underlying Q2s,hs,h2,ByteArray.extract_mk]
theorem V28 (s:List UInt8) (a:Nat) (ha:a≤s.length) (i:Int) (hi:i=a) (W:World) :
    (Instr.slice 9 (.string ⟨s.toArray⟩) (some (.int .i64 i)) none none).run Try.prog W=.ok (.string ⟨(s.drop a).toArray⟩) W:=by
 subst hi
 have hs:(⟨s.toArray⟩:ByteArray).size=s.length:=by simp[ByteArray.size]
 have h2:(Instr.sliceBounds false s.length s.length (some (.int .i64 (a:Int))) none none).run Try.prog W=.ok (a,s.length,s.length) W:=by
  have s1:∀ code,(Instr.sliceBound (.int .i64 (a:Int)) s.length code).run Try.prog W=.ok a W:=fun code=>by
   have:=Go.Proofs.YtkobjdhbfepkaaaE.bound_run (P:=Try.prog) (w:=W) (k:=.i64) (i:=(a:Int)) (y:=s.length) (by omega) code
   simpa using this
  simp only[Instr.sliceBounds,Sem.run_bind,Sem.run_pure,Result.andThen_ok,s1,Bool.false_eq_true,if_false]
 simp[Instr.slice,run_underlying Q2s,hs,h2,ByteArray.extract_mk]
 exact List.take_of_length_le (by simp)
def X14:List UInt8→Prop
 | []=>True
 | c::t=>c.toNat=0∨63 < c.toNat∨t.length < c.toNat
set_option maxHeartbeats 1000000 in
theorem U2z (n:Nat) (hn:1≤n) (l Bn:Nat) (J K:List UInt8→World→Prop)
    (hB:∀ r W,J r W→Boxed W Bn 9 (.string ⟨r.toArray⟩)) (hd:∀ r W d,J r W→J r { W with drawn:=d })
    (hY:∀ (c:UInt8) (t:List UInt8) W,J (c::t) W→c.toNat≠0→c.toNat≤63→c.toNat≤t.length→
     YieldAt Fence.wide (n - 1) Try.prog l #[.string ⟨(t.take c.toNat).toArray⟩,.string ⟨(t.drop c.toNat).toArray⟩] W fun e W'=>e=.returned (.bool true)∧K (c::t) W')
    (hK:∀ c t W,K (c::t) W→Boxed W Bn 9 (.string ⟨(c::t).toArray⟩)∧J (t.drop c.toNat) (W.setCell ⟨Bn,0,none⟩ (.string ⟨(t.drop c.toNat).toArray⟩)))
    (W:World) (r0:List UInt8) (h0:J r0 W) :
    CallsIn Fence.wide n Try.prog 99 #[.func (.yield l) #[] #[],.pointer (some ⟨Bn,0,none⟩)] W fun e W'=>(∃ v,e=.returned v)∧∃ r,J r W'∧X14 r:=by
 refine callsIn_of_wp Try.func99 rfl trivial ?_ rfl
 simp only[Try.ntmps99,List.size_toArray,List.length_cons,List.length_nil,Nat.reduceAdd,Nat.reduceSub,Array.replicate_succ,Array.replicate_zero,List.push_toArray,List.append_toArray,List.nil_append,List.cons_append]
 gi_wp2
 gi_loopw [3] (fun p wr=>∃ (r:List UInt8),J r wr)
  (fun p wr=>match wr.cell? ⟨Bn,0,none⟩ with | some (.string b)=>b.size | _=>0)
 case atStart=>
  exact⟨r0,h0⟩
 case round=>
  obtain⟨r,hJ⟩:=hrel
  have hb:=hB r _ hJ
  have hc:=hb.cell
  cases r with
  | nil=>
    gi_wp2
    gi_quiet (fail)
    gi_wp2
    go_end0
    exact⟨⟨_,rfl⟩,_,hd _ wr _ hJ,trivial⟩
  | cons c t=>
    have hget:({ data:=(c::t).toArray }:ByteArray)[0]'(by simp[ByteArray.size])=c:=rfl
    have hsz:({ data:=(c::t).toArray }:ByteArray).size=t.length+1:=by simp[ByteArray.size]
    by_cases c0:c.toNat=0
    ·gi_wp2
     gi_quiet (fail)
     gi_wp2
     go_end0
     exact⟨⟨_,rfl⟩,_,hd _ wr _ hJ,.inl c0⟩
    have p0:0 < c.toNat:=by omega
    have d0:decide (0 < c.toNat)=true:=by simpa using p0
    by_cases c1:c.toNat≤63
    ·have d1:decide ((c.toNat:Int)≤63)=true:=by simp;omega
     by_cases c2:c.toNat≤t.length
     ·have d2:decide ((c.toNat:Int) < (t.length:Int)+1)=true:=by simp;omega
      gi_wp2
      gi_quiet (fail)
      gi_wp2
      rename_i nq _ _ _ _
      have hJ2:J (c::t) (wr.drewN (nq+1)):=hd _ wr _ hJ
      have hb2:=hB _ _ hJ2
      have hc2:=hb2.cell
      obtain⟨fn,tmps,assign,body,hy,hR⟩:=hY c t _ hJ2 c0 c1 c2
      have hs1:∀ W:World,(Instr.slice 9 (.string ⟨(c::t).toArray⟩) (some (.int .i64 1)) (some (.int .i64 (1+(c.toNat:Int)))) none).run Try.prog W=.ok (.string ⟨(t.take c.toNat).toArray⟩) W:=fun W=>by
       rw[Z21 (c::t) 1 (1+c.toNat) (by omega) (by simp;omega) 1 _ rfl (by omega) W]
       simp
      have hs2:∀ W:World,(Instr.slice 9 (.string ⟨(c::t).toArray⟩) (some (.int .i64 (1+(c.toNat:Int)))) none none).run Try.prog W=.ok (.string ⟨(t.drop c.toNat).toArray⟩) W:=fun W=>by
       rw[V28 (c::t) (1+c.toNat) (by simp;omega) _ (by omega) W]
       simp[Nat.add_comm 1]
      gi_region_with (refine RoundIn.mono hR ?_;rintro e W3 ⟨rfl,hK3⟩;obtain⟨hb3,hJ3⟩:=hK c t _ hK3;have hc3:=hb3.cell;have hf3:=hb3.frozen)
      all_goals gi_wp2
      all_goals (refine⟨⟨_,hJ3⟩,?_⟩;rw[hb3.set _ |>.cell,hc];simp[ByteArray.size];omega)
     ·have d2:decide ((c.toNat:Int) < (t.length:Int)+1)=false:=by simp;omega
      gi_wp2
      gi_quiet (fail)
      gi_wp2
      go_end0
      exact⟨⟨_,rfl⟩,_,hd _ wr _ hJ,.inr (.inr (by omega))⟩
    ·have d1:decide ((c.toNat:Int)≤63)=false:=by simp;omega
     gi_wp2
     gi_quiet (fail)
     gi_wp2
     go_end0
     exact⟨⟨_,rfl⟩,_,hd _ wr _ hJ,.inr (.inl (by omega))⟩
attribute [local go_sem] Oper.semAt_some
set_option maxHeartbeats 1000000 in
theorem U36 (n:Nat) (s:List UInt8) (w:World) :
    CallsIn Fence.wide n Try.prog 83 #[.string ⟨s.toArray⟩] w fun e w'=>e=.returned (.func (.func 99) #[] #[.pointer (some ⟨w.heap.size,0,none⟩)])∧w'=w.alloc (.cells #[.string ⟨s.toArray⟩] 9):=by
 refine callsIn_of_wp Try.func83 rfl trivial ?_ rfl
 simp only[Try.ntmps83,List.size_toArray,List.length_cons,List.length_nil,Nat.reduceAdd,Nat.reduceSub,Array.replicate_succ,Array.replicate_zero,List.push_toArray,List.append_toArray,List.nil_append,List.cons_append]
 gi_wp2
 go_ret
 exact⟨rfl,rfl⟩
theorem info9:(Try.prog.info? 9).map (fun i=>(i.zero,i.size,i.bytes))=some (some (.string ⟨#[]⟩),1,16):=by kernel_rfl
theorem U3a:Try.prog.underlying 81=some (.slice 9):=by kernel_rfl
def Ja:List UInt8→List (List UInt8)×List UInt8
 | []=>([],[])
 | c::t=>if c.toNat=0∨63 < c.toNat∨t.length < c.toNat then ([],c::t) else ((t.take c.toNat)::(Ja (t.drop c.toNat)).1,(Ja (t.drop c.toNat)).2)
termination_by s=>s.length
decreasing_by all_goals (simp;omega)
theorem X27 {r:List UInt8} (h:X14 r):Ja r=([],r):=by
 cases r with
 | nil=>rw[Ja]
 | cons c t=>rw[Ja];exact if_pos h
def strs (l:List (List UInt8)):List Value:=l.map fun s=>.string ⟨s.toArray⟩
structure JW (w:World) (rec:Loop) (st:LoopState) (v:Value) (k:Nat) (xs:List Value) (bn left:List UInt8) (W:World):Prop where
 out:Boxed W w.heap.size 81 v
 row:W.ownsRow (w.heap.size+5) 9 1 v k xs
 left:Boxed W (w.heap.size+1) 9 (.string ⟨left.toArray⟩)
 box:Boxed W (w.heap.size+2) 9 (.string ⟨bn.toArray⟩)
 bel:Below w.heap.size w W
 loop:W.heap[w.heap.size+4]?=some (.loop { rec with state:=st })
 dfr:W.heap[w.heap.size+3]?=some (.deferred (some []))
theorem Boxed.drawn {W:World} {B:Nat} {t:TypeId} {v:Value} (h:Boxed W B t v) (d:Nat):Boxed { W with drawn:=d } B t v:=h
section
variable {w:World} {rec:Loop} {st st':LoopState} {v:Value} {k:Nat} {xs:List Value} {bn left:List UInt8} {W:World}
theorem JW.lt (h:JW w rec st v k xs bn left W):w.heap.size+4 < W.heap.size:=(Array.getElem?_eq_some_iff.1 h.loop).1
theorem JW.drawn (h:JW w rec st v k xs bn left W) (d:Nat):JW w rec st v k xs bn left { W with drawn:=d }:=
 ⟨h.out,h.row,h.left,h.box,⟨h.bel.os,h.bel.tape,h.bel.output,h.bel.size,h.bel.block⟩,h.loop,h.dfr⟩
theorem JW.putLoop (h:JW w rec st v k xs bn left W) {L:Loop} (hL:L={ rec with state:=st' }):JW w rec st' v k xs bn left (W.putObj (w.heap.size+4) (.loop L)):=by
 subst hL
 have ot:∀ j,j≠w.heap.size+4→(W.putObj (w.heap.size+4) (.loop { rec with state:=st' })).heap[j]?=W.heap[j]?:=fun j hj=>World.putObj_heap_other hj
 exact⟨(ot _ (by omega)).trans h.out,ownsRow_putObj h.row _ h.loop rfl,(ot _ (by omega)).trans h.left,(ot _ (by omega)).trans h.box,
  ⟨h.bel.os,h.bel.tape,h.bel.output,by simpa using h.bel.size,fun j hj=>(ot _ (by omega)).trans (h.bel.block j hj)⟩,World.putObj_heap_same h.lt,(ot _ (by omega)).trans h.dfr⟩
theorem JW.ne (h:JW w rec st v k xs bn left W) {j:Nat} (hj:j < w.heap.size+5):some j≠v.ownBlock:=fun e=>by
 have:=(h.row.lt j e.symm).1
 omega
theorem JW.mid (h:JW w rec st v k xs bn left W) {tmp:Obj} {w1:World} (hg:(W.alloc tmp).grownBy w1 v.ownBlock):Boxed w1 w.heap.size 81 v:=by
 have hlt:=h.lt
 exact((hg.block _ (by simp;omega) (h.ne (by omega))).trans (Below.heap_alloc _ _ _ (by omega))).trans h.out
theorem JW.grown (h:JW w rec st v k xs bn left W) {tmp:Obj} {w1:World} {v':Value} {k':Nat} {ys:List Value} (hown:w1.ownsRow (w.heap.size+5) 9 1 v' k' ys) (hg:(W.alloc tmp).grownBy w1 v.ownBlock) :
    JW w rec st v' k' ys bn left (w1.setCell ⟨w.heap.size,0,none⟩ v'):=by
 have hlt:=h.lt
 have kp:∀ j,j < w.heap.size+5→w1.heap[j]?=W.heap[j]?:=fun j hj=>(hg.block j (by simp;omega) (h.ne hj)).trans (Below.heap_alloc _ _ _ (by omega))
 have hv1:Boxed w1 w.heap.size 81 v:=(kp _ (by omega)).trans h.out
 have ot:∀ j,j≠w.heap.size→(w1.setCell ⟨w.heap.size,0,none⟩ v').heap[j]?=w1.heap[j]?:=fun j hj=>Below.heap_setCell _ _ _ _ hj
 refine⟨hv1.set v',?_,(ot _ (by omega)).trans ((kp _ (by omega)).trans h.left),(ot _ (by omega)).trans ((kp _ (by omega)).trans h.box),?_,(ot _ (by omega)).trans ((kp _ (by omega)).trans h.loop),(ot _ (by omega)).trans ((kp _ (by omega)).trans h.dfr)⟩
 ·refine hown.kept (grownBy_setCell' w1 w.heap.size v') (.inr fun e=>?_)
  have:=(hown.lt _ e).1
  omega
 ·refine((h.bel.alloc (by omega) tmp).grown hg (by simp;omega) fun j ej=>?_).setCell (p:=⟨w.heap.size,0,none⟩) (Nat.le_refl _) v'
  have:=(h.row.lt j ej).1
  omega
theorem JW.setLeft (h:JW w rec st v k xs bn left W) (l:List UInt8):JW w rec st v k xs bn l (W.setCell ⟨w.heap.size+1,0,none⟩ (.string ⟨l.toArray⟩)):=by
 have ot:∀ j,j≠w.heap.size+1→(W.setCell ⟨w.heap.size+1,0,none⟩ (.string ⟨l.toArray⟩)).heap[j]?=W.heap[j]?:=fun j hj=>Below.heap_setCell _ _ _ _ hj
 refine⟨(ot _ (by omega)).trans h.out,h.row.kept (grownBy_setCell' W _ _) (.inr (h.ne (by omega)).symm),h.left.set _,(ot _ (by omega)).trans h.box,h.bel.setCell (p:=⟨w.heap.size+1,0,none⟩) (by simp) _,(ot _ (by omega)).trans h.loop,(ot _ (by omega)).trans h.dfr⟩
theorem JW.setBox (h:JW w rec st v k xs bn left W) (l:List UInt8):JW w rec st v k xs l left (W.setCell ⟨w.heap.size+2,0,none⟩ (.string ⟨l.toArray⟩)):=by
 have ot:∀ j,j≠w.heap.size+2→(W.setCell ⟨w.heap.size+2,0,none⟩ (.string ⟨l.toArray⟩)).heap[j]?=W.heap[j]?:=fun j hj=>Below.heap_setCell _ _ _ _ hj
 refine⟨(ot _ (by omega)).trans h.out,h.row.kept (grownBy_setCell' W _ _) (.inr (h.ne (by omega)).symm),(ot _ (by omega)).trans h.left,h.box.set _,h.bel.setCell (p:=⟨w.heap.size+2,0,none⟩) (by simp) _,(ot _ (by omega)).trans h.loop,(ot _ (by omega)).trans h.dfr⟩
end
theorem V2y (l:List (List UInt8)) (x:List UInt8):strs l++[.string ⟨x.toArray⟩]=strs (l++[x]):=by simp[strs]
theorem Q01 (pre:List (List UInt8)) {s t:List UInt8} {c:UInt8} (h0:c.toNat≠0) (h1:c.toNat≤63) (h2:c.toNat≤t.length) (he:Ja s=(pre++(Ja (c::t)).1,(Ja (c::t)).2)) :
    Ja s=((pre++[t.take c.toNat])++(Ja (t.drop c.toNat)).1,(Ja (t.drop c.toNat)).2):=by
 rw[he,Ja,if_neg (by omega)]
 simp
def JR (w:World) (s:List UInt8) (rec:Loop) (r:List UInt8) (W:World):Prop:=
 ∃ pre v,JW w rec .ready v pre.length (strs pre) r r W∧Ja s=(pre++(Ja r).1,(Ja r).2)∧pre.length+r.length≤s.length
def KR (w:World) (s:List UInt8) (rec:Loop) (cs:List UInt8) (W:World):Prop:=
 ∃ c t pre v,cs=c::t∧JW w rec .ready v pre.length (strs pre) (c::t) (t.drop c.toNat) W∧Ja s=(pre++(Ja (t.drop c.toNat)).1,(Ja (t.drop c.toNat)).2)∧pre.length+(t.drop c.toNat).length≤s.length
def J3c (w:World) (s:List UInt8) (v:Value) (W':World):Prop:=
 ∃ u e,v=.tuple #[u,.int .i64 e]∧Below w.heap.size w W' ∧
   (((Ja s).2≠[0]∧u=.slice none 0 0∧e=2)∨((Ja s).2=[0]∧255 < s.length∧u=.slice none 0 0∧e=3) ∨
    ((Ja s).2=[0]∧s.length≤255∧e=0∧W'.ownsRow (w.heap.size+5) 9 1 u (Ja s).1.length (strs (Ja s).1)))
theorem Z26 (n:Nat) (w:World) (s:List UInt8) (W0:World) (L0:Loop) (hps:L0.params.size=2) (hn:1≤n) (hJ:JR w s L0 s (W0.alloc (.loop L0)))
    (hround:∀ (c:UInt8) (t:List UInt8) (pre:List (List UInt8)) (v:Value) (W:World),JW w L0 .ready v pre.length (strs pre) (c::t) (c::t) W→c.toNat≤t.length→pre.length+(c::t).length≤s.length→
     (L0.assign).wpIn (Fence.wide.inRound (w.heap.size+4)) (n - 1) Try.prog (Exit.then (fun a₁ w₁=>∃ w₂,(Instr.beginRound (w.heap.size+4)).run Try.prog w₁=.ok () w₂ ∧
      L0.body.wpIn (Fence.wide.inRound (w.heap.size+4)) (n - 1) Try.prog (roundPost Try.prog (w.heap.size+4) fun e W'=>e=.returned (.bool true)∧∃ v',JW w L0 .ready v' (pre++[t.take c.toNat]).length (strs (pre++[t.take c.toNat])) (c::t) (t.drop c.toNat) W') a₁ w₂) (fun _ _ _=>False))
      { tmps:=(L0.params.zip #[.string ⟨(t.take c.toNat).toArray⟩,.string ⟨(t.drop c.toNat).toArray⟩]).foldl (fun t (p,v)=>t.setIfInBounds p v) L0.tmps,defers:=[] } W) :
    CallsIn Fence.wide n Try.prog 99 #[.func (.yield (w.heap.size+4)) #[] #[],.pointer (some ⟨w.heap.size+1+1,0,none⟩)] (W0.alloc (.loop L0)) fun e W'=>(∃ v,e=.returned v)∧∃ r,JR w s L0 r W'∧X14 r:=by
 refine U2z n hn (w.heap.size+4) (w.heap.size+1+1) (JR w s L0) (KR w s L0) ?_ ?_ ?_ ?_ _ s hJ
 ·rintro r W ⟨pre,v,h,_⟩
  exact h.box
 ·rintro r W d ⟨pre,v,h,h2⟩
  exact⟨pre,v,h.drawn d,h2⟩
 ·rintro c t W ⟨pre,v,h,h2,h3⟩ h0 h63 hle
  have hy:=run_yield (P:=Try.prog) (args:=#[.string ⟨(t.take c.toNat).toArray⟩,.string ⟨(t.drop c.toNat).toArray⟩]) h.loop (by simp[hps])
  refine⟨L0.fn,_,L0.assign,L0.body,hy,roundIn_of_wpIn trivial ?_⟩
  refine wpIn_mono (hround c t pre v W h hle h3) ?_
  intro e a' W' hq
  cases e<;>try exact hq
  obtain⟨w₂,hb,hw⟩:=hq
  refine⟨w₂,hb,wpIn_mono hw ?_⟩
  intro e a' W' hq
  cases e with
  | normal=>
    obtain⟨v1,w1,he,hr,v',hv'⟩:=hq
    refine⟨v1,w1,he,hr,c,t,_,v',rfl,hv',Q01 pre h0 h63 hle h2,?_⟩
    simp at h3 ⊢
    omega
  | ret=>
    obtain⟨v1,w1,he,hr,v',hv'⟩:=hq
    refine⟨v1,w1,he,hr,c,t,_,v',rfl,hv',Q01 pre h0 h63 hle h2,?_⟩
    simp at h3 ⊢
    omega
  | exit id=>
    obtain⟨v1,w1,he,hr,v',hv'⟩:=hq
    refine⟨v1,w1,he,hr,c,t,_,v',rfl,hv',Q01 pre h0 h63 hle h2,?_⟩
    simp at h3 ⊢
    omega
  | goto id=>
    obtain⟨v1,w1,he,hr,v',hv'⟩:=hq
    refine⟨v1,w1,he,hr,c,t,_,v',rfl,hv',Q01 pre h0 h63 hle h2,?_⟩
    simp at h3 ⊢
    omega
  | panic ch=>exact hq
  | outgrown=>exact hq
 ·rintro c t W ⟨c',t',pre,v,he,h,h2,h3⟩
  cases he
  exact⟨h.box,pre,v,h.setBox _,h2,h3⟩
theorem Z1i {g:Operand} {ps:Array Tmp} {assign body:Code} {Q:Exit→Act→World→Prop} {a:Act} (n:Nat) (hn:3≤n) (w:World) (s:List UInt8) (w3:World)
    (hg:a.eval g=.func (.func 99) #[] #[.pointer (some ⟨w.heap.size+1+1,0,none⟩)]) (hps:ps.size=2) (hsz:w3.heap.size=w.heap.size+3)
    (b0:Boxed w3 w.heap.size 81 (.slice none 0 0)) (b1:Boxed w3 (w.heap.size+1) 9 (.string ⟨s.toArray⟩)) (b2:Boxed w3 (w.heap.size+2) 9 (.string ⟨s.toArray⟩)) (bB:Below w.heap.size w w3)
    (hround:∀ (L0:Loop) (_:L0.pending=none) (c:UInt8) (t:List UInt8) (pre:List (List UInt8)) (v:Value) (W:World),JW w L0 .ready v pre.length (strs pre) (c::t) (c::t) W→c.toNat≤t.length→pre.length+(c::t).length≤s.length→
     assign.wpIn (Fence.wide.inRound (w.heap.size+4)) (n - 1 - 1) Try.prog (Exit.then (fun a₁ w₁=>∃ w₂,(Instr.beginRound (w.heap.size+4)).run Try.prog w₁=.ok () w₂ ∧
      body.wpIn (Fence.wide.inRound (w.heap.size+4)) (n - 1 - 1) Try.prog (roundPost Try.prog (w.heap.size+4) fun e W'=>e=.returned (.bool true)∧∃ v',JW w L0 .ready v' (pre++[t.take c.toNat]).length (strs (pre++[t.take c.toNat])) (c::t) (t.drop c.toNat) W') a₁ w₂) (fun _ _ _=>False))
      { tmps:=(ps.zip #[.string ⟨(t.take c.toNat).toArray⟩,.string ⟨(t.drop c.toNat).toArray⟩]).foldl (fun t (p,v)=>t.setIfInBounds p v) a.tmps,defers:=[] } W)
    (hdone:∀ (L0:Loop) (pre:List (List UInt8)) (v:Value) (r:List UInt8) (W:World),JW w L0 .exhausted v pre.length (strs pre) r r W→Ja s=(pre,r)→Q .normal { a with defers:={ target:=.collected w3.heap.size,args:=#[] }::a.defers } W) :
    (Code.rangeFunc g ps assign body).wpIn Fence.wide n Try.prog Q a w3:=by
 refine wpIn_rangeFunc ?_
 intro fn hfn
 obtain⟨L0,hL0⟩:∃ L0:Loop,L0={ state:=.ready,pending:=none,fn:=fn,tmps:=a.tmps,params:=ps,assign:=assign,body:=body,defers:=w3.heap.size }:=⟨_,rfl⟩
 have hJ:JR w s L0 s ((w3.alloc (.deferred (some []))).alloc (.loop L0)):=by
  have e0:L0={ L0 with state:=.ready }:=by rw[hL0]
  refine⟨[],.slice none 0 0,⟨(b0.alloc _).alloc _,World.ownsRow_nil _ _ _ _,(b1.alloc _).alloc _,(b2.alloc _).alloc _,((bB.alloc (by omega) _).alloc (by simp;omega) _),?_,?_⟩,by simp,by simp⟩
  ·have:=World.alloc_heap_new (w3.alloc (.deferred (some []))) (.loop L0)
   rw[World.size_alloc,hsz] at this
   rw[←e0]
   exact this
  ·rw[show w.heap.size+3=w3.heap.size by omega]
   exact(Below.heap_alloc _ _ _ (by simp)).trans (World.alloc_heap_new w3 _)
 refine⟨w.heap.size+4,[{ target:=.collected w3.heap.size,args:=#[] }],(w3.alloc (.deferred (some []))).alloc (.loop L0),{ target:=.fn (.func 99) #[.pointer (some ⟨w.heap.size+1+1,0,none⟩)],args:=#[.func (.yield (w.heap.size+4)) #[] #[]] },(w3.alloc (.deferred (some []))).alloc (.loop L0),99,
  #[.func (.yield (w.heap.size+4)) #[] #[],.pointer (some ⟨w.heap.size+1+1,0,none⟩)],(w3.alloc (.deferred (some []))).alloc (.loop L0),?_,?_,?_,?_,fun _=>(by omega),?_⟩
 ·rw[hL0,show w.heap.size+4=w3.heap.size+1 by omega]
  exact run_enterLoop_outer _ _ _ _ _
 ·simp only[resolve,hg]
  simp[go_sem]
 ·intro f' hf';trivial
 ·simp[invoke,go_sem]
 ·refine(Z26 (n - 1) w s _ L0 (by rw[hL0];exact hps) (by omega) hJ ?_).mono ?_
  ·intro c t pre v W hJ hle hb
   have:=hround L0 (by rw[hL0]) c t pre v W hJ hle hb
   rw[hL0] at this ⊢
   exact this
  ·rintro e W2 ⟨⟨v,rfl⟩,r,⟨pre,v',hJ2,he,_⟩,hstop⟩
   rw[X27 hstop,List.append_nil] at he
   have hend:=run_endLoop (P:=Try.prog) hJ2.loop (by simp)
   refine⟨none,_,?_,hdone L0 pre v' r _ (hJ2.putLoop (st':=.exhausted) rfl) he⟩
   rw[hend,hL0]
set_option maxHeartbeats 2000000 in
theorem Q2h (n:Nat) (hn:3≤n) (s:List UInt8) (hs:s.length≤1000000000000) (w:World) :
    CallsIn Fence.wide n Try.prog 58 #[.string ⟨s.toArray⟩] w fun e W'=>∃ v,e=.returned v∧J3c w s v W':=by
 have h1:1≤n:=by omega
 obtain⟨i0,hi,hz0,hz1,hz2⟩:=info_parts info9
 refine callsIn_of_wp_marks Try.func58 rfl trivial ?_ rfl
 simp only[Try.ntmps58,List.size_toArray,List.length_cons,List.length_nil,Nat.reduceAdd,Nat.reduceSub,Array.replicate_succ,Array.replicate_zero,List.push_toArray,List.append_toArray,List.nil_append,List.cons_append]
 gi_wp2
 refine⟨trivial,(U36 (n - 1) s _).mono ?_⟩
 rintro e w' ⟨rfl,rfl⟩
 gi_wp2
 rename_i Q K hK
 obtain⟨w3,hw3⟩:∃ w3,((w.alloc (.cells #[.slice none 0 0] 81)).alloc (.cells #[.string ⟨s.toArray⟩] 9)).alloc (.cells #[.string ⟨s.toArray⟩] 9)=w3:=⟨_,rfl⟩
 have hsz:w3.heap.size=w.heap.size+3:=by rw[←hw3];simp
 have b0:Boxed w3 w.heap.size 81 (.slice none 0 0):=by rw[←hw3];exact((Boxed.new w 81 _).alloc _).alloc _
 have b1:Boxed w3 (w.heap.size+1) 9 (.string ⟨s.toArray⟩):=by
  rw[←hw3]
  have:=(Boxed.new (w.alloc (.cells #[.slice none 0 0] 81)) 9 (.string ⟨s.toArray⟩)).alloc (.cells #[.string ⟨s.toArray⟩] 9)
  simpa using this
 have b2:Boxed w3 (w.heap.size+2) 9 (.string ⟨s.toArray⟩):=by
  rw[←hw3]
  have:=Boxed.new ((w.alloc (.cells #[.slice none 0 0] 81)).alloc (.cells #[.string ⟨s.toArray⟩] 9)) 9 (.string ⟨s.toArray⟩)
  simpa using this
 have bB:Below w.heap.size w w3:=by
  rw[←hw3]
  exact(((Below.refl _ w).alloc (Nat.le_refl _) _).alloc (by simp) _).alloc (by simp;omega) _
 rw[hw3]
 refine Z1i n hn w s w3 rfl rfl hsz b0 b1 b2 bB ?_ ?_
 ·intro L0 hpe c t pre v W hJ hle hb
  gi_wp2
  have hpl:pre.length+1≤s.length:=by simp at hb;omega
  refine⟨_,run_beginRound hJ.loop rfl,?_⟩
  have hJ2:=hJ.putLoop (st':=.busy) (L:={ { L0 with state:=.ready } with state:=.busy }) rfl
  obtain⟨W2,hW2⟩:∃ W2,W.putObj (w.heap.size+4) (.loop { { L0 with state:=.ready } with state:=.busy })=W2:=⟨_,rfl⟩
  rw[hW2] at hJ2 ⊢
  have hc:=hJ2.out.cell
  have hlt:=hJ2.lt
  gi_wp2_with (gi_at_builtin;refine wpListIn_append_own _ rfl _ _ 81 rfl (w.heap.size+5) 9 i0 (.string ⟨#[]⟩) 1 16 U3a hi hz0 hz1 hz2 rfl (by decide) _ _ _ rfl (hJ2.row.alloc _) ⟨W2.heap.size,0,none⟩ 1 1 [.string ⟨(t.take c.toNat).toArray⟩] rfl rfl (cell_one_new _ _ _) (by simp[Value.oneCell']) (by simp[maxLen];omega) (by omega) (by simp;omega) ?_;intro v' w1 hown' hgrow _;obtain⟨g',cap',rfl⟩:=ownsRow_succ hown';have hJ3:=hJ2.grown hown' hgrow;have hm:=hJ2.mid hgrow;have hc1:=hm.cell;have hf1:=hm.frozen;have hc2:=hJ3.left.cell;have hf2:=hJ3.left.frozen)
  have hJ4:=hJ3.setLeft (t.drop c.toNat)
  have hend:=run_endRound (P:=Try.prog) none hJ4.loop
  have hJ5:=hJ4.putLoop (st':=.ready) (L:={ { L0 with state:=.busy } with state:=if (none:Option Code).isNone then .ready else .done,pending:=none }) (by cases L0;cases hpe;rfl)
  rw[V2y] at hJ5
  refine⟨_,_,hend,rfl,.slice (some ⟨g',0,none⟩) (pre.length+1) cap',?_⟩
  exact hJ5
 ·intro L0 pre v r W hJ he
  have hc:=hJ.left.cell
  have hc0:=hJ.out.cell
  have hdef:W.heap[w3.heap.size]?=some (.deferred (some [])):=by rw[hsz];exact hJ.dfr
  have hB:Below w.heap.size w (W.putObj w3.heap.size (.deferred none)):=
   ⟨hJ.bel.os,hJ.bel.tape,hJ.bel.output,by simpa using hJ.bel.size,fun j hj=>(World.putObj_heap_other (by omega)).trans (hJ.bel.block j hj)⟩
  have hrow:=ownsRow_putObj hJ.row (.deferred none) hdef rfl
  gi_wp2
  ·rename_i hr
   refine⟨by simp,.inl ⟨_,_,rfl,run_takeDeferred hdef,?_⟩⟩
   refine⟨_,results_tmp2 rfl _ _ _,_,rfl,_,_,rfl,hB,.inl ⟨?_,rfl,rfl⟩⟩
   rw[he]
   simpa using hr
  ·rename_i hr hl
   refine⟨by simp,.inl ⟨_,_,rfl,run_takeDeferred hdef,?_⟩⟩
   refine⟨_,results_tmp2 rfl _ _ _,_,rfl,_,_,rfl,hB,.inr (.inl ⟨?_,by omega,rfl,rfl⟩)⟩
   rw[he]
   simpa using hr
  ·rename_i hr hl
   refine⟨by simp,.inl ⟨_,_,rfl,run_takeDeferred hdef,?_⟩⟩
   refine⟨_,results_tmp2 rfl _ _ _,_,rfl,_,_,rfl,hB,.inr (.inr ⟨?_,by omega,rfl,?_⟩)⟩
   ·rw[he]
    simpa using hr
   ·rw[he]
    exact hrow
end Go.Proofs.YtkobjdhbfepkaaaB
namespace Go.Proofs.YtkobjdhbfepkaaaE
open Go Go.Proofs.YtkobjdhbfepkaaaB
set_option linter.unusedVariables false
set_option linter.unusedSimpArgs false
def Z3g (s:List UInt8):List (List UInt8):=(Ja s).1
def J07 (s:List UInt8):Bool:=(Ja s).2==[0]
theorem Z1s {F:Nat→Prop} {w:World}:∀ (l:List (List UInt8)),EncL F w .str l (strs l)
 | []=>by simp[EncL,strs]
 | x::l=>by
   simp only[EncL]
   exact⟨[.string ⟨x.toArray⟩],strs l,rfl,rfl,Z1s l⟩
theorem Z3e {w:World} {base:Nat} {v:Value} {l:List (List UInt8)} (h:w.ownsRow base 9 1 v l.length (strs l)) {F:Nat→Prop} (hF:∀ b,v.ownBlock=some b→F b):Enc F w (.list .str) l [v]:=by
 refine Vc.2 ?_
 rcases h.2 with ⟨rfl,h0⟩ | ⟨g,cap,cur,rfl,hb,hg,hle,hcap,hcs,htk⟩
 ·have:l=[]:=List.length_eq_zero_iff.1 h0
  subst this
  exact⟨none,0,rfl,by simp,fun _=>rfl,fun a ha=>by cases ha⟩
 ·refine⟨some ⟨g,0,none⟩,cap,rfl,hle,fun h=>(by cases h),fun a ha _=>?_⟩
  cases ha
  refine⟨rfl,hF g rfl,J2l (Z1s l) fun j u hu=>?_⟩
  have:=h.cells (g:=g) rfl j u hu
  rw[Vb] at this
  exact this
theorem Q20 (s:List UInt8) (hb:bigS s=true):SemF Try.prog 58 [.str s] []
    (if (Ja s).2=[0] then (if s.length≤255 then [.list .str (Z3g s),.int .i64 0] else [.list .str [],.int .i64 3]) else [.list .str [],.int .i64 2]) []:=by
 have hs:s.length≤1000000000000:=by simpa[bigS] using hb
 refine⟨⟨_,Try.func58,by decide,by kernel_rfl⟩,fun w μ F us hh hv=>?_⟩
 simp only[X0,VRel] at hv
 obtain⟨u,us',rfl,rfl,rfl⟩:=hv
 have h:=callsIn_wide.1 (Q2h 3 (by omega) s hs w)
 refine h.mono ?_
 rintro e w' ⟨v,rfl,u,en,rfl,hB,hc⟩
 have hμ:∀ k,μ k=.none:=fun k=>hh.top k (by simp)
 refine⟨_,rfl,fun _=>.none,fun b=>F b∨(w.heap.size≤b∧b < w'.heap.size),?_,⟨fun k hk=>by simp at hk,fun _ _=>rfl,fun k k' b h=>by simp[Pl.own] at h,fun k b h=>by simp[Pl.own] at h,fun b hb=>?_⟩,
  ⟨hB.os,hB.tape,hB.output,hB.size,fun b hb _=>hB.block b hb,fun b hb=>.inl hb,fun b hb=>?_,fun k b h=>by simp[Pl.own] at h⟩,by simp,fun k b hk=>by simp at hk,fun k b hk=>by simp at hk⟩
 ·rcases hc with ⟨h1,rfl,rfl⟩ | ⟨h1,h2,rfl,rfl⟩ | ⟨h1,h2,rfl,hrow⟩
  ·rw[if_neg h1]
   simp only[X7,VRel,X0]
   exact⟨_,rfl,_,_,rfl,⟨none,0,rfl,by simp,fun _=>rfl,fun a ha=>by cases ha⟩,_,_,rfl,rfl,rfl⟩
  ·rw[if_pos h1,if_neg (by omega)]
   simp only[X7,VRel,X0]
   exact⟨_,rfl,_,_,rfl,⟨none,0,rfl,by simp,fun _=>rfl,fun a ha=>by cases ha⟩,_,_,rfl,rfl,rfl⟩
  ·rw[if_pos h1,if_pos h2]
   simp only[X7,VRel,X0]
   refine⟨_,rfl,_,_,rfl,Z3e hrow (fun b hb=>.inr ?_),_,_,rfl,rfl,rfl⟩
   have:=hrow.lt b hb
   omega
 ·rcases hb with hb | hb
  ·exact Nat.lt_of_lt_of_le (hh.inn b hb) hB.size
  ·exact hb.2
 ·rcases hb with hb | hb
  ·exact .inl hb
  ·exact .inr (.inr hb.1)
def fs58:FSpec:={ f:=58,ins:=[(.str,false)],outs:=[(.list .str,false),(.int .i64,false)],F:=fun(s,_)=>.br (bigS s) (.br (J07 s) (.br (decide (s.length > 255)) (.ret (([]:List (List UInt8)),(3:Int),())) (.ret (Z3g s,(0:Int),()))) (.ret (([]:List (List UInt8)),(2:Int),()))) .no }
theorem okf58:fs58.Ok Try.prog:=by
 rintro⟨(s:List UInt8),_⟩ y h
 simp only[fs58,Tr.get] at h
 cases hb:bigS s with
 | false=>rw[hb] at h;cases h
 | true=>
   rw[hb,cond_true] at h
   have:=Q20 s hb
   cases hr:J07 s with
   | false=>
     rw[hr,cond_false] at h
     cases h
     have hne:(Ja s).2≠[0]:=by simpa[J07] using hr
     rw[if_neg hne] at this
     exact this
   | true=>
     rw[hr,cond_true] at h
     have he:(Ja s).2=[0]:=by simpa[J07] using hr
     rw[if_pos he] at this
     by_cases hl:s.length≤255
     ·rw[if_pos hl] at this
      rw[show decide (s.length > 255)=false by simp;omega,cond_false] at h
      cases h
      exact this
     ·rw[if_neg hl] at this
      rw[show decide (s.length > 255)=true by simp;omega,cond_true] at h
      cases h
      exact this
def t41 (n:List UInt8):Tr Res:=.br (bigS n) (.br (J07 n) (.br (decide (List.length n > 255)) (.ret ([.bool false],[])) (.br (bigS n) (.ret ([.bool (Ju n==n)],[])) .no)) (.ret ([.bool false],[]))) .no
def os41:OSpec:={ f:=41,sh:=[.d .str false],so:=[],F:=fun(n,_) _=>t41 n }
theorem fn41 (n:List UInt8):evC T0 (orcB [fs58,U3i] []) (lpOf h41 0 (lsOf [])) c41 1000000 (U1 [.str n] [] Try.f41.ntmps) (Q0 T0 false 0 Try.f41)=(t41 n).get:=by kernel_rfl
theorem ok41:os41.Ok Try.prog:=by
 refine Q4 Q2 tab0 (U0 (all_cons okf58 (all_cons J3q Z0)) Z0) h41 (d:=0) (n0:=0) (S:=lsOf []) Try.func41 (by kernel_rfl) (c:=c41) (by kernel_rfl) rfl (U3 (by kernel_rfl)) (by omega) (by kernel_rfl) ?_
 intro x'' y'' q'' hq''
 obtain⟨(n:List UInt8),_⟩:=x''
 exact(fn41 n).trans hq''
def fs41:FSpec:=fsT 41 [(.str,false)] [(.bool,false)] fun(n,_)=>t41 n
theorem okf41:fs41.Ok Try.prog:=V6 fun x'' r'' hr''=>ok41 x'' () r'' hr''
def mayV (s:List UInt8):Bool:=J07 s&&(Nat.ble s.length 255&&(Ju s==s))
theorem U0t {a b:Nat}:Nat.ble a b=decide (a≤b):=by
 by_cases h:a≤b
 ·rw[decide_eq_true h,Nat.ble_eq_true_of_le h]
 ·rw[decide_eq_false h]
  cases hb:Nat.ble a b with
  | false=>rfl
  | true=>exact absurd (Nat.le_of_ble_eq_true hb) h
def U0z:FSpec:=fs41.like fun(s,_)=>.on (bigS s) (mayV s,())
theorem X0o:U0z.Ok Try.prog:=by
 refine J4 okf41 _ ?_
 rintro⟨(s:List UInt8),_⟩ y h
 obtain⟨hb,rfl⟩:=Tr.get_on h
 refine X3 (vs:=[.bool (mayV s)]) rfl rfl (Tr.get_of_all ?_)
 show (t41 s).all _
 refine Tr.all_t hb (Tr.all_br (fun c1=>Tr.all_br (fun c2=>Tr.all_ret ?_) fun c2=>Tr.all_t hb (Tr.all_ret ?_)) fun c1=>Tr.all_ret ?_)
 ·simp only[decide_eq_true_eq] at c2
  have:¬ s.length≤255:=by omega
  simp[mayV,U0t,this]
 ·simp only[decide_eq_false_iff_not] at c2
  have:s.length≤255:=by omega
  simp[mayV,U0t,this,c1]
 ·simp[mayV,c1]
def tlN (n:List UInt8):List UInt8:=n.drop (1+(n.getD 0 0).toNat)
theorem X2q {n:List UInt8} (h:n≠[]):(tlN n).length < n.length:=by
 have:=List.length_pos_iff.2 h
 simp[tlN]
 omega
theorem V0e {n:List UInt8} (h:J07 n=true):n=[0]∨(n≠[0]∧n≠[]∧1+(n.getD 0 0).toNat < n.length∧(n.getD 0 0).toNat≤63∧(n.getD 0 0).toNat≠0∧J07 (tlN n)=true):=by
 unfold J07 at h
 cases n with
 | nil=>rw[Ja] at h;simp at h
 | cons c t=>
   rw[Ja] at h
   split at h
   ·exact .inl (by simpa using h)
   ·rename_i hc
    refine .inr ⟨fun e=>?_,by simp,?_,?_,?_,?_⟩
    ·cases e;simp at hc
    ·have he:(t.drop c.toNat)≠[]:=fun e=>by
      rw[e,Ja] at h
      simp at h
     have:=List.length_pos_iff.2 he
     simp at this ⊢
     omega
    ·simp;omega
    ·simp;omega
    ·unfold J07 tlN
     simpa[Nat.add_comm 1] using h
theorem X39 (n:List UInt8):(tlN n).length=n.length - (1+(n.getD 0 0).toNat):=by unfold tlN;rw[List.length_drop]
theorem szW (n:List UInt8):IntKind.wrap IntKind.i64 ((1:Int)+IntKind.wrap IntKind.i64 (↑(UInt8.toNat (List.getD n (Int.toNat (0:Int)) 0)):Int))=((1+(n.getD 0 0).toNat:Nat):Int):=by
 have:=(n.getD 0 0).toNat_lt
 rw[show Int.toNat (0:Int)=0 from rfl]
 rw[IntWalk.i64_in (((n.getD 0 0).toNat:Nat):Int) (by omega),IntWalk.i64_in _ (by omega)]
 omega
theorem tlW (n:List UInt8):List.take (Int.toNat (↑(List.length n):Int) - Int.toNat ((1+(n.getD 0 0).toNat:Nat):Int)) (List.drop (Int.toNat ((1+(n.getD 0 0).toNat:Nat):Int)) n)=tlN n:=by
 rw[Int.toNat_natCast,Int.toNat_natCast]
 exact List.take_of_length_le (by simp)
theorem getD_some {α:Type} {o:Option α} {a d:α} (h:o=some a):o.getD d=a:=by rw[h];rfl
def toT (s:List UInt8) (at_:Int):Int:=n16 s at_ % 16384
section
variable {s:List UInt8} {at_ from_ behind:Int} {out:List UInt8}
end
theorem Q2l (s:List UInt8):(Ju s).length=s.length:=by simp[Ju]
end Go.Proofs.YtkobjdhbfepkaaaE
namespace Go.Proofs.YtkobjdhbfepkaaaE
open Go Go.Proofs.YtkobjdhbfepkaaaB
set_option linter.unusedVariables false
set_option linter.unusedSimpArgs false
theorem X2g (a b:List UInt8):Ju (a++b)=Ju a++Ju b:=by simp[Ju]
def X17 (s:List UInt8):Prop:=Ju s=s
theorem Z2i {a b:List UInt8}:X17 (a++b)↔X17 a∧X17 b:=by
 unfold X17
 rw[X2g]
 constructor
 ·intro h
  have h1:=(List.append_inj h (Q2l a))
  exact h1
 ·rintro⟨h1,h2⟩
  rw[h1,h2]
def byN (s:List UInt8) (k:Nat):Nat:=(s.getD k 0).toNat
inductive Rd (S:List UInt8):Nat→Nat→List UInt8→Nat→Prop where
 | root {k f:Nat} (h:k < S.length) (h0:byN S k=0):Rd S k f [0] (k+1)
 | label {k f e:Nat} {n:List UInt8} (h1:byN S k≠0) (h63:byN S k≤63) (hin:k+1+byN S k≤S.length) (h:Rd S (k+1+byN S k) f n e) :
     Rd S k f (S.getD k 0::Ju ((S.drop (k+1)).take (byN S k))++n) e
 | ptr {k f e:Nat} {n:List UInt8} {to:Nat} (h192:192≤byN S k) (hin:k+2≤S.length) (hto:toT S (k:Int)=to) (hlt:to < f) (h:Rd S to to n e):Rd S k f n (k+2)
theorem Z0t {n:List UInt8}:mayV n=true↔J07 n=true∧n.length≤255∧X17 n:=by
 unfold mayV X17
 rw[U0t]
 simp
theorem U2i {α:Type} {l:List α} {i:Int} (d:α) (h0:0≤i) (h:i < l.length):l.drop i.toNat=l.getD i.toNat d::l.drop (i+1).toNat∧l.getD i.toNat d∈l:=by
 have hk:i.toNat < l.length:=by omega
 rw[List.getD_eq_getElem?_getD,List.getElem?_eq_getElem hk,show (i+1).toNat=i.toNat+1 by omega]
 exact⟨List.drop_eq_getElem_cons hk,List.getElem_mem hk⟩
def layV (k:Int):List Int:=if k=1 then [4] else if k=28 then [16] else if k=2∨k=5∨k=12 then [-1] else if k=15 then [2,-1] else if k=6 then [-1,-1,20] else if k=16 then [-2] else [-3]
def whAt (s:List UInt8) (k:Nat):Nat:=if h:k < s.length∧0 < byN s k then whAt s (k+1+byN s k) else k
termination_by s.length - k
def Q9 (s:List UInt8):Nat:=if whAt s 0 < s.length∧mayV (s.take (whAt s 0+1))=true then whAt s 0+1 else 0
theorem Z2m (s:List UInt8):Q9 s≤s.length:=by
 unfold Q9
 split<;>omega
def txAt (s:List UInt8) (k:Nat):Nat:=if h:k < s.length then txAt s (k+1+byN s k) else k
termination_by s.length - k
def X0e (s:List UInt8):Bool:=!s.isEmpty&&decide (txAt s 0=s.length)
def szP (p:Int) (d:List UInt8):Int:=if p=-1 then (Q9 d:Int) else if p=-2∧X0e d=true∨p=-3 then (d.length:Int) else p
def okP (p:Int) (d:List UInt8):Bool:=decide (0≤szP p d)&&(decide (szP p d≤(d.length:Int))&&!(decide (p=-1)&&decide (szP p d=0)))
def cutS:List Int→List UInt8→List (List UInt8)→Bool×(List UInt8×List (List UInt8))
 | [],d,out=>(true,d,out)
 | p::ps,d,out=>if okP p d=true then cutS ps (d.drop (szP p d).toNat) (out++[d.take (szP p d).toNat]) else (false,d,out)
def noS (l:List (List UInt8)):Bool:=l.isEmpty
def cutC (d:List UInt8) (ps:List Int) (n i:Int) (l:List (List UInt8)):Bool:=bigS d&&(decide (n=ps.length)&&(decide (i=0)&&(noS l&&decide (ps.length≤10))))
def okV (k:Int) (d:List UInt8):Bool:=(cutS (layV k) d []).1
def X1t (k:Int) (d:List UInt8):List UInt8:=(cutS (layV k) d []).2.1
def V25 (k:Int) (d:List UInt8):List (List UInt8):=(cutS (layV k) d []).2.2
def mayR (k:Int) (d:List UInt8):Bool:=(okV k d&&(X1t k d).isEmpty)&&Nat.ble d.length 65535
def t102:Tr Res:=.ret ([.mp 0],[.mpo (Ty.int .u16) (Ty.list (.int .i64)) [(1,[4]),(28,[16]),(2,[(-1:Int)]),(5,[(-1:Int)]),(12,[(-1:Int)]),(15,[2,(-1:Int)]),(6,[(-1:Int),(-1:Int),20]),(16,[(-2:Int)])]])
def X3f:OSpec:={ f:=102,sh:=[],so:=[],F:=fun _ _=>t102 }
theorem fn102:evC T0 (orcB [] []) (lpOf (hOwn h102) 0 (lsOf [])) c102 1000000 (U1 [] [] Try.f102.ntmps) (Q0 T0 true 0 Try.f102)=(t102).get:=by kernel_rfl
theorem ok102:X3f.Ok Try.prog:=by
 refine Q4 Q2 tab0 (U0 Z0 Z0) (hOwn h102) (d:=0) (n0:=0) (S:=lsOf []) Try.func102 (by kernel_rfl) (c:=c102) (by kernel_rfl) rfl (U3 (by kernel_rfl)) (by omega) (by kernel_rfl) ?_
 intro x'' y'' q'' hq''
 exact(fn102).trans hq''
def t94 (k:Int):Tr Res:=.br (!hasM (Ty.int .u16) (Ty.list (.int .i64)) k [(1,[4]),(28,[16]),(2,[(-1:Int)]),(5,[(-1:Int)]),(12,[(-1:Int)]),(15,[2,(-1:Int)]),(6,[(-1:Int),(-1:Int),20]),(16,[(-2:Int)])]) (.ret ([.list (.int .i64) [(-3:Int)]],[])) (.ret ([.list (.int .i64) (getM (Ty.int .u16) (Ty.list (.int .i64)) k [(1,[4]),(28,[16]),(2,[(-1:Int)]),(5,[(-1:Int)]),(12,[(-1:Int)]),(15,[2,(-1:Int)]),(6,[(-1:Int),(-1:Int),20]),(16,[(-2:Int)])])],[]))
def os94:OSpec:={ f:=94,sh:=[.d (.int .u16) false],so:=[],F:=fun(k,_) _=>t94 k }
theorem fn94 (k:Int):evC T0 (orcB [] [X3f]) (lpOf h94 0 (lsOf [])) c94 1000000 (U1 [.int .u16 k] [] Try.f94.ntmps) (Q0 T0 false 0 Try.f94)=(t94 k).get:=by kernel_rfl
theorem ok94:os94.Ok Try.prog:=by
 refine Q4 Q2 tab0 (U0 Z0 (all_cons ok102 Z0)) h94 (d:=0) (n0:=0) (S:=lsOf []) Try.func94 (by kernel_rfl) (c:=c94) (by kernel_rfl) rfl (U3 (by kernel_rfl)) (by omega) (by kernel_rfl) ?_
 intro x'' y'' q'' hq''
 obtain⟨(k:Int),_⟩:=x''
 exact(fn94 k).trans hq''
def fs94:FSpec:=fsT 94 [((.int .u16),false)] [((.list (.int .i64)),false)] fun(k,_)=>t94 k
theorem okf94:fs94.Ok Try.prog:=V6 fun x'' r'' hr''=>ok94 x'' () r'' hr''
noncomputable def b95:Code:=Z7 c95 0
def ls95:LoopSpec:={ bid:=0,sh:=[.d .str false,.d (.int .i64) false],so:=[],F:=fun(s,at_,_) _=>.on (bigS s&&decide (at_=0)) (.exit 0,[.str s,.int .i64 (whAt s 0)],[]) }
def r95 (s:List UInt8) (at_:Int):Tr (St⊕(Ex×St)):=.br (decide (at_ < (↑s.length:Int))) (.br (decide (0≤at_)) (.br (decide (at_ < (↑s.length:Int))) (.br (decide ((↑(UInt8.toNat (s.getD at_.toNat 0)):Int) > 0)) (.br (decide (0≤at_)) (.br (decide (at_ < (↑s.length:Int))) (.ret (.inl (stOf [0,3] [.str s,.int .i64 (IntKind.wrap .i64 (at_+IntKind.wrap .i64 (1+IntKind.wrap .i64 (↑(UInt8.toNat (s.getD at_.toNat 0)):Int))))] []))) .no) .no) (.ret (.inr (.exit 0,stOf [0,3] [.str s,.int .i64 at_] [])))) .no) .no) (.ret (.inr (.exit 0,stOf [0,3] [.str s,.int .i64 at_] [])))
theorem Q3d (orc:Orc) (lp:Lp) (s:List UInt8) (at_:Int):evC T0 orc lp b95 0 (stOf [0,3] [.str s,.int .i64 at_] []) (X1 [0,3] [0,3] 0)=(r95 s at_).get:=by kernel_rfl
theorem wf95 (orc:Orc) (s:List UInt8) (I'':Int→Prop) (m'':Int→Nat) (r'':Ex×St) (h:∀ (at_:Int),I'' at_→(r95 s at_).all fun x''=>x''=.inr r''∨∃ (at_':Int),x''=.inl (stOf [0,3] [.str s,.int .i64 at_'] [])∧I'' at_'∧m'' at_' < m'' at_) (lp:Lp) (at_:Int):I'' at_→
    Q3 (fun st=>evC T0 orc lp b95 0 st (X1 [0,3] [0,3] 0)) (stOf [0,3] [.str s,.int .i64 at_] [])=some r'':=
 V8 (fun a'':Int=>stOf [0,3] [.str s,.int .i64 a''] []) (fun a''=>I'' a'') (fun a''=>m'' a'') r'' (fun a''=>r95 s a'')
  (fun a'' x hx=>(Q3d orc lp s a'').trans hx) (fun a'' ha=>Tr.all_mono (fun x'' hx=>hx.imp id fun⟨at_',h1,h2,h3⟩=>⟨(at_'),h1,h2,h3⟩) (h (a'') ha)) (at_)
theorem J3n (orc:Orc):ls95.Ok T0 orc h95 0 0 b95:=by
 intro q'' hq'' x'' y'' r'' h
 obtain⟨(s:List UInt8),(at_:Int),_⟩:=x''
 obtain⟨hc,rfl⟩:=Tr.get_on h
 show Q3 (fun st=>evC T0 orc (lpN T0 orc h95 0 q'') b95 0 st (X1 [0,3] [0,3] 0)) (stOf [0,3] [.str s,.int .i64 at_] [])=some (.exit 0,stOf [0,3] ([.str s,.int .i64 (whAt s 0)]) ([]))
 simp only[Bool.and_eq_true,decide_eq_true_eq] at hc
 obtain⟨hb,rfl⟩:=hc
 refine wf95 _ s (fun a=>0≤a∧whAt s a.toNat=whAt s 0) (fun a=>(s.length - a).toNat) _ ?_ _ 0 ⟨by omega,rfl⟩
 rintro a ⟨h1,h2⟩
 have hB:s.length≤1000000000000:=by simpa[bigS] using hb
 have hto:((a.toNat:Nat):Int)=a:=Int.toNat_of_nonneg h1
 unfold r95
 rw[←h2,whAt.eq_1 s a.toNat]
 by_cases hk:a.toNat < s.length
 ·have hb0:(↑(UInt8.toNat (List.getD s (Int.toNat a) 0)):Int)=(byN s a.toNat:Int):=rfl
  have hbl:byN s a.toNat < 256:=(s.getD a.toNat 0).toNat_lt
  rw[hb0]
  simp (disch:=omega) only[IntWalk.i64_in]
  refine Tr.all_t (J0 (by omega)) (Tr.all_t (J0 h1) (Tr.all_t (J0 (by omega)) (Tr.all_br (fun c1=>Tr.all_t (J0 h1) (Tr.all_t (J0 (by omega)) (Tr.all_ret (.inr ⟨_,rfl,⟨by omega,?_⟩,by omega⟩)))) fun c1=>Tr.all_ret (.inl ?_))))
  ·simp only[decide_eq_true_eq] at c1
   rw[dif_pos ⟨hk,by omega⟩]
   congr 1
   omega
  ·simp only[decide_eq_false_iff_not] at c1
   rw[dif_neg (by omega),hto]
 ·rw[dif_neg (by omega),hto]
  exact Tr.all_f (V0 (by omega)) (Tr.all_ret (.inl rfl))
noncomputable def b96:Code:=Z7 c96 0
def ls96:LoopSpec:={ bid:=0,sh:=[.d .str false,.d (.int .i64) false],so:=[],F:=fun(s,at_,_) _=>.on (bigS s&&decide (at_=0)) (.exit 0,[.str s,.int .i64 (txAt s 0)],[]) }
def r96 (s:List UInt8) (at_:Int):Tr (St⊕(Ex×St)):=.br (decide (at_ < (↑s.length:Int))) (.br (decide (0≤at_)) (.br (decide (at_ < (↑s.length:Int))) (.ret (.inl (stOf [0,3] [.str s,.int .i64 (IntKind.wrap .i64 (at_+IntKind.wrap .i64 (1+IntKind.wrap .i64 (↑(UInt8.toNat (s.getD at_.toNat 0)):Int))))] []))) .no) .no) (.ret (.inr (.exit 0,stOf [0,3] [.str s,.int .i64 at_] [])))
theorem X35 (orc:Orc) (lp:Lp) (s:List UInt8) (at_:Int):evC T0 orc lp b96 0 (stOf [0,3] [.str s,.int .i64 at_] []) (X1 [0,3] [0,3] 0)=(r96 s at_).get:=by kernel_rfl
theorem wf96 (orc:Orc) (s:List UInt8) (I'':Int→Prop) (m'':Int→Nat) (r'':Ex×St) (h:∀ (at_:Int),I'' at_→(r96 s at_).all fun x''=>x''=.inr r''∨∃ (at_':Int),x''=.inl (stOf [0,3] [.str s,.int .i64 at_'] [])∧I'' at_'∧m'' at_' < m'' at_) (lp:Lp) (at_:Int):I'' at_→
    Q3 (fun st=>evC T0 orc lp b96 0 st (X1 [0,3] [0,3] 0)) (stOf [0,3] [.str s,.int .i64 at_] [])=some r'':=
 V8 (fun a'':Int=>stOf [0,3] [.str s,.int .i64 a''] []) (fun a''=>I'' a'') (fun a''=>m'' a'') r'' (fun a''=>r96 s a'')
  (fun a'' x hx=>(X35 orc lp s a'').trans hx) (fun a'' ha=>Tr.all_mono (fun x'' hx=>hx.imp id fun⟨at_',h1,h2,h3⟩=>⟨(at_'),h1,h2,h3⟩) (h (a'') ha)) (at_)
theorem J3s (orc:Orc):ls96.Ok T0 orc h96 0 0 b96:=by
 intro q'' hq'' x'' y'' r'' h
 obtain⟨(s:List UInt8),(at_:Int),_⟩:=x''
 obtain⟨hc,rfl⟩:=Tr.get_on h
 show Q3 (fun st=>evC T0 orc (lpN T0 orc h96 0 q'') b96 0 st (X1 [0,3] [0,3] 0)) (stOf [0,3] [.str s,.int .i64 at_] [])=some (.exit 0,stOf [0,3] ([.str s,.int .i64 (txAt s 0)]) ([]))
 simp only[Bool.and_eq_true,decide_eq_true_eq] at hc
 obtain⟨hb,rfl⟩:=hc
 refine wf96 _ s (fun a=>0≤a∧txAt s a.toNat=txAt s 0) (fun a=>(s.length - a).toNat) _ ?_ _ 0 ⟨by omega,rfl⟩
 rintro a ⟨h1,h2⟩
 have hB:s.length≤1000000000000:=by simpa[bigS] using hb
 have hto:((a.toNat:Nat):Int)=a:=Int.toNat_of_nonneg h1
 unfold r96
 rw[←h2,txAt.eq_1 s a.toNat]
 by_cases hk:a.toNat < s.length
 ·have hb0:(↑(UInt8.toNat (List.getD s (Int.toNat a) 0)):Int)=(byN s a.toNat:Int):=rfl
  have hbl:byN s a.toNat < 256:=(s.getD a.toNat 0).toNat_lt
  rw[hb0]
  simp (disch:=omega) only[IntWalk.i64_in]
  refine Tr.all_t (J0 (by omega)) (Tr.all_t (J0 h1) (Tr.all_t (J0 (by omega)) (Tr.all_ret (.inr ⟨_,rfl,⟨by omega,?_⟩,by omega⟩))))
  rw[dif_pos hk]
  congr 1
  omega
 ·rw[dif_neg hk,hto]
  exact Tr.all_f (V0 (by omega)) (Tr.all_ret (.inl rfl))
def t95 (s:List UInt8):Tr Res:=.br (bigS s&&decide (0=(0:Ty.den (Ty.int .i64)))) (.br (decide ((↑(whAt s 0):Int)≥(↑s.length:Int))) (.ret ([.int .i64 0],[])) (.br (decide (0≤IntKind.wrap .i64 ((↑(whAt s 0):Int)+1))&&decide (IntKind.wrap .i64 ((↑(whAt s 0):Int)+1)≤(↑s.length:Int))) (.br (decide (0≤0)&&decide (0≤IntKind.wrap .i64 ((↑(whAt s 0):Int)+1))) (.br (bigS (List.take (Int.toNat (IntKind.wrap .i64 ((↑(whAt s 0):Int)+1)) - Int.toNat 0) (List.drop (Int.toNat 0) s))) (.br (!mayV (List.take (Int.toNat (IntKind.wrap .i64 ((↑(whAt s 0):Int)+1)) - Int.toNat 0) (List.drop (Int.toNat 0) s))) (.ret ([.int .i64 0],[])) (.ret ([.int .i64 (IntKind.wrap .i64 ((↑(whAt s 0):Int)+1))],[]))) .no) .no) .no)) .no
def os95:OSpec:={ f:=95,sh:=[.d .str false],so:=[],F:=fun(s,_) _=>t95 s }
theorem fn95 (s:List UInt8):evC T0 (orcB [U0z] []) (lpOf h95 0 (lsOf [ls95])) c95 1000000 (U1 [.str s] [] Try.f95.ntmps) (Q0 T0 false 0 Try.f95)=(t95 s).get:=by kernel_rfl
theorem ok95:os95.Ok Try.prog:=by
 refine Q4 Q2 tab0 (U0 (all_cons X0o Z0) Z0) h95 (d:=0) (n0:=0) (S:=lsOf [ls95]) Try.func95 (by kernel_rfl) (c:=c95) (by kernel_rfl) rfl (Z8 (xs:=[(0,b95)]) (by kernel_rfl) (all_cons (J9 (J3n _)) Z0)) (by omega) (by kernel_rfl) ?_
 intro x'' y'' q'' hq''
 obtain⟨(s:List UInt8),_⟩:=x''
 exact(fn95 s).trans hq''
def fs95:FSpec:=fsT 95 [(.str,false)] [((.int .i64),false)] fun(s,_)=>t95 s
theorem okf95:fs95.Ok Try.prog:=V6 fun x'' r'' hr''=>ok95 x'' () r'' hr''
def U10:FSpec:=fs95.like fun(s,_)=>.on (bigS s) ((Q9 s:Int),())
theorem Q3l:U10.Ok Try.prog:=by
 refine J4 okf95 _ ?_
 rintro⟨(s:List UInt8),_⟩ y h
 obtain⟨hb,rfl⟩:=Tr.get_on h
 refine X3 (vs:=[.int .i64 (Q9 s)]) rfl rfl (Tr.get_of_all ?_)
 show (t95 s).all _
 unfold t95 Q9
 have hB:s.length≤1000000000000:=by simpa[bigS] using hb
 refine Tr.all_t (by rw[hb];rfl) ?_
 by_cases hk:whAt s 0 < s.length
 ·have hw:IntKind.wrap .i64 ((whAt s 0:Int)+1)=(whAt s 0:Int)+1:=IntWalk.i64_in _ (by omega)
  have hs:List.take (Int.toNat ((whAt s 0:Int)+1) - Int.toNat 0) (List.drop (Int.toNat 0) s)=s.take (whAt s 0+1):=by
   rw[show Int.toNat ((whAt s 0:Int)+1) - Int.toNat 0=whAt s 0+1 by omega];rfl
  rw[hw,hs]
  refine Tr.all_f (V0 (by omega)) (Tr.all_t (by rw[J0 (by omega),J0 (by omega)];rfl) (Tr.all_t (by rw[J0 (by omega),J0 (by omega)];rfl) (Tr.all_t (by simp[bigS];omega) (Tr.all_br (fun c1=>Tr.all_ret ?_) fun c1=>Tr.all_ret ?_))))
  ·rw[Bool.not_eq_true'] at c1
   rw[if_neg (by rw[c1];simp)]
   rfl
  ·rw[Bool.not_eq_false'] at c1
   rw[if_pos ⟨hk,c1⟩]
   rfl
 ·rw[if_neg (fun h=>hk h.1)]
  exact Tr.all_t (J0 (by omega)) (Tr.all_ret rfl)
def t96 (s:List UInt8):Tr Res:=.br (bigS s&&decide (0=(0:Ty.den (Ty.int .i64)))) (.br (!s==[]) (.ret ([.bool ((↑(txAt s 0):Int)==(↑s.length:Int))],[])) (.ret ([.bool false],[]))) .no
def os96:OSpec:={ f:=96,sh:=[.d .str false],so:=[],F:=fun(s,_) _=>t96 s }
theorem fn96 (s:List UInt8):evC T0 (orcB [] []) (lpOf h96 0 (lsOf [ls96])) c96 1000000 (U1 [.str s] [] Try.f96.ntmps) (Q0 T0 false 0 Try.f96)=(t96 s).get:=by kernel_rfl
theorem ok96:os96.Ok Try.prog:=by
 refine Q4 Q2 tab0 (U0 Z0 Z0) h96 (d:=0) (n0:=0) (S:=lsOf [ls96]) Try.func96 (by kernel_rfl) (c:=c96) (by kernel_rfl) rfl (Z8 (xs:=[(0,b96)]) (by kernel_rfl) (all_cons (J9 (J3s _)) Z0)) (by omega) (by kernel_rfl) ?_
 intro x'' y'' q'' hq''
 obtain⟨(s:List UInt8),_⟩:=x''
 exact(fn96 s).trans hq''
def fs96:FSpec:=fsT 96 [(.str,false)] [(.bool,false)] fun(s,_)=>t96 s
theorem okf96:fs96.Ok Try.prog:=V6 fun x'' r'' hr''=>ok96 x'' () r'' hr''
def Q17:FSpec:=fs96.like fun(s,_)=>.on (bigS s) (X0e s,())
theorem U3k:Q17.Ok Try.prog:=by
 refine J4 okf96 _ ?_
 rintro⟨(s:List UInt8),_⟩ y h
 obtain⟨hb,rfl⟩:=Tr.get_on h
 refine X3 (vs:=[.bool (X0e s)]) rfl rfl (Tr.get_of_all ?_)
 show (t96 s).all _
 unfold t96 X0e
 refine Tr.all_t (by rw[hb];rfl) (Tr.all_br (fun c1=>Tr.all_ret ?_) fun c1=>Tr.all_ret ?_)
 ·have:s.isEmpty=false:=by cases s with | nil=>cases c1 | cons _ _=>rfl
  rw[this]
  congr 3
  rw[Bool.eq_iff_iff]
  simp
  omega
 ·have:s.isEmpty=true:=by cases s with | nil=>rfl | cons _ _=>cases c1
  rw[this]
  rfl
def Z0s:FSpec:=fs94.like fun(k,_)=>.ret (layV k,())
theorem J2q:Z0s.Ok Try.prog:=by
 refine J4 okf94 _ ?_
 rintro⟨(k:Int),_⟩ y h
 cases h
 refine X3 (vs:=[.list (.int .i64) (layV k)]) rfl rfl (Tr.get_of_all ?_)
 show (t94 k).all _
 by_cases h1:k=1
 ·subst h1;exact Tr.all_f rfl (Tr.all_ret rfl)
 by_cases h2:k=28
 ·subst h2;exact Tr.all_f rfl (Tr.all_ret rfl)
 by_cases h3:k=2
 ·subst h3;exact Tr.all_f rfl (Tr.all_ret rfl)
 by_cases h4:k=5
 ·subst h4;exact Tr.all_f rfl (Tr.all_ret rfl)
 by_cases h5:k=12
 ·subst h5;exact Tr.all_f rfl (Tr.all_ret rfl)
 by_cases h6:k=15
 ·subst h6;exact Tr.all_f rfl (Tr.all_ret rfl)
 by_cases h7:k=6
 ·subst h7;exact Tr.all_f rfl (Tr.all_ret rfl)
 by_cases h8:k=16
 ·subst h8;exact Tr.all_f rfl (Tr.all_ret rfl)
 refine Tr.all_t ?_ (Tr.all_ret ?_)
 ·simp[hasM,X0j,Ty.keq,h1,h2,h3,h4,h5,h6,h7,h8]
 ·simp[layV,h1,h2,h3,h4,h5,h6,h7,h8]
noncomputable def b77:Code:=Z7 c77 0
def ls77:LoopSpec:={ bid:=0,sh:=[.d .str false,.row 0,.d (.list (.int .i64)) false,.d (.int .i64) false,.d (.int .i64) false],so:=[.row .str],F:=fun(d,ps,n,i,_) (l,_)=>.on2 (cutC d ps n i l) ((cutS ps d l).1) (.exit 0,[.str (cutS ps d l).2.1,.dead,.dead,.rowA 0],[.row .str (cutS ps d l).2.2]) (.ret,[.str (cutS ps d l).2.1,.rowA 0,.bool false,.rowA 1],[.row .str [],.row .str (cutS ps d l).2.2]) }
def r77 (d:List UInt8) (ps:List Int) (n i:Int) (l:List (List UInt8)):Tr (St⊕(Ex×St)):=.br (decide (i < n)) (.br (decide (0≤i)) (.br (decide (i < (↑ps.length:Int))) (.br (ps.getD i.toNat (Ty.dflt (Ty.int .i64))==(-1:Int)) (.br (bigS d) (.br (decide ((↑(Q9 d):Int) > (↑d.length:Int))) (.ret (.inr (.ret,stOf [1,4,5,6] [.str d,.rowA 0,.bool false,.rowA 1] [.row Ty.str [],.row Ty.str l]))) (.br (ps.getD i.toNat (Ty.dflt (Ty.int .i64))==(-1:Int)) (.br ((↑(Q9 d):Int)==0) (.ret (.inr (.ret,stOf [1,4,5,6] [.str d,.rowA 0,.bool false,.rowA 1] [.row Ty.str [],.row Ty.str l]))) (.br (decide (0≤(↑(Q9 d):Int))&&decide ((↑(Q9 d):Int)≤(↑d.length:Int))) (.br (fits (List.length l+1) 16) (.br (decide (0≤(↑d.length:Int))&&decide ((↑d.length:Int)≤(↑d.length:Int))) (.br (decide (0≤(↑(Q9 d):Int))&&decide ((↑(Q9 d):Int)≤(↑d.length:Int))) (.ret (.inl (stOf [1,6,11,12,13] [.str (List.take (Int.toNat (↑d.length:Int) - Int.toNat (↑(Q9 d):Int)) (List.drop (Int.toNat (↑(Q9 d):Int)) d)),.rowA 0,.list (.int .i64) ps,.int .i64 n,.int .i64 (IntKind.wrap .i64 (i+1))] [.row Ty.str (l++[List.take (Int.toNat (↑(Q9 d):Int) - Int.toNat 0) (List.drop (Int.toNat 0) d)])]))) .no) .no) .no) .no)) (.br (decide (0≤(↑(Q9 d):Int))&&decide ((↑(Q9 d):Int)≤(↑d.length:Int))) (.br (fits (List.length l+1) 16) (.br (decide (0≤(↑d.length:Int))&&decide ((↑d.length:Int)≤(↑d.length:Int))) (.br (decide (0≤(↑(Q9 d):Int))&&decide ((↑(Q9 d):Int)≤(↑d.length:Int))) (.ret (.inl (stOf [1,6,11,12,13] [.str (List.take (Int.toNat (↑d.length:Int) - Int.toNat (↑(Q9 d):Int)) (List.drop (Int.toNat (↑(Q9 d):Int)) d)),.rowA 0,.list (.int .i64) ps,.int .i64 n,.int .i64 (IntKind.wrap .i64 (i+1))] [.row Ty.str (l++[List.take (Int.toNat (↑(Q9 d):Int) - Int.toNat 0) (List.drop (Int.toNat 0) d)])]))) .no) .no) .no) .no))) .no) (.br (ps.getD i.toNat (Ty.dflt (Ty.int .i64))==(-2:Int)) (.br (bigS d) (.br (X0e d) (.br (decide ((↑d.length:Int) > (↑d.length:Int))) (.ret (.inr (.ret,stOf [1,4,5,6] [.str d,.rowA 0,.bool false,.rowA 1] [.row Ty.str [],.row Ty.str l]))) (.br (ps.getD i.toNat (Ty.dflt (Ty.int .i64))==(-1:Int)) (.br ((↑d.length:Int)==0) (.ret (.inr (.ret,stOf [1,4,5,6] [.str d,.rowA 0,.bool false,.rowA 1] [.row Ty.str [],.row Ty.str l]))) (.br (decide (0≤(↑d.length:Int))&&decide ((↑d.length:Int)≤(↑d.length:Int))) (.br (fits (List.length l+1) 16) (.br (decide (0≤(↑d.length:Int))&&decide ((↑d.length:Int)≤(↑d.length:Int))) (.br (decide (0≤(↑d.length:Int))&&decide ((↑d.length:Int)≤(↑d.length:Int))) (.ret (.inl (stOf [1,6,11,12,13] [.str (List.take (Int.toNat (↑d.length:Int) - Int.toNat (↑d.length:Int)) (List.drop (Int.toNat (↑d.length:Int)) d)),.rowA 0,.list (.int .i64) ps,.int .i64 n,.int .i64 (IntKind.wrap .i64 (i+1))] [.row Ty.str (l++[List.take (Int.toNat (↑d.length:Int) - Int.toNat 0) (List.drop (Int.toNat 0) d)])]))) .no) .no) .no) .no)) (.br (decide (0≤(↑d.length:Int))&&decide ((↑d.length:Int)≤(↑d.length:Int))) (.br (fits (List.length l+1) 16) (.br (decide (0≤(↑d.length:Int))&&decide ((↑d.length:Int)≤(↑d.length:Int))) (.br (decide (0≤(↑d.length:Int))&&decide ((↑d.length:Int)≤(↑d.length:Int))) (.ret (.inl (stOf [1,6,11,12,13] [.str (List.take (Int.toNat (↑d.length:Int) - Int.toNat (↑d.length:Int)) (List.drop (Int.toNat (↑d.length:Int)) d)),.rowA 0,.list (.int .i64) ps,.int .i64 n,.int .i64 (IntKind.wrap .i64 (i+1))] [.row Ty.str (l++[List.take (Int.toNat (↑d.length:Int) - Int.toNat 0) (List.drop (Int.toNat 0) d)])]))) .no) .no) .no) .no))) (.br (ps.getD i.toNat (Ty.dflt (Ty.int .i64))==(-3:Int)) (.br (decide ((↑d.length:Int) > (↑d.length:Int))) (.ret (.inr (.ret,stOf [1,4,5,6] [.str d,.rowA 0,.bool false,.rowA 1] [.row Ty.str [],.row Ty.str l]))) (.br (ps.getD i.toNat (Ty.dflt (Ty.int .i64))==(-1:Int)) (.br ((↑d.length:Int)==0) (.ret (.inr (.ret,stOf [1,4,5,6] [.str d,.rowA 0,.bool false,.rowA 1] [.row Ty.str [],.row Ty.str l]))) (.br (decide (0≤(↑d.length:Int))&&decide ((↑d.length:Int)≤(↑d.length:Int))) (.br (fits (List.length l+1) 16) (.br (decide (0≤(↑d.length:Int))&&decide ((↑d.length:Int)≤(↑d.length:Int))) (.br (decide (0≤(↑d.length:Int))&&decide ((↑d.length:Int)≤(↑d.length:Int))) (.ret (.inl (stOf [1,6,11,12,13] [.str (List.take (Int.toNat (↑d.length:Int) - Int.toNat (↑d.length:Int)) (List.drop (Int.toNat (↑d.length:Int)) d)),.rowA 0,.list (.int .i64) ps,.int .i64 n,.int .i64 (IntKind.wrap .i64 (i+1))] [.row Ty.str (l++[List.take (Int.toNat (↑d.length:Int) - Int.toNat 0) (List.drop (Int.toNat 0) d)])]))) .no) .no) .no) .no)) (.br (decide (0≤(↑d.length:Int))&&decide ((↑d.length:Int)≤(↑d.length:Int))) (.br (fits (List.length l+1) 16) (.br (decide (0≤(↑d.length:Int))&&decide ((↑d.length:Int)≤(↑d.length:Int))) (.br (decide (0≤(↑d.length:Int))&&decide ((↑d.length:Int)≤(↑d.length:Int))) (.ret (.inl (stOf [1,6,11,12,13] [.str (List.take (Int.toNat (↑d.length:Int) - Int.toNat (↑d.length:Int)) (List.drop (Int.toNat (↑d.length:Int)) d)),.rowA 0,.list (.int .i64) ps,.int .i64 n,.int .i64 (IntKind.wrap .i64 (i+1))] [.row Ty.str (l++[List.take (Int.toNat (↑d.length:Int) - Int.toNat 0) (List.drop (Int.toNat 0) d)])]))) .no) .no) .no) .no))) (.br (decide (ps.getD i.toNat (Ty.dflt (Ty.int .i64)) < 0)) (.ret (.inr (.ret,stOf [1,4,5,6] [.str d,.rowA 0,.bool false,.rowA 1] [.row Ty.str [],.row Ty.str l]))) (.br (decide (ps.getD i.toNat (Ty.dflt (Ty.int .i64)) > (↑d.length:Int))) (.ret (.inr (.ret,stOf [1,4,5,6] [.str d,.rowA 0,.bool false,.rowA 1] [.row Ty.str [],.row Ty.str l]))) (.br (ps.getD i.toNat (Ty.dflt (Ty.int .i64))==(-1:Int)) (.br (ps.getD i.toNat (Ty.dflt (Ty.int .i64))==0) (.ret (.inr (.ret,stOf [1,4,5,6] [.str d,.rowA 0,.bool false,.rowA 1] [.row Ty.str [],.row Ty.str l]))) (.br (decide (0≤List.getD ps i.toNat (Ty.dflt (Ty.int .i64)))&&decide (ps.getD i.toNat (Ty.dflt (Ty.int .i64))≤(↑d.length:Int))) (.br (decide (0≤0)&&decide (0≤List.getD ps i.toNat (Ty.dflt (Ty.int .i64)))) (.br (fits (List.length l+1) 16) (.br (decide (0≤(↑d.length:Int))&&decide ((↑d.length:Int)≤(↑d.length:Int))) (.br (decide (0≤List.getD ps i.toNat (Ty.dflt (Ty.int .i64)))&&decide (ps.getD i.toNat (Ty.dflt (Ty.int .i64))≤(↑d.length:Int))) (.ret (.inl (stOf [1,6,11,12,13] [.str (List.take (Int.toNat (↑d.length:Int) - Int.toNat (ps.getD i.toNat (Ty.dflt (Ty.int .i64)))) (List.drop (Int.toNat (ps.getD i.toNat (Ty.dflt (Ty.int .i64)))) d)),.rowA 0,.list (.int .i64) ps,.int .i64 n,.int .i64 (IntKind.wrap .i64 (i+1))] [.row Ty.str (l++[List.take (Int.toNat (ps.getD i.toNat (Ty.dflt (Ty.int .i64))) - Int.toNat 0) (List.drop (Int.toNat 0) d)])]))) .no) .no) .no) .no) .no)) (.br (decide (0≤List.getD ps i.toNat (Ty.dflt (Ty.int .i64)))&&decide (ps.getD i.toNat (Ty.dflt (Ty.int .i64))≤(↑d.length:Int))) (.br (decide (0≤0)&&decide (0≤List.getD ps i.toNat (Ty.dflt (Ty.int .i64)))) (.br (fits (List.length l+1) 16) (.br (decide (0≤(↑d.length:Int))&&decide ((↑d.length:Int)≤(↑d.length:Int))) (.br (decide (0≤List.getD ps i.toNat (Ty.dflt (Ty.int .i64)))&&decide (ps.getD i.toNat (Ty.dflt (Ty.int .i64))≤(↑d.length:Int))) (.ret (.inl (stOf [1,6,11,12,13] [.str (List.take (Int.toNat (↑d.length:Int) - Int.toNat (ps.getD i.toNat (Ty.dflt (Ty.int .i64)))) (List.drop (Int.toNat (ps.getD i.toNat (Ty.dflt (Ty.int .i64)))) d)),.rowA 0,.list (.int .i64) ps,.int .i64 n,.int .i64 (IntKind.wrap .i64 (i+1))] [.row Ty.str (l++[List.take (Int.toNat (ps.getD i.toNat (Ty.dflt (Ty.int .i64))) - Int.toNat 0) (List.drop (Int.toNat 0) d)])]))) .no) .no) .no) .no) .no)))))) .no) (.br (ps.getD i.toNat (Ty.dflt (Ty.int .i64))==(-3:Int)) (.br (decide ((↑d.length:Int) > (↑d.length:Int))) (.ret (.inr (.ret,stOf [1,4,5,6] [.str d,.rowA 0,.bool false,.rowA 1] [.row Ty.str [],.row Ty.str l]))) (.br (ps.getD i.toNat (Ty.dflt (Ty.int .i64))==(-1:Int)) (.br ((↑d.length:Int)==0) (.ret (.inr (.ret,stOf [1,4,5,6] [.str d,.rowA 0,.bool false,.rowA 1] [.row Ty.str [],.row Ty.str l]))) (.br (decide (0≤(↑d.length:Int))&&decide ((↑d.length:Int)≤(↑d.length:Int))) (.br (fits (List.length l+1) 16) (.br (decide (0≤(↑d.length:Int))&&decide ((↑d.length:Int)≤(↑d.length:Int))) (.br (decide (0≤(↑d.length:Int))&&decide ((↑d.length:Int)≤(↑d.length:Int))) (.ret (.inl (stOf [1,6,11,12,13] [.str (List.take (Int.toNat (↑d.length:Int) - Int.toNat (↑d.length:Int)) (List.drop (Int.toNat (↑d.length:Int)) d)),.rowA 0,.list (.int .i64) ps,.int .i64 n,.int .i64 (IntKind.wrap .i64 (i+1))] [.row Ty.str (l++[List.take (Int.toNat (↑d.length:Int) - Int.toNat 0) (List.drop (Int.toNat 0) d)])]))) .no) .no) .no) .no)) (.br (decide (0≤(↑d.length:Int))&&decide ((↑d.length:Int)≤(↑d.length:Int))) (.br (fits (List.length l+1) 16) (.br (decide (0≤(↑d.length:Int))&&decide ((↑d.length:Int)≤(↑d.length:Int))) (.br (decide (0≤(↑d.length:Int))&&decide ((↑d.length:Int)≤(↑d.length:Int))) (.ret (.inl (stOf [1,6,11,12,13] [.str (List.take (Int.toNat (↑d.length:Int) - Int.toNat (↑d.length:Int)) (List.drop (Int.toNat (↑d.length:Int)) d)),.rowA 0,.list (.int .i64) ps,.int .i64 n,.int .i64 (IntKind.wrap .i64 (i+1))] [.row Ty.str (l++[List.take (Int.toNat (↑d.length:Int) - Int.toNat 0) (List.drop (Int.toNat 0) d)])]))) .no) .no) .no) .no))) (.br (decide (ps.getD i.toNat (Ty.dflt (Ty.int .i64)) < 0)) (.ret (.inr (.ret,stOf [1,4,5,6] [.str d,.rowA 0,.bool false,.rowA 1] [.row Ty.str [],.row Ty.str l]))) (.br (decide (ps.getD i.toNat (Ty.dflt (Ty.int .i64)) > (↑d.length:Int))) (.ret (.inr (.ret,stOf [1,4,5,6] [.str d,.rowA 0,.bool false,.rowA 1] [.row Ty.str [],.row Ty.str l]))) (.br (ps.getD i.toNat (Ty.dflt (Ty.int .i64))==(-1:Int)) (.br (ps.getD i.toNat (Ty.dflt (Ty.int .i64))==0) (.ret (.inr (.ret,stOf [1,4,5,6] [.str d,.rowA 0,.bool false,.rowA 1] [.row Ty.str [],.row Ty.str l]))) (.br (decide (0≤List.getD ps i.toNat (Ty.dflt (Ty.int .i64)))&&decide (ps.getD i.toNat (Ty.dflt (Ty.int .i64))≤(↑d.length:Int))) (.br (decide (0≤0)&&decide (0≤List.getD ps i.toNat (Ty.dflt (Ty.int .i64)))) (.br (fits (List.length l+1) 16) (.br (decide (0≤(↑d.length:Int))&&decide ((↑d.length:Int)≤(↑d.length:Int))) (.br (decide (0≤List.getD ps i.toNat (Ty.dflt (Ty.int .i64)))&&decide (ps.getD i.toNat (Ty.dflt (Ty.int .i64))≤(↑d.length:Int))) (.ret (.inl (stOf [1,6,11,12,13] [.str (List.take (Int.toNat (↑d.length:Int) - Int.toNat (ps.getD i.toNat (Ty.dflt (Ty.int .i64)))) (List.drop (Int.toNat (ps.getD i.toNat (Ty.dflt (Ty.int .i64)))) d)),.rowA 0,.list (.int .i64) ps,.int .i64 n,.int .i64 (IntKind.wrap .i64 (i+1))] [.row Ty.str (l++[List.take (Int.toNat (ps.getD i.toNat (Ty.dflt (Ty.int .i64))) - Int.toNat 0) (List.drop (Int.toNat 0) d)])]))) .no) .no) .no) .no) .no)) (.br (decide (0≤List.getD ps i.toNat (Ty.dflt (Ty.int .i64)))&&decide (ps.getD i.toNat (Ty.dflt (Ty.int .i64))≤(↑d.length:Int))) (.br (decide (0≤0)&&decide (0≤List.getD ps i.toNat (Ty.dflt (Ty.int .i64)))) (.br (fits (List.length l+1) 16) (.br (decide (0≤(↑d.length:Int))&&decide ((↑d.length:Int)≤(↑d.length:Int))) (.br (decide (0≤List.getD ps i.toNat (Ty.dflt (Ty.int .i64)))&&decide (ps.getD i.toNat (Ty.dflt (Ty.int .i64))≤(↑d.length:Int))) (.ret (.inl (stOf [1,6,11,12,13] [.str (List.take (Int.toNat (↑d.length:Int) - Int.toNat (ps.getD i.toNat (Ty.dflt (Ty.int .i64)))) (List.drop (Int.toNat (ps.getD i.toNat (Ty.dflt (Ty.int .i64)))) d)),.rowA 0,.list (.int .i64) ps,.int .i64 n,.int .i64 (IntKind.wrap .i64 (i+1))] [.row Ty.str (l++[List.take (Int.toNat (ps.getD i.toNat (Ty.dflt (Ty.int .i64))) - Int.toNat 0) (List.drop (Int.toNat 0) d)])]))) .no) .no) .no) .no) .no))))))) .no) .no) (.ret (.inr (.exit 0,stOf [1,4,5,6] [.str d,.dead,.dead,.rowA 0] [.row Ty.str l])))
theorem J36 (lp:Lp) (d:List UInt8) (ps:List Int) (n i:Int) (l:List (List UInt8)):evC T0 (orcB [Z0s,U10,Q17] []) lp b77 0 (stOf [1,6,11,12,13] [.str d,.rowA 0,.list (.int .i64) ps,.int .i64 n,.int .i64 i] [.row .str l]) (X1 [1,6,11,12,13] [1,4,5,6] 0)=(r77 d ps n i l).get:=by kernel_rfl
theorem wf77 (ps:List Int) (n:Int) (I'':List UInt8→Int→List (List UInt8)→Prop) (m'':List UInt8→Int→List (List UInt8)→Nat) (r'':Ex×St) (h:∀ (d:List UInt8) (i:Int) (l:List (List UInt8)),I'' d i l→(r77 d ps n i l).all fun x''=>x''=.inr r''∨∃ (d':List UInt8) (i':Int) (l':List (List UInt8)),x''=.inl (stOf [1,6,11,12,13] [.str d',.rowA 0,.list (.int .i64) ps,.int .i64 n,.int .i64 i'] [.row .str l'])∧I'' d' i' l'∧m'' d' i' l' < m'' d i l) (lp:Lp) (d:List UInt8) (i:Int) (l:List (List UInt8)):I'' d i l→
    Q3 (fun st=>evC T0 (orcB [Z0s,U10,Q17] []) lp b77 0 st (X1 [1,6,11,12,13] [1,4,5,6] 0)) (stOf [1,6,11,12,13] [.str d,.rowA 0,.list (.int .i64) ps,.int .i64 n,.int .i64 i] [.row .str l])=some r'':=
 V8 (fun a'':List UInt8×Int×List (List UInt8)=>stOf [1,6,11,12,13] [.str a''.1,.rowA 0,.list (.int .i64) ps,.int .i64 n,.int .i64 a''.2.1] [.row .str a''.2.2]) (fun a''=>I'' a''.1 a''.2.1 a''.2.2) (fun a''=>m'' a''.1 a''.2.1 a''.2.2) r'' (fun a''=>r77 a''.1 ps n a''.2.1 a''.2.2)
  (fun a'' x hx=>(J36 lp a''.1 ps n a''.2.1 a''.2.2).trans hx) (fun a'' ha=>Tr.all_mono (fun x'' hx=>hx.imp id fun⟨d',i',l',h1,h2,h3⟩=>⟨(d',i',l'),h1,h2,h3⟩) (h (a''.1) (a''.2.1) (a''.2.2) ha)) (d,i,l)
def cutI (ps0:List Int) (d0:List UInt8) (l0:List (List UInt8)) (d:List UInt8) (i:Int) (l:List (List UInt8)):Prop:=0≤i∧i≤ps0.length∧bigS d=true∧l.length=i.toNat∧cutS (ps0.drop i.toNat) d l=cutS ps0 d0 l0
theorem U0y {P:St⊕(Ex×St)→Prop} {d:List UInt8} {l:List (List UInt8)} {ps:List Int} {n i sz:Int} (h0:0≤sz) (h1:sz≤d.length) (hf:fits (l.length+1) 16=true)
    (hr:P (Sum.inl (stOf [1,6,11,12,13] [AV.str (d.drop sz.toNat),AV.rowA 0,AV.list (Ty.int IntKind.i64) ps,AV.int IntKind.i64 n,AV.int IntKind.i64 (IntKind.wrap IntKind.i64 (i+(1:Int)))] [LObj.row Ty.str (l++[d.take sz.toNat])]))) :
    (Tr.br (decide ((0:Int)≤sz)&&decide (sz≤(↑(List.length d):Int))) (Tr.br (fits (List.length l+1) 16) (Tr.br (decide ((0:Int)≤(↑(List.length d):Int))&&decide ((↑(List.length d):Int)≤(↑(List.length d):Int))) (Tr.br (decide ((0:Int)≤sz)&&decide (sz≤(↑(List.length d):Int)))
     (Tr.ret (Sum.inl (stOf [1,6,11,12,13] [AV.str (List.take (Int.toNat (↑(List.length d):Int) - Int.toNat sz) (List.drop (Int.toNat sz) d)),AV.rowA 0,AV.list (Ty.int IntKind.i64) ps,AV.int IntKind.i64 n,AV.int IntKind.i64 (IntKind.wrap IntKind.i64 (i+(1:Int)))] [LObj.row Ty.str (l++[List.take (Int.toNat sz - Int.toNat (0:Int)) (List.drop (Int.toNat (0:Int)) d)])]))) Tr.no) Tr.no) Tr.no) Tr.no).all P:=by
 have e:List.take (Int.toNat (↑(List.length d):Int) - Int.toNat sz) (List.drop (Int.toNat sz) d)=d.drop sz.toNat:=List.take_of_length_le (by simp)
 have e2:List.take (Int.toNat sz - Int.toNat (0:Int)) (List.drop (Int.toNat (0:Int)) d)=d.take sz.toNat:=rfl
 rw[e,e2]
 refine Tr.all_t (by rw[J0 h0,J0 h1];rfl) (Tr.all_t hf (Tr.all_t (by rw[J0 (by omega),J0 (by omega)];rfl) (Tr.all_t (by rw[J0 h0,J0 h1];rfl) (Tr.all_ret hr))))
theorem Z2l {P:St⊕(Ex×St)→Prop} {d:List UInt8} {l:List (List UInt8)} {ps:List Int} {n i sz:Int} (h0:0≤sz) (h1:sz≤d.length) (hf:fits (l.length+1) 16=true)
    (hr:P (Sum.inl (stOf [1,6,11,12,13] [AV.str (d.drop sz.toNat),AV.rowA 0,AV.list (Ty.int IntKind.i64) ps,AV.int IntKind.i64 n,AV.int IntKind.i64 (IntKind.wrap IntKind.i64 (i+(1:Int)))] [LObj.row Ty.str (l++[d.take sz.toNat])]))) :
    (Tr.br (decide ((0:Int)≤sz)&&decide (sz≤(↑(List.length d):Int))) (Tr.br (decide ((0:Int)≤(0:Int))&&decide ((0:Int)≤sz)) (Tr.br (fits (List.length l+1) 16) (Tr.br (decide ((0:Int)≤(↑(List.length d):Int))&&decide ((↑(List.length d):Int)≤(↑(List.length d):Int))) (Tr.br (decide ((0:Int)≤sz)&&decide (sz≤(↑(List.length d):Int)))
     (Tr.ret (Sum.inl (stOf [1,6,11,12,13] [AV.str (List.take (Int.toNat (↑(List.length d):Int) - Int.toNat sz) (List.drop (Int.toNat sz) d)),AV.rowA 0,AV.list (Ty.int IntKind.i64) ps,AV.int IntKind.i64 n,AV.int IntKind.i64 (IntKind.wrap IntKind.i64 (i+(1:Int)))] [LObj.row Ty.str (l++[List.take (Int.toNat sz - Int.toNat (0:Int)) (List.drop (Int.toNat (0:Int)) d)])]))) Tr.no) Tr.no) Tr.no) Tr.no) Tr.no).all P:=by
 have e:List.take (Int.toNat (↑(List.length d):Int) - Int.toNat sz) (List.drop (Int.toNat sz) d)=d.drop sz.toNat:=List.take_of_length_le (by simp)
 have e2:List.take (Int.toNat sz - Int.toNat (0:Int)) (List.drop (Int.toNat (0:Int)) d)=d.take sz.toNat:=rfl
 rw[e,e2]
 refine Tr.all_t (by rw[J0 h0,J0 h1];rfl) (Tr.all_t (by rw[J0 h0];rfl) (Tr.all_t hf (Tr.all_t (by rw[J0 (by omega),J0 (by omega)];rfl) (Tr.all_t (by rw[J0 h0,J0 h1];rfl) (Tr.all_ret hr)))))
theorem J3l:ls77.Ok T0 (orcB [Z0s,U10,Q17] []) h77 0 0 b77:=by
 intro q'' hq'' x'' y'' r'' h
 obtain⟨(d:List UInt8),(ps:List Int),(n:Int),(i:Int),_⟩:=x''
 obtain⟨(l:List (List UInt8)),_⟩:=y''
 obtain⟨hc,rfl⟩:=Tr.get_on2 h
 show Q3 (fun st=>evC T0 (orcB [Z0s,U10,Q17] []) (lpN T0 (orcB [Z0s,U10,Q17] []) h77 0 q'') b77 0 st (X1 [1,6,11,12,13] [1,4,5,6] 0)) (stOf [1,6,11,12,13] [.str d,.rowA 0,.list (.int .i64) ps,.int .i64 n,.int .i64 i] [.row .str l])=some ((bif (cutS ps d l).1 then (.exit 0,[.str (cutS ps d l).2.1,.dead,.dead,.rowA 0],[.row .str (cutS ps d l).2.2]) else (.ret,[.str (cutS ps d l).2.1,.rowA 0,.bool false,.rowA 1],[.row .str [],.row .str (cutS ps d l).2.2]):Ex×List AV×List LObj).1,stOf [1,4,5,6] (bif (cutS ps d l).1 then (.exit 0,[.str (cutS ps d l).2.1,.dead,.dead,.rowA 0],[.row .str (cutS ps d l).2.2]) else (.ret,[.str (cutS ps d l).2.1,.rowA 0,.bool false,.rowA 1],[.row .str [],.row .str (cutS ps d l).2.2]):Ex×List AV×List LObj).2.1 (bif (cutS ps d l).1 then (.exit 0,[.str (cutS ps d l).2.1,.dead,.dead,.rowA 0],[.row .str (cutS ps d l).2.2]) else (.ret,[.str (cutS ps d l).2.1,.rowA 0,.bool false,.rowA 1],[.row .str [],.row .str (cutS ps d l).2.2]):Ex×List AV×List LObj).2.2)
 simp only[cutC,Bool.and_eq_true,decide_eq_true_eq,noS,List.isEmpty_iff] at hc
 obtain⟨hb,rfl,rfl,rfl,hps⟩:=hc
 refine wf77 ps _ (cutI ps d []) (fun _ i _=>(ps.length - i).toNat) _ ?_ _ d 0 [] ⟨by omega,by omega,hb,rfl,rfl⟩
 clear hb
 rintro d' i l' ⟨h0,h1,hb,hl,hF⟩
 rw[←hF]
 have hB:d'.length≤1000000000000:=by simpa[bigS] using hb
 unfold r77
 by_cases hi:i < ps.length
 ·obtain⟨d1,_⟩:=U2i (Ty.dflt (Ty.int .i64)) h0 hi
  generalize List.getD ps (Int.toNat i) (Ty.dflt (Ty.int .i64))=x at d1
  rw[d1,cutS] at hF ⊢
  have hfit:fits (l'.length+1) 16=true:=Jw (by omega) (by omega)
  have hw:IntKind.wrap .i64 (i+1)=i+1:=IntWalk.i64_in _ (by omega)
  have nextI:∀ sz,szP x d'=sz→okP x d'=true→cutI ps d [] (d'.drop sz.toNat) (IntKind.wrap .i64 (i+1)) (l'++[d'.take sz.toNat])∧(ps.length - IntKind.wrap .i64 (i+1)).toNat < (ps.length - i).toNat:=fun sz hs ho=>by
   subst hs
   rw[hw]
   refine⟨⟨by omega,by omega,by simp[bigS];omega,by simp;omega,?_⟩,by omega⟩
   rw[←hF,if_pos ho]
  have hwh:=Z2m d'
  have hfail:okP x d'=false→(if okP x d'=true then cutS (List.drop (i+1).toNat ps) (List.drop (szP x d').toNat d') (l'++[List.take (szP x d').toNat d']) else (false,d',l'))=(false,d',l'):=fun h=>if_neg (by rw[h];simp)
  refine Tr.all_t (J0 hi) (Tr.all_t (J0 h0) (Tr.all_t (J0 hi) ?_))
  by_cases x1:x=-1
  ·have es:szP x d'=(Q9 d':Int):=by unfold szP;rw[if_pos x1]
   have eo:okP x d' = !decide ((Q9 d':Int)=0):=by
    unfold okP
    rw[es,J0 (by omega),J0 (by omega),J0 x1]
    rfl
   refine Tr.all_t (beq_iff_eq.2 x1) (Tr.all_t hb (Tr.all_f (V0 (by omega)) (Tr.all_t (beq_iff_eq.2 x1) (Tr.all_br (fun c=>Tr.all_ret (.inl ?_)) fun c=>U0y (by omega) (by omega) hfit (.inr ⟨_,_,_,rfl,nextI _ es ?_⟩)))))
   ·rw[hfail (by rw[eo,J0 (beq_iff_eq.1 c)];rfl)]
    rfl
   ·rw[eo,V0 (beq_eq_false_iff_ne.1 c)]
    rfl
  have hx1:(x == -1)=false:=beq_eq_false_iff_ne.2 x1
  have other:¬ (x=-2∧X0e d'=true∨x=-3)→szP x d'=x∧okP x d'=(decide (0≤x)&&decide (x≤(d'.length:Int))):=fun h=>by
   have es:szP x d'=x:=by unfold szP;rw[if_neg x1,if_neg h]
   refine⟨es,?_⟩
   unfold okP
   rw[es,V0 x1]
   simp
  have full:(x=-2∧X0e d'=true∨x=-3)→szP x d'=(d'.length:Int)∧okP x d'=true:=fun h=>by
   have es:szP x d'=(d'.length:Int):=by unfold szP;rw[if_neg x1,if_pos h]
   refine⟨es,?_⟩
   unfold okP
   rw[es,V0 x1]
   simp
  refine Tr.all_f hx1 (Tr.all_br (fun c2=>Tr.all_t hb (Tr.all_br (fun ct=>?_) fun ct=>?_)) fun c2=>?_)
  ·obtain⟨es,eo⟩:=full (.inl ⟨beq_iff_eq.1 c2,ct⟩)
   exact Tr.all_f (V0 (by omega)) (Tr.all_f hx1 (U0y (by omega) (by omega) hfit (.inr ⟨_,_,_,rfl,nextI _ es eo⟩)))
  ·have hx2:=beq_iff_eq.1 c2
   obtain⟨es,eo⟩:=other (by rw[ct];simp;omega)
   refine Tr.all_f (beq_eq_false_iff_ne.2 (by omega)) (Tr.all_t (J0 (by omega)) (Tr.all_ret (.inl ?_)))
   rw[hfail (by rw[eo,V0 (by omega)];rfl)]
   rfl
  ·refine Tr.all_br (fun c3=>?_) fun c3=>?_
   ·obtain⟨es,eo⟩:=full (.inr (beq_iff_eq.1 c3))
    exact Tr.all_f (V0 (by omega)) (Tr.all_f hx1 (U0y (by omega) (by omega) hfit (.inr ⟨_,_,_,rfl,nextI _ es eo⟩)))
   ·have hx2:=beq_eq_false_iff_ne.1 c2
    have hx3:=beq_eq_false_iff_ne.1 c3
    obtain⟨es,eo⟩:=other (by omega)
    refine Tr.all_br (fun c4=>Tr.all_ret (.inl ?_)) fun c4=>Tr.all_br (fun c5=>Tr.all_ret (.inl ?_)) fun c5=>?_
    ·simp only[decide_eq_true_eq] at c4
     rw[hfail (by rw[eo,V0 (by omega)];rfl)]
     rfl
    ·simp only[decide_eq_true_eq] at c5
     rw[hfail (by rw[eo,V0 (show ¬ x≤(d'.length:Int) by omega),Bool.and_false])]
     rfl
    ·simp only[decide_eq_false_iff_not] at c4 c5
     exact Tr.all_f hx1 (Z2l (by omega) (by omega) hfit (.inr ⟨_,_,_,rfl,nextI _ es (by rw[eo,J0 (by omega),J0 (by omega)];rfl)⟩))
 ·have:ps.drop i.toNat=[]:=List.drop_eq_nil_of_le (by omega)
  rw[this]
  exact Tr.all_f (V0 hi) (Tr.all_ret (.inl rfl))
def t77 (k:Int) (d:List UInt8):Tr Res:=.br (cutC d (layV k) (↑(List.length (layV k)):Int) 0 []) (.br (cutS (layV k) d []).1 (.ret ([.list Ty.str (cutS (layV k) d []).2.2,.bool ((cutS (layV k) d []).2.1==[])],[])) (.ret ([.list Ty.str [],.bool false],[]))) .no
def os77:OSpec:={ f:=77,sh:=[.d (.int .u16) false,.d .str false],so:=[],F:=fun(k,d,_) _=>t77 k d }
theorem fn77 (k:Int) (d:List UInt8):evC T0 (orcB [Z0s,U10,Q17] []) (lpOf h77 0 (lsOf [ls77])) c77 1000000 (U1 [.int .u16 k,.str d] [] Try.f77.ntmps) (Q0 T0 false 0 Try.f77)=(t77 k d).get:=by kernel_rfl
theorem ok77:os77.Ok Try.prog:=by
 refine Q4 Q2 tab0 (U0 (all_cons J2q (all_cons Q3l (all_cons U3k Z0))) Z0) h77 (d:=0) (n0:=0) (S:=lsOf [ls77]) Try.func77 (by kernel_rfl) (c:=c77) (by kernel_rfl) rfl (Z8 (xs:=[(0,b77)]) (by kernel_rfl) (all_cons (J9 J3l) Z0)) (by omega) (by kernel_rfl) ?_
 intro x'' y'' q'' hq''
 obtain⟨(k:Int),(d:List UInt8),_⟩:=x''
 exact(fn77 k d).trans hq''
def fs77:FSpec:=fsT 77 [((.int .u16),false),(.str,false)] [((.list .str),false),(.bool,false)] fun(k,d,_)=>t77 k d
theorem okf77:fs77.Ok Try.prog:=V6 fun x'' r'' hr''=>ok77 x'' () r'' hr''
theorem X2o (k:Int):(layV k).length≤10:=by
 unfold layV
 repeat' split
 all_goals simp
def V3i:FSpec:=fs77.like fun(k,d,_)=>.on (bigS d) (bif okV k d then V25 k d else [],okV k d&&(X1t k d).isEmpty,())
theorem V3l:V3i.Ok Try.prog:=by
 refine J4 okf77 _ ?_
 rintro⟨(k:Int),(d:List UInt8),_⟩ y h
 obtain⟨hb,rfl⟩:=Tr.get_on h
 refine X3 (vs:=[.list .str (bif okV k d then V25 k d else []),.bool (okV k d&&(X1t k d).isEmpty)]) rfl rfl (Tr.get_of_all ?_)
 show (t77 k d).all _
 unfold t77 okV V25 X1t
 have hl:=X2o k
 refine Tr.all_t (by simp[cutC,hb,noS,hl]) (Tr.all_br (fun c1=>Tr.all_ret ?_) fun c1=>Tr.all_ret ?_)
 ·rw[c1]
  have:((cutS (layV k) d []).2.1==[])=(cutS (layV k) d []).2.1.isEmpty:=by cases (cutS (layV k) d []).2.1<;>rfl
  rw[this]
  rfl
 ·rw[c1]
  rfl
def t65 (k:Int) (d:List UInt8):Tr Res:=.br (bigS d) (.br (okV k d&&List.isEmpty (X1t k d)) (.ret ([.bool (decide ((↑d.length:Int)≤65535))],[])) (.ret ([.bool false],[]))) .no
def os65:OSpec:={ f:=65,sh:=[.d (.int .u16) false,.d .str false],so:=[],F:=fun(k,d,_) _=>t65 k d }
theorem fn65 (k:Int) (d:List UInt8):evC T0 (orcB [Z0s,V3i] []) (lpOf h65 0 (lsOf [])) c65 1000000 (U1 [.int .u16 k,.str d] [] Try.f65.ntmps) (Q0 T0 false 0 Try.f65)=(t65 k d).get:=by kernel_rfl
theorem ok65:os65.Ok Try.prog:=by
 refine Q4 Q2 tab0 (U0 (all_cons J2q (all_cons V3l Z0)) Z0) h65 (d:=0) (n0:=0) (S:=lsOf []) Try.func65 (by kernel_rfl) (c:=c65) (by kernel_rfl) rfl (U3 (by kernel_rfl)) (by omega) (by kernel_rfl) ?_
 intro x'' y'' q'' hq''
 obtain⟨(k:Int),(d:List UInt8),_⟩:=x''
 exact(fn65 k d).trans hq''
def fs65:FSpec:=fsT 65 [((.int .u16),false),(.str,false)] [(.bool,false)] fun(k,d,_)=>t65 k d
theorem okf65:fs65.Ok Try.prog:=V6 fun x'' r'' hr''=>ok65 x'' () r'' hr''
def Z2c:FSpec:=fs65.like fun(k,d,_)=>.on (bigS d) (mayR k d,())
theorem Q24:Z2c.Ok Try.prog:=by
 refine J4 okf65 _ ?_
 rintro⟨(k:Int),(d:List UInt8),_⟩ y h
 obtain⟨hb,rfl⟩:=Tr.get_on h
 refine X3 (vs:=[.bool (mayR k d)]) rfl rfl (Tr.get_of_all ?_)
 show (t65 k d).all _
 unfold t65 mayR
 refine Tr.all_t hb (Tr.all_br (fun c1=>Tr.all_ret ?_) fun c1=>Tr.all_ret ?_)
 ·rw[c1,U0t,Bool.true_and]
  congr 3
  rw[Bool.eq_iff_iff]
  simp
  omega
 ·rw[c1]
  rfl
theorem Q1i:mayV []=false:=by
 cases h:mayV [] with
 | false=>rfl
 | true=>
   rcases V0e (Z0t.1 h).1 with h | ⟨_,h,_⟩
   ·cases h
   ·exact absurd rfl h
def sufB (n z:List UInt8):Bool:=if n=z then true else if h:n=[]∨n=[0] then false else sufB (tlN n) z
termination_by n.length
decreasing_by exact X2q (fun e=>h (.inl e))
def undV (n z:List UInt8):Bool:=mayV z&&(mayV n&&sufB n z)
theorem J2s {n:List UInt8} (h:mayV n=true) (h0:n≠[0]):mayV (tlN n)=true:=by
 obtain⟨h1,h2,h3⟩:=Z0t.1 h
 rcases V0e h1 with rfl | ⟨_,_,_,_,_,hr⟩
 ·exact absurd rfl h0
 ·refine Z0t.2 ⟨hr,by rw[X39];omega,?_⟩
  have:X17 (n.take (1+(n.getD 0 0).toNat)++n.drop (1+(n.getD 0 0).toNat)):=by rw[List.take_append_drop];exact h3
  exact(Z2i.1 this).2
theorem X3l {n:List UInt8} (h:mayV n=true):n≠[]:=fun e=>by rw[e,Q1i] at h;cases h
def t42 (n:List UInt8):Tr Res:=.br (bigS n) (.br (!mayV n) (.ret ([.str [],.bool false],[])) (.br (n==[0]) (.ret ([.str [],.bool false],[])) (.br (decide (0 < (↑n.length:Int))) (.br (decide (0≤(↑n.length:Int))&&decide ((↑n.length:Int)≤(↑n.length:Int))) (.br (decide (0≤IntKind.wrap .i64 (1+IntKind.wrap .i64 (↑(UInt8.toNat (n.getD (Int.toNat 0) 0)):Int)))&&decide (IntKind.wrap .i64 (1+IntKind.wrap .i64 (↑(UInt8.toNat (n.getD (Int.toNat 0) 0)):Int))≤(↑n.length:Int))) (.ret ([.str (List.take (Int.toNat (↑n.length:Int) - Int.toNat (IntKind.wrap .i64 (1+IntKind.wrap .i64 (↑(UInt8.toNat (n.getD (Int.toNat 0) 0)):Int)))) (List.drop (Int.toNat (IntKind.wrap .i64 (1+IntKind.wrap .i64 (↑(UInt8.toNat (n.getD (Int.toNat 0) 0)):Int)))) n)),.bool true],[])) .no) .no) .no))) .no
def os42:OSpec:={ f:=42,sh:=[.d .str false],so:=[],F:=fun(n,_) _=>t42 n }
theorem fn42 (n:List UInt8):evC T0 (orcB [U0z] []) (lpOf h42 0 (lsOf [])) c42 1000000 (U1 [.str n] [] Try.f42.ntmps) (Q0 T0 false 0 Try.f42)=(t42 n).get:=by kernel_rfl
theorem ok42:os42.Ok Try.prog:=by
 refine Q4 Q2 tab0 (U0 (all_cons X0o Z0) Z0) h42 (d:=0) (n0:=0) (S:=lsOf []) Try.func42 (by kernel_rfl) (c:=c42) (by kernel_rfl) rfl (U3 (by kernel_rfl)) (by omega) (by kernel_rfl) ?_
 intro x'' y'' q'' hq''
 obtain⟨(n:List UInt8),_⟩:=x''
 exact(fn42 n).trans hq''
def fs42:FSpec:=fsT 42 [(.str,false)] [(.str,false),(.bool,false)] fun(n,_)=>t42 n
theorem okf42:fs42.Ok Try.prog:=V6 fun x'' r'' hr''=>ok42 x'' () r'' hr''
theorem X00 {n:List UInt8} (h:n.length≤1000000000000):bigS n=true:=by simp[bigS];omega
theorem J35 {n:List UInt8} (h:bigS n=true):n.length≤1000000000000:=by simpa[bigS] using h
def U17:FSpec:=fs42.like fun(n,_)=>.br (bigS n) (.br (mayV n&&!(n==[0])) (.ret (tlN n,true,())) (.ret (([]:List UInt8),false,()))) .no
theorem V3m:U17.Ok Try.prog:=by
 refine J4 okf42 _ ?_
 rintro⟨(n:List UInt8),_⟩ y h
 simp only[Tr.get] at h
 cases hb:bigS n with
 | false=>rw[hb] at h;cases h
 | true=>
   rw[hb,cond_true] at h
   have hl:=J35 hb
   by_cases hc:mayV n=true∧n≠[0]
   ·obtain⟨hm,hn⟩:=hc
    rw[hm,show (n==[0])=false by simpa using hn] at h
    cases h
    refine X3 (vs:=[.str (tlN n),.bool true]) rfl rfl (Tr.get_of_all ?_)
    show (t42 n).all _
    unfold t42
    rcases V0e (Z0t.1 hm).1 with rfl | ⟨_,hn0,hlt,_,_,_⟩
    ·exact absurd rfl hn
    simp only[szW,tlW]
    refine Tr.all_t hb (Tr.all_f (by rw[hm];rfl) (Tr.all_f (by simpa using hn) (Tr.all_t (J0 (by omega)) (Tr.all_t (by rw[J0 (by omega),J0 (by omega)];rfl) (Tr.all_t (by rw[J0 (by omega),J0 (by omega)];rfl) (Tr.all_ret rfl))))))
   ·have hf:(mayV n&&!(n==[0]))=false:=by
     cases hm:mayV n with
     | false=>rfl
     | true=>
       have:n=[0]:=Classical.byContradiction fun e=>hc ⟨hm,e⟩
       rw[this]
       rfl
    rw[hf] at h
    cases h
    refine X3 (vs:=[.str [],.bool false]) rfl rfl (Tr.get_of_all ?_)
    show (t42 n).all _
    unfold t42
    refine Tr.all_t hb (Tr.all_br (fun _=>Tr.all_ret rfl) fun hm=>Tr.all_br (fun _=>Tr.all_ret rfl) fun hn=>?_)
    have hm:mayV n=true:=by cases h:mayV n;(rw[h] at hm;cases hm);rfl
    rw[hm,hn] at hf
    cases hf
theorem Q39 {n:List UInt8} (h:(!mayV n)=true):mayV n=false:=by cases hm:mayV n;rfl;(rw[hm] at h;cases h)
theorem U3q {n:List UInt8} (h:(!mayV n)=false):mayV n=true:=by cases hm:mayV n;(rw[hm] at h;cases h);rfl
def unC (n z:List UInt8) (ok:Bool):Bool:=ok==mayV n&&Nat.ble n.length 1000000
noncomputable def b31:Code:=Z7 c31 0
def ls31:LoopSpec:={ bid:=0,sh:=[.d .str false,.d .str false,.d .bool false],so:=[],F:=fun(n,z,ok,_) _=>.on2 (unC n z ok) (!(mayV n&&sufB n z)) (.exit 0,[.dead],[]) (.ret,[.bool true],[]) }
def r31 (n z:List UInt8) (ok:Bool):Tr (St⊕(Ex×St)):=.br ok (.br (n==z) (.ret (.inr (.ret,stOf [4] [.bool true] []))) (.br (bigS n) (.br (mayV n&&!n==[0]) (.ret (.inl (stOf [0,1,5] [.str (tlN n),.str z,.bool true] []))) (.ret (.inl (stOf [0,1,5] [.str [],.str z,.bool false] [])))) .no)) (.ret (.inr (.exit 0,stOf [4] [.dead] [])))
theorem U39 (lp:Lp) (n z:List UInt8) (ok:Bool):evC T0 (orcB [U17] []) lp b31 0 (stOf [0,1,5] [.str n,.str z,.bool ok] []) (X1 [0,1,5] [4] 0)=(r31 n z ok).get:=by kernel_rfl
theorem wf31 (z:List UInt8) (I'':List UInt8→Bool→Prop) (m'':List UInt8→Bool→Nat) (r'':Ex×St) (h:∀ (n:List UInt8) (ok:Bool),I'' n ok→(r31 n z ok).all fun x''=>x''=.inr r''∨∃ (n':List UInt8) (ok':Bool),x''=.inl (stOf [0,1,5] [.str n',.str z,.bool ok'] [])∧I'' n' ok'∧m'' n' ok' < m'' n ok) (lp:Lp) (n:List UInt8) (ok:Bool):I'' n ok→
    Q3 (fun st=>evC T0 (orcB [U17] []) lp b31 0 st (X1 [0,1,5] [4] 0)) (stOf [0,1,5] [.str n,.str z,.bool ok] [])=some r'':=
 V8 (fun a'':List UInt8×Bool=>stOf [0,1,5] [.str a''.1,.str z,.bool a''.2] []) (fun a''=>I'' a''.1 a''.2) (fun a''=>m'' a''.1 a''.2) r'' (fun a''=>r31 a''.1 z a''.2)
  (fun a'' x hx=>(U39 lp a''.1 z a''.2).trans hx) (fun a'' ha=>Tr.all_mono (fun x'' hx=>hx.imp id fun⟨n',ok',h1,h2,h3⟩=>⟨(n',ok'),h1,h2,h3⟩) (h (a''.1) (a''.2) ha)) (n,ok)
theorem Z3p:ls31.Ok T0 (orcB [U17] []) h31 0 0 b31:=by
 intro q'' hq'' x'' y'' r'' h
 obtain⟨(n:List UInt8),(z:List UInt8),(ok:Bool),_⟩:=x''
 obtain⟨hc,rfl⟩:=Tr.get_on2 h
 show Q3 (fun st=>evC T0 (orcB [U17] []) (lpN T0 (orcB [U17] []) h31 0 q'') b31 0 st (X1 [0,1,5] [4] 0)) (stOf [0,1,5] [.str n,.str z,.bool ok] [])=some ((bif !(mayV n&&sufB n z) then (.exit 0,[.dead],[]) else (.ret,[.bool true],[]):Ex×List AV×List LObj).1,stOf [4] (bif !(mayV n&&sufB n z) then (.exit 0,[.dead],[]) else (.ret,[.bool true],[]):Ex×List AV×List LObj).2.1 (bif !(mayV n&&sufB n z) then (.exit 0,[.dead],[]) else (.ret,[.bool true],[]):Ex×List AV×List LObj).2.2)
 simp only[unC,Bool.and_eq_true,beq_iff_eq] at hc
 obtain⟨rfl,hb⟩:=hc
 have hb:=Nat.le_of_ble_eq_true hb
 refine wf31 z (fun m o=>o=mayV m∧m.length≤1000000∧(mayV n&&sufB n z)=(mayV m&&sufB m z)) (fun m o=>m.length+(bif o then 1 else 0)) _ ?_ _ n (mayV n) ⟨rfl,hb,rfl⟩
 rintro m _ ⟨rfl,hl,he⟩
 rw[he]
 unfold r31
 cases hm:mayV m with
 | false=>exact Tr.all_f rfl (Tr.all_ret (.inl rfl))
 | true=>
   have hm0:=X3l hm
   rw[sufB]
   refine Tr.all_t rfl (Tr.all_br (fun hz=>Tr.all_ret (.inl ?_)) fun hz=>Tr.all_t (X00 (by omega)) ?_)
   ·rw[if_pos (beq_iff_eq.1 hz)];rfl
   ·rw[if_neg (beq_eq_false_iff_ne.1 hz)]
    by_cases h0:m=[0]
    ·subst h0
     refine Tr.all_f rfl (Tr.all_ret (.inr ⟨_,_,rfl,⟨?_,by simp,?_⟩,by simp⟩))
     ·rw[Q1i]
     ·rw[dif_pos (.inr rfl),Q1i];rfl
    ·rw[dif_neg (by simp[hm0,h0])]
     have hlt:=X2q hm0
     refine Tr.all_t (by simpa using h0) (Tr.all_ret (.inr ⟨_,_,rfl,⟨?_,by omega,?_⟩,?_⟩))
     ·exact(J2s hm h0).symm
     ·rw[J2s hm h0]
     ·simp;omega
def smN (n:List UInt8):Bool:=Nat.ble n.length 1000000
theorem X0v {n:List UInt8}:smN n=true↔n.length≤1000000:=by unfold smN;exact⟨Nat.le_of_ble_eq_true,Nat.ble_eq_true_of_le⟩
def t31 (n z:List UInt8):Tr Res:=.br (bigS z) (.br (!mayV z) (.ret ([.bool false],[])) (.br (bigS n) (.br (unC n z (mayV n)) (.br (!(mayV n&&sufB n z)) (.ret ([.bool false],[])) (.ret ([.bool true],[]))) .no) .no)) .no
def os31:OSpec:={ f:=31,sh:=[.d .str false,.d .str false],so:=[],F:=fun(n,z,_) _=>t31 n z }
theorem fn31 (n z:List UInt8):evC T0 (orcB [U0z,U17] []) (lpOf h31 0 (lsOf [ls31])) c31 1000000 (U1 [.str n,.str z] [] Try.f31.ntmps) (Q0 T0 false 0 Try.f31)=(t31 n z).get:=by kernel_rfl
theorem ok31:os31.Ok Try.prog:=by
 refine Q4 Q2 tab0 (U0 (all_cons X0o (all_cons V3m Z0)) Z0) h31 (d:=0) (n0:=0) (S:=lsOf [ls31]) Try.func31 (by kernel_rfl) (c:=c31) (by kernel_rfl) rfl (Z8 (xs:=[(0,b31)]) (by kernel_rfl) (all_cons (J9 Z3p) Z0)) (by omega) (by kernel_rfl) ?_
 intro x'' y'' q'' hq''
 obtain⟨(n:List UInt8),(z:List UInt8),_⟩:=x''
 exact(fn31 n z).trans hq''
def fs31:FSpec:=fsT 31 [(.str,false),(.str,false)] [(.bool,false)] fun(n,z,_)=>t31 n z
theorem okf31:fs31.Ok Try.prog:=V6 fun x'' r'' hr''=>ok31 x'' () r'' hr''
def X0b:FSpec:=fs31.like fun(n,z,_)=>.on (smN n&&smN z) (undV n z,())
theorem J1m:X0b.Ok Try.prog:=by
 refine J4 okf31 _ ?_
 rintro⟨(n:List UInt8),(z:List UInt8),_⟩ y h
 obtain⟨hb,rfl⟩:=Tr.get_on h
 obtain⟨hb1,hb2⟩:=Bool.and_eq_true_iff.1 (show (smN n&&smN z)=true from hb)
 have hb1:=X0v.1 hb1
 have hb2:=X0v.1 hb2
 refine X3 (vs:=[.bool (undV n z)]) rfl rfl (Tr.get_of_all ?_)
 show (t31 n z).all _
 unfold t31 undV
 refine Tr.all_t (X00 (by omega)) (Tr.all_br (fun hz=>Tr.all_ret (by rw[Q39 hz];rfl)) fun hz=>?_)
 rw[U3q hz]
 have hc:unC n z (mayV n)=true:=by unfold unC;rw[Nat.ble_eq_true_of_le (by omega)];simp
 refine Tr.all_t (X00 (by omega)) (Tr.all_t hc (Tr.all_br (fun hs=>?_) fun hs=>?_))
 ·have hs:(mayV n&&sufB n z)=false:=by
   cases h:(mayV n&&sufB n z)
   ·rfl
   ·rw[h] at hs;cases hs
  rw[hs];exact Tr.all_ret rfl
 ·have hs:(mayV n&&sufB n z)=true:=by
   cases h:(mayV n&&sufB n z)
   ·rw[h] at hs;cases hs
   ·rfl
  rw[hs];exact Tr.all_ret rfl
theorem Jb {α:Type} {l:List α} {k:Nat} (h:k < l.length) (x:α):l.drop k=l.getD k x::l.drop (k+1):=by
 rw[List.getD_eq_getElem?_getD,List.getElem?_eq_getElem h]
 exact List.drop_eq_getElem_cons h
abbrev RR:Ty:=.pair .str (.pair (.int .u16) (.pair (.int .u16) (.pair (.int .u32) .str)))
abbrev RRt:=List UInt8×(Int×(Int×(Int×List UInt8)))
abbrev ZNt:=List UInt8×List RRt
abbrev QQ:Ty:=.pair .str (.pair (.int .u16) (.int .u16))
abbrev QQt:=List UInt8×(Int×Int)
abbrev MG:Ty:=.pair (.int .u16) (.pair .bool (.pair .bool (.pair .bool (.pair .bool (.pair .bool (.pair (.int .i64) (.pair (.int .i64) (.pair (.list QQ) (.pair (.list RR) (.pair (.list RR) (.list RR)))))))))))
abbrev MGt:=Int×(Bool×(Bool×(Bool×(Bool×(Bool×(Int×(Int×(List QQt×(List RRt×(List RRt×List RRt))))))))))
instance decRR:DecidableEq RRt:=inferInstance
instance decLRR:DecidableEq (List RRt):=inferInstance
instance decZN:DecidableEq ZNt:=inferInstanceAs (DecidableEq (List UInt8×List RRt))
instance decLZN:DecidableEq (List ZNt):=inferInstance
theorem Q8 {i:Int} {n:Nat} (h0:0≤i) (h:i≤n) (hn:n≤1000000000):IntKind.wrap IntKind.i64 (i+1)=i+1:=IntWalk.i64_in _ (by omega)
def lrB (l:List RRt):Bool:=Nat.ble l.length 1000000
def Ux (rs:List RRt):Bool:=rs.all fun r=>decide (r.1.length≤300)&&decide (r.2.2.2.2.length≤300)
def rrOk (r:RRt):Bool:=decide (r.1.length≤300)&&decide (r.2.2.2.2.length≤300)
theorem V24 {rs:List RRt} {k:Nat} (hk:k < rs.length) (x:RRt):Ux (rs.drop k)=(rrOk (rs.getD k x)&&Ux (rs.drop (k+1))):=by
 rw[Jb hk x]
 unfold Ux
 rw[List.all_cons]
 rfl
theorem sem81 (xs:List RR.den) (hc:fits xs.length 40=true):SemF Try.prog 81 [.list RR xs] [] [.rowA 0] [.row RR xs]:=by
 have h:Z3i T0 (Q19 []) (fun _ _ _=>.no) Try.f81 true 0 (cC c81).r0 (.seq (cC c81).cx (cC c81).cy) 3 4 (U1 [.list RR xs] [] Try.f81.ntmps) =
     bif fits (([]:List RR.den).length+xs.length) 40 then some (([.rowA 0],[.row RR []]),([.rowA 0],[.row RR ([]++xs)]),xs.isEmpty) else none:=by kernel_rfl
 rw[show fits (([]:List RR.den).length+xs.length) 40=true by simpa using hc] at h
 exact Z35 Q2 tab0 (V03 [] (by simp)) Try.func81 (by kernel_rfl) (id:=(cC c81).id) (ops:=(cC c81).ops) (o1:=(cC c81).ops.getD 0 default) (o2:=(cC c81).ops.getD 1 default) (d1:=3) (d2:=4) (t:=23) (yt:=23) (e:=56)
  (by kernel_rfl) (by kernel_rfl) (by kernel_rfl) (by kernel_rfl) (by kernel_rfl) (by kernel_rfl) (by kernel_rfl) (by kernel_rfl) (by kernel_rfl) (by kernel_rfl) h rfl (fun he=>by rw[List.isEmpty_iff.1 he])
def os81:OSpec:=X30 81 RR 40
theorem ok81:os81.Ok Try.prog:=Q2i sem81
def fmC (rs:List RRt) (i:Int):Bool:=Nat.ble rs.length 1000000&&decide (i=0)
noncomputable def b26:Code:=Z7 c26 0
def ls26:LoopSpec:={ bid:=0,sh:=[.ptr 0 0,.row 1,.d (.int .i64) false],so:=[.box [.d (.int .u16) false,.d .bool false,.d .bool false,.d .bool false,.d .bool false,.d .bool false,.d (.int .i64) false,.d (.int .i64) false,.d (.list QQ) false,.d (.list RR) false,.d (.list RR) false,.d (.list RR) false],.row RR],F:=fun(i,_) ((mi,mqr,maa,mtc,mrd,mra,mop,mrc,mq,man,mns,mar,_),rs,_)=>.on2 (fmC rs i) (Ux rs) (.exit 0,[.ptr 0 0,.dead],[.box [.int .u16 mi,.bool mqr,.bool maa,.bool mtc,.bool mrd,.bool mra,.int .i64 mop,.int .i64 mrc,.list QQ mq,.list RR man,.list RR mns,.list RR mar]]) (.ret,[.ptr 0 0,.bool false],[.box [.int .u16 mi,.bool mqr,.bool maa,.bool mtc,.bool mrd,.bool mra,.int .i64 mop,.int .i64 mrc,.list QQ mq,.list RR man,.list RR mns,.list RR mar]]) }
def r26 (i mi:Int) (mqr maa mtc mrd mra:Bool) (mop mrc:Int) (mq:List (List UInt8×(Int×Int))) (man mns mar rs:List (List UInt8×(Int×(Int×(Int×List UInt8))))):Tr (St⊕(Ex×St)):=.br (decide (i < (↑rs.length:Int))) (.br (decide (0≤i)) (.br (decide (i < (↑rs.length:Int))) (.br (decide ((↑(List.length (rs.getD i.toNat (Ty.dflt RR)).1):Int) > 300)) (.ret (.inr (.ret,stOf [1,2] [.ptr 0 0,.bool false] [.boxT none [.int .u16 mi,.bool mqr,.bool maa,.bool mtc,.bool mrd,.bool mra,.int .i64 mop,.int .i64 mrc,.list QQ mq,.list RR man,.list RR mns,.list RR mar]]))) (.br (decide (0≤i)) (.br (decide (i < (↑rs.length:Int))) (.br (decide ((↑(List.length (rs.getD i.toNat (Ty.dflt RR)).2.2.2.2):Int) > 300)) (.ret (.inr (.ret,stOf [1,2] [.ptr 0 0,.bool false] [.boxT none [.int .u16 mi,.bool mqr,.bool maa,.bool mtc,.bool mrd,.bool mra,.int .i64 mop,.int .i64 mrc,.list QQ mq,.list RR man,.list RR mns,.list RR mar]]))) (.ret (.inl (stOf [1,3,4] [.ptr 0 0,.rowA 1,.int .i64 (IntKind.wrap .i64 (i+1))] [.boxT none [.int .u16 mi,.bool mqr,.bool maa,.bool mtc,.bool mrd,.bool mra,.int .i64 mop,.int .i64 mrc,.list QQ mq,.list RR man,.list RR mns,.list RR mar],.row RR rs])))) .no) .no)) .no) .no) (.ret (.inr (.exit 0,stOf [1,2] [.ptr 0 0,.dead] [.boxT none [.int .u16 mi,.bool mqr,.bool maa,.bool mtc,.bool mrd,.bool mra,.int .i64 mop,.int .i64 mrc,.list QQ mq,.list RR man,.list RR mns,.list RR mar]])))
theorem X3b (orc:Orc) (lp:Lp) (i mi:Int) (mqr maa mtc mrd mra:Bool) (mop mrc:Int) (mq:List (List UInt8×(Int×Int))) (man mns mar rs:List (List UInt8×(Int×(Int×(Int×List UInt8))))):evC T0 orc lp b26 0 (stOf [1,3,4] [.ptr 0 0,.rowA 1,.int .i64 i] [.box [.int .u16 mi,.bool mqr,.bool maa,.bool mtc,.bool mrd,.bool mra,.int .i64 mop,.int .i64 mrc,.list QQ mq,.list RR man,.list RR mns,.list RR mar],.row RR rs]) (X1 [1,3,4] [1,2] 0)=(r26 i mi mqr maa mtc mrd mra mop mrc mq man mns mar rs).get:=by kernel_rfl
theorem wf26 (orc:Orc) (mi:Int) (mqr maa mtc mrd mra:Bool) (mop mrc:Int) (mq:List (List UInt8×(Int×Int))) (man mns mar rs:List (List UInt8×(Int×(Int×(Int×List UInt8))))) (I'':Int→Prop) (m'':Int→Nat) (r'':Ex×St) (h:∀ (i:Int),I'' i→(r26 i mi mqr maa mtc mrd mra mop mrc mq man mns mar rs).all fun x''=>x''=.inr r''∨∃ (i':Int),x''=.inl (stOf [1,3,4] [.ptr 0 0,.rowA 1,.int .i64 i'] [.box [.int .u16 mi,.bool mqr,.bool maa,.bool mtc,.bool mrd,.bool mra,.int .i64 mop,.int .i64 mrc,.list QQ mq,.list RR man,.list RR mns,.list RR mar],.row RR rs])∧I'' i'∧m'' i' < m'' i) (lp:Lp) (i:Int):I'' i→
    Q3 (fun st=>evC T0 orc lp b26 0 st (X1 [1,3,4] [1,2] 0)) (stOf [1,3,4] [.ptr 0 0,.rowA 1,.int .i64 i] [.box [.int .u16 mi,.bool mqr,.bool maa,.bool mtc,.bool mrd,.bool mra,.int .i64 mop,.int .i64 mrc,.list QQ mq,.list RR man,.list RR mns,.list RR mar],.row RR rs])=some r'':=
 V8 (fun a'':Int=>stOf [1,3,4] [.ptr 0 0,.rowA 1,.int .i64 a''] [.box [.int .u16 mi,.bool mqr,.bool maa,.bool mtc,.bool mrd,.bool mra,.int .i64 mop,.int .i64 mrc,.list QQ mq,.list RR man,.list RR mns,.list RR mar],.row RR rs]) (fun a''=>I'' a'') (fun a''=>m'' a'') r'' (fun a''=>r26 a'' mi mqr maa mtc mrd mra mop mrc mq man mns mar rs)
  (fun a'' x hx=>(X3b orc lp a'' mi mqr maa mtc mrd mra mop mrc mq man mns mar rs).trans hx) (fun a'' ha=>Tr.all_mono (fun x'' hx=>hx.imp id fun⟨i',h1,h2,h3⟩=>⟨(i'),h1,h2,h3⟩) (h (a'') ha)) (i)
theorem Q3n (orc:Orc):ls26.Ok T0 orc h26 0 0 b26:=by
 intro q'' hq'' x'' y'' r'' h
 obtain⟨(i:Int),_⟩:=x''
 obtain⟨⟨(mi:Int),(mqr:Bool),(maa:Bool),(mtc:Bool),(mrd:Bool),(mra:Bool),(mop:Int),(mrc:Int),(mq:List (List UInt8×(Int×Int))),(man:List (List UInt8×(Int×(Int×(Int×List UInt8))))),(mns:List (List UInt8×(Int×(Int×(Int×List UInt8))))),(mar:List (List UInt8×(Int×(Int×(Int×List UInt8))))),_⟩,(rs:List (List UInt8×(Int×(Int×(Int×List UInt8))))),_⟩:=y''
 obtain⟨hc,rfl⟩:=Tr.get_on2 h
 show Q3 (fun st=>evC T0 orc (lpN T0 orc h26 0 q'') b26 0 st (X1 [1,3,4] [1,2] 0)) (stOf [1,3,4] [.ptr 0 0,.rowA 1,.int .i64 i] [.box [.int .u16 mi,.bool mqr,.bool maa,.bool mtc,.bool mrd,.bool mra,.int .i64 mop,.int .i64 mrc,.list QQ mq,.list RR man,.list RR mns,.list RR mar],.row RR rs])=some ((bif Ux rs then (.exit 0,[.ptr 0 0,.dead],[.box [.int .u16 mi,.bool mqr,.bool maa,.bool mtc,.bool mrd,.bool mra,.int .i64 mop,.int .i64 mrc,.list QQ mq,.list RR man,.list RR mns,.list RR mar]]) else (.ret,[.ptr 0 0,.bool false],[.box [.int .u16 mi,.bool mqr,.bool maa,.bool mtc,.bool mrd,.bool mra,.int .i64 mop,.int .i64 mrc,.list QQ mq,.list RR man,.list RR mns,.list RR mar]]):Ex×List AV×List LObj).1,stOf [1,2] (bif Ux rs then (.exit 0,[.ptr 0 0,.dead],[.box [.int .u16 mi,.bool mqr,.bool maa,.bool mtc,.bool mrd,.bool mra,.int .i64 mop,.int .i64 mrc,.list QQ mq,.list RR man,.list RR mns,.list RR mar]]) else (.ret,[.ptr 0 0,.bool false],[.box [.int .u16 mi,.bool mqr,.bool maa,.bool mtc,.bool mrd,.bool mra,.int .i64 mop,.int .i64 mrc,.list QQ mq,.list RR man,.list RR mns,.list RR mar]]):Ex×List AV×List LObj).2.1 (bif Ux rs then (.exit 0,[.ptr 0 0,.dead],[.box [.int .u16 mi,.bool mqr,.bool maa,.bool mtc,.bool mrd,.bool mra,.int .i64 mop,.int .i64 mrc,.list QQ mq,.list RR man,.list RR mns,.list RR mar]]) else (.ret,[.ptr 0 0,.bool false],[.box [.int .u16 mi,.bool mqr,.bool maa,.bool mtc,.bool mrd,.bool mra,.int .i64 mop,.int .i64 mrc,.list QQ mq,.list RR man,.list RR mns,.list RR mar]]):Ex×List AV×List LObj).2.2)
 simp only[fmC,Bool.and_eq_true,decide_eq_true_eq] at hc
 obtain⟨hl,rfl⟩:=hc
 have hl:=Nat.le_of_ble_eq_true hl
 refine wf26 _ mi mqr maa mtc mrd mra mop mrc mq man mns mar rs (fun k=>0≤k∧k≤rs.length∧Ux (rs.drop k.toNat)=Ux rs) (fun k=>(rs.length - k).toNat) _ ?_ _ 0 ⟨by omega,by omega,rfl⟩
 rintro k ⟨k0,k1,he⟩
 unfold r26
 rw[Q8 k0 k1 (by omega)]
 by_cases hk:k < rs.length
 ·rw[V24 (k:=k.toNat) (by omega) (Ty.dflt RR)] at he
  generalize rs.getD k.toNat (Ty.dflt RR)=r at *
  refine Tr.all_t (J0 hk) (Tr.all_t (J0 k0) (Tr.all_t (J0 hk) (Tr.all_br (fun c1=>?_) fun c1=>Tr.all_t (J0 k0) (Tr.all_t (J0 hk) (Tr.all_br (fun c2=>?_) fun c2=>?_)))))
  ·have c1:=of_decide_eq_true c1
   have:rrOk r=false:=by unfold rrOk;rw[V0 (by omega)];rfl
   rw[this] at he
   rw[←he]
   exact Tr.all_ret (.inl rfl)
  ·have c2:=of_decide_eq_true c2
   have:rrOk r=false:=by unfold rrOk;rw[V0 (show ¬ r.2.2.2.2.length≤300 by omega),Bool.and_false]
   rw[this] at he
   rw[←he]
   exact Tr.all_ret (.inl rfl)
  ·have c1:=of_decide_eq_false c1
   have c2:=of_decide_eq_false c2
   have:rrOk r=true:=by unfold rrOk;rw[J0 (by omega),J0 (by omega)];rfl
   rw[this,Bool.true_and] at he
   exact Tr.all_ret (.inr ⟨_,rfl,⟨by omega,by omega,by rw[show (k+1).toNat=k.toNat+1 by omega];exact he⟩,by omega⟩)
 ·refine Tr.all_f (V0 hk) (Tr.all_ret (.inl ?_))
  rw[show k.toNat=rs.length by omega,List.drop_length] at he
  rw[←he]
  rfl
def qFew (qs:List QQt):Bool:=qs.all fun q=>decide (q.1.length≤300)
def fqC (qs:List QQt) (i:Int):Bool:=Nat.ble qs.length 1000000&&decide (i=0)
noncomputable def b26q:Code:=Z7 c26 1
def X33:LoopSpec:={ bid:=2,sh:=[.ptr 0 0,.d (.int .i64) false],so:=[.box [.d (.int .u16) false,.d .bool false,.d .bool false,.d .bool false,.d .bool false,.d .bool false,.d (.int .i64) false,.d (.int .i64) false,.d (.list QQ) false,.d (.list RR) false,.d (.list RR) false,.d (.list RR) false]],F:=fun(i,_) ((mi,mqr,maa,mtc,mrd,mra,mop,mrc,mq,man,mns,mar,_),_)=>.on2 (fqC mq i) (qFew mq) (.exit 2,[.dead],[]) (.ret,[.bool false],[]) }
def r26q (i mi:Int) (mqr maa mtc mrd mra:Bool) (mop mrc:Int) (mq:List (List UInt8×(Int×Int))) (man mns mar:List (List UInt8×(Int×(Int×(Int×List UInt8))))):Tr (St⊕(Ex×St)):=.br (decide (i < (↑mq.length:Int))) (.br (decide (0≤i)) (.br (decide (i < (↑mq.length:Int))) (.br (decide ((↑(List.length (mq.getD i.toNat (Ty.dflt QQ)).1):Int) > 300)) (.ret (.inr (.ret,stOf [2] [.bool false] []))) (.ret (.inl (stOf [1,5] [.ptr 0 0,.int .i64 (IntKind.wrap .i64 (i+1))] [.boxT none [.int .u16 mi,.bool mqr,.bool maa,.bool mtc,.bool mrd,.bool mra,.int .i64 mop,.int .i64 mrc,.list QQ mq,.list RR man,.list RR mns,.list RR mar]])))) .no) .no) (.ret (.inr (.exit 2,stOf [2] [.dead] [])))
theorem U31 (orc:Orc) (lp:Lp) (i mi:Int) (mqr maa mtc mrd mra:Bool) (mop mrc:Int) (mq:List (List UInt8×(Int×Int))) (man mns mar:List (List UInt8×(Int×(Int×(Int×List UInt8))))):evC T0 orc lp b26q 2 (stOf [1,5] [.ptr 0 0,.int .i64 i] [.box [.int .u16 mi,.bool mqr,.bool maa,.bool mtc,.bool mrd,.bool mra,.int .i64 mop,.int .i64 mrc,.list QQ mq,.list RR man,.list RR mns,.list RR mar]]) (X1 [1,5] [2] 0)=(r26q i mi mqr maa mtc mrd mra mop mrc mq man mns mar).get:=by kernel_rfl
theorem wf26q (orc:Orc) (mi:Int) (mqr maa mtc mrd mra:Bool) (mop mrc:Int) (mq:List (List UInt8×(Int×Int))) (man mns mar:List (List UInt8×(Int×(Int×(Int×List UInt8))))) (I'':Int→Prop) (m'':Int→Nat) (r'':Ex×St) (h:∀ (i:Int),I'' i→(r26q i mi mqr maa mtc mrd mra mop mrc mq man mns mar).all fun x''=>x''=.inr r''∨∃ (i':Int),x''=.inl (stOf [1,5] [.ptr 0 0,.int .i64 i'] [.box [.int .u16 mi,.bool mqr,.bool maa,.bool mtc,.bool mrd,.bool mra,.int .i64 mop,.int .i64 mrc,.list QQ mq,.list RR man,.list RR mns,.list RR mar]])∧I'' i'∧m'' i' < m'' i) (lp:Lp) (i:Int):I'' i→
    Q3 (fun st=>evC T0 orc lp b26q 2 st (X1 [1,5] [2] 0)) (stOf [1,5] [.ptr 0 0,.int .i64 i] [.box [.int .u16 mi,.bool mqr,.bool maa,.bool mtc,.bool mrd,.bool mra,.int .i64 mop,.int .i64 mrc,.list QQ mq,.list RR man,.list RR mns,.list RR mar]])=some r'':=
 V8 (fun a'':Int=>stOf [1,5] [.ptr 0 0,.int .i64 a''] [.box [.int .u16 mi,.bool mqr,.bool maa,.bool mtc,.bool mrd,.bool mra,.int .i64 mop,.int .i64 mrc,.list QQ mq,.list RR man,.list RR mns,.list RR mar]]) (fun a''=>I'' a'') (fun a''=>m'' a'') r'' (fun a''=>r26q a'' mi mqr maa mtc mrd mra mop mrc mq man mns mar)
  (fun a'' x hx=>(U31 orc lp a'' mi mqr maa mtc mrd mra mop mrc mq man mns mar).trans hx) (fun a'' ha=>Tr.all_mono (fun x'' hx=>hx.imp id fun⟨i',h1,h2,h3⟩=>⟨(i'),h1,h2,h3⟩) (h (a'') ha)) (i)
theorem U3e (orc:Orc):X33.Ok T0 orc h26 0 0 b26q:=by
 intro q'' hq'' x'' y'' r'' h
 obtain⟨(i:Int),_⟩:=x''
 obtain⟨⟨(mi:Int),(mqr:Bool),(maa:Bool),(mtc:Bool),(mrd:Bool),(mra:Bool),(mop:Int),(mrc:Int),(mq:List (List UInt8×(Int×Int))),(man:List (List UInt8×(Int×(Int×(Int×List UInt8))))),(mns:List (List UInt8×(Int×(Int×(Int×List UInt8))))),(mar:List (List UInt8×(Int×(Int×(Int×List UInt8))))),_⟩,_⟩:=y''
 obtain⟨hc,rfl⟩:=Tr.get_on2 h
 show Q3 (fun st=>evC T0 orc (lpN T0 orc h26 0 q'') b26q 2 st (X1 [1,5] [2] 0)) (stOf [1,5] [.ptr 0 0,.int .i64 i] [.box [.int .u16 mi,.bool mqr,.bool maa,.bool mtc,.bool mrd,.bool mra,.int .i64 mop,.int .i64 mrc,.list QQ mq,.list RR man,.list RR mns,.list RR mar]])=some ((bif qFew mq then (.exit 2,[.dead],[]) else (.ret,[.bool false],[]):Ex×List AV×List LObj).1,stOf [2] (bif qFew mq then (.exit 2,[.dead],[]) else (.ret,[.bool false],[]):Ex×List AV×List LObj).2.1 (bif qFew mq then (.exit 2,[.dead],[]) else (.ret,[.bool false],[]):Ex×List AV×List LObj).2.2)
 simp only[fqC,Bool.and_eq_true,decide_eq_true_eq] at hc
 obtain⟨hl,rfl⟩:=hc
 have hl:=Nat.le_of_ble_eq_true hl
 refine wf26q _ mi mqr maa mtc mrd mra mop mrc mq man mns mar (fun k=>0≤k∧k≤mq.length∧qFew (mq.drop k.toNat)=qFew mq) (fun k=>(mq.length - k).toNat) _ ?_ _ 0 ⟨by omega,by omega,rfl⟩
 rintro k ⟨k0,k1,he⟩
 unfold r26q
 rw[Q8 k0 k1 (by omega)]
 by_cases hk:k < mq.length
 ·rw[Jb (l:=mq) (k:=k.toNat) (by omega) (Ty.dflt QQ)] at he
  unfold qFew at he ⊢
  rw[List.all_cons] at he
  generalize mq.getD k.toNat (Ty.dflt QQ)=r at *
  refine Tr.all_t (J0 hk) (Tr.all_t (J0 k0) (Tr.all_t (J0 hk) (Tr.all_br (fun c1=>?_) fun c1=>?_)))
  ·have c1:=of_decide_eq_true c1
   rw[V0 (show ¬ r.1.length≤300 by omega)] at he
   rw[←he]
   exact Tr.all_ret (.inl rfl)
  ·have c1:=of_decide_eq_false c1
   rw[J0 (show r.1.length≤300 by omega),Bool.true_and] at he
   exact Tr.all_ret (.inr ⟨_,rfl,⟨by omega,by omega,by rw[show (k+1).toNat=k.toNat+1 by omega];exact he⟩,by omega⟩)
 ·refine Tr.all_f (V0 hk) (Tr.all_ret (.inl ?_))
  rw[show k.toNat=mq.length by omega,List.drop_length] at he
  rw[←he]
  rfl
def t26 (m:(Int×(Bool×(Bool×(Bool×(Bool×(Bool×(Int×(Int×(List (List UInt8×(Int×Int))×(List (List UInt8×(Int×(Int×(Int×List UInt8))))×(List (List UInt8×(Int×(Int×(Int×List UInt8))))×List (List UInt8×(Int×(Int×(Int×List UInt8)))))))))))))))):Tr Res:=.br (decide ((↑m.2.2.2.2.2.2.2.2.1.length:Int) > 20)) (.ret ([.bool false],[])) (.br (decide ((↑m.2.2.2.2.2.2.2.2.2.1.length:Int) > 20)) (.ret ([.bool false],[])) (.br (decide ((↑m.2.2.2.2.2.2.2.2.2.2.1.length:Int) > 20)) (.ret ([.bool false],[])) (.br (decide ((↑m.2.2.2.2.2.2.2.2.2.2.2.length:Int) > 20)) (.ret ([.bool false],[])) (.br (fits (0+List.length m.2.2.2.2.2.2.2.2.2.1) 40) (.br (fits (List.length ([]++m.2.2.2.2.2.2.2.2.2.1)+List.length m.2.2.2.2.2.2.2.2.2.2.1) 40) (.br (fits (List.length ([]++m.2.2.2.2.2.2.2.2.2.1++m.2.2.2.2.2.2.2.2.2.2.1)+List.length m.2.2.2.2.2.2.2.2.2.2.2) 40) (.br (fmC ([]++m.2.2.2.2.2.2.2.2.2.1++m.2.2.2.2.2.2.2.2.2.2.1++m.2.2.2.2.2.2.2.2.2.2.2) 0) (.br (Ux ([]++m.2.2.2.2.2.2.2.2.2.1++m.2.2.2.2.2.2.2.2.2.2.1++m.2.2.2.2.2.2.2.2.2.2.2)) (.br (fqC m.2.2.2.2.2.2.2.2.1 0) (.br (qFew m.2.2.2.2.2.2.2.2.1) (.ret ([.bool true],[])) (.ret ([.bool false],[]))) .no) (.ret ([.bool false],[]))) .no) .no) .no) .no))))
def os26:OSpec:={ f:=26,sh:=[.d MG true],so:=[],F:=fun(m,_) _=>t26 m }
theorem fn26 (m:(Int×(Bool×(Bool×(Bool×(Bool×(Bool×(Int×(Int×(List (List UInt8×(Int×Int))×(List (List UInt8×(Int×(Int×(Int×List UInt8))))×(List (List UInt8×(Int×(Int×(Int×List UInt8))))×List (List UInt8×(Int×(Int×(Int×List UInt8)))))))))))))))):evC T0 (orcB [] []) (lpOf h26 0 (lsOf [ls26,X33])) c26 1000000 (U1 [AV.ofTy MG m true] [] Try.f26.ntmps) (Q0 T0 false 0 Try.f26)=(t26 m).get:=by kernel_rfl
theorem ok26:os26.Ok Try.prog:=by
 refine Q4 Q2 tab0 (U0 Z0 Z0) h26 (d:=0) (n0:=0) (S:=lsOf [ls26,X33]) Try.func26 (by kernel_rfl) (c:=c26) (by kernel_rfl) rfl (Z8 (xs:=[(0,b26),(2,b26q)]) (by kernel_rfl) (all_cons (J9 (Q3n _)) (all_cons (J2c (by kernel_rfl) (J9 (U3e _))) Z0))) (by omega) (by kernel_rfl) ?_
 intro x'' y'' q'' hq''
 obtain⟨(m:(Int×(Bool×(Bool×(Bool×(Bool×(Bool×(Int×(Int×(List (List UInt8×(Int×Int))×(List (List UInt8×(Int×(Int×(Int×List UInt8))))×(List (List UInt8×(Int×(Int×(Int×List UInt8))))×List (List UInt8×(Int×(Int×(Int×List UInt8)))))))))))))))),_⟩:=x''
 exact(fn26 m).trans hq''
def fs26:FSpec:=fsT 26 [(MG,true)] [(.bool,false)] fun(m,_)=>t26 m
theorem okf26:fs26.Ok Try.prog:=V6 fun x'' r'' hr''=>ok26 x'' () r'' hr''
instance decLQQ:DecidableEq (List QQt):=inferInstance
instance decM3:DecidableEq (List RRt×(List RRt×List RRt)):=inferInstance
instance decM4:DecidableEq (List QQt×(List RRt×(List RRt×List RRt))):=inferInstance
instance decM6:DecidableEq (Int×(Int×(List QQt×(List RRt×(List RRt×List RRt))))):=inferInstance
instance decM9:DecidableEq (Bool×(Bool×(Bool×(Int×(Int×(List QQt×(List RRt×(List RRt×List RRt)))))))):=inferInstance
instance decMG:DecidableEq MGt:=inferInstanceAs (DecidableEq (Int×(Bool×(Bool×(Bool×(Bool×(Bool×(Int×(Int×(List QQt×(List RRt×(List RRt×List RRt))))))))))))
def mQ (m:MGt):List QQt:=m.2.2.2.2.2.2.2.2.1
def mAn (m:MGt):List RRt:=m.2.2.2.2.2.2.2.2.2.1
def mNs (m:MGt):List RRt:=m.2.2.2.2.2.2.2.2.2.2.1
def mAr (m:MGt):List RRt:=m.2.2.2.2.2.2.2.2.2.2.2
def fewM (m:MGt):Bool:=decide ((mQ m).length≤20)&&(decide ((mAn m).length≤20)&&(decide ((mNs m).length≤20)&&(decide ((mAr m).length≤20)&&(Ux (mAn m++mNs m++mAr m)&&qFew (mQ m)))))
def J0y:FSpec:=fs26.like fun(m,_)=>.ret (fewM m,())
theorem U3m:J0y.Ok Try.prog:=by
 refine J4 okf26 _ ?_
 rintro⟨(m:MGt),_⟩ y h
 cases h
 refine X3 (vs:=[.bool (fewM m)]) rfl rfl (Tr.get_of_all ?_)
 show (t26 m).all _
 unfold t26
 rw[List.nil_append]
 show Tr.all _ (Tr.br (decide (((mQ m).length:Int) > 20)) _ (Tr.br (decide (((mAn m).length:Int) > 20)) _ (Tr.br (decide (((mNs m).length:Int) > 20)) _ (Tr.br (decide (((mAr m).length:Int) > 20)) _ (Tr.br (fits (0+(mAn m).length) 40) (Tr.br (fits ((mAn m).length+(mNs m).length) 40) (Tr.br (fits ((mAn m++mNs m).length+(mAr m).length) 40) (Tr.br (fmC (mAn m++mNs m++mAr m) 0) (Tr.br (Ux (mAn m++mNs m++mAr m)) (Tr.br (fqC (mQ m) 0) (Tr.br (qFew (mQ m)) _ _) _) _) _) _) _) _)))))
 unfold fewM
 generalize mQ m=q
 generalize mAn m=an
 generalize mNs m=ns
 generalize mAr m=ar
 by_cases h1:q.length≤20
 ·by_cases h2:an.length≤20
  ·by_cases h3:ns.length≤20
   ·by_cases h4:ar.length≤20
    ·rw[J0 h1,J0 h2,J0 h3,J0 h4]
     simp only[Bool.true_and]
     have hl1:(an++ns).length=an.length+ns.length:=List.length_append
     refine Tr.all_f (V0 (by omega)) (Tr.all_f (V0 (by omega)) (Tr.all_f (V0 (by omega)) (Tr.all_f (V0 (by omega)) (Tr.all_t (Jw (by omega) (by omega)) (Tr.all_t (Jw (by omega) (by omega)) (Tr.all_t (Jw (by omega) (by omega)) (Tr.all_t (by unfold fmC;rw[Nat.ble_eq_true_of_le (by rw[List.length_append];omega)];rfl) (Tr.all_br (fun c=>?_) fun c=>Tr.all_ret (by rw[c];rfl)))))))))
     rw[c]
     exact Tr.all_t (by unfold fqC;rw[Nat.ble_eq_true_of_le (by omega)];rfl) (Tr.all_br (fun d=>Tr.all_ret (by rw[d];rfl)) fun d=>Tr.all_ret (by rw[d];rfl))
    ·rw[V0 h4]
     simp only[Bool.false_and,Bool.and_false]
     exact Tr.all_f (V0 (by omega)) (Tr.all_f (V0 (by omega)) (Tr.all_f (V0 (by omega)) (Tr.all_t (J0 (by omega)) (Tr.all_ret rfl))))
   ·rw[V0 h3]
    simp only[Bool.false_and,Bool.and_false]
    exact Tr.all_f (V0 (by omega)) (Tr.all_f (V0 (by omega)) (Tr.all_t (J0 (by omega)) (Tr.all_ret rfl)))
  ·rw[V0 h2]
   simp only[Bool.false_and,Bool.and_false]
   exact Tr.all_f (V0 (by omega)) (Tr.all_t (J0 (by omega)) (Tr.all_ret rfl))
 ·rw[V0 h1]
  simp only[Bool.false_and]
  exact Tr.all_t (J0 (by omega)) (Tr.all_ret rfl)
def t36 (r:RRt):Tr Res:=.br (bigS r.1) (.br (mayV r.1) (.br (bigS r.2.2.2.2) (.ret ([.bool (mayR r.2.1 r.2.2.2.2)],[])) .no) (.ret ([.bool false],[]))) .no
def os36:OSpec:={ f:=36,sh:=[.d RR true],so:=[],F:=fun(r,_) _=>t36 r }
theorem fn36 (r:RRt):evC T0 (orcB [U0z,Z2c] []) (lpOf h36 0 (lsOf [])) c36 1000000 (U1 [AV.ofTy RR r true] [] Try.f36.ntmps) (Q0 T0 false 0 Try.f36)=(t36 r).get:=by kernel_rfl
theorem ok36:os36.Ok Try.prog:=by
 refine Q4 Q2 tab0 (U0 (all_cons X0o (all_cons Q24 Z0)) Z0) h36 (d:=0) (n0:=0) (S:=lsOf []) Try.func36 (by kernel_rfl) (c:=c36) (by kernel_rfl) rfl (U3 (by kernel_rfl)) (by omega) (by kernel_rfl) ?_
 intro x'' y'' q'' hq''
 obtain⟨(r:RRt),_⟩:=x''
 exact(fn36 r).trans hq''
def fs36:FSpec:=fsT 36 [(RR,true)] [(.bool,false)] fun(r,_)=>t36 r
theorem okf36:fs36.Ok Try.prog:=V6 fun x'' r'' hr''=>ok36 x'' () r'' hr''
def t35 (r:RRt):Tr Res:=.ret ([.agg [.str r.1,.int .u16 r.2.1,.int .u16 r.2.2.1]],[])
def os35:OSpec:={ f:=35,sh:=[.d RR true],so:=[],F:=fun(r,_) _=>t35 r }
theorem fn35 (r:RRt):evC T0 (orcB [U0z,Z2c] []) (lpOf h35 0 (lsOf [])) c35 1000000 (U1 [AV.ofTy RR r true] [] Try.f35.ntmps) (Q0 T0 false 0 Try.f35)=(t35 r).get:=by kernel_rfl
theorem ok35:os35.Ok Try.prog:=by
 refine Q4 Q2 tab0 (U0 (all_cons X0o (all_cons Q24 Z0)) Z0) h35 (d:=0) (n0:=0) (S:=lsOf []) Try.func35 (by kernel_rfl) (c:=c35) (by kernel_rfl) rfl (U3 (by kernel_rfl)) (by omega) (by kernel_rfl) ?_
 intro x'' y'' q'' hq''
 obtain⟨(r:RRt),_⟩:=x''
 exact(fn35 r).trans hq''
def fs35:FSpec:=fsT 35 [(RR,true)] [(QQ,true)] fun(r,_)=>t35 r
theorem okf35:fs35.Ok Try.prog:=V6 fun x'' r'' hr''=>ok35 x'' () r'' hr''
def t85 (a b:RRt):Tr Res:=.ret ([.bool (a.1==b.1&&(a.2.1==b.2.1&&(a.2.2.1==b.2.2.1&&(b.2.2.2.1==b.2.2.2.1&&(a.2.2.2.2==b.2.2.2.2&&true)))))],[])
def os85:OSpec:={ f:=85,sh:=[.d RR true,.d RR true],so:=[],F:=fun(a,b,_) _=>t85 a b }
theorem fn85 (a b:RRt):evC T0 (orcB [U0z,Z2c] []) (lpOf h85 0 (lsOf [])) c85 1000000 (U1 [AV.ofTy RR a true,AV.ofTy RR b true] [] Try.f85.ntmps) (Q0 T0 false 0 Try.f85)=(t85 a b).get:=by kernel_rfl
theorem ok85:os85.Ok Try.prog:=by
 refine Q4 Q2 tab0 (U0 (all_cons X0o (all_cons Q24 Z0)) Z0) h85 (d:=0) (n0:=0) (S:=lsOf []) Try.func85 (by kernel_rfl) (c:=c85) (by kernel_rfl) rfl (U3 (by kernel_rfl)) (by omega) (by kernel_rfl) ?_
 intro x'' y'' q'' hq''
 obtain⟨(a:RRt),(b:RRt),_⟩:=x''
 exact(fn85 a b).trans hq''
def fs85:FSpec:=fsT 85 [(RR,true),(RR,true)] [(.bool,false)] fun(a,b,_)=>t85 a b
theorem okf85:fs85.Ok Try.prog:=V6 fun x'' r'' hr''=>ok85 x'' () r'' hr''
def recV (r:RRt):Bool:=mayV r.1&&mayR r.2.1 r.2.2.2.2
def keyV (r:RRt):QQt:=(r.1,r.2.1,r.2.2.1)
def sayV (a b:RRt):Bool:=a.1==b.1&&(a.2.1==b.2.1&&(a.2.2.1==b.2.2.1&&a.2.2.2.2==b.2.2.2.2))
def Z1f (r:RRt):Bool:=bigS r.1&&bigS r.2.2.2.2
def Z0r:FSpec:=fs36.like fun(r,_)=>.on (Z1f r) (recV r,())
theorem Z2y:Z0r.Ok Try.prog:=by
 refine J4 okf36 _ ?_
 rintro⟨(r:RRt),_⟩ y h
 obtain⟨hb,rfl⟩:=Tr.get_on h
 obtain⟨h1,h2⟩:=Bool.and_eq_true_iff.1 (show (bigS r.1&&bigS r.2.2.2.2)=true from hb)
 refine X3 (vs:=[.bool (recV r)]) rfl rfl (Tr.get_of_all ?_)
 show (t36 r).all _
 unfold t36 recV
 refine Tr.all_t h1 (Tr.all_br (fun c=>Tr.all_t h2 (Tr.all_ret (by rw[c];rfl))) fun c=>Tr.all_ret (by rw[c];rfl))
def Ui:FSpec:=fs35.like fun(r,_)=>.ret (keyV r,())
theorem V22:Ui.Ok Try.prog:=by
 refine J4 okf35 _ ?_
 rintro⟨(r:RRt),_⟩ y h
 cases h
 exact X3 (vs:=[.agg [.str r.1,.int .u16 r.2.1,.int .u16 r.2.2.1]]) rfl rfl (Tr.get_of_all (Tr.all_ret rfl))
def Z3f:FSpec:=fs85.like fun(a,b,_)=>.ret (sayV a b,())
theorem Z3o:Z3f.Ok Try.prog:=by
 refine J4 okf85 _ ?_
 rintro⟨(a:RRt),(b:RRt),_⟩ y h
 cases h
 refine X3 (vs:=[.bool (sayV a b)]) rfl rfl (Tr.get_of_all ?_)
 refine Tr.all_ret ?_
 unfold sayV
 rw[beq_self_eq_true,Bool.true_and,Bool.and_true]
theorem Vq {n b:Nat} (h:n≤1000000000) (hb:b≤1000):fits n b=true:=by
 have:n * b≤1000000000 * 1000:=Nat.mul_le_mul h hb
 unfold fits X1j
 rw[Bool.and_eq_true,decide_eq_true_eq,decide_eq_true_eq]
 omega
def t69 (t m:Int):Tr Res:=.br (decide (t≥2147483648)) (.ret ([.int .u32 0],[])) (.ret ([.int .u32 (if m < t then m else t)],[]))
def os69:OSpec:={ f:=69,sh:=[.d (.int .u32) false,.d (.int .u32) false],so:=[],F:=fun(t,m,_) _=>t69 t m }
theorem fn69 (t m:Int):evC T0 (orcB [] []) (lpOf h69 0 (lsOf [])) c69 1000000 (U1 [.int .u32 t,.int .u32 m] [] Try.f69.ntmps) (Q0 T0 false 0 Try.f69)=(t69 t m).get:=by kernel_rfl
theorem ok69:os69.Ok Try.prog:=by
 refine Q4 Q2 tab0 (U0 Z0 Z0) h69 (d:=0) (n0:=0) (S:=lsOf []) Try.func69 (by kernel_rfl) (c:=c69) (by kernel_rfl) rfl (U3 (by kernel_rfl)) (by omega) (by kernel_rfl) ?_
 intro x'' y'' q'' hq''
 obtain⟨(t:Int),(m:Int),_⟩:=x''
 exact(fn69 t m).trans hq''
def fs69:FSpec:=fsT 69 [((.int .u32),false),((.int .u32),false)] [((.int .u32),false)] fun(t,m,_)=>t69 t m
theorem okf69:fs69.Ok Try.prog:=V6 fun x'' r'' hr''=>ok69 x'' () r'' hr''
def t64 (now t:Int):Tr Res:=.br (decide (IntKind.wrap .u64 t > IntKind.wrap .u64 (18446744073709551615 - now))) (.ret ([.int .u64 18446744073709551615],[])) (.ret ([.int .u64 (IntKind.wrap .u64 (now+IntKind.wrap .u64 t))],[]))
def os64:OSpec:={ f:=64,sh:=[.d (.int .u64) false,.d (.int .u32) false],so:=[],F:=fun(now,t,_) _=>t64 now t }
theorem fn64 (now t:Int):evC T0 (orcB [] []) (lpOf h64 0 (lsOf [])) c64 1000000 (U1 [.int .u64 now,.int .u32 t] [] Try.f64.ntmps) (Q0 T0 false 0 Try.f64)=(t64 now t).get:=by kernel_rfl
theorem ok64:os64.Ok Try.prog:=by
 refine Q4 Q2 tab0 (U0 Z0 Z0) h64 (d:=0) (n0:=0) (S:=lsOf []) Try.func64 (by kernel_rfl) (c:=c64) (by kernel_rfl) rfl (U3 (by kernel_rfl)) (by omega) (by kernel_rfl) ?_
 intro x'' y'' q'' hq''
 obtain⟨(now:Int),(t:Int),_⟩:=x''
 exact(fn64 now t).trans hq''
def fs64:FSpec:=fsT 64 [((.int .u64),false),((.int .u32),false)] [((.int .u64),false)] fun(now,t,_)=>t64 now t
theorem okf64:fs64.Ok Try.prog:=V6 fun x'' r'' hr''=>ok64 x'' () r'' hr''
def t63 (s:Int) (aa:Bool):Tr Res:=.br (decide (s < 1)) (.ret ([.int .i64 0],[])) (.br (decide (s > 3)) (.ret ([.int .i64 0],[])) (.br aa (.br (decide (IntKind.wrap .i64 (s - 1)=(↑0:Int))) (.ret ([.int .i64 5],[])) (.br (decide (IntKind.wrap .i64 (s - 1)=(↑(0+1):Int))) (.ret ([.int .i64 4],[])) (.br (decide (IntKind.wrap .i64 (s - 1)=(↑(0+1+1):Int))) (.ret ([.int .i64 1],[])) .no))) (.br (decide (IntKind.wrap .i64 (s - 1)=(↑0:Int))) (.ret ([.int .i64 3],[])) (.br (decide (IntKind.wrap .i64 (s - 1)=(↑(0+1):Int))) (.ret ([.int .i64 2],[])) (.br (decide (IntKind.wrap .i64 (s - 1)=(↑(0+1+1):Int))) (.ret ([.int .i64 1],[])) .no)))))
def os63:OSpec:={ f:=63,sh:=[.d (.int .i64) false,.d .bool false],so:=[],F:=fun(s,aa,_) _=>t63 s aa }
theorem fn63 (s:Int) (aa:Bool):evC T0 (orcB [] []) (lpOf h63 0 (lsOf [])) c63 1000000 (U1 [.int .i64 s,.bool aa] [] Try.f63.ntmps) (Q0 T0 false 0 Try.f63)=(t63 s aa).get:=by kernel_rfl
theorem ok63:os63.Ok Try.prog:=by
 refine Q4 Q2 tab0 (U0 Z0 Z0) h63 (d:=0) (n0:=0) (S:=lsOf []) Try.func63 (by kernel_rfl) (c:=c63) (by kernel_rfl) rfl (U3 (by kernel_rfl)) (by omega) (by kernel_rfl) ?_
 intro x'' y'' q'' hq''
 obtain⟨(s:Int),(aa:Bool),_⟩:=x''
 exact(fn63 s aa).trans hq''
def fs63:FSpec:=fsT 63 [((.int .i64),false),(.bool,false)] [((.int .i64),false)] fun(s,aa,_)=>t63 s aa
theorem okf63:fs63.Ok Try.prog:=V6 fun x'' r'' hr''=>ok63 x'' () r'' hr''
def Xv (t m:Int):Int:=if 2147483648≤t then 0 else if m < t then m else t
def Qp (now t:Int):Int:=if 18446744073709551615 - now < t then 18446744073709551615 else now+t
def rankV (s:Int) (aa:Bool):Int:=bif aa then 6 - s else 4 - s
def U0s (s:Int) (aa:Bool):Int:=if s=3 then 1 else rankV s aa
def Q0x:FSpec:=fs69.like fun(t,m,_)=>.ret (Xv t m,())
theorem X3m:Q0x.Ok Try.prog:=by
 refine J4 okf69 _ ?_
 rintro⟨(t:Int),(m:Int),_⟩ y h
 cases h
 refine X3 (vs:=[.int .u32 (Xv t m)]) rfl rfl (Tr.get_of_all ?_)
 show (t69 t m).all _
 unfold t69 Xv
 refine Tr.all_br (fun h=>Tr.all_ret ?_) fun h=>Tr.all_ret ?_
 ·rw[if_pos (of_decide_eq_true h)]
 ·rw[if_neg (of_decide_eq_false h)]
def u64B (n:Int):Bool:=decide (0≤n)&&decide (n < 18446744073709551616)
def u32B (n:Int):Bool:=decide (0≤n)&&decide (n < 4294967296)
def Xm:FSpec:=fs64.like fun(n,t,_)=>.on (u64B n&&u32B t) (Qp n t,())
theorem u64_in {x:Int} (h0:0≤x) (h1:x < 18446744073709551616):IntKind.wrap .u64 x=x:=IntWalk.u64_in x (by omega)
theorem Q3k:Xm.Ok Try.prog:=by
 refine J4 okf64 _ ?_
 rintro⟨(n:Int),(t:Int),_⟩ y h
 obtain⟨hb,rfl⟩:=Tr.get_on h
 have hb:(u64B n&&u32B t)=true:=hb
 simp only[u64B,u32B,Bool.and_eq_true,decide_eq_true_eq] at hb
 obtain⟨⟨h0,h1⟩,h2,h3⟩:=hb
 refine X3 (vs:=[.int .u64 (Qp n t)]) rfl rfl (Tr.get_of_all ?_)
 show (t64 n t).all _
 unfold t64 Qp
 rw[u64_in (x:=t) h2 (by omega),u64_in (x:=18446744073709551615 - n) (by omega) (by omega)]
 refine Tr.all_br (fun h=>Tr.all_ret ?_) fun h=>Tr.all_ret ?_
 ·rw[if_pos (of_decide_eq_true h)]
 ·have h:=of_decide_eq_false h
  rw[if_neg (by omega),u64_in (by omega) (by omega)]
def secB (s:Int):Bool:=decide (1≤s)&&decide (s≤3)
def Vm:FSpec:=fs63.like fun(s,aa,_)=>.on (secB s) (U0s s aa,())
theorem V3k:Vm.Ok Try.prog:=by
 refine J4 okf63 _ ?_
 rintro⟨(s:Int),(aa:Bool),_⟩ y h
 obtain⟨hb,rfl⟩:=Tr.get_on h
 have hb:secB s=true:=hb
 simp only[secB,Bool.and_eq_true,decide_eq_true_eq] at hb
 refine X3 (vs:=[.int .i64 (U0s s aa)]) rfl rfl (Tr.get_of_all ?_)
 have h3:s=1∨s=2∨s=3:=by omega
 show (t63 s aa).all _
 unfold t63
 rcases h3 with rfl | rfl | rfl<;>cases aa<;>repeat' (first | exact Tr.all_ret rfl | refine Tr.all_t (by decide) ?_ | refine Tr.all_f (by decide) ?_)
def wC (l:List RRt) (n i:Int):Bool:=decide (n=(l.length:Int))&&(decide (0≤i)&&(decide (i≤n)&&Nat.ble l.length 1000000))
def setT (x:RRt) (t:Int):RRt:=(x.1,x.2.1,x.2.2.1,t,x.2.2.2.2)
def Z0k (l:List RRt) (t:Int):List RRt:=l.map fun x=>setT x t
def mapR (f:RRt→RRt) (l:List RRt) (i:Int):List RRt:=l.take i.toNat++(l.drop i.toNat).map f
theorem U19 (f:RRt→RRt) (l:List RRt) {i:Int} (h0:0≤i) (h:i < l.length):mapR f (l.set i.toNat (f (l.getD i.toNat (Ty.dflt RR)))) (i+1)=mapR f l i:=by
 unfold mapR
 rw[show (i+1).toNat=i.toNat+1 by omega]
 have hk:i.toNat < l.length:=by omega
 generalize i.toNat=k at *
 rw[Jb (l:=l) hk (Ty.dflt RR)]
 have h1:(l.set k (f (l.getD k (Ty.dflt RR)))).drop (k+1)=l.drop (k+1):=by rw[List.drop_set];simp
 have h2:(l.set k (f (l.getD k (Ty.dflt RR)))).take (k+1)=l.take k++[f (l.getD k (Ty.dflt RR))]:=by
  rw[List.take_add_one,List.take_set,List.set_eq_of_length_le (by simp;omega)]
  simp[hk]
 rw[h1,h2]
 simp
theorem Q1y (f:RRt→RRt) (l:List RRt) {i:Int} (h:(l.length:Int)≤i):mapR f l i=l:=by
 unfold mapR
 rw[List.drop_eq_nil_of_le (by omega),List.take_of_length_le (by omega)]
 simp
def wR (l:List RRt) (t i:Int):List RRt:=mapR (fun x=>setT x t) l i
noncomputable def b62:Code:=Z7 c62 0
def ls62:LoopSpec:={ bid:=0,sh:=[.row 0,.d (.int .u32) false,.d (.int .i64) false,.d (.int .i64) false],so:=[.row RR],F:=fun(t,n,i,_) (l,_)=>.on (wC l n i) (.exit 0,[.rowA 0],[.row RR (wR l t i)]) }
def r62 (t n i:Int) (l:List RRt):Tr (St⊕(Ex×St)):=.br (decide (i < n)) (.br (decide (0≤i)) (.br (decide (i < (↑l.length:Int))) (.ret (.inl (stOf [0,1,9,10] [.rowA 0,.int .u32 t,.int .i64 n,.int .i64 (IntKind.wrap .i64 (i+1))] [.row RR (List.set l i.toNat ((l.getD i.toNat (Ty.dflt RR)).1,(l.getD i.toNat (Ty.dflt RR)).2.1,(l.getD i.toNat (Ty.dflt RR)).2.2.1,t,(l.getD i.toNat (Ty.dflt RR)).2.2.2.2))]))) .no) .no) (.ret (.inr (.exit 0,stOf [0] [.rowA 0] [.row RR l])))
theorem V3d (lp:Lp) (t n i:Int) (l:List RRt):evC T0 (orcB [] [os81]) lp b62 0 (stOf [0,1,9,10] [.rowA 0,.int .u32 t,.int .i64 n,.int .i64 i] [.row RR l]) (X1 [0,1,9,10] [0] 0)=(r62 t n i l).get:=by kernel_rfl
theorem wf62 (t n:Int) (I'':Int→List RRt→Prop) (m'':Int→List RRt→Nat) (r'':Ex×St) (h:∀ (i:Int) (l:List RRt),I'' i l→(r62 t n i l).all fun x''=>x''=.inr r''∨∃ (i':Int) (l':List RRt),x''=.inl (stOf [0,1,9,10] [.rowA 0,.int .u32 t,.int .i64 n,.int .i64 i'] [.row RR l'])∧I'' i' l'∧m'' i' l' < m'' i l) (lp:Lp) (i:Int) (l:List RRt):I'' i l→
    Q3 (fun st=>evC T0 (orcB [] [os81]) lp b62 0 st (X1 [0,1,9,10] [0] 0)) (stOf [0,1,9,10] [.rowA 0,.int .u32 t,.int .i64 n,.int .i64 i] [.row RR l])=some r'':=
 V8 (fun a'':Int×List RRt=>stOf [0,1,9,10] [.rowA 0,.int .u32 t,.int .i64 n,.int .i64 a''.1] [.row RR a''.2]) (fun a''=>I'' a''.1 a''.2) (fun a''=>m'' a''.1 a''.2) r'' (fun a''=>r62 t n a''.1 a''.2)
  (fun a'' x hx=>(V3d lp t n a''.1 a''.2).trans hx) (fun a'' ha=>Tr.all_mono (fun x'' hx=>hx.imp id fun⟨i',l',h1,h2,h3⟩=>⟨(i',l'),h1,h2,h3⟩) (h (a''.1) (a''.2) ha)) (i,l)
theorem Q3m:ls62.Ok T0 (orcB [] [os81]) h62 0 0 b62:=by
 intro q'' hq'' x'' y'' r'' h
 obtain⟨(t:Int),(n:Int),(i:Int),_⟩:=x''
 obtain⟨(l:List RRt),_⟩:=y''
 obtain⟨hc,rfl⟩:=Tr.get_on h
 show Q3 (fun st=>evC T0 (orcB [] [os81]) (lpN T0 (orcB [] [os81]) h62 0 q'') b62 0 st (X1 [0,1,9,10] [0] 0)) (stOf [0,1,9,10] [.rowA 0,.int .u32 t,.int .i64 n,.int .i64 i] [.row RR l])=some (.exit 0,stOf [0] ([.rowA 0]) ([.row RR (wR l t i)]))
 simp only[wC,Bool.and_eq_true,decide_eq_true_eq] at hc
 obtain⟨rfl,h0,h1,h2⟩:=hc
 have h2:=Nat.le_of_ble_eq_true h2
 refine wf62 t l.length (fun j m=>0≤j∧j≤l.length∧m.length=l.length∧wR m t j=wR l t i) (fun j m=>(l.length - j).toNat) _ ?_ _ i l ⟨h0,h1,rfl,rfl⟩
 rintro j m ⟨g0,g1,g2,g3⟩
 unfold r62
 rw[Q8 g0 g1 (by omega)]
 by_cases hj:j < l.length
 ·refine Tr.all_t (J0 hj) (Tr.all_t (J0 g0) (Tr.all_t (J0 (by omega)) (Tr.all_ret (.inr ⟨_,_,rfl,⟨by omega,by omega,by rw[List.length_set];exact g2,?_⟩,by omega⟩))))
  rw[←g3]
  exact U19 (fun x=>setT x t) m g0 (by omega)
 ·refine Tr.all_f (V0 hj) (Tr.all_ret (.inl ?_))
  rw[←g3,show wR m t j=m from Q1y _ m (by omega)]
def t62 (l:List RRt) (t:Int):Tr Res:=.br (fits l.length 40) (.br (wC l (↑l.length:Int) 0) (.ret ([.rowA 0],[.row RR (wR l t 0)])) .no) .no
def os62:OSpec:={ f:=62,sh:=[.d (.list RR) false,.d (.int .u32) false],so:=[],F:=fun(l,t,_) _=>t62 l t }
theorem fn62 (l:List RRt) (t:Int):evC T0 (orcB [] [os81]) (lpOf (hOwn h62) 0 (lsOf [ls62])) c62 1000000 (U1 [.list RR l,.int .u32 t] [] Try.f62.ntmps) (Q0 T0 true 0 Try.f62)=(t62 l t).get:=by kernel_rfl
theorem ok62:os62.Ok Try.prog:=by
 refine Q4 Q2 tab0 (U0 Z0 (all_cons ok81 Z0)) (hOwn h62) (d:=0) (n0:=0) (S:=lsOf [ls62]) Try.func62 (by kernel_rfl) (c:=c62) (by kernel_rfl) rfl (Z8 (xs:=[(0,b62)]) (by kernel_rfl) (all_cons (J9 Q3m) Z0)) (by omega) (by kernel_rfl) ?_
 intro x'' y'' q'' hq''
 obtain⟨(l:List RRt),(t:Int),_⟩:=x''
 exact(fn62 l t).trans hq''
def Um:OSpec:=os62.like fun(l,t,_) _=>.on (lrB l) ([.rowA 0],[.row RR (Z0k l t)])
theorem ok62w:Um.Ok Try.prog:=by
 refine Xh ok62 _ ?_
 rintro⟨(l:List RRt),(t:Int),_⟩ _ r' h
 obtain⟨hb,rfl⟩:=Tr.get_on h
 have hb:lrB l=true:=hb
 refine Tr.get_of_all ?_
 show (t62 l t).all _
 unfold t62
 have hl:=Nat.le_of_ble_eq_true hb
 refine Tr.all_t (Vq (by omega) (by omega)) (Tr.all_t (by unfold wC;simp;exact hl) (Tr.all_ret ?_))
 rfl
def minI (x y:Int):Int:=if y < x then y else x
def minL:List Int→Int
 | []=>0
 | x::xs=>xs.foldl minI x
def mnC (l:List Int) (i:Int):Bool:=decide (0≤i)&&(decide (i≤(l.length:Int))&&Nat.ble l.length 1000000)
def mnR (l:List Int) (m i:Int):Int:=(l.drop i.toNat).foldl minI m
noncomputable def b103:Code:=Z7 c103 0
def Q2n:LoopSpec:={ bid:=0,sh:=[.d (.list (.int .u32)) false,.d (.int .u32) false,.d (.int .i64) false],so:=[],F:=fun(l,m,i,_) _=>.on (mnC l i) (.exit 0,[.int .u32 (mnR l m i)],[]) }
def r103 (l:List Int) (m i:Int):Tr (St⊕(Ex×St)):=.br (decide (i < (↑l.length:Int))) (.br (decide (0≤i)) (.br (decide (i < (↑l.length:Int))) (.ret (.inl (stOf [0,3,4] [.list (.int .u32) l,.int .u32 (if List.getD l i.toNat (Ty.dflt (Ty.int .u32)) < m then List.getD l i.toNat (Ty.dflt (Ty.int .u32)) else m),.int .i64 (IntKind.wrap .i64 (i+1))] []))) .no) .no) (.ret (.inr (.exit 0,stOf [3] [.int .u32 m] [])))
theorem V2p (lp:Lp) (l:List Int) (m i:Int):evC T0 (orcB [] []) lp b103 0 (stOf [0,3,4] [.list (.int .u32) l,.int .u32 m,.int .i64 i] []) (X1 [0,3,4] [3] 0)=(r103 l m i).get:=by kernel_rfl
theorem wf103 (l:List Int) (I'':Int→Int→Prop) (m'':Int→Int→Nat) (r'':Ex×St) (h:∀ (m i:Int),I'' m i→(r103 l m i).all fun x''=>x''=.inr r''∨∃ (m' i':Int),x''=.inl (stOf [0,3,4] [.list (.int .u32) l,.int .u32 m',.int .i64 i'] [])∧I'' m' i'∧m'' m' i' < m'' m i) (lp:Lp) (m i:Int):I'' m i→
    Q3 (fun st=>evC T0 (orcB [] []) lp b103 0 st (X1 [0,3,4] [3] 0)) (stOf [0,3,4] [.list (.int .u32) l,.int .u32 m,.int .i64 i] [])=some r'':=
 V8 (fun a'':Int×Int=>stOf [0,3,4] [.list (.int .u32) l,.int .u32 a''.1,.int .i64 a''.2] []) (fun a''=>I'' a''.1 a''.2) (fun a''=>m'' a''.1 a''.2) r'' (fun a''=>r103 l a''.1 a''.2)
  (fun a'' x hx=>(V2p lp l a''.1 a''.2).trans hx) (fun a'' ha=>Tr.all_mono (fun x'' hx=>hx.imp id fun⟨m',i',h1,h2,h3⟩=>⟨(m',i'),h1,h2,h3⟩) (h (a''.1) (a''.2) ha)) (m,i)
theorem Q3c:Q2n.Ok T0 (orcB [] []) h103 0 0 b103:=by
 intro q'' hq'' x'' y'' r'' h
 obtain⟨(l:List Int),(m:Int),(i:Int),_⟩:=x''
 obtain⟨hc,rfl⟩:=Tr.get_on h
 show Q3 (fun st=>evC T0 (orcB [] []) (lpN T0 (orcB [] []) h103 0 q'') b103 0 st (X1 [0,3,4] [3] 0)) (stOf [0,3,4] [.list (.int .u32) l,.int .u32 m,.int .i64 i] [])=some (.exit 0,stOf [3] ([.int .u32 (mnR l m i)]) ([]))
 simp only[mnC,Bool.and_eq_true,decide_eq_true_eq] at hc
 obtain⟨h0,h1,h2⟩:=hc
 have h2:=Nat.le_of_ble_eq_true h2
 refine wf103 l (fun w j=>0≤j∧j≤l.length∧mnR l w j=mnR l m i) (fun w j=>(l.length - j).toNat) _ ?_ _ m i ⟨h0,h1,rfl⟩
 rintro w j ⟨g0,g1,g2⟩
 unfold r103
 rw[Q8 g0 g1 (by omega)]
 by_cases hj:j < l.length
 ·refine Tr.all_t (J0 hj) (Tr.all_t (J0 g0) (Tr.all_t (J0 hj) (Tr.all_ret (.inr ⟨_,_,rfl,⟨by omega,by omega,?_⟩,by omega⟩))))
  rw[←g2]
  unfold mnR
  rw[Jb (l:=l) (k:=j.toNat) (by omega) 0,show (j+1).toNat=j.toNat+1 by omega]
  rfl
 ·refine Tr.all_f (V0 hj) (Tr.all_ret (.inl ?_))
  rw[←g2]
  unfold mnR
  rw[List.drop_eq_nil_of_le (by omega)]
  rfl
def t103 (l:List Int):Tr Res:=.br (decide ((↑l.length:Int) < 1)) .no (.br (decide (0 < (↑l.length:Int))) (.br (mnC l 1) (.ret ([.int .u32 (mnR l (l.getD (Int.toNat 0) (Ty.dflt (Ty.int .u32))) 1)],[])) .no) .no)
def os103:OSpec:={ f:=103,sh:=[.d (.list (.int .u32)) false],so:=[],F:=fun(l,_) _=>t103 l }
theorem fn103 (l:List Int):evC T0 (orcB [] []) (lpOf h103 0 (lsOf [Q2n])) c103 1000000 (U1 [.list (.int .u32) l] [] Try.f103.ntmps) (Q0 T0 false 0 Try.f103)=(t103 l).get:=by kernel_rfl
theorem ok103:os103.Ok Try.prog:=by
 refine Q4 Q2 tab0 (U0 Z0 Z0) h103 (d:=0) (n0:=0) (S:=lsOf [Q2n]) Try.func103 (by kernel_rfl) (c:=c103) (by kernel_rfl) rfl (Z8 (xs:=[(0,b103)]) (by kernel_rfl) (all_cons (J9 Q3c) Z0)) (by omega) (by kernel_rfl) ?_
 intro x'' y'' q'' hq''
 obtain⟨(l:List Int),_⟩:=x''
 exact(fn103 l).trans hq''
def X3j:FSpec:=fsT 103 [((.list (.int .u32)),false)] [((.int .u32),false)] fun(l,_)=>t103 l
theorem Z3s:X3j.Ok Try.prog:=V6 fun x'' r'' hr''=>ok103 x'' () r'' hr''
def mnP (l:List Int):Bool:=Nat.ble 1 l.length&&Nat.ble l.length 1000000
def V2z:FSpec:=X3j.like fun(l,_)=>.on (mnP l) (minL l,())
theorem Q37:V2z.Ok Try.prog:=by
 refine J4 Z3s _ ?_
 rintro⟨(l:List Int),_⟩ y h
 obtain⟨hb,rfl⟩:=Tr.get_on h
 obtain⟨h1,h2⟩:=Bool.and_eq_true_iff.1 (show (Nat.ble 1 l.length&&Nat.ble l.length 1000000)=true from hb)
 have h1:=Nat.le_of_ble_eq_true h1
 refine X3 (vs:=[.int .u32 (minL l)]) rfl rfl (Tr.get_of_all ?_)
 show (t103 l).all _
 unfold t103
 have hm:mnC l 1=true:=by unfold mnC;rw[h2,J0 (show (1:Int)≤(l.length:Int) by omega)];rfl
 refine Tr.all_f (V0 (by omega)) (Tr.all_t (J0 (by omega)) (Tr.all_t hm (Tr.all_ret ?_)))
 cases l with
 | nil=>simp at h1
 | cons a l=>rfl
def t100 (l:List Int):Tr Res:=.br ((↑l.length:Int)==0) (.ret ([.int .u32 0],[])) (.br (mnP l) (.ret ([.int .u32 (minL l)],[])) .no)
def os100:OSpec:={ f:=100,sh:=[.d (.list (.int .u32)) false],so:=[],F:=fun(l,_) _=>t100 l }
theorem fn100 (l:List Int):evC T0 (orcB [V2z] []) (lpOf h100 0 (lsOf [])) c100 1000000 (U1 [.list (.int .u32) l] [] Try.f100.ntmps) (Q0 T0 false 0 Try.f100)=(t100 l).get:=by kernel_rfl
theorem ok100:os100.Ok Try.prog:=by
 refine Q4 Q2 tab0 (U0 (all_cons Q37 Z0) Z0) h100 (d:=0) (n0:=0) (S:=lsOf []) Try.func100 (by kernel_rfl) (c:=c100) (by kernel_rfl) rfl (U3 (by kernel_rfl)) (by omega) (by kernel_rfl) ?_
 intro x'' y'' q'' hq''
 obtain⟨(l:List Int),_⟩:=x''
 exact(fn100 l).trans hq''
def J3j:FSpec:=fsT 100 [((.list (.int .u32)),false)] [((.int .u32),false)] fun(l,_)=>t100 l
theorem J3r:J3j.Ok Try.prog:=V6 fun x'' r'' hr''=>ok100 x'' () r'' hr''
def Z0f:FSpec:=J3j.like fun(l,_)=>.on (Nat.ble l.length 1000000) (minL l,())
theorem Q3a:Z0f.Ok Try.prog:=by
 refine J4 J3r _ ?_
 rintro⟨(l:List Int),_⟩ y h
 obtain⟨hb,rfl⟩:=Tr.get_on h
 have hb:Nat.ble l.length 1000000=true:=hb
 refine X3 (vs:=[.int .u32 (minL l)]) rfl rfl (Tr.get_of_all ?_)
 show (t100 l).all _
 unfold t100
 cases l with
 | nil=>exact Tr.all_t rfl (Tr.all_ret rfl)
 | cons a l=>
   refine Tr.all_f (by simp;omega) (Tr.all_t ?_ (Tr.all_ret rfl))
   unfold mnP
   rw[hb]
   rfl
def ttls (l:List RRt):List Int:=l.map fun x=>x.2.2.2.1
def lsC (l:List RRt) (n i:Int) (acc:List Int):Bool:=decide (n=(l.length:Int))&&(decide (0≤i)&&(decide (i≤n)&&Nat.ble (acc.length+l.length) 10000000))
noncomputable def b87:Code:=Z7 c87 0
def ls87:LoopSpec:={ bid:=0,sh:=[.row 0,.d (.list RR) false,.d (.int .i64) false,.d (.int .i64) false],so:=[.row (.int .u32)],F:=fun(l,n,i,_) (acc,_)=>.on (lsC l n i acc) (.exit 0,[.rowA 0],[.row (.int .u32) (acc++ttls (l.drop i.toNat))]) }
def r87 (l:List RRt) (n i:Int) (acc:List Int):Tr (St⊕(Ex×St)):=.br (decide (i < n)) (.br (decide (0≤i)) (.br (decide (i < (↑l.length:Int))) (.br (fits (List.length acc+1) 4) (.ret (.inl (stOf [3,6,7,8] [.rowA 0,.list RR l,.int .i64 n,.int .i64 (IntKind.wrap .i64 (i+1))] [.row (.int .u32) (acc++[(l.getD i.toNat (Ty.dflt RR)).2.2.2.1])]))) .no) .no) .no) (.ret (.inr (.exit 0,stOf [3] [.rowA 0] [.row (.int .u32) acc])))
theorem Q36 (lp:Lp) (l:List RRt) (n i:Int) (acc:List Int):evC T0 (orcB [Z0f] []) lp b87 0 (stOf [3,6,7,8] [.rowA 0,.list RR l,.int .i64 n,.int .i64 i] [.row (.int .u32) acc]) (X1 [3,6,7,8] [3] 0)=(r87 l n i acc).get:=by kernel_rfl
theorem wf87 (l:List RRt) (n:Int) (I'':Int→List Int→Prop) (m'':Int→List Int→Nat) (r'':Ex×St) (h:∀ (i:Int) (acc:List Int),I'' i acc→(r87 l n i acc).all fun x''=>x''=.inr r''∨∃ (i':Int) (acc':List Int),x''=.inl (stOf [3,6,7,8] [.rowA 0,.list RR l,.int .i64 n,.int .i64 i'] [.row (.int .u32) acc'])∧I'' i' acc'∧m'' i' acc' < m'' i acc) (lp:Lp) (i:Int) (acc:List Int):I'' i acc→
    Q3 (fun st=>evC T0 (orcB [Z0f] []) lp b87 0 st (X1 [3,6,7,8] [3] 0)) (stOf [3,6,7,8] [.rowA 0,.list RR l,.int .i64 n,.int .i64 i] [.row (.int .u32) acc])=some r'':=
 V8 (fun a'':Int×List Int=>stOf [3,6,7,8] [.rowA 0,.list RR l,.int .i64 n,.int .i64 a''.1] [.row (.int .u32) a''.2]) (fun a''=>I'' a''.1 a''.2) (fun a''=>m'' a''.1 a''.2) r'' (fun a''=>r87 l n a''.1 a''.2)
  (fun a'' x hx=>(Q36 lp l n a''.1 a''.2).trans hx) (fun a'' ha=>Tr.all_mono (fun x'' hx=>hx.imp id fun⟨i',acc',h1,h2,h3⟩=>⟨(i',acc'),h1,h2,h3⟩) (h (a''.1) (a''.2) ha)) (i,acc)
theorem X3k:ls87.Ok T0 (orcB [Z0f] []) h87 0 0 b87:=by
 intro q'' hq'' x'' y'' r'' h
 obtain⟨(l:List RRt),(n:Int),(i:Int),_⟩:=x''
 obtain⟨(acc:List Int),_⟩:=y''
 obtain⟨hc,rfl⟩:=Tr.get_on h
 show Q3 (fun st=>evC T0 (orcB [Z0f] []) (lpN T0 (orcB [Z0f] []) h87 0 q'') b87 0 st (X1 [3,6,7,8] [3] 0)) (stOf [3,6,7,8] [.rowA 0,.list RR l,.int .i64 n,.int .i64 i] [.row (.int .u32) acc])=some (.exit 0,stOf [3] ([.rowA 0]) ([.row (.int .u32) (acc++ttls (l.drop i.toNat))]))
 simp only[lsC,Bool.and_eq_true,decide_eq_true_eq] at hc
 obtain⟨rfl,h0,h1,h2⟩:=hc
 have h2:=Nat.le_of_ble_eq_true h2
 refine wf87 l l.length (fun j w=>0≤j∧j≤l.length∧(w.length:Int)+(l.length - j)≤10000000∧w++ttls (l.drop j.toNat)=acc++ttls (l.drop i.toNat)) (fun j w=>(l.length - j).toNat) _ ?_ _ i acc ⟨h0,h1,by omega,rfl⟩
 rintro j w ⟨g0,g1,g3,g2⟩
 unfold r87
 rw[Q8 g0 g1 (by omega)]
 by_cases hj:j < l.length
 ·refine Tr.all_t (J0 hj) (Tr.all_t (J0 g0) (Tr.all_t (J0 hj) (Tr.all_t (Vq (by omega) (by omega)) (Tr.all_ret (.inr ⟨_,_,rfl,⟨by omega,by omega,by rw[List.length_append,List.length_singleton];omega,?_⟩,by omega⟩)))))
  rw[←g2]
  rw[Jb (l:=l) (k:=j.toNat) (by omega) (Ty.dflt RR),show (j+1).toNat=j.toNat+1 by omega]
  simp[ttls]
 ·refine Tr.all_f (V0 hj) (Tr.all_ret (.inl ?_))
  rw[←g2]
  rw[List.drop_eq_nil_of_le (by omega)]
  simp[ttls]
def t87 (l:List RRt):Tr Res:=.br (lsC l (↑l.length:Int) 0 []) (.br (Nat.ble (List.length ([]++ttls (List.drop (Int.toNat 0) l))) 1000000) (.ret ([.int .u32 (minL ([]++ttls (List.drop (Int.toNat 0) l)))],[])) .no) .no
def os87:OSpec:={ f:=87,sh:=[.d (.list RR) false],so:=[],F:=fun(l,_) _=>t87 l }
theorem fn87 (l:List RRt):evC T0 (orcB [Z0f] []) (lpOf h87 0 (lsOf [ls87])) c87 1000000 (U1 [.list RR l] [] Try.f87.ntmps) (Q0 T0 false 0 Try.f87)=(t87 l).get:=by kernel_rfl
theorem ok87:os87.Ok Try.prog:=by
 refine Q4 Q2 tab0 (U0 (all_cons Q3a Z0) Z0) h87 (d:=0) (n0:=0) (S:=lsOf [ls87]) Try.func87 (by kernel_rfl) (c:=c87) (by kernel_rfl) rfl (Z8 (xs:=[(0,b87)]) (by kernel_rfl) (all_cons (J9 X3k) Z0)) (by omega) (by kernel_rfl) ?_
 intro x'' y'' q'' hq''
 obtain⟨(l:List RRt),_⟩:=x''
 exact(fn87 l).trans hq''
def fs87:FSpec:=fsT 87 [((.list RR),false)] [((.int .u32),false)] fun(l,_)=>t87 l
theorem okf87:fs87.Ok Try.prog:=V6 fun x'' r'' hr''=>ok87 x'' () r'' hr''
def X12:FSpec:=fs87.like fun(l,_)=>.on (lrB l) (minL (ttls l),())
theorem J3o:X12.Ok Try.prog:=by
 refine J4 okf87 _ ?_
 rintro⟨(l:List RRt),_⟩ y h
 obtain⟨hb,rfl⟩:=Tr.get_on h
 have hb:lrB l=true:=hb
 have hl:=Nat.le_of_ble_eq_true hb
 refine X3 (vs:=[.int .u32 (minL (ttls l))]) rfl rfl (Tr.get_of_all ?_)
 show (t87 l).all _
 unfold t87
 refine Tr.all_t ?_ (Tr.all_t ?_ (Tr.all_ret rfl))
 ·unfold lsC
  rw[Nat.ble_eq_true_of_le (by simp;omega)]
  simp
 ·simp[ttls]
  exact hl
def clT (most:Int) (x:RRt):RRt:=setT x (Xv x.2.2.2.1 most)
noncomputable def b61:Code:=Z7 c61 0
def ls61:LoopSpec:={ bid:=0,sh:=[.row 0,.d (.int .u32) false,.row 0,.d (.int .i64) false,.d (.int .i64) false],so:=[.row RR],F:=fun(t,n,i,_) (l,_)=>.on (wC l n i) (.exit 0,[.rowA 0],[.row RR (mapR (clT t) l i)]) }
def r61 (t n i:Int) (l:List RRt):Tr (St⊕(Ex×St)):=.br (decide (i < n)) (.br (decide (0≤i)) (.br (decide (i < (↑l.length:Int))) (.br (decide (0≤i)) (.br (decide (i < (↑l.length:Int))) (.ret (.inl (stOf [0,1,9,10,11] [.rowA 0,.int .u32 t,.rowA 0,.int .i64 n,.int .i64 (IntKind.wrap .i64 (i+1))] [.row RR (List.set l i.toNat ((l.getD i.toNat (Ty.dflt RR)).1,(l.getD i.toNat (Ty.dflt RR)).2.1,(l.getD i.toNat (Ty.dflt RR)).2.2.1,Xv (l.getD i.toNat (Ty.dflt RR)).2.2.2.1 t,(l.getD i.toNat (Ty.dflt RR)).2.2.2.2))]))) .no) .no) .no) .no) (.ret (.inr (.exit 0,stOf [0] [.rowA 0] [.row RR l])))
theorem Z37 (lp:Lp) (t n i:Int) (l:List RRt):evC T0 (orcB [Q0x,X12] [os81]) lp b61 0 (stOf [0,1,9,10,11] [.rowA 0,.int .u32 t,.rowA 0,.int .i64 n,.int .i64 i] [.row RR l]) (X1 [0,1,9,10,11] [0] 0)=(r61 t n i l).get:=by kernel_rfl
theorem wf61 (t n:Int) (I'':Int→List RRt→Prop) (m'':Int→List RRt→Nat) (r'':Ex×St) (h:∀ (i:Int) (l:List RRt),I'' i l→(r61 t n i l).all fun x''=>x''=.inr r''∨∃ (i':Int) (l':List RRt),x''=.inl (stOf [0,1,9,10,11] [.rowA 0,.int .u32 t,.rowA 0,.int .i64 n,.int .i64 i'] [.row RR l'])∧I'' i' l'∧m'' i' l' < m'' i l) (lp:Lp) (i:Int) (l:List RRt):I'' i l→
    Q3 (fun st=>evC T0 (orcB [Q0x,X12] [os81]) lp b61 0 st (X1 [0,1,9,10,11] [0] 0)) (stOf [0,1,9,10,11] [.rowA 0,.int .u32 t,.rowA 0,.int .i64 n,.int .i64 i] [.row RR l])=some r'':=
 V8 (fun a'':Int×List RRt=>stOf [0,1,9,10,11] [.rowA 0,.int .u32 t,.rowA 0,.int .i64 n,.int .i64 a''.1] [.row RR a''.2]) (fun a''=>I'' a''.1 a''.2) (fun a''=>m'' a''.1 a''.2) r'' (fun a''=>r61 t n a''.1 a''.2)
  (fun a'' x hx=>(Z37 lp t n a''.1 a''.2).trans hx) (fun a'' ha=>Tr.all_mono (fun x'' hx=>hx.imp id fun⟨i',l',h1,h2,h3⟩=>⟨(i',l'),h1,h2,h3⟩) (h (a''.1) (a''.2) ha)) (i,l)
theorem X3s:ls61.Ok T0 (orcB [Q0x,X12] [os81]) h61 0 0 b61:=by
 intro q'' hq'' x'' y'' r'' h
 obtain⟨(t:Int),(n:Int),(i:Int),_⟩:=x''
 obtain⟨(l:List RRt),_⟩:=y''
 obtain⟨hc,rfl⟩:=Tr.get_on h
 show Q3 (fun st=>evC T0 (orcB [Q0x,X12] [os81]) (lpN T0 (orcB [Q0x,X12] [os81]) h61 0 q'') b61 0 st (X1 [0,1,9,10,11] [0] 0)) (stOf [0,1,9,10,11] [.rowA 0,.int .u32 t,.rowA 0,.int .i64 n,.int .i64 i] [.row RR l])=some (.exit 0,stOf [0] ([.rowA 0]) ([.row RR (mapR (clT t) l i)]))
 simp only[wC,Bool.and_eq_true,decide_eq_true_eq] at hc
 obtain⟨rfl,h0,h1,h2⟩:=hc
 have h2:=Nat.le_of_ble_eq_true h2
 refine wf61 t l.length (fun j m=>0≤j∧j≤l.length∧m.length=l.length∧mapR (clT t) m j=mapR (clT t) l i) (fun j m=>(l.length - j).toNat) _ ?_ _ i l ⟨h0,h1,rfl,rfl⟩
 rintro j m ⟨g0,g1,g2,g3⟩
 unfold r61
 rw[Q8 g0 g1 (by omega)]
 by_cases hj:j < l.length
 ·refine Tr.all_t (J0 hj) (Tr.all_t (J0 g0) (Tr.all_t (J0 (by omega)) (Tr.all_t (J0 g0) (Tr.all_t (J0 (by omega)) (Tr.all_ret (.inr ⟨_,_,rfl,⟨by omega,by omega,by rw[List.length_set];exact g2,?_⟩,by omega⟩))))))
  rw[←g3]
  exact U19 (clT t) m g0 (by omega)
 ·refine Tr.all_f (V0 hj) (Tr.all_ret (.inl ?_))
  rw[←g3,Q1y _ m (by omega)]
def t61 (l:List RRt) (t:Int):Tr Res:=.br (fits l.length 40) (.br (wC l (↑l.length:Int) 0) (.br (lrB (mapR (clT t) l 0)) (.ret ([.int .u32 (minL (ttls (mapR (clT t) l 0)))],[])) .no) .no) .no
def os61:OSpec:={ f:=61,sh:=[.d (.list RR) false,.d (.int .u32) false],so:=[],F:=fun(l,t,_) _=>t61 l t }
theorem fn61 (l:List RRt) (t:Int):evC T0 (orcB [Q0x,X12] [os81]) (lpOf h61 0 (lsOf [ls61])) c61 1000000 (U1 [.list RR l,.int .u32 t] [] Try.f61.ntmps) (Q0 T0 false 0 Try.f61)=(t61 l t).get:=by kernel_rfl
theorem ok61:os61.Ok Try.prog:=by
 refine Q4 Q2 tab0 (U0 (all_cons X3m (all_cons J3o Z0)) (all_cons ok81 Z0)) h61 (d:=0) (n0:=0) (S:=lsOf [ls61]) Try.func61 (by kernel_rfl) (c:=c61) (by kernel_rfl) rfl (Z8 (xs:=[(0,b61)]) (by kernel_rfl) (all_cons (J9 X3s) Z0)) (by omega) (by kernel_rfl) ?_
 intro x'' y'' q'' hq''
 obtain⟨(l:List RRt),(t:Int),_⟩:=x''
 exact(fn61 l t).trans hq''
def fs61:FSpec:=fsT 61 [((.list RR),false),((.int .u32),false)] [((.int .u32),false)] fun(l,t,_)=>t61 l t
theorem okf61:fs61.Ok Try.prog:=V6 fun x'' r'' hr''=>ok61 x'' () r'' hr''
def J8 (l:List RRt) (most:Int):Int:=minL (l.map fun x=>Xv x.2.2.2.1 most)
def Zm:FSpec:=fs61.like fun(l,t,_)=>.on (lrB l) (J8 l t,())
theorem Z3n:Zm.Ok Try.prog:=by
 refine J4 okf61 _ ?_
 rintro⟨(l:List RRt),(t:Int),_⟩ y h
 obtain⟨hb,rfl⟩:=Tr.get_on h
 have hb:lrB l=true:=hb
 have hl:=Nat.le_of_ble_eq_true hb
 refine X3 (vs:=[.int .u32 (J8 l t)]) rfl rfl (Tr.get_of_all ?_)
 show (t61 l t).all _
 unfold t61
 have hm:mapR (clT t) l 0=l.map (clT t):=by simp[mapR]
 refine Tr.all_t (Vq (by omega) (by omega)) (Tr.all_t (by unfold wC;simp;exact hl) (Tr.all_t ?_ (Tr.all_ret ?_)))
 ·rw[hm]
  unfold lrB
  rw[List.length_map]
  exact hb
 ·rw[hm]
  unfold J8 ttls
  rw[List.map_map]
  rfl
def t59 (r:RRt) (z:List UInt8):Tr Res:=.br (r.2.2.1==1) (.br (smN r.1&&smN z) (.br (undV r.1 z) (.br (Z1f r) (.ret ([.bool (recV r)],[])) .no) (.ret ([.bool false],[]))) .no) (.ret ([.bool false],[]))
def os59:OSpec:={ f:=59,sh:=[.d RR true,.d .str false],so:=[],F:=fun(r,z,_) _=>t59 r z }
theorem fn59 (r:RRt) (z:List UInt8):evC T0 (orcB [X0b,Z0r] []) (lpOf h59 0 (lsOf [])) c59 1000000 (U1 [AV.ofTy RR r true,.str z] [] Try.f59.ntmps) (Q0 T0 false 0 Try.f59)=(t59 r z).get:=by kernel_rfl
theorem ok59:os59.Ok Try.prog:=by
 refine Q4 Q2 tab0 (U0 (all_cons J1m (all_cons Z2y Z0)) Z0) h59 (d:=0) (n0:=0) (S:=lsOf []) Try.func59 (by kernel_rfl) (c:=c59) (by kernel_rfl) rfl (U3 (by kernel_rfl)) (by omega) (by kernel_rfl) ?_
 intro x'' y'' q'' hq''
 obtain⟨(r:RRt),(z:List UInt8),_⟩:=x''
 exact(fn59 r z).trans hq''
def fs59:FSpec:=fsT 59 [(RR,true),(.str,false)] [(.bool,false)] fun(r,z,_)=>t59 r z
theorem okf59:fs59.Ok Try.prog:=V6 fun x'' r'' hr''=>ok59 x'' () r'' hr''
def okR (r:RRt):Bool:=Nat.ble r.1.length 1000000&&Nat.ble r.2.2.2.2.length 1000000
def inV (z:List UInt8) (r:RRt):Bool:=r.2.2.1==1&&(undV r.1 z&&recV r)
def Zh:FSpec:=fs59.like fun(r,z,_)=>.on (okR r&&smN z) (inV z r,())
theorem J0v {r:RRt}:okR r=true↔r.1.length≤1000000∧r.2.2.2.2.length≤1000000:=by
 unfold okR
 rw[Bool.and_eq_true]
 exact⟨fun⟨a,b⟩=>⟨Nat.le_of_ble_eq_true a,Nat.le_of_ble_eq_true b⟩,fun⟨a,b⟩=>⟨Nat.ble_eq_true_of_le a,Nat.ble_eq_true_of_le b⟩⟩
theorem Z3r {r:RRt} (h:okR r=true):Z1f r=true:=by
 obtain⟨a,b⟩:=J0v.1 h
 unfold Z1f
 rw[X00 (by omega),X00 (by omega)]
 rfl
theorem Z2r {r:RRt} (h:okR r=true):smN r.1=true:=X0v.2 (J0v.1 h).1
theorem Z1m:Zh.Ok Try.prog:=by
 refine J4 okf59 _ ?_
 rintro⟨(r:RRt),(z:List UInt8),_⟩ y h
 obtain⟨hb,rfl⟩:=Tr.get_on h
 obtain⟨h1,h2⟩:=Bool.and_eq_true_iff.1 (show (okR r&&smN z)=true from hb)
 refine X3 (vs:=[.bool (inV z r)]) rfl rfl (Tr.get_of_all ?_)
 show (t59 r z).all _
 unfold t59 inV
 have hs:(smN r.1&&smN z)=true:=by rw[Z2r h1,h2];rfl
 refine Tr.all_br (fun c=>Tr.all_t hs (Tr.all_br (fun c2=>Tr.all_t (Z3r h1) (Tr.all_ret ?_)) fun c2=>Tr.all_ret ?_)) fun c=>Tr.all_ret ?_
 ·rw[c,c2];rfl
 ·rw[c,c2];rfl
 ·rw[c];rfl
def idxL {α:Type} (f:α→Bool):List α→Nat→Int
 | [],_=>-1
 | x::l,k=>if f x=true then (k:Int) else idxL f l (k+1)
theorem Jz {α:Type} (f:α→Bool) (d:α):∀ (l:List α) (k:Nat),(idxL f l k=-1∧l.find? f=none)∨(∃ j:Nat,idxL f l k=((k+j:Nat):Int)∧j < l.length∧l.find? f=some (l.getD j d))
 | [],k=>.inl ⟨rfl,rfl⟩
 | x::l,k=>by
   unfold idxL
   by_cases h:f x=true
   ·rw[if_pos h]
    exact .inr ⟨0,by simp,by simp,by simp[h]⟩
   ·rw[if_neg h]
    rcases Jz f d l (k+1) with ⟨h1,h2⟩ | ⟨j,h1,h2,h3⟩
    ·exact .inl ⟨h1,by rw[List.find?_cons_of_neg h];exact h2⟩
    ·exact .inr ⟨j+1,by rw[h1];omega,by simp;omega,by rw[List.find?_cons_of_neg h,h3];simp⟩
def fstV (p:RRt→Bool) (l:List RRt):RRt×Bool:=match l.find? p with | some r=>(r,true) | none=>(Ty.dflt RR,false)
def okL (l:List RRt):Bool:=lrB l&&l.all okR
theorem Z0i {l:List RRt} (h:l.all okR=true) {i:Int} (h0:0≤i) (h1:i < l.length):okR (l.getD i.toNat (Ty.dflt RR))=true:=by
 rw[List.getD_eq_getElem?_getD,List.getElem?_eq_getElem (by omega)]
 exact List.all_eq_true.1 h _ (List.getElem_mem _)
def okF (l:List RRt) (z n:List UInt8):Bool:=okL l&&(smN z&&smN n)
def ixF (l:List RRt) (z n:List UInt8) (m i:Int):Bool:=okF l z n&&(decide (m=(l.length:Int))&&decide (i=0))
def Q7 (qn:List UInt8) (qt qc:Int) (r:RRt):Bool:=r.1==qn&&(r.2.1==qt&&r.2.2.1==qc)
def t70 (r:RRt) (qn:List UInt8) (qt qc:Int):Tr Res:=.ret ([.bool ((keyV r).1==qn&&((keyV r).2.1==qt&&((keyV r).2.2==qc&&true)))],[.boxT none [.str qn,.int .u16 qt,.int .u16 qc]])
def os70:OSpec:={ f:=70,sh:=[.d RR true,.ptr 0 0],so:=[.box [.d .str false,.d (.int .u16) false,.d (.int .u16) false]],F:=fun(r,_) ((qn,qt,qc,_),_)=>t70 r qn qt qc }
theorem fn70 (r:RRt) (qn:List UInt8) (qt qc:Int):evC T0 (orcB [Ui] []) (lpOf h70 1 (lsOf [])) c70 1000000 (U1 [AV.ofTy RR r true,.ptr 0 0] [.box [.str qn,.int .u16 qt,.int .u16 qc]] Try.f70.ntmps) (Q0 T0 false 1 Try.f70)=(t70 r qn qt qc).get:=by kernel_rfl
theorem ok70:os70.Ok Try.prog:=by
 refine Q4 Q2 tab0 (U0 (all_cons V22 Z0) Z0) h70 (d:=0) (n0:=1) (S:=lsOf []) Try.func70 (by kernel_rfl) (c:=c70) (by kernel_rfl) rfl (U3 (by kernel_rfl)) (by omega) (by kernel_rfl) ?_
 intro x'' y'' q'' hq''
 obtain⟨(r:RRt),_⟩:=x''
 obtain⟨⟨(qn:List UInt8),(qt:Int),(qc:Int),_⟩,_⟩:=y''
 exact(fn70 r qn qt qc).trans hq''
def Q3h:OSpec:=os70.like fun(r,_) ((qn,qt,qc,_),_)=>.on (okR r&&smN qn) ([.bool (Q7 qn qt qc r)],[.box [.str qn,.int .u16 qt,.int .u16 qc]])
theorem ok70w:Q3h.Ok Try.prog:=by
 refine Xh ok70 _ ?_
 rintro⟨(r:RRt),_⟩ ⟨⟨(qn:List UInt8),(qt:Int),(qc:Int),_⟩,_⟩ r' h
 obtain⟨hb,rfl⟩:=Tr.get_on h
 obtain⟨h1,h2⟩:=Bool.and_eq_true_iff.1 (show (okR r&&smN qn)=true from hb)
 refine Tr.get_of_all ?_
 show (t70 r qn qt qc).all _
 unfold t70 Q7
 exact Tr.all_ret (by cases h1:r.1==qn<;>cases h2:r.2.1==qt<;>cases h3:r.2.2.1==qc<;>simp[keyV,h1,h2,h3])
def t89k (r:RRt) (z qn:List UInt8) (qt qc:Int):Tr Res:=.br (okR r&&smN z) (.br (inV z r) (.br (okR r&&smN qn) (.ret ([.bool (Q7 qn qt qc r)],[.boxT none [.str z],.boxT none [AV.fn 70 [.ptr 2 0]],.boxT none [.str qn,.int .u16 qt,.int .u16 qc]])) .no) (.ret ([.bool false],[.boxT none [.str z],.boxT none [AV.fn 70 [.ptr 2 0]],.boxT none [.str qn,.int .u16 qt,.int .u16 qc]]))) .no
def V3f:OSpec:={ f:=89,sh:=[.d RR true,.ptr 0 0,.ptr 1 0],so:=[.box [.d .str false],.box [.fnp 70 [(2,0)]],.box [.d .str false,.d (.int .u16) false,.d (.int .u16) false]],F:=fun(r,_) ((z,_),_,(qn,qt,qc,_),_)=>t89k r z qn qt qc }
theorem fn89k (r:RRt) (z qn:List UInt8) (qt qc:Int):evC T0 (orcB [Zh] [Q3h]) (lpOf h89 3 (lsOf [])) c89 1000000 (U1 [AV.ofTy RR r true,.ptr 0 0,.ptr 1 0] [.box [.str z],.box [.fn 70 [.ptr 2 0]],.box [.str qn,.int .u16 qt,.int .u16 qc]] Try.f89.ntmps) (Q0 T0 false 3 Try.f89)=(t89k r z qn qt qc).get:=by kernel_rfl
theorem ok89k:V3f.Ok Try.prog:=by
 refine Q4 Q2 tab0 (U0 (all_cons Z1m Z0) (all_cons ok70w Z0)) h89 (d:=0) (n0:=3) (S:=lsOf []) Try.func89 (by kernel_rfl) (c:=c89) (by kernel_rfl) rfl (U3 (by kernel_rfl)) (by omega) (by kernel_rfl) ?_
 intro x'' y'' q'' hq''
 obtain⟨(r:RRt),_⟩:=x''
 obtain⟨⟨(z:List UInt8),_⟩,_,⟨(qn:List UInt8),(qt:Int),(qc:Int),_⟩,_⟩:=y''
 exact(fn89k r z qn qt qc).trans hq''
def J0d:OSpec:=V3f.like fun(r,_) ((z,_),_,(qn,qt,qc,_),_)=>.on (okR r&&(smN z&&smN qn)) ([.bool (inV z r&&Q7 qn qt qc r)],[.box [.str z],.box [.fn 70 [.ptr 2 0]],.box [.str qn,.int .u16 qt,.int .u16 qc]])
theorem Q3q:J0d.Ok Try.prog:=by
 refine Xh ok89k _ ?_
 rintro⟨(r:RRt),_⟩ ⟨⟨(z:List UInt8),_⟩,_,⟨(qn:List UInt8),(qt:Int),(qc:Int),_⟩,_⟩ r' h
 obtain⟨hb,rfl⟩:=Tr.get_on h
 obtain⟨h1,h2⟩:=Bool.and_eq_true_iff.1 (show (okR r&&(smN z&&smN qn))=true from hb)
 obtain⟨h2,h3⟩:=Bool.and_eq_true_iff.1 h2
 refine Tr.get_of_all ?_
 show (t89k r z qn qt qc).all _
 unfold t89k
 refine Tr.all_t (by rw[h1,h2];rfl) (Tr.all_br (fun c=>Tr.all_t (by rw[h1,h3];rfl) (Tr.all_ret (by rw[c];rfl))) fun c=>Tr.all_ret (by rw[c];rfl))
noncomputable def b88k:Code:=Z7 c88 0
def V2s:LoopSpec:={ bid:=0,sh:=[.d (.list RR) false,.fnp 89 [(0,0),(1,0)],.d (.int .i64) false,.d (.int .i64) false],so:=[.box [.d .str false],.box [.fnp 70 [(2,0)]],.box [.d .str false,.d (.int .u16) false,.d (.int .u16) false]],F:=fun(l,m,i,_) ((z,_),_,(qn,qt,qc,_),_)=>.on2 (ixF l z qn m i) (decide (idxL (fun r=>inV z r&&Q7 qn qt qc r) l 0 < 0)) (.exit 0,[.dead],[.box [.str z],.box [.fn 70 [.ptr 2 0]],.box [.str qn,.int .u16 qt,.int .u16 qc]]) (.ret,[.int .i64 (idxL (fun r=>inV z r&&Q7 qn qt qc r) l 0)],[.box [.str z],.box [.fn 70 [.ptr 2 0]],.box [.str qn,.int .u16 qt,.int .u16 qc]]) }
def r88k (l:List RRt) (m i:Int) (z qn:List UInt8) (qt qc:Int):Tr (St⊕(Ex×St)):=.br (decide (i < m)) (.br (decide (0≤i)) (.br (decide (i < (↑l.length:Int))) (.br (okR (l.getD i.toNat (Ty.dflt RR))&&(smN z&&smN qn)) (.br (inV z (l.getD i.toNat (Ty.dflt RR))&&Q7 qn qt qc (l.getD i.toNat (Ty.dflt RR))) (.ret (.inr (.ret,stOf [4] [.int .i64 i] [.boxT none [.str z],.boxT none [AV.fn 70 [.ptr 2 0]],.boxT none [.str qn,.int .u16 qt,.int .u16 qc]]))) (.ret (.inl (stOf [0,1,7,8] [.list RR l,AV.fn 89 [.ptr 0 0,.ptr 1 0],.int .i64 m,.int .i64 (IntKind.wrap .i64 (i+1))] [.boxT none [.str z],.boxT none [AV.fn 70 [.ptr 2 0]],.boxT none [.str qn,.int .u16 qt,.int .u16 qc]])))) .no) .no) .no) (.ret (.inr (.exit 0,stOf [4] [.dead] [.boxT none [.str z],.boxT none [AV.fn 70 [.ptr 2 0]],.boxT none [.str qn,.int .u16 qt,.int .u16 qc]])))
theorem V30 (lp:Lp) (l:List RRt) (m i:Int) (z qn:List UInt8) (qt qc:Int):evC T0 (orcB [] [J0d]) lp b88k 0 (stOf [0,1,7,8] [.list RR l,.fn 89 [.ptr 0 0,.ptr 1 0],.int .i64 m,.int .i64 i] [.box [.str z],.box [.fn 70 [.ptr 2 0]],.box [.str qn,.int .u16 qt,.int .u16 qc]]) (X1 [0,1,7,8] [4] 3)=(r88k l m i z qn qt qc).get:=by kernel_rfl
theorem wf88k (l:List RRt) (m:Int) (z qn:List UInt8) (qt qc:Int) (I'':Int→Prop) (m'':Int→Nat) (r'':Ex×St) (h:∀ (i:Int),I'' i→(r88k l m i z qn qt qc).all fun x''=>x''=.inr r''∨∃ (i':Int),x''=.inl (stOf [0,1,7,8] [.list RR l,.fn 89 [.ptr 0 0,.ptr 1 0],.int .i64 m,.int .i64 i'] [.box [.str z],.box [.fn 70 [.ptr 2 0]],.box [.str qn,.int .u16 qt,.int .u16 qc]])∧I'' i'∧m'' i' < m'' i) (lp:Lp) (i:Int):I'' i→
    Q3 (fun st=>evC T0 (orcB [] [J0d]) lp b88k 0 st (X1 [0,1,7,8] [4] 3)) (stOf [0,1,7,8] [.list RR l,.fn 89 [.ptr 0 0,.ptr 1 0],.int .i64 m,.int .i64 i] [.box [.str z],.box [.fn 70 [.ptr 2 0]],.box [.str qn,.int .u16 qt,.int .u16 qc]])=some r'':=
 V8 (fun a'':Int=>stOf [0,1,7,8] [.list RR l,.fn 89 [.ptr 0 0,.ptr 1 0],.int .i64 m,.int .i64 a''] [.box [.str z],.box [.fn 70 [.ptr 2 0]],.box [.str qn,.int .u16 qt,.int .u16 qc]]) (fun a''=>I'' a'') (fun a''=>m'' a'') r'' (fun a''=>r88k l m a'' z qn qt qc)
  (fun a'' x hx=>(V30 lp l m a'' z qn qt qc).trans hx) (fun a'' ha=>Tr.all_mono (fun x'' hx=>hx.imp id fun⟨i',h1,h2,h3⟩=>⟨(i'),h1,h2,h3⟩) (h (a'') ha)) (i)
theorem U38:V2s.Ok T0 (orcB [] [J0d]) h88 3 0 b88k:=by
 intro q'' hq'' x'' y'' r'' h
 obtain⟨(l:List RRt),(m:Int),(i:Int),_⟩:=x''
 obtain⟨⟨(z:List UInt8),_⟩,_,⟨(qn:List UInt8),(qt:Int),(qc:Int),_⟩,_⟩:=y''
 obtain⟨hc,rfl⟩:=Tr.get_on2 h
 show Q3 (fun st=>evC T0 (orcB [] [J0d]) (lpN T0 (orcB [] [J0d]) h88 3 q'') b88k 0 st (X1 [0,1,7,8] [4] 3)) (stOf [0,1,7,8] [.list RR l,.fn 89 [.ptr 0 0,.ptr 1 0],.int .i64 m,.int .i64 i] [.box [.str z],.box [.fn 70 [.ptr 2 0]],.box [.str qn,.int .u16 qt,.int .u16 qc]])=some ((bif decide (idxL (fun r=>inV z r&&Q7 qn qt qc r) l 0 < 0) then (.exit 0,[.dead],[.box [.str z],.box [.fn 70 [.ptr 2 0]],.box [.str qn,.int .u16 qt,.int .u16 qc]]) else (.ret,[.int .i64 (idxL (fun r=>inV z r&&Q7 qn qt qc r) l 0)],[.box [.str z],.box [.fn 70 [.ptr 2 0]],.box [.str qn,.int .u16 qt,.int .u16 qc]]):Ex×List AV×List LObj).1,stOf [4] (bif decide (idxL (fun r=>inV z r&&Q7 qn qt qc r) l 0 < 0) then (.exit 0,[.dead],[.box [.str z],.box [.fn 70 [.ptr 2 0]],.box [.str qn,.int .u16 qt,.int .u16 qc]]) else (.ret,[.int .i64 (idxL (fun r=>inV z r&&Q7 qn qt qc r) l 0)],[.box [.str z],.box [.fn 70 [.ptr 2 0]],.box [.str qn,.int .u16 qt,.int .u16 qc]]):Ex×List AV×List LObj).2.1 (bif decide (idxL (fun r=>inV z r&&Q7 qn qt qc r) l 0 < 0) then (.exit 0,[.dead],[.box [.str z],.box [.fn 70 [.ptr 2 0]],.box [.str qn,.int .u16 qt,.int .u16 qc]]) else (.ret,[.int .i64 (idxL (fun r=>inV z r&&Q7 qn qt qc r) l 0)],[.box [.str z],.box [.fn 70 [.ptr 2 0]],.box [.str qn,.int .u16 qt,.int .u16 qc]]):Ex×List AV×List LObj).2.2)
 simp only[ixF,okF,okL,Bool.and_eq_true,decide_eq_true_eq] at hc
 obtain⟨⟨⟨hl,hall⟩,hz,hq⟩,rfl,rfl⟩:=hc
 have hl:=Nat.le_of_ble_eq_true hl
 refine wf88k l l.length z qn qt qc (fun i=>0≤i∧i≤l.length∧idxL (fun r=>inV z r&&Q7 qn qt qc r) (l.drop i.toNat) i.toNat=idxL (fun r=>inV z r&&Q7 qn qt qc r) l 0) (fun i=>(l.length - i).toNat) _ ?_ _ 0 ⟨by omega,by omega,rfl⟩
 rintro i ⟨h0,h1,he⟩
 unfold r88k
 rw[Q8 h0 h1 (by omega)]
 by_cases hi:i < l.length
 ·have hok:=Z0i hall h0 hi
  rw[Jb (l:=l) (k:=i.toNat) (by omega) (Ty.dflt RR),idxL] at he
  generalize l.getD i.toNat (Ty.dflt RR)=x at *
  refine Tr.all_t (J0 hi) (Tr.all_t (J0 h0) (Tr.all_t (J0 hi) (Tr.all_t (by rw[hok,hz,hq];rfl) (Tr.all_br (fun h=>?_) fun h=>?_))))
  ·rw[if_pos h] at he
   rw[←he,show ((i.toNat:Nat):Int)=i by omega,V0 (show ¬ i < 0 by omega)]
   exact Tr.all_ret (.inl rfl)
  ·rw[if_neg (by rw[h];simp)] at he
   exact Tr.all_ret (.inr ⟨_,rfl,⟨by omega,by omega,by rw[show (i+1).toNat=i.toNat+1 by omega];exact he⟩,by omega⟩)
 ·refine Tr.all_f (V0 hi) (Tr.all_ret (.inl ?_))
  rw[List.drop_eq_nil_of_le (by omega)] at he
  rw[←he]
  rfl
def t88k (l:List RRt) (z qn:List UInt8) (qt qc:Int):Tr Res:=.br (ixF l z qn (↑l.length:Int) 0) (.br (decide (idxL (fun r ↦ inV z r&&Q7 qn qt qc r) l 0 < 0)) (.ret ([.int .i64 (-1)],[.boxT none [.str z],.boxT none [AV.fn 70 [.ptr 2 0]],.boxT none [.str qn,.int .u16 qt,.int .u16 qc]])) (.ret ([.int .i64 (idxL (fun r ↦ inV z r&&Q7 qn qt qc r) l 0)],[.boxT none [.str z],.boxT none [AV.fn 70 [.ptr 2 0]],.boxT none [.str qn,.int .u16 qt,.int .u16 qc]]))) .no
def J3i:OSpec:={ f:=88,sh:=[.d (.list RR) false,.fnp 89 [(0,0),(1,0)]],so:=[.box [.d .str false],.box [.fnp 70 [(2,0)]],.box [.d .str false,.d (.int .u16) false,.d (.int .u16) false]],F:=fun(l,_) ((z,_),_,(qn,qt,qc,_),_)=>t88k l z qn qt qc }
theorem fn88k (l:List RRt) (z qn:List UInt8) (qt qc:Int):evC T0 (orcB [] [J0d]) (lpOf h88 3 (lsOf [V2s])) c88 1000000 (U1 [.list RR l,.fn 89 [.ptr 0 0,.ptr 1 0]] [.box [.str z],.box [.fn 70 [.ptr 2 0]],.box [.str qn,.int .u16 qt,.int .u16 qc]] Try.f88.ntmps) (Q0 T0 false 3 Try.f88)=(t88k l z qn qt qc).get:=by kernel_rfl
theorem ok88k:J3i.Ok Try.prog:=by
 refine Q4 Q2 tab0 (U0 Z0 (all_cons Q3q Z0)) h88 (d:=0) (n0:=3) (S:=lsOf [V2s]) Try.func88 (by kernel_rfl) (c:=c88) (by kernel_rfl) rfl (Z8 (xs:=[(0,b88k)]) (by kernel_rfl) (all_cons (J9 U38) Z0)) (by omega) (by kernel_rfl) ?_
 intro x'' y'' q'' hq''
 obtain⟨(l:List RRt),_⟩:=x''
 obtain⟨⟨(z:List UInt8),_⟩,_,⟨(qn:List UInt8),(qt:Int),(qc:Int),_⟩,_⟩:=y''
 exact(fn88k l z qn qt qc).trans hq''
def t66k (l:List RRt) (z qn:List UInt8) (qt qc:Int):Tr Res:=.br (ixF l z qn (↑l.length:Int) 0) (.br (decide (idxL (fun r ↦ inV z r&&Q7 qn qt qc r) l 0 < 0)) (.ret ([.agg [.str [],.int .u16 0,.int .u16 0,.int .u32 0,.str []],.bool false],[.boxT none [.str qn,.int .u16 qt,.int .u16 qc]])) (.br (decide (idxL (fun r ↦ inV z r&&Q7 qn qt qc r) l 0 < 0)) (.ret ([.agg [.str [],.int .u16 0,.int .u16 0,.int .u32 0,.str []],.bool false],[.boxT none [.str qn,.int .u16 qt,.int .u16 qc]])) (.br (decide (0≤idxL (fun r ↦ inV z r&&Q7 qn qt qc r) l 0)) (.br (decide (idxL (fun r ↦ inV z r&&Q7 qn qt qc r) l 0 < (↑l.length:Int))) (.ret ([.agg [.str (l.getD (Int.toNat (idxL (fun r ↦ inV z r&&Q7 qn qt qc r) l 0)) (Ty.dflt RR)).1,.int .u16 (l.getD (Int.toNat (idxL (fun r ↦ inV z r&&Q7 qn qt qc r) l 0)) (Ty.dflt RR)).2.1,.int .u16 (l.getD (Int.toNat (idxL (fun r ↦ inV z r&&Q7 qn qt qc r) l 0)) (Ty.dflt RR)).2.2.1,.int .u32 (l.getD (Int.toNat (idxL (fun r ↦ inV z r&&Q7 qn qt qc r) l 0)) (Ty.dflt RR)).2.2.2.1,.str (l.getD (Int.toNat (idxL (fun r ↦ inV z r&&Q7 qn qt qc r) l 0)) (Ty.dflt RR)).2.2.2.2],.bool true],[.boxT none [.str qn,.int .u16 qt,.int .u16 qc]])) .no) .no))) .no
def J3f:OSpec:={ f:=66,sh:=[.d (.list RR) false,.d .str false,.fnp 70 [(0,0)]],so:=[.box [.d .str false,.d (.int .u16) false,.d (.int .u16) false]],F:=fun(l,z,_) ((qn,qt,qc,_),_)=>t66k l z qn qt qc }
theorem fn66k (l:List RRt) (z qn:List UInt8) (qt qc:Int):evC T0 (orcB [] [J3i]) (lpOf h66 1 (lsOf [])) c66 1000000 (U1 [.list RR l,.str z,.fn 70 [.ptr 0 0]] [.box [.str qn,.int .u16 qt,.int .u16 qc]] Try.f66.ntmps) (Q0 T0 false 1 Try.f66)=(t66k l z qn qt qc).get:=by kernel_rfl
theorem ok66k:J3f.Ok Try.prog:=by
 refine Q4 Q2 tab0 (U0 Z0 (all_cons ok88k Z0)) h66 (d:=0) (n0:=1) (S:=lsOf []) Try.func66 (by kernel_rfl) (c:=c66) (by kernel_rfl) rfl (U3 (by kernel_rfl)) (by omega) (by kernel_rfl) ?_
 intro x'' y'' q'' hq''
 obtain⟨(l:List RRt),(z:List UInt8),_⟩:=x''
 obtain⟨⟨(qn:List UInt8),(qt:Int),(qc:Int),_⟩,_⟩:=y''
 exact(fn66k l z qn qt qc).trans hq''
def Q2o:OSpec:=J3f.like fun(l,z,_) ((qn,qt,qc,_),_)=>.on (okF l z qn) ([AV.ofTy RR (fstV (fun r=>inV z r&&Q7 qn qt qc r) l).1 true,.bool (fstV (fun r=>inV z r&&Q7 qn qt qc r) l).2],[.box [.str qn,.int .u16 qt,.int .u16 qc]])
theorem X3q:Q2o.Ok Try.prog:=by
 refine Xh ok66k _ ?_
 rintro⟨(l:List RRt),(z:List UInt8),_⟩ ⟨⟨(qn:List UInt8),(qt:Int),(qc:Int),_⟩,_⟩ r' h
 obtain⟨hb,rfl⟩:=Tr.get_on h
 have hb:okF l z qn=true:=hb
 refine Tr.get_of_all ?_
 show (t66k l z qn qt qc).all _
 unfold t66k fstV
 have hx:ixF l z qn (l.length:Int) 0=true:=by unfold ixF;rw[hb];simp
 rcases Jz (fun r=>inV z r&&Q7 qn qt qc r) (Ty.dflt RR) l 0 with ⟨h1,h2⟩ | ⟨j,h1,h2,h3⟩
 ·rw[h1,h2]
  exact Tr.all_t hx (Tr.all_t rfl (Tr.all_ret rfl))
 ·rw[h1,h3]
  rw[show ((0+j:Nat):Int)=(j:Int) by omega]
  refine Tr.all_t hx (Tr.all_f (V0 (by omega)) (Tr.all_f (V0 (by omega)) (Tr.all_t (J0 (by omega)) (Tr.all_t (J0 (by omega)) (Tr.all_ret ?_)))))
  rw[Int.toNat_natCast]
  rfl
def alsP (qn:List UInt8) (r:RRt):Bool:=r.1==qn&&r.2.1==5
def t91 (r:RRt) (qn:List UInt8) (qt qc:Int):Tr Res:=.br (r.1==qn) (.ret ([.bool (r.2.1==5)],[.boxT none [.str qn,.int .u16 qt,.int .u16 qc]])) (.ret ([.bool false],[.boxT none [.str qn,.int .u16 qt,.int .u16 qc]]))
def os91:OSpec:={ f:=91,sh:=[.d RR true,.ptr 0 0],so:=[.box [.d .str false,.d (.int .u16) false,.d (.int .u16) false]],F:=fun(r,_) ((qn,qt,qc,_),_)=>t91 r qn qt qc }
theorem fn91 (r:RRt) (qn:List UInt8) (qt qc:Int):evC T0 (orcB [] []) (lpOf h91 1 (lsOf [])) c91 1000000 (U1 [AV.ofTy RR r true,.ptr 0 0] [.box [.str qn,.int .u16 qt,.int .u16 qc]] Try.f91.ntmps) (Q0 T0 false 1 Try.f91)=(t91 r qn qt qc).get:=by kernel_rfl
theorem ok91:os91.Ok Try.prog:=by
 refine Q4 Q2 tab0 (U0 Z0 Z0) h91 (d:=0) (n0:=1) (S:=lsOf []) Try.func91 (by kernel_rfl) (c:=c91) (by kernel_rfl) rfl (U3 (by kernel_rfl)) (by omega) (by kernel_rfl) ?_
 intro x'' y'' q'' hq''
 obtain⟨(r:RRt),_⟩:=x''
 obtain⟨⟨(qn:List UInt8),(qt:Int),(qc:Int),_⟩,_⟩:=y''
 exact(fn91 r qn qt qc).trans hq''
def Q3g:OSpec:=os91.like fun(r,_) ((qn,qt,qc,_),_)=>.on (okR r&&smN qn) ([.bool (alsP qn r)],[.box [.str qn,.int .u16 qt,.int .u16 qc]])
theorem ok91w:Q3g.Ok Try.prog:=by
 refine Xh ok91 _ ?_
 rintro⟨(r:RRt),_⟩ ⟨⟨(qn:List UInt8),(qt:Int),(qc:Int),_⟩,_⟩ r' h
 obtain⟨hb,rfl⟩:=Tr.get_on h
 obtain⟨h1,h2⟩:=Bool.and_eq_true_iff.1 (show (okR r&&smN qn)=true from hb)
 refine Tr.get_of_all ?_
 show (t91 r qn qt qc).all _
 unfold t91 alsP
 refine Tr.all_br (fun c=>Tr.all_ret (by rw[c];rfl)) fun c=>Tr.all_ret (by rw[c];rfl)
def t89a (r:RRt) (z qn:List UInt8) (qt qc:Int):Tr Res:=.br (okR r&&smN z) (.br (inV z r) (.br (okR r&&smN qn) (.ret ([.bool (alsP qn r)],[.boxT none [.str z],.boxT none [AV.fn 91 [.ptr 2 0]],.boxT none [.str qn,.int .u16 qt,.int .u16 qc]])) .no) (.ret ([.bool false],[.boxT none [.str z],.boxT none [AV.fn 91 [.ptr 2 0]],.boxT none [.str qn,.int .u16 qt,.int .u16 qc]]))) .no
def J3g:OSpec:={ f:=89,sh:=[.d RR true,.ptr 0 0,.ptr 1 0],so:=[.box [.d .str false],.box [.fnp 91 [(2,0)]],.box [.d .str false,.d (.int .u16) false,.d (.int .u16) false]],F:=fun(r,_) ((z,_),_,(qn,qt,qc,_),_)=>t89a r z qn qt qc }
theorem fn89a (r:RRt) (z qn:List UInt8) (qt qc:Int):evC T0 (orcB [Zh] [Q3g]) (lpOf h89 3 (lsOf [])) c89 1000000 (U1 [AV.ofTy RR r true,.ptr 0 0,.ptr 1 0] [.box [.str z],.box [.fn 91 [.ptr 2 0]],.box [.str qn,.int .u16 qt,.int .u16 qc]] Try.f89.ntmps) (Q0 T0 false 3 Try.f89)=(t89a r z qn qt qc).get:=by kernel_rfl
theorem ok89a:J3g.Ok Try.prog:=by
 refine Q4 Q2 tab0 (U0 (all_cons Z1m Z0) (all_cons ok91w Z0)) h89 (d:=0) (n0:=3) (S:=lsOf []) Try.func89 (by kernel_rfl) (c:=c89) (by kernel_rfl) rfl (U3 (by kernel_rfl)) (by omega) (by kernel_rfl) ?_
 intro x'' y'' q'' hq''
 obtain⟨(r:RRt),_⟩:=x''
 obtain⟨⟨(z:List UInt8),_⟩,_,⟨(qn:List UInt8),(qt:Int),(qc:Int),_⟩,_⟩:=y''
 exact(fn89a r z qn qt qc).trans hq''
def U0e:OSpec:=J3g.like fun(r,_) ((z,_),_,(qn,qt,qc,_),_)=>.on (okR r&&(smN z&&smN qn)) ([.bool (inV z r&&alsP qn r)],[.box [.str z],.box [.fn 91 [.ptr 2 0]],.box [.str qn,.int .u16 qt,.int .u16 qc]])
theorem U3l:U0e.Ok Try.prog:=by
 refine Xh ok89a _ ?_
 rintro⟨(r:RRt),_⟩ ⟨⟨(z:List UInt8),_⟩,_,⟨(qn:List UInt8),(qt:Int),(qc:Int),_⟩,_⟩ r' h
 obtain⟨hb,rfl⟩:=Tr.get_on h
 obtain⟨h1,h2⟩:=Bool.and_eq_true_iff.1 (show (okR r&&(smN z&&smN qn))=true from hb)
 obtain⟨h2,h3⟩:=Bool.and_eq_true_iff.1 h2
 refine Tr.get_of_all ?_
 show (t89a r z qn qt qc).all _
 unfold t89a
 refine Tr.all_t (by rw[h1,h2];rfl) (Tr.all_br (fun c=>Tr.all_t (by rw[h1,h3];rfl) (Tr.all_ret (by rw[c];rfl))) fun c=>Tr.all_ret (by rw[c];rfl))
noncomputable def b88a:Code:=Z7 c88 0
def U2u:LoopSpec:={ bid:=0,sh:=[.d (.list RR) false,.fnp 89 [(0,0),(1,0)],.d (.int .i64) false,.d (.int .i64) false],so:=[.box [.d .str false],.box [.fnp 91 [(2,0)]],.box [.d .str false,.d (.int .u16) false,.d (.int .u16) false]],F:=fun(l,m,i,_) ((z,_),_,(qn,qt,qc,_),_)=>.on2 (ixF l z qn m i) (decide (idxL (fun r=>inV z r&&alsP qn r) l 0 < 0)) (.exit 0,[.dead],[.box [.str z],.box [.fn 91 [.ptr 2 0]],.box [.str qn,.int .u16 qt,.int .u16 qc]]) (.ret,[.int .i64 (idxL (fun r=>inV z r&&alsP qn r) l 0)],[.box [.str z],.box [.fn 91 [.ptr 2 0]],.box [.str qn,.int .u16 qt,.int .u16 qc]]) }
def r88a (l:List RRt) (m i:Int) (z qn:List UInt8) (qt qc:Int):Tr (St⊕(Ex×St)):=.br (decide (i < m)) (.br (decide (0≤i)) (.br (decide (i < (↑l.length:Int))) (.br (okR (l.getD i.toNat (Ty.dflt RR))&&(smN z&&smN qn)) (.br (inV z (l.getD i.toNat (Ty.dflt RR))&&alsP qn (l.getD i.toNat (Ty.dflt RR))) (.ret (.inr (.ret,stOf [4] [.int .i64 i] [.boxT none [.str z],.boxT none [AV.fn 91 [.ptr 2 0]],.boxT none [.str qn,.int .u16 qt,.int .u16 qc]]))) (.ret (.inl (stOf [0,1,7,8] [.list RR l,AV.fn 89 [.ptr 0 0,.ptr 1 0],.int .i64 m,.int .i64 (IntKind.wrap .i64 (i+1))] [.boxT none [.str z],.boxT none [AV.fn 91 [.ptr 2 0]],.boxT none [.str qn,.int .u16 qt,.int .u16 qc]])))) .no) .no) .no) (.ret (.inr (.exit 0,stOf [4] [.dead] [.boxT none [.str z],.boxT none [AV.fn 91 [.ptr 2 0]],.boxT none [.str qn,.int .u16 qt,.int .u16 qc]])))
theorem U2y (lp:Lp) (l:List RRt) (m i:Int) (z qn:List UInt8) (qt qc:Int):evC T0 (orcB [] [U0e]) lp b88a 0 (stOf [0,1,7,8] [.list RR l,.fn 89 [.ptr 0 0,.ptr 1 0],.int .i64 m,.int .i64 i] [.box [.str z],.box [.fn 91 [.ptr 2 0]],.box [.str qn,.int .u16 qt,.int .u16 qc]]) (X1 [0,1,7,8] [4] 3)=(r88a l m i z qn qt qc).get:=by kernel_rfl
theorem wf88a (l:List RRt) (m:Int) (z qn:List UInt8) (qt qc:Int) (I'':Int→Prop) (m'':Int→Nat) (r'':Ex×St) (h:∀ (i:Int),I'' i→(r88a l m i z qn qt qc).all fun x''=>x''=.inr r''∨∃ (i':Int),x''=.inl (stOf [0,1,7,8] [.list RR l,.fn 89 [.ptr 0 0,.ptr 1 0],.int .i64 m,.int .i64 i'] [.box [.str z],.box [.fn 91 [.ptr 2 0]],.box [.str qn,.int .u16 qt,.int .u16 qc]])∧I'' i'∧m'' i' < m'' i) (lp:Lp) (i:Int):I'' i→
    Q3 (fun st=>evC T0 (orcB [] [U0e]) lp b88a 0 st (X1 [0,1,7,8] [4] 3)) (stOf [0,1,7,8] [.list RR l,.fn 89 [.ptr 0 0,.ptr 1 0],.int .i64 m,.int .i64 i] [.box [.str z],.box [.fn 91 [.ptr 2 0]],.box [.str qn,.int .u16 qt,.int .u16 qc]])=some r'':=
 V8 (fun a'':Int=>stOf [0,1,7,8] [.list RR l,.fn 89 [.ptr 0 0,.ptr 1 0],.int .i64 m,.int .i64 a''] [.box [.str z],.box [.fn 91 [.ptr 2 0]],.box [.str qn,.int .u16 qt,.int .u16 qc]]) (fun a''=>I'' a'') (fun a''=>m'' a'') r'' (fun a''=>r88a l m a'' z qn qt qc)
  (fun a'' x hx=>(U2y lp l m a'' z qn qt qc).trans hx) (fun a'' ha=>Tr.all_mono (fun x'' hx=>hx.imp id fun⟨i',h1,h2,h3⟩=>⟨(i'),h1,h2,h3⟩) (h (a'') ha)) (i)
theorem V39:U2u.Ok T0 (orcB [] [U0e]) h88 3 0 b88a:=by
 intro q'' hq'' x'' y'' r'' h
 obtain⟨(l:List RRt),(m:Int),(i:Int),_⟩:=x''
 obtain⟨⟨(z:List UInt8),_⟩,_,⟨(qn:List UInt8),(qt:Int),(qc:Int),_⟩,_⟩:=y''
 obtain⟨hc,rfl⟩:=Tr.get_on2 h
 show Q3 (fun st=>evC T0 (orcB [] [U0e]) (lpN T0 (orcB [] [U0e]) h88 3 q'') b88a 0 st (X1 [0,1,7,8] [4] 3)) (stOf [0,1,7,8] [.list RR l,.fn 89 [.ptr 0 0,.ptr 1 0],.int .i64 m,.int .i64 i] [.box [.str z],.box [.fn 91 [.ptr 2 0]],.box [.str qn,.int .u16 qt,.int .u16 qc]])=some ((bif decide (idxL (fun r=>inV z r&&alsP qn r) l 0 < 0) then (.exit 0,[.dead],[.box [.str z],.box [.fn 91 [.ptr 2 0]],.box [.str qn,.int .u16 qt,.int .u16 qc]]) else (.ret,[.int .i64 (idxL (fun r=>inV z r&&alsP qn r) l 0)],[.box [.str z],.box [.fn 91 [.ptr 2 0]],.box [.str qn,.int .u16 qt,.int .u16 qc]]):Ex×List AV×List LObj).1,stOf [4] (bif decide (idxL (fun r=>inV z r&&alsP qn r) l 0 < 0) then (.exit 0,[.dead],[.box [.str z],.box [.fn 91 [.ptr 2 0]],.box [.str qn,.int .u16 qt,.int .u16 qc]]) else (.ret,[.int .i64 (idxL (fun r=>inV z r&&alsP qn r) l 0)],[.box [.str z],.box [.fn 91 [.ptr 2 0]],.box [.str qn,.int .u16 qt,.int .u16 qc]]):Ex×List AV×List LObj).2.1 (bif decide (idxL (fun r=>inV z r&&alsP qn r) l 0 < 0) then (.exit 0,[.dead],[.box [.str z],.box [.fn 91 [.ptr 2 0]],.box [.str qn,.int .u16 qt,.int .u16 qc]]) else (.ret,[.int .i64 (idxL (fun r=>inV z r&&alsP qn r) l 0)],[.box [.str z],.box [.fn 91 [.ptr 2 0]],.box [.str qn,.int .u16 qt,.int .u16 qc]]):Ex×List AV×List LObj).2.2)
 simp only[ixF,okF,okL,Bool.and_eq_true,decide_eq_true_eq] at hc
 obtain⟨⟨⟨hl,hall⟩,hz,hq⟩,rfl,rfl⟩:=hc
 have hl:=Nat.le_of_ble_eq_true hl
 refine wf88a l l.length z qn qt qc (fun i=>0≤i∧i≤l.length∧idxL (fun r=>inV z r&&alsP qn r) (l.drop i.toNat) i.toNat=idxL (fun r=>inV z r&&alsP qn r) l 0) (fun i=>(l.length - i).toNat) _ ?_ _ 0 ⟨by omega,by omega,rfl⟩
 rintro i ⟨h0,h1,he⟩
 unfold r88a
 rw[Q8 h0 h1 (by omega)]
 by_cases hi:i < l.length
 ·have hok:=Z0i hall h0 hi
  rw[Jb (l:=l) (k:=i.toNat) (by omega) (Ty.dflt RR),idxL] at he
  generalize l.getD i.toNat (Ty.dflt RR)=x at *
  refine Tr.all_t (J0 hi) (Tr.all_t (J0 h0) (Tr.all_t (J0 hi) (Tr.all_t (by rw[hok,hz,hq];rfl) (Tr.all_br (fun h=>?_) fun h=>?_))))
  ·rw[if_pos h] at he
   rw[←he,show ((i.toNat:Nat):Int)=i by omega,V0 (show ¬ i < 0 by omega)]
   exact Tr.all_ret (.inl rfl)
  ·rw[if_neg (by rw[h];simp)] at he
   exact Tr.all_ret (.inr ⟨_,rfl,⟨by omega,by omega,by rw[show (i+1).toNat=i.toNat+1 by omega];exact he⟩,by omega⟩)
 ·refine Tr.all_f (V0 hi) (Tr.all_ret (.inl ?_))
  rw[List.drop_eq_nil_of_le (by omega)] at he
  rw[←he]
  rfl
def t88a (l:List RRt) (z qn:List UInt8) (qt qc:Int):Tr Res:=.br (ixF l z qn (↑l.length:Int) 0) (.br (decide (idxL (fun r ↦ inV z r&&alsP qn r) l 0 < 0)) (.ret ([.int .i64 (-1)],[.boxT none [.str z],.boxT none [AV.fn 91 [.ptr 2 0]],.boxT none [.str qn,.int .u16 qt,.int .u16 qc]])) (.ret ([.int .i64 (idxL (fun r ↦ inV z r&&alsP qn r) l 0)],[.boxT none [.str z],.boxT none [AV.fn 91 [.ptr 2 0]],.boxT none [.str qn,.int .u16 qt,.int .u16 qc]]))) .no
def V3g:OSpec:={ f:=88,sh:=[.d (.list RR) false,.fnp 89 [(0,0),(1,0)]],so:=[.box [.d .str false],.box [.fnp 91 [(2,0)]],.box [.d .str false,.d (.int .u16) false,.d (.int .u16) false]],F:=fun(l,_) ((z,_),_,(qn,qt,qc,_),_)=>t88a l z qn qt qc }
theorem fn88a (l:List RRt) (z qn:List UInt8) (qt qc:Int):evC T0 (orcB [] [U0e]) (lpOf h88 3 (lsOf [U2u])) c88 1000000 (U1 [.list RR l,.fn 89 [.ptr 0 0,.ptr 1 0]] [.box [.str z],.box [.fn 91 [.ptr 2 0]],.box [.str qn,.int .u16 qt,.int .u16 qc]] Try.f88.ntmps) (Q0 T0 false 3 Try.f88)=(t88a l z qn qt qc).get:=by kernel_rfl
theorem ok88a:V3g.Ok Try.prog:=by
 refine Q4 Q2 tab0 (U0 Z0 (all_cons U3l Z0)) h88 (d:=0) (n0:=3) (S:=lsOf [U2u]) Try.func88 (by kernel_rfl) (c:=c88) (by kernel_rfl) rfl (Z8 (xs:=[(0,b88a)]) (by kernel_rfl) (all_cons (J9 V39) Z0)) (by omega) (by kernel_rfl) ?_
 intro x'' y'' q'' hq''
 obtain⟨(l:List RRt),_⟩:=x''
 obtain⟨⟨(z:List UInt8),_⟩,_,⟨(qn:List UInt8),(qt:Int),(qc:Int),_⟩,_⟩:=y''
 exact(fn88a l z qn qt qc).trans hq''
def t66a (l:List RRt) (z qn:List UInt8) (qt qc:Int):Tr Res:=.br (ixF l z qn (↑l.length:Int) 0) (.br (decide (idxL (fun r ↦ inV z r&&alsP qn r) l 0 < 0)) (.ret ([.agg [.str [],.int .u16 0,.int .u16 0,.int .u32 0,.str []],.bool false],[.boxT none [.str qn,.int .u16 qt,.int .u16 qc]])) (.br (decide (idxL (fun r ↦ inV z r&&alsP qn r) l 0 < 0)) (.ret ([.agg [.str [],.int .u16 0,.int .u16 0,.int .u32 0,.str []],.bool false],[.boxT none [.str qn,.int .u16 qt,.int .u16 qc]])) (.br (decide (0≤idxL (fun r ↦ inV z r&&alsP qn r) l 0)) (.br (decide (idxL (fun r ↦ inV z r&&alsP qn r) l 0 < (↑l.length:Int))) (.ret ([.agg [.str (l.getD (Int.toNat (idxL (fun r ↦ inV z r&&alsP qn r) l 0)) (Ty.dflt RR)).1,.int .u16 (l.getD (Int.toNat (idxL (fun r ↦ inV z r&&alsP qn r) l 0)) (Ty.dflt RR)).2.1,.int .u16 (l.getD (Int.toNat (idxL (fun r ↦ inV z r&&alsP qn r) l 0)) (Ty.dflt RR)).2.2.1,.int .u32 (l.getD (Int.toNat (idxL (fun r ↦ inV z r&&alsP qn r) l 0)) (Ty.dflt RR)).2.2.2.1,.str (l.getD (Int.toNat (idxL (fun r ↦ inV z r&&alsP qn r) l 0)) (Ty.dflt RR)).2.2.2.2],.bool true],[.boxT none [.str qn,.int .u16 qt,.int .u16 qc]])) .no) .no))) .no
def V3j:OSpec:={ f:=66,sh:=[.d (.list RR) false,.d .str false,.fnp 91 [(0,0)]],so:=[.box [.d .str false,.d (.int .u16) false,.d (.int .u16) false]],F:=fun(l,z,_) ((qn,qt,qc,_),_)=>t66a l z qn qt qc }
theorem fn66a (l:List RRt) (z qn:List UInt8) (qt qc:Int):evC T0 (orcB [] [V3g]) (lpOf h66 1 (lsOf [])) c66 1000000 (U1 [.list RR l,.str z,.fn 91 [.ptr 0 0]] [.box [.str qn,.int .u16 qt,.int .u16 qc]] Try.f66.ntmps) (Q0 T0 false 1 Try.f66)=(t66a l z qn qt qc).get:=by kernel_rfl
theorem ok66a:V3j.Ok Try.prog:=by
 refine Q4 Q2 tab0 (U0 Z0 (all_cons ok88a Z0)) h66 (d:=0) (n0:=1) (S:=lsOf []) Try.func66 (by kernel_rfl) (c:=c66) (by kernel_rfl) rfl (U3 (by kernel_rfl)) (by omega) (by kernel_rfl) ?_
 intro x'' y'' q'' hq''
 obtain⟨(l:List RRt),(z:List UInt8),_⟩:=x''
 obtain⟨⟨(qn:List UInt8),(qt:Int),(qc:Int),_⟩,_⟩:=y''
 exact(fn66a l z qn qt qc).trans hq''
def Q2z:OSpec:=V3j.like fun(l,z,_) ((qn,qt,qc,_),_)=>.on (okF l z qn) ([AV.ofTy RR (fstV (fun r=>inV z r&&alsP qn r) l).1 true,.bool (fstV (fun r=>inV z r&&alsP qn r) l).2],[.box [.str qn,.int .u16 qt,.int .u16 qc]])
theorem U3p:Q2z.Ok Try.prog:=by
 refine Xh ok66a _ ?_
 rintro⟨(l:List RRt),(z:List UInt8),_⟩ ⟨⟨(qn:List UInt8),(qt:Int),(qc:Int),_⟩,_⟩ r' h
 obtain⟨hb,rfl⟩:=Tr.get_on h
 have hb:okF l z qn=true:=hb
 refine Tr.get_of_all ?_
 show (t66a l z qn qt qc).all _
 unfold t66a fstV
 have hx:ixF l z qn (l.length:Int) 0=true:=by unfold ixF;rw[hb];simp
 rcases Jz (fun r=>inV z r&&alsP qn r) (Ty.dflt RR) l 0 with ⟨h1,h2⟩ | ⟨j,h1,h2,h3⟩
 ·rw[h1,h2]
  exact Tr.all_t hx (Tr.all_t rfl (Tr.all_ret rfl))
 ·rw[h1,h3]
  rw[show ((0+j:Nat):Int)=(j:Int) by omega]
  refine Tr.all_t hx (Tr.all_f (V0 (by omega)) (Tr.all_f (V0 (by omega)) (Tr.all_t (J0 (by omega)) (Tr.all_t (J0 (by omega)) (Tr.all_ret ?_)))))
  rw[Int.toNat_natCast]
  rfl
def refP (qn y:List UInt8) (r:RRt):Bool:=r.2.1==2&&(!(r.1==y)&&undV qn r.1)
def t92 (r:RRt) (y qn:List UInt8) (qt qc:Int):Tr Res:=.br (r.2.1==2) (.br (!r.1==y) (.br (smN qn&&smN r.1) (.ret ([.bool (undV qn r.1)],[.boxT none [.str y],.boxT none [.str qn,.int .u16 qt,.int .u16 qc]])) .no) (.ret ([.bool false],[.boxT none [.str y],.boxT none [.str qn,.int .u16 qt,.int .u16 qc]]))) (.ret ([.bool false],[.boxT none [.str y],.boxT none [.str qn,.int .u16 qt,.int .u16 qc]]))
def os92:OSpec:={ f:=92,sh:=[.d RR true,.ptr 0 0,.ptr 1 0],so:=[.box [.d .str false],.box [.d .str false,.d (.int .u16) false,.d (.int .u16) false]],F:=fun(r,_) ((y,_),(qn,qt,qc,_),_)=>t92 r y qn qt qc }
theorem fn92 (r:RRt) (y qn:List UInt8) (qt qc:Int):evC T0 (orcB [X0b] []) (lpOf h92 2 (lsOf [])) c92 1000000 (U1 [AV.ofTy RR r true,.ptr 0 0,.ptr 1 0] [.box [.str y],.box [.str qn,.int .u16 qt,.int .u16 qc]] Try.f92.ntmps) (Q0 T0 false 2 Try.f92)=(t92 r y qn qt qc).get:=by kernel_rfl
theorem ok92:os92.Ok Try.prog:=by
 refine Q4 Q2 tab0 (U0 (all_cons J1m Z0) Z0) h92 (d:=0) (n0:=2) (S:=lsOf []) Try.func92 (by kernel_rfl) (c:=c92) (by kernel_rfl) rfl (U3 (by kernel_rfl)) (by omega) (by kernel_rfl) ?_
 intro x'' y'' q'' hq''
 obtain⟨(r:RRt),_⟩:=x''
 obtain⟨⟨(y:List UInt8),_⟩,⟨(qn:List UInt8),(qt:Int),(qc:Int),_⟩,_⟩:=y''
 exact(fn92 r y qn qt qc).trans hq''
def Z3j:OSpec:=os92.like fun(r,_) ((y,_),(qn,qt,qc,_),_)=>.on (okR r&&smN qn) ([.bool (refP qn y r)],[.box [.str y],.box [.str qn,.int .u16 qt,.int .u16 qc]])
theorem ok92w:Z3j.Ok Try.prog:=by
 refine Xh ok92 _ ?_
 rintro⟨(r:RRt),_⟩ ⟨⟨(y:List UInt8),_⟩,⟨(qn:List UInt8),(qt:Int),(qc:Int),_⟩,_⟩ r' h
 obtain⟨hb,rfl⟩:=Tr.get_on h
 obtain⟨h1,h2⟩:=Bool.and_eq_true_iff.1 (show (okR r&&smN qn)=true from hb)
 refine Tr.get_of_all ?_
 show (t92 r y qn qt qc).all _
 unfold t92 refP
 have hs:(smN qn&&smN r.1)=true:=by rw[Z2r h1,h2];rfl
 refine Tr.all_br (fun c=>Tr.all_br (fun c2=>Tr.all_t hs (Tr.all_ret (by rw[c,c2];rfl))) fun c2=>Tr.all_ret (by rw[c,c2];rfl)) fun c=>Tr.all_ret (by rw[c];rfl)
def t89r (r:RRt) (z y qn:List UInt8) (qt qc:Int):Tr Res:=.br (okR r&&smN z) (.br (inV z r) (.br (okR r&&smN qn) (.ret ([.bool (refP qn y r)],[.boxT none [.str z],.boxT none [AV.fn 92 [.ptr 2 0,.ptr 3 0]],.boxT none [.str y],.boxT none [.str qn,.int .u16 qt,.int .u16 qc]])) .no) (.ret ([.bool false],[.boxT none [.str z],.boxT none [AV.fn 92 [.ptr 2 0,.ptr 3 0]],.boxT none [.str y],.boxT none [.str qn,.int .u16 qt,.int .u16 qc]]))) .no
def X3i:OSpec:={ f:=89,sh:=[.d RR true,.ptr 0 0,.ptr 1 0],so:=[.box [.d .str false],.box [.fnp 92 [(2,0),(3,0)]],.box [.d .str false],.box [.d .str false,.d (.int .u16) false,.d (.int .u16) false]],F:=fun(r,_) ((z,_),_,(y,_),(qn,qt,qc,_),_)=>t89r r z y qn qt qc }
theorem fn89r (r:RRt) (z y qn:List UInt8) (qt qc:Int):evC T0 (orcB [Zh] [Z3j]) (lpOf h89 4 (lsOf [])) c89 1000000 (U1 [AV.ofTy RR r true,.ptr 0 0,.ptr 1 0] [.box [.str z],.box [.fn 92 [.ptr 2 0,.ptr 3 0]],.box [.str y],.box [.str qn,.int .u16 qt,.int .u16 qc]] Try.f89.ntmps) (Q0 T0 false 4 Try.f89)=(t89r r z y qn qt qc).get:=by kernel_rfl
theorem ok89r:X3i.Ok Try.prog:=by
 refine Q4 Q2 tab0 (U0 (all_cons Z1m Z0) (all_cons ok92w Z0)) h89 (d:=0) (n0:=4) (S:=lsOf []) Try.func89 (by kernel_rfl) (c:=c89) (by kernel_rfl) rfl (U3 (by kernel_rfl)) (by omega) (by kernel_rfl) ?_
 intro x'' y'' q'' hq''
 obtain⟨(r:RRt),_⟩:=x''
 obtain⟨⟨(z:List UInt8),_⟩,_,⟨(y:List UInt8),_⟩,⟨(qn:List UInt8),(qt:Int),(qc:Int),_⟩,_⟩:=y''
 exact(fn89r r z y qn qt qc).trans hq''
def V0c:OSpec:=X3i.like fun(r,_) ((z,_),_,(y,_),(qn,qt,qc,_),_)=>.on (okR r&&(smN z&&smN qn)) ([.bool (inV z r&&refP qn y r)],[.box [.str z],.box [.fn 92 [.ptr 2 0,.ptr 3 0]],.box [.str y],.box [.str qn,.int .u16 qt,.int .u16 qc]])
theorem V3r:V0c.Ok Try.prog:=by
 refine Xh ok89r _ ?_
 rintro⟨(r:RRt),_⟩ ⟨⟨(z:List UInt8),_⟩,_,⟨(y:List UInt8),_⟩,⟨(qn:List UInt8),(qt:Int),(qc:Int),_⟩,_⟩ r' h
 obtain⟨hb,rfl⟩:=Tr.get_on h
 obtain⟨h1,h2⟩:=Bool.and_eq_true_iff.1 (show (okR r&&(smN z&&smN qn))=true from hb)
 obtain⟨h2,h3⟩:=Bool.and_eq_true_iff.1 h2
 refine Tr.get_of_all ?_
 show (t89r r z y qn qt qc).all _
 unfold t89r
 refine Tr.all_t (by rw[h1,h2];rfl) (Tr.all_br (fun c=>Tr.all_t (by rw[h1,h3];rfl) (Tr.all_ret (by rw[c];rfl))) fun c=>Tr.all_ret (by rw[c];rfl))
noncomputable def b88r:Code:=Z7 c88 0
def U2v:LoopSpec:={ bid:=0,sh:=[.d (.list RR) false,.fnp 89 [(0,0),(1,0)],.d (.int .i64) false,.d (.int .i64) false],so:=[.box [.d .str false],.box [.fnp 92 [(2,0),(3,0)]],.box [.d .str false],.box [.d .str false,.d (.int .u16) false,.d (.int .u16) false]],F:=fun(l,m,i,_) ((z,_),_,(y,_),(qn,qt,qc,_),_)=>.on2 (ixF l z qn m i) (decide (idxL (fun r=>inV z r&&refP qn y r) l 0 < 0)) (.exit 0,[.dead],[.box [.str z],.box [.fn 92 [.ptr 2 0,.ptr 3 0]],.box [.str y],.box [.str qn,.int .u16 qt,.int .u16 qc]]) (.ret,[.int .i64 (idxL (fun r=>inV z r&&refP qn y r) l 0)],[.box [.str z],.box [.fn 92 [.ptr 2 0,.ptr 3 0]],.box [.str y],.box [.str qn,.int .u16 qt,.int .u16 qc]]) }
def r88r (l:List RRt) (m i:Int) (z y qn:List UInt8) (qt qc:Int):Tr (St⊕(Ex×St)):=.br (decide (i < m)) (.br (decide (0≤i)) (.br (decide (i < (↑l.length:Int))) (.br (okR (l.getD i.toNat (Ty.dflt RR))&&(smN z&&smN qn)) (.br (inV z (l.getD i.toNat (Ty.dflt RR))&&refP qn y (l.getD i.toNat (Ty.dflt RR))) (.ret (.inr (.ret,stOf [4] [.int .i64 i] [.boxT none [.str z],.boxT none [AV.fn 92 [.ptr 2 0,.ptr 3 0]],.boxT none [.str y],.boxT none [.str qn,.int .u16 qt,.int .u16 qc]]))) (.ret (.inl (stOf [0,1,7,8] [.list RR l,AV.fn 89 [.ptr 0 0,.ptr 1 0],.int .i64 m,.int .i64 (IntKind.wrap .i64 (i+1))] [.boxT none [.str z],.boxT none [AV.fn 92 [.ptr 2 0,.ptr 3 0]],.boxT none [.str y],.boxT none [.str qn,.int .u16 qt,.int .u16 qc]])))) .no) .no) .no) (.ret (.inr (.exit 0,stOf [4] [.dead] [.boxT none [.str z],.boxT none [AV.fn 92 [.ptr 2 0,.ptr 3 0]],.boxT none [.str y],.boxT none [.str qn,.int .u16 qt,.int .u16 qc]])))
theorem Z2u (lp:Lp) (l:List RRt) (m i:Int) (z y qn:List UInt8) (qt qc:Int):evC T0 (orcB [] [V0c]) lp b88r 0 (stOf [0,1,7,8] [.list RR l,.fn 89 [.ptr 0 0,.ptr 1 0],.int .i64 m,.int .i64 i] [.box [.str z],.box [.fn 92 [.ptr 2 0,.ptr 3 0]],.box [.str y],.box [.str qn,.int .u16 qt,.int .u16 qc]]) (X1 [0,1,7,8] [4] 4)=(r88r l m i z y qn qt qc).get:=by kernel_rfl
theorem wf88r (l:List RRt) (m:Int) (z y qn:List UInt8) (qt qc:Int) (I'':Int→Prop) (m'':Int→Nat) (r'':Ex×St) (h:∀ (i:Int),I'' i→(r88r l m i z y qn qt qc).all fun x''=>x''=.inr r''∨∃ (i':Int),x''=.inl (stOf [0,1,7,8] [.list RR l,.fn 89 [.ptr 0 0,.ptr 1 0],.int .i64 m,.int .i64 i'] [.box [.str z],.box [.fn 92 [.ptr 2 0,.ptr 3 0]],.box [.str y],.box [.str qn,.int .u16 qt,.int .u16 qc]])∧I'' i'∧m'' i' < m'' i) (lp:Lp) (i:Int):I'' i→
    Q3 (fun st=>evC T0 (orcB [] [V0c]) lp b88r 0 st (X1 [0,1,7,8] [4] 4)) (stOf [0,1,7,8] [.list RR l,.fn 89 [.ptr 0 0,.ptr 1 0],.int .i64 m,.int .i64 i] [.box [.str z],.box [.fn 92 [.ptr 2 0,.ptr 3 0]],.box [.str y],.box [.str qn,.int .u16 qt,.int .u16 qc]])=some r'':=
 V8 (fun a'':Int=>stOf [0,1,7,8] [.list RR l,.fn 89 [.ptr 0 0,.ptr 1 0],.int .i64 m,.int .i64 a''] [.box [.str z],.box [.fn 92 [.ptr 2 0,.ptr 3 0]],.box [.str y],.box [.str qn,.int .u16 qt,.int .u16 qc]]) (fun a''=>I'' a'') (fun a''=>m'' a'') r'' (fun a''=>r88r l m a'' z y qn qt qc)
  (fun a'' x hx=>(Z2u lp l m a'' z y qn qt qc).trans hx) (fun a'' ha=>Tr.all_mono (fun x'' hx=>hx.imp id fun⟨i',h1,h2,h3⟩=>⟨(i'),h1,h2,h3⟩) (h (a'') ha)) (i)
theorem Z3c:U2v.Ok T0 (orcB [] [V0c]) h88 4 0 b88r:=by
 intro q'' hq'' x'' y'' r'' h
 obtain⟨(l:List RRt),(m:Int),(i:Int),_⟩:=x''
 obtain⟨⟨(z:List UInt8),_⟩,_,⟨(y:List UInt8),_⟩,⟨(qn:List UInt8),(qt:Int),(qc:Int),_⟩,_⟩:=y''
 obtain⟨hc,rfl⟩:=Tr.get_on2 h
 show Q3 (fun st=>evC T0 (orcB [] [V0c]) (lpN T0 (orcB [] [V0c]) h88 4 q'') b88r 0 st (X1 [0,1,7,8] [4] 4)) (stOf [0,1,7,8] [.list RR l,.fn 89 [.ptr 0 0,.ptr 1 0],.int .i64 m,.int .i64 i] [.box [.str z],.box [.fn 92 [.ptr 2 0,.ptr 3 0]],.box [.str y],.box [.str qn,.int .u16 qt,.int .u16 qc]])=some ((bif decide (idxL (fun r=>inV z r&&refP qn y r) l 0 < 0) then (.exit 0,[.dead],[.box [.str z],.box [.fn 92 [.ptr 2 0,.ptr 3 0]],.box [.str y],.box [.str qn,.int .u16 qt,.int .u16 qc]]) else (.ret,[.int .i64 (idxL (fun r=>inV z r&&refP qn y r) l 0)],[.box [.str z],.box [.fn 92 [.ptr 2 0,.ptr 3 0]],.box [.str y],.box [.str qn,.int .u16 qt,.int .u16 qc]]):Ex×List AV×List LObj).1,stOf [4] (bif decide (idxL (fun r=>inV z r&&refP qn y r) l 0 < 0) then (.exit 0,[.dead],[.box [.str z],.box [.fn 92 [.ptr 2 0,.ptr 3 0]],.box [.str y],.box [.str qn,.int .u16 qt,.int .u16 qc]]) else (.ret,[.int .i64 (idxL (fun r=>inV z r&&refP qn y r) l 0)],[.box [.str z],.box [.fn 92 [.ptr 2 0,.ptr 3 0]],.box [.str y],.box [.str qn,.int .u16 qt,.int .u16 qc]]):Ex×List AV×List LObj).2.1 (bif decide (idxL (fun r=>inV z r&&refP qn y r) l 0 < 0) then (.exit 0,[.dead],[.box [.str z],.box [.fn 92 [.ptr 2 0,.ptr 3 0]],.box [.str y],.box [.str qn,.int .u16 qt,.int .u16 qc]]) else (.ret,[.int .i64 (idxL (fun r=>inV z r&&refP qn y r) l 0)],[.box [.str z],.box [.fn 92 [.ptr 2 0,.ptr 3 0]],.box [.str y],.box [.str qn,.int .u16 qt,.int .u16 qc]]):Ex×List AV×List LObj).2.2)
 simp only[ixF,okF,okL,Bool.and_eq_true,decide_eq_true_eq] at hc
 obtain⟨⟨⟨hl,hall⟩,hz,hq⟩,rfl,rfl⟩:=hc
 have hl:=Nat.le_of_ble_eq_true hl
 refine wf88r l l.length z y qn qt qc (fun i=>0≤i∧i≤l.length∧idxL (fun r=>inV z r&&refP qn y r) (l.drop i.toNat) i.toNat=idxL (fun r=>inV z r&&refP qn y r) l 0) (fun i=>(l.length - i).toNat) _ ?_ _ 0 ⟨by omega,by omega,rfl⟩
 rintro i ⟨h0,h1,he⟩
 unfold r88r
 rw[Q8 h0 h1 (by omega)]
 by_cases hi:i < l.length
 ·have hok:=Z0i hall h0 hi
  rw[Jb (l:=l) (k:=i.toNat) (by omega) (Ty.dflt RR),idxL] at he
  generalize l.getD i.toNat (Ty.dflt RR)=x at *
  refine Tr.all_t (J0 hi) (Tr.all_t (J0 h0) (Tr.all_t (J0 hi) (Tr.all_t (by rw[hok,hz,hq];rfl) (Tr.all_br (fun h=>?_) fun h=>?_))))
  ·rw[if_pos h] at he
   rw[←he,show ((i.toNat:Nat):Int)=i by omega,V0 (show ¬ i < 0 by omega)]
   exact Tr.all_ret (.inl rfl)
  ·rw[if_neg (by rw[h];simp)] at he
   exact Tr.all_ret (.inr ⟨_,rfl,⟨by omega,by omega,by rw[show (i+1).toNat=i.toNat+1 by omega];exact he⟩,by omega⟩)
 ·refine Tr.all_f (V0 hi) (Tr.all_ret (.inl ?_))
  rw[List.drop_eq_nil_of_le (by omega)] at he
  rw[←he]
  rfl
def t88r (l:List RRt) (z y qn:List UInt8) (qt qc:Int):Tr Res:=.br (ixF l z qn (↑l.length:Int) 0) (.br (decide (idxL (fun r ↦ inV z r&&refP qn y r) l 0 < 0)) (.ret ([.int .i64 (-1)],[.boxT none [.str z],.boxT none [AV.fn 92 [.ptr 2 0,.ptr 3 0]],.boxT none [.str y],.boxT none [.str qn,.int .u16 qt,.int .u16 qc]])) (.ret ([.int .i64 (idxL (fun r ↦ inV z r&&refP qn y r) l 0)],[.boxT none [.str z],.boxT none [AV.fn 92 [.ptr 2 0,.ptr 3 0]],.boxT none [.str y],.boxT none [.str qn,.int .u16 qt,.int .u16 qc]]))) .no
def Q3f:OSpec:={ f:=88,sh:=[.d (.list RR) false,.fnp 89 [(0,0),(1,0)]],so:=[.box [.d .str false],.box [.fnp 92 [(2,0),(3,0)]],.box [.d .str false],.box [.d .str false,.d (.int .u16) false,.d (.int .u16) false]],F:=fun(l,_) ((z,_),_,(y,_),(qn,qt,qc,_),_)=>t88r l z y qn qt qc }
theorem fn88r (l:List RRt) (z y qn:List UInt8) (qt qc:Int):evC T0 (orcB [] [V0c]) (lpOf h88 4 (lsOf [U2v])) c88 1000000 (U1 [.list RR l,.fn 89 [.ptr 0 0,.ptr 1 0]] [.box [.str z],.box [.fn 92 [.ptr 2 0,.ptr 3 0]],.box [.str y],.box [.str qn,.int .u16 qt,.int .u16 qc]] Try.f88.ntmps) (Q0 T0 false 4 Try.f88)=(t88r l z y qn qt qc).get:=by kernel_rfl
theorem ok88r:Q3f.Ok Try.prog:=by
 refine Q4 Q2 tab0 (U0 Z0 (all_cons V3r Z0)) h88 (d:=0) (n0:=4) (S:=lsOf [U2v]) Try.func88 (by kernel_rfl) (c:=c88) (by kernel_rfl) rfl (Z8 (xs:=[(0,b88r)]) (by kernel_rfl) (all_cons (J9 Z3c) Z0)) (by omega) (by kernel_rfl) ?_
 intro x'' y'' q'' hq''
 obtain⟨(l:List RRt),_⟩:=x''
 obtain⟨⟨(z:List UInt8),_⟩,_,⟨(y:List UInt8),_⟩,⟨(qn:List UInt8),(qt:Int),(qc:Int),_⟩,_⟩:=y''
 exact(fn88r l z y qn qt qc).trans hq''
def t66r (l:List RRt) (z y qn:List UInt8) (qt qc:Int):Tr Res:=.br (ixF l z qn (↑l.length:Int) 0) (.br (decide (idxL (fun r ↦ inV z r&&refP qn y r) l 0 < 0)) (.ret ([.agg [.str [],.int .u16 0,.int .u16 0,.int .u32 0,.str []],.bool false],[.boxT none [.str y],.boxT none [.str qn,.int .u16 qt,.int .u16 qc]])) (.br (decide (idxL (fun r ↦ inV z r&&refP qn y r) l 0 < 0)) (.ret ([.agg [.str [],.int .u16 0,.int .u16 0,.int .u32 0,.str []],.bool false],[.boxT none [.str y],.boxT none [.str qn,.int .u16 qt,.int .u16 qc]])) (.br (decide (0≤idxL (fun r ↦ inV z r&&refP qn y r) l 0)) (.br (decide (idxL (fun r ↦ inV z r&&refP qn y r) l 0 < (↑l.length:Int))) (.ret ([.agg [.str (l.getD (Int.toNat (idxL (fun r ↦ inV z r&&refP qn y r) l 0)) (Ty.dflt RR)).1,.int .u16 (l.getD (Int.toNat (idxL (fun r ↦ inV z r&&refP qn y r) l 0)) (Ty.dflt RR)).2.1,.int .u16 (l.getD (Int.toNat (idxL (fun r ↦ inV z r&&refP qn y r) l 0)) (Ty.dflt RR)).2.2.1,.int .u32 (l.getD (Int.toNat (idxL (fun r ↦ inV z r&&refP qn y r) l 0)) (Ty.dflt RR)).2.2.2.1,.str (l.getD (Int.toNat (idxL (fun r ↦ inV z r&&refP qn y r) l 0)) (Ty.dflt RR)).2.2.2.2],.bool true],[.boxT none [.str y],.boxT none [.str qn,.int .u16 qt,.int .u16 qc]])) .no) .no))) .no
def Z3h:OSpec:={ f:=66,sh:=[.d (.list RR) false,.d .str false,.fnp 92 [(0,0),(1,0)]],so:=[.box [.d .str false],.box [.d .str false,.d (.int .u16) false,.d (.int .u16) false]],F:=fun(l,z,_) ((y,_),(qn,qt,qc,_),_)=>t66r l z y qn qt qc }
theorem fn66r (l:List RRt) (z y qn:List UInt8) (qt qc:Int):evC T0 (orcB [] [Q3f]) (lpOf h66 2 (lsOf [])) c66 1000000 (U1 [.list RR l,.str z,.fn 92 [.ptr 0 0,.ptr 1 0]] [.box [.str y],.box [.str qn,.int .u16 qt,.int .u16 qc]] Try.f66.ntmps) (Q0 T0 false 2 Try.f66)=(t66r l z y qn qt qc).get:=by kernel_rfl
theorem ok66r:Z3h.Ok Try.prog:=by
 refine Q4 Q2 tab0 (U0 Z0 (all_cons ok88r Z0)) h66 (d:=0) (n0:=2) (S:=lsOf []) Try.func66 (by kernel_rfl) (c:=c66) (by kernel_rfl) rfl (U3 (by kernel_rfl)) (by omega) (by kernel_rfl) ?_
 intro x'' y'' q'' hq''
 obtain⟨(l:List RRt),(z:List UInt8),_⟩:=x''
 obtain⟨⟨(y:List UInt8),_⟩,⟨(qn:List UInt8),(qt:Int),(qc:Int),_⟩,_⟩:=y''
 exact(fn66r l z y qn qt qc).trans hq''
def Q2x:OSpec:=Z3h.like fun(l,z,_) ((y,_),(qn,qt,qc,_),_)=>.on (okF l z qn) ([AV.ofTy RR (fstV (fun r=>inV z r&&refP qn y r) l).1 true,.bool (fstV (fun r=>inV z r&&refP qn y r) l).2],[.box [.str y],.box [.str qn,.int .u16 qt,.int .u16 qc]])
theorem X3p:Q2x.Ok Try.prog:=by
 refine Xh ok66r _ ?_
 rintro⟨(l:List RRt),(z:List UInt8),_⟩ ⟨⟨(y:List UInt8),_⟩,⟨(qn:List UInt8),(qt:Int),(qc:Int),_⟩,_⟩ r' h
 obtain⟨hb,rfl⟩:=Tr.get_on h
 have hb:okF l z qn=true:=hb
 refine Tr.get_of_all ?_
 show (t66r l z y qn qt qc).all _
 unfold t66r fstV
 have hx:ixF l z qn (l.length:Int) 0=true:=by unfold ixF;rw[hb];simp
 rcases Jz (fun r=>inV z r&&refP qn y r) (Ty.dflt RR) l 0 with ⟨h1,h2⟩ | ⟨j,h1,h2,h3⟩
 ·rw[h1,h2]
  exact Tr.all_t hx (Tr.all_t rfl (Tr.all_ret rfl))
 ·rw[h1,h3]
  rw[show ((0+j:Nat):Int)=(j:Int) by omega]
  refine Tr.all_t hx (Tr.all_f (V0 (by omega)) (Tr.all_f (V0 (by omega)) (Tr.all_t (J0 (by omega)) (Tr.all_t (J0 (by omega)) (Tr.all_ret ?_)))))
  rw[Int.toNat_natCast]
  rfl
def cAls (m:MGt) (q:QQt) (z:List UInt8):RRt×Bool:=fstV (fun r=>inV z r&&alsP q.1 r) (mAn m)
def cRef (m:MGt) (q:QQt) (z:List UInt8):RRt×Bool:=fstV (fun r=>inV z r&&refP q.1 z r) (mNs m)
def cAns (m:MGt) (q:QQt) (z:List UInt8):RRt×Bool:=fstV (fun r=>inV z r&&Q7 q.1 q.2.1 q.2.2 r) (mAn m)
def t71 (m:MGt) (q:QQt) (z:List UInt8):Tr Res:=.br (okF m.2.2.2.2.2.2.2.2.2.1 z q.1) (.ret ([.agg [.str (fstV (fun r ↦ inV z r&&alsP q.1 r) m.2.2.2.2.2.2.2.2.2.1).1.1,.int .u16 (fstV (fun r ↦ inV z r&&alsP q.1 r) m.2.2.2.2.2.2.2.2.2.1).1.2.1,.int .u16 (fstV (fun r ↦ inV z r&&alsP q.1 r) m.2.2.2.2.2.2.2.2.2.1).1.2.2.1,.int .u32 (fstV (fun r ↦ inV z r&&alsP q.1 r) m.2.2.2.2.2.2.2.2.2.1).1.2.2.2.1,.str (fstV (fun r ↦ inV z r&&alsP q.1 r) m.2.2.2.2.2.2.2.2.2.1).1.2.2.2.2],.bool (fstV (fun r ↦ inV z r&&alsP q.1 r) m.2.2.2.2.2.2.2.2.2.1).2],[])) .no
def os71:OSpec:={ f:=71,sh:=[.d MG true,.d QQ true,.d .str false],so:=[],F:=fun(m,q,z,_) _=>t71 m q z }
theorem fn71 (m:MGt) (q:QQt) (z:List UInt8):evC T0 (orcB [] [Q2z]) (lpOf h71 0 (lsOf [])) c71 1000000 (U1 [AV.ofTy MG m true,AV.ofTy QQ q true,.str z] [] Try.f71.ntmps) (Q0 T0 false 0 Try.f71)=(t71 m q z).get:=by kernel_rfl
theorem ok71:os71.Ok Try.prog:=by
 refine Q4 Q2 tab0 (U0 Z0 (all_cons U3p Z0)) h71 (d:=0) (n0:=0) (S:=lsOf []) Try.func71 (by kernel_rfl) (c:=c71) (by kernel_rfl) rfl (U3 (by kernel_rfl)) (by omega) (by kernel_rfl) ?_
 intro x'' y'' q'' hq''
 obtain⟨(m:MGt),(q:QQt),(z:List UInt8),_⟩:=x''
 exact(fn71 m q z).trans hq''
def fs71:FSpec:=fsT 71 [(MG,true),(QQ,true),(.str,false)] [(RR,true),(.bool,false)] fun(m,q,z,_)=>t71 m q z
theorem okf71:fs71.Ok Try.prog:=V6 fun x'' r'' hr''=>ok71 x'' () r'' hr''
def t72 (m:MGt) (q:QQt) (z:List UInt8):Tr Res:=.br (okF m.2.2.2.2.2.2.2.2.2.2.1 z q.1) (.ret ([.agg [.str (fstV (fun r ↦ inV z r&&refP q.1 z r) m.2.2.2.2.2.2.2.2.2.2.1).1.1,.int .u16 (fstV (fun r ↦ inV z r&&refP q.1 z r) m.2.2.2.2.2.2.2.2.2.2.1).1.2.1,.int .u16 (fstV (fun r ↦ inV z r&&refP q.1 z r) m.2.2.2.2.2.2.2.2.2.2.1).1.2.2.1,.int .u32 (fstV (fun r ↦ inV z r&&refP q.1 z r) m.2.2.2.2.2.2.2.2.2.2.1).1.2.2.2.1,.str (fstV (fun r ↦ inV z r&&refP q.1 z r) m.2.2.2.2.2.2.2.2.2.2.1).1.2.2.2.2],.bool (fstV (fun r ↦ inV z r&&refP q.1 z r) m.2.2.2.2.2.2.2.2.2.2.1).2],[])) .no
def os72:OSpec:={ f:=72,sh:=[.d MG true,.d QQ true,.d .str false],so:=[],F:=fun(m,q,z,_) _=>t72 m q z }
theorem fn72 (m:MGt) (q:QQt) (z:List UInt8):evC T0 (orcB [] [Q2x]) (lpOf h72 0 (lsOf [])) c72 1000000 (U1 [AV.ofTy MG m true,AV.ofTy QQ q true,.str z] [] Try.f72.ntmps) (Q0 T0 false 0 Try.f72)=(t72 m q z).get:=by kernel_rfl
theorem ok72:os72.Ok Try.prog:=by
 refine Q4 Q2 tab0 (U0 Z0 (all_cons X3p Z0)) h72 (d:=0) (n0:=0) (S:=lsOf []) Try.func72 (by kernel_rfl) (c:=c72) (by kernel_rfl) rfl (U3 (by kernel_rfl)) (by omega) (by kernel_rfl) ?_
 intro x'' y'' q'' hq''
 obtain⟨(m:MGt),(q:QQt),(z:List UInt8),_⟩:=x''
 exact(fn72 m q z).trans hq''
def fs72:FSpec:=fsT 72 [(MG,true),(QQ,true),(.str,false)] [(RR,true),(.bool,false)] fun(m,q,z,_)=>t72 m q z
theorem okf72:fs72.Ok Try.prog:=V6 fun x'' r'' hr''=>ok72 x'' () r'' hr''
def X3h:FSpec:=fs71.like fun(m,q,z,_)=>.on (okF (mAn m) z q.1) ((cAls m q z).1,(cAls m q z).2,())
theorem X3o:X3h.Ok Try.prog:=by
 refine J4 okf71 _ ?_
 rintro⟨(m:MGt),(q:QQt),(z:List UInt8),_⟩ y h
 obtain⟨hb,rfl⟩:=Tr.get_on h
 have hb:okF (mAn m) z q.1=true:=hb
 refine X3 (vs:=[AV.ofTy RR (cAls m q z).1 true,.bool (cAls m q z).2]) rfl rfl (Tr.get_of_all ?_)
 exact Tr.all_t hb (Tr.all_ret rfl)
def Q3e:FSpec:=fs72.like fun(m,q,z,_)=>.on (okF (mNs m) z q.1) ((cRef m q z).1,(cRef m q z).2,())
theorem V3p:Q3e.Ok Try.prog:=by
 refine J4 okf72 _ ?_
 rintro⟨(m:MGt),(q:QQt),(z:List UInt8),_⟩ y h
 obtain⟨hb,rfl⟩:=Tr.get_on h
 have hb:okF (mNs m) z q.1=true:=hb
 refine X3 (vs:=[AV.ofTy RR (cRef m q z).1 true,.bool (cRef m q z).2]) rfl rfl (Tr.get_of_all ?_)
 exact Tr.all_t hb (Tr.all_ret rfl)
def t39 (m:MGt) (q:QQt) (z:List UInt8):Tr Res:=.br (okF m.2.2.2.2.2.2.2.2.2.1 z q.1) (.br (okF (mAn m) z q.1) (.br (okF (mNs m) z q.1) (.br (smN q.1&&smN z) (.br (!undV q.1 z) (.ret ([.int .i64 0],[])) (.br m.2.2.2.1 (.ret ([.int .i64 0],[])) (.br (m.2.2.2.2.2.2.2.1 != 0) (.br (m.2.2.2.2.2.2.2.1 != 3) (.ret ([.int .i64 0],[])) (.br (m.2.2.2.2.2.2.2.1==3) (.br m.2.2.1 (.ret ([.int .i64 4],[])) (.br (m.2.2.2.2.2.2.2.1==3) (.ret ([.int .i64 0],[])) (.br (fstV (fun r ↦ inV z r&&Q7 q.1 q.2.1 q.2.2 r) m.2.2.2.2.2.2.2.2.2.1).2 (.ret ([.int .i64 1],[])) (.br (cAls m q z).2 (.ret ([.int .i64 2],[])) (.br (cRef m q z).2 (.ret ([.int .i64 3],[])) (.br m.2.2.1 (.ret ([.int .i64 5],[])) (.ret ([.int .i64 0],[])))))))) (.br (m.2.2.2.2.2.2.2.1==3) (.ret ([.int .i64 0],[])) (.br (fstV (fun r ↦ inV z r&&Q7 q.1 q.2.1 q.2.2 r) m.2.2.2.2.2.2.2.2.2.1).2 (.ret ([.int .i64 1],[])) (.br (cAls m q z).2 (.ret ([.int .i64 2],[])) (.br (cRef m q z).2 (.ret ([.int .i64 3],[])) (.br m.2.2.1 (.ret ([.int .i64 5],[])) (.ret ([.int .i64 0],[]))))))))) (.br (m.2.2.2.2.2.2.2.1==3) (.br m.2.2.1 (.ret ([.int .i64 4],[])) (.br (m.2.2.2.2.2.2.2.1==3) (.ret ([.int .i64 0],[])) (.br (fstV (fun r ↦ inV z r&&Q7 q.1 q.2.1 q.2.2 r) m.2.2.2.2.2.2.2.2.2.1).2 (.ret ([.int .i64 1],[])) (.br (cAls m q z).2 (.ret ([.int .i64 2],[])) (.br (cRef m q z).2 (.ret ([.int .i64 3],[])) (.br m.2.2.1 (.ret ([.int .i64 5],[])) (.ret ([.int .i64 0],[])))))))) (.br (m.2.2.2.2.2.2.2.1==3) (.ret ([.int .i64 0],[])) (.br (fstV (fun r ↦ inV z r&&Q7 q.1 q.2.1 q.2.2 r) m.2.2.2.2.2.2.2.2.2.1).2 (.ret ([.int .i64 1],[])) (.br (cAls m q z).2 (.ret ([.int .i64 2],[])) (.br (cRef m q z).2 (.ret ([.int .i64 3],[])) (.br m.2.2.1 (.ret ([.int .i64 5],[])) (.ret ([.int .i64 0],[]))))))))))) .no) .no) .no) .no
def os39:OSpec:={ f:=39,sh:=[.d MG true,.d QQ true,.d .str false],so:=[],F:=fun(m,q,z,_) _=>t39 m q z }
theorem fn39 (m:MGt) (q:QQt) (z:List UInt8):evC T0 (orcB [X3h,Q3e,X0b] [Q2o]) (lpOf h39 0 (lsOf [])) c39 1000000 (U1 [AV.ofTy MG m true,AV.ofTy QQ q true,.str z] [] Try.f39.ntmps) (Q0 T0 false 0 Try.f39)=(t39 m q z).get:=by kernel_rfl
theorem ok39:os39.Ok Try.prog:=by
 refine Q4 Q2 tab0 (U0 (all_cons X3o (all_cons V3p (all_cons J1m Z0))) (all_cons X3q Z0)) h39 (d:=0) (n0:=0) (S:=lsOf []) Try.func39 (by kernel_rfl) (c:=c39) (by kernel_rfl) rfl (U3 (by kernel_rfl)) (by omega) (by kernel_rfl) ?_
 intro x'' y'' q'' hq''
 obtain⟨(m:MGt),(q:QQt),(z:List UInt8),_⟩:=x''
 exact(fn39 m q z).trans hq''
def fs39:FSpec:=fsT 39 [(MG,true),(QQ,true),(.str,false)] [((.int .i64),false)] fun(m,q,z,_)=>t39 m q z
theorem okf39:fs39.Ok Try.prog:=V6 fun x'' r'' hr''=>ok39 x'' () r'' hr''
def mRc (m:MGt):Int:=m.2.2.2.2.2.2.2.1
def U2a (m:MGt) (q:QQt) (z:List UInt8):Int:=
 bif !undV q.1 z then 0 else bif m.2.2.2.1 then 0 else bif mRc m != 0 then (bif mRc m != 3 then 0 else bif m.2.2.1 then 4 else 0) else
 bif (cAns m q z).2 then 1 else bif (cAls m q z).2 then 2 else bif (cRef m q z).2 then 3 else bif m.2.2.1 then 5 else 0
def okK (m:MGt) (q:QQt) (z:List UInt8):Bool:=okF (mAn m) z q.1&&okF (mNs m) z q.1
theorem Q3j {l:List RRt} {z n:List UInt8} (h:okF l z n=true):smN z=true∧smN n=true:=Bool.and_eq_true_iff.1 (Bool.and_eq_true_iff.1 h).2
def U3g:FSpec:=fs39.like fun(m,q,z,_)=>.on (okK m q z) (U2a m q z,())
theorem U3j:U3g.Ok Try.prog:=by
 refine J4 okf39 _ ?_
 rintro⟨(m:MGt),(q:QQt),(z:List UInt8),_⟩ y h
 obtain⟨hb,rfl⟩:=Tr.get_on h
 obtain⟨h1,h2⟩:=Bool.and_eq_true_iff.1 (show (okF (mAn m) z q.1&&okF (mNs m) z q.1)=true from hb)
 obtain⟨hz,hq⟩:=Q3j h1
 refine X3 (vs:=[.int .i64 (U2a m q z)]) rfl rfl (Tr.get_of_all ?_)
 show (t39 m q z).all _
 unfold t39 U2a mRc
 refine Tr.all_t h1 (Tr.all_t h1 (Tr.all_t h2 (Tr.all_t (by rw[hq,hz];rfl) ?_)))
 have ha:(cAns m q z).2=Prod.snd (fstV (fun r=>inV z r&&Q7 q.1 q.2.1 q.2.2 r) m.2.2.2.2.2.2.2.2.2.1):=rfl
 rw[←ha]
 generalize (cAns m q z).2=b1
 generalize (cAls m q z).2=b2
 generalize (cRef m q z).2=b3
 generalize undV q.1 z=b4
 generalize m.2.2.2.1=b5
 generalize m.2.2.1=b6
 by_cases h0:m.2.2.2.2.2.2.2.1=0
 ·rw[h0]
  cases b1<;>cases b2<;>cases b3<;>cases b4<;>cases b5<;>cases b6<;>repeat' (first | exact Tr.all_ret rfl | refine Tr.all_t rfl ?_ | refine Tr.all_f rfl ?_)
 ·have e0:(m.2.2.2.2.2.2.2.1 != 0)=true:=by simp[bne,h0]
  rw[e0]
  by_cases h3:m.2.2.2.2.2.2.2.1=3
  ·rw[h3]
   cases b1<;>cases b2<;>cases b3<;>cases b4<;>cases b5<;>cases b6<;>repeat' (first | exact Tr.all_ret rfl | refine Tr.all_t rfl ?_ | refine Tr.all_f rfl ?_)
  ·have e3:(m.2.2.2.2.2.2.2.1 != 3)=true:=by simp[bne,h3]
   rw[e3]
   cases b1<;>cases b2<;>cases b3<;>cases b4<;>cases b5<;>cases b6<;>repeat' (first | exact Tr.all_ret rfl | refine Tr.all_t rfl ?_ | refine Tr.all_f rfl ?_)
def t84 (o:RRt) (rn:List UInt8) (rt rc rl:Int) (rd:List UInt8):Tr Res:=.ret ([.bool (sayV o (rn,rt,rc,rl,rd))],[.boxT none [.str rn,.int .u16 rt,.int .u16 rc,.int .u32 rl,.str rd]])
def os84:OSpec:={ f:=84,sh:=[.d RR true,.ptr 0 0],so:=[.box [.d .str false,.d (.int .u16) false,.d (.int .u16) false,.d (.int .u32) false,.d .str false]],F:=fun(o,_) ((rn,rt,rc,rl,rd,_),_)=>t84 o rn rt rc rl rd }
theorem fn84 (o:RRt) (rn:List UInt8) (rt rc rl:Int) (rd:List UInt8):evC T0 (orcB [Z3f] []) (lpOf h84 1 (lsOf [])) c84 1000000 (U1 [AV.ofTy RR o true,.ptr 0 0] [.box [.str rn,.int .u16 rt,.int .u16 rc,.int .u32 rl,.str rd]] Try.f84.ntmps) (Q0 T0 false 1 Try.f84)=(t84 o rn rt rc rl rd).get:=by kernel_rfl
theorem ok84:os84.Ok Try.prog:=by
 refine Q4 Q2 tab0 (U0 (all_cons Z3o Z0) Z0) h84 (d:=0) (n0:=1) (S:=lsOf []) Try.func84 (by kernel_rfl) (c:=c84) (by kernel_rfl) rfl (U3 (by kernel_rfl)) (by omega) (by kernel_rfl) ?_
 intro x'' y'' q'' hq''
 obtain⟨(o:RRt),_⟩:=x''
 obtain⟨⟨(rn:List UInt8),(rt:Int),(rc:Int),(rl:Int),(rd:List UInt8),_⟩,_⟩:=y''
 exact(fn84 o rn rt rc rl rd).trans hq''
def Qg (rn:List UInt8) (rt rc rl:Int) (rd:List UInt8) (o:RRt):Bool:=sayV o (rn,rt,rc,rl,rd)
def ixS (l:List RRt) (m i:Int):Bool:=lrB l&&(decide (m=(l.length:Int))&&decide (i=0))
noncomputable def b88s:Code:=Z7 c88 0
def V2o:LoopSpec:={ bid:=0,sh:=[.d (.list RR) false,.fnp 84 [(0,0)],.d (.int .i64) false,.d (.int .i64) false],so:=[.box [.d .str false,.d (.int .u16) false,.d (.int .u16) false,.d (.int .u32) false,.d .str false]],F:=fun(l,m,i,_) ((rn,rt,rc,rl,rd,_),_)=>.on2 (ixS l m i) (decide (idxL (Qg rn rt rc rl rd) l 0 < 0)) (.exit 0,[.dead],[.box [.str rn,.int .u16 rt,.int .u16 rc,.int .u32 rl,.str rd]]) (.ret,[.int .i64 (idxL (Qg rn rt rc rl rd) l 0)],[.box [.str rn,.int .u16 rt,.int .u16 rc,.int .u32 rl,.str rd]]) }
def r88s (l:List RRt) (m i:Int) (rn:List UInt8) (rt rc rl:Int) (rd:List UInt8):Tr (St⊕(Ex×St)):=.br (decide (i < m)) (.br (decide (0≤i)) (.br (decide (i < (↑l.length:Int))) (.br (sayV (l.getD i.toNat (Ty.dflt RR)) (rn,rt,rc,rl,rd)) (.ret (.inr (.ret,stOf [4] [.int .i64 i] [.boxT none [.str rn,.int .u16 rt,.int .u16 rc,.int .u32 rl,.str rd]]))) (.ret (.inl (stOf [0,1,7,8] [.list RR l,AV.fn 84 [.ptr 0 0],.int .i64 m,.int .i64 (IntKind.wrap .i64 (i+1))] [.boxT none [.str rn,.int .u16 rt,.int .u16 rc,.int .u32 rl,.str rd]])))) .no) .no) (.ret (.inr (.exit 0,stOf [4] [.dead] [.boxT none [.str rn,.int .u16 rt,.int .u16 rc,.int .u32 rl,.str rd]])))
theorem Z2p (lp:Lp) (l:List RRt) (m i:Int) (rn:List UInt8) (rt rc rl:Int) (rd:List UInt8):evC T0 (orcB [] [os84]) lp b88s 0 (stOf [0,1,7,8] [.list RR l,.fn 84 [.ptr 0 0],.int .i64 m,.int .i64 i] [.box [.str rn,.int .u16 rt,.int .u16 rc,.int .u32 rl,.str rd]]) (X1 [0,1,7,8] [4] 1)=(r88s l m i rn rt rc rl rd).get:=by kernel_rfl
theorem wf88s (l:List RRt) (m:Int) (rn:List UInt8) (rt rc rl:Int) (rd:List UInt8) (I'':Int→Prop) (m'':Int→Nat) (r'':Ex×St) (h:∀ (i:Int),I'' i→(r88s l m i rn rt rc rl rd).all fun x''=>x''=.inr r''∨∃ (i':Int),x''=.inl (stOf [0,1,7,8] [.list RR l,.fn 84 [.ptr 0 0],.int .i64 m,.int .i64 i'] [.box [.str rn,.int .u16 rt,.int .u16 rc,.int .u32 rl,.str rd]])∧I'' i'∧m'' i' < m'' i) (lp:Lp) (i:Int):I'' i→
    Q3 (fun st=>evC T0 (orcB [] [os84]) lp b88s 0 st (X1 [0,1,7,8] [4] 1)) (stOf [0,1,7,8] [.list RR l,.fn 84 [.ptr 0 0],.int .i64 m,.int .i64 i] [.box [.str rn,.int .u16 rt,.int .u16 rc,.int .u32 rl,.str rd]])=some r'':=
 V8 (fun a'':Int=>stOf [0,1,7,8] [.list RR l,.fn 84 [.ptr 0 0],.int .i64 m,.int .i64 a''] [.box [.str rn,.int .u16 rt,.int .u16 rc,.int .u32 rl,.str rd]]) (fun a''=>I'' a'') (fun a''=>m'' a'') r'' (fun a''=>r88s l m a'' rn rt rc rl rd)
  (fun a'' x hx=>(Z2p lp l m a'' rn rt rc rl rd).trans hx) (fun a'' ha=>Tr.all_mono (fun x'' hx=>hx.imp id fun⟨i',h1,h2,h3⟩=>⟨(i'),h1,h2,h3⟩) (h (a'') ha)) (i)
theorem Q35:V2o.Ok T0 (orcB [] [os84]) h88 1 0 b88s:=by
 intro q'' hq'' x'' y'' r'' h
 obtain⟨(l:List RRt),(m:Int),(i:Int),_⟩:=x''
 obtain⟨⟨(rn:List UInt8),(rt:Int),(rc:Int),(rl:Int),(rd:List UInt8),_⟩,_⟩:=y''
 obtain⟨hc,rfl⟩:=Tr.get_on2 h
 show Q3 (fun st=>evC T0 (orcB [] [os84]) (lpN T0 (orcB [] [os84]) h88 1 q'') b88s 0 st (X1 [0,1,7,8] [4] 1)) (stOf [0,1,7,8] [.list RR l,.fn 84 [.ptr 0 0],.int .i64 m,.int .i64 i] [.box [.str rn,.int .u16 rt,.int .u16 rc,.int .u32 rl,.str rd]])=some ((bif decide (idxL (Qg rn rt rc rl rd) l 0 < 0) then (.exit 0,[.dead],[.box [.str rn,.int .u16 rt,.int .u16 rc,.int .u32 rl,.str rd]]) else (.ret,[.int .i64 (idxL (Qg rn rt rc rl rd) l 0)],[.box [.str rn,.int .u16 rt,.int .u16 rc,.int .u32 rl,.str rd]]):Ex×List AV×List LObj).1,stOf [4] (bif decide (idxL (Qg rn rt rc rl rd) l 0 < 0) then (.exit 0,[.dead],[.box [.str rn,.int .u16 rt,.int .u16 rc,.int .u32 rl,.str rd]]) else (.ret,[.int .i64 (idxL (Qg rn rt rc rl rd) l 0)],[.box [.str rn,.int .u16 rt,.int .u16 rc,.int .u32 rl,.str rd]]):Ex×List AV×List LObj).2.1 (bif decide (idxL (Qg rn rt rc rl rd) l 0 < 0) then (.exit 0,[.dead],[.box [.str rn,.int .u16 rt,.int .u16 rc,.int .u32 rl,.str rd]]) else (.ret,[.int .i64 (idxL (Qg rn rt rc rl rd) l 0)],[.box [.str rn,.int .u16 rt,.int .u16 rc,.int .u32 rl,.str rd]]):Ex×List AV×List LObj).2.2)
 simp only[ixS,Bool.and_eq_true,decide_eq_true_eq] at hc
 obtain⟨hl,rfl,rfl⟩:=hc
 have hl:=Nat.le_of_ble_eq_true hl
 refine wf88s l l.length rn rt rc rl rd (fun i=>0≤i∧i≤l.length∧idxL (Qg rn rt rc rl rd) (l.drop i.toNat) i.toNat=idxL (Qg rn rt rc rl rd) l 0) (fun i=>(l.length - i).toNat) _ ?_ _ 0 ⟨by omega,by omega,rfl⟩
 rintro i ⟨h0,h1,he⟩
 unfold r88s
 rw[Q8 h0 h1 (by omega)]
 by_cases hi:i < l.length
 ·rw[Jb (l:=l) (k:=i.toNat) (by omega) (Ty.dflt RR),idxL] at he
  generalize l.getD i.toNat (Ty.dflt RR)=x at *
  refine Tr.all_t (J0 hi) (Tr.all_t (J0 h0) (Tr.all_t (J0 hi) (Tr.all_br (fun h=>?_) fun h=>?_)))
  ·rw[if_pos (show Qg rn rt rc rl rd x=true from h)] at he
   rw[←he,show ((i.toNat:Nat):Int)=i by omega,V0 (show ¬ i < 0 by omega)]
   exact Tr.all_ret (.inl rfl)
  ·rw[if_neg (by intro h';have h2:Qg rn rt rc rl rd x=false:=h;rw[h2] at h';cases h')] at he
   exact Tr.all_ret (.inr ⟨_,rfl,⟨by omega,by omega,by rw[show (i+1).toNat=i.toNat+1 by omega];exact he⟩,by omega⟩)
 ·refine Tr.all_f (V0 hi) (Tr.all_ret (.inl ?_))
  rw[List.drop_eq_nil_of_le (by omega)] at he
  rw[←he]
  rfl
def t88s (l:List RRt) (rn:List UInt8) (rt rc rl:Int) (rd:List UInt8):Tr Res:=.br (ixS l (↑l.length:Int) 0) (.br (decide (idxL (Qg rn rt rc rl rd) l 0 < 0)) (.ret ([.int .i64 (-1)],[.boxT none [.str rn,.int .u16 rt,.int .u16 rc,.int .u32 rl,.str rd]])) (.ret ([.int .i64 (idxL (Qg rn rt rc rl rd) l 0)],[.boxT none [.str rn,.int .u16 rt,.int .u16 rc,.int .u32 rl,.str rd]]))) .no
def V3h:OSpec:={ f:=88,sh:=[.d (.list RR) false,.fnp 84 [(0,0)]],so:=[.box [.d .str false,.d (.int .u16) false,.d (.int .u16) false,.d (.int .u32) false,.d .str false]],F:=fun(l,_) ((rn,rt,rc,rl,rd,_),_)=>t88s l rn rt rc rl rd }
theorem fn88s (l:List RRt) (rn:List UInt8) (rt rc rl:Int) (rd:List UInt8):evC T0 (orcB [] [os84]) (lpOf h88 1 (lsOf [V2o])) c88 1000000 (U1 [.list RR l,.fn 84 [.ptr 0 0]] [.box [.str rn,.int .u16 rt,.int .u16 rc,.int .u32 rl,.str rd]] Try.f88.ntmps) (Q0 T0 false 1 Try.f88)=(t88s l rn rt rc rl rd).get:=by kernel_rfl
theorem ok88s:V3h.Ok Try.prog:=by
 refine Q4 Q2 tab0 (U0 Z0 (all_cons ok84 Z0)) h88 (d:=0) (n0:=1) (S:=lsOf [V2o]) Try.func88 (by kernel_rfl) (c:=c88) (by kernel_rfl) rfl (Z8 (xs:=[(0,b88s)]) (by kernel_rfl) (all_cons (J9 Q35) Z0)) (by omega) (by kernel_rfl) ?_
 intro x'' y'' q'' hq''
 obtain⟨(l:List RRt),_⟩:=x''
 obtain⟨⟨(rn:List UInt8),(rt:Int),(rc:Int),(rl:Int),(rd:List UInt8),_⟩,_⟩:=y''
 exact(fn88s l rn rt rc rl rd).trans hq''
def t86s (l:List RRt) (rn:List UInt8) (rt rc rl:Int) (rd:List UInt8):Tr Res:=.br (ixS l (↑l.length:Int) 0) (.br (decide (idxL (Qg rn rt rc rl rd) l 0 < 0)) (.ret ([.bool (decide ((-1:Int)≥0))],[.boxT none [.str rn,.int .u16 rt,.int .u16 rc,.int .u32 rl,.str rd]])) (.ret ([.bool (decide (idxL (Qg rn rt rc rl rd) l 0≥0))],[.boxT none [.str rn,.int .u16 rt,.int .u16 rc,.int .u32 rl,.str rd]]))) .no
def J3h:OSpec:={ f:=86,sh:=[.d (.list RR) false,.fnp 84 [(0,0)]],so:=[.box [.d .str false,.d (.int .u16) false,.d (.int .u16) false,.d (.int .u32) false,.d .str false]],F:=fun(l,_) ((rn,rt,rc,rl,rd,_),_)=>t86s l rn rt rc rl rd }
theorem fn86s (l:List RRt) (rn:List UInt8) (rt rc rl:Int) (rd:List UInt8):evC T0 (orcB [] [V3h]) (lpOf h86 1 (lsOf [])) c86 1000000 (U1 [.list RR l,.fn 84 [.ptr 0 0]] [.box [.str rn,.int .u16 rt,.int .u16 rc,.int .u32 rl,.str rd]] Try.f86.ntmps) (Q0 T0 false 1 Try.f86)=(t86s l rn rt rc rl rd).get:=by kernel_rfl
theorem ok86s:J3h.Ok Try.prog:=by
 refine Q4 Q2 tab0 (U0 Z0 (all_cons ok88s Z0)) h86 (d:=0) (n0:=1) (S:=lsOf []) Try.func86 (by kernel_rfl) (c:=c86) (by kernel_rfl) rfl (U3 (by kernel_rfl)) (by omega) (by kernel_rfl) ?_
 intro x'' y'' q'' hq''
 obtain⟨(l:List RRt),_⟩:=x''
 obtain⟨⟨(rn:List UInt8),(rt:Int),(rc:Int),(rl:Int),(rd:List UInt8),_⟩,_⟩:=y''
 exact(fn86s l rn rt rc rl rd).trans hq''
def J2w:OSpec:=J3h.like fun(l,_) ((rn,rt,rc,rl,rd,_),_)=>.on (lrB l) ([.bool (l.any (Qg rn rt rc rl rd))],[.box [.str rn,.int .u16 rt,.int .u16 rc,.int .u32 rl,.str rd]])
theorem Q1z {α:Type} (f:α→Bool):∀ (l:List α),(l.find? f).isSome=l.any f
 | []=>rfl
 | x::l=>by
   cases h:f x with
   | true=>simp[h]
   | false=>rw[List.find?_cons_of_neg (by simp[h]),Q1z f l];simp[h]
theorem Z3k:J2w.Ok Try.prog:=by
 refine Xh ok86s _ ?_
 rintro⟨(l:List RRt),_⟩ ⟨⟨(rn:List UInt8),(rt:Int),(rc:Int),(rl:Int),(rd:List UInt8),_⟩,_⟩ r' h
 obtain⟨hb,rfl⟩:=Tr.get_on h
 have hb:lrB l=true:=hb
 refine Tr.get_of_all ?_
 show (t86s l rn rt rc rl rd).all _
 unfold t86s
 have hx:ixS l (l.length:Int) 0=true:=by unfold ixS;rw[hb];simp
 rw[←Q1z]
 rcases Jz (Qg rn rt rc rl rd) (Ty.dflt RR) l 0 with ⟨h1,h2⟩ | ⟨j,h1,h2,h3⟩
 ·rw[h1,h2]
  repeat' (first | exact Tr.all_ret rfl | refine Tr.all_t hx ?_ | refine Tr.all_t rfl ?_ | refine Tr.all_f rfl ?_)
 ·rw[h1,h3,show ((0+j:Nat):Int)=(j:Int) by omega]
  refine Tr.all_t hx (Tr.all_f (V0 (by omega)) (Tr.all_ret ?_))
  rw[J0 (show (j:Int)≥0 by omega)]
  rfl
def t60 (sec:Int) (r:RRt) (s0:Int) (l:List RRt):Tr Res:=.br (s0==0) (.br (sec==sec) (.br (lrB l) (.br (!List.any l (Qg r.1 r.2.1 r.2.2.1 r.2.2.2.1 r.2.2.2.2)) (.br (fits (List.length l+1) 40) (.ret ([],[.boxT none [.int .i64 sec,.rowA 1],.row RR (l++[r])])) .no) (.ret ([],[.boxT none [.int .i64 sec,.rowA 1],.row RR l]))) .no) (.ret ([],[.boxT none [.int .i64 sec,.rowA 1],.row RR l]))) (.br (s0==sec) (.br (lrB l) (.br (!List.any l (Qg r.1 r.2.1 r.2.2.1 r.2.2.2.1 r.2.2.2.2)) (.br (fits (List.length l+1) 40) (.ret ([],[.boxT none [.int .i64 s0,.rowA 1],.row RR (l++[r])])) .no) (.ret ([],[.boxT none [.int .i64 s0,.rowA 1],.row RR l]))) .no) (.ret ([],[.boxT none [.int .i64 s0,.rowA 1],.row RR l])))
def os60:OSpec:={ f:=60,sh:=[.ptr 0 0,.d (.int .i64) false,.d RR true],so:=[.box [.d (.int .i64) false,.row 1],.row RR],F:=fun(sec,r,_) ((s0,_),l,_)=>t60 sec r s0 l }
theorem fn60 (sec:Int) (r:RRt) (s0:Int) (l:List RRt):evC T0 (orcB [] [J2w]) (lpOf h60 2 (lsOf [])) c60 1000000 (U1 [.ptr 0 0,.int .i64 sec,AV.ofTy RR r true] [.box [.int .i64 s0,.rowA 1],.row RR l] Try.f60.ntmps) (Q0 T0 false 2 Try.f60)=(t60 sec r s0 l).get:=by kernel_rfl
theorem ok60:os60.Ok Try.prog:=by
 refine Q4 Q2 tab0 (U0 Z0 (all_cons Z3k Z0)) h60 (d:=0) (n0:=2) (S:=lsOf []) Try.func60 (by kernel_rfl) (c:=c60) (by kernel_rfl) rfl (U3 (by kernel_rfl)) (by omega) (by kernel_rfl) ?_
 intro x'' y'' q'' hq''
 obtain⟨(sec:Int),(r:RRt),_⟩:=x''
 obtain⟨⟨(s0:Int),_⟩,(l:List RRt),_⟩:=y''
 exact(fn60 sec r s0 l).trans hq''
def Jk (s0 sec:Int):Int:=bif s0==0 then sec else s0
def Xj (s0 sec:Int) (r:RRt) (l:List RRt):List RRt:=bif Jk s0 sec==sec&&!l.any (fun o=>sayV o r) then l++[r] else l
def Ql:OSpec:=os60.like fun(sec,r,_) ((s0,_),l,_)=>.on (Nat.ble l.length 900000) ([],[.box [.int .i64 (Jk s0 sec),.rowA 1],.row RR (Xj s0 sec r l)])
theorem ok60w:Ql.Ok Try.prog:=by
 refine Xh ok60 _ ?_
 rintro⟨(sec:Int),(r:RRt),_⟩ ⟨⟨(s0:Int),_⟩,(l:List RRt),_⟩ r' h
 obtain⟨hb,rfl⟩:=Tr.get_on h
 have hb:Nat.ble l.length 900000=true:=hb
 have hl:=Nat.le_of_ble_eq_true hb
 have hlr:lrB l=true:=Nat.ble_eq_true_of_le (by omega)
 refine Tr.get_of_all ?_
 show (t60 sec r s0 l).all _
 unfold t60 Xj Jk
 have ha:l.any (Qg r.1 r.2.1 r.2.2.1 r.2.2.2.1 r.2.2.2.2)=l.any (fun o=>sayV o r):=rfl
 rw[ha]
 have hf:fits (l.length+1) 40=true:=Vq (by omega) (by omega)
 cases h0:s0==0 with
 | true=>
   refine Tr.all_t rfl (Tr.all_t (by simp) (Tr.all_t hlr ?_))
   cases h1:l.any (fun o=>sayV o r) with
   | true=>exact Tr.all_f rfl (Tr.all_ret (by simp))
   | false=>exact Tr.all_t rfl (Tr.all_t hf (Tr.all_ret (by simp)))
 | false=>
   cases h2:s0==sec with
   | false=>exact Tr.all_f rfl (Tr.all_f rfl (Tr.all_ret (by simp[h2])))
   | true=>
     refine Tr.all_f rfl (Tr.all_t rfl (Tr.all_t hlr ?_))
     cases h1:l.any (fun o=>sayV o r) with
     | true=>exact Tr.all_f rfl (Tr.all_ret (by simp[h2]))
     | false=>exact Tr.all_t rfl (Tr.all_t hf (Tr.all_ret (by simp[h2])))
noncomputable def TQ:Tab:={ T0 with dcl:=true }
theorem tabQ:J2 Try.prog TQ:=X38 tab0
abbrev ES:=List (QQt×(Int×List RRt))
def Qj (z:List UInt8) (sec:Int) (a:ES×List QQt) (r:RRt):ES×List QQt:=
 bif inV z r then bif hasB (keqD QQ) (keyV r) a.1 then (putB (keqD QQ) (keyV r) (Jk (getB (keqD QQ) (0,[]) (keyV r) a.1).1 sec,Xj (getB (keqD QQ) (0,[]) (keyV r) a.1).1 sec r (getB (keqD QQ) (0,[]) (keyV r) a.1).2) a.1,a.2)
  else (a.1++[(keyV r,(sec,[r]))],a.2++[keyV r]) else a
def cRun (z:List UInt8) (sec:Int) (l:List RRt) (a:ES×List QQt):ES×List QQt:=l.foldl (Qj z sec) a
theorem keqQ (q:QQt):keqD QQ q q=true:=by simp[keqD]
theorem V0z {κ α:Type} {eq:κ→κ→Bool} {x:κ} (hx:eq x x=true) (u v:α):∀ {es:List (κ×α)},hasB eq x es=false→putB eq x v (putB eq x u es)=es++[(x,v)]
 | [],_=>by simp[putB,hx]
 | e::es,h=>by
   have hq:eq x e.1=false:=(J0i h).1 0 e rfl
   have h':hasB eq x es=false:=by simpa[hasB,J02,hq] using h
   have ih:=V0z hx u v h'
   simp only[putB,hq,cond_false,List.cons_append,ih]
def BdE (es:ES) (B:Nat):Prop:=∀ e∈es,e.2.2.length≤B
theorem U2d {es:ES} {B:Nat} (h:BdE es B) (q:QQt):(getB (keqD QQ) (0,[]) q es).2.length≤B:=by
 cases hb:hasB (keqD QQ) q es with
 | true=>
   obtain⟨n,e,h1,_,h3,_⟩:=Uu hb
   unfold getB
   rw[h3]
   exact h e (List.mem_of_getElem? h1)
 | false=>
   unfold getB
   unfold hasB at hb
   rw[Option.isSome_eq_false_iff,Option.isNone_iff_eq_none] at hb
   rw[hb]
   exact Nat.zero_le _
theorem U3b {es:ES} {B:Nat} (h:BdE es B) {q:QQt} {v:Int×List RRt} (hv:v.2.length≤B):BdE (putB (keqD QQ) q v es) B:=by
 induction es with
 | nil=>intro e he;simp[putB] at he;subst he;exact hv
 | cons x es ih=>
   intro e he
   unfold putB at he
   cases hq:keqD QQ q x.1 with
   | true=>
     rw[hq] at he
     rcases List.mem_cons.1 he with rfl | he
     ·exact hv
     ·exact h e (List.mem_cons_of_mem _ he)
   | false=>
     rw[hq] at he
     rcases List.mem_cons.1 he with rfl | he
     ·exact h _ (by simp)
     ·exact ih (fun e he=>h e (List.mem_cons_of_mem _ he)) e he
theorem Q2u (s0 sec:Int) (r:RRt) (l:List RRt):(Xj s0 sec r l).length≤l.length+1:=by
 unfold Xj
 cases (Jk s0 sec==sec&&!l.any fun o=>sayV o r)<;>simp
theorem Q1q {z:List UInt8} {sec:Int} {a:ES×List QQt} {r:RRt} {B:Nat} (h1:BdE a.1 B) (h2:a.2.length≤B):BdE (Qj z sec a r).1 (B+1)∧(Qj z sec a r).2.length≤B+1:=by
 have up:BdE a.1 (B+1):=fun e he=>Nat.le_succ_of_le (h1 e he)
 unfold Qj
 cases inV z r with
 | false=>exact⟨up,by simp only[cond_false];omega⟩
 | true=>
   simp only[cond_true]
   cases hasB (keqD QQ) (keyV r) a.1 with
   | true=>
     simp only[cond_true]
     exact⟨U3b up (Nat.le_trans (Q2u (getB (keqD QQ) (0,[]) (keyV r) a.1).1 sec r (getB (keqD QQ) (0,[]) (keyV r) a.1).2) (Nat.succ_le_succ (U2d h1 (keyV r)))),by omega⟩
   | false=>
     simp only[cond_false]
     refine⟨fun e he=>?_,by rw[List.length_append,List.length_singleton];omega⟩
     rcases List.mem_append.1 he with he | he
     ·exact up e he
     ·simp at he
      subst he
      show [r].length≤B+1
      simp
theorem Xq {z:List UInt8} {sec:Int}:∀ (l:List RRt) (a:ES×List QQt) (B:Nat),BdE a.1 B→a.2.length≤B→BdE (cRun z sec l a).1 (B+l.length)∧(cRun z sec l a).2.length≤B+l.length
 | [],a,B,h1,h2=>⟨h1,h2⟩
 | r::l,a,B,h1,h2=>by
   obtain⟨h3,h4⟩:=Q1q (z:=z) (sec:=sec) (r:=r) h1 h2
   have:=Xq (z:=z) (sec:=sec) l (Qj z sec a r) (B+1) h3 h4
   rw[List.length_cons,show B+(l.length+1)=B+1+l.length by omega]
   exact this
def inC (z:List UInt8) (s:Int) (l:List RRt) (n i:Int) (es:ES) (od:List QQt):Bool:=okF l z []&&(secB (s+1)&&(decide (n=(l.length:Int))&&(decide (i=0)&&(Nat.ble l.length 2000&&(es.all (fun e=>Nat.ble e.2.2.length 10000)&&Nat.ble od.length 10000)))))
noncomputable def b34i:Code:=Z7 (Z7 c34 0) 0
def Q2q:LoopSpec:={ bid:=2,sh:=[.d .str false,.d (.int .u64) false,.d (.int .u32) false,.ptr 0 0,.mp 1,.row 2,.d (.int .i64) false,.d (.pair (.list RR) (.pair (.list RR) (.list RR))) true,.d (.int .i64) false,.d (.list RR) false,.d (.int .i64) false,.d (.int .i64) false],so:=[.box [.d (.int .u16) false,.d .bool false,.d .bool false,.d .bool false,.d .bool false,.d .bool false,.d (.int .i64) false,.d (.int .i64) false,.d (.list QQ) false,.d (.list RR) false,.d (.list RR) false,.d (.list RR) false],.mapb QQ .i64 RR,.row QQ],F:=fun(z,now,most,s,arr,si,l,n,i,_) ((mi,mqr,maa,mtc,mrd,mra,mop,mrc,mq,man,mns,mar,_),es,od,_)=>.on (inC z s l n i es od) (.exit 2,[.str z,.int .u64 now,.int .u32 most,.ptr 0 0,.mp 1,.rowA 2,AV.ofTy (.pair (.list RR) (.pair (.list RR) (.list RR))) arr true,.int .i64 si],[.box [.int .u16 mi,.bool mqr,.bool maa,.bool mtc,.bool mrd,.bool mra,.int .i64 mop,.int .i64 mrc,.list QQ mq,.list RR man,.list RR mns,.list RR mar],.mpb QQ .i64 RR (cRun z (s+1) l (es,od)).1 none,.row QQ (cRun z (s+1) l (es,od)).2]) }
def r34i (z:List UInt8) (now most s:Int) (arr:(List RRt×(List RRt×List RRt))) (si:Int) (l:List RRt) (n i mi:Int) (mqr maa mtc mrd mra:Bool) (mop mrc:Int) (mq:List QQt) (man mns mar:List RRt) (es:List (QQt×(Int×List RRt))) (od:List QQt):Tr (St⊕(Ex×St)):=.br (decide (i < n)) (.br (decide (0≤i)) (.br (decide (i < (↑l.length:Int))) (.br (okR (l.getD i.toNat (Ty.dflt RR))&&smN z) (.br (!inV z (l.getD i.toNat (Ty.dflt RR))) (.ret (.inl (stOf [1,2,3,4,9,10,11,28,29,33,34,35] [.str z,.int .u64 now,.int .u32 most,.ptr 0 0,.mp 1,.rowA 2,.int .i64 s,.agg [.list RR arr.1,.list RR arr.2.1,.list RR arr.2.2],.int .i64 si,.list RR l,.int .i64 n,.int .i64 (IntKind.wrap .i64 (i+1))] [.boxT none [.int .u16 mi,.bool mqr,.bool maa,.bool mtc,.bool mrd,.bool mra,.int .i64 mop,.int .i64 mrc,.list QQ mq,.list RR man,.list RR mns,.list RR mar],LObj.mpb QQ IntKind.i64 RR es none,.row QQ od]))) (.br (hasB (keqD QQ) (keyV (l.getD i.toNat (Ty.dflt RR))) es) (.br (keqD QQ (keyV (l.getD i.toNat (Ty.dflt RR))) (keyV (l.getD i.toNat (Ty.dflt RR)))) (.br (Nat.ble (List.length (getB (keqD QQ) (0,[]) (keyV (l.getD i.toNat (Ty.dflt RR))) es).2) 900000) (.ret (.inl (stOf [1,2,3,4,9,10,11,28,29,33,34,35] [.str z,.int .u64 now,.int .u32 most,.ptr 0 0,.mp 1,.rowA 2,.int .i64 s,.agg [.list RR arr.1,.list RR arr.2.1,.list RR arr.2.2],.int .i64 si,.list RR l,.int .i64 n,.int .i64 (IntKind.wrap .i64 (i+1))] [.boxT none [.int .u16 mi,.bool mqr,.bool maa,.bool mtc,.bool mrd,.bool mra,.int .i64 mop,.int .i64 mrc,.list QQ mq,.list RR man,.list RR mns,.list RR mar],LObj.mpb QQ IntKind.i64 RR (putB (keqD QQ) (keyV (l.getD i.toNat (Ty.dflt RR))) (Jk (getB (keqD QQ) (0,[]) (keyV (l.getD i.toNat (Ty.dflt RR))) es).1 (IntKind.wrap .i64 (s+1)),Xj (getB (keqD QQ) (0,[]) (keyV (l.getD i.toNat (Ty.dflt RR))) es).1 (IntKind.wrap .i64 (s+1)) (l.getD i.toNat (Ty.dflt RR)) (getB (keqD QQ) (0,[]) (keyV (l.getD i.toNat (Ty.dflt RR))) es).2) es) none,.row QQ od]))) .no) .no) (.br (!hasB (keqD QQ) (keyV (l.getD i.toNat (Ty.dflt RR))) es&&keqD QQ (keyV (l.getD i.toNat (Ty.dflt RR))) (keyV (l.getD i.toNat (Ty.dflt RR)))) (.br (fits (List.length od+1) 24) (.br (keqD QQ (keyV (l.getD i.toNat (Ty.dflt RR))) (keyV (l.getD i.toNat (Ty.dflt RR)))) (.ret (.inl (stOf [1,2,3,4,9,10,11,28,29,33,34,35] [.str z,.int .u64 now,.int .u32 most,.ptr 0 0,.mp 1,.rowA 2,.int .i64 s,.agg [.list RR arr.1,.list RR arr.2.1,.list RR arr.2.2],.int .i64 si,.list RR l,.int .i64 n,.int .i64 (IntKind.wrap .i64 (i+1))] [.boxT none [.int .u16 mi,.bool mqr,.bool maa,.bool mtc,.bool mrd,.bool mra,.int .i64 mop,.int .i64 mrc,.list QQ mq,.list RR man,.list RR mns,.list RR mar],LObj.mpb QQ IntKind.i64 RR (putB (keqD QQ) (keyV (l.getD i.toNat (Ty.dflt RR))) (Jk 0 (IntKind.wrap .i64 (s+1)),Xj 0 (IntKind.wrap .i64 (s+1)) (l.getD i.toNat (Ty.dflt RR)) []) (putB (keqD QQ) (keyV (l.getD i.toNat (Ty.dflt RR))) (0,[]) es)) none,.row QQ (od++[keyV (l.getD i.toNat (Ty.dflt RR))])]))) .no) .no) .no))) .no) .no) .no) (.ret (.inr (.exit 2,stOf [1,2,3,4,9,10,28,29] [.str z,.int .u64 now,.int .u32 most,.ptr 0 0,.mp 1,.rowA 2,.agg [.list RR arr.1,.list RR arr.2.1,.list RR arr.2.2],.int .i64 si] [.boxT none [.int .u16 mi,.bool mqr,.bool maa,.bool mtc,.bool mrd,.bool mra,.int .i64 mop,.int .i64 mrc,.list QQ mq,.list RR man,.list RR mns,.list RR mar],LObj.mpb QQ IntKind.i64 RR es none,.row QQ od])))
theorem U33 (lp:Lp) (z:List UInt8) (now most s:Int) (arr:(List RRt×(List RRt×List RRt))) (si:Int) (l:List RRt) (n i mi:Int) (mqr maa mtc mrd mra:Bool) (mop mrc:Int) (mq:List QQt) (man mns mar:List RRt) (es:List (QQt×(Int×List RRt))) (od:List QQt):evC TQ (orcB [Zh,Ui,Zm,Vm,Xm] [Ql,Um]) lp b34i 2 (stOf [1,2,3,4,9,10,11,28,29,33,34,35] [.str z,.int .u64 now,.int .u32 most,.ptr 0 0,.mp 1,.rowA 2,.int .i64 s,AV.ofTy (.pair (.list RR) (.pair (.list RR) (.list RR))) arr true,.int .i64 si,.list RR l,.int .i64 n,.int .i64 i] [.box [.int .u16 mi,.bool mqr,.bool maa,.bool mtc,.bool mrd,.bool mra,.int .i64 mop,.int .i64 mrc,.list QQ mq,.list RR man,.list RR mns,.list RR mar],.mpb QQ .i64 RR es none,.row QQ od]) (X1 [1,2,3,4,9,10,11,28,29,33,34,35] [1,2,3,4,9,10,28,29] 0)=(r34i z now most s arr si l n i mi mqr maa mtc mrd mra mop mrc mq man mns mar es od).get:=by kernel_rfl
theorem wf34i (z:List UInt8) (now most s:Int) (arr:(List RRt×(List RRt×List RRt))) (si:Int) (l:List RRt) (n mi:Int) (mqr maa mtc mrd mra:Bool) (mop mrc:Int) (mq:List QQt) (man mns mar:List RRt) (I'':Int→List (QQt×(Int×List RRt))→List QQt→Prop) (m'':Int→List (QQt×(Int×List RRt))→List QQt→Nat) (r'':Ex×St) (h:∀ (i:Int) (es:List (QQt×(Int×List RRt))) (od:List QQt),I'' i es od→(r34i z now most s arr si l n i mi mqr maa mtc mrd mra mop mrc mq man mns mar es od).all fun x''=>x''=.inr r''∨∃ (i':Int) (es':List (QQt×(Int×List RRt))) (od':List QQt),x''=.inl (stOf [1,2,3,4,9,10,11,28,29,33,34,35] [.str z,.int .u64 now,.int .u32 most,.ptr 0 0,.mp 1,.rowA 2,.int .i64 s,AV.ofTy (.pair (.list RR) (.pair (.list RR) (.list RR))) arr true,.int .i64 si,.list RR l,.int .i64 n,.int .i64 i'] [.box [.int .u16 mi,.bool mqr,.bool maa,.bool mtc,.bool mrd,.bool mra,.int .i64 mop,.int .i64 mrc,.list QQ mq,.list RR man,.list RR mns,.list RR mar],.mpb QQ .i64 RR es' none,.row QQ od'])∧I'' i' es' od'∧m'' i' es' od' < m'' i es od) (lp:Lp) (i:Int) (es:List (QQt×(Int×List RRt))) (od:List QQt):I'' i es od→
    Q3 (fun st=>evC TQ (orcB [Zh,Ui,Zm,Vm,Xm] [Ql,Um]) lp b34i 2 st (X1 [1,2,3,4,9,10,11,28,29,33,34,35] [1,2,3,4,9,10,28,29] 0)) (stOf [1,2,3,4,9,10,11,28,29,33,34,35] [.str z,.int .u64 now,.int .u32 most,.ptr 0 0,.mp 1,.rowA 2,.int .i64 s,AV.ofTy (.pair (.list RR) (.pair (.list RR) (.list RR))) arr true,.int .i64 si,.list RR l,.int .i64 n,.int .i64 i] [.box [.int .u16 mi,.bool mqr,.bool maa,.bool mtc,.bool mrd,.bool mra,.int .i64 mop,.int .i64 mrc,.list QQ mq,.list RR man,.list RR mns,.list RR mar],.mpb QQ .i64 RR es none,.row QQ od])=some r'':=
 V8 (fun a'':Int×List (QQt×(Int×List RRt))×List QQt=>stOf [1,2,3,4,9,10,11,28,29,33,34,35] [.str z,.int .u64 now,.int .u32 most,.ptr 0 0,.mp 1,.rowA 2,.int .i64 s,AV.ofTy (.pair (.list RR) (.pair (.list RR) (.list RR))) arr true,.int .i64 si,.list RR l,.int .i64 n,.int .i64 a''.1] [.box [.int .u16 mi,.bool mqr,.bool maa,.bool mtc,.bool mrd,.bool mra,.int .i64 mop,.int .i64 mrc,.list QQ mq,.list RR man,.list RR mns,.list RR mar],.mpb QQ .i64 RR a''.2.1 none,.row QQ a''.2.2]) (fun a''=>I'' a''.1 a''.2.1 a''.2.2) (fun a''=>m'' a''.1 a''.2.1 a''.2.2) r'' (fun a''=>r34i z now most s arr si l n a''.1 mi mqr maa mtc mrd mra mop mrc mq man mns mar a''.2.1 a''.2.2)
  (fun a'' x hx=>(U33 lp z now most s arr si l n a''.1 mi mqr maa mtc mrd mra mop mrc mq man mns mar a''.2.1 a''.2.2).trans hx) (fun a'' ha=>Tr.all_mono (fun x'' hx=>hx.imp id fun⟨i',es',od',h1,h2,h3⟩=>⟨(i',es',od'),h1,h2,h3⟩) (h (a''.1) (a''.2.1) (a''.2.2) ha)) (i,es,od)
theorem V37:Q2q.Ok TQ (orcB [Zh,Ui,Zm,Vm,Xm] [Ql,Um]) h34 0 0 b34i:=by
 intro q'' hq'' x'' y'' r'' h
 obtain⟨(z:List UInt8),(now:Int),(most:Int),(s:Int),(arr:(List RRt×(List RRt×List RRt))),(si:Int),(l:List RRt),(n:Int),(i:Int),_⟩:=x''
 obtain⟨⟨(mi:Int),(mqr:Bool),(maa:Bool),(mtc:Bool),(mrd:Bool),(mra:Bool),(mop:Int),(mrc:Int),(mq:List QQt),(man:List RRt),(mns:List RRt),(mar:List RRt),_⟩,(es:List (QQt×(Int×List RRt))),(od:List QQt),_⟩:=y''
 obtain⟨hc,rfl⟩:=Tr.get_on h
 show Q3 (fun st=>evC TQ (orcB [Zh,Ui,Zm,Vm,Xm] [Ql,Um]) (lpN TQ (orcB [Zh,Ui,Zm,Vm,Xm] [Ql,Um]) h34 0 q'') b34i 2 st (X1 [1,2,3,4,9,10,11,28,29,33,34,35] [1,2,3,4,9,10,28,29] 0)) (stOf [1,2,3,4,9,10,11,28,29,33,34,35] [.str z,.int .u64 now,.int .u32 most,.ptr 0 0,.mp 1,.rowA 2,.int .i64 s,AV.ofTy (.pair (.list RR) (.pair (.list RR) (.list RR))) arr true,.int .i64 si,.list RR l,.int .i64 n,.int .i64 i] [.box [.int .u16 mi,.bool mqr,.bool maa,.bool mtc,.bool mrd,.bool mra,.int .i64 mop,.int .i64 mrc,.list QQ mq,.list RR man,.list RR mns,.list RR mar],.mpb QQ .i64 RR es none,.row QQ od])=some (.exit 2,stOf [1,2,3,4,9,10,28,29] ([.str z,.int .u64 now,.int .u32 most,.ptr 0 0,.mp 1,.rowA 2,AV.ofTy (.pair (.list RR) (.pair (.list RR) (.list RR))) arr true,.int .i64 si]) ([.box [.int .u16 mi,.bool mqr,.bool maa,.bool mtc,.bool mrd,.bool mra,.int .i64 mop,.int .i64 mrc,.list QQ mq,.list RR man,.list RR mns,.list RR mar],.mpb QQ .i64 RR (cRun z (s+1) l (es,od)).1 none,.row QQ (cRun z (s+1) l (es,od)).2]))
 simp only[inC,okF,okL,Bool.and_eq_true,decide_eq_true_eq] at hc
 obtain⟨⟨⟨hl,hall⟩,hz,_⟩,hs,rfl,rfl,hl3,he,ho⟩:=hc
 have hl:=Nat.le_of_ble_eq_true hl
 have hl3:=Nat.le_of_ble_eq_true hl3
 have ho:=Nat.le_of_ble_eq_true ho
 have he:BdE es 10000:=fun e hh=>Nat.le_of_ble_eq_true (List.all_eq_true.1 he e hh)
 have hs':=hs
 simp only[secB,Bool.and_eq_true,decide_eq_true_eq] at hs'
 refine wf34i z now most s arr si l l.length mi mqr maa mtc mrd mra mop mrc mq man mns mar (fun j e o=>0≤j∧j≤l.length∧BdE e (10000+j.toNat)∧o.length≤10000+j.toNat∧cRun z (s+1) (l.drop j.toNat) (e,o)=cRun z (s+1) l (es,od)) (fun j e o=>(l.length - j).toNat) _ ?_ _ 0 es od ⟨by omega,by omega,he,ho,rfl⟩
 rintro j e o ⟨h0,h1,g1,g2,g3⟩
 unfold r34i
 rw[Q8 h0 h1 (by omega),IntWalk.i64_in (s+1) (by omega)]
 by_cases hj:j < l.length
 ·have hok:=Z0i hall h0 hj
  rw[Jb (l:=l) (k:=j.toNat) (by omega) (Ty.dflt RR)] at g3
  generalize l.getD j.toNat (Ty.dflt RR)=x at *
  have g4:cRun z (s+1) (l.drop (j+1).toNat) (Qj z (s+1) (e,o) x)=cRun z (s+1) l (es,od):=by rw[show (j+1).toNat=j.toNat+1 by omega];exact g3
  obtain⟨g5,g6⟩:=Q1q (z:=z) (sec:=s+1) (r:=x) (a:=(e,o)) g1 g2
  rw[show 10000+j.toNat+1=10000+(j+1).toNat by omega] at g5 g6
  have hgo:∀ a:ES×List QQt,Qj z (s+1) (e,o) x=a→BdE a.1 (10000+(j+1).toNat)∧a.2.length≤10000+(j+1).toNat∧cRun z (s+1) (l.drop (j+1).toNat) a=cRun z (s+1) l (es,od):=fun a ha=>by subst ha;exact⟨g5,g6,g4⟩
  clear g3 g4 g5 g6
  refine Tr.all_t (J0 hj) (Tr.all_t (J0 h0) (Tr.all_t (J0 hj) (Tr.all_t (by rw[hok,hz];rfl) (Tr.all_br (fun c=>?_) fun c=>?_))))
  ·have c:inV z x=false:=by simpa using c
   have:=hgo (e,o) (by simp only[Qj,c,cond_false])
   exact Tr.all_ret (.inr ⟨_,_,_,rfl,⟨by omega,by omega,this⟩,by omega⟩)
  ·have c:inV z x=true:=by simpa using c
   refine Tr.all_br (fun c2=>?_) fun c2=>?_
   ·have:=hgo (putB (keqD QQ) (keyV x) (Jk (getB (keqD QQ) (0,[]) (keyV x) e).1 (s+1),Xj (getB (keqD QQ) (0,[]) (keyV x) e).1 (s+1) x (getB (keqD QQ) (0,[]) (keyV x) e).2) e,o) (by simp only[Qj,c,c2,cond_true])
    have hgl:=U2d g1 (keyV x)
    exact Tr.all_t (keqQ _) (Tr.all_t (Nat.ble_eq_true_of_le (by omega)) (Tr.all_ret (.inr ⟨_,_,_,rfl,⟨by omega,by omega,this⟩,by omega⟩)))
   ·have hq:=V0z (keqQ (keyV x)) ((0:Int),([]:List RRt)) (Jk 0 (s+1),Xj 0 (s+1) x []) c2
    have:=hgo (e++[(keyV x,(s+1,[x]))],o++[keyV x]) (by simp only[Qj,c,c2,cond_true,cond_false])
    have hv:(Jk 0 (s+1),Xj 0 (s+1) x [])=(s+1,[x]):=by simp[Jk,Xj]
    have hq:putB (keqD QQ) (keyV x) (Jk 0 (s+1),Xj 0 (s+1) x []) (putB (keqD QQ) (keyV x) (0,[]) e)=e++[(keyV x,(s+1,[x]))]:=(V0z (keqQ (keyV x)) _ _ c2).trans (by rw[hv])
    refine Tr.all_t (by rw[c2,keqQ];rfl) (Tr.all_t (Vq (by omega) (by omega)) (Tr.all_t (keqQ _) (Tr.all_ret (.inr ⟨_,_,_,rfl,⟨by omega,by omega,?_⟩,by omega⟩))))
    rw[hq]
    exact this
 ·refine Tr.all_f (V0 hj) (Tr.all_ret (.inl ?_))
  rw[List.drop_eq_nil_of_le (by omega)] at g3
  rw[←g3]
  rfl
end Go.Proofs.YtkobjdhbfepkaaaE
