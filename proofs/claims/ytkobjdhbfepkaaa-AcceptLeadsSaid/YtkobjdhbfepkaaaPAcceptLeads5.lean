import Derived.Test.YtkobjdhbfepkaaaPAcceptLeads4
import Derived.Test.YtkobjdhbfepkaaaRows
import Derived.WalkKit
import Derived.ProofKit
import Derived.OpenShut
import Derived.ShutString
import Derived.ChangeOld
import Derived.Below
import Derived.Carry
import Derived.SizedLaws
set_option maxRecDepth 1000000
namespace Go.Proofs.YtkobjdhbfepkaaaE
open Go Go.Proofs.YtkobjdhbfepkaaaB
set_option linter.unusedVariables false
set_option linter.unusedSimpArgs false
noncomputable def TQ:Tab:={ T0 with dcl:=true }
theorem tabQ:Z2 Try.prog TQ:=X37 tab0
abbrev ES:=List (QQt×(Int×List RRt))
def X09 (z:List UInt8) (sec:Int) (a:ES×List QQt) (r:RRt):ES×List QQt:=
 bif inV z r then bif hasB (keqD QQ) (keyV r) a.1 then (putB (keqD QQ) (keyV r) (Z01 (getB (keqD QQ) (0,[]) (keyV r) a.1).1 sec,V01 (getB (keqD QQ) (0,[]) (keyV r) a.1).1 sec r (getB (keqD QQ) (0,[]) (keyV r) a.1).2) a.1,a.2)
  else (a.1++[(keyV r,(sec,[r]))],a.2++[keyV r]) else a
def cRun (z:List UInt8) (sec:Int) (l:List RRt) (a:ES×List QQt):ES×List QQt:=l.foldl (X09 z sec) a
theorem keqQ (q:QQt):keqD QQ q q=true:=by simp[keqD]
theorem J10 {κ α:Type} {eq:κ→κ→Bool} {x:κ} (hx:eq x x=true) (u v:α):∀ {es:List (κ×α)},hasB eq x es=false→putB eq x v (putB eq x u es)=es++[(x,v)]
 | [],_=>by simp[putB,hx]
 | e::es,h=>by
   have hq:eq x e.1=false:=(X0u h).1 0 e rfl
   have h':hasB eq x es=false:=by simpa[hasB,Q01,hq] using h
   have ih:=J10 hx u v h'
   simp only[putB,hq,cond_false,List.cons_append,ih]
def BdE (es:ES) (B:Nat):Prop:=∀ e∈es,e.2.2.length≤B
theorem V2b {es:ES} {B:Nat} (h:BdE es B) (q:QQt):(getB (keqD QQ) (0,[]) q es).2.length≤B:=by
 cases hb:hasB (keqD QQ) q es with
 | true=>
   obtain⟨n,e,h1,_,h3,_⟩:=J0k hb
   unfold getB
   rw[h3]
   exact h e (List.mem_of_getElem? h1)
 | false=>
   unfold getB
   unfold hasB at hb
   rw[Option.isSome_eq_false_iff,Option.isNone_iff_eq_none] at hb
   rw[hb]
   exact Nat.zero_le _
theorem Z3d {es:ES} {B:Nat} (h:BdE es B) {q:QQt} {v:Int×List RRt} (hv:v.2.length≤B):BdE (putB (keqD QQ) q v es) B:=by
 induction es with
 | nil=>intro e he;simp[putB] at he;subst he;exact hv
 | cons x es ih=>
   intro e he
   unfold putB at he
   cases hq:keqD QQ q x.1 with
   | true=>
     rw[hq] at he
     rcases List.mem_cons.1 he with rfl | he
     ·exact hv
     ·exact h e (List.mem_cons_of_mem _ he)
   | false=>
     rw[hq] at he
     rcases List.mem_cons.1 he with rfl | he
     ·exact h _ (by simp)
     ·exact ih (fun e he=>h e (List.mem_cons_of_mem _ he)) e he
theorem Z32 (s0 sec:Int) (r:RRt) (l:List RRt):(V01 s0 sec r l).length≤l.length+1:=by
 unfold V01
 cases (Z01 s0 sec==sec&&!l.any fun o=>sayV o r)<;>simp
theorem J20 {z:List UInt8} {sec:Int} {a:ES×List QQt} {r:RRt} {B:Nat} (h1:BdE a.1 B) (h2:a.2.length≤B):BdE (X09 z sec a r).1 (B+1)∧(X09 z sec a r).2.length≤B+1:=by
 have up:BdE a.1 (B+1):=fun e he=>Nat.le_succ_of_le (h1 e he)
 unfold X09
 cases inV z r with
 | false=>exact⟨up,by simp only[cond_false];omega⟩
 | true=>
   simp only[cond_true]
   cases hasB (keqD QQ) (keyV r) a.1 with
   | true=>
     simp only[cond_true]
     exact⟨Z3d up (Nat.le_trans (Z32 (getB (keqD QQ) (0,[]) (keyV r) a.1).1 sec r (getB (keqD QQ) (0,[]) (keyV r) a.1).2) (Nat.succ_le_succ (V2b h1 (keyV r)))),by omega⟩
   | false=>
     simp only[cond_false]
     refine⟨fun e he=>?_,by rw[List.length_append,List.length_singleton];omega⟩
     rcases List.mem_append.1 he with he | he
     ·exact up e he
     ·simp at he
      subst he
      show [r].length≤B+1
      simp
theorem Q1l {z:List UInt8} {sec:Int}:∀ (l:List RRt) (a:ES×List QQt) (B:Nat),BdE a.1 B→a.2.length≤B→BdE (cRun z sec l a).1 (B+l.length)∧(cRun z sec l a).2.length≤B+l.length
 | [],a,B,h1,h2=>⟨h1,h2⟩
 | r::l,a,B,h1,h2=>by
   obtain⟨h3,h4⟩:=J20 (z:=z) (sec:=sec) (r:=r) h1 h2
   have:=Q1l (z:=z) (sec:=sec) l (X09 z sec a r) (B+1) h3 h4
   rw[List.length_cons,show B+(l.length+1)=B+1+l.length by omega]
   exact this
def inC (z:List UInt8) (s:Int) (l:List RRt) (n i:Int) (es:ES) (od:List QQt):Bool:=okF l z []&&(secB (s+1)&&(decide (n=(l.length:Int))&&(decide (i=0)&&(Nat.ble l.length 1000&&(es.all (fun e=>Nat.ble e.2.2.length 10000)&&Nat.ble od.length 10000)))))
noncomputable def b34i:Code:=U8 (U8 c34 0) 0
def Z2z:LoopSpec:={ bid:=2,sh:=[.d .str false,.d (.int .u64) false,.d (.int .u32) false,.ptr 0 0,.mp 1,.row 2,.d (.int .i64) false,.d (.pair (.list RR) (.pair (.list RR) (.list RR))) true,.d (.int .i64) false,.d (.list RR) false,.d (.int .i64) false,.d (.int .i64) false],so:=[.box [.d (.int .u16) false,.d .bool false,.d .bool false,.d .bool false,.d .bool false,.d .bool false,.d (.int .i64) false,.d (.int .i64) false,.d (.list QQ) false,.d (.list RR) false,.d (.list RR) false,.d (.list RR) false],.mapb QQ .i64 RR,.row QQ],F:=fun(z,now,most,s,arr,si,l,n,i,_) ((mi,mqr,maa,mtc,mrd,mra,mop,mrc,mq,man,mns,mar,_),es,od,_)=>.on (inC z s l n i es od) (.exit 2,[.str z,.int .u64 now,.int .u32 most,.ptr 0 0,.mp 1,.rowA 2,AV.ofTy (.pair (.list RR) (.pair (.list RR) (.list RR))) arr true,.int .i64 si],[.box [.int .u16 mi,.bool mqr,.bool maa,.bool mtc,.bool mrd,.bool mra,.int .i64 mop,.int .i64 mrc,.list QQ mq,.list RR man,.list RR mns,.list RR mar],.mpb QQ .i64 RR (cRun z (s+1) l (es,od)).1 none,.row QQ (cRun z (s+1) l (es,od)).2]) }
def r34i (z:List UInt8) (now most s:Int) (arr:(List RRt×(List RRt×List RRt))) (si:Int) (l:List RRt) (n i mi:Int) (mqr maa mtc mrd mra:Bool) (mop mrc:Int) (mq:List QQt) (man mns mar:List RRt) (es:List (QQt×(Int×List RRt))) (od:List QQt):Tr (St⊕(Ex×St)):=.br (decide (i < n)) (.br (decide (0≤i)) (.br (decide (i < (↑l.length:Int))) (.br (okR (l.getD i.toNat (Ty.dflt RR))&&smN z) (.br (!inV z (l.getD i.toNat (Ty.dflt RR))) (.ret (.inl (stOf [1,2,3,4,9,10,11,28,29,33,34,35] [.str z,.int .u64 now,.int .u32 most,.ptr 0 0,.mp 1,.rowA 2,.int .i64 s,.agg [.list RR arr.1,.list RR arr.2.1,.list RR arr.2.2],.int .i64 si,.list RR l,.int .i64 n,.int .i64 (IntKind.wrap .i64 (i+1))] [.boxT none [.int .u16 mi,.bool mqr,.bool maa,.bool mtc,.bool mrd,.bool mra,.int .i64 mop,.int .i64 mrc,.list QQ mq,.list RR man,.list RR mns,.list RR mar],LObj.mpb QQ IntKind.i64 RR es none,.row QQ od]))) (.br (hasB (keqD QQ) (keyV (l.getD i.toNat (Ty.dflt RR))) es) (.br (keqD QQ (keyV (l.getD i.toNat (Ty.dflt RR))) (keyV (l.getD i.toNat (Ty.dflt RR)))) (.br (Nat.ble (List.length (getB (keqD QQ) (0,[]) (keyV (l.getD i.toNat (Ty.dflt RR))) es).2) 900000) (.ret (.inl (stOf [1,2,3,4,9,10,11,28,29,33,34,35] [.str z,.int .u64 now,.int .u32 most,.ptr 0 0,.mp 1,.rowA 2,.int .i64 s,.agg [.list RR arr.1,.list RR arr.2.1,.list RR arr.2.2],.int .i64 si,.list RR l,.int .i64 n,.int .i64 (IntKind.wrap .i64 (i+1))] [.boxT none [.int .u16 mi,.bool mqr,.bool maa,.bool mtc,.bool mrd,.bool mra,.int .i64 mop,.int .i64 mrc,.list QQ mq,.list RR man,.list RR mns,.list RR mar],LObj.mpb QQ IntKind.i64 RR (putB (keqD QQ) (keyV (l.getD i.toNat (Ty.dflt RR))) (Z01 (getB (keqD QQ) (0,[]) (keyV (l.getD i.toNat (Ty.dflt RR))) es).1 (IntKind.wrap .i64 (s+1)),V01 (getB (keqD QQ) (0,[]) (keyV (l.getD i.toNat (Ty.dflt RR))) es).1 (IntKind.wrap .i64 (s+1)) (l.getD i.toNat (Ty.dflt RR)) (getB (keqD QQ) (0,[]) (keyV (l.getD i.toNat (Ty.dflt RR))) es).2) es) none,.row QQ od]))) .no) .no) (.br (!hasB (keqD QQ) (keyV (l.getD i.toNat (Ty.dflt RR))) es&&keqD QQ (keyV (l.getD i.toNat (Ty.dflt RR))) (keyV (l.getD i.toNat (Ty.dflt RR)))) (.br (fits (List.length od+1) 24) (.br (keqD QQ (keyV (l.getD i.toNat (Ty.dflt RR))) (keyV (l.getD i.toNat (Ty.dflt RR)))) (.ret (.inl (stOf [1,2,3,4,9,10,11,28,29,33,34,35] [.str z,.int .u64 now,.int .u32 most,.ptr 0 0,.mp 1,.rowA 2,.int .i64 s,.agg [.list RR arr.1,.list RR arr.2.1,.list RR arr.2.2],.int .i64 si,.list RR l,.int .i64 n,.int .i64 (IntKind.wrap .i64 (i+1))] [.boxT none [.int .u16 mi,.bool mqr,.bool maa,.bool mtc,.bool mrd,.bool mra,.int .i64 mop,.int .i64 mrc,.list QQ mq,.list RR man,.list RR mns,.list RR mar],LObj.mpb QQ IntKind.i64 RR (putB (keqD QQ) (keyV (l.getD i.toNat (Ty.dflt RR))) (Z01 0 (IntKind.wrap .i64 (s+1)),V01 0 (IntKind.wrap .i64 (s+1)) (l.getD i.toNat (Ty.dflt RR)) []) (putB (keqD QQ) (keyV (l.getD i.toNat (Ty.dflt RR))) (0,[]) es)) none,.row QQ (od++[keyV (l.getD i.toNat (Ty.dflt RR))])]))) .no) .no) .no))) .no) .no) .no) (.ret (.inr (.exit 2,stOf [1,2,3,4,9,10,28,29] [.str z,.int .u64 now,.int .u32 most,.ptr 0 0,.mp 1,.rowA 2,.agg [.list RR arr.1,.list RR arr.2.1,.list RR arr.2.2],.int .i64 si] [.boxT none [.int .u16 mi,.bool mqr,.bool maa,.bool mtc,.bool mrd,.bool mra,.int .i64 mop,.int .i64 mrc,.list QQ mq,.list RR man,.list RR mns,.list RR mar],LObj.mpb QQ IntKind.i64 RR es none,.row QQ od])))
theorem J30 (lp:Lp) (z:List UInt8) (now most s:Int) (arr:(List RRt×(List RRt×List RRt))) (si:Int) (l:List RRt) (n i mi:Int) (mqr maa mtc mrd mra:Bool) (mop mrc:Int) (mq:List QQt) (man mns mar:List RRt) (es:List (QQt×(Int×List RRt))) (od:List QQt):evC TQ (orcB [Xg,Xi,Vl,Zm,Xl] [Ul,Xm]) lp b34i 2 (stOf [1,2,3,4,9,10,11,28,29,33,34,35] [.str z,.int .u64 now,.int .u32 most,.ptr 0 0,.mp 1,.rowA 2,.int .i64 s,AV.ofTy (.pair (.list RR) (.pair (.list RR) (.list RR))) arr true,.int .i64 si,.list RR l,.int .i64 n,.int .i64 i] [.box [.int .u16 mi,.bool mqr,.bool maa,.bool mtc,.bool mrd,.bool mra,.int .i64 mop,.int .i64 mrc,.list QQ mq,.list RR man,.list RR mns,.list RR mar],.mpb QQ .i64 RR es none,.row QQ od]) (U1 [1,2,3,4,9,10,11,28,29,33,34,35] [1,2,3,4,9,10,28,29] 0)=(r34i z now most s arr si l n i mi mqr maa mtc mrd mra mop mrc mq man mns mar es od).get:=by kernel_rfl
theorem wf34i (z:List UInt8) (now most s:Int) (arr:(List RRt×(List RRt×List RRt))) (si:Int) (l:List RRt) (n mi:Int) (mqr maa mtc mrd mra:Bool) (mop mrc:Int) (mq:List QQt) (man mns mar:List RRt) (I'':Int→List (QQt×(Int×List RRt))→List QQt→Prop) (m'':Int→List (QQt×(Int×List RRt))→List QQt→Nat) (r'':Ex×St) (h:∀ (i:Int) (es:List (QQt×(Int×List RRt))) (od:List QQt),I'' i es od→(r34i z now most s arr si l n i mi mqr maa mtc mrd mra mop mrc mq man mns mar es od).all fun x''=>x''=.inr r''∨∃ (i':Int) (es':List (QQt×(Int×List RRt))) (od':List QQt),x''=.inl (stOf [1,2,3,4,9,10,11,28,29,33,34,35] [.str z,.int .u64 now,.int .u32 most,.ptr 0 0,.mp 1,.rowA 2,.int .i64 s,AV.ofTy (.pair (.list RR) (.pair (.list RR) (.list RR))) arr true,.int .i64 si,.list RR l,.int .i64 n,.int .i64 i'] [.box [.int .u16 mi,.bool mqr,.bool maa,.bool mtc,.bool mrd,.bool mra,.int .i64 mop,.int .i64 mrc,.list QQ mq,.list RR man,.list RR mns,.list RR mar],.mpb QQ .i64 RR es' none,.row QQ od'])∧I'' i' es' od'∧m'' i' es' od' < m'' i es od) (lp:Lp) (i:Int) (es:List (QQt×(Int×List RRt))) (od:List QQt):I'' i es od→
    Z4 (fun st=>evC TQ (orcB [Xg,Xi,Vl,Zm,Xl] [Ul,Xm]) lp b34i 2 st (U1 [1,2,3,4,9,10,11,28,29,33,34,35] [1,2,3,4,9,10,28,29] 0)) (stOf [1,2,3,4,9,10,11,28,29,33,34,35] [.str z,.int .u64 now,.int .u32 most,.ptr 0 0,.mp 1,.rowA 2,.int .i64 s,AV.ofTy (.pair (.list RR) (.pair (.list RR) (.list RR))) arr true,.int .i64 si,.list RR l,.int .i64 n,.int .i64 i] [.box [.int .u16 mi,.bool mqr,.bool maa,.bool mtc,.bool mrd,.bool mra,.int .i64 mop,.int .i64 mrc,.list QQ mq,.list RR man,.list RR mns,.list RR mar],.mpb QQ .i64 RR es none,.row QQ od])=some r'':=
 Za (fun a'':Int×List (QQt×(Int×List RRt))×List QQt=>stOf [1,2,3,4,9,10,11,28,29,33,34,35] [.str z,.int .u64 now,.int .u32 most,.ptr 0 0,.mp 1,.rowA 2,.int .i64 s,AV.ofTy (.pair (.list RR) (.pair (.list RR) (.list RR))) arr true,.int .i64 si,.list RR l,.int .i64 n,.int .i64 a''.1] [.box [.int .u16 mi,.bool mqr,.bool maa,.bool mtc,.bool mrd,.bool mra,.int .i64 mop,.int .i64 mrc,.list QQ mq,.list RR man,.list RR mns,.list RR mar],.mpb QQ .i64 RR a''.2.1 none,.row QQ a''.2.2]) (fun a''=>I'' a''.1 a''.2.1 a''.2.2) (fun a''=>m'' a''.1 a''.2.1 a''.2.2) r'' (fun a''=>r34i z now most s arr si l n a''.1 mi mqr maa mtc mrd mra mop mrc mq man mns mar a''.2.1 a''.2.2)
  (fun a'' x hx=>(J30 lp z now most s arr si l n a''.1 mi mqr maa mtc mrd mra mop mrc mq man mns mar a''.2.1 a''.2.2).trans hx) (fun a'' ha=>Tr.all_mono (fun x'' hx=>hx.imp id fun⟨i',es',od',h1,h2,h3⟩=>⟨(i',es',od'),h1,h2,h3⟩) (h (a''.1) (a''.2.1) (a''.2.2) ha)) (i,es,od)
theorem Z39:Z2z.Ok TQ (orcB [Xg,Xi,Vl,Zm,Xl] [Ul,Xm]) h34 0 0 b34i:=by
 intro q'' hq'' x'' y'' r'' h
 obtain⟨(z:List UInt8),(now:Int),(most:Int),(s:Int),(arr:(List RRt×(List RRt×List RRt))),(si:Int),(l:List RRt),(n:Int),(i:Int),_⟩:=x''
 obtain⟨⟨(mi:Int),(mqr:Bool),(maa:Bool),(mtc:Bool),(mrd:Bool),(mra:Bool),(mop:Int),(mrc:Int),(mq:List QQt),(man:List RRt),(mns:List RRt),(mar:List RRt),_⟩,(es:List (QQt×(Int×List RRt))),(od:List QQt),_⟩:=y''
 obtain⟨hc,rfl⟩:=Tr.get_on h
 show Z4 (fun st=>evC TQ (orcB [Xg,Xi,Vl,Zm,Xl] [Ul,Xm]) (lpN TQ (orcB [Xg,Xi,Vl,Zm,Xl] [Ul,Xm]) h34 0 q'') b34i 2 st (U1 [1,2,3,4,9,10,11,28,29,33,34,35] [1,2,3,4,9,10,28,29] 0)) (stOf [1,2,3,4,9,10,11,28,29,33,34,35] [.str z,.int .u64 now,.int .u32 most,.ptr 0 0,.mp 1,.rowA 2,.int .i64 s,AV.ofTy (.pair (.list RR) (.pair (.list RR) (.list RR))) arr true,.int .i64 si,.list RR l,.int .i64 n,.int .i64 i] [.box [.int .u16 mi,.bool mqr,.bool maa,.bool mtc,.bool mrd,.bool mra,.int .i64 mop,.int .i64 mrc,.list QQ mq,.list RR man,.list RR mns,.list RR mar],.mpb QQ .i64 RR es none,.row QQ od])=some (.exit 2,stOf [1,2,3,4,9,10,28,29] ([.str z,.int .u64 now,.int .u32 most,.ptr 0 0,.mp 1,.rowA 2,AV.ofTy (.pair (.list RR) (.pair (.list RR) (.list RR))) arr true,.int .i64 si]) ([.box [.int .u16 mi,.bool mqr,.bool maa,.bool mtc,.bool mrd,.bool mra,.int .i64 mop,.int .i64 mrc,.list QQ mq,.list RR man,.list RR mns,.list RR mar],.mpb QQ .i64 RR (cRun z (s+1) l (es,od)).1 none,.row QQ (cRun z (s+1) l (es,od)).2]))
 simp only[inC,okF,okL,Bool.and_eq_true,decide_eq_true_eq] at hc
 obtain⟨⟨⟨hl,hall⟩,hz,_⟩,hs,rfl,rfl,hl3,he,ho⟩:=hc
 have hl:=Nat.le_of_ble_eq_true hl
 have hl3:=Nat.le_of_ble_eq_true hl3
 have ho:=Nat.le_of_ble_eq_true ho
 have he:BdE es 10000:=fun e hh=>Nat.le_of_ble_eq_true (List.all_eq_true.1 he e hh)
 have hs':=hs
 simp only[secB,Bool.and_eq_true,decide_eq_true_eq] at hs'
 refine wf34i z now most s arr si l l.length mi mqr maa mtc mrd mra mop mrc mq man mns mar (fun j e o=>0≤j∧j≤l.length∧BdE e (10000+j.toNat)∧o.length≤10000+j.toNat∧cRun z (s+1) (l.drop j.toNat) (e,o)=cRun z (s+1) l (es,od)) (fun j e o=>(l.length - j).toNat) _ ?_ _ 0 es od ⟨by omega,by omega,he,ho,rfl⟩
 rintro j e o ⟨h0,h1,g1,g2,g3⟩
 unfold r34i
 rw[Va h0 h1 (by omega),IntWalk.i64_in (s+1) (by omega)]
 by_cases hj:j < l.length
 ·have hok:=J0j hall h0 hj
  rw[U9 (l:=l) (k:=j.toNat) (by omega) (Ty.dflt RR)] at g3
  generalize l.getD j.toNat (Ty.dflt RR)=x at *
  have g4:cRun z (s+1) (l.drop (j+1).toNat) (X09 z (s+1) (e,o) x)=cRun z (s+1) l (es,od):=by rw[show (j+1).toNat=j.toNat+1 by omega];exact g3
  obtain⟨g5,g6⟩:=J20 (z:=z) (sec:=s+1) (r:=x) (a:=(e,o)) g1 g2
  rw[show 10000+j.toNat+1=10000+(j+1).toNat by omega] at g5 g6
  have hgo:∀ a:ES×List QQt,X09 z (s+1) (e,o) x=a→BdE a.1 (10000+(j+1).toNat)∧a.2.length≤10000+(j+1).toNat∧cRun z (s+1) (l.drop (j+1).toNat) a=cRun z (s+1) l (es,od):=fun a ha=>by subst ha;exact⟨g5,g6,g4⟩
  clear g3 g4 g5 g6
  refine Tr.all_t (J0 hj) (Tr.all_t (J0 h0) (Tr.all_t (J0 hj) (Tr.all_t (by rw[hok,hz];rfl) (Tr.all_br (fun c=>?_) fun c=>?_))))
  ·have c:inV z x=false:=by simpa using c
   have:=hgo (e,o) (by simp only[X09,c,cond_false])
   exact Tr.all_ret (.inr ⟨_,_,_,rfl,⟨by omega,by omega,this⟩,by omega⟩)
  ·have c:inV z x=true:=by simpa using c
   refine Tr.all_br (fun c2=>?_) fun c2=>?_
   ·have:=hgo (putB (keqD QQ) (keyV x) (Z01 (getB (keqD QQ) (0,[]) (keyV x) e).1 (s+1),V01 (getB (keqD QQ) (0,[]) (keyV x) e).1 (s+1) x (getB (keqD QQ) (0,[]) (keyV x) e).2) e,o) (by simp only[X09,c,c2,cond_true])
    have hgl:=V2b g1 (keyV x)
    exact Tr.all_t (keqQ _) (Tr.all_t (Nat.ble_eq_true_of_le (by omega)) (Tr.all_ret (.inr ⟨_,_,_,rfl,⟨by omega,by omega,this⟩,by omega⟩)))
   ·have hq:=J10 (keqQ (keyV x)) ((0:Int),([]:List RRt)) (Z01 0 (s+1),V01 0 (s+1) x []) c2
    have:=hgo (e++[(keyV x,(s+1,[x]))],o++[keyV x]) (by simp only[X09,c,c2,cond_true,cond_false])
    have hv:(Z01 0 (s+1),V01 0 (s+1) x [])=(s+1,[x]):=by simp[Z01,V01]
    have hq:putB (keqD QQ) (keyV x) (Z01 0 (s+1),V01 0 (s+1) x []) (putB (keqD QQ) (keyV x) (0,[]) e)=e++[(keyV x,(s+1,[x]))]:=(J10 (keqQ (keyV x)) _ _ c2).trans (by rw[hv])
    refine Tr.all_t (by rw[c2,keqQ];rfl) (Tr.all_t (V06 (by omega) (by omega)) (Tr.all_t (keqQ _) (Tr.all_ret (.inr ⟨_,_,_,rfl,⟨by omega,by omega,?_⟩,by omega⟩))))
    rw[hq]
    exact this
 ·refine Tr.all_f (V0 hj) (Tr.all_ret (.inl ?_))
  rw[List.drop_eq_nil_of_le (by omega)] at g3
  rw[←g3]
  rfl
theorem Z2a {z:List UInt8} {s:Int} {l:List RRt} {es:ES} {od:List QQt} (h:okF l z []=true) (hs:secB (s+1)=true) (hl:l.length≤1000) (he:BdE es 10000) (ho:od.length≤10000):inC z s l (l.length:Int) 0 es od=true:=by
 unfold inC
 rw[h,hs,Nat.ble_eq_true_of_le hl,Nat.ble_eq_true_of_le ho,List.all_eq_true.2 fun e hh=>Nat.ble_eq_true_of_le (he e hh)]
 simp
def okS3 (z:List UInt8) (l:List RRt):Bool:=okF l z []&&Nat.ble l.length 1000
def outC (z:List UInt8) (arr:List RRt×(List RRt×List RRt)) (si:Int) (es:ES) (od:List QQt):Bool:=decide (si=0)&&((es.isEmpty&&od.isEmpty)&&(okS3 z arr.1&&(okS3 z arr.2.1&&okS3 z arr.2.2)))
def cAll (z:List UInt8) (arr:List RRt×(List RRt×List RRt)):ES×List QQt:=cRun z 3 arr.2.2 (cRun z 2 arr.2.1 (cRun z 1 arr.1 ([],[])))
noncomputable def b34o:Code:=U8 c34 0
def V2z:LoopSpec:={ bid:=0,sh:=[.d .str false,.d (.int .u64) false,.d (.int .u32) false,.ptr 0 0,.mp 1,.row 2,.d (.pair (.list RR) (.pair (.list RR) (.list RR))) true,.d (.int .i64) false],so:=[.box [.d (.int .u16) false,.d .bool false,.d .bool false,.d .bool false,.d .bool false,.d .bool false,.d (.int .i64) false,.d (.int .i64) false,.d (.list QQ) false,.d (.list RR) false,.d (.list RR) false,.d (.list RR) false],.mapb QQ .i64 RR,.row QQ],F:=fun(z,now,most,arr,si,_) ((mi,mqr,maa,mtc,mrd,mra,mop,mrc,mq,man,mns,mar,_),es,od,_)=>.on (outC z arr si es od) (.exit 0,[.int .u64 now,.int .u32 most,.ptr 0 0,.mp 1,.rowA 2],[.box [.int .u16 mi,.bool mqr,.bool maa,.bool mtc,.bool mrd,.bool mra,.int .i64 mop,.int .i64 mrc,.list QQ mq,.list RR man,.list RR mns,.list RR mar],.mpb QQ .i64 RR (cAll z arr).1 none,.row QQ (cAll z arr).2]) }
def r34o (z:List UInt8) (now most:Int) (arr:(List RRt×(List RRt×List RRt))) (si mi:Int) (mqr maa mtc mrd mra:Bool) (mop mrc:Int) (mq:List QQt) (man mns mar:List RRt) (es:List (QQt×(Int×List RRt))) (od:List QQt):Tr (St⊕(Ex×St)):=.br (decide (si < 3)) (.br (decide (si=(↑0:Int))) (.br (inC z si arr.1 (↑arr.1.length:Int) 0 es od) (.ret (.inl (stOf [1,2,3,4,9,10,28,29] [.str z,.int .u64 now,.int .u32 most,.ptr 0 0,.mp 1,.rowA 2,.agg [.list RR arr.1,.list RR arr.2.1,.list RR arr.2.2],.int .i64 (IntKind.wrap .i64 (si+1))] [.boxT none [.int .u16 mi,.bool mqr,.bool maa,.bool mtc,.bool mrd,.bool mra,.int .i64 mop,.int .i64 mrc,.list QQ mq,.list RR man,.list RR mns,.list RR mar],LObj.mpb QQ IntKind.i64 RR (cRun z (si+1) arr.1 (es,od)).1 none,.row QQ (cRun z (si+1) arr.1 (es,od)).2]))) .no) (.br (decide (si=(↑(0+1):Int))) (.br (inC z si arr.2.1 (↑arr.2.1.length:Int) 0 es od) (.ret (.inl (stOf [1,2,3,4,9,10,28,29] [.str z,.int .u64 now,.int .u32 most,.ptr 0 0,.mp 1,.rowA 2,.agg [.list RR arr.1,.list RR arr.2.1,.list RR arr.2.2],.int .i64 (IntKind.wrap .i64 (si+1))] [.boxT none [.int .u16 mi,.bool mqr,.bool maa,.bool mtc,.bool mrd,.bool mra,.int .i64 mop,.int .i64 mrc,.list QQ mq,.list RR man,.list RR mns,.list RR mar],LObj.mpb QQ IntKind.i64 RR (cRun z (si+1) arr.2.1 (es,od)).1 none,.row QQ (cRun z (si+1) arr.2.1 (es,od)).2]))) .no) (.br (decide (si=(↑(0+1+1):Int))) (.br (inC z si arr.2.2 (↑arr.2.2.length:Int) 0 es od) (.ret (.inl (stOf [1,2,3,4,9,10,28,29] [.str z,.int .u64 now,.int .u32 most,.ptr 0 0,.mp 1,.rowA 2,.agg [.list RR arr.1,.list RR arr.2.1,.list RR arr.2.2],.int .i64 (IntKind.wrap .i64 (si+1))] [.boxT none [.int .u16 mi,.bool mqr,.bool maa,.bool mtc,.bool mrd,.bool mra,.int .i64 mop,.int .i64 mrc,.list QQ mq,.list RR man,.list RR mns,.list RR mar],LObj.mpb QQ IntKind.i64 RR (cRun z (si+1) arr.2.2 (es,od)).1 none,.row QQ (cRun z (si+1) arr.2.2 (es,od)).2]))) .no) .no))) (.ret (.inr (.exit 0,stOf [2,3,4,9,10] [.int .u64 now,.int .u32 most,.ptr 0 0,.mp 1,.rowA 2] [.boxT none [.int .u16 mi,.bool mqr,.bool maa,.bool mtc,.bool mrd,.bool mra,.int .i64 mop,.int .i64 mrc,.list QQ mq,.list RR man,.list RR mns,.list RR mar],LObj.mpb QQ IntKind.i64 RR es none,.row QQ od])))
theorem J32 (z:List UInt8) (now most:Int) (arr:(List RRt×(List RRt×List RRt))) (si mi:Int) (mqr maa mtc mrd mra:Bool) (mop mrc:Int) (mq:List QQt) (man mns mar:List RRt) (es:List (QQt×(Int×List RRt))) (od:List QQt):evC TQ (orcB [Xg,Xi,Vl,Zm,Xl] [Ul,Xm]) (lpOf h34 0 (lsOf [Z2z])) b34o 0 (stOf [1,2,3,4,9,10,28,29] [.str z,.int .u64 now,.int .u32 most,.ptr 0 0,.mp 1,.rowA 2,AV.ofTy (.pair (.list RR) (.pair (.list RR) (.list RR))) arr true,.int .i64 si] [.box [.int .u16 mi,.bool mqr,.bool maa,.bool mtc,.bool mrd,.bool mra,.int .i64 mop,.int .i64 mrc,.list QQ mq,.list RR man,.list RR mns,.list RR mar],.mpb QQ .i64 RR es none,.row QQ od]) (U1 [1,2,3,4,9,10,28,29] [2,3,4,9,10] 0)=(r34o z now most arr si mi mqr maa mtc mrd mra mop mrc mq man mns mar es od).get:=by kernel_rfl
theorem wf34o (z:List UInt8) (now most:Int) (arr:(List RRt×(List RRt×List RRt))) (mi:Int) (mqr maa mtc mrd mra:Bool) (mop mrc:Int) (mq:List QQt) (man mns mar:List RRt) (I'':Int→List (QQt×(Int×List RRt))→List QQt→Prop) (m'':Int→List (QQt×(Int×List RRt))→List QQt→Nat) (r'':Ex×St) (h:∀ (si:Int) (es:List (QQt×(Int×List RRt))) (od:List QQt),I'' si es od→(r34o z now most arr si mi mqr maa mtc mrd mra mop mrc mq man mns mar es od).all fun x''=>x''=.inr r''∨∃ (si':Int) (es':List (QQt×(Int×List RRt))) (od':List QQt),x''=.inl (stOf [1,2,3,4,9,10,28,29] [.str z,.int .u64 now,.int .u32 most,.ptr 0 0,.mp 1,.rowA 2,AV.ofTy (.pair (.list RR) (.pair (.list RR) (.list RR))) arr true,.int .i64 si'] [.box [.int .u16 mi,.bool mqr,.bool maa,.bool mtc,.bool mrd,.bool mra,.int .i64 mop,.int .i64 mrc,.list QQ mq,.list RR man,.list RR mns,.list RR mar],.mpb QQ .i64 RR es' none,.row QQ od'])∧I'' si' es' od'∧m'' si' es' od' < m'' si es od) (q'':Nat) (hq'':1≤q'') (si:Int) (es:List (QQt×(Int×List RRt))) (od:List QQt):I'' si es od→
    Z4 (fun st=>evC TQ (orcB [Xg,Xi,Vl,Zm,Xl] [Ul,Xm]) (lpN TQ (orcB [Xg,Xi,Vl,Zm,Xl] [Ul,Xm]) h34 0 q'') b34o 0 st (U1 [1,2,3,4,9,10,28,29] [2,3,4,9,10] 0)) (stOf [1,2,3,4,9,10,28,29] [.str z,.int .u64 now,.int .u32 most,.ptr 0 0,.mp 1,.rowA 2,AV.ofTy (.pair (.list RR) (.pair (.list RR) (.list RR))) arr true,.int .i64 si] [.box [.int .u16 mi,.bool mqr,.bool maa,.bool mtc,.bool mrd,.bool mra,.int .i64 mop,.int .i64 mrc,.list QQ mq,.list RR man,.list RR mns,.list RR mar],.mpb QQ .i64 RR es none,.row QQ od])=some r'':=
 Za (fun a'':Int×List (QQt×(Int×List RRt))×List QQt=>stOf [1,2,3,4,9,10,28,29] [.str z,.int .u64 now,.int .u32 most,.ptr 0 0,.mp 1,.rowA 2,AV.ofTy (.pair (.list RR) (.pair (.list RR) (.list RR))) arr true,.int .i64 a''.1] [.box [.int .u16 mi,.bool mqr,.bool maa,.bool mtc,.bool mrd,.bool mra,.int .i64 mop,.int .i64 mrc,.list QQ mq,.list RR man,.list RR mns,.list RR mar],.mpb QQ .i64 RR a''.2.1 none,.row QQ a''.2.2]) (fun a''=>I'' a''.1 a''.2.1 a''.2.2) (fun a''=>m'' a''.1 a''.2.1 a''.2.2) r'' (fun a''=>r34o z now most arr a''.1 mi mqr maa mtc mrd mra mop mrc mq man mns mar a''.2.1 a''.2.2)
  (fun a'' x hx=>J1y (d:=0) (S:=lsOf [Z2z]) (U2r (xs:=[(2,b34i)]) (by kernel_rfl) (all_cons (Ja Z39) Z0)) (by omega) ((J32 z now most arr a''.1 mi mqr maa mtc mrd mra mop mrc mq man mns mar a''.2.1 a''.2.2).trans hx)) (fun a'' ha=>Tr.all_mono (fun x'' hx=>hx.imp id fun⟨si',es',od',h1,h2,h3⟩=>⟨(si',es',od'),h1,h2,h3⟩) (h (a''.1) (a''.2.1) (a''.2.2) ha)) (si,es,od)
theorem X3f:V2z.Ok TQ (orcB [Xg,Xi,Vl,Zm,Xl] [Ul,Xm]) h34 0 1 b34o:=by
 intro q'' hq'' x'' y'' r'' h
 obtain⟨(z:List UInt8),(now:Int),(most:Int),(arr:(List RRt×(List RRt×List RRt))),(si:Int),_⟩:=x''
 obtain⟨⟨(mi:Int),(mqr:Bool),(maa:Bool),(mtc:Bool),(mrd:Bool),(mra:Bool),(mop:Int),(mrc:Int),(mq:List QQt),(man:List RRt),(mns:List RRt),(mar:List RRt),_⟩,(es:List (QQt×(Int×List RRt))),(od:List QQt),_⟩:=y''
 obtain⟨hc,rfl⟩:=Tr.get_on h
 show Z4 (fun st=>evC TQ (orcB [Xg,Xi,Vl,Zm,Xl] [Ul,Xm]) (lpN TQ (orcB [Xg,Xi,Vl,Zm,Xl] [Ul,Xm]) h34 0 q'') b34o 0 st (U1 [1,2,3,4,9,10,28,29] [2,3,4,9,10] 0)) (stOf [1,2,3,4,9,10,28,29] [.str z,.int .u64 now,.int .u32 most,.ptr 0 0,.mp 1,.rowA 2,AV.ofTy (.pair (.list RR) (.pair (.list RR) (.list RR))) arr true,.int .i64 si] [.box [.int .u16 mi,.bool mqr,.bool maa,.bool mtc,.bool mrd,.bool mra,.int .i64 mop,.int .i64 mrc,.list QQ mq,.list RR man,.list RR mns,.list RR mar],.mpb QQ .i64 RR es none,.row QQ od])=some (.exit 0,stOf [2,3,4,9,10] ([.int .u64 now,.int .u32 most,.ptr 0 0,.mp 1,.rowA 2]) ([.box [.int .u16 mi,.bool mqr,.bool maa,.bool mtc,.bool mrd,.bool mra,.int .i64 mop,.int .i64 mrc,.list QQ mq,.list RR man,.list RR mns,.list RR mar],.mpb QQ .i64 RR (cAll z arr).1 none,.row QQ (cAll z arr).2]))
 simp only[outC,okS3,Bool.and_eq_true,decide_eq_true_eq,List.isEmpty_iff] at hc
 obtain⟨rfl,⟨rfl,rfl⟩,⟨a1,a2⟩,⟨b1,b2⟩,c1,c2⟩:=hc
 have a2:=Nat.le_of_ble_eq_true a2
 have b2:=Nat.le_of_ble_eq_true b2
 have c2:=Nat.le_of_ble_eq_true c2
 have e0:BdE ([]:ES) 0:=fun e h=>by cases h
 obtain⟨e1,o1⟩:=Q1l (z:=z) (sec:=1) arr.1 ([],[]) 0 e0 (Nat.le_refl _)
 obtain⟨e2,o2⟩:=Q1l (z:=z) (sec:=2) arr.2.1 (cRun z 1 arr.1 ([],[])) _ e1 o1
 have up:∀ (es:ES) (B:Nat),BdE es B→B≤10000→BdE es 10000:=fun es B h hB e he=>Nat.le_trans (h e he) hB
 refine wf34o z now most arr mi mqr maa mtc mrd mra mop mrc mq man mns mar (fun si e o=>(si=0∧e=[]∧o=[])∨(si=1∧e=(cRun z 1 arr.1 ([],[])).1∧o=(cRun z 1 arr.1 ([],[])).2)∨(si=2∧e=(cRun z 2 arr.2.1 (cRun z 1 arr.1 ([],[]))).1∧o=(cRun z 2 arr.2.1 (cRun z 1 arr.1 ([],[]))).2)∨(si=3∧e=(cAll z arr).1∧o=(cAll z arr).2)) (fun si e o=>(3 - si).toNat) _ ?_ _ hq'' 0 [] [] (.inl ⟨rfl,rfl,rfl⟩)
 intro si e o h
 unfold r34o
 rw[IntWalk.i64_in (si+1) (by omega)]
 rcases h with ⟨rfl,rfl,rfl⟩ | ⟨rfl,rfl,rfl⟩ | ⟨rfl,rfl,rfl⟩ | ⟨rfl,rfl,rfl⟩
 ·exact Tr.all_t rfl (Tr.all_t rfl (Tr.all_t (Z2a a1 rfl a2 (up _ _ e0 (by omega)) (by simp)) (Tr.all_ret (.inr ⟨_,_,_,rfl,.inr (.inl ⟨rfl,rfl,rfl⟩),by decide⟩))))
 ·exact Tr.all_t rfl (Tr.all_f rfl (Tr.all_t rfl (Tr.all_t (Z2a b1 rfl b2 (up _ _ e1 (by omega)) (by omega)) (Tr.all_ret (.inr ⟨_,_,_,rfl,.inr (.inr (.inl ⟨rfl,rfl,rfl⟩)),by decide⟩)))))
 ·exact Tr.all_t rfl (Tr.all_f rfl (Tr.all_f rfl (Tr.all_t rfl (Tr.all_t (Z2a c1 rfl c2 (up _ _ e2 (by omega)) (by omega)) (Tr.all_ret (.inr ⟨_,_,_,rfl,.inr (.inr (.inr ⟨rfl,rfl,rfl⟩)),by decide⟩))))))
 ·exact Tr.all_f rfl (Tr.all_ret (.inl rfl))
abbrev EN:Ty:=.pair QQ (.pair (.list RR) (.pair (.int .i64) (.pair (.int .i64) (.int .u64))))
abbrev ENt:=QQt×(List RRt×(Int×(Int×Int)))
def entV (now most:Int) (aa:Bool) (e:QQt×(Int×List RRt)):ENt:=(e.1,(U2v e.2.2 (Vy e.2.2 most),(0,(J2d e.2.1 aa,Z0z now (Vy e.2.2 most)))))
def entQ (now most:Int) (aa:Bool) (es:ES) (q:QQt):ENt:=entV now most aa (q,getB (keqD QQ) (0,[]) q es)
theorem U2n {q:QQt} {es:ES} (h:hasB (keqD QQ) q es=true):putB (keqD QQ) q (getB (keqD QQ) (0,[]) q es) es=es:=by
 obtain⟨n,e,h1,_,h3,h4⟩:=J0k h
 rw[h4]
 unfold getB
 rw[h3]
 obtain⟨hn,rfl⟩:=List.getElem?_eq_some_iff.1 h1
 exact List.set_getElem_self hn
def entB (most:Int) (e:Int×List RRt):Bool:=lrB e.2&&(secB e.1&&u32B (Vy e.2 most))
def enC (es:ES) (od:List QQt) (out:List ENt) (now most n i:Int):Bool:=decide (n=(od.length:Int))&&(decide (i=0)&&(Nat.ble od.length 100000&&(out.isEmpty&&(u64B now&&od.all fun q=>hasB (keqD QQ) q es&&entB most (getB (keqD QQ) (0,[]) q es)))))
noncomputable def b34e:Code:=U8 c34 1
def X2s:LoopSpec:={ bid:=4,sh:=[.d (.int .u64) false,.d (.int .u32) false,.ptr 0 0,.mp 1,.row 2,.row 3,.d (.int .i64) false,.d (.int .i64) false],so:=[.box [.d (.int .u16) false,.d .bool false,.d .bool false,.d .bool false,.d .bool false,.d .bool false,.d (.int .i64) false,.d (.int .i64) false,.d (.list QQ) false,.d (.list RR) false,.d (.list RR) false,.d (.list RR) false],.mapb QQ .i64 RR,.row EN,.row QQ],F:=fun(now,most,n,i,_) ((mi,mqr,maa,mtc,mrd,mra,mop,mrc,mq,man,mns,mar,_),es,out,od,_)=>.on (enC es od out now most n i) (.exit 4,[.rowA 0],[.row EN (od.map (entQ now most maa es))]) }
def r34e (now most n i mi:Int) (mqr maa mtc mrd mra:Bool) (mop mrc:Int) (mq:List QQt) (man mns mar:List RRt) (es:List (QQt×(Int×List RRt))) (out:List ENt) (od:List QQt):Tr (St⊕(Ex×St)):=.br (decide (i < n)) (.br (decide (0≤i)) (.br (decide (i < (↑od.length:Int))) (.br (hasB (keqD QQ) (od.getD i.toNat (Ty.dflt QQ)) es) (.br (lrB (getB (keqD QQ) (0,[]) (od.getD i.toNat (Ty.dflt QQ)) es).2) (.br (lrB (getB (keqD QQ) (0,[]) (od.getD i.toNat (Ty.dflt QQ)) es).2) (.br (secB (getB (keqD QQ) (0,[]) (od.getD i.toNat (Ty.dflt QQ)) es).1) (.br (u64B now&&u32B (Vy (getB (keqD QQ) (0,[]) (od.getD i.toNat (Ty.dflt QQ)) es).2 most)) (.br (fits (List.length out+1) 72) (.ret (.inl (stOf [2,3,4,9,16,66,67,68] [.int .u64 now,.int .u32 most,.ptr 0 0,.mp 1,.rowA 2,.rowA 3,.int .i64 n,.int .i64 (IntKind.wrap .i64 (i+1))] [.boxT none [.int .u16 mi,.bool mqr,.bool maa,.bool mtc,.bool mrd,.bool mra,.int .i64 mop,.int .i64 mrc,.list QQ mq,.list RR man,.list RR mns,.list RR mar],LObj.mpb QQ IntKind.i64 RR (putB (keqD QQ) (od.getD i.toNat (Ty.dflt QQ)) (getB (keqD QQ) (0,[]) (od.getD i.toNat (Ty.dflt QQ)) es) es) none,.row EN (out++[(od.getD i.toNat (Ty.dflt QQ),U2v (getB (keqD QQ) (0,[]) (od.getD i.toNat (Ty.dflt QQ)) es).2 (Vy (getB (keqD QQ) (0,[]) (od.getD i.toNat (Ty.dflt QQ)) es).2 most),0,J2d (getB (keqD QQ) (0,[]) (od.getD i.toNat (Ty.dflt QQ)) es).1 maa,Z0z now (Vy (getB (keqD QQ) (0,[]) (od.getD i.toNat (Ty.dflt QQ)) es).2 most))]),.row QQ od]))) .no) .no) .no) .no) .no) .no) .no) .no) (.ret (.inr (.exit 4,stOf [16] [.rowA 0] [.row EN out])))
theorem Z2s (lp:Lp) (now most n i mi:Int) (mqr maa mtc mrd mra:Bool) (mop mrc:Int) (mq:List QQt) (man mns mar:List RRt) (es:List (QQt×(Int×List RRt))) (out:List ENt) (od:List QQt):evC TQ (orcB [Xg,Xi,Vl,Zm,Xl] [Ul,Xm]) lp b34e 4 (stOf [2,3,4,9,16,66,67,68] [.int .u64 now,.int .u32 most,.ptr 0 0,.mp 1,.rowA 2,.rowA 3,.int .i64 n,.int .i64 i] [.box [.int .u16 mi,.bool mqr,.bool maa,.bool mtc,.bool mrd,.bool mra,.int .i64 mop,.int .i64 mrc,.list QQ mq,.list RR man,.list RR mns,.list RR mar],.mpb QQ .i64 RR es none,.row EN out,.row QQ od]) (U1 [2,3,4,9,16,66,67,68] [16] 0)=(r34e now most n i mi mqr maa mtc mrd mra mop mrc mq man mns mar es out od).get:=by kernel_rfl
theorem wf34e (now most n mi:Int) (mqr maa mtc mrd mra:Bool) (mop mrc:Int) (mq:List QQt) (man mns mar:List RRt) (es:List (QQt×(Int×List RRt))) (od:List QQt) (I'':Int→List ENt→Prop) (m'':Int→List ENt→Nat) (r'':Ex×St) (h:∀ (i:Int) (out:List ENt),I'' i out→(r34e now most n i mi mqr maa mtc mrd mra mop mrc mq man mns mar es out od).all fun x''=>x''=.inr r''∨∃ (i':Int) (out':List ENt),x''=.inl (stOf [2,3,4,9,16,66,67,68] [.int .u64 now,.int .u32 most,.ptr 0 0,.mp 1,.rowA 2,.rowA 3,.int .i64 n,.int .i64 i'] [.box [.int .u16 mi,.bool mqr,.bool maa,.bool mtc,.bool mrd,.bool mra,.int .i64 mop,.int .i64 mrc,.list QQ mq,.list RR man,.list RR mns,.list RR mar],.mpb QQ .i64 RR es none,.row EN out',.row QQ od])∧I'' i' out'∧m'' i' out' < m'' i out) (lp:Lp) (i:Int) (out:List ENt):I'' i out→
    Z4 (fun st=>evC TQ (orcB [Xg,Xi,Vl,Zm,Xl] [Ul,Xm]) lp b34e 4 st (U1 [2,3,4,9,16,66,67,68] [16] 0)) (stOf [2,3,4,9,16,66,67,68] [.int .u64 now,.int .u32 most,.ptr 0 0,.mp 1,.rowA 2,.rowA 3,.int .i64 n,.int .i64 i] [.box [.int .u16 mi,.bool mqr,.bool maa,.bool mtc,.bool mrd,.bool mra,.int .i64 mop,.int .i64 mrc,.list QQ mq,.list RR man,.list RR mns,.list RR mar],.mpb QQ .i64 RR es none,.row EN out,.row QQ od])=some r'':=
 Za (fun a'':Int×List ENt=>stOf [2,3,4,9,16,66,67,68] [.int .u64 now,.int .u32 most,.ptr 0 0,.mp 1,.rowA 2,.rowA 3,.int .i64 n,.int .i64 a''.1] [.box [.int .u16 mi,.bool mqr,.bool maa,.bool mtc,.bool mrd,.bool mra,.int .i64 mop,.int .i64 mrc,.list QQ mq,.list RR man,.list RR mns,.list RR mar],.mpb QQ .i64 RR es none,.row EN a''.2,.row QQ od]) (fun a''=>I'' a''.1 a''.2) (fun a''=>m'' a''.1 a''.2) r'' (fun a''=>r34e now most n a''.1 mi mqr maa mtc mrd mra mop mrc mq man mns mar es a''.2 od)
  (fun a'' x hx=>(Z2s lp now most n a''.1 mi mqr maa mtc mrd mra mop mrc mq man mns mar es a''.2 od).trans hx) (fun a'' ha=>Tr.all_mono (fun x'' hx=>hx.imp id fun⟨i',out',h1,h2,h3⟩=>⟨(i',out'),h1,h2,h3⟩) (h (a''.1) (a''.2) ha)) (i,out)
theorem J3d:X2s.Ok TQ (orcB [Xg,Xi,Vl,Zm,Xl] [Ul,Xm]) h34 0 0 b34e:=by
 intro q'' hq'' x'' y'' r'' h
 obtain⟨(now:Int),(most:Int),(n:Int),(i:Int),_⟩:=x''
 obtain⟨⟨(mi:Int),(mqr:Bool),(maa:Bool),(mtc:Bool),(mrd:Bool),(mra:Bool),(mop:Int),(mrc:Int),(mq:List QQt),(man:List RRt),(mns:List RRt),(mar:List RRt),_⟩,(es:List (QQt×(Int×List RRt))),(out:List ENt),(od:List QQt),_⟩:=y''
 obtain⟨hc,rfl⟩:=Tr.get_on h
 show Z4 (fun st=>evC TQ (orcB [Xg,Xi,Vl,Zm,Xl] [Ul,Xm]) (lpN TQ (orcB [Xg,Xi,Vl,Zm,Xl] [Ul,Xm]) h34 0 q'') b34e 4 st (U1 [2,3,4,9,16,66,67,68] [16] 0)) (stOf [2,3,4,9,16,66,67,68] [.int .u64 now,.int .u32 most,.ptr 0 0,.mp 1,.rowA 2,.rowA 3,.int .i64 n,.int .i64 i] [.box [.int .u16 mi,.bool mqr,.bool maa,.bool mtc,.bool mrd,.bool mra,.int .i64 mop,.int .i64 mrc,.list QQ mq,.list RR man,.list RR mns,.list RR mar],.mpb QQ .i64 RR es none,.row EN out,.row QQ od])=some (.exit 4,stOf [16] ([.rowA 0]) ([.row EN (od.map (entQ now most maa es))]))
 simp only[enC,Bool.and_eq_true,decide_eq_true_eq,List.isEmpty_iff] at hc
 obtain⟨rfl,rfl,hl,rfl,hn,hall⟩:=hc
 have hl:=Nat.le_of_ble_eq_true hl
 refine wf34e now most od.length mi mqr maa mtc mrd mra mop mrc mq man mns mar es od (fun j o=>0≤j∧j≤od.length∧o.length=j.toNat∧o++(od.drop j.toNat).map (entQ now most maa es)=od.map (entQ now most maa es)) (fun j o=>(od.length - j).toNat) _ ?_ _ 0 [] ⟨by omega,by omega,rfl,rfl⟩
 rintro j o ⟨h0,h1,g1,g2⟩
 unfold r34e
 rw[Va h0 h1 (by omega)]
 by_cases hj:j < od.length
 ·have hx:(od.getD j.toNat (Ty.dflt QQ))∈od:=by
   rw[List.getD_eq_getElem?_getD,List.getElem?_eq_getElem (by omega)]
   exact List.getElem_mem _
  obtain⟨c1,c2⟩:=Bool.and_eq_true_iff.1 (List.all_eq_true.1 hall _ hx)
  simp only[entB,Bool.and_eq_true] at c2
  obtain⟨d1,d2,d3⟩:=c2
  rw[U9 (l:=od) (k:=j.toNat) (by omega) (Ty.dflt QQ)] at g2
  generalize od.getD j.toNat (Ty.dflt QQ)=x at *
  rw[U2n c1]
  refine Tr.all_t (J0 hj) (Tr.all_t (J0 h0) (Tr.all_t (J0 hj) (Tr.all_t c1 (Tr.all_t d1 (Tr.all_t d1 (Tr.all_t d2 (Tr.all_t (by rw[hn,d3];rfl) (Tr.all_t (V06 (by omega) (by omega)) (Tr.all_ret (.inr ⟨_,_,rfl,⟨by omega,by omega,by rw[List.length_append,List.length_singleton];omega,?_⟩,by omega⟩))))))))))
  rw[show (j+1).toNat=j.toNat+1 by omega,List.append_assoc]
  exact g2
 ·refine Tr.all_f (V0 hj) (Tr.all_ret (.inl ?_))
  rw[List.drop_eq_nil_of_le (by omega)] at g2
  simp only[List.map_nil,List.append_nil] at g2
  rw[g2]
def t34 (m:MGt) (z:List UInt8) (now most:Int):Tr Res:=.br (outC z m.2.2.2.2.2.2.2.2.2 0 [] []) (.br (enC (cAll z m.2.2.2.2.2.2.2.2.2).1 (cAll z m.2.2.2.2.2.2.2.2.2).2 [] now most (↑(List.length (cAll z m.2.2.2.2.2.2.2.2.2).2):Int) 0) (.ret ([.list EN (List.map (entQ now most m.2.2.1 (cAll z m.2.2.2.2.2.2.2.2.2).1) (cAll z m.2.2.2.2.2.2.2.2.2).2)],[])) .no) .no
def os34:OSpec:={ f:=34,sh:=[.d MG true,.d .str false,.d (.int .u64) false,.d (.int .u32) false],so:=[],F:=fun(m,z,now,most,_) _=>t34 m z now most }
theorem fn34 (m:MGt) (z:List UInt8) (now most:Int):evC TQ (orcB [Xg,Xi,Vl,Zm,Xl] [Ul,Xm]) (lpOf h34 0 (lsOf [V2z,X2s])) c34 1000000 (X1 [AV.ofTy MG m true,.str z,.int .u64 now,.int .u32 most] [] Try.f34.ntmps) (Q0 TQ false 0 Try.f34)=(t34 m z now most).get:=by kernel_rfl
theorem ok34:os34.Ok Try.prog:=by
 refine V4 U2 tabQ (U0 (all_cons Z1m (all_cons Z23 (all_cons U3l (all_cons Q3q (all_cons J3o Z0))))) (all_cons ok60w (all_cons ok62w Z0))) h34 (d:=1) (n0:=0) (S:=lsOf [V2z,X2s]) Try.func34 (by kernel_rfl) (c:=c34) (by kernel_rfl) rfl (Q9 (xs:=[(0,b34o),(4,b34e)]) (by kernel_rfl) (all_cons (Ja X3f) (all_cons (J2b (by kernel_rfl) (Ja (X3c (by omega) J3d))) Z0))) (by omega) (by kernel_rfl) ?_
 intro x'' y'' q'' hq''
 obtain⟨(m:MGt),(z:List UInt8),(now:Int),(most:Int),_⟩:=x''
 exact(fn34 m z now most).trans hq''
def fs34:FSpec:=fsT 34 [(MG,true),(.str,false),((.int .u64),false),((.int .u32),false)] [((.list EN),false)] fun(m,z,now,most,_)=>t34 m z now most
theorem okf34:fs34.Ok Try.prog:=X6 fun x'' r'' hr''=>ok34 x'' () r'' hr''
def t33:Tr Res:=.ret ([.bool (Jh (0,true,true,false,false,false,0,0,[],[([2,120,121,0],1,1,9,[49,50,51,52])],[],[]) (keyV ([2,120,121,0],1,1,9,[49,50,51,52])) ([0])==1)],[])
def os33:OSpec:={ f:=33,sh:=[],so:=[],F:=fun _ _=>t33 }
theorem fn33:evC T0 (orcB [fs34,J2c,Xi] []) (lpOf h33 0 (lsOf [])) c33 1000000 (X1 [] [] Try.f33.ntmps) (Q0 T0 false 0 Try.f33)=(t33).get:=by kernel_rfl
theorem ok33:os33.Ok Try.prog:=by
 refine V4 U2 tab0 (U0 (all_cons okf34 (all_cons Q23 (all_cons Z23 Z0))) Z0) h33 (d:=0) (n0:=0) (S:=lsOf []) Try.func33 (by kernel_rfl) (c:=c33) (by kernel_rfl) rfl (V2 (by kernel_rfl)) (by omega) (by kernel_rfl) ?_
 intro x'' y'' q'' hq''
 exact(fn33).trans hq''
def fs33:FSpec:=fsT 33 [] [(.bool,false)] fun _=>t33
theorem okf33:fs33.Ok Try.prog:=X6 fun x'' r'' hr''=>ok33 x'' () r'' hr''
theorem X3e:t33=.ret ([.bool true],[]):=by kernel_rfl
def Q3h:FSpec:=fs33.like fun _=>.ret (true,())
theorem V3s:Q3h.Ok Try.prog:=by
 refine Q3 okf33 _ ?_
 intro x y h
 cases h
 refine J3 (vs:=[.bool true]) rfl rfl (Tr.get_of_all ?_)
 show t33.all _
 rw[X3e]
 exact Tr.all_ret rfl
def t12 (m:MGt) (q:QQt) (z:List UInt8):Tr Res:=.br (!fewM m) (.ret ([.bool true],[])) (.br (decide ((↑q.1.length:Int) > 300)) (.ret ([.bool true],[])) (.br (decide ((↑z.length:Int) > 300)) (.ret ([.bool true],[])) (.br (okK m q z) (.br (okK m q z) (.br (Jh m q z==2) (.br (bigS (Qk m q z)) (.br (mayV (Qk m q z)) (.br (smN q.1&&smN z) (.ret ([.bool (undV q.1 z)],[])) .no) (.ret ([.bool false],[]))) .no) (.br (Jh m q z==3) (.br (smN (Qk m q z)&&smN z) (.br (undV (Qk m q z) z) (.br (!Qk m q z==z) (.br (smN q.1&&smN (Qk m q z)) (.br (undV q.1 (Qk m q z)) (.br (bigS (Qk m q z)) (.br (bigS z) (.ret ([.bool (decide (depV (Qk m q z) > depV z))],[])) .no) .no) (.ret ([.bool false],[]))) .no) (.ret ([.bool false],[]))) (.ret ([.bool false],[]))) .no) (.br (Qk m q z==[]) (.br (decide (Jh m q z≥0)) (.br (decide (Jh m q z≤5)) (.br (Jh m q z==0) (.ret ([.bool true],[])) (.br (smN q.1&&smN z) (.ret ([.bool (undV q.1 z)],[])) .no)) (.ret ([.bool false],[]))) (.ret ([.bool false],[]))) (.ret ([.bool false],[]))))) .no) .no)))
def os12:OSpec:={ f:=12,sh:=[.d MG true,.d QQ true,.d .str false],so:=[],F:=fun(m,q,z,_) _=>t12 m q z }
theorem fn12 (m:MGt) (q:QQt) (z:List UInt8):evC T0 (orcB [Q3h,Z3g,J2c,J3j,Z0f,U1y,Q3i] []) (lpOf h12 0 (lsOf [])) c12 1000000 (X1 [AV.ofTy MG m true,AV.ofTy QQ q true,.str z] [] Try.f12.ntmps) (Q0 T0 false 0 Try.f12)=(t12 m q z).get:=by kernel_rfl
theorem ok12:os12.Ok Try.prog:=by
 refine V4 U2 tab0 (U0 (all_cons V3s (all_cons Z3n (all_cons Q23 (all_cons U3r (all_cons U05 (all_cons Q1n (all_cons Z3s Z0))))))) Z0) h12 (d:=0) (n0:=0) (S:=lsOf []) Try.func12 (by kernel_rfl) (c:=c12) (by kernel_rfl) rfl (V2 (by kernel_rfl)) (by omega) (by kernel_rfl) ?_
 intro x'' y'' q'' hq''
 obtain⟨(m:MGt),(q:QQt),(z:List UInt8),_⟩:=x''
 exact(fn12 m q z).trans hq''
theorem Z3c {n z:List UInt8} (h:undV n z=true) (hne:n≠z):depV n > depV z:=by
 unfold undV at h
 simp only[Bool.and_eq_true] at h
 obtain⟨hz,hn,hs⟩:=h
 have rn:=(Vq.1 hn).1
 have rz:=(Vq.1 hz).1
 have hs:=(V32 _ n z rfl rn rz).1 hs
 rw[V12 hn,V12 hz]
 have hle:=hs.length_le
 by_cases he:(Qo z).length=(Qo n).length
 ·exact absurd (Z10 rn rz (hs.eq_of_length he).symm) hne
 ·omega
theorem J31 {rs:List RRt} (h:Jw rs=true):∀ r∈rs,r.1.length≤300∧r.2.2.2.2.length≤300:=fun r hr=>by
 have:=List.all_eq_true.1 h r hr
 simpa only[Bool.and_eq_true,decide_eq_true_eq] using this
theorem U2b {m:MGt} (h:fewM m=true):((mAn m).length≤20∧(mNs m).length≤20∧(mAr m).length≤20)∧∀ r,r∈mAn m∨r∈mNs m∨r∈mAr m→r.1.length≤300∧r.2.2.2.2.length≤300:=by
 simp only[fewM,Bool.and_eq_true,decide_eq_true_eq] at h
 obtain⟨_,h1,h2,h3,h4,_⟩:=h
 refine⟨⟨h1,h2,h3⟩,fun r hr=>J31 h4 r ?_⟩
 simp only[List.mem_append]
 rcases hr with hr | hr | hr
 ·exact .inl (.inl hr)
 ·exact .inl (.inr hr)
 ·exact .inr hr
theorem X2z {l:List RRt} (hl:l.length≤1000000) (h:∀ r∈l,r.1.length≤300∧r.2.2.2.2.length≤300):okL l=true:=by
 unfold okL lrB
 rw[Nat.ble_eq_true_of_le hl,List.all_eq_true.2 fun r hr=>J0v.2 ⟨by have:=(h r hr).1;omega,by have:=(h r hr).2;omega⟩]
 rfl
theorem Q0r {n:List UInt8} (h:n.length≤300):smN n=true:=U0u.2 (by omega)
theorem Z2r {l:List RRt} {z n:List UInt8} (h:okL l=true) (hz:z.length≤300) (hn:n.length≤300):okF l z n=true:=by
 unfold okF
 rw[h,Q0r hz,Q0r hn]
 rfl
theorem X3o {m:MGt} {q:QQt} {z:List UInt8} (h:fewM m=true) (hq:q.1.length≤300) (hz:z.length≤300):okK m q z=true:=by
 obtain⟨⟨h1,h2,h3⟩,h4⟩:=U2b h
 unfold okK
 rw[Z2r (X2z (by omega) fun r hr=>h4 r (.inl hr)) hz hq,Z2r (X2z (by omega) fun r hr=>h4 r (.inr (.inl hr))) hz hq]
 rfl
theorem V1s {p:RRt→Bool} {l:List RRt} (h:(fstV p l).2=true):(fstV p l).1∈l∧p (fstV p l).1=true:=by
 unfold fstV at h ⊢
 split at h
 ·rename_i r hr
  exact⟨List.mem_of_find?_eq_some hr,List.find?_some hr⟩
 ·cases h
theorem Q34 {z:List UInt8} {r:RRt} (h:inV z r=true):r.2.2.1=1∧undV r.1 z=true∧recV r=true:=by
 simp only[inV,Bool.and_eq_true,beq_iff_eq] at h
 exact h
def V1b (u tc r0 r3 aa an al rf:Bool):Int:=
 bif !u then 0 else bif tc then 0 else bif r0 then (bif r3 then 0 else bif aa then 4 else 0) else bif an then 1 else bif al then 2 else bif rf then 3 else bif aa then 5 else 0
theorem X0h (m:MGt) (q:QQt) (z:List UInt8):Jh m q z=V1b (undV q.1 z) m.2.2.2.1 (mRc m != 0) (mRc m != 3) m.2.2.1 (cAns m q z).2 (cAls m q z).2 (cRef m q z).2:=rfl
theorem Q3s:∀ u tc r0 r3 aa an al rf:Bool,0≤V1b u tc r0 r3 aa an al rf∧V1b u tc r0 r3 aa an al rf≤5:=by decide
theorem U3m:∀ u tc r0 r3 aa an al rf:Bool,V1b u tc r0 r3 aa an al rf≠0→u=true:=by decide
theorem Q3p:∀ u tc r0 r3 aa an al rf:Bool,V1b u tc r0 r3 aa an al rf=2→al=true:=by decide
theorem Z2y:∀ u tc r0 r3 aa an al rf:Bool,V1b u tc r0 r3 aa an al rf=3→rf=true∧an=false∧al=false∧r0=false:=by decide
theorem Z1z {m:MGt} {q:QQt} {z:List UInt8} (h:Jh m q z≠0):undV q.1 z=true:=U3m _ _ _ _ _ _ _ _ (by rw[X0h] at h;exact h)
theorem X2q (m:MGt) (q:QQt) (z:List UInt8):0≤Jh m q z∧Jh m q z≤5:=by rw[X0h];exact Q3s _ _ _ _ _ _ _ _
theorem Q2s {m:MGt} {q:QQt} {z:List UInt8} (h:Jh m q z=2):(cAls m q z).2=true:=Q3p _ _ _ _ _ _ _ _ (by rw[X0h] at h;exact h)
theorem J28 {m:MGt} {q:QQt} {z:List UInt8} (h:Jh m q z=3):(cRef m q z).2=true:=(Z2y _ _ _ _ _ _ _ _ (by rw[X0h] at h;exact h)).1
theorem acceptLeads_all (m:MGt) (q:QQt) (z:List UInt8):Tr.all (fun r:Res=>r=([.bool true],[])) (t12 m q z):=by
 unfold t12
 refine Tr.all_br (fun _=>Tr.all_ret rfl) fun hf=>Tr.all_br (fun _=>Tr.all_ret rfl) fun hq=>Tr.all_br (fun _=>Tr.all_ret rfl) fun hz=>?_
 have hf:fewM m=true:=by simpa using hf
 have hq:q.1.length≤300:=by have:=of_decide_eq_false hq;omega
 have hz:z.length≤300:=by have:=of_decide_eq_false hz;omega
 have hk:=X3o hf hq hz
 obtain⟨_,h4⟩:=U2b hf
 obtain⟨k0,k5⟩:=X2q m q z
 have hs:(smN q.1&&smN z)=true:=by rw[Q0r hq,Q0r hz];rfl
 refine Tr.all_t hk (Tr.all_t hk (Tr.all_br (fun c=>?_) fun c=>Tr.all_br (fun c2=>?_) fun c2=>?_))
 ·have c':Jh m q z=2:=by simpa using c
  have hu:=Z1z (m:=m) (q:=q) (z:=z) (by omega)
  obtain⟨a1,a2⟩:=V1s (Q2s c')
  have a2:(inV z (cAls m q z).1&&alsP q.1 (cAls m q z).1)=true:=a2
  obtain⟨a2,a3⟩:=Bool.and_eq_true_iff.1 a2
  obtain⟨_,_,a4⟩:=Q34 a2
  have a5:(cAls m q z).1.2.1=5:=by simpa[alsP] using (Bool.and_eq_true_iff.1 a3).2
  have a6:mayR (cAls m q z).1.2.1 (cAls m q z).1.2.2.2.2=true:=(Bool.and_eq_true_iff.1 a4).2
  have a7:X04 (cAls m q z).1.2.1 (cAls m q z).1.2.2.2.2=some (cAls m q z).1.2.2.2.2:=by
   unfold X04
   rw[if_pos a6,if_pos (by rw[a5];exact .inr (.inl rfl))]
  have hn:Qk m q z=(cAls m q z).1.2.2.2.2:=by unfold Qk;rw[c,a7];rfl
  have hl:=(h4 _ (.inl a1)).2
  rw[hn]
  refine Tr.all_t (Qp (by show (cAls m q z).1.2.2.2.2.length≤_;have:(cAls m q z).1.2.2.2.2.length≤300:=hl;omega)) (Tr.all_t (U2o a7).1 (Tr.all_t hs (Tr.all_ret (by rw[hu]))))
 ·have c':Jh m q z=3:=by simpa using c2
  obtain⟨a1,a2⟩:=V1s (J28 c')
  have a2:(inV z (cRef m q z).1&&refP q.1 z (cRef m q z).1)=true:=a2
  obtain⟨a2,a3⟩:=Bool.and_eq_true_iff.1 a2
  obtain⟨_,a4,_⟩:=Q34 a2
  simp only[refP,Bool.and_eq_true,Bool.not_eq_true',beq_eq_false_iff_ne,ne_eq] at a3
  obtain⟨_,a5,a6⟩:=a3
  have hn:Qk m q z=(cRef m q z).1.1:=by unfold Qk;rw[c,c2];rfl
  have hl:(cRef m q z).1.1.length≤300:=(h4 _ (.inr (.inl a1))).1
  rw[hn]
  generalize (cRef m q z).1.1=n at *
  refine Tr.all_t (by rw[Q0r hl,Q0r hz];rfl) (Tr.all_t a4 (Tr.all_t (by simpa using a5) (Tr.all_t (by rw[Q0r hq,Q0r hl];rfl) (Tr.all_t a6 (Tr.all_t (Qp (by omega)) (Tr.all_t (Qp (by omega)) (Tr.all_ret ?_)))))))
  rw[J0 (Z3c a4 a5)]
 ·have hn:Qk m q z=[]:=by unfold Qk;rw[c,c2];rfl
  refine Tr.all_t (by rw[hn];rfl) (Tr.all_t (J0 k0) (Tr.all_t (J0 k5) (Tr.all_br (fun _=>Tr.all_ret rfl) fun c3=>Tr.all_t hs (Tr.all_ret ?_))))
  rw[Z1z (by simpa using c3)]
theorem sem12 (m:MGt) (q:QQt) (z:List UInt8):SemF Try.prog 12 [AV.ofTy MG m true,AV.ofTy QQ q true,.str z] [] [.bool true] []:=
 ok12 (m,q,z,()) () ([.bool true],[]) (Tr.get_of_all (acceptLeads_all m q z))
end Go.Proofs.YtkobjdhbfepkaaaE
namespace Go.Proofs.Ytkobjdhbfepkaaa.acceptLeads
open Go.ChangeShapes Go.WideShapes Go.ChangeAt Go.RowKit Go.Proofs.YtkobjdhbfepkaaaE
open Go.ChangeMaps (open_string shut_string)
set_option linter.unusedVariables false
theorem own : ownKnob Try.prog.godebug = none := by kernel_rfl
theorem laidOut : laidOutB Try.prog = true := by kernel_rfl
set_option maxRecDepth 100000 in
theorem lifted (os : Os) (started : os.Started) (H : Type) (enc : TypeId × Value → H) :
    ReturnsInHanded {} Try.checked os 12 .any (Rows.acceptLeadsSpec.pre6 enc Try.prog Try.f12 Rows.acceptLeadsRow.domain false) (Rows.acceptLeadsSpec.post enc Try.prog Try.f12 false true false false) := by
  refine returnsInHanded_of_change_sized (C := Try.checked) own started (by kernel_rfl) Try.func12
    (ChangeSpec.witness6 (enc := enc) (C := Try.checked) false ⟨#[], #[.agg #[.int .u16 0, .bool false, .bool false, .bool false, .bool false, .bool false, .int .i64 0, .int .i64 0, .slice none 0 0, .slice none 0 0, .slice none 0 0, .slice none 0 0], .agg #[.string ByteArray.empty, .int .u16 0, .int .u16 0], .string ByteArray.empty], []⟩ 8 (by kernel_rfl) (by kernel_rfl) (by kernel_rfl) (by kernel_rfl)) ?_
  intro W base args ds gs before hval0 hW hcnd hsz0 _
  have hsz : ∀ n ∈ DataW.weightsEach Try.prog (Try.f12.params.toList ++ Rows.acceptLeadsSpec.plain.varTypes Try.prog) (ds ++ gs), n ≤ reachBytes := fun n hn => of_decide_eq_true (List.all_eq_true.1 hsz0 n hn)
  have hval : ∀ (j : Nat) t v, Try.f12.params[j]? = some t → args[j]? = some v → Value.okWide Try.prog W .any base t v := hval0
  have hW' := hW
  obtain ⟨p, q, hA0, hV, rfl, hfz, hnd⟩ := hW
  have hA : DataW.TrodAll enc Try.prog W 0 (fun _ => true) true Try.f12.params.toList args.toList ds p := hA0
  rw [Try.params12] at hA hval hsz
  obtain ⟨v0, vs0, d0, ds0, p0, q0, hargs, rfl, rfl, k0, r0⟩ := trodAll_cons hA
  obtain ⟨v1, vs1, d1, ds1, p1, q1, rfl, rfl, rfl, k1, r1⟩ := trodAll_cons r0
  obtain ⟨v2, vs2, d2, ds2, p2, q2, rfl, rfl, rfl, k2, r2⟩ := trodAll_cons r1
  obtain ⟨rfl, rfl, rfl⟩ := trodAll_nil r2
  obtain rfl : args = #[v0, v1, v2] := by cases args; simp_all
  obtain ⟨rfl, rfl⟩ := trodVars_none hV
  have lt0 : ∀ x ∈ p0, x.block < W.heap.size := by obtain ⟨m, hm⟩ := k0; exact DataW.trod_lt m _ _ _ hm
  obtain ⟨x0, e0, w0, b0⟩ := Z0w (n := 8) (τ := (.pair (.int .u16) (.pair .bool (.pair .bool (.pair .bool (.pair .bool (.pair .bool (.pair (.int .i64) (.pair (.int .i64) (.pair (.list (.pair .str (.pair (.int .u16) (.int .u16)))) (.pair (.list (.pair .str (.pair (.int .u16) (.pair (.int .u16) (.pair (.int .u32) .str))))) (.pair (.list (.pair .str (.pair (.int .u16) (.pair (.int .u16) (.pair (.int .u32) .str))))) (.list (.pair .str (.pair (.int .u16) (.pair (.int .u16) (.pair (.int .u32) .str))))))))))))))))) (agg := true) (by kernel_rfl) (hval 0 45 v0 rfl rfl) k0 (fun n hn => hsz n (DataW.weights_mem_each (j := 0) (t := 45) rfl rfl n hn)) (by kernel_rfl)
  have lt1 : ∀ x ∈ p1, x.block < W.heap.size := by obtain ⟨m, hm⟩ := k1; exact DataW.trod_lt m _ _ _ hm
  obtain ⟨x1, e1, w1, b1⟩ := Z0w (n := 8) (τ := (.pair .str (.pair (.int .u16) (.int .u16)))) (agg := true) (by kernel_rfl) (hval 1 52 v1 rfl rfl) k1 (fun n hn => hsz n (DataW.weights_mem_each (j := 1) (t := 52) rfl rfl n hn)) (by kernel_rfl)
  have lt2 : ∀ x ∈ p2, x.block < W.heap.size := by obtain ⟨m, hm⟩ := k2; exact DataW.trod_lt m _ _ _ hm
  obtain ⟨x2, e2, w2, b2⟩ := Z0w (n := 8) (τ := .str) (agg := false) (by kernel_rfl) (hval 2 9 v2 rfl rfl) k2 (fun n hn => hsz n (DataW.weights_mem_each (j := 2) (t := 9) rfl rfl n hn)) (by kernel_rfl)
  clear hA0 hval0 hsz0 hsz
  refine (Q2l ((fun x0 x1 x2 w0 w1 w2 => sem12 x0 x1 x2) x0 x1 x2 w0 w1 w2) W (vs := [v0, v1, v2]) ?_).mono fun e W' ⟨he, bel⟩ => ?_
  · simp only [X0]
    exact ⟨_, _, rfl, e0, ⟨_, _, rfl, e1, ⟨_, _, rfl, e2, rfl⟩⟩⟩
  subst he
  exact ⟨_, rfl, _, _, _, [], _, [], hW', trodAll_mk1 (shut_bool Try.underlying4 _), (trodAll_cons_mk (Below.trod laidOut (by kernel_rfl) (of_decide_eq_true (by kernel_rfl)) k0 bel lt0) (trodAll_cons_mk (Below.trod laidOut (by kernel_rfl) (of_decide_eq_true (by kernel_rfl)) k1 bel lt1) (trodAll_cons_mk (Below.trod laidOut (by kernel_rfl) (of_decide_eq_true (by kernel_rfl)) k2 bel lt2) trodAll_mk0))), rfl, bel.frame _, fun h => by cases h⟩
theorem over : Rows.acceptLeadsRow.holds Try.pinned (OpenSpec.ofChange Rows.acceptLeadsSpec) :=
  OpenClaim.holds_of_wide 12 Try.f12 rfl rfl rfl rfl rfl rfl rfl ⟨rfl, rfl, rfl, rfl, rfl⟩ rfl rfl rfl rfl rfl (by kernel_rfl) Try.func12 (by kernel_rfl)
    (of_decide_eq_true (by kernel_rfl)) (by unfold Func.isWrapper; first | (rw [if_pos (by decide +kernel)]; kernel_rfl) | (rw [if_neg (by decide +kernel)]; exact ⟨rfl, rfl⟩))
    (fun os started H enc _ => lifted os started H enc)
theorem proved : Rows.AcceptLeadsSaid := over
end Go.Proofs.Ytkobjdhbfepkaaa.acceptLeads
namespace Go.Proofs.Ytkobjdhbfepkaaa
/-- The row, under a short name, for the claim. -/
theorem acceptLeads_holds : Rows.AcceptLeadsSaid := acceptLeads.proved
#print axioms acceptLeads_holds
end Go.Proofs.Ytkobjdhbfepkaaa
