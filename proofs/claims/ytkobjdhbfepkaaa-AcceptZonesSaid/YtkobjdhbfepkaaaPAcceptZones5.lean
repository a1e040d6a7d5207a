import Derived.Test.YtkobjdhbfepkaaaPAcceptZones4
import Derived.Test.YtkobjdhbfepkaaaRows
import Derived.WalkKit
import Derived.ProofKit
import Derived.OpenShut
import Derived.ShutString
import Derived.ChangeOld
import Derived.Below
import Derived.Carry
import Derived.SizedLaws
set_option maxRecDepth 1000000
namespace Go.Proofs.YtkobjdhbfepkaaaE
open Go Go.Proofs.YtkobjdhbfepkaaaB
set_option linter.unusedVariables false
set_option linter.unusedSimpArgs false
theorem V3e {n:List UInt8} (h:mayV n=true):undV n n=true:=by
 unfold undV
 rw[h,sufB,if_pos rfl]
 rfl
theorem Q4i {n c:List UInt8} (h:mayV n=true) (h0:n≠[0]) (hu:undV (tlN n) c=true):undV n c=true:=by
 unfold undV at hu ⊢
 rw[Bool.and_eq_true,Bool.and_eq_true] at hu
 rw[hu.1,h,sufB]
 by_cases he:n=c
 ·rw[if_pos he];rfl
 ·rw[if_neg he,dif_neg (by simp[Q2i h,h0]),hu.2.2];rfl
theorem V2k {z:ZNt}:∀ (m:Nat) (n c:List UInt8),n.length=m→undV n z.1=true→cutW z n=some c→c≠z.1∧undV c z.1=true∧undV n c=true∧V0w z c=true:=by
 intro m
 induction m using Nat.strongRecOn with
 | ind m ih=>
   intro n c hm hu hc
   rw[cutW] at hc
   by_cases hq:n=z.1
   ·rw[if_pos hq] at hc;cases hc
   ·obtain⟨s1,s2,s3,s4⟩:=U1z hu hq
    rw[if_neg hq,dif_neg (by simp[s2,s3])] at hc
    cases ht:cutW z (tlN n) with
    | some c'=>
      rw[ht] at hc
      cases hc
      obtain⟨a,b,d,e⟩:=ih (tlN n).length (by have:=J14 s3;omega) (tlN n) c rfl s4 ht
      exact⟨a,b,Q4i s1 s2 d,e⟩
    | none=>
      rw[ht] at hc
      by_cases hb:V0w z n=true
      ·simp only[hb,if_true,Option.some.injEq] at hc
       subst hc
       exact⟨hq,hu,V3e s1,hb⟩
      ·simp only[hb] at hc
       cases hc
theorem Z31 {z:ZNt} {n c:List UInt8} (h:cutV z n=(c,true)):c≠z.1∧undV c z.1=true∧undV n c=true∧ofV z c 2≠[]:=by
 unfold cutV at h
 cases hu:undV n z.1 with
 | false=>rw[hu] at h;cases h
 | true=>
   rw[hu,cond_true] at h
   cases hw:cutW z n with
   | none=>rw[hw] at h;cases h
   | some c'=>
     rw[hw] at h
     simp only[resC,Prod.mk.injEq,and_true] at h
     subst h
     obtain⟨a,b,d,e⟩:=V2k _ n c' rfl hu hw
     refine⟨a,b,d,fun he=>?_⟩
     unfold V0w at e
     rw[he] at e
     cases e
def fmC (rs:List RRt) (i:Int):Bool:=Nat.ble rs.length 1000000&&decide (i=0)
noncomputable def b26:Code:=X4 c26 0
def ls26:LoopSpec:={ bid:=0,sh:=[.ptr 0 0,.row 1,.d (.int .i64) false],so:=[.box [.d (.int .u16) false,.d .bool false,.d .bool false,.d .bool false,.d .bool false,.d .bool false,.d (.int .i64) false,.d (.int .i64) false,.d (.list QQ) false,.d (.list RR) false,.d (.list RR) false,.d (.list RR) false],.row RR],F:=fun(i,_) ((mi,mqr,maa,mtc,mrd,mra,mop,mrc,mq,man,mns,mar,_),rs,_)=>.on2 (fmC rs i) (Uf rs) (.exit 0,[.ptr 0 0,.dead],[.box [.int .u16 mi,.bool mqr,.bool maa,.bool mtc,.bool mrd,.bool mra,.int .i64 mop,.int .i64 mrc,.list QQ mq,.list RR man,.list RR mns,.list RR mar]]) (.ret,[.ptr 0 0,.bool false],[.box [.int .u16 mi,.bool mqr,.bool maa,.bool mtc,.bool mrd,.bool mra,.int .i64 mop,.int .i64 mrc,.list QQ mq,.list RR man,.list RR mns,.list RR mar]]) }
def r26 (i mi:Int) (mqr maa mtc mrd mra:Bool) (mop mrc:Int) (mq:List (List UInt8×(Int×Int))) (man mns mar rs:List (List UInt8×(Int×(Int×(Int×List UInt8))))):Tr (St⊕(Ex×St)):=.br (decide (i < (↑rs.length:Int))) (.br (decide (0≤i)) (.br (decide (i < (↑rs.length:Int))) (.br (decide ((↑(List.length (rs.getD i.toNat (Ty.dflt RR)).1):Int) > 300)) (.ret (.inr (.ret,stOf [1,2] [.ptr 0 0,.bool false] [.boxT none [.int .u16 mi,.bool mqr,.bool maa,.bool mtc,.bool mrd,.bool mra,.int .i64 mop,.int .i64 mrc,.list QQ mq,.list RR man,.list RR mns,.list RR mar]]))) (.br (decide (0≤i)) (.br (decide (i < (↑rs.length:Int))) (.br (decide ((↑(List.length (rs.getD i.toNat (Ty.dflt RR)).2.2.2.2):Int) > 300)) (.ret (.inr (.ret,stOf [1,2] [.ptr 0 0,.bool false] [.boxT none [.int .u16 mi,.bool mqr,.bool maa,.bool mtc,.bool mrd,.bool mra,.int .i64 mop,.int .i64 mrc,.list QQ mq,.list RR man,.list RR mns,.list RR mar]]))) (.ret (.inl (stOf [1,3,4] [.ptr 0 0,.rowA 1,.int .i64 (IntKind.wrap .i64 (i+1))] [.boxT none [.int .u16 mi,.bool mqr,.bool maa,.bool mtc,.bool mrd,.bool mra,.int .i64 mop,.int .i64 mrc,.list QQ mq,.list RR man,.list RR mns,.list RR mar],.row RR rs])))) .no) .no)) .no) .no) (.ret (.inr (.exit 0,stOf [1,2] [.ptr 0 0,.dead] [.boxT none [.int .u16 mi,.bool mqr,.bool maa,.bool mtc,.bool mrd,.bool mra,.int .i64 mop,.int .i64 mrc,.list QQ mq,.list RR man,.list RR mns,.list RR mar]])))
theorem Q3y (orc:Orc) (lp:Lp) (i mi:Int) (mqr maa mtc mrd mra:Bool) (mop mrc:Int) (mq:List (List UInt8×(Int×Int))) (man mns mar rs:List (List UInt8×(Int×(Int×(Int×List UInt8))))):evC T0 orc lp b26 0 (stOf [1,3,4] [.ptr 0 0,.rowA 1,.int .i64 i] [.box [.int .u16 mi,.bool mqr,.bool maa,.bool mtc,.bool mrd,.bool mra,.int .i64 mop,.int .i64 mrc,.list QQ mq,.list RR man,.list RR mns,.list RR mar],.row RR rs]) (Q0 [1,3,4] [1,2] 0)=(r26 i mi mqr maa mtc mrd mra mop mrc mq man mns mar rs).get:=by kernel_rfl
theorem wf26 (orc:Orc) (mi:Int) (mqr maa mtc mrd mra:Bool) (mop mrc:Int) (mq:List (List UInt8×(Int×Int))) (man mns mar rs:List (List UInt8×(Int×(Int×(Int×List UInt8))))) (I'':Int→Prop) (m'':Int→Nat) (r'':Ex×St) (h:∀ (i:Int),I'' i→(r26 i mi mqr maa mtc mrd mra mop mrc mq man mns mar rs).all fun x''=>x''=.inr r''∨∃ (i':Int),x''=.inl (stOf [1,3,4] [.ptr 0 0,.rowA 1,.int .i64 i'] [.box [.int .u16 mi,.bool mqr,.bool maa,.bool mtc,.bool mrd,.bool mra,.int .i64 mop,.int .i64 mrc,.list QQ mq,.list RR man,.list RR mns,.list RR mar],.row RR rs])∧I'' i'∧m'' i' < m'' i) (lp:Lp) (i:Int):I'' i→
    X2 (fun st=>evC T0 orc lp b26 0 st (Q0 [1,3,4] [1,2] 0)) (stOf [1,3,4] [.ptr 0 0,.rowA 1,.int .i64 i] [.box [.int .u16 mi,.bool mqr,.bool maa,.bool mtc,.bool mrd,.bool mra,.int .i64 mop,.int .i64 mrc,.list QQ mq,.list RR man,.list RR mns,.list RR mar],.row RR rs])=some r'':=
 U4 (fun a'':Int=>stOf [1,3,4] [.ptr 0 0,.rowA 1,.int .i64 a''] [.box [.int .u16 mi,.bool mqr,.bool maa,.bool mtc,.bool mrd,.bool mra,.int .i64 mop,.int .i64 mrc,.list QQ mq,.list RR man,.list RR mns,.list RR mar],.row RR rs]) (fun a''=>I'' a'') (fun a''=>m'' a'') r'' (fun a''=>r26 a'' mi mqr maa mtc mrd mra mop mrc mq man mns mar rs)
  (fun a'' x hx=>(Q3y orc lp a'' mi mqr maa mtc mrd mra mop mrc mq man mns mar rs).trans hx) (fun a'' ha=>Tr.all_mono (fun x'' hx=>hx.imp id fun⟨i',h1,h2,h3⟩=>⟨(i'),h1,h2,h3⟩) (h (a'') ha)) (i)
theorem U4f (orc:Orc):ls26.Ok T0 orc h26 0 0 b26:=by
 intro q'' hq'' x'' y'' r'' h
 obtain⟨(i:Int),_⟩:=x''
 obtain⟨⟨(mi:Int),(mqr:Bool),(maa:Bool),(mtc:Bool),(mrd:Bool),(mra:Bool),(mop:Int),(mrc:Int),(mq:List (List UInt8×(Int×Int))),(man:List (List UInt8×(Int×(Int×(Int×List UInt8))))),(mns:List (List UInt8×(Int×(Int×(Int×List UInt8))))),(mar:List (List UInt8×(Int×(Int×(Int×List UInt8))))),_⟩,(rs:List (List UInt8×(Int×(Int×(Int×List UInt8))))),_⟩:=y''
 obtain⟨hc,rfl⟩:=Tr.get_on2 h
 show X2 (fun st=>evC T0 orc (lpN T0 orc h26 0 q'') b26 0 st (Q0 [1,3,4] [1,2] 0)) (stOf [1,3,4] [.ptr 0 0,.rowA 1,.int .i64 i] [.box [.int .u16 mi,.bool mqr,.bool maa,.bool mtc,.bool mrd,.bool mra,.int .i64 mop,.int .i64 mrc,.list QQ mq,.list RR man,.list RR mns,.list RR mar],.row RR rs])=some ((bif Uf rs then (.exit 0,[.ptr 0 0,.dead],[.box [.int .u16 mi,.bool mqr,.bool maa,.bool mtc,.bool mrd,.bool mra,.int .i64 mop,.int .i64 mrc,.list QQ mq,.list RR man,.list RR mns,.list RR mar]]) else (.ret,[.ptr 0 0,.bool false],[.box [.int .u16 mi,.bool mqr,.bool maa,.bool mtc,.bool mrd,.bool mra,.int .i64 mop,.int .i64 mrc,.list QQ mq,.list RR man,.list RR mns,.list RR mar]]):Ex×List AV×List LObj).1,stOf [1,2] (bif Uf rs then (.exit 0,[.ptr 0 0,.dead],[.box [.int .u16 mi,.bool mqr,.bool maa,.bool mtc,.bool mrd,.bool mra,.int .i64 mop,.int .i64 mrc,.list QQ mq,.list RR man,.list RR mns,.list RR mar]]) else (.ret,[.ptr 0 0,.bool false],[.box [.int .u16 mi,.bool mqr,.bool maa,.bool mtc,.bool mrd,.bool mra,.int .i64 mop,.int .i64 mrc,.list QQ mq,.list RR man,.list RR mns,.list RR mar]]):Ex×List AV×List LObj).2.1 (bif Uf rs then (.exit 0,[.ptr 0 0,.dead],[.box [.int .u16 mi,.bool mqr,.bool maa,.bool mtc,.bool mrd,.bool mra,.int .i64 mop,.int .i64 mrc,.list QQ mq,.list RR man,.list RR mns,.list RR mar]]) else (.ret,[.ptr 0 0,.bool false],[.box [.int .u16 mi,.bool mqr,.bool maa,.bool mtc,.bool mrd,.bool mra,.int .i64 mop,.int .i64 mrc,.list QQ mq,.list RR man,.list RR mns,.list RR mar]]):Ex×List AV×List LObj).2.2)
 simp only[fmC,Bool.and_eq_true,decide_eq_true_eq] at hc
 obtain⟨hl,rfl⟩:=hc
 have hl:=Nat.le_of_ble_eq_true hl
 refine wf26 _ mi mqr maa mtc mrd mra mop mrc mq man mns mar rs (fun k=>0≤k∧k≤rs.length∧Uf (rs.drop k.toNat)=Uf rs) (fun k=>(rs.length - k).toNat) _ ?_ _ 0 ⟨by omega,by omega,rfl⟩
 rintro k ⟨k0,k1,he⟩
 unfold r26
 rw[V4 k0 k1 (by omega)]
 by_cases hk:k < rs.length
 ·rw[U14 (k:=k.toNat) (by omega) (Ty.dflt RR)] at he
  generalize rs.getD k.toNat (Ty.dflt RR)=r at *
  refine Tr.all_t (J0 hk) (Tr.all_t (J0 k0) (Tr.all_t (J0 hk) (Tr.all_br (fun c1=>?_) fun c1=>Tr.all_t (J0 k0) (Tr.all_t (J0 hk) (Tr.all_br (fun c2=>?_) fun c2=>?_)))))
  ·have c1:=of_decide_eq_true c1
   have:rrOk r=false:=by unfold rrOk;rw[X0 (by omega)];rfl
   rw[this] at he
   rw[←he]
   exact Tr.all_ret (.inl rfl)
  ·have c2:=of_decide_eq_true c2
   have:rrOk r=false:=by unfold rrOk;rw[X0 (show ¬ r.2.2.2.2.length≤300 by omega),Bool.and_false]
   rw[this] at he
   rw[←he]
   exact Tr.all_ret (.inl rfl)
  ·have c1:=of_decide_eq_false c1
   have c2:=of_decide_eq_false c2
   have:rrOk r=true:=by unfold rrOk;rw[J0 (by omega),J0 (by omega)];rfl
   rw[this,Bool.true_and] at he
   exact Tr.all_ret (.inr ⟨_,rfl,⟨by omega,by omega,by rw[show (k+1).toNat=k.toNat+1 by omega];exact he⟩,by omega⟩)
 ·refine Tr.all_f (X0 hk) (Tr.all_ret (.inl ?_))
  rw[show k.toNat=rs.length by omega,List.drop_length] at he
  rw[←he]
  rfl
def qFew (qs:List QQt):Bool:=qs.all fun q=>decide (q.1.length≤300)
def fqC (qs:List QQt) (i:Int):Bool:=Nat.ble qs.length 1000000&&decide (i=0)
noncomputable def b26q:Code:=X4 c26 1
def Z33:LoopSpec:={ bid:=2,sh:=[.ptr 0 0,.d (.int .i64) false],so:=[.box [.d (.int .u16) false,.d .bool false,.d .bool false,.d .bool false,.d .bool false,.d .bool false,.d (.int .i64) false,.d (.int .i64) false,.d (.list QQ) false,.d (.list RR) false,.d (.list RR) false,.d (.list RR) false]],F:=fun(i,_) ((mi,mqr,maa,mtc,mrd,mra,mop,mrc,mq,man,mns,mar,_),_)=>.on2 (fqC mq i) (qFew mq) (.exit 2,[.dead],[]) (.ret,[.bool false],[]) }
def r26q (i mi:Int) (mqr maa mtc mrd mra:Bool) (mop mrc:Int) (mq:List (List UInt8×(Int×Int))) (man mns mar:List (List UInt8×(Int×(Int×(Int×List UInt8))))):Tr (St⊕(Ex×St)):=.br (decide (i < (↑mq.length:Int))) (.br (decide (0≤i)) (.br (decide (i < (↑mq.length:Int))) (.br (decide ((↑(List.length (mq.getD i.toNat (Ty.dflt QQ)).1):Int) > 300)) (.ret (.inr (.ret,stOf [2] [.bool false] []))) (.ret (.inl (stOf [1,5] [.ptr 0 0,.int .i64 (IntKind.wrap .i64 (i+1))] [.boxT none [.int .u16 mi,.bool mqr,.bool maa,.bool mtc,.bool mrd,.bool mra,.int .i64 mop,.int .i64 mrc,.list QQ mq,.list RR man,.list RR mns,.list RR mar]])))) .no) .no) (.ret (.inr (.exit 2,stOf [2] [.dead] [])))
theorem Z3e (orc:Orc) (lp:Lp) (i mi:Int) (mqr maa mtc mrd mra:Bool) (mop mrc:Int) (mq:List (List UInt8×(Int×Int))) (man mns mar:List (List UInt8×(Int×(Int×(Int×List UInt8))))):evC T0 orc lp b26q 2 (stOf [1,5] [.ptr 0 0,.int .i64 i] [.box [.int .u16 mi,.bool mqr,.bool maa,.bool mtc,.bool mrd,.bool mra,.int .i64 mop,.int .i64 mrc,.list QQ mq,.list RR man,.list RR mns,.list RR mar]]) (Q0 [1,5] [2] 0)=(r26q i mi mqr maa mtc mrd mra mop mrc mq man mns mar).get:=by kernel_rfl
theorem wf26q (orc:Orc) (mi:Int) (mqr maa mtc mrd mra:Bool) (mop mrc:Int) (mq:List (List UInt8×(Int×Int))) (man mns mar:List (List UInt8×(Int×(Int×(Int×List UInt8))))) (I'':Int→Prop) (m'':Int→Nat) (r'':Ex×St) (h:∀ (i:Int),I'' i→(r26q i mi mqr maa mtc mrd mra mop mrc mq man mns mar).all fun x''=>x''=.inr r''∨∃ (i':Int),x''=.inl (stOf [1,5] [.ptr 0 0,.int .i64 i'] [.box [.int .u16 mi,.bool mqr,.bool maa,.bool mtc,.bool mrd,.bool mra,.int .i64 mop,.int .i64 mrc,.list QQ mq,.list RR man,.list RR mns,.list RR mar]])∧I'' i'∧m'' i' < m'' i) (lp:Lp) (i:Int):I'' i→
    X2 (fun st=>evC T0 orc lp b26q 2 st (Q0 [1,5] [2] 0)) (stOf [1,5] [.ptr 0 0,.int .i64 i] [.box [.int .u16 mi,.bool mqr,.bool maa,.bool mtc,.bool mrd,.bool mra,.int .i64 mop,.int .i64 mrc,.list QQ mq,.list RR man,.list RR mns,.list RR mar]])=some r'':=
 U4 (fun a'':Int=>stOf [1,5] [.ptr 0 0,.int .i64 a''] [.box [.int .u16 mi,.bool mqr,.bool maa,.bool mtc,.bool mrd,.bool mra,.int .i64 mop,.int .i64 mrc,.list QQ mq,.list RR man,.list RR mns,.list RR mar]]) (fun a''=>I'' a'') (fun a''=>m'' a'') r'' (fun a''=>r26q a'' mi mqr maa mtc mrd mra mop mrc mq man mns mar)
  (fun a'' x hx=>(Z3e orc lp a'' mi mqr maa mtc mrd mra mop mrc mq man mns mar).trans hx) (fun a'' ha=>Tr.all_mono (fun x'' hx=>hx.imp id fun⟨i',h1,h2,h3⟩=>⟨(i'),h1,h2,h3⟩) (h (a'') ha)) (i)
theorem Q3x (orc:Orc):Z33.Ok T0 orc h26 0 0 b26q:=by
 intro q'' hq'' x'' y'' r'' h
 obtain⟨(i:Int),_⟩:=x''
 obtain⟨⟨(mi:Int),(mqr:Bool),(maa:Bool),(mtc:Bool),(mrd:Bool),(mra:Bool),(mop:Int),(mrc:Int),(mq:List (List UInt8×(Int×Int))),(man:List (List UInt8×(Int×(Int×(Int×List UInt8))))),(mns:List (List UInt8×(Int×(Int×(Int×List UInt8))))),(mar:List (List UInt8×(Int×(Int×(Int×List UInt8))))),_⟩,_⟩:=y''
 obtain⟨hc,rfl⟩:=Tr.get_on2 h
 show X2 (fun st=>evC T0 orc (lpN T0 orc h26 0 q'') b26q 2 st (Q0 [1,5] [2] 0)) (stOf [1,5] [.ptr 0 0,.int .i64 i] [.box [.int .u16 mi,.bool mqr,.bool maa,.bool mtc,.bool mrd,.bool mra,.int .i64 mop,.int .i64 mrc,.list QQ mq,.list RR man,.list RR mns,.list RR mar]])=some ((bif qFew mq then (.exit 2,[.dead],[]) else (.ret,[.bool false],[]):Ex×List AV×List LObj).1,stOf [2] (bif qFew mq then (.exit 2,[.dead],[]) else (.ret,[.bool false],[]):Ex×List AV×List LObj).2.1 (bif qFew mq then (.exit 2,[.dead],[]) else (.ret,[.bool false],[]):Ex×List AV×List LObj).2.2)
 simp only[fqC,Bool.and_eq_true,decide_eq_true_eq] at hc
 obtain⟨hl,rfl⟩:=hc
 have hl:=Nat.le_of_ble_eq_true hl
 refine wf26q _ mi mqr maa mtc mrd mra mop mrc mq man mns mar (fun k=>0≤k∧k≤mq.length∧qFew (mq.drop k.toNat)=qFew mq) (fun k=>(mq.length - k).toNat) _ ?_ _ 0 ⟨by omega,by omega,rfl⟩
 rintro k ⟨k0,k1,he⟩
 unfold r26q
 rw[V4 k0 k1 (by omega)]
 by_cases hk:k < mq.length
 ·rw[Z5 (l:=mq) (k:=k.toNat) (by omega) (Ty.dflt QQ)] at he
  unfold qFew at he ⊢
  rw[List.all_cons] at he
  generalize mq.getD k.toNat (Ty.dflt QQ)=r at *
  refine Tr.all_t (J0 hk) (Tr.all_t (J0 k0) (Tr.all_t (J0 hk) (Tr.all_br (fun c1=>?_) fun c1=>?_)))
  ·have c1:=of_decide_eq_true c1
   rw[X0 (show ¬ r.1.length≤300 by omega)] at he
   rw[←he]
   exact Tr.all_ret (.inl rfl)
  ·have c1:=of_decide_eq_false c1
   rw[J0 (show r.1.length≤300 by omega),Bool.true_and] at he
   exact Tr.all_ret (.inr ⟨_,rfl,⟨by omega,by omega,by rw[show (k+1).toNat=k.toNat+1 by omega];exact he⟩,by omega⟩)
 ·refine Tr.all_f (X0 hk) (Tr.all_ret (.inl ?_))
  rw[show k.toNat=mq.length by omega,List.drop_length] at he
  rw[←he]
  rfl
def t26 (m:(Int×(Bool×(Bool×(Bool×(Bool×(Bool×(Int×(Int×(List (List UInt8×(Int×Int))×(List (List UInt8×(Int×(Int×(Int×List UInt8))))×(List (List UInt8×(Int×(Int×(Int×List UInt8))))×List (List UInt8×(Int×(Int×(Int×List UInt8)))))))))))))))):Tr Res:=.br (decide ((↑m.2.2.2.2.2.2.2.2.1.length:Int) > 20)) (.ret ([.bool false],[])) (.br (decide ((↑m.2.2.2.2.2.2.2.2.2.1.length:Int) > 20)) (.ret ([.bool false],[])) (.br (decide ((↑m.2.2.2.2.2.2.2.2.2.2.1.length:Int) > 20)) (.ret ([.bool false],[])) (.br (decide ((↑m.2.2.2.2.2.2.2.2.2.2.2.length:Int) > 20)) (.ret ([.bool false],[])) (.br (fits (0+List.length m.2.2.2.2.2.2.2.2.2.1) 40) (.br (fits (List.length ([]++m.2.2.2.2.2.2.2.2.2.1)+List.length m.2.2.2.2.2.2.2.2.2.2.1) 40) (.br (fits (List.length ([]++m.2.2.2.2.2.2.2.2.2.1++m.2.2.2.2.2.2.2.2.2.2.1)+List.length m.2.2.2.2.2.2.2.2.2.2.2) 40) (.br (fmC ([]++m.2.2.2.2.2.2.2.2.2.1++m.2.2.2.2.2.2.2.2.2.2.1++m.2.2.2.2.2.2.2.2.2.2.2) 0) (.br (Uf ([]++m.2.2.2.2.2.2.2.2.2.1++m.2.2.2.2.2.2.2.2.2.2.1++m.2.2.2.2.2.2.2.2.2.2.2)) (.br (fqC m.2.2.2.2.2.2.2.2.1 0) (.br (qFew m.2.2.2.2.2.2.2.2.1) (.ret ([.bool true],[])) (.ret ([.bool false],[]))) .no) (.ret ([.bool false],[]))) .no) .no) .no) .no))))
def os26:OSpec:={ f:=26,sh:=[.d MG true],so:=[],F:=fun(m,_) _=>t26 m }
theorem fn26 (m:(Int×(Bool×(Bool×(Bool×(Bool×(Bool×(Int×(Int×(List (List UInt8×(Int×Int))×(List (List UInt8×(Int×(Int×(Int×List UInt8))))×(List (List UInt8×(Int×(Int×(Int×List UInt8))))×List (List UInt8×(Int×(Int×(Int×List UInt8)))))))))))))))):evC T0 (orcB [] []) (lpOf h26 0 (lsOf [ls26,Z33])) c26 1000000 (Z1 [AV.ofTy MG m true] [] Try.f26.ntmps) (J1 T0 false 0 Try.f26)=(t26 m).get:=by kernel_rfl
theorem ok26:os26.Ok Try.prog:=by
 refine V3 Q1 tab0 (V0 Z0 Z0) h26 (d:=0) (n0:=0) (S:=lsOf [ls26,Z33]) Try.func26 (by kernel_rfl) (c:=c26) (by kernel_rfl) rfl (Q5 (xs:=[(0,b26),(2,b26q)]) (by kernel_rfl) (all_cons (Q4 (U4f _)) (all_cons (Q1q (by kernel_rfl) (Q4 (Q3x _))) Z0))) (by omega) (by kernel_rfl) ?_
 intro x'' y'' q'' hq''
 obtain⟨(m:(Int×(Bool×(Bool×(Bool×(Bool×(Bool×(Int×(Int×(List (List UInt8×(Int×Int))×(List (List UInt8×(Int×(Int×(Int×List UInt8))))×(List (List UInt8×(Int×(Int×(Int×List UInt8))))×List (List UInt8×(Int×(Int×(Int×List UInt8)))))))))))))))),_⟩:=x''
 exact(fn26 m).trans hq''
def fs26:FSpec:=fsT 26 [(MG,true)] [(.bool,false)] fun(m,_)=>t26 m
theorem okf26:fs26.Ok Try.prog:=X5 fun x'' r'' hr''=>ok26 x'' () r'' hr''
instance decLQQ:DecidableEq (List QQt):=inferInstance
instance decM3:DecidableEq (List RRt×(List RRt×List RRt)):=inferInstance
instance decM4:DecidableEq (List QQt×(List RRt×(List RRt×List RRt))):=inferInstance
instance decM6:DecidableEq (Int×(Int×(List QQt×(List RRt×(List RRt×List RRt))))):=inferInstance
instance decM9:DecidableEq (Bool×(Bool×(Bool×(Int×(Int×(List QQt×(List RRt×(List RRt×List RRt)))))))):=inferInstance
instance decMG:DecidableEq MGt:=inferInstanceAs (DecidableEq (Int×(Bool×(Bool×(Bool×(Bool×(Bool×(Int×(Int×(List QQt×(List RRt×(List RRt×List RRt))))))))))))
def mQ (m:MGt):List QQt:=m.2.2.2.2.2.2.2.2.1
def mAn (m:MGt):List RRt:=m.2.2.2.2.2.2.2.2.2.1
def mNs (m:MGt):List RRt:=m.2.2.2.2.2.2.2.2.2.2.1
def mAr (m:MGt):List RRt:=m.2.2.2.2.2.2.2.2.2.2.2
def fewM (m:MGt):Bool:=decide ((mQ m).length≤20)&&(decide ((mAn m).length≤20)&&(decide ((mNs m).length≤20)&&(decide ((mAr m).length≤20)&&(Uf (mAn m++mNs m++mAr m)&&qFew (mQ m)))))
def Qn:FSpec:=fs26.like fun(m,_)=>.ret (fewM m,())
theorem Z4b:Qn.Ok Try.prog:=by
 refine J3 okf26 _ ?_
 rintro⟨(m:MGt),_⟩ y h
 cases h
 refine J2 (vs:=[.bool (fewM m)]) rfl rfl (Tr.get_of_all ?_)
 show (t26 m).all _
 unfold t26
 rw[List.nil_append]
 show Tr.all _ (Tr.br (decide (((mQ m).length:Int) > 20)) _ (Tr.br (decide (((mAn m).length:Int) > 20)) _ (Tr.br (decide (((mNs m).length:Int) > 20)) _ (Tr.br (decide (((mAr m).length:Int) > 20)) _ (Tr.br (fits (0+(mAn m).length) 40) (Tr.br (fits ((mAn m).length+(mNs m).length) 40) (Tr.br (fits ((mAn m++mNs m).length+(mAr m).length) 40) (Tr.br (fmC (mAn m++mNs m++mAr m) 0) (Tr.br (Uf (mAn m++mNs m++mAr m)) (Tr.br (fqC (mQ m) 0) (Tr.br (qFew (mQ m)) _ _) _) _) _) _) _) _)))))
 unfold fewM
 generalize mQ m=q
 generalize mAn m=an
 generalize mNs m=ns
 generalize mAr m=ar
 by_cases h1:q.length≤20
 ·by_cases h2:an.length≤20
  ·by_cases h3:ns.length≤20
   ·by_cases h4:ar.length≤20
    ·rw[J0 h1,J0 h2,J0 h3,J0 h4]
     simp only[Bool.true_and]
     have hl1:(an++ns).length=an.length+ns.length:=List.length_append
     refine Tr.all_f (X0 (by omega)) (Tr.all_f (X0 (by omega)) (Tr.all_f (X0 (by omega)) (Tr.all_f (X0 (by omega)) (Tr.all_t (Zh (by omega) (by omega)) (Tr.all_t (Zh (by omega) (by omega)) (Tr.all_t (Zh (by omega) (by omega)) (Tr.all_t (by unfold fmC;rw[Nat.ble_eq_true_of_le (by rw[List.length_append];omega)];rfl) (Tr.all_br (fun c=>?_) fun c=>Tr.all_ret (by rw[c];rfl)))))))))
     rw[c]
     exact Tr.all_t (by unfold fqC;rw[Nat.ble_eq_true_of_le (by omega)];rfl) (Tr.all_br (fun d=>Tr.all_ret (by rw[d];rfl)) fun d=>Tr.all_ret (by rw[d];rfl))
    ·rw[X0 h4]
     simp only[Bool.false_and,Bool.and_false]
     exact Tr.all_f (X0 (by omega)) (Tr.all_f (X0 (by omega)) (Tr.all_f (X0 (by omega)) (Tr.all_t (J0 (by omega)) (Tr.all_ret rfl))))
   ·rw[X0 h3]
    simp only[Bool.false_and,Bool.and_false]
    exact Tr.all_f (X0 (by omega)) (Tr.all_f (X0 (by omega)) (Tr.all_t (J0 (by omega)) (Tr.all_ret rfl)))
  ·rw[X0 h2]
   simp only[Bool.false_and,Bool.and_false]
   exact Tr.all_f (X0 (by omega)) (Tr.all_t (J0 (by omega)) (Tr.all_ret rfl))
 ·rw[X0 h1]
  simp only[Bool.false_and]
  exact Tr.all_t (J0 (by omega)) (Tr.all_ret rfl)
def t36 (r:RRt):Tr Res:=.br (bigS r.1) (.br (mayV r.1) (.br (bigS r.2.2.2.2) (.ret ([.bool (mayR r.2.1 r.2.2.2.2)],[])) .no) (.ret ([.bool false],[]))) .no
def os36:OSpec:={ f:=36,sh:=[.d RR true],so:=[],F:=fun(r,_) _=>t36 r }
theorem fn36 (r:RRt):evC T0 (orcB [X0v,U27] []) (lpOf h36 0 (lsOf [])) c36 1000000 (Z1 [AV.ofTy RR r true] [] Try.f36.ntmps) (J1 T0 false 0 Try.f36)=(t36 r).get:=by kernel_rfl
theorem ok36:os36.Ok Try.prog:=by
 refine V3 Q1 tab0 (V0 (all_cons J0h (all_cons U1r Z0)) Z0) h36 (d:=0) (n0:=0) (S:=lsOf []) Try.func36 (by kernel_rfl) (c:=c36) (by kernel_rfl) rfl (Z2 (by kernel_rfl)) (by omega) (by kernel_rfl) ?_
 intro x'' y'' q'' hq''
 obtain⟨(r:RRt),_⟩:=x''
 exact(fn36 r).trans hq''
def fs36:FSpec:=fsT 36 [(RR,true)] [(.bool,false)] fun(r,_)=>t36 r
theorem okf36:fs36.Ok Try.prog:=X5 fun x'' r'' hr''=>ok36 x'' () r'' hr''
def t35 (r:RRt):Tr Res:=.ret ([.agg [.str r.1,.int .u16 r.2.1,.int .u16 r.2.2.1]],[])
def os35:OSpec:={ f:=35,sh:=[.d RR true],so:=[],F:=fun(r,_) _=>t35 r }
theorem fn35 (r:RRt):evC T0 (orcB [X0v,U27] []) (lpOf h35 0 (lsOf [])) c35 1000000 (Z1 [AV.ofTy RR r true] [] Try.f35.ntmps) (J1 T0 false 0 Try.f35)=(t35 r).get:=by kernel_rfl
theorem ok35:os35.Ok Try.prog:=by
 refine V3 Q1 tab0 (V0 (all_cons J0h (all_cons U1r Z0)) Z0) h35 (d:=0) (n0:=0) (S:=lsOf []) Try.func35 (by kernel_rfl) (c:=c35) (by kernel_rfl) rfl (Z2 (by kernel_rfl)) (by omega) (by kernel_rfl) ?_
 intro x'' y'' q'' hq''
 obtain⟨(r:RRt),_⟩:=x''
 exact(fn35 r).trans hq''
def fs35:FSpec:=fsT 35 [(RR,true)] [(QQ,true)] fun(r,_)=>t35 r
theorem okf35:fs35.Ok Try.prog:=X5 fun x'' r'' hr''=>ok35 x'' () r'' hr''
def t85 (a b:RRt):Tr Res:=.ret ([.bool (a.1==b.1&&(a.2.1==b.2.1&&(a.2.2.1==b.2.2.1&&(b.2.2.2.1==b.2.2.2.1&&(a.2.2.2.2==b.2.2.2.2&&true)))))],[])
def os85:OSpec:={ f:=85,sh:=[.d RR true,.d RR true],so:=[],F:=fun(a,b,_) _=>t85 a b }
theorem fn85 (a b:RRt):evC T0 (orcB [X0v,U27] []) (lpOf h85 0 (lsOf [])) c85 1000000 (Z1 [AV.ofTy RR a true,AV.ofTy RR b true] [] Try.f85.ntmps) (J1 T0 false 0 Try.f85)=(t85 a b).get:=by kernel_rfl
theorem ok85:os85.Ok Try.prog:=by
 refine V3 Q1 tab0 (V0 (all_cons J0h (all_cons U1r Z0)) Z0) h85 (d:=0) (n0:=0) (S:=lsOf []) Try.func85 (by kernel_rfl) (c:=c85) (by kernel_rfl) rfl (Z2 (by kernel_rfl)) (by omega) (by kernel_rfl) ?_
 intro x'' y'' q'' hq''
 obtain⟨(a:RRt),(b:RRt),_⟩:=x''
 exact(fn85 a b).trans hq''
def fs85:FSpec:=fsT 85 [(RR,true),(RR,true)] [(.bool,false)] fun(a,b,_)=>t85 a b
theorem okf85:fs85.Ok Try.prog:=X5 fun x'' r'' hr''=>ok85 x'' () r'' hr''
def recV (r:RRt):Bool:=mayV r.1&&mayR r.2.1 r.2.2.2.2
def keyV (r:RRt):QQt:=(r.1,r.2.1,r.2.2.1)
def sayV (a b:RRt):Bool:=a.1==b.1&&(a.2.1==b.2.1&&(a.2.2.1==b.2.2.1&&a.2.2.2.2==b.2.2.2.2))
def Q1j (r:RRt):Bool:=bigS r.1&&bigS r.2.2.2.2
def Vm:FSpec:=fs36.like fun(r,_)=>.on (Q1j r) (recV r,())
theorem J35:Vm.Ok Try.prog:=by
 refine J3 okf36 _ ?_
 rintro⟨(r:RRt),_⟩ y h
 obtain⟨hb,rfl⟩:=Tr.get_on h
 obtain⟨h1,h2⟩:=Bool.and_eq_true_iff.1 (show (bigS r.1&&bigS r.2.2.2.2)=true from hb)
 refine J2 (vs:=[.bool (recV r)]) rfl rfl (Tr.get_of_all ?_)
 show (t36 r).all _
 unfold t36 recV
 refine Tr.all_t h1 (Tr.all_br (fun c=>Tr.all_t h2 (Tr.all_ret (by rw[c];rfl))) fun c=>Tr.all_ret (by rw[c];rfl))
def Qj:FSpec:=fs35.like fun(r,_)=>.ret (keyV r,())
theorem J2g:Qj.Ok Try.prog:=by
 refine J3 okf35 _ ?_
 rintro⟨(r:RRt),_⟩ y h
 cases h
 exact J2 (vs:=[.agg [.str r.1,.int .u16 r.2.1,.int .u16 r.2.2.1]]) rfl rfl (Tr.get_of_all (Tr.all_ret rfl))
def Z47:FSpec:=fs85.like fun(a,b,_)=>.ret (sayV a b,())
theorem X4a:Z47.Ok Try.prog:=by
 refine J3 okf85 _ ?_
 rintro⟨(a:RRt),(b:RRt),_⟩ y h
 cases h
 refine J2 (vs:=[.bool (sayV a b)]) rfl rfl (Tr.get_of_all ?_)
 refine Tr.all_ret ?_
 unfold sayV
 rw[beq_self_eq_true,Bool.true_and,Bool.and_true]
theorem Zy {n b:Nat} (h:n≤1000000000) (hb:b≤1000):fits n b=true:=by
 have:n * b≤1000000000 * 1000:=Nat.mul_le_mul h hb
 unfold fits Q1o
 rw[Bool.and_eq_true,decide_eq_true_eq,decide_eq_true_eq]
 omega
def t69 (t m:Int):Tr Res:=.br (decide (t≥2147483648)) (.ret ([.int .u32 0],[])) (.ret ([.int .u32 (if m < t then m else t)],[]))
def os69:OSpec:={ f:=69,sh:=[.d (.int .u32) false,.d (.int .u32) false],so:=[],F:=fun(t,m,_) _=>t69 t m }
theorem fn69 (t m:Int):evC T0 (orcB [] []) (lpOf h69 0 (lsOf [])) c69 1000000 (Z1 [.int .u32 t,.int .u32 m] [] Try.f69.ntmps) (J1 T0 false 0 Try.f69)=(t69 t m).get:=by kernel_rfl
theorem ok69:os69.Ok Try.prog:=by
 refine V3 Q1 tab0 (V0 Z0 Z0) h69 (d:=0) (n0:=0) (S:=lsOf []) Try.func69 (by kernel_rfl) (c:=c69) (by kernel_rfl) rfl (Z2 (by kernel_rfl)) (by omega) (by kernel_rfl) ?_
 intro x'' y'' q'' hq''
 obtain⟨(t:Int),(m:Int),_⟩:=x''
 exact(fn69 t m).trans hq''
def fs69:FSpec:=fsT 69 [((.int .u32),false),((.int .u32),false)] [((.int .u32),false)] fun(t,m,_)=>t69 t m
theorem okf69:fs69.Ok Try.prog:=X5 fun x'' r'' hr''=>ok69 x'' () r'' hr''
def t64 (now t:Int):Tr Res:=.br (decide (IntKind.wrap .u64 t > IntKind.wrap .u64 (18446744073709551615 - now))) (.ret ([.int .u64 18446744073709551615],[])) (.ret ([.int .u64 (IntKind.wrap .u64 (now+IntKind.wrap .u64 t))],[]))
def os64:OSpec:={ f:=64,sh:=[.d (.int .u64) false,.d (.int .u32) false],so:=[],F:=fun(now,t,_) _=>t64 now t }
theorem fn64 (now t:Int):evC T0 (orcB [] []) (lpOf h64 0 (lsOf [])) c64 1000000 (Z1 [.int .u64 now,.int .u32 t] [] Try.f64.ntmps) (J1 T0 false 0 Try.f64)=(t64 now t).get:=by kernel_rfl
theorem ok64:os64.Ok Try.prog:=by
 refine V3 Q1 tab0 (V0 Z0 Z0) h64 (d:=0) (n0:=0) (S:=lsOf []) Try.func64 (by kernel_rfl) (c:=c64) (by kernel_rfl) rfl (Z2 (by kernel_rfl)) (by omega) (by kernel_rfl) ?_
 intro x'' y'' q'' hq''
 obtain⟨(now:Int),(t:Int),_⟩:=x''
 exact(fn64 now t).trans hq''
def fs64:FSpec:=fsT 64 [((.int .u64),false),((.int .u32),false)] [((.int .u64),false)] fun(now,t,_)=>t64 now t
theorem okf64:fs64.Ok Try.prog:=X5 fun x'' r'' hr''=>ok64 x'' () r'' hr''
def t63 (s:Int) (aa:Bool):Tr Res:=.br (decide (s < 1)) (.ret ([.int .i64 0],[])) (.br (decide (s > 3)) (.ret ([.int .i64 0],[])) (.br aa (.br (decide (IntKind.wrap .i64 (s - 1)=(↑0:Int))) (.ret ([.int .i64 5],[])) (.br (decide (IntKind.wrap .i64 (s - 1)=(↑(0+1):Int))) (.ret ([.int .i64 4],[])) (.br (decide (IntKind.wrap .i64 (s - 1)=(↑(0+1+1):Int))) (.ret ([.int .i64 1],[])) .no))) (.br (decide (IntKind.wrap .i64 (s - 1)=(↑0:Int))) (.ret ([.int .i64 3],[])) (.br (decide (IntKind.wrap .i64 (s - 1)=(↑(0+1):Int))) (.ret ([.int .i64 2],[])) (.br (decide (IntKind.wrap .i64 (s - 1)=(↑(0+1+1):Int))) (.ret ([.int .i64 1],[])) .no)))))
def os63:OSpec:={ f:=63,sh:=[.d (.int .i64) false,.d .bool false],so:=[],F:=fun(s,aa,_) _=>t63 s aa }
theorem fn63 (s:Int) (aa:Bool):evC T0 (orcB [] []) (lpOf h63 0 (lsOf [])) c63 1000000 (Z1 [.int .i64 s,.bool aa] [] Try.f63.ntmps) (J1 T0 false 0 Try.f63)=(t63 s aa).get:=by kernel_rfl
theorem ok63:os63.Ok Try.prog:=by
 refine V3 Q1 tab0 (V0 Z0 Z0) h63 (d:=0) (n0:=0) (S:=lsOf []) Try.func63 (by kernel_rfl) (c:=c63) (by kernel_rfl) rfl (Z2 (by kernel_rfl)) (by omega) (by kernel_rfl) ?_
 intro x'' y'' q'' hq''
 obtain⟨(s:Int),(aa:Bool),_⟩:=x''
 exact(fn63 s aa).trans hq''
def fs63:FSpec:=fsT 63 [((.int .i64),false),(.bool,false)] [((.int .i64),false)] fun(s,aa,_)=>t63 s aa
theorem okf63:fs63.Ok Try.prog:=X5 fun x'' r'' hr''=>ok63 x'' () r'' hr''
def Vy (t m:Int):Int:=if 2147483648≤t then 0 else if m < t then m else t
def Z12 (now t:Int):Int:=if 18446744073709551615 - now < t then 18446744073709551615 else now+t
def rankV (s:Int) (aa:Bool):Int:=bif aa then 6 - s else 4 - s
def Z17 (s:Int) (aa:Bool):Int:=if s=3 then 1 else rankV s aa
def V18:FSpec:=fs69.like fun(t,m,_)=>.ret (Vy t m,())
theorem Q4a:V18.Ok Try.prog:=by
 refine J3 okf69 _ ?_
 rintro⟨(t:Int),(m:Int),_⟩ y h
 cases h
 refine J2 (vs:=[.int .u32 (Vy t m)]) rfl rfl (Tr.get_of_all ?_)
 show (t69 t m).all _
 unfold t69 Vy
 refine Tr.all_br (fun h=>Tr.all_ret ?_) fun h=>Tr.all_ret ?_
 ·rw[if_pos (of_decide_eq_true h)]
 ·rw[if_neg (of_decide_eq_false h)]
def u64B (n:Int):Bool:=decide (0≤n)&&decide (n < 18446744073709551616)
def u32B (n:Int):Bool:=decide (0≤n)&&decide (n < 4294967296)
def Xo:FSpec:=fs64.like fun(n,t,_)=>.on (u64B n&&u32B t) (Z12 n t,())
theorem u64_in {x:Int} (h0:0≤x) (h1:x < 18446744073709551616):IntKind.wrap .u64 x=x:=IntWalk.u64_in x (by omega)
theorem V4b:Xo.Ok Try.prog:=by
 refine J3 okf64 _ ?_
 rintro⟨(n:Int),(t:Int),_⟩ y h
 obtain⟨hb,rfl⟩:=Tr.get_on h
 have hb:(u64B n&&u32B t)=true:=hb
 simp only[u64B,u32B,Bool.and_eq_true,decide_eq_true_eq] at hb
 obtain⟨⟨h0,h1⟩,h2,h3⟩:=hb
 refine J2 (vs:=[.int .u64 (Z12 n t)]) rfl rfl (Tr.get_of_all ?_)
 show (t64 n t).all _
 unfold t64 Z12
 rw[u64_in (x:=t) h2 (by omega),u64_in (x:=18446744073709551615 - n) (by omega) (by omega)]
 refine Tr.all_br (fun h=>Tr.all_ret ?_) fun h=>Tr.all_ret ?_
 ·rw[if_pos (of_decide_eq_true h)]
 ·have h:=of_decide_eq_false h
  rw[if_neg (by omega),u64_in (by omega) (by omega)]
def secB (s:Int):Bool:=decide (1≤s)&&decide (s≤3)
def Jp:FSpec:=fs63.like fun(s,aa,_)=>.on (secB s) (Z17 s aa,())
theorem X4e:Jp.Ok Try.prog:=by
 refine J3 okf63 _ ?_
 rintro⟨(s:Int),(aa:Bool),_⟩ y h
 obtain⟨hb,rfl⟩:=Tr.get_on h
 have hb:secB s=true:=hb
 simp only[secB,Bool.and_eq_true,decide_eq_true_eq] at hb
 refine J2 (vs:=[.int .i64 (Z17 s aa)]) rfl rfl (Tr.get_of_all ?_)
 have h3:s=1∨s=2∨s=3:=by omega
 show (t63 s aa).all _
 unfold t63
 rcases h3 with rfl | rfl | rfl<;>cases aa<;>repeat' (first | exact Tr.all_ret rfl | refine Tr.all_t (by decide) ?_ | refine Tr.all_f (by decide) ?_)
def wC (l:List RRt) (n i:Int):Bool:=decide (n=(l.length:Int))&&(decide (0≤i)&&(decide (i≤n)&&Nat.ble l.length 1000000))
def setT (x:RRt) (t:Int):RRt:=(x.1,x.2.1,x.2.2.1,t,x.2.2.2.2)
def Q38 (l:List RRt) (t:Int):List RRt:=l.map fun x=>setT x t
def mapR (f:RRt→RRt) (l:List RRt) (i:Int):List RRt:=l.take i.toNat++(l.drop i.toNat).map f
theorem X1k (f:RRt→RRt) (l:List RRt) {i:Int} (h0:0≤i) (h:i < l.length):mapR f (l.set i.toNat (f (l.getD i.toNat (Ty.dflt RR)))) (i+1)=mapR f l i:=by
 unfold mapR
 rw[show (i+1).toNat=i.toNat+1 by omega]
 have hk:i.toNat < l.length:=by omega
 generalize i.toNat=k at *
 rw[Z5 (l:=l) hk (Ty.dflt RR)]
 have h1:(l.set k (f (l.getD k (Ty.dflt RR)))).drop (k+1)=l.drop (k+1):=by rw[List.drop_set];simp
 have h2:(l.set k (f (l.getD k (Ty.dflt RR)))).take (k+1)=l.take k++[f (l.getD k (Ty.dflt RR))]:=by
  rw[List.take_add_one,List.take_set,List.set_eq_of_length_le (by simp;omega)]
  simp[hk]
 rw[h1,h2]
 simp
theorem U26 (f:RRt→RRt) (l:List RRt) {i:Int} (h:(l.length:Int)≤i):mapR f l i=l:=by
 unfold mapR
 rw[List.drop_eq_nil_of_le (by omega),List.take_of_length_le (by omega)]
 simp
def wR (l:List RRt) (t i:Int):List RRt:=mapR (fun x=>setT x t) l i
noncomputable def b62:Code:=X4 c62 0
def ls62:LoopSpec:={ bid:=0,sh:=[.row 0,.d (.int .u32) false,.d (.int .i64) false,.d (.int .i64) false],so:=[.row RR],F:=fun(t,n,i,_) (l,_)=>.on (wC l n i) (.exit 0,[.rowA 0],[.row RR (wR l t i)]) }
def r62 (t n i:Int) (l:List RRt):Tr (St⊕(Ex×St)):=.br (decide (i < n)) (.br (decide (0≤i)) (.br (decide (i < (↑l.length:Int))) (.ret (.inl (stOf [0,1,9,10] [.rowA 0,.int .u32 t,.int .i64 n,.int .i64 (IntKind.wrap .i64 (i+1))] [.row RR (List.set l i.toNat ((l.getD i.toNat (Ty.dflt RR)).1,(l.getD i.toNat (Ty.dflt RR)).2.1,(l.getD i.toNat (Ty.dflt RR)).2.2.1,t,(l.getD i.toNat (Ty.dflt RR)).2.2.2.2))]))) .no) .no) (.ret (.inr (.exit 0,stOf [0] [.rowA 0] [.row RR l])))
theorem U3t (lp:Lp) (t n i:Int) (l:List RRt):evC T0 (orcB [] [os81]) lp b62 0 (stOf [0,1,9,10] [.rowA 0,.int .u32 t,.int .i64 n,.int .i64 i] [.row RR l]) (Q0 [0,1,9,10] [0] 0)=(r62 t n i l).get:=by kernel_rfl
theorem wf62 (t n:Int) (I'':Int→List RRt→Prop) (m'':Int→List RRt→Nat) (r'':Ex×St) (h:∀ (i:Int) (l:List RRt),I'' i l→(r62 t n i l).all fun x''=>x''=.inr r''∨∃ (i':Int) (l':List RRt),x''=.inl (stOf [0,1,9,10] [.rowA 0,.int .u32 t,.int .i64 n,.int .i64 i'] [.row RR l'])∧I'' i' l'∧m'' i' l' < m'' i l) (lp:Lp) (i:Int) (l:List RRt):I'' i l→
    X2 (fun st=>evC T0 (orcB [] [os81]) lp b62 0 st (Q0 [0,1,9,10] [0] 0)) (stOf [0,1,9,10] [.rowA 0,.int .u32 t,.int .i64 n,.int .i64 i] [.row RR l])=some r'':=
 U4 (fun a'':Int×List RRt=>stOf [0,1,9,10] [.rowA 0,.int .u32 t,.int .i64 n,.int .i64 a''.1] [.row RR a''.2]) (fun a''=>I'' a''.1 a''.2) (fun a''=>m'' a''.1 a''.2) r'' (fun a''=>r62 t n a''.1 a''.2)
  (fun a'' x hx=>(U3t lp t n a''.1 a''.2).trans hx) (fun a'' ha=>Tr.all_mono (fun x'' hx=>hx.imp id fun⟨i',l',h1,h2,h3⟩=>⟨(i',l'),h1,h2,h3⟩) (h (a''.1) (a''.2) ha)) (i,l)
theorem J4j:ls62.Ok T0 (orcB [] [os81]) h62 0 0 b62:=by
 intro q'' hq'' x'' y'' r'' h
 obtain⟨(t:Int),(n:Int),(i:Int),_⟩:=x''
 obtain⟨(l:List RRt),_⟩:=y''
 obtain⟨hc,rfl⟩:=Tr.get_on h
 show X2 (fun st=>evC T0 (orcB [] [os81]) (lpN T0 (orcB [] [os81]) h62 0 q'') b62 0 st (Q0 [0,1,9,10] [0] 0)) (stOf [0,1,9,10] [.rowA 0,.int .u32 t,.int .i64 n,.int .i64 i] [.row RR l])=some (.exit 0,stOf [0] ([.rowA 0]) ([.row RR (wR l t i)]))
 simp only[wC,Bool.and_eq_true,decide_eq_true_eq] at hc
 obtain⟨rfl,h0,h1,h2⟩:=hc
 have h2:=Nat.le_of_ble_eq_true h2
 refine wf62 t l.length (fun j m=>0≤j∧j≤l.length∧m.length=l.length∧wR m t j=wR l t i) (fun j m=>(l.length - j).toNat) _ ?_ _ i l ⟨h0,h1,rfl,rfl⟩
 rintro j m ⟨g0,g1,g2,g3⟩
 unfold r62
 rw[V4 g0 g1 (by omega)]
 by_cases hj:j < l.length
 ·refine Tr.all_t (J0 hj) (Tr.all_t (J0 g0) (Tr.all_t (J0 (by omega)) (Tr.all_ret (.inr ⟨_,_,rfl,⟨by omega,by omega,by rw[List.length_set];exact g2,?_⟩,by omega⟩))))
  rw[←g3]
  exact X1k (fun x=>setT x t) m g0 (by omega)
 ·refine Tr.all_f (X0 hj) (Tr.all_ret (.inl ?_))
  rw[←g3,show wR m t j=m from U26 _ m (by omega)]
def t62 (l:List RRt) (t:Int):Tr Res:=.br (fits l.length 40) (.br (wC l (↑l.length:Int) 0) (.ret ([.rowA 0],[.row RR (wR l t 0)])) .no) .no
def os62:OSpec:={ f:=62,sh:=[.d (.list RR) false,.d (.int .u32) false],so:=[],F:=fun(l,t,_) _=>t62 l t }
theorem fn62 (l:List RRt) (t:Int):evC T0 (orcB [] [os81]) (lpOf (hOwn h62) 0 (lsOf [ls62])) c62 1000000 (Z1 [.list RR l,.int .u32 t] [] Try.f62.ntmps) (J1 T0 true 0 Try.f62)=(t62 l t).get:=by kernel_rfl
theorem ok62:os62.Ok Try.prog:=by
 refine V3 Q1 tab0 (V0 Z0 (all_cons ok81 Z0)) (hOwn h62) (d:=0) (n0:=0) (S:=lsOf [ls62]) Try.func62 (by kernel_rfl) (c:=c62) (by kernel_rfl) rfl (Q5 (xs:=[(0,b62)]) (by kernel_rfl) (all_cons (Q4 J4j) Z0)) (by omega) (by kernel_rfl) ?_
 intro x'' y'' q'' hq''
 obtain⟨(l:List RRt),(t:Int),_⟩:=x''
 exact(fn62 l t).trans hq''
def Qp:OSpec:=os62.like fun(l,t,_) _=>.on (lrB l) ([.rowA 0],[.row RR (Q38 l t)])
theorem ok62w:Qp.Ok Try.prog:=by
 refine Zc ok62 _ ?_
 rintro⟨(l:List RRt),(t:Int),_⟩ _ r' h
 obtain⟨hb,rfl⟩:=Tr.get_on h
 have hb:lrB l=true:=hb
 refine Tr.get_of_all ?_
 show (t62 l t).all _
 unfold t62
 have hl:=Nat.le_of_ble_eq_true hb
 refine Tr.all_t (Zy (by omega) (by omega)) (Tr.all_t (by unfold wC;simp;exact hl) (Tr.all_ret ?_))
 rfl
def minI (x y:Int):Int:=if y < x then y else x
def minL:List Int→Int
 | []=>0
 | x::xs=>xs.foldl minI x
def mnC (l:List Int) (i:Int):Bool:=decide (0≤i)&&(decide (i≤(l.length:Int))&&Nat.ble l.length 1000000)
def mnR (l:List Int) (m i:Int):Int:=(l.drop i.toNat).foldl minI m
noncomputable def b103:Code:=X4 c103 0
def J3i:LoopSpec:={ bid:=0,sh:=[.d (.list (.int .u32)) false,.d (.int .u32) false,.d (.int .i64) false],so:=[],F:=fun(l,m,i,_) _=>.on (mnC l i) (.exit 0,[.int .u32 (mnR l m i)],[]) }
def r103 (l:List Int) (m i:Int):Tr (St⊕(Ex×St)):=.br (decide (i < (↑l.length:Int))) (.br (decide (0≤i)) (.br (decide (i < (↑l.length:Int))) (.ret (.inl (stOf [0,3,4] [.list (.int .u32) l,.int .u32 (if List.getD l i.toNat (Ty.dflt (Ty.int .u32)) < m then List.getD l i.toNat (Ty.dflt (Ty.int .u32)) else m),.int .i64 (IntKind.wrap .i64 (i+1))] []))) .no) .no) (.ret (.inr (.exit 0,stOf [3] [.int .u32 m] [])))
theorem V39 (lp:Lp) (l:List Int) (m i:Int):evC T0 (orcB [] []) lp b103 0 (stOf [0,3,4] [.list (.int .u32) l,.int .u32 m,.int .i64 i] []) (Q0 [0,3,4] [3] 0)=(r103 l m i).get:=by kernel_rfl
theorem wf103 (l:List Int) (I'':Int→Int→Prop) (m'':Int→Int→Nat) (r'':Ex×St) (h:∀ (m i:Int),I'' m i→(r103 l m i).all fun x''=>x''=.inr r''∨∃ (m' i':Int),x''=.inl (stOf [0,3,4] [.list (.int .u32) l,.int .u32 m',.int .i64 i'] [])∧I'' m' i'∧m'' m' i' < m'' m i) (lp:Lp) (m i:Int):I'' m i→
    X2 (fun st=>evC T0 (orcB [] []) lp b103 0 st (Q0 [0,3,4] [3] 0)) (stOf [0,3,4] [.list (.int .u32) l,.int .u32 m,.int .i64 i] [])=some r'':=
 U4 (fun a'':Int×Int=>stOf [0,3,4] [.list (.int .u32) l,.int .u32 a''.1,.int .i64 a''.2] []) (fun a''=>I'' a''.1 a''.2) (fun a''=>m'' a''.1 a''.2) r'' (fun a''=>r103 l a''.1 a''.2)
  (fun a'' x hx=>(V39 lp l a''.1 a''.2).trans hx) (fun a'' ha=>Tr.all_mono (fun x'' hx=>hx.imp id fun⟨m',i',h1,h2,h3⟩=>⟨(m',i'),h1,h2,h3⟩) (h (a''.1) (a''.2) ha)) (m,i)
theorem V3u:J3i.Ok T0 (orcB [] []) h103 0 0 b103:=by
 intro q'' hq'' x'' y'' r'' h
 obtain⟨(l:List Int),(m:Int),(i:Int),_⟩:=x''
 obtain⟨hc,rfl⟩:=Tr.get_on h
 show X2 (fun st=>evC T0 (orcB [] []) (lpN T0 (orcB [] []) h103 0 q'') b103 0 st (Q0 [0,3,4] [3] 0)) (stOf [0,3,4] [.list (.int .u32) l,.int .u32 m,.int .i64 i] [])=some (.exit 0,stOf [3] ([.int .u32 (mnR l m i)]) ([]))
 simp only[mnC,Bool.and_eq_true,decide_eq_true_eq] at hc
 obtain⟨h0,h1,h2⟩:=hc
 have h2:=Nat.le_of_ble_eq_true h2
 refine wf103 l (fun w j=>0≤j∧j≤l.length∧mnR l w j=mnR l m i) (fun w j=>(l.length - j).toNat) _ ?_ _ m i ⟨h0,h1,rfl⟩
 rintro w j ⟨g0,g1,g2⟩
 unfold r103
 rw[V4 g0 g1 (by omega)]
 by_cases hj:j < l.length
 ·refine Tr.all_t (J0 hj) (Tr.all_t (J0 g0) (Tr.all_t (J0 hj) (Tr.all_ret (.inr ⟨_,_,rfl,⟨by omega,by omega,?_⟩,by omega⟩))))
  rw[←g2]
  unfold mnR
  rw[Z5 (l:=l) (k:=j.toNat) (by omega) 0,show (j+1).toNat=j.toNat+1 by omega]
  rfl
 ·refine Tr.all_f (X0 hj) (Tr.all_ret (.inl ?_))
  rw[←g2]
  unfold mnR
  rw[List.drop_eq_nil_of_le (by omega)]
  rfl
def t103 (l:List Int):Tr Res:=.br (decide ((↑l.length:Int) < 1)) .no (.br (decide (0 < (↑l.length:Int))) (.br (mnC l 1) (.ret ([.int .u32 (mnR l (l.getD (Int.toNat 0) (Ty.dflt (Ty.int .u32))) 1)],[])) .no) .no)
def os103:OSpec:={ f:=103,sh:=[.d (.list (.int .u32)) false],so:=[],F:=fun(l,_) _=>t103 l }
theorem fn103 (l:List Int):evC T0 (orcB [] []) (lpOf h103 0 (lsOf [J3i])) c103 1000000 (Z1 [.list (.int .u32) l] [] Try.f103.ntmps) (J1 T0 false 0 Try.f103)=(t103 l).get:=by kernel_rfl
theorem ok103:os103.Ok Try.prog:=by
 refine V3 Q1 tab0 (V0 Z0 Z0) h103 (d:=0) (n0:=0) (S:=lsOf [J3i]) Try.func103 (by kernel_rfl) (c:=c103) (by kernel_rfl) rfl (Q5 (xs:=[(0,b103)]) (by kernel_rfl) (all_cons (Q4 V3u) Z0)) (by omega) (by kernel_rfl) ?_
 intro x'' y'' q'' hq''
 obtain⟨(l:List Int),_⟩:=x''
 exact(fn103 l).trans hq''
def Z4a:FSpec:=fsT 103 [((.list (.int .u32)),false)] [((.int .u32),false)] fun(l,_)=>t103 l
theorem X4c:Z4a.Ok Try.prog:=X5 fun x'' r'' hr''=>ok103 x'' () r'' hr''
def mnP (l:List Int):Bool:=Nat.ble 1 l.length&&Nat.ble l.length 1000000
def X3c:FSpec:=Z4a.like fun(l,_)=>.on (mnP l) (minL l,())
theorem X41:X3c.Ok Try.prog:=by
 refine J3 X4c _ ?_
 rintro⟨(l:List Int),_⟩ y h
 obtain⟨hb,rfl⟩:=Tr.get_on h
 obtain⟨h1,h2⟩:=Bool.and_eq_true_iff.1 (show (Nat.ble 1 l.length&&Nat.ble l.length 1000000)=true from hb)
 have h1:=Nat.le_of_ble_eq_true h1
 refine J2 (vs:=[.int .u32 (minL l)]) rfl rfl (Tr.get_of_all ?_)
 show (t103 l).all _
 unfold t103
 have hm:mnC l 1=true:=by unfold mnC;rw[h2,J0 (show (1:Int)≤(l.length:Int) by omega)];rfl
 refine Tr.all_f (X0 (by omega)) (Tr.all_t (J0 (by omega)) (Tr.all_t hm (Tr.all_ret ?_)))
 cases l with
 | nil=>simp at h1
 | cons a l=>rfl
def t100 (l:List Int):Tr Res:=.br ((↑l.length:Int)==0) (.ret ([.int .u32 0],[])) (.br (mnP l) (.ret ([.int .u32 (minL l)],[])) .no)
def os100:OSpec:={ f:=100,sh:=[.d (.list (.int .u32)) false],so:=[],F:=fun(l,_) _=>t100 l }
theorem fn100 (l:List Int):evC T0 (orcB [X3c] []) (lpOf h100 0 (lsOf [])) c100 1000000 (Z1 [.list (.int .u32) l] [] Try.f100.ntmps) (J1 T0 false 0 Try.f100)=(t100 l).get:=by kernel_rfl
theorem ok100:os100.Ok Try.prog:=by
 refine V3 Q1 tab0 (V0 (all_cons X41 Z0) Z0) h100 (d:=0) (n0:=0) (S:=lsOf []) Try.func100 (by kernel_rfl) (c:=c100) (by kernel_rfl) rfl (Z2 (by kernel_rfl)) (by omega) (by kernel_rfl) ?_
 intro x'' y'' q'' hq''
 obtain⟨(l:List Int),_⟩:=x''
 exact(fn100 l).trans hq''
def V47:FSpec:=fsT 100 [((.list (.int .u32)),false)] [((.int .u32),false)] fun(l,_)=>t100 l
theorem J4i:V47.Ok Try.prog:=X5 fun x'' r'' hr''=>ok100 x'' () r'' hr''
def V0k:FSpec:=V47.like fun(l,_)=>.on (Nat.ble l.length 1000000) (minL l,())
theorem Z42:V0k.Ok Try.prog:=by
 refine J3 J4i _ ?_
 rintro⟨(l:List Int),_⟩ y h
 obtain⟨hb,rfl⟩:=Tr.get_on h
 have hb:Nat.ble l.length 1000000=true:=hb
 refine J2 (vs:=[.int .u32 (minL l)]) rfl rfl (Tr.get_of_all ?_)
 show (t100 l).all _
 unfold t100
 cases l with
 | nil=>exact Tr.all_t rfl (Tr.all_ret rfl)
 | cons a l=>
   refine Tr.all_f (by simp;omega) (Tr.all_t ?_ (Tr.all_ret rfl))
   unfold mnP
   rw[hb]
   rfl
def ttls (l:List RRt):List Int:=l.map fun x=>x.2.2.2.1
def lsC (l:List RRt) (n i:Int) (acc:List Int):Bool:=decide (n=(l.length:Int))&&(decide (0≤i)&&(decide (i≤n)&&Nat.ble (acc.length+l.length) 10000000))
noncomputable def b87:Code:=X4 c87 0
def ls87:LoopSpec:={ bid:=0,sh:=[.row 0,.d (.list RR) false,.d (.int .i64) false,.d (.int .i64) false],so:=[.row (.int .u32)],F:=fun(l,n,i,_) (acc,_)=>.on (lsC l n i acc) (.exit 0,[.rowA 0],[.row (.int .u32) (acc++ttls (l.drop i.toNat))]) }
def r87 (l:List RRt) (n i:Int) (acc:List Int):Tr (St⊕(Ex×St)):=.br (decide (i < n)) (.br (decide (0≤i)) (.br (decide (i < (↑l.length:Int))) (.br (fits (List.length acc+1) 4) (.ret (.inl (stOf [3,6,7,8] [.rowA 0,.list RR l,.int .i64 n,.int .i64 (IntKind.wrap .i64 (i+1))] [.row (.int .u32) (acc++[(l.getD i.toNat (Ty.dflt RR)).2.2.2.1])]))) .no) .no) .no) (.ret (.inr (.exit 0,stOf [3] [.rowA 0] [.row (.int .u32) acc])))
theorem Q3s (lp:Lp) (l:List RRt) (n i:Int) (acc:List Int):evC T0 (orcB [V0k] []) lp b87 0 (stOf [3,6,7,8] [.rowA 0,.list RR l,.int .i64 n,.int .i64 i] [.row (.int .u32) acc]) (Q0 [3,6,7,8] [3] 0)=(r87 l n i acc).get:=by kernel_rfl
theorem wf87 (l:List RRt) (n:Int) (I'':Int→List Int→Prop) (m'':Int→List Int→Nat) (r'':Ex×St) (h:∀ (i:Int) (acc:List Int),I'' i acc→(r87 l n i acc).all fun x''=>x''=.inr r''∨∃ (i':Int) (acc':List Int),x''=.inl (stOf [3,6,7,8] [.rowA 0,.list RR l,.int .i64 n,.int .i64 i'] [.row (.int .u32) acc'])∧I'' i' acc'∧m'' i' acc' < m'' i acc) (lp:Lp) (i:Int) (acc:List Int):I'' i acc→
    X2 (fun st=>evC T0 (orcB [V0k] []) lp b87 0 st (Q0 [3,6,7,8] [3] 0)) (stOf [3,6,7,8] [.rowA 0,.list RR l,.int .i64 n,.int .i64 i] [.row (.int .u32) acc])=some r'':=
 U4 (fun a'':Int×List Int=>stOf [3,6,7,8] [.rowA 0,.list RR l,.int .i64 n,.int .i64 a''.1] [.row (.int .u32) a''.2]) (fun a''=>I'' a''.1 a''.2) (fun a''=>m'' a''.1 a''.2) r'' (fun a''=>r87 l n a''.1 a''.2)
  (fun a'' x hx=>(Q3s lp l n a''.1 a''.2).trans hx) (fun a'' ha=>Tr.all_mono (fun x'' hx=>hx.imp id fun⟨i',acc',h1,h2,h3⟩=>⟨(i',acc'),h1,h2,h3⟩) (h (a''.1) (a''.2) ha)) (i,acc)
theorem V4g:ls87.Ok T0 (orcB [V0k] []) h87 0 0 b87:=by
 intro q'' hq'' x'' y'' r'' h
 obtain⟨(l:List RRt),(n:Int),(i:Int),_⟩:=x''
 obtain⟨(acc:List Int),_⟩:=y''
 obtain⟨hc,rfl⟩:=Tr.get_on h
 show X2 (fun st=>evC T0 (orcB [V0k] []) (lpN T0 (orcB [V0k] []) h87 0 q'') b87 0 st (Q0 [3,6,7,8] [3] 0)) (stOf [3,6,7,8] [.rowA 0,.list RR l,.int .i64 n,.int .i64 i] [.row (.int .u32) acc])=some (.exit 0,stOf [3] ([.rowA 0]) ([.row (.int .u32) (acc++ttls (l.drop i.toNat))]))
 simp only[lsC,Bool.and_eq_true,decide_eq_true_eq] at hc
 obtain⟨rfl,h0,h1,h2⟩:=hc
 have h2:=Nat.le_of_ble_eq_true h2
 refine wf87 l l.length (fun j w=>0≤j∧j≤l.length∧(w.length:Int)+(l.length - j)≤10000000∧w++ttls (l.drop j.toNat)=acc++ttls (l.drop i.toNat)) (fun j w=>(l.length - j).toNat) _ ?_ _ i acc ⟨h0,h1,by omega,rfl⟩
 rintro j w ⟨g0,g1,g3,g2⟩
 unfold r87
 rw[V4 g0 g1 (by omega)]
 by_cases hj:j < l.length
 ·refine Tr.all_t (J0 hj) (Tr.all_t (J0 g0) (Tr.all_t (J0 hj) (Tr.all_t (Zy (by omega) (by omega)) (Tr.all_ret (.inr ⟨_,_,rfl,⟨by omega,by omega,by rw[List.length_append,List.length_singleton];omega,?_⟩,by omega⟩)))))
  rw[←g2]
  rw[Z5 (l:=l) (k:=j.toNat) (by omega) (Ty.dflt RR),show (j+1).toNat=j.toNat+1 by omega]
  simp[ttls]
 ·refine Tr.all_f (X0 hj) (Tr.all_ret (.inl ?_))
  rw[←g2]
  rw[List.drop_eq_nil_of_le (by omega)]
  simp[ttls]
def t87 (l:List RRt):Tr Res:=.br (lsC l (↑l.length:Int) 0 []) (.br (Nat.ble (List.length ([]++ttls (List.drop (Int.toNat 0) l))) 1000000) (.ret ([.int .u32 (minL ([]++ttls (List.drop (Int.toNat 0) l)))],[])) .no) .no
def os87:OSpec:={ f:=87,sh:=[.d (.list RR) false],so:=[],F:=fun(l,_) _=>t87 l }
theorem fn87 (l:List RRt):evC T0 (orcB [V0k] []) (lpOf h87 0 (lsOf [ls87])) c87 1000000 (Z1 [.list RR l] [] Try.f87.ntmps) (J1 T0 false 0 Try.f87)=(t87 l).get:=by kernel_rfl
theorem ok87:os87.Ok Try.prog:=by
 refine V3 Q1 tab0 (V0 (all_cons Z42 Z0) Z0) h87 (d:=0) (n0:=0) (S:=lsOf [ls87]) Try.func87 (by kernel_rfl) (c:=c87) (by kernel_rfl) rfl (Q5 (xs:=[(0,b87)]) (by kernel_rfl) (all_cons (Q4 V4g) Z0)) (by omega) (by kernel_rfl) ?_
 intro x'' y'' q'' hq''
 obtain⟨(l:List RRt),_⟩:=x''
 exact(fn87 l).trans hq''
def fs87:FSpec:=fsT 87 [((.list RR),false)] [((.int .u32),false)] fun(l,_)=>t87 l
theorem okf87:fs87.Ok Try.prog:=X5 fun x'' r'' hr''=>ok87 x'' () r'' hr''
def U1b:FSpec:=fs87.like fun(l,_)=>.on (lrB l) (minL (ttls l),())
theorem Z4f:U1b.Ok Try.prog:=by
 refine J3 okf87 _ ?_
 rintro⟨(l:List RRt),_⟩ y h
 obtain⟨hb,rfl⟩:=Tr.get_on h
 have hb:lrB l=true:=hb
 have hl:=Nat.le_of_ble_eq_true hb
 refine J2 (vs:=[.int .u32 (minL (ttls l))]) rfl rfl (Tr.get_of_all ?_)
 show (t87 l).all _
 unfold t87
 refine Tr.all_t ?_ (Tr.all_t ?_ (Tr.all_ret rfl))
 ·unfold lsC
  rw[Nat.ble_eq_true_of_le (by simp;omega)]
  simp
 ·simp[ttls]
  exact hl
def clT (most:Int) (x:RRt):RRt:=setT x (Vy x.2.2.2.1 most)
noncomputable def b61:Code:=X4 c61 0
def ls61:LoopSpec:={ bid:=0,sh:=[.row 0,.d (.int .u32) false,.row 0,.d (.int .i64) false,.d (.int .i64) false],so:=[.row RR],F:=fun(t,n,i,_) (l,_)=>.on (wC l n i) (.exit 0,[.rowA 0],[.row RR (mapR (clT t) l i)]) }
def r61 (t n i:Int) (l:List RRt):Tr (St⊕(Ex×St)):=.br (decide (i < n)) (.br (decide (0≤i)) (.br (decide (i < (↑l.length:Int))) (.br (decide (0≤i)) (.br (decide (i < (↑l.length:Int))) (.ret (.inl (stOf [0,1,9,10,11] [.rowA 0,.int .u32 t,.rowA 0,.int .i64 n,.int .i64 (IntKind.wrap .i64 (i+1))] [.row RR (List.set l i.toNat ((l.getD i.toNat (Ty.dflt RR)).1,(l.getD i.toNat (Ty.dflt RR)).2.1,(l.getD i.toNat (Ty.dflt RR)).2.2.1,Vy (l.getD i.toNat (Ty.dflt RR)).2.2.2.1 t,(l.getD i.toNat (Ty.dflt RR)).2.2.2.2))]))) .no) .no) .no) .no) (.ret (.inr (.exit 0,stOf [0] [.rowA 0] [.row RR l])))
theorem X43 (lp:Lp) (t n i:Int) (l:List RRt):evC T0 (orcB [V18,U1b] [os81]) lp b61 0 (stOf [0,1,9,10,11] [.rowA 0,.int .u32 t,.rowA 0,.int .i64 n,.int .i64 i] [.row RR l]) (Q0 [0,1,9,10,11] [0] 0)=(r61 t n i l).get:=by kernel_rfl
theorem wf61 (t n:Int) (I'':Int→List RRt→Prop) (m'':Int→List RRt→Nat) (r'':Ex×St) (h:∀ (i:Int) (l:List RRt),I'' i l→(r61 t n i l).all fun x''=>x''=.inr r''∨∃ (i':Int) (l':List RRt),x''=.inl (stOf [0,1,9,10,11] [.rowA 0,.int .u32 t,.rowA 0,.int .i64 n,.int .i64 i'] [.row RR l'])∧I'' i' l'∧m'' i' l' < m'' i l) (lp:Lp) (i:Int) (l:List RRt):I'' i l→
    X2 (fun st=>evC T0 (orcB [V18,U1b] [os81]) lp b61 0 st (Q0 [0,1,9,10,11] [0] 0)) (stOf [0,1,9,10,11] [.rowA 0,.int .u32 t,.rowA 0,.int .i64 n,.int .i64 i] [.row RR l])=some r'':=
 U4 (fun a'':Int×List RRt=>stOf [0,1,9,10,11] [.rowA 0,.int .u32 t,.rowA 0,.int .i64 n,.int .i64 a''.1] [.row RR a''.2]) (fun a''=>I'' a''.1 a''.2) (fun a''=>m'' a''.1 a''.2) r'' (fun a''=>r61 t n a''.1 a''.2)
  (fun a'' x hx=>(X43 lp t n a''.1 a''.2).trans hx) (fun a'' ha=>Tr.all_mono (fun x'' hx=>hx.imp id fun⟨i',l',h1,h2,h3⟩=>⟨(i',l'),h1,h2,h3⟩) (h (a''.1) (a''.2) ha)) (i,l)
theorem Z4k:ls61.Ok T0 (orcB [V18,U1b] [os81]) h61 0 0 b61:=by
 intro q'' hq'' x'' y'' r'' h
 obtain⟨(t:Int),(n:Int),(i:Int),_⟩:=x''
 obtain⟨(l:List RRt),_⟩:=y''
 obtain⟨hc,rfl⟩:=Tr.get_on h
 show X2 (fun st=>evC T0 (orcB [V18,U1b] [os81]) (lpN T0 (orcB [V18,U1b] [os81]) h61 0 q'') b61 0 st (Q0 [0,1,9,10,11] [0] 0)) (stOf [0,1,9,10,11] [.rowA 0,.int .u32 t,.rowA 0,.int .i64 n,.int .i64 i] [.row RR l])=some (.exit 0,stOf [0] ([.rowA 0]) ([.row RR (mapR (clT t) l i)]))
 simp only[wC,Bool.and_eq_true,decide_eq_true_eq] at hc
 obtain⟨rfl,h0,h1,h2⟩:=hc
 have h2:=Nat.le_of_ble_eq_true h2
 refine wf61 t l.length (fun j m=>0≤j∧j≤l.length∧m.length=l.length∧mapR (clT t) m j=mapR (clT t) l i) (fun j m=>(l.length - j).toNat) _ ?_ _ i l ⟨h0,h1,rfl,rfl⟩
 rintro j m ⟨g0,g1,g2,g3⟩
 unfold r61
 rw[V4 g0 g1 (by omega)]
 by_cases hj:j < l.length
 ·refine Tr.all_t (J0 hj) (Tr.all_t (J0 g0) (Tr.all_t (J0 (by omega)) (Tr.all_t (J0 g0) (Tr.all_t (J0 (by omega)) (Tr.all_ret (.inr ⟨_,_,rfl,⟨by omega,by omega,by rw[List.length_set];exact g2,?_⟩,by omega⟩))))))
  rw[←g3]
  exact X1k (clT t) m g0 (by omega)
 ·refine Tr.all_f (X0 hj) (Tr.all_ret (.inl ?_))
  rw[←g3,U26 _ m (by omega)]
def t61 (l:List RRt) (t:Int):Tr Res:=.br (fits l.length 40) (.br (wC l (↑l.length:Int) 0) (.br (lrB (mapR (clT t) l 0)) (.ret ([.int .u32 (minL (ttls (mapR (clT t) l 0)))],[])) .no) .no) .no
def os61:OSpec:={ f:=61,sh:=[.d (.list RR) false,.d (.int .u32) false],so:=[],F:=fun(l,t,_) _=>t61 l t }
theorem fn61 (l:List RRt) (t:Int):evC T0 (orcB [V18,U1b] [os81]) (lpOf h61 0 (lsOf [ls61])) c61 1000000 (Z1 [.list RR l,.int .u32 t] [] Try.f61.ntmps) (J1 T0 false 0 Try.f61)=(t61 l t).get:=by kernel_rfl
theorem ok61:os61.Ok Try.prog:=by
 refine V3 Q1 tab0 (V0 (all_cons Q4a (all_cons Z4f Z0)) (all_cons ok81 Z0)) h61 (d:=0) (n0:=0) (S:=lsOf [ls61]) Try.func61 (by kernel_rfl) (c:=c61) (by kernel_rfl) rfl (Q5 (xs:=[(0,b61)]) (by kernel_rfl) (all_cons (Q4 Z4k) Z0)) (by omega) (by kernel_rfl) ?_
 intro x'' y'' q'' hq''
 obtain⟨(l:List RRt),(t:Int),_⟩:=x''
 exact(fn61 l t).trans hq''
def fs61:FSpec:=fsT 61 [((.list RR),false),((.int .u32),false)] [((.int .u32),false)] fun(l,t,_)=>t61 l t
theorem okf61:fs61.Ok Try.prog:=X5 fun x'' r'' hr''=>ok61 x'' () r'' hr''
def Jq (l:List RRt) (most:Int):Int:=minL (l.map fun x=>Vy x.2.2.2.1 most)
def Jo:FSpec:=fs61.like fun(l,t,_)=>.on (lrB l) (Jq l t,())
theorem V4i:Jo.Ok Try.prog:=by
 refine J3 okf61 _ ?_
 rintro⟨(l:List RRt),(t:Int),_⟩ y h
 obtain⟨hb,rfl⟩:=Tr.get_on h
 have hb:lrB l=true:=hb
 have hl:=Nat.le_of_ble_eq_true hb
 refine J2 (vs:=[.int .u32 (Jq l t)]) rfl rfl (Tr.get_of_all ?_)
 show (t61 l t).all _
 unfold t61
 have hm:mapR (clT t) l 0=l.map (clT t):=by simp[mapR]
 refine Tr.all_t (Zy (by omega) (by omega)) (Tr.all_t (by unfold wC;simp;exact hl) (Tr.all_t ?_ (Tr.all_ret ?_)))
 ·rw[hm]
  unfold lrB
  rw[List.length_map]
  exact hb
 ·rw[hm]
  unfold Jq ttls
  rw[List.map_map]
  rfl
def t59 (r:RRt) (z:List UInt8):Tr Res:=.br (r.2.2.1==1) (.br (smN r.1&&smN z) (.br (undV r.1 z) (.br (Q1j r) (.ret ([.bool (recV r)],[])) .no) (.ret ([.bool false],[]))) .no) (.ret ([.bool false],[]))
def os59:OSpec:={ f:=59,sh:=[.d RR true,.d .str false],so:=[],F:=fun(r,z,_) _=>t59 r z }
theorem fn59 (r:RRt) (z:List UInt8):evC T0 (orcB [Ub,Vm] []) (lpOf h59 0 (lsOf [])) c59 1000000 (Z1 [AV.ofTy RR r true,.str z] [] Try.f59.ntmps) (J1 T0 false 0 Try.f59)=(t59 r z).get:=by kernel_rfl
theorem ok59:os59.Ok Try.prog:=by
 refine V3 Q1 tab0 (V0 (all_cons J07 (all_cons J35 Z0)) Z0) h59 (d:=0) (n0:=0) (S:=lsOf []) Try.func59 (by kernel_rfl) (c:=c59) (by kernel_rfl) rfl (Z2 (by kernel_rfl)) (by omega) (by kernel_rfl) ?_
 intro x'' y'' q'' hq''
 obtain⟨(r:RRt),(z:List UInt8),_⟩:=x''
 exact(fn59 r z).trans hq''
def fs59:FSpec:=fsT 59 [(RR,true),(.str,false)] [(.bool,false)] fun(r,z,_)=>t59 r z
theorem okf59:fs59.Ok Try.prog:=X5 fun x'' r'' hr''=>ok59 x'' () r'' hr''
def okR (r:RRt):Bool:=Nat.ble r.1.length 1000000&&Nat.ble r.2.2.2.2.length 1000000
def inV (z:List UInt8) (r:RRt):Bool:=r.2.2.1==1&&(undV r.1 z&&recV r)
def Xi:FSpec:=fs59.like fun(r,z,_)=>.on (okR r&&smN z) (inV z r,())
theorem X1v {r:RRt}:okR r=true↔r.1.length≤1000000∧r.2.2.2.2.length≤1000000:=by
 unfold okR
 rw[Bool.and_eq_true]
 exact⟨fun⟨a,b⟩=>⟨Nat.le_of_ble_eq_true a,Nat.le_of_ble_eq_true b⟩,fun⟨a,b⟩=>⟨Nat.ble_eq_true_of_le a,Nat.ble_eq_true_of_le b⟩⟩
theorem V4c {r:RRt} (h:okR r=true):Q1j r=true:=by
 obtain⟨a,b⟩:=X1v.1 h
 unfold Q1j
 rw[Ql (by omega),Ql (by omega)]
 rfl
theorem Q3d {r:RRt} (h:okR r=true):smN r.1=true:=Jx.2 (X1v.1 h).1
theorem V1w:Xi.Ok Try.prog:=by
 refine J3 okf59 _ ?_
 rintro⟨(r:RRt),(z:List UInt8),_⟩ y h
 obtain⟨hb,rfl⟩:=Tr.get_on h
 obtain⟨h1,h2⟩:=Bool.and_eq_true_iff.1 (show (okR r&&smN z)=true from hb)
 refine J2 (vs:=[.bool (inV z r)]) rfl rfl (Tr.get_of_all ?_)
 show (t59 r z).all _
 unfold t59 inV
 have hs:(smN r.1&&smN z)=true:=by rw[Q3d h1,h2];rfl
 refine Tr.all_br (fun c=>Tr.all_t hs (Tr.all_br (fun c2=>Tr.all_t (V4c h1) (Tr.all_ret ?_)) fun c2=>Tr.all_ret ?_)) fun c=>Tr.all_ret ?_
 ·rw[c,c2];rfl
 ·rw[c,c2];rfl
 ·rw[c];rfl
def idxL {α:Type} (f:α→Bool):List α→Nat→Int
 | [],_=>-1
 | x::l,k=>if f x=true then (k:Int) else idxL f l (k+1)
theorem V02 {α:Type} (f:α→Bool) (d:α):∀ (l:List α) (k:Nat),(idxL f l k=-1∧l.find? f=none)∨(∃ j:Nat,idxL f l k=((k+j:Nat):Int)∧j < l.length∧l.find? f=some (l.getD j d))
 | [],k=>.inl ⟨rfl,rfl⟩
 | x::l,k=>by
   unfold idxL
   by_cases h:f x=true
   ·rw[if_pos h]
    exact .inr ⟨0,by simp,by simp,by simp[h]⟩
   ·rw[if_neg h]
    rcases V02 f d l (k+1) with ⟨h1,h2⟩ | ⟨j,h1,h2,h3⟩
    ·exact .inl ⟨h1,by rw[List.find?_cons_of_neg h];exact h2⟩
    ·exact .inr ⟨j+1,by rw[h1];omega,by simp;omega,by rw[List.find?_cons_of_neg h,h3];simp⟩
def fstV (p:RRt→Bool) (l:List RRt):RRt×Bool:=match l.find? p with | some r=>(r,true) | none=>(Ty.dflt RR,false)
def okL (l:List RRt):Bool:=lrB l&&l.all okR
theorem Z0p {l:List RRt} (h:l.all okR=true) {i:Int} (h0:0≤i) (h1:i < l.length):okR (l.getD i.toNat (Ty.dflt RR))=true:=by
 rw[List.getD_eq_getElem?_getD,List.getElem?_eq_getElem (by omega)]
 exact List.all_eq_true.1 h _ (List.getElem_mem _)
def okF (l:List RRt) (z n:List UInt8):Bool:=okL l&&(smN z&&smN n)
def ixF (l:List RRt) (z n:List UInt8) (m i:Int):Bool:=okF l z n&&(decide (m=(l.length:Int))&&decide (i=0))
def J8 (qn:List UInt8) (qt qc:Int) (r:RRt):Bool:=r.1==qn&&(r.2.1==qt&&r.2.2.1==qc)
def t70 (r:RRt) (qn:List UInt8) (qt qc:Int):Tr Res:=.ret ([.bool ((keyV r).1==qn&&((keyV r).2.1==qt&&((keyV r).2.2==qc&&true)))],[.boxT none [.str qn,.int .u16 qt,.int .u16 qc]])
def os70:OSpec:={ f:=70,sh:=[.d RR true,.ptr 0 0],so:=[.box [.d .str false,.d (.int .u16) false,.d (.int .u16) false]],F:=fun(r,_) ((qn,qt,qc,_),_)=>t70 r qn qt qc }
theorem fn70 (r:RRt) (qn:List UInt8) (qt qc:Int):evC T0 (orcB [Qj] []) (lpOf h70 1 (lsOf [])) c70 1000000 (Z1 [AV.ofTy RR r true,.ptr 0 0] [.box [.str qn,.int .u16 qt,.int .u16 qc]] Try.f70.ntmps) (J1 T0 false 1 Try.f70)=(t70 r qn qt qc).get:=by kernel_rfl
theorem ok70:os70.Ok Try.prog:=by
 refine V3 Q1 tab0 (V0 (all_cons J2g Z0) Z0) h70 (d:=0) (n0:=1) (S:=lsOf []) Try.func70 (by kernel_rfl) (c:=c70) (by kernel_rfl) rfl (Z2 (by kernel_rfl)) (by omega) (by kernel_rfl) ?_
 intro x'' y'' q'' hq''
 obtain⟨(r:RRt),_⟩:=x''
 obtain⟨⟨(qn:List UInt8),(qt:Int),(qc:Int),_⟩,_⟩:=y''
 exact(fn70 r qn qt qc).trans hq''
def Q44:OSpec:=os70.like fun(r,_) ((qn,qt,qc,_),_)=>.on (okR r&&smN qn) ([.bool (J8 qn qt qc r)],[.box [.str qn,.int .u16 qt,.int .u16 qc]])
theorem ok70w:Q44.Ok Try.prog:=by
 refine Zc ok70 _ ?_
 rintro⟨(r:RRt),_⟩ ⟨⟨(qn:List UInt8),(qt:Int),(qc:Int),_⟩,_⟩ r' h
 obtain⟨hb,rfl⟩:=Tr.get_on h
 obtain⟨h1,h2⟩:=Bool.and_eq_true_iff.1 (show (okR r&&smN qn)=true from hb)
 refine Tr.get_of_all ?_
 show (t70 r qn qt qc).all _
 unfold t70 J8
 exact Tr.all_ret (by cases h1:r.1==qn<;>cases h2:r.2.1==qt<;>cases h3:r.2.2.1==qc<;>simp[keyV,h1,h2,h3])
def t89k (r:RRt) (z qn:List UInt8) (qt qc:Int):Tr Res:=.br (okR r&&smN z) (.br (inV z r) (.br (okR r&&smN qn) (.ret ([.bool (J8 qn qt qc r)],[.boxT none [.str z],.boxT none [AV.fn 70 [.ptr 2 0]],.boxT none [.str qn,.int .u16 qt,.int .u16 qc]])) .no) (.ret ([.bool false],[.boxT none [.str z],.boxT none [AV.fn 70 [.ptr 2 0]],.boxT none [.str qn,.int .u16 qt,.int .u16 qc]]))) .no
def X45:OSpec:={ f:=89,sh:=[.d RR true,.ptr 0 0,.ptr 1 0],so:=[.box [.d .str false],.box [.fnp 70 [(2,0)]],.box [.d .str false,.d (.int .u16) false,.d (.int .u16) false]],F:=fun(r,_) ((z,_),_,(qn,qt,qc,_),_)=>t89k r z qn qt qc }
theorem fn89k (r:RRt) (z qn:List UInt8) (qt qc:Int):evC T0 (orcB [Xi] [Q44]) (lpOf h89 3 (lsOf [])) c89 1000000 (Z1 [AV.ofTy RR r true,.ptr 0 0,.ptr 1 0] [.box [.str z],.box [.fn 70 [.ptr 2 0]],.box [.str qn,.int .u16 qt,.int .u16 qc]] Try.f89.ntmps) (J1 T0 false 3 Try.f89)=(t89k r z qn qt qc).get:=by kernel_rfl
theorem ok89k:X45.Ok Try.prog:=by
 refine V3 Q1 tab0 (V0 (all_cons V1w Z0) (all_cons ok70w Z0)) h89 (d:=0) (n0:=3) (S:=lsOf []) Try.func89 (by kernel_rfl) (c:=c89) (by kernel_rfl) rfl (Z2 (by kernel_rfl)) (by omega) (by kernel_rfl) ?_
 intro x'' y'' q'' hq''
 obtain⟨(r:RRt),_⟩:=x''
 obtain⟨⟨(z:List UInt8),_⟩,_,⟨(qn:List UInt8),(qt:Int),(qc:Int),_⟩,_⟩:=y''
 exact(fn89k r z qn qt qc).trans hq''
def V0j:OSpec:=X45.like fun(r,_) ((z,_),_,(qn,qt,qc,_),_)=>.on (okR r&&(smN z&&smN qn)) ([.bool (inV z r&&J8 qn qt qc r)],[.box [.str z],.box [.fn 70 [.ptr 2 0]],.box [.str qn,.int .u16 qt,.int .u16 qc]])
theorem U4b:V0j.Ok Try.prog:=by
 refine Zc ok89k _ ?_
 rintro⟨(r:RRt),_⟩ ⟨⟨(z:List UInt8),_⟩,_,⟨(qn:List UInt8),(qt:Int),(qc:Int),_⟩,_⟩ r' h
 obtain⟨hb,rfl⟩:=Tr.get_on h
 obtain⟨h1,h2⟩:=Bool.and_eq_true_iff.1 (show (okR r&&(smN z&&smN qn))=true from hb)
 obtain⟨h2,h3⟩:=Bool.and_eq_true_iff.1 h2
 refine Tr.get_of_all ?_
 show (t89k r z qn qt qc).all _
 unfold t89k
 refine Tr.all_t (by rw[h1,h2];rfl) (Tr.all_br (fun c=>Tr.all_t (by rw[h1,h3];rfl) (Tr.all_ret (by rw[c];rfl))) fun c=>Tr.all_ret (by rw[c];rfl))
noncomputable def b88k:Code:=X4 c88 0
def J3k:LoopSpec:={ bid:=0,sh:=[.d (.list RR) false,.fnp 89 [(0,0),(1,0)],.d (.int .i64) false,.d (.int .i64) false],so:=[.box [.d .str false],.box [.fnp 70 [(2,0)]],.box [.d .str false,.d (.int .u16) false,.d (.int .u16) false]],F:=fun(l,m,i,_) ((z,_),_,(qn,qt,qc,_),_)=>.on2 (ixF l z qn m i) (decide (idxL (fun r=>inV z r&&J8 qn qt qc r) l 0 < 0)) (.exit 0,[.dead],[.box [.str z],.box [.fn 70 [.ptr 2 0]],.box [.str qn,.int .u16 qt,.int .u16 qc]]) (.ret,[.int .i64 (idxL (fun r=>inV z r&&J8 qn qt qc r) l 0)],[.box [.str z],.box [.fn 70 [.ptr 2 0]],.box [.str qn,.int .u16 qt,.int .u16 qc]]) }
def r88k (l:List RRt) (m i:Int) (z qn:List UInt8) (qt qc:Int):Tr (St⊕(Ex×St)):=.br (decide (i < m)) (.br (decide (0≤i)) (.br (decide (i < (↑l.length:Int))) (.br (okR (l.getD i.toNat (Ty.dflt RR))&&(smN z&&smN qn)) (.br (inV z (l.getD i.toNat (Ty.dflt RR))&&J8 qn qt qc (l.getD i.toNat (Ty.dflt RR))) (.ret (.inr (.ret,stOf [4] [.int .i64 i] [.boxT none [.str z],.boxT none [AV.fn 70 [.ptr 2 0]],.boxT none [.str qn,.int .u16 qt,.int .u16 qc]]))) (.ret (.inl (stOf [0,1,7,8] [.list RR l,AV.fn 89 [.ptr 0 0,.ptr 1 0],.int .i64 m,.int .i64 (IntKind.wrap .i64 (i+1))] [.boxT none [.str z],.boxT none [AV.fn 70 [.ptr 2 0]],.boxT none [.str qn,.int .u16 qt,.int .u16 qc]])))) .no) .no) .no) (.ret (.inr (.exit 0,stOf [4] [.dead] [.boxT none [.str z],.boxT none [AV.fn 70 [.ptr 2 0]],.boxT none [.str qn,.int .u16 qt,.int .u16 qc]])))
theorem U3f (lp:Lp) (l:List RRt) (m i:Int) (z qn:List UInt8) (qt qc:Int):evC T0 (orcB [] [V0j]) lp b88k 0 (stOf [0,1,7,8] [.list RR l,.fn 89 [.ptr 0 0,.ptr 1 0],.int .i64 m,.int .i64 i] [.box [.str z],.box [.fn 70 [.ptr 2 0]],.box [.str qn,.int .u16 qt,.int .u16 qc]]) (Q0 [0,1,7,8] [4] 3)=(r88k l m i z qn qt qc).get:=by kernel_rfl
theorem wf88k (l:List RRt) (m:Int) (z qn:List UInt8) (qt qc:Int) (I'':Int→Prop) (m'':Int→Nat) (r'':Ex×St) (h:∀ (i:Int),I'' i→(r88k l m i z qn qt qc).all fun x''=>x''=.inr r''∨∃ (i':Int),x''=.inl (stOf [0,1,7,8] [.list RR l,.fn 89 [.ptr 0 0,.ptr 1 0],.int .i64 m,.int .i64 i'] [.box [.str z],.box [.fn 70 [.ptr 2 0]],.box [.str qn,.int .u16 qt,.int .u16 qc]])∧I'' i'∧m'' i' < m'' i) (lp:Lp) (i:Int):I'' i→
    X2 (fun st=>evC T0 (orcB [] [V0j]) lp b88k 0 st (Q0 [0,1,7,8] [4] 3)) (stOf [0,1,7,8] [.list RR l,.fn 89 [.ptr 0 0,.ptr 1 0],.int .i64 m,.int .i64 i] [.box [.str z],.box [.fn 70 [.ptr 2 0]],.box [.str qn,.int .u16 qt,.int .u16 qc]])=some r'':=
 U4 (fun a'':Int=>stOf [0,1,7,8] [.list RR l,.fn 89 [.ptr 0 0,.ptr 1 0],.int .i64 m,.int .i64 a''] [.box [.str z],.box [.fn 70 [.ptr 2 0]],.box [.str qn,.int .u16 qt,.int .u16 qc]]) (fun a''=>I'' a'') (fun a''=>m'' a'') r'' (fun a''=>r88k l m a'' z qn qt qc)
  (fun a'' x hx=>(U3f lp l m a'' z qn qt qc).trans hx) (fun a'' ha=>Tr.all_mono (fun x'' hx=>hx.imp id fun⟨i',h1,h2,h3⟩=>⟨(i'),h1,h2,h3⟩) (h (a'') ha)) (i)
theorem U40:J3k.Ok T0 (orcB [] [V0j]) h88 3 0 b88k:=by
 intro q'' hq'' x'' y'' r'' h
 obtain⟨(l:List RRt),(m:Int),(i:Int),_⟩:=x''
 obtain⟨⟨(z:List UInt8),_⟩,_,⟨(qn:List UInt8),(qt:Int),(qc:Int),_⟩,_⟩:=y''
 obtain⟨hc,rfl⟩:=Tr.get_on2 h
 show X2 (fun st=>evC T0 (orcB [] [V0j]) (lpN T0 (orcB [] [V0j]) h88 3 q'') b88k 0 st (Q0 [0,1,7,8] [4] 3)) (stOf [0,1,7,8] [.list RR l,.fn 89 [.ptr 0 0,.ptr 1 0],.int .i64 m,.int .i64 i] [.box [.str z],.box [.fn 70 [.ptr 2 0]],.box [.str qn,.int .u16 qt,.int .u16 qc]])=some ((bif decide (idxL (fun r=>inV z r&&J8 qn qt qc r) l 0 < 0) then (.exit 0,[.dead],[.box [.str z],.box [.fn 70 [.ptr 2 0]],.box [.str qn,.int .u16 qt,.int .u16 qc]]) else (.ret,[.int .i64 (idxL (fun r=>inV z r&&J8 qn qt qc r) l 0)],[.box [.str z],.box [.fn 70 [.ptr 2 0]],.box [.str qn,.int .u16 qt,.int .u16 qc]]):Ex×List AV×List LObj).1,stOf [4] (bif decide (idxL (fun r=>inV z r&&J8 qn qt qc r) l 0 < 0) then (.exit 0,[.dead],[.box [.str z],.box [.fn 70 [.ptr 2 0]],.box [.str qn,.int .u16 qt,.int .u16 qc]]) else (.ret,[.int .i64 (idxL (fun r=>inV z r&&J8 qn qt qc r) l 0)],[.box [.str z],.box [.fn 70 [.ptr 2 0]],.box [.str qn,.int .u16 qt,.int .u16 qc]]):Ex×List AV×List LObj).2.1 (bif decide (idxL (fun r=>inV z r&&J8 qn qt qc r) l 0 < 0) then (.exit 0,[.dead],[.box [.str z],.box [.fn 70 [.ptr 2 0]],.box [.str qn,.int .u16 qt,.int .u16 qc]]) else (.ret,[.int .i64 (idxL (fun r=>inV z r&&J8 qn qt qc r) l 0)],[.box [.str z],.box [.fn 70 [.ptr 2 0]],.box [.str qn,.int .u16 qt,.int .u16 qc]]):Ex×List AV×List LObj).2.2)
 simp only[ixF,okF,okL,Bool.and_eq_true,decide_eq_true_eq] at hc
 obtain⟨⟨⟨hl,hall⟩,hz,hq⟩,rfl,rfl⟩:=hc
 have hl:=Nat.le_of_ble_eq_true hl
 refine wf88k l l.length z qn qt qc (fun i=>0≤i∧i≤l.length∧idxL (fun r=>inV z r&&J8 qn qt qc r) (l.drop i.toNat) i.toNat=idxL (fun r=>inV z r&&J8 qn qt qc r) l 0) (fun i=>(l.length - i).toNat) _ ?_ _ 0 ⟨by omega,by omega,rfl⟩
 rintro i ⟨h0,h1,he⟩
 unfold r88k
 rw[V4 h0 h1 (by omega)]
 by_cases hi:i < l.length
 ·have hok:=Z0p hall h0 hi
  rw[Z5 (l:=l) (k:=i.toNat) (by omega) (Ty.dflt RR),idxL] at he
  generalize l.getD i.toNat (Ty.dflt RR)=x at *
  refine Tr.all_t (J0 hi) (Tr.all_t (J0 h0) (Tr.all_t (J0 hi) (Tr.all_t (by rw[hok,hz,hq];rfl) (Tr.all_br (fun h=>?_) fun h=>?_))))
  ·rw[if_pos h] at he
   rw[←he,show ((i.toNat:Nat):Int)=i by omega,X0 (show ¬ i < 0 by omega)]
   exact Tr.all_ret (.inl rfl)
  ·rw[if_neg (by rw[h];simp)] at he
   exact Tr.all_ret (.inr ⟨_,rfl,⟨by omega,by omega,by rw[show (i+1).toNat=i.toNat+1 by omega];exact he⟩,by omega⟩)
 ·refine Tr.all_f (X0 hi) (Tr.all_ret (.inl ?_))
  rw[List.drop_eq_nil_of_le (by omega)] at he
  rw[←he]
  rfl
def t88k (l:List RRt) (z qn:List UInt8) (qt qc:Int):Tr Res:=.br (ixF l z qn (↑l.length:Int) 0) (.br (decide (idxL (fun r ↦ inV z r&&J8 qn qt qc r) l 0 < 0)) (.ret ([.int .i64 (-1)],[.boxT none [.str z],.boxT none [AV.fn 70 [.ptr 2 0]],.boxT none [.str qn,.int .u16 qt,.int .u16 qc]])) (.ret ([.int .i64 (idxL (fun r ↦ inV z r&&J8 qn qt qc r) l 0)],[.boxT none [.str z],.boxT none [AV.fn 70 [.ptr 2 0]],.boxT none [.str qn,.int .u16 qt,.int .u16 qc]]))) .no
def Z46:OSpec:={ f:=88,sh:=[.d (.list RR) false,.fnp 89 [(0,0),(1,0)]],so:=[.box [.d .str false],.box [.fnp 70 [(2,0)]],.box [.d .str false,.d (.int .u16) false,.d (.int .u16) false]],F:=fun(l,_) ((z,_),_,(qn,qt,qc,_),_)=>t88k l z qn qt qc }
theorem fn88k (l:List RRt) (z qn:List UInt8) (qt qc:Int):evC T0 (orcB [] [V0j]) (lpOf h88 3 (lsOf [J3k])) c88 1000000 (Z1 [.list RR l,.fn 89 [.ptr 0 0,.ptr 1 0]] [.box [.str z],.box [.fn 70 [.ptr 2 0]],.box [.str qn,.int .u16 qt,.int .u16 qc]] Try.f88.ntmps) (J1 T0 false 3 Try.f88)=(t88k l z qn qt qc).get:=by kernel_rfl
theorem ok88k:Z46.Ok Try.prog:=by
 refine V3 Q1 tab0 (V0 Z0 (all_cons U4b Z0)) h88 (d:=0) (n0:=3) (S:=lsOf [J3k]) Try.func88 (by kernel_rfl) (c:=c88) (by kernel_rfl) rfl (Q5 (xs:=[(0,b88k)]) (by kernel_rfl) (all_cons (Q4 U40) Z0)) (by omega) (by kernel_rfl) ?_
 intro x'' y'' q'' hq''
 obtain⟨(l:List RRt),_⟩:=x''
 obtain⟨⟨(z:List UInt8),_⟩,_,⟨(qn:List UInt8),(qt:Int),(qc:Int),_⟩,_⟩:=y''
 exact(fn88k l z qn qt qc).trans hq''
def t66k (l:List RRt) (z qn:List UInt8) (qt qc:Int):Tr Res:=.br (ixF l z qn (↑l.length:Int) 0) (.br (decide (idxL (fun r ↦ inV z r&&J8 qn qt qc r) l 0 < 0)) (.ret ([.agg [.str [],.int .u16 0,.int .u16 0,.int .u32 0,.str []],.bool false],[.boxT none [.str qn,.int .u16 qt,.int .u16 qc]])) (.br (decide (idxL (fun r ↦ inV z r&&J8 qn qt qc r) l 0 < 0)) (.ret ([.agg [.str [],.int .u16 0,.int .u16 0,.int .u32 0,.str []],.bool false],[.boxT none [.str qn,.int .u16 qt,.int .u16 qc]])) (.br (decide (0≤idxL (fun r ↦ inV z r&&J8 qn qt qc r) l 0)) (.br (decide (idxL (fun r ↦ inV z r&&J8 qn qt qc r) l 0 < (↑l.length:Int))) (.ret ([.agg [.str (l.getD (Int.toNat (idxL (fun r ↦ inV z r&&J8 qn qt qc r) l 0)) (Ty.dflt RR)).1,.int .u16 (l.getD (Int.toNat (idxL (fun r ↦ inV z r&&J8 qn qt qc r) l 0)) (Ty.dflt RR)).2.1,.int .u16 (l.getD (Int.toNat (idxL (fun r ↦ inV z r&&J8 qn qt qc r) l 0)) (Ty.dflt RR)).2.2.1,.int .u32 (l.getD (Int.toNat (idxL (fun r ↦ inV z r&&J8 qn qt qc r) l 0)) (Ty.dflt RR)).2.2.2.1,.str (l.getD (Int.toNat (idxL (fun r ↦ inV z r&&J8 qn qt qc r) l 0)) (Ty.dflt RR)).2.2.2.2],.bool true],[.boxT none [.str qn,.int .u16 qt,.int .u16 qc]])) .no) .no))) .no
def V48:OSpec:={ f:=66,sh:=[.d (.list RR) false,.d .str false,.fnp 70 [(0,0)]],so:=[.box [.d .str false,.d (.int .u16) false,.d (.int .u16) false]],F:=fun(l,z,_) ((qn,qt,qc,_),_)=>t66k l z qn qt qc }
theorem fn66k (l:List RRt) (z qn:List UInt8) (qt qc:Int):evC T0 (orcB [] [Z46]) (lpOf h66 1 (lsOf [])) c66 1000000 (Z1 [.list RR l,.str z,.fn 70 [.ptr 0 0]] [.box [.str qn,.int .u16 qt,.int .u16 qc]] Try.f66.ntmps) (J1 T0 false 1 Try.f66)=(t66k l z qn qt qc).get:=by kernel_rfl
theorem ok66k:V48.Ok Try.prog:=by
 refine V3 Q1 tab0 (V0 Z0 (all_cons ok88k Z0)) h66 (d:=0) (n0:=1) (S:=lsOf []) Try.func66 (by kernel_rfl) (c:=c66) (by kernel_rfl) rfl (Z2 (by kernel_rfl)) (by omega) (by kernel_rfl) ?_
 intro x'' y'' q'' hq''
 obtain⟨(l:List RRt),(z:List UInt8),_⟩:=x''
 obtain⟨⟨(qn:List UInt8),(qt:Int),(qc:Int),_⟩,_⟩:=y''
 exact(fn66k l z qn qt qc).trans hq''
def V3p:OSpec:=V48.like fun(l,z,_) ((qn,qt,qc,_),_)=>.on (okF l z qn) ([AV.ofTy RR (fstV (fun r=>inV z r&&J8 qn qt qc r) l).1 true,.bool (fstV (fun r=>inV z r&&J8 qn qt qc r) l).2],[.box [.str qn,.int .u16 qt,.int .u16 qc]])
theorem U4a:V3p.Ok Try.prog:=by
 refine Zc ok66k _ ?_
 rintro⟨(l:List RRt),(z:List UInt8),_⟩ ⟨⟨(qn:List UInt8),(qt:Int),(qc:Int),_⟩,_⟩ r' h
 obtain⟨hb,rfl⟩:=Tr.get_on h
 have hb:okF l z qn=true:=hb
 refine Tr.get_of_all ?_
 show (t66k l z qn qt qc).all _
 unfold t66k fstV
 have hx:ixF l z qn (l.length:Int) 0=true:=by unfold ixF;rw[hb];simp
 rcases V02 (fun r=>inV z r&&J8 qn qt qc r) (Ty.dflt RR) l 0 with ⟨h1,h2⟩ | ⟨j,h1,h2,h3⟩
 ·rw[h1,h2]
  exact Tr.all_t hx (Tr.all_t rfl (Tr.all_ret rfl))
 ·rw[h1,h3]
  rw[show ((0+j:Nat):Int)=(j:Int) by omega]
  refine Tr.all_t hx (Tr.all_f (X0 (by omega)) (Tr.all_f (X0 (by omega)) (Tr.all_t (J0 (by omega)) (Tr.all_t (J0 (by omega)) (Tr.all_ret ?_)))))
  rw[Int.toNat_natCast]
  rfl
def alsP (qn:List UInt8) (r:RRt):Bool:=r.1==qn&&r.2.1==5
def t91 (r:RRt) (qn:List UInt8) (qt qc:Int):Tr Res:=.br (r.1==qn) (.ret ([.bool (r.2.1==5)],[.boxT none [.str qn,.int .u16 qt,.int .u16 qc]])) (.ret ([.bool false],[.boxT none [.str qn,.int .u16 qt,.int .u16 qc]]))
def os91:OSpec:={ f:=91,sh:=[.d RR true,.ptr 0 0],so:=[.box [.d .str false,.d (.int .u16) false,.d (.int .u16) false]],F:=fun(r,_) ((qn,qt,qc,_),_)=>t91 r qn qt qc }
theorem fn91 (r:RRt) (qn:List UInt8) (qt qc:Int):evC T0 (orcB [] []) (lpOf h91 1 (lsOf [])) c91 1000000 (Z1 [AV.ofTy RR r true,.ptr 0 0] [.box [.str qn,.int .u16 qt,.int .u16 qc]] Try.f91.ntmps) (J1 T0 false 1 Try.f91)=(t91 r qn qt qc).get:=by kernel_rfl
theorem ok91:os91.Ok Try.prog:=by
 refine V3 Q1 tab0 (V0 Z0 Z0) h91 (d:=0) (n0:=1) (S:=lsOf []) Try.func91 (by kernel_rfl) (c:=c91) (by kernel_rfl) rfl (Z2 (by kernel_rfl)) (by omega) (by kernel_rfl) ?_
 intro x'' y'' q'' hq''
 obtain⟨(r:RRt),_⟩:=x''
 obtain⟨⟨(qn:List UInt8),(qt:Int),(qc:Int),_⟩,_⟩:=y''
 exact(fn91 r qn qt qc).trans hq''
def Q49:OSpec:=os91.like fun(r,_) ((qn,qt,qc,_),_)=>.on (okR r&&smN qn) ([.bool (alsP qn r)],[.box [.str qn,.int .u16 qt,.int .u16 qc]])
theorem ok91w:Q49.Ok Try.prog:=by
 refine Zc ok91 _ ?_
 rintro⟨(r:RRt),_⟩ ⟨⟨(qn:List UInt8),(qt:Int),(qc:Int),_⟩,_⟩ r' h
 obtain⟨hb,rfl⟩:=Tr.get_on h
 obtain⟨h1,h2⟩:=Bool.and_eq_true_iff.1 (show (okR r&&smN qn)=true from hb)
 refine Tr.get_of_all ?_
 show (t91 r qn qt qc).all _
 unfold t91 alsP
 refine Tr.all_br (fun c=>Tr.all_ret (by rw[c];rfl)) fun c=>Tr.all_ret (by rw[c];rfl)
def t89a (r:RRt) (z qn:List UInt8) (qt qc:Int):Tr Res:=.br (okR r&&smN z) (.br (inV z r) (.br (okR r&&smN qn) (.ret ([.bool (alsP qn r)],[.boxT none [.str z],.boxT none [AV.fn 91 [.ptr 2 0]],.boxT none [.str qn,.int .u16 qt,.int .u16 qc]])) .no) (.ret ([.bool false],[.boxT none [.str z],.boxT none [AV.fn 91 [.ptr 2 0]],.boxT none [.str qn,.int .u16 qt,.int .u16 qc]]))) .no
def Q45:OSpec:={ f:=89,sh:=[.d RR true,.ptr 0 0,.ptr 1 0],so:=[.box [.d .str false],.box [.fnp 91 [(2,0)]],.box [.d .str false,.d (.int .u16) false,.d (.int .u16) false]],F:=fun(r,_) ((z,_),_,(qn,qt,qc,_),_)=>t89a r z qn qt qc }
theorem fn89a (r:RRt) (z qn:List UInt8) (qt qc:Int):evC T0 (orcB [Xi] [Q49]) (lpOf h89 3 (lsOf [])) c89 1000000 (Z1 [AV.ofTy RR r true,.ptr 0 0,.ptr 1 0] [.box [.str z],.box [.fn 91 [.ptr 2 0]],.box [.str qn,.int .u16 qt,.int .u16 qc]] Try.f89.ntmps) (J1 T0 false 3 Try.f89)=(t89a r z qn qt qc).get:=by kernel_rfl
theorem ok89a:Q45.Ok Try.prog:=by
 refine V3 Q1 tab0 (V0 (all_cons V1w Z0) (all_cons ok91w Z0)) h89 (d:=0) (n0:=3) (S:=lsOf []) Try.func89 (by kernel_rfl) (c:=c89) (by kernel_rfl) rfl (Z2 (by kernel_rfl)) (by omega) (by kernel_rfl) ?_
 intro x'' y'' q'' hq''
 obtain⟨(r:RRt),_⟩:=x''
 obtain⟨⟨(z:List UInt8),_⟩,_,⟨(qn:List UInt8),(qt:Int),(qc:Int),_⟩,_⟩:=y''
 exact(fn89a r z qn qt qc).trans hq''
def V0i:OSpec:=Q45.like fun(r,_) ((z,_),_,(qn,qt,qc,_),_)=>.on (okR r&&(smN z&&smN qn)) ([.bool (inV z r&&alsP qn r)],[.box [.str z],.box [.fn 91 [.ptr 2 0]],.box [.str qn,.int .u16 qt,.int .u16 qc]])
theorem Z4j:V0i.Ok Try.prog:=by
 refine Zc ok89a _ ?_
 rintro⟨(r:RRt),_⟩ ⟨⟨(z:List UInt8),_⟩,_,⟨(qn:List UInt8),(qt:Int),(qc:Int),_⟩,_⟩ r' h
 obtain⟨hb,rfl⟩:=Tr.get_on h
 obtain⟨h1,h2⟩:=Bool.and_eq_true_iff.1 (show (okR r&&(smN z&&smN qn))=true from hb)
 obtain⟨h2,h3⟩:=Bool.and_eq_true_iff.1 h2
 refine Tr.get_of_all ?_
 show (t89a r z qn qt qc).all _
 unfold t89a
 refine Tr.all_t (by rw[h1,h2];rfl) (Tr.all_br (fun c=>Tr.all_t (by rw[h1,h3];rfl) (Tr.all_ret (by rw[c];rfl))) fun c=>Tr.all_ret (by rw[c];rfl))
noncomputable def b88a:Code:=X4 c88 0
def U36:LoopSpec:={ bid:=0,sh:=[.d (.list RR) false,.fnp 89 [(0,0),(1,0)],.d (.int .i64) false,.d (.int .i64) false],so:=[.box [.d .str false],.box [.fnp 91 [(2,0)]],.box [.d .str false,.d (.int .u16) false,.d (.int .u16) false]],F:=fun(l,m,i,_) ((z,_),_,(qn,qt,qc,_),_)=>.on2 (ixF l z qn m i) (decide (idxL (fun r=>inV z r&&alsP qn r) l 0 < 0)) (.exit 0,[.dead],[.box [.str z],.box [.fn 91 [.ptr 2 0]],.box [.str qn,.int .u16 qt,.int .u16 qc]]) (.ret,[.int .i64 (idxL (fun r=>inV z r&&alsP qn r) l 0)],[.box [.str z],.box [.fn 91 [.ptr 2 0]],.box [.str qn,.int .u16 qt,.int .u16 qc]]) }
def r88a (l:List RRt) (m i:Int) (z qn:List UInt8) (qt qc:Int):Tr (St⊕(Ex×St)):=.br (decide (i < m)) (.br (decide (0≤i)) (.br (decide (i < (↑l.length:Int))) (.br (okR (l.getD i.toNat (Ty.dflt RR))&&(smN z&&smN qn)) (.br (inV z (l.getD i.toNat (Ty.dflt RR))&&alsP qn (l.getD i.toNat (Ty.dflt RR))) (.ret (.inr (.ret,stOf [4] [.int .i64 i] [.boxT none [.str z],.boxT none [AV.fn 91 [.ptr 2 0]],.boxT none [.str qn,.int .u16 qt,.int .u16 qc]]))) (.ret (.inl (stOf [0,1,7,8] [.list RR l,AV.fn 89 [.ptr 0 0,.ptr 1 0],.int .i64 m,.int .i64 (IntKind.wrap .i64 (i+1))] [.boxT none [.str z],.boxT none [AV.fn 91 [.ptr 2 0]],.boxT none [.str qn,.int .u16 qt,.int .u16 qc]])))) .no) .no) .no) (.ret (.inr (.exit 0,stOf [4] [.dead] [.boxT none [.str z],.boxT none [AV.fn 91 [.ptr 2 0]],.boxT none [.str qn,.int .u16 qt,.int .u16 qc]])))
theorem U32 (lp:Lp) (l:List RRt) (m i:Int) (z qn:List UInt8) (qt qc:Int):evC T0 (orcB [] [V0i]) lp b88a 0 (stOf [0,1,7,8] [.list RR l,.fn 89 [.ptr 0 0,.ptr 1 0],.int .i64 m,.int .i64 i] [.box [.str z],.box [.fn 91 [.ptr 2 0]],.box [.str qn,.int .u16 qt,.int .u16 qc]]) (Q0 [0,1,7,8] [4] 3)=(r88a l m i z qn qt qc).get:=by kernel_rfl
theorem wf88a (l:List RRt) (m:Int) (z qn:List UInt8) (qt qc:Int) (I'':Int→Prop) (m'':Int→Nat) (r'':Ex×St) (h:∀ (i:Int),I'' i→(r88a l m i z qn qt qc).all fun x''=>x''=.inr r''∨∃ (i':Int),x''=.inl (stOf [0,1,7,8] [.list RR l,.fn 89 [.ptr 0 0,.ptr 1 0],.int .i64 m,.int .i64 i'] [.box [.str z],.box [.fn 91 [.ptr 2 0]],.box [.str qn,.int .u16 qt,.int .u16 qc]])∧I'' i'∧m'' i' < m'' i) (lp:Lp) (i:Int):I'' i→
    X2 (fun st=>evC T0 (orcB [] [V0i]) lp b88a 0 st (Q0 [0,1,7,8] [4] 3)) (stOf [0,1,7,8] [.list RR l,.fn 89 [.ptr 0 0,.ptr 1 0],.int .i64 m,.int .i64 i] [.box [.str z],.box [.fn 91 [.ptr 2 0]],.box [.str qn,.int .u16 qt,.int .u16 qc]])=some r'':=
 U4 (fun a'':Int=>stOf [0,1,7,8] [.list RR l,.fn 89 [.ptr 0 0,.ptr 1 0],.int .i64 m,.int .i64 a''] [.box [.str z],.box [.fn 91 [.ptr 2 0]],.box [.str qn,.int .u16 qt,.int .u16 qc]]) (fun a''=>I'' a'') (fun a''=>m'' a'') r'' (fun a''=>r88a l m a'' z qn qt qc)
  (fun a'' x hx=>(U32 lp l m a'' z qn qt qc).trans hx) (fun a'' ha=>Tr.all_mono (fun x'' hx=>hx.imp id fun⟨i',h1,h2,h3⟩=>⟨(i'),h1,h2,h3⟩) (h (a'') ha)) (i)
theorem Q3r:U36.Ok T0 (orcB [] [V0i]) h88 3 0 b88a:=by
 intro q'' hq'' x'' y'' r'' h
 obtain⟨(l:List RRt),(m:Int),(i:Int),_⟩:=x''
 obtain⟨⟨(z:List UInt8),_⟩,_,⟨(qn:List UInt8),(qt:Int),(qc:Int),_⟩,_⟩:=y''
 obtain⟨hc,rfl⟩:=Tr.get_on2 h
 show X2 (fun st=>evC T0 (orcB [] [V0i]) (lpN T0 (orcB [] [V0i]) h88 3 q'') b88a 0 st (Q0 [0,1,7,8] [4] 3)) (stOf [0,1,7,8] [.list RR l,.fn 89 [.ptr 0 0,.ptr 1 0],.int .i64 m,.int .i64 i] [.box [.str z],.box [.fn 91 [.ptr 2 0]],.box [.str qn,.int .u16 qt,.int .u16 qc]])=some ((bif decide (idxL (fun r=>inV z r&&alsP qn r) l 0 < 0) then (.exit 0,[.dead],[.box [.str z],.box [.fn 91 [.ptr 2 0]],.box [.str qn,.int .u16 qt,.int .u16 qc]]) else (.ret,[.int .i64 (idxL (fun r=>inV z r&&alsP qn r) l 0)],[.box [.str z],.box [.fn 91 [.ptr 2 0]],.box [.str qn,.int .u16 qt,.int .u16 qc]]):Ex×List AV×List LObj).1,stOf [4] (bif decide (idxL (fun r=>inV z r&&alsP qn r) l 0 < 0) then (.exit 0,[.dead],[.box [.str z],.box [.fn 91 [.ptr 2 0]],.box [.str qn,.int .u16 qt,.int .u16 qc]]) else (.ret,[.int .i64 (idxL (fun r=>inV z r&&alsP qn r) l 0)],[.box [.str z],.box [.fn 91 [.ptr 2 0]],.box [.str qn,.int .u16 qt,.int .u16 qc]]):Ex×List AV×List LObj).2.1 (bif decide (idxL (fun r=>inV z r&&alsP qn r) l 0 < 0) then (.exit 0,[.dead],[.box [.str z],.box [.fn 91 [.ptr 2 0]],.box [.str qn,.int .u16 qt,.int .u16 qc]]) else (.ret,[.int .i64 (idxL (fun r=>inV z r&&alsP qn r) l 0)],[.box [.str z],.box [.fn 91 [.ptr 2 0]],.box [.str qn,.int .u16 qt,.int .u16 qc]]):Ex×List AV×List LObj).2.2)
 simp only[ixF,okF,okL,Bool.and_eq_true,decide_eq_true_eq] at hc
 obtain⟨⟨⟨hl,hall⟩,hz,hq⟩,rfl,rfl⟩:=hc
 have hl:=Nat.le_of_ble_eq_true hl
 refine wf88a l l.length z qn qt qc (fun i=>0≤i∧i≤l.length∧idxL (fun r=>inV z r&&alsP qn r) (l.drop i.toNat) i.toNat=idxL (fun r=>inV z r&&alsP qn r) l 0) (fun i=>(l.length - i).toNat) _ ?_ _ 0 ⟨by omega,by omega,rfl⟩
 rintro i ⟨h0,h1,he⟩
 unfold r88a
 rw[V4 h0 h1 (by omega)]
 by_cases hi:i < l.length
 ·have hok:=Z0p hall h0 hi
  rw[Z5 (l:=l) (k:=i.toNat) (by omega) (Ty.dflt RR),idxL] at he
  generalize l.getD i.toNat (Ty.dflt RR)=x at *
  refine Tr.all_t (J0 hi) (Tr.all_t (J0 h0) (Tr.all_t (J0 hi) (Tr.all_t (by rw[hok,hz,hq];rfl) (Tr.all_br (fun h=>?_) fun h=>?_))))
  ·rw[if_pos h] at he
   rw[←he,show ((i.toNat:Nat):Int)=i by omega,X0 (show ¬ i < 0 by omega)]
   exact Tr.all_ret (.inl rfl)
  ·rw[if_neg (by rw[h];simp)] at he
   exact Tr.all_ret (.inr ⟨_,rfl,⟨by omega,by omega,by rw[show (i+1).toNat=i.toNat+1 by omega];exact he⟩,by omega⟩)
 ·refine Tr.all_f (X0 hi) (Tr.all_ret (.inl ?_))
  rw[List.drop_eq_nil_of_le (by omega)] at he
  rw[←he]
  rfl
def t88a (l:List RRt) (z qn:List UInt8) (qt qc:Int):Tr Res:=.br (ixF l z qn (↑l.length:Int) 0) (.br (decide (idxL (fun r ↦ inV z r&&alsP qn r) l 0 < 0)) (.ret ([.int .i64 (-1)],[.boxT none [.str z],.boxT none [AV.fn 91 [.ptr 2 0]],.boxT none [.str qn,.int .u16 qt,.int .u16 qc]])) (.ret ([.int .i64 (idxL (fun r ↦ inV z r&&alsP qn r) l 0)],[.boxT none [.str z],.boxT none [AV.fn 91 [.ptr 2 0]],.boxT none [.str qn,.int .u16 qt,.int .u16 qc]]))) .no
def Z49:OSpec:={ f:=88,sh:=[.d (.list RR) false,.fnp 89 [(0,0),(1,0)]],so:=[.box [.d .str false],.box [.fnp 91 [(2,0)]],.box [.d .str false,.d (.int .u16) false,.d (.int .u16) false]],F:=fun(l,_) ((z,_),_,(qn,qt,qc,_),_)=>t88a l z qn qt qc }
theorem fn88a (l:List RRt) (z qn:List UInt8) (qt qc:Int):evC T0 (orcB [] [V0i]) (lpOf h88 3 (lsOf [U36])) c88 1000000 (Z1 [.list RR l,.fn 89 [.ptr 0 0,.ptr 1 0]] [.box [.str z],.box [.fn 91 [.ptr 2 0]],.box [.str qn,.int .u16 qt,.int .u16 qc]] Try.f88.ntmps) (J1 T0 false 3 Try.f88)=(t88a l z qn qt qc).get:=by kernel_rfl
theorem ok88a:Z49.Ok Try.prog:=by
 refine V3 Q1 tab0 (V0 Z0 (all_cons Z4j Z0)) h88 (d:=0) (n0:=3) (S:=lsOf [U36]) Try.func88 (by kernel_rfl) (c:=c88) (by kernel_rfl) rfl (Q5 (xs:=[(0,b88a)]) (by kernel_rfl) (all_cons (Q4 Q3r) Z0)) (by omega) (by kernel_rfl) ?_
 intro x'' y'' q'' hq''
 obtain⟨(l:List RRt),_⟩:=x''
 obtain⟨⟨(z:List UInt8),_⟩,_,⟨(qn:List UInt8),(qt:Int),(qc:Int),_⟩,_⟩:=y''
 exact(fn88a l z qn qt qc).trans hq''
def t66a (l:List RRt) (z qn:List UInt8) (qt qc:Int):Tr Res:=.br (ixF l z qn (↑l.length:Int) 0) (.br (decide (idxL (fun r ↦ inV z r&&alsP qn r) l 0 < 0)) (.ret ([.agg [.str [],.int .u16 0,.int .u16 0,.int .u32 0,.str []],.bool false],[.boxT none [.str qn,.int .u16 qt,.int .u16 qc]])) (.br (decide (idxL (fun r ↦ inV z r&&alsP qn r) l 0 < 0)) (.ret ([.agg [.str [],.int .u16 0,.int .u16 0,.int .u32 0,.str []],.bool false],[.boxT none [.str qn,.int .u16 qt,.int .u16 qc]])) (.br (decide (0≤idxL (fun r ↦ inV z r&&alsP qn r) l 0)) (.br (decide (idxL (fun r ↦ inV z r&&alsP qn r) l 0 < (↑l.length:Int))) (.ret ([.agg [.str (l.getD (Int.toNat (idxL (fun r ↦ inV z r&&alsP qn r) l 0)) (Ty.dflt RR)).1,.int .u16 (l.getD (Int.toNat (idxL (fun r ↦ inV z r&&alsP qn r) l 0)) (Ty.dflt RR)).2.1,.int .u16 (l.getD (Int.toNat (idxL (fun r ↦ inV z r&&alsP qn r) l 0)) (Ty.dflt RR)).2.2.1,.int .u32 (l.getD (Int.toNat (idxL (fun r ↦ inV z r&&alsP qn r) l 0)) (Ty.dflt RR)).2.2.2.1,.str (l.getD (Int.toNat (idxL (fun r ↦ inV z r&&alsP qn r) l 0)) (Ty.dflt RR)).2.2.2.2],.bool true],[.boxT none [.str qn,.int .u16 qt,.int .u16 qc]])) .no) .no))) .no
def U49:OSpec:={ f:=66,sh:=[.d (.list RR) false,.d .str false,.fnp 91 [(0,0)]],so:=[.box [.d .str false,.d (.int .u16) false,.d (.int .u16) false]],F:=fun(l,z,_) ((qn,qt,qc,_),_)=>t66a l z qn qt qc }
theorem fn66a (l:List RRt) (z qn:List UInt8) (qt qc:Int):evC T0 (orcB [] [Z49]) (lpOf h66 1 (lsOf [])) c66 1000000 (Z1 [.list RR l,.str z,.fn 91 [.ptr 0 0]] [.box [.str qn,.int .u16 qt,.int .u16 qc]] Try.f66.ntmps) (J1 T0 false 1 Try.f66)=(t66a l z qn qt qc).get:=by kernel_rfl
theorem ok66a:U49.Ok Try.prog:=by
 refine V3 Q1 tab0 (V0 Z0 (all_cons ok88a Z0)) h66 (d:=0) (n0:=1) (S:=lsOf []) Try.func66 (by kernel_rfl) (c:=c66) (by kernel_rfl) rfl (Z2 (by kernel_rfl)) (by omega) (by kernel_rfl) ?_
 intro x'' y'' q'' hq''
 obtain⟨(l:List RRt),(z:List UInt8),_⟩:=x''
 obtain⟨⟨(qn:List UInt8),(qt:Int),(qc:Int),_⟩,_⟩:=y''
 exact(fn66a l z qn qt qc).trans hq''
def X3n:OSpec:=U49.like fun(l,z,_) ((qn,qt,qc,_),_)=>.on (okF l z qn) ([AV.ofTy RR (fstV (fun r=>inV z r&&alsP qn r) l).1 true,.bool (fstV (fun r=>inV z r&&alsP qn r) l).2],[.box [.str qn,.int .u16 qt,.int .u16 qc]])
theorem X4h:X3n.Ok Try.prog:=by
 refine Zc ok66a _ ?_
 rintro⟨(l:List RRt),(z:List UInt8),_⟩ ⟨⟨(qn:List UInt8),(qt:Int),(qc:Int),_⟩,_⟩ r' h
 obtain⟨hb,rfl⟩:=Tr.get_on h
 have hb:okF l z qn=true:=hb
 refine Tr.get_of_all ?_
 show (t66a l z qn qt qc).all _
 unfold t66a fstV
 have hx:ixF l z qn (l.length:Int) 0=true:=by unfold ixF;rw[hb];simp
 rcases V02 (fun r=>inV z r&&alsP qn r) (Ty.dflt RR) l 0 with ⟨h1,h2⟩ | ⟨j,h1,h2,h3⟩
 ·rw[h1,h2]
  exact Tr.all_t hx (Tr.all_t rfl (Tr.all_ret rfl))
 ·rw[h1,h3]
  rw[show ((0+j:Nat):Int)=(j:Int) by omega]
  refine Tr.all_t hx (Tr.all_f (X0 (by omega)) (Tr.all_f (X0 (by omega)) (Tr.all_t (J0 (by omega)) (Tr.all_t (J0 (by omega)) (Tr.all_ret ?_)))))
  rw[Int.toNat_natCast]
  rfl
def refP (qn y:List UInt8) (r:RRt):Bool:=r.2.1==2&&(!(r.1==y)&&undV qn r.1)
def t92 (r:RRt) (y qn:List UInt8) (qt qc:Int):Tr Res:=.br (r.2.1==2) (.br (!r.1==y) (.br (smN qn&&smN r.1) (.ret ([.bool (undV qn r.1)],[.boxT none [.str y],.boxT none [.str qn,.int .u16 qt,.int .u16 qc]])) .no) (.ret ([.bool false],[.boxT none [.str y],.boxT none [.str qn,.int .u16 qt,.int .u16 qc]]))) (.ret ([.bool false],[.boxT none [.str y],.boxT none [.str qn,.int .u16 qt,.int .u16 qc]]))
def os92:OSpec:={ f:=92,sh:=[.d RR true,.ptr 0 0,.ptr 1 0],so:=[.box [.d .str false],.box [.d .str false,.d (.int .u16) false,.d (.int .u16) false]],F:=fun(r,_) ((y,_),(qn,qt,qc,_),_)=>t92 r y qn qt qc }
theorem fn92 (r:RRt) (y qn:List UInt8) (qt qc:Int):evC T0 (orcB [Ub] []) (lpOf h92 2 (lsOf [])) c92 1000000 (Z1 [AV.ofTy RR r true,.ptr 0 0,.ptr 1 0] [.box [.str y],.box [.str qn,.int .u16 qt,.int .u16 qc]] Try.f92.ntmps) (J1 T0 false 2 Try.f92)=(t92 r y qn qt qc).get:=by kernel_rfl
theorem ok92:os92.Ok Try.prog:=by
 refine V3 Q1 tab0 (V0 (all_cons J07 Z0) Z0) h92 (d:=0) (n0:=2) (S:=lsOf []) Try.func92 (by kernel_rfl) (c:=c92) (by kernel_rfl) rfl (Z2 (by kernel_rfl)) (by omega) (by kernel_rfl) ?_
 intro x'' y'' q'' hq''
 obtain⟨(r:RRt),_⟩:=x''
 obtain⟨⟨(y:List UInt8),_⟩,⟨(qn:List UInt8),(qt:Int),(qc:Int),_⟩,_⟩:=y''
 exact(fn92 r y qn qt qc).trans hq''
def J47:OSpec:=os92.like fun(r,_) ((y,_),(qn,qt,qc,_),_)=>.on (okR r&&smN qn) ([.bool (refP qn y r)],[.box [.str y],.box [.str qn,.int .u16 qt,.int .u16 qc]])
theorem ok92w:J47.Ok Try.prog:=by
 refine Zc ok92 _ ?_
 rintro⟨(r:RRt),_⟩ ⟨⟨(y:List UInt8),_⟩,⟨(qn:List UInt8),(qt:Int),(qc:Int),_⟩,_⟩ r' h
 obtain⟨hb,rfl⟩:=Tr.get_on h
 obtain⟨h1,h2⟩:=Bool.and_eq_true_iff.1 (show (okR r&&smN qn)=true from hb)
 refine Tr.get_of_all ?_
 show (t92 r y qn qt qc).all _
 unfold t92 refP
 have hs:(smN qn&&smN r.1)=true:=by rw[Q3d h1,h2];rfl
 refine Tr.all_br (fun c=>Tr.all_br (fun c2=>Tr.all_t hs (Tr.all_ret (by rw[c,c2];rfl))) fun c2=>Tr.all_ret (by rw[c,c2];rfl)) fun c=>Tr.all_ret (by rw[c];rfl)
def t89r (r:RRt) (z y qn:List UInt8) (qt qc:Int):Tr Res:=.br (okR r&&smN z) (.br (inV z r) (.br (okR r&&smN qn) (.ret ([.bool (refP qn y r)],[.boxT none [.str z],.boxT none [AV.fn 92 [.ptr 2 0,.ptr 3 0]],.boxT none [.str y],.boxT none [.str qn,.int .u16 qt,.int .u16 qc]])) .no) (.ret ([.bool false],[.boxT none [.str z],.boxT none [AV.fn 92 [.ptr 2 0,.ptr 3 0]],.boxT none [.str y],.boxT none [.str qn,.int .u16 qt,.int .u16 qc]]))) .no
def V46:OSpec:={ f:=89,sh:=[.d RR true,.ptr 0 0,.ptr 1 0],so:=[.box [.d .str false],.box [.fnp 92 [(2,0),(3,0)]],.box [.d .str false],.box [.d .str false,.d (.int .u16) false,.d (.int .u16) false]],F:=fun(r,_) ((z,_),_,(y,_),(qn,qt,qc,_),_)=>t89r r z y qn qt qc }
theorem fn89r (r:RRt) (z y qn:List UInt8) (qt qc:Int):evC T0 (orcB [Xi] [J47]) (lpOf h89 4 (lsOf [])) c89 1000000 (Z1 [AV.ofTy RR r true,.ptr 0 0,.ptr 1 0] [.box [.str z],.box [.fn 92 [.ptr 2 0,.ptr 3 0]],.box [.str y],.box [.str qn,.int .u16 qt,.int .u16 qc]] Try.f89.ntmps) (J1 T0 false 4 Try.f89)=(t89r r z y qn qt qc).get:=by kernel_rfl
theorem ok89r:V46.Ok Try.prog:=by
 refine V3 Q1 tab0 (V0 (all_cons V1w Z0) (all_cons ok92w Z0)) h89 (d:=0) (n0:=4) (S:=lsOf []) Try.func89 (by kernel_rfl) (c:=c89) (by kernel_rfl) rfl (Z2 (by kernel_rfl)) (by omega) (by kernel_rfl) ?_
 intro x'' y'' q'' hq''
 obtain⟨(r:RRt),_⟩:=x''
 obtain⟨⟨(z:List UInt8),_⟩,_,⟨(y:List UInt8),_⟩,⟨(qn:List UInt8),(qt:Int),(qc:Int),_⟩,_⟩:=y''
 exact(fn89r r z y qn qt qc).trans hq''
def Z0k:OSpec:=V46.like fun(r,_) ((z,_),_,(y,_),(qn,qt,qc,_),_)=>.on (okR r&&(smN z&&smN qn)) ([.bool (inV z r&&refP qn y r)],[.box [.str z],.box [.fn 92 [.ptr 2 0,.ptr 3 0]],.box [.str y],.box [.str qn,.int .u16 qt,.int .u16 qc]])
theorem U4j:Z0k.Ok Try.prog:=by
 refine Zc ok89r _ ?_
 rintro⟨(r:RRt),_⟩ ⟨⟨(z:List UInt8),_⟩,_,⟨(y:List UInt8),_⟩,⟨(qn:List UInt8),(qt:Int),(qc:Int),_⟩,_⟩ r' h
 obtain⟨hb,rfl⟩:=Tr.get_on h
 obtain⟨h1,h2⟩:=Bool.and_eq_true_iff.1 (show (okR r&&(smN z&&smN qn))=true from hb)
 obtain⟨h2,h3⟩:=Bool.and_eq_true_iff.1 h2
 refine Tr.get_of_all ?_
 show (t89r r z y qn qt qc).all _
 unfold t89r
 refine Tr.all_t (by rw[h1,h2];rfl) (Tr.all_br (fun c=>Tr.all_t (by rw[h1,h3];rfl) (Tr.all_ret (by rw[c];rfl))) fun c=>Tr.all_ret (by rw[c];rfl))
noncomputable def b88r:Code:=X4 c88 0
def X3o:LoopSpec:={ bid:=0,sh:=[.d (.list RR) false,.fnp 89 [(0,0),(1,0)],.d (.int .i64) false,.d (.int .i64) false],so:=[.box [.d .str false],.box [.fnp 92 [(2,0),(3,0)]],.box [.d .str false],.box [.d .str false,.d (.int .u16) false,.d (.int .u16) false]],F:=fun(l,m,i,_) ((z,_),_,(y,_),(qn,qt,qc,_),_)=>.on2 (ixF l z qn m i) (decide (idxL (fun r=>inV z r&&refP qn y r) l 0 < 0)) (.exit 0,[.dead],[.box [.str z],.box [.fn 92 [.ptr 2 0,.ptr 3 0]],.box [.str y],.box [.str qn,.int .u16 qt,.int .u16 qc]]) (.ret,[.int .i64 (idxL (fun r=>inV z r&&refP qn y r) l 0)],[.box [.str z],.box [.fn 92 [.ptr 2 0,.ptr 3 0]],.box [.str y],.box [.str qn,.int .u16 qt,.int .u16 qc]]) }
def r88r (l:List RRt) (m i:Int) (z y qn:List UInt8) (qt qc:Int):Tr (St⊕(Ex×St)):=.br (decide (i < m)) (.br (decide (0≤i)) (.br (decide (i < (↑l.length:Int))) (.br (okR (l.getD i.toNat (Ty.dflt RR))&&(smN z&&smN qn)) (.br (inV z (l.getD i.toNat (Ty.dflt RR))&&refP qn y (l.getD i.toNat (Ty.dflt RR))) (.ret (.inr (.ret,stOf [4] [.int .i64 i] [.boxT none [.str z],.boxT none [AV.fn 92 [.ptr 2 0,.ptr 3 0]],.boxT none [.str y],.boxT none [.str qn,.int .u16 qt,.int .u16 qc]]))) (.ret (.inl (stOf [0,1,7,8] [.list RR l,AV.fn 89 [.ptr 0 0,.ptr 1 0],.int .i64 m,.int .i64 (IntKind.wrap .i64 (i+1))] [.boxT none [.str z],.boxT none [AV.fn 92 [.ptr 2 0,.ptr 3 0]],.boxT none [.str y],.boxT none [.str qn,.int .u16 qt,.int .u16 qc]])))) .no) .no) .no) (.ret (.inr (.exit 0,stOf [4] [.dead] [.boxT none [.str z],.boxT none [AV.fn 92 [.ptr 2 0,.ptr 3 0]],.boxT none [.str y],.boxT none [.str qn,.int .u16 qt,.int .u16 qc]])))
theorem V3i (lp:Lp) (l:List RRt) (m i:Int) (z y qn:List UInt8) (qt qc:Int):evC T0 (orcB [] [Z0k]) lp b88r 0 (stOf [0,1,7,8] [.list RR l,.fn 89 [.ptr 0 0,.ptr 1 0],.int .i64 m,.int .i64 i] [.box [.str z],.box [.fn 92 [.ptr 2 0,.ptr 3 0]],.box [.str y],.box [.str qn,.int .u16 qt,.int .u16 qc]]) (Q0 [0,1,7,8] [4] 4)=(r88r l m i z y qn qt qc).get:=by kernel_rfl
theorem wf88r (l:List RRt) (m:Int) (z y qn:List UInt8) (qt qc:Int) (I'':Int→Prop) (m'':Int→Nat) (r'':Ex×St) (h:∀ (i:Int),I'' i→(r88r l m i z y qn qt qc).all fun x''=>x''=.inr r''∨∃ (i':Int),x''=.inl (stOf [0,1,7,8] [.list RR l,.fn 89 [.ptr 0 0,.ptr 1 0],.int .i64 m,.int .i64 i'] [.box [.str z],.box [.fn 92 [.ptr 2 0,.ptr 3 0]],.box [.str y],.box [.str qn,.int .u16 qt,.int .u16 qc]])∧I'' i'∧m'' i' < m'' i) (lp:Lp) (i:Int):I'' i→
    X2 (fun st=>evC T0 (orcB [] [Z0k]) lp b88r 0 st (Q0 [0,1,7,8] [4] 4)) (stOf [0,1,7,8] [.list RR l,.fn 89 [.ptr 0 0,.ptr 1 0],.int .i64 m,.int .i64 i] [.box [.str z],.box [.fn 92 [.ptr 2 0,.ptr 3 0]],.box [.str y],.box [.str qn,.int .u16 qt,.int .u16 qc]])=some r'':=
 U4 (fun a'':Int=>stOf [0,1,7,8] [.list RR l,.fn 89 [.ptr 0 0,.ptr 1 0],.int .i64 m,.int .i64 a''] [.box [.str z],.box [.fn 92 [.ptr 2 0,.ptr 3 0]],.box [.str y],.box [.str qn,.int .u16 qt,.int .u16 qc]]) (fun a''=>I'' a'') (fun a''=>m'' a'') r'' (fun a''=>r88r l m a'' z y qn qt qc)
  (fun a'' x hx=>(V3i lp l m a'' z y qn qt qc).trans hx) (fun a'' ha=>Tr.all_mono (fun x'' hx=>hx.imp id fun⟨i',h1,h2,h3⟩=>⟨(i'),h1,h2,h3⟩) (h (a'') ha)) (i)
theorem V43:X3o.Ok T0 (orcB [] [Z0k]) h88 4 0 b88r:=by
 intro q'' hq'' x'' y'' r'' h
 obtain⟨(l:List RRt),(m:Int),(i:Int),_⟩:=x''
 obtain⟨⟨(z:List UInt8),_⟩,_,⟨(y:List UInt8),_⟩,⟨(qn:List UInt8),(qt:Int),(qc:Int),_⟩,_⟩:=y''
 obtain⟨hc,rfl⟩:=Tr.get_on2 h
 show X2 (fun st=>evC T0 (orcB [] [Z0k]) (lpN T0 (orcB [] [Z0k]) h88 4 q'') b88r 0 st (Q0 [0,1,7,8] [4] 4)) (stOf [0,1,7,8] [.list RR l,.fn 89 [.ptr 0 0,.ptr 1 0],.int .i64 m,.int .i64 i] [.box [.str z],.box [.fn 92 [.ptr 2 0,.ptr 3 0]],.box [.str y],.box [.str qn,.int .u16 qt,.int .u16 qc]])=some ((bif decide (idxL (fun r=>inV z r&&refP qn y r) l 0 < 0) then (.exit 0,[.dead],[.box [.str z],.box [.fn 92 [.ptr 2 0,.ptr 3 0]],.box [.str y],.box [.str qn,.int .u16 qt,.int .u16 qc]]) else (.ret,[.int .i64 (idxL (fun r=>inV z r&&refP qn y r) l 0)],[.box [.str z],.box [.fn 92 [.ptr 2 0,.ptr 3 0]],.box [.str y],.box [.str qn,.int .u16 qt,.int .u16 qc]]):Ex×List AV×List LObj).1,stOf [4] (bif decide (idxL (fun r=>inV z r&&refP qn y r) l 0 < 0) then (.exit 0,[.dead],[.box [.str z],.box [.fn 92 [.ptr 2 0,.ptr 3 0]],.box [.str y],.box [.str qn,.int .u16 qt,.int .u16 qc]]) else (.ret,[.int .i64 (idxL (fun r=>inV z r&&refP qn y r) l 0)],[.box [.str z],.box [.fn 92 [.ptr 2 0,.ptr 3 0]],.box [.str y],.box [.str qn,.int .u16 qt,.int .u16 qc]]):Ex×List AV×List LObj).2.1 (bif decide (idxL (fun r=>inV z r&&refP qn y r) l 0 < 0) then (.exit 0,[.dead],[.box [.str z],.box [.fn 92 [.ptr 2 0,.ptr 3 0]],.box [.str y],.box [.str qn,.int .u16 qt,.int .u16 qc]]) else (.ret,[.int .i64 (idxL (fun r=>inV z r&&refP qn y r) l 0)],[.box [.str z],.box [.fn 92 [.ptr 2 0,.ptr 3 0]],.box [.str y],.box [.str qn,.int .u16 qt,.int .u16 qc]]):Ex×List AV×List LObj).2.2)
 simp only[ixF,okF,okL,Bool.and_eq_true,decide_eq_true_eq] at hc
 obtain⟨⟨⟨hl,hall⟩,hz,hq⟩,rfl,rfl⟩:=hc
 have hl:=Nat.le_of_ble_eq_true hl
 refine wf88r l l.length z y qn qt qc (fun i=>0≤i∧i≤l.length∧idxL (fun r=>inV z r&&refP qn y r) (l.drop i.toNat) i.toNat=idxL (fun r=>inV z r&&refP qn y r) l 0) (fun i=>(l.length - i).toNat) _ ?_ _ 0 ⟨by omega,by omega,rfl⟩
 rintro i ⟨h0,h1,he⟩
 unfold r88r
 rw[V4 h0 h1 (by omega)]
 by_cases hi:i < l.length
 ·have hok:=Z0p hall h0 hi
  rw[Z5 (l:=l) (k:=i.toNat) (by omega) (Ty.dflt RR),idxL] at he
  generalize l.getD i.toNat (Ty.dflt RR)=x at *
  refine Tr.all_t (J0 hi) (Tr.all_t (J0 h0) (Tr.all_t (J0 hi) (Tr.all_t (by rw[hok,hz,hq];rfl) (Tr.all_br (fun h=>?_) fun h=>?_))))
  ·rw[if_pos h] at he
   rw[←he,show ((i.toNat:Nat):Int)=i by omega,X0 (show ¬ i < 0 by omega)]
   exact Tr.all_ret (.inl rfl)
  ·rw[if_neg (by rw[h];simp)] at he
   exact Tr.all_ret (.inr ⟨_,rfl,⟨by omega,by omega,by rw[show (i+1).toNat=i.toNat+1 by omega];exact he⟩,by omega⟩)
 ·refine Tr.all_f (X0 hi) (Tr.all_ret (.inl ?_))
  rw[List.drop_eq_nil_of_le (by omega)] at he
  rw[←he]
  rfl
def t88r (l:List RRt) (z y qn:List UInt8) (qt qc:Int):Tr Res:=.br (ixF l z qn (↑l.length:Int) 0) (.br (decide (idxL (fun r ↦ inV z r&&refP qn y r) l 0 < 0)) (.ret ([.int .i64 (-1)],[.boxT none [.str z],.boxT none [AV.fn 92 [.ptr 2 0,.ptr 3 0]],.boxT none [.str y],.boxT none [.str qn,.int .u16 qt,.int .u16 qc]])) (.ret ([.int .i64 (idxL (fun r ↦ inV z r&&refP qn y r) l 0)],[.boxT none [.str z],.boxT none [AV.fn 92 [.ptr 2 0,.ptr 3 0]],.boxT none [.str y],.boxT none [.str qn,.int .u16 qt,.int .u16 qc]]))) .no
def X44:OSpec:={ f:=88,sh:=[.d (.list RR) false,.fnp 89 [(0,0),(1,0)]],so:=[.box [.d .str false],.box [.fnp 92 [(2,0),(3,0)]],.box [.d .str false],.box [.d .str false,.d (.int .u16) false,.d (.int .u16) false]],F:=fun(l,_) ((z,_),_,(y,_),(qn,qt,qc,_),_)=>t88r l z y qn qt qc }
theorem fn88r (l:List RRt) (z y qn:List UInt8) (qt qc:Int):evC T0 (orcB [] [Z0k]) (lpOf h88 4 (lsOf [X3o])) c88 1000000 (Z1 [.list RR l,.fn 89 [.ptr 0 0,.ptr 1 0]] [.box [.str z],.box [.fn 92 [.ptr 2 0,.ptr 3 0]],.box [.str y],.box [.str qn,.int .u16 qt,.int .u16 qc]] Try.f88.ntmps) (J1 T0 false 4 Try.f88)=(t88r l z y qn qt qc).get:=by kernel_rfl
theorem ok88r:X44.Ok Try.prog:=by
 refine V3 Q1 tab0 (V0 Z0 (all_cons U4j Z0)) h88 (d:=0) (n0:=4) (S:=lsOf [X3o]) Try.func88 (by kernel_rfl) (c:=c88) (by kernel_rfl) rfl (Q5 (xs:=[(0,b88r)]) (by kernel_rfl) (all_cons (Q4 V43) Z0)) (by omega) (by kernel_rfl) ?_
 intro x'' y'' q'' hq''
 obtain⟨(l:List RRt),_⟩:=x''
 obtain⟨⟨(z:List UInt8),_⟩,_,⟨(y:List UInt8),_⟩,⟨(qn:List UInt8),(qt:Int),(qc:Int),_⟩,_⟩:=y''
 exact(fn88r l z y qn qt qc).trans hq''
def t66r (l:List RRt) (z y qn:List UInt8) (qt qc:Int):Tr Res:=.br (ixF l z qn (↑l.length:Int) 0) (.br (decide (idxL (fun r ↦ inV z r&&refP qn y r) l 0 < 0)) (.ret ([.agg [.str [],.int .u16 0,.int .u16 0,.int .u32 0,.str []],.bool false],[.boxT none [.str y],.boxT none [.str qn,.int .u16 qt,.int .u16 qc]])) (.br (decide (idxL (fun r ↦ inV z r&&refP qn y r) l 0 < 0)) (.ret ([.agg [.str [],.int .u16 0,.int .u16 0,.int .u32 0,.str []],.bool false],[.boxT none [.str y],.boxT none [.str qn,.int .u16 qt,.int .u16 qc]])) (.br (decide (0≤idxL (fun r ↦ inV z r&&refP qn y r) l 0)) (.br (decide (idxL (fun r ↦ inV z r&&refP qn y r) l 0 < (↑l.length:Int))) (.ret ([.agg [.str (l.getD (Int.toNat (idxL (fun r ↦ inV z r&&refP qn y r) l 0)) (Ty.dflt RR)).1,.int .u16 (l.getD (Int.toNat (idxL (fun r ↦ inV z r&&refP qn y r) l 0)) (Ty.dflt RR)).2.1,.int .u16 (l.getD (Int.toNat (idxL (fun r ↦ inV z r&&refP qn y r) l 0)) (Ty.dflt RR)).2.2.1,.int .u32 (l.getD (Int.toNat (idxL (fun r ↦ inV z r&&refP qn y r) l 0)) (Ty.dflt RR)).2.2.2.1,.str (l.getD (Int.toNat (idxL (fun r ↦ inV z r&&refP qn y r) l 0)) (Ty.dflt RR)).2.2.2.2],.bool true],[.boxT none [.str y],.boxT none [.str qn,.int .u16 qt,.int .u16 qc]])) .no) .no))) .no
def U47:OSpec:={ f:=66,sh:=[.d (.list RR) false,.d .str false,.fnp 92 [(0,0),(1,0)]],so:=[.box [.d .str false],.box [.d .str false,.d (.int .u16) false,.d (.int .u16) false]],F:=fun(l,z,_) ((y,_),(qn,qt,qc,_),_)=>t66r l z y qn qt qc }
theorem fn66r (l:List RRt) (z y qn:List UInt8) (qt qc:Int):evC T0 (orcB [] [X44]) (lpOf h66 2 (lsOf [])) c66 1000000 (Z1 [.list RR l,.str z,.fn 92 [.ptr 0 0,.ptr 1 0]] [.box [.str y],.box [.str qn,.int .u16 qt,.int .u16 qc]] Try.f66.ntmps) (J1 T0 false 2 Try.f66)=(t66r l z y qn qt qc).get:=by kernel_rfl
theorem ok66r:U47.Ok Try.prog:=by
 refine V3 Q1 tab0 (V0 Z0 (all_cons ok88r Z0)) h66 (d:=0) (n0:=2) (S:=lsOf []) Try.func66 (by kernel_rfl) (c:=c66) (by kernel_rfl) rfl (Z2 (by kernel_rfl)) (by omega) (by kernel_rfl) ?_
 intro x'' y'' q'' hq''
 obtain⟨(l:List RRt),(z:List UInt8),_⟩:=x''
 obtain⟨⟨(y:List UInt8),_⟩,⟨(qn:List UInt8),(qt:Int),(qc:Int),_⟩,_⟩:=y''
 exact(fn66r l z y qn qt qc).trans hq''
def X3b:OSpec:=U47.like fun(l,z,_) ((y,_),(qn,qt,qc,_),_)=>.on (okF l z qn) ([AV.ofTy RR (fstV (fun r=>inV z r&&refP qn y r) l).1 true,.bool (fstV (fun r=>inV z r&&refP qn y r) l).2],[.box [.str y],.box [.str qn,.int .u16 qt,.int .u16 qc]])
theorem U4i:X3b.Ok Try.prog:=by
 refine Zc ok66r _ ?_
 rintro⟨(l:List RRt),(z:List UInt8),_⟩ ⟨⟨(y:List UInt8),_⟩,⟨(qn:List UInt8),(qt:Int),(qc:Int),_⟩,_⟩ r' h
 obtain⟨hb,rfl⟩:=Tr.get_on h
 have hb:okF l z qn=true:=hb
 refine Tr.get_of_all ?_
 show (t66r l z y qn qt qc).all _
 unfold t66r fstV
 have hx:ixF l z qn (l.length:Int) 0=true:=by unfold ixF;rw[hb];simp
 rcases V02 (fun r=>inV z r&&refP qn y r) (Ty.dflt RR) l 0 with ⟨h1,h2⟩ | ⟨j,h1,h2,h3⟩
 ·rw[h1,h2]
  exact Tr.all_t hx (Tr.all_t rfl (Tr.all_ret rfl))
 ·rw[h1,h3]
  rw[show ((0+j:Nat):Int)=(j:Int) by omega]
  refine Tr.all_t hx (Tr.all_f (X0 (by omega)) (Tr.all_f (X0 (by omega)) (Tr.all_t (J0 (by omega)) (Tr.all_t (J0 (by omega)) (Tr.all_ret ?_)))))
  rw[Int.toNat_natCast]
  rfl
def cAls (m:MGt) (q:QQt) (z:List UInt8):RRt×Bool:=fstV (fun r=>inV z r&&alsP q.1 r) (mAn m)
def cRef (m:MGt) (q:QQt) (z:List UInt8):RRt×Bool:=fstV (fun r=>inV z r&&refP q.1 z r) (mNs m)
def cAns (m:MGt) (q:QQt) (z:List UInt8):RRt×Bool:=fstV (fun r=>inV z r&&J8 q.1 q.2.1 q.2.2 r) (mAn m)
def t71 (m:MGt) (q:QQt) (z:List UInt8):Tr Res:=.br (okF m.2.2.2.2.2.2.2.2.2.1 z q.1) (.ret ([.agg [.str (fstV (fun r ↦ inV z r&&alsP q.1 r) m.2.2.2.2.2.2.2.2.2.1).1.1,.int .u16 (fstV (fun r ↦ inV z r&&alsP q.1 r) m.2.2.2.2.2.2.2.2.2.1).1.2.1,.int .u16 (fstV (fun r ↦ inV z r&&alsP q.1 r) m.2.2.2.2.2.2.2.2.2.1).1.2.2.1,.int .u32 (fstV (fun r ↦ inV z r&&alsP q.1 r) m.2.2.2.2.2.2.2.2.2.1).1.2.2.2.1,.str (fstV (fun r ↦ inV z r&&alsP q.1 r) m.2.2.2.2.2.2.2.2.2.1).1.2.2.2.2],.bool (fstV (fun r ↦ inV z r&&alsP q.1 r) m.2.2.2.2.2.2.2.2.2.1).2],[])) .no
def os71:OSpec:={ f:=71,sh:=[.d MG true,.d QQ true,.d .str false],so:=[],F:=fun(m,q,z,_) _=>t71 m q z }
theorem fn71 (m:MGt) (q:QQt) (z:List UInt8):evC T0 (orcB [] [X3n]) (lpOf h71 0 (lsOf [])) c71 1000000 (Z1 [AV.ofTy MG m true,AV.ofTy QQ q true,.str z] [] Try.f71.ntmps) (J1 T0 false 0 Try.f71)=(t71 m q z).get:=by kernel_rfl
theorem ok71:os71.Ok Try.prog:=by
 refine V3 Q1 tab0 (V0 Z0 (all_cons X4h Z0)) h71 (d:=0) (n0:=0) (S:=lsOf []) Try.func71 (by kernel_rfl) (c:=c71) (by kernel_rfl) rfl (Z2 (by kernel_rfl)) (by omega) (by kernel_rfl) ?_
 intro x'' y'' q'' hq''
 obtain⟨(m:MGt),(q:QQt),(z:List UInt8),_⟩:=x''
 exact(fn71 m q z).trans hq''
def fs71:FSpec:=fsT 71 [(MG,true),(QQ,true),(.str,false)] [(RR,true),(.bool,false)] fun(m,q,z,_)=>t71 m q z
theorem okf71:fs71.Ok Try.prog:=X5 fun x'' r'' hr''=>ok71 x'' () r'' hr''
def t72 (m:MGt) (q:QQt) (z:List UInt8):Tr Res:=.br (okF m.2.2.2.2.2.2.2.2.2.2.1 z q.1) (.ret ([.agg [.str (fstV (fun r ↦ inV z r&&refP q.1 z r) m.2.2.2.2.2.2.2.2.2.2.1).1.1,.int .u16 (fstV (fun r ↦ inV z r&&refP q.1 z r) m.2.2.2.2.2.2.2.2.2.2.1).1.2.1,.int .u16 (fstV (fun r ↦ inV z r&&refP q.1 z r) m.2.2.2.2.2.2.2.2.2.2.1).1.2.2.1,.int .u32 (fstV (fun r ↦ inV z r&&refP q.1 z r) m.2.2.2.2.2.2.2.2.2.2.1).1.2.2.2.1,.str (fstV (fun r ↦ inV z r&&refP q.1 z r) m.2.2.2.2.2.2.2.2.2.2.1).1.2.2.2.2],.bool (fstV (fun r ↦ inV z r&&refP q.1 z r) m.2.2.2.2.2.2.2.2.2.2.1).2],[])) .no
def os72:OSpec:={ f:=72,sh:=[.d MG true,.d QQ true,.d .str false],so:=[],F:=fun(m,q,z,_) _=>t72 m q z }
theorem fn72 (m:MGt) (q:QQt) (z:List UInt8):evC T0 (orcB [] [X3b]) (lpOf h72 0 (lsOf [])) c72 1000000 (Z1 [AV.ofTy MG m true,AV.ofTy QQ q true,.str z] [] Try.f72.ntmps) (J1 T0 false 0 Try.f72)=(t72 m q z).get:=by kernel_rfl
theorem ok72:os72.Ok Try.prog:=by
 refine V3 Q1 tab0 (V0 Z0 (all_cons U4i Z0)) h72 (d:=0) (n0:=0) (S:=lsOf []) Try.func72 (by kernel_rfl) (c:=c72) (by kernel_rfl) rfl (Z2 (by kernel_rfl)) (by omega) (by kernel_rfl) ?_
 intro x'' y'' q'' hq''
 obtain⟨(m:MGt),(q:QQt),(z:List UInt8),_⟩:=x''
 exact(fn72 m q z).trans hq''
def fs72:FSpec:=fsT 72 [(MG,true),(QQ,true),(.str,false)] [(RR,true),(.bool,false)] fun(m,q,z,_)=>t72 m q z
theorem okf72:fs72.Ok Try.prog:=X5 fun x'' r'' hr''=>ok72 x'' () r'' hr''
def J45:FSpec:=fs71.like fun(m,q,z,_)=>.on (okF (mAn m) z q.1) ((cAls m q z).1,(cAls m q z).2,())
theorem J4d:J45.Ok Try.prog:=by
 refine J3 okf71 _ ?_
 rintro⟨(m:MGt),(q:QQt),(z:List UInt8),_⟩ y h
 obtain⟨hb,rfl⟩:=Tr.get_on h
 have hb:okF (mAn m) z q.1=true:=hb
 refine J2 (vs:=[AV.ofTy RR (cAls m q z).1 true,.bool (cAls m q z).2]) rfl rfl (Tr.get_of_all ?_)
 exact Tr.all_t hb (Tr.all_ret rfl)
def J48:FSpec:=fs72.like fun(m,q,z,_)=>.on (okF (mNs m) z q.1) ((cRef m q z).1,(cRef m q z).2,())
theorem Q4c:J48.Ok Try.prog:=by
 refine J3 okf72 _ ?_
 rintro⟨(m:MGt),(q:QQt),(z:List UInt8),_⟩ y h
 obtain⟨hb,rfl⟩:=Tr.get_on h
 have hb:okF (mNs m) z q.1=true:=hb
 refine J2 (vs:=[AV.ofTy RR (cRef m q z).1 true,.bool (cRef m q z).2]) rfl rfl (Tr.get_of_all ?_)
 exact Tr.all_t hb (Tr.all_ret rfl)
def t39 (m:MGt) (q:QQt) (z:List UInt8):Tr Res:=.br (okF m.2.2.2.2.2.2.2.2.2.1 z q.1) (.br (okF (mAn m) z q.1) (.br (okF (mNs m) z q.1) (.br (smN q.1&&smN z) (.br (!undV q.1 z) (.ret ([.int .i64 0],[])) (.br m.2.2.2.1 (.ret ([.int .i64 0],[])) (.br (m.2.2.2.2.2.2.2.1 != 0) (.br (m.2.2.2.2.2.2.2.1 != 3) (.ret ([.int .i64 0],[])) (.br (m.2.2.2.2.2.2.2.1==3) (.br m.2.2.1 (.ret ([.int .i64 4],[])) (.br (m.2.2.2.2.2.2.2.1==3) (.ret ([.int .i64 0],[])) (.br (fstV (fun r ↦ inV z r&&J8 q.1 q.2.1 q.2.2 r) m.2.2.2.2.2.2.2.2.2.1).2 (.ret ([.int .i64 1],[])) (.br (cAls m q z).2 (.ret ([.int .i64 2],[])) (.br (cRef m q z).2 (.ret ([.int .i64 3],[])) (.br m.2.2.1 (.ret ([.int .i64 5],[])) (.ret ([.int .i64 0],[])))))))) (.br (m.2.2.2.2.2.2.2.1==3) (.ret ([.int .i64 0],[])) (.br (fstV (fun r ↦ inV z r&&J8 q.1 q.2.1 q.2.2 r) m.2.2.2.2.2.2.2.2.2.1).2 (.ret ([.int .i64 1],[])) (.br (cAls m q z).2 (.ret ([.int .i64 2],[])) (.br (cRef m q z).2 (.ret ([.int .i64 3],[])) (.br m.2.2.1 (.ret ([.int .i64 5],[])) (.ret ([.int .i64 0],[]))))))))) (.br (m.2.2.2.2.2.2.2.1==3) (.br m.2.2.1 (.ret ([.int .i64 4],[])) (.br (m.2.2.2.2.2.2.2.1==3) (.ret ([.int .i64 0],[])) (.br (fstV (fun r ↦ inV z r&&J8 q.1 q.2.1 q.2.2 r) m.2.2.2.2.2.2.2.2.2.1).2 (.ret ([.int .i64 1],[])) (.br (cAls m q z).2 (.ret ([.int .i64 2],[])) (.br (cRef m q z).2 (.ret ([.int .i64 3],[])) (.br m.2.2.1 (.ret ([.int .i64 5],[])) (.ret ([.int .i64 0],[])))))))) (.br (m.2.2.2.2.2.2.2.1==3) (.ret ([.int .i64 0],[])) (.br (fstV (fun r ↦ inV z r&&J8 q.1 q.2.1 q.2.2 r) m.2.2.2.2.2.2.2.2.2.1).2 (.ret ([.int .i64 1],[])) (.br (cAls m q z).2 (.ret ([.int .i64 2],[])) (.br (cRef m q z).2 (.ret ([.int .i64 3],[])) (.br m.2.2.1 (.ret ([.int .i64 5],[])) (.ret ([.int .i64 0],[]))))))))))) .no) .no) .no) .no
def os39:OSpec:={ f:=39,sh:=[.d MG true,.d QQ true,.d .str false],so:=[],F:=fun(m,q,z,_) _=>t39 m q z }
theorem fn39 (m:MGt) (q:QQt) (z:List UInt8):evC T0 (orcB [J45,J48,Ub] [V3p]) (lpOf h39 0 (lsOf [])) c39 1000000 (Z1 [AV.ofTy MG m true,AV.ofTy QQ q true,.str z] [] Try.f39.ntmps) (J1 T0 false 0 Try.f39)=(t39 m q z).get:=by kernel_rfl
theorem ok39:os39.Ok Try.prog:=by
 refine V3 Q1 tab0 (V0 (all_cons J4d (all_cons Q4c (all_cons J07 Z0))) (all_cons U4a Z0)) h39 (d:=0) (n0:=0) (S:=lsOf []) Try.func39 (by kernel_rfl) (c:=c39) (by kernel_rfl) rfl (Z2 (by kernel_rfl)) (by omega) (by kernel_rfl) ?_
 intro x'' y'' q'' hq''
 obtain⟨(m:MGt),(q:QQt),(z:List UInt8),_⟩:=x''
 exact(fn39 m q z).trans hq''
def fs39:FSpec:=fsT 39 [(MG,true),(QQ,true),(.str,false)] [((.int .i64),false)] fun(m,q,z,_)=>t39 m q z
theorem okf39:fs39.Ok Try.prog:=X5 fun x'' r'' hr''=>ok39 x'' () r'' hr''
def mRc (m:MGt):Int:=m.2.2.2.2.2.2.2.1
def Jc (m:MGt) (q:QQt) (z:List UInt8):Int:=
 bif !undV q.1 z then 0 else bif m.2.2.2.1 then 0 else bif mRc m != 0 then (bif mRc m != 3 then 0 else bif m.2.2.1 then 4 else 0) else
 bif (cAns m q z).2 then 1 else bif (cAls m q z).2 then 2 else bif (cRef m q z).2 then 3 else bif m.2.2.1 then 5 else 0
def okK (m:MGt) (q:QQt) (z:List UInt8):Bool:=okF (mAn m) z q.1&&okF (mNs m) z q.1
theorem U4h {l:List RRt} {z n:List UInt8} (h:okF l z n=true):smN z=true∧smN n=true:=Bool.and_eq_true_iff.1 (Bool.and_eq_true_iff.1 h).2
def Qm:FSpec:=fs39.like fun(m,q,z,_)=>.on (okK m q z) (Jc m q z,())
theorem J37:Qm.Ok Try.prog:=by
 refine J3 okf39 _ ?_
 rintro⟨(m:MGt),(q:QQt),(z:List UInt8),_⟩ y h
 obtain⟨hb,rfl⟩:=Tr.get_on h
 obtain⟨h1,h2⟩:=Bool.and_eq_true_iff.1 (show (okF (mAn m) z q.1&&okF (mNs m) z q.1)=true from hb)
 obtain⟨hz,hq⟩:=U4h h1
 refine J2 (vs:=[.int .i64 (Jc m q z)]) rfl rfl (Tr.get_of_all ?_)
 show (t39 m q z).all _
 unfold t39 Jc mRc
 refine Tr.all_t h1 (Tr.all_t h1 (Tr.all_t h2 (Tr.all_t (by rw[hq,hz];rfl) ?_)))
 have ha:(cAns m q z).2=Prod.snd (fstV (fun r=>inV z r&&J8 q.1 q.2.1 q.2.2 r) m.2.2.2.2.2.2.2.2.2.1):=rfl
 rw[←ha]
 generalize (cAns m q z).2=b1
 generalize (cAls m q z).2=b2
 generalize (cRef m q z).2=b3
 generalize undV q.1 z=b4
 generalize m.2.2.2.1=b5
 generalize m.2.2.1=b6
 by_cases h0:m.2.2.2.2.2.2.2.1=0
 ·rw[h0]
  cases b1<;>cases b2<;>cases b3<;>cases b4<;>cases b5<;>cases b6<;>repeat' (first | exact Tr.all_ret rfl | refine Tr.all_t rfl ?_ | refine Tr.all_f rfl ?_)
 ·have e0:(m.2.2.2.2.2.2.2.1 != 0)=true:=by simp[bne,h0]
  rw[e0]
  by_cases h3:m.2.2.2.2.2.2.2.1=3
  ·rw[h3]
   cases b1<;>cases b2<;>cases b3<;>cases b4<;>cases b5<;>cases b6<;>repeat' (first | exact Tr.all_ret rfl | refine Tr.all_t rfl ?_ | refine Tr.all_f rfl ?_)
  ·have e3:(m.2.2.2.2.2.2.2.1 != 3)=true:=by simp[bne,h3]
   rw[e3]
   cases b1<;>cases b2<;>cases b3<;>cases b4<;>cases b5<;>cases b6<;>repeat' (first | exact Tr.all_ret rfl | refine Tr.all_t rfl ?_ | refine Tr.all_f rfl ?_)
def t84 (o:RRt) (rn:List UInt8) (rt rc rl:Int) (rd:List UInt8):Tr Res:=.ret ([.bool (sayV o (rn,rt,rc,rl,rd))],[.boxT none [.str rn,.int .u16 rt,.int .u16 rc,.int .u32 rl,.str rd]])
def os84:OSpec:={ f:=84,sh:=[.d RR true,.ptr 0 0],so:=[.box [.d .str false,.d (.int .u16) false,.d (.int .u16) false,.d (.int .u32) false,.d .str false]],F:=fun(o,_) ((rn,rt,rc,rl,rd,_),_)=>t84 o rn rt rc rl rd }
theorem fn84 (o:RRt) (rn:List UInt8) (rt rc rl:Int) (rd:List UInt8):evC T0 (orcB [Z47] []) (lpOf h84 1 (lsOf [])) c84 1000000 (Z1 [AV.ofTy RR o true,.ptr 0 0] [.box [.str rn,.int .u16 rt,.int .u16 rc,.int .u32 rl,.str rd]] Try.f84.ntmps) (J1 T0 false 1 Try.f84)=(t84 o rn rt rc rl rd).get:=by kernel_rfl
theorem ok84:os84.Ok Try.prog:=by
 refine V3 Q1 tab0 (V0 (all_cons X4a Z0) Z0) h84 (d:=0) (n0:=1) (S:=lsOf []) Try.func84 (by kernel_rfl) (c:=c84) (by kernel_rfl) rfl (Z2 (by kernel_rfl)) (by omega) (by kernel_rfl) ?_
 intro x'' y'' q'' hq''
 obtain⟨(o:RRt),_⟩:=x''
 obtain⟨⟨(rn:List UInt8),(rt:Int),(rc:Int),(rl:Int),(rd:List UInt8),_⟩,_⟩:=y''
 exact(fn84 o rn rt rc rl rd).trans hq''
def Zi (rn:List UInt8) (rt rc rl:Int) (rd:List UInt8) (o:RRt):Bool:=sayV o (rn,rt,rc,rl,rd)
def ixS (l:List RRt) (m i:Int):Bool:=lrB l&&(decide (m=(l.length:Int))&&decide (i=0))
noncomputable def b88s:Code:=X4 c88 0
def Z35:LoopSpec:={ bid:=0,sh:=[.d (.list RR) false,.fnp 84 [(0,0)],.d (.int .i64) false,.d (.int .i64) false],so:=[.box [.d .str false,.d (.int .u16) false,.d (.int .u16) false,.d (.int .u32) false,.d .str false]],F:=fun(l,m,i,_) ((rn,rt,rc,rl,rd,_),_)=>.on2 (ixS l m i) (decide (idxL (Zi rn rt rc rl rd) l 0 < 0)) (.exit 0,[.dead],[.box [.str rn,.int .u16 rt,.int .u16 rc,.int .u32 rl,.str rd]]) (.ret,[.int .i64 (idxL (Zi rn rt rc rl rd) l 0)],[.box [.str rn,.int .u16 rt,.int .u16 rc,.int .u32 rl,.str rd]]) }
def r88s (l:List RRt) (m i:Int) (rn:List UInt8) (rt rc rl:Int) (rd:List UInt8):Tr (St⊕(Ex×St)):=.br (decide (i < m)) (.br (decide (0≤i)) (.br (decide (i < (↑l.length:Int))) (.br (sayV (l.getD i.toNat (Ty.dflt RR)) (rn,rt,rc,rl,rd)) (.ret (.inr (.ret,stOf [4] [.int .i64 i] [.boxT none [.str rn,.int .u16 rt,.int .u16 rc,.int .u32 rl,.str rd]]))) (.ret (.inl (stOf [0,1,7,8] [.list RR l,AV.fn 84 [.ptr 0 0],.int .i64 m,.int .i64 (IntKind.wrap .i64 (i+1))] [.boxT none [.str rn,.int .u16 rt,.int .u16 rc,.int .u32 rl,.str rd]])))) .no) .no) (.ret (.inr (.exit 0,stOf [4] [.dead] [.boxT none [.str rn,.int .u16 rt,.int .u16 rc,.int .u32 rl,.str rd]])))
theorem Z3n (lp:Lp) (l:List RRt) (m i:Int) (rn:List UInt8) (rt rc rl:Int) (rd:List UInt8):evC T0 (orcB [] [os84]) lp b88s 0 (stOf [0,1,7,8] [.list RR l,.fn 84 [.ptr 0 0],.int .i64 m,.int .i64 i] [.box [.str rn,.int .u16 rt,.int .u16 rc,.int .u32 rl,.str rd]]) (Q0 [0,1,7,8] [4] 1)=(r88s l m i rn rt rc rl rd).get:=by kernel_rfl
theorem wf88s (l:List RRt) (m:Int) (rn:List UInt8) (rt rc rl:Int) (rd:List UInt8) (I'':Int→Prop) (m'':Int→Nat) (r'':Ex×St) (h:∀ (i:Int),I'' i→(r88s l m i rn rt rc rl rd).all fun x''=>x''=.inr r''∨∃ (i':Int),x''=.inl (stOf [0,1,7,8] [.list RR l,.fn 84 [.ptr 0 0],.int .i64 m,.int .i64 i'] [.box [.str rn,.int .u16 rt,.int .u16 rc,.int .u32 rl,.str rd]])∧I'' i'∧m'' i' < m'' i) (lp:Lp) (i:Int):I'' i→
    X2 (fun st=>evC T0 (orcB [] [os84]) lp b88s 0 st (Q0 [0,1,7,8] [4] 1)) (stOf [0,1,7,8] [.list RR l,.fn 84 [.ptr 0 0],.int .i64 m,.int .i64 i] [.box [.str rn,.int .u16 rt,.int .u16 rc,.int .u32 rl,.str rd]])=some r'':=
 U4 (fun a'':Int=>stOf [0,1,7,8] [.list RR l,.fn 84 [.ptr 0 0],.int .i64 m,.int .i64 a''] [.box [.str rn,.int .u16 rt,.int .u16 rc,.int .u32 rl,.str rd]]) (fun a''=>I'' a'') (fun a''=>m'' a'') r'' (fun a''=>r88s l m a'' rn rt rc rl rd)
  (fun a'' x hx=>(Z3n lp l m a'' rn rt rc rl rd).trans hx) (fun a'' ha=>Tr.all_mono (fun x'' hx=>hx.imp id fun⟨i',h1,h2,h3⟩=>⟨(i'),h1,h2,h3⟩) (h (a'') ha)) (i)
theorem Z3r:Z35.Ok T0 (orcB [] [os84]) h88 1 0 b88s:=by
 intro q'' hq'' x'' y'' r'' h
 obtain⟨(l:List RRt),(m:Int),(i:Int),_⟩:=x''
 obtain⟨⟨(rn:List UInt8),(rt:Int),(rc:Int),(rl:Int),(rd:List UInt8),_⟩,_⟩:=y''
 obtain⟨hc,rfl⟩:=Tr.get_on2 h
 show X2 (fun st=>evC T0 (orcB [] [os84]) (lpN T0 (orcB [] [os84]) h88 1 q'') b88s 0 st (Q0 [0,1,7,8] [4] 1)) (stOf [0,1,7,8] [.list RR l,.fn 84 [.ptr 0 0],.int .i64 m,.int .i64 i] [.box [.str rn,.int .u16 rt,.int .u16 rc,.int .u32 rl,.str rd]])=some ((bif decide (idxL (Zi rn rt rc rl rd) l 0 < 0) then (.exit 0,[.dead],[.box [.str rn,.int .u16 rt,.int .u16 rc,.int .u32 rl,.str rd]]) else (.ret,[.int .i64 (idxL (Zi rn rt rc rl rd) l 0)],[.box [.str rn,.int .u16 rt,.int .u16 rc,.int .u32 rl,.str rd]]):Ex×List AV×List LObj).1,stOf [4] (bif decide (idxL (Zi rn rt rc rl rd) l 0 < 0) then (.exit 0,[.dead],[.box [.str rn,.int .u16 rt,.int .u16 rc,.int .u32 rl,.str rd]]) else (.ret,[.int .i64 (idxL (Zi rn rt rc rl rd) l 0)],[.box [.str rn,.int .u16 rt,.int .u16 rc,.int .u32 rl,.str rd]]):Ex×List AV×List LObj).2.1 (bif decide (idxL (Zi rn rt rc rl rd) l 0 < 0) then (.exit 0,[.dead],[.box [.str rn,.int .u16 rt,.int .u16 rc,.int .u32 rl,.str rd]]) else (.ret,[.int .i64 (idxL (Zi rn rt rc rl rd) l 0)],[.box [.str rn,.int .u16 rt,.int .u16 rc,.int .u32 rl,.str rd]]):Ex×List AV×List LObj).2.2)
 simp only[ixS,Bool.and_eq_true,decide_eq_true_eq] at hc
 obtain⟨hl,rfl,rfl⟩:=hc
 have hl:=Nat.le_of_ble_eq_true hl
 refine wf88s l l.length rn rt rc rl rd (fun i=>0≤i∧i≤l.length∧idxL (Zi rn rt rc rl rd) (l.drop i.toNat) i.toNat=idxL (Zi rn rt rc rl rd) l 0) (fun i=>(l.length - i).toNat) _ ?_ _ 0 ⟨by omega,by omega,rfl⟩
 rintro i ⟨h0,h1,he⟩
 unfold r88s
 rw[V4 h0 h1 (by omega)]
 by_cases hi:i < l.length
 ·rw[Z5 (l:=l) (k:=i.toNat) (by omega) (Ty.dflt RR),idxL] at he
  generalize l.getD i.toNat (Ty.dflt RR)=x at *
  refine Tr.all_t (J0 hi) (Tr.all_t (J0 h0) (Tr.all_t (J0 hi) (Tr.all_br (fun h=>?_) fun h=>?_)))
  ·rw[if_pos (show Zi rn rt rc rl rd x=true from h)] at he
   rw[←he,show ((i.toNat:Nat):Int)=i by omega,X0 (show ¬ i < 0 by omega)]
   exact Tr.all_ret (.inl rfl)
  ·rw[if_neg (by intro h';have h2:Zi rn rt rc rl rd x=false:=h;rw[h2] at h';cases h')] at he
   exact Tr.all_ret (.inr ⟨_,rfl,⟨by omega,by omega,by rw[show (i+1).toNat=i.toNat+1 by omega];exact he⟩,by omega⟩)
 ·refine Tr.all_f (X0 hi) (Tr.all_ret (.inl ?_))
  rw[List.drop_eq_nil_of_le (by omega)] at he
  rw[←he]
  rfl
def t88s (l:List RRt) (rn:List UInt8) (rt rc rl:Int) (rd:List UInt8):Tr Res:=.br (ixS l (↑l.length:Int) 0) (.br (decide (idxL (Zi rn rt rc rl rd) l 0 < 0)) (.ret ([.int .i64 (-1)],[.boxT none [.str rn,.int .u16 rt,.int .u16 rc,.int .u32 rl,.str rd]])) (.ret ([.int .i64 (idxL (Zi rn rt rc rl rd) l 0)],[.boxT none [.str rn,.int .u16 rt,.int .u16 rc,.int .u32 rl,.str rd]]))) .no
def U44:OSpec:={ f:=88,sh:=[.d (.list RR) false,.fnp 84 [(0,0)]],so:=[.box [.d .str false,.d (.int .u16) false,.d (.int .u16) false,.d (.int .u32) false,.d .str false]],F:=fun(l,_) ((rn,rt,rc,rl,rd,_),_)=>t88s l rn rt rc rl rd }
theorem fn88s (l:List RRt) (rn:List UInt8) (rt rc rl:Int) (rd:List UInt8):evC T0 (orcB [] [os84]) (lpOf h88 1 (lsOf [Z35])) c88 1000000 (Z1 [.list RR l,.fn 84 [.ptr 0 0]] [.box [.str rn,.int .u16 rt,.int .u16 rc,.int .u32 rl,.str rd]] Try.f88.ntmps) (J1 T0 false 1 Try.f88)=(t88s l rn rt rc rl rd).get:=by kernel_rfl
theorem ok88s:U44.Ok Try.prog:=by
 refine V3 Q1 tab0 (V0 Z0 (all_cons ok84 Z0)) h88 (d:=0) (n0:=1) (S:=lsOf [Z35]) Try.func88 (by kernel_rfl) (c:=c88) (by kernel_rfl) rfl (Q5 (xs:=[(0,b88s)]) (by kernel_rfl) (all_cons (Q4 Z3r) Z0)) (by omega) (by kernel_rfl) ?_
 intro x'' y'' q'' hq''
 obtain⟨(l:List RRt),_⟩:=x''
 obtain⟨⟨(rn:List UInt8),(rt:Int),(rc:Int),(rl:Int),(rd:List UInt8),_⟩,_⟩:=y''
 exact(fn88s l rn rt rc rl rd).trans hq''
def t86s (l:List RRt) (rn:List UInt8) (rt rc rl:Int) (rd:List UInt8):Tr Res:=.br (ixS l (↑l.length:Int) 0) (.br (decide (idxL (Zi rn rt rc rl rd) l 0 < 0)) (.ret ([.bool (decide ((-1:Int)≥0))],[.boxT none [.str rn,.int .u16 rt,.int .u16 rc,.int .u32 rl,.str rd]])) (.ret ([.bool (decide (idxL (Zi rn rt rc rl rd) l 0≥0))],[.boxT none [.str rn,.int .u16 rt,.int .u16 rc,.int .u32 rl,.str rd]]))) .no
def X46:OSpec:={ f:=86,sh:=[.d (.list RR) false,.fnp 84 [(0,0)]],so:=[.box [.d .str false,.d (.int .u16) false,.d (.int .u16) false,.d (.int .u32) false,.d .str false]],F:=fun(l,_) ((rn,rt,rc,rl,rd,_),_)=>t86s l rn rt rc rl rd }
theorem fn86s (l:List RRt) (rn:List UInt8) (rt rc rl:Int) (rd:List UInt8):evC T0 (orcB [] [U44]) (lpOf h86 1 (lsOf [])) c86 1000000 (Z1 [.list RR l,.fn 84 [.ptr 0 0]] [.box [.str rn,.int .u16 rt,.int .u16 rc,.int .u32 rl,.str rd]] Try.f86.ntmps) (J1 T0 false 1 Try.f86)=(t86s l rn rt rc rl rd).get:=by kernel_rfl
theorem ok86s:X46.Ok Try.prog:=by
 refine V3 Q1 tab0 (V0 Z0 (all_cons ok88s Z0)) h86 (d:=0) (n0:=1) (S:=lsOf []) Try.func86 (by kernel_rfl) (c:=c86) (by kernel_rfl) rfl (Z2 (by kernel_rfl)) (by omega) (by kernel_rfl) ?_
 intro x'' y'' q'' hq''
 obtain⟨(l:List RRt),_⟩:=x''
 obtain⟨⟨(rn:List UInt8),(rt:Int),(rc:Int),(rl:Int),(rd:List UInt8),_⟩,_⟩:=y''
 exact(fn86s l rn rt rc rl rd).trans hq''
def Q3j:OSpec:=X46.like fun(l,_) ((rn,rt,rc,rl,rd,_),_)=>.on (lrB l) ([.bool (l.any (Zi rn rt rc rl rd))],[.box [.str rn,.int .u16 rt,.int .u16 rc,.int .u32 rl,.str rd]])
theorem X29 {α:Type} (f:α→Bool):∀ (l:List α),(l.find? f).isSome=l.any f
 | []=>rfl
 | x::l=>by
   cases h:f x with
   | true=>simp[h]
   | false=>rw[List.find?_cons_of_neg (by simp[h]),X29 f l];simp[h]
theorem J4c:Q3j.Ok Try.prog:=by
 refine Zc ok86s _ ?_
 rintro⟨(l:List RRt),_⟩ ⟨⟨(rn:List UInt8),(rt:Int),(rc:Int),(rl:Int),(rd:List UInt8),_⟩,_⟩ r' h
 obtain⟨hb,rfl⟩:=Tr.get_on h
 have hb:lrB l=true:=hb
 refine Tr.get_of_all ?_
 show (t86s l rn rt rc rl rd).all _
 unfold t86s
 have hx:ixS l (l.length:Int) 0=true:=by unfold ixS;rw[hb];simp
 rw[←X29]
 rcases V02 (Zi rn rt rc rl rd) (Ty.dflt RR) l 0 with ⟨h1,h2⟩ | ⟨j,h1,h2,h3⟩
 ·rw[h1,h2]
  repeat' (first | exact Tr.all_ret rfl | refine Tr.all_t hx ?_ | refine Tr.all_t rfl ?_ | refine Tr.all_f rfl ?_)
 ·rw[h1,h3,show ((0+j:Nat):Int)=(j:Int) by omega]
  refine Tr.all_t hx (Tr.all_f (X0 (by omega)) (Tr.all_ret ?_))
  rw[J0 (show (j:Int)≥0 by omega)]
  rfl
def t60 (sec:Int) (r:RRt) (s0:Int) (l:List RRt):Tr Res:=.br (s0==0) (.br (sec==sec) (.br (lrB l) (.br (!List.any l (Zi r.1 r.2.1 r.2.2.1 r.2.2.2.1 r.2.2.2.2)) (.br (fits (List.length l+1) 40) (.ret ([],[.boxT none [.int .i64 sec,.rowA 1],.row RR (l++[r])])) .no) (.ret ([],[.boxT none [.int .i64 sec,.rowA 1],.row RR l]))) .no) (.ret ([],[.boxT none [.int .i64 sec,.rowA 1],.row RR l]))) (.br (s0==sec) (.br (lrB l) (.br (!List.any l (Zi r.1 r.2.1 r.2.2.1 r.2.2.2.1 r.2.2.2.2)) (.br (fits (List.length l+1) 40) (.ret ([],[.boxT none [.int .i64 s0,.rowA 1],.row RR (l++[r])])) .no) (.ret ([],[.boxT none [.int .i64 s0,.rowA 1],.row RR l]))) .no) (.ret ([],[.boxT none [.int .i64 s0,.rowA 1],.row RR l])))
def os60:OSpec:={ f:=60,sh:=[.ptr 0 0,.d (.int .i64) false,.d RR true],so:=[.box [.d (.int .i64) false,.row 1],.row RR],F:=fun(sec,r,_) ((s0,_),l,_)=>t60 sec r s0 l }
theorem fn60 (sec:Int) (r:RRt) (s0:Int) (l:List RRt):evC T0 (orcB [] [Q3j]) (lpOf h60 2 (lsOf [])) c60 1000000 (Z1 [.ptr 0 0,.int .i64 sec,AV.ofTy RR r true] [.box [.int .i64 s0,.rowA 1],.row RR l] Try.f60.ntmps) (J1 T0 false 2 Try.f60)=(t60 sec r s0 l).get:=by kernel_rfl
theorem ok60:os60.Ok Try.prog:=by
 refine V3 Q1 tab0 (V0 Z0 (all_cons J4c Z0)) h60 (d:=0) (n0:=2) (S:=lsOf []) Try.func60 (by kernel_rfl) (c:=c60) (by kernel_rfl) rfl (Z2 (by kernel_rfl)) (by omega) (by kernel_rfl) ?_
 intro x'' y'' q'' hq''
 obtain⟨(sec:Int),(r:RRt),_⟩:=x''
 obtain⟨⟨(s0:Int),_⟩,(l:List RRt),_⟩:=y''
 exact(fn60 sec r s0 l).trans hq''
def Xg (s0 sec:Int):Int:=bif s0==0 then sec else s0
def Zo (s0 sec:Int) (r:RRt) (l:List RRt):List RRt:=bif Xg s0 sec==sec&&!l.any (fun o=>sayV o r) then l++[r] else l
def Up:OSpec:=os60.like fun(sec,r,_) ((s0,_),l,_)=>.on (Nat.ble l.length 900000) ([],[.box [.int .i64 (Xg s0 sec),.rowA 1],.row RR (Zo s0 sec r l)])
theorem ok60w:Up.Ok Try.prog:=by
 refine Zc ok60 _ ?_
 rintro⟨(sec:Int),(r:RRt),_⟩ ⟨⟨(s0:Int),_⟩,(l:List RRt),_⟩ r' h
 obtain⟨hb,rfl⟩:=Tr.get_on h
 have hb:Nat.ble l.length 900000=true:=hb
 have hl:=Nat.le_of_ble_eq_true hb
 have hlr:lrB l=true:=Nat.ble_eq_true_of_le (by omega)
 refine Tr.get_of_all ?_
 show (t60 sec r s0 l).all _
 unfold t60 Zo Xg
 have ha:l.any (Zi r.1 r.2.1 r.2.2.1 r.2.2.2.1 r.2.2.2.2)=l.any (fun o=>sayV o r):=rfl
 rw[ha]
 have hf:fits (l.length+1) 40=true:=Zy (by omega) (by omega)
 cases h0:s0==0 with
 | true=>
   refine Tr.all_t rfl (Tr.all_t (by simp) (Tr.all_t hlr ?_))
   cases h1:l.any (fun o=>sayV o r) with
   | true=>exact Tr.all_f rfl (Tr.all_ret (by simp))
   | false=>exact Tr.all_t rfl (Tr.all_t hf (Tr.all_ret (by simp)))
 | false=>
   cases h2:s0==sec with
   | false=>exact Tr.all_f rfl (Tr.all_f rfl (Tr.all_ret (by simp[h2])))
   | true=>
     refine Tr.all_f rfl (Tr.all_t rfl (Tr.all_t hlr ?_))
     cases h1:l.any (fun o=>sayV o r) with
     | true=>exact Tr.all_f rfl (Tr.all_ret (by simp[h2]))
     | false=>exact Tr.all_t rfl (Tr.all_t hf (Tr.all_ret (by simp[h2])))
noncomputable def TQ:Tab:={ T0 with dcl:=true }
theorem tabQ:U2 Try.prog TQ:=U3r tab0
abbrev ES:=List (QQt×(Int×List RRt))
def Qh (z:List UInt8) (sec:Int) (a:ES×List QQt) (r:RRt):ES×List QQt:=
 bif inV z r then bif hasB (keqD QQ) (keyV r) a.1 then (putB (keqD QQ) (keyV r) (Xg (getB (keqD QQ) (0,[]) (keyV r) a.1).1 sec,Zo (getB (keqD QQ) (0,[]) (keyV r) a.1).1 sec r (getB (keqD QQ) (0,[]) (keyV r) a.1).2) a.1,a.2)
  else (a.1++[(keyV r,(sec,[r]))],a.2++[keyV r]) else a
def cRun (z:List UInt8) (sec:Int) (l:List RRt) (a:ES×List QQt):ES×List QQt:=l.foldl (Qh z sec) a
theorem keqQ (q:QQt):keqD QQ q q=true:=by simp[keqD]
theorem J15 {κ α:Type} {eq:κ→κ→Bool} {x:κ} (hx:eq x x=true) (u v:α):∀ {es:List (κ×α)},hasB eq x es=false→putB eq x v (putB eq x u es)=es++[(x,v)]
 | [],_=>by simp[putB,hx]
 | e::es,h=>by
   have hq:eq x e.1=false:=(Z0l h).1 0 e rfl
   have h':hasB eq x es=false:=by simpa[hasB,Q06,hq] using h
   have ih:=J15 hx u v h'
   simp only[putB,hq,cond_false,List.cons_append,ih]
def BdE (es:ES) (B:Nat):Prop:=∀ e∈es,e.2.2.length≤B
theorem V2l {es:ES} {B:Nat} (h:BdE es B) (q:QQt):(getB (keqD QQ) (0,[]) q es).2.length≤B:=by
 cases hb:hasB (keqD QQ) q es with
 | true=>
   obtain⟨n,e,h1,_,h3,_⟩:=Zr hb
   unfold getB
   rw[h3]
   exact h e (List.mem_of_getElem? h1)
 | false=>
   unfold getB
   unfold hasB at hb
   rw[Option.isSome_eq_false_iff,Option.isNone_iff_eq_none] at hb
   rw[hb]
   exact Nat.zero_le _
theorem Q3v {es:ES} {B:Nat} (h:BdE es B) {q:QQt} {v:Int×List RRt} (hv:v.2.length≤B):BdE (putB (keqD QQ) q v es) B:=by
 induction es with
 | nil=>intro e he;simp[putB] at he;subst he;exact hv
 | cons x es ih=>
   intro e he
   unfold putB at he
   cases hq:keqD QQ q x.1 with
   | true=>
     rw[hq] at he
     rcases List.mem_cons.1 he with rfl | he
     ·exact hv
     ·exact h e (List.mem_cons_of_mem _ he)
   | false=>
     rw[hq] at he
     rcases List.mem_cons.1 he with rfl | he
     ·exact h _ (by simp)
     ·exact ih (fun e he=>h e (List.mem_cons_of_mem _ he)) e he
theorem J3b (s0 sec:Int) (r:RRt) (l:List RRt):(Zo s0 sec r l).length≤l.length+1:=by
 unfold Zo
 cases (Xg s0 sec==sec&&!l.any fun o=>sayV o r)<;>simp
theorem Q23 {z:List UInt8} {sec:Int} {a:ES×List QQt} {r:RRt} {B:Nat} (h1:BdE a.1 B) (h2:a.2.length≤B):BdE (Qh z sec a r).1 (B+1)∧(Qh z sec a r).2.length≤B+1:=by
 have up:BdE a.1 (B+1):=fun e he=>Nat.le_succ_of_le (h1 e he)
 unfold Qh
 cases inV z r with
 | false=>exact⟨up,by simp only[cond_false];omega⟩
 | true=>
   simp only[cond_true]
   cases hasB (keqD QQ) (keyV r) a.1 with
   | true=>
     simp only[cond_true]
     exact⟨Q3v up (Nat.le_trans (J3b (getB (keqD QQ) (0,[]) (keyV r) a.1).1 sec r (getB (keqD QQ) (0,[]) (keyV r) a.1).2) (Nat.succ_le_succ (V2l h1 (keyV r)))),by omega⟩
   | false=>
     simp only[cond_false]
     refine⟨fun e he=>?_,by rw[List.length_append,List.length_singleton];omega⟩
     rcases List.mem_append.1 he with he | he
     ·exact up e he
     ·simp at he
      subst he
      show [r].length≤B+1
      simp
theorem Ut {z:List UInt8} {sec:Int}:∀ (l:List RRt) (a:ES×List QQt) (B:Nat),BdE a.1 B→a.2.length≤B→BdE (cRun z sec l a).1 (B+l.length)∧(cRun z sec l a).2.length≤B+l.length
 | [],a,B,h1,h2=>⟨h1,h2⟩
 | r::l,a,B,h1,h2=>by
   obtain⟨h3,h4⟩:=Q23 (z:=z) (sec:=sec) (r:=r) h1 h2
   have:=Ut (z:=z) (sec:=sec) l (Qh z sec a r) (B+1) h3 h4
   rw[List.length_cons,show B+(l.length+1)=B+1+l.length by omega]
   exact this
def inC (z:List UInt8) (s:Int) (l:List RRt) (n i:Int) (es:ES) (od:List QQt):Bool:=okF l z []&&(secB (s+1)&&(decide (n=(l.length:Int))&&(decide (i=0)&&(Nat.ble l.length 2000&&(es.all (fun e=>Nat.ble e.2.2.length 10000)&&Nat.ble od.length 10000)))))
noncomputable def b34i:Code:=X4 (X4 c34 0) 0
def V3f:LoopSpec:={ bid:=2,sh:=[.d .str false,.d (.int .u64) false,.d (.int .u32) false,.ptr 0 0,.mp 1,.row 2,.d (.int .i64) false,.d (.pair (.list RR) (.pair (.list RR) (.list RR))) true,.d (.int .i64) false,.d (.list RR) false,.d (.int .i64) false,.d (.int .i64) false],so:=[.box [.d (.int .u16) false,.d .bool false,.d .bool false,.d .bool false,.d .bool false,.d .bool false,.d (.int .i64) false,.d (.int .i64) false,.d (.list QQ) false,.d (.list RR) false,.d (.list RR) false,.d (.list RR) false],.mapb QQ .i64 RR,.row QQ],F:=fun(z,now,most,s,arr,si,l,n,i,_) ((mi,mqr,maa,mtc,mrd,mra,mop,mrc,mq,man,mns,mar,_),es,od,_)=>.on (inC z s l n i es od) (.exit 2,[.str z,.int .u64 now,.int .u32 most,.ptr 0 0,.mp 1,.rowA 2,AV.ofTy (.pair (.list RR) (.pair (.list RR) (.list RR))) arr true,.int .i64 si],[.box [.int .u16 mi,.bool mqr,.bool maa,.bool mtc,.bool mrd,.bool mra,.int .i64 mop,.int .i64 mrc,.list QQ mq,.list RR man,.list RR mns,.list RR mar],.mpb QQ .i64 RR (cRun z (s+1) l (es,od)).1 none,.row QQ (cRun z (s+1) l (es,od)).2]) }
def r34i (z:List UInt8) (now most s:Int) (arr:(List RRt×(List RRt×List RRt))) (si:Int) (l:List RRt) (n i mi:Int) (mqr maa mtc mrd mra:Bool) (mop mrc:Int) (mq:List QQt) (man mns mar:List RRt) (es:List (QQt×(Int×List RRt))) (od:List QQt):Tr (St⊕(Ex×St)):=.br (decide (i < n)) (.br (decide (0≤i)) (.br (decide (i < (↑l.length:Int))) (.br (okR (l.getD i.toNat (Ty.dflt RR))&&smN z) (.br (!inV z (l.getD i.toNat (Ty.dflt RR))) (.ret (.inl (stOf [1,2,3,4,9,10,11,28,29,33,34,35] [.str z,.int .u64 now,.int .u32 most,.ptr 0 0,.mp 1,.rowA 2,.int .i64 s,.agg [.list RR arr.1,.list RR arr.2.1,.list RR arr.2.2],.int .i64 si,.list RR l,.int .i64 n,.int .i64 (IntKind.wrap .i64 (i+1))] [.boxT none [.int .u16 mi,.bool mqr,.bool maa,.bool mtc,.bool mrd,.bool mra,.int .i64 mop,.int .i64 mrc,.list QQ mq,.list RR man,.list RR mns,.list RR mar],LObj.mpb QQ IntKind.i64 RR es none,.row QQ od]))) (.br (hasB (keqD QQ) (keyV (l.getD i.toNat (Ty.dflt RR))) es) (.br (keqD QQ (keyV (l.getD i.toNat (Ty.dflt RR))) (keyV (l.getD i.toNat (Ty.dflt RR)))) (.br (Nat.ble (List.length (getB (keqD QQ) (0,[]) (keyV (l.getD i.toNat (Ty.dflt RR))) es).2) 900000) (.ret (.inl (stOf [1,2,3,4,9,10,11,28,29,33,34,35] [.str z,.int .u64 now,.int .u32 most,.ptr 0 0,.mp 1,.rowA 2,.int .i64 s,.agg [.list RR arr.1,.list RR arr.2.1,.list RR arr.2.2],.int .i64 si,.list RR l,.int .i64 n,.int .i64 (IntKind.wrap .i64 (i+1))] [.boxT none [.int .u16 mi,.bool mqr,.bool maa,.bool mtc,.bool mrd,.bool mra,.int .i64 mop,.int .i64 mrc,.list QQ mq,.list RR man,.list RR mns,.list RR mar],LObj.mpb QQ IntKind.i64 RR (putB (keqD QQ) (keyV (l.getD i.toNat (Ty.dflt RR))) (Xg (getB (keqD QQ) (0,[]) (keyV (l.getD i.toNat (Ty.dflt RR))) es).1 (IntKind.wrap .i64 (s+1)),Zo (getB (keqD QQ) (0,[]) (keyV (l.getD i.toNat (Ty.dflt RR))) es).1 (IntKind.wrap .i64 (s+1)) (l.getD i.toNat (Ty.dflt RR)) (getB (keqD QQ) (0,[]) (keyV (l.getD i.toNat (Ty.dflt RR))) es).2) es) none,.row QQ od]))) .no) .no) (.br (!hasB (keqD QQ) (keyV (l.getD i.toNat (Ty.dflt RR))) es&&keqD QQ (keyV (l.getD i.toNat (Ty.dflt RR))) (keyV (l.getD i.toNat (Ty.dflt RR)))) (.br (fits (List.length od+1) 24) (.br (keqD QQ (keyV (l.getD i.toNat (Ty.dflt RR))) (keyV (l.getD i.toNat (Ty.dflt RR)))) (.ret (.inl (stOf [1,2,3,4,9,10,11,28,29,33,34,35] [.str z,.int .u64 now,.int .u32 most,.ptr 0 0,.mp 1,.rowA 2,.int .i64 s,.agg [.list RR arr.1,.list RR arr.2.1,.list RR arr.2.2],.int .i64 si,.list RR l,.int .i64 n,.int .i64 (IntKind.wrap .i64 (i+1))] [.boxT none [.int .u16 mi,.bool mqr,.bool maa,.bool mtc,.bool mrd,.bool mra,.int .i64 mop,.int .i64 mrc,.list QQ mq,.list RR man,.list RR mns,.list RR mar],LObj.mpb QQ IntKind.i64 RR (putB (keqD QQ) (keyV (l.getD i.toNat (Ty.dflt RR))) (Xg 0 (IntKind.wrap .i64 (s+1)),Zo 0 (IntKind.wrap .i64 (s+1)) (l.getD i.toNat (Ty.dflt RR)) []) (putB (keqD QQ) (keyV (l.getD i.toNat (Ty.dflt RR))) (0,[]) es)) none,.row QQ (od++[keyV (l.getD i.toNat (Ty.dflt RR))])]))) .no) .no) .no))) .no) .no) .no) (.ret (.inr (.exit 2,stOf [1,2,3,4,9,10,28,29] [.str z,.int .u64 now,.int .u32 most,.ptr 0 0,.mp 1,.rowA 2,.agg [.list RR arr.1,.list RR arr.2.1,.list RR arr.2.2],.int .i64 si] [.boxT none [.int .u16 mi,.bool mqr,.bool maa,.bool mtc,.bool mrd,.bool mra,.int .i64 mop,.int .i64 mrc,.list QQ mq,.list RR man,.list RR mns,.list RR mar],LObj.mpb QQ IntKind.i64 RR es none,.row QQ od])))
theorem Z39 (lp:Lp) (z:List UInt8) (now most s:Int) (arr:(List RRt×(List RRt×List RRt))) (si:Int) (l:List RRt) (n i mi:Int) (mqr maa mtc mrd mra:Bool) (mop mrc:Int) (mq:List QQt) (man mns mar:List RRt) (es:List (QQt×(Int×List RRt))) (od:List QQt):evC TQ (orcB [Xi,Qj,Jo,Jp,Xo] [Up,Qp]) lp b34i 2 (stOf [1,2,3,4,9,10,11,28,29,33,34,35] [.str z,.int .u64 now,.int .u32 most,.ptr 0 0,.mp 1,.rowA 2,.int .i64 s,AV.ofTy (.pair (.list RR) (.pair (.list RR) (.list RR))) arr true,.int .i64 si,.list RR l,.int .i64 n,.int .i64 i] [.box [.int .u16 mi,.bool mqr,.bool maa,.bool mtc,.bool mrd,.bool mra,.int .i64 mop,.int .i64 mrc,.list QQ mq,.list RR man,.list RR mns,.list RR mar],.mpb QQ .i64 RR es none,.row QQ od]) (Q0 [1,2,3,4,9,10,11,28,29,33,34,35] [1,2,3,4,9,10,28,29] 0)=(r34i z now most s arr si l n i mi mqr maa mtc mrd mra mop mrc mq man mns mar es od).get:=by kernel_rfl
theorem wf34i (z:List UInt8) (now most s:Int) (arr:(List RRt×(List RRt×List RRt))) (si:Int) (l:List RRt) (n mi:Int) (mqr maa mtc mrd mra:Bool) (mop mrc:Int) (mq:List QQt) (man mns mar:List RRt) (I'':Int→List (QQt×(Int×List RRt))→List QQt→Prop) (m'':Int→List (QQt×(Int×List RRt))→List QQt→Nat) (r'':Ex×St) (h:∀ (i:Int) (es:List (QQt×(Int×List RRt))) (od:List QQt),I'' i es od→(r34i z now most s arr si l n i mi mqr maa mtc mrd mra mop mrc mq man mns mar es od).all fun x''=>x''=.inr r''∨∃ (i':Int) (es':List (QQt×(Int×List RRt))) (od':List QQt),x''=.inl (stOf [1,2,3,4,9,10,11,28,29,33,34,35] [.str z,.int .u64 now,.int .u32 most,.ptr 0 0,.mp 1,.rowA 2,.int .i64 s,AV.ofTy (.pair (.list RR) (.pair (.list RR) (.list RR))) arr true,.int .i64 si,.list RR l,.int .i64 n,.int .i64 i'] [.box [.int .u16 mi,.bool mqr,.bool maa,.bool mtc,.bool mrd,.bool mra,.int .i64 mop,.int .i64 mrc,.list QQ mq,.list RR man,.list RR mns,.list RR mar],.mpb QQ .i64 RR es' none,.row QQ od'])∧I'' i' es' od'∧m'' i' es' od' < m'' i es od) (lp:Lp) (i:Int) (es:List (QQt×(Int×List RRt))) (od:List QQt):I'' i es od→
    X2 (fun st=>evC TQ (orcB [Xi,Qj,Jo,Jp,Xo] [Up,Qp]) lp b34i 2 st (Q0 [1,2,3,4,9,10,11,28,29,33,34,35] [1,2,3,4,9,10,28,29] 0)) (stOf [1,2,3,4,9,10,11,28,29,33,34,35] [.str z,.int .u64 now,.int .u32 most,.ptr 0 0,.mp 1,.rowA 2,.int .i64 s,AV.ofTy (.pair (.list RR) (.pair (.list RR) (.list RR))) arr true,.int .i64 si,.list RR l,.int .i64 n,.int .i64 i] [.box [.int .u16 mi,.bool mqr,.bool maa,.bool mtc,.bool mrd,.bool mra,.int .i64 mop,.int .i64 mrc,.list QQ mq,.list RR man,.list RR mns,.list RR mar],.mpb QQ .i64 RR es none,.row QQ od])=some r'':=
 U4 (fun a'':Int×List (QQt×(Int×List RRt))×List QQt=>stOf [1,2,3,4,9,10,11,28,29,33,34,35] [.str z,.int .u64 now,.int .u32 most,.ptr 0 0,.mp 1,.rowA 2,.int .i64 s,AV.ofTy (.pair (.list RR) (.pair (.list RR) (.list RR))) arr true,.int .i64 si,.list RR l,.int .i64 n,.int .i64 a''.1] [.box [.int .u16 mi,.bool mqr,.bool maa,.bool mtc,.bool mrd,.bool mra,.int .i64 mop,.int .i64 mrc,.list QQ mq,.list RR man,.list RR mns,.list RR mar],.mpb QQ .i64 RR a''.2.1 none,.row QQ a''.2.2]) (fun a''=>I'' a''.1 a''.2.1 a''.2.2) (fun a''=>m'' a''.1 a''.2.1 a''.2.2) r'' (fun a''=>r34i z now most s arr si l n a''.1 mi mqr maa mtc mrd mra mop mrc mq man mns mar a''.2.1 a''.2.2)
  (fun a'' x hx=>(Z39 lp z now most s arr si l n a''.1 mi mqr maa mtc mrd mra mop mrc mq man mns mar a''.2.1 a''.2.2).trans hx) (fun a'' ha=>Tr.all_mono (fun x'' hx=>hx.imp id fun⟨i',es',od',h1,h2,h3⟩=>⟨(i',es',od'),h1,h2,h3⟩) (h (a''.1) (a''.2.1) (a''.2.2) ha)) (i,es,od)
theorem V3s:V3f.Ok TQ (orcB [Xi,Qj,Jo,Jp,Xo] [Up,Qp]) h34 0 0 b34i:=by
 intro q'' hq'' x'' y'' r'' h
 obtain⟨(z:List UInt8),(now:Int),(most:Int),(s:Int),(arr:(List RRt×(List RRt×List RRt))),(si:Int),(l:List RRt),(n:Int),(i:Int),_⟩:=x''
 obtain⟨⟨(mi:Int),(mqr:Bool),(maa:Bool),(mtc:Bool),(mrd:Bool),(mra:Bool),(mop:Int),(mrc:Int),(mq:List QQt),(man:List RRt),(mns:List RRt),(mar:List RRt),_⟩,(es:List (QQt×(Int×List RRt))),(od:List QQt),_⟩:=y''
 obtain⟨hc,rfl⟩:=Tr.get_on h
 show X2 (fun st=>evC TQ (orcB [Xi,Qj,Jo,Jp,Xo] [Up,Qp]) (lpN TQ (orcB [Xi,Qj,Jo,Jp,Xo] [Up,Qp]) h34 0 q'') b34i 2 st (Q0 [1,2,3,4,9,10,11,28,29,33,34,35] [1,2,3,4,9,10,28,29] 0)) (stOf [1,2,3,4,9,10,11,28,29,33,34,35] [.str z,.int .u64 now,.int .u32 most,.ptr 0 0,.mp 1,.rowA 2,.int .i64 s,AV.ofTy (.pair (.list RR) (.pair (.list RR) (.list RR))) arr true,.int .i64 si,.list RR l,.int .i64 n,.int .i64 i] [.box [.int .u16 mi,.bool mqr,.bool maa,.bool mtc,.bool mrd,.bool mra,.int .i64 mop,.int .i64 mrc,.list QQ mq,.list RR man,.list RR mns,.list RR mar],.mpb QQ .i64 RR es none,.row QQ od])=some (.exit 2,stOf [1,2,3,4,9,10,28,29] ([.str z,.int .u64 now,.int .u32 most,.ptr 0 0,.mp 1,.rowA 2,AV.ofTy (.pair (.list RR) (.pair (.list RR) (.list RR))) arr true,.int .i64 si]) ([.box [.int .u16 mi,.bool mqr,.bool maa,.bool mtc,.bool mrd,.bool mra,.int .i64 mop,.int .i64 mrc,.list QQ mq,.list RR man,.list RR mns,.list RR mar],.mpb QQ .i64 RR (cRun z (s+1) l (es,od)).1 none,.row QQ (cRun z (s+1) l (es,od)).2]))
 simp only[inC,okF,okL,Bool.and_eq_true,decide_eq_true_eq] at hc
 obtain⟨⟨⟨hl,hall⟩,hz,_⟩,hs,rfl,rfl,hl3,he,ho⟩:=hc
 have hl:=Nat.le_of_ble_eq_true hl
 have hl3:=Nat.le_of_ble_eq_true hl3
 have ho:=Nat.le_of_ble_eq_true ho
 have he:BdE es 10000:=fun e hh=>Nat.le_of_ble_eq_true (List.all_eq_true.1 he e hh)
 have hs':=hs
 simp only[secB,Bool.and_eq_true,decide_eq_true_eq] at hs'
 refine wf34i z now most s arr si l l.length mi mqr maa mtc mrd mra mop mrc mq man mns mar (fun j e o=>0≤j∧j≤l.length∧BdE e (10000+j.toNat)∧o.length≤10000+j.toNat∧cRun z (s+1) (l.drop j.toNat) (e,o)=cRun z (s+1) l (es,od)) (fun j e o=>(l.length - j).toNat) _ ?_ _ 0 es od ⟨by omega,by omega,he,ho,rfl⟩
 rintro j e o ⟨h0,h1,g1,g2,g3⟩
 unfold r34i
 rw[V4 h0 h1 (by omega),IntWalk.i64_in (s+1) (by omega)]
 by_cases hj:j < l.length
 ·have hok:=Z0p hall h0 hj
  rw[Z5 (l:=l) (k:=j.toNat) (by omega) (Ty.dflt RR)] at g3
  generalize l.getD j.toNat (Ty.dflt RR)=x at *
  have g4:cRun z (s+1) (l.drop (j+1).toNat) (Qh z (s+1) (e,o) x)=cRun z (s+1) l (es,od):=by rw[show (j+1).toNat=j.toNat+1 by omega];exact g3
  obtain⟨g5,g6⟩:=Q23 (z:=z) (sec:=s+1) (r:=x) (a:=(e,o)) g1 g2
  rw[show 10000+j.toNat+1=10000+(j+1).toNat by omega] at g5 g6
  have hgo:∀ a:ES×List QQt,Qh z (s+1) (e,o) x=a→BdE a.1 (10000+(j+1).toNat)∧a.2.length≤10000+(j+1).toNat∧cRun z (s+1) (l.drop (j+1).toNat) a=cRun z (s+1) l (es,od):=fun a ha=>by subst ha;exact⟨g5,g6,g4⟩
  clear g3 g4 g5 g6
  refine Tr.all_t (J0 hj) (Tr.all_t (J0 h0) (Tr.all_t (J0 hj) (Tr.all_t (by rw[hok,hz];rfl) (Tr.all_br (fun c=>?_) fun c=>?_))))
  ·have c:inV z x=false:=by simpa using c
   have:=hgo (e,o) (by simp only[Qh,c,cond_false])
   exact Tr.all_ret (.inr ⟨_,_,_,rfl,⟨by omega,by omega,this⟩,by omega⟩)
  ·have c:inV z x=true:=by simpa using c
   refine Tr.all_br (fun c2=>?_) fun c2=>?_
   ·have:=hgo (putB (keqD QQ) (keyV x) (Xg (getB (keqD QQ) (0,[]) (keyV x) e).1 (s+1),Zo (getB (keqD QQ) (0,[]) (keyV x) e).1 (s+1) x (getB (keqD QQ) (0,[]) (keyV x) e).2) e,o) (by simp only[Qh,c,c2,cond_true])
    have hgl:=V2l g1 (keyV x)
    exact Tr.all_t (keqQ _) (Tr.all_t (Nat.ble_eq_true_of_le (by omega)) (Tr.all_ret (.inr ⟨_,_,_,rfl,⟨by omega,by omega,this⟩,by omega⟩)))
   ·have hq:=J15 (keqQ (keyV x)) ((0:Int),([]:List RRt)) (Xg 0 (s+1),Zo 0 (s+1) x []) c2
    have:=hgo (e++[(keyV x,(s+1,[x]))],o++[keyV x]) (by simp only[Qh,c,c2,cond_true,cond_false])
    have hv:(Xg 0 (s+1),Zo 0 (s+1) x [])=(s+1,[x]):=by simp[Xg,Zo]
    have hq:putB (keqD QQ) (keyV x) (Xg 0 (s+1),Zo 0 (s+1) x []) (putB (keqD QQ) (keyV x) (0,[]) e)=e++[(keyV x,(s+1,[x]))]:=(J15 (keqQ (keyV x)) _ _ c2).trans (by rw[hv])
    refine Tr.all_t (by rw[c2,keqQ];rfl) (Tr.all_t (Zy (by omega) (by omega)) (Tr.all_t (keqQ _) (Tr.all_ret (.inr ⟨_,_,_,rfl,⟨by omega,by omega,?_⟩,by omega⟩))))
    rw[hq]
    exact this
 ·refine Tr.all_f (X0 hj) (Tr.all_ret (.inl ?_))
  rw[List.drop_eq_nil_of_le (by omega)] at g3
  rw[←g3]
  rfl
theorem J2f {z:List UInt8} {s:Int} {l:List RRt} {es:ES} {od:List QQt} (h:okF l z []=true) (hs:secB (s+1)=true) (hl:l.length≤2000) (he:BdE es 10000) (ho:od.length≤10000):inC z s l (l.length:Int) 0 es od=true:=by
 unfold inC
 rw[h,hs,Nat.ble_eq_true_of_le hl,Nat.ble_eq_true_of_le ho,List.all_eq_true.2 fun e hh=>Nat.ble_eq_true_of_le (he e hh)]
 simp
def okS3 (z:List UInt8) (l:List RRt):Bool:=okF l z []&&Nat.ble l.length 2000
def outC (z:List UInt8) (arr:List RRt×(List RRt×List RRt)) (si:Int) (es:ES) (od:List QQt):Bool:=decide (si=0)&&((es.isEmpty&&od.isEmpty)&&(okS3 z arr.1&&(okS3 z arr.2.1&&okS3 z arr.2.2)))
def cAll (z:List UInt8) (arr:List RRt×(List RRt×List RRt)):ES×List QQt:=cRun z 3 arr.2.2 (cRun z 2 arr.2.1 (cRun z 1 arr.1 ([],[])))
noncomputable def b34o:Code:=X4 c34 0
def U3b:LoopSpec:={ bid:=0,sh:=[.d .str false,.d (.int .u64) false,.d (.int .u32) false,.ptr 0 0,.mp 1,.row 2,.d (.pair (.list RR) (.pair (.list RR) (.list RR))) true,.d (.int .i64) false],so:=[.box [.d (.int .u16) false,.d .bool false,.d .bool false,.d .bool false,.d .bool false,.d .bool false,.d (.int .i64) false,.d (.int .i64) false,.d (.list QQ) false,.d (.list RR) false,.d (.list RR) false,.d (.list RR) false],.mapb QQ .i64 RR,.row QQ],F:=fun(z,now,most,arr,si,_) ((mi,mqr,maa,mtc,mrd,mra,mop,mrc,mq,man,mns,mar,_),es,od,_)=>.on (outC z arr si es od) (.exit 0,[.int .u64 now,.int .u32 most,.ptr 0 0,.mp 1,.rowA 2],[.box [.int .u16 mi,.bool mqr,.bool maa,.bool mtc,.bool mrd,.bool mra,.int .i64 mop,.int .i64 mrc,.list QQ mq,.list RR man,.list RR mns,.list RR mar],.mpb QQ .i64 RR (cAll z arr).1 none,.row QQ (cAll z arr).2]) }
def r34o (z:List UInt8) (now most:Int) (arr:(List RRt×(List RRt×List RRt))) (si mi:Int) (mqr maa mtc mrd mra:Bool) (mop mrc:Int) (mq:List QQt) (man mns mar:List RRt) (es:List (QQt×(Int×List RRt))) (od:List QQt):Tr (St⊕(Ex×St)):=.br (decide (si < 3)) (.br (decide (si=(↑0:Int))) (.br (inC z si arr.1 (↑arr.1.length:Int) 0 es od) (.ret (.inl (stOf [1,2,3,4,9,10,28,29] [.str z,.int .u64 now,.int .u32 most,.ptr 0 0,.mp 1,.rowA 2,.agg [.list RR arr.1,.list RR arr.2.1,.list RR arr.2.2],.int .i64 (IntKind.wrap .i64 (si+1))] [.boxT none [.int .u16 mi,.bool mqr,.bool maa,.bool mtc,.bool mrd,.bool mra,.int .i64 mop,.int .i64 mrc,.list QQ mq,.list RR man,.list RR mns,.list RR mar],LObj.mpb QQ IntKind.i64 RR (cRun z (si+1) arr.1 (es,od)).1 none,.row QQ (cRun z (si+1) arr.1 (es,od)).2]))) .no) (.br (decide (si=(↑(0+1):Int))) (.br (inC z si arr.2.1 (↑arr.2.1.length:Int) 0 es od) (.ret (.inl (stOf [1,2,3,4,9,10,28,29] [.str z,.int .u64 now,.int .u32 most,.ptr 0 0,.mp 1,.rowA 2,.agg [.list RR arr.1,.list RR arr.2.1,.list RR arr.2.2],.int .i64 (IntKind.wrap .i64 (si+1))] [.boxT none [.int .u16 mi,.bool mqr,.bool maa,.bool mtc,.bool mrd,.bool mra,.int .i64 mop,.int .i64 mrc,.list QQ mq,.list RR man,.list RR mns,.list RR mar],LObj.mpb QQ IntKind.i64 RR (cRun z (si+1) arr.2.1 (es,od)).1 none,.row QQ (cRun z (si+1) arr.2.1 (es,od)).2]))) .no) (.br (decide (si=(↑(0+1+1):Int))) (.br (inC z si arr.2.2 (↑arr.2.2.length:Int) 0 es od) (.ret (.inl (stOf [1,2,3,4,9,10,28,29] [.str z,.int .u64 now,.int .u32 most,.ptr 0 0,.mp 1,.rowA 2,.agg [.list RR arr.1,.list RR arr.2.1,.list RR arr.2.2],.int .i64 (IntKind.wrap .i64 (si+1))] [.boxT none [.int .u16 mi,.bool mqr,.bool maa,.bool mtc,.bool mrd,.bool mra,.int .i64 mop,.int .i64 mrc,.list QQ mq,.list RR man,.list RR mns,.list RR mar],LObj.mpb QQ IntKind.i64 RR (cRun z (si+1) arr.2.2 (es,od)).1 none,.row QQ (cRun z (si+1) arr.2.2 (es,od)).2]))) .no) .no))) (.ret (.inr (.exit 0,stOf [2,3,4,9,10] [.int .u64 now,.int .u32 most,.ptr 0 0,.mp 1,.rowA 2] [.boxT none [.int .u16 mi,.bool mqr,.bool maa,.bool mtc,.bool mrd,.bool mra,.int .i64 mop,.int .i64 mrc,.list QQ mq,.list RR man,.list RR mns,.list RR mar],LObj.mpb QQ IntKind.i64 RR es none,.row QQ od])))
theorem X37 (z:List UInt8) (now most:Int) (arr:(List RRt×(List RRt×List RRt))) (si mi:Int) (mqr maa mtc mrd mra:Bool) (mop mrc:Int) (mq:List QQt) (man mns mar:List RRt) (es:List (QQt×(Int×List RRt))) (od:List QQt):evC TQ (orcB [Xi,Qj,Jo,Jp,Xo] [Up,Qp]) (lpOf h34 0 (lsOf [V3f])) b34o 0 (stOf [1,2,3,4,9,10,28,29] [.str z,.int .u64 now,.int .u32 most,.ptr 0 0,.mp 1,.rowA 2,AV.ofTy (.pair (.list RR) (.pair (.list RR) (.list RR))) arr true,.int .i64 si] [.box [.int .u16 mi,.bool mqr,.bool maa,.bool mtc,.bool mrd,.bool mra,.int .i64 mop,.int .i64 mrc,.list QQ mq,.list RR man,.list RR mns,.list RR mar],.mpb QQ .i64 RR es none,.row QQ od]) (Q0 [1,2,3,4,9,10,28,29] [2,3,4,9,10] 0)=(r34o z now most arr si mi mqr maa mtc mrd mra mop mrc mq man mns mar es od).get:=by kernel_rfl
theorem wf34o (z:List UInt8) (now most:Int) (arr:(List RRt×(List RRt×List RRt))) (mi:Int) (mqr maa mtc mrd mra:Bool) (mop mrc:Int) (mq:List QQt) (man mns mar:List RRt) (I'':Int→List (QQt×(Int×List RRt))→List QQt→Prop) (m'':Int→List (QQt×(Int×List RRt))→List QQt→Nat) (r'':Ex×St) (h:∀ (si:Int) (es:List (QQt×(Int×List RRt))) (od:List QQt),I'' si es od→(r34o z now most arr si mi mqr maa mtc mrd mra mop mrc mq man mns mar es od).all fun x''=>x''=.inr r''∨∃ (si':Int) (es':List (QQt×(Int×List RRt))) (od':List QQt),x''=.inl (stOf [1,2,3,4,9,10,28,29] [.str z,.int .u64 now,.int .u32 most,.ptr 0 0,.mp 1,.rowA 2,AV.ofTy (.pair (.list RR) (.pair (.list RR) (.list RR))) arr true,.int .i64 si'] [.box [.int .u16 mi,.bool mqr,.bool maa,.bool mtc,.bool mrd,.bool mra,.int .i64 mop,.int .i64 mrc,.list QQ mq,.list RR man,.list RR mns,.list RR mar],.mpb QQ .i64 RR es' none,.row QQ od'])∧I'' si' es' od'∧m'' si' es' od' < m'' si es od) (q'':Nat) (hq'':1≤q'') (si:Int) (es:List (QQt×(Int×List RRt))) (od:List QQt):I'' si es od→
    X2 (fun st=>evC TQ (orcB [Xi,Qj,Jo,Jp,Xo] [Up,Qp]) (lpN TQ (orcB [Xi,Qj,Jo,Jp,Xo] [Up,Qp]) h34 0 q'') b34o 0 st (Q0 [1,2,3,4,9,10,28,29] [2,3,4,9,10] 0)) (stOf [1,2,3,4,9,10,28,29] [.str z,.int .u64 now,.int .u32 most,.ptr 0 0,.mp 1,.rowA 2,AV.ofTy (.pair (.list RR) (.pair (.list RR) (.list RR))) arr true,.int .i64 si] [.box [.int .u16 mi,.bool mqr,.bool maa,.bool mtc,.bool mrd,.bool mra,.int .i64 mop,.int .i64 mrc,.list QQ mq,.list RR man,.list RR mns,.list RR mar],.mpb QQ .i64 RR es none,.row QQ od])=some r'':=
 U4 (fun a'':Int×List (QQt×(Int×List RRt))×List QQt=>stOf [1,2,3,4,9,10,28,29] [.str z,.int .u64 now,.int .u32 most,.ptr 0 0,.mp 1,.rowA 2,AV.ofTy (.pair (.list RR) (.pair (.list RR) (.list RR))) arr true,.int .i64 a''.1] [.box [.int .u16 mi,.bool mqr,.bool maa,.bool mtc,.bool mrd,.bool mra,.int .i64 mop,.int .i64 mrc,.list QQ mq,.list RR man,.list RR mns,.list RR mar],.mpb QQ .i64 RR a''.2.1 none,.row QQ a''.2.2]) (fun a''=>I'' a''.1 a''.2.1 a''.2.2) (fun a''=>m'' a''.1 a''.2.1 a''.2.2) r'' (fun a''=>r34o z now most arr a''.1 mi mqr maa mtc mrd mra mop mrc mq man mns mar a''.2.1 a''.2.2)
  (fun a'' x hx=>V0b (d:=0) (S:=lsOf [V3f]) (Q0o (xs:=[(2,b34i)]) (by kernel_rfl) (all_cons (Q4 V3s) Z0)) (by omega) ((X37 z now most arr a''.1 mi mqr maa mtc mrd mra mop mrc mq man mns mar a''.2.1 a''.2.2).trans hx)) (fun a'' ha=>Tr.all_mono (fun x'' hx=>hx.imp id fun⟨si',es',od',h1,h2,h3⟩=>⟨(si',es',od'),h1,h2,h3⟩) (h (a''.1) (a''.2.1) (a''.2.2) ha)) (si,es,od)
theorem V41:U3b.Ok TQ (orcB [Xi,Qj,Jo,Jp,Xo] [Up,Qp]) h34 0 1 b34o:=by
 intro q'' hq'' x'' y'' r'' h
 obtain⟨(z:List UInt8),(now:Int),(most:Int),(arr:(List RRt×(List RRt×List RRt))),(si:Int),_⟩:=x''
 obtain⟨⟨(mi:Int),(mqr:Bool),(maa:Bool),(mtc:Bool),(mrd:Bool),(mra:Bool),(mop:Int),(mrc:Int),(mq:List QQt),(man:List RRt),(mns:List RRt),(mar:List RRt),_⟩,(es:List (QQt×(Int×List RRt))),(od:List QQt),_⟩:=y''
 obtain⟨hc,rfl⟩:=Tr.get_on h
 show X2 (fun st=>evC TQ (orcB [Xi,Qj,Jo,Jp,Xo] [Up,Qp]) (lpN TQ (orcB [Xi,Qj,Jo,Jp,Xo] [Up,Qp]) h34 0 q'') b34o 0 st (Q0 [1,2,3,4,9,10,28,29] [2,3,4,9,10] 0)) (stOf [1,2,3,4,9,10,28,29] [.str z,.int .u64 now,.int .u32 most,.ptr 0 0,.mp 1,.rowA 2,AV.ofTy (.pair (.list RR) (.pair (.list RR) (.list RR))) arr true,.int .i64 si] [.box [.int .u16 mi,.bool mqr,.bool maa,.bool mtc,.bool mrd,.bool mra,.int .i64 mop,.int .i64 mrc,.list QQ mq,.list RR man,.list RR mns,.list RR mar],.mpb QQ .i64 RR es none,.row QQ od])=some (.exit 0,stOf [2,3,4,9,10] ([.int .u64 now,.int .u32 most,.ptr 0 0,.mp 1,.rowA 2]) ([.box [.int .u16 mi,.bool mqr,.bool maa,.bool mtc,.bool mrd,.bool mra,.int .i64 mop,.int .i64 mrc,.list QQ mq,.list RR man,.list RR mns,.list RR mar],.mpb QQ .i64 RR (cAll z arr).1 none,.row QQ (cAll z arr).2]))
 simp only[outC,okS3,Bool.and_eq_true,decide_eq_true_eq,List.isEmpty_iff] at hc
 obtain⟨rfl,⟨rfl,rfl⟩,⟨a1,a2⟩,⟨b1,b2⟩,c1,c2⟩:=hc
 have a2:=Nat.le_of_ble_eq_true a2
 have b2:=Nat.le_of_ble_eq_true b2
 have c2:=Nat.le_of_ble_eq_true c2
 have e0:BdE ([]:ES) 0:=fun e h=>by cases h
 obtain⟨e1,o1⟩:=Ut (z:=z) (sec:=1) arr.1 ([],[]) 0 e0 (Nat.le_refl _)
 obtain⟨e2,o2⟩:=Ut (z:=z) (sec:=2) arr.2.1 (cRun z 1 arr.1 ([],[])) _ e1 o1
 have up:∀ (es:ES) (B:Nat),BdE es B→B≤10000→BdE es 10000:=fun es B h hB e he=>Nat.le_trans (h e he) hB
 refine wf34o z now most arr mi mqr maa mtc mrd mra mop mrc mq man mns mar (fun si e o=>(si=0∧e=[]∧o=[])∨(si=1∧e=(cRun z 1 arr.1 ([],[])).1∧o=(cRun z 1 arr.1 ([],[])).2)∨(si=2∧e=(cRun z 2 arr.2.1 (cRun z 1 arr.1 ([],[]))).1∧o=(cRun z 2 arr.2.1 (cRun z 1 arr.1 ([],[]))).2)∨(si=3∧e=(cAll z arr).1∧o=(cAll z arr).2)) (fun si e o=>(3 - si).toNat) _ ?_ _ hq'' 0 [] [] (.inl ⟨rfl,rfl,rfl⟩)
 intro si e o h
 unfold r34o
 rw[IntWalk.i64_in (si+1) (by omega)]
 rcases h with ⟨rfl,rfl,rfl⟩ | ⟨rfl,rfl,rfl⟩ | ⟨rfl,rfl,rfl⟩ | ⟨rfl,rfl,rfl⟩
 ·exact Tr.all_t rfl (Tr.all_t rfl (Tr.all_t (J2f a1 rfl a2 (up _ _ e0 (by omega)) (by simp)) (Tr.all_ret (.inr ⟨_,_,_,rfl,.inr (.inl ⟨rfl,rfl,rfl⟩),by decide⟩))))
 ·exact Tr.all_t rfl (Tr.all_f rfl (Tr.all_t rfl (Tr.all_t (J2f b1 rfl b2 (up _ _ e1 (by omega)) (by omega)) (Tr.all_ret (.inr ⟨_,_,_,rfl,.inr (.inr (.inl ⟨rfl,rfl,rfl⟩)),by decide⟩)))))
 ·exact Tr.all_t rfl (Tr.all_f rfl (Tr.all_f rfl (Tr.all_t rfl (Tr.all_t (J2f c1 rfl c2 (up _ _ e2 (by omega)) (by omega)) (Tr.all_ret (.inr ⟨_,_,_,rfl,.inr (.inr (.inr ⟨rfl,rfl,rfl⟩)),by decide⟩))))))
 ·exact Tr.all_f rfl (Tr.all_ret (.inl rfl))
abbrev EN:Ty:=.pair QQ (.pair (.list RR) (.pair (.int .i64) (.pair (.int .i64) (.int .u64))))
abbrev ENt:=QQt×(List RRt×(Int×(Int×Int)))
def entV (now most:Int) (aa:Bool) (e:QQt×(Int×List RRt)):ENt:=(e.1,(Q38 e.2.2 (Jq e.2.2 most),(0,(Z17 e.2.1 aa,Z12 now (Jq e.2.2 most)))))
def entQ (now most:Int) (aa:Bool) (es:ES) (q:QQt):ENt:=entV now most aa (q,getB (keqD QQ) (0,[]) q es)
theorem J2u {q:QQt} {es:ES} (h:hasB (keqD QQ) q es=true):putB (keqD QQ) q (getB (keqD QQ) (0,[]) q es) es=es:=by
 obtain⟨n,e,h1,_,h3,h4⟩:=Zr h
 rw[h4]
 unfold getB
 rw[h3]
 obtain⟨hn,rfl⟩:=List.getElem?_eq_some_iff.1 h1
 exact List.set_getElem_self hn
def entB (most:Int) (e:Int×List RRt):Bool:=lrB e.2&&(secB e.1&&u32B (Jq e.2 most))
def enC (es:ES) (od:List QQt) (out:List ENt) (now most n i:Int):Bool:=decide (n=(od.length:Int))&&(decide (i=0)&&(Nat.ble od.length 100000&&(out.isEmpty&&(u64B now&&od.all fun q=>hasB (keqD QQ) q es&&entB most (getB (keqD QQ) (0,[]) q es)))))
noncomputable def b34e:Code:=X4 c34 1
def Z32:LoopSpec:={ bid:=4,sh:=[.d (.int .u64) false,.d (.int .u32) false,.ptr 0 0,.mp 1,.row 2,.row 3,.d (.int .i64) false,.d (.int .i64) false],so:=[.box [.d (.int .u16) false,.d .bool false,.d .bool false,.d .bool false,.d .bool false,.d .bool false,.d (.int .i64) false,.d (.int .i64) false,.d (.list QQ) false,.d (.list RR) false,.d (.list RR) false,.d (.list RR) false],.mapb QQ .i64 RR,.row EN,.row QQ],F:=fun(now,most,n,i,_) ((mi,mqr,maa,mtc,mrd,mra,mop,mrc,mq,man,mns,mar,_),es,out,od,_)=>.on (enC es od out now most n i) (.exit 4,[.rowA 0],[.row EN (od.map (entQ now most maa es))]) }
def r34e (now most n i mi:Int) (mqr maa mtc mrd mra:Bool) (mop mrc:Int) (mq:List QQt) (man mns mar:List RRt) (es:List (QQt×(Int×List RRt))) (out:List ENt) (od:List QQt):Tr (St⊕(Ex×St)):=.br (decide (i < n)) (.br (decide (0≤i)) (.br (decide (i < (↑od.length:Int))) (.br (hasB (keqD QQ) (od.getD i.toNat (Ty.dflt QQ)) es) (.br (lrB (getB (keqD QQ) (0,[]) (od.getD i.toNat (Ty.dflt QQ)) es).2) (.br (lrB (getB (keqD QQ) (0,[]) (od.getD i.toNat (Ty.dflt QQ)) es).2) (.br (secB (getB (keqD QQ) (0,[]) (od.getD i.toNat (Ty.dflt QQ)) es).1) (.br (u64B now&&u32B (Jq (getB (keqD QQ) (0,[]) (od.getD i.toNat (Ty.dflt QQ)) es).2 most)) (.br (fits (List.length out+1) 72) (.ret (.inl (stOf [2,3,4,9,16,66,67,68] [.int .u64 now,.int .u32 most,.ptr 0 0,.mp 1,.rowA 2,.rowA 3,.int .i64 n,.int .i64 (IntKind.wrap .i64 (i+1))] [.boxT none [.int .u16 mi,.bool mqr,.bool maa,.bool mtc,.bool mrd,.bool mra,.int .i64 mop,.int .i64 mrc,.list QQ mq,.list RR man,.list RR mns,.list RR mar],LObj.mpb QQ IntKind.i64 RR (putB (keqD QQ) (od.getD i.toNat (Ty.dflt QQ)) (getB (keqD QQ) (0,[]) (od.getD i.toNat (Ty.dflt QQ)) es) es) none,.row EN (out++[(od.getD i.toNat (Ty.dflt QQ),Q38 (getB (keqD QQ) (0,[]) (od.getD i.toNat (Ty.dflt QQ)) es).2 (Jq (getB (keqD QQ) (0,[]) (od.getD i.toNat (Ty.dflt QQ)) es).2 most),0,Z17 (getB (keqD QQ) (0,[]) (od.getD i.toNat (Ty.dflt QQ)) es).1 maa,Z12 now (Jq (getB (keqD QQ) (0,[]) (od.getD i.toNat (Ty.dflt QQ)) es).2 most))]),.row QQ od]))) .no) .no) .no) .no) .no) .no) .no) .no) (.ret (.inr (.exit 4,stOf [16] [.rowA 0] [.row EN out])))
theorem J36 (lp:Lp) (now most n i mi:Int) (mqr maa mtc mrd mra:Bool) (mop mrc:Int) (mq:List QQt) (man mns mar:List RRt) (es:List (QQt×(Int×List RRt))) (out:List ENt) (od:List QQt):evC TQ (orcB [Xi,Qj,Jo,Jp,Xo] [Up,Qp]) lp b34e 4 (stOf [2,3,4,9,16,66,67,68] [.int .u64 now,.int .u32 most,.ptr 0 0,.mp 1,.rowA 2,.rowA 3,.int .i64 n,.int .i64 i] [.box [.int .u16 mi,.bool mqr,.bool maa,.bool mtc,.bool mrd,.bool mra,.int .i64 mop,.int .i64 mrc,.list QQ mq,.list RR man,.list RR mns,.list RR mar],.mpb QQ .i64 RR es none,.row EN out,.row QQ od]) (Q0 [2,3,4,9,16,66,67,68] [16] 0)=(r34e now most n i mi mqr maa mtc mrd mra mop mrc mq man mns mar es out od).get:=by kernel_rfl
theorem wf34e (now most n mi:Int) (mqr maa mtc mrd mra:Bool) (mop mrc:Int) (mq:List QQt) (man mns mar:List RRt) (es:List (QQt×(Int×List RRt))) (od:List QQt) (I'':Int→List ENt→Prop) (m'':Int→List ENt→Nat) (r'':Ex×St) (h:∀ (i:Int) (out:List ENt),I'' i out→(r34e now most n i mi mqr maa mtc mrd mra mop mrc mq man mns mar es out od).all fun x''=>x''=.inr r''∨∃ (i':Int) (out':List ENt),x''=.inl (stOf [2,3,4,9,16,66,67,68] [.int .u64 now,.int .u32 most,.ptr 0 0,.mp 1,.rowA 2,.rowA 3,.int .i64 n,.int .i64 i'] [.box [.int .u16 mi,.bool mqr,.bool maa,.bool mtc,.bool mrd,.bool mra,.int .i64 mop,.int .i64 mrc,.list QQ mq,.list RR man,.list RR mns,.list RR mar],.mpb QQ .i64 RR es none,.row EN out',.row QQ od])∧I'' i' out'∧m'' i' out' < m'' i out) (lp:Lp) (i:Int) (out:List ENt):I'' i out→
    X2 (fun st=>evC TQ (orcB [Xi,Qj,Jo,Jp,Xo] [Up,Qp]) lp b34e 4 st (Q0 [2,3,4,9,16,66,67,68] [16] 0)) (stOf [2,3,4,9,16,66,67,68] [.int .u64 now,.int .u32 most,.ptr 0 0,.mp 1,.rowA 2,.rowA 3,.int .i64 n,.int .i64 i] [.box [.int .u16 mi,.bool mqr,.bool maa,.bool mtc,.bool mrd,.bool mra,.int .i64 mop,.int .i64 mrc,.list QQ mq,.list RR man,.list RR mns,.list RR mar],.mpb QQ .i64 RR es none,.row EN out,.row QQ od])=some r'':=
 U4 (fun a'':Int×List ENt=>stOf [2,3,4,9,16,66,67,68] [.int .u64 now,.int .u32 most,.ptr 0 0,.mp 1,.rowA 2,.rowA 3,.int .i64 n,.int .i64 a''.1] [.box [.int .u16 mi,.bool mqr,.bool maa,.bool mtc,.bool mrd,.bool mra,.int .i64 mop,.int .i64 mrc,.list QQ mq,.list RR man,.list RR mns,.list RR mar],.mpb QQ .i64 RR es none,.row EN a''.2,.row QQ od]) (fun a''=>I'' a''.1 a''.2) (fun a''=>m'' a''.1 a''.2) r'' (fun a''=>r34e now most n a''.1 mi mqr maa mtc mrd mra mop mrc mq man mns mar es a''.2 od)
  (fun a'' x hx=>(J36 lp now most n a''.1 mi mqr maa mtc mrd mra mop mrc mq man mns mar es a''.2 od).trans hx) (fun a'' ha=>Tr.all_mono (fun x'' hx=>hx.imp id fun⟨i',out',h1,h2,h3⟩=>⟨(i',out'),h1,h2,h3⟩) (h (a''.1) (a''.2) ha)) (i,out)
theorem Z3q:Z32.Ok TQ (orcB [Xi,Qj,Jo,Jp,Xo] [Up,Qp]) h34 0 0 b34e:=by
 intro q'' hq'' x'' y'' r'' h
 obtain⟨(now:Int),(most:Int),(n:Int),(i:Int),_⟩:=x''
 obtain⟨⟨(mi:Int),(mqr:Bool),(maa:Bool),(mtc:Bool),(mrd:Bool),(mra:Bool),(mop:Int),(mrc:Int),(mq:List QQt),(man:List RRt),(mns:List RRt),(mar:List RRt),_⟩,(es:List (QQt×(Int×List RRt))),(out:List ENt),(od:List QQt),_⟩:=y''
 obtain⟨hc,rfl⟩:=Tr.get_on h
 show X2 (fun st=>evC TQ (orcB [Xi,Qj,Jo,Jp,Xo] [Up,Qp]) (lpN TQ (orcB [Xi,Qj,Jo,Jp,Xo] [Up,Qp]) h34 0 q'') b34e 4 st (Q0 [2,3,4,9,16,66,67,68] [16] 0)) (stOf [2,3,4,9,16,66,67,68] [.int .u64 now,.int .u32 most,.ptr 0 0,.mp 1,.rowA 2,.rowA 3,.int .i64 n,.int .i64 i] [.box [.int .u16 mi,.bool mqr,.bool maa,.bool mtc,.bool mrd,.bool mra,.int .i64 mop,.int .i64 mrc,.list QQ mq,.list RR man,.list RR mns,.list RR mar],.mpb QQ .i64 RR es none,.row EN out,.row QQ od])=some (.exit 4,stOf [16] ([.rowA 0]) ([.row EN (od.map (entQ now most maa es))]))
 simp only[enC,Bool.and_eq_true,decide_eq_true_eq,List.isEmpty_iff] at hc
 obtain⟨rfl,rfl,hl,rfl,hn,hall⟩:=hc
 have hl:=Nat.le_of_ble_eq_true hl
 refine wf34e now most od.length mi mqr maa mtc mrd mra mop mrc mq man mns mar es od (fun j o=>0≤j∧j≤od.length∧o.length=j.toNat∧o++(od.drop j.toNat).map (entQ now most maa es)=od.map (entQ now most maa es)) (fun j o=>(od.length - j).toNat) _ ?_ _ 0 [] ⟨by omega,by omega,rfl,rfl⟩
 rintro j o ⟨h0,h1,g1,g2⟩
 unfold r34e
 rw[V4 h0 h1 (by omega)]
 by_cases hj:j < od.length
 ·have hx:(od.getD j.toNat (Ty.dflt QQ))∈od:=by
   rw[List.getD_eq_getElem?_getD,List.getElem?_eq_getElem (by omega)]
   exact List.getElem_mem _
  obtain⟨c1,c2⟩:=Bool.and_eq_true_iff.1 (List.all_eq_true.1 hall _ hx)
  simp only[entB,Bool.and_eq_true] at c2
  obtain⟨d1,d2,d3⟩:=c2
  rw[Z5 (l:=od) (k:=j.toNat) (by omega) (Ty.dflt QQ)] at g2
  generalize od.getD j.toNat (Ty.dflt QQ)=x at *
  rw[J2u c1]
  refine Tr.all_t (J0 hj) (Tr.all_t (J0 h0) (Tr.all_t (J0 hj) (Tr.all_t c1 (Tr.all_t d1 (Tr.all_t d1 (Tr.all_t d2 (Tr.all_t (by rw[hn,d3];rfl) (Tr.all_t (Zy (by omega) (by omega)) (Tr.all_ret (.inr ⟨_,_,rfl,⟨by omega,by omega,by rw[List.length_append,List.length_singleton];omega,?_⟩,by omega⟩))))))))))
  rw[show (j+1).toNat=j.toNat+1 by omega,List.append_assoc]
  exact g2
 ·refine Tr.all_f (X0 hj) (Tr.all_ret (.inl ?_))
  rw[List.drop_eq_nil_of_le (by omega)] at g2
  simp only[List.map_nil,List.append_nil] at g2
  rw[g2]
def t34 (m:MGt) (z:List UInt8) (now most:Int):Tr Res:=.br (outC z m.2.2.2.2.2.2.2.2.2 0 [] []) (.br (enC (cAll z m.2.2.2.2.2.2.2.2.2).1 (cAll z m.2.2.2.2.2.2.2.2.2).2 [] now most (↑(List.length (cAll z m.2.2.2.2.2.2.2.2.2).2):Int) 0) (.ret ([.list EN (List.map (entQ now most m.2.2.1 (cAll z m.2.2.2.2.2.2.2.2.2).1) (cAll z m.2.2.2.2.2.2.2.2.2).2)],[])) .no) .no
def os34:OSpec:={ f:=34,sh:=[.d MG true,.d .str false,.d (.int .u64) false,.d (.int .u32) false],so:=[],F:=fun(m,z,now,most,_) _=>t34 m z now most }
theorem fn34 (m:MGt) (z:List UInt8) (now most:Int):evC TQ (orcB [Xi,Qj,Jo,Jp,Xo] [Up,Qp]) (lpOf h34 0 (lsOf [U3b,Z32])) c34 1000000 (Z1 [AV.ofTy MG m true,.str z,.int .u64 now,.int .u32 most] [] Try.f34.ntmps) (J1 TQ false 0 Try.f34)=(t34 m z now most).get:=by kernel_rfl
theorem ok34:os34.Ok Try.prog:=by
 refine V3 Q1 tabQ (V0 (all_cons V1w (all_cons J2g (all_cons V4i (all_cons X4e (all_cons V4b Z0))))) (all_cons ok60w (all_cons ok62w Z0))) h34 (d:=1) (n0:=0) (S:=lsOf [U3b,Z32]) Try.func34 (by kernel_rfl) (c:=c34) (by kernel_rfl) rfl (Q5 (xs:=[(0,b34o),(4,b34e)]) (by kernel_rfl) (all_cons (Q4 V41) (all_cons (Q1q (by kernel_rfl) (Q4 (V2m (by omega) Z3q))) Z0))) (by omega) (by kernel_rfl) ?_
 intro x'' y'' q'' hq''
 obtain⟨(m:MGt),(z:List UInt8),(now:Int),(most:Int),_⟩:=x''
 exact(fn34 m z now most).trans hq''
def fs34:FSpec:=fsT 34 [(MG,true),(.str,false),((.int .u64),false),((.int .u32),false)] [((.list EN),false)] fun(m,z,now,most,_)=>t34 m z now most
theorem X48:fs34.Ok Try.prog:=X5 fun x'' r'' hr''=>ok34 x'' () r'' hr''
def t33:Tr Res:=.ret ([.bool (Jc (0,true,true,false,false,false,0,0,[],[([2,120,121,0],1,1,9,[49,50,51,52])],[],[]) (keyV ([2,120,121,0],1,1,9,[49,50,51,52])) ([0])==1)],[])
def os33:OSpec:={ f:=33,sh:=[],so:=[],F:=fun _ _=>t33 }
theorem fn33:evC T0 (orcB [fs34,Qm,Qj] []) (lpOf h33 0 (lsOf [])) c33 1000000 (Z1 [] [] Try.f33.ntmps) (J1 T0 false 0 Try.f33)=(t33).get:=by kernel_rfl
theorem ok33:os33.Ok Try.prog:=by
 refine V3 Q1 tab0 (V0 (all_cons X48 (all_cons J37 (all_cons J2g Z0))) Z0) h33 (d:=0) (n0:=0) (S:=lsOf []) Try.func33 (by kernel_rfl) (c:=c33) (by kernel_rfl) rfl (Z2 (by kernel_rfl)) (by omega) (by kernel_rfl) ?_
 intro x'' y'' q'' hq''
 exact(fn33).trans hq''
def fs33:FSpec:=fsT 33 [] [(.bool,false)] fun _=>t33
theorem okf33:fs33.Ok Try.prog:=X5 fun x'' r'' hr''=>ok33 x'' () r'' hr''
theorem Z3w:t33=.ret ([.bool true],[]):=by kernel_rfl
def Uo:FSpec:=fs33.like fun _=>.ret (true,())
theorem J4f:Uo.Ok Try.prog:=by
 refine J3 okf33 _ ?_
 intro x y h
 cases h
 refine J2 (vs:=[.bool true]) rfl rfl (Tr.get_of_all ?_)
 show t33.all _
 rw[Z3w]
 exact Tr.all_ret rfl
theorem J26 {rs:List RRt} (h:Uf rs=true):∀ r∈rs,r.1.length≤300∧r.2.2.2.2.length≤300:=fun r hr=>by
 have:=List.all_eq_true.1 h r hr
 simpa only[Bool.and_eq_true,decide_eq_true_eq] using this
theorem U2h {l:List RRt} (hl:l.length≤1000000) (h:∀ r∈l,r.1.length≤300∧r.2.2.2.2.length≤300):okL l=true:=by
 unfold okL lrB
 rw[Nat.ble_eq_true_of_le hl,List.all_eq_true.2 fun r hr=>X1v.2 ⟨by have:=(h r hr).1;omega,by have:=(h r hr).2;omega⟩]
 rfl
theorem V2q {n:List UInt8} (h:n.length≤300):smN n=true:=Jx.2 (by omega)
theorem X2h {l:List RRt} {z n:List UInt8} (h:okL l=true) (hz:z.length≤300) (hn:n.length≤300):okF l z n=true:=by
 unfold okF
 rw[h,V2q hz,V2q hn]
 rfl
def kindB (u tc r0 r3 aa an al rf:Bool):Int:=
 bif !u then 0 else bif tc then 0 else bif r0 then (bif r3 then 0 else bif aa then 4 else 0) else bif an then 1 else bif al then 2 else bif rf then 3 else bif aa then 5 else 0
theorem V0n (m:MGt) (q:QQt) (z:List UInt8):Jc m q z=kindB (undV q.1 z) m.2.2.2.1 (mRc m != 0) (mRc m != 3) m.2.2.1 (cAns m q z).2 (cAls m q z).2 (cRef m q z).2:=rfl
theorem Z2v {t m:Int} (h0:0≤t) (hm:0≤m):0≤Vy t m∧Vy t m≤m:=by
 unfold Vy
 split
 ·omega
 ·split<;>omega
instance decQ2:DecidableEq (Int×Int):=inferInstance
instance decE3:DecidableEq (Int×(Int×Int)):=inferInstance
instance decE4:DecidableEq (List RRt×(Int×(Int×Int))):=inferInstance
instance decQQ':DecidableEq QQt:=inferInstanceAs (DecidableEq QQt)
instance decEN:DecidableEq ENt:=inferInstanceAs (DecidableEq ENt)
theorem X3h {n:Int} (h:okT (.int .u32) n):u32B n=true:=by
 have hr:0≤n∧n≤4294967295:=by simpa[okT,Lit.wf,IntKind.min,IntKind.max,IntKind.signed,IntKind.bits] using h
 unfold u32B
 rw[J0 hr.1,J0 (show n < 4294967296 by omega)]
 rfl
def okU (l:List RRt):Bool:=l.all fun r=>u32B r.2.2.2.1
theorem V3x {l:List RRt} (h:okT (.list RR) l):okU l=true:=List.all_eq_true.2 fun r hr=>X3h (h.2 r hr).2.2.2.1
def okUM (m:MGt):Bool:=okU (mAn m)&&(okU (mNs m)&&okU (mAr m))
def GdS (z:List UInt8) (q:QQt) (s:Int×List RRt):Prop:=secB s.1=true∧s.2≠[]∧∀ r∈s.2,inV z r=true∧keyV r=q∧u32B r.2.2.2.1=true
def GdE (z:List UInt8) (a:ES×List QQt):Prop:=a.2=a.1.map (·.1)∧(a.1.map (·.1)).Nodup∧∀ e∈a.1,GdS z e.1 e.2
theorem Z4c {α:Type} {l:List α} {n:Nat} {x:α} (h:l[n]?=some x):l.set n x=l:=by
 obtain⟨hn,rfl⟩:=List.getElem?_eq_some_iff.1 h
 exact List.set_getElem_self hn
theorem J25 {α:Type} {l:List α} (h:l.Nodup) {i j:Nat} {x:α} (hi:l[i]?=some x) (hj:l[j]?=some x):i=j:=by
 obtain⟨a1,a2⟩:=List.getElem?_eq_some_iff.1 hi
 obtain⟨b1,b2⟩:=List.getElem?_eq_some_iff.1 hj
 have hp:=List.pairwise_iff_getElem.1 h
 rcases Nat.lt_trichotomy i j with hlt | rfl | hlt
 ·exact absurd (a2.trans b2.symm) (hp i j a1 b1 hlt)
 ·rfl
 ·exact absurd (b2.trans a2.symm) (hp j i b1 a1 hlt)
theorem J4g {es:ES} {q:QQt} (h:hasB (keqD QQ) q es=false):q ∉ es.map (·.1):=fun hm=>by
 obtain⟨e,he,hq⟩:=List.mem_map.1 hm
 obtain⟨n,hn⟩:=List.mem_iff_getElem?.1 he
 have:=(Z0l h).1 n e hn
 rw[hq,keqQ] at this
 cases this
theorem U3m {z:List UInt8} {sec:Int} {a:ES×List QQt} {r:RRt} (hs:secB sec=true) (hr:u32B r.2.2.2.1=true) (h:GdE z a):GdE z (Qh z sec a r):=by
 obtain⟨es,od⟩:=a
 obtain⟨h1,h2,h3⟩:=h
 simp only at h1 h2 h3
 unfold Qh
 cases hi:inV z r with
 | false=>exact⟨h1,h2,h3⟩
 | true=>
   simp only[cond_true]
   cases hb:hasB (keqD QQ) (keyV r) es with
   | true=>
     simp only[cond_true]
     obtain⟨n,e,e1,e2,e3,e4⟩:=Zr hb
     have hk:=Qi e2
     have hn:n < es.length:=(List.getElem?_eq_some_iff.1 e1).1
     have hee:=(List.getElem?_eq_some_iff.1 e1).2
     have hg:getB (keqD QQ) (0,[]) (keyV r) es=e.2:=by unfold getB;rw[e3];rfl
     rw[hg,e4]
     have hmap:(es.set n (e.1,(Xg e.2.1 sec,Zo e.2.1 sec r e.2.2))).map (·.1)=es.map (·.1):=by
      rw[List.map_set]
      exact Z4c (by simp[e1])
     refine⟨by show od=_;rw[hmap];exact h1,by show (List.map _ _).Nodup;rw[hmap];exact h2,fun e' he'=>?_⟩
     rcases List.mem_or_eq_of_mem_set he' with he' | rfl
     ·exact h3 e' he'
     ·obtain⟨g1,g2,g3⟩:=h3 e (List.mem_of_getElem? e1)
      have hs0:Xg e.2.1 sec=e.2.1:=by
       unfold Xg
       have:(e.2.1==0)=false:=by
        simp only[secB,Bool.and_eq_true,decide_eq_true_eq] at g1
        exact beq_eq_false_iff_ne.2 (by omega)
       rw[this]
       rfl
      refine⟨by show secB (Xg e.2.1 sec)=true;rw[hs0];exact g1,?_,fun x hx=>?_⟩
      ·show Zo e.2.1 sec r e.2.2≠[]
       unfold Zo
       cases (Xg e.2.1 sec==sec&&!e.2.2.any fun o=>sayV o r)<;>simp[g2]
      ·have hx:x∈Zo e.2.1 sec r e.2.2:=hx
       unfold Zo at hx
       cases hc:(Xg e.2.1 sec==sec&&!e.2.2.any fun o=>sayV o r) with
       | false=>rw[hc] at hx;exact g3 x hx
       | true=>
         rw[hc] at hx
         rcases List.mem_append.1 hx with hx | hx
         ·exact g3 x hx
         ·simp at hx;subst hx;exact⟨hi,hk,hr⟩
   | false=>
     simp only[cond_false]
     refine⟨by show od++[keyV r]=_;rw[h1];simp,?_,fun e' he'=>?_⟩
     ·show (List.map _ _).Nodup
      rw[List.map_append]
      have:=J4g hb
      simp only[List.map_cons,List.map_nil]
      rw[List.nodup_append]
      exact⟨h2,by simp,fun x hx y hy=>by simp at hy;subst hy;rintro rfl;exact this hx⟩
     ·rcases List.mem_append.1 he' with he' | he'
      ·exact h3 e' he'
      ·simp at he'
       subst he'
       exact⟨hs,by simp,fun x hx=>by simp at hx;subst hx;exact⟨hi,rfl,hr⟩⟩
theorem V10 {z:List UInt8} {sec:Int} (hs:secB sec=true):∀ (l:List RRt) (a:ES×List QQt),okU l=true→GdE z a→GdE z (cRun z sec l a)
 | [],a,_,h=>h
 | r::l,a,hl,h=>by
   simp only[okU,List.all_cons,Bool.and_eq_true] at hl
   exact V10 hs l (Qh z sec a r) hl.2 (U3m hs hl.1 h)
theorem X4j (z:List UInt8):GdE z ([],[]):=⟨rfl,List.nodup_nil,fun e he=>by cases he⟩
theorem Z43 {z:List UInt8} {arr:List RRt×(List RRt×List RRt)} (h1:okU arr.1=true) (h2:okU arr.2.1=true) (h3:okU arr.2.2=true):GdE z (cAll z arr):=
 V10 rfl _ _ h3 (V10 rfl _ _ h2 (V10 rfl _ _ h1 (X4j z)))
theorem V2p {es:ES} (hn:(es.map (·.1)).Nodup) {e:QQt×(Int×List RRt)} (he:e∈es):hasB (keqD QQ) e.1 es=true∧getB (keqD QQ) (0,[]) e.1 es=e.2:=by
 obtain⟨n,h1⟩:=List.mem_iff_getElem?.1 he
 have hb:=V11 (eq:=keqD QQ) h1 (keqQ e.1)
 refine⟨hb,?_⟩
 obtain⟨n2,e2,g1,g2,g3,_⟩:=Zr hb
 have hk:=Qi g2
 have:n=n2:=J25 hn (x:=e.1) (by simp[h1]) (by simp[g1,hk])
 subst this
 rw[h1] at g1
 cases g1
 unfold getB
 rw[g3]
 rfl
theorem Q3e:∀ (l:List Int),l≠[]→minL l∈l
 | [],h=>absurd rfl h
 | x::xs,_=>by
   have key:∀ (xs:List Int) (x:Int),xs.foldl minI x=x∨xs.foldl minI x∈xs:=by
    intro xs
    induction xs with
    | nil=>intro x;exact .inl rfl
    | cons y ys ih=>
      intro x
      rw[List.foldl_cons]
      rcases ih (minI x y) with h | h
      ·rw[h]
       unfold minI
       split
       ·exact .inr (by simp)
       ·exact .inl rfl
      ·exact .inr (List.mem_cons_of_mem _ h)
   show xs.foldl minI x∈x::xs
   rcases key xs x with h | h
   ·rw[h];simp
   ·exact List.mem_cons_of_mem _ h
theorem U2a {l:List RRt} {most:Int} (hl:l≠[]) (h:∀ r∈l,u32B r.2.2.2.1=true) (hm:0≤most):0≤Jq l most∧Jq l most≤most:=by
 have hne:(l.map fun x=>Vy x.2.2.2.1 most)≠[]:=by simpa using hl
 obtain⟨r,hr,he⟩:=List.mem_map.1 (Q3e _ hne)
 unfold Jq
 rw[←he]
 exact Z2v (of_decide_eq_true (Bool.and_eq_true_iff.1 (h r hr)).1) hm
def okS (m:MGt) (z:List UInt8) (now most:Int):Bool:=(okS3 z (mAn m)&&(okS3 z (mNs m)&&okS3 z (mAr m)))&&(okUM m&&(u64B now&&u32B most))
def mArr (m:MGt):List RRt×(List RRt×List RRt):=(mAn m,(mNs m,mAr m))
def Q1k (m:MGt) (z:List UInt8) (now most:Int):List ENt:=(cAll z (mArr m)).1.map (entV now most m.2.2.1)
def Un:FSpec:=fs34.like fun(m,z,now,most,_)=>.on (okS m z now most) (Q1k m z now most,())
theorem J3p {m:MGt} {z:List UInt8} {now most:Int} (h:okS m z now most=true):GdE z (cAll z (mArr m)):=by
 simp only[okS,okUM,Bool.and_eq_true] at h
 exact Z43 h.2.1.1 h.2.1.2.1 h.2.1.2.2
theorem Q4d:Un.Ok Try.prog:=by
 refine J3 X48 _ ?_
 rintro⟨(m:MGt),(z:List UInt8),(now:Int),(most:Int),_⟩ y h
 obtain⟨hb,rfl⟩:=Tr.get_on h
 have hb:okS m z now most=true:=hb
 obtain⟨g1,g2,g3⟩:=J3p hb
 simp only[okS,Bool.and_eq_true] at hb
 obtain⟨⟨h1,h2,h3⟩,hu,hn,hm⟩:=hb
 have hm':=hm
 simp only[u32B,Bool.and_eq_true,decide_eq_true_eq] at hm'
 refine J2 (vs:=[.list EN (Q1k m z now most)]) rfl rfl (Tr.get_of_all ?_)
 show (t34 m z now most).all _
 unfold t34
 have hl:=fun(l:List RRt) (h:okS3 z l=true)=>Nat.le_of_ble_eq_true (Bool.and_eq_true_iff.1 h).2
 have l1:=hl _ h1
 have l2:=hl _ h2
 have l3:=hl _ h3
 have e0:BdE ([]:ES) 0:=fun e h=>by cases h
 obtain⟨e1,o1⟩:=Ut (z:=z) (sec:=1) (mAn m) ([],[]) 0 e0 (Nat.le_refl _)
 obtain⟨e2,o2⟩:=Ut (z:=z) (sec:=2) (mNs m) (cRun z 1 (mAn m) ([],[])) _ e1 o1
 obtain⟨e3,o3⟩:=Ut (z:=z) (sec:=3) (mAr m) (cRun z 2 (mNs m) (cRun z 1 (mAn m) ([],[]))) _ e2 o2
 have e3:BdE (cAll z (mArr m)).1 (0+(mAn m).length+(mNs m).length+(mAr m).length):=e3
 have o3:(cAll z (mArr m)).2.length≤0+(mAn m).length+(mNs m).length+(mAr m).length:=o3
 refine Tr.all_t ?_ (Tr.all_t ?_ (Tr.all_ret ?_))
 ·show outC z (mArr m) 0 [] []=true
  unfold outC
  show (_&&(_&&(okS3 z (mAn m)&&(okS3 z (mNs m)&&okS3 z (mAr m)))))=true
  rw[h1,h2,h3]
  rfl
 ·show enC (cAll z (mArr m)).1 (cAll z (mArr m)).2 [] now most ((cAll z (mArr m)).2.length:Int) 0=true
  generalize cAll z (mArr m)=a at *
  unfold enC
  rw[J0 rfl,J0 rfl,Nat.ble_eq_true_of_le (by omega),hn]
  simp only[Bool.true_and,List.isEmpty_nil]
  refine List.all_eq_true.2 fun q hq=>?_
  rw[g1] at hq
  obtain⟨e,he,rfl⟩:=List.mem_map.1 hq
  obtain⟨k1,k2⟩:=V2p g2 he
  obtain⟨d1,d2,d3⟩:=g3 e he
  obtain⟨m1,m2⟩:=U2a d2 (fun r hr=>(d3 r hr).2.2) hm'.1
  have hle:=e3 e he
  rw[k1,k2]
  unfold entB lrB u32B
  rw[Nat.ble_eq_true_of_le (by omega),d1,J0 m1,J0 (show Jq e.2.2 most < 4294967296 by omega)]
  rfl
 ·show ([AV.list EN ((cAll z (mArr m)).2.map (entQ now most m.2.2.1 (cAll z (mArr m)).1))],[])=([AV.list EN (Q1k m z now most)],[])
  unfold Q1k
  generalize cAll z (mArr m)=a at *
  rw[g1,List.map_map]
  congr 2
  congr 1
  refine List.map_congr_left fun e he=>?_
  show entV now most m.2.2.1 (e.1,getB (keqD QQ) (0,[]) e.1 a.1)=entV now most m.2.2.1 e
  rw[(V2p g2 he).2]
theorem qeq (a b:QQt):(a.1==b.1&&(a.2.1==b.2.1&&(a.2.2==b.2.2&&true)))=decide (a=b):=by
 rw[Bool.eq_iff_iff]
 simp only[Bool.and_eq_true,beq_iff_eq,and_true,decide_eq_true_eq]
 exact⟨fun⟨h1,h2,h3⟩=>Prod.ext h1 (Prod.ext h2 h3),fun h=>by rw[h];exact⟨rfl,rfl,rfl⟩⟩
theorem Z10 {α:Type} {l:List α} {i:Int} (d:α) (h0:0≤i) (h1:i < l.length):l.getD i.toNat d∈l:=by
 rw[List.getD_eq_getElem?_getD,List.getElem?_eq_getElem (by omega)]
 exact List.getElem_mem _
theorem Z1o {z:List UInt8} {sec:Int} {a:ES×List QQt} {r:RRt} {P:Int→Prop} (hs:P sec) (h:∀ e∈a.1,P e.2.1):∀ e∈(Qh z sec a r).1,P e.2.1:=by
 unfold Qh
 cases inV z r with
 | false=>exact h
 | true=>
   simp only[cond_true]
   cases hb:hasB (keqD QQ) (keyV r) a.1 with
   | true=>
     simp only[cond_true]
     obtain⟨n,e,e1,_,e3,e4⟩:=Zr hb
     have hg:getB (keqD QQ) (0,[]) (keyV r) a.1=e.2:=by unfold getB;rw[e3];rfl
     rw[hg,e4]
     intro e' he'
     rcases List.mem_or_eq_of_mem_set he' with he' | rfl
     ·exact h e' he'
     ·show P (Xg e.2.1 sec)
      unfold Xg
      cases e.2.1==0 with
      | true=>exact hs
      | false=>exact h e (List.mem_of_getElem? e1)
   | false=>
     simp only[cond_false]
     intro e' he'
     rcases List.mem_append.1 he' with he' | he'
     ·exact h e' he'
     ·simp at he'
      subst he'
      exact hs
theorem V1a {z:List UInt8} {sec:Int} {P:Int→Prop} (hs:P sec):∀ (l:List RRt) (a:ES×List QQt),(∀ e∈a.1,P e.2.1)→∀ e∈(cRun z sec l a).1,P e.2.1
 | [],a,h=>h
 | r::l,a,h=>V1a hs l (Qh z sec a r) (Z1o hs h)
def J1h (q:QQt) (s:Int) (a:ES×List QQt):Prop:=∃ e∈a.1,e.1=q∧e.2.1=s
theorem X3a {z:List UInt8} {sec:Int} {a:ES×List QQt} {r:RRt} {q:QQt} {s:Int} (h0:s≠0) (h:J1h q s a):J1h q s (Qh z sec a r):=by
 obtain⟨e0,he0,h1,h2⟩:=h
 unfold Qh
 cases inV z r with
 | false=>exact⟨e0,he0,h1,h2⟩
 | true=>
   simp only[cond_true]
   cases hb:hasB (keqD QQ) (keyV r) a.1 with
   | true=>
     simp only[cond_true]
     obtain⟨n,e,e1,_,e3,e4⟩:=Zr hb
     have hg:getB (keqD QQ) (0,[]) (keyV r) a.1=e.2:=by unfold getB;rw[e3];rfl
     rw[hg,e4]
     obtain⟨j,hj⟩:=List.mem_iff_getElem?.1 he0
     by_cases hjn:j=n
     ·subst hjn
      rw[e1] at hj
      cases hj
      refine⟨(e0.1,(Xg e0.2.1 sec,Zo e0.2.1 sec r e0.2.2)),List.mem_of_getElem? (i:=j) ?_,h1,?_⟩
      ·rw[List.getElem?_set_self (List.getElem?_eq_some_iff.1 e1).1]
      ·show Xg e0.2.1 sec=s
       unfold Xg
       rw[h2,show (s==0)=false from beq_eq_false_iff_ne.2 h0]
       rfl
     ·exact⟨e0,List.mem_of_getElem? (i:=j) (by rw[List.getElem?_set_ne (Ne.symm hjn)];exact hj),h1,h2⟩
   | false=>
     simp only[cond_false]
     exact⟨e0,List.mem_append_left _ he0,h1,h2⟩
theorem Z0z {z:List UInt8} {sec:Int} {q:QQt} {s:Int} (h0:s≠0):∀ (l:List RRt) (a:ES×List QQt),J1h q s a→J1h q s (cRun z sec l a)
 | [],a,h=>h
 | r::l,a,h=>Z0z h0 l (Qh z sec a r) (X3a h0 h)
theorem X2z {z:List UInt8} {sec:Int} {a:ES×List QQt} {r:RRt} (hi:inV z r=true):∃ e∈(Qh z sec a r).1,e.1=keyV r:=by
 unfold Qh
 rw[hi]
 simp only[cond_true]
 cases hb:hasB (keqD QQ) (keyV r) a.1 with
 | true=>
   simp only[cond_true]
   obtain⟨n,e,e1,e2,e3,e4⟩:=Zr hb
   rw[e4]
   exact⟨_,List.mem_of_getElem? (i:=n) (List.getElem?_set_self (List.getElem?_eq_some_iff.1 e1).1),(Qi e2).symm⟩
 | false=>
   simp only[cond_false]
   exact⟨_,List.mem_append_right _ (List.mem_singleton.2 rfl),rfl⟩
theorem U16 {z:List UInt8} {r:RRt} (hi:inV z r=true):∀ (l:List RRt) (a:ES×List QQt),r∈l→(∀ e∈a.1,e.2.1=1)→J1h (keyV r) 1 (cRun z 1 l a)
 | [],_,h,_=>by cases h
 | x::l,a,h,ha=>by
   have hs:=Z1o (z:=z) (sec:=1) (r:=x) (P:=fun s=>s=1) rfl ha
   rcases List.mem_cons.1 h with rfl | h
   ·obtain⟨e,he,hk⟩:=X2z (z:=z) (sec:=1) (a:=a) hi
    exact Z0z (by decide) l _ ⟨e,he,hk,hs e he⟩
   ·exact U16 hi l _ h hs
def msgQ (q:QQt):MGt:=(0,false,false,false,false,false,0,0,[q],[],[],[])
theorem J12 {p:RRt→Bool} {l:List RRt} {r:RRt} (hr:r∈l) (hp:p r=true):(fstV p l).2=true:=by
 unfold fstV
 cases hf:l.find? p with
 | some x=>rfl
 | none=>have:=List.find?_eq_none.1 hf r hr;exact absurd hp this
theorem Q3f {p:RRt→Bool} {l:List RRt} (h:∀ r∈l,p r=false):(fstV p l).2=false:=by
 unfold fstV
 have:l.find? p=none:=List.find?_eq_none.2 fun r hr=>by rw[h r hr];simp
 rw[this]
structure ZnOk (z:ZNt) (q:QQt):Prop where
 und:undV q.1 z.1=true
 cls:q.2.2=1
 good:∀ r∈z.2,recV r=true∧r.2.2.1=1
theorem Z18 {z:ZNt} {q:QQt} (h:ZnOk z q) {n:List UInt8} {k:Int} {r:RRt} (hr:r∈ofV z n k):inV z.1 r=true∧r.1=n∧r.2.1=k∧r.2.2.1=1:=by
 obtain⟨h1,h2,h3,h4⟩:=U2q.1 hr
 obtain⟨g1,g2⟩:=h.good r h1
 refine⟨?_,h3,h4,g2⟩
 unfold inV
 rw[g2,h2,g1]
 rfl
theorem X3z (s:Int) (h:s=2∨s=3):Z17 s false≤2:=by rcases h with rfl | rfl<;>decide
theorem Q29 {z:ZNt} {q:QQt} (h:ZnOk z q) {m:MGt} (hm:m=Ue z (repV (msgQ q) 0) q) :
    Jc m q z.1≠0∧(Jc m q z.1=3→m.2.2.1=false)∧(Jc m q z.1=4→mAn m=[]) ∧
    (Jc m q z.1=3→∀ e∈(cAll z.1 (mArr m)).1,e.2.1=2∨e.2.1=3)∧(Jc m q z.1=1→m.2.2.1=true∧J1h q 1 (cAll z.1 (mArr m))):=by
 unfold Ue at hm
 cases hc:(cutV z q.1).2 with
 | true=>
   rw[hc,cond_true] at hm
   have hcut:cutV z q.1=((cutV z q.1).1,true):=by rw[←hc]
   obtain⟨c1,c2,c3,c4⟩:=Z31 hcut
   generalize (cutV z q.1).1=c at *
   obtain⟨r,l,hl⟩:=List.exists_cons_of_ne_nil c4
   have hr:r∈ofV z c 2:=by rw[hl];simp
   obtain⟨i1,i2,i3,i4⟩:=Z18 h hr
   have hAn:mAn m=[]:=by subst hm;rfl
   have hNs:mNs m=ofV z c 2:=by subst hm;rfl
   have hk:Jc m q z.1=3:=by
    rw[V0n,h.und]
    have e1:(cAns m q z.1).2=false:=by unfold cAns;rw[hAn];rfl
    have e2:(cAls m q z.1).2=false:=by unfold cAls;rw[hAn];rfl
    have e3:(cRef m q z.1).2=true:=by
     unfold cRef
     rw[hNs]
     refine J12 hr ?_
     rw[i1]
     unfold refP
     rw[i3,i2,c3,show (c==z.1)=false from beq_eq_false_iff_ne.2 c1]
     rfl
    rw[e1,e2,e3,show m.2.2.2.1=false by subst hm;rfl,show mRc m=0 by subst hm;rfl]
    rfl
   refine⟨by rw[hk];decide,fun _=>by subst hm;rfl,fun h4=>by rw[hk] at h4;exact absurd h4 (by decide),fun _=>?_,fun h1=>by rw[hk] at h1;exact absurd h1 (by decide)⟩
   unfold cAll
   have:(mArr m).1=[]:=hAn
   rw[this]
   exact V1a (P:=fun s=>s=2∨s=3) (.inr rfl) _ _ (V1a (P:=fun s=>s=2∨s=3) (.inl rfl) _ _ fun e he=>by cases he)
 | false=>
   rw[hc,cond_false] at hm
   cases hp:decide (((anV z q).length:Int) > 0) with
   | true=>
     rw[hp,cond_true] at hm
     have hAn:mAn m=anV z q:=by subst hm;rfl
     have hAA:m.2.2.1=true:=by subst hm;rfl
     have hTC:m.2.2.2.1=false:=by subst hm;rfl
     have hRc:mRc m=0:=by subst hm;rfl
     by_cases he:ofV z q.1 q.2.1=[]
     ·have ha:anV z q=ofV z q.1 5:=by unfold anV;rw[he];rfl
      rw[ha] at hp hAn
      have hne:ofV z q.1 5≠[]:=fun h0=>by rw[h0] at hp;exact absurd hp (by decide)
      have hq5:q.2.1≠5:=fun h5=>by rw[h5] at he;exact hne he
      obtain⟨r,l,hl⟩:=List.exists_cons_of_ne_nil hne
      have hr:r∈ofV z q.1 5:=by rw[hl];simp
      obtain⟨i1,i2,i3,i4⟩:=Z18 h hr
      have hk:Jc m q z.1=2:=by
       rw[V0n,h.und]
       have e1:(cAns m q z.1).2=false:=by
        unfold cAns
        rw[hAn]
        refine Q3f fun x hx=>?_
        obtain⟨j1,j2,j3,j4⟩:=Z18 h hx
        unfold J8
        rw[j3,show ((5:Int)==q.2.1)=false from beq_eq_false_iff_ne.2 (Ne.symm hq5)]
        simp
       have e2:(cAls m q z.1).2=true:=by
        unfold cAls
        rw[hAn]
        refine J12 hr ?_
        rw[i1]
        unfold alsP
        rw[i2,i3]
        simp
       rw[e1,e2,hTC,hRc]
       rfl
      exact⟨by rw[hk];decide,fun h3=>by rw[hk] at h3;exact absurd h3 (by decide),fun h4=>by rw[hk] at h4;exact absurd h4 (by decide),fun h3=>by rw[hk] at h3;exact absurd h3 (by decide),fun h1=>by rw[hk] at h1;exact absurd h1 (by decide)⟩
     ·have ha:anV z q=ofV z q.1 q.2.1:=by
       unfold anV
       have:(((ofV z q.1 q.2.1).length:Int)==0)=false:=beq_eq_false_iff_ne.2 (by have:=List.length_pos_iff.2 he;omega)
       rw[this]
       rfl
      rw[ha] at hAn
      obtain⟨r,l,hl⟩:=List.exists_cons_of_ne_nil he
      have hr:r∈ofV z q.1 q.2.1:=by rw[hl];simp
      obtain⟨i1,i2,i3,i4⟩:=Z18 h hr
      have hkey:keyV r=q:=Prod.ext i2 (Prod.ext i3 (by rw[show (keyV r).2.2=r.2.2.1 from rfl,i4,h.cls]))
      have hk:Jc m q z.1=1:=by
       rw[V0n,h.und]
       have e1:(cAns m q z.1).2=true:=by
        unfold cAns
        rw[hAn]
        refine J12 hr ?_
        rw[i1]
        unfold J8
        rw[i2,i3,i4,h.cls]
        simp
       rw[e1,hTC,hRc]
       rfl
      refine⟨by rw[hk];decide,fun h3=>by rw[hk] at h3;exact absurd h3 (by decide),fun h4=>by rw[hk] at h4;exact absurd h4 (by decide),fun h3=>by rw[hk] at h3;exact absurd h3 (by decide),fun _=>⟨hAA,?_⟩⟩
      have hs:=U16 i1 (mArr m).1 ([],[]) (by show r∈mAn m;rw[hAn];exact hr) fun e he=>by cases he
      rw[hkey] at hs
      exact Z0z (by decide) _ _ (Z0z (by decide) _ _ hs)
   | false=>
     rw[hp,cond_false] at hm
     have hnil:anV z q=[]:=by
      have:=of_decide_eq_false hp
      exact List.length_eq_zero_iff.1 (by omega)
     have hAn:mAn m=[]:=by subst hm;exact hnil
     have hNs:mNs m=ofV z z.1 6:=by subst hm;rfl
     have hAA:m.2.2.1=true:=by subst hm;rfl
     have hTC:m.2.2.2.1=false:=by subst hm;rfl
     have e1:(cAns m q z.1).2=false:=by unfold cAns;rw[hAn];rfl
     have e2:(cAls m q z.1).2=false:=by unfold cAls;rw[hAn];rfl
     have e3:(cRef m q z.1).2=false:=by
      unfold cRef
      rw[hNs]
      refine Q3f fun x hx=>?_
      obtain⟨j1,j2,j3,j4⟩:=Z18 h hx
      unfold refP
      rw[j3]
      simp
     have hk:Jc m q z.1=4∨Jc m q z.1=5:=by
      rw[V0n,h.und,e1,e2,e3,hTC,hAA]
      cases ht:Q04 z q.1 with
      | true=>
        have:mRc m=0:=by rw[hm,ht];rfl
        rw[this]
        exact .inr rfl
      | false=>
        have:mRc m=3:=by rw[hm,ht];rfl
        rw[this]
        exact .inl rfl
     refine⟨by omega,fun h3=>by omega,fun _=>hAn,fun h3=>by omega,fun h1=>by omega⟩
noncomputable def TL:Tab:={ T0 with lvs:=true,bsd:=true }
theorem tabL:U2 Try.prog TL:=Q3q tab0
def gR (r:RRt):Bool:=recV r&&r.2.2.1==1
def fZ (z:ZNt):ZNt:=(z.1,z.2.filter gR)
theorem V21 {p:RRt→Bool} {l:List RRt} {j:Nat} (hj:j < l.length) (d:RRt):(l.take (j+1)).filter p=(l.take j).filter p++if p (l.getD j d)=true then [l.getD j d] else []:=by
 have hg:l.getD j d=l[j]:=by rw[List.getD_eq_getElem?_getD,List.getElem?_eq_getElem hj];rfl
 rw[hg,List.take_succ_eq_append_getElem hj,List.filter_append]
 congr 1
 by_cases h:p l[j]=true
 ·rw[if_pos h,List.filter_cons_of_pos h];rfl
 ·rw[if_neg h,List.filter_cons_of_neg h];rfl
def zbI (l:List ZNt) (i k:Int) (zr:List RRt):Bool:=fewZ l&&(decide (0≤i)&&(decide (i < (l.length:Int))&&(decide (k=0)&&zr.isEmpty)))
noncomputable def b13k:Code:=X4 (X4 c13 0) 0
def U3o:LoopSpec:={ bid:=2,sh:=[.d (.list ZN) false,.ptr 0 0,.d .bool false,.row 1,.d (.int .i64) false,.ptr 2 0,.d (.int .i64) false],so:=[.box [.d .str false,.d (.int .u16) false,.d (.int .u16) false],.row ZN,.box [.d .str false,.row 3],.row RR],F:=fun(l,up,i,k,_) ((qn,qt,qc,_),xw,(za,_),zr,_)=>.on (zbI l i k zr) (.exit 2,[.list ZN l,.ptr 0 0,.bool up,.rowA 1,.int .i64 i,.ptr 2 0],[.box [.str qn,.int .u16 qt,.int .u16 qc],.row ZN xw,.box [.str za,.rowA 3],.row RR ((l.getD i.toNat (Ty.dflt ZN)).2.filter gR)]) }
def r13k (l:List ZNt) (up:Bool) (i k:Int) (qn:List UInt8) (qt qc:Int) (xw:List ZNt) (za:List UInt8) (zr:List RRt):Tr (St⊕(Ex×St)):=.br (decide (0≤i)) (.br (decide (i < (↑l.length:Int))) (.br (decide (k < (↑(List.length (l.getD i.toNat (Ty.dflt ZN)).2):Int))) (.br (decide (0≤i)) (.br (decide (i < (↑l.length:Int))) (.br (decide (0≤k)) (.br (decide (k < (↑(List.length (l.getD i.toNat (Ty.dflt ZN)).2):Int))) (.br (Q1j (List.getD (l.getD i.toNat (Ty.dflt ZN)).2 k.toNat (Ty.dflt RR))) (.br (recV (List.getD (l.getD i.toNat (Ty.dflt ZN)).2 k.toNat (Ty.dflt RR))) (.br (decide (0≤i)) (.br (decide (i < (↑l.length:Int))) (.br (decide (0≤k)) (.br (decide (k < (↑(List.length (l.getD i.toNat (Ty.dflt ZN)).2):Int))) (.br ((List.getD (l.getD i.toNat (Ty.dflt ZN)).2 k.toNat (Ty.dflt RR)).2.2.1==1) (.br (decide (0≤i)) (.br (decide (i < (↑l.length:Int))) (.br (decide (0≤k)) (.br (decide (k < (↑(List.length (l.getD i.toNat (Ty.dflt ZN)).2):Int))) (.br (fits (List.length zr+1) 40) (.ret (.inl (stOf [0,3,5,6,7,8,9] [.list ZN l,.ptr 0 0,.bool up,.rowA 1,.int .i64 i,.ptr 2 0,.int .i64 (IntKind.wrap .i64 (k+1))] [.boxT none [.str qn,.int .u16 qt,.int .u16 qc],.row ZN xw,.boxT none [.str za,.rowA 3],.row RR (zr++[List.getD (l.getD i.toNat (Ty.dflt ZN)).2 k.toNat (Ty.dflt RR)])]))) .no) .no) .no) .no) .no) (.ret (.inl (stOf [0,3,5,6,7,8,9] [.list ZN l,.ptr 0 0,.bool up,.rowA 1,.int .i64 i,.ptr 2 0,.int .i64 (IntKind.wrap .i64 (k+1))] [.boxT none [.str qn,.int .u16 qt,.int .u16 qc],.row ZN xw,.boxT none [.str za,.rowA 3],.row RR zr])))) .no) .no) .no) .no) (.ret (.inl (stOf [0,3,5,6,7,8,9] [.list ZN l,.ptr 0 0,.bool up,.rowA 1,.int .i64 i,.ptr 2 0,.int .i64 (IntKind.wrap .i64 (k+1))] [.boxT none [.str qn,.int .u16 qt,.int .u16 qc],.row ZN xw,.boxT none [.str za,.rowA 3],.row RR zr])))) .no) .no) .no) .no) .no) (.ret (.inr (.exit 2,stOf [0,3,5,6,7,8] [.list ZN l,.ptr 0 0,.bool up,.rowA 1,.int .i64 i,.ptr 2 0] [.boxT none [.str qn,.int .u16 qt,.int .u16 qc],.row ZN xw,.boxT none [.str za,.rowA 3],.row RR zr])))) .no) .no
theorem V3j (lp:Lp) (l:List ZNt) (up:Bool) (i k:Int) (qn:List UInt8) (qt qc:Int) (xw:List ZNt) (za:List UInt8) (zr:List RRt):evC TL (orcB [Uo,Zp,Vm,Jn,Vo,Qm,Un,Qn] []) lp b13k 2 (stOf [0,3,5,6,7,8,9] [.list ZN l,.ptr 0 0,.bool up,.rowA 1,.int .i64 i,.ptr 2 0,.int .i64 k] [.box [.str qn,.int .u16 qt,.int .u16 qc],.row ZN xw,.box [.str za,.rowA 3],.row RR zr]) (Q0 [0,3,5,6,7,8,9] [0,3,5,6,7,8] 0)=(r13k l up i k qn qt qc xw za zr).get:=by kernel_rfl
theorem wf13k (l:List ZNt) (up:Bool) (i:Int) (qn:List UInt8) (qt qc:Int) (xw:List ZNt) (za:List UInt8) (I'':Int→List RRt→Prop) (m'':Int→List RRt→Nat) (r'':Ex×St) (h:∀ (k:Int) (zr:List RRt),I'' k zr→(r13k l up i k qn qt qc xw za zr).all fun x''=>x''=.inr r''∨∃ (k':Int) (zr':List RRt),x''=.inl (stOf [0,3,5,6,7,8,9] [.list ZN l,.ptr 0 0,.bool up,.rowA 1,.int .i64 i,.ptr 2 0,.int .i64 k'] [.box [.str qn,.int .u16 qt,.int .u16 qc],.row ZN xw,.box [.str za,.rowA 3],.row RR zr'])∧I'' k' zr'∧m'' k' zr' < m'' k zr) (lp:Lp) (k:Int) (zr:List RRt):I'' k zr→
    X2 (fun st=>evC TL (orcB [Uo,Zp,Vm,Jn,Vo,Qm,Un,Qn] []) lp b13k 2 st (Q0 [0,3,5,6,7,8,9] [0,3,5,6,7,8] 0)) (stOf [0,3,5,6,7,8,9] [.list ZN l,.ptr 0 0,.bool up,.rowA 1,.int .i64 i,.ptr 2 0,.int .i64 k] [.box [.str qn,.int .u16 qt,.int .u16 qc],.row ZN xw,.box [.str za,.rowA 3],.row RR zr])=some r'':=
 U4 (fun a'':Int×List RRt=>stOf [0,3,5,6,7,8,9] [.list ZN l,.ptr 0 0,.bool up,.rowA 1,.int .i64 i,.ptr 2 0,.int .i64 a''.1] [.box [.str qn,.int .u16 qt,.int .u16 qc],.row ZN xw,.box [.str za,.rowA 3],.row RR a''.2]) (fun a''=>I'' a''.1 a''.2) (fun a''=>m'' a''.1 a''.2) r'' (fun a''=>r13k l up i a''.1 qn qt qc xw za a''.2)
  (fun a'' x hx=>(V3j lp l up i a''.1 qn qt qc xw za a''.2).trans hx) (fun a'' ha=>Tr.all_mono (fun x'' hx=>hx.imp id fun⟨k',zr',h1,h2,h3⟩=>⟨(k',zr'),h1,h2,h3⟩) (h (a''.1) (a''.2) ha)) (k,zr)
theorem J3w:U3o.Ok TL (orcB [Uo,Zp,Vm,Jn,Vo,Qm,Un,Qn] []) h13 0 0 b13k:=by
 intro q'' hq'' x'' y'' r'' h
 obtain⟨(l:List ZNt),(up:Bool),(i:Int),(k:Int),_⟩:=x''
 obtain⟨⟨(qn:List UInt8),(qt:Int),(qc:Int),_⟩,(xw:List ZNt),⟨(za:List UInt8),_⟩,(zr:List RRt),_⟩:=y''
 obtain⟨hc,rfl⟩:=Tr.get_on h
 show X2 (fun st=>evC TL (orcB [Uo,Zp,Vm,Jn,Vo,Qm,Un,Qn] []) (lpN TL (orcB [Uo,Zp,Vm,Jn,Vo,Qm,Un,Qn] []) h13 0 q'') b13k 2 st (Q0 [0,3,5,6,7,8,9] [0,3,5,6,7,8] 0)) (stOf [0,3,5,6,7,8,9] [.list ZN l,.ptr 0 0,.bool up,.rowA 1,.int .i64 i,.ptr 2 0,.int .i64 k] [.box [.str qn,.int .u16 qt,.int .u16 qc],.row ZN xw,.box [.str za,.rowA 3],.row RR zr])=some (.exit 2,stOf [0,3,5,6,7,8] ([.list ZN l,.ptr 0 0,.bool up,.rowA 1,.int .i64 i,.ptr 2 0]) ([.box [.str qn,.int .u16 qt,.int .u16 qc],.row ZN xw,.box [.str za,.rowA 3],.row RR ((l.getD i.toNat (Ty.dflt ZN)).2.filter gR)]))
 simp only[zbI,Bool.and_eq_true,decide_eq_true_eq,List.isEmpty_iff] at hc
 obtain⟨hf,h0,h1,rfl,rfl⟩:=hc
 have hz:=List.all_eq_true.1 (Bool.and_eq_true_iff.1 hf).2 _ (Z10 (Ty.dflt ZN) h0 h1)
 refine wf13k l up i qn qt qc xw za (fun k zr=>0≤k∧k≤(l.getD i.toNat (Ty.dflt ZN)).2.length∧zr=((l.getD i.toNat (Ty.dflt ZN)).2.take k.toNat).filter gR) (fun k zr=>((l.getD i.toNat (Ty.dflt ZN)).2.length - k).toNat) _ ?_ _ 0 [] ⟨by omega,by omega,by simp⟩
 rintro k zr ⟨g0,g1,rfl⟩
 unfold r13k
 generalize l.getD i.toNat (Ty.dflt ZN)=z at *
 simp only[Vn,Bool.and_eq_true,decide_eq_true_eq] at hz
 obtain⟨z1,z2,z3⟩:=hz
 rw[V4 g0 g1 (by omega)]
 by_cases hk:k < z.2.length
 ·have hb:=J26 z3 _ (Z10 (Ty.dflt RR) g0 hk)
  have hstep:=V21 (p:=gR) (l:=z.2) (j:=k.toNat) (by omega) (Ty.dflt RR)
  have hlen:((z.2.take k.toNat).filter gR).length≤40:=by
   have:=List.length_filter_le gR (z.2.take k.toNat)
   rw[List.length_take] at this
   omega
  generalize z.2.getD k.toNat (Ty.dflt RR)=r at *
  have hk1:(k+1).toNat=k.toNat+1:=by omega
  refine Tr.all_t (J0 h0) (Tr.all_t (J0 h1) (Tr.all_t (J0 hk) (Tr.all_t (J0 h0) (Tr.all_t (J0 h1) (Tr.all_t (J0 g0) (Tr.all_t (J0 hk) (Tr.all_t (by unfold Q1j;rw[Ql (by omega),Ql (by omega)];rfl) (Tr.all_br (fun c=>Tr.all_t (J0 h0) (Tr.all_t (J0 h1) (Tr.all_t (J0 g0) (Tr.all_t (J0 hk) (Tr.all_br (fun c2=>Tr.all_t (J0 h0) (Tr.all_t (J0 h1) (Tr.all_t (J0 g0) (Tr.all_t (J0 hk) (Tr.all_t (Zy (by omega) (by omega)) (Tr.all_ret (.inr ⟨_,_,rfl,⟨by omega,by omega,?_⟩,by omega⟩))))))) fun c2=>Tr.all_ret (.inr ⟨_,_,rfl,⟨by omega,by omega,?_⟩,by omega⟩)))))) fun c=>Tr.all_ret (.inr ⟨_,_,rfl,⟨by omega,by omega,?_⟩,by omega⟩)))))))))
  ·rw[hk1,hstep,if_pos (by unfold gR;rw[c,c2];rfl)]
  ·rw[hk1,hstep,if_neg (by unfold gR;rw[c,c2];simp),List.append_nil]
  ·rw[hk1,hstep,if_neg (by unfold gR;rw[c];simp),List.append_nil]
 ·refine Tr.all_t (J0 h0) (Tr.all_t (J0 h1) (Tr.all_f (X0 hk) (Tr.all_ret (.inl ?_))))
  rw[List.take_of_length_le (by omega)]
def zbO (l:List ZNt) (i:Int) (x:List ZNt):Bool:=fewZ l&&(decide (i=0)&&x.isEmpty)
noncomputable def b13o:Code:=X4 c13 0
def Z3g:LoopSpec:={ bid:=0,sh:=[.d (.list ZN) false,.ptr 0 0,.d .bool false,.row 1,.d (.int .i64) false],so:=[.box [.d .str false,.d (.int .u16) false,.d (.int .u16) false],.row ZN],F:=fun(l,up,i,_) ((qn,qt,qc,_),xw,_)=>.on (zbO l i xw) (.exit 0,[.list ZN l,.ptr 0 0,.bool up,.rowA 1],[.box [.str qn,.int .u16 qt,.int .u16 qc],.row ZN (l.map fZ)]) }
def r13o (l:List ZNt) (up:Bool) (i:Int) (qn:List UInt8) (qt qc:Int) (xw:List ZNt):Tr (St⊕(Ex×St)):=.br (decide (i < (↑l.length:Int))) (.br (decide (0≤i)) (.br (decide (i < (↑l.length:Int))) (.br (zbI l i 0 []) (.br (fits (List.length xw+1) 40) (.ret (.inl (stOf [0,3,5,6,7] [.list ZN l,.ptr 0 0,.bool up,.rowA 1,.int .i64 (IntKind.wrap .i64 (i+1))] [.boxT none [.str qn,.int .u16 qt,.int .u16 qc],.row ZN (xw++[((l.getD i.toNat (Ty.dflt ZN)).1,List.filter gR (l.getD i.toNat (Ty.dflt ZN)).2)])]))) .no) .no) .no) .no) (.ret (.inr (.exit 0,stOf [0,3,5,6] [.list ZN l,.ptr 0 0,.bool up,.rowA 1] [.boxT none [.str qn,.int .u16 qt,.int .u16 qc],.row ZN xw])))
theorem V3o (l:List ZNt) (up:Bool) (i:Int) (qn:List UInt8) (qt qc:Int) (xw:List ZNt):evC TL (orcB [Uo,Zp,Vm,Jn,Vo,Qm,Un,Qn] []) (lpOf h13 0 (lsOf [U3o])) b13o 0 (stOf [0,3,5,6,7] [.list ZN l,.ptr 0 0,.bool up,.rowA 1,.int .i64 i] [.box [.str qn,.int .u16 qt,.int .u16 qc],.row ZN xw]) (Q0 [0,3,5,6,7] [0,3,5,6] 0)=(r13o l up i qn qt qc xw).get:=by kernel_rfl
theorem wf13o (l:List ZNt) (up:Bool) (qn:List UInt8) (qt qc:Int) (I'':Int→List ZNt→Prop) (m'':Int→List ZNt→Nat) (r'':Ex×St) (h:∀ (i:Int) (xw:List ZNt),I'' i xw→(r13o l up i qn qt qc xw).all fun x''=>x''=.inr r''∨∃ (i':Int) (xw':List ZNt),x''=.inl (stOf [0,3,5,6,7] [.list ZN l,.ptr 0 0,.bool up,.rowA 1,.int .i64 i'] [.box [.str qn,.int .u16 qt,.int .u16 qc],.row ZN xw'])∧I'' i' xw'∧m'' i' xw' < m'' i xw) (q'':Nat) (hq'':1≤q'') (i:Int) (xw:List ZNt):I'' i xw→
    X2 (fun st=>evC TL (orcB [Uo,Zp,Vm,Jn,Vo,Qm,Un,Qn] []) (lpN TL (orcB [Uo,Zp,Vm,Jn,Vo,Qm,Un,Qn] []) h13 0 q'') b13o 0 st (Q0 [0,3,5,6,7] [0,3,5,6] 0)) (stOf [0,3,5,6,7] [.list ZN l,.ptr 0 0,.bool up,.rowA 1,.int .i64 i] [.box [.str qn,.int .u16 qt,.int .u16 qc],.row ZN xw])=some r'':=
 U4 (fun a'':Int×List ZNt=>stOf [0,3,5,6,7] [.list ZN l,.ptr 0 0,.bool up,.rowA 1,.int .i64 a''.1] [.box [.str qn,.int .u16 qt,.int .u16 qc],.row ZN a''.2]) (fun a''=>I'' a''.1 a''.2) (fun a''=>m'' a''.1 a''.2) r'' (fun a''=>r13o l up a''.1 qn qt qc a''.2)
  (fun a'' x hx=>V0b (d:=0) (S:=lsOf [U3o]) (Q0o (xs:=[(2,b13k)]) (by kernel_rfl) (all_cons (Q4 J3w) Z0)) (by omega) ((V3o l up a''.1 qn qt qc a''.2).trans hx)) (fun a'' ha=>Tr.all_mono (fun x'' hx=>hx.imp id fun⟨i',xw',h1,h2,h3⟩=>⟨(i',xw'),h1,h2,h3⟩) (h (a''.1) (a''.2) ha)) (i,xw)
theorem V3y:Z3g.Ok TL (orcB [Uo,Zp,Vm,Jn,Vo,Qm,Un,Qn] []) h13 0 1 b13o:=by
 intro q'' hq'' x'' y'' r'' h
 obtain⟨(l:List ZNt),(up:Bool),(i:Int),_⟩:=x''
 obtain⟨⟨(qn:List UInt8),(qt:Int),(qc:Int),_⟩,(xw:List ZNt),_⟩:=y''
 obtain⟨hc,rfl⟩:=Tr.get_on h
 show X2 (fun st=>evC TL (orcB [Uo,Zp,Vm,Jn,Vo,Qm,Un,Qn] []) (lpN TL (orcB [Uo,Zp,Vm,Jn,Vo,Qm,Un,Qn] []) h13 0 q'') b13o 0 st (Q0 [0,3,5,6,7] [0,3,5,6] 0)) (stOf [0,3,5,6,7] [.list ZN l,.ptr 0 0,.bool up,.rowA 1,.int .i64 i] [.box [.str qn,.int .u16 qt,.int .u16 qc],.row ZN xw])=some (.exit 0,stOf [0,3,5,6] ([.list ZN l,.ptr 0 0,.bool up,.rowA 1]) ([.box [.str qn,.int .u16 qt,.int .u16 qc],.row ZN (l.map fZ)]))
 simp only[zbO,Bool.and_eq_true,decide_eq_true_eq,List.isEmpty_iff] at hc
 obtain⟨hf,rfl,rfl⟩:=hc
 have hl:l.length≤8:=of_decide_eq_true (Bool.and_eq_true_iff.1 hf).1
 refine wf13o l up qn qt qc (fun i w=>0≤i∧i≤l.length∧w.length=i.toNat∧w++(l.drop i.toNat).map fZ=l.map fZ) (fun i w=>(l.length - i).toNat) _ ?_ _ hq'' 0 [] ⟨by omega,by omega,rfl,rfl⟩
 rintro i w ⟨g0,g1,g2,g3⟩
 unfold r13o
 rw[V4 g0 g1 (by omega)]
 by_cases hi:i < l.length
 ·have hI:zbI l i 0 []=true:=by unfold zbI;rw[hf,J0 g0,J0 hi,J0 rfl];rfl
  rw[Z5 (l:=l) (k:=i.toNat) (by omega) (Ty.dflt ZN)] at g3
  generalize l.getD i.toNat (Ty.dflt ZN)=z at *
  refine Tr.all_t (J0 hi) (Tr.all_t (J0 g0) (Tr.all_t (J0 hi) (Tr.all_t hI (Tr.all_t (Zy (by omega) (by omega)) (Tr.all_ret (.inr ⟨_,_,rfl,⟨by omega,by omega,by rw[List.length_append,List.length_singleton];omega,?_⟩,by omega⟩))))))
  rw[show (i+1).toNat=i.toNat+1 by omega,List.append_assoc]
  exact g3
 ·refine Tr.all_f (X0 hi) (Tr.all_ret (.inl ?_))
  rw[List.drop_eq_nil_of_le (by omega)] at g3
  simp only[List.map_nil,List.append_nil] at g3
  rw[g3]
def okE (kd:Int) (q:QQt) (e:ENt):Bool:=(!(kd==1&&decide (e.1=q))||e.2.2.2.1==5)&&(!(kd==3)||decide (e.2.2.2.1≤2))
def zsC (kd:Int) (s:List ENt) (qn:List UInt8) (qt qc i:Int):Bool:=decide (i=0)&&(Nat.ble s.length 100000&&s.all (okE kd (qn,(qt,qc))))
noncomputable def b13e:Code:=X4 c13 1
def V3d:LoopSpec:={ bid:=4,sh:=[.ptr 0 0,.d .bool false,.ptr 1 0,.d (.int .i64) false,.d (.list EN) false,.d (.int .i64) false],so:=[.box [.d .str false,.d (.int .u16) false,.d (.int .u16) false],.box [.d (.int .u16) false,.d .bool false,.d .bool false,.d .bool false,.d .bool false,.d .bool false,.d (.int .i64) false,.d (.int .i64) false,.d (.list QQ) false,.d (.list RR) false,.d (.list RR) false,.d (.list RR) false]],F:=fun(up,kd,s,i,_) ((qn,qt,qc,_),(mi,mqr,maa,mtc,mrd,mra,mop,mrc,mq,man,mns,mar,_),_)=>.on (zsC kd s qn qt qc i) (.exit 4,[.dead,.bool up,.ptr 0 0,.int .i64 kd],[.box [.int .u16 mi,.bool mqr,.bool maa,.bool mtc,.bool mrd,.bool mra,.int .i64 mop,.int .i64 mrc,.list QQ mq,.list RR man,.list RR mns,.list RR mar]]) }
def r13e (up:Bool) (kd:Int) (s:List ENt) (i:Int) (qn:List UInt8) (qt qc mi:Int) (mqr maa mtc mrd mra:Bool) (mop mrc:Int) (mq:List QQt) (man mns mar:List RRt):Tr (St⊕(Ex×St)):=.br (decide (i < (↑s.length:Int))) (.br (kd==1) (.br (decide (0≤i)) (.br (decide (i < (↑s.length:Int))) (.br ((s.getD i.toNat (Ty.dflt EN)).1.1==qn&&((s.getD i.toNat (Ty.dflt EN)).1.2.1==qt&&((s.getD i.toNat (Ty.dflt EN)).1.2.2==qc&&true))) (.br (decide (0≤i)) (.br (decide (i < (↑s.length:Int))) (.br ((s.getD i.toNat (Ty.dflt EN)).2.2.2.1 != 5) (.ret (.inr (.ret,stOf [4,5,11,12] [.bool false,.bool up,.ptr 0 0,.int .i64 kd] [.boxT none [.int .u16 mi,.bool mqr,.bool maa,.bool mtc,.bool mrd,.bool mra,.int .i64 mop,.int .i64 mrc,.list QQ mq,.list RR man,.list RR mns,.list RR mar]]))) (.br (kd==3) (.br (decide (0≤i)) (.br (decide (i < (↑s.length:Int))) (.br (decide ((s.getD i.toNat (Ty.dflt EN)).2.2.2.1 > 2)) (.ret (.inr (.ret,stOf [4,5,11,12] [.bool false,.bool up,.ptr 0 0,.int .i64 kd] [.boxT none [.int .u16 mi,.bool mqr,.bool maa,.bool mtc,.bool mrd,.bool mra,.int .i64 mop,.int .i64 mrc,.list QQ mq,.list RR man,.list RR mns,.list RR mar]]))) (.ret (.inl (stOf [3,5,11,12,13,14] [.ptr 0 0,.bool up,.ptr 1 0,.int .i64 kd,.list EN s,.int .i64 (IntKind.wrap .i64 (i+1))] [.boxT none [.str qn,.int .u16 qt,.int .u16 qc],.boxT none [.int .u16 mi,.bool mqr,.bool maa,.bool mtc,.bool mrd,.bool mra,.int .i64 mop,.int .i64 mrc,.list QQ mq,.list RR man,.list RR mns,.list RR mar]])))) .no) .no) (.ret (.inl (stOf [3,5,11,12,13,14] [.ptr 0 0,.bool up,.ptr 1 0,.int .i64 kd,.list EN s,.int .i64 (IntKind.wrap .i64 (i+1))] [.boxT none [.str qn,.int .u16 qt,.int .u16 qc],.boxT none [.int .u16 mi,.bool mqr,.bool maa,.bool mtc,.bool mrd,.bool mra,.int .i64 mop,.int .i64 mrc,.list QQ mq,.list RR man,.list RR mns,.list RR mar]]))))) .no) .no) (.br (kd==3) (.br (decide (0≤i)) (.br (decide (i < (↑s.length:Int))) (.br (decide ((s.getD i.toNat (Ty.dflt EN)).2.2.2.1 > 2)) (.ret (.inr (.ret,stOf [4,5,11,12] [.bool false,.bool up,.ptr 0 0,.int .i64 kd] [.boxT none [.int .u16 mi,.bool mqr,.bool maa,.bool mtc,.bool mrd,.bool mra,.int .i64 mop,.int .i64 mrc,.list QQ mq,.list RR man,.list RR mns,.list RR mar]]))) (.ret (.inl (stOf [3,5,11,12,13,14] [.ptr 0 0,.bool up,.ptr 1 0,.int .i64 kd,.list EN s,.int .i64 (IntKind.wrap .i64 (i+1))] [.boxT none [.str qn,.int .u16 qt,.int .u16 qc],.boxT none [.int .u16 mi,.bool mqr,.bool maa,.bool mtc,.bool mrd,.bool mra,.int .i64 mop,.int .i64 mrc,.list QQ mq,.list RR man,.list RR mns,.list RR mar]])))) .no) .no) (.ret (.inl (stOf [3,5,11,12,13,14] [.ptr 0 0,.bool up,.ptr 1 0,.int .i64 kd,.list EN s,.int .i64 (IntKind.wrap .i64 (i+1))] [.boxT none [.str qn,.int .u16 qt,.int .u16 qc],.boxT none [.int .u16 mi,.bool mqr,.bool maa,.bool mtc,.bool mrd,.bool mra,.int .i64 mop,.int .i64 mrc,.list QQ mq,.list RR man,.list RR mns,.list RR mar]]))))) .no) .no) (.br (kd==3) (.br (decide (0≤i)) (.br (decide (i < (↑s.length:Int))) (.br (decide ((s.getD i.toNat (Ty.dflt EN)).2.2.2.1 > 2)) (.ret (.inr (.ret,stOf [4,5,11,12] [.bool false,.bool up,.ptr 0 0,.int .i64 kd] [.boxT none [.int .u16 mi,.bool mqr,.bool maa,.bool mtc,.bool mrd,.bool mra,.int .i64 mop,.int .i64 mrc,.list QQ mq,.list RR man,.list RR mns,.list RR mar]]))) (.ret (.inl (stOf [3,5,11,12,13,14] [.ptr 0 0,.bool up,.ptr 1 0,.int .i64 kd,.list EN s,.int .i64 (IntKind.wrap .i64 (i+1))] [.boxT none [.str qn,.int .u16 qt,.int .u16 qc],.boxT none [.int .u16 mi,.bool mqr,.bool maa,.bool mtc,.bool mrd,.bool mra,.int .i64 mop,.int .i64 mrc,.list QQ mq,.list RR man,.list RR mns,.list RR mar]])))) .no) .no) (.ret (.inl (stOf [3,5,11,12,13,14] [.ptr 0 0,.bool up,.ptr 1 0,.int .i64 kd,.list EN s,.int .i64 (IntKind.wrap .i64 (i+1))] [.boxT none [.str qn,.int .u16 qt,.int .u16 qc],.boxT none [.int .u16 mi,.bool mqr,.bool maa,.bool mtc,.bool mrd,.bool mra,.int .i64 mop,.int .i64 mrc,.list QQ mq,.list RR man,.list RR mns,.list RR mar]]))))) (.ret (.inr (.exit 4,stOf [4,5,11,12] [.dead,.bool up,.ptr 0 0,.int .i64 kd] [.boxT none [.int .u16 mi,.bool mqr,.bool maa,.bool mtc,.bool mrd,.bool mra,.int .i64 mop,.int .i64 mrc,.list QQ mq,.list RR man,.list RR mns,.list RR mar]])))
theorem X3l (lp:Lp) (up:Bool) (kd:Int) (s:List ENt) (i:Int) (qn:List UInt8) (qt qc mi:Int) (mqr maa mtc mrd mra:Bool) (mop mrc:Int) (mq:List QQt) (man mns mar:List RRt):evC TL (orcB [Uo,Zp,Vm,Jn,Vo,Qm,Un,Qn] []) lp b13e 4 (stOf [3,5,11,12,13,14] [.ptr 0 0,.bool up,.ptr 1 0,.int .i64 kd,.list EN s,.int .i64 i] [.box [.str qn,.int .u16 qt,.int .u16 qc],.box [.int .u16 mi,.bool mqr,.bool maa,.bool mtc,.bool mrd,.bool mra,.int .i64 mop,.int .i64 mrc,.list QQ mq,.list RR man,.list RR mns,.list RR mar]]) (Q0 [3,5,11,12,13,14] [4,5,11,12] 0)=(r13e up kd s i qn qt qc mi mqr maa mtc mrd mra mop mrc mq man mns mar).get:=by kernel_rfl
theorem wf13e (up:Bool) (kd:Int) (s:List ENt) (qn:List UInt8) (qt qc mi:Int) (mqr maa mtc mrd mra:Bool) (mop mrc:Int) (mq:List QQt) (man mns mar:List RRt) (I'':Int→Prop) (m'':Int→Nat) (r'':Ex×St) (h:∀ (i:Int),I'' i→(r13e up kd s i qn qt qc mi mqr maa mtc mrd mra mop mrc mq man mns mar).all fun x''=>x''=.inr r''∨∃ (i':Int),x''=.inl (stOf [3,5,11,12,13,14] [.ptr 0 0,.bool up,.ptr 1 0,.int .i64 kd,.list EN s,.int .i64 i'] [.box [.str qn,.int .u16 qt,.int .u16 qc],.box [.int .u16 mi,.bool mqr,.bool maa,.bool mtc,.bool mrd,.bool mra,.int .i64 mop,.int .i64 mrc,.list QQ mq,.list RR man,.list RR mns,.list RR mar]])∧I'' i'∧m'' i' < m'' i) (lp:Lp) (i:Int):I'' i→
    X2 (fun st=>evC TL (orcB [Uo,Zp,Vm,Jn,Vo,Qm,Un,Qn] []) lp b13e 4 st (Q0 [3,5,11,12,13,14] [4,5,11,12] 0)) (stOf [3,5,11,12,13,14] [.ptr 0 0,.bool up,.ptr 1 0,.int .i64 kd,.list EN s,.int .i64 i] [.box [.str qn,.int .u16 qt,.int .u16 qc],.box [.int .u16 mi,.bool mqr,.bool maa,.bool mtc,.bool mrd,.bool mra,.int .i64 mop,.int .i64 mrc,.list QQ mq,.list RR man,.list RR mns,.list RR mar]])=some r'':=
 U4 (fun a'':Int=>stOf [3,5,11,12,13,14] [.ptr 0 0,.bool up,.ptr 1 0,.int .i64 kd,.list EN s,.int .i64 a''] [.box [.str qn,.int .u16 qt,.int .u16 qc],.box [.int .u16 mi,.bool mqr,.bool maa,.bool mtc,.bool mrd,.bool mra,.int .i64 mop,.int .i64 mrc,.list QQ mq,.list RR man,.list RR mns,.list RR mar]]) (fun a''=>I'' a'') (fun a''=>m'' a'') r'' (fun a''=>r13e up kd s a'' qn qt qc mi mqr maa mtc mrd mra mop mrc mq man mns mar)
  (fun a'' x hx=>(X3l lp up kd s a'' qn qt qc mi mqr maa mtc mrd mra mop mrc mq man mns mar).trans hx) (fun a'' ha=>Tr.all_mono (fun x'' hx=>hx.imp id fun⟨i',h1,h2,h3⟩=>⟨(i'),h1,h2,h3⟩) (h (a'') ha)) (i)
theorem Z3x:V3d.Ok TL (orcB [Uo,Zp,Vm,Jn,Vo,Qm,Un,Qn] []) h13 0 0 b13e:=by
 intro q'' hq'' x'' y'' r'' h
 obtain⟨(up:Bool),(kd:Int),(s:List ENt),(i:Int),_⟩:=x''
 obtain⟨⟨(qn:List UInt8),(qt:Int),(qc:Int),_⟩,⟨(mi:Int),(mqr:Bool),(maa:Bool),(mtc:Bool),(mrd:Bool),(mra:Bool),(mop:Int),(mrc:Int),(mq:List QQt),(man:List RRt),(mns:List RRt),(mar:List RRt),_⟩,_⟩:=y''
 obtain⟨hc,rfl⟩:=Tr.get_on h
 show X2 (fun st=>evC TL (orcB [Uo,Zp,Vm,Jn,Vo,Qm,Un,Qn] []) (lpN TL (orcB [Uo,Zp,Vm,Jn,Vo,Qm,Un,Qn] []) h13 0 q'') b13e 4 st (Q0 [3,5,11,12,13,14] [4,5,11,12] 0)) (stOf [3,5,11,12,13,14] [.ptr 0 0,.bool up,.ptr 1 0,.int .i64 kd,.list EN s,.int .i64 i] [.box [.str qn,.int .u16 qt,.int .u16 qc],.box [.int .u16 mi,.bool mqr,.bool maa,.bool mtc,.bool mrd,.bool mra,.int .i64 mop,.int .i64 mrc,.list QQ mq,.list RR man,.list RR mns,.list RR mar]])=some (.exit 4,stOf [4,5,11,12] ([.dead,.bool up,.ptr 0 0,.int .i64 kd]) ([.box [.int .u16 mi,.bool mqr,.bool maa,.bool mtc,.bool mrd,.bool mra,.int .i64 mop,.int .i64 mrc,.list QQ mq,.list RR man,.list RR mns,.list RR mar]]))
 simp only[zsC,Bool.and_eq_true,decide_eq_true_eq] at hc
 obtain⟨rfl,hl,hall⟩:=hc
 have hl:=Nat.le_of_ble_eq_true hl
 refine wf13e up kd s qn qt qc mi mqr maa mtc mrd mra mop mrc mq man mns mar (fun i=>0≤i∧i≤s.length) (fun i=>(s.length - i).toNat) _ ?_ _ 0 ⟨by omega,by omega⟩
 rintro i ⟨h0,h1⟩
 unfold r13e
 rw[V4 h0 h1 (by omega)]
 by_cases hi:i < s.length
 ·have hg:=List.all_eq_true.1 hall _ (Z10 (Ty.dflt EN) h0 hi)
  generalize s.getD i.toNat (Ty.dflt EN)=e at *
  have hq:=qeq e.1 (qn,(qt,qc))
  simp only at hq
  rw[hq]
  unfold okE at hg
  have hgo:∀ (P:St⊕(Ex×St)→Prop) (X Y Z:Tr (St⊕(Ex×St))),Y.all P→(Tr.br (kd==3) (Tr.br (decide (0≤i)) (Tr.br (decide (i < (s.length:Int))) (Tr.br (decide (e.2.2.2.1 > 2)) X Y) Tr.no) Tr.no) Y).all P:=fun P X Y Z hY=>by
   refine Tr.all_br (fun c3=>Tr.all_t (J0 h0) (Tr.all_t (J0 hi) (Tr.all_f (X0 ?_) hY))) fun _=>hY
   rw[c3] at hg
   simp only[Bool.and_eq_true,Bool.not_true,Bool.false_or,decide_eq_true_eq] at hg
   have:=hg.2
   omega
  refine Tr.all_t (J0 hi) (Tr.all_br (fun c1=>Tr.all_t (J0 h0) (Tr.all_t (J0 hi) (Tr.all_br (fun c2=>Tr.all_t (J0 h0) (Tr.all_t (J0 hi) (Tr.all_f ?_ (hgo _ _ _ .no (Tr.all_ret (.inr ⟨_,rfl,⟨by omega,by omega⟩,by omega⟩)))))) fun c2=>hgo _ _ _ .no (Tr.all_ret (.inr ⟨_,rfl,⟨by omega,by omega⟩,by omega⟩))))) fun c1=>hgo _ _ _ .no (Tr.all_ret (.inr ⟨_,rfl,⟨by omega,by omega⟩,by omega⟩)))
  rw[c1,c2] at hg
  simp only[Bool.and_self,Bool.not_true,Bool.false_or,Bool.and_eq_true,beq_iff_eq] at hg
  rw[hg.1]
  rfl
 ·exact Tr.all_f (X0 hi) (Tr.all_ret (.inl rfl))
def t13 (l:List ZNt) (q:QQt):Tr Res:=.br (!fewZ l) (.ret ([.bool true],[])) (.br (decide ((↑q.1.length:Int) > 300)) (.ret ([.bool true],[])) (.br (q.2.2 != 1) (.ret ([.bool true],[])) (.br (zbO l 0 []) (.br (smL (List.map fZ l)&&smN q.1) (.br (decide (V5 (List.map fZ l) q.1 < 0)) (.ret ([.bool (V5 (List.map fZ l) q.1==(-1:Int))],[])) (.br (decide (V5 (List.map fZ l) q.1≥(↑l.length:Int))) (.ret ([.bool (V5 (List.map fZ l) q.1==(-1:Int))],[])) (.br (zsOk (List.map fZ l)&&smN (qAt (0,false,false,false,false,false,0,0,[q],[],[],[])).1) (.br (decide (0≤V5 (List.map fZ l) q.1)) (.br (decide (V5 (List.map fZ l) q.1 < (↑l.length:Int))) (.br (okK (ansV (List.map fZ l) (0,false,false,false,false,false,0,0,[q],[],[],[])) q (l.getD (Int.toNat (V5 (List.map fZ l) q.1)) (Ty.dflt ZN)).1) (.br (decide (0≤V5 (List.map fZ l) q.1)) (.br (decide (V5 (List.map fZ l) q.1 < (↑l.length:Int))) (.br (okS (ansV (List.map fZ l) (0,false,false,false,false,false,0,0,[q],[],[],[])) (l.getD (Int.toNat (V5 (List.map fZ l) q.1)) (Ty.dflt ZN)).1 5 1000) (.br (!fewM (ansV (List.map fZ l) (0,false,false,false,false,false,0,0,[q],[],[],[]))) (.ret ([.bool true],[])) (.br (zsC (Jc (ansV (List.map fZ l) (0,false,false,false,false,false,0,0,[q],[],[],[])) q (l.getD (Int.toNat (V5 (List.map fZ l) q.1)) (Ty.dflt ZN)).1) (Q1k (ansV (List.map fZ l) (0,false,false,false,false,false,0,0,[q],[],[],[])) (l.getD (Int.toNat (V5 (List.map fZ l) q.1)) (Ty.dflt ZN)).1 5 1000) q.1 q.2.1 q.2.2 0) (.br (Jc (ansV (List.map fZ l) (0,false,false,false,false,false,0,0,[q],[],[],[])) q (l.getD (Int.toNat (V5 (List.map fZ l) q.1)) (Ty.dflt ZN)).1 != 0) (.br (Jc (ansV (List.map fZ l) (0,false,false,false,false,false,0,0,[q],[],[],[])) q (l.getD (Int.toNat (V5 (List.map fZ l) q.1)) (Ty.dflt ZN)).1 != 3) (.br (Jc (ansV (List.map fZ l) (0,false,false,false,false,false,0,0,[q],[],[],[])) q (l.getD (Int.toNat (V5 (List.map fZ l) q.1)) (Ty.dflt ZN)).1 != 4) (.ret ([.bool true],[])) (.ret ([.bool ((↑(List.length (ansV (List.map fZ l) (0,false,false,false,false,false,0,0,[q],[],[],[])).2.2.2.2.2.2.2.2.2.1):Int)==0)],[]))) (.br (!(ansV (List.map fZ l) (0,false,false,false,false,false,0,0,[q],[],[],[])).2.2.1) (.br (Jc (ansV (List.map fZ l) (0,false,false,false,false,false,0,0,[q],[],[],[])) q (l.getD (Int.toNat (V5 (List.map fZ l) q.1)) (Ty.dflt ZN)).1 != 4) (.ret ([.bool true],[])) (.ret ([.bool ((↑(List.length (ansV (List.map fZ l) (0,false,false,false,false,false,0,0,[q],[],[],[])).2.2.2.2.2.2.2.2.2.1):Int)==0)],[]))) (.ret ([.bool false],[])))) (.ret ([.bool false],[]))) .no)) .no) .no) .no) .no) .no) .no) .no))) .no) .no)))
def os13:OSpec:={ f:=13,sh:=[.d (.list ZN) false,.d QQ true],so:=[],F:=fun(l,q,_) _=>t13 l q }
theorem fn13 (l:List ZNt) (q:QQt):evC TL (orcB [Uo,Zp,Vm,Jn,Vo,Qm,Un,Qn] []) (lpOf h13 0 (lsOf [Z3g,V3d])) c13 1000000 (Z1 [.list ZN l,AV.ofTy QQ q true] [] Try.f13.ntmps) (J1 TL false 0 Try.f13)=(t13 l q).get:=by kernel_rfl
theorem ok13:os13.Ok Try.prog:=by
 refine V3 Q1 tabL (V0 (all_cons J4f (all_cons X4g (all_cons J35 (all_cons X3d (all_cons X4f (all_cons J37 (all_cons Q4d (all_cons Z4b Z0)))))))) Z0) h13 (d:=1) (n0:=0) (S:=lsOf [Z3g,V3d]) Try.func13 (by kernel_rfl) (c:=c13) (by kernel_rfl) rfl (Q5 (xs:=[(0,b13o),(4,b13e)]) (by kernel_rfl) (all_cons (Q4 V3y) (all_cons (Q1q (by kernel_rfl) (Q4 (V2m (by omega) Z3x))) Z0))) (by omega) (by kernel_rfl) ?_
 intro x'' y'' q'' hq''
 obtain⟨(l:List ZNt),(q:QQt),_⟩:=x''
 exact(fn13 l q).trans hq''
theorem few_f {l:List ZNt} (h:fewZ l=true):fewZ (l.map fZ)=true:=by
 unfold fewZ at h ⊢
 obtain⟨h1,h2⟩:=Bool.and_eq_true_iff.1 h
 rw[List.length_map,h1,Bool.true_and]
 refine List.all_eq_true.2 fun x hx=>?_
 obtain⟨z,hz,rfl⟩:=List.mem_map.1 hx
 have:=List.all_eq_true.1 h2 z hz
 simp only[Vn,Bool.and_eq_true,decide_eq_true_eq] at this ⊢
 obtain⟨a1,a2,a3⟩:=this
 refine⟨Nat.le_trans (List.length_filter_le _ _) a1,a2,?_⟩
 unfold Uf at a3 ⊢
 exact List.all_eq_true.2 fun r hr=>List.all_eq_true.1 a3 r (List.mem_filter.1 hr).1
theorem J40 (l:List RRt):(ndV l).length≤l.length:=(X2l l).length_le
theorem U34 {z:ZNt} {q:QQt} {m:MGt} (hm:m=Ue z (repV (msgQ q) 0) q):((mAn m).length≤z.2.length∧(mNs m).length≤z.2.length∧(mAr m).length≤z.2.length * z.2.length)∧∀ r,r∈mAn m∨r∈mNs m∨r∈mAr m→r∈z.2:=by
 have ho:∀ n k,(ofV z n k).length≤z.2.length∧∀ r∈ofV z n k,r∈z.2:=fun n k=>⟨(U0e z n k).length_le,fun r hr=>(U0e z n k).subset hr⟩
 have ha:(anV z q).length≤z.2.length∧∀ r∈anV z q,r∈z.2:=⟨(Q2n z q).length_le,fun r hr=>(Q2n z q).subset hr⟩
 have hg:∀ ns:List RRt,ns.length≤z.2.length→(Zf z ns).length≤z.2.length * z.2.length∧∀ r∈Zf z ns,r∈z.2:=fun ns hns=>by
  refine⟨Nat.le_trans Q2q (Nat.mul_le_mul_right _ hns),fun r hr=>?_⟩
  rcases(J0w z ns []).2.1 r hr with h | h
  ·cases h
  ·exact h.1
 have hnd:(ndV (anV z q)).length≤z.2.length:=Nat.le_trans (J40 _) ha.1
 unfold Ue at hm
 cases hc:(cutV z q.1).2 with
 | true=>
   rw[hc,cond_true] at hm
   subst hm
   obtain⟨o1,o2⟩:=ho (cutV z q.1).1 2
   obtain⟨g1,g2⟩:=hg _ o1
   refine⟨⟨Nat.zero_le _,o1,g1⟩,fun r hr=>?_⟩
   rcases hr with hr | hr | hr
   ·cases hr
   ·exact o2 r hr
   ·exact g2 r hr
 | false=>
   rw[hc,cond_false] at hm
   obtain⟨g1,g2⟩:=hg _ hnd
   cases hp:decide (((anV z q).length:Int) > 0) with
   | true=>
     rw[hp,cond_true] at hm
     subst hm
     refine⟨⟨ha.1,Nat.zero_le _,g1⟩,fun r hr=>?_⟩
     rcases hr with hr | hr | hr
     ·exact ha.2 r hr
     ·cases hr
     ·exact g2 r hr
   | false=>
     rw[hp,cond_false] at hm
     subst hm
     obtain⟨o1,o2⟩:=ho z.1 6
     refine⟨⟨ha.1,o1,g1⟩,fun r hr=>?_⟩
     rcases hr with hr | hr | hr
     ·exact ha.2 r hr
     ·exact o2 r hr
     ·exact g2 r hr
theorem Z1e {z:List UInt8} {l:List RRt} (hl:l.length≤2000) (h:∀ r∈l,r.1.length≤300∧r.2.2.2.2.length≤300) (hz:z.length≤300):okS3 z l=true:=by
 unfold okS3
 rw[X2h (U2h (by omega) h) hz (by simp),Nat.ble_eq_true_of_le (by omega)]
 rfl
theorem Q3g {l:List ZNt} {k:Nat} (hk:k < l.length):(l.map fZ).getD k (Ty.dflt ZN)=fZ (l.getD k (Ty.dflt ZN)):=by
 rw[List.getD_eq_getElem?_getD,List.getD_eq_getElem?_getD,List.getElem?_map,List.getElem?_eq_getElem hk]
 rfl
theorem acceptZones_all (l:List ZNt) (q:QQt) (hu:∀ z∈l,okU z.2=true):Tr.all (fun r:Res=>r=([.bool true],[])) (t13 l q):=by
 unfold t13
 refine Tr.all_br (fun _=>Tr.all_ret rfl) fun hf=>Tr.all_br (fun _=>Tr.all_ret rfl) fun hq=>Tr.all_br (fun _=>Tr.all_ret rfl) fun hcl=>?_
 have hf:fewZ l=true:=by simpa using hf
 have hq:q.1.length≤300:=by have:=of_decide_eq_false hq;omega
 have hcl:q.2.2=1:=by simpa[bne] using hcl
 have hX:=few_f hf
 have hzs:=Q4e hX
 refine Tr.all_t (by unfold zbO;rw[hf];rfl) (Tr.all_t (by rw[Z3f hzs,V2q hq];rfl) ?_)
 have hB:=Q0t (l.map fZ) q.1 (l.map fZ).length
 have hbe:Xq (l.map fZ) q.1 (l.map fZ).length=V5 (l.map fZ) q.1:=rfl
 rw[hbe] at hB
 rcases hB with ⟨hb,_⟩ | ⟨b0,b1,b2,_⟩
 ·rw[hb]
  exact Tr.all_t rfl (Tr.all_ret rfl)
 rw[List.length_map] at b1
 have hm0:ansV (l.map fZ) ((0:Int),false,false,false,false,false,(0:Int),(0:Int),[q],[],[],[])=Ue ((l.map fZ).getD (V5 (l.map fZ) q.1).toNat (Ty.dflt ZN)) (repV (msgQ q) 0) q:=by
  unfold ansV
  have e1:qAt (msgQ q)=q:=rfl
  show (bif (([q].length:Nat):Int) != 1 then _ else bif (0:Int) != 0 then _ else bif decide (V5 (l.map fZ) (qAt (msgQ q)).1 < 0)||(qAt (msgQ q)).2.2 != 1 then _ else Ue ((l.map fZ).getD (V5 (l.map fZ) (qAt (msgQ q)).1).toNat (Ty.dflt ZN)) (repV (msgQ q) 0) (qAt (msgQ q)))=_
  rw[e1,hcl,X0 (show ¬ V5 (l.map fZ) q.1 < 0 by omega)]
  rfl
 generalize hm:ansV (l.map fZ) ((0:Int),false,false,false,false,false,(0:Int),(0:Int),[q],[],[],[])=m at *
 have hsq:smN (qAt ((0:Int),false,false,false,false,false,(0:Int),(0:Int),[q],[],[],[])).1=true:=V2q hq
 have hmem:=Z10 (l:=l) (i:=V5 (l.map fZ) q.1) (Ty.dflt ZN) b0 b1
 have hz0:=List.all_eq_true.1 (Bool.and_eq_true_iff.1 hf).2 _ hmem
 have hapx:apx (l.map fZ) (V5 (l.map fZ) q.1).toNat=(l.getD (V5 (l.map fZ) q.1).toNat (Ty.dflt ZN)).1:=by
  unfold apx
  rw[Q3g (by omega)]
  rfl
 rw[hapx] at b2
 rw[Q3g (by omega)] at hm0
 have hu0:=hu _ hmem
 refine Tr.all_f (X0 (by omega)) (Tr.all_f (X0 (by omega)) (Tr.all_t (by rw[hzs,hsq];rfl) (Tr.all_t (J0 b0) (Tr.all_t (J0 b1) ?_))))
 generalize l.getD (V5 (l.map fZ) q.1).toNat (Ty.dflt ZN)=z0 at *
 simp only[Vn,Bool.and_eq_true,decide_eq_true_eq] at hz0
 obtain⟨z1,z2,z3⟩:=hz0
 have z3:=J26 z3
 have hsub:∀ r∈(fZ z0).2,r∈z0.2∧gR r=true:=fun r hr=>List.mem_filter.1 hr
 have hok:ZnOk (fZ z0) q:=⟨b2,hcl,fun r hr=>by
  have:=(hsub r hr).2
  simp only[gR,Bool.and_eq_true,beq_iff_eq] at this
  exact this⟩
 obtain⟨k0,k3,k4,s3,s1⟩:=Q29 hok hm0
 have hz1:(fZ z0).1=z0.1:=rfl
 rw[hz1] at k0 k3 k4 s3 s1
 obtain⟨⟨n1,n2,n3⟩,hmem2⟩:=U34 hm0
 have hzl:(fZ z0).2.length≤40:=Nat.le_trans (List.length_filter_le _ _) z1
 have hsq2:(fZ z0).2.length * (fZ z0).2.length≤40 * 40:=Nat.mul_le_mul hzl hzl
 have hr300:∀ r,r∈mAn m∨r∈mNs m∨r∈mAr m→r.1.length≤300∧r.2.2.2.2.length≤300:=fun r hr=>z3 r (hsub r (hmem2 r hr)).1
 have hK:okK m q z0.1=true:=by
  unfold okK
  rw[X2h (U2h (by omega) fun r hr=>hr300 r (.inl hr)) z2 hq,X2h (U2h (by omega) fun r hr=>hr300 r (.inr (.inl hr))) z2 hq]
  rfl
 have hUM:okUM m=true:=by
  have hone:∀ L:List RRt,(∀ r∈L,r∈(fZ z0).2)→okU L=true:=fun L hL=>List.all_eq_true.2 fun r hr=>List.all_eq_true.1 hu0 r (hsub r (hL r hr)).1
  unfold okUM
  rw[hone _ fun r hr=>hmem2 r (.inl hr),hone _ fun r hr=>hmem2 r (.inr (.inl hr)),hone _ fun r hr=>hmem2 r (.inr (.inr hr))]
  rfl
 have hS:okS m z0.1 5 1000=true:=by
  unfold okS
  rw[Z1e (by omega) (fun r hr=>hr300 r (.inl hr)) z2,Z1e (by omega) (fun r hr=>hr300 r (.inr (.inl hr))) z2,Z1e (by omega) (fun r hr=>hr300 r (.inr (.inr hr))) z2,hUM]
  rfl
 refine Tr.all_t hK (Tr.all_t (J0 b0) (Tr.all_t (J0 b1) (Tr.all_t hS (Tr.all_br (fun _=>Tr.all_ret rfl) fun _=>Tr.all_t ?_ ?_))))
 ·obtain⟨g1,g2,g3⟩:=J3p hS
  have e0:BdE ([]:ES) 0:=fun e h=>by cases h
  obtain⟨e1,o1⟩:=Ut (z:=z0.1) (sec:=1) (mAn m) ([],[]) 0 e0 (Nat.le_refl _)
  obtain⟨e2,o2⟩:=Ut (z:=z0.1) (sec:=2) (mNs m) (cRun z0.1 1 (mAn m) ([],[])) _ e1 o1
  obtain⟨e3,o3⟩:=Ut (z:=z0.1) (sec:=3) (mAr m) (cRun z0.1 2 (mNs m) (cRun z0.1 1 (mAn m) ([],[]))) _ e2 o2
  have o3:(cAll z0.1 (mArr m)).2.length≤0+(mAn m).length+(mNs m).length+(mAr m).length:=o3
  unfold zsC Q1k
  generalize cAll z0.1 (mArr m)=a at *
  have hlen:a.1.length≤100000:=by
   have:a.2.length=a.1.length:=by rw[g1,List.length_map]
   omega
  rw[J0 rfl,List.length_map,Nat.ble_eq_true_of_le hlen,Bool.true_and,Bool.true_and]
  refine List.all_eq_true.2 fun x hx=>?_
  obtain⟨e,he,rfl⟩:=List.mem_map.1 hx
  unfold okE
  show ((!(Jc m q z0.1==1&&decide (e.1=q))||Z17 e.2.1 m.2.2.1==5)&&(!(Jc m q z0.1==3)||decide (Z17 e.2.1 m.2.2.1≤2)))=true
  rw[Bool.and_eq_true]
  constructor
  ·cases h1:(Jc m q z0.1==1&&decide (e.1=q)) with
   | false=>rfl
   | true=>
     obtain⟨h1,h2⟩:=Bool.and_eq_true_iff.1 h1
     have h1:Jc m q z0.1=1:=by simpa using h1
     have h2:=of_decide_eq_true h2
     obtain⟨hAA,e',he',hq1,hs1⟩:=s1 h1
     obtain⟨i,hi⟩:=List.mem_iff_getElem?.1 he
     obtain⟨j,hj⟩:=List.mem_iff_getElem?.1 he'
     have hij:i=j:=J25 g2 (x:=q) (by rw[List.getElem?_map,hi];exact congrArg some h2) (by rw[List.getElem?_map,hj];exact congrArg some hq1)
     subst hij
     rw[hi] at hj
     cases hj
     rw[hAA,hs1]
     rfl
  ·cases h3:(Jc m q z0.1==3) with
   | false=>rfl
   | true=>
     have h3:Jc m q z0.1=3:=by simpa using h3
     rw[k3 h3,J0 (X3z _ (s3 h3 e he))]
     rfl
 ·have tail:(Tr.br (Jc m q z0.1 != 4) (Tr.ret (([AV.bool true],[]):Res)) (Tr.ret ([AV.bool (((m.2.2.2.2.2.2.2.2.2.1).length:Int)==0)],[]))).all (fun r:Res=>r=([.bool true],[])):=by
   refine Tr.all_br (fun _=>Tr.all_ret rfl) fun c4=>Tr.all_ret ?_
   have c4:Jc m q z0.1=4:=by simpa[bne] using c4
   have:m.2.2.2.2.2.2.2.2.2.1=[]:=k4 c4
   rw[this]
   rfl
  refine Tr.all_t (by simp[bne,k0]) (Tr.all_br (fun _=>tail) fun c3=>Tr.all_t ?_ tail)
  have c3:Jc m q z0.1=3:=by simpa[bne] using c3
  rw[k3 c3]
  rfl
theorem sem13 (l:List ZNt) (q:QQt) (h1:okT (.list ZN) l):SemF Try.prog 13 [.list ZN l,AV.ofTy QQ q true] [] [.bool true] []:=
 ok13 (l,q,()) () ([.bool true],[]) (Tr.get_of_all (acceptZones_all l q fun z hz=>V3x (h1.2 z hz).2))
end Go.Proofs.YtkobjdhbfepkaaaE
namespace Go.Proofs.Ytkobjdhbfepkaaa.acceptZones
open Go.ChangeShapes Go.WideShapes Go.ChangeAt Go.RowKit Go.Proofs.YtkobjdhbfepkaaaE
open Go.ChangeMaps (open_string shut_string)
set_option linter.unusedVariables false
theorem own : ownKnob Try.prog.godebug = none := by kernel_rfl
theorem laidOut : laidOutB Try.prog = true := by kernel_rfl
set_option maxRecDepth 100000 in
theorem lifted (os : Os) (started : os.Started) (H : Type) (enc : TypeId × Value → H) :
    ReturnsInHanded {} Try.checked os 13 .any (Rows.acceptZonesSpec.pre6 enc Try.prog Try.f13 Rows.acceptZonesRow.domain false) (Rows.acceptZonesSpec.post enc Try.prog Try.f13 false true false false) := by
  refine returnsInHanded_of_change_sized (C := Try.checked) own started (by kernel_rfl) Try.func13
    (ChangeSpec.witness6 (enc := enc) (C := Try.checked) false ⟨#[], #[.slice none 0 0, .agg #[.string ByteArray.empty, .int .u16 0, .int .u16 0]], []⟩ 8 (by kernel_rfl) (by kernel_rfl) (by kernel_rfl) (by kernel_rfl)) ?_
  intro W base args ds gs before hval0 hW hcnd hsz0 _
  have hsz : ∀ n ∈ DataW.weightsEach Try.prog (Try.f13.params.toList ++ Rows.acceptZonesSpec.plain.varTypes Try.prog) (ds ++ gs), n ≤ reachBytes := fun n hn => of_decide_eq_true (List.all_eq_true.1 hsz0 n hn)
  have hval : ∀ (j : Nat) t v, Try.f13.params[j]? = some t → args[j]? = some v → Value.okWide Try.prog W .any base t v := hval0
  have hW' := hW
  obtain ⟨p, q, hA0, hV, rfl, hfz, hnd⟩ := hW
  have hA : DataW.TrodAll enc Try.prog W 0 (fun _ => true) true Try.f13.params.toList args.toList ds p := hA0
  rw [Try.params13] at hA hval hsz
  obtain ⟨v0, vs0, d0, ds0, p0, q0, hargs, rfl, rfl, k0, r0⟩ := trodAll_cons hA
  obtain ⟨v1, vs1, d1, ds1, p1, q1, rfl, rfl, rfl, k1, r1⟩ := trodAll_cons r0
  obtain ⟨rfl, rfl, rfl⟩ := trodAll_nil r1
  obtain rfl : args = #[v0, v1] := by cases args; simp_all
  obtain ⟨rfl, rfl⟩ := trodVars_none hV
  have lt0 : ∀ x ∈ p0, x.block < W.heap.size := by obtain ⟨m, hm⟩ := k0; exact DataW.trod_lt m _ _ _ hm
  obtain ⟨x0, e0, w0, b0⟩ := J2a (n := 8) (τ := (.list (.pair .str (.list (.pair .str (.pair (.int .u16) (.pair (.int .u16) (.pair (.int .u32) .str)))))))) (agg := false) (by kernel_rfl) (hval 0 22 v0 rfl rfl) k0 (fun n hn => hsz n (DataW.weights_mem_each (j := 0) (t := 22) rfl rfl n hn)) (by kernel_rfl)
  have lt1 : ∀ x ∈ p1, x.block < W.heap.size := by obtain ⟨m, hm⟩ := k1; exact DataW.trod_lt m _ _ _ hm
  obtain ⟨x1, e1, w1, b1⟩ := J2a (n := 8) (τ := (.pair .str (.pair (.int .u16) (.int .u16)))) (agg := true) (by kernel_rfl) (hval 1 52 v1 rfl rfl) k1 (fun n hn => hsz n (DataW.weights_mem_each (j := 1) (t := 52) rfl rfl n hn)) (by kernel_rfl)
  clear hA0 hval0 hsz0 hsz
  refine (U30 ((fun x0 x1 w0 w1 => sem13 x0 x1 w0) x0 x1 w0 w1) W (vs := [v0, v1]) ?_).mono fun e W' ⟨he, bel⟩ => ?_
  · simp only [U0]
    exact ⟨_, _, rfl, e0, ⟨_, _, rfl, e1, rfl⟩⟩
  subst he
  exact ⟨_, rfl, _, _, _, [], _, [], hW', trodAll_mk1 (shut_bool Try.underlying4 _), (trodAll_cons_mk (Below.trod laidOut (by kernel_rfl) (of_decide_eq_true (by kernel_rfl)) k0 bel lt0) (trodAll_cons_mk (Below.trod laidOut (by kernel_rfl) (of_decide_eq_true (by kernel_rfl)) k1 bel lt1) trodAll_mk0)), rfl, bel.frame _, fun h => by cases h⟩
theorem over : Rows.acceptZonesRow.holds Try.pinned (OpenSpec.ofChange Rows.acceptZonesSpec) :=
  OpenClaim.holds_of_wide 13 Try.f13 rfl rfl rfl rfl rfl rfl rfl ⟨rfl, rfl, rfl, rfl, rfl⟩ rfl rfl rfl rfl rfl (by kernel_rfl) Try.func13 (by kernel_rfl)
    (of_decide_eq_true (by kernel_rfl)) (by unfold Func.isWrapper; first | (rw [if_pos (by decide +kernel)]; kernel_rfl) | (rw [if_neg (by decide +kernel)]; exact ⟨rfl, rfl⟩))
    (fun os started H enc _ => lifted os started H enc)
theorem proved : Rows.AcceptZonesSaid := over
end Go.Proofs.Ytkobjdhbfepkaaa.acceptZones
namespace Go.Proofs.Ytkobjdhbfepkaaa
/-- The row, under a short name, for the claim. -/
theorem acceptZones_holds : Rows.AcceptZonesSaid := acceptZones.proved
#print axioms acceptZones_holds
end Go.Proofs.Ytkobjdhbfepkaaa
