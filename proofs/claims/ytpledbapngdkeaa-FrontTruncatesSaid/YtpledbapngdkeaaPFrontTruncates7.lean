import Derived.Test.YtpledbapngdkeaaPFrontTruncates6
import Derived.Test.YtpledbapngdkeaaRows
import Derived.WalkKit
import Derived.ProofKit
import Derived.OpenShut
import Derived.ShutString
import Derived.ChangeOld
import Derived.Below
import Derived.Carry
import Derived.SizedLaws
set_option maxRecDepth 1000000
namespace Go.Proofs.YtpledbapngdkeaaE
open Go Go.Proofs.YtpledbapngdkeaaB
set_option linter.unusedVariables false
set_option linter.unusedSimpArgs false
def rcdF (rc:Int):Int:=bif decide (rc < 0) then 2 else bif decide (rc > 15) then 2 else rc
def opcF (op:Int):Int:=bif decide (op < 0) then 0 else bif decide (op > 15) then 0 else op
def ansM (m:MGt) (rc:Int) (an:List RRt):MGt:=(m.1,true,false,false,m.2.2.2.2.1,true,opcF m.2.2.2.2.2.2.1,rcdF rc,flQf (mQ m),flRf an,[],[])
def trnM (m:MGt) (rc:Int):MGt:=(m.1,true,false,true,m.2.2.2.2.1,true,opcF m.2.2.2.2.2.2.1,rcdF rc,[],[],[],[])
def X0p (a t:MGt):MGt:=bif (J9 a 512).2 != 0 then t else (J9 a 512).1
def V1l (m:MGt) (rc:Int) (an:List RRt):MGt:=X0p (ansM m rc an) (trnM m rc)
def V0q (m:MGt) (rc:Int) (an:List RRt):List UInt8:=bif decide (m.1=m.1) then bytM (V1l m rc an) else []
theorem J1q (m:MGt) (rc:Int) (an:List RRt):V0q m rc an=bytM (V1l m rc an):=by unfold V0q;rw[J0 rfl];rfl
def resK (m:MGt) (rc:Int) (an:List RRt):Bool:=smQf (mQ m)&&(smRf an&&okPM (ansM m rc an))
theorem Q4l (rc:Int):0≤rcdF rc∧rcdF rc≤15:=by
 unfold rcdF
 by_cases h:rc < 0
 ·rw[J0 h];show (0:Int)≤2∧(2:Int)≤15;decide
 ·by_cases h2:rc > 15
  ·rw[J1 h,J0 h2];show (0:Int)≤2∧(2:Int)≤15;decide
  ·rw[J1 h,J1 h2];exact⟨by show 0≤rc;omega,by show rc≤15;omega⟩
theorem X3u (op:Int):0≤opcF op∧opcF op≤15:=by
 unfold opcF
 by_cases h:op < 0
 ·rw[J0 h];show (0:Int)≤0∧(0:Int)≤15;decide
 ·by_cases h2:op > 15
  ·rw[J1 h,J0 h2];show (0:Int)≤0∧(0:Int)≤15;decide
  ·rw[J1 h,J1 h2];exact⟨by show 0≤op;omega,by show op≤15;omega⟩
theorem U52 (l:List QQt):(flQf l).any noQ=false:=by
 cases hb:(flQf l).any noQ with
 | false=>rfl
 | true=>
   obtain⟨q,hx,hn⟩:=List.any_eq_true.1 hb
   have h2:kpQf q=true:=(List.mem_filter.1 hx).2
   unfold kpQf at h2
   unfold noQ at hn
   rw[h2] at hn
   cases hn
theorem V4r (l:List RRt):(flRf l).any noR=false:=by
 cases hb:(flRf l).any noR with
 | false=>rfl
 | true=>
   obtain⟨q,hx,hn⟩:=List.any_eq_true.1 hb
   have h2:kpRf q=true:=(List.mem_filter.1 hx).2
   unfold kpRf at h2
   unfold noR at hn
   rw[h2] at hn
   cases hn
theorem Q2s {m:MGt} {rc:Int} {an:List RRt} (h:okPM (ansM m rc an)=true):Ze (ansM m rc an)=true:=by
 refine Q0g h ?_
 obtain⟨l1,l2,_,_⟩:=Jo.1 (Xt.1 h).2.2
 have l1:(flQf (mQ m)).length≤1500:=l1
 have l2:(flRf an).length≤1500:=l2
 obtain⟨r1,r2⟩:=Q4l rc
 obtain⟨o1,o2⟩:=X3u m.2.2.2.2.2.2.1
 show ((decide (0≤opcF m.2.2.2.2.2.2.1)&&(decide (opcF m.2.2.2.2.2.2.1≤15)&&(decide (0≤rcdF rc)&&decide (rcdF rc≤15))))&&(X07 (flQf (mQ m))&&(Qf (flRf an)&&(Qf []&&Qf []))))=true
 have h2:Qf []=true:=rfl
 have h3:X07 (flQf (mQ m))=true:=by
  unfold X07
  rw[U52,decide_eq_true (show (flQf (mQ m)).length≤65535 by omega)]
  rfl
 have h4:Qf (flRf an)=true:=by
  unfold Qf
  rw[V4r,decide_eq_true (show (flRf an).length≤65535 by omega)]
  rfl
 rw[h2,h3,h4,J0 o1,J0 o2,J0 r1,J0 r2]
 rfl
theorem J56 {m:MGt} (h:Ze m=true) (hb:bigM m=true):okPM m=true:=by
 unfold Ze at h
 rw[Bool.and_eq_true,Bool.and_eq_true] at h
 exact Xt.2 ⟨hb,h.2.1,h.2.2⟩
theorem J0i {m:MGt} (h:Ze m=true):mayM m=true:=(Bool.and_eq_true_iff.1 (show (mayM m&&(rngM m&&lesM m))=true from h)).1
theorem V3y {m:MGt} {rc:Int} (hi:n16C m.1=true):okPM (trnM m rc)=true:=ok_mk hi (Nat.zero_le _) (fun q h=>by cases h)
theorem X2q {m:MGt} {rc:Int} (hi:n16C m.1=true):Ze (trnM m rc)=true:=Q0g (V3y hi) (X63 (X3u _) (Q4l rc) (Nat.zero_le _) (fun q h=>by cases h))
theorem Q58 {a:MGt} (ha:Ze a=true) (h:(bytM a).length≤512):J9 a 512=(a,0):=by
 unfold J9
 rw[J0i ha,show szV 512=512 from rfl,J0 (show ((bytM a).length:Int)≤512 by omega)]
 rfl
theorem J55 {a:MGt} (ha:Ze a=true) (h:¬ (bytM a).length≤512):J9 a 512=bif (Zk a 512 (totM a)).2 then (noM,3) else ((Zk a 512 (totM a)).1,0):=by
 unfold J9
 rw[J0i ha,show szV 512=512 from rfl,J1 (show ¬ ((bytM a).length:Int)≤512 by omega)]
 rfl
theorem X0r {a:MGt} (t:MGt) (ha:Ze a=true):((bytM a).length≤512∧(J9 a 512).2=0∧(J9 a 512).1=a∧X0p a t=a)∨(∃ k,k < totM a∧¬ (bytM a).length≤512∧(J9 a 512).2=0∧(J9 a 512).1=cutA a k∧X0p a t=cutA a k∧(bytM (cutA a k)).length≤512)∨(¬ (bytM a).length≤512∧(Zk a 512 (totM a)).2=true∧(J9 a 512).2=3∧X0p a t=t):=by
 by_cases h:(bytM a).length≤512
 ·have e:=Q58 ha h
  refine .inl ⟨h,by rw[e],by rw[e],?_⟩
  unfold X0p;rw[e];rfl
 ·have e:=J55 ha h
  cases hc:(Zk a 512 (totM a)).2 with
  | true=>
    rw[hc] at e
    refine .inr (.inr ⟨h,rfl,by rw[e];rfl,?_⟩)
    unfold X0p;rw[e];rfl
  | false=>
    obtain⟨k,hk,e2,hle⟩:=U1u hc
    rw[hc,e2] at e
    refine .inr (.inl ⟨k,hk,h,by rw[e];rfl,by rw[e];rfl,?_,by omega⟩)
    unfold X0p;rw[e];rfl
theorem V3l {a t:MGt} (ha:okPM a=true) (hg:Ze a=true) (ht:Ze t=true) (hl:(bytM t).length≤512):Ze (X0p a t)=true∧(bytM (X0p a t)).length≤512:=by
 rcases X0r t hg with ⟨h,_,_,e⟩ | ⟨k,_,_,_,_,e,h⟩ | ⟨_,_,_,e⟩
 ·rw[e];exact⟨hg,h⟩
 ·rw[e];exact⟨(U1i hg k).1,h⟩
 ·rw[e];exact⟨ht,hl⟩
theorem U60 {a t:MGt} {Q:List QQt} {an:List RRt} {X:List UInt8} (hQ:smQf Q=true) (hA:smRf an=true) (ha:okPM a=true) (hg:Ze a=true) (hto:okPM t=true) (htg:Ze t=true) (hl:(bytM t).length≤512) (hX:X=bytM (X0p a t)):(Tr.br (fits (List.length Q) 24) (Tr.br (smQf Q) (Tr.br (fits (List.length an) 40) (Tr.br (smRf an) (Tr.br (okPM a) (Tr.br (Prod.snd (J9 a 512) != (0:Int)) (Tr.br (okPM t) (Tr.ret ([AV.str (putO t)],([]:List LObj))) Tr.no) (Tr.br (okPM (Prod.fst (J9 a 512))) (Tr.ret ([AV.str (putO (Prod.fst (J9 a 512)))],[])) Tr.no)) Tr.no) Tr.no) Tr.no) Tr.no) Tr.no).all fun r=>r=([.str X],[]):=by
 have n1:=Nat.le_of_ble_eq_true (Bool.and_eq_true_iff.1 hQ).1
 have n2:=Nat.le_of_ble_eq_true (Bool.and_eq_true_iff.1 hA).1
 refine Tr.all_t (U7 (by omega) (by omega)) (Tr.all_t hQ (Tr.all_t (U7 (by omega) (by omega)) (Tr.all_t hA (Tr.all_t ha ?_))))
 rcases X0r t hg with ⟨h,e1,e2,e⟩ | ⟨k,_,_,e1,e2,e,h⟩ | ⟨_,_,e1,e⟩
 ·rw[e] at hX
  refine Tr.all_f (by rw[e1];rfl) (Tr.all_t (by rw[e2];exact ha) (Tr.all_ret ?_))
  rw[e2,hX,J13,J35 (J0i hg) (by omega)]
 ·rw[e] at hX
  obtain⟨xg,xb⟩:=U1i hg k
  refine Tr.all_f (by rw[e1];rfl) (Tr.all_t (by rw[e2];exact J56 xg xb) (Tr.all_ret ?_))
  rw[e2,hX,J13,J35 (J0i xg) (by omega)]
 ·rw[e] at hX
  refine Tr.all_t (by rw[e1];rfl) (Tr.all_t hto (Tr.all_ret ?_))
  rw[hX,J13,J35 (J0i htg) (by omega)]
theorem Q3g (m:MGt) (rc:Int):(bytM (trnM m rc)).length=12:=rfl
def U5e:FSpec:=U5j.like fun(m,rc,an,_)=>.on (resK m rc an) (V0q m rc an,())
theorem Z5u:U5e.Ok Try.prog:=by
 refine Q3 V63 _ ?_
 rintro⟨(m:MGt),(rc:Int),(an:List RRt),_⟩ y h
 obtain⟨hc,rfl⟩:=Tr.get_on h
 have hc2:resK m rc an=true:=hc
 unfold resK at hc2
 rw[Bool.and_eq_true,Bool.and_eq_true] at hc2
 obtain⟨hQ,hA,hp⟩:=hc2
 have hg:=Q2s hp
 have hi:n16C m.1=true:=(Jh hg).2.1
 refine X3 (vs:=[.str (V0q m rc an)]) rfl rfl (Tr.get_of_all ?_)
 show (t30k m rc an).all _
 unfold t30k
 have hX:=J1q m rc an
 have hto:=V3y (rc:=rc) hi
 have htg:=X2q (rc:=rc) hi
 have hl:(bytM (trnM m rc)).length≤512:=by rw[Q3g];omega
 unfold V1l at hX
 have hr:∀ v,rcdF rc=v→∀ w,opcF m.2.2.2.2.2.2.1=w→∀ {T:Tr Res},T=(Tr.br (fits (List.length (mQ m)) 24) (Tr.br (smQf (mQ m)) (Tr.br (fits (List.length an) 40) (Tr.br (smRf an) (Tr.br (okPM (m.1,true,false,false,m.2.2.2.2.1,true,w,v,flQf (mQ m),flRf an,[],[])) (Tr.br (Prod.snd (J9 (m.1,true,false,false,m.2.2.2.2.1,true,w,v,flQf (mQ m),flRf an,[],[]) 512) != (0:Int)) (Tr.br (okPM (m.1,true,false,true,m.2.2.2.2.1,true,w,v,[],[],[],[])) (Tr.ret ([AV.str (putO (m.1,true,false,true,m.2.2.2.2.1,true,w,v,[],[],[],[]))],[])) Tr.no) (Tr.br (okPM (Prod.fst (J9 (m.1,true,false,false,m.2.2.2.2.1,true,w,v,flQf (mQ m),flRf an,[],[]) 512))) (Tr.ret ([AV.str (putO (Prod.fst (J9 (m.1,true,false,false,m.2.2.2.2.1,true,w,v,flQf (mQ m),flRf an,[],[]) 512)))],[])) Tr.no)) Tr.no) Tr.no) Tr.no) Tr.no) Tr.no)→T.all fun r=>r=([.str (V0q m rc an)],[]):=by
  rintro v rfl w rfl T rfl
  exact U60 hQ hA hp hg hto htg hl hX
 refine Tr.all_br (fun c1=>?_) (fun c1=>Tr.all_br (fun c2=>?_) (fun c2=>?_))
 ·have e:rcdF rc=2:=by unfold rcdF;rw[c1];rfl
  refine Tr.all_br (fun d1=>hr _ e 0 ?_ rfl) (fun d1=>Tr.all_br (fun d2=>hr _ e 0 ?_ rfl) (fun d2=>hr _ e m.2.2.2.2.2.2.1 ?_ rfl))
  ·unfold opcF;rw[d1];rfl
  ·unfold opcF;rw[d1,d2];rfl
  ·unfold opcF;rw[d1,d2];rfl
 ·have e:rcdF rc=2:=by unfold rcdF;rw[c1,c2];rfl
  refine Tr.all_br (fun d1=>hr _ e 0 ?_ rfl) (fun d1=>Tr.all_br (fun d2=>hr _ e 0 ?_ rfl) (fun d2=>hr _ e m.2.2.2.2.2.2.1 ?_ rfl))
  ·unfold opcF;rw[d1];rfl
  ·unfold opcF;rw[d1,d2];rfl
  ·unfold opcF;rw[d1,d2];rfl
 ·have e:rcdF rc=rc:=by unfold rcdF;rw[c1,c2];rfl
  refine Tr.all_br (fun d1=>hr _ e 0 ?_ rfl) (fun d1=>Tr.all_br (fun d2=>hr _ e 0 ?_ rfl) (fun d2=>hr _ e m.2.2.2.2.2.2.1 ?_ rfl))
  ·unfold opcF;rw[d1];rfl
  ·unfold opcF;rw[d1,d2];rfl
  ·unfold opcF;rw[d1,d2];rfl
def X5e:OSpec:={ f:=27,sh:=[],so:=[],F:=fun _ _=>.ret ([.bool true],[]) }
theorem ok27d:X5e.Ok Try.prog:=by
 rintro _ _ r h
 cases h
 exact V5t
noncomputable def b29:Code:=X5 c29 0
def ls29:LoopSpec:={ bid:=0,sh:=[.d (.list RR) false,.d (.int .i64) false],so:=[],F:=fun(l,i,_) _=>.on2 (decide (i=0)) (U0f (l.take 31)) (.exit 0,[.list RR l,.dead],[]) (.ret,[.list RR l,.bool false],[]) }
def r29 (l:List RRt) (i:Int):Tr (St⊕(Ex×St)):=.br (decide (i < (↑l.length:Int))) (.br (decide (i < 31)) (.br (decide (0≤i)) (.br (decide (i < (↑l.length:Int))) (.br (decide ((↑(List.length (l.getD i.toNat (Ty.dflt RR)).1):Int) > 300)) (.ret (.inr (.ret,stOf [0,2] [.list RR l,.bool false] []))) (.br (decide (0≤i)) (.br (decide (i < (↑l.length:Int))) (.br (decide ((↑(List.length (l.getD i.toNat (Ty.dflt RR)).2.2.2.2):Int) > 300)) (.ret (.inr (.ret,stOf [0,2] [.list RR l,.bool false] []))) (.ret (.inl (stOf [0,3] [.list RR l,.int .i64 (IntKind.wrap .i64 (i+1))] [])))) .no) .no)) .no) .no) (.ret (.inr (.exit 0,stOf [0,2] [.list RR l,.dead] [])))) (.ret (.inr (.exit 0,stOf [0,2] [.list RR l,.dead] [])))
theorem Q4t (lp:Lp) (l:List RRt) (i:Int):evC T0 (orcB [] []) lp b29 0 (stOf [0,3] [.list RR l,.int .i64 i] []) (V1 [0,3] [0,2] 0)=(r29 l i).get:=by kernel_rfl
theorem wf29 (l:List RRt) (I'':Int→Prop) (m'':Int→Nat) (r'':Ex×St) (h:∀ (i:Int),I'' i→(r29 l i).all fun x''=>x''=.inr r''∨∃ (i':Int),x''=.inl (stOf [0,3] [.list RR l,.int .i64 i'] [])∧I'' i'∧m'' i' < m'' i) (lp:Lp) (i:Int):I'' i→
    Z4 (fun st=>evC T0 (orcB [] []) lp b29 0 st (V1 [0,3] [0,2] 0)) (stOf [0,3] [.list RR l,.int .i64 i] [])=some r'':=
 Q5 (fun a'':Int=>stOf [0,3] [.list RR l,.int .i64 a''] []) (fun a''=>I'' a'') (fun a''=>m'' a'') r'' (fun a''=>r29 l a'')
  (fun a'' x hx=>(Q4t lp l a'').trans hx) (fun a'' ha=>Tr.all_mono (fun x'' hx=>hx.imp id fun⟨i',h1,h2,h3⟩=>⟨(i'),h1,h2,h3⟩) (h (a'') ha)) (i)
theorem Z3t {l:List RRt} {k n:Nat} (hk:k < l.length) (hn:k < n):U0f ((l.take n).drop k)=((decide ((l.getD k (Ty.dflt RR)).1.length≤300)&&decide ((l.getD k (Ty.dflt RR)).2.2.2.2.length≤300))&&U0f ((l.take n).drop (k+1))):=by
 rw[Qn (l:=l.take n) (k:=k) (by rw[List.length_take];omega) (Ty.dflt RR)]
 have:(l.take n).getD k (Ty.dflt RR)=l.getD k (Ty.dflt RR):=by
  rw[List.getD_eq_getElem?_getD,List.getElem?_take,if_pos hn,←List.getD_eq_getElem?_getD]
 rw[this]
 rfl
theorem U61:ls29.Ok T0 (orcB [] []) h29 0 0 b29:=by
 intro q'' hq'' x'' y'' r'' h
 obtain⟨(l:List RRt),(i:Int),_⟩:=x''
 obtain⟨hc,rfl⟩:=Tr.get_on2 h
 show Z4 (fun st=>evC T0 (orcB [] []) (lpN T0 (orcB [] []) h29 0 q'') b29 0 st (V1 [0,3] [0,2] 0)) (stOf [0,3] [.list RR l,.int .i64 i] [])=some ((bif U0f (l.take 31) then (.exit 0,[.list RR l,.dead],[]) else (.ret,[.list RR l,.bool false],[]):Ex×List AV×List LObj).1,stOf [0,2] (bif U0f (l.take 31) then (.exit 0,[.list RR l,.dead],[]) else (.ret,[.list RR l,.bool false],[]):Ex×List AV×List LObj).2.1 (bif U0f (l.take 31) then (.exit 0,[.list RR l,.dead],[]) else (.ret,[.list RR l,.bool false],[]):Ex×List AV×List LObj).2.2)
 have hc:=of_decide_eq_true hc
 subst hc
 refine wf29 l (fun i=>0≤i∧i≤l.length∧i≤31∧U0f ((l.take 31).drop i.toNat)=U0f (l.take 31)) (fun i=>(31 - i).toNat) _ ?_ _ 0 ⟨by omega,by omega,by omega,rfl⟩
 rintro i ⟨h0,h1,h2,he⟩
 unfold r29
 rw[IntWalk.i64_in (i+1) (by omega)]
 by_cases hi:i < l.length
 ·by_cases hj:i < 31
  ·rw[Z3t (by omega) (by omega)] at he
   generalize l.getD i.toNat (Ty.dflt RR)=x at *
   refine Tr.all_t (J0 hi) (Tr.all_t (J0 hj) (Tr.all_t (J0 h0) (Tr.all_t (J0 hi) ?_)))
   by_cases hx:x.1.length≤300
   ·by_cases hy:x.2.2.2.2.length≤300
    ·refine Tr.all_f (J1 (by omega)) (Tr.all_t (J0 h0) (Tr.all_t (J0 hi) (Tr.all_f (J1 (by omega)) (Tr.all_ret (.inr ⟨_,rfl,⟨by omega,by omega,by omega,?_⟩,by omega⟩)))))
     rw[←he,J0 hx,J0 hy,show (i+1).toNat=i.toNat+1 by omega]
     rfl
    ·rw[J1 hy,Bool.and_false,Bool.false_and] at he
     rw[←he]
     exact Tr.all_f (J1 (by omega)) (Tr.all_t (J0 h0) (Tr.all_t (J0 hi) (Tr.all_t (J0 (by omega)) (Tr.all_ret (.inl rfl)))))
   ·rw[J1 hx,Bool.false_and,Bool.false_and] at he
    rw[←he]
    exact Tr.all_t (J0 (by omega)) (Tr.all_ret (.inl rfl))
  ·have:i=31:=by omega
   subst this
   rw[List.drop_eq_nil_of_le (by rw[List.length_take];omega)] at he
   rw[←he]
   exact Tr.all_t (J0 hi) (Tr.all_f (J1 hj) (Tr.all_ret (.inl rfl)))
 ·rw[List.drop_eq_nil_of_le (by rw[List.length_take];omega)] at he
  rw[←he]
  exact Tr.all_f (J1 hi) (Tr.all_ret (.inl rfl))
def t29 (l:List RRt):Tr Res:=.br (U0f (List.take 31 l)) (.ret ([.bool (decide ((↑l.length:Int)≤30))],[])) (.ret ([.bool false],[]))
def os29:OSpec:={ f:=29,sh:=[.d (.list RR) false],so:=[],F:=fun(l,_) _=>t29 l }
theorem fn29 (l:List RRt):evC T0 (orcB [] []) (lpOf h29 0 (lsOf [ls29])) c29 1000000 (J2 [.list RR l] [] Try.f29.ntmps) (Z1 T0 false 0 Try.f29)=(t29 l).get:=by kernel_rfl
theorem ok29:os29.Ok Try.prog:=by
 refine U4 J3 tab0 (U0 all_nil all_nil) h29 (d:=0) (n0:=0) (S:=lsOf [ls29]) Try.func29 (by kernel_rfl) (c:=c29) (by kernel_rfl) rfl (U5 (xs:=[(0,b29)]) (by kernel_rfl) (all_cons (U6 U61) all_nil)) (by omega) (by kernel_rfl) ?_
 intro x'' y'' q'' hq''
 obtain⟨(l:List RRt),_⟩:=x''
 exact(fn29 l).trans hq''
def fs29:FSpec:=fsT 29 [((.list RR),false)] [(.bool,false)] fun(l,_)=>t29 l
theorem okf29:fs29.Ok Try.prog:=V5 fun x'' r'' hr''=>ok29 x'' () r'' hr''
def fewF (l:List RRt):Bool:=decide (l.length≤30)&&U0f l
def U5c:FSpec:=fs29.like fun(l,_)=>.ret (fewF l,())
theorem U5x:U5c.Ok Try.prog:=by
 refine Q3 okf29 _ ?_
 rintro⟨(l:List RRt),_⟩ y h
 cases h
 refine X3 (vs:=[.bool (fewF l)]) rfl rfl (Tr.get_of_all ?_)
 show (t29 l).all _
 unfold t29 fewF
 by_cases hl:l.length≤30
 ·rw[List.take_of_length_le (by omega),J0 hl]
  refine Tr.all_br (fun h=>Tr.all_ret ?_) (fun h=>Tr.all_ret ?_)
  ·rw[h,J0 (show (l.length:Int)≤30 by omega)];rfl
  ·rw[h];rfl
 ·rw[J1 hl]
  refine Tr.all_br (fun h=>Tr.all_ret ?_) (fun h=>Tr.all_ret rfl)
  rw[J1 (show ¬ (l.length:Int)≤30 by omega)]
  rfl
def rsT (m:MGt) (rc:Int) (an:List RRt):MGt×Int:=tkV6 (V0q m rc an)
theorem U4n {l:List RRt} (h:fewF l=true):l.length≤30∧(∀ r∈l,r.1.length≤300∧r.2.2.2.2.length≤300)∧(∀ r∈l,Zi r=true)∧okL l=true:=by
 unfold fewF at h
 rw[Bool.and_eq_true,decide_eq_true_eq] at h
 have h2:=U3w.1 h.2
 have h3:=Q13 (l:=l) (by omega) fun r hr=>by have:=h2 r hr;omega
 refine⟨h.1,h2,?_,h3⟩
 unfold okL at h3
 rw[Bool.and_eq_true,List.all_eq_true] at h3
 exact h3.2
theorem Z3c {l:List QQt} {q:QQt} (h:q∈flQf l):q∈l:=(List.mem_filter.1 h).1
theorem U3c {l:List RRt} {r:RRt} (h:r∈flRf l):r∈l:=(List.mem_filter.1 h).1
theorem X4d {g:MGt} {rc:Int} {an:List RRt} (hi:n16C g.1=true) (hQ:(mQ g).length≤1500) (hq:∀ q∈mQ g,q.1.length≤300) (hr:∀ q∈mQ g,rngQ q=true) (hA:an.length≤30) (ha:∀ r∈an,r.1.length≤300∧r.2.2.2.2.length≤300) (har:∀ r∈an,rngR r=true):resK g rc an=true:=by
 have l1:(flQf (mQ g)).length≤(mQ g).length:=List.length_filter_le _ _
 have l2:(flRf an).length≤an.length:=List.length_filter_le _ _
 have h1:okQ (mQ g)=true:=X2f (by omega) fun q h=>by have:=hq q h;omega
 have h2:okL an=true:=Q13 (by omega) fun r h=>by have:=ha r h;omega
 have h3:okQ (flQf (mQ g))=true:=X2f (by omega) fun q h=>by have:=hq q (Z3c h);omega
 have h4:okL (flRf an)=true:=Q13 (by omega) fun r h=>by have:=ha r (U3c h);omega
 have hp:okPM (ansM g rc an)=true:=by
  refine Xt.2 ⟨?_,?_,?_⟩
  ·show (okQ (flQf (mQ g))&&(okL (flRf an)&&(okL []&&okL [])))=true
   rw[h3,h4]
   rfl
  ·show (n16C g.1&&((flQf (mQ g)).all rngQ&&(flRf an++([]++[])).all rngR))=true
   rw[hi,List.all_eq_true.2 fun q h=>hr q (Z3c h),List.append_nil,List.append_nil,List.all_eq_true.2 fun r h=>har r (U3c h)]
   rfl
  ·exact Jo.2 ⟨by show (flQf (mQ g)).length≤1500;omega,by show (flRf an).length≤1500;omega,Nat.zero_le _,Nat.zero_le _⟩
 unfold resK
 rw[hp,show smQf (mQ g)=true from h1,show smRf an=true from h2]
 rfl
def m3T (q:QQt):MGt:=((3:Int),false,false,false,true,false,(0:Int),(0:Int),[q],[],[],[])
def m0T (q:QQt) (an:List RRt):MGt:=((0:Int),false,false,false,false,false,(0:Int),(0:Int),[q],an,[],[])
def drT (an:List RRt):List RRt:=List.take (Int.toNat (IntKind.wrap IntKind.i64 ((↑(List.length an):Int) - (1:Int))) - Int.toNat (0:Int)) (List.drop (Int.toNat (0:Int)) an)
def t10 (q:QQt) (an:List RRt):Tr Res:=.br (decide ((↑q.1.length:Int) > 300)) (.ret ([.bool true],[])) (.br (!fewF an) (.ret ([.bool true],[])) (.br ((↑an.length:Int)==0) (.ret ([.bool true],[])) (.br (resK (m3T q) 0 an) (.br (smS (V0q (m3T q) 0 an)) (.br (decide (0≤IntKind.wrap .i64 ((↑an.length:Int) - 1))&&decide (IntKind.wrap .i64 ((↑an.length:Int) - 1)≤(↑an.length:Int))) (.br (decide (0≤0)&&decide (0≤IntKind.wrap .i64 ((↑an.length:Int) - 1))) (.br (resK (m3T q) 0 (drT an)) (.br (smS (V0q (m3T q) 0 (drT an))) (.br (okPM (m0T q an)) (.br ((rsT (m3T q) 0 an).2==0) (.br ((rsT (m3T q) 0 (drT an)).2==0) (.br (rsT (m3T q) 0 an).1.2.2.2.1 (.br (!(rsT (m3T q) 0 (drT an)).1.2.2.2.1) (.br (!(rsT (m3T q) 0 an).1.2.2.2.1) (.ret ([.bool true],[])) (.br ((putV (m0T q an)).2 != 0) (.ret ([.bool true],[])) (.ret ([.bool (decide ((↑(List.length (putO (m0T q an))):Int) > 512))],[])))) (.br (rsT (m3T q) 0 an).1.2.2.2.1 (.br (!(rsT (m3T q) 0 an).1.2.2.2.1) (.ret ([.bool true],[])) (.br ((putV (m0T q an)).2 != 0) (.ret ([.bool true],[])) (.ret ([.bool (decide ((↑(List.length (putO (m0T q an))):Int) > 512))],[])))) (.ret ([.bool false],[])))) (.br (decide ((↑(List.length (rsT (m3T q) 0 an).1.2.2.2.2.2.2.2.2.2.1):Int)≥(↑(List.length (rsT (m3T q) 0 (drT an)).1.2.2.2.2.2.2.2.2.2.1):Int))) (.br (!(rsT (m3T q) 0 (drT an)).1.2.2.2.1) (.br (!(rsT (m3T q) 0 an).1.2.2.2.1) (.ret ([.bool true],[])) (.br ((putV (m0T q an)).2 != 0) (.ret ([.bool true],[])) (.ret ([.bool (decide ((↑(List.length (putO (m0T q an))):Int) > 512))],[])))) (.br (rsT (m3T q) 0 an).1.2.2.2.1 (.br (!(rsT (m3T q) 0 an).1.2.2.2.1) (.ret ([.bool true],[])) (.br ((putV (m0T q an)).2 != 0) (.ret ([.bool true],[])) (.ret ([.bool (decide ((↑(List.length (putO (m0T q an))):Int) > 512))],[])))) (.ret ([.bool false],[])))) (.ret ([.bool false],[])))) (.ret ([.bool false],[]))) (.ret ([.bool false],[]))) .no) .no) .no) .no) .no) .no) .no)))
def os10:OSpec:={ f:=10,sh:=[.d QQ true,.d (.list RR) false],so:=[],F:=fun(q,an,_) _=>t10 q an }
theorem fn10 (q:QQt) (an:List RRt):evC T0 (orcB [U5c,U5e,U5h,J3u] [X5e]) (lpOf h10 0 (lsOf [])) c10 1000000 (J2 [AV.ofTy QQ q true,.list RR an] [] Try.f10.ntmps) (Z1 T0 false 0 Try.f10)=(t10 q an).get:=by kernel_rfl
theorem ok10:os10.Ok Try.prog:=by
 refine U4 J3 tab0 (U0 (all_cons U5x (all_cons Z5u (all_cons Q62 (all_cons Q43 all_nil)))) (all_cons ok27d all_nil)) h10 (d:=0) (n0:=0) (S:=lsOf []) Try.func10 (by kernel_rfl) (c:=c10) (by kernel_rfl) rfl (V3 (by kernel_rfl)) (by omega) (by kernel_rfl) ?_
 intro x'' y'' q'' hq''
 obtain⟨(q:QQt),(an:List RRt),_⟩:=x''
 exact(fn10 q an).trans hq''
theorem U3n (q:QQt) {p p':PKt} (hl:p.1.length=p'.1.length) (hk:p.2=p'.2):(putQ q p).1.length=(putQ q p').1.length∧(putQ q p).2=(putQ q p').2:=by
 obtain⟨T,L',h1,h2⟩:=V0u q.1 p.1 p'.1 p.2 hl
 rw[hk] at h2
 unfold putQ
 rw[h1,h2]
 refine⟨?_,rfl⟩
 simp only[List.length_append,hl]
theorem Z3j (r:RRt) {p p':PKt} (hl:p.1.length=p'.1.length) (hk:p.2=p'.2):(recP r p).1.length=(recP r p').1.length∧(recP r p).2=(recP r p').2∧p.1.length≤(recP r p).1.length:=by
 obtain⟨T,L',h1,h2⟩:=V0u r.1 p.1 p'.1 p.2 hl
 rw[hk] at h2
 have s1:S1R r p=p.1++T++hdR r++[0,0]:=by unfold S1R;rw[h1]
 have s2:S1R r p'=p'.1++T++hdR r++[0,0]:=by unfold S1R;rw[h2]
 have hs:(S1R r p).length=(S1R r p').length:=by rw[s1,s2];simp only[List.length_append,hl]
 obtain⟨U,L2,e1,e2⟩:=Z0n (layV r.2.1) (Vb r.2.1 r.2.2.2.2) (S1R r p) (S1R r p') L' hs
 have p1:p2R r p=(S1R r p++U,L2):=by unfold p2R putR;rw[h1];exact e1
 have p2:p2R r p'=(S1R r p'++U,L2):=by unfold p2R putR;rw[h2];exact e2
 have g2:2≤(S1R r p).length:=by rw[s1];simp only[List.length_append,List.length_cons,List.length_nil];omega
 have gp:p.1.length≤(S1R r p).length:=by rw[s1];simp only[List.length_append];omega
 have c1:(clV (S1R r p++U) (S1R r p).length).length=(S1R r p++U).length:=V2h g2 (by rw[List.length_append];omega)
 have c2:(clV (S1R r p'++U) (S1R r p').length).length=(S1R r p'++U).length:=V2h (by omega) (by rw[List.length_append];omega)
 unfold recP
 rw[p1,p2]
 refine⟨?_,rfl,?_⟩
 ·show (clV (S1R r p++U) (S1R r p).length).length=(clV (S1R r p'++U) (S1R r p').length).length
  rw[c1,c2,List.length_append,List.length_append,hs]
 ·show p.1.length≤(clV (S1R r p++U) (S1R r p).length).length
  rw[c1,List.length_append]
  omega
theorem J0r:∀ (l:List QQt) {p p':PKt},p.1.length=p'.1.length→p.2=p'.2→(V7 l p).1.length=(V7 l p').1.length∧(V7 l p).2=(V7 l p').2
 | [],_,_,h1,h2=>⟨h1,h2⟩
 | q::l,p,p',h1,h2=>by
   obtain⟨a,b⟩:=U3n q h1 h2
   exact J0r l a b
theorem J0c:∀ (l:List RRt) {p p':PKt},p.1.length=p'.1.length→p.2=p'.2→(Z5 l p).1.length=(Z5 l p').1.length∧(Z5 l p).2=(Z5 l p').2∧p.1.length≤(Z5 l p).1.length
 | [],_,_,h1,h2=>⟨h1,h2,Nat.le_refl _⟩
 | r::l,p,p',h1,h2=>by
   obtain⟨a,b,c⟩:=Z3j r h1 h2
   obtain⟨d,e,f⟩:=J0c l a b
   exact⟨d,e,Nat.le_trans c f⟩
theorem Z27:∀ (l l':List RRt) (p:PKt),Z5 (l++l') p=Z5 l' (Z5 l p)
 | [],_,_=>rfl
 | r::l,l',p=>by rw[List.cons_append,Z5,Z5,Z27]
theorem U44 {m m':MGt} (hQ:mQ m=mQ m') (hR:Qq m=Qq m'):(bytM m).length=(bytM m').length:=by
 unfold bytM bytP
 rw[hQ,hR]
 obtain⟨a,b⟩:=J0r (mQ m') (p:=(J7 m,[])) (p':=(J7 m',[])) rfl rfl
 exact(J0c _ a b).1
theorem Z4j {m m':MGt} {l:List RRt} (hQ:mQ m=mQ m') (hR:Qq m'=Qq m++l):(bytM m).length≤(bytM m').length:=by
 unfold bytM bytP
 rw[hQ,hR,Z27]
 obtain⟨a,b⟩:=J0r (mQ m') (p:=(J7 m,[])) (p':=(J7 m',[])) rfl rfl
 obtain⟨c,d,_⟩:=J0c (Qq m) a b
 obtain⟨_,_,f⟩:=J0c l c.symm d.symm
 omega
theorem Z2m {g:MGt} {rc:Int} {an:List RRt} (h:okPM (ansM g rc an)=true):∃ (tc:Bool) (Q:List QQt) (n:Nat),n≤(flRf an).length∧(tc=false→n=(flRf an).length∧(bytM (ansM g rc an)).length≤512)∧(tc=true→¬ (bytM (ansM g rc an)).length≤512)∧rsT g rc an=((g.1,true,false,tc,g.2.2.2.2.1,true,opcF g.2.2.2.2.2.2.1,rcdF rc,Q,(flRf an).take n,[],[]),0)∧(V0q g rc an).length≤512:=by
 have hg:=Q2s h
 have hi:n16C g.1=true:=(Jh hg).2.1
 obtain⟨pg,pl⟩:=V3l h hg (X2q (rc:=rc) hi) (by rw[Q3g];omega)
 have e:rsT g rc an=(V1l g rc an,0):=by unfold rsT;rw[J1q];exact(X3v pg).1
 have hl:(V0q g rc an).length≤512:=by rw[J1q];exact pl
 rcases X0r (trnM g rc) hg with ⟨hle,_,_,e2⟩ | ⟨k,_,hle,_,_,e2,_⟩ | ⟨hle,_,_,e2⟩
 ·refine⟨false,flQf (mQ g),(flRf an).length,Nat.le_refl _,fun _=>⟨rfl,hle⟩,fun h=>(by cases h),?_,hl⟩
  rw[e,show V1l g rc an=ansM g rc an from e2,List.take_length]
  rfl
 ·refine⟨true,flQf (mQ g),min k (flRf an).length,Nat.min_le_right _ _,fun h=>(by cases h),fun _=>hle,?_,hl⟩
  rw[e,show V1l g rc an=cutA (ansM g rc an) k from e2]
  show ((g.1,true,false,true,g.2.2.2.2.1,true,opcF g.2.2.2.2.2.2.1,rcdF rc,flQf (mQ g),(flRf an).take k,([]:List RRt).take _,([]:List RRt).take _),(0:Int))=_
  rw[List.take_nil,List.take_nil,←List.take_take,List.take_length]
 ·refine⟨true,[],0,Nat.zero_le _,fun h=>(by cases h),fun _=>hle,?_,hl⟩
  rw[e,show V1l g rc an=trnM g rc from e2]
  rfl
theorem V5h {g:MGt} {rc:Int} {an:List RRt} (h:resK g rc an=true):okPM (ansM g rc an)=true:=by
 unfold resK at h
 rw[Bool.and_eq_true,Bool.and_eq_true] at h
 exact h.2.2
theorem frontTruncates_all (q:QQt) (an:List RRt) (h1:okT QQ q) (h2:okT (.list RR) an):(t10 q an).all fun r=>r=([.bool true],[]):=by
 unfold t10
 refine Tr.all_br (fun _=>Tr.all_ret rfl) fun c1=>Tr.all_br (fun _=>Tr.all_ret rfl) fun c2=>Tr.all_br (fun _=>Tr.all_ret rfl) fun c3=>?_
 have c1:=of_decide_eq_false c1
 have c2:fewF an=true:=by simpa using c2
 have c3:¬ (an.length:Int)=0:=by simpa using c3
 obtain⟨la,ha,_,hLa⟩:=U4n c2
 have hqr:=U47 h1
 have har:=List.all_eq_true.1 (Z4c h2)
 have q1:∀ x∈mQ (m3T q),x.1.length≤300:=fun x hx=>by rw[List.mem_singleton.1 hx];omega
 have q2:∀ x∈mQ (m3T q),rngQ x=true:=fun x hx=>by rw[List.mem_singleton.1 hx];exact hqr
 have hd:drT an=an.take (an.length - 1):=by
  unfold drT
  rw[IntWalk.i64_in _ (by omega),show Int.toNat ((an.length:Int) - 1) - Int.toNat 0=an.length - 1 by omega]
  rfl
 have hdl:(drT an).length≤30:=by rw[hd,List.length_take];omega
 have hdm:∀ r∈drT an,r∈an:=fun r hr=>by rw[hd] at hr;exact List.mem_of_mem_take hr
 have hres1:resK (m3T q) 0 an=true:=X4d rfl (by show [q].length≤1500;simp) q1 q2 la ha har
 have hres2:resK (m3T q) 0 (drT an)=true:=X4d rfl (by show [q].length≤1500;simp) q1 q2 hdl (fun r hr=>ha r (hdm r hr)) (fun r hr=>har r (hdm r hr))
 have hp0:okPM (m0T q an)=true:=by
  refine Xt.2 ⟨?_,?_,?_⟩
  ·show (okQ [q]&&(okL an&&(okL []&&okL [])))=true
   rw[hLa,X2f (l:=[q]) (by simp) (fun x hx=>by have:=q1 x hx;omega)]
   rfl
  ·show (n16C 0&&([q].all rngQ&&(an++([]++[])).all rngR))=true
   rw[List.append_nil,List.append_nil,List.all_eq_true.2 har,show [q].all rngQ=true from List.all_eq_true.2 q2]
   rfl
  ·exact Jo.2 ⟨by show [q].length≤1500;simp,by show an.length≤1500;omega,Nat.zero_le _,Nat.zero_le _⟩
 have hp1:=V5h hres1
 have hp2:=V5h hres2
 obtain⟨tc1,Q1,n1,a1,b1,d1,X1,l1⟩:=Z2m hp1
 obtain⟨tc2,Q2,n2,a2,b2,d2,X2,l2⟩:=Z2m hp2
 have hsplit:flRf an=flRf (drT an)++flRf (an.drop (an.length - 1)):=by
  unfold flRf
  rw[hd,←List.filter_append,List.take_append_drop]
 have hmono:(bytM (ansM (m3T q) 0 (drT an))).length≤(bytM (ansM (m3T q) 0 an)).length:=by
  refine Z4j (l:=flRf (an.drop (an.length - 1))) rfl ?_
  show flRf an++([]++[])=(flRf (drT an)++([]++[]))++_
  rw[List.append_nil,List.append_nil,List.append_nil]
  exact hsplit
 have hll:(flRf (drT an)).length≤(flRf an).length:=by rw[hsplit,List.length_append];omega
 rw[X1,X2]
 dsimp only
 refine Tr.all_t hres1 (Tr.all_t (decide_eq_true (by omega)) (Tr.all_t (by rw[IntWalk.i64_in _ (by omega),J0 (by omega),J0 (by omega)];rfl) (Tr.all_t (by rw[IntWalk.i64_in _ (by omega),J0 (by omega),J0 (by omega)];rfl) (Tr.all_t hres2 (Tr.all_t (decide_eq_true (by omega)) (Tr.all_t hp0 (Tr.all_t rfl (Tr.all_t rfl ?_))))))))
 cases htc:tc1 with
 | true=>
   have hbig:¬ (bytM (ansM (m3T q) 0 an)).length≤512:=d1 htc
   have tail:∀ {T:Tr Res},T=(Tr.br (Prod.snd (putV (m0T q an)) != (0:Int)) (Tr.ret ([AV.bool true],[])) (Tr.ret ([AV.bool (decide ((↑(List.length (putO (m0T q an))):Int) > (512:Int)))],[])))→T.all fun r=>r=([.bool true],[]):=by
    rintro T rfl
    refine Tr.all_br (fun _=>Tr.all_ret rfl) fun c=>Tr.all_ret ?_
    have c:(putV (m0T q an)).2=0:=by simpa using c
    rcases U2y hp0 with ⟨_,e⟩ | ⟨_,e⟩ | ⟨g0,_,e⟩
    ·rw[e] at c;cases c
    ·rw[e] at c;cases c
    ·obtain⟨_,_,_,fq,fr,_⟩:=Jh g0
     have e1:flQf [q]=[q]:=List.filter_eq_self.2 fun x hx=>by
      have:=List.all_eq_true.1 fq x hx
      exact(Bool.and_eq_true_iff.1 (show (mayV x.1&&rngQ x)=true from this)).1
     have e2:flRf an=an:=List.filter_eq_self.2 fun r hr=>by
      have:=List.all_eq_true.1 fr r (List.mem_append_left _ hr)
      exact(Bool.and_eq_true_iff.1 (show (recV r&&rngR r)=true from this)).1
     have hlen:(bytM (ansM (m3T q) 0 an)).length=(bytM (m0T q an)).length:=by
      refine U44 e1 ?_
      show flRf an++([]++[])=an++([]++[])
      rw[e2]
     rw[J13,e]
     rw[J0 (show ((bytM (m0T q an)).length:Int) > 512 by omega)]
   refine Tr.all_t rfl ?_
   cases tc2 with
   | true=>exact Tr.all_f rfl (Tr.all_t rfl (Tr.all_f rfl (tail rfl)))
   | false=>exact Tr.all_t rfl (Tr.all_f rfl (tail rfl))
 | false=>
   obtain⟨hn,hsm⟩:=b1 htc
   have ht2:tc2=false:=by
    cases h:tc2 with
    | false=>rfl
    | true=>exact absurd (Nat.le_trans hmono hsm) (d2 h)
   subst ht2
   refine Tr.all_f rfl (Tr.all_t (J0 ?_) (Tr.all_t rfl (Tr.all_t rfl (Tr.all_ret rfl))))
   rw[List.length_take,List.length_take]
   omega
theorem sem10 (q:QQt) (an:List RRt) (h1:okT QQ q) (h2:okT (.list RR) an):SemF Try.prog 10 [AV.ofTy QQ q true,.list RR an] [] [.bool true] []:=
 ok10 (q,an,()) () ([.bool true],[]) (Tr.get_of_all (frontTruncates_all q an h1 h2))
end Go.Proofs.YtpledbapngdkeaaE
namespace Go.Proofs.Ytpledbapngdkeaa.frontTruncates
open Go.ChangeShapes Go.WideShapes Go.ChangeAt Go.RowKit Go.Proofs.YtpledbapngdkeaaE
open Go.ChangeMaps (open_string shut_string)
set_option linter.unusedVariables false
theorem own : ownKnob Try.prog.godebug = none := by kernel_rfl
theorem laidOut : laidOutB Try.prog = true := by kernel_rfl
set_option maxRecDepth 100000 in
theorem lifted (os : Os) (started : os.Started) (H : Type) (enc : TypeId × Value → H) :
    ReturnsInHanded {} Try.checked os 10 .any (Rows.frontTruncatesSpec.pre6 enc Try.prog Try.f10 Rows.frontTruncatesRow.domain false) (Rows.frontTruncatesSpec.post enc Try.prog Try.f10 false true false false) := by
  refine returnsInHanded_of_change_sized (C := Try.checked) own started (by kernel_rfl) Try.func10
    (ChangeSpec.witness6 (enc := enc) (C := Try.checked) false ⟨#[], #[.agg #[.string ByteArray.empty, .int .u16 0, .int .u16 0], .slice none 0 0], []⟩ 8 (by kernel_rfl) (by kernel_rfl) (by kernel_rfl) (by kernel_rfl)) ?_
  intro W base args ds gs before hval0 hW hcnd hsz0 _
  have hsz : ∀ n ∈ DataW.weightsEach Try.prog (Try.f10.params.toList ++ Rows.frontTruncatesSpec.plain.varTypes Try.prog) (ds ++ gs), n ≤ reachBytes := fun n hn => of_decide_eq_true (List.all_eq_true.1 hsz0 n hn)
  have hval : ∀ (j : Nat) t v, Try.f10.params[j]? = some t → args[j]? = some v → Value.okWide Try.prog W .any base t v := hval0
  have hW' := hW
  obtain ⟨p, q, hA0, hV, rfl, hfz, hnd⟩ := hW
  have hA : DataW.TrodAll enc Try.prog W 0 (fun _ => true) true Try.f10.params.toList args.toList ds p := hA0
  rw [Try.params10] at hA hval hsz
  obtain ⟨v0, vs0, d0, ds0, p0, q0, hargs, rfl, rfl, k0, r0⟩ := trodAll_cons hA
  obtain ⟨v1, vs1, d1, ds1, p1, q1, rfl, rfl, rfl, k1, r1⟩ := trodAll_cons r0
  obtain ⟨rfl, rfl, rfl⟩ := trodAll_nil r1
  obtain rfl : args = #[v0, v1] := by cases args; simp_all
  obtain ⟨rfl, rfl⟩ := trodVars_none hV
  have lt0 : ∀ x ∈ p0, x.block < W.heap.size := by obtain ⟨m, hm⟩ := k0; exact DataW.trod_lt m _ _ _ hm
  obtain ⟨x0, e0, w0, b0⟩ := Q2q (n := 8) (τ := (.pair .str (.pair (.int .u16) (.int .u16)))) (agg := true) (by kernel_rfl) (hval 0 27 v0 rfl rfl) k0 (fun n hn => hsz n (DataW.weights_mem_each (j := 0) (t := 27) rfl rfl n hn)) (by kernel_rfl)
  have lt1 : ∀ x ∈ p1, x.block < W.heap.size := by obtain ⟨m, hm⟩ := k1; exact DataW.trod_lt m _ _ _ hm
  obtain ⟨x1, e1, w1, b1⟩ := Q2q (n := 8) (τ := (.list (.pair .str (.pair (.int .u16) (.pair (.int .u16) (.pair (.int .u32) .str)))))) (agg := false) (by kernel_rfl) (hval 1 61 v1 rfl rfl) k1 (fun n hn => hsz n (DataW.weights_mem_each (j := 1) (t := 61) rfl rfl n hn)) (by kernel_rfl)
  clear hA0 hval0 hsz0 hsz
  refine (X3i ((fun x0 x1 w0 w1 => sem10 x0 x1 w0 w1) x0 x1 w0 w1) W (vs := [v0, v1]) ?_).mono fun e W' ⟨he, bel⟩ => ?_
  · simp only [Z2]
    exact ⟨_, _, rfl, e0, ⟨_, _, rfl, e1, rfl⟩⟩
  subst he
  exact ⟨_, rfl, _, _, _, [], _, [], hW', trodAll_mk1 (shut_bool Try.underlying4 _), (trodAll_cons_mk (Below.trod laidOut (by kernel_rfl) (of_decide_eq_true (by kernel_rfl)) k0 bel lt0) (trodAll_cons_mk (Below.trod laidOut (by kernel_rfl) (of_decide_eq_true (by kernel_rfl)) k1 bel lt1) trodAll_mk0)), rfl, bel.frame _, fun h => by cases h⟩
theorem over : Rows.frontTruncatesRow.holds Try.pinned (OpenSpec.ofChange Rows.frontTruncatesSpec) :=
  OpenClaim.holds_of_wide 10 Try.f10 rfl rfl rfl rfl rfl rfl rfl ⟨rfl, rfl, rfl, rfl, rfl⟩ rfl rfl rfl rfl rfl (by kernel_rfl) Try.func10 (by kernel_rfl)
    (of_decide_eq_true (by kernel_rfl)) (by unfold Func.isWrapper; first | (rw [if_pos (by decide +kernel)]; kernel_rfl) | (rw [if_neg (by decide +kernel)]; exact ⟨rfl, rfl⟩))
    (fun os started H enc _ => lifted os started H enc)
theorem proved : Rows.FrontTruncatesSaid := over
end Go.Proofs.Ytpledbapngdkeaa.frontTruncates
namespace Go.Proofs.Ytpledbapngdkeaa
/-- The row, under a short name, for the claim. -/
theorem frontTruncates_holds : Rows.FrontTruncatesSaid := frontTruncates.proved
#print axioms frontTruncates_holds
end Go.Proofs.Ytpledbapngdkeaa
