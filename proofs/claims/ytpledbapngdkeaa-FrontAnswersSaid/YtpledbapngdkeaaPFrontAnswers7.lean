import Derived.Test.YtpledbapngdkeaaPFrontAnswers6
import Derived.Test.YtpledbapngdkeaaRows
import Derived.WalkKit
import Derived.ProofKit
import Derived.OpenShut
import Derived.ShutString
import Derived.ChangeOld
import Derived.Below
import Derived.Carry
import Derived.SizedLaws
set_option maxRecDepth 1000000
namespace Go.Proofs.YtpledbapngdkeaaE
open Go Go.Proofs.YtpledbapngdkeaaB
set_option linter.unusedVariables false
set_option linter.unusedSimpArgs false
def flN {α:Type} (p:α→Bool):List α→Nat→Int
 | [],_=>-1
 | x::l,k=>if p x=true then flN p l (k+1) else (k:Int)
theorem J2e {α:Type} (p:α→Bool):∀ (l:List α) (k:Nat),flN p l k=-1∨(k:Int)≤flN p l k
 | [],_=>.inl rfl
 | x::l,k=>by
   unfold flN
   split
   ·rcases J2e p l (k+1) with h | h
    ·exact .inl h
    ·exact .inr (by omega)
   ·exact .inr (Int.le_refl _)
theorem V1m {α:Type} (p:α→Bool):∀ (l:List α) (k:Nat),(flN p l k=-1∧l.filter p=l)∨∃ j,j < l.length∧flN p l k=((k+j:Nat):Int)∧(l.take (j+1)).filter p=l.take j
 | [],_=>.inl ⟨rfl,rfl⟩
 | x::l,k=>by
   unfold flN
   by_cases h:p x=true
   ·rw[if_pos h]
    rcases V1m p l (k+1) with ⟨h1,h2⟩ | ⟨j,h1,h2,h3⟩
    ·refine .inl ⟨h1,?_⟩
     rw[List.filter_cons_of_pos h,h2]
    ·refine .inr ⟨j+1,by simpa using h1,by rw[h2];omega,?_⟩
     rw[List.take_succ_cons,List.take_succ_cons,List.filter_cons_of_pos h,h3]
   ·rw[if_neg h]
    refine .inr ⟨0,by simp,by simp,?_⟩
    rw[List.take_succ_cons,List.take_zero,List.take_zero,List.filter_cons_of_neg h]
    rfl
def dlN {α:Type} (p:α→Bool) (l:List α) (j:Nat):List α:=(l.take j).filter p++l.drop ((l.take j).filter p).length
theorem V04 {α:Type} {p:α→Bool} {l:List α} {j:Nat} (hj:j < l.length) (d:α):(l.take (j+1)).filter p=(l.take j).filter p++if p (l.getD j d)=true then [l.getD j d] else []:=by
 have hg:l.getD j d=l[j]:=by rw[List.getD_eq_getElem?_getD,List.getElem?_eq_getElem hj];rfl
 rw[hg,List.take_succ_eq_append_getElem hj,List.filter_append]
 congr 1
 by_cases h:p l[j]=true
 ·rw[if_pos h,List.filter_cons_of_pos h];rfl
 ·rw[if_neg h,List.filter_cons_of_neg h];rfl
theorem V2c {α:Type} (p:α→Bool) (l:List α) (j:Nat):((l.take j).filter p).length≤j:=by
 have:=List.length_filter_le p (l.take j)
 rw[List.length_take] at this
 omega
theorem Z3b {α:Type} {p:α→Bool} {l:List α} {j:Nat} (hj:j≤l.length):(dlN p l j).length=l.length:=by
 have:=V2c p l j
 unfold dlN
 rw[List.length_append,List.length_drop]
 omega
theorem Z3d {α:Type} {p:α→Bool} {l:List α} {j:Nat} (hj:j < l.length) (d:α):(dlN p l j).getD j d=l.getD j d:=by
 have:=V2c p l j
 unfold dlN
 rw[List.getD_eq_getElem?_getD,List.getElem?_append_right this,List.getElem?_drop,List.getD_eq_getElem?_getD]
 congr 2
 omega
theorem U3g {α:Type} {p:α→Bool} {l:List α} {j:Nat} (hj:j < l.length) (d:α) (h:p (l.getD j d)=true):(dlN p l j).set ((l.take j).filter p).length (l.getD j d)=dlN p l (j+1):=by
 have:=V2c p l j
 unfold dlN
 rw[V04 hj d,if_pos h,List.length_append,List.length_singleton,List.set_append_right _ _ (Nat.le_refl _),Nat.sub_self,Zd (l:=l) (k:=((l.take j).filter p).length) (by omega) d]
 simp
theorem Q3g {α:Type} {p:α→Bool} {l:List α} {j:Nat} (hj:j < l.length) (d:α) (h:p (l.getD j d)=false):dlN p l (j+1)=dlN p l j:=by
 unfold dlN
 rw[V04 hj d,if_neg (by rw[h];simp),List.append_nil]
def kpQf (x:QQt):Bool:=mayV x.1
def fxQf (l:List QQt):Int:=flN kpQf l 0
def flQf (l:List QQt):List QQt:=l.filter kpQf
def smQf (l:List QQt):Bool:=Nat.ble l.length 1000000&&l.all bigQ
def fcQf (l:List QQt) (m i:Int):Bool:=smQf l&&(decide (m=(l.length:Int))&&decide (i=0))
def t58k (x:QQt):Tr Res:=.br (bigS x.1) (.ret ([.bool !mayV x.1],[])) .no
def V5l:OSpec:={ f:=58,sh:=[.d QQ true],so:=[],F:=fun(x,_) _=>t58k x }
theorem fn58k (x:QQt):evC T0 (orcB [U27,U09] []) (lpOf h58 0 (lsOf [])) c58 1000000 (U1 [AV.ofTy QQ x true] [] Try.f58.ntmps) (X1 T0 false 0 Try.f58)=(t58k x).get:=by kernel_rfl
theorem ok58k:V5l.Ok Try.prog:=by
 refine Z4 V2 tab0 (Q0 (all_cons J1w (all_cons U0q all_nil)) all_nil) h58 (d:=0) (n0:=0) (S:=lsOf []) Try.func58 (by kernel_rfl) (c:=c58) (by kernel_rfl) rfl (J3 (by kernel_rfl)) (by omega) (by kernel_rfl) ?_
 intro x'' y'' q'' hq''
 obtain⟨(x:QQt),_⟩:=x''
 exact(fn58k x).trans hq''
def Z09:OSpec:=V5l.like fun(x,_) _=>.on (bigQ x) ([.bool (!kpQf x)],[])
theorem X5d:Z09.Ok Try.prog:=by
 refine Xe ok58k _ ?_
 rintro⟨(x:QQt),_⟩ _ r' h
 obtain⟨hb,rfl⟩:=Tr.get_on h
 refine Tr.get_of_all ?_
 show (t58k x).all _
 unfold t58k
 exact Tr.all_t hb (Tr.all_ret rfl)
noncomputable def b81k:Code:=V4 c81 0
def Z3y:LoopSpec:={ bid:=0,sh:=[.d (.list QQ) false,.fnp 58 [],.d (.int .i64) false,.d (.int .i64) false],so:=[],F:=fun(l,m,i,_) _=>.on2 (fcQf l m i) (decide (fxQf l < 0)) (.exit 0,[.dead],[]) (.ret,[.int .i64 (fxQf l)],[]) }
def r81k (l:List QQt) (m i:Int):Tr (St⊕(Ex×St)):=.br (decide (i < m)) (.br (decide (0≤i)) (.br (decide (i < (↑l.length:Int))) (.br (bigQ (l.getD i.toNat (Ty.dflt QQ))) (.br (!kpQf (l.getD i.toNat (Ty.dflt QQ))) (.ret (.inr (.ret,stOf [4] [.int .i64 i] []))) (.ret (.inl (stOf [0,1,7,8] [.list QQ l,AV.fn 58 [],.int .i64 m,.int .i64 (IntKind.wrap .i64 (i+1))] [])))) .no) .no) .no) (.ret (.inr (.exit 0,stOf [4] [.dead] [])))
theorem U4l (lp:Lp) (l:List QQt) (m i:Int):evC T0 (orcB [] [Z09]) lp b81k 0 (stOf [0,1,7,8] [.list QQ l,.fn 58 [],.int .i64 m,.int .i64 i] []) (Z1 [0,1,7,8] [4] 0)=(r81k l m i).get:=by kernel_rfl
theorem wf81k (l:List QQt) (m:Int) (I'':Int→Prop) (m'':Int→Nat) (r'':Ex×St) (h:∀ (i:Int),I'' i→(r81k l m i).all fun x''=>x''=.inr r''∨∃ (i':Int),x''=.inl (stOf [0,1,7,8] [.list QQ l,.fn 58 [],.int .i64 m,.int .i64 i'] [])∧I'' i'∧m'' i' < m'' i) (lp:Lp) (i:Int):I'' i→
    Z3 (fun st=>evC T0 (orcB [] [Z09]) lp b81k 0 st (Z1 [0,1,7,8] [4] 0)) (stOf [0,1,7,8] [.list QQ l,.fn 58 [],.int .i64 m,.int .i64 i] [])=some r'':=
 Z5 (fun a'':Int=>stOf [0,1,7,8] [.list QQ l,.fn 58 [],.int .i64 m,.int .i64 a''] []) (fun a''=>I'' a'') (fun a''=>m'' a'') r'' (fun a''=>r81k l m a'')
  (fun a'' x hx=>(U4l lp l m a'').trans hx) (fun a'' ha=>Tr.all_mono (fun x'' hx=>hx.imp id fun⟨i',h1,h2,h3⟩=>⟨(i'),h1,h2,h3⟩) (h (a'') ha)) (i)
theorem J4s:Z3y.Ok T0 (orcB [] [Z09]) h81 0 0 b81k:=by
 intro q'' hq'' x'' y'' r'' h
 obtain⟨(l:List QQt),(m:Int),(i:Int),_⟩:=x''
 obtain⟨hc,rfl⟩:=Tr.get_on2 h
 show Z3 (fun st=>evC T0 (orcB [] [Z09]) (lpN T0 (orcB [] [Z09]) h81 0 q'') b81k 0 st (Z1 [0,1,7,8] [4] 0)) (stOf [0,1,7,8] [.list QQ l,.fn 58 [],.int .i64 m,.int .i64 i] [])=some ((bif decide (fxQf l < 0) then (.exit 0,[.dead],[]) else (.ret,[.int .i64 (fxQf l)],[]):Ex×List AV×List LObj).1,stOf [4] (bif decide (fxQf l < 0) then (.exit 0,[.dead],[]) else (.ret,[.int .i64 (fxQf l)],[]):Ex×List AV×List LObj).2.1 (bif decide (fxQf l < 0) then (.exit 0,[.dead],[]) else (.ret,[.int .i64 (fxQf l)],[]):Ex×List AV×List LObj).2.2)
 simp only[fcQf,smQf,Bool.and_eq_true,decide_eq_true_eq,List.all_eq_true] at hc
 obtain⟨⟨hl,hb⟩,rfl,rfl⟩:=hc
 have hl:=Nat.le_of_ble_eq_true hl
 refine wf81k l l.length (fun i=>0≤i∧i≤l.length∧flN kpQf (l.drop i.toNat) i.toNat=fxQf l) (fun i=>(l.length - i).toNat) _ ?_ _ 0 ⟨by omega,by omega,rfl⟩
 rintro i ⟨h0,h1,he⟩
 unfold r81k
 rw[U8 h0 h1 (by omega)]
 by_cases hi:i < l.length
 ·have hx:=hb _ (Ql (l:=l) (k:=i.toNat) (by omega) (Ty.dflt QQ))
  rw[Zd (l:=l) (k:=i.toNat) (by omega) (Ty.dflt QQ),flN] at he
  generalize l.getD i.toNat (Ty.dflt QQ)=x at *
  refine Tr.all_t (J0 hi) (Tr.all_t (J0 h0) (Tr.all_t (J0 hi) (Tr.all_t hx (Tr.all_br (fun h=>?_) fun h=>?_))))
  ·rw[if_neg (by cases hx:kpQf x;simp;(rw[hx] at h;cases h))] at he
   rw[←he,show ((i.toNat:Nat):Int)=i by omega,U0 (show ¬ i < 0 by omega)]
   exact Tr.all_ret (.inl rfl)
  ·rw[if_pos (by cases hx:kpQf x;(rw[hx] at h;cases h);rfl)] at he
   exact Tr.all_ret (.inr ⟨_,rfl,⟨by omega,by omega,by rw[show (i+1).toNat=i.toNat+1 by omega];exact he⟩,by omega⟩)
 ·refine Tr.all_f (U0 hi) (Tr.all_ret (.inl ?_))
  rw[List.drop_eq_nil_of_le (by omega)] at he
  rw[←he]
  rfl
def t81k (l:List QQt):Tr Res:=.br (fcQf l (↑l.length:Int) 0) (.br (decide (fxQf l < 0)) (.ret ([.int .i64 (-1)],[])) (.ret ([.int .i64 (fxQf l)],[]))) .no
def X5m:OSpec:={ f:=81,sh:=[.d (.list QQ) false,.fnp 58 []],so:=[],F:=fun(l,_) _=>t81k l }
theorem fn81k (l:List QQt):evC T0 (orcB [] [Z09]) (lpOf h81 0 (lsOf [Z3y])) c81 1000000 (U1 [.list QQ l,.fn 58 []] [] Try.f81.ntmps) (X1 T0 false 0 Try.f81)=(t81k l).get:=by kernel_rfl
theorem ok81k:X5m.Ok Try.prog:=by
 refine Z4 V2 tab0 (Q0 all_nil (all_cons X5d all_nil)) h81 (d:=0) (n0:=0) (S:=lsOf [Z3y]) Try.func81 (by kernel_rfl) (c:=c81) (by kernel_rfl) rfl (Q4 (xs:=[(0,b81k)]) (by kernel_rfl) (all_cons (X5 J4s) all_nil)) (by omega) (by kernel_rfl) ?_
 intro x'' y'' q'' hq''
 obtain⟨(l:List QQt),_⟩:=x''
 exact(fn81k l).trans hq''
def X1t:OSpec:=X5m.like fun(l,_) _=>.on (smQf l) ([.int .i64 (fxQf l)],[])
theorem ok81u:X1t.Ok Try.prog:=by
 refine Xe ok81k _ ?_
 rintro⟨(l:List QQt),_⟩ _ r' h
 obtain⟨hb,rfl⟩:=Tr.get_on h
 have hb:smQf l=true:=hb
 refine Tr.get_of_all ?_
 show (t81k l).all _
 unfold t81k
 refine Tr.all_t (by unfold fcQf;rw[hb,decide_eq_true rfl];rfl) (Tr.all_br (fun h=>Tr.all_ret ?_) fun h=>Tr.all_ret rfl)
 have h:=of_decide_eq_true h
 rcases J2e kpQf l 0 with h2 | h2
 ·rw[show fxQf l=-1 from h2]
 ·exact absurd h (by show ¬ flN kpQf l 0 < 0;omega)
def dcQf (l:List QQt) (i j:Int):Bool:=smQf l&&(decide (0≤i)&&(decide (i < (l.length:Int))&&(decide (j=i+1)&&decide (flQf (l.take j.toNat)=l.take i.toNat))))
noncomputable def b56k:Code:=V4 c56 0
def V3v:LoopSpec:={ bid:=0,sh:=[.row 0,.fnp 58 [],.d (.int .i64) false,.d (.int .i64) false],so:=[.row QQ],F:=fun(i,j,_) (l,_)=>.on (dcQf l i j) (.exit 0,[.rowA 0,.int .i64 ((flQf l).length:Nat)],[.row QQ (flQf l++l.drop (flQf l).length)]) }
def r56k (i j:Int) (l:List QQt):Tr (St⊕(Ex×St)):=.br (decide (j < (↑l.length:Int))) (.br (decide (0≤j)) (.br (decide (j < (↑l.length:Int))) (.br (bigQ (l.getD j.toNat (Ty.dflt QQ))) (.br (!!kpQf (l.getD j.toNat (Ty.dflt QQ))) (.br (decide (0≤i)) (.br (decide (i < (↑l.length:Int))) (.ret (.inl (stOf [0,1,5,6] [.rowA 0,AV.fn 58 [],.int .i64 (IntKind.wrap .i64 (i+1)),.int .i64 (IntKind.wrap .i64 (j+1))] [.row QQ (List.set l i.toNat (l.getD j.toNat (Ty.dflt QQ)))]))) .no) .no) (.ret (.inl (stOf [0,1,5,6] [.rowA 0,AV.fn 58 [],.int .i64 i,.int .i64 (IntKind.wrap .i64 (j+1))] [.row QQ l])))) .no) .no) .no) (.ret (.inr (.exit 0,stOf [0,5] [.rowA 0,.int .i64 i] [.row QQ l])))
theorem X4d (lp:Lp) (i j:Int) (l:List QQt):evC T0 (orcB [] [Z09,X1t]) lp b56k 0 (stOf [0,1,5,6] [.rowA 0,.fn 58 [],.int .i64 i,.int .i64 j] [.row QQ l]) (Z1 [0,1,5,6] [0,5] 1)=(r56k i j l).get:=by kernel_rfl
theorem wf56k (I'':Int→Int→List QQt→Prop) (m'':Int→Int→List QQt→Nat) (r'':Ex×St) (h:∀ (i j:Int) (l:List QQt),I'' i j l→(r56k i j l).all fun x''=>x''=.inr r''∨∃ (i' j':Int) (l':List QQt),x''=.inl (stOf [0,1,5,6] [.rowA 0,.fn 58 [],.int .i64 i',.int .i64 j'] [.row QQ l'])∧I'' i' j' l'∧m'' i' j' l' < m'' i j l) (lp:Lp) (i j:Int) (l:List QQt):I'' i j l→
    Z3 (fun st=>evC T0 (orcB [] [Z09,X1t]) lp b56k 0 st (Z1 [0,1,5,6] [0,5] 1)) (stOf [0,1,5,6] [.rowA 0,.fn 58 [],.int .i64 i,.int .i64 j] [.row QQ l])=some r'':=
 Z5 (fun a'':Int×Int×List QQt=>stOf [0,1,5,6] [.rowA 0,.fn 58 [],.int .i64 a''.1,.int .i64 a''.2.1] [.row QQ a''.2.2]) (fun a''=>I'' a''.1 a''.2.1 a''.2.2) (fun a''=>m'' a''.1 a''.2.1 a''.2.2) r'' (fun a''=>r56k a''.1 a''.2.1 a''.2.2)
  (fun a'' x hx=>(X4d lp a''.1 a''.2.1 a''.2.2).trans hx) (fun a'' ha=>Tr.all_mono (fun x'' hx=>hx.imp id fun⟨i',j',l',h1,h2,h3⟩=>⟨(i',j',l'),h1,h2,h3⟩) (h (a''.1) (a''.2.1) (a''.2.2) ha)) (i,j,l)
theorem J4z:V3v.Ok T0 (orcB [] [Z09,X1t]) h56 1 0 b56k:=by
 intro q'' hq'' x'' y'' r'' h
 obtain⟨(i:Int),(j:Int),_⟩:=x''
 obtain⟨(l:List QQt),_⟩:=y''
 obtain⟨hc,rfl⟩:=Tr.get_on h
 show Z3 (fun st=>evC T0 (orcB [] [Z09,X1t]) (lpN T0 (orcB [] [Z09,X1t]) h56 1 q'') b56k 0 st (Z1 [0,1,5,6] [0,5] 1)) (stOf [0,1,5,6] [.rowA 0,.fn 58 [],.int .i64 i,.int .i64 j] [.row QQ l])=some (.exit 0,stOf [0,5] ([.rowA 0,.int .i64 ((flQf l).length:Nat)]) ([.row QQ (flQf l++l.drop (flQf l).length)]))
 simp only[dcQf,smQf,Bool.and_eq_true,decide_eq_true_eq,List.all_eq_true] at hc
 obtain⟨⟨hl,hb⟩,h0,h1,rfl,ht⟩:=hc
 have hl:=Nat.le_of_ble_eq_true hl
 have hti:(l.take i.toNat).length=i.toNat:=by rw[List.length_take];omega
 have ht:(l.take (i+1).toNat).filter kpQf=l.take i.toNat:=ht
 have hc0:((l.take (i+1).toNat).filter kpQf).length=i.toNat:=by rw[ht,hti]
 have hw0:dlN kpQf l (i+1).toNat=l:=by unfold dlN;rw[hc0,ht];exact List.take_append_drop _ _
 refine wf56k (fun i j w=>0≤i∧i < j∧j≤l.length∧i=(((l.take j.toNat).filter kpQf).length:Nat)∧w=dlN kpQf l j.toNat) (fun i j w=>(l.length - j).toNat) _ ?_ _ i (i+1) l ⟨h0,by omega,by omega,by rw[hc0];omega,hw0.symm⟩
 clear hti hc0 hw0 ht h0 h1
 rintro i j w ⟨h0,h1,h2,he,rfl⟩
 unfold r56k
 rw[Z3b (by omega),U8 (show 0≤j by omega) h2 (by omega),IntWalk.i64_in (i+1) (by omega)]
 by_cases hj:j < l.length
 ·have hx:=hb _ (Ql (l:=l) (k:=j.toNat) (by omega) (Ty.dflt QQ))
  rw[Z3d (by omega) (Ty.dflt QQ)]
  refine Tr.all_t (J0 hj) (Tr.all_t (J0 (by omega)) (Tr.all_t (J0 hj) (Tr.all_t hx (Tr.all_br (fun h=>?_) fun h=>?_))))
  ·have h:kpQf (l.getD j.toNat (Ty.dflt QQ))=true:=by cases hx:kpQf (l.getD j.toNat (Ty.dflt QQ));(rw[hx] at h;cases h);rfl
   refine Tr.all_t (J0 h0) (Tr.all_t (J0 (by omega)) (Tr.all_ret (.inr ⟨_,_,_,rfl,⟨by omega,by omega,by omega,?_,?_⟩,by omega⟩)))
   ·rw[show (j+1).toNat=j.toNat+1 by omega,V04 (by omega) (Ty.dflt QQ),if_pos h,List.length_append,List.length_singleton]
    omega
   ·rw[show (j+1).toNat=j.toNat+1 by omega,←U3g (by omega) (Ty.dflt QQ) h]
    congr 1
    omega
  ·have h:kpQf (l.getD j.toNat (Ty.dflt QQ))=false:=by cases hx:kpQf (l.getD j.toNat (Ty.dflt QQ));rfl;(rw[hx] at h;cases h)
   refine Tr.all_ret (.inr ⟨_,_,_,rfl,⟨by omega,by omega,by omega,?_,?_⟩,by omega⟩)
   ·rw[show (j+1).toNat=j.toNat+1 by omega,V04 (by omega) (Ty.dflt QQ),if_neg (by rw[h];simp),List.append_nil]
    exact he
   ·rw[show (j+1).toNat=j.toNat+1 by omega,Q3g (by omega) (Ty.dflt QQ) h]
 ·refine Tr.all_f (U0 hj) (Tr.all_ret (.inl ?_))
  have hj:j.toNat=l.length:=by omega
  rw[he]
  unfold dlN flQf
  rw[hj,List.take_length]
def t56k (l:List QQt):Tr Res:=.br (smQf l) (.br (fxQf l==(-1:Int)) (.ret ([.rowA 0],[.row QQ l])) (.br (dcQf l (fxQf l) (IntKind.wrap .i64 (fxQf l+1))) (.br (decide (0≤(↑(List.length (flQf l++List.drop (List.length (flQf l)) l)):Int))&&decide ((↑(List.length (flQf l++List.drop (List.length (flQf l)) l)):Int)≤(↑(List.length (flQf l++List.drop (List.length (flQf l)) l)):Int))) (.br (decide (0≤(↑(List.length (flQf l)):Int))&&decide ((↑(List.length (flQf l)):Int)≤(↑(List.length (flQf l++List.drop (List.length (flQf l)) l)):Int))) (.br (decide (0≤(↑(List.length (flQf l)):Int))&&decide ((↑(List.length (flQf l)):Int)≤(↑(List.length (List.take (Int.toNat (↑(List.length (flQf l)):Int)) (flQf l++List.drop (List.length (flQf l)) l)++List.replicate (Int.toNat (↑(List.length (flQf l++List.drop (List.length (flQf l)) l)):Int) - Int.toNat (↑(List.length (flQf l)):Int)) (Ty.dflt QQ)++List.drop (Int.toNat (↑(List.length (flQf l)):Int)+(Int.toNat (↑(List.length (flQf l++List.drop (List.length (flQf l)) l)):Int) - Int.toNat (↑(List.length (flQf l)):Int))) (flQf l++List.drop (List.length (flQf l)) l))):Int))) (.ret ([.rowS 0 0 (Int.toNat (↑(List.length (flQf l)):Int) - Int.toNat 0) false],[.row QQ (List.take (Int.toNat (↑(List.length (flQf l)):Int)) (flQf l++List.drop (List.length (flQf l)) l)++List.replicate (Int.toNat (↑(List.length (flQf l++List.drop (List.length (flQf l)) l)):Int) - Int.toNat (↑(List.length (flQf l)):Int)) (Ty.dflt QQ)++List.drop (Int.toNat (↑(List.length (flQf l)):Int)+(Int.toNat (↑(List.length (flQf l++List.drop (List.length (flQf l)) l)):Int) - Int.toNat (↑(List.length (flQf l)):Int))) (flQf l++List.drop (List.length (flQf l)) l))])) .no) .no) .no) .no)) .no
def Q5k:OSpec:={ f:=56,sh:=[.row 0,.fnp 58 []],so:=[.row QQ],F:=fun _ (l,_)=>t56k l }
theorem fn56k (l:List QQt):evC T0 (orcB [] [Z09,X1t]) (lpOf h56 1 (lsOf [V3v])) c56 1000000 (U1 [.rowA 0,.fn 58 []] [.row QQ l] Try.f56.ntmps) (X1 T0 false 1 Try.f56)=(t56k l).get:=by kernel_rfl
theorem ok56k:Q5k.Ok Try.prog:=by
 refine Z4 V2 tab0 (Q0 all_nil (all_cons X5d (all_cons ok81u all_nil))) h56 (d:=0) (n0:=1) (S:=lsOf [V3v]) Try.func56 (by kernel_rfl) (c:=c56) (by kernel_rfl) rfl (Q4 (xs:=[(0,b56k)]) (by kernel_rfl) (all_cons (X5 J4z) all_nil)) (by omega) (by kernel_rfl) ?_
 intro x'' y'' q'' hq''
 obtain⟨(l:List QQt),_⟩:=y''
 exact(fn56k l).trans hq''
def Q5m:OSpec:=Q5k.like fun _ (l,_)=>.on (smQf l) ([.rowA 0],[.row QQ (flQf l)])
theorem ok56u:Q5m.Ok Try.prog:=by
 rintro⟨⟩ ⟨(l:List QQt),_⟩ r' h
 obtain⟨hb,rfl⟩:=Tr.get_on h
 have hb:smQf l=true:=hb
 have hl:l.length≤1000000:=Nat.le_of_ble_eq_true (Bool.and_eq_true_iff.1 hb).1
 obtain⟨r,hr,h⟩:=Tr.all_get (t:=t56k l) (P:=fun r=>r=([.rowA 0],[.row QQ (flQf l)])∨∃ n xs,r=([.rowS 0 0 n false],[.row QQ xs])∧xs.take n=flQf l) (by
  unfold t56k
  rcases V1m kpQf l 0 with ⟨h1,h2⟩ | ⟨j,h1,h2,h3⟩
  ·rw[show fxQf l=-1 from h1]
   refine Tr.all_t hb (Tr.all_t rfl (Tr.all_ret (.inl ?_)))
   rw[show flQf l=l from h2]
  ·rw[Nat.zero_add] at h2
   rw[show fxQf l=(j:Int) from h2]
   have hne:(((j:Nat):Int) == -1)=false:=beq_eq_false_iff_ne.2 (by omega)
   have hw:IntKind.wrap .i64 ((j:Int)+1)=(j:Int)+1:=IntWalk.i64_in _ (by omega)
   rw[hw]
   have hc:dcQf l j ((j:Int)+1)=true:=by
    unfold dcQf flQf
    rw[hb,show ((j:Int)+1).toNat=j+1 by omega,show ((j:Int)).toNat=j by omega,h3,J0 (by omega),J0 (by omega),J0 rfl,J0 rfl]
    rfl
   have hnl:(flQf l).length≤l.length:=List.length_filter_le _ _
   have hlen:(flQf l++List.drop (List.length (flQf l)) l).length=l.length:=by rw[List.length_append,List.length_drop];omega
   have hX:List.take (Int.toNat (((flQf l).length:Nat):Int)) (flQf l++List.drop (List.length (flQf l)) l)++List.replicate (Int.toNat ((l.length:Nat):Int) - Int.toNat (((flQf l).length:Nat):Int)) (Ty.dflt QQ)++List.drop (Int.toNat (((flQf l).length:Nat):Int)+(Int.toNat ((l.length:Nat):Int) - Int.toNat (((flQf l).length:Nat):Int))) (flQf l++List.drop (List.length (flQf l)) l)=flQf l++List.replicate (l.length - (flQf l).length) (Ty.dflt QQ):=by
    rw[Int.toNat_natCast,Int.toNat_natCast,List.take_left,List.drop_eq_nil_of_le (by rw[hlen];omega),List.append_nil]
   rw[hlen,hX]
   have hlen2:(flQf l++List.replicate (l.length - (flQf l).length) (Ty.dflt QQ)).length=l.length:=by rw[List.length_append,List.length_replicate];omega
   rw[hlen2]
   refine Tr.all_t hb (Tr.all_f hne (Tr.all_t hc (Tr.all_t (by rw[J0 (by omega),J0 (by omega)];rfl) (Tr.all_t (by rw[J0 (by omega),J0 (by omega)];rfl) (Tr.all_t (by rw[J0 (by omega),J0 (by omega)];rfl) (Tr.all_ret (.inr ⟨_,_,rfl,?_⟩)))))))
   rw[Int.toNat_natCast,show Int.toNat (0:Int)=0 from rfl,Nat.sub_zero]
   exact List.take_left)
 have hs:=ok56k () (l,()) _ hr
 rcases h with rfl | ⟨n,xs,rfl,hx⟩
 ·exact hs
 ·rw[←hx]
  exact U22 hs
def kpRf (x:RRt):Bool:=recV x
def fxRf (l:List RRt):Int:=flN kpRf l 0
def flRf (l:List RRt):List RRt:=l.filter kpRf
def smRf (l:List RRt):Bool:=Nat.ble l.length 1000000&&l.all Zh
def fcRf (l:List RRt) (m i:Int):Bool:=smRf l&&(decide (m=(l.length:Int))&&decide (i=0))
def t62k (x:RRt):Tr Res:=.br (Zh x) (.ret ([.bool !recV x],[])) .no
def Q5b:OSpec:={ f:=62,sh:=[.d RR true],so:=[],F:=fun(x,_) _=>t62k x }
theorem fn62k (x:RRt):evC T0 (orcB [U27,U09] []) (lpOf h62 0 (lsOf [])) c62 1000000 (U1 [AV.ofTy RR x true] [] Try.f62.ntmps) (X1 T0 false 0 Try.f62)=(t62k x).get:=by kernel_rfl
theorem ok62k:Q5b.Ok Try.prog:=by
 refine Z4 V2 tab0 (Q0 (all_cons J1w (all_cons U0q all_nil)) all_nil) h62 (d:=0) (n0:=0) (S:=lsOf []) Try.func62 (by kernel_rfl) (c:=c62) (by kernel_rfl) rfl (J3 (by kernel_rfl)) (by omega) (by kernel_rfl) ?_
 intro x'' y'' q'' hq''
 obtain⟨(x:RRt),_⟩:=x''
 exact(fn62k x).trans hq''
def Q0a:OSpec:=Q5b.like fun(x,_) _=>.on (Zh x) ([.bool (!kpRf x)],[])
theorem Z5h:Q0a.Ok Try.prog:=by
 refine Xe ok62k _ ?_
 rintro⟨(x:RRt),_⟩ _ r' h
 obtain⟨hb,rfl⟩:=Tr.get_on h
 refine Tr.get_of_all ?_
 show (t62k x).all _
 unfold t62k
 exact Tr.all_t hb (Tr.all_ret rfl)
noncomputable def b82k:Code:=V4 c82 0
def Q3w:LoopSpec:={ bid:=0,sh:=[.d (.list RR) false,.fnp 62 [],.d (.int .i64) false,.d (.int .i64) false],so:=[],F:=fun(l,m,i,_) _=>.on2 (fcRf l m i) (decide (fxRf l < 0)) (.exit 0,[.dead],[]) (.ret,[.int .i64 (fxRf l)],[]) }
def r82k (l:List RRt) (m i:Int):Tr (St⊕(Ex×St)):=.br (decide (i < m)) (.br (decide (0≤i)) (.br (decide (i < (↑l.length:Int))) (.br (Zh (l.getD i.toNat (Ty.dflt RR))) (.br (!kpRf (l.getD i.toNat (Ty.dflt RR))) (.ret (.inr (.ret,stOf [4] [.int .i64 i] []))) (.ret (.inl (stOf [0,1,7,8] [.list RR l,AV.fn 62 [],.int .i64 m,.int .i64 (IntKind.wrap .i64 (i+1))] [])))) .no) .no) .no) (.ret (.inr (.exit 0,stOf [4] [.dead] [])))
theorem Z46 (lp:Lp) (l:List RRt) (m i:Int):evC T0 (orcB [] [Q0a]) lp b82k 0 (stOf [0,1,7,8] [.list RR l,.fn 62 [],.int .i64 m,.int .i64 i] []) (Z1 [0,1,7,8] [4] 0)=(r82k l m i).get:=by kernel_rfl
theorem wf82k (l:List RRt) (m:Int) (I'':Int→Prop) (m'':Int→Nat) (r'':Ex×St) (h:∀ (i:Int),I'' i→(r82k l m i).all fun x''=>x''=.inr r''∨∃ (i':Int),x''=.inl (stOf [0,1,7,8] [.list RR l,.fn 62 [],.int .i64 m,.int .i64 i'] [])∧I'' i'∧m'' i' < m'' i) (lp:Lp) (i:Int):I'' i→
    Z3 (fun st=>evC T0 (orcB [] [Q0a]) lp b82k 0 st (Z1 [0,1,7,8] [4] 0)) (stOf [0,1,7,8] [.list RR l,.fn 62 [],.int .i64 m,.int .i64 i] [])=some r'':=
 Z5 (fun a'':Int=>stOf [0,1,7,8] [.list RR l,.fn 62 [],.int .i64 m,.int .i64 a''] []) (fun a''=>I'' a'') (fun a''=>m'' a'') r'' (fun a''=>r82k l m a'')
  (fun a'' x hx=>(Z46 lp l m a'').trans hx) (fun a'' ha=>Tr.all_mono (fun x'' hx=>hx.imp id fun⟨i',h1,h2,h3⟩=>⟨(i'),h1,h2,h3⟩) (h (a'') ha)) (i)
theorem X4v:Q3w.Ok T0 (orcB [] [Q0a]) h82 0 0 b82k:=by
 intro q'' hq'' x'' y'' r'' h
 obtain⟨(l:List RRt),(m:Int),(i:Int),_⟩:=x''
 obtain⟨hc,rfl⟩:=Tr.get_on2 h
 show Z3 (fun st=>evC T0 (orcB [] [Q0a]) (lpN T0 (orcB [] [Q0a]) h82 0 q'') b82k 0 st (Z1 [0,1,7,8] [4] 0)) (stOf [0,1,7,8] [.list RR l,.fn 62 [],.int .i64 m,.int .i64 i] [])=some ((bif decide (fxRf l < 0) then (.exit 0,[.dead],[]) else (.ret,[.int .i64 (fxRf l)],[]):Ex×List AV×List LObj).1,stOf [4] (bif decide (fxRf l < 0) then (.exit 0,[.dead],[]) else (.ret,[.int .i64 (fxRf l)],[]):Ex×List AV×List LObj).2.1 (bif decide (fxRf l < 0) then (.exit 0,[.dead],[]) else (.ret,[.int .i64 (fxRf l)],[]):Ex×List AV×List LObj).2.2)
 simp only[fcRf,smRf,Bool.and_eq_true,decide_eq_true_eq,List.all_eq_true] at hc
 obtain⟨⟨hl,hb⟩,rfl,rfl⟩:=hc
 have hl:=Nat.le_of_ble_eq_true hl
 refine wf82k l l.length (fun i=>0≤i∧i≤l.length∧flN kpRf (l.drop i.toNat) i.toNat=fxRf l) (fun i=>(l.length - i).toNat) _ ?_ _ 0 ⟨by omega,by omega,rfl⟩
 rintro i ⟨h0,h1,he⟩
 unfold r82k
 rw[U8 h0 h1 (by omega)]
 by_cases hi:i < l.length
 ·have hx:=hb _ (Ql (l:=l) (k:=i.toNat) (by omega) (Ty.dflt RR))
  rw[Zd (l:=l) (k:=i.toNat) (by omega) (Ty.dflt RR),flN] at he
  generalize l.getD i.toNat (Ty.dflt RR)=x at *
  refine Tr.all_t (J0 hi) (Tr.all_t (J0 h0) (Tr.all_t (J0 hi) (Tr.all_t hx (Tr.all_br (fun h=>?_) fun h=>?_))))
  ·rw[if_neg (by cases hx:kpRf x;simp;(rw[hx] at h;cases h))] at he
   rw[←he,show ((i.toNat:Nat):Int)=i by omega,U0 (show ¬ i < 0 by omega)]
   exact Tr.all_ret (.inl rfl)
  ·rw[if_pos (by cases hx:kpRf x;(rw[hx] at h;cases h);rfl)] at he
   exact Tr.all_ret (.inr ⟨_,rfl,⟨by omega,by omega,by rw[show (i+1).toNat=i.toNat+1 by omega];exact he⟩,by omega⟩)
 ·refine Tr.all_f (U0 hi) (Tr.all_ret (.inl ?_))
  rw[List.drop_eq_nil_of_le (by omega)] at he
  rw[←he]
  rfl
def t82k (l:List RRt):Tr Res:=.br (fcRf l (↑l.length:Int) 0) (.br (decide (fxRf l < 0)) (.ret ([.int .i64 (-1)],[])) (.ret ([.int .i64 (fxRf l)],[]))) .no
def V5i:OSpec:={ f:=82,sh:=[.d (.list RR) false,.fnp 62 []],so:=[],F:=fun(l,_) _=>t82k l }
theorem fn82k (l:List RRt):evC T0 (orcB [] [Q0a]) (lpOf h82 0 (lsOf [Q3w])) c82 1000000 (U1 [.list RR l,.fn 62 []] [] Try.f82.ntmps) (X1 T0 false 0 Try.f82)=(t82k l).get:=by kernel_rfl
theorem ok82k:V5i.Ok Try.prog:=by
 refine Z4 V2 tab0 (Q0 all_nil (all_cons Z5h all_nil)) h82 (d:=0) (n0:=0) (S:=lsOf [Q3w]) Try.func82 (by kernel_rfl) (c:=c82) (by kernel_rfl) rfl (Q4 (xs:=[(0,b82k)]) (by kernel_rfl) (all_cons (X5 X4v) all_nil)) (by omega) (by kernel_rfl) ?_
 intro x'' y'' q'' hq''
 obtain⟨(l:List RRt),_⟩:=x''
 exact(fn82k l).trans hq''
def Z1s:OSpec:=V5i.like fun(l,_) _=>.on (smRf l) ([.int .i64 (fxRf l)],[])
theorem ok82u:Z1s.Ok Try.prog:=by
 refine Xe ok82k _ ?_
 rintro⟨(l:List RRt),_⟩ _ r' h
 obtain⟨hb,rfl⟩:=Tr.get_on h
 have hb:smRf l=true:=hb
 refine Tr.get_of_all ?_
 show (t82k l).all _
 unfold t82k
 refine Tr.all_t (by unfold fcRf;rw[hb,decide_eq_true rfl];rfl) (Tr.all_br (fun h=>Tr.all_ret ?_) fun h=>Tr.all_ret rfl)
 have h:=of_decide_eq_true h
 rcases J2e kpRf l 0 with h2 | h2
 ·rw[show fxRf l=-1 from h2]
 ·exact absurd h (by show ¬ flN kpRf l 0 < 0;omega)
def dcRf (l:List RRt) (i j:Int):Bool:=smRf l&&(decide (0≤i)&&(decide (i < (l.length:Int))&&(decide (j=i+1)&&decide (flRf (l.take j.toNat)=l.take i.toNat))))
noncomputable def b60k:Code:=V4 c60 0
def U4k:LoopSpec:={ bid:=0,sh:=[.row 0,.fnp 62 [],.d (.int .i64) false,.d (.int .i64) false],so:=[.row RR],F:=fun(i,j,_) (l,_)=>.on (dcRf l i j) (.exit 0,[.rowA 0,.int .i64 ((flRf l).length:Nat)],[.row RR (flRf l++l.drop (flRf l).length)]) }
def r60k (i j:Int) (l:List RRt):Tr (St⊕(Ex×St)):=.br (decide (j < (↑l.length:Int))) (.br (decide (0≤j)) (.br (decide (j < (↑l.length:Int))) (.br (Zh (l.getD j.toNat (Ty.dflt RR))) (.br (!!kpRf (l.getD j.toNat (Ty.dflt RR))) (.br (decide (0≤i)) (.br (decide (i < (↑l.length:Int))) (.ret (.inl (stOf [0,1,5,6] [.rowA 0,AV.fn 62 [],.int .i64 (IntKind.wrap .i64 (i+1)),.int .i64 (IntKind.wrap .i64 (j+1))] [.row RR (List.set l i.toNat (l.getD j.toNat (Ty.dflt RR)))]))) .no) .no) (.ret (.inl (stOf [0,1,5,6] [.rowA 0,AV.fn 62 [],.int .i64 i,.int .i64 (IntKind.wrap .i64 (j+1))] [.row RR l])))) .no) .no) .no) (.ret (.inr (.exit 0,stOf [0,5] [.rowA 0,.int .i64 i] [.row RR l])))
theorem J3w (lp:Lp) (i j:Int) (l:List RRt):evC T0 (orcB [] [Q0a,Z1s]) lp b60k 0 (stOf [0,1,5,6] [.rowA 0,.fn 62 [],.int .i64 i,.int .i64 j] [.row RR l]) (Z1 [0,1,5,6] [0,5] 1)=(r60k i j l).get:=by kernel_rfl
theorem wf60k (I'':Int→Int→List RRt→Prop) (m'':Int→Int→List RRt→Nat) (r'':Ex×St) (h:∀ (i j:Int) (l:List RRt),I'' i j l→(r60k i j l).all fun x''=>x''=.inr r''∨∃ (i' j':Int) (l':List RRt),x''=.inl (stOf [0,1,5,6] [.rowA 0,.fn 62 [],.int .i64 i',.int .i64 j'] [.row RR l'])∧I'' i' j' l'∧m'' i' j' l' < m'' i j l) (lp:Lp) (i j:Int) (l:List RRt):I'' i j l→
    Z3 (fun st=>evC T0 (orcB [] [Q0a,Z1s]) lp b60k 0 st (Z1 [0,1,5,6] [0,5] 1)) (stOf [0,1,5,6] [.rowA 0,.fn 62 [],.int .i64 i,.int .i64 j] [.row RR l])=some r'':=
 Z5 (fun a'':Int×Int×List RRt=>stOf [0,1,5,6] [.rowA 0,.fn 62 [],.int .i64 a''.1,.int .i64 a''.2.1] [.row RR a''.2.2]) (fun a''=>I'' a''.1 a''.2.1 a''.2.2) (fun a''=>m'' a''.1 a''.2.1 a''.2.2) r'' (fun a''=>r60k a''.1 a''.2.1 a''.2.2)
  (fun a'' x hx=>(J3w lp a''.1 a''.2.1 a''.2.2).trans hx) (fun a'' ha=>Tr.all_mono (fun x'' hx=>hx.imp id fun⟨i',j',l',h1,h2,h3⟩=>⟨(i',j',l'),h1,h2,h3⟩) (h (a''.1) (a''.2.1) (a''.2.2) ha)) (i,j,l)
theorem V53:U4k.Ok T0 (orcB [] [Q0a,Z1s]) h60 1 0 b60k:=by
 intro q'' hq'' x'' y'' r'' h
 obtain⟨(i:Int),(j:Int),_⟩:=x''
 obtain⟨(l:List RRt),_⟩:=y''
 obtain⟨hc,rfl⟩:=Tr.get_on h
 show Z3 (fun st=>evC T0 (orcB [] [Q0a,Z1s]) (lpN T0 (orcB [] [Q0a,Z1s]) h60 1 q'') b60k 0 st (Z1 [0,1,5,6] [0,5] 1)) (stOf [0,1,5,6] [.rowA 0,.fn 62 [],.int .i64 i,.int .i64 j] [.row RR l])=some (.exit 0,stOf [0,5] ([.rowA 0,.int .i64 ((flRf l).length:Nat)]) ([.row RR (flRf l++l.drop (flRf l).length)]))
 simp only[dcRf,smRf,Bool.and_eq_true,decide_eq_true_eq,List.all_eq_true] at hc
 obtain⟨⟨hl,hb⟩,h0,h1,rfl,ht⟩:=hc
 have hl:=Nat.le_of_ble_eq_true hl
 have hti:(l.take i.toNat).length=i.toNat:=by rw[List.length_take];omega
 have ht:(l.take (i+1).toNat).filter kpRf=l.take i.toNat:=ht
 have hc0:((l.take (i+1).toNat).filter kpRf).length=i.toNat:=by rw[ht,hti]
 have hw0:dlN kpRf l (i+1).toNat=l:=by unfold dlN;rw[hc0,ht];exact List.take_append_drop _ _
 refine wf60k (fun i j w=>0≤i∧i < j∧j≤l.length∧i=(((l.take j.toNat).filter kpRf).length:Nat)∧w=dlN kpRf l j.toNat) (fun i j w=>(l.length - j).toNat) _ ?_ _ i (i+1) l ⟨h0,by omega,by omega,by rw[hc0];omega,hw0.symm⟩
 clear hti hc0 hw0 ht h0 h1
 rintro i j w ⟨h0,h1,h2,he,rfl⟩
 unfold r60k
 rw[Z3b (by omega),U8 (show 0≤j by omega) h2 (by omega),IntWalk.i64_in (i+1) (by omega)]
 by_cases hj:j < l.length
 ·have hx:=hb _ (Ql (l:=l) (k:=j.toNat) (by omega) (Ty.dflt RR))
  rw[Z3d (by omega) (Ty.dflt RR)]
  refine Tr.all_t (J0 hj) (Tr.all_t (J0 (by omega)) (Tr.all_t (J0 hj) (Tr.all_t hx (Tr.all_br (fun h=>?_) fun h=>?_))))
  ·have h:kpRf (l.getD j.toNat (Ty.dflt RR))=true:=by cases hx:kpRf (l.getD j.toNat (Ty.dflt RR));(rw[hx] at h;cases h);rfl
   refine Tr.all_t (J0 h0) (Tr.all_t (J0 (by omega)) (Tr.all_ret (.inr ⟨_,_,_,rfl,⟨by omega,by omega,by omega,?_,?_⟩,by omega⟩)))
   ·rw[show (j+1).toNat=j.toNat+1 by omega,V04 (by omega) (Ty.dflt RR),if_pos h,List.length_append,List.length_singleton]
    omega
   ·rw[show (j+1).toNat=j.toNat+1 by omega,←U3g (by omega) (Ty.dflt RR) h]
    congr 1
    omega
  ·have h:kpRf (l.getD j.toNat (Ty.dflt RR))=false:=by cases hx:kpRf (l.getD j.toNat (Ty.dflt RR));rfl;(rw[hx] at h;cases h)
   refine Tr.all_ret (.inr ⟨_,_,_,rfl,⟨by omega,by omega,by omega,?_,?_⟩,by omega⟩)
   ·rw[show (j+1).toNat=j.toNat+1 by omega,V04 (by omega) (Ty.dflt RR),if_neg (by rw[h];simp),List.append_nil]
    exact he
   ·rw[show (j+1).toNat=j.toNat+1 by omega,Q3g (by omega) (Ty.dflt RR) h]
 ·refine Tr.all_f (U0 hj) (Tr.all_ret (.inl ?_))
  have hj:j.toNat=l.length:=by omega
  rw[he]
  unfold dlN flRf
  rw[hj,List.take_length]
def t60k (l:List RRt):Tr Res:=.br (smRf l) (.br (fxRf l==(-1:Int)) (.ret ([.rowA 0],[.row RR l])) (.br (dcRf l (fxRf l) (IntKind.wrap .i64 (fxRf l+1))) (.br (decide (0≤(↑(List.length (flRf l++List.drop (List.length (flRf l)) l)):Int))&&decide ((↑(List.length (flRf l++List.drop (List.length (flRf l)) l)):Int)≤(↑(List.length (flRf l++List.drop (List.length (flRf l)) l)):Int))) (.br (decide (0≤(↑(List.length (flRf l)):Int))&&decide ((↑(List.length (flRf l)):Int)≤(↑(List.length (flRf l++List.drop (List.length (flRf l)) l)):Int))) (.br (decide (0≤(↑(List.length (flRf l)):Int))&&decide ((↑(List.length (flRf l)):Int)≤(↑(List.length (List.take (Int.toNat (↑(List.length (flRf l)):Int)) (flRf l++List.drop (List.length (flRf l)) l)++List.replicate (Int.toNat (↑(List.length (flRf l++List.drop (List.length (flRf l)) l)):Int) - Int.toNat (↑(List.length (flRf l)):Int)) (Ty.dflt RR)++List.drop (Int.toNat (↑(List.length (flRf l)):Int)+(Int.toNat (↑(List.length (flRf l++List.drop (List.length (flRf l)) l)):Int) - Int.toNat (↑(List.length (flRf l)):Int))) (flRf l++List.drop (List.length (flRf l)) l))):Int))) (.ret ([.rowS 0 0 (Int.toNat (↑(List.length (flRf l)):Int) - Int.toNat 0) false],[.row RR (List.take (Int.toNat (↑(List.length (flRf l)):Int)) (flRf l++List.drop (List.length (flRf l)) l)++List.replicate (Int.toNat (↑(List.length (flRf l++List.drop (List.length (flRf l)) l)):Int) - Int.toNat (↑(List.length (flRf l)):Int)) (Ty.dflt RR)++List.drop (Int.toNat (↑(List.length (flRf l)):Int)+(Int.toNat (↑(List.length (flRf l++List.drop (List.length (flRf l)) l)):Int) - Int.toNat (↑(List.length (flRf l)):Int))) (flRf l++List.drop (List.length (flRf l)) l))])) .no) .no) .no) .no)) .no
def U5d:OSpec:={ f:=60,sh:=[.row 0,.fnp 62 []],so:=[.row RR],F:=fun _ (l,_)=>t60k l }
theorem fn60k (l:List RRt):evC T0 (orcB [] [Q0a,Z1s]) (lpOf h60 1 (lsOf [U4k])) c60 1000000 (U1 [.rowA 0,.fn 62 []] [.row RR l] Try.f60.ntmps) (X1 T0 false 1 Try.f60)=(t60k l).get:=by kernel_rfl
theorem ok60k:U5d.Ok Try.prog:=by
 refine Z4 V2 tab0 (Q0 all_nil (all_cons Z5h (all_cons ok82u all_nil))) h60 (d:=0) (n0:=1) (S:=lsOf [U4k]) Try.func60 (by kernel_rfl) (c:=c60) (by kernel_rfl) rfl (Q4 (xs:=[(0,b60k)]) (by kernel_rfl) (all_cons (X5 V53) all_nil)) (by omega) (by kernel_rfl) ?_
 intro x'' y'' q'' hq''
 obtain⟨(l:List RRt),_⟩:=y''
 exact(fn60k l).trans hq''
def U5b:OSpec:=U5d.like fun _ (l,_)=>.on (smRf l) ([.rowA 0],[.row RR (flRf l)])
theorem ok60u:U5b.Ok Try.prog:=by
 rintro⟨⟩ ⟨(l:List RRt),_⟩ r' h
 obtain⟨hb,rfl⟩:=Tr.get_on h
 have hb:smRf l=true:=hb
 have hl:l.length≤1000000:=Nat.le_of_ble_eq_true (Bool.and_eq_true_iff.1 hb).1
 obtain⟨r,hr,h⟩:=Tr.all_get (t:=t60k l) (P:=fun r=>r=([.rowA 0],[.row RR (flRf l)])∨∃ n xs,r=([.rowS 0 0 n false],[.row RR xs])∧xs.take n=flRf l) (by
  unfold t60k
  rcases V1m kpRf l 0 with ⟨h1,h2⟩ | ⟨j,h1,h2,h3⟩
  ·rw[show fxRf l=-1 from h1]
   refine Tr.all_t hb (Tr.all_t rfl (Tr.all_ret (.inl ?_)))
   rw[show flRf l=l from h2]
  ·rw[Nat.zero_add] at h2
   rw[show fxRf l=(j:Int) from h2]
   have hne:(((j:Nat):Int) == -1)=false:=beq_eq_false_iff_ne.2 (by omega)
   have hw:IntKind.wrap .i64 ((j:Int)+1)=(j:Int)+1:=IntWalk.i64_in _ (by omega)
   rw[hw]
   have hc:dcRf l j ((j:Int)+1)=true:=by
    unfold dcRf flRf
    rw[hb,show ((j:Int)+1).toNat=j+1 by omega,show ((j:Int)).toNat=j by omega,h3,J0 (by omega),J0 (by omega),J0 rfl,J0 rfl]
    rfl
   have hnl:(flRf l).length≤l.length:=List.length_filter_le _ _
   have hlen:(flRf l++List.drop (List.length (flRf l)) l).length=l.length:=by rw[List.length_append,List.length_drop];omega
   have hX:List.take (Int.toNat (((flRf l).length:Nat):Int)) (flRf l++List.drop (List.length (flRf l)) l)++List.replicate (Int.toNat ((l.length:Nat):Int) - Int.toNat (((flRf l).length:Nat):Int)) (Ty.dflt RR)++List.drop (Int.toNat (((flRf l).length:Nat):Int)+(Int.toNat ((l.length:Nat):Int) - Int.toNat (((flRf l).length:Nat):Int))) (flRf l++List.drop (List.length (flRf l)) l)=flRf l++List.replicate (l.length - (flRf l).length) (Ty.dflt RR):=by
    rw[Int.toNat_natCast,Int.toNat_natCast,List.take_left,List.drop_eq_nil_of_le (by rw[hlen];omega),List.append_nil]
   rw[hlen,hX]
   have hlen2:(flRf l++List.replicate (l.length - (flRf l).length) (Ty.dflt RR)).length=l.length:=by rw[List.length_append,List.length_replicate];omega
   rw[hlen2]
   refine Tr.all_t hb (Tr.all_f hne (Tr.all_t hc (Tr.all_t (by rw[J0 (by omega),J0 (by omega)];rfl) (Tr.all_t (by rw[J0 (by omega),J0 (by omega)];rfl) (Tr.all_t (by rw[J0 (by omega),J0 (by omega)];rfl) (Tr.all_ret (.inr ⟨_,_,rfl,?_⟩)))))))
   rw[Int.toNat_natCast,show Int.toNat (0:Int)=0 from rfl,Nat.sub_zero]
   exact List.take_left)
 have hs:=ok60k () (l,()) _ hr
 rcases h with rfl | ⟨n,xs,rfl,hx⟩
 ·exact hs
 ·rw[←hx]
  exact U22 hs
def t30k (g:MGt) (rc:Int) (an:List RRt):Tr Res:=.br (decide (rc < 0)) (.br (decide (g.2.2.2.2.2.2.1 < 0)) (.br (fits g.2.2.2.2.2.2.2.2.1.length 24) (.br (smQf g.2.2.2.2.2.2.2.2.1) (.br (fits an.length 40) (.br (smRf an) (.br (okPM (g.1,true,false,false,g.2.2.2.2.1,true,0,2,flQf g.2.2.2.2.2.2.2.2.1,flRf an,[],[])) (.br ((V8 (g.1,true,false,false,g.2.2.2.2.1,true,0,2,flQf g.2.2.2.2.2.2.2.2.1,flRf an,[],[]) 512).2 != 0) (.br (okPM (g.1,true,false,true,g.2.2.2.2.1,true,0,2,[],[],[],[])) (.ret ([.str (putO (g.1,true,false,true,g.2.2.2.2.1,true,0,2,[],[],[],[]))],[])) .no) (.br (okPM (V8 (g.1,true,false,false,g.2.2.2.2.1,true,0,2,flQf g.2.2.2.2.2.2.2.2.1,flRf an,[],[]) 512).1) (.ret ([.str (putO (V8 (g.1,true,false,false,g.2.2.2.2.1,true,0,2,flQf g.2.2.2.2.2.2.2.2.1,flRf an,[],[]) 512).1)],[])) .no)) .no) .no) .no) .no) .no) (.br (decide (g.2.2.2.2.2.2.1 > 15)) (.br (fits g.2.2.2.2.2.2.2.2.1.length 24) (.br (smQf g.2.2.2.2.2.2.2.2.1) (.br (fits an.length 40) (.br (smRf an) (.br (okPM (g.1,true,false,false,g.2.2.2.2.1,true,0,2,flQf g.2.2.2.2.2.2.2.2.1,flRf an,[],[])) (.br ((V8 (g.1,true,false,false,g.2.2.2.2.1,true,0,2,flQf g.2.2.2.2.2.2.2.2.1,flRf an,[],[]) 512).2 != 0) (.br (okPM (g.1,true,false,true,g.2.2.2.2.1,true,0,2,[],[],[],[])) (.ret ([.str (putO (g.1,true,false,true,g.2.2.2.2.1,true,0,2,[],[],[],[]))],[])) .no) (.br (okPM (V8 (g.1,true,false,false,g.2.2.2.2.1,true,0,2,flQf g.2.2.2.2.2.2.2.2.1,flRf an,[],[]) 512).1) (.ret ([.str (putO (V8 (g.1,true,false,false,g.2.2.2.2.1,true,0,2,flQf g.2.2.2.2.2.2.2.2.1,flRf an,[],[]) 512).1)],[])) .no)) .no) .no) .no) .no) .no) (.br (fits g.2.2.2.2.2.2.2.2.1.length 24) (.br (smQf g.2.2.2.2.2.2.2.2.1) (.br (fits an.length 40) (.br (smRf an) (.br (okPM (g.1,true,false,false,g.2.2.2.2.1,true,g.2.2.2.2.2.2.1,2,flQf g.2.2.2.2.2.2.2.2.1,flRf an,[],[])) (.br ((V8 (g.1,true,false,false,g.2.2.2.2.1,true,g.2.2.2.2.2.2.1,2,flQf g.2.2.2.2.2.2.2.2.1,flRf an,[],[]) 512).2 != 0) (.br (okPM (g.1,true,false,true,g.2.2.2.2.1,true,g.2.2.2.2.2.2.1,2,[],[],[],[])) (.ret ([.str (putO (g.1,true,false,true,g.2.2.2.2.1,true,g.2.2.2.2.2.2.1,2,[],[],[],[]))],[])) .no) (.br (okPM (V8 (g.1,true,false,false,g.2.2.2.2.1,true,g.2.2.2.2.2.2.1,2,flQf g.2.2.2.2.2.2.2.2.1,flRf an,[],[]) 512).1) (.ret ([.str (putO (V8 (g.1,true,false,false,g.2.2.2.2.1,true,g.2.2.2.2.2.2.1,2,flQf g.2.2.2.2.2.2.2.2.1,flRf an,[],[]) 512).1)],[])) .no)) .no) .no) .no) .no) .no))) (.br (decide (rc > 15)) (.br (decide (g.2.2.2.2.2.2.1 < 0)) (.br (fits g.2.2.2.2.2.2.2.2.1.length 24) (.br (smQf g.2.2.2.2.2.2.2.2.1) (.br (fits an.length 40) (.br (smRf an) (.br (okPM (g.1,true,false,false,g.2.2.2.2.1,true,0,2,flQf g.2.2.2.2.2.2.2.2.1,flRf an,[],[])) (.br ((V8 (g.1,true,false,false,g.2.2.2.2.1,true,0,2,flQf g.2.2.2.2.2.2.2.2.1,flRf an,[],[]) 512).2 != 0) (.br (okPM (g.1,true,false,true,g.2.2.2.2.1,true,0,2,[],[],[],[])) (.ret ([.str (putO (g.1,true,false,true,g.2.2.2.2.1,true,0,2,[],[],[],[]))],[])) .no) (.br (okPM (V8 (g.1,true,false,false,g.2.2.2.2.1,true,0,2,flQf g.2.2.2.2.2.2.2.2.1,flRf an,[],[]) 512).1) (.ret ([.str (putO (V8 (g.1,true,false,false,g.2.2.2.2.1,true,0,2,flQf g.2.2.2.2.2.2.2.2.1,flRf an,[],[]) 512).1)],[])) .no)) .no) .no) .no) .no) .no) (.br (decide (g.2.2.2.2.2.2.1 > 15)) (.br (fits g.2.2.2.2.2.2.2.2.1.length 24) (.br (smQf g.2.2.2.2.2.2.2.2.1) (.br (fits an.length 40) (.br (smRf an) (.br (okPM (g.1,true,false,false,g.2.2.2.2.1,true,0,2,flQf g.2.2.2.2.2.2.2.2.1,flRf an,[],[])) (.br ((V8 (g.1,true,false,false,g.2.2.2.2.1,true,0,2,flQf g.2.2.2.2.2.2.2.2.1,flRf an,[],[]) 512).2 != 0) (.br (okPM (g.1,true,false,true,g.2.2.2.2.1,true,0,2,[],[],[],[])) (.ret ([.str (putO (g.1,true,false,true,g.2.2.2.2.1,true,0,2,[],[],[],[]))],[])) .no) (.br (okPM (V8 (g.1,true,false,false,g.2.2.2.2.1,true,0,2,flQf g.2.2.2.2.2.2.2.2.1,flRf an,[],[]) 512).1) (.ret ([.str (putO (V8 (g.1,true,false,false,g.2.2.2.2.1,true,0,2,flQf g.2.2.2.2.2.2.2.2.1,flRf an,[],[]) 512).1)],[])) .no)) .no) .no) .no) .no) .no) (.br (fits g.2.2.2.2.2.2.2.2.1.length 24) (.br (smQf g.2.2.2.2.2.2.2.2.1) (.br (fits an.length 40) (.br (smRf an) (.br (okPM (g.1,true,false,false,g.2.2.2.2.1,true,g.2.2.2.2.2.2.1,2,flQf g.2.2.2.2.2.2.2.2.1,flRf an,[],[])) (.br ((V8 (g.1,true,false,false,g.2.2.2.2.1,true,g.2.2.2.2.2.2.1,2,flQf g.2.2.2.2.2.2.2.2.1,flRf an,[],[]) 512).2 != 0) (.br (okPM (g.1,true,false,true,g.2.2.2.2.1,true,g.2.2.2.2.2.2.1,2,[],[],[],[])) (.ret ([.str (putO (g.1,true,false,true,g.2.2.2.2.1,true,g.2.2.2.2.2.2.1,2,[],[],[],[]))],[])) .no) (.br (okPM (V8 (g.1,true,false,false,g.2.2.2.2.1,true,g.2.2.2.2.2.2.1,2,flQf g.2.2.2.2.2.2.2.2.1,flRf an,[],[]) 512).1) (.ret ([.str (putO (V8 (g.1,true,false,false,g.2.2.2.2.1,true,g.2.2.2.2.2.2.1,2,flQf g.2.2.2.2.2.2.2.2.1,flRf an,[],[]) 512).1)],[])) .no)) .no) .no) .no) .no) .no))) (.br (decide (g.2.2.2.2.2.2.1 < 0)) (.br (fits g.2.2.2.2.2.2.2.2.1.length 24) (.br (smQf g.2.2.2.2.2.2.2.2.1) (.br (fits an.length 40) (.br (smRf an) (.br (okPM (g.1,true,false,false,g.2.2.2.2.1,true,0,rc,flQf g.2.2.2.2.2.2.2.2.1,flRf an,[],[])) (.br ((V8 (g.1,true,false,false,g.2.2.2.2.1,true,0,rc,flQf g.2.2.2.2.2.2.2.2.1,flRf an,[],[]) 512).2 != 0) (.br (okPM (g.1,true,false,true,g.2.2.2.2.1,true,0,rc,[],[],[],[])) (.ret ([.str (putO (g.1,true,false,true,g.2.2.2.2.1,true,0,rc,[],[],[],[]))],[])) .no) (.br (okPM (V8 (g.1,true,false,false,g.2.2.2.2.1,true,0,rc,flQf g.2.2.2.2.2.2.2.2.1,flRf an,[],[]) 512).1) (.ret ([.str (putO (V8 (g.1,true,false,false,g.2.2.2.2.1,true,0,rc,flQf g.2.2.2.2.2.2.2.2.1,flRf an,[],[]) 512).1)],[])) .no)) .no) .no) .no) .no) .no) (.br (decide (g.2.2.2.2.2.2.1 > 15)) (.br (fits g.2.2.2.2.2.2.2.2.1.length 24) (.br (smQf g.2.2.2.2.2.2.2.2.1) (.br (fits an.length 40) (.br (smRf an) (.br (okPM (g.1,true,false,false,g.2.2.2.2.1,true,0,rc,flQf g.2.2.2.2.2.2.2.2.1,flRf an,[],[])) (.br ((V8 (g.1,true,false,false,g.2.2.2.2.1,true,0,rc,flQf g.2.2.2.2.2.2.2.2.1,flRf an,[],[]) 512).2 != 0) (.br (okPM (g.1,true,false,true,g.2.2.2.2.1,true,0,rc,[],[],[],[])) (.ret ([.str (putO (g.1,true,false,true,g.2.2.2.2.1,true,0,rc,[],[],[],[]))],[])) .no) (.br (okPM (V8 (g.1,true,false,false,g.2.2.2.2.1,true,0,rc,flQf g.2.2.2.2.2.2.2.2.1,flRf an,[],[]) 512).1) (.ret ([.str (putO (V8 (g.1,true,false,false,g.2.2.2.2.1,true,0,rc,flQf g.2.2.2.2.2.2.2.2.1,flRf an,[],[]) 512).1)],[])) .no)) .no) .no) .no) .no) .no) (.br (fits g.2.2.2.2.2.2.2.2.1.length 24) (.br (smQf g.2.2.2.2.2.2.2.2.1) (.br (fits an.length 40) (.br (smRf an) (.br (okPM (g.1,true,false,false,g.2.2.2.2.1,true,g.2.2.2.2.2.2.1,rc,flQf g.2.2.2.2.2.2.2.2.1,flRf an,[],[])) (.br ((V8 (g.1,true,false,false,g.2.2.2.2.1,true,g.2.2.2.2.2.2.1,rc,flQf g.2.2.2.2.2.2.2.2.1,flRf an,[],[]) 512).2 != 0) (.br (okPM (g.1,true,false,true,g.2.2.2.2.1,true,g.2.2.2.2.2.2.1,rc,[],[],[],[])) (.ret ([.str (putO (g.1,true,false,true,g.2.2.2.2.1,true,g.2.2.2.2.2.2.1,rc,[],[],[],[]))],[])) .no) (.br (okPM (V8 (g.1,true,false,false,g.2.2.2.2.1,true,g.2.2.2.2.2.2.1,rc,flQf g.2.2.2.2.2.2.2.2.1,flRf an,[],[]) 512).1) (.ret ([.str (putO (V8 (g.1,true,false,false,g.2.2.2.2.1,true,g.2.2.2.2.2.2.1,rc,flQf g.2.2.2.2.2.2.2.2.1,flRf an,[],[]) 512).1)],[])) .no)) .no) .no) .no) .no) .no))))
def os30k:OSpec:={ f:=30,sh:=[.d MG true,.d (.int .i64) false,.d (.list RR) false],so:=[],F:=fun(g,rc,an,_) _=>t30k g rc an }
theorem fn30k (g:MGt) (rc:Int) (an:List RRt):evC T0 (orcB [J5j,Z5e,J5g] [os57,os61,Q5m,U5b]) (lpOf h30 0 (lsOf [])) c30 1000000 (U1 [AV.ofTy MG g true,.int .i64 rc,.list RR an] [] Try.f30.ntmps) (X1 T0 false 0 Try.f30)=(t30k g rc an).get:=by kernel_rfl
theorem ok30k:os30k.Ok Try.prog:=by
 refine Z4 V2 tab0 (Q0 (all_cons Z5p (all_cons V5z (all_cons V5w all_nil))) (all_cons ok57 (all_cons ok61 (all_cons ok56u (all_cons ok60u all_nil))))) h30 (d:=0) (n0:=0) (S:=lsOf []) Try.func30 (by kernel_rfl) (c:=c30) (by kernel_rfl) rfl (J3 (by kernel_rfl)) (by omega) (by kernel_rfl) ?_
 intro x'' y'' q'' hq''
 obtain⟨(g:MGt),(rc:Int),(an:List RRt),_⟩:=x''
 exact(fn30k g rc an).trans hq''
def J5i:FSpec:=fsT 30 [(MG,true),((.int .i64),false),((.list RR),false)] [(.str,false)] fun(g,rc,an,_)=>t30k g rc an
theorem Q5q:J5i.Ok Try.prog:=J5 fun x'' r'' hr''=>ok30k x'' () r'' hr''
theorem J1m {m:MGt} {sz:Int}:∀ {n:Nat},(Jk m sz n).2=false→∃ k,k < n∧Jk m sz n=(cutA m k,false)∧((bytM (cutA m k)).length:Int)≤sz
 | 0,h=>by cases h
 | n+1,h=>by
   unfold Jk at h ⊢
   cases hd:decide (((bytM (cutA m n)).length:Int)≤sz) with
   | true=>exact⟨n,by omega,rfl,of_decide_eq_true hd⟩
   | false=>
     rw[hd,cond_false] at h
     obtain⟨k,h1,h2,h3⟩:=J1m h
     exact⟨k,by omega,h2,h3⟩
def rcdF (rc:Int):Int:=bif decide (rc < 0) then 2 else bif decide (rc > 15) then 2 else rc
def opcF (op:Int):Int:=bif decide (op < 0) then 0 else bif decide (op > 15) then 0 else op
def ansM (m:MGt) (rc:Int) (an:List RRt):MGt:=(m.1,true,false,false,m.2.2.2.2.1,true,opcF m.2.2.2.2.2.2.1,rcdF rc,flQf (mQ m),flRf an,[],[])
def trnM (m:MGt) (rc:Int):MGt:=(m.1,true,false,true,m.2.2.2.2.1,true,opcF m.2.2.2.2.2.2.1,rcdF rc,[],[],[],[])
def X0p (a t:MGt):MGt:=bif (V8 a 512).2 != 0 then t else (V8 a 512).1
def J1q (m:MGt) (rc:Int) (an:List RRt):MGt:=X0p (ansM m rc an) (trnM m rc)
def Z0o (m:MGt) (rc:Int) (an:List RRt):List UInt8:=bif decide (m.1=m.1) then bytM (J1q m rc an) else []
theorem X1s (m:MGt) (rc:Int) (an:List RRt):Z0o m rc an=bytM (J1q m rc an):=by unfold Z0o;rw[J0 rfl];rfl
def resK (m:MGt) (rc:Int) (an:List RRt):Bool:=smQf (mQ m)&&(smRf an&&okPM (ansM m rc an))
theorem Z3u (rc:Int):0≤rcdF rc∧rcdF rc≤15:=by
 unfold rcdF
 by_cases h:rc < 0
 ·rw[J0 h];show (0:Int)≤2∧(2:Int)≤15;decide
 ·by_cases h2:rc > 15
  ·rw[U0 h,J0 h2];show (0:Int)≤2∧(2:Int)≤15;decide
  ·rw[U0 h,U0 h2];exact⟨by show 0≤rc;omega,by show rc≤15;omega⟩
theorem X4a (op:Int):0≤opcF op∧opcF op≤15:=by
 unfold opcF
 by_cases h:op < 0
 ·rw[J0 h];show (0:Int)≤0∧(0:Int)≤15;decide
 ·by_cases h2:op > 15
  ·rw[U0 h,J0 h2];show (0:Int)≤0∧(0:Int)≤15;decide
  ·rw[U0 h,U0 h2];exact⟨by show 0≤op;omega,by show op≤15;omega⟩
theorem Q50 (l:List QQt):(flQf l).any noQ=false:=by
 cases hb:(flQf l).any noQ with
 | false=>rfl
 | true=>
   obtain⟨q,hx,hn⟩:=List.any_eq_true.1 hb
   have h2:kpQf q=true:=(List.mem_filter.1 hx).2
   unfold kpQf at h2
   unfold noQ at hn
   rw[h2] at hn
   cases hn
theorem X4x (l:List RRt):(flRf l).any noR=false:=by
 cases hb:(flRf l).any noR with
 | false=>rfl
 | true=>
   obtain⟨q,hx,hn⟩:=List.any_eq_true.1 hb
   have h2:kpRf q=true:=(List.mem_filter.1 hx).2
   unfold kpRf at h2
   unfold noR at hn
   rw[h2] at hn
   cases hn
theorem Q2r {m:MGt} {rc:Int} {an:List RRt} (h:okPM (ansM m rc an)=true):Ue (ansM m rc an)=true:=by
 refine Q10 h ?_
 obtain⟨l1,l2,_,_⟩:=Qp.1 (Ux.1 h).2.2
 have l1:(flQf (mQ m)).length≤1500:=l1
 have l2:(flRf an).length≤1500:=l2
 obtain⟨r1,r2⟩:=Z3u rc
 obtain⟨o1,o2⟩:=X4a m.2.2.2.2.2.2.1
 show ((decide (0≤opcF m.2.2.2.2.2.2.1)&&(decide (opcF m.2.2.2.2.2.2.1≤15)&&(decide (0≤rcdF rc)&&decide (rcdF rc≤15))))&&(V06 (flQf (mQ m))&&(Qf (flRf an)&&(Qf []&&Qf []))))=true
 have h2:Qf []=true:=rfl
 have h3:V06 (flQf (mQ m))=true:=by
  unfold V06
  rw[Q50,decide_eq_true (show (flQf (mQ m)).length≤65535 by omega)]
  rfl
 have h4:Qf (flRf an)=true:=by
  unfold Qf
  rw[X4x,decide_eq_true (show (flRf an).length≤65535 by omega)]
  rfl
 rw[h2,h3,h4,J0 o1,J0 o2,J0 r1,J0 r2]
 rfl
theorem Q4z {m:MGt} (h:Ue m=true) (hb:bigM m=true):okPM m=true:=by
 unfold Ue at h
 rw[Bool.and_eq_true,Bool.and_eq_true] at h
 exact Ux.2 ⟨hb,h.2.1,h.2.2⟩
theorem Q0i {m:MGt} (h:Ue m=true):mayM m=true:=(Bool.and_eq_true_iff.1 (show (mayM m&&(rngM m&&lesM m))=true from h)).1
theorem V44 {m:MGt} {rc:Int} (hi:n16C m.1=true):okPM (trnM m rc)=true:=ok_mk hi (Nat.zero_le _) (fun q h=>by cases h)
theorem J2s {m:MGt} {rc:Int} (hi:n16C m.1=true):Ue (trnM m rc)=true:=Q10 (V44 hi) (Q5t (X4a _) (Z3u rc) (Nat.zero_le _) (fun q h=>by cases h))
theorem Z4t {a:MGt} (ha:Ue a=true) (h:(bytM a).length≤512):V8 a 512=(a,0):=by
 unfold V8
 rw[Q0i ha,show szV 512=512 from rfl,J0 (show ((bytM a).length:Int)≤512 by omega)]
 rfl
theorem Q53 {a:MGt} (ha:Ue a=true) (h:¬ (bytM a).length≤512):V8 a 512=bif (Jk a 512 (totM a)).2 then (noM,3) else ((Jk a 512 (totM a)).1,0):=by
 unfold V8
 rw[Q0i ha,show szV 512=512 from rfl,U0 (show ¬ ((bytM a).length:Int)≤512 by omega)]
 rfl
theorem X0u {a:MGt} (t:MGt) (ha:Ue a=true):((bytM a).length≤512∧(V8 a 512).2=0∧(V8 a 512).1=a∧X0p a t=a)∨(∃ k,k < totM a∧¬ (bytM a).length≤512∧(V8 a 512).2=0∧(V8 a 512).1=cutA a k∧X0p a t=cutA a k∧(bytM (cutA a k)).length≤512)∨(¬ (bytM a).length≤512∧(Jk a 512 (totM a)).2=true∧(V8 a 512).2=3∧X0p a t=t):=by
 by_cases h:(bytM a).length≤512
 ·have e:=Z4t ha h
  refine .inl ⟨h,by rw[e],by rw[e],?_⟩
  unfold X0p;rw[e];rfl
 ·have e:=Q53 ha h
  cases hc:(Jk a 512 (totM a)).2 with
  | true=>
    rw[hc] at e
    refine .inr (.inr ⟨h,rfl,by rw[e];rfl,?_⟩)
    unfold X0p;rw[e];rfl
  | false=>
    obtain⟨k,hk,e2,hle⟩:=J1m hc
    rw[hc,e2] at e
    refine .inr (.inl ⟨k,hk,h,by rw[e];rfl,by rw[e];rfl,?_,by omega⟩)
    unfold X0p;rw[e];rfl
theorem X3r {a t:MGt} (ha:okPM a=true) (hg:Ue a=true) (ht:Ue t=true) (hl:(bytM t).length≤512):Ue (X0p a t)=true∧(bytM (X0p a t)).length≤512:=by
 rcases X0u t hg with ⟨h,_,_,e⟩ | ⟨k,_,_,_,_,e,h⟩ | ⟨_,_,_,e⟩
 ·rw[e];exact⟨hg,h⟩
 ·rw[e];exact⟨(J1u hg k).1,h⟩
 ·rw[e];exact⟨ht,hl⟩
theorem Q5o {a t:MGt} {Q:List QQt} {an:List RRt} {X:List UInt8} (hQ:smQf Q=true) (hA:smRf an=true) (ha:okPM a=true) (hg:Ue a=true) (hto:okPM t=true) (htg:Ue t=true) (hl:(bytM t).length≤512) (hX:X=bytM (X0p a t)):(Tr.br (fits (List.length Q) 24) (Tr.br (smQf Q) (Tr.br (fits (List.length an) 40) (Tr.br (smRf an) (Tr.br (okPM a) (Tr.br (Prod.snd (V8 a 512) != (0:Int)) (Tr.br (okPM t) (Tr.ret ([AV.str (putO t)],([]:List LObj))) Tr.no) (Tr.br (okPM (Prod.fst (V8 a 512))) (Tr.ret ([AV.str (putO (Prod.fst (V8 a 512)))],[])) Tr.no)) Tr.no) Tr.no) Tr.no) Tr.no) Tr.no).all fun r=>r=([.str X],[]):=by
 have n1:=Nat.le_of_ble_eq_true (Bool.and_eq_true_iff.1 hQ).1
 have n2:=Nat.le_of_ble_eq_true (Bool.and_eq_true_iff.1 hA).1
 refine Tr.all_t (Q5 (by omega) (by omega)) (Tr.all_t hQ (Tr.all_t (Q5 (by omega) (by omega)) (Tr.all_t hA (Tr.all_t ha ?_))))
 rcases X0u t hg with ⟨h,e1,e2,e⟩ | ⟨k,_,_,e1,e2,e,h⟩ | ⟨_,_,e1,e⟩
 ·rw[e] at hX
  refine Tr.all_f (by rw[e1];rfl) (Tr.all_t (by rw[e2];exact ha) (Tr.all_ret ?_))
  rw[e2,hX,V1e,Z3a (Q0i hg) (by omega)]
 ·rw[e] at hX
  obtain⟨xg,xb⟩:=J1u hg k
  refine Tr.all_f (by rw[e1];rfl) (Tr.all_t (by rw[e2];exact Q4z xg xb) (Tr.all_ret ?_))
  rw[e2,hX,V1e,Z3a (Q0i xg) (by omega)]
 ·rw[e] at hX
  refine Tr.all_t (by rw[e1];rfl) (Tr.all_t hto (Tr.all_ret ?_))
  rw[hX,V1e,Z3a (Q0i htg) (by omega)]
theorem V3h (m:MGt) (rc:Int):(bytM (trnM m rc)).length=12:=rfl
def U1j:FSpec:=J5i.like fun(m,rc,an,_)=>.on (resK m rc an) (Z0o m rc an,())
theorem X5w:U1j.Ok Try.prog:=by
 refine V3 Q5q _ ?_
 rintro⟨(m:MGt),(rc:Int),(an:List RRt),_⟩ y h
 obtain⟨hc,rfl⟩:=Tr.get_on h
 have hc2:resK m rc an=true:=hc
 unfold resK at hc2
 rw[Bool.and_eq_true,Bool.and_eq_true] at hc2
 obtain⟨hQ,hA,hp⟩:=hc2
 have hg:=Q2r hp
 have hi:n16C m.1=true:=(Zk hg).2.1
 refine Q2 (vs:=[.str (Z0o m rc an)]) rfl rfl (Tr.get_of_all ?_)
 show (t30k m rc an).all _
 unfold t30k
 have hX:=X1s m rc an
 have hto:=V44 (rc:=rc) hi
 have htg:=J2s (rc:=rc) hi
 have hl:(bytM (trnM m rc)).length≤512:=by rw[V3h];omega
 unfold J1q at hX
 have hr:∀ v,rcdF rc=v→∀ w,opcF m.2.2.2.2.2.2.1=w→∀ {T:Tr Res},T=(Tr.br (fits (List.length (mQ m)) 24) (Tr.br (smQf (mQ m)) (Tr.br (fits (List.length an) 40) (Tr.br (smRf an) (Tr.br (okPM (m.1,true,false,false,m.2.2.2.2.1,true,w,v,flQf (mQ m),flRf an,[],[])) (Tr.br (Prod.snd (V8 (m.1,true,false,false,m.2.2.2.2.1,true,w,v,flQf (mQ m),flRf an,[],[]) 512) != (0:Int)) (Tr.br (okPM (m.1,true,false,true,m.2.2.2.2.1,true,w,v,[],[],[],[])) (Tr.ret ([AV.str (putO (m.1,true,false,true,m.2.2.2.2.1,true,w,v,[],[],[],[]))],[])) Tr.no) (Tr.br (okPM (Prod.fst (V8 (m.1,true,false,false,m.2.2.2.2.1,true,w,v,flQf (mQ m),flRf an,[],[]) 512))) (Tr.ret ([AV.str (putO (Prod.fst (V8 (m.1,true,false,false,m.2.2.2.2.1,true,w,v,flQf (mQ m),flRf an,[],[]) 512)))],[])) Tr.no)) Tr.no) Tr.no) Tr.no) Tr.no) Tr.no)→T.all fun r=>r=([.str (Z0o m rc an)],[]):=by
  rintro v rfl w rfl T rfl
  exact Q5o hQ hA hp hg hto htg hl hX
 refine Tr.all_br (fun c1=>?_) (fun c1=>Tr.all_br (fun c2=>?_) (fun c2=>?_))
 ·have e:rcdF rc=2:=by unfold rcdF;rw[c1];rfl
  refine Tr.all_br (fun d1=>hr _ e 0 ?_ rfl) (fun d1=>Tr.all_br (fun d2=>hr _ e 0 ?_ rfl) (fun d2=>hr _ e m.2.2.2.2.2.2.1 ?_ rfl))
  ·unfold opcF;rw[d1];rfl
  ·unfold opcF;rw[d1,d2];rfl
  ·unfold opcF;rw[d1,d2];rfl
 ·have e:rcdF rc=2:=by unfold rcdF;rw[c1,c2];rfl
  refine Tr.all_br (fun d1=>hr _ e 0 ?_ rfl) (fun d1=>Tr.all_br (fun d2=>hr _ e 0 ?_ rfl) (fun d2=>hr _ e m.2.2.2.2.2.2.1 ?_ rfl))
  ·unfold opcF;rw[d1];rfl
  ·unfold opcF;rw[d1,d2];rfl
  ·unfold opcF;rw[d1,d2];rfl
 ·have e:rcdF rc=rc:=by unfold rcdF;rw[c1,c2];rfl
  refine Tr.all_br (fun d1=>hr _ e 0 ?_ rfl) (fun d1=>Tr.all_br (fun d2=>hr _ e 0 ?_ rfl) (fun d2=>hr _ e m.2.2.2.2.2.2.1 ?_ rfl))
  ·unfold opcF;rw[d1];rfl
  ·unfold opcF;rw[d1,d2];rfl
  ·unfold opcF;rw[d1,d2];rfl
def V1u:OSpec:={ f:=27,sh:=[],so:=[],F:=fun _ _=>.ret ([.bool true],[]) }
theorem ok27d:V1u.Ok Try.prog:=by
 rintro _ _ r h
 cases h
 exact Q61
noncomputable def b29:Code:=V4 c29 0
def ls29:LoopSpec:={ bid:=0,sh:=[.d (.list RR) false,.d (.int .i64) false],so:=[],F:=fun(l,i,_) _=>.on2 (decide (i=0)) (Um (l.take 31)) (.exit 0,[.list RR l,.dead],[]) (.ret,[.list RR l,.bool false],[]) }
def r29 (l:List RRt) (i:Int):Tr (St⊕(Ex×St)):=.br (decide (i < (↑l.length:Int))) (.br (decide (i < 31)) (.br (decide (0≤i)) (.br (decide (i < (↑l.length:Int))) (.br (decide ((↑(List.length (l.getD i.toNat (Ty.dflt RR)).1):Int) > 300)) (.ret (.inr (.ret,stOf [0,2] [.list RR l,.bool false] []))) (.br (decide (0≤i)) (.br (decide (i < (↑l.length:Int))) (.br (decide ((↑(List.length (l.getD i.toNat (Ty.dflt RR)).2.2.2.2):Int) > 300)) (.ret (.inr (.ret,stOf [0,2] [.list RR l,.bool false] []))) (.ret (.inl (stOf [0,3] [.list RR l,.int .i64 (IntKind.wrap .i64 (i+1))] [])))) .no) .no)) .no) .no) (.ret (.inr (.exit 0,stOf [0,2] [.list RR l,.dead] [])))) (.ret (.inr (.exit 0,stOf [0,2] [.list RR l,.dead] [])))
theorem Z56 (lp:Lp) (l:List RRt) (i:Int):evC T0 (orcB [] []) lp b29 0 (stOf [0,3] [.list RR l,.int .i64 i] []) (Z1 [0,3] [0,2] 0)=(r29 l i).get:=by kernel_rfl
theorem wf29 (l:List RRt) (I'':Int→Prop) (m'':Int→Nat) (r'':Ex×St) (h:∀ (i:Int),I'' i→(r29 l i).all fun x''=>x''=.inr r''∨∃ (i':Int),x''=.inl (stOf [0,3] [.list RR l,.int .i64 i'] [])∧I'' i'∧m'' i' < m'' i) (lp:Lp) (i:Int):I'' i→
    Z3 (fun st=>evC T0 (orcB [] []) lp b29 0 st (Z1 [0,3] [0,2] 0)) (stOf [0,3] [.list RR l,.int .i64 i] [])=some r'':=
 Z5 (fun a'':Int=>stOf [0,3] [.list RR l,.int .i64 a''] []) (fun a''=>I'' a'') (fun a''=>m'' a'') r'' (fun a''=>r29 l a'')
  (fun a'' x hx=>(Z56 lp l a'').trans hx) (fun a'' ha=>Tr.all_mono (fun x'' hx=>hx.imp id fun⟨i',h1,h2,h3⟩=>⟨(i'),h1,h2,h3⟩) (h (a'') ha)) (i)
theorem V4j {l:List RRt} {k n:Nat} (hk:k < l.length) (hn:k < n):Um ((l.take n).drop k)=((decide ((l.getD k (Ty.dflt RR)).1.length≤300)&&decide ((l.getD k (Ty.dflt RR)).2.2.2.2.length≤300))&&Um ((l.take n).drop (k+1))):=by
 rw[Zd (l:=l.take n) (k:=k) (by rw[List.length_take];omega) (Ty.dflt RR)]
 have:(l.take n).getD k (Ty.dflt RR)=l.getD k (Ty.dflt RR):=by
  rw[List.getD_eq_getElem?_getD,List.getElem?_take,if_pos hn,←List.getD_eq_getElem?_getD]
 rw[this]
 rfl
theorem X64:ls29.Ok T0 (orcB [] []) h29 0 0 b29:=by
 intro q'' hq'' x'' y'' r'' h
 obtain⟨(l:List RRt),(i:Int),_⟩:=x''
 obtain⟨hc,rfl⟩:=Tr.get_on2 h
 show Z3 (fun st=>evC T0 (orcB [] []) (lpN T0 (orcB [] []) h29 0 q'') b29 0 st (Z1 [0,3] [0,2] 0)) (stOf [0,3] [.list RR l,.int .i64 i] [])=some ((bif Um (l.take 31) then (.exit 0,[.list RR l,.dead],[]) else (.ret,[.list RR l,.bool false],[]):Ex×List AV×List LObj).1,stOf [0,2] (bif Um (l.take 31) then (.exit 0,[.list RR l,.dead],[]) else (.ret,[.list RR l,.bool false],[]):Ex×List AV×List LObj).2.1 (bif Um (l.take 31) then (.exit 0,[.list RR l,.dead],[]) else (.ret,[.list RR l,.bool false],[]):Ex×List AV×List LObj).2.2)
 have hc:=of_decide_eq_true hc
 subst hc
 refine wf29 l (fun i=>0≤i∧i≤l.length∧i≤31∧Um ((l.take 31).drop i.toNat)=Um (l.take 31)) (fun i=>(31 - i).toNat) _ ?_ _ 0 ⟨by omega,by omega,by omega,rfl⟩
 rintro i ⟨h0,h1,h2,he⟩
 unfold r29
 rw[IntWalk.i64_in (i+1) (by omega)]
 by_cases hi:i < l.length
 ·by_cases hj:i < 31
  ·rw[V4j (by omega) (by omega)] at he
   generalize l.getD i.toNat (Ty.dflt RR)=x at *
   refine Tr.all_t (J0 hi) (Tr.all_t (J0 hj) (Tr.all_t (J0 h0) (Tr.all_t (J0 hi) ?_)))
   by_cases hx:x.1.length≤300
   ·by_cases hy:x.2.2.2.2.length≤300
    ·refine Tr.all_f (U0 (by omega)) (Tr.all_t (J0 h0) (Tr.all_t (J0 hi) (Tr.all_f (U0 (by omega)) (Tr.all_ret (.inr ⟨_,rfl,⟨by omega,by omega,by omega,?_⟩,by omega⟩)))))
     rw[←he,J0 hx,J0 hy,show (i+1).toNat=i.toNat+1 by omega]
     rfl
    ·rw[U0 hy,Bool.and_false,Bool.false_and] at he
     rw[←he]
     exact Tr.all_f (U0 (by omega)) (Tr.all_t (J0 h0) (Tr.all_t (J0 hi) (Tr.all_t (J0 (by omega)) (Tr.all_ret (.inl rfl)))))
   ·rw[U0 hx,Bool.false_and,Bool.false_and] at he
    rw[←he]
    exact Tr.all_t (J0 (by omega)) (Tr.all_ret (.inl rfl))
  ·have:i=31:=by omega
   subst this
   rw[List.drop_eq_nil_of_le (by rw[List.length_take];omega)] at he
   rw[←he]
   exact Tr.all_t (J0 hi) (Tr.all_f (U0 hj) (Tr.all_ret (.inl rfl)))
 ·rw[List.drop_eq_nil_of_le (by rw[List.length_take];omega)] at he
  rw[←he]
  exact Tr.all_f (U0 hi) (Tr.all_ret (.inl rfl))
def t29 (l:List RRt):Tr Res:=.br (Um (List.take 31 l)) (.ret ([.bool (decide ((↑l.length:Int)≤30))],[])) (.ret ([.bool false],[]))
def os29:OSpec:={ f:=29,sh:=[.d (.list RR) false],so:=[],F:=fun(l,_) _=>t29 l }
theorem fn29 (l:List RRt):evC T0 (orcB [] []) (lpOf h29 0 (lsOf [ls29])) c29 1000000 (U1 [.list RR l] [] Try.f29.ntmps) (X1 T0 false 0 Try.f29)=(t29 l).get:=by kernel_rfl
theorem ok29:os29.Ok Try.prog:=by
 refine Z4 V2 tab0 (Q0 all_nil all_nil) h29 (d:=0) (n0:=0) (S:=lsOf [ls29]) Try.func29 (by kernel_rfl) (c:=c29) (by kernel_rfl) rfl (Q4 (xs:=[(0,b29)]) (by kernel_rfl) (all_cons (X5 X64) all_nil)) (by omega) (by kernel_rfl) ?_
 intro x'' y'' q'' hq''
 obtain⟨(l:List RRt),_⟩:=x''
 exact(fn29 l).trans hq''
def fs29:FSpec:=fsT 29 [((.list RR),false)] [(.bool,false)] fun(l,_)=>t29 l
theorem okf29:fs29.Ok Try.prog:=J5 fun x'' r'' hr''=>ok29 x'' () r'' hr''
def fewF (l:List RRt):Bool:=decide (l.length≤30)&&Um l
def U1v:FSpec:=fs29.like fun(l,_)=>.ret (fewF l,())
theorem X60:U1v.Ok Try.prog:=by
 refine V3 okf29 _ ?_
 rintro⟨(l:List RRt),_⟩ y h
 cases h
 refine Q2 (vs:=[.bool (fewF l)]) rfl rfl (Tr.get_of_all ?_)
 show (t29 l).all _
 unfold t29 fewF
 by_cases hl:l.length≤30
 ·rw[List.take_of_length_le (by omega),J0 hl]
  refine Tr.all_br (fun h=>Tr.all_ret ?_) (fun h=>Tr.all_ret ?_)
  ·rw[h,J0 (show (l.length:Int)≤30 by omega)];rfl
  ·rw[h];rfl
 ·rw[U0 hl]
  refine Tr.all_br (fun h=>Tr.all_ret ?_) (fun h=>Tr.all_ret rfl)
  rw[U0 (show ¬ (l.length:Int)≤30 by omega)]
  rfl
def rsT (m:MGt) (rc:Int) (an:List RRt):MGt×Int:=tkV6 (Z0o m rc an)
def faC (an w:List RRt) (i:Int):Bool:=fewF an&&(List.isEmpty w&&decide (i=0))
noncomputable def b7:Code:=V4 c7 0
def ls7:LoopSpec:={ bid:=0,sh:=[.d (.int .i64) false,.d (.list RR) false,.d .bool false,.ptr 0 0,.row 1,.d (.int .i64) false],so:=[MOs,.row RR],F:=fun(rc,an,up,i,_) ((mi,mqr,maa,mtc,mrd,mra,mop,mrc,mq,man,mns,mar,_),w,_)=>.on (faC an w i) (.exit 0,[.int .i64 rc,.bool up,.ptr 0 0,.rowA 1],[MO mi mqr maa mtc mrd mra mop mrc mq man mns mar,.row RR (flRf an)]) }
def r7 (rc:Int) (an:List RRt) (up:Bool) (i mi:Int) (mqr maa mtc mrd mra:Bool) (mop mrc:Int) (mq:List QQt) (man mns mar w:List RRt):Tr (St⊕(Ex×St)):=.br (decide (i < (↑an.length:Int))) (.br (decide (0≤i)) (.br (decide (i < (↑an.length:Int))) (.br (Zh (an.getD i.toNat (Ty.dflt RR))) (.br (recV (an.getD i.toNat (Ty.dflt RR))) (.br (decide (0≤i)) (.br (decide (i < (↑an.length:Int))) (.br (fits (List.length w+1) 40) (.ret (.inl (stOf [1,2,7,9,11,12] [.int .i64 rc,.list RR an,.bool up,.ptr 0 0,.rowA 1,.int .i64 (IntKind.wrap .i64 (i+1))] [MO mi mqr maa mtc mrd mra mop mrc mq man mns mar,.row RR (w++[List.getD an i.toNat (Ty.dflt RR)])]))) .no) .no) .no) (.ret (.inl (stOf [1,2,7,9,11,12] [.int .i64 rc,.list RR an,.bool up,.ptr 0 0,.rowA 1,.int .i64 (IntKind.wrap .i64 (i+1))] [MO mi mqr maa mtc mrd mra mop mrc mq man mns mar,.row RR w])))) .no) .no) .no) (.ret (.inr (.exit 0,stOf [1,7,9,11] [.int .i64 rc,.bool up,.ptr 0 0,.rowA 1] [MO mi mqr maa mtc mrd mra mop mrc mq man mns mar,.row RR w])))
theorem X61 (lp:Lp) (rc:Int) (an:List RRt) (up:Bool) (i mi:Int) (mqr maa mtc mrd mra:Bool) (mop mrc:Int) (mq:List QQt) (man mns mar w:List RRt):evC T0 (orcB [Q1n,U1v,U1j,Z1u,Z1p,U09] [V1u]) lp b7 0 (stOf [1,2,7,9,11,12] [.int .i64 rc,.list RR an,.bool up,.ptr 0 0,.rowA 1,.int .i64 i] [MO mi mqr maa mtc mrd mra mop mrc mq man mns mar,.row RR w]) (Z1 [1,2,7,9,11,12] [1,7,9,11] 0)=(r7 rc an up i mi mqr maa mtc mrd mra mop mrc mq man mns mar w).get:=by kernel_rfl
set_option maxHeartbeats 4000000 in
theorem wf7 (rc:Int) (an:List RRt) (up:Bool) (mi:Int) (mqr:Bool) (maa:Bool) (mtc:Bool) (mrd:Bool) (mra:Bool) (mop:Int) (mrc:Int) (mq:List QQt) (man:List RRt) (mns:List RRt) (mar:List RRt) (I'':Int→List RRt→Prop) (m'':Int→List RRt→Nat) (r'':Ex×St) (h:∀ (i:Int) (w:List RRt),I'' i w→(r7 rc an up i mi mqr maa mtc mrd mra mop mrc mq man mns mar w).all fun x''=>x''=.inr r''∨∃ (i':Int) (w':List RRt),x''=.inl (stOf [1,2,7,9,11,12] [.int .i64 rc,.list RR an,.bool up,.ptr 0 0,.rowA 1,.int .i64 i'] [MO mi mqr maa mtc mrd mra mop mrc mq man mns mar,.row RR w'])∧I'' i' w'∧m'' i' w' < m'' i w) (lp:Lp) (i:Int) (w:List RRt):I'' i w→
    Z3 (fun st=>evC T0 (orcB [Q1n,U1v,U1j,Z1u,Z1p,U09] [V1u]) lp b7 0 st (Z1 [1,2,7,9,11,12] [1,7,9,11] 0)) (stOf [1,2,7,9,11,12] [.int .i64 rc,.list RR an,.bool up,.ptr 0 0,.rowA 1,.int .i64 i] [MO mi mqr maa mtc mrd mra mop mrc mq man mns mar,.row RR w])=some r'':=
 Z5 (fun a'':Int×List RRt=>stOf [1,2,7,9,11,12] [.int .i64 rc,.list RR an,.bool up,.ptr 0 0,.rowA 1,.int .i64 a''.1] [MO mi mqr maa mtc mrd mra mop mrc mq man mns mar,.row RR a''.2]) (fun a''=>I'' a''.1 a''.2) (fun a''=>m'' a''.1 a''.2) r'' (fun a''=>r7 rc an up a''.1 mi mqr maa mtc mrd mra mop mrc mq man mns mar a''.2)
  (fun a'' x hx=>(X61 lp rc an up a''.1 mi mqr maa mtc mrd mra mop mrc mq man mns mar a''.2).trans hx) (fun a'' ha=>Tr.all_mono (fun x'' hx=>hx.imp id fun⟨i',w',h1,h2,h3⟩=>⟨(i',w'),h1,h2,h3⟩) (h (a''.1) (a''.2) ha)) (i,w)
theorem V4u {l:List RRt} {k:Nat} (h:k < l.length):flRf (l.take (k+1))=flRf (l.take k)++if kpRf (l.getD k (Ty.dflt RR))=true then [l.getD k (Ty.dflt RR)] else []:=V04 h _
theorem J2p {l:List RRt} (h:fewF l=true):l.length≤30∧(∀ r∈l,r.1.length≤300∧r.2.2.2.2.length≤300)∧(∀ r∈l,Zh r=true)∧okL l=true:=by
 unfold fewF at h
 rw[Bool.and_eq_true,decide_eq_true_eq] at h
 have h2:=X2v.1 h.2
 have h3:=Z14 (l:=l) (by omega) fun r hr=>by have:=h2 r hr;omega
 refine⟨h.1,h2,?_,h3⟩
 unfold okL at h3
 rw[Bool.and_eq_true,List.all_eq_true] at h3
 exact h3.2
theorem loop7:ls7.Ok T0 (orcB [Q1n,U1v,U1j,Z1u,Z1p,U09] [V1u]) h7 0 0 b7:=by
 intro q'' hq'' x'' y'' r'' h
 obtain⟨(rc:Int),(an:List RRt),(up:Bool),(i:Int),_⟩:=x''
 obtain⟨⟨(mi:Int),(mqr:Bool),(maa:Bool),(mtc:Bool),(mrd:Bool),(mra:Bool),(mop:Int),(mrc:Int),(mq:List QQt),(man:List RRt),(mns:List RRt),(mar:List RRt),_⟩,(w:List RRt),_⟩:=y''
 obtain⟨hc,rfl⟩:=Tr.get_on h
 show Z3 (fun st=>evC T0 (orcB [Q1n,U1v,U1j,Z1u,Z1p,U09] [V1u]) (lpN T0 (orcB [Q1n,U1v,U1j,Z1u,Z1p,U09] [V1u]) h7 0 q'') b7 0 st (Z1 [1,2,7,9,11,12] [1,7,9,11] 0)) (stOf [1,2,7,9,11,12] [.int .i64 rc,.list RR an,.bool up,.ptr 0 0,.rowA 1,.int .i64 i] [MO mi mqr maa mtc mrd mra mop mrc mq man mns mar,.row RR w])=some (.exit 0,stOf [1,7,9,11] ([.int .i64 rc,.bool up,.ptr 0 0,.rowA 1]) ([MO mi mqr maa mtc mrd mra mop mrc mq man mns mar,.row RR (flRf an)]))
 simp only[faC,Bool.and_eq_true,decide_eq_true_eq,List.isEmpty_iff] at hc
 obtain⟨hf,rfl,rfl⟩:=hc
 obtain⟨hl,_,hb,_⟩:=J2p hf
 refine wf7 rc an up mi mqr maa mtc mrd mra mop mrc mq man mns mar (fun i w=>0≤i∧i≤an.length∧w=flRf (an.take i.toNat)) (fun i w=>(an.length - i).toNat) _ ?_ _ 0 [] ⟨by omega,by omega,rfl⟩
 rintro i w ⟨h0,h1,he⟩
 unfold r7
 rw[U8 h0 h1 (by omega)]
 by_cases hi:i < an.length
 ·have hx:=hb _ (Ql (l:=an) (k:=i.toNat) (by omega) (Ty.dflt RR))
  have hw:w.length≤30:=by rw[he];have:=V2c kpRf an i.toNat;show ((an.take i.toNat).filter kpRf).length≤30;omega
  have hn:=V4u (l:=an) (k:=i.toNat) (by omega)
  rw[←he] at hn
  generalize an.getD i.toNat (Ty.dflt RR)=x at *
  refine Tr.all_t (J0 hi) (Tr.all_t (J0 h0) (Tr.all_t (J0 hi) (Tr.all_t hx (Tr.all_br (fun h=>?_) fun h=>?_))))
  ·have h:kpRf x=true:=h
   rw[if_pos h] at hn
   refine Tr.all_t (J0 h0) (Tr.all_t (J0 hi) (Tr.all_t (Q5 (by omega) (by omega)) (Tr.all_ret (.inr ⟨_,_,rfl,⟨by omega,by omega,?_⟩,by omega⟩))))
   rw[show (i+1).toNat=i.toNat+1 by omega,hn]
  ·have h:kpRf x=false:=h
   rw[if_neg (by rw[h];simp),List.append_nil] at hn
   refine Tr.all_ret (.inr ⟨_,_,rfl,⟨by omega,by omega,?_⟩,by omega⟩)
   rw[show (i+1).toNat=i.toNat+1 by omega,hn]
 ·refine Tr.all_f (U0 hi) (Tr.all_ret (.inl ?_))
  rw[List.take_of_length_le (by omega)] at he
  rw[he]
def t7 (g:MGt) (rc:Int) (an:List RRt):Tr Res:=.br (!fewM g) (.ret ([.bool true],[])) (.br (!fewF an) (.ret ([.bool true],[])) (.br (resK g rc an) (.br (smS (Z0o g rc an)) (.br ((rsT g rc an).2 != 0) (.ret ([.bool false],[])) (.br (decide ((↑(List.length (Z0o g rc an)):Int) > 512)) (.ret ([.bool false],[])) (.br (!(rsT g rc an).1.2.1) (.ret ([.bool false],[])) (.br (!(rsT g rc an).1.2.2.2.2.2.1) (.ret ([.bool false],[])) (.br ((rsT g rc an).1.1 != g.1) (.ret ([.bool false],[])) (.br (!(rsT g rc an).1.2.2.2.2.1==g.2.2.2.2.1) (.ret ([.bool false],[])) (.br (decide (IntKind.wrap .i64 ((↑(List.length (rsT g rc an).1.2.2.2.2.2.2.2.2.2.2.1):Int)+(↑(List.length (rsT g rc an).1.2.2.2.2.2.2.2.2.2.2.2):Int)) > 0)) (.ret ([.bool false],[])) (.br (faC an [] 0) (.br (decide (rc≥0)) (.br (decide ((↑(List.length (rsT g rc an).1.2.2.2.2.2.2.2.2.2.1):Int)≤(↑(List.length (flRf an)):Int))) (.br (decide (0≤(↑(List.length (rsT g rc an).1.2.2.2.2.2.2.2.2.2.1):Int))&&decide ((↑(List.length (rsT g rc an).1.2.2.2.2.2.2.2.2.2.1):Int)≤(↑(List.length (flRf an)):Int))) (.br (Nat.ble (List.length (rsT g rc an).1.2.2.2.2.2.2.2.2.2.1) 1000000) (.br (decide ((rsT g rc an).1.2.2.2.2.2.2.2.2.2.1=List.take (Int.toNat (↑(List.length (rsT g rc an).1.2.2.2.2.2.2.2.2.2.1):Int) - Int.toNat 0) (List.drop (Int.toNat 0) (flRf an)))) (.br (rsT g rc an).1.2.2.2.1 (.br (decide (rc≤15)) (.br ((rsT g rc an).1.2.2.2.2.2.2.2.1==rc) (.ret ([.bool true],[])) (.br (!decide (rc≤15)) (.ret ([.bool ((rsT g rc an).1.2.2.2.2.2.2.2.1==2)],[])) (.ret ([.bool false],[])))) (.br (!decide (rc≤15)) (.ret ([.bool ((rsT g rc an).1.2.2.2.2.2.2.2.1==2)],[])) (.ret ([.bool false],[])))) (.br ((↑(List.length (rsT g rc an).1.2.2.2.2.2.2.2.2.2.1):Int)==(↑(List.length (flRf an)):Int)) (.br (decide (rc≤15)) (.br ((rsT g rc an).1.2.2.2.2.2.2.2.1==rc) (.ret ([.bool true],[])) (.br (!decide (rc≤15)) (.ret ([.bool ((rsT g rc an).1.2.2.2.2.2.2.2.1==2)],[])) (.ret ([.bool false],[])))) (.br (!decide (rc≤15)) (.ret ([.bool ((rsT g rc an).1.2.2.2.2.2.2.2.1==2)],[])) (.ret ([.bool false],[])))) (.ret ([.bool false],[])))) (.ret ([.bool false],[]))) .no) .no) (.ret ([.bool false],[]))) (.br (decide ((↑(List.length (rsT g rc an).1.2.2.2.2.2.2.2.2.2.1):Int)≤(↑(List.length (flRf an)):Int))) (.br (decide (0≤(↑(List.length (rsT g rc an).1.2.2.2.2.2.2.2.2.2.1):Int))&&decide ((↑(List.length (rsT g rc an).1.2.2.2.2.2.2.2.2.2.1):Int)≤(↑(List.length (flRf an)):Int))) (.br (Nat.ble (List.length (rsT g rc an).1.2.2.2.2.2.2.2.2.2.1) 1000000) (.br (decide ((rsT g rc an).1.2.2.2.2.2.2.2.2.2.1=List.take (Int.toNat (↑(List.length (rsT g rc an).1.2.2.2.2.2.2.2.2.2.1):Int) - Int.toNat 0) (List.drop (Int.toNat 0) (flRf an)))) (.br (rsT g rc an).1.2.2.2.1 (.ret ([.bool ((rsT g rc an).1.2.2.2.2.2.2.2.1==2)],[])) (.br ((↑(List.length (rsT g rc an).1.2.2.2.2.2.2.2.2.2.1):Int)==(↑(List.length (flRf an)):Int)) (.ret ([.bool ((rsT g rc an).1.2.2.2.2.2.2.2.1==2)],[])) (.ret ([.bool false],[])))) (.ret ([.bool false],[]))) .no) .no) (.ret ([.bool false],[])))) .no)))))))) .no) .no))
def os7:OSpec:={ f:=7,sh:=[.d MG true,.d (.int .i64) false,.d (.list RR) false],so:=[],F:=fun(g,rc,an,_) _=>t7 g rc an }
theorem fn7 (g:MGt) (rc:Int) (an:List RRt):evC T0 (orcB [Q1n,U1v,U1j,Z1u,Z1p,U09] [V1u]) (lpOf h7 0 (lsOf [ls7])) c7 1000000 (U1 [AV.ofTy MG g true,.int .i64 rc,.list RR an] [] Try.f7.ntmps) (X1 T0 false 0 Try.f7)=(t7 g rc an).get:=by kernel_rfl
theorem ok7:os7.Ok Try.prog:=by
 refine Z4 V2 tab0 (Q0 (all_cons Z5r (all_cons X60 (all_cons X5w (all_cons V5v (all_cons J62 (all_cons U0q all_nil)))))) (all_cons ok27d all_nil)) h7 (d:=0) (n0:=0) (S:=lsOf [ls7]) Try.func7 (by kernel_rfl) (c:=c7) (by kernel_rfl) rfl (Q4 (xs:=[(0,b7)]) (by kernel_rfl) (all_cons (X5 loop7) all_nil)) (by omega) (by kernel_rfl) ?_
 intro x'' y'' q'' hq''
 obtain⟨(g:MGt),(rc:Int),(an:List RRt),_⟩:=x''
 exact(fn7 g rc an).trans hq''
theorem V3c {l:List QQt} {q:QQt} (h:q∈flQf l):q∈l:=(List.mem_filter.1 h).1
theorem X3e {l:List RRt} {r:RRt} (h:r∈flRf l):r∈l:=(List.mem_filter.1 h).1
theorem X63 {g:MGt} {rc:Int} {an:List RRt} (hi:n16C g.1=true) (hQ:(mQ g).length≤1500) (hq:∀ q∈mQ g,q.1.length≤300) (hr:∀ q∈mQ g,rngQ q=true) (hA:an.length≤30) (ha:∀ r∈an,r.1.length≤300∧r.2.2.2.2.length≤300) (har:∀ r∈an,rngR r=true):resK g rc an=true:=by
 have l1:(flQf (mQ g)).length≤(mQ g).length:=List.length_filter_le _ _
 have l2:(flRf an).length≤an.length:=List.length_filter_le _ _
 have h1:okQ (mQ g)=true:=Q34 (by omega) fun q h=>by have:=hq q h;omega
 have h2:okL an=true:=Z14 (by omega) fun r h=>by have:=ha r h;omega
 have h3:okQ (flQf (mQ g))=true:=Q34 (by omega) fun q h=>by have:=hq q (V3c h);omega
 have h4:okL (flRf an)=true:=Z14 (by omega) fun r h=>by have:=ha r (X3e h);omega
 have hp:okPM (ansM g rc an)=true:=by
  refine Ux.2 ⟨?_,?_,?_⟩
  ·show (okQ (flQf (mQ g))&&(okL (flRf an)&&(okL []&&okL [])))=true
   rw[h3,h4]
   rfl
  ·show (n16C g.1&&((flQf (mQ g)).all rngQ&&(flRf an++([]++[])).all rngR))=true
   rw[hi,List.all_eq_true.2 fun q h=>hr q (V3c h),List.append_nil,List.append_nil,List.all_eq_true.2 fun r h=>har r (X3e h)]
   rfl
  ·exact Qp.2 ⟨by show (flQf (mQ g)).length≤1500;omega,by show (flRf an).length≤1500;omega,Nat.zero_le _,Nat.zero_le _⟩
 unfold resK
 rw[hp,show smQf (mQ g)=true from h1,show smRf an=true from h2]
 rfl
theorem Q2w {g:MGt} {rc:Int} {an:List RRt} (h:okPM (ansM g rc an)=true):∃ (tc:Bool) (Q:List QQt) (n:Nat),n≤(flRf an).length∧(tc=true∨n=(flRf an).length)∧rsT g rc an=((g.1,true,false,tc,g.2.2.2.2.1,true,opcF g.2.2.2.2.2.2.1,rcdF rc,Q,(flRf an).take n,[],[]),0)∧(Z0o g rc an).length≤512:=by
 have hg:=Q2r h
 have hi:n16C g.1=true:=(Zk hg).2.1
 obtain⟨pg,pl⟩:=X3r h hg (J2s (rc:=rc) hi) (by rw[V3h];omega)
 have e:rsT g rc an=(J1q g rc an,0):=by unfold rsT;rw[X1s];exact(J3y pg).1
 have hl:(Z0o g rc an).length≤512:=by rw[X1s];exact pl
 rcases X0u (trnM g rc) hg with ⟨_,_,_,e2⟩ | ⟨k,_,_,_,_,e2,_⟩ | ⟨_,_,_,e2⟩
 ·refine⟨false,flQf (mQ g),(flRf an).length,Nat.le_refl _,.inr rfl,?_,hl⟩
  rw[e,show J1q g rc an=ansM g rc an from e2,List.take_length]
  rfl
 ·refine⟨true,flQf (mQ g),min k (flRf an).length,Nat.min_le_right _ _,.inl rfl,?_,hl⟩
  rw[e,show J1q g rc an=cutA (ansM g rc an) k from e2]
  show ((g.1,true,false,true,g.2.2.2.2.1,true,opcF g.2.2.2.2.2.2.1,rcdF rc,flQf (mQ g),(flRf an).take k,([]:List RRt).take _,([]:List RRt).take _),(0:Int))=_
  rw[List.take_nil,List.take_nil,←List.take_take,List.take_length]
 ·refine⟨true,[],0,Nat.zero_le _,.inl rfl,?_,hl⟩
  rw[e,show J1q g rc an=trnM g rc from e2]
  rfl
theorem Z44 {rc:Int} (h:0≤rc∧rc≤15):rcdF rc=rc:=by
 unfold rcdF;rw[U0 (by omega),U0 (by omega)];rfl
theorem J3c {rc:Int} (h:¬ (0≤rc∧rc≤15)):rcdF rc=2:=by
 unfold rcdF
 by_cases h1:rc < 0
 ·rw[J0 h1];rfl
 ·rw[U0 h1,J0 (show rc > 15 by omega)];rfl
theorem frontAnswers_all (g:MGt) (rc:Int) (an:List RRt) (h1:okT MG g) (h2:okT (.list RR) an):(t7 g rc an).all fun r=>r=([.bool true],[]):=by
 unfold t7
 refine Tr.all_br (fun _=>Tr.all_ret rfl) fun c1=>Tr.all_br (fun _=>Tr.all_ret rfl) fun c2=>?_
 have c1:fewM g=true:=by simpa using c1
 have c2:fewF an=true:=by simpa using c2
 obtain⟨⟨lq,_,_,_⟩,_,hq⟩:=Z3n c1
 obtain⟨la,ha,_,_⟩:=J2p c2
 have hr:=U46 h1
 have hr':(n16C g.1&&((mQ g).all rngQ&&(Jr g).all rngR))=true:=hr
 rw[Bool.and_eq_true,Bool.and_eq_true,List.all_eq_true] at hr'
 have hres:resK g rc an=true:=X63 hr'.1 (by omega) hq hr'.2.1 la ha (List.all_eq_true.1 (Z0w h2))
 have hp:okPM (ansM g rc an)=true:=by
  unfold resK at hres
  rw[Bool.and_eq_true,Bool.and_eq_true] at hres
  exact hres.2.2
 obtain⟨tc,Q,n,hn,htc,hX,hl⟩:=Q2w hp
 have hlen:((flRf an).take n).length=n:=by rw[List.length_take];omega
 have l2:(flRf an).length≤an.length:=List.length_filter_le _ _
 have hfa:faC an [] 0=true:=by unfold faC;rw[c2];rfl
 rw[hX]
 dsimp only
 rw[hlen]
 have hnb:Nat.ble n 1000000=true:=Nat.ble_eq_true_of_le (by omega)
 have htk:decide ((flRf an).take n=List.take (Int.toNat (n:Int) - Int.toNat 0) (List.drop (Int.toNat 0) (flRf an)))=true:=by
  refine decide_eq_true ?_
  rw[Int.toNat_natCast]
  rfl
 have hbd:(decide ((0:Int)≤(n:Int))&&decide ((n:Int)≤((flRf an).length:Int)))=true:=by rw[J0 (by omega),J0 (by omega)];rfl
 refine Tr.all_t hres (Tr.all_t (decide_eq_true (by omega)) (Tr.all_f rfl (Tr.all_f (U0 (by omega)) (Tr.all_f rfl (Tr.all_f rfl (Tr.all_f (bne_self_eq_false _) (Tr.all_f (by simp) (Tr.all_f rfl (Tr.all_t hfa ?_)))))))))
 by_cases r0:rc≥0
 ·refine Tr.all_t (J0 r0) (Tr.all_t (J0 (by omega)) (Tr.all_t hbd (Tr.all_t hnb (Tr.all_t htk ?_))))
  have tail:∀ {T:Tr Res},T=(Tr.br (decide (rc≤(15:Int))) (Tr.br (rcdF rc==rc) (Tr.ret ([AV.bool true],[])) (Tr.br (!decide (rc≤(15:Int))) (Tr.ret ([AV.bool (rcdF rc==(2:Int))],[])) (Tr.ret ([AV.bool false],[])))) (Tr.br (!decide (rc≤(15:Int))) (Tr.ret ([AV.bool (rcdF rc==(2:Int))],[])) (Tr.ret ([AV.bool false],[]))))→T.all fun r=>r=([.bool true],[]):=by
   rintro T rfl
   by_cases r1:rc≤15
   ·exact Tr.all_t (J0 r1) (Tr.all_t (by rw[Z44 ⟨by omega,r1⟩];simp) (Tr.all_ret rfl))
   ·refine Tr.all_f (U0 r1) (Tr.all_t (by rw[U0 r1];rfl) (Tr.all_ret ?_))
    rw[J3c (by omega)]
    rfl
  cases htt:tc with
  | true=>exact Tr.all_t rfl (tail rfl)
  | false=>
    have:n=(flRf an).length:=by rcases htc with h | h;(rw[htt] at h;cases h);exact h
    exact Tr.all_f rfl (Tr.all_t (by rw[this];simp) (tail rfl))
 ·have e2:=J3c (rc:=rc) (by omega)
  refine Tr.all_f (U0 r0) (Tr.all_t (J0 (by omega)) (Tr.all_t hbd (Tr.all_t hnb (Tr.all_t htk ?_))))
  rw[e2]
  cases htt:tc with
  | true=>exact Tr.all_t rfl (Tr.all_ret rfl)
  | false=>
    have:n=(flRf an).length:=by rcases htc with h | h;(rw[htt] at h;cases h);exact h
    exact Tr.all_f rfl (Tr.all_t (by rw[this];simp) (Tr.all_ret rfl))
theorem sem7 (g:MGt) (rc:Int) (an:List RRt) (h1:okT MG g) (h2:okT (.list RR) an):SemF Try.prog 7 [mgA6 g,.int .i64 rc,.list RR an] [] [.bool true] []:=
 ok7 (g,rc,an,()) () ([.bool true],[]) (Tr.get_of_all (frontAnswers_all g rc an h1 h2))
end Go.Proofs.YtpledbapngdkeaaE
namespace Go.Proofs.Ytpledbapngdkeaa.frontAnswers
open Go.ChangeShapes Go.WideShapes Go.ChangeAt Go.RowKit Go.Proofs.YtpledbapngdkeaaE
open Go.ChangeMaps (open_string shut_string)
set_option linter.unusedVariables false
theorem own : ownKnob Try.prog.godebug = none := by kernel_rfl
theorem laidOut : laidOutB Try.prog = true := by kernel_rfl
set_option maxRecDepth 100000 in
theorem lifted (os : Os) (started : os.Started) (H : Type) (enc : TypeId × Value → H) :
    ReturnsInHanded {} Try.checked os 7 .any (Rows.frontAnswersSpec.pre6 enc Try.prog Try.f7 Rows.frontAnswersRow.domain false) (Rows.frontAnswersSpec.post enc Try.prog Try.f7 false true false false) := by
  refine returnsInHanded_of_change_sized (C := Try.checked) own started (by kernel_rfl) Try.func7
    (ChangeSpec.witness6 (enc := enc) (C := Try.checked) false ⟨#[], #[.agg #[.int .u16 0, .bool false, .bool false, .bool false, .bool false, .bool false, .int .i64 0, .int .i64 0, .slice none 0 0, .slice none 0 0, .slice none 0 0, .slice none 0 0], .int .i64 0, .slice none 0 0], []⟩ 8 (by kernel_rfl) (by kernel_rfl) (by kernel_rfl) (by kernel_rfl)) ?_
  intro W base args ds gs before hval0 hW hcnd hsz0 _
  have hsz : ∀ n ∈ DataW.weightsEach Try.prog (Try.f7.params.toList ++ Rows.frontAnswersSpec.plain.varTypes Try.prog) (ds ++ gs), n ≤ reachBytes := fun n hn => of_decide_eq_true (List.all_eq_true.1 hsz0 n hn)
  have hval : ∀ (j : Nat) t v, Try.f7.params[j]? = some t → args[j]? = some v → Value.okWide Try.prog W .any base t v := hval0
  have hW' := hW
  obtain ⟨p, q, hA0, hV, rfl, hfz, hnd⟩ := hW
  have hA : DataW.TrodAll enc Try.prog W 0 (fun _ => true) true Try.f7.params.toList args.toList ds p := hA0
  rw [Try.params7] at hA hval hsz
  obtain ⟨v0, vs0, d0, ds0, p0, q0, hargs, rfl, rfl, k0, r0⟩ := trodAll_cons hA
  obtain ⟨v1, vs1, d1, ds1, p1, q1, rfl, rfl, rfl, k1, r1⟩ := trodAll_cons r0
  obtain ⟨v2, vs2, d2, ds2, p2, q2, rfl, rfl, rfl, k2, r2⟩ := trodAll_cons r1
  obtain ⟨rfl, rfl, rfl⟩ := trodAll_nil r2
  obtain rfl : args = #[v0, v1, v2] := by cases args; simp_all
  obtain ⟨rfl, rfl⟩ := trodVars_none hV
  have lt0 : ∀ x ∈ p0, x.block < W.heap.size := by obtain ⟨m, hm⟩ := k0; exact DataW.trod_lt m _ _ _ hm
  obtain ⟨x0, e0, w0, b0⟩ := V1h (n := 8) (τ := (.pair (.int .u16) (.pair .bool (.pair .bool (.pair .bool (.pair .bool (.pair .bool (.pair (.int .i64) (.pair (.int .i64) (.pair (.list (.pair .str (.pair (.int .u16) (.int .u16)))) (.pair (.list (.pair .str (.pair (.int .u16) (.pair (.int .u16) (.pair (.int .u32) .str))))) (.pair (.list (.pair .str (.pair (.int .u16) (.pair (.int .u16) (.pair (.int .u32) .str))))) (.list (.pair .str (.pair (.int .u16) (.pair (.int .u16) (.pair (.int .u32) .str))))))))))))))))) (agg := true) (by kernel_rfl) (hval 0 63 v0 rfl rfl) k0 (fun n hn => hsz n (DataW.weights_mem_each (j := 0) (t := 63) rfl rfl n hn)) (by kernel_rfl)
  have lt1 : ∀ x ∈ p1, x.block < W.heap.size := by obtain ⟨m, hm⟩ := k1; exact DataW.trod_lt m _ _ _ hm
  obtain ⟨x1, e1, w1, b1⟩ := V1h (n := 8) (τ := .int .i64) (agg := false) (by kernel_rfl) (hval 1 3 v1 rfl rfl) k1 (fun n hn => hsz n (DataW.weights_mem_each (j := 1) (t := 3) rfl rfl n hn)) (by kernel_rfl)
  have lt2 : ∀ x ∈ p2, x.block < W.heap.size := by obtain ⟨m, hm⟩ := k2; exact DataW.trod_lt m _ _ _ hm
  obtain ⟨x2, e2, w2, b2⟩ := V1h (n := 8) (τ := (.list (.pair .str (.pair (.int .u16) (.pair (.int .u16) (.pair (.int .u32) .str)))))) (agg := false) (by kernel_rfl) (hval 2 61 v2 rfl rfl) k2 (fun n hn => hsz n (DataW.weights_mem_each (j := 2) (t := 61) rfl rfl n hn)) (by kernel_rfl)
  clear hA0 hval0 hsz0 hsz
  refine (Q3j ((fun x0 x1 x2 w0 w1 w2 => sem7 x0 x1 x2 w0 w2) x0 x1 x2 w0 w1 w2) W (vs := [v0, v1, v2]) ?_).mono fun e W' ⟨he, bel⟩ => ?_
  · simp only [Q1]
    exact ⟨_, _, rfl, e0, ⟨_, _, rfl, e1, ⟨_, _, rfl, e2, rfl⟩⟩⟩
  subst he
  exact ⟨_, rfl, _, _, _, [], _, [], hW', trodAll_mk1 (shut_bool Try.underlying4 _), (trodAll_cons_mk (Below.trod laidOut (by kernel_rfl) (of_decide_eq_true (by kernel_rfl)) k0 bel lt0) (trodAll_cons_mk (Below.trod laidOut (by kernel_rfl) (of_decide_eq_true (by kernel_rfl)) k1 bel lt1) (trodAll_cons_mk (Below.trod laidOut (by kernel_rfl) (of_decide_eq_true (by kernel_rfl)) k2 bel lt2) trodAll_mk0))), rfl, bel.frame _, fun h => by cases h⟩
theorem over : Rows.frontAnswersRow.holds Try.pinned (OpenSpec.ofChange Rows.frontAnswersSpec) :=
  OpenClaim.holds_of_wide 7 Try.f7 rfl rfl rfl rfl rfl rfl rfl ⟨rfl, rfl, rfl, rfl, rfl⟩ rfl rfl rfl rfl rfl (by kernel_rfl) Try.func7 (by kernel_rfl)
    (of_decide_eq_true (by kernel_rfl)) (by unfold Func.isWrapper; first | (rw [if_pos (by decide +kernel)]; kernel_rfl) | (rw [if_neg (by decide +kernel)]; exact ⟨rfl, rfl⟩))
    (fun os started H enc _ => lifted os started H enc)
theorem proved : Rows.FrontAnswersSaid := over
end Go.Proofs.Ytpledbapngdkeaa.frontAnswers
namespace Go.Proofs.Ytpledbapngdkeaa
/-- The row, under a short name, for the claim. -/
theorem frontAnswers_holds : Rows.FrontAnswersSaid := frontAnswers.proved
#print axioms frontAnswers_holds
end Go.Proofs.Ytpledbapngdkeaa
