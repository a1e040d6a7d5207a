import Derived.Test.YtpledbapngdkeaaPFrontTruncates2
import Derived.Test.YtpledbapngdkeaaRows
import Derived.SizedLaws
import Derived.OpenShut
import Derived.WideShapes
import Derived.Below
import Derived.Carry
import Derived.Test.YtpledbapngdkeaaProg
import Derived.IntWalk
import Derived.RangeFuncBox
import Derived.RangeFuncLeaves
import Derived.RangeFuncNested
import Derived.RangeFuncBound
import Derived.RangeFuncCalls
import Derived.Shelf.Abstract
import Derived.Shelf.RegionOpen
import Derived.WalkKit
import Derived.OwnWalkIn
import Derived.TacticsInMore
import Derived.LoopNIn
import Derived.LoopIn
import Derived.Maps.AppendAt
set_option maxRecDepth 1000000
namespace Go.Proofs.YtpledbapngdkeaaE
open Go
set_option linter.unusedVariables false
set_option linter.unusedSimpArgs false
theorem U2t {ops:Array Oper} {bs:List Nat} (h:X0g ops bs=true) {i j:Nat} {x y:Oper} (hij:i < j) (hx:ops[i]?=some x) (hy:ops[j]?=some y):(bs.getD j 0).testBit i=true∨Oper.apart ops x y=true:=by
 have hj:j < ops.size:=(Array.getElem?_eq_some_iff.1 hy).1
 have h1:=Q0m _ _ h j (by omega) (by omega)
 simp only[Bool.and_eq_true] at h1
 have h2:=Q0m _ _ h1.2 i (by omega) (by omega)
 simp only[hx,hy,Bool.or_eq_true] at h2
 exact h2
theorem V2l {ops:Array Oper} {bs:List Nat} (h:X0g ops bs=true) {j:Nat} {y:Oper} (hy:ops[j]?=some y):∀ e∈y.after,Region.binds .any e=true→e.on < j:=by
 intro e he hb
 have hj:j < ops.size:=(Array.getElem?_eq_some_iff.1 hy).1
 have h1:=Q0m _ _ h j (by omega) (by omega)
 simp only[Bool.and_eq_true,hy,List.all_eq_true] at h1
 have h2:=h1.1 e (by simpa using he)
 rw[hb] at h2
 simpa using h2
theorem V2g {bs:List Nat} {cs:List Cls} (h:X0c bs cs=true) {i j:Nat} {x y:Cls} (hij:i < j) (hx:cs[i]?=some x) (hy:cs[j]?=some y):(bs.getD j 0).testBit i=true∨meet x y=true:=by
 obtain⟨hj,_⟩:=List.getElem?_eq_some_iff.1 hy
 have h1:=Q0m _ _ h j (by omega) (by omega)
 have h2:=Q0m _ _ h1 i (by omega) (by omega)
 rw[Bool.or_eq_true] at h2
 refine h2.imp id fun h3=>?_
 rw[List.getD_eq_getElem?_getD,List.getD_eq_getElem?_getD,hx,hy] at h3
 exact h3
theorem U0q {listed:Array Bool} {j:Nat} (h:listed.getD j true=false):listed.getD j false=false:=by
 rcases Nat.lt_or_ge j listed.size with h' | h'
 ·simp[h'] at h ⊢;exact h
 ·simp[Array.getElem?_eq_none h'] at h
theorem V4e {listed:Array Bool} {i:Nat} (hi:i < listed.size):(fun k=>(listed.setIfInBounds i true).getD k false)=addL (fun k=>listed.getD k false) i:=by
 funext k
 by_cases hk:k=i
 ·subst hk;simp[addL,hi]
 ·have:(k==i)=false:=by simp[hk]
  simp[addL,this,Array.getElem?_setIfInBounds_ne (Ne.symm hk)]
theorem V0m (ops:List Oper) (es:List (Option Eff×Cls)) (i:Nat) (s:St):s.nx≤(Q9 ops es i s).nx:=by
 unfold Q9
 cases ops[i]? with
 | none=>exact Nat.le_refl _
 | some o=>
   cases es[i]? with
   | none=>exact Nat.le_refl _
   | some e=>exact U4j _ _ _
theorem V2w {P:Program} {T:Tab} (hT:Q6 P T) {orc:Orc} (hO:Zd P orc) {R:Type} {K:Eff→Option R} {r:R} {c:Cx} {st:St} {a:Act} {w:World} {μ:Nat→Pl} {F:Nat→Prop} (hi:Inv c st a w μ F) {all:List Oper} {n0:Nat} {o:Oper}
    (h:Jv T orc all n0 o st K=some r):∃ f,K f=some r∧Z13 P c st a w o f:=by
 unfold Jv at h
 cases hnm:Z18 T all n0 o with
 | none=>rw[hnm] at h;exact J1s hT hO hi h
 | some p=>
   obtain⟨k,ob⟩:=p
   rw[hnm] at h
   simp only at h
   cases hg:st.hp k with
   | gone=>
     rw[hg] at h
     simp only at h
     cases hlt:Nat.blt k st.nx with
     | false=>rw[hlt] at h;cases h
     | true=>
       rw[hlt,cond_true] at h
       obtain⟨e,hop,hf⟩:∃ e,o.op=.alloc e∧V0x T e=some ob:=by
        unfold Z18 at hnm
        split at hnm
        ·rename_i d ob' hx
         split at hnm
         ·cases hnm
          unfold X3e at hx
          split at hx
          ·rename_i e _ ho _ _
           split at hx
           ·cases hx
            exact⟨_,by assumption,by assumption⟩
           ·cases hx
          ·cases hx
         ·cases hnm
        ·cases hnm
       exact⟨_,h,J6 (Z2z hT hi hf (by simpa using hlt) hg (.tuple #[])) fun v w' hr=>by simp[execOp,hop,hr]⟩
   | boxT _ _=>rw[hg] at h;cases h
   | row _ _=>rw[hg] at h;cases h
   | mpo _ _ _=>rw[hg] at h;cases h
theorem J61 {P:Program} {T:Tab} (hT:Q6 P T) {orc:Orc} (hO:Zd P orc) {c:Cx} {ops:Array Oper} {Q:Exit→Act→World→Prop} (hd:∀ o∈ops.toList,∀ t,o.dst=some t→t < c.nt)
    {es:List (Option Eff×Cls)} {st0 st':St} (htr:Trace T orc st0.nx ops.toList ops.toList es st0 st') (hdr:X0g ops (Region.before ops).toList=true) (hmm:X0c (Region.before ops).toList (es.map (·.2))=true)
    (hQ:∀ a w μ F,Inv c st' a w μ F→Q .normal a w) :
    ∀ (fuel:Nat) (listed:Array Bool) (U:List Nat) (a:Act) (w:World) (μ:Nat→Pl) (F:Nat→Prop),listed.size=ops.size→(∀ i,i < ops.size→listed.getD i false=false→i∈U)→U.length≤fuel→
      (∀ j o,ops[j]?=some o→listed.getD j false=true→∀ x,((Region.before ops).toList.getD j 0).testBit x=true→listed.getD x false=true)→
      Inv c (runS (Q9 ops.toList es) (fun i=>listed.getD i false) st0 ops.size) a w μ F→wpAny P .any ops Q fuel listed a w:=by
 have hlen:=Q0k htr
 have hsz:ops.toList.length=ops.size:=by simp
 have hend:=V3r htr
 rw[hsz] at hend
 have fin:∀ (listed:Array Bool) a w μ F,(∀ i,i < ops.size→listed.getD i false=true)→Inv c (runS (Q9 ops.toList es) (fun i=>listed.getD i false) st0 ops.size) a w μ F→Q .normal a w:=fun listed a w μ F hall hi=>by
  have:runS (Q9 ops.toList es) (fun i=>listed.getD i false) st0 ops.size=st':=by
   rw[←hend]
   exact Xo _ fun i h=>hall i h
  rw[this] at hi
  exact hQ a w μ F hi
 have getE:∀ {i:Nat} {o:Oper},ops[i]?=some o→∃ e,es[i]?=some e∧Q9 ops.toList es i=X6 o e.1:=fun {i o} ho=>by
  have hi:i < es.length:=by rw[hlen,hsz];exact(Array.getElem?_eq_some_iff.1 ho).1
  refine⟨es[i],List.getElem?_eq_getElem hi,?_⟩
  funext s
  unfold Q9
  rw[List.getElem?_eq_getElem hi,Array.getElem?_toList,ho]
 have getC:∀ {i:Nat} {o:Oper} {e:Option Eff×Cls},ops[i]?=some o→es[i]?=some e→Cl st0.nx e.1 e.2:=fun {i o e} ho he=>by
  obtain⟨e',he',hc,_⟩:=U2j htr (i:=i) (o:=o) (by rw[Array.getElem?_toList];exact ho)
  rw[he] at he'
  cases he'
  exact hc
 have meets:∀ {i j:Nat} {x y:Option Eff×Cls},i < j→es[i]?=some x→es[j]?=some y→((Region.before ops).toList.getD j 0).testBit i=false→meet x.2 y.2=true:=fun {i j x y} hij hx hy hb=>by
  rcases V2g hmm hij (x:=x.2) (y:=y.2) (by rw[List.getElem?_map,hx];rfl) (by rw[List.getElem?_map,hy];rfl) with h | h
  ·rw[hb] at h;cases h
  ·exact h
 have aparts:∀ {i j:Nat} {x y:Oper},i < j→ops[i]?=some x→ops[j]?=some y→((Region.before ops).toList.getD j 0).testBit i=false→Oper.apart ops x y=true:=fun {i j x y} hij hx hy hb=>by
  rcases U2t hdr hij hx hy with h | h
  ·rw[hb] at h;cases h
  ·exact h
 have swap:∀ {i j:Nat},i < j→j < ops.size→((Region.before ops).toList.getD j 0).testBit i=false→∀ s,st0.nx≤s.nx→Q9 ops.toList es j (Q9 ops.toList es i s)=Q9 ops.toList es i (Q9 ops.toList es j s):=fun {i j} hij hj hb s hsn=>by
  have hoi:ops[i]?=some ops[i]:=Array.getElem?_eq_getElem (by omega)
  have hoj:ops[j]?=some ops[j]:=Array.getElem?_eq_getElem hj
  obtain⟨ei,hei,hsi⟩:=getE hoi
  obtain⟨ej,hej,hsj⟩:=getE hoj
  rw[hsi,hsj]
  exact J3m (getC hoi hei) (getC hoj hej) (meets hij hei hej hb) (Oper.apart_spec (aparts hij hoi hoj hb)).2.1 s hsn
 intro fuel
 induction fuel with
 | zero=>
   intro listed U a w μ F hls hU hUl hcl hi
   have hall:∀ i,i < ops.size→listed.getD i false=true:=fun i h=>by
    cases hx:listed.getD i false with
    | true=>rfl
    | false=>
      have:=hU i h hx
      have hnil:U=[]:=by cases U with | nil=>rfl | cons _ _=>simp at hUl
      rw[hnil] at this;cases this
   refine⟨?_,fin listed a w μ F hall hi⟩
   cases hr:Region.ready .any ops listed with
   | nil=>rfl
   | cons x xs=>
     have hx:x∈Region.ready .any ops listed:=by rw[hr];simp
     obtain⟨h1,o,h2,_⟩:=mem_ready.1 hx
     have h3:=hall x (Array.getElem?_eq_some_iff.1 h2).1
     rw[U0q h1] at h3
     cases h3
 | succ fuel ih=>
   intro listed U a w μ F hls hU hUl hcl hi
   refine⟨fun hr=>?_,fun i hi'=>?_⟩
   ·refine fin listed a w μ F ?_ hi
    intro i
    induction i using Nat.strongRecOn with
    | _ i ihi=>
      intro hlt
      cases hx:listed.getD i false with
      | true=>rfl
      | false=>
        have ho:ops[i]?=some ops[i]:=Array.getElem?_eq_getElem hlt
        have:i∈Region.ready .any ops listed:=by
         rw[mem_ready]
         refine⟨?_,ops[i],ho,fun e he hb=>?_⟩
         ·have:i < listed.size:=by omega
          simp[this] at hx ⊢;exact hx
         ·have hlt':=V2l hdr ho e he hb
          exact ihi e.on hlt' (by omega)
        rw[hr] at this
        cases this
   ·obtain⟨hun,o,ho,hall⟩:=mem_ready.1 hi'
    have hil:i < ops.size:=(Array.getElem?_eq_some_iff.1 ho).1
    have hLi:listed.getD i false=false:=U0q hun
    have hbi:∀ x,((Region.before ops).toList.getD i 0).testBit x=true→listed.getD x false=true:=fun x hx=>by
     obtain⟨e,he,hb,h⟩:=X2t ho hx
     have hL:=hall e (by simpa using he) hb
     rcases h with rfl | h
     ·exact hL
     ·have:e.on < ops.size:=by
       rcases Nat.lt_or_ge e.on ops.size with h' | h'
       ·exact h'
       ·simp[Array.getElem?_eq_none (show listed.size≤e.on by omega)] at hL
      exact hcl e.on ops[e.on] (Array.getElem?_eq_getElem this) hL x h
    have hnb:∀ k,k < ops.size→listed.getD k false=true→∀ x,listed.getD x false=false→((Region.before ops).toList.getD k 0).testBit x=false:=fun k hk hLk x hLx=>by
     cases hb:((Region.before ops).toList.getD k 0).testBit x with
     | false=>rfl
     | true=>
       have:=hcl k ops[k] (Array.getElem?_eq_getElem hk) hLk x hb
       rw[hLx] at this;cases this
    obtain⟨e,hei,hce,hcase⟩:=U2j htr (i:=i) (o:=o) (by rw[Array.getElem?_toList];exact ho)
    have hstep:Q9 ops.toList es i=X6 o e.1:=by
     obtain⟨e',he',h⟩:=getE ho
     rw[hei] at he'
     cases he'
     exact h
    obtain⟨core,hcore,hobs,hobs'⟩:∃ core:St,st0.nx≤core.nx∧Obs st0.nx o ops e.2 core (runS (Q9 ops.toList es) (fun _=>true) st0 i)∧Obs st0.nx o ops e.2 core (runS (Q9 ops.toList es) (fun k=>listed.getD k false) st0 ops.size):=by
     have h1:Obs st0.nx o ops e.2 (runS (Q9 ops.toList es) (fun k=>listed.getD k false&&decide (k < i)) st0 ops.size) (runS (Q9 ops.toList es) (fun k=>listed.getD k false) st0 ops.size):=by
      refine U2s (V0m _ _) (Nat.le_refl _) X2l Z23 (fun k h=>by simp only[Bool.and_eq_true] at h;exact h.1) fun k hk h2 h3=>?_
      have hki:i < k:=by
       rw[h3] at h2
       simp at h2
       rcases Nat.lt_or_eq_of_le h2 with h | h
       ·exact h
       ·subst h;rw[hLi] at h3;cases h3
      have hb:=hnb k hk h3 i hLi
      have hok:ops[k]?=some ops[k]:=Array.getElem?_eq_getElem hk
      obtain⟨ek,hek,hsk⟩:=getE hok
      refine⟨fun s _=>?_,fun k' h4 h5 h6 s hsn=>?_⟩
      ·rw[hsk]
       exact J2n (getC hok hek) (meets hki hei hek hb) (Oper.apart_spec (aparts hki ho hok hb)).2.2 s
      ·simp only[Bool.and_eq_true,decide_eq_true_eq] at h6
       omega
     have h2:Obs st0.nx o ops e.2 (runS (Q9 ops.toList es) (fun k=>listed.getD k false&&decide (k < i)) st0 ops.size) (runS (Q9 ops.toList es) (fun k=>decide (k < i)) st0 ops.size):=by
      refine U2s (V0m _ _) (Nat.le_refl _) X2l Z23 (fun k h=>by simp only[Bool.and_eq_true] at h;exact h.2) fun k hk h2 h3=>?_
      have hki:k < i:=of_decide_eq_true h3
      have hLk:listed.getD k false=false:=by
       rw[h3,Bool.and_true] at h2
       exact h2
      have hb:((Region.before ops).toList.getD i 0).testBit k=false:=by
       cases hb:((Region.before ops).toList.getD i 0).testBit k with
       | false=>rfl
       | true=>rw[hbi k hb] at hLk;cases hLk
      have hok:ops[k]?=some ops[k]:=Array.getElem?_eq_getElem hk
      obtain⟨ek,hek,hsk⟩:=getE hok
      refine⟨fun s _=>?_,fun k' h4 h5 h6 s hsn=>?_⟩
      ·rw[hsk]
       have hm:=meets hki hek hei hb
       have hm':meet e.2 ek.2=true:=by rw[Z3o];exact hm
       exact J2n (getC hok hek) hm' (Oper.apart_spec (aparts hki hok ho hb)).1 s
      ·simp only[Bool.and_eq_true,decide_eq_true_eq] at h6
       exact swap h4 h5 (hnb k' h5 h6.1 k hLk) s hsn
     have h3:runS (Q9 ops.toList es) (fun k=>decide (k < i)) st0 ops.size=runS (Q9 ops.toList es) (fun _=>true) st0 i:=by
      have:∀ m,i≤m→runS (Q9 ops.toList es) (fun k=>decide (k < i)) st0 m=runS (Q9 ops.toList es) (fun _=>true) st0 i:=by
       intro m hm
       induction m with
       | zero=>
         have:i=0:=by omega
         subst this
         rfl
       | succ m ihm=>
         by_cases h:i=m+1
         ·subst h
          exact Xo _ fun k hk=>by simp[hk]
         ·simp only[runS]
          have:¬ m < i:=by omega
          simp only[this,decide_false,cond_false]
          exact ihm (by omega)
      exact this ops.size (by omega)
     have h4:∀ m,st0.nx≤(runS (Q9 ops.toList es) (fun k=>listed.getD k false&&decide (k < i)) st0 m).nx:=by
      intro m
      induction m with
      | zero=>exact Nat.le_refl _
      | succ m ihm=>
        simp only[runS]
        cases (listed.getD m false&&decide (m < i)) with
        | false=>exact ihm
        | true=>
          exact Nat.le_trans ihm (V0m _ _ _ _)
     rw[←h3]
     exact⟨_,h4 ops.size,h2,h1⟩
    have hmem:o∈ops.toList:=by
     have:=List.mem_of_getElem? (l:=ops.toList) (i:=i) (a:=o) (by rw[Array.getElem?_toList];exact ho)
     exact this
    have next:∀ a' w' μ' F',Inv c (X6 o e.1 (runS (Q9 ops.toList es) (fun k=>listed.getD k false) st0 ops.size)) a' w' μ' F'→wpAny P .any ops Q fuel (listed.setIfInBounds i true) a' w':=fun a' w' μ' F' hi2=>by
     have hils:i < listed.size:=by omega
     have hset:=V4e (listed:=listed) hils
     refine ih (listed.setIfInBounds i true) (U.erase i) a' w' μ' F' (by simp[hls]) (fun k hk hLk=>?_) ?_ (fun j oj hj hLj x hx=>?_) ?_
     ·have:=congrFun hset k
      rw[this] at hLk
      unfold addL at hLk
      simp only[Bool.or_eq_false_iff,beq_eq_false_iff_ne] at hLk
      exact(List.mem_erase_of_ne hLk.2).2 (hU k hk hLk.1)
     ·have:=List.length_erase_of_mem (hU i hil hLi)
      omega
     ·have h1:=congrFun hset j
      have h2:=congrFun hset x
      rw[h1] at hLj
      rw[h2]
      unfold addL at hLj ⊢
      simp only[Bool.or_eq_true,beq_iff_eq] at hLj ⊢
      rcases hLj with hLj | rfl
      ·exact .inl (hcl j oj hj hLj x hx)
      ·exact .inl (hbi x hx)
     ·rw[hset,V1w (V0m _ _) (Nat.le_refl _) hLi _ hil fun k h1 h2 h3 s hsn=>swap h1 h2 (hnb k h2 h3 i hLi) s hsn,hstep]
      exact hi2
    unfold wpOp
    simp only[ho]
    rcases hcase with ⟨he,hg⟩ | ⟨f,rfl,hg,hev⟩
    ·replace hg:=Q2u hobs hobs' hg
     rw[if_neg (by rw[V11 hi hg];simp)]
     rw[he] at next
     exact next _ _ _ _ (Z0o hi (hd o hmem) (by simp[VRel]))
    ·have hg':=Q2u hobs hobs' hg
     replace hev:=V59 hcore hobs hobs' hev
     replace hg:=hg'
     rw[if_pos (V11 hi hg)]
     obtain⟨f',hf',hs⟩:=V2w hT hO hi hev
     cases hf'
     exact .inl (hs _ _ fun v w' μ' F' h1 h2=>next _ _ _ _ (Z0o h1 (hd o hmem) h2))
theorem V4j {c:Cx} {st:St} {a:Act} {w:World} {μ:Nat→Pl} {F:Nat→Prop} (hi:Inv c st a w μ F):∃ μ',Inv c st a { w with drawn:=w.drawn+1 } μ' F:=
 ⟨_,Zy hi (Grew.drew w) [] [] rfl (by simp) (by simp) (by simp)⟩
theorem Q2g {P:Program} (hmo:P.follows .mixedOrders=true) {T:Tab} (hT:Q6 P T) {orc:Orc} (hO:Zd P orc) {R:Type} {K:St→Option R} {r:R} {c:Cx} {ops:Array Oper} {Q:Exit→Act→World→Prop}
    (hd:∀ o∈ops.toList,∀ t,o.dst=some t→t < c.nt) (hQ:∀ st a w μ F,Inv c st a w μ F→K st=some r→Q .normal a w) {st:St} {a:Act} {w:World} {μ:Nat→Pl} {F:Nat→Prop} (hi:Inv c st a w μ F)
    (hdr:X0g ops (Region.before ops).toList=true) (h:resE T ops.toList st (fun n0 st=>Jq T orc ops.toList (Region.before ops).toList n0 ops.toList [] st K)=some r) (id:Nat):(Code.region id ops true).wp P Q a w:=by
 obtain⟨st0,hi0,h⟩:∃ st0:St,Inv c st0 a w μ F∧Jq T orc ops.toList (Region.before ops).toList st0.nx ops.toList [] st0 K=some r:=by
  unfold resE at h
  split at h
  ·exact⟨st,hi,h⟩
  ·rw[Vd] at h
   exact⟨_,Q4z hi _,h⟩
 clear hi
 rename Inv c st0 a w μ F=>hi
 obtain⟨es,st',h1,h2,h3⟩:=U0e _ _ _ h
 obtain⟨μ',hi'⟩:=V4j hi
 refine wp_region_any hmo (J61 hT hO hd h1 hdr (by simpa using h2) (fun a w μ F hi=>hQ _ a w μ F hi h3) ops.size _ (List.range ops.size) a _ μ' F (by simp) (fun i h _=>by simpa using h) (by simp) (fun j o ho hL=>?_) ?_)
 ·have hj:j < ops.size:=(Array.getElem?_eq_some_iff.1 ho).1
  simp[hj] at hL
 ·have:∀ n,runS (Q9 ops.toList es) (fun i=>(Array.replicate ops.size false).getD i false) st0 n=st0:=fun n=>by
   induction n with
   | zero=>rfl
   | succ n ih=>
     simp only[runS]
     have:(Array.replicate ops.size false).getD n false=false:=by
      rcases Nat.lt_or_ge n ops.size with h | h
      ·simp[h]
      ·simp[h]
     rw[this,cond_false,ih]
  rw[this]
  exact hi'
def X2i:Ex→Exit
 | .normal=>.normal
 | .exit id=>.exit id
 | .ret=>.ret
def Post2 (c:Cx) {R:Type} (K:Ex→St→Option R) (r:R) (Q:Exit→Act→World→Prop):Prop:=
 ∀ ex st a w μ F,Inv c st a w μ F→K ex st=some r→Q (X2i ex) a w
def LpOk (P:Program) (c:Cx) (lp:Lp):Prop:=
 ∀ bid body st ex st',(lp bid body st).get=some (ex,st')→Up c.nt body=true→∀ a w μ F,Inv c st a w μ F→∀ Q:Exit→Act→World→Prop,(∀ a' w' μ' F',Inv c st' a' w' μ' F'→Q (X2i ex) a' w')→(Code.loop body).wp P Q a w
theorem V1c {st:St} {c:Operand} {b:Bool} (h:st.ev c=.bool b):refine st c b=st:=by
 cases c with
 | tmp t=>exact Z1u h
 | _=>rfl
theorem Vj {P:Program} (hmo:P.follows .mixedOrders=true) {T:Tab} (hT:Q6 P T) {orc:Orc} (hO:Zd P orc) {c:Cx} {lp:Lp} (hlp:LpOk P c lp) {R:Type} {r:R} :
    ∀ (code:Code) (bid:Nat) (st:St) (K:Ex→St→Option R) (Q:Exit→Act→World→Prop) (a:Act) (w:World) (μ:Nat→Pl) (F:Nat→Prop),Up c.nt code=true→evC T orc lp code bid st K=some r→Inv c st a w μ F→Post2 c K r Q→code.wp P Q a w
 | .skip,bid,st,K,Q,a,w,μ,F,hd,h,hi,hq=>wp_skip (hq .normal st a w μ F hi h)
 | .label l,bid,st,K,Q,a,w,μ,F,hd,h,hi,hq=>wp_label (hq .normal st a w μ F hi h)
 | .exit id,bid,st,K,Q,a,w,μ,F,hd,h,hi,hq=>wp_exit (hq (.exit id) st a w μ F hi h)
 | .ret,bid,st,K,Q,a,w,μ,F,hd,h,hi,hq=>wp_ret (hq .ret st a w μ F hi h)
 | .region id ops draw,bid,st,K,Q,a,w,μ,F,hd,h,hi,hq=>by
   have hdst:∀ o∈ops.toList,∀ t,o.dst=some t→t < c.nt:=fun o ho t ht=>by
    simp only[Up,List.all_eq_true] at hd
    have:=hd o ho
    rw[ht] at this
    simpa using this
   simp only[evC] at h
   cases draw with
   | true=>
     rw[if_pos rfl] at h
     cases hdr:X0g ops (Region.before ops).toList with
     | false=>rw[hdr] at h;cases h
     | true=>
       rw[hdr] at h
       exact Q2g hmo hT hO hdst (fun st a w μ F hi hk=>hq .normal _ a w μ F (V1t hi (T.live id)) (by rw[Qd] at hk;exact hk)) hi hdr h id
   | false=>
     rw[if_neg (by simp)] at h
     refine wp_region ?_
     have:=V0j hT hO hdst (Q:=Q) (fun st a w μ F hi hk=>hq .normal _ a w μ F (V1t hi (T.live id)) (by rw[Qd] at hk;exact hk)) ops.toList 0 st a w μ F rfl hi h
     rw[List.range_eq_range']
     simpa using this
 | .seq x y,bid,st,K,Q,a,w,μ,F,hd,h,hi,hq=>by
   simp only[Up,Bool.and_eq_true] at hd
   simp only[evC] at h
   refine wp_seq (Vj hmo hT hO hlp x bid st _ _ a w μ F hd.1 h hi fun ex st' a' w' μ' F' hi' hk=>?_)
   cases ex with
   | normal=>exact Vj hmo hT hO hlp y bid st' K Q a' w' μ' F' hd.2 hk hi' hq
   | exit id=>exact hq (.exit id) st' a' w' μ' F' hi' hk
   | ret=>exact hq .ret st' a' w' μ' F' hi' hk
 | .cond cnd x y,bid,st,K,Q,a,w,μ,F,hd,h,hi,hq=>by
   simp only[Up,Bool.and_eq_true] at hd
   simp only[evC,Q3f] at h
   split at h
   ·rename_i b hb
    have hv:=V1v hi cnd
    rw[hb] at hv
    simp only[VRel] at hv
    cases b with
    | true=>
      simp only[cond_true] at h
      rw[V1c hb] at h
      exact wp_cond_true hv (Vj hmo hT hO hlp x bid st K Q a w μ F hd.1 h hi hq)
    | false=>
      simp only[cond_false] at h
      rw[V1c hb] at h
      exact wp_cond_false hv (Vj hmo hT hO hlp y bid st K Q a w μ F hd.2 h hi hq)
   ·cases h
 | .block id x,bid,st,K,Q,a,w,μ,F,hd,h,hi,hq=>by
   simp only[Up] at hd
   simp only[evC] at h
   refine wp_block (Vj hmo hT hO hlp x id st _ _ a w μ F hd h hi fun ex st' a' w' μ' F' hi' hk=>?_)
   cases ex with
   | normal=>exact hq .normal st' a' w' μ' F' hi' hk
   | ret=>exact hq .ret st' a' w' μ' F' hi' hk
   | exit i=>
     simp only[J2g] at hk
     simp only[X2i,Exit.inBlock]
     cases he:i==id with
     | true=>
       have:=eq_of_beq he
       rw[he] at hk
       rw[if_pos this]
       exact hq .normal st' a' w' μ' F' hi' hk
     | false=>
       rw[he] at hk
       rw[if_neg (by simpa using he)]
       exact hq (.exit i) st' a' w' μ' F' hi' hk
 | .loop x,bid,st,K,Q,a,w,μ,F,hd,h,hi,hq=>by
   simp only[Up] at hd
   simp only[evC] at h
   obtain⟨p,hl,h⟩:=Tr.run_some h
   exact hlp bid x st p.1 p.2 hl hd a w μ F hi Q fun a' w' μ' F' hi'=>hq p.1 p.2 a' w' μ' F' hi' h
theorem Q1e:∀ (n a k:Nat),k∈rng a n→a≤k∧k < a+n
 | 0,a,k,h=>by simp[rng] at h
 | n+1,a,k,h=>by
   simp only[rng,List.mem_cons] at h
   rcases h with rfl | h
   ·omega
   ·have:=Q1e n (a+1) k h
    omega
theorem U22:∀ (n a:Nat),(rng a n).Nodup
 | 0,a=>by simp[rng]
 | n+1,a=>by
   simp only[rng,List.nodup_cons]
   refine⟨fun h=>?_,U22 n (a+1)⟩
   have:=Q1e _ _ _ h
   omega
theorem V0d {hp:Nat→LObj}:∀ (n:Nat) (work seen:List Nat),∃ more,Q8 hp n work seen=seen++more
 | 0,work,seen=>⟨[],by simp[Q8]⟩
 | n+1,[],seen=>⟨[],by simp[Q8]⟩
 | n+1,k::ks,seen=>by
   simp only[Q8]
   cases seen.contains k with
   | true=>exact V0d n ks seen
   | false=>
     obtain⟨more,h⟩:=V0d n ((hp k).refs++ks) (seen++[k]) (hp:=hp)
     exact⟨k::more,by simp only[cond_false];rw[h];simp⟩
theorem U25 {w:World} {hp:Nat→LObj} {nx:Nat} {μ:Nat→Pl} {F:Nat→Prop} (hi:HInv w hp nx μ F) {n0:Nat} (hn0:n0≤nx) {work:List Nat} (hw:∀ k∈work,μ k≠.none) (n:Nat) :
    (Q8 hp n (Zh hp n0++work) (rng 0 n0)).Nodup∧(∀ k∈Q8 hp n (Zh hp n0++work) (rng 0 n0),k < nx)∧n0≤(Q8 hp n (Zh hp n0++work) (rng 0 n0)).length ∧
     ∀ k,k < n0→Ub μ (Q8 hp n (Zh hp n0++work) (rng 0 n0)) k=μ k:=by
 obtain⟨more,hm⟩:=V0d (hp:=hp) n (Zh hp n0++work) (rng 0 n0)
 have hq:∀ k,k < nx→∀ j∈(hp k).refs,j < nx:=fun k hk j hj=>Ja hi (Xj (hi.obj k hk) j hj)
 refine⟨Ux n _ _ (U22 _ _),?_,?_,fun k hk=>?_⟩
 ·refine Q0a (Q:=fun k=>k < nx) hq n _ _ (fun k hk=>?_) (fun k hk=>?_)
  ·rcases List.mem_append.1 hk with h | h
   ·unfold Zh at h
    obtain⟨j,hj,hjk⟩:=List.mem_flatMap.1 h
    have:=Q1e _ _ _ hj
    exact hq j (by omega) k hjk
   ·exact Ja hi (hw k h)
  ·have:=Q1e _ _ _ hk
   omega
 ·rw[hm,List.length_append,X1g]
  omega
 ·rw[hm]
  have:(rng 0 n0++more)[k]?=some k:=by
   rw[List.getElem?_append_left (by rw[X1g];exact hk),V2i n0 0 k hk,Nat.zero_add]
  simp[Ub,this]
theorem Z1r {μ:Nat→Pl} {ks:List Nat} {k b:Nat} (h:(Ub μ ks k).owns=some b):∃ k',(μ k').owns=some b:=by
 unfold Ub at h
 split at h
 ·rename_i k' _;exact⟨k',h⟩
 ·cases h
theorem U0x {c:Cx} {st:St} {a:Act} {w:World} {μ:Nat→Pl} {F:Nat→Prop} (hi:Inv c st a w μ F) (keep:List Nat):∃ μ',Inv c (norm keep c.n0 st) a w μ' F:=by
 have hwork:∀ k∈X0s (keep.map st.tm),μ k≠.none:=by
  intro k hk
  unfold X0s at hk
  obtain⟨x,hx,hxk⟩:=X09 hk
  obtain⟨t,_,rfl⟩:=List.mem_map.1 hx
  exact Xr (hi.tm t) k hxk
 obtain⟨h1,h2,h3,h4⟩:=U25 hi.h hi.n0 hwork 1000
 have hsub:∀ k i,U8 k (Q8 st.hp 1000 (Zh st.hp c.n0++X0s (keep.map st.tm)) (rng 0 c.n0)) 0=some i→Ub μ (Q8 st.hp 1000 (Zh st.hp c.n0++X0s (keep.map st.tm)) (rng 0 c.n0)) i=μ k:=fun k i h=>by
  obtain⟨_,h2⟩:=Qa h
  simp only[Nat.sub_zero] at h2
  simp[Ub,h2]
 have hh:=J1g hi.h h1 h2
 rw[List.length_map] at hh
 have hlen:(Q8 st.hp 1000 (Zh st.hp c.n0++X0s (keep.map st.tm)) (rng 0 c.n0)).length=(norm keep c.n0 st).nx:=by simp only[norm,J1x,stOf,List.length_map]
 rw[hlen] at hh h3
 refine⟨Ub μ (Q8 st.hp 1000 (Zh st.hp c.n0++X0s (keep.map st.tm)) (rng 0 c.n0)),hh,⟨hi.fr.os,hi.fr.tape,hi.fr.output,hi.fr.size,hi.fr.keep,hi.fr.old,hi.fr.newF,fun k b h=>?_⟩,fun k b hk h=>?_,fun k b hk h=>?_,h3,fun t=>?_,hi.sz,hi.df⟩
 ·obtain⟨k',h'⟩:=Z1r h
  exact hi.fr.newO k' b h'
 ·rw[h4 k hk];exact hi.idb k b hk h
 ·rw[h4 k hk];exact hi.idm k b hk h
 ·exact X1u (G:=fun t=>a.tmps.getD t undef) _ (V29 keep fun t' _=>Q1m hsub (hi.tm t')) t
theorem Z2t {P:Program} {body:Code} {Q:Exit→Act→World→Prop} (J:Nat→Act→World→Prop) (round:∀ n a w,J n a w→body.wp P (Exit.then (fun a' w'=>∃ m,m < n∧J m a' w') Q) a w) :
    ∀ n a w,J n a w→(Code.loop body).wp P Q a w:=by
 intro n a w hJ b k cs
 have key:∀ n a w,J n a w→∃ e a' w',Q e a' w'∧Arrives P (lone (b.at a (.code body::.inLoop body::k)) cs w) b k cs e a' w':=by
  intro n
  induction n using Nat.strongRecOn with
  | _ n ih=>
    intro a w hI
    obtain⟨e,a₁,w₁,hq,harr⟩:=round n a w hI b (.inLoop body::k) cs
    cases e with
    | normal=>
      obtain⟨m,hm,hJ'⟩:=hq
      obtain⟨e₂,a₂,w₂,hq₂,harr₂⟩:=ih m hm a₁ w₁ hJ'
      exact⟨e₂,a₂,w₂,hq₂,.of_steps (Steps.trans harr (.one step_inLoop)) harr₂⟩
    | exit id=>exact⟨_,a₁,w₁,hq,.pass (x:=.inLoop body) rfl (fun _ _=>.inl (by simp)) harr⟩
    | goto l=>exact⟨_,a₁,w₁,hq,.pass (x:=.inLoop body) rfl (fun _ _=>.inl (by simp)) harr⟩
    | ret=>exact⟨_,a₁,w₁,hq,.pass (x:=.inLoop body) rfl (fun _ _=>.inl (by simp)) harr⟩
    | panic ch=>exact⟨_,a₁,w₁,hq,.pass (x:=.inLoop body) rfl (fun _ _=>.inl (by simp)) harr⟩
    | outgrown=>exact⟨_,a₁,w₁,hq,.pass (x:=.inLoop body) rfl (fun _ _=>.inl (by simp)) harr⟩
 obtain⟨e,a',w',hq,harr⟩:=key n a w hJ
 exact⟨e,a',w',hq,.of_steps (.one step_loop) harr⟩
theorem X2y {P:Program} (hmo:P.follows .mixedOrders=true) {T:Tab} (hT:Q6 P T) {orc:Orc} (hO:Zd P orc) {c:Cx} (H:Hint):∀ (n:Nat),LpOk P c (lpN T orc H c.n0 n)
 | 0=>fun bid body st ex st' h=>by simp[lpN,Tr.get] at h
 | n+1=>by
   intro bid body st ex st' h hd a w μ F hi Q hQ
   simp only[lpN,Tr.get_of] at h
   obtain⟨m,hm⟩:=U1x h
   obtain⟨μ',hi'⟩:=U0x hi (H.keep bid)
   refine Z2t (fun m a w=>∃ st1 μ F,Inv c st1 a w μ F∧Uq (fun st=>evC T orc (lpN T orc H c.n0 n) body bid st (V1 (H.keep bid) (H.keepX bid) c.n0)) m st1=some (ex,st')) ?_ m a w ⟨_,μ',F,hi',hm⟩
   rintro m a w ⟨st1,μ1,F1,hi1,h1⟩
   cases m with
   | zero=>simp[Uq] at h1
   | succ m=>
     simp only[Uq] at h1
     split at h1
     ·cases h1
     ·rename_i r hr
      cases h1
      refine Vj hmo hT hO (X2y hmo hT hO H n) body bid st1 _ _ a w μ1 F1 hd hr hi1 ?_
      intro e s a2 w2 μ2 F2 hi2 hk
      cases e with
      | normal=>simp[V1] at hk
      | exit id=>
        simp only[V1,Option.some.injEq,Sum.inr.injEq,Prod.mk.injEq] at hk
        obtain⟨rfl,rfl⟩:=hk
        obtain⟨μ3,hi3⟩:=U0x hi2 (H.keepX bid)
        exact hQ a2 w2 μ3 F2 hi3
      | ret=>
        simp only[V1,Option.some.injEq,Sum.inr.injEq,Prod.mk.injEq] at hk
        obtain⟨rfl,rfl⟩:=hk
        obtain⟨μ3,hi3⟩:=U0x hi2 (H.keepX bid)
        exact hQ a2 w2 μ3 F2 hi3
     ·rename_i st2 hr
      refine Vj hmo hT hO (X2y hmo hT hO H n) body bid st1 _ _ a w μ1 F1 hd hr hi1 ?_
      intro e s a2 w2 μ2 F2 hi2 hk
      cases e with
      | normal=>
        simp only[V1,Option.some.injEq,Sum.inl.injEq] at hk
        subst hk
        obtain⟨μ3,hi3⟩:=U0x hi2 (H.keep bid)
        exact⟨m,by omega,_,μ3,F2,hi3,h1⟩
      | exit id=>simp[V1] at hk
      | ret=>simp[V1] at hk
theorem U2q {P:Program} {T:Tab} (hT:Q6 P T) {w:World} {hp:Nat→LObj} {nx:Nat} {μ:Nat→Pl} {F:Nat→Prop} (hi:HInv w hp nx μ F) {t:Nat} {p x:AV} {v:Value}
    (h:J0z T hp t p=some x) (hv:VRel μ F w p v):∃ ad u,v=.pointer (some ad)∧(loadVar t ad).run P w=.ok u w∧VRel μ F w x u:=by
 obtain⟨u,h1,h2⟩:=Q22 hT hi h hv
 have:∃ ad,v=.pointer (some ad):=by
  cases p<;>simp only[J0z] at h<;>(try cases h)
  ·simp only[VRel] at hv;obtain⟨b,_,rfl⟩:=hv;exact⟨_,rfl⟩
  ·simp only[VRel] at hv;obtain⟨b,o,len,cap,_,_,rfl⟩:=hv;exact⟨_,rfl⟩
  ·simp only[VRel] at hv;obtain⟨b,o,_,_,_,rfl⟩:=hv;exact⟨_,rfl⟩
 obtain⟨ad,rfl⟩:=this
 refine⟨ad,u,rfl,?_,h2⟩
 simpa[Instr.loadAt,Instr.sureAddr] using h1
def X19 (tmps:Array Value):ResultVar→Sem Value
 | .tmp t=>pure (tmps.getD t undef)
 | .cell a t=>do loadVar t (← asAddr (tmps.getD a undef))
theorem Q00 {P:Program} {T:Tab} (hT:Q6 P T) {c:Cx} {st:St} {a:Act} {w:World} {μ:Nat→Pl} {F:Nat→Prop} (hi:Inv c st a w μ F) :
    ∀ (rs:List ResultVar) (vs:List AV),Zt T st rs=some vs→∃ us,(rs.mapM (X19 a.tmps)).run P w=.ok us w∧Z2 μ F w vs us
 | [],vs,h=>by
   simp only[Zt,Option.some.injEq] at h
   subst h
   exact⟨[],by simp,by simp[Z2]⟩
 | .tmp t::rs,vs,h=>by
   simp only[Zt] at h
   split at h
   ·rename_i vs' hvs
    cases h
    obtain⟨us,h1,h2⟩:=Q00 hT hi rs vs' hvs
    refine⟨a.tmps.getD t undef::us,?_,by simp only[Z2];exact⟨_,_,rfl,hi.tm t,h2⟩⟩
    simp[List.mapM_cons,X19,h1]
   ·cases h
 | .cell p t::rs,vs,h=>by
   simp only[Zt] at h
   split at h
   ·rename_i v vs' hv hvs
    cases h
    obtain⟨us,h1,h2⟩:=Q00 hT hi rs vs' hvs
    obtain⟨ad,u,h3,h4,h5⟩:=U2q (P:=P) hT hi.h hv (hi.tm p)
    refine⟨u::us,?_,by simp only[Z2];exact⟨_,_,rfl,h5,h2⟩⟩
    rw[List.mapM_cons]
    simp only[X19]
    rw[h3]
    simp[asAddr,h4,h1]
   ·cases h
theorem V36 (fn:Func) (tmps:Array Value):results fn tmps=(fn.results.mapM (X19 tmps) >>= fun vs=>pure (if h:vs.size=1 then vs[0] else .tuple vs)):=by
 unfold results
 congr 1
theorem U1a {P:Program} {fn:Func} {a:Act} {w:World} {us:List Value} (h:(fn.results.toList.mapM (X19 a.tmps)).run P w=.ok us w) :
    (results fn a.tmps).run P w=.ok (if h:us.toArray.size=1 then us.toArray[0] else .tuple us.toArray) w:=by
 have hm:(fn.results.mapM (X19 a.tmps)).run P w=.ok us.toArray w:=by
  rw[Array.mapM_eq_mapM_toList]
  simp only[Sem.run_map,h,Result.andThen_ok]
 rw[V36,Sem.run_bind,hm]
 simp
theorem V30 {μ:Nat→Pl} {F:Nat→Prop} {w:World} {vs:List AV} {us:List Value} (h:Z2 μ F w vs us):VRel μ F w (Ua vs) (if h:us.toArray.size=1 then us.toArray[0] else .tuple us.toArray):=by
 match vs,us,h with
 | [],us,h=>
   simp only[Z2] at h
   subst h
   simp only[Ua,VRel]
   exact⟨[],by simp,by simp[Z2]⟩
 | [x],us,h=>
   simp only[Z2] at h
   obtain⟨u,us',rfl,h1,rfl⟩:=h
   simpa[Ua] using h1
 | x::y::r,us,h=>
   have hl:=Ug h
   simp only[List.length_cons] at hl
   have:¬ us.toArray.size=1:=by simp;omega
   rw[dif_neg this]
   simp only[Ua,VRel]
   exact⟨us,rfl,h⟩
theorem U0t {hp:Nat→LObj} {k:Nat}:∀ {ks:List Nat},k∈V4 hp ks→k∈ks∧∃ t xs,hp k=.row t xs
 | [],h=>by simp[V4] at h
 | j::ks,h=>by
   simp only[V4] at h
   split at h
   ·rename_i t xs hj
    rcases List.mem_cons.1 h with rfl | h
    ·exact⟨by simp,t,xs,hj⟩
    ·have:=U0t h
     exact⟨by simp[this.1],this.2⟩
   ·have:=U0t h
    exact⟨by simp[this.1],this.2⟩
theorem V10 {P:Program} {T:Tab} {c:Cx} {st:St} {a:Act} {w:World} {μ:Nat→Pl} {F:Nat→Prop} (hi:Inv c st a w μ F) {own:Bool} {rts:List Nat} {vs:List AV} {us:List Value} (hv:Z2 μ F w vs us)
    (hfp:c.fp=J0p c.μ0) {res:List AV} {objs':List LObj} (h:J1t T own c.n0 rts st vs=(res,objs')) :
    Post c.w0 c.μ0 c.F0 c.n0 res objs' (if h:us.toArray.size=1 then us.toArray[0] else .tuple us.toArray) w:=by
 unfold J1t at h
 simp only[Prod.mk.injEq] at h
 obtain⟨rfl,rfl⟩:=h
 have hv1:=J0d (P:=P) (T:=T) rts hv
 generalize hvs:Ql T rts vs=vs1 at hv1 ⊢
 have hfz:∀ k,(bif own then [] else (V4 st.hp (AV.refsL vs1)).filter fun k=>Nat.ble c.n0 k).contains k=true→k < st.nx∧∃ al l cp sz,μ k=.row al l cp sz:=fun k hk=>by
  have hk':k∈(bif own then [] else (V4 st.hp (AV.refsL vs1)).filter fun k=>Nat.ble c.n0 k):=by simpa using hk
  cases own with
  | true=>simp at hk'
  | false=>
    simp only[cond_false,List.mem_filter] at hk'
    obtain⟨h1,t,xs,h2⟩:=U0t hk'.1
    have hne:=Za hv1 k h1
    have hlt:=Ja hi.h hne
    have ho:=hi.h.obj k hlt
    rw[h2] at ho
    cases hp:μ k with
    | row al l cp sz=>exact⟨hlt,al,l,cp,sz,rfl⟩
    | none=>exact absurd hp hne
    | box b=>rw[hp] at ho;simp[ORel] at ho
    | map b=>rw[hp] at ho;simp[ORel] at ho
 have hge:∀ k,(bif own then [] else (V4 st.hp (AV.refsL vs1)).filter fun k=>Nat.ble c.n0 k).contains k=true→c.n0≤k:=fun k hk=>by
  have hk':k∈(bif own then [] else (V4 st.hp (AV.refsL vs1)).filter fun k=>Nat.ble c.n0 k):=by simpa using hk
  cases own with
  | true=>simp at hk'
  | false=>
    simp only[cond_false,List.mem_filter] at hk'
    simpa using hk'.2
 generalize hF:(bif own then [] else (V4 st.hp (AV.refsL vs1)).filter fun k=>Nat.ble c.n0 k)=fz at hfz hge ⊢
 have hi1:=Z0x hi hfz
 have hv2:=Q0y hi hfz hv1
 obtain⟨h1,h2,h3,h4⟩:=U25 hi1.h hi1.n0 (Za hv2) 1000
 have hsub:∀ k i,U8 k (Q8 (st.frz fz).hp 1000 (Zh (st.frz fz).hp c.n0++AV.refsL (AV.frzL st.hp fz vs1)) (rng 0 c.n0)) 0=some i→Ub (Un μ fz) (Q8 (st.frz fz).hp 1000 (Zh (st.frz fz).hp c.n0++AV.refsL (AV.frzL st.hp fz vs1)) (rng 0 c.n0)) i=Un μ fz k:=fun k i h=>by
  obtain⟨_,h2⟩:=Qa h
  simp only[Nat.sub_zero] at h2
  simp[Ub,h2]
 have hh:=J1g hi1.h h1 h2
 refine⟨_,_,V30 (Qr hsub hv2),hh,⟨hi1.fr.os,hi1.fr.tape,hi1.fr.output,hi1.fr.size,fun b hb hn=>hi1.fr.keep b hb (by rw[hfp];exact hn),hi1.fr.old,fun b hb=>by have:=hi1.fr.newF b hb;rw[hfp] at this;exact this,fun k b hk=>?_⟩,by rw[List.length_map];exact h3,fun k b hk h=>?_,fun k b hk h=>?_⟩
 ·obtain⟨k',h'⟩:=Z1r hk
  have:=hi1.fr.newO k' b h'
  rw[hfp] at this
  exact this
 ·rw[h4 k hk];exact hi1.idb k b hk h
 ·rw[h4 k hk];exact hi1.idm k b hk h
theorem U1c:∀ (vs:List AV) (i t:Nat),i≤t→t < i+vs.length→some (ofTm (V0y vs i) t)=vs[t - i]?
 | [],i,t,h1,h2=>by simp at h2;omega
 | v::vs,i,t,h1,h2=>by
   simp only[V0y,ofTm]
   cases he:t==i with
   | true=>
     have:=eq_of_beq he
     subst this
     simp
   | false=>
     have hne:t≠i:=by simpa using he
     simp only[cond_false]
     rw[U1c vs (i+1) t (by omega) (by simp at h2;omega)]
     have:t - i=(t - (i+1))+1:=by omega
     rw[this,List.getElem?_cons_succ]
theorem Z21 {w:World} {μ:Nat→Pl} {F:Nat→Prop} {args:List AV} {objs:List LObj} {vs:List Value} {nt:Nat} (hh:HInv w (ofHp objs) objs.length μ F) (hv:Z2 μ F w args vs) (hle:args.length≤nt) :
    Inv ⟨w,J0p μ,F,μ,objs.length,nt⟩ (J2 args objs nt) { tmps:=vs.toArray++Array.replicate (nt - vs.toArray.size) undef,defers:=[] } w μ F:=by
 have hl:=Ug hv
 refine⟨hh,⟨rfl,rfl,rfl,Nat.le_refl _,fun _ _ _=>rfl,fun _ h=>h,fun _ h=>.inl h,fun k b h=>.inl ⟨k,h⟩⟩,fun _ _ _ h=>h,fun _ _ _ h=>h,Nat.le_refl _,fun t=>?_,by simp;omega,rfl⟩
 simp only[J2]
 cases hb:Nat.blt t args.length with
 | true=>
   have hlt:t < args.length:=by simpa using hb
   simp only[cond_true]
   have h1:=U1c args 0 t (Nat.zero_le _) (by omega)
   obtain⟨u,hu,hr⟩:=Zw hv (i:=t) (c:=ofTm (V0y args 0) t) (by rw[h1];simp)
   have:(vs.toArray++Array.replicate (nt - vs.toArray.size) undef).getD t undef=u:=by
    rw[Array.getD_eq_getD_getElem?,Array.getElem?_append_left (by simp;omega)]
    simp[hu]
   rw[this]
   exact hr
 | false=>
   have hge:args.length≤t:=Nat.not_lt.1 fun h=>by rw[show Nat.blt t args.length=true from by simpa using h] at hb;cases hb
   simp only[cond_false]
   cases hb2:Nat.blt t nt with
   | true=>
     simp only[cond_true,VRel]
     rw[Array.getD_eq_getD_getElem?,Array.getElem?_append_right (by simp;omega)]
     have hlt:t < nt:=by simpa using hb2
     simp
     rw[Array.getElem?_replicate,if_pos (by omega)]
     rfl
   | false=>simp[VRel]
theorem Z1s {P : Program} (hmo : P.follows .mixedOrders = true) {T : Tab} (hT : Q6 P T) {orc : Orc} (hO : Zd P orc) {H : Hint} {f : Nat} {fn : Func} (hf : P.funcs[f]? = some fn) (hn : fn.name ≠ "runtime.NumGoroutine")
    {args:List AV} {objs:List LObj} {res:List AV} {objs':List LObj} (h:evFn T orc H fn args objs=some (res,objs')):SemF P f args objs res objs':=by
 unfold evFn at h
 split at h
 ·cases h
 ·rename_i code hb
  refine⟨⟨fn,hf,hn,by rw[hb];rfl⟩,fun w μ F vs hh hv=>?_⟩
  cases hd:(Up fn.ntmps code&&Nat.ble args.length fn.ntmps) with
  | false=>rw[hd] at h;cases h
  | true=>
    rw[hd] at h
    simp only[cond_true] at h
    simp only[Bool.and_eq_true,Nat.ble_eq] at hd
    have hi:=Z21 hh hv hd.2
    refine calls_of_wp hf hb (Vj hmo hT hO (X2y hmo hT hO (c:=⟨w,J0p μ,F,μ,objs.length,fn.ntmps⟩) H 8) code 1000000 _ _ _ _ w μ F hd.1 h hi ?_)
    intro ex st a w' μ' F' hi' hk
    have fin:∀ vs',Zt T st fn.results.toList=some vs'→J1t T H.own objs.length fn.resultTypes.toList st vs'=(res,objs')→
        a.defers=[]∧∃ v,(results fn a.tmps).run P w'=.ok v w'∧∃ v',(Ending.returned v:Ending)=.returned v'∧Post w μ F objs.length res objs' v' w':=fun vs' h1 h2=>by
     obtain⟨us,h3,h4⟩:=Q00 hT hi' _ _ h1
     exact⟨hi'.df,_,U1a h3,_,rfl,V10 (P:=P) hi' h4 rfl h2⟩
    cases ex with
    | exit id=>simp[Z1] at hk
    | normal=>
      simp only[Z1] at hk
      split at hk
      ·rename_i vs' hvs
       exact fin vs' hvs (by simpa using hk)
      ·cases hk
    | ret=>
      simp only[Z1] at hk
      split at hk
      ·rename_i vs' hvs
       exact fin vs' hvs (by simpa using hk)
      ·cases hk
open Go.Proofs.Ytpledbapngdkeaa.Rows (uptoBulk uptoBulkAll)
def okT:(t:Ty)→t.den→Prop
 | .int k,n=>(Lit.int k n).wf=true
 | .bool,_=>True
 | .str,s=>List.length s≤reachBytes
 | .unit,_=>True
 | .list t,xs=>List.length xs≤reachBytes∧∀ x∈(xs:List t.den),okT t x
 | .pair a b,x=>okT a x.1∧okT b x.2
def Uy:(t:Ty)→t.den→Nat
 | .int _,_=>1
 | .bool,_=>1
 | .str,s=>List.length s+1
 | .unit,_=>0
 | .list t,xs=>((xs:List t.den).map (Uy t)).sum+1
 | .pair a b,x=>Uy a x.1+Uy b x.2
def U09 (P:Program) (ok:TypeId→Ty→Bool):List Field→Nat→Ty→Bool
 | [],_,.unit=>true
 | [f],off,τ=>f.offset==off&&P.cellsOf f.type==τ.sz&&ok f.type τ
 | f::g::fs,off,.pair a b=>f.offset==off&&P.cellsOf f.type==a.sz&&ok f.type a&&U09 P ok (g::fs) (off+a.sz) b
 | _,_,_=>false
def Q25 (c:Nat) (ok:Ty→Bool):Nat→Ty→Bool
 | 0,.unit=>true
 | 1,τ=>c==τ.sz&&ok τ
 | n+2,.pair a b=>c==a.sz&&ok a&&Q25 c ok (n+1) b
 | _,_=>false
def tyOk (P:Program):Nat→TypeId→Ty→Bool
 | 0,_,_=>false
 | n+1,t,τ=>
   match P.underlying t,τ with
   | some .bool,.bool=>true
   | some (.int k),.int k'=>decide (k=k')
   | some .string,.str=>true
   | some (.slice e),.list τ'=>P.cellsOf e==τ'.sz&&Nat.blt 0 τ'.sz&&Nat.blt 0 (P.bytesOf e)&&tyOk P n e τ'
   | some (.struct fs),τ=>P.cellsOf t==τ.sz&&U09 P (tyOk P n) fs.toList 0 τ
   | some (.array m e),τ=>P.cellsOf t==τ.sz&&Q25 (P.cellsOf e) (tyOk P n e) m τ
   | _,_=>false
section
variable {H:Type} {enc:TypeId×Value→H} {P:Program} {W:World} {spare:Nat→Bool} {held:Bool}
def Told (W:World) (τ:Ty) (cs:List Value) (d:DataW H):Prop:=∃ x:τ.den,Enc (fun b=>b < W.heap.size) W τ x cs∧okT τ x∧Uy τ x≤uptoBulk d
def V1o (enc:TypeId×Value→H) (P:Program) (W:World) (spare:Nat→Bool) (held:Bool) (ok:TypeId→Ty→Bool) (fuel:Nat):Prop:=
 ∀ t τ cs d ps,ok t τ=true→DataW.trod enc P W 0 spare held fuel t cs=some (d,ps)→(∀ n∈d.weights P t,n≤reachBytes)→Told W τ cs d
theorem V1b {ok:TypeId→Ty→Bool} {fuel:Nat} (IH:V1o enc P W spare held ok fuel) (cs:List Value) :
    ∀ (fs:List Field) (off:Nat) (τ:Ty) (xs:List (DataW H×List MemPlace)),U09 P ok fs off τ=true→off+τ.sz=cs.length→xs.length=fs.length→
      (∀ (i:Nat) (f:Field),fs[i]?=some f→DataW.trod enc P W 0 spare held fuel f.type ((cs.drop f.offset).take (P.cellsOf f.type))=xs[i]?)→
      (∀ n∈DataW.weightsEach P (fs.map (·.type)) (xs.map (·.1)),n≤reachBytes)→
      ∃ x:τ.den,Enc (fun b=>b < W.heap.size) W τ x (cs.drop off)∧okT τ x∧Uy τ x≤uptoBulkAll (xs.map (·.1))
 | [],off,τ,xs,h,hl,hx,hr,hw=>by
   cases τ<;>simp only[U09] at h<;>try cases h
   refine⟨(),?_,trivial,Nat.zero_le _⟩
   simp only[Enc]
   exact List.drop_eq_nil_of_le (by simp[Ty.sz] at hl;omega)
 | [f],off,τ,xs,h,hl,hx,hr,hw=>by
   simp only[U09,Bool.and_eq_true,beq_iff_eq] at h
   obtain⟨⟨h1,h2⟩,h3⟩:=h
   match xs,hx with
   | [y],_=>
     have h4:=hr 0 f rfl
     rw[h1,h2] at h4
     have h5:(cs.drop off).take τ.sz=cs.drop off:=by rw[List.take_of_length_le];simp;omega
     rw[h5] at h4
     obtain⟨x,e1,e2,e3⟩:=IH f.type τ _ y.1 y.2 h3 h4 (fun n hn=>hw n (by simp[DataW.weightsEach,hn]))
     exact⟨x,e1,e2,by simpa[uptoBulkAll] using e3⟩
 | f::g::fs,off,τ,xs,h,hl,hx,hr,hw=>by
   cases τ<;>simp only[U09] at h<;>try cases h
   rename_i a b
   simp only[Bool.and_eq_true,beq_iff_eq] at h
   obtain⟨⟨⟨h1,h2⟩,h3⟩,h4⟩:=h
   match xs,hx with
   | y::ys,hx=>
     have h5:=hr 0 f rfl
     rw[h1,h2] at h5
     obtain⟨x,e1,e2,e3⟩:=IH f.type a _ y.1 y.2 h3 h5 (fun n hn=>hw n (by simp[DataW.weightsEach,hn]))
     simp only[Ty.sz] at hl
     obtain⟨x',e4,e5,e6⟩:=V1b IH cs (g::fs) (off+a.sz) b ys h4 (by omega) (by simpa using hx) (fun i f' hf=>hr (i+1) f' (by simpa using hf)) (fun n hn=>hw n (by
      simp only[List.map_cons,DataW.weightsEach,List.mem_append] at hn ⊢
      exact .inr hn))
     refine⟨(x,x'),?_,⟨e2,e5⟩,?_⟩
     ·simp only[Enc]
      refine⟨_,_,?_,e1,e4⟩
      rw[←List.drop_drop]
      exact(List.take_append_drop _ _).symm
     ·simp only[Uy,List.map_cons,uptoBulkAll]
      omega
theorem Q2p {e:TypeId} {ok:TypeId→Ty→Bool} {fuel:Nat} (IH:V1o enc P W spare held ok fuel) (cs:List Value) :
    ∀ (n k:Nat) (τ:Ty) (xs:List (DataW H×List MemPlace)),Q25 (P.cellsOf e) (ok e) n τ=true→k * P.cellsOf e+τ.sz=cs.length→xs.length=n→
      (∀ (i:Nat),i < n→DataW.trod enc P W 0 spare held fuel e ((cs.drop ((k+i) * P.cellsOf e)).take (P.cellsOf e))=xs[i]?)→
      (∀ m∈DataW.weightsAll P e (xs.map (·.1)),m≤reachBytes)→
      ∃ x:τ.den,Enc (fun b=>b < W.heap.size) W τ x (cs.drop (k * P.cellsOf e))∧okT τ x∧Uy τ x≤uptoBulkAll (xs.map (·.1))
 | 0,k,τ,xs,h,hl,hx,hr,hw=>by
   cases τ<;>simp only[Q25] at h<;>try cases h
   refine⟨(),?_,trivial,Nat.zero_le _⟩
   simp only[Enc]
   exact List.drop_eq_nil_of_le (by simp[Ty.sz] at hl;omega)
 | 1,k,τ,xs,h,hl,hx,hr,hw=>by
   simp only[Q25,Bool.and_eq_true,beq_iff_eq] at h
   obtain⟨h2,h3⟩:=h
   match xs,hx with
   | [y],_=>
     have h4:=hr 0 (by omega)
     rw[Nat.add_zero,h2] at h4
     have h5:(cs.drop (k * τ.sz)).take τ.sz=cs.drop (k * τ.sz):=by rw[List.take_of_length_le];rw[h2] at hl;simp;omega
     rw[h5] at h4
     obtain⟨x,e1,e2,e3⟩:=IH e τ _ y.1 y.2 h3 h4 (fun n hn=>hw n (by simp[DataW.weightsAll,hn]))
     exact⟨x,by rw[h2];exact e1,e2,by simpa[uptoBulkAll] using e3⟩
 | n+2,k,τ,xs,h,hl,hx,hr,hw=>by
   cases τ<;>simp only[Q25] at h<;>try cases h
   rename_i a b
   simp only[Bool.and_eq_true,beq_iff_eq] at h
   obtain⟨⟨h2,h3⟩,h4⟩:=h
   match xs,hx with
   | y::ys,hx=>
     have h5:=hr 0 (by omega)
     rw[Nat.add_zero] at h5
     obtain⟨x,e1,e2,e3⟩:=IH e a _ y.1 y.2 h3 h5 (fun n hn=>hw n (by simp[DataW.weightsAll,hn]))
     simp only[Ty.sz] at hl
     have hk:(k+1) * P.cellsOf e=k * P.cellsOf e+a.sz:=by rw[Nat.add_mul,Nat.one_mul,h2]
     obtain⟨x',e4,e5,e6⟩:=Q2p IH cs (n+1) (k+1) b ys h4 (by rw[hk];omega) (by simpa using hx) (fun i hi=>by
      have:=hr (i+1) (by omega)
      rw[show k+1+i=k+(i+1) by omega,this]
      simp) (fun n hn=>hw n (by
      simp only[List.map_cons,DataW.weightsAll,List.mem_append] at hn ⊢
      exact .inr hn))
     refine⟨(x,x'),?_,⟨e2,e5⟩,?_⟩
     ·simp only[Enc]
      refine⟨_,_,?_,e1,e4⟩
      rw[hk,←List.drop_drop,←h2]
      exact(List.take_append_drop _ _).symm
     ·simp only[Uy,List.map_cons,uptoBulkAll]
      omega
theorem Z1b {α β:Type} {p:Nat→β→Prop}:∀ (n:Nat),(∀ i,i < n→∃ x,p i x)→∃ xs:List β,xs.length=n∧∀ i x,xs[i]?=some x→p i x
 | 0,_=>⟨[],rfl,by simp⟩
 | n+1,h=>by
   obtain⟨xs,h1,h2⟩:=Z1b (α:=α) n (fun i hi=>h i (by omega))
   obtain⟨x,hx⟩:=h n (by omega)
   refine⟨xs++[x],by simp[h1],fun i y hy=>?_⟩
   by_cases hi:i < n
   ·rw[List.getElem?_append_left (by omega)] at hy
    exact h2 i y hy
   ·have:i=n:=by
     obtain⟨hlt,_⟩:=List.getElem?_eq_some_iff.1 hy
     simp at hlt
     omega
    subst this
    rw[List.getElem?_append_right (by omega),h1] at hy
    simp at hy
    subst hy
    exact hx
theorem X2p {τ:Ty}:∀ (xs:List τ.den) (ds:List (DataW H)),xs.length=ds.length→(∀ (i:Nat) (x:τ.den) (d:DataW H),xs[i]?=some x→ds[i]?=some d→Uy τ x≤uptoBulk d)→(xs.map (Uy τ)).sum≤uptoBulkAll ds
 | [],ds,_,_=>by simp
 | x::xs,[],h,_=>by simp at h
 | x::xs,d::ds,h,hb=>by
   simp only[List.map_cons,List.sum_cons,uptoBulkAll]
   have h1:=hb 0 x d rfl rfl
   have h2:=X2p xs ds (by simpa using h) (fun i x d hx hd=>hb (i+1) x d (by simpa using hx) (by simpa using hd))
   omega
theorem J1b {e:TypeId} {n:Nat}:∀ (ds:List (DataW H)) (i:Nat) (d:DataW H),ds[i]?=some d→n∈d.weights P e→n∈DataW.weightsAll P e ds
 | [],i,d,h,_=>by simp at h
 | c::ds,0,d,h,hn=>by
   simp at h
   subst h
   simp[DataW.weightsAll,hn]
 | c::ds,i+1,d,h,hn=>by
   simp only[List.getElem?_cons_succ] at h
   simp only[DataW.weightsAll,List.mem_append]
   exact .inr (J1b ds i d h hn)
theorem U3m (a:Addr) (m n:Nat):(a.add m).add n=a.add (m+n):=by
 unfold Addr.add
 by_cases h1:m=0<;>by_cases h2:n=0<;>simp[h1,h2]
 omega
theorem X0o:∀ (n:Nat) (fuel:Nat),V1o enc P W spare held (tyOk P n) fuel
 | 0,fuel,t,τ,cs,d,ps,h,_,_=>by simp[tyOk] at h
 | n+1,fuel,t,τ,cs,d,ps,h,htr,hw=>by
   simp only[tyOk] at h
   split at h
   ·rename_i hu
    cases fuel with
    | zero=>simp[DataW.trod] at htr
    | succ fuel=>
      unfold DataW.trod at htr
      rw[hu] at htr
      split at htr<;>simp_all
      obtain⟨rfl,_⟩:=htr
      exact⟨_,rfl,trivial,by simp[Uy,uptoBulk]⟩
   ·rename_i k k' hu
    have hk:=of_decide_eq_true h
    subst hk
    cases fuel with
    | zero=>simp[DataW.trod] at htr
    | succ fuel=>
      unfold DataW.trod at htr
      rw[hu] at htr
      split at htr<;>simp_all
      obtain⟨⟨rfl,hwf⟩,rfl,_⟩:=htr
      exact⟨_,rfl,hwf,by simp[Uy,uptoBulk]⟩
   ·rename_i hu
    cases fuel with
    | zero=>simp[DataW.trod] at htr
    | succ fuel=>
      unfold DataW.trod at htr
      rw[hu] at htr
      split at htr<;>simp_all
      rename_i s
      obtain⟨_,rfl,_⟩:=htr
      refine⟨s.data.toList,by simp[Enc],?_,by simp[Uy,uptoBulk]⟩
      simp only[okT]
      exact hw _ (by simp[DataW.weights])
   ·rename_i e τ' hu
    simp only[Bool.and_eq_true,beq_iff_eq] at h
    obtain⟨⟨⟨h1,h2⟩,h3⟩,h4⟩:=h
    have h2':0 < τ'.sz:=by simpa using h2
    have h3':0 < P.bytesOf e:=by simpa using h3
    rcases DataW.trod_slice hu htr with ⟨rfl,hx⟩ | ⟨a,len,cap,elems,rest,m,rfl,rfl,hx,hb,hl,hm,hlen,hel,hsp,hns⟩
    ·cases hx
     exact⟨[],⟨none,0,rfl,by simp,fun _=>rfl,fun a ha=>by cases ha⟩,by simp[okT],by simp[Uy,uptoBulk]⟩
    ·cases hx
     have hw1:(elems.length+rest.length) * P.bytesOf e≤reachBytes∧∀ n∈DataW.weightsAll P e (elems.map (·.1)),n≤reachBytes:=by
      simp only[DataW.weights,hu,List.length_map] at hw
      exact⟨hw _ (by simp),fun n hn=>hw n (by simp[hn])⟩
     have hone:∀ i,i < len→∃ x:τ'.den,a.spot=none∧a.block < W.heap.size∧okT τ' x∧(∃ y,elems[i]?=some y∧Uy τ' x≤uptoBulk y.1) ∧
         ∃ us,Enc (fun b=>b < W.heap.size) W τ' x us∧us.length=τ'.sz∧∀ (j:Nat) (u:Value),us[j]?=some u→W.cell? ⟨a.block,a.off+i * τ'.sz+j,none⟩=some u:=fun i hi=>by
      have h5:=hel i hi
      have hy:∃ y,elems[i]?=some y:=⟨_,List.getElem?_eq_getElem (by omega)⟩
      obtain⟨y,hy⟩:=hy
      rw[hy] at h5
      cases hcs:W.cells? 0 (a.add (i * P.cellsOf e)) (P.cellsOf e) with
      | none=>rw[hcs] at h5;cases h5
      | some us=>
        rw[hcs,Option.bind_some] at h5
        obtain⟨_,hul,hcell⟩:=World.cells?_some hcs
        obtain⟨x,e1,e2,e3⟩:=X0o n m e τ' us y.1 y.2 h4 h5 (fun k hk=>hw1.2 k (J1b _ i y.1 (by simp[hy]) hk))
        have hcell':∀ (j:Nat) (u:Value),us[j]?=some u→W.cell? (a.add (i * τ'.sz+j))=some u:=fun j u hu=>by
         have hj:j < P.cellsOf e:=by
          obtain⟨hj,_⟩:=List.getElem?_eq_some_iff.1 hu
          omega
         have:=hcell j hj
         rw[U3m,hu,h1] at this
         exact this
        have hu0:us[0]?=some (us[0]'(by omega)):=List.getElem?_eq_getElem (by omega)
        have hc0:=hcell' 0 _ hu0
        have hspot0:(a.add (i * τ'.sz+0)).spot=none:=World.cell?_spot hc0
        have hblk:(a.add (i * τ'.sz+0)).block < W.heap.size:=by
         unfold World.cell? at hc0
         split at hc0
         ·rename_i c _ _ hh
          exact(Array.getElem?_eq_some_iff.1 hh).1
         ·cases hc0
        rw[ChangeShapes.block_add] at hblk
        refine⟨x,?_,hblk,e2,⟨y,hy,e3⟩,us,e1,by omega,fun j u hu=>?_⟩
        ·
         have h0:=hel 0 (by omega)
         cases hcs0:W.cells? 0 (a.add (0 * P.cellsOf e)) (P.cellsOf e) with
         | none=>
           rw[hcs0] at h0
           rw[List.getElem?_eq_getElem (by omega)] at h0
           cases h0
         | some us0=>
           obtain⟨_,hul0,hcell0⟩:=World.cells?_some hcs0
           have:=hcell0 0 (by omega)
           rw[List.getElem?_eq_getElem (by omega)] at this
           have h9:=World.cell?_spot this
           simpa[Addr.add] using h9
        ·have:=hcell' j u hu
         by_cases hz:i * τ'.sz+j=0
         ·have hsp0:a.spot=none:=by
           rw[hz] at this
           have:=World.cell?_spot this
           simpa[Addr.add] using this
          obtain⟨ab,ao,asp⟩:=a
          simp only at hsp0
          subst hsp0
          rw[hz] at this
          rw[show ao+i * τ'.sz+j=ao by omega]
          simpa[Addr.add] using this
         ·unfold Addr.add at this
          rw[if_neg hz] at this
          rw[Nat.add_assoc]
          exact this
     obtain⟨xs,g1,g2⟩:=Z1b (α:=Unit) len hone
     refine⟨xs,⟨some a,cap,by rw[g1],by omega,(fun h=>by cases h),fun a' ha' i x hx=>?_⟩,⟨?_,fun x hx=>?_⟩,?_⟩
     ·cases ha'
      obtain⟨q1,q2,q3,q4,q5⟩:=g2 i x hx
      exact⟨q1,q2,q5⟩
     ·rw[g1,←hlen]
      have:elems.length+rest.length≤(elems.length+rest.length) * P.bytesOf e:=Nat.le_mul_of_pos_right _ h3'
      omega
     ·obtain⟨i,hi,rfl⟩:=List.getElem_of_mem hx
      exact(g2 i _ (List.getElem?_eq_getElem hi)).2.2.1
     ·simp only[Uy,uptoBulk]
      have:=X2p xs (elems.map (·.1)) (by simp[g1,hlen]) (fun i x d hx hd=>by
       obtain⟨_,_,_,⟨y,hy,hb⟩,_⟩:=g2 i x hx
       rw[List.getElem?_map,hy] at hd
       cases hd
       exact hb)
      omega
   ·rename_i fs hu
    simp only[Bool.and_eq_true,beq_iff_eq] at h
    obtain⟨xs,m,rfl,hx,hl,hxl,hr⟩:=DataW.trod_struct hu htr
    cases hx
    have hw1:∀ n∈DataW.weightsEach P (fs.toList.map (·.type)) (xs.map (·.1)),n≤reachBytes:=by
     simp only[DataW.weights,hu] at hw
     exact hw
    obtain⟨x,e1,e2,e3⟩:=V1b (X0o n m) cs fs.toList 0 _ xs h.2 (by rw[hl,h.1];simp) (by simpa using hxl) (fun i f hf=>hr i f (by simpa using hf)) hw1
    exact⟨x,by simpa using e1,e2,by simp only[uptoBulk];omega⟩
   ·rename_i k e hu
    simp only[Bool.and_eq_true,beq_iff_eq] at h
    obtain⟨xs,m,rfl,hx,hl,hxl,hr⟩:=DataW.trod_array hu htr
    cases hx
    have hw1:∀ n∈DataW.weightsAll P e (xs.map (·.1)),n≤reachBytes:=by
     simp only[DataW.weights,hu] at hw
     exact hw
    obtain⟨x,e1,e2,e3⟩:=Q2p (X0o n m) cs k 0 _ xs h.2 (by rw[hl,h.1];simp) hxl (fun i hi=>by rw[Nat.zero_add];exact hr i hi) hw1
    exact⟨x,by simpa using e1,e2,by simp only[uptoBulk];omega⟩
   ·cases h
end
end Go.Proofs.YtpledbapngdkeaaE
namespace Go.Proofs.YtpledbapngdkeaaE
open Go
set_option linter.unusedVariables false
set_option linter.unusedSimpArgs false
open Go.Proofs.Ytpledbapngdkeaa.Rows (uptoBulk uptoBulkAll)
def X0m:List (Nat×Nat)→List (Nat×Nat)→Bool
 | [],[]=>true
 | a::r,b::q=>Nat.beq a.1 b.1&&Nat.beq a.2 b.2&&X0m r q
 | _,_=>false
theorem U1v:∀ {a b:List (Nat×Nat)},X0m a b=true→a=b
 | [],[],_=>rfl
 | (x,y)::r,(u,v)::q,h=>by
   simp only[X0m,Bool.and_eq_true] at h
   rw[U1v h.2,Nat.eq_of_beq_eq_true h.1.1,Nat.eq_of_beq_eq_true h.1.2]
 | [],_::_,h=>by simp[X0m] at h
 | _::_,[],h=>by simp[X0m] at h
def X2e (P:Program) (t:Nat) (d:TD):Bool:=
 match d,P.underlying t with
 | .bool,some .bool=>true
 | .int k,some (.int k')=>decide (k'=k)
 | .str,some .string=>true
 | .ptr e,some (.pointer e')=>Nat.beq e' e
 | .slice e,some (.slice e')=>Nat.beq e' e
 | .array n e,some (.array n' e')=>Nat.beq n' n&&Nat.beq e' e
 | .struct fs, some (.struct fields) => X0m (fields.toList.map fun f => (f.offset, f.type)) fs && (fields.toList.all fun f => !(f.name == "_")) && !P.stoodInHeld t && !P.eqGuardType P.depth t
 | .map k e,some (.map k' e')=>Nat.beq k' k&&Nat.beq e' e
 | .func,some (.func _ _ _)=>true
 | .other,some (.struct _)=>false
 | .other,some (.array _ _)=>false
 | .other,some _=>true
 | _,_=>false
theorem U30 {P:Program} {t:Nat} {d:TD} (h:X2e P t d=true):X8 P t d:=by
 unfold X2e at h
 split at h
 ·rename_i hu;exact hu
 ·rename_i k k' hu
  have:=of_decide_eq_true h
  subst this
  exact hu
 ·rename_i hu;exact hu
 ·rename_i e e' hu
  have:=Nat.eq_of_beq_eq_true h
  subst this
  exact hu
 ·rename_i e e' hu
  have:=Nat.eq_of_beq_eq_true h
  subst this
  exact hu
 ·rename_i n e n' e' hu
  simp only[Bool.and_eq_true] at h
  have h1:=Nat.eq_of_beq_eq_true h.1
  have h2:=Nat.eq_of_beq_eq_true h.2
  subst h1 h2
  exact hu
 ·rename_i fs fields hu
  simp only[Bool.and_eq_true,Bool.not_eq_true'] at h
  refine⟨fields,hu,U1v h.1.1.1,fun f hf=>?_,h.1.2,h.2⟩
  have:=List.all_eq_true.1 h.1.1.2 f hf
  simpa using this
 ·rename_i k e k' e' hu
  simp only[Bool.and_eq_true] at h
  have h1:=Nat.eq_of_beq_eq_true h.1
  have h2:=Nat.eq_of_beq_eq_true h.2
  subst h1 h2
  exact hu
 ·rename_i a b c hu;exact⟨a,b,c,hu⟩
 ·cases h
 ·cases h
 ·rename_i d hn1 hn2 hu
  exact⟨_,hu,fun fs e=>hn1 fs (by rw[e]),fun n e he=>hn2 n e (by rw[he])⟩
 ·cases h
def Z2e:AV→Value→Bool
 | .int k n,.int k' n'=>decide (k=k')&&decide (n=n')
 | .bool b,.bool b'=>b==b'
 | .str s,.string s'=>s.isEmpty&&Nat.beq s'.size 0
 | .np,.pointer none=>true
 | .ns,.slice none 0 0=>true
 | .nm,.map none=>true
 | .nf,.nilFunc=>true
 | _,_=>false
theorem J2t {s:ByteArray} (h:s.size=0):s=⟨#[]⟩:=by
 have:s.data.size=0:=h
 obtain⟨d⟩:=s
 have h2:d=#[]:=Array.eq_empty_of_size_eq_zero this
 rw[h2]
theorem J2y {x:AV} {v:Value} (h:Z2e x v=true) (μ:Nat→Pl) (F:Nat→Prop) (w:World):VRel μ F w x v∧v.oneCell'=true:=by
 unfold Z2e at h
 split at h
 ·simp only[Bool.and_eq_true,decide_eq_true_eq] at h
  obtain⟨rfl,rfl⟩:=h
  exact⟨by simp[VRel],rfl⟩
 ·have:=eq_of_beq h
  subst this
  exact⟨by simp[VRel],rfl⟩
 ·simp only[Bool.and_eq_true,List.isEmpty_iff] at h
  obtain⟨rfl,h2⟩:=h
  have:=J2t (Nat.eq_of_beq_eq_true h2)
  subst this
  exact⟨by simp[VRel],rfl⟩
 ·exact⟨by simp[VRel],rfl⟩
 ·exact⟨by simp[VRel],rfl⟩
 ·exact⟨by simp[VRel],rfl⟩
 ·exact⟨by simp[VRel],rfl⟩
 ·cases h
def U0b:List AV→List Value→Bool
 | [],[]=>true
 | x::xs,v::vs=>Z2e x v&&U0b xs vs
 | _,_=>false
theorem V1a:∀ {xs:List AV} {vs:List Value},U0b xs vs=true→(∀ μ F w,Z2 μ F w xs vs)∧∀ v∈vs,v.oneCell'=true
 | [],[],_=>⟨fun _ _ _=>by simp[Z2],by simp⟩
 | x::xs,v::vs,h=>by
   simp only[U0b,Bool.and_eq_true] at h
   have h1:=fun μ F w=>J2y h.1 μ F w
   have h2:=V1a h.2
   refine⟨fun μ F w=>by simp only[Z2];exact⟨v,vs,rfl,(h1 μ F w).1,h2.1 μ F w⟩,fun u hu=>?_⟩
   rcases List.mem_cons.1 hu with rfl | hu
   ·exact(h1 (fun _=>.none) (fun _=>False) default).2
   ·exact h2.2 u hu
 | [],_::_,h=>by simp[U0b] at h
 | _::_,[],h=>by simp[U0b] at h
def Qw:Ty→List Value→Option (List Value)
 | .int k,.int k' n::r=>if k'=k∧n=0 then some r else none
 | .bool,.bool false::r=>some r
 | .str,.string s::r=>if s.size=0 then some r else none
 | .unit,r=>some r
 | .list _,.slice none 0 0::r=>some r
 | .pair a b,r=>match Qw a r with | some r=>Qw b r | none=>none
 | _,_=>none
theorem Q0r {F:Nat→Prop} {w:World}:∀ (τ:Ty) (cs r:List Value),Qw τ cs=some r→∃ us,cs=us++r∧Enc F w τ τ.dflt us
 | .int k,cs,r,h=>by
   unfold Qw at h
   split at h<;>simp_all
   obtain⟨⟨rfl,rfl⟩,rfl⟩:=h
   exact⟨[_],rfl,by simp only[Enc];simp_all[Ty.dflt]⟩
 | .bool,cs,r,h=>by
   unfold Qw at h
   split at h<;>simp_all
   exact⟨[_],rfl,rfl⟩
 | .str,cs,r,h=>by
   unfold Qw at h
   split at h<;>simp_all
   obtain⟨hs,rfl⟩:=h
   subst hs
   exact⟨[_],rfl,rfl⟩
 | .unit,cs,r,h=>by
   simp only[Qw,Option.some.injEq] at h
   subst h
   exact⟨[],rfl,rfl⟩
 | .list t,cs,r,h=>by
   unfold Qw at h
   split at h<;>simp_all
   exact⟨[_],rfl,none,0,rfl,Nat.le_refl _,fun _=>rfl,fun a ha=>by cases ha⟩
 | .pair a b,cs,r,h=>by
   simp only[Qw] at h
   split at h
   ·rename_i r1 h1
    obtain⟨us,rfl,e1⟩:=Q0r a cs r1 h1
    obtain⟨us',rfl,e2⟩:=Q0r b r1 r h
    exact⟨us++us',by rw[List.append_assoc],us,us',rfl,e1,e2⟩
   ·cases h
def X4k:Value→Bool
 | .agg _=>false
 | _=>true
theorem V3j {z:Value} (h:X4k z=true):z.cells=#[z]:=by
 cases z<;>first | rfl | cases h
def Q1v (P:Program) (t:Nat) (r:Row):Bool:=r.desc.agg||(match P.info? t with | some i=>(match i.zero with | some z=>X4k z | none=>true) | none=>true)
theorem V2v {P:Program} {t:Nat} {r:Row} (h:Q1v P t r=true):r.desc.agg=false→∀ i z,P.info? t=some i→i.zero=some z→z.cells=#[z]:=by
 intro ha i z hi hz
 unfold Q1v at h
 rw[ha,hi,Bool.false_or] at h
 simp only[hz] at h
 exact V3j h
def J2c (t:Nat) (r:Row):Bool:=(match r.ty with | some (.int .u8)=>Nat.beq t 5 | _=>true)&&(match r.desc with | .int .u8=>Nat.beq t 5 | _=>true)
theorem U2w {t:Nat} {r:Row} (h:J2c t r=true):r.ty=some (.int .u8)∨r.desc=.int .u8→t=5:=by
 intro hr
 unfold J2c at h
 rw[Bool.and_eq_true] at h
 rcases hr with hr | hr
 ·rw[hr] at h;exact Nat.eq_of_beq_eq_true h.1
 ·rw[hr] at h;exact Nat.eq_of_beq_eq_true h.2
def Q2x (P:Program) (t:Nat) (r:Row):Bool:=
 (X2e P t r.desc&&(J2c t r&&Q1v P t r))&&(match P.info? t with
  | some i=>Nat.beq i.size r.size&&Nat.beq i.bytes r.bytes&&(match i.zero with
    | some z=>Nat.beq z.cells.size r.size&&U0b r.zero z.cells.toList&&(match r.ty with
      | some τ=>(match Qw τ z.cells.toList with | some []=>true | _=>false)
      | none=>true)
    | none=>false)
  | none=>false)
theorem J3j {P:Program} {t:Nat} {r:Row} (h:Q2x P t r=true):RowOk P t r:=by
 unfold Q2x at h
 rw[Bool.and_eq_true] at h
 obtain⟨h1,h2⟩:=h
 simp only[Bool.and_eq_true] at h1
 refine⟨U30 h1.1,?_,U2w h1.2.1,V2v h1.2.2⟩
 split at h2
 ·rename_i i hi
  simp only[Bool.and_eq_true] at h2
  obtain⟨⟨a1,a2⟩,h3⟩:=h2
  split at h3
  ·rename_i z hz
   simp only[Bool.and_eq_true] at h3
   obtain⟨⟨b1,b2⟩,h4⟩:=h3
   have hc:=V1a b2
   refine⟨i,z,hi,Nat.eq_of_beq_eq_true a1,Nat.eq_of_beq_eq_true a2,hz,Nat.eq_of_beq_eq_true b1,hc.1,hc.2,fun τ hτ F w=>?_⟩
   rw[hτ] at h4
   simp only at h4
   split at h4
   ·rename_i hz0
    obtain⟨us,e1,e2⟩:=Q0r (F:=F) (w:=w) τ _ _ hz0
    rw[e1,List.append_nil]
    exact e2
   ·cases h4
  ·cases h3
 ·cases h2
def J1j:List (Nat×Row)→Nat→Option Row
 | [],_=>none
 | (k,r)::rs,t=>bif t==k then some r else J1j rs t
theorem Q21:∀ {rs:List (Nat×Row)} {t:Nat} {r:Row},J1j rs t=some r→(t,r)∈rs
 | [],t,r,h=>by simp[J1j] at h
 | (k,r')::rs,t,r,h=>by
   simp only[J1j] at h
   cases he:t==k with
   | true=>
     rw[he] at h
     have:=eq_of_beq he
     subst this
     cases h
     simp
   | false=>
     rw[he] at h
     exact List.mem_cons_of_mem _ (Q21 h)
theorem J4o {P:Program} {T:Tab} (h:Q6 P T) (l m:Nat→Option (List Nat)):Q6 P { T with live:=l,mid:=m,nild:=true }:=h
theorem Q29 {P:Program} {T:Tab} (h:Q6 P T):Q6 P { T with kns:=true }:=h
theorem X61 {P:Program} {rs:List (Nat×Row)} (h:rs.all (fun p=>Q2x P p.1 p.2)=true):Q6 P { row:=J1j rs }:=
 fun t r hr=>J3j (List.all_eq_true.1 h (t,r) (Q21 hr))
theorem Q2q {H:Type} {enc:TypeId×Value→H} {P:Program} {W:World} {spare:Nat→Bool} {held:Bool} {r:Reach} {base n:Nat} {t:TypeId} {τ:Ty} {v:Value} {d:DataW H} {ps:List MemPlace} (hok:tyOk P n t τ=true)
    (hval:Value.okWide P W r base t v) (h:DataW.Trod enc P W 0 spare held t v d ps) (hw:∀ n∈d.weights P t,n≤reachBytes) {agg:Bool} (hagg:(match P.underlying t with | some (.struct _)=>true | some (.array _ _)=>true | _=>false)=agg) :
    ∃ x:τ.den,VRel (fun _=>.none) (fun b=>b < W.heap.size) W (AV.ofTy τ x agg) v∧okT τ x∧Uy τ x≤uptoBulk d:=by
 obtain⟨fuel,hf⟩:=h
 obtain⟨x,e1,e2,e3⟩:=X0o n fuel t τ _ d ps hok hf hw
 refine⟨x,?_,e2,e3⟩
 have hfl:=Qx (μ:=fun _=>.none) τ x _ e1
 have one:∀ u,v=u→v.cells=#[u]→agg=false→τ.sz=1→VRel (fun _=>.none) (fun b=>b < W.heap.size) W (AV.ofTy τ x agg) v:=fun u hu hc ha hs=>by
  subst ha
  rw[hc] at hfl
  have hl:=Ug hfl
  simp at hl
  unfold AV.ofTy
  simp only[Bool.false_eq_true,if_false]
  cases hfx:flat τ x with
  | nil=>rw[hfx] at hl;simp at hl
  | cons y ys=>
    rw[hfx] at hl
    simp at hl
    subst hl
    rw[hfx] at hfl
    simp only[Z2] at hfl
    obtain⟨u',us',h1,h2,_⟩:=hfl
    simp at h1
    obtain⟨rfl,_⟩:=h1
    rw[hu]
    exact h2
 cases n with
 | zero=>simp[tyOk] at hok
 | succ n=>
   simp only[tyOk] at hok
   split at hok
   ·rename_i hu
    obtain⟨b,rfl⟩:=WideShapes.okWide_bool hu hval
    exact one _ rfl rfl (by rw[←hagg,hu]) rfl
   ·rename_i k k' hu
    obtain⟨n,rfl⟩:=WideShapes.okWide_int hu hval
    exact one _ rfl rfl (by rw[←hagg,hu]) rfl
   ·rename_i hu
    obtain⟨s,rfl⟩:=WideShapes.okWide_string hu hval
    exact one _ rfl rfl (by rw[←hagg,hu]) rfl
   ·rename_i e τ' hu
    obtain⟨a,len,cap,rfl⟩:=WideShapes.okWide_slice hu hval
    exact one _ rfl rfl (by rw[←hagg,hu]) rfl
   ·rename_i fs hu
    rw[hu] at hagg
    subst hagg
    simp only[Value.okWide,hu] at hval
    obtain⟨cs,rfl,_,_⟩:=hval
    simp only[AV.ofTy,if_true,VRel]
    exact⟨cs.toList,by simp,by simpa[Value.cells] using hfl,by simpa[Value.cells] using e1.one⟩
   ·rename_i k e hu
    rw[hu] at hagg
    subst hagg
    simp only[Value.okWide,hu] at hval
    obtain⟨cs,rfl,_,_⟩:=hval
    simp only[AV.ofTy,if_true,VRel]
    exact⟨cs.toList,by simp,by simpa[Value.cells] using hfl,by simpa[Value.cells] using e1.one⟩
   ·cases hok
theorem X3i {P:Program} {f:Nat} {args:List AV} {b:Bool} (h:SemF P f args [] [.bool b] []) (W:World) {vs:List Value} (hv:Z2 (fun _=>.none) (fun b=>b < W.heap.size) W args vs) :
    Calls P f vs.toArray W fun e W'=>e=.returned (.bool b)∧RowKit.Below W.heap.size W W':=by
 refine(h.2 W (fun _=>.none) (fun b=>b < W.heap.size) vs ⟨fun k hk=>by simp at hk,fun _ _=>rfl,fun k k' b h=>by simp[Pl.owns] at h,fun k b h=>by simp[Pl.owns] at h,fun b h=>h⟩ hv).mono fun e W' he=>?_
 obtain⟨v,rfl,μ',F',h1,h2,h3,_⟩:=he
 simp only[Ua,VRel] at h1
 subst h1
 exact⟨rfl,h3.os,h3.tape,h3.output,h3.size,fun b hb=>h3.keep b hb fun⟨k,hk⟩=>by simp[Pl.owns] at hk⟩
abbrev X0f:=Nat→List AV→List LObj→Tr (Ex×List AV×List LObj)
def Tr.map {α β:Type} (f:α→β):Tr α→Tr β
 | .no=>.no
 | .ret a=>.ret (f a)
 | .br c x y=>.br c (x.map f) (y.map f)
theorem Tr.get_map {α β:Type} {f:α→β}:∀ (t:Tr α),(t.map f).get=t.get.map f
 | .no=>rfl
 | .ret a=>rfl
 | .br c x y=>by cases c<;>simp only[Tr.map,Tr.get,cond_true,cond_false]<;>exact Tr.get_map _
def lpOf (H:Hint) (n0:Nat) (S:X0f):Lp:=fun bid _ st=>
 let p:=J1x (H.keep bid) n0 st
 (S bid p.1 p.2).map fun r=>(r.1,stOf (H.keepX bid) r.2.1 r.2.2)
def Jc:Code→Nat→List (Nat×Code)
 | .seq a b,bid=>Jc a bid++Jc b bid
 | .cond _ a b,bid=>Jc a bid++Jc b bid
 | .block id c,_=>Jc c id
 | .loop c,bid=>[(bid,c)]
 | _,_=>[]
theorem X20 {R:Type} {r:R} {all:List Oper} {o:Oper} {st:St} {run skip run' skip':St→Option R} (h1:∀ st,run st=some r→run' st=some r) (h2:∀ st,skip st=some r→skip' st=some r)
    (h:gate all o st run skip=some r):gate all o st run' skip'=some r:=by
 unfold gate at h ⊢
 cases hg:o.guard with
 | none=>rw[hg] at h;exact h1 _ h
 | some g=>
   obtain⟨j,want⟩:=g
   rw[hg] at h
   simp only at h ⊢
   cases hd:J0q all j with
   | none=>rw[hd] at h;cases h
   | some t=>
     rw[hd] at h
     simp only at h ⊢
     split at h
     ·rename_i b hb
      cases want<;>cases b<;>simp only[cond_true,cond_false] at h ⊢<;>first | exact h1 _ h | exact h2 _ h
     ·exact h2 _ h
     ·cases h
theorem X4z {T:Tab} {orc:Orc} {o:Op} {ty:Nat} {st:St} {R:Type} {r:R} {K K':Eff→Option R} (hk:∀ f,K f=some r→K' f=some r) (h:evOp T orc o ty st K=some r):evOp T orc o ty st K'=some r:=by
 rw[J0n] at h ⊢
 cases he:evOp T orc o ty st some with
 | none=>rw[he] at h;cases h
 | some f=>rw[he] at h;exact hk f h
theorem X1q {T:Tab} {orc:Orc} {all:List Oper} {R:Type} {r:R} {K K':St→Option R} (hk:∀ st,K st=some r→K' st=some r):∀ (os:List Oper) (st:St),J0g T orc all os st K=some r→J0g T orc all os st K'=some r
 | [],st,h=>hk st h
 | o::os,st,h=>X20 (fun st h=>X4z (fun f h=>by rw[Qd] at h ⊢;exact X1q hk os _ h) h) (fun st h=>X1q hk os _ h) h
theorem V4f {T:Tab} {orc:Orc} {all:List Oper} {n0:Nat} {o:Oper} {st:St} {R:Type} {r:R} {K K':Eff→Option R} (hk:∀ f,K f=some r→K' f=some r) (h:Jv T orc all n0 o st K=some r):Jv T orc all n0 o st K'=some r:=by
 rw[X0d] at h ⊢
 cases he:Jv T orc all n0 o st some with
 | none=>rw[he] at h;cases h
 | some f=>rw[he] at h;exact hk f h
theorem X4q {T:Tab} {all:List Oper} {R:Type} {r:R} {st:St} {K K':Nat→St→Option R} (hk:∀ n st,K n st=some r→K' n st=some r) (h:resE T all st K=some r):resE T all st K'=some r:=by
 unfold resE at h ⊢
 split
 ·rename_i hx;rw[hx] at h;exact hk _ _ h
 ·rename_i hx
  rw[hx] at h
  simp only[Vd] at h ⊢
  exact hk _ _ h
theorem Z14 {T:Tab} {orc:Orc} {all:List Oper} {bs:List Nat} {n0:Nat} {R:Type} {r:R} {K K':St→Option R} (hk:∀ st,K st=some r→K' st=some r):∀ (os:List Oper) (cs:List Cls) (st:St),Jq T orc all bs n0 os cs st K=some r→Jq T orc all bs n0 os cs st K'=some r
 | [],cs,st,h=>by
   simp only[Jq] at h ⊢
   cases hm:X0c bs cs.reverse with
   | true=>rw[hm] at h;exact hk st h
   | false=>rw[hm] at h;cases h
 | o::os,cs,st,h=>by
   simp only[Jq,U18,J0l,X1n] at h ⊢
   exact X20 (fun st h=>V4f (fun f h=>Z14 hk os _ _ h) h) (fun st h=>Z14 hk os _ _ h) h
theorem Vy {T:Tab} {orc:Orc} {lp lp':Lp} {R:Type} {r:R}:∀ (c:Code) (bid:Nat) (st:St) (K K':Ex→St→Option R),(∀ x∈Jc c bid,∀ st q,(lp x.1 x.2 st).get=some q→(lp' x.1 x.2 st).get=some q)→
    (∀ ex st,K ex st=some r→K' ex st=some r)→evC T orc lp c bid st K=some r→evC T orc lp' c bid st K'=some r
 | .skip,_,_,_,_,_,hk,h=>hk _ _ h
 | .label _,_,_,_,_,_,hk,h=>hk _ _ h
 | .exit _,_,_,_,_,_,hk,h=>hk _ _ h
 | .ret,_,_,_,_,_,hk,h=>hk _ _ h
 | .goto _,_,_,_,_,_,_,h=>by simp[evC] at h
 | .scope ..,_,_,_,_,_,_,h=>by simp[evC] at h
 | .rangeFunc ..,_,_,_,_,_,_,h=>by simp[evC] at h
 | .refuse ..,_,_,_,_,_,_,h=>by simp[evC] at h
 | .region id ops draw,bid,st,K,K',hl,hk,h=>by
   simp only[evC] at h ⊢
   cases draw with
   | true=>
     rw[if_pos rfl] at h ⊢
     cases hd:X0g ops (Region.before ops).toList with
     | true=>rw[hd,cond_true] at h;simp only[cond_true];exact X4q (fun n st h=>Z14 (fun st h=>by rw[Qd] at h ⊢;exact hk _ _ h) _ _ _ h) h
     | false=>rw[hd] at h;cases h
   | false=>
     rw[if_neg (by simp)] at h ⊢
     exact X1q (fun st h=>by rw[Qd] at h ⊢;exact hk _ _ h) _ _ h
 | .seq a b,bid,st,K,K',hl,hk,h=>by
   simp only[evC] at h ⊢
   refine Vy a bid st _ _ (fun x hx=>hl x (by simp[Jc,hx])) (fun ex st' h'=>?_) h
   cases ex with
   | normal=>exact Vy b bid st' K K' (fun x hx=>hl x (by simp[Jc,hx])) hk h'
   | exit id=>exact hk _ _ h'
   | ret=>exact hk _ _ h'
 | .cond c a b,bid,st,K,K',hl,hk,h=>by
   simp only[evC,Q3f] at h ⊢
   split at h
   ·rename_i t ht
    cases t with
    | true=>exact Vy a bid _ K K' (fun x hx=>hl x (by simp[Jc,hx])) hk h
    | false=>exact Vy b bid _ K K' (fun x hx=>hl x (by simp[Jc,hx])) hk h
   ·cases h
 | .block id c,bid,st,K,K',hl,hk,h=>by
   simp only[evC] at h ⊢
   refine Vy c id st _ _ (fun x hx=>hl x (by simpa[Jc] using hx)) (fun ex st' h'=>?_) h
   cases ex with
   | normal=>exact hk _ _ h'
   | ret=>exact hk _ _ h'
   | exit i=>
     simp only[J2g] at h' ⊢
     cases hi:i==id with
     | true=>rw[hi] at h';exact hk _ _ h'
     | false=>rw[hi] at h';exact hk _ _ h'
 | .loop c,bid,st,K,K',hl,hk,h=>by
   simp only[evC] at h ⊢
   obtain⟨q,hq,h⟩:=Tr.run_some h
   rw[Tr.run_get,hl (bid,c) (by simp[Jc]) st q hq]
   exact hk _ _ h
def Zc (T:Tab) (orc:Orc) (H:Hint) (n0 d:Nat) (S:X0f) (x:Nat×Code):Prop:=
 ∀ n,d≤n→∀ vs os ex vs' os',(S x.1 vs os).get=some (ex,vs',os')→
   Z4 (fun st=>evC T orc (lpN T orc H n0 n) x.2 x.1 st (V1 (H.keep x.1) (H.keepX x.1) n0)) (stOf (H.keep x.1) vs os)=some (ex,stOf (H.keepX x.1) vs' os')
theorem lp_of {T:Tab} {orc:Orc} {H:Hint} {n0 d:Nat} {S:X0f} {x:Nat×Code} (h:Zc T orc H n0 d S x) {n:Nat} (hn:d≤n) {st:St} {q:Ex×St} (hq:(lpOf H n0 S x.1 x.2 st).get=some q):(lpN T orc H n0 (n+1) x.1 x.2 st).get=some q:=by
 unfold lpOf at hq
 simp only[Tr.get_map] at hq
 simp only[lpN,Tr.get_of]
 cases hr:(S x.1 (J1x (H.keep x.1) n0 st).1 (J1x (H.keep x.1) n0 st).2).get with
 | none=>rw[hr] at hq;cases hq
 | some r=>
   rw[hr] at hq
   cases hq
   exact h n hn _ _ _ _ _ hr
theorem Z2s {T:Tab} {orc:Orc} {H:Hint} {n0 d:Nat} {S:X0f} {bid:Nat} {body:Code} (hl:∀ x∈Jc body bid,Zc T orc H n0 d S x) {n:Nat} (hn:d < n) {st:St} {R:Type} {K:Ex→St→Option R} {r:R}
    (h:evC T orc (lpOf H n0 S) body bid st K=some r):evC T orc (lpN T orc H n0 n) body bid st K=some r:=by
 cases n with
 | zero=>omega
 | succ n=>exact Vy body bid st K K (fun x hx st q hq=>lp_of (hl x hx) (by omega) hq) (fun _ _ h=>h) h
theorem Q4v {T:Tab} {orc:Orc} {H:Hint} {d:Nat} {S:X0f} {fn:Func} {c:Code} {args:List AV} {objs:List LObj} {res:Res} (hb:fn.body=some c) (hl:∀ x∈Jc c 1000000,Zc T orc H objs.length d S x) (hd:d < 8)
    (hok:(Up fn.ntmps c&&Nat.ble args.length fn.ntmps)=true)
    (h:evC T orc (lpOf H objs.length S) c 1000000 (J2 args objs fn.ntmps) (Z1 T H.own objs.length fn)=some res):evFn T orc H fn args objs=some res:=by
 unfold evFn
 rw[hb]
 simp only[hok,cond_true]
 exact Z2s hl hd h
def Dens:List (Ty×Bool)→Type
 | []=>Unit
 | t::ts=>t.1.den×Dens ts
def X02:(ts:List (Ty×Bool))→Dens ts→List AV
 | [],_=>[]
 | t::ts,x=>AV.ofTy t.1 x.1 t.2::X02 ts x.2
def X0h:(ts:List (Ty×Bool))→List AV→Option (Dens ts)
 | [],[]=>some ()
 | t::ts,v::vs=>match asTy t.1 v with
   | some x=>(match X0h ts vs with | some xs=>some (x,xs) | none=>none)
   | none=>none
 | _,_=>none
def aggs:List (Ty×Bool)→List AV→Bool
 | [],[]=>true
 | t::ts,v::vs=>(v.isAgg==t.2)&&aggs ts vs
 | _,_=>false
structure FSpec where
 f:Nat
 ins:List (Ty×Bool)
 outs:List (Ty×Bool)
 F:Dens ins→Tr (Dens outs)
def FSpec.run (s:FSpec) (args:List AV):Tr Res:=
 bif aggs s.ins args then
  (match X0h s.ins args with
  | some x=>(s.F x).map fun y=>(X02 s.outs y,[])
  | none=>.no)
 else .no
def Q1k:List FSpec→Orc
 | [],_,_,_=>.no
 | s::ss,f,args,objs=>bif Nat.beq f s.f&&objs.isEmpty then s.run args else Q1k ss f args objs
def FSpec.Ok (P:Program) (s:FSpec):Prop:=∀ x y,(s.F x).get=some y→SemF P s.f (X02 s.ins x) [] (X02 s.outs y) []
theorem Q28 {μ:Nat→Pl} {F:Nat→Prop} {w:World} {v:AV} {cs:List AV} {u:Value} (ha:v.isAgg=false) (h:v.cellsOf=some cs) (hv:VRel μ F w v u):u.cells=#[u]:=by
 cases v<;>simp only[AV.cellsOf] at h<;>(try cases h)<;>simp only[VRel] at hv<;>(try (subst hv;rfl))
 case agg=>simp[AV.isAgg] at ha
 case list=>obtain⟨A,cap,rfl,_⟩:=Qi.1 hv;rfl
 case ptr=>obtain⟨b,_,rfl⟩:=hv;rfl
 case psl=>obtain⟨b,_,rfl⟩:=hv;rfl
 case rptr=>obtain⟨b,o,l,c,_,_,rfl⟩:=hv;rfl
 case lptr=>obtain⟨b,o,_,_,_,rfl⟩:=hv;rfl
 case rowA=>obtain⟨a,l,c,s,A,_,rfl,_⟩:=hv;rfl
 case rowS=>obtain⟨a,l,cp,s,A,c',_,_,_,rfl,_⟩:=hv;rfl
 case mp=>obtain⟨b,_,rfl⟩:=hv;rfl
 case fn=>obtain⟨us,rfl,_⟩:=hv;rfl
theorem Z4g {μ:Nat→Pl} {F:Nat→Prop} {w:World} {t:Ty} {v:AV} {x:t.den} {u:Value} (h:asTy t v=some x) (hv:VRel μ F w v u):VRel μ F w (AV.ofTy t x v.isAgg) u:=by
 have e:=U1w h hv
 have hf:=Qx (μ:=μ) t x _ e
 cases hag:v.isAgg with
 | true=>
   cases v<;>simp only[AV.isAgg] at hag<;>try cases hag
   rename_i cs
   simp only[VRel] at hv
   obtain⟨us,rfl,h1,h2⟩:=hv
   simp only[AV.ofTy,if_true,VRel]
   exact⟨us,rfl,by simpa[Value.cells] using hf,h2⟩
 | false=>
   have hc:∃ cs,v.cellsOf=some cs:=by
    unfold asTy at h
    split at h
    ·rename_i cs hcs;exact⟨cs,hcs⟩
    ·cases h
   obtain⟨cs,hcs⟩:=hc
   rw[Q28 hag hcs hv] at hf
   simp only[AV.ofTy,Bool.false_eq_true,if_false]
   split
   ·rename_i y hy
    rw[hy] at hf
    simp only[Z2] at hf
    obtain⟨u',us',h1,h2,h3⟩:=hf
    simp at h1
    rw[h1.1]
    exact h2
   ·simp[VRel]
theorem Z0l {μ:Nat→Pl} {F:Nat→Prop} {w:World}:∀ (ts:List (Ty×Bool)) (vs:List AV) (x:Dens ts) (us:List Value),aggs ts vs=true→X0h ts vs=some x→Z2 μ F w vs us→Z2 μ F w (X02 ts x) us
 | [],[],x,us,_,_,h=>by simpa[X02] using h
 | [],_::_,x,us,ha,_,_=>by simp[aggs] at ha
 | _::_,[],x,us,ha,_,_=>by simp[aggs] at ha
 | t::ts,v::vs,x,us,ha,hx,h=>by
   simp only[aggs,Bool.and_eq_true,beq_iff_eq] at ha
   simp only[X0h] at hx
   split at hx
   ·rename_i y hy
    split at hx
    ·rename_i ys hys
     cases hx
     simp only[Z2] at h
     obtain⟨u,us',rfl,h1,h2⟩:=h
     simp only[X02,Z2]
     refine⟨u,us',rfl,?_,Z0l ts vs ys us' ha.2 hys h2⟩
     rw[←ha.1]
     exact Z4g hy h1
    ·cases hx
   ·cases hx
theorem Q2a {μ:Nat→Pl} {F:Nat→Prop} {w:World} {ts:List (Ty×Bool)} {vs:List AV} {x:Dens ts} {u:Value} (ha:aggs ts vs=true) (hx:X0h ts vs=some x) (h:VRel μ F w (Ua vs) u):VRel μ F w (Ua (X02 ts x)) u:=by
 match ts,vs,x,ha,hx,h with
 | [],[],x,_,_,h=>simpa[X02] using h
 | [],_::_,_,ha,_,_=>simp[aggs] at ha
 | _::_,[],_,ha,_,_=>simp[aggs] at ha
 | [t],[v],x,ha,hx,h=>
   have:=Z0l (μ:=μ) (F:=F) (w:=w) [t] [v] x [u] ha hx (by simp only[Z2];exact⟨u,[],rfl,h,rfl⟩)
   simp only[X02,Z2] at this
   obtain⟨u',us',h1,h2,_⟩:=this
   simp at h1
   rw[h1.1]
   exact h2
 | [t],_::_::_,_,ha,_,_=>simp[aggs] at ha
 | _::_::_,[v],_,ha,_,_=>simp[aggs] at ha
 | t::t'::ts,v::v'::vs,x,ha,hx,h=>
   simp only[Ua,VRel] at h
   obtain⟨us,rfl,h1⟩:=h
   have:=Z0l (t::t'::ts) (v::v'::vs) x us ha hx h1
   simp only[X02] at this
   simp only[Ua,X02,VRel]
   exact⟨us,rfl,this⟩
theorem U57 {P:Program} {f:Nat} {ts:List (Ty×Bool)} {vs:List AV} {x:Dens ts} {res:List AV} {objs:List LObj} (ha:aggs ts vs=true) (hx:X0h ts vs=some x) (h:SemF P f (X02 ts x) [] res objs):SemF P f vs [] res objs:=
 ⟨h.1,fun w μ F us hh hv=>h.2 w μ F us hh (Z0l ts vs x us ha hx hv)⟩
theorem J4j {P:Program} {f:Nat} {ts:List (Ty×Bool)} {vs:List AV} {x:Dens ts} {args:List AV} {objs objs':List LObj} (ha:aggs ts vs=true) (hx:X0h ts vs=some x) (h:SemF P f args objs vs objs'):SemF P f args objs (X02 ts x) objs':=
 ⟨h.1,fun w μ F us hh hv=>(h.2 w μ F us hh hv).mono fun e w' ⟨v,he,μ',F',h1,h2⟩=>⟨v,he,μ',F',Q2a ha hx h1,h2⟩⟩
theorem Q06 {P:Program}:∀ (ss:List FSpec),(∀ s∈ss,s.Ok P)→Zd P (Q1k ss)
 | [],_,f,args,objs,res,objs',h=>by simp[Q1k,Tr.get] at h
 | s::ss,hs,f,args,objs,res,objs',h=>by
   simp only[Q1k] at h
   cases hc:(Nat.beq f s.f&&objs.isEmpty) with
   | false=>
     rw[hc] at h
     exact Q06 ss (fun s hs'=>hs s (by simp[hs'])) f args objs res objs' h
   | true=>
     rw[hc] at h
     simp only[cond_true] at h
     simp only[Bool.and_eq_true,List.isEmpty_iff] at hc
     obtain⟨h1,rfl⟩:=hc
     have:=Nat.eq_of_beq_eq_true h1
     subst this
     unfold FSpec.run at h
     cases ha:aggs s.ins args with
     | false=>rw[ha] at h;cases h
     | true=>
       rw[ha] at h
       simp only[cond_true] at h
       split at h
       ·rename_i x hx
        rw[Tr.get_map] at h
        cases hy:(s.F x).get with
        | none=>rw[hy] at h;cases h
        | some y=>
          rw[hy] at h
          cases h
          exact U57 ha hx (hs s (by simp) x y hy)
       ·cases h
def Zl:(t:Ty)→List AV→Option (t.den×List AV)
 | .int k,.int k' n::r=>if k'=k then some (n,r) else none
 | .bool,.bool b::r=>some (b,r)
 | .str,.str s::r=>some (s,r)
 | .unit,r=>some ((),r)
 | .list t,.list t' xs::r=>if h:t'=t then some (h▸xs,r) else none
 | .pair a b,r=>
   match Zl a r with
   | some (x,r)=>match Zl b r with
     | some (y,r)=>some ((x,y),r)
     | none=>none
   | none=>none
 | _,_=>none
theorem U0c:∀ (t:Ty) (cs:List AV) (x:t.den) (r:List AV),Zl t cs=some (x,r)→cs=flat t x++r
 | .int k,[],x,r,h=>by simp[Zl] at h
 | .int k,v::cs,x,r,h=>by
   cases v<;>simp only[Zl] at h<;>try cases h
   split at h<;>cases h
   rename_i hk
   subst hk
   rfl
 | .bool,[],x,r,h=>by simp[Zl] at h
 | .bool,v::cs,x,r,h=>by
   cases v<;>simp only[Zl] at h<;>try cases h
   rfl
 | .str,[],x,r,h=>by simp[Zl] at h
 | .str,v::cs,x,r,h=>by
   cases v<;>simp only[Zl] at h<;>try cases h
   rfl
 | .unit,cs,x,r,h=>by
   simp only[Zl,Option.some.injEq,Prod.mk.injEq] at h
   obtain⟨_,rfl⟩:=h
   rfl
 | .list t,[],x,r,h=>by simp[Zl] at h
 | .list t,v::cs,x,r,h=>by
   cases v<;>simp only[Zl] at h<;>try cases h
   split at h<;>cases h
   rename_i ht
   subst ht
   rfl
 | .pair a b,cs,x,r,h=>by
   simp only[Zl] at h
   split at h
   ·rename_i y r1 h1
    split at h
    ·rename_i z r2 h2
     cases h
     rw[U0c a _ _ _ h1,U0c b _ _ _ h2]
     simp[flat,List.append_assoc]
    ·cases h
   ·cases h
def getX (t:Ty):Bool→AV→Option t.den
 | true,.agg cs=>match Zl t cs with | some (x,[])=>some x | _=>none
 | false,.agg _=>none
 | false,v=>match Zl t [v] with | some (x,[])=>some x | _=>none
 | true,_=>none
theorem V50 {t:Ty} {agg:Bool} {v:AV} {x:t.den} (h:getX t agg v=some x):v=AV.ofTy t x agg:=by
 unfold getX at h
 split at h
 ·split at h
  ·rename_i y hy
   cases h
   rw[U0c _ _ _ _ hy,List.append_nil]
   rfl
  ·cases h
 ·cases h
 ·split at h
  ·rename_i y hy
   cases h
   have:=U0c _ _ _ _ hy
   rw[List.append_nil] at this
   simp only[AV.ofTy,Bool.false_eq_true,if_false]
   rw[←this]
  ·cases h
 ·cases h
inductive Sh where
 | d (t:Ty) (agg:Bool)
 | row (j:Nat)
 | ptr (j off:Nat)
 | np
 | ns
 | undef
 | mp (j:Nat)
 | psl (j n:Nat)
 | dead
 | fnp (g:Nat) (ps:List (Nat×Nat))
 | rowP (j:Nat)
def ShT:List Sh→Type
 | []=>Unit
 | .d t _::r=>t.den×ShT r
 | .row _::r=>ShT r
 | .ptr _ _::r=>ShT r
 | .np::r=>ShT r
 | .ns::r=>ShT r
 | .undef::r=>ShT r
 | .mp _::r=>ShT r
 | .psl _ _::r=>ShT r
 | .dead::r=>ShT r
 | .fnp _ _::r=>ShT r
 | .rowP _::r=>(Nat×Nat)×ShT r
def U2z (ps:List (Nat×Nat)):List AV:=ps.map fun p=>.ptr p.1 p.2
def pack:(s:List Sh)→ShT s→List AV
 | [],_=>[]
 | .d t a::r,x=>AV.ofTy t x.1 a::pack r x.2
 | .row j::r,x=>.rowA j::pack r x
 | .ptr j o::r,x=>.ptr j o::pack r x
 | .np::r,x=>.np::pack r x
 | .ns::r,x=>.ns::pack r x
 | .undef::r,x=>.undef::pack r x
 | .mp j::r,x=>.mp j::pack r x
 | .psl j n''::r,x=>.psl j n''::pack r x
 | .dead::r,x=>.dead::pack r x
 | .fnp g ps::r,x=>.fn g (U2z ps)::pack r x
 | .rowP j::r,x=>.rowS j x.1.1 x.1.2 false::pack r x.2
def AV.asPart (j:Nat):AV→Option (Nat×Nat)
 | .rowS k off n c=>match c with | false=>(bif Nat.beq k j then some (off,n) else none) | true=>none
 | _=>none
theorem J3r {j:Nat} {v:AV} {q:Nat×Nat} (h:v.asPart j=some q):v=.rowS j q.1 q.2 false:=by
 cases v<;>simp only[AV.asPart] at h<;>try cases h
 rename_i k off n c
 cases c with
 | true=>cases h
 | false=>
   cases hb:Nat.beq k j with
   | false=>rw[hb] at h;cases h
   | true=>
     rw[hb] at h
     cases h
     rw[Nat.eq_of_beq_eq_true hb]
def AV.isRow (j:Nat):AV→Bool | .rowA k=>Nat.beq k j | _=>false
def AV.isPtr (j o:Nat):AV→Bool | .ptr k o'=>Nat.beq k j&&Nat.beq o' o | _=>false
def AV.isNp:AV→Bool | .np=>true | _=>false
def AV.isNs:AV→Bool | .ns=>true | _=>false
def AV.isUndef:AV→Bool | .undef=>true | _=>false
def AV.isMp (j:Nat):AV→Bool | .mp k=>Nat.beq k j | _=>false
def AV.isPsl (j n:Nat):AV→Bool | .psl k m=>Nat.beq k j&&Nat.beq m n | _=>false
def AV.isDead:AV→Bool | .dead=>true | _=>false
def V28:List AV→List (Nat×Nat)→Bool
 | [],[]=>true
 | v::vs,p::ps=>v.isPtr p.1 p.2&&V28 vs ps
 | _,_=>false
def AV.isFnp (g:Nat) (ps:List (Nat×Nat)):AV→Bool | .fn f cs=>Nat.beq f g&&V28 cs ps | _=>false
theorem J4x {j:Nat} {v:AV} (h:v.isMp j=true):v=.mp j:=by
 cases v<;>simp only[AV.isMp] at h<;>try cases h
 rw[Nat.eq_of_beq_eq_true h]
theorem V4l {j n:Nat} {v:AV} (h:v.isPsl j n=true):v=.psl j n:=by
 cases v<;>simp only[AV.isPsl] at h<;>try cases h
 simp only[Bool.and_eq_true] at h
 rw[Nat.eq_of_beq_eq_true h.1,Nat.eq_of_beq_eq_true h.2]
theorem X3r {v:AV} (h:v.isDead=true):v=.dead:=by
 cases v<;>simp only[AV.isDead] at h<;>try cases h
 rfl
theorem Q4n {j:Nat} {v:AV} (h:v.isRow j=true):v=.rowA j:=by
 cases v<;>simp only[AV.isRow] at h<;>try cases h
 rw[Nat.eq_of_beq_eq_true h]
theorem U2m {j o:Nat} {v:AV} (h:v.isPtr j o=true):v=.ptr j o:=by
 cases v<;>simp only[AV.isPtr] at h<;>try cases h
 simp only[Bool.and_eq_true] at h
 rw[Nat.eq_of_beq_eq_true h.1,Nat.eq_of_beq_eq_true h.2]
theorem J50 {v:AV} (h:v.isNp=true):v=.np:=by
 cases v<;>simp only[AV.isNp] at h<;>try cases h
 rfl
theorem X53 {v:AV} (h:v.isNs=true):v=.ns:=by
 cases v<;>simp only[AV.isNs] at h<;>try cases h
 rfl
theorem Z25:∀ {vs:List AV} {ps:List (Nat×Nat)},V28 vs ps=true→vs=U2z ps
 | [],[],_=>rfl
 | v::vs,p::ps,h=>by
   simp only[V28,Bool.and_eq_true] at h
   rw[U2m h.1,Z25 h.2]
   rfl
 | [],_::_,h=>by cases h
 | _::_,[],h=>by cases h
theorem X4c {g:Nat} {ps:List (Nat×Nat)} {v:AV} (h:v.isFnp g ps=true):v=.fn g (U2z ps):=by
 cases v<;>simp only[AV.isFnp] at h<;>try cases h
 simp only[Bool.and_eq_true] at h
 rw[Nat.eq_of_beq_eq_true h.1,Z25 h.2]
theorem Q2y {v:AV} (h:v.isUndef=true):v=.undef:=by
 cases v<;>simp only[AV.isUndef] at h<;>try cases h
 rfl
def Jb:(s:List Sh)→List AV→Option (ShT s)
 | [],vs=>bif vs.isEmpty then some () else none
 | .d t a::r,vs=>match vs with
   | v::vs=>(match getX t a v with | some x=>(match Jb r vs with | some y=>some (x,y) | none=>none) | none=>none)
   | []=>none
 | .row j::r,vs=>match vs with | v::vs=>bif v.isRow j then Jb r vs else none | []=>none
 | .ptr j o::r,vs=>match vs with | v::vs=>bif v.isPtr j o then Jb r vs else none | []=>none
 | .np::r,vs=>match vs with | v::vs=>bif v.isNp then Jb r vs else none | []=>none
 | .ns::r,vs=>match vs with | v::vs=>bif v.isNs then Jb r vs else none | []=>none
 | .undef::r,vs=>match vs with | v::vs=>bif v.isUndef then Jb r vs else none | []=>none
 | .mp j::r,vs=>match vs with | v::vs=>bif v.isMp j then Jb r vs else none | []=>none
 | .psl j n''::r,vs=>match vs with | v::vs=>bif v.isPsl j n'' then Jb r vs else none | []=>none
 | .dead::r,vs=>match vs with | v::vs=>bif v.isDead then Jb r vs else none | []=>none
 | .fnp g ps::r,vs=>match vs with | v::vs=>bif v.isFnp g ps then Jb r vs else none | []=>none
 | .rowP j::r,vs=>match vs with
   | v::vs=>(match v.asPart j with | some q=>(match Jb r vs with | some y=>some (q,y) | none=>none) | none=>none)
   | []=>none
theorem Ul {α:Type} {b:Bool} {x:Option α} {y:α} (h:(bif b then x else none)=some y):b=true∧x=some y:=by
 cases b
 ·cases h
 ·exact⟨rfl,h⟩
theorem Qc:∀ (s:List Sh) (vs:List AV) (x:ShT s),Jb s vs=some x→vs=pack s x
 | [],vs,x,h=>by
   simp only[Jb] at h
   have:=(Ul h).1
   rw[List.isEmpty_iff] at this
   rw[this]
   rfl
 | .d t a::r,[],x,h=>by cases h
 | .d t a::r,v::vs,x,h=>by
   simp only[Jb] at h
   split at h
   ·rename_i y hy
    split at h
    ·rename_i z hz
     cases h
     simp only[pack]
     rw[V50 hy,Qc r vs z hz]
    ·cases h
   ·cases h
 | .row j::r,[],x,h=>by cases h
 | .row j::r,v::vs,x,h=>by
   simp only[Jb] at h
   obtain⟨h1,h2⟩:=Ul h
   simp only[pack]
   rw[Q4n h1,Qc r vs x h2]
 | .ptr j o::r,[],x,h=>by cases h
 | .ptr j o::r,v::vs,x,h=>by
   simp only[Jb] at h
   obtain⟨h1,h2⟩:=Ul h
   simp only[pack]
   rw[U2m h1,Qc r vs x h2]
 | .np::r,[],x,h=>by cases h
 | .np::r,v::vs,x,h=>by
   simp only[Jb] at h
   obtain⟨h1,h2⟩:=Ul h
   simp only[pack]
   rw[J50 h1,Qc r vs x h2]
 | .ns::r,[],x,h=>by cases h
 | .ns::r,v::vs,x,h=>by
   simp only[Jb] at h
   obtain⟨h1,h2⟩:=Ul h
   simp only[pack]
   rw[X53 h1,Qc r vs x h2]
 | .undef::r,[],x,h=>by cases h
 | .undef::r,v::vs,x,h=>by
   simp only[Jb] at h
   obtain⟨h1,h2⟩:=Ul h
   simp only[pack]
   rw[Q2y h1,Qc r vs x h2]
 | .mp j::r,[],x,h=>by cases h
 | .psl j n''::r,[],x,h=>by cases h
 | .mp j::r,v::vs,x,h=>by
   simp only[Jb] at h
   obtain⟨h1,h2⟩:=Ul h
   simp only[pack]
   rw[J4x h1,Qc r vs x h2]
 | .psl j n''::r,v::vs,x,h=>by
   simp only[Jb] at h
   obtain⟨h1,h2⟩:=Ul h
   simp only[pack]
   rw[V4l h1,Qc r vs x h2]
 | .dead::r,[],x,h=>by cases h
 | .dead::r,v::vs,x,h=>by
   simp only[Jb] at h
   obtain⟨h1,h2⟩:=Ul h
   simp only[pack]
   rw[X3r h1,Qc r vs x h2]
 | .fnp g ps::r,[],x,h=>by cases h
 | .fnp g ps::r,v::vs,x,h=>by
   simp only[Jb] at h
   obtain⟨h1,h2⟩:=Ul h
   simp only[pack]
   rw[X4c h1,Qc r vs x h2]
 | .rowP j::r,[],x,h=>by cases h
 | .rowP j::r,v::vs,x,h=>by
   simp only[Jb] at h
   split at h
   ·rename_i y hy
    split at h
    ·rename_i z hz
     cases h
     simp only[pack]
     rw[J3r hy,Qc r vs z hz]
    ·cases h
   ·cases h
inductive ShO where
 | row (t:Ty)
 | box (cs:List Sh)
 | map (kt vt:Ty)
 | tbox (E:Nat) (cs:List Sh)
def ShOT:List ShO→Type
 | []=>Unit
 | .row t::r=>List t.den×ShOT r
 | .box cs::r=>ShT cs×ShOT r
 | .map kt vt::r=>List (kt.den×vt.den)×ShOT r
 | .tbox _ cs::r=>ShT cs×ShOT r
def Jy:(s:List ShO)→ShOT s→List LObj
 | [],_=>[]
 | .row t::r,x=>.row t x.1::Jy r x.2
 | .box cs::r,x=>.box (pack cs x.1)::Jy r x.2
 | .map kt vt::r,x=>.mpo kt vt x.1::Jy r x.2
 | .tbox E cs::r,x=>.boxT (some E) (pack cs x.1)::Jy r x.2
def LObj.asRow (t:Ty):LObj→Option (List t.den)
 | .row t' xs=>if h:t'=t then some (h▸xs) else none
 | _=>none
def LObj.asTBox (E:Nat):LObj→Option (List AV)
 | .boxT (some n) cs=>bif Nat.beq n E then some cs else none
 | _=>none
theorem U3s {E:Nat} {o:LObj} {cs:List AV} (h:o.asTBox E=some cs):o=.boxT (some E) cs:=by
 cases o<;>simp only[LObj.asTBox] at h<;>try cases h
 rename_i tag cs'
 cases tag with
 | none=>cases h
 | some n=>
   obtain⟨h1,h2⟩:=Ul h
   cases h2
   rw[Nat.eq_of_beq_eq_true h1]
def LObj.asMap (kt vt:Ty):LObj→Option (List (kt.den×vt.den))
 | .mpo k v es=>if h:k=kt then (if h':v=vt then some (h▸h'▸es) else none) else none
 | _=>none
theorem Z4n {kt vt:Ty} {o:LObj} {es:List (kt.den×vt.den)} (h:o.asMap kt vt=some es):o=.mpo kt vt es:=by
 cases o<;>simp only[LObj.asMap] at h<;>try cases h
 split at h
 ·rename_i hk
  subst hk
  split at h
  ·rename_i hv
   subst hv
   cases h
   rfl
  ·cases h
 ·cases h
def LObj.asBox:LObj→Option (List AV)
 | .boxT none cs=>some cs
 | _=>none
theorem X4p {t:Ty} {o:LObj} {xs:List t.den} (h:o.asRow t=some xs):o=.row t xs:=by
 cases o<;>simp only[LObj.asRow] at h<;>try cases h
 split at h
 ·rename_i ht
  subst ht
  cases h
  rfl
 ·cases h
theorem U3z {o:LObj} {cs:List AV} (h:o.asBox=some cs):o=.box cs:=by
 cases o<;>simp only[LObj.asBox] at h<;>try cases h
 rename_i tag cs'
 cases tag<;>simp only[LObj.asBox] at h<;>cases h
 rfl
def Uo:(s:List ShO)→List LObj→Option (ShOT s)
 | [],os=>bif os.isEmpty then some () else none
 | .row t::r,os=>match os with
   | o::os=>(match o.asRow t with | some x=>(match Uo r os with | some y=>some (x,y) | none=>none) | none=>none)
   | []=>none
 | .box cs::r,os=>match os with
   | o::os=>(match o.asBox with
     | some vs=>(match Jb cs vs with | some x=>(match Uo r os with | some y=>some (x,y) | none=>none) | none=>none)
     | none=>none)
   | []=>none
 | .tbox E cs::r,os=>match os with
   | o::os=>(match o.asTBox E with
     | some vs=>(match Jb cs vs with | some x=>(match Uo r os with | some y=>some (x,y) | none=>none) | none=>none)
     | none=>none)
   | []=>none
 | .map kt vt::r,os=>match os with
   | o::os=>(match o.asMap kt vt with | some x=>(match Uo r os with | some y=>some (x,y) | none=>none) | none=>none)
   | []=>none
theorem Uv:∀ (s:List ShO) (os:List LObj) (x:ShOT s),Uo s os=some x→os=Jy s x
 | [],os,x,h=>by
   simp only[Uo] at h
   have:=(Ul h).1
   rw[List.isEmpty_iff] at this
   rw[this]
   rfl
 | .row t::r,[],x,h=>by cases h
 | .row t::r,o::os,x,h=>by
   simp only[Uo] at h
   split at h
   ·rename_i y hy
    split at h
    ·rename_i z hz
     cases h
     simp only[Jy]
     rw[X4p hy,Uv r os z hz]
    ·cases h
   ·cases h
 | .tbox E cs::r,[],x,h=>by cases h
 | .tbox E cs::r,o::os,x,h=>by
   simp only[Uo] at h
   split at h
   ·rename_i vs hvs
    split at h
    ·rename_i y hy
     split at h
     ·rename_i z hz
      cases h
      simp only[Jy]
      rw[U3s hvs,Qc cs vs y hy,Uv r os z hz]
     ·cases h
    ·cases h
   ·cases h
 | .map kt vt::r,[],x,h=>by cases h
 | .map kt vt::r,o::os,x,h=>by
   simp only[Uo] at h
   split at h
   ·rename_i y hy
    split at h
    ·rename_i z hz
     cases h
     simp only[Jy]
     rw[Z4n hy,Uv r os z hz]
    ·cases h
   ·cases h
 | .box cs::r,[],x,h=>by cases h
 | .box cs::r,o::os,x,h=>by
   simp only[Uo] at h
   split at h
   ·rename_i vs hvs
    split at h
    ·rename_i y hy
     split at h
     ·rename_i z hz
      cases h
      simp only[Jy]
      rw[U3z hvs,Qc cs vs y hy,Uv r os z hz]
     ·cases h
    ·cases h
   ·cases h
structure LoopSpec where
 bid:Nat
 sh:List Sh
 so:List ShO
 F:ShT sh→ShOT so→Tr (Ex×List AV×List LObj)
def LoopSpec.run (L:LoopSpec) (vs:List AV) (os:List LObj):Tr (Ex×List AV×List LObj):=
 match Jb L.sh vs with
 | some x=>(match Uo L.so os with | some y=>L.F x y | none=>.no)
 | none=>.no
def lsOf:List LoopSpec→X0f
 | [],_,_,_=>.no
 | L::Ls,bid,vs,os=>bif Nat.beq bid L.bid then L.run vs os else lsOf Ls bid vs os
def LoopSpec.Ok (T:Tab) (orc:Orc) (H:Hint) (n0 d:Nat) (L:LoopSpec) (body:Code):Prop:=
 ∀ n,d≤n→∀ x y r,(L.F x y).get=some r→
   Z4 (fun st=>evC T orc (lpN T orc H n0 n) body L.bid st (V1 (H.keep L.bid) (H.keepX L.bid) n0)) (stOf (H.keep L.bid) (pack L.sh x) (Jy L.so y))=some (r.1,stOf (H.keepX L.bid) r.2.1 r.2.2)
theorem J3a {T:Tab} {orc:Orc} {H:Hint} {n0 d:Nat} {Ls:List LoopSpec} {bid:Nat} {body:Code} (h:∀ L∈Ls,L.bid=bid→L.Ok T orc H n0 d body):Zc T orc H n0 d (lsOf Ls) (bid,body):=by
 intro n hn vs os ex vs' os' hS
 have key:∀ (Ls:List LoopSpec),(∀ L∈Ls,L.bid=bid→L.Ok T orc H n0 d body)→(lsOf Ls bid vs os).get=some (ex,vs',os')→
     Z4 (fun st=>evC T orc (lpN T orc H n0 n) body bid st (V1 (H.keep bid) (H.keepX bid) n0)) (stOf (H.keep bid) vs os)=some (ex,stOf (H.keepX bid) vs' os'):=by
  intro Ls
  induction Ls with
  | nil=>intro _ h;simp[lsOf,Tr.get] at h
  | cons L Ls ih=>
    intro hL h
    simp only[lsOf] at h
    cases hb:Nat.beq bid L.bid with
    | false=>rw[hb] at h;exact ih (fun L hl=>hL L (by simp[hl])) h
    | true=>
      rw[hb] at h
      have e:=Nat.eq_of_beq_eq_true hb
      subst e
      simp only[cond_true,LoopSpec.run] at h
      split at h
      ·rename_i x hx
       split at h
       ·rename_i y hy
        rw[Qc _ _ _ hx,Uv _ _ _ hy]
        exact hL L (by simp) rfl n hn x y _ h
       ·cases h
      ·cases h
 exact key Ls h hS
def X5 (c:Code) (k:Nat):Code:=match (Jc c 1000000)[k]? with | some x=>x.2 | none=>.skip
def rows:List (Nat×Row):=[
 (3,{ desc:=.int .i64,size:=1,bytes:=8,zero:=[.int .i64 0],cty:=[none],ty:=some (.int .i64) }),
 (4,{ desc:=.bool,size:=1,bytes:=1,zero:=[.bool false],cty:=[none],ty:=some (.bool) }),
 (5,{ desc:=.int .u8,size:=1,bytes:=1,zero:=[.int .u8 0],cty:=[none],ty:=some (.int .u8) }),
 (9,{ desc:=.str,size:=1,bytes:=16,zero:=[.str []],cty:=[none],ty:=some (.str) }),
 (22,{ desc:=.int .u32,size:=1,bytes:=4,zero:=[.int .u32 0],cty:=[none],ty:=some (.int .u32) }),
 (23,{ desc:=.int .u16,size:=1,bytes:=2,zero:=[.int .u16 0],cty:=[none],ty:=some (.int .u16) }),
 (25,{ desc:=.struct [(0,22),(1,23)],size:=2,bytes:=8,zero:=[.int .u32 0,.int .u16 0],cty:=[none,none],ty:=some ((.pair (.int .u32) (.int .u16))) }),
 (27,{ desc:=.struct [(0,9),(1,23),(2,23)],size:=3,bytes:=24,zero:=[.str [],.int .u16 0,.int .u16 0],cty:=[none,none,none],ty:=some ((.pair .str (.pair (.int .u16) (.int .u16)))) }),
 (28,{ desc:=.int .u64,size:=1,bytes:=8,zero:=[.int .u64 0],cty:=[none],ty:=some (.int .u64) }),
 (30,{ desc:=.struct [(0,23),(1,23),(2,25),(4,27),(7,9),(8,3),(9,28)],size:=10,bytes:=72,zero:=[.int .u16 0,.int .u16 0,.int .u32 0,.int .u16 0,.str [],.int .u16 0,.int .u16 0,.str [],.int .i64 0,.int .u64 0],cty:=[none,none,none,none,none,none,none,none,none,none],ty:=some ((.pair (.int .u16) (.pair (.int .u16) (.pair (.pair (.int .u32) (.int .u16)) (.pair (.pair .str (.pair (.int .u16) (.int .u16))) (.pair .str (.pair (.int .i64) (.int .u64)))))))) }),
 (32,{ desc:=.ptr 98,size:=1,bytes:=8,zero:=[.np],cty:=[none],ty:=none }),
 (35,{ desc:=.struct [(0,25),(2,25),(4,9)],size:=5,bytes:=32,zero:=[.int .u32 0,.int .u16 0,.int .u32 0,.int .u16 0,.str []],cty:=[none,none,none,none,none],ty:=some ((.pair (.pair (.int .u32) (.int .u16)) (.pair (.pair (.int .u32) (.int .u16)) .str))) }),
 (37,{ desc:=.struct [(0,23),(1,23),(2,25),(4,27),(7,9),(8,3),(9,28)],size:=10,bytes:=72,zero:=[.int .u16 0,.int .u16 0,.int .u32 0,.int .u16 0,.str [],.int .u16 0,.int .u16 0,.str [],.int .i64 0,.int .u64 0],cty:=[none,none,none,none,none,none,none,none,none,none],ty:=some ((.pair (.int .u16) (.pair (.int .u16) (.pair (.pair (.int .u32) (.int .u16)) (.pair (.pair .str (.pair (.int .u16) (.int .u16))) (.pair .str (.pair (.int .i64) (.int .u64)))))))) }),
 (39,{ desc:=.struct [(0,25),(2,25),(4,9)],size:=5,bytes:=32,zero:=[.int .u32 0,.int .u16 0,.int .u32 0,.int .u16 0,.str []],cty:=[none,none,none,none,none],ty:=some ((.pair (.pair (.int .u32) (.int .u16)) (.pair (.pair (.int .u32) (.int .u16)) .str))) }),
 (42,{ desc:=.slice 46,size:=1,bytes:=24,zero:=[.ns],cty:=[some ((.pair (.int .i64) (.pair (.pair (.int .u16) (.pair (.int .u16) (.pair (.pair (.int .u32) (.int .u16)) (.pair (.pair .str (.pair (.int .u16) (.int .u16))) (.pair .str (.pair (.int .i64) (.int .u64))))))) (.int .u32))))],ty:=some ((.list (.pair (.int .i64) (.pair (.pair (.int .u16) (.pair (.int .u16) (.pair (.pair (.int .u32) (.int .u16)) (.pair (.pair .str (.pair (.int .u16) (.int .u16))) (.pair .str (.pair (.int .i64) (.int .u64))))))) (.int .u32))))) }),
 (46,{ desc:=.struct [(0,3),(1,30),(11,22)],size:=12,bytes:=88,zero:=[.int .i64 0,.int .u16 0,.int .u16 0,.int .u32 0,.int .u16 0,.str [],.int .u16 0,.int .u16 0,.str [],.int .i64 0,.int .u64 0,.int .u32 0],cty:=[none,none,none,none,none,none,none,none,none,none,none,none],ty:=some ((.pair (.int .i64) (.pair (.pair (.int .u16) (.pair (.int .u16) (.pair (.pair (.int .u32) (.int .u16)) (.pair (.pair .str (.pair (.int .u16) (.int .u16))) (.pair .str (.pair (.int .i64) (.int .u64))))))) (.int .u32)))) }),
 (47,{ desc:=.int .i64,size:=1,bytes:=8,zero:=[.int .i64 0],cty:=[none],ty:=some (.int .i64) }),
 (50,{ desc:=.slice 37,size:=1,bytes:=24,zero:=[.ns],cty:=[some ((.pair (.int .u16) (.pair (.int .u16) (.pair (.pair (.int .u32) (.int .u16)) (.pair (.pair .str (.pair (.int .u16) (.int .u16))) (.pair .str (.pair (.int .i64) (.int .u64))))))))],ty:=some ((.list (.pair (.int .u16) (.pair (.int .u16) (.pair (.pair (.int .u32) (.int .u16)) (.pair (.pair .str (.pair (.int .u16) (.int .u16))) (.pair .str (.pair (.int .i64) (.int .u64))))))))) }),
 (53,{ desc:=.func,size:=1,bytes:=8,zero:=[.nf],cty:=[none],ty:=none }),
 (55,{ desc:=.slice 30,size:=1,bytes:=24,zero:=[.ns],cty:=[some ((.pair (.int .u16) (.pair (.int .u16) (.pair (.pair (.int .u32) (.int .u16)) (.pair (.pair .str (.pair (.int .u16) (.int .u16))) (.pair .str (.pair (.int .i64) (.int .u64))))))))],ty:=some ((.list (.pair (.int .u16) (.pair (.int .u16) (.pair (.pair (.int .u32) (.int .u16)) (.pair (.pair .str (.pair (.int .u16) (.int .u16))) (.pair .str (.pair (.int .i64) (.int .u64))))))))) }),
 (60,{ desc:=.slice 27,size:=1,bytes:=24,zero:=[.ns],cty:=[some ((.pair .str (.pair (.int .u16) (.int .u16))))],ty:=some ((.list (.pair .str (.pair (.int .u16) (.int .u16))))) }),
 (61,{ desc:=.slice 71,size:=1,bytes:=24,zero:=[.ns],cty:=[some ((.pair .str (.pair (.int .u16) (.pair (.int .u16) (.pair (.int .u32) .str)))))],ty:=some ((.list (.pair .str (.pair (.int .u16) (.pair (.int .u16) (.pair (.int .u32) .str)))))) }),
 (63,{ desc:=.struct [(0,23),(1,4),(2,4),(3,4),(4,4),(5,4),(6,3),(7,3),(8,60),(9,61),(10,61),(11,61)],size:=12,bytes:=120,zero:=[.int .u16 0,.bool false,.bool false,.bool false,.bool false,.bool false,.int .i64 0,.int .i64 0,.ns,.ns,.ns,.ns],cty:=[none,none,none,none,none,none,none,none,some ((.pair .str (.pair (.int .u16) (.int .u16)))),some ((.pair .str (.pair (.int .u16) (.pair (.int .u16) (.pair (.int .u32) .str))))),some ((.pair .str (.pair (.int .u16) (.pair (.int .u16) (.pair (.int .u32) .str))))),some ((.pair .str (.pair (.int .u16) (.pair (.int .u16) (.pair (.int .u32) .str)))))],ty:=some ((.pair (.int .u16) (.pair .bool (.pair .bool (.pair .bool (.pair .bool (.pair .bool (.pair (.int .i64) (.pair (.int .i64) (.pair (.list (.pair .str (.pair (.int .u16) (.int .u16)))) (.pair (.list (.pair .str (.pair (.int .u16) (.pair (.int .u16) (.pair (.int .u32) .str))))) (.pair (.list (.pair .str (.pair (.int .u16) (.pair (.int .u16) (.pair (.int .u32) .str))))) (.list (.pair .str (.pair (.int .u16) (.pair (.int .u16) (.pair (.int .u32) .str))))))))))))))))) }),
 (69,{ desc:=.func,size:=1,bytes:=8,zero:=[.nf],cty:=[none],ty:=none }),
 (71,{ desc:=.struct [(0,9),(1,23),(2,23),(3,22),(4,9)],size:=5,bytes:=40,zero:=[.str [],.int .u16 0,.int .u16 0,.int .u32 0,.str []],cty:=[none,none,none,none,none],ty:=some ((.pair .str (.pair (.int .u16) (.pair (.int .u16) (.pair (.int .u32) .str))))) }),
 (86,{ desc:=.slice 93,size:=1,bytes:=24,zero:=[.ns],cty:=[some ((.pair (.int .i64) (.int .i64)))],ty:=some ((.list (.pair (.int .i64) (.int .i64)))) }),
 (87,{ desc:=.ptr 130,size:=1,bytes:=8,zero:=[.np],cty:=[none],ty:=none }),
 (90,{ desc:=.slice 3,size:=1,bytes:=24,zero:=[.ns],cty:=[some (.int .i64)],ty:=some ((.list (.int .i64))) }),
 (93,{ desc:=.struct [(0,3),(1,3)],size:=2,bytes:=16,zero:=[.int .i64 0,.int .i64 0],cty:=[none,none],ty:=some ((.pair (.int .i64) (.int .i64))) }),
 (98,{ desc:=.struct [(0,22),(1,3),(2,50)],size:=3,bytes:=40,zero:=[.int .u32 0,.int .i64 0,.ns],cty:=[none,none,some ((.pair (.int .u16) (.pair (.int .u16) (.pair (.pair (.int .u32) (.int .u16)) (.pair (.pair .str (.pair (.int .u16) (.int .u16))) (.pair .str (.pair (.int .i64) (.int .u64))))))))],ty:=some ((.pair (.int .u32) (.pair (.int .i64) (.list (.pair (.int .u16) (.pair (.int .u16) (.pair (.pair (.int .u32) (.int .u16)) (.pair (.pair .str (.pair (.int .u16) (.int .u16))) (.pair .str (.pair (.int .i64) (.int .u64))))))))))) }),
 (114,{ desc:=.func,size:=1,bytes:=8,zero:=[.nf],cty:=[none],ty:=none }),
 (118,{ desc:=.slice 23,size:=1,bytes:=24,zero:=[.ns],cty:=[some (.int .u16)],ty:=some ((.list (.int .u16))) }),
 (122,{ desc:=.ptr 61,size:=1,bytes:=8,zero:=[.np],cty:=[none],ty:=none }),
 (123,{ desc:=.slice 122,size:=1,bytes:=24,zero:=[.ns],cty:=[none],ty:=none }),
 (130,{ desc:=.struct [(0,90),(1,3)],size:=2,bytes:=32,zero:=[.ns,.int .i64 0],cty:=[some (.int .i64),none],ty:=some ((.pair (.list (.int .i64)) (.int .i64))) }),
 (140,{ desc:=.func,size:=1,bytes:=8,zero:=[.nf],cty:=[none],ty:=none }),
 (141,{ desc:=.ptr 143,size:=1,bytes:=8,zero:=[.np],cty:=[none],ty:=none }),
 (143,{ desc:=.struct [(0,9),(1,3),(2,4)],size:=3,bytes:=32,zero:=[.str [],.int .i64 0,.bool false],cty:=[none,none,none],ty:=some ((.pair .str (.pair (.int .i64) .bool))) }),
 (146,{ desc:=.func,size:=1,bytes:=8,zero:=[.nf],cty:=[none],ty:=none }),
 (149,{ desc:=.slice 9,size:=1,bytes:=24,zero:=[.ns],cty:=[some (.str)],ty:=some ((.list .str)) }),
 (155,{ desc:=.slice 61,size:=1,bytes:=24,zero:=[.ns],cty:=[some ((.list (.pair .str (.pair (.int .u16) (.pair (.int .u16) (.pair (.int .u32) .str))))))],ty:=some ((.list (.list (.pair .str (.pair (.int .u16) (.pair (.int .u16) (.pair (.int .u32) .str))))))) }),
 (158,{ desc:=.ptr 191,size:=1,bytes:=8,zero:=[.np],cty:=[none],ty:=none }),
 (167,{ desc:=.slice 222,size:=1,bytes:=24,zero:=[.ns],cty:=[some ((.pair .str (.int .i64)))],ty:=some ((.list (.pair .str (.int .i64)))) }),
 (169,{ desc:=.struct [(0,9),(1,167)],size:=2,bytes:=40,zero:=[.str [],.ns],cty:=[none,some ((.pair .str (.int .i64)))],ty:=some ((.pair .str (.list (.pair .str (.int .i64))))) }),
 (176,{ desc:=.func,size:=1,bytes:=8,zero:=[.nf],cty:=[none],ty:=none }),
 (182,{ desc:=.func,size:=1,bytes:=8,zero:=[.nf],cty:=[none],ty:=none }),
 (183,{ desc:=.func,size:=1,bytes:=8,zero:=[.nf],cty:=[none],ty:=none }),
 (185,{ desc:=.slice 5,size:=1,bytes:=24,zero:=[.ns],cty:=[some (.int .u8)],ty:=some ((.list (.int .u8))) }),
 (187,{ desc:=.map 9 3,size:=1,bytes:=8,zero:=[.nm],cty:=[none],ty:=none }),
 (189,{ desc:=.struct [(0,185)],size:=1,bytes:=24,zero:=[.ns],cty:=[some (.int .u8)],ty:=some ((.list (.int .u8))) }),
 (191,{ desc:=.struct [(0,189),(1,187)],size:=2,bytes:=32,zero:=[.ns,.nm],cty:=[some (.int .u8),none],ty:=none }),
 (201,{ desc:=.ptr 203,size:=1,bytes:=8,zero:=[.np],cty:=[none],ty:=none }),
 (203,{ desc:=.struct [(0,201),(1,185)],size:=2,bytes:=32,zero:=[.np,.ns],cty:=[none,some (.int .u8)],ty:=none }),
 (212,{ desc:=.map 23 90,size:=1,bytes:=8,zero:=[.nm],cty:=[none],ty:=none }),
 (214,{ desc:=.func,size:=1,bytes:=8,zero:=[.nf],cty:=[none],ty:=none }),
 (222,{ desc:=.struct [(0,9),(1,3)],size:=2,bytes:=24,zero:=[.str [],.int .i64 0],cty:=[none,none],ty:=some ((.pair .str (.int .i64))) }),
 (225,{ desc:=.ptr 5,size:=1,bytes:=8,zero:=[.np],cty:=[none],ty:=none }),
 (227,{ desc:=.other,size:=1,bytes:=8,zero:=[.np],cty:=[none],ty:=none })]
def T0:Tab:={ row:=J1j rows,tag:=fun t=>Nat.beq t 203 }
theorem tab00:Q6 Try.prog { row:=J1j rows }:=X61 (rs:=rows) (by kernel_rfl)
theorem tab0:Q6 Try.prog T0:=tab00
theorem J3:Try.prog.follows .mixedOrders=true:=by kernel_rfl
def h10:Hint:={ keep:=fun _=>[],keepX:=fun _=>[] }
noncomputable def c10:Code:=match Try.f10.body with | some c=>c | none=>.skip
def u16:Nat→Option (List Nat):=fun r=>match r with | 7=>some [1,2,4,6,7] | 12=>some [1,2,4,6,8,10,12] | 17=>some [2,17] | _=>none
def h27:Hint:={ keep:=fun _=>[],keepX:=fun _=>[] }
def v27:Nat→Option (List Nat):=fun r=>match r with | 0=>some [] | 1=>some [1,2,3] | 2=>some [1,2,3,4] | 3=>some [0] | _=>none
def u27:Nat→Option (List Nat):=fun r=>match r with | 9=>some [7,8,9] | 17=>some [1,4,17] | 22=>some [4,22] | _=>none
def T27:Tab:={ T0 with live:=v27,mid:=u27 }
def h29:Hint:={ keep:=fun b=>match b with | 0=>[0,3] | _=>[],keepX:=fun b=>match b with | 0=>[0,2] | _=>[] }
noncomputable def c29:Code:=match Try.f29.body with | some c=>c | none=>.skip
def h30:Hint:={ keep:=fun _=>[],keepX:=fun _=>[] }
def v30:Nat→Option (List Nat):=fun r=>match r with | 0=>some [1,2,3] | 1=>some [1,2,3,17] | 2=>some [1,2,3] | 3=>some [2,7] | 4=>some [2,7,28] | 5=>some [2,7] | 6=>some [2,7] | 7=>some [7] | 8=>some [7,8,9] | 9=>some [7,8,45] | 10=>some [8] | 11=>some [8] | 12=>some [10] | 13=>some [6] | _=>none
def u30:Nat→Option (List Nat):=fun r=>match r with | 16=>some [1,2,3,14,16] | 25=>some [2,7,24,25] | 34=>some [2,7,33,34] | 43=>some [7,42,43] | 49=>some [8,49] | 54=>some [53,54] | _=>none
def T30:Tab:={ T0 with live:=v30,mid:=u30 }
noncomputable def c30:Code:=match Try.f30.body with | some c=>c | none=>.skip
def h31:Hint:={ keep:=fun b=>match b with | 0=>[0,2,4,6,7,30,31] | 2=>[0,2,4,6,7,55,56,57] | 4=>[0,2,4,6,7,12,55,56,57,66,67] | _=>[],keepX:=fun b=>match b with | 0=>[0,2,3,4,6,7] | 2=>[0,2,3,4,7] | 4=>[0,2,3,4,6,7,55,56,57] | _=>[] }
def v31:Nat→Option (List Nat):=fun r=>match r with | 0=>some [0,2] | 1=>some [0,2,4,5] | 2=>some [0,2,4,5,22] | 3=>some [2,3] | 4=>some [0,2,4,6] | 5=>some [0,2,4,6,7] | 6=>some [0,2,4,6,7,30,31] | 7=>some [0,2,4,6,7,30,31,32] | 8=>some [0,2,4,6,8,9,10,30,31] | 9=>some [0,2,4,6,8,9,10,30,31,41] | 10=>some [2,3] | 11=>some [0,2,4,6,7,30,31] | 12=>some [0,2,4,6,7,30,31] | 13=>some [0,2,4,6,7,55,56,57] | 14=>some [0,2,4,6,7,55,56,57,58] | 15=>some [0,2,4,6,7,11,12,55,56,57] | 16=>some [0,2,4,6,7,12,55,56,57,66,67] | 17=>some [0,2,4,6,7,12,55,56,57,66,67,68] | 18=>some [0,2,4,6,12,13,14,15,55,56,57,66,67] | 19=>some [0,2,4,6,12,13,14,15,55,56,57,66,67,77] | 20=>some [2,3] | 21=>some [0,2,4,6,7,12,55,56,57,66,67] | 22=>some [0,2,4,6,7,12,55,56,57,66,67] | 23=>some [0,2,4,6,7,55,56,57] | 24=>some [2,4,94] | 25=>some [2,3] | 26=>some [2,3] | _=>none
def u31:Nat→Option (List Nat):=fun r=>match r with | 9=>some [0,2,4,6,8,9,30,31,39] | 14=>some [0,2,4,6,12,13,14,55,56,57,66,67,75] | 20=>some [0,2,19,20] | 37=>some [0,2,4,6,30,31,33,37] | 48=>some [0,2,4,6,9,30,31,48] | 56=>some [0,2,4,6,7,55,56] | 66=>some [0,2,4,6,7,12,55,56,57,66] | 73=>some [0,2,4,6,12,55,56,57,66,67,69,73] | _=>none
def T31:Tab:={ T0 with live:=v31,mid:=u31 }
noncomputable def c31:Code:=match Try.f31.body with | some c=>c | none=>.skip
def h32:Hint:={ keep:=fun _=>[],keepX:=fun _=>[] }
def v32:Nat→Option (List Nat):=fun r=>match r with | 0=>some [1] | 1=>some [2] | _=>none
def u32:Nat→Option (List Nat):=fun r=>match r with | 7=>some [1,6,7] | 12=>some [12] | _=>none
def T32:Tab:={ T0 with live:=v32,mid:=u32 }
noncomputable def c32:Code:=match Try.f32.body with | some c=>c | none=>.skip
def h34:Hint:={ keep:=fun _=>[],keepX:=fun _=>[] }
def v34:Nat→Option (List Nat):=fun r=>match r with | 0=>some [1] | 1=>some [1,7] | 2=>some [2,3] | 3=>some [4] | 4=>some [4,12] | 5=>some [2,3] | 6=>some [2,3] | _=>none
def u34:Nat→Option (List Nat):=fun _=>none
def T34:Tab:={ T0 with live:=v34,mid:=u34 }
noncomputable def c34:Code:=match Try.f34.body with | some c=>c | none=>.skip
def h35:Hint:={ keep:=fun _=>[],keepX:=fun _=>[] }
def v35:Nat→Option (List Nat):=fun r=>match r with | 0=>some [0,2] | 1=>some [0,2,5,6] | 2=>some [0,2,5,18] | 3=>some [2,3,4] | 4=>some [2,5,6,7] | 5=>some [2,5,7,26] | 6=>some [2,3,4] | 7=>some [2,3,4] | _=>none
def u35:Nat→Option (List Nat):=fun r=>match r with | 12=>some [0,2,11,12] | 17=>some [0,2,5,15,17] | 24=>some [2,5,23,24] | _=>none
def T35:Tab:={ T0 with live:=v35,mid:=u35 }
def h55:Hint:={ keep:=fun _=>[],keepX:=fun _=>[] }
def v55:Nat→Option (List Nat):=fun r=>match r with | 0=>some [1,2,4] | 1=>some [4] | _=>none
def u55:Nat→Option (List Nat):=fun r=>match r with | 9=>some [1,2,4,6,8,9] | 14=>some [4,14] | _=>none
def T55:Tab:={ T0 with live:=v55,mid:=u55 }
noncomputable def c55:Code:=match Try.f55.body with | some c=>c | none=>.skip
def h56:Hint:={ keep:=fun b=>match b with | 0=>[0,1,5,6] | _=>[],keepX:=fun b=>match b with | 0=>[0,5] | _=>[] }
def v56:Nat→Option (List Nat):=fun r=>match r with | 0=>some [0,1] | 1=>some [0,1,5] | 2=>some [0,1,5,12] | 3=>some [4] | 4=>some [0,1,5,6] | 5=>some [0,1,5,6,19] | 6=>some [0,1,5,6] | 7=>some [0,1,5,6,7] | 8=>some [0,1,5,6,7,29] | 9=>some [0,1,5,6] | 10=>some [0,1,5,6] | 11=>some [0,5] | 12=>some [4] | _=>none
def u56:Nat→Option (List Nat):=fun r=>match r with | 7=>some [0,1,5,6,7,25] | _=>none
def T56:Tab:={ T0 with live:=v56,mid:=u56 }
noncomputable def c56:Code:=match Try.f56.body with | some c=>c | none=>.skip
noncomputable def c57:Code:=match Try.f57.body with | some c=>c | none=>.skip
def h58:Hint:={ keep:=fun _=>[],keepX:=fun _=>[] }
def v58:Nat→Option (List Nat):=fun r=>match r with | 0=>some [1] | 1=>some [2] | _=>none
def u58:Nat→Option (List Nat):=fun _=>none
def T58:Tab:={ T0 with live:=v58,mid:=u58 }
noncomputable def c58:Code:=match Try.f58.body with | some c=>c | none=>.skip
def h59:Hint:={ keep:=fun _=>[],keepX:=fun _=>[] }
def v59:Nat→Option (List Nat):=fun r=>match r with | 0=>some [1] | 1=>some [2] | _=>none
def u59:Nat→Option (List Nat):=fun _=>none
def T59:Tab:={ T0 with live:=v59,mid:=u59 }
noncomputable def c59:Code:=match Try.f59.body with | some c=>c | none=>.skip
def h60:Hint:={ keep:=fun b=>match b with | 0=>[0,1,5,6] | _=>[],keepX:=fun b=>match b with | 0=>[0,5] | _=>[] }
def v60:Nat→Option (List Nat):=fun r=>match r with | 0=>some [0,1] | 1=>some [0,1,5] | 2=>some [0,1,5,12] | 3=>some [4] | 4=>some [0,1,5,6] | 5=>some [0,1,5,6,19] | 6=>some [0,1,5,6] | 7=>some [0,1,5,6,7] | 8=>some [0,1,5,6,7,29] | 9=>some [0,1,5,6] | 10=>some [0,1,5,6] | 11=>some [0,5] | 12=>some [4] | _=>none
def u60:Nat→Option (List Nat):=fun r=>match r with | 7=>some [0,1,5,6,7,25] | _=>none
def T60:Tab:={ T0 with live:=v60,mid:=u60 }
noncomputable def c60:Code:=match Try.f60.body with | some c=>c | none=>.skip
noncomputable def c61:Code:=match Try.f61.body with | some c=>c | none=>.skip
def h62:Hint:={ keep:=fun _=>[],keepX:=fun _=>[] }
def v62:Nat→Option (List Nat):=fun r=>match r with | 0=>some [1] | 1=>some [2] | _=>none
def u62:Nat→Option (List Nat):=fun _=>none
def T62:Tab:={ T0 with live:=v62,mid:=u62 }
noncomputable def c62:Code:=match Try.f62.body with | some c=>c | none=>.skip
def h63:Hint:={ keep:=fun b=>match b with | 0=>[1,2,4,6] | _=>[],keepX:=fun b=>match b with | 0=>[4,5] | _=>[] }
def v63:Nat→Option (List Nat):=fun r=>match r with | 0=>some [1,2,4] | 1=>some [1,2,4] | 2=>some [1,2,4,12] | 3=>some [4,5] | 4=>some [1,2,4,18] | 5=>some [4,5] | 6=>some [1,2,4,6] | 7=>some [1,2,4,6,33] | 8=>some [1,2,4,6] | 9=>some [1,2,4,6,7] | 10=>some [1,2,4,6,7,43] | 11=>some [4,5] | 12=>some [4,5] | _=>none
def u63:Nat→Option (List Nat):=fun r=>match r with | 24=>some [1,2,4,22,24] | 29=>some [1,2,4,26,29] | _=>none
def T63:Tab:={ T0 with live:=v63,mid:=u63 }
noncomputable def c63:Code:=match Try.f63.body with | some c=>c | none=>.skip
def h64:Hint:={ keep:=fun _=>[],keepX:=fun _=>[] }
def v64:Nat→Option (List Nat):=fun r=>match r with | 0=>some [0,2] | 1=>some [0,2,8] | 2=>some [2,3] | 3=>some [2,4] | 4=>some [2,4,5] | 5=>some [2,3] | _=>none
def u64:Nat→Option (List Nat):=fun r=>match r with | 19=>some [2,5,17,19] | 24=>some [2,5,17,20,23,24] | 29=>some [2,5,17,20,23,26,29] | 34=>some [2,5,17,20,23,26,29,32,34] | 39=>some [2,17,20,23,26,29,32,36,39] | _=>none
def T64:Tab:={ T0 with live:=v64,mid:=u64 }
noncomputable def c64:Code:=match Try.f64.body with | some c=>c | none=>.skip
def h65:Hint:={ keep:=fun b=>match b with | 0=>[0,5,10,11] | _=>[],keepX:=fun b=>match b with | 0=>[5] | _=>[] }
def v65:Nat→Option (List Nat):=fun r=>match r with | 0=>some [0,1] | 1=>some [0,1,5] | 2=>some [0,5,10,11] | 3=>some [0,5,10,11,12] | 4=>some [0,5,6,10,11] | 5=>some [0,5,7,10,11] | 6=>some [0,5,10,11] | 7=>some [0,5,10,11] | 8=>some [4] | _=>none
def u65:Nat→Option (List Nat):=fun r=>match r with | 8=>some [0,5,7,10,11,21] | 14=>some [0,5,10,11,14] | _=>none
def T65:Tab:={ T0 with live:=v65,mid:=u65 }
noncomputable def c65:Code:=match Try.f65.body with | some c=>c | none=>.skip
def h66:Hint:={ keep:=fun _=>[],keepX:=fun _=>[] }
def v66:Nat→Option (List Nat):=fun r=>match r with | 0=>some [0,1,4] | 1=>some [4,7] | 2=>some [4,7,8] | 3=>some [4,7,8,18] | 4=>some [4,5,6] | 5=>some [4,5,6] | _=>none
def u66:Nat→Option (List Nat):=fun _=>none
def T66:Tab:={ T0 with live:=v66,mid:=u66 }
noncomputable def c66:Code:=match Try.f66.body with | some c=>c | none=>.skip
def h67:Hint:={ keep:=fun _=>[],keepX:=fun _=>[] }
def v67:Nat→Option (List Nat):=fun r=>match r with | 0=>some [0,1,4] | 1=>some [0,4,7] | 2=>some [0,4,7,8] | 3=>some [0,4,7,8,9] | 4=>some [0,4,7,8,9,10] | 5=>some [0,4,7,8,9,10,27] | 6=>some [4,5,6] | 7=>some [4,7,8,9,10,11,12] | 8=>some [4,7,8,9,10,11,12,42] | 9=>some [4,5,6] | 10=>some [4,5,6] | _=>none
def u67:Nat→Option (List Nat):=fun _=>none
def T67:Tab:={ T0 with live:=v67,mid:=u67 }
noncomputable def c67:Code:=match Try.f67.body with | some c=>c | none=>.skip
def h68:Hint:={ keep:=fun _=>[],keepX:=fun _=>[] }
def v68:Nat→Option (List Nat):=fun r=>match r with | 0=>some [0] | 1=>some [0,4] | 2=>some [2] | _=>none
def u68:Nat→Option (List Nat):=fun r=>match r with | 9=>some [0,8,9] | 14=>some [0,12,14] | _=>none
def T68:Tab:={ T0 with live:=v68,mid:=u68 }
noncomputable def c68:Code:=match Try.f68.body with | some c=>c | none=>.skip
def h69:Hint:={ keep:=fun _=>[],keepX:=fun _=>[] }
def v69:Nat→Option (List Nat):=fun r=>match r with | 0=>some [0,1] | 1=>some [1,6] | 2=>some [4] | _=>none
def u69:Nat→Option (List Nat):=fun r=>match r with | 11=>some [1,7,11] | 17=>some [14,17] | _=>none
def T69:Tab:={ T0 with live:=v69,mid:=u69 }
noncomputable def c69:Code:=match Try.f69.body with | some c=>c | none=>.skip
def h70:Hint:={ keep:=fun b=>match b with | 0=>[1,3,12,13,14] | _=>[],keepX:=fun b=>match b with | 0=>[1,2] | _=>[] }
def v70:Nat→Option (List Nat):=fun r=>match r with | 0=>some [1] | 1=>some [1,3] | 2=>some [1,3,12,13,14] | 3=>some [1,3,12,13,14,15] | 4=>some [1,3,5,12,13,14] | 5=>some [1,3,12,13,14,25] | 6=>some [2] | 7=>some [1,3,12,13,14] | 8=>some [2] | _=>none
def u70:Nat→Option (List Nat):=fun r=>match r with | 10=>some [1,3,7,9,10] | 22=>some [1,3,12,13,14,21,22] | 31=>some [1,30,31] | 36=>some [1,35,36] | 41=>some [1,40,41] | 46=>some [1,45,46] | 51=>some [1,51] | 56=>some [56] | _=>none
def T70:Tab:={ T0 with live:=v70,mid:=u70 }
noncomputable def c70:Code:=match Try.f70.body with | some c=>c | none=>.skip
def h71:Hint:={ keep:=fun b=>match b with | 0=>[1,3,30,31,32] | 2=>[1,3,43,44,45] | _=>[],keepX:=fun b=>match b with | 0=>[1,3] | 2=>[1,3] | _=>[] }
def v71:Nat→Option (List Nat):=fun r=>match r with | 0=>some [1] | 1=>some [1,3] | 2=>some [1,3] | 3=>some [1,3,30,31,32] | 4=>some [1,3,30,31,32,33] | 5=>some [1,3,5,30,31,32] | 6=>some [1,3,30,31,32] | 7=>some [1,3,30,31,32] | 8=>some [1,3,43,44,45] | 9=>some [1,3,43,44,45,46] | 10=>some [1,3,7,43,44,45] | 11=>some [1,3,43,44,45] | 12=>some [1,3,43,44,45] | 13=>some [3] | 14=>some [2] | _=>none
def u71:Nat→Option (List Nat):=fun r=>match r with | 22=>some [1,3,20,22] | 27=>some [1,3,20,23,26,27] | 57=>some [1,3,53,55,57] | _=>none
def T71:Tab:={ T0 with live:=v71,mid:=u71 }
noncomputable def c71:Code:=match Try.f71.body with | some c=>c | none=>.skip
def h72:Hint:={ keep:=fun _=>[],keepX:=fun _=>[] }
def v72:Nat→Option (List Nat):=fun r=>match r with | 0=>some [1] | 1=>some [1,3] | 2=>some [2] | 3=>some [1,7] | 4=>some [2] | 5=>some [1,18] | 6=>some [2] | 7=>some [30] | 8=>some [2] | 9=>some [2] | _=>none
def u72:Nat→Option (List Nat):=fun r=>match r with | 12=>some [1,12] | 17=>some [1,17] | 23=>some [1,22,23] | 28=>some [1,22,28] | 35=>some [1,35] | 40=>some [37,40] | _=>none
def T72:Tab:={ T0 with live:=v72,mid:=u72 }
def h74:Hint:={ keep:=fun b=>match b with | 0=>[1,3] | _=>[],keepX:=fun b=>match b with | 0=>[1,2] | _=>[] }
noncomputable def c74:Code:=match Try.f74.body with | some c=>c | none=>.skip
def h75:Hint:={ keep:=fun b=>match b with | 0=>[1,3,4] | _=>[],keepX:=fun b=>match b with | 0=>[1,3] | _=>[] }
noncomputable def c75:Code:=match Try.f75.body with | some c=>c | none=>.skip
def h81:Hint:={ keep:=fun b=>match b with | 0=>[0,1,7,8] | _=>[],keepX:=fun b=>match b with | 0=>[4] | _=>[] }
def v81:Nat→Option (List Nat):=fun r=>match r with | 0=>some [0,1] | 1=>some [0,1,7,8] | 2=>some [0,1,7,8,9] | 3=>some [0,1,5,7,8] | 4=>some [0,1,5,7,8,16] | 5=>some [4] | 6=>some [0,1,7,8] | 7=>some [4] | _=>none
def u81:Nat→Option (List Nat):=fun r=>match r with | 15=>some [0,1,5,7,8,11,15] | _=>none
def T81:Tab:={ T0 with live:=v81,mid:=u81 }
noncomputable def c81:Code:=match Try.f81.body with | some c=>c | none=>.skip
def h82:Hint:={ keep:=fun b=>match b with | 0=>[0,1,7,8] | _=>[],keepX:=fun b=>match b with | 0=>[4] | _=>[] }
def v82:Nat→Option (List Nat):=fun r=>match r with | 0=>some [0,1] | 1=>some [0,1,7,8] | 2=>some [0,1,7,8,9] | 3=>some [0,1,5,7,8] | 4=>some [0,1,5,7,8,16] | 5=>some [4] | 6=>some [0,1,7,8] | 7=>some [4] | _=>none
def u82:Nat→Option (List Nat):=fun r=>match r with | 15=>some [0,1,5,7,8,11,15] | _=>none
def T82:Tab:={ T0 with live:=v82,mid:=u82 }
noncomputable def c82:Code:=match Try.f82.body with | some c=>c | none=>.skip
def h83:Hint:={ keep:=fun b=>match b with | 0=>[1,2,4,11,12,13] | _=>[],keepX:=fun b=>match b with | 0=>[2,4] | _=>[] }
def v83:Nat→Option (List Nat):=fun r=>match r with | 0=>some [1,2,4] | 1=>some [1,2,4,11,12,13] | 2=>some [1,2,4,11,12,13,14] | 3=>some [1,2,4,6,11,12,13] | 4=>some [1,2,4,6,7,11,12,13] | 5=>some [1,2,4,7,11,12,13] | 6=>some [1,2,4,11,12,13] | 7=>some [1,2,4,11,12,13] | 8=>some [2,4] | 9=>some [4] | _=>none
def u83:Nat→Option (List Nat):=fun r=>match r with | 12=>some [1,2,4,11,12] | 21=>some [1,2,4,6,11,12,13,17,21] | 27=>some [1,2,4,7,11,12,13,23,26,27] | _=>none
def T83:Tab:={ T0 with live:=v83,mid:=u83 }
noncomputable def c83:Code:=match Try.f83.body with | some c=>c | none=>.skip
def h84:Hint:={ keep:=fun _=>[],keepX:=fun _=>[] }
def v84:Nat→Option (List Nat):=fun r=>match r with | 0=>some [0,1] | 1=>some [4,5,6] | _=>none
def u84:Nat→Option (List Nat):=fun r=>match r with | 11=>some [9,10,11] | _=>none
def T84:Tab:={ T0 with live:=v84,mid:=u84 }
noncomputable def c84:Code:=match Try.f84.body with | some c=>c | none=>.skip
def h85:Hint:={ keep:=fun _=>[],keepX:=fun _=>[] }
def v85:Nat→Option (List Nat):=fun r=>match r with | 0=>some [0,2] | 1=>some [0,2,3] | 2=>some [0,2,3,4] | 3=>some [2] | _=>none
def u85:Nat→Option (List Nat):=fun r=>match r with | 13=>some [2,13] | _=>none
def T85:Tab:={ T0 with live:=v85,mid:=u85 }
noncomputable def c85:Code:=match Try.f85.body with | some c=>c | none=>.skip
def h86:Hint:={ keep:=fun _=>[],keepX:=fun _=>[] }
def v86:Nat→Option (List Nat):=fun r=>match r with | 0=>some [0,1] | 1=>some [0,5,6,7] | 2=>some [0,5,7] | 3=>some [5] | 4=>some [4] | _=>none
def u86:Nat→Option (List Nat):=fun r=>match r with | 30=>some [5,7,26,30] | 35=>some [5,34,35] | _=>none
def T86:Tab:={ T0 with live:=v86,mid:=u86 }
noncomputable def c86:Code:=match Try.f86.body with | some c=>c | none=>.skip
def h87:Hint:={ keep:=fun _=>[],keepX:=fun _=>[] }
def v87:Nat→Option (List Nat):=fun r=>match r with | 0=>some [0,1] | 1=>some [4,5,6] | _=>none
def u87:Nat→Option (List Nat):=fun r=>match r with | 11=>some [9,10,11] | _=>none
def T87:Tab:={ T0 with live:=v87,mid:=u87 }
noncomputable def c87:Code:=match Try.f87.body with | some c=>c | none=>.skip
def h88:Hint:={ keep:=fun _=>[],keepX:=fun _=>[] }
def v88:Nat→Option (List Nat):=fun r=>match r with | 0=>some [0,1] | 1=>some [0,5,6,7] | 2=>some [0,5,7] | 3=>some [5] | 4=>some [4] | _=>none
def u88:Nat→Option (List Nat):=fun r=>match r with | 30=>some [5,7,26,30] | 35=>some [5,34,35] | _=>none
def T88:Tab:={ T0 with live:=v88,mid:=u88 }
noncomputable def c88:Code:=match Try.f88.body with | some c=>c | none=>.skip
def h89:Hint:={ keep:=fun b=>match b with | 0=>[0,1,3,13,14,39,40,41] | _=>[],keepX:=fun b=>match b with | 0=>[1,3,8,9,13,14] | _=>[] }
def v89:Nat→Option (List Nat):=fun r=>match r with | 0=>some [0,1,2,3] | 1=>some [0,1,2,3,12] | 2=>some [0,1,2,3,12,33] | 3=>some [8,9] | 4=>some [0,1,3,13] | 5=>some [0,1,3,13,14] | 6=>some [0,1,3,13,14,39,40,41] | 7=>some [0,1,3,13,14,39,40,41,42] | 8=>some [0,1,3,13,14,16,39,40,41] | 9=>some [0,1,3,13,14,16,17,39,40,41] | 10=>some [0,1,3,13,14,16,17,39,40,41,51] | 11=>some [0,1,3,13,14,16,17,39,40,41] | 12=>some [0,1,3,13,14,17,39,40,41,56] | 13=>some [0,3,13,14,18,19,20,39,40,41] | 14=>some [0,3,13,14,18,19,39,40,41,70] | 15=>some [8,9] | 16=>some [0,1,3,13,14,39,40,41] | 17=>some [0,3,13,14,21,22,23,39,40,41] | 18=>some [0,3,13,14,21,22,39,40,41,89] | 19=>some [8,9] | 20=>some [0,1,3,13,14,39,40,41] | 21=>some [0,1,3,13,14,39,40,41] | 22=>some [14,103] | 23=>some [8,9] | 24=>some [8,9] | _=>none
def u89:Nat→Option (List Nat):=fun r=>match r with | 11=>some [0,1,2,3,31] | 22=>some [0,3,13,14,21,22,39,40,41,82] | 24=>some [0,1,2,3,24] | 50=>some [0,1,3,13,14,16,17,39,40,41,48,50] | 61=>some [0,3,13,14,39,40,41,57,61] | 68=>some [0,3,13,14,18,19,39,40,41,66,67,68] | 75=>some [0,3,13,14,39,40,41,75] | 87=>some [0,3,13,14,21,22,39,40,41,85,86,87] | 99=>some [14,98,99] | _=>none
def T89:Tab:={ T0 with live:=v89,mid:=u89 }
noncomputable def c89:Code:=match Try.f89.body with | some c=>c | none=>.skip
def h91:Hint:={ keep:=fun b=>match b with | 0=>[3,8,9,10] | _=>[],keepX:=fun b=>match b with | 0=>[3] | _=>[] }
def v91:Nat→Option (List Nat):=fun r=>match r with | 0=>some [0] | 1=>some [3] | 2=>some [3,8,9,10] | 3=>some [3,8,9,10,11] | 4=>some [3,4,5,8,9,10] | 5=>some [3,4,5,8,9,10,20] | 6=>some [3,8,9,10] | 7=>some [3,8,9,10] | 8=>some [2] | _=>none
def u91:Nat→Option (List Nat):=fun r=>match r with | 19=>some [3,4,5,8,9,10,17,19] | 25=>some [3,8,9,10,24,25] | _=>none
def T91:Tab:={ T0 with live:=v91,mid:=u91 }
noncomputable def c91:Code:=match Try.f91.body with | some c=>c | none=>.skip
def h92:Hint:={ keep:=fun b=>match b with | 0=>[1,6,11,12,13] | _=>[],keepX:=fun b=>match b with | 0=>[1,4,5,6] | _=>[] }
def v92:Nat→Option (List Nat):=fun r=>match r with | 0=>some [0,1] | 1=>some [0,1,6] | 2=>some [1,6,11,12,13] | 3=>some [1,6,11,12,13,14] | 4=>some [1,6,8,11,12,13] | 5=>some [1,6,8,9,11,12,13] | 6=>some [1,6,8,9,11,12,13,18] | 7=>some [1,6,8,9,11,12,13] | 8=>some [1,6,8,9,11,12,13,23] | 9=>some [1,6,8,9,11,12,13] | 10=>some [1,6,9,11,12,13,51] | 11=>some [4,5] | 12=>some [1,6,9,11,12,13] | 13=>some [1,6,11,12,13] | 14=>some [1,6,11,12,13] | 15=>some [4,5] | _=>none
def u92:Nat→Option (List Nat):=fun r=>match r with | 28=>some [1,6,8,9,11,12,13,26,28] | 33=>some [1,6,8,9,11,12,13,33] | 40=>some [1,6,8,9,11,12,13,38,39,40] | 45=>some [1,6,9,11,12,13,44,45] | 50=>some [1,6,9,11,12,13,44,50] | 56=>some [1,9,11,12,13,52,56] | _=>none
def T92:Tab:={ T0 with live:=v92,mid:=u92 }
noncomputable def c92:Code:=match Try.f92.body with | some c=>c | none=>.skip
def h93:Hint:={ keep:=fun _=>[],keepX:=fun _=>[] }
def v93:Nat→Option (List Nat):=fun r=>match r with | 0=>some [1] | 1=>some [2] | _=>none
def u93:Nat→Option (List Nat):=fun _=>none
def T93:Tab:={ T0 with live:=v93,mid:=u93 }
noncomputable def c93:Code:=match Try.f93.body with | some c=>c | none=>.skip
def h94:Hint:={ keep:=fun _=>[],keepX:=fun _=>[] }
def v94:Nat→Option (List Nat):=fun r=>match r with | 0=>some [0,1] | 1=>some [4] | _=>none
def u94:Nat→Option (List Nat):=fun _=>none
def T94:Tab:={ T0 with live:=v94,mid:=u94 }
noncomputable def c94:Code:=match Try.f94.body with | some c=>c | none=>.skip
def h95:Hint:={ keep:=fun _=>[],keepX:=fun _=>[] }
def v95:Nat→Option (List Nat):=fun r=>match r with | 0=>some [0,1] | 1=>some [4] | _=>none
def u95:Nat→Option (List Nat):=fun _=>none
def T95:Tab:={ T0 with live:=v95,mid:=u95 }
noncomputable def c95:Code:=match Try.f95.body with | some c=>c | none=>.skip
def h96:Hint:={ keep:=fun _=>[],keepX:=fun _=>[] }
def v96:Nat→Option (List Nat):=fun r=>match r with | 0=>some [1] | 1=>some [2] | _=>none
def u96:Nat→Option (List Nat):=fun _=>none
def T96:Tab:={ T0 with live:=v96,mid:=u96 }
noncomputable def c96:Code:=match Try.f96.body with | some c=>c | none=>.skip
def h97:Hint:={ keep:=fun _=>[],keepX:=fun _=>[] }
def v97:Nat→Option (List Nat):=fun r=>match r with | 0=>some [] | 1=>some [0] | _=>none
def u97:Nat→Option (List Nat):=fun _=>none
def T97:Tab:={ T0 with live:=v97,mid:=u97 }
noncomputable def c97:Code:=match Try.f97.body with | some c=>c | none=>.skip
def h98:Hint:={ keep:=fun _=>[],keepX:=fun _=>[] }
def v98:Nat→Option (List Nat):=fun r=>match r with | 0=>some [0,1,5] | 1=>some [] | _=>none
def u98:Nat→Option (List Nat):=fun r=>match r with | 10=>some [1,6,10] | 15=>some [13,15] | _=>none
def T98:Tab:={ T0 with live:=v98,mid:=u98 }
noncomputable def c98:Code:=match Try.f98.body with | some c=>c | none=>.skip
def h99:Hint:={ keep:=fun _=>[],keepX:=fun _=>[] }
def v99:Nat→Option (List Nat):=fun r=>match r with | 0=>some [0] | 1=>some [2] | _=>none
def u99:Nat→Option (List Nat):=fun _=>none
def T99:Tab:={ T0 with live:=v99,mid:=u99 }
noncomputable def c99:Code:=match Try.f99.body with | some c=>c | none=>.skip
def h100:Hint:={ keep:=fun _=>[],keepX:=fun _=>[] }
def v100:Nat→Option (List Nat):=fun r=>match r with | 0=>some [1] | 1=>some [2] | _=>none
def u100:Nat→Option (List Nat):=fun _=>none
def T100:Tab:={ T0 with live:=v100,mid:=u100 }
noncomputable def c100:Code:=match Try.f100.body with | some c=>c | none=>.skip
def h101:Hint:={ keep:=fun _=>[],keepX:=fun _=>[] }
def v101:Nat→Option (List Nat):=fun r=>match r with | 0=>some [0,3] | 1=>some [0,3,11] | 2=>some [4] | 3=>some [0,3] | 4=>some [] | 5=>some [4] | _=>none
def u101:Nat→Option (List Nat):=fun r=>match r with | 9=>some [0,3,7,9] | _=>none
def T101:Tab:={ T0 with live:=v101,mid:=u101 }
noncomputable def c101:Code:=match Try.f101.body with | some c=>c | none=>.skip
def h102:Hint:={ keep:=fun b=>match b with | 0=>[0,6,7,8] | _=>[],keepX:=fun b=>match b with | 0=>[] | _=>[] }
def v102:Nat→Option (List Nat):=fun r=>match r with | 0=>some [0,6,7,8] | 1=>some [0,6,7,8,9] | 2=>some [0,5,6,7,8] | 3=>some [0,6,7,8] | 4=>some [0,6,7,8] | _=>none
def u102:Nat→Option (List Nat):=fun _=>none
def T102:Tab:={ T0 with live:=v102,mid:=u102 }
noncomputable def c102:Code:=match Try.f102.body with | some c=>c | none=>.skip
def h103:Hint:={ keep:=fun b=>match b with | 0=>[0,3,9,10,11] | 2=>[6,25,26,27] | _=>[],keepX:=fun b=>match b with | 0=>[0,3] | 2=>[6] | _=>[] }
def v103:Nat→Option (List Nat):=fun r=>match r with | 0=>some [0] | 1=>some [0,3] | 2=>some [0,3,9,10,11] | 3=>some [0,3,9,10,11,12] | 4=>some [0,3,5,9,10,11] | 5=>some [0,3,9,10,11] | 6=>some [0,3,9,10,11,20] | 7=>some [0,3,9,10,11] | 8=>some [0,3,9,10,11] | 9=>some [0,6] | 10=>some [6,25,26,27] | 11=>some [6,25,26,27,28] | 12=>some [6,8,25,26,27] | 13=>some [6,25,26,27] | 14=>some [6,25,26,27] | 15=>some [2] | _=>none
def u103:Nat→Option (List Nat):=fun _=>none
def T103:Tab:={ T0 with live:=v103,mid:=u103 }
noncomputable def c103:Code:=match Try.f103.body with | some c=>c | none=>.skip
def h104:Hint:={ keep:=fun _=>[],keepX:=fun _=>[] }
def v104:Nat→Option (List Nat):=fun r=>match r with | 0=>some [0] | 1=>some [0,4] | 2=>some [2] | 3=>some [2] | _=>none
def u104:Nat→Option (List Nat):=fun r=>match r with | 9=>some [9] | _=>none
def T104:Tab:={ T0 with live:=v104,mid:=u104 }
noncomputable def c104:Code:=match Try.f104.body with | some c=>c | none=>.skip
def h105:Hint:={ keep:=fun _=>[],keepX:=fun _=>[] }
noncomputable def c105:Code:=match Try.f105.body with | some c=>c | none=>.skip
def h106:Hint:={ keep:=fun b=>match b with | 0=>[0,3] | _=>[],keepX:=fun b=>match b with | 0=>[0,2] | _=>[] }
noncomputable def c106:Code:=match Try.f106.body with | some c=>c | none=>.skip
def h107:Hint:={ keep:=fun _=>[],keepX:=fun _=>[] }
noncomputable def c107:Code:=match Try.f107.body with | some c=>c | none=>.skip
def h108:Hint:={ keep:=fun _=>[],keepX:=fun _=>[] }
noncomputable def c108:Code:=match Try.f108.body with | some c=>c | none=>.skip
def h109:Hint:={ keep:=fun b=>match b with | 0=>[1,2,4,5] | _=>[],keepX:=fun b=>match b with | 0=>[2,4] | _=>[] }
noncomputable def c109:Code:=match Try.f109.body with | some c=>c | none=>.skip
def h112:Hint:={ keep:=fun b=>match b with | 0=>[9,10,11,12,23,24] | _=>[],keepX:=fun b=>match b with | 0=>[10,11,12] | _=>[] }
def v112:Nat→Option (List Nat):=fun r=>match r with | 0=>some [0,1,2] | 1=>some [9,10,11] | 2=>some [9,10,11,12] | 3=>some [9,10,11,12,23,24] | 4=>some [9,10,11,12,23,24,25] | 5=>some [9,10,11,12,13,23,24] | 6=>some [9,10,11,12,23,24] | 7=>some [9,10,11,12,23,24] | 8=>some [6,7,8] | _=>none
def u112:Nat→Option (List Nat):=fun r=>match r with | 10=>some [9,10,21] | 14=>some [14] | 31=>some [9,10,11,23,24,28,31] | _=>none
def T112:Tab:={ T0 with live:=v112,mid:=u112 }
noncomputable def c112:Code:=match Try.f112.body with | some c=>c | none=>.skip
def h113:Hint:={ keep:=fun _=>[],keepX:=fun _=>[] }
def v113:Nat→Option (List Nat):=fun r=>match r with | 0=>some [0,1] | 1=>some [0,5,6,7] | 2=>some [0,5,7] | 3=>some [5] | 4=>some [4] | _=>none
def u113:Nat→Option (List Nat):=fun r=>match r with | 30=>some [5,7,26,30] | 35=>some [5,34,35] | _=>none
def T113:Tab:={ T0 with live:=v113,mid:=u113 }
noncomputable def c113:Code:=match Try.f113.body with | some c=>c | none=>.skip
def h114:Hint:={ keep:=fun b=>match b with | 0=>[0,1,7,8,9] | _=>[],keepX:=fun b=>match b with | 0=>[4,5,6] | _=>[] }
def v114:Nat→Option (List Nat):=fun r=>match r with | 0=>some [0,1] | 1=>some [0,1,7] | 2=>some [0,1,7,8,9] | 3=>some [0,1,7,8,9,10,11,12] | 4=>some [0,1,7,8,9,10,11,26] | 5=>some [4,5,6] | 6=>some [0,1,7,8,9,10,11,37] | 7=>some [0,7,8,9,13,14,15] | 8=>some [0,7,8,9,14,15,16] | 9=>some [0,7,9,14,16,56] | 10=>some [0,7,9,14,16,58] | 11=>some [0,7,9,16] | 12=>some [0,1,7,8,9] | 13=>some [4,5,6] | 14=>some [0,7,8,9,10,11,12,17] | 15=>some [0,7,8,9,10,11,17,80] | 16=>some [4,5,6] | 17=>some [0,7,8,9,10,11,17] | 18=>some [0,7,8,9,10,11] | 19=>some [0,1,7,8,9,10,11] | 20=>some [0,1,7,8,9,11,88] | 21=>some [7,9,11,90] | 22=>some [7,9] | 23=>some [4,5,6] | _=>none
def u114:Nat→Option (List Nat):=fun r=>match r with | 17=>some [0,7,8,9,10,17,69,70] | 23=>some [0,1,7,8,9,19,23] | 31=>some [0,1,7,8,9,10,11,29,31] | 36=>some [0,1,7,8,9,10,11,36] | 44=>some [0,7,8,9,40,44] | 54=>some [0,7,9,14,16,52,53,54] | 67=>some [0,7,8,9,10,67] | 75=>some [0,7,8,9,10,11,17,73,75] | _=>none
def T114:Tab:={ T0 with live:=v114,mid:=u114 }
noncomputable def c114:Code:=match Try.f114.body with | some c=>c | none=>.skip
def h115:Hint:={ keep:=fun b=>match b with | 0=>[9,10,11,12,23,24] | _=>[],keepX:=fun b=>match b with | 0=>[10,11,12] | _=>[] }
def v115:Nat→Option (List Nat):=fun r=>match r with | 0=>some [0,1,2] | 1=>some [9,10,11] | 2=>some [9,10,11,12] | 3=>some [9,10,11,12,23,24] | 4=>some [9,10,11,12,23,24,25] | 5=>some [9,10,11,12,13,23,24] | 6=>some [9,10,11,12,23,24] | 7=>some [9,10,11,12,23,24] | 8=>some [6,7,8] | _=>none
def u115:Nat→Option (List Nat):=fun r=>match r with | 10=>some [9,10,21] | 14=>some [14] | 31=>some [9,10,11,23,24,28,31] | _=>none
def T115:Tab:={ T0 with live:=v115,mid:=u115 }
noncomputable def c115:Code:=match Try.f115.body with | some c=>c | none=>.skip
def h116:Hint:={ keep:=fun _=>[],keepX:=fun _=>[] }
def v116:Nat→Option (List Nat):=fun r=>match r with | 0=>some [0,1,2] | 1=>some [0,1,2,28] | 2=>some [6,7,8] | 3=>some [6,7,8] | _=>none
def u116:Nat→Option (List Nat):=fun r=>match r with | 13=>some [0,1,2,11,13] | 18=>some [0,1,2,15,16,18] | 23=>some [0,1,2,21,22,23] | 33=>some [1,2,29,30,33] | _=>none
def T116:Tab:={ T0 with live:=v116,mid:=u116 }
noncomputable def c116:Code:=match Try.f116.body with | some c=>c | none=>.skip
def h117:Hint:={ keep:=fun _=>[],keepX:=fun _=>[] }
def v117:Nat→Option (List Nat):=fun r=>match r with | 0=>some [0] | 1=>some [3,4] | 2=>some [3,12] | 3=>some [2] | 4=>some [2] | _=>none
def u117:Nat→Option (List Nat):=fun r=>match r with | 9=>some [5,9] | _=>none
def T117:Tab:={ T0 with live:=v117,mid:=u117 }
noncomputable def c117:Code:=match Try.f117.body with | some c=>c | none=>.skip
def h119:Hint:={ keep:=fun b=>match b with | 0=>[0,3] | _=>[],keepX:=fun b=>match b with | 0=>[0,3] | _=>[] }
def v119:Nat→Option (List Nat):=fun r=>match r with | 0=>some [0] | 1=>some [0,3] | 2=>some [0,3,13] | 3=>some [0,3] | 4=>some [3,32] | 5=>some [2] | 6=>some [2] | _=>none
def u119:Nat→Option (List Nat):=fun r=>match r with | 8=>some [0,3,8] | 18=>some [0,14,18] | 25=>some [0,3,25] | 30=>some [3,25,30] | _=>none
def T119:Tab:={ T0 with live:=v119,mid:=u119 }
noncomputable def c119:Code:=match Try.f119.body with | some c=>c | none=>.skip
def h120:Hint:={ keep:=fun b=>match b with | 0=>[0,3] | _=>[],keepX:=fun b=>match b with | 0=>[0,3] | _=>[] }
def v120:Nat→Option (List Nat):=fun r=>match r with | 0=>some [0] | 1=>some [0,3] | 2=>some [0,3,7] | 3=>some [0,3] | 4=>some [2] | _=>none
def u120:Nat→Option (List Nat):=fun r=>match r with | 12=>some [0,8,12] | 19=>some [17,18,19] | _=>none
def T120:Tab:={ T0 with live:=v120,mid:=u120 }
noncomputable def c120:Code:=match Try.f120.body with | some c=>c | none=>.skip
def h121:Hint:={ keep:=fun b=>match b with | 0=>[0,1,5,9,10] | _=>[],keepX:=fun b=>match b with | 0=>[5] | _=>[] }
def v121:Nat→Option (List Nat):=fun r=>match r with | 0=>some [0,1] | 1=>some [0,1,5] | 2=>some [0,1,5,9,10] | 3=>some [0,1,5,9,10,11] | 4=>some [0,1,5,6,9,10] | 5=>some [0,1,5,9,10] | 6=>some [0,1,5,9,10] | 7=>some [4] | _=>none
def u121:Nat→Option (List Nat):=fun r=>match r with | 17=>some [0,1,5,6,9,10,13,17] | 22=>some [0,1,5,9,10,13,17,22] | _=>none
def T121:Tab:={ T0 with live:=v121,mid:=u121 }
noncomputable def c121:Code:=match Try.f121.body with | some c=>c | none=>.skip
def h122:Hint:={ keep:=fun _=>[],keepX:=fun _=>[] }
def v122:Nat→Option (List Nat):=fun r=>match r with | 0=>some [0,1] | 1=>some [1,5] | 2=>some [4] | 3=>some [4] | _=>none
def u122:Nat→Option (List Nat):=fun _=>none
def T122:Tab:={ T0 with live:=v122,mid:=u122 }
noncomputable def c122:Code:=match Try.f122.body with | some c=>c | none=>.skip
def h123:Hint:={ keep:=fun b=>match b with | 0=>[0,1] | _=>[],keepX:=fun b=>match b with | 0=>[0,1,4] | _=>[] }
def v123:Nat→Option (List Nat):=fun r=>match r with | 0=>some [0,1] | 1=>some [0,1,15] | 2=>some [4] | 3=>some [0,1,17] | 4=>some [0,1,5,6] | 5=>some [0,1,5,27] | 6=>some [] | 7=>some [4] | 8=>some [0,1,7] | 9=>some [0,1,7,41] | 10=>some [0,1] | 11=>some [0,1,8] | 12=>some [0,1,8] | 13=>some [0,1] | 14=>some [] | 15=>some [4] | _=>none
def u123:Nat→Option (List Nat):=fun r=>match r with | 5=>some [0,1,5,26] | 13=>some [0,1,11,13] | 23=>some [0,1,22,23] | 32=>some [28,32] | 38=>some [0,1,38] | 46=>some [0,1,7,45,46] | _=>none
def T123:Tab:={ T0 with live:=v123,mid:=u123 }
noncomputable def c123:Code:=match Try.f123.body with | some c=>c | none=>.skip
def h124:Hint:={ keep:=fun _=>[],keepX:=fun _=>[] }
def v124:Nat→Option (List Nat):=fun r=>match r with | 0=>some [0,3] | 1=>some [0,3,12] | 2=>some [4] | 3=>some [0,3] | 4=>some [0,3] | 5=>some [0,3,5] | 6=>some [0,5] | 7=>some [4] | _=>none
def u124:Nat→Option (List Nat):=fun r=>match r with | 10=>some [0,3,8,10] | 36=>some [0,5,32,34,36] | _=>none
def T124:Tab:={ T0 with live:=v124,mid:=u124 }
noncomputable def c124:Code:=match Try.f124.body with | some c=>c | none=>.skip
def h125:Hint:={ keep:=fun _=>[],keepX:=fun _=>[] }
def v125:Nat→Option (List Nat):=fun r=>match r with | 0=>some [0,1] | 1=>some [0,1,6] | 2=>some [0,1] | 3=>some [0,1] | 4=>some [0,1,16] | 5=>some [0] | 6=>some [4] | _=>none
def u125:Nat→Option (List Nat):=fun r=>match r with | 12=>some [0,8,10,12] | 21=>some [0,20,21] | _=>none
def T125:Tab:={ T0 with live:=v125,mid:=u125 }
noncomputable def c125:Code:=match Try.f125.body with | some c=>c | none=>.skip
def h126:Hint:={ keep:=fun _=>[],keepX:=fun _=>[] }
noncomputable def c126:Code:=match Try.f126.body with | some c=>c | none=>.skip
def h127:Hint:={ keep:=fun _=>[],keepX:=fun _=>[] }
noncomputable def c127:Code:=match Try.f127.body with | some c=>c | none=>.skip
def h128:Hint:={ keep:=fun _=>[],keepX:=fun _=>[] }
noncomputable def c128:Code:=match Try.f128.body with | some c=>c | none=>.skip
def h129:Hint:={ keep:=fun _=>[],keepX:=fun _=>[] }
noncomputable def c129:Code:=match Try.f129.body with | some c=>c | none=>.skip
def h130:Hint:={ keep:=fun b=>match b with | 0=>[1,4,6] | _=>[],keepX:=fun b=>match b with | 0=>[4,5,6] | _=>[] }
noncomputable def c130:Code:=match Try.f130.body with | some c=>c | none=>.skip
def h131:Hint:={ keep:=fun _=>[],keepX:=fun _=>[] }
noncomputable def c131:Code:=match Try.f131.body with | some c=>c | none=>.skip
def h132:Hint:={ keep:=fun _=>[],keepX:=fun _=>[] }
noncomputable def c132:Code:=match Try.f132.body with | some c=>c | none=>.skip
def h133:Hint:={ keep:=fun _=>[],keepX:=fun _=>[] }
def v133:Nat→Option (List Nat):=fun r=>match r with | 0=>some [0,1] | 1=>some [4,5,6] | _=>none
def u133:Nat→Option (List Nat):=fun r=>match r with | 11=>some [9,10,11] | _=>none
def T133:Tab:={ T0 with live:=v133,mid:=u133 }
noncomputable def c133:Code:=match Try.f133.body with | some c=>c | none=>.skip
def h134:Hint:={ keep:=fun _=>[],keepX:=fun _=>[] }
def v134:Nat→Option (List Nat):=fun r=>match r with | 0=>some [0] | 1=>some [2] | _=>none
def u134:Nat→Option (List Nat):=fun r=>match r with | 7=>some [7] | _=>none
def T134:Tab:={ T0 with live:=v134,mid:=u134 }
noncomputable def c134:Code:=match Try.f134.body with | some c=>c | none=>.skip
def h135:Hint:={ keep:=fun _=>[],keepX:=fun _=>[] }
def v135:Nat→Option (List Nat):=fun r=>match r with | 0=>some [0,1] | 1=>some [0,1] | 2=>some [] | 3=>some [4] | _=>none
def u135:Nat→Option (List Nat):=fun r=>match r with | 11=>some [1,7,11] | 16=>some [14,16] | _=>none
def T135:Tab:={ T0 with live:=v135,mid:=u135 }
noncomputable def c135:Code:=match Try.f135.body with | some c=>c | none=>.skip
def h136:Hint:={ keep:=fun _=>[],keepX:=fun _=>[] }
def v136:Nat→Option (List Nat):=fun r=>match r with | 0=>some [0,1] | 1=>some [0,1] | 2=>some [1] | 3=>some [4,5] | _=>none
def u136:Nat→Option (List Nat):=fun r=>match r with | 12=>some [1,8,12] | _=>none
def T136:Tab:={ T0 with live:=v136,mid:=u136 }
noncomputable def c136:Code:=match Try.f136.body with | some c=>c | none=>.skip
def h137:Hint:={ keep:=fun _=>[],keepX:=fun _=>[] }
def v137:Nat→Option (List Nat):=fun r=>match r with | 0=>some [0] | 1=>some [2] | _=>none
def u137:Nat→Option (List Nat):=fun _=>none
def T137:Tab:={ T0 with live:=v137,mid:=u137 }
def h138:Hint:={ keep:=fun _=>[],keepX:=fun _=>[] }
def v138:Nat→Option (List Nat):=fun r=>match r with | 0=>some [] | 1=>some [0] | _=>none
def u138:Nat→Option (List Nat):=fun r=>match r with | 6=>some [1,6] | _=>none
def T138:Tab:={ T0 with live:=v138,mid:=u138 }
noncomputable def c138:Code:=match Try.f138.body with | some c=>c | none=>.skip
def h140:Hint:={ keep:=fun _=>[],keepX:=fun _=>[] }
def v140:Nat→Option (List Nat):=fun r=>match r with | 0=>some [0] | 1=>some [2] | _=>none
def u140:Nat→Option (List Nat):=fun _=>none
def T140:Tab:={ T0 with live:=v140,mid:=u140 }
noncomputable def c140:Code:=match Try.f140.body with | some c=>c | none=>.skip
def h141:Hint:={ keep:=fun _=>[],keepX:=fun _=>[] }
def v141:Nat→Option (List Nat):=fun r=>match r with | 0=>some [0] | 1=>some [0] | 2=>some [2] | _=>none
def u141:Nat→Option (List Nat):=fun _=>none
def T141:Tab:={ T0 with live:=v141,mid:=u141 }
noncomputable def c141:Code:=match Try.f141.body with | some c=>c | none=>.skip
def h142:Hint:={ keep:=fun b=>match b with | 0=>[0,7,26,27,28] | _=>[],keepX:=fun b=>match b with | 0=>[] | _=>[] }
def v142:Nat→Option (List Nat):=fun r=>match r with | 0=>some [0,1,2] | 1=>some [0,1,2,18] | 2=>some [6] | 3=>some [0,1,7] | 4=>some [0,7,26,27,28] | 5=>some [0,7,26,27,28,29] | 6=>some [0,7,9,10,26,27,28] | 7=>some [0,7,9,26,27,28,34] | 8=>some [0,7,26,27,28] | 9=>some [0,7,26,27,28] | 10=>some [0,7,26,27,28] | 11=>some [6] | _=>none
def u142:Nat→Option (List Nat):=fun r=>match r with | 15=>some [0,1,2,13,14,15] | 23=>some [0,1,19,23] | 39=>some [0,7,26,27,28,35,39] | 45=>some [0,7,26,27,28,41,45] | _=>none
def T142:Tab:={ T0 with live:=v142,mid:=u142 }
noncomputable def c142:Code:=match Try.f142.body with | some c=>c | none=>.skip
def h143:Hint:={ keep:=fun _=>[],keepX:=fun _=>[] }
def v143:Nat→Option (List Nat):=fun r=>match r with | 0=>some [0,1] | 1=>some [0,1,12] | 2=>some [4] | 3=>some [] | 4=>some [4] | _=>none
def u143:Nat→Option (List Nat):=fun r=>match r with | 9=>some [0,1,7,8,9] | _=>none
def T143:Tab:={ T0 with live:=v143,mid:=u143 }
noncomputable def c143:Code:=match Try.f143.body with | some c=>c | none=>.skip
def h144:Hint:={ keep:=fun b=>match b with | 0=>[0,4,5] | _=>[],keepX:=fun b=>match b with | 0=>[0,2,3,4,5] | _=>[] }
noncomputable def c144:Code:=match Try.f144.body with | some c=>c | none=>.skip
def h145:Hint:={ keep:=fun b=>match b with | 0=>[0,3,4] | _=>[],keepX:=fun b=>match b with | 0=>[3] | _=>[] }
noncomputable def c145:Code:=match Try.f145.body with | some c=>c | none=>.skip
def h146:Hint:={ keep:=fun _=>[],keepX:=fun _=>[] }
noncomputable def c146:Code:=match Try.f146.body with | some c=>c | none=>.skip
def h147:Hint:={ keep:=fun b=>match b with | 0=>[1,2,5] | _=>[],keepX:=fun b=>match b with | 0=>[4] | _=>[] }
noncomputable def c147:Code:=match Try.f147.body with | some c=>c | none=>.skip
def h148:Hint:={ keep:=fun _=>[],keepX:=fun _=>[] }
noncomputable def c148:Code:=match Try.f148.body with | some c=>c | none=>.skip
def h149:Hint:={ keep:=fun _=>[],keepX:=fun _=>[] }
noncomputable def c149:Code:=match Try.f149.body with | some c=>c | none=>.skip
def h150:Hint:={ keep:=fun b=>match b with | 0=>[9,10,11,12,23,24] | _=>[],keepX:=fun b=>match b with | 0=>[10,11,12] | _=>[] }
def v150:Nat→Option (List Nat):=fun r=>match r with | 0=>some [0,1,2] | 1=>some [9,10,11] | 2=>some [9,10,11,12] | 3=>some [9,10,11,12,23,24] | 4=>some [9,10,11,12,23,24,25] | 5=>some [9,10,11,12,13,23,24] | 6=>some [9,10,11,12,23,24] | 7=>some [9,10,11,12,23,24] | 8=>some [6,7,8] | _=>none
def u150:Nat→Option (List Nat):=fun r=>match r with | 10=>some [9,10,21] | 14=>some [14] | 31=>some [9,10,11,23,24,28,31] | _=>none
def T150:Tab:={ T0 with live:=v150,mid:=u150 }
noncomputable def c150:Code:=match Try.f150.body with | some c=>c | none=>.skip
def h151:Hint:={ keep:=fun _=>[],keepX:=fun _=>[] }
def v151:Nat→Option (List Nat):=fun r=>match r with | 0=>some [0,6] | 1=>some [] | 2=>some [19] | _=>none
def u151:Nat→Option (List Nat):=fun r=>match r with | 11=>some [7,11] | 18=>some [17,18] | _=>none
def T151:Tab:={ T0 with live:=v151,mid:=u151 }
def h152:Hint:={ keep:=fun _=>[],keepX:=fun _=>[] }
def v152:Nat→Option (List Nat):=fun r=>match r with | 0=>some [0] | 1=>some [0,4] | 2=>some [2] | 3=>some [2] | _=>none
def u152:Nat→Option (List Nat):=fun r=>match r with | 9=>some [9] | _=>none
def T152:Tab:={ T0 with live:=v152,mid:=u152 }
noncomputable def c152:Code:=match Try.f152.body with | some c=>c | none=>.skip
def h153:Hint:={ keep:=fun _=>[],keepX:=fun _=>[] }
noncomputable def c153:Code:=match Try.f153.body with | some c=>c | none=>.skip
def h154:Hint:={ keep:=fun b=>match b with | 0=>[0,3] | _=>[],keepX:=fun b=>match b with | 0=>[2] | _=>[] }
noncomputable def c154:Code:=match Try.f154.body with | some c=>c | none=>.skip
def h155:Hint:={ keep:=fun b=>match b with | 0=>[0] | _=>[],keepX:=fun b=>match b with | 0=>[2] | _=>[] }
noncomputable def c155:Code:=match Try.f155.body with | some c=>c | none=>.skip
def h156:Hint:={ keep:=fun _=>[],keepX:=fun _=>[] }
theorem Z4z {α:Type} {F:St→Option (St⊕(Ex×St))} (mk:α→St) (I:α→Prop) (m:α→Nat) (r:Ex×St)
    (step:∀ a,I a→F (mk a)=some (.inr r)∨∃ a',F (mk a)=some (.inl (mk a'))∧I a'∧m a' < m a):∀ a,I a→Z4 F (mk a)=some r:=by
 have key:∀ (n:Nat) (a:α),m a=n→I a→Z4 F (mk a)=some r:=by
  intro n
  induction n using Nat.strongRecOn with
  | _ n ih=>
    intro a hn ha
    rcases step a ha with h | ⟨a',h,ha',hlt⟩
    ·exact V25 h
    ·rw[Z19 h]
     exact ih (m a') (by omega) a' rfl ha'
 exact fun a ha=>key _ a rfl ha
theorem J0 {p:Prop} [Decidable p] (h:p):decide p=true:=decide_eq_true h
theorem J1 {p:Prop} [Decidable p] (h:¬ p):decide p=false:=decide_eq_false h
theorem U7 {n b:Nat} (h:n * b≤140737488355328) (h':n≤140737488355328):fits n b=true:=by
 unfold fits Z3a
 rw[J0 h,J0 h']
 rfl
theorem Jm {α:Type} (l:List α) (k:Nat) (d:α) (h:k < l.length):l.drop k=l.getD k d::l.drop (k+1):=by
 rw[List.drop_eq_getElem_cons h,List.getD_eq_getElem?_getD,List.getElem?_eq_getElem h]
 rfl
theorem Z3n {P : Program} (hmo : P.follows .mixedOrders = true) {T : Tab} (hT : Q6 P T) {orc : Orc} (hO : Zd P orc) {H : Hint} {d : Nat} {S : X0f} {f : Nat} {fn : Func} {c : Code} (hf : P.funcs[f]? = some fn) (hn : (fn.name == "runtime.NumGoroutine") = false) (hb : fn.body = some c)
    {args:List AV} {objs:List LObj} {res:List AV} {objs':List LObj} (hl:∀ x∈Jc c 1000000,Zc T orc H objs.length d S x) (hd:d < 8) (hok:(Up fn.ntmps c&&Nat.ble args.length fn.ntmps)=true)
    (h:evC T orc (lpOf H objs.length S) c 1000000 (J2 args objs fn.ntmps) (Z1 T H.own objs.length fn)=some (res,objs')):SemF P f args objs res objs':=
 Z1s hmo hT hO hf (by simpa using hn) (Q4v hb hl hd hok h)
theorem V3 {T:Tab} {orc:Orc} {H:Hint} {n0 d:Nat} {S:X0f} {c:Code} (h:(Jc c 1000000).isEmpty=true):∀ x∈Jc c 1000000,Zc T orc H n0 d S x:=by
 rw[List.isEmpty_iff.1 h]
 simp
theorem J2s {T:Tab} {orc:Orc} {H:Hint} {n0 d:Nat} {L:LoopSpec} {body:Code} (h:L.Ok T orc H n0 d body):Zc T orc H n0 d (lsOf [L]) (L.bid,body):=
 J3a fun L' hL' _=>by rw[List.mem_singleton.1 hL'];exact h
theorem Q1z {A R:Type} (all:List Oper) (o:Oper) (st:St) (run skip:St→Option A) (K:A→Option R):(gate all o st run skip).bind K=gate all o st (fun st=>(run st).bind K) (fun st=>(skip st).bind K):=by
 unfold gate
 cases hg:o.guard with
 | none=>rfl
 | some g=>
   obtain⟨j,want⟩:=g
   simp only
   cases hd:J0q all j with
   | none=>rfl
   | some t=>
     simp only
     split
     ·rename_i b hb
      cases want<;>cases b<;>rfl
     ·rfl
     ·rfl
theorem J53 {T:Tab} {orc:Orc} {o:Op} {ty:Nat} {st:St} {A R:Type} (G:Eff→Option A) (K:A→Option R):(evOp T orc o ty st G).bind K=evOp T orc o ty st fun f=>(G f).bind K:=by
 rw[J0n,J0n (K:=fun f=>(G f).bind K)]
 cases evOp T orc o ty st some<;>rfl
theorem Z1n {T:Tab} {orc:Orc} {all:List Oper} {A R:Type} (G:St→Option A) (K:A→Option R):∀ (os:List Oper) (st:St),(J0g T orc all os st G).bind K=J0g T orc all os st fun st=>(G st).bind K
 | [],st=>rfl
 | o::os,st=>by
   simp only[J0g]
   rw[Q1z]
   congr 1
   ·funext st
    rw[J53]
    congr 1
    funext f
    rw[Qd,Qd]
    exact Z1n G K os _
   ·funext st
    exact Z1n G K os _
theorem V4n {T:Tab} {orc:Orc} {all:List Oper} {n0:Nat} {o:Oper} {st:St} {A R:Type} (G:Eff→Option A) (K:A→Option R):(Jv T orc all n0 o st G).bind K=Jv T orc all n0 o st fun f=>(G f).bind K:=by
 rw[X0d G,X0d (fun f=>(G f).bind K)]
 cases Jv T orc all n0 o st some<;>rfl
theorem V4o {T:Tab} {all:List Oper} {st:St} {A R:Type} (G:Nat→St→Option A) (K:A→Option R):(resE T all st G).bind K=resE T all st fun n st=>(G n st).bind K:=by
 unfold resE
 split
 ·rfl
 ·simp only[Vd]
theorem V15 {T:Tab} {orc:Orc} {all:List Oper} {bs:List Nat} {n0:Nat} {A R:Type} (G:St→Option A) (K:A→Option R):∀ (os:List Oper) (cs:List Cls) (st:St),(Jq T orc all bs n0 os cs st G).bind K=Jq T orc all bs n0 os cs st fun st=>(G st).bind K
 | [],cs,st=>by
   simp only[Jq]
   cases X0c bs cs.reverse<;>rfl
 | o::os,cs,st=>by
   simp only[Jq,U18,J0l,X1n]
   rw[Q1z]
   congr 1
   ·funext st
    rw[V4n]
    congr 1
    funext f
    exact V15 G K os _ _
   ·funext st
    exact V15 G K os _ _
theorem J3k {α A R:Type} (G:α→Option A) (K:A→Option R) (t:Tr α):(t.run G).bind K=t.run fun a=>(G a).bind K:=by
 rw[Tr.run_get,Tr.run_get]
 cases t.get<;>rfl
theorem J06 {T:Tab} {orc:Orc} {lp:Lp} {A R:Type} (K:A→Option R):∀ (c:Code) (bid:Nat) (st:St) (G:Ex→St→Option A),(evC T orc lp c bid st G).bind K=evC T orc lp c bid st fun ex st=>(G ex st).bind K
 | .skip,_,_,_=>rfl
 | .label _,_,_,_=>rfl
 | .exit _,_,_,_=>rfl
 | .ret,_,_,_=>rfl
 | .goto _,_,_,_=>rfl
 | .scope ..,_,_,_=>rfl
 | .rangeFunc ..,_,_,_=>rfl
 | .refuse ..,_,_,_=>rfl
 | .region id ops draw,bid,st,G=>by
   simp only[evC]
   cases draw with
   | true=>
     rw[if_pos rfl,if_pos rfl]
     cases X0g ops (Region.before ops).toList with
     | true=>
       simp only[cond_true]
       refine(V4o _ _).trans ?_
       congr 1
       funext n st
       refine(V15 _ _ _ _ _).trans ?_
       congr 1
       funext st
       rw[Qd,Qd]
     | false=>rfl
   | false=>
     rw[if_neg (by simp),if_neg (by simp)]
     refine(Z1n _ _ _ _).trans ?_
     congr 1
     funext st
     rw[Qd,Qd]
 | .seq a b,bid,st,G=>by
   simp only[evC]
   rw[J06 K a]
   congr 1
   funext ex st'
   cases ex with
   | normal=>exact J06 K b bid st' G
   | exit id=>rfl
   | ret=>rfl
 | .cond c a b,bid,st,G=>by
   simp only[evC,Q3f]
   split
   ·rename_i t _
    cases t with
    | true=>exact J06 K a bid _ G
    | false=>exact J06 K b bid _ G
   ·rfl
 | .block id c,bid,st,G=>by
   simp only[evC]
   rw[J06 K c]
   congr 1
   funext ex st'
   cases ex with
   | normal=>rfl
   | ret=>rfl
   | exit i=>
     simp only[J2g]
     cases i==id<;>rfl
 | .loop c,bid,st,G=>by
   simp only[evC]
   exact J3k _ _ _
def U4l (T:Tab) (orc:Orc) (lp:Lp) (fn:Func) (own:Bool) (n0:Nat) (r0 rest:Code) (d1 d2:Nat) (st0:St):Option (Res×Res×Bool):=
 evC T orc lp r0 1000000 st0 fun ex st=>match ex with
  | .normal=>match st.tm 0 with
    | .list _ xs=>evC T orc lp rest 1000000 ((st.put d1 (st.tm 0)).put d2 (.bool true)) fun e1 s1=>match Z1 T own n0 fn e1 s1 with
      | some x=>evC T orc lp rest 1000000 ((st.put d1 (st.tm 0)).put d2 (.bool false)) fun e2 s2=>match Z1 T own n0 fn e2 s2 with
        | some y=>some (x,y,xs.isEmpty)
        | none=>none
      | none=>none
    | _=>none
  | _=>none
theorem J4z {P:Program} {t:Nat} {e:TypeId} (ht:P.underlying t=some (.slice e)) (A:Option Addr) (n c:Nat) (X Y:Operand) (w:World) :
    ((do eqGuard .eql t X Y (.slice A n c) (.slice none 0 0);binOp .eql t (.slice A n c) (.slice none 0 0)):Sem Value).run P w=.ok (.bool A.isNone) w:=by
 have h:∀ d,(Op.equalIn (d+1) t (.slice A n c) (.slice none 0 0)).run P w=.ok A.isNone w:=fun d=>by cases A<;>simp[Op.equalIn,run_underlying ht]
 have h2:(Op.equal t (.slice A n c) (.slice none 0 0)).run P w=.ok A.isNone w:=h 9999
 simp[eqGuard,binOp,h2]
theorem X2j {P:Program} {T:Tab} (hT:Q6 P T) {c:Cx} {st:St} {a:Act} {w:World} {μ:Nat→Pl} {F:Nat→Prop} (hi:Inv c st a w μ F) {own:Bool} {fn:Func} {ex:Ex} {res:List AV} {objs':List LObj} (hfp:c.fp=J0p c.μ0)
    (hk:Z1 T own c.n0 fn ex st=some (res,objs')):bodyPost P fn (fun e w'=>∃ v,e=.returned v∧Post c.w0 c.μ0 c.F0 c.n0 res objs' v w') (X2i ex) a w:=by
 have fin:∀ vs',Zt T st fn.results.toList=some vs'→J1t T own c.n0 fn.resultTypes.toList st vs'=(res,objs')→
     a.defers=[]∧∃ v,(results fn a.tmps).run P w=.ok v w∧∃ v',(Ending.returned v:Ending)=.returned v'∧Post c.w0 c.μ0 c.F0 c.n0 res objs' v' w:=fun vs' h1 h2=>by
  obtain⟨us,h3,h4⟩:=Q00 hT hi _ _ h1
  exact⟨hi.df,_,U1a h3,_,rfl,V10 (P:=P) hi h4 hfp h2⟩
 cases ex with
 | exit id=>simp[Z1] at hk
 | normal=>
   simp only[Z1] at hk
   split at hk
   ·rename_i vs' hvs
    exact fin vs' hvs (by simpa using hk)
   ·cases hk
 | ret=>
   simp only[Z1] at hk
   split at hk
   ·rename_i vs' hvs
    exact fin vs' hvs (by simpa using hk)
   ·cases hk
theorem U3b {P : Program} (hmo : P.follows .mixedOrders = true) {T : Tab} (hT : Q6 P T) {orc : Orc} (hO : Zd P orc) {own : Bool} {f : Nat} {fn : Func} (hf : P.funcs[f]? = some fn) (hn : (fn.name == "runtime.NumGoroutine") = false) {r0 cx cy : Code} {id d1 d2 : Nat} {ops : Array Oper} {o1 o2 : Oper} {t yt : Nat} {e : TypeId}
    (hb:fn.body=some (.seq r0 (.seq (.seq (.region id ops false) cx) cy))) (hops:ops=#[o1,o2]) (h1:o1.op=.move (.tmp 0)) (h1d:o1.dst=some d1) (h1g:o1.guard=none) (h2:o2.op=.binOp .eql t (.tmp d1) (.const (.slice none 0 0)) yt) (h2d:o2.dst=some d2) (h2g:o2.guard=none)
    (ht:P.underlying t=some (.slice e)) {args:List AV} (hok:(Up fn.ntmps (.seq r0 (.seq (.seq (.region id ops false) cx) cy))&&Nat.ble args.length fn.ntmps)=true)
    {res:List AV} {objs':List LObj} {x y:Res} {em:Bool} (h:U4l T orc (fun _ _ _=>.no) fn own 0 r0 (.seq cx cy) d1 d2 (J2 args [] fn.ntmps)=some (x,y,em)) (hy:y=(res,objs')) (hx:em=true→x=(res,objs')):SemF P f args [] res objs':=by
 refine⟨⟨fn,hf,by simpa using hn,by rw[hb];rfl⟩,fun w μ F vs hh hv=>?_⟩
 simp only[Bool.and_eq_true,Nat.ble_eq] at hok
 obtain⟨hok,hle⟩:=hok
 have hi:=Z21 hh hv hle
 simp only[Up,Bool.and_eq_true] at hok
 obtain⟨k0,⟨k1,k2⟩,k3⟩:=hok
 have hd1:d1 < fn.ntmps:=by
  rw[hops] at k1
  simp[h1d,h2d] at k1
  exact k1.1
 have hd2:d2 < fn.ntmps:=by
  rw[hops] at k1
  simp[h1d,h2d] at k1
  exact k1.2
 have hlpok:LpOk P ⟨w,J0p μ,F,μ,0,fn.ntmps⟩ (fun _ _ _=>.no):=fun bid body st ex st' h=>by simp[Tr.get] at h
 refine calls_of_wp hf hb (wp_seq (Vj hmo hT hO hlpok r0 1000000 _ _ _ _ w μ F k0 h hi ?_))
 intro ex st a w' μ' F' hi' hk
 cases ex with
 | exit id=>cases hk
 | ret=>cases hk
 | normal=>
   simp only at hk
   split at hk
   ·rename_i τ xs hxs
    have hv0:=hi'.tm 0
    rw[hxs] at hv0
    simp only[VRel] at hv0
    obtain⟨A,cap,hval,_,hAn,_⟩:=Qi.1 hv0
    have hk1:((evC T orc (fun _ _ _=>.no) (.seq cx cy) 1000000 ((st.put d1 (st.tm 0)).put d2 (.bool true)) fun e1 s1=>Z1 T own 0 fn e1 s1).bind fun x=>(evC T orc (fun _ _ _=>.no) (.seq cx cy) 1000000 ((st.put d1 (st.tm 0)).put d2 (.bool false)) fun e2 s2=>(Z1 T own 0 fn e2 s2)).bind fun y=>some (x,y,xs.isEmpty))=some (x,y,em):=by
     rw[J06,←hk]
     congr 1
     funext e1 s1
     cases Z1 T own 0 fn e1 s1 with
     | none=>rfl
     | some x=>
       simp only[Option.bind_some]
       rw[J06]
       congr 1
       funext e2 s2
       cases Z1 T own 0 fn e2 s2<;>rfl
    obtain⟨x',q1,q2⟩:=Option.bind_eq_some_iff.1 hk1
    obtain⟨y',q3,q4⟩:=Option.bind_eq_some_iff.1 q2
    simp only[Option.some.injEq,Prod.mk.injEq] at q4
    obtain⟨rfl,rfl,rfl⟩:=q4
    have hboth:evC T orc (fun _ _ _=>.no) (.seq cx cy) 1000000 ((st.put d1 (st.tm 0)).put d2 (.bool A.isNone)) (fun e2 s2=>Z1 T own 0 fn e2 s2)=some (res,objs'):=by
     cases hA:A.isNone with
     | true=>
       have:xs=[]:=hAn (by simpa using hA)
       rw[q1,hx (by rw[this];rfl)]
     | false=>rw[q3,hy]
    refine wp_seq (wp_seq (wp_region ?_))
    subst hops
    simp only[List.size_toArray,List.length_cons,List.length_nil,List.range_succ,List.range_zero,List.nil_append,List.cons_append,wpOps]
    simp only[Region.wanted,h1g,h2g,List.getElem?_toArray,List.getElem?_cons_zero,List.getElem?_cons_succ,if_true]
    have p1:=Z0o hi' (d:=some d1) (x:=st.tm 0) (v:=a.tmps.getD 0 undef) (fun t ht=>by cases ht;exact hd1) (hi'.tm 0)
    refine .inl ?_
    have hex1:(execOp a.eval o1).run P w'=.ok (.value (a.tmps.getD 0 undef)) w':=by simp[execOp,h1,Act.eval]
    show o1.upon P a _ _ ((execOp a.eval o1).run P w')
    rw[hex1,Oper.upon_value,h1d]
    refine .inl ?_
    have hev:(a.put (some d1) (a.tmps.getD 0 undef)).eval (.tmp d1)=.slice A xs.length cap:=by
     have hsz:d1 < a.tmps.size:=by rw[hi'.sz];exact hd1
     simp only[Act.eval,Act.put]
     rw[Array.getD_eq_getD_getElem?,Array.getElem?_setIfInBounds_self,if_pos hsz]
     exact hval
    have hrun:=J4z (P:=P) ht A xs.length cap (.tmp d1) (.const (.slice none 0 0)) w'
    have hex:(execOp (a.put (some d1) (a.tmps.getD 0 undef)).eval o2).run P w'=.ok (.value (.bool A.isNone)) w':=by
     have he2:(a.put (some d1) (a.tmps.getD 0 undef)).eval (.const (.slice none 0 0))=.slice none 0 0:=rfl
     simp only[execOp,h2,hev,he2]
     rw[Sem.run_bind,hrun]
     simp
    show o2.upon P _ _ _ ((execOp (a.put (some d1) (a.tmps.getD 0 undef)).eval o2).run P w')
    rw[hex,Oper.upon_value,h2d]
    have p2:=Z0o p1 (d:=some d2) (x:=.bool A.isNone) (v:=.bool A.isNone) (fun t ht=>by cases ht;exact hd2) (by simp[VRel])
    simp only[evC] at hboth
    refine Vj hmo hT hO hlpok cx 1000000 _ _ _ _ w' μ' F' k2 hboth p2 ?_
    intro ex' st'' a'' w'' μ'' F'' hi'' hk''
    cases ex' with
    | normal=>
      refine Vj hmo hT hO hlpok cy 1000000 _ _ _ _ w'' μ'' F'' k3 hk'' hi'' ?_
      intro ex' st'' a'' w'' μ'' F'' hi'' hk''
      exact X2j hT hi'' rfl hk''
    | exit id=>exact X2j hT hi'' rfl (show Z1 T own 0 fn (.exit id) st''=some (res,objs') from hk'')
    | ret=>exact X2j hT hi'' rfl (show Z1 T own 0 fn .ret st''=some (res,objs') from hk'')
   ·cases hk
theorem all_nil {α:Type} {p:α→Prop}:∀ x∈([]:List α),p x:=fun x h=>by cases h
theorem all_cons {α:Type} {p:α→Prop} {a:α} {l:List α} (h:p a) (hl:∀ x∈l,p x):∀ x∈a::l,p x:=fun x hx=>(List.mem_cons.1 hx).elim (fun e=>e▸h) (hl x)
structure OSpec where
 f:Nat
 sh:List Sh
 so:List ShO
 F:ShT sh→ShOT so→Tr Res
def OSpec.run (s:OSpec) (args:List AV) (objs:List LObj):Tr Res:=
 match Jb s.sh args with
 | some x=>(match Uo s.so objs with | some y=>s.F x y | none=>.no)
 | none=>.no
def OSpec.fits (s:OSpec) (args:List AV) (objs:List LObj):Bool:=(Jb s.sh args).isSome&&(Uo s.so objs).isSome
def orcO:List OSpec→Orc
 | [],_,_,_=>.no
 | s::ss,f,args,objs=>bif Nat.beq f s.f&&s.fits args objs then s.run args objs else orcO ss f args objs
def OSpec.Ok (P:Program) (s:OSpec):Prop:=∀ x y r,(s.F x y).get=some r→SemF P s.f (pack s.sh x) (Jy s.so y) r.1 r.2
theorem Z1x {P:Program}:∀ (ss:List OSpec),(∀ s∈ss,s.Ok P)→Zd P (orcO ss)
 | [],_,f,args,objs,res,objs',h=>by simp[orcO,Tr.get] at h
 | s::ss,hs,f,args,objs,res,objs',h=>by
   simp only[orcO] at h
   cases hc:(Nat.beq f s.f&&s.fits args objs) with
   | false=>
     rw[hc] at h
     exact Z1x ss (fun s hs'=>hs s (by simp[hs'])) f args objs res objs' h
   | true=>
     rw[hc] at h
     simp only[cond_true] at h
     simp only[Bool.and_eq_true] at hc
     have:=Nat.eq_of_beq_eq_true hc.1
     subst this
     unfold OSpec.run at h
     split at h
     ·rename_i x hx
      split at h
      ·rename_i y hy
       rw[Qc _ _ _ hx,Uv _ _ _ hy]
       exact hs s (by simp) x y _ h
      ·cases h
     ·cases h
def orcB (fs:List FSpec) (os:List OSpec):Orc:=fun f args objs=>bif fs.any (fun s=>Nat.beq f s.f) then Q1k fs f args objs else orcO os f args objs
theorem U0 {P:Program} {fs:List FSpec} {os:List OSpec} (h1:∀ s∈fs,s.Ok P) (h2:∀ s∈os,s.Ok P):Zd P (orcB fs os):=fun f args objs res objs' h=>by
 unfold orcB at h
 cases hs:fs.any (fun s=>Nat.beq f s.f) with
 | true=>rw[hs] at h;exact Q06 fs h1 _ _ _ _ _ h
 | false=>rw[hs] at h;exact Z1x os h2 _ _ _ _ _ h
theorem Vl:∀ (s:List Sh) (x:ShT s),(pack s x).length=s.length
 | [],_=>rfl
 | .d t a::r,x=>by simp[pack,Vl r x.2]
 | .row j::r,x=>by simp[pack,Vl r x]
 | .ptr j o::r,x=>by simp[pack,Vl r x]
 | .np::r,x=>by simp[pack,Vl r x]
 | .ns::r,x=>by simp[pack,Vl r x]
 | .undef::r,x=>by simp[pack,Vl r x]
 | .mp j::r,x=>by simp[pack,Vl r x]
 | .psl j n''::r,x=>by simp[pack,Vl r x]
 | .dead::r,x=>by simp[pack,Vl r x]
 | .fnp g ps::r,x=>by simp[pack,Vl r x]
 | .rowP j::r,x=>by simp[pack,Vl r x.2]
theorem X0a:∀ (s:List ShO) (x:ShOT s),(Jy s x).length=s.length
 | [],_=>rfl
 | .row t::r,x=>by simp[Jy,X0a r x.2]
 | .box cs::r,x=>by simp[Jy,X0a r x.2]
 | .map kt vt::r,x=>by simp[Jy,X0a r x.2]
 | .tbox E cs::r,x=>by simp[Jy,X0a r x.2]
theorem U4 {P : Program} (hmo : P.follows .mixedOrders = true) {T : Tab} (hT : Q6 P T) {orc : Orc} (hO : Zd P orc) (H : Hint) {d n0 : Nat} {S : X0f} {s : OSpec} {fn : Func} {c : Code} (hf : P.funcs[s.f]? = some fn) (hn : (fn.name == "runtime.NumGoroutine") = false) (hb : fn.body = some c)
    (hn0:s.so.length=n0) (hl:∀ x∈Jc c 1000000,Zc T orc H n0 d S x) (hd:d < 8) (hok:(Up fn.ntmps c&&Nat.ble s.sh.length fn.ntmps)=true)
    (h:∀ x y r,(s.F x y).get=some r→evC T orc (lpOf H n0 S) c 1000000 (J2 (pack s.sh x) (Jy s.so y) fn.ntmps) (Z1 T H.own n0 fn)=some r):s.Ok P:=fun x y r hxy=>by
 subst hn0
 have:=h x y r hxy
 rw[←X0a s.so y] at this hl
 exact Z3n hmo hT hO hf hn hb hl hd (by rw[Vl];exact hok) this
def OSpec.like (s:OSpec) (F:ShT s.sh→ShOT s.so→Tr Res):OSpec:={ f:=s.f,sh:=s.sh,so:=s.so,F:=F }
theorem Qe {P:Program} {s:OSpec} (h:s.Ok P) (F:ShT s.sh→ShOT s.so→Tr Res) (hF:∀ x y r,(F x y).get=some r→(s.F x y).get=some r):(s.like F).Ok P:=
 fun x y r hr=>h x y r (hF x y r hr)
def Q36 (f:Nat) (t:Ty) (bytes:Nat):OSpec:={ f:=f,sh:=[.d (.list t) false],so:=[],F:=fun(xs,_) _=>.on (fits (List.length xs) bytes) ([.rowA 0],[.row t xs]) }
theorem U20 {P:Program} {f0:Nat} {t:Ty} {bytes:Nat} (h:∀ xs:List t.den,fits xs.length bytes=true→SemF P f0 [.list t xs] [] [.rowA 0] [.row t xs]):(Q36 f0 t bytes).Ok P:=by
 intro x y r hr
 obtain⟨xs,_⟩:=x
 obtain⟨hc,he⟩:=Tr.get_on hr
 cases he
 exact h xs hc
structure CP where
 r0:Code
 cx:Code
 cy:Code
 ops:Array Oper
 id:Nat
def cC:Code→CP
 | .seq r0 (.seq (.seq (.region id ops _) cx) cy)=>⟨r0,cx,cy,ops,id⟩
 | c=>⟨c,c,c,#[],0⟩
def hOwn (H:Hint):Hint:={ keep:=H.keep,keepX:=H.keepX,own:=true }
theorem U6 {T:Tab} {orc:Orc} {H:Hint} {n0 d:Nat} {L:LoopSpec} {Ls:List LoopSpec} {body:Code} (h:L.Ok T orc H n0 d body):Zc T orc H n0 d (lsOf (L::Ls)) (L.bid,body):=by
 intro n hn vs os ex vs' os' hS
 refine J2s h n hn vs os ex vs' os' ?_
 simp only[lsOf,Nat.beq_refl,cond_true] at hS ⊢
 exact hS
theorem Q2d {T:Tab} {orc:Orc} {H:Hint} {n0 d:Nat} {L:LoopSpec} {Ls:List LoopSpec} {bid:Nat} {body:Code} (hb:Nat.beq bid L.bid=false) (h:Zc T orc H n0 d (lsOf Ls) (bid,body)):Zc T orc H n0 d (lsOf (L::Ls)) (bid,body):=by
 intro n hn vs os ex vs' os' hS
 refine h n hn vs os ex vs' os' ?_
 simp only[lsOf,hb,cond_false] at hS
 exact hS
theorem U5 {T:Tab} {orc:Orc} {H:Hint} {n0 d:Nat} {S:X0f} {c:Code} {xs:List (Nat×Code)} (h:Jc c 1000000=xs) (hx:∀ x∈xs,Zc T orc H n0 d S x):∀ x∈Jc c 1000000,Zc T orc H n0 d S x:=by
 rw[h]
 exact hx
def Tr.all {α:Type} (P:α→Prop):Tr α→Prop
 | .no=>False
 | .ret a=>P a
 | .br c x y=>(c=true→x.all P)∧(c=false→y.all P)
theorem Tr.all_get {α:Type} {P:α→Prop}:∀ {t:Tr α},t.all P→∃ a,t.get=some a∧P a
 | .no,h=>h.elim
 | .ret a,h=>⟨a,rfl,h⟩
 | .br c x y,h=>by
   cases c with
   | true=>obtain⟨a,h1,h2⟩:=Tr.all_get (t:=x) (h.1 rfl);exact⟨a,h1,h2⟩
   | false=>obtain⟨a,h1,h2⟩:=Tr.all_get (t:=y) (h.2 rfl);exact⟨a,h1,h2⟩
theorem Tr.all_mono {α:Type} {P Q:α→Prop} (hPQ:∀ a,P a→Q a):∀ {t:Tr α},t.all P→t.all Q
 | .no,h=>h
 | .ret a,h=>hPQ a h
 | .br c x y,h=>⟨fun hc=>Tr.all_mono hPQ (h.1 hc),fun hc=>Tr.all_mono hPQ (h.2 hc)⟩
theorem Tr.all_br {α:Type} {P:α→Prop} {c:Bool} {x y:Tr α} (hx:c=true→x.all P) (hy:c=false→y.all P):(Tr.br c x y).all P:=⟨hx,hy⟩
theorem Tr.all_t {α:Type} {P:α→Prop} {c:Bool} {x y:Tr α} (hc:c=true) (hx:x.all P):(Tr.br c x y).all P:=⟨fun _=>hx,fun h=>(by rw[hc] at h;cases h)⟩
theorem Tr.all_f {α:Type} {P:α→Prop} {c:Bool} {x y:Tr α} (hc:c=false) (hy:y.all P):(Tr.br c x y).all P:=⟨fun h=>(by rw[hc] at h;cases h),fun _=>hy⟩
theorem Tr.all_ret {α:Type} {P:α→Prop} {a:α} (h:P a):(Tr.ret a).all P:=h
theorem Tr.get_of_all {α:Type} {t:Tr α} {a:α} (h:t.all fun x=>x=a):t.get=some a:=by
 obtain⟨x,h1,h2⟩:=Tr.all_get h
 rw[h1,h2]
theorem Q5 {α:Type} {F:St→Option (St⊕(Ex×St))} (mk:α→St) (I:α→Prop) (m:α→Nat) (r:Ex×St) (t:α→Tr (St⊕(Ex×St))) (hF:∀ a x,(t a).get=some x→F (mk a)=some x)
    (h:∀ a,I a→(t a).all fun x=>x=.inr r∨∃ a',x=.inl (mk a')∧I a'∧m a' < m a):∀ a,I a→Z4 F (mk a)=some r:=
 Z4z mk I m r fun a ha=>by
  obtain⟨x,h1,h2⟩:=Tr.all_get (h a ha)
  rw[hF a x h1]
  rcases h2 with rfl | ⟨a',rfl,h3⟩
  ·exact .inl rfl
  ·exact .inr ⟨a',rfl,h3⟩
theorem Z56 {T:Tab} {orc:Orc} {H:Hint} {n0 d d':Nat} {L:LoopSpec} {body:Code} (hd:d≤d') (h:L.Ok T orc H n0 d body):L.Ok T orc H n0 d' body:=fun n hn=>h n (by omega)
theorem Z3u {T:Tab} {orc:Orc} {H:Hint} {n0 d:Nat} {S:X0f} {c:Code} {bid:Nat} {xs:List (Nat×Code)} (h:Jc c bid=xs) (hx:∀ x∈xs,Zc T orc H n0 d S x):∀ x∈Jc c bid,Zc T orc H n0 d S x:=by
 rw[h]
 exact hx
def J1i (outs:List (Ty×Bool)):Tr Res→Tr (Dens outs)
 | .no=>.no
 | .ret r=>bif r.2.isEmpty&&aggs outs r.1 then (match X0h outs r.1 with | some y=>.ret y | none=>.no) else .no
 | .br c x y=>.br c (J1i outs x) (J1i outs y)
theorem Z16 {outs:List (Ty×Bool)} {y:Dens outs}:∀ {t:Tr Res},(J1i outs t).get=some y→∃ vs,t.get=some (vs,[])∧aggs outs vs=true∧X0h outs vs=some y
 | .no,h=>by cases h
 | .ret r,h=>by
   obtain⟨vs,os⟩:=r
   simp only[J1i] at h
   cases hb:(os.isEmpty&&aggs outs vs) with
   | false=>rw[hb] at h;cases h
   | true=>
     rw[hb,cond_true] at h
     simp only[Bool.and_eq_true,List.isEmpty_iff] at hb
     obtain⟨rfl,ha⟩:=hb
     cases hy:X0h outs vs with
     | none=>rw[hy] at h;cases h
     | some y'=>
       rw[hy] at h
       cases h
       exact⟨vs,rfl,ha,hy⟩
 | .br c a b,h=>by
   cases c with
   | true=>obtain⟨vs,h1,h2⟩:=Z16 (t:=a) h;exact⟨vs,h1,h2⟩
   | false=>obtain⟨vs,h1,h2⟩:=Z16 (t:=b) h;exact⟨vs,h1,h2⟩
def fsT (f:Nat) (ins outs:List (Ty×Bool)) (t:Dens ins→Tr Res):FSpec:={ f:=f,ins:=ins,outs:=outs,F:=fun x=>J1i outs (t x) }
theorem V5 {P:Program} {f:Nat} {ins outs:List (Ty×Bool)} {t:Dens ins→Tr Res} (h:∀ x r,(t x).get=some r→SemF P f (X02 ins x) [] r.1 r.2):(fsT f ins outs t).Ok P:=by
 intro x y hy
 obtain⟨vs,h1,h2,h3⟩:=Z16 hy
 exact J4j h2 h3 (h x _ h1)
theorem X3 {outs:List (Ty×Bool)} {vs:List AV} {y:Dens outs} (ha:aggs outs vs=true) (hy:X0h outs vs=some y):∀ {t:Tr Res},t.get=some (vs,[])→(J1i outs t).get=some y
 | .no,h=>by cases h
 | .ret r,h=>by
   cases h
   simp only[J1i,List.isEmpty_nil,ha,Bool.and_true,cond_true,hy]
   rfl
 | .br c a b,h=>by
   cases c with
   | true=>exact X3 ha hy (t:=a) h
   | false=>exact X3 ha hy (t:=b) h
def FSpec.like (s:FSpec) (F:Dens s.ins→Tr (Dens s.outs)):FSpec:={ f:=s.f,ins:=s.ins,outs:=s.outs,F:=F }
theorem Q3 {P:Program} {s:FSpec} (h:s.Ok P) (F:Dens s.ins→Tr (Dens s.outs)) (hF:∀ x y,(F x).get=some y→(s.F x).get=some y):(s.like F).Ok P:=
 fun x y hy=>h x y (hF x y hy)
def Tr.on2 {α:Type} (c c2:Bool) (a b:α):Tr α:=.br c (.br c2 (.ret a) (.ret b)) .no
theorem Tr.get_on2 {α:Type} {c c2:Bool} {a b r:α} (h:(Tr.on2 c c2 a b).get=some r):c=true∧(bif c2 then a else b)=r:=by
 cases c with
 | false=>cases h
 | true=>cases c2<;>cases h<;>exact⟨rfl,rfl⟩
theorem X46 {P:Program} {f:Nat} {args:List AV} {τ:Ty} {xs:List τ.den} {n:Nat} (h:SemF P f args [] [.rowS 0 0 n false] [.row τ xs]):SemF P f args [] [.rowA 0] [.row τ (xs.take n)]:=by
 refine⟨h.1,fun w μ F vs hh hv=>(h.2 w μ F vs hh hv).mono ?_⟩
 rintro e w' ⟨v,rfl,μ',F',h1,h2,h3,h4,h5,h6⟩
 refine⟨v,rfl,?_⟩
 simp only[Ua,VRel] at h1
 obtain⟨a,len,cap,sz,A,cap',hμ,hle,hcap,rfl,hA⟩:=h1
 have ho:=h2.obj 0 (by simp)
 rw[hμ] at ho
 simp only[ofHp,List.getElem?_cons_zero,Option.getD_some,ORel] at ho
 obtain⟨hs,hl,hlc,ha,hb⟩:=ho
 have hcap:cap'=cap:=by simpa using hcap
 subst hcap
 have hown:(Pl.row a n cap' sz).owns=(μ' 0).owns:=by rw[hμ];cases a<;>rfl
 have hself:∀ j,(Xi μ' 0 (.row a n cap' sz) j).owns=(μ' j).owns:=fun j=>by
  by_cases hj:j=0
  ·subst hj;rw[Zb,hown]
  ·rw[Va hj]
 refine⟨Xi μ' 0 (.row a n cap' sz),F',?_,⟨fun k hk=>?_,fun k hk=>?_,fun k k' b x y=>h2.one k k' b (by rw[←hself];exact x) (by rw[←hself];exact y),fun k b x=>h2.out k b (by rw[←hself];exact x),h2.inn⟩,⟨h3.os,h3.tape,h3.output,h3.size,h3.keep,h3.old,h3.newF,fun k b x=>h3.newO k b (by rw[←hself];exact x)⟩,by simp,fun k b hk=>by simp at hk,fun k b hk=>by simp at hk⟩
 ·simp only[Ua,VRel]
  refine⟨a,n,cap',sz,A,Zb _ _ _,rfl,fun hc=>?_⟩
  obtain⟨b,o,rfl,rfl⟩:=hA hc
  simp[Jt]
 ·have hk0:k=0:=by simpa using hk
  subst hk0
  rw[Zb]
  simp only[ofHp,List.getElem?_cons_zero,Option.getD_some,ORel]
  refine⟨hs,by rw[List.length_take];omega,by omega,ha,fun b o hbo hc=>?_⟩
  obtain⟨us,E,fz,g1,g2,g3,g4,g5⟩:=hb b o hbo hc
  exact⟨us,E,fz,g1,g2,g3,fun i x hx=>g4 i x (by
   rw[List.getElem?_take] at hx
   split at hx
   ·exact hx
   ·cases hx),g5⟩
 ·have hk:1≤k:=by simpa using hk
  rw[Va (by omega)]
  exact h2.top k (by simpa using hk)
def V3w:List LoopSpec→List AV→List LObj→Tr (Ex×List AV×List LObj)
 | [],_,_=>.no
 | L::Ls,vs,os=>bif (Jb L.sh vs).isSome then L.run vs os else V3w Ls vs os
def lsOr (b:Nat) (Ls:List LoopSpec):X0f:=fun bid vs os=>bif Nat.beq bid b then V3w Ls vs os else .no
theorem ls_or {T:Tab} {orc:Orc} {H:Hint} {n0 d b:Nat} {Ls:List LoopSpec} {body:Code} (h:∀ L∈Ls,L.bid=b∧L.Ok T orc H n0 d body):Zc T orc H n0 d (lsOr b Ls) (b,body):=by
 intro n hn vs os ex vs' os' hS
 unfold lsOr at hS
 simp only[Nat.beq_refl,cond_true] at hS
 induction Ls with
 | nil=>cases hS
 | cons L Ls ih=>
   simp only[V3w] at hS
   cases hu:(Jb L.sh vs).isSome with
   | false=>rw[hu,cond_false] at hS;exact ih (fun L hl=>h L (by simp[hl])) hS
   | true=>
     rw[hu,cond_true] at hS
     obtain⟨hb,hok⟩:=h L (by simp)
     subst hb
     refine J2s hok n hn vs os ex vs' os' ?_
     simp only[lsOf,Nat.beq_refl,cond_true]
     exact hS
def t116 (s:List UInt8) (at_ many:Int):Tr Res:=.br (decide (at_ < 0)) (.ret ([.str [],.int .i64 0,.int .i64 2],[])) (.br (decide (many < 0)) (.ret ([.str [],.int .i64 0,.int .i64 2],[])) (.br (decide (at_ > (↑s.length:Int))) (.ret ([.str [],.int .i64 0,.int .i64 2],[])) (.br (decide (many > IntKind.wrap .i64 ((↑s.length:Int) - at_))) (.ret ([.str [],.int .i64 0,.int .i64 2],[])) (.br (decide (0≤IntKind.wrap .i64 (at_+many))&&decide (IntKind.wrap .i64 (at_+many)≤(↑s.length:Int))) (.br (decide (0≤at_)&&decide (at_≤IntKind.wrap .i64 (at_+many))) (.ret ([.str (List.take (Int.toNat (IntKind.wrap .i64 (at_+many)) - Int.toNat at_) (List.drop at_.toNat s)),.int .i64 (IntKind.wrap .i64 (at_+many)),.int .i64 0],[])) .no) .no))))
def os116:OSpec:={ f:=116,sh:=[.d .str false,.d (.int .i64) false,.d (.int .i64) false],so:=[],F:=fun(s,at_,many,_) _=>t116 s at_ many }
theorem fn116 (s:List UInt8) (at_ many:Int):evC T0 (orcB [] []) (lpOf h116 0 (lsOf [])) c116 1000000 (J2 [.str s,.int .i64 at_,.int .i64 many] [] Try.f116.ntmps) (Z1 T0 false 0 Try.f116)=(t116 s at_ many).get:=by kernel_rfl
theorem ok116:os116.Ok Try.prog:=by
 refine U4 J3 tab0 (U0 all_nil all_nil) h116 (d:=0) (n0:=0) (S:=lsOf []) Try.func116 (by kernel_rfl) (c:=c116) (by kernel_rfl) rfl (V3 (by kernel_rfl)) (by omega) (by kernel_rfl) ?_
 intro x'' y'' q'' hq''
 obtain⟨(s:List UInt8),(at_:Int),(many:Int),_⟩:=x''
 exact(fn116 s at_ many).trans hq''
def V5k:FSpec:=fsT 116 [(.str,false),((.int .i64),false),((.int .i64),false)] [(.str,false),((.int .i64),false),((.int .i64),false)] fun(s,at_,many,_)=>t116 s at_ many
theorem U5n:V5k.Ok Try.prog:=V5 fun x'' r'' hr''=>ok116 x'' () r'' hr''
def t153 (c:Int):Tr Res:=.br (decide (c≥65)) (.br (decide (c≤90)) (.ret ([.int .u8 (IntKind.wrap .u8 (c+32))],[])) (.ret ([.int .u8 c],[]))) (.ret ([.int .u8 c],[]))
def os153:OSpec:={ f:=153,sh:=[.d (.int .u8) false],so:=[],F:=fun(c,_) _=>t153 c }
theorem fn153 (c:Int):evC T0 (orcB [] []) (lpOf h153 0 (lsOf [])) c153 1000000 (J2 [.int .u8 c] [] Try.f153.ntmps) (Z1 T0 false 0 Try.f153)=(t153 c).get:=by kernel_rfl
theorem ok153:os153.Ok Try.prog:=by
 refine U4 J3 tab0 (U0 all_nil all_nil) h153 (d:=0) (n0:=0) (S:=lsOf []) Try.func153 (by kernel_rfl) (c:=c153) (by kernel_rfl) rfl (V3 (by kernel_rfl)) (by omega) (by kernel_rfl) ?_
 intro x'' y'' q'' hq''
 obtain⟨(c:Int),_⟩:=x''
 exact(fn153 c).trans hq''
def Z1q:FSpec:=fsT 153 [((.int .u8),false)] [((.int .u8),false)] fun(c,_)=>t153 c
theorem V62:Z1q.Ok Try.prog:=V5 fun x'' r'' hr''=>ok153 x'' () r'' hr''
def t129 (n:Int):Tr Res:=.ret ([.str [UInt8.ofNat (Int.toNat (IntKind.wrap .u8 (IntKind.wrap .u16 (Int.tdiv n 256)))),UInt8.ofNat (Int.toNat (IntKind.wrap .u8 (Int.tmod n 256)))]],[])
def os129:OSpec:={ f:=129,sh:=[.d (.int .u16) false],so:=[],F:=fun(n,_) _=>t129 n }
theorem fn129 (n:Int):evC T0 (orcB [] []) (lpOf h129 0 (lsOf [])) c129 1000000 (J2 [.int .u16 n] [] Try.f129.ntmps) (Z1 T0 false 0 Try.f129)=(t129 n).get:=by kernel_rfl
theorem ok129:os129.Ok Try.prog:=by
 refine U4 J3 tab0 (U0 all_nil all_nil) h129 (d:=0) (n0:=0) (S:=lsOf []) Try.func129 (by kernel_rfl) (c:=c129) (by kernel_rfl) rfl (V3 (by kernel_rfl)) (by omega) (by kernel_rfl) ?_
 intro x'' y'' q'' hq''
 obtain⟨(n:Int),_⟩:=x''
 exact(fn129 n).trans hq''
def X5m:FSpec:=fsT 129 [((.int .u16),false)] [(.str,false)] fun(n,_)=>t129 n
theorem X5v:X5m.Ok Try.prog:=V5 fun x'' r'' hr''=>ok129 x'' () r'' hr''
def lowI (c:Int):Int:=bif decide (c≥65)&&decide (c≤90) then c+32 else c
def lowB (c:UInt8):UInt8:=bif decide (c.toNat≥65)&&decide (c.toNat≤90) then UInt8.ofNat (c.toNat+32) else c
def J5 (s:List UInt8):List UInt8:=s.map lowB
def Q7 (b:List Int):Bool:=b.all fun x=>decide (0≤x)&&decide (x≤255)
theorem V2q {b:List Int} (h:Q7 b=true) (i:Nat):0≤b.getD i 0∧b.getD i 0≤255:=by
 rw[List.getD_eq_getElem?_getD]
 cases hx:b[i]? with
 | none=>simp
 | some x=>
   have:=List.all_eq_true.1 h x (List.mem_of_getElem? hx)
   simpa using this
theorem Z4p {α:Type} (l:List α) (i:Nat) (dd:α) (h:i < l.length):l.set i (l.getD i dd)=l:=by
 rw[List.getD_eq_getElem?_getD,List.getElem?_eq_getElem h]
 exact List.set_getElem_self h
theorem wrap_u8 {n:Int} (h0:0≤n) (h1:n≤255):IntKind.wrap .u8 n=n:=by
 rw[IntKind.wrap]
 simp[IntKind.bits,IntKind.signed]
 omega
def fdC (n i:Int) (b:List Int):Bool:=decide (i=0)&&decide (n=b.length)&&Q7 b&&decide (b.length≤1000000000000)
noncomputable def b91:Code:=X5 c91 0
def ls91:LoopSpec:={ bid:=0,sh:=[.row 0,.row 0,.d (.int .i64) false,.d (.int .i64) false],so:=[.row (.int .u8)],F:=fun(n,i,_) (b,_)=>.on (fdC n i b) (.exit 0,[.rowA 0],[.row (.int .u8) (b.map lowI)]) }
def r91 (n i:Int) (b:List Int):Tr (St⊕(Ex×St)):=.br (decide (i < n)) (.br (decide (0≤i)) (.br (decide (i < (↑b.length:Int))) (.br (decide (b.getD i.toNat (Ty.dflt (Ty.int .u8))≥65)) (.br (decide (b.getD i.toNat (Ty.dflt (Ty.int .u8))≤90)) (.br (decide (0≤i)) (.br (decide (i < (↑b.length:Int))) (.ret (.inl (stOf [3,8,9,10] [.rowA 0,.rowA 0,.int .i64 n,.int .i64 (IntKind.wrap .i64 (i+1))] [.row (.int .u8) (List.set b i.toNat (IntKind.wrap .u8 (b.getD i.toNat (Ty.dflt (Ty.int .u8))+32)))]))) .no) .no) (.ret (.inl (stOf [3,8,9,10] [.rowA 0,.rowA 0,.int .i64 n,.int .i64 (IntKind.wrap .i64 (i+1))] [.row (.int .u8) b])))) (.ret (.inl (stOf [3,8,9,10] [.rowA 0,.rowA 0,.int .i64 n,.int .i64 (IntKind.wrap .i64 (i+1))] [.row (.int .u8) b])))) .no) .no) (.ret (.inr (.exit 0,stOf [3] [.rowA 0] [.row (.int .u8) b])))
theorem U4v (orc:Orc) (lp:Lp) (n i:Int) (b:List Int):evC T0 orc lp b91 0 (stOf [3,8,9,10] [.rowA 0,.rowA 0,.int .i64 n,.int .i64 i] [.row (.int .u8) b]) (V1 [3,8,9,10] [3] 0)=(r91 n i b).get:=by kernel_rfl
theorem wf91 (orc:Orc) (n:Int) (I'':Int→List Int→Prop) (m'':Int→List Int→Nat) (r'':Ex×St) (h:∀ (i:Int) (b:List Int),I'' i b→(r91 n i b).all fun x''=>x''=.inr r''∨∃ (i':Int) (b':List Int),x''=.inl (stOf [3,8,9,10] [.rowA 0,.rowA 0,.int .i64 n,.int .i64 i'] [.row (.int .u8) b'])∧I'' i' b'∧m'' i' b' < m'' i b) (lp:Lp) (i:Int) (b:List Int):I'' i b→
    Z4 (fun st=>evC T0 orc lp b91 0 st (V1 [3,8,9,10] [3] 0)) (stOf [3,8,9,10] [.rowA 0,.rowA 0,.int .i64 n,.int .i64 i] [.row (.int .u8) b])=some r'':=
 Q5 (fun a'':Int×List Int=>stOf [3,8,9,10] [.rowA 0,.rowA 0,.int .i64 n,.int .i64 a''.1] [.row (.int .u8) a''.2]) (fun a''=>I'' a''.1 a''.2) (fun a''=>m'' a''.1 a''.2) r'' (fun a''=>r91 n a''.1 a''.2)
  (fun a'' x hx=>(U4v orc lp n a''.1 a''.2).trans hx) (fun a'' ha=>Tr.all_mono (fun x'' hx=>hx.imp id fun⟨i',b',h1,h2,h3⟩=>⟨(i',b'),h1,h2,h3⟩) (h (a''.1) (a''.2) ha)) (i,b)
def fdI (b0:List Int) (i:Int) (b:List Int):Prop:=0≤i∧i≤b0.length∧b=(b0.take i.toNat).map lowI++b0.drop i.toNat
theorem Z3d {b0:List Int} {i:Nat} (hi:i < b0.length):((b0.take i).map lowI++b0.drop i).set i (lowI (b0.getD i 0))=(b0.take (i+1)).map lowI++b0.drop (i+1):=by
 have hl:((b0.take i).map lowI).length=i:=by simp;omega
 rw[List.set_append_right _ _ (by omega),hl,Nat.sub_self,Jm b0 i 0 hi,List.set_cons_zero,List.take_add_one,List.map_append,List.append_assoc]
 rw[List.getD_eq_getElem?_getD,List.getElem?_eq_getElem hi]
 rfl
theorem Z3z {b0:List Int} {i:Nat} (hi:i < b0.length) (dd:Int):((b0.take i).map lowI++b0.drop i).getD i dd=b0.getD i 0:=by
 have hl:((b0.take i).map lowI).length=i:=by simp;omega
 rw[List.getD_eq_getElem?_getD,List.getElem?_append_right (by omega),hl,Nat.sub_self,List.getElem?_drop,List.getD_eq_getElem?_getD,Nat.add_zero,List.getElem?_eq_getElem hi]
 rfl
theorem X60 (orc:Orc):ls91.Ok T0 orc h91 0 0 b91:=by
 intro q'' hq'' x'' y'' r'' h
 obtain⟨(n:Int),(i:Int),_⟩:=x''
 obtain⟨(b:List Int),_⟩:=y''
 obtain⟨hc,rfl⟩:=Tr.get_on h
 show Z4 (fun st=>evC T0 orc (lpN T0 orc h91 0 q'') b91 0 st (V1 [3,8,9,10] [3] 0)) (stOf [3,8,9,10] [.rowA 0,.rowA 0,.int .i64 n,.int .i64 i] [.row (.int .u8) b])=some (.exit 0,stOf [3] ([.rowA 0]) ([.row (.int .u8) (b.map lowI)]))
 simp only[fdC,Bool.and_eq_true,decide_eq_true_eq] at hc
 obtain⟨⟨⟨rfl,rfl⟩,hok⟩,hb⟩:=hc
 refine wf91 _ b.length (fdI b) (fun i _=>(b.length - i).toNat) _ ?_ _ 0 b ⟨by omega,by omega,by simp⟩
 rintro i c ⟨h0,h1,rfl⟩
 unfold r91
 by_cases hlt:i < b.length
 ·have hn:i.toNat < b.length:=by omega
  have hlen:(i:Int) < (((b.take i.toNat).map lowI++b.drop i.toNat).length:Int):=by simp;omega
  have e1:(i+1).toNat=i.toNat+1:=by omega
  obtain⟨g0,g1⟩:=V2q hok i.toNat
  rw[Z3z hn]
  refine Tr.all_t (J0 hlt) (Tr.all_t (J0 h0) (Tr.all_t (J0 hlen) ?_))
  have hsame:lowI (b.getD i.toNat 0)=b.getD i.toNat 0→(b.take i.toNat).map lowI++b.drop i.toNat=(b.take (i.toNat+1)).map lowI++b.drop (i.toNat+1):=fun h=>by
   rw[←Z3d hn,h,←Z3z hn 0]
   exact(Z4p _ _ _ (by simp;omega)).symm
  refine Tr.all_br (fun c1=>Tr.all_br (fun c2=>?_) fun c2=>?_) fun c1=>?_
  ·refine Tr.all_t (J0 h0) (Tr.all_t (J0 hlen) (Tr.all_ret (.inr ⟨_,_,rfl,?_,?_⟩)))
   ·have q1:=of_decide_eq_true c1
    have q2:=of_decide_eq_true c2
    simp (disch:=omega) only[IntWalk.i64_in,wrap_u8]
    refine⟨by omega,by omega,?_⟩
    rw[e1,←Z3d hn]
    congr 1
    unfold lowI
    rw[c1,c2]
    rfl
   ·simp (disch:=omega) only[IntWalk.i64_in]
    omega
  ·refine Tr.all_ret (.inr ⟨_,_,rfl,?_,?_⟩)
   ·simp (disch:=omega) only[IntWalk.i64_in]
    refine⟨by omega,by omega,?_⟩
    rw[e1]
    refine hsame ?_
    simp only[lowI,c2,Bool.and_false,cond_false]
   ·simp (disch:=omega) only[IntWalk.i64_in]
    omega
  ·refine Tr.all_ret (.inr ⟨_,_,rfl,?_,?_⟩)
   ·simp (disch:=omega) only[IntWalk.i64_in]
    refine⟨by omega,by omega,?_⟩
    rw[e1]
    refine hsame ?_
    simp only[lowI,c1,Bool.false_and,cond_false]
   ·simp (disch:=omega) only[IntWalk.i64_in]
    omega
 ·refine Tr.all_f (J1 hlt) (Tr.all_ret (.inl ?_))
  rw[List.take_of_length_le (by omega),List.drop_of_length_le (by omega),List.append_nil]
def t91 (s:List UInt8):Tr Res:=.br (fits s.length 1) (.br (fdC (↑(List.length (Z0 s)):Int) 0 (Z0 s)) (.ret ([.str (X0 (List.map lowI (Z0 s)))],[])) .no) .no
def os91:OSpec:={ f:=91,sh:=[.d .str false],so:=[],F:=fun(s,_) _=>t91 s }
theorem fn91 (s:List UInt8):evC T0 (orcB [] []) (lpOf h91 0 (lsOf [ls91])) c91 1000000 (J2 [.str s] [] Try.f91.ntmps) (Z1 T0 false 0 Try.f91)=(t91 s).get:=by kernel_rfl
theorem ok91:os91.Ok Try.prog:=by
 refine U4 J3 tab0 (U0 all_nil all_nil) h91 (d:=0) (n0:=0) (S:=lsOf [ls91]) Try.func91 (by kernel_rfl) (c:=c91) (by kernel_rfl) rfl (U5 (xs:=[(0,b91)]) (by kernel_rfl) (all_cons (U6 (X60 _)) all_nil)) (by omega) (by kernel_rfl) ?_
 intro x'' y'' q'' hq''
 obtain⟨(s:List UInt8),_⟩:=x''
 exact(fn91 s).trans hq''
def fs91:FSpec:=fsT 91 [(.str,false)] [(.str,false)] fun(s,_)=>t91 s
theorem okf91:fs91.Ok Try.prog:=V5 fun x'' r'' hr''=>ok91 x'' () r'' hr''
def rfC (i:Int) (s:List UInt8) (b:List Int):Bool:=decide (i=0)&&b.isEmpty&&decide (s.length≤1000000000000)
noncomputable def b145:Code:=X5 c145 0
def J4f:LoopSpec:={ bid:=0,sh:=[.d .str false,.row 0,.d (.int .i64) false],so:=[.row (.int .u8)],F:=fun(s,i,_) (b,_)=>.on (rfC i s b) (.exit 0,[.rowA 0],[.row (.int .u8) ((Z0 s).map lowI)]) }
def r145 (s:List UInt8) (i:Int) (b:List Int):Tr (St⊕(Ex×St)):=.br (decide (i < (↑s.length:Int))) (.br (decide (0≤i)) (.br (decide (i < (↑s.length:Int))) (.br (decide ((↑(UInt8.toNat (s.getD i.toNat 0)):Int)≥65)) (.br (decide ((↑(UInt8.toNat (s.getD i.toNat 0)):Int)≤90)) (.br (fits (List.length b+1) 1) (.ret (.inl (stOf [0,3,4] [.str s,.rowA 0,.int .i64 (IntKind.wrap .i64 (i+1))] [.row (.int .u8) (b++[IntKind.wrap .u8 ((↑(UInt8.toNat (s.getD i.toNat 0)):Int)+32)])]))) .no) (.br (fits (List.length b+1) 1) (.ret (.inl (stOf [0,3,4] [.str s,.rowA 0,.int .i64 (IntKind.wrap .i64 (i+1))] [.row (.int .u8) (b++[(↑(UInt8.toNat (s.getD i.toNat 0)):Int)])]))) .no)) (.br (fits (List.length b+1) 1) (.ret (.inl (stOf [0,3,4] [.str s,.rowA 0,.int .i64 (IntKind.wrap .i64 (i+1))] [.row (.int .u8) (b++[(↑(UInt8.toNat (s.getD i.toNat 0)):Int)])]))) .no)) .no) .no) (.ret (.inr (.exit 0,stOf [3] [.rowA 0] [.row (.int .u8) b])))
theorem Q3w (lp:Lp) (s:List UInt8) (i:Int) (b:List Int):evC T0 (orcB [Z1q] []) lp b145 0 (stOf [0,3,4] [.str s,.rowA 0,.int .i64 i] [.row (.int .u8) b]) (V1 [0,3,4] [3] 0)=(r145 s i b).get:=by kernel_rfl
theorem wf145 (s:List UInt8) (I'':Int→List Int→Prop) (m'':Int→List Int→Nat) (r'':Ex×St) (h:∀ (i:Int) (b:List Int),I'' i b→(r145 s i b).all fun x''=>x''=.inr r''∨∃ (i':Int) (b':List Int),x''=.inl (stOf [0,3,4] [.str s,.rowA 0,.int .i64 i'] [.row (.int .u8) b'])∧I'' i' b'∧m'' i' b' < m'' i b) (lp:Lp) (i:Int) (b:List Int):I'' i b→
    Z4 (fun st=>evC T0 (orcB [Z1q] []) lp b145 0 st (V1 [0,3,4] [3] 0)) (stOf [0,3,4] [.str s,.rowA 0,.int .i64 i] [.row (.int .u8) b])=some r'':=
 Q5 (fun a'':Int×List Int=>stOf [0,3,4] [.str s,.rowA 0,.int .i64 a''.1] [.row (.int .u8) a''.2]) (fun a''=>I'' a''.1 a''.2) (fun a''=>m'' a''.1 a''.2) r'' (fun a''=>r145 s a''.1 a''.2)
  (fun a'' x hx=>(Q3w lp s a''.1 a''.2).trans hx) (fun a'' ha=>Tr.all_mono (fun x'' hx=>hx.imp id fun⟨i',b',h1,h2,h3⟩=>⟨(i',b'),h1,h2,h3⟩) (h (a''.1) (a''.2) ha)) (i,b)
def rfI (s:List UInt8) (i:Int) (b:List Int):Prop:=0≤i∧i≤s.length∧b=(Z0 (s.take i.toNat)).map lowI
theorem U51 {s:List UInt8} {i:Nat} (hi:i < s.length):(Z0 (s.take (i+1))).map lowI=(Z0 (s.take i)).map lowI++[lowI ((s.getD i 0).toNat:Int)]:=by
 rw[List.take_add_one,List.getD_eq_getElem?_getD,List.getElem?_eq_getElem hi,Z0,Z0,List.map_append,List.map_append]
 rfl
theorem Z06 (c:UInt8):0≤(c.toNat:Int)∧(c.toNat:Int)≤255:=by
 have:=c.toNat_lt
 omega
theorem V4z:J4f.Ok T0 (orcB [Z1q] []) h145 0 0 b145:=by
 intro q'' hq'' x'' y'' r'' h
 obtain⟨(s:List UInt8),(i:Int),_⟩:=x''
 obtain⟨(b:List Int),_⟩:=y''
 obtain⟨hc,rfl⟩:=Tr.get_on h
 show Z4 (fun st=>evC T0 (orcB [Z1q] []) (lpN T0 (orcB [Z1q] []) h145 0 q'') b145 0 st (V1 [0,3,4] [3] 0)) (stOf [0,3,4] [.str s,.rowA 0,.int .i64 i] [.row (.int .u8) b])=some (.exit 0,stOf [3] ([.rowA 0]) ([.row (.int .u8) ((Z0 s).map lowI)]))
 simp only[rfC,Bool.and_eq_true,decide_eq_true_eq,List.isEmpty_iff] at hc
 obtain⟨⟨rfl,rfl⟩,hb⟩:=hc
 refine wf145 s (rfI s) (fun i _=>(s.length - i).toNat) _ ?_ _ 0 [] ⟨by omega,by omega,by simp[Z0]⟩
 rintro i b ⟨h0,h1,rfl⟩
 unfold r145
 by_cases hlt:i < s.length
 ·have hn:i.toNat < s.length:=by omega
  have hlen:((Z0 (s.take i.toNat)).map lowI).length=i.toNat:=by simp[Z0];omega
  have e1:(i+1).toNat=i.toNat+1:=by omega
  have hf:fits (((Z0 (s.take i.toNat)).map lowI).length+1) 1=true:=U7 (by omega) (by omega)
  obtain⟨g0,g1⟩:=Z06 (s.getD i.toNat 0)
  have hst:=U51 hn
  have key:∀ x:Int,x=lowI ((s.getD i.toNat 0).toNat:Int)→(Tr.ret (Sum.inl (stOf [0,3,4] [AV.str s,AV.rowA 0,AV.int .i64 (IntKind.wrap .i64 (i+(1:Int)))] [LObj.row (Ty.int .u8) ((Z0 (s.take i.toNat)).map lowI++[x])])):Tr (St⊕(Ex×St))).all fun x''=>x''=.inr (.exit 0,stOf [3] [.rowA 0] [.row (.int .u8) ((Z0 s).map lowI)]) ∨
      ∃ (i':Int) (b':List Int),x''=.inl (stOf [0,3,4] [.str s,.rowA 0,.int .i64 i'] [.row (.int .u8) b'])∧rfI s i' b'∧(s.length - i').toNat < (s.length - i).toNat:=fun x hx=>by
   refine Tr.all_ret (.inr ⟨_,_,rfl,?_,?_⟩)
   ·simp (disch:=omega) only[IntWalk.i64_in]
    exact⟨by omega,by omega,by rw[e1,hst,hx]⟩
   ·simp (disch:=omega) only[IntWalk.i64_in]
    omega
  refine Tr.all_t (J0 hlt) (Tr.all_t (J0 h0) (Tr.all_t (J0 hlt) (Tr.all_br (fun c1=>Tr.all_br (fun c2=>Tr.all_t hf (key _ ?_)) fun c2=>Tr.all_t hf (key _ ?_)) fun c1=>Tr.all_t hf (key _ ?_))))
  ·have q2:=of_decide_eq_true c2
   rw[IntWalk.u8_in _ (by omega)]
   unfold lowI
   rw[c1,c2]
   rfl
  ·unfold lowI
   rw[c1,c2]
   rfl
  ·unfold lowI
   rw[c1]
   rfl
 ·refine Tr.all_f (J1 hlt) (Tr.all_ret (.inl ?_))
  rw[List.take_of_length_le (by omega)]
def t145 (s:List UInt8):Tr Res:=.br (rfC 0 s []) (.ret ([.str (X0 (List.map lowI (Z0 s)))],[])) .no
def os145:OSpec:={ f:=145,sh:=[.d .str false],so:=[],F:=fun(s,_) _=>t145 s }
theorem fn145 (s:List UInt8):evC T0 (orcB [Z1q] []) (lpOf h145 0 (lsOf [J4f])) c145 1000000 (J2 [.str s] [] Try.f145.ntmps) (Z1 T0 false 0 Try.f145)=(t145 s).get:=by kernel_rfl
theorem ok145:os145.Ok Try.prog:=by
 refine U4 J3 tab0 (U0 (all_cons V62 all_nil) all_nil) h145 (d:=0) (n0:=0) (S:=lsOf [J4f]) Try.func145 (by kernel_rfl) (c:=c145) (by kernel_rfl) rfl (U5 (xs:=[(0,b145)]) (by kernel_rfl) (all_cons (U6 V4z) all_nil)) (by omega) (by kernel_rfl) ?_
 intro x'' y'' q'' hq''
 obtain⟨(s:List UInt8),_⟩:=x''
 exact(fn145 s).trans hq''
def Q5j:FSpec:=fsT 145 [(.str,false)] [(.str,false)] fun(s,_)=>t145 s
theorem U63:Q5j.Ok Try.prog:=V5 fun x'' r'' hr''=>ok145 x'' () r'' hr''
theorem Q3c (s:List UInt8):X0 ((Z0 s).map lowI)=J5 s:=by
 simp only[X0,Z0,J5,List.map_map]
 refine List.map_congr_left fun c _=>?_
 simp only[Function.comp,lowI,lowB]
 have hlt:=c.toNat_lt
 by_cases h:c.toNat≥65∧c.toNat≤90
 ·rw[show (decide ((c.toNat:Int)≥65)&&decide ((c.toNat:Int)≤90))=true by simp;omega,show (decide (c.toNat≥65)&&decide (c.toNat≤90))=true by simp;omega,cond_true,cond_true]
  congr 1
 ·rw[show (decide ((c.toNat:Int)≥65)&&decide ((c.toNat:Int)≤90))=false by simp;omega,show (decide (c.toNat≥65)&&decide (c.toNat≤90))=false by simp;omega,cond_false,cond_false]
  simp
def bigS (s:List UInt8):Bool:=decide (s.length≤1000000000000)
theorem J4 (s:List UInt8):(Z0 s).length=s.length:=by simp[Z0]
theorem Zf (s:List UInt8):Q7 (Z0 s)=true:=by
 refine List.all_eq_true.2 fun x hx=>?_
 obtain⟨c,_,rfl⟩:=List.mem_map.1 hx
 have:=Z06 c
 simp only[Bool.and_eq_true,decide_eq_true_eq]
 exact this
def Q0e:FSpec:=fs91.like fun(s,_)=>.on (bigS s) (J5 s,())
theorem V4d:Q0e.Ok Try.prog:=by
 refine Q3 okf91 _ ?_
 rintro⟨(s:List UInt8),_⟩ y h
 obtain⟨hc,rfl⟩:=Tr.get_on h
 simp only[bigS,decide_eq_true_eq] at hc
 refine X3 (vs:=[.str (J5 s)]) rfl rfl (Tr.get_of_all ?_)
 show (t91 s).all _
 refine Tr.all_t (U7 (by omega) (by omega)) (Tr.all_t ?_ (Tr.all_ret ?_))
 ·simp only[fdC,J4,Zf,decide_true,Bool.true_and,Bool.and_true]
  exact J0 hc
 ·rw[Q3c]
def Q4m:FSpec:=Q5j.like fun(s,_)=>.on (bigS s) (J5 s,())
theorem Q55:Q4m.Ok Try.prog:=by
 refine Q3 U63 _ ?_
 rintro⟨(s:List UInt8),_⟩ y h
 obtain⟨hc,rfl⟩:=Tr.get_on h
 simp only[bigS,decide_eq_true_eq] at hc
 refine X3 (vs:=[.str (J5 s)]) rfl rfl (Tr.get_of_all ?_)
 show (t145 s).all _
 refine Tr.all_t ?_ (Tr.all_ret ?_)
 ·simp only[rfC,List.isEmpty_nil,decide_true,Bool.true_and]
  exact J0 hc
 ·rw[Q3c]
def Z3 (s:List UInt8) (at_ many:Int):Bool:=decide (0≤at_)&&(decide (0≤many)&&decide (at_+many≤s.length))
def U2 (s:List UInt8) (at_ many:Int):List UInt8:=(s.drop at_.toNat).take many.toNat
def Vk:FSpec:=V5k.like fun(s,at_,many,_)=>.br (bigS s) (.br (Z3 s at_ many) (.ret (U2 s at_ many,at_+many,(0:Int),())) (.ret (([]:List UInt8),(0:Int),(2:Int),()))) .no
theorem X11:Vk.Ok Try.prog:=by
 refine Q3 U5n _ ?_
 rintro⟨(s:List UInt8),(at_:Int),(many:Int),_⟩ y h
 simp only[Tr.get] at h
 cases hb:bigS s with
 | false=>rw[hb] at h;cases h
 | true=>
   rw[hb,cond_true] at h
   simp only[bigS,decide_eq_true_eq] at hb
   cases hs:Z3 s at_ many with
   | true=>
     rw[hs,cond_true] at h
     cases h
     simp only[Z3,Bool.and_eq_true,decide_eq_true_eq] at hs
     obtain⟨h0,h1,h2⟩:=hs
     refine X3 (vs:=[.str (U2 s at_ many),.int .i64 (at_+many),.int .i64 0]) rfl rfl (Tr.get_of_all ?_)
     show (t116 s at_ many).all _
     unfold t116
     simp (disch:=omega) only[IntWalk.i64_in]
     refine Tr.all_f (J1 (by omega)) (Tr.all_f (J1 (by omega)) (Tr.all_f (J1 (by omega)) (Tr.all_f (J1 (by omega)) (Tr.all_t ?_ (Tr.all_t ?_ (Tr.all_ret ?_))))))
     ·rw[J0 (by omega),J0 (by omega)];rfl
     ·rw[J0 (by omega),J0 (by omega)];rfl
     ·rw[show Int.toNat (at_+many) - Int.toNat at_=many.toNat by omega]
      rfl
   | false=>
     rw[hs,cond_false] at h
     cases h
     refine X3 (vs:=[.str [],.int .i64 0,.int .i64 2]) rfl rfl (Tr.get_of_all ?_)
     show (t116 s at_ many).all _
     unfold t116
     have hn:¬ (0≤at_∧0≤many∧at_+many≤s.length):=fun⟨a,b,c⟩=>by
      simp[Z3,a,b,c] at hs
     refine Tr.all_br (fun _=>Tr.all_ret rfl) fun c1=>Tr.all_br (fun _=>Tr.all_ret rfl) fun c2=>Tr.all_br (fun _=>Tr.all_ret rfl) fun c3=>Tr.all_br (fun _=>Tr.all_ret rfl) fun c4=>?_
     simp only[decide_eq_false_iff_not] at c1 c2 c3
     rw[IntWalk.i64_in _ (by omega)] at c4
     simp only[decide_eq_false_iff_not] at c4
     exact absurd ⟨by omega,by omega,by omega⟩ hn
def U27 (n:Int) (c:UInt8):Int:=IntKind.wrap IntKind.u32 (↑(BitVec.toNat (BitVec.ofInt (IntKind.bits IntKind.u32) (IntKind.wrap IntKind.u32 (n * (2:Int) ^ min (Int.toNat (8:Int)) (IntKind.bits IntKind.u32))) ||| BitVec.ofInt (IntKind.bits IntKind.u32) (IntKind.wrap IntKind.u32 (↑(UInt8.toNat c):Int)))):Int)
theorem Q1i {n:Nat} (hn:n < 65536) (c:UInt8):U27 n c=((n * 256+c.toNat:Nat):Int):=by
 have hc:=c.toNat_lt
 have e1:((n:Int) * (2:Int) ^ min (Int.toNat (8:Int)) (IntKind.bits IntKind.u32))=((n * 256:Nat):Int):=by
  simp[IntKind.bits]
 have e2:∀ m:Nat,m < 4294967296→BitVec.ofInt (IntKind.bits IntKind.u32) (m:Int)=BitVec.ofNat 32 m:=fun m _=>by
  simp[IntKind.bits,BitVec.ofInt_natCast]
 unfold U27
 rw[e1,IntWalk.u32_in ((n * 256:Nat):Int) (by omega),IntWalk.u32_in ((c.toNat:Nat):Int) (by omega)]
 have e3:BitVec.toNat (BitVec.ofInt (IntKind.bits IntKind.u32) ((n * 256:Nat):Int) ||| BitVec.ofInt (IntKind.bits IntKind.u32) ((c.toNat:Nat):Int))=n * 256+c.toNat:=by
  show BitVec.toNat (BitVec.ofInt 32 ((n * 256:Nat):Int) ||| BitVec.ofInt 32 ((c.toNat:Nat):Int))=_
  rw[BitVec.ofInt_natCast,BitVec.ofInt_natCast,BitVec.toNat_or,BitVec.toNat_ofNat,BitVec.toNat_ofNat,Nat.mod_eq_of_lt (by omega),Nat.mod_eq_of_lt (by omega)]
  have:=Nat.shiftLeft_add_eq_or_of_lt (a:=n) (b:=c.toNat) (i:=8) (by omega)
  rw[Nat.shiftLeft_eq] at this
  exact this.symm
 rw[e3,IntWalk.u32_in _ (by omega)]
def numB:List UInt8→Int:=fun b=>((b.foldl (fun n c=>n * 256+c.toNat) 0:Nat):Int)
def nbC (b:List UInt8) (n len i:Int):Bool:=decide (n=0)&&decide (i=0)&&decide (len=b.length)&&decide (b.length≤2)
def nbI (b:List UInt8) (n i:Int):Prop:=0≤i∧i≤b.length∧n=numB (b.take i.toNat)
theorem V3c {b:List UInt8} {i:Nat} (hi:i < b.length) (h2:b.length≤2):U27 (numB (b.take i)) (b.getD i 0)=numB (b.take (i+1)):=by
 rw[List.take_add_one,List.getElem?_eq_getElem hi,List.getD_eq_getElem?_getD,List.getElem?_eq_getElem hi]
 match b,i,hi,h2 with
 | [x],0,_,_=>
   have:=Q1i (n:=0) (by omega) x
   simpa[numB] using this
 | [x,y],0,_,_=>
   have:=Q1i (n:=0) (by omega) x
   simpa[numB] using this
 | [x,y],1,_,_=>
   have hx:=x.toNat_lt
   have:=Q1i (n:=x.toNat) (by omega) y
   simpa[numB] using this
 | _::_::_::_,_,_,h=>simp at h
noncomputable def b150:Code:=X5 c150 0
def Z4a:LoopSpec:={ bid:=0,sh:=[.d .str false,.d (.int .i64) false,.d (.int .i64) false,.d (.int .u32) false,.d (.int .i64) false,.d (.int .i64) false],so:=[],F:=fun(b,nx,e,n,len,i,_) _=>.on (nbC b n len i) (.exit 0,[.int .i64 nx,.int .i64 e,.int .u32 (numB b)],[]) }
def r150 (b:List UInt8) (nx e n len i:Int):Tr (St⊕(Ex×St)):=.br (decide (i < len)) (.br (decide (0≤i)) (.br (decide (i < (↑b.length:Int))) (.ret (.inl (stOf [9,10,11,12,23,24] [.str b,.int .i64 nx,.int .i64 e,.int .u32 (IntKind.wrap .u32 (↑(BitVec.toNat (BitVec.ofInt (IntKind.bits IntKind.u32) (IntKind.wrap .u32 (n * 2 ^ min (Int.toNat 8) (IntKind.bits IntKind.u32))) ||| BitVec.ofInt (IntKind.bits IntKind.u32) (IntKind.wrap .u32 (↑(UInt8.toNat (b.getD i.toNat 0)):Int)))):Int)),.int .i64 len,.int .i64 (IntKind.wrap .i64 (i+1))] []))) .no) .no) (.ret (.inr (.exit 0,stOf [10,11,12] [.int .i64 nx,.int .i64 e,.int .u32 n] [])))
theorem Z43 (orc:Orc) (lp:Lp) (b:List UInt8) (nx e n len i:Int):evC T0 orc lp b150 0 (stOf [9,10,11,12,23,24] [.str b,.int .i64 nx,.int .i64 e,.int .u32 n,.int .i64 len,.int .i64 i] []) (V1 [9,10,11,12,23,24] [10,11,12] 0)=(r150 b nx e n len i).get:=by kernel_rfl
theorem wf150 (orc:Orc) (b:List UInt8) (nx e len:Int) (I'':Int→Int→Prop) (m'':Int→Int→Nat) (r'':Ex×St) (h:∀ (n i:Int),I'' n i→(r150 b nx e n len i).all fun x''=>x''=.inr r''∨∃ (n' i':Int),x''=.inl (stOf [9,10,11,12,23,24] [.str b,.int .i64 nx,.int .i64 e,.int .u32 n',.int .i64 len,.int .i64 i'] [])∧I'' n' i'∧m'' n' i' < m'' n i) (lp:Lp) (n i:Int):I'' n i→
    Z4 (fun st=>evC T0 orc lp b150 0 st (V1 [9,10,11,12,23,24] [10,11,12] 0)) (stOf [9,10,11,12,23,24] [.str b,.int .i64 nx,.int .i64 e,.int .u32 n,.int .i64 len,.int .i64 i] [])=some r'':=
 Q5 (fun a'':Int×Int=>stOf [9,10,11,12,23,24] [.str b,.int .i64 nx,.int .i64 e,.int .u32 a''.1,.int .i64 len,.int .i64 a''.2] []) (fun a''=>I'' a''.1 a''.2) (fun a''=>m'' a''.1 a''.2) r'' (fun a''=>r150 b nx e a''.1 len a''.2)
  (fun a'' x hx=>(Z43 orc lp b nx e a''.1 len a''.2).trans hx) (fun a'' ha=>Tr.all_mono (fun x'' hx=>hx.imp id fun⟨n',i',h1,h2,h3⟩=>⟨(n',i'),h1,h2,h3⟩) (h (a''.1) (a''.2) ha)) (n,i)
theorem V4y (orc:Orc):Z4a.Ok T0 orc h150 0 0 b150:=by
 intro q'' hq'' x'' y'' r'' h
 obtain⟨(b:List UInt8),(nx:Int),(e:Int),(n:Int),(len:Int),(i:Int),_⟩:=x''
 obtain⟨hc,rfl⟩:=Tr.get_on h
 show Z4 (fun st=>evC T0 orc (lpN T0 orc h150 0 q'') b150 0 st (V1 [9,10,11,12,23,24] [10,11,12] 0)) (stOf [9,10,11,12,23,24] [.str b,.int .i64 nx,.int .i64 e,.int .u32 n,.int .i64 len,.int .i64 i] [])=some (.exit 0,stOf [10,11,12] ([.int .i64 nx,.int .i64 e,.int .u32 (numB b)]) ([]))
 simp only[nbC,Bool.and_eq_true,decide_eq_true_eq] at hc
 obtain⟨⟨⟨rfl,rfl⟩,rfl⟩,h2⟩:=hc
 refine wf150 _ b nx e b.length (nbI b) (fun _ i=>(b.length - i).toNat) _ ?_ _ 0 0 ⟨by omega,by omega,by simp[numB]⟩
 rintro n i ⟨h0,h1,rfl⟩
 unfold r150
 by_cases hlt:i < b.length
 ·refine Tr.all_t (J0 hlt) (Tr.all_t (J0 h0) (Tr.all_t (J0 hlt) (Tr.all_ret (.inr ⟨_,_,rfl,?_,?_⟩))))
  ·rw[IntWalk.i64_in _ (by omega)]
   exact⟨by omega,by omega,by rw[show (i+1).toNat=i.toNat+1 by omega];exact V3c (by omega) h2⟩
  ·rw[IntWalk.i64_in _ (by omega)]
   omega
 ·refine Tr.all_f (J1 hlt) (Tr.all_ret (.inl ?_))
  rw[List.take_of_length_le (by omega)]
noncomputable def b112:Code:=X5 c112 0
def V3z:LoopSpec:={ bid:=0,sh:=[.d .str false,.d (.int .i64) false,.d (.int .i64) false,.d (.int .u32) false,.d (.int .i64) false,.d (.int .i64) false],so:=[],F:=fun(b,nx,e,n,len,i,_) _=>.on (nbC b n len i) (.exit 0,[.int .i64 nx,.int .i64 e,.int .u32 (numB b)],[]) }
def r112 (b:List UInt8) (nx e n len i:Int):Tr (St⊕(Ex×St)):=.br (decide (i < len)) (.br (decide (0≤i)) (.br (decide (i < (↑b.length:Int))) (.ret (.inl (stOf [9,10,11,12,23,24] [.str b,.int .i64 nx,.int .i64 e,.int .u32 (IntKind.wrap .u32 (↑(BitVec.toNat (BitVec.ofInt (IntKind.bits IntKind.u32) (IntKind.wrap .u32 (n * 2 ^ min (Int.toNat 8) (IntKind.bits IntKind.u32))) ||| BitVec.ofInt (IntKind.bits IntKind.u32) (IntKind.wrap .u32 (↑(UInt8.toNat (b.getD i.toNat 0)):Int)))):Int)),.int .i64 len,.int .i64 (IntKind.wrap .i64 (i+1))] []))) .no) .no) (.ret (.inr (.exit 0,stOf [10,11,12] [.int .i64 nx,.int .i64 e,.int .u32 n] [])))
theorem Q3y (orc:Orc) (lp:Lp) (b:List UInt8) (nx e n len i:Int):evC T0 orc lp b112 0 (stOf [9,10,11,12,23,24] [.str b,.int .i64 nx,.int .i64 e,.int .u32 n,.int .i64 len,.int .i64 i] []) (V1 [9,10,11,12,23,24] [10,11,12] 0)=(r112 b nx e n len i).get:=by kernel_rfl
theorem wf112 (orc:Orc) (b:List UInt8) (nx e len:Int) (I'':Int→Int→Prop) (m'':Int→Int→Nat) (r'':Ex×St) (h:∀ (n i:Int),I'' n i→(r112 b nx e n len i).all fun x''=>x''=.inr r''∨∃ (n' i':Int),x''=.inl (stOf [9,10,11,12,23,24] [.str b,.int .i64 nx,.int .i64 e,.int .u32 n',.int .i64 len,.int .i64 i'] [])∧I'' n' i'∧m'' n' i' < m'' n i) (lp:Lp) (n i:Int):I'' n i→
    Z4 (fun st=>evC T0 orc lp b112 0 st (V1 [9,10,11,12,23,24] [10,11,12] 0)) (stOf [9,10,11,12,23,24] [.str b,.int .i64 nx,.int .i64 e,.int .u32 n,.int .i64 len,.int .i64 i] [])=some r'':=
 Q5 (fun a'':Int×Int=>stOf [9,10,11,12,23,24] [.str b,.int .i64 nx,.int .i64 e,.int .u32 a''.1,.int .i64 len,.int .i64 a''.2] []) (fun a''=>I'' a''.1 a''.2) (fun a''=>m'' a''.1 a''.2) r'' (fun a''=>r112 b nx e a''.1 len a''.2)
  (fun a'' x hx=>(Q3y orc lp b nx e a''.1 len a''.2).trans hx) (fun a'' ha=>Tr.all_mono (fun x'' hx=>hx.imp id fun⟨n',i',h1,h2,h3⟩=>⟨(n',i'),h1,h2,h3⟩) (h (a''.1) (a''.2) ha)) (n,i)
theorem Z52 (orc:Orc):V3z.Ok T0 orc h112 0 0 b112:=by
 intro q'' hq'' x'' y'' r'' h
 obtain⟨(b:List UInt8),(nx:Int),(e:Int),(n:Int),(len:Int),(i:Int),_⟩:=x''
 obtain⟨hc,rfl⟩:=Tr.get_on h
 show Z4 (fun st=>evC T0 orc (lpN T0 orc h112 0 q'') b112 0 st (V1 [9,10,11,12,23,24] [10,11,12] 0)) (stOf [9,10,11,12,23,24] [.str b,.int .i64 nx,.int .i64 e,.int .u32 n,.int .i64 len,.int .i64 i] [])=some (.exit 0,stOf [10,11,12] ([.int .i64 nx,.int .i64 e,.int .u32 (numB b)]) ([]))
 simp only[nbC,Bool.and_eq_true,decide_eq_true_eq] at hc
 obtain⟨⟨⟨rfl,rfl⟩,rfl⟩,h2⟩:=hc
 refine wf112 _ b nx e b.length (nbI b) (fun _ i=>(b.length - i).toNat) _ ?_ _ 0 0 ⟨by omega,by omega,by simp[numB]⟩
 rintro n i ⟨h0,h1,rfl⟩
 unfold r112
 by_cases hlt:i < b.length
 ·refine Tr.all_t (J0 hlt) (Tr.all_t (J0 h0) (Tr.all_t (J0 hlt) (Tr.all_ret (.inr ⟨_,_,rfl,?_,?_⟩))))
  ·rw[IntWalk.i64_in _ (by omega)]
   exact⟨by omega,by omega,by rw[show (i+1).toNat=i.toNat+1 by omega];exact V3c (by omega) h2⟩
  ·rw[IntWalk.i64_in _ (by omega)]
   omega
 ·refine Tr.all_f (J1 hlt) (Tr.all_ret (.inl ?_))
  rw[List.take_of_length_le (by omega)]
def t150 (s:List UInt8) (at_ many:Int):Tr Res:=.br (bigS s) (.br (Z3 s at_ many) (.br (nbC (U2 s at_ many) 0 (↑(List.length (U2 s at_ many)):Int) 0) (.ret ([.int .u8 (IntKind.wrap .u8 (numB (U2 s at_ many))),.int .i64 (at_+many),.int .i64 0],[])) .no) (.ret ([.int .u8 (IntKind.wrap .u8 (numB [])),.int .i64 0,.int .i64 2],[]))) .no
def os150:OSpec:={ f:=150,sh:=[.d .str false,.d (.int .i64) false,.d (.int .i64) false],so:=[],F:=fun(s,at_,many,_) _=>t150 s at_ many }
theorem fn150 (s:List UInt8) (at_ many:Int):evC T0 (orcB [Vk] []) (lpOf h150 0 (lsOf [Z4a])) c150 1000000 (J2 [.str s,.int .i64 at_,.int .i64 many] [] Try.f150.ntmps) (Z1 T0 false 0 Try.f150)=(t150 s at_ many).get:=by kernel_rfl
theorem ok150:os150.Ok Try.prog:=by
 refine U4 J3 tab0 (U0 (all_cons X11 all_nil) all_nil) h150 (d:=0) (n0:=0) (S:=lsOf [Z4a]) Try.func150 (by kernel_rfl) (c:=c150) (by kernel_rfl) rfl (U5 (xs:=[(0,b150)]) (by kernel_rfl) (all_cons (U6 (V4y _)) all_nil)) (by omega) (by kernel_rfl) ?_
 intro x'' y'' q'' hq''
 obtain⟨(s:List UInt8),(at_:Int),(many:Int),_⟩:=x''
 exact(fn150 s at_ many).trans hq''
def Q4p:FSpec:=fsT 150 [(.str,false),((.int .i64),false),((.int .i64),false)] [((.int .u8),false),((.int .i64),false),((.int .i64),false)] fun(s,at_,many,_)=>t150 s at_ many
theorem X4i:Q4p.Ok Try.prog:=V5 fun x'' r'' hr''=>ok150 x'' () r'' hr''
def t112 (s:List UInt8) (at_ many:Int):Tr Res:=.br (bigS s) (.br (Z3 s at_ many) (.br (nbC (U2 s at_ many) 0 (↑(List.length (U2 s at_ many)):Int) 0) (.ret ([.int .u16 (IntKind.wrap .u16 (numB (U2 s at_ many))),.int .i64 (at_+many),.int .i64 0],[])) .no) (.ret ([.int .u16 (IntKind.wrap .u16 (numB [])),.int .i64 0,.int .i64 2],[]))) .no
def os112:OSpec:={ f:=112,sh:=[.d .str false,.d (.int .i64) false,.d (.int .i64) false],so:=[],F:=fun(s,at_,many,_) _=>t112 s at_ many }
theorem fn112 (s:List UInt8) (at_ many:Int):evC T0 (orcB [Vk] []) (lpOf h112 0 (lsOf [V3z])) c112 1000000 (J2 [.str s,.int .i64 at_,.int .i64 many] [] Try.f112.ntmps) (Z1 T0 false 0 Try.f112)=(t112 s at_ many).get:=by kernel_rfl
theorem ok112:os112.Ok Try.prog:=by
 refine U4 J3 tab0 (U0 (all_cons X11 all_nil) all_nil) h112 (d:=0) (n0:=0) (S:=lsOf [V3z]) Try.func112 (by kernel_rfl) (c:=c112) (by kernel_rfl) rfl (U5 (xs:=[(0,b112)]) (by kernel_rfl) (all_cons (U6 (Z52 _)) all_nil)) (by omega) (by kernel_rfl) ?_
 intro x'' y'' q'' hq''
 obtain⟨(s:List UInt8),(at_:Int),(many:Int),_⟩:=x''
 exact(fn112 s at_ many).trans hq''
def Z4h:FSpec:=fsT 112 [(.str,false),((.int .i64),false),((.int .i64),false)] [((.int .u16),false),((.int .i64),false),((.int .i64),false)] fun(s,at_,many,_)=>t112 s at_ many
theorem X3t:Z4h.Ok Try.prog:=V5 fun x'' r'' hr''=>ok112 x'' () r'' hr''
def t133 (s:List UInt8) (at_:Int):Tr Res:=.br (bigS s) (.br (Z3 s at_ 1) (.br (nbC (U2 s at_ 1) 0 (↑(List.length (U2 s at_ 1)):Int) 0) (.ret ([.int .u8 (IntKind.wrap .u8 (numB (U2 s at_ 1))),.int .i64 (at_+1),.int .i64 0],[])) .no) (.ret ([.int .u8 (IntKind.wrap .u8 (numB [])),.int .i64 0,.int .i64 2],[]))) .no
def os133:OSpec:={ f:=133,sh:=[.d .str false,.d (.int .i64) false],so:=[],F:=fun(s,at_,_) _=>t133 s at_ }
theorem fn133 (s:List UInt8) (at_:Int):evC T0 (orcB [Q4p,Z4h] []) (lpOf h133 0 (lsOf [])) c133 1000000 (J2 [.str s,.int .i64 at_] [] Try.f133.ntmps) (Z1 T0 false 0 Try.f133)=(t133 s at_).get:=by kernel_rfl
theorem ok133:os133.Ok Try.prog:=by
 refine U4 J3 tab0 (U0 (all_cons X4i (all_cons X3t all_nil)) all_nil) h133 (d:=0) (n0:=0) (S:=lsOf []) Try.func133 (by kernel_rfl) (c:=c133) (by kernel_rfl) rfl (V3 (by kernel_rfl)) (by omega) (by kernel_rfl) ?_
 intro x'' y'' q'' hq''
 obtain⟨(s:List UInt8),(at_:Int),_⟩:=x''
 exact(fn133 s at_).trans hq''
def J5e:FSpec:=fsT 133 [(.str,false),((.int .i64),false)] [((.int .u8),false),((.int .i64),false),((.int .i64),false)] fun(s,at_,_)=>t133 s at_
theorem V5r:J5e.Ok Try.prog:=V5 fun x'' r'' hr''=>ok133 x'' () r'' hr''
def t84 (s:List UInt8) (at_:Int):Tr Res:=.br (bigS s) (.br (Z3 s at_ 2) (.br (nbC (U2 s at_ 2) 0 (↑(List.length (U2 s at_ 2)):Int) 0) (.ret ([.int .u16 (IntKind.wrap .u16 (numB (U2 s at_ 2))),.int .i64 (at_+2),.int .i64 0],[])) .no) (.ret ([.int .u16 (IntKind.wrap .u16 (numB [])),.int .i64 0,.int .i64 2],[]))) .no
def os84:OSpec:={ f:=84,sh:=[.d .str false,.d (.int .i64) false],so:=[],F:=fun(s,at_,_) _=>t84 s at_ }
theorem fn84 (s:List UInt8) (at_:Int):evC T0 (orcB [Q4p,Z4h] []) (lpOf h84 0 (lsOf [])) c84 1000000 (J2 [.str s,.int .i64 at_] [] Try.f84.ntmps) (Z1 T0 false 0 Try.f84)=(t84 s at_).get:=by kernel_rfl
theorem ok84:os84.Ok Try.prog:=by
 refine U4 J3 tab0 (U0 (all_cons X4i (all_cons X3t all_nil)) all_nil) h84 (d:=0) (n0:=0) (S:=lsOf []) Try.func84 (by kernel_rfl) (c:=c84) (by kernel_rfl) rfl (V3 (by kernel_rfl)) (by omega) (by kernel_rfl) ?_
 intro x'' y'' q'' hq''
 obtain⟨(s:List UInt8),(at_:Int),_⟩:=x''
 exact(fn84 s at_).trans hq''
def fs84:FSpec:=fsT 84 [(.str,false),((.int .i64),false)] [((.int .u16),false),((.int .i64),false),((.int .i64),false)] fun(s,at_,_)=>t84 s at_
theorem okf84:fs84.Ok Try.prog:=V5 fun x'' r'' hr''=>ok84 x'' () r'' hr''
def n16 (s:List UInt8) (at_:Int):Int:=(s.getD at_.toNat 0).toNat * 256+(s.getD (at_.toNat+1) 0).toNat
theorem some1 {s:List UInt8} {at_:Int} (h:Z3 s at_ 1=true):U2 s at_ 1=[s.getD at_.toNat 0]:=by
 simp only[Z3,Bool.and_eq_true,decide_eq_true_eq] at h
 unfold U2
 rw[Jm s at_.toNat 0 (by omega)]
 rfl
theorem some2 {s:List UInt8} {at_:Int} (h:Z3 s at_ 2=true):U2 s at_ 2=[s.getD at_.toNat 0,s.getD (at_.toNat+1) 0]:=by
 simp only[Z3,Bool.and_eq_true,decide_eq_true_eq] at h
 unfold U2
 rw[Jm s at_.toNat 0 (by omega),Jm s (at_.toNat+1) 0 (by omega)]
 rfl
def V03:FSpec:=J5e.like fun(s,at_,_)=>.br (bigS s) (.br (Z3 s at_ 1) (.ret (((s.getD at_.toNat 0).toNat:Int),at_+1,(0:Int),())) (.ret ((0:Int),(0:Int),(2:Int),()))) .no
theorem V56:V03.Ok Try.prog:=by
 refine Q3 V5r _ ?_
 rintro⟨(s:List UInt8),(at_:Int),_⟩ y h
 simp only[Tr.get] at h
 cases hb:bigS s with
 | false=>rw[hb] at h;cases h
 | true=>
   rw[hb,cond_true] at h
   cases hs:Z3 s at_ 1 with
   | true=>
     rw[hs,cond_true] at h
     cases h
     have hc:=Z06 (s.getD at_.toNat 0)
     refine X3 (vs:=[.int .u8 ((s.getD at_.toNat 0).toNat:Int),.int .i64 (at_+1),.int .i64 0]) rfl rfl (Tr.get_of_all ?_)
     show (t133 s at_).all _
     unfold t133
     refine Tr.all_t hb (Tr.all_t hs ?_)
     rw[some1 hs]
     refine Tr.all_t (by simp[nbC]) (Tr.all_ret ?_)
     rw[show numB [s.getD at_.toNat 0]=((s.getD at_.toNat 0).toNat:Int) by simp[numB],IntWalk.u8_in _ hc]
   | false=>
     rw[hs,cond_false] at h
     cases h
     refine X3 (vs:=[.int .u8 0,.int .i64 0,.int .i64 2]) rfl rfl (Tr.get_of_all ?_)
     show (t133 s at_).all _
     exact Tr.all_t hb (Tr.all_f hs (Tr.all_ret rfl))
def Ur:FSpec:=fs84.like fun(s,at_,_)=>.br (bigS s) (.br (Z3 s at_ 2) (.ret (n16 s at_,at_+2,(0:Int),())) (.ret ((0:Int),(0:Int),(2:Int),()))) .no
theorem V1x:Ur.Ok Try.prog:=by
 refine Q3 okf84 _ ?_
 rintro⟨(s:List UInt8),(at_:Int),_⟩ y h
 simp only[Tr.get] at h
 cases hb:bigS s with
 | false=>rw[hb] at h;cases h
 | true=>
   rw[hb,cond_true] at h
   cases hs:Z3 s at_ 2 with
   | true=>
     rw[hs,cond_true] at h
     cases h
     have hc:=Z06 (s.getD at_.toNat 0)
     have hd:=Z06 (s.getD (at_.toNat+1) 0)
     refine X3 (vs:=[.int .u16 (n16 s at_),.int .i64 (at_+2),.int .i64 0]) rfl rfl (Tr.get_of_all ?_)
     show (t84 s at_).all _
     unfold t84
     refine Tr.all_t hb (Tr.all_t hs ?_)
     rw[some2 hs]
     refine Tr.all_t (by simp[nbC]) (Tr.all_ret ?_)
     rw[show numB [s.getD at_.toNat 0,s.getD (at_.toNat+1) 0]=n16 s at_ by simp[numB,n16],IntWalk.u16_in _ (by unfold n16;omega)]
   | false=>
     rw[hs,cond_false] at h
     cases h
     refine X3 (vs:=[.int .u16 0,.int .i64 0,.int .i64 2]) rfl rfl (Tr.get_of_all ?_)
     show (t84 s at_).all _
     exact Tr.all_t hb (Tr.all_f hs (Tr.all_ret rfl))
def hiI (n:Int):Int:=IntKind.wrap .u8 (Int.fdiv n 256)
def loI (n:Int):Int:=IntKind.wrap .u8 n
def btC (n many m i:Int) (b:List Int):Bool:=decide (many=2)&&decide (m=2)&&decide (i=0)&&decide (b=[0,0])
noncomputable def b121:Code:=X5 c121 0
def U3x:LoopSpec:={ bid:=0,sh:=[.d (.int .u32) false,.d (.int .i64) false,.row 0,.d (.int .i64) false,.d (.int .i64) false],so:=[.row (.int .u8)],F:=fun(n,many,m,i,_) (b,_)=>.on (btC n many m i b) (.exit 0,[.rowA 0],[.row (.int .u8) [hiI n,loI n]]) }
def r121 (n many m i:Int) (b:List Int):Tr (St⊕(Ex×St)):=.br (decide (i < m)) (.br (decide (0≤IntKind.wrap .i64 (8 * i))) (.br (decide (0≤IntKind.wrap .i64 (IntKind.wrap .i64 (many - 1) - i))) (.br (decide (IntKind.wrap .i64 (IntKind.wrap .i64 (many - 1) - i) < (↑b.length:Int))) (.ret (.inl (stOf [0,1,5,9,10] [.int .u32 n,.int .i64 many,.rowA 0,.int .i64 m,.int .i64 (IntKind.wrap .i64 (i+1))] [.row (.int .u8) (List.set b (Int.toNat (IntKind.wrap .i64 (IntKind.wrap .i64 (many - 1) - i))) (IntKind.wrap .u8 (Int.fdiv n (2 ^ min (Int.toNat (IntKind.wrap .i64 (8 * i))) (IntKind.bits IntKind.u32)))))]))) .no) .no) .no) (.ret (.inr (.exit 0,stOf [5] [.rowA 0] [.row (.int .u8) b])))
theorem X42 (orc:Orc) (lp:Lp) (n many m i:Int) (b:List Int):evC T0 orc lp b121 0 (stOf [0,1,5,9,10] [.int .u32 n,.int .i64 many,.rowA 0,.int .i64 m,.int .i64 i] [.row (.int .u8) b]) (V1 [0,1,5,9,10] [5] 0)=(r121 n many m i b).get:=by kernel_rfl
theorem wf121 (orc:Orc) (n many m:Int) (I'':Int→List Int→Prop) (m'':Int→List Int→Nat) (r'':Ex×St) (h:∀ (i:Int) (b:List Int),I'' i b→(r121 n many m i b).all fun x''=>x''=.inr r''∨∃ (i':Int) (b':List Int),x''=.inl (stOf [0,1,5,9,10] [.int .u32 n,.int .i64 many,.rowA 0,.int .i64 m,.int .i64 i'] [.row (.int .u8) b'])∧I'' i' b'∧m'' i' b' < m'' i b) (lp:Lp) (i:Int) (b:List Int):I'' i b→
    Z4 (fun st=>evC T0 orc lp b121 0 st (V1 [0,1,5,9,10] [5] 0)) (stOf [0,1,5,9,10] [.int .u32 n,.int .i64 many,.rowA 0,.int .i64 m,.int .i64 i] [.row (.int .u8) b])=some r'':=
 Q5 (fun a'':Int×List Int=>stOf [0,1,5,9,10] [.int .u32 n,.int .i64 many,.rowA 0,.int .i64 m,.int .i64 a''.1] [.row (.int .u8) a''.2]) (fun a''=>I'' a''.1 a''.2) (fun a''=>m'' a''.1 a''.2) r'' (fun a''=>r121 n many m a''.1 a''.2)
  (fun a'' x hx=>(X42 orc lp n many m a''.1 a''.2).trans hx) (fun a'' ha=>Tr.all_mono (fun x'' hx=>hx.imp id fun⟨i',b',h1,h2,h3⟩=>⟨(i',b'),h1,h2,h3⟩) (h (a''.1) (a''.2) ha)) (i,b)
theorem Q56 (orc:Orc):U3x.Ok T0 orc h121 0 0 b121:=by
 intro q'' hq'' x'' y'' r'' h
 obtain⟨(n:Int),(many:Int),(m:Int),(i:Int),_⟩:=x''
 obtain⟨(b:List Int),_⟩:=y''
 obtain⟨hc,rfl⟩:=Tr.get_on h
 show Z4 (fun st=>evC T0 orc (lpN T0 orc h121 0 q'') b121 0 st (V1 [0,1,5,9,10] [5] 0)) (stOf [0,1,5,9,10] [.int .u32 n,.int .i64 many,.rowA 0,.int .i64 m,.int .i64 i] [.row (.int .u8) b])=some (.exit 0,stOf [5] ([.rowA 0]) ([.row (.int .u8) [hiI n,loI n]]))
 simp only[btC,Bool.and_eq_true,decide_eq_true_eq] at hc
 obtain⟨⟨⟨rfl,rfl⟩,rfl⟩,rfl⟩:=hc
 refine wf121 _ n 2 2 (fun i b=>(i=0∧b=[0,0])∨(i=1∧b=[0,loI n])∨(i=2∧b=[hiI n,loI n])) (fun i _=>(2 - i).toNat) _ ?_ _ 0 [0,0] (.inl ⟨rfl,rfl⟩)
 rintro i b (⟨rfl,rfl⟩ | ⟨rfl,rfl⟩ | ⟨rfl,rfl⟩)
 ·refine Tr.all_t rfl (Tr.all_t (by decide) (Tr.all_t (by decide) (Tr.all_t (by decide) (Tr.all_ret (.inr ⟨_,_,rfl,.inr (.inl ⟨by decide,?_⟩),by decide⟩)))))
  show [0,IntKind.wrap .u8 (Int.fdiv n 1)]=_
  simp[loI]
 ·refine Tr.all_t rfl (Tr.all_t (by decide) (Tr.all_t (by decide) (Tr.all_t rfl (Tr.all_ret (.inr ⟨_,_,rfl,.inr (.inr ⟨by decide,rfl⟩),by decide⟩)))))
 ·exact Tr.all_f rfl (Tr.all_ret (.inl rfl))
def t121 (n many:Int):Tr Res:=.br (decide (0≤many)&&many==many&&fits many.toNat 1) (.br (btC n many many 0 (List.replicate many.toNat (Ty.dflt (Ty.int .u8)))) (.ret ([.str [UInt8.ofNat (Int.toNat (hiI n)),UInt8.ofNat (Int.toNat (loI n))]],[])) .no) .no
def os121:OSpec:={ f:=121,sh:=[.d (.int .u32) false,.d (.int .i64) false],so:=[],F:=fun(n,many,_) _=>t121 n many }
theorem fn121 (n many:Int):evC T0 (orcB [] []) (lpOf h121 0 (lsOf [U3x])) c121 1000000 (J2 [.int .u32 n,.int .i64 many] [] Try.f121.ntmps) (Z1 T0 false 0 Try.f121)=(t121 n many).get:=by kernel_rfl
theorem ok121:os121.Ok Try.prog:=by
 refine U4 J3 tab0 (U0 all_nil all_nil) h121 (d:=0) (n0:=0) (S:=lsOf [U3x]) Try.func121 (by kernel_rfl) (c:=c121) (by kernel_rfl) rfl (U5 (xs:=[(0,b121)]) (by kernel_rfl) (all_cons (U6 (Q56 _)) all_nil)) (by omega) (by kernel_rfl) ?_
 intro x'' y'' q'' hq''
 obtain⟨(n:Int),(many:Int),_⟩:=x''
 exact(fn121 n many).trans hq''
def Z5l:FSpec:=fsT 121 [((.int .u32),false),((.int .i64),false)] [(.str,false)] fun(n,many,_)=>t121 n many
theorem V5y:Z5l.Ok Try.prog:=V5 fun x'' r'' hr''=>ok121 x'' () r'' hr''
def t99 (n:Int):Tr Res:=.ret ([.str [UInt8.ofNat (Int.toNat (hiI (IntKind.wrap .u32 n))),UInt8.ofNat (Int.toNat (loI (IntKind.wrap .u32 n)))]],[])
def os99:OSpec:={ f:=99,sh:=[.d (.int .u16) false],so:=[],F:=fun(n,_) _=>t99 n }
theorem fn99 (n:Int):evC T0 (orcB [Z5l] []) (lpOf h99 0 (lsOf [])) c99 1000000 (J2 [.int .u16 n] [] Try.f99.ntmps) (Z1 T0 false 0 Try.f99)=(t99 n).get:=by kernel_rfl
theorem ok99:os99.Ok Try.prog:=by
 refine U4 J3 tab0 (U0 (all_cons V5y all_nil) all_nil) h99 (d:=0) (n0:=0) (S:=lsOf []) Try.func99 (by kernel_rfl) (c:=c99) (by kernel_rfl) rfl (V3 (by kernel_rfl)) (by omega) (by kernel_rfl) ?_
 intro x'' y'' q'' hq''
 obtain⟨(n:Int),_⟩:=x''
 exact(fn99 n).trans hq''
def fs99:FSpec:=fsT 99 [((.int .u16),false)] [(.str,false)] fun(n,_)=>t99 n
theorem okf99:fs99.Ok Try.prog:=V5 fun x'' r'' hr''=>ok99 x'' () r'' hr''
def Q0 (n:Int):List UInt8:=[UInt8.ofNat (n / 256).toNat,UInt8.ofNat (n % 256).toNat]
def n16C (n:Int):Bool:=decide (0≤n)&&decide (n≤65535)
def Vp:FSpec:=fs99.like fun(n,_)=>.on (n16C n) (Q0 n,())
def Q03:FSpec:=X5m.like fun(n,_)=>.on (n16C n) (Q0 n,())
theorem U0y:Q03.Ok Try.prog:=by
 refine Q3 X5v _ ?_
 rintro⟨(n:Int),_⟩ y h
 obtain⟨hc,rfl⟩:=Tr.get_on h
 simp only[n16C,Bool.and_eq_true,decide_eq_true_eq] at hc
 refine X3 (vs:=[.str (Q0 n)]) rfl rfl (Tr.get_of_all ?_)
 show (t129 n).all _
 unfold t129
 refine Tr.all_ret ?_
 rw[Int.tdiv_eq_ediv_of_nonneg hc.1,Int.tmod_eq_emod_of_nonneg hc.1,IntWalk.u16_in _ (by omega),IntWalk.u8_in _ (by omega),IntWalk.u8_in _ (by omega)]
 rfl
theorem X15:Vp.Ok Try.prog:=by
 refine Q3 okf99 _ ?_
 rintro⟨(n:Int),_⟩ y h
 obtain⟨hc,rfl⟩:=Tr.get_on h
 simp only[n16C,Bool.and_eq_true,decide_eq_true_eq] at hc
 refine X3 (vs:=[.str (Q0 n)]) rfl rfl (Tr.get_of_all ?_)
 show (t99 n).all _
 unfold t99
 refine Tr.all_ret ?_
 rw[IntWalk.u32_in _ (by omega)]
 unfold hiI loI Q0
 rw[Int.fdiv_eq_ediv_of_nonneg _ (by omega),IntWalk.u8_in (n / 256) (by omega),IntKind.wrap_u8]
def V00 (s:List UInt8) (k:Nat) (out:List (List UInt8)):Bool×(Nat×List (List UInt8)):=
 if h:k < s.length then
  (if (s.getD k 0).toNat=0 then (true,k,out)
  else if (s.getD k 0).toNat > 63∨k+1+(s.getD k 0).toNat > s.length then (false,k,out)
  else V00 s (k+1+(s.getD k 0).toNat) (out++[(s.drop (k+1)).take (s.getD k 0).toNat]))
 else (true,k,out)
termination_by s.length - k
def lbC (s:List UInt8) (at_:Int) (out:List (List UInt8)):Bool:=decide (at_=0)&&out.isEmpty&&bigS s
def lbOk (s:List UInt8):Bool:=(V00 s 0 []).1
def lbAt (s:List UInt8):Int:=(V00 s 0 []).2.1
def X05 (s:List UInt8):List (List UInt8):=(V00 s 0 []).2.2
noncomputable def b144:Code:=X5 c144 0
def Z44:LoopSpec:={ bid:=0,sh:=[.d .str false,.row 0,.d (.int .i64) false],so:=[.row .str],F:=fun(s,at_,_) (out,_)=>.on2 (lbC s at_ out) (lbOk s) (.exit 0,[.str s,.dead,.dead,.rowA 0,.int .i64 (lbAt s)],[.row .str (X05 s)]) (.ret,[.str s,.rowA 0,.int .i64 2,.rowA 1,.int .i64 (lbAt s)],[.row .str [],.row .str (X05 s)]) }
def r144 (s:List UInt8) (at_:Int) (out:List (List UInt8)):Tr (St⊕(Ex×St)):=.br (decide (at_ < (↑s.length:Int))) (.br (decide (0≤at_)) (.br (decide (at_ < (↑s.length:Int))) (.br ((↑(UInt8.toNat (s.getD at_.toNat 0)):Int) != 0) (.br (decide (0≤at_)) (.br (decide (at_ < (↑s.length:Int))) (.br (decide (IntKind.wrap .i64 (↑(UInt8.toNat (s.getD at_.toNat 0)):Int) > 63)) (.ret (.inr (.ret,stOf [0,2,3,4,5] [.str s,.rowA 0,.int .i64 2,.rowA 1,.int .i64 at_] [.row Ty.str [],.row Ty.str out]))) (.br (decide (IntKind.wrap .i64 (IntKind.wrap .i64 (at_+1)+IntKind.wrap .i64 (↑(UInt8.toNat (s.getD at_.toNat 0)):Int)) > (↑s.length:Int))) (.ret (.inr (.ret,stOf [0,2,3,4,5] [.str s,.rowA 0,.int .i64 2,.rowA 1,.int .i64 at_] [.row Ty.str [],.row Ty.str out]))) (.br (decide (0≤IntKind.wrap .i64 (IntKind.wrap .i64 (at_+1)+IntKind.wrap .i64 (↑(UInt8.toNat (s.getD at_.toNat 0)):Int)))&&decide (IntKind.wrap .i64 (IntKind.wrap .i64 (at_+1)+IntKind.wrap .i64 (↑(UInt8.toNat (s.getD at_.toNat 0)):Int))≤(↑s.length:Int))) (.br (decide (0≤IntKind.wrap .i64 (at_+1))&&decide (IntKind.wrap .i64 (at_+1)≤IntKind.wrap .i64 (IntKind.wrap .i64 (at_+1)+IntKind.wrap .i64 (↑(UInt8.toNat (s.getD at_.toNat 0)):Int)))) (.br (fits (List.length out+1) 16) (.ret (.inl (stOf [0,4,5] [.str s,.rowA 0,.int .i64 (IntKind.wrap .i64 (IntKind.wrap .i64 (at_+1)+IntKind.wrap .i64 (↑(UInt8.toNat (s.getD at_.toNat 0)):Int)))] [.row Ty.str (out++[List.take (Int.toNat (IntKind.wrap .i64 (IntKind.wrap .i64 (at_+1)+IntKind.wrap .i64 (↑(UInt8.toNat (s.getD at_.toNat 0)):Int))) - Int.toNat (IntKind.wrap .i64 (at_+1))) (List.drop (Int.toNat (IntKind.wrap .i64 (at_+1))) s)])]))) .no) .no) .no))) .no) .no) (.ret (.inr (.exit 0,stOf [0,2,3,4,5] [.str s,.dead,.dead,.rowA 0,.int .i64 at_] [.row Ty.str out])))) .no) .no) (.ret (.inr (.exit 0,stOf [0,2,3,4,5] [.str s,.dead,.dead,.rowA 0,.int .i64 at_] [.row Ty.str out])))
theorem Q4f (orc:Orc) (lp:Lp) (s:List UInt8) (at_:Int) (out:List (List UInt8)):evC T0 orc lp b144 0 (stOf [0,4,5] [.str s,.rowA 0,.int .i64 at_] [.row .str out]) (V1 [0,4,5] [0,2,3,4,5] 0)=(r144 s at_ out).get:=by kernel_rfl
theorem wf144 (orc:Orc) (s:List UInt8) (I'':Int→List (List UInt8)→Prop) (m'':Int→List (List UInt8)→Nat) (r'':Ex×St) (h:∀ (at_:Int) (out:List (List UInt8)),I'' at_ out→(r144 s at_ out).all fun x''=>x''=.inr r''∨∃ (at_':Int) (out':List (List UInt8)),x''=.inl (stOf [0,4,5] [.str s,.rowA 0,.int .i64 at_'] [.row .str out'])∧I'' at_' out'∧m'' at_' out' < m'' at_ out) (lp:Lp) (at_:Int) (out:List (List UInt8)):I'' at_ out→
    Z4 (fun st=>evC T0 orc lp b144 0 st (V1 [0,4,5] [0,2,3,4,5] 0)) (stOf [0,4,5] [.str s,.rowA 0,.int .i64 at_] [.row .str out])=some r'':=
 Q5 (fun a'':Int×List (List UInt8)=>stOf [0,4,5] [.str s,.rowA 0,.int .i64 a''.1] [.row .str a''.2]) (fun a''=>I'' a''.1 a''.2) (fun a''=>m'' a''.1 a''.2) r'' (fun a''=>r144 s a''.1 a''.2)
  (fun a'' x hx=>(Q4f orc lp s a''.1 a''.2).trans hx) (fun a'' ha=>Tr.all_mono (fun x'' hx=>hx.imp id fun⟨at_',out',h1,h2,h3⟩=>⟨(at_',out'),h1,h2,h3⟩) (h (a''.1) (a''.2) ha)) (at_,out)
def lbI (s:List UInt8) (at_:Int) (out:List (List UInt8)):Prop:=0≤at_∧at_≤s.length∧(out.length:Int)≤at_∧V00 s at_.toNat out=V00 s 0 []
theorem X56 (orc:Orc):Z44.Ok T0 orc h144 0 0 b144:=by
 intro q'' hq'' x'' y'' r'' h
 obtain⟨(s:List UInt8),(at_:Int),_⟩:=x''
 obtain⟨(out:List (List UInt8)),_⟩:=y''
 obtain⟨hc,rfl⟩:=Tr.get_on2 h
 show Z4 (fun st=>evC T0 orc (lpN T0 orc h144 0 q'') b144 0 st (V1 [0,4,5] [0,2,3,4,5] 0)) (stOf [0,4,5] [.str s,.rowA 0,.int .i64 at_] [.row .str out])=some ((bif lbOk s then (.exit 0,[.str s,.dead,.dead,.rowA 0,.int .i64 (lbAt s)],[.row .str (X05 s)]) else (.ret,[.str s,.rowA 0,.int .i64 2,.rowA 1,.int .i64 (lbAt s)],[.row .str [],.row .str (X05 s)]):Ex×List AV×List LObj).1,stOf [0,2,3,4,5] (bif lbOk s then (.exit 0,[.str s,.dead,.dead,.rowA 0,.int .i64 (lbAt s)],[.row .str (X05 s)]) else (.ret,[.str s,.rowA 0,.int .i64 2,.rowA 1,.int .i64 (lbAt s)],[.row .str [],.row .str (X05 s)]):Ex×List AV×List LObj).2.1 (bif lbOk s then (.exit 0,[.str s,.dead,.dead,.rowA 0,.int .i64 (lbAt s)],[.row .str (X05 s)]) else (.ret,[.str s,.rowA 0,.int .i64 2,.rowA 1,.int .i64 (lbAt s)],[.row .str [],.row .str (X05 s)]):Ex×List AV×List LObj).2.2)
 simp only[lbC,Bool.and_eq_true,decide_eq_true_eq,List.isEmpty_iff,bigS] at hc
 obtain⟨⟨rfl,rfl⟩,hb⟩:=hc
 refine wf144 _ s (lbI s) (fun at_ _=>(s.length - at_).toNat) _ ?_ _ 0 [] ⟨by omega,by omega,by simp,rfl⟩
 rintro at_ out ⟨h0,h1,h2,h3⟩
 unfold r144
 have hgood:∀ k' out',V00 s at_.toNat out=(true,k',out')→lbOk s=true∧lbAt s=k'∧X05 s=out':=fun k' out' h=>by
  unfold lbOk lbAt X05
  rw[←h3,h]
  exact⟨rfl,rfl,rfl⟩
 have hbad:∀ k' out',V00 s at_.toNat out=(false,k',out')→lbOk s=false∧lbAt s=k'∧X05 s=out':=fun k' out' h=>by
  unfold lbOk lbAt X05
  rw[←h3,h]
  exact⟨rfl,rfl,rfl⟩
 have hto:((at_.toNat:Nat):Int)=at_:=Int.toNat_of_nonneg h0
 by_cases hlt:at_ < s.length
 ·have hn:at_.toNat < s.length:=by omega
  refine Tr.all_t (J0 hlt) (Tr.all_t (J0 h0) (Tr.all_t (J0 hlt) (Tr.all_br (fun c1=>?_) fun c1=>?_)))
  ·have hk:=Z06 (s.getD at_.toNat 0)
   have hk0:(s.getD at_.toNat 0).toNat≠0:=by
    have:=bne_iff_ne.1 c1
    omega
   simp (disch:=omega) only[IntWalk.i64_in]
   refine Tr.all_t (J0 h0) (Tr.all_t (J0 hlt) (Tr.all_br (fun c2=>?_) fun c2=>Tr.all_br (fun c3=>?_) fun c3=>?_))
   ·simp only[decide_eq_true_eq] at c2
    obtain⟨e1,e2,e3⟩:=hbad at_.toNat out (by rw[V00,dif_pos hn,if_neg hk0,if_pos (by omega)])
    rw[e1,e2,e3,hto]
    exact Tr.all_ret (.inl rfl)
   ·simp only[decide_eq_true_eq] at c3
    obtain⟨e1,e2,e3⟩:=hbad at_.toNat out (by rw[V00,dif_pos hn,if_neg hk0,if_pos (by omega)])
    rw[e1,e2,e3,hto]
    exact Tr.all_ret (.inl rfl)
   ·simp only[decide_eq_false_iff_not] at c2 c3
    refine Tr.all_t (by rw[J0 (by omega),J0 (by omega)];rfl) (Tr.all_t (by rw[J0 (by omega),J0 (by omega)];rfl) (Tr.all_t (U7 (by omega) (by omega)) (Tr.all_ret (.inr ⟨_,_,rfl,⟨by omega,by omega,by simp;omega,?_⟩,by omega⟩))))
    rw[←h3,V00.eq_1 s at_.toNat out,dif_pos hn,if_neg hk0,if_neg (by omega)]
    rw[show (at_+1+((s.getD at_.toNat 0).toNat:Int)).toNat=at_.toNat+1+(s.getD at_.toNat 0).toNat by omega,show (at_+1).toNat=at_.toNat+1 by omega,show at_.toNat+1+(s.getD at_.toNat 0).toNat - (at_.toNat+1)=(s.getD at_.toNat 0).toNat by omega]
  ·have hk0:(s.getD at_.toNat 0).toNat=0:=by
    have:=bne_eq_false_iff_eq.1 c1
    omega
   obtain⟨e1,e2,e3⟩:=hgood at_.toNat out (by rw[V00,dif_pos hn,if_pos hk0])
   rw[e1,e2,e3,hto]
   exact Tr.all_ret (.inl rfl)
 ·obtain⟨e1,e2,e3⟩:=hgood at_.toNat out (by rw[V00,dif_neg (by omega)])
  rw[e1,e2,e3,hto]
  exact Tr.all_f (J1 hlt) (Tr.all_ret (.inl rfl))
def t144 (s:List UInt8):Tr Res:=.br (lbC s 0 []) (.br (lbOk s) (.br (lbAt s != IntKind.wrap .i64 ((↑s.length:Int) - 1)) (.ret ([.list Ty.str [],.int .i64 2],[])) (.br (decide ((↑s.length:Int) > 255)) (.ret ([.list Ty.str [],.int .i64 3],[])) (.ret ([.list Ty.str (X05 s),.int .i64 0],[])))) (.ret ([.list Ty.str [],.int .i64 2],[]))) .no
def os144:OSpec:={ f:=144,sh:=[.d .str false],so:=[],F:=fun(s,_) _=>t144 s }
theorem fn144 (s:List UInt8):evC T0 (orcB [] []) (lpOf h144 0 (lsOf [Z44])) c144 1000000 (J2 [.str s] [] Try.f144.ntmps) (Z1 T0 false 0 Try.f144)=(t144 s).get:=by kernel_rfl
theorem ok144:os144.Ok Try.prog:=by
 refine U4 J3 tab0 (U0 all_nil all_nil) h144 (d:=0) (n0:=0) (S:=lsOf [Z44]) Try.func144 (by kernel_rfl) (c:=c144) (by kernel_rfl) rfl (U5 (xs:=[(0,b144)]) (by kernel_rfl) (all_cons (U6 (X56 _)) all_nil)) (by omega) (by kernel_rfl) ?_
 intro x'' y'' q'' hq''
 obtain⟨(s:List UInt8),_⟩:=x''
 exact(fn144 s).trans hq''
def Z5e:FSpec:=fsT 144 [(.str,false)] [((.list .str),false),((.int .i64),false)] fun(s,_)=>t144 s
theorem U5t:Z5e.Ok Try.prog:=V5 fun x'' r'' hr''=>ok144 x'' () r'' hr''
def t126 (s:List UInt8):Tr Res:=.br (lbC s 0 []) (.br (lbOk s) (.br (lbAt s != IntKind.wrap .i64 ((↑s.length:Int) - 1)) (.ret ([.bool false],[])) (.br (decide ((↑s.length:Int) > 255)) (.ret ([.bool false],[])) (.br (bigS s) (.ret ([.bool (J5 s==s)],[])) .no))) (.ret ([.bool false],[]))) .no
def os126:OSpec:={ f:=126,sh:=[.d .str false],so:=[],F:=fun(s,_) _=>t126 s }
theorem fn126 (s:List UInt8):evC T0 (orcB [Z5e,Q4m] []) (lpOf h126 0 (lsOf [])) c126 1000000 (J2 [.str s] [] Try.f126.ntmps) (Z1 T0 false 0 Try.f126)=(t126 s).get:=by kernel_rfl
theorem ok126:os126.Ok Try.prog:=by
 refine U4 J3 tab0 (U0 (all_cons U5t (all_cons Q55 all_nil)) all_nil) h126 (d:=0) (n0:=0) (S:=lsOf []) Try.func126 (by kernel_rfl) (c:=c126) (by kernel_rfl) rfl (V3 (by kernel_rfl)) (by omega) (by kernel_rfl) ?_
 intro x'' y'' q'' hq''
 obtain⟨(s:List UInt8),_⟩:=x''
 exact(fn126 s).trans hq''
def V4a:FSpec:=fsT 126 [(.str,false)] [(.bool,false)] fun(s,_)=>t126 s
theorem X5u:V4a.Ok Try.prog:=V5 fun x'' r'' hr''=>ok126 x'' () r'' hr''
def mayS (s:List UInt8):Bool:=lbOk s&&(decide (lbAt s=(s.length:Int) - 1)&&(decide (s.length≤255)&&(J5 s==s)))
def J5u:FSpec:=V4a.like fun(s,_)=>.on (bigS s) (mayS s,())
theorem V4w:J5u.Ok Try.prog:=by
 refine Q3 X5u _ ?_
 rintro⟨(s:List UInt8),_⟩ y h
 obtain⟨hb,rfl⟩:=Tr.get_on h
 have hb':=hb
 simp only[bigS,decide_eq_true_eq] at hb'
 refine X3 (vs:=[.bool (mayS s)]) rfl rfl (Tr.get_of_all ?_)
 show (t126 s).all _
 unfold t126
 rw[IntWalk.i64_in _ (by omega)]
 refine Tr.all_t (by simp[lbC,hb]) (Tr.all_br (fun c1=>Tr.all_br (fun c2=>Tr.all_ret ?_) fun c2=>Tr.all_br (fun c3=>Tr.all_ret ?_) fun c3=>Tr.all_t hb (Tr.all_ret ?_)) fun c1=>Tr.all_ret ?_)
 ·have:=bne_iff_ne.1 c2
  simp[mayS,this]
 ·simp only[decide_eq_true_eq] at c3
  have:¬ s.length≤255:=by omega
  simp[mayS,this]
 ·have h2:=bne_eq_false_iff_eq.1 c2
  simp only[decide_eq_false_iff_not] at c3
  have:s.length≤255:=by omega
  simp[mayS,c1,h2,this]
 ·simp[mayS,c1]
end Go.Proofs.YtpledbapngdkeaaE
namespace Go.Proofs.YtpledbapngdkeaaB
open Go Go.RowKit Go.Shelf
attribute [local go_sem] Oper.semAt_some
theorem U4o:Try.prog.underlying 9=some .string:=by kernel_rfl
theorem J38 (s:List UInt8) (a b:Nat) (hab:a≤b) (hb:b≤s.length) (i j:Int) (hi:i=a) (hj:j=b) (W:World) :
    (Instr.slice 9 (.string ⟨s.toArray⟩) (some (.int .i64 i)) (some (.int .i64 j)) none).run Try.prog W=.ok (.string ⟨((s.drop a).take (b - a)).toArray⟩) W:=by
 subst hi hj
 have hs:(⟨s.toArray⟩:ByteArray).size=s.length:=by simp[ByteArray.size]
 have h2:(Instr.sliceBounds false s.length s.length (some (.int .i64 (a:Int))) (some (.int .i64 (b:Int))) none).run Try.prog W=.ok (a,b,s.length) W:=by
  have s1:∀ code,(Instr.sliceBound (.int .i64 (a:Int)) b code).run Try.prog W=.ok a W:=fun code=>by
   have:=Go.Proofs.YtpledbapngdkeaaE.bound_run (P:=Try.prog) (w:=W) (k:=.i64) (i:=(a:Int)) (y:=b) (by omega) code
   simpa using this
  have s2:∀ code,(Instr.sliceBound (.int .i64 (b:Int)) s.length code).run Try.prog W=.ok b W:=fun code=>by
   have:=Go.Proofs.YtpledbapngdkeaaE.bound_run (P:=Try.prog) (w:=W) (k:=.i64) (i:=(b:Int)) (y:=s.length) (by omega) code
   simpa using this
  simp only[Instr.sliceBounds,Sem.run_bind,Sem.run_pure,Result.andThen_ok,s1,s2,Bool.false_eq_true,if_false]
 simp[Instr.slice,run_underlying U4o,hs,h2,ByteArray.extract_mk]
theorem X32 (s:List UInt8) (a:Nat) (ha:a≤s.length) (i:Int) (hi:i=a) (W:World) :
    (Instr.slice 9 (.string ⟨s.toArray⟩) (some (.int .i64 i)) none none).run Try.prog W=.ok (.string ⟨(s.drop a).toArray⟩) W:=by
 subst hi
 have hs:(⟨s.toArray⟩:ByteArray).size=s.length:=by simp[ByteArray.size]
 have h2:(Instr.sliceBounds false s.length s.length (some (.int .i64 (a:Int))) none none).run Try.prog W=.ok (a,s.length,s.length) W:=by
  have s1:∀ code,(Instr.sliceBound (.int .i64 (a:Int)) s.length code).run Try.prog W=.ok a W:=fun code=>by
   have:=Go.Proofs.YtpledbapngdkeaaE.bound_run (P:=Try.prog) (w:=W) (k:=.i64) (i:=(a:Int)) (y:=s.length) (by omega) code
   simpa using this
  simp only[Instr.sliceBounds,Sem.run_bind,Sem.run_pure,Result.andThen_ok,s1,Bool.false_eq_true,if_false]
 simp[Instr.slice,run_underlying U4o,hs,h2,ByteArray.extract_mk]
 exact List.take_of_length_le (by simp)
def U1s:List UInt8→Prop
 | []=>True
 | c::t=>c.toNat=0∨63 < c.toNat∨t.length < c.toNat
set_option maxHeartbeats 1000000 in
theorem J4m (n:Nat) (hn:1≤n) (l Bn:Nat) (J K:List UInt8→World→Prop)
    (hB:∀ r W,J r W→Boxed W Bn 9 (.string ⟨r.toArray⟩)) (hd:∀ r W d,J r W→J r { W with drawn:=d })
    (hY:∀ (c:UInt8) (t:List UInt8) W,J (c::t) W→c.toNat≠0→c.toNat≤63→c.toNat≤t.length→
     YieldAt Fence.wide (n - 1) Try.prog l #[.string ⟨(t.take c.toNat).toArray⟩,.string ⟨(t.drop c.toNat).toArray⟩] W fun e W'=>e=.returned (.bool true)∧K (c::t) W')
    (hK:∀ c t W,K (c::t) W→Boxed W Bn 9 (.string ⟨(c::t).toArray⟩)∧J (t.drop c.toNat) (W.setCell ⟨Bn,0,none⟩ (.string ⟨(t.drop c.toNat).toArray⟩)))
    (W:World) (r0:List UInt8) (h0:J r0 W) :
    CallsIn Fence.wide n Try.prog 139 #[.func (.yield l) #[] #[],.pointer (some ⟨Bn,0,none⟩)] W fun e W'=>(∃ v,e=.returned v)∧∃ r,J r W'∧U1s r:=by
 refine callsIn_of_wp Try.func139 rfl trivial ?_ rfl
 simp only[Try.ntmps139,List.size_toArray,List.length_cons,List.length_nil,Nat.reduceAdd,Nat.reduceSub,Array.replicate_succ,Array.replicate_zero,List.push_toArray,List.append_toArray,List.nil_append,List.cons_append]
 gi_wp2
 gi_loopw [3] (fun p wr=>∃ (r:List UInt8),J r wr)
  (fun p wr=>match wr.cell? ⟨Bn,0,none⟩ with | some (.string b)=>b.size | _=>0)
 case atStart=>
  exact⟨r0,h0⟩
 case round=>
  obtain⟨r,hJ⟩:=hrel
  have hb:=hB r _ hJ
  have hc:=hb.cell
  cases r with
  | nil=>
    gi_wp2
    gi_quiet (fail)
    gi_wp2
    go_end0
    exact⟨⟨_,rfl⟩,_,hd _ wr _ hJ,trivial⟩
  | cons c t=>
    have hget:({ data:=(c::t).toArray }:ByteArray)[0]'(by simp[ByteArray.size])=c:=rfl
    have hsz:({ data:=(c::t).toArray }:ByteArray).size=t.length+1:=by simp[ByteArray.size]
    by_cases c0:c.toNat=0
    ·gi_wp2
     gi_quiet (fail)
     gi_wp2
     go_end0
     exact⟨⟨_,rfl⟩,_,hd _ wr _ hJ,.inl c0⟩
    have p0:0 < c.toNat:=by omega
    have d0:decide (0 < c.toNat)=true:=by simpa using p0
    by_cases c1:c.toNat≤63
    ·have d1:decide ((c.toNat:Int)≤63)=true:=by simp;omega
     by_cases c2:c.toNat≤t.length
     ·have d2:decide ((c.toNat:Int) < (t.length:Int)+1)=true:=by simp;omega
      gi_wp2
      gi_quiet (fail)
      gi_wp2
      rename_i nq _ _ _ _
      have hJ2:J (c::t) (wr.drewN (nq+1)):=hd _ wr _ hJ
      have hb2:=hB _ _ hJ2
      have hc2:=hb2.cell
      obtain⟨fn,tmps,assign,body,hy,hR⟩:=hY c t _ hJ2 c0 c1 c2
      have hs1:∀ W:World,(Instr.slice 9 (.string ⟨(c::t).toArray⟩) (some (.int .i64 1)) (some (.int .i64 (1+(c.toNat:Int)))) none).run Try.prog W=.ok (.string ⟨(t.take c.toNat).toArray⟩) W:=fun W=>by
       rw[J38 (c::t) 1 (1+c.toNat) (by omega) (by simp;omega) 1 _ rfl (by omega) W]
       simp
      have hs2:∀ W:World,(Instr.slice 9 (.string ⟨(c::t).toArray⟩) (some (.int .i64 (1+(c.toNat:Int)))) none none).run Try.prog W=.ok (.string ⟨(t.drop c.toNat).toArray⟩) W:=fun W=>by
       rw[X32 (c::t) (1+c.toNat) (by simp;omega) _ (by omega) W]
       simp[Nat.add_comm 1]
      gi_region_with (refine RoundIn.mono hR ?_;rintro e W3 ⟨rfl,hK3⟩;obtain⟨hb3,hJ3⟩:=hK c t _ hK3;have hc3:=hb3.cell;have hf3:=hb3.frozen)
      all_goals gi_wp2
      all_goals (refine⟨⟨_,hJ3⟩,?_⟩;rw[hb3.set _ |>.cell,hc];simp[ByteArray.size];omega)
     ·have d2:decide ((c.toNat:Int) < (t.length:Int)+1)=false:=by simp;omega
      gi_wp2
      gi_quiet (fail)
      gi_wp2
      go_end0
      exact⟨⟨_,rfl⟩,_,hd _ wr _ hJ,.inr (.inr (by omega))⟩
    ·have d1:decide ((c.toNat:Int)≤63)=false:=by simp;omega
     gi_wp2
     gi_quiet (fail)
     gi_wp2
     go_end0
     exact⟨⟨_,rfl⟩,_,hd _ wr _ hJ,.inr (.inl (by omega))⟩
end Go.Proofs.YtpledbapngdkeaaB
