import Derived.Test.YtkobjdhbfepkaaaPAcceptZones2
import Derived.Test.YtkobjdhbfepkaaaRows
import Derived.SizedLaws
import Derived.OpenShut
import Derived.WideShapes
import Derived.Below
import Derived.Carry
import Derived.Test.YtkobjdhbfepkaaaProg
import Derived.IntWalk
set_option maxRecDepth 1000000
namespace Go.Proofs.YtkobjdhbfepkaaaE
open Go
set_option linter.unusedVariables false
set_option linter.unusedSimpArgs false
theorem J0c {p:Nat→Bool}:∀ (n a:Nat),(rng a n).all p=true→∀ j,a≤j→j < a+n→p j=true
 | 0,a,_,j,h1,h2=>by omega
 | n+1,a,h,j,h1,h2=>by
   simp only[rng,List.all_cons,Bool.and_eq_true] at h
   by_cases hj:j=a
   ·subst hj;exact h.1
   ·exact J0c n (a+1) h.2 j (by omega) (by omega)
def runS (step:Nat→St→St) (L:Nat→Bool) (st:St):Nat→St
 | 0=>st
 | n+1=>bif L n then step n (runS step L st n) else runS step L st n
theorem Ug {step:Nat→St→St} {L L':Nat→Bool} {st:St}:∀ (n:Nat),(∀ i,i < n→L i=L' i)→runS step L st n=runS step L' st n
 | 0,_=>rfl
 | n+1,h=>by
   simp only[runS]
   rw[h n (by omega),Ug n fun i hi=>h i (by omega)]
def addL (L:Nat→Bool) (e:Nat):Nat→Bool:=fun i=>L i||i==e
theorem V0z {step:Nat→St→St} (hmono:∀ i s,s.nx≤(step i s).nx) {L:Nat→Bool} {st:St} {b:Nat} (hb:b≤st.nx):∀ (n:Nat),b≤(runS step L st n).nx
 | 0=>hb
 | n+1=>by
   simp only[runS]
   cases L n with
   | false=>exact V0z hmono hb n
   | true=>exact Nat.le_trans (V0z hmono hb n) (hmono _ _)
theorem Z1a {step:Nat→St→St} (hmono:∀ i s,s.nx≤(step i s).nx) {L:Nat→Bool} {st:St} {b:Nat} (hb:b≤st.nx) {e:Nat} (he:L e=false):∀ (n:Nat),e < n→(∀ k,e < k→k < n→L k=true→∀ s,b≤s.nx→step k (step e s)=step e (step k s))→
    runS step (addL L e) st n=step e (runS step L st n)
 | 0,h,_=>by omega
 | n+1,h,hc=>by
   simp only[runS]
   by_cases hen:e=n
   ·subst hen
    have:runS step (addL L e) st e=runS step L st e:=Ug e fun i hi=>by
     have:(i==e)=false:=by simp;omega
     simp[addL,this]
    rw[this,he]
    simp[addL]
   ·have h1:=Z1a hmono hb he n (by omega) fun k h1 h2=>hc k h1 (by omega)
    rw[h1]
    have:addL L e n=L n:=by
     have:(n==e)=false:=by simp;omega
     simp[addL,this]
    rw[this]
    cases hn:L n with
    | false=>rfl
    | true=>exact hc n (by omega) (by omega) hn _ (V0z hmono hb n)
theorem X27 {step:Nat→St→St} (hmono:∀ i s,s.nx≤(step i s).nx) {L L':Nat→Bool} {st:St} {b:Nat} (hb:b≤st.nx) {n:Nat} {rel:St→St→Prop} (hr:∀ s,rel s s) (ht:∀ s s' s'',rel s s'→rel s' s''→rel s s'')
    (hsub:∀ i,L i=true→L' i=true) (hex:∀ e,e < n→L e=false→L' e=true→(∀ s,b≤s.nx→rel s (step e s))∧∀ k,e < k→k < n→L k=true→∀ s,b≤s.nx→step k (step e s)=step e (step k s)) :
    rel (runS step L st n) (runS step L' st n):=by
 have key:∀ m,m≤n→rel (runS step L st n) (runS step (fun i=>L i||(L' i&&decide (i < m))) st n):=by
  intro m
  induction m with
  | zero=>
    intro _
    have:runS step (fun i=>L i||(L' i&&decide (i < 0))) st n=runS step L st n:=Ug n fun i _=>by simp
    rw[this]
    exact hr _
  | succ m ih=>
    intro hm
    have h1:=ih (by omega)
    by_cases hL:L m=false∧L' m=true
    ·obtain⟨hL,hL'⟩:=hL
     obtain⟨h2,h3⟩:=hex m (by omega) hL hL'
     have h4:=Z1a (step:=step) hmono (st:=st) hb (L:=fun i=>L i||(L' i&&decide (i < m))) (e:=m) (by simp[hL]) n (by omega) fun k h1 h2 hk=>by
      have:¬ k < m:=by omega
      simp[this] at hk
      exact h3 k h1 h2 hk
     have h5:runS step (fun i=>L i||(L' i&&decide (i < m+1))) st n=runS step (addL (fun i=>L i||(L' i&&decide (i < m))) m) st n:=Ug n fun i _=>by
      by_cases him:i=m
      ·subst him;simp[addL,hL,hL']
      ·have h6:(i < m+1)↔i < m:=by omega
       simp[addL,h6,him]
     rw[h5,h4]
     exact ht _ _ _ h1 (h2 _ (V0z hmono hb n))
    ·have h5:runS step (fun i=>L i||(L' i&&decide (i < m+1))) st n=runS step (fun i=>L i||(L' i&&decide (i < m))) st n:=Ug n fun i _=>by
      by_cases him:i=m
      ·subst him
       cases h6:L i with
       | true=>simp
       | false=>
         cases h7:L' i with
         | true=>exact absurd ⟨h6,h7⟩ hL
         | false=>simp
      ·have h6:(i < m+1)↔i < m:=by omega
       simp[h6]
     rw[h5]
     exact h1
 have:=key n (Nat.le_refl n)
 have h2:runS step (fun i=>L i||(L' i&&decide (i < n))) st n=runS step L' st n:=Ug n fun i hi=>by
  cases h:L i with
  | true=>simp[hsub i h]
  | false=>simp[hi]
 rw[h2] at this
 exact this
def V06 (all:List Oper) (o:Oper) (st:St):Option Bool:=
 match o.guard with
 | none=>some true
 | some (j,want)=>match Z0f all j with
   | none=>none
   | some t=>match st.tm t with
     | .bool b=>some (b==want)
     | .undef=>some false
     | _=>none
theorem J2j {R:Type} {all:List Oper} {o:Oper} {st:St} {run skip:St→Option R} {r:R} (h:gate all o st run skip=some r) :
    (V06 all o st=some true∧run st=some r)∨(V06 all o st=some false∧skip st=some r):=by
 unfold gate at h
 unfold V06
 split at h
 ·rename_i hg
  rw[hg]
  exact .inl ⟨rfl,h⟩
 ·rename_i j want hg
  rw[hg]
  simp only
  split at h
  ·cases h
  ·rename_i t hd
   split at h
   ·rename_i b hb
    rw[hd]
    simp only[hb]
    cases want<;>cases b<;>simp only[cond_true,cond_false] at h<;>rw[X18 hb] at h<;>simp[h]
   ·rename_i hu
    rw[hd]
    simp only[hu]
    exact .inr ⟨trivial,h⟩
   ·cases h
theorem Z0m {c:Cx} {st:St} {a:Act} {w:World} {μ:Nat→Pl} {F:Nat→Prop} (hi:Inv c st a w μ F) {ops:Array Oper} {o:Oper} {b:Bool} (h:V06 ops.toList o st=some b) :
    Region.wanted o (yielded ops a.tmps)=b:=by
 unfold V06 at h
 unfold Region.wanted
 split at h
 ·rename_i hg
  rw[hg]
  cases h
  rfl
 ·rename_i j want hg
  rw[hg]
  simp only
  split at h
  ·cases h
  ·rename_i t hd
   split at h
   ·rename_i b hb
    rw[U12 hi hd hb]
    cases h
    cases want<;>cases b<;>rfl
   ·rename_i hu
    rw[X0x hi hd hu]
    cases h
    rfl
   ·cases h
def Z3 (o:Oper):Option Eff→St→St
 | none,st=>st.putO o.dst .undef
 | some f,st=>(st.apply f).2.putO o.dst (st.apply f).1
mutual
theorem Xa (ks:List Nat):∀ (x:AV),x.solid=true→x.kill ks=x
 | .agg cs,h=>by simp only[AV.solid] at h;simp only[AV.kill,Js ks cs h]
 | .tup cs,h=>by simp only[AV.solid] at h;simp only[AV.kill,Js ks cs h]
 | .fn g cs,h=>by simp only[AV.solid] at h;simp only[AV.kill,Js ks cs h]
 | .rptr _ _ _ _,h=>by simp[AV.solid] at h
 | .rowA _,h=>by simp[AV.solid] at h
 | .rowS _ _ _ _,h=>by simp[AV.solid] at h
 | .ptr _ _,_=>by simp only[AV.kill]
 | .mp _,_=>by simp only[AV.kill]
 | .psl _ _,_=>by simp only[AV.kill]
 | .int _ _,_=>by simp only[AV.kill]
 | .bool _,_=>by simp only[AV.kill]
 | .str _,_=>by simp only[AV.kill]
 | .list _ _,_=>by simp only[AV.kill]
 | .np,_=>by simp only[AV.kill]
 | .nm,_=>by simp only[AV.kill]
 | .nf,_=>by simp only[AV.kill]
 | .ns,_=>by simp only[AV.kill]
 | .lptr _ _ _ _,_=>by simp only[AV.kill]
 | .undef,_=>by simp only[AV.kill]
 | .dead,h=>by simp[AV.solid] at h
theorem Js (ks:List Nat):∀ (cs:List AV),AV.solidL cs=true→AV.killL ks cs=cs
 | [],_=>by simp only[AV.killL]
 | c::cs,h=>by
   simp only[AV.solidL,Bool.and_eq_true] at h
   simp only[AV.killL,Xa ks c h.1,Js ks cs h.2]
end
mutual
theorem Zj (ks:List Nat):∀ (x:AV),(x.kill ks).solid=true→x.kill ks=x
 | .agg cs,h=>by simp only[AV.kill,AV.solid] at h;simp only[AV.kill,Xs ks cs h]
 | .tup cs,h=>by simp only[AV.kill,AV.solid] at h;simp only[AV.kill,Xs ks cs h]
 | .fn g cs,h=>by simp only[AV.kill,AV.solid] at h;simp only[AV.kill,Xs ks cs h]
 | .rptr k t i off,h=>by
   simp only[AV.kill] at h
   cases hc:ks.contains k<;>rw[hc] at h<;>simp[AV.solid] at h
 | .rowA k,h=>by
   simp only[AV.kill] at h
   cases hc:ks.contains k<;>rw[hc] at h<;>simp[AV.solid] at h
 | .rowS k off n c,h=>by
   simp only[AV.kill] at h
   cases hc:ks.contains k<;>rw[hc] at h<;>simp[AV.solid] at h
 | .ptr _ _,_=>by simp only[AV.kill]
 | .mp _,_=>by simp only[AV.kill]
 | .psl _ _,_=>by simp only[AV.kill]
 | .int _ _,_=>by simp only[AV.kill]
 | .bool _,_=>by simp only[AV.kill]
 | .str _,_=>by simp only[AV.kill]
 | .list _ _,_=>by simp only[AV.kill]
 | .np,_=>by simp only[AV.kill]
 | .nm,_=>by simp only[AV.kill]
 | .nf,_=>by simp only[AV.kill]
 | .ns,_=>by simp only[AV.kill]
 | .lptr _ _ _ _,_=>by simp only[AV.kill]
 | .undef,_=>by simp only[AV.kill]
 | .dead,_=>by simp only[AV.kill]
theorem Xs (ks:List Nat):∀ (cs:List AV),AV.solidL (AV.killL ks cs)=true→AV.killL ks cs=cs
 | [],_=>by simp only[AV.killL]
 | c::cs,h=>by
   simp only[AV.killL,AV.solidL,Bool.and_eq_true] at h
   simp only[AV.killL,Zj ks c h.1,Xs ks cs h.2]
end
mutual
theorem Q0l {n0:Nat} {ks:List Nat} (hk:∀ k,k < n0→ks.contains k=false):∀ (x:AV),x.low n0=true→x.kill ks=x
 | .agg cs,h=>by simp only[AV.low] at h;simp only[AV.kill,Q02 hk cs h]
 | .tup cs,h=>by simp only[AV.low] at h;simp only[AV.kill,Q02 hk cs h]
 | .fn g cs,h=>by simp only[AV.low] at h;simp only[AV.kill,Q02 hk cs h]
 | .rptr k t i off,h=>by simp only[AV.low,Nat.blt_eq] at h;simp only[AV.kill,hk k h,cond_false]
 | .rowA k,h=>by simp only[AV.low,Nat.blt_eq] at h;simp only[AV.kill,hk k h,cond_false]
 | .rowS k _ _ _,h=>by simp only[AV.low,Nat.blt_eq] at h;simp only[AV.kill,hk k h,cond_false]
 | .ptr _ _,_=>by simp only[AV.kill]
 | .mp _,_=>by simp only[AV.kill]
 | .psl _ _,_=>by simp only[AV.kill]
 | .int _ _,_=>by simp only[AV.kill]
 | .bool _,_=>by simp only[AV.kill]
 | .str _,_=>by simp only[AV.kill]
 | .list _ _,_=>by simp only[AV.kill]
 | .np,_=>by simp only[AV.kill]
 | .nm,_=>by simp only[AV.kill]
 | .nf,_=>by simp only[AV.kill]
 | .ns,_=>by simp only[AV.kill]
 | .lptr _ _ _ _,_=>by simp only[AV.kill]
 | .undef,_=>by simp only[AV.kill]
 | .dead,h=>by simp[AV.low] at h
theorem Q02 {n0:Nat} {ks:List Nat} (hk:∀ k,k < n0→ks.contains k=false):∀ (cs:List AV),AV.lowL n0 cs=true→AV.killL ks cs=cs
 | [],_=>by simp only[AV.killL]
 | c::cs,h=>by
   simp only[AV.lowL,Bool.and_eq_true] at h
   simp only[AV.killL,Q0l hk c h.1,Q02 hk cs h.2]
end
mutual
theorem U0n {n0:Nat} {ks:List Nat}:∀ (x:AV),(x.kill ks).low n0=true→x.kill ks=x
 | .agg cs,h=>by simp only[AV.kill,AV.low] at h;simp only[AV.kill,Qy cs h]
 | .tup cs,h=>by simp only[AV.kill,AV.low] at h;simp only[AV.kill,Qy cs h]
 | .fn g cs,h=>by simp only[AV.kill,AV.low] at h;simp only[AV.kill,Qy cs h]
 | .rptr k t i off,h=>by
   simp only[AV.kill] at h ⊢
   cases hc:ks.contains k<;>rw[hc] at h
   ·rfl
   ·simp[AV.low] at h
 | .rowA k,h=>by
   simp only[AV.kill] at h ⊢
   cases hc:ks.contains k<;>rw[hc] at h
   ·rfl
   ·simp[AV.low] at h
 | .rowS k off n c,h=>by
   simp only[AV.kill] at h ⊢
   cases hc:ks.contains k<;>rw[hc] at h
   ·rfl
   ·simp[AV.low] at h
 | .ptr _ _,_=>by simp only[AV.kill]
 | .mp _,_=>by simp only[AV.kill]
 | .psl _ _,_=>by simp only[AV.kill]
 | .int _ _,_=>by simp only[AV.kill]
 | .bool _,_=>by simp only[AV.kill]
 | .str _,_=>by simp only[AV.kill]
 | .list _ _,_=>by simp only[AV.kill]
 | .np,_=>by simp only[AV.kill]
 | .nm,_=>by simp only[AV.kill]
 | .nf,_=>by simp only[AV.kill]
 | .ns,_=>by simp only[AV.kill]
 | .lptr _ _ _ _,_=>by simp only[AV.kill]
 | .undef,_=>by simp only[AV.kill]
 | .dead,_=>by simp only[AV.kill]
theorem Qy {n0:Nat} {ks:List Nat}:∀ (cs:List AV),AV.lowL n0 (AV.killL ks cs)=true→AV.killL ks cs=cs
 | [],_=>by simp only[AV.killL]
 | c::cs,h=>by
   simp only[AV.killL,AV.lowL,Bool.and_eq_true] at h
   simp only[AV.killL,U0n c h.1,Qy cs h.2]
end
mutual
theorem Q3n {n0:Nat}:∀ (x:AV),x.low n0=true→∀ k∈x.refs,k < n0
 | .agg cs,h=>by simp only[AV.low] at h;simp only[AV.refs];exact Zk cs h
 | .tup cs,h=>by simp only[AV.low] at h;simp only[AV.refs];exact Zk cs h
 | .fn g cs,h=>by simp only[AV.low] at h;simp only[AV.refs];exact Zk cs h
 | .rptr k t i off,h=>by simp only[AV.low,Nat.blt_eq] at h;simp only[AV.refs,List.mem_singleton];rintro _ rfl;exact h
 | .rowA k,h=>by simp only[AV.low,Nat.blt_eq] at h;simp only[AV.refs,List.mem_singleton];rintro _ rfl;exact h
 | .rowS k _ _ _,h=>by simp only[AV.low,Nat.blt_eq] at h;simp only[AV.refs,List.mem_singleton];rintro _ rfl;exact h
 | .ptr k _,h=>by simp only[AV.low,Nat.blt_eq] at h;simp only[AV.refs,List.mem_singleton];rintro _ rfl;exact h
 | .mp k,h=>by simp only[AV.low,Nat.blt_eq] at h;simp only[AV.refs,List.mem_singleton];rintro _ rfl;exact h
 | .psl k n'',h=>by simp only[AV.low,Nat.blt_eq] at h;simp only[AV.refs,List.mem_singleton];rintro _ rfl;exact h
 | .int _ _,_=>by simp[AV.refs]
 | .bool _,_=>by simp[AV.refs]
 | .str _,_=>by simp[AV.refs]
 | .list _ _,_=>by simp[AV.refs]
 | .np,_=>by simp[AV.refs]
 | .nm,_=>by simp[AV.refs]
 | .nf,_=>by simp[AV.refs]
 | .ns,_=>by simp[AV.refs]
 | .lptr _ _ _ _,_=>by simp[AV.refs]
 | .undef,_=>by simp[AV.refs]
 | .dead,h=>by simp[AV.low] at h
theorem Zk {n0:Nat}:∀ (cs:List AV),AV.lowL n0 cs=true→∀ k∈AV.refsL cs,k < n0
 | [],_=>by simp[AV.refsL]
 | c::cs,h=>by
   simp only[AV.lowL,Bool.and_eq_true] at h
   simp only[AV.refsL,List.mem_append]
   rintro k (hk | hk)
   ·exact Q3n c h.1 k hk
   ·exact Zk cs h.2 k hk
end
theorem X1q {n0:Nat}:∀ {xs:List AV},AV.lowL n0 xs=true→∀ x∈xs,x.low n0=true
 | [],_,_,h=>by cases h
 | y::ys,h,x,hx=>by
   simp only[AV.lowL,Bool.and_eq_true] at h
   rcases List.mem_cons.1 hx with rfl | hx
   ·exact h.1
   ·exact X1q h.2 x hx
theorem Z1x {n0:Nat} {ks:List Nat} (hk:∀ k,k < n0→ks.contains k=false) {o:LObj} (h:o.low n0=true):o.kill ks=o:=by
 cases o with
 | boxT g cs=>simp only[LObj.low] at h;simp only[LObj.kill,Q02 hk cs h]
 | row t xs=>rfl
 | mpo kt vt es=>rfl
 | mpb kt ki t es foc=>simp[LObj.low] at h
 | gone=>simp[LObj.low] at h
theorem Q1v {n0:Nat} {ks:List Nat} {o:LObj} (h:(o.kill ks).low n0=true):o.kill ks=o:=by
 cases o with
 | boxT g cs=>simp only[LObj.kill,LObj.low] at h;simp only[LObj.kill,Qy cs h]
 | row t xs=>rfl
 | mpo kt vt es=>rfl
 | mpb kt ki t es foc=>simp[LObj.kill,LObj.low] at h
 | gone=>rfl
theorem Zn {ks:List Nat} {o:LObj} (h:o.solid=true):o.kill ks=o:=by
 cases o with
 | boxT g cs=>simp only[LObj.solid] at h;simp only[LObj.kill,Js ks cs h]
 | row t xs=>rfl
 | mpo kt vt es=>rfl
 | mpb kt ki t es foc=>simp[LObj.solid] at h
 | gone=>simp[LObj.solid] at h
theorem Vw {ks:List Nat} {o:LObj} (h:(o.kill ks).solid=true):o.kill ks=o:=by
 cases o with
 | boxT g cs=>simp only[LObj.kill,LObj.solid] at h;simp only[LObj.kill,Xs ks cs h]
 | row t xs=>rfl
 | mpo kt vt es=>rfl
 | mpb kt ki t es foc=>simp[LObj.kill,LObj.solid] at h
 | gone=>rfl
mutual
theorem J0r {n0:Nat} {ks:List Nat} (hk:∀ k,n0≤k→ks.contains k=false):∀ (x:AV),x.high n0=true→x.kill ks=x
 | .agg cs,h=>by simp only[AV.high] at h;simp only[AV.kill,Xv hk cs h]
 | .tup cs,h=>by simp only[AV.high] at h;simp only[AV.kill,Xv hk cs h]
 | .fn g cs,h=>by simp only[AV.high] at h;simp only[AV.kill,Xv hk cs h]
 | .rptr k t i off,h=>by simp only[AV.high,Nat.ble_eq] at h;simp only[AV.kill,hk k h,cond_false]
 | .rowA k,h=>by simp only[AV.high,Nat.ble_eq] at h;simp only[AV.kill,hk k h,cond_false]
 | .rowS k _ _ _,h=>by simp only[AV.high,Nat.ble_eq] at h;simp only[AV.kill,hk k h,cond_false]
 | .ptr _ _,_=>by simp only[AV.kill]
 | .mp _,_=>by simp only[AV.kill]
 | .psl _ _,_=>by simp only[AV.kill]
 | .int _ _,_=>by simp only[AV.kill]
 | .bool _,_=>by simp only[AV.kill]
 | .str _,_=>by simp only[AV.kill]
 | .list _ _,_=>by simp only[AV.kill]
 | .np,_=>by simp only[AV.kill]
 | .nm,_=>by simp only[AV.kill]
 | .nf,_=>by simp only[AV.kill]
 | .ns,_=>by simp only[AV.kill]
 | .lptr _ _ _ _,_=>by simp only[AV.kill]
 | .undef,_=>by simp only[AV.kill]
 | .dead,h=>by simp[AV.high] at h
theorem Xv {n0:Nat} {ks:List Nat} (hk:∀ k,n0≤k→ks.contains k=false):∀ (cs:List AV),AV.highL n0 cs=true→AV.killL ks cs=cs
 | [],_=>by simp only[AV.killL]
 | c::cs,h=>by
   simp only[AV.highL,Bool.and_eq_true] at h
   simp only[AV.killL,J0r hk c h.1,Xv hk cs h.2]
end
mutual
theorem Z1n {n0:Nat} {ks:List Nat}:∀ (x:AV),(x.kill ks).high n0=true→x.kill ks=x
 | .agg cs,h=>by simp only[AV.kill,AV.high] at h;simp only[AV.kill,Qw cs h]
 | .tup cs,h=>by simp only[AV.kill,AV.high] at h;simp only[AV.kill,Qw cs h]
 | .fn g cs,h=>by simp only[AV.kill,AV.high] at h;simp only[AV.kill,Qw cs h]
 | .rptr k t i off,h=>by
   simp only[AV.kill] at h ⊢
   cases hc:ks.contains k<;>rw[hc] at h
   ·rfl
   ·simp[AV.high] at h
 | .rowA k,h=>by
   simp only[AV.kill] at h ⊢
   cases hc:ks.contains k<;>rw[hc] at h
   ·rfl
   ·simp[AV.high] at h
 | .rowS k off n c,h=>by
   simp only[AV.kill] at h ⊢
   cases hc:ks.contains k<;>rw[hc] at h
   ·rfl
   ·simp[AV.high] at h
 | .ptr _ _,_=>by simp only[AV.kill]
 | .mp _,_=>by simp only[AV.kill]
 | .psl _ _,_=>by simp only[AV.kill]
 | .int _ _,_=>by simp only[AV.kill]
 | .bool _,_=>by simp only[AV.kill]
 | .str _,_=>by simp only[AV.kill]
 | .list _ _,_=>by simp only[AV.kill]
 | .np,_=>by simp only[AV.kill]
 | .nm,_=>by simp only[AV.kill]
 | .nf,_=>by simp only[AV.kill]
 | .ns,_=>by simp only[AV.kill]
 | .lptr _ _ _ _,_=>by simp only[AV.kill]
 | .undef,_=>by simp only[AV.kill]
 | .dead,_=>by simp only[AV.kill]
theorem Qw {n0:Nat} {ks:List Nat}:∀ (cs:List AV),AV.highL n0 (AV.killL ks cs)=true→AV.killL ks cs=cs
 | [],_=>by simp only[AV.killL]
 | c::cs,h=>by
   simp only[AV.killL,AV.highL,Bool.and_eq_true] at h
   simp only[AV.killL,Z1n c h.1,Qw cs h.2]
end
theorem J0g {n0:Nat} {ks:List Nat} (hk:∀ k,n0≤k→ks.contains k=false) {o:LObj} (h:o.high n0=true):o.kill ks=o:=by
 cases o with
 | boxT g cs=>simp only[LObj.high] at h;simp only[LObj.kill,Xv hk cs h]
 | row t xs=>rfl
 | mpo kt vt es=>rfl
 | mpb kt ki t es foc=>simp[LObj.high] at h
 | gone=>simp[LObj.high] at h
theorem Z1g {n0:Nat} {ks:List Nat} {o:LObj} (h:(o.kill ks).high n0=true):o.kill ks=o:=by
 cases o with
 | boxT g cs=>simp only[LObj.kill,LObj.high] at h;simp only[LObj.kill,Qw cs h]
 | row t xs=>rfl
 | mpo kt vt es=>rfl
 | mpb kt ki t es foc=>simp[LObj.kill,LObj.high] at h
 | gone=>rfl
inductive Cl (n0:Nat):Option Eff→Cls→Prop where
 | skip {l:List Nat}:Cl n0 none (0,l)
 | solid {v:AV} {c:Nat} {l:List Nat} (hc:c=0∨c=10∨c=13) (hv:v.solid=true):Cl n0 (some (.val v)) (c,l)
 | low {v:AV} {c:Nat} {l:List Nat} (hc:c=3) (hv:v.low n0=true):Cl n0 (some (.val v)) (c,l)
 | lowIn {v:AV} {c:Nat} {l:List Nat} (hc:c=1∨c=15) (hv:v.low n0=true) (hr:∀ k∈v.refs,k∈l):Cl n0 (some (.val v)) (c,l)
 | val {v:AV} {c:Nat} {l:List Nat} (hc:c=2∨c=4):Cl n0 (some (.val v)) (c,l)
 | new {os:List LObj} {v:AV} {l:List Nat}:Cl n0 (some (.new os v)) (5,l)
 | upd {k:Nat} {o:LObj} {v:AV}:Cl n0 (some (.upd k o v)) (6,[k])
 | fil {k:Nat} {o:LObj} {v:AV} (hk:k < n0) (ho:o.solid=true) (hv:v.solid=true):Cl n0 (some (.upd k o v)) (14,[k])
 | app0 {k:Nat} {o:LObj} {v:AV} {c:Nat} {l:List Nat} (hc:c=7∨c=16) (hk:n0≤k):Cl n0 (some (.app k o v)) (c,l)
 | app {k:Nat} {o:LObj} {v:AV}:Cl n0 (some (.app k o v)) (8,[k])
 | call {ks:List Nat} {objs:List LObj} {vs:List AV}:Cl n0 (some (.call [] ks objs vs)) (8,ks)
 | plain {ks:List Nat} {objs:List LObj} {vs:List AV} (hne:ks≠[]) (hl:objs.length=ks.length) (hk:∀ k∈ks,k < n0) (hv:∀ i∈AV.refsL vs,i < ks.length) (ho:∀ ob∈objs,∀ i∈ob.refs,i < ks.length):Cl n0 (some (.call [] ks objs vs)) (11,ks)
 | alloc {os:List LObj} {v:AV} {l:List Nat} (hv:v.high n0=true) (ho:os.all (LObj.high n0)=true):Cl n0 (some (.new os v)) (12,l)
 | rest {e:Option Eff} {l:List Nat}:Cl n0 e (9,l)
theorem cl_of (n0:Nat) (st:St) (o:Op) (f:Eff):Cl n0 (some f) (X1 n0 st o f):=by
 unfold X1
 cases f with
 | val v=>
   simp only
   cases h1:((Ul o||(AV.refsL (U1 st o)).isEmpty)&&(AV.solidL (U1 st o)&&v.solid)) with
   | true=>
     simp only[Bool.and_eq_true] at h1
     exact .solid (.inl rfl) h1.2.2
   | false=>
     cases Ul o with
     | true=>
       cases h2:(AV.lowL n0 (U1 st o)&&v.low n0) with
       | true=>
         simp only[Bool.and_eq_true] at h2
         exact .lowIn (.inl rfl) h2.2 fun k hk=>List.mem_append_right _ hk
       | false=>exact .val (.inl rfl)
     | false=>
       cases h2:((AV.lowL n0 (U1 st o)&&v.low n0)&&(AV.refsL (U1 st o)).all (fun k=>(st.hp k).low n0)) with
       | true=>
         simp only[Bool.and_eq_true] at h2
         cases h3:((AV.solidL (U1 st o)&&v.solid)&&(AV.refsL (U1 st o)).all (fun k=>(st.hp k).solid)) with
         | true=>
           simp only[Bool.and_eq_true] at h3
           exact .solid (.inr (.inl rfl)) h3.1.2
         | false=>
           cases h5:(v.refs.all (fun k=>(AV.refsL (U1 st o)).contains k)&&(AV.refsL (U1 st o)).all (fun k=>(st.hp k).solid)) with
           | true=>
             simp only[Bool.and_eq_true,List.all_eq_true] at h5
             exact .lowIn (.inr rfl) h2.1.2 fun k hk=>by simpa using h5.1 k hk
           | false=>exact .low rfl h2.1.2
       | false=>
         cases h4:((AV.highL n0 (U1 st o)&&v.solid)&&(AV.refsL (U1 st o)).all (fun k=>Nat.ble n0 k&&(st.hp k).high n0)) with
         | true=>
           simp only[Bool.and_eq_true] at h4
           exact .solid (.inr (.inr rfl)) h4.1.2
         | false=>exact .val (.inr rfl)
 | new os v=>
   simp only
   cases h:(Z1d st o&&(v.high n0&&os.all (LObj.high n0))) with
   | true=>
     simp only[Bool.and_eq_true] at h
     exact .alloc h.2.1 h.2.2
   | false=>exact .new
 | upd k ob v=>
   cases o<;>first | exact .upd | (simp only;cases h:((ob.solid&&v.solid)&&Nat.blt k n0) with
    | true=>
      simp only[Bool.and_eq_true,Nat.blt_eq] at h
      exact .fil h.2 h.1.1 h.1.2
    | false=>exact .rest)
 | app k ob v=>
   simp only
   cases h:Nat.ble n0 k with
   | true=>
     cases Z19 o with
     | true=>exact .app0 (.inr rfl) (Nat.ble_eq▸h)
     | false=>exact .app0 (.inl rfl) (Nat.ble_eq▸h)
   | false=>exact .app
 | call fz ks objs vs=>
   cases fz with
   | nil=>
     cases ks with
     | nil=>exact .call
     | cons k ks=>
       simp only
       cases h:Xu n0 st o (k::ks) objs vs with
       | true=>
         simp only[Xu,Bool.and_eq_true,List.all_eq_true] at h
         obtain⟨_,h1,h2,_,h3,h4⟩:=h
         exact .plain (by simp) (Nat.eq_of_beq_eq_true h1) (fun j hj=>by simpa using h2 j hj) (fun i hi=>by simpa using h3 i hi) (fun ob hob i hi=>by simpa using h4 ob hob i hi)
       | false=>exact .call
   | cons a b=>exact .rest
 | frz ks os v=>exact .rest
 | foc k ob os v=>exact .rest
structure Neat (o:Oper) (s:St→St) (m:St→St) (v:AV):Prop where
 eq:∀ st,s st=(m st).putO o.dst v
 tm:∀ st,(m st).tm=st.tm
 put:∀ st d x,m (st.putO d x)=(m st).putO d x
theorem Q0a (d:Option Nat) (x:AV):∀ (os:List LObj) (st:St),(st.putO d x).news os=(st.news os).putO d x
 | [],_=>rfl
 | o::os,st=>by
   simp only[St.news]
   rw[←Q0a d x os]
   cases d<;>rfl
theorem U0b (o:Oper) (v:AV):Neat o (Z3 o (some (.val v))) id v:=⟨fun _=>rfl,fun _=>rfl,fun _ _ _=>rfl⟩
theorem Q1l (o:Oper):Neat o (Z3 o none) id .undef:=⟨fun _=>rfl,fun _=>rfl,fun _ _ _=>rfl⟩
theorem X15 (o:Oper) (os:List LObj) (v:AV):Neat o (Z3 o (some (.new os v))) (fun st=>st.news os) v:=
 ⟨fun _=>rfl,fun st=>Xx os st,fun st d x=>Q0a d x os st⟩
theorem J00 (o:Oper) (k:Nat) (ob:LObj) (v:AV):Neat o (Z3 o (some (.upd k ob v))) (fun st=>st.upd k ob) v:=
 ⟨fun _=>rfl,fun st=>rfl,fun st d x=>by cases d<;>rfl⟩
theorem Jw (st:St) {d d':Option Nat} (h:∀ t,d=some t→d'≠some t) (x y:AV):(st.putO d x).putO d' y=(st.putO d' y).putO d x:=by
 cases d with
 | none=>rfl
 | some t=>
   cases d' with
   | none=>rfl
   | some t'=>
     have hne:t'≠t:=fun e=>h t rfl (by rw[e])
     simp only[St.putO,St.put]
     congr 1
     funext u
     cases h1:u==t' with
     | false=>simp
     | true=>
       have:=eq_of_beq h1
       subst this
       have h2:(u==t)=false:=by simp[hne]
       simp[h2]
theorem J1t {n0:Nat} {o:Oper} {e:Option Eff} {c:Cls} (h:Cl n0 e c) (hc:c.1≤4∨c.1=10∨c.1=13∨c.1=15):∃ v,Neat o (Z3 o e) id v:=by
 cases h with
 | skip=>exact⟨_,Q1l o⟩
 | solid _ _=>exact⟨_,U0b o _⟩
 | low _ _=>exact⟨_,U0b o _⟩
 | lowIn _ _ _=>exact⟨_,U0b o _⟩
 | val _=>exact⟨_,U0b o _⟩
 | app0 h _=>simp only at hc;omega
 | _=>exact absurd hc (by simp)
theorem U1s {n0:Nat} {o:Oper} {e:Option Eff} {c:Cls} (h:Cl n0 e c) (hc:c.1=0∨c.1=10∨c.1=13):∃ v,v.solid=true∧∀ st,Z3 o e st=st.putO o.dst v:=by
 cases h with
 | skip=>exact⟨.undef,rfl,fun _=>rfl⟩
 | solid _ hv=>exact⟨_,hv,fun _=>rfl⟩
 | low h _=>simp only at hc;omega
 | lowIn h _ _=>simp only at hc;omega
 | val h=>simp only at hc;omega
 | app0 h _=>simp only at hc;omega
 | _=>exact absurd hc (by simp)
theorem J4e {n0:Nat} {o:Oper} {e:Option Eff} {c:Cls} (h:Cl n0 e c) (hc:c.1=1∨c.1=3∨c.1=15):∃ v,v.low n0=true∧∀ st,Z3 o e st=st.putO o.dst v:=by
 cases h with
 | low _ hv=>exact⟨_,hv,fun _=>rfl⟩
 | lowIn _ hv _=>exact⟨_,hv,fun _=>rfl⟩
 | solid h _=>simp only at hc;omega
 | val h=>simp only at hc;omega
 | app0 h _=>simp only at hc;omega
 | _=>exact absurd hc (by simp)
theorem cl_in {n0:Nat} {o:Oper} {e:Option Eff} {c:Cls} (h:Cl n0 e c) (hc:c.1=1∨c.1=15):∃ v,v.low n0=true∧(∀ k∈v.refs,k∈c.2)∧∀ st,Z3 o e st=st.putO o.dst v:=by
 cases h with
 | lowIn _ hv hr=>exact⟨_,hv,hr,fun _=>rfl⟩
 | low h _=>simp only at hc;omega
 | solid h _=>simp only at hc;omega
 | val h=>simp only at hc;omega
 | app0 h _=>simp only at hc;omega
 | _=>exact absurd hc (by simp)
theorem U0i {n0:Nat} {o:Oper} {e:Option Eff} {c:Cls} (h:Cl n0 e c) (hc:c.1≤6∨c.1=12∨c.1=14):∃ m v,Neat o (Z3 o e) m v∧(c.1≤5∨c.1=12→∀ st,st.nx≤(m st).nx∧∀ k,k < st.nx→(m st).hp k=st.hp k) ∧
    (c.1=6∨c.1=14→∀ st,(m st).nx=st.nx∧∀ k,k ∉ c.2→(m st).hp k=st.hp k):=by
 have vals:∀ (v:AV),c.1≠6∧c.1≠14→∃ m v',Neat o (Z3 o (some (.val v))) m v'∧(c.1≤5∨c.1=12→∀ st,st.nx≤(m st).nx∧∀ k,k < st.nx→(m st).hp k=st.hp k) ∧
     (c.1=6∨c.1=14→∀ st,(m st).nx=st.nx∧∀ k,k ∉ c.2→(m st).hp k=st.hp k):=fun v h6=>⟨_,v,U0b o v,fun _ st=>⟨Nat.le_refl _,fun _ _=>rfl⟩,fun h=>absurd h (by omega)⟩
 cases h with
 | skip=>exact⟨_,_,Q1l o,fun _ st=>⟨Nat.le_refl _,fun _ _=>rfl⟩,fun h=>by simp at h⟩
 | solid h _=>exact vals _ (by simp only;omega)
 | low h _=>exact vals _ (by simp only;omega)
 | lowIn h _ _=>exact vals _ (by simp only;omega)
 | val h=>exact vals _ (by simp only;omega)
 | new=>exact⟨_,_,X15 o _ _,fun _ st=>⟨by rw[U7];omega,fun k hk=>Ve _ st k hk⟩,fun h=>by simp at h⟩
 | alloc _ _=>exact⟨_,_,X15 o _ _,fun _ st=>⟨by rw[U7];omega,fun k hk=>Ve _ st k hk⟩,fun h=>by simp at h⟩
 | @upd k ob v=>
   refine⟨_,v,J00 o k ob v,fun hc=>by simp at hc,fun _ st=>⟨rfl,fun j hj=>?_⟩⟩
   have:(j==k)=false:=by simpa using hj
   simp[St.upd,this]
 | @fil k ob v _ _ _=>
   refine⟨_,v,J00 o k ob v,fun hc=>by simp at hc,fun _ st=>⟨rfl,fun j hj=>?_⟩⟩
   have:(j==k)=false:=by simpa using hj
   simp[St.upd,this]
 | app0 h _=>simp only at hc;omega
 | _=>exact absurd hc (by simp)
theorem Q0c {o:Oper} (s:St) (v:AV) (t:Nat) (ht:∀ d,o.dst=some d→t≠d):(s.putO o.dst v).tm t=s.tm t:=by
 cases hdst:o.dst with
 | none=>rfl
 | some d=>
   have:(t==d)=false:=by simp[ht d hdst]
   simp[St.putO,St.put,this]
theorem Ud (s:St) (d:Option Nat) (v:AV):(s.putO d v).hp=s.hp:=by cases d<;>rfl
theorem Jg (s:St) (d:Option Nat) (v:AV):(s.putO d v).nx=s.nx:=by cases d<;>rfl
theorem V09 {o:Oper} (k:Nat) (ob:LObj) (v:AV):(∀ st t,(∀ d,o.dst=some d→t≠d)→(Z3 o (some (.app k ob v)) st).tm t=(st.tm t).kill [k]) ∧
    (∀ st d x,x.kill [k]=x→(∀ t,d=some t→o.dst≠some t)→Z3 o (some (.app k ob v)) (st.putO d x)=(Z3 o (some (.app k ob v)) st).putO d x) ∧
    (∀ st j,j≠k→(Z3 o (some (.app k ob v)) st).hp j=(st.hp j).kill [k])∧∀ st,(Z3 o (some (.app k ob v)) st).nx=st.nx:=by
 refine⟨fun st t ht=>?_,fun st d x hx hd=>?_,fun st j hj=>?_,fun st=>?_⟩
 ·simp only[Z3,St.apply]
  rw[Q0c _ _ t ht]
  rfl
 ·simp only[Z3,St.apply]
  rw[←Jw _ hd]
  congr 1
  cases d with
  | none=>rfl
  | some t=>
    simp only[St.putO,St.put,St.kill,St.upd]
    congr 1
    funext u
    cases u==t with
    | true=>simp[hx]
    | false=>rfl
 ·simp only[Z3,St.apply,Ud]
  have:(j==k)=false:=by simp[hj]
  simp[St.upd,St.kill,this]
 ·simp only[Z3,St.apply,Jg]
  rfl
theorem Q1x {n0:Nat} {o:Oper} {e:Option Eff} {c:Cls} (h:Cl n0 e c) (hc:c.1=7∨c.1=16):∃ k ob v,e=some (.app k ob v)∧n0≤k:=by
 cases h with
 | app0 _ hk=>exact⟨_,_,_,rfl,hk⟩
 | solid h _=>simp only at hc;omega
 | low h _=>simp only at hc;omega
 | lowIn h _ _=>simp only at hc;omega
 | val h=>simp only at hc;omega
 | _=>exact absurd hc (by simp)
theorem Z1u {n0:Nat} {e:Option Eff} {c:Cls} (h:Cl n0 e c) (hc:c.1=14):∃ k ob v,e=some (.upd k ob v)∧c.2=[k]∧k < n0∧ob.solid=true∧v.solid=true:=by
 cases h with
 | fil hk ho hv=>exact⟨_,_,_,rfl,rfl,hk,ho,hv⟩
 | solid h _=>simp only at hc;omega
 | low h _=>simp only at hc;omega
 | lowIn h _ _=>simp only at hc;omega
 | val h=>simp only at hc;omega
 | app0 h _=>simp only at hc;omega
 | _=>exact absurd hc (by simp)
theorem Z11 {n0:Nat} {o:Oper} {e:Option Eff} {c:Cls} (h:Cl n0 e c) (hc:c.1=8∨c.1=11):(∀ st t,(∀ d,o.dst=some d→t≠d)→∃ ks,(Z3 o e st).tm t=(st.tm t).kill ks) ∧
    (∀ st d x,x.solid=true→(∀ t,d=some t→o.dst≠some t)→Z3 o e (st.putO d x)=(Z3 o e st).putO d x) ∧
    (∀ st,st.nx≤(Z3 o e st).nx∧∀ j,j < st.nx→j ∉ c.2→∃ ks,(Z3 o e st).hp j=(st.hp j).kill ks)∧(c.1=11→∀ st,(Z3 o e st).nx=st.nx):=by
 have knil:∀ (ob:LObj),ob.kill []=ob:=V1l
 have calls:∀ (ks:List Nat) (objs:List LObj) (vs:List AV),(∀ st t,(∀ d,o.dst=some d→t≠d)→∃ ks',(Z3 o (some (.call [] ks objs vs)) st).tm t=(st.tm t).kill ks') ∧
     (∀ st d x,x.solid=true→(∀ t,d=some t→o.dst≠some t)→Z3 o (some (.call [] ks objs vs)) (st.putO d x)=(Z3 o (some (.call [] ks objs vs)) st).putO d x) ∧
     (∀ st,st.nx≤(Z3 o (some (.call [] ks objs vs)) st).nx∧∀ j,j < st.nx→j ∉ ks→∃ ks',(Z3 o (some (.call [] ks objs vs)) st).hp j=(st.hp j).kill ks'):=fun ks objs vs=>by
  refine⟨fun st t ht=>?_,fun st d x hx hd=>?_,fun st=>⟨?_,fun j hjn hj=>?_⟩⟩
  ·simp only[Z3,St.apply]
   cases ks with
   | nil=>
     refine⟨[],?_⟩
     rw[Q0c _ _ t ht,Xx]
     exact(Zz _).symm
   | cons k ks=>
     refine⟨V1 st.hp (k::ks),?_⟩
     rw[Q0c _ _ t ht,Xx]
  ·simp only[Z3,St.apply]
   cases ks with
   | nil=>
     rw[Jg,Q0a]
     exact Jw _ (fun t ht=>hd t ht) _ _
   | cons k ks=>
     rw[Jg,Ud,←Jw _ hd]
     congr 1
     rw[←Q0a]
     congr 1
     cases d with
     | none=>rfl
     | some t=>
       simp only[St.putO,St.put]
       congr 1
       funext u
       cases u==t with
       | true=>simp[Xa _ x hx]
       | false=>rfl
  ·simp only[Z3,St.apply,Jg,U7]
   cases ks<;>exact Nat.le_add_right _ _
  ·simp only[Z3,St.apply,Ud]
   cases ks with
   | nil=>
     refine⟨[],?_⟩
     rw[Ve _ _ _ hjn,knil]
   | cons k ks=>
     refine⟨V1 st.hp (k::ks),?_⟩
     rw[Ve _ _ _ (by exact hjn)]
     have:J5 j (k::ks) 0=none:=by
      cases hp:J5 j (k::ks) 0 with
      | none=>rfl
      | some i=>
        obtain⟨_,h2⟩:=Q6 hp
        exact absurd (List.mem_of_getElem? h2) hj
     simp only[this]
 cases h with
 | @app k ob v=>
   obtain⟨h1,h2,h3,h4⟩:=V09 (o:=o) k ob v
   refine⟨fun st t ht=>⟨[k],h1 st t ht⟩,fun st d x hx hd=>h2 st d x (Xa _ x hx) hd,fun st=>⟨by rw[h4];exact Nat.le_refl _,fun j _ hj=>⟨[k],h3 st j ?_⟩⟩,fun h=>by simp at h⟩
   simpa using hj
 | @call ks objs vs=>
   obtain⟨h1,h2,h3⟩:=calls ks objs vs
   exact⟨h1,h2,h3,fun h=>by simp at h⟩
 | @plain ks objs vs hne hl hk hv ho=>
   obtain⟨h1,h2,h3⟩:=calls ks objs vs
   refine⟨h1,h2,h3,fun _ st=>?_⟩
   simp only[Z3,St.apply,Jg,U7]
   rw[List.drop_of_length_le (by omega)]
   cases ks<;>rfl
 | solid h _=>simp only at hc;omega
 | low h _=>simp only at hc;omega
 | lowIn h _ _=>simp only at hc;omega
 | val h=>simp only at hc;omega
 | app0 h _=>simp only at hc;omega
 | _=>exact absurd hc (by simp)
mutual
theorem Q1z {f g:Nat→Option Nat}:∀ (x:AV),(∀ k∈x.refs,f k=g k)→x.ren f=x.ren g
 | .agg cs,h=>by simp only[AV.refs] at h;simp only[AV.ren,Uu cs h]
 | .tup cs,h=>by simp only[AV.refs] at h;simp only[AV.ren,Uu cs h]
 | .fn _ cs,h=>by simp only[AV.refs] at h;simp only[AV.ren,Uu cs h]
 | .ptr k _,h=>by simp only[AV.ren,h k (by simp[AV.refs])]
 | .rptr k _ _ _,h=>by simp only[AV.ren,h k (by simp[AV.refs])]
 | .rowA k,h=>by simp only[AV.ren,h k (by simp[AV.refs])]
 | .rowS k _ _ _,h=>by simp only[AV.ren,h k (by simp[AV.refs])]
 | .mp k,h=>by simp only[AV.ren,h k (by simp[AV.refs])]
 | .psl k n'',h=>by simp only[AV.ren,h k (by simp[AV.refs])]
 | .int _ _,_=>by simp only[AV.ren]
 | .bool _,_=>by simp only[AV.ren]
 | .str _,_=>by simp only[AV.ren]
 | .list _ _,_=>by simp only[AV.ren]
 | .np,_=>by simp only[AV.ren]
 | .nm,_=>by simp only[AV.ren]
 | .nf,_=>by simp only[AV.ren]
 | .ns,_=>by simp only[AV.ren]
 | .lptr _ _ _ _,_=>by simp only[AV.ren]
 | .undef,_=>by simp only[AV.ren]
 | .dead,_=>by simp only[AV.ren]
theorem Uu {f g:Nat→Option Nat}:∀ (cs:List AV),(∀ k∈AV.refsL cs,f k=g k)→AV.renL f cs=AV.renL g cs
 | [],_=>by simp only[AV.renL]
 | c::cs,h=>by
   simp only[AV.refsL,List.mem_append] at h
   simp only[AV.renL,Q1z c (fun k hk=>h k (.inl hk)),Uu cs (fun k hk=>h k (.inr hk))]
end
theorem V30 {f g:Nat→Option Nat} {o:LObj} (h:∀ k∈o.refs,f k=g k):o.ren f=o.ren g:=by
 cases o with
 | boxT g cs=>simp only[LObj.refs] at h;simp only[LObj.ren,Uu cs h]
 | row t xs=>rfl
 | mpo kt vt es=>rfl
 | mpb kt ki t es foc=>
   cases foc with
   | none=>rfl
   | some q=>simp only[LObj.ren,focR,Q1z q.2 h]
 | gone=>rfl
theorem Q0x {ks:List Nat} {nx nx' i:Nat} (h:i < ks.length):V6 ks nx i=V6 ks nx' i:=by
 unfold V6
 have:Nat.blt i ks.length=true:=by simpa using h
 rw[this]
 rfl
theorem Z38 {os:List LObj} {i:Nat}:ofHp os i=.gone∨ofHp os i∈os:=by
 rw[Q00]
 cases h:os[i]? with
 | none=>exact .inl rfl
 | some o=>exact .inr (List.mem_of_getElem? h)
theorem Jz {hp:Nat→LObj}:∀ {ks:List Nat} {k:Nat},k∈V1 hp ks→k∈ks
 | [],_,h=>by simp[V1] at h
 | x::xs,k,h=>by
   simp only[V1] at h
   split at h
   ·rcases List.mem_cons.1 h with rfl | h
    ·simp
    ·exact List.mem_cons_of_mem _ (Jz h)
   ·exact List.mem_cons_of_mem _ (Jz h)
theorem X1o {o o':Oper} {s s' m:St→St} {v v':AV} (h:Neat o s id v) (h':Neat o' s' m v') (hd:∀ t,o.dst=some t→o'.dst≠some t) (st:St):s' (s st)=s (s' st):=by
 rw[h.eq st,h'.eq,h.eq,h'.eq st]
 simp only[id]
 rw[h'.put]
 exact Jw _ hd _ _
theorem Jt {xs ys:List Nat} (h:J0v xs ys=true):∀ k,k∈xs→k ∉ ys:=fun k hx hy=>by
 have:=List.all_eq_true.1 (List.all_eq_true.1 h k hx) k hy
 simp at this
theorem J1e {x y:Cls} (h:U1f x y=true):((x.1≤4∨x.1=10∨x.1=13∨x.1=15)∧(y.1≤4∨y.1=10∨y.1=13∨y.1=15))∨((x.1≤3∨x.1=10∨x.1=15)∧(y.1=5∨y.1=12))∨((x.1≤2∨((x.1=3∨x.1=10∨x.1=15)∧∀ k,k∈x.2→k ∉ y.2))∧y.1=6)∨((x.1≤1∨x.1=3∨x.1=10∨x.1=15)∧(y.1=7∨y.1=16)) ∨
    ((x.1=0∨(x.1=10∧∀ k,k∈x.2→k ∉ y.2))∧(y.1=8∨y.1=11))∨(x.1=11∧y.1=12)∨(x.1=13∧y.1=11)∨(((x.1=1∨x.1=15)∧∀ k,k∈x.2→k ∉ y.2)∧y.1=11) ∨
    ((x.1≤2∨x.1=13∨((x.1=3∨x.1=10∨x.1=15)∧∀ k,k∈x.2→k ∉ y.2))∧y.1=14)∨(x.1=14∧y.1=12)∨(x.1=14∧(y.1=14∨y.1=16)∧∀ k,k∈x.2→k ∉ y.2):=by
 unfold U1f valC oldC at h
 simp only[Bool.or_eq_true,Bool.and_eq_true,Nat.ble_eq] at h
 have e:∀ {a b:Nat},Nat.beq a b=true→a=b:=fun h=>Nat.eq_of_beq_eq_true h
 rcases h with ((((((((h | h) | h) | h) | h) | h) | h) | h) | h) | h
 ·exact .inl ⟨h.1.imp id fun h=>h.imp e fun h=>h.imp e e,h.2.imp id fun h=>h.imp e fun h=>h.imp e e⟩
 ·refine .inr (.inl ⟨?_,h.2.imp e e⟩)
  rcases h.1 with h | h
  ·omega
  ·rcases h with h | h | h<;>(have:=e h;omega)
 ·exact .inr (.inr (.inl ⟨h.1.imp id (fun h=>⟨h.1.imp e fun h=>h.imp e e,Jt h.2⟩),e h.2⟩))
 ·exact .inr (.inr (.inr (.inl ⟨h.1.imp id (fun h=>h.imp e fun h=>h.imp e e),h.2.imp e e⟩)))
 ·exact .inr (.inr (.inr (.inr (.inl ⟨h.1.imp e (fun h=>⟨e h.1,Jt h.2⟩),h.2.imp e e⟩))))
 ·exact .inr (.inr (.inr (.inr (.inr (.inl ⟨e h.1,e h.2⟩)))))
 ·exact .inr (.inr (.inr (.inr (.inr (.inr (.inl ⟨e h.1,e h.2⟩))))))
 ·exact .inr (.inr (.inr (.inr (.inr (.inr (.inr (.inl ⟨⟨h.1.1.imp e e,Jt h.1.2⟩,e h.2⟩)))))))
 ·refine .inr (.inr (.inr (.inr (.inr (.inr (.inr (.inr (.inl ⟨?_,e h.2⟩))))))))
  rcases h.1 with (h | h) | h
  ·exact .inl h
  ·exact .inr (.inl (e h))
  ·exact .inr (.inr ⟨h.1.imp e fun h=>h.imp e e,Jt h.2⟩)
 ·rcases h.2 with h2 | h2
  ·exact .inr (.inr (.inr (.inr (.inr (.inr (.inr (.inr (.inr (.inl ⟨e h.1,e h2⟩)))))))))
  ·exact .inr (.inr (.inr (.inr (.inr (.inr (.inr (.inr (.inr (.inr ⟨e h.1,h2.1.imp e e,Jt h2.2⟩)))))))))
theorem U2x (x y:Cls):meet x y=meet y x:=Bool.or_comm _ _
theorem J1i {x y:Cls} (h:meet x y=true):U1f x y=true∨U1f y x=true:=by
 unfold meet at h
 rwa [Bool.or_eq_true] at h
mutual
theorem X1a {ks:List Nat}:∀ (x:AV),(∀ k∈x.refs,ks.contains k=false)→x.kill ks=x
 | .agg cs,h=>by simp only[AV.refs] at h;simp only[AV.kill,J0d cs h]
 | .tup cs,h=>by simp only[AV.refs] at h;simp only[AV.kill,J0d cs h]
 | .fn g cs,h=>by simp only[AV.refs] at h;simp only[AV.kill,J0d cs h]
 | .rptr k _ _ _,h=>by simp only[AV.kill,h k (by simp[AV.refs]),cond_false]
 | .rowA k,h=>by simp only[AV.kill,h k (by simp[AV.refs]),cond_false]
 | .rowS k _ _ _,h=>by simp only[AV.kill,h k (by simp[AV.refs]),cond_false]
 | .ptr _ _,_=>by simp only[AV.kill]
 | .mp _,_=>by simp only[AV.kill]
 | .psl _ _,_=>by simp only[AV.kill]
 | .int _ _,_=>by simp only[AV.kill]
 | .bool _,_=>by simp only[AV.kill]
 | .str _,_=>by simp only[AV.kill]
 | .list _ _,_=>by simp only[AV.kill]
 | .np,_=>by simp only[AV.kill]
 | .nm,_=>by simp only[AV.kill]
 | .nf,_=>by simp only[AV.kill]
 | .ns,_=>by simp only[AV.kill]
 | .lptr _ _ _ _,_=>by simp only[AV.kill]
 | .undef,_=>by simp only[AV.kill]
 | .dead,_=>by simp only[AV.kill]
theorem J0d {ks:List Nat}:∀ (cs:List AV),(∀ k∈AV.refsL cs,ks.contains k=false)→AV.killL ks cs=cs
 | [],_=>by simp only[AV.killL]
 | c::cs,h=>by
   simp only[AV.refsL,List.mem_append] at h
   simp only[AV.killL,X1a c (fun k hk=>h k (.inl hk)),J0d cs (fun k hk=>h k (.inr hk))]
end
theorem U0z {n0 k:Nat} (hk:n0≤k):∀ j,j < n0→[k].contains j=false:=fun j hj=>by
 simp only[List.contains_cons,List.contains_nil,Bool.or_false,beq_eq_false_iff_ne]
 omega
def Z06 (R ks:List Nat) (g:Nat→LObj) (s:St):St:={ s with tm:=fun t=>(s.tm t).kill R,hp:=fun k=>match J5 k ks 0 with | some i=>g i | none=>(s.hp k).kill R }
theorem J3d {R ks:List Nat} {g:Nat→LObj} {s:St} {ob:LObj} (hpos:J5 s.nx ks 0=none) (hob:ob.kill R=ob):(Z06 R ks g s).new ob=Z06 R ks g (s.new ob):=by
 unfold Z06 St.new
 simp only
 congr 1
 funext k
 cases hk:k==s.nx with
 | true=>
   have:=eq_of_beq hk
   subst this
   simp only[cond_true,hpos,hob]
 | false=>simp only[cond_false]
theorem J1n {R ks:List Nat} {g:Nat→LObj}:∀ (os:List LObj) (s:St),(∀ j,s.nx≤j→J5 j ks 0=none)→(∀ ob∈os,ob.kill R=ob)→(Z06 R ks g s).news os=Z06 R ks g (s.news os)
 | [],_,_,_=>rfl
 | ob::os,s,hpos,hob=>by
   simp only[St.news]
   rw[J3d (hpos _ (Nat.le_refl _)) (hob ob (by simp))]
   exact J1n os (s.new ob) (fun j hj=>hpos j (by simp[St.new] at hj;omega)) (fun x hx=>hob x (by simp[hx]))
theorem Z27 {R ks:List Nat} {g:Nat→LObj} {s:St} {d:Option Nat} {x:AV} (hx:x.kill R=x):Z06 R ks g (s.putO d x)=(Z06 R ks g s).putO d x:=by
 cases d with
 | none=>rfl
 | some t=>
   unfold Z06
   simp only[St.putO,St.put]
   congr 1
   funext u
   cases u==t with
   | true=>simp[hx]
   | false=>rfl
theorem X05 {o:Oper} {ks:List Nat} {objs:List LObj} {vs:List AV} (hl:objs.length=ks.length) (hne:ks≠[]) (s:St):Z3 o (some (.call [] ks objs vs)) s=(Z06 (V1 s.hp ks) ks (fun i=>(ofHp objs i).ren (V6 ks s.nx)) s).putO o.dst (Q8 (AV.renL (V6 ks s.nx) vs)):=by
 obtain⟨k0,ks0,rfl⟩:=List.exists_cons_of_ne_nil hne
 have hdrop:objs.drop (k0::ks0).length=[]:=List.drop_of_length_le (by omega)
 simp only[Z3,St.apply,hdrop,List.map_nil,St.news]
 rfl
theorem X28 {n0:Nat} {o o':Oper} {ks:List Nat} {objs:List LObj} {vs:List AV} {os:List LObj} {v:AV} (hl:objs.length=ks.length) (hk:∀ k∈ks,k < n0) (hv:∀ i∈AV.refsL vs,i < ks.length) (ho:∀ ob∈objs,∀ i∈ob.refs,i < ks.length) (hne:ks≠[])
    (hv':v.high n0=true) (ho':os.all (LObj.high n0)=true) (hd:∀ t,o.dst=some t→o'.dst≠some t) (st:St) (hn:n0≤st.nx) :
    Z3 o' (some (.new os v)) (Z3 o (some (.call [] ks objs vs)) st)=Z3 o (some (.call [] ks objs vs)) (Z3 o' (some (.new os v)) st):=by
 obtain⟨k0,ks0,rfl⟩:=List.exists_cons_of_ne_nil hne
 have hdrop:objs.drop (k0::ks0).length=[]:=List.drop_of_length_le (by omega)
 have hoff:∀ (R:List Nat),(∀ k∈R,k∈k0::ks0)→∀ k,n0≤k→R.contains k=false:=fun R hR k hkn=>by
  cases hc:R.contains k with
  | false=>rfl
  | true=>
    have:=hk k (hR k (by simpa using hc))
    omega
 have hrows:V1 ((st.news os).putO o'.dst v).hp (k0::ks0)=V1 st.hp (k0::ks0):=U0d _ fun k hkk=>by rw[Ud];exact Ve os st k (by have:=hk k hkk;omega)
 have hpos:∀ j,st.nx≤j→J5 j (k0::ks0) 0=none:=fun j hj=>by
  cases hp:J5 j (k0::ks0) 0 with
  | none=>rfl
  | some i=>
    obtain⟨_,h2⟩:=Q6 hp
    have:=hk j (List.mem_of_getElem? h2)
    omega
 have hvs:∀ nx nx',AV.renL (V6 (k0::ks0) nx) vs=AV.renL (V6 (k0::ks0) nx') vs:=fun nx nx'=>Uu vs fun i hi=>Q0x (hv i hi)
 have hob:∀ nx nx',(fun i=>(ofHp objs i).ren (V6 (k0::ks0) nx))=(fun i=>(ofHp objs i).ren (V6 (k0::ks0) nx')):=fun nx nx'=>by
  funext i
  rcases Z38 (os:=objs) (i:=i) with h | h
  ·rw[h];rfl
  ·exact V30 fun j hj=>Q0x (ho _ h j hj)
 have hstep:∀ s:St,Z3 o (some (.call [] (k0::ks0) objs vs)) s=(Z06 (V1 s.hp (k0::ks0)) (k0::ks0) (fun i=>(ofHp objs i).ren (V6 (k0::ks0) s.nx)) s).putO o.dst (Q8 (AV.renL (V6 (k0::ks0) s.nx) vs)):=fun s=>by
  simp only[Z3,St.apply,hdrop,List.map_nil,St.news]
  rfl
 have hR:=hoff (V1 st.hp (k0::ks0)) fun k h=>Jz h
 have hnew:∀ s:St,Z3 o' (some (.new os v)) s=(s.news os).putO o'.dst v:=fun _=>rfl
 rw[hstep,hstep,hnew,hnew,hrows,hvs ((st.news os).putO o'.dst v).nx st.nx,hob ((st.news os).putO o'.dst v).nx st.nx,Q0a,J1n os st hpos (fun ob h=>J0g hR (List.all_eq_true.1 ho' ob h)),Z27 (J0r hR v hv')]
 exact Jw _ hd _ _
theorem J1b {o o':Oper} {s s' m m':St→St} {v v':AV} (h:Neat o s m v) (h':Neat o' s' m' v') (hd:∀ t,o.dst=some t→o'.dst≠some t) (st:St) (hm:m' (m st)=m (m' st)):s' (s st)=s (s' st):=by
 rw[h.eq st,h'.eq,h.eq,h'.eq st,h'.put,h.put,hm]
 exact Jw _ hd _ _
theorem Q25 {k:Nat} {ob:LObj}:∀ (os:List LObj) (st:St),k < st.nx→(st.upd k ob).news os=(st.news os).upd k ob
 | [],_,_=>rfl
 | o::os,st,hk=>by
   simp only[St.news]
   have:(st.upd k ob).new o=(st.new o).upd k ob:=by
    simp only[St.new,St.upd]
    congr 1
    funext j
    cases h1:j==st.nx with
    | true=>
      have:=eq_of_beq h1
      subst this
      have h2:(st.nx==k)=false:=by simp;omega
      simp[h2]
    | false=>simp
   rw[this]
   exact Q25 os (st.new o) (by show k < st.nx+1;omega)
theorem Q3p {k k':Nat} {ob ob':LObj} (h:k≠k') (st:St):(st.upd k ob).upd k' ob'=(st.upd k' ob').upd k ob:=by
 simp only[St.upd]
 congr 1
 funext j
 cases h1:j==k with
 | true=>
   have:=eq_of_beq h1
   subst this
   have h2:(j==k')=false:=by simpa using h
   simp[h2]
 | false=>cases j==k'<;>simp
theorem U3q {k k':Nat} {ob ob':LObj} (h:k≠k') (ho:ob.kill [k']=ob) (st:St):((st.upd k ob).kill [k']).upd k' ob'=((st.kill [k']).upd k' ob').upd k ob:=by
 simp only[St.upd,St.kill]
 congr 1
 funext j
 cases h1:j==k with
 | true=>
   have:=eq_of_beq h1
   subst this
   have h2:(j==k')=false:=by simpa using h
   simp[h2,ho]
 | false=>cases j==k'<;>simp
theorem J1c {n0:Nat} {o o':Oper} {e e':Option Eff} {c c':Cls} (h:Cl n0 e c) (h':Cl n0 e' c') (hm:U1f c c'=true) (hd:∀ t,o.dst=some t→o'.dst≠some t) (st:St) (hn:n0≤st.nx) :
    Z3 o' e' (Z3 o e st)=Z3 o e (Z3 o' e' st):=by
 have lo:(c.1≤4∨c.1=10∨c.1=13∨c.1=15)→c'.1≤6∨c'.1=12∨c'.1=14→Z3 o' e' (Z3 o e st)=Z3 o e (Z3 o' e' st):=fun h1 h2=>by
  obtain⟨v,n⟩:=J1t (o:=o) h h1
  obtain⟨m,v',n',_⟩:=U0i (o:=o') h' h2
  exact X1o n n' hd st
 rcases J1e hm with ⟨h1,h2⟩ | ⟨h1,h2⟩ | ⟨h1,h2⟩ | ⟨h1,h2⟩ | ⟨h1,h2⟩ | ⟨h1,h2⟩ | ⟨h1,h2⟩ | ⟨h1,h2⟩ | ⟨h1,h2⟩ | ⟨h1,h2⟩ | ⟨h1,h2,h3⟩
 ·obtain⟨v,n⟩:=J1t (o:=o) h h1
  obtain⟨v',n'⟩:=J1t (o:=o') h' h2
  exact X1o n n' hd st
 ·exact lo (by omega) (by omega)
 ·exact lo (by rcases h1 with h1 | h1<;>omega) (by omega)
 ·obtain⟨k,ob,v',rfl,hk⟩:=Q1x (o:=o') h' h2
  have key:∃ v,v.kill [k]=v∧∀ st,Z3 o e st=st.putO o.dst v:=by
   by_cases h0:c.1=0∨c.1=10∨c.1=13
   ·obtain⟨v,hv,he⟩:=U1s (o:=o) h h0
    exact⟨v,Xa _ v hv,he⟩
   ·obtain⟨v,hv,he⟩:=J4e (o:=o) h (by omega)
    exact⟨v,Q0l (U0z hk) v hv,he⟩
  obtain⟨v,hv,he⟩:=key
  rw[he st,he,(V09 (o:=o') k ob v').2.1 st o.dst v hv hd]
 ·obtain⟨v,hv,he⟩:=U1s (o:=o) h (h1.imp id fun h=>.inl h.1)
  rw[he st,he,(Z11 (o:=o') h' h2).2.1 st o.dst v hv hd]
 ·cases h with
  | @plain ks objs vs hne hl hk hv ho=>
    cases h' with
    | @alloc os v l hv' ho'=>exact X28 hl hk hv ho hne hv' ho' hd st hn
    | solid h _=>simp only at h2;omega
    | low h _=>simp only at h2;omega
    | lowIn h _ _=>simp only at h2;omega
    | app0 h _=>simp only at h2;omega
    | val h=>simp only at h2;omega
    | _=>exact absurd h2 (by simp)
  | solid h _=>simp only at h1;omega
  | low h _=>simp only at h1;omega
  | lowIn h _ _=>simp only at h1;omega
  | app0 h _=>simp only at h1;omega
  | val h=>simp only at h1;omega
  | _=>exact absurd h1 (by simp)
 ·obtain⟨v,hv,he⟩:=U1s (o:=o) h (by omega)
  rw[he st,he,(Z11 (o:=o') h' (.inr h2)).2.1 st o.dst v hv hd]
 ·obtain⟨v,_,hr,he⟩:=cl_in (o:=o) h h1.1
  cases h' with
  | @plain ks objs vs hne hl hk hv' ho'=>
    have hx:v.kill (V1 st.hp ks)=v:=X1a v fun k hkv=>by
     cases hc:(V1 st.hp ks).contains k with
     | false=>rfl
     | true=>exact absurd (Jz (by simpa using hc)) (h1.2 k (hr k hkv))
    rw[he st,he,X05 hl hne,X05 hl hne,Ud,Jg,Z27 hx]
    exact Jw _ hd _ _
  | solid h _=>simp only at h2;omega
  | low h _=>simp only at h2;omega
  | lowIn h _ _=>simp only at h2;omega
  | app0 h _=>simp only at h2;omega
  | val h=>simp only at h2;omega
  | _=>exact absurd h2 (by simp)
 ·exact lo (by rcases h1 with h1 | h1 | h1<;>omega) (by omega)
 ·obtain⟨k,ob,v,rfl,_,hk,ho,hv⟩:=Z1u h h1
  cases h' with
  | @alloc os v' l hv' ho'=>exact J1b (J00 o k ob v) (X15 o' os v') hd st (Q25 os st (by omega))
  | solid h _=>simp only at h2;omega
  | low h _=>simp only at h2;omega
  | lowIn h _ _=>simp only at h2;omega
  | app0 h _=>simp only at h2;omega
  | val h=>simp only at h2;omega
  | _=>exact absurd h2 (by simp)
 ·obtain⟨k,ob,v,rfl,hl,hk,ho,hv⟩:=Z1u h h1
  rcases h2 with h2 | h2
  ·obtain⟨k',ob',v',rfl,hl',hk',ho',hv'⟩:=Z1u h' h2
   exact J1b (J00 o k ob v) (J00 o' k' ob' v') hd st (Q3p (fun e=>h3 k (by rw[hl];simp) (by rw[hl',e];simp)) st)
  ·obtain⟨k',ob',v',rfl,hk'⟩:=Q1x (o:=o') h' (.inr h2)
   have hstep:∀ s:St,Z3 o (some (.upd k ob v)) s=(s.upd k ob).putO o.dst v:=fun _=>rfl
   have hstep':∀ s:St,Z3 o' (some (.app k' ob' v')) s=((s.kill [k']).upd k' ob').putO o'.dst v':=fun _=>rfl
   rw[hstep st,(V09 (o:=o') k' ob' v').2.1 (st.upd k ob) o.dst v (Xa _ v hv) hd,hstep,hstep',hstep',U3q (by omega) (Zn ho)]
   congr 1
   exact((J00 o k ob v).put _ _ _).symm
theorem X2r {n0:Nat} {o o':Oper} {e e':Option Eff} {c c':Cls} (h:Cl n0 e c) (h':Cl n0 e' c') (hm:meet c c'=true) (hd:∀ t,o.dst=some t→o'.dst≠some t) (st:St) (hn:n0≤st.nx) :
    Z3 o' e' (Z3 o e st)=Z3 o e (Z3 o' e' st):=by
 rcases J1i hm with hm | hm
 ·exact J1c h h' hm hd st hn
 ·exact(J1c h' h hm (fun t ht he=>hd t he ht) st hn).symm
def Q0j:LObj→Bool | .gone=>true | _=>false
theorem V1k {ks:List Nat} {o:LObj}:(Q0j o=true→o.kill ks=o)∧(Q0j (o.kill ks)=true→o.kill ks=o):=by
 cases o<;>simp[Q0j,LObj.kill]
def inB (n0:Nat) (l:List Nat) (x:AV):Bool:=x.low n0&&x.refs.all fun k=>l.contains k
structure Obs (n0:Nat) (o:Oper) (ops:Array Oper) (c:Cls) (st st':St):Prop where
 zero:∀ t∈o.looksAt ops,(st.tm t).solid=true∨(st'.tm t).solid=true→st'.tm t=st.tm t
 old:c.1=3→∀ t∈o.looksAt ops,(st.tm t).low n0=true∨(st'.tm t).low n0=true→st'.tm t=st.tm t
 inn:c.1=1∨c.1=15→∀ t∈o.looksAt ops,inB n0 c.2 (st.tm t)=true∨inB n0 c.2 (st'.tm t)=true→st'.tm t=st.tm t
 one:c.1=2∨(4≤c.1∧c.1≠10∧c.1≠12∧c.1≠13∧c.1≠15∧c.1≠14∧c.1≠16)→∀ t∈o.looksAt ops,st'.tm t=st.tm t
 two:c.1=3→n0≤st.nx→n0≤st'.nx∧∀ k,k < n0→k∈c.2→(st.hp k).low n0=true∨(st'.hp k).low n0=true→st'.hp k=st.hp k
 ten:c.1=10∨c.1=15→n0≤st.nx→n0≤st'.nx∧∀ k,k < n0→k∈c.2→(st.hp k).solid=true∨(st'.hp k).solid=true→st'.hp k=st.hp k
 eleven:c.1=11→n0≤st.nx→n0≤st'.nx∧∀ k,k < n0→st'.hp k=st.hp k
 twelve:c.1=12→st'.nx=st.nx
 sev:c.1=16→(∀ t∈o.looksAt ops,st'.tm t=st.tm t)∧∀ k∈c.2,st'.hp k=st.hp k
 fil:c.1=14→n0≤st.nx→n0≤st'.nx∧∀ k,k < n0→k∈c.2→Q0j (st.hp k)=true∨Q0j (st'.hp k)=true→st'.hp k=st.hp k
 three:4≤c.1∧c.1≠10∧c.1≠11∧c.1≠12∧c.1≠13∧c.1≠15∧c.1≠14∧c.1≠16→st'.hp=st.hp∧st'.nx=st.nx
 high:c.1=13→(∀ t∈o.looksAt ops,(st.tm t).high n0=true∨(st'.tm t).high n0=true→st'.tm t=st.tm t)∧∀ k,n0≤k→(st.hp k).high n0=true∨(st'.hp k).high n0=true→st'.hp k=st.hp k
theorem Q27 {n0:Nat} {o:Oper} {ops:Array Oper} {c:Cls} (st:St):Obs n0 o ops c st st:=⟨fun _ _ _=>rfl,fun _ _ _ _=>rfl,fun _ _ _ _=>rfl,fun _ _ _=>rfl,fun _ h=>⟨h,fun _ _ _ _=>rfl⟩,fun _ h=>⟨h,fun _ _ _ _=>rfl⟩,fun _ h=>⟨h,fun _ _=>rfl⟩,fun _=>rfl,fun _=>⟨fun _ _=>rfl,fun _ _=>rfl⟩,fun _ h=>⟨h,fun _ _ _ _=>rfl⟩,fun _=>⟨rfl,rfl⟩,fun _=>⟨fun _ _ _=>rfl,fun _ _ _=>rfl⟩⟩
theorem Zx {α:Type} {p:α→Bool} {x y z:α} (h1:p x=true∨p y=true→y=x) (h2:p y=true∨p z=true→z=y) (hs:p x=true∨p z=true):z=x:=by
 rcases hs with hs | hs
 ·have e1:=h1 (.inl hs)
  rw[h2 (.inl (e1▸hs)),e1]
 ·have e2:=h2 (.inr hs)
  rw[e2,h1 (.inr (e2▸hs))]
theorem J1j {n0:Nat} {o:Oper} {ops:Array Oper} {c:Cls} (st st' st'':St) (h1:Obs n0 o ops c st st') (h2:Obs n0 o ops c st' st''):Obs n0 o ops c st st'':=by
 refine⟨fun t ht hs=>Zx (p:=AV.solid) (h1.zero t ht) (h2.zero t ht) hs,fun hc t ht hs=>Zx (p:=AV.low n0) (h1.old hc t ht) (h2.old hc t ht) hs,fun hc t ht hs=>Zx (p:=inB n0 c.2) (h1.inn hc t ht) (h2.inn hc t ht) hs,fun hc t ht=>(h2.one hc t ht).trans (h1.one hc t ht),fun hc hn=>?_,fun hc hn=>?_,fun hc hn=>?_,fun hc=>(h2.twelve hc).trans (h1.twelve hc),fun hc=>⟨fun t ht=>((h2.sev hc).1 t ht).trans ((h1.sev hc).1 t ht),fun k hk=>((h2.sev hc).2 k hk).trans ((h1.sev hc).2 k hk)⟩,fun hc hn=>?_,
  fun hc=>⟨(h2.three hc).1.trans (h1.three hc).1,(h2.three hc).2.trans (h1.three hc).2⟩,fun hc=>⟨fun t ht hs=>Zx (p:=AV.high n0) ((h1.high hc).1 t ht) ((h2.high hc).1 t ht) hs,fun k hk hs=>Zx (p:=LObj.high n0) ((h1.high hc).2 k hk) ((h2.high hc).2 k hk) hs⟩⟩
 ·obtain⟨a,b⟩:=h1.two hc hn
  obtain⟨a',b'⟩:=h2.two hc a
  exact⟨a',fun k hk hm hs=>Zx (p:=LObj.low n0) (b k hk hm) (b' k hk hm) hs⟩
 ·obtain⟨a,b⟩:=h1.ten hc hn
  obtain⟨a',b'⟩:=h2.ten hc a
  exact⟨a',fun k hk hm hs=>Zx (p:=LObj.solid) (b k hk hm) (b' k hk hm) hs⟩
 ·obtain⟨a,b⟩:=h1.eleven hc hn
  obtain⟨a',b'⟩:=h2.eleven hc a
  exact⟨a',fun k hk=>(b' k hk).trans (b k hk)⟩
 ·obtain⟨a,b⟩:=h1.fil hc hn
  obtain⟨a',b'⟩:=h2.fil hc a
  exact⟨a',fun k hk hm hs=>Zx (p:=Q0j) (b k hk hm) (b' k hk hm) hs⟩
theorem Q21 {n0:Nat} {o o':Oper} {ops:Array Oper} {e':Option Eff} {c c':Cls} (h':Cl n0 e' c') (hm:meet c c'=true) (hd:∀ d,o'.dst=some d→d ∉ o.looksAt ops) (st:St) :
    Obs n0 o ops c st (Z3 o' e' st):=by
 have hne:∀ t∈o.looksAt ops,∀ d,o'.dst=some d→t≠d:=fun t ht d hdd e=>hd d hdd (e▸ht)
 have hput:∀ (s:St) (v:AV) (t:Nat),t∈o.looksAt ops→(s.putO o'.dst v).tm t=s.tm t:=fun s v t ht=>Q0c s v t (hne t ht)
 have low:(c'.1≤4∨c'.1=10∨c'.1=13∨c'.1=15)→Obs n0 o ops c st (Z3 o' e' st):=fun h2=>by
  obtain⟨v',n'⟩:=J1t (o:=o') h' h2
  rw[n'.eq st]
  have hh:((id st).putO o'.dst v').hp=st.hp:=Ud _ _ _
  have hn:((id st).putO o'.dst v').nx=st.nx:=Jg _ _ _
  refine⟨fun t ht _=>hput _ _ t ht,fun _ t ht _=>hput _ _ t ht,fun _ t ht _=>hput _ _ t ht,fun _ t ht=>hput _ _ t ht,fun _ h=>?_,fun _ h=>?_,fun _ h=>?_,fun _=>hn,fun _=>⟨fun t ht=>hput _ _ t ht,fun k _=>by rw[hh]⟩,fun _ h=>⟨by rw[hn];exact h,fun k _ _ _=>by rw[hh]⟩,fun _=>⟨hh,hn⟩,fun _=>⟨fun t ht _=>hput _ _ t ht,fun k _ _=>by rw[hh]⟩⟩
  ·rw[hn,hh]
   exact⟨h,fun _ _ _ _=>rfl⟩
  ·rw[hn,hh]
   exact⟨h,fun _ _ _ _=>rfl⟩
  ·rw[hn,hh]
   exact⟨h,fun _ _=>rfl⟩
 have news:(c.1≤3∨c.1=10∨c.1=11∨c.1=15∨c.1=14)→(c'.1=5∨c'.1=12)→Obs n0 o ops c st (Z3 o' e' st):=fun h1 h2=>by
  obtain⟨m,v',n',hg,_⟩:=U0i (o:=o') h' (by omega)
  rw[n'.eq st]
  have ht':∀ t∈o.looksAt ops,((m st).putO o'.dst v').tm t=st.tm t:=fun t ht=>by rw[hput _ _ t ht,n'.tm]
  obtain⟨g1,g2⟩:=hg (by omega) st
  refine⟨fun t ht _=>ht' t ht,fun _ t ht _=>ht' t ht,fun _ t ht _=>ht' t ht,fun _=>ht',fun _ hn=>?_,fun _ hn=>?_,fun _ hn=>?_,fun hc=>by omega,fun hc=>by omega,fun _ hn=>⟨by rw[Jg];omega,fun k hk _ _=>by rw[Ud];exact g2 k (by omega)⟩,fun hc=>by omega,fun hc=>by omega⟩
  ·rw[Ud,Jg]
   exact⟨by omega,fun k hk _ _=>g2 k (by omega)⟩
  ·rw[Ud,Jg]
   exact⟨by omega,fun k hk _ _=>g2 k (by omega)⟩
  ·rw[Ud,Jg]
   exact⟨by omega,fun k hk=>g2 k (by omega)⟩
 rcases J1i hm with hm | hm<;>rcases J1e hm with ⟨h1,h2⟩ | ⟨h1,h2⟩ | ⟨h1,h2⟩ | ⟨h1,h2⟩ | ⟨h1,h2⟩ | ⟨h1,h2⟩ | ⟨h1,h2⟩ | ⟨h1,h2⟩ | ⟨h1,h2⟩ | ⟨h1,h2⟩ | ⟨h1,h2,h3⟩
 ·exact low h2
 ·exact news (by omega) h2
 ·obtain⟨m,v',n',_,hg⟩:=U0i (o:=o') h' (by omega)
  rw[n'.eq st]
  have ht':∀ t∈o.looksAt ops,((m st).putO o'.dst v').tm t=st.tm t:=fun t ht=>by rw[hput _ _ t ht,n'.tm]
  obtain⟨g1,g2⟩:=hg (.inl h2) st
  have h6:c.1≤3∨c.1=10∨c.1=15:=by rcases h1 with h1 | h1<;>omega
  refine⟨fun t ht _=>ht' t ht,fun _ t ht _=>ht' t ht,fun _ t ht _=>ht' t ht,fun _=>ht',fun hc hn=>?_,fun hc hn=>?_,fun hc=>by omega,fun hc=>by omega,fun hc=>by omega,fun hc=>by omega,fun hc=>by omega,fun hc=>by omega⟩ <;>
  ·rw[Ud,Jg]
   refine⟨by omega,fun k hk hkm _=>g2 k ?_⟩
   rcases h1 with h1 | h1
   ·omega
   ·exact h1.2 k hkm
 ·obtain⟨k,ob,v',rfl,hk⟩:=Q1x (o:=o') h' h2
  obtain⟨a1,_,a3,a4⟩:=V09 (o:=o') k ob v'
  refine⟨fun t ht hs=>?_,fun _ t ht hs=>?_,fun _ t ht hs=>?_,fun hc=>by omega,fun hc hn=>⟨by rw[a4];exact hn,fun j hj _ hs=>?_⟩,fun hc hn=>⟨by rw[a4];exact hn,fun j hj _ hs=>?_⟩,fun hc=>by omega,fun hc=>by omega,fun hc=>by omega,fun hc=>by omega,fun hc=>by omega,fun hc=>by omega⟩
  ·rw[a1 st t (hne t ht)] at hs ⊢
   exact hs.elim (fun hs=>Xa _ _ hs) (fun hs=>Zj _ _ hs)
  ·rw[a1 st t (hne t ht)] at hs ⊢
   exact hs.elim (fun hs=>Q0l (U0z hk) _ hs) (fun hs=>U0n _ hs)
  ·rw[a1 st t (hne t ht)] at hs ⊢
   exact hs.elim (fun hs=>Q0l (U0z hk) _ (Bool.and_eq_true_iff.1 hs).1) (fun hs=>U0n _ (Bool.and_eq_true_iff.1 hs).1)
  ·rw[a3 st j (by omega)] at hs ⊢
   exact hs.elim (fun hs=>Z1x (U0z hk) hs) (fun hs=>Q1v hs)
  ·rw[a3 st j (by omega)] at hs ⊢
   exact hs.elim (fun hs=>Zn hs) (fun hs=>Vw hs)
 ·obtain⟨k1,_,k3,_⟩:=Z11 (o:=o') h' h2
  obtain⟨k4,k5⟩:=k3 st
  have h6:c.1=0∨c.1=10:=h1.imp id fun h=>h.1
  refine⟨fun t ht hs=>?_,fun hc=>by omega,fun hc=>by omega,fun hc=>by omega,fun hc=>by omega,fun hc hn=>⟨by omega,fun j hj hjm hs=>?_⟩,fun hc=>by omega,fun hc=>by omega,fun hc=>by omega,fun hc=>by omega,fun hc=>by omega,fun hc=>by omega⟩
  ·obtain⟨ks,hk⟩:=k1 st t (hne t ht)
   rw[hk] at hs ⊢
   exact hs.elim (fun hs=>Xa ks _ hs) (fun hs=>Zj ks _ hs)
  ·have hap:j ∉ c'.2:=by
    rcases h1 with h1 | h1
    ·omega
    ·exact h1.2 j hjm
   obtain⟨ks,hk⟩:=k5 j (by omega) hap
   rw[hk] at hs ⊢
   exact hs.elim (fun hs=>Zn hs) (fun hs=>Vw hs)
 ·exact news (by omega) (by omega)
 ·cases h' with
  | @plain ks objs vs hne' hl hk hv ho=>
    have hoff:∀ k,n0≤k→(V1 st.hp ks).contains k=false:=fun k hkn=>by
     cases hc:(V1 st.hp ks).contains k with
     | false=>rfl
     | true=>
       have:=hk k (Jz (by simpa using hc))
       omega
    rw[X05 hl hne' st]
    refine⟨fun t ht hs=>?_,fun hc=>by omega,fun hc=>by omega,fun hc=>by omega,fun hc=>by omega,fun hc=>by omega,fun hc=>by omega,fun hc=>by omega,fun hc=>by omega,fun hc=>by omega,fun hc=>by omega,fun _=>⟨fun t ht hs=>?_,fun k hkn hs=>?_⟩⟩
    ·rw[hput _ _ t ht] at hs ⊢
     exact hs.elim (fun hs=>Xa _ _ hs) (fun hs=>Zj _ _ hs)
    ·rw[hput _ _ t ht] at hs ⊢
     exact hs.elim (fun hs=>J0r hoff _ hs) (fun hs=>Z1n _ hs)
    ·rw[Ud] at hs ⊢
     have hpos:J5 k ks 0=none:=by
      cases hp:J5 k ks 0 with
      | none=>rfl
      | some i=>
        obtain⟨_,h2⟩:=Q6 hp
        have:=hk k (List.mem_of_getElem? h2)
        omega
     simp only[Z06,hpos] at hs ⊢
     exact hs.elim (fun hs=>J0g hoff hs) (fun hs=>Z1g hs)
  | solid h _=>simp only at h2;omega
  | low h _=>simp only at h2;omega
  | lowIn h _ _=>simp only at h2;omega
  | app0 h _=>simp only at h2;omega
  | val h=>simp only at h2;omega
  | _=>exact absurd h2 (by simp)
 ·obtain⟨h1,hap⟩:=h1
  cases h' with
  | @plain ks objs vs hne' hl hk hv ho=>
    have hoff:∀ k,k∈c.2→(V1 st.hp ks).contains k=false:=fun k hkc=>by
     cases hc:(V1 st.hp ks).contains k with
     | false=>rfl
     | true=>exact absurd (Jz (by simpa using hc)) (hap k hkc)
    rw[X05 hl hne' st]
    refine⟨fun t ht hs=>?_,fun hc=>by omega,fun _ t ht hs=>?_,fun hc=>by omega,fun hc=>by omega,fun hc hn=>⟨?_,fun j hj hjm hs=>?_⟩,fun hc=>by omega,fun hc=>by omega,fun hc=>by omega,fun hc=>by omega,fun hc=>by omega,fun hc=>by omega⟩
    ·rw[hput _ _ t ht] at hs ⊢
     exact hs.elim (fun hs=>Xa _ _ hs) (fun hs=>Zj _ _ hs)
    ·rw[hput _ _ t ht] at hs ⊢
     refine hs.elim (fun hs=>X1a _ fun k hkx=>?_) (fun hs=>U0n _ (Bool.and_eq_true_iff.1 hs).1)
     have:=List.all_eq_true.1 (Bool.and_eq_true_iff.1 hs).2 k hkx
     exact hoff k (by simpa using this)
    ·rw[Jg]
     exact hn
    ·rw[Ud] at hs ⊢
     have hpos:J5 j ks 0=none:=by
      cases hp:J5 j ks 0 with
      | none=>rfl
      | some i=>
        obtain⟨_,h2⟩:=Q6 hp
        exact absurd (List.mem_of_getElem? h2) (hap j hjm)
     simp only[Z06,hpos] at hs ⊢
     exact hs.elim (fun hs=>Zn hs) (fun hs=>Vw hs)
  | solid h _=>simp only at h2;omega
  | low h _=>simp only at h2;omega
  | lowIn h _ _=>simp only at h2;omega
  | app0 h _=>simp only at h2;omega
  | val h=>simp only at h2;omega
  | _=>exact absurd h2 (by simp)
 ·obtain⟨k0,ob,v,rfl,hl,hk0,ho,hv⟩:=Z1u h' h2
  obtain⟨m,v',n',_,hg⟩:=U0i (o:=o') h' (by omega)
  rw[n'.eq st]
  have ht':∀ t∈o.looksAt ops,((m st).putO o'.dst v').tm t=st.tm t:=fun t ht=>by rw[hput _ _ t ht,n'.tm]
  obtain⟨g1,g2⟩:=hg (.inr h2) st
  have h6:c.1≤3∨c.1=10∨c.1=13∨c.1=15:=by rcases h1 with h1 | h1 | h1<;>omega
  refine⟨fun t ht _=>ht' t ht,fun _ t ht _=>ht' t ht,fun _ t ht _=>ht' t ht,fun _=>ht',fun hc hn=>?_,fun hc hn=>?_,fun hc=>by omega,fun hc=>by omega,fun hc=>by omega,fun hc=>by omega,fun hc=>by omega,fun hc=>⟨fun t ht _=>ht' t ht,fun k hk _=>?_⟩⟩
  ·rw[Ud,Jg]
   refine⟨by omega,fun k hk hkm _=>g2 k ?_⟩
   rcases h1 with h1 | h1 | h1
   ·omega
   ·omega
   ·exact h1.2 k hkm
  ·rw[Ud,Jg]
   refine⟨by omega,fun k hk hkm _=>g2 k ?_⟩
   rcases h1 with h1 | h1 | h1
   ·omega
   ·omega
   ·exact h1.2 k hkm
  ·rw[Ud]
   refine g2 k ?_
   rw[hl]
   simp
   omega
 ·exact news (by omega) (by omega)
 ·rcases h2 with h2 | h2
  ·obtain⟨m,v',n',_,hg⟩:=U0i (o:=o') h' (by omega)
   rw[n'.eq st]
   have ht':∀ t∈o.looksAt ops,((m st).putO o'.dst v').tm t=st.tm t:=fun t ht=>by rw[hput _ _ t ht,n'.tm]
   obtain⟨g1,g2⟩:=hg (.inr h2) st
   exact⟨fun t ht _=>ht' t ht,fun hc=>by omega,fun hc=>by omega,fun hc=>by omega,fun hc=>by omega,fun hc=>by omega,fun hc=>by omega,fun hc=>by omega,fun hc=>by omega,fun hc hn=>⟨by rw[Jg];omega,fun k hk hkm _=>by rw[Ud];exact g2 k (h3 k hkm)⟩,fun hc=>by omega,fun hc=>by omega⟩
  ·obtain⟨k',ob,v',rfl,hk'⟩:=Q1x (o:=o') h' (.inr h2)
   obtain⟨a1,_,a3,a4⟩:=V09 (o:=o') k' ob v'
   refine⟨fun t ht hs=>?_,fun hc=>by omega,fun hc=>by omega,fun hc=>by omega,fun hc=>by omega,fun hc=>by omega,fun hc=>by omega,fun hc=>by omega,fun hc=>by omega,fun hc hn=>⟨by rw[a4];exact hn,fun j hj hjm hs=>?_⟩,fun hc=>by omega,fun hc=>by omega⟩
   ·rw[a1 st t (hne t ht)] at hs ⊢
    exact hs.elim (fun hs=>Xa _ _ hs) (fun hs=>Zj _ _ hs)
   ·rw[a3 st j (by omega)] at hs ⊢
    exact hs.elim V1k.1 V1k.2
 ·exact low h1
 ·exact low (by omega)
 ·exact low (by rcases h1 with h1 | h1<;>omega)
 ·exact low (by omega)
 ·exact low (by rcases h1 with h1 | h1<;>omega)
 ·obtain⟨k1,_,k3,k4⟩:=Z11 (o:=o') h' (.inr h1)
  refine⟨fun t ht hs=>?_,fun hc=>by omega,fun hc=>by omega,fun hc=>by omega,fun hc=>by omega,fun hc=>by omega,fun hc=>by omega,fun _=>k4 h1 st,fun hc=>by omega,fun hc=>by omega,fun hc=>by omega,fun hc=>by omega⟩
  obtain⟨ks,hk⟩:=k1 st t (hne t ht)
  rw[hk] at hs ⊢
  exact hs.elim (fun hs=>Xa ks _ hs) (fun hs=>Zj ks _ hs)
 ·exact low (by omega)
 ·exact low (by rcases h1 with ⟨h1,_⟩;omega)
 ·exact low (by rcases h1 with h1 | h1 | h1<;>omega)
 ·obtain⟨m,v',n',_,hg⟩:=U0i (o:=o') h' (by omega)
  rw[n'.eq st]
  have ht':∀ t∈o.looksAt ops,((m st).putO o'.dst v').tm t=st.tm t:=fun t ht=>by rw[hput _ _ t ht,n'.tm]
  obtain⟨g1,g2⟩:=hg (.inr h1) st
  exact⟨fun t ht _=>ht' t ht,fun hc=>by omega,fun hc=>by omega,fun hc=>by omega,fun hc=>by omega,fun hc=>by omega,fun hc=>by omega,fun _=>by rw[Jg];exact g1,fun hc=>by omega,fun hc=>by omega,fun hc=>by omega,fun hc=>by omega⟩
 ·obtain⟨m,v',n',_,hg⟩:=U0i (o:=o') h' (by omega)
  rw[n'.eq st]
  have ht':∀ t∈o.looksAt ops,((m st).putO o'.dst v').tm t=st.tm t:=fun t ht=>by rw[hput _ _ t ht,n'.tm]
  obtain⟨g1,g2⟩:=hg (.inr h1) st
  exact⟨fun t ht _=>ht' t ht,fun hc=>by omega,fun hc=>by omega,fun hc=>by omega,fun hc=>by omega,fun hc=>by omega,fun hc=>by omega,fun hc=>by omega,fun _=>⟨fun t ht=>ht' t ht,fun k hk=>by rw[Ud];exact g2 k (fun hkm=>h3 k hkm hk)⟩,fun hc hn=>⟨by rw[Jg];omega,fun k hk hkm _=>by rw[Ud];exact g2 k (fun hk2=>h3 k hk2 hkm)⟩,fun hc=>by omega,fun hc=>by omega⟩
theorem X0b {n0:Nat} {o:Oper} {ops:Array Oper} {c:Cls} {st s s':St} (h:Obs n0 o ops c st s) (h':Obs n0 o ops c st s') {t:Nat} (ht:t∈o.looksAt ops) (hs:(s.tm t).solid=true):s'.tm t=s.tm t:=by
 have e1:=h.zero t ht (.inr hs)
 rw[h'.zero t ht (.inl (e1▸hs)),e1]
theorem X24 {n0:Nat} {o:Oper} {ops:Array Oper} {c:Cls} {st s s':St} (hc:c.1=1∨c.1=15) (h:Obs n0 o ops c st s) (h':Obs n0 o ops c st s') {t:Nat} (ht:t∈o.looksAt ops) (hs:inB n0 c.2 (s.tm t)=true):s'.tm t=s.tm t:=by
 have e1:=h.inn hc t ht (.inr hs)
 rw[h'.inn hc t ht (.inl (e1▸hs)),e1]
theorem V1v {n0:Nat} {o:Oper} {ops:Array Oper} {c:Cls} {st s s':St} (hc:c.1=3) (h:Obs n0 o ops c st s) (h':Obs n0 o ops c st s') {t:Nat} (ht:t∈o.looksAt ops) (hs:(s.tm t).low n0=true):s'.tm t=s.tm t:=by
 have e1:=h.old hc t ht (.inr hs)
 rw[h'.old hc t ht (.inl (e1▸hs)),e1]
theorem X25 {n0:Nat} {o:Oper} {ops:Array Oper} {c:Cls} {st s s':St} (h:Obs n0 o ops c st s) (h':Obs n0 o ops c st s') {b:Bool} (hb:V06 ops.toList o s=some b):V06 ops.toList o s'=some b:=by
 unfold V06 at hb ⊢
 cases hg:o.guard with
 | none=>rw[hg] at hb;exact hb
 | some g=>
   obtain⟨j,want⟩:=g
   rw[hg] at hb
   simp only at hb ⊢
   cases hd:Z0f ops.toList j with
   | none=>rw[hd] at hb;exact hb
   | some t=>
     rw[hd] at hb
     simp only at hb ⊢
     have hl:t∈o.looksAt ops:=by
      unfold Oper.looksAt
      rw[hg]
      refine List.mem_append_right _ ?_
      unfold Z0f at hd
      rw[Array.getElem?_toList] at hd
      cases ho:ops[j]? with
      | none=>rw[ho] at hd;cases hd
      | some x=>rw[ho] at hd;simp only at hd;simp[ho,hd]
     have hs:(s.tm t).solid=true:=by
      cases hx:s.tm t<;>rw[hx] at hb<;>first | rfl | cases hb
     rw[X0b h h' hl hs]
     exact hb
theorem Q28 {n0:Nat}:∀ {xs:List AV},AV.highL n0 xs=true→∀ x∈xs,x.high n0=true
 | [],_,_,h=>by cases h
 | y::ys,h,x,hx=>by
   simp only[AV.highL,Bool.and_eq_true] at h
   rcases List.mem_cons.1 hx with rfl | hx
   ·exact h.1
   ·exact Q28 h.2 x hx
theorem U01:∀ {xs:List AV},AV.solidL xs=true→∀ x∈xs,x.solid=true
 | [],_,_,h=>by cases h
 | y::ys,h,x,hx=>by
   simp only[AV.solidL,Bool.and_eq_true] at h
   rcases List.mem_cons.1 hx with rfl | hx
   ·exact h.1
   ·exact U01 h.2 x hx
theorem Qf {o:Oper} {ops:Array Oper} {t:Nat} (h:.tmp t∈o.op.operands.toList):t∈o.looksAt ops:=List.mem_append_left _ (List.mem_filterMap.2 ⟨.tmp t,h,rfl⟩)
theorem Q0g {hp hp':Nat→LObj}:∀ (n:Nat) (work seen:List Nat),(∀ k∈U5 hp n work seen,hp' k=hp k)→U5 hp' n work seen=U5 hp n work seen
 | 0,_,_,_=>by simp only[U5]
 | n+1,[],_,_=>by simp only[U5]
 | n+1,k::ks,seen,h=>by
   simp only[U5] at h ⊢
   cases hc:seen.contains k with
   | true=>
     rw[hc,cond_true] at h
     simp only[cond_true]
     exact Q0g n ks seen h
   | false=>
     rw[hc,cond_false] at h
     simp only[cond_false]
     have hk:hp' k=hp k:=h k (reach_seen n _ _ k (by simp))
     rw[hk]
     exact Q0g n _ _ h
where
 reach_seen {hp:Nat→LObj}:∀ (n:Nat) (work seen:List Nat) (k:Nat),k∈seen→k∈U5 hp n work seen
 | 0,_,_,_,h=>by simpa only[U5] using h
 | n+1,[],_,_,h=>by simpa only[U5] using h
 | n+1,j::js,seen,k,h=>by
   simp only[U5]
   cases seen.contains j with
   | true=>exact reach_seen n js seen k h
   | false=>exact reach_seen n _ _ k (by simp[h])
theorem U2c {T:Tab} {orc:Orc} {o:Oper} {s s':St} {k:Nat} {ks:List Nat} {objs:List LObj} {vs:List AV} (hic:Q2k o.op=true) (he:evOp T orc o.op o.type s some=some (.call [] (k::ks) objs vs))
    (hev:∀ x∈o.op.operands.toList,s'.ev x=s.ev x) (hr:∀ j∈AV.refsL (U1 s o.op),s'.hp j=s.hp j) (hks:∀ j∈k::ks,s'.hp j=s.hp j):evOp T orc o.op o.type s' some=some (.call [] (k::ks) objs vs):=by
 cases hop:o.op<;>rw[hop] at hic<;>simp only[Q2k] at hic<;>try (cases hic;done)
 rename_i c
 rw[hop] at he hev hr
 cases hc:c.callee with
 | builtin b=>rw[hc] at hic;cases hic
 | invoke r n=>rw[hc] at hic;cases hic
 | value f=>
   simp only[evOp,hc] at he ⊢
   have ha:c.args.toList.map s'.ev=c.args.toList.map s.ev:=Z0s _ fun x hx=>hev x (by simp[Op.operands,Call.operands];right;simpa using hx)
   have hf:s'.ev f=s.ev f:=hev f (by simp[Op.operands,Call.operands,hc])
   rw[ha,hf]
   split at he
   ·rename_i g caps hg
    unfold Q0f at he ⊢
    simp only at he ⊢
    have hrefs:∀ j∈AV.refsL (Qe T c.argTypes.toList (c.args.toList.map s.ev)++caps),s'.hp j=s.hp j:=fun j hj=>by
     rw[X0n,Uy,List.mem_append] at hj
     refine hr j ?_
     rcases hj with hj | hj
     ·obtain⟨y,hy,hky⟩:=Z02 hj
      obtain⟨x,hx,rfl⟩:=List.mem_map.1 hy
      exact Vz (List.mem_map.2 ⟨x,by simp[Op.operands,Call.operands];right;simpa using hx,rfl⟩) hky
     ·refine Vz (List.mem_map.2 ⟨f,by simp[Op.operands,Call.operands,hc],rfl⟩) ?_
      rw[hg]
      simpa only[AV.refs] using hj
    rw[U0d _ hrefs,Uq _ hrefs]
    split at he
    ·rename_i hrow
     obtain⟨q,_,hq⟩:=Tr.run_some he
     split at hq
     ·cases hq
     ·split at hq
      ·split at hq
       ·cases hq
       ·cases hq
      ·split at hq
       ·split at hq<;>cases hq
       ·cases hq
    ·rename_i hrow
     rw[if_neg hrow]
     generalize hA:Qe T c.argTypes.toList (c.args.toList.map s.ev)++caps=ags at *
     have hdo:∀ (kk:∀ j∈U5 s.hp 1000 (AV.refsL ags) [],s'.hp j=s.hp j),U5 s'.hp 1000 (AV.refsL ags) []=U5 s.hp 1000 (AV.refsL ags) []:=fun kk=>Q0g (hp:=s.hp) (hp':=s'.hp) 1000 (AV.refsL ags) [] kk
     have hmp:∀ (l:List Nat) (g:Nat→Option Nat),(∀ j∈l,s'.hp j=s.hp j)→(l.map fun k=>(s'.hp k).ren g)=l.map fun k=>(s.hp k).ren g:=fun l g h=>List.map_congr_left fun j hj=>by rw[h j hj]
     have hsubl:∀ (l:List Nat),∀ k∈V1 s.hp l,k∈l:=fun l=>by
      induction l with
      | nil=>intro k h;simp[V1] at h
      | cons x l ih=>
        intro k h
        simp only[V1] at h
        split at h
        ·rcases List.mem_cons.1 h with rfl | h
         ·simp
         ·exact List.mem_cons_of_mem _ (ih k h)
        ·exact List.mem_cons_of_mem _ (ih k h)
     have hfz:AV.frzL s'.hp (V1 s.hp (AV.refsL ags)) ags=AV.frzL s.hp (V1 s.hp (AV.refsL ags)) ags:=Uq _ hrefs
     have hfil:∀ j,j∈(U5 s.hp 1000 (AV.refsL ags) []).filter (fun k=>!(V1 s.hp (AV.refsL ags)).contains k)→j∈U5 s.hp 1000 (AV.refsL ags) []:=fun j hj=>(List.mem_filter.1 hj).1
     split at he
     ·rename_i hmix
      obtain⟨q,hq1,hq2⟩:=Tr.run_some he
      split at hq2
      ·simp only[Option.some.injEq,Eff.call.injEq] at hq2
       obtain⟨_,hkk,_,_⟩:=hq2
       have hall:∀ j∈U5 s.hp 1000 (AV.refsL ags) [],s'.hp j=s.hp j:=fun j hj=>by
        cases hc2:(V1 s.hp (AV.refsL ags)).contains j with
        | true=>exact hrefs j (hsubl _ j (by simpa using hc2))
        | false=>exact hks j (by rw[←hkk];exact List.mem_filter.2 ⟨hj,by rw[hc2];rfl⟩)
       rw[hdo hall,hmp _ _ (fun j hj=>hall j (hfil j hj)),hfz,if_pos hmix]
       exact he
      ·simp only[Option.some.injEq,Eff.call.injEq] at hq2
       have:=hmix.1
       rw[hq2.1] at this
       cases this
     ·rename_i hmix
      obtain⟨q,hq1,hq2⟩:=Tr.run_some he
      simp only[Option.some.injEq,Eff.call.injEq] at hq2
      obtain⟨_,hkk,_,_⟩:=hq2
      have hall:∀ j∈U5 s.hp 1000 (AV.refsL ags) [],s'.hp j=s.hp j:=fun j hj=>hks j (by rw[←hkk];exact hj)
      rw[hdo hall,hmp _ _ (fun j hj=>hall j (hfil j hj)),hfz,hmp _ _ hall,if_neg hmix]
      exact he
   ·cases he
theorem V0r {T:Tab} {hp hp':Nat→LObj} {nx t n:Nat} {ps:List (Nat×AV)} {os:List LObj} {v:AV} (h:Z6 T hp nx t n ps some=some (.new os v)):Z6 T hp' nx t n ps some=some (.new os v):=by
 unfold Z6 at h ⊢
 split at h
 ·split at h
  ·cases h
  ·split at h
   ·exact h
   ·split at h
    ·rename_i hc
     rw[if_pos hc]
     simp only at h ⊢
     split at h
     ·split at h
      ·rename_i xs hxs
       split at h
       ·rename_i hrs
        rw[hrs] at hxs ⊢
        simp only[Q0p] at hxs
        rw[if_pos (show (V1 hp' []).length=[].length from rfl)]
        simp only[Q0p]
        rw[hxs]
        exact h
       ·cases h
      ·cases h
     ·cases h
    ·cases h
 ·cases h
theorem J4k {T:Tab} {orc:Orc} {n0:Nat} {o:Oper} {ops:Array Oper} {st s s':St} {f:Eff} (hn:n0≤st.nx) (h:Obs n0 o ops (X1 n0 s o.op f) st s) (h':Obs n0 o ops (X1 n0 s o.op f) st s')
    (he:evOp T orc o.op o.type s some=some f):evOp T orc o.op o.type s' some=some f:=by
 have near:∀ v,f=.val v→(∀ x∈o.op.operands.toList,s'.ev x=s.ev x)→(Ul o.op=false→∀ k∈AV.refsL (U1 s o.op),s'.hp k=s.hp k)→evOp T orc o.op o.type s' some=some f:=fun v hv hev hk=>by
  subst hv
  have h1:=Q2w he s'.hp s'.nx hk
  rw[←h1]
  exact U0j T orc o.op o.type (fun x hx=>by rw[X1u];exact hev x hx) rfl rfl
 have ev1:(X1 n0 s o.op f).1=2∨(4≤(X1 n0 s o.op f).1∧(X1 n0 s o.op f).1≠10∧(X1 n0 s o.op f).1≠12∧(X1 n0 s o.op f).1≠13∧(X1 n0 s o.op f).1≠15∧(X1 n0 s o.op f).1≠14∧(X1 n0 s o.op f).1≠16)→∀ x∈o.op.operands.toList,s'.ev x=s.ev x:=fun hc x hx=>by
  cases x with
  | tmp t=>exact(h'.one hc t (Qf hx)).trans (h.one hc t (Qf hx)).symm
  | _=>rfl
 have ev2:(X1 n0 s o.op f).1=3→AV.lowL n0 (U1 s o.op)=true→∀ x∈o.op.operands.toList,s'.ev x=s.ev x:=fun hc hl x hx=>by
  cases x with
  | tmp t=>exact V1v hc h h' (Qf hx) (X1q hl _ (List.mem_map.2 ⟨.tmp t,hx,rfl⟩))
  | _=>rfl
 have ev3:(X1 n0 s o.op f).1=1∨(X1 n0 s o.op f).1=15→AV.lowL n0 (U1 s o.op)=true→(∀ k∈AV.refsL (U1 s o.op),k∈(X1 n0 s o.op f).2)→∀ x∈o.op.operands.toList,s'.ev x=s.ev x:=fun hc hl hr x hx=>by
  cases x with
  | tmp t=>
    have hm:s.ev (.tmp t)∈U1 s o.op:=List.mem_map.2 ⟨.tmp t,hx,rfl⟩
    refine X24 hc h h' (Qf hx) (Bool.and_eq_true_iff.2 ⟨X1q hl _ hm,List.all_eq_true.2 fun k hk=>?_⟩)
    have:=hr k (Vz hm hk)
    simpa using this
  | _=>rfl
 have big:4≤(X1 n0 s o.op f).1∧(X1 n0 s o.op f).1≠10∧(X1 n0 s o.op f).1≠11∧(X1 n0 s o.op f).1≠12∧(X1 n0 s o.op f).1≠13∧(X1 n0 s o.op f).1≠15∧(X1 n0 s o.op f).1≠14∧(X1 n0 s o.op f).1≠16→evOp T orc o.op o.type s' some=some f:=fun hc=>by
  rw[U0j T orc o.op o.type (ev1 (.inr ⟨hc.1,hc.2.1,hc.2.2.2⟩)) ((h'.three hc).1.trans (h.three hc).1.symm) ((h'.three hc).2.trans (h.three hc).2.symm),he]
 by_cases h3:4≤(X1 n0 s o.op f).1∧(X1 n0 s o.op f).1≠10∧(X1 n0 s o.op f).1≠11∧(X1 n0 s o.op f).1≠12∧(X1 n0 s o.op f).1≠13∧(X1 n0 s o.op f).1≠15∧(X1 n0 s o.op f).1≠14∧(X1 n0 s o.op f).1≠16
 ·exact big h3
 ·cases f with
  | val v=>
    have hcl:X1 n0 s o.op (.val v)=(bif (Ul o.op||(AV.refsL (U1 s o.op)).isEmpty)&&(AV.solidL (U1 s o.op)&&v.solid) then (0,[])
     else bif Ul o.op then (bif AV.lowL n0 (U1 s o.op)&&v.low n0 then (1,AV.refsL (U1 s o.op)++v.refs) else (2,[])) else bif (AV.lowL n0 (U1 s o.op)&&v.low n0)&&(AV.refsL (U1 s o.op)).all (fun k=>(s.hp k).low n0) then
     (bif (AV.solidL (U1 s o.op)&&v.solid)&&(AV.refsL (U1 s o.op)).all (fun k=>(s.hp k).solid) then (10,AV.refsL (U1 s o.op)) else bif v.refs.all (fun k=>(AV.refsL (U1 s o.op)).contains k)&&(AV.refsL (U1 s o.op)).all (fun k=>(s.hp k).solid) then (15,AV.refsL (U1 s o.op)) else (3,AV.refsL (U1 s o.op))) else bif (AV.highL n0 (U1 s o.op)&&v.solid)&&(AV.refsL (U1 s o.op)).all (fun k=>Nat.ble n0 k&&(s.hp k).high n0) then (13,AV.refsL (U1 s o.op)) else (4,[])):=rfl
    cases hb:((Ul o.op||(AV.refsL (U1 s o.op)).isEmpty)&&(AV.solidL (U1 s o.op)&&v.solid)) with
    | true=>
      simp only[Bool.and_eq_true,Bool.or_eq_true] at hb
      refine near v rfl (fun x hx=>?_) (fun hf k hk=>?_)
      ·cases x with
       | tmp t=>exact X0b h h' (Qf hx) (U01 hb.2.1 _ (List.mem_map.2 ⟨.tmp t,hx,rfl⟩))
       | _=>rfl
      ·rcases hb.1 with h1 | h1
       ·rw[hf] at h1;cases h1
       ·rw[List.isEmpty_iff.1 h1] at hk;cases hk
    | false=>
      rw[hb,cond_false] at hcl
      cases hbl:Ul o.op with
      | true=>
        rw[hbl,cond_true] at hcl
        cases hl:(AV.lowL n0 (U1 s o.op)&&v.low n0) with
        | true=>
          rw[hl,cond_true] at hcl
          simp only[Bool.and_eq_true] at hl
          exact near v rfl (ev3 (by rw[hcl];simp) hl.1 (fun k hk=>by rw[hcl];exact List.mem_append_left _ hk)) (fun hf=>by rw[hbl] at hf;cases hf)
        | false=>
          rw[hl,cond_false] at hcl
          exact near v rfl (ev1 (by rw[hcl];simp)) (fun hf=>by rw[hbl] at hf;cases hf)
      | false=>
        rw[hbl,cond_false] at hcl
        cases hr:((AV.lowL n0 (U1 s o.op)&&v.low n0)&&(AV.refsL (U1 s o.op)).all (fun k=>(s.hp k).low n0)) with
        | false=>
          rw[hr,cond_false] at hcl
          cases hq:((AV.highL n0 (U1 s o.op)&&v.solid)&&(AV.refsL (U1 s o.op)).all (fun k=>Nat.ble n0 k&&(s.hp k).high n0)) with
          | false=>rw[hq,cond_false] at hcl;rw[hcl] at h3;exact absurd ⟨Nat.le_refl 4,by simp,by simp,by simp,by simp,by simp,by simp,by simp⟩ h3
          | true=>
            rw[hq,cond_true] at hcl
            have hc13:(X1 n0 s o.op (.val v)).1=13:=by rw[hcl]
            simp only[Bool.and_eq_true,List.all_eq_true,Nat.ble_eq] at hq
            obtain⟨hi1,hi2⟩:=h.high hc13
            obtain⟨hj1,hj2⟩:=h'.high hc13
            refine near v rfl (fun x hx=>?_) fun _ k hk=>?_
            ·cases x with
             | tmp t=>
               have hh:(s.tm t).high n0=true:=Q28 hq.1.1 _ (List.mem_map.2 ⟨.tmp t,hx,rfl⟩)
               have e1:=hi1 t (Qf hx) (.inr hh)
               have e2:=hj1 t (Qf hx) (.inl (e1▸hh))
               exact e2.trans e1.symm
             | _=>rfl
            ·obtain⟨hk1,hk2⟩:=hq.2 k hk
             have e1:=hi2 k hk1 (.inr hk2)
             have e2:=hj2 k hk1 (.inl (e1▸hk2))
             exact e2.trans e1.symm
        | true=>
          rw[hr,cond_true] at hcl
          simp only[Bool.and_eq_true] at hr
          cases hs:((AV.solidL (U1 s o.op)&&v.solid)&&(AV.refsL (U1 s o.op)).all (fun k=>(s.hp k).solid)) with
          | false=>
            rw[hs,cond_false] at hcl
            cases hw:(v.refs.all (fun k=>(AV.refsL (U1 s o.op)).contains k)&&(AV.refsL (U1 s o.op)).all (fun k=>(s.hp k).solid)) with
            | true=>
              rw[hw,cond_true] at hcl
              have hc3:(X1 n0 s o.op (.val v)).1=15:=by rw[hcl]
              have hmem:∀ k,k∈AV.refsL (U1 s o.op)→k∈(X1 n0 s o.op (.val v)).2:=fun k hk=>by rw[hcl];exact hk
              refine near v rfl (ev3 (.inr hc3) hr.1.1 hmem) fun _ k hk=>?_
              have hk0:k < n0:=Zk _ hr.1.1 k hk
              have hko:=List.all_eq_true.1 (Bool.and_eq_true_iff.1 hw).2 k hk
              have e1:=(h.ten (.inr hc3) hn).2 k hk0 (hmem k hk) (.inr hko)
              rw[(h'.ten (.inr hc3) hn).2 k hk0 (hmem k hk) (.inl (e1▸hko)),e1]
            | false=>
            rw[hw,cond_false] at hcl
            have hc3:(X1 n0 s o.op (.val v)).1=3:=by rw[hcl]
            have hmem:∀ k,k∈AV.refsL (U1 s o.op)→k∈(X1 n0 s o.op (.val v)).2:=fun k hk=>by rw[hcl];exact hk
            refine near v rfl (ev2 hc3 hr.1.1) fun _ k hk=>?_
            have hk0:k < n0:=Zk _ hr.1.1 k hk
            have hko:=List.all_eq_true.1 hr.2 k hk
            have e1:=(h.two hc3 hn).2 k hk0 (hmem k hk) (.inr hko)
            rw[(h'.two hc3 hn).2 k hk0 (hmem k hk) (.inl (e1▸hko)),e1]
          | true=>
            rw[hs,cond_true] at hcl
            simp only[Bool.and_eq_true] at hs
            have hc3:(X1 n0 s o.op (.val v)).1=10:=by rw[hcl]
            have hmem:∀ k,k∈AV.refsL (U1 s o.op)→k∈(X1 n0 s o.op (.val v)).2:=fun k hk=>by rw[hcl];exact hk
            refine near v rfl (fun x hx=>?_) fun _ k hk=>?_
            ·cases x with
             | tmp t=>exact X0b h h' (Qf hx) (U01 hs.1.1 _ (List.mem_map.2 ⟨.tmp t,hx,rfl⟩))
             | _=>rfl
            ·have hk0:k < n0:=Zk _ hr.1.1 k hk
             have hko:=List.all_eq_true.1 hs.2 k hk
             have e1:=(h.ten (.inl hc3) hn).2 k hk0 (hmem k hk) (.inr hko)
             rw[(h'.ten (.inl hc3) hn).2 k hk0 (hmem k hk) (.inl (e1▸hko)),e1]
  | new os v=>
    have hcl:X1 n0 s o.op (.new os v)=(bif Z1d s o.op&&(v.high n0&&os.all (LObj.high n0)) then (12,[]) else (5,[])):=rfl
    cases ha:(Z1d s o.op&&(v.high n0&&os.all (LObj.high n0))) with
    | false=>rw[ha,cond_false] at hcl;rw[hcl] at h3;exact absurd ⟨by simp,by simp,by simp,by simp,by simp,by simp,by simp,by simp⟩ h3
    | true=>
      rw[ha,cond_true] at hcl
      have hc12:(X1 n0 s o.op (.new os v)).1=12:=by rw[hcl]
      simp only[Bool.and_eq_true] at ha
      have hnx:s'.nx=s.nx:=(h'.twelve hc12).trans (h.twelve hc12).symm
      cases hop:o.op<;>rw[hop] at ha<;>simp only[Z1d] at ha<;>try (simp at ha;done)
      ·rw[hop] at he
       simp only[evOp] at he ⊢
       rw[hnx]
       exact he
      ·rename_i ty n ps
       have hev:∀ x∈o.op.operands.toList,s'.ev x=s.ev x:=fun x hx=>by
        cases x with
        | tmp t=>exact X0b h h' (Qf hx) (U01 (show AV.solidL (U1 s o.op)=true by rw[hop];exact ha.1) _ (List.mem_map.2 ⟨Operand.tmp t,hx,rfl⟩))
        | _=>rfl
       rw[hop] at he hev
       have hmap:(ps.toList.map fun p=>(p.1,s'.ev p.2))=ps.toList.map fun p=>(p.1,s.ev p.2):=List.map_congr_left fun p hp=>by
        rw[hev p.2 (by simp only[Op.operands,Array.toList_map];exact List.mem_map.2 ⟨p,hp,rfl⟩)]
       have key:=V0r (hp':=s'.hp) (show Z6 T s.hp s.nx ty n (ps.toList.map fun p=>(p.1,s.ev p.2)) some=some (.new os v) from he)
       show Z6 T s'.hp s'.nx ty n (ps.toList.map fun p=>(p.1,s'.ev p.2)) some=_
       rw[hmap,hnx]
       exact key
  | upd k ob v=>
    cases hop:o.op<;>first
     | (refine absurd ?_ h3;simp only[X1,hop];exact⟨by simp,by simp,by simp,by simp,by simp,by simp,by simp,by simp⟩)
     | (exfalso;rw[hop] at he;simp only[evOp] at he;split at he
        ·split at he
         ·rename_i hx
          unfold boxE at hx
          split at hx
          ·cases hx;cases he
          ·cases hx
         ·cases he
        ·cases he)
  | app k ob v=>
    have hcl:X1 n0 s o.op (.app k ob v)=(bif Nat.ble n0 k then (bif Z19 o.op then (16,AV.refsL (U1 s o.op)) else (7,[])) else (8,[k])):=rfl
    cases hb:Nat.ble n0 k with
    | false=>rw[hb,cond_false] at hcl;rw[hcl] at h3;exact absurd ⟨by simp,by simp,by simp,by simp,by simp,by simp,by simp,by simp⟩ h3
    | true=>
      rw[hb,cond_true] at hcl
      cases ha:Z19 o.op with
      | false=>rw[ha,cond_false] at hcl;rw[hcl] at h3;exact absurd ⟨by simp,by simp,by simp,by simp,by simp,by simp,by simp,by simp⟩ h3
      | true=>
        rw[ha,cond_true] at hcl
        have hc16:(X1 n0 s o.op (.app k ob v)).1=16:=by rw[hcl]
        obtain⟨s1,s2⟩:=h.sev hc16
        obtain⟨r1,r2⟩:=h'.sev hc16
        have h1:=J3g ha he s'.hp s'.nx fun j hj=>by
         have hm:j∈(X1 n0 s o.op (.app k ob v)).2:=by rw[hcl];exact hj
         exact(r2 j hm).trans (s2 j hm).symm
        rw[←h1]
        refine U0j T orc o.op o.type (fun x hx=>?_) rfl rfl
        rw[X1u]
        cases x with
        | tmp t=>exact(r1 t (Qf hx)).trans (s1 t (Qf hx)).symm
        | _=>rfl
  | frz ks os v=>exact absurd ⟨show 4≤9 by omega,show 9≠10 by omega,show 9≠11 by omega,show 9≠12 by omega,show 9≠13 by omega,show 9≠15 by omega,show 9≠14 by omega,show 9≠16 by omega⟩ h3
  | foc k ob os v=>exact absurd ⟨show 4≤9 by omega,show 9≠10 by omega,show 9≠11 by omega,show 9≠12 by omega,show 9≠13 by omega,show 9≠15 by omega,show 9≠14 by omega,show 9≠16 by omega⟩ h3
  | call fz ks objs vs=>
    cases fz with
    | cons a b=>exact absurd ⟨show 4≤9 by omega,show 9≠10 by omega,show 9≠11 by omega,show 9≠12 by omega,show 9≠13 by omega,show 9≠15 by omega,show 9≠14 by omega,show 9≠16 by omega⟩ h3
    | nil=>
      cases ks with
      | nil=>exact absurd ⟨show 4≤8 by omega,show 8≠10 by omega,show 8≠11 by omega,show 8≠12 by omega,show 8≠13 by omega,show 8≠15 by omega,show 8≠14 by omega,show 8≠16 by omega⟩ h3
      | cons k ks=>
        have hcl:X1 n0 s o.op (.call [] (k::ks) objs vs)=(bif Xu n0 s o.op (k::ks) objs vs then (11,k::ks) else (8,k::ks)):=rfl
        cases ha:Xu n0 s o.op (k::ks) objs vs with
        | false=>rw[ha,cond_false] at hcl;rw[hcl] at h3;exact absurd ⟨by simp,by simp,by simp,by simp,by simp,by simp,by simp,by simp⟩ h3
        | true=>
          rw[ha,cond_true] at hcl
          have hc11:(X1 n0 s o.op (.call [] (k::ks) objs vs)).1=11:=by rw[hcl]
          simp only[Xu,Bool.and_eq_true,List.all_eq_true] at ha
          obtain⟨hic,_,hks,hlow,_⟩:=ha
          have hhp:∀ j,j < n0→s'.hp j=s.hp j:=fun j hj=>((h'.eleven hc11 hn).2 j hj).trans ((h.eleven hc11 hn).2 j hj).symm
          exact U2c hic he (ev1 (.inr (by rw[hc11];omega))) (fun j hj=>hhp j (Zk _ hlow j hj)) (fun j hj=>hhp j (by simpa using hks j hj))
theorem U2n {T:Tab} {n0:Nat} {o:Oper} {ops:Array Oper} {c:Cls} {st s s':St} {v:AV} (h:Obs n0 o ops c st s) (h':Obs n0 o ops c st s') (hbs:Uv T o.op s=some v):Uv T o.op s'=some v:=by
 have hev:∀ x∈o.op.operands.toList,s'.ev x=s.ev x:=fun x hx=>by
  cases x with
  | tmp t=>
    refine X0b h h' (Qf hx) ?_
    unfold Uv at hbs
    split at hbs
    ·rename_i t' n' ps _ hop
     obtain⟨τ,xs,_,_,h3,_⟩:=X1m hbs
     have hm:s.tm t∈((ps.toList.map fun p=>(p.1,s.ev p.2)).map (·.2)):=by
      rw[hop] at hx
      simp only[Op.operands,Array.toList_map,List.mem_map] at hx
      obtain⟨p,hp,hpe⟩:=hx
      simp only[List.map_map,List.mem_map]
      exact⟨p,hp,by simp only[Function.comp];rw[hpe];rfl⟩
     exact U01 h3 _ hm
    ·cases hbs
  | _=>rfl
 rw[←hbs]
 unfold Uv
 cases T.bsd with
 | false=>rfl
 | true=>
   cases hop:o.op
   case buildSlice t' n' ps=>
    have hmap:(ps.toList.map fun p=>(p.1,s'.ev p.2))=ps.toList.map fun p=>(p.1,s.ev p.2):=List.map_congr_left fun p hp=>by
     rw[hev p.2 (by rw[hop];simp only[Op.operands,Array.toList_map];exact List.mem_map.2 ⟨p,hp,rfl⟩)]
    simp only[hmap]
   all_goals rfl
theorem X3q {T:Tab} {orc:Orc} {all:List Oper} {n0:Nat} {o:Oper} {ops:Array Oper} {st s s':St} {f:Eff} (hn:n0≤st.nx) (h:Obs n0 o ops (X1 n0 s o.op f) st s) (h':Obs n0 o ops (X1 n0 s o.op f) st s')
    (he:Xp T orc all n0 o s some=some f):Xp T orc all n0 o s' some=some f:=by
 unfold Xp at he ⊢
 cases hnm:V0t T all n0 o with
 | none=>
   rw[hnm] at he
   simp only at he ⊢
   cases hbs:Uv T o.op s with
   | some v=>
     rw[hbs] at he
     rw[U2n h h' hbs]
     exact he
   | none=>
     rw[hbs] at he
     have hnone:Uv T o.op s'=none:=by
      cases hbs':Uv T o.op s' with
      | none=>rfl
      | some v=>rw[U2n h' h hbs'] at hbs;cases hbs
     rw[hnone]
     exact J4k hn h h' he
 | some p=>
   obtain⟨k,ob⟩:=p
   rw[hnm] at he
   simp only at he ⊢
   cases hg:s.hp k with
   | gone=>
     rw[hg] at he
     simp only at he
     cases hlt:Nat.blt k s.nx with
     | false=>rw[hlt] at he;cases he
     | true=>
       rw[hlt,cond_true] at he
       cases he
       obtain⟨e,hop⟩:∃ e,o.op=.alloc e:=by
        unfold V0t Z2m at hnm
        split at hnm
        ·rename_i hx
         split at hx
         ·exact⟨_,by assumption⟩
         ·cases hx
        ·cases hnm
       have hcl:X1 n0 s o.op (.upd k ob (.ptr k 0))=(bif (ob.solid&&AV.solid (.ptr k 0))&&Nat.blt k n0 then (14,[k]) else (9,[])):=by rw[hop];rfl
       have key:s'.hp k=s.hp k∧k < s'.nx:=by
        cases hb:((ob.solid&&AV.solid (.ptr k 0))&&Nat.blt k n0) with
        | true=>
          rw[hb,cond_true] at hcl
          have hc:(X1 n0 s o.op (.upd k ob (.ptr k 0))).1=14:=by rw[hcl]
          have hm:k∈(X1 n0 s o.op (.upd k ob (.ptr k 0))).2:=by rw[hcl];simp
          have hk0:k < n0:=by simp only[Bool.and_eq_true,Nat.blt_eq] at hb;exact hb.2
          have hgo:Q0j (s.hp k)=true:=by rw[hg];rfl
          have e1:=(h.fil hc hn).2 k hk0 hm (.inr hgo)
          obtain⟨g1,g2⟩:=h'.fil hc hn
          have e2:=g2 k hk0 hm (.inl (by rw[←e1];exact hgo))
          exact⟨e2.trans e1.symm,by omega⟩
        | false=>
          rw[hb,cond_false] at hcl
          have hc:4≤(X1 n0 s o.op (.upd k ob (.ptr k 0))).1∧(X1 n0 s o.op (.upd k ob (.ptr k 0))).1≠10∧(X1 n0 s o.op (.upd k ob (.ptr k 0))).1≠11∧(X1 n0 s o.op (.upd k ob (.ptr k 0))).1≠12∧(X1 n0 s o.op (.upd k ob (.ptr k 0))).1≠13∧(X1 n0 s o.op (.upd k ob (.ptr k 0))).1≠15∧(X1 n0 s o.op (.upd k ob (.ptr k 0))).1≠14∧(X1 n0 s o.op (.upd k ob (.ptr k 0))).1≠16:=by rw[hcl];simp
          have e1:=h.three hc
          have e2:=h'.three hc
          have hlt':k < s.nx:=by simpa using hlt
          exact⟨by rw[e2.1,e1.1],by rw[e2.2,←e1.2];exact hlt'⟩
       rw[key.1,hg]
       simp only
       rw[show Nat.blt k s'.nx=true by simpa using key.2]
       rfl
   | boxT _ _=>rw[hg] at he;cases he
   | row _ _=>rw[hg] at he;cases he
   | mpo _ _ _=>rw[hg] at he;cases he
   | mpb _ _ _ _ _=>rw[hg] at he;cases he
theorem Q3m (o:Oper) (e:Option Eff) (st:St):st.nx≤(Z3 o e st).nx:=by
 have hmem:∀ (s:St) (v:AV),(s.putO o.dst v).nx=s.nx:=fun s v=>by cases o.dst<;>rfl
 cases e with
 | none=>simp only[Z3,hmem];omega
 | some f=>
   simp only[Z3,hmem]
   cases f with
   | val v=>exact Nat.le_refl _
   | new os v=>simp only[St.apply,U7];omega
   | upd k ob v=>exact Nat.le_refl _
   | app k ob v=>exact Nat.le_refl _
   | foc k ob os v=>
     simp only[St.apply,U7]
     exact Nat.le_add_right _ _
   | frz ks os v=>
     simp only[St.apply,U7]
     exact Nat.le_add_right _ _
   | call fz ks objs vs=>
     simp only[St.apply,U7]
     cases fz<;>cases ks<;>exact Nat.le_add_right _ _
theorem V03 {T:Tab} {orc:Orc} {all:List Oper} {n0:Nat} {o:Oper} {st:St} {R:Type} (K:Eff→Option R):Xp T orc all n0 o st K=(Xp T orc all n0 o st some).bind K:=by
 unfold Xp
 cases V0t T all n0 o with
 | none=>
   simp only
   cases Uv T o.op st with
   | some v=>rfl
   | none=>exact V0d T orc o.op o.type st K
 | some p=>
   obtain⟨k,ob⟩:=p
   simp only
   cases st.hp k with
   | gone=>simp only;cases Nat.blt k st.nx<;>rfl
   | boxT _ _=>rfl
   | row _ _=>rfl
   | mpo _ _ _=>rfl
   | mpb _ _ _ _ _=>rfl
inductive Trace (T:Tab) (orc:Orc) (n0:Nat) (all:List Oper):List Oper→List (Option Eff×Cls)→St→St→Prop where
 | nil (st:St):Trace T orc n0 all [] [] st st
 | run {o:Oper} {os:List Oper} {es:List (Option Eff×Cls)} {st st':St} {f:Eff} (hg:V06 all o st=some true) (he:Xp T orc all n0 o st some=some f)
     (h:Trace T orc n0 all os es (Z3 o (some f) st) st'):Trace T orc n0 all (o::os) ((some f,X1 n0 st o.op f)::es) st st'
 | skip {o:Oper} {os:List Oper} {es:List (Option Eff×Cls)} {st st':St} (hg:V06 all o st=some false) (h:Trace T orc n0 all os es (Z3 o none st) st') :
     Trace T orc n0 all (o::os) ((none,(0,[]))::es) st st'
theorem J04 {T:Tab} {orc:Orc} {R:Type} {K:St→Option R} {r:R} {all:List Oper} {bs:List Nat} {n0:Nat}:∀ (os:List Oper) (cs:List Cls) (st:St),Uh T orc all bs n0 os cs st K=some r→
    ∃ es st',Trace T orc n0 all os es st st'∧J05 bs (cs.reverse++es.map (·.2))=true∧K st'=some r
 | [],cs,st,h=>by
   simp only[Uh] at h
   cases hm:J05 bs cs.reverse with
   | false=>rw[hm] at h;cases h
   | true=>
     rw[hm] at h
     exact⟨[],st,.nil st,by simpa using hm,h⟩
 | o::os,cs,st,h=>by
   simp only[Uh,U0u,X01,Q19] at h
   rcases J2j h with ⟨hg,h⟩ | ⟨hg,h⟩
   ·rw[V03] at h
    cases he:Xp T orc all n0 o st some with
    | none=>rw[he] at h;cases h
    | some f=>
      rw[he] at h
      simp only[Option.bind_some] at h
      obtain⟨es,st',h1,h2,h3⟩:=J04 os _ _ h
      exact⟨_,st',.run hg he h1,by simpa using h2,h3⟩
   ·obtain⟨es,st',h1,h2,h3⟩:=J04 os _ _ h
    exact⟨_,st',.skip hg h1,by simpa using h2,h3⟩
def U6 (ops:List Oper) (es:List (Option Eff×Cls)) (i:Nat):St→St:=
 match ops[i]?,es[i]? with
 | some o,some e=>Z3 o e.1
 | _,_=>id
theorem V0e {T:Tab} {orc:Orc} {n0:Nat} {all os:List Oper} {es:List (Option Eff×Cls)} {st st':St} (h:Trace T orc n0 all os es st st'):es.length=os.length:=by
 induction h with
 | nil st=>rfl
 | run hg he h ih=>simp[ih]
 | skip hg h ih=>simp[ih]
theorem U0k {T:Tab} {orc:Orc} {n0:Nat} {all:List Oper} {es:List (Option Eff×Cls)} {st st':St} (h:Trace T orc n0 all all es st st') :
    ∀ i,i≤all.length→Trace T orc n0 all (all.drop i) (es.drop i) (runS (U6 all es) (fun _=>true) st i) st'
 | 0,_=>by simpa[runS] using h
 | i+1,hi=>by
   have h1:=U0k h i (by omega)
   have hlen:=V0e h
   have ho:all.drop i=all[i]::all.drop (i+1):=List.drop_eq_getElem_cons (by omega)
   have hes:es.drop i=es[i]::es.drop (i+1):=List.drop_eq_getElem_cons (by omega)
   rw[ho,hes] at h1
   have hstep:∀ s,U6 all es i s=Z3 all[i] es[i].1 s:=fun s=>by
    unfold U6
    rw[List.getElem?_eq_getElem (by omega),List.getElem?_eq_getElem (by omega)]
   simp only[runS,cond_true]
   rw[hstep]
   generalize hx:es[i]=x at h1 ⊢
   cases h1 with
   | run hg he h=>exact h
   | skip hg h=>exact h
theorem Z28 {T:Tab} {orc:Orc} {n0:Nat} {all:List Oper} {es:List (Option Eff×Cls)} {st st':St} (h:Trace T orc n0 all all es st st') {i:Nat} {o:Oper} (ho:all[i]?=some o) :
    ∃ e,es[i]?=some e∧Cl n0 e.1 e.2∧((e.1=none∧V06 all o (runS (U6 all es) (fun _=>true) st i)=some false) ∨
      ∃ f,e=(some f,X1 n0 (runS (U6 all es) (fun _=>true) st i) o.op f)∧V06 all o (runS (U6 all es) (fun _=>true) st i)=some true∧Xp T orc all n0 o (runS (U6 all es) (fun _=>true) st i) some=some f):=by
 obtain⟨hi,rfl⟩:=List.getElem?_eq_some_iff.1 ho
 have h1:=U0k h i (by omega)
 have hlen:=V0e h
 have ho':all.drop i=all[i]::all.drop (i+1):=List.drop_eq_getElem_cons (by omega)
 have hes:es.drop i=es[i]::es.drop (i+1):=List.drop_eq_getElem_cons (by omega)
 rw[ho',hes] at h1
 refine⟨es[i],List.getElem?_eq_getElem (by omega),?_⟩
 generalize es[i]=x at h1 ⊢
 cases h1 with
 | run hg he h=>exact⟨cl_of _ _ _ _,.inr ⟨_,rfl,hg,he⟩⟩
 | skip hg h=>exact⟨.skip,.inl ⟨rfl,hg⟩⟩
theorem Z2z {T:Tab} {orc:Orc} {n0:Nat} {all:List Oper} {es:List (Option Eff×Cls)} {st st':St} (h:Trace T orc n0 all all es st st') :
    runS (U6 all es) (fun _=>true) st all.length=st':=by
 have h1:=U0k h all.length (Nat.le_refl _)
 rw[List.drop_length,show es.drop all.length=[] from by rw[←V0e h,List.drop_length]] at h1
 cases h1
 rfl
def Ji (acc:Array Nat) (o:Oper):Nat:=o.after.foldl (fun s e=>if Region.binds .any e then s ||| 2 ^ e.on ||| acc.getD e.on 0 else s) 0
theorem V1y (acc:Array Nat):∀ (es:List Edge) (s x:Nat),(es.foldl (fun s e=>if Region.binds .any e then s ||| 2 ^ e.on ||| acc.getD e.on 0 else s) s).testBit x=true→
    s.testBit x=true∨∃ e∈es,Region.binds .any e=true∧(x=e.on∨(acc.getD e.on 0).testBit x=true)
 | [],s,x,h=>.inl h
 | e::es,s,x,h=>by
   simp only[List.foldl_cons] at h
   rcases V1y acc es _ x h with h1 | ⟨e',he',hb,h2⟩
   ·by_cases hb:Region.binds .any e=true
    ·rw[if_pos hb,Nat.testBit_or,Nat.testBit_or,Bool.or_eq_true,Bool.or_eq_true] at h1
     rcases h1 with (h1 | h1) | h1
     ·exact .inl h1
     ·rw[Nat.testBit_two_pow] at h1
      exact .inr ⟨e,by simp,hb,.inl (by simpa using (of_decide_eq_true h1).symm)⟩
     ·exact .inr ⟨e,by simp,hb,.inr h1⟩
    ·rw[if_neg hb] at h1
     exact .inl h1
   ·exact .inr ⟨e',by simp[he'],hb,h2⟩
theorem U1k:∀ (os:List Oper) (acc:Array Nat) (all:List Oper),all.drop acc.size=os→
    (∀ j o,j < acc.size→all[j]?=some o→∀ x,(acc.getD j 0).testBit x=true→∃ e∈o.after.toList,Region.binds .any e=true∧(x=e.on∨(acc.getD e.on 0).testBit x=true))→
    ∀ j o,all[j]?=some o→∀ x,((os.foldl (fun acc o=>acc.push (Ji acc o)) acc).getD j 0).testBit x=true→
      ∃ e∈o.after.toList,Region.binds .any e=true∧(x=e.on∨((os.foldl (fun acc o=>acc.push (Ji acc o)) acc).getD e.on 0).testBit x=true)
 | [],acc,all,hd,h,j,o,ho,x,hx=>by
   simp only[List.foldl_nil] at hx ⊢
   have:j < acc.size:=by
    obtain⟨hj,_⟩:=List.getElem?_eq_some_iff.1 ho
    have:=congrArg List.length hd
    simp at this
    omega
   exact h j o this ho x hx
 | p::os,acc,all,hd,h,j,o,ho,x,hx=>by
   simp only[List.foldl_cons] at hx ⊢
   have hlt:acc.size < all.length:=by
    rcases Nat.lt_or_ge acc.size all.length with h' | h'
    ·exact h'
    ·rw[List.drop_eq_nil_of_le h'] at hd;cases hd
   have hp:all[acc.size]?=some p:=by
    have:(all.drop acc.size)[0]?=some p:=by rw[hd];rfl
    simpa[List.getElem?_drop] using this
   refine U1k os (acc.push (Ji acc p)) all (by rw[Array.size_push,←List.drop_drop,hd];rfl) ?_ j o ho x hx
   intro j' o' hj' ho' x' hx'
   have keep:∀ k,(acc.getD k 0).testBit x'=true→((acc.push (Ji acc p)).getD k 0).testBit x'=true:=fun k hk=>by
    by_cases hk2:k < acc.size
    ·have:(acc.push (Ji acc p)).getD k 0=acc.getD k 0:=by simp[Array.getElem?_push,show k≠acc.size by omega]
     rw[this];exact hk
    ·simp[Array.getElem?_eq_none (show acc.size≤k by omega)] at hk
   by_cases hj2:j' < acc.size
   ·have:(acc.push (Ji acc p)).getD j' 0=acc.getD j' 0:=by simp[Array.getElem?_push,show j'≠acc.size by omega]
    rw[this] at hx'
    obtain⟨e,he,hb,hh⟩:=h j' o' hj2 ho' x' hx'
    exact⟨e,he,hb,hh.imp id (keep e.on)⟩
   ·have:j'=acc.size:=by simp at hj';omega
    subst this
    rw[hp] at ho'
    cases ho'
    have:(acc.push (Ji acc p)).getD acc.size 0=Ji acc p:=by simp
    rw[this] at hx'
    unfold Ji at hx'
    rw[←Array.foldl_toList] at hx'
    rcases V1y acc _ _ _ hx' with h0 | ⟨e,he,hb,hh⟩
    ·simp at h0
    ·exact⟨e,he,hb,hh.imp id (keep e.on)⟩
theorem U28 {ops:Array Oper} {j:Nat} {o:Oper} (ho:ops[j]?=some o) {x:Nat} (hx:((Region.before ops).toList.getD j 0).testBit x=true) :
    ∃ e∈o.after.toList,Region.binds .any e=true∧(x=e.on∨((Region.before ops).toList.getD e.on 0).testBit x=true):=by
 have hb:Region.before ops=ops.toList.foldl (fun acc o=>acc.push (Ji acc o)) #[]:=by
  unfold Region.before
  rw[←Array.foldl_toList]
  rfl
 have:=U1k ops.toList #[] ops.toList rfl (fun j o hj=>by simp at hj) j o (by rw[Array.getElem?_toList];exact ho) x
 rw[←hb] at this
 have hg:∀ k,(Region.before ops).toList.getD k 0=(Region.before ops).getD k 0:=fun k=>by simp
 rw[hg] at hx
 obtain⟨e,he,h1,h2⟩:=this hx
 exact⟨e,he,h1,by rw[hg];exact h2⟩
theorem Z25 {ops:Array Oper} {bs:List Nat} (h:U07 ops bs=true) {i j:Nat} {x y:Oper} (hij:i < j) (hx:ops[i]?=some x) (hy:ops[j]?=some y):(bs.getD j 0).testBit i=true∨Oper.apart ops x y=true:=by
 have hj:j < ops.size:=(Array.getElem?_eq_some_iff.1 hy).1
 have h1:=J0c _ _ h j (by omega) (by omega)
 simp only[Bool.and_eq_true] at h1
 have h2:=J0c _ _ h1.2 i (by omega) (by omega)
 simp only[hx,hy,Bool.or_eq_true] at h2
 exact h2
theorem J1y {ops:Array Oper} {bs:List Nat} (h:U07 ops bs=true) {j:Nat} {y:Oper} (hy:ops[j]?=some y):∀ e∈y.after,Region.binds .any e=true→e.on < j:=by
 intro e he hb
 have hj:j < ops.size:=(Array.getElem?_eq_some_iff.1 hy).1
 have h1:=J0c _ _ h j (by omega) (by omega)
 simp only[Bool.and_eq_true,hy,List.all_eq_true] at h1
 have h2:=h1.1 e (by simpa using he)
 rw[hb] at h2
 simpa using h2
theorem Q1s {bs:List Nat} {cs:List Cls} (h:J05 bs cs=true) {i j:Nat} {x y:Cls} (hij:i < j) (hx:cs[i]?=some x) (hy:cs[j]?=some y):(bs.getD j 0).testBit i=true∨meet x y=true:=by
 obtain⟨hj,_⟩:=List.getElem?_eq_some_iff.1 hy
 have h1:=J0c _ _ h j (by omega) (by omega)
 have h2:=J0c _ _ h1 i (by omega) (by omega)
 rw[Bool.or_eq_true] at h2
 refine h2.imp id fun h3=>?_
 rw[List.getD_eq_getElem?_getD,List.getD_eq_getElem?_getD,hx,hy] at h3
 exact h3
theorem V0f {listed:Array Bool} {j:Nat} (h:listed.getD j true=false):listed.getD j false=false:=by
 rcases Nat.lt_or_ge j listed.size with h' | h'
 ·simp[h'] at h ⊢;exact h
 ·simp[Array.getElem?_eq_none h'] at h
theorem Z3k {listed:Array Bool} {i:Nat} (hi:i < listed.size):(fun k=>(listed.setIfInBounds i true).getD k false)=addL (fun k=>listed.getD k false) i:=by
 funext k
 by_cases hk:k=i
 ·subst hk;simp[addL,hi]
 ·have:(k==i)=false:=by simp[hk]
  simp[addL,this,Array.getElem?_setIfInBounds_ne (Ne.symm hk)]
theorem Z0c (ops:List Oper) (es:List (Option Eff×Cls)) (i:Nat) (s:St):s.nx≤(U6 ops es i s).nx:=by
 unfold U6
 cases ops[i]? with
 | none=>exact Nat.le_refl _
 | some o=>
   cases es[i]? with
   | none=>exact Nat.le_refl _
   | some e=>exact Q3m _ _ _
theorem X2a {P:Program} {T:Tab} (hT:U2 P T) {orc:Orc} (hO:Qa P orc) {R:Type} {K:Eff→Option R} {r:R} {c:Cx} {st:St} {a:Act} {w:World} {μ:Nat→Pl} {F:Nat→Prop} (hi:Inv c st a w μ F) {all:List Oper} {n0:Nat} {o:Oper}
    (h:Xp T orc all n0 o st K=some r):∃ f,K f=some r∧Q0r P c st a w o f:=by
 unfold Xp at h
 cases hnm:V0t T all n0 o with
 | none=>
   rw[hnm] at h
   simp only at h
   cases hbs:Uv T o.op st with
   | none=>rw[hbs] at h;exact U17 hT hO hi h
   | some v=>
     rw[hbs] at h
     simp only at h
     unfold Uv at hbs
     split at hbs
     ·rename_i t n ps _ hop
      obtain⟨τ,xs,rfl,_,_,hE⟩:=X1m hbs
      obtain⟨f,hf,g⟩:=J06 (P:=P) hT hi (hE st.hp st.nx) (qs:=ps.toList.map fun p=>(p.1,a.eval p.2)) (by simp) (X19 hi ps.toList)
      obtain rfl:=(Option.some.inj hf)
      obtain⟨u,w',μ',F',g1,g2,g3⟩:=g
      obtain⟨μ2,F2,k1,k2⟩:=X33 hi g2 g3
      have g':Outc P c st a w (Instr.buildSlice t n (ps.toList.map fun p=>(p.1,a.eval p.2)).toArray) (.val (.list τ xs)):=⟨u,w',μ2,F2,g1,k1,k2⟩
      refine⟨_,h,V2 g' fun v w' hr=>?_⟩
      rw[←J0f] at hr
      simp[execOp,hop,hr]
     ·cases hbs
 | some p=>
   obtain⟨k,ob⟩:=p
   rw[hnm] at h
   simp only at h
   cases hg:st.hp k with
   | gone=>
     rw[hg] at h
     simp only at h
     cases hlt:Nat.blt k st.nx with
     | false=>rw[hlt] at h;cases h
     | true=>
       rw[hlt,cond_true] at h
       obtain⟨e,hop,hf⟩:∃ e,o.op=.alloc e∧J0q T e=some ob:=by
        unfold V0t at hnm
        split at hnm
        ·rename_i d ob' hx
         split at hnm
         ·cases hnm
          unfold Z2m at hx
          split at hx
          ·rename_i e _ ho _ _
           split at hx
           ·cases hx
            exact⟨_,by assumption,by assumption⟩
           ·cases hx
          ·cases hx
         ·cases hnm
        ·cases hnm
       exact⟨_,h,V2 (X2c hT hi hf (by simpa using hlt) hg (.tuple #[])) fun v w' hr=>by simp[execOp,hop,hr]⟩
   | boxT _ _=>rw[hg] at h;cases h
   | row _ _=>rw[hg] at h;cases h
   | mpo _ _ _=>rw[hg] at h;cases h
   | mpb _ _ _ _ _=>rw[hg] at h;cases h
theorem U4c {P:Program} {T:Tab} (hT:U2 P T) {orc:Orc} (hO:Qa P orc) {c:Cx} {ops:Array Oper} {Q:Exit→Act→World→Prop} (hd:∀ o∈ops.toList,∀ t,o.dst=some t→t < c.nt)
    {es:List (Option Eff×Cls)} {st0 st':St} (htr:Trace T orc st0.nx ops.toList ops.toList es st0 st') (hdr:U07 ops (Region.before ops).toList=true) (hmm:J05 (Region.before ops).toList (es.map (·.2))=true)
    (hQ:∀ a w μ F,Inv c st' a w μ F→Q .normal a w) :
    ∀ (fuel:Nat) (listed:Array Bool) (U:List Nat) (a:Act) (w:World) (μ:Nat→Pl) (F:Nat→Prop),listed.size=ops.size→(∀ i,i < ops.size→listed.getD i false=false→i∈U)→U.length≤fuel→
      (∀ j o,ops[j]?=some o→listed.getD j false=true→∀ x,((Region.before ops).toList.getD j 0).testBit x=true→listed.getD x false=true)→
      Inv c (runS (U6 ops.toList es) (fun i=>listed.getD i false) st0 ops.size) a w μ F→wpAny P .any ops Q fuel listed a w:=by
 have hlen:=V0e htr
 have hsz:ops.toList.length=ops.size:=by simp
 have hend:=Z2z htr
 rw[hsz] at hend
 have fin:∀ (listed:Array Bool) a w μ F,(∀ i,i < ops.size→listed.getD i false=true)→Inv c (runS (U6 ops.toList es) (fun i=>listed.getD i false) st0 ops.size) a w μ F→Q .normal a w:=fun listed a w μ F hall hi=>by
  have:runS (U6 ops.toList es) (fun i=>listed.getD i false) st0 ops.size=st':=by
   rw[←hend]
   exact Ug _ fun i h=>hall i h
  rw[this] at hi
  exact hQ a w μ F hi
 have getE:∀ {i:Nat} {o:Oper},ops[i]?=some o→∃ e,es[i]?=some e∧U6 ops.toList es i=Z3 o e.1:=fun {i o} ho=>by
  have hi:i < es.length:=by rw[hlen,hsz];exact(Array.getElem?_eq_some_iff.1 ho).1
  refine⟨es[i],List.getElem?_eq_getElem hi,?_⟩
  funext s
  unfold U6
  rw[List.getElem?_eq_getElem hi,Array.getElem?_toList,ho]
 have getC:∀ {i:Nat} {o:Oper} {e:Option Eff×Cls},ops[i]?=some o→es[i]?=some e→Cl st0.nx e.1 e.2:=fun {i o e} ho he=>by
  obtain⟨e',he',hc,_⟩:=Z28 htr (i:=i) (o:=o) (by rw[Array.getElem?_toList];exact ho)
  rw[he] at he'
  cases he'
  exact hc
 have meets:∀ {i j:Nat} {x y:Option Eff×Cls},i < j→es[i]?=some x→es[j]?=some y→((Region.before ops).toList.getD j 0).testBit i=false→meet x.2 y.2=true:=fun {i j x y} hij hx hy hb=>by
  rcases Q1s hmm hij (x:=x.2) (y:=y.2) (by rw[List.getElem?_map,hx];rfl) (by rw[List.getElem?_map,hy];rfl) with h | h
  ·rw[hb] at h;cases h
  ·exact h
 have aparts:∀ {i j:Nat} {x y:Oper},i < j→ops[i]?=some x→ops[j]?=some y→((Region.before ops).toList.getD j 0).testBit i=false→Oper.apart ops x y=true:=fun {i j x y} hij hx hy hb=>by
  rcases Z25 hdr hij hx hy with h | h
  ·rw[hb] at h;cases h
  ·exact h
 have swap:∀ {i j:Nat},i < j→j < ops.size→((Region.before ops).toList.getD j 0).testBit i=false→∀ s,st0.nx≤s.nx→U6 ops.toList es j (U6 ops.toList es i s)=U6 ops.toList es i (U6 ops.toList es j s):=fun {i j} hij hj hb s hsn=>by
  have hoi:ops[i]?=some ops[i]:=Array.getElem?_eq_getElem (by omega)
  have hoj:ops[j]?=some ops[j]:=Array.getElem?_eq_getElem hj
  obtain⟨ei,hei,hsi⟩:=getE hoi
  obtain⟨ej,hej,hsj⟩:=getE hoj
  rw[hsi,hsj]
  exact X2r (getC hoi hei) (getC hoj hej) (meets hij hei hej hb) (Oper.apart_spec (aparts hij hoi hoj hb)).2.1 s hsn
 intro fuel
 induction fuel with
 | zero=>
   intro listed U a w μ F hls hU hUl hcl hi
   have hall:∀ i,i < ops.size→listed.getD i false=true:=fun i h=>by
    cases hx:listed.getD i false with
    | true=>rfl
    | false=>
      have:=hU i h hx
      have hnil:U=[]:=by cases U with | nil=>rfl | cons _ _=>simp at hUl
      rw[hnil] at this;cases this
   refine⟨?_,fin listed a w μ F hall hi⟩
   cases hr:Region.ready .any ops listed with
   | nil=>rfl
   | cons x xs=>
     have hx:x∈Region.ready .any ops listed:=by rw[hr];simp
     obtain⟨h1,o,h2,_⟩:=mem_ready.1 hx
     have h3:=hall x (Array.getElem?_eq_some_iff.1 h2).1
     rw[V0f h1] at h3
     cases h3
 | succ fuel ih=>
   intro listed U a w μ F hls hU hUl hcl hi
   refine⟨fun hr=>?_,fun i hi'=>?_⟩
   ·refine fin listed a w μ F ?_ hi
    intro i
    induction i using Nat.strongRecOn with
    | _ i ihi=>
      intro hlt
      cases hx:listed.getD i false with
      | true=>rfl
      | false=>
        have ho:ops[i]?=some ops[i]:=Array.getElem?_eq_getElem hlt
        have:i∈Region.ready .any ops listed:=by
         rw[mem_ready]
         refine⟨?_,ops[i],ho,fun e he hb=>?_⟩
         ·have:i < listed.size:=by omega
          simp[this] at hx ⊢;exact hx
         ·have hlt':=J1y hdr ho e he hb
          exact ihi e.on hlt' (by omega)
        rw[hr] at this
        cases this
   ·obtain⟨hun,o,ho,hall⟩:=mem_ready.1 hi'
    have hil:i < ops.size:=(Array.getElem?_eq_some_iff.1 ho).1
    have hLi:listed.getD i false=false:=V0f hun
    have hbi:∀ x,((Region.before ops).toList.getD i 0).testBit x=true→listed.getD x false=true:=fun x hx=>by
     obtain⟨e,he,hb,h⟩:=U28 ho hx
     have hL:=hall e (by simpa using he) hb
     rcases h with rfl | h
     ·exact hL
     ·have:e.on < ops.size:=by
       rcases Nat.lt_or_ge e.on ops.size with h' | h'
       ·exact h'
       ·simp[Array.getElem?_eq_none (show listed.size≤e.on by omega)] at hL
      exact hcl e.on ops[e.on] (Array.getElem?_eq_getElem this) hL x h
    have hnb:∀ k,k < ops.size→listed.getD k false=true→∀ x,listed.getD x false=false→((Region.before ops).toList.getD k 0).testBit x=false:=fun k hk hLk x hLx=>by
     cases hb:((Region.before ops).toList.getD k 0).testBit x with
     | false=>rfl
     | true=>
       have:=hcl k ops[k] (Array.getElem?_eq_getElem hk) hLk x hb
       rw[hLx] at this;cases this
    obtain⟨e,hei,hce,hcase⟩:=Z28 htr (i:=i) (o:=o) (by rw[Array.getElem?_toList];exact ho)
    have hstep:U6 ops.toList es i=Z3 o e.1:=by
     obtain⟨e',he',h⟩:=getE ho
     rw[hei] at he'
     cases he'
     exact h
    obtain⟨core,hcore,hobs,hobs'⟩:∃ core:St,st0.nx≤core.nx∧Obs st0.nx o ops e.2 core (runS (U6 ops.toList es) (fun _=>true) st0 i)∧Obs st0.nx o ops e.2 core (runS (U6 ops.toList es) (fun k=>listed.getD k false) st0 ops.size):=by
     have h1:Obs st0.nx o ops e.2 (runS (U6 ops.toList es) (fun k=>listed.getD k false&&decide (k < i)) st0 ops.size) (runS (U6 ops.toList es) (fun k=>listed.getD k false) st0 ops.size):=by
      refine X27 (Z0c _ _) (Nat.le_refl _) Q27 J1j (fun k h=>by simp only[Bool.and_eq_true] at h;exact h.1) fun k hk h2 h3=>?_
      have hki:i < k:=by
       rw[h3] at h2
       simp at h2
       rcases Nat.lt_or_eq_of_le h2 with h | h
       ·exact h
       ·subst h;rw[hLi] at h3;cases h3
      have hb:=hnb k hk h3 i hLi
      have hok:ops[k]?=some ops[k]:=Array.getElem?_eq_getElem hk
      obtain⟨ek,hek,hsk⟩:=getE hok
      refine⟨fun s _=>?_,fun k' h4 h5 h6 s hsn=>?_⟩
      ·rw[hsk]
       exact Q21 (getC hok hek) (meets hki hei hek hb) (Oper.apart_spec (aparts hki ho hok hb)).2.2 s
      ·simp only[Bool.and_eq_true,decide_eq_true_eq] at h6
       omega
     have h2:Obs st0.nx o ops e.2 (runS (U6 ops.toList es) (fun k=>listed.getD k false&&decide (k < i)) st0 ops.size) (runS (U6 ops.toList es) (fun k=>decide (k < i)) st0 ops.size):=by
      refine X27 (Z0c _ _) (Nat.le_refl _) Q27 J1j (fun k h=>by simp only[Bool.and_eq_true] at h;exact h.2) fun k hk h2 h3=>?_
      have hki:k < i:=of_decide_eq_true h3
      have hLk:listed.getD k false=false:=by
       rw[h3,Bool.and_true] at h2
       exact h2
      have hb:((Region.before ops).toList.getD i 0).testBit k=false:=by
       cases hb:((Region.before ops).toList.getD i 0).testBit k with
       | false=>rfl
       | true=>rw[hbi k hb] at hLk;cases hLk
      have hok:ops[k]?=some ops[k]:=Array.getElem?_eq_getElem hk
      obtain⟨ek,hek,hsk⟩:=getE hok
      refine⟨fun s _=>?_,fun k' h4 h5 h6 s hsn=>?_⟩
      ·rw[hsk]
       have hm:=meets hki hek hei hb
       have hm':meet e.2 ek.2=true:=by rw[U2x];exact hm
       exact Q21 (getC hok hek) hm' (Oper.apart_spec (aparts hki hok ho hb)).1 s
      ·simp only[Bool.and_eq_true,decide_eq_true_eq] at h6
       exact swap h4 h5 (hnb k' h5 h6.1 k hLk) s hsn
     have h3:runS (U6 ops.toList es) (fun k=>decide (k < i)) st0 ops.size=runS (U6 ops.toList es) (fun _=>true) st0 i:=by
      have:∀ m,i≤m→runS (U6 ops.toList es) (fun k=>decide (k < i)) st0 m=runS (U6 ops.toList es) (fun _=>true) st0 i:=by
       intro m hm
       induction m with
       | zero=>
         have:i=0:=by omega
         subst this
         rfl
       | succ m ihm=>
         by_cases h:i=m+1
         ·subst h
          exact Ug _ fun k hk=>by simp[hk]
         ·simp only[runS]
          have:¬ m < i:=by omega
          simp only[this,decide_false,cond_false]
          exact ihm (by omega)
      exact this ops.size (by omega)
     have h4:∀ m,st0.nx≤(runS (U6 ops.toList es) (fun k=>listed.getD k false&&decide (k < i)) st0 m).nx:=by
      intro m
      induction m with
      | zero=>exact Nat.le_refl _
      | succ m ihm=>
        simp only[runS]
        cases (listed.getD m false&&decide (m < i)) with
        | false=>exact ihm
        | true=>
          exact Nat.le_trans ihm (Z0c _ _ _ _)
     rw[←h3]
     exact⟨_,h4 ops.size,h2,h1⟩
    have hmem:o∈ops.toList:=by
     have:=List.mem_of_getElem? (l:=ops.toList) (i:=i) (a:=o) (by rw[Array.getElem?_toList];exact ho)
     exact this
    have next:∀ a' w' μ' F',Inv c (Z3 o e.1 (runS (U6 ops.toList es) (fun k=>listed.getD k false) st0 ops.size)) a' w' μ' F'→wpAny P .any ops Q fuel (listed.setIfInBounds i true) a' w':=fun a' w' μ' F' hi2=>by
     have hils:i < listed.size:=by omega
     have hset:=Z3k (listed:=listed) hils
     refine ih (listed.setIfInBounds i true) (U.erase i) a' w' μ' F' (by simp[hls]) (fun k hk hLk=>?_) ?_ (fun j oj hj hLj x hx=>?_) ?_
     ·have:=congrFun hset k
      rw[this] at hLk
      unfold addL at hLk
      simp only[Bool.or_eq_false_iff,beq_eq_false_iff_ne] at hLk
      exact(List.mem_erase_of_ne hLk.2).2 (hU k hk hLk.1)
     ·have:=List.length_erase_of_mem (hU i hil hLi)
      omega
     ·have h1:=congrFun hset j
      have h2:=congrFun hset x
      rw[h1] at hLj
      rw[h2]
      unfold addL at hLj ⊢
      simp only[Bool.or_eq_true,beq_iff_eq] at hLj ⊢
      rcases hLj with hLj | rfl
      ·exact .inl (hcl j oj hj hLj x hx)
      ·exact .inl (hbi x hx)
     ·rw[hset,Z1a (Z0c _ _) (Nat.le_refl _) hLi _ hil fun k h1 h2 h3 s hsn=>swap h1 h2 (hnb k h2 h3 i hLi) s hsn,hstep]
      exact hi2
    unfold wpOp
    simp only[ho]
    rcases hcase with ⟨he,hg⟩ | ⟨f,rfl,hg,hev⟩
    ·replace hg:=X25 hobs hobs' hg
     rw[if_neg (by rw[Z0m hi hg];simp)]
     rw[he] at next
     exact next _ _ _ _ (J0e hi (hd o hmem) (by simp[VRel]))
    ·have hg':=X25 hobs hobs' hg
     replace hev:=X3q hcore hobs hobs' hev
     replace hg:=hg'
     rw[if_pos (Z0m hi hg)]
     obtain⟨f',hf',hs⟩:=X2a hT hO hi hev
     cases hf'
     exact .inl (hs _ _ fun v w' μ' F' h1 h2=>next _ _ _ _ (J0e h1 (hd o hmem) h2))
theorem V3g {c:Cx} {st:St} {a:Act} {w:World} {μ:Nat→Pl} {F:Nat→Prop} (hi:Inv c st a w μ F):∃ μ',Inv c st a { w with drawn:=w.drawn+1 } μ' F:=
 ⟨_,Vi hi (Grew.drew w) [] [] rfl (by simp) (by simp) (by simp)⟩
theorem X1w {P:Program} (hmo:P.follows .mixedOrders=true) {T:Tab} (hT:U2 P T) {orc:Orc} (hO:Qa P orc) {R:Type} {K:St→Option R} {r:R} {c:Cx} {ops:Array Oper} {Q:Exit→Act→World→Prop}
    (hd:∀ o∈ops.toList,∀ t,o.dst=some t→t < c.nt) (hQ:∀ st a w μ F,Inv c st a w μ F→K st=some r→Q .normal a w) {st:St} {a:Act} {w:World} {μ:Nat→Pl} {F:Nat→Prop} (hi:Inv c st a w μ F)
    (hdr:U07 ops (Region.before ops).toList=true) (h:resE T ops.toList st (fun n0 st=>Uh T orc ops.toList (Region.before ops).toList n0 ops.toList [] st K)=some r) (id:Nat):(Code.region id ops true).wp P Q a w:=by
 obtain⟨st0,hi0,h⟩:∃ st0:St,Inv c st0 a w μ F∧Uh T orc ops.toList (Region.before ops).toList st0.nx ops.toList [] st0 K=some r:=by
  unfold resE at h
  split at h
  ·exact⟨st,hi,h⟩
  ·rw[X9] at h
   exact⟨_,X3w hi _,h⟩
 clear hi
 rename Inv c st0 a w μ F=>hi
 obtain⟨es,st',h1,h2,h3⟩:=J04 _ _ _ h
 obtain⟨μ',hi'⟩:=V3g hi
 refine wp_region_any hmo (U4c hT hO hd h1 hdr (by simpa using h2) (fun a w μ F hi=>hQ _ a w μ F hi h3) ops.size _ (List.range ops.size) a _ μ' F (by simp) (fun i h _=>by simpa using h) (by simp) (fun j o ho hL=>?_) ?_)
 ·have hj:j < ops.size:=(Array.getElem?_eq_some_iff.1 ho).1
  simp[hj] at hL
 ·have:∀ n,runS (U6 ops.toList es) (fun i=>(Array.replicate ops.size false).getD i false) st0 n=st0:=fun n=>by
   induction n with
   | zero=>rfl
   | succ n ih=>
     simp only[runS]
     have:(Array.replicate ops.size false).getD n false=false:=by
      rcases Nat.lt_or_ge n ops.size with h | h
      ·simp[h]
      ·simp[h]
     rw[this,cond_false,ih]
  rw[this]
  exact hi'
def Z1r:Ex→Exit
 | .normal=>.normal
 | .exit id=>.exit id
 | .ret=>.ret
def Post2 (c:Cx) {R:Type} (K:Ex→St→Option R) (r:R) (Q:Exit→Act→World→Prop):Prop:=
 ∀ ex st a w μ F,Inv c st a w μ F→K ex st=some r→Q (Z1r ex) a w
def LpOk (P:Program) (c:Cx) (lp:Lp):Prop:=
 ∀ bid body st ex st',(lp bid body st).get=some (ex,st')→Qk c.nt body=true→∀ a w μ F,Inv c st a w μ F→∀ Q:Exit→Act→World→Prop,(∀ a' w' μ' F',Inv c st' a' w' μ' F'→Q (Z1r ex) a' w')→(Code.loop body).wp P Q a w
theorem X0w {st:St} {c:Operand} {b:Bool} (h:st.ev c=.bool b):refine st c b=st:=by
 cases c with
 | tmp t=>exact X18 h
 | _=>rfl
theorem Uc {P:Program} (hmo:P.follows .mixedOrders=true) {T:Tab} (hT:U2 P T) {orc:Orc} (hO:Qa P orc) {c:Cx} {lp:Lp} (hlp:LpOk P c lp) {R:Type} {r:R} :
    ∀ (code:Code) (bid:Nat) (st:St) (K:Ex→St→Option R) (Q:Exit→Act→World→Prop) (a:Act) (w:World) (μ:Nat→Pl) (F:Nat→Prop),Qk c.nt code=true→evC T orc lp code bid st K=some r→Inv c st a w μ F→Post2 c K r Q→code.wp P Q a w
 | .skip,bid,st,K,Q,a,w,μ,F,hd,h,hi,hq=>wp_skip (hq .normal st a w μ F hi h)
 | .label l,bid,st,K,Q,a,w,μ,F,hd,h,hi,hq=>wp_label (hq .normal st a w μ F hi h)
 | .exit id,bid,st,K,Q,a,w,μ,F,hd,h,hi,hq=>wp_exit (hq (.exit id) st a w μ F hi h)
 | .ret,bid,st,K,Q,a,w,μ,F,hd,h,hi,hq=>wp_ret (hq .ret st a w μ F hi h)
 | .region id ops draw,bid,st,K,Q,a,w,μ,F,hd,h,hi,hq=>by
   have hdst:∀ o∈ops.toList,∀ t,o.dst=some t→t < c.nt:=fun o ho t ht=>by
    simp only[Qk,List.all_eq_true] at hd
    have:=hd o ho
    rw[ht] at this
    simpa using this
   simp only[evC] at h
   cases draw with
   | true=>
     rw[if_pos rfl] at h
     cases hdr:U07 ops (Region.before ops).toList with
     | false=>rw[hdr] at h;cases h
     | true=>
       rw[hdr] at h
       exact X1w hmo hT hO hdst (fun st a w μ F hi hk=>hq .normal _ a w μ F (X11 hi (T.live id)) (by rw[V9] at hk;exact hk)) hi hdr h id
   | false=>
     rw[if_neg (by simp)] at h
     refine wp_region ?_
     have:=X09 hT hO hdst (Q:=Q) (fun st a w μ F hi hk=>hq .normal _ a w μ F (X11 hi (T.live id)) (by rw[V9] at hk;exact hk)) ops.toList 0 st a w μ F rfl hi h
     rw[List.range_eq_range']
     simpa using this
 | .seq x y,bid,st,K,Q,a,w,μ,F,hd,h,hi,hq=>by
   simp only[Qk,Bool.and_eq_true] at hd
   simp only[evC] at h
   refine wp_seq (Uc hmo hT hO hlp x bid st _ _ a w μ F hd.1 h hi fun ex st' a' w' μ' F' hi' hk=>?_)
   cases ex with
   | normal=>exact Uc hmo hT hO hlp y bid st' K Q a' w' μ' F' hd.2 hk hi' hq
   | exit id=>exact hq (.exit id) st' a' w' μ' F' hi' hk
   | ret=>exact hq .ret st' a' w' μ' F' hi' hk
 | .cond cnd x y,bid,st,K,Q,a,w,μ,F,hd,h,hi,hq=>by
   simp only[Qk,Bool.and_eq_true] at hd
   simp only[evC,Z2o] at h
   split at h
   ·rename_i b hb
    have hv:=Q1a hi cnd
    rw[hb] at hv
    simp only[VRel] at hv
    cases b with
    | true=>
      simp only[cond_true] at h
      rw[X0w hb] at h
      exact wp_cond_true hv (Uc hmo hT hO hlp x bid st K Q a w μ F hd.1 h hi hq)
    | false=>
      simp only[cond_false] at h
      rw[X0w hb] at h
      exact wp_cond_false hv (Uc hmo hT hO hlp y bid st K Q a w μ F hd.2 h hi hq)
   ·cases h
 | .block id x,bid,st,K,Q,a,w,μ,F,hd,h,hi,hq=>by
   simp only[Qk] at hd
   simp only[evC] at h
   refine wp_block (Uc hmo hT hO hlp x id st _ _ a w μ F hd h hi fun ex st' a' w' μ' F' hi' hk=>?_)
   cases ex with
   | normal=>exact hq .normal st' a' w' μ' F' hi' hk
   | ret=>exact hq .ret st' a' w' μ' F' hi' hk
   | exit i=>
     simp only[V1x] at hk
     simp only[Z1r,Exit.inBlock]
     cases he:i==id with
     | true=>
       have:=eq_of_beq he
       rw[he] at hk
       rw[if_pos this]
       exact hq .normal st' a' w' μ' F' hi' hk
     | false=>
       rw[he] at hk
       rw[if_neg (by simpa using he)]
       exact hq (.exit i) st' a' w' μ' F' hi' hk
 | .loop x,bid,st,K,Q,a,w,μ,F,hd,h,hi,hq=>by
   simp only[Qk] at hd
   simp only[evC] at h
   obtain⟨p,hl,h⟩:=Tr.run_some h
   exact hlp bid x st p.1 p.2 hl hd a w μ F hi Q fun a' w' μ' F' hi'=>hq p.1 p.2 a' w' μ' F' hi' h
theorem X10:∀ (n a k:Nat),k∈rng a n→a≤k∧k < a+n
 | 0,a,k,h=>by simp[rng] at h
 | n+1,a,k,h=>by
   simp only[rng,List.mem_cons] at h
   rcases h with rfl | h
   ·omega
   ·have:=X10 n (a+1) k h
    omega
theorem Q1i:∀ (n a:Nat),(rng a n).Nodup
 | 0,a=>by simp[rng]
 | n+1,a=>by
   simp only[rng,List.nodup_cons]
   refine⟨fun h=>?_,Q1i n (a+1)⟩
   have:=X10 _ _ _ h
   omega
theorem Z04 {hp:Nat→LObj}:∀ (n:Nat) (work seen:List Nat),∃ more,U5 hp n work seen=seen++more
 | 0,work,seen=>⟨[],by simp[U5]⟩
 | n+1,[],seen=>⟨[],by simp[U5]⟩
 | n+1,k::ks,seen=>by
   simp only[U5]
   cases seen.contains k with
   | true=>exact Z04 n ks seen
   | false=>
     obtain⟨more,h⟩:=Z04 n ((hp k).refs++ks) (seen++[k]) (hp:=hp)
     exact⟨k::more,by simp only[cond_false];rw[h];simp⟩
theorem Q1h {w:World} {hp:Nat→LObj} {nx:Nat} {μ:Nat→Pl} {F:Nat→Prop} (hi:HInv w hp nx μ F) {n0:Nat} (hn0:n0≤nx) {work:List Nat} (hw:∀ k∈work,μ k≠.none) (n:Nat) :
    (U5 hp n (Qb hp n0++work) (rng 0 n0)).Nodup∧(∀ k∈U5 hp n (Qb hp n0++work) (rng 0 n0),k < nx)∧n0≤(U5 hp n (Qb hp n0++work) (rng 0 n0)).length ∧
     ∀ k,k < n0→Z7 μ (U5 hp n (Qb hp n0++work) (rng 0 n0)) k=μ k:=by
 obtain⟨more,hm⟩:=Z04 (hp:=hp) n (Qb hp n0++work) (rng 0 n0)
 have hq:∀ k,k < nx→∀ j∈(hp k).refs,j < nx:=fun k hk j hj=>X3 hi (Va (hi.obj k hk) j hj)
 refine⟨Qs n _ _ (Q1i _ _),?_,?_,fun k hk=>?_⟩
 ·refine Q01 (Q:=fun k=>k < nx) hq n _ _ (fun k hk=>?_) (fun k hk=>?_)
  ·rcases List.mem_append.1 hk with h | h
   ·unfold Qb at h
    obtain⟨j,hj,hjk⟩:=List.mem_flatMap.1 h
    have:=X10 _ _ _ hj
    exact hq j (by omega) k hjk
   ·exact X3 hi (hw k h)
  ·have:=X10 _ _ _ hk
   omega
 ·rw[hm,List.length_append,J11]
  omega
 ·rw[hm]
  have:(rng 0 n0++more)[k]?=some k:=by
   rw[List.getElem?_append_left (by rw[J11];exact hk),X1r n0 0 k hk,Nat.zero_add]
  simp[Z7,this]
theorem Q13 {μ:Nat→Pl} {ks:List Nat} {k b:Nat} (h:(Z7 μ ks k).own b):∃ k',(μ k').own b:=by
 unfold Z7 at h
 split at h
 ·rename_i k' _;exact⟨k',h⟩
 ·cases h
def X1z (keep:List Nat) (n0:Nat) (st:St):St:=let p:=J2k keep n0 st;stOf keep p.1 p.2
theorem Z3c (keep:List Nat) (n0:Nat) (st:St):norm keep n0 st=X1z keep n0 (st.unf n0):=by
 simp only[norm,X1z,Q20]
theorem Q2y {c:Cx} {st:St} {a:Act} {w:World} {μ:Nat→Pl} {F:Nat→Prop} (hi:Inv c st a w μ F) (keep:List Nat):∃ μ',Inv c (X1z keep c.n0 st) a w μ' F:=by
 have hwork:∀ k∈U0g (keep.map st.tm),μ k≠.none:=by
  intro k hk
  unfold U0g at hk
  obtain⟨x,hx,hxk⟩:=Z02 hk
  obtain⟨t,_,rfl⟩:=List.mem_map.1 hx
  exact Je (hi.tm t) k hxk
 obtain⟨h1,h2,h3,h4⟩:=Q1h hi.h hi.n0 hwork 1000
 have hsub:∀ k i,J5 k (U5 st.hp 1000 (Qb st.hp c.n0++U0g (keep.map st.tm)) (rng 0 c.n0)) 0=some i→Z7 μ (U5 st.hp 1000 (Qb st.hp c.n0++U0g (keep.map st.tm)) (rng 0 c.n0)) i=μ k:=fun k i h=>by
  obtain⟨_,h2⟩:=Q6 h
  simp only[Nat.sub_zero] at h2
  simp[Z7,h2]
 have hh:=Q0z hi.h h1 h2
 rw[List.length_map] at hh
 have hlen:(U5 st.hp 1000 (Qb st.hp c.n0++U0g (keep.map st.tm)) (rng 0 c.n0)).length=(X1z keep c.n0 st).nx:=by simp only[X1z,J2k,stOf,List.length_map]
 rw[hlen] at hh h3
 refine⟨Z7 μ (U5 st.hp 1000 (Qb st.hp c.n0++U0g (keep.map st.tm)) (rng 0 c.n0)),hh,⟨hi.fr.os,hi.fr.tape,hi.fr.output,hi.fr.size,hi.fr.keep,hi.fr.old,hi.fr.newF,fun k b h=>?_⟩,fun k b hk h=>?_,fun k b hk h=>?_,h3,fun t=>?_,hi.sz,hi.df⟩
 ·obtain⟨k',h'⟩:=Q13 h
  exact hi.fr.newO k' b h'
 ·rw[h4 k hk];exact hi.idb k b hk h
 ·rw[h4 k hk];exact hi.idm k b hk h
 ·exact Q1b (G:=fun t=>a.tmps.getD t undef) _ (J1w keep fun t' _=>Q09 hsub (hi.tm t')) t
theorem U0p {c:Cx} {st:St} {a:Act} {w:World} {μ:Nat→Pl} {F:Nat→Prop} (hi:Inv c st a w μ F) (keep:List Nat):∃ μ',Inv c (norm keep c.n0 st) a w μ' F:=by
 obtain⟨μ1,h1⟩:=V3r hi
 rw[Z3c]
 exact Q2y h1 keep
theorem J22 {P:Program} {body:Code} {Q:Exit→Act→World→Prop} (J:Nat→Act→World→Prop) (round:∀ n a w,J n a w→body.wp P (Exit.then (fun a' w'=>∃ m,m < n∧J m a' w') Q) a w) :
    ∀ n a w,J n a w→(Code.loop body).wp P Q a w:=by
 intro n a w hJ b k cs
 have key:∀ n a w,J n a w→∃ e a' w',Q e a' w'∧Arrives P (lone (b.at a (.code body::.inLoop body::k)) cs w) b k cs e a' w':=by
  intro n
  induction n using Nat.strongRecOn with
  | _ n ih=>
    intro a w hI
    obtain⟨e,a₁,w₁,hq,harr⟩:=round n a w hI b (.inLoop body::k) cs
    cases e with
    | normal=>
      obtain⟨m,hm,hJ'⟩:=hq
      obtain⟨e₂,a₂,w₂,hq₂,harr₂⟩:=ih m hm a₁ w₁ hJ'
      exact⟨e₂,a₂,w₂,hq₂,.of_steps (Steps.trans harr (.one step_inLoop)) harr₂⟩
    | exit id=>exact⟨_,a₁,w₁,hq,.pass (x:=.inLoop body) rfl (fun _ _=>.inl (by simp)) harr⟩
    | goto l=>exact⟨_,a₁,w₁,hq,.pass (x:=.inLoop body) rfl (fun _ _=>.inl (by simp)) harr⟩
    | ret=>exact⟨_,a₁,w₁,hq,.pass (x:=.inLoop body) rfl (fun _ _=>.inl (by simp)) harr⟩
    | panic ch=>exact⟨_,a₁,w₁,hq,.pass (x:=.inLoop body) rfl (fun _ _=>.inl (by simp)) harr⟩
    | outgrown=>exact⟨_,a₁,w₁,hq,.pass (x:=.inLoop body) rfl (fun _ _=>.inl (by simp)) harr⟩
 obtain⟨e,a',w',hq,harr⟩:=key n a w hJ
 exact⟨e,a',w',hq,.of_steps (.one step_loop) harr⟩
theorem U2b {P:Program} (hmo:P.follows .mixedOrders=true) {T:Tab} (hT:U2 P T) {orc:Orc} (hO:Qa P orc) {c:Cx} (H:Hint):∀ (n:Nat),LpOk P c (lpN T orc H c.n0 n)
 | 0=>fun bid body st ex st' h=>by simp[lpN,Tr.get] at h
 | n+1=>by
   intro bid body st ex st' h hd a w μ F hi Q hQ
   simp only[lpN,Tr.get_of] at h
   obtain⟨m,hm⟩:=V16 h
   obtain⟨μ',hi'⟩:=U0p hi (H.keep bid)
   refine J22 (fun m a w=>∃ st1 μ F,Inv c st1 a w μ F∧Xt (fun st=>evC T orc (lpN T orc H c.n0 n) body bid st (Q0 (H.keep bid) (H.keepX bid) c.n0)) m st1=some (ex,st')) ?_ m a w ⟨_,μ',F,hi',hm⟩
   rintro m a w ⟨st1,μ1,F1,hi1,h1⟩
   cases m with
   | zero=>simp[Xt] at h1
   | succ m=>
     simp only[Xt] at h1
     split at h1
     ·cases h1
     ·rename_i r hr
      cases h1
      refine Uc hmo hT hO (U2b hmo hT hO H n) body bid st1 _ _ a w μ1 F1 hd hr hi1 ?_
      intro e s a2 w2 μ2 F2 hi2 hk
      cases e with
      | normal=>simp[Q0] at hk
      | exit id=>
        simp only[Q0,Option.some.injEq,Sum.inr.injEq,Prod.mk.injEq] at hk
        obtain⟨rfl,rfl⟩:=hk
        obtain⟨μ3,hi3⟩:=U0p hi2 (H.keepX bid)
        exact hQ a2 w2 μ3 F2 hi3
      | ret=>
        simp only[Q0,Option.some.injEq,Sum.inr.injEq,Prod.mk.injEq] at hk
        obtain⟨rfl,rfl⟩:=hk
        obtain⟨μ3,hi3⟩:=U0p hi2 (H.keepX bid)
        exact hQ a2 w2 μ3 F2 hi3
     ·rename_i st2 hr
      refine Uc hmo hT hO (U2b hmo hT hO H n) body bid st1 _ _ a w μ1 F1 hd hr hi1 ?_
      intro e s a2 w2 μ2 F2 hi2 hk
      cases e with
      | normal=>
        simp only[Q0,Option.some.injEq,Sum.inl.injEq] at hk
        subst hk
        obtain⟨μ3,hi3⟩:=U0p hi2 (H.keep bid)
        exact⟨m,by omega,_,μ3,F2,hi3,h1⟩
      | exit id=>simp[Q0] at hk
      | ret=>simp[Q0] at hk
theorem J29 {P:Program} {T:Tab} (hT:U2 P T) {w:World} {hp:Nat→LObj} {nx:Nat} {μ:Nat→Pl} {F:Nat→Prop} (hi:HInv w hp nx μ F) {t:Nat} {p x:AV} {v:Value}
    (h:V0p T hp t p=some x) (hv:VRel μ F w p v):∃ ad u,v=.pointer (some ad)∧(loadVar t ad).run P w=.ok u w∧VRel μ F w x u:=by
 obtain⟨u,h1,h2⟩:=X1i hT hi h hv
 have:∃ ad,v=.pointer (some ad):=by
  cases p<;>simp only[V0p] at h<;>(try cases h)
  ·simp only[VRel] at hv;obtain⟨b,_,rfl⟩:=hv;exact⟨_,rfl⟩
  ·simp only[VRel] at hv;obtain⟨b,o,len,cap,_,_,rfl⟩:=hv;exact⟨_,rfl⟩
  ·simp only[VRel] at hv;obtain⟨b,o,_,_,_,rfl⟩:=hv;exact⟨_,rfl⟩
 obtain⟨ad,rfl⟩:=this
 refine⟨ad,u,rfl,?_,h2⟩
 simpa[Instr.loadAt,Instr.sureAddr] using h1
def U0s (tmps:Array Value):ResultVar→Sem Value
 | .tmp t=>pure (tmps.getD t undef)
 | .cell a t=>do loadVar t (← asAddr (tmps.getD a undef))
theorem Vt {P:Program} {T:Tab} (hT:U2 P T) {c:Cx} {st:St} {a:Act} {w:World} {μ:Nat→Pl} {F:Nat→Prop} (hi:Inv c st a w μ F) :
    ∀ (rs:List ResultVar) (vs:List AV),Xl T st rs=some vs→∃ us,(rs.mapM (U0s a.tmps)).run P w=.ok us w∧U0 μ F w vs us
 | [],vs,h=>by
   simp only[Xl,Option.some.injEq] at h
   subst h
   exact⟨[],by simp,by simp[U0]⟩
 | .tmp t::rs,vs,h=>by
   simp only[Xl] at h
   split at h
   ·rename_i vs' hvs
    cases h
    obtain⟨us,h1,h2⟩:=Vt hT hi rs vs' hvs
    refine⟨a.tmps.getD t undef::us,?_,by simp only[U0];exact⟨_,_,rfl,hi.tm t,h2⟩⟩
    simp[List.mapM_cons,U0s,h1]
   ·cases h
 | .cell p t::rs,vs,h=>by
   simp only[Xl] at h
   split at h
   ·rename_i v vs' hv hvs
    cases h
    obtain⟨us,h1,h2⟩:=Vt hT hi rs vs' hvs
    obtain⟨ad,u,h3,h4,h5⟩:=J29 (P:=P) hT hi.h hv (hi.tm p)
    refine⟨u::us,?_,by simp only[U0];exact⟨_,_,rfl,h5,h2⟩⟩
    rw[List.mapM_cons]
    simp only[U0s]
    rw[h3]
    simp[asAddr,h4,h1]
   ·cases h
theorem Q2g (fn:Func) (tmps:Array Value):results fn tmps=(fn.results.mapM (U0s tmps) >>= fun vs=>pure (if h:vs.size=1 then vs[0] else .tuple vs)):=by
 unfold results
 congr 1
theorem U0w {P:Program} {fn:Func} {a:Act} {w:World} {us:List Value} (h:(fn.results.toList.mapM (U0s a.tmps)).run P w=.ok us w) :
    (results fn a.tmps).run P w=.ok (if h:us.toArray.size=1 then us.toArray[0] else .tuple us.toArray) w:=by
 have hm:(fn.results.mapM (U0s a.tmps)).run P w=.ok us.toArray w:=by
  rw[Array.mapM_eq_mapM_toList]
  simp only[Sem.run_map,h,Result.andThen_ok]
 rw[Q2g,Sem.run_bind,hm]
 simp
theorem J2i {μ:Nat→Pl} {F:Nat→Prop} {w:World} {vs:List AV} {us:List Value} (h:U0 μ F w vs us):VRel μ F w (Q8 vs) (if h:us.toArray.size=1 then us.toArray[0] else .tuple us.toArray):=by
 match vs,us,h with
 | [],us,h=>
   simp only[U0] at h
   subst h
   simp only[Q8,VRel]
   exact⟨[],by simp,by simp[U0]⟩
 | [x],us,h=>
   simp only[U0] at h
   obtain⟨u,us',rfl,h1,rfl⟩:=h
   simpa[Q8] using h1
 | x::y::r,us,h=>
   have hl:=Xb h
   simp only[List.length_cons] at hl
   have:¬ us.toArray.size=1:=by simp;omega
   rw[dif_neg this]
   simp only[Q8,VRel]
   exact⟨us,rfl,h⟩
theorem J0i {hp:Nat→LObj} {k:Nat}:∀ {ks:List Nat},k∈V1 hp ks→k∈ks∧∃ t xs,hp k=.row t xs
 | [],h=>by simp[V1] at h
 | j::ks,h=>by
   simp only[V1] at h
   split at h
   ·rename_i t xs hj
    rcases List.mem_cons.1 h with rfl | h
    ·exact⟨by simp,t,xs,hj⟩
    ·have:=J0i h
     exact⟨by simp[this.1],this.2⟩
   ·have:=J0i h
    exact⟨by simp[this.1],this.2⟩
theorem J0p {P:Program} {T:Tab} {c:Cx} {st:St} {a:Act} {w:World} {μ:Nat→Pl} {F:Nat→Prop} (hi:Inv c st a w μ F) {own:Bool} {rts:List Nat} {vs:List AV} {us:List Value} (hv:U0 μ F w vs us)
    (hfp:c.fp=X0a c.μ0) {res:List AV} {objs':List LObj} (h:Z1f T own c.n0 rts st vs=(res,objs')) :
    Post c.w0 c.μ0 c.F0 c.n0 res objs' (if h:us.toArray.size=1 then us.toArray[0] else .tuple us.toArray) w:=by
 unfold Z1f at h
 simp only[Prod.mk.injEq] at h
 obtain⟨rfl,rfl⟩:=h
 have hv1:=X03 (P:=P) (T:=T) rts hv
 generalize hvs:Qe T rts vs=vs1 at hv1 ⊢
 have hfz:∀ k,(bif own then [] else (V1 st.hp (AV.refsL vs1)).filter fun k=>Nat.ble c.n0 k).contains k=true→k < st.nx∧∃ al l cp sz,μ k=.row al l cp sz:=fun k hk=>by
  have hk':k∈(bif own then [] else (V1 st.hp (AV.refsL vs1)).filter fun k=>Nat.ble c.n0 k):=by simpa using hk
  cases own with
  | true=>simp at hk'
  | false=>
    simp only[cond_false,List.mem_filter] at hk'
    obtain⟨h1,t,xs,h2⟩:=J0i hk'.1
    have hne:=J6 hv1 k h1
    have hlt:=X3 hi.h hne
    have ho:=hi.h.obj k hlt
    rw[h2] at ho
    cases hp:μ k with
    | row al l cp sz=>exact⟨hlt,al,l,cp,sz,rfl⟩
    | none=>exact absurd hp hne
    | box b=>rw[hp] at ho;simp[ORel] at ho
    | map b=>rw[hp] at ho;simp[ORel] at ho
    | mapb b cks=>rw[hp] at ho;simp[ORel] at ho
 have hge:∀ k,(bif own then [] else (V1 st.hp (AV.refsL vs1)).filter fun k=>Nat.ble c.n0 k).contains k=true→c.n0≤k:=fun k hk=>by
  have hk':k∈(bif own then [] else (V1 st.hp (AV.refsL vs1)).filter fun k=>Nat.ble c.n0 k):=by simpa using hk
  cases own with
  | true=>simp at hk'
  | false=>
    simp only[cond_false,List.mem_filter] at hk'
    simpa using hk'.2
 generalize hF:(bif own then [] else (V1 st.hp (AV.refsL vs1)).filter fun k=>Nat.ble c.n0 k)=fz at hfz hge ⊢
 have hi1:=U0c hi hfz
 have hv2:=Q0m hi hfz hv1
 obtain⟨h1,h2,h3,h4⟩:=Q1h hi1.h hi1.n0 (J6 hv2) 1000
 have hsub:∀ k i,J5 k (U5 (st.frz fz).hp 1000 (Qb (st.frz fz).hp c.n0++AV.refsL (AV.frzL st.hp fz vs1)) (rng 0 c.n0)) 0=some i→Z7 (Jf μ fz) (U5 (st.frz fz).hp 1000 (Qb (st.frz fz).hp c.n0++AV.refsL (AV.frzL st.hp fz vs1)) (rng 0 c.n0)) i=Jf μ fz k:=fun k i h=>by
  obtain⟨_,h2⟩:=Q6 h
  simp only[Nat.sub_zero] at h2
  simp[Z7,h2]
 have hh:=Q0z hi1.h h1 h2
 refine⟨_,_,J2i (Uj hsub hv2),hh,⟨hi1.fr.os,hi1.fr.tape,hi1.fr.output,hi1.fr.size,fun b hb hn=>hi1.fr.keep b hb (by rw[hfp];exact hn),hi1.fr.old,fun b hb=>by have:=hi1.fr.newF b hb;rw[hfp] at this;exact this,fun k b hk=>?_⟩,by rw[List.length_map];exact h3,fun k b hk h=>?_,fun k b hk h=>?_⟩
 ·obtain⟨k',h'⟩:=Q13 hk
  have:=hi1.fr.newO k' b h'
  rw[hfp] at this
  exact this
 ·rw[h4 k hk];exact hi1.idb k b hk h
 ·rw[h4 k hk];exact hi1.idm k b hk h
theorem U0v:∀ (vs:List AV) (i t:Nat),i≤t→t < i+vs.length→some (ofTm (U0o vs i) t)=vs[t - i]?
 | [],i,t,h1,h2=>by simp at h2;omega
 | v::vs,i,t,h1,h2=>by
   simp only[U0o,ofTm]
   cases he:t==i with
   | true=>
     have:=eq_of_beq he
     subst this
     simp
   | false=>
     have hne:t≠i:=by simpa using he
     simp only[cond_false]
     rw[U0v vs (i+1) t (by omega) (by simp at h2;omega)]
     have:t - i=(t - (i+1))+1:=by omega
     rw[this,List.getElem?_cons_succ]
theorem Q1g {w:World} {μ:Nat→Pl} {F:Nat→Prop} {args:List AV} {objs:List LObj} {vs:List Value} {nt:Nat} (hh:HInv w (ofHp objs) objs.length μ F) (hv:U0 μ F w args vs) (hle:args.length≤nt) :
    Inv ⟨w,X0a μ,F,μ,objs.length,nt⟩ (Z1 args objs nt) { tmps:=vs.toArray++Array.replicate (nt - vs.toArray.size) undef,defers:=[] } w μ F:=by
 have hl:=Xb hv
 refine⟨hh,⟨rfl,rfl,rfl,Nat.le_refl _,fun _ _ _=>rfl,fun _ h=>h,fun _ h=>.inl h,fun k b h=>.inl ⟨k,h⟩⟩,fun _ _ _ h=>h,fun _ _ _ h=>h,Nat.le_refl _,fun t=>?_,by simp;omega,rfl⟩
 simp only[Z1]
 cases hb:Nat.blt t args.length with
 | true=>
   have hlt:t < args.length:=by simpa using hb
   simp only[cond_true]
   have h1:=U0v args 0 t (Nat.zero_le _) (by omega)
   obtain⟨u,hu,hr⟩:=Qq hv (i:=t) (c:=ofTm (U0o args 0) t) (by rw[h1];simp)
   have:(vs.toArray++Array.replicate (nt - vs.toArray.size) undef).getD t undef=u:=by
    rw[Array.getD_eq_getD_getElem?,Array.getElem?_append_left (by simp;omega)]
    simp[hu]
   rw[this]
   exact hr
 | false=>
   have hge:args.length≤t:=Nat.not_lt.1 fun h=>by rw[show Nat.blt t args.length=true from by simpa using h] at hb;cases hb
   simp only[cond_false]
   cases hb2:Nat.blt t nt with
   | true=>
     simp only[cond_true,VRel]
     rw[Array.getD_eq_getD_getElem?,Array.getElem?_append_right (by simp;omega)]
     have hlt:t < nt:=by simpa using hb2
     simp
     rw[Array.getElem?_replicate,if_pos (by omega)]
     rfl
   | false=>simp[VRel]
theorem V2g {P : Program} (hmo : P.follows .mixedOrders = true) {T : Tab} (hT : U2 P T) {orc : Orc} (hO : Qa P orc) {H : Hint} {f : Nat} {fn : Func} (hf : P.funcs[f]? = some fn) (hn : fn.name ≠ "runtime.NumGoroutine")
    {args:List AV} {objs:List LObj} {res:List AV} {objs':List LObj} (h:evFn T orc H fn args objs=some (res,objs')):SemF P f args objs res objs':=by
 unfold evFn at h
 split at h
 ·cases h
 ·rename_i code hb
  refine⟨⟨fn,hf,hn,by rw[hb];rfl⟩,fun w μ F vs hh hv=>?_⟩
  cases hd:(Qk fn.ntmps code&&Nat.ble args.length fn.ntmps) with
  | false=>rw[hd] at h;cases h
  | true=>
    rw[hd] at h
    simp only[cond_true] at h
    simp only[Bool.and_eq_true,Nat.ble_eq] at hd
    have hi:=Q1g hh hv hd.2
    refine calls_of_wp hf hb (Uc hmo hT hO (U2b hmo hT hO (c:=⟨w,X0a μ,F,μ,objs.length,fn.ntmps⟩) H 8) code 1000000 _ _ _ _ w μ F hd.1 h hi ?_)
    intro ex st a w' μ' F' hi' hk
    have fin:∀ vs',Xl T st fn.results.toList=some vs'→Z1f T H.own objs.length fn.resultTypes.toList st vs'=(res,objs')→
        a.defers=[]∧∃ v,(results fn a.tmps).run P w'=.ok v w'∧∃ v',(Ending.returned v:Ending)=.returned v'∧Post w μ F objs.length res objs' v' w':=fun vs' h1 h2=>by
     obtain⟨us,h3,h4⟩:=Vt hT hi' _ _ h1
     exact⟨hi'.df,_,U0w h3,_,rfl,J0p (P:=P) hi' h4 rfl h2⟩
    cases ex with
    | exit id=>simp[J1] at hk
    | normal=>
      simp only[J1] at hk
      split at hk
      ·rename_i vs' hvs
       exact fin vs' hvs (by simpa using hk)
      ·cases hk
    | ret=>
      simp only[J1] at hk
      split at hk
      ·rename_i vs' hvs
       exact fin vs' hvs (by simpa using hk)
      ·cases hk
open Go.Proofs.Ytkobjdhbfepkaaa.Rows (uptoBulk uptoBulkAll)
def okT:(t:Ty)→t.den→Prop
 | .int k,n=>(Lit.int k n).wf=true
 | .bool,_=>True
 | .str,s=>List.length s≤reachBytes
 | .unit,_=>True
 | .list t,xs=>List.length xs≤reachBytes∧∀ x∈(xs:List t.den),okT t x
 | .pair a b,x=>okT a x.1∧okT b x.2
def Qr:(t:Ty)→t.den→Nat
 | .int _,_=>1
 | .bool,_=>1
 | .str,s=>List.length s+1
 | .unit,_=>0
 | .list t,xs=>((xs:List t.den).map (Qr t)).sum+1
 | .pair a b,x=>Qr a x.1+Qr b x.2
def Qz (P:Program) (ok:TypeId→Ty→Bool):List Field→Nat→Ty→Bool
 | [],_,.unit=>true
 | [f],off,τ=>f.offset==off&&P.cellsOf f.type==τ.sz&&ok f.type τ
 | f::g::fs,off,.pair a b=>f.offset==off&&P.cellsOf f.type==a.sz&&ok f.type a&&Qz P ok (g::fs) (off+a.sz) b
 | _,_,_=>false
def X1j (c:Nat) (ok:Ty→Bool):Nat→Ty→Bool
 | 0,.unit=>true
 | 1,τ=>c==τ.sz&&ok τ
 | n+2,.pair a b=>c==a.sz&&ok a&&X1j c ok (n+1) b
 | _,_=>false
def tyOk (P:Program):Nat→TypeId→Ty→Bool
 | 0,_,_=>false
 | n+1,t,τ=>
   match P.underlying t,τ with
   | some .bool,.bool=>true
   | some (.int k),.int k'=>decide (k=k')
   | some .string,.str=>true
   | some (.slice e),.list τ'=>P.cellsOf e==τ'.sz&&Nat.blt 0 τ'.sz&&Nat.blt 0 (P.bytesOf e)&&tyOk P n e τ'
   | some (.struct fs),τ=>P.cellsOf t==τ.sz&&Qz P (tyOk P n) fs.toList 0 τ
   | some (.array m e),τ=>P.cellsOf t==τ.sz&&X1j (P.cellsOf e) (tyOk P n e) m τ
   | _,_=>false
section
variable {H:Type} {enc:TypeId×Value→H} {P:Program} {W:World} {spare:Nat→Bool} {held:Bool}
def Told (W:World) (τ:Ty) (cs:List Value) (d:DataW H):Prop:=∃ x:τ.den,Enc (fun b=>b < W.heap.size) W τ x cs∧okT τ x∧Qr τ x≤uptoBulk d
def U18 (enc:TypeId×Value→H) (P:Program) (W:World) (spare:Nat→Bool) (held:Bool) (ok:TypeId→Ty→Bool) (fuel:Nat):Prop:=
 ∀ t τ cs d ps,ok t τ=true→DataW.trod enc P W 0 spare held fuel t cs=some (d,ps)→(∀ n∈d.weights P t,n≤reachBytes)→Told W τ cs d
theorem Z0w {ok:TypeId→Ty→Bool} {fuel:Nat} (IH:U18 enc P W spare held ok fuel) (cs:List Value) :
    ∀ (fs:List Field) (off:Nat) (τ:Ty) (xs:List (DataW H×List MemPlace)),Qz P ok fs off τ=true→off+τ.sz=cs.length→xs.length=fs.length→
      (∀ (i:Nat) (f:Field),fs[i]?=some f→DataW.trod enc P W 0 spare held fuel f.type ((cs.drop f.offset).take (P.cellsOf f.type))=xs[i]?)→
      (∀ n∈DataW.weightsEach P (fs.map (·.type)) (xs.map (·.1)),n≤reachBytes)→
      ∃ x:τ.den,Enc (fun b=>b < W.heap.size) W τ x (cs.drop off)∧okT τ x∧Qr τ x≤uptoBulkAll (xs.map (·.1))
 | [],off,τ,xs,h,hl,hx,hr,hw=>by
   cases τ<;>simp only[Qz] at h<;>try cases h
   refine⟨(),?_,trivial,Nat.zero_le _⟩
   simp only[Enc]
   exact List.drop_eq_nil_of_le (by simp[Ty.sz] at hl;omega)
 | [f],off,τ,xs,h,hl,hx,hr,hw=>by
   simp only[Qz,Bool.and_eq_true,beq_iff_eq] at h
   obtain⟨⟨h1,h2⟩,h3⟩:=h
   match xs,hx with
   | [y],_=>
     have h4:=hr 0 f rfl
     rw[h1,h2] at h4
     have h5:(cs.drop off).take τ.sz=cs.drop off:=by rw[List.take_of_length_le];simp;omega
     rw[h5] at h4
     obtain⟨x,e1,e2,e3⟩:=IH f.type τ _ y.1 y.2 h3 h4 (fun n hn=>hw n (by simp[DataW.weightsEach,hn]))
     exact⟨x,e1,e2,by simpa[uptoBulkAll] using e3⟩
 | f::g::fs,off,τ,xs,h,hl,hx,hr,hw=>by
   cases τ<;>simp only[Qz] at h<;>try cases h
   rename_i a b
   simp only[Bool.and_eq_true,beq_iff_eq] at h
   obtain⟨⟨⟨h1,h2⟩,h3⟩,h4⟩:=h
   match xs,hx with
   | y::ys,hx=>
     have h5:=hr 0 f rfl
     rw[h1,h2] at h5
     obtain⟨x,e1,e2,e3⟩:=IH f.type a _ y.1 y.2 h3 h5 (fun n hn=>hw n (by simp[DataW.weightsEach,hn]))
     simp only[Ty.sz] at hl
     obtain⟨x',e4,e5,e6⟩:=Z0w IH cs (g::fs) (off+a.sz) b ys h4 (by omega) (by simpa using hx) (fun i f' hf=>hr (i+1) f' (by simpa using hf)) (fun n hn=>hw n (by
      simp only[List.map_cons,DataW.weightsEach,List.mem_append] at hn ⊢
      exact .inr hn))
     refine⟨(x,x'),?_,⟨e2,e5⟩,?_⟩
     ·simp only[Enc]
      refine⟨_,_,?_,e1,e4⟩
      rw[←List.drop_drop]
      exact(List.take_append_drop _ _).symm
     ·simp only[Qr,List.map_cons,uptoBulkAll]
      omega
theorem V1z {e:TypeId} {ok:TypeId→Ty→Bool} {fuel:Nat} (IH:U18 enc P W spare held ok fuel) (cs:List Value) :
    ∀ (n k:Nat) (τ:Ty) (xs:List (DataW H×List MemPlace)),X1j (P.cellsOf e) (ok e) n τ=true→k * P.cellsOf e+τ.sz=cs.length→xs.length=n→
      (∀ (i:Nat),i < n→DataW.trod enc P W 0 spare held fuel e ((cs.drop ((k+i) * P.cellsOf e)).take (P.cellsOf e))=xs[i]?)→
      (∀ m∈DataW.weightsAll P e (xs.map (·.1)),m≤reachBytes)→
      ∃ x:τ.den,Enc (fun b=>b < W.heap.size) W τ x (cs.drop (k * P.cellsOf e))∧okT τ x∧Qr τ x≤uptoBulkAll (xs.map (·.1))
 | 0,k,τ,xs,h,hl,hx,hr,hw=>by
   cases τ<;>simp only[X1j] at h<;>try cases h
   refine⟨(),?_,trivial,Nat.zero_le _⟩
   simp only[Enc]
   exact List.drop_eq_nil_of_le (by simp[Ty.sz] at hl;omega)
 | 1,k,τ,xs,h,hl,hx,hr,hw=>by
   simp only[X1j,Bool.and_eq_true,beq_iff_eq] at h
   obtain⟨h2,h3⟩:=h
   match xs,hx with
   | [y],_=>
     have h4:=hr 0 (by omega)
     rw[Nat.add_zero,h2] at h4
     have h5:(cs.drop (k * τ.sz)).take τ.sz=cs.drop (k * τ.sz):=by rw[List.take_of_length_le];rw[h2] at hl;simp;omega
     rw[h5] at h4
     obtain⟨x,e1,e2,e3⟩:=IH e τ _ y.1 y.2 h3 h4 (fun n hn=>hw n (by simp[DataW.weightsAll,hn]))
     exact⟨x,by rw[h2];exact e1,e2,by simpa[uptoBulkAll] using e3⟩
 | n+2,k,τ,xs,h,hl,hx,hr,hw=>by
   cases τ<;>simp only[X1j] at h<;>try cases h
   rename_i a b
   simp only[Bool.and_eq_true,beq_iff_eq] at h
   obtain⟨⟨h2,h3⟩,h4⟩:=h
   match xs,hx with
   | y::ys,hx=>
     have h5:=hr 0 (by omega)
     rw[Nat.add_zero] at h5
     obtain⟨x,e1,e2,e3⟩:=IH e a _ y.1 y.2 h3 h5 (fun n hn=>hw n (by simp[DataW.weightsAll,hn]))
     simp only[Ty.sz] at hl
     have hk:(k+1) * P.cellsOf e=k * P.cellsOf e+a.sz:=by rw[Nat.add_mul,Nat.one_mul,h2]
     obtain⟨x',e4,e5,e6⟩:=V1z IH cs (n+1) (k+1) b ys h4 (by rw[hk];omega) (by simpa using hx) (fun i hi=>by
      have:=hr (i+1) (by omega)
      rw[show k+1+i=k+(i+1) by omega,this]
      simp) (fun n hn=>hw n (by
      simp only[List.map_cons,DataW.weightsAll,List.mem_append] at hn ⊢
      exact .inr hn))
     refine⟨(x,x'),?_,⟨e2,e5⟩,?_⟩
     ·simp only[Enc]
      refine⟨_,_,?_,e1,e4⟩
      rw[hk,←List.drop_drop,←h2]
      exact(List.take_append_drop _ _).symm
     ·simp only[Qr,List.map_cons,uptoBulkAll]
      omega
theorem J0y {α β:Type} {p:Nat→β→Prop}:∀ (n:Nat),(∀ i,i < n→∃ x,p i x)→∃ xs:List β,xs.length=n∧∀ i x,xs[i]?=some x→p i x
 | 0,_=>⟨[],rfl,by simp⟩
 | n+1,h=>by
   obtain⟨xs,h1,h2⟩:=J0y (α:=α) n (fun i hi=>h i (by omega))
   obtain⟨x,hx⟩:=h n (by omega)
   refine⟨xs++[x],by simp[h1],fun i y hy=>?_⟩
   by_cases hi:i < n
   ·rw[List.getElem?_append_left (by omega)] at hy
    exact h2 i y hy
   ·have:i=n:=by
     obtain⟨hlt,_⟩:=List.getElem?_eq_some_iff.1 hy
     simp at hlt
     omega
    subst this
    rw[List.getElem?_append_right (by omega),h1] at hy
    simp at hy
    subst hy
    exact hx
theorem Z26 {τ:Ty}:∀ (xs:List τ.den) (ds:List (DataW H)),xs.length=ds.length→(∀ (i:Nat) (x:τ.den) (d:DataW H),xs[i]?=some x→ds[i]?=some d→Qr τ x≤uptoBulk d)→(xs.map (Qr τ)).sum≤uptoBulkAll ds
 | [],ds,_,_=>by simp
 | x::xs,[],h,_=>by simp at h
 | x::xs,d::ds,h,hb=>by
   simp only[List.map_cons,List.sum_cons,uptoBulkAll]
   have h1:=hb 0 x d rfl rfl
   have h2:=Z26 xs ds (by simpa using h) (fun i x d hx hd=>hb (i+1) x d (by simpa using hx) (by simpa using hd))
   omega
theorem Q0v {e:TypeId} {n:Nat}:∀ (ds:List (DataW H)) (i:Nat) (d:DataW H),ds[i]?=some d→n∈d.weights P e→n∈DataW.weightsAll P e ds
 | [],i,d,h,_=>by simp at h
 | c::ds,0,d,h,hn=>by
   simp at h
   subst h
   simp[DataW.weightsAll,hn]
 | c::ds,i+1,d,h,hn=>by
   simp only[List.getElem?_cons_succ] at h
   simp only[DataW.weightsAll,List.mem_append]
   exact .inr (Q0v ds i d h hn)
theorem U2u (a:Addr) (m n:Nat):(a.add m).add n=a.add (m+n):=by
 unfold Addr.add
 by_cases h1:m=0<;>by_cases h2:n=0<;>simp[h1,h2]
 omega
theorem V0c:∀ (n:Nat) (fuel:Nat),U18 enc P W spare held (tyOk P n) fuel
 | 0,fuel,t,τ,cs,d,ps,h,_,_=>by simp[tyOk] at h
 | n+1,fuel,t,τ,cs,d,ps,h,htr,hw=>by
   simp only[tyOk] at h
   split at h
   ·rename_i hu
    cases fuel with
    | zero=>simp[DataW.trod] at htr
    | succ fuel=>
      unfold DataW.trod at htr
      rw[hu] at htr
      split at htr<;>simp_all
      obtain⟨rfl,_⟩:=htr
      exact⟨_,rfl,trivial,by simp[Qr,uptoBulk]⟩
   ·rename_i k k' hu
    have hk:=of_decide_eq_true h
    subst hk
    cases fuel with
    | zero=>simp[DataW.trod] at htr
    | succ fuel=>
      unfold DataW.trod at htr
      rw[hu] at htr
      split at htr<;>simp_all
      obtain⟨⟨rfl,hwf⟩,rfl,_⟩:=htr
      exact⟨_,rfl,hwf,by simp[Qr,uptoBulk]⟩
   ·rename_i hu
    cases fuel with
    | zero=>simp[DataW.trod] at htr
    | succ fuel=>
      unfold DataW.trod at htr
      rw[hu] at htr
      split at htr<;>simp_all
      rename_i s
      obtain⟨_,rfl,_⟩:=htr
      refine⟨s.data.toList,by simp[Enc],?_,by simp[Qr,uptoBulk]⟩
      simp only[okT]
      exact hw _ (by simp[DataW.weights])
   ·rename_i e τ' hu
    simp only[Bool.and_eq_true,beq_iff_eq] at h
    obtain⟨⟨⟨h1,h2⟩,h3⟩,h4⟩:=h
    have h2':0 < τ'.sz:=by simpa using h2
    have h3':0 < P.bytesOf e:=by simpa using h3
    rcases DataW.trod_slice hu htr with ⟨rfl,hx⟩ | ⟨a,len,cap,elems,rest,m,rfl,rfl,hx,hb,hl,hm,hlen,hel,hsp,hns⟩
    ·cases hx
     exact⟨[],⟨none,0,rfl,by simp,fun _=>rfl,fun a ha=>by cases ha⟩,by simp[okT],by simp[Qr,uptoBulk]⟩
    ·cases hx
     have hw1:(elems.length+rest.length) * P.bytesOf e≤reachBytes∧∀ n∈DataW.weightsAll P e (elems.map (·.1)),n≤reachBytes:=by
      simp only[DataW.weights,hu,List.length_map] at hw
      exact⟨hw _ (by simp),fun n hn=>hw n (by simp[hn])⟩
     have hone:∀ i,i < len→∃ x:τ'.den,a.spot=none∧a.block < W.heap.size∧okT τ' x∧(∃ y,elems[i]?=some y∧Qr τ' x≤uptoBulk y.1) ∧
         ∃ us,Enc (fun b=>b < W.heap.size) W τ' x us∧us.length=τ'.sz∧∀ (j:Nat) (u:Value),us[j]?=some u→W.cell? ⟨a.block,a.off+i * τ'.sz+j,none⟩=some u:=fun i hi=>by
      have h5:=hel i hi
      have hy:∃ y,elems[i]?=some y:=⟨_,List.getElem?_eq_getElem (by omega)⟩
      obtain⟨y,hy⟩:=hy
      rw[hy] at h5
      cases hcs:W.cells? 0 (a.add (i * P.cellsOf e)) (P.cellsOf e) with
      | none=>rw[hcs] at h5;cases h5
      | some us=>
        rw[hcs,Option.bind_some] at h5
        obtain⟨_,hul,hcell⟩:=World.cells?_some hcs
        obtain⟨x,e1,e2,e3⟩:=V0c n m e τ' us y.1 y.2 h4 h5 (fun k hk=>hw1.2 k (Q0v _ i y.1 (by simp[hy]) hk))
        have hcell':∀ (j:Nat) (u:Value),us[j]?=some u→W.cell? (a.add (i * τ'.sz+j))=some u:=fun j u hu=>by
         have hj:j < P.cellsOf e:=by
          obtain⟨hj,_⟩:=List.getElem?_eq_some_iff.1 hu
          omega
         have:=hcell j hj
         rw[U2u,hu,h1] at this
         exact this
        have hu0:us[0]?=some (us[0]'(by omega)):=List.getElem?_eq_getElem (by omega)
        have hc0:=hcell' 0 _ hu0
        have hspot0:(a.add (i * τ'.sz+0)).spot=none:=World.cell?_spot hc0
        have hblk:(a.add (i * τ'.sz+0)).block < W.heap.size:=by
         unfold World.cell? at hc0
         split at hc0
         ·rename_i c _ _ hh
          exact(Array.getElem?_eq_some_iff.1 hh).1
         ·cases hc0
        rw[ChangeShapes.block_add] at hblk
        refine⟨x,?_,hblk,e2,⟨y,hy,e3⟩,us,e1,by omega,fun j u hu=>?_⟩
        ·
         have h0:=hel 0 (by omega)
         cases hcs0:W.cells? 0 (a.add (0 * P.cellsOf e)) (P.cellsOf e) with
         | none=>
           rw[hcs0] at h0
           rw[List.getElem?_eq_getElem (by omega)] at h0
           cases h0
         | some us0=>
           obtain⟨_,hul0,hcell0⟩:=World.cells?_some hcs0
           have:=hcell0 0 (by omega)
           rw[List.getElem?_eq_getElem (by omega)] at this
           have h9:=World.cell?_spot this
           simpa[Addr.add] using h9
        ·have:=hcell' j u hu
         by_cases hz:i * τ'.sz+j=0
         ·have hsp0:a.spot=none:=by
           rw[hz] at this
           have:=World.cell?_spot this
           simpa[Addr.add] using this
          obtain⟨ab,ao,asp⟩:=a
          simp only at hsp0
          subst hsp0
          rw[hz] at this
          rw[show ao+i * τ'.sz+j=ao by omega]
          simpa[Addr.add] using this
         ·unfold Addr.add at this
          rw[if_neg hz] at this
          rw[Nat.add_assoc]
          exact this
     obtain⟨xs,g1,g2⟩:=J0y (α:=Unit) len hone
     refine⟨xs,⟨some a,cap,by rw[g1],by omega,(fun h=>by cases h),fun a' ha' i x hx=>?_⟩,⟨?_,fun x hx=>?_⟩,?_⟩
     ·cases ha'
      obtain⟨q1,q2,q3,q4,q5⟩:=g2 i x hx
      exact⟨q1,q2,q5⟩
     ·rw[g1,←hlen]
      have:elems.length+rest.length≤(elems.length+rest.length) * P.bytesOf e:=Nat.le_mul_of_pos_right _ h3'
      omega
     ·obtain⟨i,hi,rfl⟩:=List.getElem_of_mem hx
      exact(g2 i _ (List.getElem?_eq_getElem hi)).2.2.1
     ·simp only[Qr,uptoBulk]
      have:=Z26 xs (elems.map (·.1)) (by simp[g1,hlen]) (fun i x d hx hd=>by
       obtain⟨_,_,_,⟨y,hy,hb⟩,_⟩:=g2 i x hx
       rw[List.getElem?_map,hy] at hd
       cases hd
       exact hb)
      omega
   ·rename_i fs hu
    simp only[Bool.and_eq_true,beq_iff_eq] at h
    obtain⟨xs,m,rfl,hx,hl,hxl,hr⟩:=DataW.trod_struct hu htr
    cases hx
    have hw1:∀ n∈DataW.weightsEach P (fs.toList.map (·.type)) (xs.map (·.1)),n≤reachBytes:=by
     simp only[DataW.weights,hu] at hw
     exact hw
    obtain⟨x,e1,e2,e3⟩:=Z0w (V0c n m) cs fs.toList 0 _ xs h.2 (by rw[hl,h.1];simp) (by simpa using hxl) (fun i f hf=>hr i f (by simpa using hf)) hw1
    exact⟨x,by simpa using e1,e2,by simp only[uptoBulk];omega⟩
   ·rename_i k e hu
    simp only[Bool.and_eq_true,beq_iff_eq] at h
    obtain⟨xs,m,rfl,hx,hl,hxl,hr⟩:=DataW.trod_array hu htr
    cases hx
    have hw1:∀ n∈DataW.weightsAll P e (xs.map (·.1)),n≤reachBytes:=by
     simp only[DataW.weights,hu] at hw
     exact hw
    obtain⟨x,e1,e2,e3⟩:=V1z (V0c n m) cs k 0 _ xs h.2 (by rw[hl,h.1];simp) hxl (fun i hi=>by rw[Nat.zero_add];exact hr i hi) hw1
    exact⟨x,by simpa using e1,e2,by simp only[uptoBulk];omega⟩
   ·cases h
end
end Go.Proofs.YtkobjdhbfepkaaaE
namespace Go.Proofs.YtkobjdhbfepkaaaE
open Go
set_option linter.unusedVariables false
set_option linter.unusedSimpArgs false
open Go.Proofs.Ytkobjdhbfepkaaa.Rows (uptoBulk uptoBulkAll)
def Z0e:List (Nat×Nat)→List (Nat×Nat)→Bool
 | [],[]=>true
 | a::r,b::q=>Nat.beq a.1 b.1&&Nat.beq a.2 b.2&&Z0e r q
 | _,_=>false
theorem V13:∀ {a b:List (Nat×Nat)},Z0e a b=true→a=b
 | [],[],_=>rfl
 | (x,y)::r,(u,v)::q,h=>by
   simp only[Z0e,Bool.and_eq_true] at h
   rw[V13 h.2,Nat.eq_of_beq_eq_true h.1.1,Nat.eq_of_beq_eq_true h.1.2]
 | [],_::_,h=>by simp[Z0e] at h
 | _::_,[],h=>by simp[Z0e] at h
def Z1p (P:Program) (t:Nat) (d:TD):Bool:=
 match d,P.underlying t with
 | .bool,some .bool=>true
 | .int k,some (.int k')=>decide (k'=k)
 | .str,some .string=>true
 | .ptr e,some (.pointer e')=>Nat.beq e' e
 | .slice e,some (.slice e')=>Nat.beq e' e
 | .array n e,some (.array n' e')=>Nat.beq n' n&&Nat.beq e' e
 | .struct fs, some (.struct fields) => Z0e (fields.toList.map fun f => (f.offset, f.type)) fs && (fields.toList.all fun f => !(f.name == "_")) && !P.stoodInHeld t && !P.eqGuardType P.depth t
 | .map k e,some (.map k' e')=>Nat.beq k' k&&Nat.beq e' e
 | .func,some (.func _ _ _)=>true
 | .other,some (.struct _)=>false
 | .other,some (.array _ _)=>false
 | .other,some _=>true
 | _,_=>false
theorem X2i {P:Program} {t:Nat} {d:TD} (h:Z1p P t d=true):Q3 P t d:=by
 unfold Z1p at h
 split at h
 ·rename_i hu;exact hu
 ·rename_i k k' hu
  have:=of_decide_eq_true h
  subst this
  exact hu
 ·rename_i hu;exact hu
 ·rename_i e e' hu
  have:=Nat.eq_of_beq_eq_true h
  subst this
  exact hu
 ·rename_i e e' hu
  have:=Nat.eq_of_beq_eq_true h
  subst this
  exact hu
 ·rename_i n e n' e' hu
  simp only[Bool.and_eq_true] at h
  have h1:=Nat.eq_of_beq_eq_true h.1
  have h2:=Nat.eq_of_beq_eq_true h.2
  subst h1 h2
  exact hu
 ·rename_i fs fields hu
  simp only[Bool.and_eq_true,Bool.not_eq_true'] at h
  refine⟨fields,hu,V13 h.1.1.1,fun f hf=>?_,h.1.2,h.2⟩
  have:=List.all_eq_true.1 h.1.1.2 f hf
  simpa using this
 ·rename_i k e k' e' hu
  simp only[Bool.and_eq_true] at h
  have h1:=Nat.eq_of_beq_eq_true h.1
  have h2:=Nat.eq_of_beq_eq_true h.2
  subst h1 h2
  exact hu
 ·rename_i a b c hu;exact⟨a,b,c,hu⟩
 ·cases h
 ·cases h
 ·rename_i d hn1 hn2 hu
  exact⟨_,hu,fun fs e=>hn1 fs (by rw[e]),fun n e he=>hn2 n e (by rw[he])⟩
 ·cases h
def V1q:AV→Value→Bool
 | .int k n,.int k' n'=>decide (k=k')&&decide (n=n')
 | .bool b,.bool b'=>b==b'
 | .str s,.string s'=>s.isEmpty&&Nat.beq s'.size 0
 | .np,.pointer none=>true
 | .ns,.slice none 0 0=>true
 | .nm,.map none=>true
 | .nf,.nilFunc=>true
 | _,_=>false
theorem V20 {s:ByteArray} (h:s.size=0):s=⟨#[]⟩:=by
 have:s.data.size=0:=h
 obtain⟨d⟩:=s
 have h2:d=#[]:=Array.eq_empty_of_size_eq_zero this
 rw[h2]
theorem Z2c {x:AV} {v:Value} (h:V1q x v=true) (μ:Nat→Pl) (F:Nat→Prop) (w:World):VRel μ F w x v∧v.oneCell'=true:=by
 unfold V1q at h
 split at h
 ·simp only[Bool.and_eq_true,decide_eq_true_eq] at h
  obtain⟨rfl,rfl⟩:=h
  exact⟨by simp[VRel],rfl⟩
 ·have:=eq_of_beq h
  subst this
  exact⟨by simp[VRel],rfl⟩
 ·simp only[Bool.and_eq_true,List.isEmpty_iff] at h
  obtain⟨rfl,h2⟩:=h
  have:=V20 (Nat.eq_of_beq_eq_true h2)
  subst this
  exact⟨by simp[VRel],rfl⟩
 ·exact⟨by simp[VRel],rfl⟩
 ·exact⟨by simp[VRel],rfl⟩
 ·exact⟨by simp[VRel],rfl⟩
 ·exact⟨by simp[VRel],rfl⟩
 ·cases h
def J01:List AV→List Value→Bool
 | [],[]=>true
 | x::xs,v::vs=>V1q x v&&J01 xs vs
 | _,_=>false
theorem Z0x:∀ {xs:List AV} {vs:List Value},J01 xs vs=true→(∀ μ F w,U0 μ F w xs vs)∧∀ v∈vs,v.oneCell'=true
 | [],[],_=>⟨fun _ _ _=>by simp[U0],by simp⟩
 | x::xs,v::vs,h=>by
   simp only[J01,Bool.and_eq_true] at h
   have h1:=fun μ F w=>Z2c h.1 μ F w
   have h2:=Z0x h.2
   refine⟨fun μ F w=>by simp only[U0];exact⟨v,vs,rfl,(h1 μ F w).1,h2.1 μ F w⟩,fun u hu=>?_⟩
   rcases List.mem_cons.1 hu with rfl | hu
   ·exact(h1 (fun _=>.none) (fun _=>False) default).2
   ·exact h2.2 u hu
 | [],_::_,h=>by simp[J01] at h
 | _::_,[],h=>by simp[J01] at h
def Vr:Ty→List Value→Option (List Value)
 | .int k,.int k' n::r=>if k'=k∧n=0 then some r else none
 | .bool,.bool false::r=>some r
 | .str,.string s::r=>if s.size=0 then some r else none
 | .unit,r=>some r
 | .list _,.slice none 0 0::r=>some r
 | .pair a b,r=>match Vr a r with | some r=>Vr b r | none=>none
 | _,_=>none
theorem U0h {F:Nat→Prop} {w:World}:∀ (τ:Ty) (cs r:List Value),Vr τ cs=some r→∃ us,cs=us++r∧Enc F w τ τ.dflt us
 | .int k,cs,r,h=>by
   unfold Vr at h
   split at h<;>simp_all
   obtain⟨⟨rfl,rfl⟩,rfl⟩:=h
   exact⟨[_],rfl,by simp only[Enc];simp_all[Ty.dflt]⟩
 | .bool,cs,r,h=>by
   unfold Vr at h
   split at h<;>simp_all
   exact⟨[_],rfl,rfl⟩
 | .str,cs,r,h=>by
   unfold Vr at h
   split at h<;>simp_all
   obtain⟨hs,rfl⟩:=h
   subst hs
   exact⟨[_],rfl,rfl⟩
 | .unit,cs,r,h=>by
   simp only[Vr,Option.some.injEq] at h
   subst h
   exact⟨[],rfl,rfl⟩
 | .list t,cs,r,h=>by
   unfold Vr at h
   split at h<;>simp_all
   exact⟨[_],rfl,none,0,rfl,Nat.le_refl _,fun _=>rfl,fun a ha=>by cases ha⟩
 | .pair a b,cs,r,h=>by
   simp only[Vr] at h
   split at h
   ·rename_i r1 h1
    obtain⟨us,rfl,e1⟩:=U0h a cs r1 h1
    obtain⟨us',rfl,e2⟩:=U0h b r1 r h
    exact⟨us++us',by rw[List.append_assoc],us,us',rfl,e1,e2⟩
   ·cases h
def J3f:Value→Bool
 | .agg _=>false
 | _=>true
theorem U2w {z:Value} (h:J3f z=true):z.cells=#[z]:=by
 cases z<;>first | rfl | cases h
def V17 (P:Program) (t:Nat) (r:Row):Bool:=r.desc.agg||(match P.info? t with | some i=>(match i.zero with | some z=>J3f z | none=>true) | none=>true)
theorem Z1z {P:Program} {t:Nat} {r:Row} (h:V17 P t r=true):r.desc.agg=false→∀ i z,P.info? t=some i→i.zero=some z→z.cells=#[z]:=by
 intro ha i z hi hz
 unfold V17 at h
 rw[ha,hi,Bool.false_or] at h
 simp only[hz] at h
 exact U2w h
def V1p (t:Nat) (r:Row):Bool:=(match r.ty with | some (.int .u8)=>Nat.beq t 5 | _=>true)&&(match r.desc with | .int .u8=>Nat.beq t 5 | _=>true)
theorem V2j {t:Nat} {r:Row} (h:V1p t r=true):r.ty=some (.int .u8)∨r.desc=.int .u8→t=5:=by
 intro hr
 unfold V1p at h
 rw[Bool.and_eq_true] at h
 rcases hr with hr | hr
 ·rw[hr] at h;exact Nat.eq_of_beq_eq_true h.1
 ·rw[hr] at h;exact Nat.eq_of_beq_eq_true h.2
def J2l (P:Program) (t:Nat) (r:Row):Bool:=
 (Z1p P t r.desc&&(V1p t r&&V17 P t r))&&(match P.info? t with
  | some i=>Nat.beq i.size r.size&&Nat.beq i.bytes r.bytes&&(match i.zero with
    | some z=>Nat.beq z.cells.size r.size&&J01 r.zero z.cells.toList&&(match r.ty with
      | some τ=>(match Vr τ z.cells.toList with | some []=>true | _=>false)
      | none=>true)
    | none=>false)
  | none=>false)
theorem Q2z {P:Program} {t:Nat} {r:Row} (h:J2l P t r=true):RowOk P t r:=by
 unfold J2l at h
 rw[Bool.and_eq_true] at h
 obtain⟨h1,h2⟩:=h
 simp only[Bool.and_eq_true] at h1
 refine⟨X2i h1.1,?_,V2j h1.2.1,Z1z h1.2.2⟩
 split at h2
 ·rename_i i hi
  simp only[Bool.and_eq_true] at h2
  obtain⟨⟨a1,a2⟩,h3⟩:=h2
  split at h3
  ·rename_i z hz
   simp only[Bool.and_eq_true] at h3
   obtain⟨⟨b1,b2⟩,h4⟩:=h3
   have hc:=Z0x b2
   refine⟨i,z,hi,Nat.eq_of_beq_eq_true a1,Nat.eq_of_beq_eq_true a2,hz,Nat.eq_of_beq_eq_true b1,hc.1,hc.2,fun τ hτ F w=>?_⟩
   rw[hτ] at h4
   simp only at h4
   split at h4
   ·rename_i hz0
    obtain⟨us,e1,e2⟩:=U0h (F:=F) (w:=w) τ _ _ hz0
    rw[e1,List.append_nil]
    exact e2
   ·cases h4
  ·cases h3
 ·cases h2
def U1e:List (Nat×Row)→Nat→Option Row
 | [],_=>none
 | (k,r)::rs,t=>bif t==k then some r else U1e rs t
theorem Z1k:∀ {rs:List (Nat×Row)} {t:Nat} {r:Row},U1e rs t=some r→(t,r)∈rs
 | [],t,r,h=>by simp[U1e] at h
 | (k,r')::rs,t,r,h=>by
   simp only[U1e] at h
   cases he:t==k with
   | true=>
     rw[he] at h
     have:=eq_of_beq he
     subst this
     cases h
     simp
   | false=>
     rw[he] at h
     exact List.mem_cons_of_mem _ (Z1k h)
theorem U3r {P:Program} {T:Tab} (h:U2 P T):U2 P { T with dcl:=true }:=h
theorem Q3q {P:Program} {T:Tab} (h:U2 P T):U2 P { T with lvs:=true,bsd:=true }:=h
theorem Q4j {P:Program} {rs:List (Nat×Row)} (h:rs.all (fun p=>J2l P p.1 p.2)=true):U2 P { row:=U1e rs }:=
 fun t r hr=>Q2z (List.all_eq_true.1 h (t,r) (Z1k hr))
theorem J2a {H:Type} {enc:TypeId×Value→H} {P:Program} {W:World} {spare:Nat→Bool} {held:Bool} {r:Reach} {base n:Nat} {t:TypeId} {τ:Ty} {v:Value} {d:DataW H} {ps:List MemPlace} (hok:tyOk P n t τ=true)
    (hval:Value.okWide P W r base t v) (h:DataW.Trod enc P W 0 spare held t v d ps) (hw:∀ n∈d.weights P t,n≤reachBytes) {agg:Bool} (hagg:(match P.underlying t with | some (.struct _)=>true | some (.array _ _)=>true | _=>false)=agg) :
    ∃ x:τ.den,VRel (fun _=>.none) (fun b=>b < W.heap.size) W (AV.ofTy τ x agg) v∧okT τ x∧Qr τ x≤uptoBulk d:=by
 obtain⟨fuel,hf⟩:=h
 obtain⟨x,e1,e2,e3⟩:=V0c n fuel t τ _ d ps hok hf hw
 refine⟨x,?_,e2,e3⟩
 have hfl:=Vl (μ:=fun _=>.none) τ x _ e1
 have one:∀ u,v=u→v.cells=#[u]→agg=false→τ.sz=1→VRel (fun _=>.none) (fun b=>b < W.heap.size) W (AV.ofTy τ x agg) v:=fun u hu hc ha hs=>by
  subst ha
  rw[hc] at hfl
  have hl:=Xb hfl
  simp at hl
  unfold AV.ofTy
  simp only[Bool.false_eq_true,if_false]
  cases hfx:flat τ x with
  | nil=>rw[hfx] at hl;simp at hl
  | cons y ys=>
    rw[hfx] at hl
    simp at hl
    subst hl
    rw[hfx] at hfl
    simp only[U0] at hfl
    obtain⟨u',us',h1,h2,_⟩:=hfl
    simp at h1
    obtain⟨rfl,_⟩:=h1
    rw[hu]
    exact h2
 cases n with
 | zero=>simp[tyOk] at hok
 | succ n=>
   simp only[tyOk] at hok
   split at hok
   ·rename_i hu
    obtain⟨b,rfl⟩:=WideShapes.okWide_bool hu hval
    exact one _ rfl rfl (by rw[←hagg,hu]) rfl
   ·rename_i k k' hu
    obtain⟨n,rfl⟩:=WideShapes.okWide_int hu hval
    exact one _ rfl rfl (by rw[←hagg,hu]) rfl
   ·rename_i hu
    obtain⟨s,rfl⟩:=WideShapes.okWide_string hu hval
    exact one _ rfl rfl (by rw[←hagg,hu]) rfl
   ·rename_i e τ' hu
    obtain⟨a,len,cap,rfl⟩:=WideShapes.okWide_slice hu hval
    exact one _ rfl rfl (by rw[←hagg,hu]) rfl
   ·rename_i fs hu
    rw[hu] at hagg
    subst hagg
    simp only[Value.okWide,hu] at hval
    obtain⟨cs,rfl,_,_⟩:=hval
    simp only[AV.ofTy,if_true,VRel]
    exact⟨cs.toList,by simp,by simpa[Value.cells] using hfl,by simpa[Value.cells] using e1.one⟩
   ·rename_i k e hu
    rw[hu] at hagg
    subst hagg
    simp only[Value.okWide,hu] at hval
    obtain⟨cs,rfl,_,_⟩:=hval
    simp only[AV.ofTy,if_true,VRel]
    exact⟨cs.toList,by simp,by simpa[Value.cells] using hfl,by simpa[Value.cells] using e1.one⟩
   ·cases hok
theorem U30 {P:Program} {f:Nat} {args:List AV} {b:Bool} (h:SemF P f args [] [.bool b] []) (W:World) {vs:List Value} (hv:U0 (fun _=>.none) (fun b=>b < W.heap.size) W args vs) :
    Calls P f vs.toArray W fun e W'=>e=.returned (.bool b)∧RowKit.Below W.heap.size W W':=by
 refine(h.2 W (fun _=>.none) (fun b=>b < W.heap.size) vs ⟨fun k hk=>by simp at hk,fun _ _=>rfl,fun k k' b h=>by simp[Pl.own] at h,fun k b h=>by simp[Pl.own] at h,fun b h=>h⟩ hv).mono fun e W' he=>?_
 obtain⟨v,rfl,μ',F',h1,h2,h3,_⟩:=he
 simp only[Q8,VRel] at h1
 subst h1
 exact⟨rfl,h3.os,h3.tape,h3.output,h3.size,fun b hb=>h3.keep b hb fun⟨k,hk⟩=>by simp[Pl.own] at hk⟩
abbrev Z0a:=Nat→List AV→List LObj→Tr (Ex×List AV×List LObj)
def Tr.map {α β:Type} (f:α→β):Tr α→Tr β
 | .no=>.no
 | .ret a=>.ret (f a)
 | .br c x y=>.br c (x.map f) (y.map f)
theorem Tr.get_map {α β:Type} {f:α→β}:∀ (t:Tr α),(t.map f).get=t.get.map f
 | .no=>rfl
 | .ret a=>rfl
 | .br c x y=>by cases c<;>simp only[Tr.map,Tr.get,cond_true,cond_false]<;>exact Tr.get_map _
def lpOf (H:Hint) (n0:Nat) (S:Z0a):Lp:=fun bid _ st=>
 let p:=Q20 (H.keep bid) n0 st
 (S bid p.1 p.2).map fun r=>(r.1,stOf (H.keepX bid) r.2.1 r.2.2)
def V7:Code→Nat→List (Nat×Code)
 | .seq a b,bid=>V7 a bid++V7 b bid
 | .cond _ a b,bid=>V7 a bid++V7 b bid
 | .block id c,_=>V7 c id
 | .loop c,bid=>[(bid,c)]
 | _,_=>[]
theorem U1j {R:Type} {r:R} {all:List Oper} {o:Oper} {st:St} {run skip run' skip':St→Option R} (h1:∀ st,run st=some r→run' st=some r) (h2:∀ st,skip st=some r→skip' st=some r)
    (h:gate all o st run skip=some r):gate all o st run' skip'=some r:=by
 unfold gate at h ⊢
 cases hg:o.guard with
 | none=>rw[hg] at h;exact h1 _ h
 | some g=>
   obtain⟨j,want⟩:=g
   rw[hg] at h
   simp only at h ⊢
   cases hd:Z0f all j with
   | none=>rw[hd] at h;cases h
   | some t=>
     rw[hd] at h
     simp only at h ⊢
     split at h
     ·rename_i b hb
      cases want<;>cases b<;>simp only[cond_true,cond_false] at h ⊢<;>first | exact h1 _ h | exact h2 _ h
     ·exact h2 _ h
     ·cases h
theorem V3v {T:Tab} {orc:Orc} {o:Op} {ty:Nat} {st:St} {R:Type} {r:R} {K K':Eff→Option R} (hk:∀ f,K f=some r→K' f=some r) (h:evOp T orc o ty st K=some r):evOp T orc o ty st K'=some r:=by
 rw[V0d] at h ⊢
 cases he:evOp T orc o ty st some with
 | none=>rw[he] at h;cases h
 | some f=>rw[he] at h;exact hk f h
theorem U13 {T:Tab} {orc:Orc} {all:List Oper} {R:Type} {r:R} {K K':St→Option R} (hk:∀ st,K st=some r→K' st=some r):∀ (os:List Oper) (st:St),J09 T orc all os st K=some r→J09 T orc all os st K'=some r
 | [],st,h=>hk st h
 | o::os,st,h=>U1j (fun st h=>V3v (fun f h=>by rw[V9] at h ⊢;exact U13 hk os _ h) h) (fun st h=>U13 hk os _ h) h
theorem J3l {T:Tab} {orc:Orc} {all:List Oper} {n0:Nat} {o:Oper} {st:St} {R:Type} {r:R} {K K':Eff→Option R} (hk:∀ f,K f=some r→K' f=some r) (h:Xp T orc all n0 o st K=some r):Xp T orc all n0 o st K'=some r:=by
 rw[V03] at h ⊢
 cases he:Xp T orc all n0 o st some with
 | none=>rw[he] at h;cases h
 | some f=>rw[he] at h;exact hk f h
theorem Z3l {T:Tab} {all:List Oper} {R:Type} {r:R} {st:St} {K K':Nat→St→Option R} (hk:∀ n st,K n st=some r→K' n st=some r) (h:resE T all st K=some r):resE T all st K'=some r:=by
 unfold resE at h ⊢
 split
 ·rename_i hx;rw[hx] at h;exact hk _ _ h
 ·rename_i hx
  rw[hx] at h
  simp only[X9] at h ⊢
  exact hk _ _ h
theorem X0t {T:Tab} {orc:Orc} {all:List Oper} {bs:List Nat} {n0:Nat} {R:Type} {r:R} {K K':St→Option R} (hk:∀ st,K st=some r→K' st=some r):∀ (os:List Oper) (cs:List Cls) (st:St),Uh T orc all bs n0 os cs st K=some r→Uh T orc all bs n0 os cs st K'=some r
 | [],cs,st,h=>by
   simp only[Uh] at h ⊢
   cases hm:J05 bs cs.reverse with
   | true=>rw[hm] at h;exact hk st h
   | false=>rw[hm] at h;cases h
 | o::os,cs,st,h=>by
   simp only[Uh,U0u,X01,Q19] at h ⊢
   exact U1j (fun st h=>J3l (fun f h=>X0t hk os _ _ h) h) (fun st h=>X0t hk os _ _ h) h
theorem V01 {T:Tab} {orc:Orc} {lp lp':Lp} {R:Type} {r:R}:∀ (c:Code) (bid:Nat) (st:St) (K K':Ex→St→Option R),(∀ x∈V7 c bid,∀ st q,(lp x.1 x.2 st).get=some q→(lp' x.1 x.2 st).get=some q)→
    (∀ ex st,K ex st=some r→K' ex st=some r)→evC T orc lp c bid st K=some r→evC T orc lp' c bid st K'=some r
 | .skip,_,_,_,_,_,hk,h=>hk _ _ h
 | .label _,_,_,_,_,_,hk,h=>hk _ _ h
 | .exit _,_,_,_,_,_,hk,h=>hk _ _ h
 | .ret,_,_,_,_,_,hk,h=>hk _ _ h
 | .goto _,_,_,_,_,_,_,h=>by simp[evC] at h
 | .scope ..,_,_,_,_,_,_,h=>by simp[evC] at h
 | .rangeFunc ..,_,_,_,_,_,_,h=>by simp[evC] at h
 | .refuse ..,_,_,_,_,_,_,h=>by simp[evC] at h
 | .region id ops draw,bid,st,K,K',hl,hk,h=>by
   simp only[evC] at h ⊢
   cases draw with
   | true=>
     rw[if_pos rfl] at h ⊢
     cases hd:U07 ops (Region.before ops).toList with
     | true=>rw[hd,cond_true] at h;simp only[cond_true];exact Z3l (fun n st h=>X0t (fun st h=>by rw[V9] at h ⊢;exact hk _ _ h) _ _ _ h) h
     | false=>rw[hd] at h;cases h
   | false=>
     rw[if_neg (by simp)] at h ⊢
     exact U13 (fun st h=>by rw[V9] at h ⊢;exact hk _ _ h) _ _ h
 | .seq a b,bid,st,K,K',hl,hk,h=>by
   simp only[evC] at h ⊢
   refine V01 a bid st _ _ (fun x hx=>hl x (by simp[V7,hx])) (fun ex st' h'=>?_) h
   cases ex with
   | normal=>exact V01 b bid st' K K' (fun x hx=>hl x (by simp[V7,hx])) hk h'
   | exit id=>exact hk _ _ h'
   | ret=>exact hk _ _ h'
 | .cond c a b,bid,st,K,K',hl,hk,h=>by
   simp only[evC,Z2o] at h ⊢
   split at h
   ·rename_i t ht
    cases t with
    | true=>exact V01 a bid _ K K' (fun x hx=>hl x (by simp[V7,hx])) hk h
    | false=>exact V01 b bid _ K K' (fun x hx=>hl x (by simp[V7,hx])) hk h
   ·cases h
 | .block id c,bid,st,K,K',hl,hk,h=>by
   simp only[evC] at h ⊢
   refine V01 c id st _ _ (fun x hx=>hl x (by simpa[V7] using hx)) (fun ex st' h'=>?_) h
   cases ex with
   | normal=>exact hk _ _ h'
   | ret=>exact hk _ _ h'
   | exit i=>
     simp only[V1x] at h' ⊢
     cases hi:i==id with
     | true=>rw[hi] at h';exact hk _ _ h'
     | false=>rw[hi] at h';exact hk _ _ h'
 | .loop c,bid,st,K,K',hl,hk,h=>by
   simp only[evC] at h ⊢
   obtain⟨q,hq,h⟩:=Tr.run_some h
   rw[Tr.run_get,hl (bid,c) (by simp[V7]) st q hq]
   exact hk _ _ h
def V8 (T:Tab) (orc:Orc) (H:Hint) (n0 d:Nat) (S:Z0a) (x:Nat×Code):Prop:=
 ∀ n,d≤n→∀ vs os ex vs' os',(S x.1 vs os).get=some (ex,vs',os')→
   X2 (fun st=>evC T orc (lpN T orc H n0 n) x.2 x.1 st (Q0 (H.keep x.1) (H.keepX x.1) n0)) (stOf (H.keep x.1) vs os)=some (ex,stOf (H.keepX x.1) vs' os')
theorem lp_of {T:Tab} {orc:Orc} {H:Hint} {n0 d:Nat} {S:Z0a} {x:Nat×Code} (h:V8 T orc H n0 d S x) {n:Nat} (hn:d≤n) {st:St} {q:Ex×St} (hq:(lpOf H n0 S x.1 x.2 st).get=some q):(lpN T orc H n0 (n+1) x.1 x.2 st).get=some q:=by
 unfold lpOf at hq
 simp only[Tr.get_map] at hq
 simp only[lpN,Tr.get_of]
 cases hr:(S x.1 (Q20 (H.keep x.1) n0 st).1 (Q20 (H.keep x.1) n0 st).2).get with
 | none=>rw[hr] at hq;cases hq
 | some r=>
   rw[hr] at hq
   cases hq
   exact h n hn _ _ _ _ _ hr
theorem V0b {T:Tab} {orc:Orc} {H:Hint} {n0 d:Nat} {S:Z0a} {bid:Nat} {body:Code} (hl:∀ x∈V7 body bid,V8 T orc H n0 d S x) {n:Nat} (hn:d < n) {st:St} {R:Type} {K:Ex→St→Option R} {r:R}
    (h:evC T orc (lpOf H n0 S) body bid st K=some r):evC T orc (lpN T orc H n0 n) body bid st K=some r:=by
 cases n with
 | zero=>omega
 | succ n=>exact V01 body bid st K K (fun x hx st q hq=>lp_of (hl x hx) (by omega) hq) (fun _ _ h=>h) h
theorem J3z {T:Tab} {orc:Orc} {H:Hint} {d:Nat} {S:Z0a} {fn:Func} {c:Code} {args:List AV} {objs:List LObj} {res:Res} (hb:fn.body=some c) (hl:∀ x∈V7 c 1000000,V8 T orc H objs.length d S x) (hd:d < 8)
    (hok:(Qk fn.ntmps c&&Nat.ble args.length fn.ntmps)=true)
    (h:evC T orc (lpOf H objs.length S) c 1000000 (Z1 args objs fn.ntmps) (J1 T H.own objs.length fn)=some res):evFn T orc H fn args objs=some res:=by
 unfold evFn
 rw[hb]
 simp only[hok,cond_true]
 exact V0b hl hd h
def Dens:List (Ty×Bool)→Type
 | []=>Unit
 | t::ts=>t.1.den×Dens ts
def Xw:(ts:List (Ty×Bool))→Dens ts→List AV
 | [],_=>[]
 | t::ts,x=>AV.ofTy t.1 x.1 t.2::Xw ts x.2
def Q0b:(ts:List (Ty×Bool))→List AV→Option (Dens ts)
 | [],[]=>some ()
 | t::ts,v::vs=>match asTy t.1 v with
   | some x=>(match Q0b ts vs with | some xs=>some (x,xs) | none=>none)
   | none=>none
 | _,_=>none
def aggs:List (Ty×Bool)→List AV→Bool
 | [],[]=>true
 | t::ts,v::vs=>(v.isAgg==t.2)&&aggs ts vs
 | _,_=>false
structure FSpec where
 f:Nat
 ins:List (Ty×Bool)
 outs:List (Ty×Bool)
 F:Dens ins→Tr (Dens outs)
def FSpec.run (s:FSpec) (args:List AV):Tr Res:=
 bif aggs s.ins args then
  (match Q0b s.ins args with
  | some x=>(s.F x).map fun y=>(Xw s.outs y,[])
  | none=>.no)
 else .no
def V1o:List FSpec→Orc
 | [],_,_,_=>.no
 | s::ss,f,args,objs=>bif Nat.beq f s.f&&objs.isEmpty then s.run args else V1o ss f args objs
def FSpec.Ok (P:Program) (s:FSpec):Prop:=∀ x y,(s.F x).get=some y→SemF P s.f (Xw s.ins x) [] (Xw s.outs y) []
theorem U1w {μ:Nat→Pl} {F:Nat→Prop} {w:World} {v:AV} {cs:List AV} {u:Value} (ha:v.isAgg=false) (h:v.cellsOf=some cs) (hv:VRel μ F w v u):u.cells=#[u]:=by
 cases v<;>simp only[AV.cellsOf] at h<;>(try cases h)<;>simp only[VRel] at hv<;>(try (subst hv;rfl))
 case agg=>simp[AV.isAgg] at ha
 case list=>obtain⟨A,cap,rfl,_⟩:=Jd.1 hv;rfl
 case ptr=>obtain⟨b,_,rfl⟩:=hv;rfl
 case psl=>obtain⟨b,_,rfl⟩:=hv;rfl
 case rptr=>obtain⟨b,o,l,c,_,_,rfl⟩:=hv;rfl
 case lptr=>obtain⟨b,o,_,_,_,rfl⟩:=hv;rfl
 case rowA=>obtain⟨a,l,c,s,A,_,rfl,_⟩:=hv;rfl
 case rowS=>obtain⟨a,l,cp,s,A,c',_,_,_,rfl,_⟩:=hv;rfl
 case mp=>obtain⟨b,_,rfl⟩:=hv;rfl
 case fn=>obtain⟨us,rfl,_⟩:=hv;rfl
theorem U31 {μ:Nat→Pl} {F:Nat→Prop} {w:World} {t:Ty} {v:AV} {x:t.den} {u:Value} (h:asTy t v=some x) (hv:VRel μ F w v u):VRel μ F w (AV.ofTy t x v.isAgg) u:=by
 have e:=Q0n h hv
 have hf:=Vl (μ:=μ) t x _ e
 cases hag:v.isAgg with
 | true=>
   cases v<;>simp only[AV.isAgg] at hag<;>try cases hag
   rename_i cs
   simp only[VRel] at hv
   obtain⟨us,rfl,h1,h2⟩:=hv
   simp only[AV.ofTy,if_true,VRel]
   exact⟨us,rfl,by simpa[Value.cells] using hf,h2⟩
 | false=>
   have hc:∃ cs,v.cellsOf=some cs:=by
    unfold asTy at h
    split at h
    ·rename_i cs hcs;exact⟨cs,hcs⟩
    ·cases h
   obtain⟨cs,hcs⟩:=hc
   rw[U1w hag hcs hv] at hf
   simp only[AV.ofTy,Bool.false_eq_true,if_false]
   split
   ·rename_i y hy
    rw[hy] at hf
    simp only[U0] at hf
    obtain⟨u',us',h1,h2,h3⟩:=hf
    simp at h1
    rw[h1.1]
    exact h2
   ·simp[VRel]
theorem Q0d {μ:Nat→Pl} {F:Nat→Prop} {w:World}:∀ (ts:List (Ty×Bool)) (vs:List AV) (x:Dens ts) (us:List Value),aggs ts vs=true→Q0b ts vs=some x→U0 μ F w vs us→U0 μ F w (Xw ts x) us
 | [],[],x,us,_,_,h=>by simpa[Xw] using h
 | [],_::_,x,us,ha,_,_=>by simp[aggs] at ha
 | _::_,[],x,us,ha,_,_=>by simp[aggs] at ha
 | t::ts,v::vs,x,us,ha,hx,h=>by
   simp only[aggs,Bool.and_eq_true,beq_iff_eq] at ha
   simp only[Q0b] at hx
   split at hx
   ·rename_i y hy
    split at hx
    ·rename_i ys hys
     cases hx
     simp only[U0] at h
     obtain⟨u,us',rfl,h1,h2⟩:=h
     simp only[Xw,U0]
     refine⟨u,us',rfl,?_,Q0d ts vs ys us' ha.2 hys h2⟩
     rw[←ha.1]
     exact U31 hy h1
    ·cases hx
   ·cases hx
theorem J1s {μ:Nat→Pl} {F:Nat→Prop} {w:World} {ts:List (Ty×Bool)} {vs:List AV} {x:Dens ts} {u:Value} (ha:aggs ts vs=true) (hx:Q0b ts vs=some x) (h:VRel μ F w (Q8 vs) u):VRel μ F w (Q8 (Xw ts x)) u:=by
 match ts,vs,x,ha,hx,h with
 | [],[],x,_,_,h=>simpa[Xw] using h
 | [],_::_,_,ha,_,_=>simp[aggs] at ha
 | _::_,[],_,ha,_,_=>simp[aggs] at ha
 | [t],[v],x,ha,hx,h=>
   have:=Q0d (μ:=μ) (F:=F) (w:=w) [t] [v] x [u] ha hx (by simp only[U0];exact⟨u,[],rfl,h,rfl⟩)
   simp only[Xw,U0] at this
   obtain⟨u',us',h1,h2,_⟩:=this
   simp at h1
   rw[h1.1]
   exact h2
 | [t],_::_::_,_,ha,_,_=>simp[aggs] at ha
 | _::_::_,[v],_,ha,_,_=>simp[aggs] at ha
 | t::t'::ts,v::v'::vs,x,ha,hx,h=>
   simp only[Q8,VRel] at h
   obtain⟨us,rfl,h1⟩:=h
   have:=Q0d (t::t'::ts) (v::v'::vs) x us ha hx h1
   simp only[Xw] at this
   simp only[Q8,Xw,VRel]
   exact⟨us,rfl,this⟩
theorem V3t {P:Program} {f:Nat} {ts:List (Ty×Bool)} {vs:List AV} {x:Dens ts} {res:List AV} {objs:List LObj} (ha:aggs ts vs=true) (hx:Q0b ts vs=some x) (h:SemF P f (Xw ts x) [] res objs):SemF P f vs [] res objs:=
 ⟨h.1,fun w μ F us hh hv=>h.2 w μ F us hh (Q0d ts vs x us ha hx hv)⟩
theorem J3j {P:Program} {f:Nat} {ts:List (Ty×Bool)} {vs:List AV} {x:Dens ts} {args:List AV} {objs objs':List LObj} (ha:aggs ts vs=true) (hx:Q0b ts vs=some x) (h:SemF P f args objs vs objs'):SemF P f args objs (Xw ts x) objs':=
 ⟨h.1,fun w μ F us hh hv=>(h.2 w μ F us hh hv).mono fun e w' ⟨v,he,μ',F',h1,h2⟩=>⟨v,he,μ',F',J1s ha hx h1,h2⟩⟩
theorem U09 {P:Program}:∀ (ss:List FSpec),(∀ s∈ss,s.Ok P)→Qa P (V1o ss)
 | [],_,f,args,objs,res,objs',h=>by simp[V1o,Tr.get] at h
 | s::ss,hs,f,args,objs,res,objs',h=>by
   simp only[V1o] at h
   cases hc:(Nat.beq f s.f&&objs.isEmpty) with
   | false=>
     rw[hc] at h
     exact U09 ss (fun s hs'=>hs s (by simp[hs'])) f args objs res objs' h
   | true=>
     rw[hc] at h
     simp only[cond_true] at h
     simp only[Bool.and_eq_true,List.isEmpty_iff] at hc
     obtain⟨h1,rfl⟩:=hc
     have:=Nat.eq_of_beq_eq_true h1
     subst this
     unfold FSpec.run at h
     cases ha:aggs s.ins args with
     | false=>rw[ha] at h;cases h
     | true=>
       rw[ha] at h
       simp only[cond_true] at h
       split at h
       ·rename_i x hx
        rw[Tr.get_map] at h
        cases hy:(s.F x).get with
        | none=>rw[hy] at h;cases h
        | some y=>
          rw[hy] at h
          cases h
          exact V3t ha hx (hs s (by simp) x y hy)
       ·cases h
def Vd:(t:Ty)→List AV→Option (t.den×List AV)
 | .int k,.int k' n::r=>if k'=k then some (n,r) else none
 | .bool,.bool b::r=>some (b,r)
 | .str,.str s::r=>some (s,r)
 | .unit,r=>some ((),r)
 | .list t,.list t' xs::r=>if h:t'=t then some (h▸xs,r) else none
 | .pair a b,r=>
   match Vd a r with
   | some (x,r)=>match Vd b r with
     | some (y,r)=>some ((x,y),r)
     | none=>none
   | none=>none
 | _,_=>none
theorem Q05:∀ (t:Ty) (cs:List AV) (x:t.den) (r:List AV),Vd t cs=some (x,r)→cs=flat t x++r
 | .int k,[],x,r,h=>by simp[Vd] at h
 | .int k,v::cs,x,r,h=>by
   cases v<;>simp only[Vd] at h<;>try cases h
   split at h<;>cases h
   rename_i hk
   subst hk
   rfl
 | .bool,[],x,r,h=>by simp[Vd] at h
 | .bool,v::cs,x,r,h=>by
   cases v<;>simp only[Vd] at h<;>try cases h
   rfl
 | .str,[],x,r,h=>by simp[Vd] at h
 | .str,v::cs,x,r,h=>by
   cases v<;>simp only[Vd] at h<;>try cases h
   rfl
 | .unit,cs,x,r,h=>by
   simp only[Vd,Option.some.injEq,Prod.mk.injEq] at h
   obtain⟨_,rfl⟩:=h
   rfl
 | .list t,[],x,r,h=>by simp[Vd] at h
 | .list t,v::cs,x,r,h=>by
   cases v<;>simp only[Vd] at h<;>try cases h
   split at h<;>cases h
   rename_i ht
   subst ht
   rfl
 | .pair a b,cs,x,r,h=>by
   simp only[Vd] at h
   split at h
   ·rename_i y r1 h1
    split at h
    ·rename_i z r2 h2
     cases h
     rw[Q05 a _ _ _ h1,Q05 b _ _ _ h2]
     simp[flat,List.append_assoc]
    ·cases h
   ·cases h
def getX (t:Ty):Bool→AV→Option t.den
 | true,.agg cs=>match Vd t cs with | some (x,[])=>some x | _=>none
 | false,.agg _=>none
 | false,v=>match Vd t [v] with | some (x,[])=>some x | _=>none
 | true,_=>none
theorem X3x {t:Ty} {agg:Bool} {v:AV} {x:t.den} (h:getX t agg v=some x):v=AV.ofTy t x agg:=by
 unfold getX at h
 split at h
 ·split at h
  ·rename_i y hy
   cases h
   rw[Q05 _ _ _ _ hy,List.append_nil]
   rfl
  ·cases h
 ·cases h
 ·split at h
  ·rename_i y hy
   cases h
   have:=Q05 _ _ _ _ hy
   rw[List.append_nil] at this
   simp only[AV.ofTy,Bool.false_eq_true,if_false]
   rw[←this]
  ·cases h
 ·cases h
inductive Sh where
 | d (t:Ty) (agg:Bool)
 | row (j:Nat)
 | ptr (j off:Nat)
 | np
 | ns
 | undef
 | mp (j:Nat)
 | psl (j n:Nat)
 | dead
 | fnp (g:Nat) (ps:List (Nat×Nat))
 | rowP (j:Nat)
def ShT:List Sh→Type
 | []=>Unit
 | .d t _::r=>t.den×ShT r
 | .row _::r=>ShT r
 | .ptr _ _::r=>ShT r
 | .np::r=>ShT r
 | .ns::r=>ShT r
 | .undef::r=>ShT r
 | .mp _::r=>ShT r
 | .psl _ _::r=>ShT r
 | .dead::r=>ShT r
 | .fnp _ _::r=>ShT r
 | .rowP _::r=>(Nat×Nat)×ShT r
def V2d (ps:List (Nat×Nat)):List AV:=ps.map fun p=>.ptr p.1 p.2
def pack:(s:List Sh)→ShT s→List AV
 | [],_=>[]
 | .d t a::r,x=>AV.ofTy t x.1 a::pack r x.2
 | .row j::r,x=>.rowA j::pack r x
 | .ptr j o::r,x=>.ptr j o::pack r x
 | .np::r,x=>.np::pack r x
 | .ns::r,x=>.ns::pack r x
 | .undef::r,x=>.undef::pack r x
 | .mp j::r,x=>.mp j::pack r x
 | .psl j n''::r,x=>.psl j n''::pack r x
 | .dead::r,x=>.dead::pack r x
 | .fnp g ps::r,x=>.fn g (V2d ps)::pack r x
 | .rowP j::r,x=>.rowS j x.1.1 x.1.2 false::pack r x.2
def AV.asPart (j:Nat):AV→Option (Nat×Nat)
 | .rowS k off n c=>match c with | false=>(bif Nat.beq k j then some (off,n) else none) | true=>none
 | _=>none
theorem Z30 {j:Nat} {v:AV} {q:Nat×Nat} (h:v.asPart j=some q):v=.rowS j q.1 q.2 false:=by
 cases v<;>simp only[AV.asPart] at h<;>try cases h
 rename_i k off n c
 cases c with
 | true=>cases h
 | false=>
   cases hb:Nat.beq k j with
   | false=>rw[hb] at h;cases h
   | true=>
     rw[hb] at h
     cases h
     rw[Nat.eq_of_beq_eq_true hb]
def AV.isRow (j:Nat):AV→Bool | .rowA k=>Nat.beq k j | _=>false
def AV.isPtr (j o:Nat):AV→Bool | .ptr k o'=>Nat.beq k j&&Nat.beq o' o | _=>false
def AV.isNp:AV→Bool | .np=>true | _=>false
def AV.isNs:AV→Bool | .ns=>true | _=>false
def AV.isUndef:AV→Bool | .undef=>true | _=>false
def AV.isMp (j:Nat):AV→Bool | .mp k=>Nat.beq k j | _=>false
def AV.isPsl (j n:Nat):AV→Bool | .psl k m=>Nat.beq k j&&Nat.beq m n | _=>false
def AV.isDead:AV→Bool | .dead=>true | _=>false
def V1t:List AV→List (Nat×Nat)→Bool
 | [],[]=>true
 | v::vs,p::ps=>v.isPtr p.1 p.2&&V1t vs ps
 | _,_=>false
def AV.isFnp (g:Nat) (ps:List (Nat×Nat)):AV→Bool | .fn f cs=>Nat.beq f g&&V1t cs ps | _=>false
theorem X3v {j:Nat} {v:AV} (h:v.isMp j=true):v=.mp j:=by
 cases v<;>simp only[AV.isMp] at h<;>try cases h
 rw[Nat.eq_of_beq_eq_true h]
theorem U3d {j n:Nat} {v:AV} (h:v.isPsl j n=true):v=.psl j n:=by
 cases v<;>simp only[AV.isPsl] at h<;>try cases h
 simp only[Bool.and_eq_true] at h
 rw[Nat.eq_of_beq_eq_true h.1,Nat.eq_of_beq_eq_true h.2]
theorem Q2t {v:AV} (h:v.isDead=true):v=.dead:=by
 cases v<;>simp only[AV.isDead] at h<;>try cases h
 rfl
theorem V33 {j:Nat} {v:AV} (h:v.isRow j=true):v=.rowA j:=by
 cases v<;>simp only[AV.isRow] at h<;>try cases h
 rw[Nat.eq_of_beq_eq_true h]
theorem J1z {j o:Nat} {v:AV} (h:v.isPtr j o=true):v=.ptr j o:=by
 cases v<;>simp only[AV.isPtr] at h<;>try cases h
 simp only[Bool.and_eq_true] at h
 rw[Nat.eq_of_beq_eq_true h.1,Nat.eq_of_beq_eq_true h.2]
theorem U3s {v:AV} (h:v.isNp=true):v=.np:=by
 cases v<;>simp only[AV.isNp] at h<;>try cases h
 rfl
theorem U42 {v:AV} (h:v.isNs=true):v=.ns:=by
 cases v<;>simp only[AV.isNs] at h<;>try cases h
 rfl
theorem U1n:∀ {vs:List AV} {ps:List (Nat×Nat)},V1t vs ps=true→vs=V2d ps
 | [],[],_=>rfl
 | v::vs,p::ps,h=>by
   simp only[V1t,Bool.and_eq_true] at h
   rw[J1z h.1,U1n h.2]
   rfl
 | [],_::_,h=>by cases h
 | _::_,[],h=>by cases h
theorem Z3p {g:Nat} {ps:List (Nat×Nat)} {v:AV} (h:v.isFnp g ps=true):v=.fn g (V2d ps):=by
 cases v<;>simp only[AV.isFnp] at h<;>try cases h
 simp only[Bool.and_eq_true] at h
 rw[Nat.eq_of_beq_eq_true h.1,U1n h.2]
theorem Z2i {v:AV} (h:v.isUndef=true):v=.undef:=by
 cases v<;>simp only[AV.isUndef] at h<;>try cases h
 rfl
def X7:(s:List Sh)→List AV→Option (ShT s)
 | [],vs=>bif vs.isEmpty then some () else none
 | .d t a::r,vs=>match vs with
   | v::vs=>(match getX t a v with | some x=>(match X7 r vs with | some y=>some (x,y) | none=>none) | none=>none)
   | []=>none
 | .row j::r,vs=>match vs with | v::vs=>bif v.isRow j then X7 r vs else none | []=>none
 | .ptr j o::r,vs=>match vs with | v::vs=>bif v.isPtr j o then X7 r vs else none | []=>none
 | .np::r,vs=>match vs with | v::vs=>bif v.isNp then X7 r vs else none | []=>none
 | .ns::r,vs=>match vs with | v::vs=>bif v.isNs then X7 r vs else none | []=>none
 | .undef::r,vs=>match vs with | v::vs=>bif v.isUndef then X7 r vs else none | []=>none
 | .mp j::r,vs=>match vs with | v::vs=>bif v.isMp j then X7 r vs else none | []=>none
 | .psl j n''::r,vs=>match vs with | v::vs=>bif v.isPsl j n'' then X7 r vs else none | []=>none
 | .dead::r,vs=>match vs with | v::vs=>bif v.isDead then X7 r vs else none | []=>none
 | .fnp g ps::r,vs=>match vs with | v::vs=>bif v.isFnp g ps then X7 r vs else none | []=>none
 | .rowP j::r,vs=>match vs with
   | v::vs=>(match v.asPart j with | some q=>(match X7 r vs with | some y=>some (q,y) | none=>none) | none=>none)
   | []=>none
theorem Vf {α:Type} {b:Bool} {x:Option α} {y:α} (h:(bif b then x else none)=some y):b=true∧x=some y:=by
 cases b
 ·cases h
 ·exact⟨rfl,h⟩
theorem X8:∀ (s:List Sh) (vs:List AV) (x:ShT s),X7 s vs=some x→vs=pack s x
 | [],vs,x,h=>by
   simp only[X7] at h
   have:=(Vf h).1
   rw[List.isEmpty_iff] at this
   rw[this]
   rfl
 | .d t a::r,[],x,h=>by cases h
 | .d t a::r,v::vs,x,h=>by
   simp only[X7] at h
   split at h
   ·rename_i y hy
    split at h
    ·rename_i z hz
     cases h
     simp only[pack]
     rw[X3x hy,X8 r vs z hz]
    ·cases h
   ·cases h
 | .row j::r,[],x,h=>by cases h
 | .row j::r,v::vs,x,h=>by
   simp only[X7] at h
   obtain⟨h1,h2⟩:=Vf h
   simp only[pack]
   rw[V33 h1,X8 r vs x h2]
 | .ptr j o::r,[],x,h=>by cases h
 | .ptr j o::r,v::vs,x,h=>by
   simp only[X7] at h
   obtain⟨h1,h2⟩:=Vf h
   simp only[pack]
   rw[J1z h1,X8 r vs x h2]
 | .np::r,[],x,h=>by cases h
 | .np::r,v::vs,x,h=>by
   simp only[X7] at h
   obtain⟨h1,h2⟩:=Vf h
   simp only[pack]
   rw[U3s h1,X8 r vs x h2]
 | .ns::r,[],x,h=>by cases h
 | .ns::r,v::vs,x,h=>by
   simp only[X7] at h
   obtain⟨h1,h2⟩:=Vf h
   simp only[pack]
   rw[U42 h1,X8 r vs x h2]
 | .undef::r,[],x,h=>by cases h
 | .undef::r,v::vs,x,h=>by
   simp only[X7] at h
   obtain⟨h1,h2⟩:=Vf h
   simp only[pack]
   rw[Z2i h1,X8 r vs x h2]
 | .mp j::r,[],x,h=>by cases h
 | .psl j n''::r,[],x,h=>by cases h
 | .mp j::r,v::vs,x,h=>by
   simp only[X7] at h
   obtain⟨h1,h2⟩:=Vf h
   simp only[pack]
   rw[X3v h1,X8 r vs x h2]
 | .psl j n''::r,v::vs,x,h=>by
   simp only[X7] at h
   obtain⟨h1,h2⟩:=Vf h
   simp only[pack]
   rw[U3d h1,X8 r vs x h2]
 | .dead::r,[],x,h=>by cases h
 | .dead::r,v::vs,x,h=>by
   simp only[X7] at h
   obtain⟨h1,h2⟩:=Vf h
   simp only[pack]
   rw[Q2t h1,X8 r vs x h2]
 | .fnp g ps::r,[],x,h=>by cases h
 | .fnp g ps::r,v::vs,x,h=>by
   simp only[X7] at h
   obtain⟨h1,h2⟩:=Vf h
   simp only[pack]
   rw[Z3p h1,X8 r vs x h2]
 | .rowP j::r,[],x,h=>by cases h
 | .rowP j::r,v::vs,x,h=>by
   simp only[X7] at h
   split at h
   ·rename_i y hy
    split at h
    ·rename_i z hz
     cases h
     simp only[pack]
     rw[Z30 hy,X8 r vs z hz]
    ·cases h
   ·cases h
inductive ShO where
 | row (t:Ty)
 | box (cs:List Sh)
 | map (kt vt:Ty)
 | mapb (kt:Ty) (ki:IntKind) (t:Ty)
 | tbox (E:Nat) (cs:List Sh)
def ShOT:List ShO→Type
 | []=>Unit
 | .row t::r=>List t.den×ShOT r
 | .box cs::r=>ShT cs×ShOT r
 | .map kt vt::r=>List (kt.den×vt.den)×ShOT r
 | .mapb kt ki t::r=>List (kt.den×(Int×List t.den))×ShOT r
 | .tbox _ cs::r=>ShT cs×ShOT r
def Xk:(s:List ShO)→ShOT s→List LObj
 | [],_=>[]
 | .row t::r,x=>.row t x.1::Xk r x.2
 | .box cs::r,x=>.box (pack cs x.1)::Xk r x.2
 | .map kt vt::r,x=>.mpo kt vt x.1::Xk r x.2
 | .mapb kt ki t::r,x=>.mpb kt ki t x.1 none::Xk r x.2
 | .tbox E cs::r,x=>.boxT (some E) (pack cs x.1)::Xk r x.2
def LObj.asRow (t:Ty):LObj→Option (List t.den)
 | .row t' xs=>if h:t'=t then some (h▸xs) else none
 | _=>none
def LObj.asTBox (E:Nat):LObj→Option (List AV)
 | .boxT (some n) cs=>bif Nat.beq n E then some cs else none
 | _=>none
theorem Q2v {E:Nat} {o:LObj} {cs:List AV} (h:o.asTBox E=some cs):o=.boxT (some E) cs:=by
 cases o<;>simp only[LObj.asTBox] at h<;>try cases h
 rename_i tag cs'
 cases tag with
 | none=>cases h
 | some n=>
   obtain⟨h1,h2⟩:=Vf h
   cases h2
   rw[Nat.eq_of_beq_eq_true h1]
def LObj.asMap (kt vt:Ty):LObj→Option (List (kt.den×vt.den))
 | .mpo k v es=>if h:k=kt then (if h':v=vt then some (h▸h'▸es) else none) else none
 | _=>none
theorem Z37 {kt vt:Ty} {o:LObj} {es:List (kt.den×vt.den)} (h:o.asMap kt vt=some es):o=.mpo kt vt es:=by
 cases o<;>simp only[LObj.asMap] at h<;>try cases h
 split at h
 ·rename_i hk
  subst hk
  split at h
  ·rename_i hv
   subst hv
   cases h
   rfl
  ·cases h
 ·cases h
def LObj.asMapb (kt:Ty) (ki:IntKind) (t:Ty):LObj→Option (List (kt.den×(Int×List t.den)))
 | .mpb k i v es none=>if h:k=kt then (if h':v=t then (if i=ki then some (h▸h'▸es) else none) else none) else none
 | _=>none
theorem X2w {kt:Ty} {ki:IntKind} {t:Ty} {o:LObj} {es:List (kt.den×(Int×List t.den))} (h:o.asMapb kt ki t=some es):o=.mpb kt ki t es none:=by
 cases o<;>simp only[LObj.asMapb] at h<;>try cases h
 rename_i foc
 cases foc<;>simp only[LObj.asMapb] at h<;>try cases h
 split at h
 ·rename_i hk
  subst hk
  split at h
  ·rename_i hv
   subst hv
   split at h
   ·rename_i hi
    subst hi
    cases h
    rfl
   ·cases h
  ·cases h
 ·cases h
def LObj.asBox:LObj→Option (List AV)
 | .boxT none cs=>some cs
 | _=>none
theorem J3a {t:Ty} {o:LObj} {xs:List t.den} (h:o.asRow t=some xs):o=.row t xs:=by
 cases o<;>simp only[LObj.asRow] at h<;>try cases h
 split at h
 ·rename_i ht
  subst ht
  cases h
  rfl
 ·cases h
theorem V35 {o:LObj} {cs:List AV} (h:o.asBox=some cs):o=.box cs:=by
 cases o<;>simp only[LObj.asBox] at h<;>try cases h
 rename_i tag cs'
 cases tag<;>simp only[LObj.asBox] at h<;>cases h
 rfl
def Ze:(s:List ShO)→List LObj→Option (ShOT s)
 | [],os=>bif os.isEmpty then some () else none
 | .row t::r,os=>match os with
   | o::os=>(match o.asRow t with | some x=>(match Ze r os with | some y=>some (x,y) | none=>none) | none=>none)
   | []=>none
 | .box cs::r,os=>match os with
   | o::os=>(match o.asBox with
     | some vs=>(match X7 cs vs with | some x=>(match Ze r os with | some y=>some (x,y) | none=>none) | none=>none)
     | none=>none)
   | []=>none
 | .tbox E cs::r,os=>match os with
   | o::os=>(match o.asTBox E with
     | some vs=>(match X7 cs vs with | some x=>(match Ze r os with | some y=>some (x,y) | none=>none) | none=>none)
     | none=>none)
   | []=>none
 | .map kt vt::r,os=>match os with
   | o::os=>(match o.asMap kt vt with | some x=>(match Ze r os with | some y=>some (x,y) | none=>none) | none=>none)
   | []=>none
 | .mapb kt ki t::r,os=>match os with
   | o::os=>(match o.asMapb kt ki t with | some x=>(match Ze r os with | some y=>some (x,y) | none=>none) | none=>none)
   | []=>none
theorem Vj:∀ (s:List ShO) (os:List LObj) (x:ShOT s),Ze s os=some x→os=Xk s x
 | [],os,x,h=>by
   simp only[Ze] at h
   have:=(Vf h).1
   rw[List.isEmpty_iff] at this
   rw[this]
   rfl
 | .row t::r,[],x,h=>by cases h
 | .row t::r,o::os,x,h=>by
   simp only[Ze] at h
   split at h
   ·rename_i y hy
    split at h
    ·rename_i z hz
     cases h
     simp only[Xk]
     rw[J3a hy,Vj r os z hz]
    ·cases h
   ·cases h
 | .tbox E cs::r,[],x,h=>by cases h
 | .tbox E cs::r,o::os,x,h=>by
   simp only[Ze] at h
   split at h
   ·rename_i vs hvs
    split at h
    ·rename_i y hy
     split at h
     ·rename_i z hz
      cases h
      simp only[Xk]
      rw[Q2v hvs,X8 cs vs y hy,Vj r os z hz]
     ·cases h
    ·cases h
   ·cases h
 | .mapb kt ki t::r,[],x,h=>by cases h
 | .mapb kt ki t::r,o::os,x,h=>by
   simp only[Ze] at h
   split at h
   ·rename_i y hy
    split at h
    ·rename_i z hz
     cases h
     simp only[Xk]
     rw[X2w hy,Vj r os z hz]
    ·cases h
   ·cases h
 | .map kt vt::r,[],x,h=>by cases h
 | .map kt vt::r,o::os,x,h=>by
   simp only[Ze] at h
   split at h
   ·rename_i y hy
    split at h
    ·rename_i z hz
     cases h
     simp only[Xk]
     rw[Z37 hy,Vj r os z hz]
    ·cases h
   ·cases h
 | .box cs::r,[],x,h=>by cases h
 | .box cs::r,o::os,x,h=>by
   simp only[Ze] at h
   split at h
   ·rename_i vs hvs
    split at h
    ·rename_i y hy
     split at h
     ·rename_i z hz
      cases h
      simp only[Xk]
      rw[V35 hvs,X8 cs vs y hy,Vj r os z hz]
     ·cases h
    ·cases h
   ·cases h
structure LoopSpec where
 bid:Nat
 sh:List Sh
 so:List ShO
 F:ShT sh→ShOT so→Tr (Ex×List AV×List LObj)
def LoopSpec.run (L:LoopSpec) (vs:List AV) (os:List LObj):Tr (Ex×List AV×List LObj):=
 match X7 L.sh vs with
 | some x=>(match Ze L.so os with | some y=>L.F x y | none=>.no)
 | none=>.no
def lsOf:List LoopSpec→Z0a
 | [],_,_,_=>.no
 | L::Ls,bid,vs,os=>bif Nat.beq bid L.bid then L.run vs os else lsOf Ls bid vs os
def LoopSpec.Ok (T:Tab) (orc:Orc) (H:Hint) (n0 d:Nat) (L:LoopSpec) (body:Code):Prop:=
 ∀ n,d≤n→∀ x y r,(L.F x y).get=some r→
   X2 (fun st=>evC T orc (lpN T orc H n0 n) body L.bid st (Q0 (H.keep L.bid) (H.keepX L.bid) n0)) (stOf (H.keep L.bid) (pack L.sh x) (Xk L.so y))=some (r.1,stOf (H.keepX L.bid) r.2.1 r.2.2)
theorem X2k {T:Tab} {orc:Orc} {H:Hint} {n0 d:Nat} {Ls:List LoopSpec} {bid:Nat} {body:Code} (h:∀ L∈Ls,L.bid=bid→L.Ok T orc H n0 d body):V8 T orc H n0 d (lsOf Ls) (bid,body):=by
 intro n hn vs os ex vs' os' hS
 have key:∀ (Ls:List LoopSpec),(∀ L∈Ls,L.bid=bid→L.Ok T orc H n0 d body)→(lsOf Ls bid vs os).get=some (ex,vs',os')→
     X2 (fun st=>evC T orc (lpN T orc H n0 n) body bid st (Q0 (H.keep bid) (H.keepX bid) n0)) (stOf (H.keep bid) vs os)=some (ex,stOf (H.keepX bid) vs' os'):=by
  intro Ls
  induction Ls with
  | nil=>intro _ h;simp[lsOf,Tr.get] at h
  | cons L Ls ih=>
    intro hL h
    simp only[lsOf] at h
    cases hb:Nat.beq bid L.bid with
    | false=>rw[hb] at h;exact ih (fun L hl=>hL L (by simp[hl])) h
    | true=>
      rw[hb] at h
      have e:=Nat.eq_of_beq_eq_true hb
      subst e
      simp only[cond_true,LoopSpec.run] at h
      split at h
      ·rename_i x hx
       split at h
       ·rename_i y hy
        rw[X8 _ _ _ hx,Vj _ _ _ hy]
        exact hL L (by simp) rfl n hn x y _ h
       ·cases h
      ·cases h
 exact key Ls h hS
def X4 (c:Code) (k:Nat):Code:=match (V7 c 1000000)[k]? with | some x=>x.2 | none=>.skip
def rows:List (Nat×Row):=[
 (3,{ desc:=.int .i64,size:=1,bytes:=8,zero:=[.int .i64 0],cty:=[none],ty:=some (.int .i64) }),
 (4,{ desc:=.bool,size:=1,bytes:=1,zero:=[.bool false],cty:=[none],ty:=some (.bool) }),
 (5,{ desc:=.int .u8,size:=1,bytes:=1,zero:=[.int .u8 0],cty:=[none],ty:=some (.int .u8) }),
 (9,{ desc:=.str,size:=1,bytes:=16,zero:=[.str []],cty:=[none],ty:=some (.str) }),
 (22,{ desc:=.slice 27,size:=1,bytes:=24,zero:=[.ns],cty:=[some ((.pair .str (.list (.pair .str (.pair (.int .u16) (.pair (.int .u16) (.pair (.int .u32) .str)))))))],ty:=some ((.list (.pair .str (.list (.pair .str (.pair (.int .u16) (.pair (.int .u16) (.pair (.int .u32) .str)))))))) }),
 (23,{ desc:=.slice 56,size:=1,bytes:=24,zero:=[.ns],cty:=[some ((.pair .str (.pair (.int .u16) (.pair (.int .u16) (.pair (.int .u32) .str)))))],ty:=some ((.list (.pair .str (.pair (.int .u16) (.pair (.int .u16) (.pair (.int .u32) .str)))))) }),
 (27,{ desc:=.struct [(0,9),(1,23)],size:=2,bytes:=40,zero:=[.str [],.ns],cty:=[none,some ((.pair .str (.pair (.int .u16) (.pair (.int .u16) (.pair (.int .u32) .str)))))],ty:=some ((.pair .str (.list (.pair .str (.pair (.int .u16) (.pair (.int .u16) (.pair (.int .u32) .str))))))) }),
 (28,{ desc:=.slice 32,size:=1,bytes:=24,zero:=[.ns],cty:=[some ((.pair .str (.list (.pair .str (.pair (.int .u16) (.pair (.int .u16) (.pair (.int .u32) .str)))))))],ty:=some ((.list (.pair .str (.list (.pair .str (.pair (.int .u16) (.pair (.int .u16) (.pair (.int .u32) .str)))))))) }),
 (32,{ desc:=.struct [(0,9),(1,23)],size:=2,bytes:=40,zero:=[.str [],.ns],cty:=[none,some ((.pair .str (.pair (.int .u16) (.pair (.int .u16) (.pair (.int .u32) .str)))))],ty:=some ((.pair .str (.list (.pair .str (.pair (.int .u16) (.pair (.int .u16) (.pair (.int .u32) .str))))))) }),
 (42,{ desc:=.int .u16,size:=1,bytes:=2,zero:=[.int .u16 0],cty:=[none],ty:=some (.int .u16) }),
 (43,{ desc:=.slice 52,size:=1,bytes:=24,zero:=[.ns],cty:=[some ((.pair .str (.pair (.int .u16) (.int .u16))))],ty:=some ((.list (.pair .str (.pair (.int .u16) (.int .u16))))) }),
 (45,{ desc:=.struct [(0,42),(1,4),(2,4),(3,4),(4,4),(5,4),(6,3),(7,3),(8,43),(9,23),(10,23),(11,23)],size:=12,bytes:=120,zero:=[.int .u16 0,.bool false,.bool false,.bool false,.bool false,.bool false,.int .i64 0,.int .i64 0,.ns,.ns,.ns,.ns],cty:=[none,none,none,none,none,none,none,none,some ((.pair .str (.pair (.int .u16) (.int .u16)))),some ((.pair .str (.pair (.int .u16) (.pair (.int .u16) (.pair (.int .u32) .str))))),some ((.pair .str (.pair (.int .u16) (.pair (.int .u16) (.pair (.int .u32) .str))))),some ((.pair .str (.pair (.int .u16) (.pair (.int .u16) (.pair (.int .u32) .str)))))],ty:=some ((.pair (.int .u16) (.pair .bool (.pair .bool (.pair .bool (.pair .bool (.pair .bool (.pair (.int .i64) (.pair (.int .i64) (.pair (.list (.pair .str (.pair (.int .u16) (.int .u16)))) (.pair (.list (.pair .str (.pair (.int .u16) (.pair (.int .u16) (.pair (.int .u32) .str))))) (.pair (.list (.pair .str (.pair (.int .u16) (.pair (.int .u16) (.pair (.int .u32) .str))))) (.list (.pair .str (.pair (.int .u16) (.pair (.int .u16) (.pair (.int .u32) .str))))))))))))))))) }),
 (52,{ desc:=.struct [(0,9),(1,42),(2,42)],size:=3,bytes:=24,zero:=[.str [],.int .u16 0,.int .u16 0],cty:=[none,none,none],ty:=some ((.pair .str (.pair (.int .u16) (.int .u16)))) }),
 (54,{ desc:=.int .u32,size:=1,bytes:=4,zero:=[.int .u32 0],cty:=[none],ty:=some (.int .u32) }),
 (56,{ desc:=.struct [(0,9),(1,42),(2,42),(3,54),(4,9)],size:=5,bytes:=40,zero:=[.str [],.int .u16 0,.int .u16 0,.int .u32 0,.str []],cty:=[none,none,none,none,none],ty:=some ((.pair .str (.pair (.int .u16) (.pair (.int .u16) (.pair (.int .u32) .str))))) }),
 (58,{ desc:=.func,size:=1,bytes:=8,zero:=[.nf],cty:=[none],ty:=none }),
 (62,{ desc:=.int .u64,size:=1,bytes:=8,zero:=[.int .u64 0],cty:=[none],ty:=some (.int .u64) }),
 (63,{ desc:=.slice 66,size:=1,bytes:=24,zero:=[.ns],cty:=[some ((.pair (.pair .str (.pair (.int .u16) (.int .u16))) (.pair (.list (.pair .str (.pair (.int .u16) (.pair (.int .u16) (.pair (.int .u32) .str))))) (.pair (.int .i64) (.pair (.int .i64) (.int .u64))))))],ty:=some ((.list (.pair (.pair .str (.pair (.int .u16) (.int .u16))) (.pair (.list (.pair .str (.pair (.int .u16) (.pair (.int .u16) (.pair (.int .u32) .str))))) (.pair (.int .i64) (.pair (.int .i64) (.int .u64))))))) }),
 (66,{ desc:=.struct [(0,52),(3,23),(4,3),(5,3),(6,62)],size:=7,bytes:=72,zero:=[.str [],.int .u16 0,.int .u16 0,.ns,.int .i64 0,.int .i64 0,.int .u64 0],cty:=[none,none,none,some ((.pair .str (.pair (.int .u16) (.pair (.int .u16) (.pair (.int .u32) .str))))),none,none,none],ty:=some ((.pair (.pair .str (.pair (.int .u16) (.int .u16))) (.pair (.list (.pair .str (.pair (.int .u16) (.pair (.int .u16) (.pair (.int .u32) .str))))) (.pair (.int .i64) (.pair (.int .i64) (.int .u64)))))) }),
 (68,{ desc:=.func,size:=1,bytes:=8,zero:=[.nf],cty:=[none],ty:=none }),
 (81,{ desc:=.slice 9,size:=1,bytes:=24,zero:=[.ns],cty:=[some (.str)],ty:=some ((.list .str)) }),
 (92,{ desc:=.int .i64,size:=1,bytes:=8,zero:=[.int .i64 0],cty:=[none],ty:=some (.int .i64) }),
 (95,{ desc:=.map 52 98,size:=1,bytes:=8,zero:=[.nm],cty:=[none],ty:=none }),
 (96,{ desc:=.array 3 23,size:=3,bytes:=72,zero:=[.ns,.ns,.ns],cty:=[some ((.pair .str (.pair (.int .u16) (.pair (.int .u16) (.pair (.int .u32) .str))))),some ((.pair .str (.pair (.int .u16) (.pair (.int .u16) (.pair (.int .u32) .str))))),some ((.pair .str (.pair (.int .u16) (.pair (.int .u16) (.pair (.int .u32) .str)))))],ty:=some ((.pair (.list (.pair .str (.pair (.int .u16) (.pair (.int .u16) (.pair (.int .u32) .str))))) (.pair (.list (.pair .str (.pair (.int .u16) (.pair (.int .u16) (.pair (.int .u32) .str))))) (.list (.pair .str (.pair (.int .u16) (.pair (.int .u16) (.pair (.int .u32) .str)))))))) }),
 (98,{ desc:=.ptr 100,size:=1,bytes:=8,zero:=[.np],cty:=[none],ty:=none }),
 (100,{ desc:=.struct [(0,3),(1,23)],size:=2,bytes:=32,zero:=[.int .i64 0,.ns],cty:=[none,some ((.pair .str (.pair (.int .u16) (.pair (.int .u16) (.pair (.int .u32) .str)))))],ty:=some ((.pair (.int .i64) (.list (.pair .str (.pair (.int .u16) (.pair (.int .u16) (.pair (.int .u32) .str))))))) }),
 (114,{ desc:=.slice 5,size:=1,bytes:=24,zero:=[.ns],cty:=[some (.int .u8)],ty:=some ((.list (.int .u8))) }),
 (120,{ desc:=.func,size:=1,bytes:=8,zero:=[.nf],cty:=[none],ty:=none }),
 (121,{ desc:=.func,size:=1,bytes:=8,zero:=[.nf],cty:=[none],ty:=none }),
 (126,{ desc:=.array 2 3,size:=2,bytes:=16,zero:=[.int .i64 0,.int .i64 0],cty:=[none,none],ty:=some ((.pair (.int .i64) (.int .i64))) }),
 (127,{ desc:=.array 3 126,size:=6,bytes:=48,zero:=[.int .i64 0,.int .i64 0,.int .i64 0,.int .i64 0,.int .i64 0,.int .i64 0],cty:=[none,none,none,none,none,none],ty:=some ((.pair (.pair (.int .i64) (.int .i64)) (.pair (.pair (.int .i64) (.int .i64)) (.pair (.int .i64) (.int .i64))))) }),
 (131,{ desc:=.slice 3,size:=1,bytes:=24,zero:=[.ns],cty:=[some (.int .i64)],ty:=some ((.list (.int .i64))) }),
 (133,{ desc:=.slice 54,size:=1,bytes:=24,zero:=[.ns],cty:=[some (.int .u32)],ty:=some ((.list (.int .u32))) }),
 (139,{ desc:=.map 42 131,size:=1,bytes:=8,zero:=[.nm],cty:=[none],ty:=none })]
def T0:Tab:={ row:=U1e rows }
theorem tab00:U2 Try.prog { row:=U1e rows }:=Q4j (rs:=rows) (by kernel_rfl)
theorem tab0:U2 Try.prog T0:=tab00
theorem Q1:Try.prog.follows .mixedOrders=true:=by kernel_rfl
def h13:Hint:={ keep:=fun b=>match b with | 0=>[0,3,5,6,7] | 2=>[0,3,5,6,7,8,9] | 4=>[3,5,11,12,13,14] | _=>[],keepX:=fun b=>match b with | 0=>[0,3,5,6] | 2=>[0,3,5,6,7,8] | 4=>[4,5,11,12] | _=>[] }
noncomputable def c13:Code:=match Try.f13.body with | some c=>c | none=>.skip
def h15:Hint:={ keep:=fun b=>match b with | 0=>[0,3] | 2=>[0,3,4] | _=>[],keepX:=fun b=>match b with | 0=>[0,2] | 2=>[0,2,3] | _=>[] }
noncomputable def c15:Code:=match Try.f15.body with | some c=>c | none=>.skip
def h17:Hint:={ keep:=fun b=>match b with | 0=>[1,2,6,7,8] | _=>[],keepX:=fun b=>match b with | 0=>[6,7] | _=>[] }
noncomputable def c17:Code:=match Try.f17.body with | some c=>c | none=>.skip
def h19:Hint:={ keep:=fun _=>[],keepX:=fun _=>[] }
noncomputable def c19:Code:=match Try.f19.body with | some c=>c | none=>.skip
def h22:Hint:={ keep:=fun b=>match b with | 0=>[2,5,12,13,14] | 2=>[2,5,12,13,14,30,31,32] | _=>[],keepX:=fun b=>match b with | 0=>[5] | 2=>[2,5,12,13,14] | _=>[] }
noncomputable def c22:Code:=match Try.f22.body with | some c=>c | none=>.skip
def h24:Hint:={ keep:=fun b=>match b with | 0=>[0,1,5,8,9,10] | _=>[],keepX:=fun b=>match b with | 0=>[5] | _=>[] }
noncomputable def c24:Code:=match Try.f24.body with | some c=>c | none=>.skip
def h26:Hint:={ keep:=fun b=>match b with | 0=>[1,3,4] | 2=>[1,5] | _=>[],keepX:=fun b=>match b with | 0=>[1,2] | 2=>[2] | _=>[] }
noncomputable def c26:Code:=match Try.f26.body with | some c=>c | none=>.skip
def h28:Hint:={ keep:=fun _=>[],keepX:=fun _=>[] }
noncomputable def c28:Code:=match Try.f28.body with | some c=>c | none=>.skip
def h31:Hint:={ keep:=fun b=>match b with | 0=>[0,1,5] | _=>[],keepX:=fun b=>match b with | 0=>[4] | _=>[] }
noncomputable def c31:Code:=match Try.f31.body with | some c=>c | none=>.skip
def h32:Hint:={ keep:=fun _=>[],keepX:=fun _=>[] }
noncomputable def c32:Code:=match Try.f32.body with | some c=>c | none=>.skip
def h33:Hint:={ keep:=fun _=>[],keepX:=fun _=>[] }
noncomputable def c33:Code:=match Try.f33.body with | some c=>c | none=>.skip
def h34:Hint:={ keep:=fun b=>match b with | 0=>[1,2,3,4,9,10,28,29] | 2=>[1,2,3,4,9,10,11,28,29,33,34,35] | 4=>[2,3,4,9,16,66,67,68] | _=>[],keepX:=fun b=>match b with | 0=>[2,3,4,9,10] | 2=>[1,2,3,4,9,10,28,29] | 4=>[16] | _=>[] }
noncomputable def c34:Code:=match Try.f34.body with | some c=>c | none=>.skip
def h35:Hint:={ keep:=fun _=>[],keepX:=fun _=>[] }
noncomputable def c35:Code:=match Try.f35.body with | some c=>c | none=>.skip
def h36:Hint:={ keep:=fun _=>[],keepX:=fun _=>[] }
noncomputable def c36:Code:=match Try.f36.body with | some c=>c | none=>.skip
def h39:Hint:={ keep:=fun _=>[],keepX:=fun _=>[] }
noncomputable def c39:Code:=match Try.f39.body with | some c=>c | none=>.skip
def h41:Hint:={ keep:=fun _=>[],keepX:=fun _=>[] }
noncomputable def c41:Code:=match Try.f41.body with | some c=>c | none=>.skip
def h42:Hint:={ keep:=fun _=>[],keepX:=fun _=>[] }
noncomputable def c42:Code:=match Try.f42.body with | some c=>c | none=>.skip
def h43:Hint:={ keep:=fun _=>[],keepX:=fun _=>[] }
noncomputable def c43:Code:=match Try.f43.body with | some c=>c | none=>.skip
def h49:Hint:={ keep:=fun b=>match b with | 0=>[1,2,5,9,10,11] | _=>[],keepX:=fun b=>match b with | 0=>[5] | _=>[] }
noncomputable def c49:Code:=match Try.f49.body with | some c=>c | none=>.skip
def h50:Hint:={ keep:=fun _=>[],keepX:=fun _=>[] }
noncomputable def c50:Code:=match Try.f50.body with | some c=>c | none=>.skip
def h51:Hint:={ keep:=fun _=>[],keepX:=fun _=>[] }
noncomputable def c51:Code:=match Try.f51.body with | some c=>c | none=>.skip
def h52:Hint:={ keep:=fun _=>[],keepX:=fun _=>[] }
noncomputable def c52:Code:=match Try.f52.body with | some c=>c | none=>.skip
def h55:Hint:={ keep:=fun _=>[],keepX:=fun _=>[] }
noncomputable def c55:Code:=match Try.f55.body with | some c=>c | none=>.skip
def h56:Hint:={ keep:=fun _=>[],keepX:=fun _=>[] }
noncomputable def c56:Code:=match Try.f56.body with | some c=>c | none=>.skip
def h59:Hint:={ keep:=fun _=>[],keepX:=fun _=>[] }
noncomputable def c59:Code:=match Try.f59.body with | some c=>c | none=>.skip
def h60:Hint:={ keep:=fun _=>[],keepX:=fun _=>[] }
noncomputable def c60:Code:=match Try.f60.body with | some c=>c | none=>.skip
def h61:Hint:={ keep:=fun b=>match b with | 0=>[0,1,9,10,11] | _=>[],keepX:=fun b=>match b with | 0=>[0] | _=>[] }
noncomputable def c61:Code:=match Try.f61.body with | some c=>c | none=>.skip
def h62:Hint:={ keep:=fun b=>match b with | 0=>[0,1,9,10] | _=>[],keepX:=fun b=>match b with | 0=>[0] | _=>[] }
noncomputable def c62:Code:=match Try.f62.body with | some c=>c | none=>.skip
def h63:Hint:={ keep:=fun _=>[],keepX:=fun _=>[] }
noncomputable def c63:Code:=match Try.f63.body with | some c=>c | none=>.skip
def h64:Hint:={ keep:=fun _=>[],keepX:=fun _=>[] }
noncomputable def c64:Code:=match Try.f64.body with | some c=>c | none=>.skip
def h65:Hint:={ keep:=fun _=>[],keepX:=fun _=>[] }
noncomputable def c65:Code:=match Try.f65.body with | some c=>c | none=>.skip
def h66:Hint:={ keep:=fun _=>[],keepX:=fun _=>[] }
noncomputable def c66:Code:=match Try.f66.body with | some c=>c | none=>.skip
def h69:Hint:={ keep:=fun _=>[],keepX:=fun _=>[] }
noncomputable def c69:Code:=match Try.f69.body with | some c=>c | none=>.skip
def h70:Hint:={ keep:=fun _=>[],keepX:=fun _=>[] }
noncomputable def c70:Code:=match Try.f70.body with | some c=>c | none=>.skip
def h71:Hint:={ keep:=fun _=>[],keepX:=fun _=>[] }
noncomputable def c71:Code:=match Try.f71.body with | some c=>c | none=>.skip
def h72:Hint:={ keep:=fun _=>[],keepX:=fun _=>[] }
noncomputable def c72:Code:=match Try.f72.body with | some c=>c | none=>.skip
def h73:Hint:={ keep:=fun b=>match b with | 0=>[3,8,9,10] | _=>[],keepX:=fun b=>match b with | 0=>[3] | _=>[] }
noncomputable def c73:Code:=match Try.f73.body with | some c=>c | none=>.skip
def h74:Hint:={ keep:=fun _=>[],keepX:=fun _=>[] }
noncomputable def c74:Code:=match Try.f74.body with | some c=>c | none=>.skip
def h77:Hint:={ keep:=fun b=>match b with | 0=>[1,6,11,12,13] | _=>[],keepX:=fun b=>match b with | 0=>[1,4,5,6] | _=>[] }
noncomputable def c77:Code:=match Try.f77.body with | some c=>c | none=>.skip
def h78:Hint:={ keep:=fun b=>match b with | 0=>[0,3,7,8] | _=>[],keepX:=fun b=>match b with | 0=>[4] | _=>[] }
noncomputable def c78:Code:=match Try.f78.body with | some c=>c | none=>.skip
def h80:Hint:={ keep:=fun b=>match b with | 0=>[0,1,5,6] | _=>[],keepX:=fun b=>match b with | 0=>[0,5] | _=>[] }
noncomputable def c80:Code:=match Try.f80.body with | some c=>c | none=>.skip
noncomputable def c81:Code:=match Try.f81.body with | some c=>c | none=>.skip
def h82:Hint:={ keep:=fun _=>[],keepX:=fun _=>[] }
noncomputable def c82:Code:=match Try.f82.body with | some c=>c | none=>.skip
def h84:Hint:={ keep:=fun _=>[],keepX:=fun _=>[] }
noncomputable def c84:Code:=match Try.f84.body with | some c=>c | none=>.skip
def h85:Hint:={ keep:=fun _=>[],keepX:=fun _=>[] }
noncomputable def c85:Code:=match Try.f85.body with | some c=>c | none=>.skip
def h86:Hint:={ keep:=fun _=>[],keepX:=fun _=>[] }
noncomputable def c86:Code:=match Try.f86.body with | some c=>c | none=>.skip
def h87:Hint:={ keep:=fun b=>match b with | 0=>[3,6,7,8] | _=>[],keepX:=fun b=>match b with | 0=>[3] | _=>[] }
noncomputable def c87:Code:=match Try.f87.body with | some c=>c | none=>.skip
def h88:Hint:={ keep:=fun b=>match b with | 0=>[0,1,7,8] | _=>[],keepX:=fun b=>match b with | 0=>[4] | _=>[] }
noncomputable def c88:Code:=match Try.f88.body with | some c=>c | none=>.skip
def h89:Hint:={ keep:=fun _=>[],keepX:=fun _=>[] }
noncomputable def c89:Code:=match Try.f89.body with | some c=>c | none=>.skip
def h91:Hint:={ keep:=fun _=>[],keepX:=fun _=>[] }
noncomputable def c91:Code:=match Try.f91.body with | some c=>c | none=>.skip
def h92:Hint:={ keep:=fun _=>[],keepX:=fun _=>[] }
noncomputable def c92:Code:=match Try.f92.body with | some c=>c | none=>.skip
def h94:Hint:={ keep:=fun _=>[],keepX:=fun _=>[] }
noncomputable def c94:Code:=match Try.f94.body with | some c=>c | none=>.skip
def h95:Hint:={ keep:=fun b=>match b with | 0=>[0,3] | _=>[],keepX:=fun b=>match b with | 0=>[0,3] | _=>[] }
noncomputable def c95:Code:=match Try.f95.body with | some c=>c | none=>.skip
def h96:Hint:={ keep:=fun b=>match b with | 0=>[0,3] | _=>[],keepX:=fun b=>match b with | 0=>[0,3] | _=>[] }
noncomputable def c96:Code:=match Try.f96.body with | some c=>c | none=>.skip
def h100:Hint:={ keep:=fun _=>[],keepX:=fun _=>[] }
noncomputable def c100:Code:=match Try.f100.body with | some c=>c | none=>.skip
def h102:Hint:={ keep:=fun _=>[],keepX:=fun _=>[] }
noncomputable def c102:Code:=match Try.f102.body with | some c=>c | none=>.skip
def h103:Hint:={ keep:=fun b=>match b with | 0=>[0,3,4] | _=>[],keepX:=fun b=>match b with | 0=>[3] | _=>[] }
noncomputable def c103:Code:=match Try.f103.body with | some c=>c | none=>.skip
theorem J41 {α:Type} {F:St→Option (St⊕(Ex×St))} (mk:α→St) (I:α→Prop) (m:α→Nat) (r:Ex×St)
    (step:∀ a,I a→F (mk a)=some (.inr r)∨∃ a',F (mk a)=some (.inl (mk a'))∧I a'∧m a' < m a):∀ a,I a→X2 F (mk a)=some r:=by
 have key:∀ (n:Nat) (a:α),m a=n→I a→X2 F (mk a)=some r:=by
  intro n
  induction n using Nat.strongRecOn with
  | _ n ih=>
    intro a hn ha
    rcases step a ha with h | ⟨a',h,ha',hlt⟩
    ·exact X2t h
    ·rw[Z2t h]
     exact ih (m a') (by omega) a' rfl ha'
 exact fun a ha=>key _ a rfl ha
theorem J0 {p:Prop} [Decidable p] (h:p):decide p=true:=decide_eq_true h
theorem X0 {p:Prop} [Decidable p] (h:¬ p):decide p=false:=decide_eq_false h
theorem Zh {n b:Nat} (h:n * b≤140737488355328) (h':n≤140737488355328):fits n b=true:=by
 unfold fits Q1o
 rw[J0 h,J0 h']
 rfl
theorem J3n {α:Type} (l:List α) (k:Nat) (d:α) (h:k < l.length):l.drop k=l.getD k d::l.drop (k+1):=by
 rw[List.drop_eq_getElem_cons h,List.getD_eq_getElem?_getD,List.getElem?_eq_getElem h]
 rfl
theorem Q2r {P : Program} (hmo : P.follows .mixedOrders = true) {T : Tab} (hT : U2 P T) {orc : Orc} (hO : Qa P orc) {H : Hint} {d : Nat} {S : Z0a} {f : Nat} {fn : Func} {c : Code} (hf : P.funcs[f]? = some fn) (hn : (fn.name == "runtime.NumGoroutine") = false) (hb : fn.body = some c)
    {args:List AV} {objs:List LObj} {res:List AV} {objs':List LObj} (hl:∀ x∈V7 c 1000000,V8 T orc H objs.length d S x) (hd:d < 8) (hok:(Qk fn.ntmps c&&Nat.ble args.length fn.ntmps)=true)
    (h:evC T orc (lpOf H objs.length S) c 1000000 (Z1 args objs fn.ntmps) (J1 T H.own objs.length fn)=some (res,objs')):SemF P f args objs res objs':=
 V2g hmo hT hO hf (by simpa using hn) (J3z hb hl hd hok h)
theorem Z2 {T:Tab} {orc:Orc} {H:Hint} {n0 d:Nat} {S:Z0a} {c:Code} (h:(V7 c 1000000).isEmpty=true):∀ x∈V7 c 1000000,V8 T orc H n0 d S x:=by
 rw[List.isEmpty_iff.1 h]
 simp
theorem V3c {T:Tab} {orc:Orc} {H:Hint} {n0 d:Nat} {L:LoopSpec} {body:Code} (h:L.Ok T orc H n0 d body):V8 T orc H n0 d (lsOf [L]) (L.bid,body):=
 X2k fun L' hL' _=>by rw[List.mem_singleton.1 hL'];exact h
theorem X1l {A R:Type} (all:List Oper) (o:Oper) (st:St) (run skip:St→Option A) (K:A→Option R):(gate all o st run skip).bind K=gate all o st (fun st=>(run st).bind K) (fun st=>(skip st).bind K):=by
 unfold gate
 cases hg:o.guard with
 | none=>rfl
 | some g=>
   obtain⟨j,want⟩:=g
   simp only
   cases hd:Z0f all j with
   | none=>rfl
   | some t=>
     simp only
     split
     ·rename_i b hb
      cases want<;>cases b<;>rfl
     ·rfl
     ·rfl
theorem U3v {T:Tab} {orc:Orc} {o:Op} {ty:Nat} {st:St} {A R:Type} (G:Eff→Option A) (K:A→Option R):(evOp T orc o ty st G).bind K=evOp T orc o ty st fun f=>(G f).bind K:=by
 rw[V0d,V0d (K:=fun f=>(G f).bind K)]
 cases evOp T orc o ty st some<;>rfl
theorem J19 {T:Tab} {orc:Orc} {all:List Oper} {A R:Type} (G:St→Option A) (K:A→Option R):∀ (os:List Oper) (st:St),(J09 T orc all os st G).bind K=J09 T orc all os st fun st=>(G st).bind K
 | [],st=>rfl
 | o::os,st=>by
   simp only[J09]
   rw[X1l]
   congr 1
   ·funext st
    rw[U3v]
    congr 1
    funext f
    rw[V9,V9]
    exact J19 G K os _
   ·funext st
    exact J19 G K os _
theorem V3m {T:Tab} {orc:Orc} {all:List Oper} {n0:Nat} {o:Oper} {st:St} {A R:Type} (G:Eff→Option A) (K:A→Option R):(Xp T orc all n0 o st G).bind K=Xp T orc all n0 o st fun f=>(G f).bind K:=by
 rw[V03 G,V03 (fun f=>(G f).bind K)]
 cases Xp T orc all n0 o st some<;>rfl
theorem V3a {T:Tab} {all:List Oper} {st:St} {A R:Type} (G:Nat→St→Option A) (K:A→Option R):(resE T all st G).bind K=resE T all st fun n st=>(G n st).bind K:=by
 unfold resE
 split
 ·rfl
 ·simp only[X9]
theorem J0t {T:Tab} {orc:Orc} {all:List Oper} {bs:List Nat} {n0:Nat} {A R:Type} (G:St→Option A) (K:A→Option R):∀ (os:List Oper) (cs:List Cls) (st:St),(Uh T orc all bs n0 os cs st G).bind K=Uh T orc all bs n0 os cs st fun st=>(G st).bind K
 | [],cs,st=>by
   simp only[Uh]
   cases J05 bs cs.reverse<;>rfl
 | o::os,cs,st=>by
   simp only[Uh,U0u,X01,Q19]
   rw[X1l]
   congr 1
   ·funext st
    rw[V3m]
    congr 1
    funext f
    exact J0t G K os _ _
   ·funext st
    exact J0t G K os _ _
theorem Q2s {α A R:Type} (G:α→Option A) (K:A→Option R) (t:Tr α):(t.run G).bind K=t.run fun a=>(G a).bind K:=by
 rw[Tr.run_get,Tr.run_get]
 cases t.get<;>rfl
theorem Uw {T:Tab} {orc:Orc} {lp:Lp} {A R:Type} (K:A→Option R):∀ (c:Code) (bid:Nat) (st:St) (G:Ex→St→Option A),(evC T orc lp c bid st G).bind K=evC T orc lp c bid st fun ex st=>(G ex st).bind K
 | .skip,_,_,_=>rfl
 | .label _,_,_,_=>rfl
 | .exit _,_,_,_=>rfl
 | .ret,_,_,_=>rfl
 | .goto _,_,_,_=>rfl
 | .scope ..,_,_,_=>rfl
 | .rangeFunc ..,_,_,_=>rfl
 | .refuse ..,_,_,_=>rfl
 | .region id ops draw,bid,st,G=>by
   simp only[evC]
   cases draw with
   | true=>
     rw[if_pos rfl,if_pos rfl]
     cases U07 ops (Region.before ops).toList with
     | true=>
       simp only[cond_true]
       refine(V3a _ _).trans ?_
       congr 1
       funext n st
       refine(J0t _ _ _ _ _).trans ?_
       congr 1
       funext st
       rw[V9,V9]
     | false=>rfl
   | false=>
     rw[if_neg (by simp),if_neg (by simp)]
     refine(J19 _ _ _ _).trans ?_
     congr 1
     funext st
     rw[V9,V9]
 | .seq a b,bid,st,G=>by
   simp only[evC]
   rw[Uw K a]
   congr 1
   funext ex st'
   cases ex with
   | normal=>exact Uw K b bid st' G
   | exit id=>rfl
   | ret=>rfl
 | .cond c a b,bid,st,G=>by
   simp only[evC,Z2o]
   split
   ·rename_i t _
    cases t with
    | true=>exact Uw K a bid _ G
    | false=>exact Uw K b bid _ G
   ·rfl
 | .block id c,bid,st,G=>by
   simp only[evC]
   rw[Uw K c]
   congr 1
   funext ex st'
   cases ex with
   | normal=>rfl
   | ret=>rfl
   | exit i=>
     simp only[V1x]
     cases i==id<;>rfl
 | .loop c,bid,st,G=>by
   simp only[evC]
   exact Q2s _ _ _
def V49 (T:Tab) (orc:Orc) (lp:Lp) (fn:Func) (own:Bool) (n0:Nat) (r0 rest:Code) (d1 d2:Nat) (st0:St):Option (Res×Res×Bool):=
 evC T orc lp r0 1000000 st0 fun ex st=>match ex with
  | .normal=>match st.tm 0 with
    | .list _ xs=>evC T orc lp rest 1000000 ((st.put d1 (st.tm 0)).put d2 (.bool true)) fun e1 s1=>match J1 T own n0 fn e1 s1 with
      | some x=>evC T orc lp rest 1000000 ((st.put d1 (st.tm 0)).put d2 (.bool false)) fun e2 s2=>match J1 T own n0 fn e2 s2 with
        | some y=>some (x,y,xs.isEmpty)
        | none=>none
      | none=>none
    | _=>none
  | _=>none
theorem J3t {P:Program} {t:Nat} {e:TypeId} (ht:P.underlying t=some (.slice e)) (A:Option Addr) (n c:Nat) (X Y:Operand) (w:World) :
    ((do eqGuard .eql t X Y (.slice A n c) (.slice none 0 0);binOp .eql t (.slice A n c) (.slice none 0 0)):Sem Value).run P w=.ok (.bool A.isNone) w:=by
 have h:∀ d,(Op.equalIn (d+1) t (.slice A n c) (.slice none 0 0)).run P w=.ok A.isNone w:=fun d=>by cases A<;>simp[Op.equalIn,run_underlying ht]
 have h2:(Op.equal t (.slice A n c) (.slice none 0 0)).run P w=.ok A.isNone w:=h 9999
 simp[eqGuard,binOp,h2]
theorem J1v {P:Program} {T:Tab} (hT:U2 P T) {c:Cx} {st:St} {a:Act} {w:World} {μ:Nat→Pl} {F:Nat→Prop} (hi:Inv c st a w μ F) {own:Bool} {fn:Func} {ex:Ex} {res:List AV} {objs':List LObj} (hfp:c.fp=X0a c.μ0)
    (hk:J1 T own c.n0 fn ex st=some (res,objs')):bodyPost P fn (fun e w'=>∃ v,e=.returned v∧Post c.w0 c.μ0 c.F0 c.n0 res objs' v w') (Z1r ex) a w:=by
 have fin:∀ vs',Xl T st fn.results.toList=some vs'→Z1f T own c.n0 fn.resultTypes.toList st vs'=(res,objs')→
     a.defers=[]∧∃ v,(results fn a.tmps).run P w=.ok v w∧∃ v',(Ending.returned v:Ending)=.returned v'∧Post c.w0 c.μ0 c.F0 c.n0 res objs' v' w:=fun vs' h1 h2=>by
  obtain⟨us,h3,h4⟩:=Vt hT hi _ _ h1
  exact⟨hi.df,_,U0w h3,_,rfl,J0p (P:=P) hi h4 hfp h2⟩
 cases ex with
 | exit id=>simp[J1] at hk
 | normal=>
   simp only[J1] at hk
   split at hk
   ·rename_i vs' hvs
    exact fin vs' hvs (by simpa using hk)
   ·cases hk
 | ret=>
   simp only[J1] at hk
   split at hk
   ·rename_i vs' hvs
    exact fin vs' hvs (by simpa using hk)
   ·cases hk
theorem X3s {P : Program} (hmo : P.follows .mixedOrders = true) {T : Tab} (hT : U2 P T) {orc : Orc} (hO : Qa P orc) {own : Bool} {f : Nat} {fn : Func} (hf : P.funcs[f]? = some fn) (hn : (fn.name == "runtime.NumGoroutine") = false) {r0 cx cy : Code} {id d1 d2 : Nat} {ops : Array Oper} {o1 o2 : Oper} {t yt : Nat} {e : TypeId}
    (hb:fn.body=some (.seq r0 (.seq (.seq (.region id ops false) cx) cy))) (hops:ops=#[o1,o2]) (h1:o1.op=.move (.tmp 0)) (h1d:o1.dst=some d1) (h1g:o1.guard=none) (h2:o2.op=.binOp .eql t (.tmp d1) (.const (.slice none 0 0)) yt) (h2d:o2.dst=some d2) (h2g:o2.guard=none)
    (ht:P.underlying t=some (.slice e)) {args:List AV} (hok:(Qk fn.ntmps (.seq r0 (.seq (.seq (.region id ops false) cx) cy))&&Nat.ble args.length fn.ntmps)=true)
    {res:List AV} {objs':List LObj} {x y:Res} {em:Bool} (h:V49 T orc (fun _ _ _=>.no) fn own 0 r0 (.seq cx cy) d1 d2 (Z1 args [] fn.ntmps)=some (x,y,em)) (hy:y=(res,objs')) (hx:em=true→x=(res,objs')):SemF P f args [] res objs':=by
 refine⟨⟨fn,hf,by simpa using hn,by rw[hb];rfl⟩,fun w μ F vs hh hv=>?_⟩
 simp only[Bool.and_eq_true,Nat.ble_eq] at hok
 obtain⟨hok,hle⟩:=hok
 have hi:=Q1g hh hv hle
 simp only[Qk,Bool.and_eq_true] at hok
 obtain⟨k0,⟨k1,k2⟩,k3⟩:=hok
 have hd1:d1 < fn.ntmps:=by
  rw[hops] at k1
  simp[h1d,h2d] at k1
  exact k1.1
 have hd2:d2 < fn.ntmps:=by
  rw[hops] at k1
  simp[h1d,h2d] at k1
  exact k1.2
 have hlpok:LpOk P ⟨w,X0a μ,F,μ,0,fn.ntmps⟩ (fun _ _ _=>.no):=fun bid body st ex st' h=>by simp[Tr.get] at h
 refine calls_of_wp hf hb (wp_seq (Uc hmo hT hO hlpok r0 1000000 _ _ _ _ w μ F k0 h hi ?_))
 intro ex st a w' μ' F' hi' hk
 cases ex with
 | exit id=>cases hk
 | ret=>cases hk
 | normal=>
   simp only at hk
   split at hk
   ·rename_i τ xs hxs
    have hv0:=hi'.tm 0
    rw[hxs] at hv0
    simp only[VRel] at hv0
    obtain⟨A,cap,hval,_,hAn,_⟩:=Jd.1 hv0
    have hk1:((evC T orc (fun _ _ _=>.no) (.seq cx cy) 1000000 ((st.put d1 (st.tm 0)).put d2 (.bool true)) fun e1 s1=>J1 T own 0 fn e1 s1).bind fun x=>(evC T orc (fun _ _ _=>.no) (.seq cx cy) 1000000 ((st.put d1 (st.tm 0)).put d2 (.bool false)) fun e2 s2=>(J1 T own 0 fn e2 s2)).bind fun y=>some (x,y,xs.isEmpty))=some (x,y,em):=by
     rw[Uw,←hk]
     congr 1
     funext e1 s1
     cases J1 T own 0 fn e1 s1 with
     | none=>rfl
     | some x=>
       simp only[Option.bind_some]
       rw[Uw]
       congr 1
       funext e2 s2
       cases J1 T own 0 fn e2 s2<;>rfl
    obtain⟨x',q1,q2⟩:=Option.bind_eq_some_iff.1 hk1
    obtain⟨y',q3,q4⟩:=Option.bind_eq_some_iff.1 q2
    simp only[Option.some.injEq,Prod.mk.injEq] at q4
    obtain⟨rfl,rfl,rfl⟩:=q4
    have hboth:evC T orc (fun _ _ _=>.no) (.seq cx cy) 1000000 ((st.put d1 (st.tm 0)).put d2 (.bool A.isNone)) (fun e2 s2=>J1 T own 0 fn e2 s2)=some (res,objs'):=by
     cases hA:A.isNone with
     | true=>
       have:xs=[]:=hAn (by simpa using hA)
       rw[q1,hx (by rw[this];rfl)]
     | false=>rw[q3,hy]
    refine wp_seq (wp_seq (wp_region ?_))
    subst hops
    simp only[List.size_toArray,List.length_cons,List.length_nil,List.range_succ,List.range_zero,List.nil_append,List.cons_append,wpOps]
    simp only[Region.wanted,h1g,h2g,List.getElem?_toArray,List.getElem?_cons_zero,List.getElem?_cons_succ,if_true]
    have p1:=J0e hi' (d:=some d1) (x:=st.tm 0) (v:=a.tmps.getD 0 undef) (fun t ht=>by cases ht;exact hd1) (hi'.tm 0)
    refine .inl ?_
    have hex1:(execOp a.eval o1).run P w'=.ok (.value (a.tmps.getD 0 undef)) w':=by simp[execOp,h1,Act.eval]
    show o1.upon P a _ _ ((execOp a.eval o1).run P w')
    rw[hex1,Oper.upon_value,h1d]
    refine .inl ?_
    have hev:(a.put (some d1) (a.tmps.getD 0 undef)).eval (.tmp d1)=.slice A xs.length cap:=by
     have hsz:d1 < a.tmps.size:=by rw[hi'.sz];exact hd1
     simp only[Act.eval,Act.put]
     rw[Array.getD_eq_getD_getElem?,Array.getElem?_setIfInBounds_self,if_pos hsz]
     exact hval
    have hrun:=J3t (P:=P) ht A xs.length cap (.tmp d1) (.const (.slice none 0 0)) w'
    have hex:(execOp (a.put (some d1) (a.tmps.getD 0 undef)).eval o2).run P w'=.ok (.value (.bool A.isNone)) w':=by
     have he2:(a.put (some d1) (a.tmps.getD 0 undef)).eval (.const (.slice none 0 0))=.slice none 0 0:=rfl
     simp only[execOp,h2,hev,he2]
     rw[Sem.run_bind,hrun]
     simp
    show o2.upon P _ _ _ ((execOp (a.put (some d1) (a.tmps.getD 0 undef)).eval o2).run P w')
    rw[hex,Oper.upon_value,h2d]
    have p2:=J0e p1 (d:=some d2) (x:=.bool A.isNone) (v:=.bool A.isNone) (fun t ht=>by cases ht;exact hd2) (by simp[VRel])
    simp only[evC] at hboth
    refine Uc hmo hT hO hlpok cx 1000000 _ _ _ _ w' μ' F' k2 hboth p2 ?_
    intro ex' st'' a'' w'' μ'' F'' hi'' hk''
    cases ex' with
    | normal=>
      refine Uc hmo hT hO hlpok cy 1000000 _ _ _ _ w'' μ'' F'' k3 hk'' hi'' ?_
      intro ex' st'' a'' w'' μ'' F'' hi'' hk''
      exact J1v hT hi'' rfl hk''
    | exit id=>exact J1v hT hi'' rfl (show J1 T own 0 fn (.exit id) st''=some (res,objs') from hk'')
    | ret=>exact J1v hT hi'' rfl (show J1 T own 0 fn .ret st''=some (res,objs') from hk'')
   ·cases hk
theorem Z0 {α:Type} {p:α→Prop}:∀ x∈([]:List α),p x:=fun x h=>by cases h
theorem all_cons {α:Type} {p:α→Prop} {a:α} {l:List α} (h:p a) (hl:∀ x∈l,p x):∀ x∈a::l,p x:=fun x hx=>(List.mem_cons.1 hx).elim (fun e=>e▸h) (hl x)
structure OSpec where
 f:Nat
 sh:List Sh
 so:List ShO
 F:ShT sh→ShOT so→Tr Res
def OSpec.run (s:OSpec) (args:List AV) (objs:List LObj):Tr Res:=
 match X7 s.sh args with
 | some x=>(match Ze s.so objs with | some y=>s.F x y | none=>.no)
 | none=>.no
def OSpec.fits (s:OSpec) (args:List AV) (objs:List LObj):Bool:=(X7 s.sh args).isSome&&(Ze s.so objs).isSome
def orcO:List OSpec→Orc
 | [],_,_,_=>.no
 | s::ss,f,args,objs=>bif Nat.beq f s.f&&s.fits args objs then s.run args objs else orcO ss f args objs
def OSpec.Ok (P:Program) (s:OSpec):Prop:=∀ x y r,(s.F x y).get=some r→SemF P s.f (pack s.sh x) (Xk s.so y) r.1 r.2
theorem X1d {P:Program}:∀ (ss:List OSpec),(∀ s∈ss,s.Ok P)→Qa P (orcO ss)
 | [],_,f,args,objs,res,objs',h=>by simp[orcO,Tr.get] at h
 | s::ss,hs,f,args,objs,res,objs',h=>by
   simp only[orcO] at h
   cases hc:(Nat.beq f s.f&&s.fits args objs) with
   | false=>
     rw[hc] at h
     exact X1d ss (fun s hs'=>hs s (by simp[hs'])) f args objs res objs' h
   | true=>
     rw[hc] at h
     simp only[cond_true] at h
     simp only[Bool.and_eq_true] at hc
     have:=Nat.eq_of_beq_eq_true hc.1
     subst this
     unfold OSpec.run at h
     split at h
     ·rename_i x hx
      split at h
      ·rename_i y hy
       rw[X8 _ _ _ hx,Vj _ _ _ hy]
       exact hs s (by simp) x y _ h
      ·cases h
     ·cases h
def orcB (fs:List FSpec) (os:List OSpec):Orc:=fun f args objs=>bif fs.any (fun s=>Nat.beq f s.f) then V1o fs f args objs else orcO os f args objs
theorem V0 {P:Program} {fs:List FSpec} {os:List OSpec} (h1:∀ s∈fs,s.Ok P) (h2:∀ s∈os,s.Ok P):Qa P (orcB fs os):=fun f args objs res objs' h=>by
 unfold orcB at h
 cases hs:fs.any (fun s=>Nat.beq f s.f) with
 | true=>rw[hs] at h;exact U09 fs h1 _ _ _ _ _ h
 | false=>rw[hs] at h;exact X1d os h2 _ _ _ _ _ h
theorem Xf:∀ (s:List Sh) (x:ShT s),(pack s x).length=s.length
 | [],_=>rfl
 | .d t a::r,x=>by simp[pack,Xf r x.2]
 | .row j::r,x=>by simp[pack,Xf r x]
 | .ptr j o::r,x=>by simp[pack,Xf r x]
 | .np::r,x=>by simp[pack,Xf r x]
 | .ns::r,x=>by simp[pack,Xf r x]
 | .undef::r,x=>by simp[pack,Xf r x]
 | .mp j::r,x=>by simp[pack,Xf r x]
 | .psl j n''::r,x=>by simp[pack,Xf r x]
 | .dead::r,x=>by simp[pack,Xf r x]
 | .fnp g ps::r,x=>by simp[pack,Xf r x]
 | .rowP j::r,x=>by simp[pack,Xf r x.2]
theorem Vu:∀ (s:List ShO) (x:ShOT s),(Xk s x).length=s.length
 | [],_=>rfl
 | .row t::r,x=>by simp[Xk,Vu r x.2]
 | .box cs::r,x=>by simp[Xk,Vu r x.2]
 | .map kt vt::r,x=>by simp[Xk,Vu r x.2]
 | .mapb kt ki t::r,x=>by simp[Xk,Vu r x.2]
 | .tbox E cs::r,x=>by simp[Xk,Vu r x.2]
theorem V3 {P : Program} (hmo : P.follows .mixedOrders = true) {T : Tab} (hT : U2 P T) {orc : Orc} (hO : Qa P orc) (H : Hint) {d n0 : Nat} {S : Z0a} {s : OSpec} {fn : Func} {c : Code} (hf : P.funcs[s.f]? = some fn) (hn : (fn.name == "runtime.NumGoroutine") = false) (hb : fn.body = some c)
    (hn0:s.so.length=n0) (hl:∀ x∈V7 c 1000000,V8 T orc H n0 d S x) (hd:d < 8) (hok:(Qk fn.ntmps c&&Nat.ble s.sh.length fn.ntmps)=true)
    (h:∀ x y r,(s.F x y).get=some r→evC T orc (lpOf H n0 S) c 1000000 (Z1 (pack s.sh x) (Xk s.so y) fn.ntmps) (J1 T H.own n0 fn)=some r):s.Ok P:=fun x y r hxy=>by
 subst hn0
 have:=h x y r hxy
 rw[←Vu s.so y] at this hl
 exact Q2r hmo hT hO hf hn hb hl hd (by rw[Xf];exact hok) this
def OSpec.like (s:OSpec) (F:ShT s.sh→ShOT s.so→Tr Res):OSpec:={ f:=s.f,sh:=s.sh,so:=s.so,F:=F }
theorem Zc {P:Program} {s:OSpec} (h:s.Ok P) (F:ShT s.sh→ShOT s.so→Tr Res) (hF:∀ x y r,(F x y).get=some r→(s.F x y).get=some r):(s.like F).Ok P:=
 fun x y r hr=>h x y r (hF x y r hr)
def Q31 (f:Nat) (t:Ty) (bytes:Nat):OSpec:={ f:=f,sh:=[.d (.list t) false],so:=[],F:=fun(xs,_) _=>.on (fits (List.length xs) bytes) ([.rowA 0],[.row t xs]) }
theorem V2t {P:Program} {f0:Nat} {t:Ty} {bytes:Nat} (h:∀ xs:List t.den,fits xs.length bytes=true→SemF P f0 [.list t xs] [] [.rowA 0] [.row t xs]):(Q31 f0 t bytes).Ok P:=by
 intro x y r hr
 obtain⟨xs,_⟩:=x
 obtain⟨hc,he⟩:=Tr.get_on hr
 cases he
 exact h xs hc
structure CP where
 r0:Code
 cx:Code
 cy:Code
 ops:Array Oper
 id:Nat
def cC:Code→CP
 | .seq r0 (.seq (.seq (.region id ops _) cx) cy)=>⟨r0,cx,cy,ops,id⟩
 | c=>⟨c,c,c,#[],0⟩
def hOwn (H:Hint):Hint:={ keep:=H.keep,keepX:=H.keepX,own:=true }
theorem Q4 {T:Tab} {orc:Orc} {H:Hint} {n0 d:Nat} {L:LoopSpec} {Ls:List LoopSpec} {body:Code} (h:L.Ok T orc H n0 d body):V8 T orc H n0 d (lsOf (L::Ls)) (L.bid,body):=by
 intro n hn vs os ex vs' os' hS
 refine V3c h n hn vs os ex vs' os' ?_
 simp only[lsOf,Nat.beq_refl,cond_true] at hS ⊢
 exact hS
theorem Q1q {T:Tab} {orc:Orc} {H:Hint} {n0 d:Nat} {L:LoopSpec} {Ls:List LoopSpec} {bid:Nat} {body:Code} (hb:Nat.beq bid L.bid=false) (h:V8 T orc H n0 d (lsOf Ls) (bid,body)):V8 T orc H n0 d (lsOf (L::Ls)) (bid,body):=by
 intro n hn vs os ex vs' os' hS
 refine h n hn vs os ex vs' os' ?_
 simp only[lsOf,hb,cond_false] at hS
 exact hS
theorem Q5 {T:Tab} {orc:Orc} {H:Hint} {n0 d:Nat} {S:Z0a} {c:Code} {xs:List (Nat×Code)} (h:V7 c 1000000=xs) (hx:∀ x∈xs,V8 T orc H n0 d S x):∀ x∈V7 c 1000000,V8 T orc H n0 d S x:=by
 rw[h]
 exact hx
def Tr.all {α:Type} (P:α→Prop):Tr α→Prop
 | .no=>False
 | .ret a=>P a
 | .br c x y=>(c=true→x.all P)∧(c=false→y.all P)
theorem Tr.all_get {α:Type} {P:α→Prop}:∀ {t:Tr α},t.all P→∃ a,t.get=some a∧P a
 | .no,h=>h.elim
 | .ret a,h=>⟨a,rfl,h⟩
 | .br c x y,h=>by
   cases c with
   | true=>obtain⟨a,h1,h2⟩:=Tr.all_get (t:=x) (h.1 rfl);exact⟨a,h1,h2⟩
   | false=>obtain⟨a,h1,h2⟩:=Tr.all_get (t:=y) (h.2 rfl);exact⟨a,h1,h2⟩
theorem Tr.all_mono {α:Type} {P Q:α→Prop} (hPQ:∀ a,P a→Q a):∀ {t:Tr α},t.all P→t.all Q
 | .no,h=>h
 | .ret a,h=>hPQ a h
 | .br c x y,h=>⟨fun hc=>Tr.all_mono hPQ (h.1 hc),fun hc=>Tr.all_mono hPQ (h.2 hc)⟩
theorem Tr.all_br {α:Type} {P:α→Prop} {c:Bool} {x y:Tr α} (hx:c=true→x.all P) (hy:c=false→y.all P):(Tr.br c x y).all P:=⟨hx,hy⟩
theorem Tr.all_t {α:Type} {P:α→Prop} {c:Bool} {x y:Tr α} (hc:c=true) (hx:x.all P):(Tr.br c x y).all P:=⟨fun _=>hx,fun h=>(by rw[hc] at h;cases h)⟩
theorem Tr.all_f {α:Type} {P:α→Prop} {c:Bool} {x y:Tr α} (hc:c=false) (hy:y.all P):(Tr.br c x y).all P:=⟨fun h=>(by rw[hc] at h;cases h),fun _=>hy⟩
theorem Tr.all_ret {α:Type} {P:α→Prop} {a:α} (h:P a):(Tr.ret a).all P:=h
theorem Tr.get_of_all {α:Type} {t:Tr α} {a:α} (h:t.all fun x=>x=a):t.get=some a:=by
 obtain⟨x,h1,h2⟩:=Tr.all_get h
 rw[h1,h2]
theorem U4 {α:Type} {F:St→Option (St⊕(Ex×St))} (mk:α→St) (I:α→Prop) (m:α→Nat) (r:Ex×St) (t:α→Tr (St⊕(Ex×St))) (hF:∀ a x,(t a).get=some x→F (mk a)=some x)
    (h:∀ a,I a→(t a).all fun x=>x=.inr r∨∃ a',x=.inl (mk a')∧I a'∧m a' < m a):∀ a,I a→X2 F (mk a)=some r:=
 J41 mk I m r fun a ha=>by
  obtain⟨x,h1,h2⟩:=Tr.all_get (h a ha)
  rw[hF a x h1]
  rcases h2 with rfl | ⟨a',rfl,h3⟩
  ·exact .inl rfl
  ·exact .inr ⟨a',rfl,h3⟩
theorem V2m {T:Tab} {orc:Orc} {H:Hint} {n0 d d':Nat} {L:LoopSpec} {body:Code} (hd:d≤d') (h:L.Ok T orc H n0 d body):L.Ok T orc H n0 d' body:=fun n hn=>h n (by omega)
theorem Q0o {T:Tab} {orc:Orc} {H:Hint} {n0 d:Nat} {S:Z0a} {c:Code} {bid:Nat} {xs:List (Nat×Code)} (h:V7 c bid=xs) (hx:∀ x∈xs,V8 T orc H n0 d S x):∀ x∈V7 c bid,V8 T orc H n0 d S x:=by
 rw[h]
 exact hx
def Q1e (outs:List (Ty×Bool)):Tr Res→Tr (Dens outs)
 | .no=>.no
 | .ret r=>bif r.2.isEmpty&&aggs outs r.1 then (match Q0b outs r.1 with | some y=>.ret y | none=>.no) else .no
 | .br c x y=>.br c (Q1e outs x) (Q1e outs y)
theorem U0q {outs:List (Ty×Bool)} {y:Dens outs}:∀ {t:Tr Res},(Q1e outs t).get=some y→∃ vs,t.get=some (vs,[])∧aggs outs vs=true∧Q0b outs vs=some y
 | .no,h=>by cases h
 | .ret r,h=>by
   obtain⟨vs,os⟩:=r
   simp only[Q1e] at h
   cases hb:(os.isEmpty&&aggs outs vs) with
   | false=>rw[hb] at h;cases h
   | true=>
     rw[hb,cond_true] at h
     simp only[Bool.and_eq_true,List.isEmpty_iff] at hb
     obtain⟨rfl,ha⟩:=hb
     cases hy:Q0b outs vs with
     | none=>rw[hy] at h;cases h
     | some y'=>
       rw[hy] at h
       cases h
       exact⟨vs,rfl,ha,hy⟩
 | .br c a b,h=>by
   cases c with
   | true=>obtain⟨vs,h1,h2⟩:=U0q (t:=a) h;exact⟨vs,h1,h2⟩
   | false=>obtain⟨vs,h1,h2⟩:=U0q (t:=b) h;exact⟨vs,h1,h2⟩
def fsT (f:Nat) (ins outs:List (Ty×Bool)) (t:Dens ins→Tr Res):FSpec:={ f:=f,ins:=ins,outs:=outs,F:=fun x=>Q1e outs (t x) }
theorem X5 {P:Program} {f:Nat} {ins outs:List (Ty×Bool)} {t:Dens ins→Tr Res} (h:∀ x r,(t x).get=some r→SemF P f (Xw ins x) [] r.1 r.2):(fsT f ins outs t).Ok P:=by
 intro x y hy
 obtain⟨vs,h1,h2,h3⟩:=U0q hy
 exact J3j h2 h3 (h x _ h1)
theorem J2 {outs:List (Ty×Bool)} {vs:List AV} {y:Dens outs} (ha:aggs outs vs=true) (hy:Q0b outs vs=some y):∀ {t:Tr Res},t.get=some (vs,[])→(Q1e outs t).get=some y
 | .no,h=>by cases h
 | .ret r,h=>by
   cases h
   simp only[Q1e,List.isEmpty_nil,ha,Bool.and_true,cond_true,hy]
   rfl
 | .br c a b,h=>by
   cases c with
   | true=>exact J2 ha hy (t:=a) h
   | false=>exact J2 ha hy (t:=b) h
def FSpec.like (s:FSpec) (F:Dens s.ins→Tr (Dens s.outs)):FSpec:={ f:=s.f,ins:=s.ins,outs:=s.outs,F:=F }
theorem J3 {P:Program} {s:FSpec} (h:s.Ok P) (F:Dens s.ins→Tr (Dens s.outs)) (hF:∀ x y,(F x).get=some y→(s.F x).get=some y):(s.like F).Ok P:=
 fun x y hy=>h x y (hF x y hy)
def Tr.on2 {α:Type} (c c2:Bool) (a b:α):Tr α:=.br c (.br c2 (.ret a) (.ret b)) .no
theorem Tr.get_on2 {α:Type} {c c2:Bool} {a b r:α} (h:(Tr.on2 c c2 a b).get=some r):c=true∧(bif c2 then a else b)=r:=by
 cases c with
 | false=>cases h
 | true=>cases c2<;>cases h<;>exact⟨rfl,rfl⟩
end Go.Proofs.YtkobjdhbfepkaaaE
