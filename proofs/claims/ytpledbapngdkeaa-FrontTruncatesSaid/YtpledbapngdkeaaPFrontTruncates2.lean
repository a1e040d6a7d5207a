import Derived.Test.YtpledbapngdkeaaPFrontTruncates1
import Derived.Lib.AppendZeros
import Derived.MapKept
set_option maxRecDepth 1000000
namespace Go.Proofs.YtpledbapngdkeaaE
open Go
set_option linter.unusedVariables false
set_option linter.unusedSimpArgs false
theorem Ja {w:World} {hp:Nat→LObj} {nx:Nat} {μ:Nat→Pl} {F:Nat→Prop} (hi:HInv w hp nx μ F) {k:Nat} (h:μ k≠.none):k < nx:=by
 by_cases hlt:k < nx
 ·exact hlt
 ·exact absurd (hi.top k (by omega)) h
theorem U2o {P:Program} {w:World} {F:Nat→Prop} {τ:Ty} {xs:List τ.den} {A:Option Addr} (cap:Nat) (h:xs≠[]→∃ b o,A=some ⟨b,o,none⟩∧Lies F w τ xs b o) :
    ∃ olds,EncL F w τ xs olds∧(Builtin.firstCells τ.sz xs.length (.slice A xs.length cap)).run P w.drew=.ok olds.toArray w.drew:=by
 by_cases hne:xs=[]
 ·subst hne
  refine⟨[],by simp[EncL],?_⟩
  cases A with
  | none=>exact run_firstCells_none w.drew _ _ _ _
  | some ad=>simp[Builtin.firstCells,loadCells,loadCellsFrom]
 ·obtain⟨b,o,rfl,hl⟩:=h hne
  obtain⟨news,n1,n2⟩:=V14 hl
  exact⟨news,n1,run_firstCells_some w.drew _ _ _ _ _ news (Ui n1) (fun j v hj=>by rw[Vf];simpa using n2 j v hj)⟩
theorem J16 (w:World) (o:Obj):Grew w (w.drew.alloc o):=(Grew.drew w).trans (Grew.push w.drew o)
theorem U1l (w:World) (o:Obj):(w.drew.alloc o).heap[w.heap.size]?=some o:=by simp[World.alloc,World.drew,-World.alloc_eq,-World.drew_eq]
theorem Q17 (w:World) (o:Obj):(w.drew.alloc o).heap.size=w.heap.size+1:=by simp
theorem Q1w {P:Program} {T:Tab} (hT:Q6 P T) {w:World} {t e tx ty:Nat} {row:Row} (ht:P.underlying t=some (.slice e)) (hrow:T.row e=some row) {τ:Ty} (hsz:τ.sz=row.size)
    {b o sLen sCap n:Nat} {us news:List Value} {E:TypeId} {fz:Nat×Nat} {u:Value} (hs:Src P τ.sz tx u n news w) (hroom:sLen+n≤sCap)
    (hb:w.heap[b]?=some (.cells us.toArray E fz)) (hfz:∀ i,i < us.length→¬ (fz.1≤i∧i < fz.2)) (hle:o+sLen * τ.sz+news.length≤us.length) :
    (Builtin.append_ #[t,tx] ty #[.slice (some ⟨b,o,none⟩) sLen sCap,u]).run P w=.ok (.slice (some ⟨b,o,none⟩) (sLen+n) sCap) (w.setCells b (o+sLen * τ.sz) news):=by
 obtain⟨i0,z,e1,e2,e3,e4,e5,e6,e7,e8⟩:=(hT e row hrow).info
 rw[hsz,←e2] at hs
 have:=run_append_room_src (P:=P) w t tx ty e i0 ht e1 b o sLen sCap u n news hs hroom (fun j hj=>by
  rw[hsz,←e2] at hle
  have:o+sLen * i0.size+j < us.length:=by omega
  simp[World.cell?,hb,List.getElem?_eq_getElem this]) (fun j hj=>by
  rw[hsz,←e2] at hle
  have:o+sLen * i0.size+j < us.length:=by omega
  have h3:=hfz _ this
  simp only[World.frozen?,hb]
  simp
  intro h4
  simp at h3
  omega)
 rw[e2,←hsz] at this
 exact this
theorem Z07 {P:Program} {T:Tab} (hT:Q6 P T) {w:World} {t e tx ty:Nat} {row:Row} (ht:P.underlying t=some (.slice e)) (hrow:T.row e=some row) {τ:Ty} (hsz:τ.sz=row.size)
    {A:Option Addr} {sLen sCap:Nat} {news:List Value} {u:Value} (hs:Src P τ.sz tx u 0 news w) (hle:sLen≤sCap) :
    (Builtin.append_ #[t,tx] ty #[.slice A sLen sCap,u]).run P w=.ok (.slice A sLen sCap) w:=by
 obtain⟨i0,z,e1,e2,e3,e4,e5,e6,e7,e8⟩:=(hT e row hrow).info
 have hn:news=[]:=List.length_eq_zero_iff.1 (by have:=hs.newsLen;simpa using this)
 subst hn
 rw[hsz,←e2] at hs
 exact run_append_nothing w t tx ty e i0 ht e1 A sLen sCap hle u hs
theorem J28 {P:Program} {c:Cx} {st:St} {a:Act} {w:World} {μ:Nat→Pl} {F:Nat→Prop} (hi:Inv c st a w μ F) {k:Nat} (hk:k < st.nx) {al:Option (Nat×Nat)} {l cp sz:Nat} (hrow:μ k=.row al l cp sz)
    {τ:Ty} {xs:List τ.den} {cells us:List Value} {e:TypeId} {cap':Nat} (hn:EncL F w τ xs cells) (hpre:∃ rest,us=cells++rest) (hcap:xs.length≤cap') (hfit:cap' * τ.sz≤us.length) (hby:Q18 τ e) :
    Inv c ((st.kill [k]).upd k (.row τ xs)) a (w.drew.alloc (.cells us.toArray e)) (Xi μ k (.row (some (w.heap.size,0)) xs.length cap' τ.sz)) F ∧
     VRel (Xi μ k (.row (some (w.heap.size,0)) xs.length cap' τ.sz)) F (w.drew.alloc (.cells us.toArray e)) (.rowA k) (.slice (some ⟨w.heap.size,0,none⟩) xs.length cap'):=by
 have hg:=J16 w (.cells us.toArray e)
 refine⟨Q12 hi hk hrow (hg.changed _) ?_ ?_,?_⟩
 ·simp only[ORel]
  refine⟨trivial,trivial,hcap,(fun h=>by cases h),fun b o hbo _=>?_⟩
  cases hbo
  refine⟨us,e,(0,0),U1l w _,by simp,by omega,fun i x hx=>?_,hby⟩
  obtain⟨rest,rfl⟩:=hpre
  obtain⟨vs,v1,v2,v3⟩:=J0a hn i x hx
  refine⟨vs,v1.mono (fun _ h=>h) (fun b hb=>hg.block b (hi.h.inn b hb)),v2,fun j u hj=>?_⟩
  have:=v3 j u hj
  rw[Nat.zero_add,List.getElem?_append_left (by obtain⟨h2,_⟩:=List.getElem?_eq_some_iff.1 this;exact h2)]
  exact this
 ·intro b hb
  simp only[Pl.owns] at hb
  split at hb
  ·cases hb
  ·cases hb
   exact .inr ⟨Nat.le_refl _,by rw[Q17];omega⟩
 ·simp only[VRel]
  exact⟨_,_,_,_,_,Zb _ _ _,rfl,fun _=>rfl⟩
theorem Q2b {P:Program} {T:Tab} (hT:Q6 P T) {R:Type} {K:Eff→Option R} {r:R} {c:Cx} {st:St} {a:Act} {w:World} {μ:Nat→Pl} {F:Nat→Prop} (hi:Inv c st a w μ F) {t tx:Nat} (ty:Nat) {x y:AV} {v u:Value}
    (h:Zj T st.hp st.nx t tx x y K=some r) (hv:VRel μ F w x v) (hu:VRel μ F w y u):∃ f,K f=some r∧Outc P c st a w (Builtin.append_ #[t,tx] ty #[v,u]) f:=by
 unfold Zj at h
 split at h
 ·rename_i e hd
  have ht:=Z7 hT hd (by simp)
  simp only[X8] at ht
  split at h
  ·cases h
  ·rename_i row hrow
   split at h
   ·cases h
   ·rename_i τ hτ
    split at h
    ·rename_i hcond
     obtain⟨hsz,hkind⟩:=hcond
     have hbt:Q18 τ e:=fun hu=>(hT e row hrow).byte (.inl (by rw[hτ,hu]))
     split at h
     ·cases h
     ·rename_i ys hys
      obtain⟨news,hn,hs⟩:=U3r hT hi.h hys hu hkind
      have hnl:=Ui hn
      cases x<;>simp only at h<;>try cases h
      case ns=>
       obtain⟨hfit,hK⟩:=Z8 h
       simp only[VRel] at hv
       subst hv
       by_cases hne:ys=[]
       ·subst hne
        have:=V1j hi τ none
        exact⟨_,hK,_,_,_,F,Z07 hT ht hrow hsz hs (Nat.le_refl _),this.1,this.2⟩
       ·have hpos:0 < ys.length:=List.length_pos_iff.2 hne
        obtain⟨cap',us,g1,g2,g3,g4,rest,g5⟩:=Z1o (xs:=[]) (olds:=[]) (ty:=ty) hT (fun b hb=>hi.h.inn b hb) ht hrow hsz (A:=none) (sLen:=0) (sCap:=0) rfl (by simp[EncL]) hn
         (run_firstCells_none w.drew _ _ _ _) hs (by omega) (by simpa using hfit)
        simp only[List.nil_append,Nat.zero_add] at g1 g2 g4
        have hgr:=J16 w (.cells us.toArray e)
        have:=J12 hi hgr (τ:=τ) (xs:=ys) (us:=us) (E:=e) (fz:=(0,0)) (cap:=cap') (by rw[Q17];omega) (U1l w _) (by simp) g2 g3 (fun i q hq=>by
         obtain⟨vs,v1,v2,v3⟩:=J0a g4 i q hq
         refine⟨vs,v1.mono (fun _ h=>h) (fun b hb=>hgr.block b (hi.h.inn b hb)),v2,fun j z hj=>?_⟩
         have:=v3 j z hj
         rw[g5,List.getElem?_append_left (by obtain⟨h2,_⟩:=List.getElem?_eq_some_iff.1 this;exact h2)]
         exact this)
        exact⟨_,hK,_,_,_,F,g1,(this hbt).1,(this hbt).2⟩
      case rowA k=>
       have hv0:=hv
       simp only[VRel] at hv
       obtain⟨al,len,cap,sz,A0,hk,rfl,hA0⟩:=hv
       have hkn:k < st.nx:=Ja hi.h (by rw[hk];simp)
       have ho:=hi.h.obj k hkn
       rw[hk] at ho
       obtain⟨τ',xs,h3,h4,h5,h6,h7,h8⟩:=Uu ho
       rw[h3] at h
       simp only at h
       split at h
       ·rename_i hττ
        subst hττ
        replace h:req (fits (xs.length+ys.length) row.bytes) (K (.app k (.row τ' (xs++ys)) (.rowA k)))=some r:=h
        obtain⟨hfit,hK⟩:=Z8 h
        subst h4 h5
        obtain⟨A1,cap1,hveq,_,_,hlies⟩:=V06 hi.h (t:=τ') (xs:=xs) (x:=.rowA k) (by simp[Uw,h3]) hv0
        simp only[Value.slice.injEq] at hveq
        obtain⟨rfl,_,rfl⟩:=hveq
        by_cases hroom:xs.length+ys.length≤cap
        ·by_cases hcap:cap=0
         ·have hx0:xs=[]:=List.length_eq_zero_iff.1 (by omega)
          have hy0:ys=[]:=List.length_eq_zero_iff.1 (by omega)
          subst hx0 hy0 hcap
          refine⟨_,hK,_,_,Xi μ k (μ k),F,Z07 hT ht hrow hsz hs (by simp),?_,?_⟩
          ·refine Q12 hi hkn hk ((Grew.refl w).changed _) ?_ (fun b hb=>.inl hb)
           rw[hk]
           have hself:Xi μ k (.row al ([]:List τ'.den).length 0 τ'.sz)=μ:=by funext j;by_cases hj:j=k;subst hj;rw[Zb];exact hk.symm;rw[Va hj]
           rw[hself]
           rw[h3] at ho
           exact ho
          ·simp only[St.apply,VRel]
           exact⟨al,_,0,τ'.sz,A0,by rw[Zb];exact hk,rfl,fun h=>absurd rfl h⟩
         ·cases al with
          | none=>exact absurd (h7 rfl) hcap
          | some bo=>
            obtain⟨b,o⟩:=bo
            have hA:=hA0 hcap
            simp only[Jt] at hA
            subst hA
            obtain⟨us,E,fz,g1,g2,g3,g4,g5⟩:=h8 b o rfl hcap
            have hown:(μ k).owns=some b:=by simp[hk,Pl.owns,hcap]
            have hle:o+xs.length * τ'.sz+news.length≤us.length:=by
             rw[hnl,Nat.add_assoc,←Nat.add_mul]
             have:(xs.length+ys.length) * τ'.sz≤cap * τ'.sz:=Nat.mul_le_mul_right _ hroom
             omega
            obtain⟨e1,e2,e3,e4,e5⟩:=Xd b news (o+xs.length * τ'.sz) w
            have hFw:∀ b',F b'→(w.setCells b (o+xs.length * τ'.sz) news).heap[b']?=w.heap[b']?:=fun b' hb'=>e5 b' (fun e=>(hi.h.out k b hown).1 (e▸hb'))
            refine⟨_,hK,_,_,Xi μ k (.row (some (b,o)) (xs.length+ys.length) cap τ'.sz),F,Q1w hT ht hrow hsz hs hroom g1 g2 hle,?_,?_⟩
            ·refine Q12 hi hkn hk ⟨e1,e2,e3,by omega,fun b' _ hne=>e5 b' (fun e=>hne (by rw[hown,e]))⟩ ?_ (fun b' hb'=>.inl ?_)
             ·simp only[ORel]
              refine⟨trivial,by simp,hroom,(fun h=>by cases h),fun b' o' hbo _=>?_⟩
              cases hbo
              refine⟨_,E,fz,Jd b E fz news _ w us g1 hle,Q05 hle g2,by simp;omega,?_,g5⟩
              have:=U10 g4 hn (Nat.le_refl xs.length) hle hFw
              intro i q hq
              exact this i q (by simpa[List.take_of_length_le,List.drop_of_length_le] using hq)
             ·simp only[Pl.owns,hcap,if_false] at hb'
              rw[hown];exact hb'
            ·simp only[St.apply,VRel]
             exact⟨_,_,_,_,_,Zb _ _ _,rfl,fun _=>rfl⟩
        ·obtain⟨olds,o1,o2⟩:=U2o (P:=P) cap hlies
         obtain⟨cap',us,g1,g2,g3,g4,g5⟩:=Z1o (ty:=ty) hT (fun b hb=>hi.h.inn b hb) ht hrow hsz rfl o1 hn o2 hs (by omega) hfit
         have:=J28 (P:=P) hi hkn hk (e:=e) g4 g5 (by simpa using g2) g3
         rw[List.length_append] at this
         exact⟨_,hK,_,_,_,F,g1,(this hbt).1,(this hbt).2⟩
       ·cases h
      case rowS k off n0 cp=>
       have hv0:=hv
       simp only[VRel] at hv
       obtain⟨al,len,cap,sz,A,cap',hk,hle0,hcap',rfl,hA'⟩:=hv
       have hkn:k < st.nx:=Ja hi.h (by rw[hk];simp)
       have ho:=hi.h.obj k hkn
       rw[hk] at ho
       obtain⟨τ',zs,h3,h4,h5,h6,h7,h8⟩:=Uu ho
       rw[h3] at h
       simp only at h
       split at h
       ·rename_i hττ
        subst hττ
        replace h:req (fits (n0+ys.length) row.bytes) (bif cp||decide (zs.length < off+n0+ys.length)
              then K (.app k (.row τ' ((zs.drop off).take n0++ys)) (.rowA k))
              else K (.upd k (.row τ' (zs.take (off+n0)++ys++zs.drop (off+n0+ys.length))) (.rowS k off (n0+ys.length) false)))=some r:=h
        obtain⟨hfit,hK⟩:=Z8 h
        clear h
        subst h4 h5
        have hxl:((zs.drop off).take n0).length=n0:=by simp;omega
        obtain⟨A1,cap1,hveq,_,_,hlies⟩:=V06 hi.h (t:=τ') (xs:=(zs.drop off).take n0) (x:=.rowS k off n0 cp) (by simp[Uw,h3]) hv0
        simp only[Value.slice.injEq] at hveq
        obtain⟨rfl,_,rfl⟩:=hveq
        cases hb0:(cp||decide (zs.length < off+n0+ys.length)) with
        | true=>
          rw[hb0] at hK
          simp only[cond_true] at hK
          by_cases hroom:n0+ys.length≤cap'
          ·by_cases hcap:cap'=0
           ·have hn00:n0=0:=by omega
            have hy0:ys=[]:=List.length_eq_zero_iff.1 (by omega)
            subst hy0
            refine⟨_,hK,_,_,Xi μ k (.row none 0 0 τ'.sz),F,Z07 hT ht hrow hsz hs (by omega),?_,?_⟩
            ·refine Q12 hi hkn hk ((Grew.refl w).changed _) ?_ (fun b hb=>by simp[Pl.owns] at hb)
             subst hn00
             simp only[ORel]
             exact⟨trivial,by simp,Nat.le_refl _,fun _=>trivial,(fun b o hbo _=>by cases hbo)⟩
            ·simp only[St.apply,VRel]
             subst hn00
             exact⟨_,_,_,_,A,Zb _ _ _,by rw[hcap],fun h=>absurd rfl h⟩
           ·obtain⟨b,o,rfl,rfl⟩:=hA' hcap
            have hcapne:cap≠0:=by
             intro h0
             apply hcap
             rw[hcap']
             split<;>omega
            obtain⟨us,E,fz,g1,g2,g3,g4,g5⟩:=h8 b o rfl hcapne
            have hown:(μ k).owns=some b:=by simp[hk,Pl.owns,hcapne]
            have hcapoff:off+cap'≤cap:=by
             rw[hcap']
             split<;>omega
            have hfit2:o+off * τ'.sz+cap' * τ'.sz≤us.length:=by
             have:(off+cap') * τ'.sz≤cap * τ'.sz:=Nat.mul_le_mul_right _ hcapoff
             rw[Nat.add_mul] at this
             omega
            have hle:o+off * τ'.sz+n0 * τ'.sz+news.length≤us.length:=by
             rw[hnl]
             have:(n0+ys.length) * τ'.sz≤cap' * τ'.sz:=Nat.mul_le_mul_right _ hroom
             rw[Nat.add_mul] at this
             omega
            obtain⟨e1,e2,e3,e4,e5⟩:=Xd b news (o+off * τ'.sz+n0 * τ'.sz) w
            have hFw:∀ b',F b'→(w.setCells b (o+off * τ'.sz+n0 * τ'.sz) news).heap[b']?=w.heap[b']?:=fun b' hb'=>e5 b' (fun e=>(hi.h.out k b hown).1 (e▸hb'))
            have g4':∀ (i:Nat) (q:τ'.den),((zs.drop off).take n0)[i]?=some q→∃ vs,Enc F w τ' q vs∧vs.length=τ'.sz∧∀ (j:Nat) (u:Value),vs[j]?=some u→us[o+off * τ'.sz+i * τ'.sz+j]?=some u:=by
             intro i q hq
             have hin:i < n0:=by obtain⟨h2,_⟩:=List.getElem?_eq_some_iff.1 hq;omega
             rw[List.getElem?_take_of_lt hin,List.getElem?_drop] at hq
             obtain⟨vs,v1,v2,v3⟩:=g4 _ q hq
             refine⟨vs,v1,v2,fun j z hj=>?_⟩
             have:=v3 j z hj
             rw[Nat.add_mul] at this
             rw[←this]
             congr 1
             omega
            refine⟨_,hK,_,_,Xi μ k (.row (some (b,o+off * τ'.sz)) (n0+ys.length) cap' τ'.sz),F,Q1w hT ht hrow hsz hs hroom g1 g2 hle,?_,?_⟩
            ·refine Q12 hi hkn hk ⟨e1,e2,e3,by omega,fun b' _ hne=>e5 b' (fun e=>hne (by rw[hown,e]))⟩ ?_ (fun b' hb'=>.inl ?_)
             ·simp only[ORel]
              refine⟨trivial,by rw[List.length_append,hxl],hroom,(fun h=>by cases h),fun b' o' hbo _=>?_⟩
              cases hbo
              refine⟨_,E,fz,Jd b E fz news _ w us g1 hle,Q05 hle g2,by simp;omega,?_,g5⟩
              have:=U10 g4' hn (by rw[hxl];exact Nat.le_refl n0) hle hFw
              intro i q hq
              have htk:((zs.drop off).take n0).take n0=(zs.drop off).take n0:=List.take_of_length_le (by omega)
              have hdr:((zs.drop off).take n0).drop (n0+ys.length)=[]:=List.drop_of_length_le (by omega)
              exact this i q (by rw[htk,hdr,List.append_nil];exact hq)
             ·simp only[Pl.owns,hcap,if_false] at hb'
              rw[hown];exact hb'
            ·simp only[St.apply,VRel]
             exact⟨_,_,_,_,_,Zb _ _ _,rfl,fun _=>rfl⟩
          ·obtain⟨olds,o1,o2⟩:=U2o (P:=P) cap' hlies
           rw[hxl] at o2
           obtain⟨cap2,us,g1,g2,g3,g4,g5⟩:=Z1o (ty:=ty) hT (fun b hb=>hi.h.inn b hb) ht hrow hsz hxl o1 hn o2 hs (by omega) hfit
           have:=J28 (P:=P) hi hkn hk (e:=e) g4 g5 (by rw[List.length_append,hxl];exact g2) g3
           rw[List.length_append,hxl] at this
           exact⟨_,hK,_,_,_,F,g1,(this hbt).1,(this hbt).2⟩
        | false=>
          rw[hb0] at hK
          simp only[cond_false] at hK
          simp only[Bool.or_eq_false_iff,decide_eq_false_iff_not] at hb0
          obtain⟨rfl,hlt⟩:=hb0
          simp only[Bool.false_eq_true,if_false] at hcap'
          have hroom:n0+ys.length≤cap':=by omega
          have hnewlen:(zs.take (off+n0)++ys++zs.drop (off+n0+ys.length)).length=zs.length:=by simp;omega
          have hval:∀ (μ':Nat→Pl) (w':World),μ' k=μ k→VRel μ' F w' (.rowS k off (n0+ys.length) false) (.slice A (n0+ys.length) cap'):=by
           intro μ' w' hμ'
           simp only[VRel]
           exact⟨al,zs.length,cap,τ'.sz,A,cap',by rw[hμ'];exact hk,by omega,by simpa using hcap',rfl,hA'⟩
          by_cases hcap:cap'=0
          ·have hn00:n0=0:=by omega
           have hy0:ys=[]:=List.length_eq_zero_iff.1 (by omega)
           subst hy0
           refine⟨_,hK,_,_,μ,F,Z07 hT ht hrow hsz hs (by omega),?_,?_⟩
           ·refine Vw hi hkn ((Grew.refl w).changed _) ?_
            have hsame:zs.take (off+n0)++[]++zs.drop (off+n0+([]:List τ'.den).length)=zs:=by simp
            rw[hsame,hk]
            rw[h3] at ho
            exact ho
           ·simp only[St.apply]
            have:=hval μ w rfl
            simpa using this
          ·obtain⟨b,o,rfl,rfl⟩:=hA' hcap
           have hcapne:cap≠0:=by omega
           obtain⟨us,E,fz,g1,g2,g3,g4,g5⟩:=h8 b o rfl hcapne
           have hown:(μ k).owns=some b:=by simp[hk,Pl.owns,hcapne]
           have hle:o+off * τ'.sz+n0 * τ'.sz+news.length≤us.length:=by
            rw[hnl]
            have:(off+n0+ys.length) * τ'.sz≤cap * τ'.sz:=Nat.mul_le_mul_right _ (by omega)
            rw[Nat.add_mul,Nat.add_mul] at this
            omega
           obtain⟨e1,e2,e3,e4,e5⟩:=Xd b news (o+off * τ'.sz+n0 * τ'.sz) w
           have hFw:∀ b',F b'→(w.setCells b (o+off * τ'.sz+n0 * τ'.sz) news).heap[b']?=w.heap[b']?:=fun b' hb'=>e5 b' (fun e=>(hi.h.out k b hown).1 (e▸hb'))
           refine⟨_,hK,_,_,μ,F,Q1w hT ht hrow hsz hs hroom g1 g2 hle,?_,hval μ _ rfl⟩
           refine Vw hi hkn ⟨e1,e2,e3,by omega,fun b' _ hne=>e5 b' (fun e=>hne (by rw[hown,e]))⟩ ?_
           rw[hk]
           simp only[ORel]
           refine⟨trivial,hnewlen.symm,h6,(fun h=>by cases h),fun b' o' hbo _=>?_⟩
           cases hbo
           have hle2:o+(off+n0) * τ'.sz+news.length≤us.length:=by rw[Nat.add_mul];omega
           have hpos:o+off * τ'.sz+n0 * τ'.sz=o+(off+n0) * τ'.sz:=by rw[Nat.add_mul];omega
           rw[hpos] at hFw ⊢
           refine⟨_,E,fz,Jd b E fz news _ w us g1 hle2,Q05 hle2 g2,by simp;omega,?_,g5⟩
           exact U10 g4 hn (by omega) hle2 hFw
       ·cases h
    ·cases h
 ·cases h
theorem X3l {P:Program} {T:Tab} (hT:Q6 P T) {R:Type} {K:Eff→Option R} {r:R} {c:Cx} {st:St} {a:Act} {w:World} {μ:Nat→Pl} {F:Nat→Prop} (hi:Inv c st a w μ F) {t tx:Nat} (ty:Nat) {kn:IntKind} {n:Int}
    (h:U0o T st.nx t tx n K=some r):∃ f,K f=some r∧Outc P c st a w (Builtin.append_ #[t,tx] ty #[.slice none 0 0,.int kn n]) f:=by
 unfold U0o at h
 split at h
 ·rename_i e ki hd hd2
  have ht:=Z7 hT hd (by simp)
  have ht2:=Z7 hT hd2 (by simp)
  simp only[X8] at ht ht2
  split at h
  ·cases h
  ·rename_i row hrow
   split at h
   ·cases h
   ·rename_i τ hτ
    split at h
    ·rename_i hcond
     obtain⟨hsz,hpos⟩:=hcond
     obtain⟨hc,hK⟩:=Z8 h
     simp only[Bool.and_eq_true,decide_eq_true_eq] at hc
     obtain⟨h0,hfit⟩:=hc
     obtain⟨hb1,hb2⟩:=U2b hfit
     obtain⟨i0,z,e1,e2,e3,e4,e5,e6,e7,e8⟩:=(hT e row hrow).info
     obtain⟨m,rfl⟩:=Int.eq_ofNat_of_zero_le h0
     rw[Int.toNat_natCast] at hb1 hb2 hK
     by_cases hm:m=0
     ·subst hm
      have:=V1j hi τ none
      have hrun:(Builtin.append_ #[t,tx] ty #[.slice none 0 0,.int kn ((0:Nat):Int)]).run P w=.ok (.slice none 0 0) w:=by
       simp[Builtin.append_,run_underlying ht,run_underlying ht2,sizeOf,typeInfo,zeroValue,e1,e4,asInt,asIntOf,IntKind.wrap_i64]
      exact⟨_,hK,_,_,_,F,hrun,this.1,this.2⟩
     ·have hrun:=Lib.run_append_nil_zeros (P:=P) w t tx ty e i0 z kn ki ht ht2 e1 e4 m (by omega) (by rw[e2];exact hpos) (by omega) (by rw[e3];omega)
      have hcap:=grownCap_ge w m 0 e
      generalize grownCap w m 0 e=cap at hrun hcap
      have hzl:z.cells.toList.length=τ.sz:=by simp[e5,hsz]
      have hlen:(Builtin.zeroCells z.cells m++Builtin.zeroCells z.cells (cap - m)).toList.length=cap * τ.sz:=by
       rw[Array.length_toList,Array.size_append,size_zeroCells,size_zeroCells,←Array.length_toList,hzl,←Nat.add_mul]
       congr 1
       omega
      have:=J12 hi (J16 w (.cells (Builtin.zeroCells z.cells m++Builtin.zeroCells z.cells (cap - m)) e)) (τ:=τ) (xs:=List.replicate m τ.dflt) (us:=(Builtin.zeroCells z.cells m++Builtin.zeroCells z.cells (cap - m)).toList) (E:=e) (fz:=(0,0)) (cap:=cap)
       (by rw[Q17];omega) (by rw[Array.toArray_toList];exact U1l w _) (fun i _ h=>by simp at h) (by simpa using hcap) (by rw[hlen];exact Nat.le_refl _) (fun i x hx=>by
        obtain⟨hil,hix⟩:=List.getElem?_eq_some_iff.1 hx
        simp at hil hix
        subst hix
        refine⟨z.cells.toList,e8 τ hτ F _,hzl,fun j q hj=>?_⟩
        have hjl:j < z.cells.toList.length:=by obtain⟨h2,_⟩:=List.getElem?_eq_some_iff.1 hj;exact h2
        have hlt:i * τ.sz+j < m * τ.sz:=by
         have:(i+1) * τ.sz≤m * τ.sz:=Nat.mul_le_mul_right _ (by omega)
         rw[Nat.add_mul,Nat.one_mul] at this
         omega
        have hzr:=J1l z.cells.toList (m * z.cells.size) i j q (by omega) hj (by rw[←Array.length_toList,hzl];exact hlt)
        rw[hzl] at hzr
        rw[Array.toList_append,List.getElem?_append_left (by rw[Array.length_toList,size_zeroCells,←Array.length_toList,hzl];exact hlt)]
        simpa[Builtin.zeroCells] using hzr) (fun hu=>(hT e row hrow).byte (.inl (by rw[hτ,hu])))
      rw[List.length_replicate] at this
      exact⟨_,hK,_,_,_,F,hrun,this.1,this.2⟩
    ·cases h
 ·cases h
theorem X2u {P:Program} {T:Tab} (hT:Q6 P T) {R:Type} {K:Eff→Option R} {r:R} {c:Cx} {st:St} {a:Act} {w:World} {μ:Nat→Pl} {F:Nat→Prop} (hi:Inv c st a w μ F) {t tx:Nat} (ty:Nat) {x y:AV} {v u:Value}
    (h:Ut T st.hp st.nx t tx x y K=some r) (hv:VRel μ F w x v) (hu:VRel μ F w y u):∃ f,K f=some r∧Outc P c st a w (Builtin.append_ #[t,tx] ty #[v,u]) f:=by
 unfold Ut at h
 split at h
 ·simp only[VRel] at hv hu
  subst hv hu
  exact X3l hT hi ty h
 ·exact Q2b hT hi ty h hv hu
mutual
theorem Q1h:∀ (x:AV),x.kill []=x
 | .agg cs=>by simp only[AV.kill,X01 cs]
 | .tup cs=>by simp only[AV.kill,X01 cs]
 | .fn g cs=>by simp only[AV.kill,X01 cs]
 | .rptr _ _ _ _=>by simp only[AV.kill];rfl
 | .rowA _=>by simp only[AV.kill];rfl
 | .rowS _ _ _ _=>by simp only[AV.kill];rfl
 | .ptr _ _=>by simp only[AV.kill]
 | .mp _=>by simp only[AV.kill]
 | .psl _ _=>by simp only[AV.kill]
 | .int _ _=>by simp only[AV.kill]
 | .bool _=>by simp only[AV.kill]
 | .str _=>by simp only[AV.kill]
 | .list _ _=>by simp only[AV.kill]
 | .np=>by simp only[AV.kill]
 | .nm=>by simp only[AV.kill]
 | .nf=>by simp only[AV.kill]
 | .ns=>by simp only[AV.kill]
 | .lptr _ _ _ _=>by simp only[AV.kill]
 | .undef=>by simp only[AV.kill]
 | .dead=>by simp only[AV.kill]
theorem X01:∀ (cs:List AV),AV.killL [] cs=cs
 | []=>by simp only[AV.killL]
 | c::cs=>by simp only[AV.killL,Q1h c,X01 cs]
end
theorem Qa {k:Nat}:∀ {ks:List Nat} {j i:Nat},U8 k ks j=some i→j≤i∧ks[i - j]?=some k
 | [],j,i,h=>by simp[U8] at h
 | x::xs,j,i,h=>by
   simp only[U8] at h
   cases hx:(x==k) with
   | true=>
     rw[hx] at h
     simp only[cond_true,Option.some.injEq] at h
     subst h
     have:x=k:=by simpa using hx
     subst this
     simp
   | false=>
     rw[hx] at h
     simp only[cond_false] at h
     obtain⟨h1,h2⟩:=Qa h
     refine⟨by omega,?_⟩
     rw[show i - j=(i - (j+1))+1 by omega]
     simpa using h2
theorem J0v {k:Nat}:∀ {ks:List Nat} {j:Nat},U8 k ks j=none→k ∉ ks
 | [],_,_=>by simp
 | x::xs,j,h=>by
   simp only[U8] at h
   cases hx:(x==k) with
   | true=>rw[hx] at h;simp at h
   | false=>
     rw[hx] at h
     simp only[cond_false] at h
     have hne:x≠k:=by simpa using hx
     intro hm
     rcases List.mem_cons.1 hm with rfl | hm
     ·exact hne rfl
     ·exact J0v h hm
theorem U3j {k:Nat} {ks:List Nat} (h:k∈ks):∃ i,U8 k ks 0=some i:=by
 cases hp:U8 k ks 0 with
 | some i=>exact⟨i,rfl⟩
 | none=>exact absurd h (J0v hp)
theorem Q4g {ks:List Nat} (hn:ks.Nodup) {i k:Nat} (h:ks[i]?=some k):U8 k ks 0=some i:=by
 obtain⟨j,hj⟩:=U3j (List.mem_of_getElem? h)
 obtain⟨_,h2⟩:=Qa hj
 rw[hj]
 congr 1
 simp only[Nat.sub_zero] at h2
 obtain⟨a1,a2⟩:=List.getElem?_eq_some_iff.1 h
 obtain⟨b1,b2⟩:=List.getElem?_eq_some_iff.1 h2
 exact(List.getElem_inj hn).1 (b2.trans a2.symm)
theorem Q0a {hp:Nat→LObj} {Q:Nat→Prop} (hQ:∀ k,Q k→∀ j∈(hp k).refs,Q j):∀ (n:Nat) (work seen:List Nat),(∀ k∈work,Q k)→(∀ k∈seen,Q k)→∀ k∈Q8 hp n work seen,Q k
 | 0,_,_,_,hs=>by simpa only[Q8] using hs
 | n+1,[],_,_,hs=>by simpa only[Q8] using hs
 | n+1,w::ws,seen,hw,hs=>by
   simp only[Q8]
   cases hc:seen.contains w with
   | true=>exact Q0a hQ n ws seen (fun k hk=>hw k (by simp[hk])) hs
   | false=>
     refine Q0a hQ n _ _ (fun k hk=>?_) (fun k hk=>?_)
     ·rcases List.mem_append.1 hk with hk | hk
      ·exact hQ w (hw w (by simp)) k hk
      ·exact hw k (by simp[hk])
     ·rcases List.mem_append.1 hk with hk | hk
      ·exact hs k hk
      ·simp at hk;subst hk;exact hw _ (by simp)
theorem Ux {hp:Nat→LObj}:∀ (n:Nat) (work seen:List Nat),seen.Nodup→(Q8 hp n work seen).Nodup
 | 0,_,_,h=>by simpa only[Q8] using h
 | n+1,[],_,h=>by simpa only[Q8] using h
 | n+1,w::ws,seen,h=>by
   simp only[Q8]
   cases hc:seen.contains w with
   | true=>exact Ux n ws seen h
   | false=>
     refine Ux n _ _ ?_
     have hm:w ∉ seen:=by simpa using hc
     rw[List.nodup_append]
     exact⟨h,by simp,by intro x hx y hy;simp at hy;subst hy;rintro rfl;exact hm hx⟩
theorem V0a:∀ (os:List LObj) (i:Nat),ofHp os i=(os[i]?).getD .gone
 | [],i=>by simp[ofHp]
 | o::os,0=>by simp[ofHp]
 | o::os,i+1=>by simp[ofHp,V0a os i]
mutual
theorem Q1s {μ μ':Nat→Pl} {F F':Nat→Prop} {w w':World}:∀ {x:AV} {v:Value},x.plain=true→VRel μ F w x v→VRel μ' F' w' x v
 | .int _ _,_,_,h=>by simpa only[VRel] using h
 | .bool _,_,_,h=>by simpa only[VRel] using h
 | .str _,_,_,h=>by simpa only[VRel] using h
 | .np,_,_,h=>by simpa only[VRel] using h
 | .undef,_,_,h=>by simpa only[VRel] using h
 | .agg cs,_,hp,h=>by
   simp only[AV.plain] at hp
   simp only[VRel] at h ⊢
   obtain⟨us,rfl,h1,h2⟩:=h
   exact⟨us,rfl,X0j hp h1,h2⟩
 | .tup cs,_,hp,h=>by
   simp only[AV.plain] at hp
   simp only[VRel] at h ⊢
   obtain⟨us,rfl,h1⟩:=h
   exact⟨us,rfl,X0j hp h1⟩
 | .list _ _,_,h,_=>by simp[AV.plain] at h
 | .nm,_,h,_=>by simp[AV.plain] at h
 | .nf,_,h,_=>by simp[AV.plain] at h
 | .ns,_,h,_=>by simp[AV.plain] at h
 | .ptr _ _,_,h,_=>by simp[AV.plain] at h
 | .rptr _ _ _ _,_,h,_=>by simp[AV.plain] at h
 | .lptr _ _ _ _,_,h,_=>by simp[AV.plain] at h
 | .rowA _,_,h,_=>by simp[AV.plain] at h
 | .rowS _ _ _ _,_,h,_=>by simp[AV.plain] at h
 | .mp _,_,h,_=>by simp[AV.plain] at h
 | .psl _ _,_,h,_=>by simp[AV.plain] at h
 | .fn _ _,_,h,_=>by simp[AV.plain] at h
 | .dead,_,h,_=>by simp[AV.plain] at h
theorem X0j {μ μ':Nat→Pl} {F F':Nat→Prop} {w w':World}:∀ {cs:List AV} {us:List Value},AV.plainL cs=true→Z2 μ F w cs us→Z2 μ' F' w' cs us
 | [],_,_,h=>by simpa only[Z2] using h
 | c::cs,_,hp,h=>by
   simp only[AV.plainL,Bool.and_eq_true] at hp
   simp only[Z2] at h ⊢
   obtain⟨u,us,rfl,h1,h2⟩:=h
   exact⟨u,us,rfl,Q1s hp.1 h1,X0j hp.2 h2⟩
end
def J0p (μ:Nat→Pl):Nat→Prop:=fun b=>∃ k,(μ k).owns=some b
def Post (w:World) (μ:Nat→Pl) (F:Nat→Prop) (n0:Nat) (res:List AV) (objs':List LObj) (v:Value) (w':World):Prop:=
 ∃ μ' F',VRel μ' F' w' (Ua res) v∧HInv w' (ofHp objs') objs'.length μ' F'∧Fr w (J0p μ) F w' F' μ'∧n0≤objs'.length ∧
   (∀ k b,k < n0→μ k=.box b→μ' k=.box b)∧(∀ k b,k < n0→μ k=.map b→μ' k=.map b)
def SemF (P:Program) (f:Nat) (args:List AV) (objs:List LObj) (res:List AV) (objs':List LObj):Prop:=
 (∃ fn, P.funcs[f]? = some fn ∧ fn.name ≠ "runtime.NumGoroutine" ∧ fn.body.isNone = false) ∧
 ∀ (w:World) (μ:Nat→Pl) (F:Nat→Prop) (vs:List Value),HInv w (ofHp objs) objs.length μ F→Z2 μ F w args vs→
   Calls P f vs.toArray w fun e w'=>∃ v,e=.returned v∧Post w μ F objs.length res objs' v w'
def Zd (P:Program) (orc:Orc):Prop:=∀ f args objs res objs',(orc f args objs).get=some (res,objs')→SemF P f args objs res objs'
theorem U34 (f:Nat→Option Nat) (vs:List AV):(Ua vs).ren f=Ua (AV.renL f vs):=by
 match vs with
 | []=>rfl
 | [v]=>rfl
 | a::b::r=>rfl
def Ub (μ:Nat→Pl) (ks:List Nat):Nat→Pl:=fun i=>match ks[i]? with | some k=>μ k | none=>.none
def Xw (μ μ':Nat→Pl) (ks:List Nat) (nx:Nat):Nat→Pl:=fun k=>if k < nx then (match U8 k ks 0 with | some i=>μ' i | none=>μ k) else μ' (ks.length+(k - nx))
theorem J1g {w:World} {hp:Nat→LObj} {nx:Nat} {μ:Nat→Pl} {F:Nat→Prop} (hi:HInv w hp nx μ F) {ks:List Nat} (hn:ks.Nodup) (hk:∀ k∈ks,k < nx) :
    HInv w (ofHp (ks.map fun k=>(hp k).ren fun k=>U8 k ks 0)) (ks.map fun k=>(hp k).ren fun k=>U8 k ks 0).length (Ub μ ks) F:=by
 have hf:∀ k i,U8 k ks 0=some i→Ub μ ks i=μ k:=fun k i h=>by
  obtain⟨_,h2⟩:=Qa h
  simp only[Nat.sub_zero] at h2
  simp[Ub,h2]
 have hget:∀ i b,(Ub μ ks i).owns=some b→∃ k,ks[i]?=some k∧(μ k).owns=some b:=fun i b h=>by
  unfold Ub at h
  split at h
  ·rename_i k hk;exact⟨k,hk,h⟩
  ·cases h
 refine⟨fun i hi'=>?_,fun i hi'=>?_,fun i j b h1 h2=>?_,fun i b h=>?_,hi.inn⟩
 ·simp at hi'
  rw[V0a]
  simp only[List.getElem?_map,List.getElem?_eq_getElem hi',Option.map_some,Option.getD_some]
  have:Ub μ ks i=μ ks[i]:=by simp[Ub,List.getElem?_eq_getElem hi']
  rw[this]
  exact Z1p hf (hi.obj _ (hk _ (List.getElem_mem hi')))
 ·simp at hi'
  simp[Ub,List.getElem?_eq_none hi']
 ·obtain⟨k,e1,e2⟩:=hget i b h1
  obtain⟨k',e3,e4⟩:=hget j b h2
  have:=hi.one k k' b e2 e4
  subst this
  obtain⟨a1,a2⟩:=List.getElem?_eq_some_iff.1 e1
  obtain⟨b1,b2⟩:=List.getElem?_eq_some_iff.1 e3
  exact(List.getElem_inj hn).1 (a2.trans b2.symm)
 ·obtain⟨k,e1,e2⟩:=hget i b h
  exact hi.out k b e2
theorem V09 {c:Cx} {st:St} {a:Act} {w w':World} {μ:Nat→Pl} {F:Nat→Prop} (hi:Inv c st a w μ F) {ks:List Nat} (hn:ks.Nodup) (hk:∀ k∈ks,k < st.nx∧μ k≠.none)
    {res:List AV} {objs':List LObj} {v:Value} (hp:Post w (Ub μ ks) F ks.length res objs' v w') :
    ∃ μ' F',Inv c (st.apply (.call [] ks objs' res)).2 a w' μ' F'∧VRel μ' F' w' (st.apply (.call [] ks objs' res)).1 v:=by
 obtain⟨μ',F',hv,hh,hfr,hlen,hbx,hmp⟩:=hp
 have hsub:∀ k i,U8 k ks 0=some i→Ub μ ks i=μ k:=fun k i h=>by
  obtain⟨_,h2⟩:=Qa h
  simp only[Nat.sub_zero] at h2
  simp[Ub,h2]
 have hlt:∀ k i,U8 k ks 0=some i→i < ks.length:=fun k i h=>by
  obtain⟨_,h2⟩:=Qa h
  obtain⟨h3,_⟩:=List.getElem?_eq_some_iff.1 h2
  simpa using h3
 have hfp:∀ b,J0p (Ub μ ks) b→∃ k∈ks,(μ k).owns=some b:=fun b ⟨i,h⟩=>by
  unfold Ub at h
  split at h
  ·rename_i k hk';exact⟨k,List.mem_of_getElem? hk',h⟩
  ·cases h
 have hold:∀ k,k < st.nx→U8 k ks 0=none→Xw μ μ' ks st.nx k=μ k:=fun k h1 h2=>by simp[Xw,h1,h2]
 have hkey:∀ k i,k < st.nx→U8 k ks 0=some i→Xw μ μ' ks st.nx k=μ' i:=fun k i h1 h2=>by simp[Xw,h1,h2]
 have hnew:∀ j,Xw μ μ' ks st.nx (st.nx+j)=μ' (ks.length+j):=fun j=>by
  have h1:¬ (st.nx+j < st.nx):=by omega
  simp only[Xw,h1,if_false]
  congr 1
  omega
 have hback:∀ i k,U9 ks st.nx i=some k→Xw μ μ' ks st.nx k=μ' i:=fun i k h=>by
  unfold U9 at h
  cases hb:Nat.blt i ks.length with
  | true=>
    rw[hb] at h
    simp only[cond_true] at h
    exact hkey k i (hk k (List.mem_of_getElem? h)).1 (Q4g hn h)
  | false=>
    rw[hb] at h
    simp only[cond_false,Option.some.injEq] at h
    have hge:ks.length≤i:=by
     rcases Nat.lt_or_ge i ks.length with h1 | h1
     ·rw[show Nat.blt i ks.length=true by simpa using h1] at hb;cases hb
     ·exact h1
    subst h
    rw[hnew]
    congr 1
    omega
 have hFw:∀ b,F b→w'.heap[b]?=w.heap[b]?:=fun b hb=>hfr.keep b (hi.h.inn b hb) (fun h=>by
  obtain⟨k,_,h2⟩:=hfp b h
  exact(hi.h.out k b h2).1 hb)
 have hobj:∀ k,k∈ks→ORel μ F w (st.hp k) (μ k):=fun k h=>hi.h.obj k (hk k h).1
 have hμ:∀ k,(V4 st.hp ks).contains k=false→μ k≠.none→Xw μ μ' ks st.nx k=μ k:=fun k h1 h2=>by
  have hkn:k < st.nx:=Ja hi.h h2
  cases hp:U8 k ks 0 with
  | none=>exact hold k hkn hp
  | some i=>
    rw[hkey k i hkn hp]
    have hmem:k∈ks:=by obtain⟨_,h3⟩:=Qa hp;exact List.mem_of_getElem? h3
    have ho:=hobj k hmem
    cases hm:μ k with
    | none=>exact absurd hm h2
    | box b=>exact hbx i b (hlt k i hp) (by rw[hsub k i hp];exact hm)
    | map b=>exact hmp i b (hlt k i hp) (by rw[hsub k i hp];exact hm)
    | row al l cp sz=>
      exfalso
      rw[hm] at ho
      obtain⟨t,xs,hrow,_⟩:=Uu ho
      have:k∈V4 st.hp ks:=by
       have:∀ (l:List Nat),k∈l→k∈V4 st.hp l:=by
        intro l
        induction l with
        | nil=>simp
        | cons x l ih=>
          intro h
          simp only[V4]
          rcases List.mem_cons.1 h with rfl | h
          ·rw[hrow];simp
          ·split
           ·exact List.mem_cons_of_mem _ (ih h)
           ·exact ih h
       exact this ks hmem
      simp[this] at h1
 have hb:∀ k b,μ k=.box b→Xw μ μ' ks st.nx k=.box b:=fun k b h=>by
  have hkn:k < st.nx:=Ja hi.h (by rw[h];simp)
  cases hp:U8 k ks 0 with
  | none=>rw[hold k hkn hp];exact h
  | some i=>rw[hkey k i hkn hp];exact hbx i b (hlt k i hp) (by rw[hsub k i hp];exact h)
 have hm:∀ k b,μ k=.map b→Xw μ μ' ks st.nx k=.map b:=fun k b h=>by
  have hkn:k < st.nx:=Ja hi.h (by rw[h];simp)
  cases hp:U8 k ks 0 with
  | none=>rw[hold k hkn hp];exact h
  | some i=>rw[hkey k i hkn hp];exact hmp i b (hlt k i hp) (by rw[hsub k i hp];exact h)
 have hown:∀ k b,(Xw μ μ' ks st.nx k).owns=some b→(k < st.nx∧U8 k ks 0=none∧(μ k).owns=some b)∨(∃ i,(μ' i).owns=some b∧U9 ks st.nx i=some k):=fun k b h=>by
  by_cases hkn:k < st.nx
  ·cases hp:U8 k ks 0 with
   | none=>rw[hold k hkn hp] at h;exact .inl ⟨hkn,rfl,h⟩
   | some i=>
     rw[hkey k i hkn hp] at h
     refine .inr ⟨i,h,?_⟩
     have hil:=hlt k i hp
     obtain⟨_,h3⟩:=Qa hp
     simp only[U9,show Nat.blt i ks.length=true by simpa using hil,cond_true]
     simpa using h3
  ·obtain⟨j,rfl⟩:∃ j,k=st.nx+j:=⟨k - st.nx,by omega⟩
   rw[hnew] at h
   refine .inr ⟨ks.length+j,h,?_⟩
   have:Nat.blt (ks.length+j) ks.length=false:=by
    cases hb:Nat.blt (ks.length+j) ks.length with
    | false=>rfl
    | true=>have:ks.length+j < ks.length:=by simpa using hb
            omega
   simp[U9,this]
 have hfar:∀ k b,k < st.nx→U8 k ks 0=none→(μ k).owns=some b→¬ J0p (Ub μ ks) b:=fun k b h1 h2 h3 h4=>by
  obtain⟨k',hk',h5⟩:=hfp b h4
  have:=hi.h.one k k' b h3 h5
  subst this
  exact J0v h2 hk'
 have hcallee:∀ i b,(μ' i).owns=some b→J0p (Ub μ ks) b∨w.heap.size≤b:=fun i b h=>hfr.newO i b h
 have hkept:∀ k b,k < st.nx→U8 k ks 0=none→(μ k).owns=some b→w'.heap[b]?=w.heap[b]?:=fun k b h1 h2 h3=>hfr.keep b (hi.h.out k b h3).2 (hfar k b h1 h2 h3)
 have hlen2:((objs'.drop ks.length).map (LObj.ren (U9 ks st.nx))).length=objs'.length - ks.length:=by simp
 refine⟨Xw μ μ' ks st.nx,F',?_,?_⟩
 ·
  have main:∀ (st2:St),st2.nx=st.nx→(∀ t,∃ x,st.tm t=x∧(st2.tm t=x.kill (V4 st.hp ks)∨(ks=[]∧st2.tm t=x)))→
      (∀ k,k < st.nx→(∀ i,U8 k ks 0=some i→st2.hp k=(ofHp objs' i).ren (U9 ks st.nx))∧(U8 k ks 0=none→st2.hp k=(st.hp k).kill (V4 st.hp ks)∨(ks=[]∧st2.hp k=st.hp k)))→
      Inv c (st2.news ((objs'.drop ks.length).map (LObj.ren (U9 ks st.nx)))) a w' (Xw μ μ' ks st.nx) F':=by
   intro st2 hnx htm hhp
   refine⟨⟨fun k hk2=>?_,fun k hk2=>?_,fun k k' b h1 h2=>?_,fun k b h=>?_,hh.inn⟩,?_,fun k b h1 h2=>hb k b (hi.idb k b h1 h2),fun k b h1 h2=>hm k b (hi.idm k b h1 h2),?_,fun t=>?_,hi.sz,hi.df⟩
   ·rw[Um,hlen2,hnx] at hk2
    by_cases hkn:k < st.nx
    ·rw[Vs _ _ k (by omega)]
     obtain⟨g1,g2⟩:=hhp k hkn
     cases hp:U8 k ks 0 with
     | some i=>
       rw[g1 i hp,hkey k i hkn hp]
       exact Z1p hback (hh.obj i (by have:=hlt k i hp;omega))
     | none=>
       rw[hold k hkn hp]
       have ho:=hi.h.obj k hkn
       have hkb:∀ b,(μ k).owns=some b→w'.heap[b]?=w.heap[b]?:=fun b h=>hkept k b hkn hp h
       rcases g2 hp with g | ⟨hks,g⟩
       ·rw[g];exact Q27 hfr.old hFw hμ hb hm hkb ho
       ·rw[g]
        subst hks
        exact Uc hfr.old hFw hkb (fun j hj=>hold j (Ja hi.h (Xj ho j hj)) rfl) ho
    ·obtain⟨j,rfl⟩:∃ j,k=st.nx+j:=⟨k - st.nx,by omega⟩
     have hj:ks.length+j < objs'.length:=by omega
     have hat:=J29 ((objs'.drop ks.length).map (LObj.ren (U9 ks st.nx))) st2 j ((ofHp objs' (ks.length+j)).ren (U9 ks st.nx)) (by
      rw[List.getElem?_map,List.getElem?_drop,List.getElem?_eq_getElem hj,V0a,List.getElem?_eq_getElem hj]
      rfl)
     rw[hnx] at hat
     rw[hat,hnew]
     exact Z1p hback (hh.obj _ hj)
   ·rw[Um,hlen2,hnx] at hk2
    obtain⟨j,rfl⟩:∃ j,k=st.nx+j:=⟨k - st.nx,by omega⟩
    rw[hnew]
    exact hh.top _ (by omega)
   ·rcases hown k b h1 with ⟨a1,a2,a3⟩ | ⟨i,a1,a2⟩<;>rcases hown k' b h2 with ⟨b1,b2,b3⟩ | ⟨j,b1,b2⟩
    ·exact hi.h.one k k' b a3 b3
    ·rcases hcallee j b b1 with h | h
     ·exact absurd h (hfar k b a1 a2 a3)
     ·have:=(hi.h.out k b a3).2;omega
    ·rcases hcallee i b a1 with h | h
     ·exact absurd h (hfar k' b b1 b2 b3)
     ·have:=(hi.h.out k' b b3).2;omega
    ·have:=hh.one i j b a1 b1
     subst this
     rw[a2] at b2
     exact Option.some.inj b2
   ·rcases hown k b h with ⟨a1,a2,a3⟩ | ⟨i,a1,a2⟩
    ·refine⟨fun hF=>?_,Nat.lt_of_lt_of_le (hi.h.out k b a3).2 hfr.size⟩
     rcases hfr.newF b hF with h1 | h1 | h1
     ·exact(hi.h.out k b a3).1 h1
     ·exact hfar k b a1 a2 a3 h1
     ·have:=(hi.h.out k b a3).2;omega
    ·exact hh.out i b a1
   ·refine⟨hfr.os.trans hi.fr.os,hfr.tape.trans hi.fr.tape,hfr.output.trans hi.fr.output,Nat.le_trans hi.fr.size hfr.size,fun b h1 h2=>?_,fun b h=>hfr.old b (hi.fr.old b h),fun b h=>?_,fun k b h=>?_⟩
    ·rw[hfr.keep b (Nat.lt_of_lt_of_le h1 hi.fr.size) (fun h3=>?_)]
     ·exact hi.fr.keep b h1 h2
     ·obtain⟨k',_,h4⟩:=hfp b h3
      rcases hi.fr.newO k' b h4 with h5 | h5
      ·exact h2 h5
      ·omega
    ·rcases hfr.newF b h with h1 | h1 | h1
     ·exact hi.fr.newF b h1
     ·obtain⟨k',_,h4⟩:=hfp b h1
      rcases hi.fr.newO k' b h4 with h5 | h5
      ·exact .inr (.inl h5)
      ·exact .inr (.inr h5)
     ·exact .inr (.inr (Nat.le_trans hi.fr.size h1))
    ·rcases hown k b h with ⟨a1,a2,a3⟩ | ⟨i,a1,a2⟩
     ·exact hi.fr.newO k b a3
     ·rcases hcallee i b a1 with h1 | h1
      ·obtain⟨k',_,h4⟩:=hfp b h1
       exact hi.fr.newO k' b h4
      ·exact .inr (Nat.le_trans hi.fr.size h1)
   ·rw[Um,hnx]
    exact Nat.le_trans hi.n0 (Nat.le_add_right _ _)
   ·rw[J0m]
    obtain⟨x,hx,h⟩:=htm t
    have ht:=hi.tm t
    rw[hx] at ht
    rcases h with h | ⟨hks,h⟩
    ·rw[h];exact U14 hfr.old hFw hμ hb hm ht
    ·rw[h]
     subst hks
     exact Vv hfr.old hFw (fun j hj=>hold j (Ja hi.h (Xr ht j hj)) rfl) ht
  simp only[St.apply]
  cases ks with
  | nil=>exact main st rfl (fun t=>⟨_,rfl,.inr ⟨rfl,rfl⟩⟩) (fun k _=>⟨fun i h=>by simp[U8] at h,fun _=>.inr ⟨rfl,rfl⟩⟩)
  | cons k0 ks=>exact main _ rfl (fun t=>⟨_,rfl,.inl rfl⟩) (fun k _=>⟨fun i h=>by simp only[h],fun h=>.inl (by simp only[h])⟩)
 ·simp only[St.apply]
  rw[←U34]
  exact Q1m hback hv
mutual
theorem X27 {μ:Nat→Pl} {F F':Nat→Prop} {w w':World}:∀ {x:AV} {v:Value},x.thin=true→VRel μ F w x v→VRel μ F' w' x v
 | .int _ _,_,_,h=>by simpa only[VRel] using h
 | .bool _,_,_,h=>by simpa only[VRel] using h
 | .str _,_,_,h=>by simpa only[VRel] using h
 | .np,_,_,h=>by simpa only[VRel] using h
 | .undef,_,_,h=>by simpa only[VRel] using h
 | .nm,_,_,h=>by simpa only[VRel] using h
 | .nf,_,_,h=>by simpa only[VRel] using h
 | .ns,_,_,h=>by simpa only[VRel] using h
 | .ptr _ _,_,_,h=>by simpa only[VRel] using h
 | .rptr _ _ _ _,_,_,h=>by simpa only[VRel] using h
 | .rowA _,_,_,h=>by simpa only[VRel] using h
 | .rowS _ _ _ _,_,_,h=>by simpa only[VRel] using h
 | .mp _,_,_,h=>by simpa only[VRel] using h
 | .psl _ _,_,_,h=>by simpa only[VRel] using h
 | .dead,_,_,h=>by simp only[VRel]
 | .agg cs,_,hp,h=>by
   simp only[AV.thin] at hp
   simp only[VRel] at h ⊢
   obtain⟨us,rfl,h1,h2⟩:=h
   exact⟨us,rfl,Q04 hp h1,h2⟩
 | .tup cs,_,hp,h=>by
   simp only[AV.thin] at hp
   simp only[VRel] at h ⊢
   obtain⟨us,rfl,h1⟩:=h
   exact⟨us,rfl,Q04 hp h1⟩
 | .fn _ cs,_,hp,h=>by
   simp only[AV.thin] at hp
   simp only[VRel] at h ⊢
   obtain⟨us,rfl,h1⟩:=h
   exact⟨us,rfl,Q04 hp h1⟩
 | .list _ _,_,h,_=>by simp[AV.thin] at h
 | .lptr _ _ _ _,_,h,_=>by simp[AV.thin] at h
theorem Q04 {μ:Nat→Pl} {F F':Nat→Prop} {w w':World}:∀ {cs:List AV} {us:List Value},AV.thinL cs=true→Z2 μ F w cs us→Z2 μ F' w' cs us
 | [],_,_,h=>by simpa only[Z2] using h
 | c::cs,_,hp,h=>by
   simp only[AV.thinL,Bool.and_eq_true] at hp
   simp only[Z2] at h ⊢
   obtain⟨u,us,rfl,h1,h2⟩:=h
   exact⟨u,us,rfl,X27 hp.1 h1,Q04 hp.2 h2⟩
end
theorem Z0k {F F':Nat→Prop} {w w':World}:∀ {t:Ty} {x:t.den} {vs:List Value},t.flatTy=true→Enc F w t x vs→Enc F' w' t x vs
 | .int _,_,_,_,h=>by simpa only[Enc] using h
 | .bool,_,_,_,h=>by simpa only[Enc] using h
 | .str,_,_,_,h=>by simpa only[Enc] using h
 | .unit,_,_,_,h=>by simpa only[Enc] using h
 | .list _,_,_,ht,_=>by simp[Ty.flatTy] at ht
 | .pair a b,x,_,ht,h=>by
   simp only[Ty.flatTy,Bool.and_eq_true] at ht
   simp only[Enc] at h ⊢
   obtain⟨us,us',rfl,h1,h2⟩:=h
   exact⟨us,us',rfl,Z0k ht.1 h1,Z0k ht.2 h2⟩
theorem Z20 {F F':Nat→Prop} {w w':World} {kt vt:Ty} (hk:kt.flatTy=true) (hv:vt.flatTy=true):∀ {es:List (kt.den×vt.den)} {ms:List MapEntry},MRel F w kt vt es ms→MRel F' w' kt vt es ms
 | [],_,h=>h
 | e::es,_,⟨m,r,h1,h2,h3,h4⟩=>⟨m,r,h1,Z0k hk h2,Z0k hv h3,Z20 hk hv h4⟩
theorem Z3r {μ:Nat→Pl} {F F':Nat→Prop} {w:World} {o:LObj} {p:Pl} (ho:o.thin=true) (h:ORel μ F w o p):ORel μ F' w o p:=by
 cases o with
 | boxT g cs=>
   cases p<;>simp only[ORel] at h ⊢
   obtain⟨us,E,fz,h1,h2,h3,h4⟩:=h
   exact⟨us,E,fz,h1,h2,Q04 ho h3,h4⟩
 | row t xs=>
   cases p<;>simp only[ORel] at h ⊢
   obtain⟨h1,h2,h3,h4,h5⟩:=h
   refine⟨h1,h2,h3,h4,fun b o ha hc=>?_⟩
   obtain⟨us,E,fz,e1,e2,e3,e4,e5⟩:=h5 b o ha hc
   refine⟨us,E,fz,e1,e2,e3,fun i x hx=>?_,e5⟩
   obtain⟨vs,f1,f2,f3⟩:=e4 i x hx
   exact⟨vs,Z0k ho f1,f2,f3⟩
 | mpo kt vt es=>
   cases p<;>simp only[ORel] at h ⊢
   obtain⟨ms,cl,h1,h2⟩:=h
   simp only[LObj.thin,Bool.and_eq_true] at ho
   exact⟨ms,cl,h1,Z20 ho.1 ho.2 h2⟩
 | gone=>simp[LObj.thin] at ho
theorem Q2j {vs:List AV} (h:AV.thinL vs=true):(Ua vs).thin=true:=by
 match vs with
 | []=>rfl
 | [v]=>simp only[AV.thinL,Bool.and_eq_true] at h;exact h.1
 | a::b::r=>simpa[Ua,AV.thin] using h
theorem X24 {w:World} {F F1:Nat→Prop} (hF:∀ b,F b→F1 b) {res:List AV} {objs':List LObj} {v:Value} {w':World} (hr:AV.thinL res=true) (ho:objs'.all LObj.thin=true)
    (hin:∀ b,F b→b < w.heap.size) {μ0:Nat→Pl} {n0:Nat} (h:Post w μ0 F1 n0 res objs' v w'):Post w μ0 F n0 res objs' v w':=by
 obtain⟨μ',F',h1,h2,h3,h4,h5,h6⟩:=h
 refine⟨μ',F,X27 (Q2j hr) h1,⟨fun k hk=>?_,h2.top,h2.one,fun k b hb=>⟨fun hf=>(h2.out k b hb).1 (h3.old b (hF b hf)),(h2.out k b hb).2⟩,fun b hb=>Nat.lt_of_lt_of_le (hin b hb) h3.size⟩,
  ⟨h3.os,h3.tape,h3.output,h3.size,h3.keep,fun _ h=>h,fun _ h=>.inl h,h3.newO⟩,h4,h5,h6⟩
 refine Z3r ?_ (h2.obj k hk)
 rw[V0a,List.getElem?_eq_getElem hk,Option.getD_some]
 exact List.all_eq_true.1 ho _ (List.getElem_mem hk)
mutual
theorem X47 {hp:Nat→LObj} {ks:List Nat}:∀ {x:AV} {k:Nat},k∈(x.frz hp ks).refs→k∈x.refs
 | .agg cs,k,h=>by simp only[AV.frz,AV.refs] at h ⊢;exact X0b h
 | .tup cs,k,h=>by simp only[AV.frz,AV.refs] at h ⊢;exact X0b h
 | .fn f cs,k,h=>by simp only[AV.frz,AV.refs] at h ⊢;exact X0b h
 | .rptr k' t i off,k,h=>by
   simp only[AV.frz] at h
   cases hc:ks.contains k' with
   | true=>rw[hc] at h;simp[AV.refs] at h
   | false=>rw[hc] at h;simpa using h
 | .rowA k',k,h=>by
   simp only[AV.frz] at h
   cases hc:ks.contains k' with
   | true=>rw[hc] at h;simp only[cond_true] at h;split at h<;>simp[AV.refs] at h
   | false=>rw[hc] at h;simpa using h
 | .rowS k' off n c,k,h=>by
   simp only[AV.frz] at h
   cases hc:ks.contains k' with
   | true=>rw[hc] at h;simp only[cond_true] at h;split at h<;>simp[AV.refs] at h
   | false=>rw[hc] at h;simpa using h
 | .ptr _ _,k,h=>by simpa only[AV.frz] using h
 | .mp _,k,h=>by simpa only[AV.frz] using h
 | .psl _ _,k,h=>by simpa only[AV.frz] using h
 | .int _ _,k,h=>by simpa only[AV.frz] using h
 | .bool _,k,h=>by simpa only[AV.frz] using h
 | .str _,k,h=>by simpa only[AV.frz] using h
 | .list _ _,k,h=>by simpa only[AV.frz] using h
 | .np,k,h=>by simpa only[AV.frz] using h
 | .nm,k,h=>by simpa only[AV.frz] using h
 | .nf,k,h=>by simpa only[AV.frz] using h
 | .ns,k,h=>by simpa only[AV.frz] using h
 | .lptr _ _ _ _,k,h=>by simpa only[AV.frz] using h
 | .undef,k,h=>by simpa only[AV.frz] using h
 | .dead,k,h=>by simpa only[AV.frz] using h
theorem X0b {hp:Nat→LObj} {ks:List Nat}:∀ {cs:List AV} {k:Nat},k∈AV.refsL (AV.frzL hp ks cs)→k∈AV.refsL cs
 | [],k,h=>by simpa only[AV.frzL] using h
 | c::cs,k,h=>by
   simp only[AV.frzL,AV.refsL,List.mem_append] at h ⊢
   rcases h with h | h
   ·exact .inl (X47 h)
   ·exact .inr (X0b h)
end
theorem Q0y {c:Cx} {st:St} {a:Act} {w:World} {μ:Nat→Pl} {F:Nat→Prop} (hi:Inv c st a w μ F) {ks:List Nat} (hks:∀ k,ks.contains k=true→k < st.nx∧∃ al l cp sz,μ k=.row al l cp sz) :
    ∀ {xs:List AV} {us:List Value},Z2 μ F w xs us→Z2 (Un μ ks) (frzF μ F ks) w (AV.frzL st.hp ks xs) us
 | [],_,h=>by simpa only[AV.frzL,Z2] using h
 | x::xs,_,h=>by
   simp only[Z2] at h
   obtain⟨u,us,rfl,h1,h2⟩:=h
   simp only[AV.frzL,Z2]
   exact⟨u,us,rfl,J2b hi hks h1,Q0y hi hks h2⟩
def Z13 (P:Program) (c:Cx) (st:St) (a:Act) (w:World) (o:Oper) (f:Eff):Prop:=
 ∀ (next:Act→World→Prop) (Q:Exit→Act→World→Prop),(∀ v w' μ' F',Inv c (st.apply f).2 a w' μ' F'→VRel μ' F' w' (st.apply f).1 v→next (a.put o.dst v) w')→o.wp P a w next Q
theorem J6 {P:Program} {c:Cx} {st:St} {a:Act} {w:World} {o:Oper} {s:Sem Value} {f:Eff} (h:Outc P c st a w s f)
    (he:∀ v w',s.run P w=.ok v w'→(execOp a.eval o).run P w=.ok (.value v) w'):Z13 P c st a w o f:=by
 intro next Q hn
 obtain⟨v,w',μ',F',h1,h2,h3⟩:=h
 unfold Oper.wp
 rw[he v w' h1]
 simp only[Oper.upon]
 exact hn v w' μ' F' h2 h3
theorem Zn {P:Program} {c:Cx} {st:St} {a:Act} {w:World} {o:Oper} {f:Nat} {vs:List Value} {e:Eff} (hrun:(execOp a.eval o).run P w=.ok (.enter f vs.toArray) w)
    (h:Calls P f vs.toArray w fun x w'=>∃ v,x=.returned v∧∃ μ' F',Inv c (st.apply e).2 a w' μ' F'∧VRel μ' F' w' (st.apply e).1 v):Z13 P c st a w o e:=by
 intro next Q hn
 unfold Oper.wp
 rw[hrun]
 simp only[Oper.upon]
 refine h.mono fun x w' hx=>?_
 obtain⟨v,rfl,μ',F',h1,h2⟩:=hx
 exact hn v w' μ' F' h1 h2
theorem J2a {vs:List AV} (h:AV.plainL vs=true):(Ua vs).plain=true:=by
 match vs with
 | []=>rfl
 | [v]=>simp only[AV.plainL,Bool.and_eq_true] at h;exact h.1
 | a::b::r=>simpa[Ua,AV.plain] using h
mutual
theorem Q38 (f:Nat→Option Nat):∀ (x:AV),x.refs=[]→x.ren f=x
 | .agg cs,h=>by simp only[AV.refs] at h;simp only[AV.ren,Zx f cs h]
 | .tup cs,h=>by simp only[AV.refs] at h;simp only[AV.ren,Zx f cs h]
 | .fn g cs,h=>by simp only[AV.refs] at h;simp only[AV.ren,Zx f cs h]
 | .ptr _ _,h=>by simp[AV.refs] at h
 | .rptr _ _ _ _,h=>by simp[AV.refs] at h
 | .rowA _,h=>by simp[AV.refs] at h
 | .rowS _ _ _ _,h=>by simp[AV.refs] at h
 | .mp _,h=>by simp[AV.refs] at h
 | .psl _ _,h=>by simp[AV.refs] at h
 | .int _ _,_=>by simp only[AV.ren]
 | .bool _,_=>by simp only[AV.ren]
 | .str _,_=>by simp only[AV.ren]
 | .list _ _,_=>by simp only[AV.ren]
 | .np,_=>by simp only[AV.ren]
 | .nm,_=>by simp only[AV.ren]
 | .nf,_=>by simp only[AV.ren]
 | .ns,_=>by simp only[AV.ren]
 | .lptr _ _ _ _,_=>by simp only[AV.ren]
 | .undef,_=>by simp only[AV.ren]
 | .dead,_=>by simp only[AV.ren]
theorem Zx (f:Nat→Option Nat):∀ (cs:List AV),AV.refsL cs=[]→AV.renL f cs=cs
 | [],_=>by simp only[AV.renL]
 | c::cs,h=>by
   simp only[AV.refsL,List.append_eq_nil_iff] at h
   simp only[AV.renL,Q38 f c h.1,Zx f cs h.2]
end
theorem J3p {P:Program} {T:Tab} {orc:Orc} (hO:Zd P orc) {R:Type} {K:Eff→Option R} {r:R} {c:Cx} {st:St} {a:Act} {w:World} {μ:Nat→Pl} {F:Nat→Prop} (hi:Inv c st a w μ F) {f:Nat} {args:List AV} {vs:List Value} {o:Oper}
    (h:Z0q T orc st.hp f args K=some r) (hv:Z2 μ F w args vs)
    (hrun : (∃ fn, P.funcs[f]? = some fn ∧ fn.name ≠ "runtime.NumGoroutine" ∧ fn.body.isNone = false) → (execOp a.eval o).run P w = .ok (.enter f vs.toArray) w) : ∃ e, K e = some r ∧ Z13 P c st a w o e := by
 unfold Z0q at h
 simp only at h
 split at h
 ·rename_i hrows
  obtain⟨hks,_⟩:=Z12 hi.h _ hrows.1 (Za hv)
  ·obtain⟨⟨res,objs'⟩,horc,h⟩:=Tr.run_some h
   simp only at h
   obtain⟨hfn,hsem⟩:=hO _ _ _ _ _ horc
   have hi1:=Z0x hi hks
   have hargs0:=Q0y hi hks hv
   have hargs:Z2 (fun _=>.none) (frzF μ F (AV.refsL args)) w (AV.frzL st.hp (AV.refsL args) args) vs:=by
    refine Jg (fun _ h=>h) (fun _ _=>rfl) (fun k hk=>?_) hargs0
    have h1:=Za hargs0 k hk
    have h2:=X0b hk
    have h3:(AV.refsL args).contains k=true:=by simpa using h2
    simp[Un,h2] at h1
   have hcall:=hsem w (fun _=>.none) (frzF μ F (AV.refsL args)) vs ⟨fun k hk=>by simp at hk,fun _ _=>rfl,fun k k' b h=>by simp[Pl.owns] at h,fun k b h=>by simp[Pl.owns] at h,hi1.h.inn⟩ hargs
   have hnone:∀ b,¬ J0p (fun _=>Pl.none) b:=fun b ⟨k,h⟩=>by simp[Pl.owns] at h
   split at h
   ·rename_i hpl
    simp only[Bool.and_eq_true] at hpl
    refine⟨_,h,Zn (hrun hfn) (hcall.mono fun x w' hx=>?_)⟩
    obtain⟨v,rfl,μ',F',h1,h2,h3,_⟩:=hx
    have hg:Grew w w':=⟨h3.os,h3.tape,h3.output,h3.size,fun b hb=>h3.keep b hb (hnone b)⟩
    have:=Zy hi hg [] [] rfl (by simp) (by simp) (by simp)
    refine⟨v,rfl,_,F,this,?_⟩
    simp only[St.apply]
    exact Q1s (J2a hpl.1) h1
   ·have hpost':∀ v w',Post w (fun _=>.none) (frzF μ F (AV.refsL args)) ([]:List LObj).length res objs' v w'→∀ (m:Nat→Pl),Post w (Ub m []) (frzF μ F (AV.refsL args)) ([]:List Nat).length res objs' v w':=fun v w' hp m=>by
     have:Ub m []=fun _=>.none:=by funext i;simp[Ub]
     rw[this]
     exact hp
    cases hrs:AV.refsL args with
    | nil=>
      have hF:frzF μ F (AV.refsL args)=F:=by
       funext b
       rw[hrs]
       simp[frzF]
      have hin:∀ v w',Post w (fun _=>.none) (frzF μ F (AV.refsL args)) ([]:List LObj).length res objs' v w'→∃ μ' F',Inv c (st.apply (.call [] [] objs' res)).2 a w' μ' F'∧VRel μ' F' w' (st.apply (.call [] [] objs' res)).1 v:=fun v w' hp=>by
       have h1:=hpost' v w' hp μ
       rw[hF] at h1
       exact V09 (ks:=[]) hi (by simp) (by simp) h1
      rw[hrs] at h
      simp only at h
      split at h
      ·rename_i hem
       simp only[Bool.and_eq_true,List.isEmpty_iff] at hem
       refine⟨_,h,Zn (hrun hfn) (hcall.mono fun x w' hx=>?_)⟩
       obtain⟨v,rfl,hp⟩:=hx
       obtain⟨μ',F',h1,h2⟩:=hin v w' hp
       obtain⟨rfl,hrf⟩:=hem
       refine⟨v,rfl,μ',F',h1,?_⟩
       have he:(st.apply (.call [] [] [] res)).1=(st.apply (.val (Ua res))).1:=by
        simp only[St.apply]
        rw[Zx _ _ hrf]
       rw[he] at h2
       exact h2
      ·refine⟨_,h,Zn (hrun hfn) (hcall.mono fun x w' hx=>?_)⟩
       obtain⟨v,rfl,hp⟩:=hx
       exact⟨v,rfl,hin v w' hp⟩
    | cons k0 ks=>
      rw[hrs] at h
      simp only at h
      split at h
      ·rename_i hthin
       simp only[Bool.and_eq_true] at hthin
       refine⟨_,h,Zn (hrun hfn) (hcall.mono fun x w' hx=>?_)⟩
       obtain⟨v,rfl,hp⟩:=hx
       have hp2:=X24 (F:=F) (fun b hb=>Or.inl hb) hthin.1 hthin.2 hi.h.inn hp
       have h1:Post w (Ub μ []) F ([]:List Nat).length res objs' v w':=by
        have:Ub μ []=fun _=>.none:=by funext i;simp[Ub]
        rw[this]
        exact hp2
       exact⟨v,rfl,V09 (ks:=[]) hi (by simp) (by simp) h1⟩
      refine⟨_,h,Zn (hrun hfn) (hcall.mono fun x w' hx=>?_)⟩
      obtain⟨v,rfl,hp⟩:=hx
      have h1:=hpost' v w' hp (Un μ (AV.refsL args))
      have h2:=V09 (ks:=[]) hi1 (by simp) (by simp) h1
      rw[hrs] at h2
      exact⟨v,rfl,h2⟩
 ·split at h
  ·rename_i hmix
   obtain⟨⟨res,objs'⟩,horc,h⟩:=Tr.run_some h
   simp only at h
   ·obtain⟨hfn,hsem⟩:=hO _ _ _ _ _ horc
    have hsubl:∀ (l:List Nat),∀ k∈V4 st.hp l,k∈l:=fun l=>by
     induction l with
     | nil=>intro k h;simp[V4] at h
     | cons x l ih=>
       intro k h
       simp only[V4] at h
       split at h
       ·rcases List.mem_cons.1 h with rfl | h
        ·simp
        ·exact List.mem_cons_of_mem _ (ih k h)
       ·exact List.mem_cons_of_mem _ (ih k h)
    have hrr:(V4 st.hp (V4 st.hp (AV.refsL args))).length=(V4 st.hp (AV.refsL args)).length:=by
     have:∀ (l:List Nat),V4 st.hp (V4 st.hp l)=V4 st.hp l:=fun l=>by
      induction l with
      | nil=>rfl
      | cons x l ih=>
        simp only[V4]
        split
        ·rename_i hx
         simp only[V4,hx,ih]
        ·exact ih
     rw[this]
    have hrt:=Za hv
    obtain⟨hks,_⟩:=Z12 hi.h (V4 st.hp (AV.refsL args)) hrr (fun k hk=>hrt k (hsubl _ k hk))
    have hi1:=Z0x hi hks
    have hargs0:=Q0y hi hks hv
    have hQ:∀ k∈Q8 st.hp 1000 (AV.refsL args) [],μ k≠.none:=by
     refine Q0a (fun k hk j hj=>?_) 1000 _ _ hrt (by simp)
     exact Xj (hi.h.obj k (Ja hi.h hk)) j hj
    have hnd0:=Ux (hp:=st.hp) 1000 (AV.refsL args) [] (by simp)
    generalize hK:(Q8 st.hp 1000 (AV.refsL args) []).filter (fun k=>!(V4 st.hp (AV.refsL args)).contains k)=ks1 at *
    have hmem:∀ k∈ks1,k∈Q8 st.hp 1000 (AV.refsL args) []∧(V4 st.hp (AV.refsL args)).contains k=false:=fun k hk=>by
     rw[←hK,List.mem_filter] at hk
     exact⟨hk.1,by simpa using hk.2⟩
    have hnd:ks1.Nodup:=by rw[←hK];exact hnd0.filter _
    have hlt:∀ k∈ks1,k < st.nx:=fun k hk=>Ja hi.h (hQ k (hmem k hk).1)
    have hinv0:=J1g hi.h hnd hlt
    have hposmem:∀ k i,U8 k ks1 0=some i→k∈ks1∧Ub μ ks1 i=μ k:=fun k i h=>by
     obtain⟨_,h2⟩:=Qa h
     simp only[Nat.sub_zero] at h2
     exact⟨List.mem_of_getElem? h2,by simp[Ub,h2]⟩
    have hinv:HInv w (ofHp (ks1.map fun k=>(st.hp k).ren fun k=>U8 k ks1 0)) (ks1.map fun k=>(st.hp k).ren fun k=>U8 k ks1 0).length (Ub μ ks1) (frzF μ F (V4 st.hp (AV.refsL args))):=
     ⟨fun i hi'=>Uc (fun b h=>.inl h) (fun _ _=>rfl) (fun _ _=>rfl) (fun _ _=>rfl) (hinv0.obj i hi'),hinv0.top,hinv0.one,(fun i b hb=>by
      refine⟨fun hF=>?_,(hinv0.out i b hb).2⟩
      rcases hF with hF | ⟨k,hk,h3⟩
      ·exact(hinv0.out i b hb).1 hF
      ·have hb':=hb
       unfold Ub at hb'
       split at hb'
       ·rename_i k' hk'
        have:=hi.h.one k k' b h3 hb'
        subst this
        have:=(hmem k (List.mem_of_getElem? hk')).2
        rw[hk] at this
        cases this
       ·cases hb'),hi1.h.inn⟩
    have hargs:Z2 (Ub μ ks1) (frzF μ F (V4 st.hp (AV.refsL args))) w (AV.renL (fun k=>U8 k ks1 0) (AV.frzL st.hp (V4 st.hp (AV.refsL args)) args)) vs:=
     Qr (fun k i h=>by
      obtain⟨h1,h2⟩:=hposmem k i h
      rw[h2]
      simp only[Un,(hmem k h1).2]
      rfl) hargs0
    have hcall:=hsem w _ _ vs hinv hargs
    split at h
    ·rename_i hthin
     simp only[Bool.and_eq_true] at hthin
     refine⟨_,h,Zn (hrun hfn) (hcall.mono fun x w' hx=>?_)⟩
     obtain⟨v,rfl,hpost⟩:=hx
     rw[List.length_map] at hpost
     have hp2:=X24 (F:=F) (fun b hb=>Or.inl hb) hthin.1 hthin.2 hi.h.inn hpost
     exact⟨v,rfl,V09 hi hnd (fun k hk=>⟨hlt k hk,hQ k (hmem k hk).1⟩) hp2⟩
    ·refine⟨_,h,Zn (hrun hfn) (hcall.mono fun x w' hx=>?_)⟩
     obtain⟨v,rfl,hpost⟩:=hx
     rw[List.length_map] at hpost
     have hsp:Ub μ ks1=Ub (Un μ (V4 st.hp (AV.refsL args))) ks1:=by
      funext i
      unfold Ub
      split
      ·rename_i k hk
       simp only[Un,(hmem k (List.mem_of_getElem? hk)).2]
       rfl
      ·rfl
     rw[hsp] at hpost
     have hfin:=V09 hi1 hnd (fun k hk=>⟨hlt k hk,by simp only[Un,(hmem k hk).2];exact hQ k (hmem k hk).1⟩) hpost
     have hne:=hmix.1
     generalize V4 st.hp (AV.refsL args)=rows at *
     cases rows with
     | nil=>cases hne
     | cons r0 rs0=>exact⟨v,rfl,hfin⟩
  ·obtain⟨⟨res,objs'⟩,horc,h⟩:=Tr.run_some h
   simp only at h
   obtain⟨hfn,hsem⟩:=hO _ _ _ _ _ horc
   have hQ:∀ k∈Q8 st.hp 1000 (AV.refsL args) [],μ k≠.none:=by
    refine Q0a (fun k hk j hj=>?_) 1000 _ _ (Za hv) (by simp)
    exact Xj (hi.h.obj k (Ja hi.h hk)) j hj
   have hnd:=Ux (hp:=st.hp) 1000 (AV.refsL args) [] (by simp)
   have hlt:∀ k∈Q8 st.hp 1000 (AV.refsL args) [],k < st.nx:=fun k hk=>Ja hi.h (hQ k hk)
   have hinv:=J1g hi.h hnd hlt
   have hargs:Z2 (Ub μ (Q8 st.hp 1000 (AV.refsL args) [])) F w (AV.renL (fun k=>U8 k (Q8 st.hp 1000 (AV.refsL args) []) 0) args) vs:=
    Qr (fun k i h=>by
     obtain⟨_,h2⟩:=Qa h
     simp only[Nat.sub_zero] at h2
     simp[Ub,h2]) hv
   have hcall:=hsem w _ F vs hinv hargs
   refine⟨_,h,Zn (hrun hfn) (hcall.mono fun x w' hx=>?_)⟩
   obtain⟨v,rfl,hpost⟩:=hx
   rw[List.length_map] at hpost
   exact⟨v,rfl,V09 hi hnd (fun k hk=>⟨hlt k hk,hQ k hk⟩) hpost⟩
theorem Q2f {c:Cx} {st:St} {a:Act} {w:World} {μ:Nat→Pl} {F:Nat→Prop} (hi:Inv c st a w μ F):∀ (xs:List Operand),Z2 μ F w (xs.map st.ev) (xs.map a.eval)
 | []=>by simp[Z2]
 | x::xs=>by simp only[List.map_cons,Z2];exact⟨_,_,rfl,V1v hi x,Q2f hi xs⟩
theorem V1r {μ:Nat→Pl} {F:Nat→Prop} {w:World}:∀ {cs:List AV} {ts:List (Option Ty)} {us:List Value},Z2 μ F w cs us→Z2 μ F w (X00 cs ts) us
 | [],ts,us,h=>by cases ts<;>simpa only[X00] using h
 | c::cs,[],us,h=>by cases c<;>simpa only[X00] using h
 | c::cs,t::ts,us,h=>by
   simp only[Z2] at h
   obtain⟨u,us,rfl,h1,h2⟩:=h
   have key:∀ c',VRel μ F w c' u→Z2 μ F w (c'::X00 cs ts) (u::us):=fun c' hc=>by
    simp only[Z2]
    exact⟨u,us,rfl,hc,V1r h2⟩
   cases c<;>cases t<;>simp only[X00]<;>first | exact key _ h1 | skip
   rename_i τ
   simp only[VRel] at h1
   subst h1
   exact key (.list τ []) (Qi.2 ⟨none,0,rfl,by simp,fun _=>rfl,fun a ha=>by cases ha⟩)
theorem Q0h {T:Tab} {μ:Nat→Pl} {F:Nat→Prop} {w:World} (t:Nat) {x:AV} {v:Value} (h:VRel μ F w x v):VRel μ F w (X0e T t x) v:=by
 unfold X0e
 split
 ·split
  ·simp only[VRel] at h ⊢
   obtain⟨us,rfl,h1,h2⟩:=h
   exact⟨us,rfl,V1r h1,h2⟩
  ·exact h
 ·exact h
theorem U3q {T:Tab} {μ:Nat→Pl} {F:Nat→Prop} {w:World} (t:Nat) {x:AV} {v:Value} (h:VRel μ F w x v):VRel μ F w (U4p T t x) v:=by
 unfold U4p
 cases T.nild with
 | true=>exact Q0h t h
 | false=>exact h
theorem Q2v {P:Program} {T:Tab} {μ:Nat→Pl} {F:Nat→Prop} {w:World} (t:Nat) {x:AV} {v:Value} (h:VRel μ F w x v):VRel μ F w (V0w T t x) v:=by
 unfold V0w
 split
 ·cases T.kns with | true=>exact h | false=>?_
  rw[cond_false]
  split
  ·split
   ·simp only[VRel] at h ⊢
    subst h
    exact⟨none,0,rfl,by simp,fun _=>rfl,fun a ha=>by cases ha⟩
   ·exact h
  ·exact h
 ·cases T.kns with | true=>exact h | false=>exact Q0h t h
theorem J0d {P:Program} {T:Tab} {μ:Nat→Pl} {F:Nat→Prop} {w:World}:∀ (ts:List Nat) {xs:List AV} {vs:List Value},Z2 μ F w xs vs→Z2 μ F w (Ql T ts xs) vs
 | [],xs,vs,h=>by cases xs<;>simpa[Ql] using h
 | t::ts,[],vs,h=>by simpa[Ql] using h
 | t::ts,x::xs,vs,h=>by
   simp only[Z2] at h
   obtain⟨u,us,rfl,h1,h2⟩:=h
   simp only[Ql,Z2]
   exact⟨u,us,rfl,Q2v (P:=P) t h1,J0d (P:=P) ts h2⟩
theorem Z1j {P:Program} {T:Tab} (hT:Q6 P T):∀ (fs:List Field) (ps:List (Nat×Nat)) (w:World),X0z T (fs.map fun f=>(f.offset,f.type))=some ps→
    ((fs.mapM fun f=>Prod.mk f.offset <$> sizeOf f.type):Sem (List (Nat×Nat))).run P w=.ok ps w
 | [],ps,w,h=>by simp[X0z] at h;subst h;simp
 | f::fs,ps,w,h=>by
   simp only[List.map_cons,X0z] at h
   split at h
   ·rename_i n r hn hr
    cases h
    have:=Z1j hT fs r w hr
    simp[List.mapM_cons,Zg hT hn,this]
   ·cases h
theorem Z34 {P:Program} {T:Tab} (hT:Q6 P T) {μ:Nat→Pl} {F:Nat→Prop} {w:World} {t:Nat} {ps:List (Nat×AV)} {qs:List (Nat×Value)} {x:AV}
    (h:X35 T t ps=some x) (hl:qs.length=ps.length) (hr:∀ (i:Nat) (p:Nat×AV) (q:Nat×Value),ps[i]?=some p→qs[i]?=some q→q.1=p.1∧VRel μ F w p.2 q.2) :
    ∃ v,(Instr.build t qs.toArray).run P w=.ok v w∧VRel μ F w x v:=by
 unfold X35 at h
 split at h
 ·cases h
 ·rename_i row hrow
  obtain⟨i0,z,e1,e2,e3,e4,e5,e6,e7,e8⟩:=(hT t row hrow).info
  have hdesc:=(hT t row hrow).desc
  split at h
  ·rename_i fs hd
   rw[hd] at hdesc
   obtain⟨fields,hu,rfl,_⟩:=hdesc
   split at h
   ·rename_i pl hpl
    split at h
    ·rename_i cs hcs
     cases h
     obtain⟨vs,g1,g2,g3⟩:=Q14 ps qs row.zero cs z.cells.toList hl hr hcs (e6 μ F w) e7
     refine⟨.agg vs.toArray,?_,by simp only[VRel];exact⟨vs,rfl,g2,g3⟩⟩
     have hm:=Z1j hT fields.toList pl w hpl
     have hm2:((fields.mapM fun f=>Prod.mk f.offset <$> sizeOf f.type):Sem (Array (Nat×Nat))).run P w=.ok pl.toArray w:=by
      rw[Array.mapM_eq_mapM_toList]
      simp only[Sem.run_map,hm,Result.andThen_ok]
     have g1':Instr.fill (fun i=>pl[i]?) z.cells qs=some vs.toArray:=by simpa using g1
     simp[Instr.build,zeroValue,typeInfo,e1,e4,run_underlying hu,hm2,g1']
    ·cases h
   ·cases h
  ·rename_i n e hd
   rw[hd] at hdesc
   simp only[X8] at hdesc
   split at h
   ·rename_i m hm
    split at h
    ·rename_i cs hcs
     cases h
     obtain⟨vs,g1,g2,g3⟩:=Q14 ps qs row.zero cs z.cells.toList hl hr hcs (e6 μ F w) e7
     refine⟨.agg vs.toArray,?_,by simp only[VRel];exact⟨vs,rfl,g2,g3⟩⟩
     have g1':Instr.fill (fun i=>some (i * m,m)) z.cells qs=some vs.toArray:=by simpa using g1
     simp[Instr.build,zeroValue,typeInfo,e1,e4,run_underlying hdesc,Zg hT hm,g1']
    ·cases h
   ·cases h
  ·cases h
theorem Q3l {P:Program} {T:Tab} (hT:Q6 P T) {c:Cx} {st:St} {a:Act} {w:World} {μ:Nat→Pl} {F:Nat→Prop} (hi:Inv c st a w μ F) {t tx:Nat} (ty:Nat) {x y:AV} {v u:Value} {f:Eff}
    (h:U2r T st.hp t tx x y=some f) (hv:VRel μ F w x v) (hu:VRel μ F w y u):Outc P c st a w (Builtin.copy_ #[t,tx] ty #[v,u]) f:=by
 unfold U2r at h
 split at h<;>try cases h
 rename_i e hd
 have ht:=Z7 hT hd (by simp)
 simp only[X8] at ht
 split at h<;>try cases h
 rename_i s k off len cc hd2
 split at h<;>try cases h
 rename_i xs hk
 split at h<;>cases h
 rename_i hsz
 have hs:=Zg hT hsz
 simp only[VRel] at hv hu
 subst hu
 obtain⟨al,len0,cap,sz,A,cap',hμ,hle,hcap',rfl,hA⟩:=hv
 have hkn:k < st.nx:=Ja hi.h (by rw[hμ];simp)
 have ho:=hi.h.obj k hkn
 rw[hμ,hk] at ho
 have ho':=ho
 simp only[ORel] at ho
 obtain⟨h1,h2,h3,h4,h5⟩:=ho
 subst h1 h2
 have hss:(⟨s.toArray⟩:ByteArray).size=s.length:=by simp[ByteArray.size]
 obtain⟨news,hn⟩:∃ news,news=byteCells ⟨(s.take len).toArray⟩:=⟨_,rfl⟩
 have henc:EncL F w (.int .u8) (Z0 (s.take len)) news:=by rw[hn];exact Z04 _
 have hnl:news.length=min len s.length:=by
  have:=Ui henc
  simpa[Z0,Ty.sz] using this
 have hmin:Nat.min s.length len=min len s.length:=Nat.min_comm _ _
 have htake:(Z0 s).take len=Z0 (s.take len):=by simp[Z0,List.map_take]
 have hcells:∀ w,(Builtin.firstCells 1 (min len s.length) (.string ⟨s.toArray⟩)).run P w=.ok news.toArray w:=fun w=>by
  rw[hn]
  have:((⟨s.toArray⟩:ByteArray).extract 0 (min len s.length))=⟨(s.take len).toArray⟩:=by
   have e:((⟨s.toArray⟩:ByteArray).extract 0 (min len s.length)).data=(s.take len).toArray:=by
    rw[ByteArray.data_extract]
    apply Array.ext'
    simp[List.take_eq_take_iff]
   exact ByteArray.ext e
  simp only[Builtin.firstCells,this,byteCells,Sem.run_pure]
  congr 1
  apply Array.ext'
  simp
 by_cases h0:min len s.length=0
 ·have hnews:news=[]:=List.length_eq_zero_iff.1 (by omega)
  have hrun:(Builtin.copy_ #[t,tx] ty #[.slice A len cap',.string ⟨s.toArray⟩]).run P w=.ok (.int .i64 ((min len s.length:Nat):Int)) w:=by
   have hc:=hcells w
   rw[hnews] at hc
   cases A with
   | none=>simp[Builtin.copy_,run_underlying ht,Builtin.lenOf,hss,hs,hmin,hc,goInt]
   | some ad=>simp[Builtin.copy_,run_underlying ht,Builtin.lenOf,hss,hs,hmin,hc,goInt,storeCells]
  refine⟨_,w,μ,F,hrun,?_,by simp[St.apply,VRel]⟩
  simp only[St.apply]
  refine Vw hi hkn ((Grew.refl w).changed _) ?_
  have e0:(xs:List Int).take off++(Z0 s).take len++(xs:List Int).drop (off+min len s.length)=xs:=by
   rw[htake]
   have:s.take len=[]:=List.length_eq_zero_iff.1 (by rw[List.length_take];omega)
   rw[this,h0]
   simp[Z0]
  rw[hμ,show (LObj.row (.int .u8) ((xs:List Int).take off++(Z0 s).take len++(xs:List Int).drop (off+min len s.length)))=LObj.row (.int .u8) xs by rw[e0]]
  exact ho'
 ·have hlen:0 < len:=by omega
  have hcap0:cap'≠0:=by rw[hcap'];split<;>omega
  obtain⟨b,o,rfl,rfl⟩:=hA hcap0
  have hcapne:cap≠0:=by omega
  obtain⟨us,E,fz,g1,g2,g3,g4,g5⟩:=h5 b o rfl hcapne
  simp only[Ty.sz,Nat.mul_one] at g3 g4 ⊢
  have hown:(μ k).owns=some b:=by simp[hμ,Pl.owns,hcapne]
  have hfit:o+off+news.length≤us.length:=by omega
  obtain⟨e1,e2,e3,e4,e5⟩:=Xd b news (o+off) w
  have hFw:∀ b',F b'→(w.setCells b (o+off) news).heap[b']?=w.heap[b']?:=fun b' hb'=>e5 b' (fun e=>(hi.h.out k b hown).1 (e▸hb'))
  have hst:=run_storeCells_cells (P:=P) b (o+off) news 0 w (fun j hj=>by
      have:o+off+j < us.length:=by omega
      simp[World.cell?,g1,List.getElem?_eq_getElem this]) (fun j hj=>by
      have:o+off+j < us.length:=by omega
      have:=g2 _ this
      simp only[World.frozen?,g1]
      simp
      intro h1
      simp at this
      omega) (U0j henc)
  simp only[Nat.add_zero] at hst
  have hrun:(Builtin.copy_ #[t,tx] ty #[.slice (some ⟨b,o+off,none⟩) len cap',.string ⟨s.toArray⟩]).run P w=.ok (.int .i64 ((min len s.length:Nat):Int)) (w.setCells b (o+off) news):=by
   simp[Builtin.copy_,run_underlying ht,Builtin.lenOf,hss,hs,hmin,hcells w,goInt,hst]
  refine⟨_,_,μ,F,hrun,?_,by simp[St.apply,VRel]⟩
  simp only[St.apply]
  refine Vw hi hkn ⟨e1,e2,e3,by omega,fun b' _ hne=>e5 b' (fun e=>hne (by rw[hown,e]))⟩ ?_
  rw[hμ]
  simp only[ORel]
  refine⟨trivial,by simp[Z0];omega,h3,h4,fun b' o' hbo _=>?_⟩
  cases hbo
  refine⟨_,E,fz,Jd b E fz news _ w us g1 hfit,Q05 hfit g2,by simp[Ty.sz];omega,?_,g5⟩
  have:=U10 (p:=off) (w':=w.setCells b (o+off) news) (us:=us) (o:=o) (xs:=xs) (by simpa[Ty.sz] using g4) henc (by omega) (by simpa[Ty.sz] using hfit) hFw
  intro i q hq
  have:=this i q (by rw[htake] at hq;simpa[Z0] using hq)
  simpa[Ty.sz] using this
theorem U1k (z:Array Value):∀ (n:Nat),(Builtin.zeroCells z n).toList=(List.replicate n z.toList).flatten:=by
 intro n
 unfold Builtin.zeroCells
 simp only[Array.toList_map,Array.toList_range]
 induction n with
 | zero=>simp
 | succ n ih=>
   rw[List.replicate_succ,List.flatten_cons,←ih,Nat.add_mul,Nat.one_mul,Nat.add_comm,List.range_add,List.map_append,List.map_map]
   congr 1
   ·apply List.ext_getElem
    ·simp
    ·intro i h1 h2
     simp at h1
     simp[Nat.mod_eq_of_lt h1,getElem!_pos z i h1]
   ·apply List.map_congr_left
    intro i hi
    simp
theorem Z2k {F:Nat→Prop} {w:World} {t:Ty} {x:t.den} {zs:List Value} (h:Enc F w t x zs):∀ (n:Nat),EncL F w t (List.replicate n x) (List.replicate n zs).flatten
 | 0=>by simp[EncL]
 | n+1=>by
   rw[List.replicate_succ,List.replicate_succ,List.flatten_cons]
   simp only[EncL]
   exact⟨zs,_,rfl,h,Z2k h n⟩
theorem V38 {P:Program} {T:Tab} (hT:Q6 P T) {c:Cx} {st:St} {a:Act} {w:World} {μ:Nat→Pl} {F:Nat→Prop} (hi:Inv c st a w μ F) {t:Nat} (ty:Nat) {x:AV} {v:Value} {f:Eff}
    (h:V1n T st.hp t x=some f) (hv:VRel μ F w x v):Outc P c st a w (Builtin.clear_ #[t] ty #[v]) f:=by
 unfold V1n at h
 split at h<;>try cases h
 rename_i e hd
 have ht:=Z7 hT hd (by simp)
 simp only[X8] at ht
 split at h<;>try cases h
 rename_i row k off len cc hrow
 split at h<;>try cases h
 rename_i τ xs hk
 split at h<;>cases h
 rename_i hty
 obtain⟨hτ,hsz⟩:=hty
 obtain⟨i0,z,e1,e2,e3,e4,e5,e6,e7,e8⟩:=(hT e row hrow).info
 have henc0:=e8 τ hτ F w
 simp only[VRel] at hv
 obtain⟨al,len0,cap,sz,A,cap',hμ,hle,hcap',rfl,hA⟩:=hv
 have hkn:k < st.nx:=Ja hi.h (by rw[hμ];simp)
 have ho:=hi.h.obj k hkn
 rw[hμ,hk] at ho
 have ho':=ho
 simp only[ORel] at ho
 obtain⟨h1,h2,h3,h4,h5⟩:=ho
 subst h1 h2
 obtain⟨news,hn⟩:∃ news,news=(List.replicate len z.cells.toList).flatten:=⟨_,rfl⟩
 have henc:EncL F w τ (List.replicate len τ.dflt) news:=by rw[hn];exact Z2k henc0 len
 have hnl:news.length=len * τ.sz:=by
  have:=Ui henc
  simpa using this
 have hz:∀ w,(zeroValue e).run P w=.ok z w:=fun w=>by simp[zeroValue,typeInfo,e1,e4]
 by_cases h0:len=0
 ·subst h0
  have hrun:(Builtin.clear_ #[t] ty #[.slice A 0 cap']).run P w=.ok (.tuple #[]) w:=by
   cases A<;>simp[Builtin.clear_,run_underlying ht]
  refine⟨_,w,μ,F,hrun,?_,by simp[St.apply,VRel,Z2]⟩
  simp only[St.apply]
  refine Vw hi hkn ((Grew.refl w).changed _) ?_
  rw[hμ,show (LObj.row τ ((xs:List τ.den).take off++List.replicate 0 τ.dflt++(xs:List τ.den).drop (off+0)))=LObj.row τ xs by simp]
  exact ho'
 ·have hlen:0 < len:=by omega
  have hcap0:cap'≠0:=by rw[hcap'];split<;>omega
  obtain⟨b,o,rfl,rfl⟩:=hA hcap0
  have hcapne:cap≠0:=by omega
  obtain⟨us,E,fz,g1,g2,g3,g4,g5⟩:=h5 b o rfl hcapne
  have hown:(μ k).owns=some b:=by simp[hμ,Pl.owns,hcapne]
  have hfit:o+off * τ.sz+news.length≤us.length:=by
   have:(off+len) * τ.sz≤cap * τ.sz:=Nat.mul_le_mul_right _ (by omega)
   rw[Nat.add_mul] at this
   omega
  obtain⟨e1',e2',e3',e4',e5'⟩:=Xd b news (o+off * τ.sz) w
  have hFw:∀ b',F b'→(w.setCells b (o+off * τ.sz) news).heap[b']?=w.heap[b']?:=fun b' hb'=>e5' b' (fun e=>(hi.h.out k b hown).1 (e▸hb'))
  have hst:=run_storeCells_cells (P:=P) b (o+off * τ.sz) news 0 w (fun j hj=>by
      have:o+off * τ.sz+j < us.length:=by omega
      simp[World.cell?,g1,List.getElem?_eq_getElem this]) (fun j hj=>by
      have:o+off * τ.sz+j < us.length:=by omega
      have:=g2 _ this
      simp only[World.frozen?,g1]
      simp
      intro h1
      simp at this
      omega) (U0j henc)
  simp only[Nat.add_zero] at hst
  have hrun:(Builtin.clear_ #[t] ty #[.slice (some ⟨b,o+off * τ.sz,none⟩) len cap']).run P w=.ok (.tuple #[]) (w.setCells b (o+off * τ.sz) news):=by
   obtain⟨m,rfl⟩:∃ m,len=m+1:=⟨len - 1,by omega⟩
   rw[hn,←U1k] at hst
   rw[hn,←U1k]
   simp[Builtin.clear_,run_underlying ht,hz,hst]
  refine⟨_,_,μ,F,hrun,?_,by simp[St.apply,VRel,Z2]⟩
  simp only[St.apply]
  refine Vw hi hkn ⟨e1',e2',e3',by omega,fun b' _ hne=>e5' b' (fun e=>hne (by rw[hown,e]))⟩ ?_
  rw[hμ]
  simp only[ORel]
  refine⟨trivial,by simp;omega,h3,h4,fun b' o' hbo _=>?_⟩
  cases hbo
  refine⟨_,E,fz,Jd b E fz news _ w us g1 hfit,Q05 hfit g2,by simp;omega,?_,g5⟩
  have:=U10 (p:=off) (w':=w.setCells b (o+off * τ.sz) news) (us:=us) (o:=o) (xs:=xs) g4 henc (by omega) hfit hFw
  simpa using this
theorem Q63 {μ:Nat→Pl} {F:Nat→Prop} {w:World} {v:AV} {cs:List AV} {u:Value} (ha:v.isAgg=false) (h:v.cellsOf=some cs) (hv:VRel μ F w v u):u.cells=#[u]:=by
 cases v<;>simp only[AV.cellsOf] at h<;>(try cases h)<;>simp only[VRel] at hv<;>(try (subst hv;rfl))
 case agg=>simp[AV.isAgg] at ha
 case list=>obtain⟨A,cap,rfl,_⟩:=Qi.1 hv;rfl
 case ptr=>obtain⟨b,_,rfl⟩:=hv;rfl
 case psl=>obtain⟨b,_,rfl⟩:=hv;rfl
 case rptr=>obtain⟨b,o,l,c,_,_,rfl⟩:=hv;rfl
 case lptr=>obtain⟨b,o,_,_,_,rfl⟩:=hv;rfl
 case rowA=>obtain⟨a,l,c,s,A,_,rfl,_⟩:=hv;rfl
 case rowS=>obtain⟨a,l,cp,s,A,c',_,_,_,rfl,_⟩:=hv;rfl
 case mp=>obtain⟨b,_,rfl⟩:=hv;rfl
 case fn=>obtain⟨us,rfl,_⟩:=hv;rfl
theorem Z0g {μ:Nat→Pl} {F:Nat→Prop} {w:World} {t:Ty} {v:AV} {x:t.den} {u:Value} (ha:v.isAgg=false) (h:asTy t v=some x) (hv:VRel μ F w v u):Enc F w t x [u]:=by
 have he:=U1w h hv
 unfold asTy at h
 split at h
 ·rename_i cs hcs
  rw[Q63 ha hcs hv] at he
  exact he
 ·cases h
theorem U0v {μ:Nat→Pl} {F:Nat→Prop} {w:World} {t:Ty} {x:t.den} {u:Value} (h:Enc F w t x [u]):VRel μ F w (AV.ofTy t x false) u:=by
 have hf:=Qx (μ:=μ) t x _ h
 simp only[AV.ofTy,Bool.false_eq_true,if_false]
 split
 ·rename_i y hy
  rw[hy] at hf
  simp only[Z2] at hf
  obtain⟨u',us',h1,h2,_⟩:=hf
  simp at h1
  rw[h1.1]
  exact h2
 ·simp[VRel]
def KeyD:Ty→TypeDesc→Prop
 | .int k,d=>d=.int k
 | .str,d=>d=.string
 | _,_=>False
theorem Q2m {P:Program} {T:Tab} (hT:Q6 P T) {t:Nat} {kt:Ty} (h:X3d T t=some kt):∃ d,P.underlying t=some d∧KeyD kt d:=by
 unfold X3d at h
 split at h
 ·rename_i k hd;cases h;exact⟨_,by have:=Z7 hT hd (by simp);simpa only[X8] using this,rfl⟩
 ·rename_i hd;cases h;exact⟨_,by have:=Z7 hT hd (by simp);simpa only[X8] using this,rfl⟩
 ·cases h
theorem J3t {F:Nat→Prop} {w:World} {kt:Ty} {d:TypeDesc} (hk:KeyD kt d) {x:kt.den} {v:Value} (h:Enc F w kt x [v]):MapKept.IsKey d v:=by
 cases kt<;>simp only[KeyD] at hk
 ·subst hk;simp[Enc] at h;subst h;simp[MapKept.IsKey]
 ·subst hk;simp[Enc] at h;subst h;simp[MapKept.IsKey]
theorem J3v {F:Nat→Prop} {w:World} {kt:Ty} {d:TypeDesc} (hk:KeyD kt d) {x y:kt.den} {u v:Value} (hx:Enc F w kt x [u]) (hy:Enc F w kt y [v]):Instr.sameNow d u v=some (kt.keq x y)∧(kt.keq x y=true→Instr.sameBits 10000 v u=true):=by
 cases kt<;>simp only[KeyD] at hk
 ·subst hk
  simp[Enc] at hx hy
  subst hx hy
  simp[Instr.sameNow,Ty.keq,Instr.sameBits]
  exact⟨rfl,fun h=>h.symm⟩
 ·subst hk
  simp[Enc] at hx hy
  subst hx hy
  refine⟨?_,fun h=>?_⟩
  ·simp only[Instr.sameNow,Ty.keq]
   congr 1
   by_cases h:x=y
   ·rw[h]
    exact((MapKept.bytes_beq _ _).2 rfl).trans (by simp)
   ·have h1:(x==y)=false:=by simpa using h
    have h2:((⟨List.toArray x⟩:ByteArray)==⟨List.toArray y⟩)=false:=by
     cases hb:((⟨List.toArray x⟩:ByteArray)==⟨List.toArray y⟩) with
     | false=>rfl
     | true=>
       have e:=(MapKept.bytes_beq _ _).1 hb
       simp at e
       exact absurd e h
    rw[h1,h2]
  ·simp only[Ty.keq,beq_iff_eq] at h
   rw[h]
   simp only[Instr.sameBits]
   exact(MapKept.bytes_beq _ _).2 rfl
theorem U1p {F:Nat→Prop} {w:World} {kt vt:Ty} {d:TypeDesc} (hk:KeyD kt d) {x:kt.den} {k:Value} (hx:Enc F w kt x [k]):∀ (es:List (kt.den×vt.den)) (ms:List MapEntry) (i:Nat),MRel F w kt vt es ms→
    (Instr.findNow d k ms i=some none∧Vx kt vt x es=none∧∀ y v b,Enc F w vt y [v]→MRel F w kt vt (putM kt vt x y es) (ms++[{ key:=k,val:=v,born:=b }])) ∨
    ∃ n m y,Instr.findNow d k ms i=some (some (i+n,m.val))∧ms[n]?=some m∧Vx kt vt x es=some y∧Enc F w vt y [m.val]∧Instr.sameBits 10000 m.key k=true ∧
      ∀ z v,Enc F w vt z [v]→MRel F w kt vt (putM kt vt x z es) (ms.modify n fun e=>{ e with key:=k,val:=v })
 | [],ms,i,h=>by
   simp only[MRel] at h
   subst h
   refine .inl ⟨rfl,rfl,fun y v b hv=>?_⟩
   simp only[putM,List.nil_append,MRel]
   exact⟨_,[],rfl,hx,hv,rfl⟩
 | e::es,_,i,⟨m,r,rfl,h2,h3,h4⟩=>by
   obtain⟨hs,hb⟩:=J3v hk hx h2
   cases hq:kt.keq x e.1 with
   | true=>
     refine .inr ⟨0,m,e.2,by simp[Instr.findNow,hs,hq],rfl,by simp[Vx,hq],h3,hb hq,fun z v hv=>?_⟩
     simp only[putM,hq,cond_true,MRel]
     exact⟨_,r,rfl,hx,hv,h4⟩
   | false=>
     rcases U1p hk hx es r (i+1) h4 with ⟨f1,f2,f3⟩ | ⟨n,m',y,f1,f2,f3,f4,f5,f6⟩
     ·refine .inl ⟨by simp[Instr.findNow,hs,hq,f1],by simp[Vx,hq,f2],fun y v b hv=>?_⟩
      simp only[putM,hq,cond_false,MRel,List.cons_append]
      exact⟨_,_,rfl,h2,h3,f3 y v b hv⟩
     ·refine .inr ⟨n+1,m',y,by simp[Instr.findNow,hs,hq,f1];omega,by simpa using f2,by simp[Vx,hq,f3],f4,f5,fun z v hv=>?_⟩
      simp only[putM,hq,cond_false,MRel,List.modify_succ_cons]
      exact⟨_,_,rfl,h2,h3,f6 z v hv⟩
theorem U3t {P:Program} {T:Tab} (hT:Q6 P T) {t:Nat} {vt:Ty} (h:J3g T t=some vt):∃ z,(∀ w,(zeroValue t).run P w=.ok z w)∧(∀ F w,Enc F w vt vt.dflt [z]):=by
 unfold J3g at h
 split at h
 ·rename_i r hr
  split at h
  ·rename_i τ hτ
   split at h<;>cases h
   rename_i hc
   obtain⟨i,z,e1,e2,e3,e4,e5,e6,e7,e8⟩:=(hT t r hr).info
   have hz:z.cells=#[z]:=(hT t r hr).plain hc.2 i z e1 e4
   exact⟨z,fun w=>by simp[zeroValue,typeInfo,e1,e4],fun F w=>by have:=e8 _ hτ F w;rwa [hz] at this⟩
  ·cases h
 ·cases h
theorem U23 {P:Program} {T:Tab} (hT:Q6 P T) {t:Nat} {p:Ty×Ty} (h:Z0j T t=some p):∃ k e,P.underlying t=some (.map k e)∧X3d T k=some p.1∧J3g T e=some p.2:=by
 unfold Z0j at h
 split at h
 ·rename_i k e hd
  split at h
  ·rename_i kt vt h1 h2
   cases h
   exact⟨k,e,by have:=Z7 hT hd (by simp);simpa only[X8] using this,h1,h2⟩
  ·cases h
 ·cases h
theorem Q4s {c:Cx} {st:St} {a:Act} {w:World} {μ:Nat→Pl} {F:Nat→Prop} (hi:Inv c st a w μ F) (kt vt:Ty) :
    Inv c (st.news [.mpo kt vt []]) a (w.alloc (.map #[] 0)) (Zo μ st.nx [.map w.heap.size]) F∧VRel (Zo μ st.nx [.map w.heap.size]) F (w.alloc (.map #[] 0)) (.mp st.nx) (.map (some w.heap.size)):=by
 refine⟨Zy hi (Xv w _) _ _ rfl ?_ ?_ ?_,?_⟩
 ·intro i o p ho hp
  cases i with
  | zero=>
    simp at ho hp
    subst ho hp
    simp only[ORel]
    exact⟨[],0,Z01 w _,rfl⟩
  | succ i=>simp at ho
 ·intro i p b hp hpo
  cases i with
  | zero=>simp at hp;subst hp;simp[Pl.owns] at hpo;subst hpo;simp
  | succ i=>simp at hp
 ·intro i j p q b hp hq _ _
  cases i<;>cases j<;>simp at hp hq<;>rfl
 ·simp only[VRel]
  exact⟨w.heap.size,by have:=Jp (μ:=μ) (nx:=st.nx) (ps:=[Pl.map w.heap.size]) 0;simpa using this,rfl⟩
theorem V2e {P:Program} {T:Tab} {c:Cx} {st:St} {a:Act} {w:World} {μ:Nat→Pl} {F:Nat→Prop} (hi:Inv c st a w μ F) {t:Nat} {f:Eff}
    (h:J0h T st.nx t=some f):Outc P c st a w (Instr.makeMap t none) f:=by
 unfold J0h at h
 split at h<;>cases h
 rename_i p _
 have:=Q4s hi p.1 p.2
 exact⟨_,_,_,F,by simp[Instr.makeMap],this.1,this.2⟩
theorem Q3r {P:Program} {T:Tab} (hT:Q6 P T) {w:World} {hp:Nat→LObj} {nx:Nat} {μ:Nat→Pl} {F:Nat→Prop} (hi:HInv w hp nx μ F) {t:Nat} {m k z:AV} {ok:Bool} {u v:Value}
    (h:Q1o T hp t m k ok=some z) (hm:VRel μ F w m u) (hk:VRel μ F w k v):∃ q,(Instr.lookup t u v ok).run P w=.ok q w∧VRel μ F w z q:=by
 unfold Q1o at h
 split at h<;>try cases h
 rename_i p j hp'
 obtain⟨kd,e,ht,hkt,hvt⟩:=U23 hT hp'
 split at h<;>try cases h
 rename_i kt vt es hes
 split at h<;>try cases h
 rename_i hpe
 obtain⟨rfl,hka⟩:=hpe
 split at h<;>try cases h
 rename_i x hx
 simp only[VRel] at hm
 obtain⟨b,hμ,rfl⟩:=hm
 have ho:=hi.obj j (by
  by_cases hlt:j < nx
  ·exact hlt
  ·rw[hi.top j (by omega)] at hμ;cases hμ)
 rw[hes,hμ] at ho
 simp only[ORel] at ho
 obtain⟨ms,clock,hb,hM⟩:=ho
 obtain⟨d,hd,hkd⟩:=Q2m hT hkt
 have hkv:=Z0g hka hx hk
 have hck:∀ e',(Instr.checkKey e' 10000 kd v).run P w=.ok () w:=fun e'=>MapKept.run_checkKey hd (J3t hkd hkv) e' 9999
 obtain⟨zv,hz1,hz2⟩:=U3t hT hvt
 rcases U1p hkd hkv es ms 0 hM with ⟨f1,f2,_⟩ | ⟨n,m,y,f1,f2,f3,f4,_,_⟩
 ·have hf:=MapKept.run_findKey (P:=P) (w:=w) hd f1
  have hg:getM kt vt x es=vt.dflt:=by simp[getM,f2]
  have hh:hasM kt vt x es=false:=by simp[hasM,f2]
  cases ok with
  | true=>
    simp only[if_true] at h
    cases h
    refine⟨.tuple #[zv,.bool false],by simp[Instr.lookup,run_underlying ht,MapKept.run_getObj_map hb,hck,hf,hz1],?_⟩
    simp only[VRel,Z2]
    exact⟨[zv,.bool false],rfl,zv,[.bool false],rfl,by rw[hg];exact U0v (hz2 F w),.bool false,[],rfl,by rw[hh],rfl⟩
  | false=>
    simp at h
    subst h
    exact⟨zv,by simp[Instr.lookup,run_underlying ht,MapKept.run_getObj_map hb,hck,hf,hz1],by rw[hg];exact U0v (hz2 F w)⟩
 ·have hf:=MapKept.run_findKey (P:=P) (w:=w) hd f1
  have hg:getM kt vt x es=y:=by simp[getM,f3]
  have hh:hasM kt vt x es=true:=by simp[hasM,f3]
  cases ok with
  | true=>
    simp only[if_true] at h
    cases h
    refine⟨.tuple #[m.val,.bool true],by simp[Instr.lookup,run_underlying ht,MapKept.run_getObj_map hb,hck,hf],?_⟩
    simp only[VRel,Z2]
    exact⟨[m.val,.bool true],rfl,m.val,[.bool true],rfl,by rw[hg];exact U0v f4,.bool true,[],rfl,by rw[hh],rfl⟩
  | false=>
    simp at h
    subst h
    exact⟨m.val,by simp[Instr.lookup,run_underlying ht,MapKept.run_getObj_map hb,hck,hf],by rw[hg];exact U0v f4⟩
theorem U3p (hp:Nat→LObj) (ks:List Nat) (v:AV) (h:v.isAgg=false):(v.frz hp ks).isAgg=false:=by
 cases v<;>first | rfl | (simp[AV.isAgg] at h;done) | skip
 all_goals simp only[AV.frz]
 all_goals (cases ks.contains _<;>simp only[cond_true,cond_false])
 all_goals first | rfl | skip
 all_goals (split<;>rfl)
theorem J3b {P:Program} {T:Tab} (hT:Q6 P T) {c:Cx} {st:St} {a:Act} {w:World} {μ:Nat→Pl} {F:Nat→Prop} (hi:Inv c st a w μ F) {t j b:Nat} {kt vt:Ty} {es:List (kt.den×vt.den)}
    (hp':Z0j T t=some (kt,vt)) (hes:st.hp j=.mpo kt vt es) (hμ:μ j=.map b) {x:kt.den} {y:vt.den} {k v:Value} (hx:Enc F w kt x [k]) (hy:Enc F w vt y [v]) :
    ∃ w',(Instr.mapUpdate t (.map (some b)) k v).run P w=.ok () w'∧Inv c (st.upd j (.mpo kt vt (putM kt vt x y es))) a w' μ F:=by
 obtain⟨kd,e,ht,hkt,hvt⟩:=U23 hT hp'
 have hj:j < st.nx:=by
  by_cases hlt:j < st.nx
  ·exact hlt
  ·rw[hi.h.top j (by omega)] at hμ;cases hμ
 have ho:=hi.h.obj j hj
 rw[hes,hμ] at ho
 simp only[ORel] at ho
 obtain⟨ms,clock,hb,hM⟩:=ho
 obtain⟨d,hd,hkd⟩:=Q2m hT hkt
 have hck:(Instr.checkKey false 10000 kd k).run P w=.ok () w:=MapKept.run_checkKey hd (J3t hkd hx) false 9999
 have hch:∀ o:Obj,Changed w { w with heap:=w.heap.setIfInBounds b o } (fun b'=>(μ j).owns=some b'):=fun o=>
  ⟨rfl,rfl,rfl,by simp,fun b' _ hne=>(MapKept.heap_set (o':=o) hb).2 b' (fun e=>hne (by rw[hμ,e];rfl))⟩
 have hFw:∀ (o:Obj) b',F b'→({ w with heap:=w.heap.setIfInBounds b o }:World).heap[b']?=w.heap[b']?:=fun o b' hb'=>(MapKept.heap_set (o':=o) hb).2 b' (fun e=>(hi.h.out j b (by rw[hμ];rfl)).1 (e▸hb'))
 rcases U1p hkd hx es ms 0 hM with ⟨f1,f2,f3⟩ | ⟨n,m,z,f1,f2,f3,f4,f5,f6⟩
 ·have hf:=MapKept.run_findKey (P:=P) (w:=w) hd f1
  refine⟨({ w with heap:=w.heap.setIfInBounds b (.map (ms++[({ key:=k,val:=v,born:=clock }:MapEntry)]).toArray (clock+1)) }:World),by simp[Instr.mapUpdate,run_underlying ht,MapKept.run_getObj_map hb,hck,hf,MapKept.run_setObj_map _ hb],?_⟩
  refine Vw hi hj (hch _) ?_
  rw[hμ]
  simp only[ORel]
  refine⟨ms++[{ key:=k,val:=v,born:=clock }],clock+1,?_,(f3 y v clock hy).mono (fun _ h=>h) (hFw _)⟩
  rw[(MapKept.heap_set hb).1]
 ·have hf:=MapKept.run_findKey (P:=P) (w:=w) hd f1
  have hkeep:(Instr.keyThatStays (((ms.toArray[n]?).map (·.key)).getD k) k).run P w=.ok k w:=by
   have:ms.toArray[n]?=some m:=by simpa using f2
   rw[this]
   simp[Instr.keyThatStays,f5]
  refine⟨_,by
   simp only[Instr.mapUpdate,Sem.run_bind,run_underlying ht,Result.andThen_ok,MapKept.run_getObj_map hb,hck,hf]
   simp only[Nat.zero_add,hkeep,Result.andThen_ok,Sem.run_bind]
   exact MapKept.run_setObj_map _ hb,?_⟩
  refine Vw hi hj (hch _) ?_
  rw[hμ]
  simp only[ORel]
  refine⟨ms.modify n (fun e=>{ e with key:=k,val:=v }),clock,?_,(f6 y v hy).mono (fun _ h=>h) (hFw _)⟩
  rw[(MapKept.heap_set hb).1]
  simp
theorem U2l {P:Program} {T:Tab} (hT:Q6 P T) {c:Cx} {st:St} {a:Act} {w:World} {μ:Nat→Pl} {F:Nat→Prop} (hi:Inv c st a w μ F) {t:Nat} {m k v:AV} {f:Eff} {u uk uv:Value}
    (h:updE T st.hp t m k v=some f) (hm:VRel μ F w m u) (hk:VRel μ F w k uk) (hv:VRel μ F w v uv) :
    ∃ w' μ' F',(Instr.mapUpdate t u uk uv).run P w=.ok () w'∧Inv c (st.apply f).2 a w' μ' F'∧(st.apply f).1=.undef:=by
 unfold updE at h
 split at h<;>try cases h
 rename_i p j hp'
 split at h<;>try cases h
 rename_i kt vt es hes
 split at h<;>try cases h
 rename_i hpe
 obtain⟨rfl,hka,hva⟩:=hpe
 simp only[VRel] at hm
 obtain⟨b,hμ,rfl⟩:=hm
 split at h
 ·split at h<;>cases h
  rename_i x y hx hy
  obtain⟨w',g1,g2⟩:=J3b hT hi hp' hes hμ (Z0g hka hx hk) (Z0g hva hy hv)
  exact⟨w',μ,F,g1,g2,rfl⟩
 ·rename_i r rs hrs
  split at h<;>try cases h
  rename_i hrows
  split at h<;>cases h
  rename_i x y hx hy
  have hall:=Z12 hi.h (r::rs) hrows (fun k hk=>Xr hv k (hrs▸hk))
  have hks:∀ k,(r::rs).contains k=true→k < st.nx∧∃ al l cp sz,μ k=.row al l cp sz:=hall.1
  have hi2:=Z0x hi hks
  have hjk:(r::rs).contains j=false:=by
   cases hc:(r::rs).contains j with
   | false=>rfl
   | true=>obtain⟨_,al,l,cp,sz,e⟩:=hks j hc;rw[hμ] at e;cases e
  have hμ2:Un μ (r::rs) j=.map b:=by simp only[Un,hjk];exact hμ
  have hes2:(st.frz (r::rs)).hp j=.mpo kt vt es:=by simp only[St.frz,hjk,cond_false,hes];rfl
  have hv2:=J2b hi hks hv
  have hxe:=(Z0g hka hx hk).mono (F':=frzF μ F (r::rs)) (w':=w) (fun b h=>Or.inl h) (fun _ _=>rfl)
  have hye:=Z0g (U3p _ _ _ hva) hy hv2
  obtain⟨w',g1,g2⟩:=J3b hT hi2 hp' hes2 hμ2 hxe hye
  refine⟨w',Un μ (r::rs),frzF μ F (r::rs),g1,?_,rfl⟩
  have e:(st.apply (.call (r::rs) [j] [.mpo kt vt (putM kt vt x y es)] [.undef])).2=(st.frz (r::rs)).upd j (.mpo kt vt (putM kt vt x y es)):=by
   have hr0:V4 (st.frz (r::rs)).hp [j]=[]:=by simp only[V4,hes2]
   simp only[St.apply,List.length_cons,List.length_nil,List.drop_succ_cons,List.drop_nil,List.map_nil,St.news]
   rw[hr0]
   simp only[St.upd]
   congr 1
   ·funext t;exact Q1h _
   ·funext k'
    simp only[U8]
    by_cases hkj:j=k'
    ·subst hkj
     simp[ofHp,LObj.ren]
    ·have h1:(j==k')=false:=by simpa using hkj
     have h2:(k'==j)=false:=by simpa using fun e:k'=j=>hkj e.symm
     rw[h1,h2]
     simp only[cond_false]
     cases hob:(st.frz (r::rs)).hp k'<;>simp only[LObj.kill]
     rw[X01]
  rw[e]
  exact g2
theorem V2p {P:Program} {T:Tab} {c:Cx} {st:St} {a:Act} {w:World} {μ:Nat→Pl} {F:Nat→Prop} (hi:Inv c st a w μ F) {t:Nat} {x:AV} {v:Value} (h:VRel μ F w x v) :
    Outc P c st a w (pure v) (Z1e T st.nx t x):=by
 unfold Z1e
 split
 ·simp only[VRel] at h
  subst h
  split
  ·split
   ·rename_i τ _
    split
    ·exact J8 hi rfl (by simp only[VRel];exact Qi.2 ⟨none,0,rfl,by simp,fun _=>rfl,fun a ha=>by cases ha⟩)
    ·have:=V1j hi τ none
     exact⟨_,w,_,F,rfl,this.1,this.2⟩
   ·exact J8 hi rfl (by simp[VRel])
  ·exact J8 hi rfl (by simp[VRel])
 ·exact J8 hi rfl (Q0h t h)
theorem Z3l {P:Program} {T:Tab} {c:Cx} {st:St} {a:Act} {w:World} {μ:Nat→Pl} {F:Nat→Prop} (hi:Inv c st a w μ F) {t:Nat} {x:AV} {v:Value} (h:VRel μ F w x v) :
    Outc P c st a w (pure v) (Q26 T st.nx t x):=by
 unfold Q26
 split
 ·rename_i cs
  split
  ·rename_i r hr
   cases T.kns&&J3c cs r.cty with
   | false=>exact J8 hi rfl h
   | true=>
     simp only[VRel] at h
     obtain⟨us,rfl,h1,h2⟩:=h
     obtain⟨ps,e1,e2,e3⟩:=J0y cs r.cty st.nx
     have hown:∀ (i:Nat) (p:Pl),ps[i]?=some p→p.owns=none:=fun i p hp=>by
      have hlt:i < ps.length:=by obtain⟨h2,_⟩:=List.getElem?_eq_some_iff.1 hp;exact h2
      obtain⟨τ,_,rfl⟩:=e2 i _ p (List.getElem?_eq_getElem (by omega)) hp
      rfl
     have hnew:∀ (i:Nat),Zo μ st.nx ps (st.nx+i)=(ps[i]?).getD .none:=fun i=>Jp i
     refine⟨_,w,Zo μ st.nx ps,F,rfl,Zy hi (Grew.refl w) _ _ e1 ?_ ?_ ?_,?_⟩
     ·intro i o p ho hp
      obtain⟨τ,rfl,rfl⟩:=e2 i o p ho hp
      simp only[ORel]
      exact⟨trivial,rfl,Nat.le_refl _,fun _=>trivial,(fun b o hbo _=>by cases hbo)⟩
     ·intro i p b hp hpo
      rw[hown i p hp] at hpo;cases hpo
     ·intro i j p q b hp hq hpo hqo
      rw[hown i p hp] at hpo;cases hpo
     ·show VRel _ F w (.agg (Vh cs r.cty st.nx).1) _
      simp only[VRel]
      refine⟨us,rfl,?_,h2⟩
      have h3:=Jg (μ':=Zo μ st.nx ps) (F':=F) (w':=w) (fun _ h=>h) (fun _ _=>rfl) (fun k hk=>Qy hi.h.top (Za h1 k hk)) h1
      refine e3 _ _ F _ _ (fun _ _=>rfl) (fun i p hp=>?_) h3
      rw[hnew i,hp]
      rfl
  ·exact J8 hi rfl h
 ·exact J8 hi rfl h
theorem J2v {c:Cx} {st:St} {a:Act} {w:World} {μ:Nat→Pl} {F:Nat→Prop} (hi:Inv c st a w μ F) (ps:List (Nat×Operand)) :
    ∀ (i:Nat) (p:Nat×AV) (q:Nat×Value),(ps.map fun p=>(p.1,st.ev p.2))[i]?=some p→(ps.map fun p=>(p.1,a.eval p.2))[i]?=some q→q.1=p.1∧VRel μ F w p.2 q.2:=by
 intro i p q hp hq
 rw[List.getElem?_map] at hp hq
 cases h:ps[i]? with
 | none=>rw[h] at hp;cases hp
 | some x=>
   rw[h] at hp hq
   cases hp
   cases hq
   exact⟨rfl,V1v hi x.2⟩
theorem Q37 {c:Cx} {st:St} {a:Act} {w:World} {μ:Nat→Pl} {F:Nat→Prop} (hi:Inv c st a w μ F) (x:Option Operand):Vq μ F w (x.map st.ev) (x.map a.eval):=by
 cases x with
 | none=>simp[Vq]
 | some x=>simp only[Option.map_some,Vq];exact V1v hi x
theorem J2z {P:Program} {μ:Nat→Pl} {F:Nat→Prop} {w:World} {x:AV} {v:Value} {o:Oper} {X:Operand} {ρ:Operand→Value} (h:X2z x=true) (hv:VRel μ F w x v) (hx:ρ X=v) (ho:o.op=.nilCheck X) :
    (execOp ρ o).run P w=.ok (.value v) w:=by
 unfold X2z at h
 split at h<;>try cases h
 ·simp only[VRel] at hv;obtain⟨b,_,rfl⟩:=hv;simp[execOp,ho,hx]
 ·simp only[VRel] at hv;obtain⟨b,o,l,c,_,_,rfl⟩:=hv;simp[execOp,ho,hx]
 ·simp only[VRel] at hv;obtain⟨b,o,_,_,_,rfl⟩:=hv;simp[execOp,ho,hx]
 ·simp only[VRel] at hv;obtain⟨us,rfl,_⟩:=hv;simp[execOp,ho,hx]
theorem J1a {P:Program} {μ:Nat→Pl} {F:Nat→Prop} {w:World} {f:AV→AV→Option AV} {g:Value→Value→Sem Value}
    (hf:∀ x y z u v,f x y=some z→VRel μ F w x u→VRel μ F w y v→∃ q,(g u v).run P w=.ok q w∧VRel μ F w z q) :
    ∀ (r:List AV) (vs:List Value) (x z:AV) (u:Value),J26 f x r=some z→VRel μ F w x u→Z2 μ F w r vs→∃ q,(vs.foldlM g u).run P w=.ok q w∧VRel μ F w z q
 | [],vs,x,z,u,h,hx,hr=>by
   simp only[J26,Option.some.injEq] at h
   subst h
   simp only[Z2] at hr
   subst hr
   exact⟨u,by simp,hx⟩
 | y::r,vs,x,z,u,h,hx,hr=>by
   simp only[J26] at h
   split at h
   ·rename_i s hs
    simp only[Z2] at hr
    obtain⟨v,vs,rfl,h1,h2⟩:=hr
    obtain⟨q,g1,g2⟩:=hf _ _ _ _ _ hs hx h1
    obtain⟨q',g3,g4⟩:=J1a hf r vs s z q h g2 h2
    exact⟨q',by simp[List.foldlM_cons,g1,g3],g4⟩
   ·cases h
theorem Z3v {P:Program} {μ:Nat→Pl} {F:Nat→Prop} {w:World} (x y z:AV) (u v:Value) (h:Z48 x y=some z) (hu:VRel μ F w x u) (hv:VRel μ F w y v):∃ q,(Builtin.min2 u v).run P w=.ok q w∧VRel μ F w z q:=by
 unfold Z48 at h
 split at h
 ·split at h
  ·rename_i hk
   subst hk
   cases h
   simp only[VRel] at hu hv
   subst hu hv
   exact⟨_,by simp[Builtin.min2];rfl,by simp[VRel]⟩
  ·cases h
 ·cases h
theorem X40 {P:Program} {μ:Nat→Pl} {F:Nat→Prop} {w:World} (x y z:AV) (u v:Value) (h:Q49 x y=some z) (hu:VRel μ F w x u) (hv:VRel μ F w y v):∃ q,(Builtin.max2 u v).run P w=.ok q w∧VRel μ F w z q:=by
 unfold Q49 at h
 split at h
 ·split at h
  ·rename_i hk
   subst hk
   cases h
   simp only[VRel] at hu hv
   subst hu hv
   exact⟨_,by simp[Builtin.max2];rfl,by simp[VRel]⟩
  ·cases h
 ·cases h
theorem X34 (s:List UInt8):(⟨s.toArray⟩:ByteArray).size=s.length:=by simp[ByteArray.size]
theorem Q3m {P:Program} {T:Tab} (hT:Q6 P T) {w:World} {hp:Nat→LObj} {nx:Nat} {μ:Nat→Pl} {F:Nat→Prop} (hi:HInv w hp nx μ F) {t ty:Nat} {x:AV} {n:Nat} {v:Value} (h:V23 T hp t x=some n) (hv:VRel μ F w x v) :
    (Builtin.len_ #[t] ty #[v]).run P w=.ok (.int .i64 n) w:=by
 unfold V23 at h
 split at h
 ·rename_i s hd
  have ht:=Z7 hT hd (by simp)
  simp only[X8] at ht
  cases h
  simp only[VRel] at hv
  subst hv
  simp[Builtin.len_,run_underlying ht,goInt,X34]
 ·cases h
 ·cases h
 ·rename_i e hd hs
  have ht:=Z7 hT hd (by simp)
  simp only[X8] at ht
  rcases V4i (P:=P) hi h hv with ⟨s,rfl,_⟩ | ⟨A,cap,rfl⟩
  ·exact absurd rfl (hs s)
  ·simp[Builtin.len_,run_underlying ht,goInt]
 ·cases h
theorem X2a {P:Program} {T:Tab} (hT:Q6 P T) {R:Type} {K:Eff→Option R} {r:R} {c:Cx} {st:St} {a:Act} {w:World} {μ:Nat→Pl} {F:Nat→Prop} (hi:Inv c st a w μ F) {b:Builtin} {ts:Array TypeId} {xs:List AV} {vs:List Value} {o:Oper}
    {consts:Array Bool} (h:Qs T st.hp st.nx b ts.toList xs K=some r) (hv:Z2 μ F w xs vs)
    (hrun:∀ v w',(builtin b ts o.type consts vs.toArray).run P w=.ok (.value v) w'→(execOp a.eval o).run P w=.ok (.value v) w'):∃ f,K f=some r∧Z13 P c st a w o f:=by
 unfold Qs at h
 split at h
 ·rename_i t x hts
  simp only[Z2] at hv
  obtain⟨u,us,rfl,hu,rfl⟩:=hv
  have hts':ts=#[t]:=by rw[←Array.toArray_toList (xs:=ts),hts]
  subst hts'
  split at h
  ·rename_i n hn
   refine⟨_,h,J6 (s:=Builtin.len_ #[t] o.type #[u]) (J8 hi (Q3m hT hi.h hn hu) (by simp[VRel])) fun v w' hr=>hrun v w' ?_⟩
   simp[builtin,hr]
  ·cases h
 ·rename_i t t2 x y hts
  simp only[Z2] at hv
  obtain⟨u,us,rfl,hu,u2,us2,rfl,hu2,rfl⟩:=hv
  have hts':ts=#[t,t2]:=by rw[←Array.toArray_toList (xs:=ts),hts]
  subst hts'
  obtain⟨f,hf,ho⟩:=X2u hT hi o.type h hu hu2
  refine⟨f,hf,J6 ho fun v w' hr=>hrun v w' ?_⟩
  simp[builtin,hr]
 ·rename_i x q
  simp only[Z2] at hv
  obtain⟨u,us,rfl,hu,hus⟩:=hv
  split at h
  ·rename_i z hz
   obtain⟨q,g1,g2⟩:=J1a (P:=P) (fun x y z u v h hu hv=>Z3v (P:=P) x y z u v h hu hv) _ _ _ _ _ hz hu hus
   refine⟨_,h,J6 (s:=us.foldlM Builtin.min2 u) (J8 hi g1 g2) fun v w' hr=>hrun v w' ?_⟩
   simp[builtin,Builtin.min_,hr]
  ·cases h
 ·rename_i x q
  simp only[Z2] at hv
  obtain⟨u,us,rfl,hu,hus⟩:=hv
  split at h
  ·rename_i z hz
   obtain⟨q,g1,g2⟩:=J1a (P:=P) (fun x y z u v h hu hv=>X40 (P:=P) x y z u v h hu hv) _ _ _ _ _ hz hu hus
   refine⟨_,h,J6 (s:=us.foldlM Builtin.max2 u) (J8 hi g1 g2) fun v w' hr=>hrun v w' ?_⟩
   simp[builtin,Builtin.max_,hr]
  ·cases h
 ·rename_i t t2 x y hts
  simp only[Z2] at hv
  obtain⟨u,us,rfl,hu,u2,us2,rfl,hu2,rfl⟩:=hv
  have hts':ts=#[t,t2]:=by rw[←Array.toArray_toList (xs:=ts),hts]
  subst hts'
  split at h
  ·rename_i f hf
   refine⟨f,h,J6 (Q3l hT hi o.type hf hu hu2) fun v w' hr=>hrun v w' ?_⟩
   simp[builtin,hr]
  ·cases h
 ·rename_i t x hts
  simp only[Z2] at hv
  obtain⟨u,us,rfl,hu,rfl⟩:=hv
  have hts':ts=#[t]:=by rw[←Array.toArray_toList (xs:=ts),hts]
  subst hts'
  split at h
  ·rename_i f hf
   refine⟨f,h,J6 (V38 hT hi o.type hf hu) fun v w' hr=>hrun v w' ?_⟩
   simp[builtin,hr]
  ·cases h
 ·rename_i t hts
  simp only[Z2] at hv
  obtain⟨u,us,rfl,hu,rfl⟩:=hv
  have hts':ts=#[t]:=by rw[←Array.toArray_toList (xs:=ts),hts]
  subst hts'
  split at h
  ·rename_i e hd
   have ht:=Z7 hT hd (by simp)
   simp only[X8] at ht
   simp only[VRel] at hu
   subst hu
   refine⟨_,h,J6 (s:=Builtin.cap_ #[t] o.type #[.slice none 0 0]) (J8 hi (v:=.int .i64 0) (by simp[Builtin.cap_,run_underlying ht,goInt]) (by simp[VRel])) fun v w' hr=>hrun v w' ?_⟩
   simp[builtin,hr]
  ·cases h
 ·cases h
theorem V0z {α β:Type} (xs:Array α) (f:α→β):xs.map f=(xs.toList.map f).toArray:=by rw[←Array.toList_map,Array.toArray_toList]
theorem J1s {P:Program} {T:Tab} (hT:Q6 P T) {orc:Orc} (hO:Zd P orc) {R:Type} {K:Eff→Option R} {r:R} {c:Cx} {st:St} {a:Act} {w:World} {μ:Nat→Pl} {F:Nat→Prop} (hi:Inv c st a w μ F) {o:Oper}
    (h:evOp T orc o.op o.type st K=some r):∃ f,K f=some r∧Z13 P c st a w o f:=by
 have hev:=fun x=>V1v hi x
 cases ho:o.op<;>rw[ho] at h<;>simp only[evOp] at h
 case move x=>
  exact⟨_,h,J6 (s:=pure (a.eval x)) (J8 hi rfl (hev x)) fun v w' hr=>by simpa[execOp,ho] using hr⟩
 case assign x=>
  exact⟨_,h,J6 (V2p hi (hev x)) fun v w' hr=>by simpa[execOp,ho] using hr⟩
 case pick cnd x y=>
  split at h
  ·rename_i t ht
   have hc:=hev cnd
   rw[ht] at hc
   simp only[VRel] at hc
   cases t with
   | true=>exact⟨_,h,J6 (s:=pure (a.eval x)) (J8 hi rfl (hev x)) fun v w' hr=>by simp[execOp,ho,hc,asBool];simpa using hr⟩
   | false=>exact⟨_,h,J6 (s:=pure (a.eval y)) (J8 hi rfl (hev y)) fun v w' hr=>by simp[execOp,ho,hc,asBool];simpa using hr⟩
  ·cases h
 case alloc e=>
  split at h
  ·rename_i row hrow
   split at h
   ·rename_i f hf
    exact⟨_,h,J6 (U32 hT hi hrow hf (.tuple #[])) fun v w' hr=>by simp[execOp,ho,hr]⟩
   ·cases h
  ·cases h
 case box e x=>
  split at h
  ·rename_i cs hcs
   split at h
   ·rename_i f hf
    obtain⟨h1,h2⟩:=X0n hcs (hev x)
    exact⟨_,h,J6 (X2m hi hf h1 h2) fun v w' hr=>by simp[execOp,ho,hr]⟩
   ·cases h
  ·cases h
 case build t ps=>
  split at h
  ·rename_i x hx
   obtain⟨v,g1,g2⟩:=Z34 hT hx (qs:=ps.toList.map fun p=>(p.1,a.eval p.2)) (by simp) (J2v hi ps.toList)
   refine⟨_,h,J6 (J8 hi g1 g2) fun v w' hr=>?_⟩
   rw[←V0z] at hr
   simp[execOp,ho,hr]
  ·cases h
 case buildSlice t n ps=>
  obtain⟨f,hf,g⟩:=V1d hT hi h (qs:=ps.toList.map fun p=>(p.1,a.eval p.2)) (by simp) (J2v hi ps.toList)
  refine⟨_,hf,J6 g fun v w' hr=>?_⟩
  rw[←V0z] at hr
  simp[execOp,ho,hr]
 case load t x=>
  split at h
  ·rename_i z hz
   obtain⟨u,g1,g2⟩:=Q22 hT hi.h hz (hev x)
   exact⟨_,h,J6 (J8 hi g1 g2) fun v w' hr=>by simp[execOp,ho,hr]⟩
  ·cases h
 case store t x y=>
  split at h
  ·rename_i f hf
   obtain⟨w',g1,g2,g3⟩:=Z33 (P:=P) hT hi hf (hev x) (U3q _ (hev y))
   refine⟨_,h,fun next Q hn=>?_⟩
   unfold Oper.wp
   have:(execOp a.eval o).run P w=.ok .skip w':=by simp[execOp,ho,g1]
   rw[this]
   simp only[Oper.upon]
   exact hn undef w' μ F g2 (by rw[g3];simp[VRel])
  ·cases h
 case nilCheck x=>
  split at h
  ·rename_i hx
   exact⟨_,h,J6 (s:=pure (a.eval x)) (J8 hi rfl (hev x)) fun v w' hr=>by
    have:=J2z (P:=P) hx (hev x) rfl ho
    simp at hr
    obtain⟨rfl,rfl⟩:=hr
    exact this⟩
  ·cases h
 case binOp op t x y yt=>
  obtain⟨z,q,hz,g1,g2⟩:=X30 hT x y h (hev x) (hev y)
  exact⟨_,hz,J6 (J8 hi g1 g2) fun v w' hr=>by simp only[execOp,ho];simp only[Sem.run_bind] at hr ⊢;simp[hr]⟩
 case unOp op t x=>
  split at h
  ·rename_i z hz
   obtain⟨q,g1,g2⟩:=Q3h (P:=P) hz (hev x)
   exact⟨_,h,J6 (J8 hi g1 g2) fun v w' hr=>by simp[execOp,ho,hr]⟩
  ·cases h
 case convert s d x=>
  obtain⟨f,hf,g⟩:=Z2h hT hi h (hev x)
  exact⟨_,hf,J6 g fun v w' hr=>by simp[execOp,ho,hr]⟩
 case makeFunc fn first caps=>
  split at h
  ·rename_i z hz
   unfold Q3e at hz
   split at hz<;>cases hz
   rename_i f hf
   have hf':first=#[]:=by rw[←Array.toArray_toList (xs:=first),hf]
   subst hf'
   refine⟨_,h,J6 (s:=pure (.func (.func f) #[] (caps.map a.eval))) (J8 hi rfl ?_) fun v w' hr=>by simpa[execOp,ho,Instr.makeFunc] using hr⟩
   simp only[VRel]
   exact⟨caps.toList.map a.eval,by rw[←V0z],Q2f hi caps.toList⟩
  ·cases h
 case makeSlice t l cp=>
  obtain⟨f,hf,g⟩:=X1x hT hi h (hev l) (hev cp)
  exact⟨_,hf,J6 g fun v w' hr=>by simp[execOp,ho,hr]⟩
 case slice t x lo hi' mx=>
  obtain⟨z,q,hz,g1,g2⟩:=Z2x hT hi.h h (hev x) (Q37 hi lo) (Q37 hi hi') (Q37 hi mx)
  exact⟨_,hz,J6 (J8 hi g1 g2) fun v w' hr=>by simp[execOp,ho,hr]⟩
 case fieldAddr s x f=>
  split at h
  ·rename_i z hz
   obtain⟨q,g1,g2⟩:=X1p (P:=P) hT hz (hev x)
   exact⟨_,h,J6 (J8 hi g1 g2) fun v w' hr=>by simp[execOp,ho,hr]⟩
  ·cases h
 case field s x f=>
  split at h
  ·rename_i d t cs hfo hx
   have hx':=hev x
   rw[hx] at hx'
   split at h
   ·rename_i z hz
    obtain⟨q,g1,g2⟩:=Q3o (P:=P) hT hfo hz hx'
    exact⟨_,h,J6 (J8 hi g1 g2) fun v w' hr=>by simp[execOp,ho,hr]⟩
   ·cases h
  ·cases h
 case indexAddr t x i=>
  obtain⟨z,q,hz,g1,g2⟩:=X1h hT hi.h h (hev x) (hev i)
  exact⟨_,hz,J6 (J8 hi g1 g2) fun v w' hr=>by simp[execOp,ho,hr]⟩
 case index t x i=>
  obtain⟨z,q,hz,g1,g2⟩:=V33 hT h (hev x) (hev i)
  exact⟨_,hz,J6 (J8 hi g1 g2) fun v w' hr=>by simp[execOp,ho,hr]⟩
 case makeMap t r=>
  split at h
  ·split at h
   ·rename_i f hf
    exact⟨_,h,J6 (V2e (P:=P) hi hf) fun v w' hr=>by simp[execOp,ho,hr]⟩
   ·cases h
  ·cases h
 case lookup t m k ok=>
  split at h
  ·rename_i z hz
   obtain⟨q,g1,g2⟩:=Q3r hT hi.h hz (hev m) (hev k)
   exact⟨_,h,J6 (J8 hi g1 g2) fun v w' hr=>by simp[execOp,ho,hr]⟩
  ·cases h
 case mapUpdate t m k v=>
  split at h
  ·rename_i f hf
   obtain⟨w',μ',F',g1,g2,g3⟩:=U2l hT hi hf (hev m) (hev k) (hev v)
   refine⟨_,h,fun next Q hn=>?_⟩
   unfold Oper.wp
   have:(execOp a.eval o).run P w=.ok .skip w':=by simp[execOp,ho,g1]
   rw[this]
   simp only[Oper.upon]
   exact hn undef w' μ' F' g2 (by rw[g3];simp[VRel])
  ·cases h
 case insert t m k v=>
  split at h
  ·rename_i f hf
   obtain⟨w',μ',F',g1,g2,g3⟩:=U2l hT hi hf (hev m) (hev k) (hev v)
   refine⟨_,h,fun next Q hn=>?_⟩
   unfold Oper.wp
   have:(execOp a.eval o).run P w=.ok .skip w':=by simp[execOp,ho,g1]
   rw[this]
   simp only[Oper.upon]
   exact hn undef w' μ' F' g2 (by rw[g3];simp[VRel])
  ·cases h
 case extract x i=>
  split at h
  ·rename_i vs hx
   have hx':=hev x
   rw[hx] at hx'
   simp only[VRel] at hx'
   obtain⟨us,hus,hL⟩:=hx'
   split at h
   ·rename_i z hz
    obtain⟨u,hu,hr⟩:=Zw hL hz
    refine⟨_,h,J6 (s:=pure u) (Z3l hi hr) fun v w' hr=>?_⟩
    simp at hr
    obtain⟨rfl,rfl⟩:=hr
    simp[execOp,ho,Instr.extract,hus,hu]
   ·cases h
  ·cases h
 case call cl=>
  split at h
  ·rename_i b hb
   refine X2a hT hi h (vs:=cl.args.toList.map a.eval) (Q2f hi _) (consts:=cl.args.map fun | .const _=>true | _=>false) fun v w' hr=>?_
   rw[←V0z] at hr
   simp only[execOp,ho,resolve,hb,invoke,Sem.run_bind,Sem.run_pure,Result.andThen_ok]
   exact hr
  ·rename_i f hf
   split at h
   ·rename_i g caps hg
    have hf':=hev f
    rw[hg] at hf'
    simp only[VRel] at hf'
    obtain⟨us,hus,hL⟩:=hf'
    have hargs:=Zu (J0d (P:=P) (T:=T) cl.argTypes.toList (Q2f hi cl.args.toList)) hL
    refine J3p hO hi h hargs fun⟨fn,h1,h2,h3⟩=>?_
    simp[execOp,ho,resolve,hf,hus,Deferred.ofValue,invoke,callFunc,h1,h2,h3,V0z]
    exact fun e=>absurd h3 (by rw[e];simp)
   ·cases h
  ·cases h
 all_goals cases h
theorem Z1u {st:St} {t:Nat} {x:AV} (h:st.tm t=x):st.put t x=st:=by
 unfold St.put
 have:(fun t'=>bif t'==t then x else st.tm t')=st.tm:=by
  funext t'
  cases he:t'==t with
  | true=>have:=eq_of_beq he;subst this;exact h.symm
  | false=>rfl
 rw[this]
theorem Z0o {c:Cx} {st:St} {a:Act} {w:World} {μ:Nat→Pl} {F:Nat→Prop} (hi:Inv c st a w μ F) {d:Option Nat} {x:AV} {v:Value} (hd:∀ t,d=some t→t < c.nt) (h:VRel μ F w x v) :
    Inv c (st.putO d x) (a.put d v) w μ F:=by
 cases d with
 | none=>exact hi
 | some t=>
   refine⟨hi.h,hi.fr,hi.idb,hi.idm,hi.n0,?_,by simp[Act.put,hi.sz],hi.df⟩
   intro t'
   have hlt:t < a.tmps.size:=by rw[hi.sz];exact hd t rfl
   simp only[St.putO,St.put,Act.put]
   cases he:t'==t with
   | true=>
     have:=eq_of_beq he
     subst this
     simp only[cond_true]
     rw[Array.getD_eq_getD_getElem?,Array.getElem?_setIfInBounds_self,if_pos hlt]
     exact h
   | false=>
     have hne:t≠t':=fun e=>by subst e;simp at he
     simp only[cond_false]
     rw[Array.getD_eq_getD_getElem?,Array.getElem?_setIfInBounds_ne hne,←Array.getD_eq_getD_getElem?]
     exact hi.tm t'
theorem J1k {c:Cx} {st:St} {a:Act} {w:World} {μ:Nat→Pl} {F:Nat→Prop} (hi:Inv c st a w μ F) {ops:Array Oper} {j t:Nat} (hd:J0q ops.toList j=some t) {b:Bool} (h:st.tm t=.bool b) :
    yielded ops a.tmps j=some b:=by
 have hv:=hi.tm t
 rw[h] at hv
 simp only[VRel] at hv
 unfold J0q at hd
 unfold yielded
 have h1:(ops[j]?).bind (·.dst)=some t:=by
  rw[Array.getElem?_toList] at hd
  cases ho:ops[j]? with
  | none=>rw[ho] at hd;cases hd
  | some o=>rw[ho] at hd;exact hd
 have h2:a.tmps[t]?=some (.bool b):=by
  rw[Array.getD_eq_getD_getElem?] at hv
  cases hx:a.tmps[t]? with
  | none=>rw[hx] at hv;simp[undef] at hv
  | some x=>rw[hx] at hv;simpa using hv
 rw[h1,Option.bind_some,h2]
theorem Z1c {c:Cx} {st:St} {a:Act} {w:World} {μ:Nat→Pl} {F:Nat→Prop} (hi:Inv c st a w μ F) {ops:Array Oper} {j t:Nat} (hd:J0q ops.toList j=some t) (h:st.tm t=.undef) :
    yielded ops a.tmps j=none:=by
 have hv:=hi.tm t
 rw[h] at hv
 simp only[VRel] at hv
 unfold J0q at hd
 unfold yielded
 have h1:(ops[j]?).bind (·.dst)=some t:=by
  rw[Array.getElem?_toList] at hd
  cases ho:ops[j]? with
  | none=>rw[ho] at hd;cases hd
  | some o=>rw[ho] at hd;exact hd
 rw[h1,Option.bind_some]
 rw[Array.getD_eq_getD_getElem?] at hv
 cases hx:a.tmps[t]? with
 | none=>rfl
 | some x=>rw[hx] at hv;simp[undef] at hv;subst hv;rfl
theorem X39 {R:Type} {c:Cx} {st:St} {a:Act} {w:World} {μ:Nat→Pl} {F:Nat→Prop} (hi:Inv c st a w μ F) {ops:Array Oper} {o:Oper} {run skip:St→Option R} {r:R}
    (h:gate ops.toList o st run skip=some r) :
    (Region.wanted o (yielded ops a.tmps)=true∧run st=some r)∨(Region.wanted o (yielded ops a.tmps)=false∧skip st=some r):=by
 unfold gate at h
 unfold Region.wanted
 split at h
 ·rename_i hg
  rw[hg]
  exact .inl ⟨rfl,h⟩
 ·rename_i j want hg
  rw[hg]
  simp only
  split at h
  ·cases h
  ·rename_i t hd
   split at h
   ·rename_i b hb
    rw[J1k hi hd hb]
    cases want<;>cases b<;>simp only[cond_true,cond_false] at h<;>rw[Z1u hb] at h<;>simp[h]
   ·rename_i hu
    rw[Z1c hi hd hu]
    exact .inr ⟨by simp,h⟩
   ·cases h
theorem V2i:∀ (n a k:Nat),k < n→(rng a n)[k]?=some (a+k)
 | 0,a,k,h=>by omega
 | n+1,a,0,h=>by simp[rng]
 | n+1,a,k+1,h=>by
   simp only[rng,List.getElem?_cons_succ]
   rw[V2i n (a+1) k (by omega)]
   congr 1
   omega
theorem X1g:∀ (n a:Nat),(rng a n).length=n
 | 0,_=>rfl
 | n+1,a=>by simp[rng,X1g n (a+1)]
theorem X1u {μ:Nat→Pl} {F:Nat→Prop} {w:World} {G:Nat→Value}:∀ (ps:List (Nat×AV)),(∀ p∈ps,VRel μ F w p.2 (G p.1))→∀ t,VRel μ F w (ofTm ps t) (G t)
 | [],_,t=>by simp[ofTm,VRel]
 | p::ps,h,t=>by
   simp only[ofTm]
   cases he:t==p.1 with
   | true=>
     have:=eq_of_beq he
     subst this
     exact h p (by simp)
   | false=>exact X1u ps (fun q hq=>h q (by simp[hq])) t
theorem V29 {μ:Nat→Pl} {F:Nat→Prop} {w:World} {G:Nat→Value} {g:Nat→AV}:∀ (ts:List Nat),(∀ t∈ts,VRel μ F w (g t) (G t))→∀ p∈Q2n ts (ts.map g),VRel μ F w p.2 (G p.1)
 | [],_,p,hp=>by simp[Q2n] at hp
 | t::ts,h,p,hp=>by
   simp only[List.map_cons,Q2n,List.mem_cons] at hp
   rcases hp with rfl | hp
   ·exact h t (by simp)
   ·exact V29 ts (fun t ht=>h t (by simp[ht])) p hp
theorem V1t {c:Cx} {st:St} {a:Act} {w:World} {μ:Nat→Pl} {F:Nat→Prop} (hi:Inv c st a w μ F) (o:Option (List Nat)):Inv c (match o with | none=>st | some ls=>J19 ls st) a w μ F:=by
 cases o with
 | none=>exact hi
 | some ls=>
   have hnx:(J19 ls st).nx=st.nx:=by simp[J19,stOf,X1g]
   have hhp:∀ k,k < st.nx→(J19 ls st).hp k=st.hp k:=fun k hk=>by
    show ofHp ((rng 0 st.nx).map st.hp) k=_
    rw[V0a,List.getElem?_map,V2i _ _ _ hk]
    simp
   refine⟨⟨fun k hk=>?_,fun k hk=>hi.h.top k (by rw[hnx] at hk;exact hk),hi.h.one,hi.h.out,hi.h.inn⟩,hi.fr,hi.idb,hi.idm,by rw[hnx];exact hi.n0,fun t=>?_,hi.sz,hi.df⟩
   ·rw[hnx] at hk
    rw[hhp k hk]
    exact hi.h.obj k hk
   ·exact X1u (G:=fun t=>a.tmps.getD t undef) _ (V29 (G:=fun t=>a.tmps.getD t undef) ls fun t _=>hi.tm t) t
theorem V0j {P:Program} {T:Tab} (hT:Q6 P T) {orc:Orc} (hO:Zd P orc) {R:Type} {K:St→Option R} {r:R} {c:Cx} {ops:Array Oper} {Q:Exit→Act→World→Prop} (hd:∀ o∈ops.toList,∀ t,o.dst=some t→t < c.nt)
    (hQ:∀ st a w μ F,Inv c st a w μ F→K st=some r→Q .normal a w) :
    ∀ (os:List Oper) (i:Nat) (st:St) (a:Act) (w:World) (μ:Nat→Pl) (F:Nat→Prop),ops.toList.drop i=os→Inv c st a w μ F→J0g T orc ops.toList os st K=some r→
      wpOps P ops Q (List.range' i os.length) a w
 | [],i,st,a,w,μ,F,_,hi,h=>by
   simp only[J0g] at h
   simp only[List.length_nil,List.range'_zero,wpOps]
   exact hQ st a w μ F hi h
 | o::os,i,st,a,w,μ,F,hdr,hi,h=>by
   have ho:ops[i]?=some o:=by
    have:(ops.toList.drop i)[0]?=some o:=by rw[hdr];rfl
    rw[List.getElem?_drop,Nat.add_zero,Array.getElem?_toList] at this
    exact this
   have hos:ops.toList.drop (i+1)=os:=by rw[←List.drop_drop,hdr];rfl
   have hmem:o∈ops.toList:=by
    have:=List.mem_of_getElem? (l:=ops.toList) (i:=i) (a:=o) (by rw[Array.getElem?_toList];exact ho)
    exact this
   simp only[J0g] at h
   rw[List.length_cons,List.range'_succ]
   simp only[wpOps,ho]
   rcases X39 hi h with ⟨hw,h⟩ | ⟨hw,h⟩
   ·rw[if_pos hw]
    obtain⟨f,hf,hs⟩:=J1s hT hO hi h
    refine .inl (hs _ _ fun v w' μ' F' h1 h2=>?_)
    rw[Qd] at hf
    exact V0j hT hO hd hQ os (i+1) _ _ _ μ' F' hos (V1t (Z0o h1 (hd o hmem) h2) (J5h T o)) hf
   ·rw[if_neg (by simp[hw])]
    exact V0j hT hO hd hQ os (i+1) _ _ _ μ F hos (Z0o hi (hd o hmem) (by simp[VRel])) h
section
variable {R:Type} (T:Tab)
theorem Je (b:Bool) (x:Option Eff) (K:Eff→Option R):(req b x).bind K=req b (x.bind K):=by cases b<;>rfl
theorem J14 (i:Int) (G:Nat→Option Eff) (K:Eff→Option R):∀ (n j:Nat),(Vi i n j G).bind K=Vi i n j fun j=>(G j).bind K
 | 0,_=>rfl
 | n+1,j=>by
   simp only[Vi]
   cases decide (i=(j:Int)) with
   | true=>rfl
   | false=>exact J14 i G K n (j+1)
theorem X4w (lo hi mx:Option AV) (n:Nat) (G:Nat→Nat→Bool→Option Eff) (K:Eff→Option R):(Vm lo hi mx n G).bind K=Vm lo hi mx n fun l h c=>(G l h c).bind K:=by
 unfold Vm
 split
 ·rw[Je,Je]
  congr 2
  split
  ·rfl
  ·split
   ·rw[Je]
   ·rfl
 ·rfl
theorem J2l (t:Nat) (op:BinOp) (x y:AV) (K:Eff→Option R):V17 T t op x y K=(V17 T t op x y some).bind K:=by
 unfold V17
 split<;>(try rw[Je];rfl)<;>(try (split<;>(try rw[Je])<;>(try split)<;>rfl))<;>(try rfl)
theorem X55 (lo hi mx:AV) (n:Nat) (x:Option Eff) (K:Eff→Option R):(Z11 lo hi mx n x).bind K=Z11 lo hi mx n (x.bind K):=by
 unfold Z11
 split
 ·rw[Je,Je,Je]
 ·rfl
theorem X2o (hp:Nat→LObj) (t:Nat) (x:AV) (lo hi mx:Option AV) (K:Eff→Option R):V0c T hp t x lo hi mx K=(V0c T hp t x lo hi mx some).bind K:=by
 unfold V0c
 repeat' (first | rfl | rw[X4w];(try rfl) | rw[X55];(try rfl) | split)
theorem X1y (hp:Nat→LObj) (nx t t2:Nat) (x y:AV) (K:Eff→Option R):Zj T hp nx t t2 x y K=(Zj T hp nx t t2 x y some).bind K:=by
 unfold Zj
 repeat' (first | rfl | rw[Je];(try rfl) | split)
 all_goals (simp only;congr 1;generalize (_||_)=b;cases b<;>rfl)
theorem J37 (nx t t2:Nat) (n:Int) (K:Eff→Option R):U0o T nx t t2 n K=(U0o T nx t t2 n some).bind K:=by
 unfold U0o
 repeat' (first | rfl | rw[Je];(try rfl) | split)
theorem V2f (hp:Nat→LObj) (nx t t2:Nat) (x y:AV) (K:Eff→Option R):Ut T hp nx t t2 x y K=(Ut T hp nx t t2 x y some).bind K:=by
 unfold Ut
 split
 ·exact J37 _ _ _ _ _ _
 ·exact X1y _ _ _ _ _ _ _ _
theorem X1d (nx t:Nat) (x y:AV) (K:Eff→Option R):Vn T nx t x y K=(Vn T nx t x y some).bind K:=by
 unfold Vn
 repeat' (first | rfl | rw[Je];(try rfl) | split)
theorem Z1y (hp:Nat→LObj) (nx s d:Nat) (x:AV) (K:Eff→Option R):Xu T hp nx s d x K=(Xu T hp nx s d x some).bind K:=by
 unfold Xu
 repeat' (first | rfl | rw[Je];(try rfl) | split)
theorem U1d (hp:Nat→LObj) (t:Nat) (x ix:AV) (K:Eff→Option R):Uk T hp t x ix K=(Uk T hp t x ix some).bind K:=by
 unfold Uk
 repeat' (first | rfl | rw[Je,Je];(try rfl) | rw[J14];(try rfl) | split)
theorem V2m (t:Nat) (x ix:AV) (K:Eff→Option R):V19 T t x ix K=(V19 T t x ix some).bind K:=by
 unfold V19
 repeat' (first | rfl | rw[Je,Je];(try rfl) | rw[J14];(try rfl) | split)
 all_goals (congr 1;funext j;split<;>rfl)
theorem Z17 (hp:Nat→LObj) (nx t n:Nat) (ps:List (Nat×AV)) (K:Eff→Option R):Xb T hp nx t n ps K=(Xb T hp nx t n ps some).bind K:=by
 unfold Xb
 repeat' (first | rfl | split)
 all_goals (first | (cases (Nat.beq _ 1&&_)<;>rfl) | (simp only;repeat' (first | rfl | split)))
theorem J2j (t:Tr Res) (G:Res→Option Eff) (K:Eff→Option R):(t.run G).bind K=t.run fun q=>(G q).bind K:=by
 rw[Tr.run_get,Tr.run_get]
 cases t.get<;>rfl
theorem Q35 (orc:Orc) (hp:Nat→LObj) (f:Nat) (args:List AV) (K:Eff→Option R):Z0q T orc hp f args K=(Z0q T orc hp f args some).bind K:=by
 unfold Z0q
 simp only
 split
 ·rw[J2j]
  congr 1
  funext q
  repeat' (first | rfl | split)
 ·split
  ·rw[J2j]
   congr 1
   funext q
   split<;>rfl
  ·rw[J2j]
   rfl
theorem Q1y (hp:Nat→LObj) (nx:Nat) (b:Builtin) (ts:List Nat) (vs:List AV) (K:Eff→Option R):Qs T hp nx b ts vs K=(Qs T hp nx b ts vs some).bind K:=by
 unfold Qs
 repeat' (first | rfl | exact V2f _ _ _ _ _ _ _ _ | split)
theorem J0n (orc:Orc) (o:Op) (ty:Nat) (st:St) (K:Eff→Option R):evOp T orc o ty st K=(evOp T orc o ty st some).bind K:=by
 cases o
 case pick c a b=>
  simp only[evOp]
  split
  ·rename_i b _
   cases b<;>rfl
  ·rfl
 all_goals simp only[evOp]
 all_goals (first | rfl | exact J2l _ _ _ _ _ _ | exact X2o _ _ _ _ _ _ _ _ | exact X1d _ _ _ _ _ _ | exact Z1y _ _ _ _ _ _ _ | exact U1d _ _ _ _ _ _ | exact V2m _ _ _ _ _ | exact Z17 _ _ _ _ _ _ _ | skip)
 all_goals (repeat' (first | rfl | exact Q1y _ _ _ _ _ _ _ | exact Q35 _ _ _ _ _ _ | split))
end
end Go.Proofs.YtpledbapngdkeaaE
namespace Go.Proofs.YtpledbapngdkeaaE
open Go
set_option linter.unusedVariables false
set_option linter.unusedSimpArgs false
theorem V13 {st st':St} (xs:List Operand) (h:∀ x∈xs,st'.ev x=st.ev x):xs.map st'.ev=xs.map st.ev:=List.map_congr_left h
theorem V1q {st st':St} (ps:List (Nat×Operand)) (h:∀ x∈ps.map (·.2),st'.ev x=st.ev x):(ps.map fun p=>(p.1,st'.ev p.2))=ps.map fun p=>(p.1,st.ev p.2):=
 List.map_congr_left fun p hp=>by rw[h p.2 (List.mem_map.2 ⟨p,hp,rfl⟩)]
theorem U0s {st st':St} (x:Option Operand) (h:∀ y,x=some y→st'.ev y=st.ev y):x.map st'.ev=x.map st.ev:=by
 cases x with
 | none=>rfl
 | some y=>simp[h y rfl]
theorem X0v (T:Tab) (orc:Orc) (o:Op) (ty:Nat) {st st':St} (h:∀ x∈o.operands.toList,st'.ev x=st.ev x) (hh:st'.hp=st.hp) (hn:st'.nx=st.nx) :
    evOp T orc o ty st' some=evOp T orc o ty st some:=by
 cases o<;>simp only[evOp]<;>(try rfl)
 case move x=>rw[h x (by simp[Op.operands])]
 case assign x=>rw[h x (by simp[Op.operands]),hn]
 case pick c a b=>rw[h c (by simp[Op.operands]),h a (by simp[Op.operands]),h b (by simp[Op.operands])]
 case alloc e=>rw[hn]
 case box e x=>rw[h x (by simp[Op.operands]),hn]
 case build t ps=>rw[V1q ps.toList fun x hx=>h x (by simpa[Op.operands] using hx)]
 case buildSlice t n ps=>rw[V1q ps.toList fun x hx=>h x (by simpa[Op.operands] using hx),hh,hn]
 case load t x=>rw[h x (by simp[Op.operands]),hh]
 case store t x y=>rw[h x (by simp[Op.operands]),h y (by simp[Op.operands]),hh]
 case nilCheck x=>rw[h x (by simp[Op.operands])]
 case binOp op t x y yt=>rw[h x (by simp[Op.operands]),h y (by simp[Op.operands])]
 case unOp op t x=>rw[h x (by simp[Op.operands])]
 case convert s d x=>rw[h x (by simp[Op.operands]),hh,hn]
 case makeFunc fn first caps=>
  rw[V13 caps.toList fun x hx=>h x (by simp[Op.operands];right;simpa using hx)]
 case makeSlice t x y=>rw[h x (by simp[Op.operands]),h y (by simp[Op.operands]),hn]
 case slice t x lo hi mx=>
  rw[h x (by simp[Op.operands]),hh,U0s lo fun y hy=>h y (by subst hy;simp[Op.operands]),U0s hi fun y hy=>h y (by subst hy;simp[Op.operands]),U0s mx fun y hy=>h y (by subst hy;simp[Op.operands])]
 case fieldAddr s x f=>rw[h x (by simp[Op.operands])]
 case field s x f=>rw[h x (by simp[Op.operands])]
 case indexAddr t x i=>rw[h x (by simp[Op.operands]),h i (by simp[Op.operands]),hh]
 case index t x i=>rw[h x (by simp[Op.operands]),h i (by simp[Op.operands])]
 case makeMap t r=>rw[hn]
 case lookup t m k ok=>rw[h m (by simp[Op.operands]),h k (by simp[Op.operands]),hh]
 case mapUpdate t m k v=>rw[h m (by simp[Op.operands]),h k (by simp[Op.operands]),h v (by simp[Op.operands]),hh]
 case insert t m k v=>rw[h m (by simp[Op.operands]),h k (by simp[Op.operands]),h v (by simp[Op.operands]),hh]
 case extract x i=>rw[h x (by simp[Op.operands]),hn]
 case call c=>
  have ha:c.args.toList.map st'.ev=c.args.toList.map st.ev:=V13 _ fun x hx=>h x (by simp[Op.operands,Call.operands];right;simpa using hx)
  cases hc:c.callee with
  | builtin b=>simp only[ha,hh,hn]
  | value f=>simp only[ha,hh,h f (by simp[Op.operands,Call.operands,hc])]
  | invoke r n=>rfl
theorem U1m {hp hp':Nat→LObj} {t:Ty} {x:AV} (h:∀ k∈x.refs,hp' k=hp k):Uw hp' t x=Uw hp t x:=by
 cases x<;>first | rfl | (simp only[Uw,h _ (List.mem_singleton.2 rfl)])
theorem J3w {hp hp':Nat→LObj} {x:AV} (h:∀ k∈x.refs,hp' k=hp k):lenE hp' x=lenE hp x:=by
 cases x<;>first | rfl | (simp only[lenE,h _ (List.mem_singleton.2 rfl)])
theorem Q3i {T:Tab} {hp hp':Nat→LObj} {t:Nat} {x:AV} (h:∀ k∈x.refs,hp' k=hp k):V23 T hp' t x=V23 T hp t x:=by
 unfold V23
 split<;>first | rfl | exact J3w h | skip
theorem Q3n {T:Tab} {hp hp':Nat→LObj} {t:Nat} {x:AV} (h:∀ k∈x.refs,hp' k=hp k):J0z T hp' t x=J0z T hp t x:=by
 cases x<;>first | rfl | (simp only[J0z,h _ (List.mem_singleton.2 rfl)])
theorem Z39 {T:Tab} {hp hp':Nat→LObj} {t:Nat} {x:AV} {lo hi mx:Option AV} (h:∀ k∈x.refs,hp' k=hp k):V0c T hp' t x lo hi mx some=V0c T hp t x lo hi mx some:=by
 unfold V0c
 cases x
 case rowS k off len c=>cases c<;>first | rfl | (simp only[h k (List.mem_singleton.2 rfl)])
 all_goals first | rfl | (simp only[h _ (List.mem_singleton.2 rfl)])
theorem V1k {T:Tab} {hp hp':Nat→LObj} {t:Nat} {x i:AV} (h:∀ k∈x.refs,hp' k=hp k):Uk T hp' t x i some=Uk T hp t x i some:=by
 unfold Uk
 cases x<;>first | rfl | (simp only[h _ (List.mem_singleton.2 rfl)]) | skip
theorem Q01 {b:Bool} {x:Option Eff} {f:Eff} (h:req b x=some f):x=some f:=by
 cases b
 ·cases h
 ·exact h
theorem U2p {T:Tab} {hp hp':Nat→LObj} {nx nx' s d:Nat} {x v:AV} (hx:∀ k∈x.refs,hp' k=hp k) (h:Xu T hp nx s d x some=some (.val v)):Xu T hp' nx' s d x some=some (.val v):=by
 unfold Xu at h ⊢
 split at h
 ·simp_all
 ·simp_all
 ·split at h
  ·have:=Q01 h
   simp at this
  ·cases h
 ·rw[U1m (hp:=hp) hx]
  simp_all
 ·cases h
theorem Q2l {T:Tab} {hp:Nat→LObj} {nx s d:Nat} {x y v:AV} (h:Zj T hp nx s d x y some=some (.val v)):False:=by
 unfold Zj at h
 repeat' split at h
 all_goals (first | (cases h;done) | (have:=Q01 h;simp at this;done) | skip)
 simp only at h
 have:=Q01 h
 generalize (_||_:Bool)=b at this
 cases b<;>simp at this
theorem Q44 {T:Tab} {nx s d:Nat} {n:Int} {v:AV} (h:U0o T nx s d n some=some (.val v)):False:=by
 unfold U0o at h
 repeat' split at h
 all_goals (first | (cases h;done) | (have:=Q01 h;simp at this;done))
theorem U38 {T:Tab} {hp:Nat→LObj} {nx s d:Nat} {x y v:AV} (h:Ut T hp nx s d x y some=some (.val v)):False:=by
 unfold Ut at h
 split at h
 ·exact Q44 h
 ·exact Q2l h
theorem V1y {T:Tab} {nx t:Nat} {x y v:AV} (h:Vn T nx t x y some=some (.val v)):False:=by
 unfold Vn at h
 repeat' split at h
 all_goals (first | (cases h;done) | (have:=Q01 h;simp at this;done))
theorem J1v {T:Tab} {hp:Nat→LObj} {nx t n:Nat} {ps:List (Nat×AV)} {v:AV} (h:Xb T hp nx t n ps some=some (.val v)):False:=by
 unfold Xb at h
 repeat' split at h
 all_goals (first | (cases h;done) | skip)
 ·revert h
  cases (Nat.beq _ 1&&_)<;>intro h<;>cases h
 simp only at h
 repeat' split at h
 all_goals (first | (cases h;done) | (simp at h;done))
mutual
theorem Q4k {hp hp':Nat→LObj} {ks:List Nat}:∀ (x:AV),(∀ k∈x.refs,hp' k=hp k)→x.frz hp' ks=x.frz hp ks
 | .agg cs,h=>by simp only[AV.frz,Qv cs h]
 | .tup cs,h=>by simp only[AV.frz,Qv cs h]
 | .fn g cs,h=>by simp only[AV.frz,Qv cs h]
 | .rptr _ _ _ _,_=>by simp only[AV.frz]
 | .rowA k,h=>by simp only[AV.frz,h k (List.mem_singleton.2 rfl)]
 | .rowS k _ _ _,h=>by simp only[AV.frz,h k (List.mem_singleton.2 rfl)]
 | .ptr _ _,_=>by simp only[AV.frz]
 | .mp _,_=>by simp only[AV.frz]
 | .psl _ _,_=>by simp only[AV.frz]
 | .int _ _,_=>by simp only[AV.frz]
 | .bool _,_=>by simp only[AV.frz]
 | .str _,_=>by simp only[AV.frz]
 | .list _ _,_=>by simp only[AV.frz]
 | .np,_=>by simp only[AV.frz]
 | .nm,_=>by simp only[AV.frz]
 | .nf,_=>by simp only[AV.frz]
 | .ns,_=>by simp only[AV.frz]
 | .lptr _ _ _ _,_=>by simp only[AV.frz]
 | .undef,_=>by simp only[AV.frz]
 | .dead,_=>by simp only[AV.frz]
theorem Qv {hp hp':Nat→LObj} {ks:List Nat}:∀ (cs:List AV),(∀ k∈AV.refsL cs,hp' k=hp k)→AV.frzL hp' ks cs=AV.frzL hp ks cs
 | [],_=>by simp only[AV.frzL]
 | c::cs,h=>by
   simp only[AV.refsL,List.mem_append] at h
   simp only[AV.frzL,Q4k c (fun k hk=>h k (.inl hk)),Qv cs (fun k hk=>h k (.inr hk))]
end
theorem V0n {hp hp':Nat→LObj}:∀ (ks:List Nat),(∀ k∈ks,hp' k=hp k)→V4 hp' ks=V4 hp ks
 | [],_=>rfl
 | k::ks,h=>by
   simp only[V4,h k (by simp),V0n ks (fun j hj=>h j (by simp[hj]))]
theorem V3p {T:Tab} {orc:Orc} {hp hp':Nat→LObj} {f:Nat} {args:List AV} {v:AV} (hk:∀ k∈AV.refsL args,hp' k=hp k) (h:Z0q T orc hp f args some=some (.val v)):Z0q T orc hp' f args some=some (.val v):=by
 unfold Z0q at h ⊢
 simp only at h ⊢
 rw[V0n _ hk,Qv args hk]
 split at h
 ·rename_i hr
  rw[if_pos hr]
  exact h
 ·rename_i hr
  split at h
  ·obtain⟨q,_,hq⟩:=Tr.run_some h
   split at hq<;>cases hq
  ·obtain⟨q,_,hq⟩:=Tr.run_some h
   cases hq
theorem J1c:∀ (cs:List AV) (ts:List (Option Ty)),AV.refsL (X00 cs ts)=AV.refsL cs
 | [],ts=>by cases ts<;>simp only[X00]
 | c::cs,[]=>by cases c<;>simp only[X00]
 | c::cs,t::ts=>by cases c<;>cases t<;>simp only[X00,AV.refsL,J1c cs ts,AV.refs]
theorem U2a (T:Tab) (t:Nat) (v:AV):(X0e T t v).refs=v.refs:=by
 unfold X0e
 split
 ·split
  ·simp only[AV.refs,J1c]
  ·rfl
 ·rfl
theorem U2e (T:Tab) (t:Nat) (v:AV):(V0w T t v).refs=v.refs:=by
 unfold V0w
 split
 ·cases T.kns with | true=>rfl | false=>?_
  rw[cond_false]
  split
  ·split<;>rfl
  ·rfl
 ·cases T.kns with | true=>rfl | false=>exact U2a T t v
theorem J08 (T:Tab):∀ (ts:List Nat) (vs:List AV),AV.refsL (Ql T ts vs)=AV.refsL vs
 | [],vs=>by cases vs<;>rfl
 | t::ts,[]=>rfl
 | t::ts,v::vs=>by simp only[Ql,AV.refsL,U2e,J08 T ts vs]
theorem X10 (xs ys:List AV):AV.refsL (xs++ys)=AV.refsL xs++AV.refsL ys:=by
 induction xs with
 | nil=>rfl
 | cons x xs ih=>simp[AV.refsL,ih]
theorem Q08 {xs:List AV} {x:AV} (hx:x∈xs):∀ {k:Nat},k∈x.refs→k∈AV.refsL xs:=by
 intro k hk
 induction xs with
 | nil=>cases hx
 | cons y ys ih=>
   simp only[AV.refsL,List.mem_append]
   rcases List.mem_cons.1 hx with rfl | hx
   ·exact .inl hk
   ·exact .inr (ih hx)
theorem Q3j {T:Tab} {hp hp':Nat→LObj} {t:Nat} {m k:AV} {ok:Bool} (h:∀ j∈m.refs,hp' j=hp j):Q1o T hp' t m k ok=Q1o T hp t m k ok:=by
 cases m
 case mp j=>
  unfold Q1o
  cases Z0j T t with
  | none=>rfl
  | some p=>simp only[h j (by simp[AV.refs])]
 all_goals (unfold Q1o;cases Z0j T t<;>rfl)
theorem Q3b {T:Tab} {hp:Nat→LObj} {t:Nat} {m k v z:AV} (h:updE T hp t m k v=some (.val z)):False:=by
 unfold updE at h
 repeat' split at h
 all_goals cases h
theorem V2t {T:Tab} {nx t:Nat} {z:AV} (h:J0h T nx t=some (.val z)):False:=by
 unfold J0h at h
 split at h<;>cases h
theorem V3x {T:Tab} {hp:Nat→LObj} {t t2:Nat} {x y z:AV} (h:U2r T hp t t2 x y=some (.val z)):False:=by
 unfold U2r at h
 repeat' split at h
 all_goals cases h
theorem Z3m {T:Tab} {hp:Nat→LObj} {t:Nat} {x z:AV} (h:V1n T hp t x=some (.val z)):False:=by
 unfold V1n at h
 repeat' split at h
 all_goals cases h
theorem Z2q {T:Tab} {hp hp':Nat→LObj} {nx nx':Nat} {b:Builtin} {ts:List Nat} {vs:List AV} {v:AV} (hr:∀ k∈AV.refsL vs,hp' k=hp k) (h:Qs T hp nx b ts vs some=some (.val v)):Qs T hp' nx' b ts vs some=some (.val v):=by
 unfold Qs at h ⊢
 split at h
 ·rename_i t x
  rw[Q3i (hp:=hp) (fun k hk=>hr k (Q08 (by simp) hk))]
  exact h
 ·exact(U38 h).elim
 ·exact h
 ·exact h
 ·split at h
  ·rename_i f hf
   cases h
   exact(V3x hf).elim
  ·cases h
 ·split at h
  ·rename_i f hf
   cases h
   exact(Z3m hf).elim
  ·cases h
 ·exact h
 ·cases h
theorem Z29 (st:St) (hp':Nat→LObj) (nx':Nat) (x:Operand):St.ev { st with hp:=hp',nx:=nx' } x=st.ev x:=by cases x<;>rfl
theorem J2w {hp hp':Nat→LObj} {t:Ty} {x:AV} (h:∀ k∈x.refs,hp' k=hp k):Q20 hp' t x=Q20 hp t x:=by
 unfold Q20
 split
 ·rfl
 ·exact U1m h
theorem Z2v {T:Tab} {hp hp':Nat→LObj} {nx nx' s1 s2:Nat} {base src:AV} {k:Nat} {ob:LObj} {v:AV} (hb:∀ j∈base.refs,hp' j=hp j) (hs:∀ j∈src.refs,hp' j=hp j)
    (h:Zj T hp nx s1 s2 base src some=some (.app k ob v)):Zj T hp' nx' s1 s2 base src some=some (.app k ob v):=by
 cases base with
 | rowA k0=>
   have e:=hb k0 (by simp[AV.refs])
   unfold Zj at h ⊢
   simp only[J2w hs,e] at h ⊢
   exact h
 | rowS k0 off len capped=>
   have e:=hb k0 (by simp[AV.refs])
   unfold Zj at h ⊢
   simp only[J2w hs,e] at h ⊢
   exact h
 | _=>
   exfalso
   unfold Zj at h
   simp only[req,Bool.cond_eq_ite] at h
   repeat' split at h
   all_goals cases h
theorem Q47 {T:Tab} {nx s d:Nat} {n:Int} {k:Nat} {ob:LObj} {v:AV} (h:U0o T nx s d n some=some (.app k ob v)):False:=by
 unfold U0o at h
 repeat' split at h
 all_goals (first | (cases h;done) | (have:=Q01 h;simp at this;done))
theorem V34 {T:Tab} {hp hp':Nat→LObj} {nx nx' s1 s2:Nat} {base src:AV} {k:Nat} {ob:LObj} {v:AV} (hb:∀ j∈base.refs,hp' j=hp j) (hs:∀ j∈src.refs,hp' j=hp j)
    (h:Ut T hp nx s1 s2 base src some=some (.app k ob v)):Ut T hp' nx' s1 s2 base src some=some (.app k ob v):=by
 unfold Ut at h ⊢
 split at h
 ·exact(Q47 h).elim
 ·exact Z2v hb hs h
theorem X4m {T:Tab} {orc:Orc} {o:Op} {ty:Nat} {st:St} {k:Nat} {ob:LObj} {v:AV} (hi:V1s o=true) (h:evOp T orc o ty st some=some (.app k ob v)) (hp':Nat→LObj) (nx':Nat) (hk:∀ j∈AV.refsL (Q4 st o),hp' j=st.hp j) :
    evOp T orc o ty { st with hp:=hp',nx:=nx' } some=some (.app k ob v):=by
 have hev:St.ev { st with hp:=hp',nx:=nx' } = st.ev:=funext (Z29 st hp' nx')
 cases o<;>simp only[V1s] at hi<;>try (cases hi;done)
 rename_i c
 split at hi
 ·rename_i hc
  simp only[evOp,hev,hc] at h ⊢
  have hz:∀ z∈c.args.toList.map st.ev,∀ j∈z.refs,hp' j=st.hp j:=fun z hz j hj=>hk j (by
   obtain⟨q,hq,rfl⟩:=List.mem_map.1 hz
   exact Q08 (List.mem_map.2 ⟨q,by simp only[Op.operands,Call.operands];simp;exact .inr (by simpa using hq),rfl⟩) hj)
  generalize c.args.toList.map st.ev=vs at h hz ⊢
  generalize c.argTypes.toList=ts at h ⊢
  match ts,vs,h with
  | [t,t2],[x,y],h=>exact V34 (fun j hj=>hz x (by simp) j hj) (fun j hj=>hz y (by simp) j hj) h
  | [],_,h=>cases h
  | [_],_,h=>cases h
  | _::_::_::_,_,h=>cases h
  | [_,_],[],h=>cases h
  | [_,_],[_],h=>cases h
  | [_,_],_::_::_::_,h=>cases h
 ·cases hi
theorem X3s {T:Tab} {nx t:Nat} {x v:AV} (h:Q26 T nx t x=.val v) (nx':Nat):Q26 T nx' t x=.val v:=by
 unfold Q26 at h ⊢
 split at h
 ·split at h
  ·revert h
   cases T.kns&&J3c _ _<;>intro h
   ·exact h
   ·cases h
  ·exact h
 ·exact h
theorem Z3q {T:Tab} {orc:Orc} {o:Op} {ty:Nat} {st:St} {v:AV} (h:evOp T orc o ty st some=some (.val v)) (hp':Nat→LObj) (nx':Nat) (hk:Ju o=false→∀ k∈AV.refsL (Q4 st o),hp' k=st.hp k) :
    evOp T orc o ty { st with hp:=hp',nx:=nx' } some=some (.val v):=by
 have hev:St.ev { st with hp:=hp',nx:=nx' } = st.ev:=funext (Z29 st hp' nx')
 have hrefs:Ju o=false→∀ x∈o.operands.toList,∀ k∈(st.ev x).refs,hp' k=st.hp k:=fun hf x hx k hkx=>hk hf k (Q08 (List.mem_map.2 ⟨x,hx,rfl⟩) hkx)
 cases o<;>simp only[evOp,hev] at h ⊢<;>(try exact h)
 case assign x=>
  unfold Z1e at h ⊢
  split at h
  ·split at h
   ·split at h
    ·split at h
     ·exact h
     ·cases h
    ·exact h
   ·exact h
  ·exact h
 case extract x i=>
  split at h
  ·split at h
   ·rename_i v0 hv0
    have h':=X3s (Option.some.inj h) nx'
    simp only[hv0,h']
   ·cases h
  ·cases h
 case alloc e=>
  split at h
  ·unfold boxE at h
   split at h
   ·rename_i hx;split at hx<;>cases hx<;>cases h
   ·cases h
  ·cases h
 case box e x=>
  split at h
  ·unfold boxE at h
   split at h
   ·rename_i hx;split at hx<;>cases hx<;>cases h
   ·cases h
  ·cases h
 case buildSlice t n ps=>exact(J1v h).elim
 case load t x=>rw[Q3n (hp:=st.hp) (hrefs rfl x (by simp[Op.operands]))];exact h
 case store t x y=>
  split at h
  ·rename_i f hf
   unfold X2c at hf
   repeat' split at hf
   all_goals (first | (cases hf;done) | (cases hf;cases h;done))
  ·cases h
 case convert s d x=>exact U2p (hrefs rfl x (by simp[Op.operands])) h
 case makeSlice t x y=>exact(V1y h).elim
 case slice t x lo hi mx=>rw[Z39 (hp:=st.hp) (hrefs rfl x (by simp[Op.operands]))];exact h
 case makeMap t r=>
  split at h
  ·split at h
   ·rename_i f hf
    cases h
    exact(V2t hf).elim
   ·cases h
  ·cases h
 case lookup t m k ok=>rw[Q3j (hp:=st.hp) (hrefs rfl m (by simp[Op.operands]))];exact h
 case mapUpdate t m k v=>
  split at h
  ·rename_i f hf
   cases h
   exact(Q3b hf).elim
  ·cases h
 case insert t m k v=>
  split at h
  ·rename_i f hf
   cases h
   exact(Q3b hf).elim
  ·cases h
 case indexAddr t x i=>rw[V1k (hp:=st.hp) (hrefs rfl x (by simp[Op.operands]))];exact h
 case call c=>
  have hL:∀ k∈AV.refsL (c.args.toList.map st.ev),hp' k=st.hp k:=fun k hkk=>by
   obtain⟨y,hy,hky⟩:=X09 hkk
   obtain⟨x,hx,rfl⟩:=List.mem_map.1 hy
   exact hrefs rfl x (by simp[Op.operands,Call.operands];right;simpa using hx) k hky
  split at h
  ·exact Z2q hL h
  ·rename_i f hf
   split at h
   ·rename_i g caps hg
    have hc:=hrefs rfl f (by simp[Op.operands,Call.operands,hf])
    rw[hg] at hc
    simp only[AV.refs] at hc
    refine V3p (hp:=st.hp) (fun k hkk=>?_) h
    rw[X10,J08,List.mem_append] at hkk
    exact hkk.elim (hL k) (hc k)
   ·cases h
  ·cases h
theorem Q0m {p:Nat→Bool}:∀ (n a:Nat),(rng a n).all p=true→∀ j,a≤j→j < a+n→p j=true
 | 0,a,_,j,h1,h2=>by omega
 | n+1,a,h,j,h1,h2=>by
   simp only[rng,List.all_cons,Bool.and_eq_true] at h
   by_cases hj:j=a
   ·subst hj;exact h.1
   ·exact Q0m n (a+1) h.2 j (by omega) (by omega)
def runS (step:Nat→St→St) (L:Nat→Bool) (st:St):Nat→St
 | 0=>st
 | n+1=>bif L n then step n (runS step L st n) else runS step L st n
theorem Xo {step:Nat→St→St} {L L':Nat→Bool} {st:St}:∀ (n:Nat),(∀ i,i < n→L i=L' i)→runS step L st n=runS step L' st n
 | 0,_=>rfl
 | n+1,h=>by
   simp only[runS]
   rw[h n (by omega),Xo n fun i hi=>h i (by omega)]
def addL (L:Nat→Bool) (e:Nat):Nat→Bool:=fun i=>L i||i==e
theorem V1g {step:Nat→St→St} (hmono:∀ i s,s.nx≤(step i s).nx) {L:Nat→Bool} {st:St} {b:Nat} (hb:b≤st.nx):∀ (n:Nat),b≤(runS step L st n).nx
 | 0=>hb
 | n+1=>by
   simp only[runS]
   cases L n with
   | false=>exact V1g hmono hb n
   | true=>exact Nat.le_trans (V1g hmono hb n) (hmono _ _)
theorem V1w {step:Nat→St→St} (hmono:∀ i s,s.nx≤(step i s).nx) {L:Nat→Bool} {st:St} {b:Nat} (hb:b≤st.nx) {e:Nat} (he:L e=false):∀ (n:Nat),e < n→(∀ k,e < k→k < n→L k=true→∀ s,b≤s.nx→step k (step e s)=step e (step k s))→
    runS step (addL L e) st n=step e (runS step L st n)
 | 0,h,_=>by omega
 | n+1,h,hc=>by
   simp only[runS]
   by_cases hen:e=n
   ·subst hen
    have:runS step (addL L e) st e=runS step L st e:=Xo e fun i hi=>by
     have:(i==e)=false:=by simp;omega
     simp[addL,this]
    rw[this,he]
    simp[addL]
   ·have h1:=V1w hmono hb he n (by omega) fun k h1 h2=>hc k h1 (by omega)
    rw[h1]
    have:addL L e n=L n:=by
     have:(n==e)=false:=by simp;omega
     simp[addL,this]
    rw[this]
    cases hn:L n with
    | false=>rfl
    | true=>exact hc n (by omega) (by omega) hn _ (V1g hmono hb n)
theorem U2s {step:Nat→St→St} (hmono:∀ i s,s.nx≤(step i s).nx) {L L':Nat→Bool} {st:St} {b:Nat} (hb:b≤st.nx) {n:Nat} {rel:St→St→Prop} (hr:∀ s,rel s s) (ht:∀ s s' s'',rel s s'→rel s' s''→rel s s'')
    (hsub:∀ i,L i=true→L' i=true) (hex:∀ e,e < n→L e=false→L' e=true→(∀ s,b≤s.nx→rel s (step e s))∧∀ k,e < k→k < n→L k=true→∀ s,b≤s.nx→step k (step e s)=step e (step k s)) :
    rel (runS step L st n) (runS step L' st n):=by
 have key:∀ m,m≤n→rel (runS step L st n) (runS step (fun i=>L i||(L' i&&decide (i < m))) st n):=by
  intro m
  induction m with
  | zero=>
    intro _
    have:runS step (fun i=>L i||(L' i&&decide (i < 0))) st n=runS step L st n:=Xo n fun i _=>by simp
    rw[this]
    exact hr _
  | succ m ih=>
    intro hm
    have h1:=ih (by omega)
    by_cases hL:L m=false∧L' m=true
    ·obtain⟨hL,hL'⟩:=hL
     obtain⟨h2,h3⟩:=hex m (by omega) hL hL'
     have h4:=V1w (step:=step) hmono (st:=st) hb (L:=fun i=>L i||(L' i&&decide (i < m))) (e:=m) (by simp[hL]) n (by omega) fun k h1 h2 hk=>by
      have:¬ k < m:=by omega
      simp[this] at hk
      exact h3 k h1 h2 hk
     have h5:runS step (fun i=>L i||(L' i&&decide (i < m+1))) st n=runS step (addL (fun i=>L i||(L' i&&decide (i < m))) m) st n:=Xo n fun i _=>by
      by_cases him:i=m
      ·subst him;simp[addL,hL,hL']
      ·have h6:(i < m+1)↔i < m:=by omega
       simp[addL,h6,him]
     rw[h5,h4]
     exact ht _ _ _ h1 (h2 _ (V1g hmono hb n))
    ·have h5:runS step (fun i=>L i||(L' i&&decide (i < m+1))) st n=runS step (fun i=>L i||(L' i&&decide (i < m))) st n:=Xo n fun i _=>by
      by_cases him:i=m
      ·subst him
       cases h6:L i with
       | true=>simp
       | false=>
         cases h7:L' i with
         | true=>exact absurd ⟨h6,h7⟩ hL
         | false=>simp
      ·have h6:(i < m+1)↔i < m:=by omega
       simp[h6]
     rw[h5]
     exact h1
 have:=key n (Nat.le_refl n)
 have h2:runS step (fun i=>L i||(L' i&&decide (i < n))) st n=runS step L' st n:=Xo n fun i hi=>by
  cases h:L i with
  | true=>simp[hsub i h]
  | false=>simp[hi]
 rw[h2] at this
 exact this
def V0f (all:List Oper) (o:Oper) (st:St):Option Bool:=
 match o.guard with
 | none=>some true
 | some (j,want)=>match J0q all j with
   | none=>none
   | some t=>match st.tm t with
     | .bool b=>some (b==want)
     | .undef=>some false
     | _=>none
theorem X36 {R:Type} {all:List Oper} {o:Oper} {st:St} {run skip:St→Option R} {r:R} (h:gate all o st run skip=some r) :
    (V0f all o st=some true∧run st=some r)∨(V0f all o st=some false∧skip st=some r):=by
 unfold gate at h
 unfold V0f
 split at h
 ·rename_i hg
  rw[hg]
  exact .inl ⟨rfl,h⟩
 ·rename_i j want hg
  rw[hg]
  simp only
  split at h
  ·cases h
  ·rename_i t hd
   split at h
   ·rename_i b hb
    rw[hd]
    simp only[hb]
    cases want<;>cases b<;>simp only[cond_true,cond_false] at h<;>rw[Z1u hb] at h<;>simp[h]
   ·rename_i hu
    rw[hd]
    simp only[hu]
    exact .inr ⟨trivial,h⟩
   ·cases h
theorem V11 {c:Cx} {st:St} {a:Act} {w:World} {μ:Nat→Pl} {F:Nat→Prop} (hi:Inv c st a w μ F) {ops:Array Oper} {o:Oper} {b:Bool} (h:V0f ops.toList o st=some b) :
    Region.wanted o (yielded ops a.tmps)=b:=by
 unfold V0f at h
 unfold Region.wanted
 split at h
 ·rename_i hg
  rw[hg]
  cases h
  rfl
 ·rename_i j want hg
  rw[hg]
  simp only
  split at h
  ·cases h
  ·rename_i t hd
   split at h
   ·rename_i b hb
    rw[J1k hi hd hb]
    cases h
    cases want<;>cases b<;>rfl
   ·rename_i hu
    rw[Z1c hi hd hu]
    cases h
    rfl
   ·cases h
def X6 (o:Oper):Option Eff→St→St
 | none,st=>st.putO o.dst .undef
 | some f,st=>(st.apply f).2.putO o.dst (st.apply f).1
mutual
theorem Uf (ks:List Nat):∀ (x:AV),x.solid=true→x.kill ks=x
 | .agg cs,h=>by simp only[AV.solid] at h;simp only[AV.kill,Jz ks cs h]
 | .tup cs,h=>by simp only[AV.solid] at h;simp only[AV.kill,Jz ks cs h]
 | .fn g cs,h=>by simp only[AV.solid] at h;simp only[AV.kill,Jz ks cs h]
 | .rptr _ _ _ _,h=>by simp[AV.solid] at h
 | .rowA _,h=>by simp[AV.solid] at h
 | .rowS _ _ _ _,h=>by simp[AV.solid] at h
 | .ptr _ _,_=>by simp only[AV.kill]
 | .mp _,_=>by simp only[AV.kill]
 | .psl _ _,_=>by simp only[AV.kill]
 | .int _ _,_=>by simp only[AV.kill]
 | .bool _,_=>by simp only[AV.kill]
 | .str _,_=>by simp only[AV.kill]
 | .list _ _,_=>by simp only[AV.kill]
 | .np,_=>by simp only[AV.kill]
 | .nm,_=>by simp only[AV.kill]
 | .nf,_=>by simp only[AV.kill]
 | .ns,_=>by simp only[AV.kill]
 | .lptr _ _ _ _,_=>by simp only[AV.kill]
 | .undef,_=>by simp only[AV.kill]
 | .dead,h=>by simp[AV.solid] at h
theorem Jz (ks:List Nat):∀ (cs:List AV),AV.solidL cs=true→AV.killL ks cs=cs
 | [],_=>by simp only[AV.killL]
 | c::cs,h=>by
   simp only[AV.solidL,Bool.and_eq_true] at h
   simp only[AV.killL,Uf ks c h.1,Jz ks cs h.2]
end
mutual
theorem Jr (ks:List Nat):∀ (x:AV),(x.kill ks).solid=true→x.kill ks=x
 | .agg cs,h=>by simp only[AV.kill,AV.solid] at h;simp only[AV.kill,Xx ks cs h]
 | .tup cs,h=>by simp only[AV.kill,AV.solid] at h;simp only[AV.kill,Xx ks cs h]
 | .fn g cs,h=>by simp only[AV.kill,AV.solid] at h;simp only[AV.kill,Xx ks cs h]
 | .rptr k t i off,h=>by
   simp only[AV.kill] at h
   cases hc:ks.contains k<;>rw[hc] at h<;>simp[AV.solid] at h
 | .rowA k,h=>by
   simp only[AV.kill] at h
   cases hc:ks.contains k<;>rw[hc] at h<;>simp[AV.solid] at h
 | .rowS k off n c,h=>by
   simp only[AV.kill] at h
   cases hc:ks.contains k<;>rw[hc] at h<;>simp[AV.solid] at h
 | .ptr _ _,_=>by simp only[AV.kill]
 | .mp _,_=>by simp only[AV.kill]
 | .psl _ _,_=>by simp only[AV.kill]
 | .int _ _,_=>by simp only[AV.kill]
 | .bool _,_=>by simp only[AV.kill]
 | .str _,_=>by simp only[AV.kill]
 | .list _ _,_=>by simp only[AV.kill]
 | .np,_=>by simp only[AV.kill]
 | .nm,_=>by simp only[AV.kill]
 | .nf,_=>by simp only[AV.kill]
 | .ns,_=>by simp only[AV.kill]
 | .lptr _ _ _ _,_=>by simp only[AV.kill]
 | .undef,_=>by simp only[AV.kill]
 | .dead,_=>by simp only[AV.kill]
theorem Xx (ks:List Nat):∀ (cs:List AV),AV.solidL (AV.killL ks cs)=true→AV.killL ks cs=cs
 | [],_=>by simp only[AV.killL]
 | c::cs,h=>by
   simp only[AV.killL,AV.solidL,Bool.and_eq_true] at h
   simp only[AV.killL,Jr ks c h.1,Xx ks cs h.2]
end
mutual
theorem J10 {n0:Nat} {ks:List Nat} (hk:∀ k,k < n0→ks.contains k=false):∀ (x:AV),x.low n0=true→x.kill ks=x
 | .agg cs,h=>by simp only[AV.low] at h;simp only[AV.kill,U08 hk cs h]
 | .tup cs,h=>by simp only[AV.low] at h;simp only[AV.kill,U08 hk cs h]
 | .fn g cs,h=>by simp only[AV.low] at h;simp only[AV.kill,U08 hk cs h]
 | .rptr k t i off,h=>by simp only[AV.low,Nat.blt_eq] at h;simp only[AV.kill,hk k h,cond_false]
 | .rowA k,h=>by simp only[AV.low,Nat.blt_eq] at h;simp only[AV.kill,hk k h,cond_false]
 | .rowS k _ _ _,h=>by simp only[AV.low,Nat.blt_eq] at h;simp only[AV.kill,hk k h,cond_false]
 | .ptr _ _,_=>by simp only[AV.kill]
 | .mp _,_=>by simp only[AV.kill]
 | .psl _ _,_=>by simp only[AV.kill]
 | .int _ _,_=>by simp only[AV.kill]
 | .bool _,_=>by simp only[AV.kill]
 | .str _,_=>by simp only[AV.kill]
 | .list _ _,_=>by simp only[AV.kill]
 | .np,_=>by simp only[AV.kill]
 | .nm,_=>by simp only[AV.kill]
 | .nf,_=>by simp only[AV.kill]
 | .ns,_=>by simp only[AV.kill]
 | .lptr _ _ _ _,_=>by simp only[AV.kill]
 | .undef,_=>by simp only[AV.kill]
 | .dead,h=>by simp[AV.low] at h
theorem U08 {n0:Nat} {ks:List Nat} (hk:∀ k,k < n0→ks.contains k=false):∀ (cs:List AV),AV.lowL n0 cs=true→AV.killL ks cs=cs
 | [],_=>by simp only[AV.killL]
 | c::cs,h=>by
   simp only[AV.lowL,Bool.and_eq_true] at h
   simp only[AV.killL,J10 hk c h.1,U08 hk cs h.2]
end
mutual
theorem Q10 {n0:Nat} {ks:List Nat}:∀ (x:AV),(x.kill ks).low n0=true→x.kill ks=x
 | .agg cs,h=>by simp only[AV.kill,AV.low] at h;simp only[AV.kill,Z0a cs h]
 | .tup cs,h=>by simp only[AV.kill,AV.low] at h;simp only[AV.kill,Z0a cs h]
 | .fn g cs,h=>by simp only[AV.kill,AV.low] at h;simp only[AV.kill,Z0a cs h]
 | .rptr k t i off,h=>by
   simp only[AV.kill] at h ⊢
   cases hc:ks.contains k<;>rw[hc] at h
   ·rfl
   ·simp[AV.low] at h
 | .rowA k,h=>by
   simp only[AV.kill] at h ⊢
   cases hc:ks.contains k<;>rw[hc] at h
   ·rfl
   ·simp[AV.low] at h
 | .rowS k off n c,h=>by
   simp only[AV.kill] at h ⊢
   cases hc:ks.contains k<;>rw[hc] at h
   ·rfl
   ·simp[AV.low] at h
 | .ptr _ _,_=>by simp only[AV.kill]
 | .mp _,_=>by simp only[AV.kill]
 | .psl _ _,_=>by simp only[AV.kill]
 | .int _ _,_=>by simp only[AV.kill]
 | .bool _,_=>by simp only[AV.kill]
 | .str _,_=>by simp only[AV.kill]
 | .list _ _,_=>by simp only[AV.kill]
 | .np,_=>by simp only[AV.kill]
 | .nm,_=>by simp only[AV.kill]
 | .nf,_=>by simp only[AV.kill]
 | .ns,_=>by simp only[AV.kill]
 | .lptr _ _ _ _,_=>by simp only[AV.kill]
 | .undef,_=>by simp only[AV.kill]
 | .dead,_=>by simp only[AV.kill]
theorem Z0a {n0:Nat} {ks:List Nat}:∀ (cs:List AV),AV.lowL n0 (AV.killL ks cs)=true→AV.killL ks cs=cs
 | [],_=>by simp only[AV.killL]
 | c::cs,h=>by
   simp only[AV.killL,AV.lowL,Bool.and_eq_true] at h
   simp only[AV.killL,Q10 c h.1,Z0a cs h.2]
end
mutual
theorem U4c {n0:Nat}:∀ (x:AV),x.low n0=true→∀ k∈x.refs,k < n0
 | .agg cs,h=>by simp only[AV.low] at h;simp only[AV.refs];exact Vr cs h
 | .tup cs,h=>by simp only[AV.low] at h;simp only[AV.refs];exact Vr cs h
 | .fn g cs,h=>by simp only[AV.low] at h;simp only[AV.refs];exact Vr cs h
 | .rptr k t i off,h=>by simp only[AV.low,Nat.blt_eq] at h;simp only[AV.refs,List.mem_singleton];rintro _ rfl;exact h
 | .rowA k,h=>by simp only[AV.low,Nat.blt_eq] at h;simp only[AV.refs,List.mem_singleton];rintro _ rfl;exact h
 | .rowS k _ _ _,h=>by simp only[AV.low,Nat.blt_eq] at h;simp only[AV.refs,List.mem_singleton];rintro _ rfl;exact h
 | .ptr k _,h=>by simp only[AV.low,Nat.blt_eq] at h;simp only[AV.refs,List.mem_singleton];rintro _ rfl;exact h
 | .mp k,h=>by simp only[AV.low,Nat.blt_eq] at h;simp only[AV.refs,List.mem_singleton];rintro _ rfl;exact h
 | .psl k n'',h=>by simp only[AV.low,Nat.blt_eq] at h;simp only[AV.refs,List.mem_singleton];rintro _ rfl;exact h
 | .int _ _,_=>by simp[AV.refs]
 | .bool _,_=>by simp[AV.refs]
 | .str _,_=>by simp[AV.refs]
 | .list _ _,_=>by simp[AV.refs]
 | .np,_=>by simp[AV.refs]
 | .nm,_=>by simp[AV.refs]
 | .nf,_=>by simp[AV.refs]
 | .ns,_=>by simp[AV.refs]
 | .lptr _ _ _ _,_=>by simp[AV.refs]
 | .undef,_=>by simp[AV.refs]
 | .dead,h=>by simp[AV.low] at h
theorem Vr {n0:Nat}:∀ (cs:List AV),AV.lowL n0 cs=true→∀ k∈AV.refsL cs,k < n0
 | [],_=>by simp[AV.refsL]
 | c::cs,h=>by
   simp only[AV.lowL,Bool.and_eq_true] at h
   simp only[AV.refsL,List.mem_append]
   rintro k (hk | hk)
   ·exact U4c c h.1 k hk
   ·exact Vr cs h.2 k hk
end
theorem X2g {n0:Nat}:∀ {xs:List AV},AV.lowL n0 xs=true→∀ x∈xs,x.low n0=true
 | [],_,_,h=>by cases h
 | y::ys,h,x,hx=>by
   simp only[AV.lowL,Bool.and_eq_true] at h
   rcases List.mem_cons.1 hx with rfl | hx
   ·exact h.1
   ·exact X2g h.2 x hx
theorem J2h {n0:Nat} {ks:List Nat} (hk:∀ k,k < n0→ks.contains k=false) {o:LObj} (h:o.low n0=true):o.kill ks=o:=by
 cases o with
 | boxT g cs=>simp only[LObj.low] at h;simp only[LObj.kill,U08 hk cs h]
 | row t xs=>rfl
 | mpo kt vt es=>rfl
 | gone=>simp[LObj.low] at h
theorem X29 {n0:Nat} {ks:List Nat} {o:LObj} (h:(o.kill ks).low n0=true):o.kill ks=o:=by
 cases o with
 | boxT g cs=>simp only[LObj.kill,LObj.low] at h;simp only[LObj.kill,Z0a cs h]
 | row t xs=>rfl
 | mpo kt vt es=>rfl
 | gone=>rfl
theorem Qt {ks:List Nat} {o:LObj} (h:o.solid=true):o.kill ks=o:=by
 cases o with
 | boxT g cs=>simp only[LObj.solid] at h;simp only[LObj.kill,Jz ks cs h]
 | row t xs=>rfl
 | mpo kt vt es=>rfl
 | gone=>simp[LObj.solid] at h
theorem U03 {ks:List Nat} {o:LObj} (h:(o.kill ks).solid=true):o.kill ks=o:=by
 cases o with
 | boxT g cs=>simp only[LObj.kill,LObj.solid] at h;simp only[LObj.kill,Xx ks cs h]
 | row t xs=>rfl
 | mpo kt vt es=>rfl
 | gone=>rfl
mutual
theorem V16 {n0:Nat} {ks:List Nat} (hk:∀ k,n0≤k→ks.contains k=false):∀ (x:AV),x.high n0=true→x.kill ks=x
 | .agg cs,h=>by simp only[AV.high] at h;simp only[AV.kill,Z03 hk cs h]
 | .tup cs,h=>by simp only[AV.high] at h;simp only[AV.kill,Z03 hk cs h]
 | .fn g cs,h=>by simp only[AV.high] at h;simp only[AV.kill,Z03 hk cs h]
 | .rptr k t i off,h=>by simp only[AV.high,Nat.ble_eq] at h;simp only[AV.kill,hk k h,cond_false]
 | .rowA k,h=>by simp only[AV.high,Nat.ble_eq] at h;simp only[AV.kill,hk k h,cond_false]
 | .rowS k _ _ _,h=>by simp only[AV.high,Nat.ble_eq] at h;simp only[AV.kill,hk k h,cond_false]
 | .ptr _ _,_=>by simp only[AV.kill]
 | .mp _,_=>by simp only[AV.kill]
 | .psl _ _,_=>by simp only[AV.kill]
 | .int _ _,_=>by simp only[AV.kill]
 | .bool _,_=>by simp only[AV.kill]
 | .str _,_=>by simp only[AV.kill]
 | .list _ _,_=>by simp only[AV.kill]
 | .np,_=>by simp only[AV.kill]
 | .nm,_=>by simp only[AV.kill]
 | .nf,_=>by simp only[AV.kill]
 | .ns,_=>by simp only[AV.kill]
 | .lptr _ _ _ _,_=>by simp only[AV.kill]
 | .undef,_=>by simp only[AV.kill]
 | .dead,h=>by simp[AV.high] at h
theorem Z03 {n0:Nat} {ks:List Nat} (hk:∀ k,n0≤k→ks.contains k=false):∀ (cs:List AV),AV.highL n0 cs=true→AV.killL ks cs=cs
 | [],_=>by simp only[AV.killL]
 | c::cs,h=>by
   simp only[AV.highL,Bool.and_eq_true] at h
   simp only[AV.killL,V16 hk c h.1,Z03 hk cs h.2]
end
mutual
theorem J24 {n0:Nat} {ks:List Nat}:∀ (x:AV),(x.kill ks).high n0=true→x.kill ks=x
 | .agg cs,h=>by simp only[AV.kill,AV.high] at h;simp only[AV.kill,J03 cs h]
 | .tup cs,h=>by simp only[AV.kill,AV.high] at h;simp only[AV.kill,J03 cs h]
 | .fn g cs,h=>by simp only[AV.kill,AV.high] at h;simp only[AV.kill,J03 cs h]
 | .rptr k t i off,h=>by
   simp only[AV.kill] at h ⊢
   cases hc:ks.contains k<;>rw[hc] at h
   ·rfl
   ·simp[AV.high] at h
 | .rowA k,h=>by
   simp only[AV.kill] at h ⊢
   cases hc:ks.contains k<;>rw[hc] at h
   ·rfl
   ·simp[AV.high] at h
 | .rowS k off n c,h=>by
   simp only[AV.kill] at h ⊢
   cases hc:ks.contains k<;>rw[hc] at h
   ·rfl
   ·simp[AV.high] at h
 | .ptr _ _,_=>by simp only[AV.kill]
 | .mp _,_=>by simp only[AV.kill]
 | .psl _ _,_=>by simp only[AV.kill]
 | .int _ _,_=>by simp only[AV.kill]
 | .bool _,_=>by simp only[AV.kill]
 | .str _,_=>by simp only[AV.kill]
 | .list _ _,_=>by simp only[AV.kill]
 | .np,_=>by simp only[AV.kill]
 | .nm,_=>by simp only[AV.kill]
 | .nf,_=>by simp only[AV.kill]
 | .ns,_=>by simp only[AV.kill]
 | .lptr _ _ _ _,_=>by simp only[AV.kill]
 | .undef,_=>by simp only[AV.kill]
 | .dead,_=>by simp only[AV.kill]
theorem J03 {n0:Nat} {ks:List Nat}:∀ (cs:List AV),AV.highL n0 (AV.killL ks cs)=true→AV.killL ks cs=cs
 | [],_=>by simp only[AV.killL]
 | c::cs,h=>by
   simp only[AV.killL,AV.highL,Bool.and_eq_true] at h
   simp only[AV.killL,J24 c h.1,J03 cs h.2]
end
theorem U0p {n0:Nat} {ks:List Nat} (hk:∀ k,n0≤k→ks.contains k=false) {o:LObj} (h:o.high n0=true):o.kill ks=o:=by
 cases o with
 | boxT g cs=>simp only[LObj.high] at h;simp only[LObj.kill,Z03 hk cs h]
 | row t xs=>rfl
 | mpo kt vt es=>rfl
 | gone=>simp[LObj.high] at h
theorem Q1x {n0:Nat} {ks:List Nat} {o:LObj} (h:(o.kill ks).high n0=true):o.kill ks=o:=by
 cases o with
 | boxT g cs=>simp only[LObj.kill,LObj.high] at h;simp only[LObj.kill,J03 cs h]
 | row t xs=>rfl
 | mpo kt vt es=>rfl
 | gone=>rfl
inductive Cl (n0:Nat):Option Eff→Cls→Prop where
 | skip {l:List Nat}:Cl n0 none (0,l)
 | solid {v:AV} {c:Nat} {l:List Nat} (hc:c=0∨c=10∨c=13) (hv:v.solid=true):Cl n0 (some (.val v)) (c,l)
 | low {v:AV} {c:Nat} {l:List Nat} (hc:c=3) (hv:v.low n0=true):Cl n0 (some (.val v)) (c,l)
 | lowIn {v:AV} {c:Nat} {l:List Nat} (hc:c=1∨c=15) (hv:v.low n0=true) (hr:∀ k∈v.refs,k∈l):Cl n0 (some (.val v)) (c,l)
 | val {v:AV} {c:Nat} {l:List Nat} (hc:c=2∨c=4):Cl n0 (some (.val v)) (c,l)
 | new {os:List LObj} {v:AV} {l:List Nat}:Cl n0 (some (.new os v)) (5,l)
 | upd {k:Nat} {o:LObj} {v:AV}:Cl n0 (some (.upd k o v)) (6,[k])
 | fil {k:Nat} {o:LObj} {v:AV} (hk:k < n0) (ho:o.solid=true) (hv:v.solid=true):Cl n0 (some (.upd k o v)) (14,[k])
 | app0 {k:Nat} {o:LObj} {v:AV} {c:Nat} {l:List Nat} (hc:c=7∨c=16) (hk:n0≤k):Cl n0 (some (.app k o v)) (c,l)
 | app {k:Nat} {o:LObj} {v:AV}:Cl n0 (some (.app k o v)) (8,[k])
 | call {ks:List Nat} {objs:List LObj} {vs:List AV}:Cl n0 (some (.call [] ks objs vs)) (8,ks)
 | plain {ks:List Nat} {objs:List LObj} {vs:List AV} (hne:ks≠[]) (hl:objs.length=ks.length) (hk:∀ k∈ks,k < n0) (hv:∀ i∈AV.refsL vs,i < ks.length) (ho:∀ ob∈objs,∀ i∈ob.refs,i < ks.length):Cl n0 (some (.call [] ks objs vs)) (11,ks)
 | alloc {os:List LObj} {v:AV} {l:List Nat} (hv:v.high n0=true) (ho:os.all (LObj.high n0)=true):Cl n0 (some (.new os v)) (12,l)
 | rest {e:Option Eff} {l:List Nat}:Cl n0 e (9,l)
theorem cl_of (n0:Nat) (st:St) (o:Op) (f:Eff):Cl n0 (some f) (X4 n0 st o f):=by
 unfold X4
 cases f with
 | val v=>
   simp only
   cases h1:((Ju o||(AV.refsL (Q4 st o)).isEmpty)&&(AV.solidL (Q4 st o)&&v.solid)) with
   | true=>
     simp only[Bool.and_eq_true] at h1
     exact .solid (.inl rfl) h1.2.2
   | false=>
     cases Ju o with
     | true=>
       cases h2:(AV.lowL n0 (Q4 st o)&&v.low n0) with
       | true=>
         simp only[Bool.and_eq_true] at h2
         exact .lowIn (.inl rfl) h2.2 fun k hk=>List.mem_append_right _ hk
       | false=>exact .val (.inl rfl)
     | false=>
       cases h2:((AV.lowL n0 (Q4 st o)&&v.low n0)&&(AV.refsL (Q4 st o)).all (fun k=>(st.hp k).low n0)) with
       | true=>
         simp only[Bool.and_eq_true] at h2
         cases h3:((AV.solidL (Q4 st o)&&v.solid)&&(AV.refsL (Q4 st o)).all (fun k=>(st.hp k).solid)) with
         | true=>
           simp only[Bool.and_eq_true] at h3
           exact .solid (.inr (.inl rfl)) h3.1.2
         | false=>
           cases h5:(v.refs.all (fun k=>(AV.refsL (Q4 st o)).contains k)&&(AV.refsL (Q4 st o)).all (fun k=>(st.hp k).solid)) with
           | true=>
             simp only[Bool.and_eq_true,List.all_eq_true] at h5
             exact .lowIn (.inr rfl) h2.1.2 fun k hk=>by simpa using h5.1 k hk
           | false=>exact .low rfl h2.1.2
       | false=>
         cases h4:((AV.highL n0 (Q4 st o)&&v.solid)&&(AV.refsL (Q4 st o)).all (fun k=>Nat.ble n0 k&&(st.hp k).high n0)) with
         | true=>
           simp only[Bool.and_eq_true] at h4
           exact .solid (.inr (.inr rfl)) h4.1.2
         | false=>exact .val (.inr rfl)
 | new os v=>
   simp only
   cases h:(X1w st o&&(v.high n0&&os.all (LObj.high n0))) with
   | true=>
     simp only[Bool.and_eq_true] at h
     exact .alloc h.2.1 h.2.2
   | false=>exact .new
 | upd k ob v=>
   cases o<;>first | exact .upd | (simp only;cases h:((ob.solid&&v.solid)&&Nat.blt k n0) with
    | true=>
      simp only[Bool.and_eq_true,Nat.blt_eq] at h
      exact .fil h.2 h.1.1 h.1.2
    | false=>exact .rest)
 | app k ob v=>
   simp only
   cases h:Nat.ble n0 k with
   | true=>
     cases V1s o with
     | true=>exact .app0 (.inr rfl) (Nat.ble_eq▸h)
     | false=>exact .app0 (.inl rfl) (Nat.ble_eq▸h)
   | false=>exact .app
 | call fz ks objs vs=>
   cases fz with
   | nil=>
     cases ks with
     | nil=>exact .call
     | cons k ks=>
       simp only
       cases h:U01 n0 st o (k::ks) objs vs with
       | true=>
         simp only[U01,Bool.and_eq_true,List.all_eq_true] at h
         obtain⟨_,h1,h2,_,h3,h4⟩:=h
         exact .plain (by simp) (Nat.eq_of_beq_eq_true h1) (fun j hj=>by simpa using h2 j hj) (fun i hi=>by simpa using h3 i hi) (fun ob hob i hi=>by simpa using h4 ob hob i hi)
       | false=>exact .call
   | cons a b=>exact .rest
 | frz ks os v=>exact .rest
structure Neat (o:Oper) (s:St→St) (m:St→St) (v:AV):Prop where
 eq:∀ st,s st=(m st).putO o.dst v
 tm:∀ st,(m st).tm=st.tm
 put:∀ st d x,m (st.putO d x)=(m st).putO d x
theorem U0k (d:Option Nat) (x:AV):∀ (os:List LObj) (st:St),(st.putO d x).news os=(st.news os).putO d x
 | [],_=>rfl
 | o::os,st=>by
   simp only[St.news]
   rw[←U0k d x os]
   cases d<;>rfl
theorem V0g (o:Oper) (v:AV):Neat o (X6 o (some (.val v))) id v:=⟨fun _=>rfl,fun _=>rfl,fun _ _ _=>rfl⟩
theorem J20 (o:Oper):Neat o (X6 o none) id .undef:=⟨fun _=>rfl,fun _=>rfl,fun _ _ _=>rfl⟩
theorem X1l (o:Oper) (os:List LObj) (v:AV):Neat o (X6 o (some (.new os v))) (fun st=>st.news os) v:=
 ⟨fun _=>rfl,fun st=>J0m os st,fun st d x=>U0k d x os st⟩
theorem V0b (o:Oper) (k:Nat) (ob:LObj) (v:AV):Neat o (X6 o (some (.upd k ob v))) (fun st=>st.upd k ob) v:=
 ⟨fun _=>rfl,fun st=>rfl,fun st d x=>by cases d<;>rfl⟩
theorem Z05 (st:St) {d d':Option Nat} (h:∀ t,d=some t→d'≠some t) (x y:AV):(st.putO d x).putO d' y=(st.putO d' y).putO d x:=by
 cases d with
 | none=>rfl
 | some t=>
   cases d' with
   | none=>rfl
   | some t'=>
     have hne:t'≠t:=fun e=>h t rfl (by rw[e])
     simp only[St.putO,St.put]
     congr 1
     funext u
     cases h1:u==t' with
     | false=>simp
     | true=>
       have:=eq_of_beq h1
       subst this
       have h2:(u==t)=false:=by simp[hne]
       simp[h2]
theorem Z2f {n0:Nat} {o:Oper} {e:Option Eff} {c:Cls} (h:Cl n0 e c) (hc:c.1≤4∨c.1=10∨c.1=13∨c.1=15):∃ v,Neat o (X6 o e) id v:=by
 cases h with
 | skip=>exact⟨_,J20 o⟩
 | solid _ _=>exact⟨_,V0g o _⟩
 | low _ _=>exact⟨_,V0g o _⟩
 | lowIn _ _ _=>exact⟨_,V0g o _⟩
 | val _=>exact⟨_,V0g o _⟩
 | app0 h _=>simp only at hc;omega
 | _=>exact absurd hc (by simp)
theorem V2d {n0:Nat} {o:Oper} {e:Option Eff} {c:Cls} (h:Cl n0 e c) (hc:c.1=0∨c.1=10∨c.1=13):∃ v,v.solid=true∧∀ st,X6 o e st=st.putO o.dst v:=by
 cases h with
 | skip=>exact⟨.undef,rfl,fun _=>rfl⟩
 | solid _ hv=>exact⟨_,hv,fun _=>rfl⟩
 | low h _=>simp only at hc;omega
 | lowIn h _ _=>simp only at hc;omega
 | val h=>simp only at hc;omega
 | app0 h _=>simp only at hc;omega
 | _=>exact absurd hc (by simp)
theorem Q5q {n0:Nat} {o:Oper} {e:Option Eff} {c:Cls} (h:Cl n0 e c) (hc:c.1=1∨c.1=3∨c.1=15):∃ v,v.low n0=true∧∀ st,X6 o e st=st.putO o.dst v:=by
 cases h with
 | low _ hv=>exact⟨_,hv,fun _=>rfl⟩
 | lowIn _ hv _=>exact⟨_,hv,fun _=>rfl⟩
 | solid h _=>simp only at hc;omega
 | val h=>simp only at hc;omega
 | app0 h _=>simp only at hc;omega
 | _=>exact absurd hc (by simp)
theorem cl_in {n0:Nat} {o:Oper} {e:Option Eff} {c:Cls} (h:Cl n0 e c) (hc:c.1=1∨c.1=15):∃ v,v.low n0=true∧(∀ k∈v.refs,k∈c.2)∧∀ st,X6 o e st=st.putO o.dst v:=by
 cases h with
 | lowIn _ hv hr=>exact⟨_,hv,hr,fun _=>rfl⟩
 | low h _=>simp only at hc;omega
 | solid h _=>simp only at hc;omega
 | val h=>simp only at hc;omega
 | app0 h _=>simp only at hc;omega
 | _=>exact absurd hc (by simp)
theorem U0r {n0:Nat} {o:Oper} {e:Option Eff} {c:Cls} (h:Cl n0 e c) (hc:c.1≤6∨c.1=12∨c.1=14):∃ m v,Neat o (X6 o e) m v∧(c.1≤5∨c.1=12→∀ st,st.nx≤(m st).nx∧∀ k,k < st.nx→(m st).hp k=st.hp k) ∧
    (c.1=6∨c.1=14→∀ st,(m st).nx=st.nx∧∀ k,k ∉ c.2→(m st).hp k=st.hp k):=by
 have vals:∀ (v:AV),c.1≠6∧c.1≠14→∃ m v',Neat o (X6 o (some (.val v))) m v'∧(c.1≤5∨c.1=12→∀ st,st.nx≤(m st).nx∧∀ k,k < st.nx→(m st).hp k=st.hp k) ∧
     (c.1=6∨c.1=14→∀ st,(m st).nx=st.nx∧∀ k,k ∉ c.2→(m st).hp k=st.hp k):=fun v h6=>⟨_,v,V0g o v,fun _ st=>⟨Nat.le_refl _,fun _ _=>rfl⟩,fun h=>absurd h (by omega)⟩
 cases h with
 | skip=>exact⟨_,_,J20 o,fun _ st=>⟨Nat.le_refl _,fun _ _=>rfl⟩,fun h=>by simp at h⟩
 | solid h _=>exact vals _ (by simp only;omega)
 | low h _=>exact vals _ (by simp only;omega)
 | lowIn h _ _=>exact vals _ (by simp only;omega)
 | val h=>exact vals _ (by simp only;omega)
 | new=>exact⟨_,_,X1l o _ _,fun _ st=>⟨by rw[Um];omega,fun k hk=>Vs _ st k hk⟩,fun h=>by simp at h⟩
 | alloc _ _=>exact⟨_,_,X1l o _ _,fun _ st=>⟨by rw[Um];omega,fun k hk=>Vs _ st k hk⟩,fun h=>by simp at h⟩
 | @upd k ob v=>
   refine⟨_,v,V0b o k ob v,fun hc=>by simp at hc,fun _ st=>⟨rfl,fun j hj=>?_⟩⟩
   have:(j==k)=false:=by simpa using hj
   simp[St.upd,this]
 | @fil k ob v _ _ _=>
   refine⟨_,v,V0b o k ob v,fun hc=>by simp at hc,fun _ st=>⟨rfl,fun j hj=>?_⟩⟩
   have:(j==k)=false:=by simpa using hj
   simp[St.upd,this]
 | app0 h _=>simp only at hc;omega
 | _=>exact absurd hc (by simp)
theorem J0o {o:Oper} (s:St) (v:AV) (t:Nat) (ht:∀ d,o.dst=some d→t≠d):(s.putO o.dst v).tm t=s.tm t:=by
 cases hdst:o.dst with
 | none=>rfl
 | some d=>
   have:(t==d)=false:=by simp[ht d hdst]
   simp[St.putO,St.put,this]
theorem Qk (s:St) (d:Option Nat) (v:AV):(s.putO d v).hp=s.hp:=by cases d<;>rfl
theorem Zm (s:St) (d:Option Nat) (v:AV):(s.putO d v).nx=s.nx:=by cases d<;>rfl
theorem V0k {o:Oper} (k:Nat) (ob:LObj) (v:AV):(∀ st t,(∀ d,o.dst=some d→t≠d)→(X6 o (some (.app k ob v)) st).tm t=(st.tm t).kill [k]) ∧
    (∀ st d x,x.kill [k]=x→(∀ t,d=some t→o.dst≠some t)→X6 o (some (.app k ob v)) (st.putO d x)=(X6 o (some (.app k ob v)) st).putO d x) ∧
    (∀ st j,j≠k→(X6 o (some (.app k ob v)) st).hp j=(st.hp j).kill [k])∧∀ st,(X6 o (some (.app k ob v)) st).nx=st.nx:=by
 refine⟨fun st t ht=>?_,fun st d x hx hd=>?_,fun st j hj=>?_,fun st=>?_⟩
 ·simp only[X6,St.apply]
  rw[J0o _ _ t ht]
  rfl
 ·simp only[X6,St.apply]
  rw[←Z05 _ hd]
  congr 1
  cases d with
  | none=>rfl
  | some t=>
    simp only[St.putO,St.put,St.kill,St.upd]
    congr 1
    funext u
    cases u==t with
    | true=>simp[hx]
    | false=>rfl
 ·simp only[X6,St.apply,Qk]
  have:(j==k)=false:=by simp[hj]
  simp[St.upd,St.kill,this]
 ·simp only[X6,St.apply,Zm]
  rfl
theorem J2e {n0:Nat} {o:Oper} {e:Option Eff} {c:Cls} (h:Cl n0 e c) (hc:c.1=7∨c.1=16):∃ k ob v,e=some (.app k ob v)∧n0≤k:=by
 cases h with
 | app0 _ hk=>exact⟨_,_,_,rfl,hk⟩
 | solid h _=>simp only at hc;omega
 | low h _=>simp only at hc;omega
 | lowIn h _ _=>simp only at hc;omega
 | val h=>simp only at hc;omega
 | _=>exact absurd hc (by simp)
theorem V2j {n0:Nat} {e:Option Eff} {c:Cls} (h:Cl n0 e c) (hc:c.1=14):∃ k ob v,e=some (.upd k ob v)∧c.2=[k]∧k < n0∧ob.solid=true∧v.solid=true:=by
 cases h with
 | fil hk ho hv=>exact⟨_,_,_,rfl,rfl,hk,ho,hv⟩
 | solid h _=>simp only at hc;omega
 | low h _=>simp only at hc;omega
 | lowIn h _ _=>simp only at hc;omega
 | val h=>simp only at hc;omega
 | app0 h _=>simp only at hc;omega
 | _=>exact absurd hc (by simp)
theorem J1e {n0:Nat} {o:Oper} {e:Option Eff} {c:Cls} (h:Cl n0 e c) (hc:c.1=8∨c.1=11):(∀ st t,(∀ d,o.dst=some d→t≠d)→∃ ks,(X6 o e st).tm t=(st.tm t).kill ks) ∧
    (∀ st d x,x.solid=true→(∀ t,d=some t→o.dst≠some t)→X6 o e (st.putO d x)=(X6 o e st).putO d x) ∧
    (∀ st,st.nx≤(X6 o e st).nx∧∀ j,j < st.nx→j ∉ c.2→∃ ks,(X6 o e st).hp j=(st.hp j).kill ks)∧(c.1=11→∀ st,(X6 o e st).nx=st.nx):=by
 have knil:∀ (ob:LObj),ob.kill []=ob:=fun ob=>by
  cases ob with
  | boxT g cs=>simp only[LObj.kill,X01]
  | row t xs=>rfl
  | mpo kt vt es=>rfl
  | gone=>rfl
 have calls:∀ (ks:List Nat) (objs:List LObj) (vs:List AV),(∀ st t,(∀ d,o.dst=some d→t≠d)→∃ ks',(X6 o (some (.call [] ks objs vs)) st).tm t=(st.tm t).kill ks') ∧
     (∀ st d x,x.solid=true→(∀ t,d=some t→o.dst≠some t)→X6 o (some (.call [] ks objs vs)) (st.putO d x)=(X6 o (some (.call [] ks objs vs)) st).putO d x) ∧
     (∀ st,st.nx≤(X6 o (some (.call [] ks objs vs)) st).nx∧∀ j,j < st.nx→j ∉ ks→∃ ks',(X6 o (some (.call [] ks objs vs)) st).hp j=(st.hp j).kill ks'):=fun ks objs vs=>by
  refine⟨fun st t ht=>?_,fun st d x hx hd=>?_,fun st=>⟨?_,fun j hjn hj=>?_⟩⟩
  ·simp only[X6,St.apply]
   cases ks with
   | nil=>
     refine⟨[],?_⟩
     rw[J0o _ _ t ht,J0m]
     exact(Q1h _).symm
   | cons k ks=>
     refine⟨V4 st.hp (k::ks),?_⟩
     rw[J0o _ _ t ht,J0m]
  ·simp only[X6,St.apply]
   cases ks with
   | nil=>
     rw[Zm,U0k]
     exact Z05 _ (fun t ht=>hd t ht) _ _
   | cons k ks=>
     rw[Zm,Qk,←Z05 _ hd]
     congr 1
     rw[←U0k]
     congr 1
     cases d with
     | none=>rfl
     | some t=>
       simp only[St.putO,St.put]
       congr 1
       funext u
       cases u==t with
       | true=>simp[Uf _ x hx]
       | false=>rfl
  ·simp only[X6,St.apply,Zm,Um]
   cases ks<;>exact Nat.le_add_right _ _
  ·simp only[X6,St.apply,Qk]
   cases ks with
   | nil=>
     refine⟨[],?_⟩
     rw[Vs _ _ _ hjn,knil]
   | cons k ks=>
     refine⟨V4 st.hp (k::ks),?_⟩
     rw[Vs _ _ _ (by exact hjn)]
     have:U8 j (k::ks) 0=none:=by
      cases hp:U8 j (k::ks) 0 with
      | none=>rfl
      | some i=>
        obtain⟨_,h2⟩:=Qa hp
        exact absurd (List.mem_of_getElem? h2) hj
     simp only[this]
 cases h with
 | @app k ob v=>
   obtain⟨h1,h2,h3,h4⟩:=V0k (o:=o) k ob v
   refine⟨fun st t ht=>⟨[k],h1 st t ht⟩,fun st d x hx hd=>h2 st d x (Uf _ x hx) hd,fun st=>⟨by rw[h4];exact Nat.le_refl _,fun j _ hj=>⟨[k],h3 st j ?_⟩⟩,fun h=>by simp at h⟩
   simpa using hj
 | @call ks objs vs=>
   obtain⟨h1,h2,h3⟩:=calls ks objs vs
   exact⟨h1,h2,h3,fun h=>by simp at h⟩
 | @plain ks objs vs hne hl hk hv ho=>
   obtain⟨h1,h2,h3⟩:=calls ks objs vs
   refine⟨h1,h2,h3,fun _ st=>?_⟩
   simp only[X6,St.apply,Zm,Um]
   rw[List.drop_of_length_le (by omega)]
   cases ks<;>rfl
 | solid h _=>simp only at hc;omega
 | low h _=>simp only at hc;omega
 | lowIn h _ _=>simp only at hc;omega
 | val h=>simp only at hc;omega
 | app0 h _=>simp only at hc;omega
 | _=>exact absurd hc (by simp)
mutual
theorem U4f {f g:Nat→Option Nat}:∀ (x:AV),(∀ k∈x.refs,f k=g k)→x.ren f=x.ren g
 | .agg cs,h=>by simp only[AV.refs] at h;simp only[AV.ren,J02 cs h]
 | .tup cs,h=>by simp only[AV.refs] at h;simp only[AV.ren,J02 cs h]
 | .fn _ cs,h=>by simp only[AV.refs] at h;simp only[AV.ren,J02 cs h]
 | .ptr k _,h=>by simp only[AV.ren,h k (by simp[AV.refs])]
 | .rptr k _ _ _,h=>by simp only[AV.ren,h k (by simp[AV.refs])]
 | .rowA k,h=>by simp only[AV.ren,h k (by simp[AV.refs])]
 | .rowS k _ _ _,h=>by simp only[AV.ren,h k (by simp[AV.refs])]
 | .mp k,h=>by simp only[AV.ren,h k (by simp[AV.refs])]
 | .psl k n'',h=>by simp only[AV.ren,h k (by simp[AV.refs])]
 | .int _ _,_=>by simp only[AV.ren]
 | .bool _,_=>by simp only[AV.ren]
 | .str _,_=>by simp only[AV.ren]
 | .list _ _,_=>by simp only[AV.ren]
 | .np,_=>by simp only[AV.ren]
 | .nm,_=>by simp only[AV.ren]
 | .nf,_=>by simp only[AV.ren]
 | .ns,_=>by simp only[AV.ren]
 | .lptr _ _ _ _,_=>by simp only[AV.ren]
 | .undef,_=>by simp only[AV.ren]
 | .dead,_=>by simp only[AV.ren]
theorem J02 {f g:Nat→Option Nat}:∀ (cs:List AV),(∀ k∈AV.refsL cs,f k=g k)→AV.renL f cs=AV.renL g cs
 | [],_=>by simp only[AV.renL]
 | c::cs,h=>by
   simp only[AV.refsL,List.mem_append] at h
   simp only[AV.renL,U4f c (fun k hk=>h k (.inl hk)),J02 cs (fun k hk=>h k (.inr hk))]
end
theorem X3o {f g:Nat→Option Nat} {o:LObj} (h:∀ k∈o.refs,f k=g k):o.ren f=o.ren g:=by
 cases o with
 | boxT g cs=>simp only[LObj.refs] at h;simp only[LObj.ren,J02 cs h]
 | row t xs=>rfl
 | mpo kt vt es=>rfl
 | gone=>rfl
theorem J1d {ks:List Nat} {nx nx' i:Nat} (h:i < ks.length):U9 ks nx i=U9 ks nx' i:=by
 unfold U9
 have:Nat.blt i ks.length=true:=by simpa using h
 rw[this]
 rfl
theorem J4g {os:List LObj} {i:Nat}:ofHp os i=.gone∨ofHp os i∈os:=by
 rw[V0a]
 cases h:os[i]? with
 | none=>exact .inl rfl
 | some o=>exact .inr (List.mem_of_getElem? h)
theorem U0a {hp:Nat→LObj}:∀ {ks:List Nat} {k:Nat},k∈V4 hp ks→k∈ks
 | [],_,h=>by simp[V4] at h
 | x::xs,k,h=>by
   simp only[V4] at h
   split at h
   ·rcases List.mem_cons.1 h with rfl | h
    ·simp
    ·exact List.mem_cons_of_mem _ (U0a h)
   ·exact List.mem_cons_of_mem _ (U0a h)
theorem U26 {o o':Oper} {s s' m:St→St} {v v':AV} (h:Neat o s id v) (h':Neat o' s' m v') (hd:∀ t,o.dst=some t→o'.dst≠some t) (st:St):s' (s st)=s (s' st):=by
 rw[h.eq st,h'.eq,h.eq,h'.eq st]
 simp only[id]
 rw[h'.put]
 exact Z05 _ hd _ _
theorem Zz {xs ys:List Nat} (h:U19 xs ys=true):∀ k,k∈xs→k ∉ ys:=fun k hx hy=>by
 have:=List.all_eq_true.1 (List.all_eq_true.1 h k hx) k hy
 simp at this
theorem Q1l {x y:Cls} (h:Z1v x y=true):((x.1≤4∨x.1=10∨x.1=13∨x.1=15)∧(y.1≤4∨y.1=10∨y.1=13∨y.1=15))∨((x.1≤3∨x.1=10∨x.1=15)∧(y.1=5∨y.1=12))∨((x.1≤2∨((x.1=3∨x.1=10∨x.1=15)∧∀ k,k∈x.2→k ∉ y.2))∧y.1=6)∨((x.1≤1∨x.1=3∨x.1=10∨x.1=15)∧(y.1=7∨y.1=16)) ∨
    ((x.1=0∨(x.1=10∧∀ k,k∈x.2→k ∉ y.2))∧(y.1=8∨y.1=11))∨(x.1=11∧y.1=12)∨(x.1=13∧y.1=11)∨(((x.1=1∨x.1=15)∧∀ k,k∈x.2→k ∉ y.2)∧y.1=11) ∨
    ((x.1≤2∨x.1=13∨((x.1=3∨x.1=10∨x.1=15)∧∀ k,k∈x.2→k ∉ y.2))∧y.1=14)∨(x.1=14∧y.1=12)∨(x.1=14∧(y.1=14∨y.1=16)∧∀ k,k∈x.2→k ∉ y.2):=by
 unfold Z1v valC oldC at h
 simp only[Bool.or_eq_true,Bool.and_eq_true,Nat.ble_eq] at h
 have e:∀ {a b:Nat},Nat.beq a b=true→a=b:=fun h=>Nat.eq_of_beq_eq_true h
 rcases h with ((((((((h | h) | h) | h) | h) | h) | h) | h) | h) | h
 ·exact .inl ⟨h.1.imp id fun h=>h.imp e fun h=>h.imp e e,h.2.imp id fun h=>h.imp e fun h=>h.imp e e⟩
 ·refine .inr (.inl ⟨?_,h.2.imp e e⟩)
  rcases h.1 with h | h
  ·omega
  ·rcases h with h | h | h<;>(have:=e h;omega)
 ·exact .inr (.inr (.inl ⟨h.1.imp id (fun h=>⟨h.1.imp e fun h=>h.imp e e,Zz h.2⟩),e h.2⟩))
 ·exact .inr (.inr (.inr (.inl ⟨h.1.imp id (fun h=>h.imp e fun h=>h.imp e e),h.2.imp e e⟩)))
 ·exact .inr (.inr (.inr (.inr (.inl ⟨h.1.imp e (fun h=>⟨e h.1,Zz h.2⟩),h.2.imp e e⟩))))
 ·exact .inr (.inr (.inr (.inr (.inr (.inl ⟨e h.1,e h.2⟩)))))
 ·exact .inr (.inr (.inr (.inr (.inr (.inr (.inl ⟨e h.1,e h.2⟩))))))
 ·exact .inr (.inr (.inr (.inr (.inr (.inr (.inr (.inl ⟨⟨h.1.1.imp e e,Zz h.1.2⟩,e h.2⟩)))))))
 ·refine .inr (.inr (.inr (.inr (.inr (.inr (.inr (.inr (.inl ⟨?_,e h.2⟩))))))))
  rcases h.1 with (h | h) | h
  ·exact .inl h
  ·exact .inr (.inl (e h))
  ·exact .inr (.inr ⟨h.1.imp e fun h=>h.imp e e,Zz h.2⟩)
 ·rcases h.2 with h2 | h2
  ·exact .inr (.inr (.inr (.inr (.inr (.inr (.inr (.inr (.inr (.inl ⟨e h.1,e h2⟩)))))))))
  ·exact .inr (.inr (.inr (.inr (.inr (.inr (.inr (.inr (.inr (.inr ⟨e h.1,h2.1.imp e e,Zz h2.2⟩)))))))))
theorem Z3o (x y:Cls):meet x y=meet y x:=Bool.or_comm _ _
theorem U21 {x y:Cls} (h:meet x y=true):Z1v x y=true∨Z1v y x=true:=by
 unfold meet at h
 rwa [Bool.or_eq_true] at h
mutual
theorem U1q {ks:List Nat}:∀ (x:AV),(∀ k∈x.refs,ks.contains k=false)→x.kill ks=x
 | .agg cs,h=>by simp only[AV.refs] at h;simp only[AV.kill,U0n cs h]
 | .tup cs,h=>by simp only[AV.refs] at h;simp only[AV.kill,U0n cs h]
 | .fn g cs,h=>by simp only[AV.refs] at h;simp only[AV.kill,U0n cs h]
 | .rptr k _ _ _,h=>by simp only[AV.kill,h k (by simp[AV.refs]),cond_false]
 | .rowA k,h=>by simp only[AV.kill,h k (by simp[AV.refs]),cond_false]
 | .rowS k _ _ _,h=>by simp only[AV.kill,h k (by simp[AV.refs]),cond_false]
 | .ptr _ _,_=>by simp only[AV.kill]
 | .mp _,_=>by simp only[AV.kill]
 | .psl _ _,_=>by simp only[AV.kill]
 | .int _ _,_=>by simp only[AV.kill]
 | .bool _,_=>by simp only[AV.kill]
 | .str _,_=>by simp only[AV.kill]
 | .list _ _,_=>by simp only[AV.kill]
 | .np,_=>by simp only[AV.kill]
 | .nm,_=>by simp only[AV.kill]
 | .nf,_=>by simp only[AV.kill]
 | .ns,_=>by simp only[AV.kill]
 | .lptr _ _ _ _,_=>by simp only[AV.kill]
 | .undef,_=>by simp only[AV.kill]
 | .dead,_=>by simp only[AV.kill]
theorem U0n {ks:List Nat}:∀ (cs:List AV),(∀ k∈AV.refsL cs,ks.contains k=false)→AV.killL ks cs=cs
 | [],_=>by simp only[AV.killL]
 | c::cs,h=>by
   simp only[AV.refsL,List.mem_append] at h
   simp only[AV.killL,U1q c (fun k hk=>h k (.inl hk)),U0n cs (fun k hk=>h k (.inr hk))]
end
theorem V1e {n0 k:Nat} (hk:n0≤k):∀ j,j < n0→[k].contains j=false:=fun j hj=>by
 simp only[List.contains_cons,List.contains_nil,Bool.or_false,beq_eq_false_iff_ne]
 omega
def Q0f (R ks:List Nat) (g:Nat→LObj) (s:St):St:={ s with tm:=fun t=>(s.tm t).kill R,hp:=fun k=>match U8 k ks 0 with | some i=>g i | none=>(s.hp k).kill R }
theorem Q3x {R ks:List Nat} {g:Nat→LObj} {s:St} {ob:LObj} (hpos:U8 s.nx ks 0=none) (hob:ob.kill R=ob):(Q0f R ks g s).new ob=Q0f R ks g (s.new ob):=by
 unfold Q0f St.new
 simp only
 congr 1
 funext k
 cases hk:k==s.nx with
 | true=>
   have:=eq_of_beq hk
   subst this
   simp only[cond_true,hpos,hob]
 | false=>simp only[cond_false]
theorem Q24 {R ks:List Nat} {g:Nat→LObj}:∀ (os:List LObj) (s:St),(∀ j,s.nx≤j→U8 j ks 0=none)→(∀ ob∈os,ob.kill R=ob)→(Q0f R ks g s).news os=Q0f R ks g (s.news os)
 | [],_,_,_=>rfl
 | ob::os,s,hpos,hob=>by
   simp only[St.news]
   rw[Q3x (hpos _ (Nat.le_refl _)) (hob ob (by simp))]
   exact Q24 os (s.new ob) (fun j hj=>hpos j (by simp[St.new] at hj;omega)) (fun x hx=>hob x (by simp[hx]))
theorem V2n {R ks:List Nat} {g:Nat→LObj} {s:St} {d:Option Nat} {x:AV} (hx:x.kill R=x):Q0f R ks g (s.putO d x)=(Q0f R ks g s).putO d x:=by
 cases d with
 | none=>rfl
 | some t=>
   unfold Q0f
   simp only[St.putO,St.put]
   congr 1
   funext u
   cases u==t with
   | true=>simp[hx]
   | false=>rfl
theorem U0d {o:Oper} {ks:List Nat} {objs:List LObj} {vs:List AV} (hl:objs.length=ks.length) (hne:ks≠[]) (s:St):X6 o (some (.call [] ks objs vs)) s=(Q0f (V4 s.hp ks) ks (fun i=>(ofHp objs i).ren (U9 ks s.nx)) s).putO o.dst (Ua (AV.renL (U9 ks s.nx) vs)):=by
 obtain⟨k0,ks0,rfl⟩:=List.exists_cons_of_ne_nil hne
 have hdrop:objs.drop (k0::ks0).length=[]:=List.drop_of_length_le (by omega)
 simp only[X6,St.apply,hdrop,List.map_nil,St.news]
 rfl
theorem J2r {n0:Nat} {o o':Oper} {ks:List Nat} {objs:List LObj} {vs:List AV} {os:List LObj} {v:AV} (hl:objs.length=ks.length) (hk:∀ k∈ks,k < n0) (hv:∀ i∈AV.refsL vs,i < ks.length) (ho:∀ ob∈objs,∀ i∈ob.refs,i < ks.length) (hne:ks≠[])
    (hv':v.high n0=true) (ho':os.all (LObj.high n0)=true) (hd:∀ t,o.dst=some t→o'.dst≠some t) (st:St) (hn:n0≤st.nx) :
    X6 o' (some (.new os v)) (X6 o (some (.call [] ks objs vs)) st)=X6 o (some (.call [] ks objs vs)) (X6 o' (some (.new os v)) st):=by
 obtain⟨k0,ks0,rfl⟩:=List.exists_cons_of_ne_nil hne
 have hdrop:objs.drop (k0::ks0).length=[]:=List.drop_of_length_le (by omega)
 have hoff:∀ (R:List Nat),(∀ k∈R,k∈k0::ks0)→∀ k,n0≤k→R.contains k=false:=fun R hR k hkn=>by
  cases hc:R.contains k with
  | false=>rfl
  | true=>
    have:=hk k (hR k (by simpa using hc))
    omega
 have hrows:V4 ((st.news os).putO o'.dst v).hp (k0::ks0)=V4 st.hp (k0::ks0):=V0n _ fun k hkk=>by rw[Qk];exact Vs os st k (by have:=hk k hkk;omega)
 have hpos:∀ j,st.nx≤j→U8 j (k0::ks0) 0=none:=fun j hj=>by
  cases hp:U8 j (k0::ks0) 0 with
  | none=>rfl
  | some i=>
    obtain⟨_,h2⟩:=Qa hp
    have:=hk j (List.mem_of_getElem? h2)
    omega
 have hvs:∀ nx nx',AV.renL (U9 (k0::ks0) nx) vs=AV.renL (U9 (k0::ks0) nx') vs:=fun nx nx'=>J02 vs fun i hi=>J1d (hv i hi)
 have hob:∀ nx nx',(fun i=>(ofHp objs i).ren (U9 (k0::ks0) nx))=(fun i=>(ofHp objs i).ren (U9 (k0::ks0) nx')):=fun nx nx'=>by
  funext i
  rcases J4g (os:=objs) (i:=i) with h | h
  ·rw[h];rfl
  ·exact X3o fun j hj=>J1d (ho _ h j hj)
 have hstep:∀ s:St,X6 o (some (.call [] (k0::ks0) objs vs)) s=(Q0f (V4 s.hp (k0::ks0)) (k0::ks0) (fun i=>(ofHp objs i).ren (U9 (k0::ks0) s.nx)) s).putO o.dst (Ua (AV.renL (U9 (k0::ks0) s.nx) vs)):=fun s=>by
  simp only[X6,St.apply,hdrop,List.map_nil,St.news]
  rfl
 have hR:=hoff (V4 st.hp (k0::ks0)) fun k h=>U0a h
 have hnew:∀ s:St,X6 o' (some (.new os v)) s=(s.news os).putO o'.dst v:=fun _=>rfl
 rw[hstep,hstep,hnew,hnew,hrows,hvs ((st.news os).putO o'.dst v).nx st.nx,hob ((st.news os).putO o'.dst v).nx st.nx,U0k,Q24 os st hpos (fun ob h=>U0p hR (List.all_eq_true.1 ho' ob h)),V2n (V16 hR v hv')]
 exact Z05 _ hd _ _
theorem J1n {o o':Oper} {s s' m m':St→St} {v v':AV} (h:Neat o s m v) (h':Neat o' s' m' v') (hd:∀ t,o.dst=some t→o'.dst≠some t) (st:St) (hm:m' (m st)=m (m' st)):s' (s st)=s (s' st):=by
 rw[h.eq st,h'.eq,h.eq,h'.eq st,h'.put,h.put,hm]
 exact Z05 _ hd _ _
theorem V2r {k:Nat} {ob:LObj}:∀ (os:List LObj) (st:St),k < st.nx→(st.upd k ob).news os=(st.news os).upd k ob
 | [],_,_=>rfl
 | o::os,st,hk=>by
   simp only[St.news]
   have:(st.upd k ob).new o=(st.new o).upd k ob:=by
    simp only[St.new,St.upd]
    congr 1
    funext j
    cases h1:j==st.nx with
    | true=>
      have:=eq_of_beq h1
      subst this
      have h2:(st.nx==k)=false:=by simp;omega
      simp[h2]
    | false=>simp
   rw[this]
   exact V2r os (st.new o) (by show k < st.nx+1;omega)
theorem X58 {k k':Nat} {ob ob':LObj} (h:k≠k') (st:St):(st.upd k ob).upd k' ob'=(st.upd k' ob').upd k ob:=by
 simp only[St.upd]
 congr 1
 funext j
 cases h1:j==k with
 | true=>
   have:=eq_of_beq h1
   subst this
   have h2:(j==k')=false:=by simpa using h
   simp[h2]
 | false=>cases j==k'<;>simp
theorem X52 {k k':Nat} {ob ob':LObj} (h:k≠k') (ho:ob.kill [k']=ob) (st:St):((st.upd k ob).kill [k']).upd k' ob'=((st.kill [k']).upd k' ob').upd k ob:=by
 simp only[St.upd,St.kill]
 congr 1
 funext j
 cases h1:j==k with
 | true=>
   have:=eq_of_beq h1
   subst this
   have h2:(j==k')=false:=by simpa using h
   simp[h2,ho]
 | false=>cases j==k'<;>simp
theorem Z1l {n0:Nat} {o o':Oper} {e e':Option Eff} {c c':Cls} (h:Cl n0 e c) (h':Cl n0 e' c') (hm:Z1v c c'=true) (hd:∀ t,o.dst=some t→o'.dst≠some t) (st:St) (hn:n0≤st.nx) :
    X6 o' e' (X6 o e st)=X6 o e (X6 o' e' st):=by
 have lo:(c.1≤4∨c.1=10∨c.1=13∨c.1=15)→c'.1≤6∨c'.1=12∨c'.1=14→X6 o' e' (X6 o e st)=X6 o e (X6 o' e' st):=fun h1 h2=>by
  obtain⟨v,n⟩:=Z2f (o:=o) h h1
  obtain⟨m,v',n',_⟩:=U0r (o:=o') h' h2
  exact U26 n n' hd st
 rcases Q1l hm with ⟨h1,h2⟩ | ⟨h1,h2⟩ | ⟨h1,h2⟩ | ⟨h1,h2⟩ | ⟨h1,h2⟩ | ⟨h1,h2⟩ | ⟨h1,h2⟩ | ⟨h1,h2⟩ | ⟨h1,h2⟩ | ⟨h1,h2⟩ | ⟨h1,h2,h3⟩
 ·obtain⟨v,n⟩:=Z2f (o:=o) h h1
  obtain⟨v',n'⟩:=Z2f (o:=o') h' h2
  exact U26 n n' hd st
 ·exact lo (by omega) (by omega)
 ·exact lo (by rcases h1 with h1 | h1<;>omega) (by omega)
 ·obtain⟨k,ob,v',rfl,hk⟩:=J2e (o:=o') h' h2
  have key:∃ v,v.kill [k]=v∧∀ st,X6 o e st=st.putO o.dst v:=by
   by_cases h0:c.1=0∨c.1=10∨c.1=13
   ·obtain⟨v,hv,he⟩:=V2d (o:=o) h h0
    exact⟨v,Uf _ v hv,he⟩
   ·obtain⟨v,hv,he⟩:=Q5q (o:=o) h (by omega)
    exact⟨v,J10 (V1e hk) v hv,he⟩
  obtain⟨v,hv,he⟩:=key
  rw[he st,he,(V0k (o:=o') k ob v').2.1 st o.dst v hv hd]
 ·obtain⟨v,hv,he⟩:=V2d (o:=o) h (h1.imp id fun h=>.inl h.1)
  rw[he st,he,(J1e (o:=o') h' h2).2.1 st o.dst v hv hd]
 ·cases h with
  | @plain ks objs vs hne hl hk hv ho=>
    cases h' with
    | @alloc os v l hv' ho'=>exact J2r hl hk hv ho hne hv' ho' hd st hn
    | solid h _=>simp only at h2;omega
    | low h _=>simp only at h2;omega
    | lowIn h _ _=>simp only at h2;omega
    | app0 h _=>simp only at h2;omega
    | val h=>simp only at h2;omega
    | _=>exact absurd h2 (by simp)
  | solid h _=>simp only at h1;omega
  | low h _=>simp only at h1;omega
  | lowIn h _ _=>simp only at h1;omega
  | app0 h _=>simp only at h1;omega
  | val h=>simp only at h1;omega
  | _=>exact absurd h1 (by simp)
 ·obtain⟨v,hv,he⟩:=V2d (o:=o) h (by omega)
  rw[he st,he,(J1e (o:=o') h' (.inr h2)).2.1 st o.dst v hv hd]
 ·obtain⟨v,_,hr,he⟩:=cl_in (o:=o) h h1.1
  cases h' with
  | @plain ks objs vs hne hl hk hv' ho'=>
    have hx:v.kill (V4 st.hp ks)=v:=U1q v fun k hkv=>by
     cases hc:(V4 st.hp ks).contains k with
     | false=>rfl
     | true=>exact absurd (U0a (by simpa using hc)) (h1.2 k (hr k hkv))
    rw[he st,he,U0d hl hne,U0d hl hne,Qk,Zm,V2n hx]
    exact Z05 _ hd _ _
  | solid h _=>simp only at h2;omega
  | low h _=>simp only at h2;omega
  | lowIn h _ _=>simp only at h2;omega
  | app0 h _=>simp only at h2;omega
  | val h=>simp only at h2;omega
  | _=>exact absurd h2 (by simp)
 ·exact lo (by rcases h1 with h1 | h1 | h1<;>omega) (by omega)
 ·obtain⟨k,ob,v,rfl,_,hk,ho,hv⟩:=V2j h h1
  cases h' with
  | @alloc os v' l hv' ho'=>exact J1n (V0b o k ob v) (X1l o' os v') hd st (V2r os st (by omega))
  | solid h _=>simp only at h2;omega
  | low h _=>simp only at h2;omega
  | lowIn h _ _=>simp only at h2;omega
  | app0 h _=>simp only at h2;omega
  | val h=>simp only at h2;omega
  | _=>exact absurd h2 (by simp)
 ·obtain⟨k,ob,v,rfl,hl,hk,ho,hv⟩:=V2j h h1
  rcases h2 with h2 | h2
  ·obtain⟨k',ob',v',rfl,hl',hk',ho',hv'⟩:=V2j h' h2
   exact J1n (V0b o k ob v) (V0b o' k' ob' v') hd st (X58 (fun e=>h3 k (by rw[hl];simp) (by rw[hl',e];simp)) st)
  ·obtain⟨k',ob',v',rfl,hk'⟩:=J2e (o:=o') h' (.inr h2)
   have hstep:∀ s:St,X6 o (some (.upd k ob v)) s=(s.upd k ob).putO o.dst v:=fun _=>rfl
   have hstep':∀ s:St,X6 o' (some (.app k' ob' v')) s=((s.kill [k']).upd k' ob').putO o'.dst v':=fun _=>rfl
   rw[hstep st,(V0k (o:=o') k' ob' v').2.1 (st.upd k ob) o.dst v (Uf _ v hv) hd,hstep,hstep',hstep',X52 (by omega) (Qt ho)]
   congr 1
   exact((V0b o k ob v).put _ _ _).symm
theorem J3m {n0:Nat} {o o':Oper} {e e':Option Eff} {c c':Cls} (h:Cl n0 e c) (h':Cl n0 e' c') (hm:meet c c'=true) (hd:∀ t,o.dst=some t→o'.dst≠some t) (st:St) (hn:n0≤st.nx) :
    X6 o' e' (X6 o e st)=X6 o e (X6 o' e' st):=by
 rcases U21 hm with hm | hm
 ·exact Z1l h h' hm hd st hn
 ·exact(Z1l h' h hm (fun t ht he=>hd t he ht) st hn).symm
def Z0s:LObj→Bool | .gone=>true | _=>false
theorem Z24 {ks:List Nat} {o:LObj}:(Z0s o=true→o.kill ks=o)∧(Z0s (o.kill ks)=true→o.kill ks=o):=by
 cases o<;>simp[Z0s,LObj.kill]
def inB (n0:Nat) (l:List Nat) (x:AV):Bool:=x.low n0&&x.refs.all fun k=>l.contains k
structure Obs (n0:Nat) (o:Oper) (ops:Array Oper) (c:Cls) (st st':St):Prop where
 zero:∀ t∈o.looksAt ops,(st.tm t).solid=true∨(st'.tm t).solid=true→st'.tm t=st.tm t
 old:c.1=3→∀ t∈o.looksAt ops,(st.tm t).low n0=true∨(st'.tm t).low n0=true→st'.tm t=st.tm t
 inn:c.1=1∨c.1=15→∀ t∈o.looksAt ops,inB n0 c.2 (st.tm t)=true∨inB n0 c.2 (st'.tm t)=true→st'.tm t=st.tm t
 one:c.1=2∨(4≤c.1∧c.1≠10∧c.1≠12∧c.1≠13∧c.1≠15∧c.1≠14∧c.1≠16)→∀ t∈o.looksAt ops,st'.tm t=st.tm t
 two:c.1=3→n0≤st.nx→n0≤st'.nx∧∀ k,k < n0→k∈c.2→(st.hp k).low n0=true∨(st'.hp k).low n0=true→st'.hp k=st.hp k
 ten:c.1=10∨c.1=15→n0≤st.nx→n0≤st'.nx∧∀ k,k < n0→k∈c.2→(st.hp k).solid=true∨(st'.hp k).solid=true→st'.hp k=st.hp k
 eleven:c.1=11→n0≤st.nx→n0≤st'.nx∧∀ k,k < n0→st'.hp k=st.hp k
 twelve:c.1=12→st'.nx=st.nx
 sev:c.1=16→(∀ t∈o.looksAt ops,st'.tm t=st.tm t)∧∀ k∈c.2,st'.hp k=st.hp k
 fil:c.1=14→n0≤st.nx→n0≤st'.nx∧∀ k,k < n0→k∈c.2→Z0s (st.hp k)=true∨Z0s (st'.hp k)=true→st'.hp k=st.hp k
 three:4≤c.1∧c.1≠10∧c.1≠11∧c.1≠12∧c.1≠13∧c.1≠15∧c.1≠14∧c.1≠16→st'.hp=st.hp∧st'.nx=st.nx
 high:c.1=13→(∀ t∈o.looksAt ops,(st.tm t).high n0=true∨(st'.tm t).high n0=true→st'.tm t=st.tm t)∧∀ k,n0≤k→(st.hp k).high n0=true∨(st'.hp k).high n0=true→st'.hp k=st.hp k
theorem X2l {n0:Nat} {o:Oper} {ops:Array Oper} {c:Cls} (st:St):Obs n0 o ops c st st:=⟨fun _ _ _=>rfl,fun _ _ _ _=>rfl,fun _ _ _ _=>rfl,fun _ _ _=>rfl,fun _ h=>⟨h,fun _ _ _ _=>rfl⟩,fun _ h=>⟨h,fun _ _ _ _=>rfl⟩,fun _ h=>⟨h,fun _ _=>rfl⟩,fun _=>rfl,fun _=>⟨fun _ _=>rfl,fun _ _=>rfl⟩,fun _ h=>⟨h,fun _ _ _ _=>rfl⟩,fun _=>⟨rfl,rfl⟩,fun _=>⟨fun _ _ _=>rfl,fun _ _ _=>rfl⟩⟩
theorem J07 {α:Type} {p:α→Bool} {x y z:α} (h1:p x=true∨p y=true→y=x) (h2:p y=true∨p z=true→z=y) (hs:p x=true∨p z=true):z=x:=by
 rcases hs with hs | hs
 ·have e1:=h1 (.inl hs)
  rw[h2 (.inl (e1▸hs)),e1]
 ·have e2:=h2 (.inr hs)
  rw[e2,h1 (.inr (e2▸hs))]
theorem Z23 {n0:Nat} {o:Oper} {ops:Array Oper} {c:Cls} (st st' st'':St) (h1:Obs n0 o ops c st st') (h2:Obs n0 o ops c st' st''):Obs n0 o ops c st st'':=by
 refine⟨fun t ht hs=>J07 (p:=AV.solid) (h1.zero t ht) (h2.zero t ht) hs,fun hc t ht hs=>J07 (p:=AV.low n0) (h1.old hc t ht) (h2.old hc t ht) hs,fun hc t ht hs=>J07 (p:=inB n0 c.2) (h1.inn hc t ht) (h2.inn hc t ht) hs,fun hc t ht=>(h2.one hc t ht).trans (h1.one hc t ht),fun hc hn=>?_,fun hc hn=>?_,fun hc hn=>?_,fun hc=>(h2.twelve hc).trans (h1.twelve hc),fun hc=>⟨fun t ht=>((h2.sev hc).1 t ht).trans ((h1.sev hc).1 t ht),fun k hk=>((h2.sev hc).2 k hk).trans ((h1.sev hc).2 k hk)⟩,fun hc hn=>?_,
  fun hc=>⟨(h2.three hc).1.trans (h1.three hc).1,(h2.three hc).2.trans (h1.three hc).2⟩,fun hc=>⟨fun t ht hs=>J07 (p:=AV.high n0) ((h1.high hc).1 t ht) ((h2.high hc).1 t ht) hs,fun k hk hs=>J07 (p:=LObj.high n0) ((h1.high hc).2 k hk) ((h2.high hc).2 k hk) hs⟩⟩
 ·obtain⟨a,b⟩:=h1.two hc hn
  obtain⟨a',b'⟩:=h2.two hc a
  exact⟨a',fun k hk hm hs=>J07 (p:=LObj.low n0) (b k hk hm) (b' k hk hm) hs⟩
 ·obtain⟨a,b⟩:=h1.ten hc hn
  obtain⟨a',b'⟩:=h2.ten hc a
  exact⟨a',fun k hk hm hs=>J07 (p:=LObj.solid) (b k hk hm) (b' k hk hm) hs⟩
 ·obtain⟨a,b⟩:=h1.eleven hc hn
  obtain⟨a',b'⟩:=h2.eleven hc a
  exact⟨a',fun k hk=>(b' k hk).trans (b k hk)⟩
 ·obtain⟨a,b⟩:=h1.fil hc hn
  obtain⟨a',b'⟩:=h2.fil hc a
  exact⟨a',fun k hk hm hs=>J07 (p:=Z0s) (b k hk hm) (b' k hk hm) hs⟩
theorem J2n {n0:Nat} {o o':Oper} {ops:Array Oper} {e':Option Eff} {c c':Cls} (h':Cl n0 e' c') (hm:meet c c'=true) (hd:∀ d,o'.dst=some d→d ∉ o.looksAt ops) (st:St) :
    Obs n0 o ops c st (X6 o' e' st):=by
 have hne:∀ t∈o.looksAt ops,∀ d,o'.dst=some d→t≠d:=fun t ht d hdd e=>hd d hdd (e▸ht)
 have hput:∀ (s:St) (v:AV) (t:Nat),t∈o.looksAt ops→(s.putO o'.dst v).tm t=s.tm t:=fun s v t ht=>J0o s v t (hne t ht)
 have low:(c'.1≤4∨c'.1=10∨c'.1=13∨c'.1=15)→Obs n0 o ops c st (X6 o' e' st):=fun h2=>by
  obtain⟨v',n'⟩:=Z2f (o:=o') h' h2
  rw[n'.eq st]
  have hh:((id st).putO o'.dst v').hp=st.hp:=Qk _ _ _
  have hn:((id st).putO o'.dst v').nx=st.nx:=Zm _ _ _
  refine⟨fun t ht _=>hput _ _ t ht,fun _ t ht _=>hput _ _ t ht,fun _ t ht _=>hput _ _ t ht,fun _ t ht=>hput _ _ t ht,fun _ h=>?_,fun _ h=>?_,fun _ h=>?_,fun _=>hn,fun _=>⟨fun t ht=>hput _ _ t ht,fun k _=>by rw[hh]⟩,fun _ h=>⟨by rw[hn];exact h,fun k _ _ _=>by rw[hh]⟩,fun _=>⟨hh,hn⟩,fun _=>⟨fun t ht _=>hput _ _ t ht,fun k _ _=>by rw[hh]⟩⟩
  ·rw[hn,hh]
   exact⟨h,fun _ _ _ _=>rfl⟩
  ·rw[hn,hh]
   exact⟨h,fun _ _ _ _=>rfl⟩
  ·rw[hn,hh]
   exact⟨h,fun _ _=>rfl⟩
 have news:(c.1≤3∨c.1=10∨c.1=11∨c.1=15∨c.1=14)→(c'.1=5∨c'.1=12)→Obs n0 o ops c st (X6 o' e' st):=fun h1 h2=>by
  obtain⟨m,v',n',hg,_⟩:=U0r (o:=o') h' (by omega)
  rw[n'.eq st]
  have ht':∀ t∈o.looksAt ops,((m st).putO o'.dst v').tm t=st.tm t:=fun t ht=>by rw[hput _ _ t ht,n'.tm]
  obtain⟨g1,g2⟩:=hg (by omega) st
  refine⟨fun t ht _=>ht' t ht,fun _ t ht _=>ht' t ht,fun _ t ht _=>ht' t ht,fun _=>ht',fun _ hn=>?_,fun _ hn=>?_,fun _ hn=>?_,fun hc=>by omega,fun hc=>by omega,fun _ hn=>⟨by rw[Zm];omega,fun k hk _ _=>by rw[Qk];exact g2 k (by omega)⟩,fun hc=>by omega,fun hc=>by omega⟩
  ·rw[Qk,Zm]
   exact⟨by omega,fun k hk _ _=>g2 k (by omega)⟩
  ·rw[Qk,Zm]
   exact⟨by omega,fun k hk _ _=>g2 k (by omega)⟩
  ·rw[Qk,Zm]
   exact⟨by omega,fun k hk=>g2 k (by omega)⟩
 rcases U21 hm with hm | hm<;>rcases Q1l hm with ⟨h1,h2⟩ | ⟨h1,h2⟩ | ⟨h1,h2⟩ | ⟨h1,h2⟩ | ⟨h1,h2⟩ | ⟨h1,h2⟩ | ⟨h1,h2⟩ | ⟨h1,h2⟩ | ⟨h1,h2⟩ | ⟨h1,h2⟩ | ⟨h1,h2,h3⟩
 ·exact low h2
 ·exact news (by omega) h2
 ·obtain⟨m,v',n',_,hg⟩:=U0r (o:=o') h' (by omega)
  rw[n'.eq st]
  have ht':∀ t∈o.looksAt ops,((m st).putO o'.dst v').tm t=st.tm t:=fun t ht=>by rw[hput _ _ t ht,n'.tm]
  obtain⟨g1,g2⟩:=hg (.inl h2) st
  have h6:c.1≤3∨c.1=10∨c.1=15:=by rcases h1 with h1 | h1<;>omega
  refine⟨fun t ht _=>ht' t ht,fun _ t ht _=>ht' t ht,fun _ t ht _=>ht' t ht,fun _=>ht',fun hc hn=>?_,fun hc hn=>?_,fun hc=>by omega,fun hc=>by omega,fun hc=>by omega,fun hc=>by omega,fun hc=>by omega,fun hc=>by omega⟩ <;>
  ·rw[Qk,Zm]
   refine⟨by omega,fun k hk hkm _=>g2 k ?_⟩
   rcases h1 with h1 | h1
   ·omega
   ·exact h1.2 k hkm
 ·obtain⟨k,ob,v',rfl,hk⟩:=J2e (o:=o') h' h2
  obtain⟨a1,_,a3,a4⟩:=V0k (o:=o') k ob v'
  refine⟨fun t ht hs=>?_,fun _ t ht hs=>?_,fun _ t ht hs=>?_,fun hc=>by omega,fun hc hn=>⟨by rw[a4];exact hn,fun j hj _ hs=>?_⟩,fun hc hn=>⟨by rw[a4];exact hn,fun j hj _ hs=>?_⟩,fun hc=>by omega,fun hc=>by omega,fun hc=>by omega,fun hc=>by omega,fun hc=>by omega,fun hc=>by omega⟩
  ·rw[a1 st t (hne t ht)] at hs ⊢
   exact hs.elim (fun hs=>Uf _ _ hs) (fun hs=>Jr _ _ hs)
  ·rw[a1 st t (hne t ht)] at hs ⊢
   exact hs.elim (fun hs=>J10 (V1e hk) _ hs) (fun hs=>Q10 _ hs)
  ·rw[a1 st t (hne t ht)] at hs ⊢
   exact hs.elim (fun hs=>J10 (V1e hk) _ (Bool.and_eq_true_iff.1 hs).1) (fun hs=>Q10 _ (Bool.and_eq_true_iff.1 hs).1)
  ·rw[a3 st j (by omega)] at hs ⊢
   exact hs.elim (fun hs=>J2h (V1e hk) hs) (fun hs=>X29 hs)
  ·rw[a3 st j (by omega)] at hs ⊢
   exact hs.elim (fun hs=>Qt hs) (fun hs=>U03 hs)
 ·obtain⟨k1,_,k3,_⟩:=J1e (o:=o') h' h2
  obtain⟨k4,k5⟩:=k3 st
  have h6:c.1=0∨c.1=10:=h1.imp id fun h=>h.1
  refine⟨fun t ht hs=>?_,fun hc=>by omega,fun hc=>by omega,fun hc=>by omega,fun hc=>by omega,fun hc hn=>⟨by omega,fun j hj hjm hs=>?_⟩,fun hc=>by omega,fun hc=>by omega,fun hc=>by omega,fun hc=>by omega,fun hc=>by omega,fun hc=>by omega⟩
  ·obtain⟨ks,hk⟩:=k1 st t (hne t ht)
   rw[hk] at hs ⊢
   exact hs.elim (fun hs=>Uf ks _ hs) (fun hs=>Jr ks _ hs)
  ·have hap:j ∉ c'.2:=by
    rcases h1 with h1 | h1
    ·omega
    ·exact h1.2 j hjm
   obtain⟨ks,hk⟩:=k5 j (by omega) hap
   rw[hk] at hs ⊢
   exact hs.elim (fun hs=>Qt hs) (fun hs=>U03 hs)
 ·exact news (by omega) (by omega)
 ·cases h' with
  | @plain ks objs vs hne' hl hk hv ho=>
    have hoff:∀ k,n0≤k→(V4 st.hp ks).contains k=false:=fun k hkn=>by
     cases hc:(V4 st.hp ks).contains k with
     | false=>rfl
     | true=>
       have:=hk k (U0a (by simpa using hc))
       omega
    rw[U0d hl hne' st]
    refine⟨fun t ht hs=>?_,fun hc=>by omega,fun hc=>by omega,fun hc=>by omega,fun hc=>by omega,fun hc=>by omega,fun hc=>by omega,fun hc=>by omega,fun hc=>by omega,fun hc=>by omega,fun hc=>by omega,fun _=>⟨fun t ht hs=>?_,fun k hkn hs=>?_⟩⟩
    ·rw[hput _ _ t ht] at hs ⊢
     exact hs.elim (fun hs=>Uf _ _ hs) (fun hs=>Jr _ _ hs)
    ·rw[hput _ _ t ht] at hs ⊢
     exact hs.elim (fun hs=>V16 hoff _ hs) (fun hs=>J24 _ hs)
    ·rw[Qk] at hs ⊢
     have hpos:U8 k ks 0=none:=by
      cases hp:U8 k ks 0 with
      | none=>rfl
      | some i=>
        obtain⟨_,h2⟩:=Qa hp
        have:=hk k (List.mem_of_getElem? h2)
        omega
     simp only[Q0f,hpos] at hs ⊢
     exact hs.elim (fun hs=>U0p hoff hs) (fun hs=>Q1x hs)
  | solid h _=>simp only at h2;omega
  | low h _=>simp only at h2;omega
  | lowIn h _ _=>simp only at h2;omega
  | app0 h _=>simp only at h2;omega
  | val h=>simp only at h2;omega
  | _=>exact absurd h2 (by simp)
 ·obtain⟨h1,hap⟩:=h1
  cases h' with
  | @plain ks objs vs hne' hl hk hv ho=>
    have hoff:∀ k,k∈c.2→(V4 st.hp ks).contains k=false:=fun k hkc=>by
     cases hc:(V4 st.hp ks).contains k with
     | false=>rfl
     | true=>exact absurd (U0a (by simpa using hc)) (hap k hkc)
    rw[U0d hl hne' st]
    refine⟨fun t ht hs=>?_,fun hc=>by omega,fun _ t ht hs=>?_,fun hc=>by omega,fun hc=>by omega,fun hc hn=>⟨?_,fun j hj hjm hs=>?_⟩,fun hc=>by omega,fun hc=>by omega,fun hc=>by omega,fun hc=>by omega,fun hc=>by omega,fun hc=>by omega⟩
    ·rw[hput _ _ t ht] at hs ⊢
     exact hs.elim (fun hs=>Uf _ _ hs) (fun hs=>Jr _ _ hs)
    ·rw[hput _ _ t ht] at hs ⊢
     refine hs.elim (fun hs=>U1q _ fun k hkx=>?_) (fun hs=>Q10 _ (Bool.and_eq_true_iff.1 hs).1)
     have:=List.all_eq_true.1 (Bool.and_eq_true_iff.1 hs).2 k hkx
     exact hoff k (by simpa using this)
    ·rw[Zm]
     exact hn
    ·rw[Qk] at hs ⊢
     have hpos:U8 j ks 0=none:=by
      cases hp:U8 j ks 0 with
      | none=>rfl
      | some i=>
        obtain⟨_,h2⟩:=Qa hp
        exact absurd (List.mem_of_getElem? h2) (hap j hjm)
     simp only[Q0f,hpos] at hs ⊢
     exact hs.elim (fun hs=>Qt hs) (fun hs=>U03 hs)
  | solid h _=>simp only at h2;omega
  | low h _=>simp only at h2;omega
  | lowIn h _ _=>simp only at h2;omega
  | app0 h _=>simp only at h2;omega
  | val h=>simp only at h2;omega
  | _=>exact absurd h2 (by simp)
 ·obtain⟨k0,ob,v,rfl,hl,hk0,ho,hv⟩:=V2j h' h2
  obtain⟨m,v',n',_,hg⟩:=U0r (o:=o') h' (by omega)
  rw[n'.eq st]
  have ht':∀ t∈o.looksAt ops,((m st).putO o'.dst v').tm t=st.tm t:=fun t ht=>by rw[hput _ _ t ht,n'.tm]
  obtain⟨g1,g2⟩:=hg (.inr h2) st
  have h6:c.1≤3∨c.1=10∨c.1=13∨c.1=15:=by rcases h1 with h1 | h1 | h1<;>omega
  refine⟨fun t ht _=>ht' t ht,fun _ t ht _=>ht' t ht,fun _ t ht _=>ht' t ht,fun _=>ht',fun hc hn=>?_,fun hc hn=>?_,fun hc=>by omega,fun hc=>by omega,fun hc=>by omega,fun hc=>by omega,fun hc=>by omega,fun hc=>⟨fun t ht _=>ht' t ht,fun k hk _=>?_⟩⟩
  ·rw[Qk,Zm]
   refine⟨by omega,fun k hk hkm _=>g2 k ?_⟩
   rcases h1 with h1 | h1 | h1
   ·omega
   ·omega
   ·exact h1.2 k hkm
  ·rw[Qk,Zm]
   refine⟨by omega,fun k hk hkm _=>g2 k ?_⟩
   rcases h1 with h1 | h1 | h1
   ·omega
   ·omega
   ·exact h1.2 k hkm
  ·rw[Qk]
   refine g2 k ?_
   rw[hl]
   simp
   omega
 ·exact news (by omega) (by omega)
 ·rcases h2 with h2 | h2
  ·obtain⟨m,v',n',_,hg⟩:=U0r (o:=o') h' (by omega)
   rw[n'.eq st]
   have ht':∀ t∈o.looksAt ops,((m st).putO o'.dst v').tm t=st.tm t:=fun t ht=>by rw[hput _ _ t ht,n'.tm]
   obtain⟨g1,g2⟩:=hg (.inr h2) st
   exact⟨fun t ht _=>ht' t ht,fun hc=>by omega,fun hc=>by omega,fun hc=>by omega,fun hc=>by omega,fun hc=>by omega,fun hc=>by omega,fun hc=>by omega,fun hc=>by omega,fun hc hn=>⟨by rw[Zm];omega,fun k hk hkm _=>by rw[Qk];exact g2 k (h3 k hkm)⟩,fun hc=>by omega,fun hc=>by omega⟩
  ·obtain⟨k',ob,v',rfl,hk'⟩:=J2e (o:=o') h' (.inr h2)
   obtain⟨a1,_,a3,a4⟩:=V0k (o:=o') k' ob v'
   refine⟨fun t ht hs=>?_,fun hc=>by omega,fun hc=>by omega,fun hc=>by omega,fun hc=>by omega,fun hc=>by omega,fun hc=>by omega,fun hc=>by omega,fun hc=>by omega,fun hc hn=>⟨by rw[a4];exact hn,fun j hj hjm hs=>?_⟩,fun hc=>by omega,fun hc=>by omega⟩
   ·rw[a1 st t (hne t ht)] at hs ⊢
    exact hs.elim (fun hs=>Uf _ _ hs) (fun hs=>Jr _ _ hs)
   ·rw[a3 st j (by omega)] at hs ⊢
    exact hs.elim Z24.1 Z24.2
 ·exact low h1
 ·exact low (by omega)
 ·exact low (by rcases h1 with h1 | h1<;>omega)
 ·exact low (by omega)
 ·exact low (by rcases h1 with h1 | h1<;>omega)
 ·obtain⟨k1,_,k3,k4⟩:=J1e (o:=o') h' (.inr h1)
  refine⟨fun t ht hs=>?_,fun hc=>by omega,fun hc=>by omega,fun hc=>by omega,fun hc=>by omega,fun hc=>by omega,fun hc=>by omega,fun _=>k4 h1 st,fun hc=>by omega,fun hc=>by omega,fun hc=>by omega,fun hc=>by omega⟩
  obtain⟨ks,hk⟩:=k1 st t (hne t ht)
  rw[hk] at hs ⊢
  exact hs.elim (fun hs=>Uf ks _ hs) (fun hs=>Jr ks _ hs)
 ·exact low (by omega)
 ·exact low (by rcases h1 with ⟨h1,_⟩;omega)
 ·exact low (by rcases h1 with h1 | h1 | h1<;>omega)
 ·obtain⟨m,v',n',_,hg⟩:=U0r (o:=o') h' (by omega)
  rw[n'.eq st]
  have ht':∀ t∈o.looksAt ops,((m st).putO o'.dst v').tm t=st.tm t:=fun t ht=>by rw[hput _ _ t ht,n'.tm]
  obtain⟨g1,g2⟩:=hg (.inr h1) st
  exact⟨fun t ht _=>ht' t ht,fun hc=>by omega,fun hc=>by omega,fun hc=>by omega,fun hc=>by omega,fun hc=>by omega,fun hc=>by omega,fun _=>by rw[Zm];exact g1,fun hc=>by omega,fun hc=>by omega,fun hc=>by omega,fun hc=>by omega⟩
 ·obtain⟨m,v',n',_,hg⟩:=U0r (o:=o') h' (by omega)
  rw[n'.eq st]
  have ht':∀ t∈o.looksAt ops,((m st).putO o'.dst v').tm t=st.tm t:=fun t ht=>by rw[hput _ _ t ht,n'.tm]
  obtain⟨g1,g2⟩:=hg (.inr h1) st
  exact⟨fun t ht _=>ht' t ht,fun hc=>by omega,fun hc=>by omega,fun hc=>by omega,fun hc=>by omega,fun hc=>by omega,fun hc=>by omega,fun hc=>by omega,fun _=>⟨fun t ht=>ht' t ht,fun k hk=>by rw[Qk];exact g2 k (fun hkm=>h3 k hkm hk)⟩,fun hc hn=>⟨by rw[Zm];omega,fun k hk hkm _=>by rw[Qk];exact g2 k (fun hk2=>h3 k hk2 hkm)⟩,fun hc=>by omega,fun hc=>by omega⟩
theorem Q0v {n0:Nat} {o:Oper} {ops:Array Oper} {c:Cls} {st s s':St} (h:Obs n0 o ops c st s) (h':Obs n0 o ops c st s') {t:Nat} (ht:t∈o.looksAt ops) (hs:(s.tm t).solid=true):s'.tm t=s.tm t:=by
 have e1:=h.zero t ht (.inr hs)
 rw[h'.zero t ht (.inl (e1▸hs)),e1]
theorem J2m {n0:Nat} {o:Oper} {ops:Array Oper} {c:Cls} {st s s':St} (hc:c.1=1∨c.1=15) (h:Obs n0 o ops c st s) (h':Obs n0 o ops c st s') {t:Nat} (ht:t∈o.looksAt ops) (hs:inB n0 c.2 (s.tm t)=true):s'.tm t=s.tm t:=by
 have e1:=h.inn hc t ht (.inr hs)
 rw[h'.inn hc t ht (.inl (e1▸hs)),e1]
theorem U2f {n0:Nat} {o:Oper} {ops:Array Oper} {c:Cls} {st s s':St} (hc:c.1=3) (h:Obs n0 o ops c st s) (h':Obs n0 o ops c st s') {t:Nat} (ht:t∈o.looksAt ops) (hs:(s.tm t).low n0=true):s'.tm t=s.tm t:=by
 have e1:=h.old hc t ht (.inr hs)
 rw[h'.old hc t ht (.inl (e1▸hs)),e1]
theorem Q2u {n0:Nat} {o:Oper} {ops:Array Oper} {c:Cls} {st s s':St} (h:Obs n0 o ops c st s) (h':Obs n0 o ops c st s') {b:Bool} (hb:V0f ops.toList o s=some b):V0f ops.toList o s'=some b:=by
 unfold V0f at hb ⊢
 cases hg:o.guard with
 | none=>rw[hg] at hb;exact hb
 | some g=>
   obtain⟨j,want⟩:=g
   rw[hg] at hb
   simp only at hb ⊢
   cases hd:J0q ops.toList j with
   | none=>rw[hd] at hb;exact hb
   | some t=>
     rw[hd] at hb
     simp only at hb ⊢
     have hl:t∈o.looksAt ops:=by
      unfold Oper.looksAt
      rw[hg]
      refine List.mem_append_right _ ?_
      unfold J0q at hd
      rw[Array.getElem?_toList] at hd
      cases ho:ops[j]? with
      | none=>rw[ho] at hd;cases hd
      | some x=>rw[ho] at hd;simp only at hd;simp[ho,hd]
     have hs:(s.tm t).solid=true:=by
      cases hx:s.tm t<;>rw[hx] at hb<;>first | rfl | cases hb
     rw[Q0v h h' hl hs]
     exact hb
theorem V2s {n0:Nat}:∀ {xs:List AV},AV.highL n0 xs=true→∀ x∈xs,x.high n0=true
 | [],_,_,h=>by cases h
 | y::ys,h,x,hx=>by
   simp only[AV.highL,Bool.and_eq_true] at h
   rcases List.mem_cons.1 hx with rfl | hx
   ·exact h.1
   ·exact V2s h.2 x hx
theorem V0l:∀ {xs:List AV},AV.solidL xs=true→∀ x∈xs,x.solid=true
 | [],_,_,h=>by cases h
 | y::ys,h,x,hx=>by
   simp only[AV.solidL,Bool.and_eq_true] at h
   rcases List.mem_cons.1 hx with rfl | hx
   ·exact h.1
   ·exact V0l h.2 x hx
theorem Qm {o:Oper} {ops:Array Oper} {t:Nat} (h:.tmp t∈o.op.operands.toList):t∈o.looksAt ops:=List.mem_append_left _ (List.mem_filterMap.2 ⟨.tmp t,h,rfl⟩)
theorem V0v {hp hp':Nat→LObj}:∀ (n:Nat) (work seen:List Nat),(∀ k∈Q8 hp n work seen,hp' k=hp k)→Q8 hp' n work seen=Q8 hp n work seen
 | 0,_,_,_=>by simp only[Q8]
 | n+1,[],_,_=>by simp only[Q8]
 | n+1,k::ks,seen,h=>by
   simp only[Q8] at h ⊢
   cases hc:seen.contains k with
   | true=>
     rw[hc,cond_true] at h
     simp only[cond_true]
     exact V0v n ks seen h
   | false=>
     rw[hc,cond_false] at h
     simp only[cond_false]
     have hk:hp' k=hp k:=h k (reach_seen n _ _ k (by simp))
     rw[hk]
     exact V0v n _ _ h
where
 reach_seen {hp:Nat→LObj}:∀ (n:Nat) (work seen:List Nat) (k:Nat),k∈seen→k∈Q8 hp n work seen
 | 0,_,_,_,h=>by simpa only[Q8] using h
 | n+1,[],_,_,h=>by simpa only[Q8] using h
 | n+1,j::js,seen,k,h=>by
   simp only[Q8]
   cases seen.contains j with
   | true=>exact reach_seen n js seen k h
   | false=>exact reach_seen n _ _ k (by simp[h])
theorem U31 {T:Tab} {orc:Orc} {o:Oper} {s s':St} {k:Nat} {ks:List Nat} {objs:List LObj} {vs:List AV} (hic:V35 o.op=true) (he:evOp T orc o.op o.type s some=some (.call [] (k::ks) objs vs))
    (hev:∀ x∈o.op.operands.toList,s'.ev x=s.ev x) (hr:∀ j∈AV.refsL (Q4 s o.op),s'.hp j=s.hp j) (hks:∀ j∈k::ks,s'.hp j=s.hp j):evOp T orc o.op o.type s' some=some (.call [] (k::ks) objs vs):=by
 cases hop:o.op<;>rw[hop] at hic<;>simp only[V35] at hic<;>try (cases hic;done)
 rename_i c
 rw[hop] at he hev hr
 cases hc:c.callee with
 | builtin b=>rw[hc] at hic;cases hic
 | invoke r n=>rw[hc] at hic;cases hic
 | value f=>
   simp only[evOp,hc] at he ⊢
   have ha:c.args.toList.map s'.ev=c.args.toList.map s.ev:=V13 _ fun x hx=>hev x (by simp[Op.operands,Call.operands];right;simpa using hx)
   have hf:s'.ev f=s.ev f:=hev f (by simp[Op.operands,Call.operands,hc])
   rw[ha,hf]
   split at he
   ·rename_i g caps hg
    unfold Z0q at he ⊢
    simp only at he ⊢
    have hrefs:∀ j∈AV.refsL (Ql T c.argTypes.toList (c.args.toList.map s.ev)++caps),s'.hp j=s.hp j:=fun j hj=>by
     rw[X10,J08,List.mem_append] at hj
     refine hr j ?_
     rcases hj with hj | hj
     ·obtain⟨y,hy,hky⟩:=X09 hj
      obtain⟨x,hx,rfl⟩:=List.mem_map.1 hy
      exact Q08 (List.mem_map.2 ⟨x,by simp[Op.operands,Call.operands];right;simpa using hx,rfl⟩) hky
     ·refine Q08 (List.mem_map.2 ⟨f,by simp[Op.operands,Call.operands,hc],rfl⟩) ?_
      rw[hg]
      simpa only[AV.refs] using hj
    rw[V0n _ hrefs,Qv _ hrefs]
    split at he
    ·rename_i hrow
     obtain⟨q,_,hq⟩:=Tr.run_some he
     split at hq
     ·cases hq
     ·split at hq
      ·split at hq
       ·cases hq
       ·cases hq
      ·split at hq
       ·cases hq
       ·cases hq
    ·rename_i hrow
     rw[if_neg hrow]
     generalize hA:Ql T c.argTypes.toList (c.args.toList.map s.ev)++caps=as at *
     have hdo:∀ (kk:∀ j∈Q8 s.hp 1000 (AV.refsL as) [],s'.hp j=s.hp j),Q8 s'.hp 1000 (AV.refsL as) []=Q8 s.hp 1000 (AV.refsL as) []:=fun kk=>V0v (hp:=s.hp) (hp':=s'.hp) 1000 (AV.refsL as) [] kk
     have hmp:∀ (l:List Nat) (g:Nat→Option Nat),(∀ j∈l,s'.hp j=s.hp j)→(l.map fun k=>(s'.hp k).ren g)=l.map fun k=>(s.hp k).ren g:=fun l g h=>List.map_congr_left fun j hj=>by rw[h j hj]
     have hsubl:∀ (l:List Nat),∀ k∈V4 s.hp l,k∈l:=fun l=>by
      induction l with
      | nil=>intro k h;simp[V4] at h
      | cons x l ih=>
        intro k h
        simp only[V4] at h
        split at h
        ·rcases List.mem_cons.1 h with rfl | h
         ·simp
         ·exact List.mem_cons_of_mem _ (ih k h)
        ·exact List.mem_cons_of_mem _ (ih k h)
     have hfz:AV.frzL s'.hp (V4 s.hp (AV.refsL as)) as=AV.frzL s.hp (V4 s.hp (AV.refsL as)) as:=Qv _ hrefs
     have hfil:∀ j,j∈(Q8 s.hp 1000 (AV.refsL as) []).filter (fun k=>!(V4 s.hp (AV.refsL as)).contains k)→j∈Q8 s.hp 1000 (AV.refsL as) []:=fun j hj=>(List.mem_filter.1 hj).1
     split at he
     ·rename_i hmix
      obtain⟨q,hq1,hq2⟩:=Tr.run_some he
      split at hq2
      ·simp only[Option.some.injEq,Eff.call.injEq] at hq2
       obtain⟨_,hkk,_,_⟩:=hq2
       have hall:∀ j∈Q8 s.hp 1000 (AV.refsL as) [],s'.hp j=s.hp j:=fun j hj=>by
        cases hc2:(V4 s.hp (AV.refsL as)).contains j with
        | true=>exact hrefs j (hsubl _ j (by simpa using hc2))
        | false=>exact hks j (by rw[←hkk];exact List.mem_filter.2 ⟨hj,by rw[hc2];rfl⟩)
       rw[hdo hall,hmp _ _ (fun j hj=>hall j (hfil j hj)),hfz,if_pos hmix]
       exact he
      ·simp only[Option.some.injEq,Eff.call.injEq] at hq2
       have:=hmix.1
       rw[hq2.1] at this
       cases this
     ·rename_i hmix
      obtain⟨q,hq1,hq2⟩:=Tr.run_some he
      simp only[Option.some.injEq,Eff.call.injEq] at hq2
      obtain⟨_,hkk,_,_⟩:=hq2
      have hall:∀ j∈Q8 s.hp 1000 (AV.refsL as) [],s'.hp j=s.hp j:=fun j hj=>hks j (by rw[←hkk];exact hj)
      rw[hdo hall,hmp _ _ (fun j hj=>hall j (hfil j hj)),hfz,hmp _ _ hall,if_neg hmix]
      exact he
   ·cases he
theorem J15 {T:Tab} {hp hp':Nat→LObj} {nx t n:Nat} {ps:List (Nat×AV)} {os:List LObj} {v:AV} (h:Xb T hp nx t n ps some=some (.new os v)):Xb T hp' nx t n ps some=some (.new os v):=by
 unfold Xb at h ⊢
 split at h
 ·split at h
  ·cases h
  ·split at h
   ·exact h
   ·split at h
    ·rename_i hc
     rw[if_pos hc]
     simp only at h ⊢
     split at h
     ·split at h
      ·rename_i xs hxs
       split at h
       ·rename_i hrs
        rw[hrs] at hxs ⊢
        simp only[X1f] at hxs
        rw[if_pos (show (V4 hp' []).length=[].length from rfl)]
        simp only[X1f]
        rw[hxs]
        exact h
       ·cases h
      ·cases h
     ·cases h
    ·cases h
 ·cases h
theorem V5o {T:Tab} {orc:Orc} {n0:Nat} {o:Oper} {ops:Array Oper} {st s s':St} {f:Eff} (hn:n0≤st.nx) (h:Obs n0 o ops (X4 n0 s o.op f) st s) (h':Obs n0 o ops (X4 n0 s o.op f) st s')
    (he:evOp T orc o.op o.type s some=some f):evOp T orc o.op o.type s' some=some f:=by
 have near:∀ v,f=.val v→(∀ x∈o.op.operands.toList,s'.ev x=s.ev x)→(Ju o.op=false→∀ k∈AV.refsL (Q4 s o.op),s'.hp k=s.hp k)→evOp T orc o.op o.type s' some=some f:=fun v hv hev hk=>by
  subst hv
  have h1:=Z3q he s'.hp s'.nx hk
  rw[←h1]
  exact X0v T orc o.op o.type (fun x hx=>by rw[Z29];exact hev x hx) rfl rfl
 have ev1:(X4 n0 s o.op f).1=2∨(4≤(X4 n0 s o.op f).1∧(X4 n0 s o.op f).1≠10∧(X4 n0 s o.op f).1≠12∧(X4 n0 s o.op f).1≠13∧(X4 n0 s o.op f).1≠15∧(X4 n0 s o.op f).1≠14∧(X4 n0 s o.op f).1≠16)→∀ x∈o.op.operands.toList,s'.ev x=s.ev x:=fun hc x hx=>by
  cases x with
  | tmp t=>exact(h'.one hc t (Qm hx)).trans (h.one hc t (Qm hx)).symm
  | _=>rfl
 have ev2:(X4 n0 s o.op f).1=3→AV.lowL n0 (Q4 s o.op)=true→∀ x∈o.op.operands.toList,s'.ev x=s.ev x:=fun hc hl x hx=>by
  cases x with
  | tmp t=>exact U2f hc h h' (Qm hx) (X2g hl _ (List.mem_map.2 ⟨.tmp t,hx,rfl⟩))
  | _=>rfl
 have ev3:(X4 n0 s o.op f).1=1∨(X4 n0 s o.op f).1=15→AV.lowL n0 (Q4 s o.op)=true→(∀ k∈AV.refsL (Q4 s o.op),k∈(X4 n0 s o.op f).2)→∀ x∈o.op.operands.toList,s'.ev x=s.ev x:=fun hc hl hr x hx=>by
  cases x with
  | tmp t=>
    have hm:s.ev (.tmp t)∈Q4 s o.op:=List.mem_map.2 ⟨.tmp t,hx,rfl⟩
    refine J2m hc h h' (Qm hx) (Bool.and_eq_true_iff.2 ⟨X2g hl _ hm,List.all_eq_true.2 fun k hk=>?_⟩)
    have:=hr k (Q08 hm hk)
    simpa using this
  | _=>rfl
 have big:4≤(X4 n0 s o.op f).1∧(X4 n0 s o.op f).1≠10∧(X4 n0 s o.op f).1≠11∧(X4 n0 s o.op f).1≠12∧(X4 n0 s o.op f).1≠13∧(X4 n0 s o.op f).1≠15∧(X4 n0 s o.op f).1≠14∧(X4 n0 s o.op f).1≠16→evOp T orc o.op o.type s' some=some f:=fun hc=>by
  rw[X0v T orc o.op o.type (ev1 (.inr ⟨hc.1,hc.2.1,hc.2.2.2⟩)) ((h'.three hc).1.trans (h.three hc).1.symm) ((h'.three hc).2.trans (h.three hc).2.symm),he]
 by_cases h3:4≤(X4 n0 s o.op f).1∧(X4 n0 s o.op f).1≠10∧(X4 n0 s o.op f).1≠11∧(X4 n0 s o.op f).1≠12∧(X4 n0 s o.op f).1≠13∧(X4 n0 s o.op f).1≠15∧(X4 n0 s o.op f).1≠14∧(X4 n0 s o.op f).1≠16
 ·exact big h3
 ·cases f with
  | val v=>
    have hcl:X4 n0 s o.op (.val v)=(bif (Ju o.op||(AV.refsL (Q4 s o.op)).isEmpty)&&(AV.solidL (Q4 s o.op)&&v.solid) then (0,[])
     else bif Ju o.op then (bif AV.lowL n0 (Q4 s o.op)&&v.low n0 then (1,AV.refsL (Q4 s o.op)++v.refs) else (2,[])) else bif (AV.lowL n0 (Q4 s o.op)&&v.low n0)&&(AV.refsL (Q4 s o.op)).all (fun k=>(s.hp k).low n0) then
     (bif (AV.solidL (Q4 s o.op)&&v.solid)&&(AV.refsL (Q4 s o.op)).all (fun k=>(s.hp k).solid) then (10,AV.refsL (Q4 s o.op)) else bif v.refs.all (fun k=>(AV.refsL (Q4 s o.op)).contains k)&&(AV.refsL (Q4 s o.op)).all (fun k=>(s.hp k).solid) then (15,AV.refsL (Q4 s o.op)) else (3,AV.refsL (Q4 s o.op))) else bif (AV.highL n0 (Q4 s o.op)&&v.solid)&&(AV.refsL (Q4 s o.op)).all (fun k=>Nat.ble n0 k&&(s.hp k).high n0) then (13,AV.refsL (Q4 s o.op)) else (4,[])):=rfl
    cases hb:((Ju o.op||(AV.refsL (Q4 s o.op)).isEmpty)&&(AV.solidL (Q4 s o.op)&&v.solid)) with
    | true=>
      simp only[Bool.and_eq_true,Bool.or_eq_true] at hb
      refine near v rfl (fun x hx=>?_) (fun hf k hk=>?_)
      ·cases x with
       | tmp t=>exact Q0v h h' (Qm hx) (V0l hb.2.1 _ (List.mem_map.2 ⟨.tmp t,hx,rfl⟩))
       | _=>rfl
      ·rcases hb.1 with h1 | h1
       ·rw[hf] at h1;cases h1
       ·rw[List.isEmpty_iff.1 h1] at hk;cases hk
    | false=>
      rw[hb,cond_false] at hcl
      cases hbl:Ju o.op with
      | true=>
        rw[hbl,cond_true] at hcl
        cases hl:(AV.lowL n0 (Q4 s o.op)&&v.low n0) with
        | true=>
          rw[hl,cond_true] at hcl
          simp only[Bool.and_eq_true] at hl
          exact near v rfl (ev3 (by rw[hcl];simp) hl.1 (fun k hk=>by rw[hcl];exact List.mem_append_left _ hk)) (fun hf=>by rw[hbl] at hf;cases hf)
        | false=>
          rw[hl,cond_false] at hcl
          exact near v rfl (ev1 (by rw[hcl];simp)) (fun hf=>by rw[hbl] at hf;cases hf)
      | false=>
        rw[hbl,cond_false] at hcl
        cases hr:((AV.lowL n0 (Q4 s o.op)&&v.low n0)&&(AV.refsL (Q4 s o.op)).all (fun k=>(s.hp k).low n0)) with
        | false=>
          rw[hr,cond_false] at hcl
          cases hq:((AV.highL n0 (Q4 s o.op)&&v.solid)&&(AV.refsL (Q4 s o.op)).all (fun k=>Nat.ble n0 k&&(s.hp k).high n0)) with
          | false=>rw[hq,cond_false] at hcl;rw[hcl] at h3;exact absurd ⟨Nat.le_refl 4,by simp,by simp,by simp,by simp,by simp,by simp,by simp⟩ h3
          | true=>
            rw[hq,cond_true] at hcl
            have hc13:(X4 n0 s o.op (.val v)).1=13:=by rw[hcl]
            simp only[Bool.and_eq_true,List.all_eq_true,Nat.ble_eq] at hq
            obtain⟨hi1,hi2⟩:=h.high hc13
            obtain⟨hj1,hj2⟩:=h'.high hc13
            refine near v rfl (fun x hx=>?_) fun _ k hk=>?_
            ·cases x with
             | tmp t=>
               have hh:(s.tm t).high n0=true:=V2s hq.1.1 _ (List.mem_map.2 ⟨.tmp t,hx,rfl⟩)
               have e1:=hi1 t (Qm hx) (.inr hh)
               have e2:=hj1 t (Qm hx) (.inl (e1▸hh))
               exact e2.trans e1.symm
             | _=>rfl
            ·obtain⟨hk1,hk2⟩:=hq.2 k hk
             have e1:=hi2 k hk1 (.inr hk2)
             have e2:=hj2 k hk1 (.inl (e1▸hk2))
             exact e2.trans e1.symm
        | true=>
          rw[hr,cond_true] at hcl
          simp only[Bool.and_eq_true] at hr
          cases hs:((AV.solidL (Q4 s o.op)&&v.solid)&&(AV.refsL (Q4 s o.op)).all (fun k=>(s.hp k).solid)) with
          | false=>
            rw[hs,cond_false] at hcl
            cases hw:(v.refs.all (fun k=>(AV.refsL (Q4 s o.op)).contains k)&&(AV.refsL (Q4 s o.op)).all (fun k=>(s.hp k).solid)) with
            | true=>
              rw[hw,cond_true] at hcl
              have hc3:(X4 n0 s o.op (.val v)).1=15:=by rw[hcl]
              have hmem:∀ k,k∈AV.refsL (Q4 s o.op)→k∈(X4 n0 s o.op (.val v)).2:=fun k hk=>by rw[hcl];exact hk
              refine near v rfl (ev3 (.inr hc3) hr.1.1 hmem) fun _ k hk=>?_
              have hk0:k < n0:=Vr _ hr.1.1 k hk
              have hko:=List.all_eq_true.1 (Bool.and_eq_true_iff.1 hw).2 k hk
              have e1:=(h.ten (.inr hc3) hn).2 k hk0 (hmem k hk) (.inr hko)
              rw[(h'.ten (.inr hc3) hn).2 k hk0 (hmem k hk) (.inl (e1▸hko)),e1]
            | false=>
            rw[hw,cond_false] at hcl
            have hc3:(X4 n0 s o.op (.val v)).1=3:=by rw[hcl]
            have hmem:∀ k,k∈AV.refsL (Q4 s o.op)→k∈(X4 n0 s o.op (.val v)).2:=fun k hk=>by rw[hcl];exact hk
            refine near v rfl (ev2 hc3 hr.1.1) fun _ k hk=>?_
            have hk0:k < n0:=Vr _ hr.1.1 k hk
            have hko:=List.all_eq_true.1 hr.2 k hk
            have e1:=(h.two hc3 hn).2 k hk0 (hmem k hk) (.inr hko)
            rw[(h'.two hc3 hn).2 k hk0 (hmem k hk) (.inl (e1▸hko)),e1]
          | true=>
            rw[hs,cond_true] at hcl
            simp only[Bool.and_eq_true] at hs
            have hc3:(X4 n0 s o.op (.val v)).1=10:=by rw[hcl]
            have hmem:∀ k,k∈AV.refsL (Q4 s o.op)→k∈(X4 n0 s o.op (.val v)).2:=fun k hk=>by rw[hcl];exact hk
            refine near v rfl (fun x hx=>?_) fun _ k hk=>?_
            ·cases x with
             | tmp t=>exact Q0v h h' (Qm hx) (V0l hs.1.1 _ (List.mem_map.2 ⟨.tmp t,hx,rfl⟩))
             | _=>rfl
            ·have hk0:k < n0:=Vr _ hr.1.1 k hk
             have hko:=List.all_eq_true.1 hs.2 k hk
             have e1:=(h.ten (.inl hc3) hn).2 k hk0 (hmem k hk) (.inr hko)
             rw[(h'.ten (.inl hc3) hn).2 k hk0 (hmem k hk) (.inl (e1▸hko)),e1]
  | new os v=>
    have hcl:X4 n0 s o.op (.new os v)=(bif X1w s o.op&&(v.high n0&&os.all (LObj.high n0)) then (12,[]) else (5,[])):=rfl
    cases ha:(X1w s o.op&&(v.high n0&&os.all (LObj.high n0))) with
    | false=>rw[ha,cond_false] at hcl;rw[hcl] at h3;exact absurd ⟨by simp,by simp,by simp,by simp,by simp,by simp,by simp,by simp⟩ h3
    | true=>
      rw[ha,cond_true] at hcl
      have hc12:(X4 n0 s o.op (.new os v)).1=12:=by rw[hcl]
      simp only[Bool.and_eq_true] at ha
      have hnx:s'.nx=s.nx:=(h'.twelve hc12).trans (h.twelve hc12).symm
      cases hop:o.op<;>rw[hop] at ha<;>simp only[X1w] at ha<;>try (simp at ha;done)
      ·rw[hop] at he
       simp only[evOp] at he ⊢
       rw[hnx]
       exact he
      ·rename_i ty n ps
       have hev:∀ x∈o.op.operands.toList,s'.ev x=s.ev x:=fun x hx=>by
        cases x with
        | tmp t=>exact Q0v h h' (Qm hx) (V0l (show AV.solidL (Q4 s o.op)=true by rw[hop];exact ha.1) _ (List.mem_map.2 ⟨Operand.tmp t,hx,rfl⟩))
        | _=>rfl
       rw[hop] at he hev
       have hmap:(ps.toList.map fun p=>(p.1,s'.ev p.2))=ps.toList.map fun p=>(p.1,s.ev p.2):=List.map_congr_left fun p hp=>by
        rw[hev p.2 (by simp only[Op.operands,Array.toList_map];exact List.mem_map.2 ⟨p,hp,rfl⟩)]
       have key:=J15 (hp':=s'.hp) (show Xb T s.hp s.nx ty n (ps.toList.map fun p=>(p.1,s.ev p.2)) some=some (.new os v) from he)
       show Xb T s'.hp s'.nx ty n (ps.toList.map fun p=>(p.1,s'.ev p.2)) some=_
       rw[hmap,hnx]
       exact key
  | upd k ob v=>
    cases hop:o.op<;>first
     | (refine absurd ?_ h3;simp only[X4,hop];exact⟨by simp,by simp,by simp,by simp,by simp,by simp,by simp,by simp⟩)
     | (exfalso;rw[hop] at he;simp only[evOp] at he;split at he
        ·split at he
         ·rename_i hx
          unfold boxE at hx
          split at hx
          ·cases hx;cases he
          ·cases hx
         ·cases he
        ·cases he)
  | app k ob v=>
    have hcl:X4 n0 s o.op (.app k ob v)=(bif Nat.ble n0 k then (bif V1s o.op then (16,AV.refsL (Q4 s o.op)) else (7,[])) else (8,[k])):=rfl
    cases hb:Nat.ble n0 k with
    | false=>rw[hb,cond_false] at hcl;rw[hcl] at h3;exact absurd ⟨by simp,by simp,by simp,by simp,by simp,by simp,by simp,by simp⟩ h3
    | true=>
      rw[hb,cond_true] at hcl
      cases ha:V1s o.op with
      | false=>rw[ha,cond_false] at hcl;rw[hcl] at h3;exact absurd ⟨by simp,by simp,by simp,by simp,by simp,by simp,by simp,by simp⟩ h3
      | true=>
        rw[ha,cond_true] at hcl
        have hc16:(X4 n0 s o.op (.app k ob v)).1=16:=by rw[hcl]
        obtain⟨s1,s2⟩:=h.sev hc16
        obtain⟨r1,r2⟩:=h'.sev hc16
        have h1:=X4m ha he s'.hp s'.nx fun j hj=>by
         have hm:j∈(X4 n0 s o.op (.app k ob v)).2:=by rw[hcl];exact hj
         exact(r2 j hm).trans (s2 j hm).symm
        rw[←h1]
        refine X0v T orc o.op o.type (fun x hx=>?_) rfl rfl
        rw[Z29]
        cases x with
        | tmp t=>exact(r1 t (Qm hx)).trans (s1 t (Qm hx)).symm
        | _=>rfl
  | frz ks os v=>exact absurd ⟨show 4≤9 by omega,show 9≠10 by omega,show 9≠11 by omega,show 9≠12 by omega,show 9≠13 by omega,show 9≠15 by omega,show 9≠14 by omega,show 9≠16 by omega⟩ h3
  | call fz ks objs vs=>
    cases fz with
    | cons a b=>exact absurd ⟨show 4≤9 by omega,show 9≠10 by omega,show 9≠11 by omega,show 9≠12 by omega,show 9≠13 by omega,show 9≠15 by omega,show 9≠14 by omega,show 9≠16 by omega⟩ h3
    | nil=>
      cases ks with
      | nil=>exact absurd ⟨show 4≤8 by omega,show 8≠10 by omega,show 8≠11 by omega,show 8≠12 by omega,show 8≠13 by omega,show 8≠15 by omega,show 8≠14 by omega,show 8≠16 by omega⟩ h3
      | cons k ks=>
        have hcl:X4 n0 s o.op (.call [] (k::ks) objs vs)=(bif U01 n0 s o.op (k::ks) objs vs then (11,k::ks) else (8,k::ks)):=rfl
        cases ha:U01 n0 s o.op (k::ks) objs vs with
        | false=>rw[ha,cond_false] at hcl;rw[hcl] at h3;exact absurd ⟨by simp,by simp,by simp,by simp,by simp,by simp,by simp,by simp⟩ h3
        | true=>
          rw[ha,cond_true] at hcl
          have hc11:(X4 n0 s o.op (.call [] (k::ks) objs vs)).1=11:=by rw[hcl]
          simp only[U01,Bool.and_eq_true,List.all_eq_true] at ha
          obtain⟨hic,_,hks,hlow,_⟩:=ha
          have hhp:∀ j,j < n0→s'.hp j=s.hp j:=fun j hj=>((h'.eleven hc11 hn).2 j hj).trans ((h.eleven hc11 hn).2 j hj).symm
          exact U31 hic he (ev1 (.inr (by rw[hc11];omega))) (fun j hj=>hhp j (Vr _ hlow j hj)) (fun j hj=>hhp j (by simpa using hks j hj))
theorem V59 {T:Tab} {orc:Orc} {all:List Oper} {n0:Nat} {o:Oper} {ops:Array Oper} {st s s':St} {f:Eff} (hn:n0≤st.nx) (h:Obs n0 o ops (X4 n0 s o.op f) st s) (h':Obs n0 o ops (X4 n0 s o.op f) st s')
    (he:Jv T orc all n0 o s some=some f):Jv T orc all n0 o s' some=some f:=by
 unfold Jv at he ⊢
 cases hnm:Z18 T all n0 o with
 | none=>rw[hnm] at he;exact V5o hn h h' he
 | some p=>
   obtain⟨k,ob⟩:=p
   rw[hnm] at he
   simp only at he ⊢
   cases hg:s.hp k with
   | gone=>
     rw[hg] at he
     simp only at he
     cases hlt:Nat.blt k s.nx with
     | false=>rw[hlt] at he;cases he
     | true=>
       rw[hlt,cond_true] at he
       cases he
       obtain⟨e,hop⟩:∃ e,o.op=.alloc e:=by
        unfold Z18 X3e at hnm
        split at hnm
        ·rename_i hx
         split at hx
         ·exact⟨_,by assumption⟩
         ·cases hx
        ·cases hnm
       have hcl:X4 n0 s o.op (.upd k ob (.ptr k 0))=(bif (ob.solid&&AV.solid (.ptr k 0))&&Nat.blt k n0 then (14,[k]) else (9,[])):=by rw[hop];rfl
       have key:s'.hp k=s.hp k∧k < s'.nx:=by
        cases hb:((ob.solid&&AV.solid (.ptr k 0))&&Nat.blt k n0) with
        | true=>
          rw[hb,cond_true] at hcl
          have hc:(X4 n0 s o.op (.upd k ob (.ptr k 0))).1=14:=by rw[hcl]
          have hm:k∈(X4 n0 s o.op (.upd k ob (.ptr k 0))).2:=by rw[hcl];simp
          have hk0:k < n0:=by simp only[Bool.and_eq_true,Nat.blt_eq] at hb;exact hb.2
          have hgo:Z0s (s.hp k)=true:=by rw[hg];rfl
          have e1:=(h.fil hc hn).2 k hk0 hm (.inr hgo)
          obtain⟨g1,g2⟩:=h'.fil hc hn
          have e2:=g2 k hk0 hm (.inl (by rw[←e1];exact hgo))
          exact⟨e2.trans e1.symm,by omega⟩
        | false=>
          rw[hb,cond_false] at hcl
          have hc:4≤(X4 n0 s o.op (.upd k ob (.ptr k 0))).1∧(X4 n0 s o.op (.upd k ob (.ptr k 0))).1≠10∧(X4 n0 s o.op (.upd k ob (.ptr k 0))).1≠11∧(X4 n0 s o.op (.upd k ob (.ptr k 0))).1≠12∧(X4 n0 s o.op (.upd k ob (.ptr k 0))).1≠13∧(X4 n0 s o.op (.upd k ob (.ptr k 0))).1≠15∧(X4 n0 s o.op (.upd k ob (.ptr k 0))).1≠14∧(X4 n0 s o.op (.upd k ob (.ptr k 0))).1≠16:=by rw[hcl];simp
          have e1:=h.three hc
          have e2:=h'.three hc
          have hlt':k < s.nx:=by simpa using hlt
          exact⟨by rw[e2.1,e1.1],by rw[e2.2,←e1.2];exact hlt'⟩
       rw[key.1,hg]
       simp only
       rw[show Nat.blt k s'.nx=true by simpa using key.2]
       rfl
   | boxT _ _=>rw[hg] at he;cases he
   | row _ _=>rw[hg] at he;cases he
   | mpo _ _ _=>rw[hg] at he;cases he
theorem U4j (o:Oper) (e:Option Eff) (st:St):st.nx≤(X6 o e st).nx:=by
 have hmem:∀ (s:St) (v:AV),(s.putO o.dst v).nx=s.nx:=fun s v=>by cases o.dst<;>rfl
 cases e with
 | none=>simp only[X6,hmem];omega
 | some f=>
   simp only[X6,hmem]
   cases f with
   | val v=>exact Nat.le_refl _
   | new os v=>simp only[St.apply,Um];omega
   | upd k ob v=>exact Nat.le_refl _
   | app k ob v=>exact Nat.le_refl _
   | frz ks os v=>
     simp only[St.apply,Um]
     exact Nat.le_add_right _ _
   | call fz ks objs vs=>
     simp only[St.apply,Um]
     cases fz<;>cases ks<;>exact Nat.le_add_right _ _
theorem X0d {T:Tab} {orc:Orc} {all:List Oper} {n0:Nat} {o:Oper} {st:St} {R:Type} (K:Eff→Option R):Jv T orc all n0 o st K=(Jv T orc all n0 o st some).bind K:=by
 unfold Jv
 cases Z18 T all n0 o with
 | none=>exact J0n T orc o.op o.type st K
 | some p=>
   obtain⟨k,ob⟩:=p
   simp only
   cases st.hp k with
   | gone=>simp only;cases Nat.blt k st.nx<;>rfl
   | boxT _ _=>rfl
   | row _ _=>rfl
   | mpo _ _ _=>rfl
inductive Trace (T:Tab) (orc:Orc) (n0:Nat) (all:List Oper):List Oper→List (Option Eff×Cls)→St→St→Prop where
 | nil (st:St):Trace T orc n0 all [] [] st st
 | run {o:Oper} {os:List Oper} {es:List (Option Eff×Cls)} {st st':St} {f:Eff} (hg:V0f all o st=some true) (he:Jv T orc all n0 o st some=some f)
     (h:Trace T orc n0 all os es (X6 o (some f) st) st'):Trace T orc n0 all (o::os) ((some f,X4 n0 st o.op f)::es) st st'
 | skip {o:Oper} {os:List Oper} {es:List (Option Eff×Cls)} {st st':St} (hg:V0f all o st=some false) (h:Trace T orc n0 all os es (X6 o none st) st') :
     Trace T orc n0 all (o::os) ((none,(0,[]))::es) st st'
theorem U0e {T:Tab} {orc:Orc} {R:Type} {K:St→Option R} {r:R} {all:List Oper} {bs:List Nat} {n0:Nat}:∀ (os:List Oper) (cs:List Cls) (st:St),Jq T orc all bs n0 os cs st K=some r→
    ∃ es st',Trace T orc n0 all os es st st'∧X0c bs (cs.reverse++es.map (·.2))=true∧K st'=some r
 | [],cs,st,h=>by
   simp only[Jq] at h
   cases hm:X0c bs cs.reverse with
   | false=>rw[hm] at h;cases h
   | true=>
     rw[hm] at h
     exact⟨[],st,.nil st,by simpa using hm,h⟩
 | o::os,cs,st,h=>by
   simp only[Jq,U18,J0l,X1n] at h
   rcases X36 h with ⟨hg,h⟩ | ⟨hg,h⟩
   ·rw[X0d] at h
    cases he:Jv T orc all n0 o st some with
    | none=>rw[he] at h;cases h
    | some f=>
      rw[he] at h
      simp only[Option.bind_some] at h
      obtain⟨es,st',h1,h2,h3⟩:=U0e os _ _ h
      exact⟨_,st',.run hg he h1,by simpa using h2,h3⟩
   ·obtain⟨es,st',h1,h2,h3⟩:=U0e os _ _ h
    exact⟨_,st',.skip hg h1,by simpa using h2,h3⟩
def Q9 (ops:List Oper) (es:List (Option Eff×Cls)) (i:Nat):St→St:=
 match ops[i]?,es[i]? with
 | some o,some e=>X6 o e.1
 | _,_=>id
theorem Q0k {T:Tab} {orc:Orc} {n0:Nat} {all os:List Oper} {es:List (Option Eff×Cls)} {st st':St} (h:Trace T orc n0 all os es st st'):es.length=os.length:=by
 induction h with
 | nil st=>rfl
 | run hg he h ih=>simp[ih]
 | skip hg h ih=>simp[ih]
theorem X0t {T:Tab} {orc:Orc} {n0:Nat} {all:List Oper} {es:List (Option Eff×Cls)} {st st':St} (h:Trace T orc n0 all all es st st') :
    ∀ i,i≤all.length→Trace T orc n0 all (all.drop i) (es.drop i) (runS (Q9 all es) (fun _=>true) st i) st'
 | 0,_=>by simpa[runS] using h
 | i+1,hi=>by
   have h1:=X0t h i (by omega)
   have hlen:=Q0k h
   have ho:all.drop i=all[i]::all.drop (i+1):=List.drop_eq_getElem_cons (by omega)
   have hes:es.drop i=es[i]::es.drop (i+1):=List.drop_eq_getElem_cons (by omega)
   rw[ho,hes] at h1
   have hstep:∀ s,Q9 all es i s=X6 all[i] es[i].1 s:=fun s=>by
    unfold Q9
    rw[List.getElem?_eq_getElem (by omega),List.getElem?_eq_getElem (by omega)]
   simp only[runS,cond_true]
   rw[hstep]
   generalize hx:es[i]=x at h1 ⊢
   cases h1 with
   | run hg he h=>exact h
   | skip hg h=>exact h
theorem U2j {T:Tab} {orc:Orc} {n0:Nat} {all:List Oper} {es:List (Option Eff×Cls)} {st st':St} (h:Trace T orc n0 all all es st st') {i:Nat} {o:Oper} (ho:all[i]?=some o) :
    ∃ e,es[i]?=some e∧Cl n0 e.1 e.2∧((e.1=none∧V0f all o (runS (Q9 all es) (fun _=>true) st i)=some false) ∨
      ∃ f,e=(some f,X4 n0 (runS (Q9 all es) (fun _=>true) st i) o.op f)∧V0f all o (runS (Q9 all es) (fun _=>true) st i)=some true∧Jv T orc all n0 o (runS (Q9 all es) (fun _=>true) st i) some=some f):=by
 obtain⟨hi,rfl⟩:=List.getElem?_eq_some_iff.1 ho
 have h1:=X0t h i (by omega)
 have hlen:=Q0k h
 have ho':all.drop i=all[i]::all.drop (i+1):=List.drop_eq_getElem_cons (by omega)
 have hes:es.drop i=es[i]::es.drop (i+1):=List.drop_eq_getElem_cons (by omega)
 rw[ho',hes] at h1
 refine⟨es[i],List.getElem?_eq_getElem (by omega),?_⟩
 generalize es[i]=x at h1 ⊢
 cases h1 with
 | run hg he h=>exact⟨cl_of _ _ _ _,.inr ⟨_,rfl,hg,he⟩⟩
 | skip hg h=>exact⟨.skip,.inl ⟨rfl,hg⟩⟩
theorem V3r {T:Tab} {orc:Orc} {n0:Nat} {all:List Oper} {es:List (Option Eff×Cls)} {st st':St} (h:Trace T orc n0 all all es st st') :
    runS (Q9 all es) (fun _=>true) st all.length=st':=by
 have h1:=X0t h all.length (Nat.le_refl _)
 rw[List.drop_length,show es.drop all.length=[] from by rw[←Q0k h,List.drop_length]] at h1
 cases h1
 rfl
def Xq (acc:Array Nat) (o:Oper):Nat:=o.after.foldl (fun s e=>if Region.binds .any e then s ||| 2 ^ e.on ||| acc.getD e.on 0 else s) 0
theorem U2k (acc:Array Nat):∀ (es:List Edge) (s x:Nat),(es.foldl (fun s e=>if Region.binds .any e then s ||| 2 ^ e.on ||| acc.getD e.on 0 else s) s).testBit x=true→
    s.testBit x=true∨∃ e∈es,Region.binds .any e=true∧(x=e.on∨(acc.getD e.on 0).testBit x=true)
 | [],s,x,h=>.inl h
 | e::es,s,x,h=>by
   simp only[List.foldl_cons] at h
   rcases U2k acc es _ x h with h1 | ⟨e',he',hb,h2⟩
   ·by_cases hb:Region.binds .any e=true
    ·rw[if_pos hb,Nat.testBit_or,Nat.testBit_or,Bool.or_eq_true,Bool.or_eq_true] at h1
     rcases h1 with (h1 | h1) | h1
     ·exact .inl h1
     ·rw[Nat.testBit_two_pow] at h1
      exact .inr ⟨e,by simp,hb,.inl (by simpa using (of_decide_eq_true h1).symm)⟩
     ·exact .inr ⟨e,by simp,hb,.inr h1⟩
    ·rw[if_neg hb] at h1
     exact .inl h1
   ·exact .inr ⟨e',by simp[he'],hb,h2⟩
theorem X26:∀ (os:List Oper) (acc:Array Nat) (all:List Oper),all.drop acc.size=os→
    (∀ j o,j < acc.size→all[j]?=some o→∀ x,(acc.getD j 0).testBit x=true→∃ e∈o.after.toList,Region.binds .any e=true∧(x=e.on∨(acc.getD e.on 0).testBit x=true))→
    ∀ j o,all[j]?=some o→∀ x,((os.foldl (fun acc o=>acc.push (Xq acc o)) acc).getD j 0).testBit x=true→
      ∃ e∈o.after.toList,Region.binds .any e=true∧(x=e.on∨((os.foldl (fun acc o=>acc.push (Xq acc o)) acc).getD e.on 0).testBit x=true)
 | [],acc,all,hd,h,j,o,ho,x,hx=>by
   simp only[List.foldl_nil] at hx ⊢
   have:j < acc.size:=by
    obtain⟨hj,_⟩:=List.getElem?_eq_some_iff.1 ho
    have:=congrArg List.length hd
    simp at this
    omega
   exact h j o this ho x hx
 | p::os,acc,all,hd,h,j,o,ho,x,hx=>by
   simp only[List.foldl_cons] at hx ⊢
   have hlt:acc.size < all.length:=by
    rcases Nat.lt_or_ge acc.size all.length with h' | h'
    ·exact h'
    ·rw[List.drop_eq_nil_of_le h'] at hd;cases hd
   have hp:all[acc.size]?=some p:=by
    have:(all.drop acc.size)[0]?=some p:=by rw[hd];rfl
    simpa[List.getElem?_drop] using this
   refine X26 os (acc.push (Xq acc p)) all (by rw[Array.size_push,←List.drop_drop,hd];rfl) ?_ j o ho x hx
   intro j' o' hj' ho' x' hx'
   have keep:∀ k,(acc.getD k 0).testBit x'=true→((acc.push (Xq acc p)).getD k 0).testBit x'=true:=fun k hk=>by
    by_cases hk2:k < acc.size
    ·have:(acc.push (Xq acc p)).getD k 0=acc.getD k 0:=by simp[Array.getElem?_push,show k≠acc.size by omega]
     rw[this];exact hk
    ·simp[Array.getElem?_eq_none (show acc.size≤k by omega)] at hk
   by_cases hj2:j' < acc.size
   ·have:(acc.push (Xq acc p)).getD j' 0=acc.getD j' 0:=by simp[Array.getElem?_push,show j'≠acc.size by omega]
    rw[this] at hx'
    obtain⟨e,he,hb,hh⟩:=h j' o' hj2 ho' x' hx'
    exact⟨e,he,hb,hh.imp id (keep e.on)⟩
   ·have:j'=acc.size:=by simp at hj';omega
    subst this
    rw[hp] at ho'
    cases ho'
    have:(acc.push (Xq acc p)).getD acc.size 0=Xq acc p:=by simp
    rw[this] at hx'
    unfold Xq at hx'
    rw[←Array.foldl_toList] at hx'
    rcases U2k acc _ _ _ hx' with h0 | ⟨e,he,hb,hh⟩
    ·simp at h0
    ·exact⟨e,he,hb,hh.imp id (keep e.on)⟩
theorem X2t {ops:Array Oper} {j:Nat} {o:Oper} (ho:ops[j]?=some o) {x:Nat} (hx:((Region.before ops).toList.getD j 0).testBit x=true) :
    ∃ e∈o.after.toList,Region.binds .any e=true∧(x=e.on∨((Region.before ops).toList.getD e.on 0).testBit x=true):=by
 have hb:Region.before ops=ops.toList.foldl (fun acc o=>acc.push (Xq acc o)) #[]:=by
  unfold Region.before
  rw[←Array.foldl_toList]
  rfl
 have:=X26 ops.toList #[] ops.toList rfl (fun j o hj=>by simp at hj) j o (by rw[Array.getElem?_toList];exact ho) x
 rw[←hb] at this
 have hg:∀ k,(Region.before ops).toList.getD k 0=(Region.before ops).getD k 0:=fun k=>by simp
 rw[hg] at hx
 obtain⟨e,he,h1,h2⟩:=this hx
 exact⟨e,he,h1,by rw[hg];exact h2⟩
end Go.Proofs.YtpledbapngdkeaaE
