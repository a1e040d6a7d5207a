import Derived.Test.YtkobjdhbfepkaaaPAcceptZones1
import Derived.Lib.AppendZeros
import Derived.MapKept
set_option maxRecDepth 1000000
namespace Go.Proofs.YtkobjdhbfepkaaaE
open Go
set_option linter.unusedVariables false
set_option linter.unusedSimpArgs false
theorem X3 {w:World} {hp:Nat→LObj} {nx:Nat} {μ:Nat→Pl} {F:Nat→Prop} (hi:HInv w hp nx μ F) {k:Nat} (h:μ k≠.none):k < nx:=by
 by_cases hlt:k < nx
 ·exact hlt
 ·exact absurd (hi.top k (by omega)) h
theorem U20 {P:Program} {w:World} {F:Nat→Prop} {τ:Ty} {xs:List τ.den} {A:Option Addr} (cap:Nat) (h:xs≠[]→∃ b o,A=some ⟨b,o,none⟩∧Lies F w τ xs b o) :
    ∃ olds,EncL F w τ xs olds∧(Builtin.firstCells τ.sz xs.length (.slice A xs.length cap)).run P w.drew=.ok olds.toArray w.drew:=by
 by_cases hne:xs=[]
 ·subst hne
  refine⟨[],by simp[EncL],?_⟩
  cases A with
  | none=>exact run_firstCells_none w.drew _ _ _ _
  | some ad=>simp[Builtin.firstCells,loadCells,loadCellsFrom]
 ·obtain⟨b,o,rfl,hl⟩:=h hne
  obtain⟨news,n1,n2⟩:=Z0u hl
  exact⟨news,n1,run_firstCells_some w.drew _ _ _ _ _ news (Qc n1) (fun j v hj=>by rw[Vb];simpa using n2 j v hj)⟩
theorem J0u (w:World) (o:Obj):Grew w (w.drew.alloc o):=(Grew.drew w).trans (Grew.push w.drew o)
theorem U1d (w:World) (o:Obj):(w.drew.alloc o).heap[w.heap.size]?=some o:=by simp[World.alloc,World.drew,-World.alloc_eq,-World.drew_eq]
theorem Z0r (w:World) (o:Obj):(w.drew.alloc o).heap.size=w.heap.size+1:=by simp
theorem J17 {P:Program} {T:Tab} (hT:U2 P T) {w:World} {t e tx ty:Nat} {row:Row} (ht:P.underlying t=some (.slice e)) (hrow:T.row e=some row) {τ:Ty} (hsz:τ.sz=row.size)
    {b o sLen sCap n:Nat} {us news:List Value} {E:TypeId} {fz:Nat×Nat} {u:Value} (hs:Src P τ.sz tx u n news w) (hroom:sLen+n≤sCap)
    (hb:w.heap[b]?=some (.cells us.toArray E fz)) (hfz:∀ i,i < us.length→¬ (fz.1≤i∧i < fz.2)) (hle:o+sLen * τ.sz+news.length≤us.length) :
    (Builtin.append_ #[t,tx] ty #[.slice (some ⟨b,o,none⟩) sLen sCap,u]).run P w=.ok (.slice (some ⟨b,o,none⟩) (sLen+n) sCap) (w.setCells b (o+sLen * τ.sz) news):=by
 obtain⟨i0,z,e1,e2,e3,e4,e5,e6,e7,e8⟩:=(hT e row hrow).info
 rw[hsz,←e2] at hs
 have:=run_append_room_src (P:=P) w t tx ty e i0 ht e1 b o sLen sCap u n news hs hroom (fun j hj=>by
  rw[hsz,←e2] at hle
  have:o+sLen * i0.size+j < us.length:=by omega
  simp[World.cell?,hb,List.getElem?_eq_getElem this]) (fun j hj=>by
  rw[hsz,←e2] at hle
  have:o+sLen * i0.size+j < us.length:=by omega
  have h3:=hfz _ this
  simp only[World.frozen?,hb]
  simp
  intro h4
  simp at h3
  omega)
 rw[e2,←hsz] at this
 exact this
theorem Ux {P:Program} {T:Tab} (hT:U2 P T) {w:World} {t e tx ty:Nat} {row:Row} (ht:P.underlying t=some (.slice e)) (hrow:T.row e=some row) {τ:Ty} (hsz:τ.sz=row.size)
    {A:Option Addr} {sLen sCap:Nat} {news:List Value} {u:Value} (hs:Src P τ.sz tx u 0 news w) (hle:sLen≤sCap) :
    (Builtin.append_ #[t,tx] ty #[.slice A sLen sCap,u]).run P w=.ok (.slice A sLen sCap) w:=by
 obtain⟨i0,z,e1,e2,e3,e4,e5,e6,e7,e8⟩:=(hT e row hrow).info
 have hn:news=[]:=List.length_eq_zero_iff.1 (by have:=hs.newsLen;simpa using this)
 subst hn
 rw[hsz,←e2] at hs
 exact run_append_nothing w t tx ty e i0 ht e1 A sLen sCap hle u hs
theorem U1h {P:Program} {c:Cx} {st:St} {a:Act} {w:World} {μ:Nat→Pl} {F:Nat→Prop} (hi:Inv c st a w μ F) {k:Nat} (hk:k < st.nx) {al:Option (Nat×Nat)} {l cp sz:Nat} (hrow:μ k=.row al l cp sz)
    {τ:Ty} {xs:List τ.den} {cells us:List Value} {e:TypeId} {cap':Nat} (hn:EncL F w τ xs cells) (hpre:∃ rest,us=cells++rest) (hcap:xs.length≤cap') (hfit:cap' * τ.sz≤us.length) (hby:X0j τ e) :
    Inv c ((st.kill [k]).upd k (.row τ xs)) a (w.drew.alloc (.cells us.toArray e)) (Vc μ k (.row (some (w.heap.size,0)) xs.length cap' τ.sz)) F ∧
     VRel (Vc μ k (.row (some (w.heap.size,0)) xs.length cap' τ.sz)) F (w.drew.alloc (.cells us.toArray e)) (.rowA k) (.slice (some ⟨w.heap.size,0,none⟩) xs.length cap'):=by
 have hg:=J0u w (.cells us.toArray e)
 refine⟨X0p hi hk hrow (hg.changed _) ?_ ?_,?_⟩
 ·simp only[ORel]
  refine⟨trivial,trivial,hcap,(fun h=>by cases h),fun b o hbo _=>?_⟩
  cases hbo
  refine⟨us,e,(0,0),U1d w _,by simp,by omega,fun i x hx=>?_,hby⟩
  obtain⟨rest,rfl⟩:=hpre
  obtain⟨vs,v1,v2,v3⟩:=Xz hn i x hx
  refine⟨vs,v1.mono (fun _ h=>h) (fun b hb=>hg.block b (hi.h.inn b hb)),v2,fun j u hj=>?_⟩
  have:=v3 j u hj
  rw[Nat.zero_add,List.getElem?_append_left (by obtain⟨h2,_⟩:=List.getElem?_eq_some_iff.1 this;exact h2)]
  exact this
 ·intro b hb
  simp only[Pl.own] at hb
  obtain⟨_,rfl⟩:=hb
  exact .inr ⟨Nat.le_refl _,by rw[Z0r];omega⟩
 ·simp only[VRel]
  exact⟨_,_,_,_,_,U9 _ _ _,rfl,fun _=>rfl⟩
theorem Z1s {P:Program} {T:Tab} (hT:U2 P T) {R:Type} {K:Eff→Option R} {r:R} {c:Cx} {st:St} {a:Act} {w:World} {μ:Nat→Pl} {F:Nat→Prop} (hi:Inv c st a w μ F) {t tx:Nat} (ty:Nat) {x y:AV} {v u:Value}
    (h:Zd T st.hp st.nx t tx x y K=some r) (hv:VRel μ F w x v) (hu:VRel μ F w y u):∃ f,K f=some r∧Outc P c st a w (Builtin.append_ #[t,tx] ty #[v,u]) f:=by
 unfold Zd at h
 split at h
 ·rename_i e hd
  have ht:=Q2 hT hd (by simp)
  simp only[Q3] at ht
  split at h
  ·cases h
  ·rename_i row hrow
   split at h
   ·cases h
   ·rename_i τ hτ
    split at h
    ·rename_i hcond
     obtain⟨hsz,hkind⟩:=hcond
     have hbt:X0j τ e:=fun hu=>(hT e row hrow).byte (.inl (by rw[hτ,hu]))
     split at h
     ·cases h
     ·rename_i ys hys
      obtain⟨news,hn,hs⟩:=J2r hT hi.h hys hu hkind
      have hnl:=Qc hn
      cases x<;>simp only at h<;>try cases h
      case ns=>
       obtain⟨hfit,hK⟩:=Z4 h
       simp only[VRel] at hv
       subst hv
       by_cases hne:ys=[]
       ·subst hne
        have:=U1a hi τ none
        exact⟨_,hK,_,_,_,F,Ux hT ht hrow hsz hs (Nat.le_refl _),this.1,this.2⟩
       ·have hpos:0 < ys.length:=List.length_pos_iff.2 hne
        obtain⟨cap',us,g1,g2,g3,g4,rest,g5⟩:=Z16 (xs:=[]) (olds:=[]) (ty:=ty) hT (fun b hb=>hi.h.inn b hb) ht hrow hsz (A:=none) (sLen:=0) (sCap:=0) rfl (by simp[EncL]) hn
         (run_firstCells_none w.drew _ _ _ _) hs (by omega) (by simpa using hfit)
        simp only[List.nil_append,Nat.zero_add] at g1 g2 g4
        have hgr:=J0u w (.cells us.toArray e)
        have:=J0l hi hgr (τ:=τ) (xs:=ys) (us:=us) (E:=e) (fz:=(0,0)) (cap:=cap') (by rw[Z0r];omega) (U1d w _) (by simp) g2 g3 (fun i q hq=>by
         obtain⟨vs,v1,v2,v3⟩:=Xz g4 i q hq
         refine⟨vs,v1.mono (fun _ h=>h) (fun b hb=>hgr.block b (hi.h.inn b hb)),v2,fun j z hj=>?_⟩
         have:=v3 j z hj
         rw[g5,List.getElem?_append_left (by obtain⟨h2,_⟩:=List.getElem?_eq_some_iff.1 this;exact h2)]
         exact this)
        exact⟨_,hK,_,_,_,F,g1,(this hbt).1,(this hbt).2⟩
      case rowA k=>
       have hv0:=hv
       simp only[VRel] at hv
       obtain⟨al,len,cap,sz,A0,hk,rfl,hA0⟩:=hv
       have hkn:k < st.nx:=X3 hi.h (by rw[hk];simp)
       have ho:=hi.h.obj k hkn
       rw[hk] at ho
       obtain⟨τ',xs,h3,h4,h5,h6,h7,h8⟩:=Jl ho
       rw[h3] at h
       simp only at h
       split at h
       ·rename_i hττ
        subst hττ
        replace h:req (fits (xs.length+ys.length) row.bytes) (K (.app k (.row τ' (xs++ys)) (.rowA k)))=some r:=h
        obtain⟨hfit,hK⟩:=Z4 h
        subst h4 h5
        obtain⟨A1,cap1,hveq,_,_,hlies⟩:=Qx hi.h (t:=τ') (xs:=xs) (x:=.rowA k) (by simp[Ur,h3]) hv0
        simp only[Value.slice.injEq] at hveq
        obtain⟨rfl,_,rfl⟩:=hveq
        by_cases hroom:xs.length+ys.length≤cap
        ·by_cases hcap:cap=0
         ·have hx0:xs=[]:=List.length_eq_zero_iff.1 (by omega)
          have hy0:ys=[]:=List.length_eq_zero_iff.1 (by omega)
          subst hx0 hy0 hcap
          refine⟨_,hK,_,_,Vc μ k (μ k),F,Ux hT ht hrow hsz hs (by simp),?_,?_⟩
          ·refine X0p hi hkn hk ((Grew.refl w).changed _) ?_ (fun b hb=>.inl hb)
           rw[hk]
           have hself:Vc μ k (.row al ([]:List τ'.den).length 0 τ'.sz)=μ:=by funext j;by_cases hj:j=k;subst hj;rw[U9];exact hk.symm;rw[J7 hj]
           rw[hself]
           rw[h3] at ho
           exact ho
          ·simp only[St.apply,VRel]
           exact⟨al,_,0,τ'.sz,A0,by rw[U9];exact hk,rfl,fun h=>absurd rfl h⟩
         ·cases al with
          | none=>exact absurd (h7 rfl) hcap
          | some bo=>
            obtain⟨b,o⟩:=bo
            have hA:=hA0 hcap
            simp only[Qt] at hA
            subst hA
            obtain⟨us,E,fz,g1,g2,g3,g4,g5⟩:=h8 b o rfl hcap
            have hown:(μ k).own b:=by simp[hk,Pl.own,hcap]
            have hle:o+xs.length * τ'.sz+news.length≤us.length:=by
             rw[hnl,Nat.add_assoc,←Nat.add_mul]
             have:(xs.length+ys.length) * τ'.sz≤cap * τ'.sz:=Nat.mul_le_mul_right _ hroom
             omega
            obtain⟨e1,e2,e3,e4,e5⟩:=J9 b news (o+xs.length * τ'.sz) w
            have hFw:∀ b',F b'→(w.setCells b (o+xs.length * τ'.sz) news).heap[b']?=w.heap[b']?:=fun b' hb'=>e5 b' (fun e=>(hi.h.out k b hown).1 (e▸hb'))
            refine⟨_,hK,_,_,Vc μ k (.row (some (b,o)) (xs.length+ys.length) cap τ'.sz),F,J17 hT ht hrow hsz hs hroom g1 g2 hle,?_,?_⟩
            ·refine X0p hi hkn hk ⟨e1,e2,e3,by omega,fun b' _ hne=>e5 b' (fun e=>hne (by rw[e];exact hown))⟩ ?_ (fun b' hb'=>.inl ?_)
             ·simp only[ORel]
              refine⟨trivial,by simp,hroom,(fun h=>by cases h),fun b' o' hbo _=>?_⟩
              cases hbo
              refine⟨_,E,fz,U8 b E fz news _ w us g1 hle,Qv hle g2,by simp;omega,?_,g5⟩
              have:=V0o g4 hn (Nat.le_refl xs.length) hle hFw
              intro i q hq
              exact this i q (by simpa[List.take_of_length_le,List.drop_of_length_le] using hq)
             ·obtain⟨_,rfl⟩:=hb'
              exact hown
            ·simp only[St.apply,VRel]
             exact⟨_,_,_,_,_,U9 _ _ _,rfl,fun _=>rfl⟩
        ·obtain⟨olds,o1,o2⟩:=U20 (P:=P) cap hlies
         obtain⟨cap',us,g1,g2,g3,g4,g5⟩:=Z16 (ty:=ty) hT (fun b hb=>hi.h.inn b hb) ht hrow hsz rfl o1 hn o2 hs (by omega) hfit
         have:=U1h (P:=P) hi hkn hk (e:=e) g4 g5 (by simpa using g2) g3
         rw[List.length_append] at this
         exact⟨_,hK,_,_,_,F,g1,(this hbt).1,(this hbt).2⟩
       ·cases h
      case rowS k off n0 cp=>
       have hv0:=hv
       simp only[VRel] at hv
       obtain⟨al,len,cap,sz,A,cap',hk,hle0,hcap',rfl,hA'⟩:=hv
       have hkn:k < st.nx:=X3 hi.h (by rw[hk];simp)
       have ho:=hi.h.obj k hkn
       rw[hk] at ho
       obtain⟨τ',zs,h3,h4,h5,h6,h7,h8⟩:=Jl ho
       rw[h3] at h
       simp only at h
       split at h
       ·rename_i hττ
        subst hττ
        replace h:req (fits (n0+ys.length) row.bytes) (bif cp||decide (zs.length < off+n0+ys.length)
              then K (.app k (.row τ' ((zs.drop off).take n0++ys)) (.rowA k))
              else K (.upd k (.row τ' (zs.take (off+n0)++ys++zs.drop (off+n0+ys.length))) (.rowS k off (n0+ys.length) false)))=some r:=h
        obtain⟨hfit,hK⟩:=Z4 h
        clear h
        subst h4 h5
        have hxl:((zs.drop off).take n0).length=n0:=by simp;omega
        obtain⟨A1,cap1,hveq,_,_,hlies⟩:=Qx hi.h (t:=τ') (xs:=(zs.drop off).take n0) (x:=.rowS k off n0 cp) (by simp[Ur,h3]) hv0
        simp only[Value.slice.injEq] at hveq
        obtain⟨rfl,_,rfl⟩:=hveq
        cases hb0:(cp||decide (zs.length < off+n0+ys.length)) with
        | true=>
          rw[hb0] at hK
          simp only[cond_true] at hK
          by_cases hroom:n0+ys.length≤cap'
          ·by_cases hcap:cap'=0
           ·have hn00:n0=0:=by omega
            have hy0:ys=[]:=List.length_eq_zero_iff.1 (by omega)
            subst hy0
            refine⟨_,hK,_,_,Vc μ k (.row none 0 0 τ'.sz),F,Ux hT ht hrow hsz hs (by omega),?_,?_⟩
            ·refine X0p hi hkn hk ((Grew.refl w).changed _) ?_ (fun b hb=>by simp[Pl.own] at hb)
             subst hn00
             simp only[ORel]
             exact⟨trivial,by simp,Nat.le_refl _,fun _=>trivial,(fun b o hbo _=>by cases hbo)⟩
            ·simp only[St.apply,VRel]
             subst hn00
             exact⟨_,_,_,_,A,U9 _ _ _,by rw[hcap],fun h=>absurd rfl h⟩
           ·obtain⟨b,o,rfl,rfl⟩:=hA' hcap
            have hcapne:cap≠0:=by
             intro h0
             apply hcap
             rw[hcap']
             split<;>omega
            obtain⟨us,E,fz,g1,g2,g3,g4,g5⟩:=h8 b o rfl hcapne
            have hown:(μ k).own b:=by simp[hk,Pl.own,hcapne]
            have hcapoff:off+cap'≤cap:=by
             rw[hcap']
             split<;>omega
            have hfit2:o+off * τ'.sz+cap' * τ'.sz≤us.length:=by
             have:(off+cap') * τ'.sz≤cap * τ'.sz:=Nat.mul_le_mul_right _ hcapoff
             rw[Nat.add_mul] at this
             omega
            have hle:o+off * τ'.sz+n0 * τ'.sz+news.length≤us.length:=by
             rw[hnl]
             have:(n0+ys.length) * τ'.sz≤cap' * τ'.sz:=Nat.mul_le_mul_right _ hroom
             rw[Nat.add_mul] at this
             omega
            obtain⟨e1,e2,e3,e4,e5⟩:=J9 b news (o+off * τ'.sz+n0 * τ'.sz) w
            have hFw:∀ b',F b'→(w.setCells b (o+off * τ'.sz+n0 * τ'.sz) news).heap[b']?=w.heap[b']?:=fun b' hb'=>e5 b' (fun e=>(hi.h.out k b hown).1 (e▸hb'))
            have g4':∀ (i:Nat) (q:τ'.den),((zs.drop off).take n0)[i]?=some q→∃ vs,Enc F w τ' q vs∧vs.length=τ'.sz∧∀ (j:Nat) (u:Value),vs[j]?=some u→us[o+off * τ'.sz+i * τ'.sz+j]?=some u:=by
             intro i q hq
             have hin:i < n0:=by obtain⟨h2,_⟩:=List.getElem?_eq_some_iff.1 hq;omega
             rw[List.getElem?_take_of_lt hin,List.getElem?_drop] at hq
             obtain⟨vs,v1,v2,v3⟩:=g4 _ q hq
             refine⟨vs,v1,v2,fun j z hj=>?_⟩
             have:=v3 j z hj
             rw[Nat.add_mul] at this
             rw[←this]
             congr 1
             omega
            refine⟨_,hK,_,_,Vc μ k (.row (some (b,o+off * τ'.sz)) (n0+ys.length) cap' τ'.sz),F,J17 hT ht hrow hsz hs hroom g1 g2 hle,?_,?_⟩
            ·refine X0p hi hkn hk ⟨e1,e2,e3,by omega,fun b' _ hne=>e5 b' (fun e=>hne (by rw[e];exact hown))⟩ ?_ (fun b' hb'=>.inl ?_)
             ·simp only[ORel]
              refine⟨trivial,by rw[List.length_append,hxl],hroom,(fun h=>by cases h),fun b' o' hbo _=>?_⟩
              cases hbo
              refine⟨_,E,fz,U8 b E fz news _ w us g1 hle,Qv hle g2,by simp;omega,?_,g5⟩
              have:=V0o g4' hn (by rw[hxl];exact Nat.le_refl n0) hle hFw
              intro i q hq
              have htk:((zs.drop off).take n0).take n0=(zs.drop off).take n0:=List.take_of_length_le (by omega)
              have hdr:((zs.drop off).take n0).drop (n0+ys.length)=[]:=List.drop_of_length_le (by omega)
              exact this i q (by rw[htk,hdr,List.append_nil];exact hq)
             ·obtain⟨_,rfl⟩:=hb'
              exact hown
            ·simp only[St.apply,VRel]
             exact⟨_,_,_,_,_,U9 _ _ _,rfl,fun _=>rfl⟩
          ·obtain⟨olds,o1,o2⟩:=U20 (P:=P) cap' hlies
           rw[hxl] at o2
           obtain⟨cap2,us,g1,g2,g3,g4,g5⟩:=Z16 (ty:=ty) hT (fun b hb=>hi.h.inn b hb) ht hrow hsz hxl o1 hn o2 hs (by omega) hfit
           have:=U1h (P:=P) hi hkn hk (e:=e) g4 g5 (by rw[List.length_append,hxl];exact g2) g3
           rw[List.length_append,hxl] at this
           exact⟨_,hK,_,_,_,F,g1,(this hbt).1,(this hbt).2⟩
        | false=>
          rw[hb0] at hK
          simp only[cond_false] at hK
          simp only[Bool.or_eq_false_iff,decide_eq_false_iff_not] at hb0
          obtain⟨rfl,hlt⟩:=hb0
          simp only[Bool.false_eq_true,if_false] at hcap'
          have hroom:n0+ys.length≤cap':=by omega
          have hnewlen:(zs.take (off+n0)++ys++zs.drop (off+n0+ys.length)).length=zs.length:=by simp;omega
          have hval:∀ (μ':Nat→Pl) (w':World),μ' k=μ k→VRel μ' F w' (.rowS k off (n0+ys.length) false) (.slice A (n0+ys.length) cap'):=by
           intro μ' w' hμ'
           simp only[VRel]
           exact⟨al,zs.length,cap,τ'.sz,A,cap',by rw[hμ'];exact hk,by omega,by simpa using hcap',rfl,hA'⟩
          by_cases hcap:cap'=0
          ·have hn00:n0=0:=by omega
           have hy0:ys=[]:=List.length_eq_zero_iff.1 (by omega)
           subst hy0
           refine⟨_,hK,_,_,μ,F,Ux hT ht hrow hsz hs (by omega),?_,?_⟩
           ·refine Um hi hkn ((Grew.refl w).changed _) ?_
            have hsame:zs.take (off+n0)++[]++zs.drop (off+n0+([]:List τ'.den).length)=zs:=by simp
            rw[hsame,hk]
            rw[h3] at ho
            exact ho
           ·simp only[St.apply]
            have:=hval μ w rfl
            simpa using this
          ·obtain⟨b,o,rfl,rfl⟩:=hA' hcap
           have hcapne:cap≠0:=by omega
           obtain⟨us,E,fz,g1,g2,g3,g4,g5⟩:=h8 b o rfl hcapne
           have hown:(μ k).own b:=by simp[hk,Pl.own,hcapne]
           have hle:o+off * τ'.sz+n0 * τ'.sz+news.length≤us.length:=by
            rw[hnl]
            have:(off+n0+ys.length) * τ'.sz≤cap * τ'.sz:=Nat.mul_le_mul_right _ (by omega)
            rw[Nat.add_mul,Nat.add_mul] at this
            omega
           obtain⟨e1,e2,e3,e4,e5⟩:=J9 b news (o+off * τ'.sz+n0 * τ'.sz) w
           have hFw:∀ b',F b'→(w.setCells b (o+off * τ'.sz+n0 * τ'.sz) news).heap[b']?=w.heap[b']?:=fun b' hb'=>e5 b' (fun e=>(hi.h.out k b hown).1 (e▸hb'))
           refine⟨_,hK,_,_,μ,F,J17 hT ht hrow hsz hs hroom g1 g2 hle,?_,hval μ _ rfl⟩
           refine Um hi hkn ⟨e1,e2,e3,by omega,fun b' _ hne=>e5 b' (fun e=>hne (by rw[e];exact hown))⟩ ?_
           rw[hk]
           simp only[ORel]
           refine⟨trivial,hnewlen.symm,h6,(fun h=>by cases h),fun b' o' hbo _=>?_⟩
           cases hbo
           have hle2:o+(off+n0) * τ'.sz+news.length≤us.length:=by rw[Nat.add_mul];omega
           have hpos:o+off * τ'.sz+n0 * τ'.sz=o+(off+n0) * τ'.sz:=by rw[Nat.add_mul];omega
           rw[hpos] at hFw ⊢
           refine⟨_,E,fz,U8 b E fz news _ w us g1 hle2,Qv hle2 g2,by simp;omega,?_,g5⟩
           exact V0o g4 hn (by omega) hle2 hFw
       ·cases h
    ·cases h
 ·cases h
theorem U2y {P:Program} {T:Tab} (hT:U2 P T) {R:Type} {K:Eff→Option R} {r:R} {c:Cx} {st:St} {a:Act} {w:World} {μ:Nat→Pl} {F:Nat→Prop} (hi:Inv c st a w μ F) {t tx:Nat} (ty:Nat) {kn:IntKind} {n:Int}
    (h:V0g T st.nx t tx n K=some r):∃ f,K f=some r∧Outc P c st a w (Builtin.append_ #[t,tx] ty #[.slice none 0 0,.int kn n]) f:=by
 unfold V0g at h
 split at h
 ·rename_i e ki hd hd2
  have ht:=Q2 hT hd (by simp)
  have ht2:=Q2 hT hd2 (by simp)
  simp only[Q3] at ht ht2
  split at h
  ·cases h
  ·rename_i row hrow
   split at h
   ·cases h
   ·rename_i τ hτ
    split at h
    ·rename_i hcond
     obtain⟨hsz,hpos⟩:=hcond
     obtain⟨hc,hK⟩:=Z4 h
     simp only[Bool.and_eq_true,decide_eq_true_eq] at hc
     obtain⟨h0,hfit⟩:=hc
     obtain⟨hb1,hb2⟩:=Q1w hfit
     obtain⟨i0,z,e1,e2,e3,e4,e5,e6,e7,e8⟩:=(hT e row hrow).info
     obtain⟨m,rfl⟩:=Int.eq_ofNat_of_zero_le h0
     rw[Int.toNat_natCast] at hb1 hb2 hK
     by_cases hm:m=0
     ·subst hm
      have:=U1a hi τ none
      have hrun:(Builtin.append_ #[t,tx] ty #[.slice none 0 0,.int kn ((0:Nat):Int)]).run P w=.ok (.slice none 0 0) w:=by
       simp[Builtin.append_,run_underlying ht,run_underlying ht2,sizeOf,typeInfo,zeroValue,e1,e4,asInt,asIntOf,IntKind.wrap_i64]
      exact⟨_,hK,_,_,_,F,hrun,this.1,this.2⟩
     ·have hrun:=Lib.run_append_nil_zeros (P:=P) w t tx ty e i0 z kn ki ht ht2 e1 e4 m (by omega) (by rw[e2];exact hpos) (by omega) (by rw[e3];omega)
      have hcap:=grownCap_ge w m 0 e
      generalize grownCap w m 0 e=cap at hrun hcap
      have hzl:z.cells.toList.length=τ.sz:=by simp[e5,hsz]
      have hlen:(Builtin.zeroCells z.cells m++Builtin.zeroCells z.cells (cap - m)).toList.length=cap * τ.sz:=by
       rw[Array.length_toList,Array.size_append,size_zeroCells,size_zeroCells,←Array.length_toList,hzl,←Nat.add_mul]
       congr 1
       omega
      have:=J0l hi (J0u w (.cells (Builtin.zeroCells z.cells m++Builtin.zeroCells z.cells (cap - m)) e)) (τ:=τ) (xs:=List.replicate m τ.dflt) (us:=(Builtin.zeroCells z.cells m++Builtin.zeroCells z.cells (cap - m)).toList) (E:=e) (fz:=(0,0)) (cap:=cap)
       (by rw[Z0r];omega) (by rw[Array.toArray_toList];exact U1d w _) (fun i _ h=>by simp at h) (by simpa using hcap) (by rw[hlen];exact Nat.le_refl _) (fun i x hx=>by
        obtain⟨hil,hix⟩:=List.getElem?_eq_some_iff.1 hx
        simp at hil hix
        subst hix
        refine⟨z.cells.toList,e8 τ hτ F _,hzl,fun j q hj=>?_⟩
        have hjl:j < z.cells.toList.length:=by obtain⟨h2,_⟩:=List.getElem?_eq_some_iff.1 hj;exact h2
        have hlt:i * τ.sz+j < m * τ.sz:=by
         have:(i+1) * τ.sz≤m * τ.sz:=Nat.mul_le_mul_right _ (by omega)
         rw[Nat.add_mul,Nat.one_mul] at this
         omega
        have hzr:=J13 z.cells.toList (m * z.cells.size) i j q (by omega) hj (by rw[←Array.length_toList,hzl];exact hlt)
        rw[hzl] at hzr
        rw[Array.toList_append,List.getElem?_append_left (by rw[Array.length_toList,size_zeroCells,←Array.length_toList,hzl];exact hlt)]
        simpa[Builtin.zeroCells] using hzr) (fun hu=>(hT e row hrow).byte (.inl (by rw[hτ,hu])))
      rw[List.length_replicate] at this
      exact⟨_,hK,_,_,_,F,hrun,this.1,this.2⟩
    ·cases h
 ·cases h
theorem U22 {P:Program} {T:Tab} (hT:U2 P T) {R:Type} {K:Eff→Option R} {r:R} {c:Cx} {st:St} {a:Act} {w:World} {μ:Nat→Pl} {F:Nat→Prop} (hi:Inv c st a w μ F) {t tx:Nat} (ty:Nat) {x y:AV} {v u:Value}
    (h:Xm T st.hp st.nx t tx x y K=some r) (hv:VRel μ F w x v) (hu:VRel μ F w y u):∃ f,K f=some r∧Outc P c st a w (Builtin.append_ #[t,tx] ty #[v,u]) f:=by
 unfold Xm at h
 split at h
 ·simp only[VRel] at hv hu
  subst hv hu
  exact U2y hT hi ty h
 ·exact Z1s hT hi ty h hv hu
mutual
theorem Zz:∀ (x:AV),x.kill []=x
 | .agg cs=>by simp only[AV.kill,Ju cs]
 | .tup cs=>by simp only[AV.kill,Ju cs]
 | .fn g cs=>by simp only[AV.kill,Ju cs]
 | .rptr _ _ _ _=>by simp only[AV.kill];rfl
 | .rowA _=>by simp only[AV.kill];rfl
 | .rowS _ _ _ _=>by simp only[AV.kill];rfl
 | .ptr _ _=>by simp only[AV.kill]
 | .mp _=>by simp only[AV.kill]
 | .psl _ _=>by simp only[AV.kill]
 | .int _ _=>by simp only[AV.kill]
 | .bool _=>by simp only[AV.kill]
 | .str _=>by simp only[AV.kill]
 | .list _ _=>by simp only[AV.kill]
 | .np=>by simp only[AV.kill]
 | .nm=>by simp only[AV.kill]
 | .nf=>by simp only[AV.kill]
 | .ns=>by simp only[AV.kill]
 | .lptr _ _ _ _=>by simp only[AV.kill]
 | .undef=>by simp only[AV.kill]
 | .dead=>by simp only[AV.kill]
theorem Ju:∀ (cs:List AV),AV.killL [] cs=cs
 | []=>by simp only[AV.killL]
 | c::cs=>by simp only[AV.killL,Zz c,Ju cs]
end
theorem Q6 {k:Nat}:∀ {ks:List Nat} {j i:Nat},J5 k ks j=some i→j≤i∧ks[i - j]?=some k
 | [],j,i,h=>by simp[J5] at h
 | x::xs,j,i,h=>by
   simp only[J5] at h
   cases hx:(x==k) with
   | true=>
     rw[hx] at h
     simp only[cond_true,Option.some.injEq] at h
     subst h
     have:x=k:=by simpa using hx
     subst this
     simp
   | false=>
     rw[hx] at h
     simp only[cond_false] at h
     obtain⟨h1,h2⟩:=Q6 h
     refine⟨by omega,?_⟩
     rw[show i - j=(i - (j+1))+1 by omega]
     simpa using h2
theorem X0i {k:Nat}:∀ {ks:List Nat} {j:Nat},J5 k ks j=none→k ∉ ks
 | [],_,_=>by simp
 | x::xs,j,h=>by
   simp only[J5] at h
   cases hx:(x==k) with
   | true=>rw[hx] at h;simp at h
   | false=>
     rw[hx] at h
     simp only[cond_false] at h
     have hne:x≠k:=by simpa using hx
     intro hm
     rcases List.mem_cons.1 hm with rfl | hm
     ·exact hne rfl
     ·exact X0i h hm
theorem X2x {k:Nat} {ks:List Nat} (h:k∈ks):∃ i,J5 k ks 0=some i:=by
 cases hp:J5 k ks 0 with
 | some i=>exact⟨i,rfl⟩
 | none=>exact absurd h (X0i hp)
theorem U3i {ks:List Nat} (hn:ks.Nodup) {i k:Nat} (h:ks[i]?=some k):J5 k ks 0=some i:=by
 obtain⟨j,hj⟩:=X2x (List.mem_of_getElem? h)
 obtain⟨_,h2⟩:=Q6 hj
 rw[hj]
 congr 1
 simp only[Nat.sub_zero] at h2
 obtain⟨a1,a2⟩:=List.getElem?_eq_some_iff.1 h
 obtain⟨b1,b2⟩:=List.getElem?_eq_some_iff.1 h2
 exact(List.getElem_inj hn).1 (b2.trans a2.symm)
theorem Q01 {hp:Nat→LObj} {Q:Nat→Prop} (hQ:∀ k,Q k→∀ j∈(hp k).refs,Q j):∀ (n:Nat) (work seen:List Nat),(∀ k∈work,Q k)→(∀ k∈seen,Q k)→∀ k∈U5 hp n work seen,Q k
 | 0,_,_,_,hs=>by simpa only[U5] using hs
 | n+1,[],_,_,hs=>by simpa only[U5] using hs
 | n+1,w::ws,seen,hw,hs=>by
   simp only[U5]
   cases hc:seen.contains w with
   | true=>exact Q01 hQ n ws seen (fun k hk=>hw k (by simp[hk])) hs
   | false=>
     refine Q01 hQ n _ _ (fun k hk=>?_) (fun k hk=>?_)
     ·rcases List.mem_append.1 hk with hk | hk
      ·exact hQ w (hw w (by simp)) k hk
      ·exact hw k (by simp[hk])
     ·rcases List.mem_append.1 hk with hk | hk
      ·exact hs k hk
      ·simp at hk;subst hk;exact hw _ (by simp)
theorem Qs {hp:Nat→LObj}:∀ (n:Nat) (work seen:List Nat),seen.Nodup→(U5 hp n work seen).Nodup
 | 0,_,_,h=>by simpa only[U5] using h
 | n+1,[],_,h=>by simpa only[U5] using h
 | n+1,w::ws,seen,h=>by
   simp only[U5]
   cases hc:seen.contains w with
   | true=>exact Qs n ws seen h
   | false=>
     refine Qs n _ _ ?_
     have hm:w ∉ seen:=by simpa using hc
     rw[List.nodup_append]
     exact⟨h,by simp,by intro x hx y hy;simp at hy;subst hy;rintro rfl;exact hm hx⟩
theorem Q00:∀ (os:List LObj) (i:Nat),ofHp os i=(os[i]?).getD .gone
 | [],i=>by simp[ofHp]
 | o::os,0=>by simp[ofHp]
 | o::os,i+1=>by simp[ofHp,Q00 os i]
mutual
theorem X13 {μ μ':Nat→Pl} {F F':Nat→Prop} {w w':World}:∀ {x:AV} {v:Value},x.plain=true→VRel μ F w x v→VRel μ' F' w' x v
 | .int _ _,_,_,h=>by simpa only[VRel] using h
 | .bool _,_,_,h=>by simpa only[VRel] using h
 | .str _,_,_,h=>by simpa only[VRel] using h
 | .np,_,_,h=>by simpa only[VRel] using h
 | .undef,_,_,h=>by simpa only[VRel] using h
 | .agg cs,_,hp,h=>by
   simp only[AV.plain] at hp
   simp only[VRel] at h ⊢
   obtain⟨us,rfl,h1,h2⟩:=h
   exact⟨us,rfl,Q07 hp h1,h2⟩
 | .tup cs,_,hp,h=>by
   simp only[AV.plain] at hp
   simp only[VRel] at h ⊢
   obtain⟨us,rfl,h1⟩:=h
   exact⟨us,rfl,Q07 hp h1⟩
 | .list _ _,_,h,_=>by simp[AV.plain] at h
 | .nm,_,h,_=>by simp[AV.plain] at h
 | .nf,_,h,_=>by simp[AV.plain] at h
 | .ns,_,h,_=>by simp[AV.plain] at h
 | .ptr _ _,_,h,_=>by simp[AV.plain] at h
 | .rptr _ _ _ _,_,h,_=>by simp[AV.plain] at h
 | .lptr _ _ _ _,_,h,_=>by simp[AV.plain] at h
 | .rowA _,_,h,_=>by simp[AV.plain] at h
 | .rowS _ _ _ _,_,h,_=>by simp[AV.plain] at h
 | .mp _,_,h,_=>by simp[AV.plain] at h
 | .psl _ _,_,h,_=>by simp[AV.plain] at h
 | .fn _ _,_,h,_=>by simp[AV.plain] at h
 | .dead,_,h,_=>by simp[AV.plain] at h
theorem Q07 {μ μ':Nat→Pl} {F F':Nat→Prop} {w w':World}:∀ {cs:List AV} {us:List Value},AV.plainL cs=true→U0 μ F w cs us→U0 μ' F' w' cs us
 | [],_,_,h=>by simpa only[U0] using h
 | c::cs,_,hp,h=>by
   simp only[AV.plainL,Bool.and_eq_true] at hp
   simp only[U0] at h ⊢
   obtain⟨u,us,rfl,h1,h2⟩:=h
   exact⟨u,us,rfl,X13 hp.1 h1,Q07 hp.2 h2⟩
end
def X0a (μ:Nat→Pl):Nat→Prop:=fun b=>∃ k,(μ k).own b
def Post (w:World) (μ:Nat→Pl) (F:Nat→Prop) (n0:Nat) (res:List AV) (objs':List LObj) (v:Value) (w':World):Prop:=
 ∃ μ' F',VRel μ' F' w' (Q8 res) v∧HInv w' (ofHp objs') objs'.length μ' F'∧Fr w (X0a μ) F w' F' μ'∧n0≤objs'.length ∧
   (∀ k b,k < n0→μ k=.box b→μ' k=.box b)∧(∀ k b,k < n0→(μ k).mapAt b→(μ' k).mapAt b)
def SemF (P:Program) (f:Nat) (args:List AV) (objs:List LObj) (res:List AV) (objs':List LObj):Prop:=
 (∃ fn, P.funcs[f]? = some fn ∧ fn.name ≠ "runtime.NumGoroutine" ∧ fn.body.isNone = false) ∧
 ∀ (w:World) (μ:Nat→Pl) (F:Nat→Prop) (vs:List Value),HInv w (ofHp objs) objs.length μ F→U0 μ F w args vs→
   Calls P f vs.toArray w fun e w'=>∃ v,e=.returned v∧Post w μ F objs.length res objs' v w'
def Qa (P:Program) (orc:Orc):Prop:=∀ f args objs res objs',(orc f args objs).get=some (res,objs')→SemF P f args objs res objs'
theorem Q2b (f:Nat→Option Nat) (vs:List AV):(Q8 vs).ren f=Q8 (AV.renL f vs):=by
 match vs with
 | []=>rfl
 | [v]=>rfl
 | a::b::r=>rfl
def Z7 (μ:Nat→Pl) (ks:List Nat):Nat→Pl:=fun i=>match ks[i]? with | some k=>μ k | none=>.none
def Zq (μ μ':Nat→Pl) (ks:List Nat) (nx:Nat):Nat→Pl:=fun k=>if k < nx then (match J5 k ks 0 with | some i=>μ' i | none=>μ k) else μ' (ks.length+(k - nx))
theorem Q0z {w:World} {hp:Nat→LObj} {nx:Nat} {μ:Nat→Pl} {F:Nat→Prop} (hi:HInv w hp nx μ F) {ks:List Nat} (hn:ks.Nodup) (hk:∀ k∈ks,k < nx) :
    HInv w (ofHp (ks.map fun k=>(hp k).ren fun k=>J5 k ks 0)) (ks.map fun k=>(hp k).ren fun k=>J5 k ks 0).length (Z7 μ ks) F:=by
 have hf:∀ k i,J5 k ks 0=some i→Z7 μ ks i=μ k:=fun k i h=>by
  obtain⟨_,h2⟩:=Q6 h
  simp only[Nat.sub_zero] at h2
  simp[Z7,h2]
 have hget:∀ i b,(Z7 μ ks i).own b→∃ k,ks[i]?=some k∧(μ k).own b:=fun i b h=>by
  unfold Z7 at h
  split at h
  ·rename_i k hk;exact⟨k,hk,h⟩
  ·cases h
 refine⟨fun i hi'=>?_,fun i hi'=>?_,fun i j b h1 h2=>?_,fun i b h=>?_,hi.inn⟩
 ·simp at hi'
  rw[Q00]
  simp only[List.getElem?_map,List.getElem?_eq_getElem hi',Option.map_some,Option.getD_some]
  have:Z7 μ ks i=μ ks[i]:=by simp[Z7,List.getElem?_eq_getElem hi']
  rw[this]
  exact Z0q hf (hi.obj _ (hk _ (List.getElem_mem hi')))
 ·simp at hi'
  simp[Z7,List.getElem?_eq_none hi']
 ·obtain⟨k,e1,e2⟩:=hget i b h1
  obtain⟨k',e3,e4⟩:=hget j b h2
  have:=hi.one k k' b e2 e4
  subst this
  obtain⟨a1,a2⟩:=List.getElem?_eq_some_iff.1 e1
  obtain⟨b1,b2⟩:=List.getElem?_eq_some_iff.1 e3
  exact(List.getElem_inj hn).1 (a2.trans b2.symm)
 ·obtain⟨k,e1,e2⟩:=hget i b h
  exact hi.out k b e2
theorem X00 {c:Cx} {st:St} {a:Act} {w w':World} {μ:Nat→Pl} {F:Nat→Prop} (hi:Inv c st a w μ F) {ks:List Nat} (hn:ks.Nodup) (hk:∀ k∈ks,k < st.nx∧μ k≠.none)
    {res:List AV} {objs':List LObj} {v:Value} (hp:Post w (Z7 μ ks) F ks.length res objs' v w') :
    ∃ μ' F',Inv c (st.apply (.call [] ks objs' res)).2 a w' μ' F'∧VRel μ' F' w' (st.apply (.call [] ks objs' res)).1 v:=by
 obtain⟨μ',F',hv,hh,hfr,hlen,hbx,hmp⟩:=hp
 have hsub:∀ k i,J5 k ks 0=some i→Z7 μ ks i=μ k:=fun k i h=>by
  obtain⟨_,h2⟩:=Q6 h
  simp only[Nat.sub_zero] at h2
  simp[Z7,h2]
 have hlt:∀ k i,J5 k ks 0=some i→i < ks.length:=fun k i h=>by
  obtain⟨_,h2⟩:=Q6 h
  obtain⟨h3,_⟩:=List.getElem?_eq_some_iff.1 h2
  simpa using h3
 have hfp:∀ b,X0a (Z7 μ ks) b→∃ k∈ks,(μ k).own b:=fun b ⟨i,h⟩=>by
  unfold Z7 at h
  split at h
  ·rename_i k hk';exact⟨k,List.mem_of_getElem? hk',h⟩
  ·cases h
 have hold:∀ k,k < st.nx→J5 k ks 0=none→Zq μ μ' ks st.nx k=μ k:=fun k h1 h2=>by simp[Zq,h1,h2]
 have hkey:∀ k i,k < st.nx→J5 k ks 0=some i→Zq μ μ' ks st.nx k=μ' i:=fun k i h1 h2=>by simp[Zq,h1,h2]
 have hnew:∀ j,Zq μ μ' ks st.nx (st.nx+j)=μ' (ks.length+j):=fun j=>by
  have h1:¬ (st.nx+j < st.nx):=by omega
  simp only[Zq,h1,if_false]
  congr 1
  omega
 have hback:∀ i k,V6 ks st.nx i=some k→Zq μ μ' ks st.nx k=μ' i:=fun i k h=>by
  unfold V6 at h
  cases hb:Nat.blt i ks.length with
  | true=>
    rw[hb] at h
    simp only[cond_true] at h
    exact hkey k i (hk k (List.mem_of_getElem? h)).1 (U3i hn h)
  | false=>
    rw[hb] at h
    simp only[cond_false,Option.some.injEq] at h
    have hge:ks.length≤i:=by
     rcases Nat.lt_or_ge i ks.length with h1 | h1
     ·rw[show Nat.blt i ks.length=true by simpa using h1] at hb;cases hb
     ·exact h1
    subst h
    rw[hnew]
    congr 1
    omega
 have hFw:∀ b,F b→w'.heap[b]?=w.heap[b]?:=fun b hb=>hfr.keep b (hi.h.inn b hb) (fun h=>by
  obtain⟨k,_,h2⟩:=hfp b h
  exact(hi.h.out k b h2).1 hb)
 have hobj:∀ k,k∈ks→ORel μ F w (st.hp k) (μ k):=fun k h=>hi.h.obj k (hk k h).1
 have hμ:∀ k,(V1 st.hp ks).contains k=false→(μ k).isRow→Zq μ μ' ks st.nx k=μ k:=fun k h1 h2=>by
  have hkn:k < st.nx:=X3 hi.h (by intro e;rw[e] at h2;exact h2)
  cases hp:J5 k ks 0 with
  | none=>exact hold k hkn hp
  | some i=>
    rw[hkey k i hkn hp]
    have hmem:k∈ks:=by obtain⟨_,h3⟩:=Q6 hp;exact List.mem_of_getElem? h3
    have ho:=hobj k hmem
    cases hm:μ k with
    | none=>rw[hm] at h2;exact h2.elim
    | box b=>rw[hm] at h2;exact h2.elim
    | map b=>rw[hm] at h2;exact h2.elim
    | mapb b cks=>rw[hm] at h2;exact h2.elim
    | row al l cp sz=>
      exfalso
      rw[hm] at ho
      obtain⟨t,xs,hrow,_⟩:=Jl ho
      have:k∈V1 st.hp ks:=by
       have:∀ (l:List Nat),k∈l→k∈V1 st.hp l:=by
        intro l
        induction l with
        | nil=>simp
        | cons x l ih=>
          intro h
          simp only[V1]
          rcases List.mem_cons.1 h with rfl | h
          ·rw[hrow];simp
          ·split
           ·exact List.mem_cons_of_mem _ (ih h)
           ·exact ih h
       exact this ks hmem
      simp[this] at h1
 have hb:∀ k b,μ k=.box b→Zq μ μ' ks st.nx k=.box b:=fun k b h=>by
  have hkn:k < st.nx:=X3 hi.h (by rw[h];simp)
  cases hp:J5 k ks 0 with
  | none=>rw[hold k hkn hp];exact h
  | some i=>rw[hkey k i hkn hp];exact hbx i b (hlt k i hp) (by rw[hsub k i hp];exact h)
 have hm:∀ k b,(μ k).mapAt b→(Zq μ μ' ks st.nx k).mapAt b:=fun k b h=>by
  have hkn:k < st.nx:=X3 hi.h (Pl.mapAt_ne h)
  cases hp:J5 k ks 0 with
  | none=>rw[hold k hkn hp];exact h
  | some i=>rw[hkey k i hkn hp];exact hmp i b (hlt k i hp) (by rw[hsub k i hp];exact h)
 have hown:∀ k b,(Zq μ μ' ks st.nx k).own b→(k < st.nx∧J5 k ks 0=none∧(μ k).own b)∨(∃ i,(μ' i).own b∧V6 ks st.nx i=some k):=fun k b h=>by
  by_cases hkn:k < st.nx
  ·cases hp:J5 k ks 0 with
   | none=>rw[hold k hkn hp] at h;exact .inl ⟨hkn,rfl,h⟩
   | some i=>
     rw[hkey k i hkn hp] at h
     refine .inr ⟨i,h,?_⟩
     have hil:=hlt k i hp
     obtain⟨_,h3⟩:=Q6 hp
     simp only[V6,show Nat.blt i ks.length=true by simpa using hil,cond_true]
     simpa using h3
  ·obtain⟨j,rfl⟩:∃ j,k=st.nx+j:=⟨k - st.nx,by omega⟩
   rw[hnew] at h
   refine .inr ⟨ks.length+j,h,?_⟩
   have:Nat.blt (ks.length+j) ks.length=false:=by
    cases hb:Nat.blt (ks.length+j) ks.length with
    | false=>rfl
    | true=>have:ks.length+j < ks.length:=by simpa using hb
            omega
   simp[V6,this]
 have hfar:∀ k b,k < st.nx→J5 k ks 0=none→(μ k).own b→¬ X0a (Z7 μ ks) b:=fun k b h1 h2 h3 h4=>by
  obtain⟨k',hk',h5⟩:=hfp b h4
  have:=hi.h.one k k' b h3 h5
  subst this
  exact X0i h2 hk'
 have hcallee:∀ i b,(μ' i).own b→X0a (Z7 μ ks) b∨w.heap.size≤b:=fun i b h=>hfr.newO i b h
 have hkept:∀ k b,k < st.nx→J5 k ks 0=none→(μ k).own b→w'.heap[b]?=w.heap[b]?:=fun k b h1 h2 h3=>hfr.keep b (hi.h.out k b h3).2 (hfar k b h1 h2 h3)
 have hlen2:((objs'.drop ks.length).map (LObj.ren (V6 ks st.nx))).length=objs'.length - ks.length:=by simp
 refine⟨Zq μ μ' ks st.nx,F',?_,?_⟩
 ·
  have main:∀ (st2:St),st2.nx=st.nx→(∀ t,∃ x,st.tm t=x∧(st2.tm t=x.kill (V1 st.hp ks)∨(ks=[]∧st2.tm t=x)))→
      (∀ k,k < st.nx→(∀ i,J5 k ks 0=some i→st2.hp k=(ofHp objs' i).ren (V6 ks st.nx))∧(J5 k ks 0=none→st2.hp k=(st.hp k).kill (V1 st.hp ks)∨(ks=[]∧st2.hp k=st.hp k)))→
      Inv c (st2.news ((objs'.drop ks.length).map (LObj.ren (V6 ks st.nx)))) a w' (Zq μ μ' ks st.nx) F':=by
   intro st2 hnx htm hhp
   refine⟨⟨fun k hk2=>?_,fun k hk2=>?_,fun k k' b h1 h2=>?_,fun k b h=>?_,hh.inn⟩,?_,fun k b h1 h2=>hb k b (hi.idb k b h1 h2),fun k b h1 h2=>hm k b (hi.idm k b h1 h2),?_,fun t=>?_,hi.sz,hi.df⟩
   ·rw[U7,hlen2,hnx] at hk2
    by_cases hkn:k < st.nx
    ·rw[Ve _ _ k (by omega)]
     obtain⟨g1,g2⟩:=hhp k hkn
     cases hp:J5 k ks 0 with
     | some i=>
       rw[g1 i hp,hkey k i hkn hp]
       exact Z0q hback (hh.obj i (by have:=hlt k i hp;omega))
     | none=>
       rw[hold k hkn hp]
       have ho:=hi.h.obj k hkn
       have hkb:∀ b,(μ k).own b→w'.heap[b]?=w.heap[b]?:=fun b h=>hkept k b hkn hp h
       rcases g2 hp with g | ⟨hks,g⟩
       ·rw[g];exact V0q hfr.old hFw hμ hb hm hkb ho
       ·rw[g]
        subst hks
        exact Z8 hfr.old hFw hkb (fun j hj=>hold j (X3 hi.h (Va ho j hj)) rfl) ho
    ·obtain⟨j,rfl⟩:∃ j,k=st.nx+j:=⟨k - st.nx,by omega⟩
     have hj:ks.length+j < objs'.length:=by omega
     have hat:=Z0d ((objs'.drop ks.length).map (LObj.ren (V6 ks st.nx))) st2 j ((ofHp objs' (ks.length+j)).ren (V6 ks st.nx)) (by
      rw[List.getElem?_map,List.getElem?_drop,List.getElem?_eq_getElem hj,Q00,List.getElem?_eq_getElem hj]
      rfl)
     rw[hnx] at hat
     rw[hat,hnew]
     exact Z0q hback (hh.obj _ hj)
   ·rw[U7,hlen2,hnx] at hk2
    obtain⟨j,rfl⟩:∃ j,k=st.nx+j:=⟨k - st.nx,by omega⟩
    rw[hnew]
    exact hh.top _ (by omega)
   ·rcases hown k b h1 with ⟨a1,a2,a3⟩ | ⟨i,a1,a2⟩<;>rcases hown k' b h2 with ⟨b1,b2,b3⟩ | ⟨j,b1,b2⟩
    ·exact hi.h.one k k' b a3 b3
    ·rcases hcallee j b b1 with h | h
     ·exact absurd h (hfar k b a1 a2 a3)
     ·have:=(hi.h.out k b a3).2;omega
    ·rcases hcallee i b a1 with h | h
     ·exact absurd h (hfar k' b b1 b2 b3)
     ·have:=(hi.h.out k' b b3).2;omega
    ·have:=hh.one i j b a1 b1
     subst this
     rw[a2] at b2
     exact Option.some.inj b2
   ·rcases hown k b h with ⟨a1,a2,a3⟩ | ⟨i,a1,a2⟩
    ·refine⟨fun hF=>?_,Nat.lt_of_lt_of_le (hi.h.out k b a3).2 hfr.size⟩
     rcases hfr.newF b hF with h1 | h1 | h1
     ·exact(hi.h.out k b a3).1 h1
     ·exact hfar k b a1 a2 a3 h1
     ·have:=(hi.h.out k b a3).2;omega
    ·exact hh.out i b a1
   ·refine⟨hfr.os.trans hi.fr.os,hfr.tape.trans hi.fr.tape,hfr.output.trans hi.fr.output,Nat.le_trans hi.fr.size hfr.size,fun b h1 h2=>?_,fun b h=>hfr.old b (hi.fr.old b h),fun b h=>?_,fun k b h=>?_⟩
    ·rw[hfr.keep b (Nat.lt_of_lt_of_le h1 hi.fr.size) (fun h3=>?_)]
     ·exact hi.fr.keep b h1 h2
     ·obtain⟨k',_,h4⟩:=hfp b h3
      rcases hi.fr.newO k' b h4 with h5 | h5
      ·exact h2 h5
      ·omega
    ·rcases hfr.newF b h with h1 | h1 | h1
     ·exact hi.fr.newF b h1
     ·obtain⟨k',_,h4⟩:=hfp b h1
      rcases hi.fr.newO k' b h4 with h5 | h5
      ·exact .inr (.inl h5)
      ·exact .inr (.inr h5)
     ·exact .inr (.inr (Nat.le_trans hi.fr.size h1))
    ·rcases hown k b h with ⟨a1,a2,a3⟩ | ⟨i,a1,a2⟩
     ·exact hi.fr.newO k b a3
     ·rcases hcallee i b a1 with h1 | h1
      ·obtain⟨k',_,h4⟩:=hfp b h1
       exact hi.fr.newO k' b h4
      ·exact .inr (Nat.le_trans hi.fr.size h1)
   ·rw[U7,hnx]
    exact Nat.le_trans hi.n0 (Nat.le_add_right _ _)
   ·rw[Xx]
    obtain⟨x,hx,h⟩:=htm t
    have ht:=hi.tm t
    rw[hx] at ht
    rcases h with h | ⟨hks,h⟩
    ·rw[h];exact U02 hfr.old hFw hμ hb hm ht
    ·rw[h]
     subst hks
     exact Uk hfr.old hFw (fun j hj=>hold j (X3 hi.h (Je ht j hj)) rfl) ht
  simp only[St.apply]
  cases ks with
  | nil=>exact main st rfl (fun t=>⟨_,rfl,.inr ⟨rfl,rfl⟩⟩) (fun k _=>⟨fun i h=>by simp[J5] at h,fun _=>.inr ⟨rfl,rfl⟩⟩)
  | cons k0 ks=>exact main _ rfl (fun t=>⟨_,rfl,.inl rfl⟩) (fun k _=>⟨fun i h=>by simp only[h],fun h=>.inl (by simp only[h])⟩)
 ·simp only[St.apply]
  rw[←Q2b]
  exact Q09 hback hv
mutual
theorem Z1l {μ:Nat→Pl} {F F':Nat→Prop} {w w':World}:∀ {x:AV} {v:Value},x.thin=true→VRel μ F w x v→VRel μ F' w' x v
 | .int _ _,_,_,h=>by simpa only[VRel] using h
 | .bool _,_,_,h=>by simpa only[VRel] using h
 | .str _,_,_,h=>by simpa only[VRel] using h
 | .np,_,_,h=>by simpa only[VRel] using h
 | .undef,_,_,h=>by simpa only[VRel] using h
 | .nm,_,_,h=>by simpa only[VRel] using h
 | .nf,_,_,h=>by simpa only[VRel] using h
 | .ns,_,_,h=>by simpa only[VRel] using h
 | .ptr _ _,_,_,h=>by simpa only[VRel] using h
 | .rptr _ _ _ _,_,_,h=>by simpa only[VRel] using h
 | .rowA _,_,_,h=>by simpa only[VRel] using h
 | .rowS _ _ _ _,_,_,h=>by simpa only[VRel] using h
 | .mp _,_,_,h=>by simpa only[VRel] using h
 | .psl _ _,_,_,h=>by simpa only[VRel] using h
 | .dead,_,_,h=>by simp only[VRel]
 | .agg cs,_,hp,h=>by
   simp only[AV.thin] at hp
   simp only[VRel] at h ⊢
   obtain⟨us,rfl,h1,h2⟩:=h
   exact⟨us,rfl,Vv hp h1,h2⟩
 | .tup cs,_,hp,h=>by
   simp only[AV.thin] at hp
   simp only[VRel] at h ⊢
   obtain⟨us,rfl,h1⟩:=h
   exact⟨us,rfl,Vv hp h1⟩
 | .fn _ cs,_,hp,h=>by
   simp only[AV.thin] at hp
   simp only[VRel] at h ⊢
   obtain⟨us,rfl,h1⟩:=h
   exact⟨us,rfl,Vv hp h1⟩
 | .list _ _,_,h,_=>by simp[AV.thin] at h
 | .lptr _ _ _ _,_,h,_=>by simp[AV.thin] at h
theorem Vv {μ:Nat→Pl} {F F':Nat→Prop} {w w':World}:∀ {cs:List AV} {us:List Value},AV.thinL cs=true→U0 μ F w cs us→U0 μ F' w' cs us
 | [],_,_,h=>by simpa only[U0] using h
 | c::cs,_,hp,h=>by
   simp only[AV.thinL,Bool.and_eq_true] at hp
   simp only[U0] at h ⊢
   obtain⟨u,us,rfl,h1,h2⟩:=h
   exact⟨u,us,rfl,Z1l hp.1 h1,Vv hp.2 h2⟩
end
theorem Z09 {F F':Nat→Prop} {w w':World}:∀ {t:Ty} {x:t.den} {vs:List Value},t.flatTy=true→Enc F w t x vs→Enc F' w' t x vs
 | .int _,_,_,_,h=>by simpa only[Enc] using h
 | .bool,_,_,_,h=>by simpa only[Enc] using h
 | .str,_,_,_,h=>by simpa only[Enc] using h
 | .unit,_,_,_,h=>by simpa only[Enc] using h
 | .list _,_,_,ht,_=>by simp[Ty.flatTy] at ht
 | .pair a b,x,_,ht,h=>by
   simp only[Ty.flatTy,Bool.and_eq_true] at ht
   simp only[Enc] at h ⊢
   obtain⟨us,us',rfl,h1,h2⟩:=h
   exact⟨us,us',rfl,Z09 ht.1 h1,Z09 ht.2 h2⟩
theorem V1m {F F':Nat→Prop} {w w':World} {kt vt:Ty} (hk:kt.flatTy=true) (hv:vt.flatTy=true):∀ {es:List (kt.den×vt.den)} {ms:List MapEntry},MRel F w kt vt es ms→MRel F' w' kt vt es ms
 | [],_,h=>h
 | e::es,_,⟨m,r,h1,h2,h3,h4⟩=>⟨m,r,h1,Z09 hk h2,Z09 hv h3,V1m hk hv h4⟩
theorem Z1h {μ:Nat→Pl} {F F':Nat→Prop} {w:World} {o:LObj} {p:Pl} (ho:o.thin=true) (h:ORel μ F w o p):ORel μ F' w o p:=by
 cases o with
 | boxT g cs=>
   cases p<;>simp only[ORel] at h ⊢
   obtain⟨us,E,fz,h1,h2,h3,h4⟩:=h
   exact⟨us,E,fz,h1,h2,Vv ho h3,h4⟩
 | row t xs=>
   cases p<;>simp only[ORel] at h ⊢
   obtain⟨h1,h2,h3,h4,h5⟩:=h
   refine⟨h1,h2,h3,h4,fun b o ha hc=>?_⟩
   obtain⟨us,E,fz,e1,e2,e3,e4,e5⟩:=h5 b o ha hc
   refine⟨us,E,fz,e1,e2,e3,fun i x hx=>?_,e5⟩
   obtain⟨vs,f1,f2,f3⟩:=e4 i x hx
   exact⟨vs,Z09 ho f1,f2,f3⟩
 | mpo kt vt es=>
   cases p<;>simp only[ORel] at h ⊢
   obtain⟨ms,cl,h1,h2⟩:=h
   simp only[LObj.thin,Bool.and_eq_true] at ho
   exact⟨ms,cl,h1,V1m ho.1 ho.2 h2⟩
 | mpb kt ki t es foc=>simp[LObj.thin] at ho
 | gone=>simp[LObj.thin] at ho
theorem X22 {vs:List AV} (h:AV.thinL vs=true):(Q8 vs).thin=true:=by
 match vs with
 | []=>rfl
 | [v]=>simp only[AV.thinL,Bool.and_eq_true] at h;exact h.1
 | a::b::r=>simpa[Q8,AV.thin] using h
theorem Q0q {w:World} {F F1:Nat→Prop} (hF:∀ b,F b→F1 b) {res:List AV} {objs':List LObj} {v:Value} {w':World} (hr:AV.thinL res=true) (ho:objs'.all LObj.thin=true)
    (hin:∀ b,F b→b < w.heap.size) {μ0:Nat→Pl} {n0:Nat} (h:Post w μ0 F1 n0 res objs' v w'):Post w μ0 F n0 res objs' v w':=by
 obtain⟨μ',F',h1,h2,h3,h4,h5,h6⟩:=h
 refine⟨μ',F,Z1l (X22 hr) h1,⟨fun k hk=>?_,h2.top,h2.one,fun k b hb=>⟨fun hf=>(h2.out k b hb).1 (h3.old b (hF b hf)),(h2.out k b hb).2⟩,fun b hb=>Nat.lt_of_lt_of_le (hin b hb) h3.size⟩,
  ⟨h3.os,h3.tape,h3.output,h3.size,h3.keep,fun _ h=>h,fun _ h=>.inl h,h3.newO⟩,h4,h5,h6⟩
 refine Z1h ?_ (h2.obj k hk)
 rw[Q00,List.getElem?_eq_getElem hk,Option.getD_some]
 exact List.all_eq_true.1 ho _ (List.getElem_mem hk)
mutual
theorem V3l {hp:Nat→LObj} {ks:List Nat}:∀ {x:AV} {k:Nat},k∈(x.frz hp ks).refs→k∈x.refs
 | .agg cs,k,h=>by simp only[AV.frz,AV.refs] at h ⊢;exact U00 h
 | .tup cs,k,h=>by simp only[AV.frz,AV.refs] at h ⊢;exact U00 h
 | .fn f cs,k,h=>by simp only[AV.frz,AV.refs] at h ⊢;exact U00 h
 | .rptr k' t i off,k,h=>by
   simp only[AV.frz] at h
   cases hc:ks.contains k' with
   | true=>rw[hc] at h;simp[AV.refs] at h
   | false=>rw[hc] at h;simpa using h
 | .rowA k',k,h=>by
   simp only[AV.frz] at h
   cases hc:ks.contains k' with
   | true=>rw[hc] at h;simp only[cond_true] at h;split at h<;>simp[AV.refs] at h
   | false=>rw[hc] at h;simpa using h
 | .rowS k' off n c,k,h=>by
   simp only[AV.frz] at h
   cases hc:ks.contains k' with
   | true=>rw[hc] at h;simp only[cond_true] at h;split at h<;>simp[AV.refs] at h
   | false=>rw[hc] at h;simpa using h
 | .ptr _ _,k,h=>by simpa only[AV.frz] using h
 | .mp _,k,h=>by simpa only[AV.frz] using h
 | .psl _ _,k,h=>by simpa only[AV.frz] using h
 | .int _ _,k,h=>by simpa only[AV.frz] using h
 | .bool _,k,h=>by simpa only[AV.frz] using h
 | .str _,k,h=>by simpa only[AV.frz] using h
 | .list _ _,k,h=>by simpa only[AV.frz] using h
 | .np,k,h=>by simpa only[AV.frz] using h
 | .nm,k,h=>by simpa only[AV.frz] using h
 | .nf,k,h=>by simpa only[AV.frz] using h
 | .ns,k,h=>by simpa only[AV.frz] using h
 | .lptr _ _ _ _,k,h=>by simpa only[AV.frz] using h
 | .undef,k,h=>by simpa only[AV.frz] using h
 | .dead,k,h=>by simpa only[AV.frz] using h
theorem U00 {hp:Nat→LObj} {ks:List Nat}:∀ {cs:List AV} {k:Nat},k∈AV.refsL (AV.frzL hp ks cs)→k∈AV.refsL cs
 | [],k,h=>by simpa only[AV.frzL] using h
 | c::cs,k,h=>by
   simp only[AV.frzL,AV.refsL,List.mem_append] at h ⊢
   rcases h with h | h
   ·exact .inl (V3l h)
   ·exact .inr (U00 h)
end
theorem Q0m {c:Cx} {st:St} {a:Act} {w:World} {μ:Nat→Pl} {F:Nat→Prop} (hi:Inv c st a w μ F) {ks:List Nat} (hks:∀ k,ks.contains k=true→k < st.nx∧∃ al l cp sz,μ k=.row al l cp sz) :
    ∀ {xs:List AV} {us:List Value},U0 μ F w xs us→U0 (Jf μ ks) (frzF μ F ks) w (AV.frzL st.hp ks xs) us
 | [],_,h=>by simpa only[AV.frzL,U0] using h
 | x::xs,_,h=>by
   simp only[U0] at h
   obtain⟨u,us,rfl,h1,h2⟩:=h
   simp only[AV.frzL,U0]
   exact⟨u,us,rfl,J0z hi hks h1,Q0m hi hks h2⟩
def Q0r (P:Program) (c:Cx) (st:St) (a:Act) (w:World) (o:Oper) (f:Eff):Prop:=
 ∀ (next:Act→World→Prop) (Q:Exit→Act→World→Prop),(∀ v w' μ' F',Inv c (st.apply f).2 a w' μ' F'→VRel μ' F' w' (st.apply f).1 v→next (a.put o.dst v) w')→o.wp P a w next Q
theorem V2 {P:Program} {c:Cx} {st:St} {a:Act} {w:World} {o:Oper} {s:Sem Value} {f:Eff} (h:Outc P c st a w s f)
    (he:∀ v w',s.run P w=.ok v w'→(execOp a.eval o).run P w=.ok (.value v) w'):Q0r P c st a w o f:=by
 intro next Q hn
 obtain⟨v,w',μ',F',h1,h2,h3⟩:=h
 unfold Oper.wp
 rw[he v w' h1]
 simp only[Oper.upon]
 exact hn v w' μ' F' h2 h3
theorem Qd {P:Program} {c:Cx} {st:St} {a:Act} {w:World} {o:Oper} {f:Nat} {vs:List Value} {e:Eff} (hrun:(execOp a.eval o).run P w=.ok (.enter f vs.toArray) w)
    (h:Calls P f vs.toArray w fun x w'=>∃ v,x=.returned v∧∃ μ' F',Inv c (st.apply e).2 a w' μ' F'∧VRel μ' F' w' (st.apply e).1 v):Q0r P c st a w o e:=by
 intro next Q hn
 unfold Oper.wp
 rw[hrun]
 simp only[Oper.upon]
 refine h.mono fun x w' hx=>?_
 obtain⟨v,rfl,μ',F',h1,h2⟩:=hx
 exact hn v w' μ' F' h1 h2
theorem V1r {vs:List AV} (h:AV.plainL vs=true):(Q8 vs).plain=true:=by
 match vs with
 | []=>rfl
 | [v]=>simp only[AV.plainL,Bool.and_eq_true] at h;exact h.1
 | a::b::r=>simpa[Q8,AV.plain] using h
mutual
theorem Q2c (f:Nat→Option Nat):∀ (x:AV),x.refs=[]→x.ren f=x
 | .agg cs,h=>by simp only[AV.refs] at h;simp only[AV.ren,Zs f cs h]
 | .tup cs,h=>by simp only[AV.refs] at h;simp only[AV.ren,Zs f cs h]
 | .fn g cs,h=>by simp only[AV.refs] at h;simp only[AV.ren,Zs f cs h]
 | .ptr _ _,h=>by simp[AV.refs] at h
 | .rptr _ _ _ _,h=>by simp[AV.refs] at h
 | .rowA _,h=>by simp[AV.refs] at h
 | .rowS _ _ _ _,h=>by simp[AV.refs] at h
 | .mp _,h=>by simp[AV.refs] at h
 | .psl _ _,h=>by simp[AV.refs] at h
 | .int _ _,_=>by simp only[AV.ren]
 | .bool _,_=>by simp only[AV.ren]
 | .str _,_=>by simp only[AV.ren]
 | .list _ _,_=>by simp only[AV.ren]
 | .np,_=>by simp only[AV.ren]
 | .nm,_=>by simp only[AV.ren]
 | .nf,_=>by simp only[AV.ren]
 | .ns,_=>by simp only[AV.ren]
 | .lptr _ _ _ _,_=>by simp only[AV.ren]
 | .undef,_=>by simp only[AV.ren]
 | .dead,_=>by simp only[AV.ren]
theorem Zs (f:Nat→Option Nat):∀ (cs:List AV),AV.refsL cs=[]→AV.renL f cs=cs
 | [],_=>by simp only[AV.renL]
 | c::cs,h=>by
   simp only[AV.refsL,List.append_eq_nil_iff] at h
   simp only[AV.renL,Q2c f c h.1,Zs f cs h.2]
end
theorem Z3i {c:Cx} {st:St} {a:Act} {w w':World} {μ:Nat→Pl} {F F':Nat→Prop} (hi:Inv c st a w μ F) (hg:Grew w w') (hF:∀ b,F b→F' b) (hn:∀ b,F' b→F b∨(w.heap.size≤b∧b < w'.heap.size)):Inv c st a w' μ F':=by
 have hFw:∀ b,F b→w'.heap[b]?=w.heap[b]?:=fun b hb=>hg.block b (hi.h.inn b hb)
 refine⟨⟨fun k hk=>Z8 hF hFw (fun b hb=>hg.block b (hi.h.out k b hb).2) (fun _ _=>rfl) (hi.h.obj k hk),hi.h.top,hi.h.one,fun k b hk=>⟨fun hb=>?_,Nat.lt_of_lt_of_le (hi.h.out k b hk).2 hg.size⟩,fun b hb=>?_⟩,?_,hi.idb,hi.idm,hi.n0,fun t=>Uk hF hFw (fun _ _=>rfl) (hi.tm t),hi.sz,hi.df⟩
 ·rcases hn b hb with h | h
  ·exact(hi.h.out k b hk).1 h
  ·have:=(hi.h.out k b hk).2;omega
 ·rcases hn b hb with h | h
  ·exact Nat.lt_of_lt_of_le (hi.h.inn b h) hg.size
  ·exact h.2
 ·refine⟨hg.os.trans hi.fr.os,hg.tape.trans hi.fr.tape,hg.output.trans hi.fr.output,Nat.le_trans hi.fr.size hg.size,fun b hb hnb=>?_,fun b hb=>hF b (hi.fr.old b hb),fun b hb=>?_,hi.fr.newO⟩
  ·rw[hg.block b (Nat.lt_of_lt_of_le hb hi.fr.size)];exact hi.fr.keep b hb hnb
  ·rcases hn b hb with h | h
   ·exact hi.fr.newF b h
   ·exact .inr (.inr (Nat.le_trans hi.fr.size h.1))
theorem U3h {c:Cx} {st:St} {a:Act} {w w':World} {μ:Nat→Pl} {F:Nat→Prop} (hi:Inv c st a w μ F) {t:Ty} {ys:List t.den} {v:Value} {n0:Nat} (hp:Post w (fun _=>.none) F n0 [.rowA 0] [.row t ys] v w') (ht:(LObj.row t ys).thin=true) :
    ∃ F',Inv c st a w' μ F'∧VRel μ F' w' (.list t ys) v:=by
 obtain⟨μ',F1,h1,h2,h3,_⟩:=hp
 have hnone:∀ b,¬ X0a (fun _=>Pl.none) b:=fun b ⟨k,h⟩=>by simp[Pl.own] at h
 have hg:Grew w w':=⟨h3.os,h3.tape,h3.output,h3.size,fun b hb=>h3.keep b hb (hnone b)⟩
 simp only[Q8] at h1
 have h1':=h1
 simp only[VRel] at h1'
 obtain⟨al,len,cap,sz,A,hμ0,_,_⟩:=h1'
 have ho:ORel μ' F1 w' (.row t ys) (μ' 0):=h2.obj 0 (by simp)
 have ho':ORel μ' F w' (.row t ys) (μ' 0):=Z1h ht ho
 have h1F:VRel μ' F w' (.rowA 0) v:=by simp only[VRel] at h1 ⊢;exact h1
 refine⟨fun b=>F b∨(μ' 0).own b,Z3i hi hg (fun b h=>.inl h) (fun b h=>h.imp id fun h=>⟨(h3.newO 0 b h).resolve_left (hnone b),(h2.out 0 b h).2⟩),?_⟩
 have hrow:∀ k,[0].contains k=true→k=0:=fun k hk=>by simpa using hk
 have hne:∀ k,k≠0→(if k=0 then Pl.none else μ' k)=μ' k:=fun k h=>if_neg h
 have:=Z0b (μ:=μ') (μ':=fun j=>if j=0 then .none else μ' j) (F:=F) (F':=fun b=>F b∨(μ' 0).own b) (w:=w') (hp:=ofHp [.row t ys]) (ks:=[0]) (fun b h=>.inl h)
  (fun k hk=>by rw[hrow k hk];exact ho') (fun k b hk h=>by rw[hrow k hk] at h;exact .inr h) (fun k hk=>hne k (by rintro rfl;simp at hk))
  (fun k b hk=>by rw[hne k (by rintro rfl;rw[hμ0] at hk;cases hk)];exact hk) (fun k b hk=>by rw[hne k (by rintro rfl;rw[hμ0] at hk;exact hk)];exact hk) h1F
 have e:(AV.rowA 0).frz (ofHp [.row t ys]) [0]=.list t ys:=by simp[AV.frz,ofHp]
 rw[e] at this
 simp only[VRel] at this ⊢
 exact this
mutual
theorem J1p {hp:Nat→LObj} {ks:List Nat}:∀ (x:AV),(∀ k∈x.refs,ks.contains k=false)→x.frz hp ks=x
 | .agg cs,h=>by simp only[AV.refs] at h;simp only[AV.frz,Z08 cs h]
 | .tup cs,h=>by simp only[AV.refs] at h;simp only[AV.frz,Z08 cs h]
 | .fn g cs,h=>by simp only[AV.refs] at h;simp only[AV.frz,Z08 cs h]
 | .rptr k t i off,h=>by simp only[AV.frz,h k (by simp[AV.refs]),cond_false]
 | .rowA k,h=>by simp only[AV.frz,h k (by simp[AV.refs]),cond_false]
 | .rowS k off len c,h=>by simp only[AV.frz,h k (by simp[AV.refs]),cond_false]
 | .int _ _,_=>by simp only[AV.frz]
 | .bool _,_=>by simp only[AV.frz]
 | .str _,_=>by simp only[AV.frz]
 | .list _ _,_=>by simp only[AV.frz]
 | .np,_=>by simp only[AV.frz]
 | .nm,_=>by simp only[AV.frz]
 | .nf,_=>by simp only[AV.frz]
 | .ns,_=>by simp only[AV.frz]
 | .ptr _ _,_=>by simp only[AV.frz]
 | .lptr _ _ _ _,_=>by simp only[AV.frz]
 | .mp _,_=>by simp only[AV.frz]
 | .psl _ _,_=>by simp only[AV.frz]
 | .undef,_=>by simp only[AV.frz]
 | .dead,_=>by simp only[AV.frz]
theorem Z08 {hp:Nat→LObj} {ks:List Nat}:∀ (cs:List AV),(∀ k∈AV.refsL cs,ks.contains k=false)→AV.frzL hp ks cs=cs
 | [],_=>by simp only[AV.frzL]
 | c::cs,h=>by
   simp only[AV.refsL,List.mem_append] at h
   simp only[AV.frzL,J1p c (fun k hk=>h k (.inl hk)),Z08 cs (fun k hk=>h k (.inr hk))]
end
theorem X3m {hp:Nat→LObj} {ks:List Nat} {o:LObj} (h:∀ k∈o.refs,ks.contains k=false):o.frz hp ks=o:=by
 cases o with
 | boxT g cs=>simp only[LObj.refs] at h;simp only[LObj.frz,Z08 cs h]
 | row t xs=>rfl
 | mpo kt vt es=>rfl
 | mpb kt ki t es foc=>
   cases foc with
   | none=>rfl
   | some q=>simp only[LObj.frz,focR,J1p q.2 h]
 | gone=>rfl
theorem X33 {c:Cx} {st:St} {a:Act} {w w':World} {μ μ':Nat→Pl} {F F':Nat→Prop} (hi:Inv c st a w μ F) {t:Ty} {xs:List t.den} {v:Value} (h1:Inv c (st.news [.row t xs]) a w' μ' F') (h2:VRel μ' F' w' (.rowA st.nx) v) :
    ∃ μ'' F'',Inv c st a w' μ'' F''∧VRel μ'' F'' w' (.list t xs) v:=by
 have h2':=h2
 simp only[VRel] at h2'
 obtain⟨al,l,cp,sz,A,hμ,_,_⟩:=h2'
 have hks:∀ k,[st.nx].contains k=true→k < (st.news [.row t xs]).nx∧∃ al l cp sz,μ' k=.row al l cp sz:=fun k hk=>by
  obtain rfl:k=st.nx:=by simpa using hk
  exact⟨by rw[U7];simp,al,l,cp,sz,hμ⟩
 have h3:=U0c h1 hks
 have h4:=J0z h1 hks h2
 have hno:∀ k,k < st.nx→[st.nx].contains k=false:=fun k hk=>by
  cases hc:[st.nx].contains k with
  | false=>rfl
  | true=>have:k=st.nx:=by simpa using hc
          omega
 have htm:∀ i,(((st.news [.row t xs]).frz [st.nx]).tm i)=st.tm i:=fun i=>by
  simp only[St.frz,Xx]
  exact J1p _ fun k hk=>hno k (X3 hi.h (Je (hi.tm i) k hk))
 have hhp:∀ k,k < st.nx→((st.news [.row t xs]).frz [st.nx]).hp k=st.hp k:=fun k hk=>by
  simp only[St.frz,hno k hk,cond_false,Ve _ st k hk]
  exact X3m fun j hj=>hno j (X3 hi.h (Va (hi.h.obj k hk) j hj))
 refine⟨Jf μ' [st.nx],frzF μ' F' [st.nx],⟨⟨fun k hk=>?_,fun k hk=>?_,h3.h.one,h3.h.out,h3.h.inn⟩,h3.fr,h3.idb,h3.idm,hi.n0,fun i=>?_,h3.sz,h3.df⟩,?_⟩
 ·rw[←hhp k hk]
  exact h3.h.obj k (by show k < (st.news [.row t xs]).nx;rw[U7];omega)
 ·by_cases he:k=st.nx
  ·subst he
   simp[Jf]
  ·exact h3.h.top k (by show (st.news [.row t xs]).nx≤k;rw[U7];simp;omega)
 ·rw[←htm i]
  exact h3.tm i
 ·have hat:(st.news [.row t xs]).hp st.nx=.row t xs:=by simpa using Z0d [.row t xs] st 0 _ rfl
  have e:(AV.rowA st.nx).frz (st.news [.row t xs]).hp [st.nx]=.list t xs:=by simp[AV.frz,hat]
  rw[e] at h4
  exact h4
theorem X1m {T:Tab} {t n:Nat} {parts:List (Nat×AV)} {v:AV} (h:V2c T t n parts=some v):∃ τ xs,v=.list τ xs∧(AV.refsL (parts.map (·.2)))=[]∧AV.solidL (parts.map (·.2))=true∧∀ hp nx,Z6 T hp nx t n parts some=some (.new [.row τ xs] (.rowA nx)):=by
 unfold V2c at h
 split at h
 ·rename_i e hd
  split at h
  ·rename_i r hr
   split at h
   ·rename_i τ hτ
    cases hc:(!parts.isEmpty&&((AV.refsL (parts.map (·.2))).isEmpty&&AV.solidL (parts.map (·.2)))) with
    | false=>rw[hc] at h;cases h
    | true=>
      rw[hc,cond_true] at h
      simp only[Bool.and_eq_true,List.isEmpty_iff] at hc
      obtain⟨_,h1,h2⟩:=hc
      split at h
      ·rename_i hcond
       split at h
       ·rename_i xs hxs
        cases h
        refine⟨τ,xs,rfl,h1,h2,fun hp nx=>?_⟩
        unfold Z6
        have hid:(parts.map fun p=>(p.1,p.2.frz hp []))=parts:=by
         rw[List.map_congr_left (g:=id) (fun p _=>by simp only[Q0p];rfl),List.map_id]
        simp only[hd,hr,hτ,if_pos hcond,h1,V1,List.length_nil,if_true,hid,hxs]
       ·cases h
      ·cases h
   ·cases h
  ·cases h
 ·cases h
theorem Q3b {st:St} {k:Nat} (hk:k < st.nx) (x o:LObj):(st.upd k x).new o=(st.new o).upd k x:=by
 simp only[St.upd,St.new]
 congr 1
 funext j
 by_cases h1:j=st.nx
 ·subst h1
  have:(st.nx==k)=false:=by simp;omega
  simp[this]
 ·have:(j==st.nx)=false:=by simpa using h1
  simp[this]
theorem Q3i (st:St) (k:Nat) (x y:LObj):(st.upd k x).upd k y=st.upd k y:=by
 simp only[St.upd]
 congr 1
 funext j
 cases (j==k)<;>rfl
theorem Z0v:∀ (os:List LObj) (st:St) (k:Nat) (x:LObj),k < st.nx→(st.upd k x).news os=(st.news os).upd k x
 | [],_,_,_,_=>rfl
 | o::os,st,k,x,hk=>by
   simp only[St.news]
   rw[Q3b hk,Z0v os (st.new o) k x (by simp only[St.new];omega)]
theorem Q3a {T:Tab} {t:Nat} {p:AV} {f:Eff} {c:Cx} {st:St} {a:Act} {w:World} {μ:Nat→Pl} {F:Nat→Prop} (hi:Inv c (st.apply f).2 a w μ F) (hu:(st.apply f).1=.undef) :
    ∃ μ',Inv c (st.apply (livE T st.nx t p f)).2 a w μ' F∧(st.apply (livE T st.nx t p f)).1=.undef:=by
 unfold livE
 split
 ·rename_i r _ k g bs v0 _ _
  cases hc:(Nat.blt k st.nx&&J1l bs r.cty) with
  | false=>exact⟨μ,hi,hu⟩
  | true=>
    rw[cond_true]
    simp only[Bool.and_eq_true,Nat.blt_eq] at hc
    obtain⟨hk,_⟩:=hc
    simp only[St.apply] at hi hu ⊢
    obtain⟨ps,e1,e2,e3⟩:=Z07 bs r.cty st.nx
    have hown:∀ (i:Nat) (p:Pl),ps[i]?=some p→∀ b,¬ p.own b:=fun i p hp b hb=>by
     have hlt:i < ps.length:=by obtain⟨h2,_⟩:=List.getElem?_eq_some_iff.1 hp;exact h2
     obtain⟨τ,_,rfl⟩:=e2 i _ p (List.getElem?_eq_getElem (by omega)) hp
     exact hb
    have hnx:(st.upd k (.boxT g bs)).nx=st.nx:=rfl
    have h1:Inv c ((st.upd k (.boxT g bs)).news (Q9 bs r.cty st.nx).2) a w (Zb μ (st.upd k (.boxT g bs)).nx ps) F:=by
     refine Vi hi (Grew.refl w) _ _ e1 ?_ ?_ ?_
     ·intro i o p ho hp
      obtain⟨τ,rfl,rfl⟩:=e2 i o p ho hp
      simp only[ORel]
      exact⟨trivial,rfl,Nat.le_refl _,fun _=>trivial,(fun b o hbo _=>by cases hbo)⟩
     ·intro i p b hp hpo
      exact absurd hpo (hown i p hp b)
     ·intro i j p q b hp hq hpo hqo
      exact absurd hpo (hown i p hp b)
    have ho:=hi.h.obj k hk
    have hat:(st.upd k (.boxT g bs)).hp k=.boxT g bs:=by simp[St.upd]
    rw[hat] at ho
    have hold:Zb μ (st.upd k (.boxT g bs)).nx ps k=μ k:=Vq hk
    have h2:=Um (k:=k) (o:=.boxT g (Q9 bs r.cty st.nx).1) h1 (by rw[U7];exact Nat.lt_of_lt_of_le hk (Nat.le_add_right _ _)) ((Grew.refl w).changed _) (by
     rw[hold]
     cases hp:μ k with
     | box b=>
       rw[hp] at ho
       simp only[ORel] at ho ⊢
       obtain⟨us,E,fz,g1,g2,g3,g4,g5⟩:=ho
       refine⟨us,E,fz,g1,g2,?_,g4,g5⟩
       exact e3 μ _ F w us (fun j hj=>Vk hi.h.top (J6 g3 j hj)) (fun i p hp=>by rw[hnx,Z9,hp];rfl) g3
     | none=>rw[hp] at ho;simp[ORel] at ho
     | map b=>rw[hp] at ho;simp[ORel] at ho
     | mapb b cks=>rw[hp] at ho;simp[ORel] at ho
     | row al l cp sz=>rw[hp] at ho;simp[ORel] at ho)
    refine⟨Zb μ (st.upd k (.boxT g bs)).nx ps,?_,hu⟩
    rw[Z0v _ st k _ hk]
    rw[Z0v _ st k _ hk,Q3i] at h2
    exact h2
 ·exact⟨μ,hi,hu⟩
theorem Q2e {T:Tab} {q:Res} {v:AV} (h:Z1v T q=some v):∃ t ys,q.1=[.rowA 0]∧q.2=[.row t ys]∧v=.list t ys:=by
 unfold Z1v at h
 split at h
 ·rename_i t ys h1 h2 h3
  cases h
  exact⟨t,ys,h2,h3,rfl⟩
 ·cases h
theorem Z2w {P:Program} {T:Tab} {orc:Orc} (hO:Qa P orc) {R:Type} {K:Eff→Option R} {r:R} {c:Cx} {st:St} {a:Act} {w:World} {μ:Nat→Pl} {F:Nat→Prop} (hi:Inv c st a w μ F) {f:Nat} {args:List AV} {vs:List Value} {o:Oper}
    (h:Q0f T orc st.hp f args K=some r) (hv:U0 μ F w args vs)
    (hrun : (∃ fn, P.funcs[f]? = some fn ∧ fn.name ≠ "runtime.NumGoroutine" ∧ fn.body.isNone = false) → (execOp a.eval o).run P w = .ok (.enter f vs.toArray) w) : ∃ e, K e = some r ∧ Q0r P c st a w o e := by
 unfold Q0f at h
 simp only at h
 split at h
 ·rename_i hrows
  obtain⟨hks,_⟩:=J0m hi.h _ hrows.1 (J6 hv)
  ·obtain⟨⟨res,objs'⟩,horc,h⟩:=Tr.run_some h
   simp only at h
   obtain⟨hfn,hsem⟩:=hO _ _ _ _ _ horc
   have hi1:=U0c hi hks
   have hargs0:=Q0m hi hks hv
   have hargs:U0 (fun _=>.none) (frzF μ F (AV.refsL args)) w (AV.frzL st.hp (AV.refsL args) args) vs:=by
    refine Ua (fun _ h=>h) (fun _ _=>rfl) (fun k hk=>?_) hargs0
    have h1:=J6 hargs0 k hk
    have h2:=U00 hk
    have h3:(AV.refsL args).contains k=true:=by simpa using h2
    simp[Jf,h2] at h1
   have hcall:=hsem w (fun _=>.none) (frzF μ F (AV.refsL args)) vs ⟨fun k hk=>by simp at hk,fun _ _=>rfl,fun k k' b h=>by simp[Pl.own] at h,fun k b h=>by simp[Pl.own] at h,hi1.h.inn⟩ hargs
   have hnone:∀ b,¬ X0a (fun _=>Pl.none) b:=fun b ⟨k,h⟩=>by simp[Pl.own] at h
   split at h
   ·rename_i hpl
    simp only[Bool.and_eq_true] at hpl
    refine⟨_,h,Qd (hrun hfn) (hcall.mono fun x w' hx=>?_)⟩
    obtain⟨v,rfl,μ',F',h1,h2,h3,_⟩:=hx
    have hg:Grew w w':=⟨h3.os,h3.tape,h3.output,h3.size,fun b hb=>h3.keep b hb (hnone b)⟩
    have:=Vi hi hg [] [] rfl (by simp) (by simp) (by simp)
    refine⟨v,rfl,_,F,this,?_⟩
    simp only[St.apply]
    exact X13 (V1r hpl.1) h1
   ·have hpost':∀ v w',Post w (fun _=>.none) (frzF μ F (AV.refsL args)) ([]:List LObj).length res objs' v w'→∀ (m:Nat→Pl),Post w (Z7 m []) (frzF μ F (AV.refsL args)) ([]:List Nat).length res objs' v w':=fun v w' hp m=>by
     have:Z7 m []=fun _=>.none:=by funext i;simp[Z7]
     rw[this]
     exact hp
    cases hrs:AV.refsL args with
    | nil=>
      have hF:frzF μ F (AV.refsL args)=F:=by
       funext b
       rw[hrs]
       simp[frzF]
      have hin:∀ v w',Post w (fun _=>.none) (frzF μ F (AV.refsL args)) ([]:List LObj).length res objs' v w'→∃ μ' F',Inv c (st.apply (.call [] [] objs' res)).2 a w' μ' F'∧VRel μ' F' w' (st.apply (.call [] [] objs' res)).1 v:=fun v w' hp=>by
       have h1:=hpost' v w' hp μ
       rw[hF] at h1
       exact X00 (ks:=[]) hi (by simp) (by simp) h1
      rw[hrs] at h
      simp only at h
      split at h
      ·rename_i hem
       simp only[Bool.and_eq_true,List.isEmpty_iff] at hem
       refine⟨_,h,Qd (hrun hfn) (hcall.mono fun x w' hx=>?_)⟩
       obtain⟨v,rfl,hp⟩:=hx
       obtain⟨μ',F',h1,h2⟩:=hin v w' hp
       obtain⟨rfl,hrf⟩:=hem
       refine⟨v,rfl,μ',F',h1,?_⟩
       have he:(st.apply (.call [] [] [] res)).1=(st.apply (.val (Q8 res))).1:=by
        simp only[St.apply]
        rw[Zs _ _ hrf]
       rw[he] at h2
       exact h2
      ·refine⟨_,h,Qd (hrun hfn) (hcall.mono fun x w' hx=>?_)⟩
       obtain⟨v,rfl,hp⟩:=hx
       exact⟨v,rfl,hin v w' hp⟩
    | cons k0 ks=>
      rw[hrs] at h
      simp only at h
      split at h
      ·rename_i hthin
       simp only[Bool.and_eq_true] at hthin
       split at h
       ·rename_i v0 hv0
        obtain⟨t,ys,e1,e2,rfl⟩:=Q2e hv0
        simp only at e1 e2
        subst e1 e2
        refine⟨_,h,Qd (hrun hfn) (hcall.mono fun x w' hx=>?_)⟩
        obtain⟨v,rfl,hp⟩:=hx
        have hp2:=Q0q (F:=F) (fun b hb=>Or.inl hb) hthin.1 hthin.2 hi.h.inn hp
        obtain⟨F',g1,g2⟩:=U3h hi hp2 (by simpa using hthin.2)
        exact⟨v,rfl,μ,F',g1,g2⟩
       refine⟨_,h,Qd (hrun hfn) (hcall.mono fun x w' hx=>?_)⟩
       obtain⟨v,rfl,hp⟩:=hx
       have hp2:=Q0q (F:=F) (fun b hb=>Or.inl hb) hthin.1 hthin.2 hi.h.inn hp
       have h1:Post w (Z7 μ []) F ([]:List Nat).length res objs' v w':=by
        have:Z7 μ []=fun _=>.none:=by funext i;simp[Z7]
        rw[this]
        exact hp2
       exact⟨v,rfl,X00 (ks:=[]) hi (by simp) (by simp) h1⟩
      refine⟨_,h,Qd (hrun hfn) (hcall.mono fun x w' hx=>?_)⟩
      obtain⟨v,rfl,hp⟩:=hx
      have h1:=hpost' v w' hp (Jf μ (AV.refsL args))
      have h2:=X00 (ks:=[]) hi1 (by simp) (by simp) h1
      rw[hrs] at h2
      exact⟨v,rfl,h2⟩
 ·split at h
  ·rename_i hmix
   obtain⟨⟨res,objs'⟩,horc,h⟩:=Tr.run_some h
   simp only at h
   ·obtain⟨hfn,hsem⟩:=hO _ _ _ _ _ horc
    have hsubl:∀ (l:List Nat),∀ k∈V1 st.hp l,k∈l:=fun l=>by
     induction l with
     | nil=>intro k h;simp[V1] at h
     | cons x l ih=>
       intro k h
       simp only[V1] at h
       split at h
       ·rcases List.mem_cons.1 h with rfl | h
        ·simp
        ·exact List.mem_cons_of_mem _ (ih k h)
       ·exact List.mem_cons_of_mem _ (ih k h)
    have hrr:(V1 st.hp (V1 st.hp (AV.refsL args))).length=(V1 st.hp (AV.refsL args)).length:=by
     have:∀ (l:List Nat),V1 st.hp (V1 st.hp l)=V1 st.hp l:=fun l=>by
      induction l with
      | nil=>rfl
      | cons x l ih=>
        simp only[V1]
        split
        ·rename_i hx
         simp only[V1,hx,ih]
        ·exact ih
     rw[this]
    have hrt:=J6 hv
    obtain⟨hks,_⟩:=J0m hi.h (V1 st.hp (AV.refsL args)) hrr (fun k hk=>hrt k (hsubl _ k hk))
    have hi1:=U0c hi hks
    have hargs0:=Q0m hi hks hv
    have hQ:∀ k∈U5 st.hp 1000 (AV.refsL args) [],μ k≠.none:=by
     refine Q01 (fun k hk j hj=>?_) 1000 _ _ hrt (by simp)
     exact Va (hi.h.obj k (X3 hi.h hk)) j hj
    have hnd0:=Qs (hp:=st.hp) 1000 (AV.refsL args) [] (by simp)
    generalize hK:(U5 st.hp 1000 (AV.refsL args) []).filter (fun k=>!(V1 st.hp (AV.refsL args)).contains k)=ks1 at *
    have hmem:∀ k∈ks1,k∈U5 st.hp 1000 (AV.refsL args) []∧(V1 st.hp (AV.refsL args)).contains k=false:=fun k hk=>by
     rw[←hK,List.mem_filter] at hk
     exact⟨hk.1,by simpa using hk.2⟩
    have hnd:ks1.Nodup:=by rw[←hK];exact hnd0.filter _
    have hlt:∀ k∈ks1,k < st.nx:=fun k hk=>X3 hi.h (hQ k (hmem k hk).1)
    have hinv0:=Q0z hi.h hnd hlt
    have hposmem:∀ k i,J5 k ks1 0=some i→k∈ks1∧Z7 μ ks1 i=μ k:=fun k i h=>by
     obtain⟨_,h2⟩:=Q6 h
     simp only[Nat.sub_zero] at h2
     exact⟨List.mem_of_getElem? h2,by simp[Z7,h2]⟩
    have hinv:HInv w (ofHp (ks1.map fun k=>(st.hp k).ren fun k=>J5 k ks1 0)) (ks1.map fun k=>(st.hp k).ren fun k=>J5 k ks1 0).length (Z7 μ ks1) (frzF μ F (V1 st.hp (AV.refsL args))):=
     ⟨fun i hi'=>Z8 (fun b h=>.inl h) (fun _ _=>rfl) (fun _ _=>rfl) (fun _ _=>rfl) (hinv0.obj i hi'),hinv0.top,hinv0.one,(fun i b hb=>by
      refine⟨fun hF=>?_,(hinv0.out i b hb).2⟩
      rcases hF with hF | ⟨k,hk,h3⟩
      ·exact(hinv0.out i b hb).1 hF
      ·have hb':=hb
       unfold Z7 at hb'
       split at hb'
       ·rename_i k' hk'
        have:=hi.h.one k k' b h3 hb'
        subst this
        have:=(hmem k (List.mem_of_getElem? hk')).2
        rw[hk] at this
        cases this
       ·cases hb'),hi1.h.inn⟩
    have hargs:U0 (Z7 μ ks1) (frzF μ F (V1 st.hp (AV.refsL args))) w (AV.renL (fun k=>J5 k ks1 0) (AV.frzL st.hp (V1 st.hp (AV.refsL args)) args)) vs:=
     Uj (fun k i h=>by
      obtain⟨h1,h2⟩:=hposmem k i h
      rw[h2]
      simp only[Jf,(hmem k h1).2]
      rfl) hargs0
    have hcall:=hsem w _ _ vs hinv hargs
    split at h
    ·rename_i hthin
     simp only[Bool.and_eq_true] at hthin
     refine⟨_,h,Qd (hrun hfn) (hcall.mono fun x w' hx=>?_)⟩
     obtain⟨v,rfl,hpost⟩:=hx
     rw[List.length_map] at hpost
     have hp2:=Q0q (F:=F) (fun b hb=>Or.inl hb) hthin.1 hthin.2 hi.h.inn hpost
     exact⟨v,rfl,X00 hi hnd (fun k hk=>⟨hlt k hk,hQ k (hmem k hk).1⟩) hp2⟩
    ·refine⟨_,h,Qd (hrun hfn) (hcall.mono fun x w' hx=>?_)⟩
     obtain⟨v,rfl,hpost⟩:=hx
     rw[List.length_map] at hpost
     have hsp:Z7 μ ks1=Z7 (Jf μ (V1 st.hp (AV.refsL args))) ks1:=by
      funext i
      unfold Z7
      split
      ·rename_i k hk
       simp only[Jf,(hmem k (List.mem_of_getElem? hk)).2]
       rfl
      ·rfl
     rw[hsp] at hpost
     have hfin:=X00 hi1 hnd (fun k hk=>⟨hlt k hk,by simp only[Jf,(hmem k hk).2];exact hQ k (hmem k hk).1⟩) hpost
     have hne:=hmix.1
     generalize V1 st.hp (AV.refsL args)=rows at *
     cases rows with
     | nil=>cases hne
     | cons r0 rs0=>exact⟨v,rfl,hfin⟩
  ·obtain⟨⟨res,objs'⟩,horc,h⟩:=Tr.run_some h
   simp only at h
   obtain⟨hfn,hsem⟩:=hO _ _ _ _ _ horc
   have hQ:∀ k∈U5 st.hp 1000 (AV.refsL args) [],μ k≠.none:=by
    refine Q01 (fun k hk j hj=>?_) 1000 _ _ (J6 hv) (by simp)
    exact Va (hi.h.obj k (X3 hi.h hk)) j hj
   have hnd:=Qs (hp:=st.hp) 1000 (AV.refsL args) [] (by simp)
   have hlt:∀ k∈U5 st.hp 1000 (AV.refsL args) [],k < st.nx:=fun k hk=>X3 hi.h (hQ k hk)
   have hinv:=Q0z hi.h hnd hlt
   have hargs:U0 (Z7 μ (U5 st.hp 1000 (AV.refsL args) [])) F w (AV.renL (fun k=>J5 k (U5 st.hp 1000 (AV.refsL args) []) 0) args) vs:=
    Uj (fun k i h=>by
     obtain⟨_,h2⟩:=Q6 h
     simp only[Nat.sub_zero] at h2
     simp[Z7,h2]) hv
   have hcall:=hsem w _ F vs hinv hargs
   refine⟨_,h,Qd (hrun hfn) (hcall.mono fun x w' hx=>?_)⟩
   obtain⟨v,rfl,hpost⟩:=hx
   rw[List.length_map] at hpost
   exact⟨v,rfl,X00 hi hnd (fun k hk=>⟨hlt k hk,hQ k hk⟩) hpost⟩
theorem U1t {c:Cx} {st:St} {a:Act} {w:World} {μ:Nat→Pl} {F:Nat→Prop} (hi:Inv c st a w μ F):∀ (xs:List Operand),U0 μ F w (xs.map st.ev) (xs.map a.eval)
 | []=>by simp[U0]
 | x::xs=>by simp only[List.map_cons,U0];exact⟨_,_,rfl,Q1a hi x,U1t hi xs⟩
theorem X14 {μ:Nat→Pl} {F:Nat→Prop} {w:World}:∀ {cs:List AV} {ts:List (Option Ty)} {us:List Value},U0 μ F w cs us→U0 μ F w (Zt cs ts) us
 | [],ts,us,h=>by cases ts<;>simpa only[Zt] using h
 | c::cs,[],us,h=>by cases c<;>simpa only[Zt] using h
 | c::cs,t::ts,us,h=>by
   simp only[U0] at h
   obtain⟨u,us,rfl,h1,h2⟩:=h
   have key:∀ c',VRel μ F w c' u→U0 μ F w (c'::Zt cs ts) (u::us):=fun c' hc=>by
    simp only[U0]
    exact⟨u,us,rfl,hc,X14 h2⟩
   cases c<;>cases t<;>simp only[Zt]<;>first | exact key _ h1 | skip
   rename_i τ
   simp only[VRel] at h1
   subst h1
   exact key (.list τ []) (Jd.2 ⟨none,0,rfl,by simp,fun _=>rfl,fun a ha=>by cases ha⟩)
theorem V07 {T:Tab} {μ:Nat→Pl} {F:Nat→Prop} {w:World} (t:Nat) {x:AV} {v:Value} (h:VRel μ F w x v):VRel μ F w (Q03 T t x) v:=by
 unfold Q03
 split
 ·split
  ·simp only[VRel] at h ⊢
   obtain⟨us,rfl,h1,h2⟩:=h
   exact⟨us,rfl,X14 h1,h2⟩
  ·exact h
 ·exact h
theorem J2w {T:Tab} {μ:Nat→Pl} {F:Nat→Prop} {w:World} (t:Nat) {x:AV} {v:Value} (h:VRel μ F w x v):VRel μ F w (U3e T t x) v:=by
 unfold U3e
 cases T.nild with
 | true=>exact V07 t h
 | false=>exact h
theorem V25 {P:Program} {T:Tab} {μ:Nat→Pl} {F:Nat→Prop} {w:World} (t:Nat) {x:AV} {v:Value} (h:VRel μ F w x v):VRel μ F w (X0m T t x) v:=by
 unfold X0m
 split
 ·cases T.kns with | true=>exact h | false=>?_
  rw[cond_false]
  split
  ·split
   ·simp only[VRel] at h ⊢
    subst h
    exact⟨none,0,rfl,by simp,fun _=>rfl,fun a ha=>by cases ha⟩
   ·exact h
  ·exact h
 ·cases T.kns with | true=>exact h | false=>exact V07 t h
theorem X03 {P:Program} {T:Tab} {μ:Nat→Pl} {F:Nat→Prop} {w:World}:∀ (ts:List Nat) {xs:List AV} {vs:List Value},U0 μ F w xs vs→U0 μ F w (Qe T ts xs) vs
 | [],xs,vs,h=>by cases xs<;>simpa[Qe] using h
 | t::ts,[],vs,h=>by simpa[Qe] using h
 | t::ts,x::xs,vs,h=>by
   simp only[U0] at h
   obtain⟨u,us,rfl,h1,h2⟩:=h
   simp only[Qe,U0]
   exact⟨u,us,rfl,V25 (P:=P) t h1,X03 (P:=P) ts h2⟩
theorem J1f {P:Program} {T:Tab} (hT:U2 P T):∀ (fs:List Field) (ps:List (Nat×Nat)) (w:World),U0m T (fs.map fun f=>(f.offset,f.type))=some ps→
    ((fs.mapM fun f=>Prod.mk f.offset <$> sizeOf f.type):Sem (List (Nat×Nat))).run P w=.ok ps w
 | [],ps,w,h=>by simp[U0m] at h;subst h;simp
 | f::fs,ps,w,h=>by
   simp only[List.map_cons,U0m] at h
   split at h
   ·rename_i n r hn hr
    cases h
    have:=J1f hT fs r w hr
    simp[List.mapM_cons,Jb hT hn,this]
   ·cases h
theorem X2g {P:Program} {T:Tab} (hT:U2 P T) {μ:Nat→Pl} {F:Nat→Prop} {w:World} {t:Nat} {ps:List (Nat×AV)} {qs:List (Nat×Value)} {x:AV}
    (h:Q2a T t ps=some x) (hl:qs.length=ps.length) (hr:∀ (i:Nat) (p:Nat×AV) (q:Nat×Value),ps[i]?=some p→qs[i]?=some q→q.1=p.1∧VRel μ F w p.2 q.2) :
    ∃ v,(Instr.build t qs.toArray).run P w=.ok v w∧VRel μ F w x v:=by
 unfold Q2a at h
 split at h
 ·cases h
 ·rename_i row hrow
  obtain⟨i0,z,e1,e2,e3,e4,e5,e6,e7,e8⟩:=(hT t row hrow).info
  have hdesc:=(hT t row hrow).desc
  split at h
  ·rename_i fs hd
   rw[hd] at hdesc
   obtain⟨fields,hu,rfl,_⟩:=hdesc
   split at h
   ·rename_i pl hpl
    split at h
    ·rename_i cs hcs
     cases h
     obtain⟨vs,g1,g2,g3⟩:=X0s ps qs row.zero cs z.cells.toList hl hr hcs (e6 μ F w) e7
     refine⟨.agg vs.toArray,?_,by simp only[VRel];exact⟨vs,rfl,g2,g3⟩⟩
     have hm:=J1f hT fields.toList pl w hpl
     have hm2:((fields.mapM fun f=>Prod.mk f.offset <$> sizeOf f.type):Sem (Array (Nat×Nat))).run P w=.ok pl.toArray w:=by
      rw[Array.mapM_eq_mapM_toList]
      simp only[Sem.run_map,hm,Result.andThen_ok]
     have g1':Instr.fill (fun i=>pl[i]?) z.cells qs=some vs.toArray:=by simpa using g1
     simp[Instr.build,zeroValue,typeInfo,e1,e4,run_underlying hu,hm2,g1']
    ·cases h
   ·cases h
  ·rename_i n e hd
   rw[hd] at hdesc
   simp only[Q3] at hdesc
   split at h
   ·rename_i m hm
    split at h
    ·rename_i cs hcs
     cases h
     obtain⟨vs,g1,g2,g3⟩:=X0s ps qs row.zero cs z.cells.toList hl hr hcs (e6 μ F w) e7
     refine⟨.agg vs.toArray,?_,by simp only[VRel];exact⟨vs,rfl,g2,g3⟩⟩
     have g1':Instr.fill (fun i=>some (i * m,m)) z.cells qs=some vs.toArray:=by simpa using g1
     simp[Instr.build,zeroValue,typeInfo,e1,e4,run_underlying hdesc,Jb hT hm,g1']
    ·cases h
   ·cases h
  ·cases h
theorem J2v {P:Program} {T:Tab} (hT:U2 P T) {c:Cx} {st:St} {a:Act} {w:World} {μ:Nat→Pl} {F:Nat→Prop} (hi:Inv c st a w μ F) {t tx:Nat} (ty:Nat) {x y:AV} {v u:Value} {f:Eff}
    (h:X21 T st.hp t tx x y=some f) (hv:VRel μ F w x v) (hu:VRel μ F w y u):Outc P c st a w (Builtin.copy_ #[t,tx] ty #[v,u]) f:=by
 unfold X21 at h
 split at h<;>try cases h
 rename_i e hd
 have ht:=Q2 hT hd (by simp)
 simp only[Q3] at ht
 split at h<;>try cases h
 rename_i s k off len cc hd2
 split at h<;>try cases h
 rename_i xs hk
 split at h<;>cases h
 rename_i hsz
 have hs:=Jb hT hsz
 simp only[VRel] at hv hu
 subst hu
 obtain⟨al,len0,cap,sz,A,cap',hμ,hle,hcap',rfl,hA⟩:=hv
 have hkn:k < st.nx:=X3 hi.h (by rw[hμ];simp)
 have ho:=hi.h.obj k hkn
 rw[hμ,hk] at ho
 have ho':=ho
 simp only[ORel] at ho
 obtain⟨h1,h2,h3,h4,h5⟩:=ho
 subst h1 h2
 have hss:(⟨s.toArray⟩:ByteArray).size=s.length:=by simp[ByteArray.size]
 obtain⟨news,hn⟩:∃ news,news=byteCells ⟨(s.take len).toArray⟩:=⟨_,rfl⟩
 have henc:EncL F w (.int .u8) (J4 (s.take len)) news:=by rw[hn];exact Jv _
 have hnl:news.length=min len s.length:=by
  have:=Qc henc
  simpa[J4,Ty.sz] using this
 have hmin:Nat.min s.length len=min len s.length:=Nat.min_comm _ _
 have htake:(J4 s).take len=J4 (s.take len):=by simp[J4,List.map_take]
 have hcells:∀ w,(Builtin.firstCells 1 (min len s.length) (.string ⟨s.toArray⟩)).run P w=.ok news.toArray w:=fun w=>by
  rw[hn]
  have:((⟨s.toArray⟩:ByteArray).extract 0 (min len s.length))=⟨(s.take len).toArray⟩:=by
   have e:((⟨s.toArray⟩:ByteArray).extract 0 (min len s.length)).data=(s.take len).toArray:=by
    rw[ByteArray.data_extract]
    apply Array.ext'
    simp[List.take_eq_take_iff]
   exact ByteArray.ext e
  simp only[Builtin.firstCells,this,byteCells,Sem.run_pure]
  congr 1
  apply Array.ext'
  simp
 by_cases h0:min len s.length=0
 ·have hnews:news=[]:=List.length_eq_zero_iff.1 (by omega)
  have hrun:(Builtin.copy_ #[t,tx] ty #[.slice A len cap',.string ⟨s.toArray⟩]).run P w=.ok (.int .i64 ((min len s.length:Nat):Int)) w:=by
   have hc:=hcells w
   rw[hnews] at hc
   cases A with
   | none=>simp[Builtin.copy_,run_underlying ht,Builtin.lenOf,hss,hs,hmin,hc,goInt]
   | some ad=>simp[Builtin.copy_,run_underlying ht,Builtin.lenOf,hss,hs,hmin,hc,goInt,storeCells]
  refine⟨_,w,μ,F,hrun,?_,by simp[St.apply,VRel]⟩
  simp only[St.apply]
  refine Um hi hkn ((Grew.refl w).changed _) ?_
  have e0:(xs:List Int).take off++(J4 s).take len++(xs:List Int).drop (off+min len s.length)=xs:=by
   rw[htake]
   have:s.take len=[]:=List.length_eq_zero_iff.1 (by rw[List.length_take];omega)
   rw[this,h0]
   simp[J4]
  rw[hμ,show (LObj.row (.int .u8) ((xs:List Int).take off++(J4 s).take len++(xs:List Int).drop (off+min len s.length)))=LObj.row (.int .u8) xs by rw[e0]]
  exact ho'
 ·have hlen:0 < len:=by omega
  have hcap0:cap'≠0:=by rw[hcap'];split<;>omega
  obtain⟨b,o,rfl,rfl⟩:=hA hcap0
  have hcapne:cap≠0:=by omega
  obtain⟨us,E,fz,g1,g2,g3,g4,g5⟩:=h5 b o rfl hcapne
  simp only[Ty.sz,Nat.mul_one] at g3 g4 ⊢
  have hown:(μ k).own b:=by simp[hμ,Pl.own,hcapne]
  have hfit:o+off+news.length≤us.length:=by omega
  obtain⟨e1,e2,e3,e4,e5⟩:=J9 b news (o+off) w
  have hFw:∀ b',F b'→(w.setCells b (o+off) news).heap[b']?=w.heap[b']?:=fun b' hb'=>e5 b' (fun e=>(hi.h.out k b hown).1 (e▸hb'))
  have hst:=run_storeCells_cells (P:=P) b (o+off) news 0 w (fun j hj=>by
      have:o+off+j < us.length:=by omega
      simp[World.cell?,g1,List.getElem?_eq_getElem this]) (fun j hj=>by
      have:o+off+j < us.length:=by omega
      have:=g2 _ this
      simp only[World.frozen?,g1]
      simp
      intro h1
      simp at this
      omega) (Q08 henc)
  simp only[Nat.add_zero] at hst
  have hrun:(Builtin.copy_ #[t,tx] ty #[.slice (some ⟨b,o+off,none⟩) len cap',.string ⟨s.toArray⟩]).run P w=.ok (.int .i64 ((min len s.length:Nat):Int)) (w.setCells b (o+off) news):=by
   simp[Builtin.copy_,run_underlying ht,Builtin.lenOf,hss,hs,hmin,hcells w,goInt,hst]
  refine⟨_,_,μ,F,hrun,?_,by simp[St.apply,VRel]⟩
  simp only[St.apply]
  refine Um hi hkn ⟨e1,e2,e3,by omega,fun b' _ hne=>e5 b' (fun e=>hne (by rw[e];exact hown))⟩ ?_
  rw[hμ]
  simp only[ORel]
  refine⟨trivial,by simp[J4];omega,h3,h4,fun b' o' hbo _=>?_⟩
  cases hbo
  refine⟨_,E,fz,U8 b E fz news _ w us g1 hfit,Qv hfit g2,by simp[Ty.sz];omega,?_,g5⟩
  have:=V0o (p:=off) (w':=w.setCells b (o+off) news) (us:=us) (o:=o) (xs:=xs) (by simpa[Ty.sz] using g4) henc (by omega) (by simpa[Ty.sz] using hfit) hFw
  intro i q hq
  have:=this i q (by rw[htake] at hq;simpa[J4] using hq)
  simpa[Ty.sz] using this
theorem X1f (z:Array Value):∀ (n:Nat),(Builtin.zeroCells z n).toList=(List.replicate n z.toList).flatten:=by
 intro n
 unfold Builtin.zeroCells
 simp only[Array.toList_map,Array.toList_range]
 induction n with
 | zero=>simp
 | succ n ih=>
   rw[List.replicate_succ,List.flatten_cons,←ih,Nat.add_mul,Nat.one_mul,Nat.add_comm,List.range_add,List.map_append,List.map_map]
   congr 1
   ·apply List.ext_getElem
    ·simp
    ·intro i h1 h2
     simp at h1
     simp[Nat.mod_eq_of_lt h1,getElem!_pos z i h1]
   ·apply List.map_congr_left
    intro i hi
    simp
theorem U1y {F:Nat→Prop} {w:World} {t:Ty} {x:t.den} {zs:List Value} (h:Enc F w t x zs):∀ (n:Nat),EncL F w t (List.replicate n x) (List.replicate n zs).flatten
 | 0=>by simp[EncL]
 | n+1=>by
   rw[List.replicate_succ,List.replicate_succ,List.flatten_cons]
   simp only[EncL]
   exact⟨zs,_,rfl,h,U1y h n⟩
theorem Z2b {P:Program} {T:Tab} (hT:U2 P T) {c:Cx} {st:St} {a:Act} {w:World} {μ:Nat→Pl} {F:Nat→Prop} (hi:Inv c st a w μ F) {t:Nat} (ty:Nat) {x:AV} {v:Value} {f:Eff}
    (h:X1e T st.hp t x=some f) (hv:VRel μ F w x v):Outc P c st a w (Builtin.clear_ #[t] ty #[v]) f:=by
 unfold X1e at h
 split at h<;>try cases h
 rename_i e hd
 have ht:=Q2 hT hd (by simp)
 simp only[Q3] at ht
 split at h<;>try cases h
 rename_i row k off len cc hrow
 split at h<;>try cases h
 rename_i τ xs hk
 split at h<;>cases h
 rename_i hty
 obtain⟨hτ,hsz⟩:=hty
 obtain⟨i0,z,e1,e2,e3,e4,e5,e6,e7,e8⟩:=(hT e row hrow).info
 have henc0:=e8 τ hτ F w
 simp only[VRel] at hv
 obtain⟨al,len0,cap,sz,A,cap',hμ,hle,hcap',rfl,hA⟩:=hv
 have hkn:k < st.nx:=X3 hi.h (by rw[hμ];simp)
 have ho:=hi.h.obj k hkn
 rw[hμ,hk] at ho
 have ho':=ho
 simp only[ORel] at ho
 obtain⟨h1,h2,h3,h4,h5⟩:=ho
 subst h1 h2
 obtain⟨news,hn⟩:∃ news,news=(List.replicate len z.cells.toList).flatten:=⟨_,rfl⟩
 have henc:EncL F w τ (List.replicate len τ.dflt) news:=by rw[hn];exact U1y henc0 len
 have hnl:news.length=len * τ.sz:=by
  have:=Qc henc
  simpa using this
 have hz:∀ w,(zeroValue e).run P w=.ok z w:=fun w=>by simp[zeroValue,typeInfo,e1,e4]
 by_cases h0:len=0
 ·subst h0
  have hrun:(Builtin.clear_ #[t] ty #[.slice A 0 cap']).run P w=.ok (.tuple #[]) w:=by
   cases A<;>simp[Builtin.clear_,run_underlying ht]
  refine⟨_,w,μ,F,hrun,?_,by simp[St.apply,VRel,U0]⟩
  simp only[St.apply]
  refine Um hi hkn ((Grew.refl w).changed _) ?_
  rw[hμ,show (LObj.row τ ((xs:List τ.den).take off++List.replicate 0 τ.dflt++(xs:List τ.den).drop (off+0)))=LObj.row τ xs by simp]
  exact ho'
 ·have hlen:0 < len:=by omega
  have hcap0:cap'≠0:=by rw[hcap'];split<;>omega
  obtain⟨b,o,rfl,rfl⟩:=hA hcap0
  have hcapne:cap≠0:=by omega
  obtain⟨us,E,fz,g1,g2,g3,g4,g5⟩:=h5 b o rfl hcapne
  have hown:(μ k).own b:=by simp[hμ,Pl.own,hcapne]
  have hfit:o+off * τ.sz+news.length≤us.length:=by
   have:(off+len) * τ.sz≤cap * τ.sz:=Nat.mul_le_mul_right _ (by omega)
   rw[Nat.add_mul] at this
   omega
  obtain⟨e1',e2',e3',e4',e5'⟩:=J9 b news (o+off * τ.sz) w
  have hFw:∀ b',F b'→(w.setCells b (o+off * τ.sz) news).heap[b']?=w.heap[b']?:=fun b' hb'=>e5' b' (fun e=>(hi.h.out k b hown).1 (e▸hb'))
  have hst:=run_storeCells_cells (P:=P) b (o+off * τ.sz) news 0 w (fun j hj=>by
      have:o+off * τ.sz+j < us.length:=by omega
      simp[World.cell?,g1,List.getElem?_eq_getElem this]) (fun j hj=>by
      have:o+off * τ.sz+j < us.length:=by omega
      have:=g2 _ this
      simp only[World.frozen?,g1]
      simp
      intro h1
      simp at this
      omega) (Q08 henc)
  simp only[Nat.add_zero] at hst
  have hrun:(Builtin.clear_ #[t] ty #[.slice (some ⟨b,o+off * τ.sz,none⟩) len cap']).run P w=.ok (.tuple #[]) (w.setCells b (o+off * τ.sz) news):=by
   obtain⟨m,rfl⟩:∃ m,len=m+1:=⟨len - 1,by omega⟩
   rw[hn,←X1f] at hst
   rw[hn,←X1f]
   simp[Builtin.clear_,run_underlying ht,hz,hst]
  refine⟨_,_,μ,F,hrun,?_,by simp[St.apply,VRel,U0]⟩
  simp only[St.apply]
  refine Um hi hkn ⟨e1',e2',e3',by omega,fun b' _ hne=>e5' b' (fun e=>hne (by rw[e];exact hown))⟩ ?_
  rw[hμ]
  simp only[ORel]
  refine⟨trivial,by simp;omega,h3,h4,fun b' o' hbo _=>?_⟩
  cases hbo
  refine⟨_,E,fz,U8 b E fz news _ w us g1 hfit,Qv hfit g2,by simp;omega,?_,g5⟩
  have:=V0o (p:=off) (w':=w.setCells b (o+off * τ.sz) news) (us:=us) (o:=o) (xs:=xs) g4 henc (by omega) hfit hFw
  simpa using this
theorem Z4e {μ:Nat→Pl} {F:Nat→Prop} {w:World} {v:AV} {cs:List AV} {u:Value} (ha:v.isAgg=false) (h:v.cellsOf=some cs) (hv:VRel μ F w v u):u.cells=#[u]:=by
 cases v<;>simp only[AV.cellsOf] at h<;>(try cases h)<;>simp only[VRel] at hv<;>(try (subst hv;rfl))
 case agg=>simp[AV.isAgg] at ha
 case list=>obtain⟨A,cap,rfl,_⟩:=Jd.1 hv;rfl
 case ptr=>obtain⟨b,_,rfl⟩:=hv;rfl
 case psl=>obtain⟨b,_,rfl⟩:=hv;rfl
 case rptr=>obtain⟨b,o,l,c,_,_,rfl⟩:=hv;rfl
 case lptr=>obtain⟨b,o,_,_,_,rfl⟩:=hv;rfl
 case rowA=>obtain⟨a,l,c,s,A,_,rfl,_⟩:=hv;rfl
 case rowS=>obtain⟨a,l,cp,s,A,c',_,_,_,rfl,_⟩:=hv;rfl
 case mp=>obtain⟨b,_,rfl⟩:=hv;rfl
 case fn=>obtain⟨us,rfl,_⟩:=hv;rfl
theorem J08 {μ:Nat→Pl} {F:Nat→Prop} {w:World} {t:Ty} {v:AV} {x:t.den} {u:Value} (ha:v.isAgg=false) (h:asTy t v=some x) (hv:VRel μ F w v u):Enc F w t x [u]:=by
 have he:=Q0n h hv
 unfold asTy at h
 split at h
 ·rename_i cs hcs
  rw[Z4e ha hcs hv] at he
  exact he
 ·cases h
theorem Q0k {μ:Nat→Pl} {F:Nat→Prop} {w:World} {t:Ty} {x:t.den} {u:Value} (h:Enc F w t x [u]):VRel μ F w (AV.ofTy t x false) u:=by
 have hf:=Vl (μ:=μ) t x _ h
 simp only[AV.ofTy,Bool.false_eq_true,if_false]
 split
 ·rename_i y hy
  rw[hy] at hf
  simp only[U0] at hf
  obtain⟨u',us',h1,h2,_⟩:=hf
  simp at h1
  rw[h1.1]
  exact h2
 ·simp[VRel]
def KeyD:Ty→TypeDesc→Prop
 | .int k,d=>d=.int k
 | .str,d=>d=.string
 | _,_=>False
theorem Q26 {P:Program} {T:Tab} (hT:U2 P T) {t:Nat} {kt:Ty} (h:J2m T t=some kt):∃ d,P.underlying t=some d∧KeyD kt d:=by
 unfold J2m at h
 split at h
 ·rename_i k hd;cases h;exact⟨_,by have:=Q2 hT hd (by simp);simpa only[Q3] using this,rfl⟩
 ·rename_i hd;cases h;exact⟨_,by have:=Q2 hT hd (by simp);simpa only[Q3] using this,rfl⟩
 ·cases h
theorem X3g {F:Nat→Prop} {w:World} {kt:Ty} {d:TypeDesc} (hk:KeyD kt d) {x:kt.den} {v:Value} (h:Enc F w kt x [v]):MapKept.IsKey d v:=by
 cases kt<;>simp only[KeyD] at hk
 ·subst hk;simp[Enc] at h;subst h;simp[MapKept.IsKey]
 ·subst hk;simp[Enc] at h;subst h;simp[MapKept.IsKey]
theorem Q32 {F:Nat→Prop} {w:World} {kt:Ty} {d:TypeDesc} (hk:KeyD kt d) {x y:kt.den} {u v:Value} (hx:Enc F w kt x [u]) (hy:Enc F w kt y [v]):Instr.sameNow d u v=some (kt.keq x y)∧(kt.keq x y=true→Instr.sameBits 10000 v u=true):=by
 cases kt<;>simp only[KeyD] at hk
 ·subst hk
  simp[Enc] at hx hy
  subst hx hy
  simp[Instr.sameNow,Ty.keq,Instr.sameBits]
  exact⟨rfl,fun h=>h.symm⟩
 ·subst hk
  simp[Enc] at hx hy
  subst hx hy
  refine⟨?_,fun h=>?_⟩
  ·simp only[Instr.sameNow,Ty.keq]
   congr 1
   by_cases h:x=y
   ·rw[h]
    exact((MapKept.bytes_beq _ _).2 rfl).trans (by simp)
   ·have h1:(x==y)=false:=by simpa using h
    have h2:((⟨List.toArray x⟩:ByteArray)==⟨List.toArray y⟩)=false:=by
     cases hb:((⟨List.toArray x⟩:ByteArray)==⟨List.toArray y⟩) with
     | false=>rfl
     | true=>
       have e:=(MapKept.bytes_beq _ _).1 hb
       simp at e
       exact absurd e h
    rw[h1,h2]
  ·simp only[Ty.keq,beq_iff_eq] at h
   rw[h]
   simp only[Instr.sameBits]
   exact(MapKept.bytes_beq _ _).2 rfl
theorem Z13 {F:Nat→Prop} {w:World} {kt vt:Ty} {d:TypeDesc} (hk:KeyD kt d) {x:kt.den} {k:Value} (hx:Enc F w kt x [k]):∀ (es:List (kt.den×vt.den)) (ms:List MapEntry) (i:Nat),MRel F w kt vt es ms→
    (Instr.findNow d k ms i=some none∧V0m kt vt x es=none∧∀ y v b,Enc F w vt y [v]→MRel F w kt vt (putM kt vt x y es) (ms++[{ key:=k,val:=v,born:=b }])) ∨
    ∃ n m y,Instr.findNow d k ms i=some (some (i+n,m.val))∧ms[n]?=some m∧V0m kt vt x es=some y∧Enc F w vt y [m.val]∧Instr.sameBits 10000 m.key k=true ∧
      ∀ z v,Enc F w vt z [v]→MRel F w kt vt (putM kt vt x z es) (ms.modify n fun e=>{ e with key:=k,val:=v })
 | [],ms,i,h=>by
   simp only[MRel] at h
   subst h
   refine .inl ⟨rfl,rfl,fun y v b hv=>?_⟩
   simp only[putM,List.nil_append,MRel]
   exact⟨_,[],rfl,hx,hv,rfl⟩
 | e::es,_,i,⟨m,r,rfl,h2,h3,h4⟩=>by
   obtain⟨hs,hb⟩:=Q32 hk hx h2
   cases hq:kt.keq x e.1 with
   | true=>
     refine .inr ⟨0,m,e.2,by simp[Instr.findNow,hs,hq],rfl,by simp[V0m,hq],h3,hb hq,fun z v hv=>?_⟩
     simp only[putM,hq,cond_true,MRel]
     exact⟨_,r,rfl,hx,hv,h4⟩
   | false=>
     rcases Z13 hk hx es r (i+1) h4 with ⟨f1,f2,f3⟩ | ⟨n,m',y,f1,f2,f3,f4,f5,f6⟩
     ·refine .inl ⟨by simp[Instr.findNow,hs,hq,f1],by simp[V0m,hq,f2],fun y v b hv=>?_⟩
      simp only[putM,hq,cond_false,MRel,List.cons_append]
      exact⟨_,_,rfl,h2,h3,f3 y v b hv⟩
     ·refine .inr ⟨n+1,m',y,by simp[Instr.findNow,hs,hq,f1];omega,by simpa using f2,by simp[V0m,hq,f3],f4,f5,fun z v hv=>?_⟩
      simp only[putM,hq,cond_false,MRel,List.modify_succ_cons]
      exact⟨_,_,rfl,h2,h3,f6 z v hv⟩
theorem Q3k {P:Program} {T:Tab} (hT:U2 P T) {t:Nat} {vt:Ty} (h:J2p T t=some vt):∃ z,(∀ w,(zeroValue t).run P w=.ok z w)∧(∀ F w,Enc F w vt vt.dflt [z]):=by
 unfold J2p at h
 split at h
 ·rename_i r hr
  split at h
  ·rename_i τ hτ
   split at h<;>cases h
   rename_i hc
   obtain⟨i,z,e1,e2,e3,e4,e5,e6,e7,e8⟩:=(hT t r hr).info
   have hz:z.cells=#[z]:=(hT t r hr).plain hc.2 i z e1 e4
   exact⟨z,fun w=>by simp[zeroValue,typeInfo,e1,e4],fun F w=>by have:=e8 _ hτ F w;rwa [hz] at this⟩
  ·cases h
 ·cases h
theorem X1n {P:Program} {T:Tab} (hT:U2 P T) {t:Nat} {p:Ty×Ty} (h:J0b T t=some p):∃ k e,P.underlying t=some (.map k e)∧J2m T k=some p.1∧J2p T e=some p.2:=by
 unfold J0b at h
 split at h
 ·rename_i k e hd
  split at h
  ·rename_i kt vt h1 h2
   cases h
   exact⟨k,e,by have:=Q2 hT hd (by simp);simpa only[Q3] using this,h1,h2⟩
  ·cases h
 ·cases h
theorem U3z {c:Cx} {st:St} {a:Act} {w:World} {μ:Nat→Pl} {F:Nat→Prop} (hi:Inv c st a w μ F) (kt vt:Ty) :
    Inv c (st.news [.mpo kt vt []]) a (w.alloc (.map #[] 0)) (Zb μ st.nx [.map w.heap.size]) F∧VRel (Zb μ st.nx [.map w.heap.size]) F (w.alloc (.map #[] 0)) (.mp st.nx) (.map (some w.heap.size)):=by
 refine⟨Vi hi (Xj w _) _ _ rfl ?_ ?_ ?_,?_⟩
 ·intro i o p ho hp
  cases i with
  | zero=>
    simp at ho hp
    subst ho hp
    simp only[ORel]
    exact⟨[],0,Jr w _,rfl⟩
  | succ i=>simp at ho
 ·intro i p b hp hpo
  cases i with
  | zero=>simp at hp;subst hp;simp[Pl.own] at hpo;subst hpo;simp
  | succ i=>simp at hp
 ·intro i j p q b hp hq _ _
  cases i<;>cases j<;>simp at hp hq<;>rfl
 ·simp only[VRel]
  refine⟨w.heap.size,?_,rfl⟩
  have:Zb μ st.nx [Pl.map w.heap.size] st.nx=Pl.map w.heap.size:=by simpa using Z9 (μ:=μ) (nx:=st.nx) (ps:=[Pl.map w.heap.size]) 0
  rw[this]
  rfl
theorem V36 {c:Cx} {st:St} {a:Act} {w:World} {μ:Nat→Pl} {F:Nat→Prop} (hi:Inv c st a w μ F) (kt:Ty) (ki:IntKind) (t:Ty) :
    Inv c (st.news [.mpb kt ki t [] none]) a (w.alloc (.map #[] 0)) (Zb μ st.nx [.mapb w.heap.size []]) F∧VRel (Zb μ st.nx [.mapb w.heap.size []]) F (w.alloc (.map #[] 0)) (.mp st.nx) (.map (some w.heap.size)):=by
 refine⟨Vi hi (Xj w _) _ _ rfl ?_ ?_ ?_,?_⟩
 ·intro i o p ho hp
  cases i with
  | zero=>
    simp at ho hp
    subst ho hp
    simp only[ORel]
    exact⟨[],0,Jr w _,rfl,rfl,fun n e ck m he=>by simp at he,fun i j e e' he=>by simp at he,fun i j ck ck' x h=>by simp at h,fun ck h=>by simp at h,fun q h=>by cases h⟩
  | succ i=>simp at ho
 ·intro i p b hp hpo
  cases i with
  | zero=>simp at hp;subst hp;simp[Pl.own] at hpo;subst hpo;simp
  | succ i=>simp at hp
 ·intro i j p q b hp hq _ _
  cases i<;>cases j<;>simp at hp hq<;>rfl
 ·simp only[VRel]
  refine⟨w.heap.size,?_,rfl⟩
  have:Zb μ st.nx [Pl.mapb w.heap.size []] st.nx=Pl.mapb w.heap.size []:=by simpa using Z9 (μ:=μ) (nx:=st.nx) (ps:=[Pl.mapb w.heap.size []]) 0
  rw[this]
  rfl
theorem X1t {P:Program} {T:Tab} {c:Cx} {st:St} {a:Act} {w:World} {μ:Nat→Pl} {F:Nat→Prop} (hi:Inv c st a w μ F) {t:Nat} {f:Eff}
    (h:X07 T st.nx t=some f):Outc P c st a w (Instr.makeMap t none) f:=by
 unfold X07 at h
 split at h
 ·cases h
  rename_i p _
  have:=U3z hi p.1 p.2
  exact⟨_,_,_,F,by simp[Instr.makeMap],this.1,this.2⟩
 ·split at h<;>cases h
  rename_i p _
  have:=V36 hi p.1 p.2.1 p.2.2
  exact⟨_,_,_,F,by simp[Instr.makeMap],this.1,this.2⟩
theorem U2v {P:Program} {T:Tab} (hT:U2 P T) {w:World} {hp:Nat→LObj} {nx:Nat} {μ:Nat→Pl} {F:Nat→Prop} (hi:HInv w hp nx μ F) {t:Nat} {m k z:AV} {ok:Bool} {u v:Value}
    (h:V19 T hp t m k ok=some z) (hm:VRel μ F w m u) (hk:VRel μ F w k v):∃ q,(Instr.lookup t u v ok).run P w=.ok q w∧VRel μ F w z q:=by
 unfold V19 at h
 split at h<;>try cases h
 rename_i p j hp'
 obtain⟨kd,e,ht,hkt,hvt⟩:=X1n hT hp'
 split at h<;>try cases h
 rename_i kt vt es hes
 split at h<;>try cases h
 rename_i hpe
 obtain⟨rfl,hka⟩:=hpe
 split at h<;>try cases h
 rename_i x hx
 simp only[VRel] at hm
 obtain⟨b,hμ,rfl⟩:=hm
 have ho:=hi.obj j (by
  by_cases hlt:j < nx
  ·exact hlt
  ·rw[hi.top j (by omega)] at hμ;exact hμ.elim)
 rw[hes] at ho
 obtain⟨_,ms,clock,hb,hM⟩:=Z36 ho hμ
 obtain⟨d,hd,hkd⟩:=Q26 hT hkt
 have hkv:=J08 hka hx hk
 have hck:∀ e',(Instr.checkKey e' 10000 kd v).run P w=.ok () w:=fun e'=>MapKept.run_checkKey hd (X3g hkd hkv) e' 9999
 obtain⟨zv,hz1,hz2⟩:=Q3k hT hvt
 rcases Z13 hkd hkv es ms 0 hM with ⟨f1,f2,_⟩ | ⟨n,m,y,f1,f2,f3,f4,_,_⟩
 ·have hf:=MapKept.run_findKey (P:=P) (w:=w) hd f1
  have hg:getM kt vt x es=vt.dflt:=by simp[getM,f2]
  have hh:hasM kt vt x es=false:=by simp[hasM,f2]
  cases ok with
  | true=>
    simp only[if_true] at h
    cases h
    refine⟨.tuple #[zv,.bool false],by simp[Instr.lookup,run_underlying ht,MapKept.run_getObj_map hb,hck,hf,hz1],?_⟩
    simp only[VRel,U0]
    exact⟨[zv,.bool false],rfl,zv,[.bool false],rfl,by rw[hg];exact Q0k (hz2 F w),.bool false,[],rfl,by rw[hh],rfl⟩
  | false=>
    simp at h
    subst h
    exact⟨zv,by simp[Instr.lookup,run_underlying ht,MapKept.run_getObj_map hb,hck,hf,hz1],by rw[hg];exact Q0k (hz2 F w)⟩
 ·have hf:=MapKept.run_findKey (P:=P) (w:=w) hd f1
  have hg:getM kt vt x es=y:=by simp[getM,f3]
  have hh:hasM kt vt x es=true:=by simp[hasM,f3]
  cases ok with
  | true=>
    simp only[if_true] at h
    cases h
    refine⟨.tuple #[m.val,.bool true],by simp[Instr.lookup,run_underlying ht,MapKept.run_getObj_map hb,hck,hf],?_⟩
    simp only[VRel,U0]
    exact⟨[m.val,.bool true],rfl,m.val,[.bool true],rfl,by rw[hg];exact Q0k f4,.bool true,[],rfl,by rw[hh],rfl⟩
  | false=>
    simp at h
    subst h
    exact⟨m.val,by simp[Instr.lookup,run_underlying ht,MapKept.run_getObj_map hb,hck,hf],by rw[hg];exact Q0k f4⟩
theorem J2t (hp:Nat→LObj) (ks:List Nat) (v:AV) (h:v.isAgg=false):(v.frz hp ks).isAgg=false:=by
 cases v<;>first | rfl | (simp[AV.isAgg] at h;done) | skip
 all_goals simp only[AV.frz]
 all_goals (cases ks.contains _<;>simp only[cond_true,cond_false])
 all_goals first | rfl | skip
 all_goals (split<;>rfl)
theorem V2n {P:Program} {T:Tab} (hT:U2 P T) {c:Cx} {st:St} {a:Act} {w:World} {μ:Nat→Pl} {F:Nat→Prop} (hi:Inv c st a w μ F) {t j b:Nat} {kt vt:Ty} {es:List (kt.den×vt.den)}
    (hp':J0b T t=some (kt,vt)) (hes:st.hp j=.mpo kt vt es) (hμ:(μ j).mapAt b) {x:kt.den} {y:vt.den} {k v:Value} (hx:Enc F w kt x [k]) (hy:Enc F w vt y [v]) :
    ∃ w',(Instr.mapUpdate t (.map (some b)) k v).run P w=.ok () w'∧Inv c (st.upd j (.mpo kt vt (putM kt vt x y es))) a w' μ F:=by
 obtain⟨kd,e,ht,hkt,hvt⟩:=X1n hT hp'
 have hj:j < st.nx:=by
  by_cases hlt:j < st.nx
  ·exact hlt
  ·rw[hi.h.top j (by omega)] at hμ;exact hμ.elim
 have ho:=hi.h.obj j hj
 rw[hes] at ho
 obtain⟨hμ,ms,clock,hb,hM⟩:=Z36 ho hμ
 obtain⟨d,hd,hkd⟩:=Q26 hT hkt
 have hck:(Instr.checkKey false 10000 kd k).run P w=.ok () w:=MapKept.run_checkKey hd (X3g hkd hx) false 9999
 have hch:∀ o:Obj,Changed w { w with heap:=w.heap.setIfInBounds b o } (fun b'=>(μ j).own b'):=fun o=>
  ⟨rfl,rfl,rfl,by simp,fun b' _ hne=>(MapKept.heap_set (o':=o) hb).2 b' (fun e=>hne (by rw[hμ,e];rfl))⟩
 have hFw:∀ (o:Obj) b',F b'→({ w with heap:=w.heap.setIfInBounds b o }:World).heap[b']?=w.heap[b']?:=fun o b' hb'=>(MapKept.heap_set (o':=o) hb).2 b' (fun e=>(hi.h.out j b (by rw[hμ];rfl)).1 (e▸hb'))
 rcases Z13 hkd hx es ms 0 hM with ⟨f1,f2,f3⟩ | ⟨n,m,z,f1,f2,f3,f4,f5,f6⟩
 ·have hf:=MapKept.run_findKey (P:=P) (w:=w) hd f1
  refine⟨({ w with heap:=w.heap.setIfInBounds b (.map (ms++[({ key:=k,val:=v,born:=clock }:MapEntry)]).toArray (clock+1)) }:World),by simp[Instr.mapUpdate,run_underlying ht,MapKept.run_getObj_map hb,hck,hf,MapKept.run_setObj_map _ hb],?_⟩
  refine Um hi hj (hch _) ?_
  rw[hμ]
  simp only[ORel]
  refine⟨ms++[{ key:=k,val:=v,born:=clock }],clock+1,?_,(f3 y v clock hy).mono (fun _ h=>h) (hFw _)⟩
  rw[(MapKept.heap_set hb).1]
 ·have hf:=MapKept.run_findKey (P:=P) (w:=w) hd f1
  have hkeep:(Instr.keyThatStays (((ms.toArray[n]?).map (·.key)).getD k) k).run P w=.ok k w:=by
   have:ms.toArray[n]?=some m:=by simpa using f2
   rw[this]
   simp[Instr.keyThatStays,f5]
  refine⟨_,by
   simp only[Instr.mapUpdate,Sem.run_bind,run_underlying ht,Result.andThen_ok,MapKept.run_getObj_map hb,hck,hf]
   simp only[Nat.zero_add,hkeep,Result.andThen_ok,Sem.run_bind]
   exact MapKept.run_setObj_map _ hb,?_⟩
  refine Um hi hj (hch _) ?_
  rw[hμ]
  simp only[ORel]
  refine⟨ms.modify n (fun e=>{ e with key:=k,val:=v }),clock,?_,(f6 y v hy).mono (fun _ h=>h) (hFw _)⟩
  rw[(MapKept.heap_set hb).1]
  simp
theorem X23 {P:Program} {T:Tab} (hT:U2 P T) {c:Cx} {st:St} {a:Act} {w:World} {μ:Nat→Pl} {F:Nat→Prop} (hi:Inv c st a w μ F) {t:Nat} {m k v:AV} {f:Eff} {u uk uv:Value}
    (h:updE T st.hp t m k v=some f) (hm:VRel μ F w m u) (hk:VRel μ F w k uk) (hv:VRel μ F w v uv) :
    ∃ w' μ' F',(Instr.mapUpdate t u uk uv).run P w=.ok () w'∧Inv c (st.apply f).2 a w' μ' F'∧(st.apply f).1=.undef:=by
 unfold updE at h
 split at h<;>try cases h
 rename_i p j hp'
 split at h<;>try cases h
 rename_i kt vt es hes
 split at h<;>try cases h
 rename_i hpe
 obtain⟨rfl,hka,hva⟩:=hpe
 simp only[VRel] at hm
 obtain⟨b,hμ,rfl⟩:=hm
 split at h
 ·split at h<;>cases h
  rename_i x y hx hy
  obtain⟨w',g1,g2⟩:=V2n hT hi hp' hes hμ (J08 hka hx hk) (J08 hva hy hv)
  exact⟨w',μ,F,g1,g2,rfl⟩
 ·rename_i r rs hrs
  split at h<;>try cases h
  rename_i hrows
  split at h<;>cases h
  rename_i x y hx hy
  have hall:=J0m hi.h (r::rs) hrows (fun k hk=>Je hv k (hrs▸hk))
  have hks:∀ k,(r::rs).contains k=true→k < st.nx∧∃ al l cp sz,μ k=.row al l cp sz:=hall.1
  have hi2:=U0c hi hks
  have hjk:(r::rs).contains j=false:=by
   cases hc:(r::rs).contains j with
   | false=>rfl
   | true=>obtain⟨_,al,l,cp,sz,e⟩:=hks j hc;rw[e] at hμ;exact hμ.elim
  have hμ2:(Jf μ (r::rs) j).mapAt b:=by simp only[Jf,hjk];exact hμ
  have hes2:(st.frz (r::rs)).hp j=.mpo kt vt es:=by simp only[St.frz,hjk,cond_false,hes];rfl
  have hv2:=J0z hi hks hv
  have hxe:=(J08 hka hx hk).mono (F':=frzF μ F (r::rs)) (w':=w) (fun b h=>Or.inl h) (fun _ _=>rfl)
  have hye:=J08 (J2t _ _ _ hva) hy hv2
  obtain⟨w',g1,g2⟩:=V2n hT hi2 hp' hes2 hμ2 hxe hye
  refine⟨w',Jf μ (r::rs),frzF μ F (r::rs),g1,?_,rfl⟩
  have e:(st.apply (.call (r::rs) [j] [.mpo kt vt (putM kt vt x y es)] [.undef])).2=(st.frz (r::rs)).upd j (.mpo kt vt (putM kt vt x y es)):=by
   have hr0:V1 (st.frz (r::rs)).hp [j]=[]:=by simp only[V1,hes2]
   simp only[St.apply,List.length_cons,List.length_nil,List.drop_succ_cons,List.drop_nil,List.map_nil,St.news]
   rw[hr0]
   simp only[St.upd]
   congr 1
   ·funext t;exact Zz _
   ·funext k'
    simp only[J5]
    by_cases hkj:j=k'
    ·subst hkj
     simp[ofHp,LObj.ren]
    ·have h1:(j==k')=false:=by simpa using hkj
     have h2:(k'==j)=false:=by simpa using fun e:k'=j=>hkj e.symm
     rw[h1,h2]
     simp only[cond_false]
     cases hob:(st.frz (r::rs)).hp k'<;>simp only[LObj.kill]
     ·rw[Ju]
     ·rename_i foc
      cases foc<;>simp only[focR,Zz]
  rw[e]
  exact g2
theorem Qi:∀ {t:Ty} {x y:t.den},keqD t x y=true→x=y
 | .int _,x,y,h=>by simpa[keqD] using h
 | .bool,x,y,h=>by simpa[keqD] using h
 | .str,x,y,h=>by simpa[keqD] using h
 | .unit,x,y,_=>rfl
 | .pair a b,x,y,h=>by
   simp only[keqD,Bool.and_eq_true] at h
   exact Prod.ext (Qi h.1) (Qi h.2)
 | .list _,x,y,h=>by simp[keqD] at h
theorem Zr {κ α:Type} {eq:κ→κ→Bool} {x:κ}:∀ {es:List (κ×α)},hasB eq x es=true→∃ n e,es[n]?=some e∧eq x e.1=true∧Q06 eq x es=some e.2∧∀ v,putB eq x v es=es.set n (e.1,v)
 | [],h=>by simp[hasB,Q06] at h
 | e::es,h=>by
   cases hq:eq x e.1 with
   | true=>exact⟨0,e,rfl,hq,by simp[Q06,hq],fun v=>by simp[putB,hq]⟩
   | false=>
     have h':hasB eq x es=true:=by simpa[hasB,Q06,hq] using h
     obtain⟨n,e',h1,h2,h3,h4⟩:=Zr h'
     exact⟨n+1,e',by simpa using h1,h2,by simp[Q06,hq,h3],fun v=>by simp[putB,hq,h4]⟩
theorem Z0l {κ α:Type} {eq:κ→κ→Bool} {x:κ}:∀ {es:List (κ×α)},hasB eq x es=false→(∀ (n:Nat) e,es[n]?=some e→eq x e.1=false)∧∀ v,putB eq x v es=es++[(x,v)]
 | [],h=>⟨fun n e h=>by simp at h,fun v=>rfl⟩
 | e::es,h=>by
   cases hq:eq x e.1 with
   | true=>simp[hasB,Q06,hq] at h
   | false=>
     have h':hasB eq x es=false:=by simpa[hasB,Q06,hq] using h
     obtain⟨h1,h2⟩:=Z0l h'
     refine⟨fun n e' he=>?_,fun v=>by simp[putB,hq,h2]⟩
     cases n with
     | zero=>simp at he;subst he;exact hq
     | succ n=>exact h1 n e' (by simpa using he)
theorem V11 {κ α:Type} {eq:κ→κ→Bool} {x:κ} {es:List (κ×α)} {n:Nat} {e:κ×α} (h:es[n]?=some e) (hk:eq x e.1=true):hasB eq x es=true:=by
 cases hb:hasB eq x es with
 | true=>rfl
 | false=>have:=(Z0l hb).1 n e h;rw[hk] at this;cases this
theorem Jy {T:Tab} {t:Nat} {a:Ty} (h:Xr T t=some a):T.size t=some 1∧T.agg t=false∧((∃ k,T.desc t=.int k∧a=.int k)∨(T.desc t=.str∧a=.str)∨(T.desc t=.bool∧a=.bool)):=by
 unfold Xr at h
 split at h
 ·rename_i r hr
  split at h
  ·rename_i hs
   have hd:T.desc t=r.desc:=by simp[Tab.desc,hr]
   split at h<;>cases h<;>rename_i hk<;>(rw[hk] at hd)
   ·exact⟨by simp[Tab.size,hr,hs],by simp[Tab.agg,hd,TD.agg],.inl ⟨_,hd,rfl⟩⟩
   ·exact⟨by simp[Tab.size,hr,hs],by simp[Tab.agg,hd,TD.agg],.inr (.inl ⟨hd,rfl⟩)⟩
   ·exact⟨by simp[Tab.size,hr,hs],by simp[Tab.agg,hd,TD.agg],.inr (.inr ⟨hd,rfl⟩)⟩
  ·cases h
 ·cases h
theorem Xh {T:Tab} {t:Nat} {a:Ty} (h:Xr T t=some a) (x:a.den):∃ c,flat a x=[c]:=by
 obtain⟨_,_,⟨k,_,rfl⟩ | ⟨_,rfl⟩ | ⟨_,rfl⟩⟩:=Jy h<;>exact⟨_,rfl⟩
theorem Jh {T:Tab} {t:Nat} {a:Ty} (h:Xr T t=some a) {pre post:List AV} {c:AV}:Vs T t (pre++[c]++post) pre.length=some c:=by
 obtain⟨h1,h2,_⟩:=Jy h
 simp[Vs,h1,h2]
theorem X0y {T:Tab} {t:Nat} {a:Ty} (h:Xr T t=some a) (d:Nat) {x y:a.den} {c c':AV} (hc:flat a x=[c]) (hc':flat a y=[c']):eqV T (d+1) t c c'=some (keqD a x y):=by
 obtain⟨_,_,⟨k,hd,rfl⟩ | ⟨hd,rfl⟩ | ⟨hd,rfl⟩⟩:=Jy h<;>simp only[flat,List.cons.injEq,and_true] at hc hc'<;>subst hc hc'<;>simp only[eqV,hd,keqD,if_true]
 rfl
theorem J1k {T:Tab} (d:Nat):∀ (fs:List (Nat×Nat)) (n:Nat) (kt:Ty) (x y:kt.den) (pre pre':List AV),U0f T fs n=some kt→pre.length=n→pre'.length=n→
    eqFs T (eqV T (d+1)) (pre++flat kt x) (pre'++flat kt y) fs=some (keqD kt x y)
 | [],_,_,_,_,_,_,h,_,_=>by simp[U0f] at h
 | [(off,t)],n,kt,x,y,pre,pre',h,h1,h2=>by
   simp only[U0f] at h
   split at h
   ·rename_i ho
    subst ho
    obtain⟨c,hc⟩:=Xh h x
    obtain⟨c',hc'⟩:=Xh h y
    have p1:=Jh h (pre:=pre) (post:=[]) (c:=c)
    have p2:=Jh h (pre:=pre') (post:=[]) (c:=c')
    rw[List.append_nil,h1] at p1
    rw[List.append_nil,h2] at p2
    simp only[eqFs,hc,hc',p1,p2,X0y h d hc hc',Bool.and_true]
   ·cases h
 | (off,t)::f::fs,n,kt,x,y,pre,pre',h,h1,h2=>by
   simp only[U0f] at h
   split at h
   ·rename_i ho
    subst ho
    split at h
    ·rename_i a b ha hb
     cases h
     obtain⟨c,hc⟩:=Xh ha x.1
     obtain⟨c',hc'⟩:=Xh ha y.1
     have p1:=Jh ha (pre:=pre) (post:=flat b x.2) (c:=c)
     have p2:=Jh ha (pre:=pre') (post:=flat b y.2) (c:=c')
     rw[h1] at p1
     rw[h2] at p2
     have ih:=J1k d (f::fs) (off+1) b x.2 y.2 (pre++[c]) (pre'++[c']) hb (by simp[h1]) (by simp[h2])
     have e1:pre++flat (.pair a b) x=pre++[c]++flat b x.2:=by simp[flat,hc]
     have e2:pre'++flat (.pair a b) y=pre'++[c']++flat b y.2:=by simp[flat,hc']
     rw[e1,e2,eqFs,p1,p2]
     simp only
     rw[X0y ha d hc hc',ih]
     rfl
    ·cases h
   ·cases h
theorem Z1j {T:Tab}:∀ (fs:List (Nat×Nat)) (n:Nat) (kt:Ty) (x:kt.den) (pre:List AV),U0f T fs n=some kt→pre.length=n→
    ∀ p,p∈fs→∃ a c,Xr T p.2=some a∧Vs T p.2 (pre++flat kt x) p.1=some c
 | [],_,_,_,_,h,_=>by simp[U0f] at h
 | [(off,t)],n,kt,x,pre,h,h1=>by
   simp only[U0f] at h
   split at h
   ·rename_i ho
    subst ho
    obtain⟨c,hc⟩:=Xh h x
    have p1:=Jh h (pre:=pre) (post:=[]) (c:=c)
    rw[List.append_nil,h1] at p1
    intro p hp
    simp at hp
    subst hp
    exact⟨kt,c,h,by rw[hc];exact p1⟩
   ·cases h
 | (off,t)::f::fs,n,kt,x,pre,h,h1=>by
   simp only[U0f] at h
   split at h
   ·rename_i ho
    subst ho
    split at h
    ·rename_i a b ha hb
     cases h
     obtain⟨c,hc⟩:=Xh ha x.1
     have p1:=Jh ha (pre:=pre) (post:=flat b x.2) (c:=c)
     rw[h1] at p1
     have e1:pre++flat (.pair a b) x=pre++[c]++flat b x.2:=by simp[flat,hc]
     intro p hp
     rw[e1]
     rcases List.mem_cons.1 hp with rfl | hp
     ·exact⟨a,c,ha,p1⟩
     ·exact Z1j (f::fs) (off+1) b x.2 (pre++[c]) hb (by simp[h1]) p hp
    ·cases h
   ·cases h
theorem X1b {μ:Nat→Pl} {F:Nat→Prop} {w:World} {kt:Ty} {x:kt.den} {v:Value} (h:Uz F w kt x v):VRel μ F w (.agg (flat kt x)) v:=by
 obtain⟨us,rfl,h⟩:=h
 simp only[VRel]
 exact⟨us,rfl,Vl kt x us h,h.one⟩
theorem U3l {μ:Nat→Pl} {F:Nat→Prop} {w:World} {T:Tab} {k:Nat} {kt:Ty} (hkt:keyB T k=some kt) {c:AV} {x:kt.den} {v:Value} (h:asTy kt c=some x) (hv:VRel μ F w c v) (ha:c.isAgg=true):Uz F w kt x v:=by
 cases c<;>simp[AV.isAgg] at ha
 have he:=Q0n h hv
 simp only[VRel] at hv
 obtain⟨us,rfl,_,_⟩:=hv
 exact⟨us,rfl,by simpa[Value.cells] using he⟩
theorem V4f {P:Program} {T:Tab} (hT:U2 P T) {F:Nat→Prop} {w:World} {k:Nat} {kt:Ty} (hkt:keyB T k=some kt) {x y:kt.den} {u v:Value} (hu:Uz F w kt x u) (hv:Uz F w kt y v) :
    (Op.equal k u v).run P w=.ok (keqD kt x y) w:=by
 unfold keyB at hkt
 split at hkt
 ·rename_i fs hd
  have h:eqV T 12 k (.agg (flat kt x)) (.agg (flat kt y))=some (keqD kt x y):=by
   simp only[eqV,hd]
   exact J1k 10 fs 0 kt x y [] [] hkt rfl rfl
  exact U1u hT _ k _ _ u v _ w (U15 12 Op.maxDepth k _ _ _ (by decide) h) (X1b (μ:=fun _=>.none) hu) (X1b hv)
 ·cases hkt
theorem U25 {P:Program} {T:Tab} (hT:U2 P T) {t:Nat} {a:Ty} (h:Xr T t=some a) (e:Bool) (n:Nat) (v:Value) (w:World):(Instr.checkKey e (n+1) t v).run P w=.ok () w:=by
 obtain⟨_,_,h⟩:=Jy h
 have:∃ d,P.underlying t=some d∧((∃ k,d=.int k)∨d=.string∨d=.bool):=by
  obtain⟨k,hd,rfl⟩ | ⟨hd,rfl⟩ | ⟨hd,rfl⟩:=h
  ·have:=Q2 hT hd (by simp);exact⟨_,by simpa only[Q3] using this,.inl ⟨k,rfl⟩⟩
  ·have:=Q2 hT hd (by simp);exact⟨_,by simpa only[Q3] using this,.inr (.inl rfl)⟩
  ·have:=Q2 hT hd (by simp);exact⟨_,by simpa only[Q3] using this,.inr (.inr rfl)⟩
 obtain⟨d,hd,hk⟩:=this
 unfold Instr.checkKey
 obtain⟨k,rfl⟩ | rfl | rfl:=hk<;>simp[run_underlying hd]
theorem X0l {P:Program} {T:Tab} (hT:U2 P T) {μ:Nat→Pl} {F:Nat→Prop} {w:World} {cs:List AV} {us:List Value} (hu:U0 μ F w cs us) (h1:∀ u∈us,u.oneCell'=true) (e:Bool) (n:Nat) :
    ∀ (L : List Field), (∀ f, f ∈ L → f.name ≠ "_") → (∀ f, f ∈ L → ∃ a c, Xr T f.type = some a ∧ Vs T f.type cs f.offset = some c) →
    (forIn L PUnit.unit fun(f:Field) (_:PUnit)=>(do
     if f.name ≠ "_" then
      let v ← part f.type us.toArray f.offset
      Instr.checkKey e (n+1) f.type v
     pure (ForInStep.yield PUnit.unit):Sem (ForInStep PUnit))).run P w=.ok PUnit.unit w
 | [],_,_=>by simp
 | f::L,hn,hp=>by
   obtain⟨a,c,hk,hc⟩:=hp f (by simp)
   obtain⟨v,e1,_⟩:=X08 hT hc hu h1 w
   have ih:=X0l hT hu h1 e n L (fun f hf=>hn f (by simp[hf])) fun f hf=>hp f (by simp[hf])
   simp only[List.forIn_cons,Sem.run_bind,hn f (by simp),ne_eq,not_false_eq_true,if_true,e1,Result.andThen_ok,U25 hT hk,Sem.run_pure]
   exact ih
theorem J0o {P:Program} {T:Tab} (hT:U2 P T) {F:Nat→Prop} {w:World} {k:Nat} {kt:Ty} (hkt:keyB T k=some kt) {x:kt.den} {u:Value} (hu:Uz F w kt x u) (e:Bool) :
    (Instr.checkKey e 10000 k u).run P w=.ok () w:=by
 unfold keyB at hkt
 split at hkt
 ·rename_i fs hd
  have ht:=Q2 hT hd (by simp)
  simp only[Q3] at ht
  obtain⟨fields,ht,hfs,hn,_,_⟩:=ht
  have hv:=X1b (μ:=fun _=>.none) hu
  simp only[VRel] at hv
  obtain⟨us,rfl,h1,h2⟩:=hv
  have:=X0l (P:=P) hT h1 h2 e 9998 fields.toList hn fun f hf=>by
   have:=Z1j fs 0 kt x [] hkt rfl (f.offset,f.type) (by rw[←hfs];exact List.mem_map.2 ⟨f,hf,rfl⟩)
   simpa using this
  rw[show (10000:Nat)=9999+1 from rfl,Instr.checkKey]
  simp only[Sem.run_bind,run_underlying ht,Result.andThen_ok]
  rw[←Array.forIn_toList]
  exact(congrArg (fun r=>Result.andThen r fun a w'=>Sem.run P (pure ()) w') this).trans rfl
 ·cases hkt
theorem V1s {P:Program} {T:Tab} (hT:U2 P T) {F:Nat→Prop} {w:World} {k:Nat} {kt:Ty} (hkt:keyB T k=some kt) {α:Type} {x:kt.den} {u:Value} (hu:Uz F w kt x u) :
    ∀ (es:List (kt.den×α)) (ms:List MapEntry) (i:Nat),ms.length=es.length→(∀ (n:Nat) e m,es[n]?=some e→ms[n]?=some m→Uz F w kt e.1 m.key)→
      (hasB (keqD kt) x es=false∧(Instr.findAsking k u ms i).run P w=.ok none w) ∨
      ∃ n e m,es[n]?=some e∧ms[n]?=some m∧keqD kt x e.1=true∧(Instr.findAsking k u ms i).run P w=.ok (some (i+n,m.val)) w
 | [],[],i,_,_=>.inl ⟨rfl,by simp[Instr.findAsking]⟩
 | [],m::ms,i,h,_=>by simp at h
 | e::es,[],i,h,_=>by simp at h
 | e::es,m::ms,i,h,hk=>by
   have hq:=V4f hT hkt hu (hk 0 e m rfl rfl)
   cases hb:keqD kt x e.1 with
   | true=>
     rw[hb] at hq
     exact .inr ⟨0,e,m,rfl,rfl,hb,by simp[Instr.findAsking,hq]⟩
   | false=>
     rw[hb] at hq
     rcases V1s hT hkt hu es ms (i+1) (by simpa using h) (fun n e' m' h1 h2=>hk (n+1) e' m' (by simpa using h1) (by simpa using h2)) with ⟨h1,h2⟩ | ⟨n,e',m',h1,h2,h3,h4⟩
     ·exact .inl ⟨by simpa[hasB,Q06,hb] using h1,by simp[Instr.findAsking,hq,h2]⟩
     ·exact .inr ⟨n+1,e',m',by simpa using h1,by simpa using h2,h3,by simp[Instr.findAsking,hq,h4];omega⟩
theorem V24 {P:Program} {T:Tab} (hT:U2 P T) {w:World} {k:Nat} {kt:Ty} (hkt:keyB T k=some kt) (u:Value) (ms:List MapEntry) :
    (Instr.findKey k u ms).run P w=(Instr.findAsking k u ms 0).run P w:=by
 unfold keyB at hkt
 split at hkt
 ·rename_i fs hd
  have ht:=Q2 hT hd (by simp)
  simp only[Q3] at ht
  obtain⟨fields,ht,_⟩:=ht
  cases ms with
  | nil=>simp[Instr.findKey,run_underlying ht,Instr.findNow,Instr.findAsking]
  | cons m ms=>simp[Instr.findKey,run_underlying ht,Instr.findNow,Instr.sameNow]
 ·cases hkt
theorem U2s {P:Program} {T:Tab} (hT:U2 P T) {t:Nat} {p:IntKind×Ty} (h:V1u T t=some p) (w:World):(zeroValue t).run P w=.ok (.pointer none) w:=by
 unfold V1u at h
 split at h
 ·rename_i r hr
  split at h
  ·rename_i s hd hz
   obtain⟨i,z,e1,e2,e3,e4,e5,e6,e7,e8⟩:=(hT t r hr).info
   have hc:z.cells=#[z]:=(hT t r hr).plain (by rw[hd];rfl) i z e1 e4
   have:=e6 (fun _=>.none) (fun _=>False) w
   rw[hz,hc] at this
   simp[U0,VRel] at this
   subst this
   simp[zeroValue,typeInfo,e1,e4]
  ·cases h
 ·cases h
theorem Z1y {P:Program} {T:Tab} (hT:U2 P T) {t:Nat} {p:Ty×IntKind×Ty} (h:V22 T t=some p):∃ k e,P.underlying t=some (.map k e)∧keyB T k=some p.1∧V1u T e=some p.2:=by
 unfold V22 at h
 split at h
 ·rename_i k e hd
  split at h
  ·rename_i kt q h1 h2
   cases h
   exact⟨k,e,by have:=Q2 hT hd (by simp);simpa only[Q3] using this,h1,h2⟩
  ·cases h
 ·cases h
theorem V1l (o:LObj):o.kill []=o:=by
 cases o<;>simp only[LObj.kill,Ju]
 rename_i foc
 cases foc<;>simp only[focR,Zz]
theorem X0d {μ μ':Nat→Pl} {F:Nat→Prop} {w w':World} (hw:∀ b,F b→w'.heap[b]?=w.heap[b]?) (hμ:∀ k,(μ k).isRow→μ' k=μ k) (hb:∀ k b,μ k=.box b→μ' k=.box b) (hm:∀ k b,(μ k).mapAt b→(μ' k).mapAt b) {x:AV} {v:Value}
    (h:VRel μ F w x v):VRel μ' F w' x v:=by
 have:=U02 (ks:=[]) (fun _ h=>h) hw (fun k _=>hμ k) hb hm h
 rwa [Zz] at this
theorem Q0s {μ μ':Nat→Pl} {F:Nat→Prop} {w w':World} (hw:∀ b,F b→w'.heap[b]?=w.heap[b]?) (hμ:∀ k,(μ k).isRow→μ' k=μ k) (hb:∀ k b,μ k=.box b→μ' k=.box b) (hm:∀ k b,(μ k).mapAt b→(μ' k).mapAt b) {o:LObj} {p:Pl}
    (ho:∀ b,p.own b→w'.heap[b]?=w.heap[b]?) (h:ORel μ F w o p):ORel μ' F w' o p:=by
 have:=V0q (ks:=[]) (fun _ h=>h) hw (fun k _=>hμ k) hb hm ho h
 rwa [V1l] at this
theorem Jj {α:Type} {l:List α} {n i:Nat} {x y:α} (h:(l.set n x)[i]?=some y):(i=n∧y=x)∨(i≠n∧l[i]?=some y):=by
 by_cases hi:i=n
 ·subst hi
  rw[List.getElem?_set_self'] at h
  cases hl:l[i]? with
  | none=>rw[hl] at h;cases h
  | some z=>rw[hl] at h;cases h;exact .inl ⟨rfl,rfl⟩
 ·rw[List.getElem?_set_ne (Ne.symm hi)] at h
  exact .inr ⟨hi,h⟩
theorem Z3v {c:Cx} {st:St} {a:Act} {w:World} {μ:Nat→Pl} {F:Nat→Prop} (hi:Inv c st a w μ F) {kt:Ty} {ki:IntKind} {t:Ty} {es:List (kt.den×(Int×List t.den))} {j b n clock:Nat} {cks:List (List Nat)} {ms:List MapEntry}
    (hes:st.hp j=.mpb kt ki t es none) (hμ:μ j=.mapb b cks) (hM:MapbAt μ F w kt ki t es none b cks ms clock) {x:kt.den} {e:kt.den×(Int×List t.den)} {m:MapEntry} (he:es[n]?=some e) (hm:ms[n]?=some m) (hk:keqD kt x e.1=true) :
    ∃ μ',Inv c ((st.upd j (.mpb kt ki t es (some (x,.ptr st.nx 0)))).news [.boxT none [.int ki e.2.1,.rowA (st.nx+1)],.row t e.2.2]) a w μ' F∧VRel μ' F w (.ptr st.nx 0) m.val:=by
 have hj:j < st.nx:=X3 hi.h (by rw[hμ];simp)
 have hn:n < es.length:=(List.getElem?_eq_some_iff.1 he).1
 obtain⟨ck,hck⟩:∃ ck,cks[n]?=some ck:=⟨_,List.getElem?_eq_getElem (by rw[hM.lc];exact hn)⟩
 obtain⟨hkey,hset,_⟩:=hM.en n e ck m he hck hm
 obtain⟨bb,al,cap,E,fz,A,hv,hbb,hfz,hA,rfl,hne,hrow⟩:=hset rfl
 have hxe:=Qi hk
 subst hxe
 have hnq:∀ i e',es[i]?=some e'→keqD kt e.1 e'.1=true→i=n:=fun i e' h1 h2=>(hM.keys n i e e' he h1 h2).symm
 obtain⟨μ',hμ'⟩:∃ μ',μ'=Vc (Zb μ st.nx [.box bb,.row al e.2.2.length cap t.sz]) j (.mapb b (cks.set n [])):=⟨_,rfl⟩
 have hj1:μ' j=.mapb b (cks.set n []):=by rw[hμ'];exact U9 _ _ _
 have hnx:μ' st.nx=.box bb:=by rw[hμ',J7 (by omega)];exact Z9 0
 have hnx1:μ' (st.nx+1)=.row al e.2.2.length cap t.sz:=by rw[hμ',J7 (by omega)];exact Z9 1
 have hold:∀ k,k < st.nx→k≠j→μ' k=μ k:=fun k h1 h2=>by rw[hμ',J7 h2,Vq h1]
 have htop:∀ k,st.nx+2≤k→μ' k=.none:=fun k h=>by
  rw[hμ',J7 (by omega)]
  obtain⟨i,rfl⟩:∃ i,k=st.nx+(i+2):=⟨k - st.nx - 2,by omega⟩
  rw[Z9]
  rfl
 have hR:∀ k,(μ k).isRow→μ' k=μ k:=fun k h=>hold k (X3 hi.h (by intro e;rw[e] at h;exact h)) (by rintro rfl;rw[hμ] at h;exact h)
 have hB:∀ k b',μ k=.box b'→μ' k=.box b':=fun k b' h=>by
  rw[hold k (X3 hi.h (by rw[h];simp)) (by rintro rfl;rw[hμ] at h;cases h)];exact h
 have hMp:∀ k b',(μ k).mapAt b'→(μ' k).mapAt b':=fun k b' h=>by
  by_cases hkj:k=j
  ·subst hkj;rw[hμ] at h;rw[hj1];exact h
  ·rw[hold k (X3 hi.h (Pl.mapAt_ne h)) hkj];exact h
 have hcase:∀ k,k=j∨(k < st.nx∧k≠j)∨k=st.nx∨k=st.nx+1∨st.nx+2≤k:=fun k=>by omega
 have hown:∀ k y,(μ' k).own y→(k < st.nx∧k≠j∧(μ k).own y)∨(k=j∧(b=y∨∃ i ck',i≠n∧cks[i]?=some ck'∧y∈ck'))∨(k=st.nx∧bb=y)∨(k=st.nx+1∧y∈Vp al cap):=fun k y h=>by
  rcases hcase k with rfl | ⟨h1,h2⟩ | rfl | rfl | h1
  ·rw[hj1] at h
   refine .inr (.inl ⟨rfl,?_⟩)
   rcases h with h | ⟨ck',h1,h2⟩
   ·exact .inl h
   ·obtain⟨i,hi'⟩:=List.mem_iff_getElem?.1 h1
    rcases Jj hi' with ⟨_,rfl⟩ | ⟨h3,h4⟩
    ·simp at h2
    ·exact .inr ⟨i,ck',h3,h4,h2⟩
  ·rw[hold k h1 h2] at h;exact .inl ⟨h1,h2,h⟩
  ·rw[hnx] at h;exact .inr (.inr (.inl ⟨rfl,h⟩))
  ·rw[hnx1] at h;exact .inr (.inr (.inr ⟨rfl,X0r.2 h⟩))
  ·rw[htop k h1] at h;exact h.elim
 have hmine:∀ y,(b=y∨∃ i ck',i≠n∧cks[i]?=some ck'∧y∈ck')→(μ j).own y:=fun y h=>by
  rw[hμ]
  rcases h with h | ⟨i,ck',_,h1,h2⟩
  ·exact .inl h
  ·exact .inr ⟨ck',List.mem_of_getElem? h1,h2⟩
 have hmine2:(μ j).own bb:=by rw[hμ];exact .inr ⟨_,List.mem_of_getElem? hck,by simp⟩
 have hmine3:∀ y,y∈Vp al cap→(μ j).own y:=fun y h=>by rw[hμ];exact .inr ⟨_,List.mem_of_getElem? hck,by simp[h]⟩
 have hoff:∀ y,(b=y∨∃ i ck',i≠n∧cks[i]?=some ck'∧y∈ck')→y ∉ bb::Vp al cap:=fun y h h'=>by
  rcases h with rfl | ⟨i,ck',h1,h2,h3⟩
  ·exact hM.off _ (List.mem_of_getElem? hck) h'
  ·exact h1 (hM.apart i n ck' _ y h2 hck h3 h')
 have hM':MapbAt μ' F w kt ki t es (some (e.1,.ptr st.nx 0)) b (cks.set n []) ms clock:=by
  refine⟨hM.at_,hM.lm,by simp[hM.lc],fun i e' ck' m' h1 h2 h3=>?_,hM.keys,fun i i' ck' ck'' y h1 h2 h3 h4=>?_,fun ck' h1 h2=>?_,fun q hq=>?_⟩
  ·rcases Jj h2 with ⟨rfl,rfl⟩ | ⟨h4,h5⟩
   ·rw[he] at h1;cases h1
    rw[hm] at h3;cases h3
    refine⟨hkey,fun hf=>?_,fun _=>⟨rfl,fun q hq=>?_⟩⟩
    ·simp only[V0x] at hf;rw[hk] at hf;cases hf
    ·cases hq
     simp only[VRel]
     exact⟨bb,hnx,hv⟩
   ·obtain⟨g1,g2,g3⟩:=hM.en i e' ck' m' h1 h5 h3
    refine⟨g1,fun _=>g2 rfl,fun hf=>?_⟩
    exact absurd (hnq i e' h1 hf) h4
  ·rcases Jj h1 with ⟨_,rfl⟩ | ⟨g1,g2⟩
   ·simp at h3
   ·rcases Jj h2 with ⟨_,rfl⟩ | ⟨g3,g4⟩
    ·simp at h4
    ·exact hM.apart i i' ck' ck'' y g2 g4 h3 h4
  ·obtain⟨i,hi'⟩:=List.mem_iff_getElem?.1 h1
   rcases Jj hi' with ⟨_,rfl⟩ | ⟨g1,g2⟩
   ·simp at h2
   ·exact hM.off _ (List.mem_of_getElem? g2) h2
  ·cases hq;exact⟨n,e,he,hk⟩
 refine⟨μ',Z1b (own:=fun _=>False) hi ((Grew.refl w).changed _) (fun _ h=>h.elim) (fun k hk=>?_) (fun k hk=>?_) (fun k k' y h1 h2=>?_) (fun k y h=>?_) (fun k b' _ h=>hB k b' h) (fun k b' _ h=>hMp k b' h) ?_ (fun i v h=>?_),by simp only[VRel];exact⟨bb,hnx,hv⟩⟩
 ·rw[U7] at hk
  have hk:k < st.nx+2:=hk
  rcases hcase k with rfl | ⟨h1,h2⟩ | rfl | rfl | h1
  ·rw[Ve _ (st.upd _ _) _ hj,hj1]
   simp only[St.upd,beq_self_eq_true,cond_true,ORel]
   exact⟨ms,clock,hM'⟩
  ·rw[Ve _ (st.upd _ _) _ h1,hold k h1 h2]
   have hkj:(k==j)=false:=by simpa using h2
   simp only[St.upd,hkj,cond_false]
   exact Q0s (fun _ _=>rfl) hR hB hMp (fun _ _=>rfl) (hi.h.obj k h1)
  ·have this:((st.upd j (.mpb kt ki t es (some (e.1,.ptr st.nx 0)))).news [.boxT none [.int ki e.2.1,.rowA (st.nx+1)],.row t e.2.2]).hp st.nx=.boxT none [.int ki e.2.1,.rowA (st.nx+1)]:=Z0d [.boxT none [.int ki e.2.1,.rowA (st.nx+1)],.row t e.2.2] (st.upd j (.mpb kt ki t es (some (e.1,.ptr st.nx 0)))) 0 _ rfl
   rw[this,hnx]
   simp only[ORel]
   refine⟨[.int ki e.2.1,.slice A e.2.2.length cap],E,fz,hbb,hfz,?_,by simp[Value.oneCell'],fun n hn=>by cases hn⟩
   simp only[U0,VRel]
   exact⟨_,_,rfl,rfl,_,_,rfl,⟨al,_,cap,_,A,hnx1,rfl,hA⟩,rfl⟩
  ·have this:((st.upd j (.mpb kt ki t es (some (e.1,.ptr st.nx 0)))).news [.boxT none [.int ki e.2.1,.rowA (st.nx+1)],.row t e.2.2]).hp (st.nx+1)=.row t e.2.2:=Z0d [.boxT none [.int ki e.2.1,.rowA (st.nx+1)],.row t e.2.2] (st.upd j (.mpb kt ki t es (some (e.1,.ptr st.nx 0)))) 1 _ rfl
   rw[this,hnx1]
   simp only[ORel]
   exact⟨trivial,trivial,hrow⟩
  ·omega
 ·rw[U7] at hk
  exact htop k hk
 ·rcases hown k y h1 with ⟨a1,a2,a3⟩ | ⟨rfl,a3⟩ | ⟨rfl,a3⟩ | ⟨rfl,a3⟩<;>rcases hown k' y h2 with ⟨c1,c2,c3⟩ | ⟨rfl,c3⟩ | ⟨rfl,c3⟩ | ⟨rfl,c3⟩
  ·exact hi.h.one k k' y a3 c3
  ·exact absurd (hi.h.one k _ y a3 (hmine y c3)) a2
  ·subst c3;exact absurd (hi.h.one k j _ a3 hmine2) a2
  ·exact absurd (hi.h.one k j y a3 (hmine3 y c3)) a2
  ·exact absurd (hi.h.one k' _ y c3 (hmine y a3)) c2
  ·rfl
  ·subst c3;exact absurd (by simp) (hoff _ a3)
  ·exact absurd (by simp[c3]) (hoff y a3)
  ·subst a3;exact absurd (hi.h.one k' j _ c3 hmine2) c2
  ·subst a3;exact absurd (by simp) (hoff _ c3)
  ·rfl
  ·subst a3;exact absurd c3 hne
  ·exact absurd (hi.h.one k' j y c3 (hmine3 y a3)) c2
  ·exact absurd (by simp[a3]) (hoff y c3)
  ·subst c3;exact absurd a3 hne
  ·rfl
 ·rcases hown k y h with ⟨a1,a2,a3⟩ | ⟨rfl,a3⟩ | ⟨rfl,a3⟩ | ⟨rfl,a3⟩
  ·exact⟨k,a3⟩
  ·exact⟨_,hmine y a3⟩
  ·subst a3;exact⟨j,hmine2⟩
  ·exact⟨j,hmine3 y a3⟩
 ·rw[U7];exact Nat.le_trans hi.n0 (Nat.le_add_right _ _)
 ·rw[Xx]
  exact X0d (fun _ _=>rfl) hR hB hMp h
theorem Q2d {P:Program} {T:Tab} (hT:U2 P T) {R:Type} {K:Eff→Option R} {r:R} {c:Cx} {st:St} {a:Act} {w:World} {μ:Nat→Pl} {F:Nat→Prop} (hi:Inv c st a w μ F) {t:Nat} {m k:AV} {ok:Bool} {u v:Value}
    (h:U05 T st.hp st.nx t m k ok K=some r) (hm:VRel μ F w m u) (hk:VRel μ F w k v):∃ f,K f=some r∧Outc P c st a w (Instr.lookup t u v ok) f:=by
 unfold U05 at h
 split at h<;>try cases h
 rename_i p j hp
 obtain⟨kd,e,ht,hkt,hpt⟩:=Z1y hT hp
 split at h<;>try cases h
 rename_i kt ki τ es foc hes
 split at h<;>try cases h
 rename_i hpe
 obtain⟨rfl,hka⟩:=hpe
 split at h<;>try cases h
 rename_i x hx
 simp only[VRel] at hm
 obtain⟨b,hmb,rfl⟩:=hm
 have hj:j < st.nx:=X3 hi.h (Pl.mapAt_ne hmb)
 have ho:=hi.h.obj j hj
 rw[hes] at ho
 obtain⟨cks,ms,clock,hμ,hM⟩:=U35 ho hmb
 have hkv:Uz F w kt x v:=U3l hkt hx hk hka
 have hck:∀ e',(Instr.checkKey e' 10000 kd v).run P w=.ok () w:=fun e'=>J0o hT hkt hkv e'
 have hz:=fun w=>U2s hT hpt w
 have hask:=V1s hT hkt hkv es ms 0 hM.lm (fun n e' m' h1 h2=>(hM.en n e' _ m' h1 (List.getElem?_eq_getElem (by rw[hM.lc];exact(List.getElem?_eq_some_iff.1 h1).1)) h2).1)
 rw[←V24 hT hkt] at hask
 have hb:=hM.at_
 cases foc with
 | none=>
   rcases hask with ⟨h1,h2⟩ | ⟨n,e',m',h1,h2,h3,h4⟩
   ·simp only[h1,cond_false] at h
    exact⟨_,h,U3 hi (by simp[Instr.lookup,run_underlying ht,MapKept.run_getObj_map hb,hck,h2,hz];rfl) (by simp[VRel])⟩
   ·have hh:=V11 h1 h3
    simp only[hh,cond_true] at h
    have hg:getB (keqD kt) (0,[]) x es=e'.2:=by
     obtain⟨n2,e2,g1,g2,g3,_⟩:=Zr hh
     have:=Qi h3
     subst this
     have:=hM.keys n n2 e' e2 h1 g1 g2
     subst this
     rw[h1] at g1
     cases g1
     simp[getB,g3]
    rw[hg] at h
    obtain⟨μ',g1,g2⟩:=Z3v hi hes hμ hM h1 h2 h3
    exact⟨_,h,m'.val,w,μ',F,by simp[Instr.lookup,run_underlying ht,MapKept.run_getObj_map hb,hck,h4],g1,g2⟩
 | some q=>
   obtain⟨hq,h'⟩:=Z4 h
   obtain⟨n,e1,m1,g1,g2,g3,g4,g5⟩:=hM.out
   have hxq:=Qi hq
   subst hxq
   rcases hask with ⟨h1,h2⟩ | ⟨n',e',m',h1,h2,h3,h4⟩
   ·rw[V11 g1 g2] at h1;cases h1
   ·have hqe:=Qi g2
    have:n=n':=hM.keys n n' e1 e' g1 h1 (by rw[←hqe];exact h3)
    subst this
    rw[g3] at h2
    cases h2
    exact⟨_,h',U3 hi (by simp[Instr.lookup,run_underlying ht,MapKept.run_getObj_map hb,hck,h4]) g5⟩
theorem Z2r {P:Program} {T:Tab} (hT:U2 P T) {R:Type} {K:Eff→Option R} {r:R} {c:Cx} {st:St} {a:Act} {w:World} {μ:Nat→Pl} {F:Nat→Prop} (hi:Inv c st a w μ F) {t:Nat} {m k v:AV} {u uk uv:Value}
    (h:V0v T st.hp t m k v K=some r) (hm:VRel μ F w m u) (hk:VRel μ F w k uk) (hv:VRel μ F w v uv) :
    ∃ f w' μ' F',K f=some r∧(Instr.mapUpdate t u uk uv).run P w=.ok () w'∧Inv c (st.apply f).2 a w' μ' F'∧(st.apply f).1=.undef:=by
 unfold V0v at h
 split at h<;>try cases h
 rename_i p j bx hp
 obtain⟨kd,e,ht,hkt,hpt⟩:=Z1y hT hp
 split at h<;>try cases h
 rename_i kt ki τ es hes
 split at h<;>try cases h
 rename_i hpe
 obtain⟨rfl,hka⟩:=hpe
 split at h<;>try cases h
 rename_i x hx
 obtain⟨hc,h'⟩:=Z4 h
 clear h
 simp only[Bool.and_eq_true,Bool.not_eq_true'] at hc
 obtain⟨hno,hrefl⟩:=hc
 simp only[VRel] at hm
 obtain⟨b,hmb,rfl⟩:=hm
 have hj:j < st.nx:=X3 hi.h (Pl.mapAt_ne hmb)
 have ho:=hi.h.obj j hj
 rw[hes] at ho
 obtain⟨cks,ms,clock,hμ,hM⟩:=U35 ho hmb
 have hkv:Uz F w kt x uk:=U3l hkt hx hk hka
 have hck:(Instr.checkKey false 10000 kd uk).run P w=.ok () w:=J0o hT hkt hkv false
 have hask:=V1s hT hkt hkv es ms 0 hM.lm (fun n e' m' h1 h2=>(hM.en n e' _ m' h1 (List.getElem?_eq_getElem (by rw[hM.lc];exact(List.getElem?_eq_some_iff.1 h1).1)) h2).1)
 rw[←V24 hT hkt] at hask
 have hb:=hM.at_
 have hf:(Instr.findKey kd uk ms).run P w=.ok none w:=by
  rcases hask with ⟨_,hf⟩ | ⟨n,e',m',h1,_,h3,_⟩
  ·exact hf
  ·rw[V11 h1 h3] at hno;cases hno
 obtain⟨hno1,hput⟩:=Z0l hno
 have hset:=fun o=>MapKept.heap_set (o':=o) hb
 obtain⟨w',hw'⟩:∃ w',w'=({ w with heap:=w.heap.setIfInBounds b (.map (ms++[({ key:=uk,val:=uv,born:=clock }:MapEntry)]).toArray (clock+1)) }:World):=⟨_,rfl⟩
 have hwb:w'.heap[b]?=some (.map (ms++[({ key:=uk,val:=uv,born:=clock }:MapEntry)]).toArray (clock+1)):=by rw[hw'];exact(hset _).1
 have hwo:∀ b',b'≠b→w'.heap[b']?=w.heap[b']?:=fun b' hne=>by rw[hw'];exact(hset _).2 b' hne
 have hFw:∀ b',F b'→w'.heap[b']?=w.heap[b']?:=fun b' hb'=>hwo b' (by rintro rfl;exact(hi.h.out j b' (by rw[hμ];exact .inl rfl)).1 hb')
 obtain⟨μ',hμ'⟩:∃ μ',μ'=Vc μ j (.mapb b (cks++[[]])):=⟨_,rfl⟩
 have hj1:μ' j=.mapb b (cks++[[]]):=by rw[hμ'];exact U9 _ _ _
 have hold:∀ k,k≠j→μ' k=μ k:=fun k h=>by rw[hμ',J7 h]
 have hR:∀ k,(μ k).isRow→μ' k=μ k:=fun k h=>hold k (by rintro rfl;rw[hμ] at h;exact h)
 have hB:∀ k b',μ k=.box b'→μ' k=.box b':=fun k b' h=>by
  rw[hold k (by rintro rfl;rw[hμ] at h;cases h)];exact h
 have hMp:∀ k b',(μ k).mapAt b'→(μ' k).mapAt b':=fun k b' h=>by
  by_cases hkj:k=j
  ·subst hkj;rw[hμ] at h;rw[hj1];exact h
  ·rw[hold k hkj];exact h
 have hown:∀ k y,(μ' k).own y→(μ k).own y:=fun k y h=>by
  by_cases hkj:k=j
  ·subst hkj
   rw[hj1] at h
   rw[hμ]
   rcases h with h | ⟨ck,h1,h2⟩
   ·exact .inl h
   ·rcases List.mem_append.1 h1 with h1 | h1
    ·exact .inr ⟨ck,h1,h2⟩
    ·simp at h1;subst h1;simp at h2
  ·rwa [hold k hkj] at h
 refine⟨_,w',μ',F,h',by rw[hw'];simp[Instr.mapUpdate,run_underlying ht,MapKept.run_getObj_map hb,hck,hf,MapKept.run_setObj_map _ hb],?_,rfl⟩
 simp only[St.apply]
 refine Z1b (own:=fun y=>y=b) hi ⟨by rw[hw'],by rw[hw'],by rw[hw'],by rw[hw'];simp,fun b' _ hne=>hwo b' hne⟩ (fun y h=>⟨j,by rw[hμ];exact .inl h.symm⟩) (fun k hk=>?_) (fun k hk=>?_) (fun k k' y h1 h2=>hi.h.one k k' y (hown k y h1) (hown k' y h2)) (fun k y h=>⟨k,hown k y h⟩)
  (fun k b' _ h=>hB k b' h) (fun k b' _ h=>hMp k b' h) hi.n0 (fun i v h=>X0d hFw hR hB hMp h)
 ·have hk:k < st.nx:=hk
  by_cases hkj:k=j
  ·subst hkj
   rw[hj1]
   simp only[St.upd,beq_self_eq_true,cond_true,ORel]
   refine⟨_,_,hwb,by rw[hput];simp[hM.lm],by rw[hput];simp[hM.lc],fun n e' ck' m' h1 h2 h3=>?_,fun i i' e1 e2 h1 h2 h3=>?_,fun i i' c1 c2 y h1 h2 h3 h4=>?_,fun ck' h1=>?_,fun q hq=>?_⟩
   ·rw[hput] at h1
    by_cases hn:n < es.length
    ·rw[List.getElem?_append_left hn] at h1
     rw[List.getElem?_append_left (by rw[hM.lc];exact hn)] at h2
     rw[List.getElem?_append_left (by rw[hM.lm];exact hn)] at h3
     obtain⟨g1,g2,g3⟩:=hM.en n e' ck' m' h1 h2 h3
     refine⟨g1.mono (fun _ h=>h) hFw,fun _=>(g2 rfl).mono (fun _ h=>h) hFw fun y hy=>hwo y (by rintro rfl;exact hM.off _ (List.mem_of_getElem? h2) hy),fun hfo=>?_⟩
     have:=hno1 n e' h1
     simp only[V0x] at hfo
     rw[this] at hfo;cases hfo
    ·rw[List.getElem?_append_right (by omega)] at h1
     have hn0:n - es.length=0:=by
      have:=(List.getElem?_eq_some_iff.1 h1).1
      simp at this;omega
     rw[hn0] at h1
     cases h1
     rw[List.getElem?_append_right (by rw[hM.lc];omega),hM.lc,hn0] at h2
     cases h2
     rw[List.getElem?_append_right (by rw[hM.lm];omega),hM.lm,hn0] at h3
     cases h3
     refine⟨hkv.mono (fun _ h=>h) hFw,fun hfo=>?_,fun _=>⟨rfl,fun q hq=>?_⟩⟩
     ·simp only[V0x] at hfo;rw[hrefl] at hfo;cases hfo
     ·cases hq
      exact X0d hFw hR hB hMp hv
   ·rw[hput] at h1 h2
    by_cases hn:i < es.length<;>by_cases hn':i' < es.length
    ·rw[List.getElem?_append_left hn] at h1
     rw[List.getElem?_append_left hn'] at h2
     exact hM.keys i i' e1 e2 h1 h2 h3
    ·rw[List.getElem?_append_left hn] at h1
     rw[List.getElem?_append_right (by omega)] at h2
     have hn0:i' - es.length=0:=by
      have:=(List.getElem?_eq_some_iff.1 h2).1
      simp at this;omega
     rw[hn0] at h2
     cases h2
     have:=hno1 i e1 h1
     rw[Qi h3,hrefl] at this
     cases this
    ·rw[List.getElem?_append_right (by omega)] at h1
     rw[List.getElem?_append_left hn'] at h2
     have hn0:i - es.length=0:=by
      have:=(List.getElem?_eq_some_iff.1 h1).1
      simp at this;omega
     rw[hn0] at h1
     cases h1
     have:=hno1 i' e2 h2
     rw[h3] at this
     cases this
    ·have h4:=(List.getElem?_eq_some_iff.1 h1).1
     have h5:=(List.getElem?_eq_some_iff.1 h2).1
     simp at h4 h5
     omega
   ·have hmem:∀ (i:Nat) (ck:List Nat),(cks++[[]])[i]?=some ck→y∈ck→cks[i]?=some ck:=fun i ck h hy=>by
     by_cases hn:i < cks.length
     ·rwa [List.getElem?_append_left hn] at h
     ·rw[List.getElem?_append_right (by omega)] at h
      have hn0:i - cks.length=0:=by
       have:=(List.getElem?_eq_some_iff.1 h).1
       simp at this;omega
      rw[hn0] at h
      cases h
      simp at hy
    exact hM.apart i i' c1 c2 y (hmem i c1 h1 h3) (hmem i' c2 h2 h4) h3 h4
   ·rcases List.mem_append.1 h1 with h1 | h1
    ·exact hM.off _ h1
    ·simp at h1;subst h1;simp
   ·cases hq
    exact⟨es.length,(x,(0,[])),by rw[hput];simp,hrefl⟩
  ·have hkb:(k==j)=false:=by simpa using hkj
   simp only[St.upd,hkb,cond_false]
   rw[hold k hkj]
   exact Q0s hFw hR hB hMp (fun y hy=>hwo y (by rintro rfl;exact hkj (hi.h.one k j y hy (by rw[hμ];exact .inl rfl)))) (hi.h.obj k hk)
 ·have hk:st.nx≤k:=hk
  rw[hold k (by omega)]
  exact hi.h.top k hk
theorem V2a {a b k i:Nat} (h:Z0y a b k=some i):i=k∧k≠a∧k≠b:=by
 unfold Z0y at h
 cases hc:(Nat.beq k a||Nat.beq k b) with
 | true=>rw[hc] at h;cases h
 | false=>
   rw[hc] at h
   cases h
   simp only[Bool.or_eq_false_iff] at hc
   exact⟨rfl,fun e=>by simp[e] at hc,fun e=>by simp[e] at hc⟩
theorem X3p {c:Cx} {st:St} {a:Act} {w:World} {μ:Nat→Pl} {F:Nat→Prop} (hi:Inv c st a w μ F) {k j r:Nat} {kt:Ty} {ki:IntKind} {t:Ty} {es:List (kt.den×(Int×List t.den))} {x:kt.den} {v:Int} {xs:List t.den}
    (hk:st.hp k=.mpb kt ki t es (some (x,.ptr j 0))) (hj:st.hp j=.boxT none [.int ki v,.rowA r]) (hr:st.hp r=.row t xs) (hkn:k < st.nx) (hjn:j < st.nx) (hrn:r < st.nx) (hj0:c.n0≤j) (hr0:c.n0≤r) :
    ∃ μ',Inv c { st with tm:=fun i=>(st.tm i).ren (Z0y j r),hp:=fun i=>bif Nat.beq i k then .mpb kt ki t (putB (keqD kt) x (v,xs) es) none else bif Nat.beq i j||Nat.beq i r then .gone else (st.hp i).ren (Z0y j r) } a w μ' F:=by
 have hkj:k≠j:=by rintro rfl;rw[hk] at hj;cases hj
 have hkr:k≠r:=by rintro rfl;rw[hk] at hr;cases hr
 have hjr:j≠r:=by rintro rfl;rw[hj] at hr;cases hr
 have hok:=hi.h.obj k hkn
 rw[hk] at hok
 obtain⟨b,cks,ms,clock,hμk,hM⟩:∃ b cks ms clock,μ k=.mapb b cks∧MapbAt μ F w kt ki t es (some (x,.ptr j 0)) b cks ms clock:=by
  cases hp:μ k with
  | mapb b cks=>rw[hp] at hok;obtain⟨ms,clock,h⟩:=hok;exact⟨b,cks,ms,clock,rfl,h⟩
  | none=>rw[hp] at hok;exact hok.elim
  | box b=>rw[hp] at hok;exact hok.elim
  | map b=>rw[hp] at hok;exact hok.elim
  | row al l cp sz=>rw[hp] at hok;exact hok.elim
 obtain⟨n,e,m,he,hxe,hm,hcn,hv⟩:=hM.out
 simp only[VRel] at hv
 obtain⟨bb,hμj,hmv⟩:=hv
 have hoj:=hi.h.obj j hjn
 rw[hj,hμj] at hoj
 obtain⟨us,E,fz,hbb,hfz,hus,_,_⟩:=hoj
 simp only[U0,VRel] at hus
 obtain⟨_,_,rfl,rfl,_,_,rfl,⟨al,len,cap,sz,A,hμr,rfl,hA⟩,rfl⟩:=hus
 have hor:=hi.h.obj r hrn
 rw[hr,hμr] at hor
 obtain⟨rfl,rfl,hrow⟩:=hor
 have hne:bb ∉ Vp al cap:=fun h=>by
  have h1:(μ r).own bb:=by rw[hμr];exact X0r.1 h
  exact hjr (hi.h.one j r bb (by rw[hμj];exact rfl) h1)
 have hjown:(μ j).own bb:=by rw[hμj];exact rfl
 have hrown:∀ y,y∈Vp al cap→(μ r).own y:=fun y h=>by rw[hμr];exact X0r.1 h
 have hput:putB (keqD kt) x (v,xs) es=es.set n (e.1,(v,xs)):=by
  obtain⟨n2,e2,g1,g2,_,g4⟩:=Zr (V11 he hxe)
  have h1:=Qi hxe
  have:n=n2:=hM.keys n n2 e e2 he g1 (by rw[←h1];exact g2)
  subst this
  rw[he] at g1
  cases g1
  exact g4 _
 obtain⟨μ1,hμ1⟩:∃ μ1,μ1=Vc (Vc μ j .none) r .none:=⟨_,rfl⟩
 have h1old:∀ i,i≠j→i≠r→μ1 i=μ i:=fun i h1 h2=>by rw[hμ1,J7 h2,J7 h1]
 have h1j:μ1 j=.none:=by rw[hμ1,J7 hjr,U9]
 have h1r:μ1 r=.none:=by rw[hμ1,U9]
 obtain⟨μ',hμ'⟩:∃ μ',μ'=Vc μ1 k (.mapb b (cks.set n (bb::Vp al cap))):=⟨_,rfl⟩
 have hk1:μ' k=.mapb b (cks.set n (bb::Vp al cap)):=by rw[hμ',U9]
 have hold:∀ i,i≠k→μ' i=μ1 i:=fun i h=>by rw[hμ',J7 h]
 have hμ1k:μ1 k=.mapb b cks:=by rw[h1old k hkj hkr,hμk]
 have hR:∀ i,(μ1 i).isRow→μ' i=μ1 i:=fun i h=>hold i (by rintro rfl;rw[hμ1k] at h;exact h)
 have hB:∀ i b',μ1 i=.box b'→μ' i=.box b':=fun i b' h=>by rw[hold i (by rintro rfl;rw[hμ1k] at h;cases h)];exact h
 have hMp:∀ i b',(μ1 i).mapAt b'→(μ' i).mapAt b':=fun i b' h=>by
  by_cases hik:i=k
  ·subst hik;rw[hμ1k] at h;rw[hk1];exact h
  ·rw[hold i hik];exact h
 have hf:∀ i i',Z0y j r i=some i'→μ1 i'=μ i:=fun i i' h=>by
  obtain⟨rfl,h1,h2⟩:=V2a h
  exact h1old _ h1 h2
 have hkown:∀ y,(b=y∨∃ ck,ck∈cks∧y∈ck)→(μ k).own y:=fun y h=>by rw[hμk];exact h
 have hown:∀ i y,(μ' i).own y→(i≠k∧i≠j∧i≠r∧(μ i).own y)∨(i=k∧((μ k).own y∨(μ j).own y∨(μ r).own y)):=fun i y h=>by
  by_cases hik:i=k
  ·subst hik
   refine .inr ⟨rfl,?_⟩
   rw[hk1] at h
   rcases h with h | ⟨ck,h1,h2⟩
   ·exact .inl (hkown y (.inl h))
   ·obtain⟨i',hi'⟩:=List.mem_iff_getElem?.1 h1
    rcases Jj hi' with ⟨_,rfl⟩ | ⟨_,h4⟩
    ·rcases List.mem_cons.1 h2 with rfl | h2
     ·exact .inr (.inl hjown)
     ·exact .inr (.inr (hrown y h2))
    ·exact .inl (hkown y (.inr ⟨ck,List.mem_of_getElem? h4,h2⟩))
  ·rw[hold i hik] at h
   by_cases hij:i=j
   ·subst hij;rw[h1j] at h;exact h.elim
   ·by_cases hir:i=r
    ·subst hir;rw[h1r] at h;exact h.elim
    ·rw[h1old i hij hir] at h;exact .inl ⟨hik,hij,hir,h⟩
 have hsetl:∀ (i:Nat) e',(es.set n (e.1,(v,xs)))[i]?=some e'→∃ e0,es[i]?=some e0∧e'.1=e0.1∧(i≠n→e'=e0)∧(i=n→e'=(e.1,(v,xs))):=fun i e' h=>by
  rcases Jj h with ⟨rfl,rfl⟩ | ⟨h1,h2⟩
  ·exact⟨e,he,rfl,fun h=>absurd rfl h,fun _=>rfl⟩
  ·exact⟨e',h2,rfl,fun _=>rfl,fun h=>absurd h h1⟩
 have hM':MapbAt μ' F w kt ki t (putB (keqD kt) x (v,xs) es) none b (cks.set n (bb::Vp al cap)) ms clock:=by
  rw[hput]
  refine⟨hM.at_,by simp[hM.lm],by simp[hM.lc],fun i e' ck' m' g1 g2 g3=>?_,fun i i' e1 e2 g1 g2 g3=>?_,fun i i' c1 c2 y g1 g2 g3 g4=>?_,fun ck g1 g2=>?_,fun q hq=>by cases hq⟩
  ·obtain⟨e0,f1,f2,f3,f4⟩:=hsetl i e' g1
   by_cases hin:i=n
   ·rw[f4 hin]
    subst hin
    rw[hm] at g3;cases g3
    have hck':ck'=bb::Vp al cap:=by
     rcases Jj g2 with ⟨_,h⟩ | ⟨h,_⟩
     ·exact h
     ·exact absurd rfl h
    subst hck'
    exact⟨(hM.en i e [] m he hcn hm).1,fun _=>⟨bb,al,cap,E,fz,A,hmv,hbb,hfz,hA,rfl,hne,hrow⟩,fun h=>by cases h⟩
   ·rw[f3 hin]
    have hck0:cks[i]?=some ck':=by
     rcases Jj g2 with ⟨h,_⟩ | ⟨_,h⟩
     ·exact absurd h hin
     ·exact h
    obtain⟨d1,d2,d3⟩:=hM.en i e0 ck' m' f1 hck0 g3
    refine⟨d1,fun _=>d2 ?_,fun h=>by cases h⟩
    cases hfo:V0x (some (x,AV.ptr j 0)) e0.1 with
    | false=>rfl
    | true=>
      have h1:=Qi hxe
      have h2:keqD kt x e0.1=true:=hfo
      exact absurd (hM.keys n i e e0 he f1 (by rw[←h1];exact h2)).symm hin
  ·obtain⟨e3,f1,f2,_⟩:=hsetl i e1 g1
   obtain⟨e4,f3,f4,_⟩:=hsetl i' e2 g2
   exact hM.keys i i' e3 e4 f1 f3 (by rw[←f2,←f4];exact g3)
  ·have hfar:∀ ck,cks[i]?=some ck∨cks[i']?=some ck→y∈ck→y ∉ bb::Vp al cap:=fun ck h1 h2 h3=>by
    have h4:(μ k).own y:=hkown y (.inr ⟨ck,by rcases h1 with h1 | h1<;>exact List.mem_of_getElem? h1,h2⟩)
    rcases List.mem_cons.1 h3 with rfl | h3
    ·exact hkj (hi.h.one k j _ h4 hjown)
    ·exact hkr (hi.h.one k r y h4 (hrown y h3))
   rcases Jj g1 with ⟨f1,rfl⟩ | ⟨f1,f2⟩<;>rcases Jj g2 with ⟨f3,rfl⟩ | ⟨f3,f4⟩
   ·rw[f1,f3]
   ·exact absurd g3 (hfar _ (.inr f4) g4)
   ·exact absurd g4 (hfar _ (.inl f2) g3)
   ·exact hM.apart i i' c1 c2 y f2 f4 g3 g4
  ·obtain⟨i',hi'⟩:=List.mem_iff_getElem?.1 g1
   rcases Jj hi' with ⟨_,rfl⟩ | ⟨_,h4⟩
   ·have h4:(μ k).own b:=hkown b (.inl rfl)
    rcases List.mem_cons.1 g2 with rfl | h3
    ·exact hkj (hi.h.one k j _ h4 hjown)
    ·exact hkr (hi.h.one k r b h4 (hrown b h3))
   ·exact hM.off _ (List.mem_of_getElem? h4) g2
 refine⟨μ',Z1b (own:=fun _=>False) hi ((Grew.refl w).changed _) (fun _ h=>h.elim) (fun i hin=>?_) (fun i hin=>?_) (fun i i' y h1 h2=>?_) (fun i y h=>?_) (fun i b' hi0 h=>?_) (fun i b' hi0 h=>?_) hi.n0 (fun i v h=>?_)⟩
 ·have hin:i < st.nx:=hin
  show ORel μ' F w (bif Nat.beq i k then _ else bif Nat.beq i j||Nat.beq i r then .gone else (st.hp i).ren (Z0y j r)) (μ' i)
  by_cases hik:i=k
  ·subst hik
   rw[hk1]
   simp only[Nat.beq_refl,cond_true,ORel]
   exact⟨ms,clock,hM'⟩
  ·have hb1:Nat.beq i k=false:=by cases h:Nat.beq i k;rfl;exact absurd (Nat.eq_of_beq_eq_true h) hik
   rw[hb1,cond_false,hold i hik]
   by_cases hij:i=j
   ·subst hij;rw[h1j];simp[ORel]
   ·by_cases hir:i=r
    ·subst hir;rw[h1r];simp[ORel]
    ·have hb2:Nat.beq i j=false:=by cases h:Nat.beq i j;rfl;exact absurd (Nat.eq_of_beq_eq_true h) hij
     have hb3:Nat.beq i r=false:=by cases h:Nat.beq i r;rfl;exact absurd (Nat.eq_of_beq_eq_true h) hir
     rw[hb2,hb3,Bool.or_false,cond_false,h1old i hij hir]
     exact Q0s (fun _ _=>rfl) hR hB hMp (fun _ _=>rfl) (Z0q hf (hi.h.obj i hin))
 ·have hin:st.nx≤i:=hin
  rw[hold i (by omega),h1old i (by omega) (by omega)]
  exact hi.h.top i hin
 ·rcases hown i y h1 with ⟨a1,a2,a3,a4⟩ | ⟨rfl,a4⟩<;>rcases hown i' y h2 with ⟨c1,c2,c3,c4⟩ | ⟨rfl,c4⟩
  ·exact hi.h.one i i' y a4 c4
  ·rcases c4 with c4 | c4 | c4
   ·exact absurd (hi.h.one _ _ y a4 c4) a1
   ·exact absurd (hi.h.one _ _ y a4 c4) a2
   ·exact absurd (hi.h.one _ _ y a4 c4) a3
  ·rcases a4 with a4 | a4 | a4
   ·exact absurd (hi.h.one _ _ y c4 a4) c1
   ·exact absurd (hi.h.one _ _ y c4 a4) c2
   ·exact absurd (hi.h.one _ _ y c4 a4) c3
  ·rfl
 ·rcases hown i y h with ⟨_,_,_,h⟩ | ⟨_,h | h | h⟩<;>exact⟨_,h⟩
 ·exact hB i b' (by rw[h1old i (by omega) (by omega)];exact h)
 ·exact hMp i b' (by rw[h1old i (by omega) (by omega)];exact h)
 ·exact X0d (fun _ _=>rfl) hR hB hMp (Q09 hf h)
theorem U2r {c:Cx} {st:St} {a:Act} {w:World} {μ:Nat→Pl} {F:Nat→Prop} (hi:Inv c st a w μ F) {k:Nat} (hkn:k < st.nx):∃ μ',Inv c (st.unfAt c.n0 k) a w μ' F:=by
 unfold St.unfAt
 split
 ·rename_i kt ki t es x j hk
  split
  ·rename_i ki' v r hj
   split
   ·rename_i t' xs hr
    split
    ·rename_i ht
     subst ht
     cases hc:((decide (ki'=ki)&&(Nat.ble c.n0 j&&Nat.ble c.n0 r))&&(Nat.blt j st.nx&&Nat.blt r st.nx)) with
     | false=>exact⟨μ,hi⟩
     | true=>
       simp only[Bool.and_eq_true,decide_eq_true_eq,Nat.ble_eq] at hc
       obtain⟨⟨rfl,h1,h2⟩,h4,h5⟩:=hc
       rw[cond_true]
       exact X3p hi hk hj hr hkn (Nat.le_of_ble_eq_true h4) (Nat.le_of_ble_eq_true h5) h1 h2
    ·exact⟨μ,hi⟩
   ·exact⟨μ,hi⟩
  ·exact⟨μ,hi⟩
 ·exact⟨μ,hi⟩
theorem X3i (st:St) (n0 k:Nat):(st.unfAt n0 k).nx=st.nx:=by
 unfold St.unfAt
 repeat' split
 all_goals first | rfl | skip
 all_goals (cases (_&&_:Bool)<;>rfl)
theorem Q1y {c:Cx} {a:Act} {w:World} {F:Nat→Prop}:∀ (ks:List Nat) (st:St) (μ:Nat→Pl),Inv c st a w μ F→(∀ k,k∈ks→k < st.nx)→∃ μ',Inv c (St.unfL c.n0 ks st) a w μ' F
 | [],st,μ,hi,_=>⟨μ,hi⟩
 | k::ks,st,μ,hi,h=>by
   obtain⟨μ1,h1⟩:=U2r hi (h k (by simp))
   exact Q1y ks _ μ1 h1 fun k' hk'=>by rw[X3i];exact h k' (by simp[hk'])
theorem Q2o:∀ (n a k:Nat),k∈rng a n→k < a+n
 | 0,_,_,h=>by simp[rng] at h
 | n+1,a,k,h=>by
   rcases List.mem_cons.1 h with rfl | h
   ·omega
   ·have:=Q2o n (a+1) k h;omega
theorem V3r {c:Cx} {st:St} {a:Act} {w:World} {μ:Nat→Pl} {F:Nat→Prop} (hi:Inv c st a w μ F):∃ μ',Inv c (st.unf c.n0) a w μ' F:=by
 unfold St.unf
 refine Q1y _ st μ hi fun k hk=>?_
 have:=Q2o st.nx 0 k ((List.mem_filter.1 hk).1)
 omega
theorem V27 {P:Program} {T:Tab} {c:Cx} {st:St} {a:Act} {w:World} {μ:Nat→Pl} {F:Nat→Prop} (hi:Inv c st a w μ F) {t:Nat} {x:AV} {v:Value} (h:VRel μ F w x v) :
    Outc P c st a w (pure v) (U10 T st.nx t x):=by
 unfold U10
 split
 ·simp only[VRel] at h
  subst h
  split
  ·split
   ·rename_i τ _
    split
    ·exact U3 hi rfl (by simp only[VRel];exact Jd.2 ⟨none,0,rfl,by simp,fun _=>rfl,fun a ha=>by cases ha⟩)
    ·have:=U1a hi τ none
     exact⟨_,w,_,F,rfl,this.1,this.2⟩
   ·exact U3 hi rfl (by simp[VRel])
  ·exact U3 hi rfl (by simp[VRel])
 ·exact U3 hi rfl (V07 t h)
theorem Z2y {P:Program} {T:Tab} {c:Cx} {st:St} {a:Act} {w:World} {μ:Nat→Pl} {F:Nat→Prop} (hi:Inv c st a w μ F) {t:Nat} {x:AV} {v:Value} (h:VRel μ F w x v) :
    Outc P c st a w (pure v) (V1n T st.nx t x):=by
 unfold V1n
 split
 ·rename_i cs
  split
  ·rename_i r hr
   cases T.kns&&J1l cs r.cty with
   | false=>exact U3 hi rfl h
   | true=>
     simp only[VRel] at h
     obtain⟨us,rfl,h1,h2⟩:=h
     obtain⟨ps,e1,e2,e3⟩:=Z07 cs r.cty st.nx
     have hown:∀ (i:Nat) (p:Pl),ps[i]?=some p→∀ b,¬ p.own b:=fun i p hp b hb=>by
      have hlt:i < ps.length:=by obtain⟨h2,_⟩:=List.getElem?_eq_some_iff.1 hp;exact h2
      obtain⟨τ,_,rfl⟩:=e2 i _ p (List.getElem?_eq_getElem (by omega)) hp
      exact hb
     have hnew:∀ (i:Nat),Zb μ st.nx ps (st.nx+i)=(ps[i]?).getD .none:=fun i=>Z9 i
     refine⟨_,w,Zb μ st.nx ps,F,rfl,Vi hi (Grew.refl w) _ _ e1 ?_ ?_ ?_,?_⟩
     ·intro i o p ho hp
      obtain⟨τ,rfl,rfl⟩:=e2 i o p ho hp
      simp only[ORel]
      exact⟨trivial,rfl,Nat.le_refl _,fun _=>trivial,(fun b o hbo _=>by cases hbo)⟩
     ·intro i p b hp hpo
      exact absurd hpo (hown i p hp b)
     ·intro i j p q b hp hq hpo hqo
      exact absurd hpo (hown i p hp b)
     ·show VRel _ F w (.agg (Q9 cs r.cty st.nx).1) _
      simp only[VRel]
      refine⟨us,rfl,?_,h2⟩
      have h3:=Ua (μ':=Zb μ st.nx ps) (F':=F) (w':=w) (fun _ h=>h) (fun _ _=>rfl) (fun k hk=>Vk hi.h.top (J6 h1 k hk)) h1
      refine e3 _ _ F _ _ (fun _ _=>rfl) (fun i p hp=>?_) h3
      rw[hnew i,hp]
      rfl
  ·exact U3 hi rfl h
 ·exact U3 hi rfl h
theorem X19 {c:Cx} {st:St} {a:Act} {w:World} {μ:Nat→Pl} {F:Nat→Prop} (hi:Inv c st a w μ F) (ps:List (Nat×Operand)) :
    ∀ (i:Nat) (p:Nat×AV) (q:Nat×Value),(ps.map fun p=>(p.1,st.ev p.2))[i]?=some p→(ps.map fun p=>(p.1,a.eval p.2))[i]?=some q→q.1=p.1∧VRel μ F w p.2 q.2:=by
 intro i p q hp hq
 rw[List.getElem?_map] at hp hq
 cases h:ps[i]? with
 | none=>rw[h] at hp;cases hp
 | some x=>
   rw[h] at hp hq
   cases hp
   cases hq
   exact⟨rfl,Q1a hi x.2⟩
theorem X2e {c:Cx} {st:St} {a:Act} {w:World} {μ:Nat→Pl} {F:Nat→Prop} (hi:Inv c st a w μ F) (x:Option Operand):Ui μ F w (x.map st.ev) (x.map a.eval):=by
 cases x with
 | none=>simp[Ui]
 | some x=>simp only[Option.map_some,Ui];exact Q1a hi x
theorem U2i {P:Program} {μ:Nat→Pl} {F:Nat→Prop} {w:World} {x:AV} {v:Value} {o:Oper} {X:Operand} {ρ:Operand→Value} (h:Z2g x=true) (hv:VRel μ F w x v) (hx:ρ X=v) (ho:o.op=.nilCheck X) :
    (execOp ρ o).run P w=.ok (.value v) w:=by
 unfold Z2g at h
 split at h<;>try cases h
 ·simp only[VRel] at hv;obtain⟨b,_,rfl⟩:=hv;simp[execOp,ho,hx]
 ·simp only[VRel] at hv;obtain⟨b,o,l,c,_,_,rfl⟩:=hv;simp[execOp,ho,hx]
 ·simp only[VRel] at hv;obtain⟨b,o,_,_,_,rfl⟩:=hv;simp[execOp,ho,hx]
 ·simp only[VRel] at hv;obtain⟨us,rfl,_⟩:=hv;simp[execOp,ho,hx]
theorem X0q {P:Program} {μ:Nat→Pl} {F:Nat→Prop} {w:World} {f:AV→AV→Option AV} {g:Value→Value→Sem Value}
    (hf:∀ x y z u v,f x y=some z→VRel μ F w x u→VRel μ F w y v→∃ q,(g u v).run P w=.ok q w∧VRel μ F w z q) :
    ∀ (r:List AV) (vs:List Value) (x z:AV) (u:Value),Z1m f x r=some z→VRel μ F w x u→U0 μ F w r vs→∃ q,(vs.foldlM g u).run P w=.ok q w∧VRel μ F w z q
 | [],vs,x,z,u,h,hx,hr=>by
   simp only[Z1m,Option.some.injEq] at h
   subst h
   simp only[U0] at hr
   subst hr
   exact⟨u,by simp,hx⟩
 | y::r,vs,x,z,u,h,hx,hr=>by
   simp only[Z1m] at h
   split at h
   ·rename_i s hs
    simp only[U0] at hr
    obtain⟨v,vs,rfl,h1,h2⟩:=hr
    obtain⟨q,g1,g2⟩:=hf _ _ _ _ _ hs hx h1
    obtain⟨q',g3,g4⟩:=X0q hf r vs s z q h g2 h2
    exact⟨q',by simp[List.foldlM_cons,g1,g3],g4⟩
   ·cases h
theorem Z3h {P:Program} {μ:Nat→Pl} {F:Nat→Prop} {w:World} (x y z:AV) (u v:Value) (h:U3j x y=some z) (hu:VRel μ F w x u) (hv:VRel μ F w y v):∃ q,(Builtin.min2 u v).run P w=.ok q w∧VRel μ F w z q:=by
 unfold U3j at h
 split at h
 ·split at h
  ·rename_i hk
   subst hk
   cases h
   simp only[VRel] at hu hv
   subst hu hv
   exact⟨_,by simp[Builtin.min2];rfl,by simp[VRel]⟩
  ·cases h
 ·cases h
theorem X3e {P:Program} {μ:Nat→Pl} {F:Nat→Prop} {w:World} (x y z:AV) (u v:Value) (h:J32 x y=some z) (hu:VRel μ F w x u) (hv:VRel μ F w y v):∃ q,(Builtin.max2 u v).run P w=.ok q w∧VRel μ F w z q:=by
 unfold J32 at h
 split at h
 ·split at h
  ·rename_i hk
   subst hk
   cases h
   simp only[VRel] at hu hv
   subst hu hv
   exact⟨_,by simp[Builtin.max2];rfl,by simp[VRel]⟩
  ·cases h
 ·cases h
theorem U2g (s:List UInt8):(⟨s.toArray⟩:ByteArray).size=s.length:=by simp[ByteArray.size]
theorem V2s {P:Program} {T:Tab} (hT:U2 P T) {w:World} {hp:Nat→LObj} {nx:Nat} {μ:Nat→Pl} {F:Nat→Prop} (hi:HInv w hp nx μ F) {t ty:Nat} {x:AV} {n:Nat} {v:Value} (h:V1h T hp t x=some n) (hv:VRel μ F w x v) :
    (Builtin.len_ #[t] ty #[v]).run P w=.ok (.int .i64 n) w:=by
 unfold V1h at h
 split at h
 ·rename_i s hd
  have ht:=Q2 hT hd (by simp)
  simp only[Q3] at ht
  cases h
  simp only[VRel] at hv
  subst hv
  simp[Builtin.len_,run_underlying ht,goInt,U2g]
 ·cases h
 ·cases h
 ·rename_i e hd hs
  have ht:=Q2 hT hd (by simp)
  simp only[Q3] at ht
  rcases J3m (P:=P) hi h hv with ⟨s,rfl,_⟩ | ⟨A,cap,rfl⟩
  ·exact absurd rfl (hs s)
  ·simp[Builtin.len_,run_underlying ht,goInt]
 ·cases h
theorem X1s {P:Program} {T:Tab} (hT:U2 P T) {R:Type} {K:Eff→Option R} {r:R} {c:Cx} {st:St} {a:Act} {w:World} {μ:Nat→Pl} {F:Nat→Prop} (hi:Inv c st a w μ F) {b:Builtin} {ts:Array TypeId} {xs:List AV} {vs:List Value} {o:Oper}
    {consts:Array Bool} (h:Xn T st.hp st.nx b ts.toList xs K=some r) (hv:U0 μ F w xs vs)
    (hrun:∀ v w',(builtin b ts o.type consts vs.toArray).run P w=.ok (.value v) w'→(execOp a.eval o).run P w=.ok (.value v) w'):∃ f,K f=some r∧Q0r P c st a w o f:=by
 unfold Xn at h
 split at h
 ·rename_i t x hts
  simp only[U0] at hv
  obtain⟨u,us,rfl,hu,rfl⟩:=hv
  have hts':ts=#[t]:=by rw[←Array.toArray_toList (xs:=ts),hts]
  subst hts'
  split at h
  ·rename_i n hn
   refine⟨_,h,V2 (s:=Builtin.len_ #[t] o.type #[u]) (U3 hi (V2s hT hi.h hn hu) (by simp[VRel])) fun v w' hr=>hrun v w' ?_⟩
   simp[builtin,hr]
  ·cases h
 ·rename_i t t2 x y hts
  simp only[U0] at hv
  obtain⟨u,us,rfl,hu,u2,us2,rfl,hu2,rfl⟩:=hv
  have hts':ts=#[t,t2]:=by rw[←Array.toArray_toList (xs:=ts),hts]
  subst hts'
  obtain⟨f,hf,ho⟩:=U22 hT hi o.type h hu hu2
  refine⟨f,hf,V2 ho fun v w' hr=>hrun v w' ?_⟩
  simp[builtin,hr]
 ·rename_i x q
  simp only[U0] at hv
  obtain⟨u,us,rfl,hu,hus⟩:=hv
  split at h
  ·rename_i z hz
   obtain⟨q,g1,g2⟩:=X0q (P:=P) (fun x y z u v h hu hv=>Z3h (P:=P) x y z u v h hu hv) _ _ _ _ _ hz hu hus
   refine⟨_,h,V2 (s:=us.foldlM Builtin.min2 u) (U3 hi g1 g2) fun v w' hr=>hrun v w' ?_⟩
   simp[builtin,Builtin.min_,hr]
  ·cases h
 ·rename_i x q
  simp only[U0] at hv
  obtain⟨u,us,rfl,hu,hus⟩:=hv
  split at h
  ·rename_i z hz
   obtain⟨q,g1,g2⟩:=X0q (P:=P) (fun x y z u v h hu hv=>X3e (P:=P) x y z u v h hu hv) _ _ _ _ _ hz hu hus
   refine⟨_,h,V2 (s:=us.foldlM Builtin.max2 u) (U3 hi g1 g2) fun v w' hr=>hrun v w' ?_⟩
   simp[builtin,Builtin.max_,hr]
  ·cases h
 ·rename_i t t2 x y hts
  simp only[U0] at hv
  obtain⟨u,us,rfl,hu,u2,us2,rfl,hu2,rfl⟩:=hv
  have hts':ts=#[t,t2]:=by rw[←Array.toArray_toList (xs:=ts),hts]
  subst hts'
  split at h
  ·rename_i f hf
   refine⟨f,h,V2 (J2v hT hi o.type hf hu hu2) fun v w' hr=>hrun v w' ?_⟩
   simp[builtin,hr]
  ·cases h
 ·rename_i t x hts
  simp only[U0] at hv
  obtain⟨u,us,rfl,hu,rfl⟩:=hv
  have hts':ts=#[t]:=by rw[←Array.toArray_toList (xs:=ts),hts]
  subst hts'
  split at h
  ·rename_i f hf
   refine⟨f,h,V2 (Z2b hT hi o.type hf hu) fun v w' hr=>hrun v w' ?_⟩
   simp[builtin,hr]
  ·cases h
 ·rename_i t hts
  simp only[U0] at hv
  obtain⟨u,us,rfl,hu,rfl⟩:=hv
  have hts':ts=#[t]:=by rw[←Array.toArray_toList (xs:=ts),hts]
  subst hts'
  split at h
  ·rename_i e hd
   have ht:=Q2 hT hd (by simp)
   simp only[Q3] at ht
   simp only[VRel] at hu
   subst hu
   refine⟨_,h,V2 (s:=Builtin.cap_ #[t] o.type #[.slice none 0 0]) (U3 hi (v:=.int .i64 0) (by simp[Builtin.cap_,run_underlying ht,goInt]) (by simp[VRel])) fun v w' hr=>hrun v w' ?_⟩
   simp[builtin,hr]
  ·cases h
 ·cases h
theorem J0f {α β:Type} (xs:Array α) (f:α→β):xs.map f=(xs.toList.map f).toArray:=by rw[←Array.toList_map,Array.toArray_toList]
theorem U17 {P:Program} {T:Tab} (hT:U2 P T) {orc:Orc} (hO:Qa P orc) {R:Type} {K:Eff→Option R} {r:R} {c:Cx} {st:St} {a:Act} {w:World} {μ:Nat→Pl} {F:Nat→Prop} (hi:Inv c st a w μ F) {o:Oper}
    (h:evOp T orc o.op o.type st K=some r):∃ f,K f=some r∧Q0r P c st a w o f:=by
 have hev:=fun x=>Q1a hi x
 cases ho:o.op<;>rw[ho] at h<;>simp only[evOp] at h
 case move x=>
  exact⟨_,h,V2 (s:=pure (a.eval x)) (U3 hi rfl (hev x)) fun v w' hr=>by simpa[execOp,ho] using hr⟩
 case assign x=>
  exact⟨_,h,V2 (V27 hi (hev x)) fun v w' hr=>by simpa[execOp,ho] using hr⟩
 case pick cnd x y=>
  split at h
  ·rename_i t ht
   have hc:=hev cnd
   rw[ht] at hc
   simp only[VRel] at hc
   cases t with
   | true=>exact⟨_,h,V2 (s:=pure (a.eval x)) (U3 hi rfl (hev x)) fun v w' hr=>by simp[execOp,ho,hc,asBool];simpa using hr⟩
   | false=>exact⟨_,h,V2 (s:=pure (a.eval y)) (U3 hi rfl (hev y)) fun v w' hr=>by simp[execOp,ho,hc,asBool];simpa using hr⟩
  ·cases h
 case alloc e=>
  split at h
  ·rename_i row hrow
   split at h
   ·rename_i f hf
    exact⟨_,h,V2 (J2e hT hi hrow hf (.tuple #[])) fun v w' hr=>by simp[execOp,ho,hr]⟩
   ·cases h
  ·cases h
 case box e x=>
  split at h
  ·rename_i cs hcs
   split at h
   ·rename_i f hf
    obtain⟨h1,h2⟩:=X0c hcs (hev x)
    exact⟨_,h,V2 (V29 hi hf h1 h2) fun v w' hr=>by simp[execOp,ho,hr]⟩
   ·cases h
  ·cases h
 case build t ps=>
  split at h
  ·rename_i x hx
   obtain⟨v,g1,g2⟩:=X2g hT hx (qs:=ps.toList.map fun p=>(p.1,a.eval p.2)) (by simp) (X19 hi ps.toList)
   refine⟨_,h,V2 (U3 hi g1 g2) fun v w' hr=>?_⟩
   rw[←J0f] at hr
   simp[execOp,ho,hr]
  ·cases h
 case buildSlice t n ps=>
  obtain⟨f,hf,g⟩:=J06 hT hi h (qs:=ps.toList.map fun p=>(p.1,a.eval p.2)) (by simp) (X19 hi ps.toList)
  refine⟨_,hf,V2 g fun v w' hr=>?_⟩
  rw[←J0f] at hr
  simp[execOp,ho,hr]
 case load t x=>
  split at h
  ·rename_i z hz
   obtain⟨u,g1,g2⟩:=X1i hT hi.h hz (hev x)
   exact⟨_,h,V2 (U3 hi g1 g2) fun v w' hr=>by simp[execOp,ho,hr]⟩
  ·cases h
 case store t x y=>
  split at h
  ·rename_i f hf
   obtain⟨w',g1,g20,g30⟩:=V2f (P:=P) hT hi hf (hev x) (J2w _ (hev y))
   obtain⟨μ,g2,g3⟩:=Q3a (T:=T) (t:=t) (p:=st.ev x) g20 g30
   refine⟨_,h,fun next Q hn=>?_⟩
   unfold Oper.wp
   have:(execOp a.eval o).run P w=.ok .skip w':=by simp[execOp,ho,g1]
   rw[this]
   simp only[Oper.upon]
   exact hn undef w' μ F g2 (by rw[g3];simp[VRel])
  ·cases h
 case nilCheck x=>
  split at h
  ·rename_i hx
   exact⟨_,h,V2 (s:=pure (a.eval x)) (U3 hi rfl (hev x)) fun v w' hr=>by
    have:=U2i (P:=P) hx (hev x) rfl ho
    simp at hr
    obtain⟨rfl,rfl⟩:=hr
    exact this⟩
  ·cases h
 case binOp op t x y yt=>
  obtain⟨z,q,hz,g1,g2⟩:=J2b hT x y h (hev x) (hev y)
  exact⟨_,hz,V2 (U3 hi g1 g2) fun v w' hr=>by simp only[execOp,ho];simp only[Sem.run_bind] at hr ⊢;simp[hr]⟩
 case unOp op t x=>
  split at h
  ·rename_i z hz
   obtain⟨q,g1,g2⟩:=J30 (P:=P) hz (hev x)
   exact⟨_,h,V2 (U3 hi g1 g2) fun v w' hr=>by simp[execOp,ho,hr]⟩
  ·cases h
 case convert s d x=>
  obtain⟨f,hf,g⟩:=U1x hT hi h (hev x)
  exact⟨_,hf,V2 g fun v w' hr=>by simp[execOp,ho,hr]⟩
 case makeFunc fn first caps=>
  split at h
  ·rename_i z hz
   unfold Q2l at hz
   split at hz<;>cases hz
   rename_i f hf
   have hf':first=#[]:=by rw[←Array.toArray_toList (xs:=first),hf]
   subst hf'
   refine⟨_,h,V2 (s:=pure (.func (.func f) #[] (caps.map a.eval))) (U3 hi rfl ?_) fun v w' hr=>by simpa[execOp,ho,Instr.makeFunc] using hr⟩
   simp only[VRel]
   exact⟨caps.toList.map a.eval,by rw[←J0f],U1t hi caps.toList⟩
  ·cases h
 case makeSlice t l cp=>
  obtain⟨f,hf,g⟩:=Q17 hT hi h (hev l) (hev cp)
  exact⟨_,hf,V2 g fun v w' hr=>by simp[execOp,ho,hr]⟩
 case slice t x lo hi' mx=>
  obtain⟨z,q,hz,g1,g2⟩:=J2h hT hi.h h (hev x) (X2e hi lo) (X2e hi hi') (X2e hi mx)
  exact⟨_,hz,V2 (U3 hi g1 g2) fun v w' hr=>by simp[execOp,ho,hr]⟩
 case fieldAddr s x f=>
  split at h
  ·rename_i z hz
   obtain⟨q,g1,g2⟩:=J1d (P:=P) hT hz (hev x)
   exact⟨_,h,V2 (U3 hi g1 g2) fun v w' hr=>by simp[execOp,ho,hr]⟩
  ·cases h
 case field s x f=>
  split at h
  ·rename_i d t cs hfo hx
   have hx':=hev x
   rw[hx] at hx'
   split at h
   ·rename_i z hz
    obtain⟨q,g1,g2⟩:=Q2u (P:=P) hT hfo hz hx'
    exact⟨_,h,V2 (U3 hi g1 g2) fun v w' hr=>by simp[execOp,ho,hr]⟩
   ·cases h
  ·cases h
 case indexAddr t x i=>
  obtain⟨z,q,hz,g1,g2⟩:=X12 hT hi.h h (hev x) (hev i)
  exact⟨_,hz,V2 (U3 hi g1 g2) fun v w' hr=>by simp[execOp,ho,hr]⟩
 case index t x i=>
  obtain⟨z,q,hz,g1,g2⟩:=U2d hT h (hev x) (hev i)
  exact⟨_,hz,V2 (U3 hi g1 g2) fun v w' hr=>by simp[execOp,ho,hr]⟩
 case makeMap t r=>
  split at h
  ·split at h
   ·rename_i f hf
    exact⟨_,h,V2 (X1t (P:=P) hi hf) fun v w' hr=>by simp[execOp,ho,hr]⟩
   ·cases h
  ·cases h
 case lookup t m k ok=>
  split at h
  ·rename_i z hz
   obtain⟨q,g1,g2⟩:=U2v hT hi.h hz (hev m) (hev k)
   exact⟨_,h,V2 (U3 hi g1 g2) fun v w' hr=>by simp[execOp,ho,hr]⟩
  ·obtain⟨f,hf,g⟩:=Q2d (P:=P) hT hi h (hev m) (hev k)
   exact⟨f,hf,V2 g fun v w' hr=>by simp[execOp,ho,hr]⟩
 case mapUpdate t m k v=>
  split at h
  ·rename_i f hf
   obtain⟨w',μ',F',g1,g2,g3⟩:=X23 hT hi hf (hev m) (hev k) (hev v)
   refine⟨_,h,fun next Q hn=>?_⟩
   unfold Oper.wp
   have:(execOp a.eval o).run P w=.ok .skip w':=by simp[execOp,ho,g1]
   rw[this]
   simp only[Oper.upon]
   exact hn undef w' μ' F' g2 (by rw[g3];simp[VRel])
  ·obtain⟨f,w',μ',F',hf,g1,g2,g3⟩:=Z2r (P:=P) hT hi h (hev m) (hev k) (hev v)
   refine⟨_,hf,fun next Q hn=>?_⟩
   unfold Oper.wp
   have:(execOp a.eval o).run P w=.ok .skip w':=by simp[execOp,ho,g1]
   rw[this]
   simp only[Oper.upon]
   exact hn undef w' μ' F' g2 (by rw[g3];simp[VRel])
 case insert t m k v=>
  split at h
  ·rename_i f hf
   obtain⟨w',μ',F',g1,g2,g3⟩:=X23 hT hi hf (hev m) (hev k) (hev v)
   refine⟨_,h,fun next Q hn=>?_⟩
   unfold Oper.wp
   have:(execOp a.eval o).run P w=.ok .skip w':=by simp[execOp,ho,g1]
   rw[this]
   simp only[Oper.upon]
   exact hn undef w' μ' F' g2 (by rw[g3];simp[VRel])
  ·cases h
 case extract x i=>
  split at h
  ·rename_i vs hx
   have hx':=hev x
   rw[hx] at hx'
   simp only[VRel] at hx'
   obtain⟨us,hus,hL⟩:=hx'
   split at h
   ·rename_i z hz
    obtain⟨u,hu,hr⟩:=Qq hL hz
    refine⟨_,h,V2 (s:=pure u) (Z2y hi hr) fun v w' hr=>?_⟩
    simp at hr
    obtain⟨rfl,rfl⟩:=hr
    simp[execOp,ho,Instr.extract,hus,hu]
   ·cases h
  ·cases h
 case call cl=>
  split at h
  ·rename_i b hb
   refine X1s hT hi h (vs:=cl.args.toList.map a.eval) (U1t hi _) (consts:=cl.args.map fun | .const _=>true | _=>false) fun v w' hr=>?_
   rw[←J0f] at hr
   simp only[execOp,ho,resolve,hb,invoke,Sem.run_bind,Sem.run_pure,Result.andThen_ok]
   exact hr
  ·rename_i f hf
   split at h
   ·rename_i g caps hg
    have hf':=hev f
    rw[hg] at hf'
    simp only[VRel] at hf'
    obtain⟨us,hus,hL⟩:=hf'
    have hargs:=Zl (X03 (P:=P) (T:=T) cl.argTypes.toList (U1t hi cl.args.toList)) hL
    refine Z2w hO hi h hargs fun⟨fn,h1,h2,h3⟩=>?_
    simp[execOp,ho,resolve,hf,hus,Deferred.ofValue,invoke,callFunc,h1,h2,h3,J0f]
    exact fun e=>absurd h3 (by rw[e];simp)
   ·cases h
  ·cases h
 all_goals cases h
theorem X18 {st:St} {t:Nat} {x:AV} (h:st.tm t=x):st.put t x=st:=by
 unfold St.put
 have:(fun t'=>bif t'==t then x else st.tm t')=st.tm:=by
  funext t'
  cases he:t'==t with
  | true=>have:=eq_of_beq he;subst this;exact h.symm
  | false=>rfl
 rw[this]
theorem J0e {c:Cx} {st:St} {a:Act} {w:World} {μ:Nat→Pl} {F:Nat→Prop} (hi:Inv c st a w μ F) {d:Option Nat} {x:AV} {v:Value} (hd:∀ t,d=some t→t < c.nt) (h:VRel μ F w x v) :
    Inv c (st.putO d x) (a.put d v) w μ F:=by
 cases d with
 | none=>exact hi
 | some t=>
   refine⟨hi.h,hi.fr,hi.idb,hi.idm,hi.n0,?_,by simp[Act.put,hi.sz],hi.df⟩
   intro t'
   have hlt:t < a.tmps.size:=by rw[hi.sz];exact hd t rfl
   simp only[St.putO,St.put,Act.put]
   cases he:t'==t with
   | true=>
     have:=eq_of_beq he
     subst this
     simp only[cond_true]
     rw[Array.getD_eq_getD_getElem?,Array.getElem?_setIfInBounds_self,if_pos hlt]
     exact h
   | false=>
     have hne:t≠t':=fun e=>by subst e;simp at he
     simp only[cond_false]
     rw[Array.getD_eq_getD_getElem?,Array.getElem?_setIfInBounds_ne hne,←Array.getD_eq_getD_getElem?]
     exact hi.tm t'
theorem U12 {c:Cx} {st:St} {a:Act} {w:World} {μ:Nat→Pl} {F:Nat→Prop} (hi:Inv c st a w μ F) {ops:Array Oper} {j t:Nat} (hd:Z0f ops.toList j=some t) {b:Bool} (h:st.tm t=.bool b) :
    yielded ops a.tmps j=some b:=by
 have hv:=hi.tm t
 rw[h] at hv
 simp only[VRel] at hv
 unfold Z0f at hd
 unfold yielded
 have h1:(ops[j]?).bind (·.dst)=some t:=by
  rw[Array.getElem?_toList] at hd
  cases ho:ops[j]? with
  | none=>rw[ho] at hd;cases hd
  | some o=>rw[ho] at hd;exact hd
 have h2:a.tmps[t]?=some (.bool b):=by
  rw[Array.getD_eq_getD_getElem?] at hv
  cases hx:a.tmps[t]? with
  | none=>rw[hx] at hv;simp[undef] at hv
  | some x=>rw[hx] at hv;simpa using hv
 rw[h1,Option.bind_some,h2]
theorem X0x {c:Cx} {st:St} {a:Act} {w:World} {μ:Nat→Pl} {F:Nat→Prop} (hi:Inv c st a w μ F) {ops:Array Oper} {j t:Nat} (hd:Z0f ops.toList j=some t) (h:st.tm t=.undef) :
    yielded ops a.tmps j=none:=by
 have hv:=hi.tm t
 rw[h] at hv
 simp only[VRel] at hv
 unfold Z0f at hd
 unfold yielded
 have h1:(ops[j]?).bind (·.dst)=some t:=by
  rw[Array.getElem?_toList] at hd
  cases ho:ops[j]? with
  | none=>rw[ho] at hd;cases hd
  | some o=>rw[ho] at hd;exact hd
 rw[h1,Option.bind_some]
 rw[Array.getD_eq_getD_getElem?] at hv
 cases hx:a.tmps[t]? with
 | none=>rfl
 | some x=>rw[hx] at hv;simp[undef] at hv;subst hv;rfl
theorem X2j {R:Type} {c:Cx} {st:St} {a:Act} {w:World} {μ:Nat→Pl} {F:Nat→Prop} (hi:Inv c st a w μ F) {ops:Array Oper} {o:Oper} {run skip:St→Option R} {r:R}
    (h:gate ops.toList o st run skip=some r) :
    (Region.wanted o (yielded ops a.tmps)=true∧run st=some r)∨(Region.wanted o (yielded ops a.tmps)=false∧skip st=some r):=by
 unfold gate at h
 unfold Region.wanted
 split at h
 ·rename_i hg
  rw[hg]
  exact .inl ⟨rfl,h⟩
 ·rename_i j want hg
  rw[hg]
  simp only
  split at h
  ·cases h
  ·rename_i t hd
   split at h
   ·rename_i b hb
    rw[U12 hi hd hb]
    cases want<;>cases b<;>simp only[cond_true,cond_false] at h<;>rw[X18 hb] at h<;>simp[h]
   ·rename_i hu
    rw[X0x hi hd hu]
    exact .inr ⟨by simp,h⟩
   ·cases h
theorem X1r:∀ (n a k:Nat),k < n→(rng a n)[k]?=some (a+k)
 | 0,a,k,h=>by omega
 | n+1,a,0,h=>by simp[rng]
 | n+1,a,k+1,h=>by
   simp only[rng,List.getElem?_cons_succ]
   rw[X1r n (a+1) k (by omega)]
   congr 1
   omega
theorem J11:∀ (n a:Nat),(rng a n).length=n
 | 0,_=>rfl
 | n+1,a=>by simp[rng,J11 n (a+1)]
theorem Q1b {μ:Nat→Pl} {F:Nat→Prop} {w:World} {G:Nat→Value}:∀ (ps:List (Nat×AV)),(∀ p∈ps,VRel μ F w p.2 (G p.1))→∀ t,VRel μ F w (ofTm ps t) (G t)
 | [],_,t=>by simp[ofTm,VRel]
 | p::ps,h,t=>by
   simp only[ofTm]
   cases he:t==p.1 with
   | true=>
     have:=eq_of_beq he
     subst this
     exact h p (by simp)
   | false=>exact Q1b ps (fun q hq=>h q (by simp[hq])) t
theorem J1w {μ:Nat→Pl} {F:Nat→Prop} {w:World} {G:Nat→Value} {g:Nat→AV}:∀ (ts:List Nat),(∀ t∈ts,VRel μ F w (g t) (G t))→∀ p∈Z22 ts (ts.map g),VRel μ F w p.2 (G p.1)
 | [],_,p,hp=>by simp[Z22] at hp
 | t::ts,h,p,hp=>by
   simp only[List.map_cons,Z22,List.mem_cons] at hp
   rcases hp with rfl | hp
   ·exact h t (by simp)
   ·exact J1w ts (fun t ht=>h t (by simp[ht])) p hp
theorem X11 {c:Cx} {st:St} {a:Act} {w:World} {μ:Nat→Pl} {F:Nat→Prop} (hi:Inv c st a w μ F) (o:Option (List Nat)):Inv c (match o with | none=>st | some ls=>U0t ls st) a w μ F:=by
 cases o with
 | none=>exact hi
 | some ls=>
   have hnx:(U0t ls st).nx=st.nx:=by simp[U0t,stOf,J11]
   have hhp:∀ k,k < st.nx→(U0t ls st).hp k=st.hp k:=fun k hk=>by
    show ofHp ((rng 0 st.nx).map st.hp) k=_
    rw[Q00,List.getElem?_map,X1r _ _ _ hk]
    simp
   refine⟨⟨fun k hk=>?_,fun k hk=>hi.h.top k (by rw[hnx] at hk;exact hk),hi.h.one,hi.h.out,hi.h.inn⟩,hi.fr,hi.idb,hi.idm,by rw[hnx];exact hi.n0,fun t=>?_,hi.sz,hi.df⟩
   ·rw[hnx] at hk
    rw[hhp k hk]
    exact hi.h.obj k hk
   ·exact Q1b (G:=fun t=>a.tmps.getD t undef) _ (J1w (G:=fun t=>a.tmps.getD t undef) ls fun t _=>hi.tm t) t
theorem X09 {P:Program} {T:Tab} (hT:U2 P T) {orc:Orc} (hO:Qa P orc) {R:Type} {K:St→Option R} {r:R} {c:Cx} {ops:Array Oper} {Q:Exit→Act→World→Prop} (hd:∀ o∈ops.toList,∀ t,o.dst=some t→t < c.nt)
    (hQ:∀ st a w μ F,Inv c st a w μ F→K st=some r→Q .normal a w) :
    ∀ (os:List Oper) (i:Nat) (st:St) (a:Act) (w:World) (μ:Nat→Pl) (F:Nat→Prop),ops.toList.drop i=os→Inv c st a w μ F→J09 T orc ops.toList os st K=some r→
      wpOps P ops Q (List.range' i os.length) a w
 | [],i,st,a,w,μ,F,_,hi,h=>by
   simp only[J09] at h
   simp only[List.length_nil,List.range'_zero,wpOps]
   exact hQ st a w μ F hi h
 | o::os,i,st,a,w,μ,F,hdr,hi,h=>by
   have ho:ops[i]?=some o:=by
    have:(ops.toList.drop i)[0]?=some o:=by rw[hdr];rfl
    rw[List.getElem?_drop,Nat.add_zero,Array.getElem?_toList] at this
    exact this
   have hos:ops.toList.drop (i+1)=os:=by rw[←List.drop_drop,hdr];rfl
   have hmem:o∈ops.toList:=by
    have:=List.mem_of_getElem? (l:=ops.toList) (i:=i) (a:=o) (by rw[Array.getElem?_toList];exact ho)
    exact this
   simp only[J09] at h
   rw[List.length_cons,List.range'_succ]
   simp only[wpOps,ho]
   rcases X2j hi h with ⟨hw,h⟩ | ⟨hw,h⟩
   ·rw[if_pos hw]
    obtain⟨f,hf,hs⟩:=U17 hT hO hi h
    refine .inl (hs _ _ fun v w' μ' F' h1 h2=>?_)
    rw[V9] at hf
    exact X09 hT hO hd hQ os (i+1) _ _ _ μ' F' hos (X11 (J0e h1 (hd o hmem) h2) (V44 T o)) hf
   ·rw[if_neg (by simp[hw])]
    exact X09 hT hO hd hQ os (i+1) _ _ _ μ F hos (J0e hi (hd o hmem) (by simp[VRel])) h
section
variable {R:Type} (T:Tab)
theorem Q7 (b:Bool) (x:Option Eff) (K:Eff→Option R):(req b x).bind K=req b (x.bind K):=by cases b<;>rfl
theorem Q0u (i:Int) (G:Nat→Option Eff) (K:Eff→Option R):∀ (n j:Nat),(Xc i n j G).bind K=Xc i n j fun j=>(G j).bind K
 | 0,_=>rfl
 | n+1,j=>by
   simp only[Xc]
   cases decide (i=(j:Int)) with
   | true=>rfl
   | false=>exact Q0u i G K n (j+1)
theorem Z41 (lo hi mx:Option AV) (n:Nat) (G:Nat→Nat→Bool→Option Eff) (K:Eff→Option R):(Zg lo hi mx n G).bind K=Zg lo hi mx n fun l h c=>(G l h c).bind K:=by
 unfold Zg
 split
 ·rw[Q7,Q7]
  congr 2
  split
  ·rfl
  ·split
   ·rw[Q7]
   ·rfl
 ·rfl
theorem X26 (t:Nat) (op:BinOp) (x y:AV) (K:Eff→Option R):X0u T t op x y K=(X0u T t op x y some).bind K:=by
 unfold X0u
 split<;>(try rw[Q7];rfl)<;>(try (split<;>(try rw[Q7])<;>(try split)<;>rfl))<;>(try rfl)
theorem J3s (lo hi mx:AV) (n:Nat) (x:Option Eff) (K:Eff→Option R):(X0o lo hi mx n x).bind K=X0o lo hi mx n (x.bind K):=by
 unfold X0o
 split
 ·rw[Q7,Q7,Q7]
 ·rfl
theorem U23 (hp:Nat→LObj) (t:Nat) (x:AV) (lo hi mx:Option AV) (K:Eff→Option R):V04 T hp t x lo hi mx K=(V04 T hp t x lo hi mx some).bind K:=by
 unfold V04
 repeat' (first | rfl | rw[Z41];(try rfl) | rw[J3s];(try rfl) | split)
theorem V1g (hp:Nat→LObj) (nx t t2:Nat) (x y:AV) (K:Eff→Option R):Zd T hp nx t t2 x y K=(Zd T hp nx t t2 x y some).bind K:=by
 unfold Zd
 repeat' (first | rfl | rw[Q7];(try rfl) | split)
 all_goals (simp only;congr 1;generalize (_||_)=b;cases b<;>rfl)
theorem V2e (nx t t2:Nat) (n:Int) (K:Eff→Option R):V0g T nx t t2 n K=(V0g T nx t t2 n some).bind K:=by
 unfold V0g
 repeat' (first | rfl | rw[Q7];(try rfl) | split)
theorem Z1q (hp:Nat→LObj) (nx t t2:Nat) (x y:AV) (K:Eff→Option R):Xm T hp nx t t2 x y K=(Xm T hp nx t t2 x y some).bind K:=by
 unfold Xm
 split
 ·exact V2e _ _ _ _ _ _
 ·exact V1g _ _ _ _ _ _ _ _
theorem U0y (nx t:Nat) (x y:AV) (K:Eff→Option R):Vg T nx t x y K=(Vg T nx t x y some).bind K:=by
 unfold Vg
 repeat' (first | rfl | rw[Q7];(try rfl) | split)
theorem Q1f (hp:Nat→LObj) (nx s d:Nat) (x:AV) (K:Eff→Option R):Jm T hp nx s d x K=(Jm T hp nx s d x some).bind K:=by
 unfold Jm
 repeat' (first | rfl | rw[Q7];(try rfl) | split)
theorem V0y (hp:Nat→LObj) (t:Nat) (x ix:AV) (K:Eff→Option R):Xd T hp t x ix K=(Xd T hp t x ix some).bind K:=by
 unfold Xd
 repeat' (first | rfl | rw[Q7,Q7];(try rfl) | rw[Q0u];(try rfl) | split)
theorem J23 (t:Nat) (x ix:AV) (K:Eff→Option R):Z0t T t x ix K=(Z0t T t x ix some).bind K:=by
 unfold Z0t
 repeat' (first | rfl | rw[Q7,Q7];(try rfl) | rw[Q0u];(try rfl) | split)
 all_goals (congr 1;funext j;split<;>rfl)
theorem V0s (hp:Nat→LObj) (nx t n:Nat) (ps:List (Nat×AV)) (K:Eff→Option R):Z6 T hp nx t n ps K=(Z6 T hp nx t n ps some).bind K:=by
 unfold Z6
 repeat' (first | rfl | split)
 all_goals (first | (cases (Nat.beq _ 1&&_)<;>rfl) | (simp only;repeat' (first | rfl | split)))
theorem U1p (t:Tr Res) (G:Res→Option Eff) (K:Eff→Option R):(t.run G).bind K=t.run fun q=>(G q).bind K:=by
 rw[Tr.run_get,Tr.run_get]
 cases t.get<;>rfl
theorem U2j (orc:Orc) (hp:Nat→LObj) (f:Nat) (args:List AV) (K:Eff→Option R):Q0f T orc hp f args K=(Q0f T orc hp f args some).bind K:=by
 unfold Q0f
 simp only
 split
 ·rw[U1p]
  congr 1
  funext q
  repeat' (first | rfl | split)
 ·split
  ·rw[U1p]
   congr 1
   funext q
   split<;>rfl
  ·rw[U1p]
   rfl
theorem U1g (hp:Nat→LObj) (nx:Nat) (b:Builtin) (ts:List Nat) (vs:List AV) (K:Eff→Option R):Xn T hp nx b ts vs K=(Xn T hp nx b ts vs some).bind K:=by
 unfold Xn
 repeat' (first | rfl | exact Z1q _ _ _ _ _ _ _ _ | split)
theorem J28 (hp:Nat→LObj) (nx t:Nat) (m k:AV) (ok:Bool) (K:Eff→Option R):U05 T hp nx t m k ok K=(U05 T hp nx t m k ok some).bind K:=by
 unfold U05
 repeat' (first | rfl | rw[Q7];(try rfl) | split)
 generalize hasB _ _ _=b
 cases b<;>rfl
theorem J2d (hp:Nat→LObj) (t:Nat) (m k v:AV) (K:Eff→Option R):V0v T hp t m k v K=(V0v T hp t m k v some).bind K:=by
 unfold V0v
 repeat' (first | rfl | rw[Q7];(try rfl) | split)
theorem V0d (orc:Orc) (o:Op) (ty:Nat) (st:St) (K:Eff→Option R):evOp T orc o ty st K=(evOp T orc o ty st some).bind K:=by
 cases o
 case pick c a b=>
  simp only[evOp]
  split
  ·rename_i b _
   cases b<;>rfl
  ·rfl
 all_goals simp only[evOp]
 all_goals (first | rfl | exact X26 _ _ _ _ _ _ | exact U23 _ _ _ _ _ _ _ _ | exact U0y _ _ _ _ _ _ | exact Q1f _ _ _ _ _ _ _ | exact V0y _ _ _ _ _ _ | exact J23 _ _ _ _ _ | exact V0s _ _ _ _ _ _ _ | skip)
 all_goals (repeat' (first | rfl | exact U1g _ _ _ _ _ _ _ | exact U2j _ _ _ _ _ _ | exact J28 _ _ _ _ _ _ _ _ | exact J2d _ _ _ _ _ _ _ | split))
end
end Go.Proofs.YtkobjdhbfepkaaaE
namespace Go.Proofs.YtkobjdhbfepkaaaE
open Go
set_option linter.unusedVariables false
set_option linter.unusedSimpArgs false
theorem Z0s {st st':St} (xs:List Operand) (h:∀ x∈xs,st'.ev x=st.ev x):xs.map st'.ev=xs.map st.ev:=List.map_congr_left h
theorem U1c {st st':St} (ps:List (Nat×Operand)) (h:∀ x∈ps.map (·.2),st'.ev x=st.ev x):(ps.map fun p=>(p.1,st'.ev p.2))=ps.map fun p=>(p.1,st.ev p.2):=
 List.map_congr_left fun p hp=>by rw[h p.2 (List.mem_map.2 ⟨p,hp,rfl⟩)]
theorem V0h {st st':St} (x:Option Operand) (h:∀ y,x=some y→st'.ev y=st.ev y):x.map st'.ev=x.map st.ev:=by
 cases x with
 | none=>rfl
 | some y=>simp[h y rfl]
theorem U0j (T:Tab) (orc:Orc) (o:Op) (ty:Nat) {st st':St} (h:∀ x∈o.operands.toList,st'.ev x=st.ev x) (hh:st'.hp=st.hp) (hn:st'.nx=st.nx) :
    evOp T orc o ty st' some=evOp T orc o ty st some:=by
 cases o<;>simp only[evOp]<;>(try rfl)
 case move x=>rw[h x (by simp[Op.operands])]
 case assign x=>rw[h x (by simp[Op.operands]),hn]
 case pick c a b=>rw[h c (by simp[Op.operands]),h a (by simp[Op.operands]),h b (by simp[Op.operands])]
 case alloc e=>rw[hn]
 case box e x=>rw[h x (by simp[Op.operands]),hn]
 case build t ps=>rw[U1c ps.toList fun x hx=>h x (by simpa[Op.operands] using hx)]
 case buildSlice t n ps=>rw[U1c ps.toList fun x hx=>h x (by simpa[Op.operands] using hx),hh,hn]
 case load t x=>rw[h x (by simp[Op.operands]),hh]
 case store t x y=>rw[h x (by simp[Op.operands]),h y (by simp[Op.operands]),hh,hn]
 case nilCheck x=>rw[h x (by simp[Op.operands])]
 case binOp op t x y yt=>rw[h x (by simp[Op.operands]),h y (by simp[Op.operands])]
 case unOp op t x=>rw[h x (by simp[Op.operands])]
 case convert s d x=>rw[h x (by simp[Op.operands]),hh,hn]
 case makeFunc fn first caps=>
  rw[Z0s caps.toList fun x hx=>h x (by simp[Op.operands];right;simpa using hx)]
 case makeSlice t x y=>rw[h x (by simp[Op.operands]),h y (by simp[Op.operands]),hn]
 case slice t x lo hi mx=>
  rw[h x (by simp[Op.operands]),hh,V0h lo fun y hy=>h y (by subst hy;simp[Op.operands]),V0h hi fun y hy=>h y (by subst hy;simp[Op.operands]),V0h mx fun y hy=>h y (by subst hy;simp[Op.operands])]
 case fieldAddr s x f=>rw[h x (by simp[Op.operands])]
 case field s x f=>rw[h x (by simp[Op.operands])]
 case indexAddr t x i=>rw[h x (by simp[Op.operands]),h i (by simp[Op.operands]),hh]
 case index t x i=>rw[h x (by simp[Op.operands]),h i (by simp[Op.operands])]
 case makeMap t r=>rw[hn]
 case lookup t m k ok=>rw[h m (by simp[Op.operands]),h k (by simp[Op.operands]),hh,hn]
 case mapUpdate t m k v=>rw[h m (by simp[Op.operands]),h k (by simp[Op.operands]),h v (by simp[Op.operands]),hh]
 case insert t m k v=>rw[h m (by simp[Op.operands]),h k (by simp[Op.operands]),h v (by simp[Op.operands]),hh]
 case extract x i=>rw[h x (by simp[Op.operands]),hn]
 case call c=>
  have ha:c.args.toList.map st'.ev=c.args.toList.map st.ev:=Z0s _ fun x hx=>h x (by simp[Op.operands,Call.operands];right;simpa using hx)
  cases hc:c.callee with
  | builtin b=>simp only[ha,hh,hn]
  | value f=>simp only[ha,hh,h f (by simp[Op.operands,Call.operands,hc])]
  | invoke r n=>rfl
theorem V1e {hp hp':Nat→LObj} {t:Ty} {x:AV} (h:∀ k∈x.refs,hp' k=hp k):Ur hp' t x=Ur hp t x:=by
 cases x<;>first | rfl | (simp only[Ur,h _ (List.mem_singleton.2 rfl)])
theorem J38 {hp hp':Nat→LObj} {x:AV} (h:∀ k∈x.refs,hp' k=hp k):lenE hp' x=lenE hp x:=by
 cases x<;>first | rfl | (simp only[lenE,h _ (List.mem_singleton.2 rfl)])
theorem J2s {T:Tab} {hp hp':Nat→LObj} {t:Nat} {x:AV} (h:∀ k∈x.refs,hp' k=hp k):V1h T hp' t x=V1h T hp t x:=by
 unfold V1h
 split<;>first | rfl | exact J38 h | skip
theorem V2y {T:Tab} {hp hp':Nat→LObj} {t:Nat} {x:AV} (h:∀ k∈x.refs,hp' k=hp k):V0p T hp' t x=V0p T hp t x:=by
 cases x<;>first | rfl | (simp only[V0p,h _ (List.mem_singleton.2 rfl)])
theorem Q2f {T:Tab} {hp hp':Nat→LObj} {t:Nat} {x:AV} {lo hi mx:Option AV} (h:∀ k∈x.refs,hp' k=hp k):V04 T hp' t x lo hi mx some=V04 T hp t x lo hi mx some:=by
 unfold V04
 cases x
 case rowS k off len c=>cases c<;>first | rfl | (simp only[h k (List.mem_singleton.2 rfl)])
 all_goals first | rfl | (simp only[h _ (List.mem_singleton.2 rfl)])
theorem J18 {T:Tab} {hp hp':Nat→LObj} {t:Nat} {x i:AV} (h:∀ k∈x.refs,hp' k=hp k):Xd T hp' t x i some=Xd T hp t x i some:=by
 unfold Xd
 cases x<;>first | rfl | (simp only[h _ (List.mem_singleton.2 rfl)]) | skip
theorem Zu {b:Bool} {x:Option Eff} {f:Eff} (h:req b x=some f):x=some f:=by
 cases b
 ·cases h
 ·exact h
theorem U29 {T:Tab} {hp hp':Nat→LObj} {nx nx' s d:Nat} {x v:AV} (hx:∀ k∈x.refs,hp' k=hp k) (h:Jm T hp nx s d x some=some (.val v)):Jm T hp' nx' s d x some=some (.val v):=by
 unfold Jm at h ⊢
 split at h
 ·simp_all
 ·simp_all
 ·split at h
  ·have:=Zu h
   simp at this
  ·cases h
 ·rw[V1e (hp:=hp) hx]
  simp_all
 ·cases h
theorem Q22 {T:Tab} {hp:Nat→LObj} {nx s d:Nat} {x y v:AV} (h:Zd T hp nx s d x y some=some (.val v)):False:=by
 unfold Zd at h
 repeat' split at h
 all_goals (first | (cases h;done) | (have:=Zu h;simp at this;done) | skip)
 simp only at h
 have:=Zu h
 generalize (_||_:Bool)=b at this
 cases b<;>simp at this
theorem X3k {T:Tab} {nx s d:Nat} {n:Int} {v:AV} (h:V0g T nx s d n some=some (.val v)):False:=by
 unfold V0g at h
 repeat' split at h
 all_goals (first | (cases h;done) | (have:=Zu h;simp at this;done))
theorem V2h {T:Tab} {hp:Nat→LObj} {nx s d:Nat} {x y v:AV} (h:Xm T hp nx s d x y some=some (.val v)):False:=by
 unfold Xm at h
 split at h
 ·exact X3k h
 ·exact Q22 h
theorem X1g {T:Tab} {nx t:Nat} {x y v:AV} (h:Vg T nx t x y some=some (.val v)):False:=by
 unfold Vg at h
 repeat' split at h
 all_goals (first | (cases h;done) | (have:=Zu h;simp at this;done))
theorem Q15 {T:Tab} {hp:Nat→LObj} {nx t n:Nat} {ps:List (Nat×AV)} {v:AV} (h:Z6 T hp nx t n ps some=some (.val v)):False:=by
 unfold Z6 at h
 repeat' split at h
 all_goals (first | (cases h;done) | skip)
 ·revert h
  cases (Nat.beq _ 1&&_)<;>intro h<;>cases h
 simp only at h
 repeat' split at h
 all_goals (first | (cases h;done) | (simp at h;done))
mutual
theorem J33 {hp hp':Nat→LObj} {ks:List Nat}:∀ (x:AV),(∀ k∈x.refs,hp' k=hp k)→x.frz hp' ks=x.frz hp ks
 | .agg cs,h=>by simp only[AV.frz,Uq cs h]
 | .tup cs,h=>by simp only[AV.frz,Uq cs h]
 | .fn g cs,h=>by simp only[AV.frz,Uq cs h]
 | .rptr _ _ _ _,_=>by simp only[AV.frz]
 | .rowA k,h=>by simp only[AV.frz,h k (List.mem_singleton.2 rfl)]
 | .rowS k _ _ _,h=>by simp only[AV.frz,h k (List.mem_singleton.2 rfl)]
 | .ptr _ _,_=>by simp only[AV.frz]
 | .mp _,_=>by simp only[AV.frz]
 | .psl _ _,_=>by simp only[AV.frz]
 | .int _ _,_=>by simp only[AV.frz]
 | .bool _,_=>by simp only[AV.frz]
 | .str _,_=>by simp only[AV.frz]
 | .list _ _,_=>by simp only[AV.frz]
 | .np,_=>by simp only[AV.frz]
 | .nm,_=>by simp only[AV.frz]
 | .nf,_=>by simp only[AV.frz]
 | .ns,_=>by simp only[AV.frz]
 | .lptr _ _ _ _,_=>by simp only[AV.frz]
 | .undef,_=>by simp only[AV.frz]
 | .dead,_=>by simp only[AV.frz]
theorem Uq {hp hp':Nat→LObj} {ks:List Nat}:∀ (cs:List AV),(∀ k∈AV.refsL cs,hp' k=hp k)→AV.frzL hp' ks cs=AV.frzL hp ks cs
 | [],_=>by simp only[AV.frzL]
 | c::cs,h=>by
   simp only[AV.refsL,List.mem_append] at h
   simp only[AV.frzL,J33 c (fun k hk=>h k (.inl hk)),Uq cs (fun k hk=>h k (.inr hk))]
end
theorem U0d {hp hp':Nat→LObj}:∀ (ks:List Nat),(∀ k∈ks,hp' k=hp k)→V1 hp' ks=V1 hp ks
 | [],_=>rfl
 | k::ks,h=>by
   simp only[V1,h k (by simp),U0d ks (fun j hj=>h j (by simp[hj]))]
theorem V2z {T:Tab} {orc:Orc} {hp hp':Nat→LObj} {f:Nat} {args:List AV} {v:AV} (hk:∀ k∈AV.refsL args,hp' k=hp k) (h:Q0f T orc hp f args some=some (.val v)):Q0f T orc hp' f args some=some (.val v):=by
 unfold Q0f at h ⊢
 simp only at h ⊢
 rw[U0d _ hk,Uq args hk]
 split at h
 ·rename_i hr
  rw[if_pos hr]
  exact h
 ·rename_i hr
  split at h
  ·obtain⟨q,_,hq⟩:=Tr.run_some h
   split at hq<;>cases hq
  ·obtain⟨q,_,hq⟩:=Tr.run_some h
   cases hq
theorem U0x:∀ (cs:List AV) (ts:List (Option Ty)),AV.refsL (Zt cs ts)=AV.refsL cs
 | [],ts=>by cases ts<;>simp only[Zt]
 | c::cs,[]=>by cases c<;>simp only[Zt]
 | c::cs,t::ts=>by cases c<;>cases t<;>simp only[Zt,AV.refsL,U0x cs ts,AV.refs]
theorem J1u (T:Tab) (t:Nat) (v:AV):(Q03 T t v).refs=v.refs:=by
 unfold Q03
 split
 ·split
  ·simp only[AV.refs,U0x]
  ·rfl
 ·rfl
theorem Z1w (T:Tab) (t:Nat) (v:AV):(X0m T t v).refs=v.refs:=by
 unfold X0m
 split
 ·cases T.kns with | true=>rfl | false=>?_
  rw[cond_false]
  split
  ·split<;>rfl
  ·rfl
 ·cases T.kns with | true=>rfl | false=>exact J1u T t v
theorem Uy (T:Tab):∀ (ts:List Nat) (vs:List AV),AV.refsL (Qe T ts vs)=AV.refsL vs
 | [],vs=>by cases vs<;>rfl
 | t::ts,[]=>rfl
 | t::ts,v::vs=>by simp only[Qe,AV.refsL,Z1w,Uy T ts vs]
theorem X0n (xs ys:List AV):AV.refsL (xs++ys)=AV.refsL xs++AV.refsL ys:=by
 induction xs with
 | nil=>rfl
 | cons x xs ih=>simp[AV.refsL,ih]
theorem Vz {xs:List AV} {x:AV} (hx:x∈xs):∀ {k:Nat},k∈x.refs→k∈AV.refsL xs:=by
 intro k hk
 induction xs with
 | nil=>cases hx
 | cons y ys ih=>
   simp only[AV.refsL,List.mem_append]
   rcases List.mem_cons.1 hx with rfl | hx
   ·exact .inl hk
   ·exact .inr (ih hx)
theorem J2y {T:Tab} {hp hp':Nat→LObj} {t:Nat} {m k:AV} {ok:Bool} (h:∀ j∈m.refs,hp' j=hp j):V19 T hp' t m k ok=V19 T hp t m k ok:=by
 cases m
 case mp j=>
  unfold V19
  cases J0b T t with
  | none=>rfl
  | some p=>simp only[h j (by simp[AV.refs])]
 all_goals (unfold V19;cases J0b T t<;>rfl)
theorem X2p {T:Tab} {hp:Nat→LObj} {t:Nat} {m k v z:AV} (h:updE T hp t m k v=some (.val z)):False:=by
 unfold updE at h
 repeat' split at h
 all_goals cases h
theorem V23 {T:Tab} {nx t:Nat} {z:AV} (h:X07 T nx t=some (.val z)):False:=by
 unfold X07 at h
 split at h
 ·cases h
 ·split at h<;>cases h
theorem U3a {T:Tab} {hp:Nat→LObj} {t:Nat} {m k v z:AV} (h:V0v T hp t m k v some=some (.val z)):False:=by
 unfold V0v at h
 repeat' split at h
 all_goals first | (cases h;done) | (obtain⟨_,h⟩:=Z4 h;cases h)
theorem J2x {T:Tab} {hp hp':Nat→LObj} {nx nx' t:Nat} {m k z:AV} {ok:Bool} (hm:∀ j∈m.refs,hp' j=hp j) (h:U05 T hp nx t m k ok some=some (.val z)):U05 T hp' nx' t m k ok some=some (.val z):=by
 unfold U05 at h ⊢
 split at h<;>try cases h
 rename_i p j hp0
 simp only[hm j (by simp[AV.refs])]
 split at h<;>try cases h
 split at h<;>try cases h
 rename_i hif
 simp only[if_pos hif]
 split at h<;>try cases h
 rename_i hx
 rename_i foc _ _ _
 cases foc with
 | none=>
   revert h
   simp only
   cases hasB _ _ _ with
   | true=>intro h;cases h
   | false=>exact id
 | some q=>exact h
theorem Q36 {T:Tab} {hp:Nat→LObj} {t t2:Nat} {x y z:AV} (h:X21 T hp t t2 x y=some (.val z)):False:=by
 unfold X21 at h
 repeat' split at h
 all_goals cases h
theorem V2r {T:Tab} {hp:Nat→LObj} {t:Nat} {x z:AV} (h:X1e T hp t x=some (.val z)):False:=by
 unfold X1e at h
 repeat' split at h
 all_goals cases h
theorem V26 {T:Tab} {hp hp':Nat→LObj} {nx nx':Nat} {b:Builtin} {ts:List Nat} {vs:List AV} {v:AV} (hr:∀ k∈AV.refsL vs,hp' k=hp k) (h:Xn T hp nx b ts vs some=some (.val v)):Xn T hp' nx' b ts vs some=some (.val v):=by
 unfold Xn at h ⊢
 split at h
 ·rename_i t x
  rw[J2s (hp:=hp) (fun k hk=>hr k (Vz (by simp) hk))]
  exact h
 ·exact(V2h h).elim
 ·exact h
 ·exact h
 ·split at h
  ·rename_i f hf
   cases h
   exact(Q36 hf).elim
  ·cases h
 ·split at h
  ·rename_i f hf
   cases h
   exact(V2r hf).elim
  ·cases h
 ·exact h
 ·cases h
theorem X1u (st:St) (hp':Nat→LObj) (nx':Nat) (x:Operand):St.ev { st with hp:=hp',nx:=nx' } x=st.ev x:=by cases x<;>rfl
theorem J21 {hp hp':Nat→LObj} {t:Ty} {x:AV} (h:∀ k∈x.refs,hp' k=hp k):Q1m hp' t x=Q1m hp t x:=by
 unfold Q1m
 split
 ·rfl
 ·exact V1e h
theorem J27 {T:Tab} {hp hp':Nat→LObj} {nx nx' s1 s2:Nat} {base src:AV} {k:Nat} {ob:LObj} {v:AV} (hb:∀ j∈base.refs,hp' j=hp j) (hs:∀ j∈src.refs,hp' j=hp j)
    (h:Zd T hp nx s1 s2 base src some=some (.app k ob v)):Zd T hp' nx' s1 s2 base src some=some (.app k ob v):=by
 cases base with
 | rowA k0=>
   have e:=hb k0 (by simp[AV.refs])
   unfold Zd at h ⊢
   simp only[J21 hs,e] at h ⊢
   exact h
 | rowS k0 off len capped=>
   have e:=hb k0 (by simp[AV.refs])
   unfold Zd at h ⊢
   simp only[J21 hs,e] at h ⊢
   exact h
 | _=>
   exfalso
   unfold Zd at h
   simp only[req,Bool.cond_eq_ite] at h
   repeat' split at h
   all_goals cases h
theorem V34 {T:Tab} {nx s d:Nat} {n:Int} {k:Nat} {ob:LObj} {v:AV} (h:V0g T nx s d n some=some (.app k ob v)):False:=by
 unfold V0g at h
 repeat' split at h
 all_goals (first | (cases h;done) | (have:=Zu h;simp at this;done))
theorem U2e {T:Tab} {hp hp':Nat→LObj} {nx nx' s1 s2:Nat} {base src:AV} {k:Nat} {ob:LObj} {v:AV} (hb:∀ j∈base.refs,hp' j=hp j) (hs:∀ j∈src.refs,hp' j=hp j)
    (h:Xm T hp nx s1 s2 base src some=some (.app k ob v)):Xm T hp' nx' s1 s2 base src some=some (.app k ob v):=by
 unfold Xm at h ⊢
 split at h
 ·exact(V34 h).elim
 ·exact J27 hb hs h
theorem J3g {T:Tab} {orc:Orc} {o:Op} {ty:Nat} {st:St} {k:Nat} {ob:LObj} {v:AV} (hi:Z19 o=true) (h:evOp T orc o ty st some=some (.app k ob v)) (hp':Nat→LObj) (nx':Nat) (hk:∀ j∈AV.refsL (U1 st o),hp' j=st.hp j) :
    evOp T orc o ty { st with hp:=hp',nx:=nx' } some=some (.app k ob v):=by
 have hev:St.ev { st with hp:=hp',nx:=nx' } = st.ev:=funext (X1u st hp' nx')
 cases o<;>simp only[Z19] at hi<;>try (cases hi;done)
 rename_i c
 split at hi
 ·rename_i hc
  simp only[evOp,hev,hc] at h ⊢
  have hz:∀ z∈c.args.toList.map st.ev,∀ j∈z.refs,hp' j=st.hp j:=fun z hz j hj=>hk j (by
   obtain⟨q,hq,rfl⟩:=List.mem_map.1 hz
   exact Vz (List.mem_map.2 ⟨q,by simp only[Op.operands,Call.operands];simp;exact .inr (by simpa using hq),rfl⟩) hj)
  generalize c.args.toList.map st.ev=vs at h hz ⊢
  generalize c.argTypes.toList=ts at h ⊢
  match ts,vs,h with
  | [t,t2],[x,y],h=>exact U2e (fun j hj=>hz x (by simp) j hj) (fun j hj=>hz y (by simp) j hj) h
  | [],_,h=>cases h
  | [_],_,h=>cases h
  | _::_::_::_,_,h=>cases h
  | [_,_],[],h=>cases h
  | [_,_],[_],h=>cases h
  | [_,_],_::_::_::_,h=>cases h
 ·cases hi
theorem J2z {T:Tab} {nx t:Nat} {x v:AV} (h:V1n T nx t x=.val v) (nx':Nat):V1n T nx' t x=.val v:=by
 unfold V1n at h ⊢
 split at h
 ·split at h
  ·revert h
   cases T.kns&&J1l _ _<;>intro h
   ·exact h
   ·cases h
  ·exact h
 ·exact h
theorem Q2w {T:Tab} {orc:Orc} {o:Op} {ty:Nat} {st:St} {v:AV} (h:evOp T orc o ty st some=some (.val v)) (hp':Nat→LObj) (nx':Nat) (hk:Ul o=false→∀ k∈AV.refsL (U1 st o),hp' k=st.hp k) :
    evOp T orc o ty { st with hp:=hp',nx:=nx' } some=some (.val v):=by
 have hev:St.ev { st with hp:=hp',nx:=nx' } = st.ev:=funext (X1u st hp' nx')
 have hrefs:Ul o=false→∀ x∈o.operands.toList,∀ k∈(st.ev x).refs,hp' k=st.hp k:=fun hf x hx k hkx=>hk hf k (Vz (List.mem_map.2 ⟨x,hx,rfl⟩) hkx)
 cases o<;>simp only[evOp,hev] at h ⊢<;>(try exact h)
 case assign x=>
  unfold U10 at h ⊢
  split at h
  ·split at h
   ·split at h
    ·split at h
     ·exact h
     ·cases h
    ·exact h
   ·exact h
  ·exact h
 case extract x i=>
  split at h
  ·split at h
   ·rename_i v0 hv0
    have h':=J2z (Option.some.inj h) nx'
    simp only[hv0,h']
   ·cases h
  ·cases h
 case alloc e=>
  split at h
  ·unfold boxE at h
   split at h
   ·rename_i hx;split at hx<;>cases hx<;>cases h
   ·cases h
  ·cases h
 case box e x=>
  split at h
  ·unfold boxE at h
   split at h
   ·rename_i hx;split at hx<;>cases hx<;>cases h
   ·cases h
  ·cases h
 case buildSlice t n ps=>exact(Q15 h).elim
 case load t x=>rw[V2y (hp:=st.hp) (hrefs rfl x (by simp[Op.operands]))];exact h
 case store t x y=>
  split at h
  ·rename_i f hf
   have hv:∀ v0,f≠.val v0:=fun v0 he=>by
    subst he
    unfold Q1t at hf
    repeat' split at hf
    all_goals (cases hf;done)
   have h:=Option.some.inj h
   unfold livE at h
   split at h
   ·revert h
    generalize (_&&_:Bool)=bb
    cases bb<;>(intro h;cases h)
   ·exact absurd h (hv v)
  ·cases h
 case convert s d x=>exact U29 (hrefs rfl x (by simp[Op.operands])) h
 case makeSlice t x y=>exact(X1g h).elim
 case slice t x lo hi mx=>rw[Q2f (hp:=st.hp) (hrefs rfl x (by simp[Op.operands]))];exact h
 case makeMap t r=>
  split at h
  ·split at h
   ·rename_i f hf
    cases h
    exact(V23 hf).elim
   ·cases h
  ·cases h
 case lookup t m k ok=>
  rw[J2y (hp:=st.hp) (hrefs rfl m (by simp[Op.operands]))]
  split at h
  ·exact h
  ·exact J2x (hrefs rfl m (by simp[Op.operands])) h
 case mapUpdate t m k v=>
  split at h
  ·rename_i f hf
   cases h
   exact(X2p hf).elim
  ·exact(U3a h).elim
 case insert t m k v=>
  split at h
  ·rename_i f hf
   cases h
   exact(X2p hf).elim
  ·cases h
 case indexAddr t x i=>rw[J18 (hp:=st.hp) (hrefs rfl x (by simp[Op.operands]))];exact h
 case call c=>
  have hL:∀ k∈AV.refsL (c.args.toList.map st.ev),hp' k=st.hp k:=fun k hkk=>by
   obtain⟨y,hy,hky⟩:=Z02 hkk
   obtain⟨x,hx,rfl⟩:=List.mem_map.1 hy
   exact hrefs rfl x (by simp[Op.operands,Call.operands];right;simpa using hx) k hky
  split at h
  ·exact V26 hL h
  ·rename_i f hf
   split at h
   ·rename_i g caps hg
    have hc:=hrefs rfl f (by simp[Op.operands,Call.operands,hf])
    rw[hg] at hc
    simp only[AV.refs] at hc
    refine V2z (hp:=st.hp) (fun k hkk=>?_) h
    rw[X0n,Uy,List.mem_append] at hkk
    exact hkk.elim (hL k) (hc k)
   ·cases h
  ·cases h
end Go.Proofs.YtkobjdhbfepkaaaE
