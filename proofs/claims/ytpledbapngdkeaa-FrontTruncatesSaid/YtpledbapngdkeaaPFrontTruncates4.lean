import Derived.Test.YtpledbapngdkeaaPFrontTruncates3
import Derived.Shelf.RegionOpenPlain
import Derived.Lib.Strings
import Derived.Lib.Slices
import Derived.Lib.Walk
import Derived.Lib.Builder
import Derived.Lib.UnsafeStr
import Derived.Laws.Externs
set_option maxRecDepth 1000000
namespace Go.Proofs.YtpledbapngdkeaaB
open Go Go.RowKit Go.Shelf
attribute [local go_sem] Oper.semAt_some
set_option maxHeartbeats 1000000 in
theorem Q54 (n:Nat) (s:List UInt8) (w:World) :
    CallsIn Fence.wide n Try.prog 118 #[.string ⟨s.toArray⟩] w fun e w'=>e=.returned (.func (.func 139) #[] #[.pointer (some ⟨w.heap.size,0,none⟩)])∧w'=w.alloc (.cells #[.string ⟨s.toArray⟩] 9):=by
 refine callsIn_of_wp Try.func118 rfl trivial ?_ rfl
 simp only[Try.ntmps118,List.size_toArray,List.length_cons,List.length_nil,Nat.reduceAdd,Nat.reduceSub,Array.replicate_succ,Array.replicate_zero,List.push_toArray,List.append_toArray,List.nil_append,List.cons_append]
 gi_wp2
 go_ret
 exact⟨rfl,rfl⟩
theorem info9:(Try.prog.info? 9).map (fun i=>(i.zero,i.size,i.bytes))=some (some (.string ⟨#[]⟩),1,16):=by kernel_rfl
theorem X4v:Try.prog.underlying 149=some (.slice 9):=by kernel_rfl
def V9:List UInt8→List (List UInt8)×List UInt8
 | []=>([],[])
 | c::t=>if c.toNat=0∨63 < c.toNat∨t.length < c.toNat then ([],c::t) else ((t.take c.toNat)::(V9 (t.drop c.toNat)).1,(V9 (t.drop c.toNat)).2)
termination_by s=>s.length
decreasing_by all_goals (simp;omega)
theorem Q33 {r:List UInt8} (h:U1s r):V9 r=([],r):=by
 cases r with
 | nil=>rw[V9]
 | cons c t=>rw[V9];exact if_pos h
def strs (l:List (List UInt8)):List Value:=l.map fun s=>.string ⟨s.toArray⟩
structure JW (w:World) (rec:Loop) (st:LoopState) (v:Value) (k:Nat) (xs:List Value) (bn left:List UInt8) (W:World):Prop where
 out:Boxed W w.heap.size 149 v
 row:W.ownsRow (w.heap.size+5) 9 1 v k xs
 left:Boxed W (w.heap.size+1) 9 (.string ⟨left.toArray⟩)
 box:Boxed W (w.heap.size+2) 9 (.string ⟨bn.toArray⟩)
 bel:Below w.heap.size w W
 loop:W.heap[w.heap.size+4]?=some (.loop { rec with state:=st })
 dfr:W.heap[w.heap.size+3]?=some (.deferred (some []))
theorem Boxed.drawn {W:World} {B:Nat} {t:TypeId} {v:Value} (h:Boxed W B t v) (d:Nat):Boxed { W with drawn:=d } B t v:=h
section
variable {w:World} {rec:Loop} {st st':LoopState} {v:Value} {k:Nat} {xs:List Value} {bn left:List UInt8} {W:World}
theorem JW.lt (h:JW w rec st v k xs bn left W):w.heap.size+4 < W.heap.size:=(Array.getElem?_eq_some_iff.1 h.loop).1
theorem JW.drawn (h:JW w rec st v k xs bn left W) (d:Nat):JW w rec st v k xs bn left { W with drawn:=d }:=
 ⟨h.out,h.row,h.left,h.box,⟨h.bel.os,h.bel.tape,h.bel.output,h.bel.size,h.bel.block⟩,h.loop,h.dfr⟩
theorem JW.putLoop (h:JW w rec st v k xs bn left W) {L:Loop} (hL:L={ rec with state:=st' }):JW w rec st' v k xs bn left (W.putObj (w.heap.size+4) (.loop L)):=by
 subst hL
 have ot:∀ j,j≠w.heap.size+4→(W.putObj (w.heap.size+4) (.loop { rec with state:=st' })).heap[j]?=W.heap[j]?:=fun j hj=>World.putObj_heap_other hj
 exact⟨(ot _ (by omega)).trans h.out,ownsRow_putObj h.row _ h.loop rfl,(ot _ (by omega)).trans h.left,(ot _ (by omega)).trans h.box,
  ⟨h.bel.os,h.bel.tape,h.bel.output,by simpa using h.bel.size,fun j hj=>(ot _ (by omega)).trans (h.bel.block j hj)⟩,World.putObj_heap_same h.lt,(ot _ (by omega)).trans h.dfr⟩
theorem JW.ne (h:JW w rec st v k xs bn left W) {j:Nat} (hj:j < w.heap.size+5):some j≠v.ownBlock:=fun e=>by
 have:=(h.row.lt j e.symm).1
 omega
theorem JW.mid (h:JW w rec st v k xs bn left W) {tmp:Obj} {w1:World} (hg:(W.alloc tmp).grownBy w1 v.ownBlock):Boxed w1 w.heap.size 149 v:=by
 have hlt:=h.lt
 exact((hg.block _ (by simp;omega) (h.ne (by omega))).trans (Below.heap_alloc _ _ _ (by omega))).trans h.out
theorem JW.grown (h:JW w rec st v k xs bn left W) {tmp:Obj} {w1:World} {v':Value} {k':Nat} {ys:List Value} (hown:w1.ownsRow (w.heap.size+5) 9 1 v' k' ys) (hg:(W.alloc tmp).grownBy w1 v.ownBlock) :
    JW w rec st v' k' ys bn left (w1.setCell ⟨w.heap.size,0,none⟩ v'):=by
 have hlt:=h.lt
 have kp:∀ j,j < w.heap.size+5→w1.heap[j]?=W.heap[j]?:=fun j hj=>(hg.block j (by simp;omega) (h.ne hj)).trans (Below.heap_alloc _ _ _ (by omega))
 have hv1:Boxed w1 w.heap.size 149 v:=(kp _ (by omega)).trans h.out
 have ot:∀ j,j≠w.heap.size→(w1.setCell ⟨w.heap.size,0,none⟩ v').heap[j]?=w1.heap[j]?:=fun j hj=>Below.heap_setCell _ _ _ _ hj
 refine⟨hv1.set v',?_,(ot _ (by omega)).trans ((kp _ (by omega)).trans h.left),(ot _ (by omega)).trans ((kp _ (by omega)).trans h.box),?_,(ot _ (by omega)).trans ((kp _ (by omega)).trans h.loop),(ot _ (by omega)).trans ((kp _ (by omega)).trans h.dfr)⟩
 ·refine hown.kept (grownBy_setCell' w1 w.heap.size v') (.inr fun e=>?_)
  have:=(hown.lt _ e).1
  omega
 ·refine((h.bel.alloc (by omega) tmp).grown hg (by simp;omega) fun j ej=>?_).setCell (p:=⟨w.heap.size,0,none⟩) (Nat.le_refl _) v'
  have:=(h.row.lt j ej).1
  omega
theorem JW.setLeft (h:JW w rec st v k xs bn left W) (l:List UInt8):JW w rec st v k xs bn l (W.setCell ⟨w.heap.size+1,0,none⟩ (.string ⟨l.toArray⟩)):=by
 have ot:∀ j,j≠w.heap.size+1→(W.setCell ⟨w.heap.size+1,0,none⟩ (.string ⟨l.toArray⟩)).heap[j]?=W.heap[j]?:=fun j hj=>Below.heap_setCell _ _ _ _ hj
 refine⟨(ot _ (by omega)).trans h.out,h.row.kept (grownBy_setCell' W _ _) (.inr (h.ne (by omega)).symm),h.left.set _,(ot _ (by omega)).trans h.box,h.bel.setCell (p:=⟨w.heap.size+1,0,none⟩) (by simp) _,(ot _ (by omega)).trans h.loop,(ot _ (by omega)).trans h.dfr⟩
theorem JW.setBox (h:JW w rec st v k xs bn left W) (l:List UInt8):JW w rec st v k xs l left (W.setCell ⟨w.heap.size+2,0,none⟩ (.string ⟨l.toArray⟩)):=by
 have ot:∀ j,j≠w.heap.size+2→(W.setCell ⟨w.heap.size+2,0,none⟩ (.string ⟨l.toArray⟩)).heap[j]?=W.heap[j]?:=fun j hj=>Below.heap_setCell _ _ _ _ hj
 refine⟨(ot _ (by omega)).trans h.out,h.row.kept (grownBy_setCell' W _ _) (.inr (h.ne (by omega)).symm),(ot _ (by omega)).trans h.left,h.box.set _,h.bel.setCell (p:=⟨w.heap.size+2,0,none⟩) (by simp) _,(ot _ (by omega)).trans h.loop,(ot _ (by omega)).trans h.dfr⟩
end
theorem Q41 (l:List (List UInt8)) (x:List UInt8):strs l++[.string ⟨x.toArray⟩]=strs (l++[x]):=by simp[strs]
theorem Q0d (pre:List (List UInt8)) {s t:List UInt8} {c:UInt8} (h0:c.toNat≠0) (h1:c.toNat≤63) (h2:c.toNat≤t.length) (he:V9 s=(pre++(V9 (c::t)).1,(V9 (c::t)).2)) :
    V9 s=((pre++[t.take c.toNat])++(V9 (t.drop c.toNat)).1,(V9 (t.drop c.toNat)).2):=by
 rw[he,V9,if_neg (by omega)]
 simp
def JR (w:World) (s:List UInt8) (rec:Loop) (r:List UInt8) (W:World):Prop:=
 ∃ pre v,JW w rec .ready v pre.length (strs pre) r r W∧V9 s=(pre++(V9 r).1,(V9 r).2)∧pre.length+r.length≤s.length
def KR (w:World) (s:List UInt8) (rec:Loop) (cs:List UInt8) (W:World):Prop:=
 ∃ c t pre v,cs=c::t∧JW w rec .ready v pre.length (strs pre) (c::t) (t.drop c.toNat) W∧V9 s=(pre++(V9 (t.drop c.toNat)).1,(V9 (t.drop c.toNat)).2)∧pre.length+(t.drop c.toNat).length≤s.length
def U4r (w:World) (s:List UInt8) (v:Value) (W':World):Prop:=
 ∃ u e,v=.tuple #[u,.int .i64 e]∧Below w.heap.size w W' ∧
   (((V9 s).2≠[0]∧u=.slice none 0 0∧e=2)∨((V9 s).2=[0]∧255 < s.length∧u=.slice none 0 0∧e=3) ∨
    ((V9 s).2=[0]∧s.length≤255∧e=0∧W'.ownsRow (w.heap.size+5) 9 1 u (V9 s).1.length (strs (V9 s).1)))
theorem Q30 (n:Nat) (w:World) (s:List UInt8) (W0:World) (L0:Loop) (hps:L0.params.size=2) (hn:1≤n) (hJ:JR w s L0 s (W0.alloc (.loop L0)))
    (hround:∀ (c:UInt8) (t:List UInt8) (pre:List (List UInt8)) (v:Value) (W:World),JW w L0 .ready v pre.length (strs pre) (c::t) (c::t) W→c.toNat≤t.length→pre.length+(c::t).length≤s.length→
     (L0.assign).wpIn (Fence.wide.inRound (w.heap.size+4)) (n - 1) Try.prog (Exit.then (fun a₁ w₁=>∃ w₂,(Instr.beginRound (w.heap.size+4)).run Try.prog w₁=.ok () w₂ ∧
      L0.body.wpIn (Fence.wide.inRound (w.heap.size+4)) (n - 1) Try.prog (roundPost Try.prog (w.heap.size+4) fun e W'=>e=.returned (.bool true)∧∃ v',JW w L0 .ready v' (pre++[t.take c.toNat]).length (strs (pre++[t.take c.toNat])) (c::t) (t.drop c.toNat) W') a₁ w₂) (fun _ _ _=>False))
      { tmps:=(L0.params.zip #[.string ⟨(t.take c.toNat).toArray⟩,.string ⟨(t.drop c.toNat).toArray⟩]).foldl (fun t (p,v)=>t.setIfInBounds p v) L0.tmps,defers:=[] } W) :
    CallsIn Fence.wide n Try.prog 139 #[.func (.yield (w.heap.size+4)) #[] #[],.pointer (some ⟨w.heap.size+1+1,0,none⟩)] (W0.alloc (.loop L0)) fun e W'=>(∃ v,e=.returned v)∧∃ r,JR w s L0 r W'∧U1s r:=by
 refine J4m n hn (w.heap.size+4) (w.heap.size+1+1) (JR w s L0) (KR w s L0) ?_ ?_ ?_ ?_ _ s hJ
 ·rintro r W ⟨pre,v,h,_⟩
  exact h.box
 ·rintro r W d ⟨pre,v,h,h2⟩
  exact⟨pre,v,h.drawn d,h2⟩
 ·rintro c t W ⟨pre,v,h,h2,h3⟩ h0 h63 hle
  have hy:=run_yield (P:=Try.prog) (args:=#[.string ⟨(t.take c.toNat).toArray⟩,.string ⟨(t.drop c.toNat).toArray⟩]) h.loop (by simp[hps])
  refine⟨L0.fn,_,L0.assign,L0.body,hy,roundIn_of_wpIn trivial ?_⟩
  refine wpIn_mono (hround c t pre v W h hle h3) ?_
  intro e a' W' hq
  cases e<;>try exact hq
  obtain⟨w₂,hb,hw⟩:=hq
  refine⟨w₂,hb,wpIn_mono hw ?_⟩
  intro e a' W' hq
  cases e with
  | normal=>
    obtain⟨v1,w1,he,hr,v',hv'⟩:=hq
    refine⟨v1,w1,he,hr,c,t,_,v',rfl,hv',Q0d pre h0 h63 hle h2,?_⟩
    simp at h3 ⊢
    omega
  | ret=>
    obtain⟨v1,w1,he,hr,v',hv'⟩:=hq
    refine⟨v1,w1,he,hr,c,t,_,v',rfl,hv',Q0d pre h0 h63 hle h2,?_⟩
    simp at h3 ⊢
    omega
  | exit id=>
    obtain⟨v1,w1,he,hr,v',hv'⟩:=hq
    refine⟨v1,w1,he,hr,c,t,_,v',rfl,hv',Q0d pre h0 h63 hle h2,?_⟩
    simp at h3 ⊢
    omega
  | goto id=>
    obtain⟨v1,w1,he,hr,v',hv'⟩:=hq
    refine⟨v1,w1,he,hr,c,t,_,v',rfl,hv',Q0d pre h0 h63 hle h2,?_⟩
    simp at h3 ⊢
    omega
  | panic ch=>exact hq
  | outgrown=>exact hq
 ·rintro c t W ⟨c',t',pre,v,he,h,h2,h3⟩
  cases he
  exact⟨h.box,pre,v,h.setBox _,h2,h3⟩
theorem Q2h {g:Operand} {ps:Array Tmp} {assign body:Code} {Q:Exit→Act→World→Prop} {a:Act} (n:Nat) (hn:3≤n) (w:World) (s:List UInt8) (w3:World)
    (hg:a.eval g=.func (.func 139) #[] #[.pointer (some ⟨w.heap.size+1+1,0,none⟩)]) (hps:ps.size=2) (hsz:w3.heap.size=w.heap.size+3)
    (b0:Boxed w3 w.heap.size 149 (.slice none 0 0)) (b1:Boxed w3 (w.heap.size+1) 9 (.string ⟨s.toArray⟩)) (b2:Boxed w3 (w.heap.size+2) 9 (.string ⟨s.toArray⟩)) (bB:Below w.heap.size w w3)
    (hround:∀ (L0:Loop) (_:L0.pending=none) (c:UInt8) (t:List UInt8) (pre:List (List UInt8)) (v:Value) (W:World),JW w L0 .ready v pre.length (strs pre) (c::t) (c::t) W→c.toNat≤t.length→pre.length+(c::t).length≤s.length→
     assign.wpIn (Fence.wide.inRound (w.heap.size+4)) (n - 1 - 1) Try.prog (Exit.then (fun a₁ w₁=>∃ w₂,(Instr.beginRound (w.heap.size+4)).run Try.prog w₁=.ok () w₂ ∧
      body.wpIn (Fence.wide.inRound (w.heap.size+4)) (n - 1 - 1) Try.prog (roundPost Try.prog (w.heap.size+4) fun e W'=>e=.returned (.bool true)∧∃ v',JW w L0 .ready v' (pre++[t.take c.toNat]).length (strs (pre++[t.take c.toNat])) (c::t) (t.drop c.toNat) W') a₁ w₂) (fun _ _ _=>False))
      { tmps:=(ps.zip #[.string ⟨(t.take c.toNat).toArray⟩,.string ⟨(t.drop c.toNat).toArray⟩]).foldl (fun t (p,v)=>t.setIfInBounds p v) a.tmps,defers:=[] } W)
    (hdone:∀ (L0:Loop) (pre:List (List UInt8)) (v:Value) (r:List UInt8) (W:World),JW w L0 .exhausted v pre.length (strs pre) r r W→V9 s=(pre,r)→Q .normal { a with defers:={ target:=.collected w3.heap.size,args:=#[] }::a.defers } W) :
    (Code.rangeFunc g ps assign body).wpIn Fence.wide n Try.prog Q a w3:=by
 refine wpIn_rangeFunc ?_
 intro fn hfn
 obtain⟨L0,hL0⟩:∃ L0:Loop,L0={ state:=.ready,pending:=none,fn:=fn,tmps:=a.tmps,params:=ps,assign:=assign,body:=body,defers:=w3.heap.size }:=⟨_,rfl⟩
 have hJ:JR w s L0 s ((w3.alloc (.deferred (some []))).alloc (.loop L0)):=by
  have e0:L0={ L0 with state:=.ready }:=by rw[hL0]
  refine⟨[],.slice none 0 0,⟨(b0.alloc _).alloc _,World.ownsRow_nil _ _ _ _,(b1.alloc _).alloc _,(b2.alloc _).alloc _,((bB.alloc (by omega) _).alloc (by simp;omega) _),?_,?_⟩,by simp,by simp⟩
  ·have:=World.alloc_heap_new (w3.alloc (.deferred (some []))) (.loop L0)
   rw[World.size_alloc,hsz] at this
   rw[←e0]
   exact this
  ·rw[show w.heap.size+3=w3.heap.size by omega]
   exact(Below.heap_alloc _ _ _ (by simp)).trans (World.alloc_heap_new w3 _)
 refine⟨w.heap.size+4,[{ target:=.collected w3.heap.size,args:=#[] }],(w3.alloc (.deferred (some []))).alloc (.loop L0),{ target:=.fn (.func 139) #[.pointer (some ⟨w.heap.size+1+1,0,none⟩)],args:=#[.func (.yield (w.heap.size+4)) #[] #[]] },(w3.alloc (.deferred (some []))).alloc (.loop L0),139,
  #[.func (.yield (w.heap.size+4)) #[] #[],.pointer (some ⟨w.heap.size+1+1,0,none⟩)],(w3.alloc (.deferred (some []))).alloc (.loop L0),?_,?_,?_,?_,fun _=>(by omega),?_⟩
 ·rw[hL0,show w.heap.size+4=w3.heap.size+1 by omega]
  exact run_enterLoop_outer _ _ _ _ _
 ·simp only[resolve,hg]
  simp[go_sem]
 ·intro f' hf';trivial
 ·simp[invoke,go_sem]
 ·refine(Q30 (n - 1) w s _ L0 (by rw[hL0];exact hps) (by omega) hJ ?_).mono ?_
  ·intro c t pre v W hJ hle hb
   have:=hround L0 (by rw[hL0]) c t pre v W hJ hle hb
   rw[hL0] at this ⊢
   exact this
  ·rintro e W2 ⟨⟨v,rfl⟩,r,⟨pre,v',hJ2,he,_⟩,hstop⟩
   rw[Q33 hstop,List.append_nil] at he
   have hend:=run_endLoop (P:=Try.prog) hJ2.loop (by simp)
   refine⟨none,_,?_,hdone L0 pre v' r _ (hJ2.putLoop (st':=.exhausted) rfl) he⟩
   rw[hend,hL0]
set_option maxHeartbeats 2000000 in
theorem Z3s (n:Nat) (hn:3≤n) (s:List UInt8) (hs:s.length≤1000000000000) (w:World) :
    CallsIn Fence.wide n Try.prog 90 #[.string ⟨s.toArray⟩] w fun e W'=>∃ v,e=.returned v∧U4r w s v W':=by
 have h1:1≤n:=by omega
 obtain⟨i0,hi,hz0,hz1,hz2⟩:=info_parts info9
 refine callsIn_of_wp_marks Try.func90 rfl trivial ?_ rfl
 simp only[Try.ntmps90,List.size_toArray,List.length_cons,List.length_nil,Nat.reduceAdd,Nat.reduceSub,Array.replicate_succ,Array.replicate_zero,List.push_toArray,List.append_toArray,List.nil_append,List.cons_append]
 gi_wp2
 refine⟨trivial,(Q54 (n - 1) s _).mono ?_⟩
 rintro e w' ⟨rfl,rfl⟩
 gi_wp2
 rename_i Q K hK
 obtain⟨w3,hw3⟩:∃ w3,((w.alloc (.cells #[.slice none 0 0] 149)).alloc (.cells #[.string ⟨s.toArray⟩] 9)).alloc (.cells #[.string ⟨s.toArray⟩] 9)=w3:=⟨_,rfl⟩
 have hsz:w3.heap.size=w.heap.size+3:=by rw[←hw3];simp
 have b0:Boxed w3 w.heap.size 149 (.slice none 0 0):=by rw[←hw3];exact((Boxed.new w 149 _).alloc _).alloc _
 have b1:Boxed w3 (w.heap.size+1) 9 (.string ⟨s.toArray⟩):=by
  rw[←hw3]
  have:=(Boxed.new (w.alloc (.cells #[.slice none 0 0] 149)) 9 (.string ⟨s.toArray⟩)).alloc (.cells #[.string ⟨s.toArray⟩] 9)
  simpa using this
 have b2:Boxed w3 (w.heap.size+2) 9 (.string ⟨s.toArray⟩):=by
  rw[←hw3]
  have:=Boxed.new ((w.alloc (.cells #[.slice none 0 0] 149)).alloc (.cells #[.string ⟨s.toArray⟩] 9)) 9 (.string ⟨s.toArray⟩)
  simpa using this
 have bB:Below w.heap.size w w3:=by
  rw[←hw3]
  exact(((Below.refl _ w).alloc (Nat.le_refl _) _).alloc (by simp) _).alloc (by simp;omega) _
 rw[hw3]
 refine Q2h n hn w s w3 rfl rfl hsz b0 b1 b2 bB ?_ ?_
 ·intro L0 hpe c t pre v W hJ hle hb
  gi_wp2
  have hpl:pre.length+1≤s.length:=by simp at hb;omega
  refine⟨_,run_beginRound hJ.loop rfl,?_⟩
  have hJ2:=hJ.putLoop (st':=.busy) (L:={ { L0 with state:=.ready } with state:=.busy }) rfl
  obtain⟨W2,hW2⟩:∃ W2,W.putObj (w.heap.size+4) (.loop { { L0 with state:=.ready } with state:=.busy })=W2:=⟨_,rfl⟩
  rw[hW2] at hJ2 ⊢
  have hc:=hJ2.out.cell
  have hlt:=hJ2.lt
  gi_wp2_with (gi_at_builtin;refine wpListIn_append_own _ rfl _ _ 149 rfl (w.heap.size+5) 9 i0 (.string ⟨#[]⟩) 1 16 X4v hi hz0 hz1 hz2 rfl (by decide) _ _ _ rfl (hJ2.row.alloc _) ⟨W2.heap.size,0,none⟩ 1 1 [.string ⟨(t.take c.toNat).toArray⟩] rfl rfl (cell_one_new _ _ _) (by simp[Value.oneCell']) (by simp[maxLen];omega) (by omega) (by simp;omega) ?_;intro v' w1 hown' hgrow _;obtain⟨g',cap',rfl⟩:=ownsRow_succ hown';have hJ3:=hJ2.grown hown' hgrow;have hm:=hJ2.mid hgrow;have hc1:=hm.cell;have hf1:=hm.frozen;have hc2:=hJ3.left.cell;have hf2:=hJ3.left.frozen)
  have hJ4:=hJ3.setLeft (t.drop c.toNat)
  have hend:=run_endRound (P:=Try.prog) none hJ4.loop
  have hJ5:=hJ4.putLoop (st':=.ready) (L:={ { L0 with state:=.busy } with state:=if (none:Option Code).isNone then .ready else .done,pending:=none }) (by cases L0;cases hpe;rfl)
  rw[Q41] at hJ5
  refine⟨_,_,hend,rfl,.slice (some ⟨g',0,none⟩) (pre.length+1) cap',?_⟩
  exact hJ5
 ·intro L0 pre v r W hJ he
  have hc:=hJ.left.cell
  have hc0:=hJ.out.cell
  have hdef:W.heap[w3.heap.size]?=some (.deferred (some [])):=by rw[hsz];exact hJ.dfr
  have hB:Below w.heap.size w (W.putObj w3.heap.size (.deferred none)):=
   ⟨hJ.bel.os,hJ.bel.tape,hJ.bel.output,by simpa using hJ.bel.size,fun j hj=>(World.putObj_heap_other (by omega)).trans (hJ.bel.block j hj)⟩
  have hrow:=ownsRow_putObj hJ.row (.deferred none) hdef rfl
  gi_wp2
  ·rename_i hr
   refine⟨by simp,.inl ⟨_,_,rfl,run_takeDeferred hdef,?_⟩⟩
   refine⟨_,results_tmp2 rfl _ _ _,_,rfl,_,_,rfl,hB,.inl ⟨?_,rfl,rfl⟩⟩
   rw[he]
   simpa using hr
  ·rename_i hr hl
   refine⟨by simp,.inl ⟨_,_,rfl,run_takeDeferred hdef,?_⟩⟩
   refine⟨_,results_tmp2 rfl _ _ _,_,rfl,_,_,rfl,hB,.inr (.inl ⟨?_,by omega,rfl,rfl⟩)⟩
   rw[he]
   simpa using hr
  ·rename_i hr hl
   refine⟨by simp,.inl ⟨_,_,rfl,run_takeDeferred hdef,?_⟩⟩
   refine⟨_,results_tmp2 rfl _ _ _,_,rfl,_,_,rfl,hB,.inr (.inr ⟨?_,by omega,rfl,?_⟩)⟩
   ·rw[he]
    simpa using hr
   ·rw[he]
    exact hrow
end Go.Proofs.YtpledbapngdkeaaB
namespace Go.Proofs.YtpledbapngdkeaaB
open Go Go.RowKit Go.Shelf
theorem U28:Try.prog.underlying 201=some (.pointer 203):=by kernel_rfl
theorem X2r:Try.prog.underlying 227=some .unsafePointer:=by kernel_rfl
theorem Z40:(Try.prog.info? 203).map (·.size)=some 2:=by kernel_rfl
theorem Z62:liesAt Try.prog Try.prog.depth 203 (2 / Try.prog.cellsOf 203) 0 203 1=true:=by kernel_rfl
set_option maxHeartbeats 2000000 in
theorem V3o (b:Nat) (v:Value) (fz:Nat×Nat) (w:World) (h:w.heap[b]?=some (.cells #[.pointer none,v] 203 fz)) (hfz:¬ (fz.1≤0∧0 < fz.2)) :
    Calls Try.prog 151 #[.pointer (some ⟨b,0,none⟩)] w fun e W'=>e=.returned (.tuple #[])∧W'=w.setCell ⟨b,0,none⟩ (.pointer (some ⟨b,0,none⟩)):=by
 obtain⟨j,hj,hjs⟩:=Option.map_eq_some_iff.1 Z40
 have hc:w.cell? ⟨b,0,none⟩=some (.pointer none):=by simp[World.cell?,h]
 have hf:w.frozen? ⟨b,0,none⟩=false:=by
  simp only[World.frozen?,h]
  simp
  intro h1
  simp at hfz
  omega
 have hsh:w.shape? b=some (203,2):=by simp[World.shape?,h]
 go_enter Try.func151,Try.ntmps151
 go_wp2
 rw[Lib.run_to_unsafe w ⟨b,0,none⟩ U28 X2r hj (by rw[hjs];decide) hsh (Nat.zero_lt_succ 1)]
 simp only[Result.andThen]
 rw[Oper.upon_value]
 go_wp2
 rw[run_callFunc_extern Try.func156 (by kernel_rfl) (by kernel_rfl) (by kernel_rfl) (e:=Extern.AbiNoEscape.same) (by kernel_rfl)]
 rw[Lib.run_noEscape]
 simp only[Result.andThen]
 rw[Oper.upon_value]
 go_wp2
 rw[Lib.run_from_unsafe w ⟨b,0,none⟩ X2r U28 hj hsh Z62]
 simp only[Result.andThen]
 rw[Oper.upon_value]
 go_wp2
 go_end0
 exact⟨rfl,rfl⟩
set_option maxHeartbeats 2000000 in
theorem V2z (b:Nat) (w:World) (hc:w.cell? ⟨b,0,none⟩=some (.pointer (some ⟨b,0,none⟩))) :
    Calls Try.prog 151 #[.pointer (some ⟨b,0,none⟩)] w fun e W'=>e=.returned (.tuple #[])∧W'=w:=by
 obtain⟨j,hj,hjs⟩:=Option.map_eq_some_iff.1 Z40
 go_enter Try.func151,Try.ntmps151
 go_wp2
 rw[Lib.run_neq_ptr_same w _ U28 hj]
 go_wp2
 go_end0
 exact⟨rfl,rfl⟩
theorem V4t {P:Program} {e:TypeId} (hc:P.cellsOf e=1) (count off n:Nat) (hn:off+n≤count):liesAt P P.depth e count off e n=true:=by
 have hd:P.depth=(2 * (P.types.size+Made.depth)+1)+1:=rfl
 rw[hd]
 simp only[liesAt,Bool.or_eq_true]
 left
 rw[hd]
 simp[rowAt,hc,hn,sameLayout,Nat.mod_one]
theorem J44:Try.prog.underlying 225=some (.pointer 5):=by kernel_rfl
theorem V4m:Try.prog.cellsOf 5=1:=by kernel_rfl
theorem U4w (w:World) (g o cells:Nat) (hsh:w.shape? g=some (5,cells)) (l:List UInt8) (h0:l≠[]) (hn:o+l.length≤cells) (h63:l.length≤9223372036854775807)
    (hcell:∀ j x,l[j]?=some x→w.cell? ((⟨g,o,none⟩:Addr).add j)=some (.int .u8 x.toNat)) :
    (Builtin.unsafeString_ #[225,3] 9 #[.pointer (some ⟨g,o,none⟩),.int .i64 l.length]).run Try.prog w=.ok (.string ⟨l.toArray⟩) (w.freeze ⟨g,o,none⟩ l.length):=by
 have hl:l.length≠0:=by simpa using h0
 have hlb:=Lib.run_loadBytes (P:=Try.prog) w l ⟨g,o,none⟩ .empty hcell
 have hlies:=V4t (P:=Try.prog) V4m (cells / Try.prog.cellsOf 5) o l.length (by rw[V4m];simpa using hn)
 have h63':¬ (9223372036854775807:Int) < (l.length:Int):=by omega
 have hdef:Builtin.unsafeString_ #[225,3] 9 #[.pointer (some ⟨g,o,none⟩),.int .i64 l.length] =
     (do
      let n ← asInt (.int .i64 l.length)
      if n < 0 then runtimePanic (.error "unsafe.String: len out of range")
      if n > IntKind.i64.max then unsupported (.unsafePointer "String: a length above the largest int")
      if n=0 then pure (.string .empty)
      else if ← variablesAt ⟨g,o,none⟩ (← elemOf 225) n.toNat then do
       let s ← loadBytes ⟨g,o,none⟩ .empty n.toNat
       freeze ⟨g,o,none⟩ n.toNat
       pure (.string s)
      else unsupported (.unsafePointer "String: not so many bytes at ptr")) := rfl
 rw[hdef]
 have hmax:IntKind.i64.max=9223372036854775807:=rfl
 have hneg:¬ (l.length:Int) < 0:=by omega
 simp[asInt,asIntOf,hmax,h63',hneg,hl,variablesAt,hsh,elemOf,run_underlying J44,hlies,hlb]
set_option maxHeartbeats 2000000 in
theorem Z2n (b g o cap cells:Nat) (l:List UInt8) (w:World) (hb:w.cell? ⟨b,1,none⟩=some (.slice (some ⟨g,o,none⟩) l.length cap)) (hcap:cap≠0) (hsh:w.shape? g=some (5,cells)) (h0:l≠[]) (hn:o+l.length≤cells) (h63:l.length≤9223372036854775807)
    (hcell:∀ j x,l[j]?=some x→w.cell? ((⟨g,o,none⟩:Addr).add j)=some (.int .u8 x.toNat)) :
    Calls Try.prog 137 #[.pointer (some ⟨b,0,none⟩)] w fun e w'=>e=.returned (.string ⟨l.toArray⟩)∧w'=w.drew.freeze ⟨g,o,none⟩ l.length:=by
 have c1:w.drew.cell? ⟨b,1,none⟩=some (.slice (some ⟨g,o,none⟩) l.length cap):=hb
 have hSD:(Builtin.unsafeSliceData_ #[185] 225 #[.slice (some ⟨g,o,none⟩) l.length cap]).run Try.prog w.drew=.ok (.pointer (some ⟨g,o,none⟩)) w.drew:=Lib.run_unsafeSliceData_row _ _ _ _ _ _ hcap
 have hUS:=U4w w.drew g o cells hsh l h0 hn h63 hcell
 go_enter Try.func137,Try.ntmps137
 go_wp2
 go_region
 all_goals (go_wp2;go_ret;exact⟨rfl,rfl⟩)
end Go.Proofs.YtpledbapngdkeaaB
namespace Go.Proofs.YtpledbapngdkeaaE
open Go Go.Proofs.YtpledbapngdkeaaB
set_option linter.unusedVariables false
set_option linter.unusedSimpArgs false
def X3f (s:List UInt8):List (List UInt8):=(V9 s).1
def Uj (s:List UInt8):Bool:=(V9 s).2==[0]
theorem Q2k {F:Nat→Prop} {w:World}:∀ (l:List (List UInt8)),EncL F w .str l (strs l)
 | []=>by simp[EncL,strs]
 | x::l=>by
   simp only[EncL]
   exact⟨[.string ⟨x.toArray⟩],strs l,rfl,rfl,Q2k l⟩
theorem V54 {w:World} {base:Nat} {v:Value} {l:List (List UInt8)} (h:w.ownsRow base 9 1 v l.length (strs l)) {F:Nat→Prop} (hF:∀ b,v.ownBlock=some b→F b):Enc F w (.list .str) l [v]:=by
 refine Qi.2 ?_
 rcases h.2 with ⟨rfl,h0⟩ | ⟨g,cap,cur,rfl,hb,hg,hle,hcap,hcs,htk⟩
 ·have:l=[]:=List.length_eq_zero_iff.1 h0
  subst this
  exact⟨none,0,rfl,by simp,fun _=>rfl,fun a ha=>by cases ha⟩
 ·refine⟨some ⟨g,0,none⟩,cap,rfl,hle,fun h=>(by cases h),fun a ha _=>?_⟩
  cases ha
  refine⟨rfl,hF g rfl,J3l (Q2k l) fun j u hu=>?_⟩
  have:=h.cells (g:=g) rfl j u hu
  rw[Vf] at this
  exact this
theorem U36 (s:List UInt8) (hb:bigS s=true):SemF Try.prog 90 [.str s] []
    (if (V9 s).2=[0] then (if s.length≤255 then [.list .str (X3f s),.int .i64 0] else [.list .str [],.int .i64 3]) else [.list .str [],.int .i64 2]) []:=by
 have hs:s.length≤1000000000000:=by simpa[bigS] using hb
 refine⟨⟨_,Try.func90,by decide,by kernel_rfl⟩,fun w μ F us hh hv=>?_⟩
 simp only[Z2,VRel] at hv
 obtain⟨u,us',rfl,rfl,rfl⟩:=hv
 have h:=callsIn_wide.1 (Z3s 3 (by omega) s hs w)
 refine h.mono ?_
 rintro e w' ⟨v,rfl,u,en,rfl,hB,hc⟩
 have hμ:∀ k,μ k=.none:=fun k=>hh.top k (by simp)
 refine⟨_,rfl,fun _=>.none,fun b=>F b∨(w.heap.size≤b∧b < w'.heap.size),?_,⟨fun k hk=>by simp at hk,fun _ _=>rfl,fun k k' b h=>by simp[Pl.owns] at h,fun k b h=>by simp[Pl.owns] at h,fun b hb=>?_⟩,
  ⟨hB.os,hB.tape,hB.output,hB.size,fun b hb _=>hB.block b hb,fun b hb=>.inl hb,fun b hb=>?_,fun k b h=>by simp[Pl.owns] at h⟩,by simp,fun k b hk=>by simp at hk,fun k b hk=>by simp at hk⟩
 ·rcases hc with ⟨h1,rfl,rfl⟩ | ⟨h1,h2,rfl,rfl⟩ | ⟨h1,h2,rfl,hrow⟩
  ·rw[if_neg h1]
   simp only[Ua,VRel,Z2]
   exact⟨_,rfl,_,_,rfl,⟨none,0,rfl,by simp,fun _=>rfl,fun a ha=>by cases ha⟩,_,_,rfl,rfl,rfl⟩
  ·rw[if_pos h1,if_neg (by omega)]
   simp only[Ua,VRel,Z2]
   exact⟨_,rfl,_,_,rfl,⟨none,0,rfl,by simp,fun _=>rfl,fun a ha=>by cases ha⟩,_,_,rfl,rfl,rfl⟩
  ·rw[if_pos h1,if_pos h2]
   simp only[Ua,VRel,Z2]
   refine⟨_,rfl,_,_,rfl,V54 hrow (fun b hb=>.inr ?_),_,_,rfl,rfl,rfl⟩
   have:=hrow.lt b hb
   omega
 ·rcases hb with hb | hb
  ·exact Nat.lt_of_lt_of_le (hh.inn b hb) hB.size
  ·exact hb.2
 ·rcases hb with hb | hb
  ·exact .inl hb
  ·exact .inr (.inr hb.1)
def fs90:FSpec:={ f:=90,ins:=[(.str,false)],outs:=[(.list .str,false),(.int .i64,false)],F:=fun(s,_)=>.br (bigS s) (.br (Uj s) (.br (decide (s.length > 255)) (.ret (([]:List (List UInt8)),(3:Int),())) (.ret (X3f s,(0:Int),()))) (.ret (([]:List (List UInt8)),(2:Int),()))) .no }
theorem Q5h:fs90.Ok Try.prog:=by
 rintro⟨(s:List UInt8),_⟩ y h
 simp only[fs90,Tr.get] at h
 cases hb:bigS s with
 | false=>rw[hb] at h;cases h
 | true=>
   rw[hb,cond_true] at h
   have:=U36 s hb
   cases hr:Uj s with
   | false=>
     rw[hr,cond_false] at h
     cases h
     have hne:(V9 s).2≠[0]:=by simpa[Uj] using hr
     rw[if_neg hne] at this
     exact this
   | true=>
     rw[hr,cond_true] at h
     have he:(V9 s).2=[0]:=by simpa[Uj] using hr
     rw[if_pos he] at this
     by_cases hl:s.length≤255
     ·rw[if_pos hl] at this
      rw[show decide (s.length > 255)=false by simp;omega,cond_false] at h
      cases h
      exact this
     ·rw[if_neg hl] at this
      rw[show decide (s.length > 255)=true by simp;omega,cond_true] at h
      cases h
      exact this
def bldO (self:AV) (r:AV):LObj:=.boxT (some 203) [self,r]
theorem Z1z {us:List Value} {μ:Nat→Pl} {F:Nat→Prop} {w:World} {x y:AV} (h:Z2 μ F w [x,y] us):∃ u v,us=[u,v]∧VRel μ F w x u∧VRel μ F w y v:=by
 simp only[Z2] at h
 obtain⟨u,_,rfl,h1,v,_,rfl,h2,rfl⟩:=h
 exact⟨u,v,rfl,h1,h2⟩
theorem X21 (new:Bool) (xs:List Int):SemF Try.prog 151 [.ptr 0 0] [bldO (if new then .np else .ptr 0 0) (.rowA 1),.row (.int .u8) xs] [] [bldO (.ptr 0 0) (.rowA 1),.row (.int .u8) xs]:=by
 refine⟨⟨_,Try.func151,by decide,by kernel_rfl⟩,fun w μ F us hh hv=>?_⟩
 simp only[Z2,VRel] at hv
 obtain⟨u,us',rfl,⟨b,hb,rfl⟩,rfl⟩:=hv
 have h0:=hh.obj 0 (by simp)
 have h1:=hh.obj 1 (by simp)
 rw[hb] at h0
 simp only[ofHp,bldO,ORel] at h0
 obtain⟨us,E,fz,g1,g2,g3,g4,g5⟩:=h0
 obtain⟨u0,u1,rfl,r0,r1⟩:=Z1z g3
 have hE:E=203:=g5 203 rfl
 subst hE
 have hF0:=hh.out 0 b (by rw[hb];rfl)
 cases new with
 | false=>
   simp only[Bool.false_eq_true,if_false,VRel] at r0
   obtain⟨b',hb',rfl⟩:=r0
   rw[hb] at hb'
   cases hb'
   have h:=V2z b w (by simp[World.cell?,g1])
   refine h.mono ?_
   rintro e w' ⟨rfl,rfl⟩
   refine⟨_,rfl,μ,F,by simp[Ua,VRel,Z2],?_,⟨rfl,rfl,rfl,Nat.le_refl _,fun _ _ _=>rfl,fun _ h=>h,fun _ h=>.inl h,fun k b h=>.inl ⟨k,h⟩⟩,by simp,fun k b _ h=>h,fun k b _ h=>h⟩
   simpa using hh
 | true=>
   simp only[if_true,VRel] at r0
   subst r0
   have hfree:=g2 0 (by simp)
   have h:=V3o b u1 fz w g1 (by simpa using hfree)
   refine h.mono ?_
   rintro e w' ⟨rfl,rfl⟩
   have ot:∀ j,j≠b→(w.setCell ⟨b,0,none⟩ (.pointer (some ⟨b,0,none⟩))).heap[j]?=w.heap[j]?:=fun j hj=>Go.RowKit.Below.heap_setCell _ _ _ _ hj
   have at_:(w.setCell ⟨b,0,none⟩ (.pointer (some ⟨b,0,none⟩))).heap[b]?=some (.cells #[.pointer (some ⟨b,0,none⟩),u1] 203 fz):=by
    simp[World.setCell,Array.getElem?_modify,g1]
   have hFw:∀ b',F b'→(w.setCell ⟨b,0,none⟩ (.pointer (some ⟨b,0,none⟩))).heap[b']?=w.heap[b']?:=fun b' hb'=>ot b' (fun e=>hF0.1 (e▸hb'))
   have hsz:(w.setCell ⟨b,0,none⟩ (.pointer (some ⟨b,0,none⟩))).heap.size=w.heap.size:=by simp[World.setCell]
   refine⟨_,rfl,μ,F,by simp[Ua,VRel,Z2],⟨fun k hk=>?_,hh.top,hh.one,fun k b' hk=>by rw[hsz];exact hh.out k b' hk,fun b' hb'=>by rw[hsz];exact hh.inn b' hb'⟩,
    ⟨rfl,rfl,rfl,by rw[hsz];exact Nat.le_refl _,fun b' _ hn=>ot b' (fun e=>hn ⟨0,by rw[hb,e];rfl⟩),fun _ h=>h,fun _ h=>.inl h,fun k b h=>.inl ⟨k,h⟩⟩,by simp,fun k b _ h=>h,fun k b _ h=>h⟩
   match k,hk with
   | 0,_=>
     rw[hb]
     simp only[ofHp,bldO,ORel]
     refine⟨[.pointer (some ⟨b,0,none⟩),u1],203,fz,at_,g2,?_,?_,fun n hn=>(Option.some.inj hn)⟩
     ·simp only[Z2]
      exact⟨_,_,rfl,by simp only[VRel];exact⟨b,hb,rfl⟩,_,_,rfl,Vv (fun _ h=>h) hFw (fun _ _=>rfl) r1,rfl⟩
     ·intro u hu
      simp at hu
      rcases hu with rfl | rfl
      ·rfl
      ·exact g4 _ (by simp)
   | 1,_=>
     simp only[ofHp] at h1 ⊢
     exact Uc (fun _ h=>h) hFw (fun b' hb'=>ot b' (fun e=>by
      have:=hh.one 1 0 b' hb' (by rw[hb,e];rfl)
      omega)) (by simp[LObj.refs]) h1
def X22:OSpec:={ f:=151,sh:=[.ptr 0 0],so:=[.tbox 203 [.np,.row 1],.row (.int .u8)],F:=fun _ (_,xs,_)=>.ret ([],[.boxT (some 203) [.ptr 0 0,.rowA 1],.row (.int .u8) xs]) }
def X14:OSpec:={ f:=151,sh:=[.ptr 0 0],so:=[.tbox 203 [.ptr 0 0,.row 1],.row (.int .u8)],F:=fun _ (_,xs,_)=>.ret ([],[.boxT (some 203) [.ptr 0 0,.rowA 1],.row (.int .u8) xs]) }
theorem U2n:X22.Ok Try.prog:=by
 rintro x y r h
 obtain⟨_,(xs:List Int),_⟩:=y
 cases h
 exact X21 true xs
theorem J1w:X14.Ok Try.prog:=by
 rintro x y r h
 obtain⟨_,(xs:List Int),_⟩:=y
 cases h
 exact X21 false xs
theorem Q32 {xs:List Int} (h:Q7 xs=true):∀ (j:Nat) (x:UInt8),(X0 xs)[j]?=some x→xs[j]?=some (x.toNat:Int):=fun j x hx=>by
 simp only[X0,List.getElem?_map,Option.map_eq_some_iff] at hx
 obtain⟨n,hn,rfl⟩:=hx
 have:=List.all_eq_true.1 h n (List.mem_of_getElem? hn)
 simp only[Bool.and_eq_true,decide_eq_true_eq] at this
 rw[hn]
 congr 1
 simp
 omega
theorem Z31 (xs:List Int) (hok:Q7 xs=true) (hne:xs≠[]) (hlen:xs.length≤9223372036854775807):SemF Try.prog 137 [.ptr 0 0] [bldO (.ptr 0 0) (.rowA 1),.row (.int .u8) xs] [.str (X0 xs)] [bldO (.ptr 0 0) .dead,.gone]:=by
 refine⟨⟨_,Try.func137,by decide,by kernel_rfl⟩,fun w μ F us hh hv=>?_⟩
 simp only[Z2,VRel] at hv
 obtain⟨u,us',rfl,⟨b,hb,rfl⟩,rfl⟩:=hv
 have h0:=hh.obj 0 (by simp)
 have h1:=hh.obj 1 (by simp)
 rw[hb] at h0
 simp only[ofHp,bldO,ORel] at h0
 obtain⟨us,E,fz,g1,g2,g3,g4,g5⟩:=h0
 obtain⟨u0,u1,rfl,r0,r1⟩:=Z1z g3
 simp only[VRel] at r0 r1
 obtain⟨b',hb',rfl⟩:=r0
 rw[hb] at hb'
 cases hb'
 obtain⟨al,len,cap,sz,A,hμ1,rfl,hA⟩:=r1
 simp only[ofHp] at h1
 rw[hμ1] at h1
 simp only[ORel] at h1
 obtain⟨rfl,rfl,hle,hcap0,hrow⟩:=h1
 have hpos:0 < xs.length:=List.length_pos_iff.2 hne
 have hcapne:cap≠0:=by omega
 cases al with
 | none=>exact absurd (hcap0 rfl) hcapne
 | some go=>
   obtain⟨g,o⟩:=go
   have hAeq:=hA hcapne
   simp only[Jt] at hAeq
   subst hAeq
   obtain⟨cs,E2,fz2,k1,k2,k3,k4,k5⟩:=hrow g o rfl hcapne
   have hE2:E2=5:=k5 rfl
   subst hE2
   simp only[Ty.sz,Nat.mul_one] at k3 k4
   have hl:(X0 xs).length=xs.length:=by simp[X0]
   have hgb:g≠b:=fun e=>by
    have:=hh.one 1 0 b (by rw[hμ1];simp[Pl.owns,hcapne,e]) (by rw[hb];rfl)
    omega
   have h:=Z2n b g o cap cs.length (X0 xs) w (by rw[hl];simp[World.cell?,g1]) hcapne (by simp[World.shape?,k1]) (by simpa[X0] using hne) (by omega) (by omega) (fun j x hx=>by
    have hb:=Q32 hok j x hx
    obtain⟨vs,e1,e2,e3⟩:=k4 j _ hb
    simp only[Enc] at e1
    subst e1
    have:=e3 0 _ rfl
    rw[Vf]
    simp[World.cell?,k1,this]
    simpa using this)
   refine h.mono ?_
   rintro e w' ⟨rfl,rfl⟩
   have ot:∀ j,j≠g→(w.drew.freeze ⟨g,o,none⟩ (X0 xs).length).heap[j]?=w.heap[j]?:=fun j hj=>by
    unfold World.freeze
    split
    ·rfl
    ·simp only[Array.getElem?_modify]
     rw[if_neg (by omega)]
     rfl
   have hsz:(w.drew.freeze ⟨g,o,none⟩ (X0 xs).length).heap.size=w.heap.size:=by
    unfold World.freeze
    split
    ·rfl
    ·simp
   have hF1:=hh.out 1 g (by rw[hμ1];simp[Pl.owns,hcapne])
   have how:∀ k b',(Xi μ 1 .none k).owns=some b'→(μ k).owns=some b':=fun k b' hk=>by
    by_cases h:k=1
    ·subst h;rw[Zb] at hk;cases hk
    ·rwa [Va h] at hk
   refine⟨_,rfl,Xi μ 1 .none,F,by simp[Ua,VRel],⟨fun k hk=>?_,fun k hk=>?_,fun k k' b' h1 h2=>hh.one k k' b' (how k b' h1) (how k' b' h2),fun k b' hk=>by rw[hsz];exact hh.out k b' (how k b' hk),fun b' hb'=>by rw[hsz];exact hh.inn b' hb'⟩,
    ⟨?_,?_,?_,by rw[hsz];exact Nat.le_refl _,fun b' _ hn=>ot b' (fun e=>hn ⟨1,by rw[hμ1,e];simp[Pl.owns,hcapne]⟩),fun _ h=>h,fun _ h=>.inl h,fun k b' h=>.inl ⟨k,how k b' h⟩⟩,by simp,fun k b' hk h=>?_,fun k b' hk h=>?_⟩
   ·match k,hk with
    | 0,_=>
      rw[Va (by omega),hb]
      simp only[ofHp,bldO,ORel]
      refine⟨_,203,fz,by rw[ot b (fun e=>hgb e.symm),g1,g5 203 rfl],g2,?_,g4,fun n hn=>(Option.some.inj hn)⟩
      simp only[Z2,VRel]
      exact⟨_,_,rfl,⟨b,by rw[Va (by omega)];exact hb,rfl⟩,_,_,rfl,trivial,rfl⟩
    | 1,_=>
      rw[Zb]
      simp only[ofHp,ORel]
   ·by_cases h:k=1
    ·subst h;exact Zb _ _ _
    ·rw[Va h];exact hh.top k hk
   ·unfold World.freeze;split<;>rfl
   ·unfold World.freeze;split<;>rfl
   ·unfold World.freeze;split<;>rfl
   ·have:k≠1:=fun e=>by subst e;rw[hμ1] at h;cases h
    rw[Va this];exact h
   ·have:k≠1:=fun e=>by subst e;rw[hμ1] at h;cases h
    rw[Va this];exact h
def X0k:OSpec:={ f:=137,sh:=[.ptr 0 0],so:=[.tbox 203 [.ptr 0 0,.row 1],.row (.int .u8)],F:=fun _ (_,xs,_)=>.on (Q7 xs&&(!xs.isEmpty&&Nat.ble xs.length 9223372036854775807)) ([.str (X0 xs)],[.boxT (some 203) [.ptr 0 0,.dead],.gone]) }
theorem okStr:X0k.Ok Try.prog:=by
 rintro x y r h
 obtain⟨_,(xs:List Int),_⟩:=y
 obtain⟨hc,rfl⟩:=Tr.get_on h
 simp only[Bool.and_eq_true] at hc
 exact Z31 xs hc.1 (by intro e;rw[e] at hc;simp at hc) (Nat.le_of_ble_eq_true hc.2.2)
open Go
def X5n (b:List Int):Tr Res:=.ret ([.int .i64 (↑b.length:Int)],[.boxT (some 203) [.np,.rowA 1],.row (.int .u8) b])
def U02:OSpec:={ f:=134,sh:=[.ptr 0 0],so:=[.tbox 203 [.np,.row 1],.row (.int .u8)],F:=fun _ (_,b,_)=>X5n b }
theorem X5x (b:List Int):evC T0 (orcB [] [X22,X14]) (lpOf h134 2 (lsOf [])) c134 1000000 (J2 [.ptr 0 0] [.boxT (some 203) [.np,.rowA 1],.row (.int .u8) b] Try.f134.ntmps) (Z1 T0 false 2 Try.f134)=(X5n b).get:=by kernel_rfl
theorem Q5u:U02.Ok Try.prog:=by
 refine U4 J3 tab0 (U0 all_nil (all_cons U2n (all_cons J1w all_nil))) h134 (d:=0) (n0:=2) (S:=lsOf []) Try.func134 (by kernel_rfl) (c:=c134) (by kernel_rfl) rfl (V3 (by kernel_rfl)) (by omega) (by kernel_rfl) ?_
 intro x'' y'' q'' hq''
 obtain⟨_,(b:List Int),_⟩:=y''
 exact(X5x b).trans hq''
def X5i (b:List Int):Tr Res:=.ret ([.int .i64 (↑b.length:Int)],[.boxT (some 203) [.ptr 0 0,.rowA 1],.row (.int .u8) b])
def X03:OSpec:={ f:=134,sh:=[.ptr 0 0],so:=[.tbox 203 [.ptr 0 0,.row 1],.row (.int .u8)],F:=fun _ (_,b,_)=>X5i b }
theorem U5v (b:List Int):evC T0 (orcB [] [X22,X14]) (lpOf h134 2 (lsOf [])) c134 1000000 (J2 [.ptr 0 0] [.boxT (some 203) [.ptr 0 0,.rowA 1],.row (.int .u8) b] Try.f134.ntmps) (Z1 T0 false 2 Try.f134)=(X5i b).get:=by kernel_rfl
theorem V5u:X03.Ok Try.prog:=by
 refine U4 J3 tab0 (U0 all_nil (all_cons U2n (all_cons J1w all_nil))) h134 (d:=0) (n0:=2) (S:=lsOf []) Try.func134 (by kernel_rfl) (c:=c134) (by kernel_rfl) rfl (V3 (by kernel_rfl)) (by omega) (by kernel_rfl) ?_
 intro x'' y'' q'' hq''
 obtain⟨_,(b:List Int),_⟩:=y''
 exact(U5v b).trans hq''
def J5d (c:Int) (b:List Int):Tr Res:=.br (fits (List.length b+1) 1) (.ret ([.dead],[.boxT (some 203) [.ptr 0 0,.rowA 1],.row (.int .u8) (b++[c])])) .no
def Q02:OSpec:={ f:=135,sh:=[.ptr 0 0,.d (.int .u8) false],so:=[.tbox 203 [.np,.row 1],.row (.int .u8)],F:=fun(c,_) (_,b,_)=>J5d c b }
theorem Q5v (c:Int) (b:List Int):evC T0 (orcB [] [X22,X14]) (lpOf h135 2 (lsOf [])) c135 1000000 (J2 [.ptr 0 0,.int .u8 c] [.boxT (some 203) [.np,.rowA 1],.row (.int .u8) b] Try.f135.ntmps) (Z1 T0 false 2 Try.f135)=(J5d c b).get:=by kernel_rfl
theorem Q5y:Q02.Ok Try.prog:=by
 refine U4 J3 tab0 (U0 all_nil (all_cons U2n (all_cons J1w all_nil))) h135 (d:=0) (n0:=2) (S:=lsOf []) Try.func135 (by kernel_rfl) (c:=c135) (by kernel_rfl) rfl (V3 (by kernel_rfl)) (by omega) (by kernel_rfl) ?_
 intro x'' y'' q'' hq''
 obtain⟨(c:Int),_⟩:=x''
 obtain⟨_,(b:List Int),_⟩:=y''
 exact(Q5v c b).trans hq''
def V5d (c:Int) (b:List Int):Tr Res:=.br (fits (List.length b+1) 1) (.ret ([.dead],[.boxT (some 203) [.ptr 0 0,.rowA 1],.row (.int .u8) (b++[c])])) .no
def V02:OSpec:={ f:=135,sh:=[.ptr 0 0,.d (.int .u8) false],so:=[.tbox 203 [.ptr 0 0,.row 1],.row (.int .u8)],F:=fun(c,_) (_,b,_)=>V5d c b }
theorem J5y (c:Int) (b:List Int):evC T0 (orcB [] [X22,X14]) (lpOf h135 2 (lsOf [])) c135 1000000 (J2 [.ptr 0 0,.int .u8 c] [.boxT (some 203) [.ptr 0 0,.rowA 1],.row (.int .u8) b] Try.f135.ntmps) (Z1 T0 false 2 Try.f135)=(V5d c b).get:=by kernel_rfl
theorem Z5v:V02.Ok Try.prog:=by
 refine U4 J3 tab0 (U0 all_nil (all_cons U2n (all_cons J1w all_nil))) h135 (d:=0) (n0:=2) (S:=lsOf []) Try.func135 (by kernel_rfl) (c:=c135) (by kernel_rfl) rfl (V3 (by kernel_rfl)) (by omega) (by kernel_rfl) ?_
 intro x'' y'' q'' hq''
 obtain⟨(c:Int),_⟩:=x''
 obtain⟨_,(b:List Int),_⟩:=y''
 exact(J5y c b).trans hq''
def U5f (s:List UInt8) (b:List Int):Tr Res:=.br (fits (List.length b+List.length (Z0 s)) 1) (.ret ([.int .i64 (↑s.length:Int),.dead],[.boxT (some 203) [.ptr 0 0,.rowA 1],.row (.int .u8) (b++Z0 s)])) .no
def V05:OSpec:={ f:=136,sh:=[.ptr 0 0,.d .str false],so:=[.tbox 203 [.ptr 0 0,.row 1],.row (.int .u8)],F:=fun(s,_) (_,b,_)=>U5f s b }
theorem Q5o (s:List UInt8) (b:List Int):evC T0 (orcB [] [X22,X14]) (lpOf h136 2 (lsOf [])) c136 1000000 (J2 [.ptr 0 0,.str s] [.boxT (some 203) [.ptr 0 0,.rowA 1],.row (.int .u8) b] Try.f136.ntmps) (Z1 T0 false 2 Try.f136)=(U5f s b).get:=by kernel_rfl
theorem Z5q:V05.Ok Try.prog:=by
 refine U4 J3 tab0 (U0 all_nil (all_cons U2n (all_cons J1w all_nil))) h136 (d:=0) (n0:=2) (S:=lsOf []) Try.func136 (by kernel_rfl) (c:=c136) (by kernel_rfl) rfl (V3 (by kernel_rfl)) (by omega) (by kernel_rfl) ?_
 intro x'' y'' q'' hq''
 obtain⟨(s:List UInt8),_⟩:=x''
 obtain⟨_,(b:List Int),_⟩:=y''
 exact(Q5o s b).trans hq''
def t97:Tr Res:=.ret ([.ptr 0 0],[.boxT none [.rowA 1,.mp 2],.row (.int .u8) [],.mpo .str (.int .i64) []])
def os97:OSpec:={ f:=97,sh:=[],so:=[],F:=fun _ _=>t97 }
theorem fn97:evC T0 (orcB [] []) (lpOf (hOwn h97) 0 (lsOf [])) c97 1000000 (J2 [] [] Try.f97.ntmps) (Z1 T0 true 0 Try.f97)=(t97).get:=by kernel_rfl
theorem ok97:os97.Ok Try.prog:=by
 refine U4 J3 tab0 (U0 all_nil all_nil) (hOwn h97) (d:=0) (n0:=0) (S:=lsOf []) Try.func97 (by kernel_rfl) (c:=c97) (by kernel_rfl) rfl (V3 (by kernel_rfl)) (by omega) (by kernel_rfl) ?_
 intro x'' y'' q'' hq''
 exact(fn97).trans hq''
def t98 (s:List UInt8) (b:List Int) (l:List (List UInt8×Int)):Tr Res:=.br (fits (List.length b+List.length (Z0 s)) 1) (.ret ([],[.boxT none [.rowA 1,.mp 2],.row (.int .u8) (b++Z0 s),.mpo .str (.int .i64) l])) .no
def os98:OSpec:={ f:=98,sh:=[.ptr 0 0,.d .str false],so:=[.box [.row 1,.mp 2],.row (.int .u8),.map .str (.int .i64)],F:=fun(s,_) (_,b,l,_)=>t98 s b l }
theorem fn98 (s:List UInt8) (b:List Int) (l:List (List UInt8×Int)):evC T0 (orcB [] []) (lpOf h98 3 (lsOf [])) c98 1000000 (J2 [.ptr 0 0,.str s] [.box [.rowA 1,.mp 2],.row (.int .u8) b,.mpo .str (.int .i64) l] Try.f98.ntmps) (Z1 T0 false 3 Try.f98)=(t98 s b l).get:=by kernel_rfl
theorem ok98:os98.Ok Try.prog:=by
 refine U4 J3 tab0 (U0 all_nil all_nil) h98 (d:=0) (n0:=3) (S:=lsOf []) Try.func98 (by kernel_rfl) (c:=c98) (by kernel_rfl) rfl (V3 (by kernel_rfl)) (by omega) (by kernel_rfl) ?_
 intro x'' y'' q'' hq''
 obtain⟨(s:List UInt8),_⟩:=x''
 obtain⟨_,(b:List Int),(l:List (List UInt8×Int)),_⟩:=y''
 exact(fn98 s b l).trans hq''
def t98z (s:List UInt8):Tr Res:=.ret ([],[])
def U46:OSpec:={ f:=98,sh:=[.np,.d .str false],so:=[],F:=fun(s,_) _=>t98z s }
theorem fn98z (s:List UInt8):evC T0 (orcB [] []) (lpOf h98 0 (lsOf [])) c98 1000000 (J2 [.np,.str s] [] Try.f98.ntmps) (Z1 T0 false 0 Try.f98)=(t98z s).get:=by kernel_rfl
theorem X5g:U46.Ok Try.prog:=by
 refine U4 J3 tab0 (U0 all_nil all_nil) h98 (d:=0) (n0:=0) (S:=lsOf []) Try.func98 (by kernel_rfl) (c:=c98) (by kernel_rfl) rfl (V3 (by kernel_rfl)) (by omega) (by kernel_rfl) ?_
 intro x'' y'' q'' hq''
 obtain⟨(s:List UInt8),_⟩:=x''
 exact(fn98z s).trans hq''
def t152 (b:List Int) (l:List (List UInt8×Int)):Tr Res:=.ret ([.int .i64 (↑b.length:Int)],[.boxT none [.rowA 1,.mp 2],.row (.int .u8) b,.mpo .str (.int .i64) l])
def Q40:OSpec:={ f:=152,sh:=[.ptr 0 0],so:=[.box [.row 1,.mp 2],.row (.int .u8),.map .str (.int .i64)],F:=fun _ (_,b,l,_)=>t152 b l }
theorem fn152 (b:List Int) (l:List (List UInt8×Int)):evC T0 (orcB [] []) (lpOf h152 3 (lsOf [])) c152 1000000 (J2 [.ptr 0 0] [.box [.rowA 1,.mp 2],.row (.int .u8) b,.mpo .str (.int .i64) l] Try.f152.ntmps) (Z1 T0 false 3 Try.f152)=(t152 b l).get:=by kernel_rfl
theorem Q5b:Q40.Ok Try.prog:=by
 refine U4 J3 tab0 (U0 all_nil all_nil) h152 (d:=0) (n0:=3) (S:=lsOf []) Try.func152 (by kernel_rfl) (c:=c152) (by kernel_rfl) rfl (V3 (by kernel_rfl)) (by omega) (by kernel_rfl) ?_
 intro x'' y'' q'' hq''
 obtain⟨_,(b:List Int),(l:List (List UInt8×Int)),_⟩:=y''
 exact(fn152 b l).trans hq''
def V5m:Tr Res:=.ret ([.int .i64 0],[])
def X31:OSpec:={ f:=152,sh:=[.np],so:=[],F:=fun _ _=>V5m }
theorem Z60:evC T0 (orcB [] []) (lpOf h152 0 (lsOf [])) c152 1000000 (J2 [.np] [] Try.f152.ntmps) (Z1 T0 false 0 Try.f152)=(V5m).get:=by kernel_rfl
theorem J4c:X31.Ok Try.prog:=by
 refine U4 J3 tab0 (U0 all_nil all_nil) h152 (d:=0) (n0:=0) (S:=lsOf []) Try.func152 (by kernel_rfl) (c:=c152) (by kernel_rfl) rfl (V3 (by kernel_rfl)) (by omega) (by kernel_rfl) ?_
 intro x'' y'' q'' hq''
 exact(Z60).trans hq''
def t104 (b:List Int) (l:List (List UInt8×Int)):Tr Res:=.ret ([.str (X0 b)],[.boxT none [.rowA 1,.mp 2],.row (.int .u8) b,.mpo .str (.int .i64) l])
def J0f:OSpec:={ f:=104,sh:=[.ptr 0 0],so:=[.box [.row 1,.mp 2],.row (.int .u8),.map .str (.int .i64)],F:=fun _ (_,b,l,_)=>t104 b l }
theorem fn104 (b:List Int) (l:List (List UInt8×Int)):evC T0 (orcB [] []) (lpOf h104 3 (lsOf [])) c104 1000000 (J2 [.ptr 0 0] [.box [.rowA 1,.mp 2],.row (.int .u8) b,.mpo .str (.int .i64) l] Try.f104.ntmps) (Z1 T0 false 3 Try.f104)=(t104 b l).get:=by kernel_rfl
theorem ok104:J0f.Ok Try.prog:=by
 refine U4 J3 tab0 (U0 all_nil all_nil) h104 (d:=0) (n0:=3) (S:=lsOf []) Try.func104 (by kernel_rfl) (c:=c104) (by kernel_rfl) rfl (V3 (by kernel_rfl)) (by omega) (by kernel_rfl) ?_
 intro x'' y'' q'' hq''
 obtain⟨_,(b:List Int),(l:List (List UInt8×Int)),_⟩:=y''
 exact(fn104 b l).trans hq''
def t141 (b:List Int) (l:List (List UInt8×Int)):Tr Res:=.br (fits (List.length b+List.length (Z0 (Q0 0))) 1) (.ret ([.int .i64 (↑(List.length (b++Z0 (Q0 0))):Int)],[.boxT none [.rowA 1,.mp 2],.row (.int .u8) (b++Z0 (Q0 0)),.mpo .str (.int .i64) l])) .no
def U5g:OSpec:={ f:=141,sh:=[.ptr 0 0],so:=[.box [.row 1,.mp 2],.row (.int .u8),.map .str (.int .i64)],F:=fun _ (_,b,l,_)=>t141 b l }
theorem fn141 (b:List Int) (l:List (List UInt8×Int)):evC T0 (orcB [Vp] [os98,U46,Q40,X31]) (lpOf h141 3 (lsOf [])) c141 1000000 (J2 [.ptr 0 0] [.box [.rowA 1,.mp 2],.row (.int .u8) b,.mpo .str (.int .i64) l] Try.f141.ntmps) (Z1 T0 false 3 Try.f141)=(t141 b l).get:=by kernel_rfl
theorem ok141:U5g.Ok Try.prog:=by
 refine U4 J3 tab0 (U0 (all_cons X15 all_nil) (all_cons ok98 (all_cons X5g (all_cons Q5b (all_cons J4c all_nil))))) h141 (d:=0) (n0:=3) (S:=lsOf []) Try.func141 (by kernel_rfl) (c:=c141) (by kernel_rfl) rfl (V3 (by kernel_rfl)) (by omega) (by kernel_rfl) ?_
 intro x'' y'' q'' hq''
 obtain⟨_,(b:List Int),(l:List (List UInt8×Int)),_⟩:=y''
 exact(fn141 b l).trans hq''
def t143 (at_:Int) (b:List Int) (l:List (List UInt8×Int)):Tr Res:=.br (decide (at_ < 2)) (.ret ([.int .i64 1],[.boxT none [.rowA 1,.mp 2],.row (.int .u8) b,.mpo .str (.int .i64) l])) (.br (decide (at_ > (↑b.length:Int))) (.ret ([.int .i64 1],[.boxT none [.rowA 1,.mp 2],.row (.int .u8) b,.mpo .str (.int .i64) l])) (.br (decide (0≤at_)&&decide (at_≤(↑b.length:Int))) (.br (decide (0≤IntKind.wrap .i64 (at_ - 2))&&decide (IntKind.wrap .i64 (at_ - 2)≤at_)) (.br (n16C (IntKind.wrap .u16 (IntKind.wrap .i64 ((↑b.length:Int) - at_)))) (.ret ([.int .i64 0],[.boxT none [.rowA 1,.mp 2],.row (.int .u8) (List.take (Int.toNat (IntKind.wrap .i64 (at_ - 2))) b++List.take (Int.toNat at_ - Int.toNat (IntKind.wrap .i64 (at_ - 2))) (Z0 (Q0 (IntKind.wrap .u16 (IntKind.wrap .i64 ((↑b.length:Int) - at_)))))++List.drop (Int.toNat (IntKind.wrap .i64 (at_ - 2))+min (Int.toNat at_ - Int.toNat (IntKind.wrap .i64 (at_ - 2))) (List.length (Q0 (IntKind.wrap .u16 (IntKind.wrap .i64 ((↑b.length:Int) - at_)))))) b),.mpo .str (.int .i64) l])) .no) .no) .no))
def X5d:OSpec:={ f:=143,sh:=[.ptr 0 0,.d (.int .i64) false],so:=[.box [.row 1,.mp 2],.row (.int .u8),.map .str (.int .i64)],F:=fun(at_,_) (_,b,l,_)=>t143 at_ b l }
theorem fn143 (at_:Int) (b:List Int) (l:List (List UInt8×Int)):evC T0 (orcB [Vp] [os98,U46,Q40,X31]) (lpOf h143 3 (lsOf [])) c143 1000000 (J2 [.ptr 0 0,.int .i64 at_] [.box [.rowA 1,.mp 2],.row (.int .u8) b,.mpo .str (.int .i64) l] Try.f143.ntmps) (Z1 T0 false 3 Try.f143)=(t143 at_ b l).get:=by kernel_rfl
theorem ok143:X5d.Ok Try.prog:=by
 refine U4 J3 tab0 (U0 (all_cons X15 all_nil) (all_cons ok98 (all_cons X5g (all_cons Q5b (all_cons J4c all_nil))))) h143 (d:=0) (n0:=3) (S:=lsOf []) Try.func143 (by kernel_rfl) (c:=c143) (by kernel_rfl) rfl (V3 (by kernel_rfl)) (by omega) (by kernel_rfl) ?_
 intro x'' y'' q'' hq''
 obtain⟨(at_:Int),_⟩:=x''
 obtain⟨_,(b:List Int),(l:List (List UInt8×Int)),_⟩:=y''
 exact(fn143 at_ b l).trans hq''
def t68 (n:List UInt8):Tr Res:=.br (bigS n) (.br (Uj n) (.br (decide (List.length n > 255)) (.ret ([.bool false],[])) (.br (bigS n) (.ret ([.bool (J5 n==n)],[])) .no)) (.ret ([.bool false],[]))) .no
def os68:OSpec:={ f:=68,sh:=[.d .str false],so:=[],F:=fun(n,_) _=>t68 n }
theorem fn68 (n:List UInt8):evC T0 (orcB [fs90,Q0e] []) (lpOf h68 0 (lsOf [])) c68 1000000 (J2 [.str n] [] Try.f68.ntmps) (Z1 T0 false 0 Try.f68)=(t68 n).get:=by kernel_rfl
theorem ok68:os68.Ok Try.prog:=by
 refine U4 J3 tab0 (U0 (all_cons Q5h (all_cons V4d all_nil)) all_nil) h68 (d:=0) (n0:=0) (S:=lsOf []) Try.func68 (by kernel_rfl) (c:=c68) (by kernel_rfl) rfl (V3 (by kernel_rfl)) (by omega) (by kernel_rfl) ?_
 intro x'' y'' q'' hq''
 obtain⟨(n:List UInt8),_⟩:=x''
 exact(fn68 n).trans hq''
def fs68:FSpec:=fsT 68 [(.str,false)] [(.bool,false)] fun(n,_)=>t68 n
theorem okf68:fs68.Ok Try.prog:=V5 fun x'' r'' hr''=>ok68 x'' () r'' hr''
def mayV (s:List UInt8):Bool:=Uj s&&(Nat.ble s.length 255&&(J5 s==s))
theorem V3a (s:List UInt8):∀ (m k:Nat) (out:List (List UInt8)),s.length - k=m→k≤s.length→
    V00 s k out=(match (V9 (s.drop k)).2 with
     | []=>(true,s.length,out++(V9 (s.drop k)).1)
     | c::t=>(decide (c.toNat=0),s.length - (t.length+1),out++(V9 (s.drop k)).1)):=by
 intro m
 induction m using Nat.strongRecOn with
 | _ m ih=>
   intro k out hm hk
   by_cases hlt:k < s.length
   ·obtain⟨c,t,hct⟩:∃ c t,s.drop k=c::t:=by
     rw[Jm s k 0 hlt]
     exact⟨_,_,rfl⟩
    have hc:s.getD k 0=c:=by
     have:=Jm s k 0 hlt
     rw[hct] at this
     exact(List.cons.inj this).1.symm
    have htl:t.length=s.length - k - 1:=by
     have:=congrArg List.length hct
     simp at this
     omega
    have ht:t=s.drop (k+1):=by
     have:=Jm s k 0 hlt
     rw[hct] at this
     exact(List.cons.inj this).2
    rw[V00,dif_pos hlt,hc,hct]
    by_cases h0:c.toNat=0
    ·rw[if_pos h0,V9,if_pos (.inl h0)]
     simp only[List.append_nil]
     rw[decide_eq_true h0]
     congr 2
     omega
    ·rw[if_neg h0]
     by_cases h1:c.toNat > 63∨k+1+c.toNat > s.length
     ·rw[if_pos h1,V9,if_pos (by omega)]
      simp only[List.append_nil]
      rw[decide_eq_false h0]
      congr 2
      omega
     ·rw[if_neg h1,ih (s.length - (k+1+c.toNat)) (by omega) (k+1+c.toNat) _ rfl (by omega),V9,if_neg (by omega)]
      have e:s.drop (k+1+c.toNat)=t.drop c.toNat:=by rw[ht,List.drop_drop]
      rw[e,←ht]
      simp only[List.append_assoc,List.cons_append,List.nil_append]
   ·rw[V00,dif_neg hlt]
    have:s.drop k=[]:=List.drop_eq_nil_of_le (by omega)
    rw[this,V9]
    simp only[List.append_nil]
    congr 2
    omega
theorem X3p:∀ (n:Nat) (s:List UInt8),s.length=n→(V9 s).2.length≤s.length:=by
 intro n
 induction n using Nat.strongRecOn with
 | _ n ih=>
   intro s hs
   cases s with
   | nil=>rw[V9];exact Nat.le_refl _
   | cons c t=>
     rw[V9]
     split
     ·exact Nat.le_refl _
     ·have:=ih (t.drop c.toNat).length (by simp at hs ⊢;omega) _ rfl
      simp at this ⊢
      omega
theorem J3x (s:List UInt8):(lbOk s&&decide (lbAt s=(s.length:Int) - 1))=Uj s∧(Uj s=true→X05 s=X3f s):=by
 have h:=V3a s s.length 0 [] (by omega) (by omega)
 have hl:=X3p _ s rfl
 rw[List.drop_zero] at h
 unfold lbOk lbAt X05 Uj X3f
 rw[h]
 cases hr:(V9 s).2 with
 | nil=>
   simp
   omega
 | cons c t=>
   rw[hr] at hl
   simp at hl
   simp only[List.nil_append,implies_true,and_true]
   rw[Bool.eq_iff_iff]
   simp only[Bool.and_eq_true,decide_eq_true_eq,beq_iff_eq,List.cons.injEq]
   constructor
   ·rintro⟨h1,h2⟩
    refine⟨?_,List.length_eq_zero_iff.1 (by omega)⟩
    exact UInt8.toNat_inj.1 (by simpa using h1)
   ·rintro⟨rfl,rfl⟩
    simp
    simp at hl
    omega
theorem Q4r (s:List UInt8):mayS s=mayV s:=by
 unfold mayS mayV
 rw[←(J3x s).1,Bool.and_assoc]
 congr 3
 by_cases h:s.length≤255
 ·rw[decide_eq_true h,Nat.ble_eq_true_of_le h]
 ·rw[decide_eq_false h]
  cases hb:Nat.ble s.length 255 with
  | false=>rfl
  | true=>exact absurd (Nat.le_of_ble_eq_true hb) h
theorem Z0w {a b:Nat}:Nat.ble a b=decide (a≤b):=by
 by_cases h:a≤b
 ·rw[decide_eq_true h,Nat.ble_eq_true_of_le h]
 ·rw[decide_eq_false h]
  cases hb:Nat.ble a b with
  | false=>rfl
  | true=>exact absurd (Nat.le_of_ble_eq_true hb) h
def Z0p:FSpec:=fs68.like fun(s,_)=>.on (bigS s) (mayV s,())
theorem U2i:Z0p.Ok Try.prog:=by
 refine Q3 okf68 _ ?_
 rintro⟨(s:List UInt8),_⟩ y h
 obtain⟨hb,rfl⟩:=Tr.get_on h
 refine X3 (vs:=[.bool (mayV s)]) rfl rfl (Tr.get_of_all ?_)
 show (t68 s).all _
 refine Tr.all_t hb (Tr.all_br (fun c1=>Tr.all_br (fun c2=>Tr.all_ret ?_) fun c2=>Tr.all_t hb (Tr.all_ret ?_)) fun c1=>Tr.all_ret ?_)
 ·simp only[decide_eq_true_eq] at c2
  have:¬ s.length≤255:=by omega
  simp[mayV,Z0w,this]
 ·simp only[decide_eq_false_iff_not] at c2
  have:s.length≤255:=by omega
  simp[mayV,Z0w,this,c1]
 ·simp[mayV,c1]
def Zq:FSpec:=V4a.like fun(s,_)=>.on (bigS s) (mayV s,())
theorem V12:Zq.Ok Try.prog:=by
 rintro⟨(s:List UInt8),_⟩ y h
 obtain⟨hb,rfl⟩:=Tr.get_on h
 have:=V4w (s,()) (mayS s,()) (by show (Tr.on (bigS s) _).get=_;rw[hb];rfl)
 rw[Q4r] at this
 exact this
abbrev Z6:=List (List UInt8×Int)
abbrev Z9 (n:List UInt8) (L:Z6):Option Int:=Vx .str (.int .i64) n L
def hdN (n:List UInt8):List UInt8:=n.take (1+(n.getD 0 0).toNat)
def tlN (n:List UInt8):List UInt8:=n.drop (1+(n.getD 0 0).toNat)
theorem U0g {n:List UInt8} (h:n≠[]):(tlN n).length < n.length:=by
 have:=List.length_pos_iff.2 h
 simp[tlN]
 omega
def U3 (n S:List UInt8) (L:Z6):Option Int×(List UInt8×(List UInt8×Z6)):=
 if n=[0] then (none,n,S,L)
 else match Z9 n L with
  | some a=>(some a,n,S,L)
  | none=>if h:n=[] then (none,n,S,L) else U3 (tlN n) (S++hdN n) (if S.length < 16384 then L++[(n,(S.length:Int))] else L)
termination_by n.length
decreasing_by exact U0g h
def endN:Option Int→List UInt8
 | some a=>Q0 (49152+a)
 | none=>[0]
def V2 (n S:List UInt8) (L:Z6):List UInt8×Z6:=((U3 n S L).2.2.1++endN (U3 n S L).1,(U3 n S L).2.2.2)
def kOk (L:Z6):Bool:=L.all fun e=>decide (0≤e.2)&&decide (e.2 < 16384)
theorem J2u {L:Z6} (h:kOk L=true) {n:List UInt8} {a:Int} (ha:Z9 n L=some a):0≤a∧a < 16384:=by
 induction L with
 | nil=>cases ha
 | cons e L ih=>
   simp only[kOk,List.all_cons,Bool.and_eq_true,decide_eq_true_eq] at h
   unfold Z9 Vx at ha
   cases hq:Ty.keq .str n e.1 with
   | true=>rw[hq] at ha;cases ha;exact h.1
   | false=>rw[hq] at ha;exact ih h.2 ha
theorem U3u {L:Z6} {n:List UInt8} (h:Z9 n L=none) (v:Int):putM .str (.int .i64) n v L=L++[(n,v)]:=by
 induction L with
 | nil=>rfl
 | cons e L ih=>
   unfold Z9 Vx at h
   unfold putM
   cases hq:Ty.keq .str n e.1 with
   | true=>rw[hq] at h;cases h
   | false=>rw[hq] at h;rw[cond_false,ih h];rfl
theorem U5o {a:Int} (h0:0≤a) (h1:a < 16384):IntKind.wrap IntKind.u16 (IntKind.wrap IntKind.i64 (↑(BitVec.toNat (BitVec.ofInt (IntKind.bits IntKind.i64) (49152:Int) ||| BitVec.ofInt (IntKind.bits IntKind.i64) a)):Int))=49152+a:=by
 obtain⟨m,rfl⟩:∃ m:Nat,a=m:=⟨a.toNat,by omega⟩
 have e:BitVec.toNat (BitVec.ofInt (IntKind.bits IntKind.i64) (49152:Int) ||| BitVec.ofInt (IntKind.bits IntKind.i64) (m:Int))=49152+m:=by
  show BitVec.toNat (BitVec.ofInt 64 ((49152:Nat):Int) ||| BitVec.ofInt 64 ((m:Nat):Int))=_
  rw[BitVec.ofInt_natCast,BitVec.ofInt_natCast,BitVec.toNat_or,BitVec.toNat_ofNat,BitVec.toNat_ofNat,Nat.mod_eq_of_lt (by omega),Nat.mod_eq_of_lt (by omega)]
  have:=Nat.shiftLeft_add_eq_or_of_lt (a:=3) (b:=m) (i:=14) (by omega)
  exact this.symm
 rw[e,IntWalk.i64_in _ (by omega),IntWalk.u16_in _ (by omega)]
 omega
theorem Jn {n:List UInt8} (h:Uj n=true):n=[0]∨(n≠[0]∧n≠[]∧1+(n.getD 0 0).toNat < n.length∧(n.getD 0 0).toNat≤63∧(n.getD 0 0).toNat≠0∧Uj (tlN n)=true):=by
 unfold Uj at h
 cases n with
 | nil=>rw[V9] at h;simp at h
 | cons c t=>
   rw[V9] at h
   split at h
   ·exact .inl (by simpa using h)
   ·rename_i hc
    refine .inr ⟨fun e=>?_,by simp,?_,?_,?_,?_⟩
    ·cases e;simp at hc
    ·have he:(t.drop c.toNat)≠[]:=fun e=>by
      rw[e,V9] at h
      simp at h
     have:=List.length_pos_iff.2 he
     simp at this ⊢
     omega
    ·simp;omega
    ·simp;omega
    ·unfold Uj tlN
     simpa[Nat.add_comm 1] using h
theorem Xn (s:List UInt8):X0 (Z0 s)=s:=by
 unfold X0 Z0
 rw[List.map_map]
 conv=>rhs;rw[←List.map_id s]
 exact List.map_congr_left fun x _=>by simp
theorem V0e {b:List Int} (h:Q7 b=true):Z0 (X0 b)=b:=by
 unfold X0 Z0
 rw[List.map_map]
 conv=>rhs;rw[←List.map_id b]
 refine List.map_congr_left fun x hx=>?_
 have:=List.all_eq_true.1 h x hx
 simp only[Bool.and_eq_true,decide_eq_true_eq] at this
 simp
 omega
theorem Qj (b:List Int):(X0 b).length=b.length:=by simp[X0]
theorem U0h (a b:List Int):X0 (a++b)=X0 a++X0 b:=by simp[X0]
theorem Ve (a b:List UInt8):Z0 (a++b)=Z0 a++Z0 b:=by simp[Z0]
theorem Jl (S:List UInt8) (L:Z6):U3 [0] S L=(none,[0],S,L):=by rw[U3,if_pos rfl]
theorem Xh {n S:List UInt8} {L:Z6} {a:Int} (h:n≠[0]) (ha:Z9 n L=some a):U3 n S L=(some a,n,S,L):=by
 rw[U3,if_neg h]
 simp only[ha]
theorem Ud {n S:List UInt8} {L:Z6} (h:n≠[0]) (h0:n≠[]) (ha:Z9 n L=none):U3 n S L=U3 (tlN n) (S++hdN n) (if S.length < 16384 then L++[(n,(S.length:Int))] else L):=by
 rw[U3,if_neg h]
 simp only[ha,dif_neg h0]
theorem U3k {L:Z6} {n:List UInt8} {a:Int} (h:Z9 n L=some a):getM .str (.int .i64) n L=a:=by
 unfold getM
 rw[show Vx .str (.int .i64) n L=some a from h]
 rfl
theorem J27 {L:Z6} {n:List UInt8}:hasM .str (.int .i64) n L=(Z9 n L).isSome:=rfl
theorem Z2i {L:Z6} (h:kOk L=true) {n:List UInt8} {v:Nat} (hv:v < 16384):kOk (L++[(n,(v:Int))])=true:=by
 simp only[kOk,List.all_append,List.all_cons,List.all_nil,Bool.and_true,Bool.and_eq_true,decide_eq_true_eq]
 exact⟨h,by omega,by omega⟩
theorem Xy {a b:List Int} (ha:Q7 a=true) (hb:Q7 b=true):Q7 (a++b)=true:=by
 simp only[Q7,List.all_append,Bool.and_eq_true] at *
 exact⟨ha,hb⟩
theorem X9 (n:Int):(Q0 n).length=2:=rfl
theorem Q0z {n:List UInt8} (h:1+(n.getD 0 0).toNat≤n.length):(hdN n).length=1+(n.getD 0 0).toNat:=by unfold hdN;rw[List.length_take];omega
theorem X1e (n:List UInt8):(tlN n).length=n.length - (1+(n.getD 0 0).toNat):=by unfold tlN;rw[List.length_drop]
theorem szW (n:List UInt8):IntKind.wrap IntKind.i64 ((1:Int)+IntKind.wrap IntKind.i64 (↑(UInt8.toNat (List.getD n (Int.toNat (0:Int)) 0)):Int))=((1+(n.getD 0 0).toNat:Nat):Int):=by
 have:=(n.getD 0 0).toNat_lt
 rw[show Int.toNat (0:Int)=0 from rfl]
 rw[IntWalk.i64_in (((n.getD 0 0).toNat:Nat):Int) (by omega),IntWalk.i64_in _ (by omega)]
 omega
theorem hdW (n:List UInt8):List.take (Int.toNat ((1+(n.getD 0 0).toNat:Nat):Int) - Int.toNat (0:Int)) (List.drop (Int.toNat (0:Int)) n)=hdN n:=by
 rw[Int.toNat_natCast];rfl
theorem tlW (n:List UInt8):List.take (Int.toNat (↑(List.length n):Int) - Int.toNat ((1+(n.getD 0 0).toNat:Nat):Int)) (List.drop (Int.toNat ((1+(n.getD 0 0).toNat:Nat):Int)) n)=tlN n:=by
 rw[Int.toNat_natCast,Int.toNat_natCast]
 exact List.take_of_length_le (by simp)
theorem getD_some {α:Type} {o:Option α} {a d:α} (h:o=some a):o.getD d=a:=by rw[h];rfl
theorem U06:∀ (m:Nat) (n S:List UInt8) (L:Z6),n.length=m→Uj n=true→((U3 n S L).1=none→(U3 n S L).2.1=[0])∧(∀ a,(U3 n S L).1=some a→Z9 (U3 n S L).2.1 (U3 n S L).2.2.2=some a) ∧
    (U3 n S L).2.2.1.length+(U3 n S L).2.1.length=S.length+n.length∧(kOk L=true→kOk (U3 n S L).2.2.2=true)∧(U3 n S L).2.1.length≥1∧(U3 n S L).2.2.2.length≤L.length+n.length:=by
 intro m
 induction m using Nat.strongRecOn with
 | _ m ih=>
   intro n S L hm hr
   rcases Jn hr with rfl | ⟨hn0,hn1,hlt,h63,hne,hrt⟩
   ·rw[Jl]
    refine⟨fun _=>rfl,fun a h=>(by cases h),rfl,fun h=>h,?_,?_⟩<;>simp
   ·cases hlk:Z9 n L with
    | some a=>
      rw[Xh hn0 hlk]
      refine⟨fun h=>(by cases h),fun a' h=>?_,rfl,fun h=>h,List.length_pos_iff.2 hn1,Nat.le_add_right _ _⟩
      cases h
      exact hlk
    | none=>
      rw[Ud hn0 hn1 hlk]
      have hlt2:=U0g hn1
      obtain⟨a1,a2,a3,a4,a5,a6⟩:=ih (tlN n).length (by omega) (tlN n) (S++hdN n) (if S.length < 16384 then L++[(n,(S.length:Int))] else L) rfl hrt
      refine⟨a1,a2,?_,fun h=>a4 ?_,a5,?_⟩
      ·rw[a3,List.length_append,Q0z (by omega),X1e]
       omega
      ·split
       ·exact Z2i h (by assumption)
       ·exact h
      ·refine Nat.le_trans a6 ?_
       split
       ·simp;omega
       ·omega
theorem Q4o:∀ i,i < 16→(49152:Nat).testBit i=decide (14≤i):=by decide
theorem Q59 (n:Nat) (hn:n < 65536):n &&& (2 ^ 64 - 1 - 49152)=n % 16384:=by
 refine Nat.eq_of_testBit_eq fun i=>?_
 rw[Nat.testBit_and,show (16384:Nat)=2 ^ 14 from rfl,Nat.testBit_mod_two_pow]
 by_cases hi:i < 16
 ·have h1:=Q4o i hi
  have h2:(2 ^ 64 - 1 - 49152:Nat).testBit i = !(49152:Nat).testBit i:=by
   have:=Nat.testBit_two_pow_sub_succ (n:=64) (x:=49152) (by decide) i
   rw[show (2 ^ 64 - 1 - 49152:Nat)=2 ^ 64 - (49152+1) by decide,this]
   simp
   omega
  rw[h2,h1]
  by_cases h14:i < 14
  ·have:¬ 14≤i:=by omega
   simp[h14,this]
  ·have:14≤i:=by omega
   simp[h14,this]
 ·have:n.testBit i=false:=Nat.testBit_lt_two_pow (Nat.lt_of_lt_of_le hn (show 2 ^ 16≤2 ^ i from Nat.pow_le_pow_right (by omega) (by omega)))
  rw[this]
  simp
theorem Z3f {a:Int} (h0:0≤a) (h1:a≤65535):IntKind.wrap IntKind.i64 (↑(BitVec.toNat (BitVec.ofInt (IntKind.bits IntKind.i64) (IntKind.wrap IntKind.i64 a) &&& ~~~BitVec.ofInt (IntKind.bits IntKind.i64) (49152:Int))):Int)=a % 16384:=by
 obtain⟨m,rfl⟩:∃ m:Nat,a=m:=⟨a.toNat,by omega⟩
 rw[IntWalk.i64_in (m:Int) (by omega)]
 have e:BitVec.toNat (BitVec.ofInt (IntKind.bits IntKind.i64) ((m:Nat):Int) &&& ~~~BitVec.ofInt (IntKind.bits IntKind.i64) ((49152:Nat):Int))=m % 16384:=by
  show BitVec.toNat (BitVec.ofInt 64 ((m:Nat):Int) &&& ~~~BitVec.ofInt 64 ((49152:Nat):Int))=_
  rw[BitVec.ofInt_natCast,BitVec.ofInt_natCast,BitVec.toNat_and,BitVec.toNat_not,BitVec.toNat_ofNat,BitVec.toNat_ofNat,Nat.mod_eq_of_lt (by omega),Nat.mod_eq_of_lt (by omega)]
  exact Q59 m (by omega)
 rw[show ((49152:Int))=((49152:Nat):Int) from rfl,e,IntWalk.i64_in _ (by omega)]
 rfl
def szT (s:List UInt8) (at_:Int):Nat:=(s.getD at_.toNat 0).toNat
def toT (s:List UInt8) (at_:Int):Int:=n16 s at_ % 16384
theorem Z3y (s:List UInt8) (at_:Int):szT s at_≤255:=by
 have:=(s.getD at_.toNat 0).toNat_lt
 unfold szT
 omega
theorem V2c (s:List UInt8) (at_:Int):0≤n16 s at_∧n16 s at_≤65535:=by
 have h1:=(s.getD at_.toNat 0).toNat_lt
 have h2:=(s.getD (at_.toNat+1) 0).toNat_lt
 unfold n16
 omega
theorem X2d (s:List UInt8) (at_:Int):0≤toT s at_∧toT s at_ < 16384:=by
 unfold toT
 omega
def msT (s:List UInt8) (at_ from_:Int):Nat:=from_.toNat * (s.length+2)+(s.length+1 - at_.toNat)
theorem Xa {s:List UInt8} {at_ many:Int}:Z3 s at_ many=true↔0≤at_∧0≤many∧at_+many≤s.length:=by simp[Z3]
theorem X16 {s:List UInt8} {at_ from_ to:Int} (h0:0≤to) (h:to < from_):msT s to to < msT s at_ from_:=by
 unfold msT
 have h1:to.toNat+1≤from_.toNat:=by omega
 have h2:(to.toNat+1) * (s.length+2)≤from_.toNat * (s.length+2):=Nat.mul_le_mul_right _ h1
 rw[Nat.add_mul,Nat.one_mul] at h2
 omega
theorem U2x {s:List UInt8} {at_ from_:Int} {c:Nat} (h0:0≤at_) (h:at_+1+c≤s.length):msT s (at_+1+c) from_ < msT s at_ from_:=by
 unfold msT
 omega
def V6 (s:List UInt8) (at_ from_ behind:Int) (out:List UInt8):Option (List UInt8×Int):=
 if h1:Z3 s at_ 1=true then
  if 192≤szT s at_ then
   (if h3:Z3 s at_ 2=true∧toT s at_ < from_ then V6 s (toT s at_) (toT s at_) (if behind < 0 then at_+2 else behind) out else none)
  else if 63 < szT s at_ then none
  else if h4:Z3 s (at_+1) (szT s at_)=true∧out.length+1+szT s at_≤255 then
   (if szT s at_=0 then some (out++[0],if behind < 0 then at_+1 else behind)
    else V6 s (at_+1+szT s at_) from_ behind (out++s.getD at_.toNat 0::J5 (U2 s (at_+1) (szT s at_))))
  else none
 else none
termination_by msT s at_ from_
decreasing_by
 ·exact X16 (X2d s at_).1 h3.2
 ·have h1:=Xa.1 h1
  have h4:=Xa.1 h4.1
  exact U2x h1.1 h4.2.2
def tkS:Option (List UInt8×Int)→List UInt8
 | some p=>p.1
 | none=>[]
def tkN:Option (List UInt8×Int)→Int
 | some p=>p.2
 | none=>0
def tkE:Option (List UInt8×Int)→Int
 | some _=>0
 | none=>2
def resT (o:Option (List UInt8×Int)):List AV:=[.str (tkS o),.int .i64 (tkN o),.int .i64 (tkE o)]
section
variable {s:List UInt8} {at_ from_ behind:Int} {out:List UInt8}
theorem Z1a (h:Z3 s at_ 1=false):V6 s at_ from_ behind out=none:=by rw[V6,dif_neg (by rw[h];simp)]
theorem Q0l (h:Z3 s at_ 1=true) (h2:192≤szT s at_) (h3:Z3 s at_ 2=true) (h4:toT s at_ < from_):V6 s at_ from_ behind out=V6 s (toT s at_) (toT s at_) (if behind < 0 then at_+2 else behind) out:=by
 rw[V6,dif_pos h,if_pos h2,dif_pos ⟨h3,h4⟩]
theorem Q16 (h:Z3 s at_ 1=true) (h2:192≤szT s at_) (h3:¬ (Z3 s at_ 2=true∧toT s at_ < from_)):V6 s at_ from_ behind out=none:=by
 rw[V6,dif_pos h,if_pos h2,dif_neg h3]
theorem Z15 (h:Z3 s at_ 1=true) (h2:¬ 192≤szT s at_) (h3:63 < szT s at_):V6 s at_ from_ behind out=none:=by
 rw[V6,dif_pos h,if_neg h2,if_pos h3]
theorem X04 (h:Z3 s at_ 1=true) (h2:szT s at_≤63) (h4:¬ (Z3 s (at_+1) (szT s at_)=true∧out.length+1+szT s at_≤255)):V6 s at_ from_ behind out=none:=by
 rw[V6,dif_pos h,if_neg (by omega),if_neg (by omega),dif_neg h4]
theorem U0m (h:Z3 s at_ 1=true) (h2:szT s at_=0) (h4:out.length+1≤255):V6 s at_ from_ behind out=some (out++[0],if behind < 0 then at_+1 else behind):=by
 have h5:Z3 s (at_+1) (szT s at_)=true:=by
  have:=Xa.1 h
  rw[h2]
  exact Xa.2 ⟨by omega,by simp,by simp;omega⟩
 rw[V6,dif_pos h,if_neg (by omega),if_neg (by omega),dif_pos ⟨h5,by omega⟩,if_pos h2]
theorem J0w (h:Z3 s at_ 1=true) (h2:szT s at_≤63) (h3:szT s at_≠0) (h4:Z3 s (at_+1) (szT s at_)=true) (h5:out.length+1+szT s at_≤255) :
    V6 s at_ from_ behind out=V6 s (at_+1+szT s at_) from_ behind (out++s.getD at_.toNat 0::J5 (U2 s (at_+1) (szT s at_))):=by
 rw[V6,dif_pos h,if_neg (by omega),if_neg (by omega),dif_pos ⟨h4,h5⟩,if_neg h3]
end
theorem Qg (s:List UInt8):(J5 s).length=s.length:=by simp[J5]
theorem U15 {s:List UInt8} {at_ many:Int} (h:Z3 s at_ many=true):(U2 s at_ many).length=many.toNat:=by
 have:=Xa.1 h
 simp[U2]
 omega
end Go.Proofs.YtpledbapngdkeaaE
namespace Go.Proofs.YtpledbapngdkeaaE
open Go Go.Proofs.YtpledbapngdkeaaB
set_option linter.unusedVariables false
set_option linter.unusedSimpArgs false
theorem Q4e (c:UInt8):lowB (lowB c)=lowB c:=by
 unfold lowB
 have hlt:=c.toNat_lt
 by_cases h:c.toNat≥65∧c.toNat≤90
 ·rw[show (decide (c.toNat≥65)&&decide (c.toNat≤90))=true by simp;omega,cond_true]
  have e:(UInt8.ofNat (c.toNat+32)).toNat=c.toNat+32:=by simp;omega
  rw[show (decide ((UInt8.ofNat (c.toNat+32)).toNat≥65)&&decide ((UInt8.ofNat (c.toNat+32)).toNat≤90))=false by rw[e];simp;omega,cond_false]
 ·rw[show (decide (c.toNat≥65)&&decide (c.toNat≤90))=false by simp;omega,cond_false]
  rw[show (decide (c.toNat≥65)&&decide (c.toNat≤90))=false by simp;omega,cond_false]
theorem J30 {c:UInt8} (h:c.toNat≤63):lowB c=c:=by
 unfold lowB
 rw[show (decide (c.toNat≥65)&&decide (c.toNat≤90))=false by simp;omega,cond_false]
theorem Q31 (s:List UInt8):J5 (J5 s)=J5 s:=by
 unfold J5
 rw[List.map_map]
 exact List.map_congr_left fun c _=>Q4e c
theorem Z3i (a b:List UInt8):J5 (a++b)=J5 a++J5 b:=by simp[J5]
theorem X2x (c:UInt8) (b:List UInt8):J5 (c::b)=lowB c::J5 b:=rfl
def Z0f (s:List UInt8):Prop:=J5 s=s
theorem J18 {a b:List UInt8}:Z0f (a++b)↔Z0f a∧Z0f b:=by
 unfold Z0f
 rw[Z3i]
 constructor
 ·intro h
  have h1:=(List.append_inj h (Qg a))
  exact h1
 ·rintro⟨h1,h2⟩
  rw[h1,h2]
def byN (s:List UInt8) (k:Nat):Nat:=(s.getD k 0).toNat
theorem X06 (s:List UInt8) (k:Nat):szT s (k:Int)=byN s k:=by unfold szT byN;rw[Int.toNat_natCast]
inductive Rd (S:List UInt8):Nat→Nat→List UInt8→Nat→Prop where
 | root {k f:Nat} (h:k < S.length) (h0:byN S k=0):Rd S k f [0] (k+1)
 | label {k f e:Nat} {n:List UInt8} (h1:byN S k≠0) (h63:byN S k≤63) (hin:k+1+byN S k≤S.length) (h:Rd S (k+1+byN S k) f n e) :
     Rd S k f (S.getD k 0::J5 ((S.drop (k+1)).take (byN S k))++n) e
 | ptr {k f e:Nat} {n:List UInt8} {to:Nat} (h192:192≤byN S k) (hin:k+2≤S.length) (hto:toT S (k:Int)=to) (hlt:to < f) (h:Rd S to to n e):Rd S k f n (k+2)
theorem J0b {s:List UInt8} {k m:Nat}:Z3 s (k:Int) (m:Int)=true↔k+m≤s.length:=by
 rw[Xa]
 omega
theorem Rd.pos {S:List UInt8} {k f e:Nat} {n:List UInt8} (h:Rd S k f n e):1≤n.length∧k < e∧e≤S.length:=by
 induction h with
 | root h h0=>simp;omega
 | label h1 h63 hin h ih=>simp;omega
 | ptr h192 hin hto hlt h ih=>omega
theorem J1m {S:List UInt8} {k f e:Nat} {n:List UInt8} (h:Rd S k f n e):∀ (b:Int) (out:List UInt8),out.length+n.length≤255→V6 S (k:Int) (f:Int) b out=some (out++n,if b < 0 then (e:Int) else b):=by
 induction h with
 | @root k f hk h0=>
   intro b out hl
   simp at hl
   rw[U0m (J0b.2 (by omega:k+1≤S.length)) (by rw[X06];exact h0) (by omega)]
   rfl
 | @label k f e n h1 h63 hin h ih=>
   intro b out hl
   have hp:=h.pos
   simp[Qg] at hl
   have hlen:((S.drop (k+1)).take (byN S k)).length=byN S k:=by simp;omega
   have h4:Z3 S ((k:Int)+1) (szT S (k:Int):Int)=true:=by
    rw[X06,show ((k:Int)+1)=((k+1:Nat):Int) by omega,J0b]
    omega
   rw[J0w (J0b.2 (by omega:k+1≤S.length)) (by rw[X06];omega) (by rw[X06];exact h1) h4 (by rw[X06];omega)]
   have e1:(k:Int)+1+(szT S (k:Int):Int)=((k+1+byN S k:Nat):Int):=by rw[X06];omega
   have e2:U2 S ((k:Int)+1) (szT S (k:Int):Int)=(S.drop (k+1)).take (byN S k):=by
    unfold U2
    rw[X06,Int.toNat_natCast,show ((k:Int)+1).toNat=k+1 by omega]
   rw[e1,e2,ih b _ (by simp[Qg];omega),Int.toNat_natCast]
   simp
 | @ptr k f e n to h192 hin hto hlt h ih=>
   intro b out hl
   rw[Q0l (J0b.2 (by omega:k+1≤S.length)) (by rw[X06];exact h192) (J0b.2 (by omega:k+2≤S.length)) (by rw[hto];omega),hto,ih _ _ hl]
   congr 2
   by_cases hb:b < 0
   ·rw[if_pos hb,if_neg (by omega),if_pos hb]
    omega
   ·rw[if_neg hb,if_neg hb,if_neg hb]
theorem Q0x {S X:List UInt8} {k:Nat} (h:k < S.length):(S++X).getD k 0=S.getD k 0:=by
 rw[List.getD_eq_getElem?_getD,List.getD_eq_getElem?_getD,List.getElem?_append_left h]
theorem Z1h {S X:List UInt8} {k:Nat} (h:k < S.length):byN (S++X) k=byN S k:=by unfold byN;rw[Q0x h]
theorem Z4x {S X:List UInt8} {k:Nat} (h:k+2≤S.length):toT (S++X) (k:Int)=toT S (k:Int):=by
 unfold toT n16
 rw[Int.toNat_natCast,Q0x (by omega),Q0x (by omega)]
theorem Rd.mono {S:List UInt8} (X:List UInt8) {k f e:Nat} {n:List UInt8} (h:Rd S k f n e):Rd (S++X) k f n e:=by
 induction h with
 | @root k f hk h0=>exact .root (by simp;omega) (by rw[Z1h hk];exact h0)
 | @label k f e n h1 h63 hin h ih=>
   have hb:byN (S++X) k=byN S k:=Z1h (by omega)
   have:=Rd.label (S:=S++X) (k:=k) (f:=f) (e:=e) (n:=n) (by rw[hb];exact h1) (by rw[hb];exact h63) (by rw[hb];simp;omega) (by rw[hb];exact ih)
   rw[hb,Q0x (by omega)] at this
   rw[List.drop_append_of_le_length (by omega),List.take_append_of_le_length (by simp;omega)] at this
   exact this
 | @ptr k f e n to h192 hin hto hlt h ih=>exact .ptr (by rw[Z1h (by omega)];exact h192) (by simp;omega) (by rw[Z4x hin];exact hto) hlt ih
theorem Rd.up {S:List UInt8} {k f f' e:Nat} {n:List UInt8} (h:Rd S k f n e) (hf:f≤f'):Rd S k f' n e:=by
 induction h generalizing f' with
 | root h h0=>exact .root h h0
 | label h1 h63 hin h ih=>exact .label h1 h63 hin (ih hf)
 | ptr h192 hin hto hlt h ih=>exact .ptr h192 hin hto (by omega) h
def PI (S:List UInt8) (L:Z6):Prop:=∀ n a,(n,a)∈L→∃ k e:Nat,a=(k:Int)∧k < 16384∧Rd S k k n e
theorem PI.mono {S:List UInt8} {L:Z6} (h:PI S L) (X:List UInt8):PI (S++X) L:=fun n a hm=>by
 obtain⟨k,e,h1,h2,h3⟩:=h n a hm
 exact⟨k,e,h1,h2,h3.mono X⟩
theorem U4d {n:List UInt8} {L:Z6} {a:Int} (h:Z9 n L=some a):(n,a)∈L:=by
 induction L with
 | nil=>cases h
 | cons e L ih=>
   unfold Z9 Vx at h
   by_cases hq:n=e.1
   ·rw[show Ty.keq .str n e.1=true by simp only[Ty.keq,beq_iff_eq];exact hq] at h
    cases h
    rw[hq]
    exact List.mem_cons_self
   ·rw[show Ty.keq .str n e.1=false by simp only[Ty.keq,beq_eq_false_iff_ne];exact hq] at h
    exact List.mem_cons_of_mem _ (ih h)
theorem Q4d {n:List UInt8} {L N:Z6} (h:∀ m b,(m,b)∈N→m≠n):Z9 n (L++N)=Z9 n L:=by
 induction L with
 | nil=>
   show Z9 n N=none
   induction N with
   | nil=>rfl
   | cons e N ih=>
     unfold Z9 Vx
     have hq:n≠e.1:=fun e'=>h e.1 e.2 List.mem_cons_self e'.symm
     rw[show Ty.keq .str n e.1=false by simp only[Ty.keq,beq_eq_false_iff_ne];exact hq]
     exact ih fun m b hm=>h m b (List.mem_cons_of_mem _ hm)
 | cons e L ih=>
   simp only[List.cons_append]
   unfold Z9 Vx
   cases Ty.keq .str n e.1 with
   | true=>rfl
   | false=>exact ih
theorem PI.kOk {S:List UInt8} {L:Z6} (h:PI S L):kOk L=true:=by
 refine List.all_eq_true.2 fun⟨n,a⟩ hm=>?_
 obtain⟨k,e,rfl,h2,_⟩:=h n a hm
 simp only[Bool.and_eq_true,decide_eq_true_eq]
 omega
theorem X49 {S X:List UInt8} {a:Nat} (ha:a < 16384):byN (S++(Q0 (49152+(a:Int))++X)) S.length≥192∧toT (S++(Q0 (49152+(a:Int))++X)) (S.length:Int)=a:=by
 have e0:(S++(Q0 (49152+(a:Int))++X)).getD S.length 0=UInt8.ofNat ((49152+(a:Int)) / 256).toNat:=by
  rw[List.getD_eq_getElem?_getD,List.getElem?_append_right (Nat.le_refl _),Nat.sub_self];rfl
 have e1:(S++(Q0 (49152+(a:Int))++X)).getD (S.length+1) 0=UInt8.ofNat ((49152+(a:Int)) % 256).toNat:=by
  rw[List.getD_eq_getElem?_getD,List.getElem?_append_right (by omega),show S.length+1 - S.length=1 by omega];rfl
 have t0:(UInt8.ofNat ((49152+(a:Int)) / 256).toNat).toNat=192+a / 256:=by simp;omega
 have t1:(UInt8.ofNat ((49152+(a:Int)) % 256).toNat).toNat=a % 256:=by simp;omega
 constructor
 ·unfold byN
  rw[e0,t0]
  omega
 ·unfold toT n16
  rw[Int.toNat_natCast,e0,e1,t0,t1]
  omega
theorem Q42:∀ (m:Nat) (n S:List UInt8) (L0 N:Z6) (S0 T0:List UInt8),n.length=m→Uj n=true→Z0f n→PI S0 L0→S=S0++T0→(∀ q b,(q,b)∈N→n.length < q.length)→
    ∃ T N',(V2 n S (L0++N)).1=S++T∧(V2 n S (L0++N)).2=(L0++N)++N'∧Rd (S++T) S.length S0.length n (S++T).length∧(∀ q b,(q,b)∈N'→∃ k e:Nat,b=(k:Int)∧k < 16384∧Rd (S++T) k k q e):=by
 intro m
 induction m using Nat.strongRecOn with
 | _ m ih=>
   intro n S L0 N S0 T0 hm hr hlow hPI hS hN
   rcases Jn hr with rfl | ⟨hn0,hn1,hlt,h63,hne,hrt⟩
   ·refine⟨[0],[],?_,?_,?_,fun q b h=>by simp at h⟩
    ·unfold V2;rw[Jl];rfl
    ·unfold V2;rw[Jl];simp
    ·have hb:byN (S++[0]) S.length=0:=by
      unfold byN
      rw[List.getD_eq_getElem?_getD,List.getElem?_append_right (Nat.le_refl _),Nat.sub_self];rfl
     have:=Rd.root (S:=S++[0]) (k:=S.length) (f:=S0.length) (by simp) hb
     simpa using this
   ·have hlk:Z9 n (L0++N)=Z9 n L0:=Q4d fun q b hq e=>by have:=hN q b hq;rw[e] at this;omega
    cases ha:Z9 n L0 with
    | some a=>
      obtain⟨k,e,rfl,hk,hrd⟩:=hPI n a (U4d ha)
      refine⟨Q0 (49152+(k:Int)),[],?_,?_,?_,fun q b h=>by simp at h⟩
      ·unfold V2;rw[Xh hn0 (hlk.trans ha)];rfl
      ·unfold V2;rw[Xh hn0 (hlk.trans ha)];simp
      ·obtain⟨h1,h2⟩:=X49 (S:=S) (X:=[]) hk
       rw[List.append_nil] at h1 h2
       have hp:=hrd.pos
       have:=Rd.ptr (S:=S++Q0 (49152+(k:Int))) (k:=S.length) (f:=S0.length) (to:=k) h1 (by simp[X9]) h2 (by omega) (by rw[hS,List.append_assoc];exact hrd.mono _)
       simpa[X9] using this
    | none=>
      have hlt2:=U0g hn1
      obtain⟨c,t,rfl⟩:=List.exists_cons_of_ne_nil hn1
      have hc:(c::t).getD 0 0=c:=rfl
      rw[hc] at hlt h63 hne
      have htl:tlN (c::t)=t.drop c.toNat:=by unfold tlN;rw[hc,Nat.add_comm];rfl
      have hhd:hdN (c::t)=c::t.take c.toNat:=by unfold hdN;rw[hc,Nat.add_comm];rfl
      have hsplit:(c::t)=hdN (c::t)++tlN (c::t):=by rw[hhd,htl];simp
      have hlow2:Z0f (hdN (c::t))∧Z0f (tlN (c::t)):=J18.1 (hsplit▸hlow)
      have hhl:(hdN (c::t)).length=1+c.toNat:=by rw[hhd];simp at hlt ⊢;omega
      obtain⟨N2,hN2,hN2len,hN2k⟩:∃ N2:Z6,(if S.length < 16384 then (L0++N)++[((c::t),(S.length:Int))] else L0++N)=L0++(N++N2)∧(∀ q b,(q,b)∈N2→q=c::t∧b=(S.length:Int)∧S.length < 16384)∧True:=by
       by_cases h:S.length < 16384
       ·rw[if_pos h]
        exact⟨[((c::t),(S.length:Int))],by simp,fun q b hq=>by simp at hq;exact⟨hq.1,hq.2,h⟩,trivial⟩
       ·rw[if_neg h]
        exact⟨[],by simp,fun q b hq=>by simp at hq,trivial⟩
      obtain⟨T,N',i1,i2,i3,i4⟩:=ih (tlN (c::t)).length (by omega) (tlN (c::t)) (S++hdN (c::t)) L0 (N++N2) S0 (T0++hdN (c::t)) rfl hrt hlow2.2 hPI (by rw[hS];simp) (fun q b hq=>by
       rcases List.mem_append.1 hq with hq | hq
       ·have:=hN q b hq;omega
       ·obtain⟨rfl,_⟩:=hN2len q b hq;omega)
      have hP:V2 (c::t) S (L0++N)=V2 (tlN (c::t)) (S++hdN (c::t)) (L0++(N++N2)):=by
       unfold V2
       rw[Ud hn0 hn1 (hlk.trans ha),hN2]
      rw[hP]
      have hb:byN (S++(hdN (c::t)++T)) S.length=c.toNat:=by
       unfold byN
       rw[List.getD_eq_getElem?_getD,List.getElem?_append_right (Nat.le_refl _),Nat.sub_self,hhd];rfl
      have hg:(S++(hdN (c::t)++T)).getD S.length 0=c:=by
       rw[List.getD_eq_getElem?_getD,List.getElem?_append_right (Nat.le_refl _),Nat.sub_self,hhd];rfl
      rw[List.append_assoc] at i1 i3 i4
      have hrd:Rd (S++(hdN (c::t)++T)) S.length S0.length (c::t) (S++(hdN (c::t)++T)).length:=by
       have hl:=Rd.label (S:=S++(hdN (c::t)++T)) (k:=S.length) (f:=S0.length) (e:=(S++(hdN (c::t)++T)).length) (n:=tlN (c::t)) (by rw[hb];exact hne) (by rw[hb];exact h63) (by rw[hb];simp[hhl];omega) (by
        rw[hb]
        have:(S++hdN (c::t)).length=S.length+1+c.toNat:=by rw[List.length_append,hhl];omega
        rw[this] at i3
        exact i3)
       rw[hb,hg] at hl
       have hv:((S++(hdN (c::t)++T)).drop (S.length+1)).take c.toNat=t.take c.toNat:=by
        rw[←List.drop_drop,List.drop_left,hhd]
        simp only[List.cons_append,List.drop_succ_cons,List.drop_zero]
        rw[List.take_append_of_le_length (by simp at hlt ⊢;omega),List.take_take,Nat.min_self]
       rw[hv] at hl
       have hf:J5 (t.take c.toNat)=t.take c.toNat:=by
        have:=hlow2.1
        rw[hhd] at this
        exact(List.cons.inj this).2
       rw[hf,htl] at hl
       have e:c::List.take c.toNat t++List.drop c.toNat t=c::t:=by simp
       rw[e] at hl
       exact hl
      refine⟨hdN (c::t)++T,N2++N',i1,by rw[i2];simp,hrd,fun q b hq=>?_⟩
      rcases List.mem_append.1 hq with hq | hq
      ·obtain⟨rfl,rfl,h⟩:=hN2len q b hq
       exact⟨S.length,_,rfl,h,hrd.up (by rw[hS];simp)⟩
      ·exact i4 q b hq
theorem Xg {n:List UInt8}:mayV n=true↔Uj n=true∧n.length≤255∧Z0f n:=by
 unfold mayV Z0f
 rw[Z0w]
 simp
theorem U0z {n S:List UInt8} {L:Z6} (hm:mayV n=true) (hP:PI S L) :
    ∃ T N',(V2 n S L).1=S++T∧(V2 n S L).2=L++N'∧PI (S++T) (L++N')∧Rd (S++T) S.length S.length n (S++T).length:=by
 obtain⟨h1,h2,h3⟩:=Xg.1 hm
 obtain⟨T,N',a1,a2,a3,a4⟩:=Q42 _ n S L [] S [] rfl h1 h3 hP (by simp) (fun q b h=>by simp at h)
 rw[List.append_nil] at a1 a2
 refine⟨T,N',a1,a2,fun q b hq=>?_,a3⟩
 rcases List.mem_append.1 hq with hq | hq
 ·exact hP.mono T q b hq
 ·exact a4 q b hq
theorem Z4m {n:List UInt8} (hr:Uj n=true) (h:n≠[0]):3≤n.length:=by
 rcases Jn hr with rfl | ⟨_,_,hlt,_,hne,_⟩
 ·exact absurd rfl h
 ·omega
theorem Q2z:∀ (m:Nat) (n S:List UInt8) (L:Z6),n.length=m→S.length≤(U3 n S L).2.2.1.length:=by
 intro m
 induction m using Nat.strongRecOn with
 | _ m ih=>
   intro n S L hm
   by_cases h0:n=[0]
   ·rw[h0,Jl];exact Nat.le_refl _
   ·cases hlk:Z9 n L with
    | some a=>rw[Xh h0 hlk];exact Nat.le_refl _
    | none=>
      by_cases h1:n=[]
      ·rw[U3,if_neg h0];simp only[hlk,dif_pos h1];exact Nat.le_refl _
      ·rw[Ud h0 h1 hlk]
       have:=ih (tlN n).length (by have:=U0g h1;omega) (tlN n) (S++hdN n) (if S.length < 16384 then L++[(n,(S.length:Int))] else L) rfl
       rw[List.length_append] at this
       omega
theorem Z0m:∀ (m:Nat) (n S:List UInt8) (L:Z6),n.length=m→Uj n=true→(V2 n S L).1.length≤S.length+n.length∧S.length+1≤(V2 n S L).1.length∧(V2 n S L).2.length≤L.length+n.length:=by
 intro m n S L hm hr
 obtain⟨f1,f2,f3,f4,f5,f6⟩:=U06 _ n S L rfl hr
 have f7:=Q2z _ n S L rfl
 unfold V2
 rw[List.length_append]
 cases h:(U3 n S L).1 with
 | none=>
   have:=f1 h
   rw[this] at f3
   simp only[endN,List.length_cons,List.length_nil] at f3 ⊢
   omega
 | some a=>
   have hne:(U3 n S L).2.1.length≥3:=by
    have:∀ (m:Nat) (n S:List UInt8) (L:Z6),n.length=m→Uj n=true→∀ a,(U3 n S L).1=some a→3≤(U3 n S L).2.1.length:=by
     intro m
     induction m using Nat.strongRecOn with
     | _ m ih=>
       intro n S L hm hr a ha
       rcases Jn hr with rfl | ⟨hn0,hn1,hlt,h63,hne,hrt⟩
       ·rw[Jl] at ha;cases ha
       ·cases hlk:Z9 n L with
        | some a'=>rw[Xh hn0 hlk];exact Z4m hr hn0
        | none=>
          rw[Ud hn0 hn1 hlk] at ha ⊢
          exact ih (tlN n).length (by have:=U0g hn1;omega) _ _ _ rfl hrt a ha
    exact this _ n S L rfl hr a h
   simp only[endN,X9]
   omega
def LP (out:List UInt8):Prop:=Z0f out∧∀ r,(V9 (out++r)).2=(V9 r).2
theorem Z5s:LP []:=⟨rfl,fun r=>rfl⟩
theorem LP_on {out v:List UInt8} {c:UInt8} (h:LP out) (h0:c.toNat≠0) (h63:c.toNat≤63) (hv:v.length=c.toNat):LP (out++c::J5 v):=by
 refine⟨J18.2 ⟨h.1,?_⟩,fun r=>?_⟩
 ·unfold Z0f
  rw[X2x,J30 h63,Q31]
 ·rw[List.append_assoc,h.2,List.cons_append,V9,if_neg (by simp[Qg,hv];omega)]
  simp only
  rw[List.drop_append_of_le_length (by simp[Qg,hv]),List.drop_eq_nil_of_le (by simp[Qg,hv])]
  rfl
theorem X3n {s:List UInt8}:∀ (m:Nat) (at_ from_ b:Int) (out n:List UInt8) (next:Int),msT s at_ from_=m→LP out→V6 s at_ from_ b out=some (n,next)→
    mayV n=true∧(0≤b→next=b)∧(b < 0→at_ < next∧next≤s.length)∧0≤at_:=by
 intro m
 induction m using Nat.strongRecOn with
 | _ m ih=>
   intro at_ from_ b out n next hm hL h
   cases h1:Z3 s at_ 1 with
   | false=>rw[Z1a h1] at h;cases h
   | true=>
     have hs1:=Xa.1 h1
     by_cases h192:192≤szT s at_
     ·by_cases h3:Z3 s at_ 2=true∧toT s at_ < from_
      ·rw[Q0l h1 h192 h3.1 h3.2] at h
       have hto:=X2d s at_
       obtain⟨a1,a2,a3,a4⟩:=ih (msT s (toT s at_) (toT s at_)) (by have:=X16 (s:=s) (at_:=at_) hto.1 h3.2;omega) _ _ _ _ _ _ rfl hL h
       have hs2:=Xa.1 h3.1
       refine⟨a1,fun hb=>?_,fun hb=>?_,hs1.1⟩
       ·rw[if_neg (by omega)] at a2
        exact a2 hb
       ·rw[if_pos hb] at a2
        have:=a2 (by omega)
        omega
      ·rw[Q16 h1 h192 h3] at h;cases h
     ·by_cases h63:63 < szT s at_
      ·rw[Z15 h1 h192 h63] at h;cases h
      ·by_cases h4:Z3 s (at_+1) (szT s at_)=true∧out.length+1+szT s at_≤255
       ·have hs4:=Xa.1 h4.1
        have hvl:(U2 s (at_+1) (szT s at_:Int)).length=szT s at_:=by rw[U15 h4.1];omega
        by_cases h0:szT s at_=0
        ·rw[U0m h1 h0 (by omega)] at h
         cases h
         refine⟨Xg.2 ⟨?_,by simp;omega,J18.2 ⟨hL.1,by unfold Z0f;decide⟩⟩,fun hb=>by rw[if_neg (by omega)],fun hb=>by rw[if_pos hb];omega,hs1.1⟩
         unfold Uj
         rw[hL.2,V9,if_pos (by decide)]
         rfl
        ·rw[J0w h1 (by omega) h0 h4.1 h4.2] at h
         have hg:(s.getD at_.toNat 0).toNat=szT s at_:=rfl
         obtain⟨a1,a2,a3,a4⟩:=ih (msT s (at_+1+szT s at_) from_) (by have:=U2x (s:=s) (from_:=from_) hs1.1 hs4.2.2;omega) _ _ _ _ _ _ rfl (LP_on hL (by rw[hg];exact h0) (by rw[hg];omega) (by rw[hg];exact hvl)) h
         refine⟨a1,a2,fun hb=>?_,hs1.1⟩
         have:=a3 hb
         omega
       ·rw[X04 h1 (by omega) h4] at h;cases h
def nmC (n:List UInt8) (b:List Int) (l:Z6):Bool:=Uj n&&(Q7 b&&(kOk l&&Nat.ble (b.length+n.length) 1000000000000))
noncomputable def b123:Code:=(X5 c123 0)
def J49:LoopSpec:={ bid:=0,sh:=[.ptr 0 0,.d .str false],so:=[.box [.row 1,.mp 2],.row (.int .u8),.map .str (.int .i64)],F:=fun(n,_) (_,b,l,_)=>.on2 (nmC n b l) ((U3 n (X0 b) l).1.isSome) (.ret,[.ptr 0 0,.str (U3 n (X0 b) l).2.1,.int .i64 0],[.box [.rowA 1,.mp 2],.row (.int .u8) (Z0 ((U3 n (X0 b) l).2.2.1++Q0 (49152+(U3 n (X0 b) l).1.getD 0))),.mpo .str (.int .i64) (U3 n (X0 b) l).2.2.2]) (.exit 0,[.ptr 0 0,.str (U3 n (X0 b) l).2.1,.dead],[.box [.rowA 1,.mp 2],.row (.int .u8) (Z0 (U3 n (X0 b) l).2.2.1),.mpo .str (.int .i64) (U3 n (X0 b) l).2.2.2]) }
def r123 (n:List UInt8) (b:List Int) (l:List (List UInt8×Int)):Tr (St⊕(Ex×St)):=.br (!n==[0]) (.br (hasM Ty.str (Ty.int .i64) n l) (.br (n16C (IntKind.wrap .u16 (IntKind.wrap .i64 (↑(BitVec.toNat (BitVec.ofInt (IntKind.bits IntKind.i64) 49152 ||| BitVec.ofInt (IntKind.bits IntKind.i64) (getM Ty.str (Ty.int .i64) n l))):Int)))) (.br (fits (List.length b+List.length (Z0 (Q0 (IntKind.wrap .u16 (IntKind.wrap .i64 (↑(BitVec.toNat (BitVec.ofInt (IntKind.bits IntKind.i64) 49152 ||| BitVec.ofInt (IntKind.bits IntKind.i64) (getM Ty.str (Ty.int .i64) n l))):Int)))))) 1) (.ret (.inr (.ret,stOf [0,1,4] [.ptr 0 0,.str n,.int .i64 0] [.boxT none [.rowA 1,.mp 2],.row (.int .u8) (b++Z0 (Q0 (IntKind.wrap .u16 (IntKind.wrap .i64 (↑(BitVec.toNat (BitVec.ofInt (IntKind.bits IntKind.i64) 49152 ||| BitVec.ofInt (IntKind.bits IntKind.i64) (getM Ty.str (Ty.int .i64) n l))):Int))))),.mpo .str (.int .i64) l]))) .no) .no) (.br (decide ((↑b.length:Int) < 16384)) (.br (decide (0 < (↑n.length:Int))) (.br (decide (0≤IntKind.wrap .i64 (1+IntKind.wrap .i64 (↑(UInt8.toNat (n.getD (Int.toNat 0) 0)):Int)))&&decide (IntKind.wrap .i64 (1+IntKind.wrap .i64 (↑(UInt8.toNat (n.getD (Int.toNat 0) 0)):Int))≤(↑n.length:Int))) (.br (decide (0≤0)&&decide (0≤IntKind.wrap .i64 (1+IntKind.wrap .i64 (↑(UInt8.toNat (n.getD (Int.toNat 0) 0)):Int)))) (.br (fits (List.length b+List.length (Z0 (List.take (Int.toNat (IntKind.wrap .i64 (1+IntKind.wrap .i64 (↑(UInt8.toNat (n.getD (Int.toNat 0) 0)):Int))) - Int.toNat 0) (List.drop (Int.toNat 0) n)))) 1) (.br (decide (0≤(↑n.length:Int))&&decide ((↑n.length:Int)≤(↑n.length:Int))) (.br (decide (0≤IntKind.wrap .i64 (1+IntKind.wrap .i64 (↑(UInt8.toNat (n.getD (Int.toNat 0) 0)):Int)))&&decide (IntKind.wrap .i64 (1+IntKind.wrap .i64 (↑(UInt8.toNat (n.getD (Int.toNat 0) 0)):Int))≤(↑n.length:Int))) (.ret (.inl (stOf [0,1] [.ptr 0 0,.str (List.take (Int.toNat (↑n.length:Int) - Int.toNat (IntKind.wrap .i64 (1+IntKind.wrap .i64 (↑(UInt8.toNat (n.getD (Int.toNat 0) 0)):Int)))) (List.drop (Int.toNat (IntKind.wrap .i64 (1+IntKind.wrap .i64 (↑(UInt8.toNat (n.getD (Int.toNat 0) 0)):Int)))) n))] [.boxT none [.rowA 1,.mp 2],.row (.int .u8) (b++Z0 (List.take (Int.toNat (IntKind.wrap .i64 (1+IntKind.wrap .i64 (↑(UInt8.toNat (n.getD (Int.toNat 0) 0)):Int))) - Int.toNat 0) (List.drop (Int.toNat 0) n))),.mpo .str (.int .i64) (putM Ty.str (Ty.int .i64) n (↑b.length:Int) l)]))) .no) .no) .no) .no) .no) .no) (.br (decide (0 < (↑n.length:Int))) (.br (decide (0≤IntKind.wrap .i64 (1+IntKind.wrap .i64 (↑(UInt8.toNat (n.getD (Int.toNat 0) 0)):Int)))&&decide (IntKind.wrap .i64 (1+IntKind.wrap .i64 (↑(UInt8.toNat (n.getD (Int.toNat 0) 0)):Int))≤(↑n.length:Int))) (.br (decide (0≤0)&&decide (0≤IntKind.wrap .i64 (1+IntKind.wrap .i64 (↑(UInt8.toNat (n.getD (Int.toNat 0) 0)):Int)))) (.br (fits (List.length b+List.length (Z0 (List.take (Int.toNat (IntKind.wrap .i64 (1+IntKind.wrap .i64 (↑(UInt8.toNat (n.getD (Int.toNat 0) 0)):Int))) - Int.toNat 0) (List.drop (Int.toNat 0) n)))) 1) (.br (decide (0≤(↑n.length:Int))&&decide ((↑n.length:Int)≤(↑n.length:Int))) (.br (decide (0≤IntKind.wrap .i64 (1+IntKind.wrap .i64 (↑(UInt8.toNat (n.getD (Int.toNat 0) 0)):Int)))&&decide (IntKind.wrap .i64 (1+IntKind.wrap .i64 (↑(UInt8.toNat (n.getD (Int.toNat 0) 0)):Int))≤(↑n.length:Int))) (.ret (.inl (stOf [0,1] [.ptr 0 0,.str (List.take (Int.toNat (↑n.length:Int) - Int.toNat (IntKind.wrap .i64 (1+IntKind.wrap .i64 (↑(UInt8.toNat (n.getD (Int.toNat 0) 0)):Int)))) (List.drop (Int.toNat (IntKind.wrap .i64 (1+IntKind.wrap .i64 (↑(UInt8.toNat (n.getD (Int.toNat 0) 0)):Int)))) n))] [.boxT none [.rowA 1,.mp 2],.row (.int .u8) (b++Z0 (List.take (Int.toNat (IntKind.wrap .i64 (1+IntKind.wrap .i64 (↑(UInt8.toNat (n.getD (Int.toNat 0) 0)):Int))) - Int.toNat 0) (List.drop (Int.toNat 0) n))),.mpo .str (.int .i64) l]))) .no) .no) .no) .no) .no) .no))) (.ret (.inr (.exit 0,stOf [0,1,4] [.ptr 0 0,.str n,.dead] [.boxT none [.rowA 1,.mp 2],.row (.int .u8) b,.mpo .str (.int .i64) l])))
theorem V45 (lp:Lp) (n:List UInt8) (b:List Int) (l:List (List UInt8×Int)):evC T0 (orcB [Vp,Z0p] [os98]) lp b123 0 (stOf [0,1] [.ptr 0 0,.str n] [.box [.rowA 1,.mp 2],.row (.int .u8) b,.mpo .str (.int .i64) l]) (V1 [0,1] [0,1,4] 3)=(r123 n b l).get:=by kernel_rfl
theorem wf123 (I'':List UInt8→List Int→List (List UInt8×Int)→Prop) (m'':List UInt8→List Int→List (List UInt8×Int)→Nat) (r'':Ex×St) (h:∀ (n:List UInt8) (b:List Int) (l:List (List UInt8×Int)),I'' n b l→(r123 n b l).all fun x''=>x''=.inr r''∨∃ (n':List UInt8) (b':List Int) (l':List (List UInt8×Int)),x''=.inl (stOf [0,1] [.ptr 0 0,.str n'] [.box [.rowA 1,.mp 2],.row (.int .u8) b',.mpo .str (.int .i64) l'])∧I'' n' b' l'∧m'' n' b' l' < m'' n b l) (lp:Lp) (n:List UInt8) (b:List Int) (l:List (List UInt8×Int)):I'' n b l→
    Z4 (fun st=>evC T0 (orcB [Vp,Z0p] [os98]) lp b123 0 st (V1 [0,1] [0,1,4] 3)) (stOf [0,1] [.ptr 0 0,.str n] [.box [.rowA 1,.mp 2],.row (.int .u8) b,.mpo .str (.int .i64) l])=some r'':=
 Q5 (fun a'':List UInt8×List Int×List (List UInt8×Int)=>stOf [0,1] [.ptr 0 0,.str a''.1] [.box [.rowA 1,.mp 2],.row (.int .u8) a''.2.1,.mpo .str (.int .i64) a''.2.2]) (fun a''=>I'' a''.1 a''.2.1 a''.2.2) (fun a''=>m'' a''.1 a''.2.1 a''.2.2) r'' (fun a''=>r123 a''.1 a''.2.1 a''.2.2)
  (fun a'' x hx=>(V45 lp a''.1 a''.2.1 a''.2.2).trans hx) (fun a'' ha=>Tr.all_mono (fun x'' hx=>hx.imp id fun⟨n',b',l',h1,h2,h3⟩=>⟨(n',b',l'),h1,h2,h3⟩) (h (a''.1) (a''.2.1) (a''.2.2) ha)) (n,b,l)
def nmI (n0:List UInt8) (b0:List Int) (l0:Z6) (n:List UInt8) (b:List Int) (l:Z6):Prop:=Uj n=true∧Q7 b=true∧kOk l=true∧b.length+n.length≤1000000000000∧U3 n (X0 b) l=U3 n0 (X0 b0) l0
theorem Z4w:J49.Ok T0 (orcB [Vp,Z0p] [os98]) h123 3 0 b123:=by
 intro q'' hq'' x'' y'' r'' h
 obtain⟨(n:List UInt8),_⟩:=x''
 obtain⟨_,(b:List Int),(l:List (List UInt8×Int)),_⟩:=y''
 obtain⟨hc,rfl⟩:=Tr.get_on2 h
 show Z4 (fun st=>evC T0 (orcB [Vp,Z0p] [os98]) (lpN T0 (orcB [Vp,Z0p] [os98]) h123 3 q'') b123 0 st (V1 [0,1] [0,1,4] 3)) (stOf [0,1] [.ptr 0 0,.str n] [.box [.rowA 1,.mp 2],.row (.int .u8) b,.mpo .str (.int .i64) l])=some ((bif (U3 n (X0 b) l).1.isSome then (.ret,[.ptr 0 0,.str (U3 n (X0 b) l).2.1,.int .i64 0],[.box [.rowA 1,.mp 2],.row (.int .u8) (Z0 ((U3 n (X0 b) l).2.2.1++Q0 (49152+(U3 n (X0 b) l).1.getD 0))),.mpo .str (.int .i64) (U3 n (X0 b) l).2.2.2]) else (.exit 0,[.ptr 0 0,.str (U3 n (X0 b) l).2.1,.dead],[.box [.rowA 1,.mp 2],.row (.int .u8) (Z0 (U3 n (X0 b) l).2.2.1),.mpo .str (.int .i64) (U3 n (X0 b) l).2.2.2]):Ex×List AV×List LObj).1,stOf [0,1,4] (bif (U3 n (X0 b) l).1.isSome then (.ret,[.ptr 0 0,.str (U3 n (X0 b) l).2.1,.int .i64 0],[.box [.rowA 1,.mp 2],.row (.int .u8) (Z0 ((U3 n (X0 b) l).2.2.1++Q0 (49152+(U3 n (X0 b) l).1.getD 0))),.mpo .str (.int .i64) (U3 n (X0 b) l).2.2.2]) else (.exit 0,[.ptr 0 0,.str (U3 n (X0 b) l).2.1,.dead],[.box [.rowA 1,.mp 2],.row (.int .u8) (Z0 (U3 n (X0 b) l).2.2.1),.mpo .str (.int .i64) (U3 n (X0 b) l).2.2.2]):Ex×List AV×List LObj).2.1 (bif (U3 n (X0 b) l).1.isSome then (.ret,[.ptr 0 0,.str (U3 n (X0 b) l).2.1,.int .i64 0],[.box [.rowA 1,.mp 2],.row (.int .u8) (Z0 ((U3 n (X0 b) l).2.2.1++Q0 (49152+(U3 n (X0 b) l).1.getD 0))),.mpo .str (.int .i64) (U3 n (X0 b) l).2.2.2]) else (.exit 0,[.ptr 0 0,.str (U3 n (X0 b) l).2.1,.dead],[.box [.rowA 1,.mp 2],.row (.int .u8) (Z0 (U3 n (X0 b) l).2.2.1),.mpo .str (.int .i64) (U3 n (X0 b) l).2.2.2]):Ex×List AV×List LObj).2.2)
 simp only[nmC,Bool.and_eq_true] at hc
 obtain⟨hr,hok,hk,hb⟩:=hc
 have hb:=Nat.le_of_ble_eq_true hb
 refine wf123 (nmI n b l) (fun n _ _=>n.length) _ ?_ _ n b l ⟨hr,hok,hk,hb,rfl⟩
 clear hr hok hk hb
 rename_i n0 b0 l0
 rintro n b l ⟨hr,hok,hk,hb,he⟩
 rw[←he]
 unfold r123
 have hbS:Z0 (X0 b)=b:=V0e hok
 have hSl:(X0 b).length=b.length:=Qj b
 rcases Jn hr with rfl | ⟨hn0,hn1,hlt,h63,hne,hrt⟩
 ·rw[Jl]
  refine Tr.all_f (by simp) (Tr.all_ret (.inl ?_))
  simp only[Option.isSome_none,cond_false,hbS]
 ·refine Tr.all_t (by simpa using hn0) ?_
  cases hlk:Z9 n l with
  | some a=>
    obtain⟨ha0,ha1⟩:=J2u hk hlk
    rw[Xh hn0 hlk]
    rw[U3k hlk]
    simp only[U5o ha0 ha1]
    refine Tr.all_t (by rw[J27,hlk];rfl) (Tr.all_t (by simp[n16C];omega) (Tr.all_t (U7 (by simp[J4,X9];omega) (by simp[J4,X9];omega)) (Tr.all_ret (.inl ?_))))
    simp only[Option.isSome_some,cond_true,Ve,hbS,Option.getD_some]
  | none=>
    rw[Ud hn0 hn1 hlk]
    rw[U3u hlk]
    simp only[szW,hdW,tlW]
    have hfit:fits (List.length b+List.length (Z0 (hdN n))) 1=true:=U7 (by rw[J4,Q0z (by omega)];omega) (by rw[J4,Q0z (by omega)];omega)
    have hnew:Q7 (b++Z0 (hdN n))=true:=Xy hok (Zf _)
    have hlen:(b++Z0 (hdN n)).length+(tlN n).length≤1000000000000:=by
     rw[List.length_append,J4,Q0z (by omega),X1e];omega
    have hS2:X0 (b++Z0 (hdN n))=X0 b++hdN n:=by rw[U0h,Xn]
    have hm:(tlN n).length < n.length:=U0g hn1
    refine Tr.all_f (by rw[J27,hlk];rfl) (Tr.all_br (fun c1=>?_) fun c1=>?_)
    ·simp only[decide_eq_true_eq] at c1
     refine Tr.all_t (J0 (by omega)) (Tr.all_t (by rw[J0 (by omega),J0 (by omega)];rfl) (Tr.all_t (by rw[J0 (by omega),J0 (by omega)];rfl) (Tr.all_t hfit (Tr.all_t (by rw[J0 (by omega),J0 (by omega)];rfl) (Tr.all_t (by rw[J0 (by omega),J0 (by omega)];rfl) (Tr.all_ret (.inr ⟨_,_,_,rfl,⟨hrt,hnew,Z2i hk (by omega),hlen,?_⟩,hm⟩)))))))
     rw[hS2,←he,Ud hn0 hn1 hlk,if_pos (by omega),hSl]
    ·simp only[decide_eq_false_iff_not] at c1
     refine Tr.all_t (J0 (by omega)) (Tr.all_t (by rw[J0 (by omega),J0 (by omega)];rfl) (Tr.all_t (by rw[J0 (by omega),J0 (by omega)];rfl) (Tr.all_t hfit (Tr.all_t (by rw[J0 (by omega),J0 (by omega)];rfl) (Tr.all_t (by rw[J0 (by omega),J0 (by omega)];rfl) (Tr.all_ret (.inr ⟨_,_,_,rfl,⟨hrt,hnew,hk,hlen,?_⟩,hm⟩)))))))
     rw[hS2,←he,Ud hn0 hn1 hlk,if_neg (by omega)]
def t123 (n:List UInt8) (b:List Int) (l:List (List UInt8×Int)):Tr Res:=.br (bigS n) (.br (!mayV n) (.ret ([.int .i64 1],[.boxT none [.rowA 1,.mp 2],.row (.int .u8) b,.mpo .str (.int .i64) l])) (.br (nmC n b l) (.br (Option.isSome (U3 n (X0 b) l).1) (.ret ([.int .i64 0],[.boxT none [.rowA 1,.mp 2],.row (.int .u8) (Z0 ((U3 n (X0 b) l).2.2.1++Q0 (49152+Option.getD (U3 n (X0 b) l).1 0))),.mpo .str (.int .i64) (U3 n (X0 b) l).2.2.2])) (.br (fits (List.length (Z0 (U3 n (X0 b) l).2.2.1)+List.length (Z0 (U3 n (X0 b) l).2.1)) 1) (.ret ([.int .i64 0],[.boxT none [.rowA 1,.mp 2],.row (.int .u8) (Z0 (U3 n (X0 b) l).2.2.1++Z0 (U3 n (X0 b) l).2.1),.mpo .str (.int .i64) (U3 n (X0 b) l).2.2.2])) .no)) .no)) .no
def Z5m:OSpec:={ f:=123,sh:=[.ptr 0 0,.d .str false],so:=[.box [.row 1,.mp 2],.row (.int .u8),.map .str (.int .i64)],F:=fun(n,_) (_,b,l,_)=>t123 n b l }
theorem fn123 (n:List UInt8) (b:List Int) (l:List (List UInt8×Int)):evC T0 (orcB [Vp,Z0p] [os98]) (lpOf h123 3 (lsOf [J49])) c123 1000000 (J2 [.ptr 0 0,.str n] [.box [.rowA 1,.mp 2],.row (.int .u8) b,.mpo .str (.int .i64) l] Try.f123.ntmps) (Z1 T0 false 3 Try.f123)=(t123 n b l).get:=by kernel_rfl
theorem ok123:Z5m.Ok Try.prog:=by
 refine U4 J3 tab0 (U0 (all_cons X15 (all_cons U2i all_nil)) (all_cons ok98 all_nil)) h123 (d:=0) (n0:=3) (S:=lsOf [J49]) Try.func123 (by kernel_rfl) (c:=c123) (by kernel_rfl) rfl (U5 (xs:=[(0,b123)]) (by kernel_rfl) (all_cons (U6 Z4w) all_nil)) (by omega) (by kernel_rfl) ?_
 intro x'' y'' q'' hq''
 obtain⟨(n:List UInt8),_⟩:=x''
 obtain⟨_,(b:List Int),(l:List (List UInt8×Int)),_⟩:=y''
 exact(fn123 n b l).trans hq''
abbrev pkO (b:List Int) (l:Z6):List LObj:=[.box [.rowA 1,.mp 2],.row (.int .u8) b,.mpo .str (.int .i64) l]
def pkC (b:List Int) (l:Z6):Bool:=Q7 b&&(kOk l&&Nat.ble b.length 100000000000)
def Q0c:OSpec:=Z5m.like fun(n,_) (_,b,l,_)=>.br (pkC b l&&Nat.ble n.length 100000000000) (.br (mayV n) (.ret ([.int .i64 0],pkO (Z0 (V2 n (X0 b) l).1) (V2 n (X0 b) l).2)) (.ret ([.int .i64 1],pkO b l))) .no
theorem X33:Q0c.Ok Try.prog:=by
 refine Qe ok123 _ ?_
 rintro⟨(n:List UInt8),_⟩ ⟨_,(b:List Int),(l:Z6),_⟩ r h
 simp only[Tr.get] at h
 cases hc:(pkC b l&&Nat.ble n.length 100000000000) with
 | false=>rw[hc] at h;cases h
 | true=>
   rw[hc,cond_true] at h
   simp only[pkC,Bool.and_eq_true] at hc
   obtain⟨⟨hok,hk,hb⟩,hn⟩:=hc
   have hb:=Nat.le_of_ble_eq_true hb
   have hn:=Nat.le_of_ble_eq_true hn
   refine Tr.get_of_all ?_
   show (t123 n b l).all _
   have hbig:bigS n=true:=by simp[bigS];omega
   cases hm:mayV n with
   | false=>
     rw[hm,cond_false] at h
     cases h
     unfold t123
     rw[hm]
     exact Tr.all_t hbig (Tr.all_t rfl (Tr.all_ret rfl))
   | true=>
     rw[hm,cond_true] at h
     cases h
     unfold t123
     rw[hm]
     have hr:Uj n=true:=by simp only[mayV,Bool.and_eq_true] at hm;exact hm.1
     obtain⟨f1,f2,f3,f4,f5,f6⟩:=U06 _ n (X0 b) l rfl hr
     rw[Qj] at f3
     refine Tr.all_t hbig (Tr.all_f rfl (Tr.all_t (by simp only[nmC,hr,hok,hk,Bool.true_and];exact Nat.ble_eq_true_of_le (by omega)) ?_))
     unfold V2
     cases hf:(U3 n (X0 b) l).1 with
     | some a=>
       refine Tr.all_t rfl (Tr.all_ret ?_)
       rfl
     | none=>
       rw[f1 hf] at f3
       refine Tr.all_f rfl (Tr.all_t (U7 (by rw[J4,J4,f1 hf];simp at f3 ⊢;omega) (by rw[J4,J4,f1 hf];simp at f3 ⊢;omega)) (Tr.all_ret ?_))
       rw[f1 hf,←Ve]
       rfl
abbrev PKt:=List UInt8×Z6
def stN (p:PKt) (x:List UInt8×Bool):PKt:=bif mayV x.1 then V2 x.1 p.1 p.2 else p
theorem Xp {α:Type} {l:List α} {i:Int} (d:α) (h0:0≤i) (h:i < l.length):l.drop i.toNat=l.getD i.toNat d::l.drop (i+1).toNat∧l.getD i.toNat d∈l:=by
 have hk:i.toNat < l.length:=by omega
 rw[List.getD_eq_getElem?_getD,List.getElem?_eq_getElem hk,show (i+1).toNat=i.toNat+1 by omega]
 exact⟨List.drop_eq_getElem_cons hk,List.getElem_mem hk⟩
def layV (k:Int):List Int:=if k=1 then [4] else if k=28 then [16] else if k=2∨k=5∨k=12 then [-1] else if k=15 then [2,-1] else if k=6 then [-1,-1,20] else if k=16 then [-2] else [-3]
def whAt (s:List UInt8) (k:Nat):Nat:=if h:k < s.length∧0 < byN s k then whAt s (k+1+byN s k) else k
termination_by s.length - k
def V0 (s:List UInt8):Nat:=if whAt s 0 < s.length∧mayV (s.take (whAt s 0+1))=true then whAt s 0+1 else 0
theorem Zs (s:List UInt8):V0 s≤s.length:=by
 unfold V0
 split<;>omega
def txAt (s:List UInt8) (k:Nat):Nat:=if h:k < s.length then txAt s (k+1+byN s k) else k
termination_by s.length - k
def Xs (s:List UInt8):Bool:=!s.isEmpty&&decide (txAt s 0=s.length)
def szP (p:Int) (d:List UInt8):Int:=if p=-1 then (V0 d:Int) else if p=-2∧Xs d=true∨p=-3 then (d.length:Int) else p
def okP (p:Int) (d:List UInt8):Bool:=decide (0≤szP p d)&&(decide (szP p d≤(d.length:Int))&&!(decide (p=-1)&&decide (szP p d=0)))
def cutS:List Int→List UInt8→List (List UInt8)→Bool×(List UInt8×List (List UInt8))
 | [],d,out=>(true,d,out)
 | p::ps,d,out=>if okP p d=true then cutS ps (d.drop (szP p d).toNat) (out++[d.take (szP p d).toNat]) else (false,d,out)
def noS (l:List (List UInt8)):Bool:=l.isEmpty
def cutC (d:List UInt8) (ps:List Int) (n i:Int) (l:List (List UInt8)):Bool:=bigS d&&(decide (n=ps.length)&&(decide (i=0)&&(noS l&&decide (ps.length≤10))))
def okV (k:Int) (d:List UInt8):Bool:=(cutS (layV k) d []).1
def X25 (k:Int) (d:List UInt8):List UInt8:=(cutS (layV k) d []).2.1
def Vb (k:Int) (d:List UInt8):List (List UInt8):=(cutS (layV k) d []).2.2
def mayR (k:Int) (d:List UInt8):Bool:=(okV k d&&(X25 k d).isEmpty)&&Nat.ble d.length 65535
def putS:List Int→List (List UInt8)→PKt→PKt
 | [],_,p=>p
 | x::ps,ls,p=>putS ps ls.tail (bif x == -1 then stN p (ls.headD [],false) else (p.1++ls.headD [],p.2))
def putC (ls:List (List UInt8)) (ps:List Int) (n i:Int) (b:List Int) (m:Z6):Bool:=(Q7 b&&(kOk m&&Nat.ble b.length 1000000000))&&(decide (n=ps.length)&&(decide (i=0)&&(decide (ls.length=ps.length)&&(decide (ps.length≤10)&&ls.all fun x=>decide (x.length≤1000000)))))
def X7:List Int→List UInt8→Int→Int→List UInt8→Bool×(Int×List UInt8)
 | [],_,a,_,d=>(true,a,d)
 | x::ps,s,a,e,d=>
   if x=-1 then
    (match V6 s a a (-1) [] with
    | none=>(false,a,d)
    | some (n,next)=>if next > e then (false,a,d) else X7 ps s next e (d++n))
   else
    (if Z3 s a (if x=-2∨x=-3 then e - a else x)=true∧a+(if x=-2∨x=-3 then e - a else x)≤e then X7 ps s (a+(if x=-2∨x=-3 then e - a else x)) e (d++U2 s a (if x=-2∨x=-3 then e - a else x)) else (false,a,d))
def noT (d:List UInt8):Bool:=d.isEmpty
def smS (s:List UInt8):Bool:=decide (s.length≤100000000)
def J2o (s:List UInt8) (a e:Int) (d:List UInt8) (ps:List Int) (n i:Int):Bool:=smS s&&(decide (n=ps.length)&&(decide (i=0)&&(decide (0≤a)&&(decide (a≤e)&&(decide (e≤s.length)&&(noT d&&decide (ps.length≤10)))))))
def pkT (b:List Int) (m:Z6):Bool:=Q7 b&&(kOk m&&Nat.ble b.length 1000000000)
def putR (k:Int) (d:List UInt8) (p:PKt):PKt:=putS (layV k) (Vb k d) p
def U00 (s:List UInt8) (a n k:Int):Option (List UInt8):=if Z3 s a n=true then (if (X7 (layV k) s a (a+n) []).1=true∧(X7 (layV k) s a (a+n) []).2.1=a+n∧mayR k (X7 (layV k) s a (a+n) []).2.2=true then some (X7 (layV k) s a (a+n) []).2.2 else none) else none
theorem U3v {p:PKt} {x:List UInt8×Bool} (h:kOk p.2=true):kOk (stN p x).2=true∧(stN p x).1.length≤p.1.length+x.1.length:=by
 unfold stN
 cases hm:mayV x.1 with
 | false=>exact⟨h,by simp⟩
 | true=>
   obtain⟨_,_,_,f4,_⟩:=U06 _ x.1 p.1 p.2 rfl (Xg.1 hm).1
   obtain⟨l1,_⟩:=Z0m _ x.1 p.1 p.2 rfl (Xg.1 hm).1
   exact⟨f4 h,l1⟩
theorem X0i {s:List UInt8} {a:Int} {n:List UInt8} {next:Int} (h0:0≤a) (h:V6 s a a (-1) []=some (n,next)):mayV n=true∧a < next∧next≤s.length:=by
 obtain⟨a1,_,a3,_⟩:=X3n _ a a (-1) [] n next rfl Z5s h
 exact⟨a1,a3 (by omega)⟩
theorem V43 {α:Type} {F:St→Option (St⊕(Ex×St))} (mk:α→St) (I:α→Prop) (m:α→Nat) (r:Ex×St) (t:α→Tr (St⊕(Ex×St))) (hF:∀ a x,(t a).get=some x→F (mk a)=some x)
    (h:∀ a,I a→(t a).all fun x=>x=.inr r∨(∃ a',x=.inl (mk a')∧I a'∧m a' < m a)∨∃ st',x=.inl st'∧Z4 F st'=some r):∀ a,I a→Z4 F (mk a)=some r:=by
 have key:∀ (n:Nat) (a:α),m a=n→I a→Z4 F (mk a)=some r:=by
  intro n
  induction n using Nat.strongRecOn with
  | _ n ih=>
    intro a hn ha
    obtain⟨x,h1,h2⟩:=Tr.all_get (h a ha)
    rcases h2 with rfl | ⟨a',rfl,ha',hlt⟩ | ⟨st',rfl,h3⟩
    ·exact V25 (hF a _ h1)
    ·rw[Z19 (hF a _ h1)]
     exact ih (m a') (by omega) a' rfl ha'
    ·rw[Z19 (hF a _ h1)]
     exact h3
 exact fun a ha=>key _ a rfl ha
def tkC (s:List UInt8) (b:List Int):Bool:=bigS s&&(Q7 b&&Nat.ble b.length 255)
def tkI (s:List UInt8) (a0 f0 h0:Int) (b0:List Int) (at_ from_ behind:Int) (b:List Int):Prop:=Q7 b=true∧b.length≤255∧V6 s at_ from_ behind (X0 b)=V6 s a0 f0 h0 (X0 b0)
noncomputable def U3e:Code:=(X5 c114 0)
def Z5t:LoopSpec:={ bid:=0,sh:=[.d .str false,.d (.int .i64) false,.ptr 0 0,.d (.int .i64) false,.d (.int .i64) false],so:=[.tbox 203 [.ptr 0 0,.row 1],.row (.int .u8)],F:=fun(s,at_,from_,behind,_) (_,b,_)=>.on (tkC s b) (.ret,[.str (tkS (V6 s at_ from_ behind (X0 b))),.int .i64 (tkN (V6 s at_ from_ behind (X0 b))),.int .i64 (tkE (V6 s at_ from_ behind (X0 b)))],[]) }
def U3a (s:List UInt8) (at_ from_ behind:Int) (b:List Int):Tr (St⊕(Ex×St)):=.br (bigS s) (.br (Z3 s at_ 1) (.br (decide ((↑(UInt8.toNat (s.getD at_.toNat 0)):Int) > 63)) (.br (decide ((↑(UInt8.toNat (s.getD at_.toNat 0)):Int) < 192)) (.ret (.inr (.ret,stOf [4,5,6] [.str [],.int .i64 0,.int .i64 2] []))) (.br (decide ((↑(UInt8.toNat (s.getD at_.toNat 0)):Int)≥192)) (.br (bigS s) (.br (Z3 s at_ 2) (.br (decide (IntKind.wrap .i64 (↑(BitVec.toNat (BitVec.ofInt (IntKind.bits IntKind.i64) (IntKind.wrap .i64 (n16 s at_)) &&& ~~~BitVec.ofInt (IntKind.bits IntKind.i64) 49152)):Int) < from_)) (.br (decide (behind < 0)) (.ret (.inl (stOf [0,1,7,8,9] [.str s,.int .i64 (IntKind.wrap .i64 (↑(BitVec.toNat (BitVec.ofInt (IntKind.bits IntKind.i64) (IntKind.wrap .i64 (n16 s at_)) &&& ~~~BitVec.ofInt (IntKind.bits IntKind.i64) 49152)):Int)),.ptr 0 0,.int .i64 (IntKind.wrap .i64 (↑(BitVec.toNat (BitVec.ofInt (IntKind.bits IntKind.i64) (IntKind.wrap .i64 (n16 s at_)) &&& ~~~BitVec.ofInt (IntKind.bits IntKind.i64) 49152)):Int)),.int .i64 (at_+(2:Ty.den (Ty.int .i64)))] [.boxT (some 203) [.ptr 0 0,.rowA 1],.row (.int .u8) b]))) (.ret (.inl (stOf [0,1,7,8,9] [.str s,.int .i64 (IntKind.wrap .i64 (↑(BitVec.toNat (BitVec.ofInt (IntKind.bits IntKind.i64) (IntKind.wrap .i64 (n16 s at_)) &&& ~~~BitVec.ofInt (IntKind.bits IntKind.i64) 49152)):Int)),.ptr 0 0,.int .i64 (IntKind.wrap .i64 (↑(BitVec.toNat (BitVec.ofInt (IntKind.bits IntKind.i64) (IntKind.wrap .i64 (n16 s at_)) &&& ~~~BitVec.ofInt (IntKind.bits IntKind.i64) 49152)):Int)),.int .i64 behind] [.boxT (some 203) [.ptr 0 0,.rowA 1],.row (.int .u8) b])))) (.ret (.inr (.ret,stOf [4,5,6] [.str [],.int .i64 0,.int .i64 2] [])))) (.ret (.inr (.ret,stOf [4,5,6] [.str [],.int .i64 0,.int .i64 2] [])))) .no) (.br (bigS s) (.br (Z3 s (at_+(1:Ty.den (Ty.int .i64))) (IntKind.wrap .i64 (↑(UInt8.toNat (s.getD at_.toNat 0)):Int))) (.br (decide (IntKind.wrap .i64 (IntKind.wrap .i64 ((↑b.length:Int)+1)+(↑(List.length (U2 s (at_+(1:Ty.den (Ty.int .i64))) (IntKind.wrap .i64 (↑(UInt8.toNat (s.getD at_.toNat 0)):Int)))):Int)) > 255)) (.ret (.inr (.ret,stOf [4,5,6] [.str [],.int .i64 0,.int .i64 2] []))) (.br (fits (List.length b+1) 1) (.br (bigS (U2 s (at_+(1:Ty.den (Ty.int .i64))) (IntKind.wrap .i64 (↑(UInt8.toNat (s.getD at_.toNat 0)):Int)))) (.br (fits (List.length (b++[(↑(UInt8.toNat (s.getD at_.toNat 0)):Int)])+List.length (Z0 (J5 (U2 s (at_+(1:Ty.den (Ty.int .i64))) (IntKind.wrap .i64 (↑(UInt8.toNat (s.getD at_.toNat 0)):Int)))))) 1) (.br (decide ((↑(UInt8.toNat (s.getD at_.toNat 0)):Int) > 0)) (.ret (.inl (stOf [0,1,7,8,9] [.str s,.int .i64 (at_+(1:Ty.den (Ty.int .i64))+IntKind.wrap .i64 (↑(UInt8.toNat (s.getD at_.toNat 0)):Int)),.ptr 0 0,.int .i64 from_,.int .i64 behind] [.boxT (some 203) [.ptr 0 0,.rowA 1],.row (.int .u8) (b++[(↑(UInt8.toNat (s.getD at_.toNat 0)):Int)]++Z0 (J5 (U2 s (at_+(1:Ty.den (Ty.int .i64))) (IntKind.wrap .i64 (↑(UInt8.toNat (s.getD at_.toNat 0)):Int)))))]))) (.br (decide (behind < 0)) (.br (Q7 (b++[(↑(UInt8.toNat (s.getD at_.toNat 0)):Int)]++Z0 (J5 (U2 s (at_+(1:Ty.den (Ty.int .i64))) (IntKind.wrap .i64 (↑(UInt8.toNat (s.getD at_.toNat 0)):Int)))))&&(!List.isEmpty (b++[(↑(UInt8.toNat (s.getD at_.toNat 0)):Int)]++Z0 (J5 (U2 s (at_+(1:Ty.den (Ty.int .i64))) (IntKind.wrap .i64 (↑(UInt8.toNat (s.getD at_.toNat 0)):Int)))))&&Nat.ble (List.length (b++[(↑(UInt8.toNat (s.getD at_.toNat 0)):Int)]++Z0 (J5 (U2 s (at_+(1:Ty.den (Ty.int .i64))) (IntKind.wrap .i64 (↑(UInt8.toNat (s.getD at_.toNat 0)):Int)))))) 9223372036854775807)) (.ret (.inr (.ret,stOf [4,5,6] [.str (X0 (b++[(↑(UInt8.toNat (s.getD at_.toNat 0)):Int)]++Z0 (J5 (U2 s (at_+(1:Ty.den (Ty.int .i64))) (IntKind.wrap .i64 (↑(UInt8.toNat (s.getD at_.toNat 0)):Int)))))),.int .i64 (at_+(1:Ty.den (Ty.int .i64))+IntKind.wrap .i64 (↑(UInt8.toNat (s.getD at_.toNat 0)):Int)),.int .i64 0] []))) .no) (.br (Q7 (b++[(↑(UInt8.toNat (s.getD at_.toNat 0)):Int)]++Z0 (J5 (U2 s (at_+(1:Ty.den (Ty.int .i64))) (IntKind.wrap .i64 (↑(UInt8.toNat (s.getD at_.toNat 0)):Int)))))&&(!List.isEmpty (b++[(↑(UInt8.toNat (s.getD at_.toNat 0)):Int)]++Z0 (J5 (U2 s (at_+(1:Ty.den (Ty.int .i64))) (IntKind.wrap .i64 (↑(UInt8.toNat (s.getD at_.toNat 0)):Int)))))&&Nat.ble (List.length (b++[(↑(UInt8.toNat (s.getD at_.toNat 0)):Int)]++Z0 (J5 (U2 s (at_+(1:Ty.den (Ty.int .i64))) (IntKind.wrap .i64 (↑(UInt8.toNat (s.getD at_.toNat 0)):Int)))))) 9223372036854775807)) (.ret (.inr (.ret,stOf [4,5,6] [.str (X0 (b++[(↑(UInt8.toNat (s.getD at_.toNat 0)):Int)]++Z0 (J5 (U2 s (at_+(1:Ty.den (Ty.int .i64))) (IntKind.wrap .i64 (↑(UInt8.toNat (s.getD at_.toNat 0)):Int)))))),.int .i64 behind,.int .i64 0] []))) .no))) .no) .no) .no)) (.ret (.inr (.ret,stOf [4,5,6] [.str [],.int .i64 0,.int .i64 2] [])))) .no))) (.br (decide ((↑(UInt8.toNat (s.getD at_.toNat 0)):Int)≥192)) (.br (bigS s) (.br (Z3 s at_ 2) (.br (decide (IntKind.wrap .i64 (↑(BitVec.toNat (BitVec.ofInt (IntKind.bits IntKind.i64) (IntKind.wrap .i64 (n16 s at_)) &&& ~~~BitVec.ofInt (IntKind.bits IntKind.i64) 49152)):Int) < from_)) (.br (decide (behind < 0)) (.ret (.inl (stOf [0,1,7,8,9] [.str s,.int .i64 (IntKind.wrap .i64 (↑(BitVec.toNat (BitVec.ofInt (IntKind.bits IntKind.i64) (IntKind.wrap .i64 (n16 s at_)) &&& ~~~BitVec.ofInt (IntKind.bits IntKind.i64) 49152)):Int)),.ptr 0 0,.int .i64 (IntKind.wrap .i64 (↑(BitVec.toNat (BitVec.ofInt (IntKind.bits IntKind.i64) (IntKind.wrap .i64 (n16 s at_)) &&& ~~~BitVec.ofInt (IntKind.bits IntKind.i64) 49152)):Int)),.int .i64 (at_+(2:Ty.den (Ty.int .i64)))] [.boxT (some 203) [.ptr 0 0,.rowA 1],.row (.int .u8) b]))) (.ret (.inl (stOf [0,1,7,8,9] [.str s,.int .i64 (IntKind.wrap .i64 (↑(BitVec.toNat (BitVec.ofInt (IntKind.bits IntKind.i64) (IntKind.wrap .i64 (n16 s at_)) &&& ~~~BitVec.ofInt (IntKind.bits IntKind.i64) 49152)):Int)),.ptr 0 0,.int .i64 (IntKind.wrap .i64 (↑(BitVec.toNat (BitVec.ofInt (IntKind.bits IntKind.i64) (IntKind.wrap .i64 (n16 s at_)) &&& ~~~BitVec.ofInt (IntKind.bits IntKind.i64) 49152)):Int)),.int .i64 behind] [.boxT (some 203) [.ptr 0 0,.rowA 1],.row (.int .u8) b])))) (.ret (.inr (.ret,stOf [4,5,6] [.str [],.int .i64 0,.int .i64 2] [])))) (.ret (.inr (.ret,stOf [4,5,6] [.str [],.int .i64 0,.int .i64 2] [])))) .no) (.br (bigS s) (.br (Z3 s (at_+(1:Ty.den (Ty.int .i64))) (IntKind.wrap .i64 (↑(UInt8.toNat (s.getD at_.toNat 0)):Int))) (.br (decide (IntKind.wrap .i64 (IntKind.wrap .i64 ((↑b.length:Int)+1)+(↑(List.length (U2 s (at_+(1:Ty.den (Ty.int .i64))) (IntKind.wrap .i64 (↑(UInt8.toNat (s.getD at_.toNat 0)):Int)))):Int)) > 255)) (.ret (.inr (.ret,stOf [4,5,6] [.str [],.int .i64 0,.int .i64 2] []))) (.br (fits (List.length b+1) 1) (.br (bigS (U2 s (at_+(1:Ty.den (Ty.int .i64))) (IntKind.wrap .i64 (↑(UInt8.toNat (s.getD at_.toNat 0)):Int)))) (.br (fits (List.length (b++[(↑(UInt8.toNat (s.getD at_.toNat 0)):Int)])+List.length (Z0 (J5 (U2 s (at_+(1:Ty.den (Ty.int .i64))) (IntKind.wrap .i64 (↑(UInt8.toNat (s.getD at_.toNat 0)):Int)))))) 1) (.br (decide ((↑(UInt8.toNat (s.getD at_.toNat 0)):Int) > 0)) (.ret (.inl (stOf [0,1,7,8,9] [.str s,.int .i64 (at_+(1:Ty.den (Ty.int .i64))+IntKind.wrap .i64 (↑(UInt8.toNat (s.getD at_.toNat 0)):Int)),.ptr 0 0,.int .i64 from_,.int .i64 behind] [.boxT (some 203) [.ptr 0 0,.rowA 1],.row (.int .u8) (b++[(↑(UInt8.toNat (s.getD at_.toNat 0)):Int)]++Z0 (J5 (U2 s (at_+(1:Ty.den (Ty.int .i64))) (IntKind.wrap .i64 (↑(UInt8.toNat (s.getD at_.toNat 0)):Int)))))]))) (.br (decide (behind < 0)) (.br (Q7 (b++[(↑(UInt8.toNat (s.getD at_.toNat 0)):Int)]++Z0 (J5 (U2 s (at_+(1:Ty.den (Ty.int .i64))) (IntKind.wrap .i64 (↑(UInt8.toNat (s.getD at_.toNat 0)):Int)))))&&(!List.isEmpty (b++[(↑(UInt8.toNat (s.getD at_.toNat 0)):Int)]++Z0 (J5 (U2 s (at_+(1:Ty.den (Ty.int .i64))) (IntKind.wrap .i64 (↑(UInt8.toNat (s.getD at_.toNat 0)):Int)))))&&Nat.ble (List.length (b++[(↑(UInt8.toNat (s.getD at_.toNat 0)):Int)]++Z0 (J5 (U2 s (at_+(1:Ty.den (Ty.int .i64))) (IntKind.wrap .i64 (↑(UInt8.toNat (s.getD at_.toNat 0)):Int)))))) 9223372036854775807)) (.ret (.inr (.ret,stOf [4,5,6] [.str (X0 (b++[(↑(UInt8.toNat (s.getD at_.toNat 0)):Int)]++Z0 (J5 (U2 s (at_+(1:Ty.den (Ty.int .i64))) (IntKind.wrap .i64 (↑(UInt8.toNat (s.getD at_.toNat 0)):Int)))))),.int .i64 (at_+(1:Ty.den (Ty.int .i64))+IntKind.wrap .i64 (↑(UInt8.toNat (s.getD at_.toNat 0)):Int)),.int .i64 0] []))) .no) (.br (Q7 (b++[(↑(UInt8.toNat (s.getD at_.toNat 0)):Int)]++Z0 (J5 (U2 s (at_+(1:Ty.den (Ty.int .i64))) (IntKind.wrap .i64 (↑(UInt8.toNat (s.getD at_.toNat 0)):Int)))))&&(!List.isEmpty (b++[(↑(UInt8.toNat (s.getD at_.toNat 0)):Int)]++Z0 (J5 (U2 s (at_+(1:Ty.den (Ty.int .i64))) (IntKind.wrap .i64 (↑(UInt8.toNat (s.getD at_.toNat 0)):Int)))))&&Nat.ble (List.length (b++[(↑(UInt8.toNat (s.getD at_.toNat 0)):Int)]++Z0 (J5 (U2 s (at_+(1:Ty.den (Ty.int .i64))) (IntKind.wrap .i64 (↑(UInt8.toNat (s.getD at_.toNat 0)):Int)))))) 9223372036854775807)) (.ret (.inr (.ret,stOf [4,5,6] [.str (X0 (b++[(↑(UInt8.toNat (s.getD at_.toNat 0)):Int)]++Z0 (J5 (U2 s (at_+(1:Ty.den (Ty.int .i64))) (IntKind.wrap .i64 (↑(UInt8.toNat (s.getD at_.toNat 0)):Int)))))),.int .i64 behind,.int .i64 0] []))) .no))) .no) .no) .no)) (.ret (.inr (.ret,stOf [4,5,6] [.str [],.int .i64 0,.int .i64 2] [])))) .no))) (.ret (.inr (.ret,stOf [4,5,6] [.str [],.int .i64 0,.int .i64 2] [])))) .no
theorem U3h (lp:Lp) (s:List UInt8) (at_ from_ behind:Int) (b:List Int):evC T0 (orcB [V03,Ur,Vk,Q0e] [U02,X03,Q02,V02,V05,X0k]) lp U3e 0 (stOf [0,1,7,8,9] [.str s,.int .i64 at_,.ptr 0 0,.int .i64 from_,.int .i64 behind] [.boxT (some 203) [.ptr 0 0,.rowA 1],.row (.int .u8) b]) (V1 [0,1,7,8,9] [4,5,6] 0)=(U3a s at_ from_ behind b).get:=by kernel_rfl
theorem V5p (s:List UInt8) (I'':Int→Int→Int→List Int→Prop) (m'':Int→Int→Int→List Int→Nat) (r'':Ex×St) (h:∀ (at_ from_ behind:Int) (b:List Int),I'' at_ from_ behind b→(U3a s at_ from_ behind b).all fun x''=>x''=.inr r''∨∃ (at_' from_' behind':Int) (b':List Int),x''=.inl (stOf [0,1,7,8,9] [.str s,.int .i64 at_',.ptr 0 0,.int .i64 from_',.int .i64 behind'] [.boxT (some 203) [.ptr 0 0,.rowA 1],.row (.int .u8) b'])∧I'' at_' from_' behind' b'∧m'' at_' from_' behind' b' < m'' at_ from_ behind b) (lp:Lp) (at_ from_ behind:Int) (b:List Int):I'' at_ from_ behind b→
    Z4 (fun st=>evC T0 (orcB [V03,Ur,Vk,Q0e] [U02,X03,Q02,V02,V05,X0k]) lp U3e 0 st (V1 [0,1,7,8,9] [4,5,6] 0)) (stOf [0,1,7,8,9] [.str s,.int .i64 at_,.ptr 0 0,.int .i64 from_,.int .i64 behind] [.boxT (some 203) [.ptr 0 0,.rowA 1],.row (.int .u8) b])=some r'':=
 Q5 (fun a'':Int×Int×Int×List Int=>stOf [0,1,7,8,9] [.str s,.int .i64 a''.1,.ptr 0 0,.int .i64 a''.2.1,.int .i64 a''.2.2.1] [.boxT (some 203) [.ptr 0 0,.rowA 1],.row (.int .u8) a''.2.2.2]) (fun a''=>I'' a''.1 a''.2.1 a''.2.2.1 a''.2.2.2) (fun a''=>m'' a''.1 a''.2.1 a''.2.2.1 a''.2.2.2) r'' (fun a''=>U3a s a''.1 a''.2.1 a''.2.2.1 a''.2.2.2)
  (fun a'' x hx=>(U3h lp s a''.1 a''.2.1 a''.2.2.1 a''.2.2.2).trans hx) (fun a'' ha=>Tr.all_mono (fun x'' hx=>hx.imp id fun⟨at_',from_',behind',b',h1,h2,h3⟩=>⟨(at_',from_',behind',b'),h1,h2,h3⟩) (h (a''.1) (a''.2.1) (a''.2.2.1) (a''.2.2.2) ha)) (at_,from_,behind,b)
theorem Z4b:Z5t.Ok T0 (orcB [V03,Ur,Vk,Q0e] [U02,X03,Q02,V02,V05,X0k]) h114 0 0 U3e:=by
 intro q'' hq'' x'' y'' r'' h
 obtain⟨(s:List UInt8),(at_:Int),(from_:Int),(behind:Int),_⟩:=x''
 obtain⟨_,(b:List Int),_⟩:=y''
 obtain⟨hc,rfl⟩:=Tr.get_on h
 show Z4 (fun st=>evC T0 (orcB [V03,Ur,Vk,Q0e] [U02,X03,Q02,V02,V05,X0k]) (lpN T0 (orcB [V03,Ur,Vk,Q0e] [U02,X03,Q02,V02,V05,X0k]) h114 0 q'') U3e 0 st (V1 [0,1,7,8,9] [4,5,6] 0)) (stOf [0,1,7,8,9] [.str s,.int .i64 at_,.ptr 0 0,.int .i64 from_,.int .i64 behind] [.boxT (some 203) [.ptr 0 0,.rowA 1],.row (.int .u8) b])=some (.ret,stOf [4,5,6] ([.str (tkS (V6 s at_ from_ behind (X0 b))),.int .i64 (tkN (V6 s at_ from_ behind (X0 b))),.int .i64 (tkE (V6 s at_ from_ behind (X0 b)))]) ([]))
 simp only[tkC,Bool.and_eq_true] at hc
 obtain⟨hbig,hok,hb⟩:=hc
 have hb:=Nat.le_of_ble_eq_true hb
 refine V5p s (tkI s at_ from_ behind b) (fun at_ from_ _ _=>msT s at_ from_) _ ?_ _ at_ from_ behind b ⟨hok,hb,rfl⟩
 clear hok hb
 rintro at_ from_ behind b ⟨hok,hb,he⟩
 rw[←he]
 unfold U3a
 have hB:s.length≤1000000000000:=by simpa[bigS] using hbig
 have hc:(↑(UInt8.toNat (List.getD s (Int.toNat at_) 0)):Int)=(szT s at_:Int):=rfl
 have hc255:=Z3y s at_
 have hto:=X2d s at_
 simp only[Z3f (V2c s at_).1 (V2c s at_).2,hc]
 simp only[show n16 s at_ % 16384=toT s at_ from rfl,IntWalk.i64_in ((szT s at_:Nat):Int) (by omega)]
 cases h1:Z3 s at_ 1 with
 | false=>
   rw[Z1a h1]
   exact Tr.all_t hbig (Tr.all_f rfl (Tr.all_ret (.inl rfl)))
 | true=>
   have hs1:=Xa.1 h1
   refine Tr.all_t hbig (Tr.all_t rfl ?_)
   by_cases h192:192≤szT s at_
   ·refine Tr.all_t (J0 (by omega)) (Tr.all_f (J1 (by omega)) (Tr.all_t (J0 (by omega)) (Tr.all_t hbig ?_)))
    by_cases h3:Z3 s at_ 2=true∧toT s at_ < from_
    ·rw[Q0l h1 h192 h3.1 h3.2] at he ⊢
     refine Tr.all_t h3.1 (Tr.all_t (J0 h3.2) (Tr.all_br (fun c1=>?_) fun c1=>?_))
     ·simp only[decide_eq_true_eq] at c1
      rw[if_pos c1] at he
      exact Tr.all_ret (.inr ⟨_,_,_,_,rfl,⟨hok,hb,he⟩,X16 hto.1 h3.2⟩)
     ·simp only[decide_eq_false_iff_not] at c1
      rw[if_neg c1] at he
      exact Tr.all_ret (.inr ⟨_,_,_,_,rfl,⟨hok,hb,he⟩,X16 hto.1 h3.2⟩)
    ·rw[Q16 h1 h192 h3]
     cases h2:Z3 s at_ 2 with
     | false=>exact Tr.all_f rfl (Tr.all_ret (.inl rfl))
     | true=>exact Tr.all_t rfl (Tr.all_f (J1 (fun h=>h3 ⟨h2,h⟩)) (Tr.all_ret (.inl rfl)))
   ·by_cases h63:63 < szT s at_
    ·rw[Z15 h1 h192 h63]
     exact Tr.all_t (J0 (by omega)) (Tr.all_t (J0 (by omega)) (Tr.all_ret (.inl rfl)))
    ·refine Tr.all_f (J1 (by omega)) (Tr.all_f (J1 (by omega)) (Tr.all_t hbig ?_))
     cases h4:Z3 s (at_+1) (szT s at_) with
     | false=>
       rw[X04 h1 (by omega) (by rw[h4];simp)]
       exact Tr.all_f rfl (Tr.all_ret (.inl rfl))
     | true=>
       have hs4:=Xa.1 h4
       have hvl:(U2 s (at_+1) (szT s at_:Int)).length=szT s at_:=by rw[U15 h4];omega
       have hvb:bigS (U2 s (at_+1) (szT s at_:Int))=true:=by simp[bigS,hvl];omega
       rw[hvl]
       rw[IntWalk.i64_in ((List.length b:Int)+1) (by omega),IntWalk.i64_in _ (by omega)]
       refine Tr.all_t rfl ?_
       by_cases h5:b.length+1+szT s at_≤255
       ·have hnew:Q7 (b++[((szT s at_:Nat):Int)]++Z0 (J5 (U2 s (at_+1) (szT s at_:Int))))=true:=by
         refine Xy (Xy hok ?_) (Zf _)
         simp[Q7]
         omega
        have hnl:(b++[((szT s at_:Nat):Int)]++Z0 (J5 (U2 s (at_+1) (szT s at_:Int)))).length=b.length+1+szT s at_:=by
         simp[J4,Qg,hvl]
         omega
        have hS2:X0 (b++[((szT s at_:Nat):Int)]++Z0 (J5 (U2 s (at_+1) (szT s at_:Int))))=X0 b++s.getD at_.toNat 0::J5 (U2 s (at_+1) (szT s at_:Int)):=by
         rw[U0h,U0h,Xn]
         have:X0 [((szT s at_:Nat):Int)]=[s.getD at_.toNat 0]:=by simp[X0,szT]
         rw[this]
         simp
        refine Tr.all_f (J1 (by omega)) (Tr.all_t (U7 (by omega) (by omega)) (Tr.all_t hvb (Tr.all_t (U7 (by simp[J4,Qg,hvl];omega) (by simp[J4,Qg,hvl];omega)) ?_)))
        by_cases h0:szT s at_=0
        ·rw[U0m h1 h0 (by rw[Qj];omega)]
         have hv0:U2 s (at_+1) (szT s at_:Int)=[]:=List.length_eq_zero_iff.1 (by rw[hvl];exact h0)
         have hg0:s.getD at_.toNat 0=0:=by
          have:(s.getD at_.toNat 0).toNat=0:=h0
          exact UInt8.toNat_inj.1 (by simpa using this)
         have hend:(Q7 (b++[((szT s at_:Nat):Int)]++Z0 (J5 (U2 s (at_+1) (szT s at_:Int))))&&(!List.isEmpty (b++[((szT s at_:Nat):Int)]++Z0 (J5 (U2 s (at_+1) (szT s at_:Int))))&&Nat.ble (List.length (b++[((szT s at_:Nat):Int)]++Z0 (J5 (U2 s (at_+1) (szT s at_:Int))))) 9223372036854775807))=true:=by
          rw[hnew,Nat.ble_eq_true_of_le (by omega)]
          simp
         refine Tr.all_f (J1 (by omega)) (Tr.all_br (fun c1=>Tr.all_t hend (Tr.all_ret (.inl ?_))) fun c1=>Tr.all_t hend (Tr.all_ret (.inl ?_)))
         ·simp only[decide_eq_true_eq] at c1
          rw[if_pos c1,hS2,hv0,hg0,h0]
          simp[J5]
          rfl
         ·simp only[decide_eq_false_iff_not] at c1
          rw[if_neg c1,hS2,hv0,hg0]
          rfl
        ·have hG:=J0w (s:=s) (at_:=at_) (from_:=from_) (behind:=behind) (out:=X0 b) h1 (by omega) h0 h4 (by rw[Qj];omega)
         rw[←hS2] at hG
         rw[hG] at he ⊢
         refine Tr.all_t (J0 (by omega)) (Tr.all_ret ?_)
         exact .inr ⟨_,_,_,_,rfl,⟨hnew,by omega,he⟩,U2x hs1.1 hs4.2.2⟩
       ·rw[X04 h1 (by omega) (by rw[Qj];exact fun h=>h5 h.2)]
        exact Tr.all_t (J0 (by omega)) (Tr.all_ret (.inl rfl))
noncomputable def V3h:Code:=(X5 c114 0)
def Z35:LoopSpec:={ bid:=0,sh:=[.d .str false,.d (.int .i64) false,.ptr 0 0,.d (.int .i64) false,.d (.int .i64) false],so:=[.tbox 203 [.np,.row 1],.row (.int .u8)],F:=fun(s,at_,from_,behind,_) (_,b,_)=>.on (tkC s b) (.ret,[.str (tkS (V6 s at_ from_ behind (X0 b))),.int .i64 (tkN (V6 s at_ from_ behind (X0 b))),.int .i64 (tkE (V6 s at_ from_ behind (X0 b)))],[]) }
def J41 (s:List UInt8) (at_ from_ behind:Int) (b:List Int):Tr (St⊕(Ex×St)):=.br (bigS s) (.br (Z3 s at_ 1) (.br (decide ((↑(UInt8.toNat (s.getD at_.toNat 0)):Int) > 63)) (.br (decide ((↑(UInt8.toNat (s.getD at_.toNat 0)):Int) < 192)) (.ret (.inr (.ret,stOf [4,5,6] [.str [],.int .i64 0,.int .i64 2] []))) (.br (decide ((↑(UInt8.toNat (s.getD at_.toNat 0)):Int)≥192)) (.br (bigS s) (.br (Z3 s at_ 2) (.br (decide (IntKind.wrap .i64 (↑(BitVec.toNat (BitVec.ofInt (IntKind.bits IntKind.i64) (IntKind.wrap .i64 (n16 s at_)) &&& ~~~BitVec.ofInt (IntKind.bits IntKind.i64) 49152)):Int) < from_)) (.br (decide (behind < 0)) (.ret (.inl (stOf [0,1,7,8,9] [.str s,.int .i64 (IntKind.wrap .i64 (↑(BitVec.toNat (BitVec.ofInt (IntKind.bits IntKind.i64) (IntKind.wrap .i64 (n16 s at_)) &&& ~~~BitVec.ofInt (IntKind.bits IntKind.i64) 49152)):Int)),.ptr 0 0,.int .i64 (IntKind.wrap .i64 (↑(BitVec.toNat (BitVec.ofInt (IntKind.bits IntKind.i64) (IntKind.wrap .i64 (n16 s at_)) &&& ~~~BitVec.ofInt (IntKind.bits IntKind.i64) 49152)):Int)),.int .i64 (at_+(2:Ty.den (Ty.int .i64)))] [.boxT (some 203) [.np,.rowA 1],.row (.int .u8) b]))) (.ret (.inl (stOf [0,1,7,8,9] [.str s,.int .i64 (IntKind.wrap .i64 (↑(BitVec.toNat (BitVec.ofInt (IntKind.bits IntKind.i64) (IntKind.wrap .i64 (n16 s at_)) &&& ~~~BitVec.ofInt (IntKind.bits IntKind.i64) 49152)):Int)),.ptr 0 0,.int .i64 (IntKind.wrap .i64 (↑(BitVec.toNat (BitVec.ofInt (IntKind.bits IntKind.i64) (IntKind.wrap .i64 (n16 s at_)) &&& ~~~BitVec.ofInt (IntKind.bits IntKind.i64) 49152)):Int)),.int .i64 behind] [.boxT (some 203) [.np,.rowA 1],.row (.int .u8) b])))) (.ret (.inr (.ret,stOf [4,5,6] [.str [],.int .i64 0,.int .i64 2] [])))) (.ret (.inr (.ret,stOf [4,5,6] [.str [],.int .i64 0,.int .i64 2] [])))) .no) (.br (bigS s) (.br (Z3 s (at_+(1:Ty.den (Ty.int .i64))) (IntKind.wrap .i64 (↑(UInt8.toNat (s.getD at_.toNat 0)):Int))) (.br (decide (IntKind.wrap .i64 (IntKind.wrap .i64 ((↑b.length:Int)+1)+(↑(List.length (U2 s (at_+(1:Ty.den (Ty.int .i64))) (IntKind.wrap .i64 (↑(UInt8.toNat (s.getD at_.toNat 0)):Int)))):Int)) > 255)) (.ret (.inr (.ret,stOf [4,5,6] [.str [],.int .i64 0,.int .i64 2] []))) (.br (fits (List.length b+1) 1) (.br (bigS (U2 s (at_+(1:Ty.den (Ty.int .i64))) (IntKind.wrap .i64 (↑(UInt8.toNat (s.getD at_.toNat 0)):Int)))) (.br (fits (List.length (b++[(↑(UInt8.toNat (s.getD at_.toNat 0)):Int)])+List.length (Z0 (J5 (U2 s (at_+(1:Ty.den (Ty.int .i64))) (IntKind.wrap .i64 (↑(UInt8.toNat (s.getD at_.toNat 0)):Int)))))) 1) (.br (decide ((↑(UInt8.toNat (s.getD at_.toNat 0)):Int) > 0)) (.ret (.inl (stOf [0,1,7,8,9] [.str s,.int .i64 (at_+(1:Ty.den (Ty.int .i64))+IntKind.wrap .i64 (↑(UInt8.toNat (s.getD at_.toNat 0)):Int)),.ptr 0 0,.int .i64 from_,.int .i64 behind] [.boxT (some 203) [.ptr 0 0,.rowA 1],.row (.int .u8) (b++[(↑(UInt8.toNat (s.getD at_.toNat 0)):Int)]++Z0 (J5 (U2 s (at_+(1:Ty.den (Ty.int .i64))) (IntKind.wrap .i64 (↑(UInt8.toNat (s.getD at_.toNat 0)):Int)))))]))) (.br (decide (behind < 0)) (.br (Q7 (b++[(↑(UInt8.toNat (s.getD at_.toNat 0)):Int)]++Z0 (J5 (U2 s (at_+(1:Ty.den (Ty.int .i64))) (IntKind.wrap .i64 (↑(UInt8.toNat (s.getD at_.toNat 0)):Int)))))&&(!List.isEmpty (b++[(↑(UInt8.toNat (s.getD at_.toNat 0)):Int)]++Z0 (J5 (U2 s (at_+(1:Ty.den (Ty.int .i64))) (IntKind.wrap .i64 (↑(UInt8.toNat (s.getD at_.toNat 0)):Int)))))&&Nat.ble (List.length (b++[(↑(UInt8.toNat (s.getD at_.toNat 0)):Int)]++Z0 (J5 (U2 s (at_+(1:Ty.den (Ty.int .i64))) (IntKind.wrap .i64 (↑(UInt8.toNat (s.getD at_.toNat 0)):Int)))))) 9223372036854775807)) (.ret (.inr (.ret,stOf [4,5,6] [.str (X0 (b++[(↑(UInt8.toNat (s.getD at_.toNat 0)):Int)]++Z0 (J5 (U2 s (at_+(1:Ty.den (Ty.int .i64))) (IntKind.wrap .i64 (↑(UInt8.toNat (s.getD at_.toNat 0)):Int)))))),.int .i64 (at_+(1:Ty.den (Ty.int .i64))+IntKind.wrap .i64 (↑(UInt8.toNat (s.getD at_.toNat 0)):Int)),.int .i64 0] []))) .no) (.br (Q7 (b++[(↑(UInt8.toNat (s.getD at_.toNat 0)):Int)]++Z0 (J5 (U2 s (at_+(1:Ty.den (Ty.int .i64))) (IntKind.wrap .i64 (↑(UInt8.toNat (s.getD at_.toNat 0)):Int)))))&&(!List.isEmpty (b++[(↑(UInt8.toNat (s.getD at_.toNat 0)):Int)]++Z0 (J5 (U2 s (at_+(1:Ty.den (Ty.int .i64))) (IntKind.wrap .i64 (↑(UInt8.toNat (s.getD at_.toNat 0)):Int)))))&&Nat.ble (List.length (b++[(↑(UInt8.toNat (s.getD at_.toNat 0)):Int)]++Z0 (J5 (U2 s (at_+(1:Ty.den (Ty.int .i64))) (IntKind.wrap .i64 (↑(UInt8.toNat (s.getD at_.toNat 0)):Int)))))) 9223372036854775807)) (.ret (.inr (.ret,stOf [4,5,6] [.str (X0 (b++[(↑(UInt8.toNat (s.getD at_.toNat 0)):Int)]++Z0 (J5 (U2 s (at_+(1:Ty.den (Ty.int .i64))) (IntKind.wrap .i64 (↑(UInt8.toNat (s.getD at_.toNat 0)):Int)))))),.int .i64 behind,.int .i64 0] []))) .no))) .no) .no) .no)) (.ret (.inr (.ret,stOf [4,5,6] [.str [],.int .i64 0,.int .i64 2] [])))) .no))) (.br (decide ((↑(UInt8.toNat (s.getD at_.toNat 0)):Int)≥192)) (.br (bigS s) (.br (Z3 s at_ 2) (.br (decide (IntKind.wrap .i64 (↑(BitVec.toNat (BitVec.ofInt (IntKind.bits IntKind.i64) (IntKind.wrap .i64 (n16 s at_)) &&& ~~~BitVec.ofInt (IntKind.bits IntKind.i64) 49152)):Int) < from_)) (.br (decide (behind < 0)) (.ret (.inl (stOf [0,1,7,8,9] [.str s,.int .i64 (IntKind.wrap .i64 (↑(BitVec.toNat (BitVec.ofInt (IntKind.bits IntKind.i64) (IntKind.wrap .i64 (n16 s at_)) &&& ~~~BitVec.ofInt (IntKind.bits IntKind.i64) 49152)):Int)),.ptr 0 0,.int .i64 (IntKind.wrap .i64 (↑(BitVec.toNat (BitVec.ofInt (IntKind.bits IntKind.i64) (IntKind.wrap .i64 (n16 s at_)) &&& ~~~BitVec.ofInt (IntKind.bits IntKind.i64) 49152)):Int)),.int .i64 (at_+(2:Ty.den (Ty.int .i64)))] [.boxT (some 203) [.np,.rowA 1],.row (.int .u8) b]))) (.ret (.inl (stOf [0,1,7,8,9] [.str s,.int .i64 (IntKind.wrap .i64 (↑(BitVec.toNat (BitVec.ofInt (IntKind.bits IntKind.i64) (IntKind.wrap .i64 (n16 s at_)) &&& ~~~BitVec.ofInt (IntKind.bits IntKind.i64) 49152)):Int)),.ptr 0 0,.int .i64 (IntKind.wrap .i64 (↑(BitVec.toNat (BitVec.ofInt (IntKind.bits IntKind.i64) (IntKind.wrap .i64 (n16 s at_)) &&& ~~~BitVec.ofInt (IntKind.bits IntKind.i64) 49152)):Int)),.int .i64 behind] [.boxT (some 203) [.np,.rowA 1],.row (.int .u8) b])))) (.ret (.inr (.ret,stOf [4,5,6] [.str [],.int .i64 0,.int .i64 2] [])))) (.ret (.inr (.ret,stOf [4,5,6] [.str [],.int .i64 0,.int .i64 2] [])))) .no) (.br (bigS s) (.br (Z3 s (at_+(1:Ty.den (Ty.int .i64))) (IntKind.wrap .i64 (↑(UInt8.toNat (s.getD at_.toNat 0)):Int))) (.br (decide (IntKind.wrap .i64 (IntKind.wrap .i64 ((↑b.length:Int)+1)+(↑(List.length (U2 s (at_+(1:Ty.den (Ty.int .i64))) (IntKind.wrap .i64 (↑(UInt8.toNat (s.getD at_.toNat 0)):Int)))):Int)) > 255)) (.ret (.inr (.ret,stOf [4,5,6] [.str [],.int .i64 0,.int .i64 2] []))) (.br (fits (List.length b+1) 1) (.br (bigS (U2 s (at_+(1:Ty.den (Ty.int .i64))) (IntKind.wrap .i64 (↑(UInt8.toNat (s.getD at_.toNat 0)):Int)))) (.br (fits (List.length (b++[(↑(UInt8.toNat (s.getD at_.toNat 0)):Int)])+List.length (Z0 (J5 (U2 s (at_+(1:Ty.den (Ty.int .i64))) (IntKind.wrap .i64 (↑(UInt8.toNat (s.getD at_.toNat 0)):Int)))))) 1) (.br (decide ((↑(UInt8.toNat (s.getD at_.toNat 0)):Int) > 0)) (.ret (.inl (stOf [0,1,7,8,9] [.str s,.int .i64 (at_+(1:Ty.den (Ty.int .i64))+IntKind.wrap .i64 (↑(UInt8.toNat (s.getD at_.toNat 0)):Int)),.ptr 0 0,.int .i64 from_,.int .i64 behind] [.boxT (some 203) [.ptr 0 0,.rowA 1],.row (.int .u8) (b++[(↑(UInt8.toNat (s.getD at_.toNat 0)):Int)]++Z0 (J5 (U2 s (at_+(1:Ty.den (Ty.int .i64))) (IntKind.wrap .i64 (↑(UInt8.toNat (s.getD at_.toNat 0)):Int)))))]))) (.br (decide (behind < 0)) (.br (Q7 (b++[(↑(UInt8.toNat (s.getD at_.toNat 0)):Int)]++Z0 (J5 (U2 s (at_+(1:Ty.den (Ty.int .i64))) (IntKind.wrap .i64 (↑(UInt8.toNat (s.getD at_.toNat 0)):Int)))))&&(!List.isEmpty (b++[(↑(UInt8.toNat (s.getD at_.toNat 0)):Int)]++Z0 (J5 (U2 s (at_+(1:Ty.den (Ty.int .i64))) (IntKind.wrap .i64 (↑(UInt8.toNat (s.getD at_.toNat 0)):Int)))))&&Nat.ble (List.length (b++[(↑(UInt8.toNat (s.getD at_.toNat 0)):Int)]++Z0 (J5 (U2 s (at_+(1:Ty.den (Ty.int .i64))) (IntKind.wrap .i64 (↑(UInt8.toNat (s.getD at_.toNat 0)):Int)))))) 9223372036854775807)) (.ret (.inr (.ret,stOf [4,5,6] [.str (X0 (b++[(↑(UInt8.toNat (s.getD at_.toNat 0)):Int)]++Z0 (J5 (U2 s (at_+(1:Ty.den (Ty.int .i64))) (IntKind.wrap .i64 (↑(UInt8.toNat (s.getD at_.toNat 0)):Int)))))),.int .i64 (at_+(1:Ty.den (Ty.int .i64))+IntKind.wrap .i64 (↑(UInt8.toNat (s.getD at_.toNat 0)):Int)),.int .i64 0] []))) .no) (.br (Q7 (b++[(↑(UInt8.toNat (s.getD at_.toNat 0)):Int)]++Z0 (J5 (U2 s (at_+(1:Ty.den (Ty.int .i64))) (IntKind.wrap .i64 (↑(UInt8.toNat (s.getD at_.toNat 0)):Int)))))&&(!List.isEmpty (b++[(↑(UInt8.toNat (s.getD at_.toNat 0)):Int)]++Z0 (J5 (U2 s (at_+(1:Ty.den (Ty.int .i64))) (IntKind.wrap .i64 (↑(UInt8.toNat (s.getD at_.toNat 0)):Int)))))&&Nat.ble (List.length (b++[(↑(UInt8.toNat (s.getD at_.toNat 0)):Int)]++Z0 (J5 (U2 s (at_+(1:Ty.den (Ty.int .i64))) (IntKind.wrap .i64 (↑(UInt8.toNat (s.getD at_.toNat 0)):Int)))))) 9223372036854775807)) (.ret (.inr (.ret,stOf [4,5,6] [.str (X0 (b++[(↑(UInt8.toNat (s.getD at_.toNat 0)):Int)]++Z0 (J5 (U2 s (at_+(1:Ty.den (Ty.int .i64))) (IntKind.wrap .i64 (↑(UInt8.toNat (s.getD at_.toNat 0)):Int)))))),.int .i64 behind,.int .i64 0] []))) .no))) .no) .no) .no)) (.ret (.inr (.ret,stOf [4,5,6] [.str [],.int .i64 0,.int .i64 2] [])))) .no))) (.ret (.inr (.ret,stOf [4,5,6] [.str [],.int .i64 0,.int .i64 2] [])))) .no
theorem V3i (lp:Lp) (s:List UInt8) (at_ from_ behind:Int) (b:List Int):evC T0 (orcB [V03,Ur,Vk,Q0e] [U02,X03,Q02,V02,V05,X0k]) lp V3h 0 (stOf [0,1,7,8,9] [.str s,.int .i64 at_,.ptr 0 0,.int .i64 from_,.int .i64 behind] [.boxT (some 203) [.np,.rowA 1],.row (.int .u8) b]) (V1 [0,1,7,8,9] [4,5,6] 0)=(J41 s at_ from_ behind b).get:=by kernel_rfl
theorem X4g:Z35.Ok T0 (orcB [V03,Ur,Vk,Q0e] [U02,X03,Q02,V02,V05,X0k]) h114 0 0 V3h:=by
 intro q'' hq'' x'' y'' r'' h
 obtain⟨(s:List UInt8),(at_:Int),(from_:Int),(behind:Int),_⟩:=x''
 obtain⟨_,(b:List Int),_⟩:=y''
 obtain⟨hc,rfl⟩:=Tr.get_on h
 show Z4 (fun st=>evC T0 (orcB [V03,Ur,Vk,Q0e] [U02,X03,Q02,V02,V05,X0k]) (lpN T0 (orcB [V03,Ur,Vk,Q0e] [U02,X03,Q02,V02,V05,X0k]) h114 0 q'') V3h 0 st (V1 [0,1,7,8,9] [4,5,6] 0)) (stOf [0,1,7,8,9] [.str s,.int .i64 at_,.ptr 0 0,.int .i64 from_,.int .i64 behind] [.boxT (some 203) [.np,.rowA 1],.row (.int .u8) b])=some (.ret,stOf [4,5,6] ([.str (tkS (V6 s at_ from_ behind (X0 b))),.int .i64 (tkN (V6 s at_ from_ behind (X0 b))),.int .i64 (tkE (V6 s at_ from_ behind (X0 b)))]) ([]))
 simp only[tkC,Bool.and_eq_true] at hc
 obtain⟨hbig,hok,hb⟩:=hc
 have hb:=Nat.le_of_ble_eq_true hb
 refine V43 (fun a:Int×Int×Int×List Int=>stOf [0,1,7,8,9] [.str s,.int .i64 a.1,.ptr 0 0,.int .i64 a.2.1,.int .i64 a.2.2.1] [.boxT (some 203) [.np,.rowA 1],.row (.int .u8) a.2.2.2]) (fun a=>tkI s at_ from_ behind b a.1 a.2.1 a.2.2.1 a.2.2.2) (fun a=>msT s a.1 a.2.1) _
  (fun a=>J41 s a.1 a.2.1 a.2.2.1 a.2.2.2) (fun a x hx=>(V3i _ s a.1 a.2.1 a.2.2.1 a.2.2.2).trans hx) ?_ (at_,from_,behind,b) ⟨hok,hb,rfl⟩
 clear hok hb
 rintro⟨at_,from_,behind,b⟩ ⟨hok,hb,he⟩
 simp only at hok hb he ⊢
 rw[←he]
 unfold J41
 have hB:s.length≤1000000000000:=by simpa[bigS] using hbig
 have hc:(↑(UInt8.toNat (List.getD s (Int.toNat at_) 0)):Int)=(szT s at_:Int):=rfl
 have hc255:=Z3y s at_
 have hto:=X2d s at_
 simp only[Z3f (V2c s at_).1 (V2c s at_).2,hc]
 simp only[show n16 s at_ % 16384=toT s at_ from rfl,IntWalk.i64_in ((szT s at_:Nat):Int) (by omega)]
 cases h1:Z3 s at_ 1 with
 | false=>
   rw[Z1a h1]
   exact Tr.all_t hbig (Tr.all_f rfl (Tr.all_ret (.inl rfl)))
 | true=>
   have hs1:=Xa.1 h1
   refine Tr.all_t hbig (Tr.all_t rfl ?_)
   by_cases h192:192≤szT s at_
   ·refine Tr.all_t (J0 (by omega)) (Tr.all_f (J1 (by omega)) (Tr.all_t (J0 (by omega)) (Tr.all_t hbig ?_)))
    by_cases h3:Z3 s at_ 2=true∧toT s at_ < from_
    ·rw[Q0l h1 h192 h3.1 h3.2] at he ⊢
     refine Tr.all_t h3.1 (Tr.all_t (J0 h3.2) (Tr.all_br (fun c1=>?_) fun c1=>?_))
     ·simp only[decide_eq_true_eq] at c1
      rw[if_pos c1] at he
      exact Tr.all_ret (.inr (.inl ⟨(_,_,_,_),rfl,⟨hok,hb,he⟩,X16 hto.1 h3.2⟩))
     ·simp only[decide_eq_false_iff_not] at c1
      rw[if_neg c1] at he
      exact Tr.all_ret (.inr (.inl ⟨(_,_,_,_),rfl,⟨hok,hb,he⟩,X16 hto.1 h3.2⟩))
    ·rw[Q16 h1 h192 h3]
     cases h2:Z3 s at_ 2 with
     | false=>exact Tr.all_f rfl (Tr.all_ret (.inl rfl))
     | true=>exact Tr.all_t rfl (Tr.all_f (J1 (fun h=>h3 ⟨h2,h⟩)) (Tr.all_ret (.inl rfl)))
   ·by_cases h63:63 < szT s at_
    ·rw[Z15 h1 h192 h63]
     exact Tr.all_t (J0 (by omega)) (Tr.all_t (J0 (by omega)) (Tr.all_ret (.inl rfl)))
    ·refine Tr.all_f (J1 (by omega)) (Tr.all_f (J1 (by omega)) (Tr.all_t hbig ?_))
     cases h4:Z3 s (at_+1) (szT s at_) with
     | false=>
       rw[X04 h1 (by omega) (by rw[h4];simp)]
       exact Tr.all_f rfl (Tr.all_ret (.inl rfl))
     | true=>
       have hs4:=Xa.1 h4
       have hvl:(U2 s (at_+1) (szT s at_:Int)).length=szT s at_:=by rw[U15 h4];omega
       have hvb:bigS (U2 s (at_+1) (szT s at_:Int))=true:=by simp[bigS,hvl];omega
       rw[hvl]
       rw[IntWalk.i64_in ((List.length b:Int)+1) (by omega),IntWalk.i64_in _ (by omega)]
       refine Tr.all_t rfl ?_
       by_cases h5:b.length+1+szT s at_≤255
       ·have hnew:Q7 (b++[((szT s at_:Nat):Int)]++Z0 (J5 (U2 s (at_+1) (szT s at_:Int))))=true:=by
         refine Xy (Xy hok ?_) (Zf _)
         simp[Q7]
         omega
        have hnl:(b++[((szT s at_:Nat):Int)]++Z0 (J5 (U2 s (at_+1) (szT s at_:Int)))).length=b.length+1+szT s at_:=by
         simp[J4,Qg,hvl]
         omega
        have hS2:X0 (b++[((szT s at_:Nat):Int)]++Z0 (J5 (U2 s (at_+1) (szT s at_:Int))))=X0 b++s.getD at_.toNat 0::J5 (U2 s (at_+1) (szT s at_:Int)):=by
         rw[U0h,U0h,Xn]
         have:X0 [((szT s at_:Nat):Int)]=[s.getD at_.toNat 0]:=by simp[X0,szT]
         rw[this]
         simp
        refine Tr.all_f (J1 (by omega)) (Tr.all_t (U7 (by omega) (by omega)) (Tr.all_t hvb (Tr.all_t (U7 (by simp[J4,Qg,hvl];omega) (by simp[J4,Qg,hvl];omega)) ?_)))
        by_cases h0:szT s at_=0
        ·rw[U0m h1 h0 (by rw[Qj];omega)]
         have hv0:U2 s (at_+1) (szT s at_:Int)=[]:=List.length_eq_zero_iff.1 (by rw[hvl];exact h0)
         have hg0:s.getD at_.toNat 0=0:=by
          have:(s.getD at_.toNat 0).toNat=0:=h0
          exact UInt8.toNat_inj.1 (by simpa using this)
         have hend:(Q7 (b++[((szT s at_:Nat):Int)]++Z0 (J5 (U2 s (at_+1) (szT s at_:Int))))&&(!List.isEmpty (b++[((szT s at_:Nat):Int)]++Z0 (J5 (U2 s (at_+1) (szT s at_:Int))))&&Nat.ble (List.length (b++[((szT s at_:Nat):Int)]++Z0 (J5 (U2 s (at_+1) (szT s at_:Int))))) 9223372036854775807))=true:=by
          rw[hnew,Nat.ble_eq_true_of_le (by omega)]
          simp
         refine Tr.all_f (J1 (by omega)) (Tr.all_br (fun c1=>Tr.all_t hend (Tr.all_ret (.inl ?_))) fun c1=>Tr.all_t hend (Tr.all_ret (.inl ?_)))
         ·simp only[decide_eq_true_eq] at c1
          rw[if_pos c1,hS2,hv0,hg0,h0]
          simp[J5]
          rfl
         ·simp only[decide_eq_false_iff_not] at c1
          rw[if_neg c1,hS2,hv0,hg0]
          rfl
        ·have hG:=J0w (s:=s) (at_:=at_) (from_:=from_) (behind:=behind) (out:=X0 b) h1 (by omega) h0 h4 (by rw[Qj];omega)
         rw[←hS2] at hG
         rw[hG] at he ⊢
         refine Tr.all_t (J0 (by omega)) (Tr.all_ret ?_)
         refine .inr (.inr ⟨_,rfl,?_⟩)
         have:=Z4b q'' (Nat.zero_le _) (s,at_+1+szT s at_,from_,behind,()) ((),b++[((szT s at_:Nat):Int)]++Z0 (J5 (U2 s (at_+1) (szT s at_:Int))),()) (.ret,resT (V6 s (at_+1+szT s at_) from_ behind (X0 (b++[((szT s at_:Nat):Int)]++Z0 (J5 (U2 s (at_+1) (szT s at_:Int)))))),[]) (by
          show (Tr.on (tkC s _) _).get=_
          rw[show tkC s (b++[((szT s at_:Nat):Int)]++Z0 (J5 (U2 s (at_+1) (szT s at_:Int))))=true by simp only[tkC,hbig,hnew,Bool.true_and];exact Nat.ble_eq_true_of_le (by omega)]
          rfl)
         exact this
       ·rw[X04 h1 (by omega) (by rw[Qj];exact fun h=>h5 h.2)]
        exact Tr.all_t (J0 (by omega)) (Tr.all_ret (.inl rfl))
def t114 (s:List UInt8) (at_:Int):Tr Res:=.br (tkC s []) (.ret ([.str (tkS (V6 s at_ at_ (-1:Int) (X0 []))),.int .i64 (tkN (V6 s at_ at_ (-1:Int) (X0 []))),.int .i64 (tkE (V6 s at_ at_ (-1:Int) (X0 [])))],[])) .no
def os114:OSpec:={ f:=114,sh:=[.d .str false,.d (.int .i64) false],so:=[],F:=fun(s,at_,_) _=>t114 s at_ }
theorem fn114 (s:List UInt8) (at_:Int):evC T0 (orcB [V03,Ur,Vk,Q0e] [U02,X03,Q02,V02,V05,X0k]) (lpOf h114 0 (lsOf [Z35])) c114 1000000 (J2 [.str s,.int .i64 at_] [] Try.f114.ntmps) (Z1 T0 false 0 Try.f114)=(t114 s at_).get:=by kernel_rfl
theorem ok114:os114.Ok Try.prog:=by
 refine U4 J3 tab0 (U0 (all_cons V56 (all_cons V1x (all_cons X11 (all_cons V4d all_nil)))) (all_cons Q5u (all_cons V5u (all_cons Q5y (all_cons Z5v (all_cons Z5q (all_cons okStr all_nil))))))) h114 (d:=0) (n0:=0) (S:=lsOf [Z35]) Try.func114 (by kernel_rfl) (c:=c114) (by kernel_rfl) rfl (U5 (xs:=[(0,V3h)]) (by kernel_rfl) (all_cons (U6 X4g) all_nil)) (by omega) (by kernel_rfl) ?_
 intro x'' y'' q'' hq''
 obtain⟨(s:List UInt8),(at_:Int),_⟩:=x''
 exact(fn114 s at_).trans hq''
def J5f:FSpec:=fsT 114 [(.str,false),((.int .i64),false)] [(.str,false),((.int .i64),false),((.int .i64),false)] fun(s,at_,_)=>t114 s at_
theorem J5r:J5f.Ok Try.prog:=V5 fun x'' r'' hr''=>ok114 x'' () r'' hr''
def U07:FSpec:=J5f.like fun(s,at_,_)=>.on (bigS s) (tkS (V6 s at_ at_ (-1) []),tkN (V6 s at_ at_ (-1) []),tkE (V6 s at_ at_ (-1) []),())
theorem J1f:U07.Ok Try.prog:=by
 refine Q3 J5r _ ?_
 rintro⟨(s:List UInt8),(at_:Int),_⟩ y h
 obtain⟨hb,rfl⟩:=Tr.get_on h
 refine X3 (vs:=resT (V6 s at_ at_ (-1) [])) rfl rfl (Tr.get_of_all ?_)
 show (t114 s at_).all _
 exact Tr.all_t (by simp only[tkC,hb];rfl) (Tr.all_ret rfl)
def t138:Tr Res:=.ret ([.mp 0],[.mpo (Ty.int .u16) (Ty.list (.int .i64)) [(1,[4]),(28,[16]),(2,[(-1:Int)]),(5,[(-1:Int)]),(12,[(-1:Int)]),(15,[2,(-1:Int)]),(6,[(-1:Int),(-1:Int),20]),(16,[(-2:Int)])]])
def Z5h:OSpec:={ f:=138,sh:=[],so:=[],F:=fun _ _=>t138 }
theorem fn138:evC T0 (orcB [] []) (lpOf (hOwn h138) 0 (lsOf [])) c138 1000000 (J2 [] [] Try.f138.ntmps) (Z1 T0 true 0 Try.f138)=(t138).get:=by kernel_rfl
theorem ok138:Z5h.Ok Try.prog:=by
 refine U4 J3 tab0 (U0 all_nil all_nil) (hOwn h138) (d:=0) (n0:=0) (S:=lsOf []) Try.func138 (by kernel_rfl) (c:=c138) (by kernel_rfl) rfl (V3 (by kernel_rfl)) (by omega) (by kernel_rfl) ?_
 intro x'' y'' q'' hq''
 exact(fn138).trans hq''
def t117 (k:Int):Tr Res:=.br (!hasM (Ty.int .u16) (Ty.list (.int .i64)) k [(1,[4]),(28,[16]),(2,[(-1:Int)]),(5,[(-1:Int)]),(12,[(-1:Int)]),(15,[2,(-1:Int)]),(6,[(-1:Int),(-1:Int),20]),(16,[(-2:Int)])]) (.ret ([.list (.int .i64) [(-3:Int)]],[])) (.ret ([.list (.int .i64) (getM (Ty.int .u16) (Ty.list (.int .i64)) k [(1,[4]),(28,[16]),(2,[(-1:Int)]),(5,[(-1:Int)]),(12,[(-1:Int)]),(15,[2,(-1:Int)]),(6,[(-1:Int),(-1:Int),20]),(16,[(-2:Int)])])],[]))
def os117:OSpec:={ f:=117,sh:=[.d (.int .u16) false],so:=[],F:=fun(k,_) _=>t117 k }
theorem fn117 (k:Int):evC T0 (orcB [] [Z5h]) (lpOf h117 0 (lsOf [])) c117 1000000 (J2 [.int .u16 k] [] Try.f117.ntmps) (Z1 T0 false 0 Try.f117)=(t117 k).get:=by kernel_rfl
theorem ok117:os117.Ok Try.prog:=by
 refine U4 J3 tab0 (U0 all_nil (all_cons ok138 all_nil)) h117 (d:=0) (n0:=0) (S:=lsOf []) Try.func117 (by kernel_rfl) (c:=c117) (by kernel_rfl) rfl (V3 (by kernel_rfl)) (by omega) (by kernel_rfl) ?_
 intro x'' y'' q'' hq''
 obtain⟨(k:Int),_⟩:=x''
 exact(fn117 k).trans hq''
def J5l:FSpec:=fsT 117 [((.int .u16),false)] [((.list (.int .i64)),false)] fun(k,_)=>t117 k
theorem U5q:J5l.Ok Try.prog:=V5 fun x'' r'' hr''=>ok117 x'' () r'' hr''
noncomputable def b119:Code:=X5 c119 0
def J4d:LoopSpec:={ bid:=0,sh:=[.d .str false,.d (.int .i64) false],so:=[],F:=fun(s,at_,_) _=>.on (bigS s&&decide (at_=0)) (.exit 0,[.str s,.int .i64 (whAt s 0)],[]) }
def r119 (s:List UInt8) (at_:Int):Tr (St⊕(Ex×St)):=.br (decide (at_ < (↑s.length:Int))) (.br (decide (0≤at_)) (.br (decide (at_ < (↑s.length:Int))) (.br (decide ((↑(UInt8.toNat (s.getD at_.toNat 0)):Int) > 0)) (.br (decide (0≤at_)) (.br (decide (at_ < (↑s.length:Int))) (.ret (.inl (stOf [0,3] [.str s,.int .i64 (IntKind.wrap .i64 (at_+IntKind.wrap .i64 (1+IntKind.wrap .i64 (↑(UInt8.toNat (s.getD at_.toNat 0)):Int))))] []))) .no) .no) (.ret (.inr (.exit 0,stOf [0,3] [.str s,.int .i64 at_] [])))) .no) .no) (.ret (.inr (.exit 0,stOf [0,3] [.str s,.int .i64 at_] [])))
theorem V47 (orc:Orc) (lp:Lp) (s:List UInt8) (at_:Int):evC T0 orc lp b119 0 (stOf [0,3] [.str s,.int .i64 at_] []) (V1 [0,3] [0,3] 0)=(r119 s at_).get:=by kernel_rfl
theorem wf119 (orc:Orc) (s:List UInt8) (I'':Int→Prop) (m'':Int→Nat) (r'':Ex×St) (h:∀ (at_:Int),I'' at_→(r119 s at_).all fun x''=>x''=.inr r''∨∃ (at_':Int),x''=.inl (stOf [0,3] [.str s,.int .i64 at_'] [])∧I'' at_'∧m'' at_' < m'' at_) (lp:Lp) (at_:Int):I'' at_→
    Z4 (fun st=>evC T0 orc lp b119 0 st (V1 [0,3] [0,3] 0)) (stOf [0,3] [.str s,.int .i64 at_] [])=some r'':=
 Q5 (fun a'':Int=>stOf [0,3] [.str s,.int .i64 a''] []) (fun a''=>I'' a'') (fun a''=>m'' a'') r'' (fun a''=>r119 s a'')
  (fun a'' x hx=>(V47 orc lp s a'').trans hx) (fun a'' ha=>Tr.all_mono (fun x'' hx=>hx.imp id fun⟨at_',h1,h2,h3⟩=>⟨(at_'),h1,h2,h3⟩) (h (a'') ha)) (at_)
theorem Q57 (orc:Orc):J4d.Ok T0 orc h119 0 0 b119:=by
 intro q'' hq'' x'' y'' r'' h
 obtain⟨(s:List UInt8),(at_:Int),_⟩:=x''
 obtain⟨hc,rfl⟩:=Tr.get_on h
 show Z4 (fun st=>evC T0 orc (lpN T0 orc h119 0 q'') b119 0 st (V1 [0,3] [0,3] 0)) (stOf [0,3] [.str s,.int .i64 at_] [])=some (.exit 0,stOf [0,3] ([.str s,.int .i64 (whAt s 0)]) ([]))
 simp only[Bool.and_eq_true,decide_eq_true_eq] at hc
 obtain⟨hb,rfl⟩:=hc
 refine wf119 _ s (fun a=>0≤a∧whAt s a.toNat=whAt s 0) (fun a=>(s.length - a).toNat) _ ?_ _ 0 ⟨by omega,rfl⟩
 rintro a ⟨h1,h2⟩
 have hB:s.length≤1000000000000:=by simpa[bigS] using hb
 have hto:((a.toNat:Nat):Int)=a:=Int.toNat_of_nonneg h1
 unfold r119
 rw[←h2,whAt.eq_1 s a.toNat]
 by_cases hk:a.toNat < s.length
 ·have hb0:(↑(UInt8.toNat (List.getD s (Int.toNat a) 0)):Int)=(byN s a.toNat:Int):=rfl
  have hbl:byN s a.toNat < 256:=(s.getD a.toNat 0).toNat_lt
  rw[hb0]
  simp (disch:=omega) only[IntWalk.i64_in]
  refine Tr.all_t (J0 (by omega)) (Tr.all_t (J0 h1) (Tr.all_t (J0 (by omega)) (Tr.all_br (fun c1=>Tr.all_t (J0 h1) (Tr.all_t (J0 (by omega)) (Tr.all_ret (.inr ⟨_,rfl,⟨by omega,?_⟩,by omega⟩)))) fun c1=>Tr.all_ret (.inl ?_))))
  ·simp only[decide_eq_true_eq] at c1
   rw[dif_pos ⟨hk,by omega⟩]
   congr 1
   omega
  ·simp only[decide_eq_false_iff_not] at c1
   rw[dif_neg (by omega),hto]
 ·rw[dif_neg (by omega),hto]
  exact Tr.all_f (J1 (by omega)) (Tr.all_ret (.inl rfl))
noncomputable def b120:Code:=X5 c120 0
def Q4b:LoopSpec:={ bid:=0,sh:=[.d .str false,.d (.int .i64) false],so:=[],F:=fun(s,at_,_) _=>.on (bigS s&&decide (at_=0)) (.exit 0,[.str s,.int .i64 (txAt s 0)],[]) }
def r120 (s:List UInt8) (at_:Int):Tr (St⊕(Ex×St)):=.br (decide (at_ < (↑s.length:Int))) (.br (decide (0≤at_)) (.br (decide (at_ < (↑s.length:Int))) (.ret (.inl (stOf [0,3] [.str s,.int .i64 (IntKind.wrap .i64 (at_+IntKind.wrap .i64 (1+IntKind.wrap .i64 (↑(UInt8.toNat (s.getD at_.toNat 0)):Int))))] []))) .no) .no) (.ret (.inr (.exit 0,stOf [0,3] [.str s,.int .i64 at_] [])))
theorem X41 (orc:Orc) (lp:Lp) (s:List UInt8) (at_:Int):evC T0 orc lp b120 0 (stOf [0,3] [.str s,.int .i64 at_] []) (V1 [0,3] [0,3] 0)=(r120 s at_).get:=by kernel_rfl
theorem wf120 (orc:Orc) (s:List UInt8) (I'':Int→Prop) (m'':Int→Nat) (r'':Ex×St) (h:∀ (at_:Int),I'' at_→(r120 s at_).all fun x''=>x''=.inr r''∨∃ (at_':Int),x''=.inl (stOf [0,3] [.str s,.int .i64 at_'] [])∧I'' at_'∧m'' at_' < m'' at_) (lp:Lp) (at_:Int):I'' at_→
    Z4 (fun st=>evC T0 orc lp b120 0 st (V1 [0,3] [0,3] 0)) (stOf [0,3] [.str s,.int .i64 at_] [])=some r'':=
 Q5 (fun a'':Int=>stOf [0,3] [.str s,.int .i64 a''] []) (fun a''=>I'' a'') (fun a''=>m'' a'') r'' (fun a''=>r120 s a'')
  (fun a'' x hx=>(X41 orc lp s a'').trans hx) (fun a'' ha=>Tr.all_mono (fun x'' hx=>hx.imp id fun⟨at_',h1,h2,h3⟩=>⟨(at_'),h1,h2,h3⟩) (h (a'') ha)) (at_)
theorem U54 (orc:Orc):Q4b.Ok T0 orc h120 0 0 b120:=by
 intro q'' hq'' x'' y'' r'' h
 obtain⟨(s:List UInt8),(at_:Int),_⟩:=x''
 obtain⟨hc,rfl⟩:=Tr.get_on h
 show Z4 (fun st=>evC T0 orc (lpN T0 orc h120 0 q'') b120 0 st (V1 [0,3] [0,3] 0)) (stOf [0,3] [.str s,.int .i64 at_] [])=some (.exit 0,stOf [0,3] ([.str s,.int .i64 (txAt s 0)]) ([]))
 simp only[Bool.and_eq_true,decide_eq_true_eq] at hc
 obtain⟨hb,rfl⟩:=hc
 refine wf120 _ s (fun a=>0≤a∧txAt s a.toNat=txAt s 0) (fun a=>(s.length - a).toNat) _ ?_ _ 0 ⟨by omega,rfl⟩
 rintro a ⟨h1,h2⟩
 have hB:s.length≤1000000000000:=by simpa[bigS] using hb
 have hto:((a.toNat:Nat):Int)=a:=Int.toNat_of_nonneg h1
 unfold r120
 rw[←h2,txAt.eq_1 s a.toNat]
 by_cases hk:a.toNat < s.length
 ·have hb0:(↑(UInt8.toNat (List.getD s (Int.toNat a) 0)):Int)=(byN s a.toNat:Int):=rfl
  have hbl:byN s a.toNat < 256:=(s.getD a.toNat 0).toNat_lt
  rw[hb0]
  simp (disch:=omega) only[IntWalk.i64_in]
  refine Tr.all_t (J0 (by omega)) (Tr.all_t (J0 h1) (Tr.all_t (J0 (by omega)) (Tr.all_ret (.inr ⟨_,rfl,⟨by omega,?_⟩,by omega⟩))))
  rw[dif_pos hk]
  congr 1
  omega
 ·rw[dif_neg hk,hto]
  exact Tr.all_f (J1 (by omega)) (Tr.all_ret (.inl rfl))
def t119 (s:List UInt8):Tr Res:=.br (bigS s&&decide (0=(0:Ty.den (Ty.int .i64)))) (.br (decide ((↑(whAt s 0):Int)≥(↑s.length:Int))) (.ret ([.int .i64 0],[])) (.br (decide (0≤IntKind.wrap .i64 ((↑(whAt s 0):Int)+1))&&decide (IntKind.wrap .i64 ((↑(whAt s 0):Int)+1)≤(↑s.length:Int))) (.br (decide (0≤0)&&decide (0≤IntKind.wrap .i64 ((↑(whAt s 0):Int)+1))) (.br (bigS (List.take (Int.toNat (IntKind.wrap .i64 ((↑(whAt s 0):Int)+1)) - Int.toNat 0) (List.drop (Int.toNat 0) s))) (.br (!mayV (List.take (Int.toNat (IntKind.wrap .i64 ((↑(whAt s 0):Int)+1)) - Int.toNat 0) (List.drop (Int.toNat 0) s))) (.ret ([.int .i64 0],[])) (.ret ([.int .i64 (IntKind.wrap .i64 ((↑(whAt s 0):Int)+1))],[]))) .no) .no) .no)) .no
def os119:OSpec:={ f:=119,sh:=[.d .str false],so:=[],F:=fun(s,_) _=>t119 s }
theorem fn119 (s:List UInt8):evC T0 (orcB [Z0p] []) (lpOf h119 0 (lsOf [J4d])) c119 1000000 (J2 [.str s] [] Try.f119.ntmps) (Z1 T0 false 0 Try.f119)=(t119 s).get:=by kernel_rfl
theorem ok119:os119.Ok Try.prog:=by
 refine U4 J3 tab0 (U0 (all_cons U2i all_nil) all_nil) h119 (d:=0) (n0:=0) (S:=lsOf [J4d]) Try.func119 (by kernel_rfl) (c:=c119) (by kernel_rfl) rfl (U5 (xs:=[(0,b119)]) (by kernel_rfl) (all_cons (U6 (Q57 _)) all_nil)) (by omega) (by kernel_rfl) ?_
 intro x'' y'' q'' hq''
 obtain⟨(s:List UInt8),_⟩:=x''
 exact(fn119 s).trans hq''
def U5i:FSpec:=fsT 119 [(.str,false)] [((.int .i64),false)] fun(s,_)=>t119 s
theorem Q5t:U5i.Ok Try.prog:=V5 fun x'' r'' hr''=>ok119 x'' () r'' hr''
def J0t:FSpec:=U5i.like fun(s,_)=>.on (bigS s) ((V0 s:Int),())
theorem Z4u:J0t.Ok Try.prog:=by
 refine Q3 Q5t _ ?_
 rintro⟨(s:List UInt8),_⟩ y h
 obtain⟨hb,rfl⟩:=Tr.get_on h
 refine X3 (vs:=[.int .i64 (V0 s)]) rfl rfl (Tr.get_of_all ?_)
 show (t119 s).all _
 unfold t119 V0
 have hB:s.length≤1000000000000:=by simpa[bigS] using hb
 refine Tr.all_t (by rw[hb];rfl) ?_
 by_cases hk:whAt s 0 < s.length
 ·have hw:IntKind.wrap .i64 ((whAt s 0:Int)+1)=(whAt s 0:Int)+1:=IntWalk.i64_in _ (by omega)
  have hs:List.take (Int.toNat ((whAt s 0:Int)+1) - Int.toNat 0) (List.drop (Int.toNat 0) s)=s.take (whAt s 0+1):=by
   rw[show Int.toNat ((whAt s 0:Int)+1) - Int.toNat 0=whAt s 0+1 by omega];rfl
  rw[hw,hs]
  refine Tr.all_f (J1 (by omega)) (Tr.all_t (by rw[J0 (by omega),J0 (by omega)];rfl) (Tr.all_t (by rw[J0 (by omega),J0 (by omega)];rfl) (Tr.all_t (by simp[bigS];omega) (Tr.all_br (fun c1=>Tr.all_ret ?_) fun c1=>Tr.all_ret ?_))))
  ·rw[Bool.not_eq_true'] at c1
   rw[if_neg (by rw[c1];simp)]
   rfl
  ·rw[Bool.not_eq_false'] at c1
   rw[if_pos ⟨hk,c1⟩]
   rfl
 ·rw[if_neg (fun h=>hk h.1)]
  exact Tr.all_t (J0 (by omega)) (Tr.all_ret rfl)
def t120 (s:List UInt8):Tr Res:=.br (bigS s&&decide (0=(0:Ty.den (Ty.int .i64)))) (.br (!s==[]) (.ret ([.bool ((↑(txAt s 0):Int)==(↑s.length:Int))],[])) (.ret ([.bool false],[]))) .no
def os120:OSpec:={ f:=120,sh:=[.d .str false],so:=[],F:=fun(s,_) _=>t120 s }
theorem fn120 (s:List UInt8):evC T0 (orcB [] []) (lpOf h120 0 (lsOf [Q4b])) c120 1000000 (J2 [.str s] [] Try.f120.ntmps) (Z1 T0 false 0 Try.f120)=(t120 s).get:=by kernel_rfl
theorem ok120:os120.Ok Try.prog:=by
 refine U4 J3 tab0 (U0 all_nil all_nil) h120 (d:=0) (n0:=0) (S:=lsOf [Q4b]) Try.func120 (by kernel_rfl) (c:=c120) (by kernel_rfl) rfl (U5 (xs:=[(0,b120)]) (by kernel_rfl) (all_cons (U6 (U54 _)) all_nil)) (by omega) (by kernel_rfl) ?_
 intro x'' y'' q'' hq''
 obtain⟨(s:List UInt8),_⟩:=x''
 exact(fn120 s).trans hq''
def Q5i:FSpec:=fsT 120 [(.str,false)] [(.bool,false)] fun(s,_)=>t120 s
theorem J64:Q5i.Ok Try.prog:=V5 fun x'' r'' hr''=>ok120 x'' () r'' hr''
def V0s:FSpec:=Q5i.like fun(s,_)=>.on (bigS s) (Xs s,())
theorem V4v:V0s.Ok Try.prog:=by
 refine Q3 J64 _ ?_
 rintro⟨(s:List UInt8),_⟩ y h
 obtain⟨hb,rfl⟩:=Tr.get_on h
 refine X3 (vs:=[.bool (Xs s)]) rfl rfl (Tr.get_of_all ?_)
 show (t120 s).all _
 unfold t120 Xs
 refine Tr.all_t (by rw[hb];rfl) (Tr.all_br (fun c1=>Tr.all_ret ?_) fun c1=>Tr.all_ret ?_)
 ·have:s.isEmpty=false:=by cases s with | nil=>cases c1 | cons _ _=>rfl
  rw[this]
  congr 3
  rw[Bool.eq_iff_iff]
  simp
  omega
 ·have:s.isEmpty=true:=by cases s with | nil=>rfl | cons _ _=>cases c1
  rw[this]
  rfl
def Jj:FSpec:=J5l.like fun(k,_)=>.ret (layV k,())
theorem Z1f:Jj.Ok Try.prog:=by
 refine Q3 U5q _ ?_
 rintro⟨(k:Int),_⟩ y h
 cases h
 refine X3 (vs:=[.list (.int .i64) (layV k)]) rfl rfl (Tr.get_of_all ?_)
 show (t117 k).all _
 by_cases h1:k=1
 ·subst h1;exact Tr.all_f rfl (Tr.all_ret rfl)
 by_cases h2:k=28
 ·subst h2;exact Tr.all_f rfl (Tr.all_ret rfl)
 by_cases h3:k=2
 ·subst h3;exact Tr.all_f rfl (Tr.all_ret rfl)
 by_cases h4:k=5
 ·subst h4;exact Tr.all_f rfl (Tr.all_ret rfl)
 by_cases h5:k=12
 ·subst h5;exact Tr.all_f rfl (Tr.all_ret rfl)
 by_cases h6:k=15
 ·subst h6;exact Tr.all_f rfl (Tr.all_ret rfl)
 by_cases h7:k=6
 ·subst h7;exact Tr.all_f rfl (Tr.all_ret rfl)
 by_cases h8:k=16
 ·subst h8;exact Tr.all_f rfl (Tr.all_ret rfl)
 refine Tr.all_t ?_ (Tr.all_ret ?_)
 ·simp[hasM,Vx,Ty.keq,h1,h2,h3,h4,h5,h6,h7,h8]
 ·simp[layV,h1,h2,h3,h4,h5,h6,h7,h8]
noncomputable def b92:Code:=X5 c92 0
def ls92:LoopSpec:={ bid:=0,sh:=[.d .str false,.row 0,.d (.list (.int .i64)) false,.d (.int .i64) false,.d (.int .i64) false],so:=[.row .str],F:=fun(d,ps,n,i,_) (l,_)=>.on2 (cutC d ps n i l) ((cutS ps d l).1) (.exit 0,[.str (cutS ps d l).2.1,.dead,.dead,.rowA 0],[.row .str (cutS ps d l).2.2]) (.ret,[.str (cutS ps d l).2.1,.rowA 0,.bool false,.rowA 1],[.row .str [],.row .str (cutS ps d l).2.2]) }
def r92 (d:List UInt8) (ps:List Int) (n i:Int) (l:List (List UInt8)):Tr (St⊕(Ex×St)):=.br (decide (i < n)) (.br (decide (0≤i)) (.br (decide (i < (↑ps.length:Int))) (.br (ps.getD i.toNat (Ty.dflt (Ty.int .i64))==(-1:Int)) (.br (bigS d) (.br (decide ((↑(V0 d):Int) > (↑d.length:Int))) (.ret (.inr (.ret,stOf [1,4,5,6] [.str d,.rowA 0,.bool false,.rowA 1] [.row Ty.str [],.row Ty.str l]))) (.br (ps.getD i.toNat (Ty.dflt (Ty.int .i64))==(-1:Int)) (.br ((↑(V0 d):Int)==0) (.ret (.inr (.ret,stOf [1,4,5,6] [.str d,.rowA 0,.bool false,.rowA 1] [.row Ty.str [],.row Ty.str l]))) (.br (decide (0≤(↑(V0 d):Int))&&decide ((↑(V0 d):Int)≤(↑d.length:Int))) (.br (fits (List.length l+1) 16) (.br (decide (0≤(↑d.length:Int))&&decide ((↑d.length:Int)≤(↑d.length:Int))) (.br (decide (0≤(↑(V0 d):Int))&&decide ((↑(V0 d):Int)≤(↑d.length:Int))) (.ret (.inl (stOf [1,6,11,12,13] [.str (List.take (Int.toNat (↑d.length:Int) - Int.toNat (↑(V0 d):Int)) (List.drop (Int.toNat (↑(V0 d):Int)) d)),.rowA 0,.list (.int .i64) ps,.int .i64 n,.int .i64 (IntKind.wrap .i64 (i+1))] [.row Ty.str (l++[List.take (Int.toNat (↑(V0 d):Int) - Int.toNat 0) (List.drop (Int.toNat 0) d)])]))) .no) .no) .no) .no)) (.br (decide (0≤(↑(V0 d):Int))&&decide ((↑(V0 d):Int)≤(↑d.length:Int))) (.br (fits (List.length l+1) 16) (.br (decide (0≤(↑d.length:Int))&&decide ((↑d.length:Int)≤(↑d.length:Int))) (.br (decide (0≤(↑(V0 d):Int))&&decide ((↑(V0 d):Int)≤(↑d.length:Int))) (.ret (.inl (stOf [1,6,11,12,13] [.str (List.take (Int.toNat (↑d.length:Int) - Int.toNat (↑(V0 d):Int)) (List.drop (Int.toNat (↑(V0 d):Int)) d)),.rowA 0,.list (.int .i64) ps,.int .i64 n,.int .i64 (IntKind.wrap .i64 (i+1))] [.row Ty.str (l++[List.take (Int.toNat (↑(V0 d):Int) - Int.toNat 0) (List.drop (Int.toNat 0) d)])]))) .no) .no) .no) .no))) .no) (.br (ps.getD i.toNat (Ty.dflt (Ty.int .i64))==(-2:Int)) (.br (bigS d) (.br (Xs d) (.br (decide ((↑d.length:Int) > (↑d.length:Int))) (.ret (.inr (.ret,stOf [1,4,5,6] [.str d,.rowA 0,.bool false,.rowA 1] [.row Ty.str [],.row Ty.str l]))) (.br (ps.getD i.toNat (Ty.dflt (Ty.int .i64))==(-1:Int)) (.br ((↑d.length:Int)==0) (.ret (.inr (.ret,stOf [1,4,5,6] [.str d,.rowA 0,.bool false,.rowA 1] [.row Ty.str [],.row Ty.str l]))) (.br (decide (0≤(↑d.length:Int))&&decide ((↑d.length:Int)≤(↑d.length:Int))) (.br (fits (List.length l+1) 16) (.br (decide (0≤(↑d.length:Int))&&decide ((↑d.length:Int)≤(↑d.length:Int))) (.br (decide (0≤(↑d.length:Int))&&decide ((↑d.length:Int)≤(↑d.length:Int))) (.ret (.inl (stOf [1,6,11,12,13] [.str (List.take (Int.toNat (↑d.length:Int) - Int.toNat (↑d.length:Int)) (List.drop (Int.toNat (↑d.length:Int)) d)),.rowA 0,.list (.int .i64) ps,.int .i64 n,.int .i64 (IntKind.wrap .i64 (i+1))] [.row Ty.str (l++[List.take (Int.toNat (↑d.length:Int) - Int.toNat 0) (List.drop (Int.toNat 0) d)])]))) .no) .no) .no) .no)) (.br (decide (0≤(↑d.length:Int))&&decide ((↑d.length:Int)≤(↑d.length:Int))) (.br (fits (List.length l+1) 16) (.br (decide (0≤(↑d.length:Int))&&decide ((↑d.length:Int)≤(↑d.length:Int))) (.br (decide (0≤(↑d.length:Int))&&decide ((↑d.length:Int)≤(↑d.length:Int))) (.ret (.inl (stOf [1,6,11,12,13] [.str (List.take (Int.toNat (↑d.length:Int) - Int.toNat (↑d.length:Int)) (List.drop (Int.toNat (↑d.length:Int)) d)),.rowA 0,.list (.int .i64) ps,.int .i64 n,.int .i64 (IntKind.wrap .i64 (i+1))] [.row Ty.str (l++[List.take (Int.toNat (↑d.length:Int) - Int.toNat 0) (List.drop (Int.toNat 0) d)])]))) .no) .no) .no) .no))) (.br (ps.getD i.toNat (Ty.dflt (Ty.int .i64))==(-3:Int)) (.br (decide ((↑d.length:Int) > (↑d.length:Int))) (.ret (.inr (.ret,stOf [1,4,5,6] [.str d,.rowA 0,.bool false,.rowA 1] [.row Ty.str [],.row Ty.str l]))) (.br (ps.getD i.toNat (Ty.dflt (Ty.int .i64))==(-1:Int)) (.br ((↑d.length:Int)==0) (.ret (.inr (.ret,stOf [1,4,5,6] [.str d,.rowA 0,.bool false,.rowA 1] [.row Ty.str [],.row Ty.str l]))) (.br (decide (0≤(↑d.length:Int))&&decide ((↑d.length:Int)≤(↑d.length:Int))) (.br (fits (List.length l+1) 16) (.br (decide (0≤(↑d.length:Int))&&decide ((↑d.length:Int)≤(↑d.length:Int))) (.br (decide (0≤(↑d.length:Int))&&decide ((↑d.length:Int)≤(↑d.length:Int))) (.ret (.inl (stOf [1,6,11,12,13] [.str (List.take (Int.toNat (↑d.length:Int) - Int.toNat (↑d.length:Int)) (List.drop (Int.toNat (↑d.length:Int)) d)),.rowA 0,.list (.int .i64) ps,.int .i64 n,.int .i64 (IntKind.wrap .i64 (i+1))] [.row Ty.str (l++[List.take (Int.toNat (↑d.length:Int) - Int.toNat 0) (List.drop (Int.toNat 0) d)])]))) .no) .no) .no) .no)) (.br (decide (0≤(↑d.length:Int))&&decide ((↑d.length:Int)≤(↑d.length:Int))) (.br (fits (List.length l+1) 16) (.br (decide (0≤(↑d.length:Int))&&decide ((↑d.length:Int)≤(↑d.length:Int))) (.br (decide (0≤(↑d.length:Int))&&decide ((↑d.length:Int)≤(↑d.length:Int))) (.ret (.inl (stOf [1,6,11,12,13] [.str (List.take (Int.toNat (↑d.length:Int) - Int.toNat (↑d.length:Int)) (List.drop (Int.toNat (↑d.length:Int)) d)),.rowA 0,.list (.int .i64) ps,.int .i64 n,.int .i64 (IntKind.wrap .i64 (i+1))] [.row Ty.str (l++[List.take (Int.toNat (↑d.length:Int) - Int.toNat 0) (List.drop (Int.toNat 0) d)])]))) .no) .no) .no) .no))) (.br (decide (ps.getD i.toNat (Ty.dflt (Ty.int .i64)) < 0)) (.ret (.inr (.ret,stOf [1,4,5,6] [.str d,.rowA 0,.bool false,.rowA 1] [.row Ty.str [],.row Ty.str l]))) (.br (decide (ps.getD i.toNat (Ty.dflt (Ty.int .i64)) > (↑d.length:Int))) (.ret (.inr (.ret,stOf [1,4,5,6] [.str d,.rowA 0,.bool false,.rowA 1] [.row Ty.str [],.row Ty.str l]))) (.br (ps.getD i.toNat (Ty.dflt (Ty.int .i64))==(-1:Int)) (.br (ps.getD i.toNat (Ty.dflt (Ty.int .i64))==0) (.ret (.inr (.ret,stOf [1,4,5,6] [.str d,.rowA 0,.bool false,.rowA 1] [.row Ty.str [],.row Ty.str l]))) (.br (decide (0≤List.getD ps i.toNat (Ty.dflt (Ty.int .i64)))&&decide (ps.getD i.toNat (Ty.dflt (Ty.int .i64))≤(↑d.length:Int))) (.br (decide (0≤0)&&decide (0≤List.getD ps i.toNat (Ty.dflt (Ty.int .i64)))) (.br (fits (List.length l+1) 16) (.br (decide (0≤(↑d.length:Int))&&decide ((↑d.length:Int)≤(↑d.length:Int))) (.br (decide (0≤List.getD ps i.toNat (Ty.dflt (Ty.int .i64)))&&decide (ps.getD i.toNat (Ty.dflt (Ty.int .i64))≤(↑d.length:Int))) (.ret (.inl (stOf [1,6,11,12,13] [.str (List.take (Int.toNat (↑d.length:Int) - Int.toNat (ps.getD i.toNat (Ty.dflt (Ty.int .i64)))) (List.drop (Int.toNat (ps.getD i.toNat (Ty.dflt (Ty.int .i64)))) d)),.rowA 0,.list (.int .i64) ps,.int .i64 n,.int .i64 (IntKind.wrap .i64 (i+1))] [.row Ty.str (l++[List.take (Int.toNat (ps.getD i.toNat (Ty.dflt (Ty.int .i64))) - Int.toNat 0) (List.drop (Int.toNat 0) d)])]))) .no) .no) .no) .no) .no)) (.br (decide (0≤List.getD ps i.toNat (Ty.dflt (Ty.int .i64)))&&decide (ps.getD i.toNat (Ty.dflt (Ty.int .i64))≤(↑d.length:Int))) (.br (decide (0≤0)&&decide (0≤List.getD ps i.toNat (Ty.dflt (Ty.int .i64)))) (.br (fits (List.length l+1) 16) (.br (decide (0≤(↑d.length:Int))&&decide ((↑d.length:Int)≤(↑d.length:Int))) (.br (decide (0≤List.getD ps i.toNat (Ty.dflt (Ty.int .i64)))&&decide (ps.getD i.toNat (Ty.dflt (Ty.int .i64))≤(↑d.length:Int))) (.ret (.inl (stOf [1,6,11,12,13] [.str (List.take (Int.toNat (↑d.length:Int) - Int.toNat (ps.getD i.toNat (Ty.dflt (Ty.int .i64)))) (List.drop (Int.toNat (ps.getD i.toNat (Ty.dflt (Ty.int .i64)))) d)),.rowA 0,.list (.int .i64) ps,.int .i64 n,.int .i64 (IntKind.wrap .i64 (i+1))] [.row Ty.str (l++[List.take (Int.toNat (ps.getD i.toNat (Ty.dflt (Ty.int .i64))) - Int.toNat 0) (List.drop (Int.toNat 0) d)])]))) .no) .no) .no) .no) .no)))))) .no) (.br (ps.getD i.toNat (Ty.dflt (Ty.int .i64))==(-3:Int)) (.br (decide ((↑d.length:Int) > (↑d.length:Int))) (.ret (.inr (.ret,stOf [1,4,5,6] [.str d,.rowA 0,.bool false,.rowA 1] [.row Ty.str [],.row Ty.str l]))) (.br (ps.getD i.toNat (Ty.dflt (Ty.int .i64))==(-1:Int)) (.br ((↑d.length:Int)==0) (.ret (.inr (.ret,stOf [1,4,5,6] [.str d,.rowA 0,.bool false,.rowA 1] [.row Ty.str [],.row Ty.str l]))) (.br (decide (0≤(↑d.length:Int))&&decide ((↑d.length:Int)≤(↑d.length:Int))) (.br (fits (List.length l+1) 16) (.br (decide (0≤(↑d.length:Int))&&decide ((↑d.length:Int)≤(↑d.length:Int))) (.br (decide (0≤(↑d.length:Int))&&decide ((↑d.length:Int)≤(↑d.length:Int))) (.ret (.inl (stOf [1,6,11,12,13] [.str (List.take (Int.toNat (↑d.length:Int) - Int.toNat (↑d.length:Int)) (List.drop (Int.toNat (↑d.length:Int)) d)),.rowA 0,.list (.int .i64) ps,.int .i64 n,.int .i64 (IntKind.wrap .i64 (i+1))] [.row Ty.str (l++[List.take (Int.toNat (↑d.length:Int) - Int.toNat 0) (List.drop (Int.toNat 0) d)])]))) .no) .no) .no) .no)) (.br (decide (0≤(↑d.length:Int))&&decide ((↑d.length:Int)≤(↑d.length:Int))) (.br (fits (List.length l+1) 16) (.br (decide (0≤(↑d.length:Int))&&decide ((↑d.length:Int)≤(↑d.length:Int))) (.br (decide (0≤(↑d.length:Int))&&decide ((↑d.length:Int)≤(↑d.length:Int))) (.ret (.inl (stOf [1,6,11,12,13] [.str (List.take (Int.toNat (↑d.length:Int) - Int.toNat (↑d.length:Int)) (List.drop (Int.toNat (↑d.length:Int)) d)),.rowA 0,.list (.int .i64) ps,.int .i64 n,.int .i64 (IntKind.wrap .i64 (i+1))] [.row Ty.str (l++[List.take (Int.toNat (↑d.length:Int) - Int.toNat 0) (List.drop (Int.toNat 0) d)])]))) .no) .no) .no) .no))) (.br (decide (ps.getD i.toNat (Ty.dflt (Ty.int .i64)) < 0)) (.ret (.inr (.ret,stOf [1,4,5,6] [.str d,.rowA 0,.bool false,.rowA 1] [.row Ty.str [],.row Ty.str l]))) (.br (decide (ps.getD i.toNat (Ty.dflt (Ty.int .i64)) > (↑d.length:Int))) (.ret (.inr (.ret,stOf [1,4,5,6] [.str d,.rowA 0,.bool false,.rowA 1] [.row Ty.str [],.row Ty.str l]))) (.br (ps.getD i.toNat (Ty.dflt (Ty.int .i64))==(-1:Int)) (.br (ps.getD i.toNat (Ty.dflt (Ty.int .i64))==0) (.ret (.inr (.ret,stOf [1,4,5,6] [.str d,.rowA 0,.bool false,.rowA 1] [.row Ty.str [],.row Ty.str l]))) (.br (decide (0≤List.getD ps i.toNat (Ty.dflt (Ty.int .i64)))&&decide (ps.getD i.toNat (Ty.dflt (Ty.int .i64))≤(↑d.length:Int))) (.br (decide (0≤0)&&decide (0≤List.getD ps i.toNat (Ty.dflt (Ty.int .i64)))) (.br (fits (List.length l+1) 16) (.br (decide (0≤(↑d.length:Int))&&decide ((↑d.length:Int)≤(↑d.length:Int))) (.br (decide (0≤List.getD ps i.toNat (Ty.dflt (Ty.int .i64)))&&decide (ps.getD i.toNat (Ty.dflt (Ty.int .i64))≤(↑d.length:Int))) (.ret (.inl (stOf [1,6,11,12,13] [.str (List.take (Int.toNat (↑d.length:Int) - Int.toNat (ps.getD i.toNat (Ty.dflt (Ty.int .i64)))) (List.drop (Int.toNat (ps.getD i.toNat (Ty.dflt (Ty.int .i64)))) d)),.rowA 0,.list (.int .i64) ps,.int .i64 n,.int .i64 (IntKind.wrap .i64 (i+1))] [.row Ty.str (l++[List.take (Int.toNat (ps.getD i.toNat (Ty.dflt (Ty.int .i64))) - Int.toNat 0) (List.drop (Int.toNat 0) d)])]))) .no) .no) .no) .no) .no)) (.br (decide (0≤List.getD ps i.toNat (Ty.dflt (Ty.int .i64)))&&decide (ps.getD i.toNat (Ty.dflt (Ty.int .i64))≤(↑d.length:Int))) (.br (decide (0≤0)&&decide (0≤List.getD ps i.toNat (Ty.dflt (Ty.int .i64)))) (.br (fits (List.length l+1) 16) (.br (decide (0≤(↑d.length:Int))&&decide ((↑d.length:Int)≤(↑d.length:Int))) (.br (decide (0≤List.getD ps i.toNat (Ty.dflt (Ty.int .i64)))&&decide (ps.getD i.toNat (Ty.dflt (Ty.int .i64))≤(↑d.length:Int))) (.ret (.inl (stOf [1,6,11,12,13] [.str (List.take (Int.toNat (↑d.length:Int) - Int.toNat (ps.getD i.toNat (Ty.dflt (Ty.int .i64)))) (List.drop (Int.toNat (ps.getD i.toNat (Ty.dflt (Ty.int .i64)))) d)),.rowA 0,.list (.int .i64) ps,.int .i64 n,.int .i64 (IntKind.wrap .i64 (i+1))] [.row Ty.str (l++[List.take (Int.toNat (ps.getD i.toNat (Ty.dflt (Ty.int .i64))) - Int.toNat 0) (List.drop (Int.toNat 0) d)])]))) .no) .no) .no) .no) .no))))))) .no) .no) (.ret (.inr (.exit 0,stOf [1,4,5,6] [.str d,.dead,.dead,.rowA 0] [.row Ty.str l])))
theorem J54 (lp:Lp) (d:List UInt8) (ps:List Int) (n i:Int) (l:List (List UInt8)):evC T0 (orcB [Jj,J0t,V0s] []) lp b92 0 (stOf [1,6,11,12,13] [.str d,.rowA 0,.list (.int .i64) ps,.int .i64 n,.int .i64 i] [.row .str l]) (V1 [1,6,11,12,13] [1,4,5,6] 0)=(r92 d ps n i l).get:=by kernel_rfl
theorem wf92 (ps:List Int) (n:Int) (I'':List UInt8→Int→List (List UInt8)→Prop) (m'':List UInt8→Int→List (List UInt8)→Nat) (r'':Ex×St) (h:∀ (d:List UInt8) (i:Int) (l:List (List UInt8)),I'' d i l→(r92 d ps n i l).all fun x''=>x''=.inr r''∨∃ (d':List UInt8) (i':Int) (l':List (List UInt8)),x''=.inl (stOf [1,6,11,12,13] [.str d',.rowA 0,.list (.int .i64) ps,.int .i64 n,.int .i64 i'] [.row .str l'])∧I'' d' i' l'∧m'' d' i' l' < m'' d i l) (lp:Lp) (d:List UInt8) (i:Int) (l:List (List UInt8)):I'' d i l→
    Z4 (fun st=>evC T0 (orcB [Jj,J0t,V0s] []) lp b92 0 st (V1 [1,6,11,12,13] [1,4,5,6] 0)) (stOf [1,6,11,12,13] [.str d,.rowA 0,.list (.int .i64) ps,.int .i64 n,.int .i64 i] [.row .str l])=some r'':=
 Q5 (fun a'':List UInt8×Int×List (List UInt8)=>stOf [1,6,11,12,13] [.str a''.1,.rowA 0,.list (.int .i64) ps,.int .i64 n,.int .i64 a''.2.1] [.row .str a''.2.2]) (fun a''=>I'' a''.1 a''.2.1 a''.2.2) (fun a''=>m'' a''.1 a''.2.1 a''.2.2) r'' (fun a''=>r92 a''.1 ps n a''.2.1 a''.2.2)
  (fun a'' x hx=>(J54 lp a''.1 ps n a''.2.1 a''.2.2).trans hx) (fun a'' ha=>Tr.all_mono (fun x'' hx=>hx.imp id fun⟨d',i',l',h1,h2,h3⟩=>⟨(d',i',l'),h1,h2,h3⟩) (h (a''.1) (a''.2.1) (a''.2.2) ha)) (d,i,l)
def cutI (ps0:List Int) (d0:List UInt8) (l0:List (List UInt8)) (d:List UInt8) (i:Int) (l:List (List UInt8)):Prop:=0≤i∧i≤ps0.length∧bigS d=true∧l.length=i.toNat∧cutS (ps0.drop i.toNat) d l=cutS ps0 d0 l0
theorem Q1q {P:St⊕(Ex×St)→Prop} {d:List UInt8} {l:List (List UInt8)} {ps:List Int} {n i sz:Int} (h0:0≤sz) (h1:sz≤d.length) (hf:fits (l.length+1) 16=true)
    (hr:P (Sum.inl (stOf [1,6,11,12,13] [AV.str (d.drop sz.toNat),AV.rowA 0,AV.list (Ty.int IntKind.i64) ps,AV.int IntKind.i64 n,AV.int IntKind.i64 (IntKind.wrap IntKind.i64 (i+(1:Int)))] [LObj.row Ty.str (l++[d.take sz.toNat])]))) :
    (Tr.br (decide ((0:Int)≤sz)&&decide (sz≤(↑(List.length d):Int))) (Tr.br (fits (List.length l+1) 16) (Tr.br (decide ((0:Int)≤(↑(List.length d):Int))&&decide ((↑(List.length d):Int)≤(↑(List.length d):Int))) (Tr.br (decide ((0:Int)≤sz)&&decide (sz≤(↑(List.length d):Int)))
     (Tr.ret (Sum.inl (stOf [1,6,11,12,13] [AV.str (List.take (Int.toNat (↑(List.length d):Int) - Int.toNat sz) (List.drop (Int.toNat sz) d)),AV.rowA 0,AV.list (Ty.int IntKind.i64) ps,AV.int IntKind.i64 n,AV.int IntKind.i64 (IntKind.wrap IntKind.i64 (i+(1:Int)))] [LObj.row Ty.str (l++[List.take (Int.toNat sz - Int.toNat (0:Int)) (List.drop (Int.toNat (0:Int)) d)])]))) Tr.no) Tr.no) Tr.no) Tr.no).all P:=by
 have e:List.take (Int.toNat (↑(List.length d):Int) - Int.toNat sz) (List.drop (Int.toNat sz) d)=d.drop sz.toNat:=List.take_of_length_le (by simp)
 have e2:List.take (Int.toNat sz - Int.toNat (0:Int)) (List.drop (Int.toNat (0:Int)) d)=d.take sz.toNat:=rfl
 rw[e,e2]
 refine Tr.all_t (by rw[J0 h0,J0 h1];rfl) (Tr.all_t hf (Tr.all_t (by rw[J0 (by omega),J0 (by omega)];rfl) (Tr.all_t (by rw[J0 h0,J0 h1];rfl) (Tr.all_ret hr))))
theorem V3n {P:St⊕(Ex×St)→Prop} {d:List UInt8} {l:List (List UInt8)} {ps:List Int} {n i sz:Int} (h0:0≤sz) (h1:sz≤d.length) (hf:fits (l.length+1) 16=true)
    (hr:P (Sum.inl (stOf [1,6,11,12,13] [AV.str (d.drop sz.toNat),AV.rowA 0,AV.list (Ty.int IntKind.i64) ps,AV.int IntKind.i64 n,AV.int IntKind.i64 (IntKind.wrap IntKind.i64 (i+(1:Int)))] [LObj.row Ty.str (l++[d.take sz.toNat])]))) :
    (Tr.br (decide ((0:Int)≤sz)&&decide (sz≤(↑(List.length d):Int))) (Tr.br (decide ((0:Int)≤(0:Int))&&decide ((0:Int)≤sz)) (Tr.br (fits (List.length l+1) 16) (Tr.br (decide ((0:Int)≤(↑(List.length d):Int))&&decide ((↑(List.length d):Int)≤(↑(List.length d):Int))) (Tr.br (decide ((0:Int)≤sz)&&decide (sz≤(↑(List.length d):Int)))
     (Tr.ret (Sum.inl (stOf [1,6,11,12,13] [AV.str (List.take (Int.toNat (↑(List.length d):Int) - Int.toNat sz) (List.drop (Int.toNat sz) d)),AV.rowA 0,AV.list (Ty.int IntKind.i64) ps,AV.int IntKind.i64 n,AV.int IntKind.i64 (IntKind.wrap IntKind.i64 (i+(1:Int)))] [LObj.row Ty.str (l++[List.take (Int.toNat sz - Int.toNat (0:Int)) (List.drop (Int.toNat (0:Int)) d)])]))) Tr.no) Tr.no) Tr.no) Tr.no) Tr.no).all P:=by
 have e:List.take (Int.toNat (↑(List.length d):Int) - Int.toNat sz) (List.drop (Int.toNat sz) d)=d.drop sz.toNat:=List.take_of_length_le (by simp)
 have e2:List.take (Int.toNat sz - Int.toNat (0:Int)) (List.drop (Int.toNat (0:Int)) d)=d.take sz.toNat:=rfl
 rw[e,e2]
 refine Tr.all_t (by rw[J0 h0,J0 h1];rfl) (Tr.all_t (by rw[J0 h0];rfl) (Tr.all_t hf (Tr.all_t (by rw[J0 (by omega),J0 (by omega)];rfl) (Tr.all_t (by rw[J0 h0,J0 h1];rfl) (Tr.all_ret hr)))))
theorem Z5z:ls92.Ok T0 (orcB [Jj,J0t,V0s] []) h92 0 0 b92:=by
 intro q'' hq'' x'' y'' r'' h
 obtain⟨(d:List UInt8),(ps:List Int),(n:Int),(i:Int),_⟩:=x''
 obtain⟨(l:List (List UInt8)),_⟩:=y''
 obtain⟨hc,rfl⟩:=Tr.get_on2 h
 show Z4 (fun st=>evC T0 (orcB [Jj,J0t,V0s] []) (lpN T0 (orcB [Jj,J0t,V0s] []) h92 0 q'') b92 0 st (V1 [1,6,11,12,13] [1,4,5,6] 0)) (stOf [1,6,11,12,13] [.str d,.rowA 0,.list (.int .i64) ps,.int .i64 n,.int .i64 i] [.row .str l])=some ((bif (cutS ps d l).1 then (.exit 0,[.str (cutS ps d l).2.1,.dead,.dead,.rowA 0],[.row .str (cutS ps d l).2.2]) else (.ret,[.str (cutS ps d l).2.1,.rowA 0,.bool false,.rowA 1],[.row .str [],.row .str (cutS ps d l).2.2]):Ex×List AV×List LObj).1,stOf [1,4,5,6] (bif (cutS ps d l).1 then (.exit 0,[.str (cutS ps d l).2.1,.dead,.dead,.rowA 0],[.row .str (cutS ps d l).2.2]) else (.ret,[.str (cutS ps d l).2.1,.rowA 0,.bool false,.rowA 1],[.row .str [],.row .str (cutS ps d l).2.2]):Ex×List AV×List LObj).2.1 (bif (cutS ps d l).1 then (.exit 0,[.str (cutS ps d l).2.1,.dead,.dead,.rowA 0],[.row .str (cutS ps d l).2.2]) else (.ret,[.str (cutS ps d l).2.1,.rowA 0,.bool false,.rowA 1],[.row .str [],.row .str (cutS ps d l).2.2]):Ex×List AV×List LObj).2.2)
 simp only[cutC,Bool.and_eq_true,decide_eq_true_eq,noS,List.isEmpty_iff] at hc
 obtain⟨hb,rfl,rfl,rfl,hps⟩:=hc
 refine wf92 ps _ (cutI ps d []) (fun _ i _=>(ps.length - i).toNat) _ ?_ _ d 0 [] ⟨by omega,by omega,hb,rfl,rfl⟩
 clear hb
 rintro d' i l' ⟨h0,h1,hb,hl,hF⟩
 rw[←hF]
 have hB:d'.length≤1000000000000:=by simpa[bigS] using hb
 unfold r92
 by_cases hi:i < ps.length
 ·obtain⟨d1,_⟩:=Xp (Ty.dflt (Ty.int .i64)) h0 hi
  generalize List.getD ps (Int.toNat i) (Ty.dflt (Ty.int .i64))=x at d1
  rw[d1,cutS] at hF ⊢
  have hfit:fits (l'.length+1) 16=true:=U7 (by omega) (by omega)
  have hw:IntKind.wrap .i64 (i+1)=i+1:=IntWalk.i64_in _ (by omega)
  have V2u:∀ sz,szP x d'=sz→okP x d'=true→cutI ps d [] (d'.drop sz.toNat) (IntKind.wrap .i64 (i+1)) (l'++[d'.take sz.toNat])∧(ps.length - IntKind.wrap .i64 (i+1)).toNat < (ps.length - i).toNat:=fun sz hs ho=>by
   subst hs
   rw[hw]
   refine⟨⟨by omega,by omega,by simp[bigS];omega,by simp;omega,?_⟩,by omega⟩
   rw[←hF,if_pos ho]
  have hwh:=Zs d'
  have hfail:okP x d'=false→(if okP x d'=true then cutS (List.drop (i+1).toNat ps) (List.drop (szP x d').toNat d') (l'++[List.take (szP x d').toNat d']) else (false,d',l'))=(false,d',l'):=fun h=>if_neg (by rw[h];simp)
  refine Tr.all_t (J0 hi) (Tr.all_t (J0 h0) (Tr.all_t (J0 hi) ?_))
  by_cases x1:x=-1
  ·have es:szP x d'=(V0 d':Int):=by unfold szP;rw[if_pos x1]
   have eo:okP x d' = !decide ((V0 d':Int)=0):=by
    unfold okP
    rw[es,J0 (by omega),J0 (by omega),J0 x1]
    rfl
   refine Tr.all_t (beq_iff_eq.2 x1) (Tr.all_t hb (Tr.all_f (J1 (by omega)) (Tr.all_t (beq_iff_eq.2 x1) (Tr.all_br (fun c=>Tr.all_ret (.inl ?_)) fun c=>Q1q (by omega) (by omega) hfit (.inr ⟨_,_,_,rfl,V2u _ es ?_⟩)))))
   ·rw[hfail (by rw[eo,J0 (beq_iff_eq.1 c)];rfl)]
    rfl
   ·rw[eo,J1 (beq_eq_false_iff_ne.1 c)]
    rfl
  have hx1:(x == -1)=false:=beq_eq_false_iff_ne.2 x1
  have other:¬ (x=-2∧Xs d'=true∨x=-3)→szP x d'=x∧okP x d'=(decide (0≤x)&&decide (x≤(d'.length:Int))):=fun h=>by
   have es:szP x d'=x:=by unfold szP;rw[if_neg x1,if_neg h]
   refine⟨es,?_⟩
   unfold okP
   rw[es,J1 x1]
   simp
  have full:(x=-2∧Xs d'=true∨x=-3)→szP x d'=(d'.length:Int)∧okP x d'=true:=fun h=>by
   have es:szP x d'=(d'.length:Int):=by unfold szP;rw[if_neg x1,if_pos h]
   refine⟨es,?_⟩
   unfold okP
   rw[es,J1 x1]
   simp
  refine Tr.all_f hx1 (Tr.all_br (fun c2=>Tr.all_t hb (Tr.all_br (fun ct=>?_) fun ct=>?_)) fun c2=>?_)
  ·obtain⟨es,eo⟩:=full (.inl ⟨beq_iff_eq.1 c2,ct⟩)
   exact Tr.all_f (J1 (by omega)) (Tr.all_f hx1 (Q1q (by omega) (by omega) hfit (.inr ⟨_,_,_,rfl,V2u _ es eo⟩)))
  ·have hx2:=beq_iff_eq.1 c2
   obtain⟨es,eo⟩:=other (by rw[ct];simp;omega)
   refine Tr.all_f (beq_eq_false_iff_ne.2 (by omega)) (Tr.all_t (J0 (by omega)) (Tr.all_ret (.inl ?_)))
   rw[hfail (by rw[eo,J1 (by omega)];rfl)]
   rfl
  ·refine Tr.all_br (fun c3=>?_) fun c3=>?_
   ·obtain⟨es,eo⟩:=full (.inr (beq_iff_eq.1 c3))
    exact Tr.all_f (J1 (by omega)) (Tr.all_f hx1 (Q1q (by omega) (by omega) hfit (.inr ⟨_,_,_,rfl,V2u _ es eo⟩)))
   ·have hx2:=beq_eq_false_iff_ne.1 c2
    have hx3:=beq_eq_false_iff_ne.1 c3
    obtain⟨es,eo⟩:=other (by omega)
    refine Tr.all_br (fun c4=>Tr.all_ret (.inl ?_)) fun c4=>Tr.all_br (fun c5=>Tr.all_ret (.inl ?_)) fun c5=>?_
    ·simp only[decide_eq_true_eq] at c4
     rw[hfail (by rw[eo,J1 (by omega)];rfl)]
     rfl
    ·simp only[decide_eq_true_eq] at c5
     rw[hfail (by rw[eo,J1 (show ¬ x≤(d'.length:Int) by omega),Bool.and_false])]
     rfl
    ·simp only[decide_eq_false_iff_not] at c4 c5
     exact Tr.all_f hx1 (V3n (by omega) (by omega) hfit (.inr ⟨_,_,_,rfl,V2u _ es (by rw[eo,J0 (by omega),J0 (by omega)];rfl)⟩))
 ·have:ps.drop i.toNat=[]:=List.drop_eq_nil_of_le (by omega)
  rw[this]
  exact Tr.all_f (J1 hi) (Tr.all_ret (.inl rfl))
def t92 (k:Int) (d:List UInt8):Tr Res:=.br (cutC d (layV k) (↑(List.length (layV k)):Int) 0 []) (.br (cutS (layV k) d []).1 (.ret ([.list Ty.str (cutS (layV k) d []).2.2,.bool ((cutS (layV k) d []).2.1==[])],[])) (.ret ([.list Ty.str [],.bool false],[]))) .no
def os92:OSpec:={ f:=92,sh:=[.d (.int .u16) false,.d .str false],so:=[],F:=fun(k,d,_) _=>t92 k d }
theorem fn92 (k:Int) (d:List UInt8):evC T0 (orcB [Jj,J0t,V0s] []) (lpOf h92 0 (lsOf [ls92])) c92 1000000 (J2 [.int .u16 k,.str d] [] Try.f92.ntmps) (Z1 T0 false 0 Try.f92)=(t92 k d).get:=by kernel_rfl
theorem ok92:os92.Ok Try.prog:=by
 refine U4 J3 tab0 (U0 (all_cons Z1f (all_cons Z4u (all_cons V4v all_nil))) all_nil) h92 (d:=0) (n0:=0) (S:=lsOf [ls92]) Try.func92 (by kernel_rfl) (c:=c92) (by kernel_rfl) rfl (U5 (xs:=[(0,b92)]) (by kernel_rfl) (all_cons (U6 Z5z) all_nil)) (by omega) (by kernel_rfl) ?_
 intro x'' y'' q'' hq''
 obtain⟨(k:Int),(d:List UInt8),_⟩:=x''
 exact(fn92 k d).trans hq''
def fs92:FSpec:=fsT 92 [((.int .u16),false),(.str,false)] [((.list .str),false),(.bool,false)] fun(k,d,_)=>t92 k d
theorem okf92:fs92.Ok Try.prog:=V5 fun x'' r'' hr''=>ok92 x'' () r'' hr''
theorem J1o (k:Int):(layV k).length≤10:=by
 unfold layV
 repeat' split
 all_goals simp
def X1a:FSpec:=fs92.like fun(k,d,_)=>.on (bigS d) (bif okV k d then Vb k d else [],okV k d&&(X25 k d).isEmpty,())
theorem Z4d:X1a.Ok Try.prog:=by
 refine Q3 okf92 _ ?_
 rintro⟨(k:Int),(d:List UInt8),_⟩ y h
 obtain⟨hb,rfl⟩:=Tr.get_on h
 refine X3 (vs:=[.list .str (bif okV k d then Vb k d else []),.bool (okV k d&&(X25 k d).isEmpty)]) rfl rfl (Tr.get_of_all ?_)
 show (t92 k d).all _
 unfold t92 okV Vb X25
 have hl:=J1o k
 refine Tr.all_t (by simp[cutC,hb,noS,hl]) (Tr.all_br (fun c1=>Tr.all_ret ?_) fun c1=>Tr.all_ret ?_)
 ·rw[c1]
  have:((cutS (layV k) d []).2.1==[])=(cutS (layV k) d []).2.1.isEmpty:=by cases (cutS (layV k) d []).2.1<;>rfl
  rw[this]
  rfl
 ·rw[c1]
  rfl
def t69 (k:Int) (d:List UInt8):Tr Res:=.br (bigS d) (.br (okV k d&&List.isEmpty (X25 k d)) (.ret ([.bool (decide ((↑d.length:Int)≤65535))],[])) (.ret ([.bool false],[]))) .no
def os69:OSpec:={ f:=69,sh:=[.d (.int .u16) false,.d .str false],so:=[],F:=fun(k,d,_) _=>t69 k d }
theorem fn69 (k:Int) (d:List UInt8):evC T0 (orcB [Jj,X1a] []) (lpOf h69 0 (lsOf [])) c69 1000000 (J2 [.int .u16 k,.str d] [] Try.f69.ntmps) (Z1 T0 false 0 Try.f69)=(t69 k d).get:=by kernel_rfl
theorem ok69:os69.Ok Try.prog:=by
 refine U4 J3 tab0 (U0 (all_cons Z1f (all_cons Z4d all_nil)) all_nil) h69 (d:=0) (n0:=0) (S:=lsOf []) Try.func69 (by kernel_rfl) (c:=c69) (by kernel_rfl) rfl (V3 (by kernel_rfl)) (by omega) (by kernel_rfl) ?_
 intro x'' y'' q'' hq''
 obtain⟨(k:Int),(d:List UInt8),_⟩:=x''
 exact(fn69 k d).trans hq''
def fs69:FSpec:=fsT 69 [((.int .u16),false),(.str,false)] [(.bool,false)] fun(k,d,_)=>t69 k d
theorem okf69:fs69.Ok Try.prog:=V5 fun x'' r'' hr''=>ok69 x'' () r'' hr''
def Z02:FSpec:=fs69.like fun(k,d,_)=>.on (bigS d) (mayR k d,())
theorem Q2e:Z02.Ok Try.prog:=by
 refine Q3 okf69 _ ?_
 rintro⟨(k:Int),(d:List UInt8),_⟩ y h
 obtain⟨hb,rfl⟩:=Tr.get_on h
 refine X3 (vs:=[.bool (mayR k d)]) rfl rfl (Tr.get_of_all ?_)
 show (t69 k d).all _
 unfold t69 mayR
 refine Tr.all_t hb (Tr.all_br (fun c1=>Tr.all_ret ?_) fun c1=>Tr.all_ret ?_)
 ·rw[c1,Z0w,Bool.true_and]
  congr 3
  rw[Bool.eq_iff_iff]
  simp
  omega
 ·rw[c1]
  rfl
noncomputable def b142:Code:=X5 c142 0
def Q4h:LoopSpec:={ bid:=0,sh:=[.ptr 0 0,.d (.list .str) false,.d (.list (.int .i64)) false,.d (.int .i64) false,.d (.int .i64) false],so:=[.box [.row 1,.mp 2],.row (.int .u8),.map .str (.int .i64)],F:=fun(ls,ps,n,i,_) (_,b,m,_)=>.on (putC ls ps n i b m) (.exit 0,[],[.box [.rowA 1,.mp 2],.row (.int .u8) (Z0 (putS ps ls (X0 b,m)).1),.mpo .str (.int .i64) (putS ps ls (X0 b,m)).2]) }
def r142 (ls:List (List UInt8)) (ps:List Int) (n i:Int) (b:List Int) (m:List (List UInt8×Int)):Tr (St⊕(Ex×St)):=.br (decide (i < n)) (.br (decide (0≤i)) (.br (decide (i < (↑ps.length:Int))) (.br (ps.getD i.toNat (Ty.dflt (Ty.int .i64))==(-1:Int)) (.br (decide (0≤i)) (.br (decide (i < (↑ls.length:Int))) (.br (pkC b m&&Nat.ble (List.length (ls.getD i.toNat (Ty.dflt Ty.str))) 100000000000) (.br (mayV (ls.getD i.toNat (Ty.dflt Ty.str))) (.ret (.inl (stOf [0,7,26,27,28] [.ptr 0 0,.list Ty.str ls,.list (.int .i64) ps,.int .i64 n,.int .i64 (IntKind.wrap .i64 (i+1))] [.boxT none [.rowA 1,.mp 2],.row (.int .u8) (Z0 (V2 (ls.getD i.toNat (Ty.dflt Ty.str)) (X0 b) m).1),.mpo .str (.int .i64) (V2 (ls.getD i.toNat (Ty.dflt Ty.str)) (X0 b) m).2]))) (.ret (.inl (stOf [0,7,26,27,28] [.ptr 0 0,.list Ty.str ls,.list (.int .i64) ps,.int .i64 n,.int .i64 (IntKind.wrap .i64 (i+1))] [.boxT none [.rowA 1,.mp 2],.row (.int .u8) b,.mpo .str (.int .i64) m])))) .no) .no) .no) (.br (decide (0≤i)) (.br (decide (i < (↑ls.length:Int))) (.br (fits (List.length b+List.length (Z0 (ls.getD i.toNat (Ty.dflt Ty.str)))) 1) (.ret (.inl (stOf [0,7,26,27,28] [.ptr 0 0,.list Ty.str ls,.list (.int .i64) ps,.int .i64 n,.int .i64 (IntKind.wrap .i64 (i+1))] [.boxT none [.rowA 1,.mp 2],.row (.int .u8) (b++Z0 (ls.getD i.toNat (Ty.dflt Ty.str))),.mpo .str (.int .i64) m]))) .no) .no) .no)) .no) .no) (.ret (.inr (.exit 0,stOf [] [] [.boxT none [.rowA 1,.mp 2],.row (.int .u8) b,.mpo .str (.int .i64) m])))
theorem V41 (lp:Lp) (ls:List (List UInt8)) (ps:List Int) (n i:Int) (b:List Int) (m:List (List UInt8×Int)):evC T0 (orcB [Jj,X1a,Z02] [Q0c,os98]) lp b142 0 (stOf [0,7,26,27,28] [.ptr 0 0,.list .str ls,.list (.int .i64) ps,.int .i64 n,.int .i64 i] [.box [.rowA 1,.mp 2],.row (.int .u8) b,.mpo .str (.int .i64) m]) (V1 [0,7,26,27,28] [] 3)=(r142 ls ps n i b m).get:=by kernel_rfl
theorem wf142 (ls:List (List UInt8)) (ps:List Int) (n:Int) (I'':Int→List Int→List (List UInt8×Int)→Prop) (m'':Int→List Int→List (List UInt8×Int)→Nat) (r'':Ex×St) (h:∀ (i:Int) (b:List Int) (m:List (List UInt8×Int)),I'' i b m→(r142 ls ps n i b m).all fun x''=>x''=.inr r''∨∃ (i':Int) (b':List Int) (m':List (List UInt8×Int)),x''=.inl (stOf [0,7,26,27,28] [.ptr 0 0,.list .str ls,.list (.int .i64) ps,.int .i64 n,.int .i64 i'] [.box [.rowA 1,.mp 2],.row (.int .u8) b',.mpo .str (.int .i64) m'])∧I'' i' b' m'∧m'' i' b' m' < m'' i b m) (lp:Lp) (i:Int) (b:List Int) (m:List (List UInt8×Int)):I'' i b m→
    Z4 (fun st=>evC T0 (orcB [Jj,X1a,Z02] [Q0c,os98]) lp b142 0 st (V1 [0,7,26,27,28] [] 3)) (stOf [0,7,26,27,28] [.ptr 0 0,.list .str ls,.list (.int .i64) ps,.int .i64 n,.int .i64 i] [.box [.rowA 1,.mp 2],.row (.int .u8) b,.mpo .str (.int .i64) m])=some r'':=
 Q5 (fun a'':Int×List Int×List (List UInt8×Int)=>stOf [0,7,26,27,28] [.ptr 0 0,.list .str ls,.list (.int .i64) ps,.int .i64 n,.int .i64 a''.1] [.box [.rowA 1,.mp 2],.row (.int .u8) a''.2.1,.mpo .str (.int .i64) a''.2.2]) (fun a''=>I'' a''.1 a''.2.1 a''.2.2) (fun a''=>m'' a''.1 a''.2.1 a''.2.2) r'' (fun a''=>r142 ls ps n a''.1 a''.2.1 a''.2.2)
  (fun a'' x hx=>(V41 lp ls ps n a''.1 a''.2.1 a''.2.2).trans hx) (fun a'' ha=>Tr.all_mono (fun x'' hx=>hx.imp id fun⟨i',b',m',h1,h2,h3⟩=>⟨(i',b',m'),h1,h2,h3⟩) (h (a''.1) (a''.2.1) (a''.2.2) ha)) (i,b,m)
def putI (ps0:List Int) (ls0:List (List UInt8)) (p0:PKt) (i:Int) (b:List Int) (m:Z6):Prop:=0≤i∧i≤ps0.length∧∃ p:PKt,b=Z0 p.1∧m=p.2∧kOk p.2=true∧p.1.length≤1000000000+1000000 * i.toNat∧putS (ps0.drop i.toNat) (ls0.drop i.toNat) p=putS ps0 ls0 p0
theorem J58:Q4h.Ok T0 (orcB [Jj,X1a,Z02] [Q0c,os98]) h142 3 0 b142:=by
 intro q'' hq'' x'' y'' r'' h
 obtain⟨(ls:List (List UInt8)),(ps:List Int),(n:Int),(i:Int),_⟩:=x''
 obtain⟨_,(b:List Int),(m:List (List UInt8×Int)),_⟩:=y''
 obtain⟨hc,rfl⟩:=Tr.get_on h
 show Z4 (fun st=>evC T0 (orcB [Jj,X1a,Z02] [Q0c,os98]) (lpN T0 (orcB [Jj,X1a,Z02] [Q0c,os98]) h142 3 q'') b142 0 st (V1 [0,7,26,27,28] [] 3)) (stOf [0,7,26,27,28] [.ptr 0 0,.list .str ls,.list (.int .i64) ps,.int .i64 n,.int .i64 i] [.box [.rowA 1,.mp 2],.row (.int .u8) b,.mpo .str (.int .i64) m])=some (.exit 0,stOf [] ([]) ([.box [.rowA 1,.mp 2],.row (.int .u8) (Z0 (putS ps ls (X0 b,m)).1),.mpo .str (.int .i64) (putS ps ls (X0 b,m)).2]))
 simp only[putC,Bool.and_eq_true,decide_eq_true_eq,List.all_eq_true] at hc
 obtain⟨⟨hok,hk,hb⟩,rfl,rfl,hl,hps,hx⟩:=hc
 have hb:=Nat.le_of_ble_eq_true hb
 refine wf142 ls ps _ (putI ps ls (X0 b,m)) (fun i _ _=>(ps.length - i).toNat) _ ?_ _ 0 b m ⟨by omega,by omega,(X0 b,m),(V0e hok).symm,rfl,hk,by rw[Qj];exact hb,rfl⟩
 clear hok hk hb
 rintro i b' m' ⟨h0,h1,p,rfl,rfl,hk,hpl,hF⟩
 rw[←hF]
 unfold r142
 by_cases hi:i < ps.length
 ·obtain⟨d1,_⟩:=Xp (Ty.dflt (Ty.int .i64)) h0 hi
  obtain⟨e1,e2⟩:=Xp (l:=ls) (Ty.dflt Ty.str) h0 (by omega)
  generalize List.getD ps (Int.toNat i) (Ty.dflt (Ty.int .i64))=x at d1
  generalize List.getD ls (Int.toNat i) (Ty.dflt Ty.str)=y at e1 e2
  have hy:=hx y e2
  rw[d1,e1,putS] at hF
  simp only[List.tail_cons,List.headD_cons] at hF
  have hpk:(pkC (Z0 p.1) p.2&&Nat.ble y.length 100000000000)=true:=by
   unfold pkC
   rw[Zf,hk,J4,Nat.ble_eq_true_of_le (by omega),Nat.ble_eq_true_of_le (by omega)]
   rfl
  have hfb:fits ((Z0 p.1).length+(Z0 y).length) 1=true:=U7 (by rw[J4,J4];omega) (by rw[J4,J4];omega)
  obtain⟨k1,k2⟩:=U3v (p:=p) (x:=(y,false)) hk
  have hil:i < (ls.length:Int):=by omega
  rw[Xn,IntWalk.i64_in _ (by omega),←Ve]
  refine Tr.all_t (J0 hi) (Tr.all_t (J0 h0) (Tr.all_t (J0 hi) (Tr.all_br (fun c=>Tr.all_t (J0 h0) (Tr.all_t (J0 hil) (Tr.all_t hpk (Tr.all_br (fun c1=>Tr.all_ret (.inr ?_)) fun c1=>Tr.all_ret (.inr ?_))))) fun c=>Tr.all_t (J0 h0) (Tr.all_t (J0 hil) (Tr.all_t hfb (Tr.all_ret (.inr ?_)))))))
  ·rw[c,cond_true] at hF
   have e:stN p (y,false)=V2 y p.1 p.2:=by unfold stN;rw[c1];rfl
   rw[e] at hF k1 k2
   have k2:(V2 y p.1 p.2).1.length≤p.1.length+y.length:=k2
   exact⟨_,_,_,rfl,⟨by omega,by omega,V2 y p.1 p.2,rfl,rfl,k1,by omega,hF⟩,by omega⟩
  ·rw[c,cond_true] at hF
   have e:stN p (y,false)=p:=by unfold stN;rw[c1];rfl
   rw[e] at hF
   exact⟨_,_,_,rfl,⟨by omega,by omega,p,rfl,rfl,hk,by omega,hF⟩,by omega⟩
  ·rw[c,cond_false] at hF
   exact⟨_,_,_,rfl,⟨by omega,by omega,(p.1++y,p.2),rfl,rfl,hk,by simp only[List.length_append];omega,hF⟩,by omega⟩
 ·refine Tr.all_f (J1 hi) (Tr.all_ret (.inl ?_))
  rw[List.drop_eq_nil_of_le (by omega)]
  rfl
def t142 (k:Int) (d:List UInt8) (b:List Int) (m:List (List UInt8×Int)):Tr Res:=.br (bigS d) (.br (!mayR k d) (.ret ([.int .i64 1],[.boxT none [.rowA 1,.mp 2],.row (.int .u8) b,.mpo .str (.int .i64) m])) (.br (bigS d) (.br (putC (bif okV k d then Vb k d else []) (layV k) (↑(List.length (layV k)):Int) 0 b m) (.ret ([.int .i64 0],[.boxT none [.rowA 1,.mp 2],.row (.int .u8) (Z0 (putS (layV k) (bif okV k d then Vb k d else []) (X0 b,m)).1),.mpo .str (.int .i64) (putS (layV k) (bif okV k d then Vb k d else []) (X0 b,m)).2])) .no) .no)) .no
def Q5l:OSpec:={ f:=142,sh:=[.ptr 0 0,.d (.int .u16) false,.d .str false],so:=[.box [.row 1,.mp 2],.row (.int .u8),.map .str (.int .i64)],F:=fun(k,d,_) (_,b,m,_)=>t142 k d b m }
theorem fn142 (k:Int) (d:List UInt8) (b:List Int) (m:List (List UInt8×Int)):evC T0 (orcB [Jj,X1a,Z02] [Q0c,os98]) (lpOf h142 3 (lsOf [Q4h])) c142 1000000 (J2 [.ptr 0 0,.int .u16 k,.str d] [.box [.rowA 1,.mp 2],.row (.int .u8) b,.mpo .str (.int .i64) m] Try.f142.ntmps) (Z1 T0 false 3 Try.f142)=(t142 k d b m).get:=by kernel_rfl
theorem ok142:Q5l.Ok Try.prog:=by
 refine U4 J3 tab0 (U0 (all_cons Z1f (all_cons Z4d (all_cons Q2e all_nil))) (all_cons X33 (all_cons ok98 all_nil))) h142 (d:=0) (n0:=3) (S:=lsOf [Q4h]) Try.func142 (by kernel_rfl) (c:=c142) (by kernel_rfl) rfl (U5 (xs:=[(0,b142)]) (by kernel_rfl) (all_cons (U6 J58) all_nil)) (by omega) (by kernel_rfl) ?_
 intro x'' y'' q'' hq''
 obtain⟨(k:Int),(d:List UInt8),_⟩:=x''
 obtain⟨_,(b:List Int),(m:List (List UInt8×Int)),_⟩:=y''
 exact(fn142 k d b m).trans hq''
noncomputable def b89:Code:=X5 c89 0
def ls89:LoopSpec:={ bid:=0,sh:=[.d .str false,.d (.int .i64) false,.d (.int .u16) false,.d (.int .i64) false,.d .str false,.d (.list (.int .i64)) false,.d (.int .i64) false,.d (.int .i64) false],so:=[],F:=fun(s,at_,k,end_,d,ps,n,i,_) _=>.on2 (J2o s at_ end_ d ps n i) ((X7 ps s at_ end_ d).1) (.exit 0,[.int .i64 (X7 ps s at_ end_ d).2.1,.int .u16 k,.dead,.dead,.int .i64 end_,.str (X7 ps s at_ end_ d).2.2],[]) (.ret,[.int .i64 (X7 ps s at_ end_ d).2.1,.int .u16 k,.str [],.int .i64 2,.int .i64 end_,.str (X7 ps s at_ end_ d).2.2],[]) }
def r89 (s:List UInt8) (at_ k end_:Int) (d:List UInt8) (ps:List Int) (n i:Int):Tr (St⊕(Ex×St)):=.br (decide (i < n)) (.br (decide (0≤i)) (.br (decide (i < (↑ps.length:Int))) (.br (ps.getD i.toNat (Ty.dflt (Ty.int .i64))==(-2:Int)) (.br (ps.getD i.toNat (Ty.dflt (Ty.int .i64))==(-1:Int)) (.br (bigS s) (.br (tkE (V6 s at_ at_ (-1:Int) []) != 0) (.ret (.inr (.ret,stOf [1,3,8,9,13,14] [.int .i64 at_,.int .u16 k,.str [],.int .i64 2,.int .i64 end_,.str d] []))) (.br (decide (tkN (V6 s at_ at_ (-1:Int) []) > end_)) (.ret (.inr (.ret,stOf [1,3,8,9,13,14] [.int .i64 at_,.int .u16 k,.str [],.int .i64 2,.int .i64 end_,.str d] []))) (.br (Nat.ble (List.length d+List.length (tkS (V6 s at_ at_ (-1:Int) []))) 9223372036854775807) (.ret (.inl (stOf [0,1,3,13,14,39,40,41] [.str s,.int .i64 (tkN (V6 s at_ at_ (-1:Int) [])),.int .u16 k,.int .i64 end_,.str (d++tkS (V6 s at_ at_ (-1:Int) [])),.list (.int .i64) ps,.int .i64 n,.int .i64 (IntKind.wrap .i64 (i+1))] []))) .no))) .no) (.br (bigS s) (.br (Z3 s at_ (IntKind.wrap .i64 (end_ - at_))) (.br (decide (at_+IntKind.wrap .i64 (end_ - at_) > end_)) (.ret (.inr (.ret,stOf [1,3,8,9,13,14] [.int .i64 at_,.int .u16 k,.str [],.int .i64 2,.int .i64 end_,.str d] []))) (.br (Nat.ble (List.length d+List.length (U2 s at_ (IntKind.wrap .i64 (end_ - at_)))) 9223372036854775807) (.ret (.inl (stOf [0,1,3,13,14,39,40,41] [.str s,.int .i64 (at_+IntKind.wrap .i64 (end_ - at_)),.int .u16 k,.int .i64 end_,.str (d++U2 s at_ (IntKind.wrap .i64 (end_ - at_))),.list (.int .i64) ps,.int .i64 n,.int .i64 (IntKind.wrap .i64 (i+1))] []))) .no)) (.ret (.inr (.ret,stOf [1,3,8,9,13,14] [.int .i64 at_,.int .u16 k,.str [],.int .i64 2,.int .i64 end_,.str d] [])))) .no)) (.br (ps.getD i.toNat (Ty.dflt (Ty.int .i64))==(-3:Int)) (.br (ps.getD i.toNat (Ty.dflt (Ty.int .i64))==(-1:Int)) (.br (bigS s) (.br (tkE (V6 s at_ at_ (-1:Int) []) != 0) (.ret (.inr (.ret,stOf [1,3,8,9,13,14] [.int .i64 at_,.int .u16 k,.str [],.int .i64 2,.int .i64 end_,.str d] []))) (.br (decide (tkN (V6 s at_ at_ (-1:Int) []) > end_)) (.ret (.inr (.ret,stOf [1,3,8,9,13,14] [.int .i64 at_,.int .u16 k,.str [],.int .i64 2,.int .i64 end_,.str d] []))) (.br (Nat.ble (List.length d+List.length (tkS (V6 s at_ at_ (-1:Int) []))) 9223372036854775807) (.ret (.inl (stOf [0,1,3,13,14,39,40,41] [.str s,.int .i64 (tkN (V6 s at_ at_ (-1:Int) [])),.int .u16 k,.int .i64 end_,.str (d++tkS (V6 s at_ at_ (-1:Int) [])),.list (.int .i64) ps,.int .i64 n,.int .i64 (IntKind.wrap .i64 (i+1))] []))) .no))) .no) (.br (bigS s) (.br (Z3 s at_ (IntKind.wrap .i64 (end_ - at_))) (.br (decide (at_+IntKind.wrap .i64 (end_ - at_) > end_)) (.ret (.inr (.ret,stOf [1,3,8,9,13,14] [.int .i64 at_,.int .u16 k,.str [],.int .i64 2,.int .i64 end_,.str d] []))) (.br (Nat.ble (List.length d+List.length (U2 s at_ (IntKind.wrap .i64 (end_ - at_)))) 9223372036854775807) (.ret (.inl (stOf [0,1,3,13,14,39,40,41] [.str s,.int .i64 (at_+IntKind.wrap .i64 (end_ - at_)),.int .u16 k,.int .i64 end_,.str (d++U2 s at_ (IntKind.wrap .i64 (end_ - at_))),.list (.int .i64) ps,.int .i64 n,.int .i64 (IntKind.wrap .i64 (i+1))] []))) .no)) (.ret (.inr (.ret,stOf [1,3,8,9,13,14] [.int .i64 at_,.int .u16 k,.str [],.int .i64 2,.int .i64 end_,.str d] [])))) .no)) (.br (ps.getD i.toNat (Ty.dflt (Ty.int .i64))==(-1:Int)) (.br (bigS s) (.br (tkE (V6 s at_ at_ (-1:Int) []) != 0) (.ret (.inr (.ret,stOf [1,3,8,9,13,14] [.int .i64 at_,.int .u16 k,.str [],.int .i64 2,.int .i64 end_,.str d] []))) (.br (decide (tkN (V6 s at_ at_ (-1:Int) []) > end_)) (.ret (.inr (.ret,stOf [1,3,8,9,13,14] [.int .i64 at_,.int .u16 k,.str [],.int .i64 2,.int .i64 end_,.str d] []))) (.br (Nat.ble (List.length d+List.length (tkS (V6 s at_ at_ (-1:Int) []))) 9223372036854775807) (.ret (.inl (stOf [0,1,3,13,14,39,40,41] [.str s,.int .i64 (tkN (V6 s at_ at_ (-1:Int) [])),.int .u16 k,.int .i64 end_,.str (d++tkS (V6 s at_ at_ (-1:Int) [])),.list (.int .i64) ps,.int .i64 n,.int .i64 (IntKind.wrap .i64 (i+1))] []))) .no))) .no) (.br (bigS s) (.br (Z3 s at_ (ps.getD i.toNat (Ty.dflt (Ty.int .i64)))) (.br (decide (at_+List.getD ps i.toNat (Ty.dflt (Ty.int .i64)) > end_)) (.ret (.inr (.ret,stOf [1,3,8,9,13,14] [.int .i64 at_,.int .u16 k,.str [],.int .i64 2,.int .i64 end_,.str d] []))) (.br (Nat.ble (List.length d+List.length (U2 s at_ (ps.getD i.toNat (Ty.dflt (Ty.int .i64))))) 9223372036854775807) (.ret (.inl (stOf [0,1,3,13,14,39,40,41] [.str s,.int .i64 (at_+List.getD ps i.toNat (Ty.dflt (Ty.int .i64))),.int .u16 k,.int .i64 end_,.str (d++U2 s at_ (ps.getD i.toNat (Ty.dflt (Ty.int .i64)))),.list (.int .i64) ps,.int .i64 n,.int .i64 (IntKind.wrap .i64 (i+1))] []))) .no)) (.ret (.inr (.ret,stOf [1,3,8,9,13,14] [.int .i64 at_,.int .u16 k,.str [],.int .i64 2,.int .i64 end_,.str d] [])))) .no)))) .no) .no) (.ret (.inr (.exit 0,stOf [1,3,8,9,13,14] [.int .i64 at_,.int .u16 k,.dead,.dead,.int .i64 end_,.str d] [])))
theorem V4q (lp:Lp) (s:List UInt8) (at_ k end_:Int) (d:List UInt8) (ps:List Int) (n i:Int):evC T0 (orcB [Jj,Z02,Vk,U07] []) lp b89 0 (stOf [0,1,3,13,14,39,40,41] [.str s,.int .i64 at_,.int .u16 k,.int .i64 end_,.str d,.list (.int .i64) ps,.int .i64 n,.int .i64 i] []) (V1 [0,1,3,13,14,39,40,41] [1,3,8,9,13,14] 0)=(r89 s at_ k end_ d ps n i).get:=by kernel_rfl
theorem wf89 (s:List UInt8) (k end_:Int) (ps:List Int) (n:Int) (I'':Int→List UInt8→Int→Prop) (m'':Int→List UInt8→Int→Nat) (r'':Ex×St) (h:∀ (at_:Int) (d:List UInt8) (i:Int),I'' at_ d i→(r89 s at_ k end_ d ps n i).all fun x''=>x''=.inr r''∨∃ (at_':Int) (d':List UInt8) (i':Int),x''=.inl (stOf [0,1,3,13,14,39,40,41] [.str s,.int .i64 at_',.int .u16 k,.int .i64 end_,.str d',.list (.int .i64) ps,.int .i64 n,.int .i64 i'] [])∧I'' at_' d' i'∧m'' at_' d' i' < m'' at_ d i) (lp:Lp) (at_:Int) (d:List UInt8) (i:Int):I'' at_ d i→
    Z4 (fun st=>evC T0 (orcB [Jj,Z02,Vk,U07] []) lp b89 0 st (V1 [0,1,3,13,14,39,40,41] [1,3,8,9,13,14] 0)) (stOf [0,1,3,13,14,39,40,41] [.str s,.int .i64 at_,.int .u16 k,.int .i64 end_,.str d,.list (.int .i64) ps,.int .i64 n,.int .i64 i] [])=some r'':=
 Q5 (fun a'':Int×List UInt8×Int=>stOf [0,1,3,13,14,39,40,41] [.str s,.int .i64 a''.1,.int .u16 k,.int .i64 end_,.str a''.2.1,.list (.int .i64) ps,.int .i64 n,.int .i64 a''.2.2] []) (fun a''=>I'' a''.1 a''.2.1 a''.2.2) (fun a''=>m'' a''.1 a''.2.1 a''.2.2) r'' (fun a''=>r89 s a''.1 k end_ a''.2.1 ps n a''.2.2)
  (fun a'' x hx=>(V4q lp s a''.1 k end_ a''.2.1 ps n a''.2.2).trans hx) (fun a'' ha=>Tr.all_mono (fun x'' hx=>hx.imp id fun⟨at_',d',i',h1,h2,h3⟩=>⟨(at_',d',i'),h1,h2,h3⟩) (h (a''.1) (a''.2.1) (a''.2.2) ha)) (at_,d,i)
def X4o (ps0:List Int) (s:List UInt8) (a0 e:Int) (a:Int) (d:List UInt8) (i:Int):Prop:=0≤i∧i≤ps0.length∧0≤a∧a≤e∧(d.length:Int)≤200000000 * i∧X7 (ps0.drop i.toNat) s a e d=X7 ps0 s a0 e []
theorem Z5x:ls89.Ok T0 (orcB [Jj,Z02,Vk,U07] []) h89 0 0 b89:=by
 intro q'' hq'' x'' y'' r'' h
 obtain⟨(s:List UInt8),(at_:Int),(k:Int),(end_:Int),(d:List UInt8),(ps:List Int),(n:Int),(i:Int),_⟩:=x''
 obtain⟨hc,rfl⟩:=Tr.get_on2 h
 show Z4 (fun st=>evC T0 (orcB [Jj,Z02,Vk,U07] []) (lpN T0 (orcB [Jj,Z02,Vk,U07] []) h89 0 q'') b89 0 st (V1 [0,1,3,13,14,39,40,41] [1,3,8,9,13,14] 0)) (stOf [0,1,3,13,14,39,40,41] [.str s,.int .i64 at_,.int .u16 k,.int .i64 end_,.str d,.list (.int .i64) ps,.int .i64 n,.int .i64 i] [])=some ((bif (X7 ps s at_ end_ d).1 then (.exit 0,[.int .i64 (X7 ps s at_ end_ d).2.1,.int .u16 k,.dead,.dead,.int .i64 end_,.str (X7 ps s at_ end_ d).2.2],[]) else (.ret,[.int .i64 (X7 ps s at_ end_ d).2.1,.int .u16 k,.str [],.int .i64 2,.int .i64 end_,.str (X7 ps s at_ end_ d).2.2],[]):Ex×List AV×List LObj).1,stOf [1,3,8,9,13,14] (bif (X7 ps s at_ end_ d).1 then (.exit 0,[.int .i64 (X7 ps s at_ end_ d).2.1,.int .u16 k,.dead,.dead,.int .i64 end_,.str (X7 ps s at_ end_ d).2.2],[]) else (.ret,[.int .i64 (X7 ps s at_ end_ d).2.1,.int .u16 k,.str [],.int .i64 2,.int .i64 end_,.str (X7 ps s at_ end_ d).2.2],[]):Ex×List AV×List LObj).2.1 (bif (X7 ps s at_ end_ d).1 then (.exit 0,[.int .i64 (X7 ps s at_ end_ d).2.1,.int .u16 k,.dead,.dead,.int .i64 end_,.str (X7 ps s at_ end_ d).2.2],[]) else (.ret,[.int .i64 (X7 ps s at_ end_ d).2.1,.int .u16 k,.str [],.int .i64 2,.int .i64 end_,.str (X7 ps s at_ end_ d).2.2],[]):Ex×List AV×List LObj).2.2)
 simp only[J2o,Bool.and_eq_true,decide_eq_true_eq,noT,List.isEmpty_iff] at hc
 obtain⟨hb,rfl,rfl,ha0,hae,hes,rfl,hps⟩:=hc
 refine wf89 s k end_ ps _ (X4o ps s at_ end_) (fun _ _ i=>(ps.length - i).toNat) _ ?_ _ at_ [] 0 ⟨by omega,by omega,ha0,hae,by simp,rfl⟩
 clear ha0 hae
 rintro a d i ⟨h0,h1,ha,hae,hdl,hF⟩
 rw[←hF]
 have hB:s.length≤100000000:=by simpa[smS] using hb
 have hbig:bigS s=true:=by simp[bigS];omega
 unfold r89
 by_cases hi:i < ps.length
 ·obtain⟨d1,_⟩:=Xp (Ty.dflt (Ty.int .i64)) h0 hi
  generalize List.getD ps (Int.toNat i) (Ty.dflt (Ty.int .i64))=x at d1
  rw[d1,X7] at hF ⊢
  rw[IntWalk.i64_in (i+1) (by omega),IntWalk.i64_in (end_ - a) (by omega)]
  refine Tr.all_t (J0 hi) (Tr.all_t (J0 h0) (Tr.all_t (J0 hi) ?_))
  by_cases x1:x=-1
  ·rw[if_pos x1] at hF ⊢
   refine Tr.all_f (beq_eq_false_iff_ne.2 (by omega)) (Tr.all_f (beq_eq_false_iff_ne.2 (by omega)) (Tr.all_t (beq_iff_eq.2 x1) (Tr.all_t hbig ?_)))
   cases ho:V6 s a a (-1) [] with
   | none=>exact Tr.all_t rfl (Tr.all_ret (.inl rfl))
   | some q=>
     obtain⟨n,next⟩:=q
     obtain⟨p1,p2,p3⟩:=X0i ha ho
     have hn:=(Xg.1 p1).2.1
     rw[ho] at hF
     simp only at hF ⊢
     refine Tr.all_f rfl (Tr.all_br (fun c=>Tr.all_ret (.inl ?_)) fun c=>Tr.all_t ?_ (Tr.all_ret (.inr ?_)))
     ·have c':next > end_:=of_decide_eq_true c
      rw[if_pos c']
      rfl
     ·simp only[tkS]
      exact Nat.ble_eq_true_of_le (by omega)
     ·have c':¬ next > end_:=of_decide_eq_false c
      rw[if_neg c'] at hF
      exact⟨_,_,_,rfl,⟨by omega,by omega,by simp only[tkN];omega,by simp only[tkN];omega,by simp only[tkS,List.length_append];omega,hF⟩,by omega⟩
  ·rw[if_neg x1] at hF ⊢
   have hx1:(x == -1)=false:=beq_eq_false_iff_ne.2 x1
   have key:∀ sz:Int,(if x=-2∨x=-3 then end_ - a else x)=sz→(Z3 s a sz=true∧a+sz≤end_→X4o ps s at_ end_ (a+sz) (d++U2 s a sz) (i+1))∧(Nat.ble (d.length+(U2 s a sz).length) 9223372036854775807=true):=fun sz hs=>by
    rw[hs] at hF
    have hvl:(U2 s a sz).length≤s.length:=by unfold U2;rw[List.length_take,List.length_drop];omega
    refine⟨fun hh=>?_,Nat.ble_eq_true_of_le (by omega)⟩
    rw[if_pos hh] at hF
    have:=Xa.1 hh.1
    exact⟨by omega,by omega,by omega,hh.2,by rw[List.length_append];omega,hF⟩
   have half:∀ sz:Int,(if x=-2∨x=-3 then end_ - a else x)=sz→(Tr.br (bigS s) (Tr.br (Z3 s a sz) (Tr.br (decide (a+sz > end_)) (Tr.ret (Sum.inr (Ex.ret,stOf [1,3,8,9,13,14] [AV.int .i64 a,AV.int .u16 k,AV.str [],AV.int .i64 (2:Int),AV.int .i64 end_,AV.str d] []))) (Tr.br (Nat.ble (List.length d+List.length (U2 s a sz)) 9223372036854775807) (Tr.ret (Sum.inl (stOf [0,1,3,13,14,39,40,41] [AV.str s,AV.int .i64 (a+sz),AV.int .u16 k,AV.int .i64 end_,AV.str (d++U2 s a sz),AV.list (Ty.int .i64) ps,AV.int .i64 ps.length,AV.int .i64 (i+1)] []))) Tr.no)) (Tr.ret (Sum.inr (Ex.ret,stOf [1,3,8,9,13,14] [AV.int .i64 a,AV.int .u16 k,AV.str [],AV.int .i64 (2:Int),AV.int .i64 end_,AV.str d] [])))) Tr.no).all
       fun x''=>x''=.inr ((bif (if Z3 s a sz=true∧a+sz≤end_ then X7 (ps.drop (i+1).toNat) s (a+sz) end_ (d++U2 s a sz) else (false,a,d)).1 then (Ex.exit 0,[.int .i64 (if Z3 s a sz=true∧a+sz≤end_ then X7 (ps.drop (i+1).toNat) s (a+sz) end_ (d++U2 s a sz) else (false,a,d)).2.1,.int .u16 k,.dead,.dead,.int .i64 end_,.str (if Z3 s a sz=true∧a+sz≤end_ then X7 (ps.drop (i+1).toNat) s (a+sz) end_ (d++U2 s a sz) else (false,a,d)).2.2],[]) else (Ex.ret,[.int .i64 (if Z3 s a sz=true∧a+sz≤end_ then X7 (ps.drop (i+1).toNat) s (a+sz) end_ (d++U2 s a sz) else (false,a,d)).2.1,.int .u16 k,.str [],.int .i64 2,.int .i64 end_,.str (if Z3 s a sz=true∧a+sz≤end_ then X7 (ps.drop (i+1).toNat) s (a+sz) end_ (d++U2 s a sz) else (false,a,d)).2.2],[]):Ex×List AV×List LObj).1,stOf [1,3,8,9,13,14] (bif (if Z3 s a sz=true∧a+sz≤end_ then X7 (ps.drop (i+1).toNat) s (a+sz) end_ (d++U2 s a sz) else (false,a,d)).1 then (Ex.exit 0,[.int .i64 (if Z3 s a sz=true∧a+sz≤end_ then X7 (ps.drop (i+1).toNat) s (a+sz) end_ (d++U2 s a sz) else (false,a,d)).2.1,.int .u16 k,.dead,.dead,.int .i64 end_,.str (if Z3 s a sz=true∧a+sz≤end_ then X7 (ps.drop (i+1).toNat) s (a+sz) end_ (d++U2 s a sz) else (false,a,d)).2.2],[]) else (Ex.ret,[.int .i64 (if Z3 s a sz=true∧a+sz≤end_ then X7 (ps.drop (i+1).toNat) s (a+sz) end_ (d++U2 s a sz) else (false,a,d)).2.1,.int .u16 k,.str [],.int .i64 2,.int .i64 end_,.str (if Z3 s a sz=true∧a+sz≤end_ then X7 (ps.drop (i+1).toNat) s (a+sz) end_ (d++U2 s a sz) else (false,a,d)).2.2],[]):Ex×List AV×List LObj).2.1 (bif (if Z3 s a sz=true∧a+sz≤end_ then X7 (ps.drop (i+1).toNat) s (a+sz) end_ (d++U2 s a sz) else (false,a,d)).1 then (Ex.exit 0,[.int .i64 (if Z3 s a sz=true∧a+sz≤end_ then X7 (ps.drop (i+1).toNat) s (a+sz) end_ (d++U2 s a sz) else (false,a,d)).2.1,.int .u16 k,.dead,.dead,.int .i64 end_,.str (if Z3 s a sz=true∧a+sz≤end_ then X7 (ps.drop (i+1).toNat) s (a+sz) end_ (d++U2 s a sz) else (false,a,d)).2.2],[]) else (Ex.ret,[.int .i64 (if Z3 s a sz=true∧a+sz≤end_ then X7 (ps.drop (i+1).toNat) s (a+sz) end_ (d++U2 s a sz) else (false,a,d)).2.1,.int .u16 k,.str [],.int .i64 2,.int .i64 end_,.str (if Z3 s a sz=true∧a+sz≤end_ then X7 (ps.drop (i+1).toNat) s (a+sz) end_ (d++U2 s a sz) else (false,a,d)).2.2],[]):Ex×List AV×List LObj).2.2) ∨
        ∃ at' d' i',x''=.inl (stOf [0,1,3,13,14,39,40,41] [AV.str s,AV.int .i64 at',AV.int .u16 k,AV.int .i64 end_,AV.str d',AV.list (Ty.int .i64) ps,AV.int .i64 ps.length,AV.int .i64 i'] [])∧X4o ps s at_ end_ at' d' i'∧(ps.length - i').toNat < (ps.length - i).toNat:=fun sz hs=>by
    obtain⟨k1,k2⟩:=key sz hs
    refine Tr.all_t hbig (Tr.all_br (fun c1=>Tr.all_br (fun c2=>Tr.all_ret (.inl ?_)) fun c2=>Tr.all_t k2 (Tr.all_ret (.inr ⟨_,_,_,rfl,k1 ⟨c1,?_⟩,by omega⟩))) fun c1=>Tr.all_ret (.inl ?_))
    ·simp only[decide_eq_true_eq] at c2
     rw[if_neg (by omega)]
     rfl
    ·simp only[decide_eq_false_iff_not] at c2
     omega
    ·rw[if_neg (by rw[c1];simp)]
     rfl
   by_cases x2:x=-2
   ·rw[if_pos (Or.inl x2)]
    exact Tr.all_t (beq_iff_eq.2 x2) (Tr.all_f hx1 (half _ (if_pos (Or.inl x2))))
   ·by_cases x3:x=-3
    ·rw[if_pos (Or.inr x3)]
     exact Tr.all_f (beq_eq_false_iff_ne.2 x2) (Tr.all_t (beq_iff_eq.2 x3) (Tr.all_f hx1 (half _ (if_pos (Or.inr x3)))))
    ·have hne:¬ (x=-2∨x=-3):=by omega
     rw[if_neg hne]
     exact Tr.all_f (beq_eq_false_iff_ne.2 x2) (Tr.all_f (beq_eq_false_iff_ne.2 x3) (Tr.all_f hx1 (half _ (if_neg hne))))
 ·refine Tr.all_f (J1 hi) (Tr.all_ret (.inl ?_))
  rw[List.drop_eq_nil_of_le (by omega)]
  rfl
def t89 (s:List UInt8) (at_ many k:Int):Tr Res:=.br (bigS s) (.br (Z3 s at_ many) (.br (J2o s at_ (IntKind.wrap .i64 (at_+many)) ([]) (layV k) (↑(List.length (layV k)):Int) 0) (.br (X7 (layV k) s at_ (IntKind.wrap .i64 (at_+many)) ([])).1 (.br ((X7 (layV k) s at_ (IntKind.wrap .i64 (at_+many)) ([])).2.1 != IntKind.wrap .i64 (at_+many)) (.ret ([.str [],.int .i64 2],[])) (.br (bigS (X7 (layV k) s at_ (IntKind.wrap .i64 (at_+many)) ([])).2.2) (.br (!mayR k (X7 (layV k) s at_ (IntKind.wrap .i64 (at_+many)) ([])).2.2) (.ret ([.str [],.int .i64 2],[])) (.ret ([.str (X7 (layV k) s at_ (IntKind.wrap .i64 (at_+many)) ([])).2.2,.int .i64 0],[]))) .no)) (.ret ([.str [],.int .i64 2],[]))) .no) (.ret ([.str [],.int .i64 2],[]))) .no
def os89:OSpec:={ f:=89,sh:=[.d .str false,.d (.int .i64) false,.d (.int .i64) false,.d (.int .u16) false],so:=[],F:=fun(s,at_,many,k,_) _=>t89 s at_ many k }
theorem fn89 (s:List UInt8) (at_ many k:Int):evC T0 (orcB [Jj,Z02,Vk,U07] []) (lpOf h89 0 (lsOf [ls89])) c89 1000000 (J2 [.str s,.int .i64 at_,.int .i64 many,.int .u16 k] [] Try.f89.ntmps) (Z1 T0 false 0 Try.f89)=(t89 s at_ many k).get:=by kernel_rfl
theorem ok89:os89.Ok Try.prog:=by
 refine U4 J3 tab0 (U0 (all_cons Z1f (all_cons Q2e (all_cons X11 (all_cons J1f all_nil)))) all_nil) h89 (d:=0) (n0:=0) (S:=lsOf [ls89]) Try.func89 (by kernel_rfl) (c:=c89) (by kernel_rfl) rfl (U5 (xs:=[(0,b89)]) (by kernel_rfl) (all_cons (U6 Z5x) all_nil)) (by omega) (by kernel_rfl) ?_
 intro x'' y'' q'' hq''
 obtain⟨(s:List UInt8),(at_:Int),(many:Int),(k:Int),_⟩:=x''
 exact(fn89 s at_ many k).trans hq''
def fs89:FSpec:=fsT 89 [(.str,false),((.int .i64),false),((.int .i64),false),((.int .u16),false)] [(.str,false),((.int .i64),false)] fun(s,at_,many,k,_)=>t89 s at_ many k
theorem okf89:fs89.Ok Try.prog:=V5 fun x'' r'' hr''=>ok89 x'' () r'' hr''
theorem Z2o (s:List UInt8) (k j:Nat):byN (s.drop k) j=byN s (k+j):=by
 unfold byN
 rw[List.getD_eq_getElem?_getD,List.getD_eq_getElem?_getD,List.getElem?_drop]
theorem Z3p {s:List UInt8}:∀ (m k j:Nat),s.length - (k+j)=m→k≤s.length→whAt s (k+j)=k+whAt (s.drop k) j:=by
 intro m
 induction m using Nat.strongRecOn with
 | _ m ih=>
   intro k j hm hk
   rw[whAt.eq_1 s,whAt.eq_1 (s.drop k),Z2o,List.length_drop]
   by_cases h:k+j < s.length∧0 < byN s (k+j)
   ·rw[dif_pos h,dif_pos ⟨by omega,h.2⟩,show k+j+1+byN s (k+j)=k+(j+1+byN s (k+j)) by omega]
    exact ih (s.length - (k+(j+1+byN s (k+j)))) (by omega) k _ rfl hk
   ·rw[dif_neg h,dif_neg (by omega)]
theorem Z4e {t r:List UInt8} {k:Nat} (h:k < t.length):byN (t++r) k=byN t k:=Z1h h
theorem J52:∀ (m:Nat) (t r:List UInt8),t.length=m→Uj t=true→whAt (t++r) 0+1=t.length:=by
 intro m
 induction m using Nat.strongRecOn with
 | _ m ih=>
   intro t r hm hr
   rcases Jn hr with rfl | ⟨_,hn,hlt,_,hne,hrt⟩
   ·rw[whAt,dif_neg (fun h=>by have:byN ([0]++r) 0=0:=rfl;omega)]
    rfl
   ·have hb:byN (t++r) 0=(t.getD 0 0).toNat:=Z4e (by omega)
    have hp:0 < byN (t++r) 0:=by omega
    have hsp:(t++r).drop (0+1+byN (t++r) 0)=tlN t++r:=by
     unfold tlN
     rw[hb,List.drop_append_of_le_length (by omega),show 0+1+(t.getD 0 0).toNat=1+(t.getD 0 0).toNat by omega]
    have hl:=X1e t
    rw[whAt,dif_pos ⟨by simp;omega,hp⟩]
    have hd:=Z3p (s:=t++r) _ (0+1+byN (t++r) 0) 0 rfl (by simp;omega)
    rw[Nat.add_zero] at hd
    rw[hd,hsp,Nat.add_assoc,ih (tlN t).length (by omega) (tlN t) r rfl hrt]
    omega
theorem U1r {d:List UInt8} {k:Nat} (hk:k≤d.length) (h:mayV (d.take k)=true):V0 d=k∧1≤k∧k≤255:=by
 obtain⟨h1,h2,_⟩:=Xg.1 h
 have:=J52 _ (d.take k) (d.drop k) rfl h1
 rw[List.take_append_drop,List.length_take,Nat.min_eq_left hk] at this
 rw[List.length_take,Nat.min_eq_left hk] at h2
 unfold V0
 rw[this,if_pos ⟨by omega,h⟩]
 exact⟨rfl,by omega,h2⟩
theorem J01 {d:List UInt8} (h:V0 d≠0):mayV (d.take (V0 d))=true:=by
 unfold V0 at h ⊢
 split at h
 ·rename_i hc
  rw[if_pos hc]
  exact hc.2
 ·exact absurd rfl h
theorem J17 {d:List UInt8}:mayV d=true↔V0 d≠0∧V0 d=d.length:=by
 constructor
 ·intro h
  have:=U1r (d:=d) (k:=d.length) (Nat.le_refl _) (by rw[List.take_length];exact h)
  omega
 ·rintro⟨h1,h2⟩
  have:=J01 h1
  rwa [h2,List.take_length] at this
theorem U3i {s:List UInt8}:∀ (m k j:Nat),s.length - (k+j)=m→k≤s.length→txAt s (k+j)=k+txAt (s.drop k) j:=by
 intro m
 induction m using Nat.strongRecOn with
 | _ m ih=>
   intro k j hm hk
   rw[txAt.eq_1 s,txAt.eq_1 (s.drop k),Z2o,List.length_drop]
   by_cases h:k+j < s.length
   ·rw[dif_pos h,dif_pos (by omega),show k+j+1+byN s (k+j)=k+(j+1+byN s (k+j)) by omega]
    exact ih (s.length - (k+(j+1+byN s (k+j)))) (by omega) k _ rfl hk
   ·rw[dif_neg h,dif_neg (by omega)]
theorem X4r {s:List UInt8}:∀ (m k:Nat),s.length - k=m→k≤txAt s k:=by
 intro m
 induction m using Nat.strongRecOn with
 | _ m ih=>
   intro k hm
   rw[txAt]
   split
   ·have:=ih (s.length - (k+1+byN s k)) (by omega) _ rfl
    omega
   ·exact Nat.le_refl _
def texR (s:List UInt8):Bool:=decide (txAt s 0=s.length)
theorem X4b:texR []=true:=by
 unfold texR
 rw[txAt,dif_neg (by simp)]
 rfl
theorem Q3p {s:List UInt8} (h0:s≠[]) (h:s.length < 1+byN s 0):texR s=false:=by
 have:=List.length_pos_iff.2 h0
 unfold texR
 rw[txAt,dif_pos this]
 have:=X4r (s:=s) _ (0+1+byN s 0) rfl
 exact decide_eq_false (by omega)
theorem V57 {s:List UInt8} (h0:s≠[]) (h:1+byN s 0≤s.length):texR s=texR (s.drop (1+byN s 0)):=by
 have:=List.length_pos_iff.2 h0
 unfold texR
 rw[txAt,dif_pos this]
 have hd:=U3i (s:=s) _ (1+byN s 0) 0 rfl h
 rw[Nat.add_zero] at hd
 rw[show 0+1+byN s 0=1+byN s 0 by omega,hd,List.length_drop]
 rw[Bool.eq_iff_iff]
 simp
 omega
theorem Z4r:mayV []=false:=by
 cases h:mayV [] with
 | false=>rfl
 | true=>
   rcases Jn (Xg.1 h).1 with h | ⟨_,h,_⟩
   ·cases h
   ·exact absurd rfl h
theorem X1s:∀ (ps:List Int) (d:List UInt8) (out:List (List UInt8)),(cutS ps d out).1=true→∃ l,(cutS ps d out).2.2=out++l∧l.length=ps.length∧(∀ x∈l,x.length≤d.length)∧l.flatten++(cutS ps d out).2.1=d
 | [],d,out,_=>⟨[],by simp[cutS]⟩
 | p::ps,d,out,h=>by
   unfold cutS at h ⊢
   by_cases ho:okP p d=true
   ·rw[if_pos ho] at h ⊢
    obtain⟨l,h1,h2,h3,h4⟩:=X1s ps _ _ h
    refine⟨d.take (szP p d).toNat::l,by rw[h1,List.append_assoc];rfl,by simp[h2],fun x hx=>?_,?_⟩
    ·rcases List.mem_cons.1 hx with rfl | hx
     ·rw[List.length_take];omega
     ·have:=h3 x hx
      rw[List.length_drop] at this
      omega
    ·rw[List.flatten_cons,List.append_assoc,h4,List.take_append_drop]
   ·rw[if_neg ho] at h
    cases h
theorem Jw {k:Int} {d:List UInt8} (h:mayR k d=true):okV k d=true∧X25 k d=[]∧d.length≤65535∧(Vb k d).length=(layV k).length∧(∀ x∈Vb k d,x.length≤d.length)∧(Vb k d).flatten=d:=by
 unfold mayR at h
 simp only[Bool.and_eq_true,List.isEmpty_iff] at h
 obtain⟨⟨h1,h2⟩,h3⟩:=h
 obtain⟨l,a1,a2,a3,a4⟩:=X1s (layV k) d [] h1
 have a1:Vb k d=l:=a1
 have h2':(cutS (layV k) d []).2.1=[]:=h2
 rw[h2',List.append_nil] at a4
 exact⟨h1,h2,Nat.le_of_ble_eq_true h3,by rw[a1,a2],by rw[a1];exact a3,by rw[a1,a4]⟩
theorem Z1m:∀ (ps:List Int) (d:List UInt8) (out:List (List UInt8)),(cutS ps d out).1=(cutS ps d []).1∧(cutS ps d out).2.1=(cutS ps d []).2.1
 | [],_,_=>⟨rfl,rfl⟩
 | x::ps,d,out=>by
   unfold cutS
   by_cases h:okP x d=true
   ·rw[if_pos h,if_pos h]
    obtain⟨a1,a2⟩:=Z1m ps (d.drop (szP x d).toNat) (out++[d.take (szP x d).toNat])
    obtain⟨b1,b2⟩:=Z1m ps (d.drop (szP x d).toNat) ([]++[d.take (szP x d).toNat])
    exact⟨a1.trans b1.symm,a2.trans b2.symm⟩
   ·rw[if_neg h,if_neg h]
    exact⟨rfl,rfl⟩
def cutB (ps:List Int) (d:List UInt8):Bool:=(cutS ps d []).1&&(cutS ps d []).2.1.isEmpty
theorem Zv (x:Int) (ps:List Int) (d:List UInt8):cutB (x::ps) d=(okP x d&&cutB ps (d.drop (szP x d).toNat)):=by
 unfold cutB
 rw[cutS]
 cases h:okP x d with
 | true=>
   rw[if_pos rfl]
   obtain⟨a1,a2⟩:=Z1m ps (d.drop (szP x d).toNat) ([]++[d.take (szP x d).toNat])
   rw[a1,a2,Bool.true_and]
 | false=>
   rw[if_neg Bool.false_ne_true]
   rfl
theorem Z0y (d:List UInt8):cutB [] d=d.isEmpty:=rfl
theorem Xz (k:Int) (d:List UInt8):mayR k d=(cutB (layV k) d&&Nat.ble d.length 65535):=rfl
theorem U11 {x:Int} (h:0≤x) (d:List UInt8):szP x d=x∧okP x d=decide (x≤(d.length:Int)):=by
 have es:szP x d=x:=by unfold szP;rw[if_neg (by omega),if_neg (by omega)]
 refine⟨es,?_⟩
 unfold okP
 rw[es,J0 h,J1 (show ¬ x=-1 by omega)]
 simp
theorem Jx (d:List UInt8):szP (-1) d=(V0 d:Int)∧okP (-1) d = !decide (V0 d=0):=by
 have es:szP (-1) d=(V0 d:Int):=rfl
 have:=Zs d
 refine⟨es,?_⟩
 unfold okP
 rw[es,J0 (by omega),J0 (by omega)]
 simp
theorem U0l {d:List UInt8} {n:Nat}:(d.drop n).isEmpty=decide (d.length≤n):=by
 rw[Bool.eq_iff_iff,List.isEmpty_iff,decide_eq_true_eq,List.drop_eq_nil_iff]
theorem V1u {x:Int} (h:0≤x) (d:List UInt8):cutB [x] d=decide ((d.length:Int)=x):=by
 obtain⟨e1,e2⟩:=U11 h d
 rw[Zv,Z0y,e1,e2,U0l]
 rw[Bool.eq_iff_iff]
 simp
 omega
theorem V24 (d:List UInt8):cutB [-1] d=mayV d:=by
 obtain⟨e1,e2⟩:=Jx d
 have:=Zs d
 rw[Zv,Z0y,e1,e2,U0l]
 rw[Bool.eq_iff_iff,J17]
 simp
 omega
theorem Z37 (d:List UInt8):cutB [-2] d=Xs d:=by
 rw[Zv,Z0y,U0l]
 unfold okP szP
 cases ht:Xs d with
 | true=>simp
 | false=>simp
theorem X4j (d:List UInt8):cutB [-3] d=true:=by
 rw[Zv,Z0y,U0l]
 unfold okP szP
 simp
theorem may_A (d:List UInt8):mayR 1 d=(decide ((d.length:Int)=4)&&Nat.ble d.length 65535):=by rw[Xz,show layV 1=[4] from rfl,V1u (by omega)]
theorem J4h (d:List UInt8):mayR 28 d=(decide ((d.length:Int)=16)&&Nat.ble d.length 65535):=by rw[Xz,show layV 28=[16] from rfl,V1u (by omega)]
theorem Q0j {k:Int} (h:k=2∨k=5∨k=12) (d:List UInt8):mayR k d=(mayV d&&Nat.ble d.length 65535):=by
 have:layV k=[-1]:=by rcases h with rfl | rfl | rfl<;>rfl
 rw[Xz,this,V24]
theorem V2y (d:List UInt8):mayR 15 d=((decide ((2:Int)≤d.length)&&mayV (d.drop 2))&&Nat.ble d.length 65535):=by
 obtain⟨e1,e2⟩:=U11 (x:=2) (by omega) d
 rw[Xz,show layV 15=[2,-1] from rfl,Zv,V24,e1,e2]
 rfl
theorem Z28 (d:List UInt8):mayR 6 d=((!decide (V0 d=0)&&(!decide (V0 (d.drop (V0 d))=0)&&decide (((d.drop (V0 d)).drop (V0 (d.drop (V0 d)))).length=20)))&&Nat.ble d.length 65535):=by
 obtain⟨e1,e2⟩:=Jx d
 rw[Xz,show layV 6=[-1,-1,20] from rfl,Zv,e1,e2,Int.toNat_natCast]
 obtain⟨e3,e4⟩:=Jx (d.drop (V0 d))
 rw[Zv,e3,e4,Int.toNat_natCast,V1u (by omega)]
 congr 4
 exact propext (by omega)
theorem U4t (d:List UInt8):mayR 16 d=(Xs d&&Nat.ble d.length 65535):=by rw[Xz,show layV 16=[-2] from rfl,Z37]
theorem Q50 {k:Int} (h:¬ k=1∧¬ k=28∧¬ k=2∧¬ k=5∧¬ k=12∧¬ k=15∧¬ k=6∧¬ k=16) (d:List UInt8):mayR k d=Nat.ble d.length 65535:=by
 obtain⟨h1,h2,h3,h4,h5,h6,h7,h8⟩:=h
 have:layV k=[-3]:=by simp[layV,h1,h2,h3,h4,h5,h6,h7,h8]
 rw[Xz,this,X4j]
 rfl
theorem X3w {ps:List Int} {s:List UInt8} {a e:Int} {d n:List UInt8} {next:Int} (h:V6 s a a (-1) []=some (n,next)):X7 (-1::ps) s a e d=if next > e then (false,a,d) else X7 ps s next e (d++n):=by
 rw[X7,if_pos rfl,h]
theorem V37 {k:Int} {d:List UInt8} (hk:k=2∨k=5∨k=12) (h:mayR k d=true):Vb k d=[d]:=by
 have hlay:layV k=[-1]:=by rcases hk with rfl | rfl | rfl<;>rfl
 rw[Q0j hk,Bool.and_eq_true,J17] at h
 obtain⟨⟨h1,h2⟩,_⟩:=h
 obtain⟨e1,e2⟩:=Jx d
 unfold Vb
 rw[hlay,cutS,e2,e1,J1 h1,if_pos (show (!false)=true from rfl),cutS,Int.toNat_natCast,h2,List.take_length]
 rfl
theorem Z49 {d:List UInt8} (h:mayR 15 d=true):Vb 15 d=[d.take 2,d.drop 2]:=by
 rw[V2y,Bool.and_eq_true,Bool.and_eq_true,decide_eq_true_eq,J17] at h
 obtain⟨⟨h0,h1,h2⟩,_⟩:=h
 obtain⟨e1,e2⟩:=U11 (x:=2) (by omega) d
 obtain⟨e3,e4⟩:=Jx (d.drop 2)
 unfold Vb
 rw[show layV 15=[2,-1] from rfl,cutS,e2,e1,J0 h0,if_pos rfl,show (2:Int).toNat=2 from rfl,cutS,e4,e3,J1 h1,if_pos (show (!false)=true from rfl),cutS,Int.toNat_natCast,h2,List.take_length]
 rfl
theorem J3n {k x:Int} {d:List UInt8} (hlay:layV k=[x]) (h:mayR k d=true):Vb k d=[d]:=by
 obtain⟨_,_,_,h4,_,h6⟩:=Jw h
 rw[hlay] at h4
 cases hp:Vb k d with
 | nil=>rw[hp] at h4;cases h4
 | cons y l=>
   rw[hp] at h4 h6
   cases l with
   | nil=>simpa using h6
   | cons _ _=>simp at h4
theorem Q3q {s:List UInt8} {a n k:Int} {d:List UInt8} (h:U00 s a n k=some d):mayR k d=true∧Z3 s a n=true∧(X7 (layV k) s a (a+n) []).1=true∧(X7 (layV k) s a (a+n) []).2.1=a+n∧d=(X7 (layV k) s a (a+n) []).2.2:=by
 unfold U00 at h
 by_cases h1:Z3 s a n=true
 ·rw[if_pos h1] at h
  by_cases h2:(X7 (layV k) s a (a+n) []).1=true∧(X7 (layV k) s a (a+n) []).2.1=a+n∧mayR k (X7 (layV k) s a (a+n) []).2.2=true
  ·rw[if_pos h2] at h
   cases h
   exact⟨h2.2.2,h1,h2.1,h2.2.1,rfl⟩
  ·rw[if_neg h2] at h;cases h
 ·rw[if_neg h1] at h;cases h
def V4h:OSpec:=Q5l.like fun(k,d,_) (_,b,m,_)=>.br (pkT b m&&Nat.ble d.length 1000000) (.br (mayR k d) (.ret ([.int .i64 0],pkO (Z0 (putR k d (X0 b,m)).1) (putR k d (X0 b,m)).2)) (.ret ([.int .i64 1],pkO b m))) .no
theorem Q5x:V4h.Ok Try.prog:=by
 refine Qe ok142 _ ?_
 rintro⟨(k:Int),(d:List UInt8),_⟩ ⟨_,(b:List Int),(m:Z6),_⟩ r h
 simp only[Tr.get] at h
 cases hc:(pkT b m&&Nat.ble d.length 1000000) with
 | false=>rw[hc] at h;cases h
 | true=>
   rw[hc,cond_true] at h
   simp only[pkT,Bool.and_eq_true] at hc
   obtain⟨⟨hok,hk,hb⟩,hd⟩:=hc
   have hd:=Nat.le_of_ble_eq_true hd
   refine Tr.get_of_all ?_
   show (t142 k d b m).all _
   unfold t142
   have hbig:bigS d=true:=by simp[bigS];omega
   cases hm:mayR k d with
   | false=>
     rw[hm,cond_false] at h
     cases h
     exact Tr.all_t hbig (Tr.all_t rfl (Tr.all_ret rfl))
   | true=>
     rw[hm,cond_true] at h
     cases h
     obtain⟨h1,h2,h3,h4,h5,h6⟩:=Jw hm
     have hl:=J1o k
     rw[h1,cond_true]
     refine Tr.all_t hbig (Tr.all_f rfl (Tr.all_t hbig (Tr.all_t ?_ (Tr.all_ret rfl))))
     unfold putC
     rw[hok,hk,hb,J0 rfl,J0 rfl,J0 h4,J0 hl]
     simp only[Bool.true_and,List.all_eq_true,decide_eq_true_eq]
     exact fun x hx=>by have:=h5 x hx;omega
def U4a:FSpec:=fs89.like fun(s,a,n,k,_)=>.on (smS s) ((U00 s a n k).getD [],if (U00 s a n k).isSome then (0:Int) else 2,())
theorem Z0h:∀ (ps:List Int) (s:List UInt8) (a e:Int) (d:List UInt8),0≤a→s.length≤100000000→(X7 ps s a e d).2.2.length≤d.length+200000000 * ps.length
 | [],s,a,e,d,_,_=>by simp[X7]
 | x::ps,s,a,e,d,h0,hs=>by
   unfold X7
   by_cases h1:x=-1
   ·rw[if_pos h1]
    cases ho:V6 s a a (-1) [] with
    | none=>exact Nat.le_add_right _ _
    | some q=>
      obtain⟨n,next⟩:=q
      obtain⟨p1,p2,p3⟩:=X0i h0 ho
      have hn:=(Xg.1 p1).2.1
      simp only
      by_cases hn2:next > e
      ·rw[if_pos hn2]
       exact Nat.le_add_right _ _
      ·rw[if_neg hn2]
       have:=Z0h ps s next e (d++n) (by omega) hs
       rw[List.length_append] at this
       simp only[List.length_cons]
       omega
   ·rw[if_neg h1]
    generalize (if x=-2∨x=-3 then e - a else x)=sz
    by_cases hh:Z3 s a sz=true∧a+sz≤e
    ·rw[if_pos hh]
     have:=Xa.1 hh.1
     have hvl:(U2 s a sz).length≤s.length:=by unfold U2;rw[List.length_take,List.length_drop];omega
     have:=Z0h ps s (a+sz) e (d++U2 s a sz) (by omega) hs
     rw[List.length_append] at this
     simp only[List.length_cons]
     omega
    ·rw[if_neg hh]
     exact Nat.le_add_right _ _
theorem Q45:U4a.Ok Try.prog:=by
 refine Q3 okf89 _ ?_
 rintro⟨(s:List UInt8),(a:Int),(n:Int),(k:Int),_⟩ y h
 obtain⟨hb,rfl⟩:=Tr.get_on h
 refine X3 (vs:=[.str ((U00 s a n k).getD []),.int .i64 (if (U00 s a n k).isSome then 0 else 2)]) rfl rfl (Tr.get_of_all ?_)
 show (t89 s a n k).all _
 unfold t89 U00
 have hB:s.length≤100000000:=by simpa[smS] using hb
 have hbig:bigS s=true:=by simp[bigS];omega
 have hl:=J1o k
 refine Tr.all_t hbig ?_
 cases h1:Z3 s a n with
 | false=>
   rw[if_neg Bool.false_ne_true]
   exact Tr.all_f rfl (Tr.all_ret rfl)
 | true=>
   have hs:=Xa.1 h1
   have hw:IntKind.wrap .i64 (a+n)=a+n:=IntWalk.i64_in _ (by omega)
   have hd:=Z0h (layV k) s a (a+n) [] hs.1 hB
   rw[hw,if_pos rfl]
   have hc:J2o s a (a+n) [] (layV k) (layV k).length 0=true:=by
    unfold J2o noT
    rw[hb,J0 rfl,J0 rfl,J0 hs.1,J0 (show a≤a+n by omega),J0 (show a+n≤(s.length:Int) by omega),J0 hl]
    rfl
   generalize X7 (layV k) s a (a+n) []=t at hd
   obtain⟨ok,at',d⟩:=t
   have hbd:bigS d=true:=by
    have:d.length≤([]:List UInt8).length+200000000 * (layV k).length:=hd
    simp[bigS] at this ⊢
    omega
   refine Tr.all_t rfl (Tr.all_t hc (Tr.all_br (fun c1=>Tr.all_br (fun c2=>Tr.all_ret ?_) fun c2=>Tr.all_t hbd (Tr.all_br (fun c3=>Tr.all_ret ?_) fun c3=>Tr.all_ret ?_)) fun c1=>Tr.all_ret ?_))
   ·have hne:at'≠a+n:=by simpa using c2
    rw[if_neg (fun h=>hne h.2.1)]
    rfl
   ·rw[Bool.not_eq_true'] at c3
    rw[if_neg (fun h=>by rw[show mayR k d=false from c3] at h;exact Bool.false_ne_true h.2.2)]
    rfl
   ·rw[Bool.not_eq_false'] at c3
    have he:at'=a+n:=by simpa using c2
    rw[if_pos ⟨c1,he,c3⟩]
    rfl
   ·rw[if_neg (fun h=>by rw[show ok=false from c1] at h;exact Bool.false_ne_true h.1)]
    rfl
noncomputable def b154:Code:=X5 c154 0
def J4q:LoopSpec:={ bid:=0,sh:=[.d .str false,.d (.int .i64) false],so:=[],F:=fun(s,k,_) _=>.on2 (bigS s&&decide (k=1)) (V0 s==0) (.exit 0,[.dead],[]) (.ret,[.int .i64 (V0 s)],[]) }
def r154 (s:List UInt8) (k:Int):Tr (St⊕(Ex×St)):=.br (decide (k≤(↑s.length:Int))) (.br (decide (k≤255)) (.br (decide (0≤k)&&decide (k≤(↑s.length:Int))) (.br (decide (0≤0)&&decide (0≤k)) (.br (bigS (List.take (Int.toNat k - Int.toNat 0) (List.drop (Int.toNat 0) s))) (.br (mayV (List.take (Int.toNat k - Int.toNat 0) (List.drop (Int.toNat 0) s))) (.ret (.inr (.ret,stOf [2] [.int .i64 k] []))) (.ret (.inl (stOf [0,3] [.str s,.int .i64 (IntKind.wrap .i64 (k+1))] [])))) .no) .no) .no) (.ret (.inr (.exit 0,stOf [2] [.dead] [])))) (.ret (.inr (.exit 0,stOf [2] [.dead] [])))
theorem Q4c (lp:Lp) (s:List UInt8) (k:Int):evC T0 (orcB [Zq] []) lp b154 0 (stOf [0,3] [.str s,.int .i64 k] []) (V1 [0,3] [2] 0)=(r154 s k).get:=by kernel_rfl
theorem wf154 (s:List UInt8) (I'':Int→Prop) (m'':Int→Nat) (r'':Ex×St) (h:∀ (k:Int),I'' k→(r154 s k).all fun x''=>x''=.inr r''∨∃ (k':Int),x''=.inl (stOf [0,3] [.str s,.int .i64 k'] [])∧I'' k'∧m'' k' < m'' k) (lp:Lp) (k:Int):I'' k→
    Z4 (fun st=>evC T0 (orcB [Zq] []) lp b154 0 st (V1 [0,3] [2] 0)) (stOf [0,3] [.str s,.int .i64 k] [])=some r'':=
 Q5 (fun a'':Int=>stOf [0,3] [.str s,.int .i64 a''] []) (fun a''=>I'' a'') (fun a''=>m'' a'') r'' (fun a''=>r154 s a'')
  (fun a'' x hx=>(Q4c lp s a'').trans hx) (fun a'' ha=>Tr.all_mono (fun x'' hx=>hx.imp id fun⟨k',h1,h2,h3⟩=>⟨(k'),h1,h2,h3⟩) (h (a'') ha)) (k)
theorem V4s:J4q.Ok T0 (orcB [Zq] []) h154 0 0 b154:=by
 intro q'' hq'' x'' y'' r'' h
 obtain⟨(s:List UInt8),(k:Int),_⟩:=x''
 obtain⟨hc,rfl⟩:=Tr.get_on2 h
 show Z4 (fun st=>evC T0 (orcB [Zq] []) (lpN T0 (orcB [Zq] []) h154 0 q'') b154 0 st (V1 [0,3] [2] 0)) (stOf [0,3] [.str s,.int .i64 k] [])=some ((bif V0 s==0 then (.exit 0,[.dead],[]) else (.ret,[.int .i64 (V0 s)],[]):Ex×List AV×List LObj).1,stOf [2] (bif V0 s==0 then (.exit 0,[.dead],[]) else (.ret,[.int .i64 (V0 s)],[]):Ex×List AV×List LObj).2.1 (bif V0 s==0 then (.exit 0,[.dead],[]) else (.ret,[.int .i64 (V0 s)],[]):Ex×List AV×List LObj).2.2)
 simp only[Bool.and_eq_true,decide_eq_true_eq] at hc
 obtain⟨hb,rfl⟩:=hc
 have hB:s.length≤1000000000000:=by simpa[bigS] using hb
 refine wf154 s (fun k=>1≤k∧k≤256∧(V0 s=0∨k≤V0 s)) (fun k=>(257 - k).toNat) _ ?_ _ 1 ⟨by omega,by omega,by omega⟩
 rintro k ⟨h1,h2,h3⟩
 unfold r154
 have hwl:=Zs s
 have hwm:V0 s≠0→V0 s≤255:=fun h=>by
  have:=(U1r (d:=s) hwl (J01 h)).2
  omega
 by_cases hk:k≤s.length
 ·by_cases h255:k≤255
  ·have ht:List.take (Int.toNat k - Int.toNat (0:Int)) (List.drop (Int.toNat (0:Int)) s)=s.take k.toNat:=rfl
   rw[ht,IntWalk.i64_in _ (by omega)]
   refine Tr.all_t (J0 hk) (Tr.all_t (J0 h255) (Tr.all_t (by rw[J0 (by omega),J0 hk];rfl) (Tr.all_t (by rw[J0 (by omega),J0 (by omega)];rfl) (Tr.all_t (by simp[bigS];omega) (Tr.all_br (fun c=>Tr.all_ret (.inl ?_)) fun c=>Tr.all_ret (.inr ⟨_,rfl,⟨by omega,by omega,?_⟩,by omega⟩))))))
   ·obtain⟨e,_⟩:=U1r (d:=s) (by omega) c
    rw[show (V0 s==0)=false from beq_eq_false_iff_ne.2 (by omega),e,Int.toNat_of_nonneg (by omega)]
    rfl
   ·rcases h3 with h3 | h3
    ·exact .inl h3
    ·by_cases he:k=(V0 s:Int)
     ·have:=J01 (d:=s) (by omega)
      rw[show V0 s=k.toNat by omega,c] at this
      cases this
     ·omega
  ·have h0:V0 s=0:=by
    rcases h3 with h3 | h3
    ·exact h3
    ·by_cases hz:V0 s=0
     ·exact hz
     ·have:=hwm hz;omega
   rw[h0]
   exact Tr.all_t (J0 hk) (Tr.all_f (J1 h255) (Tr.all_ret (.inl rfl)))
 ·have h0:V0 s=0:=by omega
  rw[h0]
  exact Tr.all_f (J1 hk) (Tr.all_ret (.inl rfl))
def t154 (s:List UInt8):Tr Res:=.br (bigS s&&decide (1=(1:Ty.den (Ty.int .i64)))) (.br (V0 s==0) (.ret ([.int .i64 0],[])) (.ret ([.int .i64 (↑(V0 s):Int)],[]))) .no
def os154:OSpec:={ f:=154,sh:=[.d .str false],so:=[],F:=fun(s,_) _=>t154 s }
theorem fn154 (s:List UInt8):evC T0 (orcB [Zq] []) (lpOf h154 0 (lsOf [J4q])) c154 1000000 (J2 [.str s] [] Try.f154.ntmps) (Z1 T0 false 0 Try.f154)=(t154 s).get:=by kernel_rfl
theorem ok154:os154.Ok Try.prog:=by
 refine U4 J3 tab0 (U0 (all_cons V12 all_nil) all_nil) h154 (d:=0) (n0:=0) (S:=lsOf [J4q]) Try.func154 (by kernel_rfl) (c:=c154) (by kernel_rfl) rfl (U5 (xs:=[(0,b154)]) (by kernel_rfl) (all_cons (U6 V4s) all_nil)) (by omega) (by kernel_rfl) ?_
 intro x'' y'' q'' hq''
 obtain⟨(s:List UInt8),_⟩:=x''
 exact(fn154 s).trans hq''
def J5m:FSpec:=fsT 154 [(.str,false)] [((.int .i64),false)] fun(s,_)=>t154 s
theorem J63:J5m.Ok Try.prog:=V5 fun x'' r'' hr''=>ok154 x'' () r'' hr''
def J31:FSpec:=J5m.like fun(s,_)=>.on (bigS s) ((V0 s:Int),())
theorem J3d:J31.Ok Try.prog:=by
 refine Q3 J63 _ ?_
 rintro⟨(s:List UInt8),_⟩ y h
 obtain⟨hb,rfl⟩:=Tr.get_on h
 refine X3 (vs:=[.int .i64 (V0 s)]) rfl rfl (Tr.get_of_all ?_)
 show (t154 s).all _
 refine Tr.all_t (by rw[hb];rfl) (Tr.all_br (fun c1=>Tr.all_ret ?_) fun c1=>Tr.all_ret rfl)
 rw[beq_iff_eq.1 c1]
 rfl
noncomputable def b155:Code:=X5 c155 0
def U42:LoopSpec:={ bid:=0,sh:=[.d .str false],so:=[],F:=fun(s,_) _=>.on2 (bigS s) (texR s) (.exit 0,[.dead],[]) (.ret,[.bool false],[]) }
def r155 (s:List UInt8):Tr (St⊕(Ex×St)):=.br (!s==[]) (.br (decide (0 < (↑s.length:Int))) (.br (decide (IntKind.wrap .i64 (1+IntKind.wrap .i64 (↑(UInt8.toNat (s.getD (Int.toNat 0) 0)):Int)) > (↑s.length:Int))) (.ret (.inr (.ret,stOf [2] [.bool false] []))) (.br (decide (0≤(↑s.length:Int))&&decide ((↑s.length:Int)≤(↑s.length:Int))) (.br (decide (0≤IntKind.wrap .i64 (1+IntKind.wrap .i64 (↑(UInt8.toNat (s.getD (Int.toNat 0) 0)):Int)))&&decide (IntKind.wrap .i64 (1+IntKind.wrap .i64 (↑(UInt8.toNat (s.getD (Int.toNat 0) 0)):Int))≤(↑s.length:Int))) (.ret (.inl (stOf [0] [.str (List.take (Int.toNat (↑s.length:Int) - Int.toNat (IntKind.wrap .i64 (1+IntKind.wrap .i64 (↑(UInt8.toNat (s.getD (Int.toNat 0) 0)):Int)))) (List.drop (Int.toNat (IntKind.wrap .i64 (1+IntKind.wrap .i64 (↑(UInt8.toNat (s.getD (Int.toNat 0) 0)):Int)))) s))] []))) .no) .no)) .no) (.ret (.inr (.exit 0,stOf [2] [.dead] [])))
theorem X48 (orc:Orc) (lp:Lp) (s:List UInt8):evC T0 orc lp b155 0 (stOf [0] [.str s] []) (V1 [0] [2] 0)=(r155 s).get:=by kernel_rfl
theorem wf155 (orc:Orc) (I'':List UInt8→Prop) (m'':List UInt8→Nat) (r'':Ex×St) (h:∀ (s:List UInt8),I'' s→(r155 s).all fun x''=>x''=.inr r''∨∃ (s':List UInt8),x''=.inl (stOf [0] [.str s'] [])∧I'' s'∧m'' s' < m'' s) (lp:Lp) (s:List UInt8):I'' s→
    Z4 (fun st=>evC T0 orc lp b155 0 st (V1 [0] [2] 0)) (stOf [0] [.str s] [])=some r'':=
 Q5 (fun a'':List UInt8=>stOf [0] [.str a''] []) (fun a''=>I'' a'') (fun a''=>m'' a'') r'' (fun a''=>r155 a'')
  (fun a'' x hx=>(X48 orc lp a'').trans hx) (fun a'' ha=>Tr.all_mono (fun x'' hx=>hx.imp id fun⟨s',h1,h2,h3⟩=>⟨(s'),h1,h2,h3⟩) (h (a'') ha)) (s)
theorem Z4y (orc:Orc):U42.Ok T0 orc h155 0 0 b155:=by
 intro q'' hq'' x'' y'' r'' h
 obtain⟨(s:List UInt8),_⟩:=x''
 obtain⟨hc,rfl⟩:=Tr.get_on2 h
 show Z4 (fun st=>evC T0 orc (lpN T0 orc h155 0 q'') b155 0 st (V1 [0] [2] 0)) (stOf [0] [.str s] [])=some ((bif texR s then (.exit 0,[.dead],[]) else (.ret,[.bool false],[]):Ex×List AV×List LObj).1,stOf [2] (bif texR s then (.exit 0,[.dead],[]) else (.ret,[.bool false],[]):Ex×List AV×List LObj).2.1 (bif texR s then (.exit 0,[.dead],[]) else (.ret,[.bool false],[]):Ex×List AV×List LObj).2.2)
 refine wf155 _ (fun t=>bigS t=true∧texR t=texR s) (fun t=>t.length) _ ?_ _ s ⟨hc,rfl⟩
 clear hc
 rintro t ⟨hb,h2⟩
 rw[←h2]
 have hB:t.length≤1000000000000:=by simpa[bigS] using hb
 unfold r155
 cases ht:t with
 | nil=>
   rw[X4b]
   exact Tr.all_f rfl (Tr.all_ret (.inl rfl))
 | cons c0 t0=>
   rw[←ht]
   have hne:t≠[]:=by rw[ht];simp
   have hpos:=List.length_pos_iff.2 hne
   have hb0:(↑(UInt8.toNat (List.getD t (Int.toNat (0:Int)) 0)):Int)=(byN t 0:Int):=rfl
   have hbl:byN t 0 < 256:=(t.getD 0 0).toNat_lt
   rw[hb0]
   simp (disch:=omega) only[IntWalk.i64_in]
   refine Tr.all_t (by rw[ht];rfl) (Tr.all_t (J0 (by omega)) (Tr.all_br (fun c=>Tr.all_ret (.inl ?_)) fun c=>Tr.all_t (by rw[J0 (by omega),J0 (by omega)];rfl) (Tr.all_t ?_ (Tr.all_ret (.inr ⟨_,rfl,?_,?_⟩)))))
   ·simp only[decide_eq_true_eq] at c
    rw[Q3p hne (by omega)]
    rfl
   ·simp only[decide_eq_false_iff_not] at c
    rw[J0 (by omega),J0 (by omega)]
    rfl
   ·simp only[decide_eq_false_iff_not] at c
    have e:List.take (Int.toNat (t.length:Int) - Int.toNat ((1:Int)+(byN t 0:Int))) (List.drop (Int.toNat ((1:Int)+(byN t 0:Int))) t)=t.drop (1+byN t 0):=by
     rw[show Int.toNat ((1:Int)+(byN t 0:Int))=1+byN t 0 by omega]
     exact List.take_of_length_le (by simp)
    rw[e]
    exact⟨by simp[bigS];omega,(V57 hne (by omega)).symm⟩
   ·rw[List.length_take,List.length_drop]
    omega
def t155 (s:List UInt8):Tr Res:=.br (s==[]) (.ret ([.bool false],[])) (.br (bigS s) (.br (texR s) (.ret ([.bool true],[])) (.ret ([.bool false],[]))) .no)
def os155:OSpec:={ f:=155,sh:=[.d .str false],so:=[],F:=fun(s,_) _=>t155 s }
theorem fn155 (s:List UInt8):evC T0 (orcB [] []) (lpOf h155 0 (lsOf [U42])) c155 1000000 (J2 [.str s] [] Try.f155.ntmps) (Z1 T0 false 0 Try.f155)=(t155 s).get:=by kernel_rfl
theorem ok155:os155.Ok Try.prog:=by
 refine U4 J3 tab0 (U0 all_nil all_nil) h155 (d:=0) (n0:=0) (S:=lsOf [U42]) Try.func155 (by kernel_rfl) (c:=c155) (by kernel_rfl) rfl (U5 (xs:=[(0,b155)]) (by kernel_rfl) (all_cons (U6 (Z4y _)) all_nil)) (by omega) (by kernel_rfl) ?_
 intro x'' y'' q'' hq''
 obtain⟨(s:List UInt8),_⟩:=x''
 exact(fn155 s).trans hq''
def X5f:FSpec:=fsT 155 [(.str,false)] [(.bool,false)] fun(s,_)=>t155 s
theorem U5z:X5f.Ok Try.prog:=V5 fun x'' r'' hr''=>ok155 x'' () r'' hr''
def U4g:FSpec:=X5f.like fun(s,_)=>.on (bigS s) (Xs s,())
theorem U53:U4g.Ok Try.prog:=by
 refine Q3 U5z _ ?_
 rintro⟨(s:List UInt8),_⟩ y h
 obtain⟨hb,rfl⟩:=Tr.get_on h
 refine X3 (vs:=[.bool (Xs s)]) rfl rfl (Tr.get_of_all ?_)
 show (t155 s).all _
 unfold t155
 have e:Xs s=(!s.isEmpty&&texR s):=rfl
 rw[e]
 cases hs:s with
 | nil=>exact Tr.all_t rfl (Tr.all_ret rfl)
 | cons c0 s0=>
   rw[←hs]
   refine Tr.all_f (by rw[hs];rfl) (Tr.all_t hb (Tr.all_br (fun c=>Tr.all_ret ?_) fun c=>Tr.all_ret ?_))
   ·rw[c,hs];rfl
   ·rw[c,hs];rfl
def t146 (k:Int) (d:List UInt8):Tr Res:=.br (decide ((↑d.length:Int) > 65535)) (.ret ([.bool false],[])) (.br (k==1) (.ret ([.bool ((↑d.length:Int)==4)],[])) (.br (k==28) (.ret ([.bool ((↑d.length:Int)==16)],[])) (.br (k==2) (.br (bigS d) (.ret ([.bool (mayV d)],[])) .no) (.br (k==5) (.br (bigS d) (.ret ([.bool (mayV d)],[])) .no) (.br (k==12) (.br (bigS d) (.ret ([.bool (mayV d)],[])) .no) (.br (k==15) (.br (decide ((↑d.length:Int) > 2)) (.br (decide (0≤(↑d.length:Int))&&decide ((↑d.length:Int)≤(↑d.length:Int))) (.br (decide (0≤2)&&decide (2≤(↑d.length:Int))) (.br (bigS (List.take (Int.toNat (↑d.length:Int) - Int.toNat 2) (List.drop (Int.toNat 2) d))) (.ret ([.bool (mayV (List.take (Int.toNat (↑d.length:Int) - Int.toNat 2) (List.drop (Int.toNat 2) d)))],[])) .no) .no) .no) (.ret ([.bool false],[]))) (.br (k==6) (.br (bigS d) (.br (decide (0≤(↑d.length:Int))&&decide ((↑d.length:Int)≤(↑d.length:Int))) (.br (decide (0≤(↑(V0 d):Int))&&decide ((↑(V0 d):Int)≤(↑d.length:Int))) (.br (bigS (List.take (Int.toNat (↑d.length:Int) - Int.toNat (↑(V0 d):Int)) (List.drop (Int.toNat (↑(V0 d):Int)) d))) (.br (decide ((↑(V0 d):Int) > 0)) (.br (decide ((↑(V0 (List.take (Int.toNat (↑d.length:Int) - Int.toNat (↑(V0 d):Int)) (List.drop (Int.toNat (↑(V0 d):Int)) d))):Int) > 0)) (.ret ([.bool ((↑d.length:Int)==IntKind.wrap .i64 (IntKind.wrap .i64 ((↑(V0 d):Int)+(↑(V0 (List.take (Int.toNat (↑d.length:Int) - Int.toNat (↑(V0 d):Int)) (List.drop (Int.toNat (↑(V0 d):Int)) d))):Int))+20))],[])) (.ret ([.bool false],[]))) (.ret ([.bool false],[]))) .no) .no) .no) .no) (.br (k==16) (.br (bigS d) (.ret ([.bool (Xs d)],[])) .no) (.ret ([.bool true],[]))))))))))
def os146:OSpec:={ f:=146,sh:=[.d (.int .u16) false,.d .str false],so:=[],F:=fun(k,d,_) _=>t146 k d }
theorem fn146 (k:Int) (d:List UInt8):evC T0 (orcB [J31,U4g,Zq] []) (lpOf h146 0 (lsOf [])) c146 1000000 (J2 [.int .u16 k,.str d] [] Try.f146.ntmps) (Z1 T0 false 0 Try.f146)=(t146 k d).get:=by kernel_rfl
theorem ok146:os146.Ok Try.prog:=by
 refine U4 J3 tab0 (U0 (all_cons J3d (all_cons U53 (all_cons V12 all_nil))) all_nil) h146 (d:=0) (n0:=0) (S:=lsOf []) Try.func146 (by kernel_rfl) (c:=c146) (by kernel_rfl) rfl (V3 (by kernel_rfl)) (by omega) (by kernel_rfl) ?_
 intro x'' y'' q'' hq''
 obtain⟨(k:Int),(d:List UInt8),_⟩:=x''
 exact(fn146 k d).trans hq''
def V5j:FSpec:=fsT 146 [((.int .u16),false),(.str,false)] [(.bool,false)] fun(k,d,_)=>t146 k d
theorem Z61:V5j.Ok Try.prog:=V5 fun x'' r'' hr''=>ok146 x'' () r'' hr''
def U29:FSpec:=V5j.like fun(k,d,_)=>.on (bigS d) (mayR k d,())
theorem X28:U29.Ok Try.prog:=by
 refine Q3 Z61 _ ?_
 rintro⟨(k:Int),(d:List UInt8),_⟩ y h
 obtain⟨hb,rfl⟩:=Tr.get_on h
 refine X3 (vs:=[.bool (mayR k d)]) rfl rfl (Tr.get_of_all ?_)
 show (t146 k d).all _
 unfold t146
 have hB:d.length≤1000000000000:=by simpa[bigS] using hb
 by_cases hl:(d.length:Int) > 65535
 ·have hf:Nat.ble d.length 65535=false:=by rw[Z0w];exact J1 (by omega)
  have:mayR k d=false:=by rw[Xz,hf,Bool.and_false]
  rw[this]
  exact Tr.all_t (J0 hl) (Tr.all_ret rfl)
 have ht:Nat.ble d.length 65535=true:=Nat.ble_eq_true_of_le (by omega)
 refine Tr.all_f (J1 hl) ?_
 by_cases k1:k=1
 ·subst k1
  rw[may_A,ht,Bool.and_true]
  exact Tr.all_t rfl (Tr.all_ret rfl)
 refine Tr.all_f (beq_eq_false_iff_ne.2 k1) ?_
 by_cases k2:k=28
 ·subst k2
  rw[J4h,ht,Bool.and_true]
  exact Tr.all_t rfl (Tr.all_ret rfl)
 refine Tr.all_f (beq_eq_false_iff_ne.2 k2) ?_
 by_cases k3:k=2
 ·rw[Q0j (.inl k3),ht,Bool.and_true]
  exact Tr.all_t (beq_iff_eq.2 k3) (Tr.all_t hb (Tr.all_ret rfl))
 refine Tr.all_f (beq_eq_false_iff_ne.2 k3) ?_
 by_cases k4:k=5
 ·rw[Q0j (.inr (.inl k4)),ht,Bool.and_true]
  exact Tr.all_t (beq_iff_eq.2 k4) (Tr.all_t hb (Tr.all_ret rfl))
 refine Tr.all_f (beq_eq_false_iff_ne.2 k4) ?_
 by_cases k5:k=12
 ·rw[Q0j (.inr (.inr k5)),ht,Bool.and_true]
  exact Tr.all_t (beq_iff_eq.2 k5) (Tr.all_t hb (Tr.all_ret rfl))
 refine Tr.all_f (beq_eq_false_iff_ne.2 k5) ?_
 have hsub:∀ a:Nat,List.take (Int.toNat (↑(List.length d):Int) - Int.toNat (a:Int)) (List.drop (Int.toNat (a:Int)) d)=d.drop a:=fun a=>List.take_of_length_le (by simp)
 by_cases k6:k=15
 ·subst k6
  rw[V2y,ht,Bool.and_true]
  refine Tr.all_t rfl (Tr.all_br (fun c=>?_) fun c=>Tr.all_ret ?_)
  ·simp only[decide_eq_true_eq] at c
   rw[show (2:Int)=((2:Nat):Int) from rfl,hsub 2]
   rw[J0 (show ((2:Nat):Int)≤d.length by omega)]
   exact Tr.all_t (by rw[J0 (by omega),J0 (by omega)];rfl) (Tr.all_t (by rw[J0 (by omega)];rfl) (Tr.all_t (by simp[bigS];omega) (Tr.all_ret rfl)))
  ·simp only[decide_eq_false_iff_not] at c
   have:(decide ((2:Int)≤d.length)&&mayV (d.drop 2))=false:=by
    by_cases h2:d.length=2
    ·rw[List.drop_eq_nil_of_le (by omega)]
     rw[Z4r,Bool.and_false]
    ·rw[J1 (by omega),Bool.false_and]
   rw[this]
 refine Tr.all_f (beq_eq_false_iff_ne.2 k6) ?_
 by_cases k7:k=6
 ·subst k7
  have hw:=Zs d
  have hw2:=Zs (d.drop (V0 d))
  rw[List.length_drop] at hw2
  rw[Z28,ht,Bool.and_true,hsub]
  refine Tr.all_t rfl (Tr.all_t hb (Tr.all_t (by rw[J0 (by omega),J0 (by omega)];rfl) (Tr.all_t (by rw[J0 (by omega),J0 (by omega)];rfl) (Tr.all_t (by simp[bigS];omega) (Tr.all_br (fun c1=>Tr.all_br (fun c2=>Tr.all_ret ?_) fun c2=>Tr.all_ret ?_) fun c1=>Tr.all_ret ?_)))))
  ·simp only[decide_eq_true_eq] at c1 c2
   rw[IntWalk.i64_in ((V0 d:Int)+(V0 (d.drop (V0 d)):Int)) (by omega),IntWalk.i64_in _ (by omega),J1 (show ¬ V0 d=0 by omega),J1 (show ¬ V0 (d.drop (V0 d))=0 by omega)]
   simp only[Bool.not_false,Bool.true_and,List.length_drop]
   congr 3
   rw[Bool.eq_iff_iff]
   simp
   omega
  ·simp only[decide_eq_false_iff_not] at c2
   rw[J0 (show V0 (d.drop (V0 d))=0 by omega)]
   simp
  ·simp only[decide_eq_false_iff_not] at c1
   rw[J0 (show V0 d=0 by omega)]
   rfl
 refine Tr.all_f (beq_eq_false_iff_ne.2 k7) ?_
 by_cases k8:k=16
 ·subst k8
  rw[U4t,ht,Bool.and_true]
  exact Tr.all_t rfl (Tr.all_t hb (Tr.all_ret rfl))
 rw[Q50 ⟨k1,k2,k3,k4,k5,k6,k7,k8⟩,ht]
 exact Tr.all_f (beq_eq_false_iff_ne.2 k8) (Tr.all_ret rfl)
end Go.Proofs.YtpledbapngdkeaaE
