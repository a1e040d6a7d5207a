import Derived.Test.YtkobjdhbfepkaaaPAcceptBailiwick4
import Derived.Test.YtkobjdhbfepkaaaRows
import Derived.WalkKit
import Derived.ProofKit
import Derived.OpenShut
import Derived.ShutString
import Derived.ChangeOld
import Derived.Below
import Derived.Carry
import Derived.SizedLaws
set_option maxRecDepth 1000000
namespace Go.Proofs.YtkobjdhbfepkaaaE
open Go Go.Proofs.YtkobjdhbfepkaaaB
set_option linter.unusedVariables false
set_option linter.unusedSimpArgs false
theorem Q1z {z:List UInt8} {s:Int} {l:List RRt} {es:ES} {od:List QQt} (h:okF l z []=true) (hs:secB (s+1)=true) (hl:l.length≤1000) (he:BdE es 10000) (ho:od.length≤10000):inC z s l (l.length:Int) 0 es od=true:=by
 unfold inC
 rw[h,hs,Nat.ble_eq_true_of_le hl,Nat.ble_eq_true_of_le ho,List.all_eq_true.2 fun e hh=>Nat.ble_eq_true_of_le (he e hh)]
 simp
def okS3 (z:List UInt8) (l:List RRt):Bool:=okF l z []&&Nat.ble l.length 1000
def outC (z:List UInt8) (arr:List RRt×(List RRt×List RRt)) (si:Int) (es:ES) (od:List QQt):Bool:=decide (si=0)&&((es.isEmpty&&od.isEmpty)&&(okS3 z arr.1&&(okS3 z arr.2.1&&okS3 z arr.2.2)))
def cAll (z:List UInt8) (arr:List RRt×(List RRt×List RRt)):ES×List QQt:=cRun z 3 arr.2.2 (cRun z 2 arr.2.1 (cRun z 1 arr.1 ([],[])))
noncomputable def b34o:Code:=U5 c34 0
def X2y:LoopSpec:={ bid:=0,sh:=[.d .str false,.d (.int .u64) false,.d (.int .u32) false,.ptr 0 0,.mp 1,.row 2,.d (.pair (.list RR) (.pair (.list RR) (.list RR))) true,.d (.int .i64) false],so:=[.box [.d (.int .u16) false,.d .bool false,.d .bool false,.d .bool false,.d .bool false,.d .bool false,.d (.int .i64) false,.d (.int .i64) false,.d (.list QQ) false,.d (.list RR) false,.d (.list RR) false,.d (.list RR) false],.mapb QQ .i64 RR,.row QQ],F:=fun(z,now,most,arr,si,_) ((mi,mqr,maa,mtc,mrd,mra,mop,mrc,mq,man,mns,mar,_),es,od,_)=>.on (outC z arr si es od) (.exit 0,[.int .u64 now,.int .u32 most,.ptr 0 0,.mp 1,.rowA 2],[.box [.int .u16 mi,.bool mqr,.bool maa,.bool mtc,.bool mrd,.bool mra,.int .i64 mop,.int .i64 mrc,.list QQ mq,.list RR man,.list RR mns,.list RR mar],.mpb QQ .i64 RR (cAll z arr).1 none,.row QQ (cAll z arr).2]) }
def r34o (z:List UInt8) (now most:Int) (arr:(List RRt×(List RRt×List RRt))) (si mi:Int) (mqr maa mtc mrd mra:Bool) (mop mrc:Int) (mq:List QQt) (man mns mar:List RRt) (es:List (QQt×(Int×List RRt))) (od:List QQt):Tr (St⊕(Ex×St)):=.br (decide (si < 3)) (.br (decide (si=(↑0:Int))) (.br (inC z si arr.1 (↑arr.1.length:Int) 0 es od) (.ret (.inl (stOf [1,2,3,4,9,10,28,29] [.str z,.int .u64 now,.int .u32 most,.ptr 0 0,.mp 1,.rowA 2,.agg [.list RR arr.1,.list RR arr.2.1,.list RR arr.2.2],.int .i64 (IntKind.wrap .i64 (si+1))] [.boxT none [.int .u16 mi,.bool mqr,.bool maa,.bool mtc,.bool mrd,.bool mra,.int .i64 mop,.int .i64 mrc,.list QQ mq,.list RR man,.list RR mns,.list RR mar],LObj.mpb QQ IntKind.i64 RR (cRun z (si+1) arr.1 (es,od)).1 none,.row QQ (cRun z (si+1) arr.1 (es,od)).2]))) .no) (.br (decide (si=(↑(0+1):Int))) (.br (inC z si arr.2.1 (↑arr.2.1.length:Int) 0 es od) (.ret (.inl (stOf [1,2,3,4,9,10,28,29] [.str z,.int .u64 now,.int .u32 most,.ptr 0 0,.mp 1,.rowA 2,.agg [.list RR arr.1,.list RR arr.2.1,.list RR arr.2.2],.int .i64 (IntKind.wrap .i64 (si+1))] [.boxT none [.int .u16 mi,.bool mqr,.bool maa,.bool mtc,.bool mrd,.bool mra,.int .i64 mop,.int .i64 mrc,.list QQ mq,.list RR man,.list RR mns,.list RR mar],LObj.mpb QQ IntKind.i64 RR (cRun z (si+1) arr.2.1 (es,od)).1 none,.row QQ (cRun z (si+1) arr.2.1 (es,od)).2]))) .no) (.br (decide (si=(↑(0+1+1):Int))) (.br (inC z si arr.2.2 (↑arr.2.2.length:Int) 0 es od) (.ret (.inl (stOf [1,2,3,4,9,10,28,29] [.str z,.int .u64 now,.int .u32 most,.ptr 0 0,.mp 1,.rowA 2,.agg [.list RR arr.1,.list RR arr.2.1,.list RR arr.2.2],.int .i64 (IntKind.wrap .i64 (si+1))] [.boxT none [.int .u16 mi,.bool mqr,.bool maa,.bool mtc,.bool mrd,.bool mra,.int .i64 mop,.int .i64 mrc,.list QQ mq,.list RR man,.list RR mns,.list RR mar],LObj.mpb QQ IntKind.i64 RR (cRun z (si+1) arr.2.2 (es,od)).1 none,.row QQ (cRun z (si+1) arr.2.2 (es,od)).2]))) .no) .no))) (.ret (.inr (.exit 0,stOf [2,3,4,9,10] [.int .u64 now,.int .u32 most,.ptr 0 0,.mp 1,.rowA 2] [.boxT none [.int .u16 mi,.bool mqr,.bool maa,.bool mtc,.bool mrd,.bool mra,.int .i64 mop,.int .i64 mrc,.list QQ mq,.list RR man,.list RR mns,.list RR mar],LObj.mpb QQ IntKind.i64 RR es none,.row QQ od])))
theorem U30 (z:List UInt8) (now most:Int) (arr:(List RRt×(List RRt×List RRt))) (si mi:Int) (mqr maa mtc mrd mra:Bool) (mop mrc:Int) (mq:List QQt) (man mns mar:List RRt) (es:List (QQt×(Int×List RRt))) (od:List QQt):evC TQ (orcB [Qg,V6,Ul,Jn,Ql] [Zm,Qm]) (lpOf h34 0 (lsOf [X2p])) b34o 0 (stOf [1,2,3,4,9,10,28,29] [.str z,.int .u64 now,.int .u32 most,.ptr 0 0,.mp 1,.rowA 2,AV.ofTy (.pair (.list RR) (.pair (.list RR) (.list RR))) arr true,.int .i64 si] [.box [.int .u16 mi,.bool mqr,.bool maa,.bool mtc,.bool mrd,.bool mra,.int .i64 mop,.int .i64 mrc,.list QQ mq,.list RR man,.list RR mns,.list RR mar],.mpb QQ .i64 RR es none,.row QQ od]) (X1 [1,2,3,4,9,10,28,29] [2,3,4,9,10] 0)=(r34o z now most arr si mi mqr maa mtc mrd mra mop mrc mq man mns mar es od).get:=by kernel_rfl
theorem wf34o (z:List UInt8) (now most:Int) (arr:(List RRt×(List RRt×List RRt))) (mi:Int) (mqr maa mtc mrd mra:Bool) (mop mrc:Int) (mq:List QQt) (man mns mar:List RRt) (I'':Int→List (QQt×(Int×List RRt))→List QQt→Prop) (m'':Int→List (QQt×(Int×List RRt))→List QQt→Nat) (r'':Ex×St) (h:∀ (si:Int) (es:List (QQt×(Int×List RRt))) (od:List QQt),I'' si es od→(r34o z now most arr si mi mqr maa mtc mrd mra mop mrc mq man mns mar es od).all fun x''=>x''=.inr r''∨∃ (si':Int) (es':List (QQt×(Int×List RRt))) (od':List QQt),x''=.inl (stOf [1,2,3,4,9,10,28,29] [.str z,.int .u64 now,.int .u32 most,.ptr 0 0,.mp 1,.rowA 2,AV.ofTy (.pair (.list RR) (.pair (.list RR) (.list RR))) arr true,.int .i64 si'] [.box [.int .u16 mi,.bool mqr,.bool maa,.bool mtc,.bool mrd,.bool mra,.int .i64 mop,.int .i64 mrc,.list QQ mq,.list RR man,.list RR mns,.list RR mar],.mpb QQ .i64 RR es' none,.row QQ od'])∧I'' si' es' od'∧m'' si' es' od' < m'' si es od) (q'':Nat) (hq'':1≤q'') (si:Int) (es:List (QQt×(Int×List RRt))) (od:List QQt):I'' si es od→
    Q3 (fun st=>evC TQ (orcB [Qg,V6,Ul,Jn,Ql] [Zm,Qm]) (lpN TQ (orcB [Qg,V6,Ul,Jn,Ql] [Zm,Qm]) h34 0 q'') b34o 0 st (X1 [1,2,3,4,9,10,28,29] [2,3,4,9,10] 0)) (stOf [1,2,3,4,9,10,28,29] [.str z,.int .u64 now,.int .u32 most,.ptr 0 0,.mp 1,.rowA 2,AV.ofTy (.pair (.list RR) (.pair (.list RR) (.list RR))) arr true,.int .i64 si] [.box [.int .u16 mi,.bool mqr,.bool maa,.bool mtc,.bool mrd,.bool mra,.int .i64 mop,.int .i64 mrc,.list QQ mq,.list RR man,.list RR mns,.list RR mar],.mpb QQ .i64 RR es none,.row QQ od])=some r'':=
 Z7 (fun a'':Int×List (QQt×(Int×List RRt))×List QQt=>stOf [1,2,3,4,9,10,28,29] [.str z,.int .u64 now,.int .u32 most,.ptr 0 0,.mp 1,.rowA 2,AV.ofTy (.pair (.list RR) (.pair (.list RR) (.list RR))) arr true,.int .i64 a''.1] [.box [.int .u16 mi,.bool mqr,.bool maa,.bool mtc,.bool mrd,.bool mra,.int .i64 mop,.int .i64 mrc,.list QQ mq,.list RR man,.list RR mns,.list RR mar],.mpb QQ .i64 RR a''.2.1 none,.row QQ a''.2.2]) (fun a''=>I'' a''.1 a''.2.1 a''.2.2) (fun a''=>m'' a''.1 a''.2.1 a''.2.2) r'' (fun a''=>r34o z now most arr a''.1 mi mqr maa mtc mrd mra mop mrc mq man mns mar a''.2.1 a''.2.2)
  (fun a'' x hx=>X0z (d:=0) (S:=lsOf [X2p]) (Q1t (xs:=[(2,b34i)]) (by kernel_rfl) (all_cons (X7 J32) Z0)) (by omega) ((U30 z now most arr a''.1 mi mqr maa mtc mrd mra mop mrc mq man mns mar a''.2.1 a''.2.2).trans hx)) (fun a'' ha=>Tr.all_mono (fun x'' hx=>hx.imp id fun⟨si',es',od',h1,h2,h3⟩=>⟨(si',es',od'),h1,h2,h3⟩) (h (a''.1) (a''.2.1) (a''.2.2) ha)) (si,es,od)
theorem J39:X2y.Ok TQ (orcB [Qg,V6,Ul,Jn,Ql] [Zm,Qm]) h34 0 1 b34o:=by
 intro q'' hq'' x'' y'' r'' h
 obtain⟨(z:List UInt8),(now:Int),(most:Int),(arr:(List RRt×(List RRt×List RRt))),(si:Int),_⟩:=x''
 obtain⟨⟨(mi:Int),(mqr:Bool),(maa:Bool),(mtc:Bool),(mrd:Bool),(mra:Bool),(mop:Int),(mrc:Int),(mq:List QQt),(man:List RRt),(mns:List RRt),(mar:List RRt),_⟩,(es:List (QQt×(Int×List RRt))),(od:List QQt),_⟩:=y''
 obtain⟨hc,rfl⟩:=Tr.get_on h
 show Q3 (fun st=>evC TQ (orcB [Qg,V6,Ul,Jn,Ql] [Zm,Qm]) (lpN TQ (orcB [Qg,V6,Ul,Jn,Ql] [Zm,Qm]) h34 0 q'') b34o 0 st (X1 [1,2,3,4,9,10,28,29] [2,3,4,9,10] 0)) (stOf [1,2,3,4,9,10,28,29] [.str z,.int .u64 now,.int .u32 most,.ptr 0 0,.mp 1,.rowA 2,AV.ofTy (.pair (.list RR) (.pair (.list RR) (.list RR))) arr true,.int .i64 si] [.box [.int .u16 mi,.bool mqr,.bool maa,.bool mtc,.bool mrd,.bool mra,.int .i64 mop,.int .i64 mrc,.list QQ mq,.list RR man,.list RR mns,.list RR mar],.mpb QQ .i64 RR es none,.row QQ od])=some (.exit 0,stOf [2,3,4,9,10] ([.int .u64 now,.int .u32 most,.ptr 0 0,.mp 1,.rowA 2]) ([.box [.int .u16 mi,.bool mqr,.bool maa,.bool mtc,.bool mrd,.bool mra,.int .i64 mop,.int .i64 mrc,.list QQ mq,.list RR man,.list RR mns,.list RR mar],.mpb QQ .i64 RR (cAll z arr).1 none,.row QQ (cAll z arr).2]))
 simp only[outC,okS3,Bool.and_eq_true,decide_eq_true_eq,List.isEmpty_iff] at hc
 obtain⟨rfl,⟨rfl,rfl⟩,⟨a1,a2⟩,⟨b1,b2⟩,c1,c2⟩:=hc
 have a2:=Nat.le_of_ble_eq_true a2
 have b2:=Nat.le_of_ble_eq_true b2
 have c2:=Nat.le_of_ble_eq_true c2
 have e0:BdE ([]:ES) 0:=fun e h=>by cases h
 obtain⟨e1,o1⟩:=Qq (z:=z) (sec:=1) arr.1 ([],[]) 0 e0 (Nat.le_refl _)
 obtain⟨e2,o2⟩:=Qq (z:=z) (sec:=2) arr.2.1 (cRun z 1 arr.1 ([],[])) _ e1 o1
 have up:∀ (es:ES) (B:Nat),BdE es B→B≤10000→BdE es 10000:=fun es B h hB e he=>Nat.le_trans (h e he) hB
 refine wf34o z now most arr mi mqr maa mtc mrd mra mop mrc mq man mns mar (fun si e o=>(si=0∧e=[]∧o=[])∨(si=1∧e=(cRun z 1 arr.1 ([],[])).1∧o=(cRun z 1 arr.1 ([],[])).2)∨(si=2∧e=(cRun z 2 arr.2.1 (cRun z 1 arr.1 ([],[]))).1∧o=(cRun z 2 arr.2.1 (cRun z 1 arr.1 ([],[]))).2)∨(si=3∧e=(cAll z arr).1∧o=(cAll z arr).2)) (fun si e o=>(3 - si).toNat) _ ?_ _ hq'' 0 [] [] (.inl ⟨rfl,rfl,rfl⟩)
 intro si e o h
 unfold r34o
 rw[IntWalk.i64_in (si+1) (by omega)]
 rcases h with ⟨rfl,rfl,rfl⟩ | ⟨rfl,rfl,rfl⟩ | ⟨rfl,rfl,rfl⟩ | ⟨rfl,rfl,rfl⟩
 ·exact Tr.all_t rfl (Tr.all_t rfl (Tr.all_t (Q1z a1 rfl a2 (up _ _ e0 (by omega)) (by simp)) (Tr.all_ret (.inr ⟨_,_,_,rfl,.inr (.inl ⟨rfl,rfl,rfl⟩),by decide⟩))))
 ·exact Tr.all_t rfl (Tr.all_f rfl (Tr.all_t rfl (Tr.all_t (Q1z b1 rfl b2 (up _ _ e1 (by omega)) (by omega)) (Tr.all_ret (.inr ⟨_,_,_,rfl,.inr (.inr (.inl ⟨rfl,rfl,rfl⟩)),by decide⟩)))))
 ·exact Tr.all_t rfl (Tr.all_f rfl (Tr.all_f rfl (Tr.all_t rfl (Tr.all_t (Q1z c1 rfl c2 (up _ _ e2 (by omega)) (by omega)) (Tr.all_ret (.inr ⟨_,_,_,rfl,.inr (.inr (.inr ⟨rfl,rfl,rfl⟩)),by decide⟩))))))
 ·exact Tr.all_f rfl (Tr.all_ret (.inl rfl))
abbrev EN:Ty:=.pair QQ (.pair (.list RR) (.pair (.int .i64) (.pair (.int .i64) (.int .u64))))
abbrev ENt:=QQt×(List RRt×(Int×(Int×Int)))
def entV (now most:Int) (aa:Bool) (e:QQt×(Int×List RRt)):ENt:=(e.1,(V0j e.2.2 (U7 e.2.2 most),(0,(V0r e.2.1 aa,Zq now (U7 e.2.2 most)))))
def entQ (now most:Int) (aa:Bool) (es:ES) (q:QQt):ENt:=entV now most aa (q,getB (keqD QQ) (0,[]) q es)
theorem J2l {q:QQt} {es:ES} (h:hasB (keqD QQ) q es=true):putB (keqD QQ) q (getB (keqD QQ) (0,[]) q es) es=es:=by
 obtain⟨n,e,h1,_,h3,h4⟩:=Xu h
 rw[h4]
 unfold getB
 rw[h3]
 obtain⟨hn,rfl⟩:=List.getElem?_eq_some_iff.1 h1
 exact List.set_getElem_self hn
def entB (most:Int) (e:Int×List RRt):Bool:=lrB e.2&&(secB e.1&&u32B (U7 e.2 most))
def enC (es:ES) (od:List QQt) (out:List ENt) (now most n i:Int):Bool:=decide (n=(od.length:Int))&&(decide (i=0)&&(Nat.ble od.length 100000&&(out.isEmpty&&(u64B now&&od.all fun q=>hasB (keqD QQ) q es&&entB most (getB (keqD QQ) (0,[]) q es)))))
noncomputable def b34e:Code:=U5 c34 1
def Q2z:LoopSpec:={ bid:=4,sh:=[.d (.int .u64) false,.d (.int .u32) false,.ptr 0 0,.mp 1,.row 2,.row 3,.d (.int .i64) false,.d (.int .i64) false],so:=[.box [.d (.int .u16) false,.d .bool false,.d .bool false,.d .bool false,.d .bool false,.d .bool false,.d (.int .i64) false,.d (.int .i64) false,.d (.list QQ) false,.d (.list RR) false,.d (.list RR) false,.d (.list RR) false],.mapb QQ .i64 RR,.row EN,.row QQ],F:=fun(now,most,n,i,_) ((mi,mqr,maa,mtc,mrd,mra,mop,mrc,mq,man,mns,mar,_),es,out,od,_)=>.on (enC es od out now most n i) (.exit 4,[.rowA 0],[.row EN (od.map (entQ now most maa es))]) }
def r34e (now most n i mi:Int) (mqr maa mtc mrd mra:Bool) (mop mrc:Int) (mq:List QQt) (man mns mar:List RRt) (es:List (QQt×(Int×List RRt))) (out:List ENt) (od:List QQt):Tr (St⊕(Ex×St)):=.br (decide (i < n)) (.br (decide (0≤i)) (.br (decide (i < (↑od.length:Int))) (.br (hasB (keqD QQ) (od.getD i.toNat (Ty.dflt QQ)) es) (.br (lrB (getB (keqD QQ) (0,[]) (od.getD i.toNat (Ty.dflt QQ)) es).2) (.br (lrB (getB (keqD QQ) (0,[]) (od.getD i.toNat (Ty.dflt QQ)) es).2) (.br (secB (getB (keqD QQ) (0,[]) (od.getD i.toNat (Ty.dflt QQ)) es).1) (.br (u64B now&&u32B (U7 (getB (keqD QQ) (0,[]) (od.getD i.toNat (Ty.dflt QQ)) es).2 most)) (.br (fits (List.length out+1) 72) (.ret (.inl (stOf [2,3,4,9,16,66,67,68] [.int .u64 now,.int .u32 most,.ptr 0 0,.mp 1,.rowA 2,.rowA 3,.int .i64 n,.int .i64 (IntKind.wrap .i64 (i+1))] [.boxT none [.int .u16 mi,.bool mqr,.bool maa,.bool mtc,.bool mrd,.bool mra,.int .i64 mop,.int .i64 mrc,.list QQ mq,.list RR man,.list RR mns,.list RR mar],LObj.mpb QQ IntKind.i64 RR (putB (keqD QQ) (od.getD i.toNat (Ty.dflt QQ)) (getB (keqD QQ) (0,[]) (od.getD i.toNat (Ty.dflt QQ)) es) es) none,.row EN (out++[(od.getD i.toNat (Ty.dflt QQ),V0j (getB (keqD QQ) (0,[]) (od.getD i.toNat (Ty.dflt QQ)) es).2 (U7 (getB (keqD QQ) (0,[]) (od.getD i.toNat (Ty.dflt QQ)) es).2 most),0,V0r (getB (keqD QQ) (0,[]) (od.getD i.toNat (Ty.dflt QQ)) es).1 maa,Zq now (U7 (getB (keqD QQ) (0,[]) (od.getD i.toNat (Ty.dflt QQ)) es).2 most))]),.row QQ od]))) .no) .no) .no) .no) .no) .no) .no) .no) (.ret (.inr (.exit 4,stOf [16] [.rowA 0] [.row EN out])))
theorem X2n (lp:Lp) (now most n i mi:Int) (mqr maa mtc mrd mra:Bool) (mop mrc:Int) (mq:List QQt) (man mns mar:List RRt) (es:List (QQt×(Int×List RRt))) (out:List ENt) (od:List QQt):evC TQ (orcB [Qg,V6,Ul,Jn,Ql] [Zm,Qm]) lp b34e 4 (stOf [2,3,4,9,16,66,67,68] [.int .u64 now,.int .u32 most,.ptr 0 0,.mp 1,.rowA 2,.rowA 3,.int .i64 n,.int .i64 i] [.box [.int .u16 mi,.bool mqr,.bool maa,.bool mtc,.bool mrd,.bool mra,.int .i64 mop,.int .i64 mrc,.list QQ mq,.list RR man,.list RR mns,.list RR mar],.mpb QQ .i64 RR es none,.row EN out,.row QQ od]) (X1 [2,3,4,9,16,66,67,68] [16] 0)=(r34e now most n i mi mqr maa mtc mrd mra mop mrc mq man mns mar es out od).get:=by kernel_rfl
theorem wf34e (now most n mi:Int) (mqr maa mtc mrd mra:Bool) (mop mrc:Int) (mq:List QQt) (man mns mar:List RRt) (es:List (QQt×(Int×List RRt))) (od:List QQt) (I'':Int→List ENt→Prop) (m'':Int→List ENt→Nat) (r'':Ex×St) (h:∀ (i:Int) (out:List ENt),I'' i out→(r34e now most n i mi mqr maa mtc mrd mra mop mrc mq man mns mar es out od).all fun x''=>x''=.inr r''∨∃ (i':Int) (out':List ENt),x''=.inl (stOf [2,3,4,9,16,66,67,68] [.int .u64 now,.int .u32 most,.ptr 0 0,.mp 1,.rowA 2,.rowA 3,.int .i64 n,.int .i64 i'] [.box [.int .u16 mi,.bool mqr,.bool maa,.bool mtc,.bool mrd,.bool mra,.int .i64 mop,.int .i64 mrc,.list QQ mq,.list RR man,.list RR mns,.list RR mar],.mpb QQ .i64 RR es none,.row EN out',.row QQ od])∧I'' i' out'∧m'' i' out' < m'' i out) (lp:Lp) (i:Int) (out:List ENt):I'' i out→
    Q3 (fun st=>evC TQ (orcB [Qg,V6,Ul,Jn,Ql] [Zm,Qm]) lp b34e 4 st (X1 [2,3,4,9,16,66,67,68] [16] 0)) (stOf [2,3,4,9,16,66,67,68] [.int .u64 now,.int .u32 most,.ptr 0 0,.mp 1,.rowA 2,.rowA 3,.int .i64 n,.int .i64 i] [.box [.int .u16 mi,.bool mqr,.bool maa,.bool mtc,.bool mrd,.bool mra,.int .i64 mop,.int .i64 mrc,.list QQ mq,.list RR man,.list RR mns,.list RR mar],.mpb QQ .i64 RR es none,.row EN out,.row QQ od])=some r'':=
 Z7 (fun a'':Int×List ENt=>stOf [2,3,4,9,16,66,67,68] [.int .u64 now,.int .u32 most,.ptr 0 0,.mp 1,.rowA 2,.rowA 3,.int .i64 n,.int .i64 a''.1] [.box [.int .u16 mi,.bool mqr,.bool maa,.bool mtc,.bool mrd,.bool mra,.int .i64 mop,.int .i64 mrc,.list QQ mq,.list RR man,.list RR mns,.list RR mar],.mpb QQ .i64 RR es none,.row EN a''.2,.row QQ od]) (fun a''=>I'' a''.1 a''.2) (fun a''=>m'' a''.1 a''.2) r'' (fun a''=>r34e now most n a''.1 mi mqr maa mtc mrd mra mop mrc mq man mns mar es a''.2 od)
  (fun a'' x hx=>(X2n lp now most n a''.1 mi mqr maa mtc mrd mra mop mrc mq man mns mar es a''.2 od).trans hx) (fun a'' ha=>Tr.all_mono (fun x'' hx=>hx.imp id fun⟨i',out',h1,h2,h3⟩=>⟨(i',out'),h1,h2,h3⟩) (h (a''.1) (a''.2) ha)) (i,out)
theorem Z3a:Q2z.Ok TQ (orcB [Qg,V6,Ul,Jn,Ql] [Zm,Qm]) h34 0 0 b34e:=by
 intro q'' hq'' x'' y'' r'' h
 obtain⟨(now:Int),(most:Int),(n:Int),(i:Int),_⟩:=x''
 obtain⟨⟨(mi:Int),(mqr:Bool),(maa:Bool),(mtc:Bool),(mrd:Bool),(mra:Bool),(mop:Int),(mrc:Int),(mq:List QQt),(man:List RRt),(mns:List RRt),(mar:List RRt),_⟩,(es:List (QQt×(Int×List RRt))),(out:List ENt),(od:List QQt),_⟩:=y''
 obtain⟨hc,rfl⟩:=Tr.get_on h
 show Q3 (fun st=>evC TQ (orcB [Qg,V6,Ul,Jn,Ql] [Zm,Qm]) (lpN TQ (orcB [Qg,V6,Ul,Jn,Ql] [Zm,Qm]) h34 0 q'') b34e 4 st (X1 [2,3,4,9,16,66,67,68] [16] 0)) (stOf [2,3,4,9,16,66,67,68] [.int .u64 now,.int .u32 most,.ptr 0 0,.mp 1,.rowA 2,.rowA 3,.int .i64 n,.int .i64 i] [.box [.int .u16 mi,.bool mqr,.bool maa,.bool mtc,.bool mrd,.bool mra,.int .i64 mop,.int .i64 mrc,.list QQ mq,.list RR man,.list RR mns,.list RR mar],.mpb QQ .i64 RR es none,.row EN out,.row QQ od])=some (.exit 4,stOf [16] ([.rowA 0]) ([.row EN (od.map (entQ now most maa es))]))
 simp only[enC,Bool.and_eq_true,decide_eq_true_eq,List.isEmpty_iff] at hc
 obtain⟨rfl,rfl,hl,rfl,hn,hall⟩:=hc
 have hl:=Nat.le_of_ble_eq_true hl
 refine wf34e now most od.length mi mqr maa mtc mrd mra mop mrc mq man mns mar es od (fun j o=>0≤j∧j≤od.length∧o.length=j.toNat∧o++(od.drop j.toNat).map (entQ now most maa es)=od.map (entQ now most maa es)) (fun j o=>(od.length - j).toNat) _ ?_ _ 0 [] ⟨by omega,by omega,rfl,rfl⟩
 rintro j o ⟨h0,h1,g1,g2⟩
 unfold r34e
 rw[U8 h0 h1 (by omega)]
 by_cases hj:j < od.length
 ·have hx:(od.getD j.toNat (Ty.dflt QQ))∈od:=by
   rw[List.getD_eq_getElem?_getD,List.getElem?_eq_getElem (by omega)]
   exact List.getElem_mem _
  obtain⟨c1,c2⟩:=Bool.and_eq_true_iff.1 (List.all_eq_true.1 hall _ hx)
  simp only[entB,Bool.and_eq_true] at c2
  obtain⟨d1,d2,d3⟩:=c2
  rw[Ua (l:=od) (k:=j.toNat) (by omega) (Ty.dflt QQ)] at g2
  generalize od.getD j.toNat (Ty.dflt QQ)=x at *
  rw[J2l c1]
  refine Tr.all_t (J0 hj) (Tr.all_t (J0 h0) (Tr.all_t (J0 hj) (Tr.all_t c1 (Tr.all_t d1 (Tr.all_t d1 (Tr.all_t d2 (Tr.all_t (by rw[hn,d3];rfl) (Tr.all_t (V07 (by omega) (by omega)) (Tr.all_ret (.inr ⟨_,_,rfl,⟨by omega,by omega,by rw[List.length_append,List.length_singleton];omega,?_⟩,by omega⟩))))))))))
  rw[show (j+1).toNat=j.toNat+1 by omega,List.append_assoc]
  exact g2
 ·refine Tr.all_f (V0 hj) (Tr.all_ret (.inl ?_))
  rw[List.drop_eq_nil_of_le (by omega)] at g2
  simp only[List.map_nil,List.append_nil] at g2
  rw[g2]
def t34 (m:MGt) (z:List UInt8) (now most:Int):Tr Res:=.br (outC z m.2.2.2.2.2.2.2.2.2 0 [] []) (.br (enC (cAll z m.2.2.2.2.2.2.2.2.2).1 (cAll z m.2.2.2.2.2.2.2.2.2).2 [] now most (↑(List.length (cAll z m.2.2.2.2.2.2.2.2.2).2):Int) 0) (.ret ([.list EN (List.map (entQ now most m.2.2.1 (cAll z m.2.2.2.2.2.2.2.2.2).1) (cAll z m.2.2.2.2.2.2.2.2.2).2)],[])) .no) .no
def os34:OSpec:={ f:=34,sh:=[.d MG true,.d .str false,.d (.int .u64) false,.d (.int .u32) false],so:=[],F:=fun(m,z,now,most,_) _=>t34 m z now most }
theorem fn34 (m:MGt) (z:List UInt8) (now most:Int):evC TQ (orcB [Qg,V6,Ul,Jn,Ql] [Zm,Qm]) (lpOf h34 0 (lsOf [X2y,Q2z])) c34 1000000 (U1 [AV.ofTy MG m true,.str z,.int .u64 now,.int .u32 most] [] Try.f34.ntmps) (Q0 TQ false 0 Try.f34)=(t34 m z now most).get:=by kernel_rfl
theorem ok34:os34.Ok Try.prog:=by
 refine V4 U2 tabQ (U0 (all_cons X1l (all_cons U1f (all_cons X3h (all_cons X3l (all_cons X3k Z0))))) (all_cons ok60w (all_cons ok62w Z0))) h34 (d:=1) (n0:=0) (S:=lsOf [X2y,Q2z]) Try.func34 (by kernel_rfl) (c:=c34) (by kernel_rfl) rfl (Z9 (xs:=[(0,b34o),(4,b34e)]) (by kernel_rfl) (all_cons (X7 J39) (all_cons (J1n (by kernel_rfl) (X7 (Z32 (by omega) Z3a))) Z0))) (by omega) (by kernel_rfl) ?_
 intro x'' y'' q'' hq''
 obtain⟨(m:MGt),(z:List UInt8),(now:Int),(most:Int),_⟩:=x''
 exact(fn34 m z now most).trans hq''
def fs34:FSpec:=fsT 34 [(MG,true),(.str,false),((.int .u64),false),((.int .u32),false)] [((.list EN),false)] fun(m,z,now,most,_)=>t34 m z now most
theorem J3c:fs34.Ok Try.prog:=Q7 fun x'' r'' hr''=>ok34 x'' () r'' hr''
def t33:Tr Res:=.ret ([.bool (X2a (0,true,true,false,false,false,0,0,[],[([2,120,121,0],1,1,9,[49,50,51,52])],[],[]) (keyV ([2,120,121,0],1,1,9,[49,50,51,52])) ([0])==1)],[])
def os33:OSpec:={ f:=33,sh:=[],so:=[],F:=fun _ _=>t33 }
theorem fn33:evC T0 (orcB [fs34,V3f,V6] []) (lpOf h33 0 (lsOf [])) c33 1000000 (U1 [] [] Try.f33.ntmps) (Q0 T0 false 0 Try.f33)=(t33).get:=by kernel_rfl
theorem ok33:os33.Ok Try.prog:=by
 refine V4 U2 tab0 (U0 (all_cons J3c (all_cons X3m (all_cons U1f Z0))) Z0) h33 (d:=0) (n0:=0) (S:=lsOf []) Try.func33 (by kernel_rfl) (c:=c33) (by kernel_rfl) rfl (V3 (by kernel_rfl)) (by omega) (by kernel_rfl) ?_
 intro x'' y'' q'' hq''
 exact(fn33).trans hq''
def fs33:FSpec:=fsT 33 [] [(.bool,false)] fun _=>t33
theorem okf33:fs33.Ok Try.prog:=Q7 fun x'' r'' hr''=>ok33 x'' () r'' hr''
theorem U34:t33=.ret ([.bool true],[]):=by kernel_rfl
def Jm:FSpec:=fs33.like fun _=>.ret (true,())
theorem X3n:Jm.Ok Try.prog:=by
 refine Z4 okf33 _ ?_
 intro x y h
 cases h
 refine U3 (vs:=[.bool true]) rfl rfl (Tr.get_of_all ?_)
 show t33.all _
 rw[U34]
 exact Tr.all_ret rfl
theorem X2q {rs:List RRt} (h:Jy rs=true):∀ r∈rs,r.1.length≤300∧r.2.2.2.2.length≤300:=fun r hr=>by
 have:=List.all_eq_true.1 h r hr
 simpa only[Bool.and_eq_true,decide_eq_true_eq] using this
theorem Z2c {m:MGt} (h:fewM m=true):((mAn m).length≤20∧(mNs m).length≤20∧(mAr m).length≤20)∧∀ r,r∈mAn m∨r∈mNs m∨r∈mAr m→r.1.length≤300∧r.2.2.2.2.length≤300:=by
 simp only[fewM,Bool.and_eq_true,decide_eq_true_eq] at h
 obtain⟨_,h1,h2,h3,h4,_⟩:=h
 refine⟨⟨h1,h2,h3⟩,fun r hr=>X2q h4 r ?_⟩
 simp only[List.mem_append]
 rcases hr with hr | hr | hr
 ·exact .inl (.inl hr)
 ·exact .inl (.inr hr)
 ·exact .inr hr
theorem Q3h {l:List RRt} (hl:l.length≤1000000) (h:∀ r∈l,r.1.length≤300∧r.2.2.2.2.length≤300):okL l=true:=by
 unfold okL lrB
 rw[Nat.ble_eq_true_of_le hl,List.all_eq_true.2 fun r hr=>U0s.2 ⟨by have:=(h r hr).1;omega,by have:=(h r hr).2;omega⟩]
 rfl
theorem U2a {n:List UInt8} (h:n.length≤300):smN n=true:=Z0u.2 (by omega)
theorem Q3m {l:List RRt} {z n:List UInt8} (h:okL l=true) (hz:z.length≤300) (hn:n.length≤300):okF l z n=true:=by
 unfold okF
 rw[h,U2a hz,U2a hn]
 rfl
theorem Z30 {z:List UInt8} {r:RRt} (h:inV z r=true):r.2.2.1=1∧undV r.1 z=true∧recV r=true:=by
 simp only[inV,Bool.and_eq_true,beq_iff_eq] at h
 exact h
theorem V2j {t m:Int} (h0:0≤t) (hm:0≤m):0≤Xv t m∧Xv t m≤m:=by
 unfold Xv
 split
 ·omega
 ·split<;>omega
instance decQ2:DecidableEq (Int×Int):=inferInstance
instance decE3:DecidableEq (Int×(Int×Int)):=inferInstance
instance decE4:DecidableEq (List RRt×(Int×(Int×Int))):=inferInstance
instance decQQ':DecidableEq QQt:=inferInstanceAs (DecidableEq QQt)
instance decEN:DecidableEq ENt:=inferInstanceAs (DecidableEq ENt)
theorem J1x {n:Int} (h:okT (.int .u32) n):u32B n=true:=by
 have hr:0≤n∧n≤4294967295:=by simpa[okT,Lit.wf,IntKind.min,IntKind.max,IntKind.signed,IntKind.bits] using h
 unfold u32B
 rw[J0 hr.1,J0 (show n < 4294967296 by omega)]
 rfl
theorem J2s {n:Int} (h:okT (.int .u64) n):u64B n=true:=by
 have hr:0≤n∧n≤18446744073709551615:=by simpa[okT,Lit.wf,IntKind.min,IntKind.max,IntKind.signed,IntKind.bits] using h
 unfold u64B
 rw[J0 hr.1,J0 (show n < 18446744073709551616 by omega)]
 rfl
def okU (l:List RRt):Bool:=l.all fun r=>u32B r.2.2.2.1
theorem J1l {l:List RRt} (h:okT (.list RR) l):okU l=true:=List.all_eq_true.2 fun r hr=>J1x (h.2 r hr).2.2.2.1
def okUM (m:MGt):Bool:=okU (mAn m)&&(okU (mNs m)&&okU (mAr m))
theorem Q2r {m:MGt} (h:okT MG m):okUM m=true:=by
 unfold okUM
 rw[show okU (mAn m)=true from J1l h.2.2.2.2.2.2.2.2.2.1,show okU (mNs m)=true from J1l h.2.2.2.2.2.2.2.2.2.2.1,show okU (mAr m)=true from J1l h.2.2.2.2.2.2.2.2.2.2.2]
 rfl
theorem U2f {now t most:Int} (hn:u64B now=true) (h0:0≤t) (h1:t≤most) (h2:most < 4294967296):Zq now t≥now∧Zq now t - now≤t∧0≤Zq now t - now∧Zq now t < 18446744073709551616:=by
 simp only[u64B,Bool.and_eq_true,decide_eq_true_eq] at hn
 unfold Zq
 split<;>omega
def GdS (z:List UInt8) (q:QQt) (s:Int×List RRt):Prop:=secB s.1=true∧s.2≠[]∧∀ r∈s.2,inV z r=true∧keyV r=q∧u32B r.2.2.2.1=true
def GdE (z:List UInt8) (a:ES×List QQt):Prop:=a.2=a.1.map (·.1)∧(a.1.map (·.1)).Nodup∧∀ e∈a.1,GdS z e.1 e.2
theorem J3m {α:Type} {l:List α} {n:Nat} {x:α} (h:l[n]?=some x):l.set n x=l:=by
 obtain⟨hn,rfl⟩:=List.getElem?_eq_some_iff.1 h
 exact List.set_getElem_self hn
theorem J1w {α:Type} {l:List α} (h:l.Nodup) {i j:Nat} {x:α} (hi:l[i]?=some x) (hj:l[j]?=some x):i=j:=by
 obtain⟨a1,a2⟩:=List.getElem?_eq_some_iff.1 hi
 obtain⟨b1,b2⟩:=List.getElem?_eq_some_iff.1 hj
 have hp:=List.pairwise_iff_getElem.1 h
 rcases Nat.lt_trichotomy i j with hlt | rfl | hlt
 ·exact absurd (a2.trans b2.symm) (hp i j a1 b1 hlt)
 ·rfl
 ·exact absurd (b2.trans a2.symm) (hp j i b1 a1 hlt)
theorem J3k {es:ES} {q:QQt} (h:hasB (keqD QQ) q es=false):q ∉ es.map (·.1):=fun hm=>by
 obtain⟨e,he,hq⟩:=List.mem_map.1 hm
 obtain⟨n,hn⟩:=List.mem_iff_getElem?.1 he
 have:=(V0g h).1 n e hn
 rw[hq,keqQ] at this
 cases this
theorem Z2v {z:List UInt8} {sec:Int} {a:ES×List QQt} {r:RRt} (hs:secB sec=true) (hr:u32B r.2.2.2.1=true) (h:GdE z a):GdE z (Vq z sec a r):=by
 obtain⟨es,od⟩:=a
 obtain⟨h1,h2,h3⟩:=h
 simp only at h1 h2 h3
 unfold Vq
 cases hi:inV z r with
 | false=>exact⟨h1,h2,h3⟩
 | true=>
   simp only[cond_true]
   cases hb:hasB (keqD QQ) (keyV r) es with
   | true=>
     simp only[cond_true]
     obtain⟨n,e,e1,e2,e3,e4⟩:=Xu hb
     have hk:=Xl e2
     have hn:n < es.length:=(List.getElem?_eq_some_iff.1 e1).1
     have hee:=(List.getElem?_eq_some_iff.1 e1).2
     have hg:getB (keqD QQ) (0,[]) (keyV r) es=e.2:=by unfold getB;rw[e3];rfl
     rw[hg,e4]
     have hmap:(es.set n (e.1,(Qk e.2.1 sec,Zj e.2.1 sec r e.2.2))).map (·.1)=es.map (·.1):=by
      rw[List.map_set]
      exact J3m (by simp[e1])
     refine⟨by show od=_;rw[hmap];exact h1,by show (List.map _ _).Nodup;rw[hmap];exact h2,fun e' he'=>?_⟩
     rcases List.mem_or_eq_of_mem_set he' with he' | rfl
     ·exact h3 e' he'
     ·obtain⟨g1,g2,g3⟩:=h3 e (List.mem_of_getElem? e1)
      have hs0:Qk e.2.1 sec=e.2.1:=by
       unfold Qk
       have:(e.2.1==0)=false:=by
        simp only[secB,Bool.and_eq_true,decide_eq_true_eq] at g1
        exact beq_eq_false_iff_ne.2 (by omega)
       rw[this]
       rfl
      refine⟨by show secB (Qk e.2.1 sec)=true;rw[hs0];exact g1,?_,fun x hx=>?_⟩
      ·show Zj e.2.1 sec r e.2.2≠[]
       unfold Zj
       cases (Qk e.2.1 sec==sec&&!e.2.2.any fun o=>sayV o r)<;>simp[g2]
      ·have hx:x∈Zj e.2.1 sec r e.2.2:=hx
       unfold Zj at hx
       cases hc:(Qk e.2.1 sec==sec&&!e.2.2.any fun o=>sayV o r) with
       | false=>rw[hc] at hx;exact g3 x hx
       | true=>
         rw[hc] at hx
         rcases List.mem_append.1 hx with hx | hx
         ·exact g3 x hx
         ·simp at hx;subst hx;exact⟨hi,hk,hr⟩
   | false=>
     simp only[cond_false]
     refine⟨by show od++[keyV r]=_;rw[h1];simp,?_,fun e' he'=>?_⟩
     ·show (List.map _ _).Nodup
      rw[List.map_append]
      have:=J3k hb
      simp only[List.map_cons,List.map_nil]
      rw[List.nodup_append]
      exact⟨h2,by simp,fun x hx y hy=>by simp at hy;subst hy;rintro rfl;exact this hx⟩
     ·rcases List.mem_append.1 he' with he' | he'
      ·exact h3 e' he'
      ·simp at he'
       subst he'
       exact⟨hs,by simp,fun x hx=>by simp at hx;subst hx;exact⟨hi,rfl,hr⟩⟩
theorem Q0u {z:List UInt8} {sec:Int} (hs:secB sec=true):∀ (l:List RRt) (a:ES×List QQt),okU l=true→GdE z a→GdE z (cRun z sec l a)
 | [],a,_,h=>h
 | r::l,a,hl,h=>by
   simp only[okU,List.all_cons,Bool.and_eq_true] at hl
   exact Q0u hs l (Vq z sec a r) hl.2 (Z2v hs hl.1 h)
theorem V3o (z:List UInt8):GdE z ([],[]):=⟨rfl,List.nodup_nil,fun e he=>by cases he⟩
theorem Q3b {z:List UInt8} {arr:List RRt×(List RRt×List RRt)} (h1:okU arr.1=true) (h2:okU arr.2.1=true) (h3:okU arr.2.2=true):GdE z (cAll z arr):=
 Q0u rfl _ _ h3 (Q0u rfl _ _ h2 (Q0u rfl _ _ h1 (V3o z)))
theorem X2b {es:ES} (hn:(es.map (·.1)).Nodup) {e:QQt×(Int×List RRt)} (he:e∈es):hasB (keqD QQ) e.1 es=true∧getB (keqD QQ) (0,[]) e.1 es=e.2:=by
 obtain⟨n,h1⟩:=List.mem_iff_getElem?.1 he
 have hb:=Z0v (eq:=keqD QQ) h1 (keqQ e.1)
 refine⟨hb,?_⟩
 obtain⟨n2,e2,g1,g2,g3,_⟩:=Xu hb
 have hk:=Xl g2
 have:n=n2:=J1w hn (x:=e.1) (by simp[h1]) (by simp[g1,hk])
 subst this
 rw[h1] at g1
 cases g1
 unfold getB
 rw[g3]
 rfl
theorem U2s:∀ (l:List Int),l≠[]→minL l∈l
 | [],h=>absurd rfl h
 | x::xs,_=>by
   have key:∀ (xs:List Int) (x:Int),xs.foldl minI x=x∨xs.foldl minI x∈xs:=by
    intro xs
    induction xs with
    | nil=>intro x;exact .inl rfl
    | cons y ys ih=>
      intro x
      rw[List.foldl_cons]
      rcases ih (minI x y) with h | h
      ·rw[h]
       unfold minI
       split
       ·exact .inr (by simp)
       ·exact .inl rfl
      ·exact .inr (List.mem_cons_of_mem _ h)
   show xs.foldl minI x∈x::xs
   rcases key xs x with h | h
   ·rw[h];simp
   ·exact List.mem_cons_of_mem _ h
theorem V0z {l:List RRt} {most:Int} (hl:l≠[]) (h:∀ r∈l,u32B r.2.2.2.1=true) (hm:0≤most):0≤U7 l most∧U7 l most≤most:=by
 have hne:(l.map fun x=>Xv x.2.2.2.1 most)≠[]:=by simpa using hl
 obtain⟨r,hr,he⟩:=List.mem_map.1 (U2s _ hne)
 unfold U7
 rw[←he]
 exact V2j (of_decide_eq_true (Bool.and_eq_true_iff.1 (h r hr)).1) hm
def okS (m:MGt) (z:List UInt8) (now most:Int):Bool:=(okS3 z (mAn m)&&(okS3 z (mNs m)&&okS3 z (mAr m)))&&(okUM m&&(u64B now&&u32B most))
def mArr (m:MGt):List RRt×(List RRt×List RRt):=(mAn m,(mNs m,mAr m))
def X0x (m:MGt) (z:List UInt8) (now most:Int):List ENt:=(cAll z (mArr m)).1.map (entV now most m.2.2.1)
def Vl:FSpec:=fs34.like fun(m,z,now,most,_)=>.on (okS m z now most) (X0x m z now most,())
theorem Z2r {m:MGt} {z:List UInt8} {now most:Int} (h:okS m z now most=true):GdE z (cAll z (mArr m)):=by
 simp only[okS,okUM,Bool.and_eq_true] at h
 exact Q3b h.2.1.1 h.2.1.2.1 h.2.1.2.2
theorem V3i:Vl.Ok Try.prog:=by
 refine Z4 J3c _ ?_
 rintro⟨(m:MGt),(z:List UInt8),(now:Int),(most:Int),_⟩ y h
 obtain⟨hb,rfl⟩:=Tr.get_on h
 have hb:okS m z now most=true:=hb
 obtain⟨g1,g2,g3⟩:=Z2r hb
 simp only[okS,Bool.and_eq_true] at hb
 obtain⟨⟨h1,h2,h3⟩,hu,hn,hm⟩:=hb
 have hm':=hm
 simp only[u32B,Bool.and_eq_true,decide_eq_true_eq] at hm'
 refine U3 (vs:=[.list EN (X0x m z now most)]) rfl rfl (Tr.get_of_all ?_)
 show (t34 m z now most).all _
 unfold t34
 have hl:=fun(l:List RRt) (h:okS3 z l=true)=>Nat.le_of_ble_eq_true (Bool.and_eq_true_iff.1 h).2
 have l1:=hl _ h1
 have l2:=hl _ h2
 have l3:=hl _ h3
 have e0:BdE ([]:ES) 0:=fun e h=>by cases h
 obtain⟨e1,o1⟩:=Qq (z:=z) (sec:=1) (mAn m) ([],[]) 0 e0 (Nat.le_refl _)
 obtain⟨e2,o2⟩:=Qq (z:=z) (sec:=2) (mNs m) (cRun z 1 (mAn m) ([],[])) _ e1 o1
 obtain⟨e3,o3⟩:=Qq (z:=z) (sec:=3) (mAr m) (cRun z 2 (mNs m) (cRun z 1 (mAn m) ([],[]))) _ e2 o2
 have e3:BdE (cAll z (mArr m)).1 (0+(mAn m).length+(mNs m).length+(mAr m).length):=e3
 have o3:(cAll z (mArr m)).2.length≤0+(mAn m).length+(mNs m).length+(mAr m).length:=o3
 refine Tr.all_t ?_ (Tr.all_t ?_ (Tr.all_ret ?_))
 ·show outC z (mArr m) 0 [] []=true
  unfold outC
  show (_&&(_&&(okS3 z (mAn m)&&(okS3 z (mNs m)&&okS3 z (mAr m)))))=true
  rw[h1,h2,h3]
  rfl
 ·show enC (cAll z (mArr m)).1 (cAll z (mArr m)).2 [] now most ((cAll z (mArr m)).2.length:Int) 0=true
  generalize cAll z (mArr m)=a at *
  unfold enC
  rw[J0 rfl,J0 rfl,Nat.ble_eq_true_of_le (by omega),hn]
  simp only[Bool.true_and,List.isEmpty_nil]
  refine List.all_eq_true.2 fun q hq=>?_
  rw[g1] at hq
  obtain⟨e,he,rfl⟩:=List.mem_map.1 hq
  obtain⟨k1,k2⟩:=X2b g2 he
  obtain⟨d1,d2,d3⟩:=g3 e he
  obtain⟨m1,m2⟩:=V0z d2 (fun r hr=>(d3 r hr).2.2) hm'.1
  have hle:=e3 e he
  rw[k1,k2]
  unfold entB lrB u32B
  rw[Nat.ble_eq_true_of_le (by omega),d1,J0 m1,J0 (show U7 e.2.2 most < 4294967296 by omega)]
  rfl
 ·show ([AV.list EN ((cAll z (mArr m)).2.map (entQ now most m.2.2.1 (cAll z (mArr m)).1))],[])=([AV.list EN (X0x m z now most)],[])
  unfold X0x
  generalize cAll z (mArr m)=a at *
  rw[g1,List.map_map]
  congr 2
  congr 1
  refine List.map_congr_left fun e he=>?_
  show entV now most m.2.2.1 (e.1,getB (keqD QQ) (0,[]) e.1 a.1)=entV now most m.2.2.1 e
  rw[(X2b g2 he).2]
def tlE (e:ENt):Int:=(e.2.1.getD 0 (Ty.dflt RR)).2.2.2.1
def gdR (q:QQt) (t:Int) (r:RRt):Bool:=decide (r.2.2.2.1=t)&&(decide (keyV r=q)&&(recV r&&okR r))
def gdN (z:List UInt8) (now most:Int) (e:ENt):Bool:=undV e.1.1 z&&(smN e.1.1&&(!e.2.1.isEmpty&&(lrB e.2.1&&(decide (1≤e.2.2.2.1)&&(decide (e.2.2.2.1≤5)&&(decide (0≤tlE e)&&(decide (tlE e≤most)&&(decide (now≤e.2.2.2.2)&&(decide (e.2.2.2.2 - now≤tlE e)&&e.2.1.all (gdR e.1 (tlE e)))))))))))
def bwG (z:List UInt8) (now most:Int) (l:List ENt):Bool:=smN z&&(u64B now&&(u32B most&&(Nat.ble l.length 100000&&(l.all (gdN z now most)&&decide ((l.map (·.1)).Nodup)))))
def bwI (z:List UInt8) (now most:Int) (l:List ENt) (i k:Int):Bool:=bwG z now most l&&(decide (0≤i)&&(decide (i < (l.length:Int))&&decide (k=0)))
noncomputable def b9k:Code:=U5 (U5 c9 0) 0
def ls9k:LoopSpec:={ bid:=2,sh:=[.d .str false,.d (.int .u64) false,.d (.int .u32) false,.d .bool false,.d (.list EN) false,.d (.int .i64) false,.d (.int .i64) false],so:=[],F:=fun(z,now,most,up,l,i,k,_) _=>.on (bwI z now most l i k) (.exit 2,[.str z,.int .u64 now,.int .u32 most,.dead,.bool up,.list EN l,.int .i64 i],[]) }
def r9k (z:List UInt8) (now most:Int) (up:Bool) (l:List ENt) (i k:Int):Tr (St⊕(Ex×St)):=.br (decide (0≤i)) (.br (decide (i < (↑l.length:Int))) (.br (decide (k < (↑(List.length (l.getD i.toNat (Ty.dflt EN)).2.1):Int))) (.br (decide (0≤i)) (.br (decide (i < (↑l.length:Int))) (.br (decide (0≤k)) (.br (decide (k < (↑(List.length (l.getD i.toNat (Ty.dflt EN)).2.1):Int))) (.br (decide (0≤i)) (.br (decide (i < (↑l.length:Int))) (.br (!((keyV (List.getD (l.getD i.toNat (Ty.dflt EN)).2.1 k.toNat (Ty.dflt RR))).1==(l.getD i.toNat (Ty.dflt EN)).1.1&&((keyV (List.getD (l.getD i.toNat (Ty.dflt EN)).2.1 k.toNat (Ty.dflt RR))).2.1==(l.getD i.toNat (Ty.dflt EN)).1.2.1&&((keyV (List.getD (l.getD i.toNat (Ty.dflt EN)).2.1 k.toNat (Ty.dflt RR))).2.2==(l.getD i.toNat (Ty.dflt EN)).1.2.2&&true)))) (.ret (.inr (.ret,stOf [1,2,3,8,9,10,11] [.str z,.int .u64 now,.int .u32 most,.bool false,.bool up,.list EN l,.int .i64 i] []))) (.br (Z1r (List.getD (l.getD i.toNat (Ty.dflt EN)).2.1 k.toNat (Ty.dflt RR))) (.br (!recV (List.getD (l.getD i.toNat (Ty.dflt EN)).2.1 k.toNat (Ty.dflt RR))) (.ret (.inr (.ret,stOf [1,2,3,8,9,10,11] [.str z,.int .u64 now,.int .u32 most,.bool false,.bool up,.list EN l,.int .i64 i] []))) (.br (decide ((List.getD (l.getD i.toNat (Ty.dflt EN)).2.1 k.toNat (Ty.dflt RR)).2.2.2.1 > most)) (.ret (.inr (.ret,stOf [1,2,3,8,9,10,11] [.str z,.int .u64 now,.int .u32 most,.bool false,.bool up,.list EN l,.int .i64 i] []))) (.br (decide (0≤i)) (.br (decide (i < (↑l.length:Int))) (.br (decide (IntKind.wrap .u64 ((l.getD i.toNat (Ty.dflt EN)).2.2.2.2 - now) > IntKind.wrap .u64 (List.getD (l.getD i.toNat (Ty.dflt EN)).2.1 k.toNat (Ty.dflt RR)).2.2.2.1)) (.ret (.inr (.ret,stOf [1,2,3,8,9,10,11] [.str z,.int .u64 now,.int .u32 most,.bool false,.bool up,.list EN l,.int .i64 i] []))) (.br (decide (0≤i)) (.br (decide (i < (↑l.length:Int))) (.br (decide (0 < (↑(List.length (l.getD i.toNat (Ty.dflt EN)).2.1):Int))) (.br ((List.getD (l.getD i.toNat (Ty.dflt EN)).2.1 k.toNat (Ty.dflt RR)).2.2.2.1 != (List.getD (l.getD i.toNat (Ty.dflt EN)).2.1 (Int.toNat 0) (Ty.dflt RR)).2.2.2.1) (.ret (.inr (.ret,stOf [1,2,3,8,9,10,11] [.str z,.int .u64 now,.int .u32 most,.bool false,.bool up,.list EN l,.int .i64 i] []))) (.ret (.inl (stOf [1,2,3,9,10,11,12] [.str z,.int .u64 now,.int .u32 most,.bool up,.list EN l,.int .i64 i,.int .i64 (IntKind.wrap .i64 (k+1))] [])))) .no) .no) .no)) .no) .no))) .no)) .no) .no) .no) .no) .no) .no) (.ret (.inr (.exit 2,stOf [1,2,3,8,9,10,11] [.str z,.int .u64 now,.int .u32 most,.dead,.bool up,.list EN l,.int .i64 i] [])))) .no) .no
theorem V38 (lp:Lp) (z:List UInt8) (now most:Int) (up:Bool) (l:List ENt) (i k:Int):evC T0 (orcB [Jm,Vm,Vl,Ug,V6,Vk] []) lp b9k 2 (stOf [1,2,3,9,10,11,12] [.str z,.int .u64 now,.int .u32 most,.bool up,.list EN l,.int .i64 i,.int .i64 k] []) (X1 [1,2,3,9,10,11,12] [1,2,3,8,9,10,11] 0)=(r9k z now most up l i k).get:=by kernel_rfl
theorem wf9k (z:List UInt8) (now most:Int) (up:Bool) (l:List ENt) (i:Int) (I'':Int→Prop) (m'':Int→Nat) (r'':Ex×St) (h:∀ (k:Int),I'' k→(r9k z now most up l i k).all fun x''=>x''=.inr r''∨∃ (k':Int),x''=.inl (stOf [1,2,3,9,10,11,12] [.str z,.int .u64 now,.int .u32 most,.bool up,.list EN l,.int .i64 i,.int .i64 k'] [])∧I'' k'∧m'' k' < m'' k) (lp:Lp) (k:Int):I'' k→
    Q3 (fun st=>evC T0 (orcB [Jm,Vm,Vl,Ug,V6,Vk] []) lp b9k 2 st (X1 [1,2,3,9,10,11,12] [1,2,3,8,9,10,11] 0)) (stOf [1,2,3,9,10,11,12] [.str z,.int .u64 now,.int .u32 most,.bool up,.list EN l,.int .i64 i,.int .i64 k] [])=some r'':=
 Z7 (fun a'':Int=>stOf [1,2,3,9,10,11,12] [.str z,.int .u64 now,.int .u32 most,.bool up,.list EN l,.int .i64 i,.int .i64 a''] []) (fun a''=>I'' a'') (fun a''=>m'' a'') r'' (fun a''=>r9k z now most up l i a'')
  (fun a'' x hx=>(V38 lp z now most up l i a'').trans hx) (fun a'' ha=>Tr.all_mono (fun x'' hx=>hx.imp id fun⟨k',h1,h2,h3⟩=>⟨(k'),h1,h2,h3⟩) (h (a'') ha)) (k)
theorem qeq (a b:QQt):(a.1==b.1&&(a.2.1==b.2.1&&(a.2.2==b.2.2&&true)))=decide (a=b):=by
 rw[Bool.eq_iff_iff]
 simp only[Bool.and_eq_true,beq_iff_eq,and_true,decide_eq_true_eq]
 exact⟨fun⟨h1,h2,h3⟩=>Prod.ext h1 (Prod.ext h2 h3),fun h=>by rw[h];exact⟨rfl,rfl,rfl⟩⟩
theorem Z1l {α:Type} {l:List α} {i:Int} (d:α) (h0:0≤i) (h1:i < l.length):l.getD i.toNat d∈l:=by
 rw[List.getD_eq_getElem?_getD,List.getElem?_eq_getElem (by omega)]
 exact List.getElem_mem _
theorem V3n:ls9k.Ok T0 (orcB [Jm,Vm,Vl,Ug,V6,Vk] []) h9 0 0 b9k:=by
 intro q'' hq'' x'' y'' r'' h
 obtain⟨(z:List UInt8),(now:Int),(most:Int),(up:Bool),(l:List ENt),(i:Int),(k:Int),_⟩:=x''
 obtain⟨hc,rfl⟩:=Tr.get_on h
 show Q3 (fun st=>evC T0 (orcB [Jm,Vm,Vl,Ug,V6,Vk] []) (lpN T0 (orcB [Jm,Vm,Vl,Ug,V6,Vk] []) h9 0 q'') b9k 2 st (X1 [1,2,3,9,10,11,12] [1,2,3,8,9,10,11] 0)) (stOf [1,2,3,9,10,11,12] [.str z,.int .u64 now,.int .u32 most,.bool up,.list EN l,.int .i64 i,.int .i64 k] [])=some (.exit 2,stOf [1,2,3,8,9,10,11] ([.str z,.int .u64 now,.int .u32 most,.dead,.bool up,.list EN l,.int .i64 i]) ([]))
 simp only[bwI,bwG,Bool.and_eq_true,decide_eq_true_eq] at hc
 obtain⟨⟨hz,hn,hm,hl,hall,hd⟩,h0,h1,rfl⟩:=hc
 have hg:=List.all_eq_true.1 hall _ (Z1l (Ty.dflt EN) h0 h1)
 refine wf9k z now most up l i (fun k=>0≤k∧k≤(l.getD i.toNat (Ty.dflt EN)).2.1.length) (fun k=>((l.getD i.toNat (Ty.dflt EN)).2.1.length - k).toNat) _ ?_ _ 0 ⟨by omega,by omega⟩
 rintro k ⟨g0,g1⟩
 unfold r9k
 generalize l.getD i.toNat (Ty.dflt EN)=e at *
 simp only[gdN,Bool.and_eq_true,decide_eq_true_eq,Bool.not_eq_true'] at hg
 obtain⟨e1,e2,e3,e4,e5,e6,e7,e8,e9,e10,e11⟩:=hg
 have e4:=Nat.le_of_ble_eq_true e4
 simp only[u64B,u32B,Bool.and_eq_true,decide_eq_true_eq] at hn hm
 rw[U8 g0 g1 (by omega)]
 have hlt:i < (l.length:Int):=h1
 by_cases hk:k < e.2.1.length
 ·have hr:=List.all_eq_true.1 e11 _ (Z1l (Ty.dflt RR) g0 hk)
  simp only[gdR,Bool.and_eq_true,decide_eq_true_eq] at hr
  have ht:tlE e=(e.2.1.getD (Int.toNat 0) (Ty.dflt RR)).2.2.2.1:=rfl
  rw[←ht]
  generalize e.2.1.getD k.toNat (Ty.dflt RR)=x at *
  obtain⟨r1,r2,r3,r4⟩:=hr
  rw[r1,r2,u64_in (x:=e.2.2.2.2 - now) (by omega) (by omega),u64_in (x:=tlE e) e7 (by omega)]
  refine Tr.all_t (J0 h0) (Tr.all_t (J0 h1) (Tr.all_t (J0 hk) (Tr.all_t (J0 h0) (Tr.all_t (J0 h1) (Tr.all_t (J0 g0) (Tr.all_t (J0 hk) (Tr.all_t (J0 h0) (Tr.all_t (J0 h1) (Tr.all_f (by simp) ?_)))))))))
  refine Tr.all_t (U2o r4) (Tr.all_f (by rw[r3];rfl) (Tr.all_f (V0 (by omega)) (Tr.all_t (J0 h0) (Tr.all_t (J0 h1) (Tr.all_f (V0 (by omega)) (Tr.all_t (J0 h0) (Tr.all_t (J0 h1) (Tr.all_t (J0 (by omega)) (Tr.all_f (by simp) (Tr.all_ret (.inr ⟨_,rfl,⟨by omega,by omega⟩,by omega⟩)))))))))))
 ·exact Tr.all_t (J0 h0) (Tr.all_t (J0 h1) (Tr.all_f (V0 hk) (Tr.all_ret (.inl rfl))))
noncomputable def b9m:Code:=U5 (U5 c9 0) 1
def ls9m:LoopSpec:={ bid:=4,sh:=[.d .str false,.d (.int .u64) false,.d (.int .u32) false,.d .bool false,.d (.list EN) false,.d (.int .i64) false,.d (.int .i64) false],so:=[],F:=fun(z,now,most,up,l,i,k,_) _=>.on (bwI z now most l i k) (.exit 4,[.str z,.int .u64 now,.int .u32 most,.dead,.bool up,.list EN l,.int .i64 i],[]) }
def r9m (z:List UInt8) (now most:Int) (up:Bool) (l:List ENt) (i k:Int):Tr (St⊕(Ex×St)):=.br (decide (k < i)) (.br (decide (0≤k)) (.br (decide (k < (↑l.length:Int))) (.br (decide (0≤i)) (.br (decide (i < (↑l.length:Int))) (.br ((l.getD k.toNat (Ty.dflt EN)).1.1==(l.getD i.toNat (Ty.dflt EN)).1.1&&((l.getD k.toNat (Ty.dflt EN)).1.2.1==(l.getD i.toNat (Ty.dflt EN)).1.2.1&&((l.getD k.toNat (Ty.dflt EN)).1.2.2==(l.getD i.toNat (Ty.dflt EN)).1.2.2&&true))) (.ret (.inr (.ret,stOf [1,2,3,8,9,10,11] [.str z,.int .u64 now,.int .u32 most,.bool false,.bool up,.list EN l,.int .i64 i] []))) (.ret (.inl (stOf [1,2,3,9,10,11,14] [.str z,.int .u64 now,.int .u32 most,.bool up,.list EN l,.int .i64 i,.int .i64 (IntKind.wrap .i64 (k+1))] [])))) .no) .no) .no) .no) (.ret (.inr (.exit 4,stOf [1,2,3,8,9,10,11] [.str z,.int .u64 now,.int .u32 most,.dead,.bool up,.list EN l,.int .i64 i] [])))
theorem U39 (lp:Lp) (z:List UInt8) (now most:Int) (up:Bool) (l:List ENt) (i k:Int):evC T0 (orcB [Jm,Vm,Vl,Ug,V6,Vk] []) lp b9m 4 (stOf [1,2,3,9,10,11,14] [.str z,.int .u64 now,.int .u32 most,.bool up,.list EN l,.int .i64 i,.int .i64 k] []) (X1 [1,2,3,9,10,11,14] [1,2,3,8,9,10,11] 0)=(r9m z now most up l i k).get:=by kernel_rfl
theorem wf9m (z:List UInt8) (now most:Int) (up:Bool) (l:List ENt) (i:Int) (I'':Int→Prop) (m'':Int→Nat) (r'':Ex×St) (h:∀ (k:Int),I'' k→(r9m z now most up l i k).all fun x''=>x''=.inr r''∨∃ (k':Int),x''=.inl (stOf [1,2,3,9,10,11,14] [.str z,.int .u64 now,.int .u32 most,.bool up,.list EN l,.int .i64 i,.int .i64 k'] [])∧I'' k'∧m'' k' < m'' k) (lp:Lp) (k:Int):I'' k→
    Q3 (fun st=>evC T0 (orcB [Jm,Vm,Vl,Ug,V6,Vk] []) lp b9m 4 st (X1 [1,2,3,9,10,11,14] [1,2,3,8,9,10,11] 0)) (stOf [1,2,3,9,10,11,14] [.str z,.int .u64 now,.int .u32 most,.bool up,.list EN l,.int .i64 i,.int .i64 k] [])=some r'':=
 Z7 (fun a'':Int=>stOf [1,2,3,9,10,11,14] [.str z,.int .u64 now,.int .u32 most,.bool up,.list EN l,.int .i64 i,.int .i64 a''] []) (fun a''=>I'' a'') (fun a''=>m'' a'') r'' (fun a''=>r9m z now most up l i a'')
  (fun a'' x hx=>(U39 lp z now most up l i a'').trans hx) (fun a'' ha=>Tr.all_mono (fun x'' hx=>hx.imp id fun⟨k',h1,h2,h3⟩=>⟨(k'),h1,h2,h3⟩) (h (a'') ha)) (k)
theorem Z3h:ls9m.Ok T0 (orcB [Jm,Vm,Vl,Ug,V6,Vk] []) h9 0 0 b9m:=by
 intro q'' hq'' x'' y'' r'' h
 obtain⟨(z:List UInt8),(now:Int),(most:Int),(up:Bool),(l:List ENt),(i:Int),(k:Int),_⟩:=x''
 obtain⟨hc,rfl⟩:=Tr.get_on h
 show Q3 (fun st=>evC T0 (orcB [Jm,Vm,Vl,Ug,V6,Vk] []) (lpN T0 (orcB [Jm,Vm,Vl,Ug,V6,Vk] []) h9 0 q'') b9m 4 st (X1 [1,2,3,9,10,11,14] [1,2,3,8,9,10,11] 0)) (stOf [1,2,3,9,10,11,14] [.str z,.int .u64 now,.int .u32 most,.bool up,.list EN l,.int .i64 i,.int .i64 k] [])=some (.exit 4,stOf [1,2,3,8,9,10,11] ([.str z,.int .u64 now,.int .u32 most,.dead,.bool up,.list EN l,.int .i64 i]) ([]))
 simp only[bwI,bwG,Bool.and_eq_true,decide_eq_true_eq] at hc
 obtain⟨⟨hz,hn,hm,hl,hall,hd⟩,h0,h1,rfl⟩:=hc
 have hl:=Nat.le_of_ble_eq_true hl
 refine wf9m z now most up l i (fun k=>0≤k∧k≤i) (fun k=>(i - k).toNat) _ ?_ _ 0 ⟨by omega,by omega⟩
 rintro k ⟨g0,g1⟩
 unfold r9m
 rw[IntWalk.i64_in (k+1) (by omega)]
 by_cases hk:k < i
 ·have hne:(l.getD k.toNat (Ty.dflt EN)).1≠(l.getD i.toNat (Ty.dflt EN)).1:=fun h=>by
   have a1:(l.map (·.1))[k.toNat]?=some (l.getD k.toNat (Ty.dflt EN)).1:=by
    rw[List.getD_eq_getElem?_getD,List.getElem?_map,List.getElem?_eq_getElem (by omega)]
    rfl
   have a2:(l.map (·.1))[i.toNat]?=some (l.getD k.toNat (Ty.dflt EN)).1:=by
    rw[h,List.getD_eq_getElem?_getD,List.getElem?_map,List.getElem?_eq_getElem (by omega)]
    rfl
   have:=J1w hd a1 a2
   omega
  rw[qeq,V0 hne]
  exact Tr.all_t (J0 hk) (Tr.all_t (J0 g0) (Tr.all_t (J0 (by omega)) (Tr.all_t (J0 h0) (Tr.all_t (J0 h1) (Tr.all_f rfl (Tr.all_ret (.inr ⟨_,rfl,⟨by omega,by omega⟩,by omega⟩)))))))
 ·exact Tr.all_f (V0 hk) (Tr.all_ret (.inl rfl))
noncomputable def b9o:Code:=U5 c9 0
def ls9o:LoopSpec:={ bid:=0,sh:=[.d .str false,.d (.int .u64) false,.d (.int .u32) false,.d .bool false,.d (.list EN) false,.d (.int .i64) false],so:=[],F:=fun(z,now,most,up,l,i,_) _=>.on (bwG z now most l&&decide (i=0)) (.exit 0,[.dead,.bool up],[]) }
def r9o (z:List UInt8) (now most:Int) (up:Bool) (l:List ENt) (i:Int):Tr (St⊕(Ex×St)):=.br (decide (i < (↑l.length:Int))) (.br (decide (0≤i)) (.br (decide (i < (↑l.length:Int))) (.br (smN (l.getD i.toNat (Ty.dflt EN)).1.1&&smN z) (.br (!undV (l.getD i.toNat (Ty.dflt EN)).1.1 z) (.ret (.inr (.ret,stOf [8,9] [.bool false,.bool up] []))) (.br (decide (0≤i)) (.br (decide (i < (↑l.length:Int))) (.br ((↑(List.length (l.getD i.toNat (Ty.dflt EN)).2.1):Int)==0) (.ret (.inr (.ret,stOf [8,9] [.bool false,.bool up] []))) (.br (decide (0≤i)) (.br (decide (i < (↑l.length:Int))) (.br (decide ((l.getD i.toNat (Ty.dflt EN)).2.2.2.1 < 1)) (.ret (.inr (.ret,stOf [8,9] [.bool false,.bool up] []))) (.br (decide (0≤i)) (.br (decide (i < (↑l.length:Int))) (.br (decide ((l.getD i.toNat (Ty.dflt EN)).2.2.2.1 > 5)) (.ret (.inr (.ret,stOf [8,9] [.bool false,.bool up] []))) (.br (decide (0≤i)) (.br (decide (i < (↑l.length:Int))) (.br (decide ((l.getD i.toNat (Ty.dflt EN)).2.2.2.2 < now)) (.ret (.inr (.ret,stOf [8,9] [.bool false,.bool up] []))) (.br (bwI z now most l i 0) (.br (bwI z now most l i 0) (.ret (.inl (stOf [1,2,3,9,10,11] [.str z,.int .u64 now,.int .u32 most,.bool up,.list EN l,.int .i64 (IntKind.wrap .i64 (i+1))] []))) .no) .no)) .no) .no)) .no) .no)) .no) .no)) .no) .no)) .no) .no) .no) (.ret (.inr (.exit 0,stOf [8,9] [.dead,.bool up] [])))
theorem V35 (z:List UInt8) (now most:Int) (up:Bool) (l:List ENt) (i:Int):evC T0 (orcB [Jm,Vm,Vl,Ug,V6,Vk] []) (lpOf h9 0 (lsOf [ls9k,ls9m])) b9o 0 (stOf [1,2,3,9,10,11] [.str z,.int .u64 now,.int .u32 most,.bool up,.list EN l,.int .i64 i] []) (X1 [1,2,3,9,10,11] [8,9] 0)=(r9o z now most up l i).get:=by kernel_rfl
theorem wf9o (z:List UInt8) (now most:Int) (up:Bool) (l:List ENt) (I'':Int→Prop) (m'':Int→Nat) (r'':Ex×St) (h:∀ (i:Int),I'' i→(r9o z now most up l i).all fun x''=>x''=.inr r''∨∃ (i':Int),x''=.inl (stOf [1,2,3,9,10,11] [.str z,.int .u64 now,.int .u32 most,.bool up,.list EN l,.int .i64 i'] [])∧I'' i'∧m'' i' < m'' i) (q'':Nat) (hq'':1≤q'') (i:Int):I'' i→
    Q3 (fun st=>evC T0 (orcB [Jm,Vm,Vl,Ug,V6,Vk] []) (lpN T0 (orcB [Jm,Vm,Vl,Ug,V6,Vk] []) h9 0 q'') b9o 0 st (X1 [1,2,3,9,10,11] [8,9] 0)) (stOf [1,2,3,9,10,11] [.str z,.int .u64 now,.int .u32 most,.bool up,.list EN l,.int .i64 i] [])=some r'':=
 Z7 (fun a'':Int=>stOf [1,2,3,9,10,11] [.str z,.int .u64 now,.int .u32 most,.bool up,.list EN l,.int .i64 a''] []) (fun a''=>I'' a'') (fun a''=>m'' a'') r'' (fun a''=>r9o z now most up l a'')
  (fun a'' x hx=>X0z (d:=0) (S:=lsOf [ls9k,ls9m]) (Q1t (xs:=[(2,b9k),(4,b9m)]) (by kernel_rfl) (all_cons (X7 V3n) (all_cons (J1n (by kernel_rfl) (X7 Z3h)) Z0))) (by omega) ((V35 z now most up l a'').trans hx)) (fun a'' ha=>Tr.all_mono (fun x'' hx=>hx.imp id fun⟨i',h1,h2,h3⟩=>⟨(i'),h1,h2,h3⟩) (h (a'') ha)) (i)
theorem Q3i:ls9o.Ok T0 (orcB [Jm,Vm,Vl,Ug,V6,Vk] []) h9 0 1 b9o:=by
 intro q'' hq'' x'' y'' r'' h
 obtain⟨(z:List UInt8),(now:Int),(most:Int),(up:Bool),(l:List ENt),(i:Int),_⟩:=x''
 obtain⟨hc,rfl⟩:=Tr.get_on h
 show Q3 (fun st=>evC T0 (orcB [Jm,Vm,Vl,Ug,V6,Vk] []) (lpN T0 (orcB [Jm,Vm,Vl,Ug,V6,Vk] []) h9 0 q'') b9o 0 st (X1 [1,2,3,9,10,11] [8,9] 0)) (stOf [1,2,3,9,10,11] [.str z,.int .u64 now,.int .u32 most,.bool up,.list EN l,.int .i64 i] [])=some (.exit 0,stOf [8,9] ([.dead,.bool up]) ([]))
 simp only[Bool.and_eq_true,decide_eq_true_eq] at hc
 obtain⟨hG,rfl⟩:=hc
 have hG':=hG
 simp only[bwG,Bool.and_eq_true,decide_eq_true_eq] at hG'
 obtain⟨hz,hn,hm,hl,hall,hd⟩:=hG'
 have hl:=Nat.le_of_ble_eq_true hl
 refine wf9o z now most up l (fun i=>0≤i∧i≤l.length) (fun i=>(l.length - i).toNat) _ ?_ _ hq'' 0 ⟨by omega,by omega⟩
 rintro i ⟨h0,h1⟩
 unfold r9o
 rw[U8 h0 h1 (by omega)]
 by_cases hi:i < l.length
 ·have hg:=List.all_eq_true.1 hall _ (Z1l (Ty.dflt EN) h0 hi)
  have hI:bwI z now most l i 0=true:=by unfold bwI;rw[hG,J0 h0,J0 hi,J0 rfl];rfl
  generalize l.getD i.toNat (Ty.dflt EN)=e at *
  simp only[gdN,Bool.and_eq_true,decide_eq_true_eq,Bool.not_eq_true'] at hg
  obtain⟨e1,e2,e3,e4,e5,e6,e7,e8,e9,e10,e11⟩:=hg
  have e3:e.2.1.length≠0:=by
   intro h
   rw[List.length_eq_zero_iff.1 h] at e3
   cases e3
  refine Tr.all_t (J0 hi) (Tr.all_t (J0 h0) (Tr.all_t (J0 hi) (Tr.all_t (by rw[e2,hz];rfl) (Tr.all_f (by rw[e1];rfl) (Tr.all_t (J0 h0) (Tr.all_t (J0 hi) (Tr.all_f (beq_eq_false_iff_ne.2 (by omega)) (Tr.all_t (J0 h0) (Tr.all_t (J0 hi) (Tr.all_f (V0 (by omega)) (Tr.all_t (J0 h0) (Tr.all_t (J0 hi) (Tr.all_f (V0 (by omega)) (Tr.all_t (J0 h0) (Tr.all_t (J0 hi) (Tr.all_f (V0 (by omega)) (Tr.all_t hI (Tr.all_t hI (Tr.all_ret (.inr ⟨_,rfl,⟨by omega,by omega⟩,by omega⟩))))))))))))))))))))
 ·exact Tr.all_f (V0 hi) (Tr.all_ret (.inl rfl))
def t9 (m:MGt) (z:List UInt8) (now most:Int):Tr Res:=.br (!fewM m) (.ret ([.bool true],[])) (.br (decide ((↑z.length:Int) > 300)) (.ret ([.bool true],[])) (.br (okS m z now most) (.br (bwG z now most (X0x m z now most)&&decide (0=(0:Ty.den (Ty.int .i64)))) (.ret ([.bool true],[])) .no) .no))
def os9:OSpec:={ f:=9,sh:=[.d MG true,.d .str false,.d (.int .u64) false,.d (.int .u32) false],so:=[],F:=fun(m,z,now,most,_) _=>t9 m z now most }
theorem fn9 (m:MGt) (z:List UInt8) (now most:Int):evC T0 (orcB [Jm,Vm,Vl,Ug,V6,Vk] []) (lpOf h9 0 (lsOf [ls9o])) c9 1000000 (U1 [AV.ofTy MG m true,.str z,.int .u64 now,.int .u32 most] [] Try.f9.ntmps) (Q0 T0 false 0 Try.f9)=(t9 m z now most).get:=by kernel_rfl
theorem ok9:os9.Ok Try.prog:=by
 refine V4 U2 tab0 (U0 (all_cons X3n (all_cons V3k (all_cons V3i (all_cons Z1e (all_cons U1f (all_cons Q2w Z0)))))) Z0) h9 (d:=1) (n0:=0) (S:=lsOf [ls9o]) Try.func9 (by kernel_rfl) (c:=c9) (by kernel_rfl) rfl (Z9 (xs:=[(0,b9o)]) (by kernel_rfl) (all_cons (X7 Q3i) Z0)) (by omega) (by kernel_rfl) ?_
 intro x'' y'' q'' hq''
 obtain⟨(m:MGt),(z:List UInt8),(now:Int),(most:Int),_⟩:=x''
 exact(fn9 m z now most).trans hq''
theorem keyT (x:RRt) (t:Int):keyV (setT x t)=keyV x:=rfl
theorem recT (x:RRt) (t:Int):recV (setT x t)=recV x:=rfl
theorem okRT (x:RRt) (t:Int):okR (setT x t)=okR x:=rfl
theorem J1h {z:List UInt8} {l:List RRt} (hl:l.length≤20) (h:∀ r∈l,r.1.length≤300∧r.2.2.2.2.length≤300) (hz:z.length≤300):okS3 z l=true:=by
 unfold okS3
 rw[Q3m (Q3h (by omega) h) hz (by simp),Nat.ble_eq_true_of_le (by omega)]
 rfl
theorem Q2s {m:MGt} {z:List UInt8} {now most:Int} (hf:fewM m=true) (hz:z.length≤300) (hm:okUM m=true) (hn:u64B now=true) (ho:u32B most=true):okS m z now most=true:=by
 obtain⟨⟨h1,h2,h3⟩,h4⟩:=Z2c hf
 unfold okS
 rw[J1h h1 (fun r hr=>h4 r (.inl hr)) hz,J1h h2 (fun r hr=>h4 r (.inr (.inl hr))) hz,J1h h3 (fun r hr=>h4 r (.inr (.inr hr))) hz,hm,hn,ho]
 rfl
theorem Q26 {z:List UInt8} {sec:Int} {a:ES×List QQt} {r:RRt} {P:RRt→Prop} (hr:P r) (h:∀ e∈a.1,∀ x∈e.2.2,P x):∀ e∈(Vq z sec a r).1,∀ x∈e.2.2,P x:=by
 unfold Vq
 cases inV z r with
 | false=>exact h
 | true=>
   simp only[cond_true]
   cases hb:hasB (keqD QQ) (keyV r) a.1 with
   | true=>
     simp only[cond_true]
     obtain⟨n,e,e1,_,e3,e4⟩:=Xu hb
     have hg:getB (keqD QQ) (0,[]) (keyV r) a.1=e.2:=by unfold getB;rw[e3];rfl
     rw[hg,e4]
     intro e' he' x hx
     rcases List.mem_or_eq_of_mem_set he' with he' | rfl
     ·exact h e' he' x hx
     ·have hx:x∈Zj e.2.1 sec r e.2.2:=hx
      unfold Zj at hx
      cases hc:(Qk e.2.1 sec==sec&&!e.2.2.any fun o=>sayV o r) with
      | false=>rw[hc] at hx;exact h e (List.mem_of_getElem? e1) x hx
      | true=>
        rw[hc] at hx
        rcases List.mem_append.1 hx with hx | hx
        ·exact h e (List.mem_of_getElem? e1) x hx
        ·simp at hx;subst hx;exact hr
   | false=>
     simp only[cond_false]
     intro e' he' x hx
     rcases List.mem_append.1 he' with he' | he'
     ·exact h e' he' x hx
     ·simp at he'
      subst he'
      simp at hx
      subst hx
      exact hr
theorem Z07 {z:List UInt8} {sec:Int} {P:RRt→Prop}:∀ (l:List RRt) (a:ES×List QQt),(∀ r∈l,P r)→(∀ e∈a.1,∀ x∈e.2.2,P x)→∀ e∈(cRun z sec l a).1,∀ x∈e.2.2,P x
 | [],a,_,h=>h
 | r::l,a,hl,h=>Z07 l (Vq z sec a r) (fun x hx=>hl x (by simp[hx])) (Q26 (hl r (by simp)) h)
theorem V2c {z:List UInt8} {arr:List RRt×(List RRt×List RRt)} {P:RRt→Prop} (h1:∀ r∈arr.1,P r) (h2:∀ r∈arr.2.1,P r) (h3:∀ r∈arr.2.2,P r):∀ e∈(cAll z arr).1,∀ x∈e.2.2,P x:=
 Z07 _ _ h3 (Z07 _ _ h2 (Z07 _ _ h1 fun e he=>by cases he))
theorem Q2j {m:MGt} {z:List UInt8} {now most:Int} (hf:fewM m=true) (hz:z.length≤300) (hm:okUM m=true) (hn:u64B now=true) (ho:u32B most=true):bwG z now most (X0x m z now most)=true:=by
 obtain⟨g1,g2,g3⟩:=Z2r (Q2s hf hz hm hn ho)
 obtain⟨⟨h1,h2,h3⟩,h4⟩:=Z2c hf
 have hfr:=V2c (z:=z) (arr:=mArr m) (P:=fun r=>r.1.length≤300∧r.2.2.2.2.length≤300) (fun r hr=>h4 r (.inl hr)) (fun r hr=>h4 r (.inr (.inl hr))) (fun r hr=>h4 r (.inr (.inr hr)))
 have ho':=ho
 simp only[u32B,Bool.and_eq_true,decide_eq_true_eq] at ho'
 have e0:BdE ([]:ES) 0:=fun e h=>by cases h
 obtain⟨e1,o1⟩:=Qq (z:=z) (sec:=1) (mAn m) ([],[]) 0 e0 (Nat.le_refl _)
 obtain⟨e2,o2⟩:=Qq (z:=z) (sec:=2) (mNs m) (cRun z 1 (mAn m) ([],[])) _ e1 o1
 obtain⟨e3,o3⟩:=Qq (z:=z) (sec:=3) (mAr m) (cRun z 2 (mNs m) (cRun z 1 (mAn m) ([],[]))) _ e2 o2
 have e3:BdE (cAll z (mArr m)).1 (0+(mAn m).length+(mNs m).length+(mAr m).length):=e3
 have o3:(cAll z (mArr m)).2.length≤0+(mAn m).length+(mNs m).length+(mAr m).length:=o3
 unfold bwG X0x
 generalize cAll z (mArr m)=a at *
 have hlen:a.1.length≤100000:=by
  have:a.2.length=a.1.length:=by rw[g1,List.length_map]
  omega
 rw[U2a hz,hn,ho,List.length_map,Nat.ble_eq_true_of_le hlen,List.map_map]
 have hnd:((fun e:ENt=>e.1) ∘ entV now most m.2.2.1)=(fun e:QQt×(Int×List RRt)=>e.1):=rfl
 rw[hnd,decide_eq_true g2,Bool.and_true,Bool.true_and,Bool.true_and,Bool.true_and,Bool.true_and]
 refine List.all_eq_true.2 fun x hx=>?_
 obtain⟨e,he,rfl⟩:=List.mem_map.1 hx
 obtain⟨d1,d2,d3⟩:=g3 e he
 obtain⟨m1,m2⟩:=V0z d2 (fun r hr=>(d3 r hr).2.2) ho'.1
 obtain⟨q,s,rs⟩:=e
 simp only at d1 d2 d3 m1 m2
 obtain⟨r0,rs',rfl⟩:=List.exists_cons_of_ne_nil d2
 obtain⟨k1,k2,_⟩:=d3 r0 (by simp)
 obtain⟨i1,i2,i3⟩:=Z30 k1
 have hr0:=hfr _ he r0 (by simp)
 have hq:q.1=r0.1:=by rw[←k2];rfl
 have htl:tlE (entV now most m.2.2.1 (q,(s,r0::rs')))=U7 (r0::rs') most:=rfl
 obtain⟨u1,u2,u3,u4⟩:=U2f hn m1 m2 ho'.2
 have hrk:1≤V0r s m.2.2.1∧V0r s m.2.2.1≤5:=by
  simp only[secB,Bool.and_eq_true,decide_eq_true_eq] at d1
  have h3:s=1∨s=2∨s=3:=by omega
  generalize m.2.2.1=aa
  rcases h3 with rfl | rfl | rfl<;>cases aa<;>decide
 have hle:=e3 _ he
 simp only at hle
 unfold gdN
 rw[htl]
 show (undV q.1 z&&(smN q.1&&(!(V0j (r0::rs') (U7 (r0::rs') most)).isEmpty&&(lrB (V0j (r0::rs') (U7 (r0::rs') most))&&(decide (1≤V0r s m.2.2.1)&&(decide (V0r s m.2.2.1≤5)&&(decide (0≤U7 (r0::rs') most)&&(decide (U7 (r0::rs') most≤most)&&(decide (now≤Zq now (U7 (r0::rs') most))&&(decide (Zq now (U7 (r0::rs') most) - now≤U7 (r0::rs') most)&&(V0j (r0::rs') (U7 (r0::rs') most)).all (gdR q (U7 (r0::rs') most))))))))))))=true
 rw[hq,i2,U2a hr0.1,J0 hrk.1,J0 hrk.2,J0 m1,J0 m2,J0 (show now≤_ from u1),J0 u2]
 have hlr:lrB (V0j (r0::rs') (U7 (r0::rs') most))=true:=by
  unfold lrB V0j
  rw[List.length_map]
  exact Nat.ble_eq_true_of_le (by omega)
 rw[hlr]
 have hall:(V0j (r0::rs') (U7 (r0::rs') most)).all (gdR q (U7 (r0::rs') most))=true:=by
  refine List.all_eq_true.2 fun y hy=>?_
  obtain⟨x,hx,rfl⟩:=List.mem_map.1 hy
  obtain⟨j1,j2,_⟩:=d3 x hx
  have hx3:=hfr _ he x hx
  unfold gdR
  rw[keyT,recT,okRT,j2,(Z30 j1).2.2,U0s.2 ⟨by omega,by omega⟩]
  simp[setT]
 rw[hall]
 rfl
theorem acceptBailiwick_all (m:MGt) (z:List UInt8) (now most:Int) (hm:okUM m=true) (hn:u64B now=true) (ho:u32B most=true):Tr.all (fun r:Res=>r=([.bool true],[])) (t9 m z now most):=by
 unfold t9
 refine Tr.all_br (fun _=>Tr.all_ret rfl) fun hf=>Tr.all_br (fun _=>Tr.all_ret rfl) fun hz=>?_
 have hf:fewM m=true:=by simpa using hf
 have hz:z.length≤300:=by have:=of_decide_eq_false hz;omega
 exact Tr.all_t (Q2s hf hz hm hn ho) (Tr.all_t (by rw[Q2j hf hz hm hn ho];rfl) (Tr.all_ret rfl))
theorem sem9 (m:MGt) (z:List UInt8) (now most:Int) (h1:okT MG m) (h2:okT (.int .u64) now) (h3:okT (.int .u32) most):SemF Try.prog 9 [AV.ofTy MG m true,.str z,.int .u64 now,.int .u32 most] [] [.bool true] []:=
 ok9 (m,z,now,most,()) () ([.bool true],[]) (Tr.get_of_all (acceptBailiwick_all m z now most (Q2r h1) (J2s h2) (J1x h3)))
end Go.Proofs.YtkobjdhbfepkaaaE
namespace Go.Proofs.Ytkobjdhbfepkaaa.acceptBailiwick
open Go.ChangeShapes Go.WideShapes Go.ChangeAt Go.RowKit Go.Proofs.YtkobjdhbfepkaaaE
open Go.ChangeMaps (open_string shut_string)
set_option linter.unusedVariables false
theorem own : ownKnob Try.prog.godebug = none := by kernel_rfl
theorem laidOut : laidOutB Try.prog = true := by kernel_rfl
set_option maxRecDepth 100000 in
theorem lifted (os : Os) (started : os.Started) (H : Type) (enc : TypeId × Value → H) :
    ReturnsInHanded {} Try.checked os 9 .any (Rows.acceptBailiwickSpec.pre6 enc Try.prog Try.f9 Rows.acceptBailiwickRow.domain false) (Rows.acceptBailiwickSpec.post enc Try.prog Try.f9 false true false false) := by
  refine returnsInHanded_of_change_sized (C := Try.checked) own started (by kernel_rfl) Try.func9
    (ChangeSpec.witness6 (enc := enc) (C := Try.checked) false ⟨#[], #[.agg #[.int .u16 0, .bool false, .bool false, .bool false, .bool false, .bool false, .int .i64 0, .int .i64 0, .slice none 0 0, .slice none 0 0, .slice none 0 0, .slice none 0 0], .string ByteArray.empty, .int .u64 0, .int .u32 0], []⟩ 8 (by kernel_rfl) (by kernel_rfl) (by kernel_rfl) (by kernel_rfl)) ?_
  intro W base args ds gs before hval0 hW hcnd hsz0 _
  have hsz : ∀ n ∈ DataW.weightsEach Try.prog (Try.f9.params.toList ++ Rows.acceptBailiwickSpec.plain.varTypes Try.prog) (ds ++ gs), n ≤ reachBytes := fun n hn => of_decide_eq_true (List.all_eq_true.1 hsz0 n hn)
  have hval : ∀ (j : Nat) t v, Try.f9.params[j]? = some t → args[j]? = some v → Value.okWide Try.prog W .any base t v := hval0
  have hW' := hW
  obtain ⟨p, q, hA0, hV, rfl, hfz, hnd⟩ := hW
  have hA : DataW.TrodAll enc Try.prog W 0 (fun _ => true) true Try.f9.params.toList args.toList ds p := hA0
  rw [Try.params9] at hA hval hsz
  obtain ⟨v0, vs0, d0, ds0, p0, q0, hargs, rfl, rfl, k0, r0⟩ := trodAll_cons hA
  obtain ⟨v1, vs1, d1, ds1, p1, q1, rfl, rfl, rfl, k1, r1⟩ := trodAll_cons r0
  obtain ⟨v2, vs2, d2, ds2, p2, q2, rfl, rfl, rfl, k2, r2⟩ := trodAll_cons r1
  obtain ⟨v3, vs3, d3, ds3, p3, q3, rfl, rfl, rfl, k3, r3⟩ := trodAll_cons r2
  obtain ⟨rfl, rfl, rfl⟩ := trodAll_nil r3
  obtain rfl : args = #[v0, v1, v2, v3] := by cases args; simp_all
  obtain ⟨rfl, rfl⟩ := trodVars_none hV
  have lt0 : ∀ x ∈ p0, x.block < W.heap.size := by obtain ⟨m, hm⟩ := k0; exact DataW.trod_lt m _ _ _ hm
  obtain ⟨x0, e0, w0, b0⟩ := Q0i (n := 8) (τ := (.pair (.int .u16) (.pair .bool (.pair .bool (.pair .bool (.pair .bool (.pair .bool (.pair (.int .i64) (.pair (.int .i64) (.pair (.list (.pair .str (.pair (.int .u16) (.int .u16)))) (.pair (.list (.pair .str (.pair (.int .u16) (.pair (.int .u16) (.pair (.int .u32) .str))))) (.pair (.list (.pair .str (.pair (.int .u16) (.pair (.int .u16) (.pair (.int .u32) .str))))) (.list (.pair .str (.pair (.int .u16) (.pair (.int .u16) (.pair (.int .u32) .str))))))))))))))))) (agg := true) (by kernel_rfl) (hval 0 45 v0 rfl rfl) k0 (fun n hn => hsz n (DataW.weights_mem_each (j := 0) (t := 45) rfl rfl n hn)) (by kernel_rfl)
  have lt1 : ∀ x ∈ p1, x.block < W.heap.size := by obtain ⟨m, hm⟩ := k1; exact DataW.trod_lt m _ _ _ hm
  obtain ⟨x1, e1, w1, b1⟩ := Q0i (n := 8) (τ := .str) (agg := false) (by kernel_rfl) (hval 1 9 v1 rfl rfl) k1 (fun n hn => hsz n (DataW.weights_mem_each (j := 1) (t := 9) rfl rfl n hn)) (by kernel_rfl)
  have lt2 : ∀ x ∈ p2, x.block < W.heap.size := by obtain ⟨m, hm⟩ := k2; exact DataW.trod_lt m _ _ _ hm
  obtain ⟨x2, e2, w2, b2⟩ := Q0i (n := 8) (τ := .int .u64) (agg := false) (by kernel_rfl) (hval 2 62 v2 rfl rfl) k2 (fun n hn => hsz n (DataW.weights_mem_each (j := 2) (t := 62) rfl rfl n hn)) (by kernel_rfl)
  have lt3 : ∀ x ∈ p3, x.block < W.heap.size := by obtain ⟨m, hm⟩ := k3; exact DataW.trod_lt m _ _ _ hm
  obtain ⟨x3, e3, w3, b3⟩ := Q0i (n := 8) (τ := .int .u32) (agg := false) (by kernel_rfl) (hval 3 54 v3 rfl rfl) k3 (fun n hn => hsz n (DataW.weights_mem_each (j := 3) (t := 54) rfl rfl n hn)) (by kernel_rfl)
  clear hA0 hval0 hsz0 hsz
  refine (X2c ((fun x0 x1 x2 x3 w0 w1 w2 w3 => sem9 x0 x1 x2 x3 w0 w2 w3) x0 x1 x2 x3 w0 w1 w2 w3) W (vs := [v0, v1, v2, v3]) ?_).mono fun e W' ⟨he, bel⟩ => ?_
  · simp only [X0]
    exact ⟨_, _, rfl, e0, ⟨_, _, rfl, e1, ⟨_, _, rfl, e2, ⟨_, _, rfl, e3, rfl⟩⟩⟩⟩
  subst he
  exact ⟨_, rfl, _, _, _, [], _, [], hW', trodAll_mk1 (shut_bool Try.underlying4 _), (trodAll_cons_mk (Below.trod laidOut (by kernel_rfl) (of_decide_eq_true (by kernel_rfl)) k0 bel lt0) (trodAll_cons_mk (Below.trod laidOut (by kernel_rfl) (of_decide_eq_true (by kernel_rfl)) k1 bel lt1) (trodAll_cons_mk (Below.trod laidOut (by kernel_rfl) (of_decide_eq_true (by kernel_rfl)) k2 bel lt2) (trodAll_cons_mk (Below.trod laidOut (by kernel_rfl) (of_decide_eq_true (by kernel_rfl)) k3 bel lt3) trodAll_mk0)))), rfl, bel.frame _, fun h => by cases h⟩
theorem over : Rows.acceptBailiwickRow.holds Try.pinned (OpenSpec.ofChange Rows.acceptBailiwickSpec) :=
  OpenClaim.holds_of_wide 9 Try.f9 rfl rfl rfl rfl rfl rfl rfl ⟨rfl, rfl, rfl, rfl, rfl⟩ rfl rfl rfl rfl rfl (by kernel_rfl) Try.func9 (by kernel_rfl)
    (of_decide_eq_true (by kernel_rfl)) (by unfold Func.isWrapper; first | (rw [if_pos (by decide +kernel)]; kernel_rfl) | (rw [if_neg (by decide +kernel)]; exact ⟨rfl, rfl⟩))
    (fun os started H enc _ => lifted os started H enc)
theorem proved : Rows.AcceptBailiwickSaid := over
end Go.Proofs.Ytkobjdhbfepkaaa.acceptBailiwick
namespace Go.Proofs.Ytkobjdhbfepkaaa
/-- The row, under a short name, for the claim. -/
theorem acceptBailiwick_holds : Rows.AcceptBailiwickSaid := acceptBailiwick.proved
#print axioms acceptBailiwick_holds
end Go.Proofs.Ytkobjdhbfepkaaa
