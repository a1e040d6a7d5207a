import Derived.Test.YtkobjdhbfepkaaaPAcceptMore4
import Derived.Test.YtkobjdhbfepkaaaRows
import Derived.WalkKit
import Derived.ProofKit
import Derived.OpenShut
import Derived.ShutString
import Derived.ChangeOld
import Derived.Below
import Derived.Carry
import Derived.SizedLaws
set_option maxRecDepth 1000000
namespace Go.Proofs.YtkobjdhbfepkaaaE
open Go Go.Proofs.YtkobjdhbfepkaaaB
set_option linter.unusedVariables false
set_option linter.unusedSimpArgs false
theorem V21 {z:List UInt8} {s:Int} {l:List RRt} {es:ES} {od:List QQt} (h:okF l z []=true) (hs:secB (s+1)=true) (hl:l.length≤2000) (he:BdE es 10000) (ho:od.length≤10000):inC z s l (l.length:Int) 0 es od=true:=by
 unfold inC
 rw[h,hs,Nat.ble_eq_true_of_le hl,Nat.ble_eq_true_of_le ho,List.all_eq_true.2 fun e hh=>Nat.ble_eq_true_of_le (he e hh)]
 simp
def okS3 (z:List UInt8) (l:List RRt):Bool:=okF l z []&&Nat.ble l.length 2000
def outC (z:List UInt8) (arr:List RRt×(List RRt×List RRt)) (si:Int) (es:ES) (od:List QQt):Bool:=decide (si=0)&&((es.isEmpty&&od.isEmpty)&&(okS3 z arr.1&&(okS3 z arr.2.1&&okS3 z arr.2.2)))
def cAll (z:List UInt8) (arr:List RRt×(List RRt×List RRt)):ES×List QQt:=cRun z 3 arr.2.2 (cRun z 2 arr.2.1 (cRun z 1 arr.1 ([],[])))
noncomputable def b34o:Code:=Z7 c34 0
def X2x:LoopSpec:={ bid:=0,sh:=[.d .str false,.d (.int .u64) false,.d (.int .u32) false,.ptr 0 0,.mp 1,.row 2,.d (.pair (.list RR) (.pair (.list RR) (.list RR))) true,.d (.int .i64) false],so:=[.box [.d (.int .u16) false,.d .bool false,.d .bool false,.d .bool false,.d .bool false,.d .bool false,.d (.int .i64) false,.d (.int .i64) false,.d (.list QQ) false,.d (.list RR) false,.d (.list RR) false,.d (.list RR) false],.mapb QQ .i64 RR,.row QQ],F:=fun(z,now,most,arr,si,_) ((mi,mqr,maa,mtc,mrd,mra,mop,mrc,mq,man,mns,mar,_),es,od,_)=>.on (outC z arr si es od) (.exit 0,[.int .u64 now,.int .u32 most,.ptr 0 0,.mp 1,.rowA 2],[.box [.int .u16 mi,.bool mqr,.bool maa,.bool mtc,.bool mrd,.bool mra,.int .i64 mop,.int .i64 mrc,.list QQ mq,.list RR man,.list RR mns,.list RR mar],.mpb QQ .i64 RR (cAll z arr).1 none,.row QQ (cAll z arr).2]) }
def r34o (z:List UInt8) (now most:Int) (arr:(List RRt×(List RRt×List RRt))) (si mi:Int) (mqr maa mtc mrd mra:Bool) (mop mrc:Int) (mq:List QQt) (man mns mar:List RRt) (es:List (QQt×(Int×List RRt))) (od:List QQt):Tr (St⊕(Ex×St)):=.br (decide (si < 3)) (.br (decide (si=(↑0:Int))) (.br (inC z si arr.1 (↑arr.1.length:Int) 0 es od) (.ret (.inl (stOf [1,2,3,4,9,10,28,29] [.str z,.int .u64 now,.int .u32 most,.ptr 0 0,.mp 1,.rowA 2,.agg [.list RR arr.1,.list RR arr.2.1,.list RR arr.2.2],.int .i64 (IntKind.wrap .i64 (si+1))] [.boxT none [.int .u16 mi,.bool mqr,.bool maa,.bool mtc,.bool mrd,.bool mra,.int .i64 mop,.int .i64 mrc,.list QQ mq,.list RR man,.list RR mns,.list RR mar],LObj.mpb QQ IntKind.i64 RR (cRun z (si+1) arr.1 (es,od)).1 none,.row QQ (cRun z (si+1) arr.1 (es,od)).2]))) .no) (.br (decide (si=(↑(0+1):Int))) (.br (inC z si arr.2.1 (↑arr.2.1.length:Int) 0 es od) (.ret (.inl (stOf [1,2,3,4,9,10,28,29] [.str z,.int .u64 now,.int .u32 most,.ptr 0 0,.mp 1,.rowA 2,.agg [.list RR arr.1,.list RR arr.2.1,.list RR arr.2.2],.int .i64 (IntKind.wrap .i64 (si+1))] [.boxT none [.int .u16 mi,.bool mqr,.bool maa,.bool mtc,.bool mrd,.bool mra,.int .i64 mop,.int .i64 mrc,.list QQ mq,.list RR man,.list RR mns,.list RR mar],LObj.mpb QQ IntKind.i64 RR (cRun z (si+1) arr.2.1 (es,od)).1 none,.row QQ (cRun z (si+1) arr.2.1 (es,od)).2]))) .no) (.br (decide (si=(↑(0+1+1):Int))) (.br (inC z si arr.2.2 (↑arr.2.2.length:Int) 0 es od) (.ret (.inl (stOf [1,2,3,4,9,10,28,29] [.str z,.int .u64 now,.int .u32 most,.ptr 0 0,.mp 1,.rowA 2,.agg [.list RR arr.1,.list RR arr.2.1,.list RR arr.2.2],.int .i64 (IntKind.wrap .i64 (si+1))] [.boxT none [.int .u16 mi,.bool mqr,.bool maa,.bool mtc,.bool mrd,.bool mra,.int .i64 mop,.int .i64 mrc,.list QQ mq,.list RR man,.list RR mns,.list RR mar],LObj.mpb QQ IntKind.i64 RR (cRun z (si+1) arr.2.2 (es,od)).1 none,.row QQ (cRun z (si+1) arr.2.2 (es,od)).2]))) .no) .no))) (.ret (.inr (.exit 0,stOf [2,3,4,9,10] [.int .u64 now,.int .u32 most,.ptr 0 0,.mp 1,.rowA 2] [.boxT none [.int .u16 mi,.bool mqr,.bool maa,.bool mtc,.bool mrd,.bool mra,.int .i64 mop,.int .i64 mrc,.list QQ mq,.list RR man,.list RR mns,.list RR mar],LObj.mpb QQ IntKind.i64 RR es none,.row QQ od])))
theorem V32 (z:List UInt8) (now most:Int) (arr:(List RRt×(List RRt×List RRt))) (si mi:Int) (mqr maa mtc mrd mra:Bool) (mop mrc:Int) (mq:List QQt) (man mns mar:List RRt) (es:List (QQt×(Int×List RRt))) (od:List QQt):evC TQ (orcB [Zh,Ui,Zm,Vm,Xm] [Ql,Um]) (lpOf h34 0 (lsOf [Q2q])) b34o 0 (stOf [1,2,3,4,9,10,28,29] [.str z,.int .u64 now,.int .u32 most,.ptr 0 0,.mp 1,.rowA 2,AV.ofTy (.pair (.list RR) (.pair (.list RR) (.list RR))) arr true,.int .i64 si] [.box [.int .u16 mi,.bool mqr,.bool maa,.bool mtc,.bool mrd,.bool mra,.int .i64 mop,.int .i64 mrc,.list QQ mq,.list RR man,.list RR mns,.list RR mar],.mpb QQ .i64 RR es none,.row QQ od]) (X1 [1,2,3,4,9,10,28,29] [2,3,4,9,10] 0)=(r34o z now most arr si mi mqr maa mtc mrd mra mop mrc mq man mns mar es od).get:=by kernel_rfl
theorem wf34o (z:List UInt8) (now most:Int) (arr:(List RRt×(List RRt×List RRt))) (mi:Int) (mqr maa mtc mrd mra:Bool) (mop mrc:Int) (mq:List QQt) (man mns mar:List RRt) (I'':Int→List (QQt×(Int×List RRt))→List QQt→Prop) (m'':Int→List (QQt×(Int×List RRt))→List QQt→Nat) (r'':Ex×St) (h:∀ (si:Int) (es:List (QQt×(Int×List RRt))) (od:List QQt),I'' si es od→(r34o z now most arr si mi mqr maa mtc mrd mra mop mrc mq man mns mar es od).all fun x''=>x''=.inr r''∨∃ (si':Int) (es':List (QQt×(Int×List RRt))) (od':List QQt),x''=.inl (stOf [1,2,3,4,9,10,28,29] [.str z,.int .u64 now,.int .u32 most,.ptr 0 0,.mp 1,.rowA 2,AV.ofTy (.pair (.list RR) (.pair (.list RR) (.list RR))) arr true,.int .i64 si'] [.box [.int .u16 mi,.bool mqr,.bool maa,.bool mtc,.bool mrd,.bool mra,.int .i64 mop,.int .i64 mrc,.list QQ mq,.list RR man,.list RR mns,.list RR mar],.mpb QQ .i64 RR es' none,.row QQ od'])∧I'' si' es' od'∧m'' si' es' od' < m'' si es od) (q'':Nat) (hq'':1≤q'') (si:Int) (es:List (QQt×(Int×List RRt))) (od:List QQt):I'' si es od→
    Q3 (fun st=>evC TQ (orcB [Zh,Ui,Zm,Vm,Xm] [Ql,Um]) (lpN TQ (orcB [Zh,Ui,Zm,Vm,Xm] [Ql,Um]) h34 0 q'') b34o 0 st (X1 [1,2,3,4,9,10,28,29] [2,3,4,9,10] 0)) (stOf [1,2,3,4,9,10,28,29] [.str z,.int .u64 now,.int .u32 most,.ptr 0 0,.mp 1,.rowA 2,AV.ofTy (.pair (.list RR) (.pair (.list RR) (.list RR))) arr true,.int .i64 si] [.box [.int .u16 mi,.bool mqr,.bool maa,.bool mtc,.bool mrd,.bool mra,.int .i64 mop,.int .i64 mrc,.list QQ mq,.list RR man,.list RR mns,.list RR mar],.mpb QQ .i64 RR es none,.row QQ od])=some r'':=
 V8 (fun a'':Int×List (QQt×(Int×List RRt))×List QQt=>stOf [1,2,3,4,9,10,28,29] [.str z,.int .u64 now,.int .u32 most,.ptr 0 0,.mp 1,.rowA 2,AV.ofTy (.pair (.list RR) (.pair (.list RR) (.list RR))) arr true,.int .i64 a''.1] [.box [.int .u16 mi,.bool mqr,.bool maa,.bool mtc,.bool mrd,.bool mra,.int .i64 mop,.int .i64 mrc,.list QQ mq,.list RR man,.list RR mns,.list RR mar],.mpb QQ .i64 RR a''.2.1 none,.row QQ a''.2.2]) (fun a''=>I'' a''.1 a''.2.1 a''.2.2) (fun a''=>m'' a''.1 a''.2.1 a''.2.2) r'' (fun a''=>r34o z now most arr a''.1 mi mqr maa mtc mrd mra mop mrc mq man mns mar a''.2.1 a''.2.2)
  (fun a'' x hx=>J1y (d:=0) (S:=lsOf [Q2q]) (Z2z (xs:=[(2,b34i)]) (by kernel_rfl) (all_cons (J9 V37) Z0)) (by omega) ((V32 z now most arr a''.1 mi mqr maa mtc mrd mra mop mrc mq man mns mar a''.2.1 a''.2.2).trans hx)) (fun a'' ha=>Tr.all_mono (fun x'' hx=>hx.imp id fun⟨si',es',od',h1,h2,h3⟩=>⟨(si',es',od'),h1,h2,h3⟩) (h (a''.1) (a''.2.1) (a''.2.2) ha)) (si,es,od)
theorem Z36:X2x.Ok TQ (orcB [Zh,Ui,Zm,Vm,Xm] [Ql,Um]) h34 0 1 b34o:=by
 intro q'' hq'' x'' y'' r'' h
 obtain⟨(z:List UInt8),(now:Int),(most:Int),(arr:(List RRt×(List RRt×List RRt))),(si:Int),_⟩:=x''
 obtain⟨⟨(mi:Int),(mqr:Bool),(maa:Bool),(mtc:Bool),(mrd:Bool),(mra:Bool),(mop:Int),(mrc:Int),(mq:List QQt),(man:List RRt),(mns:List RRt),(mar:List RRt),_⟩,(es:List (QQt×(Int×List RRt))),(od:List QQt),_⟩:=y''
 obtain⟨hc,rfl⟩:=Tr.get_on h
 show Q3 (fun st=>evC TQ (orcB [Zh,Ui,Zm,Vm,Xm] [Ql,Um]) (lpN TQ (orcB [Zh,Ui,Zm,Vm,Xm] [Ql,Um]) h34 0 q'') b34o 0 st (X1 [1,2,3,4,9,10,28,29] [2,3,4,9,10] 0)) (stOf [1,2,3,4,9,10,28,29] [.str z,.int .u64 now,.int .u32 most,.ptr 0 0,.mp 1,.rowA 2,AV.ofTy (.pair (.list RR) (.pair (.list RR) (.list RR))) arr true,.int .i64 si] [.box [.int .u16 mi,.bool mqr,.bool maa,.bool mtc,.bool mrd,.bool mra,.int .i64 mop,.int .i64 mrc,.list QQ mq,.list RR man,.list RR mns,.list RR mar],.mpb QQ .i64 RR es none,.row QQ od])=some (.exit 0,stOf [2,3,4,9,10] ([.int .u64 now,.int .u32 most,.ptr 0 0,.mp 1,.rowA 2]) ([.box [.int .u16 mi,.bool mqr,.bool maa,.bool mtc,.bool mrd,.bool mra,.int .i64 mop,.int .i64 mrc,.list QQ mq,.list RR man,.list RR mns,.list RR mar],.mpb QQ .i64 RR (cAll z arr).1 none,.row QQ (cAll z arr).2]))
 simp only[outC,okS3,Bool.and_eq_true,decide_eq_true_eq,List.isEmpty_iff] at hc
 obtain⟨rfl,⟨rfl,rfl⟩,⟨a1,a2⟩,⟨b1,b2⟩,c1,c2⟩:=hc
 have a2:=Nat.le_of_ble_eq_true a2
 have b2:=Nat.le_of_ble_eq_true b2
 have c2:=Nat.le_of_ble_eq_true c2
 have e0:BdE ([]:ES) 0:=fun e h=>by cases h
 obtain⟨e1,o1⟩:=Xq (z:=z) (sec:=1) arr.1 ([],[]) 0 e0 (Nat.le_refl _)
 obtain⟨e2,o2⟩:=Xq (z:=z) (sec:=2) arr.2.1 (cRun z 1 arr.1 ([],[])) _ e1 o1
 have up:∀ (es:ES) (B:Nat),BdE es B→B≤10000→BdE es 10000:=fun es B h hB e he=>Nat.le_trans (h e he) hB
 refine wf34o z now most arr mi mqr maa mtc mrd mra mop mrc mq man mns mar (fun si e o=>(si=0∧e=[]∧o=[])∨(si=1∧e=(cRun z 1 arr.1 ([],[])).1∧o=(cRun z 1 arr.1 ([],[])).2)∨(si=2∧e=(cRun z 2 arr.2.1 (cRun z 1 arr.1 ([],[]))).1∧o=(cRun z 2 arr.2.1 (cRun z 1 arr.1 ([],[]))).2)∨(si=3∧e=(cAll z arr).1∧o=(cAll z arr).2)) (fun si e o=>(3 - si).toNat) _ ?_ _ hq'' 0 [] [] (.inl ⟨rfl,rfl,rfl⟩)
 intro si e o h
 unfold r34o
 rw[IntWalk.i64_in (si+1) (by omega)]
 rcases h with ⟨rfl,rfl,rfl⟩ | ⟨rfl,rfl,rfl⟩ | ⟨rfl,rfl,rfl⟩ | ⟨rfl,rfl,rfl⟩
 ·exact Tr.all_t rfl (Tr.all_t rfl (Tr.all_t (V21 a1 rfl a2 (up _ _ e0 (by omega)) (by simp)) (Tr.all_ret (.inr ⟨_,_,_,rfl,.inr (.inl ⟨rfl,rfl,rfl⟩),by decide⟩))))
 ·exact Tr.all_t rfl (Tr.all_f rfl (Tr.all_t rfl (Tr.all_t (V21 b1 rfl b2 (up _ _ e1 (by omega)) (by omega)) (Tr.all_ret (.inr ⟨_,_,_,rfl,.inr (.inr (.inl ⟨rfl,rfl,rfl⟩)),by decide⟩)))))
 ·exact Tr.all_t rfl (Tr.all_f rfl (Tr.all_f rfl (Tr.all_t rfl (Tr.all_t (V21 c1 rfl c2 (up _ _ e2 (by omega)) (by omega)) (Tr.all_ret (.inr ⟨_,_,_,rfl,.inr (.inr (.inr ⟨rfl,rfl,rfl⟩)),by decide⟩))))))
 ·exact Tr.all_f rfl (Tr.all_ret (.inl rfl))
abbrev EN:Ty:=.pair QQ (.pair (.list RR) (.pair (.int .i64) (.pair (.int .i64) (.int .u64))))
abbrev ENt:=QQt×(List RRt×(Int×(Int×Int)))
def entV (now most:Int) (aa:Bool) (e:QQt×(Int×List RRt)):ENt:=(e.1,(Z0k e.2.2 (J8 e.2.2 most),(0,(U0s e.2.1 aa,Qp now (J8 e.2.2 most)))))
def entQ (now most:Int) (aa:Bool) (es:ES) (q:QQt):ENt:=entV now most aa (q,getB (keqD QQ) (0,[]) q es)
theorem J2g {q:QQt} {es:ES} (h:hasB (keqD QQ) q es=true):putB (keqD QQ) q (getB (keqD QQ) (0,[]) q es) es=es:=by
 obtain⟨n,e,h1,_,h3,h4⟩:=Uu h
 rw[h4]
 unfold getB
 rw[h3]
 obtain⟨hn,rfl⟩:=List.getElem?_eq_some_iff.1 h1
 exact List.set_getElem_self hn
def entB (most:Int) (e:Int×List RRt):Bool:=lrB e.2&&(secB e.1&&u32B (J8 e.2 most))
def enC (es:ES) (od:List QQt) (out:List ENt) (now most n i:Int):Bool:=decide (n=(od.length:Int))&&(decide (i=0)&&(Nat.ble od.length 100000&&(out.isEmpty&&(u64B now&&od.all fun q=>hasB (keqD QQ) q es&&entB most (getB (keqD QQ) (0,[]) q es)))))
noncomputable def b34e:Code:=Z7 c34 1
def U2x:LoopSpec:={ bid:=4,sh:=[.d (.int .u64) false,.d (.int .u32) false,.ptr 0 0,.mp 1,.row 2,.row 3,.d (.int .i64) false,.d (.int .i64) false],so:=[.box [.d (.int .u16) false,.d .bool false,.d .bool false,.d .bool false,.d .bool false,.d .bool false,.d (.int .i64) false,.d (.int .i64) false,.d (.list QQ) false,.d (.list RR) false,.d (.list RR) false,.d (.list RR) false],.mapb QQ .i64 RR,.row EN,.row QQ],F:=fun(now,most,n,i,_) ((mi,mqr,maa,mtc,mrd,mra,mop,mrc,mq,man,mns,mar,_),es,out,od,_)=>.on (enC es od out now most n i) (.exit 4,[.rowA 0],[.row EN (od.map (entQ now most maa es))]) }
def r34e (now most n i mi:Int) (mqr maa mtc mrd mra:Bool) (mop mrc:Int) (mq:List QQt) (man mns mar:List RRt) (es:List (QQt×(Int×List RRt))) (out:List ENt) (od:List QQt):Tr (St⊕(Ex×St)):=.br (decide (i < n)) (.br (decide (0≤i)) (.br (decide (i < (↑od.length:Int))) (.br (hasB (keqD QQ) (od.getD i.toNat (Ty.dflt QQ)) es) (.br (lrB (getB (keqD QQ) (0,[]) (od.getD i.toNat (Ty.dflt QQ)) es).2) (.br (lrB (getB (keqD QQ) (0,[]) (od.getD i.toNat (Ty.dflt QQ)) es).2) (.br (secB (getB (keqD QQ) (0,[]) (od.getD i.toNat (Ty.dflt QQ)) es).1) (.br (u64B now&&u32B (J8 (getB (keqD QQ) (0,[]) (od.getD i.toNat (Ty.dflt QQ)) es).2 most)) (.br (fits (List.length out+1) 72) (.ret (.inl (stOf [2,3,4,9,16,66,67,68] [.int .u64 now,.int .u32 most,.ptr 0 0,.mp 1,.rowA 2,.rowA 3,.int .i64 n,.int .i64 (IntKind.wrap .i64 (i+1))] [.boxT none [.int .u16 mi,.bool mqr,.bool maa,.bool mtc,.bool mrd,.bool mra,.int .i64 mop,.int .i64 mrc,.list QQ mq,.list RR man,.list RR mns,.list RR mar],LObj.mpb QQ IntKind.i64 RR (putB (keqD QQ) (od.getD i.toNat (Ty.dflt QQ)) (getB (keqD QQ) (0,[]) (od.getD i.toNat (Ty.dflt QQ)) es) es) none,.row EN (out++[(od.getD i.toNat (Ty.dflt QQ),Z0k (getB (keqD QQ) (0,[]) (od.getD i.toNat (Ty.dflt QQ)) es).2 (J8 (getB (keqD QQ) (0,[]) (od.getD i.toNat (Ty.dflt QQ)) es).2 most),0,U0s (getB (keqD QQ) (0,[]) (od.getD i.toNat (Ty.dflt QQ)) es).1 maa,Qp now (J8 (getB (keqD QQ) (0,[]) (od.getD i.toNat (Ty.dflt QQ)) es).2 most))]),.row QQ od]))) .no) .no) .no) .no) .no) .no) .no) .no) (.ret (.inr (.exit 4,stOf [16] [.rowA 0] [.row EN out])))
theorem X2u (lp:Lp) (now most n i mi:Int) (mqr maa mtc mrd mra:Bool) (mop mrc:Int) (mq:List QQt) (man mns mar:List RRt) (es:List (QQt×(Int×List RRt))) (out:List ENt) (od:List QQt):evC TQ (orcB [Zh,Ui,Zm,Vm,Xm] [Ql,Um]) lp b34e 4 (stOf [2,3,4,9,16,66,67,68] [.int .u64 now,.int .u32 most,.ptr 0 0,.mp 1,.rowA 2,.rowA 3,.int .i64 n,.int .i64 i] [.box [.int .u16 mi,.bool mqr,.bool maa,.bool mtc,.bool mrd,.bool mra,.int .i64 mop,.int .i64 mrc,.list QQ mq,.list RR man,.list RR mns,.list RR mar],.mpb QQ .i64 RR es none,.row EN out,.row QQ od]) (X1 [2,3,4,9,16,66,67,68] [16] 0)=(r34e now most n i mi mqr maa mtc mrd mra mop mrc mq man mns mar es out od).get:=by kernel_rfl
theorem wf34e (now most n mi:Int) (mqr maa mtc mrd mra:Bool) (mop mrc:Int) (mq:List QQt) (man mns mar:List RRt) (es:List (QQt×(Int×List RRt))) (od:List QQt) (I'':Int→List ENt→Prop) (m'':Int→List ENt→Nat) (r'':Ex×St) (h:∀ (i:Int) (out:List ENt),I'' i out→(r34e now most n i mi mqr maa mtc mrd mra mop mrc mq man mns mar es out od).all fun x''=>x''=.inr r''∨∃ (i':Int) (out':List ENt),x''=.inl (stOf [2,3,4,9,16,66,67,68] [.int .u64 now,.int .u32 most,.ptr 0 0,.mp 1,.rowA 2,.rowA 3,.int .i64 n,.int .i64 i'] [.box [.int .u16 mi,.bool mqr,.bool maa,.bool mtc,.bool mrd,.bool mra,.int .i64 mop,.int .i64 mrc,.list QQ mq,.list RR man,.list RR mns,.list RR mar],.mpb QQ .i64 RR es none,.row EN out',.row QQ od])∧I'' i' out'∧m'' i' out' < m'' i out) (lp:Lp) (i:Int) (out:List ENt):I'' i out→
    Q3 (fun st=>evC TQ (orcB [Zh,Ui,Zm,Vm,Xm] [Ql,Um]) lp b34e 4 st (X1 [2,3,4,9,16,66,67,68] [16] 0)) (stOf [2,3,4,9,16,66,67,68] [.int .u64 now,.int .u32 most,.ptr 0 0,.mp 1,.rowA 2,.rowA 3,.int .i64 n,.int .i64 i] [.box [.int .u16 mi,.bool mqr,.bool maa,.bool mtc,.bool mrd,.bool mra,.int .i64 mop,.int .i64 mrc,.list QQ mq,.list RR man,.list RR mns,.list RR mar],.mpb QQ .i64 RR es none,.row EN out,.row QQ od])=some r'':=
 V8 (fun a'':Int×List ENt=>stOf [2,3,4,9,16,66,67,68] [.int .u64 now,.int .u32 most,.ptr 0 0,.mp 1,.rowA 2,.rowA 3,.int .i64 n,.int .i64 a''.1] [.box [.int .u16 mi,.bool mqr,.bool maa,.bool mtc,.bool mrd,.bool mra,.int .i64 mop,.int .i64 mrc,.list QQ mq,.list RR man,.list RR mns,.list RR mar],.mpb QQ .i64 RR es none,.row EN a''.2,.row QQ od]) (fun a''=>I'' a''.1 a''.2) (fun a''=>m'' a''.1 a''.2) r'' (fun a''=>r34e now most n a''.1 mi mqr maa mtc mrd mra mop mrc mq man mns mar es a''.2 od)
  (fun a'' x hx=>(X2u lp now most n a''.1 mi mqr maa mtc mrd mra mop mrc mq man mns mar es a''.2 od).trans hx) (fun a'' ha=>Tr.all_mono (fun x'' hx=>hx.imp id fun⟨i',out',h1,h2,h3⟩=>⟨(i',out'),h1,h2,h3⟩) (h (a''.1) (a''.2) ha)) (i,out)
theorem V35:U2x.Ok TQ (orcB [Zh,Ui,Zm,Vm,Xm] [Ql,Um]) h34 0 0 b34e:=by
 intro q'' hq'' x'' y'' r'' h
 obtain⟨(now:Int),(most:Int),(n:Int),(i:Int),_⟩:=x''
 obtain⟨⟨(mi:Int),(mqr:Bool),(maa:Bool),(mtc:Bool),(mrd:Bool),(mra:Bool),(mop:Int),(mrc:Int),(mq:List QQt),(man:List RRt),(mns:List RRt),(mar:List RRt),_⟩,(es:List (QQt×(Int×List RRt))),(out:List ENt),(od:List QQt),_⟩:=y''
 obtain⟨hc,rfl⟩:=Tr.get_on h
 show Q3 (fun st=>evC TQ (orcB [Zh,Ui,Zm,Vm,Xm] [Ql,Um]) (lpN TQ (orcB [Zh,Ui,Zm,Vm,Xm] [Ql,Um]) h34 0 q'') b34e 4 st (X1 [2,3,4,9,16,66,67,68] [16] 0)) (stOf [2,3,4,9,16,66,67,68] [.int .u64 now,.int .u32 most,.ptr 0 0,.mp 1,.rowA 2,.rowA 3,.int .i64 n,.int .i64 i] [.box [.int .u16 mi,.bool mqr,.bool maa,.bool mtc,.bool mrd,.bool mra,.int .i64 mop,.int .i64 mrc,.list QQ mq,.list RR man,.list RR mns,.list RR mar],.mpb QQ .i64 RR es none,.row EN out,.row QQ od])=some (.exit 4,stOf [16] ([.rowA 0]) ([.row EN (od.map (entQ now most maa es))]))
 simp only[enC,Bool.and_eq_true,decide_eq_true_eq,List.isEmpty_iff] at hc
 obtain⟨rfl,rfl,hl,rfl,hn,hall⟩:=hc
 have hl:=Nat.le_of_ble_eq_true hl
 refine wf34e now most od.length mi mqr maa mtc mrd mra mop mrc mq man mns mar es od (fun j o=>0≤j∧j≤od.length∧o.length=j.toNat∧o++(od.drop j.toNat).map (entQ now most maa es)=od.map (entQ now most maa es)) (fun j o=>(od.length - j).toNat) _ ?_ _ 0 [] ⟨by omega,by omega,rfl,rfl⟩
 rintro j o ⟨h0,h1,g1,g2⟩
 unfold r34e
 rw[Q8 h0 h1 (by omega)]
 by_cases hj:j < od.length
 ·have hx:(od.getD j.toNat (Ty.dflt QQ))∈od:=by
   rw[List.getD_eq_getElem?_getD,List.getElem?_eq_getElem (by omega)]
   exact List.getElem_mem _
  obtain⟨c1,c2⟩:=Bool.and_eq_true_iff.1 (List.all_eq_true.1 hall _ hx)
  simp only[entB,Bool.and_eq_true] at c2
  obtain⟨d1,d2,d3⟩:=c2
  rw[Jb (l:=od) (k:=j.toNat) (by omega) (Ty.dflt QQ)] at g2
  generalize od.getD j.toNat (Ty.dflt QQ)=x at *
  rw[J2g c1]
  refine Tr.all_t (J0 hj) (Tr.all_t (J0 h0) (Tr.all_t (J0 hj) (Tr.all_t c1 (Tr.all_t d1 (Tr.all_t d1 (Tr.all_t d2 (Tr.all_t (by rw[hn,d3];rfl) (Tr.all_t (Vq (by omega) (by omega)) (Tr.all_ret (.inr ⟨_,_,rfl,⟨by omega,by omega,by rw[List.length_append,List.length_singleton];omega,?_⟩,by omega⟩))))))))))
  rw[show (j+1).toNat=j.toNat+1 by omega,List.append_assoc]
  exact g2
 ·refine Tr.all_f (V0 hj) (Tr.all_ret (.inl ?_))
  rw[List.drop_eq_nil_of_le (by omega)] at g2
  simp only[List.map_nil,List.append_nil] at g2
  rw[g2]
def t34 (m:MGt) (z:List UInt8) (now most:Int):Tr Res:=.br (outC z m.2.2.2.2.2.2.2.2.2 0 [] []) (.br (enC (cAll z m.2.2.2.2.2.2.2.2.2).1 (cAll z m.2.2.2.2.2.2.2.2.2).2 [] now most (↑(List.length (cAll z m.2.2.2.2.2.2.2.2.2).2):Int) 0) (.ret ([.list EN (List.map (entQ now most m.2.2.1 (cAll z m.2.2.2.2.2.2.2.2.2).1) (cAll z m.2.2.2.2.2.2.2.2.2).2)],[])) .no) .no
def os34:OSpec:={ f:=34,sh:=[.d MG true,.d .str false,.d (.int .u64) false,.d (.int .u32) false],so:=[],F:=fun(m,z,now,most,_) _=>t34 m z now most }
theorem fn34 (m:MGt) (z:List UInt8) (now most:Int):evC TQ (orcB [Zh,Ui,Zm,Vm,Xm] [Ql,Um]) (lpOf h34 0 (lsOf [X2x,U2x])) c34 1000000 (U1 [AV.ofTy MG m true,.str z,.int .u64 now,.int .u32 most] [] Try.f34.ntmps) (Q0 TQ false 0 Try.f34)=(t34 m z now most).get:=by kernel_rfl
theorem ok34:os34.Ok Try.prog:=by
 refine Q4 Q2 tabQ (U0 (all_cons Z1m (all_cons V22 (all_cons Z3n (all_cons V3k (all_cons Q3k Z0))))) (all_cons ok60w (all_cons ok62w Z0))) h34 (d:=1) (n0:=0) (S:=lsOf [X2x,U2x]) Try.func34 (by kernel_rfl) (c:=c34) (by kernel_rfl) rfl (Z8 (xs:=[(0,b34o),(4,b34e)]) (by kernel_rfl) (all_cons (J9 Z36) (all_cons (J2c (by kernel_rfl) (J9 (Z3a (by omega) V35))) Z0))) (by omega) (by kernel_rfl) ?_
 intro x'' y'' q'' hq''
 obtain⟨(m:MGt),(z:List UInt8),(now:Int),(most:Int),_⟩:=x''
 exact(fn34 m z now most).trans hq''
def fs34:FSpec:=fsT 34 [(MG,true),(.str,false),((.int .u64),false),((.int .u32),false)] [((.list EN),false)] fun(m,z,now,most,_)=>t34 m z now most
theorem X3g:fs34.Ok Try.prog:=V6 fun x'' r'' hr''=>ok34 x'' () r'' hr''
def t33:Tr Res:=.ret ([.bool (U2a (0,true,true,false,false,false,0,0,[],[([2,120,121,0],1,1,9,[49,50,51,52])],[],[]) (keyV ([2,120,121,0],1,1,9,[49,50,51,52])) ([0])==1)],[])
def os33:OSpec:={ f:=33,sh:=[],so:=[],F:=fun _ _=>t33 }
theorem fn33:evC T0 (orcB [fs34,U3g,Ui] []) (lpOf h33 0 (lsOf [])) c33 1000000 (U1 [] [] Try.f33.ntmps) (Q0 T0 false 0 Try.f33)=(t33).get:=by kernel_rfl
theorem ok33:os33.Ok Try.prog:=by
 refine Q4 Q2 tab0 (U0 (all_cons X3g (all_cons U3j (all_cons V22 Z0))) Z0) h33 (d:=0) (n0:=0) (S:=lsOf []) Try.func33 (by kernel_rfl) (c:=c33) (by kernel_rfl) rfl (U3 (by kernel_rfl)) (by omega) (by kernel_rfl) ?_
 intro x'' y'' q'' hq''
 exact(fn33).trans hq''
def fs33:FSpec:=fsT 33 [] [(.bool,false)] fun _=>t33
theorem okf33:fs33.Ok Try.prog:=V6 fun x'' r'' hr''=>ok33 x'' () r'' hr''
theorem X36:t33=.ret ([.bool true],[]):=by kernel_rfl
def Z12:FSpec:=fs33.like fun _=>.ret (true,())
theorem U3o:Z12.Ok Try.prog:=by
 refine J4 okf33 _ ?_
 intro x y h
 cases h
 refine X3 (vs:=[.bool true]) rfl rfl (Tr.get_of_all ?_)
 show t33.all _
 rw[X36]
 exact Tr.all_ret rfl
theorem U32 {rs:List RRt} (h:Ux rs=true):∀ r∈rs,r.1.length≤300∧r.2.2.2.2.length≤300:=fun r hr=>by
 have:=List.all_eq_true.1 h r hr
 simpa only[Bool.and_eq_true,decide_eq_true_eq] using this
theorem V1m {m:MGt} (h:fewM m=true):((mAn m).length≤20∧(mNs m).length≤20∧(mAr m).length≤20)∧∀ r,r∈mAn m∨r∈mNs m∨r∈mAr m→r.1.length≤300∧r.2.2.2.2.length≤300:=by
 simp only[fewM,Bool.and_eq_true,decide_eq_true_eq] at h
 obtain⟨_,h1,h2,h3,h4,_⟩:=h
 refine⟨⟨h1,h2,h3⟩,fun r hr=>U32 h4 r ?_⟩
 simp only[List.mem_append]
 rcases hr with hr | hr | hr
 ·exact .inl (.inl hr)
 ·exact .inl (.inr hr)
 ·exact .inr hr
theorem Q3o {l:List RRt} (hl:l.length≤1000000) (h:∀ r∈l,r.1.length≤300∧r.2.2.2.2.length≤300):okL l=true:=by
 unfold okL lrB
 rw[Nat.ble_eq_true_of_le hl,List.all_eq_true.2 fun r hr=>J0v.2 ⟨by have:=(h r hr).1;omega,by have:=(h r hr).2;omega⟩]
 rfl
theorem Z1a {n:List UInt8} (h:n.length≤300):smN n=true:=X0v.2 (by omega)
theorem Q3r {l:List RRt} {z n:List UInt8} (h:okL l=true) (hz:z.length≤300) (hn:n.length≤300):okF l z n=true:=by
 unfold okF
 rw[h,Z1a hz,Z1a hn]
 rfl
theorem X2s {z:List UInt8} {r:RRt} (h:inV z r=true):r.2.2.1=1∧undV r.1 z=true∧recV r=true:=by
 simp only[inV,Bool.and_eq_true,beq_iff_eq] at h
 exact h
theorem V2f {t m:Int} (h0:0≤t) (hm:0≤m):0≤Xv t m∧Xv t m≤m:=by
 unfold Xv
 split
 ·omega
 ·split<;>omega
def seC (al bl:List RRt) (i:Int):Bool:=decide (al=bl)&&(lrB al&&decide (i=0))
noncomputable def b37:Code:=Z7 c37 0
def ls37:LoopSpec:={ bid:=0,sh:=[.ptr 0 0,.ptr 1 0,.d (.int .i64) false],so:=[.box [.d .str false,.d (.int .u16) false,.d (.int .u16) false,.d (.list RR) false,.d (.int .i64) false,.d (.int .i64) false,.d (.int .u64) false],.box [.d .str false,.d (.int .u16) false,.d (.int .u16) false,.d (.list RR) false,.d (.int .i64) false,.d (.int .i64) false,.d (.int .u64) false]],F:=fun(i,_) ((an,at_,ac,al,ao,ak,ae,_),(bn,bt,bc,bl,bo,bk,be,_),_)=>.on (seC al bl i) (.exit 0,[.dead],[]) }
def r37 (i:Int) (an:List UInt8) (at_ ac:Int) (al:List RRt) (ao ak ae:Int) (bn:List UInt8) (bt bc:Int) (bl:List RRt) (bo bk be:Int):Tr (St⊕(Ex×St)):=.br (decide (i < (↑al.length:Int))) (.br (decide (0≤i)) (.br (decide (i < (↑al.length:Int))) (.br (decide (0≤i)) (.br (decide (i < (↑bl.length:Int))) (.br (!((al.getD i.toNat (Ty.dflt RR)).1==(bl.getD i.toNat (Ty.dflt RR)).1&&((al.getD i.toNat (Ty.dflt RR)).2.1==(bl.getD i.toNat (Ty.dflt RR)).2.1&&((al.getD i.toNat (Ty.dflt RR)).2.2.1==(bl.getD i.toNat (Ty.dflt RR)).2.2.1&&((al.getD i.toNat (Ty.dflt RR)).2.2.2.1==(bl.getD i.toNat (Ty.dflt RR)).2.2.2.1&&((al.getD i.toNat (Ty.dflt RR)).2.2.2.2==(bl.getD i.toNat (Ty.dflt RR)).2.2.2.2&&true)))))) (.ret (.inr (.ret,stOf [4] [.bool false] []))) (.ret (.inl (stOf [2,3,5] [.ptr 0 0,.ptr 1 0,.int .i64 (IntKind.wrap .i64 (i+1))] [.boxT none [.str an,.int .u16 at_,.int .u16 ac,.list RR al,.int .i64 ao,.int .i64 ak,.int .u64 ae],.boxT none [.str bn,.int .u16 bt,.int .u16 bc,.list RR bl,.int .i64 bo,.int .i64 bk,.int .u64 be]])))) .no) .no) .no) .no) (.ret (.inr (.exit 0,stOf [4] [.dead] [])))
theorem Q38 (lp:Lp) (i:Int) (an:List UInt8) (at_ ac:Int) (al:List RRt) (ao ak ae:Int) (bn:List UInt8) (bt bc:Int) (bl:List RRt) (bo bk be:Int):evC T0 (orcB [] []) lp b37 0 (stOf [2,3,5] [.ptr 0 0,.ptr 1 0,.int .i64 i] [.box [.str an,.int .u16 at_,.int .u16 ac,.list RR al,.int .i64 ao,.int .i64 ak,.int .u64 ae],.box [.str bn,.int .u16 bt,.int .u16 bc,.list RR bl,.int .i64 bo,.int .i64 bk,.int .u64 be]]) (X1 [2,3,5] [4] 0)=(r37 i an at_ ac al ao ak ae bn bt bc bl bo bk be).get:=by kernel_rfl
theorem wf37 (an:List UInt8) (at_ ac:Int) (al:List RRt) (ao ak ae:Int) (bn:List UInt8) (bt bc:Int) (bl:List RRt) (bo bk be:Int) (I'':Int→Prop) (m'':Int→Nat) (r'':Ex×St) (h:∀ (i:Int),I'' i→(r37 i an at_ ac al ao ak ae bn bt bc bl bo bk be).all fun x''=>x''=.inr r''∨∃ (i':Int),x''=.inl (stOf [2,3,5] [.ptr 0 0,.ptr 1 0,.int .i64 i'] [.box [.str an,.int .u16 at_,.int .u16 ac,.list RR al,.int .i64 ao,.int .i64 ak,.int .u64 ae],.box [.str bn,.int .u16 bt,.int .u16 bc,.list RR bl,.int .i64 bo,.int .i64 bk,.int .u64 be]])∧I'' i'∧m'' i' < m'' i) (lp:Lp) (i:Int):I'' i→
    Q3 (fun st=>evC T0 (orcB [] []) lp b37 0 st (X1 [2,3,5] [4] 0)) (stOf [2,3,5] [.ptr 0 0,.ptr 1 0,.int .i64 i] [.box [.str an,.int .u16 at_,.int .u16 ac,.list RR al,.int .i64 ao,.int .i64 ak,.int .u64 ae],.box [.str bn,.int .u16 bt,.int .u16 bc,.list RR bl,.int .i64 bo,.int .i64 bk,.int .u64 be]])=some r'':=
 V8 (fun a'':Int=>stOf [2,3,5] [.ptr 0 0,.ptr 1 0,.int .i64 a''] [.box [.str an,.int .u16 at_,.int .u16 ac,.list RR al,.int .i64 ao,.int .i64 ak,.int .u64 ae],.box [.str bn,.int .u16 bt,.int .u16 bc,.list RR bl,.int .i64 bo,.int .i64 bk,.int .u64 be]]) (fun a''=>I'' a'') (fun a''=>m'' a'') r'' (fun a''=>r37 a'' an at_ ac al ao ak ae bn bt bc bl bo bk be)
  (fun a'' x hx=>(Q38 lp a'' an at_ ac al ao ak ae bn bt bc bl bo bk be).trans hx) (fun a'' ha=>Tr.all_mono (fun x'' hx=>hx.imp id fun⟨i',h1,h2,h3⟩=>⟨(i'),h1,h2,h3⟩) (h (a'') ha)) (i)
theorem U3r:ls37.Ok T0 (orcB [] []) h37 0 0 b37:=by
 intro q'' hq'' x'' y'' r'' h
 obtain⟨(i:Int),_⟩:=x''
 obtain⟨⟨(an:List UInt8),(at_:Int),(ac:Int),(al:List RRt),(ao:Int),(ak:Int),(ae:Int),_⟩,⟨(bn:List UInt8),(bt:Int),(bc:Int),(bl:List RRt),(bo:Int),(bk:Int),(be:Int),_⟩,_⟩:=y''
 obtain⟨hc,rfl⟩:=Tr.get_on h
 show Q3 (fun st=>evC T0 (orcB [] []) (lpN T0 (orcB [] []) h37 0 q'') b37 0 st (X1 [2,3,5] [4] 0)) (stOf [2,3,5] [.ptr 0 0,.ptr 1 0,.int .i64 i] [.box [.str an,.int .u16 at_,.int .u16 ac,.list RR al,.int .i64 ao,.int .i64 ak,.int .u64 ae],.box [.str bn,.int .u16 bt,.int .u16 bc,.list RR bl,.int .i64 bo,.int .i64 bk,.int .u64 be]])=some (.exit 0,stOf [4] ([.dead]) ([]))
 simp only[seC,Bool.and_eq_true,decide_eq_true_eq] at hc
 obtain⟨rfl,hl,rfl⟩:=hc
 have hl:=Nat.le_of_ble_eq_true hl
 refine wf37 an at_ ac al ao ak ae bn bt bc al bo bk be (fun i=>0≤i∧i≤al.length) (fun i=>(al.length - i).toNat) _ ?_ _ 0 ⟨by omega,by omega⟩
 rintro i ⟨h0,h1⟩
 unfold r37
 rw[Q8 h0 h1 (by omega)]
 by_cases hi:i < al.length
 ·exact Tr.all_t (J0 hi) (Tr.all_t (J0 h0) (Tr.all_t (J0 hi) (Tr.all_t (J0 h0) (Tr.all_t (J0 hi) (Tr.all_f (by simp) (Tr.all_ret (.inr ⟨_,rfl,⟨by omega,by omega⟩,by omega⟩)))))))
 ·exact Tr.all_f (V0 hi) (Tr.all_ret (.inl rfl))
def t37 (a b:ENt):Tr Res:=.br ((↑a.2.1.length:Int) != (↑b.2.1.length:Int)) (.ret ([.bool false],[])) (.br (!(a.1.1==b.1.1&&(a.1.2.1==b.1.2.1&&(a.1.2.2==b.1.2.2&&true)))) (.ret ([.bool false],[])) (.br (a.2.2.1 != b.2.2.1) (.ret ([.bool false],[])) (.br (a.2.2.2.1 != b.2.2.2.1) (.ret ([.bool false],[])) (.br (a.2.2.2.2 != b.2.2.2.2) (.ret ([.bool false],[])) (.br (seC a.2.1 b.2.1 0) (.ret ([.bool true],[])) .no)))))
def os37:OSpec:={ f:=37,sh:=[.d EN true,.d EN true],so:=[],F:=fun(a,b,_) _=>t37 a b }
theorem fn37 (a b:ENt):evC T0 (orcB [] []) (lpOf h37 0 (lsOf [ls37])) c37 1000000 (U1 [AV.ofTy EN a true,AV.ofTy EN b true] [] Try.f37.ntmps) (Q0 T0 false 0 Try.f37)=(t37 a b).get:=by kernel_rfl
theorem ok37:os37.Ok Try.prog:=by
 refine Q4 Q2 tab0 (U0 Z0 Z0) h37 (d:=0) (n0:=0) (S:=lsOf [ls37]) Try.func37 (by kernel_rfl) (c:=c37) (by kernel_rfl) rfl (Z8 (xs:=[(0,b37)]) (by kernel_rfl) (all_cons (J9 U3r) Z0)) (by omega) (by kernel_rfl) ?_
 intro x'' y'' q'' hq''
 obtain⟨(a:ENt),(b:ENt),_⟩:=x''
 exact(fn37 a b).trans hq''
def fs37:FSpec:=fsT 37 [(EN,true),(EN,true)] [(.bool,false)] fun(a,b,_)=>t37 a b
theorem okf37:fs37.Ok Try.prog:=V6 fun x'' r'' hr''=>ok37 x'' () r'' hr''
instance decQ2:DecidableEq (Int×Int):=inferInstance
instance decE3:DecidableEq (Int×(Int×Int)):=inferInstance
instance decE4:DecidableEq (List RRt×(Int×(Int×Int))):=inferInstance
instance decQQ':DecidableEq QQt:=inferInstanceAs (DecidableEq QQt)
instance decEN:DecidableEq ENt:=inferInstanceAs (DecidableEq ENt)
def Z14:FSpec:=fs37.like fun(a,b,_)=>.on (decide (a=b)&&lrB a.2.1) (true,())
theorem J3k:Z14.Ok Try.prog:=by
 refine J4 okf37 _ ?_
 rintro⟨(a:ENt),(b:ENt),_⟩ y h
 obtain⟨hb,rfl⟩:=Tr.get_on h
 obtain⟨h1,h2⟩:=Bool.and_eq_true_iff.1 (show (decide (a=b)&&lrB a.2.1)=true from hb)
 obtain rfl:a=b:=of_decide_eq_true h1
 refine X3 (vs:=[.bool true]) rfl rfl (Tr.get_of_all ?_)
 show (t37 a a).all _
 unfold t37
 exact Tr.all_f (by simp) (Tr.all_f (by simp) (Tr.all_f (by simp) (Tr.all_f (by simp) (Tr.all_f (by simp) (Tr.all_t (by unfold seC;rw[h2];simp) (Tr.all_ret rfl))))))
theorem Z1u {n:Int} (h:okT (.int .u32) n):u32B n=true:=by
 have hr:0≤n∧n≤4294967295:=by simpa[okT,Lit.wf,IntKind.min,IntKind.max,IntKind.signed,IntKind.bits] using h
 unfold u32B
 rw[J0 hr.1,J0 (show n < 4294967296 by omega)]
 rfl
theorem U2w {n:Int} (h:okT (.int .u64) n):u64B n=true:=by
 have hr:0≤n∧n≤18446744073709551615:=by simpa[okT,Lit.wf,IntKind.min,IntKind.max,IntKind.signed,IntKind.bits] using h
 unfold u64B
 rw[J0 hr.1,J0 (show n < 18446744073709551616 by omega)]
 rfl
def okU (l:List RRt):Bool:=l.all fun r=>u32B r.2.2.2.1
theorem J1j {l:List RRt} (h:okT (.list RR) l):okU l=true:=List.all_eq_true.2 fun r hr=>Z1u (h.2 r hr).2.2.2.1
def okUM (m:MGt):Bool:=okU (mAn m)&&(okU (mNs m)&&okU (mAr m))
theorem U2q {m:MGt} (h:okT MG m):okUM m=true:=by
 unfold okUM
 rw[show okU (mAn m)=true from J1j h.2.2.2.2.2.2.2.2.2.1,show okU (mNs m)=true from J1j h.2.2.2.2.2.2.2.2.2.2.1,show okU (mAr m)=true from J1j h.2.2.2.2.2.2.2.2.2.2.2]
 rfl
theorem X2k {now t most:Int} (hn:u64B now=true) (h0:0≤t) (h1:t≤most) (h2:most < 4294967296):Qp now t≥now∧Qp now t - now≤t∧0≤Qp now t - now∧Qp now t < 18446744073709551616:=by
 simp only[u64B,Bool.and_eq_true,decide_eq_true_eq] at hn
 unfold Qp
 split<;>omega
def GdS (z:List UInt8) (q:QQt) (s:Int×List RRt):Prop:=secB s.1=true∧s.2≠[]∧∀ r∈s.2,inV z r=true∧keyV r=q∧u32B r.2.2.2.1=true
def GdE (z:List UInt8) (a:ES×List QQt):Prop:=a.2=a.1.map (·.1)∧(a.1.map (·.1)).Nodup∧∀ e∈a.1,GdS z e.1 e.2
theorem U3n {α:Type} {l:List α} {n:Nat} {x:α} (h:l[n]?=some x):l.set n x=l:=by
 obtain⟨hn,rfl⟩:=List.getElem?_eq_some_iff.1 h
 exact List.set_getElem_self hn
theorem Q2p {α:Type} {l:List α} (h:l.Nodup) {i j:Nat} {x:α} (hi:l[i]?=some x) (hj:l[j]?=some x):i=j:=by
 obtain⟨a1,a2⟩:=List.getElem?_eq_some_iff.1 hi
 obtain⟨b1,b2⟩:=List.getElem?_eq_some_iff.1 hj
 have hp:=List.pairwise_iff_getElem.1 h
 rcases Nat.lt_trichotomy i j with hlt | rfl | hlt
 ·exact absurd (a2.trans b2.symm) (hp i j a1 b1 hlt)
 ·rfl
 ·exact absurd (b2.trans a2.symm) (hp j i b1 a1 hlt)
theorem J3m {es:ES} {q:QQt} (h:hasB (keqD QQ) q es=false):q ∉ es.map (·.1):=fun hm=>by
 obtain⟨e,he,hq⟩:=List.mem_map.1 hm
 obtain⟨n,hn⟩:=List.mem_iff_getElem?.1 he
 have:=(J0i h).1 n e hn
 rw[hq,keqQ] at this
 cases this
theorem J30 {z:List UInt8} {sec:Int} {a:ES×List QQt} {r:RRt} (hs:secB sec=true) (hr:u32B r.2.2.2.1=true) (h:GdE z a):GdE z (Qj z sec a r):=by
 obtain⟨es,od⟩:=a
 obtain⟨h1,h2,h3⟩:=h
 simp only at h1 h2 h3
 unfold Qj
 cases hi:inV z r with
 | false=>exact⟨h1,h2,h3⟩
 | true=>
   simp only[cond_true]
   cases hb:hasB (keqD QQ) (keyV r) es with
   | true=>
     simp only[cond_true]
     obtain⟨n,e,e1,e2,e3,e4⟩:=Uu hb
     have hk:=Vl e2
     have hn:n < es.length:=(List.getElem?_eq_some_iff.1 e1).1
     have hee:=(List.getElem?_eq_some_iff.1 e1).2
     have hg:getB (keqD QQ) (0,[]) (keyV r) es=e.2:=by unfold getB;rw[e3];rfl
     rw[hg,e4]
     have hmap:(es.set n (e.1,(Jk e.2.1 sec,Xj e.2.1 sec r e.2.2))).map (·.1)=es.map (·.1):=by
      rw[List.map_set]
      exact U3n (by simp[e1])
     refine⟨by show od=_;rw[hmap];exact h1,by show (List.map _ _).Nodup;rw[hmap];exact h2,fun e' he'=>?_⟩
     rcases List.mem_or_eq_of_mem_set he' with he' | rfl
     ·exact h3 e' he'
     ·obtain⟨g1,g2,g3⟩:=h3 e (List.mem_of_getElem? e1)
      have hs0:Jk e.2.1 sec=e.2.1:=by
       unfold Jk
       have:(e.2.1==0)=false:=by
        simp only[secB,Bool.and_eq_true,decide_eq_true_eq] at g1
        exact beq_eq_false_iff_ne.2 (by omega)
       rw[this]
       rfl
      refine⟨by show secB (Jk e.2.1 sec)=true;rw[hs0];exact g1,?_,fun x hx=>?_⟩
      ·show Xj e.2.1 sec r e.2.2≠[]
       unfold Xj
       cases (Jk e.2.1 sec==sec&&!e.2.2.any fun o=>sayV o r)<;>simp[g2]
      ·have hx:x∈Xj e.2.1 sec r e.2.2:=hx
       unfold Xj at hx
       cases hc:(Jk e.2.1 sec==sec&&!e.2.2.any fun o=>sayV o r) with
       | false=>rw[hc] at hx;exact g3 x hx
       | true=>
         rw[hc] at hx
         rcases List.mem_append.1 hx with hx | hx
         ·exact g3 x hx
         ·simp at hx;subst hx;exact⟨hi,hk,hr⟩
   | false=>
     simp only[cond_false]
     refine⟨by show od++[keyV r]=_;rw[h1];simp,?_,fun e' he'=>?_⟩
     ·show (List.map _ _).Nodup
      rw[List.map_append]
      have:=J3m hb
      simp only[List.map_cons,List.map_nil]
      rw[List.nodup_append]
      exact⟨h2,by simp,fun x hx y hy=>by simp at hy;subst hy;rintro rfl;exact this hx⟩
     ·rcases List.mem_append.1 he' with he' | he'
      ·exact h3 e' he'
      ·simp at he'
       subst he'
       exact⟨hs,by simp,fun x hx=>by simp at hx;subst hx;exact⟨hi,rfl,hr⟩⟩
theorem J0u {z:List UInt8} {sec:Int} (hs:secB sec=true):∀ (l:List RRt) (a:ES×List QQt),okU l=true→GdE z a→GdE z (cRun z sec l a)
 | [],a,_,h=>h
 | r::l,a,hl,h=>by
   simp only[okU,List.all_cons,Bool.and_eq_true] at hl
   exact J0u hs l (Qj z sec a r) hl.2 (J30 hs hl.1 h)
theorem Z3m (z:List UInt8):GdE z ([],[]):=⟨rfl,List.nodup_nil,fun e he=>by cases he⟩
theorem Z39 {z:List UInt8} {arr:List RRt×(List RRt×List RRt)} (h1:okU arr.1=true) (h2:okU arr.2.1=true) (h3:okU arr.2.2=true):GdE z (cAll z arr):=
 J0u rfl _ _ h3 (J0u rfl _ _ h2 (J0u rfl _ _ h1 (Z3m z)))
theorem V2d {es:ES} (hn:(es.map (·.1)).Nodup) {e:QQt×(Int×List RRt)} (he:e∈es):hasB (keqD QQ) e.1 es=true∧getB (keqD QQ) (0,[]) e.1 es=e.2:=by
 obtain⟨n,h1⟩:=List.mem_iff_getElem?.1 he
 have hb:=U0x (eq:=keqD QQ) h1 (keqQ e.1)
 refine⟨hb,?_⟩
 obtain⟨n2,e2,g1,g2,g3,_⟩:=Uu hb
 have hk:=Vl g2
 have:n=n2:=Q2p hn (x:=e.1) (by simp[h1]) (by simp[g1,hk])
 subst this
 rw[h1] at g1
 cases g1
 unfold getB
 rw[g3]
 rfl
theorem V2n:∀ (l:List Int),l≠[]→minL l∈l
 | [],h=>absurd rfl h
 | x::xs,_=>by
   have key:∀ (xs:List Int) (x:Int),xs.foldl minI x=x∨xs.foldl minI x∈xs:=by
    intro xs
    induction xs with
    | nil=>intro x;exact .inl rfl
    | cons y ys ih=>
      intro x
      rw[List.foldl_cons]
      rcases ih (minI x y) with h | h
      ·rw[h]
       unfold minI
       split
       ·exact .inr (by simp)
       ·exact .inl rfl
      ·exact .inr (List.mem_cons_of_mem _ h)
   show xs.foldl minI x∈x::xs
   rcases key xs x with h | h
   ·rw[h];simp
   ·exact List.mem_cons_of_mem _ h
theorem V11 {l:List RRt} {most:Int} (hl:l≠[]) (h:∀ r∈l,u32B r.2.2.2.1=true) (hm:0≤most):0≤J8 l most∧J8 l most≤most:=by
 have hne:(l.map fun x=>Xv x.2.2.2.1 most)≠[]:=by simpa using hl
 obtain⟨r,hr,he⟩:=List.mem_map.1 (V2n _ hne)
 unfold J8
 rw[←he]
 exact V2f (of_decide_eq_true (Bool.and_eq_true_iff.1 (h r hr)).1) hm
def okS (m:MGt) (z:List UInt8) (now most:Int):Bool:=(okS3 z (mAn m)&&(okS3 z (mNs m)&&okS3 z (mAr m)))&&(okUM m&&(u64B now&&u32B most))
def mArr (m:MGt):List RRt×(List RRt×List RRt):=(mAn m,(mNs m,mAr m))
def Qe (m:MGt) (z:List UInt8) (now most:Int):List ENt:=(cAll z (mArr m)).1.map (entV now most m.2.2.1)
def X0x:FSpec:=fs34.like fun(m,z,now,most,_)=>.on (okS m z now most) (Qe m z now most,())
theorem X34 {m:MGt} {z:List UInt8} {now most:Int} (h:okS m z now most=true):GdE z (cAll z (mArr m)):=by
 simp only[okS,okUM,Bool.and_eq_true] at h
 exact Z39 h.2.1.1 h.2.1.2.1 h.2.1.2.2
theorem Z3q:X0x.Ok Try.prog:=by
 refine J4 X3g _ ?_
 rintro⟨(m:MGt),(z:List UInt8),(now:Int),(most:Int),_⟩ y h
 obtain⟨hb,rfl⟩:=Tr.get_on h
 have hb:okS m z now most=true:=hb
 obtain⟨g1,g2,g3⟩:=X34 hb
 simp only[okS,Bool.and_eq_true] at hb
 obtain⟨⟨h1,h2,h3⟩,hu,hn,hm⟩:=hb
 have hm':=hm
 simp only[u32B,Bool.and_eq_true,decide_eq_true_eq] at hm'
 refine X3 (vs:=[.list EN (Qe m z now most)]) rfl rfl (Tr.get_of_all ?_)
 show (t34 m z now most).all _
 unfold t34
 have hl:=fun(l:List RRt) (h:okS3 z l=true)=>Nat.le_of_ble_eq_true (Bool.and_eq_true_iff.1 h).2
 have l1:=hl _ h1
 have l2:=hl _ h2
 have l3:=hl _ h3
 have e0:BdE ([]:ES) 0:=fun e h=>by cases h
 obtain⟨e1,o1⟩:=Xq (z:=z) (sec:=1) (mAn m) ([],[]) 0 e0 (Nat.le_refl _)
 obtain⟨e2,o2⟩:=Xq (z:=z) (sec:=2) (mNs m) (cRun z 1 (mAn m) ([],[])) _ e1 o1
 obtain⟨e3,o3⟩:=Xq (z:=z) (sec:=3) (mAr m) (cRun z 2 (mNs m) (cRun z 1 (mAn m) ([],[]))) _ e2 o2
 have e3:BdE (cAll z (mArr m)).1 (0+(mAn m).length+(mNs m).length+(mAr m).length):=e3
 have o3:(cAll z (mArr m)).2.length≤0+(mAn m).length+(mNs m).length+(mAr m).length:=o3
 refine Tr.all_t ?_ (Tr.all_t ?_ (Tr.all_ret ?_))
 ·show outC z (mArr m) 0 [] []=true
  unfold outC
  show (_&&(_&&(okS3 z (mAn m)&&(okS3 z (mNs m)&&okS3 z (mAr m)))))=true
  rw[h1,h2,h3]
  rfl
 ·show enC (cAll z (mArr m)).1 (cAll z (mArr m)).2 [] now most ((cAll z (mArr m)).2.length:Int) 0=true
  generalize cAll z (mArr m)=a at *
  unfold enC
  rw[J0 rfl,J0 rfl,Nat.ble_eq_true_of_le (by omega),hn]
  simp only[Bool.true_and,List.isEmpty_nil]
  refine List.all_eq_true.2 fun q hq=>?_
  rw[g1] at hq
  obtain⟨e,he,rfl⟩:=List.mem_map.1 hq
  obtain⟨k1,k2⟩:=V2d g2 he
  obtain⟨d1,d2,d3⟩:=g3 e he
  obtain⟨m1,m2⟩:=V11 d2 (fun r hr=>(d3 r hr).2.2) hm'.1
  have hle:=e3 e he
  rw[k1,k2]
  unfold entB lrB u32B
  rw[Nat.ble_eq_true_of_le (by omega),d1,J0 m1,J0 (show J8 e.2.2 most < 4294967296 by omega)]
  rfl
 ·show ([AV.list EN ((cAll z (mArr m)).2.map (entQ now most m.2.2.1 (cAll z (mArr m)).1))],[])=([AV.list EN (Qe m z now most)],[])
  unfold Qe
  generalize cAll z (mArr m)=a at *
  rw[g1,List.map_map]
  congr 2
  congr 1
  refine List.map_congr_left fun e he=>?_
  show entV now most m.2.2.1 (e.1,getB (keqD QQ) (0,[]) e.1 a.1)=entV now most m.2.2.1 e
  rw[(V2d g2 he).2]
def tlE (e:ENt):Int:=(e.2.1.getD 0 (Ty.dflt RR)).2.2.2.1
def gdR (q:QQt) (t:Int) (r:RRt):Bool:=decide (r.2.2.2.1=t)&&(decide (keyV r=q)&&(recV r&&okR r))
def gdN (z:List UInt8) (now most:Int) (e:ENt):Bool:=undV e.1.1 z&&(smN e.1.1&&(!e.2.1.isEmpty&&(lrB e.2.1&&(decide (1≤e.2.2.2.1)&&(decide (e.2.2.2.1≤5)&&(decide (0≤tlE e)&&(decide (tlE e≤most)&&(decide (now≤e.2.2.2.2)&&(decide (e.2.2.2.2 - now≤tlE e)&&e.2.1.all (gdR e.1 (tlE e)))))))))))
def bwG (z:List UInt8) (now most:Int) (l:List ENt):Bool:=smN z&&(u64B now&&(u32B most&&(Nat.ble l.length 100000&&(l.all (gdN z now most)&&decide ((l.map (·.1)).Nodup)))))
theorem Q3b {α:Type} {l:List α} {i:Int} (d:α) (h0:0≤i) (h1:i < l.length):l.getD i.toNat d∈l:=by
 rw[List.getD_eq_getElem?_getD,List.getElem?_eq_getElem (by omega)]
 exact List.getElem_mem _
theorem keyT (x:RRt) (t:Int):keyV (setT x t)=keyV x:=rfl
theorem recT (x:RRt) (t:Int):recV (setT x t)=recV x:=rfl
theorem okRT (x:RRt) (t:Int):okR (setT x t)=okR x:=rfl
theorem Q09 {z:List UInt8} {l:List RRt} (hl:l.length≤20) (h:∀ r∈l,r.1.length≤300∧r.2.2.2.2.length≤300) (hz:z.length≤300):okS3 z l=true:=by
 unfold okS3
 rw[Q3r (Q3o (by omega) h) hz (by simp),Nat.ble_eq_true_of_le (by omega)]
 rfl
theorem V2r {m:MGt} {z:List UInt8} {now most:Int} (hf:fewM m=true) (hz:z.length≤300) (hm:okUM m=true) (hn:u64B now=true) (ho:u32B most=true):okS m z now most=true:=by
 obtain⟨⟨h1,h2,h3⟩,h4⟩:=V1m hf
 unfold okS
 rw[Q09 h1 (fun r hr=>h4 r (.inl hr)) hz,Q09 h2 (fun r hr=>h4 r (.inr (.inl hr))) hz,Q09 h3 (fun r hr=>h4 r (.inr (.inr hr))) hz,hm,hn,ho]
 rfl
theorem J26 {z:List UInt8} {sec:Int} {a:ES×List QQt} {r:RRt} {P:RRt→Prop} (hr:P r) (h:∀ e∈a.1,∀ x∈e.2.2,P x):∀ e∈(Qj z sec a r).1,∀ x∈e.2.2,P x:=by
 unfold Qj
 cases inV z r with
 | false=>exact h
 | true=>
   simp only[cond_true]
   cases hb:hasB (keqD QQ) (keyV r) a.1 with
   | true=>
     simp only[cond_true]
     obtain⟨n,e,e1,_,e3,e4⟩:=Uu hb
     have hg:getB (keqD QQ) (0,[]) (keyV r) a.1=e.2:=by unfold getB;rw[e3];rfl
     rw[hg,e4]
     intro e' he' x hx
     rcases List.mem_or_eq_of_mem_set he' with he' | rfl
     ·exact h e' he' x hx
     ·have hx:x∈Xj e.2.1 sec r e.2.2:=hx
      unfold Xj at hx
      cases hc:(Jk e.2.1 sec==sec&&!e.2.2.any fun o=>sayV o r) with
      | false=>rw[hc] at hx;exact h e (List.mem_of_getElem? e1) x hx
      | true=>
        rw[hc] at hx
        rcases List.mem_append.1 hx with hx | hx
        ·exact h e (List.mem_of_getElem? e1) x hx
        ·simp at hx;subst hx;exact hr
   | false=>
     simp only[cond_false]
     intro e' he' x hx
     rcases List.mem_append.1 he' with he' | he'
     ·exact h e' he' x hx
     ·simp at he'
      subst he'
      simp at hx
      subst hx
      exact hr
theorem Z0a {z:List UInt8} {sec:Int} {P:RRt→Prop}:∀ (l:List RRt) (a:ES×List QQt),(∀ r∈l,P r)→(∀ e∈a.1,∀ x∈e.2.2,P x)→∀ e∈(cRun z sec l a).1,∀ x∈e.2.2,P x
 | [],a,_,h=>h
 | r::l,a,hl,h=>Z0a l (Qj z sec a r) (fun x hx=>hl x (by simp[hx])) (J26 (hl r (by simp)) h)
theorem Q2d {z:List UInt8} {arr:List RRt×(List RRt×List RRt)} {P:RRt→Prop} (h1:∀ r∈arr.1,P r) (h2:∀ r∈arr.2.1,P r) (h3:∀ r∈arr.2.2,P r):∀ e∈(cAll z arr).1,∀ x∈e.2.2,P x:=
 Z0a _ _ h3 (Z0a _ _ h2 (Z0a _ _ h1 fun e he=>by cases he))
theorem Z2e {m:MGt} {z:List UInt8} {now most:Int} (hf:fewM m=true) (hz:z.length≤300) (hm:okUM m=true) (hn:u64B now=true) (ho:u32B most=true):bwG z now most (Qe m z now most)=true:=by
 obtain⟨g1,g2,g3⟩:=X34 (V2r hf hz hm hn ho)
 obtain⟨⟨h1,h2,h3⟩,h4⟩:=V1m hf
 have hfr:=Q2d (z:=z) (arr:=mArr m) (P:=fun r=>r.1.length≤300∧r.2.2.2.2.length≤300) (fun r hr=>h4 r (.inl hr)) (fun r hr=>h4 r (.inr (.inl hr))) (fun r hr=>h4 r (.inr (.inr hr)))
 have ho':=ho
 simp only[u32B,Bool.and_eq_true,decide_eq_true_eq] at ho'
 have e0:BdE ([]:ES) 0:=fun e h=>by cases h
 obtain⟨e1,o1⟩:=Xq (z:=z) (sec:=1) (mAn m) ([],[]) 0 e0 (Nat.le_refl _)
 obtain⟨e2,o2⟩:=Xq (z:=z) (sec:=2) (mNs m) (cRun z 1 (mAn m) ([],[])) _ e1 o1
 obtain⟨e3,o3⟩:=Xq (z:=z) (sec:=3) (mAr m) (cRun z 2 (mNs m) (cRun z 1 (mAn m) ([],[]))) _ e2 o2
 have e3:BdE (cAll z (mArr m)).1 (0+(mAn m).length+(mNs m).length+(mAr m).length):=e3
 have o3:(cAll z (mArr m)).2.length≤0+(mAn m).length+(mNs m).length+(mAr m).length:=o3
 unfold bwG Qe
 generalize cAll z (mArr m)=a at *
 have hlen:a.1.length≤100000:=by
  have:a.2.length=a.1.length:=by rw[g1,List.length_map]
  omega
 rw[Z1a hz,hn,ho,List.length_map,Nat.ble_eq_true_of_le hlen,List.map_map]
 have hnd:((fun e:ENt=>e.1) ∘ entV now most m.2.2.1)=(fun e:QQt×(Int×List RRt)=>e.1):=rfl
 rw[hnd,decide_eq_true g2,Bool.and_true,Bool.true_and,Bool.true_and,Bool.true_and,Bool.true_and]
 refine List.all_eq_true.2 fun x hx=>?_
 obtain⟨e,he,rfl⟩:=List.mem_map.1 hx
 obtain⟨d1,d2,d3⟩:=g3 e he
 obtain⟨m1,m2⟩:=V11 d2 (fun r hr=>(d3 r hr).2.2) ho'.1
 obtain⟨q,s,rs⟩:=e
 simp only at d1 d2 d3 m1 m2
 obtain⟨r0,rs',rfl⟩:=List.exists_cons_of_ne_nil d2
 obtain⟨k1,k2,_⟩:=d3 r0 (by simp)
 obtain⟨i1,i2,i3⟩:=X2s k1
 have hr0:=hfr _ he r0 (by simp)
 have hq:q.1=r0.1:=by rw[←k2];rfl
 have htl:tlE (entV now most m.2.2.1 (q,(s,r0::rs')))=J8 (r0::rs') most:=rfl
 obtain⟨u1,u2,u3,u4⟩:=X2k hn m1 m2 ho'.2
 have hrk:1≤U0s s m.2.2.1∧U0s s m.2.2.1≤5:=by
  simp only[secB,Bool.and_eq_true,decide_eq_true_eq] at d1
  have h3:s=1∨s=2∨s=3:=by omega
  generalize m.2.2.1=aa
  rcases h3 with rfl | rfl | rfl<;>cases aa<;>decide
 have hle:=e3 _ he
 simp only at hle
 unfold gdN
 rw[htl]
 show (undV q.1 z&&(smN q.1&&(!(Z0k (r0::rs') (J8 (r0::rs') most)).isEmpty&&(lrB (Z0k (r0::rs') (J8 (r0::rs') most))&&(decide (1≤U0s s m.2.2.1)&&(decide (U0s s m.2.2.1≤5)&&(decide (0≤J8 (r0::rs') most)&&(decide (J8 (r0::rs') most≤most)&&(decide (now≤Qp now (J8 (r0::rs') most))&&(decide (Qp now (J8 (r0::rs') most) - now≤J8 (r0::rs') most)&&(Z0k (r0::rs') (J8 (r0::rs') most)).all (gdR q (J8 (r0::rs') most))))))))))))=true
 rw[hq,i2,Z1a hr0.1,J0 hrk.1,J0 hrk.2,J0 m1,J0 m2,J0 (show now≤_ from u1),J0 u2]
 have hlr:lrB (Z0k (r0::rs') (J8 (r0::rs') most))=true:=by
  unfold lrB Z0k
  rw[List.length_map]
  exact Nat.ble_eq_true_of_le (by omega)
 rw[hlr]
 have hall:(Z0k (r0::rs') (J8 (r0::rs') most)).all (gdR q (J8 (r0::rs') most))=true:=by
  refine List.all_eq_true.2 fun y hy=>?_
  obtain⟨x,hx,rfl⟩:=List.mem_map.1 hy
  obtain⟨j1,j2,_⟩:=d3 x hx
  have hx3:=hfr _ he x hx
  unfold gdR
  rw[keyT,recT,okRT,j2,(X2s j1).2.2,J0v.2 ⟨by omega,by omega⟩]
  simp[setT]
 rw[hall]
 rfl
noncomputable def TB2:Tab:={ T0 with bsd:=true }
theorem tabB2:J2 Try.prog TB2:=J3a tab0
def moC (a b:List ENt) (i:Int):Bool:=decide (a=b)&&(Nat.ble a.length 100000&&(a.all (fun e=>lrB e.2.1)&&decide (i=0)))
noncomputable def b10:Code:=Z7 c10 0
def ls10:LoopSpec:={ bid:=0,sh:=[.d .bool false,.d (.list EN) false,.d (.list EN) false,.d (.int .i64) false],so:=[],F:=fun(up,a,b,i,_) _=>.on (moC a b i) (.exit 0,[.dead,.bool up],[]) }
def r10 (up:Bool) (a b:List ENt) (i:Int):Tr (St⊕(Ex×St)):=.br (decide (i < (↑a.length:Int))) (.br (decide (0≤i)) (.br (decide (i < (↑a.length:Int))) (.br (decide (0≤i)) (.br (decide (i < (↑b.length:Int))) (.br (decide (a.getD i.toNat (Ty.dflt EN)=List.getD b i.toNat (Ty.dflt EN))&&lrB (a.getD i.toNat (Ty.dflt EN)).2.1) (.ret (.inl (stOf [9,10,12,13] [.bool up,.list EN a,.list EN b,.int .i64 (IntKind.wrap .i64 (i+1))] []))) .no) .no) .no) .no) .no) (.ret (.inr (.exit 0,stOf [8,9] [.dead,.bool up] [])))
theorem U3d (lp:Lp) (up:Bool) (a b:List ENt) (i:Int):evC TB2 (orcB [Z12,J0y,X0x,X0b,Z0r,Z14] []) lp b10 0 (stOf [9,10,12,13] [.bool up,.list EN a,.list EN b,.int .i64 i] []) (X1 [9,10,12,13] [8,9] 0)=(r10 up a b i).get:=by kernel_rfl
theorem wf10 (up:Bool) (a b:List ENt) (I'':Int→Prop) (m'':Int→Nat) (r'':Ex×St) (h:∀ (i:Int),I'' i→(r10 up a b i).all fun x''=>x''=.inr r''∨∃ (i':Int),x''=.inl (stOf [9,10,12,13] [.bool up,.list EN a,.list EN b,.int .i64 i'] [])∧I'' i'∧m'' i' < m'' i) (lp:Lp) (i:Int):I'' i→
    Q3 (fun st=>evC TB2 (orcB [Z12,J0y,X0x,X0b,Z0r,Z14] []) lp b10 0 st (X1 [9,10,12,13] [8,9] 0)) (stOf [9,10,12,13] [.bool up,.list EN a,.list EN b,.int .i64 i] [])=some r'':=
 V8 (fun a'':Int=>stOf [9,10,12,13] [.bool up,.list EN a,.list EN b,.int .i64 a''] []) (fun a''=>I'' a'') (fun a''=>m'' a'') r'' (fun a''=>r10 up a b a'')
  (fun a'' x hx=>(U3d lp up a b a'').trans hx) (fun a'' ha=>Tr.all_mono (fun x'' hx=>hx.imp id fun⟨i',h1,h2,h3⟩=>⟨(i'),h1,h2,h3⟩) (h (a'') ha)) (i)
theorem V3s:ls10.Ok TB2 (orcB [Z12,J0y,X0x,X0b,Z0r,Z14] []) h10 0 0 b10:=by
 intro q'' hq'' x'' y'' r'' h
 obtain⟨(up:Bool),(a:List ENt),(b:List ENt),(i:Int),_⟩:=x''
 obtain⟨hc,rfl⟩:=Tr.get_on h
 show Q3 (fun st=>evC TB2 (orcB [Z12,J0y,X0x,X0b,Z0r,Z14] []) (lpN TB2 (orcB [Z12,J0y,X0x,X0b,Z0r,Z14] []) h10 0 q'') b10 0 st (X1 [9,10,12,13] [8,9] 0)) (stOf [9,10,12,13] [.bool up,.list EN a,.list EN b,.int .i64 i] [])=some (.exit 0,stOf [8,9] ([.dead,.bool up]) ([]))
 simp only[moC,Bool.and_eq_true,decide_eq_true_eq] at hc
 obtain⟨rfl,hl,hall,rfl⟩:=hc
 have hl:=Nat.le_of_ble_eq_true hl
 refine wf10 up a a (fun i=>0≤i∧i≤a.length) (fun i=>(a.length - i).toNat) _ ?_ _ 0 ⟨by omega,by omega⟩
 rintro i ⟨h0,h1⟩
 unfold r10
 rw[Q8 h0 h1 (by omega)]
 by_cases hi:i < a.length
 ·have hg:=List.all_eq_true.1 hall _ (Q3b (Ty.dflt EN) h0 hi)
  generalize a.getD i.toNat (Ty.dflt EN)=e at *
  exact Tr.all_t (J0 hi) (Tr.all_t (J0 h0) (Tr.all_t (J0 hi) (Tr.all_t (J0 h0) (Tr.all_t (J0 hi) (Tr.all_t (by rw[hg,decide_eq_true rfl];rfl) (Tr.all_ret (.inr ⟨_,rfl,⟨by omega,by omega⟩,by omega⟩)))))))
 ·exact Tr.all_f (V0 hi) (Tr.all_ret (.inl rfl))
def t10 (m:MGt) (z:List UInt8) (r:RRt) (now:Int):Tr Res:=.br (!fewM m) (.ret ([.bool true],[])) (.br (decide ((↑z.length:Int) > 300)) (.ret ([.bool true],[])) (.br (decide ((↑r.1.length:Int) > 300)) (.ret ([.bool true],[])) (.br (decide ((↑r.2.2.2.2.length:Int) > 300)) (.ret ([.bool true],[])) (.br (decide ((↑m.2.2.2.2.2.2.2.2.2.1.length:Int) > 10)) (.ret ([.bool true],[])) (.br (decide ((↑m.2.2.2.2.2.2.2.2.2.2.2.length:Int) > 10)) (.ret ([.bool true],[])) (.br (r.2.2.1==1) (.br (smN r.1&&smN z) (.br (undV r.1 z) (.br (Z1f r) (.br (recV r) (.ret ([.bool true],[])) (.br (okS m z now 1000) (.br (fits (1+List.length m.2.2.2.2.2.2.2.2.2.1) 40) (.br (fits (0+List.length m.2.2.2.2.2.2.2.2.2.2.2) 40) (.br (fits (List.length ([]++m.2.2.2.2.2.2.2.2.2.2.2)+1) 40) (.br (okS (m.1,m.2.1,m.2.2.1,m.2.2.2.1,m.2.2.2.2.1,m.2.2.2.2.2.1,m.2.2.2.2.2.2.1,m.2.2.2.2.2.2.2.1,m.2.2.2.2.2.2.2.2.1,[r]++m.2.2.2.2.2.2.2.2.2.1,m.2.2.2.2.2.2.2.2.2.2.1,[]++m.2.2.2.2.2.2.2.2.2.2.2++[r]) z now 1000) (.br ((↑(List.length (Qe m z now 1000)):Int) != (↑(List.length (Qe (m.1,m.2.1,m.2.2.1,m.2.2.2.1,m.2.2.2.2.1,m.2.2.2.2.2.1,m.2.2.2.2.2.2.1,m.2.2.2.2.2.2.2.1,m.2.2.2.2.2.2.2.2.1,[r]++m.2.2.2.2.2.2.2.2.2.1,m.2.2.2.2.2.2.2.2.2.2.1,[]++m.2.2.2.2.2.2.2.2.2.2.2++[r]) z now 1000)):Int)) (.ret ([.bool false],[])) (.br (moC (Qe m z now 1000) (Qe (m.1,m.2.1,m.2.2.1,m.2.2.2.1,m.2.2.2.2.1,m.2.2.2.2.2.1,m.2.2.2.2.2.2.1,m.2.2.2.2.2.2.2.1,m.2.2.2.2.2.2.2.2.1,[r]++m.2.2.2.2.2.2.2.2.2.1,m.2.2.2.2.2.2.2.2.2.2.1,[]++m.2.2.2.2.2.2.2.2.2.2.2++[r]) z now 1000) 0) (.ret ([.bool true],[])) .no)) .no) .no) .no) .no) .no)) .no) (.br (okS m z now 1000) (.br (fits (1+List.length m.2.2.2.2.2.2.2.2.2.1) 40) (.br (fits (0+List.length m.2.2.2.2.2.2.2.2.2.2.2) 40) (.br (fits (List.length ([]++m.2.2.2.2.2.2.2.2.2.2.2)+1) 40) (.br (okS (m.1,m.2.1,m.2.2.1,m.2.2.2.1,m.2.2.2.2.1,m.2.2.2.2.2.1,m.2.2.2.2.2.2.1,m.2.2.2.2.2.2.2.1,m.2.2.2.2.2.2.2.2.1,[r]++m.2.2.2.2.2.2.2.2.2.1,m.2.2.2.2.2.2.2.2.2.2.1,[]++m.2.2.2.2.2.2.2.2.2.2.2++[r]) z now 1000) (.br ((↑(List.length (Qe m z now 1000)):Int) != (↑(List.length (Qe (m.1,m.2.1,m.2.2.1,m.2.2.2.1,m.2.2.2.2.1,m.2.2.2.2.2.1,m.2.2.2.2.2.2.1,m.2.2.2.2.2.2.2.1,m.2.2.2.2.2.2.2.2.1,[r]++m.2.2.2.2.2.2.2.2.2.1,m.2.2.2.2.2.2.2.2.2.2.1,[]++m.2.2.2.2.2.2.2.2.2.2.2++[r]) z now 1000)):Int)) (.ret ([.bool false],[])) (.br (moC (Qe m z now 1000) (Qe (m.1,m.2.1,m.2.2.1,m.2.2.2.1,m.2.2.2.2.1,m.2.2.2.2.2.1,m.2.2.2.2.2.2.1,m.2.2.2.2.2.2.2.1,m.2.2.2.2.2.2.2.2.1,[r]++m.2.2.2.2.2.2.2.2.2.1,m.2.2.2.2.2.2.2.2.2.2.1,[]++m.2.2.2.2.2.2.2.2.2.2.2++[r]) z now 1000) 0) (.ret ([.bool true],[])) .no)) .no) .no) .no) .no) .no)) .no) (.br (okS m z now 1000) (.br (fits (1+List.length m.2.2.2.2.2.2.2.2.2.1) 40) (.br (fits (0+List.length m.2.2.2.2.2.2.2.2.2.2.2) 40) (.br (fits (List.length ([]++m.2.2.2.2.2.2.2.2.2.2.2)+1) 40) (.br (okS (m.1,m.2.1,m.2.2.1,m.2.2.2.1,m.2.2.2.2.1,m.2.2.2.2.2.1,m.2.2.2.2.2.2.1,m.2.2.2.2.2.2.2.1,m.2.2.2.2.2.2.2.2.1,[r]++m.2.2.2.2.2.2.2.2.2.1,m.2.2.2.2.2.2.2.2.2.2.1,[]++m.2.2.2.2.2.2.2.2.2.2.2++[r]) z now 1000) (.br ((↑(List.length (Qe m z now 1000)):Int) != (↑(List.length (Qe (m.1,m.2.1,m.2.2.1,m.2.2.2.1,m.2.2.2.2.1,m.2.2.2.2.2.1,m.2.2.2.2.2.2.1,m.2.2.2.2.2.2.2.1,m.2.2.2.2.2.2.2.2.1,[r]++m.2.2.2.2.2.2.2.2.2.1,m.2.2.2.2.2.2.2.2.2.2.1,[]++m.2.2.2.2.2.2.2.2.2.2.2++[r]) z now 1000)):Int)) (.ret ([.bool false],[])) (.br (moC (Qe m z now 1000) (Qe (m.1,m.2.1,m.2.2.1,m.2.2.2.1,m.2.2.2.2.1,m.2.2.2.2.2.1,m.2.2.2.2.2.2.1,m.2.2.2.2.2.2.2.1,m.2.2.2.2.2.2.2.2.1,[r]++m.2.2.2.2.2.2.2.2.2.1,m.2.2.2.2.2.2.2.2.2.2.1,[]++m.2.2.2.2.2.2.2.2.2.2.2++[r]) z now 1000) 0) (.ret ([.bool true],[])) .no)) .no) .no) .no) .no) .no)))))))
def os10:OSpec:={ f:=10,sh:=[.d MG true,.d .str false,.d RR true,.d (.int .u64) false],so:=[],F:=fun(m,z,r,now,_) _=>t10 m z r now }
theorem fn10 (m:MGt) (z:List UInt8) (r:RRt) (now:Int):evC TB2 (orcB [Z12,J0y,X0x,X0b,Z0r,Z14] []) (lpOf h10 0 (lsOf [ls10])) c10 1000000 (U1 [AV.ofTy MG m true,.str z,AV.ofTy RR r true,.int .u64 now] [] Try.f10.ntmps) (Q0 TB2 false 0 Try.f10)=(t10 m z r now).get:=by kernel_rfl
theorem ok10:os10.Ok Try.prog:=by
 refine Q4 Q2 tabB2 (U0 (all_cons U3o (all_cons U3m (all_cons Z3q (all_cons J1m (all_cons Z2y (all_cons J3k Z0)))))) Z0) h10 (d:=0) (n0:=0) (S:=lsOf [ls10]) Try.func10 (by kernel_rfl) (c:=c10) (by kernel_rfl) rfl (Z8 (xs:=[(0,b10)]) (by kernel_rfl) (all_cons (J9 V3s) Z0)) (by omega) (by kernel_rfl) ?_
 intro x'' y'' q'' hq''
 obtain⟨(m:MGt),(z:List UInt8),(r:RRt),(now:Int),_⟩:=x''
 exact(fn10 m z r now).trans hq''
def Xz (m:MGt) (r:RRt):MGt:=(m.1,m.2.1,m.2.2.1,m.2.2.2.1,m.2.2.2.2.1,m.2.2.2.2.2.1,m.2.2.2.2.2.2.1,m.2.2.2.2.2.2.2.1,m.2.2.2.2.2.2.2.2.1,[r]++m.2.2.2.2.2.2.2.2.2.1,m.2.2.2.2.2.2.2.2.2.2.1,[]++m.2.2.2.2.2.2.2.2.2.2.2++[r])
theorem Z1w {z:List UInt8} {sec:Int} {a:ES×List QQt} {r:RRt} (h:inV z r=false):Qj z sec a r=a:=by unfold Qj;rw[h];rfl
theorem V2g {m:MGt} {r:RRt} {z:List UInt8} (h:inV z r=false) (now most:Int):Qe (Xz m r) z now most=Qe m z now most:=by
 have:cAll z (mArr (Xz m r))=cAll z (mArr m):=by
  show cRun z 3 (mAr m++[r]) (cRun z 2 (mNs m) (cRun z 1 (r::mAn m) ([],[])))=cRun z 3 (mAr m) (cRun z 2 (mNs m) (cRun z 1 (mAn m) ([],[])))
  have h1:cRun z 1 (r::mAn m) ([],[])=cRun z 1 (mAn m) ([],[]):=by
   show cRun z 1 (mAn m) (Qj z 1 ([],[]) r)=_
   rw[Z1w h]
  rw[h1]
  unfold cRun
  rw[List.foldl_append]
  exact Z1w h
 unfold Qe
 rw[this]
 rfl
def Z1q (m:MGt) (z:List UInt8) (r:RRt) (now:Int):Tr Res:=Tr.br (okS m z now 1000) (Tr.br (fits (1+(mAn m).length) 40) (Tr.br (fits (0+(mAr m).length) 40) (Tr.br (fits (([]++mAr m).length+1) 40) (Tr.br (okS (Xz m r) z now 1000) (Tr.br (((Qe m z now 1000).length:Int) != ((Qe (Xz m r) z now 1000).length:Int)) (Tr.ret ([.bool false],[])) (Tr.br (moC (Qe m z now 1000) (Qe (Xz m r) z now 1000) 0) (Tr.ret ([.bool true],[])) Tr.no)) Tr.no) Tr.no) Tr.no) Tr.no) Tr.no
theorem Q1k {m:MGt} {z:List UInt8} {r:RRt} {now:Int} (hno:inV z r=false) (hf:fewM m=true) (hz:z.length≤300) (hr1:r.1.length≤300) (hr2:r.2.2.2.2.length≤300) (ha:(mAn m).length≤10) (hb:(mAr m).length≤10) (hm:okUM m=true) (hn:u64B now=true) (hu:u32B r.2.2.2.1=true) :
    (Z1q m z r now).all (fun r:Res=>r=([.bool true],[])):=by
 obtain⟨⟨h1,h2,h3⟩,h4⟩:=V1m hf
 have ho:u32B 1000=true:=rfl
 have hS:=V2r hf hz hm hn ho
 have hm':=hm
 simp only[okUM,Bool.and_eq_true] at hm'
 obtain⟨u1,u2,u3⟩:=hm'
 have hS2:okS (Xz m r) z now 1000=true:=by
  unfold okS
  have e1:okS3 z (mAn (Xz m r))=true:=Q09 (l:=r::mAn m) (by simp;omega) (fun x hx=>by
   rcases List.mem_cons.1 hx with rfl | hx
   ·exact⟨hr1,hr2⟩
   ·exact h4 x (.inl hx)) hz
  have e2:okS3 z (mNs (Xz m r))=true:=Q09 (l:=mNs m) h2 (fun x hx=>h4 x (.inr (.inl hx))) hz
  have e3:okS3 z (mAr (Xz m r))=true:=Q09 (l:=mAr m++[r]) (by simp;omega) (fun x hx=>by
   rcases List.mem_append.1 hx with hx | hx
   ·exact h4 x (.inr (.inr hx))
   ·simp at hx;subst hx;exact⟨hr1,hr2⟩) hz
  have e4:okUM (Xz m r)=true:=by
   unfold okUM
   have k1:okU (mAn (Xz m r))=true:=by
    show okU (r::mAn m)=true
    unfold okU at u1 ⊢
    rw[List.all_cons,hu,u1]
    rfl
   have k3:okU (mAr (Xz m r))=true:=by
    show okU (mAr m++[r])=true
    unfold okU at u3 ⊢
    rw[List.all_append,u3,List.all_cons,hu]
    rfl
   rw[k1,k3,show okU (mNs (Xz m r))=true from u2]
   rfl
  rw[e1,e2,e3,e4,hn,ho]
  rfl
 have hG:=Z2e hf hz hm hn ho
 simp only[bwG,Bool.and_eq_true,decide_eq_true_eq] at hG
 obtain⟨_,_,_,g1,g2,_⟩:=hG
 unfold Z1q
 rw[V2g hno]
 refine Tr.all_t hS (Tr.all_t (Vq (by omega) (by omega)) (Tr.all_t (Vq (by omega) (by omega)) (Tr.all_t (Vq (by simp;omega) (by omega)) (Tr.all_t hS2 (Tr.all_f (by simp) (Tr.all_t ?_ (Tr.all_ret rfl)))))))
 unfold moC
 rw[decide_eq_true rfl,g1,List.all_eq_true.2 fun e he=>by
  have:=List.all_eq_true.1 g2 e he
  simp only[gdN,Bool.and_eq_true] at this
  exact this.2.2.2.1]
 rfl
theorem acceptMore_all (m:MGt) (z:List UInt8) (r:RRt) (now:Int) (hm:okUM m=true) (hn:u64B now=true) (hu:u32B r.2.2.2.1=true):Tr.all (fun r:Res=>r=([.bool true],[])) (t10 m z r now):=by
 unfold t10
 refine Tr.all_br (fun _=>Tr.all_ret rfl) fun hf=>Tr.all_br (fun _=>Tr.all_ret rfl) fun hz=>Tr.all_br (fun _=>Tr.all_ret rfl) fun hr1=>Tr.all_br (fun _=>Tr.all_ret rfl) fun hr2=>Tr.all_br (fun _=>Tr.all_ret rfl) fun ha=>Tr.all_br (fun _=>Tr.all_ret rfl) fun hb=>?_
 have hf:fewM m=true:=by simpa using hf
 have hz:z.length≤300:=by have:=of_decide_eq_false hz;omega
 have hr1:r.1.length≤300:=by have:=of_decide_eq_false hr1;omega
 have hr2:r.2.2.2.2.length≤300:=by have:=of_decide_eq_false hr2;omega
 have ha:(mAn m).length≤10:=by have:=of_decide_eq_false ha;show m.2.2.2.2.2.2.2.2.2.1.length≤10;omega
 have hb:(mAr m).length≤10:=by have:=of_decide_eq_false hb;show m.2.2.2.2.2.2.2.2.2.2.2.length≤10;omega
 have tail:=fun hno=>Q1k (m:=m) (z:=z) (r:=r) (now:=now) hno hf hz hr1 hr2 ha hb hm hn hu
 refine Tr.all_br (fun c1=>Tr.all_t (by rw[Z1a hr1,Z1a hz];rfl) (Tr.all_br (fun c2=>Tr.all_t (by unfold Z1f;rw[X00 (by omega),X00 (by omega)];rfl) (Tr.all_br (fun _=>Tr.all_ret rfl) fun c3=>tail ?_)) fun c2=>tail ?_)) fun c1=>tail ?_
 ·unfold inV;rw[c3];simp
 ·unfold inV;rw[c2];simp
 ·unfold inV;rw[c1];rfl
theorem sem10 (m:MGt) (z:List UInt8) (r:RRt) (now:Int) (h1:okT MG m) (h2:okT RR r) (h3:okT (.int .u64) now):SemF Try.prog 10 [AV.ofTy MG m true,.str z,AV.ofTy RR r true,.int .u64 now] [] [.bool true] []:=
 ok10 (m,z,r,now,()) () ([.bool true],[]) (Tr.get_of_all (acceptMore_all m z r now (U2q h1) (U2w h3) (Z1u h2.2.2.2.1)))
end Go.Proofs.YtkobjdhbfepkaaaE
namespace Go.Proofs.Ytkobjdhbfepkaaa.acceptMore
open Go.ChangeShapes Go.WideShapes Go.ChangeAt Go.RowKit Go.Proofs.YtkobjdhbfepkaaaE
open Go.ChangeMaps (open_string shut_string)
set_option linter.unusedVariables false
theorem own : ownKnob Try.prog.godebug = none := by kernel_rfl
theorem laidOut : laidOutB Try.prog = true := by kernel_rfl
set_option maxRecDepth 100000 in
theorem lifted (os : Os) (started : os.Started) (H : Type) (enc : TypeId × Value → H) :
    ReturnsInHanded {} Try.checked os 10 .any (Rows.acceptMoreSpec.pre6 enc Try.prog Try.f10 Rows.acceptMoreRow.domain false) (Rows.acceptMoreSpec.post enc Try.prog Try.f10 false true false false) := by
  refine returnsInHanded_of_change_sized (C := Try.checked) own started (by kernel_rfl) Try.func10
    (ChangeSpec.witness6 (enc := enc) (C := Try.checked) false ⟨#[], #[.agg #[.int .u16 0, .bool false, .bool false, .bool false, .bool false, .bool false, .int .i64 0, .int .i64 0, .slice none 0 0, .slice none 0 0, .slice none 0 0, .slice none 0 0], .string ByteArray.empty, .agg #[.string ByteArray.empty, .int .u16 0, .int .u16 0, .int .u32 0, .string ByteArray.empty], .int .u64 0], []⟩ 8 (by kernel_rfl) (by kernel_rfl) (by kernel_rfl) (by kernel_rfl)) ?_
  intro W base args ds gs before hval0 hW hcnd hsz0 _
  have hsz : ∀ n ∈ DataW.weightsEach Try.prog (Try.f10.params.toList ++ Rows.acceptMoreSpec.plain.varTypes Try.prog) (ds ++ gs), n ≤ reachBytes := fun n hn => of_decide_eq_true (List.all_eq_true.1 hsz0 n hn)
  have hval : ∀ (j : Nat) t v, Try.f10.params[j]? = some t → args[j]? = some v → Value.okWide Try.prog W .any base t v := hval0
  have hW' := hW
  obtain ⟨p, q, hA0, hV, rfl, hfz, hnd⟩ := hW
  have hA : DataW.TrodAll enc Try.prog W 0 (fun _ => true) true Try.f10.params.toList args.toList ds p := hA0
  rw [Try.params10] at hA hval hsz
  obtain ⟨v0, vs0, d0, ds0, p0, q0, hargs, rfl, rfl, k0, r0⟩ := trodAll_cons hA
  obtain ⟨v1, vs1, d1, ds1, p1, q1, rfl, rfl, rfl, k1, r1⟩ := trodAll_cons r0
  obtain ⟨v2, vs2, d2, ds2, p2, q2, rfl, rfl, rfl, k2, r2⟩ := trodAll_cons r1
  obtain ⟨v3, vs3, d3, ds3, p3, q3, rfl, rfl, rfl, k3, r3⟩ := trodAll_cons r2
  obtain ⟨rfl, rfl, rfl⟩ := trodAll_nil r3
  obtain rfl : args = #[v0, v1, v2, v3] := by cases args; simp_all
  obtain ⟨rfl, rfl⟩ := trodVars_none hV
  have lt0 : ∀ x ∈ p0, x.block < W.heap.size := by obtain ⟨m, hm⟩ := k0; exact DataW.trod_lt m _ _ _ hm
  obtain ⟨x0, e0, w0, b0⟩ := X0g (n := 8) (τ := (.pair (.int .u16) (.pair .bool (.pair .bool (.pair .bool (.pair .bool (.pair .bool (.pair (.int .i64) (.pair (.int .i64) (.pair (.list (.pair .str (.pair (.int .u16) (.int .u16)))) (.pair (.list (.pair .str (.pair (.int .u16) (.pair (.int .u16) (.pair (.int .u32) .str))))) (.pair (.list (.pair .str (.pair (.int .u16) (.pair (.int .u16) (.pair (.int .u32) .str))))) (.list (.pair .str (.pair (.int .u16) (.pair (.int .u16) (.pair (.int .u32) .str))))))))))))))))) (agg := true) (by kernel_rfl) (hval 0 45 v0 rfl rfl) k0 (fun n hn => hsz n (DataW.weights_mem_each (j := 0) (t := 45) rfl rfl n hn)) (by kernel_rfl)
  have lt1 : ∀ x ∈ p1, x.block < W.heap.size := by obtain ⟨m, hm⟩ := k1; exact DataW.trod_lt m _ _ _ hm
  obtain ⟨x1, e1, w1, b1⟩ := X0g (n := 8) (τ := .str) (agg := false) (by kernel_rfl) (hval 1 9 v1 rfl rfl) k1 (fun n hn => hsz n (DataW.weights_mem_each (j := 1) (t := 9) rfl rfl n hn)) (by kernel_rfl)
  have lt2 : ∀ x ∈ p2, x.block < W.heap.size := by obtain ⟨m, hm⟩ := k2; exact DataW.trod_lt m _ _ _ hm
  obtain ⟨x2, e2, w2, b2⟩ := X0g (n := 8) (τ := (.pair .str (.pair (.int .u16) (.pair (.int .u16) (.pair (.int .u32) .str))))) (agg := true) (by kernel_rfl) (hval 2 56 v2 rfl rfl) k2 (fun n hn => hsz n (DataW.weights_mem_each (j := 2) (t := 56) rfl rfl n hn)) (by kernel_rfl)
  have lt3 : ∀ x ∈ p3, x.block < W.heap.size := by obtain ⟨m, hm⟩ := k3; exact DataW.trod_lt m _ _ _ hm
  obtain ⟨x3, e3, w3, b3⟩ := X0g (n := 8) (τ := .int .u64) (agg := false) (by kernel_rfl) (hval 3 62 v3 rfl rfl) k3 (fun n hn => hsz n (DataW.weights_mem_each (j := 3) (t := 62) rfl rfl n hn)) (by kernel_rfl)
  clear hA0 hval0 hsz0 hsz
  refine (X2n ((fun x0 x1 x2 x3 w0 w1 w2 w3 => sem10 x0 x1 x2 x3 w0 w2 w3) x0 x1 x2 x3 w0 w1 w2 w3) W (vs := [v0, v1, v2, v3]) ?_).mono fun e W' ⟨he, bel⟩ => ?_
  · simp only [X0]
    exact ⟨_, _, rfl, e0, ⟨_, _, rfl, e1, ⟨_, _, rfl, e2, ⟨_, _, rfl, e3, rfl⟩⟩⟩⟩
  subst he
  exact ⟨_, rfl, _, _, _, [], _, [], hW', trodAll_mk1 (shut_bool Try.underlying4 _), (trodAll_cons_mk (Below.trod laidOut (by kernel_rfl) (of_decide_eq_true (by kernel_rfl)) k0 bel lt0) (trodAll_cons_mk (Below.trod laidOut (by kernel_rfl) (of_decide_eq_true (by kernel_rfl)) k1 bel lt1) (trodAll_cons_mk (Below.trod laidOut (by kernel_rfl) (of_decide_eq_true (by kernel_rfl)) k2 bel lt2) (trodAll_cons_mk (Below.trod laidOut (by kernel_rfl) (of_decide_eq_true (by kernel_rfl)) k3 bel lt3) trodAll_mk0)))), rfl, bel.frame _, fun h => by cases h⟩
theorem over : Rows.acceptMoreRow.holds Try.pinned (OpenSpec.ofChange Rows.acceptMoreSpec) :=
  OpenClaim.holds_of_wide 10 Try.f10 rfl rfl rfl rfl rfl rfl rfl ⟨rfl, rfl, rfl, rfl, rfl⟩ rfl rfl rfl rfl rfl (by kernel_rfl) Try.func10 (by kernel_rfl)
    (of_decide_eq_true (by kernel_rfl)) (by unfold Func.isWrapper; first | (rw [if_pos (by decide +kernel)]; kernel_rfl) | (rw [if_neg (by decide +kernel)]; exact ⟨rfl, rfl⟩))
    (fun os started H enc _ => lifted os started H enc)
theorem proved : Rows.AcceptMoreSaid := over
end Go.Proofs.Ytkobjdhbfepkaaa.acceptMore
namespace Go.Proofs.Ytkobjdhbfepkaaa
/-- The row, under a short name, for the claim. -/
theorem acceptMore_holds : Rows.AcceptMoreSaid := acceptMore.proved
#print axioms acceptMore_holds
end Go.Proofs.Ytkobjdhbfepkaaa
