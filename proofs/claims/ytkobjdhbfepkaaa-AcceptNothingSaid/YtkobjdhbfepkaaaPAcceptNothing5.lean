import Derived.Test.YtkobjdhbfepkaaaPAcceptNothing4
import Derived.Test.YtkobjdhbfepkaaaRows
import Derived.WalkKit
import Derived.ProofKit
import Derived.OpenShut
import Derived.ShutString
import Derived.ChangeOld
import Derived.Below
import Derived.Carry
import Derived.SizedLaws
set_option maxRecDepth 1000000
namespace Go.Proofs.YtkobjdhbfepkaaaE
open Go Go.Proofs.YtkobjdhbfepkaaaB
set_option linter.unusedVariables false
set_option linter.unusedSimpArgs false
def t84 (o:RRt) (rn:List UInt8) (rt rc rl:Int) (rd:List UInt8):Tr Res:=.ret ([.bool (sayV o (rn,rt,rc,rl,rd))],[.boxT none [.str rn,.int .u16 rt,.int .u16 rc,.int .u32 rl,.str rd]])
def os84:OSpec:={ f:=84,sh:=[.d RR true,.ptr 0 0],so:=[.box [.d .str false,.d (.int .u16) false,.d (.int .u16) false,.d (.int .u32) false,.d .str false]],F:=fun(o,_) ((rn,rt,rc,rl,rd,_),_)=>t84 o rn rt rc rl rd }
theorem fn84 (o:RRt) (rn:List UInt8) (rt rc rl:Int) (rd:List UInt8):evC T0 (orcB [Q3d] []) (lpOf h84 1 (lsOf [])) c84 1000000 (Z1 [AV.ofTy RR o true,.ptr 0 0] [.box [.str rn,.int .u16 rt,.int .u16 rc,.int .u32 rl,.str rd]] Try.f84.ntmps) (Q0 T0 false 1 Try.f84)=(t84 o rn rt rc rl rd).get:=by kernel_rfl
theorem ok84:os84.Ok Try.prog:=by
 refine X4 V2 tab0 (U0 (all_cons V3o Z0) Z0) h84 (d:=0) (n0:=1) (S:=lsOf []) Try.func84 (by kernel_rfl) (c:=c84) (by kernel_rfl) rfl (U2 (by kernel_rfl)) (by omega) (by kernel_rfl) ?_
 intro x'' y'' q'' hq''
 obtain⟨(o:RRt),_⟩:=x''
 obtain⟨⟨(rn:List UInt8),(rt:Int),(rc:Int),(rl:Int),(rd:List UInt8),_⟩,_⟩:=y''
 exact(fn84 o rn rt rc rl rd).trans hq''
def Zh (rn:List UInt8) (rt rc rl:Int) (rd:List UInt8) (o:RRt):Bool:=sayV o (rn,rt,rc,rl,rd)
def ixS (l:List RRt) (m i:Int):Bool:=lrB l&&(decide (m=(l.length:Int))&&decide (i=0))
noncomputable def b88s:Code:=V6 c88 0
def Z2u:LoopSpec:={ bid:=0,sh:=[.d (.list RR) false,.fnp 84 [(0,0)],.d (.int .i64) false,.d (.int .i64) false],so:=[.box [.d .str false,.d (.int .u16) false,.d (.int .u16) false,.d (.int .u32) false,.d .str false]],F:=fun(l,m,i,_) ((rn,rt,rc,rl,rd,_),_)=>.on2 (ixS l m i) (decide (idxL (Zh rn rt rc rl rd) l 0 < 0)) (.exit 0,[.dead],[.box [.str rn,.int .u16 rt,.int .u16 rc,.int .u32 rl,.str rd]]) (.ret,[.int .i64 (idxL (Zh rn rt rc rl rd) l 0)],[.box [.str rn,.int .u16 rt,.int .u16 rc,.int .u32 rl,.str rd]]) }
def r88s (l:List RRt) (m i:Int) (rn:List UInt8) (rt rc rl:Int) (rd:List UInt8):Tr (St⊕(Ex×St)):=.br (decide (i < m)) (.br (decide (0≤i)) (.br (decide (i < (↑l.length:Int))) (.br (sayV (l.getD i.toNat (Ty.dflt RR)) (rn,rt,rc,rl,rd)) (.ret (.inr (.ret,stOf [4] [.int .i64 i] [.boxT none [.str rn,.int .u16 rt,.int .u16 rc,.int .u32 rl,.str rd]]))) (.ret (.inl (stOf [0,1,7,8] [.list RR l,AV.fn 84 [.ptr 0 0],.int .i64 m,.int .i64 (IntKind.wrap .i64 (i+1))] [.boxT none [.str rn,.int .u16 rt,.int .u16 rc,.int .u32 rl,.str rd]])))) .no) .no) (.ret (.inr (.exit 0,stOf [4] [.dead] [.boxT none [.str rn,.int .u16 rt,.int .u16 rc,.int .u32 rl,.str rd]])))
theorem J2v (lp:Lp) (l:List RRt) (m i:Int) (rn:List UInt8) (rt rc rl:Int) (rd:List UInt8):evC T0 (orcB [] [os84]) lp b88s 0 (stOf [0,1,7,8] [.list RR l,.fn 84 [.ptr 0 0],.int .i64 m,.int .i64 i] [.box [.str rn,.int .u16 rt,.int .u16 rc,.int .u32 rl,.str rd]]) (V1 [0,1,7,8] [4] 1)=(r88s l m i rn rt rc rl rd).get:=by kernel_rfl
theorem wf88s (l:List RRt) (m:Int) (rn:List UInt8) (rt rc rl:Int) (rd:List UInt8) (I'':Int→Prop) (m'':Int→Nat) (r'':Ex×St) (h:∀ (i:Int),I'' i→(r88s l m i rn rt rc rl rd).all fun x''=>x''=.inr r''∨∃ (i':Int),x''=.inl (stOf [0,1,7,8] [.list RR l,.fn 84 [.ptr 0 0],.int .i64 m,.int .i64 i'] [.box [.str rn,.int .u16 rt,.int .u16 rc,.int .u32 rl,.str rd]])∧I'' i'∧m'' i' < m'' i) (lp:Lp) (i:Int):I'' i→
    Z4 (fun st=>evC T0 (orcB [] [os84]) lp b88s 0 st (V1 [0,1,7,8] [4] 1)) (stOf [0,1,7,8] [.list RR l,.fn 84 [.ptr 0 0],.int .i64 m,.int .i64 i] [.box [.str rn,.int .u16 rt,.int .u16 rc,.int .u32 rl,.str rd]])=some r'':=
 V7 (fun a'':Int=>stOf [0,1,7,8] [.list RR l,.fn 84 [.ptr 0 0],.int .i64 m,.int .i64 a''] [.box [.str rn,.int .u16 rt,.int .u16 rc,.int .u32 rl,.str rd]]) (fun a''=>I'' a'') (fun a''=>m'' a'') r'' (fun a''=>r88s l m a'' rn rt rc rl rd)
  (fun a'' x hx=>(J2v lp l m a'' rn rt rc rl rd).trans hx) (fun a'' ha=>Tr.all_mono (fun x'' hx=>hx.imp id fun⟨i',h1,h2,h3⟩=>⟨(i'),h1,h2,h3⟩) (h (a'') ha)) (i)
theorem Z37:Z2u.Ok T0 (orcB [] [os84]) h88 1 0 b88s:=by
 intro q'' hq'' x'' y'' r'' h
 obtain⟨(l:List RRt),(m:Int),(i:Int),_⟩:=x''
 obtain⟨⟨(rn:List UInt8),(rt:Int),(rc:Int),(rl:Int),(rd:List UInt8),_⟩,_⟩:=y''
 obtain⟨hc,rfl⟩:=Tr.get_on2 h
 show Z4 (fun st=>evC T0 (orcB [] [os84]) (lpN T0 (orcB [] [os84]) h88 1 q'') b88s 0 st (V1 [0,1,7,8] [4] 1)) (stOf [0,1,7,8] [.list RR l,.fn 84 [.ptr 0 0],.int .i64 m,.int .i64 i] [.box [.str rn,.int .u16 rt,.int .u16 rc,.int .u32 rl,.str rd]])=some ((bif decide (idxL (Zh rn rt rc rl rd) l 0 < 0) then (.exit 0,[.dead],[.box [.str rn,.int .u16 rt,.int .u16 rc,.int .u32 rl,.str rd]]) else (.ret,[.int .i64 (idxL (Zh rn rt rc rl rd) l 0)],[.box [.str rn,.int .u16 rt,.int .u16 rc,.int .u32 rl,.str rd]]):Ex×List AV×List LObj).1,stOf [4] (bif decide (idxL (Zh rn rt rc rl rd) l 0 < 0) then (.exit 0,[.dead],[.box [.str rn,.int .u16 rt,.int .u16 rc,.int .u32 rl,.str rd]]) else (.ret,[.int .i64 (idxL (Zh rn rt rc rl rd) l 0)],[.box [.str rn,.int .u16 rt,.int .u16 rc,.int .u32 rl,.str rd]]):Ex×List AV×List LObj).2.1 (bif decide (idxL (Zh rn rt rc rl rd) l 0 < 0) then (.exit 0,[.dead],[.box [.str rn,.int .u16 rt,.int .u16 rc,.int .u32 rl,.str rd]]) else (.ret,[.int .i64 (idxL (Zh rn rt rc rl rd) l 0)],[.box [.str rn,.int .u16 rt,.int .u16 rc,.int .u32 rl,.str rd]]):Ex×List AV×List LObj).2.2)
 simp only[ixS,Bool.and_eq_true,decide_eq_true_eq] at hc
 obtain⟨hl,rfl,rfl⟩:=hc
 have hl:=Nat.le_of_ble_eq_true hl
 refine wf88s l l.length rn rt rc rl rd (fun i=>0≤i∧i≤l.length∧idxL (Zh rn rt rc rl rd) (l.drop i.toNat) i.toNat=idxL (Zh rn rt rc rl rd) l 0) (fun i=>(l.length - i).toNat) _ ?_ _ 0 ⟨by omega,by omega,rfl⟩
 rintro i ⟨h0,h1,he⟩
 unfold r88s
 rw[V8 h0 h1 (by omega)]
 by_cases hi:i < l.length
 ·rw[J9 (l:=l) (k:=i.toNat) (by omega) (Ty.dflt RR),idxL] at he
  generalize l.getD i.toNat (Ty.dflt RR)=x at *
  refine Tr.all_t (J0 hi) (Tr.all_t (J0 h0) (Tr.all_t (J0 hi) (Tr.all_br (fun h=>?_) fun h=>?_)))
  ·rw[if_pos (show Zh rn rt rc rl rd x=true from h)] at he
   rw[←he,show ((i.toNat:Nat):Int)=i by omega,V0 (show ¬ i < 0 by omega)]
   exact Tr.all_ret (.inl rfl)
  ·rw[if_neg (by intro h';have h2:Zh rn rt rc rl rd x=false:=h;rw[h2] at h';cases h')] at he
   exact Tr.all_ret (.inr ⟨_,rfl,⟨by omega,by omega,by rw[show (i+1).toNat=i.toNat+1 by omega];exact he⟩,by omega⟩)
 ·refine Tr.all_f (V0 hi) (Tr.all_ret (.inl ?_))
  rw[List.drop_eq_nil_of_le (by omega)] at he
  rw[←he]
  rfl
def t88s (l:List RRt) (rn:List UInt8) (rt rc rl:Int) (rd:List UInt8):Tr Res:=.br (ixS l (↑l.length:Int) 0) (.br (decide (idxL (Zh rn rt rc rl rd) l 0 < 0)) (.ret ([.int .i64 (-1)],[.boxT none [.str rn,.int .u16 rt,.int .u16 rc,.int .u32 rl,.str rd]])) (.ret ([.int .i64 (idxL (Zh rn rt rc rl rd) l 0)],[.boxT none [.str rn,.int .u16 rt,.int .u16 rc,.int .u32 rl,.str rd]]))) .no
def Q3j:OSpec:={ f:=88,sh:=[.d (.list RR) false,.fnp 84 [(0,0)]],so:=[.box [.d .str false,.d (.int .u16) false,.d (.int .u16) false,.d (.int .u32) false,.d .str false]],F:=fun(l,_) ((rn,rt,rc,rl,rd,_),_)=>t88s l rn rt rc rl rd }
theorem fn88s (l:List RRt) (rn:List UInt8) (rt rc rl:Int) (rd:List UInt8):evC T0 (orcB [] [os84]) (lpOf h88 1 (lsOf [Z2u])) c88 1000000 (Z1 [.list RR l,.fn 84 [.ptr 0 0]] [.box [.str rn,.int .u16 rt,.int .u16 rc,.int .u32 rl,.str rd]] Try.f88.ntmps) (Q0 T0 false 1 Try.f88)=(t88s l rn rt rc rl rd).get:=by kernel_rfl
theorem ok88s:Q3j.Ok Try.prog:=by
 refine X4 V2 tab0 (U0 Z0 (all_cons ok84 Z0)) h88 (d:=0) (n0:=1) (S:=lsOf [Z2u]) Try.func88 (by kernel_rfl) (c:=c88) (by kernel_rfl) rfl (U6 (xs:=[(0,b88s)]) (by kernel_rfl) (all_cons (U7 Z37) Z0)) (by omega) (by kernel_rfl) ?_
 intro x'' y'' q'' hq''
 obtain⟨(l:List RRt),_⟩:=x''
 obtain⟨⟨(rn:List UInt8),(rt:Int),(rc:Int),(rl:Int),(rd:List UInt8),_⟩,_⟩:=y''
 exact(fn88s l rn rt rc rl rd).trans hq''
def t86s (l:List RRt) (rn:List UInt8) (rt rc rl:Int) (rd:List UInt8):Tr Res:=.br (ixS l (↑l.length:Int) 0) (.br (decide (idxL (Zh rn rt rc rl rd) l 0 < 0)) (.ret ([.bool (decide ((-1:Int)≥0))],[.boxT none [.str rn,.int .u16 rt,.int .u16 rc,.int .u32 rl,.str rd]])) (.ret ([.bool (decide (idxL (Zh rn rt rc rl rd) l 0≥0))],[.boxT none [.str rn,.int .u16 rt,.int .u16 rc,.int .u32 rl,.str rd]]))) .no
def X3j:OSpec:={ f:=86,sh:=[.d (.list RR) false,.fnp 84 [(0,0)]],so:=[.box [.d .str false,.d (.int .u16) false,.d (.int .u16) false,.d (.int .u32) false,.d .str false]],F:=fun(l,_) ((rn,rt,rc,rl,rd,_),_)=>t86s l rn rt rc rl rd }
theorem fn86s (l:List RRt) (rn:List UInt8) (rt rc rl:Int) (rd:List UInt8):evC T0 (orcB [] [Q3j]) (lpOf h86 1 (lsOf [])) c86 1000000 (Z1 [.list RR l,.fn 84 [.ptr 0 0]] [.box [.str rn,.int .u16 rt,.int .u16 rc,.int .u32 rl,.str rd]] Try.f86.ntmps) (Q0 T0 false 1 Try.f86)=(t86s l rn rt rc rl rd).get:=by kernel_rfl
theorem ok86s:X3j.Ok Try.prog:=by
 refine X4 V2 tab0 (U0 Z0 (all_cons ok88s Z0)) h86 (d:=0) (n0:=1) (S:=lsOf []) Try.func86 (by kernel_rfl) (c:=c86) (by kernel_rfl) rfl (U2 (by kernel_rfl)) (by omega) (by kernel_rfl) ?_
 intro x'' y'' q'' hq''
 obtain⟨(l:List RRt),_⟩:=x''
 obtain⟨⟨(rn:List UInt8),(rt:Int),(rc:Int),(rl:Int),(rd:List UInt8),_⟩,_⟩:=y''
 exact(fn86s l rn rt rc rl rd).trans hq''
def V2x:OSpec:=X3j.like fun(l,_) ((rn,rt,rc,rl,rd,_),_)=>.on (lrB l) ([.bool (l.any (Zh rn rt rc rl rd))],[.box [.str rn,.int .u16 rt,.int .u16 rc,.int .u32 rl,.str rd]])
theorem X1m {α:Type} (f:α→Bool):∀ (l:List α),(l.find? f).isSome=l.any f
 | []=>rfl
 | x::l=>by
   cases h:f x with
   | true=>simp[h]
   | false=>rw[List.find?_cons_of_neg (by simp[h]),X1m f l];simp[h]
theorem J3l:V2x.Ok Try.prog:=by
 refine Vd ok86s _ ?_
 rintro⟨(l:List RRt),_⟩ ⟨⟨(rn:List UInt8),(rt:Int),(rc:Int),(rl:Int),(rd:List UInt8),_⟩,_⟩ r' h
 obtain⟨hb,rfl⟩:=Tr.get_on h
 have hb:lrB l=true:=hb
 refine Tr.get_of_all ?_
 show (t86s l rn rt rc rl rd).all _
 unfold t86s
 have hx:ixS l (l.length:Int) 0=true:=by unfold ixS;rw[hb];simp
 rw[←X1m]
 rcases Jr (Zh rn rt rc rl rd) (Ty.dflt RR) l 0 with ⟨h1,h2⟩ | ⟨j,h1,h2,h3⟩
 ·rw[h1,h2]
  repeat' (first | exact Tr.all_ret rfl | refine Tr.all_t hx ?_ | refine Tr.all_t rfl ?_ | refine Tr.all_f rfl ?_)
 ·rw[h1,h3,show ((0+j:Nat):Int)=(j:Int) by omega]
  refine Tr.all_t hx (Tr.all_f (V0 (by omega)) (Tr.all_ret ?_))
  rw[J0 (show (j:Int)≥0 by omega)]
  rfl
def t60 (sec:Int) (r:RRt) (s0:Int) (l:List RRt):Tr Res:=.br (s0==0) (.br (sec==sec) (.br (lrB l) (.br (!List.any l (Zh r.1 r.2.1 r.2.2.1 r.2.2.2.1 r.2.2.2.2)) (.br (fits (List.length l+1) 40) (.ret ([],[.boxT none [.int .i64 sec,.rowA 1],.row RR (l++[r])])) .no) (.ret ([],[.boxT none [.int .i64 sec,.rowA 1],.row RR l]))) .no) (.ret ([],[.boxT none [.int .i64 sec,.rowA 1],.row RR l]))) (.br (s0==sec) (.br (lrB l) (.br (!List.any l (Zh r.1 r.2.1 r.2.2.1 r.2.2.2.1 r.2.2.2.2)) (.br (fits (List.length l+1) 40) (.ret ([],[.boxT none [.int .i64 s0,.rowA 1],.row RR (l++[r])])) .no) (.ret ([],[.boxT none [.int .i64 s0,.rowA 1],.row RR l]))) .no) (.ret ([],[.boxT none [.int .i64 s0,.rowA 1],.row RR l])))
def os60:OSpec:={ f:=60,sh:=[.ptr 0 0,.d (.int .i64) false,.d RR true],so:=[.box [.d (.int .i64) false,.row 1],.row RR],F:=fun(sec,r,_) ((s0,_),l,_)=>t60 sec r s0 l }
theorem fn60 (sec:Int) (r:RRt) (s0:Int) (l:List RRt):evC T0 (orcB [] [V2x]) (lpOf h60 2 (lsOf [])) c60 1000000 (Z1 [.ptr 0 0,.int .i64 sec,AV.ofTy RR r true] [.box [.int .i64 s0,.rowA 1],.row RR l] Try.f60.ntmps) (Q0 T0 false 2 Try.f60)=(t60 sec r s0 l).get:=by kernel_rfl
theorem ok60:os60.Ok Try.prog:=by
 refine X4 V2 tab0 (U0 Z0 (all_cons J3l Z0)) h60 (d:=0) (n0:=2) (S:=lsOf []) Try.func60 (by kernel_rfl) (c:=c60) (by kernel_rfl) rfl (U2 (by kernel_rfl)) (by omega) (by kernel_rfl) ?_
 intro x'' y'' q'' hq''
 obtain⟨(sec:Int),(r:RRt),_⟩:=x''
 obtain⟨⟨(s0:Int),_⟩,(l:List RRt),_⟩:=y''
 exact(fn60 sec r s0 l).trans hq''
def Q00 (s0 sec:Int):Int:=bif s0==0 then sec else s0
def U01 (s0 sec:Int) (r:RRt) (l:List RRt):List RRt:=bif Q00 s0 sec==sec&&!l.any (fun o=>sayV o r) then l++[r] else l
def Xl:OSpec:=os60.like fun(sec,r,_) ((s0,_),l,_)=>.on (Nat.ble l.length 900000) ([],[.box [.int .i64 (Q00 s0 sec),.rowA 1],.row RR (U01 s0 sec r l)])
theorem ok60w:Xl.Ok Try.prog:=by
 refine Vd ok60 _ ?_
 rintro⟨(sec:Int),(r:RRt),_⟩ ⟨⟨(s0:Int),_⟩,(l:List RRt),_⟩ r' h
 obtain⟨hb,rfl⟩:=Tr.get_on h
 have hb:Nat.ble l.length 900000=true:=hb
 have hl:=Nat.le_of_ble_eq_true hb
 have hlr:lrB l=true:=Nat.ble_eq_true_of_le (by omega)
 refine Tr.get_of_all ?_
 show (t60 sec r s0 l).all _
 unfold t60 U01 Q00
 have ha:l.any (Zh r.1 r.2.1 r.2.2.1 r.2.2.2.1 r.2.2.2.2)=l.any (fun o=>sayV o r):=rfl
 rw[ha]
 have hf:fits (l.length+1) 40=true:=U08 (by omega) (by omega)
 cases h0:s0==0 with
 | true=>
   refine Tr.all_t rfl (Tr.all_t (by simp) (Tr.all_t hlr ?_))
   cases h1:l.any (fun o=>sayV o r) with
   | true=>exact Tr.all_f rfl (Tr.all_ret (by simp))
   | false=>exact Tr.all_t rfl (Tr.all_t hf (Tr.all_ret (by simp)))
 | false=>
   cases h2:s0==sec with
   | false=>exact Tr.all_f rfl (Tr.all_f rfl (Tr.all_ret (by simp[h2])))
   | true=>
     refine Tr.all_f rfl (Tr.all_t rfl (Tr.all_t hlr ?_))
     cases h1:l.any (fun o=>sayV o r) with
     | true=>exact Tr.all_f rfl (Tr.all_ret (by simp[h2]))
     | false=>exact Tr.all_t rfl (Tr.all_t hf (Tr.all_ret (by simp[h2])))
noncomputable def TQ:Tab:={ T0 with dcl:=true }
theorem tabQ:X2 Try.prog TQ:=Q3a tab0
abbrev ES:=List (QQt×(Int×List RRt))
def V09 (z:List UInt8) (sec:Int) (a:ES×List QQt) (r:RRt):ES×List QQt:=
 bif inV z r then bif hasB (keqD QQ) (keyV r) a.1 then (putB (keqD QQ) (keyV r) (Q00 (getB (keqD QQ) (0,[]) (keyV r) a.1).1 sec,U01 (getB (keqD QQ) (0,[]) (keyV r) a.1).1 sec r (getB (keqD QQ) (0,[]) (keyV r) a.1).2) a.1,a.2)
  else (a.1++[(keyV r,(sec,[r]))],a.2++[keyV r]) else a
def cRun (z:List UInt8) (sec:Int) (l:List RRt) (a:ES×List QQt):ES×List QQt:=l.foldl (V09 z sec) a
theorem keqQ (q:QQt):keqD QQ q q=true:=by simp[keqD]
theorem X0z {κ α:Type} {eq:κ→κ→Bool} {x:κ} (hx:eq x x=true) (u v:α):∀ {es:List (κ×α)},hasB eq x es=false→putB eq x v (putB eq x u es)=es++[(x,v)]
 | [],_=>by simp[putB,hx]
 | e::es,h=>by
   have hq:eq x e.1=false:=(Q0s h).1 0 e rfl
   have h':hasB eq x es=false:=by simpa[hasB,J01,hq] using h
   have ih:=X0z hx u v h'
   simp only[putB,hq,cond_false,List.cons_append,ih]
def BdE (es:ES) (B:Nat):Prop:=∀ e∈es,e.2.2.length≤B
theorem U2b {es:ES} {B:Nat} (h:BdE es B) (q:QQt):(getB (keqD QQ) (0,[]) q es).2.length≤B:=by
 cases hb:hasB (keqD QQ) q es with
 | true=>
   obtain⟨n,e,h1,_,h3,_⟩:=X0j hb
   unfold getB
   rw[h3]
   exact h e (List.mem_of_getElem? h1)
 | false=>
   unfold getB
   unfold hasB at hb
   rw[Option.isSome_eq_false_iff,Option.isNone_iff_eq_none] at hb
   rw[hb]
   exact Nat.zero_le _
theorem J3b {es:ES} {B:Nat} (h:BdE es B) {q:QQt} {v:Int×List RRt} (hv:v.2.length≤B):BdE (putB (keqD QQ) q v es) B:=by
 induction es with
 | nil=>intro e he;simp[putB] at he;subst he;exact hv
 | cons x es ih=>
   intro e he
   unfold putB at he
   cases hq:keqD QQ q x.1 with
   | true=>
     rw[hq] at he
     rcases List.mem_cons.1 he with rfl | he
     ·exact hv
     ·exact h e (List.mem_cons_of_mem _ he)
   | false=>
     rw[hq] at he
     rcases List.mem_cons.1 he with rfl | he
     ·exact h _ (by simp)
     ·exact ih (fun e he=>h e (List.mem_cons_of_mem _ he)) e he
theorem X2y (s0 sec:Int) (r:RRt) (l:List RRt):(U01 s0 sec r l).length≤l.length+1:=by
 unfold U01
 cases (Q00 s0 sec==sec&&!l.any fun o=>sayV o r)<;>simp
theorem Z1n {z:List UInt8} {sec:Int} {a:ES×List QQt} {r:RRt} {B:Nat} (h1:BdE a.1 B) (h2:a.2.length≤B):BdE (V09 z sec a r).1 (B+1)∧(V09 z sec a r).2.length≤B+1:=by
 have up:BdE a.1 (B+1):=fun e he=>Nat.le_succ_of_le (h1 e he)
 unfold V09
 cases inV z r with
 | false=>exact⟨up,by simp only[cond_false];omega⟩
 | true=>
   simp only[cond_true]
   cases hasB (keqD QQ) (keyV r) a.1 with
   | true=>
     simp only[cond_true]
     exact⟨J3b up (Nat.le_trans (X2y (getB (keqD QQ) (0,[]) (keyV r) a.1).1 sec r (getB (keqD QQ) (0,[]) (keyV r) a.1).2) (Nat.succ_le_succ (U2b h1 (keyV r)))),by omega⟩
   | false=>
     simp only[cond_false]
     refine⟨fun e he=>?_,by rw[List.length_append,List.length_singleton];omega⟩
     rcases List.mem_append.1 he with he | he
     ·exact up e he
     ·simp at he
      subst he
      show [r].length≤B+1
      simp
theorem J1f {z:List UInt8} {sec:Int}:∀ (l:List RRt) (a:ES×List QQt) (B:Nat),BdE a.1 B→a.2.length≤B→BdE (cRun z sec l a).1 (B+l.length)∧(cRun z sec l a).2.length≤B+l.length
 | [],a,B,h1,h2=>⟨h1,h2⟩
 | r::l,a,B,h1,h2=>by
   obtain⟨h3,h4⟩:=Z1n (z:=z) (sec:=sec) (r:=r) h1 h2
   have:=J1f (z:=z) (sec:=sec) l (V09 z sec a r) (B+1) h3 h4
   rw[List.length_cons,show B+(l.length+1)=B+1+l.length by omega]
   exact this
def inC (z:List UInt8) (s:Int) (l:List RRt) (n i:Int) (es:ES) (od:List QQt):Bool:=okF l z []&&(secB (s+1)&&(decide (n=(l.length:Int))&&(decide (i=0)&&(Nat.ble l.length 1000&&(es.all (fun e=>Nat.ble e.2.2.length 10000)&&Nat.ble od.length 10000)))))
noncomputable def b34i:Code:=V6 (V6 c34 0) 0
def Z2l:LoopSpec:={ bid:=2,sh:=[.d .str false,.d (.int .u64) false,.d (.int .u32) false,.ptr 0 0,.mp 1,.row 2,.d (.int .i64) false,.d (.pair (.list RR) (.pair (.list RR) (.list RR))) true,.d (.int .i64) false,.d (.list RR) false,.d (.int .i64) false,.d (.int .i64) false],so:=[.box [.d (.int .u16) false,.d .bool false,.d .bool false,.d .bool false,.d .bool false,.d .bool false,.d (.int .i64) false,.d (.int .i64) false,.d (.list QQ) false,.d (.list RR) false,.d (.list RR) false,.d (.list RR) false],.mapb QQ .i64 RR,.row QQ],F:=fun(z,now,most,s,arr,si,l,n,i,_) ((mi,mqr,maa,mtc,mrd,mra,mop,mrc,mq,man,mns,mar,_),es,od,_)=>.on (inC z s l n i es od) (.exit 2,[.str z,.int .u64 now,.int .u32 most,.ptr 0 0,.mp 1,.rowA 2,AV.ofTy (.pair (.list RR) (.pair (.list RR) (.list RR))) arr true,.int .i64 si],[.box [.int .u16 mi,.bool mqr,.bool maa,.bool mtc,.bool mrd,.bool mra,.int .i64 mop,.int .i64 mrc,.list QQ mq,.list RR man,.list RR mns,.list RR mar],.mpb QQ .i64 RR (cRun z (s+1) l (es,od)).1 none,.row QQ (cRun z (s+1) l (es,od)).2]) }
def r34i (z:List UInt8) (now most s:Int) (arr:(List RRt×(List RRt×List RRt))) (si:Int) (l:List RRt) (n i mi:Int) (mqr maa mtc mrd mra:Bool) (mop mrc:Int) (mq:List QQt) (man mns mar:List RRt) (es:List (QQt×(Int×List RRt))) (od:List QQt):Tr (St⊕(Ex×St)):=.br (decide (i < n)) (.br (decide (0≤i)) (.br (decide (i < (↑l.length:Int))) (.br (okR (l.getD i.toNat (Ty.dflt RR))&&smN z) (.br (!inV z (l.getD i.toNat (Ty.dflt RR))) (.ret (.inl (stOf [1,2,3,4,9,10,11,28,29,33,34,35] [.str z,.int .u64 now,.int .u32 most,.ptr 0 0,.mp 1,.rowA 2,.int .i64 s,.agg [.list RR arr.1,.list RR arr.2.1,.list RR arr.2.2],.int .i64 si,.list RR l,.int .i64 n,.int .i64 (IntKind.wrap .i64 (i+1))] [.boxT none [.int .u16 mi,.bool mqr,.bool maa,.bool mtc,.bool mrd,.bool mra,.int .i64 mop,.int .i64 mrc,.list QQ mq,.list RR man,.list RR mns,.list RR mar],LObj.mpb QQ IntKind.i64 RR es none,.row QQ od]))) (.br (hasB (keqD QQ) (keyV (l.getD i.toNat (Ty.dflt RR))) es) (.br (keqD QQ (keyV (l.getD i.toNat (Ty.dflt RR))) (keyV (l.getD i.toNat (Ty.dflt RR)))) (.br (Nat.ble (List.length (getB (keqD QQ) (0,[]) (keyV (l.getD i.toNat (Ty.dflt RR))) es).2) 900000) (.ret (.inl (stOf [1,2,3,4,9,10,11,28,29,33,34,35] [.str z,.int .u64 now,.int .u32 most,.ptr 0 0,.mp 1,.rowA 2,.int .i64 s,.agg [.list RR arr.1,.list RR arr.2.1,.list RR arr.2.2],.int .i64 si,.list RR l,.int .i64 n,.int .i64 (IntKind.wrap .i64 (i+1))] [.boxT none [.int .u16 mi,.bool mqr,.bool maa,.bool mtc,.bool mrd,.bool mra,.int .i64 mop,.int .i64 mrc,.list QQ mq,.list RR man,.list RR mns,.list RR mar],LObj.mpb QQ IntKind.i64 RR (putB (keqD QQ) (keyV (l.getD i.toNat (Ty.dflt RR))) (Q00 (getB (keqD QQ) (0,[]) (keyV (l.getD i.toNat (Ty.dflt RR))) es).1 (IntKind.wrap .i64 (s+1)),U01 (getB (keqD QQ) (0,[]) (keyV (l.getD i.toNat (Ty.dflt RR))) es).1 (IntKind.wrap .i64 (s+1)) (l.getD i.toNat (Ty.dflt RR)) (getB (keqD QQ) (0,[]) (keyV (l.getD i.toNat (Ty.dflt RR))) es).2) es) none,.row QQ od]))) .no) .no) (.br (!hasB (keqD QQ) (keyV (l.getD i.toNat (Ty.dflt RR))) es&&keqD QQ (keyV (l.getD i.toNat (Ty.dflt RR))) (keyV (l.getD i.toNat (Ty.dflt RR)))) (.br (fits (List.length od+1) 24) (.br (keqD QQ (keyV (l.getD i.toNat (Ty.dflt RR))) (keyV (l.getD i.toNat (Ty.dflt RR)))) (.ret (.inl (stOf [1,2,3,4,9,10,11,28,29,33,34,35] [.str z,.int .u64 now,.int .u32 most,.ptr 0 0,.mp 1,.rowA 2,.int .i64 s,.agg [.list RR arr.1,.list RR arr.2.1,.list RR arr.2.2],.int .i64 si,.list RR l,.int .i64 n,.int .i64 (IntKind.wrap .i64 (i+1))] [.boxT none [.int .u16 mi,.bool mqr,.bool maa,.bool mtc,.bool mrd,.bool mra,.int .i64 mop,.int .i64 mrc,.list QQ mq,.list RR man,.list RR mns,.list RR mar],LObj.mpb QQ IntKind.i64 RR (putB (keqD QQ) (keyV (l.getD i.toNat (Ty.dflt RR))) (Q00 0 (IntKind.wrap .i64 (s+1)),U01 0 (IntKind.wrap .i64 (s+1)) (l.getD i.toNat (Ty.dflt RR)) []) (putB (keqD QQ) (keyV (l.getD i.toNat (Ty.dflt RR))) (0,[]) es)) none,.row QQ (od++[keyV (l.getD i.toNat (Ty.dflt RR))])]))) .no) .no) .no))) .no) .no) .no) (.ret (.inr (.exit 2,stOf [1,2,3,4,9,10,28,29] [.str z,.int .u64 now,.int .u32 most,.ptr 0 0,.mp 1,.rowA 2,.agg [.list RR arr.1,.list RR arr.2.1,.list RR arr.2.2],.int .i64 si] [.boxT none [.int .u16 mi,.bool mqr,.bool maa,.bool mtc,.bool mrd,.bool mra,.int .i64 mop,.int .i64 mrc,.list QQ mq,.list RR man,.list RR mns,.list RR mar],LObj.mpb QQ IntKind.i64 RR es none,.row QQ od])))
theorem U2p (lp:Lp) (z:List UInt8) (now most s:Int) (arr:(List RRt×(List RRt×List RRt))) (si:Int) (l:List RRt) (n i mi:Int) (mqr maa mtc mrd mra:Bool) (mop mrc:Int) (mq:List QQt) (man mns mar:List RRt) (es:List (QQt×(Int×List RRt))) (od:List QQt):evC TQ (orcB [Vg,Vi,Vl,Jm,Xj] [Xl,Ul]) lp b34i 2 (stOf [1,2,3,4,9,10,11,28,29,33,34,35] [.str z,.int .u64 now,.int .u32 most,.ptr 0 0,.mp 1,.rowA 2,.int .i64 s,AV.ofTy (.pair (.list RR) (.pair (.list RR) (.list RR))) arr true,.int .i64 si,.list RR l,.int .i64 n,.int .i64 i] [.box [.int .u16 mi,.bool mqr,.bool maa,.bool mtc,.bool mrd,.bool mra,.int .i64 mop,.int .i64 mrc,.list QQ mq,.list RR man,.list RR mns,.list RR mar],.mpb QQ .i64 RR es none,.row QQ od]) (V1 [1,2,3,4,9,10,11,28,29,33,34,35] [1,2,3,4,9,10,28,29] 0)=(r34i z now most s arr si l n i mi mqr maa mtc mrd mra mop mrc mq man mns mar es od).get:=by kernel_rfl
theorem wf34i (z:List UInt8) (now most s:Int) (arr:(List RRt×(List RRt×List RRt))) (si:Int) (l:List RRt) (n mi:Int) (mqr maa mtc mrd mra:Bool) (mop mrc:Int) (mq:List QQt) (man mns mar:List RRt) (I'':Int→List (QQt×(Int×List RRt))→List QQt→Prop) (m'':Int→List (QQt×(Int×List RRt))→List QQt→Nat) (r'':Ex×St) (h:∀ (i:Int) (es:List (QQt×(Int×List RRt))) (od:List QQt),I'' i es od→(r34i z now most s arr si l n i mi mqr maa mtc mrd mra mop mrc mq man mns mar es od).all fun x''=>x''=.inr r''∨∃ (i':Int) (es':List (QQt×(Int×List RRt))) (od':List QQt),x''=.inl (stOf [1,2,3,4,9,10,11,28,29,33,34,35] [.str z,.int .u64 now,.int .u32 most,.ptr 0 0,.mp 1,.rowA 2,.int .i64 s,AV.ofTy (.pair (.list RR) (.pair (.list RR) (.list RR))) arr true,.int .i64 si,.list RR l,.int .i64 n,.int .i64 i'] [.box [.int .u16 mi,.bool mqr,.bool maa,.bool mtc,.bool mrd,.bool mra,.int .i64 mop,.int .i64 mrc,.list QQ mq,.list RR man,.list RR mns,.list RR mar],.mpb QQ .i64 RR es' none,.row QQ od'])∧I'' i' es' od'∧m'' i' es' od' < m'' i es od) (lp:Lp) (i:Int) (es:List (QQt×(Int×List RRt))) (od:List QQt):I'' i es od→
    Z4 (fun st=>evC TQ (orcB [Vg,Vi,Vl,Jm,Xj] [Xl,Ul]) lp b34i 2 st (V1 [1,2,3,4,9,10,11,28,29,33,34,35] [1,2,3,4,9,10,28,29] 0)) (stOf [1,2,3,4,9,10,11,28,29,33,34,35] [.str z,.int .u64 now,.int .u32 most,.ptr 0 0,.mp 1,.rowA 2,.int .i64 s,AV.ofTy (.pair (.list RR) (.pair (.list RR) (.list RR))) arr true,.int .i64 si,.list RR l,.int .i64 n,.int .i64 i] [.box [.int .u16 mi,.bool mqr,.bool maa,.bool mtc,.bool mrd,.bool mra,.int .i64 mop,.int .i64 mrc,.list QQ mq,.list RR man,.list RR mns,.list RR mar],.mpb QQ .i64 RR es none,.row QQ od])=some r'':=
 V7 (fun a'':Int×List (QQt×(Int×List RRt))×List QQt=>stOf [1,2,3,4,9,10,11,28,29,33,34,35] [.str z,.int .u64 now,.int .u32 most,.ptr 0 0,.mp 1,.rowA 2,.int .i64 s,AV.ofTy (.pair (.list RR) (.pair (.list RR) (.list RR))) arr true,.int .i64 si,.list RR l,.int .i64 n,.int .i64 a''.1] [.box [.int .u16 mi,.bool mqr,.bool maa,.bool mtc,.bool mrd,.bool mra,.int .i64 mop,.int .i64 mrc,.list QQ mq,.list RR man,.list RR mns,.list RR mar],.mpb QQ .i64 RR a''.2.1 none,.row QQ a''.2.2]) (fun a''=>I'' a''.1 a''.2.1 a''.2.2) (fun a''=>m'' a''.1 a''.2.1 a''.2.2) r'' (fun a''=>r34i z now most s arr si l n a''.1 mi mqr maa mtc mrd mra mop mrc mq man mns mar a''.2.1 a''.2.2)
  (fun a'' x hx=>(U2p lp z now most s arr si l n a''.1 mi mqr maa mtc mrd mra mop mrc mq man mns mar a''.2.1 a''.2.2).trans hx) (fun a'' ha=>Tr.all_mono (fun x'' hx=>hx.imp id fun⟨i',es',od',h1,h2,h3⟩=>⟨(i',es',od'),h1,h2,h3⟩) (h (a''.1) (a''.2.1) (a''.2.2) ha)) (i,es,od)
theorem Q38:Z2l.Ok TQ (orcB [Vg,Vi,Vl,Jm,Xj] [Xl,Ul]) h34 0 0 b34i:=by
 intro q'' hq'' x'' y'' r'' h
 obtain⟨(z:List UInt8),(now:Int),(most:Int),(s:Int),(arr:(List RRt×(List RRt×List RRt))),(si:Int),(l:List RRt),(n:Int),(i:Int),_⟩:=x''
 obtain⟨⟨(mi:Int),(mqr:Bool),(maa:Bool),(mtc:Bool),(mrd:Bool),(mra:Bool),(mop:Int),(mrc:Int),(mq:List QQt),(man:List RRt),(mns:List RRt),(mar:List RRt),_⟩,(es:List (QQt×(Int×List RRt))),(od:List QQt),_⟩:=y''
 obtain⟨hc,rfl⟩:=Tr.get_on h
 show Z4 (fun st=>evC TQ (orcB [Vg,Vi,Vl,Jm,Xj] [Xl,Ul]) (lpN TQ (orcB [Vg,Vi,Vl,Jm,Xj] [Xl,Ul]) h34 0 q'') b34i 2 st (V1 [1,2,3,4,9,10,11,28,29,33,34,35] [1,2,3,4,9,10,28,29] 0)) (stOf [1,2,3,4,9,10,11,28,29,33,34,35] [.str z,.int .u64 now,.int .u32 most,.ptr 0 0,.mp 1,.rowA 2,.int .i64 s,AV.ofTy (.pair (.list RR) (.pair (.list RR) (.list RR))) arr true,.int .i64 si,.list RR l,.int .i64 n,.int .i64 i] [.box [.int .u16 mi,.bool mqr,.bool maa,.bool mtc,.bool mrd,.bool mra,.int .i64 mop,.int .i64 mrc,.list QQ mq,.list RR man,.list RR mns,.list RR mar],.mpb QQ .i64 RR es none,.row QQ od])=some (.exit 2,stOf [1,2,3,4,9,10,28,29] ([.str z,.int .u64 now,.int .u32 most,.ptr 0 0,.mp 1,.rowA 2,AV.ofTy (.pair (.list RR) (.pair (.list RR) (.list RR))) arr true,.int .i64 si]) ([.box [.int .u16 mi,.bool mqr,.bool maa,.bool mtc,.bool mrd,.bool mra,.int .i64 mop,.int .i64 mrc,.list QQ mq,.list RR man,.list RR mns,.list RR mar],.mpb QQ .i64 RR (cRun z (s+1) l (es,od)).1 none,.row QQ (cRun z (s+1) l (es,od)).2]))
 simp only[inC,okF,okL,Bool.and_eq_true,decide_eq_true_eq] at hc
 obtain⟨⟨⟨hl,hall⟩,hz,_⟩,hs,rfl,rfl,hl3,he,ho⟩:=hc
 have hl:=Nat.le_of_ble_eq_true hl
 have hl3:=Nat.le_of_ble_eq_true hl3
 have ho:=Nat.le_of_ble_eq_true ho
 have he:BdE es 10000:=fun e hh=>Nat.le_of_ble_eq_true (List.all_eq_true.1 he e hh)
 have hs':=hs
 simp only[secB,Bool.and_eq_true,decide_eq_true_eq] at hs'
 refine wf34i z now most s arr si l l.length mi mqr maa mtc mrd mra mop mrc mq man mns mar (fun j e o=>0≤j∧j≤l.length∧BdE e (10000+j.toNat)∧o.length≤10000+j.toNat∧cRun z (s+1) (l.drop j.toNat) (e,o)=cRun z (s+1) l (es,od)) (fun j e o=>(l.length - j).toNat) _ ?_ _ 0 es od ⟨by omega,by omega,he,ho,rfl⟩
 rintro j e o ⟨h0,h1,g1,g2,g3⟩
 unfold r34i
 rw[V8 h0 h1 (by omega),IntWalk.i64_in (s+1) (by omega)]
 by_cases hj:j < l.length
 ·have hok:=U02 hall h0 hj
  rw[J9 (l:=l) (k:=j.toNat) (by omega) (Ty.dflt RR)] at g3
  generalize l.getD j.toNat (Ty.dflt RR)=x at *
  have g4:cRun z (s+1) (l.drop (j+1).toNat) (V09 z (s+1) (e,o) x)=cRun z (s+1) l (es,od):=by rw[show (j+1).toNat=j.toNat+1 by omega];exact g3
  obtain⟨g5,g6⟩:=Z1n (z:=z) (sec:=s+1) (r:=x) (a:=(e,o)) g1 g2
  rw[show 10000+j.toNat+1=10000+(j+1).toNat by omega] at g5 g6
  have hgo:∀ a:ES×List QQt,V09 z (s+1) (e,o) x=a→BdE a.1 (10000+(j+1).toNat)∧a.2.length≤10000+(j+1).toNat∧cRun z (s+1) (l.drop (j+1).toNat) a=cRun z (s+1) l (es,od):=fun a ha=>by subst ha;exact⟨g5,g6,g4⟩
  clear g3 g4 g5 g6
  refine Tr.all_t (J0 hj) (Tr.all_t (J0 h0) (Tr.all_t (J0 hj) (Tr.all_t (by rw[hok,hz];rfl) (Tr.all_br (fun c=>?_) fun c=>?_))))
  ·have c:inV z x=false:=by simpa using c
   have:=hgo (e,o) (by simp only[V09,c,cond_false])
   exact Tr.all_ret (.inr ⟨_,_,_,rfl,⟨by omega,by omega,this⟩,by omega⟩)
  ·have c:inV z x=true:=by simpa using c
   refine Tr.all_br (fun c2=>?_) fun c2=>?_
   ·have:=hgo (putB (keqD QQ) (keyV x) (Q00 (getB (keqD QQ) (0,[]) (keyV x) e).1 (s+1),U01 (getB (keqD QQ) (0,[]) (keyV x) e).1 (s+1) x (getB (keqD QQ) (0,[]) (keyV x) e).2) e,o) (by simp only[V09,c,c2,cond_true])
    have hgl:=U2b g1 (keyV x)
    exact Tr.all_t (keqQ _) (Tr.all_t (Nat.ble_eq_true_of_le (by omega)) (Tr.all_ret (.inr ⟨_,_,_,rfl,⟨by omega,by omega,this⟩,by omega⟩)))
   ·have hq:=X0z (keqQ (keyV x)) ((0:Int),([]:List RRt)) (Q00 0 (s+1),U01 0 (s+1) x []) c2
    have:=hgo (e++[(keyV x,(s+1,[x]))],o++[keyV x]) (by simp only[V09,c,c2,cond_true,cond_false])
    have hv:(Q00 0 (s+1),U01 0 (s+1) x [])=(s+1,[x]):=by simp[Q00,U01]
    have hq:putB (keqD QQ) (keyV x) (Q00 0 (s+1),U01 0 (s+1) x []) (putB (keqD QQ) (keyV x) (0,[]) e)=e++[(keyV x,(s+1,[x]))]:=(X0z (keqQ (keyV x)) _ _ c2).trans (by rw[hv])
    refine Tr.all_t (by rw[c2,keqQ];rfl) (Tr.all_t (U08 (by omega) (by omega)) (Tr.all_t (keqQ _) (Tr.all_ret (.inr ⟨_,_,_,rfl,⟨by omega,by omega,?_⟩,by omega⟩))))
    rw[hq]
    exact this
 ·refine Tr.all_f (V0 hj) (Tr.all_ret (.inl ?_))
  rw[List.drop_eq_nil_of_le (by omega)] at g3
  rw[←g3]
  rfl
theorem Q24 {z:List UInt8} {s:Int} {l:List RRt} {es:ES} {od:List QQt} (h:okF l z []=true) (hs:secB (s+1)=true) (hl:l.length≤1000) (he:BdE es 10000) (ho:od.length≤10000):inC z s l (l.length:Int) 0 es od=true:=by
 unfold inC
 rw[h,hs,Nat.ble_eq_true_of_le hl,Nat.ble_eq_true_of_le ho,List.all_eq_true.2 fun e hh=>Nat.ble_eq_true_of_le (he e hh)]
 simp
def okS3 (z:List UInt8) (l:List RRt):Bool:=okF l z []&&Nat.ble l.length 1000
def outC (z:List UInt8) (arr:List RRt×(List RRt×List RRt)) (si:Int) (es:ES) (od:List QQt):Bool:=decide (si=0)&&((es.isEmpty&&od.isEmpty)&&(okS3 z arr.1&&(okS3 z arr.2.1&&okS3 z arr.2.2)))
def cAll (z:List UInt8) (arr:List RRt×(List RRt×List RRt)):ES×List QQt:=cRun z 3 arr.2.2 (cRun z 2 arr.2.1 (cRun z 1 arr.1 ([],[])))
noncomputable def b34o:Code:=V6 c34 0
def Q2q:LoopSpec:={ bid:=0,sh:=[.d .str false,.d (.int .u64) false,.d (.int .u32) false,.ptr 0 0,.mp 1,.row 2,.d (.pair (.list RR) (.pair (.list RR) (.list RR))) true,.d (.int .i64) false],so:=[.box [.d (.int .u16) false,.d .bool false,.d .bool false,.d .bool false,.d .bool false,.d .bool false,.d (.int .i64) false,.d (.int .i64) false,.d (.list QQ) false,.d (.list RR) false,.d (.list RR) false,.d (.list RR) false],.mapb QQ .i64 RR,.row QQ],F:=fun(z,now,most,arr,si,_) ((mi,mqr,maa,mtc,mrd,mra,mop,mrc,mq,man,mns,mar,_),es,od,_)=>.on (outC z arr si es od) (.exit 0,[.int .u64 now,.int .u32 most,.ptr 0 0,.mp 1,.rowA 2],[.box [.int .u16 mi,.bool mqr,.bool maa,.bool mtc,.bool mrd,.bool mra,.int .i64 mop,.int .i64 mrc,.list QQ mq,.list RR man,.list RR mns,.list RR mar],.mpb QQ .i64 RR (cAll z arr).1 none,.row QQ (cAll z arr).2]) }
def r34o (z:List UInt8) (now most:Int) (arr:(List RRt×(List RRt×List RRt))) (si mi:Int) (mqr maa mtc mrd mra:Bool) (mop mrc:Int) (mq:List QQt) (man mns mar:List RRt) (es:List (QQt×(Int×List RRt))) (od:List QQt):Tr (St⊕(Ex×St)):=.br (decide (si < 3)) (.br (decide (si=(↑0:Int))) (.br (inC z si arr.1 (↑arr.1.length:Int) 0 es od) (.ret (.inl (stOf [1,2,3,4,9,10,28,29] [.str z,.int .u64 now,.int .u32 most,.ptr 0 0,.mp 1,.rowA 2,.agg [.list RR arr.1,.list RR arr.2.1,.list RR arr.2.2],.int .i64 (IntKind.wrap .i64 (si+1))] [.boxT none [.int .u16 mi,.bool mqr,.bool maa,.bool mtc,.bool mrd,.bool mra,.int .i64 mop,.int .i64 mrc,.list QQ mq,.list RR man,.list RR mns,.list RR mar],LObj.mpb QQ IntKind.i64 RR (cRun z (si+1) arr.1 (es,od)).1 none,.row QQ (cRun z (si+1) arr.1 (es,od)).2]))) .no) (.br (decide (si=(↑(0+1):Int))) (.br (inC z si arr.2.1 (↑arr.2.1.length:Int) 0 es od) (.ret (.inl (stOf [1,2,3,4,9,10,28,29] [.str z,.int .u64 now,.int .u32 most,.ptr 0 0,.mp 1,.rowA 2,.agg [.list RR arr.1,.list RR arr.2.1,.list RR arr.2.2],.int .i64 (IntKind.wrap .i64 (si+1))] [.boxT none [.int .u16 mi,.bool mqr,.bool maa,.bool mtc,.bool mrd,.bool mra,.int .i64 mop,.int .i64 mrc,.list QQ mq,.list RR man,.list RR mns,.list RR mar],LObj.mpb QQ IntKind.i64 RR (cRun z (si+1) arr.2.1 (es,od)).1 none,.row QQ (cRun z (si+1) arr.2.1 (es,od)).2]))) .no) (.br (decide (si=(↑(0+1+1):Int))) (.br (inC z si arr.2.2 (↑arr.2.2.length:Int) 0 es od) (.ret (.inl (stOf [1,2,3,4,9,10,28,29] [.str z,.int .u64 now,.int .u32 most,.ptr 0 0,.mp 1,.rowA 2,.agg [.list RR arr.1,.list RR arr.2.1,.list RR arr.2.2],.int .i64 (IntKind.wrap .i64 (si+1))] [.boxT none [.int .u16 mi,.bool mqr,.bool maa,.bool mtc,.bool mrd,.bool mra,.int .i64 mop,.int .i64 mrc,.list QQ mq,.list RR man,.list RR mns,.list RR mar],LObj.mpb QQ IntKind.i64 RR (cRun z (si+1) arr.2.2 (es,od)).1 none,.row QQ (cRun z (si+1) arr.2.2 (es,od)).2]))) .no) .no))) (.ret (.inr (.exit 0,stOf [2,3,4,9,10] [.int .u64 now,.int .u32 most,.ptr 0 0,.mp 1,.rowA 2] [.boxT none [.int .u16 mi,.bool mqr,.bool maa,.bool mtc,.bool mrd,.bool mra,.int .i64 mop,.int .i64 mrc,.list QQ mq,.list RR man,.list RR mns,.list RR mar],LObj.mpb QQ IntKind.i64 RR es none,.row QQ od])))
theorem J30 (z:List UInt8) (now most:Int) (arr:(List RRt×(List RRt×List RRt))) (si mi:Int) (mqr maa mtc mrd mra:Bool) (mop mrc:Int) (mq:List QQt) (man mns mar:List RRt) (es:List (QQt×(Int×List RRt))) (od:List QQt):evC TQ (orcB [Vg,Vi,Vl,Jm,Xj] [Xl,Ul]) (lpOf h34 0 (lsOf [Z2l])) b34o 0 (stOf [1,2,3,4,9,10,28,29] [.str z,.int .u64 now,.int .u32 most,.ptr 0 0,.mp 1,.rowA 2,AV.ofTy (.pair (.list RR) (.pair (.list RR) (.list RR))) arr true,.int .i64 si] [.box [.int .u16 mi,.bool mqr,.bool maa,.bool mtc,.bool mrd,.bool mra,.int .i64 mop,.int .i64 mrc,.list QQ mq,.list RR man,.list RR mns,.list RR mar],.mpb QQ .i64 RR es none,.row QQ od]) (V1 [1,2,3,4,9,10,28,29] [2,3,4,9,10] 0)=(r34o z now most arr si mi mqr maa mtc mrd mra mop mrc mq man mns mar es od).get:=by kernel_rfl
theorem wf34o (z:List UInt8) (now most:Int) (arr:(List RRt×(List RRt×List RRt))) (mi:Int) (mqr maa mtc mrd mra:Bool) (mop mrc:Int) (mq:List QQt) (man mns mar:List RRt) (I'':Int→List (QQt×(Int×List RRt))→List QQt→Prop) (m'':Int→List (QQt×(Int×List RRt))→List QQt→Nat) (r'':Ex×St) (h:∀ (si:Int) (es:List (QQt×(Int×List RRt))) (od:List QQt),I'' si es od→(r34o z now most arr si mi mqr maa mtc mrd mra mop mrc mq man mns mar es od).all fun x''=>x''=.inr r''∨∃ (si':Int) (es':List (QQt×(Int×List RRt))) (od':List QQt),x''=.inl (stOf [1,2,3,4,9,10,28,29] [.str z,.int .u64 now,.int .u32 most,.ptr 0 0,.mp 1,.rowA 2,AV.ofTy (.pair (.list RR) (.pair (.list RR) (.list RR))) arr true,.int .i64 si'] [.box [.int .u16 mi,.bool mqr,.bool maa,.bool mtc,.bool mrd,.bool mra,.int .i64 mop,.int .i64 mrc,.list QQ mq,.list RR man,.list RR mns,.list RR mar],.mpb QQ .i64 RR es' none,.row QQ od'])∧I'' si' es' od'∧m'' si' es' od' < m'' si es od) (q'':Nat) (hq'':1≤q'') (si:Int) (es:List (QQt×(Int×List RRt))) (od:List QQt):I'' si es od→
    Z4 (fun st=>evC TQ (orcB [Vg,Vi,Vl,Jm,Xj] [Xl,Ul]) (lpN TQ (orcB [Vg,Vi,Vl,Jm,Xj] [Xl,Ul]) h34 0 q'') b34o 0 st (V1 [1,2,3,4,9,10,28,29] [2,3,4,9,10] 0)) (stOf [1,2,3,4,9,10,28,29] [.str z,.int .u64 now,.int .u32 most,.ptr 0 0,.mp 1,.rowA 2,AV.ofTy (.pair (.list RR) (.pair (.list RR) (.list RR))) arr true,.int .i64 si] [.box [.int .u16 mi,.bool mqr,.bool maa,.bool mtc,.bool mrd,.bool mra,.int .i64 mop,.int .i64 mrc,.list QQ mq,.list RR man,.list RR mns,.list RR mar],.mpb QQ .i64 RR es none,.row QQ od])=some r'':=
 V7 (fun a'':Int×List (QQt×(Int×List RRt))×List QQt=>stOf [1,2,3,4,9,10,28,29] [.str z,.int .u64 now,.int .u32 most,.ptr 0 0,.mp 1,.rowA 2,AV.ofTy (.pair (.list RR) (.pair (.list RR) (.list RR))) arr true,.int .i64 a''.1] [.box [.int .u16 mi,.bool mqr,.bool maa,.bool mtc,.bool mrd,.bool mra,.int .i64 mop,.int .i64 mrc,.list QQ mq,.list RR man,.list RR mns,.list RR mar],.mpb QQ .i64 RR a''.2.1 none,.row QQ a''.2.2]) (fun a''=>I'' a''.1 a''.2.1 a''.2.2) (fun a''=>m'' a''.1 a''.2.1 a''.2.2) r'' (fun a''=>r34o z now most arr a''.1 mi mqr maa mtc mrd mra mop mrc mq man mns mar a''.2.1 a''.2.2)
  (fun a'' x hx=>V1w (d:=0) (S:=lsOf [Z2l]) (U2y (xs:=[(2,b34i)]) (by kernel_rfl) (all_cons (U7 Q38) Z0)) (by omega) ((J30 z now most arr a''.1 mi mqr maa mtc mrd mra mop mrc mq man mns mar a''.2.1 a''.2.2).trans hx)) (fun a'' ha=>Tr.all_mono (fun x'' hx=>hx.imp id fun⟨si',es',od',h1,h2,h3⟩=>⟨(si',es',od'),h1,h2,h3⟩) (h (a''.1) (a''.2.1) (a''.2.2) ha)) (si,es,od)
theorem X3a:Q2q.Ok TQ (orcB [Vg,Vi,Vl,Jm,Xj] [Xl,Ul]) h34 0 1 b34o:=by
 intro q'' hq'' x'' y'' r'' h
 obtain⟨(z:List UInt8),(now:Int),(most:Int),(arr:(List RRt×(List RRt×List RRt))),(si:Int),_⟩:=x''
 obtain⟨⟨(mi:Int),(mqr:Bool),(maa:Bool),(mtc:Bool),(mrd:Bool),(mra:Bool),(mop:Int),(mrc:Int),(mq:List QQt),(man:List RRt),(mns:List RRt),(mar:List RRt),_⟩,(es:List (QQt×(Int×List RRt))),(od:List QQt),_⟩:=y''
 obtain⟨hc,rfl⟩:=Tr.get_on h
 show Z4 (fun st=>evC TQ (orcB [Vg,Vi,Vl,Jm,Xj] [Xl,Ul]) (lpN TQ (orcB [Vg,Vi,Vl,Jm,Xj] [Xl,Ul]) h34 0 q'') b34o 0 st (V1 [1,2,3,4,9,10,28,29] [2,3,4,9,10] 0)) (stOf [1,2,3,4,9,10,28,29] [.str z,.int .u64 now,.int .u32 most,.ptr 0 0,.mp 1,.rowA 2,AV.ofTy (.pair (.list RR) (.pair (.list RR) (.list RR))) arr true,.int .i64 si] [.box [.int .u16 mi,.bool mqr,.bool maa,.bool mtc,.bool mrd,.bool mra,.int .i64 mop,.int .i64 mrc,.list QQ mq,.list RR man,.list RR mns,.list RR mar],.mpb QQ .i64 RR es none,.row QQ od])=some (.exit 0,stOf [2,3,4,9,10] ([.int .u64 now,.int .u32 most,.ptr 0 0,.mp 1,.rowA 2]) ([.box [.int .u16 mi,.bool mqr,.bool maa,.bool mtc,.bool mrd,.bool mra,.int .i64 mop,.int .i64 mrc,.list QQ mq,.list RR man,.list RR mns,.list RR mar],.mpb QQ .i64 RR (cAll z arr).1 none,.row QQ (cAll z arr).2]))
 simp only[outC,okS3,Bool.and_eq_true,decide_eq_true_eq,List.isEmpty_iff] at hc
 obtain⟨rfl,⟨rfl,rfl⟩,⟨a1,a2⟩,⟨b1,b2⟩,c1,c2⟩:=hc
 have a2:=Nat.le_of_ble_eq_true a2
 have b2:=Nat.le_of_ble_eq_true b2
 have c2:=Nat.le_of_ble_eq_true c2
 have e0:BdE ([]:ES) 0:=fun e h=>by cases h
 obtain⟨e1,o1⟩:=J1f (z:=z) (sec:=1) arr.1 ([],[]) 0 e0 (Nat.le_refl _)
 obtain⟨e2,o2⟩:=J1f (z:=z) (sec:=2) arr.2.1 (cRun z 1 arr.1 ([],[])) _ e1 o1
 have up:∀ (es:ES) (B:Nat),BdE es B→B≤10000→BdE es 10000:=fun es B h hB e he=>Nat.le_trans (h e he) hB
 refine wf34o z now most arr mi mqr maa mtc mrd mra mop mrc mq man mns mar (fun si e o=>(si=0∧e=[]∧o=[])∨(si=1∧e=(cRun z 1 arr.1 ([],[])).1∧o=(cRun z 1 arr.1 ([],[])).2)∨(si=2∧e=(cRun z 2 arr.2.1 (cRun z 1 arr.1 ([],[]))).1∧o=(cRun z 2 arr.2.1 (cRun z 1 arr.1 ([],[]))).2)∨(si=3∧e=(cAll z arr).1∧o=(cAll z arr).2)) (fun si e o=>(3 - si).toNat) _ ?_ _ hq'' 0 [] [] (.inl ⟨rfl,rfl,rfl⟩)
 intro si e o h
 unfold r34o
 rw[IntWalk.i64_in (si+1) (by omega)]
 rcases h with ⟨rfl,rfl,rfl⟩ | ⟨rfl,rfl,rfl⟩ | ⟨rfl,rfl,rfl⟩ | ⟨rfl,rfl,rfl⟩
 ·exact Tr.all_t rfl (Tr.all_t rfl (Tr.all_t (Q24 a1 rfl a2 (up _ _ e0 (by omega)) (by simp)) (Tr.all_ret (.inr ⟨_,_,_,rfl,.inr (.inl ⟨rfl,rfl,rfl⟩),by decide⟩))))
 ·exact Tr.all_t rfl (Tr.all_f rfl (Tr.all_t rfl (Tr.all_t (Q24 b1 rfl b2 (up _ _ e1 (by omega)) (by omega)) (Tr.all_ret (.inr ⟨_,_,_,rfl,.inr (.inr (.inl ⟨rfl,rfl,rfl⟩)),by decide⟩)))))
 ·exact Tr.all_t rfl (Tr.all_f rfl (Tr.all_f rfl (Tr.all_t rfl (Tr.all_t (Q24 c1 rfl c2 (up _ _ e2 (by omega)) (by omega)) (Tr.all_ret (.inr ⟨_,_,_,rfl,.inr (.inr (.inr ⟨rfl,rfl,rfl⟩)),by decide⟩))))))
 ·exact Tr.all_f rfl (Tr.all_ret (.inl rfl))
abbrev EN:Ty:=.pair QQ (.pair (.list RR) (.pair (.int .i64) (.pair (.int .i64) (.int .u64))))
abbrev ENt:=QQt×(List RRt×(Int×(Int×Int)))
def entV (now most:Int) (aa:Bool) (e:QQt×(Int×List RRt)):ENt:=(e.1,(J2w e.2.2 (U00 e.2.2 most),(0,(X2a e.2.1 aa,Jb now (U00 e.2.2 most)))))
def entQ (now most:Int) (aa:Bool) (es:ES) (q:QQt):ENt:=entV now most aa (q,getB (keqD QQ) (0,[]) q es)
theorem Z2d {q:QQt} {es:ES} (h:hasB (keqD QQ) q es=true):putB (keqD QQ) q (getB (keqD QQ) (0,[]) q es) es=es:=by
 obtain⟨n,e,h1,_,h3,h4⟩:=X0j h
 rw[h4]
 unfold getB
 rw[h3]
 obtain⟨hn,rfl⟩:=List.getElem?_eq_some_iff.1 h1
 exact List.set_getElem_self hn
def entB (most:Int) (e:Int×List RRt):Bool:=lrB e.2&&(secB e.1&&u32B (U00 e.2 most))
def enC (es:ES) (od:List QQt) (out:List ENt) (now most n i:Int):Bool:=decide (n=(od.length:Int))&&(decide (i=0)&&(Nat.ble od.length 100000&&(out.isEmpty&&(u64B now&&od.all fun q=>hasB (keqD QQ) q es&&entB most (getB (keqD QQ) (0,[]) q es)))))
noncomputable def b34e:Code:=V6 c34 1
def X2s:LoopSpec:={ bid:=4,sh:=[.d (.int .u64) false,.d (.int .u32) false,.ptr 0 0,.mp 1,.row 2,.row 3,.d (.int .i64) false,.d (.int .i64) false],so:=[.box [.d (.int .u16) false,.d .bool false,.d .bool false,.d .bool false,.d .bool false,.d .bool false,.d (.int .i64) false,.d (.int .i64) false,.d (.list QQ) false,.d (.list RR) false,.d (.list RR) false,.d (.list RR) false],.mapb QQ .i64 RR,.row EN,.row QQ],F:=fun(now,most,n,i,_) ((mi,mqr,maa,mtc,mrd,mra,mop,mrc,mq,man,mns,mar,_),es,out,od,_)=>.on (enC es od out now most n i) (.exit 4,[.rowA 0],[.row EN (od.map (entQ now most maa es))]) }
def r34e (now most n i mi:Int) (mqr maa mtc mrd mra:Bool) (mop mrc:Int) (mq:List QQt) (man mns mar:List RRt) (es:List (QQt×(Int×List RRt))) (out:List ENt) (od:List QQt):Tr (St⊕(Ex×St)):=.br (decide (i < n)) (.br (decide (0≤i)) (.br (decide (i < (↑od.length:Int))) (.br (hasB (keqD QQ) (od.getD i.toNat (Ty.dflt QQ)) es) (.br (lrB (getB (keqD QQ) (0,[]) (od.getD i.toNat (Ty.dflt QQ)) es).2) (.br (lrB (getB (keqD QQ) (0,[]) (od.getD i.toNat (Ty.dflt QQ)) es).2) (.br (secB (getB (keqD QQ) (0,[]) (od.getD i.toNat (Ty.dflt QQ)) es).1) (.br (u64B now&&u32B (U00 (getB (keqD QQ) (0,[]) (od.getD i.toNat (Ty.dflt QQ)) es).2 most)) (.br (fits (List.length out+1) 72) (.ret (.inl (stOf [2,3,4,9,16,66,67,68] [.int .u64 now,.int .u32 most,.ptr 0 0,.mp 1,.rowA 2,.rowA 3,.int .i64 n,.int .i64 (IntKind.wrap .i64 (i+1))] [.boxT none [.int .u16 mi,.bool mqr,.bool maa,.bool mtc,.bool mrd,.bool mra,.int .i64 mop,.int .i64 mrc,.list QQ mq,.list RR man,.list RR mns,.list RR mar],LObj.mpb QQ IntKind.i64 RR (putB (keqD QQ) (od.getD i.toNat (Ty.dflt QQ)) (getB (keqD QQ) (0,[]) (od.getD i.toNat (Ty.dflt QQ)) es) es) none,.row EN (out++[(od.getD i.toNat (Ty.dflt QQ),J2w (getB (keqD QQ) (0,[]) (od.getD i.toNat (Ty.dflt QQ)) es).2 (U00 (getB (keqD QQ) (0,[]) (od.getD i.toNat (Ty.dflt QQ)) es).2 most),0,X2a (getB (keqD QQ) (0,[]) (od.getD i.toNat (Ty.dflt QQ)) es).1 maa,Jb now (U00 (getB (keqD QQ) (0,[]) (od.getD i.toNat (Ty.dflt QQ)) es).2 most))]),.row QQ od]))) .no) .no) .no) .no) .no) .no) .no) .no) (.ret (.inr (.exit 4,stOf [16] [.rowA 0] [.row EN out])))
theorem J32 (lp:Lp) (now most n i mi:Int) (mqr maa mtc mrd mra:Bool) (mop mrc:Int) (mq:List QQt) (man mns mar:List RRt) (es:List (QQt×(Int×List RRt))) (out:List ENt) (od:List QQt):evC TQ (orcB [Vg,Vi,Vl,Jm,Xj] [Xl,Ul]) lp b34e 4 (stOf [2,3,4,9,16,66,67,68] [.int .u64 now,.int .u32 most,.ptr 0 0,.mp 1,.rowA 2,.rowA 3,.int .i64 n,.int .i64 i] [.box [.int .u16 mi,.bool mqr,.bool maa,.bool mtc,.bool mrd,.bool mra,.int .i64 mop,.int .i64 mrc,.list QQ mq,.list RR man,.list RR mns,.list RR mar],.mpb QQ .i64 RR es none,.row EN out,.row QQ od]) (V1 [2,3,4,9,16,66,67,68] [16] 0)=(r34e now most n i mi mqr maa mtc mrd mra mop mrc mq man mns mar es out od).get:=by kernel_rfl
theorem wf34e (now most n mi:Int) (mqr maa mtc mrd mra:Bool) (mop mrc:Int) (mq:List QQt) (man mns mar:List RRt) (es:List (QQt×(Int×List RRt))) (od:List QQt) (I'':Int→List ENt→Prop) (m'':Int→List ENt→Nat) (r'':Ex×St) (h:∀ (i:Int) (out:List ENt),I'' i out→(r34e now most n i mi mqr maa mtc mrd mra mop mrc mq man mns mar es out od).all fun x''=>x''=.inr r''∨∃ (i':Int) (out':List ENt),x''=.inl (stOf [2,3,4,9,16,66,67,68] [.int .u64 now,.int .u32 most,.ptr 0 0,.mp 1,.rowA 2,.rowA 3,.int .i64 n,.int .i64 i'] [.box [.int .u16 mi,.bool mqr,.bool maa,.bool mtc,.bool mrd,.bool mra,.int .i64 mop,.int .i64 mrc,.list QQ mq,.list RR man,.list RR mns,.list RR mar],.mpb QQ .i64 RR es none,.row EN out',.row QQ od])∧I'' i' out'∧m'' i' out' < m'' i out) (lp:Lp) (i:Int) (out:List ENt):I'' i out→
    Z4 (fun st=>evC TQ (orcB [Vg,Vi,Vl,Jm,Xj] [Xl,Ul]) lp b34e 4 st (V1 [2,3,4,9,16,66,67,68] [16] 0)) (stOf [2,3,4,9,16,66,67,68] [.int .u64 now,.int .u32 most,.ptr 0 0,.mp 1,.rowA 2,.rowA 3,.int .i64 n,.int .i64 i] [.box [.int .u16 mi,.bool mqr,.bool maa,.bool mtc,.bool mrd,.bool mra,.int .i64 mop,.int .i64 mrc,.list QQ mq,.list RR man,.list RR mns,.list RR mar],.mpb QQ .i64 RR es none,.row EN out,.row QQ od])=some r'':=
 V7 (fun a'':Int×List ENt=>stOf [2,3,4,9,16,66,67,68] [.int .u64 now,.int .u32 most,.ptr 0 0,.mp 1,.rowA 2,.rowA 3,.int .i64 n,.int .i64 a''.1] [.box [.int .u16 mi,.bool mqr,.bool maa,.bool mtc,.bool mrd,.bool mra,.int .i64 mop,.int .i64 mrc,.list QQ mq,.list RR man,.list RR mns,.list RR mar],.mpb QQ .i64 RR es none,.row EN a''.2,.row QQ od]) (fun a''=>I'' a''.1 a''.2) (fun a''=>m'' a''.1 a''.2) r'' (fun a''=>r34e now most n a''.1 mi mqr maa mtc mrd mra mop mrc mq man mns mar es a''.2 od)
  (fun a'' x hx=>(J32 lp now most n a''.1 mi mqr maa mtc mrd mra mop mrc mq man mns mar es a''.2 od).trans hx) (fun a'' ha=>Tr.all_mono (fun x'' hx=>hx.imp id fun⟨i',out',h1,h2,h3⟩=>⟨(i',out'),h1,h2,h3⟩) (h (a''.1) (a''.2) ha)) (i,out)
theorem J33:X2s.Ok TQ (orcB [Vg,Vi,Vl,Jm,Xj] [Xl,Ul]) h34 0 0 b34e:=by
 intro q'' hq'' x'' y'' r'' h
 obtain⟨(now:Int),(most:Int),(n:Int),(i:Int),_⟩:=x''
 obtain⟨⟨(mi:Int),(mqr:Bool),(maa:Bool),(mtc:Bool),(mrd:Bool),(mra:Bool),(mop:Int),(mrc:Int),(mq:List QQt),(man:List RRt),(mns:List RRt),(mar:List RRt),_⟩,(es:List (QQt×(Int×List RRt))),(out:List ENt),(od:List QQt),_⟩:=y''
 obtain⟨hc,rfl⟩:=Tr.get_on h
 show Z4 (fun st=>evC TQ (orcB [Vg,Vi,Vl,Jm,Xj] [Xl,Ul]) (lpN TQ (orcB [Vg,Vi,Vl,Jm,Xj] [Xl,Ul]) h34 0 q'') b34e 4 st (V1 [2,3,4,9,16,66,67,68] [16] 0)) (stOf [2,3,4,9,16,66,67,68] [.int .u64 now,.int .u32 most,.ptr 0 0,.mp 1,.rowA 2,.rowA 3,.int .i64 n,.int .i64 i] [.box [.int .u16 mi,.bool mqr,.bool maa,.bool mtc,.bool mrd,.bool mra,.int .i64 mop,.int .i64 mrc,.list QQ mq,.list RR man,.list RR mns,.list RR mar],.mpb QQ .i64 RR es none,.row EN out,.row QQ od])=some (.exit 4,stOf [16] ([.rowA 0]) ([.row EN (od.map (entQ now most maa es))]))
 simp only[enC,Bool.and_eq_true,decide_eq_true_eq,List.isEmpty_iff] at hc
 obtain⟨rfl,rfl,hl,rfl,hn,hall⟩:=hc
 have hl:=Nat.le_of_ble_eq_true hl
 refine wf34e now most od.length mi mqr maa mtc mrd mra mop mrc mq man mns mar es od (fun j o=>0≤j∧j≤od.length∧o.length=j.toNat∧o++(od.drop j.toNat).map (entQ now most maa es)=od.map (entQ now most maa es)) (fun j o=>(od.length - j).toNat) _ ?_ _ 0 [] ⟨by omega,by omega,rfl,rfl⟩
 rintro j o ⟨h0,h1,g1,g2⟩
 unfold r34e
 rw[V8 h0 h1 (by omega)]
 by_cases hj:j < od.length
 ·have hx:(od.getD j.toNat (Ty.dflt QQ))∈od:=by
   rw[List.getD_eq_getElem?_getD,List.getElem?_eq_getElem (by omega)]
   exact List.getElem_mem _
  obtain⟨c1,c2⟩:=Bool.and_eq_true_iff.1 (List.all_eq_true.1 hall _ hx)
  simp only[entB,Bool.and_eq_true] at c2
  obtain⟨d1,d2,d3⟩:=c2
  rw[J9 (l:=od) (k:=j.toNat) (by omega) (Ty.dflt QQ)] at g2
  generalize od.getD j.toNat (Ty.dflt QQ)=x at *
  rw[Z2d c1]
  refine Tr.all_t (J0 hj) (Tr.all_t (J0 h0) (Tr.all_t (J0 hj) (Tr.all_t c1 (Tr.all_t d1 (Tr.all_t d1 (Tr.all_t d2 (Tr.all_t (by rw[hn,d3];rfl) (Tr.all_t (U08 (by omega) (by omega)) (Tr.all_ret (.inr ⟨_,_,rfl,⟨by omega,by omega,by rw[List.length_append,List.length_singleton];omega,?_⟩,by omega⟩))))))))))
  rw[show (j+1).toNat=j.toNat+1 by omega,List.append_assoc]
  exact g2
 ·refine Tr.all_f (V0 hj) (Tr.all_ret (.inl ?_))
  rw[List.drop_eq_nil_of_le (by omega)] at g2
  simp only[List.map_nil,List.append_nil] at g2
  rw[g2]
def t34 (m:MGt) (z:List UInt8) (now most:Int):Tr Res:=.br (outC z m.2.2.2.2.2.2.2.2.2 0 [] []) (.br (enC (cAll z m.2.2.2.2.2.2.2.2.2).1 (cAll z m.2.2.2.2.2.2.2.2.2).2 [] now most (↑(List.length (cAll z m.2.2.2.2.2.2.2.2.2).2):Int) 0) (.ret ([.list EN (List.map (entQ now most m.2.2.1 (cAll z m.2.2.2.2.2.2.2.2.2).1) (cAll z m.2.2.2.2.2.2.2.2.2).2)],[])) .no) .no
def os34:OSpec:={ f:=34,sh:=[.d MG true,.d .str false,.d (.int .u64) false,.d (.int .u32) false],so:=[],F:=fun(m,z,now,most,_) _=>t34 m z now most }
theorem fn34 (m:MGt) (z:List UInt8) (now most:Int):evC TQ (orcB [Vg,Vi,Vl,Jm,Xj] [Xl,Ul]) (lpOf h34 0 (lsOf [Q2q,X2s])) c34 1000000 (Z1 [AV.ofTy MG m true,.str z,.int .u64 now,.int .u32 most] [] Try.f34.ntmps) (Q0 TQ false 0 Try.f34)=(t34 m z now most).get:=by kernel_rfl
theorem ok34:os34.Ok Try.prog:=by
 refine X4 V2 tabQ (U0 (all_cons V12 (all_cons U26 (all_cons X3s (all_cons J3o (all_cons U2l Z0))))) (all_cons ok60w (all_cons ok62w Z0))) h34 (d:=1) (n0:=0) (S:=lsOf [Q2q,X2s]) Try.func34 (by kernel_rfl) (c:=c34) (by kernel_rfl) rfl (U6 (xs:=[(0,b34o),(4,b34e)]) (by kernel_rfl) (all_cons (U7 X3a) (all_cons (J2b (by kernel_rfl) (U7 (Z3c (by omega) J33))) Z0))) (by omega) (by kernel_rfl) ?_
 intro x'' y'' q'' hq''
 obtain⟨(m:MGt),(z:List UInt8),(now:Int),(most:Int),_⟩:=x''
 exact(fn34 m z now most).trans hq''
def fs34:FSpec:=fsT 34 [(MG,true),(.str,false),((.int .u64),false),((.int .u32),false)] [((.list EN),false)] fun(m,z,now,most,_)=>t34 m z now most
theorem okf34:fs34.Ok Try.prog:=X5 fun x'' r'' hr''=>ok34 x'' () r'' hr''
def t33:Tr Res:=.ret ([.bool (Vj (0,true,true,false,false,false,0,0,[],[([2,120,121,0],1,1,9,[49,50,51,52])],[],[]) (keyV ([2,120,121,0],1,1,9,[49,50,51,52])) ([0])==1)],[])
def os33:OSpec:={ f:=33,sh:=[],so:=[],F:=fun _ _=>t33 }
theorem fn33:evC T0 (orcB [fs34,X29,Vi] []) (lpOf h33 0 (lsOf [])) c33 1000000 (Z1 [] [] Try.f33.ntmps) (Q0 T0 false 0 Try.f33)=(t33).get:=by kernel_rfl
theorem ok33:os33.Ok Try.prog:=by
 refine X4 V2 tab0 (U0 (all_cons okf34 (all_cons J20 (all_cons U26 Z0))) Z0) h33 (d:=0) (n0:=0) (S:=lsOf []) Try.func33 (by kernel_rfl) (c:=c33) (by kernel_rfl) rfl (U2 (by kernel_rfl)) (by omega) (by kernel_rfl) ?_
 intro x'' y'' q'' hq''
 exact(fn33).trans hq''
def fs33:FSpec:=fsT 33 [] [(.bool,false)] fun _=>t33
theorem okf33:fs33.Ok Try.prog:=X5 fun x'' r'' hr''=>ok33 x'' () r'' hr''
theorem X34:t33=.ret ([.bool true],[]):=by kernel_rfl
def U3f:FSpec:=fs33.like fun _=>.ret (true,())
theorem Q3s:U3f.Ok Try.prog:=by
 refine J4 okf33 _ ?_
 intro x y h
 cases h
 refine J3 (vs:=[.bool true]) rfl rfl (Tr.get_of_all ?_)
 show t33.all _
 rw[X34]
 exact Tr.all_ret rfl
theorem V2u {rs:List RRt} (h:Zx rs=true):∀ r∈rs,r.1.length≤300∧r.2.2.2.2.length≤300:=fun r hr=>by
 have:=List.all_eq_true.1 h r hr
 simpa only[Bool.and_eq_true,decide_eq_true_eq] using this
theorem V3a {m:MGt} (h:fewM m=true):((mAn m).length≤20∧(mNs m).length≤20∧(mAr m).length≤20)∧∀ r,r∈mAn m∨r∈mNs m∨r∈mAr m→r.1.length≤300∧r.2.2.2.2.length≤300:=by
 simp only[fewM,Bool.and_eq_true,decide_eq_true_eq] at h
 obtain⟨_,h1,h2,h3,h4,_⟩:=h
 refine⟨⟨h1,h2,h3⟩,fun r hr=>V2u h4 r ?_⟩
 simp only[List.mem_append]
 rcases hr with hr | hr | hr
 ·exact .inl (.inl hr)
 ·exact .inl (.inr hr)
 ·exact .inr hr
theorem U30 {l:List RRt} (hl:l.length≤1000000) (h:∀ r∈l,r.1.length≤300∧r.2.2.2.2.length≤300):okL l=true:=by
 unfold okL lrB
 rw[Nat.ble_eq_true_of_le hl,List.all_eq_true.2 fun r hr=>Z0t.2 ⟨by have:=(h r hr).1;omega,by have:=(h r hr).2;omega⟩]
 rfl
theorem Q3g {n:List UInt8} (h:n.length≤300):smN n=true:=X0t.2 (by omega)
theorem Z2x {l:List RRt} {z n:List UInt8} (h:okL l=true) (hz:z.length≤300) (hn:n.length≤300):okF l z n=true:=by
 unfold okF
 rw[h,Q3g hz,Q3g hn]
 rfl
theorem J3r {m:MGt} {q:QQt} {z:List UInt8} (h:fewM m=true) (hq:q.1.length≤300) (hz:z.length≤300):okK m q z=true:=by
 obtain⟨⟨h1,h2,h3⟩,h4⟩:=V3a h
 unfold okK
 rw[Z2x (U30 (by omega) fun r hr=>h4 r (.inl hr)) hz hq,Z2x (U30 (by omega) fun r hr=>h4 r (.inr (.inl hr))) hz hq]
 rfl
theorem X2u {p:RRt→Bool} {l:List RRt} (h:(fstV p l).2=true):(fstV p l).1∈l∧p (fstV p l).1=true:=by
 unfold fstV at h ⊢
 split at h
 ·rename_i r hr
  exact⟨List.mem_of_find?_eq_some hr,List.find?_some hr⟩
 ·cases h
def V2s (u tc r0 r3 aa an al rf:Bool):Int:=
 bif !u then 0 else bif tc then 0 else bif r0 then (bif r3 then 0 else bif aa then 4 else 0) else bif an then 1 else bif al then 2 else bif rf then 3 else bif aa then 5 else 0
theorem Q1n (m:MGt) (q:QQt) (z:List UInt8):Vj m q z=V2s (undV q.1 z) m.2.2.2.1 (mRc m != 0) (mRc m != 3) m.2.2.1 (cAns m q z).2 (cAls m q z).2 (cRef m q z).2:=rfl
theorem V34:∀ u tc r0 r3 aa an al rf:Bool,V2s u tc r0 r3 aa an al rf=4→r3=false∧aa=true:=by decide
theorem J35:∀ u tc r0 r3 aa an al rf:Bool,V2s u tc r0 r3 aa an al rf=5→r0=false∧aa=true:=by decide
def t38 (m:MGt) (q:QQt) (z:List UInt8) (now most:Int):Tr Res:=.br (okK m q z) (.br (okF m.2.2.2.2.2.2.2.2.2.2.1 z q.1) (.br (!(fstV (fun r ↦ inV z r&&soaP q.1 r) m.2.2.2.2.2.2.2.2.2.2.1).2) (.ret ([.agg [.str [],.int .u16 0,.int .u16 0,.list RR [],.int .i64 0,.int .i64 0,.int .u64 0],.bool false],[])) (.br (Vj m q z != 4) (.br (Vj m q z != 5) (.ret ([.agg [.str [],.int .u16 0,.int .u16 0,.list RR [],.int .i64 0,.int .i64 0,.int .u64 0],.bool false],[])) (.br (bigS (fstV (fun r ↦ inV z r&&soaP q.1 r) m.2.2.2.2.2.2.2.2.2.2.1).1.2.2.2.2) (.br (Un (fstV (fun r ↦ inV z r&&soaP q.1 r) m.2.2.2.2.2.2.2.2.2.2.1).1.2.2.2.2 (IntKind.wrap .i64 ((↑(List.length (fstV (fun r ↦ inV z r&&soaP q.1 r) m.2.2.2.2.2.2.2.2.2.2.1).1.2.2.2.2):Int) - 4)) 4) (.br (u64B now&&u32B (if Q1 (n32 (fstV (fun r ↦ inV z r&&soaP q.1 r) m.2.2.2.2.2.2.2.2.2.2.1).1.2.2.2.2 (IntKind.wrap .i64 ((↑(List.length (fstV (fun r ↦ inV z r&&soaP q.1 r) m.2.2.2.2.2.2.2.2.2.2.1).1.2.2.2.2):Int) - 4))) most < Q1 (fstV (fun r ↦ inV z r&&soaP q.1 r) m.2.2.2.2.2.2.2.2.2.2.1).1.2.2.2.1 most then Q1 (n32 (fstV (fun r ↦ inV z r&&soaP q.1 r) m.2.2.2.2.2.2.2.2.2.2.1).1.2.2.2.2 (IntKind.wrap .i64 ((↑(List.length (fstV (fun r ↦ inV z r&&soaP q.1 r) m.2.2.2.2.2.2.2.2.2.2.1).1.2.2.2.2):Int) - 4))) most else Q1 (fstV (fun r ↦ inV z r&&soaP q.1 r) m.2.2.2.2.2.2.2.2.2.2.1).1.2.2.2.1 most)) (.ret ([.agg [.str q.1,.int .u16 q.2.1,.int .u16 q.2.2,.list RR [],.int .i64 m.2.2.2.2.2.2.2.1,.int .i64 4,.int .u64 (Jb now (if Q1 (n32 (fstV (fun r ↦ inV z r&&soaP q.1 r) m.2.2.2.2.2.2.2.2.2.2.1).1.2.2.2.2 (IntKind.wrap .i64 ((↑(List.length (fstV (fun r ↦ inV z r&&soaP q.1 r) m.2.2.2.2.2.2.2.2.2.2.1).1.2.2.2.2):Int) - 4))) most < Q1 (fstV (fun r ↦ inV z r&&soaP q.1 r) m.2.2.2.2.2.2.2.2.2.2.1).1.2.2.2.1 most then Q1 (n32 (fstV (fun r ↦ inV z r&&soaP q.1 r) m.2.2.2.2.2.2.2.2.2.2.1).1.2.2.2.2 (IntKind.wrap .i64 ((↑(List.length (fstV (fun r ↦ inV z r&&soaP q.1 r) m.2.2.2.2.2.2.2.2.2.2.1).1.2.2.2.2):Int) - 4))) most else Q1 (fstV (fun r ↦ inV z r&&soaP q.1 r) m.2.2.2.2.2.2.2.2.2.2.1).1.2.2.2.1 most))],.bool true],[])) .no) (.br (u64B now&&u32B (if Q1 0 most < Q1 (fstV (fun r ↦ inV z r&&soaP q.1 r) m.2.2.2.2.2.2.2.2.2.2.1).1.2.2.2.1 most then Q1 0 most else Q1 (fstV (fun r ↦ inV z r&&soaP q.1 r) m.2.2.2.2.2.2.2.2.2.2.1).1.2.2.2.1 most)) (.ret ([.agg [.str q.1,.int .u16 q.2.1,.int .u16 q.2.2,.list RR [],.int .i64 m.2.2.2.2.2.2.2.1,.int .i64 4,.int .u64 (Jb now (if Q1 0 most < Q1 (fstV (fun r ↦ inV z r&&soaP q.1 r) m.2.2.2.2.2.2.2.2.2.2.1).1.2.2.2.1 most then Q1 0 most else Q1 (fstV (fun r ↦ inV z r&&soaP q.1 r) m.2.2.2.2.2.2.2.2.2.2.1).1.2.2.2.1 most))],.bool true],[])) .no)) .no)) (.br (bigS (fstV (fun r ↦ inV z r&&soaP q.1 r) m.2.2.2.2.2.2.2.2.2.2.1).1.2.2.2.2) (.br (Un (fstV (fun r ↦ inV z r&&soaP q.1 r) m.2.2.2.2.2.2.2.2.2.2.1).1.2.2.2.2 (IntKind.wrap .i64 ((↑(List.length (fstV (fun r ↦ inV z r&&soaP q.1 r) m.2.2.2.2.2.2.2.2.2.2.1).1.2.2.2.2):Int) - 4)) 4) (.br (u64B now&&u32B (if Q1 (n32 (fstV (fun r ↦ inV z r&&soaP q.1 r) m.2.2.2.2.2.2.2.2.2.2.1).1.2.2.2.2 (IntKind.wrap .i64 ((↑(List.length (fstV (fun r ↦ inV z r&&soaP q.1 r) m.2.2.2.2.2.2.2.2.2.2.1).1.2.2.2.2):Int) - 4))) most < Q1 (fstV (fun r ↦ inV z r&&soaP q.1 r) m.2.2.2.2.2.2.2.2.2.2.1).1.2.2.2.1 most then Q1 (n32 (fstV (fun r ↦ inV z r&&soaP q.1 r) m.2.2.2.2.2.2.2.2.2.2.1).1.2.2.2.2 (IntKind.wrap .i64 ((↑(List.length (fstV (fun r ↦ inV z r&&soaP q.1 r) m.2.2.2.2.2.2.2.2.2.2.1).1.2.2.2.2):Int) - 4))) most else Q1 (fstV (fun r ↦ inV z r&&soaP q.1 r) m.2.2.2.2.2.2.2.2.2.2.1).1.2.2.2.1 most)) (.ret ([.agg [.str q.1,.int .u16 q.2.1,.int .u16 q.2.2,.list RR [],.int .i64 m.2.2.2.2.2.2.2.1,.int .i64 4,.int .u64 (Jb now (if Q1 (n32 (fstV (fun r ↦ inV z r&&soaP q.1 r) m.2.2.2.2.2.2.2.2.2.2.1).1.2.2.2.2 (IntKind.wrap .i64 ((↑(List.length (fstV (fun r ↦ inV z r&&soaP q.1 r) m.2.2.2.2.2.2.2.2.2.2.1).1.2.2.2.2):Int) - 4))) most < Q1 (fstV (fun r ↦ inV z r&&soaP q.1 r) m.2.2.2.2.2.2.2.2.2.2.1).1.2.2.2.1 most then Q1 (n32 (fstV (fun r ↦ inV z r&&soaP q.1 r) m.2.2.2.2.2.2.2.2.2.2.1).1.2.2.2.2 (IntKind.wrap .i64 ((↑(List.length (fstV (fun r ↦ inV z r&&soaP q.1 r) m.2.2.2.2.2.2.2.2.2.2.1).1.2.2.2.2):Int) - 4))) most else Q1 (fstV (fun r ↦ inV z r&&soaP q.1 r) m.2.2.2.2.2.2.2.2.2.2.1).1.2.2.2.1 most))],.bool true],[])) .no) (.br (u64B now&&u32B (if Q1 0 most < Q1 (fstV (fun r ↦ inV z r&&soaP q.1 r) m.2.2.2.2.2.2.2.2.2.2.1).1.2.2.2.1 most then Q1 0 most else Q1 (fstV (fun r ↦ inV z r&&soaP q.1 r) m.2.2.2.2.2.2.2.2.2.2.1).1.2.2.2.1 most)) (.ret ([.agg [.str q.1,.int .u16 q.2.1,.int .u16 q.2.2,.list RR [],.int .i64 m.2.2.2.2.2.2.2.1,.int .i64 4,.int .u64 (Jb now (if Q1 0 most < Q1 (fstV (fun r ↦ inV z r&&soaP q.1 r) m.2.2.2.2.2.2.2.2.2.2.1).1.2.2.2.1 most then Q1 0 most else Q1 (fstV (fun r ↦ inV z r&&soaP q.1 r) m.2.2.2.2.2.2.2.2.2.2.1).1.2.2.2.1 most))],.bool true],[])) .no)) .no))) .no) .no
def os38:OSpec:={ f:=38,sh:=[.d MG true,.d QQ true,.d .str false,.d (.int .u64) false,.d (.int .u32) false],so:=[],F:=fun(m,q,z,now,most,_) _=>t38 m q z now most }
theorem fn38 (m:MGt) (q:QQt) (z:List UInt8) (now most:Int):evC T0 (orcB [X29,Q0q,Xj,U3d] [X2m]) (lpOf h38 0 (lsOf [])) c38 1000000 (Z1 [AV.ofTy MG m true,AV.ofTy QQ q true,.str z,.int .u64 now,.int .u32 most] [] Try.f38.ntmps) (Q0 T0 false 0 Try.f38)=(t38 m q z now most).get:=by kernel_rfl
theorem ok38:os38.Ok Try.prog:=by
 refine X4 V2 tab0 (U0 (all_cons J20 (all_cons Q2u (all_cons U2l (all_cons Q3q Z0)))) (all_cons V3q Z0)) h38 (d:=0) (n0:=0) (S:=lsOf []) Try.func38 (by kernel_rfl) (c:=c38) (by kernel_rfl) rfl (U2 (by kernel_rfl)) (by omega) (by kernel_rfl) ?_
 intro x'' y'' q'' hq''
 obtain⟨(m:MGt),(q:QQt),(z:List UInt8),(now:Int),(most:Int),_⟩:=x''
 exact(fn38 m q z now most).trans hq''
def fs38:FSpec:=fsT 38 [(MG,true),(QQ,true),(.str,false),((.int .u64),false),((.int .u32),false)] [(EN,true),(.bool,false)] fun(m,q,z,now,most,_)=>t38 m q z now most
theorem okf38:fs38.Ok Try.prog:=X5 fun x'' r'' hr''=>ok38 x'' () r'' hr''
def negT (r:RRt) (most:Int):Int:=
 let b:=Q1 (if Un r.2.2.2.2 ((r.2.2.2.2.length:Int) - 4) 4=true then n32 r.2.2.2.2 ((r.2.2.2.2.length:Int) - 4) else 0) most
 let a:=Q1 r.2.2.2.1 most
 if b < a then b else a
def cNeg (m:MGt) (q:QQt) (z:List UInt8) (now most:Int):QQt×(List RRt×(Int×(Int×Int))):=(q,([],(mRc m,(4,Jb now (negT (cSoa m q z).1 most)))))
abbrev ENt':=QQt×(List RRt×(Int×(Int×Int)))
def Vp (m:MGt) (q:QQt) (z:List UInt8):Bool:=(cSoa m q z).2&&(Vj m q z==4||Vj m q z==5)
def U9 (m:MGt) (q:QQt) (z:List UInt8) (now most:Int):ENt':=if Vp m q z=true then cNeg m q z now most else (([],(0,0)),([],(0,(0,0))))
theorem Q2b (s:List UInt8) (a:Int):0≤n16 s a∧n16 s a≤65535:=by
 unfold n16
 have h1:=(s.getD a.toNat 0).toNat_lt
 have h2:=(s.getD (a.toNat+1) 0).toNat_lt
 omega
theorem Z34 (s:List UInt8) (a:Int):0≤n32 s a∧n32 s a≤4294967295:=by
 unfold n32
 have h1:=Q2b s a
 have h2:=Q2b s (a+2)
 omega
theorem J17 {t m:Int} (h0:0≤t) (hm:0≤m):0≤Q1 t m∧Q1 t m≤m:=by
 unfold Q1
 split
 ·omega
 ·split<;>omega
theorem J1p {r:RRt} {m:Int} (h0:0≤r.2.2.2.1) (hm:0≤m):0≤negT r m∧negT r m≤m:=by
 unfold negT
 have h1:=J17 h0 hm
 have h2:=Z34 r.2.2.2.2 ((r.2.2.2.2.length:Int) - 4)
 have h3:=J17 (t:=if Un r.2.2.2.2 ((r.2.2.2.2.length:Int) - 4) 4=true then n32 r.2.2.2.2 ((r.2.2.2.2.length:Int) - 4) else 0) (by split<;>omega) hm
 generalize Q1 (if Un r.2.2.2.2 ((r.2.2.2.2.length:Int) - 4) 4=true then n32 r.2.2.2.2 ((r.2.2.2.2.length:Int) - 4) else 0) m=b at *
 simp only
 split<;>omega
def okT0 (l:List RRt):Bool:=l.all fun r=>decide (0≤r.2.2.2.1)
theorem X2x {p:RRt→Bool} {l:List RRt} (h:okT0 l=true):0≤(fstV p l).1.2.2.2.1:=by
 unfold fstV
 split
 ·rename_i r hr
  exact of_decide_eq_true (List.all_eq_true.1 h r (List.mem_of_find?_eq_some hr))
 ·exact Int.le_refl _
def okN (m:MGt) (q:QQt) (z:List UInt8) (now most:Int):Bool:=okK m q z&&(okT0 (mNs m)&&(u64B now&&u32B most))
def X3i:FSpec:=fs38.like fun(m,q,z,now,most,_)=>.on (okN m q z now most) (U9 m q z now most,Vp m q z,())
theorem U3l:X3i.Ok Try.prog:=by
 refine J4 okf38 _ ?_
 rintro⟨(m:MGt),(q:QQt),(z:List UInt8),(now:Int),(most:Int),_⟩ y h
 obtain⟨hb,rfl⟩:=Tr.get_on h
 have hb:okN m q z now most=true:=hb
 simp only[okN,Bool.and_eq_true] at hb
 obtain⟨hk,ht,hn,hm⟩:=hb
 have h2:=(Bool.and_eq_true_iff.1 (show (okF (mAn m) z q.1&&okF (mNs m) z q.1)=true from hk)).2
 have hm':=hm
 simp only[u32B,Bool.and_eq_true,decide_eq_true_eq] at hm'
 unfold U9
 refine J3 (vs:=[AV.ofTy EN (if Vp m q z=true then cNeg m q z now most else (([],(0,0)),([],(0,(0,0))))) true,.bool (Vp m q z)]) rfl rfl (Tr.get_of_all ?_)
 show (t38 m q z now most).all _
 have hS:fstV (fun r=>inV z r&&soaP q.1 r) m.2.2.2.2.2.2.2.2.2.2.1=cSoa m q z:=rfl
 unfold t38
 rw[hS]
 have hr0:0≤(cSoa m q z).1.2.2.2.1:=X2x (p:=fun r=>inV z r&&soaP q.1 r) ht
 have hrl:=Z0t.1 (X3k (p:=fun r=>inV z r&&soaP q.1 r) (X39 h2))
 have hrl:(cSoa m q z).1.2.2.2.2.length≤1000000:=hrl.2
 refine Tr.all_t hk (Tr.all_t h2 (Tr.all_br (fun c=>Tr.all_ret ?_) fun c=>?_))
 ·have:Vp m q z=false:=by unfold Vp;rw[show (cSoa m q z).2=false by simpa using c];rfl
  rw[this]
  rfl
 ·have c:(cSoa m q z).2=true:=by simpa using c
  have hrg:=J1p hr0 hm'.1
  have hcl:(u64B now&&u32B (negT (cSoa m q z).1 most))=true:=by
   rw[hn,Bool.true_and]
   unfold u32B
   rw[J0 hrg.1,J0 (show negT (cSoa m q z).1 most < 4294967296 by omega)]
   rfl
  have hgo:Vp m q z=true→(Tr.br (bigS (cSoa m q z).1.2.2.2.2) (Tr.br (Un (cSoa m q z).1.2.2.2.2 (IntKind.wrap .i64 (((cSoa m q z).1.2.2.2.2.length:Int) - 4)) 4)
      (Tr.br (u64B now&&u32B (if Q1 (n32 (cSoa m q z).1.2.2.2.2 (IntKind.wrap .i64 (((cSoa m q z).1.2.2.2.2.length:Int) - 4))) most < Q1 (cSoa m q z).1.2.2.2.1 most then Q1 (n32 (cSoa m q z).1.2.2.2.2 (IntKind.wrap .i64 (((cSoa m q z).1.2.2.2.2.length:Int) - 4))) most else Q1 (cSoa m q z).1.2.2.2.1 most))
       (Tr.ret ([AV.agg [AV.str q.1,AV.int .u16 q.2.1,AV.int .u16 q.2.2,AV.list RR [],AV.int .i64 m.2.2.2.2.2.2.2.1,AV.int .i64 4,AV.int .u64 (Jb now (if Q1 (n32 (cSoa m q z).1.2.2.2.2 (IntKind.wrap .i64 (((cSoa m q z).1.2.2.2.2.length:Int) - 4))) most < Q1 (cSoa m q z).1.2.2.2.1 most then Q1 (n32 (cSoa m q z).1.2.2.2.2 (IntKind.wrap .i64 (((cSoa m q z).1.2.2.2.2.length:Int) - 4))) most else Q1 (cSoa m q z).1.2.2.2.1 most))],AV.bool true],[])) Tr.no)
      (Tr.br (u64B now&&u32B (if Q1 0 most < Q1 (cSoa m q z).1.2.2.2.1 most then Q1 0 most else Q1 (cSoa m q z).1.2.2.2.1 most))
       (Tr.ret ([AV.agg [AV.str q.1,AV.int .u16 q.2.1,AV.int .u16 q.2.2,AV.list RR [],AV.int .i64 m.2.2.2.2.2.2.2.1,AV.int .i64 4,AV.int .u64 (Jb now (if Q1 0 most < Q1 (cSoa m q z).1.2.2.2.1 most then Q1 0 most else Q1 (cSoa m q z).1.2.2.2.1 most))],AV.bool true],[])) Tr.no)) Tr.no).all
      (fun r=>r=(([AV.ofTy EN (if Vp m q z=true then cNeg m q z now most else (([],(0,0)),([],(0,(0,0))))) true,.bool (Vp m q z)],[]):Res)):=fun hB=>by
   rw[hB,if_pos rfl]
   rw[IntWalk.i64_in (((cSoa m q z).1.2.2.2.2.length:Int) - 4) (by omega)]
   unfold negT at hcl
   unfold cNeg negT
   generalize (cSoa m q z).1=r at *
   refine Tr.all_t (Z08 (by omega)) (Tr.all_br (fun c1=>?_) fun c1=>?_)
   ·simp only[c1,if_true] at hcl ⊢
    exact Tr.all_t hcl (Tr.all_ret rfl)
   ·simp only[c1,if_false,Bool.false_eq_true] at hcl ⊢
    exact Tr.all_t hcl (Tr.all_ret rfl)
  refine Tr.all_br (fun c4=>Tr.all_br (fun c5=>Tr.all_ret ?_) fun c5=>hgo ?_) fun c4=>hgo ?_
  ·have:Vp m q z=false:=by
    unfold Vp
    rw[show (Vj m q z==4)=false by simpa[bne] using c4,show (Vj m q z==5)=false by simpa[bne] using c5,c]
    rfl
   rw[this]
   rfl
  ·unfold Vp
   rw[show (Vj m q z==5)=true by simpa[bne] using c5,c]
   simp
  ·unfold Vp
   rw[show (Vj m q z==4)=true by simpa[bne] using c4,c]
   rfl
def seC (al bl:List RRt) (i:Int):Bool:=decide (al=bl)&&(lrB al&&decide (i=0))
noncomputable def b37:Code:=V6 c37 0
def ls37:LoopSpec:={ bid:=0,sh:=[.ptr 0 0,.ptr 1 0,.d (.int .i64) false],so:=[.box [.d .str false,.d (.int .u16) false,.d (.int .u16) false,.d (.list RR) false,.d (.int .i64) false,.d (.int .i64) false,.d (.int .u64) false],.box [.d .str false,.d (.int .u16) false,.d (.int .u16) false,.d (.list RR) false,.d (.int .i64) false,.d (.int .i64) false,.d (.int .u64) false]],F:=fun(i,_) ((an,at_,ac,al,ao,ak,ae,_),(bn,bt,bc,bl,bo,bk,be,_),_)=>.on (seC al bl i) (.exit 0,[.dead],[]) }
def r37 (i:Int) (an:List UInt8) (at_ ac:Int) (al:List RRt) (ao ak ae:Int) (bn:List UInt8) (bt bc:Int) (bl:List RRt) (bo bk be:Int):Tr (St⊕(Ex×St)):=.br (decide (i < (↑al.length:Int))) (.br (decide (0≤i)) (.br (decide (i < (↑al.length:Int))) (.br (decide (0≤i)) (.br (decide (i < (↑bl.length:Int))) (.br (!((al.getD i.toNat (Ty.dflt RR)).1==(bl.getD i.toNat (Ty.dflt RR)).1&&((al.getD i.toNat (Ty.dflt RR)).2.1==(bl.getD i.toNat (Ty.dflt RR)).2.1&&((al.getD i.toNat (Ty.dflt RR)).2.2.1==(bl.getD i.toNat (Ty.dflt RR)).2.2.1&&((al.getD i.toNat (Ty.dflt RR)).2.2.2.1==(bl.getD i.toNat (Ty.dflt RR)).2.2.2.1&&((al.getD i.toNat (Ty.dflt RR)).2.2.2.2==(bl.getD i.toNat (Ty.dflt RR)).2.2.2.2&&true)))))) (.ret (.inr (.ret,stOf [4] [.bool false] []))) (.ret (.inl (stOf [2,3,5] [.ptr 0 0,.ptr 1 0,.int .i64 (IntKind.wrap .i64 (i+1))] [.boxT none [.str an,.int .u16 at_,.int .u16 ac,.list RR al,.int .i64 ao,.int .i64 ak,.int .u64 ae],.boxT none [.str bn,.int .u16 bt,.int .u16 bc,.list RR bl,.int .i64 bo,.int .i64 bk,.int .u64 be]])))) .no) .no) .no) .no) (.ret (.inr (.exit 0,stOf [4] [.dead] [])))
theorem V3c (lp:Lp) (i:Int) (an:List UInt8) (at_ ac:Int) (al:List RRt) (ao ak ae:Int) (bn:List UInt8) (bt bc:Int) (bl:List RRt) (bo bk be:Int):evC T0 (orcB [] []) lp b37 0 (stOf [2,3,5] [.ptr 0 0,.ptr 1 0,.int .i64 i] [.box [.str an,.int .u16 at_,.int .u16 ac,.list RR al,.int .i64 ao,.int .i64 ak,.int .u64 ae],.box [.str bn,.int .u16 bt,.int .u16 bc,.list RR bl,.int .i64 bo,.int .i64 bk,.int .u64 be]]) (V1 [2,3,5] [4] 0)=(r37 i an at_ ac al ao ak ae bn bt bc bl bo bk be).get:=by kernel_rfl
theorem wf37 (an:List UInt8) (at_ ac:Int) (al:List RRt) (ao ak ae:Int) (bn:List UInt8) (bt bc:Int) (bl:List RRt) (bo bk be:Int) (I'':Int→Prop) (m'':Int→Nat) (r'':Ex×St) (h:∀ (i:Int),I'' i→(r37 i an at_ ac al ao ak ae bn bt bc bl bo bk be).all fun x''=>x''=.inr r''∨∃ (i':Int),x''=.inl (stOf [2,3,5] [.ptr 0 0,.ptr 1 0,.int .i64 i'] [.box [.str an,.int .u16 at_,.int .u16 ac,.list RR al,.int .i64 ao,.int .i64 ak,.int .u64 ae],.box [.str bn,.int .u16 bt,.int .u16 bc,.list RR bl,.int .i64 bo,.int .i64 bk,.int .u64 be]])∧I'' i'∧m'' i' < m'' i) (lp:Lp) (i:Int):I'' i→
    Z4 (fun st=>evC T0 (orcB [] []) lp b37 0 st (V1 [2,3,5] [4] 0)) (stOf [2,3,5] [.ptr 0 0,.ptr 1 0,.int .i64 i] [.box [.str an,.int .u16 at_,.int .u16 ac,.list RR al,.int .i64 ao,.int .i64 ak,.int .u64 ae],.box [.str bn,.int .u16 bt,.int .u16 bc,.list RR bl,.int .i64 bo,.int .i64 bk,.int .u64 be]])=some r'':=
 V7 (fun a'':Int=>stOf [2,3,5] [.ptr 0 0,.ptr 1 0,.int .i64 a''] [.box [.str an,.int .u16 at_,.int .u16 ac,.list RR al,.int .i64 ao,.int .i64 ak,.int .u64 ae],.box [.str bn,.int .u16 bt,.int .u16 bc,.list RR bl,.int .i64 bo,.int .i64 bk,.int .u64 be]]) (fun a''=>I'' a'') (fun a''=>m'' a'') r'' (fun a''=>r37 a'' an at_ ac al ao ak ae bn bt bc bl bo bk be)
  (fun a'' x hx=>(V3c lp a'' an at_ ac al ao ak ae bn bt bc bl bo bk be).trans hx) (fun a'' ha=>Tr.all_mono (fun x'' hx=>hx.imp id fun⟨i',h1,h2,h3⟩=>⟨(i'),h1,h2,h3⟩) (h (a'') ha)) (i)
theorem X3q:ls37.Ok T0 (orcB [] []) h37 0 0 b37:=by
 intro q'' hq'' x'' y'' r'' h
 obtain⟨(i:Int),_⟩:=x''
 obtain⟨⟨(an:List UInt8),(at_:Int),(ac:Int),(al:List RRt),(ao:Int),(ak:Int),(ae:Int),_⟩,⟨(bn:List UInt8),(bt:Int),(bc:Int),(bl:List RRt),(bo:Int),(bk:Int),(be:Int),_⟩,_⟩:=y''
 obtain⟨hc,rfl⟩:=Tr.get_on h
 show Z4 (fun st=>evC T0 (orcB [] []) (lpN T0 (orcB [] []) h37 0 q'') b37 0 st (V1 [2,3,5] [4] 0)) (stOf [2,3,5] [.ptr 0 0,.ptr 1 0,.int .i64 i] [.box [.str an,.int .u16 at_,.int .u16 ac,.list RR al,.int .i64 ao,.int .i64 ak,.int .u64 ae],.box [.str bn,.int .u16 bt,.int .u16 bc,.list RR bl,.int .i64 bo,.int .i64 bk,.int .u64 be]])=some (.exit 0,stOf [4] ([.dead]) ([]))
 simp only[seC,Bool.and_eq_true,decide_eq_true_eq] at hc
 obtain⟨rfl,hl,rfl⟩:=hc
 have hl:=Nat.le_of_ble_eq_true hl
 refine wf37 an at_ ac al ao ak ae bn bt bc al bo bk be (fun i=>0≤i∧i≤al.length) (fun i=>(al.length - i).toNat) _ ?_ _ 0 ⟨by omega,by omega⟩
 rintro i ⟨h0,h1⟩
 unfold r37
 rw[V8 h0 h1 (by omega)]
 by_cases hi:i < al.length
 ·exact Tr.all_t (J0 hi) (Tr.all_t (J0 h0) (Tr.all_t (J0 hi) (Tr.all_t (J0 h0) (Tr.all_t (J0 hi) (Tr.all_f (by simp) (Tr.all_ret (.inr ⟨_,rfl,⟨by omega,by omega⟩,by omega⟩)))))))
 ·exact Tr.all_f (V0 hi) (Tr.all_ret (.inl rfl))
def t37 (a b:ENt):Tr Res:=.br ((↑a.2.1.length:Int) != (↑b.2.1.length:Int)) (.ret ([.bool false],[])) (.br (!(a.1.1==b.1.1&&(a.1.2.1==b.1.2.1&&(a.1.2.2==b.1.2.2&&true)))) (.ret ([.bool false],[])) (.br (a.2.2.1 != b.2.2.1) (.ret ([.bool false],[])) (.br (a.2.2.2.1 != b.2.2.2.1) (.ret ([.bool false],[])) (.br (a.2.2.2.2 != b.2.2.2.2) (.ret ([.bool false],[])) (.br (seC a.2.1 b.2.1 0) (.ret ([.bool true],[])) .no)))))
def os37:OSpec:={ f:=37,sh:=[.d EN true,.d EN true],so:=[],F:=fun(a,b,_) _=>t37 a b }
theorem fn37 (a b:ENt):evC T0 (orcB [] []) (lpOf h37 0 (lsOf [ls37])) c37 1000000 (Z1 [AV.ofTy EN a true,AV.ofTy EN b true] [] Try.f37.ntmps) (Q0 T0 false 0 Try.f37)=(t37 a b).get:=by kernel_rfl
theorem ok37:os37.Ok Try.prog:=by
 refine X4 V2 tab0 (U0 Z0 Z0) h37 (d:=0) (n0:=0) (S:=lsOf [ls37]) Try.func37 (by kernel_rfl) (c:=c37) (by kernel_rfl) rfl (U6 (xs:=[(0,b37)]) (by kernel_rfl) (all_cons (U7 X3q) Z0)) (by omega) (by kernel_rfl) ?_
 intro x'' y'' q'' hq''
 obtain⟨(a:ENt),(b:ENt),_⟩:=x''
 exact(fn37 a b).trans hq''
def fs37:FSpec:=fsT 37 [(EN,true),(EN,true)] [(.bool,false)] fun(a,b,_)=>t37 a b
theorem okf37:fs37.Ok Try.prog:=X5 fun x'' r'' hr''=>ok37 x'' () r'' hr''
instance decQ2:DecidableEq (Int×Int):=inferInstance
instance decE3:DecidableEq (Int×(Int×Int)):=inferInstance
instance decE4:DecidableEq (List RRt×(Int×(Int×Int))):=inferInstance
instance decQQ':DecidableEq QQt:=inferInstanceAs (DecidableEq QQt)
instance decEN:DecidableEq ENt:=inferInstanceAs (DecidableEq ENt)
def Z3i:FSpec:=fs37.like fun(a,b,_)=>.on (decide (a=b)&&lrB a.2.1) (true,())
theorem V3r:Z3i.Ok Try.prog:=by
 refine J4 okf37 _ ?_
 rintro⟨(a:ENt),(b:ENt),_⟩ y h
 obtain⟨hb,rfl⟩:=Tr.get_on h
 obtain⟨h1,h2⟩:=Bool.and_eq_true_iff.1 (show (decide (a=b)&&lrB a.2.1)=true from hb)
 obtain rfl:a=b:=of_decide_eq_true h1
 refine J3 (vs:=[.bool true]) rfl rfl (Tr.get_of_all ?_)
 show (t37 a a).all _
 unfold t37
 exact Tr.all_f (by simp) (Tr.all_f (by simp) (Tr.all_f (by simp) (Tr.all_f (by simp) (Tr.all_f (by simp) (Tr.all_t (by unfold seC;rw[h2];simp) (Tr.all_ret rfl))))))
def t11 (m:MGt) (q:QQt) (z:List UInt8) (now most:Int):Tr Res:=.br (!fewM m) (.ret ([.bool true],[])) (.br (decide ((↑q.1.length:Int) > 300)) (.ret ([.bool true],[])) (.br (decide ((↑z.length:Int) > 300)) (.ret ([.bool true],[])) (.br (okN m q z now most) (.br (okK m q z) (.br (!Vp m q z) (.br (decide (U9 m q z now most=(([],0,0),[],0,0,0))&&lrB (U9 m q z now most).2.1) (.ret ([.bool true],[])) .no) (.br (Vj m q z==4) (.br ((U9 m q z now most).2.2.1==3) (.br ((U9 m q z now most).1.1==q.1&&((U9 m q z now most).1.2.1==q.2.1&&((U9 m q z now most).1.2.2==q.2.2&&true))) (.br ((↑(List.length (U9 m q z now most).2.1):Int)==0) (.br ((U9 m q z now most).2.2.2.1==4) (.br (decide ((U9 m q z now most).2.2.2.2≥now)) (.br (decide (IntKind.wrap .u64 ((U9 m q z now most).2.2.2.2 - now)≤IntKind.wrap .u64 most)) (.ret ([.bool (decide ((↑m.2.2.2.2.2.2.2.2.2.2.1.length:Int) > 0))],[])) (.ret ([.bool false],[]))) (.ret ([.bool false],[]))) (.ret ([.bool false],[]))) (.ret ([.bool false],[]))) (.ret ([.bool false],[]))) (.br (Vj m q z==5) (.br ((U9 m q z now most).2.2.1==0) (.br ((U9 m q z now most).1.1==q.1&&((U9 m q z now most).1.2.1==q.2.1&&((U9 m q z now most).1.2.2==q.2.2&&true))) (.br ((↑(List.length (U9 m q z now most).2.1):Int)==0) (.br ((U9 m q z now most).2.2.2.1==4) (.br (decide ((U9 m q z now most).2.2.2.2≥now)) (.br (decide (IntKind.wrap .u64 ((U9 m q z now most).2.2.2.2 - now)≤IntKind.wrap .u64 most)) (.ret ([.bool (decide ((↑m.2.2.2.2.2.2.2.2.2.2.1.length:Int) > 0))],[])) (.ret ([.bool false],[]))) (.ret ([.bool false],[]))) (.ret ([.bool false],[]))) (.ret ([.bool false],[]))) (.ret ([.bool false],[]))) (.ret ([.bool false],[]))) (.ret ([.bool false],[])))) (.br (Vj m q z==5) (.br ((U9 m q z now most).2.2.1==0) (.br ((U9 m q z now most).1.1==q.1&&((U9 m q z now most).1.2.1==q.2.1&&((U9 m q z now most).1.2.2==q.2.2&&true))) (.br ((↑(List.length (U9 m q z now most).2.1):Int)==0) (.br ((U9 m q z now most).2.2.2.1==4) (.br (decide ((U9 m q z now most).2.2.2.2≥now)) (.br (decide (IntKind.wrap .u64 ((U9 m q z now most).2.2.2.2 - now)≤IntKind.wrap .u64 most)) (.ret ([.bool (decide ((↑m.2.2.2.2.2.2.2.2.2.2.1.length:Int) > 0))],[])) (.ret ([.bool false],[]))) (.ret ([.bool false],[]))) (.ret ([.bool false],[]))) (.ret ([.bool false],[]))) (.ret ([.bool false],[]))) (.ret ([.bool false],[]))) (.ret ([.bool false],[]))))) .no) .no)))
def os11:OSpec:={ f:=11,sh:=[.d MG true,.d QQ true,.d .str false,.d (.int .u64) false,.d (.int .u32) false],so:=[],F:=fun(m,q,z,now,most,_) _=>t11 m q z now most }
theorem fn11 (m:MGt) (q:QQt) (z:List UInt8) (now most:Int):evC T0 (orcB [U3f,Z3g,X29,X3i,Z3i] []) (lpOf h11 0 (lsOf [])) c11 1000000 (Z1 [AV.ofTy MG m true,AV.ofTy QQ q true,.str z,.int .u64 now,.int .u32 most] [] Try.f11.ntmps) (Q0 T0 false 0 Try.f11)=(t11 m q z now most).get:=by kernel_rfl
theorem ok11:os11.Ok Try.prog:=by
 refine X4 V2 tab0 (U0 (all_cons Q3s (all_cons J3n (all_cons J20 (all_cons U3l (all_cons V3r Z0))))) Z0) h11 (d:=0) (n0:=0) (S:=lsOf []) Try.func11 (by kernel_rfl) (c:=c11) (by kernel_rfl) rfl (U2 (by kernel_rfl)) (by omega) (by kernel_rfl) ?_
 intro x'' y'' q'' hq''
 obtain⟨(m:MGt),(q:QQt),(z:List UInt8),(now:Int),(most:Int),_⟩:=x''
 exact(fn11 m q z now most).trans hq''
theorem V1n {n:Int} (h:okT (.int .u32) n):u32B n=true:=by
 have hr:0≤n∧n≤4294967295:=by simpa[okT,Lit.wf,IntKind.min,IntKind.max,IntKind.signed,IntKind.bits] using h
 unfold u32B
 rw[J0 hr.1,J0 (show n < 4294967296 by omega)]
 rfl
theorem V2p {n:Int} (h:okT (.int .u64) n):u64B n=true:=by
 have hr:0≤n∧n≤18446744073709551615:=by simpa[okT,Lit.wf,IntKind.min,IntKind.max,IntKind.signed,IntKind.bits] using h
 unfold u64B
 rw[J0 hr.1,J0 (show n < 18446744073709551616 by omega)]
 rfl
def okU (l:List RRt):Bool:=l.all fun r=>u32B r.2.2.2.1
theorem Z1g {l:List RRt} (h:okT (.list RR) l):okU l=true:=List.all_eq_true.2 fun r hr=>V1n (h.2 r hr).2.2.2.1
theorem X3m {l:List RRt} (h:okU l=true):okT0 l=true:=List.all_eq_true.2 fun r hr=>(Bool.and_eq_true_iff.1 (List.all_eq_true.1 h r hr)).1
def okUM (m:MGt):Bool:=okU (mAn m)&&(okU (mNs m)&&okU (mAr m))
theorem V2n {m:MGt} (h:okT MG m):okUM m=true:=by
 unfold okUM
 rw[show okU (mAn m)=true from Z1g h.2.2.2.2.2.2.2.2.2.1,show okU (mNs m)=true from Z1g h.2.2.2.2.2.2.2.2.2.2.1,show okU (mAr m)=true from Z1g h.2.2.2.2.2.2.2.2.2.2.2]
 rfl
theorem X2k {now t most:Int} (hn:u64B now=true) (h0:0≤t) (h1:t≤most) (h2:most < 4294967296):Jb now t≥now∧Jb now t - now≤t∧0≤Jb now t - now∧Jb now t < 18446744073709551616:=by
 simp only[u64B,Bool.and_eq_true,decide_eq_true_eq] at hn
 unfold Jb
 split<;>omega
theorem acceptNothing_all (m:MGt) (q:QQt) (z:List UInt8) (now most:Int) (hm:okUM m=true) (hn:u64B now=true) (ho:u32B most=true):Tr.all (fun r:Res=>r=([.bool true],[])) (t11 m q z now most):=by
 unfold t11
 refine Tr.all_br (fun _=>Tr.all_ret rfl) fun hf=>Tr.all_br (fun _=>Tr.all_ret rfl) fun hq=>Tr.all_br (fun _=>Tr.all_ret rfl) fun hz=>?_
 have hf:fewM m=true:=by simpa using hf
 have hq:q.1.length≤300:=by have:=of_decide_eq_false hq;omega
 have hz:z.length≤300:=by have:=of_decide_eq_false hz;omega
 have hk:=J3r hf hq hz
 have hns:okT0 (mNs m)=true:=X3m (Bool.and_eq_true_iff.1 (Bool.and_eq_true_iff.1 hm).2).1
 have hN:okN m q z now most=true:=by unfold okN;rw[hk,hns,hn,ho];rfl
 have ho':=ho
 simp only[u32B,Bool.and_eq_true,decide_eq_true_eq] at ho'
 refine Tr.all_t hN (Tr.all_t hk (Tr.all_br (fun c=>?_) fun c=>?_))
 ·have c:Vp m q z=false:=by simpa using c
  have he:U9 m q z now most=(([],(0,0)),([],(0,(0,0)))):=by unfold U9;rw[c];rfl
  rw[he]
  exact Tr.all_t rfl (Tr.all_ret rfl)
 ·have c:Vp m q z=true:=by simpa using c
  have he:U9 m q z now most=(q,([],(mRc m,(4,Jb now (negT (cSoa m q z).1 most))))):=by unfold U9;rw[c];rfl
  obtain⟨c1,c2⟩:=Bool.and_eq_true_iff.1 (show ((cSoa m q z).2&&(Vj m q z==4||Vj m q z==5))=true from c)
  obtain⟨a1,_⟩:=X2u c1
  have hnl:(m.2.2.2.2.2.2.2.2.2.2.1).length > 0:=by
   have:(cSoa m q z).1∈mNs m:=a1
   exact List.length_pos_of_mem this
  have hr0:0≤(cSoa m q z).1.2.2.2.1:=X2x (p:=fun r=>inV z r&&soaP q.1 r) hns
  obtain⟨g1,g2⟩:=J1p hr0 ho'.1
  obtain⟨g3,g4,g5,g6⟩:=X2k hn g1 g2 ho'.2
  have hend:(Tr.br (decide (Jb now (negT (cSoa m q z).1 most)≥now)) (Tr.br (decide (IntKind.wrap IntKind.u64 (Jb now (negT (cSoa m q z).1 most) - now)≤IntKind.wrap IntKind.u64 most)) (Tr.ret (([AV.bool (decide (((m.2.2.2.2.2.2.2.2.2.2.1).length:Int) > 0))],[]):Res)) (Tr.ret ([AV.bool false],[]))) (Tr.ret ([AV.bool false],[]))).all (fun r:Res=>r=([.bool true],[])):=by
   rw[u64_in (x:=Jb now (negT (cSoa m q z).1 most) - now) g5 (by omega),u64_in (x:=most) ho'.1 (by omega),J0 g3,J0 (show Jb now (negT (cSoa m q z).1 most) - now≤most by omega),J0 (show ((m.2.2.2.2.2.2.2.2.2.2.1).length:Int) > 0 by omega)]
   exact Tr.all_t rfl (Tr.all_t rfl (Tr.all_ret rfl))
  rw[he]
  refine Tr.all_br (fun c4=>?_) fun c4=>?_
  ·have r3:mRc m=3:=by
    have:=(V34 _ _ _ _ _ _ _ _ (by rw[←Q1n];simpa using c4)).1
    simpa[bne] using this
   exact Tr.all_t (by rw[r3];rfl) (Tr.all_t (by simp) (Tr.all_t rfl (Tr.all_t rfl hend)))
  ·have c5:(Vj m q z==5)=true:=by rw[c4] at c2;simpa using c2
   have r0:mRc m=0:=by
    have:=(J35 _ _ _ _ _ _ _ _ (by rw[←Q1n];simpa using c5)).1
    simpa[bne] using this
   exact Tr.all_t c5 (Tr.all_t (by rw[r0];rfl) (Tr.all_t (by simp) (Tr.all_t rfl (Tr.all_t rfl hend))))
theorem sem11 (m:MGt) (q:QQt) (z:List UInt8) (now most:Int) (h1:okT MG m) (h2:okT (.int .u64) now) (h3:okT (.int .u32) most):SemF Try.prog 11 [AV.ofTy MG m true,AV.ofTy QQ q true,.str z,.int .u64 now,.int .u32 most] [] [.bool true] []:=
 ok11 (m,q,z,now,most,()) () ([.bool true],[]) (Tr.get_of_all (acceptNothing_all m q z now most (V2n h1) (V2p h2) (V1n h3)))
end Go.Proofs.YtkobjdhbfepkaaaE
namespace Go.Proofs.Ytkobjdhbfepkaaa.acceptNothing
open Go.ChangeShapes Go.WideShapes Go.ChangeAt Go.RowKit Go.Proofs.YtkobjdhbfepkaaaE
open Go.ChangeMaps (open_string shut_string)
set_option linter.unusedVariables false
theorem own : ownKnob Try.prog.godebug = none := by kernel_rfl
theorem laidOut : laidOutB Try.prog = true := by kernel_rfl
set_option maxRecDepth 100000 in
theorem lifted (os : Os) (started : os.Started) (H : Type) (enc : TypeId × Value → H) :
    ReturnsInHanded {} Try.checked os 11 .any (Rows.acceptNothingSpec.pre6 enc Try.prog Try.f11 Rows.acceptNothingRow.domain false) (Rows.acceptNothingSpec.post enc Try.prog Try.f11 false true false false) := by
  refine returnsInHanded_of_change_sized (C := Try.checked) own started (by kernel_rfl) Try.func11
    (ChangeSpec.witness6 (enc := enc) (C := Try.checked) false ⟨#[], #[.agg #[.int .u16 0, .bool false, .bool false, .bool false, .bool false, .bool false, .int .i64 0, .int .i64 0, .slice none 0 0, .slice none 0 0, .slice none 0 0, .slice none 0 0], .agg #[.string ByteArray.empty, .int .u16 0, .int .u16 0], .string ByteArray.empty, .int .u64 0, .int .u32 0], []⟩ 8 (by kernel_rfl) (by kernel_rfl) (by kernel_rfl) (by kernel_rfl)) ?_
  intro W base args ds gs before hval0 hW hcnd hsz0 _
  have hsz : ∀ n ∈ DataW.weightsEach Try.prog (Try.f11.params.toList ++ Rows.acceptNothingSpec.plain.varTypes Try.prog) (ds ++ gs), n ≤ reachBytes := fun n hn => of_decide_eq_true (List.all_eq_true.1 hsz0 n hn)
  have hval : ∀ (j : Nat) t v, Try.f11.params[j]? = some t → args[j]? = some v → Value.okWide Try.prog W .any base t v := hval0
  have hW' := hW
  obtain ⟨p, q, hA0, hV, rfl, hfz, hnd⟩ := hW
  have hA : DataW.TrodAll enc Try.prog W 0 (fun _ => true) true Try.f11.params.toList args.toList ds p := hA0
  rw [Try.params11] at hA hval hsz
  obtain ⟨v0, vs0, d0, ds0, p0, q0, hargs, rfl, rfl, k0, r0⟩ := trodAll_cons hA
  obtain ⟨v1, vs1, d1, ds1, p1, q1, rfl, rfl, rfl, k1, r1⟩ := trodAll_cons r0
  obtain ⟨v2, vs2, d2, ds2, p2, q2, rfl, rfl, rfl, k2, r2⟩ := trodAll_cons r1
  obtain ⟨v3, vs3, d3, ds3, p3, q3, rfl, rfl, rfl, k3, r3⟩ := trodAll_cons r2
  obtain ⟨v4, vs4, d4, ds4, p4, q4, rfl, rfl, rfl, k4, r4⟩ := trodAll_cons r3
  obtain ⟨rfl, rfl, rfl⟩ := trodAll_nil r4
  obtain rfl : args = #[v0, v1, v2, v3, v4] := by cases args; simp_all
  obtain ⟨rfl, rfl⟩ := trodVars_none hV
  have lt0 : ∀ x ∈ p0, x.block < W.heap.size := by obtain ⟨m, hm⟩ := k0; exact DataW.trod_lt m _ _ _ hm
  obtain ⟨x0, e0, w0, b0⟩ := Z02 (n := 8) (τ := (.pair (.int .u16) (.pair .bool (.pair .bool (.pair .bool (.pair .bool (.pair .bool (.pair (.int .i64) (.pair (.int .i64) (.pair (.list (.pair .str (.pair (.int .u16) (.int .u16)))) (.pair (.list (.pair .str (.pair (.int .u16) (.pair (.int .u16) (.pair (.int .u32) .str))))) (.pair (.list (.pair .str (.pair (.int .u16) (.pair (.int .u16) (.pair (.int .u32) .str))))) (.list (.pair .str (.pair (.int .u16) (.pair (.int .u16) (.pair (.int .u32) .str))))))))))))))))) (agg := true) (by kernel_rfl) (hval 0 45 v0 rfl rfl) k0 (fun n hn => hsz n (DataW.weights_mem_each (j := 0) (t := 45) rfl rfl n hn)) (by kernel_rfl)
  have lt1 : ∀ x ∈ p1, x.block < W.heap.size := by obtain ⟨m, hm⟩ := k1; exact DataW.trod_lt m _ _ _ hm
  obtain ⟨x1, e1, w1, b1⟩ := Z02 (n := 8) (τ := (.pair .str (.pair (.int .u16) (.int .u16)))) (agg := true) (by kernel_rfl) (hval 1 52 v1 rfl rfl) k1 (fun n hn => hsz n (DataW.weights_mem_each (j := 1) (t := 52) rfl rfl n hn)) (by kernel_rfl)
  have lt2 : ∀ x ∈ p2, x.block < W.heap.size := by obtain ⟨m, hm⟩ := k2; exact DataW.trod_lt m _ _ _ hm
  obtain ⟨x2, e2, w2, b2⟩ := Z02 (n := 8) (τ := .str) (agg := false) (by kernel_rfl) (hval 2 9 v2 rfl rfl) k2 (fun n hn => hsz n (DataW.weights_mem_each (j := 2) (t := 9) rfl rfl n hn)) (by kernel_rfl)
  have lt3 : ∀ x ∈ p3, x.block < W.heap.size := by obtain ⟨m, hm⟩ := k3; exact DataW.trod_lt m _ _ _ hm
  obtain ⟨x3, e3, w3, b3⟩ := Z02 (n := 8) (τ := .int .u64) (agg := false) (by kernel_rfl) (hval 3 62 v3 rfl rfl) k3 (fun n hn => hsz n (DataW.weights_mem_each (j := 3) (t := 62) rfl rfl n hn)) (by kernel_rfl)
  have lt4 : ∀ x ∈ p4, x.block < W.heap.size := by obtain ⟨m, hm⟩ := k4; exact DataW.trod_lt m _ _ _ hm
  obtain ⟨x4, e4, w4, b4⟩ := Z02 (n := 8) (τ := .int .u32) (agg := false) (by kernel_rfl) (hval 4 54 v4 rfl rfl) k4 (fun n hn => hsz n (DataW.weights_mem_each (j := 4) (t := 54) rfl rfl n hn)) (by kernel_rfl)
  clear hA0 hval0 hsz0 hsz
  refine (V2h ((fun x0 x1 x2 x3 x4 w0 w1 w2 w3 w4 => sem11 x0 x1 x2 x3 x4 w0 w3 w4) x0 x1 x2 x3 x4 w0 w1 w2 w3 w4) W (vs := [v0, v1, v2, v3, v4]) ?_).mono fun e W' ⟨he, bel⟩ => ?_
  · simp only [X0]
    exact ⟨_, _, rfl, e0, ⟨_, _, rfl, e1, ⟨_, _, rfl, e2, ⟨_, _, rfl, e3, ⟨_, _, rfl, e4, rfl⟩⟩⟩⟩⟩
  subst he
  exact ⟨_, rfl, _, _, _, [], _, [], hW', trodAll_mk1 (shut_bool Try.underlying4 _), (trodAll_cons_mk (Below.trod laidOut (by kernel_rfl) (of_decide_eq_true (by kernel_rfl)) k0 bel lt0) (trodAll_cons_mk (Below.trod laidOut (by kernel_rfl) (of_decide_eq_true (by kernel_rfl)) k1 bel lt1) (trodAll_cons_mk (Below.trod laidOut (by kernel_rfl) (of_decide_eq_true (by kernel_rfl)) k2 bel lt2) (trodAll_cons_mk (Below.trod laidOut (by kernel_rfl) (of_decide_eq_true (by kernel_rfl)) k3 bel lt3) (trodAll_cons_mk (Below.trod laidOut (by kernel_rfl) (of_decide_eq_true (by kernel_rfl)) k4 bel lt4) trodAll_mk0))))), rfl, bel.frame _, fun h => by cases h⟩
theorem over : Rows.acceptNothingRow.holds Try.pinned (OpenSpec.ofChange Rows.acceptNothingSpec) :=
  OpenClaim.holds_of_wide 11 Try.f11 rfl rfl rfl rfl rfl rfl rfl ⟨rfl, rfl, rfl, rfl, rfl⟩ rfl rfl rfl rfl rfl (by kernel_rfl) Try.func11 (by kernel_rfl)
    (of_decide_eq_true (by kernel_rfl)) (by unfold Func.isWrapper; first | (rw [if_pos (by decide +kernel)]; kernel_rfl) | (rw [if_neg (by decide +kernel)]; exact ⟨rfl, rfl⟩))
    (fun os started H enc _ => lifted os started H enc)
theorem proved : Rows.AcceptNothingSaid := over
end Go.Proofs.Ytkobjdhbfepkaaa.acceptNothing
namespace Go.Proofs.Ytkobjdhbfepkaaa
/-- The row, under a short name, for the claim. -/
theorem acceptNothing_holds : Rows.AcceptNothingSaid := acceptNothing.proved
#print axioms acceptNothing_holds
end Go.Proofs.Ytkobjdhbfepkaaa
