import Derived.Test.YtpledbapngdkeaaPAskOnes3
import Derived.Test.YtpledbapngdkeaaRows
import Derived.WalkKit
import Derived.ProofKit
import Derived.OpenShut
import Derived.ShutString
import Derived.ChangeOld
import Derived.Below
import Derived.Carry
import Derived.SizedLaws
set_option maxRecDepth 1000000
namespace Go.Proofs.YtpledbapngdkeaaE
open Go
set_option linter.unusedVariables false
set_option linter.unusedSimpArgs false
def forceNat {R : Type} (n : Nat) (K : Nat → Option R) : Option R := match n with | 0 => K 0 | m + 1 => K (Nat.succ m)
theorem forceNat_eq {R : Type} (n : Nat) (K : Nat → Option R) : forceNat n K = K n := by cases n <;> rfl
def forceInt {R : Type} (n : Int) (K : Int → Option R) : Option R := match n with | .ofNat m => forceNat m fun m => K (.ofNat m) | .negSucc m => forceNat m fun m => K (.negSucc m)
theorem forceInt_eq {R : Type} (n : Int) (K : Int → Option R) : forceInt n K = K n := by cases n <;> simp only [forceInt, forceNat_eq]
def forceList {α R : Type} (f : α → (α → Option R) → Option R) : List α → (List α → Option R) → Option R
 | [], K => K []
 | x :: xs, K => f x fun x => forceList f xs fun xs => K (x :: xs)
theorem forceList_eq {α R : Type} {f : α → (α → Option R) → Option R} (hf : ∀ x K, f x K = K x) : ∀ (xs : List α) (K : List α → Option R), forceList f xs K = K xs
 | [], K => rfl
 | x :: xs, K => by simp only [forceList]; rw [hf, forceList_eq hf xs]
def forceU8 {R : Type} (b : UInt8) (K : UInt8 → Option R) : Option R := forceNat b.toNat fun n => K (UInt8.ofNat n)
theorem forceU8_eq {R : Type} (b : UInt8) (K : UInt8 → Option R) : forceU8 b K = K b := by
 simp only [forceU8, forceNat_eq]
 congr 1
 exact UInt8.ofNat_toNat
def forceB {R : Type} (b : Bool) (K : Bool → Option R) : Option R := match b with | true => K true | false => K false
theorem forceB_eq {R : Type} (b : Bool) (K : Bool → Option R) : forceB b K = K b := by cases b <;> rfl
def forceD {R : Type} : (t : Ty) → t.den → (t.den → Option R) → Option R
 | .int _, n, K => forceInt n K
 | .bool, b, K => forceB b K
 | .str, s, K => forceList forceU8 s K
 | .unit, _, K => K ()
 | .list t, xs, K => forceList (forceD t) xs K
 | .pair a b, x, K => forceD a x.1 fun y => forceD b x.2 fun z => K (y, z)
theorem forceD_eq {R : Type} : ∀ (t : Ty) (x : t.den) (K : t.den → Option R), forceD t x K = K x
 | .int _, n, K => forceInt_eq n K
 | .bool, b, K => forceB_eq b K
 | .str, s, K => forceList_eq (fun x K => forceU8_eq x K) s K
 | .unit, _, K => rfl
 | .list t, xs, K => forceList_eq (fun x K => forceD_eq t x K) xs K
 | .pair a b, x, K => by simp only [forceD]; rw [forceD_eq a, forceD_eq b]
mutual
def forceW {R : Type} : AV → (AV → Option R) → Option R
 | .int k n, K => forceInt n fun n => K (.int k n)
 | .bool b, K => forceB b fun b => K (.bool b)
 | .str s, K => forceList forceU8 s fun s => K (.str s)
 | .list t xs, K => forceList (forceD t) xs fun xs => K (.list t xs)
 | .agg cs, K => forceWs cs fun cs => K (.agg cs)
 | .tup cs, K => forceWs cs fun cs => K (.tup cs)
 | .np, K => K .np
 | .nm, K => K .nm
 | .nf, K => K .nf
 | .ns, K => K .ns
 | .ptr k off, K => forceNat k fun k => forceNat off fun off => K (.ptr k off)
 | .rptr k t i off, K => forceNat k fun k => forceNat i fun i => forceNat off fun off => K (.rptr k t i off)
 | .lptr t xs i off, K => forceList (forceD t) xs fun xs => forceNat i fun i => forceNat off fun off => K (.lptr t xs i off)
 | .rowA k, K => forceNat k fun k => K (.rowA k)
 | .rowS k off n c, K => forceNat k fun k => forceNat off fun off => forceNat n fun n => forceB c fun c => K (.rowS k off n c)
 | .mp k, K => forceNat k fun k => K (.mp k)
 | .psl k n, K => forceNat k fun k => forceNat n fun n => K (.psl k n)
 | .fn g cs, K => forceWs cs fun cs => K (.fn g cs)
 | .undef, K => K .undef
 | .dead, K => K .dead
def forceWs {R : Type} : List AV → (List AV → Option R) → Option R
 | [], K => K []
 | v :: vs, K => forceW v fun v => forceWs vs fun vs => K (v :: vs)
end
mutual
theorem forceW_eq {R : Type} : ∀ (v : AV) (K : AV → Option R), forceW v K = K v
 | .int k n, K => by simp only [forceW, forceInt_eq]
 | .bool b, K => by simp only [forceW, forceB_eq]
 | .str s, K => by simp only [forceW]; rw [forceList_eq (fun x K => forceU8_eq x K)]
 | .list t xs, K => by simp only [forceW]; rw [forceList_eq (fun x K => forceD_eq t x K)]
 | .agg cs, K => by simp only [forceW]; rw [forceWs_eq cs]
 | .tup cs, K => by simp only [forceW]; rw [forceWs_eq cs]
 | .np, K => by simp only [forceW]
 | .nm, K => by simp only [forceW]
 | .nf, K => by simp only [forceW]
 | .ns, K => by simp only [forceW]
 | .ptr k off, K => by simp only [forceW, forceNat_eq]
 | .rptr k t i off, K => by simp only [forceW, forceNat_eq]
 | .lptr t xs i off, K => by simp only [forceW]; rw [forceList_eq (fun x K => forceD_eq t x K)]; simp only [forceNat_eq]
 | .rowA k, K => by simp only [forceW, forceNat_eq]
 | .rowS k off n c, K => by simp only [forceW, forceNat_eq, forceB_eq]
 | .mp k, K => by simp only [forceW, forceNat_eq]
 | .psl k n, K => by simp only [forceW, forceNat_eq]
 | .fn g cs, K => by simp only [forceW]; rw [forceWs_eq cs]
 | .undef, K => by simp only [forceW]
 | .dead, K => by simp only [forceW]
theorem forceWs_eq {R : Type} : ∀ (vs : List AV) (K : List AV → Option R), forceWs vs K = K vs
 | [], K => by simp only [forceWs]
 | v :: vs, K => by simp only [forceWs]; rw [forceW_eq v, forceWs_eq vs]
end
def forceWO {R : Type} (o : LObj) (K : LObj → Option R) : Option R :=
 match o with
 | .boxT g cs => forceWs cs fun cs => (match g with | none => K (.boxT none cs) | some n => forceNat n fun n => K (.boxT (some n) cs))
 | .row t xs => forceList (forceD t) xs fun xs => K (.row t xs)
 | .mpo kt vt es => forceList (fun e K => forceD kt e.1 fun a => forceD vt e.2 fun b => K (a, b)) es fun es => K (.mpo kt vt es)
 | .gone => K .gone
theorem forceWO_eq {R : Type} (o : LObj) (K : LObj → Option R) : forceWO o K = K o := by
 cases o with
 | boxT g cs => simp only [forceWO]; rw [forceWs_eq]; cases g <;> simp only [forceNat_eq]
 | row t xs => simp only [forceWO]; rw [forceList_eq (fun x K => forceD_eq t x K)]
 | mpo kt vt es => simp only [forceWO]; rw [forceList_eq (fun e K => by rw [forceD_eq, forceD_eq])]
 | gone => rfl
def forceWOs {R : Type} (os : List LObj) (K : List LObj → Option R) : Option R := forceList forceWO os K
theorem forceWOs_eq {R : Type} (os : List LObj) (K : List LObj → Option R) : forceWOs os K = K os := forceList_eq (fun o K => forceWO_eq o K) os K
def normC {R : Type} (keep : List Nat) (n0 : Nat) (st : St) (K : St → Option R) : Option R :=
 forceWs (normL keep n0 st).1 fun vs => forceWOs (normL keep n0 st).2 fun os => K (stOf keep vs os)
theorem normC_eq {R : Type} (keep : List Nat) (n0 : Nat) (st : St) (K : St → Option R) : normC keep n0 st K = K (norm keep n0 st) := by
 simp only [normC, forceWs_eq, forceWOs_eq]
 rfl
def roundC (keep keepX : List Nat) (n0 : Nat) : Ex → St → Option (St ⊕ (Ex × St))
 | .normal, st => normC keep n0 st fun st => some (.inl st)
 | .exit i, st => normC keepX n0 st fun st => some (.inr (.exit i, st))
 | .ret, st => normC keepX n0 st fun st => some (.inr (.ret, st))
theorem roundC_eq (keep keepX : List Nat) (n0 : Nat) : roundC keep keepX n0 = roundK keep keepX n0 := by
 funext e st
 cases e <;> simp only [roundC, normC_eq, roundK]
def lpC (T : Tab) (orc : Orc) (H : Hint) (n0 fuel : Nat) : Nat → Lp
 | 0 => fun _ _ _ => .no
 | n + 1 => fun bid body st =>
   .of (normC (H.keep bid) n0 st fun st => loopN (fun st => evC T orc (lpC T orc H n0 fuel n) body bid st (roundC (H.keep bid) (H.keepX bid) n0)) fuel st)
theorem loopN_mono {F F' : St → Option (St ⊕ (Ex × St))} (h : ∀ st r, F st = some r → F' st = some r) {r : Ex × St} : ∀ (n : Nat) (st : St), loopN F n st = some r → loopN F' n st = some r
 | 0, _, h0 => by simp [loopN] at h0
 | n + 1, st, h0 => by
   simp only [loopN] at h0 ⊢
   split at h0
   · cases h0
   · rename_i r' hr
     rw [h _ _ hr]
     exact h0
   · rename_i st' hr
     rw [h _ _ hr]
     exact loopN_mono h n st' h0
theorem lpC_sub {T : Tab} {orc : Orc} {H : Hint} {n0 fuel : Nat} : ∀ (n : Nat) (bid : Nat) (body : Code) (st : St) (q : Ex × St), (lpC T orc H n0 fuel n bid body st).get = some q → (lpN T orc H n0 n bid body st).get = some q
 | 0, _, _, _, _, h => by simp [lpC, Tr.get] at h
 | n + 1, bid, body, st, q, h => by
   simp only [lpC, lpN, Tr.get_of, normC_eq, roundC_eq] at h ⊢
   exact loopF_of (loopN_mono (fun st r hr => evC_mono body bid st _ _ (fun x _ st q hq => lpC_sub n x.1 x.2 st q hq) (fun _ _ h => h) hr) _ _ h)
def evFnC (T : Tab) (orc : Orc) (H : Hint) (fuel : Nat) (fn : Func) (args : List AV) (objs : List LObj) : Option Res :=
 match fn.body with
 | none => none
 | some c => bif dstOk fn.ntmps c && Nat.ble args.length fn.ntmps then evC T orc (lpC T orc H objs.length fuel 8) c 1000000 (startSt args objs fn.ntmps) (finishK T H.own objs.length fn) else none
theorem evFnC_sub {T : Tab} {orc : Orc} {H : Hint} {fuel : Nat} {fn : Func} {args : List AV} {objs : List LObj} {r : Res} (h : evFnC T orc H fuel fn args objs = some r) : evFn T orc H fn args objs = some r := by
 unfold evFnC at h
 unfold evFn
 split at h
 · cases h
 · rename_i c hb
   rw [hb]
   simp only
   cases hd : (dstOk fn.ntmps c && Nat.ble args.length fn.ntmps) with
   | false => rw [hd] at h; cases h
   | true =>
     rw [hd] at h
     simp only [cond_true] at h ⊢
     exact evC_mono c 1000000 _ _ _ (fun x _ st q hq => lpC_sub 8 x.1 x.2 st q hq) (fun _ _ h => h) h
abbrev Fns := List (Nat × (Tab × Hint × Func))
def fnAt : Fns → Nat → Option (Tab × Hint × Func)
 | [], _ => none
 | e :: es, f => bif Nat.beq e.1 f then some e.2 else fnAt es f
def orcD (tb : Fns) (base : Orc) (fuel : Nat) : Nat → Orc
 | 0 => fun _ _ _ => .no
 | n + 1 => fun f args objs => match fnAt tb f with
   | none => base f args objs
   | some e => .of (forceWs args fun args => forceWOs objs fun objs => match evFnC e.1 (orcD tb base fuel n) e.2.1 fuel e.2.2 args objs with
     | none => none
     | some r => forceWs r.1 fun vs => forceWOs r.2 fun os => some (vs, os))
def FnOk (P : Program) (e : Nat × (Tab × Hint × Func)) : Prop := TabOk P e.2.1 ∧ P.funcs[e.1]? = some e.2.2.2 ∧ e.2.2.2.name ≠ "runtime.NumGoroutine"
theorem fnAt_ok {P : Program} : ∀ {tb : Fns}, (∀ e ∈ tb, FnOk P e) → ∀ {f : Nat} {e : Tab × Hint × Func}, fnAt tb f = some e → FnOk P (f, e)
 | [], _, _, _, h => by cases h
 | x :: xs, hx, f, e, h => by
   simp only [fnAt] at h
   cases hb : Nat.beq x.1 f with
   | true =>
     rw [hb] at h
     simp only [cond_true, Option.some.injEq] at h
     have h1 := hx x (by simp)
     subst h
     obtain rfl := Nat.eq_of_beq_eq_true hb
     exact h1
   | false =>
     rw [hb] at h
     exact fnAt_ok (fun y hy => hx y (List.mem_cons_of_mem _ hy)) h
theorem orcD_sound {P : Program} (hmo : P.follows .mixedOrders = true) {tb : Fns} (htb : ∀ e ∈ tb, FnOk P e) {base : Orc} (hB : SoundOrc P base) (fuel : Nat) : ∀ n, SoundOrc P (orcD tb base fuel n)
 | 0 => fun f args objs res objs' h => by simp [orcD, Tr.get] at h
 | n + 1 => fun f args objs res objs' h => by
   simp only [orcD] at h
   split at h
   · exact hB _ _ _ _ _ h
   · rename_i e he
     obtain ⟨h1, h2, h3⟩ := fnAt_ok htb he
     simp only [Tr.get_of, forceWs_eq, forceWOs_eq] at h
     split at h
     · cases h
     · rename_i r hr
       have h := Option.some.inj h
       rw [Prod.eta] at h
       subst h
       exact evFn_sound hmo h1 (orcD_sound hmo htb hB fuel n) h2 h3 (evFnC_sub hr)
open Go Go.Proofs.YtpledbapngdkeaaB
noncomputable def tbl13 : Fns := [(13, T13, h13, Try.f13), (14, T14, h14, Try.f14), (15, T15, h15, Try.f15), (19, T19, h19, Try.f19), (20, T20, h20, Try.f20), (32, T32, h32, Try.f32), (34, T34, h34, Try.f34), (45, T45, h45, Try.f45), (59, T59, h59, Try.f59), (68, T68, h68, Try.f68), (69, T69, h69, Try.f69), (70, T70, h70, Try.f70), (71, T71, h71, Try.f71), (76, T76, h76, Try.f76), (77, T77, h77, Try.f77), (81, T81, h81, Try.f81), (82, T82, h82, Try.f82), (91, T91, h91, Try.f91), (92, T92, h92, Try.f92), (93, T93, h93, Try.f93), (94, T94, h94, Try.f94), (95, T95, h95, Try.f95), (96, T96, h96, Try.f96), (97, T97, h97, Try.f97), (98, T98, h98, Try.f98), (99, T99, h99, Try.f99), (100, T100, h100, Try.f100), (101, T101, h101, Try.f101), (102, T102, h102, Try.f102), (103, { T103 with kns := true }, h103, Try.f103), (104, T104, h104, Try.f104), (117, T117, h117, Try.f117), (119, T119, h119, Try.f119), (120, T120, h120, Try.f120), (121, T121, h121, Try.f121), (122, T122, h122, Try.f122), (123, T123, h123, Try.f123), (124, T124, h124, Try.f124), (125, { T125 with kns := true }, hOwn h125, Try.f125), (138, T138, h138, Try.f138), (140, T140, h140, Try.f140), (141, T141, h141, Try.f141), (142, T142, h142, Try.f142), (143, T143, h143, Try.f143), (152, T152, h152, Try.f152)]
theorem tblok13 : ∀ e ∈ tbl13, FnOk Try.prog e := all_cons ⟨tab0, Try.func13, by decide⟩ (all_cons ⟨tab0, Try.func14, by decide⟩ (all_cons ⟨tab0, Try.func15, by decide⟩ (all_cons ⟨tab0, Try.func19, by decide⟩ (all_cons ⟨tab0, Try.func20, by decide⟩ (all_cons ⟨tab0, Try.func32, by decide⟩ (all_cons ⟨tab0, Try.func34, by decide⟩ (all_cons ⟨tab0, Try.func45, by decide⟩ (all_cons ⟨tab0, Try.func59, by decide⟩ (all_cons ⟨tab0, Try.func68, by decide⟩ (all_cons ⟨tab0, Try.func69, by decide⟩ (all_cons ⟨tab0, Try.func70, by decide⟩ (all_cons ⟨tab0, Try.func71, by decide⟩ (all_cons ⟨tab0, Try.func76, by decide⟩ (all_cons ⟨tab0, Try.func77, by decide⟩ (all_cons ⟨tab0, Try.func81, by decide⟩ (all_cons ⟨tab0, Try.func82, by decide⟩ (all_cons ⟨tab0, Try.func91, by decide⟩ (all_cons ⟨tab0, Try.func92, by decide⟩ (all_cons ⟨tab0, Try.func93, by decide⟩ (all_cons ⟨tab0, Try.func94, by decide⟩ (all_cons ⟨tab0, Try.func95, by decide⟩ (all_cons ⟨tab0, Try.func96, by decide⟩ (all_cons ⟨tab0, Try.func97, by decide⟩ (all_cons ⟨tab0, Try.func98, by decide⟩ (all_cons ⟨tab0, Try.func99, by decide⟩ (all_cons ⟨tab0, Try.func100, by decide⟩ (all_cons ⟨tab0, Try.func101, by decide⟩ (all_cons ⟨tab0, Try.func102, by decide⟩ (all_cons ⟨(tab_kns (T := T103) tab0), Try.func103, by decide⟩ (all_cons ⟨tab0, Try.func104, by decide⟩ (all_cons ⟨tab0, Try.func117, by decide⟩ (all_cons ⟨tab0, Try.func119, by decide⟩ (all_cons ⟨tab0, Try.func120, by decide⟩ (all_cons ⟨tab0, Try.func121, by decide⟩ (all_cons ⟨tab0, Try.func122, by decide⟩ (all_cons ⟨tab0, Try.func123, by decide⟩ (all_cons ⟨tab0, Try.func124, by decide⟩ (all_cons ⟨(tab_kns (T := T125) tab0), Try.func125, by decide⟩ (all_cons ⟨tab0, Try.func138, by decide⟩ (all_cons ⟨tab0, Try.func140, by decide⟩ (all_cons ⟨tab0, Try.func141, by decide⟩ (all_cons ⟨tab0, Try.func142, by decide⟩ (all_cons ⟨tab0, Try.func143, by decide⟩ (all_cons ⟨tab0, Try.func152, by decide⟩ (all_nil)))))))))))))))))))))))))))))))))))))))))))))
theorem semD13 : SemF Try.prog 13 [] [] [.bool true] [] := orcD_sound mixed0 tblok13 (orcB_sound (fs := [fs90]) (os := []) (all_cons okf90 (all_nil)) (all_nil)) 80 40 13 [] [] [.bool true] [] (by kernel_rfl)
def os13d : OSpec := { f := 13, sh := [], so := [], F := fun _ _ => .ret ([.bool true], []) }
theorem ok13d : os13d.Ok Try.prog := by
 rintro _ _ r h
 cases h
 exact semD13
theorem nx_fin {all : List QRt} {p i0 : Int} (hl : all.length ≤ 1000) : ∀ (n : Nat) (id : Int), nxM all i0 id ≤ n → nxI all p i0 id → takenB all p (nextI all p i0) = false
 | 0, id, hm, h => by
   cases ht : takenB all p id with
   | false => rw [nx_out h ht]; exact ht
   | true => have := (nx_step hl h ht).2; omega
 | n + 1, id, hm, h => by
   cases ht : takenB all p id with
   | false => rw [nx_out h ht]; exact ht
   | true =>
     have h2 := nx_step hl h ht
     exact nx_fin hl n _ (by omega) h2.1
theorem open_free {all : List QRt} {x : QRt} {draw : Int} (hl : all.length ≤ 1000) : takenB all (openY all x draw).2.1 (openY all x draw).1 = false :=
 nx_fin hl _ _ (Nat.le_refl _) (nx_start (i0 := draw % 65536) (by omega) (by omega))
theorem okT_u32r {n : Int} (h : okT (.int .u32) n) : 0 ≤ n ∧ n < 4294967296 := by
 have hr : 0 ≤ n ∧ n ≤ 4294967295 := by simpa [okT, Lit.wf, IntKind.min, IntKind.max, IntKind.signed, IntKind.bits] using h
 omega
theorem okT_u64r {n : Int} (h : okT (.int .u64) n) : 0 ≤ n ∧ n < 18446744073709551616 := by
 have hr : 0 ≤ n ∧ n ≤ 18446744073709551615 := by simpa [okT, Lit.wf, IntKind.min, IntKind.max, IntKind.signed, IntKind.bits] using h
 omega
theorem okT_rgK {q : QRt} (h : okT QR q) : rgK q = true := by
 have h := okT_u64r h.2.2.2.2.2.2
 rw [rgK, dec_true h.1, dec_true h.2]
 rfl
theorem okT_rgL {l : List DEt} (h : okT (.list DE) l) : l.all rgD = true := by
 refine List.all_eq_true.2 fun x hx => ?_
 have h := h.2 x hx
 have hd := okT_u32r h.2.2
 rw [rgD, dec_true hd.1, dec_true hd.2, okT_rgK h.2.1]
 rfl
theorem akS_ok {all : List QRt} (h : all.length ≤ 1000) : akS all [] (all.length : Int) 0 = true := by
 rw [akS, Nat.ble_eq_true_of_le h, dec_true rfl, dec_true rfl]
 rfl
theorem akT_ok {all : List QRt} {draw : Int} (h : all.length ≤ 1000) (hd : 0 ≤ draw ∧ draw < 4294967296) : akT all draw = true := by
 rw [akT, Nat.ble_eq_true_of_le h, dec_true hd.1, dec_true hd.2]
 rfl
def stepO (all : List QRt) (x : DEt) : List QRt := bif x.1 == 0 then stepD 6 all x else all
def onesF (l : List DEt) : List QRt := l.foldl stepO []
def dstB : List QRt → Bool
 | [] => true
 | x :: l => !(takenB l x.2.1 x.1) && dstB l
def akV (l : List DEt) (all : List QRt) (host room i : Int) : Bool := Nat.ble l.length 1000000 && (l.all rgD && (decide (all = []) && (decide (host = 7) && (decide (room = 6) && decide (i = 0)))))
def akU (a : List QRt) (i : Int) : Bool := Nat.ble a.length 1000 && (dstB a && decide (i = 0))
def akX (a : List QRt) (i k : Int) : Bool := Nat.ble a.length 1000 && (dstB a && (decide (0 ≤ i) && (decide (i < (a.length : Int)) && decide (k = 0))))
theorem ip_sym (x y : QRt) : ipB x.1 x.2.1 y = ipB y.1 y.2.1 x := by
 unfold ipB
 rw [Bool.beq_comm (a := y.1), Bool.beq_comm (a := y.2.1)]
theorem taken_app {all : List QRt} {y : QRt} {p i : Int} : takenB (all ++ [y]) p i = (takenB all p i || ipB i p y) := by
 unfold takenB
 rw [List.any_append, List.any_cons, List.any_nil, Bool.or_false]
theorem dst_app {y : QRt} : ∀ {all : List QRt}, dstB all = true → takenB all y.2.1 y.1 = false → dstB (all ++ [y]) = true
 | [], _, _ => rfl
 | x :: l, h, ht => by
   rw [dstB, Bool.and_eq_true] at h
   have ht : (ipB y.1 y.2.1 x || takenB l y.2.1 y.1) = false := ht
   rw [Bool.or_eq_false_iff] at ht
   have h1 : takenB l x.2.1 x.1 = false := by simpa using h.1
   rw [List.cons_append, dstB, taken_app, h1, ip_sym, ht.1, dst_app h.2 ht.2]
   rfl
theorem dst_at {d : QRt} : ∀ {a : List QRt} {k i : Nat}, dstB a = true → k < i → i < a.length → ((a.getD k d).1 == (a.getD i d).1 && (a.getD k d).2.1 == (a.getD i d).2.1) = false
 | [], _, _, _, _, h => by simp at h
 | x :: l, k, 0, _, h, _ => by omega
 | x :: l, 0, i + 1, h, _, hi => by
   rw [dstB, Bool.and_eq_true] at h
   have h1 : takenB l x.2.1 x.1 = false := by simpa using h.1
   have hi : i < l.length := by simpa using hi
   have h2 : ipB x.1 x.2.1 (l.getD i d) = false := by
    have : ∀ q ∈ l, ipB x.1 x.2.1 q = false := fun q hq => by
     cases hb : ipB x.1 x.2.1 q with
     | false => rfl
     | true => rw [show takenB l x.2.1 x.1 = true from List.any_eq_true.2 ⟨q, hq, hb⟩] at h1; cases h1
    refine this _ ?_
    rw [List.getD_eq_getElem?_getD, List.getElem?_eq_getElem hi]
    exact List.getElem_mem hi
   rw [ip_sym] at h2
   exact h2
 | x :: l, k + 1, i + 1, h, hk, hi => by
   rw [dstB, Bool.and_eq_true] at h
   exact dst_at (a := l) h.2 (by omega) (by simpa using hi)
theorem late_max {q : QRt} (h : rgK q = true) : lateB 18446744073709551615 4294967295 q = true := by
 rw [late_eq h (by omega)]
 unfold lateR untilR
 refine dec_true ?_
 cases decide (IntKind.wrap IntKind.u64 (q.2.2.2.2.2.2 + IntKind.wrap IntKind.u64 4294967295) < q.2.2.2.2.2.2) with
 | true => exact Int.le_refl _
 | false =>
   rw [cond_false]
   show (q.2.2.2.2.2.2 + IntKind.wrap IntKind.u64 4294967295) % 18446744073709551616 ≤ _
   omega
theorem late_all {all : List QRt} (h : all.all rgK = true) : all.filter (lateB 18446744073709551615 4294967295) = all :=
 List.filter_eq_self.2 fun q hq => late_max (List.all_eq_true.1 h q hq)
theorem port_lo {d : Int} (h : 0 ≤ d) : ¬ portD d < 1024 := by
 unfold portD
 omega
noncomputable def b4t : Code := nthLoop c4 0
def ls4t : LoopSpec := { bid := 0, sh := [.d (.list DE) false, .d .bool false, .ptr 0 0, .d (.int .i64) false], so := [.box [.d (.int .u32) false, .d (.int .i64) false, .row 1], .row QR], F := fun (l, up, i, _) ((host, room, _), all, _) => .on (akV l all host room i) (.exit 0, [.dead, .bool up, .ptr 0 0], [.box [.int .u32 host, .int .i64 room, .rowA 1], .row QR (onesF l)]) }
def r4t (l : List (Int × ((Int × (Int × ((Int × Int) × (QQt × QQt)))) × Int))) (up : Bool) (i host room : Int) (all : List (Int × (Int × ((Int × Int) × (QQt × QQt))))) : Tr (St ⊕ (Ex × St)) := .br (decide (i < (↑l.length : Int))) (.br (decide (0 ≤ i)) (.br (decide (i < (↑l.length : Int))) (.br ((l.getD i.toNat (Ty.dflt DE)).1 != 0) (.ret (.inl (stOf [0, 3, 4, 5] [.list DE l, .bool up, .ptr 0 0, .int .i64 (IntKind.wrap .i64 (i + 1))] [.boxT none [.int .u32 host, .int .i64 room, .rowA 1], .row QR all]))) (.br (decide (0 ≤ i)) (.br (decide (i < (↑l.length : Int))) (.br (decide (0 ≤ i)) (.br (decide (i < (↑l.length : Int))) (.br (akT all (l.getD i.toNat (Ty.dflt DE)).2.2) (.br (decide (room ≤ (↑all.length : Int))) (.br (!(5 == 0) == decide ((↑all.length : Int) < 6)) (.ret (.inr (.ret, stOf [2, 3, 4] [.bool false, .bool up, .ptr 0 0] [.boxT none [.int .u32 host, .int .i64 room, .rowA 1], .row QR all]))) (.ret (.inl (stOf [0, 3, 4, 5] [.list DE l, .bool up, .ptr 0 0, .int .i64 (IntKind.wrap .i64 (i + 1))] [.boxT none [.int .u32 host, .int .i64 room, .rowA 1], .row QR all])))) (.br (!(0 == 0) == decide ((↑all.length : Int) < 6)) (.ret (.inr (.ret, stOf [2, 3, 4] [.bool false, .bool up, .ptr 0 0] [.boxT none [.int .u32 host, .int .i64 room, .rowA 1], .row QR (all ++ [openY all (l.getD i.toNat (Ty.dflt DE)).2.1 (l.getD i.toNat (Ty.dflt DE)).2.2])]))) (.br (decide ((openY all (l.getD i.toNat (Ty.dflt DE)).2.1 (l.getD i.toNat (Ty.dflt DE)).2.2).2.1 < 1024)) (.ret (.inr (.ret, stOf [2, 3, 4] [.bool false, .bool up, .ptr 0 0] [.boxT none [.int .u32 host, .int .i64 room, .rowA 1], .row QR (all ++ [openY all (l.getD i.toNat (Ty.dflt DE)).2.1 (l.getD i.toNat (Ty.dflt DE)).2.2])]))) (.br (decide (0 ≤ i)) (.br (decide (i < (↑l.length : Int))) (.br (!((openY all (l.getD i.toNat (Ty.dflt DE)).2.1 (l.getD i.toNat (Ty.dflt DE)).2.2).2.2.2.1.1 == (l.getD i.toNat (Ty.dflt DE)).2.1.2.2.2.1.1 && ((openY all (l.getD i.toNat (Ty.dflt DE)).2.1 (l.getD i.toNat (Ty.dflt DE)).2.2).2.2.2.1.2.1 == (l.getD i.toNat (Ty.dflt DE)).2.1.2.2.2.1.2.1 && ((openY all (l.getD i.toNat (Ty.dflt DE)).2.1 (l.getD i.toNat (Ty.dflt DE)).2.2).2.2.2.1.2.2 == (l.getD i.toNat (Ty.dflt DE)).2.1.2.2.2.1.2.2 && true)))) (.ret (.inr (.ret, stOf [2, 3, 4] [.bool false, .bool up, .ptr 0 0] [.boxT none [.int .u32 host, .int .i64 room, .rowA 1], .row QR (all ++ [openY all (l.getD i.toNat (Ty.dflt DE)).2.1 (l.getD i.toNat (Ty.dflt DE)).2.2])]))) (.br (decide (0 ≤ i)) (.br (decide (i < (↑l.length : Int))) (.br ((openY all (l.getD i.toNat (Ty.dflt DE)).2.1 (l.getD i.toNat (Ty.dflt DE)).2.2).2.2.2.2.2.1 != (l.getD i.toNat (Ty.dflt DE)).2.1.2.2.2.2.2.1) (.ret (.inr (.ret, stOf [2, 3, 4] [.bool false, .bool up, .ptr 0 0] [.boxT none [.int .u32 host, .int .i64 room, .rowA 1], .row QR (all ++ [openY all (l.getD i.toNat (Ty.dflt DE)).2.1 (l.getD i.toNat (Ty.dflt DE)).2.2])]))) (.ret (.inl (stOf [0, 3, 4, 5] [.list DE l, .bool up, .ptr 0 0, .int .i64 (IntKind.wrap .i64 (i + 1))] [.boxT none [.int .u32 host, .int .i64 room, .rowA 1], .row QR (all ++ [openY all (l.getD i.toNat (Ty.dflt DE)).2.1 (l.getD i.toNat (Ty.dflt DE)).2.2])])))) .no) .no)) .no) .no)))) .no) .no) .no) .no) .no)) .no) .no) (.ret (.inr (.exit 0, stOf [2, 3, 4] [.dead, .bool up, .ptr 0 0] [.boxT none [.int .u32 host, .int .i64 room, .rowA 1], .row QR all])))
theorem round4t (lp : Lp) (l : List (Int × ((Int × (Int × ((Int × Int) × (QQt × QQt)))) × Int))) (up : Bool) (i host room : Int) (all : List (Int × (Int × ((Int × Int) × (QQt × QQt))))) : evC T0 (orcB [fs16, fs18] [os13d, os14, os20p, os21, os19]) lp b4t 0 (stOf [0, 3, 4, 5] [.list DE l, .bool up, .ptr 0 0, .int .i64 i] [.box [.int .u32 host, .int .i64 room, .rowA 1], .row QR all]) (roundK [0, 3, 4, 5] [2, 3, 4] 0) = (r4t l up i host room all).get := by kernel_rfl
theorem wf4t (l : List (Int × ((Int × (Int × ((Int × Int) × (QQt × QQt)))) × Int))) (up : Bool) (host room : Int) (I'' : List (Int × (Int × ((Int × Int) × (QQt × QQt)))) → Int → Prop) (m'' : List (Int × (Int × ((Int × Int) × (QQt × QQt)))) → Int → Nat) (r'' : Ex × St) (h : ∀ (all : List (Int × (Int × ((Int × Int) × (QQt × QQt))))) (i : Int), I'' all i → (r4t l up i host room all).all fun x'' => x'' = .inr r'' ∨ ∃ (all' : List (Int × (Int × ((Int × Int) × (QQt × QQt))))) (i' : Int), x'' = .inl (stOf [0, 3, 4, 5] [.list DE l, .bool up, .ptr 0 0, .int .i64 i'] [.box [.int .u32 host, .int .i64 room, .rowA 1], .row QR all']) ∧ I'' all' i' ∧ m'' all' i' < m'' all i) (lp : Lp) (all : List (Int × (Int × ((Int × Int) × (QQt × QQt))))) (i : Int) : I'' all i →
    loopF (fun st => evC T0 (orcB [fs16, fs18] [os13d, os14, os20p, os21, os19]) lp b4t 0 st (roundK [0, 3, 4, 5] [2, 3, 4] 0)) (stOf [0, 3, 4, 5] [.list DE l, .bool up, .ptr 0 0, .int .i64 i] [.box [.int .u32 host, .int .i64 room, .rowA 1], .row QR all]) = some r'' :=
 loop_tr (fun a'' : List (Int × (Int × ((Int × Int) × (QQt × QQt)))) × Int => stOf [0, 3, 4, 5] [.list DE l, .bool up, .ptr 0 0, .int .i64 a''.2] [.box [.int .u32 host, .int .i64 room, .rowA 1], .row QR a''.1]) (fun a'' => I'' a''.1 a''.2) (fun a'' => m'' a''.1 a''.2) r'' (fun a'' => r4t l up a''.2 host room a''.1)
  (fun a'' x hx => (round4t lp l up a''.2 host room a''.1).trans hx) (fun a'' ha => Tr.all_mono (fun x'' hx => hx.imp id fun ⟨all', i', h1, h2, h3⟩ => ⟨(all', i'), h1, h2, h3⟩) (h (a''.1) (a''.2) ha)) (all, i)
theorem loop4t : ls4t.Ok T0 (orcB [fs16, fs18] [os13d, os14, os20p, os21, os19]) h4 0 0 b4t := by
 intro q'' hq'' x'' y'' r'' h
 obtain ⟨(l : List (Int × ((Int × (Int × ((Int × Int) × (QQt × QQt)))) × Int))), (up : Bool), (i : Int), _⟩ := x''
 obtain ⟨⟨(host : Int), (room : Int), _⟩, (all : List (Int × (Int × ((Int × Int) × (QQt × QQt))))), _⟩ := y''
 obtain ⟨hc, rfl⟩ := Tr.get_on h
 show loopF (fun st => evC T0 (orcB [fs16, fs18] [os13d, os14, os20p, os21, os19]) (lpN T0 (orcB [fs16, fs18] [os13d, os14, os20p, os21, os19]) h4 0 q'') b4t 0 st (roundK [0, 3, 4, 5] [2, 3, 4] 0)) (stOf [0, 3, 4, 5] [.list DE l, .bool up, .ptr 0 0, .int .i64 i] [.box [.int .u32 host, .int .i64 room, .rowA 1], .row QR all]) = some (.exit 0, stOf [2, 3, 4] ([.dead, .bool up, .ptr 0 0]) ([.box [.int .u32 host, .int .i64 room, .rowA 1], .row QR (onesF l)]))
 simp only [akV, Bool.and_eq_true, decide_eq_true_eq] at hc
 obtain ⟨hl, hg, rfl, rfl, rfl, rfl⟩ := hc
 have hl := Nat.le_of_ble_eq_true hl
 refine wf4t l up 7 6 (fun all i => 0 ≤ i ∧ i ≤ l.length ∧ all = (l.take i.toNat).foldl stepO [] ∧ okK 6 all ∧ dstB all = true) (fun all i => (l.length - i).toNat) _ ?_ _ [] 0 ⟨by omega, by omega, rfl, ⟨by decide, rfl⟩, rfl⟩
 rintro all i ⟨h0, h1, he, hk, hds⟩
 unfold r4t
 rw [wrap_succ h0 h1 (by omega)]
 by_cases hi : i < l.length
 · have hs := take_foldl stepO [] l i.toNat (Ty.dflt DE) (by omega)
   have hx := all_getD hg (k := i.toNat) (by omega) (Ty.dflt DE)
   generalize l.getD i.toNat (Ty.dflt DE) = x at *
   rw [← he] at hs
   have hok := step_ok hk hx
   have hk1 := hk.1
   simp only [rgD, Bool.and_eq_true, decide_eq_true_eq] at hx
   refine Tr.all_t (dec_true hi) (Tr.all_t (dec_true h0) (Tr.all_t (dec_true hi) (Tr.all_br (fun hk0 => ?_) (fun hk0 => ?_))))
   · have hk0 : (x.1 == 0) = false := by cases hb : (x.1 == 0) with | false => rfl | true => rw [bne, hb] at hk0; cases hk0
     have hst : stepO all x = all := by rw [stepO, hk0]; rfl
     exact Tr.all_ret (.inr ⟨_, _, rfl, ⟨by omega, by omega, by rw [show (i + 1).toNat = i.toNat + 1 by omega, hs, hst], hk, hds⟩, by omega⟩)
   · have hk0 : (x.1 == 0) = true := by cases hb : (x.1 == 0) with | true => rfl | false => rw [bne, hb] at hk0; cases hk0
     have hst : stepO all x = bif decide (6 ≤ (all.length : Int)) then all else all ++ [openY all x.2.1 x.2.2] := by rw [stepO, hk0, cond_true, stepD, hk0, cond_true]
     have hst2 : stepD 6 all x = stepO all x := by rw [stepO, hk0]; rfl
     refine Tr.all_t (dec_true h0) (Tr.all_t (dec_true hi) (Tr.all_t (dec_true h0) (Tr.all_t (dec_true hi) (Tr.all_t (akT_ok (by omega) hx.1) (Tr.all_br (fun hr => ?_) (fun hr => ?_))))))
     · rw [hr, cond_true] at hst
       have hr := of_decide_eq_true hr
       refine Tr.all_f (by rw [dec_false (show ¬ (all.length : Int) < 6 by omega)]; rfl) (Tr.all_ret (.inr ⟨_, _, rfl, ⟨by omega, by omega, by rw [show (i + 1).toNat = i.toNat + 1 by omega, hs, hst], hk, hds⟩, by omega⟩))
     · rw [hr, cond_false] at hst
       have hr := of_decide_eq_false hr
       rw [hst2, hst] at hok
       have hq : ∀ b : Bool, b = eqQ (0, 0, (0, 0), x.2.1.2.2.2.1, [], 0, 0) (0, 0, (0, 0), x.2.1.2.2.2.1, [], 0, 0) → b = true := fun b hb => by rw [hb]; exact eqQ_iff.2 rfl
       refine Tr.all_f (by rw [dec_true (show (all.length : Int) < 6 by omega)]; rfl) (Tr.all_f (dec_false (port_lo hx.1.1)) (Tr.all_t (dec_true h0) (Tr.all_t (dec_true hi) (Tr.all_f ?_ (Tr.all_t (dec_true h0) (Tr.all_t (dec_true hi) (Tr.all_f ?_ (Tr.all_ret (.inr ⟨_, _, rfl, ⟨by omega, by omega, by rw [show (i + 1).toNat = i.toNat + 1 by omega, hs, hst], hok, dst_app hds (open_free (by omega))⟩, by omega⟩)))))))))
       · have : (x.2.1.2.2.2.1.1 == x.2.1.2.2.2.1.1 && (x.2.1.2.2.2.1.2.1 == x.2.1.2.2.2.1.2.1 && (x.2.1.2.2.2.1.2.2 == x.2.1.2.2.2.1.2.2 && true))) = true := by simp
         exact (congrArg (fun b => !b) this)
       · have : (x.2.1.2.2.2.2.2.1 == x.2.1.2.2.2.2.2.1) = true := beq_self_eq_true _
         exact (congrArg (fun b => !b) this)
 · refine Tr.all_f (dec_false hi) (Tr.all_ret (.inl ?_))
   rw [List.take_of_length_le (by omega)] at he
   rw [he]
   rfl
noncomputable def b4i : Code := nthLoop (nthLoop c4 1) 0
def ls4i : LoopSpec := { bid := 4, sh := [.d .bool false, .ptr 0 0, .d (.list QR) false, .d (.int .i64) false, .d (.int .i64) false], so := [.box [.d (.int .u32) false, .d (.int .i64) false, .row 1], .row QR], F := fun (up, a, i, k, _) ((host, room, _), all, _) => .on (akX a i k) (.exit 4, [.dead, .bool up, .ptr 0 0, .list QR a, .int .i64 i], [.box [.int .u32 host, .int .i64 room, .rowA 1], .row QR all]) }
def r4i (up : Bool) (a : List (Int × (Int × ((Int × Int) × (QQt × QQt))))) (i k host room : Int) (all : List (Int × (Int × ((Int × Int) × (QQt × QQt))))) : Tr (St ⊕ (Ex × St)) := .br (decide (k < i)) (.br (decide (0 ≤ k)) (.br (decide (k < (↑a.length : Int))) (.br (decide (0 ≤ i)) (.br (decide (i < (↑a.length : Int))) (.br ((a.getD k.toNat (Ty.dflt QR)).1 == (a.getD i.toNat (Ty.dflt QR)).1) (.br (decide (0 ≤ k)) (.br (decide (k < (↑a.length : Int))) (.br (decide (0 ≤ i)) (.br (decide (i < (↑a.length : Int))) (.br ((a.getD k.toNat (Ty.dflt QR)).2.1 == (a.getD i.toNat (Ty.dflt QR)).2.1) (.ret (.inr (.ret, stOf [2, 3, 4, 9, 10] [.bool false, .bool up, .ptr 0 0, .list QR a, .int .i64 i] [.boxT none [.int .u32 host, .int .i64 room, .rowA 1], .row QR all]))) (.ret (.inl (stOf [3, 4, 9, 10, 11] [.bool up, .ptr 0 0, .list QR a, .int .i64 i, .int .i64 (IntKind.wrap .i64 (k + 1))] [.boxT none [.int .u32 host, .int .i64 room, .rowA 1], .row QR all])))) .no) .no) .no) .no) (.ret (.inl (stOf [3, 4, 9, 10, 11] [.bool up, .ptr 0 0, .list QR a, .int .i64 i, .int .i64 (IntKind.wrap .i64 (k + 1))] [.boxT none [.int .u32 host, .int .i64 room, .rowA 1], .row QR all])))) .no) .no) .no) .no) (.ret (.inr (.exit 4, stOf [2, 3, 4, 9, 10] [.dead, .bool up, .ptr 0 0, .list QR a, .int .i64 i] [.boxT none [.int .u32 host, .int .i64 room, .rowA 1], .row QR all])))
theorem round4i (lp : Lp) (up : Bool) (a : List (Int × (Int × ((Int × Int) × (QQt × QQt))))) (i k host room : Int) (all : List (Int × (Int × ((Int × Int) × (QQt × QQt))))) : evC T0 (orcB [fs16, fs18] [os13d, os14, os20p, os21, os19]) lp b4i 4 (stOf [3, 4, 9, 10, 11] [.bool up, .ptr 0 0, .list QR a, .int .i64 i, .int .i64 k] [.box [.int .u32 host, .int .i64 room, .rowA 1], .row QR all]) (roundK [3, 4, 9, 10, 11] [2, 3, 4, 9, 10] 0) = (r4i up a i k host room all).get := by kernel_rfl
theorem wf4i (up : Bool) (a : List (Int × (Int × ((Int × Int) × (QQt × QQt))))) (i host room : Int) (all : List (Int × (Int × ((Int × Int) × (QQt × QQt))))) (I'' : Int → Prop) (m'' : Int → Nat) (r'' : Ex × St) (h : ∀ (k : Int), I'' k → (r4i up a i k host room all).all fun x'' => x'' = .inr r'' ∨ ∃ (k' : Int), x'' = .inl (stOf [3, 4, 9, 10, 11] [.bool up, .ptr 0 0, .list QR a, .int .i64 i, .int .i64 k'] [.box [.int .u32 host, .int .i64 room, .rowA 1], .row QR all]) ∧ I'' k' ∧ m'' k' < m'' k) (lp : Lp) (k : Int) : I'' k →
    loopF (fun st => evC T0 (orcB [fs16, fs18] [os13d, os14, os20p, os21, os19]) lp b4i 4 st (roundK [3, 4, 9, 10, 11] [2, 3, 4, 9, 10] 0)) (stOf [3, 4, 9, 10, 11] [.bool up, .ptr 0 0, .list QR a, .int .i64 i, .int .i64 k] [.box [.int .u32 host, .int .i64 room, .rowA 1], .row QR all]) = some r'' :=
 loop_tr (fun a'' : Int => stOf [3, 4, 9, 10, 11] [.bool up, .ptr 0 0, .list QR a, .int .i64 i, .int .i64 a''] [.box [.int .u32 host, .int .i64 room, .rowA 1], .row QR all]) (fun a'' => I'' a'') (fun a'' => m'' a'') r'' (fun a'' => r4i up a i a'' host room all)
  (fun a'' x hx => (round4i lp up a i a'' host room all).trans hx) (fun a'' ha => Tr.all_mono (fun x'' hx => hx.imp id fun ⟨k', h1, h2, h3⟩ => ⟨(k'), h1, h2, h3⟩) (h (a'') ha)) (k)
theorem loop4i : ls4i.Ok T0 (orcB [fs16, fs18] [os13d, os14, os20p, os21, os19]) h4 0 0 b4i := by
 intro q'' hq'' x'' y'' r'' h
 obtain ⟨(up : Bool), (a : List (Int × (Int × ((Int × Int) × (QQt × QQt))))), (i : Int), (k : Int), _⟩ := x''
 obtain ⟨⟨(host : Int), (room : Int), _⟩, (all : List (Int × (Int × ((Int × Int) × (QQt × QQt))))), _⟩ := y''
 obtain ⟨hc, rfl⟩ := Tr.get_on h
 show loopF (fun st => evC T0 (orcB [fs16, fs18] [os13d, os14, os20p, os21, os19]) (lpN T0 (orcB [fs16, fs18] [os13d, os14, os20p, os21, os19]) h4 0 q'') b4i 4 st (roundK [3, 4, 9, 10, 11] [2, 3, 4, 9, 10] 0)) (stOf [3, 4, 9, 10, 11] [.bool up, .ptr 0 0, .list QR a, .int .i64 i, .int .i64 k] [.box [.int .u32 host, .int .i64 room, .rowA 1], .row QR all]) = some (.exit 4, stOf [2, 3, 4, 9, 10] ([.dead, .bool up, .ptr 0 0, .list QR a, .int .i64 i]) ([.box [.int .u32 host, .int .i64 room, .rowA 1], .row QR all]))
 simp only [akX, Bool.and_eq_true, decide_eq_true_eq] at hc
 obtain ⟨hl, hds, h0, h1, rfl⟩ := hc
 have hl := Nat.le_of_ble_eq_true hl
 refine wf4i up a i host room all (fun k => 0 ≤ k ∧ k ≤ i) (fun k => (i - k).toNat) _ ?_ _ 0 ⟨by omega, by omega⟩
 rintro k ⟨k0, k1⟩
 unfold r4i
 rw [wrap_succ (n := a.length) k0 (by omega) (by omega)]
 by_cases hk : k < i
 · have hd := dst_at (d := Ty.dflt QR) hds (k := k.toNat) (i := i.toNat) (by omega) (by omega)
   refine Tr.all_t (dec_true hk) (Tr.all_t (dec_true k0) (Tr.all_t (dec_true (by omega)) (Tr.all_t (dec_true h0) (Tr.all_t (dec_true h1) (Tr.all_br (fun h => Tr.all_t (dec_true k0) (Tr.all_t (dec_true (by omega)) (Tr.all_t (dec_true h0) (Tr.all_t (dec_true h1) (Tr.all_f ?_ ?_))))) (fun h => ?_))))))
   · rw [h, Bool.true_and] at hd
     exact hd
   · exact Tr.all_ret (.inr ⟨_, rfl, ⟨by omega, by omega⟩, by omega⟩)
   · exact Tr.all_ret (.inr ⟨_, rfl, ⟨by omega, by omega⟩, by omega⟩)
 · exact Tr.all_f (dec_false hk) (Tr.all_ret (.inl rfl))
noncomputable def b4o : Code := nthLoop c4 1
def ls4o : LoopSpec := { bid := 2, sh := [.d .bool false, .ptr 0 0, .d (.list QR) false, .d (.int .i64) false], so := [.box [.d (.int .u32) false, .d (.int .i64) false, .row 1], .row QR], F := fun (up, a, i, _) ((host, room, _), all, _) => .on (akU a i) (.exit 2, [.dead, .bool up, .ptr 0 0, .list QR a], [.box [.int .u32 host, .int .i64 room, .rowA 1], .row QR all]) }
def r4o (up : Bool) (a : List (Int × (Int × ((Int × Int) × (QQt × QQt))))) (i host room : Int) (all : List (Int × (Int × ((Int × Int) × (QQt × QQt))))) : Tr (St ⊕ (Ex × St)) := .br (decide (i < (↑a.length : Int))) (.br (akX a i 0) (.ret (.inl (stOf [3, 4, 9, 10] [.bool up, .ptr 0 0, .list QR a, .int .i64 (IntKind.wrap .i64 (i + 1))] [.boxT none [.int .u32 host, .int .i64 room, .rowA 1], .row QR all]))) .no) (.ret (.inr (.exit 2, stOf [2, 3, 4, 9] [.dead, .bool up, .ptr 0 0, .list QR a] [.boxT none [.int .u32 host, .int .i64 room, .rowA 1], .row QR all])))
theorem round4o (up : Bool) (a : List (Int × (Int × ((Int × Int) × (QQt × QQt))))) (i host room : Int) (all : List (Int × (Int × ((Int × Int) × (QQt × QQt))))) : evC T0 (orcB [fs16, fs18] [os13d, os14, os20p, os21, os19]) (lpOf h4 0 (lsOf [ls4i])) b4o 2 (stOf [3, 4, 9, 10] [.bool up, .ptr 0 0, .list QR a, .int .i64 i] [.box [.int .u32 host, .int .i64 room, .rowA 1], .row QR all]) (roundK [3, 4, 9, 10] [2, 3, 4, 9] 0) = (r4o up a i host room all).get := by kernel_rfl
theorem wf4o (up : Bool) (a : List (Int × (Int × ((Int × Int) × (QQt × QQt))))) (host room : Int) (all : List (Int × (Int × ((Int × Int) × (QQt × QQt))))) (I'' : Int → Prop) (m'' : Int → Nat) (r'' : Ex × St) (h : ∀ (i : Int), I'' i → (r4o up a i host room all).all fun x'' => x'' = .inr r'' ∨ ∃ (i' : Int), x'' = .inl (stOf [3, 4, 9, 10] [.bool up, .ptr 0 0, .list QR a, .int .i64 i'] [.box [.int .u32 host, .int .i64 room, .rowA 1], .row QR all]) ∧ I'' i' ∧ m'' i' < m'' i) (q'' : Nat) (hq'' : 1 ≤ q'') (i : Int) : I'' i →
    loopF (fun st => evC T0 (orcB [fs16, fs18] [os13d, os14, os20p, os21, os19]) (lpN T0 (orcB [fs16, fs18] [os13d, os14, os20p, os21, os19]) h4 0 q'') b4o 2 st (roundK [3, 4, 9, 10] [2, 3, 4, 9] 0)) (stOf [3, 4, 9, 10] [.bool up, .ptr 0 0, .list QR a, .int .i64 i] [.box [.int .u32 host, .int .i64 room, .rowA 1], .row QR all]) = some r'' :=
 loop_tr (fun a'' : Int => stOf [3, 4, 9, 10] [.bool up, .ptr 0 0, .list QR a, .int .i64 a''] [.box [.int .u32 host, .int .i64 room, .rowA 1], .row QR all]) (fun a'' => I'' a'') (fun a'' => m'' a'') r'' (fun a'' => r4o up a a'' host room all)
  (fun a'' x hx => round_of (d := 0) (S := lsOf [ls4i]) (loops_at (xs := [(4, b4i)]) (by kernel_rfl) (all_cons (ls_here loop4i) all_nil)) (by omega) ((round4o up a a'' host room all).trans hx)) (fun a'' ha => Tr.all_mono (fun x'' hx => hx.imp id fun ⟨i', h1, h2, h3⟩ => ⟨(i'), h1, h2, h3⟩) (h (a'') ha)) (i)
theorem loop4o : ls4o.Ok T0 (orcB [fs16, fs18] [os13d, os14, os20p, os21, os19]) h4 0 1 b4o := by
 intro q'' hq'' x'' y'' r'' h
 obtain ⟨(up : Bool), (a : List (Int × (Int × ((Int × Int) × (QQt × QQt))))), (i : Int), _⟩ := x''
 obtain ⟨⟨(host : Int), (room : Int), _⟩, (all : List (Int × (Int × ((Int × Int) × (QQt × QQt))))), _⟩ := y''
 obtain ⟨hc, rfl⟩ := Tr.get_on h
 show loopF (fun st => evC T0 (orcB [fs16, fs18] [os13d, os14, os20p, os21, os19]) (lpN T0 (orcB [fs16, fs18] [os13d, os14, os20p, os21, os19]) h4 0 q'') b4o 2 st (roundK [3, 4, 9, 10] [2, 3, 4, 9] 0)) (stOf [3, 4, 9, 10] [.bool up, .ptr 0 0, .list QR a, .int .i64 i] [.box [.int .u32 host, .int .i64 room, .rowA 1], .row QR all]) = some (.exit 2, stOf [2, 3, 4, 9] ([.dead, .bool up, .ptr 0 0, .list QR a]) ([.box [.int .u32 host, .int .i64 room, .rowA 1], .row QR all]))
 simp only [akU, Bool.and_eq_true, decide_eq_true_eq] at hc
 obtain ⟨hla, hds, rfl⟩ := hc
 have hl := Nat.le_of_ble_eq_true hla
 refine wf4o up a host room all (fun i => 0 ≤ i ∧ i ≤ a.length) (fun i => (a.length - i).toNat) _ ?_ _ hq'' 0 ⟨by omega, by omega⟩
 rintro i ⟨h0, h1⟩
 unfold r4o
 rw [wrap_succ h0 h1 (by omega)]
 by_cases hi : i < a.length
 · exact Tr.all_t (dec_true hi) (Tr.all_t (by rw [akX, hla, hds, dec_true h0, dec_true hi]; rfl) (Tr.all_ret (.inr ⟨_, rfl, ⟨by omega, by omega⟩, by omega⟩)))
 · exact Tr.all_f (dec_false hi) (Tr.all_ret (.inl rfl))
def t4 (l : List (Int × ((Int × (Int × ((Int × Int) × (QQt × QQt)))) × Int))) : Tr Res := .br (fewX l) (.br (!decide ((↑l.length : Int) ≤ 100)) (.ret ([.bool true], [])) (.br (akV l [] 7 6 0) (.br (akS (onesF l) [] (↑(List.length (onesF l)) : Int) 0) (.br (akU (List.filter (lateB 18446744073709551615 4294967295) (onesF l)) 0) (.br ((↑(List.length (List.filter (lateB 18446744073709551615 4294967295) (onesF l))) : Int) == (↑(List.length (onesF l)) : Int)) (.ret ([.bool (decide ((↑(List.length (onesF l)) : Int) ≤ 6))], [])) (.ret ([.bool false], []))) .no) .no) .no)) (.ret ([.bool true], []))
def os4 : OSpec := { f := 4, sh := [.d (.list DE) false], so := [], F := fun (l, _) _ => t4 l }
theorem fn4 (l : List (Int × ((Int × (Int × ((Int × Int) × (QQt × QQt)))) × Int))) : evC T0 (orcB [fs16, fs18] [os13d, os14, os20p, os21, os19]) (lpOf h4 0 (lsOf [ls4t, ls4o])) c4 1000000 (startSt [.list DE l] [] Try.f4.ntmps) (finishK T0 false 0 Try.f4) = (t4 l).get := by kernel_rfl
theorem ok4 : os4.Ok Try.prog := by
 refine os_ok mixed0 tab0 (orcB_sound (all_cons okf16 (all_cons okf18 all_nil)) (all_cons ok13d (all_cons ok14 (all_cons ok20p (all_cons ok21 (all_cons ok19 all_nil)))))) h4 (d := 1) (n0 := 0) (S := lsOf [ls4t, ls4o]) Try.func4 (by kernel_rfl) (c := c4) (by kernel_rfl) rfl (loops_eq (xs := [(0, b4t), (2, b4o)]) (by kernel_rfl) (all_cons (ls_here (spec_up (by omega) loop4t)) (all_cons (ls_skip (by kernel_rfl) (ls_here loop4o)) all_nil))) (by omega) (by kernel_rfl) ?_
 intro x'' y'' q'' hq''
 obtain ⟨(l : List (Int × ((Int × (Int × ((Int × Int) × (QQt × QQt)))) × Int))), _⟩ := x''
 exact (fn4 l).trans hq''
theorem stepO_ok {all : List QRt} {x : DEt} (h : okK 6 all ∧ dstB all = true) (hx : rgD x = true) : okK 6 (stepO all x) ∧ dstB (stepO all x) = true := by
 unfold stepO
 cases h0 : x.1 == 0 with
 | false => exact h
 | true =>
   rw [cond_true]
   refine ⟨step_ok h.1 hx, ?_⟩
   have h1 := h.1.1
   rw [stepD, h0, cond_true]
   by_cases hr : (6 : Int) ≤ (all.length : Int)
   · rw [dec_true hr]; exact h.2
   · rw [dec_false hr]; exact dst_app h.2 (open_free (by omega))
theorem ones_ok {l : List DEt} (h : l.all rgD = true) : okK 6 (onesF l) ∧ dstB (onesF l) = true := by
 have : ∀ (l : List DEt) (b : List QRt), l.all rgD = true → okK 6 b ∧ dstB b = true → okK 6 (l.foldl stepO b) ∧ dstB (l.foldl stepO b) = true := fun l => by
  induction l with
  | nil => intro b _ hb; exact hb
  | cons x l ih =>
    intro b h hb
    rw [List.all_cons, Bool.and_eq_true] at h
    exact ih _ h.2 (stepO_ok hb h.1)
 exact this l [] h ⟨⟨by decide, rfl⟩, rfl⟩
theorem askOnes_all (l : List DEt) (h1 : okT (.list DE) l) : (t4 l).all fun r => r = ([.bool true], []) := by
 unfold t4
 refine Tr.all_br (fun _ => Tr.all_br (fun _ => Tr.all_ret rfl) (fun hl => ?_)) (fun _ => Tr.all_ret rfl)
 have hg := okT_rgL h1
 have hl : l.length ≤ 100 := by
  have : decide ((l.length : Int) ≤ 100) = true := by simpa using hl
  have := of_decide_eq_true this
  omega
 obtain ⟨hK, hds⟩ := ones_ok hg
 have hL := hK.1
 rw [late_all hK.2]
 refine Tr.all_t (by rw [akV, Nat.ble_eq_true_of_le (by omega), hg]; rfl) (Tr.all_t (akS_ok (by omega)) (Tr.all_t (by rw [akU, Nat.ble_eq_true_of_le (by omega), hds]; rfl) (Tr.all_t (beq_self_eq_true _) (Tr.all_ret ?_))))
 rw [dec_true hL]
theorem sem4 (l : List DEt) (h1 : okT (.list DE) l) : SemF Try.prog 4 [.list DE l] [] [.bool true] [] :=
 ok4 (l, ()) () ([.bool true], []) (Tr.get_of_all (askOnes_all l h1))
end Go.Proofs.YtpledbapngdkeaaE
namespace Go.Proofs.Ytpledbapngdkeaa.askOnes
open Go.ChangeShapes Go.WideShapes Go.ChangeAt Go.RowKit Go.Proofs.YtpledbapngdkeaaE
open Go.ChangeMaps (open_string shut_string)
set_option linter.unusedVariables false
theorem own : ownKnob Try.prog.godebug = none := by kernel_rfl
theorem laidOut : laidOutB Try.prog = true := by kernel_rfl
set_option maxRecDepth 100000 in
theorem lifted (os : Os) (started : os.Started) (H : Type) (enc : TypeId × Value → H) :
    ReturnsInHanded {} Try.checked os 4 .any (Rows.askOnesSpec.pre6 enc Try.prog Try.f4 Rows.askOnesRow.domain false) (Rows.askOnesSpec.post enc Try.prog Try.f4 false true false false) := by
  refine returnsInHanded_of_change_sized (C := Try.checked) own started (by kernel_rfl) Try.func4
    (ChangeSpec.witness6 (enc := enc) (C := Try.checked) false ⟨#[], #[.slice none 0 0], []⟩ 8 (by kernel_rfl) (by kernel_rfl) (by kernel_rfl) (by kernel_rfl)) ?_
  intro W base args ds gs before hval0 hW hcnd hsz0 _
  have hsz : ∀ n ∈ DataW.weightsEach Try.prog (Try.f4.params.toList ++ Rows.askOnesSpec.plain.varTypes Try.prog) (ds ++ gs), n ≤ reachBytes := fun n hn => of_decide_eq_true (List.all_eq_true.1 hsz0 n hn)
  have hval : ∀ (j : Nat) t v, Try.f4.params[j]? = some t → args[j]? = some v → Value.okWide Try.prog W .any base t v := hval0
  have hW' := hW
  obtain ⟨p, q, hA0, hV, rfl, hfz, hnd⟩ := hW
  have hA : DataW.TrodAll enc Try.prog W 0 (fun _ => true) true Try.f4.params.toList args.toList ds p := hA0
  rw [Try.params4] at hA hval hsz
  obtain ⟨v0, vs0, d0, ds0, p0, q0, hargs, rfl, rfl, k0, r0⟩ := trodAll_cons hA
  obtain ⟨rfl, rfl, rfl⟩ := trodAll_nil r0
  obtain rfl : args = #[v0] := by cases args; simp_all
  obtain ⟨rfl, rfl⟩ := trodVars_none hV
  have lt0 : ∀ x ∈ p0, x.block < W.heap.size := by obtain ⟨m, hm⟩ := k0; exact DataW.trod_lt m _ _ _ hm
  obtain ⟨x0, e0, w0, b0⟩ := arg_told (n := 8) (τ := (.list (.pair (.int .i64) (.pair (.pair (.int .u16) (.pair (.int .u16) (.pair (.pair (.int .u32) (.int .u16)) (.pair (.pair .str (.pair (.int .u16) (.int .u16))) (.pair .str (.pair (.int .i64) (.int .u64))))))) (.int .u32))))) (agg := false) (by kernel_rfl) (hval 0 42 v0 rfl rfl) k0 (fun n hn => hsz n (DataW.weights_mem_each (j := 0) (t := 42) rfl rfl n hn)) (by kernel_rfl)
  clear hA0 hval0 hsz0 hsz
  refine (law_calls ((fun x0 w0 => sem4 x0 w0) x0 w0) W (vs := [v0]) ?_).mono fun e W' ⟨he, bel⟩ => ?_
  · simp only [VRelL]
    exact ⟨_, _, rfl, e0, rfl⟩
  subst he
  exact ⟨_, rfl, _, _, _, [], _, [], hW', trodAll_mk1 (shut_bool Try.underlying4 _), (trodAll_cons_mk (Below.trod laidOut (by kernel_rfl) (of_decide_eq_true (by kernel_rfl)) k0 bel lt0) trodAll_mk0), rfl, bel.frame _, fun h => by cases h⟩
theorem over : Rows.askOnesRow.holds Try.pinned (OpenSpec.ofChange Rows.askOnesSpec) :=
  OpenClaim.holds_of_wide 4 Try.f4 rfl rfl rfl rfl rfl rfl rfl ⟨rfl, rfl, rfl, rfl, rfl⟩ rfl rfl rfl rfl rfl (by kernel_rfl) Try.func4 (by kernel_rfl)
    (of_decide_eq_true (by kernel_rfl)) (by unfold Func.isWrapper; first | (rw [if_pos (by decide +kernel)]; kernel_rfl) | (rw [if_neg (by decide +kernel)]; exact ⟨rfl, rfl⟩))
    (fun os started H enc _ => lifted os started H enc)
theorem proved : Rows.AskOnesSaid := over
end Go.Proofs.Ytpledbapngdkeaa.askOnes
namespace Go.Proofs.Ytpledbapngdkeaa
/-- The row, under a short name, for the claim. -/
theorem askOnes_holds : Rows.AskOnesSaid := askOnes.proved
#print axioms askOnes_holds
end Go.Proofs.Ytpledbapngdkeaa
