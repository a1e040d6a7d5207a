/- The engine, part 30: the words of functions that are handed objects. -/
import Derived.Test.YtfepkpindchleaaE29
namespace Go.Proofs.YtfepkpindchleaaE
open Go
set_option linter.unusedVariables false
set_option linter.unusedSimpArgs false

theorem all_nil {α : Type} {p : α → Prop} : ∀ x ∈ ([] : List α), p x := fun x h => by cases h
theorem all_cons {α : Type} {p : α → Prop} {a : α} {l : List α} (h : p a) (hl : ∀ x ∈ l, p x) : ∀ x ∈ a :: l, p x := fun x hx => (List.mem_cons.1 hx).elim (fun e => e ▸ h) (hl x)

structure OSpec where
  f : Nat
  sh : List Sh
  so : List ShO
  F : ShT sh → ShOT so → Tr Res

def OSpec.run (s : OSpec) (args : List AV) (objs : List LObj) : Tr Res :=
  match unpack s.sh args with
  | some x => (match unpackO s.so objs with | some y => s.F x y | none => .no)
  | none => .no
/-- The first word whose shapes fit. -/
def OSpec.fits (s : OSpec) (args : List AV) (objs : List LObj) : Bool := (unpack s.sh args).isSome && (unpackO s.so objs).isSome
def orcO : List OSpec → Orc
  | [], _, _, _ => .no
  | s :: ss, f, args, objs => bif Nat.beq f s.f && s.fits args objs then s.run args objs else orcO ss f args objs

def OSpec.Ok (P : Program) (s : OSpec) : Prop := ∀ x y r, (s.F x y).get = some r → SemF P s.f (pack s.sh x) (packO s.so y) r.1 r.2

theorem orcO_sound {P : Program} : ∀ (ss : List OSpec), (∀ s ∈ ss, s.Ok P) → SoundOrc P (orcO ss)
  | [], _, f, args, objs, res, objs', h => by simp [orcO, Tr.get] at h
  | s :: ss, hs, f, args, objs, res, objs', h => by
    simp only [orcO] at h
    cases hc : (Nat.beq f s.f && s.fits args objs) with
    | false =>
      rw [hc] at h
      exact orcO_sound ss (fun s hs' => hs s (by simp [hs'])) f args objs res objs' h
    | true =>
      rw [hc] at h
      simp only [cond_true] at h
      simp only [Bool.and_eq_true] at hc
      have := Nat.eq_of_beq_eq_true hc.1
      subst this
      unfold OSpec.run at h
      split at h
      · rename_i x hx
        split at h
        · rename_i y hy
          rw [unpack_eq _ _ _ hx, unpackO_eq _ _ _ hy]
          exact hs s (by simp) x y _ h
        · cases h
      · cases h

/-- Both kinds of words. -/
def orcB (fs : List FSpec) (os : List OSpec) : Orc := fun f args objs => bif fs.any (fun s => Nat.beq f s.f) then orcOf fs f args objs else orcO os f args objs
theorem orcB_sound {P : Program} {fs : List FSpec} {os : List OSpec} (h1 : ∀ s ∈ fs, s.Ok P) (h2 : ∀ s ∈ os, s.Ok P) : SoundOrc P (orcB fs os) := fun f args objs res objs' h => by
  unfold orcB at h
  cases hs : fs.any (fun s => Nat.beq f s.f) with
  | true => rw [hs] at h; exact orcOf_sound fs h1 _ _ _ _ _ h
  | false => rw [hs] at h; exact orcO_sound os h2 _ _ _ _ _ h

theorem pack_len : ∀ (s : List Sh) (x : ShT s), (pack s x).length = s.length
  | [], _ => rfl
  | .d t a :: r, x => by simp [pack, pack_len r x.2]
  | .row j :: r, x => by simp [pack, pack_len r x]
  | .ptr j o :: r, x => by simp [pack, pack_len r x]
  | .np :: r, x => by simp [pack, pack_len r x]
  | .undef :: r, x => by simp [pack, pack_len r x]
  | .mp j :: r, x => by simp [pack, pack_len r x]
  | .dead :: r, x => by simp [pack, pack_len r x]
  | .fnp g ps :: r, x => by simp [pack, pack_len r x]
theorem packO_len : ∀ (s : List ShO) (x : ShOT s), (packO s x).length = s.length
  | [], _ => rfl
  | .row t :: r, x => by simp [packO, packO_len r x.2]
  | .box cs :: r, x => by simp [packO, packO_len r x.2]
  | .map kt vt :: r, x => by simp [packO, packO_len r x.2]
  | .tbox E cs :: r, x => by simp [packO, packO_len r x.2]

theorem os_ok {P : Program} (hmo : P.follows .mixedOrders = true) {T : Tab} (hT : TabOk P T) {orc : Orc} (hO : SoundOrc P orc) (H : Hint) {d n0 : Nat} {S : LSpec} {s : OSpec} {fn : Func} {c : Code} (hf : P.funcs[s.f]? = some fn) (hn : (fn.name == "runtime.NumGoroutine") = false) (hb : fn.body = some c)
    (hn0 : s.so.length = n0) (hl : ∀ x ∈ loopsOf c 1000000, LoopHolds T orc H n0 d S x) (hd : d < 8) (hok : (dstOk fn.ntmps c && Nat.ble s.sh.length fn.ntmps) = true)
    (h : ∀ x y r, (s.F x y).get = some r → evC T orc (lpOf H n0 S) c 1000000 (startSt (pack s.sh x) (packO s.so y) fn.ntmps) (finishK T H.own n0 fn) = some r) : s.Ok P := fun x y r hxy => by
  subst hn0
  have := h x y r hxy
  rw [← packO_len s.so y] at this hl
  exact evFn_semF hmo hT hO hf hn hb hl hd (by rw [pack_len]; exact hok) this

/-- Other words for the same function, where they say the same. -/
def OSpec.like (s : OSpec) (F : ShT s.sh → ShOT s.so → Tr Res) : OSpec := { f := s.f, sh := s.sh, so := s.so, F := F }
theorem like_ok {P : Program} {s : OSpec} (h : s.Ok P) (F : ShT s.sh → ShOT s.so → Tr Res) (hF : ∀ x y r, (F x y).get = some r → (s.F x y).get = some r) : (s.like F).Ok P :=
  fun x y r hr => h x y r (hF x y r hr)

/-- A copy of a slice, as a row of the caller's own (slices.Clone). -/
def cloneS (f : Nat) (t : Ty) (bytes : Nat) : OSpec := { f := f, sh := [.d (.list t) false], so := [], F := fun (xs, _) _ => .on (fits (List.length xs) bytes) ([.rowA 0], [.row t xs]) }
theorem cloneS_ok {P : Program} {f0 : Nat} {t : Ty} {bytes : Nat} (h : ∀ xs : List t.den, fits xs.length bytes = true → SemF P f0 [.list t xs] [] [.rowA 0] [.row t xs]) : (cloneS f0 t bytes).Ok P := by
  intro x y r hr
  obtain ⟨xs, _⟩ := x
  obtain ⟨hc, he⟩ := Tr.get_on hr
  cases he
  exact h xs hc
structure CP where
  r0 : Code
  cx : Code
  cy : Code
  ops : Array Oper
  id : Nat
def cC : Code → CP
  | .seq r0 (.seq (.seq (.region id ops _) cx) cy) => ⟨r0, cx, cy, ops, id⟩
  | c => ⟨c, c, c, #[], 0⟩

/-- A function whose own rows are its caller's. -/
def hOwn (H : Hint) : Hint := { keep := H.keep, keepX := H.keepX, own := true }

/-! ### Loops side by side -/
theorem ls_here {T : Tab} {orc : Orc} {H : Hint} {n0 d : Nat} {L : LoopSpec} {Ls : List LoopSpec} {body : Code} (h : L.Ok T orc H n0 d body) : LoopHolds T orc H n0 d (lsOf (L :: Ls)) (L.bid, body) := by
  intro n hn vs os ex vs' os' hS
  refine one_spec h n hn vs os ex vs' os' ?_
  simp only [lsOf, Nat.beq_refl, cond_true] at hS ⊢
  exact hS
theorem ls_skip {T : Tab} {orc : Orc} {H : Hint} {n0 d : Nat} {L : LoopSpec} {Ls : List LoopSpec} {bid : Nat} {body : Code} (hb : Nat.beq bid L.bid = false) (h : LoopHolds T orc H n0 d (lsOf Ls) (bid, body)) : LoopHolds T orc H n0 d (lsOf (L :: Ls)) (bid, body) := by
  intro n hn vs os ex vs' os' hS
  refine h n hn vs os ex vs' os' ?_
  simp only [lsOf, hb, cond_false] at hS
  exact hS
theorem loops_eq {T : Tab} {orc : Orc} {H : Hint} {n0 d : Nat} {S : LSpec} {c : Code} {xs : List (Nat × Code)} (h : loopsOf c 1000000 = xs) (hx : ∀ x ∈ xs, LoopHolds T orc H n0 d S x) : ∀ x ∈ loopsOf c 1000000, LoopHolds T orc H n0 d S x := by
  rw [h]
  exact hx

/-! ### Trees, way by way -/
def Tr.all {α : Type} (P : α → Prop) : Tr α → Prop
  | .no => False
  | .ret a => P a
  | .br c x y => (c = true → x.all P) ∧ (c = false → y.all P)
theorem Tr.all_get {α : Type} {P : α → Prop} : ∀ {t : Tr α}, t.all P → ∃ a, t.get = some a ∧ P a
  | .no, h => h.elim
  | .ret a, h => ⟨a, rfl, h⟩
  | .br c x y, h => by
    cases c with
    | true => obtain ⟨a, h1, h2⟩ := Tr.all_get (t := x) (h.1 rfl); exact ⟨a, h1, h2⟩
    | false => obtain ⟨a, h1, h2⟩ := Tr.all_get (t := y) (h.2 rfl); exact ⟨a, h1, h2⟩
theorem Tr.all_mono {α : Type} {P Q : α → Prop} (hPQ : ∀ a, P a → Q a) : ∀ {t : Tr α}, t.all P → t.all Q
  | .no, h => h
  | .ret a, h => hPQ a h
  | .br c x y, h => ⟨fun hc => Tr.all_mono hPQ (h.1 hc), fun hc => Tr.all_mono hPQ (h.2 hc)⟩
theorem Tr.all_br {α : Type} {P : α → Prop} {c : Bool} {x y : Tr α} (hx : c = true → x.all P) (hy : c = false → y.all P) : (Tr.br c x y).all P := ⟨hx, hy⟩
theorem Tr.all_t {α : Type} {P : α → Prop} {c : Bool} {x y : Tr α} (hc : c = true) (hx : x.all P) : (Tr.br c x y).all P := ⟨fun _ => hx, fun h => (by rw [hc] at h; cases h)⟩
theorem Tr.all_f {α : Type} {P : α → Prop} {c : Bool} {x y : Tr α} (hc : c = false) (hy : y.all P) : (Tr.br c x y).all P := ⟨fun h => (by rw [hc] at h; cases h), fun _ => hy⟩
theorem Tr.all_ret {α : Type} {P : α → Prop} {a : α} (h : P a) : (Tr.ret a).all P := h
theorem Tr.get_of_all {α : Type} {t : Tr α} {a : α} (h : t.all fun x => x = a) : t.get = some a := by
  obtain ⟨x, h1, h2⟩ := Tr.all_get h
  rw [h1, h2]

/-- A loop by its rounds' trees: each way ends it, or goes on with less to do. -/
theorem loop_tr {α : Type} {F : St → Option (St ⊕ (Ex × St))} (mk : α → St) (I : α → Prop) (m : α → Nat) (r : Ex × St) (t : α → Tr (St ⊕ (Ex × St))) (hF : ∀ a x, (t a).get = some x → F (mk a) = some x)
    (h : ∀ a, I a → (t a).all fun x => x = .inr r ∨ ∃ a', x = .inl (mk a') ∧ I a' ∧ m a' < m a) : ∀ a, I a → loopF F (mk a) = some r :=
  loop_wf mk I m r fun a ha => by
    obtain ⟨x, h1, h2⟩ := Tr.all_get (h a ha)
    rw [hF a x h1]
    rcases h2 with rfl | ⟨a', rfl, h3⟩
    · exact .inl rfl
    · exact .inr ⟨a', rfl, h3⟩
theorem spec_up {T : Tab} {orc : Orc} {H : Hint} {n0 d d' : Nat} {L : LoopSpec} {body : Code} (hd : d ≤ d') (h : L.Ok T orc H n0 d body) : L.Ok T orc H n0 d' body := fun n hn => h n (by omega)
theorem loops_at {T : Tab} {orc : Orc} {H : Hint} {n0 d : Nat} {S : LSpec} {c : Code} {bid : Nat} {xs : List (Nat × Code)} (h : loopsOf c bid = xs) (hx : ∀ x ∈ xs, LoopHolds T orc H n0 d S x) : ∀ x ∈ loopsOf c bid, LoopHolds T orc H n0 d S x := by
  rw [h]
  exact hx

/-! ### A function on data, by its tree -/
def convR (outs : List (Ty × Bool)) : Tr Res → Tr (Dens outs)
  | .no => .no
  | .ret r => bif r.2.isEmpty && aggs outs r.1 then (match asTys outs r.1 with | some y => .ret y | none => .no) else .no
  | .br c x y => .br c (convR outs x) (convR outs y)
theorem convR_get {outs : List (Ty × Bool)} {y : Dens outs} : ∀ {t : Tr Res}, (convR outs t).get = some y → ∃ vs, t.get = some (vs, []) ∧ aggs outs vs = true ∧ asTys outs vs = some y
  | .no, h => by cases h
  | .ret r, h => by
    obtain ⟨vs, os⟩ := r
    simp only [convR] at h
    cases hb : (os.isEmpty && aggs outs vs) with
    | false => rw [hb] at h; cases h
    | true =>
      rw [hb, cond_true] at h
      simp only [Bool.and_eq_true, List.isEmpty_iff] at hb
      obtain ⟨rfl, ha⟩ := hb
      cases hy : asTys outs vs with
      | none => rw [hy] at h; cases h
      | some y' =>
        rw [hy] at h
        cases h
        exact ⟨vs, rfl, ha, hy⟩
  | .br c a b, h => by
    cases c with
    | true => obtain ⟨vs, h1, h2⟩ := convR_get (t := a) h; exact ⟨vs, h1, h2⟩
    | false => obtain ⟨vs, h1, h2⟩ := convR_get (t := b) h; exact ⟨vs, h1, h2⟩
def fsT (f : Nat) (ins outs : List (Ty × Bool)) (t : Dens ins → Tr Res) : FSpec := { f := f, ins := ins, outs := outs, F := fun x => convR outs (t x) }
theorem fsT_ok {P : Program} {f : Nat} {ins outs : List (Ty × Bool)} {t : Dens ins → Tr Res} (h : ∀ x r, (t x).get = some r → SemF P f (ofTys ins x) [] r.1 r.2) : (fsT f ins outs t).Ok P := by
  intro x y hy
  obtain ⟨vs, h1, h2, h3⟩ := convR_get hy
  exact semF_out h2 h3 (h x _ h1)

theorem convR_of {outs : List (Ty × Bool)} {vs : List AV} {y : Dens outs} (ha : aggs outs vs = true) (hy : asTys outs vs = some y) : ∀ {t : Tr Res}, t.get = some (vs, []) → (convR outs t).get = some y
  | .no, h => by cases h
  | .ret r, h => by
    cases h
    simp only [convR, List.isEmpty_nil, ha, Bool.and_true, cond_true, hy]
    rfl
  | .br c a b, h => by
    cases c with
    | true => exact convR_of ha hy (t := a) h
    | false => exact convR_of ha hy (t := b) h
/-- Other words for the same function on data, where they say the same. -/
def FSpec.like (s : FSpec) (F : Dens s.ins → Tr (Dens s.outs)) : FSpec := { f := s.f, ins := s.ins, outs := s.outs, F := F }
theorem flike_ok {P : Program} {s : FSpec} (h : s.Ok P) (F : Dens s.ins → Tr (Dens s.outs)) (hF : ∀ x y, (F x).get = some y → (s.F x).get = some y) : (s.like F).Ok P :=
  fun x y hy => h x y (hF x y hy)

/-- A word with two ends. -/
def Tr.on2 {α : Type} (c c2 : Bool) (a b : α) : Tr α := .br c (.br c2 (.ret a) (.ret b)) .no
theorem Tr.get_on2 {α : Type} {c c2 : Bool} {a b r : α} (h : (Tr.on2 c c2 a b).get = some r) : c = true ∧ (bif c2 then a else b) = r := by
  cases c with
  | false => cases h
  | true => cases c2 <;> cases h <;> exact ⟨rfl, rfl⟩

end Go.Proofs.YtfepkpindchleaaE
