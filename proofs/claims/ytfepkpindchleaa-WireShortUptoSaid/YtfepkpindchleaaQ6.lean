/- Names taken, as the document has it: plain words; they are the same. -/
import Derived.Test.YtfepkpindchleaaQ5
namespace Go.Proofs.YtfepkpindchleaaE
open Go Go.Proofs.YtfepkpindchleaaB
set_option linter.unusedVariables false
set_option linter.unusedSimpArgs false
/-- Where labels from a place on end: with a root, or at a pointer. -/
def labE (s : List UInt8) (k : Nat) : Option (Nat × Bool) :=
  if h : k < s.length then
    (if 192 ≤ byN s k then some (k, false) else if 63 < byN s k then none else if byN s k = 0 then some (k + 1, true) else labE s (k + 1 + byN s k))
  else none
termination_by s.length - k
theorem labE_ge {s : List UInt8} : ∀ (m k e : Nat) (r : Bool), s.length - k = m → labE s k = some (e, r) → k ≤ e ∧ e ≤ s.length ∧ (r = true → k < e ∧ byN s (e - 1) = 0) := by
  intro m
  induction m using Nat.strongRecOn with
  | _ m ih =>
    intro k e r hm h
    rw [labE] at h
    by_cases hk : k < s.length
    · rw [dif_pos hk] at h
      split at h
      · cases h; exact ⟨Nat.le_refl _, by omega, fun h => by cases h⟩
      · split at h
        · cases h
        · split at h
          · cases h; exact ⟨by omega, by omega, fun _ => ⟨by omega, by simpa⟩⟩
          · have := ih (s.length - (k + 1 + byN s k)) (by omega) _ e r rfl h
            exact ⟨by omega, this.2.1, fun hr => ⟨by omega, (this.2.2 hr).2⟩⟩
    · rw [dif_neg hk] at h; cases h
/-- The bytes from one place up to another. -/
def sub (s : List UInt8) (a e : Nat) : List UInt8 := (s.drop a).take (e - a)
theorem sub_len {s : List UInt8} {a e : Nat} (h : a ≤ e) (he : e ≤ s.length) : (sub s a e).length = e - a := by simp [sub]; omega
theorem sub_get {s : List UInt8} {a e j : Nat} (h : a + j < e) (he : e ≤ s.length) : byN (sub s a e) j = byN s (a + j) := by
  unfold byN sub
  rw [List.getD_eq_getElem?_getD, List.getElem?_take_of_lt (by omega), List.getElem?_drop, List.getD_eq_getElem?_getD]
theorem sub_split {s : List UInt8} {a m e : Nat} (h1 : a ≤ m) (h2 : m ≤ e) : sub s a e = sub s a m ++ sub s m e := by
  unfold sub
  have : e - a = (m - a) + (e - m) := by omega
  rw [this, List.take_add, List.drop_drop]
  congr 3
  omega
theorem sub_one {s : List UInt8} {a c : Nat} (h : a < s.length) : sub s a (a + 1 + c) = s.getD a 0 :: (s.drop (a + 1)).take c := by
  unfold sub
  rw [drop_get s a 0 h, show a + 1 + c - a = c + 1 by omega]
  rfl
/-- Whether bytes are labels, and a byte 0 behind all. -/
def endsR (p : List UInt8) (k : Nat) : Bool :=
  if h : k < p.length then (if byN p k = 0 then decide (k = p.length - 1) else endsR p (k + 1 + byN p k)) else false
termination_by p.length - k
theorem endsR_lab {s : List UInt8} : ∀ (m a k e : Nat) (r : Bool), s.length - k = m → a ≤ k → labE s k = some (e, r) → endsR (sub s a e) (k - a) = r := by
  intro m
  induction m using Nat.strongRecOn with
  | _ m ih =>
    intro a k e r hm hak h
    have hge := labE_ge _ k e r rfl h
    have hlen := sub_len (s := s) (a := a) (e := e) (by omega) hge.2.1
    have h' := h
    rw [labE] at h
    by_cases hk : k < s.length
    · rw [dif_pos hk] at h
      split at h
      · cases h
        rw [endsR, dif_neg (by omega)]
      · split at h
        · cases h
        · split at h
          · rename_i h0
            cases h
            rw [endsR, dif_pos (by omega), if_pos (by rw [sub_get (by omega) hge.2.1, show a + (k - a) = k by omega]; exact h0)]
            exact decide_eq_true (by omega)
          · rename_i h0
            have hge2 := labE_ge _ _ e r rfl h
            have hb : byN (sub s a e) (k - a) = byN s k := by rw [sub_get (by omega) hge.2.1, show a + (k - a) = k by omega]
            rw [endsR, dif_pos (by omega), if_neg (by rw [hb]; exact h0), hb, show k - a + 1 + byN s k = (k + 1 + byN s k) - a by omega]
            exact ih (s.length - (k + 1 + byN s k)) (by omega) a _ e r rfl (by omega) h
    · rw [dif_neg hk] at h; cases h
/-- A name taken, piece by piece. -/
def takeR (s : List UInt8) (a : Nat) (b : Int) (n : List UInt8) : Option (List UInt8 × Int) :=
  match labE s a with
  | none => none
  | some (e, true) => some (n ++ sub s a e, if b < 0 then (e : Int) else b)
  | some (e, false) => if h : e + 2 ≤ s.length ∧ toT s (e : Int) < (a : Int) then takeR s (toT s (e : Int)).toNat (if b < 0 then (e : Int) + 2 else b) (n ++ sub s a e) else none
termination_by a
decreasing_by
  have := toT_in s (e : Int)
  omega
theorem takeR_len {s : List UInt8} : ∀ (a : Nat) (b : Int) (n m : List UInt8) (b' : Int), takeR s a b n = some (m, b') → n.length ≤ m.length := by
  intro a
  induction a using Nat.strongRecOn with
  | _ a ih =>
    intro b n m b' h
    rw [takeR] at h
    split at h
    · cases h
    · cases h; simp
    · rename_i e _
      split at h
      · rename_i hc
        have hto := toT_in s (e : Int)
        have := ih _ (by omega) _ _ _ _ h
        simp at this
        omega
      · cases h
theorem takeG_lab {s : List UInt8} : ∀ (m k f : Nat) (b : Int) (out : List UInt8), s.length - k = m →
    (labE s k = none → takeG s (k : Int) (f : Int) b (foldB out) = none) ∧
    (∀ e, labE s k = some (e, true) → takeG s (k : Int) (f : Int) b (foldB out) = if out.length + (e - k) ≤ 255 then some (foldB (out ++ sub s k e), if b < 0 then (e : Int) else b) else none) ∧
    (∀ e, labE s k = some (e, false) → out.length ≤ 255 → takeG s (k : Int) (f : Int) b (foldB out) = if out.length + (e - k) ≤ 255 then takeG s (e : Int) (f : Int) b (foldB (out ++ sub s k e)) else none) := by
  intro m
  induction m using Nat.strongRecOn with
  | _ m ih =>
    intro k f b out hm
    by_cases hk : k < s.length
    · have h1 : someB s (k : Int) 1 = true := someB_nat.2 (by omega : k + 1 ≤ s.length)
      have hL := labE.eq_1 s k
      rw [dif_pos hk] at hL
      by_cases h192 : 192 ≤ byN s k
      · rw [if_pos h192] at hL
        refine ⟨fun h => (by rw [h] at hL; cases hL), fun e h => (by rw [h] at hL; cases hL), fun e h hl => ?_⟩
        rw [h] at hL
        cases hL
        rw [if_pos (by omega)]
        simp [sub]
      · rw [if_neg h192] at hL
        by_cases h63 : 63 < byN s k
        · rw [if_pos h63] at hL
          refine ⟨fun h => takeG_mid h1 (by rw [szT_nat]; exact h192) (by rw [szT_nat]; exact h63), fun e h => (by rw [h] at hL; cases hL), fun e h => (by rw [h] at hL; cases hL)⟩
        · rw [if_neg h63] at hL
          by_cases h0 : byN s k = 0
          · rw [if_pos h0] at hL
            have hg0 : s.getD k 0 = 0 := UInt8.toNat_inj.1 (by simpa using (show (s.getD k 0).toNat = 0 from h0))
            refine ⟨fun h => (by rw [h] at hL; cases hL), fun e h => ?_, fun e h => (by rw [h] at hL; cases hL)⟩
            rw [h] at hL
            cases hL
            have hs : sub s k (k + 1) = [0] := by
              have := sub_one (s := s) (a := k) (c := 0) hk
              rw [hg0] at this
              simpa using this
            by_cases hc : out.length + 1 ≤ 255
            · rw [if_pos (by omega), takeG_end h1 (by rw [szT_nat]; exact h0) (by rw [foldB_len]; exact hc), hs, foldB_app]
              rfl
            · rw [if_neg (by omega)]
              exact takeG_long h1 (by rw [szT_nat]; omega) (by rw [foldB_len, szT_nat]; exact fun h => hc (by omega))
          · rw [if_neg h0] at hL
            by_cases hin : k + 1 + byN s k ≤ s.length
            · have h4 : someB s ((k : Int) + 1) (szT s (k : Int) : Int) = true := by
                rw [szT_nat, show ((k : Int) + 1) = ((k + 1 : Nat) : Int) by omega, someB_nat]
                omega
              have e1 : (k : Int) + 1 + (szT s (k : Int) : Int) = ((k + 1 + byN s k : Nat) : Int) := by rw [szT_nat]; omega
              have e2 : someV s ((k : Int) + 1) (szT s (k : Int) : Int) = (s.drop (k + 1)).take (byN s k) := by
                unfold someV
                rw [szT_nat, Int.toNat_natCast, show ((k : Int) + 1).toNat = k + 1 by omega]
              have hsl : (sub s k (k + 1 + byN s k)).length = 1 + byN s k := by rw [sub_len (by omega) hin]; omega
              have hfold : foldB out ++ s.getD k 0 :: foldB ((s.drop (k + 1)).take (byN s k)) = foldB (out ++ sub s k (k + 1 + byN s k)) := by
                rw [foldB_app, sub_one hk, foldB_cons, lowB_small (show (s.getD k 0).toNat ≤ 63 from by unfold byN at h63; omega)]
              obtain ⟨i1, i2, i3⟩ := ih (s.length - (k + 1 + byN s k)) (by omega) (k + 1 + byN s k) f b (out ++ sub s k (k + 1 + byN s k)) rfl
              have hstep : out.length + 1 + byN s k ≤ 255 → takeG s (k : Int) (f : Int) b (foldB out) = takeG s ((k + 1 + byN s k : Nat) : Int) (f : Int) b (foldB (out ++ sub s k (k + 1 + byN s k))) := fun hc => by
                rw [takeG_on h1 (by rw [szT_nat]; omega) (by rw [szT_nat]; exact h0) h4 (by rw [foldB_len, szT_nat]; exact hc), e1, e2, Int.toNat_natCast, hfold]
              have hbad : ¬ out.length + 1 + byN s k ≤ 255 → takeG s (k : Int) (f : Int) b (foldB out) = none := fun hc =>
                takeG_long h1 (by rw [szT_nat]; omega) (by rw [foldB_len, szT_nat]; exact fun h => hc h.2)
              refine ⟨fun h => ?_, fun e h => ?_, fun e h hl => ?_⟩
              · rw [h] at hL
                by_cases hc : out.length + 1 + byN s k ≤ 255
                · rw [hstep hc]; exact i1 hL.symm
                · exact hbad hc
              · rw [h] at hL
                have hge := labE_ge _ _ e true rfl hL.symm
                by_cases hc : out.length + 1 + byN s k ≤ 255
                · rw [hstep hc, i2 e hL.symm, List.length_append, hsl, List.append_assoc, ← sub_split (by omega) hge.1]
                  by_cases hd : out.length + (e - k) ≤ 255
                  · rw [if_pos hd, if_pos (by omega)]
                  · rw [if_neg hd, if_neg (by omega)]
                · rw [hbad hc, if_neg (by omega)]
              · rw [h] at hL
                have hge := labE_ge _ _ e false rfl hL.symm
                by_cases hc : out.length + 1 + byN s k ≤ 255
                · rw [hstep hc, i3 e hL.symm (by rw [List.length_append, hsl]; omega), List.length_append, hsl, List.append_assoc, ← sub_split (by omega) hge.1]
                  by_cases hd : out.length + (e - k) ≤ 255
                  · rw [if_pos hd, if_pos (by omega)]
                  · rw [if_neg hd, if_neg (by omega)]
                · rw [hbad hc, if_neg (by omega)]
            · have hn : labE s (k + 1 + byN s k) = none := by rw [labE, dif_neg (by omega)]
              rw [hn] at hL
              refine ⟨fun h => ?_, fun e h => (by rw [h] at hL; cases hL), fun e h => (by rw [h] at hL; cases hL)⟩
              exact takeG_long h1 (by rw [szT_nat]; omega) (fun h => by
                have h4 := h.1
                rw [szT_nat, show ((k : Int) + 1) = ((k + 1 : Nat) : Int) by omega, someB_nat] at h4
                omega)
    · have hL : labE s k = none := by rw [labE, dif_neg hk]
      refine ⟨fun _ => takeG_out ?_, fun e h => (by rw [h] at hL; cases hL), fun e h => (by rw [h] at hL; cases hL)⟩
      cases h : someB s (k : Int) 1 with
      | false => rfl
      | true => have := (someB_nat (m := 1)).1 h; omega
/-- The two are the same. -/
theorem takeG_R {s : List UInt8} : ∀ (a : Nat) (b : Int) (out : List UInt8), out.length ≤ 255 → takeG s (a : Int) (a : Int) b (foldB out) = (match takeR s a b out with
    | none => none
    | some p => if p.1.length ≤ 255 then some (foldB p.1, p.2) else none) := by
  intro a
  induction a using Nat.strongRecOn with
  | _ a ih =>
    intro b out hl
    obtain ⟨l1, l2, l3⟩ := takeG_lab (s := s) _ a a b out rfl
    rw [takeR]
    cases hL : labE s a with
    | none => rw [l1 hL]
    | some p =>
      obtain ⟨e, r⟩ := p
      have hge := labE_ge _ a e r rfl hL
      have hsl := sub_len (s := s) hge.1 hge.2.1
      cases r with
      | true =>
        rw [l2 e hL]
        simp only [List.length_append, hsl]
      | false =>
        rw [l3 e hL hl]
        have hto := toT_in s (e : Int)
        by_cases hc : out.length + (e - a) ≤ 255
        · rw [if_pos hc]
          by_cases h2 : e + 2 ≤ s.length ∧ toT s (e : Int) < (a : Int)
          · simp only [dif_pos h2]
            have h192 : 192 ≤ szT s (e : Int) := by
              rw [szT_nat]
              have : ∀ (m k : Nat), s.length - k = m → labE s k = some (e, false) → 192 ≤ byN s e := by
                intro m
                induction m using Nat.strongRecOn with
                | _ m ih =>
                  intro k hm h
                  rw [labE] at h
                  by_cases hk : k < s.length
                  · rw [dif_pos hk] at h
                    split at h
                    · cases h; assumption
                    · split at h
                      · cases h
                      · split at h
                        · cases h
                        · exact ih (s.length - (k + 1 + byN s k)) (by omega) _ rfl h
                  · rw [dif_neg hk] at h; cases h
              exact this _ a rfl hL
            rw [takeG_ptr (someB_nat.2 (by omega : e + 1 ≤ s.length)) h192 (someB_nat.2 (by omega : e + 2 ≤ s.length)) h2.2]
            have e1 : toT s (e : Int) = (((toT s (e : Int)).toNat : Nat) : Int) := by omega
            have := ih (toT s (e : Int)).toNat (by omega) (if b < 0 then (e : Int) + 2 else b) (out ++ sub s a e) (by rw [List.length_append, hsl]; exact hc)
            rw [← e1] at this
            exact this
          · simp only [dif_neg h2]
            by_cases h1 : someB s (e : Int) 1 = true
            · have h192 : 192 ≤ szT s (e : Int) := by
                rw [szT_nat]
                have : ∀ (m k : Nat), s.length - k = m → labE s k = some (e, false) → 192 ≤ byN s e := by
                  intro m
                  induction m using Nat.strongRecOn with
                  | _ m ih =>
                    intro k hm h
                    rw [labE] at h
                    by_cases hk : k < s.length
                    · rw [dif_pos hk] at h
                      split at h
                      · cases h; assumption
                      · split at h
                        · cases h
                        · split at h
                          · cases h
                          · exact ih (s.length - (k + 1 + byN s k)) (by omega) _ rfl h
                    · rw [dif_neg hk] at h; cases h
                exact this _ a rfl hL
              exact takeG_bad h1 h192 (fun h => h2 ⟨someB_nat.1 h.1, h.2⟩)
            · exact takeG_out (by simpa using h1)
        · rw [if_neg hc]
          by_cases h2 : e + 2 ≤ s.length ∧ toT s (e : Int) < (a : Int)
          · simp only [dif_pos h2]
            cases hp : takeR s (toT s (e : Int)).toNat (if b < 0 then (e : Int) + 2 else b) (out ++ sub s a e) with
            | none => rfl
            | some p =>
              have := takeR_len _ _ _ _ _ hp
              rw [List.length_append, hsl] at this
              simp only
              rw [if_neg (by omega)]
          · simp only [dif_neg h2]
/-- Whether labels run out of the bytes. -/
def labX (s : List UInt8) (k : Nat) : Bool := if h : k < s.length then (if 192 ≤ byN s k then false else if 63 < byN s k then false else if byN s k = 0 then false else labX s (k + 1 + byN s k)) else true
termination_by s.length - k
theorem labX_E {s : List UInt8} : ∀ (m k : Nat), s.length - k = m → labX s k = true → labE s k = none := by
  intro m
  induction m using Nat.strongRecOn with
  | _ m ih =>
    intro k hm h
    rw [labX] at h
    rw [labE]
    by_cases hk : k < s.length
    · rw [dif_pos hk] at h ⊢
      split
      · rw [if_pos ‹_›] at h; cases h
      · rw [if_neg ‹_›] at h
        split
        · rfl
        · rw [if_neg ‹_›] at h
          split
          · rw [if_pos ‹_›] at h; cases h
          · rw [if_neg ‹_›] at h
            exact ih _ (by omega) _ rfl h
    · rw [dif_neg hk]
def endsX (p : List UInt8) (k : Nat) : Bool := if h : k < p.length then (if byN p k = 0 then false else endsX p (k + 1 + byN p k)) else true
termination_by p.length - k
theorem endsX_R {s : List UInt8} : ∀ (m k : Nat), s.length - k = m → endsX s k = true → endsR s k = false := by
  intro m
  induction m using Nat.strongRecOn with
  | _ m ih =>
    intro k hm h
    rw [endsX] at h
    rw [endsR]
    by_cases hk : k < s.length
    · rw [dif_pos hk] at h ⊢
      split
      · rw [if_pos ‹_›] at h; cases h
      · rw [if_neg ‹_›] at h
        exact ih _ (by omega) _ rfl h
    · rw [dif_neg hk]
def lbS3 (s : List UInt8) (a : Int) : List UInt8 := if a < 0 then [] else match labE s a.toNat with
  | some (e, _) => sub s a.toNat e
  | none => []
def lbE3 (s : List UInt8) (a : Int) : Int := if a < 0 then -1 else match labE s a.toNat with
  | some (e, _) => e
  | none => -1
def lbX3 (s : List UInt8) (a : Int) : Bool := decide (a < 0) || labX s a.toNat
theorem takeG_neg {s : List UInt8} {at_ b : Int} {f : Int} {out : List UInt8} (h : at_ < 0) : takeG s at_ f b out = none := takeG_out (by
  cases hs : someB s at_ 1 with
  | false => rfl
  | true => have := someB_iff.1 hs; omega)
/-- A name taken, piece by piece; and what there is when it goes wrong. -/
def takeS (s : List UInt8) (a : Nat) (b : Int) (n : List UInt8) : Bool × (List UInt8 × Int) :=
  match labE s a with
  | none => (false, n, b)
  | some (e, true) => (true, n ++ sub s a e, if b < 0 then (e : Int) else b)
  | some (e, false) => if h : e + 2 ≤ s.length ∧ toT s (e : Int) < (a : Int) then takeS s (toT s (e : Int)).toNat (if b < 0 then (e : Int) + 2 else b) (n ++ sub s a e) else (false, n ++ sub s a e, b)
termination_by a
decreasing_by
  have := toT_in s (e : Int)
  omega
theorem takeS_R {s : List UInt8} : ∀ (a : Nat) (b : Int) (n : List UInt8), takeR s a b n = if (takeS s a b n).1 = true then some (takeS s a b n).2 else none := by
  intro a
  induction a using Nat.strongRecOn with
  | _ a ih =>
    intro b n
    rw [takeR, takeS]
    cases hL : labE s a with
    | none => rfl
    | some p =>
      obtain ⟨e, r⟩ := p
      cases r with
      | true => rfl
      | false =>
        by_cases h2 : e + 2 ≤ s.length ∧ toT s (e : Int) < (a : Int)
        · simp only [dif_pos h2]
          have := toT_in s (e : Int)
          exact ih _ (by omega) _ _
        · simp only [dif_neg h2]
          rfl
def nilS (n : List UInt8) : Bool := n.isEmpty
def tk3 (s : List UInt8) (a b : Int) (n : List UInt8) : Bool × (List UInt8 × Int) := if a < 0 then (false, n, b) else takeS s a.toNat b n
theorem tk3_G {s : List UInt8} {a : Int} : takeG s a a (-1) [] = (bif (tk3 s a (-1) []).1 then (if (tk3 s a (-1) []).2.1.length ≤ 255 then some (foldB (tk3 s a (-1) []).2.1, (tk3 s a (-1) []).2.2) else none) else none) := by
  unfold tk3
  by_cases h0 : a < 0
  · rw [if_pos h0, takeG_neg h0]; rfl
  · rw [if_neg h0]
    have := takeG_R (s := s) a.toNat (-1) [] (by simp)
    rw [Int.toNat_of_nonneg (by omega), show foldB [] = [] from rfl] at this
    rw [this, takeS_R]
    cases (takeS s a.toNat (-1) []).1 <;> rfl
end Go.Proofs.YtfepkpindchleaaE
