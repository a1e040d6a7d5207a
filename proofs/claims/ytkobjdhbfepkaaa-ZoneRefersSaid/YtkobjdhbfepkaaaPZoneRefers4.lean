import Derived.Test.YtkobjdhbfepkaaaPZoneRefers3
namespace Go.Proofs.YtkobjdhbfepkaaaE
open Go Go.Proofs.YtkobjdhbfepkaaaB
set_option linter.unusedVariables false
set_option linter.unusedSimpArgs false
set_option maxRecDepth 100000
def smN (n : List UInt8) : Bool := Nat.ble n.length 1000000
theorem smN_iff {n : List UInt8} : smN n = true ↔ n.length ≤ 1000000 := by unfold smN; exact ⟨Nat.le_of_ble_eq_true, Nat.ble_eq_true_of_le⟩
def t31 (n : List UInt8) (z : List UInt8) : Tr Res := Tr.br (bigS z) (Tr.br (!mayV z) (Tr.ret ([AV.bool false], [])) (Tr.br (bigS n) (Tr.br (unC n z (mayV n)) (Tr.br (!(mayV n && sufB n z)) (Tr.ret ([AV.bool false], [])) (Tr.ret ([AV.bool true], []))) Tr.no) Tr.no)) Tr.no
def os31 : OSpec := { f := 31, sh := [.d .str false, .d .str false], so := [], F := fun (n, z, _) _ => t31 n z }
set_option maxRecDepth 1000000 in
theorem fn31 (n : List UInt8) (z : List UInt8) : evC T0 (orcB [fs41w, fs42w] []) (lpOf h31 0 (lsOf [ls31])) c31 1000000 (startSt [.str n, .str z] [] Try.f31.ntmps) (finishK T0 false 0 Try.f31) = (t31 n z).get := by kernel_rfl
theorem ok31 : os31.Ok Try.prog := by
  refine os_ok mixed0 tab0 (orcB_sound (all_cons okf41w (all_cons okf42w all_nil)) all_nil) h31 (d := 0) (n0 := 0) (S := lsOf [ls31]) Try.func31 (by kernel_rfl) (c := c31) (by kernel_rfl) rfl (loops_eq (xs := [(0, b31)]) (by kernel_rfl) (all_cons (ls_here loop31) all_nil)) (by omega) (by kernel_rfl) ?_
  intro x'' y'' q'' hq''
  obtain ⟨(n : List UInt8), (z : List UInt8), _⟩ := x''
  exact (fn31 n z).trans hq''
def fs31 : FSpec := fsT 31 [(.str, false), (.str, false)] [(.bool, false)] fun (n, z, _) => t31 n z
theorem okf31 : fs31.Ok Try.prog := fsT_ok fun x'' r'' hr'' => ok31 x'' () r'' hr''
def fs31w : FSpec := fs31.like fun (n, z, _) => .on (smN n && smN z) (undV n z, ())
theorem okf31w : fs31w.Ok Try.prog := by
  refine flike_ok okf31 _ ?_
  rintro ⟨(n : List UInt8), (z : List UInt8), _⟩ y h
  obtain ⟨hb, rfl⟩ := Tr.get_on h
  obtain ⟨hb1, hb2⟩ := Bool.and_eq_true_iff.1 (show (smN n && smN z) = true from hb)
  have hb1 := smN_iff.1 hb1
  have hb2 := smN_iff.1 hb2
  refine convR_of (vs := [.bool (undV n z)]) rfl rfl (Tr.get_of_all ?_)
  show (t31 n z).all _
  unfold t31 undV
  refine Tr.all_t (len_big (by omega)) (Tr.all_br (fun hz => Tr.all_ret (by rw [not_may hz]; rfl)) fun hz => ?_)
  rw [is_may hz]
  have hc : unC n z (mayV n) = true := by unfold unC; rw [Nat.ble_eq_true_of_le (by omega)]; simp
  refine Tr.all_t (len_big (by omega)) (Tr.all_t hc (Tr.all_br (fun hs => ?_) fun hs => ?_))
  · have hs : (mayV n && sufB n z) = false := by
      cases h : (mayV n && sufB n z)
      · rfl
      · rw [h] at hs; cases hs
    rw [hs]; exact Tr.all_ret rfl
  · have hs : (mayV n && sufB n z) = true := by
      cases h : (mayV n && sufB n z)
      · rw [h] at hs; cases hs
      · rfl
    rw [hs]; exact Tr.all_ret rfl
def joinV (l : List (List UInt8)) : List UInt8 := (l.map fun x => UInt8.ofNat x.length :: x).flatten ++ [0]
def sfxB (a b : List (List UInt8)) : Bool := decide (b.length ≤ a.length) && (a.drop (a.length - b.length) == b)
def ruC (a b : List (List UInt8)) (i : Int) : Bool := decide (b.length ≤ a.length) && (Nat.ble a.length 1000000 && decide (i = 0))
noncomputable def b44 : Code := nthLoop c44 0
def ls44 : LoopSpec := { bid := 0, sh := [.d (.list .str) false, .d (.list .str) false, .d (.int .i64) false], so := [], F := fun (a, b, i, _) _ => .on2 (ruC a b i) (sfxB a b) (.exit 0, [.dead], []) (.ret, [.bool false], []) }
def r44 (a : List (List UInt8)) (b : List (List UInt8)) (i : Int) : Tr (St ⊕ (Ex × St)) := Tr.br (decide (i < (↑(List.length b) : Int))) (Tr.br (decide ((0 : Int) ≤ IntKind.wrap IntKind.i64 (IntKind.wrap IntKind.i64 ((↑(List.length a) : Int) - (↑(List.length b) : Int)) + i))) (Tr.br (decide (IntKind.wrap IntKind.i64 (IntKind.wrap IntKind.i64 ((↑(List.length a) : Int) - (↑(List.length b) : Int)) + i) < (↑(List.length a) : Int))) (Tr.br (decide ((0 : Int) ≤ i)) (Tr.br (decide (i < (↑(List.length b) : Int))) (Tr.br (!List.getD a (Int.toNat (IntKind.wrap IntKind.i64 (IntKind.wrap IntKind.i64 ((↑(List.length a) : Int) - (↑(List.length b) : Int)) + i))) (Ty.dflt Ty.str) == List.getD b (Int.toNat i) (Ty.dflt Ty.str)) (Tr.ret (Sum.inr (Ex.ret, stOf [4] [AV.bool false] []))) (Tr.ret (Sum.inl (stOf [5, 7, 9] [AV.list Ty.str a, AV.list Ty.str b, AV.int IntKind.i64 (IntKind.wrap IntKind.i64 (i + (1 : Int)))] [])))) Tr.no) Tr.no) Tr.no) Tr.no) (Tr.ret (Sum.inr (Ex.exit 0, stOf [4] [AV.dead] [])))
set_option maxRecDepth 1000000 in
theorem round44 (lp : Lp) (a : List (List UInt8)) (b : List (List UInt8)) (i : Int) : evC T0 (orcB [fs75v, fs45v] []) lp b44 0 (stOf [5, 7, 9] [.list .str a, .list .str b, .int .i64 i] []) (roundK [5, 7, 9] [4] 0) = (r44 a b i).get := by kernel_rfl
theorem drop_cons2 {α : Type} {l : List α} {k : Nat} (h : k < l.length) (x : α) : l.drop k = l.getD k x :: l.drop (k + 1) := by
  rw [List.getD_eq_getElem?_getD, List.getElem?_eq_getElem h]
  exact List.drop_eq_getElem_cons h
def t44 (n : List UInt8) (z : List UInt8) : Tr Res := Tr.br (bigS n) (Tr.br (!mayV n) (Tr.ret ([AV.bool false], [])) (Tr.br (bigS z) (Tr.br (!mayV z) (Tr.ret ([AV.bool false], [])) (Tr.br (bigS n) (Tr.br (rootV n) (Tr.br (decide (List.length n > 255)) (Tr.br (bigS z) (Tr.br (rootV z) (Tr.br (decide (List.length z > 255)) (Tr.ret ([AV.bool true], [])) (Tr.br (decide ((↑0 : Int) < (↑(List.length (labsV z)) : Int))) (Tr.ret ([AV.bool false], [])) (Tr.br (ruC [] (labsV z) (0 : Int)) (Tr.br (sfxB [] (labsV z)) (Tr.ret ([AV.bool true], [])) (Tr.ret ([AV.bool false], []))) Tr.no))) (Tr.ret ([AV.bool true], []))) Tr.no) (Tr.br (bigS z) (Tr.br (rootV z) (Tr.br (decide (List.length z > 255)) (Tr.br (ruC (labsV n) [] (0 : Int)) (Tr.br (sfxB (labsV n) []) (Tr.ret ([AV.bool true], [])) (Tr.ret ([AV.bool false], []))) Tr.no) (Tr.br (decide ((↑(List.length (labsV n)) : Int) < (↑(List.length (labsV z)) : Int))) (Tr.ret ([AV.bool false], [])) (Tr.br (ruC (labsV n) (labsV z) (0 : Int)) (Tr.br (sfxB (labsV n) (labsV z)) (Tr.ret ([AV.bool true], [])) (Tr.ret ([AV.bool false], []))) Tr.no))) (Tr.br (ruC (labsV n) [] (0 : Int)) (Tr.br (sfxB (labsV n) []) (Tr.ret ([AV.bool true], [])) (Tr.ret ([AV.bool false], []))) Tr.no)) Tr.no)) (Tr.br (bigS z) (Tr.br (rootV z) (Tr.br (decide (List.length z > 255)) (Tr.ret ([AV.bool true], [])) (Tr.br (decide ((↑0 : Int) < (↑(List.length (labsV z)) : Int))) (Tr.ret ([AV.bool false], [])) (Tr.br (ruC [] (labsV z) (0 : Int)) (Tr.br (sfxB [] (labsV z)) (Tr.ret ([AV.bool true], [])) (Tr.ret ([AV.bool false], []))) Tr.no))) (Tr.ret ([AV.bool true], []))) Tr.no)) Tr.no)) Tr.no)) Tr.no
set_option maxRecDepth 1000000 in
theorem fn44 (n : List UInt8) (z : List UInt8) : evC T0 (orcB [fs75v, fs45v] []) (lpOf h44 0 (lsOf [ls44])) c44 1000000 (startSt [.str n, .str z] [] Try.f44.ntmps) (finishK T0 false 0 Try.f44) = (t44 n z).get := by kernel_rfl
def fs44 : FSpec := fsT 44 [(.str, false), (.str, false)] [(.bool, false)] fun (n, z, _) => t44 n z
def fs44w : FSpec := fs44.like fun (n, z, _) => .on (smN n && smN z) (undV n z, ())
abbrev RR : Ty := .pair .str (.pair (.int .u16) (.pair (.int .u16) (.pair (.int .u32) .str)))
abbrev RRt := List UInt8 × (Int × (Int × (Int × List UInt8)))
abbrev ZN : Ty := .pair .str (.list RR)
abbrev ZNt := List UInt8 × List RRt
abbrev QQ : Ty := .pair .str (.pair (.int .u16) (.int .u16))
abbrev QQt := List UInt8 × (Int × Int)
abbrev MG : Ty := .pair (.int .u16) (.pair .bool (.pair .bool (.pair .bool (.pair .bool (.pair .bool (.pair (.int .i64) (.pair (.int .i64) (.pair (.list QQ) (.pair (.list RR) (.pair (.list RR) (.list RR)))))))))))
abbrev MGt := Int × (Bool × (Bool × (Bool × (Bool × (Bool × (Int × (Int × (List QQt × (List RRt × (List RRt × List RRt))))))))))
instance decRR : DecidableEq RRt := inferInstance
instance decLRR : DecidableEq (List RRt) := inferInstance
instance decZN : DecidableEq ZNt := inferInstanceAs (DecidableEq (List UInt8 × List RRt))
instance decLZN : DecidableEq (List ZNt) := inferInstance
end Go.Proofs.YtkobjdhbfepkaaaE
namespace Go.Proofs.YtkobjdhbfepkaaaE
open Go Go.Proofs.YtkobjdhbfepkaaaB
set_option linter.unusedVariables false
set_option linter.unusedSimpArgs false
set_option maxRecDepth 100000
def t74 (r : (List UInt8 × (Int × (Int × (Int × List UInt8))))) (n : List UInt8) (kind : Int) : Tr Res := Tr.br (Prod.fst r == n) (Tr.ret ([AV.bool (Prod.fst (Prod.snd r) == kind)], [LObj.boxT none [AV.str n], LObj.boxT none [AV.int IntKind.u16 kind]])) (Tr.ret ([AV.bool false], [LObj.boxT none [AV.str n], LObj.boxT none [AV.int IntKind.u16 kind]]))
def os74 : OSpec := { f := 74, sh := [.d RR true, .ptr 0 0, .ptr 1 0], so := [.box [.d .str false], .box [.d (.int .u16) false]], F := fun (r, _) ((n, _), (kind, _), _) => t74 r n kind }
set_option maxRecDepth 1000000 in
theorem fn74 (r : (List UInt8 × (Int × (Int × (Int × List UInt8))))) (n : List UInt8) (kind : Int) : evC T0 (orcB [] []) (lpOf h74 2 (lsOf [])) c74 1000000 (startSt [AV.ofTy RR r true, .ptr 0 0, .ptr 1 0] [.box [.str n], .box [.int .u16 kind]] Try.f74.ntmps) (finishK T0 false 2 Try.f74) = (t74 r n kind).get := by kernel_rfl
theorem ok74 : os74.Ok Try.prog := by
  refine os_ok mixed0 tab0 (orcB_sound all_nil all_nil) h74 (d := 0) (n0 := 2) (S := lsOf []) Try.func74 (by kernel_rfl) (c := c74) (by kernel_rfl) rfl (no_loops (by kernel_rfl)) (by omega) (by kernel_rfl) ?_
  intro x'' y'' q'' hq''
  obtain ⟨(r : (List UInt8 × (Int × (Int × (Int × List UInt8))))), _⟩ := x''
  obtain ⟨⟨(n : List UInt8), _⟩, ⟨(kind : Int), _⟩, _⟩ := y''
  exact (fn74 r n kind).trans hq''
def isOf (n : List UInt8) (kind : Int) (r : RRt) : Bool := r.1 == n && r.2.1 == kind
def ownV (ap : List UInt8) (f : RRt → Bool) (rs : List RRt) : List RRt := rs.filter fun r => undV r.1 ap && f r
def smR (rs : List RRt) : Bool := Nat.ble rs.length 1000000 && rs.all fun r => smN r.1
def ownC (ap : List UInt8) (rs l : List RRt) (m i : Int) : Bool := smN ap && (smR rs && (l.isEmpty && (decide (m = (rs.length : Int)) && decide (i = 0))))
def os74w : OSpec := os74.like fun (r, _) ((n, _), (kind, _), _) => .ret ([.bool (isOf n kind r)], [.boxT none [.str n], .boxT none [.int .u16 kind]])
theorem ok74w : os74w.Ok Try.prog := by
  refine like_ok ok74 _ ?_
  rintro ⟨(r : RRt), _⟩ ⟨⟨(n : List UInt8), _⟩, ⟨(kind : Int), _⟩, _⟩ r' h
  cases h
  refine Tr.get_of_all ?_
  show (t74 r n kind).all _
  unfold t74 isOf
  refine Tr.all_br (fun c => Tr.all_ret ?_) fun c => Tr.all_ret ?_
  · rw [c, Bool.true_and]
  · rw [c, Bool.false_and]
noncomputable def b49o : Code := nthLoop c49 0
def ls49o : LoopSpec := { bid := 0, sh := [.fnp 74 [(0, 0), (1, 0)], .ptr 2 0, .row 3, .d (.list RR) false, .d (.int .i64) false, .d (.int .i64) false], so := [.box [.d .str false], .box [.d (.int .u16) false], .box [.d .str false, .d (.list RR) false], .row RR], F := fun (rs, m, i, _) ((n, _), (kind, _), (ap, zr, _), l, _) => .on (ownC ap rs l m i) (.exit 0, [.rowA 2], [.box [.str n], .box [.int .u16 kind], .row RR (ownV ap (isOf n kind) rs)]) }
def r49o (rs : List (List UInt8 × (Int × (Int × (Int × List UInt8))))) (m : Int) (i : Int) (n : List UInt8) (kind : Int) (ap : List UInt8) (zr : List (List UInt8 × (Int × (Int × (Int × List UInt8))))) (l : List (List UInt8 × (Int × (Int × (Int × List UInt8))))) : Tr (St ⊕ (Ex × St)) := Tr.br (decide (i < m)) (Tr.br (decide ((0 : Int) ≤ i)) (Tr.br (decide (i < (↑(List.length rs) : Int))) (Tr.br (smN (Prod.fst (List.getD rs (Int.toNat i) (Ty.dflt RR))) && smN ap) (Tr.br (undV (Prod.fst (List.getD rs (Int.toNat i) (Ty.dflt RR))) ap) (Tr.br (isOf n kind (List.getD rs (Int.toNat i) (Ty.dflt RR))) (Tr.br (fits (List.length l + 1) 40) (Tr.ret (Sum.inl (stOf [1, 2, 5, 9, 10, 11] [AV.fn 74 [AV.ptr 0 0, AV.ptr 1 0], AV.ptr 2 0, AV.rowA 3, AV.list RR rs, AV.int IntKind.i64 m, AV.int IntKind.i64 (IntKind.wrap IntKind.i64 (i + (1 : Int)))] [LObj.boxT none [AV.str n], LObj.boxT none [AV.int IntKind.u16 kind], LObj.boxT none [AV.str ap, AV.list RR zr], LObj.row RR (l ++ [List.getD rs (Int.toNat i) (Ty.dflt RR)])]))) Tr.no) (Tr.ret (Sum.inl (stOf [1, 2, 5, 9, 10, 11] [AV.fn 74 [AV.ptr 0 0, AV.ptr 1 0], AV.ptr 2 0, AV.rowA 3, AV.list RR rs, AV.int IntKind.i64 m, AV.int IntKind.i64 (IntKind.wrap IntKind.i64 (i + (1 : Int)))] [LObj.boxT none [AV.str n], LObj.boxT none [AV.int IntKind.u16 kind], LObj.boxT none [AV.str ap, AV.list RR zr], LObj.row RR l])))) (Tr.ret (Sum.inl (stOf [1, 2, 5, 9, 10, 11] [AV.fn 74 [AV.ptr 0 0, AV.ptr 1 0], AV.ptr 2 0, AV.rowA 3, AV.list RR rs, AV.int IntKind.i64 m, AV.int IntKind.i64 (IntKind.wrap IntKind.i64 (i + (1 : Int)))] [LObj.boxT none [AV.str n], LObj.boxT none [AV.int IntKind.u16 kind], LObj.boxT none [AV.str ap, AV.list RR zr], LObj.row RR l])))) Tr.no) Tr.no) Tr.no) (Tr.ret (Sum.inr (Ex.exit 0, stOf [5] [AV.rowA 2] [LObj.boxT none [AV.str n], LObj.boxT none [AV.int IntKind.u16 kind], LObj.row RR l])))
set_option maxRecDepth 1000000 in
theorem round49o (lp : Lp) (rs : List (List UInt8 × (Int × (Int × (Int × List UInt8))))) (m : Int) (i : Int) (n : List UInt8) (kind : Int) (ap : List UInt8) (zr : List (List UInt8 × (Int × (Int × (Int × List UInt8))))) (l : List (List UInt8 × (Int × (Int × (Int × List UInt8))))) : evC T0 (orcB [fs31w] [os74w]) lp b49o 0 (stOf [1, 2, 5, 9, 10, 11] [.fn 74 [.ptr 0 0, .ptr 1 0], .ptr 2 0, .rowA 3, .list RR rs, .int .i64 m, .int .i64 i] [.box [.str n], .box [.int .u16 kind], .box [.str ap, .list RR zr], .row RR l]) (roundK [1, 2, 5, 9, 10, 11] [5] 2) = (r49o rs m i n kind ap zr l).get := by kernel_rfl
theorem wf49o (rs : List (List UInt8 × (Int × (Int × (Int × List UInt8))))) (m : Int) (n : List UInt8) (kind : Int) (ap : List UInt8) (zr : List (List UInt8 × (Int × (Int × (Int × List UInt8))))) (I'' : List (List UInt8 × (Int × (Int × (Int × List UInt8)))) → Int → Prop) (m'' : List (List UInt8 × (Int × (Int × (Int × List UInt8)))) → Int → Nat) (r'' : Ex × St) (h : ∀ (l : List (List UInt8 × (Int × (Int × (Int × List UInt8))))) (i : Int), I'' l i → (r49o rs m i n kind ap zr l).all fun x'' => x'' = .inr r'' ∨ ∃ (l' : List (List UInt8 × (Int × (Int × (Int × List UInt8))))) (i' : Int), x'' = .inl (stOf [1, 2, 5, 9, 10, 11] [.fn 74 [.ptr 0 0, .ptr 1 0], .ptr 2 0, .rowA 3, .list RR rs, .int .i64 m, .int .i64 i'] [.box [.str n], .box [.int .u16 kind], .box [.str ap, .list RR zr], .row RR l']) ∧ I'' l' i' ∧ m'' l' i' < m'' l i) (lp : Lp) (l : List (List UInt8 × (Int × (Int × (Int × List UInt8))))) (i : Int) : I'' l i →
    loopF (fun st => evC T0 (orcB [fs31w] [os74w]) lp b49o 0 st (roundK [1, 2, 5, 9, 10, 11] [5] 2)) (stOf [1, 2, 5, 9, 10, 11] [.fn 74 [.ptr 0 0, .ptr 1 0], .ptr 2 0, .rowA 3, .list RR rs, .int .i64 m, .int .i64 i] [.box [.str n], .box [.int .u16 kind], .box [.str ap, .list RR zr], .row RR l]) = some r'' :=
  loop_tr (fun a'' : List (List UInt8 × (Int × (Int × (Int × List UInt8)))) × Int => stOf [1, 2, 5, 9, 10, 11] [.fn 74 [.ptr 0 0, .ptr 1 0], .ptr 2 0, .rowA 3, .list RR rs, .int .i64 m, .int .i64 a''.2] [.box [.str n], .box [.int .u16 kind], .box [.str ap, .list RR zr], .row RR a''.1]) (fun a'' => I'' a''.1 a''.2) (fun a'' => m'' a''.1 a''.2) r'' (fun a'' => r49o rs m a''.2 n kind ap zr a''.1)
    (fun a'' x hx => (round49o lp rs m a''.2 n kind ap zr a''.1).trans hx) (fun a'' ha => Tr.all_mono (fun x'' hx => hx.imp id fun ⟨l', i', h1, h2, h3⟩ => ⟨(l', i'), h1, h2, h3⟩) (h (a''.1) (a''.2) ha)) (l, i)
theorem smR_get {rs : List RRt} (h : smR rs = true) {k : Nat} (hk : k < rs.length) (x : RRt) : smN (rs.getD k x).1 = true := by
  unfold smR at h
  rw [Bool.and_eq_true, List.all_eq_true] at h
  refine h.2 _ ?_
  rw [List.getD_eq_getElem?_getD, List.getElem?_eq_getElem hk]
  exact List.getElem_mem hk
theorem smR_len {rs : List RRt} (h : smR rs = true) : rs.length ≤ 1000000 := by
  unfold smR at h
  rw [Bool.and_eq_true] at h
  exact Nat.le_of_ble_eq_true h.1
theorem ownV_next {ap : List UInt8} {f : RRt → Bool} {rs : List RRt} {k : Nat} (hk : k < rs.length) (x : RRt) : ownV ap f (rs.drop k) = (bif undV (rs.getD k x).1 ap && f (rs.getD k x) then [rs.getD k x] else []) ++ ownV ap f (rs.drop (k + 1)) := by
  rw [drop_cons2 hk x]
  unfold ownV
  rw [List.filter_cons]
  cases h : (undV (rs.getD k x).1 ap && f (rs.getD k x)) <;> simp
theorem ownV_len {ap : List UInt8} {f : RRt → Bool} {rs : List RRt} : (ownV ap f rs).length ≤ rs.length := List.length_filter_le _ _
theorem wrap_succ {i : Int} {n : Nat} (h0 : 0 ≤ i) (h : i ≤ n) (hn : n ≤ 1000000000) : IntKind.wrap IntKind.i64 (i + 1) = i + 1 := IntWalk.i64_in _ (by omega)
theorem loop49o : ls49o.Ok T0 (orcB [fs31w] [os74w]) h49 2 0 b49o := by
  intro q'' hq'' x'' y'' r'' h
  obtain ⟨(rs : List (List UInt8 × (Int × (Int × (Int × List UInt8))))), (m : Int), (i : Int), _⟩ := x''
  obtain ⟨⟨(n : List UInt8), _⟩, ⟨(kind : Int), _⟩, ⟨(ap : List UInt8), (zr : List (List UInt8 × (Int × (Int × (Int × List UInt8))))), _⟩, (l : List (List UInt8 × (Int × (Int × (Int × List UInt8))))), _⟩ := y''
  obtain ⟨hc, rfl⟩ := Tr.get_on h
  show loopF (fun st => evC T0 (orcB [fs31w] [os74w]) (lpN T0 (orcB [fs31w] [os74w]) h49 2 q'') b49o 0 st (roundK [1, 2, 5, 9, 10, 11] [5] 2)) (stOf [1, 2, 5, 9, 10, 11] [.fn 74 [.ptr 0 0, .ptr 1 0], .ptr 2 0, .rowA 3, .list RR rs, .int .i64 m, .int .i64 i] [.box [.str n], .box [.int .u16 kind], .box [.str ap, .list RR zr], .row RR l]) = some (.exit 0, stOf [5] ([.rowA 2]) ([.box [.str n], .box [.int .u16 kind], .row RR (ownV ap (isOf n kind) rs)]))
  simp only [ownC, Bool.and_eq_true, decide_eq_true_eq, List.isEmpty_iff] at hc
  obtain ⟨hap, hrs, rfl, rfl, rfl⟩ := hc
  have hl := smR_len hrs
  refine wf49o rs rs.length n kind ap zr (fun l i => 0 ≤ i ∧ i ≤ rs.length ∧ l ++ ownV ap (isOf n kind) (rs.drop i.toNat) = ownV ap (isOf n kind) rs) (fun l i => (rs.length - i).toNat) _ ?_ _ [] 0 ⟨by omega, by omega, rfl⟩
  rintro l i ⟨h0, h1, he⟩
  have hll : l.length ≤ 1000000 := by
    have := ownV_len (ap := ap) (f := isOf n kind) (rs := rs)
    rw [← he, List.length_append] at this
    omega
  unfold r49o
  rw [wrap_succ h0 h1 (by omega)]
  by_cases hi : i < rs.length
  · have hsm := smR_get hrs (k := i.toNat) (by omega) (Ty.dflt RR)
    rw [ownV_next (k := i.toNat) (by omega) (Ty.dflt RR)] at he
    generalize rs.getD i.toNat (Ty.dflt RR) = x at *
    refine Tr.all_t (dec_true hi) (Tr.all_t (dec_true h0) (Tr.all_t (dec_true hi) (Tr.all_t (by rw [hsm, hap]; rfl) (Tr.all_br (fun hu => Tr.all_br (fun hf => Tr.all_t (fits_true (by omega) (by omega)) ?_) fun hf => ?_) fun hu => ?_))))
    all_goals rw [hu] at he
    all_goals try rw [hf] at he
    all_goals refine Tr.all_ret (.inr ⟨_, _, rfl, ⟨by omega, by omega, ?_⟩, by omega⟩)
    all_goals rw [show (i + 1).toNat = i.toNat + 1 by omega]
    · rw [← he]; simp
    · rw [← he]; simp
    · rw [← he]; simp
  · refine Tr.all_f (dec_false hi) (Tr.all_ret (.inl ?_))
    rw [show i.toNat = rs.length by omega, List.drop_length] at he
    rw [← he]
    simp [ownV]
def t49o (z : (List UInt8 × List (List UInt8 × (Int × (Int × (Int × List UInt8)))))) (n : List UInt8) (kind : Int) : Tr Res := Tr.br (ownC (Prod.fst z) (Prod.snd z) [] (↑(List.length (Prod.snd z)) : Int) (0 : Int)) (Tr.ret ([AV.rowA 2], [LObj.boxT none [AV.str n], LObj.boxT none [AV.int IntKind.u16 kind], LObj.row RR (ownV (Prod.fst z) (isOf n kind) (Prod.snd z))])) Tr.no
def os49o : OSpec := { f := 49, sh := [.d ZN true, .fnp 74 [(0, 0), (1, 0)]], so := [.box [.d .str false], .box [.d (.int .u16) false]], F := fun (z, _) ((n, _), (kind, _), _) => t49o z n kind }
set_option maxRecDepth 1000000 in
theorem fn49o (z : (List UInt8 × List (List UInt8 × (Int × (Int × (Int × List UInt8)))))) (n : List UInt8) (kind : Int) : evC T0 (orcB [fs31w] [os74w]) (lpOf (hOwn h49) 2 (lsOf [ls49o])) c49 1000000 (startSt [AV.ofTy ZN z true, .fn 74 [.ptr 0 0, .ptr 1 0]] [.box [.str n], .box [.int .u16 kind]] Try.f49.ntmps) (finishK T0 true 2 Try.f49) = (t49o z n kind).get := by kernel_rfl
theorem ok49o : os49o.Ok Try.prog := by
  refine os_ok mixed0 tab0 (orcB_sound (all_cons okf31w all_nil) (all_cons ok74w all_nil)) (hOwn h49) (d := 0) (n0 := 2) (S := lsOf [ls49o]) Try.func49 (by kernel_rfl) (c := c49) (by kernel_rfl) rfl (loops_eq (xs := [(0, b49o)]) (by kernel_rfl) (all_cons (ls_here loop49o) all_nil)) (by omega) (by kernel_rfl) ?_
  intro x'' y'' q'' hq''
  obtain ⟨(z : (List UInt8 × List (List UInt8 × (Int × (Int × (Int × List UInt8)))))), _⟩ := x''
  obtain ⟨⟨(n : List UInt8), _⟩, ⟨(kind : Int), _⟩, _⟩ := y''
  exact (fn49o z n kind).trans hq''
end Go.Proofs.YtkobjdhbfepkaaaE
namespace Go.Proofs.YtkobjdhbfepkaaaE
open Go Go.Proofs.YtkobjdhbfepkaaaB
set_option linter.unusedVariables false
set_option linter.unusedSimpArgs false
set_option maxRecDepth 100000
def t43 (z : (List UInt8 × List (List UInt8 × (Int × (Int × (Int × List UInt8)))))) (n : List UInt8) (kind : Int) : Tr Res := Tr.br (ownC (Prod.fst z) (Prod.snd z) [] (↑(List.length (Prod.snd z)) : Int) (0 : Int)) (Tr.ret ([AV.list RR (ownV (Prod.fst z) (isOf n kind) (Prod.snd z))], [])) Tr.no
def os43 : OSpec := { f := 43, sh := [.d ZN true, .d .str false, .d (.int .u16) false], so := [], F := fun (z, n, kind, _) _ => t43 z n kind }
set_option maxRecDepth 1000000 in
theorem fn43 (z : (List UInt8 × List (List UInt8 × (Int × (Int × (Int × List UInt8)))))) (n : List UInt8) (kind : Int) : evC T0 (orcB [] [os49o]) (lpOf h43 0 (lsOf [])) c43 1000000 (startSt [AV.ofTy ZN z true, .str n, .int .u16 kind] [] Try.f43.ntmps) (finishK T0 false 0 Try.f43) = (t43 z n kind).get := by kernel_rfl
theorem ok43 : os43.Ok Try.prog := by
  refine os_ok mixed0 tab0 (orcB_sound all_nil (all_cons ok49o all_nil)) h43 (d := 0) (n0 := 0) (S := lsOf []) Try.func43 (by kernel_rfl) (c := c43) (by kernel_rfl) rfl (no_loops (by kernel_rfl)) (by omega) (by kernel_rfl) ?_
  intro x'' y'' q'' hq''
  obtain ⟨(z : (List UInt8 × List (List UInt8 × (Int × (Int × (Int × List UInt8)))))), (n : List UInt8), (kind : Int), _⟩ := x''
  exact (fn43 z n kind).trans hq''
def fs43 : FSpec := fsT 43 [(ZN, true), (.str, false), ((.int .u16), false)] [((.list RR), false)] fun (z, n, kind, _) => t43 z n kind
theorem okf43 : fs43.Ok Try.prog := fsT_ok fun x'' r'' hr'' => ok43 x'' () r'' hr''
def smZ (z : ZNt) : Bool := smN z.1 && smR z.2
def ofV (z : ZNt) (n : List UInt8) (kind : Int) : List RRt := ownV z.1 (isOf n kind) z.2
def fs43w : FSpec := fs43.like fun (z, n, kind, _) => .on (smZ z) (ofV z n kind, ())
theorem smZ_iff {z : ZNt} : smZ z = true ↔ smN z.1 = true ∧ smR z.2 = true := by unfold smZ; exact Bool.and_eq_true_iff
theorem ownC_of {z : ZNt} (h : smZ z = true) : ownC z.1 z.2 [] (z.2.length : Int) 0 = true := by
  obtain ⟨h1, h2⟩ := smZ_iff.1 h
  unfold ownC
  rw [h1, h2, decide_eq_true rfl]
  rfl
theorem okf43w : fs43w.Ok Try.prog := by
  refine flike_ok okf43 _ ?_
  rintro ⟨(z : ZNt), (n : List UInt8), (kind : Int), _⟩ y h
  obtain ⟨hb, rfl⟩ := Tr.get_on h
  refine convR_of (vs := [.list RR (ofV z n kind)]) rfl rfl (Tr.get_of_all ?_)
  show (t43 z n kind).all _
  exact Tr.all_t (ownC_of hb) (Tr.all_ret rfl)
def t50 (r : (List UInt8 × (Int × (Int × (Int × List UInt8))))) (n : List UInt8) : Tr Res := Tr.br (smN (Prod.fst r) && smN n) (Tr.ret ([AV.bool (undV (Prod.fst r) n)], [LObj.boxT none [AV.str n]])) Tr.no
def os50 : OSpec := { f := 50, sh := [.d RR true, .ptr 0 0], so := [.box [.d .str false]], F := fun (r, _) ((n, _), _) => t50 r n }
set_option maxRecDepth 1000000 in
theorem fn50 (r : (List UInt8 × (Int × (Int × (Int × List UInt8))))) (n : List UInt8) : evC T0 (orcB [fs31w] [os49o]) (lpOf h50 1 (lsOf [])) c50 1000000 (startSt [AV.ofTy RR r true, .ptr 0 0] [.box [.str n]] Try.f50.ntmps) (finishK T0 false 1 Try.f50) = (t50 r n).get := by kernel_rfl
theorem ok50 : os50.Ok Try.prog := by
  refine os_ok mixed0 tab0 (orcB_sound (all_cons okf31w all_nil) (all_cons ok49o all_nil)) h50 (d := 0) (n0 := 1) (S := lsOf []) Try.func50 (by kernel_rfl) (c := c50) (by kernel_rfl) rfl (no_loops (by kernel_rfl)) (by omega) (by kernel_rfl) ?_
  intro x'' y'' q'' hq''
  obtain ⟨(r : (List UInt8 × (Int × (Int × (Int × List UInt8))))), _⟩ := x''
  obtain ⟨⟨(n : List UInt8), _⟩, _⟩ := y''
  exact (fn50 r n).trans hq''
def undF (n : List UInt8) (r : RRt) : Bool := undV r.1 n
def ownT (ap n : List UInt8) (rs l : List RRt) (m i : Int) : Bool := smN n && ownC ap rs l m i
noncomputable def b49t : Code := nthLoop c49 0
def ls49t : LoopSpec := { bid := 0, sh := [.fnp 50 [(0, 0)], .ptr 1 0, .row 2, .d (.list RR) false, .d (.int .i64) false, .d (.int .i64) false], so := [.box [.d .str false], .box [.d .str false, .d (.list RR) false], .row RR], F := fun (rs, m, i, _) ((n, _), (ap, zr, _), l, _) => .on (ownT ap n rs l m i) (.exit 0, [.rowA 1], [.box [.str n], .row RR (ownV ap (undF n) rs)]) }
def r49t (rs : List (List UInt8 × (Int × (Int × (Int × List UInt8))))) (m : Int) (i : Int) (n : List UInt8) (ap : List UInt8) (zr : List (List UInt8 × (Int × (Int × (Int × List UInt8))))) (l : List (List UInt8 × (Int × (Int × (Int × List UInt8))))) : Tr (St ⊕ (Ex × St)) := Tr.br (decide (i < m)) (Tr.br (decide ((0 : Int) ≤ i)) (Tr.br (decide (i < (↑(List.length rs) : Int))) (Tr.br (smN (Prod.fst (List.getD rs (Int.toNat i) (Ty.dflt RR))) && smN ap) (Tr.br (undV (Prod.fst (List.getD rs (Int.toNat i) (Ty.dflt RR))) ap) (Tr.br (smN (Prod.fst (List.getD rs (Int.toNat i) (Ty.dflt RR))) && smN n) (Tr.br (undV (Prod.fst (List.getD rs (Int.toNat i) (Ty.dflt RR))) n) (Tr.br (fits (List.length l + 1) 40) (Tr.ret (Sum.inl (stOf [1, 2, 5, 9, 10, 11] [AV.fn 50 [AV.ptr 0 0], AV.ptr 1 0, AV.rowA 2, AV.list RR rs, AV.int IntKind.i64 m, AV.int IntKind.i64 (IntKind.wrap IntKind.i64 (i + (1 : Int)))] [LObj.boxT none [AV.str n], LObj.boxT none [AV.str ap, AV.list RR zr], LObj.row RR (l ++ [List.getD rs (Int.toNat i) (Ty.dflt RR)])]))) Tr.no) (Tr.ret (Sum.inl (stOf [1, 2, 5, 9, 10, 11] [AV.fn 50 [AV.ptr 0 0], AV.ptr 1 0, AV.rowA 2, AV.list RR rs, AV.int IntKind.i64 m, AV.int IntKind.i64 (IntKind.wrap IntKind.i64 (i + (1 : Int)))] [LObj.boxT none [AV.str n], LObj.boxT none [AV.str ap, AV.list RR zr], LObj.row RR l])))) Tr.no) (Tr.ret (Sum.inl (stOf [1, 2, 5, 9, 10, 11] [AV.fn 50 [AV.ptr 0 0], AV.ptr 1 0, AV.rowA 2, AV.list RR rs, AV.int IntKind.i64 m, AV.int IntKind.i64 (IntKind.wrap IntKind.i64 (i + (1 : Int)))] [LObj.boxT none [AV.str n], LObj.boxT none [AV.str ap, AV.list RR zr], LObj.row RR l])))) Tr.no) Tr.no) Tr.no) (Tr.ret (Sum.inr (Ex.exit 0, stOf [5] [AV.rowA 1] [LObj.boxT none [AV.str n], LObj.row RR l])))
set_option maxRecDepth 1000000 in
theorem round49t (lp : Lp) (rs : List (List UInt8 × (Int × (Int × (Int × List UInt8))))) (m : Int) (i : Int) (n : List UInt8) (ap : List UInt8) (zr : List (List UInt8 × (Int × (Int × (Int × List UInt8))))) (l : List (List UInt8 × (Int × (Int × (Int × List UInt8))))) : evC T0 (orcB [fs31w] [os50]) lp b49t 0 (stOf [1, 2, 5, 9, 10, 11] [.fn 50 [.ptr 0 0], .ptr 1 0, .rowA 2, .list RR rs, .int .i64 m, .int .i64 i] [.box [.str n], .box [.str ap, .list RR zr], .row RR l]) (roundK [1, 2, 5, 9, 10, 11] [5] 1) = (r49t rs m i n ap zr l).get := by kernel_rfl
theorem wf49t (rs : List (List UInt8 × (Int × (Int × (Int × List UInt8))))) (m : Int) (n : List UInt8) (ap : List UInt8) (zr : List (List UInt8 × (Int × (Int × (Int × List UInt8))))) (I'' : List (List UInt8 × (Int × (Int × (Int × List UInt8)))) → Int → Prop) (m'' : List (List UInt8 × (Int × (Int × (Int × List UInt8)))) → Int → Nat) (r'' : Ex × St) (h : ∀ (l : List (List UInt8 × (Int × (Int × (Int × List UInt8))))) (i : Int), I'' l i → (r49t rs m i n ap zr l).all fun x'' => x'' = .inr r'' ∨ ∃ (l' : List (List UInt8 × (Int × (Int × (Int × List UInt8))))) (i' : Int), x'' = .inl (stOf [1, 2, 5, 9, 10, 11] [.fn 50 [.ptr 0 0], .ptr 1 0, .rowA 2, .list RR rs, .int .i64 m, .int .i64 i'] [.box [.str n], .box [.str ap, .list RR zr], .row RR l']) ∧ I'' l' i' ∧ m'' l' i' < m'' l i) (lp : Lp) (l : List (List UInt8 × (Int × (Int × (Int × List UInt8))))) (i : Int) : I'' l i →
    loopF (fun st => evC T0 (orcB [fs31w] [os50]) lp b49t 0 st (roundK [1, 2, 5, 9, 10, 11] [5] 1)) (stOf [1, 2, 5, 9, 10, 11] [.fn 50 [.ptr 0 0], .ptr 1 0, .rowA 2, .list RR rs, .int .i64 m, .int .i64 i] [.box [.str n], .box [.str ap, .list RR zr], .row RR l]) = some r'' :=
  loop_tr (fun a'' : List (List UInt8 × (Int × (Int × (Int × List UInt8)))) × Int => stOf [1, 2, 5, 9, 10, 11] [.fn 50 [.ptr 0 0], .ptr 1 0, .rowA 2, .list RR rs, .int .i64 m, .int .i64 a''.2] [.box [.str n], .box [.str ap, .list RR zr], .row RR a''.1]) (fun a'' => I'' a''.1 a''.2) (fun a'' => m'' a''.1 a''.2) r'' (fun a'' => r49t rs m a''.2 n ap zr a''.1)
    (fun a'' x hx => (round49t lp rs m a''.2 n ap zr a''.1).trans hx) (fun a'' ha => Tr.all_mono (fun x'' hx => hx.imp id fun ⟨l', i', h1, h2, h3⟩ => ⟨(l', i'), h1, h2, h3⟩) (h (a''.1) (a''.2) ha)) (l, i)
theorem loop49t : ls49t.Ok T0 (orcB [fs31w] [os50]) h49 1 0 b49t := by
  intro q'' hq'' x'' y'' r'' h
  obtain ⟨(rs : List (List UInt8 × (Int × (Int × (Int × List UInt8))))), (m : Int), (i : Int), _⟩ := x''
  obtain ⟨⟨(n : List UInt8), _⟩, ⟨(ap : List UInt8), (zr : List (List UInt8 × (Int × (Int × (Int × List UInt8))))), _⟩, (l : List (List UInt8 × (Int × (Int × (Int × List UInt8))))), _⟩ := y''
  obtain ⟨hc, rfl⟩ := Tr.get_on h
  show loopF (fun st => evC T0 (orcB [fs31w] [os50]) (lpN T0 (orcB [fs31w] [os50]) h49 1 q'') b49t 0 st (roundK [1, 2, 5, 9, 10, 11] [5] 1)) (stOf [1, 2, 5, 9, 10, 11] [.fn 50 [.ptr 0 0], .ptr 1 0, .rowA 2, .list RR rs, .int .i64 m, .int .i64 i] [.box [.str n], .box [.str ap, .list RR zr], .row RR l]) = some (.exit 0, stOf [5] ([.rowA 1]) ([.box [.str n], .row RR (ownV ap (undF n) rs)]))
  simp only [ownT, ownC, Bool.and_eq_true, decide_eq_true_eq, List.isEmpty_iff] at hc
  obtain ⟨hn, hap, hrs, rfl, rfl, rfl⟩ := hc
  have hl := smR_len hrs
  refine wf49t rs rs.length n ap zr (fun l i => 0 ≤ i ∧ i ≤ rs.length ∧ l ++ ownV ap (undF n) (rs.drop i.toNat) = ownV ap (undF n) rs) (fun l i => (rs.length - i).toNat) _ ?_ _ [] 0 ⟨by omega, by omega, rfl⟩
  rintro l i ⟨h0, h1, he⟩
  have hll : l.length ≤ 1000000 := by
    have := ownV_len (ap := ap) (f := undF n) (rs := rs)
    rw [← he, List.length_append] at this
    omega
  unfold r49t
  rw [wrap_succ h0 h1 (by omega)]
  by_cases hi : i < rs.length
  · have hsm := smR_get hrs (k := i.toNat) (by omega) (Ty.dflt RR)
    rw [ownV_next (k := i.toNat) (by omega) (Ty.dflt RR)] at he
    generalize rs.getD i.toNat (Ty.dflt RR) = x at *
    refine Tr.all_t (dec_true hi) (Tr.all_t (dec_true h0) (Tr.all_t (dec_true hi) (Tr.all_t (by rw [hsm, hap]; rfl) (Tr.all_br (fun hu => Tr.all_t (by rw [hsm, hn]; rfl) (Tr.all_br (fun hf => Tr.all_t (fits_true (by omega) (by omega)) ?_) fun hf => ?_)) fun hu => ?_))))
    all_goals rw [hu] at he
    all_goals try rw [show undF n x = undV x.1 n from rfl, hf] at he
    all_goals refine Tr.all_ret (.inr ⟨_, _, rfl, ⟨by omega, by omega, ?_⟩, by omega⟩)
    all_goals rw [show (i + 1).toNat = i.toNat + 1 by omega]
    · rw [← he]; simp
    · rw [← he]; simp
    · rw [← he]; simp
  · refine Tr.all_f (dec_false hi) (Tr.all_ret (.inl ?_))
    rw [show i.toNat = rs.length by omega, List.drop_length] at he
    rw [← he]
    simp [ownV]
def t49t (z : (List UInt8 × List (List UInt8 × (Int × (Int × (Int × List UInt8)))))) (n : List UInt8) : Tr Res := Tr.br (ownT (Prod.fst z) n (Prod.snd z) [] (↑(List.length (Prod.snd z)) : Int) (0 : Int)) (Tr.ret ([AV.rowA 1], [LObj.boxT none [AV.str n], LObj.row RR (ownV (Prod.fst z) (undF n) (Prod.snd z))])) Tr.no
def os49t : OSpec := { f := 49, sh := [.d ZN true, .fnp 50 [(0, 0)]], so := [.box [.d .str false]], F := fun (z, _) ((n, _), _) => t49t z n }
set_option maxRecDepth 1000000 in
theorem fn49t (z : (List UInt8 × List (List UInt8 × (Int × (Int × (Int × List UInt8)))))) (n : List UInt8) : evC T0 (orcB [fs31w] [os50]) (lpOf (hOwn h49) 1 (lsOf [ls49t])) c49 1000000 (startSt [AV.ofTy ZN z true, .fn 50 [.ptr 0 0]] [.box [.str n]] Try.f49.ntmps) (finishK T0 true 1 Try.f49) = (t49t z n).get := by kernel_rfl
theorem ok49t : os49t.Ok Try.prog := by
  refine os_ok mixed0 tab0 (orcB_sound (all_cons okf31w all_nil) (all_cons ok50 all_nil)) (hOwn h49) (d := 0) (n0 := 1) (S := lsOf [ls49t]) Try.func49 (by kernel_rfl) (c := c49) (by kernel_rfl) rfl (loops_eq (xs := [(0, b49t)]) (by kernel_rfl) (all_cons (ls_here loop49t) all_nil)) (by omega) (by kernel_rfl) ?_
  intro x'' y'' q'' hq''
  obtain ⟨(z : (List UInt8 × List (List UInt8 × (Int × (Int × (Int × List UInt8)))))), _⟩ := x''
  obtain ⟨⟨(n : List UInt8), _⟩, _⟩ := y''
  exact (fn49t z n).trans hq''
def t19 (z : (List UInt8 × List (List UInt8 × (Int × (Int × (Int × List UInt8)))))) (n : List UInt8) : Tr Res := Tr.br (n == Prod.fst z) (Tr.ret ([AV.bool true], [])) (Tr.br (ownT (Prod.fst z) n (Prod.snd z) [] (↑(List.length (Prod.snd z)) : Int) (0 : Int)) (Tr.ret ([AV.bool (decide ((↑(List.length (ownV (Prod.fst z) (undF n) (Prod.snd z))) : Int) > (0 : Int)))], [])) Tr.no)
def os19 : OSpec := { f := 19, sh := [.d ZN true, .d .str false], so := [], F := fun (z, n, _) _ => t19 z n }
set_option maxRecDepth 1000000 in
theorem fn19 (z : (List UInt8 × List (List UInt8 × (Int × (Int × (Int × List UInt8)))))) (n : List UInt8) : evC T0 (orcB [] [os49t]) (lpOf h19 0 (lsOf [])) c19 1000000 (startSt [AV.ofTy ZN z true, .str n] [] Try.f19.ntmps) (finishK T0 false 0 Try.f19) = (t19 z n).get := by kernel_rfl
theorem ok19 : os19.Ok Try.prog := by
  refine os_ok mixed0 tab0 (orcB_sound all_nil (all_cons ok49t all_nil)) h19 (d := 0) (n0 := 0) (S := lsOf []) Try.func19 (by kernel_rfl) (c := c19) (by kernel_rfl) rfl (no_loops (by kernel_rfl)) (by omega) (by kernel_rfl) ?_
  intro x'' y'' q'' hq''
  obtain ⟨(z : (List UInt8 × List (List UInt8 × (Int × (Int × (Int × List UInt8)))))), (n : List UInt8), _⟩ := x''
  exact (fn19 z n).trans hq''
def fs19 : FSpec := fsT 19 [(ZN, true), (.str, false)] [(.bool, false)] fun (z, n, _) => t19 z n
theorem okf19 : fs19.Ok Try.prog := fsT_ok fun x'' r'' hr'' => ok19 x'' () r'' hr''
def thereV (z : ZNt) (n : List UInt8) : Bool := n == z.1 || !(ownV z.1 (undF n) z.2).isEmpty
def fs19w : FSpec := fs19.like fun (z, n, _) => .on (smZ z && smN n) (thereV z n, ())
theorem okf19w : fs19w.Ok Try.prog := by
  refine flike_ok okf19 _ ?_
  rintro ⟨(z : ZNt), (n : List UInt8), _⟩ y h
  obtain ⟨hb, rfl⟩ := Tr.get_on h
  obtain ⟨hz, hn⟩ := Bool.and_eq_true_iff.1 (show (smZ z && smN n) = true from hb)
  refine convR_of (vs := [.bool (thereV z n)]) rfl rfl (Tr.get_of_all ?_)
  show (t19 z n).all _
  unfold t19 thereV
  refine Tr.all_br (fun h => Tr.all_ret (by rw [h]; rfl)) fun h => Tr.all_t (by unfold ownT; rw [hn, ownC_of hz]; rfl) (Tr.all_ret ?_)
  rw [h, Bool.false_or]
  cases ownV z.1 (undF n) z.2 <;> simp
end Go.Proofs.YtkobjdhbfepkaaaE
namespace Go.Proofs.YtkobjdhbfepkaaaE
open Go Go.Proofs.YtkobjdhbfepkaaaB
set_option linter.unusedVariables false
set_option linter.unusedSimpArgs false
set_option maxRecDepth 100000
def apx (l : List ZNt) (i : Nat) : List UInt8 := (l.getD i (Ty.dflt ZN)).1
def bestStep (l : List ZNt) (n : List UInt8) (k : Nat) (b : Int) : Int := if undV n (apx l k) = true ∧ (b < 0 ∨ depV (apx l k) > depV (apx l b.toNat)) then (k : Int) else b
def bestAt (l : List ZNt) (n : List UInt8) : Nat → Int
  | 0 => -1
  | k + 1 => bestStep l n k (bestAt l n k)
def bestV (l : List ZNt) (n : List UInt8) : Int := bestAt l n l.length
def smL (l : List ZNt) : Bool := Nat.ble l.length 1000000 && l.all fun z => smN z.1
def bestC (l l2 : List ZNt) (n : List UInt8) (m i b : Int) : Bool := smL l && (smN n && (decide (m = (l.length : Int)) && (decide (i = 0) && (decide (b = -1) && decide (l2 = l)))))
theorem smL_len {l : List ZNt} (h : smL l = true) : l.length ≤ 1000000 := by
  unfold smL at h
  rw [Bool.and_eq_true] at h
  exact Nat.le_of_ble_eq_true h.1
theorem smL_get {l : List ZNt} (h : smL l = true) {k : Nat} (hk : k < l.length) : smN (apx l k) = true := by
  unfold smL at h
  rw [Bool.and_eq_true, List.all_eq_true] at h
  refine h.2 _ ?_
  rw [List.getD_eq_getElem?_getD, List.getElem?_eq_getElem hk]
  exact List.getElem_mem hk
theorem smN_big {n : List UInt8} (h : smN n = true) : bigS n = true := len_big (by have := smN_iff.1 h; omega)
theorem bestAt_lt (l : List ZNt) (n : List UInt8) : ∀ k : Nat, -1 ≤ bestAt l n k ∧ bestAt l n k < k ∨ k = 0 ∧ bestAt l n k = -1
  | 0 => .inr ⟨rfl, rfl⟩
  | k + 1 => by
    refine .inl ?_
    unfold bestAt bestStep
    split
    · omega
    · rcases bestAt_lt l n k with h | h <;> omega
noncomputable def b24 : Code := nthLoop c24 0
def ls24 : LoopSpec := { bid := 0, sh := [.d (.list ZN) false, .d .str false, .d (.int .i64) false, .d (.list ZN) false, .d (.int .i64) false, .d (.int .i64) false], so := [], F := fun (l, n, b, l2, m, i, _) _ => .on (bestC l l2 n m i b) (.exit 0, [.int .i64 (bestV l n)], []) }
def r24 (l : List (List UInt8 × List (List UInt8 × (Int × (Int × (Int × List UInt8)))))) (n : List UInt8) (b : Int) (l2 : List (List UInt8 × List (List UInt8 × (Int × (Int × (Int × List UInt8)))))) (m : Int) (i : Int) : Tr (St ⊕ (Ex × St)) := Tr.br (decide (i < m)) (Tr.br (decide ((0 : Int) ≤ i)) (Tr.br (decide (i < (↑(List.length l2) : Int))) (Tr.br (smN n && smN (Prod.fst (List.getD l2 (Int.toNat i) (Ty.dflt ZN)))) (Tr.br (undV n (Prod.fst (List.getD l2 (Int.toNat i) (Ty.dflt ZN)))) (Tr.br (decide (b < (0 : Int))) (Tr.ret (Sum.inl (stOf [0, 1, 5, 8, 9, 10] [AV.list ZN l, AV.str n, AV.int IntKind.i64 i, AV.list ZN l2, AV.int IntKind.i64 m, AV.int IntKind.i64 (IntKind.wrap IntKind.i64 (i + (1 : Int)))] []))) (Tr.br (bigS (Prod.fst (List.getD l2 (Int.toNat i) (Ty.dflt ZN)))) (Tr.br (decide ((0 : Int) ≤ b)) (Tr.br (decide (b < (↑(List.length l) : Int))) (Tr.br (bigS (Prod.fst (List.getD l (Int.toNat b) (Ty.dflt ZN)))) (Tr.br (decide (depV (Prod.fst (List.getD l2 (Int.toNat i) (Ty.dflt ZN))) > depV (Prod.fst (List.getD l (Int.toNat b) (Ty.dflt ZN))))) (Tr.ret (Sum.inl (stOf [0, 1, 5, 8, 9, 10] [AV.list ZN l, AV.str n, AV.int IntKind.i64 i, AV.list ZN l2, AV.int IntKind.i64 m, AV.int IntKind.i64 (IntKind.wrap IntKind.i64 (i + (1 : Int)))] []))) (Tr.ret (Sum.inl (stOf [0, 1, 5, 8, 9, 10] [AV.list ZN l, AV.str n, AV.int IntKind.i64 b, AV.list ZN l2, AV.int IntKind.i64 m, AV.int IntKind.i64 (IntKind.wrap IntKind.i64 (i + (1 : Int)))] [])))) Tr.no) Tr.no) Tr.no) Tr.no)) (Tr.ret (Sum.inl (stOf [0, 1, 5, 8, 9, 10] [AV.list ZN l, AV.str n, AV.int IntKind.i64 b, AV.list ZN l2, AV.int IntKind.i64 m, AV.int IntKind.i64 (IntKind.wrap IntKind.i64 (i + (1 : Int)))] [])))) Tr.no) Tr.no) Tr.no) (Tr.ret (Sum.inr (Ex.exit 0, stOf [5] [AV.int IntKind.i64 b] [])))
set_option maxRecDepth 1000000 in
theorem round24 (lp : Lp) (l : List (List UInt8 × List (List UInt8 × (Int × (Int × (Int × List UInt8)))))) (n : List UInt8) (b : Int) (l2 : List (List UInt8 × List (List UInt8 × (Int × (Int × (Int × List UInt8)))))) (m : Int) (i : Int) : evC T0 (orcB [fs31w, fs32w] []) lp b24 0 (stOf [0, 1, 5, 8, 9, 10] [.list ZN l, .str n, .int .i64 b, .list ZN l2, .int .i64 m, .int .i64 i] []) (roundK [0, 1, 5, 8, 9, 10] [5] 0) = (r24 l n b l2 m i).get := by kernel_rfl
theorem wf24 (l : List (List UInt8 × List (List UInt8 × (Int × (Int × (Int × List UInt8)))))) (n : List UInt8) (l2 : List (List UInt8 × List (List UInt8 × (Int × (Int × (Int × List UInt8)))))) (m : Int) (I'' : Int → Int → Prop) (m'' : Int → Int → Nat) (r'' : Ex × St) (h : ∀ (b : Int) (i : Int), I'' b i → (r24 l n b l2 m i).all fun x'' => x'' = .inr r'' ∨ ∃ (b' : Int) (i' : Int), x'' = .inl (stOf [0, 1, 5, 8, 9, 10] [.list ZN l, .str n, .int .i64 b', .list ZN l2, .int .i64 m, .int .i64 i'] []) ∧ I'' b' i' ∧ m'' b' i' < m'' b i) (lp : Lp) (b : Int) (i : Int) : I'' b i →
    loopF (fun st => evC T0 (orcB [fs31w, fs32w] []) lp b24 0 st (roundK [0, 1, 5, 8, 9, 10] [5] 0)) (stOf [0, 1, 5, 8, 9, 10] [.list ZN l, .str n, .int .i64 b, .list ZN l2, .int .i64 m, .int .i64 i] []) = some r'' :=
  loop_tr (fun a'' : Int × Int => stOf [0, 1, 5, 8, 9, 10] [.list ZN l, .str n, .int .i64 a''.1, .list ZN l2, .int .i64 m, .int .i64 a''.2] []) (fun a'' => I'' a''.1 a''.2) (fun a'' => m'' a''.1 a''.2) r'' (fun a'' => r24 l n a''.1 l2 m a''.2)
    (fun a'' x hx => (round24 lp l n a''.1 l2 m a''.2).trans hx) (fun a'' ha => Tr.all_mono (fun x'' hx => hx.imp id fun ⟨b', i', h1, h2, h3⟩ => ⟨(b', i'), h1, h2, h3⟩) (h (a''.1) (a''.2) ha)) (b, i)
theorem loop24 : ls24.Ok T0 (orcB [fs31w, fs32w] []) h24 0 0 b24 := by
  intro q'' hq'' x'' y'' r'' h
  obtain ⟨(l : List (List UInt8 × List (List UInt8 × (Int × (Int × (Int × List UInt8)))))), (n : List UInt8), (b : Int), (l2 : List (List UInt8 × List (List UInt8 × (Int × (Int × (Int × List UInt8)))))), (m : Int), (i : Int), _⟩ := x''
  obtain ⟨hc, rfl⟩ := Tr.get_on h
  show loopF (fun st => evC T0 (orcB [fs31w, fs32w] []) (lpN T0 (orcB [fs31w, fs32w] []) h24 0 q'') b24 0 st (roundK [0, 1, 5, 8, 9, 10] [5] 0)) (stOf [0, 1, 5, 8, 9, 10] [.list ZN l, .str n, .int .i64 b, .list ZN l2, .int .i64 m, .int .i64 i] []) = some (.exit 0, stOf [5] ([.int .i64 (bestV l n)]) ([]))
  simp only [bestC, Bool.and_eq_true, decide_eq_true_eq] at hc
  obtain ⟨hs, hn, rfl, rfl, rfl, rfl⟩ := hc
  have hl := smL_len hs
  refine wf24 l2 n l2 l2.length (fun b i => 0 ≤ i ∧ i ≤ l2.length ∧ b = bestAt l2 n i.toNat) (fun b i => (l2.length - i).toNat) _ ?_ _ (-1) 0 ⟨by omega, by omega, rfl⟩
  rintro b i ⟨h0, h1, hb⟩
  unfold r24
  rw [wrap_succ h0 h1 (by omega), show Prod.fst (l2.getD i.toNat (Ty.dflt ZN)) = apx l2 i.toNat from rfl, show Prod.fst (l2.getD b.toNat (Ty.dflt ZN)) = apx l2 b.toNat from rfl]
  by_cases hi : i < l2.length
  · have hsm := smL_get hs (k := i.toNat) (by omega)
    have hst : bestAt l2 n (i + 1).toNat = bestStep l2 n i.toNat b := by rw [show (i + 1).toNat = i.toNat + 1 by omega, bestAt, ← hb]
    have hlt := bestAt_lt l2 n i.toNat
    rw [← hb] at hlt
    unfold bestStep at hst
    refine Tr.all_t (dec_true hi) (Tr.all_t (dec_true h0) (Tr.all_t (dec_true hi) (Tr.all_t (by rw [hn, hsm]; rfl) (Tr.all_br (fun hu => Tr.all_br (fun hz => ?_) fun hz => ?_) fun hu => ?_))))
    · rw [if_pos ⟨hu, .inl (of_decide_eq_true hz)⟩] at hst
      exact Tr.all_ret (.inr ⟨_, _, rfl, ⟨by omega, by omega, by rw [hst]; omega⟩, by omega⟩)
    · have hz := of_decide_eq_false hz
      refine Tr.all_t (smN_big hsm) (Tr.all_t (dec_true (by omega)) (Tr.all_t (dec_true (by omega)) (Tr.all_t (smN_big (smL_get hs (by omega))) (Tr.all_br (fun hd => ?_) fun hd => ?_))))
      · rw [if_pos ⟨hu, .inr (of_decide_eq_true hd)⟩] at hst
        exact Tr.all_ret (.inr ⟨_, _, rfl, ⟨by omega, by omega, by rw [hst]; omega⟩, by omega⟩)
      · rw [if_neg (fun h => h.2.elim hz (of_decide_eq_false hd))] at hst
        exact Tr.all_ret (.inr ⟨_, _, rfl, ⟨by omega, by omega, hst.symm⟩, by omega⟩)
    · rw [if_neg (fun h => by rw [hu] at h; cases h.1)] at hst
      exact Tr.all_ret (.inr ⟨_, _, rfl, ⟨by omega, by omega, hst.symm⟩, by omega⟩)
  · refine Tr.all_f (dec_false hi) (Tr.all_ret (.inl ?_))
    rw [hb, show i.toNat = l2.length by omega]
    rfl
def t24 (l : List (List UInt8 × List (List UInt8 × (Int × (Int × (Int × List UInt8)))))) (n : List UInt8) : Tr Res := Tr.br (bestC l l n (↑(List.length l) : Int) (0 : Int) (-1 : Int)) (Tr.ret ([AV.int IntKind.i64 (bestV l n)], [])) Tr.no
def os24 : OSpec := { f := 24, sh := [.d (.list ZN) false, .d .str false], so := [], F := fun (l, n, _) _ => t24 l n }
set_option maxRecDepth 1000000 in
theorem fn24 (l : List (List UInt8 × List (List UInt8 × (Int × (Int × (Int × List UInt8)))))) (n : List UInt8) : evC T0 (orcB [fs31w, fs32w] []) (lpOf h24 0 (lsOf [ls24])) c24 1000000 (startSt [.list ZN l, .str n] [] Try.f24.ntmps) (finishK T0 false 0 Try.f24) = (t24 l n).get := by kernel_rfl
theorem ok24 : os24.Ok Try.prog := by
  refine os_ok mixed0 tab0 (orcB_sound (all_cons okf31w (all_cons okf32w all_nil)) all_nil) h24 (d := 0) (n0 := 0) (S := lsOf [ls24]) Try.func24 (by kernel_rfl) (c := c24) (by kernel_rfl) rfl (loops_eq (xs := [(0, b24)]) (by kernel_rfl) (all_cons (ls_here loop24) all_nil)) (by omega) (by kernel_rfl) ?_
  intro x'' y'' q'' hq''
  obtain ⟨(l : List (List UInt8 × List (List UInt8 × (Int × (Int × (Int × List UInt8)))))), (n : List UInt8), _⟩ := x''
  exact (fn24 l n).trans hq''
def fs24 : FSpec := fsT 24 [((.list ZN), false), (.str, false)] [((.int .i64), false)] fun (l, n, _) => t24 l n
theorem okf24 : fs24.Ok Try.prog := fsT_ok fun x'' r'' hr'' => ok24 x'' () r'' hr''
def fs24w : FSpec := fs24.like fun (l, n, _) => .on (smL l && smN n) (bestV l n, ())
theorem okf24w : fs24w.Ok Try.prog := by
  refine flike_ok okf24 _ ?_
  rintro ⟨(l : List ZNt), (n : List UInt8), _⟩ y h
  obtain ⟨hb, rfl⟩ := Tr.get_on h
  obtain ⟨hl, hn⟩ := Bool.and_eq_true_iff.1 (show (smL l && smN n) = true from hb)
  refine convR_of (vs := [.int .i64 (bestV l n)]) rfl rfl (Tr.get_of_all ?_)
  show (t24 l n).all _
  unfold t24
  refine Tr.all_t ?_ (Tr.all_ret rfl)
  unfold bestC
  rw [hl, hn, decide_eq_true rfl, decide_eq_true rfl, decide_eq_true rfl, decide_eq_true rfl]
  rfl
def atD (l : List ZNt) (n : List UInt8) (e : Int) (k : Nat) : Bool := undV n (apx l k) && (depV (apx l k) == e)
def fstD (l : List ZNt) (n : List UInt8) (e : Int) (k : Nat) : Int := if h : k < l.length then (if atD l n e k = true then (k : Int) else fstD l n e (k + 1)) else -1
termination_by l.length - k
def bestR (l : List ZNt) (n : List UInt8) : Nat → Int
  | 0 => -1
  | e + 1 => if fstD l n e 0 < 0 then bestR l n e else fstD l n e 0
def IsBest (l : List ZNt) (n : List UInt8) (k : Nat) (b : Int) : Prop :=
  (b = -1 ∧ ∀ j, j < k → undV n (apx l j) = false) ∨ (0 ≤ b ∧ b < k ∧ undV n (apx l b.toNat) = true ∧ (∀ j, j < k → undV n (apx l j) = true → depV (apx l j) ≤ depV (apx l b.toNat)) ∧ ∀ j : Nat, (j : Int) < b → undV n (apx l j) = true → depV (apx l j) < depV (apx l b.toNat))
theorem bestAt_is (l : List ZNt) (n : List UInt8) : ∀ k, IsBest l n k (bestAt l n k)
  | 0 => .inl ⟨rfl, fun j h => by omega⟩
  | k + 1 => by
    have ih := bestAt_is l n k
    rw [bestAt]
    generalize bestAt l n k = b at ih
    unfold bestStep
    by_cases hu : undV n (apx l k) = true
    · rcases ih with ⟨rfl, h1⟩ | ⟨h0, h1, h2, h3, h4⟩
      · rw [if_pos ⟨hu, .inl (by omega)⟩]
        refine .inr ⟨by omega, by omega, by simpa using hu, fun j hj hju => ?_, fun j hj hju => ?_⟩
        · rcases Nat.eq_or_lt_of_le (Nat.lt_succ_iff.1 hj) with rfl | hj
          · simp
          · rw [h1 j hj] at hju; cases hju
        · rw [h1 j (by omega)] at hju; cases hju
      · by_cases hd : depV (apx l k) > depV (apx l b.toNat)
        · rw [if_pos ⟨hu, .inr hd⟩]
          refine .inr ⟨by omega, by omega, by simpa using hu, fun j hj hju => ?_, fun j hj hju => ?_⟩
          · rcases Nat.eq_or_lt_of_le (Nat.lt_succ_iff.1 hj) with rfl | hj
            · simp
            · have := h3 j hj hju; simp; omega
          · have := h3 j (by omega) hju; simp; omega
        · rw [if_neg (by rintro ⟨_, h | h⟩ <;> omega)]
          refine .inr ⟨h0, by omega, h2, fun j hj hju => ?_, h4⟩
          rcases Nat.eq_or_lt_of_le (Nat.lt_succ_iff.1 hj) with rfl | hj
          · omega
          · exact h3 j hj hju
    · rw [if_neg (fun h => hu h.1)]
      have hu : undV n (apx l k) = false := by simpa using hu
      rcases ih with ⟨rfl, h1⟩ | ⟨h0, h1, h2, h3, h4⟩
      · refine .inl ⟨rfl, fun j hj => ?_⟩
        rcases Nat.eq_or_lt_of_le (Nat.lt_succ_iff.1 hj) with rfl | hj
        · exact hu
        · exact h1 j hj
      · refine .inr ⟨h0, by omega, h2, fun j hj hju => ?_, h4⟩
        rcases Nat.eq_or_lt_of_le (Nat.lt_succ_iff.1 hj) with rfl | hj
        · rw [hu] at hju; cases hju
        · exact h3 j hj hju
theorem IsBest.one {l : List ZNt} {n : List UInt8} {k : Nat} {a b : Int} (ha : IsBest l n k a) (hb : IsBest l n k b) : a = b := by
  rcases ha with ⟨rfl, h1⟩ | ⟨a0, a1, a2, a3, a4⟩
  · rcases hb with ⟨rfl, _⟩ | ⟨b0, b1, b2, _, _⟩
    · rfl
    · rw [h1 b.toNat (by omega)] at b2; cases b2
  · rcases hb with ⟨rfl, h1⟩ | ⟨b0, b1, b2, b3, b4⟩
    · rw [h1 a.toNat (by omega)] at a2; cases a2
    · have h1 := a3 b.toNat (by omega) b2
      have h2 := b3 a.toNat (by omega) a2
      rcases Int.lt_trichotomy a b with h | h | h
      · have := b4 a.toNat (by omega) a2; omega
      · exact h
      · have := a4 b.toNat (by omega) b2; omega
end Go.Proofs.YtkobjdhbfepkaaaE
namespace Go.Proofs.YtkobjdhbfepkaaaE
open Go Go.Proofs.YtkobjdhbfepkaaaB
set_option linter.unusedVariables false
set_option linter.unusedSimpArgs false
set_option maxRecDepth 100000
def rbC (l : List ZNt) (n : List UInt8) (i : Int) : Bool := smL l && (smN n && decide (i = 0))
noncomputable def b25i : Code := nthLoop (nthLoop c25 0) 0
def ls25i : LoopSpec := { bid := 2, sh := [.d (.list ZN) false, .d .str false, .d (.int .i64) false, .d (.int .i64) false], so := [], F := fun (l, n, e, i, _) _ => .on2 (rbC l n i) (decide (fstD l n e 0 < 0)) (.exit 2, [.list ZN l, .str n, .dead, .int .i64 e], []) (.ret, [.list ZN l, .str n, .int .i64 (fstD l n e 0), .int .i64 e], []) }
def r25i (l : List (List UInt8 × List (List UInt8 × (Int × (Int × (Int × List UInt8)))))) (n : List UInt8) (e : Int) (i : Int) : Tr (St ⊕ (Ex × St)) := Tr.br (decide (i < (↑(List.length l) : Int))) (Tr.br (decide ((0 : Int) ≤ i)) (Tr.br (decide (i < (↑(List.length l) : Int))) (Tr.br (smN n && smN (Prod.fst (List.getD l (Int.toNat i) (Ty.dflt ZN)))) (Tr.br (undV n (Prod.fst (List.getD l (Int.toNat i) (Ty.dflt ZN)))) (Tr.br (decide ((0 : Int) ≤ i)) (Tr.br (decide (i < (↑(List.length l) : Int))) (Tr.br (bigS (Prod.fst (List.getD l (Int.toNat i) (Ty.dflt ZN)))) (Tr.br (depV (Prod.fst (List.getD l (Int.toNat i) (Ty.dflt ZN))) == e) (Tr.ret (Sum.inr (Ex.ret, stOf [0, 1, 4, 5] [AV.list ZN l, AV.str n, AV.int IntKind.i64 i, AV.int IntKind.i64 e] []))) (Tr.ret (Sum.inl (stOf [0, 1, 5, 6] [AV.list ZN l, AV.str n, AV.int IntKind.i64 e, AV.int IntKind.i64 (IntKind.wrap IntKind.i64 (i + (1 : Int)))] [])))) Tr.no) Tr.no) Tr.no) (Tr.ret (Sum.inl (stOf [0, 1, 5, 6] [AV.list ZN l, AV.str n, AV.int IntKind.i64 e, AV.int IntKind.i64 (IntKind.wrap IntKind.i64 (i + (1 : Int)))] [])))) Tr.no) Tr.no) Tr.no) (Tr.ret (Sum.inr (Ex.exit 2, stOf [0, 1, 4, 5] [AV.list ZN l, AV.str n, AV.dead, AV.int IntKind.i64 e] [])))
set_option maxRecDepth 1000000 in
theorem round25i (lp : Lp) (l : List (List UInt8 × List (List UInt8 × (Int × (Int × (Int × List UInt8)))))) (n : List UInt8) (e : Int) (i : Int) : evC T0 (orcB [fs44w, fs46w] []) lp b25i 2 (stOf [0, 1, 5, 6] [.list ZN l, .str n, .int .i64 e, .int .i64 i] []) (roundK [0, 1, 5, 6] [0, 1, 4, 5] 0) = (r25i l n e i).get := by kernel_rfl
def rbO (l : List ZNt) (n : List UInt8) (e : Int) : Bool := smL l && (smN n && decide (e = 127))
noncomputable def b25o : Code := nthLoop c25 0
def ls25o : LoopSpec := { bid := 0, sh := [.d (.list ZN) false, .d .str false, .d (.int .i64) false], so := [], F := fun (l, n, e, _) _ => .on2 (rbO l n e) (decide (bestR l n 128 < 0)) (.exit 0, [.dead], []) (.ret, [.int .i64 (bestR l n 128)], []) }
def r25o (l : List (List UInt8 × List (List UInt8 × (Int × (Int × (Int × List UInt8)))))) (n : List UInt8) (e : Int) : Tr (St ⊕ (Ex × St)) := Tr.br (decide (e ≥ (0 : Int))) (Tr.br (rbC l n (0 : Int)) (Tr.br (decide (fstD l n e 0 < (0 : Int))) (Tr.ret (Sum.inl (stOf [0, 1, 5] [AV.list ZN l, AV.str n, AV.int IntKind.i64 (IntKind.wrap IntKind.i64 (e - (1 : Int)))] []))) (Tr.ret (Sum.inr (Ex.ret, stOf [4] [AV.int IntKind.i64 (fstD l n e 0)] [])))) Tr.no) (Tr.ret (Sum.inr (Ex.exit 0, stOf [4] [AV.dead] [])))
set_option maxRecDepth 1000000 in
theorem round25o (l : List (List UInt8 × List (List UInt8 × (Int × (Int × (Int × List UInt8)))))) (n : List UInt8) (e : Int) : evC T0 (orcB [fs44w, fs46w] []) (lpOf h25 0 (lsOf [ls25i])) b25o 0 (stOf [0, 1, 5] [.list ZN l, .str n, .int .i64 e] []) (roundK [0, 1, 5] [4] 0) = (r25o l n e).get := by kernel_rfl
def t25 (l : List (List UInt8 × List (List UInt8 × (Int × (Int × (Int × List UInt8)))))) (n : List UInt8) : Tr Res := Tr.br (rbO l n (127 : Int)) (Tr.br (decide (bestR l n 128 < (0 : Int))) (Tr.ret ([AV.int IntKind.i64 (-1 : Int)], [])) (Tr.ret ([AV.int IntKind.i64 (bestR l n 128)], []))) Tr.no
set_option maxRecDepth 1000000 in
theorem fn25 (l : List (List UInt8 × List (List UInt8 × (Int × (Int × (Int × List UInt8)))))) (n : List UInt8) : evC T0 (orcB [fs44w, fs46w] []) (lpOf h25 0 (lsOf [ls25o])) c25 1000000 (startSt [.list ZN l, .str n] [] Try.f25.ntmps) (finishK T0 false 0 Try.f25) = (t25 l n).get := by kernel_rfl
def fs25 : FSpec := fsT 25 [((.list ZN), false), (.str, false)] [((.int .i64), false)] fun (l, n, _) => t25 l n
def fs25w : FSpec := fs25.like fun (l, n, _) => .on (smL l && smN n) (bestV l n, ())
end Go.Proofs.YtkobjdhbfepkaaaE
namespace Go.Proofs.YtkobjdhbfepkaaaE
open Go Go.Proofs.YtkobjdhbfepkaaaB
set_option linter.unusedVariables false
set_option linter.unusedSimpArgs false
set_option maxRecDepth 100000
def roC (ap : List UInt8) (zr l : List RRt) (i : Int) : Bool := smN ap && (smR zr && (l.isEmpty && decide (i = 0)))
noncomputable def b48 : Code := nthLoop c48 0
def ls48 : LoopSpec := { bid := 0, sh := [.d .str false, .d (.int .u16) false, .ptr 0 0, .row 1, .d (.int .i64) false], so := [.box [.d .str false, .d (.list RR) false], .row RR], F := fun (n, kind, i, _) ((ap, zr, _), l, _) => .on (roC ap zr l i) (.exit 0, [.rowA 0], [.row RR (ownV ap (isOf n kind) zr)]) }
def r48 (n : List UInt8) (kind : Int) (i : Int) (ap : List UInt8) (zr : List (List UInt8 × (Int × (Int × (Int × List UInt8))))) (l : List (List UInt8 × (Int × (Int × (Int × List UInt8))))) : Tr (St ⊕ (Ex × St)) := Tr.br (decide (i < (↑(List.length zr) : Int))) (Tr.br (decide ((0 : Int) ≤ i)) (Tr.br (decide (i < (↑(List.length zr) : Int))) (Tr.br (Prod.fst (List.getD zr (Int.toNat i) (Ty.dflt RR)) == n) (Tr.br (Prod.fst (Prod.snd (List.getD zr (Int.toNat i) (Ty.dflt RR))) == kind) (Tr.br (smN (Prod.fst (List.getD zr (Int.toNat i) (Ty.dflt RR))) && smN ap) (Tr.br (undV (Prod.fst (List.getD zr (Int.toNat i) (Ty.dflt RR))) ap) (Tr.br (fits (List.length l + 1) 40) (Tr.ret (Sum.inl (stOf [1, 2, 3, 7, 8] [AV.str n, AV.int IntKind.u16 kind, AV.ptr 0 0, AV.rowA 1, AV.int IntKind.i64 (IntKind.wrap IntKind.i64 (i + (1 : Int)))] [LObj.boxT none [AV.str ap, AV.list RR zr], LObj.row RR (l ++ [List.getD zr (Int.toNat i) (Ty.dflt RR)])]))) Tr.no) (Tr.ret (Sum.inl (stOf [1, 2, 3, 7, 8] [AV.str n, AV.int IntKind.u16 kind, AV.ptr 0 0, AV.rowA 1, AV.int IntKind.i64 (IntKind.wrap IntKind.i64 (i + (1 : Int)))] [LObj.boxT none [AV.str ap, AV.list RR zr], LObj.row RR l])))) Tr.no) (Tr.ret (Sum.inl (stOf [1, 2, 3, 7, 8] [AV.str n, AV.int IntKind.u16 kind, AV.ptr 0 0, AV.rowA 1, AV.int IntKind.i64 (IntKind.wrap IntKind.i64 (i + (1 : Int)))] [LObj.boxT none [AV.str ap, AV.list RR zr], LObj.row RR l])))) (Tr.ret (Sum.inl (stOf [1, 2, 3, 7, 8] [AV.str n, AV.int IntKind.u16 kind, AV.ptr 0 0, AV.rowA 1, AV.int IntKind.i64 (IntKind.wrap IntKind.i64 (i + (1 : Int)))] [LObj.boxT none [AV.str ap, AV.list RR zr], LObj.row RR l])))) Tr.no) Tr.no) (Tr.ret (Sum.inr (Ex.exit 0, stOf [7] [AV.rowA 0] [LObj.row RR l])))
set_option maxRecDepth 1000000 in
theorem round48 (lp : Lp) (n : List UInt8) (kind : Int) (i : Int) (ap : List UInt8) (zr : List (List UInt8 × (Int × (Int × (Int × List UInt8))))) (l : List (List UInt8 × (Int × (Int × (Int × List UInt8))))) : evC T0 (orcB [fs44w] []) lp b48 0 (stOf [1, 2, 3, 7, 8] [.str n, .int .u16 kind, .ptr 0 0, .rowA 1, .int .i64 i] [.box [.str ap, .list RR zr], .row RR l]) (roundK [1, 2, 3, 7, 8] [7] 0) = (r48 n kind i ap zr l).get := by kernel_rfl
def rtC (ap n : List UInt8) (zr : List RRt) (i : Int) : Bool := smN ap && (smR zr && (smN n && decide (i = 0)))
noncomputable def b20 : Code := nthLoop c20 0
def ls20 : LoopSpec := { bid := 0, sh := [.d .str false, .ptr 0 0, .d (.int .i64) false], so := [.box [.d .str false, .d (.list RR) false]], F := fun (n, i, _) ((ap, zr, _), _) => .on2 (rtC ap n zr i) ((ownV ap (undF n) zr).isEmpty) (.exit 0, [.dead], []) (.ret, [.bool true], []) }
def r20 (n : List UInt8) (i : Int) (ap : List UInt8) (zr : List (List UInt8 × (Int × (Int × (Int × List UInt8))))) : Tr (St ⊕ (Ex × St)) := Tr.br (decide (i < (↑(List.length zr) : Int))) (Tr.br (decide ((0 : Int) ≤ i)) (Tr.br (decide (i < (↑(List.length zr) : Int))) (Tr.br (smN (Prod.fst (List.getD zr (Int.toNat i) (Ty.dflt RR))) && smN ap) (Tr.br (undV (Prod.fst (List.getD zr (Int.toNat i) (Ty.dflt RR))) ap) (Tr.br (decide ((0 : Int) ≤ i)) (Tr.br (decide (i < (↑(List.length zr) : Int))) (Tr.br (smN (Prod.fst (List.getD zr (Int.toNat i) (Ty.dflt RR))) && smN n) (Tr.br (undV (Prod.fst (List.getD zr (Int.toNat i) (Ty.dflt RR))) n) (Tr.ret (Sum.inr (Ex.ret, stOf [4] [AV.bool true] []))) (Tr.ret (Sum.inl (stOf [1, 2, 5] [AV.str n, AV.ptr 0 0, AV.int IntKind.i64 (IntKind.wrap IntKind.i64 (i + (1 : Int)))] [LObj.boxT none [AV.str ap, AV.list RR zr]])))) Tr.no) Tr.no) Tr.no) (Tr.ret (Sum.inl (stOf [1, 2, 5] [AV.str n, AV.ptr 0 0, AV.int IntKind.i64 (IntKind.wrap IntKind.i64 (i + (1 : Int)))] [LObj.boxT none [AV.str ap, AV.list RR zr]])))) Tr.no) Tr.no) Tr.no) (Tr.ret (Sum.inr (Ex.exit 0, stOf [4] [AV.dead] [])))
set_option maxRecDepth 1000000 in
theorem round20 (lp : Lp) (n : List UInt8) (i : Int) (ap : List UInt8) (zr : List (List UInt8 × (Int × (Int × (Int × List UInt8))))) : evC T0 (orcB [fs44w] []) lp b20 0 (stOf [1, 2, 5] [.str n, .ptr 0 0, .int .i64 i] [.box [.str ap, .list RR zr]]) (roundK [1, 2, 5] [4] 0) = (r20 n i ap zr).get := by kernel_rfl
def t48 (z : (List UInt8 × List (List UInt8 × (Int × (Int × (Int × List UInt8)))))) (n : List UInt8) (kind : Int) : Tr Res := Tr.br (roC (Prod.fst z) (Prod.snd z) [] (0 : Int)) (Tr.ret ([AV.list RR (ownV (Prod.fst z) (isOf n kind) (Prod.snd z))], [])) Tr.no
set_option maxRecDepth 1000000 in
theorem fn48 (z : (List UInt8 × List (List UInt8 × (Int × (Int × (Int × List UInt8)))))) (n : List UInt8) (kind : Int) : evC T0 (orcB [fs44w] []) (lpOf h48 0 (lsOf [ls48])) c48 1000000 (startSt [AV.ofTy ZN z true, .str n, .int .u16 kind] [] Try.f48.ntmps) (finishK T0 false 0 Try.f48) = (t48 z n kind).get := by kernel_rfl
def fs48 : FSpec := fsT 48 [(ZN, true), (.str, false), ((.int .u16), false)] [((.list RR), false)] fun (z, n, kind, _) => t48 z n kind
def t20 (z : (List UInt8 × List (List UInt8 × (Int × (Int × (Int × List UInt8)))))) (n : List UInt8) : Tr Res := Tr.br (n == Prod.fst z) (Tr.ret ([AV.bool true], [])) (Tr.br (rtC (Prod.fst z) n (Prod.snd z) (0 : Int)) (Tr.br (List.isEmpty (ownV (Prod.fst z) (undF n) (Prod.snd z))) (Tr.ret ([AV.bool false], [])) (Tr.ret ([AV.bool true], []))) Tr.no)
set_option maxRecDepth 1000000 in
theorem fn20 (z : (List UInt8 × List (List UInt8 × (Int × (Int × (Int × List UInt8)))))) (n : List UInt8) : evC T0 (orcB [fs44w] []) (lpOf h20 0 (lsOf [ls20])) c20 1000000 (startSt [AV.ofTy ZN z true, .str n] [] Try.f20.ntmps) (finishK T0 false 0 Try.f20) = (t20 z n).get := by kernel_rfl
def fs20 : FSpec := fsT 20 [(ZN, true), (.str, false)] [(.bool, false)] fun (z, n, _) => t20 z n
def fs48w : FSpec := fs48.like fun (z, n, kind, _) => .on (smZ z) (ofV z n kind, ())
def fs20w : FSpec := fs20.like fun (z, n, _) => .on (smZ z && smN n) (thereV z n, ())
def rrB (x y : RRt) : Bool := x.1 == y.1 && (x.2.1 == y.2.1 && (x.2.2.1 == y.2.2.1 && (x.2.2.2.1 == y.2.2.2.1 && (x.2.2.2.2 == y.2.2.2.2 && true))))
theorem rrB_iff (x y : RRt) : rrB x y = decide (x = y) := by
  obtain ⟨a, b, c, d, e⟩ := x
  obtain ⟨a', b', c', d', e'⟩ := y
  unfold rrB
  by_cases h : (a, b, c, d, e) = (a', b', c', d', e')
  · rw [decide_eq_true h]
    cases h
    simp
  · rw [decide_eq_false h]
    simp only [Prod.mk.injEq] at h
    cases h1 : (a == a' && (b == b' && (c == c' && (d == d' && (e == e' && true)))))
    · rfl
    · simp only [Bool.and_eq_true, beq_iff_eq] at h1
      exact absurd ⟨h1.1, h1.2.1, h1.2.2.1, h1.2.2.2.1, h1.2.2.2.2.1⟩ h
def haC (l : List RRt) (i : Int) : Bool := Nat.ble l.length 1000000 && decide (i = 0)
def hasV (l : List RRt) (r : RRt) : Bool := l.any fun x => decide (x = r)
noncomputable def b54 : Code := nthLoop c54 0
def ls54 : LoopSpec := { bid := 0, sh := [.d (.list RR) false, .ptr 0 0, .d (.int .i64) false], so := [.box [.d .str false, .d (.int .u16) false, .d (.int .u16) false, .d (.int .u32) false, .d .str false]], F := fun (l, i, _) ((ra, rb, rc, rd, re, _), _) => .on2 (haC l i) (!hasV l (ra, rb, rc, rd, re)) (.exit 0, [.dead], []) (.ret, [.bool true], []) }
def r54 (l : List (List UInt8 × (Int × (Int × (Int × List UInt8))))) (i : Int) (ra : List UInt8) (rb : Int) (rc : Int) (rd : Int) (re : List UInt8) : Tr (St ⊕ (Ex × St)) := Tr.br (decide (i < (↑(List.length l) : Int))) (Tr.br (decide ((0 : Int) ≤ i)) (Tr.br (decide (i < (↑(List.length l) : Int))) (Tr.br (Prod.fst (List.getD l (Int.toNat i) (Ty.dflt RR)) == ra && (Prod.fst (Prod.snd (List.getD l (Int.toNat i) (Ty.dflt RR))) == rb && (Prod.fst (Prod.snd (Prod.snd (List.getD l (Int.toNat i) (Ty.dflt RR)))) == rc && (Prod.fst (Prod.snd (Prod.snd (Prod.snd (List.getD l (Int.toNat i) (Ty.dflt RR))))) == rd && (Prod.snd (Prod.snd (Prod.snd (Prod.snd (List.getD l (Int.toNat i) (Ty.dflt RR))))) == re && true))))) (Tr.ret (Sum.inr (Ex.ret, stOf [4] [AV.bool true] []))) (Tr.ret (Sum.inl (stOf [0, 3, 5] [AV.list RR l, AV.ptr 0 0, AV.int IntKind.i64 (IntKind.wrap IntKind.i64 (i + (1 : Int)))] [LObj.boxT none [AV.str ra, AV.int IntKind.u16 rb, AV.int IntKind.u16 rc, AV.int IntKind.u32 rd, AV.str re]])))) Tr.no) Tr.no) (Tr.ret (Sum.inr (Ex.exit 0, stOf [4] [AV.dead] [])))
set_option maxRecDepth 1000000 in
theorem round54 (orc : Orc) (lp : Lp) (l : List (List UInt8 × (Int × (Int × (Int × List UInt8))))) (i : Int) (ra : List UInt8) (rb : Int) (rc : Int) (rd : Int) (re : List UInt8) : evC T0 orc lp b54 0 (stOf [0, 3, 5] [.list RR l, .ptr 0 0, .int .i64 i] [.box [.str ra, .int .u16 rb, .int .u16 rc, .int .u32 rd, .str re]]) (roundK [0, 3, 5] [4] 0) = (r54 l i ra rb rc rd re).get := by kernel_rfl
def t54 (l : List (List UInt8 × (Int × (Int × (Int × List UInt8))))) (r : (List UInt8 × (Int × (Int × (Int × List UInt8))))) : Tr Res := Tr.br (haC l (0 : Int)) (Tr.br (!hasV l r) (Tr.ret ([AV.bool false], [])) (Tr.ret ([AV.bool true], []))) Tr.no
set_option maxRecDepth 1000000 in
theorem fn54 (l : List (List UInt8 × (Int × (Int × (Int × List UInt8))))) (r : (List UInt8 × (Int × (Int × (Int × List UInt8))))) : evC T0 (orcB [] []) (lpOf h54 0 (lsOf [ls54])) c54 1000000 (startSt [.list RR l, AV.ofTy RR r true] [] Try.f54.ntmps) (finishK T0 false 0 Try.f54) = (t54 l r).get := by kernel_rfl
def fs54 : FSpec := fsT 54 [((.list RR), false), (RR, true)] [(.bool, false)] fun (l, r, _) => t54 l r
def lrB (l : List RRt) : Bool := Nat.ble l.length 1000000
def fs54w : FSpec := fs54.like fun (l, r, _) => .on (lrB l) (hasV l r, ())
def ixL : List RRt → RRt → Nat → Int
  | [], _, _ => -1
  | x :: l, r, k => if r = x then (k : Int) else ixL l r (k + 1)
def ixV (l : List RRt) (r : RRt) : Int := ixL l r 0
theorem ixL_has : ∀ (l : List RRt) (r : RRt) (k : Nat), hasV l r = decide (0 ≤ ixL l r k)
  | [], r, k => rfl
  | x :: l, r, k => by
    unfold hasV ixL
    rw [List.any_cons]
    by_cases h : r = x
    · rw [if_pos h, decide_eq_true h.symm, Bool.true_or, decide_eq_true (by omega)]
    · rw [if_neg h, decide_eq_false (fun e => h e.symm), Bool.false_or]
      exact ixL_has l r (k + 1)
def ixC (l : List RRt) (m i : Int) : Bool := Nat.ble l.length 1000000 && (decide (m = (l.length : Int)) && decide (i = 0))
noncomputable def b78 : Code := nthLoop c78 0
def ls78 : LoopSpec := { bid := 0, sh := [.d (.list RR) false, .ptr 0 0, .d (.int .i64) false, .d (.int .i64) false], so := [.box [.d .str false, .d (.int .u16) false, .d (.int .u16) false, .d (.int .u32) false, .d .str false]], F := fun (l, m, i, _) ((ra, rb, rc, rd, re, _), _) => .on2 (ixC l m i) (decide (ixV l (ra, rb, rc, rd, re) < 0)) (.exit 0, [.dead], []) (.ret, [.int .i64 (ixV l (ra, rb, rc, rd, re))], []) }
def r78 (l : List (List UInt8 × (Int × (Int × (Int × List UInt8))))) (m : Int) (i : Int) (ra : List UInt8) (rb : Int) (rc : Int) (rd : Int) (re : List UInt8) : Tr (St ⊕ (Ex × St)) := Tr.br (decide (i < m)) (Tr.br (decide ((0 : Int) ≤ i)) (Tr.br (decide (i < (↑(List.length l) : Int))) (Tr.br (ra == Prod.fst (List.getD l (Int.toNat i) (Ty.dflt RR)) && (rb == Prod.fst (Prod.snd (List.getD l (Int.toNat i) (Ty.dflt RR))) && (rc == Prod.fst (Prod.snd (Prod.snd (List.getD l (Int.toNat i) (Ty.dflt RR)))) && (rd == Prod.fst (Prod.snd (Prod.snd (Prod.snd (List.getD l (Int.toNat i) (Ty.dflt RR))))) && (re == Prod.snd (Prod.snd (Prod.snd (Prod.snd (List.getD l (Int.toNat i) (Ty.dflt RR))))) && true))))) (Tr.ret (Sum.inr (Ex.ret, stOf [4] [AV.int IntKind.i64 i] []))) (Tr.ret (Sum.inl (stOf [0, 3, 7, 8] [AV.list RR l, AV.ptr 0 0, AV.int IntKind.i64 m, AV.int IntKind.i64 (IntKind.wrap IntKind.i64 (i + (1 : Int)))] [LObj.boxT none [AV.str ra, AV.int IntKind.u16 rb, AV.int IntKind.u16 rc, AV.int IntKind.u32 rd, AV.str re]])))) Tr.no) Tr.no) (Tr.ret (Sum.inr (Ex.exit 0, stOf [4] [AV.dead] [])))
set_option maxRecDepth 1000000 in
theorem round78 (orc : Orc) (lp : Lp) (l : List (List UInt8 × (Int × (Int × (Int × List UInt8))))) (m : Int) (i : Int) (ra : List UInt8) (rb : Int) (rc : Int) (rd : Int) (re : List UInt8) : evC T0 orc lp b78 0 (stOf [0, 3, 7, 8] [.list RR l, .ptr 0 0, .int .i64 m, .int .i64 i] [.box [.str ra, .int .u16 rb, .int .u16 rc, .int .u32 rd, .str re]]) (roundK [0, 3, 7, 8] [4] 0) = (r78 l m i ra rb rc rd re).get := by kernel_rfl
theorem wf78 (orc : Orc) (l : List (List UInt8 × (Int × (Int × (Int × List UInt8))))) (m : Int) (ra : List UInt8) (rb : Int) (rc : Int) (rd : Int) (re : List UInt8) (I'' : Int → Prop) (m'' : Int → Nat) (r'' : Ex × St) (h : ∀ (i : Int), I'' i → (r78 l m i ra rb rc rd re).all fun x'' => x'' = .inr r'' ∨ ∃ (i' : Int), x'' = .inl (stOf [0, 3, 7, 8] [.list RR l, .ptr 0 0, .int .i64 m, .int .i64 i'] [.box [.str ra, .int .u16 rb, .int .u16 rc, .int .u32 rd, .str re]]) ∧ I'' i' ∧ m'' i' < m'' i) (lp : Lp) (i : Int) : I'' i →
    loopF (fun st => evC T0 orc lp b78 0 st (roundK [0, 3, 7, 8] [4] 0)) (stOf [0, 3, 7, 8] [.list RR l, .ptr 0 0, .int .i64 m, .int .i64 i] [.box [.str ra, .int .u16 rb, .int .u16 rc, .int .u32 rd, .str re]]) = some r'' :=
  loop_tr (fun a'' : Int => stOf [0, 3, 7, 8] [.list RR l, .ptr 0 0, .int .i64 m, .int .i64 a''] [.box [.str ra, .int .u16 rb, .int .u16 rc, .int .u32 rd, .str re]]) (fun a'' => I'' a'') (fun a'' => m'' a'') r'' (fun a'' => r78 l m a'' ra rb rc rd re)
    (fun a'' x hx => (round78 orc lp l m a'' ra rb rc rd re).trans hx) (fun a'' ha => Tr.all_mono (fun x'' hx => hx.imp id fun ⟨i', h1, h2, h3⟩ => ⟨(i'), h1, h2, h3⟩) (h (a'') ha)) (i)
theorem loop78 (orc : Orc) : ls78.Ok T0 orc h78 0 0 b78 := by
  intro q'' hq'' x'' y'' r'' h
  obtain ⟨(l : List (List UInt8 × (Int × (Int × (Int × List UInt8))))), (m : Int), (i : Int), _⟩ := x''
  obtain ⟨⟨(ra : List UInt8), (rb : Int), (rc : Int), (rd : Int), (re : List UInt8), _⟩, _⟩ := y''
  obtain ⟨hc, rfl⟩ := Tr.get_on2 h
  show loopF (fun st => evC T0 orc (lpN T0 orc h78 0 q'') b78 0 st (roundK [0, 3, 7, 8] [4] 0)) (stOf [0, 3, 7, 8] [.list RR l, .ptr 0 0, .int .i64 m, .int .i64 i] [.box [.str ra, .int .u16 rb, .int .u16 rc, .int .u32 rd, .str re]]) = some ((bif decide (ixV l (ra, rb, rc, rd, re) < 0) then (.exit 0, [.dead], []) else (.ret, [.int .i64 (ixV l (ra, rb, rc, rd, re))], []) : Ex × List AV × List LObj).1, stOf [4] (bif decide (ixV l (ra, rb, rc, rd, re) < 0) then (.exit 0, [.dead], []) else (.ret, [.int .i64 (ixV l (ra, rb, rc, rd, re))], []) : Ex × List AV × List LObj).2.1 (bif decide (ixV l (ra, rb, rc, rd, re) < 0) then (.exit 0, [.dead], []) else (.ret, [.int .i64 (ixV l (ra, rb, rc, rd, re))], []) : Ex × List AV × List LObj).2.2)
  simp only [ixC, Bool.and_eq_true, decide_eq_true_eq] at hc
  obtain ⟨hl, rfl, rfl⟩ := hc
  have hl := Nat.le_of_ble_eq_true hl
  refine wf78 _ l l.length ra rb rc rd re (fun i => 0 ≤ i ∧ i ≤ l.length ∧ ixL (l.drop i.toNat) (ra, rb, rc, rd, re) i.toNat = ixV l (ra, rb, rc, rd, re)) (fun i => (l.length - i).toNat) _ ?_ _ 0 ⟨by omega, by omega, rfl⟩
  rintro i ⟨h0, h1, he⟩
  unfold r78
  rw [wrap_succ h0 h1 (by omega)]
  by_cases hi : i < l.length
  · rw [drop_cons2 (l := l) (k := i.toNat) (by omega) (Ty.dflt RR), ixL] at he
    generalize l.getD i.toNat (Ty.dflt RR) = x at *
    have hq := rrB_iff (ra, rb, rc, rd, re) x
    unfold rrB at hq
    rw [hq]
    refine Tr.all_t (dec_true hi) (Tr.all_t (dec_true h0) (Tr.all_t (dec_true hi) (Tr.all_br (fun h => ?_) fun h => ?_)))
    · rw [if_pos (of_decide_eq_true h)] at he
      rw [← he, show ((i.toNat : Nat) : Int) = i by omega, dec_false (show ¬ i < 0 by omega)]
      exact Tr.all_ret (.inl rfl)
    · rw [if_neg (of_decide_eq_false h)] at he
      exact Tr.all_ret (.inr ⟨_, rfl, ⟨by omega, by omega, by rw [show (i + 1).toNat = i.toNat + 1 by omega]; exact he⟩, by omega⟩)
  · refine Tr.all_f (dec_false hi) (Tr.all_ret (.inl ?_))
    rw [show i.toNat = l.length by omega, List.drop_length] at he
    rw [← he]
    rfl
def t78 (l : List (List UInt8 × (Int × (Int × (Int × List UInt8))))) (r : (List UInt8 × (Int × (Int × (Int × List UInt8))))) : Tr Res := Tr.br (ixC l (↑(List.length l) : Int) (0 : Int)) (Tr.br (decide (ixV l r < (0 : Int))) (Tr.ret ([AV.int IntKind.i64 (-1 : Int)], [])) (Tr.ret ([AV.int IntKind.i64 (ixV l r)], []))) Tr.no
def os78 : OSpec := { f := 78, sh := [.d (.list RR) false, .d RR true], so := [], F := fun (l, r, _) _ => t78 l r }
set_option maxRecDepth 1000000 in
theorem fn78 (l : List (List UInt8 × (Int × (Int × (Int × List UInt8))))) (r : (List UInt8 × (Int × (Int × (Int × List UInt8))))) : evC T0 (orcB [] []) (lpOf h78 0 (lsOf [ls78])) c78 1000000 (startSt [.list RR l, AV.ofTy RR r true] [] Try.f78.ntmps) (finishK T0 false 0 Try.f78) = (t78 l r).get := by kernel_rfl
theorem ok78 : os78.Ok Try.prog := by
  refine os_ok mixed0 tab0 (orcB_sound all_nil all_nil) h78 (d := 0) (n0 := 0) (S := lsOf [ls78]) Try.func78 (by kernel_rfl) (c := c78) (by kernel_rfl) rfl (loops_eq (xs := [(0, b78)]) (by kernel_rfl) (all_cons (ls_here (loop78 _)) all_nil)) (by omega) (by kernel_rfl) ?_
  intro x'' y'' q'' hq''
  obtain ⟨(l : List (List UInt8 × (Int × (Int × (Int × List UInt8))))), (r : (List UInt8 × (Int × (Int × (Int × List UInt8))))), _⟩ := x''
  exact (fn78 l r).trans hq''
def fs78 : FSpec := fsT 78 [((.list RR), false), (RR, true)] [((.int .i64), false)] fun (l, r, _) => t78 l r
theorem okf78 : fs78.Ok Try.prog := fsT_ok fun x'' r'' hr'' => ok78 x'' () r'' hr''
def fs78w : FSpec := fs78.like fun (l, r, _) => .on (lrB l) (ixV l r, ())
theorem okf78w : fs78w.Ok Try.prog := by
  refine flike_ok okf78 _ ?_
  rintro ⟨(l : List RRt), (r : RRt), _⟩ y h
  obtain ⟨hb, rfl⟩ := Tr.get_on h
  have hb : lrB l = true := hb
  refine convR_of (vs := [.int .i64 (ixV l r)]) rfl rfl (Tr.get_of_all ?_)
  show (t78 l r).all _
  unfold t78
  refine Tr.all_t (by unfold ixC; unfold lrB at hb; rw [hb, decide_eq_true rfl]; rfl) ?_
  refine Tr.all_br (fun h => Tr.all_ret ?_) fun h => Tr.all_ret rfl
  have h := of_decide_eq_true h
  have : ∀ (l : List RRt) (r : RRt) (k : Nat), -1 ≤ ixL l r k := by
    intro l
    induction l with
    | nil => intro r k; exact Int.le_refl _
    | cons x l ih =>
      intro r k
      unfold ixL
      split
      · omega
      · exact ih r (k + 1)
  have := this l r 0
  unfold ixV at h ⊢
  rw [show ixL l r 0 = -1 by omega]
def t52 (l : List (List UInt8 × (Int × (Int × (Int × List UInt8))))) (r : (List UInt8 × (Int × (Int × (Int × List UInt8))))) : Tr Res := Tr.br (lrB l) (Tr.ret ([AV.bool (decide (ixV l r ≥ (0 : Int)))], [])) Tr.no
def os52 : OSpec := { f := 52, sh := [.d (.list RR) false, .d RR true], so := [], F := fun (l, r, _) _ => t52 l r }
set_option maxRecDepth 1000000 in
theorem fn52 (l : List (List UInt8 × (Int × (Int × (Int × List UInt8))))) (r : (List UInt8 × (Int × (Int × (Int × List UInt8))))) : evC T0 (orcB [fs78w] []) (lpOf h52 0 (lsOf [])) c52 1000000 (startSt [.list RR l, AV.ofTy RR r true] [] Try.f52.ntmps) (finishK T0 false 0 Try.f52) = (t52 l r).get := by kernel_rfl
theorem ok52 : os52.Ok Try.prog := by
  refine os_ok mixed0 tab0 (orcB_sound (all_cons okf78w all_nil) all_nil) h52 (d := 0) (n0 := 0) (S := lsOf []) Try.func52 (by kernel_rfl) (c := c52) (by kernel_rfl) rfl (no_loops (by kernel_rfl)) (by omega) (by kernel_rfl) ?_
  intro x'' y'' q'' hq''
  obtain ⟨(l : List (List UInt8 × (Int × (Int × (Int × List UInt8))))), (r : (List UInt8 × (Int × (Int × (Int × List UInt8))))), _⟩ := x''
  exact (fn52 l r).trans hq''
def fs52 : FSpec := fsT 52 [((.list RR), false), (RR, true)] [(.bool, false)] fun (l, r, _) => t52 l r
theorem okf52 : fs52.Ok Try.prog := fsT_ok fun x'' r'' hr'' => ok52 x'' () r'' hr''
def fs52w : FSpec := fs52.like fun (l, r, _) => .on (lrB l) (hasV l r, ())
theorem okf52w : fs52w.Ok Try.prog := by
  refine flike_ok okf52 _ ?_
  rintro ⟨(l : List RRt), (r : RRt), _⟩ y h
  obtain ⟨hb, rfl⟩ := Tr.get_on h
  have hb : lrB l = true := hb
  refine convR_of (vs := [.bool (hasV l r)]) rfl rfl (Tr.get_of_all ?_)
  show (t52 l r).all _
  unfold t52
  refine Tr.all_t hb (Tr.all_ret ?_)
  rw [ixL_has l r 0]
  rfl
end Go.Proofs.YtkobjdhbfepkaaaE
namespace Go.Proofs.YtkobjdhbfepkaaaE
open Go Go.Proofs.YtkobjdhbfepkaaaB
set_option linter.unusedVariables false
set_option linter.unusedSimpArgs false
set_option maxRecDepth 100000
def addV (l : List RRt) : List RRt → List RRt
  | [] => l
  | a :: xs => addV (if hasV l a = true then l else l ++ [a]) xs
def glC (l os : List RRt) (m2 k : Int) : Bool := Nat.ble (l.length + os.length) 1000000 && (decide (m2 = (os.length : Int)) && decide (k = 0))
noncomputable def b22i : Code := nthLoop (nthLoop c22 0) 0
def ls22i : LoopSpec := { bid := 2, sh := [.ptr 0 0, .row 1, .d (.list RR) false, .d (.int .i64) false, .d (.int .i64) false, .d (.list RR) false, .d (.int .i64) false, .d (.int .i64) false], so := [.box [.d .str false, .d (.list RR) false], .row RR], F := fun (ns, m, i, os, m2, k, _) ((ap, zr, _), l, _) => .on (glC l os m2 k) (.exit 2, [.ptr 0 0, .rowA 1, .list RR ns, .int .i64 m, .int .i64 i], [.box [.str ap, .list RR zr], .row RR (addV l os)]) }
def r22i (ns : List (List UInt8 × (Int × (Int × (Int × List UInt8))))) (m : Int) (i : Int) (os : List (List UInt8 × (Int × (Int × (Int × List UInt8))))) (m2 : Int) (k : Int) (ap : List UInt8) (zr : List (List UInt8 × (Int × (Int × (Int × List UInt8))))) (l : List (List UInt8 × (Int × (Int × (Int × List UInt8))))) : Tr (St ⊕ (Ex × St)) := Tr.br (decide (k < m2)) (Tr.br (decide ((0 : Int) ≤ k)) (Tr.br (decide (k < (↑(List.length os) : Int))) (Tr.br (lrB l) (Tr.br (!hasV l (List.getD os (Int.toNat k) (Ty.dflt RR))) (Tr.br (fits (List.length l + 1) 40) (Tr.ret (Sum.inl (stOf [2, 5, 12, 13, 14, 30, 31, 32] [AV.ptr 0 0, AV.rowA 1, AV.list RR ns, AV.int IntKind.i64 m, AV.int IntKind.i64 i, AV.list RR os, AV.int IntKind.i64 m2, AV.int IntKind.i64 (IntKind.wrap IntKind.i64 (k + (1 : Int)))] [LObj.boxT none [AV.str ap, AV.list RR zr], LObj.row RR (l ++ [List.getD os (Int.toNat k) (Ty.dflt RR)])]))) Tr.no) (Tr.ret (Sum.inl (stOf [2, 5, 12, 13, 14, 30, 31, 32] [AV.ptr 0 0, AV.rowA 1, AV.list RR ns, AV.int IntKind.i64 m, AV.int IntKind.i64 i, AV.list RR os, AV.int IntKind.i64 m2, AV.int IntKind.i64 (IntKind.wrap IntKind.i64 (k + (1 : Int)))] [LObj.boxT none [AV.str ap, AV.list RR zr], LObj.row RR l])))) Tr.no) Tr.no) Tr.no) (Tr.ret (Sum.inr (Ex.exit 2, stOf [2, 5, 12, 13, 14] [AV.ptr 0 0, AV.rowA 1, AV.list RR ns, AV.int IntKind.i64 m, AV.int IntKind.i64 i] [LObj.boxT none [AV.str ap, AV.list RR zr], LObj.row RR l])))
set_option maxRecDepth 1000000 in
theorem round22i (lp : Lp) (ns : List (List UInt8 × (Int × (Int × (Int × List UInt8))))) (m : Int) (i : Int) (os : List (List UInt8 × (Int × (Int × (Int × List UInt8))))) (m2 : Int) (k : Int) (ap : List UInt8) (zr : List (List UInt8 × (Int × (Int × (Int × List UInt8))))) (l : List (List UInt8 × (Int × (Int × (Int × List UInt8))))) : evC T0 (orcB [fs51w, fs43w, fs52w] []) lp b22i 2 (stOf [2, 5, 12, 13, 14, 30, 31, 32] [.ptr 0 0, .rowA 1, .list RR ns, .int .i64 m, .int .i64 i, .list RR os, .int .i64 m2, .int .i64 k] [.box [.str ap, .list RR zr], .row RR l]) (roundK [2, 5, 12, 13, 14, 30, 31, 32] [2, 5, 12, 13, 14] 0) = (r22i ns m i os m2 k ap zr l).get := by kernel_rfl
theorem wf22i (ns : List (List UInt8 × (Int × (Int × (Int × List UInt8))))) (m : Int) (i : Int) (os : List (List UInt8 × (Int × (Int × (Int × List UInt8))))) (m2 : Int) (ap : List UInt8) (zr : List (List UInt8 × (Int × (Int × (Int × List UInt8))))) (I'' : List (List UInt8 × (Int × (Int × (Int × List UInt8)))) → Int → Prop) (m'' : List (List UInt8 × (Int × (Int × (Int × List UInt8)))) → Int → Nat) (r'' : Ex × St) (h : ∀ (l : List (List UInt8 × (Int × (Int × (Int × List UInt8))))) (k : Int), I'' l k → (r22i ns m i os m2 k ap zr l).all fun x'' => x'' = .inr r'' ∨ ∃ (l' : List (List UInt8 × (Int × (Int × (Int × List UInt8))))) (k' : Int), x'' = .inl (stOf [2, 5, 12, 13, 14, 30, 31, 32] [.ptr 0 0, .rowA 1, .list RR ns, .int .i64 m, .int .i64 i, .list RR os, .int .i64 m2, .int .i64 k'] [.box [.str ap, .list RR zr], .row RR l']) ∧ I'' l' k' ∧ m'' l' k' < m'' l k) (lp : Lp) (l : List (List UInt8 × (Int × (Int × (Int × List UInt8))))) (k : Int) : I'' l k →
    loopF (fun st => evC T0 (orcB [fs51w, fs43w, fs52w] []) lp b22i 2 st (roundK [2, 5, 12, 13, 14, 30, 31, 32] [2, 5, 12, 13, 14] 0)) (stOf [2, 5, 12, 13, 14, 30, 31, 32] [.ptr 0 0, .rowA 1, .list RR ns, .int .i64 m, .int .i64 i, .list RR os, .int .i64 m2, .int .i64 k] [.box [.str ap, .list RR zr], .row RR l]) = some r'' :=
  loop_tr (fun a'' : List (List UInt8 × (Int × (Int × (Int × List UInt8)))) × Int => stOf [2, 5, 12, 13, 14, 30, 31, 32] [.ptr 0 0, .rowA 1, .list RR ns, .int .i64 m, .int .i64 i, .list RR os, .int .i64 m2, .int .i64 a''.2] [.box [.str ap, .list RR zr], .row RR a''.1]) (fun a'' => I'' a''.1 a''.2) (fun a'' => m'' a''.1 a''.2) r'' (fun a'' => r22i ns m i os m2 a''.2 ap zr a''.1)
    (fun a'' x hx => (round22i lp ns m i os m2 a''.2 ap zr a''.1).trans hx) (fun a'' ha => Tr.all_mono (fun x'' hx => hx.imp id fun ⟨l', k', h1, h2, h3⟩ => ⟨(l', k'), h1, h2, h3⟩) (h (a''.1) (a''.2) ha)) (l, k)
theorem addV_len : ∀ (xs l : List RRt), (addV l xs).length ≤ l.length + xs.length
  | [], l => Nat.le_refl _
  | a :: xs, l => by
    rw [addV, List.length_cons]
    by_cases h : hasV l a = true
    · rw [if_pos h]
      have := addV_len xs l
      omega
    · rw [if_neg h]
      have := addV_len xs (l ++ [a])
      rw [List.length_append, List.length_singleton] at this
      omega
theorem loop22i : ls22i.Ok T0 (orcB [fs51w, fs43w, fs52w] []) h22 0 0 b22i := by
  intro q'' hq'' x'' y'' r'' h
  obtain ⟨(ns : List (List UInt8 × (Int × (Int × (Int × List UInt8))))), (m : Int), (i : Int), (os : List (List UInt8 × (Int × (Int × (Int × List UInt8))))), (m2 : Int), (k : Int), _⟩ := x''
  obtain ⟨⟨(ap : List UInt8), (zr : List (List UInt8 × (Int × (Int × (Int × List UInt8))))), _⟩, (l : List (List UInt8 × (Int × (Int × (Int × List UInt8))))), _⟩ := y''
  obtain ⟨hc, rfl⟩ := Tr.get_on h
  show loopF (fun st => evC T0 (orcB [fs51w, fs43w, fs52w] []) (lpN T0 (orcB [fs51w, fs43w, fs52w] []) h22 0 q'') b22i 2 st (roundK [2, 5, 12, 13, 14, 30, 31, 32] [2, 5, 12, 13, 14] 0)) (stOf [2, 5, 12, 13, 14, 30, 31, 32] [.ptr 0 0, .rowA 1, .list RR ns, .int .i64 m, .int .i64 i, .list RR os, .int .i64 m2, .int .i64 k] [.box [.str ap, .list RR zr], .row RR l]) = some (.exit 2, stOf [2, 5, 12, 13, 14] ([.ptr 0 0, .rowA 1, .list RR ns, .int .i64 m, .int .i64 i]) ([.box [.str ap, .list RR zr], .row RR (addV l os)]))
  simp only [glC, Bool.and_eq_true, decide_eq_true_eq] at hc
  obtain ⟨hl, rfl, rfl⟩ := hc
  have hl := Nat.le_of_ble_eq_true hl
  refine wf22i ns m i os os.length ap zr (fun l' k => 0 ≤ k ∧ k ≤ os.length ∧ l'.length ≤ l.length + k.toNat ∧ addV l' (os.drop k.toNat) = addV l os) (fun l' k => (os.length - k).toNat) _ ?_ _ l 0 ⟨by omega, by omega, by omega, rfl⟩
  rintro l' k ⟨h0, h1, h2, he⟩
  unfold r22i
  rw [wrap_succ h0 h1 (by omega)]
  by_cases hi : k < os.length
  · rw [drop_cons2 (l := os) (k := k.toNat) (by omega) (Ty.dflt RR), addV] at he
    generalize os.getD k.toNat (Ty.dflt RR) = x at *
    refine Tr.all_t (dec_true hi) (Tr.all_t (dec_true h0) (Tr.all_t (dec_true hi) (Tr.all_t (Nat.ble_eq_true_of_le (by omega)) (Tr.all_br (fun h => Tr.all_t (fits_true (by omega) (by omega)) ?_) fun h => ?_))))
    · have h : hasV l' x = false := by cases hh : hasV l' x; rfl; (rw [hh] at h; cases h)
      rw [if_neg (by rw [h]; simp)] at he
      exact Tr.all_ret (.inr ⟨_, _, rfl, ⟨by omega, by omega, by rw [List.length_append, List.length_singleton]; omega, by rw [show (k + 1).toNat = k.toNat + 1 by omega]; exact he⟩, by omega⟩)
    · have h : hasV l' x = true := by cases hh : hasV l' x; (rw [hh] at h; cases h); rfl
      rw [if_pos h] at he
      exact Tr.all_ret (.inr ⟨_, _, rfl, ⟨by omega, by omega, by omega, by rw [show (k + 1).toNat = k.toNat + 1 by omega]; exact he⟩, by omega⟩)
  · refine Tr.all_f (dec_false hi) (Tr.all_ret (.inl ?_))
    rw [show k.toNat = os.length by omega, List.drop_length] at he
    rw [← he]
    rfl
def glue1 (z : ZNt) (l : List RRt) (r : RRt) : List RRt := match targV r.2.1 r.2.2.2.2 with | some n => addV l (ofV z n 1) | none => l
def glueL (z : ZNt) (l : List RRt) : List RRt → List RRt
  | [] => l
  | r :: rs => glueL z (glue1 z l r) rs
def glueV (z : ZNt) (ns : List RRt) : List RRt := glueL z [] ns
def smD (ns : List RRt) : Bool := ns.all fun r => bigS r.2.2.2.2
def gnOk (z : ZNt) (ns : List RRt) : Bool := smZ z && (smD ns && (Nat.ble (ns.length * z.2.length) 1000000 && Nat.ble ns.length 1000000))
def gnC (ap : List UInt8) (zr ns l : List RRt) (m i : Int) : Bool := gnOk (ap, zr) ns && (l.isEmpty && (decide (m = (ns.length : Int)) && decide (i = 0)))
noncomputable def b22o : Code := nthLoop c22 0
def ls22o : LoopSpec := { bid := 0, sh := [.ptr 0 0, .row 1, .d (.list RR) false, .d (.int .i64) false, .d (.int .i64) false], so := [.box [.d .str false, .d (.list RR) false], .row RR], F := fun (ns, m, i, _) ((ap, zr, _), l, _) => .on (gnC ap zr ns l m i) (.exit 0, [.rowA 0], [.row RR (glueV (ap, zr) ns)]) }
def r22o (ns : List (List UInt8 × (Int × (Int × (Int × List UInt8))))) (m : Int) (i : Int) (ap : List UInt8) (zr : List (List UInt8 × (Int × (Int × (Int × List UInt8))))) (l : List (List UInt8 × (Int × (Int × (Int × List UInt8))))) : Tr (St ⊕ (Ex × St)) := Tr.br (decide (i < m)) (Tr.br (decide ((0 : Int) ≤ i)) (Tr.br (decide (i < (↑(List.length ns) : Int))) (Tr.br (bigS (Prod.snd (Prod.snd (Prod.snd (Prod.snd (List.getD ns (Int.toNat i) (Ty.dflt RR))))))) (Tr.br (!Option.isSome (targV (Prod.fst (Prod.snd (List.getD ns (Int.toNat i) (Ty.dflt RR)))) (Prod.snd (Prod.snd (Prod.snd (Prod.snd (List.getD ns (Int.toNat i) (Ty.dflt RR)))))))) (Tr.ret (Sum.inl (stOf [2, 5, 12, 13, 14] [AV.ptr 0 0, AV.rowA 1, AV.list RR ns, AV.int IntKind.i64 m, AV.int IntKind.i64 (IntKind.wrap IntKind.i64 (i + (1 : Int)))] [LObj.boxT none [AV.str ap, AV.list RR zr], LObj.row RR l]))) (Tr.br (smZ (ap, zr)) (Tr.br (glC l (ofV (ap, zr) (Option.getD (targV (Prod.fst (Prod.snd (List.getD ns (Int.toNat i) (Ty.dflt RR)))) (Prod.snd (Prod.snd (Prod.snd (Prod.snd (List.getD ns (Int.toNat i) (Ty.dflt RR))))))) []) (1 : Int)) (↑(List.length (ofV (ap, zr) (Option.getD (targV (Prod.fst (Prod.snd (List.getD ns (Int.toNat i) (Ty.dflt RR)))) (Prod.snd (Prod.snd (Prod.snd (Prod.snd (List.getD ns (Int.toNat i) (Ty.dflt RR))))))) []) (1 : Int))) : Int) (0 : Int)) (Tr.ret (Sum.inl (stOf [2, 5, 12, 13, 14] [AV.ptr 0 0, AV.rowA 1, AV.list RR ns, AV.int IntKind.i64 m, AV.int IntKind.i64 (IntKind.wrap IntKind.i64 (i + (1 : Int)))] [LObj.boxT none [AV.str ap, AV.list RR zr], LObj.row RR (addV l (ofV (ap, zr) (Option.getD (targV (Prod.fst (Prod.snd (List.getD ns (Int.toNat i) (Ty.dflt RR)))) (Prod.snd (Prod.snd (Prod.snd (Prod.snd (List.getD ns (Int.toNat i) (Ty.dflt RR))))))) []) (1 : Int)))]))) Tr.no) Tr.no)) Tr.no) Tr.no) Tr.no) (Tr.ret (Sum.inr (Ex.exit 0, stOf [5] [AV.rowA 0] [LObj.row RR l])))
set_option maxRecDepth 1000000 in
theorem round22o (ns : List (List UInt8 × (Int × (Int × (Int × List UInt8))))) (m : Int) (i : Int) (ap : List UInt8) (zr : List (List UInt8 × (Int × (Int × (Int × List UInt8))))) (l : List (List UInt8 × (Int × (Int × (Int × List UInt8))))) : evC T0 (orcB [fs51w, fs43w, fs52w] []) (lpOf h22 0 (lsOf [ls22i])) b22o 0 (stOf [2, 5, 12, 13, 14] [.ptr 0 0, .rowA 1, .list RR ns, .int .i64 m, .int .i64 i] [.box [.str ap, .list RR zr], .row RR l]) (roundK [2, 5, 12, 13, 14] [5] 0) = (r22o ns m i ap zr l).get := by kernel_rfl
theorem wf22o (ns : List (List UInt8 × (Int × (Int × (Int × List UInt8))))) (m : Int) (ap : List UInt8) (zr : List (List UInt8 × (Int × (Int × (Int × List UInt8))))) (I'' : List (List UInt8 × (Int × (Int × (Int × List UInt8)))) → Int → Prop) (m'' : List (List UInt8 × (Int × (Int × (Int × List UInt8)))) → Int → Nat) (r'' : Ex × St) (h : ∀ (l : List (List UInt8 × (Int × (Int × (Int × List UInt8))))) (i : Int), I'' l i → (r22o ns m i ap zr l).all fun x'' => x'' = .inr r'' ∨ ∃ (l' : List (List UInt8 × (Int × (Int × (Int × List UInt8))))) (i' : Int), x'' = .inl (stOf [2, 5, 12, 13, 14] [.ptr 0 0, .rowA 1, .list RR ns, .int .i64 m, .int .i64 i'] [.box [.str ap, .list RR zr], .row RR l']) ∧ I'' l' i' ∧ m'' l' i' < m'' l i) (q'' : Nat) (hq'' : 1 ≤ q'') (l : List (List UInt8 × (Int × (Int × (Int × List UInt8))))) (i : Int) : I'' l i →
    loopF (fun st => evC T0 (orcB [fs51w, fs43w, fs52w] []) (lpN T0 (orcB [fs51w, fs43w, fs52w] []) h22 0 q'') b22o 0 st (roundK [2, 5, 12, 13, 14] [5] 0)) (stOf [2, 5, 12, 13, 14] [.ptr 0 0, .rowA 1, .list RR ns, .int .i64 m, .int .i64 i] [.box [.str ap, .list RR zr], .row RR l]) = some r'' :=
  loop_tr (fun a'' : List (List UInt8 × (Int × (Int × (Int × List UInt8)))) × Int => stOf [2, 5, 12, 13, 14] [.ptr 0 0, .rowA 1, .list RR ns, .int .i64 m, .int .i64 a''.2] [.box [.str ap, .list RR zr], .row RR a''.1]) (fun a'' => I'' a''.1 a''.2) (fun a'' => m'' a''.1 a''.2) r'' (fun a'' => r22o ns m a''.2 ap zr a''.1)
    (fun a'' x hx => round_of (d := 0) (S := lsOf [ls22i]) (loops_at (xs := [(2, b22i)]) (by kernel_rfl) (all_cons (ls_here loop22i) all_nil)) (by omega) ((round22o ns m a''.2 ap zr a''.1).trans hx)) (fun a'' ha => Tr.all_mono (fun x'' hx => hx.imp id fun ⟨l', i', h1, h2, h3⟩ => ⟨(l', i'), h1, h2, h3⟩) (h (a''.1) (a''.2) ha)) (l, i)
theorem ofV_len (z : ZNt) (n : List UInt8) (kind : Int) : (ofV z n kind).length ≤ z.2.length := ownV_len
theorem glue1_len (z : ZNt) (l : List RRt) (r : RRt) : (glue1 z l r).length ≤ l.length + z.2.length := by
  unfold glue1
  split
  · rename_i n _
    have h1 := addV_len (ofV z n 1) l
    have h2 := ofV_len z n 1
    omega
  · omega
theorem smD_get {ns : List RRt} (h : smD ns = true) {k : Nat} (hk : k < ns.length) (x : RRt) : bigS (ns.getD k x).2.2.2.2 = true := by
  unfold smD at h
  rw [List.all_eq_true] at h
  refine h _ ?_
  rw [List.getD_eq_getElem?_getD, List.getElem?_eq_getElem hk]
  exact List.getElem_mem hk
theorem mul_step {i n z t : Nat} (hi : i < n) (h : n * z ≤ t) : i * z + z ≤ t := by
  have := Nat.mul_le_mul_right z (show i + 1 ≤ n by omega)
  rw [Nat.add_mul, Nat.one_mul] at this
  omega
theorem loop22o : ls22o.Ok T0 (orcB [fs51w, fs43w, fs52w] []) h22 0 1 b22o := by
  intro q'' hq'' x'' y'' r'' h
  obtain ⟨(ns : List (List UInt8 × (Int × (Int × (Int × List UInt8))))), (m : Int), (i : Int), _⟩ := x''
  obtain ⟨⟨(ap : List UInt8), (zr : List (List UInt8 × (Int × (Int × (Int × List UInt8))))), _⟩, (l : List (List UInt8 × (Int × (Int × (Int × List UInt8))))), _⟩ := y''
  obtain ⟨hc, rfl⟩ := Tr.get_on h
  show loopF (fun st => evC T0 (orcB [fs51w, fs43w, fs52w] []) (lpN T0 (orcB [fs51w, fs43w, fs52w] []) h22 0 q'') b22o 0 st (roundK [2, 5, 12, 13, 14] [5] 0)) (stOf [2, 5, 12, 13, 14] [.ptr 0 0, .rowA 1, .list RR ns, .int .i64 m, .int .i64 i] [.box [.str ap, .list RR zr], .row RR l]) = some (.exit 0, stOf [5] ([.rowA 0]) ([.row RR (glueV (ap, zr) ns)]))
  simp only [gnC, gnOk, Bool.and_eq_true, decide_eq_true_eq, List.isEmpty_iff] at hc
  obtain ⟨⟨hz, hd, hb, hb2⟩, rfl, rfl, rfl⟩ := hc
  have hb := Nat.le_of_ble_eq_true hb
  have hb2 := Nat.le_of_ble_eq_true hb2
  refine wf22o ns ns.length ap zr (fun l i => 0 ≤ i ∧ i ≤ ns.length ∧ l.length ≤ i.toNat * zr.length ∧ glueL (ap, zr) l (ns.drop i.toNat) = glueV (ap, zr) ns) (fun l i => (ns.length - i).toNat) _ ?_ _ hq'' [] 0 ⟨by omega, by omega, by simp, rfl⟩
  rintro l i ⟨h0, h1, h2, he⟩
  unfold r22o
  rw [wrap_succ h0 h1 (by omega)]
  by_cases hi : i < ns.length
  · have hsm := smD_get hd (k := i.toNat) (by omega) (Ty.dflt RR)
    rw [drop_cons2 (l := ns) (k := i.toNat) (by omega) (Ty.dflt RR), glueL] at he
    generalize ns.getD i.toNat (Ty.dflt RR) = x at *
    have hms := mul_step (i := i.toNat) (n := ns.length) (z := zr.length) (by omega) hb
    have hl1 : (glue1 (ap, zr) l x).length ≤ l.length + zr.length := glue1_len (ap, zr) l x
    have hl2 : (glue1 (ap, zr) l x).length ≤ (i + 1).toNat * zr.length := by rw [show (i + 1).toNat = i.toNat + 1 by omega, Nat.add_mul, Nat.one_mul]; omega
    have hgl : ∀ n, glC l (ofV (ap, zr) n 1) ((ofV (ap, zr) n 1).length : Int) 0 = true := fun n => by
      have : (ofV (ap, zr) n 1).length ≤ zr.length := ofV_len (ap, zr) n 1
      unfold glC
      rw [Nat.ble_eq_true_of_le (by omega), decide_eq_true rfl]
      rfl
    refine Tr.all_t (dec_true hi) (Tr.all_t (dec_true h0) (Tr.all_t (dec_true hi) (Tr.all_t hsm ?_)))
    unfold glue1 at he hl2
    cases ht : targV x.2.1 x.2.2.2.2 with
    | none =>
      rw [ht] at he hl2
      exact Tr.all_t rfl (Tr.all_ret (.inr ⟨_, _, rfl, ⟨by omega, by omega, hl2, by rw [show (i + 1).toNat = i.toNat + 1 by omega]; exact he⟩, by omega⟩))
    | some n =>
      rw [ht] at he hl2
      exact Tr.all_f rfl (Tr.all_t hz (Tr.all_t (hgl n) (Tr.all_ret (.inr ⟨_, _, rfl, ⟨by omega, by omega, hl2, by rw [show (i + 1).toNat = i.toNat + 1 by omega]; exact he⟩, by omega⟩))))
  · refine Tr.all_f (dec_false hi) (Tr.all_ret (.inl ?_))
    rw [show i.toNat = ns.length by omega, List.drop_length] at he
    rw [← he]
    rfl
def t22 (z : (List UInt8 × List (List UInt8 × (Int × (Int × (Int × List UInt8)))))) (ns : List (List UInt8 × (Int × (Int × (Int × List UInt8))))) : Tr Res := Tr.br (gnC (Prod.fst z) (Prod.snd z) ns [] (↑(List.length ns) : Int) (0 : Int)) (Tr.ret ([AV.list RR (glueV z ns)], [])) Tr.no
def os22 : OSpec := { f := 22, sh := [.d ZN true, .d (.list RR) false], so := [], F := fun (z, ns, _) _ => t22 z ns }
set_option maxRecDepth 1000000 in
theorem fn22 (z : (List UInt8 × List (List UInt8 × (Int × (Int × (Int × List UInt8)))))) (ns : List (List UInt8 × (Int × (Int × (Int × List UInt8))))) : evC T0 (orcB [fs51w, fs43w, fs52w] []) (lpOf h22 0 (lsOf [ls22o])) c22 1000000 (startSt [AV.ofTy ZN z true, .list RR ns] [] Try.f22.ntmps) (finishK T0 false 0 Try.f22) = (t22 z ns).get := by kernel_rfl
theorem ok22 : os22.Ok Try.prog := by
  refine os_ok mixed0 tab0 (orcB_sound (all_cons okf51w (all_cons okf43w (all_cons okf52w all_nil))) all_nil) h22 (d := 1) (n0 := 0) (S := lsOf [ls22o]) Try.func22 (by kernel_rfl) (c := c22) (by kernel_rfl) rfl (loops_eq (xs := [(0, b22o)]) (by kernel_rfl) (all_cons (ls_here loop22o) all_nil)) (by omega) (by kernel_rfl) ?_
  intro x'' y'' q'' hq''
  obtain ⟨(z : (List UInt8 × List (List UInt8 × (Int × (Int × (Int × List UInt8)))))), (ns : List (List UInt8 × (Int × (Int × (Int × List UInt8))))), _⟩ := x''
  exact (fn22 z ns).trans hq''
def fs22 : FSpec := fsT 22 [(ZN, true), ((.list RR), false)] [((.list RR), false)] fun (z, ns, _) => t22 z ns
theorem okf22 : fs22.Ok Try.prog := fsT_ok fun x'' r'' hr'' => ok22 x'' () r'' hr''
def fs22w : FSpec := fs22.like fun (z, ns, _) => .on (gnOk z ns) (glueV z ns, ())
theorem okf22w : fs22w.Ok Try.prog := by
  refine flike_ok okf22 _ ?_
  rintro ⟨(z : ZNt), (ns : List RRt), _⟩ y h
  obtain ⟨hb, rfl⟩ := Tr.get_on h
  have hb : gnOk z ns = true := hb
  refine convR_of (vs := [.list RR (glueV z ns)]) rfl rfl (Tr.get_of_all ?_)
  show (t22 z ns).all _
  unfold t22
  refine Tr.all_t ?_ (Tr.all_ret rfl)
  unfold gnC
  rw [show gnOk (z.1, z.2) ns = true from hb, decide_eq_true rfl]
  rfl
def rgC (l os : List RRt) (k : Int) : Bool := Nat.ble (l.length + os.length) 1000000 && decide (k = 0)
noncomputable def b23i : Code := nthLoop (nthLoop c23 0) 0
def ls23i : LoopSpec := { bid := 2, sh := [.d (.list RR) false, .ptr 0 0, .row 1, .d (.int .i64) false, .d .bool false, .d (.list RR) false, .d (.int .i64) false], so := [.box [.d .str false, .d (.list RR) false], .row RR], F := fun (ns, i, is, os, k, _) ((ap, zr, _), l, _) => .on (rgC l os k) (.exit 2, [.list RR ns, .ptr 0 0, .rowA 1, .int .i64 i], [.box [.str ap, .list RR zr], .row RR (bif is then addV l os else l)]) }
def r23i (ns : List (List UInt8 × (Int × (Int × (Int × List UInt8))))) (i : Int) (is : Bool) (os : List (List UInt8 × (Int × (Int × (Int × List UInt8))))) (k : Int) (ap : List UInt8) (zr : List (List UInt8 × (Int × (Int × (Int × List UInt8))))) (l : List (List UInt8 × (Int × (Int × (Int × List UInt8))))) : Tr (St ⊕ (Ex × St)) := Tr.br (decide (k < (↑(List.length os) : Int))) (Tr.br is (Tr.br (decide ((0 : Int) ≤ k)) (Tr.br (decide (k < (↑(List.length os) : Int))) (Tr.br (lrB l) (Tr.br (!hasV l (List.getD os (Int.toNat k) (Ty.dflt RR))) (Tr.br (decide ((0 : Int) ≤ k)) (Tr.br (decide (k < (↑(List.length os) : Int))) (Tr.br (fits (List.length l + 1) 40) (Tr.ret (Sum.inl (stOf [1, 2, 5, 6, 8, 9, 10] [AV.list RR ns, AV.ptr 0 0, AV.rowA 1, AV.int IntKind.i64 i, AV.bool is, AV.list RR os, AV.int IntKind.i64 (IntKind.wrap IntKind.i64 (k + (1 : Int)))] [LObj.boxT none [AV.str ap, AV.list RR zr], LObj.row RR (l ++ [List.getD os (Int.toNat k) (Ty.dflt RR)])]))) Tr.no) Tr.no) Tr.no) (Tr.ret (Sum.inl (stOf [1, 2, 5, 6, 8, 9, 10] [AV.list RR ns, AV.ptr 0 0, AV.rowA 1, AV.int IntKind.i64 i, AV.bool is, AV.list RR os, AV.int IntKind.i64 (IntKind.wrap IntKind.i64 (k + (1 : Int)))] [LObj.boxT none [AV.str ap, AV.list RR zr], LObj.row RR l])))) Tr.no) Tr.no) Tr.no) (Tr.ret (Sum.inr (Ex.exit 2, stOf [1, 2, 5, 6] [AV.list RR ns, AV.ptr 0 0, AV.rowA 1, AV.int IntKind.i64 i] [LObj.boxT none [AV.str ap, AV.list RR zr], LObj.row RR l])))) (Tr.ret (Sum.inr (Ex.exit 2, stOf [1, 2, 5, 6] [AV.list RR ns, AV.ptr 0 0, AV.rowA 1, AV.int IntKind.i64 i] [LObj.boxT none [AV.str ap, AV.list RR zr], LObj.row RR l])))
set_option maxRecDepth 1000000 in
theorem round23i (lp : Lp) (ns : List (List UInt8 × (Int × (Int × (Int × List UInt8))))) (i : Int) (is : Bool) (os : List (List UInt8 × (Int × (Int × (Int × List UInt8))))) (k : Int) (ap : List UInt8) (zr : List (List UInt8 × (Int × (Int × (Int × List UInt8))))) (l : List (List UInt8 × (Int × (Int × (Int × List UInt8))))) : evC T0 (orcB [fs53w, fs48w, fs54w] []) lp b23i 2 (stOf [1, 2, 5, 6, 8, 9, 10] [.list RR ns, .ptr 0 0, .rowA 1, .int .i64 i, .bool is, .list RR os, .int .i64 k] [.box [.str ap, .list RR zr], .row RR l]) (roundK [1, 2, 5, 6, 8, 9, 10] [1, 2, 5, 6] 0) = (r23i ns i is os k ap zr l).get := by kernel_rfl
def rgO (ap : List UInt8) (zr ns l : List RRt) (i : Int) : Bool := gnOk (ap, zr) ns && (l.isEmpty && decide (i = 0))
noncomputable def b23o : Code := nthLoop c23 0
def ls23o : LoopSpec := { bid := 0, sh := [.d (.list RR) false, .ptr 0 0, .row 1, .d (.int .i64) false], so := [.box [.d .str false, .d (.list RR) false], .row RR], F := fun (ns, i, _) ((ap, zr, _), l, _) => .on (rgO ap zr ns l i) (.exit 0, [.rowA 0], [.row RR (glueV (ap, zr) ns)]) }
def r23o (ns : List (List UInt8 × (Int × (Int × (Int × List UInt8))))) (i : Int) (ap : List UInt8) (zr : List (List UInt8 × (Int × (Int × (Int × List UInt8))))) (l : List (List UInt8 × (Int × (Int × (Int × List UInt8))))) : Tr (St ⊕ (Ex × St)) := Tr.br (decide (i < (↑(List.length ns) : Int))) (Tr.br (decide ((0 : Int) ≤ i)) (Tr.br (decide (i < (↑(List.length ns) : Int))) (Tr.br (decide ((0 : Int) ≤ i)) (Tr.br (decide (i < (↑(List.length ns) : Int))) (Tr.br (bigS (Prod.snd (Prod.snd (Prod.snd (Prod.snd (List.getD ns (Int.toNat i) (Ty.dflt RR))))))) (Tr.br (smZ (ap, zr)) (Tr.br (rgC l (ofV (ap, zr) (Option.getD (targV (Prod.fst (Prod.snd (List.getD ns (Int.toNat i) (Ty.dflt RR)))) (Prod.snd (Prod.snd (Prod.snd (Prod.snd (List.getD ns (Int.toNat i) (Ty.dflt RR))))))) []) (1 : Int)) (0 : Int)) (Tr.ret (Sum.inl (stOf [1, 2, 5, 6] [AV.list RR ns, AV.ptr 0 0, AV.rowA 1, AV.int IntKind.i64 (IntKind.wrap IntKind.i64 (i + (1 : Int)))] [LObj.boxT none [AV.str ap, AV.list RR zr], LObj.row RR (bif Option.isSome (targV (Prod.fst (Prod.snd (List.getD ns (Int.toNat i) (Ty.dflt RR)))) (Prod.snd (Prod.snd (Prod.snd (Prod.snd (List.getD ns (Int.toNat i) (Ty.dflt RR))))))) then addV l (ofV (ap, zr) (Option.getD (targV (Prod.fst (Prod.snd (List.getD ns (Int.toNat i) (Ty.dflt RR)))) (Prod.snd (Prod.snd (Prod.snd (Prod.snd (List.getD ns (Int.toNat i) (Ty.dflt RR))))))) []) (1 : Int)) else l)]))) Tr.no) Tr.no) Tr.no) Tr.no) Tr.no) Tr.no) Tr.no) (Tr.ret (Sum.inr (Ex.exit 0, stOf [5] [AV.rowA 0] [LObj.row RR l])))
set_option maxRecDepth 1000000 in
theorem round23o (ns : List (List UInt8 × (Int × (Int × (Int × List UInt8))))) (i : Int) (ap : List UInt8) (zr : List (List UInt8 × (Int × (Int × (Int × List UInt8))))) (l : List (List UInt8 × (Int × (Int × (Int × List UInt8))))) : evC T0 (orcB [fs53w, fs48w, fs54w] []) (lpOf h23 0 (lsOf [ls23i])) b23o 0 (stOf [1, 2, 5, 6] [.list RR ns, .ptr 0 0, .rowA 1, .int .i64 i] [.box [.str ap, .list RR zr], .row RR l]) (roundK [1, 2, 5, 6] [5] 0) = (r23o ns i ap zr l).get := by kernel_rfl
def t23 (z : (List UInt8 × List (List UInt8 × (Int × (Int × (Int × List UInt8)))))) (ns : List (List UInt8 × (Int × (Int × (Int × List UInt8))))) : Tr Res := Tr.br (rgO (Prod.fst z) (Prod.snd z) ns [] (0 : Int)) (Tr.ret ([AV.list RR (glueV z ns)], [])) Tr.no
set_option maxRecDepth 1000000 in
theorem fn23 (z : (List UInt8 × List (List UInt8 × (Int × (Int × (Int × List UInt8)))))) (ns : List (List UInt8 × (Int × (Int × (Int × List UInt8))))) : evC T0 (orcB [fs53w, fs48w, fs54w] []) (lpOf h23 0 (lsOf [ls23o])) c23 1000000 (startSt [AV.ofTy ZN z true, .list RR ns] [] Try.f23.ntmps) (finishK T0 false 0 Try.f23) = (t23 z ns).get := by kernel_rfl
def fs23 : FSpec := fsT 23 [(ZN, true), ((.list RR), false)] [((.list RR), false)] fun (z, ns, _) => t23 z ns
def fs23w : FSpec := fs23.like fun (z, ns, _) => .on (gnOk z ns) (glueV z ns, ())
end Go.Proofs.YtkobjdhbfepkaaaE
namespace Go.Proofs.YtkobjdhbfepkaaaE
open Go Go.Proofs.YtkobjdhbfepkaaaB
set_option linter.unusedVariables false
set_option linter.unusedSimpArgs false
set_option maxRecDepth 100000
def joC (l : List (List UInt8)) (s : List UInt8) (i : Int) : Bool := (l.all fun x => decide (1 ≤ x.length) && (decide (x.length ≤ 63) && (foldB x == x))) && (Nat.ble l.length 1000 && (s.isEmpty && decide (i = 0)))
def joL (l : List (List UInt8)) : List UInt8 := (l.map fun x => UInt8.ofNat x.length :: x).flatten
noncomputable def b47 : Code := nthLoop c47 0
def ls47 : LoopSpec := { bid := 0, sh := [.d (.list .str) false, .d .str false, .d (.int .i64) false], so := [], F := fun (l, s, i, _) _ => .on (joC l s i) (.exit 0, [.dead, .dead, .str (joL l)], []) }
def r47 (l : List (List UInt8)) (s : List UInt8) (i : Int) : Tr (St ⊕ (Ex × St)) := Tr.br (decide (i < (↑(List.length l) : Int))) (Tr.br (decide ((0 : Int) ≤ i)) (Tr.br (decide (i < (↑(List.length l) : Int))) (Tr.br (decide ((↑(List.length (List.getD l (Int.toNat i) (Ty.dflt Ty.str))) : Int) < (1 : Int))) (Tr.ret (Sum.inr (Ex.ret, stOf [2, 3, 4] [AV.str [], AV.int IntKind.i64 (2 : Int), AV.str s] []))) (Tr.br (decide ((0 : Int) ≤ i)) (Tr.br (decide (i < (↑(List.length l) : Int))) (Tr.br (decide ((↑(List.length (List.getD l (Int.toNat i) (Ty.dflt Ty.str))) : Int) > (63 : Int))) (Tr.ret (Sum.inr (Ex.ret, stOf [2, 3, 4] [AV.str [], AV.int IntKind.i64 (2 : Int), AV.str s] []))) (Tr.br (decide ((0 : Int) ≤ i)) (Tr.br (decide (i < (↑(List.length l) : Int))) (Tr.br (Nat.ble (List.length s + List.length (intBytes [IntKind.wrap IntKind.u8 (↑(List.length (List.getD l (Int.toNat i) (Ty.dflt Ty.str))) : Int)])) 9223372036854775807) (Tr.br (decide ((0 : Int) ≤ i)) (Tr.br (decide (i < (↑(List.length l) : Int))) (Tr.br (bigS (List.getD l (Int.toNat i) (Ty.dflt Ty.str))) (Tr.br (Nat.ble (List.length (s ++ intBytes [IntKind.wrap IntKind.u8 (↑(List.length (List.getD l (Int.toNat i) (Ty.dflt Ty.str))) : Int)]) + List.length (foldB (List.getD l (Int.toNat i) (Ty.dflt Ty.str)))) 9223372036854775807) (Tr.ret (Sum.inl (stOf [0, 4, 5] [AV.list Ty.str l, AV.str (s ++ intBytes [IntKind.wrap IntKind.u8 (↑(List.length (List.getD l (Int.toNat i) (Ty.dflt Ty.str))) : Int)] ++ foldB (List.getD l (Int.toNat i) (Ty.dflt Ty.str))), AV.int IntKind.i64 (IntKind.wrap IntKind.i64 (i + (1 : Int)))] []))) Tr.no) Tr.no) Tr.no) Tr.no) Tr.no) Tr.no) Tr.no)) Tr.no) Tr.no)) Tr.no) Tr.no) (Tr.ret (Sum.inr (Ex.exit 0, stOf [2, 3, 4] [AV.dead, AV.dead, AV.str s] [])))
set_option maxRecDepth 1000000 in
theorem round47 (lp : Lp) (l : List (List UInt8)) (s : List UInt8) (i : Int) : evC T0 (orcB [fs76w] []) lp b47 0 (stOf [0, 4, 5] [.list .str l, .str s, .int .i64 i] []) (roundK [0, 4, 5] [2, 3, 4] 0) = (r47 l s i).get := by kernel_rfl
theorem mem_getD {α : Type} {l : List α} {k : Nat} (hk : k < l.length) (x : α) : l.getD k x ∈ l := by
  rw [List.getD_eq_getElem?_getD, List.getElem?_eq_getElem hk]
  exact List.getElem_mem hk
def t47 (l : List (List UInt8)) : Tr Res := Tr.br (joC l ([]) (0 : Int)) (Tr.br (decide ((↑(List.length (joL l)) : Int) > (254 : Int))) (Tr.ret ([AV.str [], AV.int IntKind.i64 (3 : Int)], [])) (Tr.br (Nat.ble (List.length (joL l) + List.length ([0])) 9223372036854775807) (Tr.ret ([AV.str (joL l ++ [0]), AV.int IntKind.i64 (0 : Int)], [])) Tr.no)) Tr.no
set_option maxRecDepth 1000000 in
theorem fn47 (l : List (List UInt8)) : evC T0 (orcB [fs76w] []) (lpOf h47 0 (lsOf [ls47])) c47 1000000 (startSt [.list .str l] [] Try.f47.ntmps) (finishK T0 false 0 Try.f47) = (t47 l).get := by kernel_rfl
def fs47 : FSpec := fsT 47 [((.list .str), false)] [(.str, false), ((.int .i64), false)] fun (l, _) => t47 l
def joK (l : List (List UInt8)) : Bool := (l.all fun x => decide (1 ≤ x.length) && (decide (x.length ≤ 63) && (foldB x == x))) && (Nat.ble l.length 1000 && Nat.ble (joL l).length 254)
def fs47w : FSpec := fs47.like fun (l, _) => .on (joK l) (joinV l, (0 : Int), ())
def cutB2 (z : ZNt) (n : List UInt8) : Bool := !(ofV z n 2).isEmpty
def cutW (z : ZNt) (n : List UInt8) : Option (List UInt8) := if n = z.1 then none else if h : n = [] ∨ n = [0] then none else match cutW z (tlN n) with | some c => some c | none => if cutB2 z n = true then some n else none
termination_by n.length
decreasing_by exact tlN_lt (fun e => h (.inl e))
def cuC (ap : List UInt8) (zr : List RRt) (n cut : List UInt8) (is ok : Bool) : Bool := smZ (ap, zr) && (smN n && (cut.isEmpty && (!is && (ok == undV n ap))))
noncomputable def b17 : Code := nthLoop c17 0
def ls17 : LoopSpec := { bid := 0, sh := [.d .str false, .ptr 0 0, .d .str false, .d .bool false, .d .bool false], so := [.box [.d .str false, .d (.list RR) false]], F := fun (n, cut, is, ok, _) ((ap, zr, _), _) => .on (cuC ap zr n cut is ok) (.exit 0, [.str (bif undV n ap then (cutW (ap, zr) n).getD [] else []), .bool (undV n ap && (cutW (ap, zr) n).isSome)], []) }
def r17 (n : List UInt8) (cut : List UInt8) (is : Bool) (ok : Bool) (ap : List UInt8) (zr : List (List UInt8 × (Int × (Int × (Int × List UInt8))))) : Tr (St ⊕ (Ex × St)) := Tr.br ok (Tr.br (!n == ap) (Tr.br (smZ (ap, zr)) (Tr.br (decide ((↑(List.length (ofV (ap, zr) n (2 : Int))) : Int) > (0 : Int))) (Tr.br (bigS n) (Tr.br (mayV n && !n == [0]) (Tr.ret (Sum.inl (stOf [1, 2, 6, 7, 8] [AV.str (tlN n), AV.ptr 0 0, AV.str n, AV.bool true, AV.bool true] [LObj.boxT none [AV.str ap, AV.list RR zr]]))) (Tr.ret (Sum.inl (stOf [1, 2, 6, 7, 8] [AV.str [], AV.ptr 0 0, AV.str n, AV.bool true, AV.bool false] [LObj.boxT none [AV.str ap, AV.list RR zr]])))) Tr.no) (Tr.br (bigS n) (Tr.br (mayV n && !n == [0]) (Tr.ret (Sum.inl (stOf [1, 2, 6, 7, 8] [AV.str (tlN n), AV.ptr 0 0, AV.str cut, AV.bool is, AV.bool true] [LObj.boxT none [AV.str ap, AV.list RR zr]]))) (Tr.ret (Sum.inl (stOf [1, 2, 6, 7, 8] [AV.str [], AV.ptr 0 0, AV.str cut, AV.bool is, AV.bool false] [LObj.boxT none [AV.str ap, AV.list RR zr]])))) Tr.no)) Tr.no) (Tr.ret (Sum.inr (Ex.exit 0, stOf [6, 7] [AV.str cut, AV.bool is] [])))) (Tr.ret (Sum.inr (Ex.exit 0, stOf [6, 7] [AV.str cut, AV.bool is] [])))
set_option maxRecDepth 1000000 in
theorem round17 (lp : Lp) (n : List UInt8) (cut : List UInt8) (is : Bool) (ok : Bool) (ap : List UInt8) (zr : List (List UInt8 × (Int × (Int × (Int × List UInt8))))) : evC T0 (orcB [fs31w, fs42w, fs43w] []) lp b17 0 (stOf [1, 2, 6, 7, 8] [.str n, .ptr 0 0, .str cut, .bool is, .bool ok] [.box [.str ap, .list RR zr]]) (roundK [1, 2, 6, 7, 8] [6, 7] 0) = (r17 n cut is ok ap zr).get := by kernel_rfl
theorem wf17 (ap : List UInt8) (zr : List (List UInt8 × (Int × (Int × (Int × List UInt8))))) (I'' : List UInt8 → List UInt8 → Bool → Bool → Prop) (m'' : List UInt8 → List UInt8 → Bool → Bool → Nat) (r'' : Ex × St) (h : ∀ (n : List UInt8) (cut : List UInt8) (is : Bool) (ok : Bool), I'' n cut is ok → (r17 n cut is ok ap zr).all fun x'' => x'' = .inr r'' ∨ ∃ (n' : List UInt8) (cut' : List UInt8) (is' : Bool) (ok' : Bool), x'' = .inl (stOf [1, 2, 6, 7, 8] [.str n', .ptr 0 0, .str cut', .bool is', .bool ok'] [.box [.str ap, .list RR zr]]) ∧ I'' n' cut' is' ok' ∧ m'' n' cut' is' ok' < m'' n cut is ok) (lp : Lp) (n : List UInt8) (cut : List UInt8) (is : Bool) (ok : Bool) : I'' n cut is ok →
    loopF (fun st => evC T0 (orcB [fs31w, fs42w, fs43w] []) lp b17 0 st (roundK [1, 2, 6, 7, 8] [6, 7] 0)) (stOf [1, 2, 6, 7, 8] [.str n, .ptr 0 0, .str cut, .bool is, .bool ok] [.box [.str ap, .list RR zr]]) = some r'' :=
  loop_tr (fun a'' : List UInt8 × List UInt8 × Bool × Bool => stOf [1, 2, 6, 7, 8] [.str a''.1, .ptr 0 0, .str a''.2.1, .bool a''.2.2.1, .bool a''.2.2.2] [.box [.str ap, .list RR zr]]) (fun a'' => I'' a''.1 a''.2.1 a''.2.2.1 a''.2.2.2) (fun a'' => m'' a''.1 a''.2.1 a''.2.2.1 a''.2.2.2) r'' (fun a'' => r17 a''.1 a''.2.1 a''.2.2.1 a''.2.2.2 ap zr)
    (fun a'' x hx => (round17 lp a''.1 a''.2.1 a''.2.2.1 a''.2.2.2 ap zr).trans hx) (fun a'' ha => Tr.all_mono (fun x'' hx => hx.imp id fun ⟨n', cut', is', ok', h1, h2, h3⟩ => ⟨(n', cut', is', ok'), h1, h2, h3⟩) (h (a''.1) (a''.2.1) (a''.2.2.1) (a''.2.2.2) ha)) (n, cut, is, ok)
def resC (o : Option (List UInt8)) (p : List UInt8 × Bool) : List UInt8 × Bool := match o with | some c => (c, true) | none => p
theorem resC_none (o : Option (List UInt8)) : resC o ([], false) = (o.getD [], o.isSome) := by cases o <;> rfl
theorem und_step {n ap : List UInt8} (h : undV n ap = true) (hne : n ≠ ap) : mayV n = true ∧ n ≠ [0] ∧ n ≠ [] ∧ undV (tlN n) ap = true := by
  unfold undV at h
  rw [Bool.and_eq_true, Bool.and_eq_true] at h
  obtain ⟨h1, h2, h3⟩ := h
  rw [sufB, if_neg hne] at h3
  have hn := may_ne h2
  by_cases h0 : n = [0]
  · rw [dif_pos (.inr h0)] at h3; cases h3
  · rw [dif_neg (by simp [hn, h0])] at h3
    refine ⟨h2, h0, hn, ?_⟩
    unfold undV
    rw [h1, may_tl h2 h0, h3]
    rfl
theorem cutW_step {z : ZNt} {n : List UInt8} (h1 : n ≠ z.1) (h2 : n ≠ []) (h3 : n ≠ [0]) (p : List UInt8 × Bool) : resC (cutW z n) p = resC (cutW z (tlN n)) (if cutB2 z n = true then (n, true) else p) := by
  rw [cutW, if_neg h1, dif_neg (by simp [h2, h3])]
  cases cutW z (tlN n) with
  | some c => rfl
  | none => by_cases hb : cutB2 z n = true <;> simp [resC, hb]
theorem cutB2_dec (z : ZNt) (n : List UInt8) : decide (((ofV z n 2).length : Int) > 0) = cutB2 z n := by
  unfold cutB2
  cases ofV z n 2 <;> simp
def cuI (ap : List UInt8) (zr : List RRt) (n0 n cut : List UInt8) (is ok : Bool) : Prop :=
  (undV n0 ap = false ∧ ok = false ∧ cut = [] ∧ is = false) ∨ (undV n0 ap = true ∧ ok = true ∧ undV n ap = true ∧ n.length ≤ 1000000 ∧ resC (cutW (ap, zr) n) (cut, is) = resC (cutW (ap, zr) n0) ([], false))
theorem loop17 : ls17.Ok T0 (orcB [fs31w, fs42w, fs43w] []) h17 0 0 b17 := by
  intro q'' hq'' x'' y'' r'' h
  obtain ⟨(n : List UInt8), (cut : List UInt8), (is : Bool), (ok : Bool), _⟩ := x''
  obtain ⟨⟨(ap : List UInt8), (zr : List (List UInt8 × (Int × (Int × (Int × List UInt8))))), _⟩, _⟩ := y''
  obtain ⟨hc, rfl⟩ := Tr.get_on h
  show loopF (fun st => evC T0 (orcB [fs31w, fs42w, fs43w] []) (lpN T0 (orcB [fs31w, fs42w, fs43w] []) h17 0 q'') b17 0 st (roundK [1, 2, 6, 7, 8] [6, 7] 0)) (stOf [1, 2, 6, 7, 8] [.str n, .ptr 0 0, .str cut, .bool is, .bool ok] [.box [.str ap, .list RR zr]]) = some (.exit 0, stOf [6, 7] ([.str (bif undV n ap then (cutW (ap, zr) n).getD [] else []), .bool (undV n ap && (cutW (ap, zr) n).isSome)]) ([]))
  simp only [cuC, Bool.and_eq_true, beq_iff_eq, List.isEmpty_iff, Bool.not_eq_true'] at hc
  obtain ⟨hz, hn, rfl, rfl, rfl⟩ := hc
  have hn := smN_iff.1 hn
  refine wf17 ap zr (cuI ap zr n) (fun n _ _ _ => n.length) _ ?_ _ n [] false (undV n ap) (by
    cases hu : undV n ap with
    | false => exact .inl ⟨hu, rfl, rfl, rfl⟩
    | true => exact .inr ⟨hu, rfl, hu, hn, rfl⟩)
  rintro n' cut is ok hI
  unfold r17
  rcases hI with ⟨h1, rfl, rfl, rfl⟩ | ⟨h1, rfl, h2, h3, he⟩
  · refine Tr.all_f rfl (Tr.all_ret (.inl ?_))
    rw [h1]
    rfl
  · rw [h1]
    rw [resC_none] at he
    by_cases hq : n' = ap
    · refine Tr.all_t rfl (Tr.all_f (by simpa using hq) (Tr.all_ret (.inl ?_)))
      rw [cutW, if_pos hq] at he
      simp only [resC, Prod.mk.injEq] at he
      rw [he.1, he.2]
      rfl
    · obtain ⟨s1, s2, s3, s4⟩ := und_step h2 hq
      have hlt := tlN_lt s3
      rw [cutW_step hq s3 s2] at he
      rw [cutB2_dec]
      refine Tr.all_t rfl (Tr.all_t (by simpa using hq) (Tr.all_t hz (Tr.all_br (fun hb => Tr.all_t (len_big (by omega)) (Tr.all_t (by rw [s1]; simpa using s2) (Tr.all_ret (.inr ?_)))) fun hb => Tr.all_t (len_big (by omega)) (Tr.all_t (by rw [s1]; simpa using s2) (Tr.all_ret (.inr ?_))))))
      · rw [if_pos hb] at he
        exact ⟨_, _, _, _, rfl, .inr ⟨h1, rfl, s4, by omega, by rw [resC_none]; exact he⟩, hlt⟩
      · rw [if_neg (by rw [hb]; simp)] at he
        exact ⟨_, _, _, _, rfl, .inr ⟨h1, rfl, s4, by omega, by rw [resC_none]; exact he⟩, hlt⟩
def t17 (z : (List UInt8 × List (List UInt8 × (Int × (Int × (Int × List UInt8)))))) (n : List UInt8) : Tr Res := Tr.br (smN n && smN (Prod.fst z)) (Tr.br (cuC (Prod.fst z) (Prod.snd z) n ([]) false (undV n (Prod.fst z))) (Tr.ret ([AV.str (bif undV n (Prod.fst z) then Option.getD (cutW z n) [] else []), AV.bool (undV n (Prod.fst z) && Option.isSome (cutW z n))], [])) Tr.no) Tr.no
def os17 : OSpec := { f := 17, sh := [.d ZN true, .d .str false], so := [], F := fun (z, n, _) _ => t17 z n }
set_option maxRecDepth 1000000 in
theorem fn17 (z : (List UInt8 × List (List UInt8 × (Int × (Int × (Int × List UInt8)))))) (n : List UInt8) : evC T0 (orcB [fs31w, fs42w, fs43w] []) (lpOf h17 0 (lsOf [ls17])) c17 1000000 (startSt [AV.ofTy ZN z true, .str n] [] Try.f17.ntmps) (finishK T0 false 0 Try.f17) = (t17 z n).get := by kernel_rfl
theorem ok17 : os17.Ok Try.prog := by
  refine os_ok mixed0 tab0 (orcB_sound (all_cons okf31w (all_cons okf42w (all_cons okf43w all_nil))) all_nil) h17 (d := 0) (n0 := 0) (S := lsOf [ls17]) Try.func17 (by kernel_rfl) (c := c17) (by kernel_rfl) rfl (loops_eq (xs := [(0, b17)]) (by kernel_rfl) (all_cons (ls_here loop17) all_nil)) (by omega) (by kernel_rfl) ?_
  intro x'' y'' q'' hq''
  obtain ⟨(z : (List UInt8 × List (List UInt8 × (Int × (Int × (Int × List UInt8)))))), (n : List UInt8), _⟩ := x''
  exact (fn17 z n).trans hq''
def fs17 : FSpec := fsT 17 [(ZN, true), (.str, false)] [(.str, false), (.bool, false)] fun (z, n, _) => t17 z n
theorem okf17 : fs17.Ok Try.prog := fsT_ok fun x'' r'' hr'' => ok17 x'' () r'' hr''
def cutV (z : ZNt) (n : List UInt8) : List UInt8 × Bool := bif undV n z.1 then resC (cutW z n) ([], false) else ([], false)
def fs17w : FSpec := fs17.like fun (z, n, _) => .on (smZ z && smN n) ((cutV z n).1, (cutV z n).2, ())
theorem okf17w : fs17w.Ok Try.prog := by
  refine flike_ok okf17 _ ?_
  rintro ⟨(z : ZNt), (n : List UInt8), _⟩ y h
  obtain ⟨hb, rfl⟩ := Tr.get_on h
  obtain ⟨hz, hn⟩ := Bool.and_eq_true_iff.1 (show (smZ z && smN n) = true from hb)
  obtain ⟨z1, z2⟩ := smZ_iff.1 hz
  refine convR_of (vs := [.str (cutV z n).1, .bool (cutV z n).2]) rfl rfl (Tr.get_of_all ?_)
  show (t17 z n).all _
  unfold t17
  refine Tr.all_t (by rw [hn, z1]; rfl) (Tr.all_t ?_ (Tr.all_ret ?_))
  · unfold cuC
    rw [show smZ (z.1, z.2) = true from hz, hn]
    simp
  · unfold cutV
    rw [resC_none]
    cases undV n z.1 <;> rfl
def cutR (z : ZNt) (zl : List (List UInt8)) : List (List UInt8) → Option (List UInt8)
  | [] => none
  | x :: xs => if x :: xs = zl then none else match cutR z zl xs with | some c => some c | none => if cutB2 z (joinV (x :: xs)) = true then some (joinV (x :: xs)) else none
def rcC (ap : List UInt8) (zr : List RRt) (l : List (List UInt8)) (k : Int) : Bool := smZ (ap, zr) && (joK l && (mayV ap && (sfxB l (labsV ap) && decide (k = ((labsV ap).length : Int) + 1))))
noncomputable def b18 : Code := nthLoop c18 0
def ls18 : LoopSpec := { bid := 0, sh := [.ptr 0 0, .d (.list .str) false, .d (.int .i64) false], so := [.box [.d .str false, .d (.list RR) false]], F := fun (l, k, _) ((ap, zr, _), _) => .on2 (rcC ap zr l k) ((cutR (ap, zr) (labsV ap) l).isNone) (.exit 0, [.dead, .dead], []) (.ret, [.str ((cutR (ap, zr) (labsV ap) l).getD []), .bool true], []) }
def r18 (l : List (List UInt8)) (k : Int) (ap : List UInt8) (zr : List (List UInt8 × (Int × (Int × (Int × List UInt8))))) : Tr (St ⊕ (Ex × St)) := Tr.br (decide (k ≤ (↑(List.length l) : Int))) (Tr.br (decide ((0 : Int) ≤ (↑(List.length l) : Int)) && decide ((↑(List.length l) : Int) ≤ (↑(List.length l) : Int))) (Tr.br (decide ((0 : Int) ≤ IntKind.wrap IntKind.i64 ((↑(List.length l) : Int) - k)) && decide (IntKind.wrap IntKind.i64 ((↑(List.length l) : Int) - k) ≤ (↑(List.length l) : Int))) (Tr.br (joK (List.take (Int.toNat (↑(List.length l) : Int) - Int.toNat (IntKind.wrap IntKind.i64 ((↑(List.length l) : Int) - k))) (List.drop (Int.toNat (IntKind.wrap IntKind.i64 ((↑(List.length l) : Int) - k))) l))) (Tr.br (smZ (ap, zr)) (Tr.br (decide ((↑(List.length (ofV (ap, zr) (joinV (List.take (Int.toNat (↑(List.length l) : Int) - Int.toNat (IntKind.wrap IntKind.i64 ((↑(List.length l) : Int) - k))) (List.drop (Int.toNat (IntKind.wrap IntKind.i64 ((↑(List.length l) : Int) - k))) l))) (2 : Int))) : Int) > (0 : Int))) (Tr.ret (Sum.inr (Ex.ret, stOf [4, 5] [AV.str (joinV (List.take (Int.toNat (↑(List.length l) : Int) - Int.toNat (IntKind.wrap IntKind.i64 ((↑(List.length l) : Int) - k))) (List.drop (Int.toNat (IntKind.wrap IntKind.i64 ((↑(List.length l) : Int) - k))) l))), AV.bool true] []))) (Tr.ret (Sum.inl (stOf [2, 6, 8] [AV.ptr 0 0, AV.list Ty.str l, AV.int IntKind.i64 (IntKind.wrap IntKind.i64 (k + (1 : Int)))] [LObj.boxT none [AV.str ap, AV.list RR zr]])))) Tr.no) Tr.no) Tr.no) Tr.no) (Tr.ret (Sum.inr (Ex.exit 0, stOf [4, 5] [AV.dead, AV.dead] [])))
set_option maxRecDepth 1000000 in
theorem round18 (lp : Lp) (l : List (List UInt8)) (k : Int) (ap : List UInt8) (zr : List (List UInt8 × (Int × (Int × (Int × List UInt8))))) : evC T0 (orcB [fs44w, fs45v, fs46w, fs47w, fs48w] []) lp b18 0 (stOf [2, 6, 8] [.ptr 0 0, .list .str l, .int .i64 k] [.box [.str ap, .list RR zr]]) (roundK [2, 6, 8] [4, 5] 0) = (r18 l k ap zr).get := by kernel_rfl
def t18 (z : (List UInt8 × List (List UInt8 × (Int × (Int × (Int × List UInt8)))))) (n : List UInt8) : Tr Res := Tr.br (smN n && smN (Prod.fst z)) (Tr.br (!undV n (Prod.fst z)) (Tr.ret ([AV.str [], AV.bool false], [])) (Tr.br (bigS n) (Tr.br (rootV n) (Tr.br (decide (List.length n > 255)) (Tr.br (bigS (Prod.fst z)) (Tr.br (rcC (Prod.fst z) (Prod.snd z) [] (IntKind.wrap IntKind.i64 (depV (Prod.fst z) + (1 : Int)))) (Tr.ret ([AV.str [], AV.bool false], [])) Tr.no) Tr.no) (Tr.br (bigS (Prod.fst z)) (Tr.br (rcC (Prod.fst z) (Prod.snd z) (labsV n) (IntKind.wrap IntKind.i64 (depV (Prod.fst z) + (1 : Int)))) (Tr.br (Option.isNone (cutR z (labsV (Prod.fst z)) (labsV n))) (Tr.ret ([AV.str [], AV.bool false], [])) (Tr.ret ([AV.str (Option.getD (cutR z (labsV (Prod.fst z)) (labsV n)) []), AV.bool true], []))) Tr.no) Tr.no)) (Tr.br (bigS (Prod.fst z)) (Tr.br (rcC (Prod.fst z) (Prod.snd z) [] (IntKind.wrap IntKind.i64 (depV (Prod.fst z) + (1 : Int)))) (Tr.ret ([AV.str [], AV.bool false], [])) Tr.no) Tr.no)) Tr.no)) Tr.no
set_option maxRecDepth 1000000 in
theorem fn18 (z : (List UInt8 × List (List UInt8 × (Int × (Int × (Int × List UInt8)))))) (n : List UInt8) : evC T0 (orcB [fs44w, fs45v, fs46w, fs47w, fs48w] []) (lpOf h18 0 (lsOf [ls18])) c18 1000000 (startSt [AV.ofTy ZN z true, .str n] [] Try.f18.ntmps) (finishK T0 false 0 Try.f18) = (t18 z n).get := by kernel_rfl
def fs18 : FSpec := fsT 18 [(ZN, true), (.str, false)] [(.str, false), (.bool, false)] fun (z, n, _) => t18 z n
def fs18w : FSpec := fs18.like fun (z, n, _) => .on (smZ z && smN n) ((cutV z n).1, (cutV z n).2, ())
end Go.Proofs.YtkobjdhbfepkaaaE
namespace Go.Proofs.YtkobjdhbfepkaaaE
open Go Go.Proofs.YtkobjdhbfepkaaaB
set_option linter.unusedVariables false
set_option linter.unusedSimpArgs false
set_option maxRecDepth 100000
def t55 (m : (Int × (Bool × (Bool × (Bool × (Bool × (Bool × (Int × (Int × (List (List UInt8 × (Int × Int)) × (List (List UInt8 × (Int × (Int × (Int × List UInt8)))) × (List (List UInt8 × (Int × (Int × (Int × List UInt8)))) × List (List UInt8 × (Int × (Int × (Int × List UInt8)))))))))))))))) (rc : Int) : Tr Res := Tr.ret ([AV.agg [AV.int IntKind.u16 (Prod.fst m), AV.bool true, AV.bool false, AV.bool false, AV.bool (Prod.fst (Prod.snd (Prod.snd (Prod.snd (Prod.snd m))))), AV.bool true, AV.int IntKind.i64 (Prod.fst (Prod.snd (Prod.snd (Prod.snd (Prod.snd (Prod.snd (Prod.snd m))))))), AV.int IntKind.i64 rc, AV.list QQ (Prod.fst (Prod.snd (Prod.snd (Prod.snd (Prod.snd (Prod.snd (Prod.snd (Prod.snd (Prod.snd m))))))))), AV.list RR [], AV.list RR [], AV.list RR []]], [])
def os55 : OSpec := { f := 55, sh := [.d MG true, .d (.int .i64) false], so := [], F := fun (m, rc, _) _ => t55 m rc }
set_option maxRecDepth 1000000 in
theorem fn55 (m : (Int × (Bool × (Bool × (Bool × (Bool × (Bool × (Int × (Int × (List (List UInt8 × (Int × Int)) × (List (List UInt8 × (Int × (Int × (Int × List UInt8)))) × (List (List UInt8 × (Int × (Int × (Int × List UInt8)))) × List (List UInt8 × (Int × (Int × (Int × List UInt8)))))))))))))))) (rc : Int) : evC T0 (orcB [] []) (lpOf h55 0 (lsOf [])) c55 1000000 (startSt [AV.ofTy MG m true, .int .i64 rc] [] Try.f55.ntmps) (finishK T0 false 0 Try.f55) = (t55 m rc).get := by kernel_rfl
theorem ok55 : os55.Ok Try.prog := by
  refine os_ok mixed0 tab0 (orcB_sound all_nil all_nil) h55 (d := 0) (n0 := 0) (S := lsOf []) Try.func55 (by kernel_rfl) (c := c55) (by kernel_rfl) rfl (no_loops (by kernel_rfl)) (by omega) (by kernel_rfl) ?_
  intro x'' y'' q'' hq''
  obtain ⟨(m : (Int × (Bool × (Bool × (Bool × (Bool × (Bool × (Int × (Int × (List (List UInt8 × (Int × Int)) × (List (List UInt8 × (Int × (Int × (Int × List UInt8)))) × (List (List UInt8 × (Int × (Int × (Int × List UInt8)))) × List (List UInt8 × (Int × (Int × (Int × List UInt8)))))))))))))))), (rc : Int), _⟩ := x''
  exact (fn55 m rc).trans hq''
def fs55 : FSpec := fsT 55 [(MG, true), ((.int .i64), false)] [(MG, true)] fun (m, rc, _) => t55 m rc
theorem okf55 : fs55.Ok Try.prog := fsT_ok fun x'' r'' hr'' => ok55 x'' () r'' hr''
def t57 (m : (Int × (Bool × (Bool × (Bool × (Bool × (Bool × (Int × (Int × (List (List UInt8 × (Int × Int)) × (List (List UInt8 × (Int × (Int × (Int × List UInt8)))) × (List (List UInt8 × (Int × (Int × (Int × List UInt8)))) × List (List UInt8 × (Int × (Int × (Int × List UInt8)))))))))))))))) (rc : Int) : Tr Res := Tr.ret ([AV.agg [AV.int IntKind.u16 (Prod.fst m), AV.bool true, AV.bool false, AV.bool false, AV.bool (Prod.fst (Prod.snd (Prod.snd (Prod.snd (Prod.snd m))))), AV.bool true, AV.int IntKind.i64 (Prod.fst (Prod.snd (Prod.snd (Prod.snd (Prod.snd (Prod.snd (Prod.snd m))))))), AV.int IntKind.i64 rc, AV.list QQ (Prod.fst (Prod.snd (Prod.snd (Prod.snd (Prod.snd (Prod.snd (Prod.snd (Prod.snd (Prod.snd m))))))))), AV.list RR [], AV.list RR [], AV.list RR []]], [])
set_option maxRecDepth 1000000 in
theorem fn57 (m : (Int × (Bool × (Bool × (Bool × (Bool × (Bool × (Int × (Int × (List (List UInt8 × (Int × Int)) × (List (List UInt8 × (Int × (Int × (Int × List UInt8)))) × (List (List UInt8 × (Int × (Int × (Int × List UInt8)))) × List (List UInt8 × (Int × (Int × (Int × List UInt8)))))))))))))))) (rc : Int) : evC T0 (orcB [] []) (lpOf h57 0 (lsOf [])) c57 1000000 (startSt [AV.ofTy MG m true, .int .i64 rc] [] Try.f57.ntmps) (finishK T0 false 0 Try.f57) = (t57 m rc).get := by kernel_rfl
def t30 (q : (List UInt8 × (Int × Int))) : Tr Res := Tr.ret ([AV.agg [AV.int IntKind.u16 (9 : Int), AV.bool false, AV.bool false, AV.bool false, AV.bool false, AV.bool false, AV.int IntKind.i64 (0 : Int), AV.int IntKind.i64 (0 : Int), AV.list QQ [(Prod.fst q, Prod.fst (Prod.snd q), Prod.snd (Prod.snd q))], AV.list RR [], AV.list RR [], AV.list RR []]], [])
def os30 : OSpec := { f := 30, sh := [.d QQ true], so := [], F := fun (q, _) _ => t30 q }
set_option maxRecDepth 1000000 in
theorem fn30 (q : (List UInt8 × (Int × Int))) : evC T0 (orcB [] []) (lpOf h30 0 (lsOf [])) c30 1000000 (startSt [AV.ofTy QQ q true] [] Try.f30.ntmps) (finishK T0 false 0 Try.f30) = (t30 q).get := by kernel_rfl
theorem ok30 : os30.Ok Try.prog := by
  refine os_ok mixed0 tab0 (orcB_sound all_nil all_nil) h30 (d := 0) (n0 := 0) (S := lsOf []) Try.func30 (by kernel_rfl) (c := c30) (by kernel_rfl) rfl (no_loops (by kernel_rfl)) (by omega) (by kernel_rfl) ?_
  intro x'' y'' q'' hq''
  obtain ⟨(q : (List UInt8 × (Int × Int))), _⟩ := x''
  exact (fn30 q).trans hq''
def fs30 : FSpec := fsT 30 [(QQ, true)] [(MG, true)] fun (q, _) => t30 q
theorem okf30 : fs30.Ok Try.prog := fsT_ok fun x'' r'' hr'' => ok30 x'' () r'' hr''
def maC (l w : List ZNt) (i : Int) : Bool := Nat.ble l.length 1000000 && (w.isEmpty && decide (i = 0))
noncomputable def b16 : Code := nthLoop c16 0
def ls16 : LoopSpec := { bid := 0, sh := [.d (.list ZN) false, .row 0, .d (.int .i64) false], so := [.row ZN], F := fun (l, i, _) (w, _) => .on (maC l w i) (.exit 0, [.rowA 0], [.row ZN l]) }
def r16 (l : List (List UInt8 × List (List UInt8 × (Int × (Int × (Int × List UInt8)))))) (i : Int) (w : List (List UInt8 × List (List UInt8 × (Int × (Int × (Int × List UInt8)))))) : Tr (St ⊕ (Ex × St)) := Tr.br (decide (i < (↑(List.length l) : Int))) (Tr.br (decide ((0 : Int) ≤ i)) (Tr.br (decide (i < (↑(List.length l) : Int))) (Tr.br (decide ((0 : Int) ≤ i)) (Tr.br (decide (i < (↑(List.length l) : Int))) (Tr.br (fits (List.length w + 1) 40) (Tr.ret (Sum.inl (stOf [0, 3, 4] [AV.list ZN l, AV.rowA 0, AV.int IntKind.i64 (IntKind.wrap IntKind.i64 (i + (1 : Int)))] [LObj.row ZN (w ++ [List.getD l (Int.toNat i) (Ty.dflt ZN)])]))) Tr.no) Tr.no) Tr.no) Tr.no) Tr.no) (Tr.ret (Sum.inr (Ex.exit 0, stOf [3] [AV.rowA 0] [LObj.row ZN w])))
set_option maxRecDepth 1000000 in
theorem round16 (orc : Orc) (lp : Lp) (l : List (List UInt8 × List (List UInt8 × (Int × (Int × (Int × List UInt8)))))) (i : Int) (w : List (List UInt8 × List (List UInt8 × (Int × (Int × (Int × List UInt8)))))) : evC T0 orc lp b16 0 (stOf [0, 3, 4] [.list ZN l, .rowA 0, .int .i64 i] [.row ZN w]) (roundK [0, 3, 4] [3] 0) = (r16 l i w).get := by kernel_rfl
theorem wf16 (orc : Orc) (l : List (List UInt8 × List (List UInt8 × (Int × (Int × (Int × List UInt8)))))) (I'' : List (List UInt8 × List (List UInt8 × (Int × (Int × (Int × List UInt8))))) → Int → Prop) (m'' : List (List UInt8 × List (List UInt8 × (Int × (Int × (Int × List UInt8))))) → Int → Nat) (r'' : Ex × St) (h : ∀ (w : List (List UInt8 × List (List UInt8 × (Int × (Int × (Int × List UInt8)))))) (i : Int), I'' w i → (r16 l i w).all fun x'' => x'' = .inr r'' ∨ ∃ (w' : List (List UInt8 × List (List UInt8 × (Int × (Int × (Int × List UInt8)))))) (i' : Int), x'' = .inl (stOf [0, 3, 4] [.list ZN l, .rowA 0, .int .i64 i'] [.row ZN w']) ∧ I'' w' i' ∧ m'' w' i' < m'' w i) (lp : Lp) (w : List (List UInt8 × List (List UInt8 × (Int × (Int × (Int × List UInt8)))))) (i : Int) : I'' w i →
    loopF (fun st => evC T0 orc lp b16 0 st (roundK [0, 3, 4] [3] 0)) (stOf [0, 3, 4] [.list ZN l, .rowA 0, .int .i64 i] [.row ZN w]) = some r'' :=
  loop_tr (fun a'' : List (List UInt8 × List (List UInt8 × (Int × (Int × (Int × List UInt8))))) × Int => stOf [0, 3, 4] [.list ZN l, .rowA 0, .int .i64 a''.2] [.row ZN a''.1]) (fun a'' => I'' a''.1 a''.2) (fun a'' => m'' a''.1 a''.2) r'' (fun a'' => r16 l a''.2 a''.1)
    (fun a'' x hx => (round16 orc lp l a''.2 a''.1).trans hx) (fun a'' ha => Tr.all_mono (fun x'' hx => hx.imp id fun ⟨w', i', h1, h2, h3⟩ => ⟨(w', i'), h1, h2, h3⟩) (h (a''.1) (a''.2) ha)) (w, i)
theorem loop16 (orc : Orc) : ls16.Ok T0 orc h16 0 0 b16 := by
  intro q'' hq'' x'' y'' r'' h
  obtain ⟨(l : List (List UInt8 × List (List UInt8 × (Int × (Int × (Int × List UInt8)))))), (i : Int), _⟩ := x''
  obtain ⟨(w : List (List UInt8 × List (List UInt8 × (Int × (Int × (Int × List UInt8)))))), _⟩ := y''
  obtain ⟨hc, rfl⟩ := Tr.get_on h
  show loopF (fun st => evC T0 orc (lpN T0 orc h16 0 q'') b16 0 st (roundK [0, 3, 4] [3] 0)) (stOf [0, 3, 4] [.list ZN l, .rowA 0, .int .i64 i] [.row ZN w]) = some (.exit 0, stOf [3] ([.rowA 0]) ([.row ZN l]))
  simp only [maC, Bool.and_eq_true, decide_eq_true_eq, List.isEmpty_iff] at hc
  obtain ⟨hl, rfl, rfl⟩ := hc
  have hl := Nat.le_of_ble_eq_true hl
  refine wf16 _ l (fun w i => 0 ≤ i ∧ i ≤ l.length ∧ w ++ l.drop i.toNat = l) (fun w i => (l.length - i).toNat) _ ?_ _ [] 0 ⟨by omega, by omega, rfl⟩
  rintro w i ⟨h0, h1, he⟩
  have hw : w.length ≤ 1000000 := by
    have := congrArg List.length he
    rw [List.length_append] at this
    omega
  unfold r16
  rw [wrap_succ h0 h1 (by omega)]
  by_cases hi : i < l.length
  · rw [drop_cons2 (l := l) (k := i.toNat) (by omega) (Ty.dflt ZN)] at he
    generalize hx : l.getD i.toNat (Ty.dflt ZN) = x at *
    refine Tr.all_t (dec_true hi) (Tr.all_t (dec_true h0) (Tr.all_t (dec_true hi) (Tr.all_t (dec_true h0) (Tr.all_t (dec_true hi) (Tr.all_t (fits_true (by omega) (by omega)) (Tr.all_ret (.inr ⟨_, _, rfl, ⟨by omega, by omega, ?_⟩, by omega⟩)))))))
    rw [show (i + 1).toNat = i.toNat + 1 by omega, List.append_assoc]
    exact he
  · refine Tr.all_f (dec_false hi) (Tr.all_ret (.inl ?_))
    rw [show i.toNat = l.length by omega, List.drop_length, List.append_nil] at he
    rw [he]
def t16 (l : List (List UInt8 × List (List UInt8 × (Int × (Int × (Int × List UInt8)))))) : Tr Res := Tr.br (maC l [] (0 : Int)) (Tr.ret ([AV.list ZN l], [])) Tr.no
def os16 : OSpec := { f := 16, sh := [.d (.list ZN) false], so := [], F := fun (l, _) _ => t16 l }
set_option maxRecDepth 1000000 in
theorem fn16 (l : List (List UInt8 × List (List UInt8 × (Int × (Int × (Int × List UInt8)))))) : evC T0 (orcB [] []) (lpOf h16 0 (lsOf [ls16])) c16 1000000 (startSt [.list ZN l] [] Try.f16.ntmps) (finishK T0 false 0 Try.f16) = (t16 l).get := by kernel_rfl
theorem ok16 : os16.Ok Try.prog := by
  refine os_ok mixed0 tab0 (orcB_sound all_nil all_nil) h16 (d := 0) (n0 := 0) (S := lsOf [ls16]) Try.func16 (by kernel_rfl) (c := c16) (by kernel_rfl) rfl (loops_eq (xs := [(0, b16)]) (by kernel_rfl) (all_cons (ls_here (loop16 _)) all_nil)) (by omega) (by kernel_rfl) ?_
  intro x'' y'' q'' hq''
  obtain ⟨(l : List (List UInt8 × List (List UInt8 × (Int × (Int × (Int × List UInt8)))))), _⟩ := x''
  exact (fn16 l).trans hq''
def fs16 : FSpec := fsT 16 [((.list ZN), false)] [((.list ZN), false)] fun (l, _) => t16 l
theorem okf16 : fs16.Ok Try.prog := fsT_ok fun x'' r'' hr'' => ok16 x'' () r'' hr''
def fs16w : FSpec := fs16.like fun (l, _) => .on (Nat.ble l.length 1000000) (l, ())
theorem okf16w : fs16w.Ok Try.prog := by
  refine flike_ok okf16 _ ?_
  rintro ⟨(l : List ZNt), _⟩ y h
  obtain ⟨hb, rfl⟩ := Tr.get_on h
  refine convR_of (vs := [.list ZN l]) rfl rfl (Tr.get_of_all ?_)
  show (t16 l).all _
  exact Tr.all_t (by unfold maC; rw [show Nat.ble l.length 1000000 = true from hb]; rfl) (Tr.all_ret rfl)
def rrFew (rs : List RRt) : Bool := rs.all fun r => decide (r.1.length ≤ 300) && decide (r.2.2.2.2.length ≤ 300)
def znAt (l : List ZNt) (i : Int) : ZNt := l.getD i.toNat (Ty.dflt ZN)
def fwI (l : List ZNt) (i k : Int) : Bool := decide (0 ≤ i) && (decide (i < (l.length : Int)) && (decide (k = 0) && Nat.ble (znAt l i).2.length 1000000))
noncomputable def b15i : Code := nthLoop (nthLoop c15 0) 0
def ls15i : LoopSpec := { bid := 2, sh := [.d (.list ZN) false, .d (.int .i64) false, .d (.int .i64) false], so := [], F := fun (l, i, k, _) _ => .on2 (fwI l i k) (rrFew (znAt l i).2) (.exit 2, [.list ZN l, .dead, .int .i64 i], []) (.ret, [.list ZN l, .bool false, .int .i64 i], []) }
def r15i (l : List (List UInt8 × List (List UInt8 × (Int × (Int × (Int × List UInt8)))))) (i : Int) (k : Int) : Tr (St ⊕ (Ex × St)) := Tr.br (decide ((0 : Int) ≤ i)) (Tr.br (decide (i < (↑(List.length l) : Int))) (Tr.br (decide (k < (↑(List.length (Prod.snd (List.getD l (Int.toNat i) (Ty.dflt ZN)))) : Int))) (Tr.br (decide ((0 : Int) ≤ i)) (Tr.br (decide (i < (↑(List.length l) : Int))) (Tr.br (decide ((0 : Int) ≤ k)) (Tr.br (decide (k < (↑(List.length (Prod.snd (List.getD l (Int.toNat i) (Ty.dflt ZN)))) : Int))) (Tr.br (decide ((↑(List.length (Prod.fst (List.getD (Prod.snd (List.getD l (Int.toNat i) (Ty.dflt ZN))) (Int.toNat k) (Ty.dflt RR)))) : Int) > (300 : Int))) (Tr.ret (Sum.inr (Ex.ret, stOf [0, 2, 3] [AV.list ZN l, AV.bool false, AV.int IntKind.i64 i] []))) (Tr.br (decide ((0 : Int) ≤ i)) (Tr.br (decide (i < (↑(List.length l) : Int))) (Tr.br (decide ((0 : Int) ≤ k)) (Tr.br (decide (k < (↑(List.length (Prod.snd (List.getD l (Int.toNat i) (Ty.dflt ZN)))) : Int))) (Tr.br (decide ((↑(List.length (Prod.snd (Prod.snd (Prod.snd (Prod.snd (List.getD (Prod.snd (List.getD l (Int.toNat i) (Ty.dflt ZN))) (Int.toNat k) (Ty.dflt RR))))))) : Int) > (300 : Int))) (Tr.ret (Sum.inr (Ex.ret, stOf [0, 2, 3] [AV.list ZN l, AV.bool false, AV.int IntKind.i64 i] []))) (Tr.ret (Sum.inl (stOf [0, 3, 4] [AV.list ZN l, AV.int IntKind.i64 i, AV.int IntKind.i64 (IntKind.wrap IntKind.i64 (k + (1 : Int)))] [])))) Tr.no) Tr.no) Tr.no) Tr.no)) Tr.no) Tr.no) Tr.no) Tr.no) (Tr.ret (Sum.inr (Ex.exit 2, stOf [0, 2, 3] [AV.list ZN l, AV.dead, AV.int IntKind.i64 i] [])))) Tr.no) Tr.no
set_option maxRecDepth 1000000 in
theorem round15i (orc : Orc) (lp : Lp) (l : List (List UInt8 × List (List UInt8 × (Int × (Int × (Int × List UInt8)))))) (i : Int) (k : Int) : evC T0 orc lp b15i 2 (stOf [0, 3, 4] [.list ZN l, .int .i64 i, .int .i64 k] []) (roundK [0, 3, 4] [0, 2, 3] 0) = (r15i l i k).get := by kernel_rfl
theorem wf15i (orc : Orc) (l : List (List UInt8 × List (List UInt8 × (Int × (Int × (Int × List UInt8)))))) (i : Int) (I'' : Int → Prop) (m'' : Int → Nat) (r'' : Ex × St) (h : ∀ (k : Int), I'' k → (r15i l i k).all fun x'' => x'' = .inr r'' ∨ ∃ (k' : Int), x'' = .inl (stOf [0, 3, 4] [.list ZN l, .int .i64 i, .int .i64 k'] []) ∧ I'' k' ∧ m'' k' < m'' k) (lp : Lp) (k : Int) : I'' k →
    loopF (fun st => evC T0 orc lp b15i 2 st (roundK [0, 3, 4] [0, 2, 3] 0)) (stOf [0, 3, 4] [.list ZN l, .int .i64 i, .int .i64 k] []) = some r'' :=
  loop_tr (fun a'' : Int => stOf [0, 3, 4] [.list ZN l, .int .i64 i, .int .i64 a''] []) (fun a'' => I'' a'') (fun a'' => m'' a'') r'' (fun a'' => r15i l i a'')
    (fun a'' x hx => (round15i orc lp l i a'').trans hx) (fun a'' ha => Tr.all_mono (fun x'' hx => hx.imp id fun ⟨k', h1, h2, h3⟩ => ⟨(k'), h1, h2, h3⟩) (h (a'') ha)) (k)
def rrOk (r : RRt) : Bool := decide (r.1.length ≤ 300) && decide (r.2.2.2.2.length ≤ 300)
theorem rrFew_next {rs : List RRt} {k : Nat} (hk : k < rs.length) (x : RRt) : rrFew (rs.drop k) = (rrOk (rs.getD k x) && rrFew (rs.drop (k + 1))) := by
  rw [drop_cons2 hk x]
  unfold rrFew
  rw [List.all_cons]
  rfl
theorem loop15i (orc : Orc) : ls15i.Ok T0 orc h15 0 0 b15i := by
  intro q'' hq'' x'' y'' r'' h
  obtain ⟨(l : List (List UInt8 × List (List UInt8 × (Int × (Int × (Int × List UInt8)))))), (i : Int), (k : Int), _⟩ := x''
  obtain ⟨hc, rfl⟩ := Tr.get_on2 h
  show loopF (fun st => evC T0 orc (lpN T0 orc h15 0 q'') b15i 2 st (roundK [0, 3, 4] [0, 2, 3] 0)) (stOf [0, 3, 4] [.list ZN l, .int .i64 i, .int .i64 k] []) = some ((bif rrFew (znAt l i).2 then (.exit 2, [.list ZN l, .dead, .int .i64 i], []) else (.ret, [.list ZN l, .bool false, .int .i64 i], []) : Ex × List AV × List LObj).1, stOf [0, 2, 3] (bif rrFew (znAt l i).2 then (.exit 2, [.list ZN l, .dead, .int .i64 i], []) else (.ret, [.list ZN l, .bool false, .int .i64 i], []) : Ex × List AV × List LObj).2.1 (bif rrFew (znAt l i).2 then (.exit 2, [.list ZN l, .dead, .int .i64 i], []) else (.ret, [.list ZN l, .bool false, .int .i64 i], []) : Ex × List AV × List LObj).2.2)
  simp only [fwI, Bool.and_eq_true, decide_eq_true_eq] at hc
  obtain ⟨h0, hi, rfl, hl⟩ := hc
  have hl := Nat.le_of_ble_eq_true hl
  have hz : l.getD i.toNat (Ty.dflt ZN) = znAt l i := rfl
  refine wf15i _ l i (fun k => 0 ≤ k ∧ k ≤ (znAt l i).2.length ∧ rrFew ((znAt l i).2.drop k.toNat) = rrFew (znAt l i).2) (fun k => ((znAt l i).2.length - k).toNat) _ ?_ _ 0 ⟨by omega, by omega, rfl⟩
  rintro k ⟨k0, k1, he⟩
  unfold r15i
  rw [wrap_succ k0 k1 (by omega), hz]
  refine Tr.all_t (dec_true h0) (Tr.all_t (dec_true hi) ?_)
  generalize (znAt l i).2 = rs at *
  by_cases hk : k < rs.length
  · rw [rrFew_next (k := k.toNat) (by omega) (Ty.dflt RR)] at he
    generalize rs.getD k.toNat (Ty.dflt RR) = r at *
    refine Tr.all_t (dec_true hk) (Tr.all_t (dec_true h0) (Tr.all_t (dec_true hi) (Tr.all_t (dec_true k0) (Tr.all_t (dec_true hk) (Tr.all_br (fun c1 => ?_) fun c1 => Tr.all_t (dec_true h0) (Tr.all_t (dec_true hi) (Tr.all_t (dec_true k0) (Tr.all_t (dec_true hk) (Tr.all_br (fun c2 => ?_) fun c2 => ?_)))))))))
    · have c1 := of_decide_eq_true c1
      have : rrOk r = false := by unfold rrOk; rw [dec_false (by omega)]; rfl
      rw [this] at he
      rw [← he]
      exact Tr.all_ret (.inl rfl)
    · have c2 := of_decide_eq_true c2
      have : rrOk r = false := by unfold rrOk; rw [dec_false (show ¬ r.2.2.2.2.length ≤ 300 by omega), Bool.and_false]
      rw [this] at he
      rw [← he]
      exact Tr.all_ret (.inl rfl)
    · have c1 := of_decide_eq_false c1
      have c2 := of_decide_eq_false c2
      have : rrOk r = true := by unfold rrOk; rw [dec_true (by omega), dec_true (by omega)]; rfl
      rw [this, Bool.true_and] at he
      exact Tr.all_ret (.inr ⟨_, rfl, ⟨by omega, by omega, by rw [show (k + 1).toNat = k.toNat + 1 by omega]; exact he⟩, by omega⟩)
  · refine Tr.all_f (dec_false hk) (Tr.all_ret (.inl ?_))
    rw [show k.toNat = rs.length by omega, List.drop_length] at he
    rw [← he]
    rfl
def znFew (z : ZNt) : Bool := decide (z.2.length ≤ 40) && (decide (z.1.length ≤ 300) && rrFew z.2)
def fewL (l : List ZNt) : Bool := (l.take 9).all znFew
noncomputable def b15o : Code := nthLoop c15 0
def ls15o : LoopSpec := { bid := 0, sh := [.d (.list ZN) false, .d (.int .i64) false], so := [], F := fun (l, i, _) _ => .on2 (decide (i = 0)) (fewL l) (.exit 0, [.list ZN l, .dead], []) (.ret, [.list ZN l, .bool false], []) }
def r15o (l : List (List UInt8 × List (List UInt8 × (Int × (Int × (Int × List UInt8)))))) (i : Int) : Tr (St ⊕ (Ex × St)) := Tr.br (decide (i < (↑(List.length l) : Int))) (Tr.br (decide (i < (9 : Int))) (Tr.br (decide ((0 : Int) ≤ i)) (Tr.br (decide (i < (↑(List.length l) : Int))) (Tr.br (decide ((↑(List.length (Prod.snd (List.getD l (Int.toNat i) (Ty.dflt ZN)))) : Int) > (40 : Int))) (Tr.ret (Sum.inr (Ex.ret, stOf [0, 2] [AV.list ZN l, AV.bool false] []))) (Tr.br (decide ((0 : Int) ≤ i)) (Tr.br (decide (i < (↑(List.length l) : Int))) (Tr.br (decide ((↑(List.length (Prod.fst (List.getD l (Int.toNat i) (Ty.dflt ZN)))) : Int) > (300 : Int))) (Tr.ret (Sum.inr (Ex.ret, stOf [0, 2] [AV.list ZN l, AV.bool false] []))) (Tr.br (fwI l i (0 : Int)) (Tr.br (rrFew (Prod.snd (znAt l i))) (Tr.ret (Sum.inl (stOf [0, 3] [AV.list ZN l, AV.int IntKind.i64 (IntKind.wrap IntKind.i64 (i + (1 : Int)))] []))) (Tr.ret (Sum.inr (Ex.ret, stOf [0, 2] [AV.list ZN l, AV.bool false] [])))) Tr.no)) Tr.no) Tr.no)) Tr.no) Tr.no) (Tr.ret (Sum.inr (Ex.exit 0, stOf [0, 2] [AV.list ZN l, AV.dead] [])))) (Tr.ret (Sum.inr (Ex.exit 0, stOf [0, 2] [AV.list ZN l, AV.dead] [])))
set_option maxRecDepth 1000000 in
theorem round15o (l : List (List UInt8 × List (List UInt8 × (Int × (Int × (Int × List UInt8)))))) (i : Int) : evC T0 (orcB [] []) (lpOf h15 0 (lsOf [ls15i])) b15o 0 (stOf [0, 3] [.list ZN l, .int .i64 i] []) (roundK [0, 3] [0, 2] 0) = (r15o l i).get := by kernel_rfl
theorem wf15o (l : List (List UInt8 × List (List UInt8 × (Int × (Int × (Int × List UInt8)))))) (I'' : Int → Prop) (m'' : Int → Nat) (r'' : Ex × St) (h : ∀ (i : Int), I'' i → (r15o l i).all fun x'' => x'' = .inr r'' ∨ ∃ (i' : Int), x'' = .inl (stOf [0, 3] [.list ZN l, .int .i64 i'] []) ∧ I'' i' ∧ m'' i' < m'' i) (q'' : Nat) (hq'' : 1 ≤ q'') (i : Int) : I'' i →
    loopF (fun st => evC T0 (orcB [] []) (lpN T0 (orcB [] []) h15 0 q'') b15o 0 st (roundK [0, 3] [0, 2] 0)) (stOf [0, 3] [.list ZN l, .int .i64 i] []) = some r'' :=
  loop_tr (fun a'' : Int => stOf [0, 3] [.list ZN l, .int .i64 a''] []) (fun a'' => I'' a'') (fun a'' => m'' a'') r'' (fun a'' => r15o l a'')
    (fun a'' x hx => round_of (d := 0) (S := lsOf [ls15i]) (loops_at (xs := [(2, b15i)]) (by kernel_rfl) (all_cons (ls_here (loop15i _)) all_nil)) (by omega) ((round15o l a'').trans hx)) (fun a'' ha => Tr.all_mono (fun x'' hx => hx.imp id fun ⟨i', h1, h2, h3⟩ => ⟨(i'), h1, h2, h3⟩) (h (a'') ha)) (i)
theorem loop15o : ls15o.Ok T0 (orcB [] []) h15 0 1 b15o := by
  intro q'' hq'' x'' y'' r'' h
  obtain ⟨(l : List (List UInt8 × List (List UInt8 × (Int × (Int × (Int × List UInt8)))))), (i : Int), _⟩ := x''
  obtain ⟨hc, rfl⟩ := Tr.get_on2 h
  show loopF (fun st => evC T0 (orcB [] []) (lpN T0 (orcB [] []) h15 0 q'') b15o 0 st (roundK [0, 3] [0, 2] 0)) (stOf [0, 3] [.list ZN l, .int .i64 i] []) = some ((bif fewL l then (.exit 0, [.list ZN l, .dead], []) else (.ret, [.list ZN l, .bool false], []) : Ex × List AV × List LObj).1, stOf [0, 2] (bif fewL l then (.exit 0, [.list ZN l, .dead], []) else (.ret, [.list ZN l, .bool false], []) : Ex × List AV × List LObj).2.1 (bif fewL l then (.exit 0, [.list ZN l, .dead], []) else (.ret, [.list ZN l, .bool false], []) : Ex × List AV × List LObj).2.2)
  obtain rfl := of_decide_eq_true hc
  refine wf15o l (fun i => 0 ≤ i ∧ i ≤ 9 ∧ i ≤ l.length ∧ ((l.take 9).drop i.toNat).all znFew = fewL l) (fun i => (9 - i).toNat) _ ?_ _ hq'' 0 ⟨by omega, by omega, by omega, rfl⟩
  rintro i ⟨h0, h9, h1, he⟩
  unfold r15o
  have hlt : (l.take 9).length = min 9 l.length := List.length_take
  by_cases hi : i < l.length
  · by_cases hi9 : i < 9
    · rw [drop_cons2 (l := l.take 9) (k := i.toNat) (by omega) (Ty.dflt ZN), List.all_cons, show (l.take 9).getD i.toNat (Ty.dflt ZN) = znAt l i by
        unfold znAt
        rw [List.getD_eq_getElem?_getD, List.getD_eq_getElem?_getD, List.getElem?_take, if_pos (by omega)]] at he
      have hw : fwI l i 0 = decide ((znAt l i).2.length ≤ 1000000) := by
        unfold fwI
        rw [decide_eq_true h0, decide_eq_true hi, decide_eq_true rfl]
        cases h : Nat.ble (znAt l i).2.length 1000000 with
        | true => rw [decide_eq_true (Nat.le_of_ble_eq_true h)]; rfl
        | false => rw [decide_eq_false (fun e => by rw [Nat.ble_eq_true_of_le e] at h; cases h)]; rfl
      rw [hw]
      have hz : l.getD i.toNat (Ty.dflt ZN) = znAt l i := rfl
      rw [hz, IntWalk.i64_in _ (by omega)]
      generalize znAt l i = z at *
      refine Tr.all_t (dec_true hi) (Tr.all_t (dec_true hi9) (Tr.all_t (dec_true h0) (Tr.all_t (dec_true hi) (Tr.all_br (fun c1 => ?_) fun c1 => Tr.all_t (dec_true h0) (Tr.all_t (dec_true hi) (Tr.all_br (fun c2 => ?_) fun c2 => Tr.all_t ?_ (Tr.all_br (fun c3 => ?_) fun c3 => ?_)))))))
      · have c1 := of_decide_eq_true c1
        rw [show znFew z = false by unfold znFew; rw [dec_false (by omega)]; rfl] at he
        rw [← he]
        exact Tr.all_ret (.inl rfl)
      · have c2 := of_decide_eq_true c2
        rw [show znFew z = false by unfold znFew; rw [dec_false (show ¬ z.1.length ≤ 300 by omega), Bool.false_and, Bool.and_false]] at he
        rw [← he]
        exact Tr.all_ret (.inl rfl)
      · have c1 := of_decide_eq_false c1
        exact decide_eq_true (by omega)
      · have c1 := of_decide_eq_false c1
        have c2 := of_decide_eq_false c2
        rw [show znFew z = true by unfold znFew; rw [dec_true (by omega), dec_true (by omega), c3]; rfl, Bool.true_and] at he
        exact Tr.all_ret (.inr ⟨_, rfl, ⟨by omega, by omega, by omega, by rw [show (i + 1).toNat = i.toNat + 1 by omega]; exact he⟩, by omega⟩)
      · rw [show znFew z = false by unfold znFew; rw [c3]; simp] at he
        rw [← he]
        exact Tr.all_ret (.inl rfl)
    · refine Tr.all_t (dec_true hi) (Tr.all_f (dec_false hi9) (Tr.all_ret (.inl ?_)))
      rw [List.drop_eq_nil_of_le (by omega)] at he
      rw [← he]
      rfl
  · refine Tr.all_f (dec_false hi) (Tr.all_ret (.inl ?_))
    rw [List.drop_eq_nil_of_le (by omega)] at he
    rw [← he]
    rfl
def t15 (l : List (List UInt8 × List (List UInt8 × (Int × (Int × (Int × List UInt8)))))) : Tr Res := Tr.br (fewL l) (Tr.ret ([AV.bool (decide ((↑(List.length l) : Int) ≤ (8 : Int)))], [])) (Tr.ret ([AV.bool false], []))
def os15 : OSpec := { f := 15, sh := [.d (.list ZN) false], so := [], F := fun (l, _) _ => t15 l }
set_option maxRecDepth 1000000 in
theorem fn15 (l : List (List UInt8 × List (List UInt8 × (Int × (Int × (Int × List UInt8)))))) : evC T0 (orcB [] []) (lpOf h15 0 (lsOf [ls15o])) c15 1000000 (startSt [.list ZN l] [] Try.f15.ntmps) (finishK T0 false 0 Try.f15) = (t15 l).get := by kernel_rfl
theorem ok15 : os15.Ok Try.prog := by
  refine os_ok mixed0 tab0 (orcB_sound all_nil all_nil) h15 (d := 1) (n0 := 0) (S := lsOf [ls15o]) Try.func15 (by kernel_rfl) (c := c15) (by kernel_rfl) rfl (loops_eq (xs := [(0, b15o)]) (by kernel_rfl) (all_cons (ls_here loop15o) all_nil)) (by omega) (by kernel_rfl) ?_
  intro x'' y'' q'' hq''
  obtain ⟨(l : List (List UInt8 × List (List UInt8 × (Int × (Int × (Int × List UInt8)))))), _⟩ := x''
  exact (fn15 l).trans hq''
def fs15 : FSpec := fsT 15 [((.list ZN), false)] [(.bool, false)] fun (l, _) => t15 l
theorem okf15 : fs15.Ok Try.prog := fsT_ok fun x'' r'' hr'' => ok15 x'' () r'' hr''
def fewZ (l : List ZNt) : Bool := decide (l.length ≤ 8) && l.all znFew
theorem fewZ_iff {l : List ZNt} : fewZ l = true ↔ l.length ≤ 8 ∧ ∀ z ∈ l, znFew z = true := by
  unfold fewZ
  rw [Bool.and_eq_true, decide_eq_true_eq, List.all_eq_true]
def fs15w : FSpec := fs15.like fun (l, _) => .ret (fewZ l, ())
theorem okf15w : fs15w.Ok Try.prog := by
  refine flike_ok okf15 _ ?_
  rintro ⟨(l : List ZNt), _⟩ y h
  cases h
  refine convR_of (vs := [.bool (fewZ l)]) rfl rfl (Tr.get_of_all ?_)
  show (t15 l).all _
  unfold t15 fewZ
  have hle : decide ((l.length : Int) ≤ 8) = decide (l.length ≤ 8) := by
    by_cases h : l.length ≤ 8
    · rw [dec_true h, dec_true (by omega)]
    · rw [dec_false h, dec_false (by omega)]
  have hfl : fewL l = (l.take 9).all znFew := rfl
  refine Tr.all_br (fun h => Tr.all_ret ?_) fun h => Tr.all_ret ?_
  · rw [hle]
    by_cases h8 : l.length ≤ 8
    · rw [hfl, List.take_of_length_le (by omega)] at h
      rw [h, Bool.and_true]
    · rw [dec_false h8]; rfl
  · by_cases h8 : l.length ≤ 8
    · rw [hfl, List.take_of_length_le (by omega)] at h
      rw [h, Bool.and_false]
    · rw [dec_false h8]; rfl
def rsC (xs ys : List RRt) (i : Int) : Bool := decide (xs.length = ys.length) && (Nat.ble xs.length 1000000 && decide (i = 0))
noncomputable def b21 : Code := nthLoop c21 0
def ls21 : LoopSpec := { bid := 0, sh := [.d (.list RR) false, .d (.list RR) false, .d (.int .i64) false], so := [], F := fun (xs, ys, i, _) _ => .on2 (rsC xs ys i) (decide (xs = ys)) (.exit 0, [.dead], []) (.ret, [.bool false], []) }
def r21 (xs : List (List UInt8 × (Int × (Int × (Int × List UInt8))))) (ys : List (List UInt8 × (Int × (Int × (Int × List UInt8))))) (i : Int) : Tr (St ⊕ (Ex × St)) := Tr.br (decide (i < (↑(List.length xs) : Int))) (Tr.br (decide ((0 : Int) ≤ i)) (Tr.br (decide (i < (↑(List.length xs) : Int))) (Tr.br (decide ((0 : Int) ≤ i)) (Tr.br (decide (i < (↑(List.length ys) : Int))) (Tr.br (!(Prod.fst (List.getD xs (Int.toNat i) (Ty.dflt RR)) == Prod.fst (List.getD ys (Int.toNat i) (Ty.dflt RR)) && (Prod.fst (Prod.snd (List.getD xs (Int.toNat i) (Ty.dflt RR))) == Prod.fst (Prod.snd (List.getD ys (Int.toNat i) (Ty.dflt RR))) && (Prod.fst (Prod.snd (Prod.snd (List.getD xs (Int.toNat i) (Ty.dflt RR)))) == Prod.fst (Prod.snd (Prod.snd (List.getD ys (Int.toNat i) (Ty.dflt RR)))) && (Prod.fst (Prod.snd (Prod.snd (Prod.snd (List.getD xs (Int.toNat i) (Ty.dflt RR))))) == Prod.fst (Prod.snd (Prod.snd (Prod.snd (List.getD ys (Int.toNat i) (Ty.dflt RR))))) && (Prod.snd (Prod.snd (Prod.snd (Prod.snd (List.getD xs (Int.toNat i) (Ty.dflt RR))))) == Prod.snd (Prod.snd (Prod.snd (Prod.snd (List.getD ys (Int.toNat i) (Ty.dflt RR))))) && true)))))) (Tr.ret (Sum.inr (Ex.ret, stOf [4] [AV.bool false] []))) (Tr.ret (Sum.inl (stOf [0, 1, 5] [AV.list RR xs, AV.list RR ys, AV.int IntKind.i64 (IntKind.wrap IntKind.i64 (i + (1 : Int)))] [])))) Tr.no) Tr.no) Tr.no) Tr.no) (Tr.ret (Sum.inr (Ex.exit 0, stOf [4] [AV.dead] [])))
set_option maxRecDepth 1000000 in
theorem round21 (orc : Orc) (lp : Lp) (xs : List (List UInt8 × (Int × (Int × (Int × List UInt8))))) (ys : List (List UInt8 × (Int × (Int × (Int × List UInt8))))) (i : Int) : evC T0 orc lp b21 0 (stOf [0, 1, 5] [.list RR xs, .list RR ys, .int .i64 i] []) (roundK [0, 1, 5] [4] 0) = (r21 xs ys i).get := by kernel_rfl
def t21 (xs : List (List UInt8 × (Int × (Int × (Int × List UInt8))))) (ys : List (List UInt8 × (Int × (Int × (Int × List UInt8))))) : Tr Res := Tr.br ((↑(List.length xs) : Int) != (↑(List.length ys) : Int)) (Tr.ret ([AV.bool false], [])) (Tr.br (rsC xs ys (0 : Int)) (Tr.br (decide (xs = ys)) (Tr.ret ([AV.bool true], [])) (Tr.ret ([AV.bool false], []))) Tr.no)
set_option maxRecDepth 1000000 in
theorem fn21 (xs : List (List UInt8 × (Int × (Int × (Int × List UInt8))))) (ys : List (List UInt8 × (Int × (Int × (Int × List UInt8))))) : evC T0 (orcB [] []) (lpOf h21 0 (lsOf [ls21])) c21 1000000 (startSt [.list RR xs, .list RR ys] [] Try.f21.ntmps) (finishK T0 false 0 Try.f21) = (t21 xs ys).get := by kernel_rfl
def fs21 : FSpec := fsT 21 [((.list RR), false), ((.list RR), false)] [(.bool, false)] fun (xs, ys, _) => t21 xs ys
def fs21w : FSpec := fs21.like fun (xs, ys, _) => .on (Nat.ble xs.length 1000000) (decide (xs = ys), ())
end Go.Proofs.YtkobjdhbfepkaaaE
namespace Go.Proofs.YtkobjdhbfepkaaaE
open Go Go.Proofs.YtkobjdhbfepkaaaB
set_option linter.unusedVariables false
set_option linter.unusedSimpArgs false
set_option maxRecDepth 100000
theorem sem81 (xs : List RR.den) (hc : fits xs.length 40 = true) : SemF Try.prog 81 [.list RR xs] [] [.rowA 0] [.row RR xs] := by
  have h : evNil T0 (orcOf []) (fun _ _ _ => .no) Try.f81 true 0 (cC c81).r0 (.seq (cC c81).cx (cC c81).cy) 3 4 (startSt [.list RR xs] [] Try.f81.ntmps) =
      bif fits (([] : List RR.den).length + xs.length) 40 then some (([.rowA 0], [.row RR []]), ([.rowA 0], [.row RR ([] ++ xs)]), xs.isEmpty) else none := by kernel_rfl
  rw [show fits (([] : List RR.den).length + xs.length) 40 = true by simpa using hc] at h
  exact nil_sem mixed0 tab0 (orcOf_sound [] (by simp)) Try.func81 (by kernel_rfl) (id := (cC c81).id) (ops := (cC c81).ops) (o1 := (cC c81).ops.getD 0 default) (o2 := (cC c81).ops.getD 1 default) (d1 := 3) (d2 := 4) (t := 23) (yt := 23) (e := 56)
    (by kernel_rfl) (by kernel_rfl) (by kernel_rfl) (by kernel_rfl) (by kernel_rfl) (by kernel_rfl) (by kernel_rfl) (by kernel_rfl) (by kernel_rfl) (by kernel_rfl) h rfl (fun he => by rw [List.isEmpty_iff.1 he])
def os81 : OSpec := cloneS 81 RR 40
theorem ok81 : os81.Ok Try.prog := cloneS_ok sem81
def t82 (r : (List UInt8 × (Int × (Int × (Int × List UInt8))))) : Tr Res := Tr.br (Prod.fst (Prod.snd r) != (2 : Int)) (Tr.ret ([AV.bool (Prod.fst (Prod.snd r) != (15 : Int))], [])) (Tr.ret ([AV.bool false], []))
def os82 : OSpec := { f := 82, sh := [.d RR true], so := [], F := fun (r, _) _ => t82 r }
set_option maxRecDepth 1000000 in
theorem fn82 (r : (List UInt8 × (Int × (Int × (Int × List UInt8))))) : evC T0 (orcB [] []) (lpOf h82 0 (lsOf [])) c82 1000000 (startSt [AV.ofTy RR r true] [] Try.f82.ntmps) (finishK T0 false 0 Try.f82) = (t82 r).get := by kernel_rfl
theorem ok82 : os82.Ok Try.prog := by
  refine os_ok mixed0 tab0 (orcB_sound all_nil all_nil) h82 (d := 0) (n0 := 0) (S := lsOf []) Try.func82 (by kernel_rfl) (c := c82) (by kernel_rfl) rfl (no_loops (by kernel_rfl)) (by omega) (by kernel_rfl) ?_
  intro x'' y'' q'' hq''
  obtain ⟨(r : (List UInt8 × (Int × (Int × (Int × List UInt8))))), _⟩ := x''
  exact (fn82 r).trans hq''
def leadB (r : RRt) : Bool := r.2.1 == 2 || r.2.1 == 15
def os82w : OSpec := os82.like fun (r, _) _ => .ret ([.bool (!leadB r)], [])
theorem ok82w : os82w.Ok Try.prog := by
  refine like_ok ok82 _ ?_
  rintro ⟨(r : RRt), _⟩ _ r' h
  cases h
  refine Tr.get_of_all ?_
  show (t82 r).all _
  unfold t82 leadB
  refine Tr.all_br (fun c => Tr.all_ret ?_) fun c => Tr.all_ret ?_
  · cases h : r.2.1 == 2
    · simp [bne]
    · simp [bne, h] at c
  · cases h : r.2.1 == 2
    · simp [bne, h] at c
    · rfl
def fnL : List RRt → Nat → Int
  | [], _ => -1
  | x :: l, k => if leadB x = true then fnL l (k + 1) else (k : Int)
def fnC (l : List RRt) (m i : Int) : Bool := Nat.ble l.length 1000000 && (decide (m = (l.length : Int)) && decide (i = 0))
noncomputable def b88d : Code := nthLoop c88 0
def ls88d : LoopSpec := { bid := 0, sh := [.d (.list RR) false, .fnp 82 [], .d (.int .i64) false, .d (.int .i64) false], so := [], F := fun (l, m, i, _) _ => .on2 (fnC l m i) (decide (fnL l 0 < 0)) (.exit 0, [.dead], []) (.ret, [.int .i64 (fnL l 0)], []) }
def r88d (l : List (List UInt8 × (Int × (Int × (Int × List UInt8))))) (m : Int) (i : Int) : Tr (St ⊕ (Ex × St)) := Tr.br (decide (i < m)) (Tr.br (decide ((0 : Int) ≤ i)) (Tr.br (decide (i < (↑(List.length l) : Int))) (Tr.br (!leadB (List.getD l (Int.toNat i) (Ty.dflt RR))) (Tr.ret (Sum.inr (Ex.ret, stOf [4] [AV.int IntKind.i64 i] []))) (Tr.ret (Sum.inl (stOf [0, 1, 7, 8] [AV.list RR l, AV.fn 82 [], AV.int IntKind.i64 m, AV.int IntKind.i64 (IntKind.wrap IntKind.i64 (i + (1 : Int)))] [])))) Tr.no) Tr.no) (Tr.ret (Sum.inr (Ex.exit 0, stOf [4] [AV.dead] [])))
set_option maxRecDepth 1000000 in
theorem round88d (lp : Lp) (l : List (List UInt8 × (Int × (Int × (Int × List UInt8))))) (m : Int) (i : Int) : evC T0 (orcB [] [os82w]) lp b88d 0 (stOf [0, 1, 7, 8] [.list RR l, .fn 82 [], .int .i64 m, .int .i64 i] []) (roundK [0, 1, 7, 8] [4] 0) = (r88d l m i).get := by kernel_rfl
theorem wf88d (l : List (List UInt8 × (Int × (Int × (Int × List UInt8))))) (m : Int) (I'' : Int → Prop) (m'' : Int → Nat) (r'' : Ex × St) (h : ∀ (i : Int), I'' i → (r88d l m i).all fun x'' => x'' = .inr r'' ∨ ∃ (i' : Int), x'' = .inl (stOf [0, 1, 7, 8] [.list RR l, .fn 82 [], .int .i64 m, .int .i64 i'] []) ∧ I'' i' ∧ m'' i' < m'' i) (lp : Lp) (i : Int) : I'' i →
    loopF (fun st => evC T0 (orcB [] [os82w]) lp b88d 0 st (roundK [0, 1, 7, 8] [4] 0)) (stOf [0, 1, 7, 8] [.list RR l, .fn 82 [], .int .i64 m, .int .i64 i] []) = some r'' :=
  loop_tr (fun a'' : Int => stOf [0, 1, 7, 8] [.list RR l, .fn 82 [], .int .i64 m, .int .i64 a''] []) (fun a'' => I'' a'') (fun a'' => m'' a'') r'' (fun a'' => r88d l m a'')
    (fun a'' x hx => (round88d lp l m a'').trans hx) (fun a'' ha => Tr.all_mono (fun x'' hx => hx.imp id fun ⟨i', h1, h2, h3⟩ => ⟨(i'), h1, h2, h3⟩) (h (a'') ha)) (i)
theorem fnL_neg : ∀ (l : List RRt) (k : Nat), fnL l k = -1 ∨ (k : Int) ≤ fnL l k
  | [], _ => .inl rfl
  | x :: l, k => by
    unfold fnL
    split
    · rcases fnL_neg l (k + 1) with h | h
      · exact .inl h
      · exact .inr (by omega)
    · exact .inr (Int.le_refl _)
theorem loop88d : ls88d.Ok T0 (orcB [] [os82w]) h88 0 0 b88d := by
  intro q'' hq'' x'' y'' r'' h
  obtain ⟨(l : List (List UInt8 × (Int × (Int × (Int × List UInt8))))), (m : Int), (i : Int), _⟩ := x''
  obtain ⟨hc, rfl⟩ := Tr.get_on2 h
  show loopF (fun st => evC T0 (orcB [] [os82w]) (lpN T0 (orcB [] [os82w]) h88 0 q'') b88d 0 st (roundK [0, 1, 7, 8] [4] 0)) (stOf [0, 1, 7, 8] [.list RR l, .fn 82 [], .int .i64 m, .int .i64 i] []) = some ((bif decide (fnL l 0 < 0) then (.exit 0, [.dead], []) else (.ret, [.int .i64 (fnL l 0)], []) : Ex × List AV × List LObj).1, stOf [4] (bif decide (fnL l 0 < 0) then (.exit 0, [.dead], []) else (.ret, [.int .i64 (fnL l 0)], []) : Ex × List AV × List LObj).2.1 (bif decide (fnL l 0 < 0) then (.exit 0, [.dead], []) else (.ret, [.int .i64 (fnL l 0)], []) : Ex × List AV × List LObj).2.2)
  simp only [fnC, Bool.and_eq_true, decide_eq_true_eq] at hc
  obtain ⟨hl, rfl, rfl⟩ := hc
  have hl := Nat.le_of_ble_eq_true hl
  refine wf88d l l.length (fun i => 0 ≤ i ∧ i ≤ l.length ∧ fnL (l.drop i.toNat) i.toNat = fnL l 0) (fun i => (l.length - i).toNat) _ ?_ _ 0 ⟨by omega, by omega, rfl⟩
  rintro i ⟨h0, h1, he⟩
  unfold r88d
  rw [wrap_succ h0 h1 (by omega)]
  by_cases hi : i < l.length
  · rw [drop_cons2 (l := l) (k := i.toNat) (by omega) (Ty.dflt RR), fnL] at he
    generalize l.getD i.toNat (Ty.dflt RR) = x at *
    refine Tr.all_t (dec_true hi) (Tr.all_t (dec_true h0) (Tr.all_t (dec_true hi) (Tr.all_br (fun h => ?_) fun h => ?_)))
    · rw [if_neg (by cases hx : leadB x; simp; (rw [hx] at h; cases h))] at he
      rw [← he, show ((i.toNat : Nat) : Int) = i by omega, dec_false (show ¬ i < 0 by omega)]
      exact Tr.all_ret (.inl rfl)
    · rw [if_pos (by cases hx : leadB x; (rw [hx] at h; cases h); rfl)] at he
      exact Tr.all_ret (.inr ⟨_, rfl, ⟨by omega, by omega, by rw [show (i + 1).toNat = i.toNat + 1 by omega]; exact he⟩, by omega⟩)
  · refine Tr.all_f (dec_false hi) (Tr.all_ret (.inl ?_))
    rw [List.drop_eq_nil_of_le (by omega)] at he
    rw [← he]
    rfl
def t88d (l : List (List UInt8 × (Int × (Int × (Int × List UInt8))))) : Tr Res := Tr.br (fnC l (↑(List.length l) : Int) (0 : Int)) (Tr.br (decide (fnL l 0 < (0 : Int))) (Tr.ret ([AV.int IntKind.i64 (-1 : Int)], [])) (Tr.ret ([AV.int IntKind.i64 (fnL l 0)], []))) Tr.no
def os88d : OSpec := { f := 88, sh := [.d (.list RR) false, .fnp 82 []], so := [], F := fun (l, _) _ => t88d l }
set_option maxRecDepth 1000000 in
theorem fn88d (l : List (List UInt8 × (Int × (Int × (Int × List UInt8))))) : evC T0 (orcB [] [os82w]) (lpOf h88 0 (lsOf [ls88d])) c88 1000000 (startSt [.list RR l, .fn 82 []] [] Try.f88.ntmps) (finishK T0 false 0 Try.f88) = (t88d l).get := by kernel_rfl
theorem ok88d : os88d.Ok Try.prog := by
  refine os_ok mixed0 tab0 (orcB_sound all_nil (all_cons ok82w all_nil)) h88 (d := 0) (n0 := 0) (S := lsOf [ls88d]) Try.func88 (by kernel_rfl) (c := c88) (by kernel_rfl) rfl (loops_eq (xs := [(0, b88d)]) (by kernel_rfl) (all_cons (ls_here loop88d) all_nil)) (by omega) (by kernel_rfl) ?_
  intro x'' y'' q'' hq''
  obtain ⟨(l : List (List UInt8 × (Int × (Int × (Int × List UInt8))))), _⟩ := x''
  exact (fn88d l).trans hq''
def os88e : OSpec := os88d.like fun (l, _) _ => .on (lrB l) ([.int .i64 (fnL l 0)], [])
theorem ok88e : os88e.Ok Try.prog := by
  refine like_ok ok88d _ ?_
  rintro ⟨(l : List RRt), _⟩ _ r' h
  obtain ⟨hb, rfl⟩ := Tr.get_on h
  have hb : lrB l = true := hb
  refine Tr.get_of_all ?_
  show (t88d l).all _
  unfold t88d
  refine Tr.all_t (by unfold fnC; unfold lrB at hb; rw [hb, decide_eq_true rfl]; rfl) (Tr.all_br (fun h => Tr.all_ret ?_) fun h => Tr.all_ret rfl)
  have h := of_decide_eq_true h
  rcases fnL_neg l 0 with h2 | h2
  · rw [h2]
  · omega
def ndV (l : List RRt) : List RRt := l.filter leadB
def dlC (l : List RRt) (i j : Int) : Bool := Nat.ble l.length 1000000 && (decide (0 ≤ i) && (decide (i < (l.length : Int)) && (decide (j = i + 1) && decide (ndV (l.take j.toNat) = l.take i.toNat))))
noncomputable def b80d : Code := nthLoop c80 0
def ls80d : LoopSpec := { bid := 0, sh := [.row 0, .fnp 82 [], .d (.int .i64) false, .d (.int .i64) false], so := [.row RR], F := fun (i, j, _) (l, _) => .on (dlC l i j) (.exit 0, [.rowA 0, .int .i64 ((ndV l).length : Nat)], [.row RR (ndV l ++ l.drop (ndV l).length)]) }
def r80d (i : Int) (j : Int) (l : List (List UInt8 × (Int × (Int × (Int × List UInt8))))) : Tr (St ⊕ (Ex × St)) := Tr.br (decide (j < (↑(List.length l) : Int))) (Tr.br (decide ((0 : Int) ≤ j)) (Tr.br (decide (j < (↑(List.length l) : Int))) (Tr.br (!!leadB (List.getD l (Int.toNat j) (Ty.dflt RR))) (Tr.br (decide ((0 : Int) ≤ i)) (Tr.br (decide (i < (↑(List.length l) : Int))) (Tr.ret (Sum.inl (stOf [0, 1, 5, 6] [AV.rowA 0, AV.fn 82 [], AV.int IntKind.i64 (IntKind.wrap IntKind.i64 (i + (1 : Int))), AV.int IntKind.i64 (IntKind.wrap IntKind.i64 (j + (1 : Int)))] [LObj.row RR (List.set l (Int.toNat i) (List.getD l (Int.toNat j) (Ty.dflt RR)))]))) Tr.no) Tr.no) (Tr.ret (Sum.inl (stOf [0, 1, 5, 6] [AV.rowA 0, AV.fn 82 [], AV.int IntKind.i64 i, AV.int IntKind.i64 (IntKind.wrap IntKind.i64 (j + (1 : Int)))] [LObj.row RR l])))) Tr.no) Tr.no) (Tr.ret (Sum.inr (Ex.exit 0, stOf [0, 5] [AV.rowA 0, AV.int IntKind.i64 i] [LObj.row RR l])))
set_option maxRecDepth 1000000 in
theorem round80d (lp : Lp) (i : Int) (j : Int) (l : List (List UInt8 × (Int × (Int × (Int × List UInt8))))) : evC T0 (orcB [] [os82w, os88e]) lp b80d 0 (stOf [0, 1, 5, 6] [.rowA 0, .fn 82 [], .int .i64 i, .int .i64 j] [.row RR l]) (roundK [0, 1, 5, 6] [0, 5] 1) = (r80d i j l).get := by kernel_rfl
theorem wf80d (I'' : Int → Int → List (List UInt8 × (Int × (Int × (Int × List UInt8)))) → Prop) (m'' : Int → Int → List (List UInt8 × (Int × (Int × (Int × List UInt8)))) → Nat) (r'' : Ex × St) (h : ∀ (i : Int) (j : Int) (l : List (List UInt8 × (Int × (Int × (Int × List UInt8))))), I'' i j l → (r80d i j l).all fun x'' => x'' = .inr r'' ∨ ∃ (i' : Int) (j' : Int) (l' : List (List UInt8 × (Int × (Int × (Int × List UInt8))))), x'' = .inl (stOf [0, 1, 5, 6] [.rowA 0, .fn 82 [], .int .i64 i', .int .i64 j'] [.row RR l']) ∧ I'' i' j' l' ∧ m'' i' j' l' < m'' i j l) (lp : Lp) (i : Int) (j : Int) (l : List (List UInt8 × (Int × (Int × (Int × List UInt8))))) : I'' i j l →
    loopF (fun st => evC T0 (orcB [] [os82w, os88e]) lp b80d 0 st (roundK [0, 1, 5, 6] [0, 5] 1)) (stOf [0, 1, 5, 6] [.rowA 0, .fn 82 [], .int .i64 i, .int .i64 j] [.row RR l]) = some r'' :=
  loop_tr (fun a'' : Int × Int × List (List UInt8 × (Int × (Int × (Int × List UInt8)))) => stOf [0, 1, 5, 6] [.rowA 0, .fn 82 [], .int .i64 a''.1, .int .i64 a''.2.1] [.row RR a''.2.2]) (fun a'' => I'' a''.1 a''.2.1 a''.2.2) (fun a'' => m'' a''.1 a''.2.1 a''.2.2) r'' (fun a'' => r80d a''.1 a''.2.1 a''.2.2)
    (fun a'' x hx => (round80d lp a''.1 a''.2.1 a''.2.2).trans hx) (fun a'' ha => Tr.all_mono (fun x'' hx => hx.imp id fun ⟨i', j', l', h1, h2, h3⟩ => ⟨(i', j', l'), h1, h2, h3⟩) (h (a''.1) (a''.2.1) (a''.2.2) ha)) (i, j, l)
theorem ndV_take {l : List RRt} {j : Nat} (hj : j < l.length) (d : RRt) : ndV (l.take (j + 1)) = ndV (l.take j) ++ if leadB (l.getD j d) = true then [l.getD j d] else [] := by
  have hg : l.getD j d = l[j] := by rw [List.getD_eq_getElem?_getD, List.getElem?_eq_getElem hj]; rfl
  rw [hg, List.take_succ_eq_append_getElem hj]
  unfold ndV
  rw [List.filter_append]
  congr 1
  by_cases h : leadB l[j] = true
  · rw [if_pos h, List.filter_cons_of_pos h]; rfl
  · rw [if_neg h, List.filter_cons_of_neg h]; rfl
theorem ndV_le (l : List RRt) (j : Nat) : (ndV (l.take j)).length ≤ j := by
  have := List.length_filter_le leadB (l.take j)
  rw [List.length_take] at this
  unfold ndV
  omega
def dlW (l : List RRt) (j : Nat) : List RRt := ndV (l.take j) ++ l.drop (ndV (l.take j)).length
theorem dlW_len {l : List RRt} {j : Nat} (hj : j ≤ l.length) : (dlW l j).length = l.length := by
  have := ndV_le l j
  unfold dlW
  rw [List.length_append, List.length_drop]
  omega
theorem dlW_get {l : List RRt} {j : Nat} (hj : j < l.length) (d : RRt) : (dlW l j).getD j d = l.getD j d := by
  have := ndV_le l j
  unfold dlW
  rw [List.getD_eq_getElem?_getD, List.getElem?_append_right this, List.getElem?_drop, List.getD_eq_getElem?_getD]
  congr 2
  omega
theorem dlW_set {l : List RRt} {j : Nat} (hj : j < l.length) (d : RRt) (h : leadB (l.getD j d) = true) : (dlW l j).set (ndV (l.take j)).length (l.getD j d) = dlW l (j + 1) := by
  have := ndV_le l j
  unfold dlW
  rw [ndV_take hj d, if_pos h, List.length_append, List.length_singleton, List.set_append_right _ _ (Nat.le_refl _), Nat.sub_self, drop_cons2 (l := l) (k := (ndV (l.take j)).length) (by omega) d]
  simp
theorem dlW_not {l : List RRt} {j : Nat} (hj : j < l.length) (d : RRt) (h : leadB (l.getD j d) = false) : dlW l (j + 1) = dlW l j := by
  unfold dlW
  rw [ndV_take hj d, if_neg (by rw [h]; simp), List.append_nil]
theorem loop80d : ls80d.Ok T0 (orcB [] [os82w, os88e]) h80 1 0 b80d := by
  intro q'' hq'' x'' y'' r'' h
  obtain ⟨(i : Int), (j : Int), _⟩ := x''
  obtain ⟨(l : List (List UInt8 × (Int × (Int × (Int × List UInt8))))), _⟩ := y''
  obtain ⟨hc, rfl⟩ := Tr.get_on h
  show loopF (fun st => evC T0 (orcB [] [os82w, os88e]) (lpN T0 (orcB [] [os82w, os88e]) h80 1 q'') b80d 0 st (roundK [0, 1, 5, 6] [0, 5] 1)) (stOf [0, 1, 5, 6] [.rowA 0, .fn 82 [], .int .i64 i, .int .i64 j] [.row RR l]) = some (.exit 0, stOf [0, 5] ([.rowA 0, .int .i64 ((ndV l).length : Nat)]) ([.row RR (ndV l ++ l.drop (ndV l).length)]))
  simp only [dlC, Bool.and_eq_true, decide_eq_true_eq] at hc
  obtain ⟨hl, h0, h1, rfl, ht⟩ := hc
  have hl := Nat.le_of_ble_eq_true hl
  have hti : (l.take i.toNat).length = i.toNat := by rw [List.length_take]; omega
  have hc0 : (ndV (l.take (i + 1).toNat)).length = i.toNat := by rw [ht, hti]
  have hw0 : dlW l (i + 1).toNat = l := by unfold dlW; rw [hc0, ht]; exact List.take_append_drop _ _
  refine wf80d (fun i j w => 0 ≤ i ∧ i < j ∧ j ≤ l.length ∧ i = ((ndV (l.take j.toNat)).length : Nat) ∧ w = dlW l j.toNat) (fun i j w => (l.length - j).toNat) _ ?_ _ i (i + 1) l ⟨h0, by omega, by omega, by rw [hc0]; omega, hw0.symm⟩
  clear hti hc0 hw0 ht h0 h1
  rintro i j w ⟨h0, h1, h2, he, rfl⟩
  unfold r80d
  rw [dlW_len (by omega), wrap_succ (show 0 ≤ j by omega) h2 (by omega), IntWalk.i64_in (i + 1) (by omega)]
  by_cases hj : j < l.length
  · rw [dlW_get (by omega) (Ty.dflt RR)]
    refine Tr.all_t (dec_true hj) (Tr.all_t (dec_true (by omega)) (Tr.all_t (dec_true hj) (Tr.all_br (fun h => Tr.all_t (dec_true h0) (Tr.all_t (dec_true (by omega)) (Tr.all_ret (.inr ?_)))) fun h => Tr.all_ret (.inr ?_))))
    · have h : leadB (l.getD j.toNat (Ty.dflt RR)) = true := by cases hx : leadB (l.getD j.toNat (Ty.dflt RR)); (rw [hx] at h; cases h); rfl
      refine ⟨_, _, _, rfl, ⟨by omega, by omega, by omega, ?_, ?_⟩, by omega⟩
      · rw [show (j + 1).toNat = j.toNat + 1 by omega, ndV_take (by omega) (Ty.dflt RR), if_pos h, List.length_append, List.length_singleton]
        omega
      · rw [show (j + 1).toNat = j.toNat + 1 by omega, ← dlW_set (by omega) (Ty.dflt RR) h]
        congr 1
        omega
    · have h : leadB (l.getD j.toNat (Ty.dflt RR)) = false := by cases hx : leadB (l.getD j.toNat (Ty.dflt RR)); rfl; (rw [hx] at h; cases h)
      refine ⟨_, _, _, rfl, ⟨by omega, by omega, by omega, ?_, ?_⟩, by omega⟩
      · rw [show (j + 1).toNat = j.toNat + 1 by omega, ndV_take (by omega) (Ty.dflt RR), if_neg (by rw [h]; simp), List.append_nil]
        exact he
      · rw [show (j + 1).toNat = j.toNat + 1 by omega, dlW_not (by omega) (Ty.dflt RR) h]
  · refine Tr.all_f (dec_false hj) (Tr.all_ret (.inl ?_))
    have hj : j.toNat = l.length := by omega
    rw [he]
    unfold dlW
    rw [hj, List.take_length]
def t80d (l : List (List UInt8 × (Int × (Int × (Int × List UInt8))))) : Tr Res := Tr.br (lrB l) (Tr.br (fnL l 0 == (-1 : Int)) (Tr.ret ([AV.rowA 0], [LObj.row RR l])) (Tr.br (dlC l (fnL l 0) (IntKind.wrap IntKind.i64 (fnL l 0 + (1 : Int)))) (Tr.br (decide ((0 : Int) ≤ (↑(List.length (ndV l ++ List.drop (List.length (ndV l)) l)) : Int)) && decide ((↑(List.length (ndV l ++ List.drop (List.length (ndV l)) l)) : Int) ≤ (↑(List.length (ndV l ++ List.drop (List.length (ndV l)) l)) : Int))) (Tr.br (decide ((0 : Int) ≤ (↑(List.length (ndV l)) : Int)) && decide ((↑(List.length (ndV l)) : Int) ≤ (↑(List.length (ndV l ++ List.drop (List.length (ndV l)) l)) : Int))) (Tr.br (decide ((0 : Int) ≤ (↑(List.length (ndV l)) : Int)) && decide ((↑(List.length (ndV l)) : Int) ≤ (↑(List.length (List.take (Int.toNat (↑(List.length (ndV l)) : Int)) (ndV l ++ List.drop (List.length (ndV l)) l) ++ List.replicate (Int.toNat (↑(List.length (ndV l ++ List.drop (List.length (ndV l)) l)) : Int) - Int.toNat (↑(List.length (ndV l)) : Int)) (Ty.dflt RR) ++ List.drop (Int.toNat (↑(List.length (ndV l)) : Int) + (Int.toNat (↑(List.length (ndV l ++ List.drop (List.length (ndV l)) l)) : Int) - Int.toNat (↑(List.length (ndV l)) : Int))) (ndV l ++ List.drop (List.length (ndV l)) l))) : Int))) (Tr.ret ([AV.rowS 0 0 (Int.toNat (↑(List.length (ndV l)) : Int) - Int.toNat (0 : Int)) false], [LObj.row RR (List.take (Int.toNat (↑(List.length (ndV l)) : Int)) (ndV l ++ List.drop (List.length (ndV l)) l) ++ List.replicate (Int.toNat (↑(List.length (ndV l ++ List.drop (List.length (ndV l)) l)) : Int) - Int.toNat (↑(List.length (ndV l)) : Int)) (Ty.dflt RR) ++ List.drop (Int.toNat (↑(List.length (ndV l)) : Int) + (Int.toNat (↑(List.length (ndV l ++ List.drop (List.length (ndV l)) l)) : Int) - Int.toNat (↑(List.length (ndV l)) : Int))) (ndV l ++ List.drop (List.length (ndV l)) l))])) Tr.no) Tr.no) Tr.no) Tr.no)) Tr.no
def os80d : OSpec := { f := 80, sh := [.row 0, .fnp 82 []], so := [.row RR], F := fun _ (l, _) => t80d l }
set_option maxRecDepth 1000000 in
theorem fn80d (l : List (List UInt8 × (Int × (Int × (Int × List UInt8))))) : evC T0 (orcB [] [os82w, os88e]) (lpOf h80 1 (lsOf [ls80d])) c80 1000000 (startSt [.rowA 0, .fn 82 []] [.row RR l] Try.f80.ntmps) (finishK T0 false 1 Try.f80) = (t80d l).get := by kernel_rfl
theorem ok80d : os80d.Ok Try.prog := by
  refine os_ok mixed0 tab0 (orcB_sound all_nil (all_cons ok82w (all_cons ok88e all_nil))) h80 (d := 0) (n0 := 1) (S := lsOf [ls80d]) Try.func80 (by kernel_rfl) (c := c80) (by kernel_rfl) rfl (loops_eq (xs := [(0, b80d)]) (by kernel_rfl) (all_cons (ls_here loop80d) all_nil)) (by omega) (by kernel_rfl) ?_
  intro x'' y'' q'' hq''
  obtain ⟨(l : List (List UInt8 × (Int × (Int × (Int × List UInt8))))), _⟩ := y''
  exact (fn80d l).trans hq''
end Go.Proofs.YtkobjdhbfepkaaaE
namespace Go.Proofs.YtkobjdhbfepkaaaE
open Go Go.Proofs.YtkobjdhbfepkaaaB
set_option linter.unusedVariables false
set_option linter.unusedSimpArgs false
set_option maxRecDepth 100000
theorem fnL_spec : ∀ (l : List RRt) (k : Nat), (fnL l k = -1 ∧ ndV l = l) ∨ ∃ j, j < l.length ∧ fnL l k = ((k + j : Nat) : Int) ∧ ndV (l.take (j + 1)) = l.take j
  | [], _ => .inl ⟨rfl, rfl⟩
  | x :: l, k => by
    unfold fnL
    by_cases h : leadB x = true
    · rw [if_pos h]
      rcases fnL_spec l (k + 1) with ⟨h1, h2⟩ | ⟨j, h1, h2, h3⟩
      · refine .inl ⟨h1, ?_⟩
        unfold ndV at h2 ⊢
        rw [List.filter_cons_of_pos h, h2]
      · refine .inr ⟨j + 1, by simpa using h1, by rw [h2]; omega, ?_⟩
        unfold ndV at h3 ⊢
        rw [List.take_succ_cons, List.take_succ_cons, List.filter_cons_of_pos h, h3]
    · rw [if_neg h]
      refine .inr ⟨0, by simp, by simp, ?_⟩
      unfold ndV
      rw [List.take_succ_cons, List.take_zero, List.take_zero, List.filter_cons_of_neg h]
      rfl
def os80w : OSpec := os80d.like fun _ (l, _) => .br (lrB l) (.br (fnL l 0 == -1) (.ret ([.rowA 0], [.row RR l])) (.ret ([.rowS 0 0 (ndV l).length false], [.row RR (ndV l ++ List.replicate (l.length - (ndV l).length) (Ty.dflt RR))]))) .no
theorem ok80w : os80w.Ok Try.prog := by
  refine like_ok ok80d _ ?_
  rintro _ ⟨(l : List RRt), _⟩ r' h
  simp only [Tr.get] at h
  cases hb : lrB l with
  | false => rw [hb] at h; cases h
  | true =>
    rw [hb, cond_true] at h
    have hl := Nat.le_of_ble_eq_true hb
    refine Tr.get_of_all ?_
    show (t80d l).all _
    unfold t80d
    rcases fnL_spec l 0 with ⟨h1, h2⟩ | ⟨j, h1, h2, h3⟩
    · rw [h1] at h
      rw [h1]
      cases h
      exact Tr.all_t hb (Tr.all_t rfl (Tr.all_ret rfl))
    · rw [Nat.zero_add] at h2
      rw [h2] at h
      rw [h2]
      have hne : (((j : Nat) : Int) == -1) = false := beq_eq_false_iff_ne.2 (by omega)
      rw [hne] at h
      cases h
      have hw : IntKind.wrap IntKind.i64 ((j : Int) + 1) = (j : Int) + 1 := IntWalk.i64_in _ (by omega)
      rw [hw]
      have hc : dlC l j ((j : Int) + 1) = true := by
        unfold dlC
        rw [show Nat.ble l.length 1000000 = true from hb, show ((j : Int) + 1).toNat = j + 1 by omega, show ((j : Int)).toNat = j by omega, h3, dec_true (by omega), dec_true (by omega), dec_true rfl, dec_true rfl]
        rfl
      have hnl : (ndV l).length ≤ l.length := List.length_filter_le _ _
      have hlen : (ndV l ++ List.drop (List.length (ndV l)) l).length = l.length := by rw [List.length_append, List.length_drop]; omega
      have hX : List.take (Int.toNat (((ndV l).length : Nat) : Int)) (ndV l ++ List.drop (List.length (ndV l)) l) ++ List.replicate (Int.toNat ((l.length : Nat) : Int) - Int.toNat (((ndV l).length : Nat) : Int)) (Ty.dflt RR) ++ List.drop (Int.toNat (((ndV l).length : Nat) : Int) + (Int.toNat ((l.length : Nat) : Int) - Int.toNat (((ndV l).length : Nat) : Int))) (ndV l ++ List.drop (List.length (ndV l)) l) = ndV l ++ List.replicate (l.length - (ndV l).length) (Ty.dflt RR) := by
        rw [Int.toNat_natCast, Int.toNat_natCast, List.take_left, List.drop_eq_nil_of_le (by rw [hlen]; omega), List.append_nil]
      rw [hlen, hX]
      have hlen2 : (ndV l ++ List.replicate (l.length - (ndV l).length) (Ty.dflt RR)).length = l.length := by rw [List.length_append, List.length_replicate]; omega
      rw [hlen2]
      refine Tr.all_t hb (Tr.all_f hne (Tr.all_t hc (Tr.all_t (by rw [dec_true (by omega), dec_true (by omega)]; rfl) (Tr.all_t (by rw [dec_true (by omega), dec_true (by omega)]; rfl) (Tr.all_t (by rw [dec_true (by omega), dec_true (by omega)]; rfl) (Tr.all_ret ?_))))))
      rw [Int.toNat_natCast, show Int.toNat (0 : Int) = 0 from rfl, Nat.sub_zero]
def t56 (z : (List UInt8 × List (List UInt8 × (Int × (Int × (Int × List UInt8)))))) (m : (Int × (Bool × (Bool × (Bool × (Bool × (Bool × (Int × (Int × (List (List UInt8 × (Int × Int)) × (List (List UInt8 × (Int × (Int × (Int × List UInt8)))) × (List (List UInt8 × (Int × (Int × (Int × List UInt8)))) × List (List UInt8 × (Int × (Int × (Int × List UInt8)))))))))))))))) (q : (List UInt8 × (Int × Int))) : Tr Res := Tr.br (smZ z && smN (Prod.fst q)) (Tr.br (Prod.snd (cutV z (Prod.fst q))) (Tr.br (smZ z) (Tr.br (gnOk z (ofV z (Prod.fst (cutV z (Prod.fst q))) (2 : Int))) (Tr.ret ([AV.agg [AV.int IntKind.u16 (Prod.fst m), AV.bool (Prod.fst (Prod.snd m)), AV.bool (Prod.fst (Prod.snd (Prod.snd m))), AV.bool (Prod.fst (Prod.snd (Prod.snd (Prod.snd m)))), AV.bool (Prod.fst (Prod.snd (Prod.snd (Prod.snd (Prod.snd m))))), AV.bool (Prod.fst (Prod.snd (Prod.snd (Prod.snd (Prod.snd (Prod.snd m)))))), AV.int IntKind.i64 (Prod.fst (Prod.snd (Prod.snd (Prod.snd (Prod.snd (Prod.snd (Prod.snd m))))))), AV.int IntKind.i64 (Prod.fst (Prod.snd (Prod.snd (Prod.snd (Prod.snd (Prod.snd (Prod.snd (Prod.snd m)))))))), AV.list QQ (Prod.fst (Prod.snd (Prod.snd (Prod.snd (Prod.snd (Prod.snd (Prod.snd (Prod.snd (Prod.snd m))))))))), AV.list RR (Prod.fst (Prod.snd (Prod.snd (Prod.snd (Prod.snd (Prod.snd (Prod.snd (Prod.snd (Prod.snd (Prod.snd m)))))))))), AV.list RR (ofV z (Prod.fst (cutV z (Prod.fst q))) (2 : Int)), AV.list RR (glueV z (ofV z (Prod.fst (cutV z (Prod.fst q))) (2 : Int)))]], [])) Tr.no) Tr.no) (Tr.br (smZ z) (Tr.br ((↑(List.length (ofV z (Prod.fst q) (Prod.fst (Prod.snd q)))) : Int) == (0 : Int)) (Tr.br (smZ z) (Tr.br (fits (List.length (ofV z (Prod.fst q) (5 : Int))) 40) (Tr.br (lrB (ofV z (Prod.fst q) (5 : Int))) (Tr.br (fnL (ofV z (Prod.fst q) (5 : Int)) 0 == (-1 : Int)) (Tr.br (gnOk z (ofV z (Prod.fst q) (5 : Int))) (Tr.br (decide ((↑(List.length (ofV z (Prod.fst q) (5 : Int))) : Int) > (0 : Int))) (Tr.ret ([AV.agg [AV.int IntKind.u16 (Prod.fst m), AV.bool (Prod.fst (Prod.snd m)), AV.bool true, AV.bool (Prod.fst (Prod.snd (Prod.snd (Prod.snd m)))), AV.bool (Prod.fst (Prod.snd (Prod.snd (Prod.snd (Prod.snd m))))), AV.bool (Prod.fst (Prod.snd (Prod.snd (Prod.snd (Prod.snd (Prod.snd m)))))), AV.int IntKind.i64 (Prod.fst (Prod.snd (Prod.snd (Prod.snd (Prod.snd (Prod.snd (Prod.snd m))))))), AV.int IntKind.i64 (Prod.fst (Prod.snd (Prod.snd (Prod.snd (Prod.snd (Prod.snd (Prod.snd (Prod.snd m)))))))), AV.list QQ (Prod.fst (Prod.snd (Prod.snd (Prod.snd (Prod.snd (Prod.snd (Prod.snd (Prod.snd (Prod.snd m))))))))), AV.list RR (ofV z (Prod.fst q) (5 : Int)), AV.list RR (Prod.fst (Prod.snd (Prod.snd (Prod.snd (Prod.snd (Prod.snd (Prod.snd (Prod.snd (Prod.snd (Prod.snd (Prod.snd m))))))))))), AV.list RR (glueV z (ofV z (Prod.fst q) (5 : Int)))]], [])) (Tr.br (smZ z) (Tr.br (smZ z && smN (Prod.fst q)) (Tr.br (!thereV z (Prod.fst q)) (Tr.ret ([AV.agg [AV.int IntKind.u16 (Prod.fst m), AV.bool (Prod.fst (Prod.snd m)), AV.bool true, AV.bool (Prod.fst (Prod.snd (Prod.snd (Prod.snd m)))), AV.bool (Prod.fst (Prod.snd (Prod.snd (Prod.snd (Prod.snd m))))), AV.bool (Prod.fst (Prod.snd (Prod.snd (Prod.snd (Prod.snd (Prod.snd m)))))), AV.int IntKind.i64 (Prod.fst (Prod.snd (Prod.snd (Prod.snd (Prod.snd (Prod.snd (Prod.snd m))))))), AV.int IntKind.i64 (3 : Int), AV.list QQ (Prod.fst (Prod.snd (Prod.snd (Prod.snd (Prod.snd (Prod.snd (Prod.snd (Prod.snd (Prod.snd m))))))))), AV.list RR (ofV z (Prod.fst q) (5 : Int)), AV.list RR (ofV z (Prod.fst z) (6 : Int)), AV.list RR (glueV z (ofV z (Prod.fst q) (5 : Int)))]], [])) (Tr.ret ([AV.agg [AV.int IntKind.u16 (Prod.fst m), AV.bool (Prod.fst (Prod.snd m)), AV.bool true, AV.bool (Prod.fst (Prod.snd (Prod.snd (Prod.snd m)))), AV.bool (Prod.fst (Prod.snd (Prod.snd (Prod.snd (Prod.snd m))))), AV.bool (Prod.fst (Prod.snd (Prod.snd (Prod.snd (Prod.snd (Prod.snd m)))))), AV.int IntKind.i64 (Prod.fst (Prod.snd (Prod.snd (Prod.snd (Prod.snd (Prod.snd (Prod.snd m))))))), AV.int IntKind.i64 (Prod.fst (Prod.snd (Prod.snd (Prod.snd (Prod.snd (Prod.snd (Prod.snd (Prod.snd m)))))))), AV.list QQ (Prod.fst (Prod.snd (Prod.snd (Prod.snd (Prod.snd (Prod.snd (Prod.snd (Prod.snd (Prod.snd m))))))))), AV.list RR (ofV z (Prod.fst q) (5 : Int)), AV.list RR (ofV z (Prod.fst z) (6 : Int)), AV.list RR (glueV z (ofV z (Prod.fst q) (5 : Int)))]], []))) Tr.no) Tr.no)) Tr.no) (Tr.br (gnOk z (List.take (List.length (ndV (ofV z (Prod.fst q) (5 : Int)))) (List.drop 0 (ndV (ofV z (Prod.fst q) (5 : Int)) ++ List.replicate (List.length (ofV z (Prod.fst q) (5 : Int)) - List.length (ndV (ofV z (Prod.fst q) (5 : Int)))) (Ty.dflt RR))))) (Tr.br (decide ((↑(List.length (ofV z (Prod.fst q) (5 : Int))) : Int) > (0 : Int))) (Tr.ret ([AV.agg [AV.int IntKind.u16 (Prod.fst m), AV.bool (Prod.fst (Prod.snd m)), AV.bool true, AV.bool (Prod.fst (Prod.snd (Prod.snd (Prod.snd m)))), AV.bool (Prod.fst (Prod.snd (Prod.snd (Prod.snd (Prod.snd m))))), AV.bool (Prod.fst (Prod.snd (Prod.snd (Prod.snd (Prod.snd (Prod.snd m)))))), AV.int IntKind.i64 (Prod.fst (Prod.snd (Prod.snd (Prod.snd (Prod.snd (Prod.snd (Prod.snd m))))))), AV.int IntKind.i64 (Prod.fst (Prod.snd (Prod.snd (Prod.snd (Prod.snd (Prod.snd (Prod.snd (Prod.snd m)))))))), AV.list QQ (Prod.fst (Prod.snd (Prod.snd (Prod.snd (Prod.snd (Prod.snd (Prod.snd (Prod.snd (Prod.snd m))))))))), AV.list RR (ofV z (Prod.fst q) (5 : Int)), AV.list RR (Prod.fst (Prod.snd (Prod.snd (Prod.snd (Prod.snd (Prod.snd (Prod.snd (Prod.snd (Prod.snd (Prod.snd (Prod.snd m))))))))))), AV.list RR (glueV z (List.take (List.length (ndV (ofV z (Prod.fst q) (5 : Int)))) (List.drop 0 (ndV (ofV z (Prod.fst q) (5 : Int)) ++ List.replicate (List.length (ofV z (Prod.fst q) (5 : Int)) - List.length (ndV (ofV z (Prod.fst q) (5 : Int)))) (Ty.dflt RR)))))]], [])) (Tr.br (smZ z) (Tr.br (smZ z && smN (Prod.fst q)) (Tr.br (!thereV z (Prod.fst q)) (Tr.ret ([AV.agg [AV.int IntKind.u16 (Prod.fst m), AV.bool (Prod.fst (Prod.snd m)), AV.bool true, AV.bool (Prod.fst (Prod.snd (Prod.snd (Prod.snd m)))), AV.bool (Prod.fst (Prod.snd (Prod.snd (Prod.snd (Prod.snd m))))), AV.bool (Prod.fst (Prod.snd (Prod.snd (Prod.snd (Prod.snd (Prod.snd m)))))), AV.int IntKind.i64 (Prod.fst (Prod.snd (Prod.snd (Prod.snd (Prod.snd (Prod.snd (Prod.snd m))))))), AV.int IntKind.i64 (3 : Int), AV.list QQ (Prod.fst (Prod.snd (Prod.snd (Prod.snd (Prod.snd (Prod.snd (Prod.snd (Prod.snd (Prod.snd m))))))))), AV.list RR (ofV z (Prod.fst q) (5 : Int)), AV.list RR (ofV z (Prod.fst z) (6 : Int)), AV.list RR (glueV z (List.take (List.length (ndV (ofV z (Prod.fst q) (5 : Int)))) (List.drop 0 (ndV (ofV z (Prod.fst q) (5 : Int)) ++ List.replicate (List.length (ofV z (Prod.fst q) (5 : Int)) - List.length (ndV (ofV z (Prod.fst q) (5 : Int)))) (Ty.dflt RR)))))]], [])) (Tr.ret ([AV.agg [AV.int IntKind.u16 (Prod.fst m), AV.bool (Prod.fst (Prod.snd m)), AV.bool true, AV.bool (Prod.fst (Prod.snd (Prod.snd (Prod.snd m)))), AV.bool (Prod.fst (Prod.snd (Prod.snd (Prod.snd (Prod.snd m))))), AV.bool (Prod.fst (Prod.snd (Prod.snd (Prod.snd (Prod.snd (Prod.snd m)))))), AV.int IntKind.i64 (Prod.fst (Prod.snd (Prod.snd (Prod.snd (Prod.snd (Prod.snd (Prod.snd m))))))), AV.int IntKind.i64 (Prod.fst (Prod.snd (Prod.snd (Prod.snd (Prod.snd (Prod.snd (Prod.snd (Prod.snd m)))))))), AV.list QQ (Prod.fst (Prod.snd (Prod.snd (Prod.snd (Prod.snd (Prod.snd (Prod.snd (Prod.snd (Prod.snd m))))))))), AV.list RR (ofV z (Prod.fst q) (5 : Int)), AV.list RR (ofV z (Prod.fst z) (6 : Int)), AV.list RR (glueV z (List.take (List.length (ndV (ofV z (Prod.fst q) (5 : Int)))) (List.drop 0 (ndV (ofV z (Prod.fst q) (5 : Int)) ++ List.replicate (List.length (ofV z (Prod.fst q) (5 : Int)) - List.length (ndV (ofV z (Prod.fst q) (5 : Int)))) (Ty.dflt RR)))))]], []))) Tr.no) Tr.no)) Tr.no)) Tr.no) Tr.no) Tr.no) (Tr.br (fits (List.length (ofV z (Prod.fst q) (Prod.fst (Prod.snd q)))) 40) (Tr.br (lrB (ofV z (Prod.fst q) (Prod.fst (Prod.snd q)))) (Tr.br (fnL (ofV z (Prod.fst q) (Prod.fst (Prod.snd q))) 0 == (-1 : Int)) (Tr.br (gnOk z (ofV z (Prod.fst q) (Prod.fst (Prod.snd q)))) (Tr.br (decide ((↑(List.length (ofV z (Prod.fst q) (Prod.fst (Prod.snd q)))) : Int) > (0 : Int))) (Tr.ret ([AV.agg [AV.int IntKind.u16 (Prod.fst m), AV.bool (Prod.fst (Prod.snd m)), AV.bool true, AV.bool (Prod.fst (Prod.snd (Prod.snd (Prod.snd m)))), AV.bool (Prod.fst (Prod.snd (Prod.snd (Prod.snd (Prod.snd m))))), AV.bool (Prod.fst (Prod.snd (Prod.snd (Prod.snd (Prod.snd (Prod.snd m)))))), AV.int IntKind.i64 (Prod.fst (Prod.snd (Prod.snd (Prod.snd (Prod.snd (Prod.snd (Prod.snd m))))))), AV.int IntKind.i64 (Prod.fst (Prod.snd (Prod.snd (Prod.snd (Prod.snd (Prod.snd (Prod.snd (Prod.snd m)))))))), AV.list QQ (Prod.fst (Prod.snd (Prod.snd (Prod.snd (Prod.snd (Prod.snd (Prod.snd (Prod.snd (Prod.snd m))))))))), AV.list RR (ofV z (Prod.fst q) (Prod.fst (Prod.snd q))), AV.list RR (Prod.fst (Prod.snd (Prod.snd (Prod.snd (Prod.snd (Prod.snd (Prod.snd (Prod.snd (Prod.snd (Prod.snd (Prod.snd m))))))))))), AV.list RR (glueV z (ofV z (Prod.fst q) (Prod.fst (Prod.snd q))))]], [])) (Tr.br (smZ z) (Tr.br (smZ z && smN (Prod.fst q)) (Tr.br (!thereV z (Prod.fst q)) (Tr.ret ([AV.agg [AV.int IntKind.u16 (Prod.fst m), AV.bool (Prod.fst (Prod.snd m)), AV.bool true, AV.bool (Prod.fst (Prod.snd (Prod.snd (Prod.snd m)))), AV.bool (Prod.fst (Prod.snd (Prod.snd (Prod.snd (Prod.snd m))))), AV.bool (Prod.fst (Prod.snd (Prod.snd (Prod.snd (Prod.snd (Prod.snd m)))))), AV.int IntKind.i64 (Prod.fst (Prod.snd (Prod.snd (Prod.snd (Prod.snd (Prod.snd (Prod.snd m))))))), AV.int IntKind.i64 (3 : Int), AV.list QQ (Prod.fst (Prod.snd (Prod.snd (Prod.snd (Prod.snd (Prod.snd (Prod.snd (Prod.snd (Prod.snd m))))))))), AV.list RR (ofV z (Prod.fst q) (Prod.fst (Prod.snd q))), AV.list RR (ofV z (Prod.fst z) (6 : Int)), AV.list RR (glueV z (ofV z (Prod.fst q) (Prod.fst (Prod.snd q))))]], [])) (Tr.ret ([AV.agg [AV.int IntKind.u16 (Prod.fst m), AV.bool (Prod.fst (Prod.snd m)), AV.bool true, AV.bool (Prod.fst (Prod.snd (Prod.snd (Prod.snd m)))), AV.bool (Prod.fst (Prod.snd (Prod.snd (Prod.snd (Prod.snd m))))), AV.bool (Prod.fst (Prod.snd (Prod.snd (Prod.snd (Prod.snd (Prod.snd m)))))), AV.int IntKind.i64 (Prod.fst (Prod.snd (Prod.snd (Prod.snd (Prod.snd (Prod.snd (Prod.snd m))))))), AV.int IntKind.i64 (Prod.fst (Prod.snd (Prod.snd (Prod.snd (Prod.snd (Prod.snd (Prod.snd (Prod.snd m)))))))), AV.list QQ (Prod.fst (Prod.snd (Prod.snd (Prod.snd (Prod.snd (Prod.snd (Prod.snd (Prod.snd (Prod.snd m))))))))), AV.list RR (ofV z (Prod.fst q) (Prod.fst (Prod.snd q))), AV.list RR (ofV z (Prod.fst z) (6 : Int)), AV.list RR (glueV z (ofV z (Prod.fst q) (Prod.fst (Prod.snd q))))]], []))) Tr.no) Tr.no)) Tr.no) (Tr.br (gnOk z (List.take (List.length (ndV (ofV z (Prod.fst q) (Prod.fst (Prod.snd q))))) (List.drop 0 (ndV (ofV z (Prod.fst q) (Prod.fst (Prod.snd q))) ++ List.replicate (List.length (ofV z (Prod.fst q) (Prod.fst (Prod.snd q))) - List.length (ndV (ofV z (Prod.fst q) (Prod.fst (Prod.snd q))))) (Ty.dflt RR))))) (Tr.br (decide ((↑(List.length (ofV z (Prod.fst q) (Prod.fst (Prod.snd q)))) : Int) > (0 : Int))) (Tr.ret ([AV.agg [AV.int IntKind.u16 (Prod.fst m), AV.bool (Prod.fst (Prod.snd m)), AV.bool true, AV.bool (Prod.fst (Prod.snd (Prod.snd (Prod.snd m)))), AV.bool (Prod.fst (Prod.snd (Prod.snd (Prod.snd (Prod.snd m))))), AV.bool (Prod.fst (Prod.snd (Prod.snd (Prod.snd (Prod.snd (Prod.snd m)))))), AV.int IntKind.i64 (Prod.fst (Prod.snd (Prod.snd (Prod.snd (Prod.snd (Prod.snd (Prod.snd m))))))), AV.int IntKind.i64 (Prod.fst (Prod.snd (Prod.snd (Prod.snd (Prod.snd (Prod.snd (Prod.snd (Prod.snd m)))))))), AV.list QQ (Prod.fst (Prod.snd (Prod.snd (Prod.snd (Prod.snd (Prod.snd (Prod.snd (Prod.snd (Prod.snd m))))))))), AV.list RR (ofV z (Prod.fst q) (Prod.fst (Prod.snd q))), AV.list RR (Prod.fst (Prod.snd (Prod.snd (Prod.snd (Prod.snd (Prod.snd (Prod.snd (Prod.snd (Prod.snd (Prod.snd (Prod.snd m))))))))))), AV.list RR (glueV z (List.take (List.length (ndV (ofV z (Prod.fst q) (Prod.fst (Prod.snd q))))) (List.drop 0 (ndV (ofV z (Prod.fst q) (Prod.fst (Prod.snd q))) ++ List.replicate (List.length (ofV z (Prod.fst q) (Prod.fst (Prod.snd q))) - List.length (ndV (ofV z (Prod.fst q) (Prod.fst (Prod.snd q))))) (Ty.dflt RR)))))]], [])) (Tr.br (smZ z) (Tr.br (smZ z && smN (Prod.fst q)) (Tr.br (!thereV z (Prod.fst q)) (Tr.ret ([AV.agg [AV.int IntKind.u16 (Prod.fst m), AV.bool (Prod.fst (Prod.snd m)), AV.bool true, AV.bool (Prod.fst (Prod.snd (Prod.snd (Prod.snd m)))), AV.bool (Prod.fst (Prod.snd (Prod.snd (Prod.snd (Prod.snd m))))), AV.bool (Prod.fst (Prod.snd (Prod.snd (Prod.snd (Prod.snd (Prod.snd m)))))), AV.int IntKind.i64 (Prod.fst (Prod.snd (Prod.snd (Prod.snd (Prod.snd (Prod.snd (Prod.snd m))))))), AV.int IntKind.i64 (3 : Int), AV.list QQ (Prod.fst (Prod.snd (Prod.snd (Prod.snd (Prod.snd (Prod.snd (Prod.snd (Prod.snd (Prod.snd m))))))))), AV.list RR (ofV z (Prod.fst q) (Prod.fst (Prod.snd q))), AV.list RR (ofV z (Prod.fst z) (6 : Int)), AV.list RR (glueV z (List.take (List.length (ndV (ofV z (Prod.fst q) (Prod.fst (Prod.snd q))))) (List.drop 0 (ndV (ofV z (Prod.fst q) (Prod.fst (Prod.snd q))) ++ List.replicate (List.length (ofV z (Prod.fst q) (Prod.fst (Prod.snd q))) - List.length (ndV (ofV z (Prod.fst q) (Prod.fst (Prod.snd q))))) (Ty.dflt RR)))))]], [])) (Tr.ret ([AV.agg [AV.int IntKind.u16 (Prod.fst m), AV.bool (Prod.fst (Prod.snd m)), AV.bool true, AV.bool (Prod.fst (Prod.snd (Prod.snd (Prod.snd m)))), AV.bool (Prod.fst (Prod.snd (Prod.snd (Prod.snd (Prod.snd m))))), AV.bool (Prod.fst (Prod.snd (Prod.snd (Prod.snd (Prod.snd (Prod.snd m)))))), AV.int IntKind.i64 (Prod.fst (Prod.snd (Prod.snd (Prod.snd (Prod.snd (Prod.snd (Prod.snd m))))))), AV.int IntKind.i64 (Prod.fst (Prod.snd (Prod.snd (Prod.snd (Prod.snd (Prod.snd (Prod.snd (Prod.snd m)))))))), AV.list QQ (Prod.fst (Prod.snd (Prod.snd (Prod.snd (Prod.snd (Prod.snd (Prod.snd (Prod.snd (Prod.snd m))))))))), AV.list RR (ofV z (Prod.fst q) (Prod.fst (Prod.snd q))), AV.list RR (ofV z (Prod.fst z) (6 : Int)), AV.list RR (glueV z (List.take (List.length (ndV (ofV z (Prod.fst q) (Prod.fst (Prod.snd q))))) (List.drop 0 (ndV (ofV z (Prod.fst q) (Prod.fst (Prod.snd q))) ++ List.replicate (List.length (ofV z (Prod.fst q) (Prod.fst (Prod.snd q))) - List.length (ndV (ofV z (Prod.fst q) (Prod.fst (Prod.snd q))))) (Ty.dflt RR)))))]], []))) Tr.no) Tr.no)) Tr.no)) Tr.no) Tr.no)) Tr.no)) Tr.no
def os56 : OSpec := { f := 56, sh := [.d ZN true, .d MG true, .d QQ true], so := [], F := fun (z, m, q, _) _ => t56 z m q }
set_option maxRecDepth 1000000 in
theorem fn56 (z : (List UInt8 × List (List UInt8 × (Int × (Int × (Int × List UInt8)))))) (m : (Int × (Bool × (Bool × (Bool × (Bool × (Bool × (Int × (Int × (List (List UInt8 × (Int × Int)) × (List (List UInt8 × (Int × (Int × (Int × List UInt8)))) × (List (List UInt8 × (Int × (Int × (Int × List UInt8)))) × List (List UInt8 × (Int × (Int × (Int × List UInt8)))))))))))))))) (q : (List UInt8 × (Int × Int))) : evC T0 (orcB [fs17w, fs43w, fs22w, fs19w] [os81, os80w]) (lpOf h56 0 (lsOf [])) c56 1000000 (startSt [AV.ofTy ZN z true, AV.ofTy MG m true, AV.ofTy QQ q true] [] Try.f56.ntmps) (finishK T0 false 0 Try.f56) = (t56 z m q).get := by kernel_rfl
theorem ok56 : os56.Ok Try.prog := by
  refine os_ok mixed0 tab0 (orcB_sound (all_cons okf17w (all_cons okf43w (all_cons okf22w (all_cons okf19w all_nil)))) (all_cons ok81 (all_cons ok80w all_nil))) h56 (d := 0) (n0 := 0) (S := lsOf []) Try.func56 (by kernel_rfl) (c := c56) (by kernel_rfl) rfl (no_loops (by kernel_rfl)) (by omega) (by kernel_rfl) ?_
  intro x'' y'' q'' hq''
  obtain ⟨(z : (List UInt8 × List (List UInt8 × (Int × (Int × (Int × List UInt8)))))), (m : (Int × (Bool × (Bool × (Bool × (Bool × (Bool × (Int × (Int × (List (List UInt8 × (Int × Int)) × (List (List UInt8 × (Int × (Int × (Int × List UInt8)))) × (List (List UInt8 × (Int × (Int × (Int × List UInt8)))) × List (List UInt8 × (Int × (Int × (Int × List UInt8)))))))))))))))), (q : (List UInt8 × (Int × Int))), _⟩ := x''
  exact (fn56 z m q).trans hq''
def fs56 : FSpec := fsT 56 [(ZN, true), (MG, true), (QQ, true)] [(MG, true)] fun (z, m, q, _) => t56 z m q
theorem okf56 : fs56.Ok Try.prog := fsT_ok fun x'' r'' hr'' => ok56 x'' () r'' hr''
def zOk (z : ZNt) : Bool := smZ z && (smD z.2 && Nat.ble z.2.length 1000)
theorem zOk_gn {z : ZNt} (h : zOk z = true) {X : List RRt} (hX : X.Sublist z.2) : gnOk z X = true := by
  unfold zOk at h
  rw [Bool.and_eq_true, Bool.and_eq_true] at h
  obtain ⟨h1, h2, h3⟩ := h
  have h3 := Nat.le_of_ble_eq_true h3
  have hl := hX.length_le
  have hm : X.length * z.2.length ≤ 1000 * 1000 := Nat.mul_le_mul (by omega) h3
  unfold gnOk
  rw [h1, Nat.ble_eq_true_of_le (by omega), Nat.ble_eq_true_of_le (by omega)]
  unfold smD at h2 ⊢
  rw [List.all_eq_true] at h2
  rw [show (X.all fun r => bigS r.2.2.2.2) = true from List.all_eq_true.2 fun x hx => h2 x (hX.subset hx)]
  rfl
theorem ofV_sub (z : ZNt) (n : List UInt8) (k : Int) : (ofV z n k).Sublist z.2 := List.filter_sublist
theorem ndV_sub (l : List RRt) : (ndV l).Sublist l := List.filter_sublist
def anV (z : ZNt) (q : QQt) : List RRt := bif ((ofV z q.1 q.2.1).length : Int) == 0 then ofV z q.1 5 else ofV z q.1 q.2.1
theorem anV_sub (z : ZNt) (q : QQt) : (anV z q).Sublist z.2 := by
  unfold anV
  cases ((ofV z q.1 q.2.1).length : Int) == 0
  · exact ofV_sub _ _ _
  · exact ofV_sub _ _ _
def fillV (z : ZNt) (m : MGt) (q : QQt) : MGt :=
  bif (cutV z q.1).2 then (m.1, m.2.1, m.2.2.1, m.2.2.2.1, m.2.2.2.2.1, m.2.2.2.2.2.1, m.2.2.2.2.2.2.1, m.2.2.2.2.2.2.2.1, m.2.2.2.2.2.2.2.2.1, m.2.2.2.2.2.2.2.2.2.1, ofV z (cutV z q.1).1 2, glueV z (ofV z (cutV z q.1).1 2))
  else bif decide (((anV z q).length : Int) > 0) then (m.1, m.2.1, true, m.2.2.2.1, m.2.2.2.2.1, m.2.2.2.2.2.1, m.2.2.2.2.2.2.1, m.2.2.2.2.2.2.2.1, m.2.2.2.2.2.2.2.2.1, anV z q, m.2.2.2.2.2.2.2.2.2.2.1, glueV z (ndV (anV z q)))
  else (m.1, m.2.1, true, m.2.2.2.1, m.2.2.2.2.1, m.2.2.2.2.2.1, m.2.2.2.2.2.2.1, (bif thereV z q.1 then m.2.2.2.2.2.2.2.1 else 3), m.2.2.2.2.2.2.2.2.1, anV z q, ofV z z.1 6, glueV z (ndV (anV z q)))
def mgA (m : MGt) : AV := .agg [.int .u16 m.1, .bool m.2.1, .bool m.2.2.1, .bool m.2.2.2.1, .bool m.2.2.2.2.1, .bool m.2.2.2.2.2.1, .int .i64 m.2.2.2.2.2.2.1, .int .i64 m.2.2.2.2.2.2.2.1, .list QQ m.2.2.2.2.2.2.2.2.1, .list RR m.2.2.2.2.2.2.2.2.2.1, .list RR m.2.2.2.2.2.2.2.2.2.2.1, .list RR m.2.2.2.2.2.2.2.2.2.2.2]
theorem not_t {b : Bool} (h : (!b) = true) : b = false := by cases b; rfl; cases h
theorem not_f {b : Bool} (h : (!b) = false) : b = true := by cases b; cases h; rfl
theorem take_nd (l w : List RRt) : List.take (ndV l).length (List.drop 0 (ndV l ++ w)) = ndV l := by rw [List.drop_zero, List.take_left]
set_option maxHeartbeats 1000000 in
theorem fill_all (z : ZNt) (m : MGt) (q : QQt) (hz : zOk z = true) (hq : smN q.1 = true) : Tr.all (fun r : Res => r = ([mgA (fillV z m q)], [])) (t56 z m q) := by
  have h1 : smZ z = true := by unfold zOk at hz; rw [Bool.and_eq_true] at hz; exact hz.1
  have h1000 : z.2.length ≤ 1000 := by
    unfold zOk at hz
    rw [Bool.and_eq_true, Bool.and_eq_true] at hz
    exact Nat.le_of_ble_eq_true hz.2.2
  have h2 : (smZ z && smN q.1) = true := by rw [h1, hq]; rfl
  have hgo : ∀ n k, gnOk z (ofV z n k) = true := fun n k => zOk_gn hz (ofV_sub _ _ _)
  have hgn : ∀ n k, gnOk z (ndV (ofV z n k)) = true := fun n k => zOk_gn hz ((ndV_sub _).trans (ofV_sub _ _ _))
  have hlen : ∀ n k, (ofV z n k).length ≤ 1000 := fun n k => by have := ofV_len z n k; omega
  have hlr : ∀ n k, lrB (ofV z n k) = true := fun n k => Nat.ble_eq_true_of_le (by have := hlen n k; omega)
  have hfit : ∀ n k, fits (ofV z n k).length 40 = true := fun n k => fits_true (by have := hlen n k; omega) (by have := hlen n k; omega)
  have hnd : ∀ l : List RRt, (fnL l 0 == -1) = true → ndV l = l := fun l hl => by
    have hl := beq_iff_eq.1 hl
    rcases fnL_spec l 0 with ⟨_, h⟩ | ⟨j, _, h, _⟩
    · exact h
    · omega
  unfold t56
  simp only [take_nd]
  refine Tr.all_t h2 (Tr.all_br (fun hc => Tr.all_t h1 (Tr.all_t (hgo _ _) (Tr.all_ret ?_))) fun hc => Tr.all_t h1 (Tr.all_br (fun he => Tr.all_t h1 ?_) fun he => ?_))
  · unfold fillV; rw [hc]; rfl
  · have ha : anV z q = ofV z q.1 5 := by unfold anV; rw [he]; rfl
    unfold fillV
    rw [hc, cond_false, ha]
    refine Tr.all_t (hfit _ _) (Tr.all_t (hlr _ _) (Tr.all_br (fun hf => Tr.all_t (hgo _ _) (Tr.all_br (fun hp => Tr.all_ret ?_) fun hp => Tr.all_t h1 (Tr.all_t h2 (Tr.all_br (fun ht => Tr.all_ret ?_) fun ht => Tr.all_ret ?_)))) fun hf => Tr.all_t (hgn _ _) (Tr.all_br (fun hp => Tr.all_ret ?_) fun hp => Tr.all_t h1 (Tr.all_t h2 (Tr.all_br (fun ht => Tr.all_ret ?_) fun ht => Tr.all_ret ?_)))))
    all_goals rw [hp]
    all_goals try rw [hnd _ hf]
    all_goals try rw [not_t ht]
    all_goals try rw [not_f ht]
    all_goals rfl
  · have ha : anV z q = ofV z q.1 q.2.1 := by unfold anV; rw [he]; rfl
    unfold fillV
    rw [hc, cond_false, ha]
    refine Tr.all_t (hfit _ _) (Tr.all_t (hlr _ _) (Tr.all_br (fun hf => Tr.all_t (hgo _ _) (Tr.all_br (fun hp => Tr.all_ret ?_) fun hp => Tr.all_t h1 (Tr.all_t h2 (Tr.all_br (fun ht => Tr.all_ret ?_) fun ht => Tr.all_ret ?_)))) fun hf => Tr.all_t (hgn _ _) (Tr.all_br (fun hp => Tr.all_ret ?_) fun hp => Tr.all_t h1 (Tr.all_t h2 (Tr.all_br (fun ht => Tr.all_ret ?_) fun ht => Tr.all_ret ?_)))))
    all_goals rw [hp]
    all_goals try rw [hnd _ hf]
    all_goals try rw [not_t ht]
    all_goals try rw [not_f ht]
    all_goals rfl
def fs56w : FSpec := fs56.like fun (z, m, q, _) => .on (zOk z && smN q.1) (fillV z m q, ())
theorem okf56w : fs56w.Ok Try.prog := by
  refine flike_ok okf56 _ ?_
  rintro ⟨(z : ZNt), (m : MGt), (q : QQt), _⟩ y h
  obtain ⟨hb, rfl⟩ := Tr.get_on h
  obtain ⟨hz, hq⟩ := Bool.and_eq_true_iff.1 (show (zOk z && smN q.1) = true from hb)
  exact convR_of (vs := [mgA (fillV z m q)]) rfl rfl (Tr.get_of_all (fill_all z m q hz hq))
def qAt (m : MGt) : QQt := m.2.2.2.2.2.2.2.2.1.getD 0 (Ty.dflt QQ)
def repV (m : MGt) (rc : Int) : MGt := (m.1, true, false, false, m.2.2.2.2.1, false, m.2.2.2.2.2.2.1, rc, m.2.2.2.2.2.2.2.2.1, [], [], [])
def ansV (l : List ZNt) (m : MGt) : MGt :=
  bif (m.2.2.2.2.2.2.2.2.1.length : Int) != 1 then repV m 1
  else bif m.2.2.2.2.2.2.1 != 0 then repV m 4
  else bif decide (bestV l (qAt m).1 < 0) || (qAt m).2.2 != 1 then repV m 5
  else fillV (l.getD (bestV l (qAt m).1).toNat (Ty.dflt ZN)) (repV m 0) (qAt m)
def zsOk (l : List ZNt) : Bool := (l.all zOk) && Nat.ble l.length 1000
theorem zsOk_L {l : List ZNt} (h : zsOk l = true) : smL l = true := by
  unfold zsOk at h
  rw [Bool.and_eq_true, List.all_eq_true] at h
  have := Nat.le_of_ble_eq_true h.2
  unfold smL
  rw [Nat.ble_eq_true_of_le (by omega), Bool.true_and, List.all_eq_true]
  intro z hz
  have h1 := h.1 z hz
  unfold zOk smZ at h1
  rw [Bool.and_eq_true, Bool.and_eq_true] at h1
  exact h1.1.1
theorem zsOk_get {l : List ZNt} (h : zsOk l = true) {k : Nat} (hk : k < l.length) (d : ZNt) : zOk (l.getD k d) = true := by
  unfold zsOk at h
  rw [Bool.and_eq_true, List.all_eq_true] at h
  exact h.1 _ (mem_getD hk d)
theorem bestV_lt (l : List ZNt) (n : List UInt8) (h : ¬ bestV l n < 0) : 0 ≤ bestV l n ∧ bestV l n < l.length := by
  rcases bestAt_is l n l.length with ⟨e, _⟩ | ⟨h1, h2, _⟩
  · unfold bestV at h; omega
  · exact ⟨h1, h2⟩
def t28 (l : List (List UInt8 × List (List UInt8 × (Int × (Int × (Int × List UInt8)))))) (m : (Int × (Bool × (Bool × (Bool × (Bool × (Bool × (Int × (Int × (List (List UInt8 × (Int × Int)) × (List (List UInt8 × (Int × (Int × (Int × List UInt8)))) × (List (List UInt8 × (Int × (Int × (Int × List UInt8)))) × List (List UInt8 × (Int × (Int × (Int × List UInt8)))))))))))))))) : Tr Res := Tr.br ((↑(List.length (Prod.fst (Prod.snd (Prod.snd (Prod.snd (Prod.snd (Prod.snd (Prod.snd (Prod.snd (Prod.snd m)))))))))) : Int) != (1 : Int)) (Tr.ret ([AV.agg [AV.int IntKind.u16 (Prod.fst m), AV.bool true, AV.bool false, AV.bool false, AV.bool (Prod.fst (Prod.snd (Prod.snd (Prod.snd (Prod.snd m))))), AV.bool false, AV.int IntKind.i64 (Prod.fst (Prod.snd (Prod.snd (Prod.snd (Prod.snd (Prod.snd (Prod.snd m))))))), AV.int IntKind.i64 (1 : Int), AV.list QQ (Prod.fst (Prod.snd (Prod.snd (Prod.snd (Prod.snd (Prod.snd (Prod.snd (Prod.snd (Prod.snd m))))))))), AV.list RR [], AV.list RR [], AV.list RR []]], [])) (Tr.br (Prod.fst (Prod.snd (Prod.snd (Prod.snd (Prod.snd (Prod.snd (Prod.snd m)))))) != (0 : Int)) (Tr.ret ([AV.agg [AV.int IntKind.u16 (Prod.fst m), AV.bool true, AV.bool false, AV.bool false, AV.bool (Prod.fst (Prod.snd (Prod.snd (Prod.snd (Prod.snd m))))), AV.bool false, AV.int IntKind.i64 (Prod.fst (Prod.snd (Prod.snd (Prod.snd (Prod.snd (Prod.snd (Prod.snd m))))))), AV.int IntKind.i64 (4 : Int), AV.list QQ (Prod.fst (Prod.snd (Prod.snd (Prod.snd (Prod.snd (Prod.snd (Prod.snd (Prod.snd (Prod.snd m))))))))), AV.list RR [], AV.list RR [], AV.list RR []]], [])) (Tr.br (decide ((0 : Int) < (↑(List.length (Prod.fst (Prod.snd (Prod.snd (Prod.snd (Prod.snd (Prod.snd (Prod.snd (Prod.snd (Prod.snd m)))))))))) : Int))) (Tr.br (smL l && smN (Prod.fst (List.getD (Prod.fst (Prod.snd (Prod.snd (Prod.snd (Prod.snd (Prod.snd (Prod.snd (Prod.snd (Prod.snd m))))))))) (Int.toNat (0 : Int)) (Ty.dflt QQ)))) (Tr.br (decide (bestV l (Prod.fst (List.getD (Prod.fst (Prod.snd (Prod.snd (Prod.snd (Prod.snd (Prod.snd (Prod.snd (Prod.snd (Prod.snd m))))))))) (Int.toNat (0 : Int)) (Ty.dflt QQ))) < (0 : Int))) (Tr.ret ([AV.agg [AV.int IntKind.u16 (Prod.fst m), AV.bool true, AV.bool false, AV.bool false, AV.bool (Prod.fst (Prod.snd (Prod.snd (Prod.snd (Prod.snd m))))), AV.bool false, AV.int IntKind.i64 (Prod.fst (Prod.snd (Prod.snd (Prod.snd (Prod.snd (Prod.snd (Prod.snd m))))))), AV.int IntKind.i64 (5 : Int), AV.list QQ (Prod.fst (Prod.snd (Prod.snd (Prod.snd (Prod.snd (Prod.snd (Prod.snd (Prod.snd (Prod.snd m))))))))), AV.list RR [], AV.list RR [], AV.list RR []]], [])) (Tr.br (Prod.snd (Prod.snd (List.getD (Prod.fst (Prod.snd (Prod.snd (Prod.snd (Prod.snd (Prod.snd (Prod.snd (Prod.snd (Prod.snd m))))))))) (Int.toNat (0 : Int)) (Ty.dflt QQ))) != (1 : Int)) (Tr.ret ([AV.agg [AV.int IntKind.u16 (Prod.fst m), AV.bool true, AV.bool false, AV.bool false, AV.bool (Prod.fst (Prod.snd (Prod.snd (Prod.snd (Prod.snd m))))), AV.bool false, AV.int IntKind.i64 (Prod.fst (Prod.snd (Prod.snd (Prod.snd (Prod.snd (Prod.snd (Prod.snd m))))))), AV.int IntKind.i64 (5 : Int), AV.list QQ (Prod.fst (Prod.snd (Prod.snd (Prod.snd (Prod.snd (Prod.snd (Prod.snd (Prod.snd (Prod.snd m))))))))), AV.list RR [], AV.list RR [], AV.list RR []]], [])) (Tr.br (decide ((0 : Int) ≤ bestV l (Prod.fst (List.getD (Prod.fst (Prod.snd (Prod.snd (Prod.snd (Prod.snd (Prod.snd (Prod.snd (Prod.snd (Prod.snd m))))))))) (Int.toNat (0 : Int)) (Ty.dflt QQ))))) (Tr.br (decide (bestV l (Prod.fst (List.getD (Prod.fst (Prod.snd (Prod.snd (Prod.snd (Prod.snd (Prod.snd (Prod.snd (Prod.snd (Prod.snd m))))))))) (Int.toNat (0 : Int)) (Ty.dflt QQ))) < (↑(List.length l) : Int))) (Tr.br (zOk (List.getD l (Int.toNat (bestV l (Prod.fst (List.getD (Prod.fst (Prod.snd (Prod.snd (Prod.snd (Prod.snd (Prod.snd (Prod.snd (Prod.snd (Prod.snd m))))))))) (Int.toNat (0 : Int)) (Ty.dflt QQ))))) (Ty.dflt ZN)) && smN (Prod.fst (List.getD (Prod.fst (Prod.snd (Prod.snd (Prod.snd (Prod.snd (Prod.snd (Prod.snd (Prod.snd (Prod.snd m))))))))) (Int.toNat (0 : Int)) (Ty.dflt QQ)))) (Tr.ret ([AV.agg [AV.int IntKind.u16 (Prod.fst (fillV (List.getD l (Int.toNat (bestV l (Prod.fst (List.getD (Prod.fst (Prod.snd (Prod.snd (Prod.snd (Prod.snd (Prod.snd (Prod.snd (Prod.snd (Prod.snd m))))))))) (Int.toNat (0 : Int)) (Ty.dflt QQ))))) (Ty.dflt ZN)) (Prod.fst m, true, false, false, Prod.fst (Prod.snd (Prod.snd (Prod.snd (Prod.snd m)))), false, Prod.fst (Prod.snd (Prod.snd (Prod.snd (Prod.snd (Prod.snd (Prod.snd m)))))), (0 : Int), Prod.fst (Prod.snd (Prod.snd (Prod.snd (Prod.snd (Prod.snd (Prod.snd (Prod.snd (Prod.snd m)))))))), [], [], []) (List.getD (Prod.fst (Prod.snd (Prod.snd (Prod.snd (Prod.snd (Prod.snd (Prod.snd (Prod.snd (Prod.snd m))))))))) (Int.toNat (0 : Int)) (Ty.dflt QQ)))), AV.bool (Prod.fst (Prod.snd (fillV (List.getD l (Int.toNat (bestV l (Prod.fst (List.getD (Prod.fst (Prod.snd (Prod.snd (Prod.snd (Prod.snd (Prod.snd (Prod.snd (Prod.snd (Prod.snd m))))))))) (Int.toNat (0 : Int)) (Ty.dflt QQ))))) (Ty.dflt ZN)) (Prod.fst m, true, false, false, Prod.fst (Prod.snd (Prod.snd (Prod.snd (Prod.snd m)))), false, Prod.fst (Prod.snd (Prod.snd (Prod.snd (Prod.snd (Prod.snd (Prod.snd m)))))), (0 : Int), Prod.fst (Prod.snd (Prod.snd (Prod.snd (Prod.snd (Prod.snd (Prod.snd (Prod.snd (Prod.snd m)))))))), [], [], []) (List.getD (Prod.fst (Prod.snd (Prod.snd (Prod.snd (Prod.snd (Prod.snd (Prod.snd (Prod.snd (Prod.snd m))))))))) (Int.toNat (0 : Int)) (Ty.dflt QQ))))), AV.bool (Prod.fst (Prod.snd (Prod.snd (fillV (List.getD l (Int.toNat (bestV l (Prod.fst (List.getD (Prod.fst (Prod.snd (Prod.snd (Prod.snd (Prod.snd (Prod.snd (Prod.snd (Prod.snd (Prod.snd m))))))))) (Int.toNat (0 : Int)) (Ty.dflt QQ))))) (Ty.dflt ZN)) (Prod.fst m, true, false, false, Prod.fst (Prod.snd (Prod.snd (Prod.snd (Prod.snd m)))), false, Prod.fst (Prod.snd (Prod.snd (Prod.snd (Prod.snd (Prod.snd (Prod.snd m)))))), (0 : Int), Prod.fst (Prod.snd (Prod.snd (Prod.snd (Prod.snd (Prod.snd (Prod.snd (Prod.snd (Prod.snd m)))))))), [], [], []) (List.getD (Prod.fst (Prod.snd (Prod.snd (Prod.snd (Prod.snd (Prod.snd (Prod.snd (Prod.snd (Prod.snd m))))))))) (Int.toNat (0 : Int)) (Ty.dflt QQ)))))), AV.bool (Prod.fst (Prod.snd (Prod.snd (Prod.snd (fillV (List.getD l (Int.toNat (bestV l (Prod.fst (List.getD (Prod.fst (Prod.snd (Prod.snd (Prod.snd (Prod.snd (Prod.snd (Prod.snd (Prod.snd (Prod.snd m))))))))) (Int.toNat (0 : Int)) (Ty.dflt QQ))))) (Ty.dflt ZN)) (Prod.fst m, true, false, false, Prod.fst (Prod.snd (Prod.snd (Prod.snd (Prod.snd m)))), false, Prod.fst (Prod.snd (Prod.snd (Prod.snd (Prod.snd (Prod.snd (Prod.snd m)))))), (0 : Int), Prod.fst (Prod.snd (Prod.snd (Prod.snd (Prod.snd (Prod.snd (Prod.snd (Prod.snd (Prod.snd m)))))))), [], [], []) (List.getD (Prod.fst (Prod.snd (Prod.snd (Prod.snd (Prod.snd (Prod.snd (Prod.snd (Prod.snd (Prod.snd m))))))))) (Int.toNat (0 : Int)) (Ty.dflt QQ))))))), AV.bool (Prod.fst (Prod.snd (Prod.snd (Prod.snd (Prod.snd (fillV (List.getD l (Int.toNat (bestV l (Prod.fst (List.getD (Prod.fst (Prod.snd (Prod.snd (Prod.snd (Prod.snd (Prod.snd (Prod.snd (Prod.snd (Prod.snd m))))))))) (Int.toNat (0 : Int)) (Ty.dflt QQ))))) (Ty.dflt ZN)) (Prod.fst m, true, false, false, Prod.fst (Prod.snd (Prod.snd (Prod.snd (Prod.snd m)))), false, Prod.fst (Prod.snd (Prod.snd (Prod.snd (Prod.snd (Prod.snd (Prod.snd m)))))), (0 : Int), Prod.fst (Prod.snd (Prod.snd (Prod.snd (Prod.snd (Prod.snd (Prod.snd (Prod.snd (Prod.snd m)))))))), [], [], []) (List.getD (Prod.fst (Prod.snd (Prod.snd (Prod.snd (Prod.snd (Prod.snd (Prod.snd (Prod.snd (Prod.snd m))))))))) (Int.toNat (0 : Int)) (Ty.dflt QQ)))))))), AV.bool (Prod.fst (Prod.snd (Prod.snd (Prod.snd (Prod.snd (Prod.snd (fillV (List.getD l (Int.toNat (bestV l (Prod.fst (List.getD (Prod.fst (Prod.snd (Prod.snd (Prod.snd (Prod.snd (Prod.snd (Prod.snd (Prod.snd (Prod.snd m))))))))) (Int.toNat (0 : Int)) (Ty.dflt QQ))))) (Ty.dflt ZN)) (Prod.fst m, true, false, false, Prod.fst (Prod.snd (Prod.snd (Prod.snd (Prod.snd m)))), false, Prod.fst (Prod.snd (Prod.snd (Prod.snd (Prod.snd (Prod.snd (Prod.snd m)))))), (0 : Int), Prod.fst (Prod.snd (Prod.snd (Prod.snd (Prod.snd (Prod.snd (Prod.snd (Prod.snd (Prod.snd m)))))))), [], [], []) (List.getD (Prod.fst (Prod.snd (Prod.snd (Prod.snd (Prod.snd (Prod.snd (Prod.snd (Prod.snd (Prod.snd m))))))))) (Int.toNat (0 : Int)) (Ty.dflt QQ))))))))), AV.int IntKind.i64 (Prod.fst (Prod.snd (Prod.snd (Prod.snd (Prod.snd (Prod.snd (Prod.snd (fillV (List.getD l (Int.toNat (bestV l (Prod.fst (List.getD (Prod.fst (Prod.snd (Prod.snd (Prod.snd (Prod.snd (Prod.snd (Prod.snd (Prod.snd (Prod.snd m))))))))) (Int.toNat (0 : Int)) (Ty.dflt QQ))))) (Ty.dflt ZN)) (Prod.fst m, true, false, false, Prod.fst (Prod.snd (Prod.snd (Prod.snd (Prod.snd m)))), false, Prod.fst (Prod.snd (Prod.snd (Prod.snd (Prod.snd (Prod.snd (Prod.snd m)))))), (0 : Int), Prod.fst (Prod.snd (Prod.snd (Prod.snd (Prod.snd (Prod.snd (Prod.snd (Prod.snd (Prod.snd m)))))))), [], [], []) (List.getD (Prod.fst (Prod.snd (Prod.snd (Prod.snd (Prod.snd (Prod.snd (Prod.snd (Prod.snd (Prod.snd m))))))))) (Int.toNat (0 : Int)) (Ty.dflt QQ)))))))))), AV.int IntKind.i64 (Prod.fst (Prod.snd (Prod.snd (Prod.snd (Prod.snd (Prod.snd (Prod.snd (Prod.snd (fillV (List.getD l (Int.toNat (bestV l (Prod.fst (List.getD (Prod.fst (Prod.snd (Prod.snd (Prod.snd (Prod.snd (Prod.snd (Prod.snd (Prod.snd (Prod.snd m))))))))) (Int.toNat (0 : Int)) (Ty.dflt QQ))))) (Ty.dflt ZN)) (Prod.fst m, true, false, false, Prod.fst (Prod.snd (Prod.snd (Prod.snd (Prod.snd m)))), false, Prod.fst (Prod.snd (Prod.snd (Prod.snd (Prod.snd (Prod.snd (Prod.snd m)))))), (0 : Int), Prod.fst (Prod.snd (Prod.snd (Prod.snd (Prod.snd (Prod.snd (Prod.snd (Prod.snd (Prod.snd m)))))))), [], [], []) (List.getD (Prod.fst (Prod.snd (Prod.snd (Prod.snd (Prod.snd (Prod.snd (Prod.snd (Prod.snd (Prod.snd m))))))))) (Int.toNat (0 : Int)) (Ty.dflt QQ))))))))))), AV.list QQ (Prod.fst (Prod.snd (Prod.snd (Prod.snd (Prod.snd (Prod.snd (Prod.snd (Prod.snd (Prod.snd (fillV (List.getD l (Int.toNat (bestV l (Prod.fst (List.getD (Prod.fst (Prod.snd (Prod.snd (Prod.snd (Prod.snd (Prod.snd (Prod.snd (Prod.snd (Prod.snd m))))))))) (Int.toNat (0 : Int)) (Ty.dflt QQ))))) (Ty.dflt ZN)) (Prod.fst m, true, false, false, Prod.fst (Prod.snd (Prod.snd (Prod.snd (Prod.snd m)))), false, Prod.fst (Prod.snd (Prod.snd (Prod.snd (Prod.snd (Prod.snd (Prod.snd m)))))), (0 : Int), Prod.fst (Prod.snd (Prod.snd (Prod.snd (Prod.snd (Prod.snd (Prod.snd (Prod.snd (Prod.snd m)))))))), [], [], []) (List.getD (Prod.fst (Prod.snd (Prod.snd (Prod.snd (Prod.snd (Prod.snd (Prod.snd (Prod.snd (Prod.snd m))))))))) (Int.toNat (0 : Int)) (Ty.dflt QQ)))))))))))), AV.list RR (Prod.fst (Prod.snd (Prod.snd (Prod.snd (Prod.snd (Prod.snd (Prod.snd (Prod.snd (Prod.snd (Prod.snd (fillV (List.getD l (Int.toNat (bestV l (Prod.fst (List.getD (Prod.fst (Prod.snd (Prod.snd (Prod.snd (Prod.snd (Prod.snd (Prod.snd (Prod.snd (Prod.snd m))))))))) (Int.toNat (0 : Int)) (Ty.dflt QQ))))) (Ty.dflt ZN)) (Prod.fst m, true, false, false, Prod.fst (Prod.snd (Prod.snd (Prod.snd (Prod.snd m)))), false, Prod.fst (Prod.snd (Prod.snd (Prod.snd (Prod.snd (Prod.snd (Prod.snd m)))))), (0 : Int), Prod.fst (Prod.snd (Prod.snd (Prod.snd (Prod.snd (Prod.snd (Prod.snd (Prod.snd (Prod.snd m)))))))), [], [], []) (List.getD (Prod.fst (Prod.snd (Prod.snd (Prod.snd (Prod.snd (Prod.snd (Prod.snd (Prod.snd (Prod.snd m))))))))) (Int.toNat (0 : Int)) (Ty.dflt QQ))))))))))))), AV.list RR (Prod.fst (Prod.snd (Prod.snd (Prod.snd (Prod.snd (Prod.snd (Prod.snd (Prod.snd (Prod.snd (Prod.snd (Prod.snd (fillV (List.getD l (Int.toNat (bestV l (Prod.fst (List.getD (Prod.fst (Prod.snd (Prod.snd (Prod.snd (Prod.snd (Prod.snd (Prod.snd (Prod.snd (Prod.snd m))))))))) (Int.toNat (0 : Int)) (Ty.dflt QQ))))) (Ty.dflt ZN)) (Prod.fst m, true, false, false, Prod.fst (Prod.snd (Prod.snd (Prod.snd (Prod.snd m)))), false, Prod.fst (Prod.snd (Prod.snd (Prod.snd (Prod.snd (Prod.snd (Prod.snd m)))))), (0 : Int), Prod.fst (Prod.snd (Prod.snd (Prod.snd (Prod.snd (Prod.snd (Prod.snd (Prod.snd (Prod.snd m)))))))), [], [], []) (List.getD (Prod.fst (Prod.snd (Prod.snd (Prod.snd (Prod.snd (Prod.snd (Prod.snd (Prod.snd (Prod.snd m))))))))) (Int.toNat (0 : Int)) (Ty.dflt QQ)))))))))))))), AV.list RR (Prod.snd (Prod.snd (Prod.snd (Prod.snd (Prod.snd (Prod.snd (Prod.snd (Prod.snd (Prod.snd (Prod.snd (Prod.snd (fillV (List.getD l (Int.toNat (bestV l (Prod.fst (List.getD (Prod.fst (Prod.snd (Prod.snd (Prod.snd (Prod.snd (Prod.snd (Prod.snd (Prod.snd (Prod.snd m))))))))) (Int.toNat (0 : Int)) (Ty.dflt QQ))))) (Ty.dflt ZN)) (Prod.fst m, true, false, false, Prod.fst (Prod.snd (Prod.snd (Prod.snd (Prod.snd m)))), false, Prod.fst (Prod.snd (Prod.snd (Prod.snd (Prod.snd (Prod.snd (Prod.snd m)))))), (0 : Int), Prod.fst (Prod.snd (Prod.snd (Prod.snd (Prod.snd (Prod.snd (Prod.snd (Prod.snd (Prod.snd m)))))))), [], [], []) (List.getD (Prod.fst (Prod.snd (Prod.snd (Prod.snd (Prod.snd (Prod.snd (Prod.snd (Prod.snd (Prod.snd m))))))))) (Int.toNat (0 : Int)) (Ty.dflt QQ))))))))))))))]], [])) Tr.no) Tr.no) Tr.no))) Tr.no) Tr.no))
def os28 : OSpec := { f := 28, sh := [.d (.list ZN) false, .d MG true], so := [], F := fun (l, m, _) _ => t28 l m }
set_option maxRecDepth 1000000 in
theorem fn28 (l : List (List UInt8 × List (List UInt8 × (Int × (Int × (Int × List UInt8)))))) (m : (Int × (Bool × (Bool × (Bool × (Bool × (Bool × (Int × (Int × (List (List UInt8 × (Int × Int)) × (List (List UInt8 × (Int × (Int × (Int × List UInt8)))) × (List (List UInt8 × (Int × (Int × (Int × List UInt8)))) × List (List UInt8 × (Int × (Int × (Int × List UInt8)))))))))))))))) : evC T0 (orcB [fs55, fs24w, fs56w] []) (lpOf h28 0 (lsOf [])) c28 1000000 (startSt [.list ZN l, AV.ofTy MG m true] [] Try.f28.ntmps) (finishK T0 false 0 Try.f28) = (t28 l m).get := by kernel_rfl
theorem ok28 : os28.Ok Try.prog := by
  refine os_ok mixed0 tab0 (orcB_sound (all_cons okf55 (all_cons okf24w (all_cons okf56w all_nil))) all_nil) h28 (d := 0) (n0 := 0) (S := lsOf []) Try.func28 (by kernel_rfl) (c := c28) (by kernel_rfl) rfl (no_loops (by kernel_rfl)) (by omega) (by kernel_rfl) ?_
  intro x'' y'' q'' hq''
  obtain ⟨(l : List (List UInt8 × List (List UInt8 × (Int × (Int × (Int × List UInt8)))))), (m : (Int × (Bool × (Bool × (Bool × (Bool × (Bool × (Int × (Int × (List (List UInt8 × (Int × Int)) × (List (List UInt8 × (Int × (Int × (Int × List UInt8)))) × (List (List UInt8 × (Int × (Int × (Int × List UInt8)))) × List (List UInt8 × (Int × (Int × (Int × List UInt8)))))))))))))))), _⟩ := x''
  exact (fn28 l m).trans hq''
def fs28 : FSpec := fsT 28 [((.list ZN), false), (MG, true)] [(MG, true)] fun (l, m, _) => t28 l m
theorem okf28 : fs28.Ok Try.prog := fsT_ok fun x'' r'' hr'' => ok28 x'' () r'' hr''
theorem ans_all (l : List ZNt) (m : MGt) (hl : zsOk l = true) (hq : smN (qAt m).1 = true) : Tr.all (fun r : Res => r = ([mgA (ansV l m)], [])) (t28 l m) := by
  unfold t28 ansV
  have hqq : (Prod.fst (Prod.snd (Prod.snd (Prod.snd (Prod.snd (Prod.snd (Prod.snd (Prod.snd (Prod.snd m)))))))) ).getD (Int.toNat (0 : Int)) (Ty.dflt QQ) = qAt m := rfl
  rw [hqq]
  refine Tr.all_br (fun h1 => Tr.all_ret (by rw [h1]; rfl)) fun h1 => ?_
  rw [h1, cond_false]
  have hl1 : m.2.2.2.2.2.2.2.2.1.length = 1 := by
    have : ((m.2.2.2.2.2.2.2.2.1.length : Int) != 1) = false := h1
    simp at this
    omega
  refine Tr.all_br (fun h2 => Tr.all_ret (by rw [h2]; rfl)) fun h2 => Tr.all_t (dec_true (by omega)) (Tr.all_t (by rw [zsOk_L hl, hq]; rfl) ?_)
  rw [h2, cond_false]
  refine Tr.all_br (fun h3 => Tr.all_ret (by rw [h3]; rfl)) fun h3 => Tr.all_br (fun h4 => Tr.all_ret (by rw [h4, h3]; rfl)) fun h4 => ?_
  obtain ⟨b1, b2⟩ := bestV_lt l (qAt m).1 (of_decide_eq_false h3)
  refine Tr.all_t (dec_true b1) (Tr.all_t (dec_true b2) (Tr.all_t (by rw [zsOk_get hl (by omega), hq]; rfl) (Tr.all_ret ?_)))
  rw [h3, h4]
  rfl
def fs28w : FSpec := fs28.like fun (l, m, _) => .on (zsOk l && smN (qAt m).1) (ansV l m, ())
theorem okf28w : fs28w.Ok Try.prog := by
  refine flike_ok okf28 _ ?_
  rintro ⟨(l : List ZNt), (m : MGt), _⟩ y h
  obtain ⟨hb, rfl⟩ := Tr.get_on h
  obtain ⟨hz, hq⟩ := Bool.and_eq_true_iff.1 (show (zsOk l && smN (qAt m).1) = true from hb)
  exact convR_of (vs := [mgA (ansV l m)]) rfl rfl (Tr.get_of_all (ans_all l m hz hq))
end Go.Proofs.YtkobjdhbfepkaaaE
namespace Go.Proofs.YtkobjdhbfepkaaaE
open Go Go.Proofs.YtkobjdhbfepkaaaB
set_option linter.unusedVariables false
set_option linter.unusedSimpArgs false
set_option maxRecDepth 100000
def t14 : Tr Res := Tr.ret ([AV.bool (Prod.fst (List.getD (Prod.fst (Prod.snd (Prod.snd (Prod.snd (Prod.snd (Prod.snd (Prod.snd (Prod.snd (Prod.snd (Prod.snd (Prod.snd (ansV [([2, 97, 98, 0], [([1, 99, 2, 97, 98, 0], (2 : Int), (1 : Int), (0 : Int), [1, 110, 0])])] ((0 : Int), false, false, false, false, false, (0 : Int), (0 : Int), [([3, 119, 119, 119, 1, 99, 2, 97, 98, 0], (1 : Int), (1 : Int))], [], [], []))))))))))))) (Int.toNat (0 : Int)) (Ty.dflt RR)) == [1, 99, 2, 97, 98, 0])], [])
def os14 : OSpec := { f := 14, sh := [], so := [], F := fun _ _ => t14 }
set_option maxRecDepth 1000000 in
theorem fn14 : evC T0 (orcB [fs28w] []) (lpOf h14 0 (lsOf [])) c14 1000000 (startSt [] [] Try.f14.ntmps) (finishK T0 false 0 Try.f14) = (t14).get := by kernel_rfl
theorem ok14 : os14.Ok Try.prog := by
  refine os_ok mixed0 tab0 (orcB_sound (all_cons okf28w all_nil) all_nil) h14 (d := 0) (n0 := 0) (S := lsOf []) Try.func14 (by kernel_rfl) (c := c14) (by kernel_rfl) rfl (no_loops (by kernel_rfl)) (by omega) (by kernel_rfl) ?_
  intro x'' y'' q'' hq''
  exact (fn14).trans hq''
def fs14 : FSpec := fsT 14 [] [(.bool, false)] fun _ => t14
theorem okf14 : fs14.Ok Try.prog := fsT_ok fun x'' r'' hr'' => ok14 x'' () r'' hr''
theorem shown17 : t14 = .ret ([.bool true], []) := by kernel_rfl
def fs14w : FSpec := fs14.like fun _ => .ret (true, ())
theorem okf14w : fs14w.Ok Try.prog := by
  refine flike_ok okf14 _ ?_
  rintro _ y h
  cases h
  refine convR_of (vs := [.bool true]) rfl rfl (Tr.get_of_all ?_)
  show t14.all _
  rw [shown17]
  exact Tr.all_ret rfl
theorem rrFew_iff {rs : List RRt} : rrFew rs = true ↔ ∀ r ∈ rs, r.1.length ≤ 300 ∧ r.2.2.2.2.length ≤ 300 := by
  unfold rrFew
  rw [List.all_eq_true]
  exact forall_congr' fun r => forall_congr' fun _ => by rw [Bool.and_eq_true, decide_eq_true_eq, decide_eq_true_eq]
theorem znFew_iff {z : ZNt} : znFew z = true ↔ z.2.length ≤ 40 ∧ z.1.length ≤ 300 ∧ rrFew z.2 = true := by
  unfold znFew
  rw [Bool.and_eq_true, Bool.and_eq_true, decide_eq_true_eq, decide_eq_true_eq]
theorem znFew_ok {z : ZNt} (h : znFew z = true) : zOk z = true := by
  obtain ⟨h1, h2, h3⟩ := znFew_iff.1 h
  have h3 := rrFew_iff.1 h3
  unfold zOk smZ smR smD
  rw [smN_iff.2 (by omega), Nat.ble_eq_true_of_le (show z.2.length ≤ 1000000 by omega), Nat.ble_eq_true_of_le (show z.2.length ≤ 1000 by omega)]
  rw [show (z.2.all fun r => smN r.1) = true from List.all_eq_true.2 fun r hr => smN_iff.2 (by have := (h3 r hr).1; omega)]
  rw [show (z.2.all fun r => bigS r.2.2.2.2) = true from List.all_eq_true.2 fun r hr => len_big (by have := (h3 r hr).2; omega)]
  rfl
theorem few_zs {l : List ZNt} (h : fewZ l = true) : zsOk l = true := by
  obtain ⟨h1, h2⟩ := fewZ_iff.1 h
  unfold zsOk
  rw [show l.all zOk = true from List.all_eq_true.2 fun z hz => znFew_ok (h2 z hz), Nat.ble_eq_true_of_le (by omega)]
  rfl
def t16o (l : List (List UInt8 × List (List UInt8 × (Int × (Int × (Int × List UInt8)))))) : Tr Res := Tr.br (maC l [] (0 : Int)) (Tr.ret ([AV.rowA 0], [LObj.row ZN l])) Tr.no
def os16o : OSpec := { f := 16, sh := [.d (.list ZN) false], so := [], F := fun (l, _) _ => t16o l }
set_option maxRecDepth 1000000 in
theorem fn16o (l : List (List UInt8 × List (List UInt8 × (Int × (Int × (Int × List UInt8)))))) : evC T0 (orcB [] []) (lpOf (hOwn h16) 0 (lsOf [ls16])) c16 1000000 (startSt [.list ZN l] [] Try.f16.ntmps) (finishK T0 true 0 Try.f16) = (t16o l).get := by kernel_rfl
def os16w : OSpec := os16o.like fun (l, _) _ => .on (Nat.ble l.length 1000000) ([.rowA 0], [.row ZN l])
def wbC (l l2 : List ZNt) (n : List UInt8) (b k : Int) : Bool := smL l && (smN n && (decide (b = bestV l n) && (decide (k = 0) && decide (l2 = l))))
noncomputable def b7 : Code := nthLoop c7 0
def ls7 : LoopSpec := { bid := 0, sh := [.d (.list ZN) false, .d .str false, .ptr 0 0, .d .bool false, .row 1, .d (.int .i64) false, .d (.int .i64) false], so := [.box [.d .str false, .d (.list RR) false], .row ZN], F := fun (l, n, up, b, k, _) ((za, zr, _), l2, _) => .on (wbC l l2 n b k) (.exit 0, [.list ZN l, .str n, .ptr 0 0, .dead, .bool up, .rowA 1, .int .i64 b], [.box [.str za, .list RR zr], .row ZN l2]) }
def r7 (l : List (List UInt8 × List (List UInt8 × (Int × (Int × (Int × List UInt8)))))) (n : List UInt8) (up : Bool) (b : Int) (k : Int) (za : List UInt8) (zr : List (List UInt8 × (Int × (Int × (Int × List UInt8))))) (l2 : List (List UInt8 × List (List UInt8 × (Int × (Int × (Int × List UInt8)))))) : Tr (St ⊕ (Ex × St)) := Tr.br (decide (k < (↑(List.length l) : Int))) (Tr.br (decide ((0 : Int) ≤ k)) (Tr.br (decide (k < (↑(List.length l) : Int))) (Tr.br (smN n && smN (Prod.fst (List.getD l (Int.toNat k) (Ty.dflt ZN)))) (Tr.br (undV n (Prod.fst (List.getD l (Int.toNat k) (Ty.dflt ZN)))) (Tr.br (decide (b < (0 : Int))) (Tr.ret (Sum.inr (Ex.ret, stOf [0, 2, 4, 6, 7, 8, 9] [AV.list ZN l, AV.str n, AV.ptr 0 0, AV.bool false, AV.bool up, AV.rowA 1, AV.int IntKind.i64 b] [LObj.boxT none [AV.str za, AV.list RR zr], LObj.row ZN l2]))) (Tr.br (decide ((0 : Int) ≤ k)) (Tr.br (decide (k < (↑(List.length l) : Int))) (Tr.br (bigS (Prod.fst (List.getD l (Int.toNat k) (Ty.dflt ZN)))) (Tr.br (decide ((0 : Int) ≤ b)) (Tr.br (decide (b < (↑(List.length l) : Int))) (Tr.br (bigS (Prod.fst (List.getD l (Int.toNat b) (Ty.dflt ZN)))) (Tr.br (decide (depV (Prod.fst (List.getD l (Int.toNat k) (Ty.dflt ZN))) > depV (Prod.fst (List.getD l (Int.toNat b) (Ty.dflt ZN))))) (Tr.ret (Sum.inr (Ex.ret, stOf [0, 2, 4, 6, 7, 8, 9] [AV.list ZN l, AV.str n, AV.ptr 0 0, AV.bool false, AV.bool up, AV.rowA 1, AV.int IntKind.i64 b] [LObj.boxT none [AV.str za, AV.list RR zr], LObj.row ZN l2]))) (Tr.ret (Sum.inl (stOf [0, 2, 4, 7, 8, 9, 10] [AV.list ZN l, AV.str n, AV.ptr 0 0, AV.bool up, AV.rowA 1, AV.int IntKind.i64 b, AV.int IntKind.i64 (IntKind.wrap IntKind.i64 (k + (1 : Int)))] [LObj.boxT none [AV.str za, AV.list RR zr], LObj.row ZN l2])))) Tr.no) Tr.no) Tr.no) Tr.no) Tr.no) Tr.no)) (Tr.ret (Sum.inl (stOf [0, 2, 4, 7, 8, 9, 10] [AV.list ZN l, AV.str n, AV.ptr 0 0, AV.bool up, AV.rowA 1, AV.int IntKind.i64 b, AV.int IntKind.i64 (IntKind.wrap IntKind.i64 (k + (1 : Int)))] [LObj.boxT none [AV.str za, AV.list RR zr], LObj.row ZN l2])))) Tr.no) Tr.no) Tr.no) (Tr.ret (Sum.inr (Ex.exit 0, stOf [0, 2, 4, 6, 7, 8, 9] [AV.list ZN l, AV.str n, AV.ptr 0 0, AV.dead, AV.bool up, AV.rowA 1, AV.int IntKind.i64 b] [LObj.boxT none [AV.str za, AV.list RR zr], LObj.row ZN l2])))
set_option maxRecDepth 1000000 in
theorem round7 (lp : Lp) (l : List (List UInt8 × List (List UInt8 × (Int × (Int × (Int × List UInt8)))))) (n : List UInt8) (up : Bool) (b : Int) (k : Int) (za : List UInt8) (zr : List (List UInt8 × (Int × (Int × (Int × List UInt8))))) (l2 : List (List UInt8 × List (List UInt8 × (Int × (Int × (Int × List UInt8)))))) : evC T0 (orcB [fs14w, fs15w, fs31w, fs32w, fs24w] [os16w]) lp b7 0 (stOf [0, 2, 4, 7, 8, 9, 10] [.list ZN l, .str n, .ptr 0 0, .bool up, .rowA 1, .int .i64 b, .int .i64 k] [.box [.str za, .list RR zr], .row ZN l2]) (roundK [0, 2, 4, 7, 8, 9, 10] [0, 2, 4, 6, 7, 8, 9] 0) = (r7 l n up b k za zr l2).get := by kernel_rfl
def t7 (l : List (List UInt8 × List (List UInt8 × (Int × (Int × (Int × List UInt8)))))) (z : (List UInt8 × List (List UInt8 × (Int × (Int × (Int × List UInt8)))))) (n : List UInt8) : Tr Res := Tr.br (!fewZ l) (Tr.ret ([AV.bool true], [])) (Tr.br (!fewZ [z]) (Tr.ret ([AV.bool true], [])) (Tr.br (decide ((↑(List.length n) : Int) > (300 : Int))) (Tr.ret ([AV.bool true], [])) (Tr.br (Nat.ble (List.length l) 1000000) (Tr.br (smL l && smN n) (Tr.br (wbC l l n (bestV l n) (0 : Int)) (Tr.br (fits (List.length l + 1) 40) (Tr.br (smL (l ++ [z]) && smN n) (Tr.br (decide (bestV l n ≥ (-1 : Int))) (Tr.br (decide (bestV l n < (↑(List.length l) : Int))) (Tr.br (decide (bestV l n < (0 : Int))) (Tr.br (bestV (l ++ [z]) n == bestV l n) (Tr.br (bestV (l ++ [z]) n != (↑(List.length l) : Int)) (Tr.ret ([AV.bool true], [])) (Tr.br (smN n && smN (Prod.fst z)) (Tr.ret ([AV.bool (undV n (Prod.fst z))], [])) Tr.no)) (Tr.br (bestV (l ++ [z]) n == (↑(List.length l) : Int)) (Tr.br (bestV (l ++ [z]) n != (↑(List.length l) : Int)) (Tr.ret ([AV.bool true], [])) (Tr.br (smN n && smN (Prod.fst z)) (Tr.ret ([AV.bool (undV n (Prod.fst z))], [])) Tr.no)) (Tr.ret ([AV.bool false], [])))) (Tr.br (decide ((0 : Int) ≤ bestV l n)) (Tr.br (decide (bestV l n < (↑(List.length l) : Int))) (Tr.br (smN n && smN (Prod.fst (List.getD l (Int.toNat (bestV l n)) (Ty.dflt ZN)))) (Tr.br (undV n (Prod.fst (List.getD l (Int.toNat (bestV l n)) (Ty.dflt ZN)))) (Tr.br (bestV (l ++ [z]) n == bestV l n) (Tr.br (bestV (l ++ [z]) n != (↑(List.length l) : Int)) (Tr.ret ([AV.bool true], [])) (Tr.br (smN n && smN (Prod.fst z)) (Tr.ret ([AV.bool (undV n (Prod.fst z))], [])) Tr.no)) (Tr.br (bestV (l ++ [z]) n == (↑(List.length l) : Int)) (Tr.br (bestV (l ++ [z]) n != (↑(List.length l) : Int)) (Tr.ret ([AV.bool true], [])) (Tr.br (smN n && smN (Prod.fst z)) (Tr.ret ([AV.bool (undV n (Prod.fst z))], [])) Tr.no)) (Tr.ret ([AV.bool false], [])))) (Tr.ret ([AV.bool false], []))) Tr.no) Tr.no) Tr.no)) (Tr.ret ([AV.bool false], []))) (Tr.ret ([AV.bool false], []))) Tr.no) Tr.no) Tr.no) Tr.no) Tr.no)))
set_option maxRecDepth 1000000 in
theorem fn7 (l : List (List UInt8 × List (List UInt8 × (Int × (Int × (Int × List UInt8)))))) (z : (List UInt8 × List (List UInt8 × (Int × (Int × (Int × List UInt8)))))) (n : List UInt8) : evC T0 (orcB [fs14w, fs15w, fs31w, fs32w, fs24w] [os16w]) (lpOf h7 0 (lsOf [ls7])) c7 1000000 (startSt [.list ZN l, AV.ofTy ZN z true, .str n] [] Try.f7.ntmps) (finishK T0 false 0 Try.f7) = (t7 l z n).get := by kernel_rfl
end Go.Proofs.YtkobjdhbfepkaaaE
namespace Go.Proofs.YtkobjdhbfepkaaaE
open Go Go.Proofs.YtkobjdhbfepkaaaB
set_option linter.unusedVariables false
set_option linter.unusedSimpArgs false
set_option maxRecDepth 100000
theorem hasV_iff {l : List RRt} {r : RRt} : hasV l r = true ↔ r ∈ l := by
  unfold hasV
  rw [List.any_eq_true]
  constructor
  · rintro ⟨x, h1, h2⟩
    rw [← of_decide_eq_true h2]; exact h1
  · intro h
    exact ⟨r, h, decide_eq_true rfl⟩
theorem addV_facts : ∀ (xs l : List RRt), (∃ t, addV l xs = l ++ t) ∧ (∀ r ∈ addV l xs, r ∈ l ∨ r ∈ xs) ∧ (l.Nodup → (addV l xs).Nodup)
  | [], l => ⟨⟨[], by simp [addV]⟩, fun r h => .inl h, fun h => h⟩
  | a :: xs, l => by
    rw [addV]
    by_cases h : hasV l a = true
    · rw [if_pos h]
      obtain ⟨h1, h2, h3⟩ := addV_facts xs l
      exact ⟨h1, fun r hr => (h2 r hr).imp id fun h => List.mem_cons_of_mem _ h, h3⟩
    · rw [if_neg h]
      obtain ⟨⟨t, h1⟩, h2, h3⟩ := addV_facts xs (l ++ [a])
      refine ⟨⟨[a] ++ t, by rw [h1, List.append_assoc]⟩, fun r hr => ?_, fun hl => h3 ?_⟩
      · rcases h2 r hr with h | h
        · rcases List.mem_append.1 h with h | h
          · exact .inl h
          · rw [List.mem_singleton.1 h]; exact .inr (by simp)
        · exact .inr (List.mem_cons_of_mem _ h)
      · rw [List.nodup_append]
        refine ⟨hl, by simp, fun x hx y hy e => ?_⟩
        rw [List.mem_singleton.1 hy] at e
        exact h (hasV_iff.2 (e ▸ hx))
def okG (z : ZNt) (r : RRt) : Prop := r ∈ z.2 ∧ r.2.1 = 1 ∧ undV r.1 z.1 = true
theorem ofV_mem {z : ZNt} {n : List UInt8} {k : Int} {r : RRt} : r ∈ ofV z n k ↔ r ∈ z.2 ∧ undV r.1 z.1 = true ∧ r.1 = n ∧ r.2.1 = k := by
  unfold ofV ownV isOf
  rw [List.mem_filter, Bool.and_eq_true, Bool.and_eq_true, beq_iff_eq, beq_iff_eq]
theorem glue1_facts (z : ZNt) (l : List RRt) (r : RRt) : (∃ t, glue1 z l r = l ++ t) ∧ (∀ x ∈ glue1 z l r, x ∈ l ∨ okG z x) ∧ (l.Nodup → (glue1 z l r).Nodup) := by
  unfold glue1
  split
  · rename_i n _
    obtain ⟨h1, h2, h3⟩ := addV_facts (ofV z n 1) l
    exact ⟨h1, fun x hx => (h2 x hx).imp id fun h => by obtain ⟨a, b, c, d⟩ := ofV_mem.1 h; exact ⟨a, d, b⟩, h3⟩
  · exact ⟨⟨[], by simp⟩, fun x hx => .inl hx, fun h => h⟩
theorem glueL_facts (z : ZNt) : ∀ (ns l : List RRt), (∃ t, glueL z l ns = l ++ t) ∧ (∀ x ∈ glueL z l ns, x ∈ l ∨ okG z x) ∧ (l.Nodup → (glueL z l ns).Nodup)
  | [], l => ⟨⟨[], by simp [glueL]⟩, fun x hx => .inl hx, fun h => h⟩
  | r :: ns, l => by
    obtain ⟨⟨t, a1⟩, a2, a3⟩ := glue1_facts z l r
    obtain ⟨⟨u, b1⟩, b2, b3⟩ := glueL_facts z ns (glue1 z l r)
    rw [glueL]
    refine ⟨⟨t ++ u, by rw [b1, a1, List.append_assoc]⟩, fun x hx => ?_, fun h => b3 (a3 h)⟩
    rcases b2 x hx with h | h
    · exact a2 x h
    · exact .inr h
def gbK (ap : List UInt8) (b : List RRt) : Bool := smN ap && (Nat.ble b.length 1000000 && ((b.all fun r => r.2.1 == 1 && (smN r.1 && undV r.1 ap)) && decide b.Nodup))
def gbI (b : List RRt) (i k : Int) : Bool := Nat.ble b.length 1000000 && (decide b.Nodup && (decide (0 ≤ i) && (decide (i < (b.length : Int)) && decide (k = 0))))
noncomputable def b8i : Code := nthLoop (nthLoop c8 0) 0
def ls8i : LoopSpec := { bid := 2, sh := [.ptr 0 0, .d .bool false, .d (.list RR) false, .d (.int .i64) false, .d (.int .i64) false], so := [.box [.d .str false, .d (.list RR) false]], F := fun (up, b, i, k, _) ((ap, zr, _), _) => .on (gbI b i k) (.exit 2, [.ptr 0 0, .dead, .bool up, .list RR b, .int .i64 i], [.box [.str ap, .list RR zr]]) }
def r8i (up : Bool) (b : List (List UInt8 × (Int × (Int × (Int × List UInt8))))) (i : Int) (k : Int) (ap : List UInt8) (zr : List (List UInt8 × (Int × (Int × (Int × List UInt8))))) : Tr (St ⊕ (Ex × St)) := Tr.br (decide (k < i)) (Tr.br (decide ((0 : Int) ≤ k)) (Tr.br (decide (k < (↑(List.length b) : Int))) (Tr.br (decide ((0 : Int) ≤ i)) (Tr.br (decide (i < (↑(List.length b) : Int))) (Tr.br (Prod.fst (List.getD b (Int.toNat k) (Ty.dflt RR)) == Prod.fst (List.getD b (Int.toNat i) (Ty.dflt RR)) && (Prod.fst (Prod.snd (List.getD b (Int.toNat k) (Ty.dflt RR))) == Prod.fst (Prod.snd (List.getD b (Int.toNat i) (Ty.dflt RR))) && (Prod.fst (Prod.snd (Prod.snd (List.getD b (Int.toNat k) (Ty.dflt RR)))) == Prod.fst (Prod.snd (Prod.snd (List.getD b (Int.toNat i) (Ty.dflt RR)))) && (Prod.fst (Prod.snd (Prod.snd (Prod.snd (List.getD b (Int.toNat k) (Ty.dflt RR))))) == Prod.fst (Prod.snd (Prod.snd (Prod.snd (List.getD b (Int.toNat i) (Ty.dflt RR))))) && (Prod.snd (Prod.snd (Prod.snd (Prod.snd (List.getD b (Int.toNat k) (Ty.dflt RR))))) == Prod.snd (Prod.snd (Prod.snd (Prod.snd (List.getD b (Int.toNat i) (Ty.dflt RR))))) && true))))) (Tr.ret (Sum.inr (Ex.ret, stOf [3, 6, 7, 11, 12] [AV.ptr 0 0, AV.bool false, AV.bool up, AV.list RR b, AV.int IntKind.i64 i] [LObj.boxT none [AV.str ap, AV.list RR zr]]))) (Tr.ret (Sum.inl (stOf [3, 7, 11, 12, 13] [AV.ptr 0 0, AV.bool up, AV.list RR b, AV.int IntKind.i64 i, AV.int IntKind.i64 (IntKind.wrap IntKind.i64 (k + (1 : Int)))] [LObj.boxT none [AV.str ap, AV.list RR zr]])))) Tr.no) Tr.no) Tr.no) Tr.no) (Tr.ret (Sum.inr (Ex.exit 2, stOf [3, 6, 7, 11, 12] [AV.ptr 0 0, AV.dead, AV.bool up, AV.list RR b, AV.int IntKind.i64 i] [LObj.boxT none [AV.str ap, AV.list RR zr]])))
set_option maxRecDepth 1000000 in
theorem round8i (lp : Lp) (up : Bool) (b : List (List UInt8 × (Int × (Int × (Int × List UInt8))))) (i : Int) (k : Int) (ap : List UInt8) (zr : List (List UInt8 × (Int × (Int × (Int × List UInt8))))) : evC T0 (orcB [fs14w, fs15w, fs31w, fs22w, fs21w] []) lp b8i 2 (stOf [3, 7, 11, 12, 13] [.ptr 0 0, .bool up, .list RR b, .int .i64 i, .int .i64 k] [.box [.str ap, .list RR zr]]) (roundK [3, 7, 11, 12, 13] [3, 6, 7, 11, 12] 0) = (r8i up b i k ap zr).get := by kernel_rfl
noncomputable def b8o : Code := nthLoop c8 0
def ls8o : LoopSpec := { bid := 0, sh := [.ptr 0 0, .d .bool false, .d (.list RR) false, .d (.int .i64) false], so := [.box [.d .str false, .d (.list RR) false]], F := fun (up, b, i, _) ((ap, zr, _), _) => .on (gbK ap b && decide (i = 0)) (.exit 0, [.dead, .bool up], []) }
def r8o (up : Bool) (b : List (List UInt8 × (Int × (Int × (Int × List UInt8))))) (i : Int) (ap : List UInt8) (zr : List (List UInt8 × (Int × (Int × (Int × List UInt8))))) : Tr (St ⊕ (Ex × St)) := Tr.br (decide (i < (↑(List.length b) : Int))) (Tr.br (decide ((0 : Int) ≤ i)) (Tr.br (decide (i < (↑(List.length b) : Int))) (Tr.br (Prod.fst (Prod.snd (List.getD b (Int.toNat i) (Ty.dflt RR))) != (1 : Int)) (Tr.ret (Sum.inr (Ex.ret, stOf [6, 7] [AV.bool false, AV.bool up] []))) (Tr.br (decide ((0 : Int) ≤ i)) (Tr.br (decide (i < (↑(List.length b) : Int))) (Tr.br (smN (Prod.fst (List.getD b (Int.toNat i) (Ty.dflt RR))) && smN ap) (Tr.br (!undV (Prod.fst (List.getD b (Int.toNat i) (Ty.dflt RR))) ap) (Tr.ret (Sum.inr (Ex.ret, stOf [6, 7] [AV.bool false, AV.bool up] []))) (Tr.br (gbI b i (0 : Int)) (Tr.ret (Sum.inl (stOf [3, 7, 11, 12] [AV.ptr 0 0, AV.bool up, AV.list RR b, AV.int IntKind.i64 (IntKind.wrap IntKind.i64 (i + (1 : Int)))] [LObj.boxT none [AV.str ap, AV.list RR zr]]))) Tr.no)) Tr.no) Tr.no) Tr.no)) Tr.no) Tr.no) (Tr.ret (Sum.inr (Ex.exit 0, stOf [6, 7] [AV.dead, AV.bool up] [])))
set_option maxRecDepth 1000000 in
theorem round8o (up : Bool) (b : List (List UInt8 × (Int × (Int × (Int × List UInt8))))) (i : Int) (ap : List UInt8) (zr : List (List UInt8 × (Int × (Int × (Int × List UInt8))))) : evC T0 (orcB [fs14w, fs15w, fs31w, fs22w, fs21w] []) (lpOf h8 0 (lsOf [ls8i])) b8o 0 (stOf [3, 7, 11, 12] [.ptr 0 0, .bool up, .list RR b, .int .i64 i] [.box [.str ap, .list RR zr]]) (roundK [3, 7, 11, 12] [6, 7] 0) = (r8o up b i ap zr).get := by kernel_rfl
def t8 (z : (List UInt8 × List (List UInt8 × (Int × (Int × (Int × List UInt8)))))) (ns : List (List UInt8 × (Int × (Int × (Int × List UInt8))))) (more : List (List UInt8 × (Int × (Int × (Int × List UInt8))))) : Tr Res := Tr.br (!fewZ [z, ([], ns), ([], more)]) (Tr.ret ([AV.bool true], [])) (Tr.br (gnOk z ns) (Tr.br (fits (0 + List.length ns) 40) (Tr.br (fits (List.length ([] ++ ns) + List.length more) 40) (Tr.br (gnOk z ([] ++ ns ++ more)) (Tr.br (decide ((↑(List.length (glueV z ([] ++ ns ++ more))) : Int) < (↑(List.length (glueV z ns)) : Int))) (Tr.ret ([AV.bool false], [])) (Tr.br (decide ((0 : Int) ≤ (↑(List.length (glueV z ns)) : Int)) && decide ((↑(List.length (glueV z ns)) : Int) ≤ (↑(List.length (glueV z ([] ++ ns ++ more))) : Int))) (Tr.br (Nat.ble (List.length (List.take (Int.toNat (↑(List.length (glueV z ns)) : Int) - Int.toNat (0 : Int)) (List.drop (Int.toNat (0 : Int)) (glueV z ([] ++ ns ++ more))))) 1000000) (Tr.br (!decide (List.take (Int.toNat (↑(List.length (glueV z ns)) : Int) - Int.toNat (0 : Int)) (List.drop (Int.toNat (0 : Int)) (glueV z ([] ++ ns ++ more))) = glueV z ns)) (Tr.ret ([AV.bool false], [])) (Tr.br (gbK (Prod.fst z) (glueV z ([] ++ ns ++ more)) && decide ((0 : Int) = (0 : Ty.den (Ty.int IntKind.i64)))) (Tr.ret ([AV.bool true], [])) Tr.no)) Tr.no) Tr.no)) Tr.no) Tr.no) Tr.no) Tr.no)
set_option maxRecDepth 1000000 in
theorem fn8 (z : (List UInt8 × List (List UInt8 × (Int × (Int × (Int × List UInt8)))))) (ns : List (List UInt8 × (Int × (Int × (Int × List UInt8))))) (more : List (List UInt8 × (Int × (Int × (Int × List UInt8))))) : evC T0 (orcB [fs14w, fs15w, fs31w, fs22w, fs21w] []) (lpOf h8 0 (lsOf [ls8o])) c8 1000000 (startSt [AV.ofTy ZN z true, .list RR ns, .list RR more] [] Try.f8.ntmps) (finishK T0 false 0 Try.f8) = (t8 z ns more).get := by kernel_rfl
theorem glueV_len {z : ZNt} {ns : List RRt} : (glueV z ns).length ≤ ns.length * z.2.length := by
  have : ∀ (ns l : List RRt), (glueL z l ns).length ≤ l.length + ns.length * z.2.length := by
    intro ns
    induction ns with
    | nil => intro l; simp [glueL]
    | cons r ns ih =>
      intro l
      have h1 := ih (glue1 z l r)
      have h2 := glue1_len z l r
      rw [glueL, List.length_cons, Nat.add_mul, Nat.one_mul]
      omega
  have := this ns []
  rw [List.length_nil, Nat.zero_add] at this
  exact this
end Go.Proofs.YtkobjdhbfepkaaaE
namespace Go.Proofs.YtkobjdhbfepkaaaE
open Go Go.Proofs.YtkobjdhbfepkaaaB
set_option linter.unusedVariables false
set_option linter.unusedSimpArgs false
set_option maxRecDepth 100000
def ztC (l l2 : List ZNt) (n : List UInt8) (ns : List RRt) (i : Int) : Bool := fewZ l && (fewZ [([], ns)] && (smN n && (decide (l2 = l) && decide (i = 0))))
noncomputable def b3 : Code := nthLoop c3 0
def ls3 : LoopSpec := { bid := 0, sh := [.d (.list ZN) false, .d .str false, .d (.list RR) false, .d .bool false, .d (.list ZN) false, .d (.int .i64) false], so := [], F := fun (l, n, ns, up, l2, i, _) _ => .on (ztC l l2 n ns i) (.exit 0, [.list ZN l, .str n, .dead, .bool up, .list ZN l2], []) }
def r3 (l : List (List UInt8 × List (List UInt8 × (Int × (Int × (Int × List UInt8)))))) (n : List UInt8) (ns : List (List UInt8 × (Int × (Int × (Int × List UInt8))))) (up : Bool) (l2 : List (List UInt8 × List (List UInt8 × (Int × (Int × (Int × List UInt8)))))) (i : Int) : Tr (St ⊕ (Ex × St)) := Tr.br (decide (i < (↑(List.length l) : Int))) (Tr.br (decide ((0 : Int) ≤ i)) (Tr.br (decide (i < (↑(List.length l2) : Int))) (Tr.br (smZ (List.getD l2 (Int.toNat i) (Ty.dflt ZN)) && smN n) (Tr.br (decide ((0 : Int) ≤ i)) (Tr.br (decide (i < (↑(List.length l) : Int))) (Tr.br (smZ (List.getD l (Int.toNat i) (Ty.dflt ZN)) && smN n) (Tr.br (!Prod.fst (cutV (List.getD l2 (Int.toNat i) (Ty.dflt ZN)) n) == Prod.fst (cutV (List.getD l (Int.toNat i) (Ty.dflt ZN)) n)) (Tr.ret (Sum.inr (Ex.ret, stOf [0, 1, 6, 7, 8] [AV.list ZN l, AV.str n, AV.bool false, AV.bool up, AV.list ZN l2] []))) (Tr.br (!Prod.snd (cutV (List.getD l2 (Int.toNat i) (Ty.dflt ZN)) n) == Prod.snd (cutV (List.getD l (Int.toNat i) (Ty.dflt ZN)) n)) (Tr.ret (Sum.inr (Ex.ret, stOf [0, 1, 6, 7, 8] [AV.list ZN l, AV.str n, AV.bool false, AV.bool up, AV.list ZN l2] []))) (Tr.br (decide ((0 : Int) ≤ i)) (Tr.br (decide (i < (↑(List.length l2) : Int))) (Tr.br (smZ (List.getD l2 (Int.toNat i) (Ty.dflt ZN)) && smN n) (Tr.br (decide ((0 : Int) ≤ i)) (Tr.br (decide (i < (↑(List.length l) : Int))) (Tr.br (smZ (List.getD l (Int.toNat i) (Ty.dflt ZN)) && smN n) (Tr.br (!thereV (List.getD l2 (Int.toNat i) (Ty.dflt ZN)) n == thereV (List.getD l (Int.toNat i) (Ty.dflt ZN)) n) (Tr.ret (Sum.inr (Ex.ret, stOf [0, 1, 6, 7, 8] [AV.list ZN l, AV.str n, AV.bool false, AV.bool up, AV.list ZN l2] []))) (Tr.br (decide ((0 : Int) ≤ i)) (Tr.br (decide (i < (↑(List.length l2) : Int))) (Tr.br (gnOk (List.getD l2 (Int.toNat i) (Ty.dflt ZN)) ns) (Tr.br (decide ((0 : Int) ≤ i)) (Tr.br (decide (i < (↑(List.length l) : Int))) (Tr.br (gnOk (List.getD l (Int.toNat i) (Ty.dflt ZN)) ns) (Tr.br (Nat.ble (List.length (glueV (List.getD l2 (Int.toNat i) (Ty.dflt ZN)) ns)) 1000000) (Tr.br (!decide (glueV (List.getD l2 (Int.toNat i) (Ty.dflt ZN)) ns = glueV (List.getD l (Int.toNat i) (Ty.dflt ZN)) ns)) (Tr.ret (Sum.inr (Ex.ret, stOf [0, 1, 6, 7, 8] [AV.list ZN l, AV.str n, AV.bool false, AV.bool up, AV.list ZN l2] []))) (Tr.ret (Sum.inl (stOf [0, 1, 2, 7, 8, 9] [AV.list ZN l, AV.str n, AV.list RR ns, AV.bool up, AV.list ZN l2, AV.int IntKind.i64 (IntKind.wrap IntKind.i64 (i + (1 : Int)))] [])))) Tr.no) Tr.no) Tr.no) Tr.no) Tr.no) Tr.no) Tr.no)) Tr.no) Tr.no) Tr.no) Tr.no) Tr.no) Tr.no))) Tr.no) Tr.no) Tr.no) Tr.no) Tr.no) Tr.no) (Tr.ret (Sum.inr (Ex.exit 0, stOf [0, 1, 6, 7, 8] [AV.list ZN l, AV.str n, AV.dead, AV.bool up, AV.list ZN l2] [])))
set_option maxRecDepth 1000000 in
theorem round3 (lp : Lp) (l : List (List UInt8 × List (List UInt8 × (Int × (Int × (Int × List UInt8)))))) (n : List UInt8) (ns : List (List UInt8 × (Int × (Int × (Int × List UInt8))))) (up : Bool) (l2 : List (List UInt8 × List (List UInt8 × (Int × (Int × (Int × List UInt8)))))) (i : Int) : evC T0 (orcB [fs14w, fs15w, fs16w, fs17w, fs18w, fs19w, fs20w, fs22w, fs23w, fs21w, fs24w, fs25w] []) lp b3 0 (stOf [0, 1, 2, 7, 8, 9] [.list ZN l, .str n, .list RR ns, .bool up, .list ZN l2, .int .i64 i] []) (roundK [0, 1, 2, 7, 8, 9] [0, 1, 6, 7, 8] 0) = (r3 l n ns up l2 i).get := by kernel_rfl
def t3 (l : List (List UInt8 × List (List UInt8 × (Int × (Int × (Int × List UInt8)))))) (n : List UInt8) (ns : List (List UInt8 × (Int × (Int × (Int × List UInt8))))) : Tr Res := Tr.br (!fewZ l) (Tr.ret ([AV.bool true], [])) (Tr.br (decide ((↑(List.length n) : Int) > (300 : Int))) (Tr.ret ([AV.bool true], [])) (Tr.br (decide ((↑(List.length ns) : Int) > (40 : Int))) (Tr.ret ([AV.bool true], [])) (Tr.br (!fewZ [([], ns)]) (Tr.ret ([AV.bool true], [])) (Tr.br (Nat.ble (List.length l) 1000000) (Tr.br (ztC l l n ns (0 : Int)) (Tr.br (smL l && smN n) (Tr.br (smL l && smN n) (Tr.ret ([AV.bool (bestV l n == bestV l n)], [])) Tr.no) Tr.no) Tr.no) Tr.no))))
set_option maxRecDepth 1000000 in
theorem fn3 (l : List (List UInt8 × List (List UInt8 × (Int × (Int × (Int × List UInt8)))))) (n : List UInt8) (ns : List (List UInt8 × (Int × (Int × (Int × List UInt8))))) : evC T0 (orcB [fs14w, fs15w, fs16w, fs17w, fs18w, fs19w, fs20w, fs22w, fs23w, fs21w, fs24w, fs25w] []) (lpOf h3 0 (lsOf [ls3])) c3 1000000 (startSt [.list ZN l, .str n, .list RR ns] [] Try.f3.ntmps) (finishK T0 false 0 Try.f3) = (t3 l n ns).get := by kernel_rfl
end Go.Proofs.YtkobjdhbfepkaaaE
namespace Go.Proofs.YtkobjdhbfepkaaaE
open Go Go.Proofs.YtkobjdhbfepkaaaB
set_option linter.unusedVariables false
set_option linter.unusedSimpArgs false
set_option maxRecDepth 100000
def abK (qn : List UInt8) (qt : Int) (aa : Bool) (an : List RRt) : Bool := Nat.ble an.length 1000000 && an.all fun r => r.1 == qn && ((r.2.1 == qt || r.2.1 == 5) && aa)
noncomputable def b5 : Code := nthLoop c5 0
def ls5 : LoopSpec := { bid := 0, sh := [.ptr 0 0, .d .bool false, .ptr 1 0, .d (.int .i64) false], so := [.box [.d .str false, .d (.int .u16) false, .d (.int .u16) false], .box [.d (.int .u16) false, .d .bool false, .d .bool false, .d .bool false, .d .bool false, .d .bool false, .d (.int .i64) false, .d (.int .i64) false, .d (.list QQ) false, .d (.list RR) false, .d (.list RR) false, .d (.list RR) false]], F := fun (up, i, _) ((qn, qt, qc, _), (mi, mqr, maa, mtc, mrd, mra, mop, mrc, mq, man, mns, mar, _), _) => .on (abK qn qt maa man && decide (i = 0)) (.exit 0, [.ptr 0 0, .dead, .bool up, .ptr 1 0], [.box [.str qn, .int .u16 qt, .int .u16 qc], .box [.int .u16 mi, .bool mqr, .bool maa, .bool mtc, .bool mrd, .bool mra, .int .i64 mop, .int .i64 mrc, .list QQ mq, .list RR man, .list RR mns, .list RR mar]]) }
def r5 (up : Bool) (i : Int) (qn : List UInt8) (qt : Int) (qc : Int) (mi : Int) (mqr : Bool) (maa : Bool) (mtc : Bool) (mrd : Bool) (mra : Bool) (mop : Int) (mrc : Int) (mq : List (List UInt8 × (Int × Int))) (man : List (List UInt8 × (Int × (Int × (Int × List UInt8))))) (mns : List (List UInt8 × (Int × (Int × (Int × List UInt8))))) (mar : List (List UInt8 × (Int × (Int × (Int × List UInt8))))) : Tr (St ⊕ (Ex × St)) := Tr.br (decide (i < (↑(List.length man) : Int))) (Tr.br (decide ((0 : Int) ≤ i)) (Tr.br (decide (i < (↑(List.length man) : Int))) (Tr.br (!Prod.fst (List.getD man (Int.toNat i) (Ty.dflt RR)) == qn) (Tr.ret (Sum.inr (Ex.ret, stOf [3, 4, 5, 6] [AV.ptr 0 0, AV.bool false, AV.bool up, AV.ptr 1 0] [LObj.boxT none [AV.str qn, AV.int IntKind.u16 qt, AV.int IntKind.u16 qc], LObj.boxT none [AV.int IntKind.u16 mi, AV.bool mqr, AV.bool maa, AV.bool mtc, AV.bool mrd, AV.bool mra, AV.int IntKind.i64 mop, AV.int IntKind.i64 mrc, AV.list QQ mq, AV.list RR man, AV.list RR mns, AV.list RR mar]]))) (Tr.br (Prod.fst (Prod.snd (List.getD man (Int.toNat i) (Ty.dflt RR))) != qt) (Tr.br (Prod.fst (Prod.snd (List.getD man (Int.toNat i) (Ty.dflt RR))) != (5 : Int)) (Tr.ret (Sum.inr (Ex.ret, stOf [3, 4, 5, 6] [AV.ptr 0 0, AV.bool false, AV.bool up, AV.ptr 1 0] [LObj.boxT none [AV.str qn, AV.int IntKind.u16 qt, AV.int IntKind.u16 qc], LObj.boxT none [AV.int IntKind.u16 mi, AV.bool mqr, AV.bool maa, AV.bool mtc, AV.bool mrd, AV.bool mra, AV.int IntKind.i64 mop, AV.int IntKind.i64 mrc, AV.list QQ mq, AV.list RR man, AV.list RR mns, AV.list RR mar]]))) (Tr.br (!maa) (Tr.ret (Sum.inr (Ex.ret, stOf [3, 4, 5, 6] [AV.ptr 0 0, AV.bool false, AV.bool up, AV.ptr 1 0] [LObj.boxT none [AV.str qn, AV.int IntKind.u16 qt, AV.int IntKind.u16 qc], LObj.boxT none [AV.int IntKind.u16 mi, AV.bool mqr, AV.bool maa, AV.bool mtc, AV.bool mrd, AV.bool mra, AV.int IntKind.i64 mop, AV.int IntKind.i64 mrc, AV.list QQ mq, AV.list RR man, AV.list RR mns, AV.list RR mar]]))) (Tr.ret (Sum.inl (stOf [3, 5, 6, 7] [AV.ptr 0 0, AV.bool up, AV.ptr 1 0, AV.int IntKind.i64 (IntKind.wrap IntKind.i64 (i + (1 : Int)))] [LObj.boxT none [AV.str qn, AV.int IntKind.u16 qt, AV.int IntKind.u16 qc], LObj.boxT none [AV.int IntKind.u16 mi, AV.bool mqr, AV.bool maa, AV.bool mtc, AV.bool mrd, AV.bool mra, AV.int IntKind.i64 mop, AV.int IntKind.i64 mrc, AV.list QQ mq, AV.list RR man, AV.list RR mns, AV.list RR mar]]))))) (Tr.br (!maa) (Tr.ret (Sum.inr (Ex.ret, stOf [3, 4, 5, 6] [AV.ptr 0 0, AV.bool false, AV.bool up, AV.ptr 1 0] [LObj.boxT none [AV.str qn, AV.int IntKind.u16 qt, AV.int IntKind.u16 qc], LObj.boxT none [AV.int IntKind.u16 mi, AV.bool mqr, AV.bool maa, AV.bool mtc, AV.bool mrd, AV.bool mra, AV.int IntKind.i64 mop, AV.int IntKind.i64 mrc, AV.list QQ mq, AV.list RR man, AV.list RR mns, AV.list RR mar]]))) (Tr.ret (Sum.inl (stOf [3, 5, 6, 7] [AV.ptr 0 0, AV.bool up, AV.ptr 1 0, AV.int IntKind.i64 (IntKind.wrap IntKind.i64 (i + (1 : Int)))] [LObj.boxT none [AV.str qn, AV.int IntKind.u16 qt, AV.int IntKind.u16 qc], LObj.boxT none [AV.int IntKind.u16 mi, AV.bool mqr, AV.bool maa, AV.bool mtc, AV.bool mrd, AV.bool mra, AV.int IntKind.i64 mop, AV.int IntKind.i64 mrc, AV.list QQ mq, AV.list RR man, AV.list RR mns, AV.list RR mar]])))))) Tr.no) Tr.no) (Tr.ret (Sum.inr (Ex.exit 0, stOf [3, 4, 5, 6] [AV.ptr 0 0, AV.dead, AV.bool up, AV.ptr 1 0] [LObj.boxT none [AV.str qn, AV.int IntKind.u16 qt, AV.int IntKind.u16 qc], LObj.boxT none [AV.int IntKind.u16 mi, AV.bool mqr, AV.bool maa, AV.bool mtc, AV.bool mrd, AV.bool mra, AV.int IntKind.i64 mop, AV.int IntKind.i64 mrc, AV.list QQ mq, AV.list RR man, AV.list RR mns, AV.list RR mar]])))
set_option maxRecDepth 1000000 in
theorem round5 (orc : Orc) (lp : Lp) (up : Bool) (i : Int) (qn : List UInt8) (qt : Int) (qc : Int) (mi : Int) (mqr : Bool) (maa : Bool) (mtc : Bool) (mrd : Bool) (mra : Bool) (mop : Int) (mrc : Int) (mq : List (List UInt8 × (Int × Int))) (man : List (List UInt8 × (Int × (Int × (Int × List UInt8))))) (mns : List (List UInt8 × (Int × (Int × (Int × List UInt8))))) (mar : List (List UInt8 × (Int × (Int × (Int × List UInt8))))) : evC T0 orc lp b5 0 (stOf [3, 5, 6, 7] [.ptr 0 0, .bool up, .ptr 1 0, .int .i64 i] [.box [.str qn, .int .u16 qt, .int .u16 qc], .box [.int .u16 mi, .bool mqr, .bool maa, .bool mtc, .bool mrd, .bool mra, .int .i64 mop, .int .i64 mrc, .list QQ mq, .list RR man, .list RR mns, .list RR mar]]) (roundK [3, 5, 6, 7] [3, 4, 5, 6] 0) = (r5 up i qn qt qc mi mqr maa mtc mrd mra mop mrc mq man mns mar).get := by kernel_rfl
def t5 (l : List (List UInt8 × List (List UInt8 × (Int × (Int × (Int × List UInt8)))))) (q : (List UInt8 × (Int × Int))) : Tr Res := Tr.br (!fewZ l) (Tr.ret ([AV.bool true], [])) (Tr.br (decide ((↑(List.length (Prod.fst q)) : Int) > (300 : Int))) (Tr.ret ([AV.bool true], [])) (Tr.br (Nat.ble (List.length l) 1000000) (Tr.br (zsOk l && smN (Prod.fst (qAt ((9 : Int), false, false, false, false, false, (0 : Int), (0 : Int), [(Prod.fst q, Prod.fst (Prod.snd q), Prod.snd (Prod.snd q))], [], [], [])))) (Tr.br (abK (Prod.fst q) (Prod.fst (Prod.snd q)) (Prod.fst (Prod.snd (Prod.snd (ansV l ((9 : Int), false, false, false, false, false, (0 : Int), (0 : Int), [(Prod.fst q, Prod.fst (Prod.snd q), Prod.snd (Prod.snd q))], [], [], []))))) (Prod.fst (Prod.snd (Prod.snd (Prod.snd (Prod.snd (Prod.snd (Prod.snd (Prod.snd (Prod.snd (Prod.snd (ansV l ((9 : Int), false, false, false, false, false, (0 : Int), (0 : Int), [(Prod.fst q, Prod.fst (Prod.snd q), Prod.snd (Prod.snd q))], [], [], [])))))))))))) && decide ((0 : Int) = (0 : Ty.den (Ty.int IntKind.i64)))) (Tr.br (Prod.fst (Prod.snd (Prod.snd (Prod.snd (Prod.snd (Prod.snd (Prod.snd (Prod.snd (ansV l ((9 : Int), false, false, false, false, false, (0 : Int), (0 : Int), [(Prod.fst q, Prod.fst (Prod.snd q), Prod.snd (Prod.snd q))], [], [], []))))))))) == (0 : Int)) (Tr.br (Prod.fst (ansV l ((9 : Int), false, false, false, false, false, (0 : Int), (0 : Int), [(Prod.fst q, Prod.fst (Prod.snd q), Prod.snd (Prod.snd q))], [], [], [])) == (9 : Int)) (Tr.br (Prod.fst (Prod.snd (ansV l ((9 : Int), false, false, false, false, false, (0 : Int), (0 : Int), [(Prod.fst q, Prod.fst (Prod.snd q), Prod.snd (Prod.snd q))], [], [], [])))) (Tr.br (!Prod.fst (Prod.snd (Prod.snd (Prod.snd (Prod.snd (Prod.snd (ansV l ((9 : Int), false, false, false, false, false, (0 : Int), (0 : Int), [(Prod.fst q, Prod.fst (Prod.snd q), Prod.snd (Prod.snd q))], [], [], [])))))))) (Tr.br ((↑(List.length (Prod.fst (Prod.snd (Prod.snd (Prod.snd (Prod.snd (Prod.snd (Prod.snd (Prod.snd (Prod.snd (ansV l ((9 : Int), false, false, false, false, false, (0 : Int), (0 : Int), [(Prod.fst q, Prod.fst (Prod.snd q), Prod.snd (Prod.snd q))], [], [], [])))))))))))) : Int) == (1 : Int)) (Tr.br (decide ((0 : Int) < (↑(List.length (Prod.fst (Prod.snd (Prod.snd (Prod.snd (Prod.snd (Prod.snd (Prod.snd (Prod.snd (Prod.snd (ansV l ((9 : Int), false, false, false, false, false, (0 : Int), (0 : Int), [(Prod.fst q, Prod.fst (Prod.snd q), Prod.snd (Prod.snd q))], [], [], [])))))))))))) : Int))) (Tr.br (Prod.fst (List.getD (Prod.fst (Prod.snd (Prod.snd (Prod.snd (Prod.snd (Prod.snd (Prod.snd (Prod.snd (Prod.snd (ansV l ((9 : Int), false, false, false, false, false, (0 : Int), (0 : Int), [(Prod.fst q, Prod.fst (Prod.snd q), Prod.snd (Prod.snd q))], [], [], []))))))))))) (Int.toNat (0 : Int)) (Ty.dflt QQ)) == Prod.fst q && (Prod.fst (Prod.snd (List.getD (Prod.fst (Prod.snd (Prod.snd (Prod.snd (Prod.snd (Prod.snd (Prod.snd (Prod.snd (Prod.snd (ansV l ((9 : Int), false, false, false, false, false, (0 : Int), (0 : Int), [(Prod.fst q, Prod.fst (Prod.snd q), Prod.snd (Prod.snd q))], [], [], []))))))))))) (Int.toNat (0 : Int)) (Ty.dflt QQ))) == Prod.fst (Prod.snd q) && (Prod.snd (Prod.snd (List.getD (Prod.fst (Prod.snd (Prod.snd (Prod.snd (Prod.snd (Prod.snd (Prod.snd (Prod.snd (Prod.snd (ansV l ((9 : Int), false, false, false, false, false, (0 : Int), (0 : Int), [(Prod.fst q, Prod.fst (Prod.snd q), Prod.snd (Prod.snd q))], [], [], []))))))))))) (Int.toNat (0 : Int)) (Ty.dflt QQ))) == Prod.snd (Prod.snd q) && true))) (Tr.br (Prod.fst (Prod.snd (Prod.snd (Prod.snd (Prod.snd (Prod.snd (Prod.snd (Prod.snd (ansV l ((9 : Int), false, false, false, false, false, (0 : Int), (0 : Int), [(Prod.fst q, Prod.fst (Prod.snd q), Prod.snd (Prod.snd q))], [], [], []))))))))) != (3 : Int)) (Tr.ret ([AV.bool true], [])) (Tr.br ((↑(List.length (Prod.fst (Prod.snd (Prod.snd (Prod.snd (Prod.snd (Prod.snd (Prod.snd (Prod.snd (Prod.snd (Prod.snd (ansV l ((9 : Int), false, false, false, false, false, (0 : Int), (0 : Int), [(Prod.fst q, Prod.fst (Prod.snd q), Prod.snd (Prod.snd q))], [], [], []))))))))))))) : Int) == (0 : Int)) (Tr.ret ([AV.bool (Prod.fst (Prod.snd (Prod.snd (ansV l ((9 : Int), false, false, false, false, false, (0 : Int), (0 : Int), [(Prod.fst q, Prod.fst (Prod.snd q), Prod.snd (Prod.snd q))], [], [], [])))))], [])) (Tr.ret ([AV.bool false], [])))) (Tr.ret ([AV.bool false], []))) Tr.no) (Tr.ret ([AV.bool false], []))) (Tr.ret ([AV.bool false], []))) (Tr.ret ([AV.bool false], []))) (Tr.ret ([AV.bool false], []))) (Tr.br (Prod.fst (ansV l ((9 : Int), false, false, false, false, false, (0 : Int), (0 : Int), [(Prod.fst q, Prod.fst (Prod.snd q), Prod.snd (Prod.snd q))], [], [], [])) == (9 : Int)) (Tr.br (Prod.fst (Prod.snd (ansV l ((9 : Int), false, false, false, false, false, (0 : Int), (0 : Int), [(Prod.fst q, Prod.fst (Prod.snd q), Prod.snd (Prod.snd q))], [], [], [])))) (Tr.br (!Prod.fst (Prod.snd (Prod.snd (Prod.snd (Prod.snd (Prod.snd (ansV l ((9 : Int), false, false, false, false, false, (0 : Int), (0 : Int), [(Prod.fst q, Prod.fst (Prod.snd q), Prod.snd (Prod.snd q))], [], [], [])))))))) (Tr.br ((↑(List.length (Prod.fst (Prod.snd (Prod.snd (Prod.snd (Prod.snd (Prod.snd (Prod.snd (Prod.snd (Prod.snd (ansV l ((9 : Int), false, false, false, false, false, (0 : Int), (0 : Int), [(Prod.fst q, Prod.fst (Prod.snd q), Prod.snd (Prod.snd q))], [], [], [])))))))))))) : Int) == (1 : Int)) (Tr.br (decide ((0 : Int) < (↑(List.length (Prod.fst (Prod.snd (Prod.snd (Prod.snd (Prod.snd (Prod.snd (Prod.snd (Prod.snd (Prod.snd (ansV l ((9 : Int), false, false, false, false, false, (0 : Int), (0 : Int), [(Prod.fst q, Prod.fst (Prod.snd q), Prod.snd (Prod.snd q))], [], [], [])))))))))))) : Int))) (Tr.br (Prod.fst (List.getD (Prod.fst (Prod.snd (Prod.snd (Prod.snd (Prod.snd (Prod.snd (Prod.snd (Prod.snd (Prod.snd (ansV l ((9 : Int), false, false, false, false, false, (0 : Int), (0 : Int), [(Prod.fst q, Prod.fst (Prod.snd q), Prod.snd (Prod.snd q))], [], [], []))))))))))) (Int.toNat (0 : Int)) (Ty.dflt QQ)) == Prod.fst q && (Prod.fst (Prod.snd (List.getD (Prod.fst (Prod.snd (Prod.snd (Prod.snd (Prod.snd (Prod.snd (Prod.snd (Prod.snd (Prod.snd (ansV l ((9 : Int), false, false, false, false, false, (0 : Int), (0 : Int), [(Prod.fst q, Prod.fst (Prod.snd q), Prod.snd (Prod.snd q))], [], [], []))))))))))) (Int.toNat (0 : Int)) (Ty.dflt QQ))) == Prod.fst (Prod.snd q) && (Prod.snd (Prod.snd (List.getD (Prod.fst (Prod.snd (Prod.snd (Prod.snd (Prod.snd (Prod.snd (Prod.snd (Prod.snd (Prod.snd (ansV l ((9 : Int), false, false, false, false, false, (0 : Int), (0 : Int), [(Prod.fst q, Prod.fst (Prod.snd q), Prod.snd (Prod.snd q))], [], [], []))))))))))) (Int.toNat (0 : Int)) (Ty.dflt QQ))) == Prod.snd (Prod.snd q) && true))) (Tr.br (Prod.fst (Prod.snd (Prod.snd (Prod.snd (Prod.snd (Prod.snd (Prod.snd (Prod.snd (ansV l ((9 : Int), false, false, false, false, false, (0 : Int), (0 : Int), [(Prod.fst q, Prod.fst (Prod.snd q), Prod.snd (Prod.snd q))], [], [], []))))))))) == (3 : Int)) (Tr.br (Prod.fst (Prod.snd (Prod.snd (Prod.snd (Prod.snd (Prod.snd (Prod.snd (Prod.snd (ansV l ((9 : Int), false, false, false, false, false, (0 : Int), (0 : Int), [(Prod.fst q, Prod.fst (Prod.snd q), Prod.snd (Prod.snd q))], [], [], []))))))))) != (3 : Int)) (Tr.ret ([AV.bool true], [])) (Tr.br ((↑(List.length (Prod.fst (Prod.snd (Prod.snd (Prod.snd (Prod.snd (Prod.snd (Prod.snd (Prod.snd (Prod.snd (Prod.snd (ansV l ((9 : Int), false, false, false, false, false, (0 : Int), (0 : Int), [(Prod.fst q, Prod.fst (Prod.snd q), Prod.snd (Prod.snd q))], [], [], []))))))))))))) : Int) == (0 : Int)) (Tr.ret ([AV.bool (Prod.fst (Prod.snd (Prod.snd (ansV l ((9 : Int), false, false, false, false, false, (0 : Int), (0 : Int), [(Prod.fst q, Prod.fst (Prod.snd q), Prod.snd (Prod.snd q))], [], [], [])))))], [])) (Tr.ret ([AV.bool false], [])))) (Tr.br (IntKind.wrap IntKind.i64 (IntKind.wrap IntKind.i64 ((↑(List.length (Prod.fst (Prod.snd (Prod.snd (Prod.snd (Prod.snd (Prod.snd (Prod.snd (Prod.snd (Prod.snd (Prod.snd (ansV l ((9 : Int), false, false, false, false, false, (0 : Int), (0 : Int), [(Prod.fst q, Prod.fst (Prod.snd q), Prod.snd (Prod.snd q))], [], [], []))))))))))))) : Int) + (↑(List.length (Prod.fst (Prod.snd (Prod.snd (Prod.snd (Prod.snd (Prod.snd (Prod.snd (Prod.snd (Prod.snd (Prod.snd (Prod.snd (ansV l ((9 : Int), false, false, false, false, false, (0 : Int), (0 : Int), [(Prod.fst q, Prod.fst (Prod.snd q), Prod.snd (Prod.snd q))], [], [], [])))))))))))))) : Int)) + (↑(List.length (Prod.snd (Prod.snd (Prod.snd (Prod.snd (Prod.snd (Prod.snd (Prod.snd (Prod.snd (Prod.snd (Prod.snd (Prod.snd (ansV l ((9 : Int), false, false, false, false, false, (0 : Int), (0 : Int), [(Prod.fst q, Prod.fst (Prod.snd q), Prod.snd (Prod.snd q))], [], [], [])))))))))))))) : Int)) == (0 : Int)) (Tr.br (Prod.fst (Prod.snd (Prod.snd (Prod.snd (Prod.snd (Prod.snd (Prod.snd (Prod.snd (ansV l ((9 : Int), false, false, false, false, false, (0 : Int), (0 : Int), [(Prod.fst q, Prod.fst (Prod.snd q), Prod.snd (Prod.snd q))], [], [], []))))))))) == (5 : Int)) (Tr.br (Prod.fst (Prod.snd (Prod.snd (Prod.snd (Prod.snd (Prod.snd (Prod.snd (Prod.snd (ansV l ((9 : Int), false, false, false, false, false, (0 : Int), (0 : Int), [(Prod.fst q, Prod.fst (Prod.snd q), Prod.snd (Prod.snd q))], [], [], []))))))))) != (3 : Int)) (Tr.ret ([AV.bool true], [])) (Tr.br ((↑(List.length (Prod.fst (Prod.snd (Prod.snd (Prod.snd (Prod.snd (Prod.snd (Prod.snd (Prod.snd (Prod.snd (Prod.snd (ansV l ((9 : Int), false, false, false, false, false, (0 : Int), (0 : Int), [(Prod.fst q, Prod.fst (Prod.snd q), Prod.snd (Prod.snd q))], [], [], []))))))))))))) : Int) == (0 : Int)) (Tr.ret ([AV.bool (Prod.fst (Prod.snd (Prod.snd (ansV l ((9 : Int), false, false, false, false, false, (0 : Int), (0 : Int), [(Prod.fst q, Prod.fst (Prod.snd q), Prod.snd (Prod.snd q))], [], [], [])))))], [])) (Tr.ret ([AV.bool false], [])))) (Tr.ret ([AV.bool false], []))) (Tr.ret ([AV.bool false], [])))) (Tr.ret ([AV.bool false], []))) Tr.no) (Tr.ret ([AV.bool false], []))) (Tr.ret ([AV.bool false], []))) (Tr.ret ([AV.bool false], []))) (Tr.ret ([AV.bool false], [])))) Tr.no) Tr.no) Tr.no))
set_option maxRecDepth 1000000 in
theorem fn5 (l : List (List UInt8 × List (List UInt8 × (Int × (Int × (Int × List UInt8)))))) (q : (List UInt8 × (Int × Int))) : evC T0 (orcB [fs14w, fs15w, fs16w, fs30, fs28w] []) (lpOf h5 0 (lsOf [ls5])) c5 1000000 (startSt [.list ZN l, AV.ofTy QQ q true] [] Try.f5.ntmps) (finishK T0 false 0 Try.f5) = (t5 l q).get := by kernel_rfl
def askV (q : QQt) : MGt := ((9 : Int), false, false, false, false, false, (0 : Int), (0 : Int), [(q.1, q.2.1, q.2.2)], [], [], [])
theorem znf_ofV {z : ZNt} (hz : znFew z = true) (n : List UInt8) (k : Int) : (ofV z n k).length ≤ 40 := by
  have := ofV_len z n k
  have := (znFew_iff.1 hz).1
  omega
theorem abK_of {qn : List UInt8} {qt : Int} {an : List RRt} (hl : an.length ≤ 1000000) (h : ∀ r ∈ an, r.1 = qn ∧ (r.2.1 = qt ∨ r.2.1 = 5)) : abK qn qt true an = true := by
  unfold abK
  rw [Nat.ble_eq_true_of_le hl, Bool.true_and, List.all_eq_true]
  intro r hr
  obtain ⟨a, b⟩ := h r hr
  rw [a]
  rcases b with b | b <;> rw [b] <;> simp
theorem ans_one {l : List ZNt} {q : QQt} (hl : fewZ l = true) : ∃ (aa : Bool) (rc : Int) (an ns ar : List RRt), ansV l (askV q) = ((9 : Int), true, aa, false, false, false, (0 : Int), rc, [(q.1, q.2.1, q.2.2)], an, ns, ar) ∧ abK q.1 q.2.1 aa an = true ∧ an.length ≤ 40 ∧ ns.length ≤ 40 ∧ ar.length ≤ 1600 ∧
    ((rc = 0 ∧ aa = true) ∨ (rc = 3 ∧ an = [] ∧ aa = true) ∨ (rc = 5 ∧ aa = false ∧ an = [] ∧ ns = [] ∧ ar = []) ∨ (rc = 0 ∧ aa = false ∧ an = [] ∧ ∃ z c, 0 ≤ bestV l q.1 ∧ bestV l q.1 < l.length ∧ z = l.getD (bestV l q.1).toNat (Ty.dflt ZN) ∧ cutV z q.1 = (c, true) ∧ ns = ofV z c 2 ∧ ar = glueV z ns)) := by
  have hq : qAt (askV q) = q := rfl
  unfold ansV
  rw [hq]
  have e1 : ((((askV q).2.2.2.2.2.2.2.2.1.length : Nat) : Int) != 1) = false := rfl
  have e2 : ((askV q).2.2.2.2.2.2.1 != 0) = false := rfl
  rw [e1, cond_false, e2, cond_false]
  cases hb : (decide (bestV l q.1 < 0) || q.2.2 != 1) with
  | true =>
    rw [cond_true]
    exact ⟨false, 5, [], [], [], rfl, rfl, by simp, by simp, by simp, .inr (.inr (.inl ⟨rfl, rfl, rfl, rfl, rfl⟩))⟩
  | false =>
    rw [cond_false]
    rw [Bool.or_eq_false_iff] at hb
    obtain ⟨b1, b2⟩ := bestV_lt l q.1 (of_decide_eq_false hb.1)
    have hz := (fewZ_iff.1 hl).2 _ (mem_getD (l := l) (k := (bestV l q.1).toNat) (by omega) (Ty.dflt ZN))
    generalize hze : l.getD (bestV l q.1).toNat (Ty.dflt ZN) = z at *
    have hg : ∀ ns : List RRt, ns.length ≤ 40 → (glueV z ns).length ≤ 1600 := fun ns hn => by
      have h1 := glueV_len (z := z) (ns := ns)
      have : ns.length * z.2.length ≤ 40 * 40 := Nat.mul_le_mul hn (znFew_iff.1 hz).1
      omega
    have hnd : ∀ l : List RRt, (ndV l).length ≤ l.length := fun l => List.length_filter_le _ _
    unfold fillV
    cases hc : (cutV z q.1).2 with
    | true =>
      rw [cond_true]
      refine ⟨false, 0, [], _, _, rfl, rfl, by simp, znf_ofV hz _ _, hg _ (znf_ofV hz _ _), .inr (.inr (.inr ⟨rfl, rfl, rfl, z, (cutV z q.1).1, b1, b2, hze.symm ▸ rfl, ?_, rfl, rfl⟩))⟩
      rw [← hc]
    | false =>
      rw [cond_false]
      have han : (anV z q).length ≤ 40 := by
        have h1 := (anV_sub z q).length_le
        have h2 := (znFew_iff.1 hz).1
        omega
      have hal : ∀ r ∈ anV z q, r.1 = q.1 ∧ (r.2.1 = q.2.1 ∨ r.2.1 = 5) := by
        unfold anV
        intro r hr
        cases he : ((ofV z q.1 q.2.1).length : Int) == 0 with
        | true => rw [he, cond_true] at hr; obtain ⟨_, _, a, b⟩ := ofV_mem.1 hr; exact ⟨a, .inr b⟩
        | false => rw [he, cond_false] at hr; obtain ⟨_, _, a, b⟩ := ofV_mem.1 hr; exact ⟨a, .inl b⟩
      have hk := abK_of (by omega) hal
      cases hp : decide (((anV z q).length : Int) > 0) with
      | true =>
        rw [cond_true]
        exact ⟨true, 0, _, _, _, rfl, hk, han, by simp [repV, askV], hg _ (by have := hnd (anV z q); omega), .inl ⟨rfl, rfl⟩⟩
      | false =>
        rw [cond_false]
        have h0 : anV z q = [] := List.length_eq_zero_iff.1 (by have := of_decide_eq_false hp; omega)
        refine ⟨true, _, _, _, _, rfl, hk, han, znf_ofV hz _ _, hg _ (by have := hnd (anV z q); omega), ?_⟩
        cases thereV z q.1 with
        | true => exact .inl ⟨rfl, rfl⟩
        | false => exact .inr (.inl ⟨rfl, h0, rfl⟩)
end Go.Proofs.YtkobjdhbfepkaaaE
