/- The seat's table of types, and of each function the slots that live at its loops. Printed by seat.py out of the translation. -/
import Derived.Test.YtgiofacmcpakoaaE25
import Derived.Test.YtgiofacmcpakoaaE27
import Derived.Test.YtgiofacmcpakoaaProg
namespace Go.Proofs.YtgiofacmcpakoaaE
open Go
def rows : List (Nat × Row) := [
  (3, { desc := .int .i64, size := 1, bytes := 8, zero := [.int .i64 0], cty := [none], ty := some (.int .i64) }),
  (4, { desc := .bool, size := 1, bytes := 1, zero := [.bool false], cty := [none], ty := some (.bool) }),
  (5, { desc := .int .u8, size := 1, bytes := 1, zero := [.int .u8 0], cty := [none], ty := some (.int .u8) }),
  (9, { desc := .str, size := 1, bytes := 16, zero := [.str []], cty := [none], ty := some (.str) }),
  (22, { desc := .int .u64, size := 1, bytes := 8, zero := [.int .u64 0], cty := [none], ty := some (.int .u64) }),
  (23, { desc := .int .u32, size := 1, bytes := 4, zero := [.int .u32 0], cty := [none], ty := some (.int .u32) }),
  (33, { desc := .slice 37, size := 1, bytes := 24, zero := [.ns], cty := [some ((.pair .str (.pair (.int .u16) (.pair (.int .u16) (.pair (.int .u32) .str)))))], ty := some ((.list (.pair .str (.pair (.int .u16) (.pair (.int .u16) (.pair (.int .u32) .str)))))) }),
  (35, { desc := .int .u16, size := 1, bytes := 2, zero := [.int .u16 0], cty := [none], ty := some (.int .u16) }),
  (37, { desc := .struct [(0, 9), (1, 35), (2, 35), (3, 23), (4, 9)], size := 5, bytes := 40, zero := [.str [], .int .u16 0, .int .u16 0, .int .u32 0, .str []], cty := [none, none, none, none, none], ty := some ((.pair .str (.pair (.int .u16) (.pair (.int .u16) (.pair (.int .u32) .str))))) }),
  (41, { desc := .slice 51, size := 1, bytes := 24, zero := [.ns], cty := [some ((.pair (.pair (.int .u32) (.int .u16)) (.pair (.pair (.int .u32) (.int .u16)) .str)))], ty := some ((.list (.pair (.pair (.int .u32) (.int .u16)) (.pair (.pair (.int .u32) (.int .u16)) .str)))) }),
  (42, { desc := .slice 4, size := 1, bytes := 24, zero := [.ns], cty := [some (.bool)], ty := some ((.list .bool)) }),
  (43, { desc := .ptr 80, size := 1, bytes := 8, zero := [.np], cty := [none], ty := none }),
  (47, { desc := .struct [(0, 23), (1, 35)], size := 2, bytes := 8, zero := [.int .u32 0, .int .u16 0], cty := [none, none], ty := some ((.pair (.int .u32) (.int .u16))) }),
  (49, { desc := .struct [(0, 47), (2, 47), (4, 9)], size := 5, bytes := 32, zero := [.int .u32 0, .int .u16 0, .int .u32 0, .int .u16 0, .str []], cty := [none, none, none, none, none], ty := some ((.pair (.pair (.int .u32) (.int .u16)) (.pair (.pair (.int .u32) (.int .u16)) .str))) }),
  (51, { desc := .struct [(0, 47), (2, 47), (4, 9)], size := 5, bytes := 32, zero := [.int .u32 0, .int .u16 0, .int .u32 0, .int .u16 0, .str []], cty := [none, none, none, none, none], ty := some ((.pair (.pair (.int .u32) (.int .u16)) (.pair (.pair (.int .u32) (.int .u16)) .str))) }),
  (57, { desc := .slice 5, size := 1, bytes := 24, zero := [.ns], cty := [some (.int .u8)], ty := some ((.list (.int .u8))) }),
  (59, { desc := .slice 61, size := 1, bytes := 24, zero := [.ns], cty := [some ((.pair (.int .i64) (.pair (.int .i64) (.pair (.pair (.int .u32) (.int .u16)) (.pair (.pair (.int .u32) (.int .u16)) .str)))))], ty := some ((.list (.pair (.int .i64) (.pair (.int .i64) (.pair (.pair (.int .u32) (.int .u16)) (.pair (.pair (.int .u32) (.int .u16)) .str)))))) }),
  (61, { desc := .struct [(0, 3), (1, 3), (2, 51)], size := 7, bytes := 48, zero := [.int .i64 0, .int .i64 0, .int .u32 0, .int .u16 0, .int .u32 0, .int .u16 0, .str []], cty := [none, none, none, none, none, none, none], ty := some ((.pair (.int .i64) (.pair (.int .i64) (.pair (.pair (.int .u32) (.int .u16)) (.pair (.pair (.int .u32) (.int .u16)) .str))))) }),
  (65, { desc := .struct [(0, 41), (1, 3), (2, 3)], size := 3, bytes := 40, zero := [.ns, .int .i64 0, .int .i64 0], cty := [some ((.pair (.pair (.int .u32) (.int .u16)) (.pair (.pair (.int .u32) (.int .u16)) .str))), none, none], ty := some ((.pair (.list (.pair (.pair (.int .u32) (.int .u16)) (.pair (.pair (.int .u32) (.int .u16)) .str))) (.pair (.int .i64) (.int .i64)))) }),
  (68, { desc := .slice 49, size := 1, bytes := 24, zero := [.ns], cty := [some ((.pair (.pair (.int .u32) (.int .u16)) (.pair (.pair (.int .u32) (.int .u16)) .str)))], ty := some ((.list (.pair (.pair (.int .u32) (.int .u16)) (.pair (.pair (.int .u32) (.int .u16)) .str)))) }),
  (71, { desc := .slice 3, size := 1, bytes := 24, zero := [.ns], cty := [some (.int .i64)], ty := some ((.list (.int .i64))) }),
  (76, { desc := .slice 23, size := 1, bytes := 24, zero := [.ns], cty := [some (.int .u32)], ty := some ((.list (.int .u32))) }),
  (80, { desc := .struct [(0, 68), (1, 3), (2, 3), (3, 3)], size := 4, bytes := 48, zero := [.ns, .int .i64 0, .int .i64 0, .int .i64 0], cty := [some ((.pair (.pair (.int .u32) (.int .u16)) (.pair (.pair (.int .u32) (.int .u16)) .str))), none, none, none], ty := some ((.pair (.list (.pair (.pair (.int .u32) (.int .u16)) (.pair (.pair (.int .u32) (.int .u16)) .str))) (.pair (.int .i64) (.pair (.int .i64) (.int .i64))))) })]
def T0 : Tab := { row := lookR rows }
theorem tab0 : TabOk Try.prog T0 := tab_ok (rs := rows) (by kernel_rfl)
theorem mixed0 : Try.prog.follows .mixedOrders = true := by kernel_rfl
def h3 : Hint := { keep := fun _ => [], keepX := fun _ => [] }
def v3 : Nat → Option (List Nat) := fun r => match r with | 0 => some [0, 1, 2] | 1 => some [0, 1, 2, 7] | 2 => some [0, 1, 2, 7, 8] | 3 => some [0, 1, 2, 7, 8, 28] | 4 => some [6] | 5 => some [1, 2, 7, 8, 9] | 6 => some [1, 2, 7, 8, 9, 10] | 7 => some [1, 2, 7, 8, 9, 10, 44] | 8 => some [6] | 9 => some [6] | _ => none
def u3 : Nat → Option (List Nat) := fun r => match r with | 19 => some [0, 1, 2, 7, 8, 17, 19] | 24 => some [0, 1, 2, 7, 8, 21, 22, 24] | 33 => some [30, 33] | 49 => some [8, 9, 49] | 54 => some [50, 54] | 60 => some [8, 9, 10, 57, 58, 59, 60] | 65 => some [8, 9, 10, 64, 65] | 70 => some [9, 10, 69, 70] | 75 => some [69, 73, 75] | _ => none
def T3 : Tab := { T0 with live := v3, mid := u3 }
noncomputable def c3 : Code := match Try.f3.body with | some c => c | none => .skip
def h4 : Hint := { keep := fun _ => [], keepX := fun _ => [] }
def v4 : Nat → Option (List Nat) := fun r => match r with | 0 => some [0, 1, 2, 3] | 1 => some [0, 1, 2, 3, 9] | 2 => some [0, 1, 2, 3, 9, 10] | 3 => some [0, 1, 3, 9, 10, 11] | 4 => some [0, 1, 3, 9, 10, 11, 12] | 5 => some [0, 1, 3, 9, 10, 11, 12, 13] | 6 => some [8] | _ => none
def u4 : Nat → Option (List Nat) := fun r => match r with | 31 => some [0, 1, 3, 10, 11, 12, 28, 31] | 36 => some [1, 3, 10, 11, 33, 35, 36] | 41 => some [1, 3, 10, 11, 41] | 46 => some [3, 10, 11, 42, 45, 46] | 51 => some [3, 10, 11, 51] | 56 => some [51, 54, 55, 56] | _ => none
def T4 : Tab := { T0 with live := v4, mid := u4 }
noncomputable def c4 : Code := match Try.f4.body with | some c => c | none => .skip
def h5 : Hint := { keep := fun _ => [], keepX := fun _ => [] }
def v5 : Nat → Option (List Nat) := fun r => match r with | 0 => some [0, 1, 2, 3] | 1 => some [0, 1, 2, 3, 9] | 2 => some [8] | _ => none
def u5 : Nat → Option (List Nat) := fun r => match r with | 15 => some [0, 1, 2, 3, 12, 15] | 20 => some [0, 1, 2, 3, 20] | 25 => some [0, 1, 2, 3, 21, 24, 25] | 30 => some [0, 1, 2, 3, 30] | 35 => some [2, 3, 30, 33, 34, 35] | 40 => some [2, 3, 39, 40] | 45 => some [39, 42, 45] | _ => none
def T5 : Tab := { T0 with live := v5, mid := u5 }
noncomputable def c5 : Code := match Try.f5.body with | some c => c | none => .skip
def h6 : Hint := { keep := fun _ => [], keepX := fun _ => [] }
def v6 : Nat → Option (List Nat) := fun r => match r with | 0 => some [0, 1] | 1 => some [0, 1, 5] | 2 => some [0, 1, 5, 6] | 3 => some [4] | _ => none
def u6 : Nat → Option (List Nat) := fun r => match r with | 15 => some [0, 1, 6, 12, 15] | 20 => some [0, 1, 6, 17, 20] | 25 => some [0, 1, 6, 22, 25] | 30 => some [0, 1, 6, 29, 30] | 35 => some [0, 1, 6, 29, 35] | 40 => some [0, 1, 6, 37, 40] | 45 => some [0, 6, 37, 45] | 50 => some [50] | _ => none
def T6 : Tab := { T0 with live := v6, mid := u6 }
noncomputable def c6 : Code := match Try.f6.body with | some c => c | none => .skip
def h7 : Hint := { keep := fun _ => [], keepX := fun _ => [] }
def v7 : Nat → Option (List Nat) := fun r => match r with | 0 => some [0, 1] | 1 => some [0, 1, 5] | 2 => some [0, 1, 5, 25] | 3 => some [4] | 4 => some [0, 1, 5, 6] | 5 => some [4] | _ => none
def u7 : Nat → Option (List Nat) := fun r => match r with | 12 => some [0, 1, 5, 11, 12] | 17 => some [0, 1, 5, 16, 17] | 22 => some [0, 1, 5, 21, 22] | 30 => some [30] | 35 => some [0, 1, 5, 35] | _ => none
def T7 : Tab := { T0 with live := v7, mid := u7 }
noncomputable def c7 : Code := match Try.f7.body with | some c => c | none => .skip
def h8 : Hint := { keep := fun _ => [], keepX := fun _ => [] }
def v8 : Nat → Option (List Nat) := fun r => match r with | 0 => some [0, 1] | 1 => some [0, 1, 5] | 2 => some [0, 1, 5, 11] | 3 => some [4] | 4 => some [0, 1, 5, 6] | 5 => some [0, 1, 5, 6, 7] | 6 => some [4] | _ => none
def u8 : Nat → Option (List Nat) := fun r => match r with | 23 => some [0, 1, 6, 7, 20, 22, 23] | 28 => some [0, 1, 6, 7, 27, 28] | 33 => some [0, 1, 6, 7, 33] | 38 => some [0, 1, 7, 38] | 43 => some [1, 7, 39, 43] | 48 => some [39, 48] | _ => none
def T8 : Tab := { T0 with live := v8, mid := u8 }
noncomputable def c8 : Code := match Try.f8.body with | some c => c | none => .skip
def h9 : Hint := { keep := fun b => match b with | 0 => [0, 1, 5, 6, 7] | 2 => [0, 1, 5, 6, 8] | _ => [], keepX := fun b => match b with | 0 => [0, 1, 4, 5, 6] | 2 => [4, 5, 6] | _ => [] }
def v9 : Nat → Option (List Nat) := fun r => match r with | 0 => some [0, 1] | 1 => some [0, 1, 5] | 2 => some [0, 1, 5, 6] | 3 => some [0, 1, 5, 6, 7] | 4 => some [0, 1, 5, 6, 7, 22] | 5 => some [0, 1, 5, 6, 7] | 6 => some [0, 1, 5, 6, 7, 32] | 7 => some [4] | 8 => some [0, 1, 5, 6, 8] | 9 => some [0, 1, 5, 6, 8, 40] | 10 => some [0, 1, 5, 6, 8] | 11 => some [0, 1, 5, 6, 8, 52] | 12 => some [0, 1, 5, 6, 8, 9, 10] | 13 => some [0, 1, 5, 6, 8, 68] | 14 => some [4] | 15 => some [0, 1, 5, 6, 8, 11, 12] | 16 => some [0, 1, 5, 6, 8, 84] | 17 => some [4] | 18 => some [4] | _ => none
def u9 : Nat → Option (List Nat) := fun r => match r with | 19 => some [0, 1, 5, 6, 7, 19] | 29 => some [0, 1, 5, 6, 7, 25, 29] | 37 => some [0, 1, 5, 6, 8, 37] | 47 => some [0, 1, 5, 6, 8, 47] | 57 => some [0, 1, 5, 6, 8, 56, 57] | 73 => some [0, 1, 5, 6, 8, 72, 73] | 89 => some [6, 86, 89] | 94 => some [91, 94] | _ => none
def T9 : Tab := { T0 with live := v9, mid := u9 }
noncomputable def c9 : Code := match Try.f9.body with | some c => c | none => .skip
def h10 : Hint := { keep := fun b => match b with | 0 => [0, 1, 5, 6, 7, 8] | 2 => [0, 1, 5, 6, 7, 9] | _ => [], keepX := fun b => match b with | 0 => [0, 1, 5, 6, 7] | 2 => [0, 4, 5, 6] | _ => [] }
def v10 : Nat → Option (List Nat) := fun r => match r with | 0 => some [0, 1] | 1 => some [0, 1, 5] | 2 => some [0, 1, 5, 16] | 3 => some [4] | 4 => some [0, 1, 5, 6] | 5 => some [0, 1, 5, 6, 7] | 6 => some [0, 1, 5, 6, 7, 8] | 7 => some [0, 1, 5, 6, 7, 8, 25] | 8 => some [0, 1, 5, 6, 7, 8] | 9 => some [0, 1, 5, 6, 7, 8] | 10 => some [0, 1, 5, 6, 7, 9] | 11 => some [0, 1, 5, 6, 7, 9, 38] | 12 => some [0, 1, 5, 6, 7, 9] | 13 => some [0, 1, 5, 6, 7, 9, 10] | 14 => some [0, 1, 5, 6, 7, 9, 10, 45] | 15 => some [4] | 16 => some [0, 1, 5, 6, 7, 9, 10, 49] | 17 => some [0, 1, 5, 6, 7, 9, 10] | 18 => some [0, 1, 5, 6, 7, 9, 10, 11, 12] | 19 => some [0, 1, 5, 6, 7, 9, 10, 74] | 20 => some [4] | 21 => some [0, 1, 5, 6, 7, 9] | 22 => some [4] | _ => none
def u10 : Nat → Option (List Nat) := fun r => match r with | 32 => some [0, 1, 5, 6, 7, 8, 28, 32] | 62 => some [0, 1, 5, 6, 7, 9, 10, 58, 62] | 89 => some [0, 6, 86, 89] | 94 => some [91, 93, 94] | _ => none
def T10 : Tab := { T0 with live := v10, mid := u10 }
noncomputable def c10 : Code := match Try.f10.body with | some c => c | none => .skip
def h11 : Hint := { keep := fun b => match b with | 0 => [1, 5, 6, 7, 8, 9, 10] | _ => [], keepX := fun b => match b with | 0 => [4, 5] | _ => [] }
def v11 : Nat → Option (List Nat) := fun r => match r with | 0 => some [0, 1] | 1 => some [0, 1, 5] | 2 => some [1, 5, 6] | 3 => some [1, 5, 6, 7] | 4 => some [1, 5, 6, 7, 8] | 5 => some [1, 5, 6, 7, 8, 9] | 6 => some [1, 5, 6, 7, 8, 9, 10] | 7 => some [1, 5, 6, 7, 8, 9, 10, 28] | 8 => some [1, 5, 6, 7, 8, 9, 10] | 9 => some [1, 5, 6, 7, 8, 9, 10, 11] | 10 => some [1, 5, 6, 7, 8, 9, 10, 11, 40] | 11 => some [1, 5, 6, 7, 8, 9, 10] | 12 => some [1, 5, 6, 7, 8, 9, 10, 11, 40, 44] | 13 => some [1, 5, 6, 7, 8, 9, 10] | 14 => some [1, 5, 6, 7, 8, 9, 10, 11, 40, 54] | 15 => some [1, 5, 6, 7, 8, 9, 10, 63] | 16 => some [1, 5, 6, 7, 8, 9, 10] | 17 => some [1, 5, 6, 7, 8, 9, 10, 11, 40, 66] | 18 => some [1, 5, 6, 7, 8, 9, 10, 13] | 19 => some [1, 5, 6, 7, 8, 9, 10, 74] | 20 => some [1, 5, 6, 7, 8, 9, 10] | 21 => some [1, 5, 6, 7, 8, 9, 10, 11, 77] | 22 => some [1, 5, 6, 7, 8, 9, 10] | 23 => some [1, 5, 6, 7, 8, 9, 10, 99] | 24 => some [4] | 25 => some [4] | _ => none
def u11 : Nat → Option (List Nat) := fun r => match r with | 25 => some [1, 5, 6, 7, 8, 9, 10, 25] | 35 => some [1, 5, 6, 7, 8, 9, 10, 35] | 50 => some [1, 5, 6, 7, 8, 9, 10, 46, 50] | 60 => some [1, 5, 6, 7, 8, 9, 10, 56, 60] | 72 => some [1, 5, 6, 7, 8, 9, 10, 68, 72] | 86 => some [1, 5, 6, 7, 8, 9, 10, 86] | 91 => some [1, 5, 6, 7, 8, 9, 10, 86, 90, 91] | 96 => some [1, 5, 6, 7, 8, 9, 10, 86, 90, 94, 96] | _ => none
def T11 : Tab := { T0 with live := v11, mid := u11 }
noncomputable def c11 : Code := match Try.f11.body with | some c => c | none => .skip
def h12 : Hint := { keep := fun b => match b with | 0 => [0, 1, 5, 7, 8, 9, 10] | 2 => [0, 1, 5, 7, 8, 9, 10, 13, 14] | _ => [], keepX := fun b => match b with | 0 => [6, 7] | 2 => [0, 1, 5, 6, 7, 8, 9, 10] | _ => [] }
def v12 : Nat → Option (List Nat) := fun r => match r with | 0 => some [0, 1, 5] | 1 => some [0, 1, 5, 7] | 2 => some [0, 1, 5, 7, 8] | 3 => some [0, 1, 5, 7, 8, 19] | 4 => some [6] | 5 => some [0, 1, 5, 7, 8, 9] | 6 => some [0, 1, 5, 7, 8, 9, 10] | 7 => some [0, 1, 5, 7, 8, 9, 10, 33] | 8 => some [0, 1, 5, 7, 8, 9, 10] | 9 => some [0, 1, 5, 7, 8, 9, 10, 11, 12] | 10 => some [0, 1, 5, 7, 8, 9, 10, 12] | 11 => some [0, 1, 5, 7, 8, 9, 10, 12, 13] | 12 => some [0, 1, 5, 7, 8, 9, 10, 13, 90] | 13 => some [6] | 14 => some [0, 1, 5, 7, 8, 9, 10, 13, 14] | 15 => some [0, 1, 5, 7, 8, 9, 10, 13, 14, 94] | 16 => some [0, 1, 5, 7, 8, 9, 10, 13, 14] | 17 => some [0, 1, 5, 7, 8, 9, 10, 13, 14, 107] | 18 => some [6] | 19 => some [6] | _ => none
def u12 : Nat → Option (List Nat) := fun r => match r with | 24 => some [24] | 30 => some [0, 1, 5, 7, 8, 9, 10, 30] | _ => none
def T12 : Tab := { T0 with live := v12, mid := u12 }
noncomputable def c12 : Code := match Try.f12.body with | some c => c | none => .skip
def h13 : Hint := { keep := fun _ => [], keepX := fun _ => [] }
def v13 : Nat → Option (List Nat) := fun r => match r with | 0 => some [0, 3] | 1 => some [0, 3, 5] | 2 => some [0, 3, 5, 6] | 3 => some [0, 3, 5, 6, 8] | 4 => some [0, 3, 5, 6, 8, 10] | 5 => some [0, 3, 5, 6, 8, 10, 11] | 6 => some [0, 3, 5, 6, 8, 10, 11, 13] | 7 => some [0, 3, 5, 6, 8, 10, 11, 13] | 8 => some [0, 3, 5, 6, 8, 10, 11, 13, 14] | 9 => some [0, 3, 5, 6, 8, 10, 11, 13, 14, 45] | 10 => some [4] | 11 => some [0, 3, 5, 6, 8, 10, 11, 13] | 12 => some [0, 3, 5, 6, 8, 10, 13, 15, 16] | 13 => some [4] | _ => none
def u13 : Nat → Option (List Nat) := fun r => match r with | 22 => some [0, 3, 5, 6, 18, 22] | 28 => some [0, 3, 5, 6, 8, 24, 28] | 35 => some [0, 3, 5, 6, 8, 10, 11, 31, 35] | 50 => some [0, 3, 5, 6, 8, 10, 11, 13, 49, 50] | 56 => some [0, 3, 5, 6, 8, 10, 13, 55, 56] | _ => none
def T13 : Tab := { T0 with live := v13, mid := u13 }
noncomputable def c13 : Code := match Try.f13.body with | some c => c | none => .skip
def h14 : Hint := { keep := fun _ => [], keepX := fun _ => [] }
def v14 : Nat → Option (List Nat) := fun r => match r with | 0 => some [] | 1 => some [0] | _ => none
def u14 : Nat → Option (List Nat) := fun r => match r with | 5 => some [3, 5] | 10 => some [10] | _ => none
def T14 : Tab := { T0 with live := v14, mid := u14 }
noncomputable def c14 : Code := match Try.f14.body with | some c => c | none => .skip
def h15 : Hint := { keep := fun _ => [], keepX := fun _ => [] }
def v15 : Nat → Option (List Nat) := fun r => match r with | 0 => some [0, 1] | 1 => some [0, 1, 9] | 2 => some [4] | 3 => some [4] | _ => none
def u15 : Nat → Option (List Nat) := fun _ => none
def T15 : Tab := { T0 with live := v15, mid := u15 }
noncomputable def c15 : Code := match Try.f15.body with | some c => c | none => .skip
def h16 : Hint := { keep := fun _ => [], keepX := fun _ => [] }
def v16 : Nat → Option (List Nat) := fun r => match r with | 0 => some [0, 1] | 1 => some [0, 1, 8] | 2 => some [4] | 3 => some [4] | _ => none
def u16 : Nat → Option (List Nat) := fun r => match r with | 13 => some [13] | _ => none
def T16 : Tab := { T0 with live := v16, mid := u16 }
noncomputable def c16 : Code := match Try.f16.body with | some c => c | none => .skip
def h17 : Hint := { keep := fun _ => [], keepX := fun _ => [] }
def v17 : Nat → Option (List Nat) := fun r => match r with | 0 => some [0, 1] | 1 => some [4] | _ => none
def u17 : Nat → Option (List Nat) := fun _ => none
def T17 : Tab := { T0 with live := v17, mid := u17 }
noncomputable def c17 : Code := match Try.f17.body with | some c => c | none => .skip
def h18 : Hint := { keep := fun _ => [], keepX := fun _ => [] }
def v18 : Nat → Option (List Nat) := fun r => match r with | 0 => some [0, 1] | 1 => some [0, 5] | 2 => some [5, 12] | 3 => some [4] | 4 => some [4] | _ => none
def u18 : Nat → Option (List Nat) := fun _ => none
def T18 : Tab := { T0 with live := v18, mid := u18 }
noncomputable def c18 : Code := match Try.f18.body with | some c => c | none => .skip
def h19 : Hint := { keep := fun _ => [], keepX := fun _ => [] }
def v19 : Nat → Option (List Nat) := fun r => match r with | 0 => some [0, 1] | 1 => some [0, 1, 7] | 2 => some [4] | 3 => some [0, 1, 11] | 4 => some [4] | 5 => some [4] | _ => none
def u19 : Nat → Option (List Nat) := fun _ => none
def T19 : Tab := { T0 with live := v19, mid := u19 }
noncomputable def c19 : Code := match Try.f19.body with | some c => c | none => .skip
def h20 : Hint := { keep := fun _ => [], keepX := fun _ => [] }
def v20 : Nat → Option (List Nat) := fun r => match r with | 0 => some [0, 1] | 1 => some [0, 1, 6] | 2 => some [4] | 3 => some [4] | _ => none
def u20 : Nat → Option (List Nat) := fun _ => none
def T20 : Tab := { T0 with live := v20, mid := u20 }
noncomputable def c20 : Code := match Try.f20.body with | some c => c | none => .skip
def h21 : Hint := { keep := fun _ => [], keepX := fun _ => [] }
def v21 : Nat → Option (List Nat) := fun r => match r with | 0 => some [0, 1] | 1 => some [0, 1, 7] | 2 => some [4] | 3 => some [0, 1, 10] | 4 => some [4] | 5 => some [4] | _ => none
def u21 : Nat → Option (List Nat) := fun _ => none
def T21 : Tab := { T0 with live := v21, mid := u21 }
noncomputable def c21 : Code := match Try.f21.body with | some c => c | none => .skip
def h22 : Hint := { keep := fun b => match b with | 0 => [3, 6, 7, 8] | _ => [], keepX := fun b => match b with | 0 => [3] | _ => [] }
def v22 : Nat → Option (List Nat) := fun r => match r with | 0 => some [0] | 1 => some [0, 3] | 2 => some [3, 6, 7, 8] | 3 => some [3, 6, 7, 8, 9] | 4 => some [3, 5, 6, 7, 8] | 5 => some [3, 6, 7, 8] | 6 => some [3, 6, 7, 8] | 7 => some [2] | _ => none
def u22 : Nat → Option (List Nat) := fun r => match r with | 16 => some [6, 7, 8, 16] | _ => none
def T22 : Tab := { T0 with live := v22, mid := u22 }
noncomputable def c22 : Code := match Try.f22.body with | some c => c | none => .skip
def h23 : Hint := { keep := fun b => match b with | 0 => [0, 1, 9, 10] | _ => [], keepX := fun b => match b with | 0 => [0] | _ => [] }
def v23 : Nat → Option (List Nat) := fun r => match r with | 0 => some [0, 1] | 1 => some [0, 1] | 2 => some [0, 1, 9, 10] | 3 => some [0, 1, 9, 10, 11] | 4 => some [0, 1, 5, 9, 10] | 5 => some [0, 1, 9, 10] | 6 => some [0, 1, 9, 10] | 7 => some [4] | _ => none
def u23 : Nat → Option (List Nat) := fun r => match r with | 17 => some [0, 1, 9, 10, 15, 17] | _ => none
def T23 : Tab := { T0 with live := v23, mid := u23 }
noncomputable def c23 : Code := match Try.f23.body with | some c => c | none => .skip
def h24 : Hint := { keep := fun b => match b with | 0 => [0, 3, 4] | _ => [], keepX := fun b => match b with | 0 => [3] | _ => [] }
def v24 : Nat → Option (List Nat) := fun r => match r with | 0 => some [0] | 1 => some [0, 3] | 2 => some [0, 3, 4] | 3 => some [0, 3, 4, 8] | 4 => some [0, 3, 4] | 5 => some [0, 3, 4, 21] | 6 => some [0, 3, 4] | 7 => some [2] | _ => none
def u24 : Nat → Option (List Nat) := fun r => match r with | 15 => some [0, 3, 4, 13, 14, 15] | 20 => some [0, 3, 4, 13, 20] | 26 => some [0, 4, 26] | _ => none
def T24 : Tab := { T0 with live := v24, mid := u24 }
noncomputable def c24 : Code := match Try.f24.body with | some c => c | none => .skip
def h25 : Hint := { keep := fun b => match b with | 0 => [0, 1, 5] | _ => [], keepX := fun b => match b with | 0 => [4] | _ => [] }
def v25 : Nat → Option (List Nat) := fun r => match r with | 0 => some [0, 1] | 1 => some [0, 1, 10] | 2 => some [4] | 3 => some [0, 1, 5] | 4 => some [0, 1, 5, 14] | 5 => some [0, 1, 5] | 6 => some [0, 1, 5, 25] | 7 => some [4] | 8 => some [4] | _ => none
def u25 : Nat → Option (List Nat) := fun _ => none
def T25 : Tab := { T0 with live := v25, mid := u25 }
noncomputable def c25 : Code := match Try.f25.body with | some c => c | none => .skip
def h26 : Hint := { keep := fun b => match b with | 0 => [0, 1, 5, 6] | _ => [], keepX := fun b => match b with | 0 => [5] | _ => [] }
def v26 : Nat → Option (List Nat) := fun r => match r with | 0 => some [0, 1] | 1 => some [0, 1, 5] | 2 => some [0, 1, 5, 6] | 3 => some [0, 1, 5, 6, 11] | 4 => some [0, 1, 5, 6] | 5 => some [0, 1, 5, 6, 7] | 6 => some [0, 1, 5, 6, 7] | 7 => some [0, 1, 5, 6] | 8 => some [4] | _ => none
def u26 : Nat → Option (List Nat) := fun r => match r with | 7 => some [0, 1, 5, 6, 7, 17] | _ => none
def T26 : Tab := { T0 with live := v26, mid := u26 }
noncomputable def c26 : Code := match Try.f26.body with | some c => c | none => .skip
def h27 : Hint := { keep := fun _ => [], keepX := fun _ => [] }
def v27 : Nat → Option (List Nat) := fun r => match r with | 0 => some [] | 1 => some [1] | 2 => some [1, 2] | 3 => some [1, 2, 3] | 4 => some [1, 2, 3, 4, 5] | 5 => some [1, 2, 3, 4, 5, 6] | 6 => some [0] | _ => none
def u27 : Nat → Option (List Nat) := fun r => match r with | 18 => some [1, 2, 3, 17, 18] | 25 => some [1, 4, 5, 6, 25] | 30 => some [1, 6, 28, 30] | 35 => some [1, 6, 33, 35] | 40 => some [1, 6, 38, 40] | 45 => some [1, 43, 45] | 50 => some [1, 50] | 55 => some [1, 55] | _ => none
def T27 : Tab := { T0 with live := v27, mid := u27 }
noncomputable def c27 : Code := match Try.f27.body with | some c => c | none => .skip
def h28 : Hint := { keep := fun _ => [], keepX := fun _ => [] }
def v28 : Nat → Option (List Nat) := fun r => match r with | 0 => some [0] | 1 => some [0, 4] | 2 => some [2] | 3 => some [2] | _ => none
def u28 : Nat → Option (List Nat) := fun _ => none
def T28 : Tab := { T0 with live := v28, mid := u28 }
noncomputable def c28 : Code := match Try.f28.body with | some c => c | none => .skip
def h29 : Hint := { keep := fun _ => [], keepX := fun _ => [] }
def v29 : Nat → Option (List Nat) := fun r => match r with | 0 => some [0, 3] | 1 => some [0, 3, 7] | 2 => some [4] | 3 => some [0, 3] | 4 => some [0, 5] | 5 => some [0, 5, 19] | 6 => some [5] | 7 => some [4] | _ => none
def u29 : Nat → Option (List Nat) := fun r => match r with | 12 => some [0, 3, 8, 12] | 24 => some [5, 20, 24] | _ => none
def T29 : Tab := { T0 with live := v29, mid := u29 }
noncomputable def c29 : Code := match Try.f29.body with | some c => c | none => .skip
def h30 : Hint := { keep := fun _ => [], keepX := fun _ => [] }
def v30 : Nat → Option (List Nat) := fun r => match r with | 0 => some [1, 2] | 1 => some [2] | _ => none
def u30 : Nat → Option (List Nat) := fun r => match r with | 7 => some [2, 4, 6, 7] | _ => none
def T30 : Tab := { T0 with live := v30, mid := u30 }
noncomputable def c30 : Code := match Try.f30.body with | some c => c | none => .skip
def h31 : Hint := { keep := fun _ => [], keepX := fun _ => [] }
def v31 : Nat → Option (List Nat) := fun r => match r with | 0 => some [0, 1, 4] | 1 => some [0, 1, 4, 13] | 2 => some [4, 5] | 3 => some [4, 5] | _ => none
def u31 : Nat → Option (List Nat) := fun r => match r with | 10 => some [0, 1, 4, 8, 9, 10] | 19 => some [4, 18, 19] | _ => none
def T31 : Tab := { T0 with live := v31, mid := u31 }
noncomputable def c31 : Code := match Try.f31.body with | some c => c | none => .skip
def h32 : Hint := { keep := fun _ => [], keepX := fun _ => [] }
def v32 : Nat → Option (List Nat) := fun r => match r with | 0 => some [1, 2] | 1 => some [2] | _ => none
def u32 : Nat → Option (List Nat) := fun r => match r with | 7 => some [2, 4, 6, 7] | _ => none
def T32 : Tab := { T0 with live := v32, mid := u32 }
noncomputable def c32 : Code := match Try.f32.body with | some c => c | none => .skip
def h33 : Hint := { keep := fun _ => [], keepX := fun _ => [] }
def v33 : Nat → Option (List Nat) := fun r => match r with | 0 => some [0, 1, 4] | 1 => some [0, 1, 4, 6, 7] | 2 => some [0, 1, 4, 6, 7, 14] | 3 => some [4, 6, 7] | 4 => some [4, 5] | _ => none
def u33 : Nat → Option (List Nat) := fun r => match r with | 12 => some [0, 1, 4, 8, 12] | _ => none
def T33 : Tab := { T0 with live := v33, mid := u33 }
noncomputable def c33 : Code := match Try.f33.body with | some c => c | none => .skip
def h34 : Hint := { keep := fun _ => [], keepX := fun _ => [] }
def v34 : Nat → Option (List Nat) := fun r => match r with | 0 => some [0] | 1 => some [0, 4] | 2 => some [2] | 3 => some [2] | _ => none
def u34 : Nat → Option (List Nat) := fun r => match r with | 9 => some [9] | _ => none
def T34 : Tab := { T0 with live := v34, mid := u34 }
noncomputable def c34 : Code := match Try.f34.body with | some c => c | none => .skip
def h35 : Hint := { keep := fun _ => [], keepX := fun _ => [] }
def v35 : Nat → Option (List Nat) := fun r => match r with | 0 => some [0] | 1 => some [0, 4] | 2 => some [2] | 3 => some [2] | _ => none
def u35 : Nat → Option (List Nat) := fun _ => none
def T35 : Tab := { T0 with live := v35, mid := u35 }
noncomputable def c35 : Code := match Try.f35.body with | some c => c | none => .skip
def h36 : Hint := { keep := fun _ => [], keepX := fun _ => [] }
def v36 : Nat → Option (List Nat) := fun r => match r with | 0 => some [0] | 1 => some [0, 4] | 2 => some [2] | 3 => some [2] | _ => none
def u36 : Nat → Option (List Nat) := fun _ => none
def T36 : Tab := { T0 with live := v36, mid := u36 }
noncomputable def c36 : Code := match Try.f36.body with | some c => c | none => .skip
def h37 : Hint := { keep := fun _ => [], keepX := fun _ => [] }
def v37 : Nat → Option (List Nat) := fun r => match r with | 0 => some [0, 3] | 1 => some [0, 3, 18] | 2 => some [4] | 3 => some [] | 4 => some [4] | _ => none
def u37 : Nat → Option (List Nat) := fun _ => none
def T37 : Tab := { T0 with live := v37, mid := u37 }
noncomputable def c37 : Code := match Try.f37.body with | some c => c | none => .skip
def h38 : Hint := { keep := fun _ => [], keepX := fun _ => [] }
def v38 : Nat → Option (List Nat) := fun r => match r with | 0 => some [0, 1] | 1 => some [0, 6] | 2 => some [0, 6, 13] | 3 => some [6] | 4 => some [4] | _ => none
def u38 : Nat → Option (List Nat) := fun r => match r with | 11 => some [0, 7, 11] | 18 => some [6, 14, 18] | _ => none
def T38 : Tab := { T0 with live := v38, mid := u38 }
noncomputable def c38 : Code := match Try.f38.body with | some c => c | none => .skip
def h39 : Hint := { keep := fun _ => [], keepX := fun _ => [] }
def v39 : Nat → Option (List Nat) := fun r => match r with | 0 => some [0, 2, 5, 7, 8] | 1 => some [0, 2, 5, 7, 8, 29] | 2 => some [0, 2, 5, 7, 8, 29, 30] | 3 => some [2, 5, 7, 8, 10] | 4 => some [8, 10, 11, 12] | 5 => some [8, 9] | 6 => some [0, 2, 5, 7, 8, 29, 49] | 7 => some [2, 5, 7, 8, 13] | 8 => some [8, 13, 14, 15] | 9 => some [8, 9] | 10 => some [0, 5, 7, 8, 29, 68] | 11 => some [5, 7, 8, 16, 17] | 12 => some [8, 16, 17, 18, 19, 20] | 13 => some [8, 9] | 14 => some [0, 5, 7, 8, 95] | 15 => some [5, 7, 8, 21, 22] | 16 => some [5, 8, 21, 22, 23, 24] | 17 => some [8, 9] | 18 => some [5, 7, 8, 25] | 19 => some [8, 25, 26, 27] | 20 => some [8, 9] | _ => none
def u39 : Nat → Option (List Nat) := fun r => match r with | 19 => some [8, 16, 17, 18, 19, 82, 83, 84] | 36 => some [2, 5, 7, 8, 36] | 42 => some [8, 10, 42] | 55 => some [2, 5, 7, 8, 55] | 61 => some [8, 13, 61] | 70 => some [5, 7, 8, 70] | 77 => some [8, 16, 17, 77] | 97 => some [5, 7, 8, 97] | 104 => some [5, 8, 21, 22, 104] | 125 => some [8, 25, 125] | _ => none
def T39 : Tab := { T0 with live := v39, mid := u39 }
noncomputable def c39 : Code := match Try.f39.body with | some c => c | none => .skip
def h40 : Hint := { keep := fun _ => [], keepX := fun _ => [] }
def v40 : Nat → Option (List Nat) := fun r => match r with | 0 => some [0] | 1 => some [0, 4] | 2 => some [2] | 3 => some [2] | _ => none
def u40 : Nat → Option (List Nat) := fun r => match r with | 9 => some [9] | _ => none
def T40 : Tab := { T0 with live := v40, mid := u40 }
noncomputable def c40 : Code := match Try.f40.body with | some c => c | none => .skip
def h41 : Hint := { keep := fun b => match b with | 0 => [0, 1, 5] | _ => [], keepX := fun b => match b with | 0 => [4] | _ => [] }
def v41 : Nat → Option (List Nat) := fun r => match r with | 0 => some [0, 1] | 1 => some [0, 1, 10] | 2 => some [4] | 3 => some [0, 1, 5] | 4 => some [0, 1, 5, 14] | 5 => some [0, 1, 5] | 6 => some [0, 1, 5, 25] | 7 => some [4] | 8 => some [4] | _ => none
def u41 : Nat → Option (List Nat) := fun _ => none
def T41 : Tab := { T0 with live := v41, mid := u41 }
noncomputable def c41 : Code := match Try.f41.body with | some c => c | none => .skip
def h42 : Hint := { keep := fun b => match b with | 0 => [3, 5, 9, 10, 11] | _ => [], keepX := fun b => match b with | 0 => [5] | _ => [] }
def v42 : Nat → Option (List Nat) := fun r => match r with | 0 => some [0, 3] | 1 => some [0, 3, 5] | 2 => some [3, 5, 9, 10, 11] | 3 => some [3, 5, 9, 10, 11, 12] | 4 => some [3, 5, 6, 7, 9, 10, 11] | 5 => some [3, 5, 6, 9, 10, 11, 19] | 6 => some [3, 5, 9, 10, 11] | 7 => some [3, 5, 9, 10, 11] | 8 => some [4] | _ => none
def u42 : Nat → Option (List Nat) := fun r => match r with | 6 => some [3, 5, 6, 7, 9, 10, 11, 15] | _ => none
def T42 : Tab := { T0 with live := v42, mid := u42 }
noncomputable def c42 : Code := match Try.f42.body with | some c => c | none => .skip
def h43 : Hint := { keep := fun b => match b with | 0 => [2, 3, 5, 6] | _ => [], keepX := fun b => match b with | 0 => [5] | _ => [] }
def v43 : Nat → Option (List Nat) := fun r => match r with | 0 => some [2, 3] | 1 => some [2, 3, 5] | 2 => some [2, 3, 5, 6] | 3 => some [2, 3, 5, 6, 11] | 4 => some [2, 3, 5, 6] | 5 => some [2, 3, 5, 6, 21] | 6 => some [2, 3, 5, 6] | 7 => some [4] | _ => none
def u43 : Nat → Option (List Nat) := fun _ => none
def T43 : Tab := { T0 with live := v43, mid := u43 }
noncomputable def c43 : Code := match Try.f43.body with | some c => c | none => .skip
def h44 : Hint := { keep := fun _ => [], keepX := fun _ => [] }
def v44 : Nat → Option (List Nat) := fun r => match r with | 0 => some [0] | 1 => some [0, 5] | 2 => some [2] | 3 => some [2] | _ => none
def u44 : Nat → Option (List Nat) := fun _ => none
def T44 : Tab := { T0 with live := v44, mid := u44 }
noncomputable def c44 : Code := match Try.f44.body with | some c => c | none => .skip
def h45 : Hint := { keep := fun _ => [], keepX := fun _ => [] }
def v45 : Nat → Option (List Nat) := fun r => match r with | 0 => some [0] | 1 => some [0, 4] | 2 => some [2] | 3 => some [2] | _ => none
def u45 : Nat → Option (List Nat) := fun _ => none
def T45 : Tab := { T0 with live := v45, mid := u45 }
noncomputable def c45 : Code := match Try.f45.body with | some c => c | none => .skip
def h46 : Hint := { keep := fun _ => [], keepX := fun _ => [] }
def v46 : Nat → Option (List Nat) := fun r => match r with | 0 => some [1, 3, 5, 6] | 1 => some [6, 8, 9] | 2 => some [6, 8, 9] | 3 => some [6, 8, 9, 22] | 4 => some [6, 8, 9] | 5 => some [6, 7] | _ => none
def u46 : Nat → Option (List Nat) := fun r => match r with | 10 => some [6, 10] | _ => none
def T46 : Tab := { T0 with live := v46, mid := u46 }
noncomputable def c46 : Code := match Try.f46.body with | some c => c | none => .skip
def h47 : Hint := { keep := fun _ => [], keepX := fun _ => [] }
def v47 : Nat → Option (List Nat) := fun r => match r with | 0 => some [1, 3, 5, 6] | 1 => some [3, 5, 6, 13] | 2 => some [6, 7] | 3 => some [3, 5, 6, 8] | 4 => some [3, 6, 8] | 5 => some [6, 7] | _ => none
def u47 : Nat → Option (List Nat) := fun r => match r with | 27 => some [6, 23, 25, 27] | _ => none
def T47 : Tab := { T0 with live := v47, mid := u47 }
noncomputable def c47 : Code := match Try.f47.body with | some c => c | none => .skip
def h48 : Hint := { keep := fun b => match b with | 0 => [1, 2, 4, 5, 7, 8] | _ => [], keepX := fun b => match b with | 0 => [1, 2, 4, 5, 7] | _ => [] }
def v48 : Nat → Option (List Nat) := fun r => match r with | 0 => some [1, 2, 4, 5] | 1 => some [1, 2, 4, 5, 12] | 2 => some [4, 5, 6] | 3 => some [1, 2, 4, 5, 7] | 4 => some [1, 2, 4, 5, 7, 8] | 5 => some [1, 2, 4, 5, 7, 8, 19] | 6 => some [1, 2, 4, 5, 7, 8] | 7 => some [1, 2, 4, 5, 7, 8, 24] | 8 => some [1, 2, 4, 5, 7, 8] | 9 => some [4, 5, 6] | _ => none
def u48 : Nat → Option (List Nat) := fun r => match r with | 29 => some [1, 2, 4, 5, 8, 25, 29] | _ => none
def T48 : Tab := { T0 with live := v48, mid := u48 }
noncomputable def c48 : Code := match Try.f48.body with | some c => c | none => .skip
def h49 : Hint := { keep := fun _ => [], keepX := fun _ => [] }
def v49 : Nat → Option (List Nat) := fun r => match r with | 0 => some [1, 2, 4] | 1 => some [1, 2, 4, 9] | 2 => some [4, 5] | 3 => some [4, 5] | _ => none
def u49 : Nat → Option (List Nat) := fun r => match r with | 15 => some [4, 15] | _ => none
def T49 : Tab := { T0 with live := v49, mid := u49 }
noncomputable def c49 : Code := match Try.f49.body with | some c => c | none => .skip
def h50 : Hint := { keep := fun _ => [], keepX := fun _ => [] }
def v50 : Nat → Option (List Nat) := fun r => match r with | 0 => some [1, 2, 4] | 1 => some [4, 6, 8] | 2 => some [4, 6, 8, 16] | 3 => some [4, 6, 8] | 4 => some [4, 5] | _ => none
def u50 : Nat → Option (List Nat) := fun r => match r with | 13 => some [4, 9, 13] | _ => none
def T50 : Tab := { T0 with live := v50, mid := u50 }
noncomputable def c50 : Code := match Try.f50.body with | some c => c | none => .skip
def h51 : Hint := { keep := fun _ => [], keepX := fun _ => [] }
def v51 : Nat → Option (List Nat) := fun r => match r with | 0 => some [0] | 1 => some [0, 4] | 2 => some [2] | 3 => some [2] | _ => none
def u51 : Nat → Option (List Nat) := fun _ => none
def T51 : Tab := { T0 with live := v51, mid := u51 }
noncomputable def c51 : Code := match Try.f51.body with | some c => c | none => .skip
def h52 : Hint := { keep := fun b => match b with | 0 => [0, 3, 4] | _ => [], keepX := fun b => match b with | 0 => [3] | _ => [] }
def v52 : Nat → Option (List Nat) := fun r => match r with | 0 => some [0] | 1 => some [0, 7] | 2 => some [0] | 3 => some [0, 3] | 4 => some [0, 3, 4] | 5 => some [0, 3, 4, 15] | 6 => some [0, 3, 4] | 7 => some [0, 3, 4] | 8 => some [2] | _ => none
def u52 : Nat → Option (List Nat) := fun r => match r with | 22 => some [0, 4, 18, 22] | _ => none
def T52 : Tab := { T0 with live := v52, mid := u52 }
noncomputable def c52 : Code := match Try.f52.body with | some c => c | none => .skip
def h53 : Hint := { keep := fun _ => [], keepX := fun _ => [] }
def v53 : Nat → Option (List Nat) := fun r => match r with | 0 => some [1, 2] | 1 => some [4] | _ => none
def u53 : Nat → Option (List Nat) := fun r => match r with | 9 => some [7, 8, 9] | _ => none
def T53 : Tab := { T0 with live := v53, mid := u53 }
noncomputable def c53 : Code := match Try.f53.body with | some c => c | none => .skip
end Go.Proofs.YtgiofacmcpakoaaE
