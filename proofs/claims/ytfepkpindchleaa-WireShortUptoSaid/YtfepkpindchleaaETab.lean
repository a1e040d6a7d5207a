/- The seat's table of types, and of each function the slots that live at its loops. Printed by seat.py out of the translation. -/
import Derived.Test.YtfepkpindchleaaE25
import Derived.Test.YtfepkpindchleaaE27
import Derived.Test.YtfepkpindchleaaProg
namespace Go.Proofs.YtfepkpindchleaaE
open Go
def rows : List (Nat × Row) := [
  (3, { desc := .int .i64, size := 1, bytes := 8, zero := [.int .i64 0], cty := [none], ty := some (.int .i64) }),
  (4, { desc := .bool, size := 1, bytes := 1, zero := [.bool false], cty := [none], ty := some (.bool) }),
  (5, { desc := .int .u8, size := 1, bytes := 1, zero := [.int .u8 0], cty := [none], ty := some (.int .u8) }),
  (9, { desc := .str, size := 1, bytes := 16, zero := [.str []], cty := [none], ty := some (.str) }),
  (22, { desc := .slice 31, size := 1, bytes := 24, zero := [.ns], cty := [some ((.pair (.int .u16) .str))], ty := some ((.list (.pair (.int .u16) .str))) }),
  (24, { desc := .ptr 76, size := 1, bytes := 8, zero := [.np], cty := [none], ty := none }),
  (26, { desc := .slice 85, size := 1, bytes := 24, zero := [.ns], cty := [some ((.pair .str (.int .i64)))], ty := some ((.list (.pair .str (.int .i64)))) }),
  (28, { desc := .struct [(0, 9), (1, 26)], size := 2, bytes := 40, zero := [.str [], .ns], cty := [none, some ((.pair .str (.int .i64)))], ty := some ((.pair .str (.list (.pair .str (.int .i64))))) }),
  (29, { desc := .int .u16, size := 1, bytes := 2, zero := [.int .u16 0], cty := [none], ty := some (.int .u16) }),
  (31, { desc := .struct [(0, 29), (1, 9)], size := 2, bytes := 24, zero := [.int .u16 0, .str []], cty := [none, none], ty := some ((.pair (.int .u16) .str)) }),
  (32, { desc := .int .i64, size := 1, bytes := 8, zero := [.int .i64 0], cty := [none], ty := some (.int .i64) }),
  (38, { desc := .slice 44, size := 1, bytes := 24, zero := [.ns], cty := [some ((.pair .str .bool))], ty := some ((.list (.pair .str .bool))) }),
  (40, { desc := .slice 5, size := 1, bytes := 24, zero := [.ns], cty := [some (.int .u8)], ty := some ((.list (.int .u8))) }),
  (44, { desc := .struct [(0, 9), (1, 4)], size := 2, bytes := 24, zero := [.str [], .bool false], cty := [none, none], ty := some ((.pair .str .bool)) }),
  (54, { desc := .slice 3, size := 1, bytes := 24, zero := [.ns], cty := [some (.int .i64)], ty := some ((.list (.int .i64))) }),
  (69, { desc := .slice 9, size := 1, bytes := 24, zero := [.ns], cty := [some (.str)], ty := some ((.list .str)) }),
  (72, { desc := .map 9 3, size := 1, bytes := 8, zero := [.nm], cty := [none], ty := none }),
  (74, { desc := .struct [(0, 40)], size := 1, bytes := 24, zero := [.ns], cty := [some (.int .u8)], ty := some ((.list (.int .u8))) }),
  (76, { desc := .struct [(0, 74), (1, 72)], size := 2, bytes := 32, zero := [.ns, .nm], cty := [some (.int .u8), none], ty := none }),
  (85, { desc := .struct [(0, 9), (1, 3)], size := 2, bytes := 24, zero := [.str [], .int .i64 0], cty := [none, none], ty := some ((.pair .str (.int .i64))) }),
  (86, { desc := .ptr 88, size := 1, bytes := 8, zero := [.np], cty := [none], ty := none }),
  (88, { desc := .struct [(0, 86), (1, 40)], size := 2, bytes := 32, zero := [.np, .ns], cty := [none, some (.int .u8)], ty := none }),
  (108, { desc := .map 29 54, size := 1, bytes := 8, zero := [.nm], cty := [none], ty := none }),
  (111, { desc := .int .u32, size := 1, bytes := 4, zero := [.int .u32 0], cty := [none], ty := some (.int .u32) }),
  (116, { desc := .ptr 5, size := 1, bytes := 8, zero := [.np], cty := [none], ty := none }),
  (119, { desc := .func, size := 1, bytes := 8, zero := [.nf], cty := [none], ty := none }),
  (120, { desc := .func, size := 1, bytes := 8, zero := [.nf], cty := [none], ty := none }),
  (123, { desc := .other, size := 1, bytes := 8, zero := [.np], cty := [none], ty := none }),
  (125, { desc := .func, size := 1, bytes := 8, zero := [.nf], cty := [none], ty := none })]
def T0 : Tab := { row := lookR rows, tag := fun t => Nat.beq t 88 }
theorem tab00 : TabOk Try.prog { row := lookR rows } := tab_ok (rs := rows) (by kernel_rfl)
theorem tab0 : TabOk Try.prog T0 := tab00
theorem mixed0 : Try.prog.follows .mixedOrders = true := by kernel_rfl
def h3 : Hint := { keep := fun b => match b with | 0 => [0, 3, 4, 5, 6] | _ => [], keepX := fun b => match b with | 0 => [2, 3] | _ => [] }
def v3 : Nat → Option (List Nat) := fun r => match r with | 0 => some [0] | 1 => some [0, 3] | 2 => some [0, 3, 4] | 3 => some [0, 3, 4, 5] | 4 => some [0, 3, 4, 5, 6] | 5 => some [0, 3, 4, 5, 6, 20] | 6 => some [0, 3, 4, 5, 6] | 7 => some [0, 3, 4, 5, 6, 29] | 8 => some [2] | 9 => some [0, 3, 4, 5, 6, 7] | 10 => some [0, 3, 4, 5, 6, 7, 8, 9] | 11 => some [0, 3, 4, 5, 6, 7, 9] | 12 => some [0, 3, 4, 5, 6, 68] | 13 => some [2] | 14 => some [2] | _ => none
def u3 : Nat → Option (List Nat) := fun r => match r with | 17 => some [0, 3, 4, 5, 6, 17] | 27 => some [0, 3, 4, 5, 6, 27] | 73 => some [73] | _ => none
def T3 : Tab := { T0 with live := v3, mid := u3 }
noncomputable def c3 : Code := match Try.f3.body with | some c => c | none => .skip
def h4 : Hint := { keep := fun b => match b with | 0 => [0, 5, 6, 7, 9] | _ => [], keepX := fun b => match b with | 0 => [4, 5, 6, 7] | _ => [] }
def v4 : Nat → Option (List Nat) := fun r => match r with | 0 => some [0, 1] | 1 => some [0, 1, 5] | 2 => some [0, 1, 5, 16] | 3 => some [4] | 4 => some [0, 1, 5, 6] | 5 => some [0, 1, 5, 6, 7] | 6 => some [0, 5, 6, 7, 20] | 7 => some [0, 5, 6, 7, 8] | 8 => some [0, 5, 6, 7, 8] | 9 => some [0, 5, 6, 7] | 10 => some [0, 5, 6, 7, 9] | 11 => some [0, 5, 6, 7, 9, 32] | 12 => some [0, 5, 6, 7, 9] | 13 => some [0, 5, 6, 7, 9, 39] | 14 => some [0, 5, 6, 7, 9] | 15 => some [0, 5, 6, 7, 9] | 16 => some [0, 5, 6, 7, 9, 10] | 17 => some [0, 5, 6, 7, 9, 10, 11, 12] | 18 => some [0, 5, 6, 7, 9, 10, 12] | 19 => some [0, 5, 6, 7, 9, 82] | 20 => some [4] | 21 => some [4] | _ => none
def u4 : Nat → Option (List Nat) := fun r => match r with | 44 => some [0, 5, 6, 7, 9, 40, 44] | 58 => some [0, 5, 6, 7, 9, 54, 58] | _ => none
def T4 : Tab := { T0 with live := v4, mid := u4 }
noncomputable def c4 : Code := match Try.f4.body with | some c => c | none => .skip
def h5 : Hint := { keep := fun _ => [], keepX := fun _ => [] }
def v5 : Nat → Option (List Nat) := fun r => match r with | 0 => some [0, 1] | 1 => some [0, 1, 5] | 2 => some [0, 1, 5, 15] | 3 => some [4] | 4 => some [0, 1, 5, 6, 7, 8] | 5 => some [5, 6, 7, 8, 9, 10, 11] | 6 => some [4] | _ => none
def u5 : Nat → Option (List Nat) := fun r => match r with | 21 => some [0, 1, 5, 17, 21] | 28 => some [5, 6, 7, 8, 24, 28] | 35 => some [7, 8, 10, 11, 32, 35] | 40 => some [8, 11, 37, 40] | 45 => some [42, 45] | _ => none
def T5 : Tab := { T0 with live := v5, mid := u5 }
noncomputable def c5 : Code := match Try.f5.body with | some c => c | none => .skip
def h6 : Hint := { keep := fun b => match b with | 0 => [0, 3, 4, 5, 6, 7] | 2 => [0, 3, 5, 6, 8, 9] | _ => [], keepX := fun b => match b with | 0 => [0, 3, 4, 5, 6] | 2 => [2, 3] | _ => [] }
def v6 : Nat → Option (List Nat) := fun r => match r with | 0 => some [0] | 1 => some [0, 3] | 2 => some [0, 3, 16] | 3 => some [2] | 4 => some [0, 3, 4] | 5 => some [0, 3, 4, 5] | 6 => some [0, 3, 4, 5, 6] | 7 => some [0, 3, 4, 5, 6, 7] | 8 => some [0, 3, 4, 5, 6, 7, 22] | 9 => some [0, 3, 4, 5, 6, 7] | 10 => some [0, 3, 4, 5, 6, 7] | 11 => some [0, 3, 4, 5, 6, 7, 34] | 12 => some [0, 3, 4, 5, 6, 7] | 13 => some [0, 3, 4, 5, 6, 7] | 14 => some [0, 3, 4, 5, 6, 7] | 15 => some [0, 3, 5, 6, 8] | 16 => some [0, 3, 5, 6, 8, 9] | 17 => some [0, 3, 5, 6, 8, 9, 59] | 18 => some [0, 3, 5, 6, 8, 9] | 19 => some [0, 3, 5, 6, 8, 9, 75] | 20 => some [0, 3, 5, 6, 8, 9, 10, 11, 12] | 21 => some [0, 3, 5, 6, 8, 9, 104] | 22 => some [2] | 23 => some [2] | _ => none
def u6 : Nat → Option (List Nat) := fun r => match r with | 29 => some [0, 3, 4, 6, 7, 29] | 39 => some [0, 3, 4, 5, 6, 7, 35, 39] | 46 => some [0, 3, 4, 5, 6, 7, 42, 46] | 53 => some [0, 3, 4, 5, 7, 53] | 66 => some [0, 3, 5, 6, 8, 9, 66] | 71 => some [0, 3, 5, 6, 8, 9, 67, 71] | 81 => some [0, 3, 5, 6, 8, 9, 77, 81] | 85 => some [0, 3, 5, 6, 8, 9, 83, 84, 85] | 90 => some [0, 3, 5, 6, 8, 9, 11, 12, 86, 90] | 95 => some [0, 3, 5, 6, 8, 9, 12, 93, 94, 95] | 100 => some [0, 3, 5, 6, 8, 9, 12, 100] | _ => none
def T6 : Tab := { T0 with live := v6, mid := u6 }
noncomputable def c6 : Code := match Try.f6.body with | some c => c | none => .skip
def h7 : Hint := { keep := fun _ => [], keepX := fun _ => [] }
def v7 : Nat → Option (List Nat) := fun r => match r with | 0 => some [0, 1, 2] | 1 => some [0, 1, 2, 7] | 2 => some [0, 1, 2, 7, 23] | 3 => some [6] | 4 => some [0, 1, 2, 7, 8, 9, 10] | 5 => some [0, 2, 7, 11] | 6 => some [2, 7, 11, 12, 13, 14] | 7 => some [6] | _ => none
def u7 : Nat → Option (List Nat) := fun r => match r with | 13 => some [2, 7, 11, 12, 13, 68] | 20 => some [0, 1, 2, 7, 19, 20] | 29 => some [0, 1, 2, 7, 25, 29] | 36 => some [0, 1, 2, 7, 8, 9, 10, 34, 36] | 41 => some [0, 2, 7, 8, 9, 10, 38, 41] | 46 => some [0, 2, 7, 8, 9, 10, 43, 44, 46] | 51 => some [0, 2, 7, 8, 9, 49, 51] | 56 => some [0, 2, 7, 9, 49, 56] | 61 => some [2, 7, 11, 61] | 73 => some [2, 12, 13, 14, 73] | 78 => some [2, 12, 13, 73, 77, 78] | 83 => some [2, 13, 73, 77, 80, 83] | 88 => some [73, 77, 85, 86, 88] | _ => none
def T7 : Tab := { T0 with live := v7, mid := u7 }
noncomputable def c7 : Code := match Try.f7.body with | some c => c | none => .skip
def h8 : Hint := { keep := fun b => match b with | 0 => [0, 1, 5, 6, 7] | _ => [], keepX := fun b => match b with | 0 => [1, 5, 6] | _ => [] }
def v8 : Nat → Option (List Nat) := fun r => match r with | 0 => some [0, 1] | 1 => some [0, 1, 5] | 2 => some [0, 1, 5, 21] | 3 => some [4] | 4 => some [0, 1, 5, 6] | 5 => some [0, 1, 5, 6, 7] | 6 => some [0, 1, 5, 6, 7, 27] | 7 => some [0, 1, 5, 6, 7] | 8 => some [0, 1, 5, 6, 7, 35] | 9 => some [0, 1, 5, 6, 7] | 10 => some [1, 5, 6, 8] | 11 => some [1, 5, 6, 8] | 12 => some [1, 5, 6, 8, 9, 10, 11] | 13 => some [1, 5, 6, 8, 9, 10, 11, 12] | 14 => some [1, 5, 6, 8, 9, 10, 11, 12] | 15 => some [4] | _ => none
def u8 : Nat → Option (List Nat) := fun r => match r with | 10 => some [1, 5, 6, 8, 9, 10, 55] | 18 => some [0, 1, 5, 17, 18] | 34 => some [0, 1, 5, 6, 7, 34] | 40 => some [0, 1, 5, 6, 7, 36, 40] | 48 => some [1, 5, 6, 8, 48] | 64 => some [1, 6, 8, 9, 10, 12, 64] | 69 => some [1, 6, 8, 10, 12, 69] | 74 => some [1, 6, 8, 12, 70, 74] | 79 => some [6, 8, 12, 76, 78, 79] | 84 => some [8, 12, 82, 84] | 89 => some [82, 89] | _ => none
def T8 : Tab := { T0 with live := v8, mid := u8 }
noncomputable def c8 : Code := match Try.f8.body with | some c => c | none => .skip
def h9 : Hint := { keep := fun b => match b with | 0 => [0, 1, 5, 6, 7] | _ => [], keepX := fun b => match b with | 0 => [1, 4, 5, 6] | _ => [] }
def v9 : Nat → Option (List Nat) := fun r => match r with | 0 => some [0, 1] | 1 => some [0, 1, 5] | 2 => some [0, 1, 5, 21] | 3 => some [4] | 4 => some [0, 1, 5, 6] | 5 => some [0, 1, 5, 6, 7] | 6 => some [0, 1, 5, 6, 7, 27] | 7 => some [0, 1, 5, 6, 7] | 8 => some [0, 1, 5, 6, 7, 8] | 9 => some [0, 1, 5, 6, 7, 8, 9] | 10 => some [0, 1, 5, 6, 7, 63] | 11 => some [4] | 12 => some [1, 5, 6] | 13 => some [1, 5, 6, 10] | 14 => some [1, 5, 6, 10] | 15 => some [1, 5, 6, 10, 11] | 16 => some [1, 5, 6, 10, 11, 75] | 17 => some [1, 5, 6, 11] | 18 => some [1, 5, 6, 11, 12] | 19 => some [1, 5, 6, 11, 12] | 20 => some [4] | _ => none
def u9 : Nat → Option (List Nat) := fun r => match r with | 18 => some [0, 1, 5, 17, 18] | 36 => some [0, 1, 5, 6, 7, 8, 32, 36] | 84 => some [1, 12, 81, 83, 84] | 89 => some [12, 87, 88, 89] | 94 => some [12, 93, 94] | 99 => some [12, 98, 99] | 104 => some [12, 103, 104] | 109 => some [108, 109] | _ => none
def T9 : Tab := { T0 with live := v9, mid := u9 }
noncomputable def c9 : Code := match Try.f9.body with | some c => c | none => .skip
def h10 : Hint := { keep := fun _ => [], keepX := fun _ => [] }
def v10 : Nat → Option (List Nat) := fun r => match r with | 0 => some [0, 1, 2] | 1 => some [0, 1, 2, 7] | 2 => some [0, 1, 2, 7, 23] | 3 => some [6] | 4 => some [0, 1, 2, 7, 8] | 5 => some [0, 1, 2, 7, 8] | 6 => some [0, 1, 2, 7, 8, 9] | 7 => some [0, 1, 2, 7, 8, 9] | 8 => some [0, 1, 2, 7, 8, 9, 10] | 9 => some [0, 1, 2, 7, 9, 10, 11] | 10 => some [0, 1, 2, 7, 9, 10, 11, 12] | 11 => some [0, 1, 2, 7, 9, 10, 11, 12, 13] | 12 => some [0, 1, 2, 7, 9, 10, 11, 12, 13, 14] | 13 => some [6] | _ => none
def u10 : Nat → Option (List Nat) := fun r => match r with | 20 => some [0, 1, 2, 7, 19, 20] | _ => none
def T10 : Tab := { T0 with live := v10, mid := u10 }
noncomputable def c10 : Code := match Try.f10.body with | some c => c | none => .skip
def h11 : Hint := { keep := fun _ => [], keepX := fun _ => [] }
def v11 : Nat → Option (List Nat) := fun r => match r with | 0 => some [0, 1, 2, 3, 4] | 1 => some [0, 1, 2, 3, 4, 11] | 2 => some [0, 1, 2, 3, 4, 11, 28] | 3 => some [10] | 4 => some [0, 1, 2, 3, 4, 11, 12, 13] | 5 => some [0, 1, 11, 12, 13, 14, 15] | 6 => some [0, 1, 11, 12, 13, 14, 15, 16, 17] | 7 => some [0, 1, 11, 12, 13, 14, 15, 16, 17, 18, 19] | 8 => some [10] | _ => none
def u11 : Nat → Option (List Nat) := fun r => match r with | 25 => some [0, 1, 2, 3, 4, 11, 24, 25] | 35 => some [0, 1, 2, 3, 4, 11, 35] | 43 => some [0, 1, 11, 12, 13, 43] | 50 => some [0, 1, 11, 12, 13, 14, 15, 46, 50] | 56 => some [0, 1, 11, 12, 13, 14, 15, 16, 17, 52, 56] | 62 => some [0, 1, 12, 13, 14, 15, 16, 17, 18, 19, 59, 62] | 67 => some [12, 13, 14, 15, 16, 17, 18, 19, 67] | 72 => some [13, 15, 16, 17, 18, 19, 72] | 77 => some [16, 17, 18, 19, 77] | 82 => some [17, 19, 82] | 87 => some [87] | _ => none
def T11 : Tab := { T0 with live := v11, mid := u11 }
noncomputable def c11 : Code := match Try.f11.body with | some c => c | none => .skip
def h12 : Hint := { keep := fun _ => [], keepX := fun _ => [] }
def v12 : Nat → Option (List Nat) := fun r => match r with | 0 => some [0, 1, 2, 3] | 1 => some [0, 1, 2, 3, 9] | 2 => some [0, 1, 2, 3, 9, 22] | 3 => some [8] | 4 => some [0, 1, 2, 3, 9, 10, 11] | 5 => some [0, 1, 2, 3, 9, 10, 11, 35] | 6 => some [8] | 7 => some [0, 1, 2, 3, 9, 10, 13] | 8 => some [3, 9, 10, 13, 15] | 9 => some [3, 9, 10, 13, 15, 16, 17] | 10 => some [3, 9, 10, 13, 15, 16, 17, 18] | 11 => some [8] | _ => none
def u12 : Nat → Option (List Nat) := fun r => match r with | 29 => some [0, 1, 2, 3, 9, 25, 27, 29] | 33 => some [0, 1, 2, 3, 9, 32, 33] | 40 => some [10, 40] | 50 => some [0, 1, 2, 3, 9, 10, 46, 48, 50] | 54 => some [0, 1, 2, 3, 9, 10, 45, 54] | 61 => some [3, 9, 10, 13, 57, 59, 61] | 65 => some [3, 9, 10, 13, 56, 65] | 71 => some [3, 9, 10, 13, 15, 67, 71] | 77 => some [3, 9, 10, 13, 15, 16, 17, 75, 77] | 82 => some [3, 9, 10, 13, 15, 16, 17, 82] | 87 => some [3, 9, 10, 13, 15, 16, 17, 87] | 92 => some [3, 9, 10, 13, 15, 16, 17, 91, 92] | 97 => some [3, 9, 10, 13, 15, 16, 17, 95, 97] | 103 => some [10, 13, 15, 16, 17, 18, 100, 103] | 108 => some [10, 13, 15, 16, 17, 105, 108] | 113 => some [10, 16, 17, 105, 108, 111, 113] | 118 => some [10, 16, 117, 118] | 123 => some [10, 16, 117, 120, 123] | 128 => some [117, 120, 123, 128] | _ => none
def T12 : Tab := { T0 with live := v12, mid := u12 }
noncomputable def c12 : Code := match Try.f12.body with | some c => c | none => .skip
def h13 : Hint := { keep := fun _ => [], keepX := fun _ => [] }
def v13 : Nat → Option (List Nat) := fun r => match r with | 0 => some [0, 1] | 1 => some [0, 1, 5] | 2 => some [0, 1, 5, 6] | 3 => some [0, 1, 5, 49] | 4 => some [4] | 5 => some [0, 1, 5, 7] | 6 => some [0, 1, 5, 7, 8] | 7 => some [0, 1, 5, 7, 8, 9, 10] | 8 => some [0, 1, 5, 7, 8, 9, 10, 12] | 9 => some [4] | _ => none
def u13 : Nat → Option (List Nat) := fun r => match r with | 18 => some [0, 1, 5, 16, 18] | 23 => some [0, 1, 5, 23] | 28 => some [0, 1, 5, 28] | 33 => some [0, 1, 5, 32, 33] | 38 => some [0, 1, 5, 36, 38] | 43 => some [0, 1, 5, 43] | 48 => some [0, 1, 5, 47, 48] | 61 => some [0, 1, 5, 7, 8, 61] | 68 => some [0, 1, 5, 7, 8, 9, 10, 64, 68] | 74 => some [1, 7, 8, 9, 10, 12, 71, 74] | 79 => some [1, 7, 9, 10, 12, 79] | 84 => some [1, 9, 10, 12, 80, 84] | 89 => some [1, 9, 12, 89] | 94 => some [12, 94] | _ => none
def T13 : Tab := { T0 with live := v13, mid := u13 }
noncomputable def c13 : Code := match Try.f13.body with | some c => c | none => .skip
def h14 : Hint := { keep := fun b => match b with | 0 => [0, 1, 5, 6, 7] | 2 => [1, 5, 6, 8, 9, 10] | 4 => [1, 5, 8, 9, 11, 12] | _ => [], keepX := fun b => match b with | 0 => [1, 5, 6] | 2 => [1, 4, 5, 6, 8, 9] | 4 => [4, 5] | _ => [] }
def v14 : Nat → Option (List Nat) := fun r => match r with | 0 => some [0, 1] | 1 => some [0, 1, 5] | 2 => some [0, 1, 5, 18] | 3 => some [4] | 4 => some [0, 1, 5, 6] | 5 => some [0, 1, 5, 6, 7] | 6 => some [0, 1, 5, 6, 7, 24] | 7 => some [0, 1, 5, 6, 7] | 8 => some [0, 1, 5, 6, 7] | 9 => some [1, 5, 6, 8] | 10 => some [1, 5, 6, 8, 9] | 11 => some [1, 5, 6, 8, 9, 10] | 12 => some [1, 5, 6, 8, 9, 10, 40] | 13 => some [1, 5, 6, 8, 9, 10] | 14 => some [1, 5, 6, 8, 9, 10, 49] | 15 => some [4] | 16 => some [1, 5, 6, 8, 9, 10] | 17 => some [1, 5, 6, 8, 9, 10] | 18 => some [1, 5, 6, 8, 9, 10] | 19 => some [1, 5, 8, 9, 11] | 20 => some [1, 5, 8, 9, 11, 12] | 21 => some [1, 5, 8, 9, 11, 12, 83] | 22 => some [1, 5, 8, 9, 11, 12] | 23 => some [1, 5, 8, 9, 11, 12, 13, 14] | 24 => some [1, 5, 8, 9, 11, 12, 127] | 25 => some [4] | 26 => some [4] | _ => none
def u14 : Nat → Option (List Nat) := fun r => match r with | 31 => some [0, 1, 5, 6, 7, 27, 31] | 37 => some [1, 5, 6, 8, 9, 10, 37] | 47 => some [1, 5, 6, 8, 9, 10, 47] | 55 => some [1, 5, 6, 9, 10, 55] | _ => none
def T14 : Tab := { T0 with live := v14, mid := u14 }
noncomputable def c14 : Code := match Try.f14.body with | some c => c | none => .skip
def h15 : Hint := { keep := fun _ => [], keepX := fun _ => [] }
def v15 : Nat → Option (List Nat) := fun r => match r with | 0 => some [] | 1 => some [1] | 2 => some [1, 2] | 3 => some [1, 2, 3] | 4 => some [1, 2, 3, 4, 5] | 5 => some [0] | _ => none
def u15 : Nat → Option (List Nat) := fun r => match r with | 14 => some [1, 2, 3, 13, 14] | 19 => some [1, 2, 4, 5, 17, 19] | 24 => some [1, 4, 5, 21, 23, 24] | 29 => some [1, 4, 29] | 34 => some [1, 34] | _ => none
def T15 : Tab := { T0 with live := v15, mid := u15 }
noncomputable def c15 : Code := match Try.f15.body with | some c => c | none => .skip
def h16 : Hint := { keep := fun _ => [], keepX := fun _ => [] }
def v16 : Nat → Option (List Nat) := fun r => match r with | 0 => some [] | 1 => some [0] | _ => none
def u16 : Nat → Option (List Nat) := fun _ => none
def T16 : Tab := { T0 with live := v16, mid := u16 }
noncomputable def c16 : Code := match Try.f16.body with | some c => c | none => .skip
def h17 : Hint := { keep := fun b => match b with | 0 => [0, 7, 26, 27, 28] | _ => [], keepX := fun b => match b with | 0 => [] | _ => [] }
def v17 : Nat → Option (List Nat) := fun r => match r with | 0 => some [0, 1, 2] | 1 => some [0, 1, 2, 18] | 2 => some [6] | 3 => some [0, 1, 7] | 4 => some [0, 7, 26, 27, 28] | 5 => some [0, 7, 26, 27, 28, 29] | 6 => some [0, 7, 9, 10, 26, 27, 28] | 7 => some [0, 7, 9, 26, 27, 28, 34] | 8 => some [0, 7, 26, 27, 28] | 9 => some [0, 7, 26, 27, 28] | 10 => some [0, 7, 26, 27, 28] | 11 => some [6] | _ => none
def u17 : Nat → Option (List Nat) := fun r => match r with | 15 => some [0, 1, 2, 13, 14, 15] | 23 => some [0, 1, 19, 23] | 39 => some [0, 7, 26, 27, 28, 35, 39] | 45 => some [0, 7, 26, 27, 28, 41, 45] | _ => none
def T17 : Tab := { T0 with live := v17, mid := u17 }
noncomputable def c17 : Code := match Try.f17.body with | some c => c | none => .skip
def h18 : Hint := { keep := fun _ => [], keepX := fun _ => [] }
def v18 : Nat → Option (List Nat) := fun r => match r with | 0 => some [1, 2, 3, 6] | 1 => some [1, 2, 3, 6, 21] | 2 => some [6, 7] | 3 => some [2, 3, 6, 23] | 4 => some [2, 3, 6, 23, 24] | 5 => some [2, 3, 6, 23, 24] | 6 => some [2, 3, 6, 23, 24] | 7 => some [6, 8] | 8 => some [6, 7] | 9 => some [2, 3, 6, 23, 35] | 10 => some [6, 10] | 11 => some [6, 7] | 12 => some [2, 3, 6, 48] | 13 => some [2, 3, 6, 12] | 14 => some [2, 3, 6, 12, 13] | 15 => some [2, 6, 12, 13, 14] | 16 => some [2, 6, 13, 16] | 17 => some [6, 7] | 18 => some [6, 7] | _ => none
def u18 : Nat → Option (List Nat) := fun r => match r with | 32 => some [6, 28, 32] | 56 => some [2, 3, 6, 12, 52, 56] | _ => none
def T18 : Tab := { T0 with live := v18, mid := u18 }
noncomputable def c18 : Code := match Try.f18.body with | some c => c | none => .skip
def h19 : Hint := { keep := fun _ => [], keepX := fun _ => [] }
def v19 : Nat → Option (List Nat) := fun r => match r with | 0 => some [0] | 1 => some [0, 4] | 2 => some [2] | 3 => some [2] | _ => none
def u19 : Nat → Option (List Nat) := fun r => match r with | 9 => some [9] | _ => none
def T19 : Tab := { T0 with live := v19, mid := u19 }
noncomputable def c19 : Code := match Try.f19.body with | some c => c | none => .skip
def h20 : Hint := { keep := fun _ => [], keepX := fun _ => [] }
def v20 : Nat → Option (List Nat) := fun r => match r with | 0 => some [] | 1 => some [1] | 2 => some [1, 2] | 3 => some [1, 2, 3] | 4 => some [1, 2, 3, 4, 5, 6] | 5 => some [0] | _ => none
def u20 : Nat → Option (List Nat) := fun r => match r with | 16 => some [1, 2, 3, 12, 16] | 23 => some [1, 4, 5, 6, 21, 23] | 28 => some [1, 4, 5, 6, 25, 28] | 33 => some [4, 5, 6, 30, 33] | 38 => some [5, 6, 38] | 43 => some [6, 43] | _ => none
def T20 : Tab := { T0 with live := v20, mid := u20 }
noncomputable def c20 : Code := match Try.f20.body with | some c => c | none => .skip
def h21 : Hint := { keep := fun b => match b with | 0 => [0, 3] | _ => [], keepX := fun b => match b with | 0 => [0, 2] | _ => [] }
def v21 : Nat → Option (List Nat) := fun r => match r with | 0 => some [0] | 1 => some [0, 3] | 2 => some [0, 3, 11] | 3 => some [0, 3] | 4 => some [0, 3, 20] | 5 => some [2] | 6 => some [2] | _ => none
def u21 : Nat → Option (List Nat) := fun r => match r with | 8 => some [0, 3, 8] | 18 => some [0, 3, 18] | _ => none
def T21 : Tab := { T0 with live := v21, mid := u21 }
noncomputable def c21 : Code := match Try.f21.body with | some c => c | none => .skip
def h22 : Hint := { keep := fun _ => [], keepX := fun _ => [] }
def v22 : Nat → Option (List Nat) := fun r => match r with | 0 => some [0, 1, 5] | 1 => some [] | _ => none
def u22 : Nat → Option (List Nat) := fun r => match r with | 10 => some [1, 6, 10] | 15 => some [13, 15] | _ => none
def T22 : Tab := { T0 with live := v22, mid := u22 }
noncomputable def c22 : Code := match Try.f22.body with | some c => c | none => .skip
def h23 : Hint := { keep := fun _ => [], keepX := fun _ => [] }
def v23 : Nat → Option (List Nat) := fun r => match r with | 0 => some [1, 2, 4] | 1 => some [4] | _ => none
def u23 : Nat → Option (List Nat) := fun r => match r with | 9 => some [4, 8, 9] | _ => none
def T23 : Tab := { T0 with live := v23, mid := u23 }
noncomputable def c23 : Code := match Try.f23.body with | some c => c | none => .skip
def h24 : Hint := { keep := fun b => match b with | 0 => [0, 1] | _ => [], keepX := fun b => match b with | 0 => [0, 1, 4] | _ => [] }
def v24 : Nat → Option (List Nat) := fun r => match r with | 0 => some [0, 1] | 1 => some [0, 1, 15] | 2 => some [4] | 3 => some [0, 1, 17] | 4 => some [0, 1, 5, 6] | 5 => some [0, 1, 5, 27] | 6 => some [] | 7 => some [4] | 8 => some [0, 1, 7] | 9 => some [0, 1, 7, 41] | 10 => some [0, 1] | 11 => some [0, 1, 8] | 12 => some [0, 1, 8] | 13 => some [0, 1] | 14 => some [] | 15 => some [4] | _ => none
def u24 : Nat → Option (List Nat) := fun r => match r with | 5 => some [0, 1, 5, 26] | 13 => some [0, 1, 11, 13] | 23 => some [0, 1, 22, 23] | 32 => some [28, 32] | 38 => some [0, 1, 38] | 46 => some [0, 1, 7, 45, 46] | _ => none
def T24 : Tab := { T0 with live := v24, mid := u24 }
noncomputable def c24 : Code := match Try.f24.body with | some c => c | none => .skip
def h25 : Hint := { keep := fun b => match b with | 0 => [1, 4, 6] | _ => [], keepX := fun b => match b with | 0 => [4, 5, 6] | _ => [] }
def v25 : Nat → Option (List Nat) := fun r => match r with | 0 => some [1, 2, 4] | 1 => some [1, 2, 4, 11] | 2 => some [4, 5] | 3 => some [1, 4, 6] | 4 => some [1, 4, 6, 21] | 5 => some [1, 4, 6, 7] | 6 => some [1, 4, 6, 7, 26] | 7 => some [4, 5] | 8 => some [1, 4, 6, 36] | 9 => some [1, 4, 6] | 10 => some [1, 4, 6, 8] | 11 => some [1, 4, 6, 8] | 12 => some [1, 4, 6] | 13 => some [4, 5] | _ => none
def u25 : Nat → Option (List Nat) := fun r => match r with | 41 => some [1, 4, 6, 38, 39, 41] | 46 => some [1, 4, 6, 45, 46] | _ => none
def T25 : Tab := { T0 with live := v25, mid := u25 }
noncomputable def c25 : Code := match Try.f25.body with | some c => c | none => .skip
def h26 : Hint := { keep := fun _ => [], keepX := fun _ => [] }
def v26 : Nat → Option (List Nat) := fun r => match r with | 0 => some [0] | 1 => some [0, 4] | 2 => some [2] | 3 => some [2] | _ => none
def u26 : Nat → Option (List Nat) := fun r => match r with | 9 => some [9] | _ => none
def T26 : Tab := { T0 with live := v26, mid := u26 }
noncomputable def c26 : Code := match Try.f26.body with | some c => c | none => .skip
def h27 : Hint := { keep := fun b => match b with | 0 => [0, 1, 7, 8, 9] | _ => [], keepX := fun b => match b with | 0 => [4, 5, 6] | _ => [] }
def v27 : Nat → Option (List Nat) := fun r => match r with | 0 => some [0, 1] | 1 => some [0, 1, 7] | 2 => some [0, 1, 7, 8, 9] | 3 => some [0, 1, 7, 8, 9, 10, 11, 12] | 4 => some [0, 1, 7, 8, 9, 10, 11, 26] | 5 => some [4, 5, 6] | 6 => some [0, 1, 7, 8, 9, 10, 11, 37] | 7 => some [0, 7, 8, 9, 13, 14, 15] | 8 => some [0, 7, 8, 9, 14, 15, 16] | 9 => some [0, 7, 9, 14, 16, 56] | 10 => some [0, 7, 9, 14, 16, 58] | 11 => some [0, 7, 9, 16] | 12 => some [0, 1, 7, 8, 9] | 13 => some [4, 5, 6] | 14 => some [0, 7, 8, 9, 10, 11, 12, 17] | 15 => some [0, 7, 8, 9, 10, 11, 17, 80] | 16 => some [4, 5, 6] | 17 => some [0, 7, 8, 9, 10, 11, 17] | 18 => some [0, 7, 8, 9, 10, 11] | 19 => some [0, 1, 7, 8, 9, 10, 11] | 20 => some [0, 1, 7, 8, 9, 11, 88] | 21 => some [7, 9, 11, 90] | 22 => some [7, 9] | 23 => some [4, 5, 6] | _ => none
def u27 : Nat → Option (List Nat) := fun r => match r with | 17 => some [0, 7, 8, 9, 10, 17, 69, 70] | 23 => some [0, 1, 7, 8, 9, 19, 23] | 31 => some [0, 1, 7, 8, 9, 10, 11, 29, 31] | 36 => some [0, 1, 7, 8, 9, 10, 11, 36] | 44 => some [0, 7, 8, 9, 40, 44] | 54 => some [0, 7, 9, 14, 16, 52, 53, 54] | 67 => some [0, 7, 8, 9, 10, 67] | 75 => some [0, 7, 8, 9, 10, 11, 17, 73, 75] | _ => none
def T27 : Tab := { T0 with live := v27, mid := u27 }
noncomputable def c27 : Code := match Try.f27.body with | some c => c | none => .skip
def h28 : Hint := { keep := fun b => match b with | 0 => [0, 1, 7, 8] | _ => [], keepX := fun b => match b with | 0 => [4, 5, 6, 7, 8] | _ => [] }
def v28 : Nat → Option (List Nat) := fun r => match r with | 0 => some [0, 1] | 1 => some [0, 1, 7] | 2 => some [0, 1, 7, 8] | 3 => some [0, 1, 7, 8, 9, 10] | 4 => some [0, 1, 7, 8, 9, 10, 22] | 5 => some [4, 5, 6] | 6 => some [0, 1, 7, 8, 9, 10] | 7 => some [0, 1, 7, 8, 10, 39] | 8 => some [7, 8, 10, 41] | 9 => some [7, 8] | 10 => some [0, 1, 7, 8, 11, 12, 13] | 11 => some [0, 1, 7, 8, 12, 13, 14] | 12 => some [0, 7, 8, 12, 14, 59] | 13 => some [4, 5, 6] | 14 => some [0, 7, 8, 12, 14, 61] | 15 => some [0, 7, 8, 14] | 16 => some [0, 1, 7, 8] | 17 => some [7, 8, 66] | 18 => some [4, 5, 6] | 19 => some [4, 5, 6] | _ => none
def u28 : Nat → Option (List Nat) := fun r => match r with | 19 => some [0, 1, 7, 8, 15, 19] | 30 => some [0, 1, 7, 8, 9, 10, 28, 29, 30] | 35 => some [0, 1, 7, 8, 9, 10, 35] | 47 => some [0, 1, 7, 8, 43, 47] | 57 => some [0, 7, 8, 12, 14, 55, 56, 57] | _ => none
def T28 : Tab := { T0 with live := v28, mid := u28 }
noncomputable def c28 : Code := match Try.f28.body with | some c => c | none => .skip
def h29 : Hint := { keep := fun _ => [], keepX := fun _ => [] }
def v29 : Nat → Option (List Nat) := fun r => match r with | 0 => some [0] | 1 => some [0, 4] | 2 => some [2] | _ => none
def u29 : Nat → Option (List Nat) := fun r => match r with | 9 => some [0, 8, 9] | 14 => some [0, 12, 14] | _ => none
def T29 : Tab := { T0 with live := v29, mid := u29 }
noncomputable def c29 : Code := match Try.f29.body with | some c => c | none => .skip
def h30 : Hint := { keep := fun _ => [], keepX := fun _ => [] }
def v30 : Nat → Option (List Nat) := fun r => match r with | 0 => some [0] | 1 => some [0] | 2 => some [2] | _ => none
def u30 : Nat → Option (List Nat) := fun _ => none
def T30 : Tab := { T0 with live := v30, mid := u30 }
noncomputable def c30 : Code := match Try.f30.body with | some c => c | none => .skip
def h31 : Hint := { keep := fun _ => [], keepX := fun _ => [] }
def v31 : Nat → Option (List Nat) := fun r => match r with | 0 => some [0, 1] | 1 => some [0, 1, 12] | 2 => some [4] | 3 => some [] | 4 => some [4] | _ => none
def u31 : Nat → Option (List Nat) := fun r => match r with | 9 => some [0, 1, 7, 8, 9] | _ => none
def T31 : Tab := { T0 with live := v31, mid := u31 }
noncomputable def c31 : Code := match Try.f31.body with | some c => c | none => .skip
def h32 : Hint := { keep := fun b => match b with | 0 => [0, 1, 3, 13, 14, 39, 40, 41] | _ => [], keepX := fun b => match b with | 0 => [1, 3, 8, 9, 13, 14] | _ => [] }
def v32 : Nat → Option (List Nat) := fun r => match r with | 0 => some [0, 1, 2, 3] | 1 => some [0, 1, 2, 3, 12] | 2 => some [0, 1, 2, 3, 12, 33] | 3 => some [8, 9] | 4 => some [0, 1, 3, 13] | 5 => some [0, 1, 3, 13, 14] | 6 => some [0, 1, 3, 13, 14, 39, 40, 41] | 7 => some [0, 1, 3, 13, 14, 39, 40, 41, 42] | 8 => some [0, 1, 3, 13, 14, 16, 39, 40, 41] | 9 => some [0, 1, 3, 13, 14, 16, 17, 39, 40, 41] | 10 => some [0, 1, 3, 13, 14, 16, 17, 39, 40, 41, 51] | 11 => some [0, 1, 3, 13, 14, 16, 17, 39, 40, 41] | 12 => some [0, 1, 3, 13, 14, 17, 39, 40, 41, 56] | 13 => some [0, 3, 13, 14, 18, 19, 20, 39, 40, 41] | 14 => some [0, 3, 13, 14, 18, 19, 39, 40, 41, 70] | 15 => some [8, 9] | 16 => some [0, 1, 3, 13, 14, 39, 40, 41] | 17 => some [0, 3, 13, 14, 21, 22, 23, 39, 40, 41] | 18 => some [0, 3, 13, 14, 21, 22, 39, 40, 41, 89] | 19 => some [8, 9] | 20 => some [0, 1, 3, 13, 14, 39, 40, 41] | 21 => some [0, 1, 3, 13, 14, 39, 40, 41] | 22 => some [14, 103] | 23 => some [8, 9] | 24 => some [8, 9] | _ => none
def u32 : Nat → Option (List Nat) := fun r => match r with | 11 => some [0, 1, 2, 3, 31] | 22 => some [0, 3, 13, 14, 21, 22, 39, 40, 41, 82] | 24 => some [0, 1, 2, 3, 24] | 50 => some [0, 1, 3, 13, 14, 16, 17, 39, 40, 41, 48, 50] | 61 => some [0, 3, 13, 14, 39, 40, 41, 57, 61] | 68 => some [0, 3, 13, 14, 18, 19, 39, 40, 41, 66, 67, 68] | 75 => some [0, 3, 13, 14, 39, 40, 41, 75] | 87 => some [0, 3, 13, 14, 21, 22, 39, 40, 41, 85, 86, 87] | 99 => some [14, 98, 99] | _ => none
def T32 : Tab := { T0 with live := v32, mid := u32 }
noncomputable def c32 : Code := match Try.f32.body with | some c => c | none => .skip
def h33 : Hint := { keep := fun _ => [], keepX := fun _ => [] }
def v33 : Nat → Option (List Nat) := fun r => match r with | 0 => some [0, 1, 2, 3] | 1 => some [0, 1, 2, 3, 10, 11, 12] | 2 => some [0, 1, 2, 3, 10, 11, 26] | 3 => some [8, 9] | 4 => some [0, 1, 2, 3, 10, 11, 13] | 5 => some [0, 1, 2, 3, 10, 11, 13, 14] | 6 => some [0, 1, 2, 3, 10, 11, 13, 14, 29] | 7 => some [0, 1, 2, 3, 10, 11, 13, 14, 29, 30] | 8 => some [0, 1, 2, 3, 10, 11, 13, 14, 29, 30] | 9 => some [0, 1, 2, 3, 10, 11, 13, 14, 29, 30] | 10 => some [3, 11, 13, 14] | 11 => some [0, 1, 2, 3, 10, 11, 13, 14, 29, 41] | 12 => some [0, 1, 3, 10, 11, 44] | 13 => some [8, 9] | 14 => some [3, 10, 11, 13, 14] | 15 => some [3, 11, 13, 14] | 16 => some [0, 1, 3, 11, 13, 14, 57] | 17 => some [0, 3, 11, 14, 15, 16] | 18 => some [0, 3, 11, 14, 15, 16, 78] | 19 => some [8, 9] | 20 => some [3, 11, 13, 14] | 21 => some [13, 93] | 22 => some [8, 9] | 23 => some [8, 9] | _ => none
def u33 : Nat → Option (List Nat) := fun r => match r with | 11 => some [0, 1, 2, 3, 10, 11, 24] | 17 => some [0, 1, 2, 3, 17] | 34 => some [3, 11, 34] | 50 => some [3, 10, 11, 50] | 59 => some [0, 3, 11, 14, 59] | 70 => some [0, 3, 11, 14, 15, 16, 68, 69, 70] | 75 => some [0, 3, 11, 14, 15, 16, 73, 74, 75] | 83 => some [3, 11, 14, 79, 83] | 89 => some [13, 88, 89] | _ => none
def T33 : Tab := { T0 with live := v33, mid := u33 }
noncomputable def c33 : Code := match Try.f33.body with | some c => c | none => .skip
def h34 : Hint := { keep := fun _ => [], keepX := fun _ => [] }
def v34 : Nat → Option (List Nat) := fun r => match r with | 0 => some [0, 1] | 1 => some [0, 1, 6, 7] | 2 => some [0, 6, 14] | 3 => some [4, 5] | 4 => some [0, 6, 23] | 5 => some [4, 5] | 6 => some [6, 37] | 7 => some [4, 5] | 8 => some [4, 5] | _ => none
def u34 : Nat → Option (List Nat) := fun r => match r with | 12 => some [0, 1, 8, 12] | 19 => some [0, 6, 17, 18, 19] | 28 => some [0, 6, 26, 28] | 33 => some [0, 6, 33] | _ => none
def T34 : Tab := { T0 with live := v34, mid := u34 }
noncomputable def c34 : Code := match Try.f34.body with | some c => c | none => .skip
def h35 : Hint := { keep := fun _ => [], keepX := fun _ => [] }
def v35 : Nat → Option (List Nat) := fun r => match r with | 0 => some [0, 1] | 1 => some [0, 1, 9] | 2 => some [4, 5] | 3 => some [1, 10] | 4 => some [1, 10, 11] | 5 => some [1, 10, 11] | 6 => some [1, 10, 11] | 7 => some [4, 5] | 8 => some [1, 16] | 9 => some [4, 5] | 10 => some [4, 5] | _ => none
def u35 : Nat → Option (List Nat) := fun _ => none
def T35 : Tab := { T0 with live := v35, mid := u35 }
noncomputable def c35 : Code := match Try.f35.body with | some c => c | none => .skip
def h36 : Hint := { keep := fun _ => [], keepX := fun _ => [] }
def v36 : Nat → Option (List Nat) := fun r => match r with | 0 => some [0, 1] | 1 => some [1, 6] | 2 => some [4] | _ => none
def u36 : Nat → Option (List Nat) := fun r => match r with | 11 => some [1, 7, 11] | 17 => some [14, 17] | _ => none
def T36 : Tab := { T0 with live := v36, mid := u36 }
noncomputable def c36 : Code := match Try.f36.body with | some c => c | none => .skip
def h37 : Hint := { keep := fun _ => [], keepX := fun _ => [] }
def v37 : Nat → Option (List Nat) := fun r => match r with | 0 => some [0, 1] | 1 => some [0, 1, 9] | 2 => some [4] | 3 => some [1, 10] | 4 => some [1, 10, 11] | 5 => some [4] | 6 => some [1, 10, 16] | 7 => some [4] | 8 => some [1, 10, 21] | 9 => some [1, 10, 21] | 10 => some [1, 10, 21] | 11 => some [4] | 12 => some [1, 10, 27] | 13 => some [4] | 14 => some [1, 10, 37] | 15 => some [1, 5] | 16 => some [1, 5, 6] | 17 => some [4] | 18 => some [1, 60] | 19 => some [4] | 20 => some [4] | _ => none
def u37 : Nat → Option (List Nat) := fun r => match r with | 33 => some [32, 33] | 49 => some [1, 5, 6, 47, 49] | 54 => some [6, 51, 53, 54] | 59 => some [59] | _ => none
def T37 : Tab := { T0 with live := v37, mid := u37 }
noncomputable def c37 : Code := match Try.f37.body with | some c => c | none => .skip
def h38 : Hint := { keep := fun b => match b with | 0 => [0, 3] | _ => [], keepX := fun b => match b with | 0 => [0, 2] | _ => [] }
def v38 : Nat → Option (List Nat) := fun r => match r with | 0 => some [0] | 1 => some [0, 3] | 2 => some [0, 3, 11] | 3 => some [0, 3] | 4 => some [0, 3, 19] | 5 => some [2] | 6 => some [2] | _ => none
def u38 : Nat → Option (List Nat) := fun r => match r with | 8 => some [0, 3, 8] | 18 => some [0, 3, 18] | _ => none
def T38 : Tab := { T0 with live := v38, mid := u38 }
noncomputable def c38 : Code := match Try.f38.body with | some c => c | none => .skip
def h39 : Hint := { keep := fun b => match b with | 0 => [1, 6, 11, 12, 13] | _ => [], keepX := fun b => match b with | 0 => [1, 4, 5, 6] | _ => [] }
def v39 : Nat → Option (List Nat) := fun r => match r with | 0 => some [0, 1] | 1 => some [0, 1, 6] | 2 => some [1, 6, 11, 12, 13] | 3 => some [1, 6, 11, 12, 13, 14] | 4 => some [1, 6, 8, 11, 12, 13] | 5 => some [1, 6, 8, 9, 11, 12, 13] | 6 => some [1, 6, 8, 9, 11, 12, 13, 18] | 7 => some [1, 6, 8, 9, 11, 12, 13] | 8 => some [1, 6, 8, 9, 11, 12, 13, 23] | 9 => some [1, 6, 8, 9, 11, 12, 13] | 10 => some [1, 6, 9, 11, 12, 13, 51] | 11 => some [4, 5] | 12 => some [1, 6, 9, 11, 12, 13] | 13 => some [1, 6, 11, 12, 13] | 14 => some [1, 6, 11, 12, 13] | 15 => some [4, 5] | _ => none
def u39 : Nat → Option (List Nat) := fun r => match r with | 28 => some [1, 6, 8, 9, 11, 12, 13, 26, 28] | 33 => some [1, 6, 8, 9, 11, 12, 13, 33] | 40 => some [1, 6, 8, 9, 11, 12, 13, 38, 39, 40] | 45 => some [1, 6, 9, 11, 12, 13, 44, 45] | 50 => some [1, 6, 9, 11, 12, 13, 44, 50] | 56 => some [1, 9, 11, 12, 13, 52, 56] | _ => none
def T39 : Tab := { T0 with live := v39, mid := u39 }
noncomputable def c39 : Code := match Try.f39.body with | some c => c | none => .skip
def h40 : Hint := { keep := fun _ => [], keepX := fun _ => [] }
def v40 : Nat → Option (List Nat) := fun r => match r with | 0 => some [0] | 1 => some [3, 4] | 2 => some [3, 12] | 3 => some [2] | 4 => some [2] | _ => none
def u40 : Nat → Option (List Nat) := fun r => match r with | 9 => some [5, 9] | _ => none
def T40 : Tab := { T0 with live := v40, mid := u40 }
noncomputable def c40 : Code := match Try.f40.body with | some c => c | none => .skip
def h41 : Hint := { keep := fun b => match b with | 0 => [0, 3] | _ => [], keepX := fun b => match b with | 0 => [2] | _ => [] }
def v41 : Nat → Option (List Nat) := fun r => match r with | 0 => some [0] | 1 => some [0, 3] | 2 => some [0, 3, 11] | 3 => some [0, 3] | 4 => some [0, 3, 17] | 5 => some [2] | 6 => some [2] | _ => none
def u41 : Nat → Option (List Nat) := fun r => match r with | 8 => some [0, 3, 8] | _ => none
def T41 : Tab := { T0 with live := v41, mid := u41 }
noncomputable def c41 : Code := match Try.f41.body with | some c => c | none => .skip
def h42 : Hint := { keep := fun _ => [], keepX := fun _ => [] }
def v42 : Nat → Option (List Nat) := fun r => match r with | 0 => some [0] | 1 => some [2] | _ => none
def u42 : Nat → Option (List Nat) := fun _ => none
def T42 : Tab := { T0 with live := v42, mid := u42 }
noncomputable def c42 : Code := match Try.f42.body with | some c => c | none => .skip
def h43 : Hint := { keep := fun _ => [], keepX := fun _ => [] }
def v43 : Nat → Option (List Nat) := fun r => match r with | 0 => some [0] | 1 => some [0, 4] | 2 => some [2] | _ => none
def u43 : Nat → Option (List Nat) := fun r => match r with | 9 => some [0, 8, 9] | 14 => some [0, 12, 14] | _ => none
def T43 : Tab := { T0 with live := v43, mid := u43 }
noncomputable def c43 : Code := match Try.f43.body with | some c => c | none => .skip
def h44 : Hint := { keep := fun b => match b with | 0 => [1, 2, 5] | _ => [], keepX := fun b => match b with | 0 => [4] | _ => [] }
def v44 : Nat → Option (List Nat) := fun r => match r with | 0 => some [1, 2] | 1 => some [1, 2, 5] | 2 => some [1, 2, 5, 10] | 3 => some [1, 2, 5] | 4 => some [1, 2, 5, 20] | 5 => some [4] | 6 => some [4] | _ => none
def u44 : Nat → Option (List Nat) := fun r => match r with | 17 => some [1, 2, 5, 17] | 25 => some [25] | _ => none
def T44 : Tab := { T0 with live := v44, mid := u44 }
noncomputable def c44 : Code := match Try.f44.body with | some c => c | none => .skip
def h45 : Hint := { keep := fun _ => [], keepX := fun _ => [] }
def v45 : Nat → Option (List Nat) := fun r => match r with | 0 => some [0] | 1 => some [2] | _ => none
def u45 : Nat → Option (List Nat) := fun r => match r with | 7 => some [5, 7] | _ => none
def T45 : Tab := { T0 with live := v45, mid := u45 }
noncomputable def c45 : Code := match Try.f45.body with | some c => c | none => .skip
def h46 : Hint := { keep := fun _ => [], keepX := fun _ => [] }
def v46 : Nat → Option (List Nat) := fun r => match r with | 0 => some [0, 1] | 1 => some [4, 5, 6] | _ => none
def u46 : Nat → Option (List Nat) := fun r => match r with | 11 => some [9, 10, 11] | _ => none
def T46 : Tab := { T0 with live := v46, mid := u46 }
noncomputable def c46 : Code := match Try.f46.body with | some c => c | none => .skip
def h47 : Hint := { keep := fun _ => [], keepX := fun _ => [] }
def v47 : Nat → Option (List Nat) := fun r => match r with | 0 => some [0, 1] | 1 => some [4, 5, 6] | _ => none
def u47 : Nat → Option (List Nat) := fun r => match r with | 11 => some [9, 10, 11] | _ => none
def T47 : Tab := { T0 with live := v47, mid := u47 }
noncomputable def c47 : Code := match Try.f47.body with | some c => c | none => .skip
def h48 : Hint := { keep := fun _ => [], keepX := fun _ => [] }
def v48 : Nat → Option (List Nat) := fun r => match r with | 0 => some [0, 1, 2] | 1 => some [0, 1, 2, 28] | 2 => some [6, 7, 8] | 3 => some [6, 7, 8] | _ => none
def u48 : Nat → Option (List Nat) := fun r => match r with | 13 => some [0, 1, 2, 11, 13] | 18 => some [0, 1, 2, 15, 16, 18] | 23 => some [0, 1, 2, 21, 22, 23] | 33 => some [1, 2, 29, 30, 33] | _ => none
def T48 : Tab := { T0 with live := v48, mid := u48 }
noncomputable def c48 : Code := match Try.f48.body with | some c => c | none => .skip
def h49 : Hint := { keep := fun _ => [], keepX := fun _ => [] }
def v49 : Nat → Option (List Nat) := fun r => match r with | 0 => some [0] | 1 => some [2] | _ => none
def u49 : Nat → Option (List Nat) := fun r => match r with | 7 => some [7] | _ => none
def T49 : Tab := { T0 with live := v49, mid := u49 }
noncomputable def c49 : Code := match Try.f49.body with | some c => c | none => .skip
def h50 : Hint := { keep := fun _ => [], keepX := fun _ => [] }
def v50 : Nat → Option (List Nat) := fun r => match r with | 0 => some [0, 1] | 1 => some [0, 1] | 2 => some [] | 3 => some [4] | _ => none
def u50 : Nat → Option (List Nat) := fun r => match r with | 11 => some [1, 7, 11] | 16 => some [14, 16] | _ => none
def T50 : Tab := { T0 with live := v50, mid := u50 }
noncomputable def c50 : Code := match Try.f50.body with | some c => c | none => .skip
def h51 : Hint := { keep := fun _ => [], keepX := fun _ => [] }
def v51 : Nat → Option (List Nat) := fun r => match r with | 0 => some [0, 1] | 1 => some [0, 1] | 2 => some [1] | 3 => some [4, 5] | _ => none
def u51 : Nat → Option (List Nat) := fun r => match r with | 12 => some [1, 8, 12] | _ => none
def T51 : Tab := { T0 with live := v51, mid := u51 }
noncomputable def c51 : Code := match Try.f51.body with | some c => c | none => .skip
def h52 : Hint := { keep := fun b => match b with | 0 => [3, 8, 9, 10] | _ => [], keepX := fun b => match b with | 0 => [3] | _ => [] }
def v52 : Nat → Option (List Nat) := fun r => match r with | 0 => some [0] | 1 => some [3] | 2 => some [3, 8, 9, 10] | 3 => some [3, 8, 9, 10, 11] | 4 => some [3, 4, 5, 8, 9, 10] | 5 => some [3, 4, 5, 8, 9, 10, 20] | 6 => some [3, 8, 9, 10] | 7 => some [3, 8, 9, 10] | 8 => some [2] | _ => none
def u52 : Nat → Option (List Nat) := fun r => match r with | 19 => some [3, 4, 5, 8, 9, 10, 17, 19] | 25 => some [3, 8, 9, 10, 24, 25] | _ => none
def T52 : Tab := { T0 with live := v52, mid := u52 }
noncomputable def c52 : Code := match Try.f52.body with | some c => c | none => .skip
def h53 : Hint := { keep := fun _ => [], keepX := fun _ => [] }
def v53 : Nat → Option (List Nat) := fun r => match r with | 0 => some [0] | 1 => some [2] | _ => none
def u53 : Nat → Option (List Nat) := fun _ => none
def T53 : Tab := { T0 with live := v53, mid := u53 }
noncomputable def c53 : Code := match Try.f53.body with | some c => c | none => .skip
def h54 : Hint := { keep := fun b => match b with | 0 => [0, 1, 6] | _ => [], keepX := fun b => match b with | 0 => [4, 5] | _ => [] }
def v54 : Nat → Option (List Nat) := fun r => match r with | 0 => some [0, 1] | 1 => some [0, 1, 6] | 2 => some [0, 1, 6, 16] | 3 => some [0, 1, 6, 7] | 4 => some [0, 1, 6, 7, 22] | 5 => some [4, 5] | 6 => some [0, 1, 6, 7, 29] | 7 => some [4, 5] | 8 => some [0, 1, 6, 7, 31] | 9 => some [4, 5] | 10 => some [0, 1, 6] | 11 => some [4, 5] | _ => none
def u54 : Nat → Option (List Nat) := fun r => match r with | 13 => some [0, 1, 6, 11, 12, 13] | 27 => some [26, 27] | 36 => some [1, 36] | _ => none
def T54 : Tab := { T0 with live := v54, mid := u54 }
noncomputable def c54 : Code := match Try.f54.body with | some c => c | none => .skip
def h55 : Hint := { keep := fun b => match b with | 0 => [0, 3] | _ => [], keepX := fun b => match b with | 0 => [2] | _ => [] }
def v55 : Nat → Option (List Nat) := fun r => match r with | 0 => some [0] | 1 => some [0, 3] | 2 => some [0, 3, 7] | 3 => some [0, 3, 11] | 4 => some [2] | 5 => some [0, 3] | 6 => some [2] | _ => none
def u55 : Nat → Option (List Nat) := fun r => match r with | 16 => some [16] | 21 => some [0, 18, 21] | _ => none
def T55 : Tab := { T0 with live := v55, mid := u55 }
noncomputable def c55 : Code := match Try.f55.body with | some c => c | none => .skip
def h56 : Hint := { keep := fun _ => [], keepX := fun _ => [] }
def v56 : Nat → Option (List Nat) := fun r => match r with | 0 => some [0, 1] | 1 => some [0, 1, 10] | 2 => some [4, 5, 6] | 3 => some [4, 5, 6] | _ => none
def u56 : Nat → Option (List Nat) := fun _ => none
def T56 : Tab := { T0 with live := v56, mid := u56 }
noncomputable def c56 : Code := match Try.f56.body with | some c => c | none => .skip
def h57 : Hint := { keep := fun b => match b with | 0 => [0, 3, 4] | _ => [], keepX := fun b => match b with | 0 => [3] | _ => [] }
def v57 : Nat → Option (List Nat) := fun r => match r with | 0 => some [0] | 1 => some [0, 3] | 2 => some [0, 3, 4] | 3 => some [0, 3, 4, 8] | 4 => some [0, 3, 4] | 5 => some [0, 3, 4] | 6 => some [2] | _ => none
def u57 : Nat → Option (List Nat) := fun r => match r with | 15 => some [0, 4, 11, 15] | _ => none
def T57 : Tab := { T0 with live := v57, mid := u57 }
noncomputable def c57 : Code := match Try.f57.body with | some c => c | none => .skip
def h58 : Hint := { keep := fun _ => [], keepX := fun _ => [] }
def v58 : Nat → Option (List Nat) := fun r => match r with | 0 => some [0] | 1 => some [0, 4] | 2 => some [0, 4, 5] | 3 => some [0, 4, 5] | 8 => some [0, 4, 18] | 9 => some [2, 3] | 10 => some [4, 21] | 11 => some [2, 3] | 12 => some [2, 3] | _ => none
def u58 : Nat → Option (List Nat) := fun _ => none
def T58 : Tab := { T0 with live := v58, mid := u58 }
noncomputable def c58 : Code := match Try.f58.body with | some c => c | none => .skip
def h59 : Hint := { keep := fun b => match b with | 0 => [0, 1, 2, 9, 10] | _ => [], keepX := fun b => match b with | 0 => [1, 2, 9] | _ => [] }
def v59 : Nat → Option (List Nat) := fun r => match r with | 0 => some [0, 1, 2] | 1 => some [0, 1, 2, 15] | 2 => some [6, 7, 8] | 3 => some [0, 1, 2, 9] | 4 => some [0, 1, 2, 9, 10] | 5 => some [0, 1, 2, 9, 10, 18] | 6 => some [0, 1, 2, 9, 10] | 7 => some [0, 1, 2, 9, 10] | 8 => some [6, 7, 8] | _ => none
def u59 : Nat → Option (List Nat) := fun r => match r with | 25 => some [0, 1, 2, 10, 21, 22, 25] | 33 => some [30, 33] | _ => none
def T59 : Tab := { T0 with live := v59, mid := u59 }
noncomputable def c59 : Code := match Try.f59.body with | some c => c | none => .skip
def h60 : Hint := { keep := fun b => match b with | 0 => [0, 1, 2, 3, 10, 11] | _ => [], keepX := fun b => match b with | 0 => [1, 8, 9, 10] | _ => [] }
def v60 : Nat → Option (List Nat) := fun r => match r with | 0 => some [0, 1, 2, 3] | 1 => some [0, 1, 2, 3, 10] | 2 => some [0, 1, 2, 3, 10, 11] | 3 => some [0, 1, 2, 3, 10, 11, 17] | 4 => some [0, 1, 2, 3, 10, 11] | 5 => some [0, 2, 3, 10, 11, 12, 13, 14] | 6 => some [0, 2, 3, 10, 11, 12, 13, 33] | 7 => some [8, 9] | 8 => some [0, 2, 3, 10, 11, 13] | 9 => some [0, 1, 2, 3, 10, 11] | 10 => some [8, 9] | _ => none
def u60 : Nat → Option (List Nat) := fun r => match r with | 24 => some [0, 2, 3, 10, 11, 20, 24] | 31 => some [0, 2, 3, 10, 11, 12, 13, 29, 30, 31] | _ => none
def T60 : Tab := { T0 with live := v60, mid := u60 }
noncomputable def c60 : Code := match Try.f60.body with | some c => c | none => .skip
def h61 : Hint := { keep := fun b => match b with | 0 => [0] | _ => [], keepX := fun b => match b with | 0 => [2] | _ => [] }
def v61 : Nat → Option (List Nat) := fun r => match r with | 0 => some [0] | 1 => some [0, 5] | 2 => some [2] | 3 => some [0, 7] | 4 => some [0, 3] | 5 => some [0, 3, 15] | 6 => some [2] | 7 => some [0] | 8 => some [2] | _ => none
def u61 : Nat → Option (List Nat) := fun _ => none
def T61 : Tab := { T0 with live := v61, mid := u61 }
noncomputable def c61 : Code := match Try.f61.body with | some c => c | none => .skip
def h62 : Hint := { keep := fun b => match b with | 0 => [0, 3] | _ => [], keepX := fun b => match b with | 0 => [0, 3] | _ => [] }
def v62 : Nat → Option (List Nat) := fun r => match r with | 0 => some [0] | 1 => some [0, 3] | 2 => some [0, 3, 13] | 3 => some [0, 3] | 4 => some [3, 32] | 5 => some [2] | 6 => some [2] | _ => none
def u62 : Nat → Option (List Nat) := fun r => match r with | 8 => some [0, 3, 8] | 18 => some [0, 14, 18] | 25 => some [0, 3, 25] | 30 => some [3, 25, 30] | _ => none
def T62 : Tab := { T0 with live := v62, mid := u62 }
noncomputable def c62 : Code := match Try.f62.body with | some c => c | none => .skip
def h63 : Hint := { keep := fun b => match b with | 0 => [0, 3] | _ => [], keepX := fun b => match b with | 0 => [0, 3] | _ => [] }
def v63 : Nat → Option (List Nat) := fun r => match r with | 0 => some [0] | 1 => some [0, 3] | 2 => some [0, 3, 7] | 3 => some [0, 3] | 4 => some [2] | _ => none
def u63 : Nat → Option (List Nat) := fun r => match r with | 12 => some [0, 8, 12] | 19 => some [17, 18, 19] | _ => none
def T63 : Tab := { T0 with live := v63, mid := u63 }
noncomputable def c63 : Code := match Try.f63.body with | some c => c | none => .skip
def h64 : Hint := { keep := fun _ => [], keepX := fun _ => [] }
def v64 : Nat → Option (List Nat) := fun r => match r with | 0 => some [] | 1 => some [0] | _ => none
def u64 : Nat → Option (List Nat) := fun r => match r with | 6 => some [1, 6] | _ => none
def T64 : Tab := { T0 with live := v64, mid := u64 }
noncomputable def c64 : Code := match Try.f64.body with | some c => c | none => .skip
def h65 : Hint := { keep := fun b => match b with | 0 => [0, 1, 5, 9, 10] | _ => [], keepX := fun b => match b with | 0 => [5] | _ => [] }
def v65 : Nat → Option (List Nat) := fun r => match r with | 0 => some [0, 1] | 1 => some [0, 1, 5] | 2 => some [0, 1, 5, 9, 10] | 3 => some [0, 1, 5, 9, 10, 11] | 4 => some [0, 1, 5, 6, 9, 10] | 5 => some [0, 1, 5, 9, 10] | 6 => some [0, 1, 5, 9, 10] | 7 => some [4] | _ => none
def u65 : Nat → Option (List Nat) := fun r => match r with | 17 => some [0, 1, 5, 6, 9, 10, 13, 17] | 22 => some [0, 1, 5, 9, 10, 13, 17, 22] | _ => none
def T65 : Tab := { T0 with live := v65, mid := u65 }
noncomputable def c65 : Code := match Try.f65.body with | some c => c | none => .skip
def h66 : Hint := { keep := fun b => match b with | 0 => [0, 4, 5] | _ => [], keepX := fun b => match b with | 0 => [0, 2, 3, 4, 5] | _ => [] }
def v66 : Nat → Option (List Nat) := fun r => match r with | 0 => some [0] | 1 => some [0, 4] | 2 => some [0, 4, 5] | 3 => some [0, 4, 5, 16] | 4 => some [0, 4, 5, 6] | 5 => some [0, 4, 5, 6, 31] | 6 => some [2, 3] | 7 => some [0, 4, 5, 6] | 8 => some [0, 4, 5] | 9 => some [0, 4, 51] | 10 => some [2, 3] | 11 => some [4, 54] | 12 => some [2, 3] | 13 => some [2, 3] | _ => none
def u66 : Nat → Option (List Nat) := fun r => match r with | 11 => some [0, 4, 5, 11] | 25 => some [0, 4, 5, 6, 23, 25] | 30 => some [0, 4, 5, 6, 23, 30] | 36 => some [0, 5, 6, 32, 33, 35, 36] | 41 => some [0, 5, 6, 32, 41] | _ => none
def T66 : Tab := { T0 with live := v66, mid := u66 }
noncomputable def c66 : Code := match Try.f66.body with | some c => c | none => .skip
def h67 : Hint := { keep := fun b => match b with | 0 => [9, 10, 11, 12, 23, 24] | _ => [], keepX := fun b => match b with | 0 => [10, 11, 12] | _ => [] }
def v67 : Nat → Option (List Nat) := fun r => match r with | 0 => some [0, 1, 2] | 1 => some [9, 10, 11] | 2 => some [9, 10, 11, 12] | 3 => some [9, 10, 11, 12, 23, 24] | 4 => some [9, 10, 11, 12, 23, 24, 25] | 5 => some [9, 10, 11, 12, 13, 23, 24] | 6 => some [9, 10, 11, 12, 23, 24] | 7 => some [9, 10, 11, 12, 23, 24] | 8 => some [6, 7, 8] | _ => none
def u67 : Nat → Option (List Nat) := fun r => match r with | 10 => some [9, 10, 21] | 14 => some [14] | 31 => some [9, 10, 11, 23, 24, 28, 31] | _ => none
def T67 : Tab := { T0 with live := v67, mid := u67 }
noncomputable def c67 : Code := match Try.f67.body with | some c => c | none => .skip
def h68 : Hint := { keep := fun b => match b with | 0 => [9, 10, 11, 12, 23, 24] | _ => [], keepX := fun b => match b with | 0 => [10, 11, 12] | _ => [] }
def v68 : Nat → Option (List Nat) := fun r => match r with | 0 => some [0, 1, 2] | 1 => some [9, 10, 11] | 2 => some [9, 10, 11, 12] | 3 => some [9, 10, 11, 12, 23, 24] | 4 => some [9, 10, 11, 12, 23, 24, 25] | 5 => some [9, 10, 11, 12, 13, 23, 24] | 6 => some [9, 10, 11, 12, 23, 24] | 7 => some [9, 10, 11, 12, 23, 24] | 8 => some [6, 7, 8] | _ => none
def u68 : Nat → Option (List Nat) := fun r => match r with | 10 => some [9, 10, 21] | 14 => some [14] | 31 => some [9, 10, 11, 23, 24, 28, 31] | _ => none
def T68 : Tab := { T0 with live := v68, mid := u68 }
noncomputable def c68 : Code := match Try.f68.body with | some c => c | none => .skip
def h69 : Hint := { keep := fun _ => [], keepX := fun _ => [] }
def v69 : Nat → Option (List Nat) := fun r => match r with | 0 => some [0, 6] | 1 => some [] | 2 => some [19] | _ => none
def u69 : Nat → Option (List Nat) := fun r => match r with | 11 => some [7, 11] | 18 => some [17, 18] | _ => none
def T69 : Tab := { T0 with live := v69, mid := u69 }
noncomputable def c69 : Code := match Try.f69.body with | some c => c | none => .skip
def h70 : Hint := { keep := fun _ => [], keepX := fun _ => [] }
def v70 : Nat → Option (List Nat) := fun r => match r with | 0 => some [0, 1, 2] | 1 => some [6] | _ => none
def u70 : Nat → Option (List Nat) := fun r => match r with | 11 => some [0, 1, 2, 9, 10, 11] | 16 => some [0, 1, 2, 15, 16] | 21 => some [0, 1, 2, 19, 20, 21] | 26 => some [0, 2, 25, 26] | 31 => some [25, 31] | _ => none
def T70 : Tab := { T0 with live := v70, mid := u70 }
noncomputable def c70 : Code := match Try.f70.body with | some c => c | none => .skip
def h71 : Hint := { keep := fun _ => [], keepX := fun _ => [] }
def v71 : Nat → Option (List Nat) := fun r => match r with | 0 => some [0] | 1 => some [0, 8] | 2 => some [2] | 3 => some [2] | _ => none
def u71 : Nat → Option (List Nat) := fun r => match r with | 7 => some [0, 5, 7] | _ => none
def T71 : Tab := { T0 with live := v71, mid := u71 }
noncomputable def c71 : Code := match Try.f71.body with | some c => c | none => .skip
def h72 : Hint := { keep := fun _ => [], keepX := fun _ => [] }
def v72 : Nat → Option (List Nat) := fun r => match r with | 0 => some [1] | 1 => some [2] | _ => none
def u72 : Nat → Option (List Nat) := fun _ => none
def T72 : Tab := { T0 with live := v72, mid := u72 }
noncomputable def c72 : Code := match Try.f72.body with | some c => c | none => .skip
def h73 : Hint := { keep := fun _ => [], keepX := fun _ => [] }
def h74 : Hint := { keep := fun b => match b with | 0 => [0, 1] | _ => [], keepX := fun b => match b with | 0 => [] | _ => [] }
def v74 : Nat → Option (List Nat) := fun r => match r with | 0 => some [0, 1, 23] | 1 => some [0, 1, 3] | 2 => some [0, 1, 3, 36] | 3 => some [0, 1] | _ => none
def u74 : Nat → Option (List Nat) := fun _ => none
def T74 : Tab := { T0 with live := v74, mid := u74 }
noncomputable def c74 : Code := match Try.f74.body with | some c => c | none => .skip
end Go.Proofs.YtfepkpindchleaaE
