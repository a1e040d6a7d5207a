/- The seat's table of types, and of each function the slots that live at its loops. Printed by seat.py out of the translation. -/
import Derived.Test.YtgiofacmcpakoaaE25
import Derived.Test.YtgiofacmcpakoaaE27
import Derived.Test.YtgiofacmcpakoaaProg
namespace Go.Proofs.YtgiofacmcpakoaaE
open Go
def rows : List (Nat × Row) := [
  (3, { desc := .int .i64, size := 1, bytes := 8, zero := [.int .i64 0], cty := [none], ty := some (.int .i64) }),
  (4, { desc := .bool, size := 1, bytes := 1, zero := [.bool false], cty := [none], ty := some (.bool) }),
  (5, { desc := .int .u8, size := 1, bytes := 1, zero := [.int .u8 0], cty := [none], ty := some (.int .u8) }),
  (9, { desc := .str, size := 1, bytes := 16, zero := [.str []], cty := [none], ty := some (.str) }),
  (22, { desc := .int .u64, size := 1, bytes := 8, zero := [.int .u64 0], cty := [none], ty := some (.int .u64) }),
  (23, { desc := .int .u32, size := 1, bytes := 4, zero := [.int .u32 0], cty := [none], ty := some (.int .u32) }),
  (33, { desc := .slice 37, size := 1, bytes := 24, zero := [.ns], cty := [some ((.pair .str (.pair (.int .u16) (.pair (.int .u16) (.pair (.int .u32) .str)))))], ty := some ((.list (.pair .str (.pair (.int .u16) (.pair (.int .u16) (.pair (.int .u32) .str)))))) }),
  (35, { desc := .int .u16, size := 1, bytes := 2, zero := [.int .u16 0], cty := [none], ty := some (.int .u16) }),
  (37, { desc := .struct [(0, 9), (1, 35), (2, 35), (3, 23), (4, 9)], size := 5, bytes := 40, zero := [.str [], .int .u16 0, .int .u16 0, .int .u32 0, .str []], cty := [none, none, none, none, none], ty := some ((.pair .str (.pair (.int .u16) (.pair (.int .u16) (.pair (.int .u32) .str))))) }),
  (41, { desc := .slice 51, size := 1, bytes := 24, zero := [.ns], cty := [some ((.pair (.pair (.int .u32) (.int .u16)) (.pair (.pair (.int .u32) (.int .u16)) .str)))], ty := some ((.list (.pair (.pair (.int .u32) (.int .u16)) (.pair (.pair (.int .u32) (.int .u16)) .str)))) }),
  (42, { desc := .slice 4, size := 1, bytes := 24, zero := [.ns], cty := [some (.bool)], ty := some ((.list .bool)) }),
  (43, { desc := .ptr 80, size := 1, bytes := 8, zero := [.np], cty := [none], ty := none }),
  (47, { desc := .struct [(0, 23), (1, 35)], size := 2, bytes := 8, zero := [.int .u32 0, .int .u16 0], cty := [none, none], ty := some ((.pair (.int .u32) (.int .u16))) }),
  (49, { desc := .struct [(0, 47), (2, 47), (4, 9)], size := 5, bytes := 32, zero := [.int .u32 0, .int .u16 0, .int .u32 0, .int .u16 0, .str []], cty := [none, none, none, none, none], ty := some ((.pair (.pair (.int .u32) (.int .u16)) (.pair (.pair (.int .u32) (.int .u16)) .str))) }),
  (51, { desc := .struct [(0, 47), (2, 47), (4, 9)], size := 5, bytes := 32, zero := [.int .u32 0, .int .u16 0, .int .u32 0, .int .u16 0, .str []], cty := [none, none, none, none, none], ty := some ((.pair (.pair (.int .u32) (.int .u16)) (.pair (.pair (.int .u32) (.int .u16)) .str))) }),
  (57, { desc := .slice 5, size := 1, bytes := 24, zero := [.ns], cty := [some (.int .u8)], ty := some ((.list (.int .u8))) }),
  (59, { desc := .slice 61, size := 1, bytes := 24, zero := [.ns], cty := [some ((.pair (.int .i64) (.pair (.int .i64) (.pair (.pair (.int .u32) (.int .u16)) (.pair (.pair (.int .u32) (.int .u16)) .str)))))], ty := some ((.list (.pair (.int .i64) (.pair (.int .i64) (.pair (.pair (.int .u32) (.int .u16)) (.pair (.pair (.int .u32) (.int .u16)) .str)))))) }),
  (61, { desc := .struct [(0, 3), (1, 3), (2, 51)], size := 7, bytes := 48, zero := [.int .i64 0, .int .i64 0, .int .u32 0, .int .u16 0, .int .u32 0, .int .u16 0, .str []], cty := [none, none, none, none, none, none, none], ty := some ((.pair (.int .i64) (.pair (.int .i64) (.pair (.pair (.int .u32) (.int .u16)) (.pair (.pair (.int .u32) (.int .u16)) .str))))) }),
  (65, { desc := .struct [(0, 41), (1, 3), (2, 3)], size := 3, bytes := 40, zero := [.ns, .int .i64 0, .int .i64 0], cty := [some ((.pair (.pair (.int .u32) (.int .u16)) (.pair (.pair (.int .u32) (.int .u16)) .str))), none, none], ty := some ((.pair (.list (.pair (.pair (.int .u32) (.int .u16)) (.pair (.pair (.int .u32) (.int .u16)) .str))) (.pair (.int .i64) (.int .i64)))) }),
  (68, { desc := .slice 49, size := 1, bytes := 24, zero := [.ns], cty := [some ((.pair (.pair (.int .u32) (.int .u16)) (.pair (.pair (.int .u32) (.int .u16)) .str)))], ty := some ((.list (.pair (.pair (.int .u32) (.int .u16)) (.pair (.pair (.int .u32) (.int .u16)) .str)))) }),
  (71, { desc := .slice 3, size := 1, bytes := 24, zero := [.ns], cty := [some (.int .i64)], ty := some ((.list (.int .i64))) }),
  (76, { desc := .slice 23, size := 1, bytes := 24, zero := [.ns], cty := [some (.int .u32)], ty := some ((.list (.int .u32))) }),
  (80, { desc := .struct [(0, 68), (1, 3), (2, 3), (3, 3)], size := 4, bytes := 48, zero := [.ns, .int .i64 0, .int .i64 0, .int .i64 0], cty := [some ((.pair (.pair (.int .u32) (.int .u16)) (.pair (.pair (.int .u32) (.int .u16)) .str))), none, none, none], ty := some ((.pair (.list (.pair (.pair (.int .u32) (.int .u16)) (.pair (.pair (.int .u32) (.int .u16)) .str))) (.pair (.int .i64) (.pair (.int .i64) (.int .i64))))) })]
def T0 : Tab := { row := lookR rows }
theorem tab0 : TabOk Try.prog T0 := tab_ok (rs := rows) (by kernel_rfl)
theorem mixed0 : Try.prog.follows .mixedOrders = true := by kernel_rfl
def h3 : Hint := { keep := fun _ => [], keepX := fun _ => [] }
noncomputable def c3 : Code := match Try.f3.body with | some c => c | none => .skip
def h4 : Hint := { keep := fun _ => [], keepX := fun _ => [] }
noncomputable def c4 : Code := match Try.f4.body with | some c => c | none => .skip
def h5 : Hint := { keep := fun _ => [], keepX := fun _ => [] }
noncomputable def c5 : Code := match Try.f5.body with | some c => c | none => .skip
def h6 : Hint := { keep := fun _ => [], keepX := fun _ => [] }
noncomputable def c6 : Code := match Try.f6.body with | some c => c | none => .skip
def h7 : Hint := { keep := fun _ => [], keepX := fun _ => [] }
noncomputable def c7 : Code := match Try.f7.body with | some c => c | none => .skip
def h8 : Hint := { keep := fun _ => [], keepX := fun _ => [] }
noncomputable def c8 : Code := match Try.f8.body with | some c => c | none => .skip
def h9 : Hint := { keep := fun b => match b with | 0 => [0, 1, 5, 6, 7] | 2 => [0, 1, 5, 6, 8] | _ => [], keepX := fun b => match b with | 0 => [0, 1, 4, 5, 6] | 2 => [4, 5, 6] | _ => [] }
noncomputable def c9 : Code := match Try.f9.body with | some c => c | none => .skip
def h10 : Hint := { keep := fun b => match b with | 0 => [0, 1, 5, 6, 7, 8] | 2 => [0, 1, 5, 6, 7, 9] | _ => [], keepX := fun b => match b with | 0 => [0, 1, 5, 6, 7] | 2 => [0, 4, 5, 6] | _ => [] }
noncomputable def c10 : Code := match Try.f10.body with | some c => c | none => .skip
def h11 : Hint := { keep := fun b => match b with | 0 => [1, 5, 6, 7, 8, 9, 10] | _ => [], keepX := fun b => match b with | 0 => [4, 5] | _ => [] }
noncomputable def c11 : Code := match Try.f11.body with | some c => c | none => .skip
def h12 : Hint := { keep := fun b => match b with | 0 => [0, 1, 5, 7, 8, 9, 10] | 2 => [0, 1, 5, 7, 8, 9, 10, 13, 14] | _ => [], keepX := fun b => match b with | 0 => [6, 7] | 2 => [0, 1, 5, 6, 7, 8, 9, 10] | _ => [] }
noncomputable def c12 : Code := match Try.f12.body with | some c => c | none => .skip
def h13 : Hint := { keep := fun _ => [], keepX := fun _ => [] }
noncomputable def c13 : Code := match Try.f13.body with | some c => c | none => .skip
def h14 : Hint := { keep := fun _ => [], keepX := fun _ => [] }
noncomputable def c14 : Code := match Try.f14.body with | some c => c | none => .skip
def h15 : Hint := { keep := fun _ => [], keepX := fun _ => [] }
noncomputable def c15 : Code := match Try.f15.body with | some c => c | none => .skip
def h16 : Hint := { keep := fun _ => [], keepX := fun _ => [] }
noncomputable def c16 : Code := match Try.f16.body with | some c => c | none => .skip
def h17 : Hint := { keep := fun _ => [], keepX := fun _ => [] }
noncomputable def c17 : Code := match Try.f17.body with | some c => c | none => .skip
def h18 : Hint := { keep := fun _ => [], keepX := fun _ => [] }
noncomputable def c18 : Code := match Try.f18.body with | some c => c | none => .skip
def h19 : Hint := { keep := fun _ => [], keepX := fun _ => [] }
noncomputable def c19 : Code := match Try.f19.body with | some c => c | none => .skip
def h20 : Hint := { keep := fun _ => [], keepX := fun _ => [] }
noncomputable def c20 : Code := match Try.f20.body with | some c => c | none => .skip
def h21 : Hint := { keep := fun _ => [], keepX := fun _ => [] }
noncomputable def c21 : Code := match Try.f21.body with | some c => c | none => .skip
def h22 : Hint := { keep := fun b => match b with | 0 => [3, 6, 7, 8] | _ => [], keepX := fun b => match b with | 0 => [3] | _ => [] }
noncomputable def c22 : Code := match Try.f22.body with | some c => c | none => .skip
def h23 : Hint := { keep := fun b => match b with | 0 => [0, 1, 9, 10] | _ => [], keepX := fun b => match b with | 0 => [0] | _ => [] }
noncomputable def c23 : Code := match Try.f23.body with | some c => c | none => .skip
def h24 : Hint := { keep := fun b => match b with | 0 => [0, 3, 4] | _ => [], keepX := fun b => match b with | 0 => [3] | _ => [] }
noncomputable def c24 : Code := match Try.f24.body with | some c => c | none => .skip
def h25 : Hint := { keep := fun b => match b with | 0 => [0, 1, 5] | _ => [], keepX := fun b => match b with | 0 => [4] | _ => [] }
noncomputable def c25 : Code := match Try.f25.body with | some c => c | none => .skip
def h26 : Hint := { keep := fun b => match b with | 0 => [0, 1, 5, 6] | _ => [], keepX := fun b => match b with | 0 => [5] | _ => [] }
noncomputable def c26 : Code := match Try.f26.body with | some c => c | none => .skip
def h27 : Hint := { keep := fun _ => [], keepX := fun _ => [] }
noncomputable def c27 : Code := match Try.f27.body with | some c => c | none => .skip
def h28 : Hint := { keep := fun _ => [], keepX := fun _ => [] }
noncomputable def c28 : Code := match Try.f28.body with | some c => c | none => .skip
def h29 : Hint := { keep := fun _ => [], keepX := fun _ => [] }
noncomputable def c29 : Code := match Try.f29.body with | some c => c | none => .skip
def h30 : Hint := { keep := fun _ => [], keepX := fun _ => [] }
noncomputable def c30 : Code := match Try.f30.body with | some c => c | none => .skip
def h31 : Hint := { keep := fun _ => [], keepX := fun _ => [] }
noncomputable def c31 : Code := match Try.f31.body with | some c => c | none => .skip
def h32 : Hint := { keep := fun _ => [], keepX := fun _ => [] }
noncomputable def c32 : Code := match Try.f32.body with | some c => c | none => .skip
def h33 : Hint := { keep := fun _ => [], keepX := fun _ => [] }
noncomputable def c33 : Code := match Try.f33.body with | some c => c | none => .skip
def h34 : Hint := { keep := fun _ => [], keepX := fun _ => [] }
noncomputable def c34 : Code := match Try.f34.body with | some c => c | none => .skip
def h35 : Hint := { keep := fun _ => [], keepX := fun _ => [] }
noncomputable def c35 : Code := match Try.f35.body with | some c => c | none => .skip
def h36 : Hint := { keep := fun _ => [], keepX := fun _ => [] }
noncomputable def c36 : Code := match Try.f36.body with | some c => c | none => .skip
def h37 : Hint := { keep := fun _ => [], keepX := fun _ => [] }
noncomputable def c37 : Code := match Try.f37.body with | some c => c | none => .skip
def h38 : Hint := { keep := fun _ => [], keepX := fun _ => [] }
noncomputable def c38 : Code := match Try.f38.body with | some c => c | none => .skip
def h39 : Hint := { keep := fun _ => [], keepX := fun _ => [] }
noncomputable def c39 : Code := match Try.f39.body with | some c => c | none => .skip
def h40 : Hint := { keep := fun _ => [], keepX := fun _ => [] }
noncomputable def c40 : Code := match Try.f40.body with | some c => c | none => .skip
def h41 : Hint := { keep := fun b => match b with | 0 => [0, 1, 5] | _ => [], keepX := fun b => match b with | 0 => [4] | _ => [] }
noncomputable def c41 : Code := match Try.f41.body with | some c => c | none => .skip
def h42 : Hint := { keep := fun b => match b with | 0 => [3, 5, 9, 10, 11] | _ => [], keepX := fun b => match b with | 0 => [5] | _ => [] }
noncomputable def c42 : Code := match Try.f42.body with | some c => c | none => .skip
def h43 : Hint := { keep := fun b => match b with | 0 => [2, 3, 5, 6] | _ => [], keepX := fun b => match b with | 0 => [5] | _ => [] }
noncomputable def c43 : Code := match Try.f43.body with | some c => c | none => .skip
def h44 : Hint := { keep := fun _ => [], keepX := fun _ => [] }
noncomputable def c44 : Code := match Try.f44.body with | some c => c | none => .skip
def h45 : Hint := { keep := fun _ => [], keepX := fun _ => [] }
noncomputable def c45 : Code := match Try.f45.body with | some c => c | none => .skip
def h46 : Hint := { keep := fun _ => [], keepX := fun _ => [] }
noncomputable def c46 : Code := match Try.f46.body with | some c => c | none => .skip
def h47 : Hint := { keep := fun _ => [], keepX := fun _ => [] }
noncomputable def c47 : Code := match Try.f47.body with | some c => c | none => .skip
def h48 : Hint := { keep := fun b => match b with | 0 => [1, 2, 4, 5, 7, 8] | _ => [], keepX := fun b => match b with | 0 => [1, 2, 4, 5, 7] | _ => [] }
noncomputable def c48 : Code := match Try.f48.body with | some c => c | none => .skip
def h49 : Hint := { keep := fun _ => [], keepX := fun _ => [] }
noncomputable def c49 : Code := match Try.f49.body with | some c => c | none => .skip
def h50 : Hint := { keep := fun _ => [], keepX := fun _ => [] }
noncomputable def c50 : Code := match Try.f50.body with | some c => c | none => .skip
def h51 : Hint := { keep := fun _ => [], keepX := fun _ => [] }
noncomputable def c51 : Code := match Try.f51.body with | some c => c | none => .skip
def h52 : Hint := { keep := fun b => match b with | 0 => [0, 3, 4] | _ => [], keepX := fun b => match b with | 0 => [3] | _ => [] }
noncomputable def c52 : Code := match Try.f52.body with | some c => c | none => .skip
def h53 : Hint := { keep := fun _ => [], keepX := fun _ => [] }
noncomputable def c53 : Code := match Try.f53.body with | some c => c | none => .skip
end Go.Proofs.YtgiofacmcpakoaaE
