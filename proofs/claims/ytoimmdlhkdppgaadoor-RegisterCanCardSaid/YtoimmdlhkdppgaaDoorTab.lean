/- Tables of types, as the program has them; conditions: none. -/
import Derived.Test.YtoimmdlhkdppgaaDoorChecked
import Derived.Test.YtoimmdlhkdppgaaDoorAbsF
set_option linter.unusedVariables false
namespace Go.Proofs.YtoimmdlhkdppgaaDoor
open Go Go.RowKit
def tb : Tabs where
  ty := [(2, false, 1), (3, false, 1), (4, false, 1), (5, false, 1), (9, false, 1), (12, false, 1), (13, true, 2), (21, false, 1), (22, false, 1), (25, false, 1), (27, false, 1), (28, true, 1), (29, true, 1), (31, true, 5), (32, true, 5), (33, false, 1), (38, false, 1), (39, true, 3), (40, true, 3), (41, false, 1), (52, true, 2), (53, true, 2), (54, false, 1), (57, true, 3), (58, true, 12)]
  sle := [(22, 3), (27, 32), (54, 5)]
  fld := [(13, [(0, 9), (1, 12)]), (28, [(0, 27)]), (29, [(0, 27)]), (31, [(0, 9), (1, 3), (2, 3), (3, 3), (4, 3)]), (32, [(0, 9), (1, 3), (2, 3), (3, 3), (4, 3)]), (39, [(0, 22), (1, 3), (2, 38)]), (40, [(0, 22), (1, 3), (2, 38)]), (52, [(0, 3), (1, 3)]), (53, [(0, 3), (1, 3)]), (57, [(0, 5), (1, 5), (2, 4)])]
  zer := [(2, [.int .i64 0]), (3, [.int .i64 0]), (4, [.bool false]), (5, [.int .u8 0]), (9, [.string ByteArray.empty]), (12, [.int .u64 0]), (13, [.string ByteArray.empty, .int .u64 0]), (21, [.int .i32 0]), (22, [.slice none 0 0]), (25, [.pointer none]), (27, [.slice none 0 0]), (28, [.slice none 0 0]), (29, [.slice none 0 0]), (31, [.string ByteArray.empty, .int .i64 0, .int .i64 0, .int .i64 0, .int .i64 0]), (32, [.string ByteArray.empty, .int .i64 0, .int .i64 0, .int .i64 0, .int .i64 0]), (33, [.int .u64 0]), (38, [.int .u64 0]), (39, [.slice none 0 0, .int .i64 0, .int .u64 0]), (40, [.slice none 0 0, .int .i64 0, .int .u64 0]), (41, [.int .i64 0]), (52, [.int .i64 0, .int .i64 0]), (53, [.int .i64 0, .int .i64 0]), (54, [.slice none 0 0]), (57, [.int .u8 0, .int .u8 0, .bool false]), (58, [.int .u8 0, .int .u8 0, .bool false, .int .u8 0, .int .u8 0, .bool false, .int .u8 0, .int .u8 0, .bool false, .int .u8 0, .int .u8 0, .bool false])]
  byt := [(2, 8), (3, 8), (4, 1), (5, 1), (9, 16), (12, 8), (13, 24), (21, 4), (22, 24), (25, 8), (27, 24), (28, 24), (29, 24), (31, 48), (32, 48), (33, 8), (38, 8), (39, 40), (40, 40), (41, 8), (52, 16), (53, 16), (54, 24), (57, 3), (58, 12)]
  ik := [(2, .i64), (3, .i64), (5, .u8), (12, .u64), (21, .i32), (33, .u64), (38, .u64), (41, .i64)]
theorem tbOk : TabsOk Tryd.prog tb := ⟨by kernel_rfl, by kernel_rfl, by kernel_rfl, by kernel_rfl, by kernel_rfl, by kernel_rfl⟩
theorem mixd : Tryd.prog.follows .mixedOrders = true := Tryd.checked.mixed
end Go.Proofs.YtoimmdlhkdppgaaDoor
