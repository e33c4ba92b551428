/- Tables of types, as the program has them; conditions: none. -/
import Derived.Test.YtnfjlinffjhkpaaDoorChecked
import Derived.Test.YtnfjlinffjhkpaaDoorAbsE
set_option linter.unusedVariables false
namespace Go.Proofs.YtnfjlinffjhkpaaDoor
open Go Go.RowKit
def tb : Tabs where
  ty := [(2, false, 1), (3, false, 1), (4, false, 1), (5, false, 1), (9, false, 1), (12, false, 1), (13, true, 2), (21, false, 1), (22, false, 1), (25, false, 1), (27, false, 1), (28, true, 1), (29, true, 1), (31, true, 5), (32, true, 5), (33, false, 1), (37, false, 1), (46, false, 1), (47, true, 3), (48, true, 3), (58, true, 2), (59, true, 2), (64, false, 1), (67, false, 1), (75, false, 1), (77, true, 3), (78, true, 12), (79, false, 1), (83, false, 1), (85, false, 1), (98, false, 1)]
  sle := [(22, 3), (27, 32), (64, 5)]
  fld := [(13, [(0, 9), (1, 12)]), (28, [(0, 27)]), (29, [(0, 27)]), (31, [(0, 9), (1, 3), (2, 3), (3, 3), (4, 3)]), (32, [(0, 9), (1, 3), (2, 3), (3, 3), (4, 3)]), (47, [(0, 22), (1, 3), (2, 46)]), (48, [(0, 22), (1, 3), (2, 46)]), (58, [(0, 3), (1, 3)]), (59, [(0, 3), (1, 3)]), (77, [(0, 5), (1, 5), (2, 4)])]
  zer := [(2, [.int .i64 0]), (3, [.int .i64 0]), (4, [.bool false]), (5, [.int .u8 0]), (9, [.string ByteArray.empty]), (12, [.int .u64 0]), (13, [.string ByteArray.empty, .int .u64 0]), (21, [.int .i32 0]), (22, [.slice none 0 0]), (25, [.pointer none]), (27, [.slice none 0 0]), (28, [.slice none 0 0]), (29, [.slice none 0 0]), (31, [.string ByteArray.empty, .int .i64 0, .int .i64 0, .int .i64 0, .int .i64 0]), (32, [.string ByteArray.empty, .int .i64 0, .int .i64 0, .int .i64 0, .int .i64 0]), (33, [.int .u64 0]), (37, [.int .i64 0]), (46, [.int .u64 0]), (47, [.slice none 0 0, .int .i64 0, .int .u64 0]), (48, [.slice none 0 0, .int .i64 0, .int .u64 0]), (58, [.int .i64 0, .int .i64 0]), (59, [.int .i64 0, .int .i64 0]), (64, [.slice none 0 0]), (67, [.int .i64 0]), (75, [.int .u32 0]), (77, [.int .u8 0, .int .u8 0, .bool false]), (78, [.int .u8 0, .int .u8 0, .bool false, .int .u8 0, .int .u8 0, .bool false, .int .u8 0, .int .u8 0, .bool false, .int .u8 0, .int .u8 0, .bool false]), (79, [.int .u64 0]), (83, [.pointer none]), (85, [.pointer none]), (98, [.pointer none])]
  byt := [(2, 8), (3, 8), (4, 1), (5, 1), (9, 16), (12, 8), (13, 24), (21, 4), (22, 24), (25, 8), (27, 24), (28, 24), (29, 24), (31, 48), (32, 48), (33, 8), (37, 8), (46, 8), (47, 40), (48, 40), (58, 16), (59, 16), (64, 24), (67, 8), (75, 4), (77, 3), (78, 12), (79, 8), (83, 8), (85, 8), (98, 8)]
  ik := [(2, .i64), (3, .i64), (5, .u8), (12, .u64), (21, .i32), (33, .u64), (37, .i64), (46, .u64), (67, .i64), (75, .u32), (79, .u64)]
theorem tbOk : TabsOk Tryd.prog tb := ⟨by kernel_rfl, by kernel_rfl, by kernel_rfl, by kernel_rfl, by kernel_rfl, by kernel_rfl⟩
theorem mixd : Tryd.prog.follows .mixedOrders = true := Tryd.checked.mixed
end Go.Proofs.YtnfjlinffjhkpaaDoor
