/- Tables of types, as the program has them; conditions: none. -/
import Derived.Test.YtbacidnhjmdnlaaDoorChecked
import Derived.Test.YtbacidnhjmdnlaaDoorAbsE
set_option linter.unusedVariables false
namespace Go.Proofs.YtbacidnhjmdnlaaDoor
open Go Go.RowKit
def tb : Tabs where
  ty := [(2, false, 1), (3, false, 1), (4, false, 1), (5, false, 1), (9, false, 1), (12, false, 1), (13, true, 2), (21, false, 1), (22, false, 1), (25, false, 1), (27, false, 1), (29, true, 3), (30, true, 3), (32, false, 1), (34, true, 4), (35, true, 4), (43, false, 1), (44, false, 1), (48, false, 1), (49, false, 1), (53, false, 1), (58, false, 1), (59, false, 1), (60, false, 1), (61, true, 3), (62, true, 3), (64, false, 1), (68, false, 1), (77, true, 3), (78, true, 12)]
  sle := [(22, 3), (27, 35), (43, 49), (48, 30), (53, 27), (64, 9)]
  fld := [(13, [(0, 9), (1, 12)]), (29, [(0, 3), (1, 3), (2, 9)]), (30, [(0, 3), (1, 3), (2, 9)]), (34, [(0, 3), (1, 30)]), (35, [(0, 3), (1, 30)]), (61, [(0, 22), (1, 3), (2, 60)]), (62, [(0, 22), (1, 3), (2, 60)]), (77, [(0, 5), (1, 5), (2, 4)])]
  zer := [(2, [.int .i64 0]), (3, [.int .i64 0]), (4, [.bool false]), (5, [.int .u8 0]), (9, [.string ByteArray.empty]), (12, [.int .u64 0]), (13, [.string ByteArray.empty, .int .u64 0]), (21, [.int .i32 0]), (22, [.slice none 0 0]), (25, [.pointer none]), (27, [.slice none 0 0]), (29, [.int .i64 0, .int .i64 0, .string ByteArray.empty]), (30, [.int .i64 0, .int .i64 0, .string ByteArray.empty]), (32, [.int .i64 0]), (34, [.int .i64 0, .int .i64 0, .int .i64 0, .string ByteArray.empty]), (35, [.int .i64 0, .int .i64 0, .int .i64 0, .string ByteArray.empty]), (43, [.slice none 0 0]), (44, [.map none]), (48, [.slice none 0 0]), (49, [.int .u16 0]), (53, [.slice none 0 0]), (58, [.map none]), (59, [.map none]), (60, [.int .u64 0]), (61, [.slice none 0 0, .int .i64 0, .int .u64 0]), (62, [.slice none 0 0, .int .i64 0, .int .u64 0]), (64, [.slice none 0 0]), (68, [.int .u64 0]), (77, [.int .u8 0, .int .u8 0, .bool false]), (78, [.int .u8 0, .int .u8 0, .bool false, .int .u8 0, .int .u8 0, .bool false, .int .u8 0, .int .u8 0, .bool false, .int .u8 0, .int .u8 0, .bool false])]
  byt := [(2, 8), (3, 8), (4, 1), (5, 1), (9, 16), (12, 8), (13, 24), (21, 4), (22, 24), (25, 8), (27, 24), (29, 32), (30, 32), (32, 8), (34, 40), (35, 40), (43, 24), (44, 8), (48, 24), (49, 2), (53, 24), (58, 8), (59, 8), (60, 8), (61, 40), (62, 40), (64, 24), (68, 8), (77, 3), (78, 12)]
  ik := [(2, .i64), (3, .i64), (5, .u8), (12, .u64), (21, .i32), (32, .i64), (49, .u16), (60, .u64), (68, .u64)]
theorem tbOk : TabsOk Tryd.prog tb := ⟨by kernel_rfl, by kernel_rfl, by kernel_rfl, by kernel_rfl, by kernel_rfl, by kernel_rfl⟩
theorem mixd : Tryd.prog.follows .mixedOrders = true := Tryd.checked.mixed
end Go.Proofs.YtbacidnhjmdnlaaDoor
