/- Tables of types, as the program has them; conditions: none. -/
import Derived.Test.YtlmkloghbgglkaaDoorChecked
import Derived.Test.YtlmkloghbgglkaaDoorAbsE
set_option linter.unusedVariables false
namespace Go.Proofs.YtlmkloghbgglkaaDoor
open Go Go.RowKit
def tb : Tabs where
  ty := [(2, false, 1), (3, false, 1), (4, false, 1), (5, false, 1), (9, false, 1), (12, false, 1), (13, true, 2), (21, false, 1), (22, false, 1), (23, false, 1), (26, false, 1), (27, true, 3), (28, true, 3), (29, false, 1), (30, false, 1), (31, false, 1), (37, false, 1), (41, false, 1), (46, false, 1), (62, false, 1), (63, true, 3), (64, true, 3), (66, false, 1), (87, true, 3), (88, true, 12), (98, false, 1), (102, false, 1)]
  sle := [(22, 3), (23, 30), (26, 9), (29, 28), (41, 29), (46, 5)]
  fld := [(13, [(0, 9), (1, 12)]), (27, [(0, 3), (1, 22), (2, 26)]), (28, [(0, 3), (1, 22), (2, 26)]), (63, [(0, 22), (1, 3), (2, 62)]), (64, [(0, 22), (1, 3), (2, 62)]), (87, [(0, 5), (1, 5), (2, 4)])]
  zer := [(2, [.int .i64 0]), (3, [.int .i64 0]), (4, [.bool false]), (5, [.int .u8 0]), (9, [.string ByteArray.empty]), (12, [.int .u64 0]), (13, [.string ByteArray.empty, .int .u64 0]), (21, [.int .i32 0]), (22, [.slice none 0 0]), (23, [.slice none 0 0]), (26, [.slice none 0 0]), (27, [.int .i64 0, .slice none 0 0, .slice none 0 0]), (28, [.int .i64 0, .slice none 0 0, .slice none 0 0]), (29, [.slice none 0 0]), (30, [.int .u16 0]), (31, [.int .i64 0]), (37, [.pointer none]), (41, [.slice none 0 0]), (46, [.slice none 0 0]), (62, [.int .u64 0]), (63, [.slice none 0 0, .int .i64 0, .int .u64 0]), (64, [.slice none 0 0, .int .i64 0, .int .u64 0]), (66, [.int .u64 0]), (87, [.int .u8 0, .int .u8 0, .bool false]), (88, [.int .u8 0, .int .u8 0, .bool false, .int .u8 0, .int .u8 0, .bool false, .int .u8 0, .int .u8 0, .bool false, .int .u8 0, .int .u8 0, .bool false]), (98, [.int .u32 0]), (102, [.pointer none])]
  byt := [(2, 8), (3, 8), (4, 1), (5, 1), (9, 16), (12, 8), (13, 24), (21, 4), (22, 24), (23, 24), (26, 24), (27, 56), (28, 56), (29, 24), (30, 2), (31, 8), (37, 8), (41, 24), (46, 24), (62, 8), (63, 40), (64, 40), (66, 8), (87, 3), (88, 12), (98, 4), (102, 8)]
  ik := [(2, .i64), (3, .i64), (5, .u8), (12, .u64), (21, .i32), (30, .u16), (31, .i64), (62, .u64), (66, .u64), (98, .u32)]
theorem tbOk : TabsOk Tryd.prog tb := ⟨by kernel_rfl, by kernel_rfl, by kernel_rfl, by kernel_rfl, by kernel_rfl, by kernel_rfl⟩
theorem mixd : Tryd.prog.follows .mixedOrders = true := Tryd.checked.mixed
end Go.Proofs.YtlmkloghbgglkaaDoor
