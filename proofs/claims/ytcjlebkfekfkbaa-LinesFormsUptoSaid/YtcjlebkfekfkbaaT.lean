/-
  The types that the code reads, as the ideal machine has them.
-/
import Derived.Test.YtcjlebkfekfkbaaVV
import Derived.Test.YtcjlebkfekfkbaaChecked
namespace Go.Proofs.Ytcjlebkfekfkbaa
open Go VE

def tys : List (Nat × Option Ty) := [(1, none), (2, some (.int .i64)), (3, some (.int .i64)), (4, some .bool), (5, some (.int .u8)), (6, some (.int .u8)), (7, some (.prod (.int .i64) (.prod (.int .i64) (.prod .bool (.int .u8))))), (8, some (.prod (.int .i64) (.prod (.int .i64) (.prod .bool (.int .u8))))), (9, some .str), (10, some .str), (11, some .str), (12, some (.int .u64)), (15, none), (16, none), (17, none), (21, some (.int .i32)), (22, some (.int .u64)), (23, some (.sl (.int .u8))), (24, some (.sl (.prod (.int .i64) (.sl .str)))), (25, some (.int .i64)), (27, none), (28, none), (29, none), (30, none), (31, none), (32, some (.sl .str)), (33, some (.prod (.int .i64) (.sl .str))), (34, some (.prod (.int .i64) (.sl .str))), (36, none), (37, none), (38, none), (39, none), (40, some (.sl (.int .i64))), (41, none), (42, none), (43, none), (44, none), (45, some (.sl (.sl .str))), (46, none), (47, none), (48, none), (49, none), (50, none), (51, none), (52, none), (53, none), (54, none), (58, none), (59, none), (60, none), (61, none), (63, none), (64, none), (65, some (.pint .u8)), (67, none), (68, none), (69, none), (70, none), (71, none), (72, some (.int .u64)), (73, some (.int .u32)), (75, none), (78, none), (81, none), (82, some (.int .u8)), (83, some (.int .u8)), (84, none), (85, some (.int .i32)), (86, some (.int .i32))]
def tab : List (Nat × TI) := [
  (1, ⟨1, 8, .fnc, [(.v .nilFunc)], none⟩),
  (2, ⟨1, 8, (.int .i64), [(.v (.int .i64 (0 : Int)))], some (.int .i64)⟩),
  (3, ⟨1, 8, (.int .i64), [(.v (.int .i64 (0 : Int)))], some (.int .i64)⟩),
  (4, ⟨1, 1, .bool, [(.v (.bool false))], some .bool⟩),
  (5, ⟨1, 1, (.int .u8), [(.v (.int .u8 (0 : Int)))], some (.int .u8)⟩),
  (6, ⟨1, 1, (.int .u8), [(.v (.int .u8 (0 : Int)))], some (.int .u8)⟩),
  (7, ⟨4, 24, (.st [(0, 2), (1, 3), (2, 4), (3, 6)]), [(.v (.int .i64 (0 : Int))), (.v (.int .i64 (0 : Int))), (.v (.bool false)), (.v (.int .u8 (0 : Int)))], some (.prod (.int .i64) (.prod (.int .i64) (.prod .bool (.int .u8))))⟩),
  (8, ⟨4, 24, (.st [(0, 2), (1, 3), (2, 4), (3, 6)]), [(.v (.int .i64 (0 : Int))), (.v (.int .i64 (0 : Int))), (.v (.bool false)), (.v (.int .u8 (0 : Int)))], some (.prod (.int .i64) (.prod (.int .i64) (.prod .bool (.int .u8))))⟩),
  (9, ⟨1, 16, .str, [(.v (.string (⟨#[]⟩ : ByteArray)))], some .str⟩),
  (10, ⟨1, 16, .str, [(.v (.string (⟨#[]⟩ : ByteArray)))], some .str⟩),
  (11, ⟨1, 16, .str, [(.v (.string (⟨#[]⟩ : ByteArray)))], some .str⟩),
  (12, ⟨1, 8, (.int .u64), [(.v (.int .u64 (0 : Int)))], some (.int .u64)⟩),
  (15, ⟨1, 8, (.ptr 77), [(.v (.pointer none))], none⟩),
  (16, ⟨1, 8, (.ptr 80), [(.v (.pointer none))], none⟩),
  (17, ⟨1, 8, (.ptr 88), [(.v (.pointer none))], none⟩),
  (21, ⟨1, 4, (.int .i32), [(.v (.int .i32 (0 : Int)))], some (.int .i32)⟩),
  (22, ⟨1, 8, (.int .u64), [(.v (.int .u64 (0 : Int)))], some (.int .u64)⟩),
  (23, ⟨1, 24, (.sl 5), [(.v (.slice none 0 0))], some (.sl (.int .u8))⟩),
  (24, ⟨1, 24, (.sl 34), [(.v (.slice none 0 0))], some (.sl (.prod (.int .i64) (.sl .str)))⟩),
  (25, ⟨1, 8, (.int .i64), [(.v (.int .i64 (0 : Int)))], some (.int .i64)⟩),
  (27, ⟨1, 8, .fnc, [(.v .nilFunc)], none⟩),
  (28, ⟨1, 8, .fnc, [(.v .nilFunc)], none⟩),
  (29, ⟨1, 8, .fnc, [(.v .nilFunc)], none⟩),
  (30, ⟨1, 8, .fnc, [(.v .nilFunc)], none⟩),
  (31, ⟨1, 8, .fnc, [(.v .nilFunc)], none⟩),
  (32, ⟨1, 24, (.sl 9), [(.v (.slice none 0 0))], some (.sl .str)⟩),
  (33, ⟨2, 32, (.st [(0, 3), (1, 32)]), [(.v (.int .i64 (0 : Int))), (.v (.slice none 0 0))], some (.prod (.int .i64) (.sl .str))⟩),
  (34, ⟨2, 32, (.st [(0, 3), (1, 32)]), [(.v (.int .i64 (0 : Int))), (.v (.slice none 0 0))], some (.prod (.int .i64) (.sl .str))⟩),
  (36, ⟨1, 8, .fnc, [(.v .nilFunc)], none⟩),
  (37, ⟨1, 8, .fnc, [(.v .nilFunc)], none⟩),
  (38, ⟨1, 8, .fnc, [(.v .nilFunc)], none⟩),
  (39, ⟨1, 8, .fnc, [(.v .nilFunc)], none⟩),
  (40, ⟨1, 24, (.sl 3), [(.v (.slice none 0 0))], some (.sl (.int .i64))⟩),
  (41, ⟨1, 8, .fnc, [(.v .nilFunc)], none⟩),
  (42, ⟨1, 8, .fnc, [(.v .nilFunc)], none⟩),
  (43, ⟨1, 8, .fnc, [(.v .nilFunc)], none⟩),
  (44, ⟨1, 8, .fnc, [(.v .nilFunc)], none⟩),
  (45, ⟨1, 24, (.sl 32), [(.v (.slice none 0 0))], some (.sl (.sl .str))⟩),
  (46, ⟨1, 8, .fnc, [(.v .nilFunc)], none⟩),
  (47, ⟨1, 8, .fnc, [(.v .nilFunc)], none⟩),
  (48, ⟨1, 8, .fnc, [(.v .nilFunc)], none⟩),
  (49, ⟨1, 8, .fnc, [(.v .nilFunc)], none⟩),
  (50, ⟨1, 8, .fnc, [(.v .nilFunc)], none⟩),
  (51, ⟨1, 8, .fnc, [(.v .nilFunc)], none⟩),
  (52, ⟨1, 8, (.ptr 54), [(.v (.pointer none))], none⟩),
  (53, ⟨2, 32, (.st [(0, 52), (1, 23)]), [(.v (.pointer none)), (.v (.slice none 0 0))], none⟩),
  (54, ⟨2, 32, (.st [(0, 52), (1, 23)]), [(.v (.pointer none)), (.v (.slice none 0 0))], none⟩),
  (58, ⟨1, 8, .fnc, [(.v .nilFunc)], none⟩),
  (59, ⟨1, 8, .fnc, [(.v .nilFunc)], none⟩),
  (60, ⟨1, 8, .fnc, [(.v .nilFunc)], none⟩),
  (61, ⟨1, 8, .fnc, [(.v .nilFunc)], none⟩),
  (63, ⟨1, 8, .fnc, [(.v .nilFunc)], none⟩),
  (64, ⟨1, 8, .fnc, [(.v .nilFunc)], none⟩),
  (65, ⟨1, 8, (.ptr 5), [(.v (.pointer none))], some (.pint .u8)⟩),
  (67, ⟨1, 8, .fnc, [(.v .nilFunc)], none⟩),
  (68, ⟨1, 8, .fnc, [(.v .nilFunc)], none⟩),
  (69, ⟨1, 8, .fnc, [(.v .nilFunc)], none⟩),
  (70, ⟨1, 8, .fnc, [(.v .nilFunc)], none⟩),
  (71, ⟨1, 8, .fnc, [(.v .nilFunc)], none⟩),
  (72, ⟨1, 8, (.int .u64), [(.v (.int .u64 (0 : Int)))], some (.int .u64)⟩),
  (73, ⟨1, 4, (.int .u32), [(.v (.int .u32 (0 : Int)))], some (.int .u32)⟩),
  (75, ⟨1, 8, .fnc, [(.v .nilFunc)], none⟩),
  (78, ⟨0, 0, (.arr 0 16), [], none⟩),
  (81, ⟨1, 8, .fnc, [(.v .nilFunc)], none⟩),
  (82, ⟨1, 1, (.int .u8), [(.v (.int .u8 (0 : Int)))], some (.int .u8)⟩),
  (83, ⟨1, 1, (.int .u8), [(.v (.int .u8 (0 : Int)))], some (.int .u8)⟩),
  (84, ⟨1, 8, .fnc, [(.v .nilFunc)], none⟩),
  (85, ⟨1, 4, (.int .i32), [(.v (.int .i32 (0 : Int)))], some (.int .i32)⟩),
  (86, ⟨1, 4, (.int .i32), [(.v (.int .i32 (0 : Int)))], some (.int .i32)⟩)]
theorem tab_ok : tabOf Try.prog tys = some tab := by kernel_rfl

theorem mixed : Try.prog.follows .mixedOrders = true := by kernel_rfl
theorem own0 : ownKnob Try.prog.godebug = none := by kernel_rfl
theorem laidOut0 : laidOutB Try.prog = true := by kernel_rfl

end Go.Proofs.Ytcjlebkfekfkbaa
