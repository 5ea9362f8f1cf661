/-
  The types that the code reads, as the ideal machine has them.
-/
import Derived.Test.YtognnacdakfekaaVV
import Derived.Test.YtognnacdakfekaaChecked
namespace Go.Proofs.Ytognnacdakfekaa
open Go VE

def tys : List (Nat × Option Ty) := [(1, none), (2, some (.int .i64)), (3, some (.int .i64)), (4, some .bool), (5, some (.int .u8)), (6, some (.int .u8)), (7, some (.prod (.int .i64) (.prod (.int .i64) (.prod .bool (.int .u8))))), (8, some (.prod (.int .i64) (.prod (.int .i64) (.prod .bool (.int .u8))))), (9, some .str), (10, some .str), (11, some .str), (12, some (.int .u64)), (15, none), (16, none), (17, none), (21, some (.int .i32)), (22, none), (23, some (.sl (.int .i64))), (24, none), (25, none), (26, none), (27, none), (28, none), (29, some (.sl .str)), (30, none), (31, none), (32, none), (33, some (.int .u64)), (34, none), (35, none), (36, some (.sl (.int .u8))), (37, none), (38, none), (39, none), (40, none), (41, none), (42, none), (43, none), (46, none), (49, none), (50, some (.int .u32)), (51, some (.int .u8)), (52, some (.int .u8)), (53, none), (54, some (.pint .u8)), (55, some (.int .i32)), (56, some (.int .i32))]
def tab : List (Nat × TI) := [
  (1, ⟨1, 8, .fnc, [(.v .nilFunc)], none⟩),
  (2, ⟨1, 8, (.int .i64), [(.v (.int .i64 (0 : Int)))], some (.int .i64)⟩),
  (3, ⟨1, 8, (.int .i64), [(.v (.int .i64 (0 : Int)))], some (.int .i64)⟩),
  (4, ⟨1, 1, .bool, [(.v (.bool false))], some .bool⟩),
  (5, ⟨1, 1, (.int .u8), [(.v (.int .u8 (0 : Int)))], some (.int .u8)⟩),
  (6, ⟨1, 1, (.int .u8), [(.v (.int .u8 (0 : Int)))], some (.int .u8)⟩),
  (7, ⟨4, 24, (.st [(0, 2), (1, 3), (2, 4), (3, 6)]), [(.v (.int .i64 (0 : Int))), (.v (.int .i64 (0 : Int))), (.v (.bool false)), (.v (.int .u8 (0 : Int)))], some (.prod (.int .i64) (.prod (.int .i64) (.prod .bool (.int .u8))))⟩),
  (8, ⟨4, 24, (.st [(0, 2), (1, 3), (2, 4), (3, 6)]), [(.v (.int .i64 (0 : Int))), (.v (.int .i64 (0 : Int))), (.v (.bool false)), (.v (.int .u8 (0 : Int)))], some (.prod (.int .i64) (.prod (.int .i64) (.prod .bool (.int .u8))))⟩),
  (9, ⟨1, 16, .str, [(.v (.string (⟨#[]⟩ : ByteArray)))], some .str⟩),
  (10, ⟨1, 16, .str, [(.v (.string (⟨#[]⟩ : ByteArray)))], some .str⟩),
  (11, ⟨1, 16, .str, [(.v (.string (⟨#[]⟩ : ByteArray)))], some .str⟩),
  (12, ⟨1, 8, (.int .u64), [(.v (.int .u64 (0 : Int)))], some (.int .u64)⟩),
  (15, ⟨1, 8, (.ptr 45), [(.v (.pointer none))], none⟩),
  (16, ⟨1, 8, (.ptr 48), [(.v (.pointer none))], none⟩),
  (17, ⟨1, 8, (.ptr 58), [(.v (.pointer none))], none⟩),
  (21, ⟨1, 4, (.int .i32), [(.v (.int .i32 (0 : Int)))], some (.int .i32)⟩),
  (22, ⟨1, 8, .fnc, [(.v .nilFunc)], none⟩),
  (23, ⟨1, 24, (.sl 3), [(.v (.slice none 0 0))], some (.sl (.int .i64))⟩),
  (24, ⟨1, 8, .fnc, [(.v .nilFunc)], none⟩),
  (25, ⟨1, 8, .fnc, [(.v .nilFunc)], none⟩),
  (26, ⟨1, 8, .fnc, [(.v .nilFunc)], none⟩),
  (27, ⟨1, 8, .fnc, [(.v .nilFunc)], none⟩),
  (28, ⟨1, 8, .fnc, [(.v .nilFunc)], none⟩),
  (29, ⟨1, 24, (.sl 9), [(.v (.slice none 0 0))], some (.sl .str)⟩),
  (30, ⟨1, 8, .fnc, [(.v .nilFunc)], none⟩),
  (31, ⟨1, 8, .fnc, [(.v .nilFunc)], none⟩),
  (32, ⟨1, 8, .fnc, [(.v .nilFunc)], none⟩),
  (33, ⟨1, 8, (.int .u64), [(.v (.int .u64 (0 : Int)))], some (.int .u64)⟩),
  (34, ⟨1, 8, (.map 3 3), [(.v (.map none))], none⟩),
  (35, ⟨1, 8, .fnc, [(.v .nilFunc)], none⟩),
  (36, ⟨1, 24, (.sl 5), [(.v (.slice none 0 0))], some (.sl (.int .u8))⟩),
  (37, ⟨1, 8, .fnc, [(.v .nilFunc)], none⟩),
  (38, ⟨1, 8, .fnc, [(.v .nilFunc)], none⟩),
  (39, ⟨1, 8, .fnc, [(.v .nilFunc)], none⟩),
  (40, ⟨1, 8, .fnc, [(.v .nilFunc)], none⟩),
  (41, ⟨1, 8, .fnc, [(.v .nilFunc)], none⟩),
  (42, ⟨1, 8, .fnc, [(.v .nilFunc)], none⟩),
  (43, ⟨1, 8, .fnc, [(.v .nilFunc)], none⟩),
  (46, ⟨0, 0, (.arr 0 16), [], none⟩),
  (49, ⟨1, 8, .fnc, [(.v .nilFunc)], none⟩),
  (50, ⟨1, 4, (.int .u32), [(.v (.int .u32 (0 : Int)))], some (.int .u32)⟩),
  (51, ⟨1, 1, (.int .u8), [(.v (.int .u8 (0 : Int)))], some (.int .u8)⟩),
  (52, ⟨1, 1, (.int .u8), [(.v (.int .u8 (0 : Int)))], some (.int .u8)⟩),
  (53, ⟨1, 8, .fnc, [(.v .nilFunc)], none⟩),
  (54, ⟨1, 8, (.ptr 5), [(.v (.pointer none))], some (.pint .u8)⟩),
  (55, ⟨1, 4, (.int .i32), [(.v (.int .i32 (0 : Int)))], some (.int .i32)⟩),
  (56, ⟨1, 4, (.int .i32), [(.v (.int .i32 (0 : Int)))], some (.int .i32)⟩)]
theorem tab_ok : tabOf Try.prog tys = some tab := by kernel_rfl

theorem mixed : Try.prog.follows .mixedOrders = true := by kernel_rfl
theorem own0 : ownKnob Try.prog.godebug = none := by kernel_rfl
theorem laidOut0 : laidOutB Try.prog = true := by kernel_rfl

end Go.Proofs.Ytognnacdakfekaa
