/-
  The types that the code reads, as the ideal machine has them.
-/
import Derived.Test.YtaikjghfccenfaaVZo
import Derived.Test.YtaikjghfccenfaaChecked
namespace Go.Proofs.Ytaikjghfccenfaa
open Go VE

def tys : List (Nat × Option Ty) := [(1, none), (2, some (.int .i64)), (3, some (.int .i64)), (4, some .bool), (5, some (.int .u8)), (6, some (.int .u8)), (7, some (.prod (.int .i64) (.prod (.int .i64) (.prod .bool (.int .u8))))), (8, some (.prod (.int .i64) (.prod (.int .i64) (.prod .bool (.int .u8))))), (9, some .str), (10, some .str), (11, some .str), (12, some (.int .u64)), (15, none), (16, none), (17, none), (21, some (.int .i32)), (22, some (.prod (.int .i64) (.prod (.int .i64) (.prod (.int .i64) (.prod (.int .i64) (.prod (.int .i64) (.prod (.int .i64) (.prod (.int .i64) (.prod (.int .i64) (.prod (.int .i64) (.prod (.int .i64) (.prod (.int .i64) (.prod (.int .i64) (.prod (.int .i64) (.prod (.int .i64) (.prod (.int .i64) (.prod .bool (.prod (.int .i64) (.prod (.int .i64) (.prod (.int .i64) (.prod (.int .i64) (.prod (.int .i64) (.prod .str .bool))))))))))))))))))))))), (23, some (.prod (.int .i64) (.prod (.int .i64) (.prod (.int .i64) (.prod (.int .i64) (.prod (.int .i64) (.prod (.int .i64) (.prod (.int .i64) (.prod (.int .i64) (.prod (.int .i64) (.prod (.int .i64) (.prod (.int .i64) (.prod (.int .i64) (.prod (.int .i64) (.prod (.int .i64) (.prod (.int .i64) (.prod .bool (.prod (.int .i64) (.prod (.int .i64) (.prod (.int .i64) (.prod (.int .i64) (.prod (.int .i64) (.prod .str .bool))))))))))))))))))))))), (24, some (.sl .bool)), (25, none), (27, none), (29, none), (30, none), (31, none), (32, some (.int .u64)), (33, none), (34, none), (35, none), (36, none), (37, none), (38, some (.sl (.int .i64))), (39, none), (40, some (.sl (.prod .str (.prod (.int .i64) (.prod (.int .i64) (.int .i64)))))), (41, none), (42, some (.prod .str (.prod (.int .i64) (.prod (.int .i64) (.int .i64))))), (43, some (.prod .str (.prod (.int .i64) (.prod (.int .i64) (.int .i64))))), (44, none), (45, none), (46, some (.sl (.prod .str (.prod (.pint .i64) (.prod (.int .i64) (.int .i64)))))), (48, none), (49, none), (50, some (.pint .i64)), (51, some (.prod .str (.prod (.pint .i64) (.prod (.int .i64) (.int .i64))))), (52, some (.prod .str (.prod (.pint .i64) (.prod (.int .i64) (.int .i64))))), (53, none), (54, none), (57, none), (60, none), (61, some (.int .u32)), (62, some (.int .u8)), (63, some (.int .u8)), (64, none), (65, some (.pint .u8)), (66, some (.int .i32)), (67, some (.int .i32))]
def tab : List (Nat × TI) := [
  (1, ⟨1, 8, .fnc, [(.v .nilFunc)], none⟩),
  (2, ⟨1, 8, (.int .i64), [(.v (.int .i64 (0 : Int)))], some (.int .i64)⟩),
  (3, ⟨1, 8, (.int .i64), [(.v (.int .i64 (0 : Int)))], some (.int .i64)⟩),
  (4, ⟨1, 1, .bool, [(.v (.bool false))], some .bool⟩),
  (5, ⟨1, 1, (.int .u8), [(.v (.int .u8 (0 : Int)))], some (.int .u8)⟩),
  (6, ⟨1, 1, (.int .u8), [(.v (.int .u8 (0 : Int)))], some (.int .u8)⟩),
  (7, ⟨4, 24, (.st [(0, 2), (1, 3), (2, 4), (3, 6)]), [(.v (.int .i64 (0 : Int))), (.v (.int .i64 (0 : Int))), (.v (.bool false)), (.v (.int .u8 (0 : Int)))], some (.prod (.int .i64) (.prod (.int .i64) (.prod .bool (.int .u8))))⟩),
  (8, ⟨4, 24, (.st [(0, 2), (1, 3), (2, 4), (3, 6)]), [(.v (.int .i64 (0 : Int))), (.v (.int .i64 (0 : Int))), (.v (.bool false)), (.v (.int .u8 (0 : Int)))], some (.prod (.int .i64) (.prod (.int .i64) (.prod .bool (.int .u8))))⟩),
  (9, ⟨1, 16, .str, [(.v (.string (⟨#[]⟩ : ByteArray)))], some .str⟩),
  (10, ⟨1, 16, .str, [(.v (.string (⟨#[]⟩ : ByteArray)))], some .str⟩),
  (11, ⟨1, 16, .str, [(.v (.string (⟨#[]⟩ : ByteArray)))], some .str⟩),
  (12, ⟨1, 8, (.int .u64), [(.v (.int .u64 (0 : Int)))], some (.int .u64)⟩),
  (15, ⟨1, 8, (.ptr 56), [(.v (.pointer none))], none⟩),
  (16, ⟨1, 8, (.ptr 59), [(.v (.pointer none))], none⟩),
  (17, ⟨1, 8, (.ptr 69), [(.v (.pointer none))], none⟩),
  (21, ⟨1, 4, (.int .i32), [(.v (.int .i32 (0 : Int)))], some (.int .i32)⟩),
  (22, ⟨23, 192, (.st [(0, 3), (1, 3), (2, 3), (3, 3), (4, 3), (5, 3), (6, 3), (7, 3), (8, 3), (9, 3), (10, 3), (11, 3), (12, 3), (13, 3), (14, 3), (15, 4), (16, 3), (17, 3), (18, 3), (19, 3), (20, 3), (21, 9), (22, 4)]), [(.v (.int .i64 (0 : Int))), (.v (.int .i64 (0 : Int))), (.v (.int .i64 (0 : Int))), (.v (.int .i64 (0 : Int))), (.v (.int .i64 (0 : Int))), (.v (.int .i64 (0 : Int))), (.v (.int .i64 (0 : Int))), (.v (.int .i64 (0 : Int))), (.v (.int .i64 (0 : Int))), (.v (.int .i64 (0 : Int))), (.v (.int .i64 (0 : Int))), (.v (.int .i64 (0 : Int))), (.v (.int .i64 (0 : Int))), (.v (.int .i64 (0 : Int))), (.v (.int .i64 (0 : Int))), (.v (.bool false)), (.v (.int .i64 (0 : Int))), (.v (.int .i64 (0 : Int))), (.v (.int .i64 (0 : Int))), (.v (.int .i64 (0 : Int))), (.v (.int .i64 (0 : Int))), (.v (.string (⟨#[]⟩ : ByteArray))), (.v (.bool false))], some (.prod (.int .i64) (.prod (.int .i64) (.prod (.int .i64) (.prod (.int .i64) (.prod (.int .i64) (.prod (.int .i64) (.prod (.int .i64) (.prod (.int .i64) (.prod (.int .i64) (.prod (.int .i64) (.prod (.int .i64) (.prod (.int .i64) (.prod (.int .i64) (.prod (.int .i64) (.prod (.int .i64) (.prod .bool (.prod (.int .i64) (.prod (.int .i64) (.prod (.int .i64) (.prod (.int .i64) (.prod (.int .i64) (.prod .str .bool))))))))))))))))))))))⟩),
  (23, ⟨23, 192, (.st [(0, 3), (1, 3), (2, 3), (3, 3), (4, 3), (5, 3), (6, 3), (7, 3), (8, 3), (9, 3), (10, 3), (11, 3), (12, 3), (13, 3), (14, 3), (15, 4), (16, 3), (17, 3), (18, 3), (19, 3), (20, 3), (21, 9), (22, 4)]), [(.v (.int .i64 (0 : Int))), (.v (.int .i64 (0 : Int))), (.v (.int .i64 (0 : Int))), (.v (.int .i64 (0 : Int))), (.v (.int .i64 (0 : Int))), (.v (.int .i64 (0 : Int))), (.v (.int .i64 (0 : Int))), (.v (.int .i64 (0 : Int))), (.v (.int .i64 (0 : Int))), (.v (.int .i64 (0 : Int))), (.v (.int .i64 (0 : Int))), (.v (.int .i64 (0 : Int))), (.v (.int .i64 (0 : Int))), (.v (.int .i64 (0 : Int))), (.v (.int .i64 (0 : Int))), (.v (.bool false)), (.v (.int .i64 (0 : Int))), (.v (.int .i64 (0 : Int))), (.v (.int .i64 (0 : Int))), (.v (.int .i64 (0 : Int))), (.v (.int .i64 (0 : Int))), (.v (.string (⟨#[]⟩ : ByteArray))), (.v (.bool false))], some (.prod (.int .i64) (.prod (.int .i64) (.prod (.int .i64) (.prod (.int .i64) (.prod (.int .i64) (.prod (.int .i64) (.prod (.int .i64) (.prod (.int .i64) (.prod (.int .i64) (.prod (.int .i64) (.prod (.int .i64) (.prod (.int .i64) (.prod (.int .i64) (.prod (.int .i64) (.prod (.int .i64) (.prod .bool (.prod (.int .i64) (.prod (.int .i64) (.prod (.int .i64) (.prod (.int .i64) (.prod (.int .i64) (.prod .str .bool))))))))))))))))))))))⟩),
  (24, ⟨1, 24, (.sl 4), [(.v (.slice none 0 0))], some (.sl .bool)⟩),
  (25, ⟨1, 8, .fnc, [(.v .nilFunc)], none⟩),
  (27, ⟨1, 8, .fnc, [(.v .nilFunc)], none⟩),
  (29, ⟨1, 8, .fnc, [(.v .nilFunc)], none⟩),
  (30, ⟨1, 8, .fnc, [(.v .nilFunc)], none⟩),
  (31, ⟨1, 8, .fnc, [(.v .nilFunc)], none⟩),
  (32, ⟨1, 8, (.int .u64), [(.v (.int .u64 (0 : Int)))], some (.int .u64)⟩),
  (33, ⟨1, 8, .fnc, [(.v .nilFunc)], none⟩),
  (34, ⟨1, 8, .fnc, [(.v .nilFunc)], none⟩),
  (35, ⟨1, 8, .fnc, [(.v .nilFunc)], none⟩),
  (36, ⟨1, 8, .fnc, [(.v .nilFunc)], none⟩),
  (37, ⟨1, 8, .fnc, [(.v .nilFunc)], none⟩),
  (38, ⟨1, 24, (.sl 3), [(.v (.slice none 0 0))], some (.sl (.int .i64))⟩),
  (39, ⟨1, 8, .fnc, [(.v .nilFunc)], none⟩),
  (40, ⟨1, 24, (.sl 43), [(.v (.slice none 0 0))], some (.sl (.prod .str (.prod (.int .i64) (.prod (.int .i64) (.int .i64)))))⟩),
  (41, ⟨1, 8, .fnc, [(.v .nilFunc)], none⟩),
  (42, ⟨4, 40, (.st [(0, 9), (1, 3), (2, 3), (3, 3)]), [(.v (.string (⟨#[]⟩ : ByteArray))), (.v (.int .i64 (0 : Int))), (.v (.int .i64 (0 : Int))), (.v (.int .i64 (0 : Int)))], some (.prod .str (.prod (.int .i64) (.prod (.int .i64) (.int .i64))))⟩),
  (43, ⟨4, 40, (.st [(0, 9), (1, 3), (2, 3), (3, 3)]), [(.v (.string (⟨#[]⟩ : ByteArray))), (.v (.int .i64 (0 : Int))), (.v (.int .i64 (0 : Int))), (.v (.int .i64 (0 : Int)))], some (.prod .str (.prod (.int .i64) (.prod (.int .i64) (.int .i64))))⟩),
  (44, ⟨1, 8, .fnc, [(.v .nilFunc)], none⟩),
  (45, ⟨1, 8, .fnc, [(.v .nilFunc)], none⟩),
  (46, ⟨1, 24, (.sl 52), [(.v (.slice none 0 0))], some (.sl (.prod .str (.prod (.pint .i64) (.prod (.int .i64) (.int .i64)))))⟩),
  (48, ⟨1, 8, .fnc, [(.v .nilFunc)], none⟩),
  (49, ⟨1, 8, (.ptr 23), [(.v (.pointer none))], none⟩),
  (50, ⟨1, 8, (.ptr 3), [(.v (.pointer none))], some (.pint .i64)⟩),
  (51, ⟨4, 40, (.st [(0, 9), (1, 50), (2, 3), (3, 3)]), [(.v (.string (⟨#[]⟩ : ByteArray))), (.v (.pointer none)), (.v (.int .i64 (0 : Int))), (.v (.int .i64 (0 : Int)))], some (.prod .str (.prod (.pint .i64) (.prod (.int .i64) (.int .i64))))⟩),
  (52, ⟨4, 40, (.st [(0, 9), (1, 50), (2, 3), (3, 3)]), [(.v (.string (⟨#[]⟩ : ByteArray))), (.v (.pointer none)), (.v (.int .i64 (0 : Int))), (.v (.int .i64 (0 : Int)))], some (.prod .str (.prod (.pint .i64) (.prod (.int .i64) (.int .i64))))⟩),
  (53, ⟨1, 8, .fnc, [(.v .nilFunc)], none⟩),
  (54, ⟨1, 8, .fnc, [(.v .nilFunc)], none⟩),
  (57, ⟨0, 0, (.arr 0 16), [], none⟩),
  (60, ⟨1, 8, .fnc, [(.v .nilFunc)], none⟩),
  (61, ⟨1, 4, (.int .u32), [(.v (.int .u32 (0 : Int)))], some (.int .u32)⟩),
  (62, ⟨1, 1, (.int .u8), [(.v (.int .u8 (0 : Int)))], some (.int .u8)⟩),
  (63, ⟨1, 1, (.int .u8), [(.v (.int .u8 (0 : Int)))], some (.int .u8)⟩),
  (64, ⟨1, 8, .fnc, [(.v .nilFunc)], none⟩),
  (65, ⟨1, 8, (.ptr 5), [(.v (.pointer none))], some (.pint .u8)⟩),
  (66, ⟨1, 4, (.int .i32), [(.v (.int .i32 (0 : Int)))], some (.int .i32)⟩),
  (67, ⟨1, 4, (.int .i32), [(.v (.int .i32 (0 : Int)))], some (.int .i32)⟩)]
theorem tab_ok : tabOf Try.prog tys = some tab := by kernel_rfl

theorem mixed : Try.prog.follows .mixedOrders = true := by kernel_rfl
theorem own0 : ownKnob Try.prog.godebug = none := by kernel_rfl
theorem laidOut0 : laidOutB Try.prog = true := by kernel_rfl

end Go.Proofs.Ytaikjghfccenfaa
