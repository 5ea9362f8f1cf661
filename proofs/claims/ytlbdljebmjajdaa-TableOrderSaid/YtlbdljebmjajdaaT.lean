/-
  The types that the code reads, as the ideal machine has them.
-/
import Derived.Test.YtlbdljebmjajdaaVV
import Derived.Test.YtlbdljebmjajdaaChecked
namespace Go.Proofs.Ytlbdljebmjajdaa
open Go VE

def tys : List (Nat × Option Ty) := [(1, none), (2, some (.int .i64)), (3, some (.int .i64)), (4, some .bool), (5, some (.int .u8)), (6, some (.int .u8)), (7, some (.prod (.int .i64) (.prod (.int .i64) (.prod .bool (.int .u8))))), (8, some (.prod (.int .i64) (.prod (.int .i64) (.prod .bool (.int .u8))))), (9, some .str), (10, some .str), (11, some .str), (12, some (.int .u64)), (15, none), (16, none), (17, none), (21, some (.int .i32)), (22, some (.sl (.prod (.int .i64) (.prod .str (.prod (.int .i64) (.prod .str (.prod (.int .i64) (.sl (.prod .str .str))))))))), (23, none), (24, none), (25, none), (26, some (.sl (.int .i64))), (27, some (.int .i64)), (29, none), (30, none), (31, none), (32, some (.sl (.prod .str .str))), (33, some (.prod (.int .i64) (.prod .str (.prod (.int .i64) (.prod .str (.prod (.int .i64) (.sl (.prod .str .str)))))))), (34, some (.prod (.int .i64) (.prod .str (.prod (.int .i64) (.prod .str (.prod (.int .i64) (.sl (.prod .str .str)))))))), (35, none), (36, none), (37, some (.int .u64)), (39, none), (40, none), (41, none), (42, none), (43, none), (44, none), (45, none), (46, none), (47, none), (48, none), (49, none), (50, some (.prod .str .str)), (51, some (.prod .str .str)), (53, none), (54, some (.sl (.prod (.int .i64) (.int .i64)))), (55, none), (56, some (.prod (.int .i64) (.int .i64))), (57, some (.prod (.int .i64) (.int .i64))), (58, none), (59, none), (60, none), (61, none), (62, none), (63, none), (64, none), (65, none), (66, none), (67, none), (68, none), (69, none), (70, none), (71, none), (72, none), (73, none), (74, none), (77, none), (80, none), (81, some (.int .u32)), (82, some (.int .u8)), (83, some (.int .u8)), (84, none), (85, some (.pint .u8)), (86, some (.int .i32)), (87, some (.int .i32))]
def tab : List (Nat × TI) := [
  (1, ⟨1, 8, .fnc, [(.v .nilFunc)], none⟩),
  (2, ⟨1, 8, (.int .i64), [(.v (.int .i64 (0 : Int)))], some (.int .i64)⟩),
  (3, ⟨1, 8, (.int .i64), [(.v (.int .i64 (0 : Int)))], some (.int .i64)⟩),
  (4, ⟨1, 1, .bool, [(.v (.bool false))], some .bool⟩),
  (5, ⟨1, 1, (.int .u8), [(.v (.int .u8 (0 : Int)))], some (.int .u8)⟩),
  (6, ⟨1, 1, (.int .u8), [(.v (.int .u8 (0 : Int)))], some (.int .u8)⟩),
  (7, ⟨4, 24, (.st [(0, 2), (1, 3), (2, 4), (3, 6)]), [(.v (.int .i64 (0 : Int))), (.v (.int .i64 (0 : Int))), (.v (.bool false)), (.v (.int .u8 (0 : Int)))], some (.prod (.int .i64) (.prod (.int .i64) (.prod .bool (.int .u8))))⟩),
  (8, ⟨4, 24, (.st [(0, 2), (1, 3), (2, 4), (3, 6)]), [(.v (.int .i64 (0 : Int))), (.v (.int .i64 (0 : Int))), (.v (.bool false)), (.v (.int .u8 (0 : Int)))], some (.prod (.int .i64) (.prod (.int .i64) (.prod .bool (.int .u8))))⟩),
  (9, ⟨1, 16, .str, [(.v (.string (⟨#[]⟩ : ByteArray)))], some .str⟩),
  (10, ⟨1, 16, .str, [(.v (.string (⟨#[]⟩ : ByteArray)))], some .str⟩),
  (11, ⟨1, 16, .str, [(.v (.string (⟨#[]⟩ : ByteArray)))], some .str⟩),
  (12, ⟨1, 8, (.int .u64), [(.v (.int .u64 (0 : Int)))], some (.int .u64)⟩),
  (15, ⟨1, 8, (.ptr 76), [(.v (.pointer none))], none⟩),
  (16, ⟨1, 8, (.ptr 79), [(.v (.pointer none))], none⟩),
  (17, ⟨1, 8, (.ptr 89), [(.v (.pointer none))], none⟩),
  (21, ⟨1, 4, (.int .i32), [(.v (.int .i32 (0 : Int)))], some (.int .i32)⟩),
  (22, ⟨1, 24, (.sl 34), [(.v (.slice none 0 0))], some (.sl (.prod (.int .i64) (.prod .str (.prod (.int .i64) (.prod .str (.prod (.int .i64) (.sl (.prod .str .str))))))))⟩),
  (23, ⟨1, 8, .fnc, [(.v .nilFunc)], none⟩),
  (24, ⟨1, 8, .fnc, [(.v .nilFunc)], none⟩),
  (25, ⟨1, 8, .fnc, [(.v .nilFunc)], none⟩),
  (26, ⟨1, 24, (.sl 3), [(.v (.slice none 0 0))], some (.sl (.int .i64))⟩),
  (27, ⟨1, 8, (.int .i64), [(.v (.int .i64 (0 : Int)))], some (.int .i64)⟩),
  (29, ⟨1, 8, .fnc, [(.v .nilFunc)], none⟩),
  (30, ⟨1, 8, .fnc, [(.v .nilFunc)], none⟩),
  (31, ⟨1, 8, .fnc, [(.v .nilFunc)], none⟩),
  (32, ⟨1, 24, (.sl 51), [(.v (.slice none 0 0))], some (.sl (.prod .str .str))⟩),
  (33, ⟨6, 80, (.st [(0, 3), (1, 9), (2, 3), (3, 9), (4, 3), (5, 32)]), [(.v (.int .i64 (0 : Int))), (.v (.string (⟨#[]⟩ : ByteArray))), (.v (.int .i64 (0 : Int))), (.v (.string (⟨#[]⟩ : ByteArray))), (.v (.int .i64 (0 : Int))), (.v (.slice none 0 0))], some (.prod (.int .i64) (.prod .str (.prod (.int .i64) (.prod .str (.prod (.int .i64) (.sl (.prod .str .str)))))))⟩),
  (34, ⟨6, 80, (.st [(0, 3), (1, 9), (2, 3), (3, 9), (4, 3), (5, 32)]), [(.v (.int .i64 (0 : Int))), (.v (.string (⟨#[]⟩ : ByteArray))), (.v (.int .i64 (0 : Int))), (.v (.string (⟨#[]⟩ : ByteArray))), (.v (.int .i64 (0 : Int))), (.v (.slice none 0 0))], some (.prod (.int .i64) (.prod .str (.prod (.int .i64) (.prod .str (.prod (.int .i64) (.sl (.prod .str .str)))))))⟩),
  (35, ⟨1, 8, .fnc, [(.v .nilFunc)], none⟩),
  (36, ⟨1, 8, .fnc, [(.v .nilFunc)], none⟩),
  (37, ⟨1, 8, (.int .u64), [(.v (.int .u64 (0 : Int)))], some (.int .u64)⟩),
  (39, ⟨1, 8, .fnc, [(.v .nilFunc)], none⟩),
  (40, ⟨1, 8, .fnc, [(.v .nilFunc)], none⟩),
  (41, ⟨1, 8, .fnc, [(.v .nilFunc)], none⟩),
  (42, ⟨1, 8, .fnc, [(.v .nilFunc)], none⟩),
  (43, ⟨1, 8, .fnc, [(.v .nilFunc)], none⟩),
  (44, ⟨1, 8, .fnc, [(.v .nilFunc)], none⟩),
  (45, ⟨1, 8, .fnc, [(.v .nilFunc)], none⟩),
  (46, ⟨1, 8, .fnc, [(.v .nilFunc)], none⟩),
  (47, ⟨1, 8, .fnc, [(.v .nilFunc)], none⟩),
  (48, ⟨1, 8, .fnc, [(.v .nilFunc)], none⟩),
  (49, ⟨1, 8, .fnc, [(.v .nilFunc)], none⟩),
  (50, ⟨2, 32, (.st [(0, 9), (1, 9)]), [(.v (.string (⟨#[]⟩ : ByteArray))), (.v (.string (⟨#[]⟩ : ByteArray)))], some (.prod .str .str)⟩),
  (51, ⟨2, 32, (.st [(0, 9), (1, 9)]), [(.v (.string (⟨#[]⟩ : ByteArray))), (.v (.string (⟨#[]⟩ : ByteArray)))], some (.prod .str .str)⟩),
  (53, ⟨1, 8, .fnc, [(.v .nilFunc)], none⟩),
  (54, ⟨1, 24, (.sl 57), [(.v (.slice none 0 0))], some (.sl (.prod (.int .i64) (.int .i64)))⟩),
  (55, ⟨1, 8, .fnc, [(.v .nilFunc)], none⟩),
  (56, ⟨2, 16, (.st [(0, 3), (1, 3)]), [(.v (.int .i64 (0 : Int))), (.v (.int .i64 (0 : Int)))], some (.prod (.int .i64) (.int .i64))⟩),
  (57, ⟨2, 16, (.st [(0, 3), (1, 3)]), [(.v (.int .i64 (0 : Int))), (.v (.int .i64 (0 : Int)))], some (.prod (.int .i64) (.int .i64))⟩),
  (58, ⟨1, 8, .fnc, [(.v .nilFunc)], none⟩),
  (59, ⟨1, 8, .fnc, [(.v .nilFunc)], none⟩),
  (60, ⟨1, 8, .fnc, [(.v .nilFunc)], none⟩),
  (61, ⟨1, 8, .fnc, [(.v .nilFunc)], none⟩),
  (62, ⟨1, 8, .fnc, [(.v .nilFunc)], none⟩),
  (63, ⟨1, 8, .fnc, [(.v .nilFunc)], none⟩),
  (64, ⟨1, 8, .fnc, [(.v .nilFunc)], none⟩),
  (65, ⟨1, 8, .fnc, [(.v .nilFunc)], none⟩),
  (66, ⟨1, 8, .fnc, [(.v .nilFunc)], none⟩),
  (67, ⟨1, 8, .fnc, [(.v .nilFunc)], none⟩),
  (68, ⟨1, 8, .fnc, [(.v .nilFunc)], none⟩),
  (69, ⟨1, 8, .fnc, [(.v .nilFunc)], none⟩),
  (70, ⟨1, 8, .fnc, [(.v .nilFunc)], none⟩),
  (71, ⟨1, 8, .fnc, [(.v .nilFunc)], none⟩),
  (72, ⟨1, 8, .fnc, [(.v .nilFunc)], none⟩),
  (73, ⟨1, 8, .fnc, [(.v .nilFunc)], none⟩),
  (74, ⟨1, 8, .fnc, [(.v .nilFunc)], none⟩),
  (77, ⟨0, 0, (.arr 0 16), [], none⟩),
  (80, ⟨1, 8, .fnc, [(.v .nilFunc)], none⟩),
  (81, ⟨1, 4, (.int .u32), [(.v (.int .u32 (0 : Int)))], some (.int .u32)⟩),
  (82, ⟨1, 1, (.int .u8), [(.v (.int .u8 (0 : Int)))], some (.int .u8)⟩),
  (83, ⟨1, 1, (.int .u8), [(.v (.int .u8 (0 : Int)))], some (.int .u8)⟩),
  (84, ⟨1, 8, .fnc, [(.v .nilFunc)], none⟩),
  (85, ⟨1, 8, (.ptr 5), [(.v (.pointer none))], some (.pint .u8)⟩),
  (86, ⟨1, 4, (.int .i32), [(.v (.int .i32 (0 : Int)))], some (.int .i32)⟩),
  (87, ⟨1, 4, (.int .i32), [(.v (.int .i32 (0 : Int)))], some (.int .i32)⟩)]
theorem tab_ok : tabOf Try.prog tys = some tab := by kernel_rfl

theorem mixed : Try.prog.follows .mixedOrders = true := by kernel_rfl
theorem own0 : ownKnob Try.prog.godebug = none := by kernel_rfl
theorem laidOut0 : laidOutB Try.prog = true := by kernel_rfl

end Go.Proofs.Ytlbdljebmjajdaa
