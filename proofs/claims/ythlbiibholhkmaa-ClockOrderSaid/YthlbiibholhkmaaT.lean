/-
  The types that the code reads, as the ideal machine has them.
-/
import Derived.Test.YthlbiibholhkmaaVV
import Derived.Test.YthlbiibholhkmaaChecked
namespace Go.Proofs.Ythlbiibholhkmaa
open Go VE

def tys : List (Nat × Option Ty) := [(1, none), (2, some (.int .i64)), (3, some (.int .i64)), (4, some .bool), (5, some (.int .u8)), (6, some (.int .u8)), (7, some (.prod (.int .i64) (.prod (.int .i64) (.prod .bool (.int .u8))))), (8, some (.prod (.int .i64) (.prod (.int .i64) (.prod .bool (.int .u8))))), (9, some .str), (10, some .str), (11, some .str), (12, some (.int .u64)), (15, none), (16, none), (17, none), (21, some (.int .i32)), (22, some (.sl (.prod (.int .i64) (.prod (.int .i64) (.prod (.int .i64) (.int .i64)))))), (23, none), (24, none), (25, none), (26, some (.prod (.int .i64) (.prod (.int .i64) (.int .i64)))), (27, some (.prod (.int .i64) (.prod (.int .i64) (.int .i64)))), (28, some (.prod (.int .i64) (.prod (.int .i64) (.prod (.int .i64) (.int .i64))))), (29, some (.prod (.int .i64) (.prod (.int .i64) (.prod (.int .i64) (.int .i64))))), (30, none), (31, none), (33, none), (34, none), (35, some (.sl (.prod (.int .i64) (.prod (.int .i64) (.int .i64))))), (36, none), (37, none), (38, some (.int .u64)), (39, none), (40, none), (41, none), (43, none), (44, some (.prod (.int .i64) (.sl (.prod (.int .i64) (.prod (.int .i64) (.int .i64)))))), (45, some (.prod (.int .i64) (.sl (.prod (.int .i64) (.prod (.int .i64) (.int .i64)))))), (46, none), (47, none), (48, none), (49, none), (50, some (.prod (.int .i64) (.int .i64))), (51, none), (52, some (.sl (.int .i64))), (53, none), (54, some (.prod (.int .i64) (.sl (.prod (.int .i64) (.prod (.int .i64) (.int .i64)))))), (55, some (.prod (.int .i64) (.sl (.prod (.int .i64) (.prod (.int .i64) (.int .i64)))))), (56, none), (57, none), (58, none), (59, none), (60, none), (61, none), (62, none), (63, some (.int .u64)), (64, some (.prod (.int .i64) (.int .i64))), (65, some (.prod (.int .i64) (.int .i64))), (66, none), (67, none), (68, none), (69, none), (70, none), (73, none), (76, some (.int .u32)), (77, some (.int .u8)), (78, some (.int .u8)), (79, none), (80, some (.pint .u8)), (81, some (.int .i32)), (82, some (.int .i32))]
def tab : List (Nat × TI) := [
  (1, ⟨1, 8, .fnc, [(.v .nilFunc)], none⟩),
  (2, ⟨1, 8, (.int .i64), [(.v (.int .i64 (0 : Int)))], some (.int .i64)⟩),
  (3, ⟨1, 8, (.int .i64), [(.v (.int .i64 (0 : Int)))], some (.int .i64)⟩),
  (4, ⟨1, 1, .bool, [(.v (.bool false))], some .bool⟩),
  (5, ⟨1, 1, (.int .u8), [(.v (.int .u8 (0 : Int)))], some (.int .u8)⟩),
  (6, ⟨1, 1, (.int .u8), [(.v (.int .u8 (0 : Int)))], some (.int .u8)⟩),
  (7, ⟨4, 24, (.st [(0, 2), (1, 3), (2, 4), (3, 6)]), [(.v (.int .i64 (0 : Int))), (.v (.int .i64 (0 : Int))), (.v (.bool false)), (.v (.int .u8 (0 : Int)))], some (.prod (.int .i64) (.prod (.int .i64) (.prod .bool (.int .u8))))⟩),
  (8, ⟨4, 24, (.st [(0, 2), (1, 3), (2, 4), (3, 6)]), [(.v (.int .i64 (0 : Int))), (.v (.int .i64 (0 : Int))), (.v (.bool false)), (.v (.int .u8 (0 : Int)))], some (.prod (.int .i64) (.prod (.int .i64) (.prod .bool (.int .u8))))⟩),
  (9, ⟨1, 16, .str, [(.v (.string (⟨#[]⟩ : ByteArray)))], some .str⟩),
  (10, ⟨1, 16, .str, [(.v (.string (⟨#[]⟩ : ByteArray)))], some .str⟩),
  (11, ⟨1, 16, .str, [(.v (.string (⟨#[]⟩ : ByteArray)))], some .str⟩),
  (12, ⟨1, 8, (.int .u64), [(.v (.int .u64 (0 : Int)))], some (.int .u64)⟩),
  (15, ⟨1, 8, (.ptr 72), [(.v (.pointer none))], none⟩),
  (16, ⟨1, 8, (.ptr 75), [(.v (.pointer none))], none⟩),
  (17, ⟨1, 8, (.ptr 84), [(.v (.pointer none))], none⟩),
  (21, ⟨1, 4, (.int .i32), [(.v (.int .i32 (0 : Int)))], some (.int .i32)⟩),
  (22, ⟨1, 24, (.sl 29), [(.v (.slice none 0 0))], some (.sl (.prod (.int .i64) (.prod (.int .i64) (.prod (.int .i64) (.int .i64)))))⟩),
  (23, ⟨1, 8, .fnc, [(.v .nilFunc)], none⟩),
  (24, ⟨1, 8, (.ptr 55), [(.v (.pointer none))], none⟩),
  (25, ⟨1, 8, .fnc, [(.v .nilFunc)], none⟩),
  (26, ⟨3, 24, (.st [(0, 3), (1, 3), (2, 3)]), [(.v (.int .i64 (0 : Int))), (.v (.int .i64 (0 : Int))), (.v (.int .i64 (0 : Int)))], some (.prod (.int .i64) (.prod (.int .i64) (.int .i64)))⟩),
  (27, ⟨3, 24, (.st [(0, 3), (1, 3), (2, 3)]), [(.v (.int .i64 (0 : Int))), (.v (.int .i64 (0 : Int))), (.v (.int .i64 (0 : Int)))], some (.prod (.int .i64) (.prod (.int .i64) (.int .i64)))⟩),
  (28, ⟨4, 32, (.st [(0, 3), (1, 27)]), [(.v (.int .i64 (0 : Int))), (.v (.int .i64 (0 : Int))), (.v (.int .i64 (0 : Int))), (.v (.int .i64 (0 : Int)))], some (.prod (.int .i64) (.prod (.int .i64) (.prod (.int .i64) (.int .i64))))⟩),
  (29, ⟨4, 32, (.st [(0, 3), (1, 27)]), [(.v (.int .i64 (0 : Int))), (.v (.int .i64 (0 : Int))), (.v (.int .i64 (0 : Int))), (.v (.int .i64 (0 : Int)))], some (.prod (.int .i64) (.prod (.int .i64) (.prod (.int .i64) (.int .i64))))⟩),
  (30, ⟨1, 8, .fnc, [(.v .nilFunc)], none⟩),
  (31, ⟨1, 8, .fnc, [(.v .nilFunc)], none⟩),
  (33, ⟨1, 8, .fnc, [(.v .nilFunc)], none⟩),
  (34, ⟨1, 8, .fnc, [(.v .nilFunc)], none⟩),
  (35, ⟨1, 24, (.sl 27), [(.v (.slice none 0 0))], some (.sl (.prod (.int .i64) (.prod (.int .i64) (.int .i64))))⟩),
  (36, ⟨1, 8, .fnc, [(.v .nilFunc)], none⟩),
  (37, ⟨1, 8, .fnc, [(.v .nilFunc)], none⟩),
  (38, ⟨1, 8, (.int .u64), [(.v (.int .u64 (0 : Int)))], some (.int .u64)⟩),
  (39, ⟨1, 8, .fnc, [(.v .nilFunc)], none⟩),
  (40, ⟨1, 8, (.ptr 45), [(.v (.pointer none))], none⟩),
  (41, ⟨1, 8, .fnc, [(.v .nilFunc)], none⟩),
  (43, ⟨1, 8, .fnc, [(.v .nilFunc)], none⟩),
  (44, ⟨2, 32, (.st [(0, 3), (1, 35)]), [(.v (.int .i64 (0 : Int))), (.v (.slice none 0 0))], some (.prod (.int .i64) (.sl (.prod (.int .i64) (.prod (.int .i64) (.int .i64)))))⟩),
  (45, ⟨2, 32, (.st [(0, 3), (1, 35)]), [(.v (.int .i64 (0 : Int))), (.v (.slice none 0 0))], some (.prod (.int .i64) (.sl (.prod (.int .i64) (.prod (.int .i64) (.int .i64)))))⟩),
  (46, ⟨1, 8, .fnc, [(.v .nilFunc)], none⟩),
  (47, ⟨1, 8, .fnc, [(.v .nilFunc)], none⟩),
  (48, ⟨1, 8, .fnc, [(.v .nilFunc)], none⟩),
  (49, ⟨1, 8, (.map 27 3), [(.v (.map none))], none⟩),
  (50, ⟨2, 16, (.arr 2 3), [(.v (.int .i64 (0 : Int))), (.v (.int .i64 (0 : Int)))], some (.prod (.int .i64) (.int .i64))⟩),
  (51, ⟨1, 8, .fnc, [(.v .nilFunc)], none⟩),
  (52, ⟨1, 24, (.sl 3), [(.v (.slice none 0 0))], some (.sl (.int .i64))⟩),
  (53, ⟨1, 8, .fnc, [(.v .nilFunc)], none⟩),
  (54, ⟨2, 32, (.st [(0, 3), (1, 35)]), [(.v (.int .i64 (0 : Int))), (.v (.slice none 0 0))], some (.prod (.int .i64) (.sl (.prod (.int .i64) (.prod (.int .i64) (.int .i64)))))⟩),
  (55, ⟨2, 32, (.st [(0, 3), (1, 35)]), [(.v (.int .i64 (0 : Int))), (.v (.slice none 0 0))], some (.prod (.int .i64) (.sl (.prod (.int .i64) (.prod (.int .i64) (.int .i64)))))⟩),
  (56, ⟨1, 8, .fnc, [(.v .nilFunc)], none⟩),
  (57, ⟨1, 8, .fnc, [(.v .nilFunc)], none⟩),
  (58, ⟨1, 8, .fnc, [(.v .nilFunc)], none⟩),
  (59, ⟨1, 8, .fnc, [(.v .nilFunc)], none⟩),
  (60, ⟨1, 8, .fnc, [(.v .nilFunc)], none⟩),
  (61, ⟨1, 8, .fnc, [(.v .nilFunc)], none⟩),
  (62, ⟨1, 8, .fnc, [(.v .nilFunc)], none⟩),
  (63, ⟨1, 8, (.int .u64), [(.v (.int .u64 (0 : Int)))], some (.int .u64)⟩),
  (64, ⟨2, 16, (.st [(0, 3), (1, 3)]), [(.v (.int .i64 (0 : Int))), (.v (.int .i64 (0 : Int)))], some (.prod (.int .i64) (.int .i64))⟩),
  (65, ⟨2, 16, (.st [(0, 3), (1, 3)]), [(.v (.int .i64 (0 : Int))), (.v (.int .i64 (0 : Int)))], some (.prod (.int .i64) (.int .i64))⟩),
  (66, ⟨1, 8, .fnc, [(.v .nilFunc)], none⟩),
  (67, ⟨1, 8, .fnc, [(.v .nilFunc)], none⟩),
  (68, ⟨1, 8, .fnc, [(.v .nilFunc)], none⟩),
  (69, ⟨1, 8, .fnc, [(.v .nilFunc)], none⟩),
  (70, ⟨1, 8, .fnc, [(.v .nilFunc)], none⟩),
  (73, ⟨0, 0, (.arr 0 16), [], none⟩),
  (76, ⟨1, 4, (.int .u32), [(.v (.int .u32 (0 : Int)))], some (.int .u32)⟩),
  (77, ⟨1, 1, (.int .u8), [(.v (.int .u8 (0 : Int)))], some (.int .u8)⟩),
  (78, ⟨1, 1, (.int .u8), [(.v (.int .u8 (0 : Int)))], some (.int .u8)⟩),
  (79, ⟨1, 8, .fnc, [(.v .nilFunc)], none⟩),
  (80, ⟨1, 8, (.ptr 5), [(.v (.pointer none))], some (.pint .u8)⟩),
  (81, ⟨1, 4, (.int .i32), [(.v (.int .i32 (0 : Int)))], some (.int .i32)⟩),
  (82, ⟨1, 4, (.int .i32), [(.v (.int .i32 (0 : Int)))], some (.int .i32)⟩)]
theorem tab_ok : tabOf Try.prog tys = some tab := by kernel_rfl

theorem mixed : Try.prog.follows .mixedOrders = true := by kernel_rfl
theorem own0 : ownKnob Try.prog.godebug = none := by kernel_rfl
theorem laidOut0 : laidOutB Try.prog = true := by kernel_rfl

end Go.Proofs.Ythlbiibholhkmaa
