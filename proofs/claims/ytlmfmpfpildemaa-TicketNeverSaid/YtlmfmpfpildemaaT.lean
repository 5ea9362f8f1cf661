/-
  The types that the code reads, as the ideal machine has them.
-/
import Derived.Test.YtlmfmpfpildemaaVZo
import Derived.Test.YtlmfmpfpildemaaChecked
namespace Go.Proofs.Ytlmfmpfpildemaa
open Go VE

def tys : List (Nat × Option Ty) := [(1, none), (2, some (.int .i64)), (3, some (.int .i64)), (4, some .bool), (5, some (.int .u8)), (6, some (.int .u8)), (7, some (.prod (.int .i64) (.prod (.int .i64) (.prod .bool (.int .u8))))), (8, some (.prod (.int .i64) (.prod (.int .i64) (.prod .bool (.int .u8))))), (9, some .str), (10, some .str), (11, some .str), (12, some (.int .u64)), (15, none), (16, none), (17, none), (21, some (.int .i32)), (22, some (.sl (.int .i64))), (23, none), (24, none), (25, none), (26, some (.int .i64)), (28, none), (29, none), (30, some (.sl (.prod (.int .i64) (.int .i64)))), (31, none), (33, none), (34, some (.prod (.int .i64) (.int .i64))), (35, some (.prod (.int .i64) (.int .i64))), (36, none), (37, none), (38, some (.sl (.prod (.int .i64) (.int .i64)))), (39, some (.prod (.int .i64) (.int .i64))), (40, some (.prod (.int .i64) (.int .i64))), (41, some (.int .u64)), (42, none), (43, none), (44, none), (45, none), (46, some (.prod (.sl (.prod (.int .i64) (.int .i64))) (.int .i64))), (47, some (.prod (.sl (.prod (.int .i64) (.int .i64))) (.int .i64))), (48, none), (49, none), (50, some (.sl (.prod (.int .i64) (.int .i64)))), (51, some (.prod (.int .i64) (.sl (.prod (.int .i64) (.int .i64))))), (52, some (.prod (.int .i64) (.sl (.prod (.int .i64) (.int .i64))))), (53, some (.prod (.int .i64) (.int .i64))), (54, some (.prod (.int .i64) (.int .i64))), (55, none), (56, none), (57, none), (58, none), (59, none), (62, none), (65, some (.int .u32)), (66, some (.int .u8)), (67, some (.int .u8)), (68, none), (69, some (.pint .u8)), (70, some (.int .i32)), (71, some (.int .i32))]
def tab : List (Nat × TI) := [
  (1, ⟨1, 8, .fnc, [(.v .nilFunc)], none⟩),
  (2, ⟨1, 8, (.int .i64), [(.v (.int .i64 (0 : Int)))], some (.int .i64)⟩),
  (3, ⟨1, 8, (.int .i64), [(.v (.int .i64 (0 : Int)))], some (.int .i64)⟩),
  (4, ⟨1, 1, .bool, [(.v (.bool false))], some .bool⟩),
  (5, ⟨1, 1, (.int .u8), [(.v (.int .u8 (0 : Int)))], some (.int .u8)⟩),
  (6, ⟨1, 1, (.int .u8), [(.v (.int .u8 (0 : Int)))], some (.int .u8)⟩),
  (7, ⟨4, 24, (.st [(0, 2), (1, 3), (2, 4), (3, 6)]), [(.v (.int .i64 (0 : Int))), (.v (.int .i64 (0 : Int))), (.v (.bool false)), (.v (.int .u8 (0 : Int)))], some (.prod (.int .i64) (.prod (.int .i64) (.prod .bool (.int .u8))))⟩),
  (8, ⟨4, 24, (.st [(0, 2), (1, 3), (2, 4), (3, 6)]), [(.v (.int .i64 (0 : Int))), (.v (.int .i64 (0 : Int))), (.v (.bool false)), (.v (.int .u8 (0 : Int)))], some (.prod (.int .i64) (.prod (.int .i64) (.prod .bool (.int .u8))))⟩),
  (9, ⟨1, 16, .str, [(.v (.string (⟨#[]⟩ : ByteArray)))], some .str⟩),
  (10, ⟨1, 16, .str, [(.v (.string (⟨#[]⟩ : ByteArray)))], some .str⟩),
  (11, ⟨1, 16, .str, [(.v (.string (⟨#[]⟩ : ByteArray)))], some .str⟩),
  (12, ⟨1, 8, (.int .u64), [(.v (.int .u64 (0 : Int)))], some (.int .u64)⟩),
  (15, ⟨1, 8, (.ptr 61), [(.v (.pointer none))], none⟩),
  (16, ⟨1, 8, (.ptr 64), [(.v (.pointer none))], none⟩),
  (17, ⟨1, 8, (.ptr 73), [(.v (.pointer none))], none⟩),
  (21, ⟨1, 4, (.int .i32), [(.v (.int .i32 (0 : Int)))], some (.int .i32)⟩),
  (22, ⟨1, 24, (.sl 3), [(.v (.slice none 0 0))], some (.sl (.int .i64))⟩),
  (23, ⟨1, 8, .fnc, [(.v .nilFunc)], none⟩),
  (24, ⟨1, 8, (.ptr 52), [(.v (.pointer none))], none⟩),
  (25, ⟨1, 8, .fnc, [(.v .nilFunc)], none⟩),
  (26, ⟨1, 8, (.int .i64), [(.v (.int .i64 (0 : Int)))], some (.int .i64)⟩),
  (28, ⟨1, 8, .fnc, [(.v .nilFunc)], none⟩),
  (29, ⟨1, 8, (.map 3 3), [(.v (.map none))], none⟩),
  (30, ⟨1, 24, (.sl 35), [(.v (.slice none 0 0))], some (.sl (.prod (.int .i64) (.int .i64)))⟩),
  (31, ⟨1, 8, .fnc, [(.v .nilFunc)], none⟩),
  (33, ⟨1, 8, .fnc, [(.v .nilFunc)], none⟩),
  (34, ⟨2, 16, (.st [(0, 3), (1, 3)]), [(.v (.int .i64 (0 : Int))), (.v (.int .i64 (0 : Int)))], some (.prod (.int .i64) (.int .i64))⟩),
  (35, ⟨2, 16, (.st [(0, 3), (1, 3)]), [(.v (.int .i64 (0 : Int))), (.v (.int .i64 (0 : Int)))], some (.prod (.int .i64) (.int .i64))⟩),
  (36, ⟨1, 8, .fnc, [(.v .nilFunc)], none⟩),
  (37, ⟨1, 8, .fnc, [(.v .nilFunc)], none⟩),
  (38, ⟨1, 24, (.sl 40), [(.v (.slice none 0 0))], some (.sl (.prod (.int .i64) (.int .i64)))⟩),
  (39, ⟨2, 16, (.st [(0, 3), (1, 3)]), [(.v (.int .i64 (0 : Int))), (.v (.int .i64 (0 : Int)))], some (.prod (.int .i64) (.int .i64))⟩),
  (40, ⟨2, 16, (.st [(0, 3), (1, 3)]), [(.v (.int .i64 (0 : Int))), (.v (.int .i64 (0 : Int)))], some (.prod (.int .i64) (.int .i64))⟩),
  (41, ⟨1, 8, (.int .u64), [(.v (.int .u64 (0 : Int)))], some (.int .u64)⟩),
  (42, ⟨1, 8, .fnc, [(.v .nilFunc)], none⟩),
  (43, ⟨1, 8, .fnc, [(.v .nilFunc)], none⟩),
  (44, ⟨1, 8, .fnc, [(.v .nilFunc)], none⟩),
  (45, ⟨1, 8, (.ptr 47), [(.v (.pointer none))], none⟩),
  (46, ⟨2, 32, (.st [(0, 30), (1, 3)]), [(.v (.slice none 0 0)), (.v (.int .i64 (0 : Int)))], some (.prod (.sl (.prod (.int .i64) (.int .i64))) (.int .i64))⟩),
  (47, ⟨2, 32, (.st [(0, 30), (1, 3)]), [(.v (.slice none 0 0)), (.v (.int .i64 (0 : Int)))], some (.prod (.sl (.prod (.int .i64) (.int .i64))) (.int .i64))⟩),
  (48, ⟨1, 8, .fnc, [(.v .nilFunc)], none⟩),
  (49, ⟨1, 8, .fnc, [(.v .nilFunc)], none⟩),
  (50, ⟨1, 24, (.sl 54), [(.v (.slice none 0 0))], some (.sl (.prod (.int .i64) (.int .i64)))⟩),
  (51, ⟨2, 32, (.st [(0, 3), (1, 50)]), [(.v (.int .i64 (0 : Int))), (.v (.slice none 0 0))], some (.prod (.int .i64) (.sl (.prod (.int .i64) (.int .i64))))⟩),
  (52, ⟨2, 32, (.st [(0, 3), (1, 50)]), [(.v (.int .i64 (0 : Int))), (.v (.slice none 0 0))], some (.prod (.int .i64) (.sl (.prod (.int .i64) (.int .i64))))⟩),
  (53, ⟨2, 16, (.st [(0, 3), (1, 3)]), [(.v (.int .i64 (0 : Int))), (.v (.int .i64 (0 : Int)))], some (.prod (.int .i64) (.int .i64))⟩),
  (54, ⟨2, 16, (.st [(0, 3), (1, 3)]), [(.v (.int .i64 (0 : Int))), (.v (.int .i64 (0 : Int)))], some (.prod (.int .i64) (.int .i64))⟩),
  (55, ⟨1, 8, .fnc, [(.v .nilFunc)], none⟩),
  (56, ⟨1, 8, .fnc, [(.v .nilFunc)], none⟩),
  (57, ⟨1, 8, .fnc, [(.v .nilFunc)], none⟩),
  (58, ⟨1, 8, .fnc, [(.v .nilFunc)], none⟩),
  (59, ⟨1, 8, .fnc, [(.v .nilFunc)], none⟩),
  (62, ⟨0, 0, (.arr 0 16), [], none⟩),
  (65, ⟨1, 4, (.int .u32), [(.v (.int .u32 (0 : Int)))], some (.int .u32)⟩),
  (66, ⟨1, 1, (.int .u8), [(.v (.int .u8 (0 : Int)))], some (.int .u8)⟩),
  (67, ⟨1, 1, (.int .u8), [(.v (.int .u8 (0 : Int)))], some (.int .u8)⟩),
  (68, ⟨1, 8, .fnc, [(.v .nilFunc)], none⟩),
  (69, ⟨1, 8, (.ptr 5), [(.v (.pointer none))], some (.pint .u8)⟩),
  (70, ⟨1, 4, (.int .i32), [(.v (.int .i32 (0 : Int)))], some (.int .i32)⟩),
  (71, ⟨1, 4, (.int .i32), [(.v (.int .i32 (0 : Int)))], some (.int .i32)⟩)]
theorem tab_ok : tabOf Try.prog tys = some tab := by kernel_rfl

theorem mixed : Try.prog.follows .mixedOrders = true := by kernel_rfl
theorem own0 : ownKnob Try.prog.godebug = none := by kernel_rfl
theorem laidOut0 : laidOutB Try.prog = true := by kernel_rfl

end Go.Proofs.Ytlmfmpfpildemaa
