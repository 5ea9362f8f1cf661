/-
  The types that the code reads, as the ideal machine has them.
-/
import Derived.Test.YtlaifjifgoadkaaVV
import Derived.Test.YtlaifjifgoadkaaChecked
namespace Go.Proofs.Ytlaifjifgoadkaa
open Go VE

def tys : List (Nat × Option Ty) := [(1, none), (2, some (.int .i64)), (3, some (.int .i64)), (4, some .bool), (5, some (.int .u8)), (6, some (.int .u8)), (7, some (.prod (.int .i64) (.prod (.int .i64) (.prod .bool (.int .u8))))), (8, some (.prod (.int .i64) (.prod (.int .i64) (.prod .bool (.int .u8))))), (9, some .str), (10, some .str), (11, some .str), (12, some (.int .u64)), (15, none), (16, none), (17, none), (21, some (.int .i32)), (22, some (.sl (.prod (.int .i64) (.int .i64)))), (23, some (.prod (.int .i64) (.int .i64))), (24, some (.prod (.int .i64) (.int .i64))), (25, none), (26, none), (27, none), (28, some (.sl (.prod (.int .i64) (.int .i64)))), (29, none), (30, none), (31, none), (33, none), (34, none), (35, none), (36, some (.int .u64)), (37, none), (38, none), (39, none), (40, none), (41, none), (42, none), (43, some (.prod (.int .i64) (.int .i64))), (44, none), (45, none), (48, none), (51, none), (52, some (.int .u32)), (53, some (.int .u8)), (54, some (.int .u8)), (55, none), (56, some (.pint .u8)), (57, some (.int .i32)), (58, some (.int .i32))]
def tab : List (Nat × TI) := [
  (1, ⟨1, 8, .fnc, [(.v .nilFunc)], none⟩),
  (2, ⟨1, 8, (.int .i64), [(.v (.int .i64 (0 : Int)))], some (.int .i64)⟩),
  (3, ⟨1, 8, (.int .i64), [(.v (.int .i64 (0 : Int)))], some (.int .i64)⟩),
  (4, ⟨1, 1, .bool, [(.v (.bool false))], some .bool⟩),
  (5, ⟨1, 1, (.int .u8), [(.v (.int .u8 (0 : Int)))], some (.int .u8)⟩),
  (6, ⟨1, 1, (.int .u8), [(.v (.int .u8 (0 : Int)))], some (.int .u8)⟩),
  (7, ⟨4, 24, (.st [(0, 2), (1, 3), (2, 4), (3, 6)]), [(.v (.int .i64 (0 : Int))), (.v (.int .i64 (0 : Int))), (.v (.bool false)), (.v (.int .u8 (0 : Int)))], some (.prod (.int .i64) (.prod (.int .i64) (.prod .bool (.int .u8))))⟩),
  (8, ⟨4, 24, (.st [(0, 2), (1, 3), (2, 4), (3, 6)]), [(.v (.int .i64 (0 : Int))), (.v (.int .i64 (0 : Int))), (.v (.bool false)), (.v (.int .u8 (0 : Int)))], some (.prod (.int .i64) (.prod (.int .i64) (.prod .bool (.int .u8))))⟩),
  (9, ⟨1, 16, .str, [(.v (.string (⟨#[]⟩ : ByteArray)))], some .str⟩),
  (10, ⟨1, 16, .str, [(.v (.string (⟨#[]⟩ : ByteArray)))], some .str⟩),
  (11, ⟨1, 16, .str, [(.v (.string (⟨#[]⟩ : ByteArray)))], some .str⟩),
  (12, ⟨1, 8, (.int .u64), [(.v (.int .u64 (0 : Int)))], some (.int .u64)⟩),
  (15, ⟨1, 8, (.ptr 47), [(.v (.pointer none))], none⟩),
  (16, ⟨1, 8, (.ptr 50), [(.v (.pointer none))], none⟩),
  (17, ⟨1, 8, (.ptr 60), [(.v (.pointer none))], none⟩),
  (21, ⟨1, 4, (.int .i32), [(.v (.int .i32 (0 : Int)))], some (.int .i32)⟩),
  (22, ⟨1, 24, (.sl 24), [(.v (.slice none 0 0))], some (.sl (.prod (.int .i64) (.int .i64)))⟩),
  (23, ⟨2, 16, (.st [(0, 3), (1, 3)]), [(.v (.int .i64 (0 : Int))), (.v (.int .i64 (0 : Int)))], some (.prod (.int .i64) (.int .i64))⟩),
  (24, ⟨2, 16, (.st [(0, 3), (1, 3)]), [(.v (.int .i64 (0 : Int))), (.v (.int .i64 (0 : Int)))], some (.prod (.int .i64) (.int .i64))⟩),
  (25, ⟨1, 8, .fnc, [(.v .nilFunc)], none⟩),
  (26, ⟨1, 8, .fnc, [(.v .nilFunc)], none⟩),
  (27, ⟨1, 8, .fnc, [(.v .nilFunc)], none⟩),
  (28, ⟨1, 24, (.sl 43), [(.v (.slice none 0 0))], some (.sl (.prod (.int .i64) (.int .i64)))⟩),
  (29, ⟨1, 8, .fnc, [(.v .nilFunc)], none⟩),
  (30, ⟨1, 8, .fnc, [(.v .nilFunc)], none⟩),
  (31, ⟨1, 8, .fnc, [(.v .nilFunc)], none⟩),
  (33, ⟨1, 8, .fnc, [(.v .nilFunc)], none⟩),
  (34, ⟨1, 8, .fnc, [(.v .nilFunc)], none⟩),
  (35, ⟨1, 8, .fnc, [(.v .nilFunc)], none⟩),
  (36, ⟨1, 8, (.int .u64), [(.v (.int .u64 (0 : Int)))], some (.int .u64)⟩),
  (37, ⟨1, 8, (.map 24 3), [(.v (.map none))], none⟩),
  (38, ⟨1, 8, .fnc, [(.v .nilFunc)], none⟩),
  (39, ⟨1, 8, .fnc, [(.v .nilFunc)], none⟩),
  (40, ⟨1, 8, .fnc, [(.v .nilFunc)], none⟩),
  (41, ⟨1, 8, .fnc, [(.v .nilFunc)], none⟩),
  (42, ⟨1, 8, .fnc, [(.v .nilFunc)], none⟩),
  (43, ⟨2, 16, (.st [(0, 3), (1, 3)]), [(.v (.int .i64 (0 : Int))), (.v (.int .i64 (0 : Int)))], some (.prod (.int .i64) (.int .i64))⟩),
  (44, ⟨1, 8, .fnc, [(.v .nilFunc)], none⟩),
  (45, ⟨1, 8, .fnc, [(.v .nilFunc)], none⟩),
  (48, ⟨0, 0, (.arr 0 16), [], none⟩),
  (51, ⟨1, 8, .fnc, [(.v .nilFunc)], none⟩),
  (52, ⟨1, 4, (.int .u32), [(.v (.int .u32 (0 : Int)))], some (.int .u32)⟩),
  (53, ⟨1, 1, (.int .u8), [(.v (.int .u8 (0 : Int)))], some (.int .u8)⟩),
  (54, ⟨1, 1, (.int .u8), [(.v (.int .u8 (0 : Int)))], some (.int .u8)⟩),
  (55, ⟨1, 8, .fnc, [(.v .nilFunc)], none⟩),
  (56, ⟨1, 8, (.ptr 5), [(.v (.pointer none))], some (.pint .u8)⟩),
  (57, ⟨1, 4, (.int .i32), [(.v (.int .i32 (0 : Int)))], some (.int .i32)⟩),
  (58, ⟨1, 4, (.int .i32), [(.v (.int .i32 (0 : Int)))], some (.int .i32)⟩)]
theorem tab_ok : tabOf Try.prog tys = some tab := by kernel_rfl

theorem mixed : Try.prog.follows .mixedOrders = true := by kernel_rfl
theorem own0 : ownKnob Try.prog.godebug = none := by kernel_rfl
theorem laidOut0 : laidOutB Try.prog = true := by kernel_rfl

end Go.Proofs.Ytlaifjifgoadkaa
