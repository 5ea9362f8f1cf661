/-
  The types that the code reads, as the ideal machine has them.
-/
import Derived.Test.YtgocadoemofepaaVV
import Derived.Test.YtgocadoemofepaaChecked
namespace Go.Proofs.Ytgocadoemofepaa
open Go VE

def tys : List (Nat × Option Ty) := [(1, none), (2, some (.int .i64)), (3, some (.int .i64)), (4, some .bool), (5, some (.int .u8)), (6, some (.int .u8)), (7, some (.prod (.int .i64) (.prod (.int .i64) (.prod .bool (.int .u8))))), (8, some (.prod (.int .i64) (.prod (.int .i64) (.prod .bool (.int .u8))))), (9, some .str), (10, some .str), (11, some .str), (12, some (.int .u64)), (15, none), (16, none), (17, none), (21, some (.int .i32)), (22, some (.sl (.sl (.prod (.int .i64) (.int .i64))))), (23, some (.sl (.int .i64))), (24, none), (25, none), (26, none), (27, none), (28, some (.sl (.prod (.int .i64) (.int .i64)))), (29, some (.sl (.prod (.int .i64) (.int .i64)))), (30, some (.prod (.sl (.prod (.int .i64) (.int .i64))) (.sl (.prod (.int .i64) (.int .i64))))), (31, some (.prod (.sl (.prod (.int .i64) (.int .i64))) (.sl (.prod (.int .i64) (.int .i64))))), (32, some (.int .u64)), (34, none), (35, none), (36, none), (37, none), (38, some (.prod (.int .i64) (.int .i64))), (39, some (.prod (.int .i64) (.int .i64))), (40, none), (41, some (.prod (.int .i64) (.int .i64))), (42, some (.prod (.int .i64) (.int .i64))), (43, none), (44, none), (45, none), (46, some (.prod (.sl (.prod (.int .i64) (.int .i64))) (.sl (.int .i64)))), (47, some (.prod (.sl (.prod (.int .i64) (.int .i64))) (.sl (.int .i64)))), (48, none), (49, none), (50, none), (51, none), (52, none), (53, none), (56, none), (59, none), (60, some (.int .u32)), (61, some (.int .u8)), (62, some (.int .u8)), (63, none), (64, some (.pint .u8)), (65, some (.int .i32)), (66, some (.int .i32))]
def tab : List (Nat × TI) := [
  (1, ⟨1, 8, .fnc, [(.v .nilFunc)], none⟩),
  (2, ⟨1, 8, (.int .i64), [(.v (.int .i64 (0 : Int)))], some (.int .i64)⟩),
  (3, ⟨1, 8, (.int .i64), [(.v (.int .i64 (0 : Int)))], some (.int .i64)⟩),
  (4, ⟨1, 1, .bool, [(.v (.bool false))], some .bool⟩),
  (5, ⟨1, 1, (.int .u8), [(.v (.int .u8 (0 : Int)))], some (.int .u8)⟩),
  (6, ⟨1, 1, (.int .u8), [(.v (.int .u8 (0 : Int)))], some (.int .u8)⟩),
  (7, ⟨4, 24, (.st [(0, 2), (1, 3), (2, 4), (3, 6)]), [(.v (.int .i64 (0 : Int))), (.v (.int .i64 (0 : Int))), (.v (.bool false)), (.v (.int .u8 (0 : Int)))], some (.prod (.int .i64) (.prod (.int .i64) (.prod .bool (.int .u8))))⟩),
  (8, ⟨4, 24, (.st [(0, 2), (1, 3), (2, 4), (3, 6)]), [(.v (.int .i64 (0 : Int))), (.v (.int .i64 (0 : Int))), (.v (.bool false)), (.v (.int .u8 (0 : Int)))], some (.prod (.int .i64) (.prod (.int .i64) (.prod .bool (.int .u8))))⟩),
  (9, ⟨1, 16, .str, [(.v (.string (⟨#[]⟩ : ByteArray)))], some .str⟩),
  (10, ⟨1, 16, .str, [(.v (.string (⟨#[]⟩ : ByteArray)))], some .str⟩),
  (11, ⟨1, 16, .str, [(.v (.string (⟨#[]⟩ : ByteArray)))], some .str⟩),
  (12, ⟨1, 8, (.int .u64), [(.v (.int .u64 (0 : Int)))], some (.int .u64)⟩),
  (15, ⟨1, 8, (.ptr 55), [(.v (.pointer none))], none⟩),
  (16, ⟨1, 8, (.ptr 58), [(.v (.pointer none))], none⟩),
  (17, ⟨1, 8, (.ptr 68), [(.v (.pointer none))], none⟩),
  (21, ⟨1, 4, (.int .i32), [(.v (.int .i32 (0 : Int)))], some (.int .i32)⟩),
  (22, ⟨1, 24, (.sl 28), [(.v (.slice none 0 0))], some (.sl (.sl (.prod (.int .i64) (.int .i64))))⟩),
  (23, ⟨1, 24, (.sl 3), [(.v (.slice none 0 0))], some (.sl (.int .i64))⟩),
  (24, ⟨1, 8, .fnc, [(.v .nilFunc)], none⟩),
  (25, ⟨1, 8, (.ptr 47), [(.v (.pointer none))], none⟩),
  (26, ⟨1, 8, .fnc, [(.v .nilFunc)], none⟩),
  (27, ⟨1, 8, (.ptr 31), [(.v (.pointer none))], none⟩),
  (28, ⟨1, 24, (.sl 39), [(.v (.slice none 0 0))], some (.sl (.prod (.int .i64) (.int .i64)))⟩),
  (29, ⟨1, 24, (.sl 42), [(.v (.slice none 0 0))], some (.sl (.prod (.int .i64) (.int .i64)))⟩),
  (30, ⟨2, 48, (.st [(0, 28), (1, 29)]), [(.v (.slice none 0 0)), (.v (.slice none 0 0))], some (.prod (.sl (.prod (.int .i64) (.int .i64))) (.sl (.prod (.int .i64) (.int .i64))))⟩),
  (31, ⟨2, 48, (.st [(0, 28), (1, 29)]), [(.v (.slice none 0 0)), (.v (.slice none 0 0))], some (.prod (.sl (.prod (.int .i64) (.int .i64))) (.sl (.prod (.int .i64) (.int .i64))))⟩),
  (32, ⟨1, 8, (.int .u64), [(.v (.int .u64 (0 : Int)))], some (.int .u64)⟩),
  (34, ⟨1, 8, .fnc, [(.v .nilFunc)], none⟩),
  (35, ⟨1, 8, .fnc, [(.v .nilFunc)], none⟩),
  (36, ⟨1, 8, .fnc, [(.v .nilFunc)], none⟩),
  (37, ⟨1, 8, .fnc, [(.v .nilFunc)], none⟩),
  (38, ⟨2, 16, (.st [(0, 3), (1, 3)]), [(.v (.int .i64 (0 : Int))), (.v (.int .i64 (0 : Int)))], some (.prod (.int .i64) (.int .i64))⟩),
  (39, ⟨2, 16, (.st [(0, 3), (1, 3)]), [(.v (.int .i64 (0 : Int))), (.v (.int .i64 (0 : Int)))], some (.prod (.int .i64) (.int .i64))⟩),
  (40, ⟨1, 8, (.map 3 3), [(.v (.map none))], none⟩),
  (41, ⟨2, 16, (.st [(0, 3), (1, 3)]), [(.v (.int .i64 (0 : Int))), (.v (.int .i64 (0 : Int)))], some (.prod (.int .i64) (.int .i64))⟩),
  (42, ⟨2, 16, (.st [(0, 3), (1, 3)]), [(.v (.int .i64 (0 : Int))), (.v (.int .i64 (0 : Int)))], some (.prod (.int .i64) (.int .i64))⟩),
  (43, ⟨1, 8, .fnc, [(.v .nilFunc)], none⟩),
  (44, ⟨1, 8, .fnc, [(.v .nilFunc)], none⟩),
  (45, ⟨1, 8, .fnc, [(.v .nilFunc)], none⟩),
  (46, ⟨2, 48, (.st [(0, 28), (1, 23)]), [(.v (.slice none 0 0)), (.v (.slice none 0 0))], some (.prod (.sl (.prod (.int .i64) (.int .i64))) (.sl (.int .i64)))⟩),
  (47, ⟨2, 48, (.st [(0, 28), (1, 23)]), [(.v (.slice none 0 0)), (.v (.slice none 0 0))], some (.prod (.sl (.prod (.int .i64) (.int .i64))) (.sl (.int .i64)))⟩),
  (48, ⟨1, 8, .fnc, [(.v .nilFunc)], none⟩),
  (49, ⟨1, 8, .fnc, [(.v .nilFunc)], none⟩),
  (50, ⟨1, 8, .fnc, [(.v .nilFunc)], none⟩),
  (51, ⟨1, 8, .fnc, [(.v .nilFunc)], none⟩),
  (52, ⟨1, 8, .fnc, [(.v .nilFunc)], none⟩),
  (53, ⟨1, 8, .fnc, [(.v .nilFunc)], none⟩),
  (56, ⟨0, 0, (.arr 0 16), [], none⟩),
  (59, ⟨1, 8, .fnc, [(.v .nilFunc)], none⟩),
  (60, ⟨1, 4, (.int .u32), [(.v (.int .u32 (0 : Int)))], some (.int .u32)⟩),
  (61, ⟨1, 1, (.int .u8), [(.v (.int .u8 (0 : Int)))], some (.int .u8)⟩),
  (62, ⟨1, 1, (.int .u8), [(.v (.int .u8 (0 : Int)))], some (.int .u8)⟩),
  (63, ⟨1, 8, .fnc, [(.v .nilFunc)], none⟩),
  (64, ⟨1, 8, (.ptr 5), [(.v (.pointer none))], some (.pint .u8)⟩),
  (65, ⟨1, 4, (.int .i32), [(.v (.int .i32 (0 : Int)))], some (.int .i32)⟩),
  (66, ⟨1, 4, (.int .i32), [(.v (.int .i32 (0 : Int)))], some (.int .i32)⟩)]
theorem tab_ok : tabOf Try.prog tys = some tab := by kernel_rfl

theorem mixed : Try.prog.follows .mixedOrders = true := by kernel_rfl
theorem own0 : ownKnob Try.prog.godebug = none := by kernel_rfl
theorem laidOut0 : laidOutB Try.prog = true := by kernel_rfl

end Go.Proofs.Ytgocadoemofepaa
