/-
  The types that the code reads, as the ideal machine has them.
-/
import Derived.Test.YtdoilggfajngiaaVV
import Derived.Test.YtdoilggfajngiaaChecked
namespace Go.Proofs.Ytdoilggfajngiaa
open Go VE

def tys : List (Nat × Option Ty) := [(1, none), (2, some (.int .i64)), (3, some (.int .i64)), (4, some .bool), (5, some (.int .u8)), (6, some (.int .u8)), (7, some (.prod (.int .i64) (.prod (.int .i64) (.prod .bool (.int .u8))))), (8, some (.prod (.int .i64) (.prod (.int .i64) (.prod .bool (.int .u8))))), (9, some .str), (10, some .str), (11, some .str), (12, some (.int .u64)), (15, none), (16, none), (17, none), (21, some (.int .i32)), (22, some (.sl (.prod (.prod (.int .i64) (.prod .str (.prod (.int .i64) (.prod .str (.prod (.int .i64) (.sl (.prod .str .str))))))) (.prod (.prod .bool (.prod (.int .i64) (.prod (.int .i64) (.int .i64)))) (.prod (.int .i64) (.prod (.prod (.int .i64) (.int .i64)) (.prod (.prod .bool (.prod (.int .i64) (.prod (.int .i64) (.int .i64)))) (.prod .bool (.prod (.int .i64) (.prod (.int .i64) (.int .i64))))))))))), (23, none), (24, none), (25, none), (26, some (.sl (.prod .str .str))), (27, some (.prod (.int .i64) (.prod .str (.prod (.int .i64) (.prod .str (.prod (.int .i64) (.sl (.prod .str .str)))))))), (28, some (.prod (.int .i64) (.prod .str (.prod (.int .i64) (.prod .str (.prod (.int .i64) (.sl (.prod .str .str)))))))), (29, some (.prod .bool (.prod (.int .i64) (.prod (.int .i64) (.int .i64))))), (30, some (.prod .bool (.prod (.int .i64) (.prod (.int .i64) (.int .i64))))), (31, some (.prod (.int .i64) (.int .i64))), (32, some (.prod (.int .i64) (.int .i64))), (33, some (.prod .bool (.prod (.int .i64) (.prod (.int .i64) (.int .i64))))), (34, some (.prod .bool (.prod (.int .i64) (.prod (.int .i64) (.int .i64))))), (35, some (.prod (.prod (.int .i64) (.prod .str (.prod (.int .i64) (.prod .str (.prod (.int .i64) (.sl (.prod .str .str))))))) (.prod (.prod .bool (.prod (.int .i64) (.prod (.int .i64) (.int .i64)))) (.prod (.int .i64) (.prod (.prod (.int .i64) (.int .i64)) (.prod (.prod .bool (.prod (.int .i64) (.prod (.int .i64) (.int .i64)))) (.prod .bool (.prod (.int .i64) (.prod (.int .i64) (.int .i64)))))))))), (36, some (.prod (.prod (.int .i64) (.prod .str (.prod (.int .i64) (.prod .str (.prod (.int .i64) (.sl (.prod .str .str))))))) (.prod (.prod .bool (.prod (.int .i64) (.prod (.int .i64) (.int .i64)))) (.prod (.int .i64) (.prod (.prod (.int .i64) (.int .i64)) (.prod (.prod .bool (.prod (.int .i64) (.prod (.int .i64) (.int .i64)))) (.prod .bool (.prod (.int .i64) (.prod (.int .i64) (.int .i64)))))))))), (37, none), (38, none), (39, none), (40, none), (41, none), (42, none), (43, none), (44, none), (45, some (.int .u64)), (46, some (.sl (.prod (.int .i64) (.prod .str (.prod (.int .i64) (.prod .str (.prod (.int .i64) (.sl (.prod .str .str))))))))), (47, none), (48, none), (49, some (.prod .str .str)), (50, some (.prod .str .str)), (51, none), (52, none), (53, none), (54, none), (55, none), (56, none), (57, none), (58, none), (59, none), (60, none), (61, some (.prod (.int .i64) (.prod (.int .i64) (.prod (.int .i64) (.int .i64))))), (62, none), (63, none), (64, none), (65, none), (66, none), (67, none), (68, none), (69, none), (70, none), (71, none), (72, none), (73, none), (76, none), (79, none), (80, some (.int .u32)), (81, some (.int .u8)), (82, some (.int .u8)), (83, none), (84, some (.pint .u8)), (85, some (.int .i32)), (86, some (.int .i32))]
def tab : List (Nat × TI) := [
  (1, ⟨1, 8, .fnc, [(.v .nilFunc)], none⟩),
  (2, ⟨1, 8, (.int .i64), [(.v (.int .i64 (0 : Int)))], some (.int .i64)⟩),
  (3, ⟨1, 8, (.int .i64), [(.v (.int .i64 (0 : Int)))], some (.int .i64)⟩),
  (4, ⟨1, 1, .bool, [(.v (.bool false))], some .bool⟩),
  (5, ⟨1, 1, (.int .u8), [(.v (.int .u8 (0 : Int)))], some (.int .u8)⟩),
  (6, ⟨1, 1, (.int .u8), [(.v (.int .u8 (0 : Int)))], some (.int .u8)⟩),
  (7, ⟨4, 24, (.st [(0, 2), (1, 3), (2, 4), (3, 6)]), [(.v (.int .i64 (0 : Int))), (.v (.int .i64 (0 : Int))), (.v (.bool false)), (.v (.int .u8 (0 : Int)))], some (.prod (.int .i64) (.prod (.int .i64) (.prod .bool (.int .u8))))⟩),
  (8, ⟨4, 24, (.st [(0, 2), (1, 3), (2, 4), (3, 6)]), [(.v (.int .i64 (0 : Int))), (.v (.int .i64 (0 : Int))), (.v (.bool false)), (.v (.int .u8 (0 : Int)))], some (.prod (.int .i64) (.prod (.int .i64) (.prod .bool (.int .u8))))⟩),
  (9, ⟨1, 16, .str, [(.v (.string (⟨#[]⟩ : ByteArray)))], some .str⟩),
  (10, ⟨1, 16, .str, [(.v (.string (⟨#[]⟩ : ByteArray)))], some .str⟩),
  (11, ⟨1, 16, .str, [(.v (.string (⟨#[]⟩ : ByteArray)))], some .str⟩),
  (12, ⟨1, 8, (.int .u64), [(.v (.int .u64 (0 : Int)))], some (.int .u64)⟩),
  (15, ⟨1, 8, (.ptr 75), [(.v (.pointer none))], none⟩),
  (16, ⟨1, 8, (.ptr 78), [(.v (.pointer none))], none⟩),
  (17, ⟨1, 8, (.ptr 88), [(.v (.pointer none))], none⟩),
  (21, ⟨1, 4, (.int .i32), [(.v (.int .i32 (0 : Int)))], some (.int .i32)⟩),
  (22, ⟨1, 24, (.sl 36), [(.v (.slice none 0 0))], some (.sl (.prod (.prod (.int .i64) (.prod .str (.prod (.int .i64) (.prod .str (.prod (.int .i64) (.sl (.prod .str .str))))))) (.prod (.prod .bool (.prod (.int .i64) (.prod (.int .i64) (.int .i64)))) (.prod (.int .i64) (.prod (.prod (.int .i64) (.int .i64)) (.prod (.prod .bool (.prod (.int .i64) (.prod (.int .i64) (.int .i64)))) (.prod .bool (.prod (.int .i64) (.prod (.int .i64) (.int .i64))))))))))⟩),
  (23, ⟨1, 8, .fnc, [(.v .nilFunc)], none⟩),
  (24, ⟨1, 8, .fnc, [(.v .nilFunc)], none⟩),
  (25, ⟨1, 8, .fnc, [(.v .nilFunc)], none⟩),
  (26, ⟨1, 24, (.sl 50), [(.v (.slice none 0 0))], some (.sl (.prod .str .str))⟩),
  (27, ⟨6, 80, (.st [(0, 3), (1, 9), (2, 3), (3, 9), (4, 3), (5, 26)]), [(.v (.int .i64 (0 : Int))), (.v (.string (⟨#[]⟩ : ByteArray))), (.v (.int .i64 (0 : Int))), (.v (.string (⟨#[]⟩ : ByteArray))), (.v (.int .i64 (0 : Int))), (.v (.slice none 0 0))], some (.prod (.int .i64) (.prod .str (.prod (.int .i64) (.prod .str (.prod (.int .i64) (.sl (.prod .str .str)))))))⟩),
  (28, ⟨6, 80, (.st [(0, 3), (1, 9), (2, 3), (3, 9), (4, 3), (5, 26)]), [(.v (.int .i64 (0 : Int))), (.v (.string (⟨#[]⟩ : ByteArray))), (.v (.int .i64 (0 : Int))), (.v (.string (⟨#[]⟩ : ByteArray))), (.v (.int .i64 (0 : Int))), (.v (.slice none 0 0))], some (.prod (.int .i64) (.prod .str (.prod (.int .i64) (.prod .str (.prod (.int .i64) (.sl (.prod .str .str)))))))⟩),
  (29, ⟨4, 32, (.st [(0, 4), (1, 3), (2, 3), (3, 3)]), [(.v (.bool false)), (.v (.int .i64 (0 : Int))), (.v (.int .i64 (0 : Int))), (.v (.int .i64 (0 : Int)))], some (.prod .bool (.prod (.int .i64) (.prod (.int .i64) (.int .i64))))⟩),
  (30, ⟨4, 32, (.st [(0, 4), (1, 3), (2, 3), (3, 3)]), [(.v (.bool false)), (.v (.int .i64 (0 : Int))), (.v (.int .i64 (0 : Int))), (.v (.int .i64 (0 : Int)))], some (.prod .bool (.prod (.int .i64) (.prod (.int .i64) (.int .i64))))⟩),
  (31, ⟨2, 16, (.st [(0, 3), (1, 3)]), [(.v (.int .i64 (0 : Int))), (.v (.int .i64 (0 : Int)))], some (.prod (.int .i64) (.int .i64))⟩),
  (32, ⟨2, 16, (.st [(0, 3), (1, 3)]), [(.v (.int .i64 (0 : Int))), (.v (.int .i64 (0 : Int)))], some (.prod (.int .i64) (.int .i64))⟩),
  (33, ⟨4, 32, (.st [(0, 4), (1, 3), (2, 3), (3, 3)]), [(.v (.bool false)), (.v (.int .i64 (0 : Int))), (.v (.int .i64 (0 : Int))), (.v (.int .i64 (0 : Int)))], some (.prod .bool (.prod (.int .i64) (.prod (.int .i64) (.int .i64))))⟩),
  (34, ⟨4, 32, (.st [(0, 4), (1, 3), (2, 3), (3, 3)]), [(.v (.bool false)), (.v (.int .i64 (0 : Int))), (.v (.int .i64 (0 : Int))), (.v (.int .i64 (0 : Int)))], some (.prod .bool (.prod (.int .i64) (.prod (.int .i64) (.int .i64))))⟩),
  (35, ⟨21, 200, (.st [(0, 28), (6, 30), (10, 3), (11, 32), (13, 34), (17, 4), (18, 3), (19, 3), (20, 3)]), [(.v (.int .i64 (0 : Int))), (.v (.string (⟨#[]⟩ : ByteArray))), (.v (.int .i64 (0 : Int))), (.v (.string (⟨#[]⟩ : ByteArray))), (.v (.int .i64 (0 : Int))), (.v (.slice none 0 0)), (.v (.bool false)), (.v (.int .i64 (0 : Int))), (.v (.int .i64 (0 : Int))), (.v (.int .i64 (0 : Int))), (.v (.int .i64 (0 : Int))), (.v (.int .i64 (0 : Int))), (.v (.int .i64 (0 : Int))), (.v (.bool false)), (.v (.int .i64 (0 : Int))), (.v (.int .i64 (0 : Int))), (.v (.int .i64 (0 : Int))), (.v (.bool false)), (.v (.int .i64 (0 : Int))), (.v (.int .i64 (0 : Int))), (.v (.int .i64 (0 : Int)))], some (.prod (.prod (.int .i64) (.prod .str (.prod (.int .i64) (.prod .str (.prod (.int .i64) (.sl (.prod .str .str))))))) (.prod (.prod .bool (.prod (.int .i64) (.prod (.int .i64) (.int .i64)))) (.prod (.int .i64) (.prod (.prod (.int .i64) (.int .i64)) (.prod (.prod .bool (.prod (.int .i64) (.prod (.int .i64) (.int .i64)))) (.prod .bool (.prod (.int .i64) (.prod (.int .i64) (.int .i64)))))))))⟩),
  (36, ⟨21, 200, (.st [(0, 28), (6, 30), (10, 3), (11, 32), (13, 34), (17, 4), (18, 3), (19, 3), (20, 3)]), [(.v (.int .i64 (0 : Int))), (.v (.string (⟨#[]⟩ : ByteArray))), (.v (.int .i64 (0 : Int))), (.v (.string (⟨#[]⟩ : ByteArray))), (.v (.int .i64 (0 : Int))), (.v (.slice none 0 0)), (.v (.bool false)), (.v (.int .i64 (0 : Int))), (.v (.int .i64 (0 : Int))), (.v (.int .i64 (0 : Int))), (.v (.int .i64 (0 : Int))), (.v (.int .i64 (0 : Int))), (.v (.int .i64 (0 : Int))), (.v (.bool false)), (.v (.int .i64 (0 : Int))), (.v (.int .i64 (0 : Int))), (.v (.int .i64 (0 : Int))), (.v (.bool false)), (.v (.int .i64 (0 : Int))), (.v (.int .i64 (0 : Int))), (.v (.int .i64 (0 : Int)))], some (.prod (.prod (.int .i64) (.prod .str (.prod (.int .i64) (.prod .str (.prod (.int .i64) (.sl (.prod .str .str))))))) (.prod (.prod .bool (.prod (.int .i64) (.prod (.int .i64) (.int .i64)))) (.prod (.int .i64) (.prod (.prod (.int .i64) (.int .i64)) (.prod (.prod .bool (.prod (.int .i64) (.prod (.int .i64) (.int .i64)))) (.prod .bool (.prod (.int .i64) (.prod (.int .i64) (.int .i64)))))))))⟩),
  (37, ⟨1, 8, .fnc, [(.v .nilFunc)], none⟩),
  (38, ⟨1, 8, .fnc, [(.v .nilFunc)], none⟩),
  (39, ⟨1, 8, .fnc, [(.v .nilFunc)], none⟩),
  (40, ⟨1, 8, .fnc, [(.v .nilFunc)], none⟩),
  (41, ⟨1, 8, .fnc, [(.v .nilFunc)], none⟩),
  (42, ⟨1, 8, .fnc, [(.v .nilFunc)], none⟩),
  (43, ⟨1, 8, .fnc, [(.v .nilFunc)], none⟩),
  (44, ⟨1, 8, .fnc, [(.v .nilFunc)], none⟩),
  (45, ⟨1, 8, (.int .u64), [(.v (.int .u64 (0 : Int)))], some (.int .u64)⟩),
  (46, ⟨1, 24, (.sl 28), [(.v (.slice none 0 0))], some (.sl (.prod (.int .i64) (.prod .str (.prod (.int .i64) (.prod .str (.prod (.int .i64) (.sl (.prod .str .str))))))))⟩),
  (47, ⟨1, 8, .fnc, [(.v .nilFunc)], none⟩),
  (48, ⟨1, 8, .fnc, [(.v .nilFunc)], none⟩),
  (49, ⟨2, 32, (.st [(0, 9), (1, 9)]), [(.v (.string (⟨#[]⟩ : ByteArray))), (.v (.string (⟨#[]⟩ : ByteArray)))], some (.prod .str .str)⟩),
  (50, ⟨2, 32, (.st [(0, 9), (1, 9)]), [(.v (.string (⟨#[]⟩ : ByteArray))), (.v (.string (⟨#[]⟩ : ByteArray)))], some (.prod .str .str)⟩),
  (51, ⟨1, 8, .fnc, [(.v .nilFunc)], none⟩),
  (52, ⟨1, 8, .fnc, [(.v .nilFunc)], none⟩),
  (53, ⟨1, 8, .fnc, [(.v .nilFunc)], none⟩),
  (54, ⟨1, 8, .fnc, [(.v .nilFunc)], none⟩),
  (55, ⟨1, 8, .fnc, [(.v .nilFunc)], none⟩),
  (56, ⟨1, 8, .fnc, [(.v .nilFunc)], none⟩),
  (57, ⟨1, 8, .fnc, [(.v .nilFunc)], none⟩),
  (58, ⟨1, 8, .fnc, [(.v .nilFunc)], none⟩),
  (59, ⟨1, 8, .fnc, [(.v .nilFunc)], none⟩),
  (60, ⟨1, 8, .fnc, [(.v .nilFunc)], none⟩),
  (61, ⟨4, 32, (.arr 4 3), [(.v (.int .i64 (0 : Int))), (.v (.int .i64 (0 : Int))), (.v (.int .i64 (0 : Int))), (.v (.int .i64 (0 : Int)))], some (.prod (.int .i64) (.prod (.int .i64) (.prod (.int .i64) (.int .i64))))⟩),
  (62, ⟨1, 8, .fnc, [(.v .nilFunc)], none⟩),
  (63, ⟨1, 8, .fnc, [(.v .nilFunc)], none⟩),
  (64, ⟨1, 8, .fnc, [(.v .nilFunc)], none⟩),
  (65, ⟨1, 8, .fnc, [(.v .nilFunc)], none⟩),
  (66, ⟨1, 8, .fnc, [(.v .nilFunc)], none⟩),
  (67, ⟨1, 8, .fnc, [(.v .nilFunc)], none⟩),
  (68, ⟨1, 8, .fnc, [(.v .nilFunc)], none⟩),
  (69, ⟨1, 8, .fnc, [(.v .nilFunc)], none⟩),
  (70, ⟨1, 8, .fnc, [(.v .nilFunc)], none⟩),
  (71, ⟨1, 8, .fnc, [(.v .nilFunc)], none⟩),
  (72, ⟨1, 8, .fnc, [(.v .nilFunc)], none⟩),
  (73, ⟨1, 8, .fnc, [(.v .nilFunc)], none⟩),
  (76, ⟨0, 0, (.arr 0 16), [], none⟩),
  (79, ⟨1, 8, .fnc, [(.v .nilFunc)], none⟩),
  (80, ⟨1, 4, (.int .u32), [(.v (.int .u32 (0 : Int)))], some (.int .u32)⟩),
  (81, ⟨1, 1, (.int .u8), [(.v (.int .u8 (0 : Int)))], some (.int .u8)⟩),
  (82, ⟨1, 1, (.int .u8), [(.v (.int .u8 (0 : Int)))], some (.int .u8)⟩),
  (83, ⟨1, 8, .fnc, [(.v .nilFunc)], none⟩),
  (84, ⟨1, 8, (.ptr 5), [(.v (.pointer none))], some (.pint .u8)⟩),
  (85, ⟨1, 4, (.int .i32), [(.v (.int .i32 (0 : Int)))], some (.int .i32)⟩),
  (86, ⟨1, 4, (.int .i32), [(.v (.int .i32 (0 : Int)))], some (.int .i32)⟩)]
theorem tab_ok : tabOf Try.prog tys = some tab := by kernel_rfl

theorem mixed : Try.prog.follows .mixedOrders = true := by kernel_rfl
theorem own0 : ownKnob Try.prog.godebug = none := by kernel_rfl
theorem laidOut0 : laidOutB Try.prog = true := by kernel_rfl

end Go.Proofs.Ytdoilggfajngiaa
