/-
  The types that the code reads, as the ideal machine has them.
-/
import Derived.Test.YtemkgdkkpeijfaaVV
import Derived.Test.YtemkgdkkpeijfaaChecked
namespace Go.Proofs.Ytemkgdkkpeijfaa
open Go VE

def tys : List (Nat × Option Ty) := [(1, none), (2, some (.int .i64)), (3, some (.int .i64)), (4, some .bool), (5, some (.int .u8)), (6, some (.int .u8)), (7, some (.prod (.int .i64) (.prod (.int .i64) (.prod .bool (.int .u8))))), (8, some (.prod (.int .i64) (.prod (.int .i64) (.prod .bool (.int .u8))))), (9, some .str), (10, some .str), (11, some .str), (12, some (.int .u64)), (15, none), (16, none), (17, none), (21, some (.int .i32)), (22, some (.sl (.prod (.prod (.int .i64) (.prod .str (.prod (.int .i64) (.prod .str (.prod (.int .i64) (.sl (.prod .str .str))))))) (.prod (.prod .bool (.prod (.int .i64) (.prod (.int .i64) (.int .i64)))) (.prod (.int .i64) (.prod (.prod (.int .i64) (.int .i64)) (.prod (.prod .bool (.prod (.int .i64) (.prod (.int .i64) (.int .i64)))) (.prod .bool (.prod (.int .i64) (.prod (.int .i64) (.int .i64))))))))))), (23, some (.sl (.prod .str .str))), (24, some (.sl (.int .i64))), (25, none), (26, none), (27, some (.prod (.int .i64) (.prod .str (.prod (.int .i64) (.prod .str (.prod (.int .i64) (.sl (.prod .str .str)))))))), (28, some (.prod (.int .i64) (.prod .str (.prod (.int .i64) (.prod .str (.prod (.int .i64) (.sl (.prod .str .str)))))))), (29, none), (30, none), (31, none), (32, none), (33, none), (34, none), (35, none), (36, some (.prod .bool (.prod (.int .i64) (.prod (.int .i64) (.int .i64))))), (37, some (.prod .bool (.prod (.int .i64) (.prod (.int .i64) (.int .i64))))), (38, some (.prod (.int .i64) (.int .i64))), (39, some (.prod (.int .i64) (.int .i64))), (40, some (.prod .bool (.prod (.int .i64) (.prod (.int .i64) (.int .i64))))), (41, some (.prod .bool (.prod (.int .i64) (.prod (.int .i64) (.int .i64))))), (42, some (.prod (.prod (.int .i64) (.prod .str (.prod (.int .i64) (.prod .str (.prod (.int .i64) (.sl (.prod .str .str))))))) (.prod (.prod .bool (.prod (.int .i64) (.prod (.int .i64) (.int .i64)))) (.prod (.int .i64) (.prod (.prod (.int .i64) (.int .i64)) (.prod (.prod .bool (.prod (.int .i64) (.prod (.int .i64) (.int .i64)))) (.prod .bool (.prod (.int .i64) (.prod (.int .i64) (.int .i64)))))))))), (43, some (.prod (.prod (.int .i64) (.prod .str (.prod (.int .i64) (.prod .str (.prod (.int .i64) (.sl (.prod .str .str))))))) (.prod (.prod .bool (.prod (.int .i64) (.prod (.int .i64) (.int .i64)))) (.prod (.int .i64) (.prod (.prod (.int .i64) (.int .i64)) (.prod (.prod .bool (.prod (.int .i64) (.prod (.int .i64) (.int .i64)))) (.prod .bool (.prod (.int .i64) (.prod (.int .i64) (.int .i64)))))))))), (44, none), (45, none), (46, none), (47, some (.prod .str .str)), (48, some (.prod .str .str)), (49, none), (50, none), (51, none), (52, none), (53, none), (54, none), (55, none), (56, none), (57, none), (58, none), (59, none), (60, none), (61, none), (62, none), (63, none), (64, none), (65, none), (66, none), (67, none), (70, none), (73, none), (74, some (.int .u32)), (75, some (.int .u8)), (76, some (.int .u8)), (77, none), (78, some (.pint .u8)), (79, some (.int .i32)), (80, some (.int .i32))]
def tab : List (Nat × TI) := [
  (1, ⟨1, 8, .fnc, [(.v .nilFunc)], none⟩),
  (2, ⟨1, 8, (.int .i64), [(.v (.int .i64 (0 : Int)))], some (.int .i64)⟩),
  (3, ⟨1, 8, (.int .i64), [(.v (.int .i64 (0 : Int)))], some (.int .i64)⟩),
  (4, ⟨1, 1, .bool, [(.v (.bool false))], some .bool⟩),
  (5, ⟨1, 1, (.int .u8), [(.v (.int .u8 (0 : Int)))], some (.int .u8)⟩),
  (6, ⟨1, 1, (.int .u8), [(.v (.int .u8 (0 : Int)))], some (.int .u8)⟩),
  (7, ⟨4, 24, (.st [(0, 2), (1, 3), (2, 4), (3, 6)]), [(.v (.int .i64 (0 : Int))), (.v (.int .i64 (0 : Int))), (.v (.bool false)), (.v (.int .u8 (0 : Int)))], some (.prod (.int .i64) (.prod (.int .i64) (.prod .bool (.int .u8))))⟩),
  (8, ⟨4, 24, (.st [(0, 2), (1, 3), (2, 4), (3, 6)]), [(.v (.int .i64 (0 : Int))), (.v (.int .i64 (0 : Int))), (.v (.bool false)), (.v (.int .u8 (0 : Int)))], some (.prod (.int .i64) (.prod (.int .i64) (.prod .bool (.int .u8))))⟩),
  (9, ⟨1, 16, .str, [(.v (.string (⟨#[]⟩ : ByteArray)))], some .str⟩),
  (10, ⟨1, 16, .str, [(.v (.string (⟨#[]⟩ : ByteArray)))], some .str⟩),
  (11, ⟨1, 16, .str, [(.v (.string (⟨#[]⟩ : ByteArray)))], some .str⟩),
  (12, ⟨1, 8, (.int .u64), [(.v (.int .u64 (0 : Int)))], some (.int .u64)⟩),
  (15, ⟨1, 8, (.ptr 69), [(.v (.pointer none))], none⟩),
  (16, ⟨1, 8, (.ptr 72), [(.v (.pointer none))], none⟩),
  (17, ⟨1, 8, (.ptr 82), [(.v (.pointer none))], none⟩),
  (21, ⟨1, 4, (.int .i32), [(.v (.int .i32 (0 : Int)))], some (.int .i32)⟩),
  (22, ⟨1, 24, (.sl 43), [(.v (.slice none 0 0))], some (.sl (.prod (.prod (.int .i64) (.prod .str (.prod (.int .i64) (.prod .str (.prod (.int .i64) (.sl (.prod .str .str))))))) (.prod (.prod .bool (.prod (.int .i64) (.prod (.int .i64) (.int .i64)))) (.prod (.int .i64) (.prod (.prod (.int .i64) (.int .i64)) (.prod (.prod .bool (.prod (.int .i64) (.prod (.int .i64) (.int .i64)))) (.prod .bool (.prod (.int .i64) (.prod (.int .i64) (.int .i64))))))))))⟩),
  (23, ⟨1, 24, (.sl 48), [(.v (.slice none 0 0))], some (.sl (.prod .str .str))⟩),
  (24, ⟨1, 24, (.sl 3), [(.v (.slice none 0 0))], some (.sl (.int .i64))⟩),
  (25, ⟨1, 8, .fnc, [(.v .nilFunc)], none⟩),
  (26, ⟨1, 8, .fnc, [(.v .nilFunc)], none⟩),
  (27, ⟨6, 80, (.st [(0, 3), (1, 9), (2, 3), (3, 9), (4, 3), (5, 23)]), [(.v (.int .i64 (0 : Int))), (.v (.string (⟨#[]⟩ : ByteArray))), (.v (.int .i64 (0 : Int))), (.v (.string (⟨#[]⟩ : ByteArray))), (.v (.int .i64 (0 : Int))), (.v (.slice none 0 0))], some (.prod (.int .i64) (.prod .str (.prod (.int .i64) (.prod .str (.prod (.int .i64) (.sl (.prod .str .str)))))))⟩),
  (28, ⟨6, 80, (.st [(0, 3), (1, 9), (2, 3), (3, 9), (4, 3), (5, 23)]), [(.v (.int .i64 (0 : Int))), (.v (.string (⟨#[]⟩ : ByteArray))), (.v (.int .i64 (0 : Int))), (.v (.string (⟨#[]⟩ : ByteArray))), (.v (.int .i64 (0 : Int))), (.v (.slice none 0 0))], some (.prod (.int .i64) (.prod .str (.prod (.int .i64) (.prod .str (.prod (.int .i64) (.sl (.prod .str .str)))))))⟩),
  (29, ⟨1, 8, .fnc, [(.v .nilFunc)], none⟩),
  (30, ⟨1, 8, .fnc, [(.v .nilFunc)], none⟩),
  (31, ⟨1, 8, .fnc, [(.v .nilFunc)], none⟩),
  (32, ⟨1, 8, .fnc, [(.v .nilFunc)], none⟩),
  (33, ⟨1, 8, .fnc, [(.v .nilFunc)], none⟩),
  (34, ⟨1, 8, .fnc, [(.v .nilFunc)], none⟩),
  (35, ⟨1, 8, .fnc, [(.v .nilFunc)], none⟩),
  (36, ⟨4, 32, (.st [(0, 4), (1, 3), (2, 3), (3, 3)]), [(.v (.bool false)), (.v (.int .i64 (0 : Int))), (.v (.int .i64 (0 : Int))), (.v (.int .i64 (0 : Int)))], some (.prod .bool (.prod (.int .i64) (.prod (.int .i64) (.int .i64))))⟩),
  (37, ⟨4, 32, (.st [(0, 4), (1, 3), (2, 3), (3, 3)]), [(.v (.bool false)), (.v (.int .i64 (0 : Int))), (.v (.int .i64 (0 : Int))), (.v (.int .i64 (0 : Int)))], some (.prod .bool (.prod (.int .i64) (.prod (.int .i64) (.int .i64))))⟩),
  (38, ⟨2, 16, (.st [(0, 3), (1, 3)]), [(.v (.int .i64 (0 : Int))), (.v (.int .i64 (0 : Int)))], some (.prod (.int .i64) (.int .i64))⟩),
  (39, ⟨2, 16, (.st [(0, 3), (1, 3)]), [(.v (.int .i64 (0 : Int))), (.v (.int .i64 (0 : Int)))], some (.prod (.int .i64) (.int .i64))⟩),
  (40, ⟨4, 32, (.st [(0, 4), (1, 3), (2, 3), (3, 3)]), [(.v (.bool false)), (.v (.int .i64 (0 : Int))), (.v (.int .i64 (0 : Int))), (.v (.int .i64 (0 : Int)))], some (.prod .bool (.prod (.int .i64) (.prod (.int .i64) (.int .i64))))⟩),
  (41, ⟨4, 32, (.st [(0, 4), (1, 3), (2, 3), (3, 3)]), [(.v (.bool false)), (.v (.int .i64 (0 : Int))), (.v (.int .i64 (0 : Int))), (.v (.int .i64 (0 : Int)))], some (.prod .bool (.prod (.int .i64) (.prod (.int .i64) (.int .i64))))⟩),
  (42, ⟨21, 200, (.st [(0, 28), (6, 37), (10, 3), (11, 39), (13, 41), (17, 4), (18, 3), (19, 3), (20, 3)]), [(.v (.int .i64 (0 : Int))), (.v (.string (⟨#[]⟩ : ByteArray))), (.v (.int .i64 (0 : Int))), (.v (.string (⟨#[]⟩ : ByteArray))), (.v (.int .i64 (0 : Int))), (.v (.slice none 0 0)), (.v (.bool false)), (.v (.int .i64 (0 : Int))), (.v (.int .i64 (0 : Int))), (.v (.int .i64 (0 : Int))), (.v (.int .i64 (0 : Int))), (.v (.int .i64 (0 : Int))), (.v (.int .i64 (0 : Int))), (.v (.bool false)), (.v (.int .i64 (0 : Int))), (.v (.int .i64 (0 : Int))), (.v (.int .i64 (0 : Int))), (.v (.bool false)), (.v (.int .i64 (0 : Int))), (.v (.int .i64 (0 : Int))), (.v (.int .i64 (0 : Int)))], some (.prod (.prod (.int .i64) (.prod .str (.prod (.int .i64) (.prod .str (.prod (.int .i64) (.sl (.prod .str .str))))))) (.prod (.prod .bool (.prod (.int .i64) (.prod (.int .i64) (.int .i64)))) (.prod (.int .i64) (.prod (.prod (.int .i64) (.int .i64)) (.prod (.prod .bool (.prod (.int .i64) (.prod (.int .i64) (.int .i64)))) (.prod .bool (.prod (.int .i64) (.prod (.int .i64) (.int .i64)))))))))⟩),
  (43, ⟨21, 200, (.st [(0, 28), (6, 37), (10, 3), (11, 39), (13, 41), (17, 4), (18, 3), (19, 3), (20, 3)]), [(.v (.int .i64 (0 : Int))), (.v (.string (⟨#[]⟩ : ByteArray))), (.v (.int .i64 (0 : Int))), (.v (.string (⟨#[]⟩ : ByteArray))), (.v (.int .i64 (0 : Int))), (.v (.slice none 0 0)), (.v (.bool false)), (.v (.int .i64 (0 : Int))), (.v (.int .i64 (0 : Int))), (.v (.int .i64 (0 : Int))), (.v (.int .i64 (0 : Int))), (.v (.int .i64 (0 : Int))), (.v (.int .i64 (0 : Int))), (.v (.bool false)), (.v (.int .i64 (0 : Int))), (.v (.int .i64 (0 : Int))), (.v (.int .i64 (0 : Int))), (.v (.bool false)), (.v (.int .i64 (0 : Int))), (.v (.int .i64 (0 : Int))), (.v (.int .i64 (0 : Int)))], some (.prod (.prod (.int .i64) (.prod .str (.prod (.int .i64) (.prod .str (.prod (.int .i64) (.sl (.prod .str .str))))))) (.prod (.prod .bool (.prod (.int .i64) (.prod (.int .i64) (.int .i64)))) (.prod (.int .i64) (.prod (.prod (.int .i64) (.int .i64)) (.prod (.prod .bool (.prod (.int .i64) (.prod (.int .i64) (.int .i64)))) (.prod .bool (.prod (.int .i64) (.prod (.int .i64) (.int .i64)))))))))⟩),
  (44, ⟨1, 8, .fnc, [(.v .nilFunc)], none⟩),
  (45, ⟨1, 8, .fnc, [(.v .nilFunc)], none⟩),
  (46, ⟨1, 8, .fnc, [(.v .nilFunc)], none⟩),
  (47, ⟨2, 32, (.st [(0, 9), (1, 9)]), [(.v (.string (⟨#[]⟩ : ByteArray))), (.v (.string (⟨#[]⟩ : ByteArray)))], some (.prod .str .str)⟩),
  (48, ⟨2, 32, (.st [(0, 9), (1, 9)]), [(.v (.string (⟨#[]⟩ : ByteArray))), (.v (.string (⟨#[]⟩ : ByteArray)))], some (.prod .str .str)⟩),
  (49, ⟨1, 8, .fnc, [(.v .nilFunc)], none⟩),
  (50, ⟨1, 8, .fnc, [(.v .nilFunc)], none⟩),
  (51, ⟨1, 8, .fnc, [(.v .nilFunc)], none⟩),
  (52, ⟨1, 8, .fnc, [(.v .nilFunc)], none⟩),
  (53, ⟨1, 8, .fnc, [(.v .nilFunc)], none⟩),
  (54, ⟨1, 8, .fnc, [(.v .nilFunc)], none⟩),
  (55, ⟨1, 8, .fnc, [(.v .nilFunc)], none⟩),
  (56, ⟨1, 8, .fnc, [(.v .nilFunc)], none⟩),
  (57, ⟨1, 8, .fnc, [(.v .nilFunc)], none⟩),
  (58, ⟨1, 8, .fnc, [(.v .nilFunc)], none⟩),
  (59, ⟨1, 8, .fnc, [(.v .nilFunc)], none⟩),
  (60, ⟨1, 8, .fnc, [(.v .nilFunc)], none⟩),
  (61, ⟨1, 8, .fnc, [(.v .nilFunc)], none⟩),
  (62, ⟨1, 8, .fnc, [(.v .nilFunc)], none⟩),
  (63, ⟨1, 8, .fnc, [(.v .nilFunc)], none⟩),
  (64, ⟨1, 8, .fnc, [(.v .nilFunc)], none⟩),
  (65, ⟨1, 8, .fnc, [(.v .nilFunc)], none⟩),
  (66, ⟨1, 8, .fnc, [(.v .nilFunc)], none⟩),
  (67, ⟨1, 8, .fnc, [(.v .nilFunc)], none⟩),
  (70, ⟨0, 0, (.arr 0 16), [], none⟩),
  (73, ⟨1, 8, .fnc, [(.v .nilFunc)], none⟩),
  (74, ⟨1, 4, (.int .u32), [(.v (.int .u32 (0 : Int)))], some (.int .u32)⟩),
  (75, ⟨1, 1, (.int .u8), [(.v (.int .u8 (0 : Int)))], some (.int .u8)⟩),
  (76, ⟨1, 1, (.int .u8), [(.v (.int .u8 (0 : Int)))], some (.int .u8)⟩),
  (77, ⟨1, 8, .fnc, [(.v .nilFunc)], none⟩),
  (78, ⟨1, 8, (.ptr 5), [(.v (.pointer none))], some (.pint .u8)⟩),
  (79, ⟨1, 4, (.int .i32), [(.v (.int .i32 (0 : Int)))], some (.int .i32)⟩),
  (80, ⟨1, 4, (.int .i32), [(.v (.int .i32 (0 : Int)))], some (.int .i32)⟩)]
theorem tab_ok : tabOf Try.prog tys = some tab := by kernel_rfl

theorem mixed : Try.prog.follows .mixedOrders = true := by kernel_rfl
theorem own0 : ownKnob Try.prog.godebug = none := by kernel_rfl
theorem laidOut0 : laidOutB Try.prog = true := by kernel_rfl

end Go.Proofs.Ytemkgdkkpeijfaa
