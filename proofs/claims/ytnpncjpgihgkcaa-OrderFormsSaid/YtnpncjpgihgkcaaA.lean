/-
  Rows of keys: the types that the code reads; what each function answers.
-/
import Derived.Test.YtnpncjpgihgkcaaVY
import Derived.Test.YtnpncjpgihgkcaaChecked
namespace Go.Proofs.Ytnpncjpgihgkcaa
open Go VE

def tys : List (Nat × Option Ty) := [(1, none), (2, some (.int .i64)), (3, some (.int .i64)), (4, some .bool), (5, some (.int .u8)), (6, some (.int .u8)), (7, some (.prod (.int .i64) (.prod (.int .i64) (.prod .bool (.int .u8))))), (8, some (.prod (.int .i64) (.prod (.int .i64) (.prod .bool (.int .u8))))), (9, some .str), (10, some .str), (11, some .str), (12, some (.int .u64)), (15, none), (16, none), (17, none), (21, some (.int .i32)), (22, some (.sl (.prod (.int .i64) (.int .i64)))), (23, some (.prod (.int .i64) (.int .i64))), (24, some (.prod (.int .i64) (.int .i64))), (25, none), (26, none), (27, none), (28, some (.sl (.prod (.int .i64) (.int .i64)))), (29, none), (30, none), (31, none), (33, none), (34, none), (35, none), (36, some (.int .u64)), (38, none), (39, none), (40, none), (41, none), (42, none), (43, some (.prod (.int .i64) (.int .i64))), (44, none), (45, none), (48, none)]
def tab : List (Nat × TI) := [
  (1, ⟨1, 8, .fnc, [(.v .nilFunc)], none⟩),
  (2, ⟨1, 8, (.int .i64), [(.v (.int .i64 (0 : Int)))], some (.int .i64)⟩),
  (3, ⟨1, 8, (.int .i64), [(.v (.int .i64 (0 : Int)))], some (.int .i64)⟩),
  (4, ⟨1, 1, .bool, [(.v (.bool false))], some .bool⟩),
  (5, ⟨1, 1, (.int .u8), [(.v (.int .u8 (0 : Int)))], some (.int .u8)⟩),
  (6, ⟨1, 1, (.int .u8), [(.v (.int .u8 (0 : Int)))], some (.int .u8)⟩),
  (7, ⟨4, 24, (.st [(0, 2), (1, 3), (2, 4), (3, 6)]), [(.v (.int .i64 (0 : Int))), (.v (.int .i64 (0 : Int))), (.v (.bool false)), (.v (.int .u8 (0 : Int)))], some (.prod (.int .i64) (.prod (.int .i64) (.prod .bool (.int .u8))))⟩),
  (8, ⟨4, 24, (.st [(0, 2), (1, 3), (2, 4), (3, 6)]), [(.v (.int .i64 (0 : Int))), (.v (.int .i64 (0 : Int))), (.v (.bool false)), (.v (.int .u8 (0 : Int)))], some (.prod (.int .i64) (.prod (.int .i64) (.prod .bool (.int .u8))))⟩),
  (9, ⟨1, 16, .str, [(.v (.string (⟨#[]⟩ : ByteArray)))], some .str⟩),
  (10, ⟨1, 16, .str, [(.v (.string (⟨#[]⟩ : ByteArray)))], some .str⟩),
  (11, ⟨1, 16, .str, [(.v (.string (⟨#[]⟩ : ByteArray)))], some .str⟩),
  (12, ⟨1, 8, (.int .u64), [(.v (.int .u64 (0 : Int)))], some (.int .u64)⟩),
  (15, ⟨1, 8, (.ptr 47), [(.v (.pointer none))], none⟩),
  (16, ⟨1, 8, (.ptr 50), [(.v (.pointer none))], none⟩),
  (17, ⟨1, 8, (.ptr 60), [(.v (.pointer none))], none⟩),
  (21, ⟨1, 4, (.int .i32), [(.v (.int .i32 (0 : Int)))], some (.int .i32)⟩),
  (22, ⟨1, 24, (.sl 24), [(.v (.slice none 0 0))], some (.sl (.prod (.int .i64) (.int .i64)))⟩),
  (23, ⟨2, 16, (.st [(0, 3), (1, 3)]), [(.v (.int .i64 (0 : Int))), (.v (.int .i64 (0 : Int)))], some (.prod (.int .i64) (.int .i64))⟩),
  (24, ⟨2, 16, (.st [(0, 3), (1, 3)]), [(.v (.int .i64 (0 : Int))), (.v (.int .i64 (0 : Int)))], some (.prod (.int .i64) (.int .i64))⟩),
  (25, ⟨1, 8, .fnc, [(.v .nilFunc)], none⟩),
  (26, ⟨1, 8, .fnc, [(.v .nilFunc)], none⟩),
  (27, ⟨1, 8, .fnc, [(.v .nilFunc)], none⟩),
  (28, ⟨1, 24, (.sl 43), [(.v (.slice none 0 0))], some (.sl (.prod (.int .i64) (.int .i64)))⟩),
  (29, ⟨1, 8, .fnc, [(.v .nilFunc)], none⟩),
  (30, ⟨1, 8, .fnc, [(.v .nilFunc)], none⟩),
  (31, ⟨1, 8, .fnc, [(.v .nilFunc)], none⟩),
  (33, ⟨1, 8, .fnc, [(.v .nilFunc)], none⟩),
  (34, ⟨1, 8, .fnc, [(.v .nilFunc)], none⟩),
  (35, ⟨1, 8, .fnc, [(.v .nilFunc)], none⟩),
  (36, ⟨1, 8, (.int .u64), [(.v (.int .u64 (0 : Int)))], some (.int .u64)⟩),
  (38, ⟨1, 8, .fnc, [(.v .nilFunc)], none⟩),
  (39, ⟨1, 8, .fnc, [(.v .nilFunc)], none⟩),
  (40, ⟨1, 8, .fnc, [(.v .nilFunc)], none⟩),
  (41, ⟨1, 8, .fnc, [(.v .nilFunc)], none⟩),
  (42, ⟨1, 8, .fnc, [(.v .nilFunc)], none⟩),
  (43, ⟨2, 16, (.st [(0, 3), (1, 3)]), [(.v (.int .i64 (0 : Int))), (.v (.int .i64 (0 : Int)))], some (.prod (.int .i64) (.int .i64))⟩),
  (44, ⟨1, 8, .fnc, [(.v .nilFunc)], none⟩),
  (45, ⟨1, 8, .fnc, [(.v .nilFunc)], none⟩),
  (48, ⟨0, 0, (.arr 0 16), [], none⟩)]
theorem tab_ok : tabOf Try.prog tys = some tab := by kernel_rfl

abbrev TKey : Ty := .prod (.int .i64) (.int .i64)
def less (a b : Int × Int) : Bool := decide (a.1 < b.1) || (decide (a.1 = b.1) && decide (a.2 < b.2))
def rising : List (Int × Int) → Bool
  | a :: b :: l => less a b && rising (b :: l)
  | _ => true
/-- Two rows in one. -/
def mg : Nat → List (Int × Int) → List (Int × Int) → List (Int × Int)
  | 0, _, _ => []
  | _ + 1, [], m => m
  | _ + 1, l, [] => l
  | n + 1, a :: l, b :: m => if less b a then b :: mg n (a :: l) m else a :: mg n l (b :: m)
def merge (l m : List (Int × Int)) : List (Int × Int) := mg (l.length + m.length + 1) l m
def sortN : Nat → List (Int × Int) → List (Int × Int)
  | 0, l => l
  | n + 1, l => if l.length < 2 then l else merge (sortN n (l.take (l.length / 2))) (sortN n (l.drop (l.length / 2)))
def sort (l : List (Int × Int)) : List (Int × Int) := sortN l.length l

def spLess : ISpec := fun args k => match args with
  | [.agg [.v (.int .i64 a), .v (.int .i64 b)], .agg [.v (.int .i64 c), .v (.int .i64 d)]] => k (vb (less (a, b) (c, d))) []
  | _ => none
def spRising : ISpec := fun args k => match args with
  | [.c (.sl (.prod (.int .i64) (.int .i64)) l)] => test (decide (List.length l ≤ 140737488355328)) (k (vb (rising l)) [])
  | _ => none
def spMerge : ISpec := fun args k => match args with
  | [.c (.sl (.prod (.int .i64) (.int .i64)) l), .c (.sl (.prod (.int .i64) (.int .i64)) m)] => test (decide (List.length l + List.length m ≤ 8796093022208)) (k (.c (.sl TKey (merge l m))) [])
  | _ => none
/-- Rows shorter than n alone: for the recursion. -/
def spSortN (n : Nat) : ISpec := fun args k => match args with
  | [.c (.sl (.prod (.int .i64) (.int .i64)) l)] => test (decide (List.length l < n) && decide (List.length l ≤ 8796093022208)) (k (.c (.sl TKey (sort l))) [])
  | _ => none
def spSort : ISpec := fun args k => match args with
  | [.c (.sl (.prod (.int .i64) (.int .i64)) l)] => test (decide (List.length l ≤ 8796093022208)) (k (.c (.sl TKey (sort l))) [])
  | _ => none

/-- How many are ahead: halving. -/
def findN : Nat → List (Int × Int) → Int × Int → Nat → Nat → Nat
  | 0, _, _, lo, _ => lo
  | n + 1, l, k, lo, hi => if lo < hi then (if less (rdEl TKey l (lo + (hi - lo) / 2)) k then findN n l k (lo + (hi - lo) / 2 + 1) hi else findN n l k lo (lo + (hi - lo) / 2)) else lo
def find (l : List (Int × Int)) (k : Int × Int) : Nat := findN l.length l k 0 l.length
def there (l : List (Int × Int)) (k : Int × Int) : Bool := decide (find l k < l.length) && ((rdEl TKey l (find l k)).1 == k.1 && (rdEl TKey l (find l k)).2 == k.2)
def spFind : ISpec := fun args k => match args with
  | [.c (.sl (.prod (.int .i64) (.int .i64)) l), .agg [.v (.int .i64 a), .v (.int .i64 b)]] => test (decide (List.length l ≤ 8796093022208)) (k (.tup [.c (.v (.int .i64 ((find l (a, b) : Nat) : Int))), .c (.v (.bool (there l (a, b))))]) [])
  | _ => none
/-- Insertion, from behind. -/
def spKeys : ISpec := fun args k => match args with
  | [.c (.sl (.prod (.int .i64) (.int .i64)) l)] => test (decide (List.length l ≤ 8796093022208)) (k (.c (.sl TKey l)) [])
  | _ => none
def sameL : List (Int × Int) → List (Int × Int) → Bool
  | [], [] => true
  | a :: l, b :: m => (a.1 == b.1 && a.2 == b.2) && sameL l m
  | _, _ => false
def spSame : ISpec := fun args k => match args with
  | [.c (.sl (.prod (.int .i64) (.int .i64)) l), .c (.sl (.prod (.int .i64) (.int .i64)) m)] => test (decide (List.length l ≤ 140737488355328)) (k (vb (sameL l m)) [])
  | _ => none
def spTrue : ISpec := fun args k => match args with
  | [] => k (vb true) []
  | _ => none

end Go.Proofs.Ytnpncjpgihgkcaa
