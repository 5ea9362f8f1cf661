/-
  Rows of keys: what each function answers, in plain words.
-/
import Derived.Test.YtlaifjifgoadkaaT
namespace Go.Proofs.Ytlaifjifgoadkaa
open Go VE

abbrev TKey : Ty := .prod (.int .i64) (.int .i64)
abbrev Ky : Type := El TKey
abbrev kA (k : Ky) : Int := k.1
abbrev kB (k : Ky) : Int := k.2
def less (a b : Ky) : Bool := decide (kA a < kA b) || ((kA a == kA b) && decide (kB a < kB b))
def rising : List Ky → Bool
  | a :: b :: l => less a b && rising (b :: l)
  | _ => true
/-- Two rows in one. -/
def mg : Nat → List Ky → List Ky → List Ky
  | 0, _, _ => []
  | _ + 1, [], m => m
  | _ + 1, l, [] => l
  | n + 1, a :: l, b :: m => if less b a then b :: mg n (a :: l) m else a :: mg n l (b :: m)
def merge (l m : List Ky) : List Ky := mg (l.length + m.length + 1) l m
def sortN : Nat → List Ky → List Ky
  | 0, l => l
  | n + 1, l => if l.length < 2 then l else merge (sortN n (l.take (l.length / 2))) (sortN n (l.drop (l.length / 2)))
def sort (l : List Ky) : List Ky := sortN l.length l
/-- How many are ahead: halving. -/
def findN : Nat → List Ky → Ky → Nat → Nat → Nat
  | 0, _, _, lo, _ => lo
  | n + 1, l, k, lo, hi => if lo < hi then (if less (rdEl TKey l (lo + (hi - lo) / 2)) k then findN n l k (lo + (hi - lo) / 2 + 1) hi else findN n l k lo (lo + (hi - lo) / 2)) else lo
def find (l : List Ky) (k : Ky) : Nat := findN l.length l k 0 l.length
def there (l : List Ky) (k : Ky) : Bool := decide (find l k < l.length) && ((kA (rdEl TKey l (find l k)) == kA k) && (kB (rdEl TKey l (find l k)) == kB k))

end Go.Proofs.Ytlaifjifgoadkaa
