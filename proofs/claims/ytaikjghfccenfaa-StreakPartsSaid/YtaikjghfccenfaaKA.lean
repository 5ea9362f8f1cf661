/-
  Failures in a row: what each function answers, in plain words.
-/
import Derived.Test.YtaikjghfccenfaaCA
namespace Go.Proofs.Ytaikjghfccenfaa
open Go VE

/-- A count as it is taken. -/
def n0 (n : Int) : Int := min (max n 0) 4611686018427387904
def noteN (n : Int) (ok : Bool) : Int := bif ok then 0 else min (max n 0) 4611686018427387903 + 1
def noteB (c : El TConfig) (n : Int) (ok : Bool) : Bool := !ok && (decide (cErrors (heldC c) > 0) && decide (noteN n false ≥ cErrors (heldC c)))
/-- The count, and how often yes was said, one answer on. -/
def upN (c : El TConfig) (a : Int × Int) (b : Bool) : Int × Int := bif noteB c a.1 b then (0, IntKind.i64.wrap (a.2 + 1)) else (noteN a.1 b, a.2)
def allP (c : El TConfig) (n : Int) (l : List Bool) : Int × Int := foldL (upN c) l (n0 n, 0)

end Go.Proofs.Ytaikjghfccenfaa
