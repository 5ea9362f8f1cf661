/-
  Parts of a text: in plain words.
-/
import Derived.Test.YtcjlebkfekfkbaaT
namespace Go.Proofs.Ytcjlebkfekfkbaa
open Go VE

/-- The parts of a text from here on: 'r' bytes are left; a part has begun at 'a'; so many parts are behind. -/
def runs (s : ByteArray) (sep : Int) : Nat → Nat → Nat → Nat → List (Int × ByteArray)
  | 0, _, a, n => [((n : Int), s.extract a s.size)]
  | r + 1, i, a, n => if byteAt s (i : Int) = sep then ((n : Int), s.extract a i) :: runs s sep r (i + 1) (i + 1) (n + 1) else runs s sep r (i + 1) a n
def runsL (s : ByteArray) (sep : Int) : List (Int × ByteArray) := runs s sep s.size 0 0 0
def runsF (s : ByteArray) (b : Int) : IV := .c (.fn 28 [.snap [.v (.string s)] 0, .snap [.v (.int .u8 b)] 0])
def partsL (s : ByteArray) (b : Int) : List ByteArray := (runsL s b).map (·.2)

end Go.Proofs.Ytcjlebkfekfkbaa
