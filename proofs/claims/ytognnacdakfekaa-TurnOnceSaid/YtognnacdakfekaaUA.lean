/-
  Rows gone through: what each function answers, in plain words.
-/
import Derived.Test.YtognnacdakfekaaUA0
namespace Go.Proofs.Ytognnacdakfekaa
open Go VE

def upto {α : Type} (f : Nat → α) (k : Nat) : List α := (List.range k).map f
/-- What a turn begins with. -/
def first (n f : Int) : Int := if Int.tmod f n < 0 then Int.tmod f n + n else Int.tmod f n
def turnL (n f : Int) : List Int := if n < 1 then [] else upto (fun j => first n f + (j : Int)) (n - first n f).toNat ++ upto (fun j => (j : Int)) (first n f).toNat
def timesL (f s t : Int) : List Int := if s < 1 ∨ f < 0 ∨ 4611686018427387904 < t ∨ t < f then [] else upto (fun k => f + (k : Int) * s) (((t - f) / s).toNat + 1)
def turnF (n f : Int) : IV := .c (.fn 14 [.snap [.v (.int .i64 n)] 0, .snap [.v (.int .i64 f)] 0])
def timesF (f s t : Int) : IV := .c (.fn 16 [.snap [.v (.int .i64 s)] 0, .snap [.v (.int .i64 f)] 0, .snap [.v (.int .i64 t)] 0])
/-- The first n of a row. -/
def rowL (l : List Int) (n : Int) : List Int := l.take n.toNat
def drawR (d n : Int) : Int := if n < 1 then 0 else first n d

end Go.Proofs.Ytognnacdakfekaa
