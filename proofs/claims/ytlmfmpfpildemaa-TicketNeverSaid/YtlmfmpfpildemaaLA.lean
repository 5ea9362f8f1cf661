/-
  Tickets: what each function answers, in plain words.
-/
import Derived.Test.YtlmfmpfpildemaaVV
namespace Go.Proofs.Ytlmfmpfpildemaa
open Go VE

abbrev TKey : Ty := .prod (.int .i64) (.int .i64)
abbrev TBook : Ty := .prod (.int .i64) (.sl (.prod (.int .i64) (.int .i64)))
abbrev TBookR : Ty := .prod (.sl (.prod (.int .i64) (.int .i64))) (.int .i64)

def keyA (x : Int) (k : Int × Int) : Bool := k.1 == x
def keyB (x : Int) (k : Int × Int) : Bool := k.2 == x
def dropL (h : Int) (l : List (Int × Int)) : List (Int × Int) := l.filter fun k => !keyB h k
def full (b : El TBook) : Bool := decide (2000 ≤ b.2.length)
def nextN (b : El TBook) : Int := IntKind.i64.wrap (b.1 + 1)
def openI (b : El TBook) : Int := bif full b then 0 else nextN b
def openE (b : El TBook) : Int := bif full b then 6 else 0
def openB (b : El TBook) (h : Int) : El TBook := bif full b then b else (nextN b, b.2 ++ [(nextN b, h)])
def ixB (b : El TBook) (i : Int) : Int := ixOf (keyA i) b.2
def hasId (b : El TBook) (i : Int) : Bool := !decide (ixB b i < 0)
def closeI (b : El TBook) (i : Int) : Int := bif hasId b i then (rdEl TKey b.2 (ixB b i).toNat).2 else 0
def closeE (b : El TBook) (i : Int) : Int := bif hasId b i then 0 else 4
def closeB (b : El TBook) (i : Int) : El TBook := bif hasId b i then (b.1, cutOut b.2 (ixB b i).toNat ((ixB b i).toNat + 1)) else b
def countI (b : El TBook) (h : Int) : Int := ((b.2.filter (keyB h)).length : Int)
def dropB (b : El TBook) (h : Int) : El TBook := bif decide (0 < countI b h) then (b.1, dropL h b.2) else b

def ofRI (b : El TBookR) (i : Int) : Int := match b.1.find? (keyA i) with | some k => k.2 | none => 0
def ofRB (b : El TBookR) (i : Int) : Bool := b.1.any (keyA i)
def dropA (i : Int) (l : List (Int × Int)) : List (Int × Int) := l.filter fun k => !keyA i k
def fullR (b : El TBookR) : Bool := decide (2000 ≤ b.1.length)
def nextR (b : El TBookR) : Int := IntKind.i64.wrap (b.2 + 1)
def openRI (b : El TBookR) : Int := bif fullR b then 0 else nextR b
def openRE (b : El TBookR) : Int := bif fullR b then 6 else 0
def openRB (b : El TBookR) (h : Int) : El TBookR := bif fullR b then b else (b.1 ++ [(nextR b, h)], nextR b)
def closeRB (b : El TBookR) (i : Int) : El TBookR := bif ofRB b i then (dropA i b.1, b.2) else b
def countRI (b : El TBookR) (h : Int) : Int := ((b.1.filter (keyB h)).length : Int)
def dropRB (b : El TBookR) (h : Int) : El TBookR := (dropL h b.1, b.2)
def kEq (a b : Int × Int) : Bool := (a.1 == b.1) && ((a.2 == b.2) && true)
def eqK : List (Int × Int) → List (Int × Int) → Bool
  | [], [] => true
  | a :: l, b :: m => kEq a b && eqK l m
  | _, _ => false

end Go.Proofs.Ytlmfmpfpildemaa
