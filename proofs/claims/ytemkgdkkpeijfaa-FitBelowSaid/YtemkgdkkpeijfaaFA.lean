/-
  Who may be picked: what each function answers, in plain words.
-/
import Derived.Test.YtemkgdkkpeijfaaSA
import Derived.Test.YtemkgdkkpeijfaaVV
namespace Go.Proofs.Ytemkgdkkpeijfaa
open Go VE

def intEq (p x : Int) : Bool := p == x
def pOf (c : List (El TPair)) (s : El TStatus) : Bool := hasB s.1 c
def pGr (c : Int) (s : El TStatus) : Bool := s.1.2.2.1 == c
def pWo (c : List Int) (s : El TStatus) : Bool := !(c.any (intEq (sId s)))
def pBe (c : Int) (s : El TStatus) : Bool := decide (sAct s < c)
def noP (p : El TStatus → Bool) (s : El TStatus) : Bool := !p s
def ofL (l : List (El TStatus)) (c : List (El TPair)) (b : Bool) : List (El TStatus) := bif ((((l.filter memB).filter (pOf c)).length : Int) == 0) && b then l.filter memB else (l.filter memB).filter (pOf c)

end Go.Proofs.Ytemkgdkkpeijfaa
