/-
  Probes: what each function answers, in plain words.
-/
import Derived.Test.YtdigifchnecnkaaDoorT
import Derived.Test.YtdigifchnecnkaaDoorCA
import Derived.Test.YtdigifchnecnkaaDoorXA
namespace Go.Proofs.YtdigifchnecnkaaDoor
open Go VE

abbrev TQ : Ty := .prod .bool (.prod (.int .i64) (.prod (.int .i64) (.int .i64)))
abbrev cInterval (c : El TConfig) : Int := c.1
abbrev cJitter (c : El TConfig) : Int := c.2.2.1
abbrev cRise (c : El TConfig) : Int := c.2.2.2.1
abbrev cFall (c : El TConfig) : Int := c.2.2.2.2.1

def wellB (p : El TQ) : Bool := (p.2.2.1 == (2 : Int)) || ((p.2.2.1 == (0 : Int)) && p.1)
def movedI (a b : El TQ) : Int := bif wellB b && !wellB a then 1 else bif wellB a && !wellB b then 2 else 0
def beginQ (p : El TQ) (i : Int) : El TQ := (p.1, p.2.1, p.2.2.1, i)
/-- How many answers in a row are against what is held. -/
def m0I (p : El TQ) : Int := ite ((0 : Int) > p.2.1) (0 : Int) p.2.1
def runI (p : El TQ) : Int := bif decide (m0I p < 4611686018427387904) then m0I p + 1 else m0I p
def mostI (c : El TConfig) (p : El TQ) : Int := bif p.1 then cFall (heldC c) else cRise (heldC c)
def endQ (c : El TConfig) (p : El TQ) (ok : Bool) : El TQ :=
  bif ok == p.1 then (p.1, 0, p.2.2.1, 0) else bif decide (runI p ≥ mostI c p) then (!p.1, 0, p.2.2.1, 0) else (p.1, runI p, p.2.2.1, 0)
def endM (c : El TConfig) (p : El TQ) (ok : Bool) : Int := bif ok == p.1 then 0 else movedI p (endQ c p ok)
def forceOk (how : Int) : Bool := !decide (how < 0) && !decide (how > 2)
def forceQ (p : El TQ) (how : Int) : El TQ := bif forceOk how then (p.1, p.2.1, how, p.2.2.2) else p
def forceM (p : El TQ) (how : Int) : Int := bif forceOk how then movedI p (forceQ p how) else 0
noncomputable def waitI (c : El TConfig) (h i : Int) : Int := cInterval (heldC c) + belowN (withN (itoaB h) i) (cJitter (heldC c) + 1)

end Go.Proofs.YtdigifchnecnkaaDoor
