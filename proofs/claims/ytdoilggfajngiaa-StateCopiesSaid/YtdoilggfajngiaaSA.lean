/-
  States: what each function answers, in plain words.
-/
import Derived.Test.YtdoilggfajngiaaHA
namespace Go.Proofs.Ytdoilggfajngiaa
open Go VE

abbrev TQ : Ty := .prod .bool (.prod (.int .i64) (.prod (.int .i64) (.int .i64)))
abbrev TBk : Ty := .prod (.int .i64) (.int .i64)
abbrev TStatus : Ty := .prod THost (.prod TQ (.prod (.int .i64) (.prod TBk (.prod TQ (.prod .bool (.prod (.int .i64) (.prod (.int .i64) (.int .i64))))))))

abbrev sId (s : El TStatus) : Int := s.1.1
abbrev sProb (s : El TStatus) : El TQ := s.2.1
abbrev sErr (s : El TStatus) : Int := s.2.2.1
abbrev sBk (s : El TStatus) : El TBk := s.2.2.2.1
abbrev sOut (s : El TStatus) : El TQ := s.2.2.2.2.1
abbrev sDrains (s : El TStatus) : Bool := s.2.2.2.2.2.1
abbrev sGone (s : El TStatus) : Int := s.2.2.2.2.2.2.1
abbrev sSince (s : El TStatus) : Int := s.2.2.2.2.2.2.2.1
abbrev sAct (s : El TStatus) : Int := s.2.2.2.2.2.2.2.2

def wellB (p : El TQ) : Bool := (p.2.2.1 == (2 : Int)) || ((p.2.2.1 == (0 : Int)) && p.1)
def isTimeB (n : Int) : Bool := decide (0 ≤ n) && decide (n ≤ 4611686018427387904)
def timeI (n : Int) : Int := if n < 0 then 0 else if n ≤ 4611686018427387904 then n else 4611686018427387904
def mayOneB (s : El TStatus) : Bool :=
  mayB s.1 && ((decide (0 ≤ (sProb s).2.2.1) && decide ((sProb s).2.2.1 ≤ 2)) && (!(sDrains s && (sOut s).1) && (
    (decide (0 ≤ (sProb s).2.1) && (decide (0 ≤ sErr s) && (decide (0 ≤ sAct s) && (decide (0 ≤ (sProb s).2.2.2) && (decide (0 ≤ (sBk s).1) && decide (0 ≤ (sOut s).2.2.2)))))) &&
    ((decide ((sOut s).2.2.2 ≤ 10) && decide ((sBk s).1 ≤ (sBk s).2)) && (isTimeB (sGone s) && (isTimeB (sSince s) && (isTimeB (sOut s).2.1 && isTimeB (sOut s).2.2.1)))))))
def badAt (l : List (El TStatus)) (k : Nat) : Bool := !mayOneB (rdEl TStatus l k) || (decide (0 < k) && !decide (sId (rdEl TStatus l (k - 1)) < sId (rdEl TStatus l k)))
def maySB (l : List (El TStatus)) : Bool := !anyN (badAt l) 0 l.length && decide (l.length ≤ 64)
def freeB (s : El TStatus) : Bool := !sDrains s && (wellB (sProb s) && !(sOut s).1)
def memB (s : El TStatus) : Bool := !sDrains s
def outB (s : El TStatus) : Bool := !sDrains s && (sOut s).1
def idIs (id : Int) (s : El TStatus) : Bool := sId s == id
def hostsL (l : List (El TStatus)) : List (El THost) := l.map fun s => s.1
def newB (h : El THost) (n : Int) : El TStatus := (h, (true, 0, 0, 0), 0, (0, 0), (false, 0, 0, 0), false, 0, timeI n, 0)
def eqQ (p q : El TQ) : Bool := (p.1 == q.1) && ((p.2.1 == q.2.1) && ((p.2.2.1 == q.2.2.1) && ((p.2.2.2 == q.2.2.2) && true)))
def eqBk (p q : El TBk) : Bool := (p.1 == q.1) && ((p.2 == q.2) && true)
def sameOB (a b : El TStatus) : Bool :=
  sameB a.1 b.1 && (eqQ (sProb a) (sProb b) && ((sErr a == sErr b) && (eqBk (sBk a) (sBk b) && (eqQ (sOut a) (sOut b) && ((sDrains a == sDrains b) && ((sGone a == sGone b) && ((sSince a == sSince b) && (sAct a == sAct b))))))))
def sameSB (l m : List (El TStatus)) : Bool := decide (l.length = m.length) && !anyN (fun k => !sameOB (rdEl TStatus l k) (rdEl TStatus m k)) 0 l.length
def sameHB (l m : List (El THost)) : Bool := decide (l.length = m.length) && !anyN (fun k => !sameB (rdEl THost l k) (rdEl THost m k)) 0 l.length
def lightL (l : List (El TStatus)) : Int := if anyN (fun k => decide (80 < k) || decide (lightI (rdEl TStatus l k).1 > 0)) 0 l.length then 1 else 0

end Go.Proofs.Ytdoilggfajngiaa
