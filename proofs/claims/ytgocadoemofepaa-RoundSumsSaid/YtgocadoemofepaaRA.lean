/-
  In turn, by weight: what each function answers, in plain words.
-/
import Derived.Test.YtgocadoemofepaaVZo
namespace Go.Proofs.Ytgocadoemofepaa
open Go VE

abbrev TShare : Ty := .prod (.int .i64) (.int .i64)
abbrev TWheel : Ty := .prod (.sl (.prod (.int .i64) (.int .i64))) (.sl (.int .i64))
abbrev TWheelR : Ty := .prod (.sl (.prod (.int .i64) (.int .i64))) (.sl (.prod (.int .i64) (.int .i64)))

def shEq (a b : Int × Int) : Bool := (a.1 == b.1) && ((a.2 == b.2) && true)
def eqSh : List (Int × Int) → List (Int × Int) → Bool
  | [], [] => true
  | a :: l, b :: m => shEq a b && eqSh l m
  | _, _ => false
def ixOf {α : Type} (p : α → Bool) (l : List α) : Int := match ixF p l 0 with | some i => (i : Int) | none => -1
def idIs (id : Int) (x : Int × Int) : Bool := x.1 == id
/-- May row and part be? Nobody of the k ahead has the number of the one at k. -/
def okAt (l : List (Int × Int)) (k : Nat) : Bool :=
  (decide (1 ≤ (rdEl TShare l k).2) && decide ((rdEl TShare l k).2 ≤ 1000000)) && !((l.take k).any (idIs (rdEl TShare l k).1))
def mayRow (l : List (Int × Int)) : Bool := !anyN (fun k => !okAt l k) 0 l.length && (decide (1 ≤ l.length) && decide (l.length ≤ 64))
/-- Whether the one at k is ahead of the one at top. -/
def ahead (l : List (Int × Int)) (now : List Int) (k top : Nat) : Bool :=
  decide (rdEl (.int .i64) now k > rdEl (.int .i64) now top) || ((rdEl (.int .i64) now k == rdEl (.int .i64) now top) && decide ((rdEl TShare l k).1 < (rdEl TShare l top).1))
def bump (l : List (Int × Int)) (now : List Int) (k : Nat) : List Int := now.set k (IntKind.i64.wrap (rdEl (.int .i64) now k + (rdEl TShare l k).2))
/-- Once round the row: who is ahead, the sum of parts, where each stands. -/
def spin (l : List (Int × Int)) : Nat → Nat → Nat → Int → List Int → Nat × Int × List Int
  | 0, _, top, all, now => (top, all, now)
  | n + 1, k, top, all, now => spin l n (k + 1) (bif ahead l (bump l now k) k top then k else top) (IntKind.i64.wrap (all + (rdEl TShare l k).2)) (bump l now k)
def startN (row l : List (Int × Int)) (now : List Int) : List Int := bif eqSh row l then now else List.replicate l.length 0
def spun (row l : List (Int × Int)) (now : List Int) : Nat × Int × List Int := spin l l.length 0 0 0 (startN row l now)
/-- Where each stands behind it. -/
def nowOf (row l : List (Int × Int)) (now : List Int) : List Int :=
  (spun row l now).2.2.set (spun row l now).1 (IntKind.i64.wrap (rdEl (.int .i64) (spun row l now).2.2 (spun row l now).1 - (spun row l now).2.1))
def idOf' (row l : List (Int × Int)) (now : List Int) : Int := (rdEl TShare l (spun row l now).1).1
def turnsOf (row : List (Int × Int)) (now : List Int) : List (Int × Int) := List.zipWith (fun s n => (s.1, n)) row now
def wheelN (w : El TWheel) (l : List (Int × Int)) : El TWheel := bif mayRow l then (l, nowOf w.1 l w.2) else w
def nextI (w : El TWheel) (l : List (Int × Int)) : Int := bif mayRow l then idOf' w.1 l w.2 else 0
def nowsR (w : El TWheelR) : List Int := w.2.map (·.2)
def wheelRN (w : El TWheelR) (l : List (Int × Int)) : El TWheelR := bif mayRow l then (l, turnsOf l (nowOf w.1 l (nowsR w))) else w
def nextRI (w : El TWheelR) (l : List (Int × Int)) : Int := bif mayRow l then idOf' w.1 l (nowsR w) else 0

end Go.Proofs.Ytgocadoemofepaa
