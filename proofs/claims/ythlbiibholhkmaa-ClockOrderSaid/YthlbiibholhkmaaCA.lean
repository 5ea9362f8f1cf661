/-
  Timers: what each function answers, in plain words.
-/
import Derived.Test.YthlbiibholhkmaaT
import Derived.Test.YthlbiibholhkmaaVVa
namespace Go.Proofs.Ythlbiibholhkmaa
open Go VE

abbrev TTimer : Ty := .prod (.int .i64) (.prod (.int .i64) (.int .i64))
abbrev TClock : Ty := .prod (.int .i64) (.sl (.prod (.int .i64) (.prod (.int .i64) (.int .i64))))

theorem ovl_ok : ∀ g, g ∈ [34] → OvlFn Try.prog g := fun g hg => by
  rw [List.mem_singleton] at hg
  subst hg
  exact ⟨Try.f34, 35, 4, 27, 3, Try.func34, by kernel_rfl, by kernel_rfl, by kernel_rfl, by kernel_rfl, by kernel_rfl, (tyOK_of_tab tab_ok 27 _ rfl).runSize⟩

def top : Int := 4611686018427387904
def timeC (n : Int) : Int := if n < 0 then 0 else if n < top then n else top
/-- Ahead: by when, by kind, by number. -/
def ltK (k l : Int × Int) : Bool := decide (k.1 < l.1) || ((k.1 == l.1) && decide (k.2 < l.2))
def ltT (a b : El TTimer) : Bool := decide (a.1 < b.1) || ((a.1 == b.1) && ltK a.2 b.2)
def cmpI (a b : Int) : Int := if a < b then -1 else if b < a then 1 else 0
def cmpT (a b : El TTimer) : Int := bif bne a.1 b.1 then cmpI a.1 b.1 else bif ltK a.2 b.2 then -1 else bif ltK b.2 a.2 then 1 else 0
def risesT : List (El TTimer) → Bool
  | a :: b :: l => ltT a b && risesT (b :: l)
  | _ => true
/-- How many are ahead of it. -/
def placeT (l : List (El TTimer)) (t : El TTimer) : Nat := (l.filter fun x => ltT x t).length
def thereT (l : List (El TTimer)) (t : El TTimer) : Bool := decide (placeT l t < l.length) && (cmpT (rdEl TTimer l (placeT l t)) t == 0)
def keyK (k i : Int) (t : El TTimer) : Bool := (t.2.1 == k) && (t.2.2 == i)
def hasK (l : List (El TTimer)) (k i : Int) : Bool := !decide (ixOf (keyK k i) l < 0)
def cutT (l : List (El TTimer)) (k i : Int) : List (El TTimer) := bif hasK l k i then cutOut l (ixOf (keyK k i) l).toNat ((ixOf (keyK k i) l).toNat + 1) else l
def cutC (c : El TClock) (k i : Int) : El TClock := (c.1, cutT c.2 k i)
def setOk (c : El TClock) (t : El TTimer) : Bool := !decide (t.1 < c.1) && !decide (t.1 > top)
def setC (c : El TClock) (t : El TTimer) : El TClock := bif setOk c t then (c.1, putIn (cutT c.2 t.2.1 t.2.2) (placeT (cutT c.2 t.2.1 t.2.2) t) t) else c
def atI (c : El TClock) (k i : Int) : Int := bif hasK c.2 k i then (rdEl TTimer c.2 (ixOf (keyK k i) c.2).toNat).1 else 0
def dueB (c : El TClock) (to : Int) : Bool := !((c.2.length : Int) == 0) && !decide ((rdEl TTimer c.2 0).1 > to)
def nextT (c : El TClock) (to : Int) : El TTimer := bif dueB c to then rdEl TTimer c.2 0 else (0, 0, 0)
def nextC (c : El TClock) (to : Int) : El TClock := bif dueB c to then ((rdEl TTimer c.2 0).1, c.2.drop 1) else c
def goB (c : El TClock) (to : Int) : Bool := !decide (to < c.1) && (!decide (to > top) && !(decide ((c.2.length : Int) > 0) && decide ((rdEl TTimer c.2 0).1 ≤ to)))
def goC (c : El TClock) (to : Int) : El TClock := bif goB c to then (to, c.2) else c
def eqT (a b : El TTimer) : Bool := (a.1 == b.1) && ((a.2.1 == b.2.1) && ((a.2.2 == b.2.2) && true))
def eqTs : List (El TTimer) → List (El TTimer) → Bool
  | [], [] => true
  | a :: l, b :: m => eqT a b && eqTs l m
  | _, _ => false

/-! ### the document's clock -/

def dropR (k i : Int) (l : List (El TTimer)) : List (El TTimer) := l.filter fun t => !keyK k i t
def cutRB (c : El TClock) (k i : Int) : Bool := bne (c.2.length : Int) ((dropR k i c.2).length : Int)
def cutRC (c : El TClock) (k i : Int) : El TClock := (c.1, dropR k i c.2)
/-- How many at the front are ahead of it. -/
def frontT (t : El TTimer) : List (El TTimer) → Nat
  | [] => 0
  | a :: l => bif ltT a t then frontT t l + 1 else 0
def setRC (c : El TClock) (t : El TTimer) : El TClock := bif setOk c t then (c.1, putIn (dropR t.2.1 t.2.2 c.2) (frontT t (dropR t.2.1 t.2.2 c.2)) t) else c
def atRI (c : El TClock) (k i : Int) : Int := match c.2.find? (keyK k i) with | some t => t.1 | none => 0

end Go.Proofs.Ythlbiibholhkmaa
