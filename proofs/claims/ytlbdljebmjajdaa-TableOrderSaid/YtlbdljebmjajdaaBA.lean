/-
  Tables: what each function answers, in plain words.
-/
import Derived.Test.YtlbdljebmjajdaaT
import Derived.Test.YtlbdljebmjajdaaHA
import Derived.Test.YtlbdljebmjajdaaVVa
namespace Go.Proofs.Ytlbdljebmjajdaa
open Go VE

abbrev TKey : Ty := .prod (.int .i64) (.int .i64)

theorem ovl_ok : ∀ g, g ∈ [46] → OvlFn Try.prog g := fun g hg => by
  rw [List.mem_singleton] at hg
  subst hg
  exact ⟨Try.f46, 22, 4, 34, 6, Try.func46, by kernel_rfl, by kernel_rfl, by kernel_rfl, by kernel_rfl, by kernel_rfl, (tyOK_of_tab tab_ok 34 _ rfl).runSize⟩

def ltK (k l : Int × Int) : Bool := decide (k.1 < l.1) || ((k.1 == l.1) && decide (k.2 < l.2))
def risesK : List (El TKey) → Bool
  | a :: b :: l => ltK a b && risesK (b :: l)
  | _ => true
def placeK (l : List (El TKey)) (k : El TKey) : Nat := (l.filter fun x => ltK x k).length
def thereK (l : List (El TKey)) (k : El TKey) : Bool := decide (placeK l k < l.length) && (((rdEl TKey l (placeK l k)).1 == k.1) && (((rdEl TKey l (placeK l k)).2 == k.2) && true))
def keysL (l : List (El THost)) : List (El TKey) := l.map fun h => (h.1, (0 : Int))
def nmB (h : El THost) : Bool := !mayB h
def mayTB (l : List (El THost)) : Bool := decide (l.length ≤ 64) && (risesK (keysL l) && !l.any nmB)
def idH (i : Int) (h : El THost) : Bool := h.1 == i
def intEq (p : Int) (x : Int) : Bool := p == x
/-- What adding answers. -/
def addE (l : List (El THost)) (h : El THost) : Int :=
  bif !mayTB l then 1 else bif !mayB h then 1 else bif thereK (keysL l) (h.1, 0) then 3 else bif (l.length : Int) == 64 then 6 else 0
def addL (l : List (El THost)) (h : El THost) : List (El THost) := bif addE l h == 0 then putIn l (placeK (keysL l) (h.1, 0)) h else []
def cutE (l : List (El THost)) (i : Int) : Int := bif !mayTB l then 1 else bif decide (ixOf (idH i) l < 0) then 4 else 0
def cutL (l : List (El THost)) (i : Int) : List (El THost) := bif cutE l i == 0 then cutOut l (ixOf (idH i) l).toNat ((ixOf (idH i) l).toNat + 1) else []
/-- Is it there, at the same address? -/
def staysB (l : List (El THost)) (h : El THost) : Bool := decide (ixOf (idH h.1) l ≥ 0) && ((rdEl THost l (ixOf (idH h.1) l).toNat).2.1.toList == h.2.1.toList)
def idsL (l : List (El THost)) : List Int := l.map fun h => h.1
def mayCB (l m : List (El THost)) : Bool := mayTB l && mayTB m
def changeE (l m : List (El THost)) : Int := bif mayCB l m then 0 else 1
def stayL (l m : List (El THost)) : List Int := bif mayCB l m then idsL (m.filter (staysB l)) else []
def comeL (l m : List (El THost)) : List Int := bif mayCB l m then idsL (m.filter fun h => !staysB l h) else []
def goneL (l m : List (El THost)) : List Int := bif mayCB l m then idsL (l.filter fun h => !(idsL (m.filter (staysB l))).any (intEq h.1)) else []
def goneR (l m : List (El THost)) : List Int := bif mayCB l m then idsL (l.filter fun h => !staysB m h) else []
def sameHB (l m : List (El THost)) : Bool := decide (l.length = m.length) && !anyN (fun k => !sameB (rdEl THost l k) (rdEl THost m k)) 0 l.length
def eqIs : List Int → List Int → Bool
  | [], [] => true
  | a :: l, b :: m => (a == b) && eqIs l m
  | _, _ => false
def lightTI (l : List (El THost)) : Int := if anyN (fun k => decide (80 < k) || decide (lightI (rdEl THost l k) > 0)) 0 l.length then 1 else 0

end Go.Proofs.Ytlbdljebmjajdaa
