/-
  Hosts: what each function answers, in plain words.
-/
import Derived.Test.YtdoilggfajngiaaVZ
namespace Go.Proofs.Ytdoilggfajngiaa
open Go VE

abbrev TPair : Ty := .prod .str .str
abbrev THost : Ty := .prod (.int .i64) (.prod .str (.prod (.int .i64) (.prod .str (.prod (.int .i64) (.sl (.prod .str .str))))))

/-- A byte that a word may have. -/
def okC (c : Int) : Bool := !((decide (c < 97) || decide (c > 122)) && ((decide (c < 48) || decide (c > 57)) && (bne c 45 && bne c 46)))
def isBlank (s : ByteArray) : Bool := s.toList == (⟨#[45]⟩ : ByteArray).toList
def wordB (s : ByteArray) : Bool := (nums s).all okC && (decide (1 ≤ s.size) && (decide (s.size ≤ 12) && !isBlank s))
def nwB (p : El TPair) : Bool := !wordB p.1 || !wordB p.2
def ixOf {α : Type} (p : α → Bool) (l : List α) : Int := match ixF p l 0 with | some i => (i : Int) | none => -1
def maySubB (l : List (El TPair)) : Bool := decide (l.length ≤ 6) && !l.any nwB
def pairEq (p q : El TPair) : Bool := (p.1.toList == q.1.toList) && ((p.2.toList == q.2.toList) && true)
def samePs : List (El TPair) → List (El TPair) → Bool
  | [], [] => true
  | a :: l, b :: m => pairEq a b && samePs l m
  | _, _ => false
def risesP : List (El TPair) → Bool
  | a :: b :: l => Op.bytesLess a.1.toList b.1.toList && risesP (b :: l)
  | _ => true
def mayB (h : El THost) : Bool :=
  risesP h.2.2.2.2.2 && ((decide (1 ≤ h.1) && decide (h.1 ≤ 1000000)) && (wordB h.2.1 && (((h.2.2.2.1.toList == (⟨#[]⟩ : ByteArray).toList) || wordB h.2.2.2.1) && ((decide (0 ≤ h.2.2.1) && decide (h.2.2.1 ≤ 3)) && ((decide (1 ≤ h.2.2.2.2.1) && decide (h.2.2.2.2.1 ≤ 20)) && maySubB h.2.2.2.2.2)))))
def sameB (a b : El THost) : Bool :=
  (a.1 == b.1) && ((a.2.1.toList == b.2.1.toList) && ((a.2.2.1 == b.2.2.1) && ((a.2.2.2.1.toList == b.2.2.2.1.toList) && ((a.2.2.2.2.1 == b.2.2.2.2.1) && samePs a.2.2.2.2.2 b.2.2.2.2.2))))
def hasB (h : El THost) (l : List (El TPair)) : Bool := l.all fun p => h.2.2.2.2.2.any (pairEq p)
def lightS : List (El TPair) → Int → Int
  | [], n => n
  | p :: l, n => lightS l (IntKind.i64.wrap (n + IntKind.i64.wrap (IntKind.i64.wrap (1 + (p.1.size : Int)) + (p.2.size : Int))))
def lightI (h : El THost) : Int := if lightS h.2.2.2.2.2 (IntKind.i64.wrap ((h.2.1.size : Int) + (h.2.2.2.1.size : Int))) > 600 then 1 else 0

end Go.Proofs.Ytdoilggfajngiaa
