/-
  Lines and words: what each function answers, in plain words.
-/
import Derived.Test.YtcjlebkfekfkbaaUA0
namespace Go.Proofs.Ytcjlebkfekfkbaa
open Go VE

abbrev TLine : Ty := .prod (.int .i64) (.sl .str)
abbrev Ln : Type := El TLine
def hashB : ByteArray := ⟨#[35]⟩
/-- Where a byte stands; how many there are, where it doesn't. -/
def idxN (c : UInt8) : List UInt8 → Nat
  | [] => 0
  | b :: l => if b = c then 0 else idxN c l + 1
def hashAt (s : ByteArray) : Nat := idxN 35 s.data.toList
def indexB (s : ByteArray) : Int := if hashAt s < s.size then (hashAt s : Int) else -1
def cutA (s : ByteArray) : ByteArray := s.extract 0 (hashAt s)
def cutF (s : ByteArray) : Bool := decide (hashAt s < s.size)
def cutZ (s : ByteArray) : ByteArray := if hashAt s < s.size then s.extract (hashAt s + 1) s.size else ⟨#[]⟩
/-- What stands between blanks, ahead of a remark. -/
def wordsL (s : ByteArray) : List ByteArray := (partsL (cutA s) 32).filter fun w => !(ByteArray.toList w == ByteArray.toList ⟨#[]⟩)
/-- Of bytes i, i + 1 .. (r of them): do all pass? -/
def allB (p : Int → Bool) (s : ByteArray) : Nat → Nat → Bool
  | 0, _ => true
  | r + 1, i => p (byteAt s (i : Int)) && allB p s r (i + 1)
def mayB (s : ByteArray) : Bool := allB (fun c => decide (32 ≤ c) && decide (c ≤ 126)) s s.size 0 && decide (s.size ≤ 200)
def splitG : List ByteArray → Nat → List Ln → List Ln × Int × Int
  | [], _, out => (out, 0, 0)
  | x :: l, i, out => if mayB x then splitG l (i + 1) (if (wordsL x).length = 0 then out else out ++ [((i : Int) + 1, wordsL x)]) else ([], (i : Int) + 1, 2)
def splitL (s : ByteArray) : List Ln × Int × Int := if 4000 < s.size then ([], 0, 2) else splitG (partsL s 10) 0 []
/-- A number's digits, read on. -/
def numG (s : ByteArray) : Nat → Nat → Int → Option Int
  | 0, _, n => some n
  | r + 1, i, n => if byteAt s (i : Int) < 48 ∨ 57 < byteAt s (i : Int) then none else numG s r (i + 1) (n * 10 + (byteAt s (i : Int) - 48))
def numB (s : ByteArray) : Int × Bool :=
  if s.size < 1 ∨ 7 < s.size ∨ (1 < s.size ∧ byteAt s 0 = 48) then (0, false) else
  match numG s s.size 0 0 with
  | some n => if 1000000 < n then (0, false) else (n, true)
  | none => (0, false)
def nameC (c : Int) : Bool := (decide (97 ≤ c) && decide (c ≤ 122)) || ((decide (48 ≤ c) && decide (c ≤ 57)) || (c == 45 || c == 46))
def dashB : ByteArray := ⟨#[45]⟩
def nameB (s : ByteArray) : Bool := allB nameC s s.size 0 && (decide (1 ≤ s.size) && (decide (s.size ≤ 12) && !(ByteArray.toList s == ByteArray.toList dashB)))
def sameW : List ByteArray → List ByteArray → Bool
  | [], [] => true
  | a :: l, b :: m => (ByteArray.toList a == ByteArray.toList b) && sameW l m
  | _, _ => false
def sameL : List Ln → List Ln → Bool
  | [], [] => true
  | a :: l, b :: m => (a.1 == b.1 && sameW a.2 b.2) && sameL l m
  | _, _ => false
def joinT : List ByteArray → ByteArray
  | [] => ⟨#[]⟩
  | w :: l => (⟨#[32]⟩ : ByteArray) ++ w ++ joinT l
def joinW : List ByteArray → ByteArray
  | [] => ⟨#[]⟩
  | w :: l => w ++ joinT l
/-- Lines as a text. -/
def joinL : List Ln → ByteArray
  | [] => ⟨#[]⟩
  | x :: l => joinW x.2 ++ (⟨#[10]⟩ : ByteArray) ++ joinL l
def sizesW : List ByteArray → Int
  | [] => 0
  | w :: l => (w.size : Int) + sizesW l
def sizesL : List Ln → Int
  | [] => 0
  | x :: l => ((x.2.length : Int) + sizesW x.2) + sizesL l
def lightI (l : List Ln) : Int := if 3000 < (l.length : Int) + sizesL l then 1 else 0
def digitsG : Nat → Nat → ByteArray → ByteArray
  | 0, _, s => s
  | f + 1, n, s => if n / 10 = 0 then (⟨#[UInt8.ofNat (48 + n % 10)]⟩ : ByteArray) ++ s else digitsG f (n / 10) ((⟨#[UInt8.ofNat (48 + n % 10)]⟩ : ByteArray) ++ s)
def digitsB (n : Int) : ByteArray := digitsG 20 n.toNat ⟨#[]⟩

end Go.Proofs.Ytcjlebkfekfkbaa
