/-
  Hashes: what each function answers, in plain words.
-/
import Derived.Test.YtdigifchnecnkaaDoorT
import Derived.Lib.ItoaNum
namespace Go.Proofs.YtdigifchnecnkaaDoor
open Go VE

/-- A number's text. -/
def itoaB (n : Int) : ByteArray := ⟨(Lib.itoa n).toArray⟩
def stepB (h : BitVec 64) (c : Int) : BitVec 64 := (h ^^^ BitVec.ofInt 64 c) * 0x100000001b3#64
def hashB (l : List Int) (h : BitVec 64) : BitVec 64 := l.foldl stepB h
def finB (h : BitVec 64) : BitVec 64 := ((h ^^^ (h >>> 33)) * 0xff51afd7ed558ccd#64) ^^^ (((h ^^^ (h >>> 33)) * 0xff51afd7ed558ccd#64) >>> 33)
def textB (s : ByteArray) : BitVec 64 := finB (hashB (nums s) 0xcbf29ce484222325#64)
theorem text_is (s : ByteArray) : ∃ n : Int, n = ((textB s).toNat : Int) := ⟨_, rfl⟩
/-- A text's number (shut: nothing unfolds it but its law). -/
noncomputable def textN (s : ByteArray) : Int := Classical.choose (text_is s)
theorem textN_eq (s : ByteArray) : textN s = ((textB s).toNat : Int) := Classical.choose_spec (text_is s)
noncomputable def withN (s : ByteArray) (n : Int) : Int := textN ((s ++ (⟨#[35]⟩ : ByteArray)) ++ itoaB n)
def belowN (h n : Int) : Int := bif decide (n < 1) then 0 else h % n

end Go.Proofs.YtdigifchnecnkaaDoor
