/-
  No cell of these rows narrows 'for every input' (looked for: loops, veiled, ifaces, maps, wideKeys, modest, calm, conditions, laid).
  DERIVED. THE GIVEN ROWS OF THIS SEAT. 6 by the template 'for every input the law returns true; each argument reads behind the call as it read before'; 0 by the template 'total and deterministic' (their statements: YtcjlebkfekfkbaaTotals.lean).
  GIVEN WITH THE SEED: the statements are not yours to turn. If you find one false, say at which input.
  Laid BY PROGRAM, IN A SANDBOX (cutbox-rows.mjs): the forced cells as the released guide's own fill.sh prints them over the translation 83ec76f8b35aaf09… (all of the seat's roots in one cut). By AI agents, Wed Nov 11 2026. No macro, syntax, notation, axiom, sorry.
-/
import Derived.Test.YtcjlebkfekfkbaaChecked
import GoSem.Claim
import GoSem.ClaimJoined
import GoSem.ClaimMapViews
import Derived.JoinedTies
import Derived.KernelRfl
namespace Go.Proofs.Ytcjlebkfekfkbaa
/- THE CELL 'sum', in the pinned program and in every row, IS THE sha256 OF THE DUMP (.gsa) THAT YtcjlebkfekfkbaaProg.lean LOADS. Nothing in Lean hashes anything: it is a label: what it is worth is what the hold of that sum in a sandbox is worth. -/
noncomputable def Try.pinned : Pinned := { name := "ytcjlebkfekfkbaa", sum := "83ec76f8b35aaf099727fd10850d4348f638d9f92d0c6d24133548785da7ed64", checked := Try.checked }
namespace Rows
def none {H : Type} : Left H := { results := [], args := [] }

/-- 'triagelaw5.LinesWrong': WHATEVER THE INPUT: true; the input reads as it did. -/
def linesWrongSpec : ChangeSpec := { name := "linesWrong", fn := fun _ => fun
  | [d1, d2, d3] => { results := [.lit (.bool true)], args := [d1, d2, d3] }
  | _ => none }
def linesWrongRow : OpenClaim := { program := "ytcjlebkfekfkbaa", sum := "83ec76f8b35aaf099727fd10850d4348f638d9f92d0c6d24133548785da7ed64", func := "triage/triagelaw5.LinesWrong", spec := "linesWrong", inPlace := ["internal/bytealg.IndexByteString", "internal/bytealg.IndexString"], unfollowed := true, recurses := true, named := ["internal/bytealg.MaxLen"], apart := false }
def LinesWrongSaid : Prop := linesWrongRow.holds Try.pinned (OpenSpec.ofChange linesWrongSpec)

/-- ITS FALSE NEIGHBOUR: 'it returns false'. Refute it at one input. -/
def linesWrongWrong : ChangeSpec := { name := "linesWrong", fn := fun _ => fun
  | [d1, d2, d3] => { results := [.lit (.bool false)], args := [d1, d2, d3] }
  | _ => none }
def LinesWrongWrongFalsely : Prop := linesWrongRow.holds Try.pinned (OpenSpec.ofChange linesWrongWrong)

/-- 'triagelaw5.LinesNumbers': WHATEVER THE INPUT: true; the input reads as it did. -/
def linesNumbersSpec : ChangeSpec := { name := "linesNumbers", fn := fun _ => fun
  | [d] => { results := [.lit (.bool true)], args := [d] }
  | _ => none }
def linesNumbersRow : OpenClaim := { program := "ytcjlebkfekfkbaa", sum := "83ec76f8b35aaf099727fd10850d4348f638d9f92d0c6d24133548785da7ed64", func := "triage/triagelaw5.LinesNumbers", spec := "linesNumbers", inPlace := ["internal/bytealg.IndexByteString", "internal/bytealg.IndexString"], unfollowed := true, recurses := true, named := ["internal/bytealg.MaxLen"], apart := false }
def LinesNumbersSaid : Prop := linesNumbersRow.holds Try.pinned (OpenSpec.ofChange linesNumbersSpec)

/-- ITS FALSE NEIGHBOUR: 'it returns false'. Refute it at one input. -/
def linesNumbersWrong : ChangeSpec := { name := "linesNumbers", fn := fun _ => fun
  | [d] => { results := [.lit (.bool false)], args := [d] }
  | _ => none }
def LinesNumbersWrongFalsely : Prop := linesNumbersRow.holds Try.pinned (OpenSpec.ofChange linesNumbersWrong)

/-- 'triagelaw5.LinesNames': WHATEVER THE INPUT: true; the input reads as it did. -/
def linesNamesSpec : ChangeSpec := { name := "linesNames", fn := fun _ => fun
  | [d1, d2] => { results := [.lit (.bool true)], args := [d1, d2] }
  | _ => none }
def linesNamesRow : OpenClaim := { program := "ytcjlebkfekfkbaa", sum := "83ec76f8b35aaf099727fd10850d4348f638d9f92d0c6d24133548785da7ed64", func := "triage/triagelaw5.LinesNames", spec := "linesNames", inPlace := ["internal/bytealg.IndexByteString", "internal/bytealg.IndexString"], unfollowed := true, recurses := true, named := ["internal/bytealg.MaxLen"], apart := false }
def LinesNamesSaid : Prop := linesNamesRow.holds Try.pinned (OpenSpec.ofChange linesNamesSpec)

/-- ITS FALSE NEIGHBOUR: 'it returns false'. Refute it at one input. -/
def linesNamesWrong : ChangeSpec := { name := "linesNames", fn := fun _ => fun
  | [d1, d2] => { results := [.lit (.bool false)], args := [d1, d2] }
  | _ => none }
def LinesNamesWrongFalsely : Prop := linesNamesRow.holds Try.pinned (OpenSpec.ofChange linesNamesWrong)

/-- 'triagelaw5.LinesNone': WHATEVER THE INPUT: true; the input reads as it did. -/
def linesNoneSpec : ChangeSpec := { name := "linesNone", fn := fun _ => fun
  | [d1, d2] => { results := [.lit (.bool true)], args := [d1, d2] }
  | _ => none }
def linesNoneRow : OpenClaim := { program := "ytcjlebkfekfkbaa", sum := "83ec76f8b35aaf099727fd10850d4348f638d9f92d0c6d24133548785da7ed64", func := "triage/triagelaw5.LinesNone", spec := "linesNone", inPlace := ["internal/bytealg.IndexByteString", "internal/bytealg.IndexString"], unfollowed := true, recurses := true, named := ["internal/bytealg.MaxLen"], apart := false }
def LinesNoneSaid : Prop := linesNoneRow.holds Try.pinned (OpenSpec.ofChange linesNoneSpec)

/-- ITS FALSE NEIGHBOUR: 'it returns false'. Refute it at one input. -/
def linesNoneWrong : ChangeSpec := { name := "linesNone", fn := fun _ => fun
  | [d1, d2] => { results := [.lit (.bool false)], args := [d1, d2] }
  | _ => none }
def LinesNoneWrongFalsely : Prop := linesNoneRow.holds Try.pinned (OpenSpec.ofChange linesNoneWrong)

/-- 'triagelaw5.LinesForms': WHATEVER THE INPUT: true; the input reads as it did. -/
def linesFormsSpec : ChangeSpec := { name := "linesForms", fn := fun _ => fun
  | [d1, d2] => { results := [.lit (.bool true)], args := [d1, d2] }
  | _ => none }
def linesFormsRow : OpenClaim := { program := "ytcjlebkfekfkbaa", sum := "83ec76f8b35aaf099727fd10850d4348f638d9f92d0c6d24133548785da7ed64", func := "triage/triagelaw5.LinesForms", spec := "linesForms", inPlace := ["internal/bytealg.IndexByteString", "internal/bytealg.IndexString", "internal/abi.NoEscape", "internal/bytealg.MakeNoZero"], unfollowed := true, recurses := true, named := ["internal/bytealg.MaxLen"], apart := false }
def LinesFormsSaid : Prop := linesFormsRow.holds Try.pinned (OpenSpec.ofChange linesFormsSpec)

/-- ITS FALSE NEIGHBOUR: 'it returns false'. Refute it at one input. -/
def linesFormsWrong : ChangeSpec := { name := "linesForms", fn := fun _ => fun
  | [d1, d2] => { results := [.lit (.bool false)], args := [d1, d2] }
  | _ => none }
def LinesFormsWrongFalsely : Prop := linesFormsRow.holds Try.pinned (OpenSpec.ofChange linesFormsWrong)

/-- 'triagelaw5.LinesBack': WHATEVER THE INPUT: true; the input reads as it did. -/
def linesBackSpec : ChangeSpec := { name := "linesBack", fn := fun _ => fun
  | [d1, d2] => { results := [.lit (.bool true)], args := [d1, d2] }
  | _ => none }
def linesBackRow : OpenClaim := { program := "ytcjlebkfekfkbaa", sum := "83ec76f8b35aaf099727fd10850d4348f638d9f92d0c6d24133548785da7ed64", func := "triage/triagelaw5.LinesBack", spec := "linesBack", inPlace := ["internal/bytealg.IndexByteString", "internal/bytealg.IndexString", "internal/abi.NoEscape", "internal/bytealg.MakeNoZero"], unfollowed := true, recurses := true, named := ["internal/bytealg.MaxLen"], apart := false }
def LinesBackSaid : Prop := linesBackRow.holds Try.pinned (OpenSpec.ofChange linesBackSpec)

/-- ITS FALSE NEIGHBOUR: 'it returns false'. Refute it at one input. -/
def linesBackWrong : ChangeSpec := { name := "linesBack", fn := fun _ => fun
  | [d1, d2] => { results := [.lit (.bool false)], args := [d1, d2] }
  | _ => none }
def LinesBackWrongFalsely : Prop := linesBackRow.holds Try.pinned (OpenSpec.ofChange linesBackWrong)

/- THE SECOND FORM. 'bulk': how many values and letters a reading holds, each counted each time it is reached (what is shared counts as often as it is met; a slice's spare places count too). A statement '..UptoSaid' is the law's where the arguments, and the package variables that the reading takes, are together of bulk at most 1048576: NARROWER than '..Said'. Prove '..Said' where nothing that the law and all that it calls make is longer than what came in: it says more and counts as full. Else prove '..UptoSaid'. A law counts once. -/
mutual
def uptoBulk {H : Type} : DataW H → Nat
  | .lit (.string bytes) => bytes.length + 1
  | .lit _ => 1
  | .nil => 1
  | .ptr d => uptoBulk d + 1
  | .slice elems spare => uptoBulkAll elems + uptoBulkAll spare + 1
  | .agg parts => uptoBulkAll parts + 1
  | .iface _ d => uptoBulk d + 1
  | .map entries => uptoBulkEntries entries + 1
  | .held _ => 1
def uptoBulkAll {H : Type} : List (DataW H) → Nat
  | [] => 0
  | d :: r => uptoBulk d + uptoBulkAll r
def uptoBulkEntries {H : Type} : List (Lit × DataW H) → Nat
  | [] => 0
  | x :: r => uptoBulkEntry x + uptoBulkEntries r
def uptoBulkEntry {H : Type} : Lit × DataW H → Nat
  | (.string bytes, d) => bytes.length + uptoBulk d + 1
  | (_, d) => uptoBulk d + 1
 end
def uptoSmall : (H : Type) → List (DataW H) → Bool := fun _ ds => decide (uptoBulkAll ds ≤ 1048576)
def OpenSpec.upto (s : _root_.Go.ChangeSpec) : _root_.Go.OpenSpec := { _root_.Go.OpenSpec.ofChange s with cond := some uptoSmall }

/-- 'triagelaw5.LinesWrong', WHERE WHAT IT READS IS OF BULK AT MOST 1048576: true; the input reads as it did. -/
def linesWrongUptoRow : OpenClaim := { program := "ytcjlebkfekfkbaa", sum := "83ec76f8b35aaf099727fd10850d4348f638d9f92d0c6d24133548785da7ed64", func := "triage/triagelaw5.LinesWrong", spec := "linesWrong", inPlace := ["internal/bytealg.IndexByteString", "internal/bytealg.IndexString"], unfollowed := true, recurses := true, named := ["internal/bytealg.MaxLen"], apart := false, narrowed := true }
def LinesWrongUptoSaid : Prop := linesWrongUptoRow.holds Try.pinned (OpenSpec.upto linesWrongSpec)

/-- 'triagelaw5.LinesNumbers', WHERE WHAT IT READS IS OF BULK AT MOST 1048576: true; the input reads as it did. -/
def linesNumbersUptoRow : OpenClaim := { program := "ytcjlebkfekfkbaa", sum := "83ec76f8b35aaf099727fd10850d4348f638d9f92d0c6d24133548785da7ed64", func := "triage/triagelaw5.LinesNumbers", spec := "linesNumbers", inPlace := ["internal/bytealg.IndexByteString", "internal/bytealg.IndexString"], unfollowed := true, recurses := true, named := ["internal/bytealg.MaxLen"], apart := false, narrowed := true }
def LinesNumbersUptoSaid : Prop := linesNumbersUptoRow.holds Try.pinned (OpenSpec.upto linesNumbersSpec)

/-- 'triagelaw5.LinesNames', WHERE WHAT IT READS IS OF BULK AT MOST 1048576: true; the input reads as it did. -/
def linesNamesUptoRow : OpenClaim := { program := "ytcjlebkfekfkbaa", sum := "83ec76f8b35aaf099727fd10850d4348f638d9f92d0c6d24133548785da7ed64", func := "triage/triagelaw5.LinesNames", spec := "linesNames", inPlace := ["internal/bytealg.IndexByteString", "internal/bytealg.IndexString"], unfollowed := true, recurses := true, named := ["internal/bytealg.MaxLen"], apart := false, narrowed := true }
def LinesNamesUptoSaid : Prop := linesNamesUptoRow.holds Try.pinned (OpenSpec.upto linesNamesSpec)

/-- 'triagelaw5.LinesNone', WHERE WHAT IT READS IS OF BULK AT MOST 1048576: true; the input reads as it did. -/
def linesNoneUptoRow : OpenClaim := { program := "ytcjlebkfekfkbaa", sum := "83ec76f8b35aaf099727fd10850d4348f638d9f92d0c6d24133548785da7ed64", func := "triage/triagelaw5.LinesNone", spec := "linesNone", inPlace := ["internal/bytealg.IndexByteString", "internal/bytealg.IndexString"], unfollowed := true, recurses := true, named := ["internal/bytealg.MaxLen"], apart := false, narrowed := true }
def LinesNoneUptoSaid : Prop := linesNoneUptoRow.holds Try.pinned (OpenSpec.upto linesNoneSpec)

/-- 'triagelaw5.LinesForms', WHERE WHAT IT READS IS OF BULK AT MOST 1048576: true; the input reads as it did. -/
def linesFormsUptoRow : OpenClaim := { program := "ytcjlebkfekfkbaa", sum := "83ec76f8b35aaf099727fd10850d4348f638d9f92d0c6d24133548785da7ed64", func := "triage/triagelaw5.LinesForms", spec := "linesForms", inPlace := ["internal/bytealg.IndexByteString", "internal/bytealg.IndexString", "internal/abi.NoEscape", "internal/bytealg.MakeNoZero"], unfollowed := true, recurses := true, named := ["internal/bytealg.MaxLen"], apart := false, narrowed := true }
def LinesFormsUptoSaid : Prop := linesFormsUptoRow.holds Try.pinned (OpenSpec.upto linesFormsSpec)

/-- 'triagelaw5.LinesBack', WHERE WHAT IT READS IS OF BULK AT MOST 1048576: true; the input reads as it did. -/
def linesBackUptoRow : OpenClaim := { program := "ytcjlebkfekfkbaa", sum := "83ec76f8b35aaf099727fd10850d4348f638d9f92d0c6d24133548785da7ed64", func := "triage/triagelaw5.LinesBack", spec := "linesBack", inPlace := ["internal/bytealg.IndexByteString", "internal/bytealg.IndexString", "internal/abi.NoEscape", "internal/bytealg.MakeNoZero"], unfollowed := true, recurses := true, named := ["internal/bytealg.MaxLen"], apart := false, narrowed := true }
def LinesBackUptoSaid : Prop := linesBackUptoRow.holds Try.pinned (OpenSpec.upto linesBackSpec)

end Rows
end Go.Proofs.Ytcjlebkfekfkbaa
