/-
  No cell of these rows narrows 'for every input' (looked for: loops, veiled, ifaces, maps, wideKeys, modest, calm, conditions, laid).
  DERIVED. THE GIVEN ROWS OF THIS SEAT. 5 by the template 'for every input the law returns true; each argument reads behind the call as it read before'; 0 by the template 'total and deterministic' (their statements: YtemkgdkkpeijfaaTotals.lean).
  GIVEN WITH THE SEED: the statements are not yours to turn. If you find one false, say at which input.
  Laid BY PROGRAM, IN A SANDBOX (cutbox-rows.mjs): the forced cells as the released guide's own fill.sh prints them over the translation eba6c1b8bfdcdcf5… (all of the seat's roots in one cut). By AI agents, Wed Nov 11 2026. No macro, syntax, notation, axiom, sorry.
-/
import Derived.Test.YtemkgdkkpeijfaaChecked
import GoSem.Claim
import GoSem.ClaimJoined
import GoSem.ClaimMapViews
import Derived.JoinedTies
import Derived.KernelRfl
namespace Go.Proofs.Ytemkgdkkpeijfaa
/- THE CELL 'sum', in the pinned program and in every row, IS THE sha256 OF THE DUMP (.gsa) THAT YtemkgdkkpeijfaaProg.lean LOADS. Nothing in Lean hashes anything: it is a label: what it is worth is what the hold of that sum in a sandbox is worth. -/
noncomputable def Try.pinned : Pinned := { name := "ytemkgdkkpeijfaa", sum := "eba6c1b8bfdcdcf5867e683e57f687aecf020717ac55ddb02ff4537ebbe5eb75", checked := Try.checked }
namespace Rows
def none {H : Type} : Left H := { results := [], args := [] }

/-- 'triagelaw17.FitForms': WHATEVER THE INPUT: true; the input reads as it did. -/
def fitFormsSpec : ChangeSpec := { name := "fitForms", fn := fun _ => fun
  | [d1, d2, d3, d4, d5, d6] => { results := [.lit (.bool true)], args := [d1, d2, d3, d4, d5, d6] }
  | _ => none }
def fitFormsRow : OpenClaim := { program := "ytemkgdkkpeijfaa", sum := "eba6c1b8bfdcdcf5867e683e57f687aecf020717ac55ddb02ff4537ebbe5eb75", func := "triage/triagelaw17.FitForms", spec := "fitForms", unfollowed := true, recurses := true, apart := false }
def FitFormsSaid : Prop := fitFormsRow.holds Try.pinned (OpenSpec.ofChange fitFormsSpec)

/-- ITS FALSE NEIGHBOUR: 'it returns false'. Refute it at one input. -/
def fitFormsWrong : ChangeSpec := { name := "fitForms", fn := fun _ => fun
  | [d1, d2, d3, d4, d5, d6] => { results := [.lit (.bool false)], args := [d1, d2, d3, d4, d5, d6] }
  | _ => none }
def FitFormsWrongFalsely : Prop := fitFormsRow.holds Try.pinned (OpenSpec.ofChange fitFormsWrong)

/-- 'triagelaw17.FitPasses': WHATEVER THE INPUT: true; the input reads as it did. -/
def fitPassesSpec : ChangeSpec := { name := "fitPasses", fn := fun _ => fun
  | [d1, d2, d3, d4] => { results := [.lit (.bool true)], args := [d1, d2, d3, d4] }
  | _ => none }
def fitPassesRow : OpenClaim := { program := "ytemkgdkkpeijfaa", sum := "eba6c1b8bfdcdcf5867e683e57f687aecf020717ac55ddb02ff4537ebbe5eb75", func := "triage/triagelaw17.FitPasses", spec := "fitPasses", unfollowed := true, recurses := true, apart := false }
def FitPassesSaid : Prop := fitPassesRow.holds Try.pinned (OpenSpec.ofChange fitPassesSpec)

/-- ITS FALSE NEIGHBOUR: 'it returns false'. Refute it at one input. -/
def fitPassesWrong : ChangeSpec := { name := "fitPasses", fn := fun _ => fun
  | [d1, d2, d3, d4] => { results := [.lit (.bool false)], args := [d1, d2, d3, d4] }
  | _ => none }
def FitPassesWrongFalsely : Prop := fitPassesRow.holds Try.pinned (OpenSpec.ofChange fitPassesWrong)

/-- 'triagelaw17.FitSubset': WHATEVER THE INPUT: true; the input reads as it did. -/
def fitSubsetSpec : ChangeSpec := { name := "fitSubset", fn := fun _ => fun
  | [d1, d2, d3] => { results := [.lit (.bool true)], args := [d1, d2, d3] }
  | _ => none }
def fitSubsetRow : OpenClaim := { program := "ytemkgdkkpeijfaa", sum := "eba6c1b8bfdcdcf5867e683e57f687aecf020717ac55ddb02ff4537ebbe5eb75", func := "triage/triagelaw17.FitSubset", spec := "fitSubset", unfollowed := true, recurses := true, apart := false }
def FitSubsetSaid : Prop := fitSubsetRow.holds Try.pinned (OpenSpec.ofChange fitSubsetSpec)

/-- ITS FALSE NEIGHBOUR: 'it returns false'. Refute it at one input. -/
def fitSubsetWrong : ChangeSpec := { name := "fitSubset", fn := fun _ => fun
  | [d1, d2, d3] => { results := [.lit (.bool false)], args := [d1, d2, d3] }
  | _ => none }
def FitSubsetWrongFalsely : Prop := fitSubsetRow.holds Try.pinned (OpenSpec.ofChange fitSubsetWrong)

/-- 'triagelaw17.FitGroups': WHATEVER THE INPUT: true; the input reads as it did. -/
def fitGroupsSpec : ChangeSpec := { name := "fitGroups", fn := fun _ => fun
  | [d1, d2] => { results := [.lit (.bool true)], args := [d1, d2] }
  | _ => none }
def fitGroupsRow : OpenClaim := { program := "ytemkgdkkpeijfaa", sum := "eba6c1b8bfdcdcf5867e683e57f687aecf020717ac55ddb02ff4537ebbe5eb75", func := "triage/triagelaw17.FitGroups", spec := "fitGroups", unfollowed := true, recurses := true, apart := false }
def FitGroupsSaid : Prop := fitGroupsRow.holds Try.pinned (OpenSpec.ofChange fitGroupsSpec)

/-- ITS FALSE NEIGHBOUR: 'it returns false'. Refute it at one input. -/
def fitGroupsWrong : ChangeSpec := { name := "fitGroups", fn := fun _ => fun
  | [d1, d2] => { results := [.lit (.bool false)], args := [d1, d2] }
  | _ => none }
def FitGroupsWrongFalsely : Prop := fitGroupsRow.holds Try.pinned (OpenSpec.ofChange fitGroupsWrong)

/-- 'triagelaw17.FitBelow': WHATEVER THE INPUT: true; the input reads as it did. -/
def fitBelowSpec : ChangeSpec := { name := "fitBelow", fn := fun _ => fun
  | [d1, d2, d3] => { results := [.lit (.bool true)], args := [d1, d2, d3] }
  | _ => none }
def fitBelowRow : OpenClaim := { program := "ytemkgdkkpeijfaa", sum := "eba6c1b8bfdcdcf5867e683e57f687aecf020717ac55ddb02ff4537ebbe5eb75", func := "triage/triagelaw17.FitBelow", spec := "fitBelow", unfollowed := true, recurses := true, apart := false }
def FitBelowSaid : Prop := fitBelowRow.holds Try.pinned (OpenSpec.ofChange fitBelowSpec)

/-- ITS FALSE NEIGHBOUR: 'it returns false'. Refute it at one input. -/
def fitBelowWrong : ChangeSpec := { name := "fitBelow", fn := fun _ => fun
  | [d1, d2, d3] => { results := [.lit (.bool false)], args := [d1, d2, d3] }
  | _ => none }
def FitBelowWrongFalsely : Prop := fitBelowRow.holds Try.pinned (OpenSpec.ofChange fitBelowWrong)

/- THE SECOND FORM. 'bulk': how many values and letters a reading holds, each counted each time it is reached (what is shared counts as often as it is met; a slice's spare places count too). A statement '..UptoSaid' is the law's where the arguments, and the package variables that the reading takes, are together of bulk at most 1048576: NARROWER than '..Said'. Prove '..Said' where nothing that the law and all that it calls make is longer than what came in: it says more and counts as full. Else prove '..UptoSaid'. A law counts once. -/
mutual
def uptoBulk {H : Type} : DataW H → Nat
  | .lit (.string bytes) => bytes.length + 1
  | .lit _ => 1
  | .nil => 1
  | .ptr d => uptoBulk d + 1
  | .slice elems spare => uptoBulkAll elems + uptoBulkAll spare + 1
  | .agg parts => uptoBulkAll parts + 1
  | .iface _ d => uptoBulk d + 1
  | .map entries => uptoBulkEntries entries + 1
  | .held _ => 1
def uptoBulkAll {H : Type} : List (DataW H) → Nat
  | [] => 0
  | d :: r => uptoBulk d + uptoBulkAll r
def uptoBulkEntries {H : Type} : List (Lit × DataW H) → Nat
  | [] => 0
  | x :: r => uptoBulkEntry x + uptoBulkEntries r
def uptoBulkEntry {H : Type} : Lit × DataW H → Nat
  | (.string bytes, d) => bytes.length + uptoBulk d + 1
  | (_, d) => uptoBulk d + 1
 end
def uptoSmall : (H : Type) → List (DataW H) → Bool := fun _ ds => decide (uptoBulkAll ds ≤ 1048576)
def OpenSpec.upto (s : _root_.Go.ChangeSpec) : _root_.Go.OpenSpec := { _root_.Go.OpenSpec.ofChange s with cond := some uptoSmall }

/-- 'triagelaw17.FitForms', WHERE WHAT IT READS IS OF BULK AT MOST 1048576: true; the input reads as it did. -/
def fitFormsUptoRow : OpenClaim := { program := "ytemkgdkkpeijfaa", sum := "eba6c1b8bfdcdcf5867e683e57f687aecf020717ac55ddb02ff4537ebbe5eb75", func := "triage/triagelaw17.FitForms", spec := "fitForms", unfollowed := true, recurses := true, apart := false, narrowed := true }
def FitFormsUptoSaid : Prop := fitFormsUptoRow.holds Try.pinned (OpenSpec.upto fitFormsSpec)

/-- 'triagelaw17.FitPasses', WHERE WHAT IT READS IS OF BULK AT MOST 1048576: true; the input reads as it did. -/
def fitPassesUptoRow : OpenClaim := { program := "ytemkgdkkpeijfaa", sum := "eba6c1b8bfdcdcf5867e683e57f687aecf020717ac55ddb02ff4537ebbe5eb75", func := "triage/triagelaw17.FitPasses", spec := "fitPasses", unfollowed := true, recurses := true, apart := false, narrowed := true }
def FitPassesUptoSaid : Prop := fitPassesUptoRow.holds Try.pinned (OpenSpec.upto fitPassesSpec)

/-- 'triagelaw17.FitSubset', WHERE WHAT IT READS IS OF BULK AT MOST 1048576: true; the input reads as it did. -/
def fitSubsetUptoRow : OpenClaim := { program := "ytemkgdkkpeijfaa", sum := "eba6c1b8bfdcdcf5867e683e57f687aecf020717ac55ddb02ff4537ebbe5eb75", func := "triage/triagelaw17.FitSubset", spec := "fitSubset", unfollowed := true, recurses := true, apart := false, narrowed := true }
def FitSubsetUptoSaid : Prop := fitSubsetUptoRow.holds Try.pinned (OpenSpec.upto fitSubsetSpec)

/-- 'triagelaw17.FitGroups', WHERE WHAT IT READS IS OF BULK AT MOST 1048576: true; the input reads as it did. -/
def fitGroupsUptoRow : OpenClaim := { program := "ytemkgdkkpeijfaa", sum := "eba6c1b8bfdcdcf5867e683e57f687aecf020717ac55ddb02ff4537ebbe5eb75", func := "triage/triagelaw17.FitGroups", spec := "fitGroups", unfollowed := true, recurses := true, apart := false, narrowed := true }
def FitGroupsUptoSaid : Prop := fitGroupsUptoRow.holds Try.pinned (OpenSpec.upto fitGroupsSpec)

/-- 'triagelaw17.FitBelow', WHERE WHAT IT READS IS OF BULK AT MOST 1048576: true; the input reads as it did. -/
def fitBelowUptoRow : OpenClaim := { program := "ytemkgdkkpeijfaa", sum := "eba6c1b8bfdcdcf5867e683e57f687aecf020717ac55ddb02ff4537ebbe5eb75", func := "triage/triagelaw17.FitBelow", spec := "fitBelow", unfollowed := true, recurses := true, apart := false, narrowed := true }
def FitBelowUptoSaid : Prop := fitBelowUptoRow.holds Try.pinned (OpenSpec.upto fitBelowSpec)

end Rows
end Go.Proofs.Ytemkgdkkpeijfaa
