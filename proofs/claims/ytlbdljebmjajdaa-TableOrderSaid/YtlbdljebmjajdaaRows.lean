/-
  No cell of these rows narrows 'for every input' (looked for: loops, veiled, ifaces, maps, wideKeys, modest, calm, conditions, laid).
  DERIVED. THE GIVEN ROWS OF THIS SEAT. 5 by the template 'for every input the law returns true; each argument reads behind the call as it read before'; 0 by the template 'total and deterministic' (their statements: YtlbdljebmjajdaaTotals.lean).
  GIVEN WITH THE SEED: the statements are not yours to turn. If you find one false, say at which input.
  Laid BY PROGRAM, IN A SANDBOX (cutbox-rows.mjs): the forced cells as the released guide's own fill.sh prints them over the translation 8dbf34f7da88a003… (all of the seat's roots in one cut). By AI agents, Wed Nov 11 2026. No macro, syntax, notation, axiom, sorry.
-/
import Derived.Test.YtlbdljebmjajdaaChecked
import GoSem.Claim
import GoSem.ClaimJoined
import GoSem.ClaimMapViews
import Derived.JoinedTies
import Derived.KernelRfl
namespace Go.Proofs.Ytlbdljebmjajdaa
/- THE CELL 'sum', in the pinned program and in every row, IS THE sha256 OF THE DUMP (.gsa) THAT YtlbdljebmjajdaaProg.lean LOADS. Nothing in Lean hashes anything: it is a label: what it is worth is what the hold of that sum in a sandbox is worth. -/
noncomputable def Try.pinned : Pinned := { name := "ytlbdljebmjajdaa", sum := "8dbf34f7da88a003077943870f3dcffdeb4f8ea2d097225d91d320572093a40e", checked := Try.checked }
namespace Rows
def none {H : Type} : Left H := { results := [], args := [] }

/-- 'triagelaw8.TableChanges': WHATEVER THE INPUT: true; the input reads as it did. -/
def tableChangesSpec : ChangeSpec := { name := "tableChanges", fn := fun _ => fun
  | [d1, d2] => { results := [.lit (.bool true)], args := [d1, d2] }
  | _ => none }
def tableChangesRow : OpenClaim := { program := "ytlbdljebmjajdaa", sum := "8dbf34f7da88a003077943870f3dcffdeb4f8ea2d097225d91d320572093a40e", func := "triage/triagelaw8.TableChanges", spec := "tableChanges", inPlace := ["slices.overlaps[triage/api.Host]"], unfollowed := true, recurses := true, apart := false }
def TableChangesSaid : Prop := tableChangesRow.holds Try.pinned (OpenSpec.ofChange tableChangesSpec)

/-- ITS FALSE NEIGHBOUR: 'it returns false'. Refute it at one input. -/
def tableChangesWrong : ChangeSpec := { name := "tableChanges", fn := fun _ => fun
  | [d1, d2] => { results := [.lit (.bool false)], args := [d1, d2] }
  | _ => none }
def TableChangesWrongFalsely : Prop := tableChangesRow.holds Try.pinned (OpenSpec.ofChange tableChangesWrong)

/-- 'triagelaw8.TableOrder': WHATEVER THE INPUT: true; the input reads as it did. -/
def tableOrderSpec : ChangeSpec := { name := "tableOrder", fn := fun _ => fun
  | [d1, d2] => { results := [.lit (.bool true)], args := [d1, d2] }
  | _ => none }
def tableOrderRow : OpenClaim := { program := "ytlbdljebmjajdaa", sum := "8dbf34f7da88a003077943870f3dcffdeb4f8ea2d097225d91d320572093a40e", func := "triage/triagelaw8.TableOrder", spec := "tableOrder", inPlace := ["slices.overlaps[triage/api.Host]"], unfollowed := true, recurses := true, apart := false }
def TableOrderSaid : Prop := tableOrderRow.holds Try.pinned (OpenSpec.ofChange tableOrderSpec)

/-- ITS FALSE NEIGHBOUR: 'it returns false'. Refute it at one input. -/
def tableOrderWrong : ChangeSpec := { name := "tableOrder", fn := fun _ => fun
  | [d1, d2] => { results := [.lit (.bool false)], args := [d1, d2] }
  | _ => none }
def TableOrderWrongFalsely : Prop := tableOrderRow.holds Try.pinned (OpenSpec.ofChange tableOrderWrong)

/-- 'triagelaw8.TableForms': WHATEVER THE INPUT: true; the input reads as it did. -/
def tableFormsSpec : ChangeSpec := { name := "tableForms", fn := fun _ => fun
  | [d1, d2, d3, d4] => { results := [.lit (.bool true)], args := [d1, d2, d3, d4] }
  | _ => none }
def tableFormsRow : OpenClaim := { program := "ytlbdljebmjajdaa", sum := "8dbf34f7da88a003077943870f3dcffdeb4f8ea2d097225d91d320572093a40e", func := "triage/triagelaw8.TableForms", spec := "tableForms", inPlace := ["slices.overlaps[triage/api.Host]"], unfollowed := true, recurses := true, apart := false }
def TableFormsSaid : Prop := tableFormsRow.holds Try.pinned (OpenSpec.ofChange tableFormsSpec)

/-- ITS FALSE NEIGHBOUR: 'it returns false'. Refute it at one input. -/
def tableFormsWrong : ChangeSpec := { name := "tableForms", fn := fun _ => fun
  | [d1, d2, d3, d4] => { results := [.lit (.bool false)], args := [d1, d2, d3, d4] }
  | _ => none }
def TableFormsWrongFalsely : Prop := tableFormsRow.holds Try.pinned (OpenSpec.ofChange tableFormsWrong)

/-- 'triagelaw8.TableBack': WHATEVER THE INPUT: true; the input reads as it did. -/
def tableBackSpec : ChangeSpec := { name := "tableBack", fn := fun _ => fun
  | [d1, d2] => { results := [.lit (.bool true)], args := [d1, d2] }
  | _ => none }
def tableBackRow : OpenClaim := { program := "ytlbdljebmjajdaa", sum := "8dbf34f7da88a003077943870f3dcffdeb4f8ea2d097225d91d320572093a40e", func := "triage/triagelaw8.TableBack", spec := "tableBack", inPlace := ["slices.overlaps[triage/api.Host]"], unfollowed := true, recurses := true, apart := false }
def TableBackSaid : Prop := tableBackRow.holds Try.pinned (OpenSpec.ofChange tableBackSpec)

/-- ITS FALSE NEIGHBOUR: 'it returns false'. Refute it at one input. -/
def tableBackWrong : ChangeSpec := { name := "tableBack", fn := fun _ => fun
  | [d1, d2] => { results := [.lit (.bool false)], args := [d1, d2] }
  | _ => none }
def TableBackWrongFalsely : Prop := tableBackRow.holds Try.pinned (OpenSpec.ofChange tableBackWrong)

/-- 'triagelaw8.TableFull': WHATEVER THE INPUT: true; the input reads as it did. -/
def tableFullSpec : ChangeSpec := { name := "tableFull", fn := fun _ => fun
  | [d1, d2] => { results := [.lit (.bool true)], args := [d1, d2] }
  | _ => none }
def tableFullRow : OpenClaim := { program := "ytlbdljebmjajdaa", sum := "8dbf34f7da88a003077943870f3dcffdeb4f8ea2d097225d91d320572093a40e", func := "triage/triagelaw8.TableFull", spec := "tableFull", inPlace := ["slices.overlaps[triage/api.Host]"], unfollowed := true, recurses := true, apart := false }
def TableFullSaid : Prop := tableFullRow.holds Try.pinned (OpenSpec.ofChange tableFullSpec)

/-- ITS FALSE NEIGHBOUR: 'it returns false'. Refute it at one input. -/
def tableFullWrong : ChangeSpec := { name := "tableFull", fn := fun _ => fun
  | [d1, d2] => { results := [.lit (.bool false)], args := [d1, d2] }
  | _ => none }
def TableFullWrongFalsely : Prop := tableFullRow.holds Try.pinned (OpenSpec.ofChange tableFullWrong)

/- THE SECOND FORM. 'bulk': how many values and letters a reading holds, each counted each time it is reached (what is shared counts as often as it is met; a slice's spare places count too). A statement '..UptoSaid' is the law's where the arguments, and the package variables that the reading takes, are together of bulk at most 1048576: NARROWER than '..Said'. Prove '..Said' where nothing that the law and all that it calls make is longer than what came in: it says more and counts as full. Else prove '..UptoSaid'. A law counts once. -/
mutual
def uptoBulk {H : Type} : DataW H → Nat
  | .lit (.string bytes) => bytes.length + 1
  | .lit _ => 1
  | .nil => 1
  | .ptr d => uptoBulk d + 1
  | .slice elems spare => uptoBulkAll elems + uptoBulkAll spare + 1
  | .agg parts => uptoBulkAll parts + 1
  | .iface _ d => uptoBulk d + 1
  | .map entries => uptoBulkEntries entries + 1
  | .held _ => 1
def uptoBulkAll {H : Type} : List (DataW H) → Nat
  | [] => 0
  | d :: r => uptoBulk d + uptoBulkAll r
def uptoBulkEntries {H : Type} : List (Lit × DataW H) → Nat
  | [] => 0
  | x :: r => uptoBulkEntry x + uptoBulkEntries r
def uptoBulkEntry {H : Type} : Lit × DataW H → Nat
  | (.string bytes, d) => bytes.length + uptoBulk d + 1
  | (_, d) => uptoBulk d + 1
 end
def uptoSmall : (H : Type) → List (DataW H) → Bool := fun _ ds => decide (uptoBulkAll ds ≤ 1048576)
def OpenSpec.upto (s : _root_.Go.ChangeSpec) : _root_.Go.OpenSpec := { _root_.Go.OpenSpec.ofChange s with cond := some uptoSmall }

/-- 'triagelaw8.TableChanges', WHERE WHAT IT READS IS OF BULK AT MOST 1048576: true; the input reads as it did. -/
def tableChangesUptoRow : OpenClaim := { program := "ytlbdljebmjajdaa", sum := "8dbf34f7da88a003077943870f3dcffdeb4f8ea2d097225d91d320572093a40e", func := "triage/triagelaw8.TableChanges", spec := "tableChanges", inPlace := ["slices.overlaps[triage/api.Host]"], unfollowed := true, recurses := true, apart := false, narrowed := true }
def TableChangesUptoSaid : Prop := tableChangesUptoRow.holds Try.pinned (OpenSpec.upto tableChangesSpec)

/-- 'triagelaw8.TableOrder', WHERE WHAT IT READS IS OF BULK AT MOST 1048576: true; the input reads as it did. -/
def tableOrderUptoRow : OpenClaim := { program := "ytlbdljebmjajdaa", sum := "8dbf34f7da88a003077943870f3dcffdeb4f8ea2d097225d91d320572093a40e", func := "triage/triagelaw8.TableOrder", spec := "tableOrder", inPlace := ["slices.overlaps[triage/api.Host]"], unfollowed := true, recurses := true, apart := false, narrowed := true }
def TableOrderUptoSaid : Prop := tableOrderUptoRow.holds Try.pinned (OpenSpec.upto tableOrderSpec)

/-- 'triagelaw8.TableForms', WHERE WHAT IT READS IS OF BULK AT MOST 1048576: true; the input reads as it did. -/
def tableFormsUptoRow : OpenClaim := { program := "ytlbdljebmjajdaa", sum := "8dbf34f7da88a003077943870f3dcffdeb4f8ea2d097225d91d320572093a40e", func := "triage/triagelaw8.TableForms", spec := "tableForms", inPlace := ["slices.overlaps[triage/api.Host]"], unfollowed := true, recurses := true, apart := false, narrowed := true }
def TableFormsUptoSaid : Prop := tableFormsUptoRow.holds Try.pinned (OpenSpec.upto tableFormsSpec)

/-- 'triagelaw8.TableBack', WHERE WHAT IT READS IS OF BULK AT MOST 1048576: true; the input reads as it did. -/
def tableBackUptoRow : OpenClaim := { program := "ytlbdljebmjajdaa", sum := "8dbf34f7da88a003077943870f3dcffdeb4f8ea2d097225d91d320572093a40e", func := "triage/triagelaw8.TableBack", spec := "tableBack", inPlace := ["slices.overlaps[triage/api.Host]"], unfollowed := true, recurses := true, apart := false, narrowed := true }
def TableBackUptoSaid : Prop := tableBackUptoRow.holds Try.pinned (OpenSpec.upto tableBackSpec)

/-- 'triagelaw8.TableFull', WHERE WHAT IT READS IS OF BULK AT MOST 1048576: true; the input reads as it did. -/
def tableFullUptoRow : OpenClaim := { program := "ytlbdljebmjajdaa", sum := "8dbf34f7da88a003077943870f3dcffdeb4f8ea2d097225d91d320572093a40e", func := "triage/triagelaw8.TableFull", spec := "tableFull", inPlace := ["slices.overlaps[triage/api.Host]"], unfollowed := true, recurses := true, apart := false, narrowed := true }
def TableFullUptoSaid : Prop := tableFullUptoRow.holds Try.pinned (OpenSpec.upto tableFullSpec)

end Rows
end Go.Proofs.Ytlbdljebmjajdaa
