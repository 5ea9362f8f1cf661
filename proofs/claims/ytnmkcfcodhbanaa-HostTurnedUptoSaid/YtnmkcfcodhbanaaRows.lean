/-
  No cell of these rows narrows 'for every input' (looked for: loops, veiled, ifaces, maps, wideKeys, modest, calm, conditions, laid).
  DERIVED. THE GIVEN ROWS OF THIS SEAT. 5 by the template 'for every input the law returns true; each argument reads behind the call as it read before'; 0 by the template 'total and deterministic' (their statements: YtnmkcfcodhbanaaTotals.lean).
  GIVEN WITH THE SEED: the statements are not yours to turn. If you find one false, say at which input.
  Laid BY PROGRAM, IN A SANDBOX (cutbox-rows.mjs): the forced cells as the released guide's own fill.sh prints them over the translation 33967520844224ad… (all of the seat's roots in one cut). By AI agents, Wed Nov 11 2026. No macro, syntax, notation, axiom, sorry.
-/
import Derived.Test.YtnmkcfcodhbanaaChecked
import GoSem.Claim
import GoSem.ClaimJoined
import GoSem.ClaimMapViews
import Derived.JoinedTies
import Derived.KernelRfl
namespace Go.Proofs.Ytnmkcfcodhbanaa
/- THE CELL 'sum', in the pinned program and in every row, IS THE sha256 OF THE DUMP (.gsa) THAT YtnmkcfcodhbanaaProg.lean LOADS. Nothing in Lean hashes anything: it is a label: what it is worth is what the hold of that sum in a sandbox is worth. -/
noncomputable def Try.pinned : Pinned := { name := "ytnmkcfcodhbanaa", sum := "33967520844224adfc6231f5f1213a665668807a6d3aed34f73a1ad213214090", checked := Try.checked }
namespace Rows
def none {H : Type} : Left H := { results := [], args := [] }

/-- 'triagelaw7.HostForms': WHATEVER THE INPUT: true; the input reads as it did. -/
def hostFormsSpec : ChangeSpec := { name := "hostForms", fn := fun _ => fun
  | [d1, d2, d3] => { results := [.lit (.bool true)], args := [d1, d2, d3] }
  | _ => none }
def hostFormsRow : OpenClaim := { program := "ytnmkcfcodhbanaa", sum := "33967520844224adfc6231f5f1213a665668807a6d3aed34f73a1ad213214090", func := "triage/triagelaw7.HostForms", spec := "hostForms", unfollowed := true, recurses := true, apart := false }
def HostFormsSaid : Prop := hostFormsRow.holds Try.pinned (OpenSpec.ofChange hostFormsSpec)

/-- ITS FALSE NEIGHBOUR: 'it returns false'. Refute it at one input. -/
def hostFormsWrong : ChangeSpec := { name := "hostForms", fn := fun _ => fun
  | [d1, d2, d3] => { results := [.lit (.bool false)], args := [d1, d2, d3] }
  | _ => none }
def HostFormsWrongFalsely : Prop := hostFormsRow.holds Try.pinned (OpenSpec.ofChange hostFormsWrong)

/-- 'triagelaw7.HostParts': WHATEVER THE INPUT: true; the input reads as it did. -/
def hostPartsSpec : ChangeSpec := { name := "hostParts", fn := fun _ => fun
  | [d1, d2, d3] => { results := [.lit (.bool true)], args := [d1, d2, d3] }
  | _ => none }
def hostPartsRow : OpenClaim := { program := "ytnmkcfcodhbanaa", sum := "33967520844224adfc6231f5f1213a665668807a6d3aed34f73a1ad213214090", func := "triage/triagelaw7.HostParts", spec := "hostParts", unfollowed := true, recurses := true, apart := false }
def HostPartsSaid : Prop := hostPartsRow.holds Try.pinned (OpenSpec.ofChange hostPartsSpec)

/-- ITS FALSE NEIGHBOUR: 'it returns false'. Refute it at one input. -/
def hostPartsWrong : ChangeSpec := { name := "hostParts", fn := fun _ => fun
  | [d1, d2, d3] => { results := [.lit (.bool false)], args := [d1, d2, d3] }
  | _ => none }
def HostPartsWrongFalsely : Prop := hostPartsRow.holds Try.pinned (OpenSpec.ofChange hostPartsWrong)

/-- 'triagelaw7.HostCopies': WHATEVER THE INPUT: true; the input reads as it did. -/
def hostCopiesSpec : ChangeSpec := { name := "hostCopies", fn := fun _ => fun
  | [d1, d2] => { results := [.lit (.bool true)], args := [d1, d2] }
  | _ => none }
def hostCopiesRow : OpenClaim := { program := "ytnmkcfcodhbanaa", sum := "33967520844224adfc6231f5f1213a665668807a6d3aed34f73a1ad213214090", func := "triage/triagelaw7.HostCopies", spec := "hostCopies", unfollowed := true, recurses := true, apart := false }
def HostCopiesSaid : Prop := hostCopiesRow.holds Try.pinned (OpenSpec.ofChange hostCopiesSpec)

/-- ITS FALSE NEIGHBOUR: 'it returns false'. Refute it at one input. -/
def hostCopiesWrong : ChangeSpec := { name := "hostCopies", fn := fun _ => fun
  | [d1, d2] => { results := [.lit (.bool false)], args := [d1, d2] }
  | _ => none }
def HostCopiesWrongFalsely : Prop := hostCopiesRow.holds Try.pinned (OpenSpec.ofChange hostCopiesWrong)

/-- 'triagelaw7.HostBounds': WHATEVER THE INPUT: true; the input reads as it did. -/
def hostBoundsSpec : ChangeSpec := { name := "hostBounds", fn := fun _ => fun
  | [d1, d2, d3] => { results := [.lit (.bool true)], args := [d1, d2, d3] }
  | _ => none }
def hostBoundsRow : OpenClaim := { program := "ytnmkcfcodhbanaa", sum := "33967520844224adfc6231f5f1213a665668807a6d3aed34f73a1ad213214090", func := "triage/triagelaw7.HostBounds", spec := "hostBounds", unfollowed := true, recurses := true, apart := false }
def HostBoundsSaid : Prop := hostBoundsRow.holds Try.pinned (OpenSpec.ofChange hostBoundsSpec)

/-- ITS FALSE NEIGHBOUR: 'it returns false'. Refute it at one input. -/
def hostBoundsWrong : ChangeSpec := { name := "hostBounds", fn := fun _ => fun
  | [d1, d2, d3] => { results := [.lit (.bool false)], args := [d1, d2, d3] }
  | _ => none }
def HostBoundsWrongFalsely : Prop := hostBoundsRow.holds Try.pinned (OpenSpec.ofChange hostBoundsWrong)

/-- 'triagelaw7.HostTurned': WHATEVER THE INPUT: true; the input reads as it did. -/
def hostTurnedSpec : ChangeSpec := { name := "hostTurned", fn := fun _ => fun
  | [d1, d2] => { results := [.lit (.bool true)], args := [d1, d2] }
  | _ => none }
def hostTurnedRow : OpenClaim := { program := "ytnmkcfcodhbanaa", sum := "33967520844224adfc6231f5f1213a665668807a6d3aed34f73a1ad213214090", func := "triage/triagelaw7.HostTurned", spec := "hostTurned", unfollowed := true, recurses := true, apart := false }
def HostTurnedSaid : Prop := hostTurnedRow.holds Try.pinned (OpenSpec.ofChange hostTurnedSpec)

/-- ITS FALSE NEIGHBOUR: 'it returns false'. Refute it at one input. -/
def hostTurnedWrong : ChangeSpec := { name := "hostTurned", fn := fun _ => fun
  | [d1, d2] => { results := [.lit (.bool false)], args := [d1, d2] }
  | _ => none }
def HostTurnedWrongFalsely : Prop := hostTurnedRow.holds Try.pinned (OpenSpec.ofChange hostTurnedWrong)

/- THE SECOND FORM. 'bulk': how many values and letters a reading holds, each counted each time it is reached (what is shared counts as often as it is met; a slice's spare places count too). A statement '..UptoSaid' is the law's where the arguments, and the package variables that the reading takes, are together of bulk at most 1048576: NARROWER than '..Said'. Prove '..Said' where nothing that the law and all that it calls make is longer than what came in: it says more and counts as full. Else prove '..UptoSaid'. A law counts once. -/
mutual
def uptoBulk {H : Type} : DataW H → Nat
  | .lit (.string bytes) => bytes.length + 1
  | .lit _ => 1
  | .nil => 1
  | .ptr d => uptoBulk d + 1
  | .slice elems spare => uptoBulkAll elems + uptoBulkAll spare + 1
  | .agg parts => uptoBulkAll parts + 1
  | .iface _ d => uptoBulk d + 1
  | .map entries => uptoBulkEntries entries + 1
  | .held _ => 1
def uptoBulkAll {H : Type} : List (DataW H) → Nat
  | [] => 0
  | d :: r => uptoBulk d + uptoBulkAll r
def uptoBulkEntries {H : Type} : List (Lit × DataW H) → Nat
  | [] => 0
  | x :: r => uptoBulkEntry x + uptoBulkEntries r
def uptoBulkEntry {H : Type} : Lit × DataW H → Nat
  | (.string bytes, d) => bytes.length + uptoBulk d + 1
  | (_, d) => uptoBulk d + 1
 end
def uptoSmall : (H : Type) → List (DataW H) → Bool := fun _ ds => decide (uptoBulkAll ds ≤ 1048576)
def OpenSpec.upto (s : _root_.Go.ChangeSpec) : _root_.Go.OpenSpec := { _root_.Go.OpenSpec.ofChange s with cond := some uptoSmall }

/-- 'triagelaw7.HostForms', WHERE WHAT IT READS IS OF BULK AT MOST 1048576: true; the input reads as it did. -/
def hostFormsUptoRow : OpenClaim := { program := "ytnmkcfcodhbanaa", sum := "33967520844224adfc6231f5f1213a665668807a6d3aed34f73a1ad213214090", func := "triage/triagelaw7.HostForms", spec := "hostForms", unfollowed := true, recurses := true, apart := false, narrowed := true }
def HostFormsUptoSaid : Prop := hostFormsUptoRow.holds Try.pinned (OpenSpec.upto hostFormsSpec)

/-- 'triagelaw7.HostParts', WHERE WHAT IT READS IS OF BULK AT MOST 1048576: true; the input reads as it did. -/
def hostPartsUptoRow : OpenClaim := { program := "ytnmkcfcodhbanaa", sum := "33967520844224adfc6231f5f1213a665668807a6d3aed34f73a1ad213214090", func := "triage/triagelaw7.HostParts", spec := "hostParts", unfollowed := true, recurses := true, apart := false, narrowed := true }
def HostPartsUptoSaid : Prop := hostPartsUptoRow.holds Try.pinned (OpenSpec.upto hostPartsSpec)

/-- 'triagelaw7.HostCopies', WHERE WHAT IT READS IS OF BULK AT MOST 1048576: true; the input reads as it did. -/
def hostCopiesUptoRow : OpenClaim := { program := "ytnmkcfcodhbanaa", sum := "33967520844224adfc6231f5f1213a665668807a6d3aed34f73a1ad213214090", func := "triage/triagelaw7.HostCopies", spec := "hostCopies", unfollowed := true, recurses := true, apart := false, narrowed := true }
def HostCopiesUptoSaid : Prop := hostCopiesUptoRow.holds Try.pinned (OpenSpec.upto hostCopiesSpec)

/-- 'triagelaw7.HostBounds', WHERE WHAT IT READS IS OF BULK AT MOST 1048576: true; the input reads as it did. -/
def hostBoundsUptoRow : OpenClaim := { program := "ytnmkcfcodhbanaa", sum := "33967520844224adfc6231f5f1213a665668807a6d3aed34f73a1ad213214090", func := "triage/triagelaw7.HostBounds", spec := "hostBounds", unfollowed := true, recurses := true, apart := false, narrowed := true }
def HostBoundsUptoSaid : Prop := hostBoundsUptoRow.holds Try.pinned (OpenSpec.upto hostBoundsSpec)

/-- 'triagelaw7.HostTurned', WHERE WHAT IT READS IS OF BULK AT MOST 1048576: true; the input reads as it did. -/
def hostTurnedUptoRow : OpenClaim := { program := "ytnmkcfcodhbanaa", sum := "33967520844224adfc6231f5f1213a665668807a6d3aed34f73a1ad213214090", func := "triage/triagelaw7.HostTurned", spec := "hostTurned", unfollowed := true, recurses := true, apart := false, narrowed := true }
def HostTurnedUptoSaid : Prop := hostTurnedUptoRow.holds Try.pinned (OpenSpec.upto hostTurnedSpec)

end Rows
end Go.Proofs.Ytnmkcfcodhbanaa
