/-
  No cell of these rows narrows 'for every input' (looked for: loops, veiled, ifaces, maps, wideKeys, modest, calm, conditions, laid).
  DERIVED. THE GIVEN ROWS OF THIS SEAT. 5 by the template 'for every input the law returns true; each argument reads behind the call as it read before'; 0 by the template 'total and deterministic' (their statements: YtdoilggfajngiaaTotals.lean).
  GIVEN WITH THE SEED: the statements are not yours to turn. If you find one false, say at which input.
  Laid BY PROGRAM, IN A SANDBOX (cutbox-rows.mjs): the forced cells as the released guide's own fill.sh prints them over the translation c5a0997eea556d1a… (all of the seat's roots in one cut). By AI agents, Wed Nov 11 2026. No macro, syntax, notation, axiom, sorry.
-/
import Derived.Test.YtdoilggfajngiaaChecked
import GoSem.Claim
import GoSem.ClaimJoined
import GoSem.ClaimMapViews
import Derived.JoinedTies
import Derived.KernelRfl
namespace Go.Proofs.Ytdoilggfajngiaa
/- THE CELL 'sum', in the pinned program and in every row, IS THE sha256 OF THE DUMP (.gsa) THAT YtdoilggfajngiaaProg.lean LOADS. Nothing in Lean hashes anything: it is a label: what it is worth is what the hold of that sum in a sandbox is worth. -/
noncomputable def Try.pinned : Pinned := { name := "ytdoilggfajngiaa", sum := "c5a0997eea556d1ab14f2d9d7e9e58a44f97f919a99ee94fef1588ecc803b2a7", checked := Try.checked }
namespace Rows
def none {H : Type} : Left H := { results := [], args := [] }

/-- 'triagelaw16.StateFree': WHATEVER THE INPUT: true; the input reads as it did. -/
def stateFreeSpec : ChangeSpec := { name := "stateFree", fn := fun _ => fun
  | [d] => { results := [.lit (.bool true)], args := [d] }
  | _ => none }
def stateFreeRow : OpenClaim := { program := "ytdoilggfajngiaa", sum := "c5a0997eea556d1ab14f2d9d7e9e58a44f97f919a99ee94fef1588ecc803b2a7", func := "triage/triagelaw16.StateFree", spec := "stateFree", unfollowed := true, recurses := true, apart := false }
def StateFreeSaid : Prop := stateFreeRow.holds Try.pinned (OpenSpec.ofChange stateFreeSpec)

/-- ITS FALSE NEIGHBOUR: 'it returns false'. Refute it at one input. -/
def stateFreeWrong : ChangeSpec := { name := "stateFree", fn := fun _ => fun
  | [d] => { results := [.lit (.bool false)], args := [d] }
  | _ => none }
def StateFreeWrongFalsely : Prop := stateFreeRow.holds Try.pinned (OpenSpec.ofChange stateFreeWrong)

/-- 'triagelaw16.StateNew': WHATEVER THE INPUT: true; the input reads as it did. -/
def stateNewSpec : ChangeSpec := { name := "stateNew", fn := fun _ => fun
  | [d1, d2] => { results := [.lit (.bool true)], args := [d1, d2] }
  | _ => none }
def stateNewRow : OpenClaim := { program := "ytdoilggfajngiaa", sum := "c5a0997eea556d1ab14f2d9d7e9e58a44f97f919a99ee94fef1588ecc803b2a7", func := "triage/triagelaw16.StateNew", spec := "stateNew", unfollowed := true, recurses := true, apart := false }
def StateNewSaid : Prop := stateNewRow.holds Try.pinned (OpenSpec.ofChange stateNewSpec)

/-- ITS FALSE NEIGHBOUR: 'it returns false'. Refute it at one input. -/
def stateNewWrong : ChangeSpec := { name := "stateNew", fn := fun _ => fun
  | [d1, d2] => { results := [.lit (.bool false)], args := [d1, d2] }
  | _ => none }
def StateNewWrongFalsely : Prop := stateNewRow.holds Try.pinned (OpenSpec.ofChange stateNewWrong)

/-- 'triagelaw16.StateFinds': WHATEVER THE INPUT: true; the input reads as it did. -/
def stateFindsSpec : ChangeSpec := { name := "stateFinds", fn := fun _ => fun
  | [d1, d2, d3] => { results := [.lit (.bool true)], args := [d1, d2, d3] }
  | _ => none }
def stateFindsRow : OpenClaim := { program := "ytdoilggfajngiaa", sum := "c5a0997eea556d1ab14f2d9d7e9e58a44f97f919a99ee94fef1588ecc803b2a7", func := "triage/triagelaw16.StateFinds", spec := "stateFinds", unfollowed := true, recurses := true, apart := false }
def StateFindsSaid : Prop := stateFindsRow.holds Try.pinned (OpenSpec.ofChange stateFindsSpec)

/-- ITS FALSE NEIGHBOUR: 'it returns false'. Refute it at one input. -/
def stateFindsWrong : ChangeSpec := { name := "stateFinds", fn := fun _ => fun
  | [d1, d2, d3] => { results := [.lit (.bool false)], args := [d1, d2, d3] }
  | _ => none }
def StateFindsWrongFalsely : Prop := stateFindsRow.holds Try.pinned (OpenSpec.ofChange stateFindsWrong)

/-- 'triagelaw16.StateCopies': WHATEVER THE INPUT: true; the input reads as it did. -/
def stateCopiesSpec : ChangeSpec := { name := "stateCopies", fn := fun _ => fun
  | [d1, d2] => { results := [.lit (.bool true)], args := [d1, d2] }
  | _ => none }
def stateCopiesRow : OpenClaim := { program := "ytdoilggfajngiaa", sum := "c5a0997eea556d1ab14f2d9d7e9e58a44f97f919a99ee94fef1588ecc803b2a7", func := "triage/triagelaw16.StateCopies", spec := "stateCopies", unfollowed := true, recurses := true, apart := false }
def StateCopiesSaid : Prop := stateCopiesRow.holds Try.pinned (OpenSpec.ofChange stateCopiesSpec)

/-- ITS FALSE NEIGHBOUR: 'it returns false'. Refute it at one input. -/
def stateCopiesWrong : ChangeSpec := { name := "stateCopies", fn := fun _ => fun
  | [d1, d2] => { results := [.lit (.bool false)], args := [d1, d2] }
  | _ => none }
def StateCopiesWrongFalsely : Prop := stateCopiesRow.holds Try.pinned (OpenSpec.ofChange stateCopiesWrong)

/-- 'triagelaw16.StateForms': WHATEVER THE INPUT: true; the input reads as it did. -/
def stateFormsSpec : ChangeSpec := { name := "stateForms", fn := fun _ => fun
  | [d1, d2, d3, d4, d5, d6] => { results := [.lit (.bool true)], args := [d1, d2, d3, d4, d5, d6] }
  | _ => none }
def stateFormsRow : OpenClaim := { program := "ytdoilggfajngiaa", sum := "c5a0997eea556d1ab14f2d9d7e9e58a44f97f919a99ee94fef1588ecc803b2a7", func := "triage/triagelaw16.StateForms", spec := "stateForms", unfollowed := true, recurses := true, apart := false }
def StateFormsSaid : Prop := stateFormsRow.holds Try.pinned (OpenSpec.ofChange stateFormsSpec)

/-- ITS FALSE NEIGHBOUR: 'it returns false'. Refute it at one input. -/
def stateFormsWrong : ChangeSpec := { name := "stateForms", fn := fun _ => fun
  | [d1, d2, d3, d4, d5, d6] => { results := [.lit (.bool false)], args := [d1, d2, d3, d4, d5, d6] }
  | _ => none }
def StateFormsWrongFalsely : Prop := stateFormsRow.holds Try.pinned (OpenSpec.ofChange stateFormsWrong)

/- THE SECOND FORM. 'bulk': how many values and letters a reading holds, each counted each time it is reached (what is shared counts as often as it is met; a slice's spare places count too). A statement '..UptoSaid' is the law's where the arguments, and the package variables that the reading takes, are together of bulk at most 1048576: NARROWER than '..Said'. Prove '..Said' where nothing that the law and all that it calls make is longer than what came in: it says more and counts as full. Else prove '..UptoSaid'. A law counts once. -/
mutual
def uptoBulk {H : Type} : DataW H → Nat
  | .lit (.string bytes) => bytes.length + 1
  | .lit _ => 1
  | .nil => 1
  | .ptr d => uptoBulk d + 1
  | .slice elems spare => uptoBulkAll elems + uptoBulkAll spare + 1
  | .agg parts => uptoBulkAll parts + 1
  | .iface _ d => uptoBulk d + 1
  | .map entries => uptoBulkEntries entries + 1
  | .held _ => 1
def uptoBulkAll {H : Type} : List (DataW H) → Nat
  | [] => 0
  | d :: r => uptoBulk d + uptoBulkAll r
def uptoBulkEntries {H : Type} : List (Lit × DataW H) → Nat
  | [] => 0
  | x :: r => uptoBulkEntry x + uptoBulkEntries r
def uptoBulkEntry {H : Type} : Lit × DataW H → Nat
  | (.string bytes, d) => bytes.length + uptoBulk d + 1
  | (_, d) => uptoBulk d + 1
 end
def uptoSmall : (H : Type) → List (DataW H) → Bool := fun _ ds => decide (uptoBulkAll ds ≤ 1048576)
def OpenSpec.upto (s : _root_.Go.ChangeSpec) : _root_.Go.OpenSpec := { _root_.Go.OpenSpec.ofChange s with cond := some uptoSmall }

/-- 'triagelaw16.StateFree', WHERE WHAT IT READS IS OF BULK AT MOST 1048576: true; the input reads as it did. -/
def stateFreeUptoRow : OpenClaim := { program := "ytdoilggfajngiaa", sum := "c5a0997eea556d1ab14f2d9d7e9e58a44f97f919a99ee94fef1588ecc803b2a7", func := "triage/triagelaw16.StateFree", spec := "stateFree", unfollowed := true, recurses := true, apart := false, narrowed := true }
def StateFreeUptoSaid : Prop := stateFreeUptoRow.holds Try.pinned (OpenSpec.upto stateFreeSpec)

/-- 'triagelaw16.StateNew', WHERE WHAT IT READS IS OF BULK AT MOST 1048576: true; the input reads as it did. -/
def stateNewUptoRow : OpenClaim := { program := "ytdoilggfajngiaa", sum := "c5a0997eea556d1ab14f2d9d7e9e58a44f97f919a99ee94fef1588ecc803b2a7", func := "triage/triagelaw16.StateNew", spec := "stateNew", unfollowed := true, recurses := true, apart := false, narrowed := true }
def StateNewUptoSaid : Prop := stateNewUptoRow.holds Try.pinned (OpenSpec.upto stateNewSpec)

/-- 'triagelaw16.StateFinds', WHERE WHAT IT READS IS OF BULK AT MOST 1048576: true; the input reads as it did. -/
def stateFindsUptoRow : OpenClaim := { program := "ytdoilggfajngiaa", sum := "c5a0997eea556d1ab14f2d9d7e9e58a44f97f919a99ee94fef1588ecc803b2a7", func := "triage/triagelaw16.StateFinds", spec := "stateFinds", unfollowed := true, recurses := true, apart := false, narrowed := true }
def StateFindsUptoSaid : Prop := stateFindsUptoRow.holds Try.pinned (OpenSpec.upto stateFindsSpec)

/-- 'triagelaw16.StateCopies', WHERE WHAT IT READS IS OF BULK AT MOST 1048576: true; the input reads as it did. -/
def stateCopiesUptoRow : OpenClaim := { program := "ytdoilggfajngiaa", sum := "c5a0997eea556d1ab14f2d9d7e9e58a44f97f919a99ee94fef1588ecc803b2a7", func := "triage/triagelaw16.StateCopies", spec := "stateCopies", unfollowed := true, recurses := true, apart := false, narrowed := true }
def StateCopiesUptoSaid : Prop := stateCopiesUptoRow.holds Try.pinned (OpenSpec.upto stateCopiesSpec)

/-- 'triagelaw16.StateForms', WHERE WHAT IT READS IS OF BULK AT MOST 1048576: true; the input reads as it did. -/
def stateFormsUptoRow : OpenClaim := { program := "ytdoilggfajngiaa", sum := "c5a0997eea556d1ab14f2d9d7e9e58a44f97f919a99ee94fef1588ecc803b2a7", func := "triage/triagelaw16.StateForms", spec := "stateForms", unfollowed := true, recurses := true, apart := false, narrowed := true }
def StateFormsUptoSaid : Prop := stateFormsUptoRow.holds Try.pinned (OpenSpec.upto stateFormsSpec)

end Rows
end Go.Proofs.Ytdoilggfajngiaa
