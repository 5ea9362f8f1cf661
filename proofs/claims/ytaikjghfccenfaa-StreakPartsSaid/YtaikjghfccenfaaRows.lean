/-
  No cell of these rows narrows 'for every input' (looked for: loops, veiled, ifaces, maps, wideKeys, modest, calm, conditions, laid).
  DERIVED. THE GIVEN ROWS OF THIS SEAT. 3 by the template 'for every input the law returns true; each argument reads behind the call as it read before'; 0 by the template 'total and deterministic' (their statements: YtaikjghfccenfaaTotals.lean).
  GIVEN WITH THE SEED: the statements are not yours to turn. If you find one false, say at which input.
  Laid BY PROGRAM, IN A SANDBOX (cutbox-rows.mjs): the forced cells as the released guide's own fill.sh prints them over the translation 0c723e5adace9c61… (all of the seat's roots in one cut). By AI agents, Wed Nov 11 2026. No macro, syntax, notation, axiom, sorry.
-/
import Derived.Test.YtaikjghfccenfaaChecked
import GoSem.Claim
import GoSem.ClaimJoined
import GoSem.ClaimMapViews
import Derived.JoinedTies
import Derived.KernelRfl
namespace Go.Proofs.Ytaikjghfccenfaa
/- THE CELL 'sum', in the pinned program and in every row, IS THE sha256 OF THE DUMP (.gsa) THAT YtaikjghfccenfaaProg.lean LOADS. Nothing in Lean hashes anything: it is a label: what it is worth is what the hold of that sum in a sandbox is worth. -/
noncomputable def Try.pinned : Pinned := { name := "ytaikjghfccenfaa", sum := "0c723e5adace9c612f860c6685962dd594f8f252e0e9c18365b7ec19829b64ff", checked := Try.checked }
namespace Rows
def none {H : Type} : Left H := { results := [], args := [] }

/-- 'triagelaw11.StreakForms': WHATEVER THE INPUT: true; the input reads as it did. -/
def streakFormsSpec : ChangeSpec := { name := "streakForms", fn := fun _ => fun
  | [d1, d2, d3, d4] => { results := [.lit (.bool true)], args := [d1, d2, d3, d4] }
  | _ => none }
def streakFormsRow : OpenClaim := { program := "ytaikjghfccenfaa", sum := "0c723e5adace9c612f860c6685962dd594f8f252e0e9c18365b7ec19829b64ff", func := "triage/triagelaw11.StreakForms", spec := "streakForms", apart := false }
def StreakFormsSaid : Prop := streakFormsRow.holds Try.pinned (OpenSpec.ofChange streakFormsSpec)

/-- ITS FALSE NEIGHBOUR: 'it returns false'. Refute it at one input. -/
def streakFormsWrong : ChangeSpec := { name := "streakForms", fn := fun _ => fun
  | [d1, d2, d3, d4] => { results := [.lit (.bool false)], args := [d1, d2, d3, d4] }
  | _ => none }
def StreakFormsWrongFalsely : Prop := streakFormsRow.holds Try.pinned (OpenSpec.ofChange streakFormsWrong)

/-- 'triagelaw11.StreakOnce': WHATEVER THE INPUT: true; the input reads as it did. -/
def streakOnceSpec : ChangeSpec := { name := "streakOnce", fn := fun _ => fun
  | [d1, d2, d3] => { results := [.lit (.bool true)], args := [d1, d2, d3] }
  | _ => none }
def streakOnceRow : OpenClaim := { program := "ytaikjghfccenfaa", sum := "0c723e5adace9c612f860c6685962dd594f8f252e0e9c18365b7ec19829b64ff", func := "triage/triagelaw11.StreakOnce", spec := "streakOnce", apart := false }
def StreakOnceSaid : Prop := streakOnceRow.holds Try.pinned (OpenSpec.ofChange streakOnceSpec)

/-- ITS FALSE NEIGHBOUR: 'it returns false'. Refute it at one input. -/
def streakOnceWrong : ChangeSpec := { name := "streakOnce", fn := fun _ => fun
  | [d1, d2, d3] => { results := [.lit (.bool false)], args := [d1, d2, d3] }
  | _ => none }
def StreakOnceWrongFalsely : Prop := streakOnceRow.holds Try.pinned (OpenSpec.ofChange streakOnceWrong)

/-- 'triagelaw11.StreakParts': WHATEVER THE INPUT: true; the input reads as it did. -/
def streakPartsSpec : ChangeSpec := { name := "streakParts", fn := fun _ => fun
  | [d1, d2, d3, d4] => { results := [.lit (.bool true)], args := [d1, d2, d3, d4] }
  | _ => none }
def streakPartsRow : OpenClaim := { program := "ytaikjghfccenfaa", sum := "0c723e5adace9c612f860c6685962dd594f8f252e0e9c18365b7ec19829b64ff", func := "triage/triagelaw11.StreakParts", spec := "streakParts", apart := false }
def StreakPartsSaid : Prop := streakPartsRow.holds Try.pinned (OpenSpec.ofChange streakPartsSpec)

/-- ITS FALSE NEIGHBOUR: 'it returns false'. Refute it at one input. -/
def streakPartsWrong : ChangeSpec := { name := "streakParts", fn := fun _ => fun
  | [d1, d2, d3, d4] => { results := [.lit (.bool false)], args := [d1, d2, d3, d4] }
  | _ => none }
def StreakPartsWrongFalsely : Prop := streakPartsRow.holds Try.pinned (OpenSpec.ofChange streakPartsWrong)

/- THE SECOND FORM. 'bulk': how many values and letters a reading holds, each counted each time it is reached (what is shared counts as often as it is met; a slice's spare places count too). A statement '..UptoSaid' is the law's where the arguments, and the package variables that the reading takes, are together of bulk at most 1048576: NARROWER than '..Said'. Prove '..Said' where nothing that the law and all that it calls make is longer than what came in: it says more and counts as full. Else prove '..UptoSaid'. A law counts once. -/
mutual
def uptoBulk {H : Type} : DataW H → Nat
  | .lit (.string bytes) => bytes.length + 1
  | .lit _ => 1
  | .nil => 1
  | .ptr d => uptoBulk d + 1
  | .slice elems spare => uptoBulkAll elems + uptoBulkAll spare + 1
  | .agg parts => uptoBulkAll parts + 1
  | .iface _ d => uptoBulk d + 1
  | .map entries => uptoBulkEntries entries + 1
  | .held _ => 1
def uptoBulkAll {H : Type} : List (DataW H) → Nat
  | [] => 0
  | d :: r => uptoBulk d + uptoBulkAll r
def uptoBulkEntries {H : Type} : List (Lit × DataW H) → Nat
  | [] => 0
  | x :: r => uptoBulkEntry x + uptoBulkEntries r
def uptoBulkEntry {H : Type} : Lit × DataW H → Nat
  | (.string bytes, d) => bytes.length + uptoBulk d + 1
  | (_, d) => uptoBulk d + 1
 end
def uptoSmall : (H : Type) → List (DataW H) → Bool := fun _ ds => decide (uptoBulkAll ds ≤ 1048576)
def OpenSpec.upto (s : _root_.Go.ChangeSpec) : _root_.Go.OpenSpec := { _root_.Go.OpenSpec.ofChange s with cond := some uptoSmall }

/-- 'triagelaw11.StreakForms', WHERE WHAT IT READS IS OF BULK AT MOST 1048576: true; the input reads as it did. -/
def streakFormsUptoRow : OpenClaim := { program := "ytaikjghfccenfaa", sum := "0c723e5adace9c612f860c6685962dd594f8f252e0e9c18365b7ec19829b64ff", func := "triage/triagelaw11.StreakForms", spec := "streakForms", apart := false, narrowed := true }
def StreakFormsUptoSaid : Prop := streakFormsUptoRow.holds Try.pinned (OpenSpec.upto streakFormsSpec)

/-- 'triagelaw11.StreakOnce', WHERE WHAT IT READS IS OF BULK AT MOST 1048576: true; the input reads as it did. -/
def streakOnceUptoRow : OpenClaim := { program := "ytaikjghfccenfaa", sum := "0c723e5adace9c612f860c6685962dd594f8f252e0e9c18365b7ec19829b64ff", func := "triage/triagelaw11.StreakOnce", spec := "streakOnce", apart := false, narrowed := true }
def StreakOnceUptoSaid : Prop := streakOnceUptoRow.holds Try.pinned (OpenSpec.upto streakOnceSpec)

/-- 'triagelaw11.StreakParts', WHERE WHAT IT READS IS OF BULK AT MOST 1048576: true; the input reads as it did. -/
def streakPartsUptoRow : OpenClaim := { program := "ytaikjghfccenfaa", sum := "0c723e5adace9c612f860c6685962dd594f8f252e0e9c18365b7ec19829b64ff", func := "triage/triagelaw11.StreakParts", spec := "streakParts", apart := false, narrowed := true }
def StreakPartsUptoSaid : Prop := streakPartsUptoRow.holds Try.pinned (OpenSpec.upto streakPartsSpec)

end Rows
end Go.Proofs.Ytaikjghfccenfaa
