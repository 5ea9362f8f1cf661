/-
  No cell of these rows narrows 'for every input' (looked for: loops, veiled, ifaces, maps, wideKeys, modest, calm, conditions, laid).
  DERIVED. THE GIVEN ROWS OF THIS SEAT. 4 by the template 'for every input the law returns true; each argument reads behind the call as it read before'; 0 by the template 'total and deterministic' (their statements: YtognnacdakfekaaTotals.lean).
  GIVEN WITH THE SEED: the statements are not yours to turn. If you find one false, say at which input.
  Laid BY PROGRAM, IN A SANDBOX (cutbox-rows.mjs): the forced cells as the released guide's own fill.sh prints them over the translation 076074aaf1c0dc2f… (all of the seat's roots in one cut). By AI agents, Wed Nov 11 2026. No macro, syntax, notation, axiom, sorry.
-/
import Derived.Test.YtognnacdakfekaaChecked
import GoSem.Claim
import GoSem.ClaimJoined
import GoSem.ClaimMapViews
import Derived.JoinedTies
import Derived.KernelRfl
namespace Go.Proofs.Ytognnacdakfekaa
/- THE CELL 'sum', in the pinned program and in every row, IS THE sha256 OF THE DUMP (.gsa) THAT YtognnacdakfekaaProg.lean LOADS. Nothing in Lean hashes anything: it is a label: what it is worth is what the hold of that sum in a sandbox is worth. -/
noncomputable def Try.pinned : Pinned := { name := "ytognnacdakfekaa", sum := "076074aaf1c0dc2f9e5cecfd43dbe9f4561ef8130d83bf7f1d4cf5ecfee08a78", checked := Try.checked }
namespace Rows
def none {H : Type} : Left H := { results := [], args := [] }

/-- 'triagelaw4.TurnForms': WHATEVER THE INPUT: true; the input reads as it did. -/
def turnFormsSpec : ChangeSpec := { name := "turnForms", fn := fun _ => fun
  | [d1, d2, d3, d4, d5, d6] => { results := [.lit (.bool true)], args := [d1, d2, d3, d4, d5, d6] }
  | _ => none }
def turnFormsRow : OpenClaim := { program := "ytognnacdakfekaa", sum := "076074aaf1c0dc2f9e5cecfd43dbe9f4561ef8130d83bf7f1d4cf5ecfee08a78", func := "triage/triagelaw4.TurnForms", spec := "turnForms", unfollowed := true, recurses := true, apart := false }
def TurnFormsSaid : Prop := turnFormsRow.holds Try.pinned (OpenSpec.ofChange turnFormsSpec)

/-- ITS FALSE NEIGHBOUR: 'it returns false'. Refute it at one input. -/
def turnFormsWrong : ChangeSpec := { name := "turnForms", fn := fun _ => fun
  | [d1, d2, d3, d4, d5, d6] => { results := [.lit (.bool false)], args := [d1, d2, d3, d4, d5, d6] }
  | _ => none }
def TurnFormsWrongFalsely : Prop := turnFormsRow.holds Try.pinned (OpenSpec.ofChange turnFormsWrong)

/-- 'triagelaw4.TurnOnce': WHATEVER THE INPUT: true; the input reads as it did. -/
def turnOnceSpec : ChangeSpec := { name := "turnOnce", fn := fun _ => fun
  | [d1, d2, d3] => { results := [.lit (.bool true)], args := [d1, d2, d3] }
  | _ => none }
def turnOnceRow : OpenClaim := { program := "ytognnacdakfekaa", sum := "076074aaf1c0dc2f9e5cecfd43dbe9f4561ef8130d83bf7f1d4cf5ecfee08a78", func := "triage/triagelaw4.TurnOnce", spec := "turnOnce", unfollowed := true, recurses := true, apart := false }
def TurnOnceSaid : Prop := turnOnceRow.holds Try.pinned (OpenSpec.ofChange turnOnceSpec)

/-- ITS FALSE NEIGHBOUR: 'it returns false'. Refute it at one input. -/
def turnOnceWrong : ChangeSpec := { name := "turnOnce", fn := fun _ => fun
  | [d1, d2, d3] => { results := [.lit (.bool false)], args := [d1, d2, d3] }
  | _ => none }
def TurnOnceWrongFalsely : Prop := turnOnceRow.holds Try.pinned (OpenSpec.ofChange turnOnceWrong)

/-- 'triagelaw4.TurnJoins': WHATEVER THE INPUT: true; the input reads as it did. -/
def turnJoinsSpec : ChangeSpec := { name := "turnJoins", fn := fun _ => fun
  | [d1, d2] => { results := [.lit (.bool true)], args := [d1, d2] }
  | _ => none }
def turnJoinsRow : OpenClaim := { program := "ytognnacdakfekaa", sum := "076074aaf1c0dc2f9e5cecfd43dbe9f4561ef8130d83bf7f1d4cf5ecfee08a78", func := "triage/triagelaw4.TurnJoins", spec := "turnJoins", unfollowed := true, recurses := true, apart := false }
def TurnJoinsSaid : Prop := turnJoinsRow.holds Try.pinned (OpenSpec.ofChange turnJoinsSpec)

/-- ITS FALSE NEIGHBOUR: 'it returns false'. Refute it at one input. -/
def turnJoinsWrong : ChangeSpec := { name := "turnJoins", fn := fun _ => fun
  | [d1, d2] => { results := [.lit (.bool false)], args := [d1, d2] }
  | _ => none }
def TurnJoinsWrongFalsely : Prop := turnJoinsRow.holds Try.pinned (OpenSpec.ofChange turnJoinsWrong)

/-- 'triagelaw4.TurnTimes': WHATEVER THE INPUT: true; the input reads as it did. -/
def turnTimesSpec : ChangeSpec := { name := "turnTimes", fn := fun _ => fun
  | [d1, d2, d3] => { results := [.lit (.bool true)], args := [d1, d2, d3] }
  | _ => none }
def turnTimesRow : OpenClaim := { program := "ytognnacdakfekaa", sum := "076074aaf1c0dc2f9e5cecfd43dbe9f4561ef8130d83bf7f1d4cf5ecfee08a78", func := "triage/triagelaw4.TurnTimes", spec := "turnTimes", unfollowed := true, recurses := true, apart := false }
def TurnTimesSaid : Prop := turnTimesRow.holds Try.pinned (OpenSpec.ofChange turnTimesSpec)

/-- ITS FALSE NEIGHBOUR: 'it returns false'. Refute it at one input. -/
def turnTimesWrong : ChangeSpec := { name := "turnTimes", fn := fun _ => fun
  | [d1, d2, d3] => { results := [.lit (.bool false)], args := [d1, d2, d3] }
  | _ => none }
def TurnTimesWrongFalsely : Prop := turnTimesRow.holds Try.pinned (OpenSpec.ofChange turnTimesWrong)

/- THE SECOND FORM. 'bulk': how many values and letters a reading holds, each counted each time it is reached (what is shared counts as often as it is met; a slice's spare places count too). A statement '..UptoSaid' is the law's where the arguments, and the package variables that the reading takes, are together of bulk at most 1048576: NARROWER than '..Said'. Prove '..Said' where nothing that the law and all that it calls make is longer than what came in: it says more and counts as full. Else prove '..UptoSaid'. A law counts once. -/
mutual
def uptoBulk {H : Type} : DataW H → Nat
  | .lit (.string bytes) => bytes.length + 1
  | .lit _ => 1
  | .nil => 1
  | .ptr d => uptoBulk d + 1
  | .slice elems spare => uptoBulkAll elems + uptoBulkAll spare + 1
  | .agg parts => uptoBulkAll parts + 1
  | .iface _ d => uptoBulk d + 1
  | .map entries => uptoBulkEntries entries + 1
  | .held _ => 1
def uptoBulkAll {H : Type} : List (DataW H) → Nat
  | [] => 0
  | d :: r => uptoBulk d + uptoBulkAll r
def uptoBulkEntries {H : Type} : List (Lit × DataW H) → Nat
  | [] => 0
  | x :: r => uptoBulkEntry x + uptoBulkEntries r
def uptoBulkEntry {H : Type} : Lit × DataW H → Nat
  | (.string bytes, d) => bytes.length + uptoBulk d + 1
  | (_, d) => uptoBulk d + 1
 end
def uptoSmall : (H : Type) → List (DataW H) → Bool := fun _ ds => decide (uptoBulkAll ds ≤ 1048576)
def OpenSpec.upto (s : _root_.Go.ChangeSpec) : _root_.Go.OpenSpec := { _root_.Go.OpenSpec.ofChange s with cond := some uptoSmall }

/-- 'triagelaw4.TurnForms', WHERE WHAT IT READS IS OF BULK AT MOST 1048576: true; the input reads as it did. -/
def turnFormsUptoRow : OpenClaim := { program := "ytognnacdakfekaa", sum := "076074aaf1c0dc2f9e5cecfd43dbe9f4561ef8130d83bf7f1d4cf5ecfee08a78", func := "triage/triagelaw4.TurnForms", spec := "turnForms", unfollowed := true, recurses := true, apart := false, narrowed := true }
def TurnFormsUptoSaid : Prop := turnFormsUptoRow.holds Try.pinned (OpenSpec.upto turnFormsSpec)

/-- 'triagelaw4.TurnOnce', WHERE WHAT IT READS IS OF BULK AT MOST 1048576: true; the input reads as it did. -/
def turnOnceUptoRow : OpenClaim := { program := "ytognnacdakfekaa", sum := "076074aaf1c0dc2f9e5cecfd43dbe9f4561ef8130d83bf7f1d4cf5ecfee08a78", func := "triage/triagelaw4.TurnOnce", spec := "turnOnce", unfollowed := true, recurses := true, apart := false, narrowed := true }
def TurnOnceUptoSaid : Prop := turnOnceUptoRow.holds Try.pinned (OpenSpec.upto turnOnceSpec)

/-- 'triagelaw4.TurnJoins', WHERE WHAT IT READS IS OF BULK AT MOST 1048576: true; the input reads as it did. -/
def turnJoinsUptoRow : OpenClaim := { program := "ytognnacdakfekaa", sum := "076074aaf1c0dc2f9e5cecfd43dbe9f4561ef8130d83bf7f1d4cf5ecfee08a78", func := "triage/triagelaw4.TurnJoins", spec := "turnJoins", unfollowed := true, recurses := true, apart := false, narrowed := true }
def TurnJoinsUptoSaid : Prop := turnJoinsUptoRow.holds Try.pinned (OpenSpec.upto turnJoinsSpec)

/-- 'triagelaw4.TurnTimes', WHERE WHAT IT READS IS OF BULK AT MOST 1048576: true; the input reads as it did. -/
def turnTimesUptoRow : OpenClaim := { program := "ytognnacdakfekaa", sum := "076074aaf1c0dc2f9e5cecfd43dbe9f4561ef8130d83bf7f1d4cf5ecfee08a78", func := "triage/triagelaw4.TurnTimes", spec := "turnTimes", unfollowed := true, recurses := true, apart := false, narrowed := true }
def TurnTimesUptoSaid : Prop := turnTimesUptoRow.holds Try.pinned (OpenSpec.upto turnTimesSpec)

end Rows
end Go.Proofs.Ytognnacdakfekaa
