/-
  No cell of these rows narrows 'for every input' (looked for: loops, veiled, ifaces, maps, wideKeys, modest, calm, conditions, laid).
  DERIVED. THE GIVEN ROWS OF THIS SEAT. 5 by the template 'for every input the law returns true; each argument reads behind the call as it read before'; 0 by the template 'total and deterministic' (their statements: YtlmfmpfpildemaaTotals.lean).
  GIVEN WITH THE SEED: the statements are not yours to turn. If you find one false, say at which input.
  Laid BY PROGRAM, IN A SANDBOX (cutbox-rows.mjs): the forced cells as the released guide's own fill.sh prints them over the translation b15e95b5cda2ea6e… (all of the seat's roots in one cut). By AI agents, Wed Nov 11 2026. No macro, syntax, notation, axiom, sorry.
-/
import Derived.Test.YtlmfmpfpildemaaChecked
import GoSem.Claim
import GoSem.ClaimJoined
import GoSem.ClaimMapViews
import Derived.JoinedTies
import Derived.KernelRfl
namespace Go.Proofs.Ytlmfmpfpildemaa
/- THE CELL 'sum', in the pinned program and in every row, IS THE sha256 OF THE DUMP (.gsa) THAT YtlmfmpfpildemaaProg.lean LOADS. Nothing in Lean hashes anything: it is a label: what it is worth is what the hold of that sum in a sandbox is worth. -/
noncomputable def Try.pinned : Pinned := { name := "ytlmfmpfpildemaa", sum := "b15e95b5cda2ea6e52dc50054b90c75d23207617723e89bf4a3316fb348300f7", checked := Try.checked }
namespace Rows
def none {H : Type} : Left H := { results := [], args := [] }

/-- 'triagelaw24.TicketOrder': WHATEVER THE INPUT: true; the input reads as it did. -/
def ticketOrderSpec : ChangeSpec := { name := "ticketOrder", fn := fun _ => fun
  | [d1, d2] => { results := [.lit (.bool true)], args := [d1, d2] }
  | _ => none }
def ticketOrderRow : OpenClaim := { program := "ytlmfmpfpildemaa", sum := "b15e95b5cda2ea6e52dc50054b90c75d23207617723e89bf4a3316fb348300f7", func := "triage/triagelaw24.TicketOrder", spec := "ticketOrder", unfollowed := true, recurses := true, apart := false }
def TicketOrderSaid : Prop := ticketOrderRow.holds Try.pinned (OpenSpec.ofChange ticketOrderSpec)

/-- ITS FALSE NEIGHBOUR: 'it returns false'. Refute it at one input. -/
def ticketOrderWrong : ChangeSpec := { name := "ticketOrder", fn := fun _ => fun
  | [d1, d2] => { results := [.lit (.bool false)], args := [d1, d2] }
  | _ => none }
def TicketOrderWrongFalsely : Prop := ticketOrderRow.holds Try.pinned (OpenSpec.ofChange ticketOrderWrong)

/-- 'triagelaw24.TicketNever': WHATEVER THE INPUT: true; the input reads as it did. -/
def ticketNeverSpec : ChangeSpec := { name := "ticketNever", fn := fun _ => fun
  | [d] => { results := [.lit (.bool true)], args := [d] }
  | _ => none }
def ticketNeverRow : OpenClaim := { program := "ytlmfmpfpildemaa", sum := "b15e95b5cda2ea6e52dc50054b90c75d23207617723e89bf4a3316fb348300f7", func := "triage/triagelaw24.TicketNever", spec := "ticketNever", unfollowed := true, recurses := true, apart := false }
def TicketNeverSaid : Prop := ticketNeverRow.holds Try.pinned (OpenSpec.ofChange ticketNeverSpec)

/-- ITS FALSE NEIGHBOUR: 'it returns false'. Refute it at one input. -/
def ticketNeverWrong : ChangeSpec := { name := "ticketNever", fn := fun _ => fun
  | [d] => { results := [.lit (.bool false)], args := [d] }
  | _ => none }
def TicketNeverWrongFalsely : Prop := ticketNeverRow.holds Try.pinned (OpenSpec.ofChange ticketNeverWrong)

/-- 'triagelaw24.TicketFull': WHATEVER THE INPUT: true; the input reads as it did. -/
def ticketFullSpec : ChangeSpec := { name := "ticketFull", fn := fun _ => fun
  | [d1, d2] => { results := [.lit (.bool true)], args := [d1, d2] }
  | _ => none }
def ticketFullRow : OpenClaim := { program := "ytlmfmpfpildemaa", sum := "b15e95b5cda2ea6e52dc50054b90c75d23207617723e89bf4a3316fb348300f7", func := "triage/triagelaw24.TicketFull", spec := "ticketFull", unfollowed := true, recurses := true, apart := false }
def TicketFullSaid : Prop := ticketFullRow.holds Try.pinned (OpenSpec.ofChange ticketFullSpec)

/-- ITS FALSE NEIGHBOUR: 'it returns false'. Refute it at one input. -/
def ticketFullWrong : ChangeSpec := { name := "ticketFull", fn := fun _ => fun
  | [d1, d2] => { results := [.lit (.bool false)], args := [d1, d2] }
  | _ => none }
def TicketFullWrongFalsely : Prop := ticketFullRow.holds Try.pinned (OpenSpec.ofChange ticketFullWrong)

/-- 'triagelaw24.TicketPlays': WHATEVER THE INPUT: true; the input reads as it did. -/
def ticketPlaysSpec : ChangeSpec := { name := "ticketPlays", fn := fun _ => fun
  | [d] => { results := [.lit (.bool true)], args := [d] }
  | _ => none }
def ticketPlaysRow : OpenClaim := { program := "ytlmfmpfpildemaa", sum := "b15e95b5cda2ea6e52dc50054b90c75d23207617723e89bf4a3316fb348300f7", func := "triage/triagelaw24.TicketPlays", spec := "ticketPlays", unfollowed := true, recurses := true, apart := false }
def TicketPlaysSaid : Prop := ticketPlaysRow.holds Try.pinned (OpenSpec.ofChange ticketPlaysSpec)

/-- ITS FALSE NEIGHBOUR: 'it returns false'. Refute it at one input. -/
def ticketPlaysWrong : ChangeSpec := { name := "ticketPlays", fn := fun _ => fun
  | [d] => { results := [.lit (.bool false)], args := [d] }
  | _ => none }
def TicketPlaysWrongFalsely : Prop := ticketPlaysRow.holds Try.pinned (OpenSpec.ofChange ticketPlaysWrong)

/-- 'triagelaw24.TicketNil': WHATEVER THE INPUT: true; the input reads as it did. -/
def ticketNilSpec : ChangeSpec := { name := "ticketNil", fn := fun _ => fun
  | [d] => { results := [.lit (.bool true)], args := [d] }
  | _ => none }
def ticketNilRow : OpenClaim := { program := "ytlmfmpfpildemaa", sum := "b15e95b5cda2ea6e52dc50054b90c75d23207617723e89bf4a3316fb348300f7", func := "triage/triagelaw24.TicketNil", spec := "ticketNil", unfollowed := true, recurses := true, apart := false }
def TicketNilSaid : Prop := ticketNilRow.holds Try.pinned (OpenSpec.ofChange ticketNilSpec)

/-- ITS FALSE NEIGHBOUR: 'it returns false'. Refute it at one input. -/
def ticketNilWrong : ChangeSpec := { name := "ticketNil", fn := fun _ => fun
  | [d] => { results := [.lit (.bool false)], args := [d] }
  | _ => none }
def TicketNilWrongFalsely : Prop := ticketNilRow.holds Try.pinned (OpenSpec.ofChange ticketNilWrong)

/- THE SECOND FORM. 'bulk': how many values and letters a reading holds, each counted each time it is reached (what is shared counts as often as it is met; a slice's spare places count too). A statement '..UptoSaid' is the law's where the arguments, and the package variables that the reading takes, are together of bulk at most 1048576: NARROWER than '..Said'. Prove '..Said' where nothing that the law and all that it calls make is longer than what came in: it says more and counts as full. Else prove '..UptoSaid'. A law counts once. -/
mutual
def uptoBulk {H : Type} : DataW H → Nat
  | .lit (.string bytes) => bytes.length + 1
  | .lit _ => 1
  | .nil => 1
  | .ptr d => uptoBulk d + 1
  | .slice elems spare => uptoBulkAll elems + uptoBulkAll spare + 1
  | .agg parts => uptoBulkAll parts + 1
  | .iface _ d => uptoBulk d + 1
  | .map entries => uptoBulkEntries entries + 1
  | .held _ => 1
def uptoBulkAll {H : Type} : List (DataW H) → Nat
  | [] => 0
  | d :: r => uptoBulk d + uptoBulkAll r
def uptoBulkEntries {H : Type} : List (Lit × DataW H) → Nat
  | [] => 0
  | x :: r => uptoBulkEntry x + uptoBulkEntries r
def uptoBulkEntry {H : Type} : Lit × DataW H → Nat
  | (.string bytes, d) => bytes.length + uptoBulk d + 1
  | (_, d) => uptoBulk d + 1
 end
def uptoSmall : (H : Type) → List (DataW H) → Bool := fun _ ds => decide (uptoBulkAll ds ≤ 1048576)
def OpenSpec.upto (s : _root_.Go.ChangeSpec) : _root_.Go.OpenSpec := { _root_.Go.OpenSpec.ofChange s with cond := some uptoSmall }

/-- 'triagelaw24.TicketOrder', WHERE WHAT IT READS IS OF BULK AT MOST 1048576: true; the input reads as it did. -/
def ticketOrderUptoRow : OpenClaim := { program := "ytlmfmpfpildemaa", sum := "b15e95b5cda2ea6e52dc50054b90c75d23207617723e89bf4a3316fb348300f7", func := "triage/triagelaw24.TicketOrder", spec := "ticketOrder", unfollowed := true, recurses := true, apart := false, narrowed := true }
def TicketOrderUptoSaid : Prop := ticketOrderUptoRow.holds Try.pinned (OpenSpec.upto ticketOrderSpec)

/-- 'triagelaw24.TicketNever', WHERE WHAT IT READS IS OF BULK AT MOST 1048576: true; the input reads as it did. -/
def ticketNeverUptoRow : OpenClaim := { program := "ytlmfmpfpildemaa", sum := "b15e95b5cda2ea6e52dc50054b90c75d23207617723e89bf4a3316fb348300f7", func := "triage/triagelaw24.TicketNever", spec := "ticketNever", unfollowed := true, recurses := true, apart := false, narrowed := true }
def TicketNeverUptoSaid : Prop := ticketNeverUptoRow.holds Try.pinned (OpenSpec.upto ticketNeverSpec)

/-- 'triagelaw24.TicketFull', WHERE WHAT IT READS IS OF BULK AT MOST 1048576: true; the input reads as it did. -/
def ticketFullUptoRow : OpenClaim := { program := "ytlmfmpfpildemaa", sum := "b15e95b5cda2ea6e52dc50054b90c75d23207617723e89bf4a3316fb348300f7", func := "triage/triagelaw24.TicketFull", spec := "ticketFull", unfollowed := true, recurses := true, apart := false, narrowed := true }
def TicketFullUptoSaid : Prop := ticketFullUptoRow.holds Try.pinned (OpenSpec.upto ticketFullSpec)

/-- 'triagelaw24.TicketPlays', WHERE WHAT IT READS IS OF BULK AT MOST 1048576: true; the input reads as it did. -/
def ticketPlaysUptoRow : OpenClaim := { program := "ytlmfmpfpildemaa", sum := "b15e95b5cda2ea6e52dc50054b90c75d23207617723e89bf4a3316fb348300f7", func := "triage/triagelaw24.TicketPlays", spec := "ticketPlays", unfollowed := true, recurses := true, apart := false, narrowed := true }
def TicketPlaysUptoSaid : Prop := ticketPlaysUptoRow.holds Try.pinned (OpenSpec.upto ticketPlaysSpec)

/-- 'triagelaw24.TicketNil', WHERE WHAT IT READS IS OF BULK AT MOST 1048576: true; the input reads as it did. -/
def ticketNilUptoRow : OpenClaim := { program := "ytlmfmpfpildemaa", sum := "b15e95b5cda2ea6e52dc50054b90c75d23207617723e89bf4a3316fb348300f7", func := "triage/triagelaw24.TicketNil", spec := "ticketNil", unfollowed := true, recurses := true, apart := false, narrowed := true }
def TicketNilUptoSaid : Prop := ticketNilUptoRow.holds Try.pinned (OpenSpec.upto ticketNilSpec)

end Rows
end Go.Proofs.Ytlmfmpfpildemaa
