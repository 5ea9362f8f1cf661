/-
  No cell of these rows narrows 'for every input' (looked for: loops, veiled, ifaces, maps, wideKeys, modest, calm, conditions, laid).
  DERIVED. THE GIVEN ROWS OF THIS SEAT. 6 by the template 'for every input the law returns true; each argument reads behind the call as it read before'; 0 by the template 'total and deterministic' (their statements: YthlbiibholhkmaaTotals.lean).
  GIVEN WITH THE SEED: the statements are not yours to turn. If you find one false, say at which input.
  Laid BY PROGRAM, IN A SANDBOX (cutbox-rows.mjs): the forced cells as the released guide's own fill.sh prints them over the translation 5eac83376cb8d5f9… (all of the seat's roots in one cut). By AI agents, Wed Nov 11 2026. No macro, syntax, notation, axiom, sorry.
-/
import Derived.Test.YthlbiibholhkmaaChecked
import GoSem.Claim
import GoSem.ClaimJoined
import GoSem.ClaimMapViews
import Derived.JoinedTies
import Derived.KernelRfl
namespace Go.Proofs.Ythlbiibholhkmaa
/- THE CELL 'sum', in the pinned program and in every row, IS THE sha256 OF THE DUMP (.gsa) THAT YthlbiibholhkmaaProg.lean LOADS. Nothing in Lean hashes anything: it is a label: what it is worth is what the hold of that sum in a sandbox is worth. -/
noncomputable def Try.pinned : Pinned := { name := "ythlbiibholhkmaa", sum := "5eac83376cb8d5f953a57c89ca0f578f62c05b39833e6998fb2685db7b7cffc5", checked := Try.checked }
namespace Rows
def none {H : Type} : Left H := { results := [], args := [] }

/-- 'triagelaw9.ClockTime': WHATEVER THE INPUT: true; the input reads as it did. -/
def clockTimeSpec : ChangeSpec := { name := "clockTime", fn := fun _ => fun
  | [d] => { results := [.lit (.bool true)], args := [d] }
  | _ => none }
def clockTimeRow : OpenClaim := { program := "ythlbiibholhkmaa", sum := "5eac83376cb8d5f953a57c89ca0f578f62c05b39833e6998fb2685db7b7cffc5", func := "triage/triagelaw9.ClockTime", spec := "clockTime", inPlace := ["slices.overlaps[triage/api.Timer]"], unfollowed := true, recurses := true, plainKeys := false, apart := false }
def ClockTimeSaid : Prop := clockTimeRow.holds Try.pinned (OpenSpec.ofChange clockTimeSpec)

/-- ITS FALSE NEIGHBOUR: 'it returns false'. Refute it at one input. -/
def clockTimeWrong : ChangeSpec := { name := "clockTime", fn := fun _ => fun
  | [d] => { results := [.lit (.bool false)], args := [d] }
  | _ => none }
def ClockTimeWrongFalsely : Prop := clockTimeRow.holds Try.pinned (OpenSpec.ofChange clockTimeWrong)

/-- 'triagelaw9.ClockRounds': WHATEVER THE INPUT: true; the input reads as it did. -/
def clockRoundsSpec : ChangeSpec := { name := "clockRounds", fn := fun _ => fun
  | [d1, d2] => { results := [.lit (.bool true)], args := [d1, d2] }
  | _ => none }
def clockRoundsRow : OpenClaim := { program := "ythlbiibholhkmaa", sum := "5eac83376cb8d5f953a57c89ca0f578f62c05b39833e6998fb2685db7b7cffc5", func := "triage/triagelaw9.ClockRounds", spec := "clockRounds", inPlace := ["slices.overlaps[triage/api.Timer]"], unfollowed := true, recurses := true, plainKeys := false, apart := false }
def ClockRoundsSaid : Prop := clockRoundsRow.holds Try.pinned (OpenSpec.ofChange clockRoundsSpec)

/-- ITS FALSE NEIGHBOUR: 'it returns false'. Refute it at one input. -/
def clockRoundsWrong : ChangeSpec := { name := "clockRounds", fn := fun _ => fun
  | [d1, d2] => { results := [.lit (.bool false)], args := [d1, d2] }
  | _ => none }
def ClockRoundsWrongFalsely : Prop := clockRoundsRow.holds Try.pinned (OpenSpec.ofChange clockRoundsWrong)

/-- 'triagelaw9.ClockPlays': WHATEVER THE INPUT: true; the input reads as it did. -/
def clockPlaysSpec : ChangeSpec := { name := "clockPlays", fn := fun _ => fun
  | [d1, d2] => { results := [.lit (.bool true)], args := [d1, d2] }
  | _ => none }
def clockPlaysRow : OpenClaim := { program := "ythlbiibholhkmaa", sum := "5eac83376cb8d5f953a57c89ca0f578f62c05b39833e6998fb2685db7b7cffc5", func := "triage/triagelaw9.ClockPlays", spec := "clockPlays", inPlace := ["slices.overlaps[triage/api.Timer]"], unfollowed := true, recurses := true, plainKeys := false, apart := false }
def ClockPlaysSaid : Prop := clockPlaysRow.holds Try.pinned (OpenSpec.ofChange clockPlaysSpec)

/-- ITS FALSE NEIGHBOUR: 'it returns false'. Refute it at one input. -/
def clockPlaysWrong : ChangeSpec := { name := "clockPlays", fn := fun _ => fun
  | [d1, d2] => { results := [.lit (.bool false)], args := [d1, d2] }
  | _ => none }
def ClockPlaysWrongFalsely : Prop := clockPlaysRow.holds Try.pinned (OpenSpec.ofChange clockPlaysWrong)

/-- 'triagelaw9.ClockNil': WHATEVER THE INPUT: true; the input reads as it did. -/
def clockNilSpec : ChangeSpec := { name := "clockNil", fn := fun _ => fun
  | [d] => { results := [.lit (.bool true)], args := [d] }
  | _ => none }
def clockNilRow : OpenClaim := { program := "ythlbiibholhkmaa", sum := "5eac83376cb8d5f953a57c89ca0f578f62c05b39833e6998fb2685db7b7cffc5", func := "triage/triagelaw9.ClockNil", spec := "clockNil", inPlace := ["slices.overlaps[triage/api.Timer]"], unfollowed := true, recurses := true, plainKeys := false, apart := false }
def ClockNilSaid : Prop := clockNilRow.holds Try.pinned (OpenSpec.ofChange clockNilSpec)

/-- ITS FALSE NEIGHBOUR: 'it returns false'. Refute it at one input. -/
def clockNilWrong : ChangeSpec := { name := "clockNil", fn := fun _ => fun
  | [d] => { results := [.lit (.bool false)], args := [d] }
  | _ => none }
def ClockNilWrongFalsely : Prop := clockNilRow.holds Try.pinned (OpenSpec.ofChange clockNilWrong)

/-- 'triagelaw9.ClockOrder': WHATEVER THE INPUT: true; the input reads as it did. -/
def clockOrderSpec : ChangeSpec := { name := "clockOrder", fn := fun _ => fun
  | [d1, d2] => { results := [.lit (.bool true)], args := [d1, d2] }
  | _ => none }
def clockOrderRow : OpenClaim := { program := "ythlbiibholhkmaa", sum := "5eac83376cb8d5f953a57c89ca0f578f62c05b39833e6998fb2685db7b7cffc5", func := "triage/triagelaw9.ClockOrder", spec := "clockOrder", inPlace := ["slices.overlaps[triage/api.Timer]"], unfollowed := true, recurses := true, plainKeys := false, apart := false }
def ClockOrderSaid : Prop := clockOrderRow.holds Try.pinned (OpenSpec.ofChange clockOrderSpec)

/-- ITS FALSE NEIGHBOUR: 'it returns false'. Refute it at one input. -/
def clockOrderWrong : ChangeSpec := { name := "clockOrder", fn := fun _ => fun
  | [d1, d2] => { results := [.lit (.bool false)], args := [d1, d2] }
  | _ => none }
def ClockOrderWrongFalsely : Prop := clockOrderRow.holds Try.pinned (OpenSpec.ofChange clockOrderWrong)

/-- 'triagelaw9.ClockAnew': WHATEVER THE INPUT: true; the input reads as it did. -/
def clockAnewSpec : ChangeSpec := { name := "clockAnew", fn := fun _ => fun
  | [d1, d2, d3] => { results := [.lit (.bool true)], args := [d1, d2, d3] }
  | _ => none }
def clockAnewRow : OpenClaim := { program := "ythlbiibholhkmaa", sum := "5eac83376cb8d5f953a57c89ca0f578f62c05b39833e6998fb2685db7b7cffc5", func := "triage/triagelaw9.ClockAnew", spec := "clockAnew", inPlace := ["slices.overlaps[triage/api.Timer]"], unfollowed := true, recurses := true, plainKeys := false, apart := false }
def ClockAnewSaid : Prop := clockAnewRow.holds Try.pinned (OpenSpec.ofChange clockAnewSpec)

/-- ITS FALSE NEIGHBOUR: 'it returns false'. Refute it at one input. -/
def clockAnewWrong : ChangeSpec := { name := "clockAnew", fn := fun _ => fun
  | [d1, d2, d3] => { results := [.lit (.bool false)], args := [d1, d2, d3] }
  | _ => none }
def ClockAnewWrongFalsely : Prop := clockAnewRow.holds Try.pinned (OpenSpec.ofChange clockAnewWrong)

/- THE SECOND FORM. 'bulk': how many values and letters a reading holds, each counted each time it is reached (what is shared counts as often as it is met; a slice's spare places count too). A statement '..UptoSaid' is the law's where the arguments, and the package variables that the reading takes, are together of bulk at most 1048576: NARROWER than '..Said'. Prove '..Said' where nothing that the law and all that it calls make is longer than what came in: it says more and counts as full. Else prove '..UptoSaid'. A law counts once. -/
mutual
def uptoBulk {H : Type} : DataW H → Nat
  | .lit (.string bytes) => bytes.length + 1
  | .lit _ => 1
  | .nil => 1
  | .ptr d => uptoBulk d + 1
  | .slice elems spare => uptoBulkAll elems + uptoBulkAll spare + 1
  | .agg parts => uptoBulkAll parts + 1
  | .iface _ d => uptoBulk d + 1
  | .map entries => uptoBulkEntries entries + 1
  | .held _ => 1
def uptoBulkAll {H : Type} : List (DataW H) → Nat
  | [] => 0
  | d :: r => uptoBulk d + uptoBulkAll r
def uptoBulkEntries {H : Type} : List (Lit × DataW H) → Nat
  | [] => 0
  | x :: r => uptoBulkEntry x + uptoBulkEntries r
def uptoBulkEntry {H : Type} : Lit × DataW H → Nat
  | (.string bytes, d) => bytes.length + uptoBulk d + 1
  | (_, d) => uptoBulk d + 1
 end
def uptoSmall : (H : Type) → List (DataW H) → Bool := fun _ ds => decide (uptoBulkAll ds ≤ 1048576)
def OpenSpec.upto (s : _root_.Go.ChangeSpec) : _root_.Go.OpenSpec := { _root_.Go.OpenSpec.ofChange s with cond := some uptoSmall }

/-- 'triagelaw9.ClockTime', WHERE WHAT IT READS IS OF BULK AT MOST 1048576: true; the input reads as it did. -/
def clockTimeUptoRow : OpenClaim := { program := "ythlbiibholhkmaa", sum := "5eac83376cb8d5f953a57c89ca0f578f62c05b39833e6998fb2685db7b7cffc5", func := "triage/triagelaw9.ClockTime", spec := "clockTime", inPlace := ["slices.overlaps[triage/api.Timer]"], unfollowed := true, recurses := true, plainKeys := false, apart := false, narrowed := true }
def ClockTimeUptoSaid : Prop := clockTimeUptoRow.holds Try.pinned (OpenSpec.upto clockTimeSpec)

/-- 'triagelaw9.ClockRounds', WHERE WHAT IT READS IS OF BULK AT MOST 1048576: true; the input reads as it did. -/
def clockRoundsUptoRow : OpenClaim := { program := "ythlbiibholhkmaa", sum := "5eac83376cb8d5f953a57c89ca0f578f62c05b39833e6998fb2685db7b7cffc5", func := "triage/triagelaw9.ClockRounds", spec := "clockRounds", inPlace := ["slices.overlaps[triage/api.Timer]"], unfollowed := true, recurses := true, plainKeys := false, apart := false, narrowed := true }
def ClockRoundsUptoSaid : Prop := clockRoundsUptoRow.holds Try.pinned (OpenSpec.upto clockRoundsSpec)

/-- 'triagelaw9.ClockPlays', WHERE WHAT IT READS IS OF BULK AT MOST 1048576: true; the input reads as it did. -/
def clockPlaysUptoRow : OpenClaim := { program := "ythlbiibholhkmaa", sum := "5eac83376cb8d5f953a57c89ca0f578f62c05b39833e6998fb2685db7b7cffc5", func := "triage/triagelaw9.ClockPlays", spec := "clockPlays", inPlace := ["slices.overlaps[triage/api.Timer]"], unfollowed := true, recurses := true, plainKeys := false, apart := false, narrowed := true }
def ClockPlaysUptoSaid : Prop := clockPlaysUptoRow.holds Try.pinned (OpenSpec.upto clockPlaysSpec)

/-- 'triagelaw9.ClockNil', WHERE WHAT IT READS IS OF BULK AT MOST 1048576: true; the input reads as it did. -/
def clockNilUptoRow : OpenClaim := { program := "ythlbiibholhkmaa", sum := "5eac83376cb8d5f953a57c89ca0f578f62c05b39833e6998fb2685db7b7cffc5", func := "triage/triagelaw9.ClockNil", spec := "clockNil", inPlace := ["slices.overlaps[triage/api.Timer]"], unfollowed := true, recurses := true, plainKeys := false, apart := false, narrowed := true }
def ClockNilUptoSaid : Prop := clockNilUptoRow.holds Try.pinned (OpenSpec.upto clockNilSpec)

/-- 'triagelaw9.ClockOrder', WHERE WHAT IT READS IS OF BULK AT MOST 1048576: true; the input reads as it did. -/
def clockOrderUptoRow : OpenClaim := { program := "ythlbiibholhkmaa", sum := "5eac83376cb8d5f953a57c89ca0f578f62c05b39833e6998fb2685db7b7cffc5", func := "triage/triagelaw9.ClockOrder", spec := "clockOrder", inPlace := ["slices.overlaps[triage/api.Timer]"], unfollowed := true, recurses := true, plainKeys := false, apart := false, narrowed := true }
def ClockOrderUptoSaid : Prop := clockOrderUptoRow.holds Try.pinned (OpenSpec.upto clockOrderSpec)

/-- 'triagelaw9.ClockAnew', WHERE WHAT IT READS IS OF BULK AT MOST 1048576: true; the input reads as it did. -/
def clockAnewUptoRow : OpenClaim := { program := "ythlbiibholhkmaa", sum := "5eac83376cb8d5f953a57c89ca0f578f62c05b39833e6998fb2685db7b7cffc5", func := "triage/triagelaw9.ClockAnew", spec := "clockAnew", inPlace := ["slices.overlaps[triage/api.Timer]"], unfollowed := true, recurses := true, plainKeys := false, apart := false, narrowed := true }
def ClockAnewUptoSaid : Prop := clockAnewUptoRow.holds Try.pinned (OpenSpec.upto clockAnewSpec)

end Rows
end Go.Proofs.Ythlbiibholhkmaa
