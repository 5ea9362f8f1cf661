/-
  No cell of these rows narrows 'for every input' (looked for: loops, veiled, ifaces, maps, wideKeys, modest, calm, conditions, laid).
  DERIVED. THE GIVEN ROWS OF THIS SEAT. 5 by the template 'for every input the law returns true; each argument reads behind the call as it read before'; 0 by the template 'total and deterministic' (their statements: YtlaifjifgoadkaaTotals.lean).
  GIVEN WITH THE SEED: the statements are not yours to turn. If you find one false, say at which input.
  Laid BY PROGRAM, IN A SANDBOX (cutbox-rows.mjs): the forced cells as the released guide's own fill.sh prints them over the translation 47eb6a407ed36a83… (all of the seat's roots in one cut). By AI agents, Wed Nov 11 2026. No macro, syntax, notation, axiom, sorry.
-/
import Derived.Test.YtlaifjifgoadkaaChecked
import GoSem.Claim
import GoSem.ClaimJoined
import GoSem.ClaimMapViews
import Derived.JoinedTies
import Derived.KernelRfl
namespace Go.Proofs.Ytlaifjifgoadkaa
/- THE CELL 'sum', in the pinned program and in every row, IS THE sha256 OF THE DUMP (.gsa) THAT YtlaifjifgoadkaaProg.lean LOADS. Nothing in Lean hashes anything: it is a label: what it is worth is what the hold of that sum in a sandbox is worth. -/
noncomputable def Try.pinned : Pinned := { name := "ytlaifjifgoadkaa", sum := "47eb6a407ed36a835855724acf2aba1bd7ebdebd16afe875d21b8a54df4a6da5", checked := Try.checked }
namespace Rows
def none {H : Type} : Left H := { results := [], args := [] }

/-- 'triagelaw3.OrderForms': WHATEVER THE INPUT: true; the input reads as it did. -/
def orderFormsSpec : ChangeSpec := { name := "orderForms", fn := fun _ => fun
  | [d1, d2, d3] => { results := [.lit (.bool true)], args := [d1, d2, d3] }
  | _ => none }
def orderFormsRow : OpenClaim := { program := "ytlaifjifgoadkaa", sum := "47eb6a407ed36a835855724acf2aba1bd7ebdebd16afe875d21b8a54df4a6da5", func := "triage/triagelaw3.OrderForms", spec := "orderForms", recurses := true, plainKeys := false, apart := false }
def OrderFormsSaid : Prop := orderFormsRow.holds Try.pinned (OpenSpec.ofChange orderFormsSpec)

/-- ITS FALSE NEIGHBOUR: 'it returns false'. Refute it at one input. -/
def orderFormsWrong : ChangeSpec := { name := "orderForms", fn := fun _ => fun
  | [d1, d2, d3] => { results := [.lit (.bool false)], args := [d1, d2, d3] }
  | _ => none }
def OrderFormsWrongFalsely : Prop := orderFormsRow.holds Try.pinned (OpenSpec.ofChange orderFormsWrong)

/-- 'triagelaw3.OrderOne': WHATEVER THE INPUT: true; the input reads as it did. -/
def orderOneSpec : ChangeSpec := { name := "orderOne", fn := fun _ => fun
  | [d1, d2] => { results := [.lit (.bool true)], args := [d1, d2] }
  | _ => none }
def orderOneRow : OpenClaim := { program := "ytlaifjifgoadkaa", sum := "47eb6a407ed36a835855724acf2aba1bd7ebdebd16afe875d21b8a54df4a6da5", func := "triage/triagelaw3.OrderOne", spec := "orderOne", recurses := true, plainKeys := false, apart := false }
def OrderOneSaid : Prop := orderOneRow.holds Try.pinned (OpenSpec.ofChange orderOneSpec)

/-- ITS FALSE NEIGHBOUR: 'it returns false'. Refute it at one input. -/
def orderOneWrong : ChangeSpec := { name := "orderOne", fn := fun _ => fun
  | [d1, d2] => { results := [.lit (.bool false)], args := [d1, d2] }
  | _ => none }
def OrderOneWrongFalsely : Prop := orderOneRow.holds Try.pinned (OpenSpec.ofChange orderOneWrong)

/-- 'triagelaw3.OrderFinds': WHATEVER THE INPUT: true; the input reads as it did. -/
def orderFindsSpec : ChangeSpec := { name := "orderFinds", fn := fun _ => fun
  | [d1, d2] => { results := [.lit (.bool true)], args := [d1, d2] }
  | _ => none }
def orderFindsRow : OpenClaim := { program := "ytlaifjifgoadkaa", sum := "47eb6a407ed36a835855724acf2aba1bd7ebdebd16afe875d21b8a54df4a6da5", func := "triage/triagelaw3.OrderFinds", spec := "orderFinds", recurses := true, plainKeys := false, apart := false }
def OrderFindsSaid : Prop := orderFindsRow.holds Try.pinned (OpenSpec.ofChange orderFindsSpec)

/-- ITS FALSE NEIGHBOUR: 'it returns false'. Refute it at one input. -/
def orderFindsWrong : ChangeSpec := { name := "orderFinds", fn := fun _ => fun
  | [d1, d2] => { results := [.lit (.bool false)], args := [d1, d2] }
  | _ => none }
def OrderFindsWrongFalsely : Prop := orderFindsRow.holds Try.pinned (OpenSpec.ofChange orderFindsWrong)

/-- 'triagelaw3.OrderMerges': WHATEVER THE INPUT: true; the input reads as it did. -/
def orderMergesSpec : ChangeSpec := { name := "orderMerges", fn := fun _ => fun
  | [d1, d2] => { results := [.lit (.bool true)], args := [d1, d2] }
  | _ => none }
def orderMergesRow : OpenClaim := { program := "ytlaifjifgoadkaa", sum := "47eb6a407ed36a835855724acf2aba1bd7ebdebd16afe875d21b8a54df4a6da5", func := "triage/triagelaw3.OrderMerges", spec := "orderMerges", recurses := true, plainKeys := false, apart := false }
def OrderMergesSaid : Prop := orderMergesRow.holds Try.pinned (OpenSpec.ofChange orderMergesSpec)

/-- ITS FALSE NEIGHBOUR: 'it returns false'. Refute it at one input. -/
def orderMergesWrong : ChangeSpec := { name := "orderMerges", fn := fun _ => fun
  | [d1, d2] => { results := [.lit (.bool false)], args := [d1, d2] }
  | _ => none }
def OrderMergesWrongFalsely : Prop := orderMergesRow.holds Try.pinned (OpenSpec.ofChange orderMergesWrong)

/-- 'triagelaw3.OrderLess': WHATEVER THE INPUT: true; the input reads as it did. -/
def orderLessSpec : ChangeSpec := { name := "orderLess", fn := fun _ => fun
  | [d1, d2, d3] => { results := [.lit (.bool true)], args := [d1, d2, d3] }
  | _ => none }
def orderLessRow : OpenClaim := { program := "ytlaifjifgoadkaa", sum := "47eb6a407ed36a835855724acf2aba1bd7ebdebd16afe875d21b8a54df4a6da5", func := "triage/triagelaw3.OrderLess", spec := "orderLess", recurses := true, plainKeys := false, apart := false }
def OrderLessSaid : Prop := orderLessRow.holds Try.pinned (OpenSpec.ofChange orderLessSpec)

/-- ITS FALSE NEIGHBOUR: 'it returns false'. Refute it at one input. -/
def orderLessWrong : ChangeSpec := { name := "orderLess", fn := fun _ => fun
  | [d1, d2, d3] => { results := [.lit (.bool false)], args := [d1, d2, d3] }
  | _ => none }
def OrderLessWrongFalsely : Prop := orderLessRow.holds Try.pinned (OpenSpec.ofChange orderLessWrong)

/- THE SECOND FORM. 'bulk': how many values and letters a reading holds, each counted each time it is reached (what is shared counts as often as it is met; a slice's spare places count too). A statement '..UptoSaid' is the law's where the arguments, and the package variables that the reading takes, are together of bulk at most 1048576: NARROWER than '..Said'. Prove '..Said' where nothing that the law and all that it calls make is longer than what came in: it says more and counts as full. Else prove '..UptoSaid'. A law counts once. -/
mutual
def uptoBulk {H : Type} : DataW H → Nat
  | .lit (.string bytes) => bytes.length + 1
  | .lit _ => 1
  | .nil => 1
  | .ptr d => uptoBulk d + 1
  | .slice elems spare => uptoBulkAll elems + uptoBulkAll spare + 1
  | .agg parts => uptoBulkAll parts + 1
  | .iface _ d => uptoBulk d + 1
  | .map entries => uptoBulkEntries entries + 1
  | .held _ => 1
def uptoBulkAll {H : Type} : List (DataW H) → Nat
  | [] => 0
  | d :: r => uptoBulk d + uptoBulkAll r
def uptoBulkEntries {H : Type} : List (Lit × DataW H) → Nat
  | [] => 0
  | x :: r => uptoBulkEntry x + uptoBulkEntries r
def uptoBulkEntry {H : Type} : Lit × DataW H → Nat
  | (.string bytes, d) => bytes.length + uptoBulk d + 1
  | (_, d) => uptoBulk d + 1
 end
def uptoSmall : (H : Type) → List (DataW H) → Bool := fun _ ds => decide (uptoBulkAll ds ≤ 1048576)
def OpenSpec.upto (s : _root_.Go.ChangeSpec) : _root_.Go.OpenSpec := { _root_.Go.OpenSpec.ofChange s with cond := some uptoSmall }

/-- 'triagelaw3.OrderForms', WHERE WHAT IT READS IS OF BULK AT MOST 1048576: true; the input reads as it did. -/
def orderFormsUptoRow : OpenClaim := { program := "ytlaifjifgoadkaa", sum := "47eb6a407ed36a835855724acf2aba1bd7ebdebd16afe875d21b8a54df4a6da5", func := "triage/triagelaw3.OrderForms", spec := "orderForms", recurses := true, plainKeys := false, apart := false, narrowed := true }
def OrderFormsUptoSaid : Prop := orderFormsUptoRow.holds Try.pinned (OpenSpec.upto orderFormsSpec)

/-- 'triagelaw3.OrderOne', WHERE WHAT IT READS IS OF BULK AT MOST 1048576: true; the input reads as it did. -/
def orderOneUptoRow : OpenClaim := { program := "ytlaifjifgoadkaa", sum := "47eb6a407ed36a835855724acf2aba1bd7ebdebd16afe875d21b8a54df4a6da5", func := "triage/triagelaw3.OrderOne", spec := "orderOne", recurses := true, plainKeys := false, apart := false, narrowed := true }
def OrderOneUptoSaid : Prop := orderOneUptoRow.holds Try.pinned (OpenSpec.upto orderOneSpec)

/-- 'triagelaw3.OrderFinds', WHERE WHAT IT READS IS OF BULK AT MOST 1048576: true; the input reads as it did. -/
def orderFindsUptoRow : OpenClaim := { program := "ytlaifjifgoadkaa", sum := "47eb6a407ed36a835855724acf2aba1bd7ebdebd16afe875d21b8a54df4a6da5", func := "triage/triagelaw3.OrderFinds", spec := "orderFinds", recurses := true, plainKeys := false, apart := false, narrowed := true }
def OrderFindsUptoSaid : Prop := orderFindsUptoRow.holds Try.pinned (OpenSpec.upto orderFindsSpec)

/-- 'triagelaw3.OrderMerges', WHERE WHAT IT READS IS OF BULK AT MOST 1048576: true; the input reads as it did. -/
def orderMergesUptoRow : OpenClaim := { program := "ytlaifjifgoadkaa", sum := "47eb6a407ed36a835855724acf2aba1bd7ebdebd16afe875d21b8a54df4a6da5", func := "triage/triagelaw3.OrderMerges", spec := "orderMerges", recurses := true, plainKeys := false, apart := false, narrowed := true }
def OrderMergesUptoSaid : Prop := orderMergesUptoRow.holds Try.pinned (OpenSpec.upto orderMergesSpec)

/-- 'triagelaw3.OrderLess', WHERE WHAT IT READS IS OF BULK AT MOST 1048576: true; the input reads as it did. -/
def orderLessUptoRow : OpenClaim := { program := "ytlaifjifgoadkaa", sum := "47eb6a407ed36a835855724acf2aba1bd7ebdebd16afe875d21b8a54df4a6da5", func := "triage/triagelaw3.OrderLess", spec := "orderLess", recurses := true, plainKeys := false, apart := false, narrowed := true }
def OrderLessUptoSaid : Prop := orderLessUptoRow.holds Try.pinned (OpenSpec.upto orderLessSpec)

end Rows
end Go.Proofs.Ytlaifjifgoadkaa
