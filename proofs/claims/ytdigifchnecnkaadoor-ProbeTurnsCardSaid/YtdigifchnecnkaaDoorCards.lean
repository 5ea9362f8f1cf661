/-
  DERIVED. GIVEN WITH THE SEED: THE CARDS: each row of YtdigifchnecnkaaDoorRows.lean that lists a variable, with what it lists TIED to the program's text (the seventh form; the later family's looks); each row that meets fmt, with fmt's text TOLD by the authors' own Lean function (tested against real Go, not proved from fmt's source: count such statements apart). THE CARD IS WHAT COUNTS. Prove the row's statement (the work); the ties are given (YtdigifchnecnkaaDoorTie.lean); close each card by the builder's one call (the guide's Derived/Test/ToyasCard.lean, 'card_holds'). Laid BY PROGRAM, IN A SANDBOX (cutbox-door.mjs). By AI agents, Wed Nov 11 2026. No macro, syntax, notation, axiom, sorry.
-/
import Derived.Test.YtdigifchnecnkaaDoorRows
import GoSem.ClaimSeven
namespace Go.Proofs.YtdigifchnecnkaaDoor
namespace Rows

/-- THE TIED CARD OF 'triagelaw10.ProbeRises'. -/
def probeRisesCard : Claim7 := { stood := { row := probeRisesRow, standIns := [], harness := (true, "15269eb0aacfd47a858a5fe5837036eeb3cbab7d01bf274af8170231e03a8260"), looks := false }, kinds := [], alts := [], laidByText := true, laidKinds := [.data, .data, .data], laidTests := true, laidLooks := .later }
def ProbeRisesCardSaid : Prop := Claim7.holds Tryd.pinned (.plain (OpenSpec.ofChange probeRisesSpec)) probeRisesCard

/-- THE TIED CARD OF 'triagelaw10.ProbeForced'. -/
def probeForcedCard : Claim7 := { stood := { row := probeForcedRow, standIns := [], harness := (true, "15269eb0aacfd47a858a5fe5837036eeb3cbab7d01bf274af8170231e03a8260"), looks := false }, kinds := [], alts := [], laidByText := true, laidKinds := [.data, .data, .data], laidTests := true, laidLooks := .later }
def ProbeForcedCardSaid : Prop := Claim7.holds Tryd.pinned (.plain (OpenSpec.ofChange probeForcedSpec)) probeForcedCard

/-- THE TIED CARD OF 'triagelaw10.ProbeWaits'. -/
def probeWaitsCard : Claim7 := { stood := { row := probeWaitsRow, standIns := [], harness := (true, "15269eb0aacfd47a858a5fe5837036eeb3cbab7d01bf274af8170231e03a8260"), looks := false }, kinds := [], alts := [], laidByText := true, laidKinds := [.data, .data, .data], laidTests := true, laidLooks := .later }
def ProbeWaitsCardSaid : Prop := Claim7.holds Tryd.pinned (.plain (OpenSpec.ofChange probeWaitsSpec)) probeWaitsCard

/-- THE TIED CARD OF 'triagelaw10.ProbeTurns'. -/
def probeTurnsCard : Claim7 := { stood := { row := probeTurnsRow, standIns := [], harness := (true, "15269eb0aacfd47a858a5fe5837036eeb3cbab7d01bf274af8170231e03a8260"), looks := false }, kinds := [], alts := [], laidByText := true, laidKinds := [.data, .data, .data], laidTests := true, laidLooks := .later }
def ProbeTurnsCardSaid : Prop := Claim7.holds Tryd.pinned (.plain (OpenSpec.ofChange probeTurnsSpec)) probeTurnsCard

/-- THE SECOND FORM's CARD OF 'triagelaw10.ProbeRises'. -/
def probeRisesUptoCard : Claim7 := { stood := { row := probeRisesUptoRow, standIns := [], harness := (true, "15269eb0aacfd47a858a5fe5837036eeb3cbab7d01bf274af8170231e03a8260"), looks := false }, kinds := [], alts := [], laidByText := true, laidKinds := [.data, .data, .data], laidTests := true, laidLooks := .later }
def ProbeRisesUptoCardSaid : Prop := Claim7.holds Tryd.pinned (.plain (OpenSpec.upto probeRisesSpec)) probeRisesUptoCard

/-- THE SECOND FORM's CARD OF 'triagelaw10.ProbeForced'. -/
def probeForcedUptoCard : Claim7 := { stood := { row := probeForcedUptoRow, standIns := [], harness := (true, "15269eb0aacfd47a858a5fe5837036eeb3cbab7d01bf274af8170231e03a8260"), looks := false }, kinds := [], alts := [], laidByText := true, laidKinds := [.data, .data, .data], laidTests := true, laidLooks := .later }
def ProbeForcedUptoCardSaid : Prop := Claim7.holds Tryd.pinned (.plain (OpenSpec.upto probeForcedSpec)) probeForcedUptoCard

/-- THE SECOND FORM's CARD OF 'triagelaw10.ProbeWaits'. -/
def probeWaitsUptoCard : Claim7 := { stood := { row := probeWaitsUptoRow, standIns := [], harness := (true, "15269eb0aacfd47a858a5fe5837036eeb3cbab7d01bf274af8170231e03a8260"), looks := false }, kinds := [], alts := [], laidByText := true, laidKinds := [.data, .data, .data], laidTests := true, laidLooks := .later }
def ProbeWaitsUptoCardSaid : Prop := Claim7.holds Tryd.pinned (.plain (OpenSpec.upto probeWaitsSpec)) probeWaitsUptoCard

/-- THE SECOND FORM's CARD OF 'triagelaw10.ProbeTurns'. -/
def probeTurnsUptoCard : Claim7 := { stood := { row := probeTurnsUptoRow, standIns := [], harness := (true, "15269eb0aacfd47a858a5fe5837036eeb3cbab7d01bf274af8170231e03a8260"), looks := false }, kinds := [], alts := [], laidByText := true, laidKinds := [.data, .data, .data], laidTests := true, laidLooks := .later }
def ProbeTurnsUptoCardSaid : Prop := Claim7.holds Tryd.pinned (.plain (OpenSpec.upto probeTurnsSpec)) probeTurnsUptoCard
end Rows
end Go.Proofs.YtdigifchnecnkaaDoor
