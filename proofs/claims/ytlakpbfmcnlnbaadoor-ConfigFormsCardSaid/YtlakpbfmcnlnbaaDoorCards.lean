/-
  DERIVED. GIVEN WITH THE SEED: THE CARDS: each row of YtlakpbfmcnlnbaaDoorRows.lean that lists a variable, with what it lists TIED to the program's text (the seventh form; the later family's looks); each row that meets fmt, with fmt's text TOLD by the authors' own Lean function (tested against real Go, not proved from fmt's source: count such statements apart). THE CARD IS WHAT COUNTS. Prove the row's statement (the work); the ties are given (YtlakpbfmcnlnbaaDoorTie.lean); close each card by the builder's one call (the guide's Derived/Test/ToyasCard.lean, 'card_holds'). Laid BY PROGRAM, IN A SANDBOX (cutbox-door.mjs). By AI agents, Wed Nov 11 2026. No macro, syntax, notation, axiom, sorry.
-/
import Derived.Test.YtlakpbfmcnlnbaaDoorRows
import GoSem.ClaimSeven
namespace Go.Proofs.YtlakpbfmcnlnbaaDoor
namespace Rows

/-- THE TIED CARD OF 'triagelaw6.ConfigForms'. -/
def configFormsCard : Claim7 := { stood := { row := configFormsRow, standIns := [], harness := (true, "745514febbe07122c7f29dc9a0a005d0b31e913b38bd44e4b90a59076b0c5d8c"), looks := false }, kinds := [], alts := [], laidByText := true, laidKinds := [.data, .data, .data], laidTests := true, laidLooks := .later }
def ConfigFormsCardSaid : Prop := Claim7.holds Tryd.pinned (.plain (OpenSpec.ofChange configFormsSpec)) configFormsCard

/-- THE TIED CARD OF 'triagelaw6.ConfigBack'. -/
def configBackCard : Claim7 := { stood := { row := configBackRow, standIns := [], harness := (true, "745514febbe07122c7f29dc9a0a005d0b31e913b38bd44e4b90a59076b0c5d8c"), looks := false }, kinds := [], alts := [], laidByText := true, laidKinds := [.data, .data, .data], laidTests := true, laidLooks := .later }
def ConfigBackCardSaid : Prop := Claim7.holds Tryd.pinned (.plain (OpenSpec.ofChange configBackSpec)) configBackCard

/-- THE TIED CARD OF 'triagelaw6.ConfigRaw'. -/
def configRawCard : Claim7 := { stood := { row := configRawRow, standIns := [], harness := (true, "745514febbe07122c7f29dc9a0a005d0b31e913b38bd44e4b90a59076b0c5d8c"), looks := false }, kinds := [], alts := [], laidByText := true, laidKinds := [.data, .data, .data], laidTests := true, laidLooks := .later }
def ConfigRawCardSaid : Prop := Claim7.holds Tryd.pinned (.plain (OpenSpec.ofChange configRawSpec)) configRawCard

/-- THE TIED CARD OF 'triagelaw6.ConfigTwice'. -/
def configTwiceCard : Claim7 := { stood := { row := configTwiceRow, standIns := [], harness := (true, "745514febbe07122c7f29dc9a0a005d0b31e913b38bd44e4b90a59076b0c5d8c"), looks := false }, kinds := [], alts := [], laidByText := true, laidKinds := [.data, .data, .data], laidTests := true, laidLooks := .later }
def ConfigTwiceCardSaid : Prop := Claim7.holds Tryd.pinned (.plain (OpenSpec.ofChange configTwiceSpec)) configTwiceCard

/-- THE TIED CARD OF 'triagelaw6.ConfigBounds'. -/
def configBoundsCard : Claim7 := { stood := { row := configBoundsRow, standIns := [], harness := (true, "745514febbe07122c7f29dc9a0a005d0b31e913b38bd44e4b90a59076b0c5d8c"), looks := false }, kinds := [], alts := [], laidByText := true, laidKinds := [.data, .data, .data], laidTests := true, laidLooks := .later }
def ConfigBoundsCardSaid : Prop := Claim7.holds Tryd.pinned (.plain (OpenSpec.ofChange configBoundsSpec)) configBoundsCard

/-- THE TIED CARD OF 'triagelaw6.ConfigLines'. -/
def configLinesCard : Claim7 := { stood := { row := configLinesRow, standIns := [], harness := (true, "745514febbe07122c7f29dc9a0a005d0b31e913b38bd44e4b90a59076b0c5d8c"), looks := false }, kinds := [], alts := [], laidByText := true, laidKinds := [.data, .data, .data], laidTests := true, laidLooks := .later }
def ConfigLinesCardSaid : Prop := Claim7.holds Tryd.pinned (.plain (OpenSpec.ofChange configLinesSpec)) configLinesCard

/-- THE TIED CARD OF 'triagelaw6.ConfigAlone'. -/
def configAloneCard : Claim7 := { stood := { row := configAloneRow, standIns := [], harness := (true, "745514febbe07122c7f29dc9a0a005d0b31e913b38bd44e4b90a59076b0c5d8c"), looks := false }, kinds := [], alts := [], laidByText := true, laidKinds := [.data, .data, .data], laidTests := true, laidLooks := .later }
def ConfigAloneCardSaid : Prop := Claim7.holds Tryd.pinned (.plain (OpenSpec.ofChange configAloneSpec)) configAloneCard

/-- THE SECOND FORM's CARD OF 'triagelaw6.ConfigForms'. -/
def configFormsUptoCard : Claim7 := { stood := { row := configFormsUptoRow, standIns := [], harness := (true, "745514febbe07122c7f29dc9a0a005d0b31e913b38bd44e4b90a59076b0c5d8c"), looks := false }, kinds := [], alts := [], laidByText := true, laidKinds := [.data, .data, .data], laidTests := true, laidLooks := .later }
def ConfigFormsUptoCardSaid : Prop := Claim7.holds Tryd.pinned (.plain (OpenSpec.upto configFormsSpec)) configFormsUptoCard

/-- THE SECOND FORM's CARD OF 'triagelaw6.ConfigBack'. -/
def configBackUptoCard : Claim7 := { stood := { row := configBackUptoRow, standIns := [], harness := (true, "745514febbe07122c7f29dc9a0a005d0b31e913b38bd44e4b90a59076b0c5d8c"), looks := false }, kinds := [], alts := [], laidByText := true, laidKinds := [.data, .data, .data], laidTests := true, laidLooks := .later }
def ConfigBackUptoCardSaid : Prop := Claim7.holds Tryd.pinned (.plain (OpenSpec.upto configBackSpec)) configBackUptoCard

/-- THE SECOND FORM's CARD OF 'triagelaw6.ConfigRaw'. -/
def configRawUptoCard : Claim7 := { stood := { row := configRawUptoRow, standIns := [], harness := (true, "745514febbe07122c7f29dc9a0a005d0b31e913b38bd44e4b90a59076b0c5d8c"), looks := false }, kinds := [], alts := [], laidByText := true, laidKinds := [.data, .data, .data], laidTests := true, laidLooks := .later }
def ConfigRawUptoCardSaid : Prop := Claim7.holds Tryd.pinned (.plain (OpenSpec.upto configRawSpec)) configRawUptoCard

/-- THE SECOND FORM's CARD OF 'triagelaw6.ConfigTwice'. -/
def configTwiceUptoCard : Claim7 := { stood := { row := configTwiceUptoRow, standIns := [], harness := (true, "745514febbe07122c7f29dc9a0a005d0b31e913b38bd44e4b90a59076b0c5d8c"), looks := false }, kinds := [], alts := [], laidByText := true, laidKinds := [.data, .data, .data], laidTests := true, laidLooks := .later }
def ConfigTwiceUptoCardSaid : Prop := Claim7.holds Tryd.pinned (.plain (OpenSpec.upto configTwiceSpec)) configTwiceUptoCard

/-- THE SECOND FORM's CARD OF 'triagelaw6.ConfigBounds'. -/
def configBoundsUptoCard : Claim7 := { stood := { row := configBoundsUptoRow, standIns := [], harness := (true, "745514febbe07122c7f29dc9a0a005d0b31e913b38bd44e4b90a59076b0c5d8c"), looks := false }, kinds := [], alts := [], laidByText := true, laidKinds := [.data, .data, .data], laidTests := true, laidLooks := .later }
def ConfigBoundsUptoCardSaid : Prop := Claim7.holds Tryd.pinned (.plain (OpenSpec.upto configBoundsSpec)) configBoundsUptoCard

/-- THE SECOND FORM's CARD OF 'triagelaw6.ConfigLines'. -/
def configLinesUptoCard : Claim7 := { stood := { row := configLinesUptoRow, standIns := [], harness := (true, "745514febbe07122c7f29dc9a0a005d0b31e913b38bd44e4b90a59076b0c5d8c"), looks := false }, kinds := [], alts := [], laidByText := true, laidKinds := [.data, .data, .data], laidTests := true, laidLooks := .later }
def ConfigLinesUptoCardSaid : Prop := Claim7.holds Tryd.pinned (.plain (OpenSpec.upto configLinesSpec)) configLinesUptoCard

/-- THE SECOND FORM's CARD OF 'triagelaw6.ConfigAlone'. -/
def configAloneUptoCard : Claim7 := { stood := { row := configAloneUptoRow, standIns := [], harness := (true, "745514febbe07122c7f29dc9a0a005d0b31e913b38bd44e4b90a59076b0c5d8c"), looks := false }, kinds := [], alts := [], laidByText := true, laidKinds := [.data, .data, .data], laidTests := true, laidLooks := .later }
def ConfigAloneUptoCardSaid : Prop := Claim7.holds Tryd.pinned (.plain (OpenSpec.upto configAloneSpec)) configAloneUptoCard
end Rows
end Go.Proofs.YtlakpbfmcnlnbaaDoor
