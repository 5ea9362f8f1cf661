/-
  DERIVED. GIVEN WITH THE SEED: THE CARDS: each row of YtlaejhjpmbblfaaDoorRows.lean that lists a variable, with what it lists TIED to the program's text (the seventh form; the later family's looks); each row that meets fmt, with fmt's text TOLD by the authors' own Lean function (tested against real Go, not proved from fmt's source: count such statements apart). THE CARD IS WHAT COUNTS. Prove the row's statement (the work); the ties are given (YtlaejhjpmbblfaaDoorTie.lean); close each card by the builder's one call (the guide's Derived/Test/ToyasCard.lean, 'card_holds'). Laid BY PROGRAM, IN A SANDBOX (cutbox-door.mjs). By AI agents, Wed Nov 11 2026. No macro, syntax, notation, axiom, sorry.
-/
import Derived.Test.YtlaejhjpmbblfaaDoorRows
import GoSem.ClaimSeven
namespace Go.Proofs.YtlaejhjpmbblfaaDoor
namespace Rows

/-- THE TIED CARD OF 'triagelaw2.HashForms'. -/
def hashFormsCard : Claim7 := { stood := { row := hashFormsRow, standIns := [], harness := (true, "a573c5e5c604a8d1630df158a0cf14bc79752a5b7f3dd806880c38c38b5fd8d6"), looks := false }, kinds := [], alts := [], laidByText := true, laidKinds := [.data, .data, .data], laidTests := true, laidLooks := .later }
def HashFormsCardSaid : Prop := Claim7.holds Tryd.pinned (.plain (OpenSpec.ofChange hashFormsSpec)) hashFormsCard

/-- THE TIED CARD OF 'triagelaw2.HashLast'. -/
def hashLastCard : Claim7 := { stood := { row := hashLastRow, standIns := [], harness := (true, "a573c5e5c604a8d1630df158a0cf14bc79752a5b7f3dd806880c38c38b5fd8d6"), looks := false }, kinds := [], alts := [], laidByText := true, laidKinds := [.data, .data, .data], laidTests := true, laidLooks := .later }
def HashLastCardSaid : Prop := Claim7.holds Tryd.pinned (.plain (OpenSpec.ofChange hashLastSpec)) hashLastCard

/-- THE TIED CARD OF 'triagelaw2.HashBelow'. -/
def hashBelowCard : Claim7 := { stood := { row := hashBelowRow, standIns := [], harness := (true, "a573c5e5c604a8d1630df158a0cf14bc79752a5b7f3dd806880c38c38b5fd8d6"), looks := false }, kinds := [], alts := [], laidByText := true, laidKinds := [.data, .data, .data], laidTests := true, laidLooks := .later }
def HashBelowCardSaid : Prop := Claim7.holds Tryd.pinned (.plain (OpenSpec.ofChange hashBelowSpec)) hashBelowCard

/-- THE TIED CARD OF 'triagelaw2.HashSpreads'. -/
def hashSpreadsCard : Claim7 := { stood := { row := hashSpreadsRow, standIns := [], harness := (true, "a573c5e5c604a8d1630df158a0cf14bc79752a5b7f3dd806880c38c38b5fd8d6"), looks := false }, kinds := [], alts := [], laidByText := true, laidKinds := [.data, .data, .data], laidTests := true, laidLooks := .later }
def HashSpreadsCardSaid : Prop := Claim7.holds Tryd.pinned (.plain (OpenSpec.ofChange hashSpreadsSpec)) hashSpreadsCard

/-- THE SECOND FORM's CARD OF 'triagelaw2.HashForms'. -/
def hashFormsUptoCard : Claim7 := { stood := { row := hashFormsUptoRow, standIns := [], harness := (true, "a573c5e5c604a8d1630df158a0cf14bc79752a5b7f3dd806880c38c38b5fd8d6"), looks := false }, kinds := [], alts := [], laidByText := true, laidKinds := [.data, .data, .data], laidTests := true, laidLooks := .later }
def HashFormsUptoCardSaid : Prop := Claim7.holds Tryd.pinned (.plain (OpenSpec.upto hashFormsSpec)) hashFormsUptoCard

/-- THE SECOND FORM's CARD OF 'triagelaw2.HashLast'. -/
def hashLastUptoCard : Claim7 := { stood := { row := hashLastUptoRow, standIns := [], harness := (true, "a573c5e5c604a8d1630df158a0cf14bc79752a5b7f3dd806880c38c38b5fd8d6"), looks := false }, kinds := [], alts := [], laidByText := true, laidKinds := [.data, .data, .data], laidTests := true, laidLooks := .later }
def HashLastUptoCardSaid : Prop := Claim7.holds Tryd.pinned (.plain (OpenSpec.upto hashLastSpec)) hashLastUptoCard

/-- THE SECOND FORM's CARD OF 'triagelaw2.HashBelow'. -/
def hashBelowUptoCard : Claim7 := { stood := { row := hashBelowUptoRow, standIns := [], harness := (true, "a573c5e5c604a8d1630df158a0cf14bc79752a5b7f3dd806880c38c38b5fd8d6"), looks := false }, kinds := [], alts := [], laidByText := true, laidKinds := [.data, .data, .data], laidTests := true, laidLooks := .later }
def HashBelowUptoCardSaid : Prop := Claim7.holds Tryd.pinned (.plain (OpenSpec.upto hashBelowSpec)) hashBelowUptoCard

/-- THE SECOND FORM's CARD OF 'triagelaw2.HashSpreads'. -/
def hashSpreadsUptoCard : Claim7 := { stood := { row := hashSpreadsUptoRow, standIns := [], harness := (true, "a573c5e5c604a8d1630df158a0cf14bc79752a5b7f3dd806880c38c38b5fd8d6"), looks := false }, kinds := [], alts := [], laidByText := true, laidKinds := [.data, .data, .data], laidTests := true, laidLooks := .later }
def HashSpreadsUptoCardSaid : Prop := Claim7.holds Tryd.pinned (.plain (OpenSpec.upto hashSpreadsSpec)) hashSpreadsUptoCard
end Rows
end Go.Proofs.YtlaejhjpmbblfaaDoor
