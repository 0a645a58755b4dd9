/-
  DERIVED. GIVEN WITH THE SEED: THE CARDS: each row of YtpdgbhjhodhkiaaGreatDoorRows.lean that lists a variable, with what it lists TIED to the program's text (the seventh form; the later family's looks); each row that meets fmt, with fmt's text TOLD by the authors' own Lean function (tested against real Go, not proved from fmt's source: count such statements apart). THE CARD IS WHAT COUNTS. Prove the row's statement (the work); the ties are given (YtpdgbhjhodhkiaaGreatDoorTie.lean); close each card by the builder's one call (the guide's Derived/Test/ToyasCard.lean, 'card_holds'). Laid BY PROGRAM, IN A SANDBOX (cutbox-door.mjs). By AI agents, Wed Nov 11 2026. No macro, syntax, notation, axiom, sorry.
-/
import Derived.Test.YtpdgbhjhodhkiaaGreatDoorRows
import GoSem.ClaimSeven
namespace Go.Proofs.YtpdgbhjhodhkiaaGreatDoor
namespace Rows

/-- THE TIED CARD OF 'commonformlaw01.FormNormals'. -/
def formNormalsCard : Claim7 := { stood := { row := formNormalsRow, standIns := [], harness := (true, "214dcc89c8821bd8dec40c7b62c99287dc4e1b2fb139103b859cf97e376c3071"), looks := true }, kinds := [], alts := [], laidByText := true, laidKinds := [.data, .data, .data, .data, .sentinel, .sentinel, .pinned], laidTests := true, laidLooks := .later }
def FormNormalsCardSaid : Prop := Claim7.holds Tryz.pinned (.plain (OpenSpec.ofChange formNormalsSpec)) formNormalsCard

/-- THE TIED CARD OF 'commonformlaw01.FormSames'. -/
def formSamesCard : Claim7 := { stood := { row := formSamesRow, standIns := [], harness := (true, "214dcc89c8821bd8dec40c7b62c99287dc4e1b2fb139103b859cf97e376c3071"), looks := true }, kinds := [], alts := [], laidByText := true, laidKinds := [.data, .data, .data, .data, .sentinel, .sentinel, .pinned], laidTests := true, laidLooks := .later }
def FormSamesCardSaid : Prop := Claim7.holds Tryz.pinned (.plain (OpenSpec.ofChange formSamesSpec)) formSamesCard

/-- THE TIED CARD OF 'commonformlaw01.FormChecks'. -/
def formChecksCard : Claim7 := { stood := { row := formChecksRow, standIns := [], harness := (true, "214dcc89c8821bd8dec40c7b62c99287dc4e1b2fb139103b859cf97e376c3071"), looks := true }, kinds := [], alts := [], laidByText := true, laidKinds := [.data, .data, .data, .data, .sentinel, .sentinel, .pinned], laidTests := true, laidLooks := .later }
def FormChecksCardSaid : Prop := Claim7.holds Tryz.pinned (.plain (OpenSpec.ofChange formChecksSpec)) formChecksCard

/-- THE TIED CARD OF 'commonformlaw01.FormSpreads'. -/
def formSpreadsCard : Claim7 := { stood := { row := formSpreadsRow, standIns := [], harness := (true, "214dcc89c8821bd8dec40c7b62c99287dc4e1b2fb139103b859cf97e376c3071"), looks := true }, kinds := [], alts := [], laidByText := true, laidKinds := [.data, .data, .data, .data, .sentinel, .sentinel, .pinned], laidTests := true, laidLooks := .later }
def FormSpreadsCardSaid : Prop := Claim7.holds Tryz.pinned (.plain (OpenSpec.ofChange formSpreadsSpec)) formSpreadsCard

/-- THE TIED CARD OF 'commonformlaw01.FormLists'. -/
def formListsCard : Claim7 := { stood := { row := formListsRow, standIns := [], harness := (true, "214dcc89c8821bd8dec40c7b62c99287dc4e1b2fb139103b859cf97e376c3071"), looks := true }, kinds := [], alts := [], laidByText := true, laidKinds := [.data, .data, .data, .data, .sentinel, .sentinel, .pinned], laidTests := true, laidLooks := .later }
def FormListsCardSaid : Prop := Claim7.holds Tryz.pinned (.plain (OpenSpec.ofChange formListsSpec)) formListsCard

/-- THE TIED CARD OF 'commonformlaw01.FormNodes'. -/
def formNodesCard : Claim7 := { stood := { row := formNodesRow, standIns := [], harness := (true, "214dcc89c8821bd8dec40c7b62c99287dc4e1b2fb139103b859cf97e376c3071"), looks := true }, kinds := [], alts := [], laidByText := true, laidKinds := [.data, .data, .data, .data, .sentinel, .sentinel, .pinned], laidTests := true, laidLooks := .later }
def FormNodesCardSaid : Prop := Claim7.holds Tryz.pinned (.plain (OpenSpec.ofChange formNodesSpec)) formNodesCard

/-- THE TIED CARD OF 'commonformlaw01.FormRelations'. -/
def formRelationsCard : Claim7 := { stood := { row := formRelationsRow, standIns := [], harness := (true, "214dcc89c8821bd8dec40c7b62c99287dc4e1b2fb139103b859cf97e376c3071"), looks := true }, kinds := [], alts := [], laidByText := true, laidKinds := [.data, .data, .data, .data, .sentinel, .sentinel, .pinned], laidTests := true, laidLooks := .later }
def FormRelationsCardSaid : Prop := Claim7.holds Tryz.pinned (.plain (OpenSpec.ofChange formRelationsSpec)) formRelationsCard

/-- THE TIED CARD OF 'commonformlaw01.FormGraphs'. -/
def formGraphsCard : Claim7 := { stood := { row := formGraphsRow, standIns := [], harness := (true, "214dcc89c8821bd8dec40c7b62c99287dc4e1b2fb139103b859cf97e376c3071"), looks := true }, kinds := [], alts := [], laidByText := true, laidKinds := [.data, .data, .data, .data, .sentinel, .sentinel, .pinned], laidTests := true, laidLooks := .later }
def FormGraphsCardSaid : Prop := Claim7.holds Tryz.pinned (.plain (OpenSpec.ofChange formGraphsSpec)) formGraphsCard

/-- THE SECOND FORM's CARD OF 'commonformlaw01.FormNormals'. -/
def formNormalsUptoCard : Claim7 := { stood := { row := formNormalsUptoRow, standIns := [], harness := (true, "214dcc89c8821bd8dec40c7b62c99287dc4e1b2fb139103b859cf97e376c3071"), looks := true }, kinds := [], alts := [], laidByText := true, laidKinds := [.data, .data, .data, .data, .sentinel, .sentinel, .pinned], laidTests := true, laidLooks := .later }
def FormNormalsUptoCardSaid : Prop := Claim7.holds Tryz.pinned (.plain (OpenSpec.upto formNormalsSpec)) formNormalsUptoCard

/-- THE SECOND FORM's CARD OF 'commonformlaw01.FormSames'. -/
def formSamesUptoCard : Claim7 := { stood := { row := formSamesUptoRow, standIns := [], harness := (true, "214dcc89c8821bd8dec40c7b62c99287dc4e1b2fb139103b859cf97e376c3071"), looks := true }, kinds := [], alts := [], laidByText := true, laidKinds := [.data, .data, .data, .data, .sentinel, .sentinel, .pinned], laidTests := true, laidLooks := .later }
def FormSamesUptoCardSaid : Prop := Claim7.holds Tryz.pinned (.plain (OpenSpec.upto formSamesSpec)) formSamesUptoCard

/-- THE SECOND FORM's CARD OF 'commonformlaw01.FormChecks'. -/
def formChecksUptoCard : Claim7 := { stood := { row := formChecksUptoRow, standIns := [], harness := (true, "214dcc89c8821bd8dec40c7b62c99287dc4e1b2fb139103b859cf97e376c3071"), looks := true }, kinds := [], alts := [], laidByText := true, laidKinds := [.data, .data, .data, .data, .sentinel, .sentinel, .pinned], laidTests := true, laidLooks := .later }
def FormChecksUptoCardSaid : Prop := Claim7.holds Tryz.pinned (.plain (OpenSpec.upto formChecksSpec)) formChecksUptoCard

/-- THE SECOND FORM's CARD OF 'commonformlaw01.FormSpreads'. -/
def formSpreadsUptoCard : Claim7 := { stood := { row := formSpreadsUptoRow, standIns := [], harness := (true, "214dcc89c8821bd8dec40c7b62c99287dc4e1b2fb139103b859cf97e376c3071"), looks := true }, kinds := [], alts := [], laidByText := true, laidKinds := [.data, .data, .data, .data, .sentinel, .sentinel, .pinned], laidTests := true, laidLooks := .later }
def FormSpreadsUptoCardSaid : Prop := Claim7.holds Tryz.pinned (.plain (OpenSpec.upto formSpreadsSpec)) formSpreadsUptoCard

/-- THE SECOND FORM's CARD OF 'commonformlaw01.FormLists'. -/
def formListsUptoCard : Claim7 := { stood := { row := formListsUptoRow, standIns := [], harness := (true, "214dcc89c8821bd8dec40c7b62c99287dc4e1b2fb139103b859cf97e376c3071"), looks := true }, kinds := [], alts := [], laidByText := true, laidKinds := [.data, .data, .data, .data, .sentinel, .sentinel, .pinned], laidTests := true, laidLooks := .later }
def FormListsUptoCardSaid : Prop := Claim7.holds Tryz.pinned (.plain (OpenSpec.upto formListsSpec)) formListsUptoCard

/-- THE SECOND FORM's CARD OF 'commonformlaw01.FormNodes'. -/
def formNodesUptoCard : Claim7 := { stood := { row := formNodesUptoRow, standIns := [], harness := (true, "214dcc89c8821bd8dec40c7b62c99287dc4e1b2fb139103b859cf97e376c3071"), looks := true }, kinds := [], alts := [], laidByText := true, laidKinds := [.data, .data, .data, .data, .sentinel, .sentinel, .pinned], laidTests := true, laidLooks := .later }
def FormNodesUptoCardSaid : Prop := Claim7.holds Tryz.pinned (.plain (OpenSpec.upto formNodesSpec)) formNodesUptoCard

/-- THE SECOND FORM's CARD OF 'commonformlaw01.FormRelations'. -/
def formRelationsUptoCard : Claim7 := { stood := { row := formRelationsUptoRow, standIns := [], harness := (true, "214dcc89c8821bd8dec40c7b62c99287dc4e1b2fb139103b859cf97e376c3071"), looks := true }, kinds := [], alts := [], laidByText := true, laidKinds := [.data, .data, .data, .data, .sentinel, .sentinel, .pinned], laidTests := true, laidLooks := .later }
def FormRelationsUptoCardSaid : Prop := Claim7.holds Tryz.pinned (.plain (OpenSpec.upto formRelationsSpec)) formRelationsUptoCard

/-- THE SECOND FORM's CARD OF 'commonformlaw01.FormGraphs'. -/
def formGraphsUptoCard : Claim7 := { stood := { row := formGraphsUptoRow, standIns := [], harness := (true, "214dcc89c8821bd8dec40c7b62c99287dc4e1b2fb139103b859cf97e376c3071"), looks := true }, kinds := [], alts := [], laidByText := true, laidKinds := [.data, .data, .data, .data, .sentinel, .sentinel, .pinned], laidTests := true, laidLooks := .later }
def FormGraphsUptoCardSaid : Prop := Claim7.holds Tryz.pinned (.plain (OpenSpec.upto formGraphsSpec)) formGraphsUptoCard
end Rows
end Go.Proofs.YtpdgbhjhodhkiaaGreatDoor
