/-
  DERIVED. GIVEN WITH THE SEED: THE CARDS: each row of YtakdifceogdioaaGreatDoorRows.lean that lists a variable, with what it lists TIED to the program's text (the seventh form; the later family's looks); each row that meets fmt, with fmt's text TOLD by the authors' own Lean function (tested against real Go, not proved from fmt's source: count such statements apart). THE CARD IS WHAT COUNTS. Prove the row's statement (the work); the ties are given (YtakdifceogdioaaGreatDoorTie.lean); close each card by the builder's one call (the guide's Derived/Test/ToyasCard.lean, 'card_holds'). Laid BY PROGRAM, IN A SANDBOX (cutbox-door.mjs). By AI agents, Wed Nov 11 2026. No macro, syntax, notation, axiom, sorry.
-/
import Derived.Test.YtakdifceogdioaaGreatDoorRows
import GoSem.ClaimSeven
namespace Go.Proofs.YtakdifceogdioaaGreatDoor
namespace Rows

/-- THE TIED CARD OF 'roundtablelaw35.FormulaChecks'. -/
def formulaChecksCard : Claim7 := { stood := { row := formulaChecksRow, standIns := [], harness := (true, "9c1dd7ffbbf93a748e772027250bb4bf0b9b79e9b6d1715c91e4037a842a7486"), looks := true }, kinds := [], alts := [], laidByText := true, laidKinds := [.data, .data, .data, .data, .sentinel, .sentinel, .listed, .data, .widerDeep, .data, .pinned], laidTests := true, laidLooks := .later }
def FormulaChecksCardSaid : Prop := Claim7.holds Tryz.pinned (.plain (OpenSpec.ofChange formulaChecksSpec)) formulaChecksCard

/-- THE TIED CARD OF 'roundtablelaw35.FormulaNormals'. -/
def formulaNormalsCard : Claim7 := { stood := { row := formulaNormalsRow, standIns := [], harness := (true, "9c1dd7ffbbf93a748e772027250bb4bf0b9b79e9b6d1715c91e4037a842a7486"), looks := true }, kinds := [], alts := [], laidByText := true, laidKinds := [.data, .data, .data, .data, .sentinel, .sentinel, .listed, .data, .widerDeep, .data, .pinned], laidTests := true, laidLooks := .later }
def FormulaNormalsCardSaid : Prop := Claim7.holds Tryz.pinned (.plain (OpenSpec.ofChange formulaNormalsSpec)) formulaNormalsCard

/-- THE TIED CARD OF 'roundtablelaw35.FormulaPermutes'. -/
def formulaPermutesCard : Claim7 := { stood := { row := formulaPermutesRow, standIns := [], harness := (true, "9c1dd7ffbbf93a748e772027250bb4bf0b9b79e9b6d1715c91e4037a842a7486"), looks := true }, kinds := [], alts := [], laidByText := true, laidKinds := [.data, .data, .data, .data, .sentinel, .sentinel, .listed, .data, .widerDeep, .data, .pinned], laidTests := true, laidLooks := .later }
def FormulaPermutesCardSaid : Prop := Claim7.holds Tryz.pinned (.plain (OpenSpec.ofChange formulaPermutesSpec)) formulaPermutesCard

/-- THE TIED CARD OF 'roundtablelaw35.FormulaParses'. -/
def formulaParsesCard : Claim7 := { stood := { row := formulaParsesRow, standIns := [], harness := (true, "9c1dd7ffbbf93a748e772027250bb4bf0b9b79e9b6d1715c91e4037a842a7486"), looks := true }, kinds := [], alts := [], laidByText := true, laidKinds := [.data, .data, .data, .data, .sentinel, .sentinel, .listed, .data, .widerDeep, .data, .pinned], laidTests := true, laidLooks := .later }
def FormulaParsesCardSaid : Prop := Claim7.holds Tryz.pinned (.plain (OpenSpec.ofChange formulaParsesSpec)) formulaParsesCard

/-- THE TIED CARD OF 'roundtablelaw35.FormulaReturns'. -/
def formulaReturnsCard : Claim7 := { stood := { row := formulaReturnsRow, standIns := [], harness := (true, "9c1dd7ffbbf93a748e772027250bb4bf0b9b79e9b6d1715c91e4037a842a7486"), looks := true }, kinds := [], alts := [], laidByText := true, laidKinds := [.data, .data, .data, .data, .sentinel, .sentinel, .listed, .data, .widerDeep, .data, .pinned], laidTests := true, laidLooks := .later }
def FormulaReturnsCardSaid : Prop := Claim7.holds Tryz.pinned (.plain (OpenSpec.ofChange formulaReturnsSpec)) formulaReturnsCard

/-- THE TIED CARD OF 'roundtablelaw35.FormulaSettles'. -/
def formulaSettlesCard : Claim7 := { stood := { row := formulaSettlesRow, standIns := [], harness := (true, "9c1dd7ffbbf93a748e772027250bb4bf0b9b79e9b6d1715c91e4037a842a7486"), looks := true }, kinds := [], alts := [], laidByText := true, laidKinds := [.data, .data, .data, .data, .sentinel, .sentinel, .listed, .data, .widerDeep, .data, .pinned], laidTests := true, laidLooks := .later }
def FormulaSettlesCardSaid : Prop := Claim7.holds Tryz.pinned (.plain (OpenSpec.ofChange formulaSettlesSpec)) formulaSettlesCard

/-- THE TIED CARD OF 'roundtablelaw35.FormulaParts'. -/
def formulaPartsCard : Claim7 := { stood := { row := formulaPartsRow, standIns := [], harness := (true, "9c1dd7ffbbf93a748e772027250bb4bf0b9b79e9b6d1715c91e4037a842a7486"), looks := true }, kinds := [], alts := [], laidByText := true, laidKinds := [.data, .data, .data, .data, .sentinel, .sentinel, .listed, .data, .widerDeep, .data, .pinned], laidTests := true, laidLooks := .later }
def FormulaPartsCardSaid : Prop := Claim7.holds Tryz.pinned (.plain (OpenSpec.ofChange formulaPartsSpec)) formulaPartsCard

/-- THE TIED CARD OF 'roundtablelaw35.FormulaActs'. -/
def formulaActsCard : Claim7 := { stood := { row := formulaActsRow, standIns := [], harness := (true, "9c1dd7ffbbf93a748e772027250bb4bf0b9b79e9b6d1715c91e4037a842a7486"), looks := true }, kinds := [], alts := [], laidByText := true, laidKinds := [.data, .data, .data, .data, .sentinel, .sentinel, .listed, .data, .widerDeep, .data, .pinned], laidTests := true, laidLooks := .later }
def FormulaActsCardSaid : Prop := Claim7.holds Tryz.pinned (.plain (OpenSpec.ofChange formulaActsSpec)) formulaActsCard

/-- THE SECOND FORM's CARD OF 'roundtablelaw35.FormulaChecks'. -/
def formulaChecksUptoCard : Claim7 := { stood := { row := formulaChecksUptoRow, standIns := [], harness := (true, "9c1dd7ffbbf93a748e772027250bb4bf0b9b79e9b6d1715c91e4037a842a7486"), looks := true }, kinds := [], alts := [], laidByText := true, laidKinds := [.data, .data, .data, .data, .sentinel, .sentinel, .listed, .data, .widerDeep, .data, .pinned], laidTests := true, laidLooks := .later }
def FormulaChecksUptoCardSaid : Prop := Claim7.holds Tryz.pinned (.plain (OpenSpec.upto formulaChecksSpec)) formulaChecksUptoCard

/-- THE SECOND FORM's CARD OF 'roundtablelaw35.FormulaNormals'. -/
def formulaNormalsUptoCard : Claim7 := { stood := { row := formulaNormalsUptoRow, standIns := [], harness := (true, "9c1dd7ffbbf93a748e772027250bb4bf0b9b79e9b6d1715c91e4037a842a7486"), looks := true }, kinds := [], alts := [], laidByText := true, laidKinds := [.data, .data, .data, .data, .sentinel, .sentinel, .listed, .data, .widerDeep, .data, .pinned], laidTests := true, laidLooks := .later }
def FormulaNormalsUptoCardSaid : Prop := Claim7.holds Tryz.pinned (.plain (OpenSpec.upto formulaNormalsSpec)) formulaNormalsUptoCard

/-- THE SECOND FORM's CARD OF 'roundtablelaw35.FormulaPermutes'. -/
def formulaPermutesUptoCard : Claim7 := { stood := { row := formulaPermutesUptoRow, standIns := [], harness := (true, "9c1dd7ffbbf93a748e772027250bb4bf0b9b79e9b6d1715c91e4037a842a7486"), looks := true }, kinds := [], alts := [], laidByText := true, laidKinds := [.data, .data, .data, .data, .sentinel, .sentinel, .listed, .data, .widerDeep, .data, .pinned], laidTests := true, laidLooks := .later }
def FormulaPermutesUptoCardSaid : Prop := Claim7.holds Tryz.pinned (.plain (OpenSpec.upto formulaPermutesSpec)) formulaPermutesUptoCard

/-- THE SECOND FORM's CARD OF 'roundtablelaw35.FormulaParses'. -/
def formulaParsesUptoCard : Claim7 := { stood := { row := formulaParsesUptoRow, standIns := [], harness := (true, "9c1dd7ffbbf93a748e772027250bb4bf0b9b79e9b6d1715c91e4037a842a7486"), looks := true }, kinds := [], alts := [], laidByText := true, laidKinds := [.data, .data, .data, .data, .sentinel, .sentinel, .listed, .data, .widerDeep, .data, .pinned], laidTests := true, laidLooks := .later }
def FormulaParsesUptoCardSaid : Prop := Claim7.holds Tryz.pinned (.plain (OpenSpec.upto formulaParsesSpec)) formulaParsesUptoCard

/-- THE SECOND FORM's CARD OF 'roundtablelaw35.FormulaReturns'. -/
def formulaReturnsUptoCard : Claim7 := { stood := { row := formulaReturnsUptoRow, standIns := [], harness := (true, "9c1dd7ffbbf93a748e772027250bb4bf0b9b79e9b6d1715c91e4037a842a7486"), looks := true }, kinds := [], alts := [], laidByText := true, laidKinds := [.data, .data, .data, .data, .sentinel, .sentinel, .listed, .data, .widerDeep, .data, .pinned], laidTests := true, laidLooks := .later }
def FormulaReturnsUptoCardSaid : Prop := Claim7.holds Tryz.pinned (.plain (OpenSpec.upto formulaReturnsSpec)) formulaReturnsUptoCard

/-- THE SECOND FORM's CARD OF 'roundtablelaw35.FormulaSettles'. -/
def formulaSettlesUptoCard : Claim7 := { stood := { row := formulaSettlesUptoRow, standIns := [], harness := (true, "9c1dd7ffbbf93a748e772027250bb4bf0b9b79e9b6d1715c91e4037a842a7486"), looks := true }, kinds := [], alts := [], laidByText := true, laidKinds := [.data, .data, .data, .data, .sentinel, .sentinel, .listed, .data, .widerDeep, .data, .pinned], laidTests := true, laidLooks := .later }
def FormulaSettlesUptoCardSaid : Prop := Claim7.holds Tryz.pinned (.plain (OpenSpec.upto formulaSettlesSpec)) formulaSettlesUptoCard

/-- THE SECOND FORM's CARD OF 'roundtablelaw35.FormulaParts'. -/
def formulaPartsUptoCard : Claim7 := { stood := { row := formulaPartsUptoRow, standIns := [], harness := (true, "9c1dd7ffbbf93a748e772027250bb4bf0b9b79e9b6d1715c91e4037a842a7486"), looks := true }, kinds := [], alts := [], laidByText := true, laidKinds := [.data, .data, .data, .data, .sentinel, .sentinel, .listed, .data, .widerDeep, .data, .pinned], laidTests := true, laidLooks := .later }
def FormulaPartsUptoCardSaid : Prop := Claim7.holds Tryz.pinned (.plain (OpenSpec.upto formulaPartsSpec)) formulaPartsUptoCard

/-- THE SECOND FORM's CARD OF 'roundtablelaw35.FormulaActs'. -/
def formulaActsUptoCard : Claim7 := { stood := { row := formulaActsUptoRow, standIns := [], harness := (true, "9c1dd7ffbbf93a748e772027250bb4bf0b9b79e9b6d1715c91e4037a842a7486"), looks := true }, kinds := [], alts := [], laidByText := true, laidKinds := [.data, .data, .data, .data, .sentinel, .sentinel, .listed, .data, .widerDeep, .data, .pinned], laidTests := true, laidLooks := .later }
def FormulaActsUptoCardSaid : Prop := Claim7.holds Tryz.pinned (.plain (OpenSpec.upto formulaActsSpec)) formulaActsUptoCard
end Rows
end Go.Proofs.YtakdifceogdioaaGreatDoor
