/-
  DERIVED. GIVEN WITH THE SEED: THE CARDS: each row of YtplbfmcgddnkeaaGreatDoorRows.lean that lists a variable, with what it lists TIED to the program's text (the seventh form; the later family's looks); each row that meets fmt, with fmt's text TOLD by the authors' own Lean function (tested against real Go, not proved from fmt's source: count such statements apart). THE CARD IS WHAT COUNTS. Prove the row's statement (the work); the ties are given (YtplbfmcgddnkeaaGreatDoorTie.lean); close each card by the builder's one call (the guide's Derived/Test/ToyasCard.lean, 'card_holds'). Laid BY PROGRAM, IN A SANDBOX (cutbox-door.mjs). By AI agents, Wed Nov 11 2026. No macro, syntax, notation, axiom, sorry.
-/
import Derived.Test.YtplbfmcgddnkeaaGreatDoorRows
import GoSem.ClaimSeven
namespace Go.Proofs.YtplbfmcgddnkeaaGreatDoor
namespace Rows

/-- THE TIED CARD OF 'roundtablelaw09.PrinterConds'. -/
def printerCondsCard : Claim7 := { stood := { row := printerCondsRow, standIns := [], harness := (true, "c1e8db3e15a575ff69e23fc19bb10a43bb15447d35b4252b2581b5b304f03f80"), looks := true }, kinds := [], alts := [], laidByText := true, laidKinds := [.data, .data, .data, .data, .sentinel, .sentinel, .listed, .data, .widerDeep, .pinned], laidTests := true, laidLooks := .later }
def PrinterCondsCardSaid : Prop := Claim7.holds Tryz.pinned (.plain (OpenSpec.ofChange printerCondsSpec)) printerCondsCard

/-- THE TIED CARD OF 'roundtablelaw09.PrinterParts'. -/
def printerPartsCard : Claim7 := { stood := { row := printerPartsRow, standIns := [], harness := (true, "c1e8db3e15a575ff69e23fc19bb10a43bb15447d35b4252b2581b5b304f03f80"), looks := true }, kinds := [], alts := [], laidByText := true, laidKinds := [.data, .data, .data, .data, .sentinel, .sentinel, .listed, .data, .widerDeep, .pinned], laidTests := true, laidLooks := .later }
def PrinterPartsCardSaid : Prop := Claim7.holds Tryz.pinned (.plain (OpenSpec.ofChange printerPartsSpec)) printerPartsCard

/-- THE TIED CARD OF 'roundtablelaw09.PrinterReturns'. -/
def printerReturnsCard : Claim7 := { stood := { row := printerReturnsRow, standIns := [], harness := (true, "c1e8db3e15a575ff69e23fc19bb10a43bb15447d35b4252b2581b5b304f03f80"), looks := true }, kinds := [], alts := [], laidByText := true, laidKinds := [.data, .data, .data, .data, .sentinel, .sentinel, .listed, .data, .widerDeep, .pinned], laidTests := true, laidLooks := .later }
def PrinterReturnsCardSaid : Prop := Claim7.holds Tryz.pinned (.plain (OpenSpec.ofChange printerReturnsSpec)) printerReturnsCard

/-- THE TIED CARD OF 'roundtablelaw09.PrinterSettles'. -/
def printerSettlesCard : Claim7 := { stood := { row := printerSettlesRow, standIns := [], harness := (true, "c1e8db3e15a575ff69e23fc19bb10a43bb15447d35b4252b2581b5b304f03f80"), looks := true }, kinds := [], alts := [], laidByText := true, laidKinds := [.data, .data, .data, .data, .sentinel, .sentinel, .listed, .data, .widerDeep, .pinned], laidTests := true, laidLooks := .later }
def PrinterSettlesCardSaid : Prop := Claim7.holds Tryz.pinned (.plain (OpenSpec.ofChange printerSettlesSpec)) printerSettlesCard

/-- THE TIED CARD OF 'roundtablelaw09.PrinterSpares'. -/
def printerSparesCard : Claim7 := { stood := { row := printerSparesRow, standIns := [], harness := (true, "c1e8db3e15a575ff69e23fc19bb10a43bb15447d35b4252b2581b5b304f03f80"), looks := true }, kinds := [], alts := [], laidByText := true, laidKinds := [.data, .data, .data, .data, .sentinel, .sentinel, .listed, .data, .widerDeep, .pinned], laidTests := true, laidLooks := .later }
def PrinterSparesCardSaid : Prop := Claim7.holds Tryz.pinned (.plain (OpenSpec.ofChange printerSparesSpec)) printerSparesCard

/-- THE TIED CARD OF 'roundtablelaw09.PrinterFormats'. -/
def printerFormatsCard : Claim7 := { stood := { row := printerFormatsRow, standIns := [], harness := (true, "c1e8db3e15a575ff69e23fc19bb10a43bb15447d35b4252b2581b5b304f03f80"), looks := true }, kinds := [], alts := [], laidByText := true, laidKinds := [.data, .data, .data, .data, .sentinel, .sentinel, .listed, .data, .widerDeep, .pinned], laidTests := true, laidLooks := .later }
def PrinterFormatsCardSaid : Prop := Claim7.holds Tryz.pinned (.plain (OpenSpec.ofChange printerFormatsSpec)) printerFormatsCard

/-- THE SECOND FORM's CARD OF 'roundtablelaw09.PrinterConds'. -/
def printerCondsUptoCard : Claim7 := { stood := { row := printerCondsUptoRow, standIns := [], harness := (true, "c1e8db3e15a575ff69e23fc19bb10a43bb15447d35b4252b2581b5b304f03f80"), looks := true }, kinds := [], alts := [], laidByText := true, laidKinds := [.data, .data, .data, .data, .sentinel, .sentinel, .listed, .data, .widerDeep, .pinned], laidTests := true, laidLooks := .later }
def PrinterCondsUptoCardSaid : Prop := Claim7.holds Tryz.pinned (.plain (OpenSpec.upto printerCondsSpec)) printerCondsUptoCard

/-- THE SECOND FORM's CARD OF 'roundtablelaw09.PrinterParts'. -/
def printerPartsUptoCard : Claim7 := { stood := { row := printerPartsUptoRow, standIns := [], harness := (true, "c1e8db3e15a575ff69e23fc19bb10a43bb15447d35b4252b2581b5b304f03f80"), looks := true }, kinds := [], alts := [], laidByText := true, laidKinds := [.data, .data, .data, .data, .sentinel, .sentinel, .listed, .data, .widerDeep, .pinned], laidTests := true, laidLooks := .later }
def PrinterPartsUptoCardSaid : Prop := Claim7.holds Tryz.pinned (.plain (OpenSpec.upto printerPartsSpec)) printerPartsUptoCard

/-- THE SECOND FORM's CARD OF 'roundtablelaw09.PrinterReturns'. -/
def printerReturnsUptoCard : Claim7 := { stood := { row := printerReturnsUptoRow, standIns := [], harness := (true, "c1e8db3e15a575ff69e23fc19bb10a43bb15447d35b4252b2581b5b304f03f80"), looks := true }, kinds := [], alts := [], laidByText := true, laidKinds := [.data, .data, .data, .data, .sentinel, .sentinel, .listed, .data, .widerDeep, .pinned], laidTests := true, laidLooks := .later }
def PrinterReturnsUptoCardSaid : Prop := Claim7.holds Tryz.pinned (.plain (OpenSpec.upto printerReturnsSpec)) printerReturnsUptoCard

/-- THE SECOND FORM's CARD OF 'roundtablelaw09.PrinterSettles'. -/
def printerSettlesUptoCard : Claim7 := { stood := { row := printerSettlesUptoRow, standIns := [], harness := (true, "c1e8db3e15a575ff69e23fc19bb10a43bb15447d35b4252b2581b5b304f03f80"), looks := true }, kinds := [], alts := [], laidByText := true, laidKinds := [.data, .data, .data, .data, .sentinel, .sentinel, .listed, .data, .widerDeep, .pinned], laidTests := true, laidLooks := .later }
def PrinterSettlesUptoCardSaid : Prop := Claim7.holds Tryz.pinned (.plain (OpenSpec.upto printerSettlesSpec)) printerSettlesUptoCard

/-- THE SECOND FORM's CARD OF 'roundtablelaw09.PrinterSpares'. -/
def printerSparesUptoCard : Claim7 := { stood := { row := printerSparesUptoRow, standIns := [], harness := (true, "c1e8db3e15a575ff69e23fc19bb10a43bb15447d35b4252b2581b5b304f03f80"), looks := true }, kinds := [], alts := [], laidByText := true, laidKinds := [.data, .data, .data, .data, .sentinel, .sentinel, .listed, .data, .widerDeep, .pinned], laidTests := true, laidLooks := .later }
def PrinterSparesUptoCardSaid : Prop := Claim7.holds Tryz.pinned (.plain (OpenSpec.upto printerSparesSpec)) printerSparesUptoCard

/-- THE SECOND FORM's CARD OF 'roundtablelaw09.PrinterFormats'. -/
def printerFormatsUptoCard : Claim7 := { stood := { row := printerFormatsUptoRow, standIns := [], harness := (true, "c1e8db3e15a575ff69e23fc19bb10a43bb15447d35b4252b2581b5b304f03f80"), looks := true }, kinds := [], alts := [], laidByText := true, laidKinds := [.data, .data, .data, .data, .sentinel, .sentinel, .listed, .data, .widerDeep, .pinned], laidTests := true, laidLooks := .later }
def PrinterFormatsUptoCardSaid : Prop := Claim7.holds Tryz.pinned (.plain (OpenSpec.upto printerFormatsSpec)) printerFormatsUptoCard
end Rows
end Go.Proofs.YtplbfmcgddnkeaaGreatDoor
