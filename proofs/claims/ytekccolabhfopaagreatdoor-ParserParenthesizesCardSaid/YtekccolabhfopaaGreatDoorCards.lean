/-
  DERIVED. GIVEN WITH THE SEED: THE CARDS: each row of YtekccolabhfopaaGreatDoorRows.lean that lists a variable, with what it lists TIED to the program's text (the seventh form; the later family's looks); each row that meets fmt, with fmt's text TOLD by the authors' own Lean function (tested against real Go, not proved from fmt's source: count such statements apart). THE CARD IS WHAT COUNTS. Prove the row's statement (the work); the ties are given (YtekccolabhfopaaGreatDoorTie.lean); close each card by the builder's one call (the guide's Derived/Test/ToyasCard.lean, 'card_holds'). Laid BY PROGRAM, IN A SANDBOX (cutbox-door.mjs). By AI agents, Wed Nov 11 2026. No macro, syntax, notation, axiom, sorry.
-/
import Derived.Test.YtekccolabhfopaaGreatDoorRows
import GoSem.ClaimSeven
namespace Go.Proofs.YtekccolabhfopaaGreatDoor
namespace Rows

/-- THE TIED CARD OF 'roundtablelaw08.ParserParses'. -/
def parserParsesCard : Claim7 := { stood := { row := parserParsesRow, standIns := [], harness := (true, "3f2920de18c6adfcca6bb1646097c4d6ec30eb07ce92d82357ba72f71a1d2aa9"), looks := true }, kinds := [], alts := [], laidByText := true, laidKinds := [.data, .data, .data, .data, .sentinel, .sentinel, .listed, .data, .widerDeep, .pinned], laidTests := true, laidLooks := .later }
def ParserParsesCardSaid : Prop := Claim7.holds Tryz.pinned (.plain (OpenSpec.ofChange parserParsesSpec)) parserParsesCard

/-- THE TIED CARD OF 'roundtablelaw08.ParserConds'. -/
def parserCondsCard : Claim7 := { stood := { row := parserCondsRow, standIns := [], harness := (true, "3f2920de18c6adfcca6bb1646097c4d6ec30eb07ce92d82357ba72f71a1d2aa9"), looks := true }, kinds := [], alts := [], laidByText := true, laidKinds := [.data, .data, .data, .data, .sentinel, .sentinel, .listed, .data, .widerDeep, .pinned], laidTests := true, laidLooks := .later }
def ParserCondsCardSaid : Prop := Claim7.holds Tryz.pinned (.plain (OpenSpec.ofChange parserCondsSpec)) parserCondsCard

/-- THE TIED CARD OF 'roundtablelaw08.ParserSchemes'. -/
def parserSchemesCard : Claim7 := { stood := { row := parserSchemesRow, standIns := [], harness := (true, "3f2920de18c6adfcca6bb1646097c4d6ec30eb07ce92d82357ba72f71a1d2aa9"), looks := true }, kinds := [], alts := [], laidByText := true, laidKinds := [.data, .data, .data, .data, .sentinel, .sentinel, .listed, .data, .widerDeep, .pinned], laidTests := true, laidLooks := .later }
def ParserSchemesCardSaid : Prop := Claim7.holds Tryz.pinned (.plain (OpenSpec.ofChange parserSchemesSpec)) parserSchemesCard

/-- THE TIED CARD OF 'roundtablelaw08.ParserFormulas'. -/
def parserFormulasCard : Claim7 := { stood := { row := parserFormulasRow, standIns := [], harness := (true, "3f2920de18c6adfcca6bb1646097c4d6ec30eb07ce92d82357ba72f71a1d2aa9"), looks := true }, kinds := [], alts := [], laidByText := true, laidKinds := [.data, .data, .data, .data, .sentinel, .sentinel, .listed, .data, .widerDeep, .pinned], laidTests := true, laidLooks := .later }
def ParserFormulasCardSaid : Prop := Claim7.holds Tryz.pinned (.plain (OpenSpec.ofChange parserFormulasSpec)) parserFormulasCard

/-- THE TIED CARD OF 'roundtablelaw08.ParserSpaces'. -/
def parserSpacesCard : Claim7 := { stood := { row := parserSpacesRow, standIns := [], harness := (true, "3f2920de18c6adfcca6bb1646097c4d6ec30eb07ce92d82357ba72f71a1d2aa9"), looks := true }, kinds := [], alts := [], laidByText := true, laidKinds := [.data, .data, .data, .data, .sentinel, .sentinel, .listed, .data, .widerDeep, .pinned], laidTests := true, laidLooks := .later }
def ParserSpacesCardSaid : Prop := Claim7.holds Tryz.pinned (.plain (OpenSpec.ofChange parserSpacesSpec)) parserSpacesCard

/-- THE TIED CARD OF 'roundtablelaw08.ParserOrders'. -/
def parserOrdersCard : Claim7 := { stood := { row := parserOrdersRow, standIns := [], harness := (true, "3f2920de18c6adfcca6bb1646097c4d6ec30eb07ce92d82357ba72f71a1d2aa9"), looks := true }, kinds := [], alts := [], laidByText := true, laidKinds := [.data, .data, .data, .data, .sentinel, .sentinel, .listed, .data, .widerDeep, .pinned], laidTests := true, laidLooks := .later }
def ParserOrdersCardSaid : Prop := Claim7.holds Tryz.pinned (.plain (OpenSpec.ofChange parserOrdersSpec)) parserOrdersCard

/-- THE TIED CARD OF 'roundtablelaw08.ParserEmbeds'. -/
def parserEmbedsCard : Claim7 := { stood := { row := parserEmbedsRow, standIns := [], harness := (true, "3f2920de18c6adfcca6bb1646097c4d6ec30eb07ce92d82357ba72f71a1d2aa9"), looks := true }, kinds := [], alts := [], laidByText := true, laidKinds := [.data, .data, .data, .data, .sentinel, .sentinel, .listed, .data, .widerDeep, .pinned], laidTests := true, laidLooks := .later }
def ParserEmbedsCardSaid : Prop := Claim7.holds Tryz.pinned (.plain (OpenSpec.ofChange parserEmbedsSpec)) parserEmbedsCard

/-- THE TIED CARD OF 'roundtablelaw08.ParserParenthesizes'. -/
def parserParenthesizesCard : Claim7 := { stood := { row := parserParenthesizesRow, standIns := [], harness := (true, "3f2920de18c6adfcca6bb1646097c4d6ec30eb07ce92d82357ba72f71a1d2aa9"), looks := true }, kinds := [], alts := [], laidByText := true, laidKinds := [.data, .data, .data, .data, .sentinel, .sentinel, .listed, .data, .widerDeep, .pinned], laidTests := true, laidLooks := .later }
def ParserParenthesizesCardSaid : Prop := Claim7.holds Tryz.pinned (.plain (OpenSpec.ofChange parserParenthesizesSpec)) parserParenthesizesCard

/-- THE SECOND FORM's CARD OF 'roundtablelaw08.ParserParses'. -/
def parserParsesUptoCard : Claim7 := { stood := { row := parserParsesUptoRow, standIns := [], harness := (true, "3f2920de18c6adfcca6bb1646097c4d6ec30eb07ce92d82357ba72f71a1d2aa9"), looks := true }, kinds := [], alts := [], laidByText := true, laidKinds := [.data, .data, .data, .data, .sentinel, .sentinel, .listed, .data, .widerDeep, .pinned], laidTests := true, laidLooks := .later }
def ParserParsesUptoCardSaid : Prop := Claim7.holds Tryz.pinned (.plain (OpenSpec.upto parserParsesSpec)) parserParsesUptoCard

/-- THE SECOND FORM's CARD OF 'roundtablelaw08.ParserConds'. -/
def parserCondsUptoCard : Claim7 := { stood := { row := parserCondsUptoRow, standIns := [], harness := (true, "3f2920de18c6adfcca6bb1646097c4d6ec30eb07ce92d82357ba72f71a1d2aa9"), looks := true }, kinds := [], alts := [], laidByText := true, laidKinds := [.data, .data, .data, .data, .sentinel, .sentinel, .listed, .data, .widerDeep, .pinned], laidTests := true, laidLooks := .later }
def ParserCondsUptoCardSaid : Prop := Claim7.holds Tryz.pinned (.plain (OpenSpec.upto parserCondsSpec)) parserCondsUptoCard

/-- THE SECOND FORM's CARD OF 'roundtablelaw08.ParserSchemes'. -/
def parserSchemesUptoCard : Claim7 := { stood := { row := parserSchemesUptoRow, standIns := [], harness := (true, "3f2920de18c6adfcca6bb1646097c4d6ec30eb07ce92d82357ba72f71a1d2aa9"), looks := true }, kinds := [], alts := [], laidByText := true, laidKinds := [.data, .data, .data, .data, .sentinel, .sentinel, .listed, .data, .widerDeep, .pinned], laidTests := true, laidLooks := .later }
def ParserSchemesUptoCardSaid : Prop := Claim7.holds Tryz.pinned (.plain (OpenSpec.upto parserSchemesSpec)) parserSchemesUptoCard

/-- THE SECOND FORM's CARD OF 'roundtablelaw08.ParserFormulas'. -/
def parserFormulasUptoCard : Claim7 := { stood := { row := parserFormulasUptoRow, standIns := [], harness := (true, "3f2920de18c6adfcca6bb1646097c4d6ec30eb07ce92d82357ba72f71a1d2aa9"), looks := true }, kinds := [], alts := [], laidByText := true, laidKinds := [.data, .data, .data, .data, .sentinel, .sentinel, .listed, .data, .widerDeep, .pinned], laidTests := true, laidLooks := .later }
def ParserFormulasUptoCardSaid : Prop := Claim7.holds Tryz.pinned (.plain (OpenSpec.upto parserFormulasSpec)) parserFormulasUptoCard

/-- THE SECOND FORM's CARD OF 'roundtablelaw08.ParserSpaces'. -/
def parserSpacesUptoCard : Claim7 := { stood := { row := parserSpacesUptoRow, standIns := [], harness := (true, "3f2920de18c6adfcca6bb1646097c4d6ec30eb07ce92d82357ba72f71a1d2aa9"), looks := true }, kinds := [], alts := [], laidByText := true, laidKinds := [.data, .data, .data, .data, .sentinel, .sentinel, .listed, .data, .widerDeep, .pinned], laidTests := true, laidLooks := .later }
def ParserSpacesUptoCardSaid : Prop := Claim7.holds Tryz.pinned (.plain (OpenSpec.upto parserSpacesSpec)) parserSpacesUptoCard

/-- THE SECOND FORM's CARD OF 'roundtablelaw08.ParserOrders'. -/
def parserOrdersUptoCard : Claim7 := { stood := { row := parserOrdersUptoRow, standIns := [], harness := (true, "3f2920de18c6adfcca6bb1646097c4d6ec30eb07ce92d82357ba72f71a1d2aa9"), looks := true }, kinds := [], alts := [], laidByText := true, laidKinds := [.data, .data, .data, .data, .sentinel, .sentinel, .listed, .data, .widerDeep, .pinned], laidTests := true, laidLooks := .later }
def ParserOrdersUptoCardSaid : Prop := Claim7.holds Tryz.pinned (.plain (OpenSpec.upto parserOrdersSpec)) parserOrdersUptoCard

/-- THE SECOND FORM's CARD OF 'roundtablelaw08.ParserEmbeds'. -/
def parserEmbedsUptoCard : Claim7 := { stood := { row := parserEmbedsUptoRow, standIns := [], harness := (true, "3f2920de18c6adfcca6bb1646097c4d6ec30eb07ce92d82357ba72f71a1d2aa9"), looks := true }, kinds := [], alts := [], laidByText := true, laidKinds := [.data, .data, .data, .data, .sentinel, .sentinel, .listed, .data, .widerDeep, .pinned], laidTests := true, laidLooks := .later }
def ParserEmbedsUptoCardSaid : Prop := Claim7.holds Tryz.pinned (.plain (OpenSpec.upto parserEmbedsSpec)) parserEmbedsUptoCard

/-- THE SECOND FORM's CARD OF 'roundtablelaw08.ParserParenthesizes'. -/
def parserParenthesizesUptoCard : Claim7 := { stood := { row := parserParenthesizesUptoRow, standIns := [], harness := (true, "3f2920de18c6adfcca6bb1646097c4d6ec30eb07ce92d82357ba72f71a1d2aa9"), looks := true }, kinds := [], alts := [], laidByText := true, laidKinds := [.data, .data, .data, .data, .sentinel, .sentinel, .listed, .data, .widerDeep, .pinned], laidTests := true, laidLooks := .later }
def ParserParenthesizesUptoCardSaid : Prop := Claim7.holds Tryz.pinned (.plain (OpenSpec.upto parserParenthesizesSpec)) parserParenthesizesUptoCard
end Rows
end Go.Proofs.YtekccolabhfopaaGreatDoor
