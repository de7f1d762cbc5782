/-
  DERIVED. GIVEN WITH THE SEED: THE CARDS: each row of YtpgedklpnnhjlaaDoorRows.lean that lists a variable, with what it lists TIED to the program's text (the seventh form; the later family's looks); each row that meets fmt, with fmt's text TOLD by the authors' own Lean function (tested against real Go, not proved from fmt's source: count such statements apart). THE CARD IS WHAT COUNTS. Prove the row's statement (the work); the ties are given (YtpgedklpnnhjlaaDoorTie.lean); close each card by the builder's one call (the guide's Derived/Test/ToyasCard.lean, 'card_holds'). Laid BY PROGRAM, IN A SANDBOX (cutbox-door.mjs). By AI agents, Wed Nov 11 2026. No macro, syntax, notation, axiom, sorry.
-/
import Derived.Test.YtpgedklpnnhjlaaDoorRows
import GoSem.ClaimSeven
namespace Go.Proofs.YtpgedklpnnhjlaaDoor
namespace Rows

/-- THE TIED CARD OF 'roundtablelaw06.LexerReturns'. -/
def lexerReturnsCard : Claim7 := { stood := { row := lexerReturnsRow, standIns := [], harness := (true, "86f6cfef83d037c35119b94f3ee91ba61f13cb429d86bbe35c370999f81bb894"), looks := true }, kinds := [], alts := [], laidByText := true, laidKinds := [.data, .data, .data, .data, .sentinel, .sentinel, .listed, .data, .widerDeep, .pinned], laidTests := true, laidLooks := .later }
def LexerReturnsCardSaid : Prop := Claim7.holds Tryd.pinned (.plain (OpenSpec.ofChange lexerReturnsSpec)) lexerReturnsCard

/-- THE TIED CARD OF 'roundtablelaw06.LexerLines'. -/
def lexerLinesCard : Claim7 := { stood := { row := lexerLinesRow, standIns := [], harness := (true, "86f6cfef83d037c35119b94f3ee91ba61f13cb429d86bbe35c370999f81bb894"), looks := true }, kinds := [], alts := [], laidByText := true, laidKinds := [.data, .data, .data, .data, .sentinel, .sentinel, .listed, .data, .widerDeep, .pinned], laidTests := true, laidLooks := .later }
def LexerLinesCardSaid : Prop := Claim7.holds Tryd.pinned (.plain (OpenSpec.ofChange lexerLinesSpec)) lexerLinesCard

/-- THE TIED CARD OF 'roundtablelaw06.LexerStands'. -/
def lexerStandsCard : Claim7 := { stood := { row := lexerStandsRow, standIns := [], harness := (true, "86f6cfef83d037c35119b94f3ee91ba61f13cb429d86bbe35c370999f81bb894"), looks := true }, kinds := [], alts := [], laidByText := true, laidKinds := [.data, .data, .data, .data, .sentinel, .sentinel, .listed, .data, .widerDeep, .pinned], laidTests := true, laidLooks := .later }
def LexerStandsCardSaid : Prop := Claim7.holds Tryd.pinned (.plain (OpenSpec.ofChange lexerStandsSpec)) lexerStandsCard

/-- THE SECOND FORM's CARD OF 'roundtablelaw06.LexerReturns'. -/
def lexerReturnsUptoCard : Claim7 := { stood := { row := lexerReturnsUptoRow, standIns := [], harness := (true, "86f6cfef83d037c35119b94f3ee91ba61f13cb429d86bbe35c370999f81bb894"), looks := true }, kinds := [], alts := [], laidByText := true, laidKinds := [.data, .data, .data, .data, .sentinel, .sentinel, .listed, .data, .widerDeep, .pinned], laidTests := true, laidLooks := .later }
def LexerReturnsUptoCardSaid : Prop := Claim7.holds Tryd.pinned (.plain (OpenSpec.upto lexerReturnsSpec)) lexerReturnsUptoCard

/-- THE SECOND FORM's CARD OF 'roundtablelaw06.LexerLines'. -/
def lexerLinesUptoCard : Claim7 := { stood := { row := lexerLinesUptoRow, standIns := [], harness := (true, "86f6cfef83d037c35119b94f3ee91ba61f13cb429d86bbe35c370999f81bb894"), looks := true }, kinds := [], alts := [], laidByText := true, laidKinds := [.data, .data, .data, .data, .sentinel, .sentinel, .listed, .data, .widerDeep, .pinned], laidTests := true, laidLooks := .later }
def LexerLinesUptoCardSaid : Prop := Claim7.holds Tryd.pinned (.plain (OpenSpec.upto lexerLinesSpec)) lexerLinesUptoCard

/-- THE SECOND FORM's CARD OF 'roundtablelaw06.LexerStands'. -/
def lexerStandsUptoCard : Claim7 := { stood := { row := lexerStandsUptoRow, standIns := [], harness := (true, "86f6cfef83d037c35119b94f3ee91ba61f13cb429d86bbe35c370999f81bb894"), looks := true }, kinds := [], alts := [], laidByText := true, laidKinds := [.data, .data, .data, .data, .sentinel, .sentinel, .listed, .data, .widerDeep, .pinned], laidTests := true, laidLooks := .later }
def LexerStandsUptoCardSaid : Prop := Claim7.holds Tryd.pinned (.plain (OpenSpec.upto lexerStandsSpec)) lexerStandsUptoCard
end Rows
end Go.Proofs.YtpgedklpnnhjlaaDoor
