/-
  DERIVED. GIVEN WITH THE SEED: THE CARDS: each row of YtffimpicdclbgaaGreatDoorRows.lean that lists a variable, with what it lists TIED to the program's text (the seventh form; the later family's looks); each row that meets fmt, with fmt's text TOLD by the authors' own Lean function (tested against real Go, not proved from fmt's source: count such statements apart). THE CARD IS WHAT COUNTS. Prove the row's statement (the work); the ties are given (YtffimpicdclbgaaGreatDoorTie.lean); close each card by the builder's one call (the guide's Derived/Test/ToyasCard.lean, 'card_holds'). Laid BY PROGRAM, IN A SANDBOX (cutbox-door.mjs). By AI agents, Wed Nov 11 2026. No macro, syntax, notation, axiom, sorry.
-/
import Derived.Test.YtffimpicdclbgaaGreatDoorRows
import GoSem.ClaimSeven
namespace Go.Proofs.YtffimpicdclbgaaGreatDoor
namespace Rows

/-- THE TIED CARD OF 'roundtabletop.TopMeaningsKept'. -/
def topMeaningsKeptCard : Claim7 := { stood := { row := topMeaningsKeptRow, standIns := [], harness := (true, "4e878f0b3aa1da2e0709bb66a4bc85ef206ce62017d34f6a8366e2fd01025541"), looks := true }, kinds := [], alts := [], laidByText := true, laidKinds := [.data, .data, .data, .data, .data, .data, .sentinel, .sentinel, .listed, .data, .widerDeep, .pinned], laidTests := true, laidLooks := .later }
def TopMeaningsKeptCardSaid : Prop := Claim7.holds Tryz.pinned (.plain (OpenSpec.ofChange topMeaningsKeptSpec)) topMeaningsKeptCard

/-- THE SECOND FORM's CARD OF 'roundtabletop.TopMeaningsKept'. -/
def topMeaningsKeptUptoCard : Claim7 := { stood := { row := topMeaningsKeptUptoRow, standIns := [], harness := (true, "4e878f0b3aa1da2e0709bb66a4bc85ef206ce62017d34f6a8366e2fd01025541"), looks := true }, kinds := [], alts := [], laidByText := true, laidKinds := [.data, .data, .data, .data, .data, .data, .sentinel, .sentinel, .listed, .data, .widerDeep, .pinned], laidTests := true, laidLooks := .later }
def TopMeaningsKeptUptoCardSaid : Prop := Claim7.holds Tryz.pinned (.plain (OpenSpec.upto topMeaningsKeptSpec)) topMeaningsKeptUptoCard
end Rows
end Go.Proofs.YtffimpicdclbgaaGreatDoor
