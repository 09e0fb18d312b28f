/-
  DERIVED. GIVEN WITH THE SEED: THE CARDS: each row of YtpnchcbbiboabaaGreatDoorRows.lean that lists a variable, with what it lists TIED to the program's text (the seventh form; the later family's looks); each row that meets fmt, with fmt's text TOLD by the authors' own Lean function (tested against real Go, not proved from fmt's source: count such statements apart). THE CARD IS WHAT COUNTS. Prove the row's statement (the work); the ties are given (YtpnchcbbiboabaaGreatDoorTie.lean); close each card by the builder's one call (the guide's Derived/Test/ToyasCard.lean, 'card_holds'). Laid BY PROGRAM, IN A SANDBOX (cutbox-door.mjs). By AI agents, Wed Nov 11 2026. No macro, syntax, notation, axiom, sorry.
-/
import Derived.Test.YtpnchcbbiboabaaGreatDoorRows
import GoSem.ClaimSeven
namespace Go.Proofs.YtpnchcbbiboabaaGreatDoor
namespace Rows

/-- THE TIED CARD OF 'syntagmlaw20.SpansAt'. -/
def spansAtCard : Claim7 := { stood := { row := spansAtRow, standIns := [], harness := (true, "ac8ed403b7d173b9cb1db54a88700ae12d5d143ddab8ebb6db56ec0b2a775d44"), looks := true }, kinds := [], alts := [], laidByText := true, laidKinds := [.data, .data, .data], laidTests := true, laidLooks := .later }
def SpansAtCardSaid : Prop := Claim7.holds Tryz.pinned (.plain (OpenSpec.ofChange spansAtSpec)) spansAtCard

/-- THE TIED CARD OF 'syntagmlaw20.SpansAbove'. -/
def spansAboveCard : Claim7 := { stood := { row := spansAboveRow, standIns := [], harness := (true, "ac8ed403b7d173b9cb1db54a88700ae12d5d143ddab8ebb6db56ec0b2a775d44"), looks := true }, kinds := [], alts := [], laidByText := true, laidKinds := [.data, .data, .data], laidTests := true, laidLooks := .later }
def SpansAboveCardSaid : Prop := Claim7.holds Tryz.pinned (.plain (OpenSpec.ofChange spansAboveSpec)) spansAboveCard

/-- THE SECOND FORM's CARD OF 'syntagmlaw20.SpansAt'. -/
def spansAtUptoCard : Claim7 := { stood := { row := spansAtUptoRow, standIns := [], harness := (true, "ac8ed403b7d173b9cb1db54a88700ae12d5d143ddab8ebb6db56ec0b2a775d44"), looks := true }, kinds := [], alts := [], laidByText := true, laidKinds := [.data, .data, .data], laidTests := true, laidLooks := .later }
def SpansAtUptoCardSaid : Prop := Claim7.holds Tryz.pinned (.plain (OpenSpec.upto spansAtSpec)) spansAtUptoCard

/-- THE SECOND FORM's CARD OF 'syntagmlaw20.SpansAbove'. -/
def spansAboveUptoCard : Claim7 := { stood := { row := spansAboveUptoRow, standIns := [], harness := (true, "ac8ed403b7d173b9cb1db54a88700ae12d5d143ddab8ebb6db56ec0b2a775d44"), looks := true }, kinds := [], alts := [], laidByText := true, laidKinds := [.data, .data, .data], laidTests := true, laidLooks := .later }
def SpansAboveUptoCardSaid : Prop := Claim7.holds Tryz.pinned (.plain (OpenSpec.upto spansAboveSpec)) spansAboveUptoCard
end Rows
end Go.Proofs.YtpnchcbbiboabaaGreatDoor
