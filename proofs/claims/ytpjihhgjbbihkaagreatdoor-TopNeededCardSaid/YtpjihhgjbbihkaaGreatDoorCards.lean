/-
  DERIVED. GIVEN WITH THE SEED: THE CARDS: each row of YtpjihhgjbbihkaaGreatDoorRows.lean that lists a variable, with what it lists TIED to the program's text (the seventh form; the later family's looks); each row that meets fmt, with fmt's text TOLD by the authors' own Lean function (tested against real Go, not proved from fmt's source: count such statements apart). THE CARD IS WHAT COUNTS. Prove the row's statement (the work); the ties are given (YtpjihhgjbbihkaaGreatDoorTie.lean); close each card by the builder's one call (the guide's Derived/Test/ToyasCard.lean, 'card_holds'). Laid BY PROGRAM, IN A SANDBOX (cutbox-door.mjs). By AI agents, Wed Nov 11 2026. No macro, syntax, notation, axiom, sorry.
-/
import Derived.Test.YtpjihhgjbbihkaaGreatDoorRows
import GoSem.ClaimSeven
namespace Go.Proofs.YtpjihhgjbbihkaaGreatDoor
namespace Rows

/-- THE TIED CARD OF 'drawknifetop.TopCovers'. -/
def topCoversCard : Claim7 := { stood := { row := topCoversRow, standIns := [], harness := (true, "28a9c630e3cce05e69cf30783867131db578b3b0b47e3b3e008352cde311b633"), looks := true }, kinds := [], alts := [], laidByText := true, laidKinds := [.data, .data, .data, .data, .sentinel, .sentinel, .pinned], laidTests := true, laidLooks := .later }
def TopCoversCardSaid : Prop := Claim7.holds Tryz.pinned (.plain (OpenSpec.ofChange topCoversSpec)) topCoversCard

/-- THE TIED CARD OF 'drawknifetop.TopFewest'. -/
def topFewestCard : Claim7 := { stood := { row := topFewestRow, standIns := [], harness := (true, "28a9c630e3cce05e69cf30783867131db578b3b0b47e3b3e008352cde311b633"), looks := true }, kinds := [], alts := [], laidByText := true, laidKinds := [.data, .data, .data, .data, .sentinel, .sentinel, .pinned], laidTests := true, laidLooks := .later }
def TopFewestCardSaid : Prop := Claim7.holds Tryz.pinned (.plain (OpenSpec.ofChange topFewestSpec)) topFewestCard

/-- THE TIED CARD OF 'drawknifetop.TopNeeded'. -/
def topNeededCard : Claim7 := { stood := { row := topNeededRow, standIns := [], harness := (true, "28a9c630e3cce05e69cf30783867131db578b3b0b47e3b3e008352cde311b633"), looks := true }, kinds := [], alts := [], laidByText := true, laidKinds := [.data, .data, .data, .data, .sentinel, .sentinel, .pinned], laidTests := true, laidLooks := .later }
def TopNeededCardSaid : Prop := Claim7.holds Tryz.pinned (.plain (OpenSpec.ofChange topNeededSpec)) topNeededCard

/-- THE SECOND FORM's CARD OF 'drawknifetop.TopCovers'. -/
def topCoversUptoCard : Claim7 := { stood := { row := topCoversUptoRow, standIns := [], harness := (true, "28a9c630e3cce05e69cf30783867131db578b3b0b47e3b3e008352cde311b633"), looks := true }, kinds := [], alts := [], laidByText := true, laidKinds := [.data, .data, .data, .data, .sentinel, .sentinel, .pinned], laidTests := true, laidLooks := .later }
def TopCoversUptoCardSaid : Prop := Claim7.holds Tryz.pinned (.plain (OpenSpec.upto topCoversSpec)) topCoversUptoCard

/-- THE SECOND FORM's CARD OF 'drawknifetop.TopFewest'. -/
def topFewestUptoCard : Claim7 := { stood := { row := topFewestUptoRow, standIns := [], harness := (true, "28a9c630e3cce05e69cf30783867131db578b3b0b47e3b3e008352cde311b633"), looks := true }, kinds := [], alts := [], laidByText := true, laidKinds := [.data, .data, .data, .data, .sentinel, .sentinel, .pinned], laidTests := true, laidLooks := .later }
def TopFewestUptoCardSaid : Prop := Claim7.holds Tryz.pinned (.plain (OpenSpec.upto topFewestSpec)) topFewestUptoCard

/-- THE SECOND FORM's CARD OF 'drawknifetop.TopNeeded'. -/
def topNeededUptoCard : Claim7 := { stood := { row := topNeededUptoRow, standIns := [], harness := (true, "28a9c630e3cce05e69cf30783867131db578b3b0b47e3b3e008352cde311b633"), looks := true }, kinds := [], alts := [], laidByText := true, laidKinds := [.data, .data, .data, .data, .sentinel, .sentinel, .pinned], laidTests := true, laidLooks := .later }
def TopNeededUptoCardSaid : Prop := Claim7.holds Tryz.pinned (.plain (OpenSpec.upto topNeededSpec)) topNeededUptoCard
end Rows
end Go.Proofs.YtpjihhgjbbihkaaGreatDoor
