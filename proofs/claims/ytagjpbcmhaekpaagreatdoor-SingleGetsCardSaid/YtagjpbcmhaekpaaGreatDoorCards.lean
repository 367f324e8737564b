/-
  DERIVED. GIVEN WITH THE SEED: THE CARDS: each row of YtagjpbcmhaekpaaGreatDoorRows.lean that lists a variable, with what it lists TIED to the program's text (the seventh form; the later family's looks); each row that meets fmt, with fmt's text TOLD by the authors' own Lean function (tested against real Go, not proved from fmt's source: count such statements apart). THE CARD IS WHAT COUNTS. Prove the row's statement (the work); the ties are given (YtagjpbcmhaekpaaGreatDoorTie.lean); close each card by the builder's one call (the guide's Derived/Test/ToyasCard.lean, 'card_holds'). Laid BY PROGRAM, IN A SANDBOX (cutbox-door.mjs). By AI agents, Wed Nov 11 2026. No macro, syntax, notation, axiom, sorry.
-/
import Derived.Test.YtagjpbcmhaekpaaGreatDoorRows
import GoSem.ClaimSeven
namespace Go.Proofs.YtagjpbcmhaekpaaGreatDoor
namespace Rows

/-- THE TIED CARD OF 'rescriptlaw16.SinglePuts'. -/
def singlePutsCard : Claim7 := { stood := { row := singlePutsRow, standIns := [], harness := (true, "50df556f8848dda3ec3fb1deffed4328e3866679b27dcb739e3f3060717a9830"), looks := true }, kinds := [], alts := [], laidByText := true, laidKinds := [.data, .pinned], laidTests := true, laidLooks := .later }
def SinglePutsCardSaid : Prop := Claim7.holds Tryz.pinned (.plain (OpenSpec.ofChange singlePutsSpec)) singlePutsCard

/-- THE TIED CARD OF 'rescriptlaw16.SingleGets'. -/
def singleGetsCard : Claim7 := { stood := { row := singleGetsRow, standIns := [], harness := (true, "50df556f8848dda3ec3fb1deffed4328e3866679b27dcb739e3f3060717a9830"), looks := true }, kinds := [], alts := [], laidByText := true, laidKinds := [.data, .pinned], laidTests := true, laidLooks := .later }
def SingleGetsCardSaid : Prop := Claim7.holds Tryz.pinned (.plain (OpenSpec.ofChange singleGetsSpec)) singleGetsCard

/-- THE SECOND FORM's CARD OF 'rescriptlaw16.SinglePuts'. -/
def singlePutsUptoCard : Claim7 := { stood := { row := singlePutsUptoRow, standIns := [], harness := (true, "50df556f8848dda3ec3fb1deffed4328e3866679b27dcb739e3f3060717a9830"), looks := true }, kinds := [], alts := [], laidByText := true, laidKinds := [.data, .pinned], laidTests := true, laidLooks := .later }
def SinglePutsUptoCardSaid : Prop := Claim7.holds Tryz.pinned (.plain (OpenSpec.upto singlePutsSpec)) singlePutsUptoCard

/-- THE SECOND FORM's CARD OF 'rescriptlaw16.SingleGets'. -/
def singleGetsUptoCard : Claim7 := { stood := { row := singleGetsUptoRow, standIns := [], harness := (true, "50df556f8848dda3ec3fb1deffed4328e3866679b27dcb739e3f3060717a9830"), looks := true }, kinds := [], alts := [], laidByText := true, laidKinds := [.data, .pinned], laidTests := true, laidLooks := .later }
def SingleGetsUptoCardSaid : Prop := Claim7.holds Tryz.pinned (.plain (OpenSpec.upto singleGetsSpec)) singleGetsUptoCard
end Rows
end Go.Proofs.YtagjpbcmhaekpaaGreatDoor
