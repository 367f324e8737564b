/-
  DERIVED. GIVEN WITH THE SEED: THE CARDS: each row of YthbeigcbmalldaaDoorRows.lean that lists a variable, with what it lists TIED to the program's text (the seventh form; the later family's looks); each row that meets fmt, with fmt's text TOLD by the authors' own Lean function (tested against real Go, not proved from fmt's source: count such statements apart). THE CARD IS WHAT COUNTS. Prove the row's statement (the work); the ties are given (YthbeigcbmalldaaDoorTie.lean); close each card by the builder's one call (the guide's Derived/Test/ToyasCard.lean, 'card_holds'). Laid BY PROGRAM, IN A SANDBOX (cutbox-door.mjs). By AI agents, Wed Nov 11 2026. No macro, syntax, notation, axiom, sorry.
-/
import Derived.Test.YthbeigcbmalldaaDoorRows
import GoSem.ClaimSeven
namespace Go.Proofs.YthbeigcbmalldaaDoor
namespace Rows

/-- THE TIED CARD OF 'rescriptlaw05.UnrlpCut'. -/
def unrlpCutCard : Claim7 := { stood := { row := unrlpCutRow, standIns := [], harness := (true, "ba6c6338b91b808a6b2c8b45bd6fa23763468d6ae305fe9022970b50048c24a9"), looks := true }, kinds := [], alts := [], laidByText := true, laidKinds := [.data, .pinned], laidTests := true, laidLooks := .later }
def UnrlpCutCardSaid : Prop := Claim7.holds Tryd.pinned (.plain (OpenSpec.ofChange unrlpCutSpec)) unrlpCutCard

/-- THE TIED CARD OF 'rescriptlaw05.UnrlpBack'. -/
def unrlpBackCard : Claim7 := { stood := { row := unrlpBackRow, standIns := [], harness := (true, "ba6c6338b91b808a6b2c8b45bd6fa23763468d6ae305fe9022970b50048c24a9"), looks := true }, kinds := [], alts := [], laidByText := true, laidKinds := [.data, .pinned], laidTests := true, laidLooks := .later }
def UnrlpBackCardSaid : Prop := Claim7.holds Tryd.pinned (.plain (OpenSpec.ofChange unrlpBackSpec)) unrlpBackCard

/-- THE TIED CARD OF 'rescriptlaw05.UnrlpOnly'. -/
def unrlpOnlyCard : Claim7 := { stood := { row := unrlpOnlyRow, standIns := [], harness := (true, "ba6c6338b91b808a6b2c8b45bd6fa23763468d6ae305fe9022970b50048c24a9"), looks := true }, kinds := [], alts := [], laidByText := true, laidKinds := [.data, .pinned], laidTests := true, laidLooks := .later }
def UnrlpOnlyCardSaid : Prop := Claim7.holds Tryd.pinned (.plain (OpenSpec.ofChange unrlpOnlySpec)) unrlpOnlyCard

/-- THE SECOND FORM's CARD OF 'rescriptlaw05.UnrlpCut'. -/
def unrlpCutUptoCard : Claim7 := { stood := { row := unrlpCutUptoRow, standIns := [], harness := (true, "ba6c6338b91b808a6b2c8b45bd6fa23763468d6ae305fe9022970b50048c24a9"), looks := true }, kinds := [], alts := [], laidByText := true, laidKinds := [.data, .pinned], laidTests := true, laidLooks := .later }
def UnrlpCutUptoCardSaid : Prop := Claim7.holds Tryd.pinned (.plain (OpenSpec.upto unrlpCutSpec)) unrlpCutUptoCard

/-- THE SECOND FORM's CARD OF 'rescriptlaw05.UnrlpBack'. -/
def unrlpBackUptoCard : Claim7 := { stood := { row := unrlpBackUptoRow, standIns := [], harness := (true, "ba6c6338b91b808a6b2c8b45bd6fa23763468d6ae305fe9022970b50048c24a9"), looks := true }, kinds := [], alts := [], laidByText := true, laidKinds := [.data, .pinned], laidTests := true, laidLooks := .later }
def UnrlpBackUptoCardSaid : Prop := Claim7.holds Tryd.pinned (.plain (OpenSpec.upto unrlpBackSpec)) unrlpBackUptoCard

/-- THE SECOND FORM's CARD OF 'rescriptlaw05.UnrlpOnly'. -/
def unrlpOnlyUptoCard : Claim7 := { stood := { row := unrlpOnlyUptoRow, standIns := [], harness := (true, "ba6c6338b91b808a6b2c8b45bd6fa23763468d6ae305fe9022970b50048c24a9"), looks := true }, kinds := [], alts := [], laidByText := true, laidKinds := [.data, .pinned], laidTests := true, laidLooks := .later }
def UnrlpOnlyUptoCardSaid : Prop := Claim7.holds Tryd.pinned (.plain (OpenSpec.upto unrlpOnlySpec)) unrlpOnlyUptoCard
end Rows
end Go.Proofs.YthbeigcbmalldaaDoor
