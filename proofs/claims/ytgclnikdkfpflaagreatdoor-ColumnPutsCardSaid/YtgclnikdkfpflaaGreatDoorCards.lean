/-
  DERIVED. GIVEN WITH THE SEED: THE CARDS: each row of YtgclnikdkfpflaaGreatDoorRows.lean that lists a variable, with what it lists TIED to the program's text (the seventh form; the later family's looks); each row that meets fmt, with fmt's text TOLD by the authors' own Lean function (tested against real Go, not proved from fmt's source: count such statements apart). THE CARD IS WHAT COUNTS. Prove the row's statement (the work); the ties are given (YtgclnikdkfpflaaGreatDoorTie.lean); close each card by the builder's one call (the guide's Derived/Test/ToyasCard.lean, 'card_holds'). Laid BY PROGRAM, IN A SANDBOX (cutbox-door.mjs). By AI agents, Wed Nov 11 2026. No macro, syntax, notation, axiom, sorry.
-/
import Derived.Test.YtgclnikdkfpflaaGreatDoorRows
import GoSem.ClaimSeven
namespace Go.Proofs.YtgclnikdkfpflaaGreatDoor
namespace Rows

/-- THE TIED CARD OF 'rescriptlaw18.ColumnPuts'. -/
def columnPutsCard : Claim7 := { stood := { row := columnPutsRow, standIns := [], harness := (true, "cdcac51e9cf9ac902831dd46c87b67c1765c8ef63d8591d5a2e458c71feda536"), looks := true }, kinds := [], alts := [], laidByText := true, laidKinds := [.data, .pinned], laidTests := true, laidLooks := .later }
def ColumnPutsCardSaid : Prop := Claim7.holds Tryz.pinned (.plain (OpenSpec.ofChange columnPutsSpec)) columnPutsCard

/-- THE TIED CARD OF 'rescriptlaw18.ColumnGets'. -/
def columnGetsCard : Claim7 := { stood := { row := columnGetsRow, standIns := [], harness := (true, "cdcac51e9cf9ac902831dd46c87b67c1765c8ef63d8591d5a2e458c71feda536"), looks := true }, kinds := [], alts := [], laidByText := true, laidKinds := [.data, .pinned], laidTests := true, laidLooks := .later }
def ColumnGetsCardSaid : Prop := Claim7.holds Tryz.pinned (.plain (OpenSpec.ofChange columnGetsSpec)) columnGetsCard

/-- THE TIED CARD OF 'rescriptlaw18.ColumnBack'. -/
def columnBackCard : Claim7 := { stood := { row := columnBackRow, standIns := [], harness := (true, "cdcac51e9cf9ac902831dd46c87b67c1765c8ef63d8591d5a2e458c71feda536"), looks := true }, kinds := [], alts := [], laidByText := true, laidKinds := [.data, .pinned], laidTests := true, laidLooks := .later }
def ColumnBackCardSaid : Prop := Claim7.holds Tryz.pinned (.plain (OpenSpec.ofChange columnBackSpec)) columnBackCard

/-- THE TIED CARD OF 'rescriptlaw18.ColumnOnly'. -/
def columnOnlyCard : Claim7 := { stood := { row := columnOnlyRow, standIns := [], harness := (true, "cdcac51e9cf9ac902831dd46c87b67c1765c8ef63d8591d5a2e458c71feda536"), looks := true }, kinds := [], alts := [], laidByText := true, laidKinds := [.data, .pinned], laidTests := true, laidLooks := .later }
def ColumnOnlyCardSaid : Prop := Claim7.holds Tryz.pinned (.plain (OpenSpec.ofChange columnOnlySpec)) columnOnlyCard

/-- THE TIED CARD OF 'rescriptlaw18.ColumnEach'. -/
def columnEachCard : Claim7 := { stood := { row := columnEachRow, standIns := [], harness := (true, "cdcac51e9cf9ac902831dd46c87b67c1765c8ef63d8591d5a2e458c71feda536"), looks := true }, kinds := [], alts := [], laidByText := true, laidKinds := [.data, .pinned], laidTests := true, laidLooks := .later }
def ColumnEachCardSaid : Prop := Claim7.holds Tryz.pinned (.plain (OpenSpec.ofChange columnEachSpec)) columnEachCard

/-- THE SECOND FORM's CARD OF 'rescriptlaw18.ColumnPuts'. -/
def columnPutsUptoCard : Claim7 := { stood := { row := columnPutsUptoRow, standIns := [], harness := (true, "cdcac51e9cf9ac902831dd46c87b67c1765c8ef63d8591d5a2e458c71feda536"), looks := true }, kinds := [], alts := [], laidByText := true, laidKinds := [.data, .pinned], laidTests := true, laidLooks := .later }
def ColumnPutsUptoCardSaid : Prop := Claim7.holds Tryz.pinned (.plain (OpenSpec.upto columnPutsSpec)) columnPutsUptoCard

/-- THE SECOND FORM's CARD OF 'rescriptlaw18.ColumnGets'. -/
def columnGetsUptoCard : Claim7 := { stood := { row := columnGetsUptoRow, standIns := [], harness := (true, "cdcac51e9cf9ac902831dd46c87b67c1765c8ef63d8591d5a2e458c71feda536"), looks := true }, kinds := [], alts := [], laidByText := true, laidKinds := [.data, .pinned], laidTests := true, laidLooks := .later }
def ColumnGetsUptoCardSaid : Prop := Claim7.holds Tryz.pinned (.plain (OpenSpec.upto columnGetsSpec)) columnGetsUptoCard

/-- THE SECOND FORM's CARD OF 'rescriptlaw18.ColumnBack'. -/
def columnBackUptoCard : Claim7 := { stood := { row := columnBackUptoRow, standIns := [], harness := (true, "cdcac51e9cf9ac902831dd46c87b67c1765c8ef63d8591d5a2e458c71feda536"), looks := true }, kinds := [], alts := [], laidByText := true, laidKinds := [.data, .pinned], laidTests := true, laidLooks := .later }
def ColumnBackUptoCardSaid : Prop := Claim7.holds Tryz.pinned (.plain (OpenSpec.upto columnBackSpec)) columnBackUptoCard

/-- THE SECOND FORM's CARD OF 'rescriptlaw18.ColumnOnly'. -/
def columnOnlyUptoCard : Claim7 := { stood := { row := columnOnlyUptoRow, standIns := [], harness := (true, "cdcac51e9cf9ac902831dd46c87b67c1765c8ef63d8591d5a2e458c71feda536"), looks := true }, kinds := [], alts := [], laidByText := true, laidKinds := [.data, .pinned], laidTests := true, laidLooks := .later }
def ColumnOnlyUptoCardSaid : Prop := Claim7.holds Tryz.pinned (.plain (OpenSpec.upto columnOnlySpec)) columnOnlyUptoCard

/-- THE SECOND FORM's CARD OF 'rescriptlaw18.ColumnEach'. -/
def columnEachUptoCard : Claim7 := { stood := { row := columnEachUptoRow, standIns := [], harness := (true, "cdcac51e9cf9ac902831dd46c87b67c1765c8ef63d8591d5a2e458c71feda536"), looks := true }, kinds := [], alts := [], laidByText := true, laidKinds := [.data, .pinned], laidTests := true, laidLooks := .later }
def ColumnEachUptoCardSaid : Prop := Claim7.holds Tryz.pinned (.plain (OpenSpec.upto columnEachSpec)) columnEachUptoCard
end Rows
end Go.Proofs.YtgclnikdkfpflaaGreatDoor
