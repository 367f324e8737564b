/-
  DERIVED. GIVEN WITH THE SEED: THE CARDS: each row of YtmlkjackopiekaaDoorRows.lean that lists a variable, with what it lists TIED to the program's text (the seventh form; the later family's looks); each row that meets fmt, with fmt's text TOLD by the authors' own Lean function (tested against real Go, not proved from fmt's source: count such statements apart). THE CARD IS WHAT COUNTS. Prove the row's statement (the work); the ties are given (YtmlkjackopiekaaDoorTie.lean); close each card by the builder's one call (the guide's Derived/Test/ToyasCard.lean, 'card_holds'). Laid BY PROGRAM, IN A SANDBOX (cutbox-door.mjs). By AI agents, Wed Nov 11 2026. No macro, syntax, notation, axiom, sorry.
-/
import Derived.Test.YtmlkjackopiekaaDoorRows
import GoSem.ClaimSeven
namespace Go.Proofs.YtmlkjackopiekaaDoor
namespace Rows

/-- THE TIED CARD OF 'rescriptlaw06.FieldWrites'. -/
def fieldWritesCard : Claim7 := { stood := { row := fieldWritesRow, standIns := [], harness := (true, "89f284584bc07ec99053142b409d13d0ea40d27d789f2852d187f096f95ce78a"), looks := true }, kinds := [], alts := [], laidByText := true, laidKinds := [.data, .pinned], laidTests := true, laidLooks := .later }
def FieldWritesCardSaid : Prop := Claim7.holds Tryd.pinned (.plain (OpenSpec.ofChange fieldWritesSpec)) fieldWritesCard

/-- THE TIED CARD OF 'rescriptlaw06.FieldBack'. -/
def fieldBackCard : Claim7 := { stood := { row := fieldBackRow, standIns := [], harness := (true, "89f284584bc07ec99053142b409d13d0ea40d27d789f2852d187f096f95ce78a"), looks := true }, kinds := [], alts := [], laidByText := true, laidKinds := [.data, .pinned], laidTests := true, laidLooks := .later }
def FieldBackCardSaid : Prop := Claim7.holds Tryd.pinned (.plain (OpenSpec.ofChange fieldBackSpec)) fieldBackCard

/-- THE TIED CARD OF 'rescriptlaw06.FieldOnly'. -/
def fieldOnlyCard : Claim7 := { stood := { row := fieldOnlyRow, standIns := [], harness := (true, "89f284584bc07ec99053142b409d13d0ea40d27d789f2852d187f096f95ce78a"), looks := true }, kinds := [], alts := [], laidByText := true, laidKinds := [.data, .pinned], laidTests := true, laidLooks := .later }
def FieldOnlyCardSaid : Prop := Claim7.holds Tryd.pinned (.plain (OpenSpec.ofChange fieldOnlySpec)) fieldOnlyCard

/-- THE SECOND FORM's CARD OF 'rescriptlaw06.FieldWrites'. -/
def fieldWritesUptoCard : Claim7 := { stood := { row := fieldWritesUptoRow, standIns := [], harness := (true, "89f284584bc07ec99053142b409d13d0ea40d27d789f2852d187f096f95ce78a"), looks := true }, kinds := [], alts := [], laidByText := true, laidKinds := [.data, .pinned], laidTests := true, laidLooks := .later }
def FieldWritesUptoCardSaid : Prop := Claim7.holds Tryd.pinned (.plain (OpenSpec.upto fieldWritesSpec)) fieldWritesUptoCard

/-- THE SECOND FORM's CARD OF 'rescriptlaw06.FieldBack'. -/
def fieldBackUptoCard : Claim7 := { stood := { row := fieldBackUptoRow, standIns := [], harness := (true, "89f284584bc07ec99053142b409d13d0ea40d27d789f2852d187f096f95ce78a"), looks := true }, kinds := [], alts := [], laidByText := true, laidKinds := [.data, .pinned], laidTests := true, laidLooks := .later }
def FieldBackUptoCardSaid : Prop := Claim7.holds Tryd.pinned (.plain (OpenSpec.upto fieldBackSpec)) fieldBackUptoCard

/-- THE SECOND FORM's CARD OF 'rescriptlaw06.FieldOnly'. -/
def fieldOnlyUptoCard : Claim7 := { stood := { row := fieldOnlyUptoRow, standIns := [], harness := (true, "89f284584bc07ec99053142b409d13d0ea40d27d789f2852d187f096f95ce78a"), looks := true }, kinds := [], alts := [], laidByText := true, laidKinds := [.data, .pinned], laidTests := true, laidLooks := .later }
def FieldOnlyUptoCardSaid : Prop := Claim7.holds Tryd.pinned (.plain (OpenSpec.upto fieldOnlySpec)) fieldOnlyUptoCard
end Rows
end Go.Proofs.YtmlkjackopiekaaDoor
