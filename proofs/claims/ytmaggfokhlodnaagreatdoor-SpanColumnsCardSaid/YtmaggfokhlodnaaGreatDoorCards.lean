/-
  DERIVED. GIVEN WITH THE SEED: THE CARDS: each row of YtmaggfokhlodnaaGreatDoorRows.lean that lists a variable, with what it lists TIED to the program's text (the seventh form; the later family's looks); each row that meets fmt, with fmt's text TOLD by the authors' own Lean function (tested against real Go, not proved from fmt's source: count such statements apart). THE CARD IS WHAT COUNTS. Prove the row's statement (the work); the ties are given (YtmaggfokhlodnaaGreatDoorTie.lean); close each card by the builder's one call (the guide's Derived/Test/ToyasCard.lean, 'card_holds'). Laid BY PROGRAM, IN A SANDBOX (cutbox-door.mjs). By AI agents, Wed Nov 11 2026. No macro, syntax, notation, axiom, sorry.
-/
import Derived.Test.YtmaggfokhlodnaaGreatDoorRows
import GoSem.ClaimSeven
namespace Go.Proofs.YtmaggfokhlodnaaGreatDoor
namespace Rows

/-- THE TIED CARD OF 'rescriptlaw19.SpanPuts'. -/
def spanPutsCard : Claim7 := { stood := { row := spanPutsRow, standIns := [], harness := (true, "3b8b83f81b7bccca080ba38650aef951a3dc4827537fdd39e05b9d9a3dea560f"), looks := true }, kinds := [], alts := [], laidByText := true, laidKinds := [.data, .pinned], laidTests := true, laidLooks := .later }
def SpanPutsCardSaid : Prop := Claim7.holds Tryz.pinned (.plain (OpenSpec.ofChange spanPutsSpec)) spanPutsCard

/-- THE TIED CARD OF 'rescriptlaw19.SpanBack'. -/
def spanBackCard : Claim7 := { stood := { row := spanBackRow, standIns := [], harness := (true, "3b8b83f81b7bccca080ba38650aef951a3dc4827537fdd39e05b9d9a3dea560f"), looks := true }, kinds := [], alts := [], laidByText := true, laidKinds := [.data, .pinned], laidTests := true, laidLooks := .later }
def SpanBackCardSaid : Prop := Claim7.holds Tryz.pinned (.plain (OpenSpec.ofChange spanBackSpec)) spanBackCard

/-- THE TIED CARD OF 'rescriptlaw19.SpanOnly'. -/
def spanOnlyCard : Claim7 := { stood := { row := spanOnlyRow, standIns := [], harness := (true, "3b8b83f81b7bccca080ba38650aef951a3dc4827537fdd39e05b9d9a3dea560f"), looks := true }, kinds := [], alts := [], laidByText := true, laidKinds := [.data, .pinned], laidTests := true, laidLooks := .later }
def SpanOnlyCardSaid : Prop := Claim7.holds Tryz.pinned (.plain (OpenSpec.ofChange spanOnlySpec)) spanOnlyCard

/-- THE TIED CARD OF 'rescriptlaw19.SpanColumns'. -/
def spanColumnsCard : Claim7 := { stood := { row := spanColumnsRow, standIns := [], harness := (true, "3b8b83f81b7bccca080ba38650aef951a3dc4827537fdd39e05b9d9a3dea560f"), looks := true }, kinds := [], alts := [], laidByText := true, laidKinds := [.data, .pinned], laidTests := true, laidLooks := .later }
def SpanColumnsCardSaid : Prop := Claim7.holds Tryz.pinned (.plain (OpenSpec.ofChange spanColumnsSpec)) spanColumnsCard

/-- THE SECOND FORM's CARD OF 'rescriptlaw19.SpanPuts'. -/
def spanPutsUptoCard : Claim7 := { stood := { row := spanPutsUptoRow, standIns := [], harness := (true, "3b8b83f81b7bccca080ba38650aef951a3dc4827537fdd39e05b9d9a3dea560f"), looks := true }, kinds := [], alts := [], laidByText := true, laidKinds := [.data, .pinned], laidTests := true, laidLooks := .later }
def SpanPutsUptoCardSaid : Prop := Claim7.holds Tryz.pinned (.plain (OpenSpec.upto spanPutsSpec)) spanPutsUptoCard

/-- THE SECOND FORM's CARD OF 'rescriptlaw19.SpanBack'. -/
def spanBackUptoCard : Claim7 := { stood := { row := spanBackUptoRow, standIns := [], harness := (true, "3b8b83f81b7bccca080ba38650aef951a3dc4827537fdd39e05b9d9a3dea560f"), looks := true }, kinds := [], alts := [], laidByText := true, laidKinds := [.data, .pinned], laidTests := true, laidLooks := .later }
def SpanBackUptoCardSaid : Prop := Claim7.holds Tryz.pinned (.plain (OpenSpec.upto spanBackSpec)) spanBackUptoCard

/-- THE SECOND FORM's CARD OF 'rescriptlaw19.SpanOnly'. -/
def spanOnlyUptoCard : Claim7 := { stood := { row := spanOnlyUptoRow, standIns := [], harness := (true, "3b8b83f81b7bccca080ba38650aef951a3dc4827537fdd39e05b9d9a3dea560f"), looks := true }, kinds := [], alts := [], laidByText := true, laidKinds := [.data, .pinned], laidTests := true, laidLooks := .later }
def SpanOnlyUptoCardSaid : Prop := Claim7.holds Tryz.pinned (.plain (OpenSpec.upto spanOnlySpec)) spanOnlyUptoCard

/-- THE SECOND FORM's CARD OF 'rescriptlaw19.SpanColumns'. -/
def spanColumnsUptoCard : Claim7 := { stood := { row := spanColumnsUptoRow, standIns := [], harness := (true, "3b8b83f81b7bccca080ba38650aef951a3dc4827537fdd39e05b9d9a3dea560f"), looks := true }, kinds := [], alts := [], laidByText := true, laidKinds := [.data, .pinned], laidTests := true, laidLooks := .later }
def SpanColumnsUptoCardSaid : Prop := Claim7.holds Tryz.pinned (.plain (OpenSpec.upto spanColumnsSpec)) spanColumnsUptoCard
end Rows
end Go.Proofs.YtmaggfokhlodnaaGreatDoor
