/-
  DERIVED. GIVEN WITH THE SEED: THE CARDS: each row of YtagjpbcmhaekpaaDoorRows.lean that lists a variable, with what it lists TIED to the program's text (the seventh form; the later family's looks); each row that meets fmt, with fmt's text TOLD by the authors' own Lean function (tested against real Go, not proved from fmt's source: count such statements apart). THE CARD IS WHAT COUNTS. Prove the row's statement (the work); the ties are given (YtagjpbcmhaekpaaDoorTie.lean); close each card by the builder's one call (the guide's Derived/Test/ToyasCard.lean, 'card_holds'). Laid BY PROGRAM, IN A SANDBOX (cutbox-door.mjs). By AI agents, Wed Nov 11 2026. No macro, syntax, notation, axiom, sorry.
-/
import Derived.Test.YtagjpbcmhaekpaaDoorRows
import GoSem.ClaimSeven
namespace Go.Proofs.YtagjpbcmhaekpaaDoor
namespace Rows

/-- THE TIED CARD OF 'rescriptlaw16.SingleBack'. -/
def singleBackCard : Claim7 := { stood := { row := singleBackRow, standIns := [], harness := (true, "577f572ac97b3727c9205605550700b55e4ee87d8e54d18d0c1762d98a76082c"), looks := true }, kinds := [], alts := [], laidByText := true, laidKinds := [.data, .pinned], laidTests := true, laidLooks := .later }
def SingleBackCardSaid : Prop := Claim7.holds Tryd.pinned (.plain (OpenSpec.ofChange singleBackSpec)) singleBackCard

/-- THE TIED CARD OF 'rescriptlaw16.SingleOnly'. -/
def singleOnlyCard : Claim7 := { stood := { row := singleOnlyRow, standIns := [], harness := (true, "577f572ac97b3727c9205605550700b55e4ee87d8e54d18d0c1762d98a76082c"), looks := true }, kinds := [], alts := [], laidByText := true, laidKinds := [.data, .pinned], laidTests := true, laidLooks := .later }
def SingleOnlyCardSaid : Prop := Claim7.holds Tryd.pinned (.plain (OpenSpec.ofChange singleOnlySpec)) singleOnlyCard

/-- THE TIED CARD OF 'rescriptlaw16.SingleTxs'. -/
def singleTxsCard : Claim7 := { stood := { row := singleTxsRow, standIns := [], harness := (true, "577f572ac97b3727c9205605550700b55e4ee87d8e54d18d0c1762d98a76082c"), looks := true }, kinds := [], alts := [], laidByText := true, laidKinds := [.data, .pinned], laidTests := true, laidLooks := .later }
def SingleTxsCardSaid : Prop := Claim7.holds Tryd.pinned (.plain (OpenSpec.ofChange singleTxsSpec)) singleTxsCard

/-- THE SECOND FORM's CARD OF 'rescriptlaw16.SingleBack'. -/
def singleBackUptoCard : Claim7 := { stood := { row := singleBackUptoRow, standIns := [], harness := (true, "577f572ac97b3727c9205605550700b55e4ee87d8e54d18d0c1762d98a76082c"), looks := true }, kinds := [], alts := [], laidByText := true, laidKinds := [.data, .pinned], laidTests := true, laidLooks := .later }
def SingleBackUptoCardSaid : Prop := Claim7.holds Tryd.pinned (.plain (OpenSpec.upto singleBackSpec)) singleBackUptoCard

/-- THE SECOND FORM's CARD OF 'rescriptlaw16.SingleOnly'. -/
def singleOnlyUptoCard : Claim7 := { stood := { row := singleOnlyUptoRow, standIns := [], harness := (true, "577f572ac97b3727c9205605550700b55e4ee87d8e54d18d0c1762d98a76082c"), looks := true }, kinds := [], alts := [], laidByText := true, laidKinds := [.data, .pinned], laidTests := true, laidLooks := .later }
def SingleOnlyUptoCardSaid : Prop := Claim7.holds Tryd.pinned (.plain (OpenSpec.upto singleOnlySpec)) singleOnlyUptoCard

/-- THE SECOND FORM's CARD OF 'rescriptlaw16.SingleTxs'. -/
def singleTxsUptoCard : Claim7 := { stood := { row := singleTxsUptoRow, standIns := [], harness := (true, "577f572ac97b3727c9205605550700b55e4ee87d8e54d18d0c1762d98a76082c"), looks := true }, kinds := [], alts := [], laidByText := true, laidKinds := [.data, .pinned], laidTests := true, laidLooks := .later }
def SingleTxsUptoCardSaid : Prop := Claim7.holds Tryd.pinned (.plain (OpenSpec.upto singleTxsSpec)) singleTxsUptoCard
end Rows
end Go.Proofs.YtagjpbcmhaekpaaDoor
