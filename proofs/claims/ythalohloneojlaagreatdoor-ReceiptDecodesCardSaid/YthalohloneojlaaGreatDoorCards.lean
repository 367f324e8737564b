/-
  DERIVED. GIVEN WITH THE SEED: THE CARDS: each row of YthalohloneojlaaGreatDoorRows.lean that lists a variable, with what it lists TIED to the program's text (the seventh form; the later family's looks); each row that meets fmt, with fmt's text TOLD by the authors' own Lean function (tested against real Go, not proved from fmt's source: count such statements apart). THE CARD IS WHAT COUNTS. Prove the row's statement (the work); the ties are given (YthalohloneojlaaGreatDoorTie.lean); close each card by the builder's one call (the guide's Derived/Test/ToyasCard.lean, 'card_holds'). Laid BY PROGRAM, IN A SANDBOX (cutbox-door.mjs). By AI agents, Wed Nov 11 2026. No macro, syntax, notation, axiom, sorry.
-/
import Derived.Test.YthalohloneojlaaGreatDoorRows
import GoSem.ClaimSeven
namespace Go.Proofs.YthalohloneojlaaGreatDoor
namespace Rows

/-- THE TIED CARD OF 'rescriptlaw11.ReceiptEncodes'. -/
def receiptEncodesCard : Claim7 := { stood := { row := receiptEncodesRow, standIns := [], harness := (true, "32f0c82e4a485508105f3e7dfe17f07145061ae44263fb46d55df774076fccdd"), looks := true }, kinds := [], alts := [], laidByText := true, laidKinds := [.data, .handle, .pinned], laidTests := true, laidLooks := .later }
def ReceiptEncodesCardSaid : Prop := Claim7.holds Tryz.pinned (.plain (OpenSpec.ofChange receiptEncodesSpec)) receiptEncodesCard

/-- THE TIED CARD OF 'rescriptlaw11.ReceiptDecodes'. -/
def receiptDecodesCard : Claim7 := { stood := { row := receiptDecodesRow, standIns := [], harness := (true, "32f0c82e4a485508105f3e7dfe17f07145061ae44263fb46d55df774076fccdd"), looks := true }, kinds := [], alts := [], laidByText := true, laidKinds := [.data, .handle, .pinned], laidTests := true, laidLooks := .later }
def ReceiptDecodesCardSaid : Prop := Claim7.holds Tryz.pinned (.plain (OpenSpec.ofChange receiptDecodesSpec)) receiptDecodesCard

/-- THE TIED CARD OF 'rescriptlaw11.ReceiptBack'. -/
def receiptBackCard : Claim7 := { stood := { row := receiptBackRow, standIns := [], harness := (true, "32f0c82e4a485508105f3e7dfe17f07145061ae44263fb46d55df774076fccdd"), looks := true }, kinds := [], alts := [], laidByText := true, laidKinds := [.data, .handle, .pinned], laidTests := true, laidLooks := .later }
def ReceiptBackCardSaid : Prop := Claim7.holds Tryz.pinned (.plain (OpenSpec.ofChange receiptBackSpec)) receiptBackCard

/-- THE TIED CARD OF 'rescriptlaw11.ReceiptOnly'. -/
def receiptOnlyCard : Claim7 := { stood := { row := receiptOnlyRow, standIns := [], harness := (true, "32f0c82e4a485508105f3e7dfe17f07145061ae44263fb46d55df774076fccdd"), looks := true }, kinds := [], alts := [], laidByText := true, laidKinds := [.data, .handle, .pinned], laidTests := true, laidLooks := .later }
def ReceiptOnlyCardSaid : Prop := Claim7.holds Tryz.pinned (.plain (OpenSpec.ofChange receiptOnlySpec)) receiptOnlyCard

/-- THE TIED CARD OF 'rescriptlaw11.ReceiptForms'. -/
def receiptFormsCard : Claim7 := { stood := { row := receiptFormsRow, standIns := [], harness := (true, "32f0c82e4a485508105f3e7dfe17f07145061ae44263fb46d55df774076fccdd"), looks := true }, kinds := [], alts := [], laidByText := true, laidKinds := [.data, .handle, .pinned], laidTests := true, laidLooks := .later }
def ReceiptFormsCardSaid : Prop := Claim7.holds Tryz.pinned (.plain (OpenSpec.ofChange receiptFormsSpec)) receiptFormsCard

/-- THE SECOND FORM's CARD OF 'rescriptlaw11.ReceiptEncodes'. -/
def receiptEncodesUptoCard : Claim7 := { stood := { row := receiptEncodesUptoRow, standIns := [], harness := (true, "32f0c82e4a485508105f3e7dfe17f07145061ae44263fb46d55df774076fccdd"), looks := true }, kinds := [], alts := [], laidByText := true, laidKinds := [.data, .handle, .pinned], laidTests := true, laidLooks := .later }
def ReceiptEncodesUptoCardSaid : Prop := Claim7.holds Tryz.pinned (.plain (OpenSpec.upto receiptEncodesSpec)) receiptEncodesUptoCard

/-- THE SECOND FORM's CARD OF 'rescriptlaw11.ReceiptDecodes'. -/
def receiptDecodesUptoCard : Claim7 := { stood := { row := receiptDecodesUptoRow, standIns := [], harness := (true, "32f0c82e4a485508105f3e7dfe17f07145061ae44263fb46d55df774076fccdd"), looks := true }, kinds := [], alts := [], laidByText := true, laidKinds := [.data, .handle, .pinned], laidTests := true, laidLooks := .later }
def ReceiptDecodesUptoCardSaid : Prop := Claim7.holds Tryz.pinned (.plain (OpenSpec.upto receiptDecodesSpec)) receiptDecodesUptoCard

/-- THE SECOND FORM's CARD OF 'rescriptlaw11.ReceiptBack'. -/
def receiptBackUptoCard : Claim7 := { stood := { row := receiptBackUptoRow, standIns := [], harness := (true, "32f0c82e4a485508105f3e7dfe17f07145061ae44263fb46d55df774076fccdd"), looks := true }, kinds := [], alts := [], laidByText := true, laidKinds := [.data, .handle, .pinned], laidTests := true, laidLooks := .later }
def ReceiptBackUptoCardSaid : Prop := Claim7.holds Tryz.pinned (.plain (OpenSpec.upto receiptBackSpec)) receiptBackUptoCard

/-- THE SECOND FORM's CARD OF 'rescriptlaw11.ReceiptOnly'. -/
def receiptOnlyUptoCard : Claim7 := { stood := { row := receiptOnlyUptoRow, standIns := [], harness := (true, "32f0c82e4a485508105f3e7dfe17f07145061ae44263fb46d55df774076fccdd"), looks := true }, kinds := [], alts := [], laidByText := true, laidKinds := [.data, .handle, .pinned], laidTests := true, laidLooks := .later }
def ReceiptOnlyUptoCardSaid : Prop := Claim7.holds Tryz.pinned (.plain (OpenSpec.upto receiptOnlySpec)) receiptOnlyUptoCard

/-- THE SECOND FORM's CARD OF 'rescriptlaw11.ReceiptForms'. -/
def receiptFormsUptoCard : Claim7 := { stood := { row := receiptFormsUptoRow, standIns := [], harness := (true, "32f0c82e4a485508105f3e7dfe17f07145061ae44263fb46d55df774076fccdd"), looks := true }, kinds := [], alts := [], laidByText := true, laidKinds := [.data, .handle, .pinned], laidTests := true, laidLooks := .later }
def ReceiptFormsUptoCardSaid : Prop := Claim7.holds Tryz.pinned (.plain (OpenSpec.upto receiptFormsSpec)) receiptFormsUptoCard
end Rows
end Go.Proofs.YthalohloneojlaaGreatDoor
