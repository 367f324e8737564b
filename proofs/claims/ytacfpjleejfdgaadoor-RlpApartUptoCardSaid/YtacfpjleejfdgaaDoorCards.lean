/-
  DERIVED. GIVEN WITH THE SEED: THE CARDS: each row of YtacfpjleejfdgaaDoorRows.lean that lists a variable, with what it lists TIED to the program's text (the seventh form; the later family's looks); each row that meets fmt, with fmt's text TOLD by the authors' own Lean function (tested against real Go, not proved from fmt's source: count such statements apart). THE CARD IS WHAT COUNTS. Prove the row's statement (the work); the ties are given (YtacfpjleejfdgaaDoorTie.lean); close each card by the builder's one call (the guide's Derived/Test/ToyasCard.lean, 'card_holds'). Laid BY PROGRAM, IN A SANDBOX (cutbox-door.mjs). By AI agents, Wed Nov 11 2026. No macro, syntax, notation, axiom, sorry.
-/
import Derived.Test.YtacfpjleejfdgaaDoorRows
import GoSem.ClaimSeven
namespace Go.Proofs.YtacfpjleejfdgaaDoor
namespace Rows

/-- THE TIED CARD OF 'rescriptlaw04.RlpEncodes'. -/
def rlpEncodesCard : Claim7 := { stood := { row := rlpEncodesRow, standIns := [], harness := (true, "7450015b63bfdc3c6dbc575e5aabc5370d746c755432c91cafdc94e00080e546"), looks := true }, kinds := [], alts := [], laidByText := true, laidKinds := [.data, .pinned], laidTests := true, laidLooks := .later }
def RlpEncodesCardSaid : Prop := Claim7.holds Tryd.pinned (.plain (OpenSpec.ofChange rlpEncodesSpec)) rlpEncodesCard

/-- THE TIED CARD OF 'rescriptlaw04.RlpApart'. -/
def rlpApartCard : Claim7 := { stood := { row := rlpApartRow, standIns := [], harness := (true, "7450015b63bfdc3c6dbc575e5aabc5370d746c755432c91cafdc94e00080e546"), looks := true }, kinds := [], alts := [], laidByText := true, laidKinds := [.data, .pinned], laidTests := true, laidLooks := .later }
def RlpApartCardSaid : Prop := Claim7.holds Tryd.pinned (.plain (OpenSpec.ofChange rlpApartSpec)) rlpApartCard

/-- THE TIED CARD OF 'rescriptlaw04.RlpParts'. -/
def rlpPartsCard : Claim7 := { stood := { row := rlpPartsRow, standIns := [], harness := (true, "7450015b63bfdc3c6dbc575e5aabc5370d746c755432c91cafdc94e00080e546"), looks := true }, kinds := [], alts := [], laidByText := true, laidKinds := [.data, .pinned], laidTests := true, laidLooks := .later }
def RlpPartsCardSaid : Prop := Claim7.holds Tryd.pinned (.plain (OpenSpec.ofChange rlpPartsSpec)) rlpPartsCard

/-- THE TIED CARD OF 'rescriptlaw04.RlpDeep'. -/
def rlpDeepCard : Claim7 := { stood := { row := rlpDeepRow, standIns := [], harness := (true, "7450015b63bfdc3c6dbc575e5aabc5370d746c755432c91cafdc94e00080e546"), looks := true }, kinds := [], alts := [], laidByText := true, laidKinds := [.data, .pinned], laidTests := true, laidLooks := .later }
def RlpDeepCardSaid : Prop := Claim7.holds Tryd.pinned (.plain (OpenSpec.ofChange rlpDeepSpec)) rlpDeepCard

/-- THE TIED CARD OF 'rescriptlaw04.RlpShort'. -/
def rlpShortCard : Claim7 := { stood := { row := rlpShortRow, standIns := [], harness := (true, "7450015b63bfdc3c6dbc575e5aabc5370d746c755432c91cafdc94e00080e546"), looks := true }, kinds := [], alts := [], laidByText := true, laidKinds := [.data, .pinned], laidTests := true, laidLooks := .later }
def RlpShortCardSaid : Prop := Claim7.holds Tryd.pinned (.plain (OpenSpec.ofChange rlpShortSpec)) rlpShortCard

/-- THE SECOND FORM's CARD OF 'rescriptlaw04.RlpEncodes'. -/
def rlpEncodesUptoCard : Claim7 := { stood := { row := rlpEncodesUptoRow, standIns := [], harness := (true, "7450015b63bfdc3c6dbc575e5aabc5370d746c755432c91cafdc94e00080e546"), looks := true }, kinds := [], alts := [], laidByText := true, laidKinds := [.data, .pinned], laidTests := true, laidLooks := .later }
def RlpEncodesUptoCardSaid : Prop := Claim7.holds Tryd.pinned (.plain (OpenSpec.upto rlpEncodesSpec)) rlpEncodesUptoCard

/-- THE SECOND FORM's CARD OF 'rescriptlaw04.RlpApart'. -/
def rlpApartUptoCard : Claim7 := { stood := { row := rlpApartUptoRow, standIns := [], harness := (true, "7450015b63bfdc3c6dbc575e5aabc5370d746c755432c91cafdc94e00080e546"), looks := true }, kinds := [], alts := [], laidByText := true, laidKinds := [.data, .pinned], laidTests := true, laidLooks := .later }
def RlpApartUptoCardSaid : Prop := Claim7.holds Tryd.pinned (.plain (OpenSpec.upto rlpApartSpec)) rlpApartUptoCard

/-- THE SECOND FORM's CARD OF 'rescriptlaw04.RlpParts'. -/
def rlpPartsUptoCard : Claim7 := { stood := { row := rlpPartsUptoRow, standIns := [], harness := (true, "7450015b63bfdc3c6dbc575e5aabc5370d746c755432c91cafdc94e00080e546"), looks := true }, kinds := [], alts := [], laidByText := true, laidKinds := [.data, .pinned], laidTests := true, laidLooks := .later }
def RlpPartsUptoCardSaid : Prop := Claim7.holds Tryd.pinned (.plain (OpenSpec.upto rlpPartsSpec)) rlpPartsUptoCard

/-- THE SECOND FORM's CARD OF 'rescriptlaw04.RlpDeep'. -/
def rlpDeepUptoCard : Claim7 := { stood := { row := rlpDeepUptoRow, standIns := [], harness := (true, "7450015b63bfdc3c6dbc575e5aabc5370d746c755432c91cafdc94e00080e546"), looks := true }, kinds := [], alts := [], laidByText := true, laidKinds := [.data, .pinned], laidTests := true, laidLooks := .later }
def RlpDeepUptoCardSaid : Prop := Claim7.holds Tryd.pinned (.plain (OpenSpec.upto rlpDeepSpec)) rlpDeepUptoCard

/-- THE SECOND FORM's CARD OF 'rescriptlaw04.RlpShort'. -/
def rlpShortUptoCard : Claim7 := { stood := { row := rlpShortUptoRow, standIns := [], harness := (true, "7450015b63bfdc3c6dbc575e5aabc5370d746c755432c91cafdc94e00080e546"), looks := true }, kinds := [], alts := [], laidByText := true, laidKinds := [.data, .pinned], laidTests := true, laidLooks := .later }
def RlpShortUptoCardSaid : Prop := Claim7.holds Tryd.pinned (.plain (OpenSpec.upto rlpShortSpec)) rlpShortUptoCard
end Rows
end Go.Proofs.YtacfpjleejfdgaaDoor
