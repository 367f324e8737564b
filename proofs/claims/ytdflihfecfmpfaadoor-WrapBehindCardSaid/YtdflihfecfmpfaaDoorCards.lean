/-
  DERIVED. GIVEN WITH THE SEED: THE CARDS: each row of YtdflihfecfmpfaaDoorRows.lean that lists a variable, with what it lists TIED to the program's text (the seventh form; the later family's looks); each row that meets fmt, with fmt's text TOLD by the authors' own Lean function (tested against real Go, not proved from fmt's source: count such statements apart). THE CARD IS WHAT COUNTS. Prove the row's statement (the work); the ties are given (YtdflihfecfmpfaaDoorTie.lean); close each card by the builder's one call (the guide's Derived/Test/ToyasCard.lean, 'card_holds'). Laid BY PROGRAM, IN A SANDBOX (cutbox-door.mjs). By AI agents, Wed Nov 11 2026. No macro, syntax, notation, axiom, sorry.
-/
import Derived.Test.YtdflihfecfmpfaaDoorRows
import GoSem.ClaimSeven
namespace Go.Proofs.YtdflihfecfmpfaaDoor
namespace Rows

/-- THE TIED CARD OF 'rescriptlaw20.WrapPuts'. -/
def wrapPutsCard : Claim7 := { stood := { row := wrapPutsRow, standIns := [], harness := (true, "465f773e3be758bd621b10a2a81287b8092e1a60b8516119e413ecae87e54f47"), looks := true }, kinds := [], alts := [], laidByText := true, laidKinds := [.data, .pinned], laidTests := true, laidLooks := .later }
def WrapPutsCardSaid : Prop := Claim7.holds Tryd.pinned (.plain (OpenSpec.ofChange wrapPutsSpec)) wrapPutsCard

/-- THE TIED CARD OF 'rescriptlaw20.WrapBack'. -/
def wrapBackCard : Claim7 := { stood := { row := wrapBackRow, standIns := [], harness := (true, "465f773e3be758bd621b10a2a81287b8092e1a60b8516119e413ecae87e54f47"), looks := true }, kinds := [], alts := [], laidByText := true, laidKinds := [.data, .pinned], laidTests := true, laidLooks := .later }
def WrapBackCardSaid : Prop := Claim7.holds Tryd.pinned (.plain (OpenSpec.ofChange wrapBackSpec)) wrapBackCard

/-- THE TIED CARD OF 'rescriptlaw20.WrapOnly'. -/
def wrapOnlyCard : Claim7 := { stood := { row := wrapOnlyRow, standIns := [], harness := (true, "465f773e3be758bd621b10a2a81287b8092e1a60b8516119e413ecae87e54f47"), looks := true }, kinds := [], alts := [], laidByText := true, laidKinds := [.data, .pinned], laidTests := true, laidLooks := .later }
def WrapOnlyCardSaid : Prop := Claim7.holds Tryd.pinned (.plain (OpenSpec.ofChange wrapOnlySpec)) wrapOnlyCard

/-- THE TIED CARD OF 'rescriptlaw20.WrapBehind'. -/
def wrapBehindCard : Claim7 := { stood := { row := wrapBehindRow, standIns := [], harness := (true, "465f773e3be758bd621b10a2a81287b8092e1a60b8516119e413ecae87e54f47"), looks := true }, kinds := [], alts := [], laidByText := true, laidKinds := [.data, .pinned], laidTests := true, laidLooks := .later }
def WrapBehindCardSaid : Prop := Claim7.holds Tryd.pinned (.plain (OpenSpec.ofChange wrapBehindSpec)) wrapBehindCard

/-- THE TIED CARD OF 'rescriptlaw20.WrapVersions'. -/
def wrapVersionsCard : Claim7 := { stood := { row := wrapVersionsRow, standIns := [], harness := (true, "465f773e3be758bd621b10a2a81287b8092e1a60b8516119e413ecae87e54f47"), looks := true }, kinds := [], alts := [], laidByText := true, laidKinds := [.data, .pinned], laidTests := true, laidLooks := .later }
def WrapVersionsCardSaid : Prop := Claim7.holds Tryd.pinned (.plain (OpenSpec.ofChange wrapVersionsSpec)) wrapVersionsCard

/-- THE SECOND FORM's CARD OF 'rescriptlaw20.WrapPuts'. -/
def wrapPutsUptoCard : Claim7 := { stood := { row := wrapPutsUptoRow, standIns := [], harness := (true, "465f773e3be758bd621b10a2a81287b8092e1a60b8516119e413ecae87e54f47"), looks := true }, kinds := [], alts := [], laidByText := true, laidKinds := [.data, .pinned], laidTests := true, laidLooks := .later }
def WrapPutsUptoCardSaid : Prop := Claim7.holds Tryd.pinned (.plain (OpenSpec.upto wrapPutsSpec)) wrapPutsUptoCard

/-- THE SECOND FORM's CARD OF 'rescriptlaw20.WrapBack'. -/
def wrapBackUptoCard : Claim7 := { stood := { row := wrapBackUptoRow, standIns := [], harness := (true, "465f773e3be758bd621b10a2a81287b8092e1a60b8516119e413ecae87e54f47"), looks := true }, kinds := [], alts := [], laidByText := true, laidKinds := [.data, .pinned], laidTests := true, laidLooks := .later }
def WrapBackUptoCardSaid : Prop := Claim7.holds Tryd.pinned (.plain (OpenSpec.upto wrapBackSpec)) wrapBackUptoCard

/-- THE SECOND FORM's CARD OF 'rescriptlaw20.WrapOnly'. -/
def wrapOnlyUptoCard : Claim7 := { stood := { row := wrapOnlyUptoRow, standIns := [], harness := (true, "465f773e3be758bd621b10a2a81287b8092e1a60b8516119e413ecae87e54f47"), looks := true }, kinds := [], alts := [], laidByText := true, laidKinds := [.data, .pinned], laidTests := true, laidLooks := .later }
def WrapOnlyUptoCardSaid : Prop := Claim7.holds Tryd.pinned (.plain (OpenSpec.upto wrapOnlySpec)) wrapOnlyUptoCard

/-- THE SECOND FORM's CARD OF 'rescriptlaw20.WrapBehind'. -/
def wrapBehindUptoCard : Claim7 := { stood := { row := wrapBehindUptoRow, standIns := [], harness := (true, "465f773e3be758bd621b10a2a81287b8092e1a60b8516119e413ecae87e54f47"), looks := true }, kinds := [], alts := [], laidByText := true, laidKinds := [.data, .pinned], laidTests := true, laidLooks := .later }
def WrapBehindUptoCardSaid : Prop := Claim7.holds Tryd.pinned (.plain (OpenSpec.upto wrapBehindSpec)) wrapBehindUptoCard

/-- THE SECOND FORM's CARD OF 'rescriptlaw20.WrapVersions'. -/
def wrapVersionsUptoCard : Claim7 := { stood := { row := wrapVersionsUptoRow, standIns := [], harness := (true, "465f773e3be758bd621b10a2a81287b8092e1a60b8516119e413ecae87e54f47"), looks := true }, kinds := [], alts := [], laidByText := true, laidKinds := [.data, .pinned], laidTests := true, laidLooks := .later }
def WrapVersionsUptoCardSaid : Prop := Claim7.holds Tryd.pinned (.plain (OpenSpec.upto wrapVersionsSpec)) wrapVersionsUptoCard
end Rows
end Go.Proofs.YtdflihfecfmpfaaDoor
