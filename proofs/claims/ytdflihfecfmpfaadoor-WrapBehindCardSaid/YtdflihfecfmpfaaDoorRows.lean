/-
  NARROWER THAN 'FOR EVERY INPUT', by the rows' own cells (each row's printed sentence says how): WrapPuts: laid · WrapBack: laid · WrapOnly: laid · WrapBehind: laid · WrapVersions: laid.
  DERIVED. THE GIVEN ROWS OF THIS SEAT. 5 by the template 'for every input the law returns true; each argument reads behind the call as it read before'; 0 by the template 'total and deterministic' (their statements: YtdflihfecfmpfaaDoorTotals.lean).
  GIVEN WITH THE SEED: the statements are not yours to turn. If you find one false, say at which input.
  Laid BY PROGRAM, IN A SANDBOX (cutbox-rows.mjs): the forced cells as the released guide's own fill.sh prints them over the translation 9ed12dcc0aaa695b… (all of the seat's roots in one cut). By AI agents, Wed Nov 11 2026. No macro, syntax, notation, axiom, sorry.
-/
import Derived.Test.YtdflihfecfmpfaaDoorChecked
import GoSem.PinnedTables
import GoSem.Claim
import GoSem.ClaimJoined
import GoSem.ClaimMapViews
import Derived.JoinedTies
import Derived.KernelRfl
namespace Go.Proofs.YtdflihfecfmpfaaDoor
/- THE CELL 'sum', in the pinned program and in every row, IS THE sha256 OF THE DUMP (.gsa) THAT YtdflihfecfmpfaaDoorProg.lean LOADS. Nothing in Lean hashes anything: it is a label: what it is worth is what the hold of that sum in a sandbox is worth. -/
noncomputable def Tryd.pinned : Pinned := { name := "ytdflihfecfmpfaadoor", sum := "9ed12dcc0aaa695bce672f09ab33ec1006d69e233bd07262c7274108e82ef8ac", checked := Tryd.checked }
namespace Rows
def none {H : Type} : Left H := { results := [], args := [] }

/- WHAT THE LISTED PACKAGE-LEVEL VARIABLES READ AS WHEN THE CALL BEGINS. Each datum BY PROGRAM (the guide's laid-datum.mjs) off the statement by which the dump's own 'gosem.cut.vars' lays the variable. In a bare row this is a premise. The card (YtdflihfecfmpfaaDoorCards.lean) ties it to the program's text. -/
def laid_unicode_utf8_acceptRanges {H : Type} : DataW H := .agg [.agg [.lit (.int .u8 128), .lit (.int .u8 191)], .agg [.lit (.int .u8 160), .lit (.int .u8 191)], .agg [.lit (.int .u8 128), .lit (.int .u8 159)], .agg [.lit (.int .u8 144), .lit (.int .u8 191)], .agg [.lit (.int .u8 128), .lit (.int .u8 143)], .agg [.lit (.int .u8 0), .lit (.int .u8 0)], .agg [.lit (.int .u8 0), .lit (.int .u8 0)], .agg [.lit (.int .u8 0), .lit (.int .u8 0)], .agg [.lit (.int .u8 0), .lit (.int .u8 0)], .agg [.lit (.int .u8 0), .lit (.int .u8 0)], .agg [.lit (.int .u8 0), .lit (.int .u8 0)], .agg [.lit (.int .u8 0), .lit (.int .u8 0)], .agg [.lit (.int .u8 0), .lit (.int .u8 0)], .agg [.lit (.int .u8 0), .lit (.int .u8 0)], .agg [.lit (.int .u8 0), .lit (.int .u8 0)], .agg [.lit (.int .u8 0), .lit (.int .u8 0)]]
/-- One of Go's own tables, pinned by name: the form's constant. -/
def laid_unicode_utf8_first : DataW Unit := Go.Pinned.utf8First

/-- 'rescriptlaw20.WrapPuts': WHATEVER THE INPUT: true; the input reads as it did. -/
def wrapPutsSpec : ChangeSpec := { name := "wrapPuts", fn := fun _ => fun
  | [d1, d2] => { results := [.lit (.bool true)], args := [d1, d2] }
  | _ => none }
def wrapPutsRow : OpenClaim := { program := "ytdflihfecfmpfaadoor", sum := "9ed12dcc0aaa695bce672f09ab33ec1006d69e233bd07262c7274108e82ef8ac", func := "rescript/rescriptlaw20.WrapPuts", spec := "wrapPuts", inPlace := ["internal/abi.NoEscape", "internal/bytealg.MakeNoZero", "internal/bytealg.IndexByteString", "internal/bytealg.IndexString"], unfollowed := true, recurses := true, named := ["unicode/utf8.first", "unicode/utf8.acceptRanges", "internal/bytealg.MaxLen"], apart := false, laid := [("unicode/utf8.acceptRanges", laid_unicode_utf8_acceptRanges), ("unicode/utf8.first", laid_unicode_utf8_first)] }
def WrapPutsSaid : Prop := wrapPutsRow.holds Tryd.pinned (OpenSpec.ofChange wrapPutsSpec)

/-- ITS FALSE NEIGHBOUR: 'it returns false'. Refute it at one input. -/
def wrapPutsWrong : ChangeSpec := { name := "wrapPuts", fn := fun _ => fun
  | [d1, d2] => { results := [.lit (.bool false)], args := [d1, d2] }
  | _ => none }
def WrapPutsWrongFalsely : Prop := wrapPutsRow.holds Tryd.pinned (OpenSpec.ofChange wrapPutsWrong)

/-- 'rescriptlaw20.WrapBack': WHATEVER THE INPUT: true; the input reads as it did. -/
def wrapBackSpec : ChangeSpec := { name := "wrapBack", fn := fun _ => fun
  | [d1, d2] => { results := [.lit (.bool true)], args := [d1, d2] }
  | _ => none }
def wrapBackRow : OpenClaim := { program := "ytdflihfecfmpfaadoor", sum := "9ed12dcc0aaa695bce672f09ab33ec1006d69e233bd07262c7274108e82ef8ac", func := "rescript/rescriptlaw20.WrapBack", spec := "wrapBack", inPlace := ["internal/abi.NoEscape", "internal/bytealg.MakeNoZero", "internal/bytealg.IndexByteString", "internal/bytealg.IndexString"], unfollowed := true, recurses := true, named := ["unicode/utf8.first", "unicode/utf8.acceptRanges", "internal/bytealg.MaxLen"], apart := false, laid := [("unicode/utf8.acceptRanges", laid_unicode_utf8_acceptRanges), ("unicode/utf8.first", laid_unicode_utf8_first)] }
def WrapBackSaid : Prop := wrapBackRow.holds Tryd.pinned (OpenSpec.ofChange wrapBackSpec)

/-- ITS FALSE NEIGHBOUR: 'it returns false'. Refute it at one input. -/
def wrapBackWrong : ChangeSpec := { name := "wrapBack", fn := fun _ => fun
  | [d1, d2] => { results := [.lit (.bool false)], args := [d1, d2] }
  | _ => none }
def WrapBackWrongFalsely : Prop := wrapBackRow.holds Tryd.pinned (OpenSpec.ofChange wrapBackWrong)

/-- 'rescriptlaw20.WrapOnly': WHATEVER THE INPUT: true; the input reads as it did. -/
def wrapOnlySpec : ChangeSpec := { name := "wrapOnly", fn := fun _ => fun
  | [d] => { results := [.lit (.bool true)], args := [d] }
  | _ => none }
def wrapOnlyRow : OpenClaim := { program := "ytdflihfecfmpfaadoor", sum := "9ed12dcc0aaa695bce672f09ab33ec1006d69e233bd07262c7274108e82ef8ac", func := "rescript/rescriptlaw20.WrapOnly", spec := "wrapOnly", inPlace := ["internal/abi.NoEscape", "internal/bytealg.MakeNoZero", "internal/bytealg.IndexByteString", "internal/bytealg.IndexString"], unfollowed := true, recurses := true, named := ["unicode/utf8.first", "unicode/utf8.acceptRanges", "internal/bytealg.MaxLen"], apart := false, laid := [("unicode/utf8.acceptRanges", laid_unicode_utf8_acceptRanges), ("unicode/utf8.first", laid_unicode_utf8_first)] }
def WrapOnlySaid : Prop := wrapOnlyRow.holds Tryd.pinned (OpenSpec.ofChange wrapOnlySpec)

/-- ITS FALSE NEIGHBOUR: 'it returns false'. Refute it at one input. -/
def wrapOnlyWrong : ChangeSpec := { name := "wrapOnly", fn := fun _ => fun
  | [d] => { results := [.lit (.bool false)], args := [d] }
  | _ => none }
def WrapOnlyWrongFalsely : Prop := wrapOnlyRow.holds Tryd.pinned (OpenSpec.ofChange wrapOnlyWrong)

/-- 'rescriptlaw20.WrapBehind': WHATEVER THE INPUT: true; the input reads as it did. -/
def wrapBehindSpec : ChangeSpec := { name := "wrapBehind", fn := fun _ => fun
  | [d1, d2] => { results := [.lit (.bool true)], args := [d1, d2] }
  | _ => none }
def wrapBehindRow : OpenClaim := { program := "ytdflihfecfmpfaadoor", sum := "9ed12dcc0aaa695bce672f09ab33ec1006d69e233bd07262c7274108e82ef8ac", func := "rescript/rescriptlaw20.WrapBehind", spec := "wrapBehind", inPlace := ["internal/abi.NoEscape", "internal/bytealg.MakeNoZero", "internal/bytealg.IndexByteString", "internal/bytealg.IndexString"], unfollowed := true, recurses := true, named := ["unicode/utf8.first", "unicode/utf8.acceptRanges", "internal/bytealg.MaxLen"], apart := false, laid := [("unicode/utf8.acceptRanges", laid_unicode_utf8_acceptRanges), ("unicode/utf8.first", laid_unicode_utf8_first)] }
def WrapBehindSaid : Prop := wrapBehindRow.holds Tryd.pinned (OpenSpec.ofChange wrapBehindSpec)

/-- ITS FALSE NEIGHBOUR: 'it returns false'. Refute it at one input. -/
def wrapBehindWrong : ChangeSpec := { name := "wrapBehind", fn := fun _ => fun
  | [d1, d2] => { results := [.lit (.bool false)], args := [d1, d2] }
  | _ => none }
def WrapBehindWrongFalsely : Prop := wrapBehindRow.holds Tryd.pinned (OpenSpec.ofChange wrapBehindWrong)

/-- 'rescriptlaw20.WrapVersions': WHATEVER THE INPUT: true; the input reads as it did. -/
def wrapVersionsSpec : ChangeSpec := { name := "wrapVersions", fn := fun _ => fun
  | [d] => { results := [.lit (.bool true)], args := [d] }
  | _ => none }
def wrapVersionsRow : OpenClaim := { program := "ytdflihfecfmpfaadoor", sum := "9ed12dcc0aaa695bce672f09ab33ec1006d69e233bd07262c7274108e82ef8ac", func := "rescript/rescriptlaw20.WrapVersions", spec := "wrapVersions", inPlace := ["internal/abi.NoEscape", "internal/bytealg.MakeNoZero", "internal/bytealg.IndexByteString", "internal/bytealg.IndexString"], unfollowed := true, recurses := true, named := ["unicode/utf8.first", "unicode/utf8.acceptRanges", "internal/bytealg.MaxLen"], apart := false, laid := [("unicode/utf8.acceptRanges", laid_unicode_utf8_acceptRanges), ("unicode/utf8.first", laid_unicode_utf8_first)] }
def WrapVersionsSaid : Prop := wrapVersionsRow.holds Tryd.pinned (OpenSpec.ofChange wrapVersionsSpec)

/-- ITS FALSE NEIGHBOUR: 'it returns false'. Refute it at one input. -/
def wrapVersionsWrong : ChangeSpec := { name := "wrapVersions", fn := fun _ => fun
  | [d] => { results := [.lit (.bool false)], args := [d] }
  | _ => none }
def WrapVersionsWrongFalsely : Prop := wrapVersionsRow.holds Tryd.pinned (OpenSpec.ofChange wrapVersionsWrong)

/- THE SECOND FORM. 'bulk': how many values and letters a reading holds, each counted each time it is reached (what is shared counts as often as it is met; a slice's spare places count too). A statement '..UptoSaid' is the law's where the arguments, and the package variables that the reading takes, are together of bulk at most 1048576: NARROWER than '..Said'. Prove '..Said' where nothing that the law and all that it calls make is longer than what came in: it says more and counts as full. Else prove '..UptoSaid'. A law counts once. -/
mutual
def uptoBulk {H : Type} : DataW H → Nat
  | .lit (.string bytes) => bytes.length + 1
  | .lit _ => 1
  | .nil => 1
  | .ptr d => uptoBulk d + 1
  | .slice elems spare => uptoBulkAll elems + uptoBulkAll spare + 1
  | .agg parts => uptoBulkAll parts + 1
  | .iface _ d => uptoBulk d + 1
  | .map entries => uptoBulkEntries entries + 1
  | .held _ => 1
def uptoBulkAll {H : Type} : List (DataW H) → Nat
  | [] => 0
  | d :: r => uptoBulk d + uptoBulkAll r
def uptoBulkEntries {H : Type} : List (Lit × DataW H) → Nat
  | [] => 0
  | x :: r => uptoBulkEntry x + uptoBulkEntries r
def uptoBulkEntry {H : Type} : Lit × DataW H → Nat
  | (.string bytes, d) => bytes.length + uptoBulk d + 1
  | (_, d) => uptoBulk d + 1
 end
def uptoSmall : (H : Type) → List (DataW H) → Bool := fun _ ds => decide (uptoBulkAll ds ≤ 1048576)
def OpenSpec.upto (s : _root_.Go.ChangeSpec) : _root_.Go.OpenSpec := { _root_.Go.OpenSpec.ofChange s with cond := some uptoSmall }

/-- 'rescriptlaw20.WrapPuts', WHERE WHAT IT READS IS OF BULK AT MOST 1048576: true; the input reads as it did. -/
def wrapPutsUptoRow : OpenClaim := { program := "ytdflihfecfmpfaadoor", sum := "9ed12dcc0aaa695bce672f09ab33ec1006d69e233bd07262c7274108e82ef8ac", func := "rescript/rescriptlaw20.WrapPuts", spec := "wrapPuts", inPlace := ["internal/abi.NoEscape", "internal/bytealg.MakeNoZero", "internal/bytealg.IndexByteString", "internal/bytealg.IndexString"], unfollowed := true, recurses := true, named := ["unicode/utf8.first", "unicode/utf8.acceptRanges", "internal/bytealg.MaxLen"], apart := false, laid := [("unicode/utf8.acceptRanges", laid_unicode_utf8_acceptRanges), ("unicode/utf8.first", laid_unicode_utf8_first)], narrowed := true }
def WrapPutsUptoSaid : Prop := wrapPutsUptoRow.holds Tryd.pinned (OpenSpec.upto wrapPutsSpec)

/-- 'rescriptlaw20.WrapBack', WHERE WHAT IT READS IS OF BULK AT MOST 1048576: true; the input reads as it did. -/
def wrapBackUptoRow : OpenClaim := { program := "ytdflihfecfmpfaadoor", sum := "9ed12dcc0aaa695bce672f09ab33ec1006d69e233bd07262c7274108e82ef8ac", func := "rescript/rescriptlaw20.WrapBack", spec := "wrapBack", inPlace := ["internal/abi.NoEscape", "internal/bytealg.MakeNoZero", "internal/bytealg.IndexByteString", "internal/bytealg.IndexString"], unfollowed := true, recurses := true, named := ["unicode/utf8.first", "unicode/utf8.acceptRanges", "internal/bytealg.MaxLen"], apart := false, laid := [("unicode/utf8.acceptRanges", laid_unicode_utf8_acceptRanges), ("unicode/utf8.first", laid_unicode_utf8_first)], narrowed := true }
def WrapBackUptoSaid : Prop := wrapBackUptoRow.holds Tryd.pinned (OpenSpec.upto wrapBackSpec)

/-- 'rescriptlaw20.WrapOnly', WHERE WHAT IT READS IS OF BULK AT MOST 1048576: true; the input reads as it did. -/
def wrapOnlyUptoRow : OpenClaim := { program := "ytdflihfecfmpfaadoor", sum := "9ed12dcc0aaa695bce672f09ab33ec1006d69e233bd07262c7274108e82ef8ac", func := "rescript/rescriptlaw20.WrapOnly", spec := "wrapOnly", inPlace := ["internal/abi.NoEscape", "internal/bytealg.MakeNoZero", "internal/bytealg.IndexByteString", "internal/bytealg.IndexString"], unfollowed := true, recurses := true, named := ["unicode/utf8.first", "unicode/utf8.acceptRanges", "internal/bytealg.MaxLen"], apart := false, laid := [("unicode/utf8.acceptRanges", laid_unicode_utf8_acceptRanges), ("unicode/utf8.first", laid_unicode_utf8_first)], narrowed := true }
def WrapOnlyUptoSaid : Prop := wrapOnlyUptoRow.holds Tryd.pinned (OpenSpec.upto wrapOnlySpec)

/-- 'rescriptlaw20.WrapBehind', WHERE WHAT IT READS IS OF BULK AT MOST 1048576: true; the input reads as it did. -/
def wrapBehindUptoRow : OpenClaim := { program := "ytdflihfecfmpfaadoor", sum := "9ed12dcc0aaa695bce672f09ab33ec1006d69e233bd07262c7274108e82ef8ac", func := "rescript/rescriptlaw20.WrapBehind", spec := "wrapBehind", inPlace := ["internal/abi.NoEscape", "internal/bytealg.MakeNoZero", "internal/bytealg.IndexByteString", "internal/bytealg.IndexString"], unfollowed := true, recurses := true, named := ["unicode/utf8.first", "unicode/utf8.acceptRanges", "internal/bytealg.MaxLen"], apart := false, laid := [("unicode/utf8.acceptRanges", laid_unicode_utf8_acceptRanges), ("unicode/utf8.first", laid_unicode_utf8_first)], narrowed := true }
def WrapBehindUptoSaid : Prop := wrapBehindUptoRow.holds Tryd.pinned (OpenSpec.upto wrapBehindSpec)

/-- 'rescriptlaw20.WrapVersions', WHERE WHAT IT READS IS OF BULK AT MOST 1048576: true; the input reads as it did. -/
def wrapVersionsUptoRow : OpenClaim := { program := "ytdflihfecfmpfaadoor", sum := "9ed12dcc0aaa695bce672f09ab33ec1006d69e233bd07262c7274108e82ef8ac", func := "rescript/rescriptlaw20.WrapVersions", spec := "wrapVersions", inPlace := ["internal/abi.NoEscape", "internal/bytealg.MakeNoZero", "internal/bytealg.IndexByteString", "internal/bytealg.IndexString"], unfollowed := true, recurses := true, named := ["unicode/utf8.first", "unicode/utf8.acceptRanges", "internal/bytealg.MaxLen"], apart := false, laid := [("unicode/utf8.acceptRanges", laid_unicode_utf8_acceptRanges), ("unicode/utf8.first", laid_unicode_utf8_first)], narrowed := true }
def WrapVersionsUptoSaid : Prop := wrapVersionsUptoRow.holds Tryd.pinned (OpenSpec.upto wrapVersionsSpec)

end Rows
end Go.Proofs.YtdflihfecfmpfaaDoor
