/-
  NARROWER THAN 'FOR EVERY INPUT', by the rows' own cells (each row's printed sentence says how): ColumnPuts: laid · ColumnGets: laid · ColumnBack: laid · ColumnOnly: laid · ColumnEach: laid.
  DERIVED. THE GIVEN ROWS OF THIS SEAT. 5 by the template 'for every input the law returns true; each argument reads behind the call as it read before'; 0 by the template 'total and deterministic' (their statements: YtgclnikdkfpflaaGreatDoorTotals.lean).
  GIVEN WITH THE SEED: the statements are not yours to turn. If you find one false, say at which input.
  Laid BY PROGRAM, IN A SANDBOX (cutbox-rows.mjs): the forced cells as the released guide's own fill.sh prints them over the translation f46404ffcd5b6fa0… (all of the seat's roots in one cut). By AI agents, Wed Nov 11 2026. No macro, syntax, notation, axiom, sorry.
-/
import Derived.Test.YtgclnikdkfpflaaGreatDoorChecked
import GoSem.PinnedTables
import GoSem.Claim
import GoSem.ClaimJoined
import GoSem.ClaimMapViews
import Derived.JoinedTies
import Derived.KernelRfl
namespace Go.Proofs.YtgclnikdkfpflaaGreatDoor
/- THE CELL 'sum', in the pinned program and in every row, IS THE sha256 OF THE DUMP (.gsa) THAT YtgclnikdkfpflaaGreatDoorProg.lean LOADS. Nothing in Lean hashes anything: it is a label: what it is worth is what the hold of that sum in a sandbox is worth. -/
noncomputable def Tryz.pinned : Pinned := { name := "ytgclnikdkfpflaagreatdoor", sum := "f46404ffcd5b6fa0669e1f87db0e1d4bf35712c80e4f83b2b3422126136a3603", checked := Tryz.checked }
namespace Rows
def none {H : Type} : Left H := { results := [], args := [] }

/- WHAT THE LISTED PACKAGE-LEVEL VARIABLES READ AS WHEN THE CALL BEGINS. Each datum BY PROGRAM (the guide's laid-datum.mjs) off the statement by which the dump's own 'gosem.cut.vars' lays the variable. In a bare row this is a premise. The card (YtgclnikdkfpflaaGreatDoorCards.lean) ties it to the program's text. -/
def laid_unicode_utf8_acceptRanges {H : Type} : DataW H := .agg [.agg [.lit (.int .u8 128), .lit (.int .u8 191)], .agg [.lit (.int .u8 160), .lit (.int .u8 191)], .agg [.lit (.int .u8 128), .lit (.int .u8 159)], .agg [.lit (.int .u8 144), .lit (.int .u8 191)], .agg [.lit (.int .u8 128), .lit (.int .u8 143)], .agg [.lit (.int .u8 0), .lit (.int .u8 0)], .agg [.lit (.int .u8 0), .lit (.int .u8 0)], .agg [.lit (.int .u8 0), .lit (.int .u8 0)], .agg [.lit (.int .u8 0), .lit (.int .u8 0)], .agg [.lit (.int .u8 0), .lit (.int .u8 0)], .agg [.lit (.int .u8 0), .lit (.int .u8 0)], .agg [.lit (.int .u8 0), .lit (.int .u8 0)], .agg [.lit (.int .u8 0), .lit (.int .u8 0)], .agg [.lit (.int .u8 0), .lit (.int .u8 0)], .agg [.lit (.int .u8 0), .lit (.int .u8 0)], .agg [.lit (.int .u8 0), .lit (.int .u8 0)]]
/-- One of Go's own tables, pinned by name: the form's constant. -/
def laid_unicode_utf8_first : DataW Unit := Go.Pinned.utf8First

/-- 'rescriptlaw18.ColumnPuts': WHATEVER THE INPUT: true; the input reads as it did. -/
def columnPutsSpec : ChangeSpec := { name := "columnPuts", fn := fun _ => fun
  | [d1, d2] => { results := [.lit (.bool true)], args := [d1, d2] }
  | _ => none }
def columnPutsRow : OpenClaim := { program := "ytgclnikdkfpflaagreatdoor", sum := "f46404ffcd5b6fa0669e1f87db0e1d4bf35712c80e4f83b2b3422126136a3603", func := "rescript/rescriptlaw18.ColumnPuts", spec := "columnPuts", inPlace := ["internal/abi.NoEscape", "internal/bytealg.MakeNoZero", "internal/bytealg.IndexByteString", "internal/bytealg.IndexString"], unfollowed := true, recurses := true, named := ["unicode/utf8.first", "unicode/utf8.acceptRanges", "internal/bytealg.MaxLen"], apart := false, laid := [("unicode/utf8.acceptRanges", laid_unicode_utf8_acceptRanges), ("unicode/utf8.first", laid_unicode_utf8_first)] }
def ColumnPutsSaid : Prop := columnPutsRow.holds Tryz.pinned (OpenSpec.ofChange columnPutsSpec)

/-- ITS FALSE NEIGHBOUR: 'it returns false'. Refute it at one input. -/
def columnPutsWrong : ChangeSpec := { name := "columnPuts", fn := fun _ => fun
  | [d1, d2] => { results := [.lit (.bool false)], args := [d1, d2] }
  | _ => none }
def ColumnPutsWrongFalsely : Prop := columnPutsRow.holds Tryz.pinned (OpenSpec.ofChange columnPutsWrong)

/-- 'rescriptlaw18.ColumnGets': WHATEVER THE INPUT: true; the input reads as it did. -/
def columnGetsSpec : ChangeSpec := { name := "columnGets", fn := fun _ => fun
  | [d1, d2, d3, d4] => { results := [.lit (.bool true)], args := [d1, d2, d3, d4] }
  | _ => none }
def columnGetsRow : OpenClaim := { program := "ytgclnikdkfpflaagreatdoor", sum := "f46404ffcd5b6fa0669e1f87db0e1d4bf35712c80e4f83b2b3422126136a3603", func := "rescript/rescriptlaw18.ColumnGets", spec := "columnGets", inPlace := ["internal/abi.NoEscape", "internal/bytealg.MakeNoZero", "internal/bytealg.IndexByteString", "internal/bytealg.IndexString"], unfollowed := true, recurses := true, named := ["unicode/utf8.first", "unicode/utf8.acceptRanges", "internal/bytealg.MaxLen"], apart := false, laid := [("unicode/utf8.acceptRanges", laid_unicode_utf8_acceptRanges), ("unicode/utf8.first", laid_unicode_utf8_first)] }
def ColumnGetsSaid : Prop := columnGetsRow.holds Tryz.pinned (OpenSpec.ofChange columnGetsSpec)

/-- ITS FALSE NEIGHBOUR: 'it returns false'. Refute it at one input. -/
def columnGetsWrong : ChangeSpec := { name := "columnGets", fn := fun _ => fun
  | [d1, d2, d3, d4] => { results := [.lit (.bool false)], args := [d1, d2, d3, d4] }
  | _ => none }
def ColumnGetsWrongFalsely : Prop := columnGetsRow.holds Tryz.pinned (OpenSpec.ofChange columnGetsWrong)

/-- 'rescriptlaw18.ColumnBack': WHATEVER THE INPUT: true; the input reads as it did. -/
def columnBackSpec : ChangeSpec := { name := "columnBack", fn := fun _ => fun
  | [d1, d2, d3, d4] => { results := [.lit (.bool true)], args := [d1, d2, d3, d4] }
  | _ => none }
def columnBackRow : OpenClaim := { program := "ytgclnikdkfpflaagreatdoor", sum := "f46404ffcd5b6fa0669e1f87db0e1d4bf35712c80e4f83b2b3422126136a3603", func := "rescript/rescriptlaw18.ColumnBack", spec := "columnBack", inPlace := ["internal/abi.NoEscape", "internal/bytealg.MakeNoZero", "internal/bytealg.IndexByteString", "internal/bytealg.IndexString"], unfollowed := true, recurses := true, named := ["unicode/utf8.first", "unicode/utf8.acceptRanges", "internal/bytealg.MaxLen"], apart := false, laid := [("unicode/utf8.acceptRanges", laid_unicode_utf8_acceptRanges), ("unicode/utf8.first", laid_unicode_utf8_first)] }
def ColumnBackSaid : Prop := columnBackRow.holds Tryz.pinned (OpenSpec.ofChange columnBackSpec)

/-- ITS FALSE NEIGHBOUR: 'it returns false'. Refute it at one input. -/
def columnBackWrong : ChangeSpec := { name := "columnBack", fn := fun _ => fun
  | [d1, d2, d3, d4] => { results := [.lit (.bool false)], args := [d1, d2, d3, d4] }
  | _ => none }
def ColumnBackWrongFalsely : Prop := columnBackRow.holds Tryz.pinned (OpenSpec.ofChange columnBackWrong)

/-- 'rescriptlaw18.ColumnOnly': WHATEVER THE INPUT: true; the input reads as it did. -/
def columnOnlySpec : ChangeSpec := { name := "columnOnly", fn := fun _ => fun
  | [d1, d2, d3, d4] => { results := [.lit (.bool true)], args := [d1, d2, d3, d4] }
  | _ => none }
def columnOnlyRow : OpenClaim := { program := "ytgclnikdkfpflaagreatdoor", sum := "f46404ffcd5b6fa0669e1f87db0e1d4bf35712c80e4f83b2b3422126136a3603", func := "rescript/rescriptlaw18.ColumnOnly", spec := "columnOnly", inPlace := ["internal/abi.NoEscape", "internal/bytealg.MakeNoZero", "internal/bytealg.IndexByteString", "internal/bytealg.IndexString"], unfollowed := true, recurses := true, named := ["unicode/utf8.first", "unicode/utf8.acceptRanges", "internal/bytealg.MaxLen"], apart := false, laid := [("unicode/utf8.acceptRanges", laid_unicode_utf8_acceptRanges), ("unicode/utf8.first", laid_unicode_utf8_first)] }
def ColumnOnlySaid : Prop := columnOnlyRow.holds Tryz.pinned (OpenSpec.ofChange columnOnlySpec)

/-- ITS FALSE NEIGHBOUR: 'it returns false'. Refute it at one input. -/
def columnOnlyWrong : ChangeSpec := { name := "columnOnly", fn := fun _ => fun
  | [d1, d2, d3, d4] => { results := [.lit (.bool false)], args := [d1, d2, d3, d4] }
  | _ => none }
def ColumnOnlyWrongFalsely : Prop := columnOnlyRow.holds Tryz.pinned (OpenSpec.ofChange columnOnlyWrong)

/-- 'rescriptlaw18.ColumnEach': WHATEVER THE INPUT: true; the input reads as it did. -/
def columnEachSpec : ChangeSpec := { name := "columnEach", fn := fun _ => fun
  | [d1, d2] => { results := [.lit (.bool true)], args := [d1, d2] }
  | _ => none }
def columnEachRow : OpenClaim := { program := "ytgclnikdkfpflaagreatdoor", sum := "f46404ffcd5b6fa0669e1f87db0e1d4bf35712c80e4f83b2b3422126136a3603", func := "rescript/rescriptlaw18.ColumnEach", spec := "columnEach", inPlace := ["internal/abi.NoEscape", "internal/bytealg.MakeNoZero", "internal/bytealg.IndexByteString", "internal/bytealg.IndexString"], unfollowed := true, recurses := true, named := ["unicode/utf8.first", "unicode/utf8.acceptRanges", "internal/bytealg.MaxLen"], apart := false, laid := [("unicode/utf8.acceptRanges", laid_unicode_utf8_acceptRanges), ("unicode/utf8.first", laid_unicode_utf8_first)] }
def ColumnEachSaid : Prop := columnEachRow.holds Tryz.pinned (OpenSpec.ofChange columnEachSpec)

/-- ITS FALSE NEIGHBOUR: 'it returns false'. Refute it at one input. -/
def columnEachWrong : ChangeSpec := { name := "columnEach", fn := fun _ => fun
  | [d1, d2] => { results := [.lit (.bool false)], args := [d1, d2] }
  | _ => none }
def ColumnEachWrongFalsely : Prop := columnEachRow.holds Tryz.pinned (OpenSpec.ofChange columnEachWrong)

/- THE SECOND FORM. 'bulk': how many values and letters a reading holds, each counted each time it is reached (what is shared counts as often as it is met; a slice's spare places count too). A statement '..UptoSaid' is the law's where the arguments, and the package variables that the reading takes, are together of bulk at most 1048576: NARROWER than '..Said'. Prove '..Said' where nothing that the law and all that it calls make is longer than what came in: it says more and counts as full. Else prove '..UptoSaid'. A law counts once. -/
mutual
def uptoBulk {H : Type} : DataW H → Nat
  | .lit (.string bytes) => bytes.length + 1
  | .lit _ => 1
  | .nil => 1
  | .ptr d => uptoBulk d + 1
  | .slice elems spare => uptoBulkAll elems + uptoBulkAll spare + 1
  | .agg parts => uptoBulkAll parts + 1
  | .iface _ d => uptoBulk d + 1
  | .map entries => uptoBulkEntries entries + 1
  | .held _ => 1
def uptoBulkAll {H : Type} : List (DataW H) → Nat
  | [] => 0
  | d :: r => uptoBulk d + uptoBulkAll r
def uptoBulkEntries {H : Type} : List (Lit × DataW H) → Nat
  | [] => 0
  | x :: r => uptoBulkEntry x + uptoBulkEntries r
def uptoBulkEntry {H : Type} : Lit × DataW H → Nat
  | (.string bytes, d) => bytes.length + uptoBulk d + 1
  | (_, d) => uptoBulk d + 1
 end
def uptoSmall : (H : Type) → List (DataW H) → Bool := fun _ ds => decide (uptoBulkAll ds ≤ 1048576)
def OpenSpec.upto (s : _root_.Go.ChangeSpec) : _root_.Go.OpenSpec := { _root_.Go.OpenSpec.ofChange s with cond := some uptoSmall }

/-- 'rescriptlaw18.ColumnPuts', WHERE WHAT IT READS IS OF BULK AT MOST 1048576: true; the input reads as it did. -/
def columnPutsUptoRow : OpenClaim := { program := "ytgclnikdkfpflaagreatdoor", sum := "f46404ffcd5b6fa0669e1f87db0e1d4bf35712c80e4f83b2b3422126136a3603", func := "rescript/rescriptlaw18.ColumnPuts", spec := "columnPuts", inPlace := ["internal/abi.NoEscape", "internal/bytealg.MakeNoZero", "internal/bytealg.IndexByteString", "internal/bytealg.IndexString"], unfollowed := true, recurses := true, named := ["unicode/utf8.first", "unicode/utf8.acceptRanges", "internal/bytealg.MaxLen"], apart := false, laid := [("unicode/utf8.acceptRanges", laid_unicode_utf8_acceptRanges), ("unicode/utf8.first", laid_unicode_utf8_first)], narrowed := true }
def ColumnPutsUptoSaid : Prop := columnPutsUptoRow.holds Tryz.pinned (OpenSpec.upto columnPutsSpec)

/-- 'rescriptlaw18.ColumnGets', WHERE WHAT IT READS IS OF BULK AT MOST 1048576: true; the input reads as it did. -/
def columnGetsUptoRow : OpenClaim := { program := "ytgclnikdkfpflaagreatdoor", sum := "f46404ffcd5b6fa0669e1f87db0e1d4bf35712c80e4f83b2b3422126136a3603", func := "rescript/rescriptlaw18.ColumnGets", spec := "columnGets", inPlace := ["internal/abi.NoEscape", "internal/bytealg.MakeNoZero", "internal/bytealg.IndexByteString", "internal/bytealg.IndexString"], unfollowed := true, recurses := true, named := ["unicode/utf8.first", "unicode/utf8.acceptRanges", "internal/bytealg.MaxLen"], apart := false, laid := [("unicode/utf8.acceptRanges", laid_unicode_utf8_acceptRanges), ("unicode/utf8.first", laid_unicode_utf8_first)], narrowed := true }
def ColumnGetsUptoSaid : Prop := columnGetsUptoRow.holds Tryz.pinned (OpenSpec.upto columnGetsSpec)

/-- 'rescriptlaw18.ColumnBack', WHERE WHAT IT READS IS OF BULK AT MOST 1048576: true; the input reads as it did. -/
def columnBackUptoRow : OpenClaim := { program := "ytgclnikdkfpflaagreatdoor", sum := "f46404ffcd5b6fa0669e1f87db0e1d4bf35712c80e4f83b2b3422126136a3603", func := "rescript/rescriptlaw18.ColumnBack", spec := "columnBack", inPlace := ["internal/abi.NoEscape", "internal/bytealg.MakeNoZero", "internal/bytealg.IndexByteString", "internal/bytealg.IndexString"], unfollowed := true, recurses := true, named := ["unicode/utf8.first", "unicode/utf8.acceptRanges", "internal/bytealg.MaxLen"], apart := false, laid := [("unicode/utf8.acceptRanges", laid_unicode_utf8_acceptRanges), ("unicode/utf8.first", laid_unicode_utf8_first)], narrowed := true }
def ColumnBackUptoSaid : Prop := columnBackUptoRow.holds Tryz.pinned (OpenSpec.upto columnBackSpec)

/-- 'rescriptlaw18.ColumnOnly', WHERE WHAT IT READS IS OF BULK AT MOST 1048576: true; the input reads as it did. -/
def columnOnlyUptoRow : OpenClaim := { program := "ytgclnikdkfpflaagreatdoor", sum := "f46404ffcd5b6fa0669e1f87db0e1d4bf35712c80e4f83b2b3422126136a3603", func := "rescript/rescriptlaw18.ColumnOnly", spec := "columnOnly", inPlace := ["internal/abi.NoEscape", "internal/bytealg.MakeNoZero", "internal/bytealg.IndexByteString", "internal/bytealg.IndexString"], unfollowed := true, recurses := true, named := ["unicode/utf8.first", "unicode/utf8.acceptRanges", "internal/bytealg.MaxLen"], apart := false, laid := [("unicode/utf8.acceptRanges", laid_unicode_utf8_acceptRanges), ("unicode/utf8.first", laid_unicode_utf8_first)], narrowed := true }
def ColumnOnlyUptoSaid : Prop := columnOnlyUptoRow.holds Tryz.pinned (OpenSpec.upto columnOnlySpec)

/-- 'rescriptlaw18.ColumnEach', WHERE WHAT IT READS IS OF BULK AT MOST 1048576: true; the input reads as it did. -/
def columnEachUptoRow : OpenClaim := { program := "ytgclnikdkfpflaagreatdoor", sum := "f46404ffcd5b6fa0669e1f87db0e1d4bf35712c80e4f83b2b3422126136a3603", func := "rescript/rescriptlaw18.ColumnEach", spec := "columnEach", inPlace := ["internal/abi.NoEscape", "internal/bytealg.MakeNoZero", "internal/bytealg.IndexByteString", "internal/bytealg.IndexString"], unfollowed := true, recurses := true, named := ["unicode/utf8.first", "unicode/utf8.acceptRanges", "internal/bytealg.MaxLen"], apart := false, laid := [("unicode/utf8.acceptRanges", laid_unicode_utf8_acceptRanges), ("unicode/utf8.first", laid_unicode_utf8_first)], narrowed := true }
def ColumnEachUptoSaid : Prop := columnEachUptoRow.holds Tryz.pinned (OpenSpec.upto columnEachSpec)

end Rows
end Go.Proofs.YtgclnikdkfpflaaGreatDoor
