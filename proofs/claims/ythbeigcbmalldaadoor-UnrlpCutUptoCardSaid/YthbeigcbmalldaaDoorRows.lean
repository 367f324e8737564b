/-
  NARROWER THAN 'FOR EVERY INPUT', by the rows' own cells (each row's printed sentence says how): UnrlpCut: loops, laid · UnrlpBack: loops, laid · UnrlpOnly: laid.
  DERIVED. THE GIVEN ROWS OF THIS SEAT. 3 by the template 'for every input the law returns true; each argument reads behind the call as it read before'; 0 by the template 'total and deterministic' (their statements: YthbeigcbmalldaaDoorTotals.lean).
  GIVEN WITH THE SEED: the statements are not yours to turn. If you find one false, say at which input.
  Laid BY PROGRAM, IN A SANDBOX (cutbox-rows.mjs): the forced cells as the released guide's own fill.sh prints them over the translation 8529e3bd95c46daa… (all of the seat's roots in one cut). By AI agents, Wed Nov 11 2026. No macro, syntax, notation, axiom, sorry.
-/
import Derived.Test.YthbeigcbmalldaaDoorChecked
import GoSem.PinnedTables
import GoSem.Claim
import GoSem.ClaimJoined
import GoSem.ClaimMapViews
import Derived.JoinedTies
import Derived.KernelRfl
namespace Go.Proofs.YthbeigcbmalldaaDoor
/- THE CELL 'sum', in the pinned program and in every row, IS THE sha256 OF THE DUMP (.gsa) THAT YthbeigcbmalldaaDoorProg.lean LOADS. Nothing in Lean hashes anything: it is a label: what it is worth is what the hold of that sum in a sandbox is worth. -/
noncomputable def Tryd.pinned : Pinned := { name := "ythbeigcbmalldaadoor", sum := "8529e3bd95c46daa7bc9a643bc5c4bbab327956c89612e036f5b09dbed5e66d6", checked := Tryd.checked }
namespace Rows
def none {H : Type} : Left H := { results := [], args := [] }

/- WHAT THE LISTED PACKAGE-LEVEL VARIABLES READ AS WHEN THE CALL BEGINS. Each datum BY PROGRAM (the guide's laid-datum.mjs) off the statement by which the dump's own 'gosem.cut.vars' lays the variable. In a bare row this is a premise. The card (YthbeigcbmalldaaDoorCards.lean) ties it to the program's text. -/
def laid_unicode_utf8_acceptRanges {H : Type} : DataW H := .agg [.agg [.lit (.int .u8 128), .lit (.int .u8 191)], .agg [.lit (.int .u8 160), .lit (.int .u8 191)], .agg [.lit (.int .u8 128), .lit (.int .u8 159)], .agg [.lit (.int .u8 144), .lit (.int .u8 191)], .agg [.lit (.int .u8 128), .lit (.int .u8 143)], .agg [.lit (.int .u8 0), .lit (.int .u8 0)], .agg [.lit (.int .u8 0), .lit (.int .u8 0)], .agg [.lit (.int .u8 0), .lit (.int .u8 0)], .agg [.lit (.int .u8 0), .lit (.int .u8 0)], .agg [.lit (.int .u8 0), .lit (.int .u8 0)], .agg [.lit (.int .u8 0), .lit (.int .u8 0)], .agg [.lit (.int .u8 0), .lit (.int .u8 0)], .agg [.lit (.int .u8 0), .lit (.int .u8 0)], .agg [.lit (.int .u8 0), .lit (.int .u8 0)], .agg [.lit (.int .u8 0), .lit (.int .u8 0)], .agg [.lit (.int .u8 0), .lit (.int .u8 0)]]
/-- One of Go's own tables, pinned by name: the form's constant. -/
def laid_unicode_utf8_first : DataW Unit := Go.Pinned.utf8First

/-- 'rescriptlaw05.UnrlpCut': WHATEVER THE INPUT: true; the input reads as it did. -/
def unrlpCutSpec : ChangeSpec := { name := "unrlpCut", fn := fun _ => fun
  | [d1, d2, d3] => { results := [.lit (.bool true)], args := [d1, d2, d3] }
  | _ => none }
def unrlpCutRow : OpenClaim := { program := "ythbeigcbmalldaadoor", sum := "8529e3bd95c46daa7bc9a643bc5c4bbab327956c89612e036f5b09dbed5e66d6", func := "rescript/rescriptlaw05.UnrlpCut", spec := "unrlpCut", inPlace := ["internal/bytealg.IndexByteString", "internal/bytealg.IndexString", "internal/abi.NoEscape", "internal/bytealg.MakeNoZero"], unfollowed := true, recurses := true, named := ["unicode/utf8.first", "unicode/utf8.acceptRanges", "internal/bytealg.MaxLen"], loops := true, apart := false, laid := [("unicode/utf8.acceptRanges", laid_unicode_utf8_acceptRanges), ("unicode/utf8.first", laid_unicode_utf8_first)] }
def UnrlpCutSaid : Prop := unrlpCutRow.holds Tryd.pinned (OpenSpec.ofChange unrlpCutSpec)

/-- ITS FALSE NEIGHBOUR: 'it returns false'. Refute it at one input. -/
def unrlpCutWrong : ChangeSpec := { name := "unrlpCut", fn := fun _ => fun
  | [d1, d2, d3] => { results := [.lit (.bool false)], args := [d1, d2, d3] }
  | _ => none }
def UnrlpCutWrongFalsely : Prop := unrlpCutRow.holds Tryd.pinned (OpenSpec.ofChange unrlpCutWrong)

/-- 'rescriptlaw05.UnrlpBack': WHATEVER THE INPUT: true; the input reads as it did. -/
def unrlpBackSpec : ChangeSpec := { name := "unrlpBack", fn := fun _ => fun
  | [d] => { results := [.lit (.bool true)], args := [d] }
  | _ => none }
def unrlpBackRow : OpenClaim := { program := "ythbeigcbmalldaadoor", sum := "8529e3bd95c46daa7bc9a643bc5c4bbab327956c89612e036f5b09dbed5e66d6", func := "rescript/rescriptlaw05.UnrlpBack", spec := "unrlpBack", inPlace := ["internal/bytealg.IndexByteString", "internal/bytealg.IndexString", "internal/abi.NoEscape", "internal/bytealg.MakeNoZero"], unfollowed := true, recurses := true, named := ["unicode/utf8.first", "unicode/utf8.acceptRanges", "internal/bytealg.MaxLen"], loops := true, apart := false, laid := [("unicode/utf8.acceptRanges", laid_unicode_utf8_acceptRanges), ("unicode/utf8.first", laid_unicode_utf8_first)] }
def UnrlpBackSaid : Prop := unrlpBackRow.holds Tryd.pinned (OpenSpec.ofChange unrlpBackSpec)

/-- ITS FALSE NEIGHBOUR: 'it returns false'. Refute it at one input. -/
def unrlpBackWrong : ChangeSpec := { name := "unrlpBack", fn := fun _ => fun
  | [d] => { results := [.lit (.bool false)], args := [d] }
  | _ => none }
def UnrlpBackWrongFalsely : Prop := unrlpBackRow.holds Tryd.pinned (OpenSpec.ofChange unrlpBackWrong)

/-- 'rescriptlaw05.UnrlpOnly': WHATEVER THE INPUT: true; the input reads as it did. -/
def unrlpOnlySpec : ChangeSpec := { name := "unrlpOnly", fn := fun _ => fun
  | [d] => { results := [.lit (.bool true)], args := [d] }
  | _ => none }
def unrlpOnlyRow : OpenClaim := { program := "ythbeigcbmalldaadoor", sum := "8529e3bd95c46daa7bc9a643bc5c4bbab327956c89612e036f5b09dbed5e66d6", func := "rescript/rescriptlaw05.UnrlpOnly", spec := "unrlpOnly", inPlace := ["internal/bytealg.IndexByteString", "internal/bytealg.IndexString", "internal/abi.NoEscape", "internal/bytealg.MakeNoZero"], unfollowed := true, recurses := true, named := ["unicode/utf8.first", "unicode/utf8.acceptRanges", "internal/bytealg.MaxLen"], apart := false, laid := [("unicode/utf8.acceptRanges", laid_unicode_utf8_acceptRanges), ("unicode/utf8.first", laid_unicode_utf8_first)] }
def UnrlpOnlySaid : Prop := unrlpOnlyRow.holds Tryd.pinned (OpenSpec.ofChange unrlpOnlySpec)

/-- ITS FALSE NEIGHBOUR: 'it returns false'. Refute it at one input. -/
def unrlpOnlyWrong : ChangeSpec := { name := "unrlpOnly", fn := fun _ => fun
  | [d] => { results := [.lit (.bool false)], args := [d] }
  | _ => none }
def UnrlpOnlyWrongFalsely : Prop := unrlpOnlyRow.holds Tryd.pinned (OpenSpec.ofChange unrlpOnlyWrong)

/- THE SECOND FORM. 'bulk': how many values and letters a reading holds, each counted each time it is reached (what is shared counts as often as it is met; a slice's spare places count too). A statement '..UptoSaid' is the law's where the arguments, and the package variables that the reading takes, are together of bulk at most 1048576: NARROWER than '..Said'. Prove '..Said' where nothing that the law and all that it calls make is longer than what came in: it says more and counts as full. Else prove '..UptoSaid'. A law counts once. -/
mutual
def uptoBulk {H : Type} : DataW H → Nat
  | .lit (.string bytes) => bytes.length + 1
  | .lit _ => 1
  | .nil => 1
  | .ptr d => uptoBulk d + 1
  | .slice elems spare => uptoBulkAll elems + uptoBulkAll spare + 1
  | .agg parts => uptoBulkAll parts + 1
  | .iface _ d => uptoBulk d + 1
  | .map entries => uptoBulkEntries entries + 1
  | .held _ => 1
def uptoBulkAll {H : Type} : List (DataW H) → Nat
  | [] => 0
  | d :: r => uptoBulk d + uptoBulkAll r
def uptoBulkEntries {H : Type} : List (Lit × DataW H) → Nat
  | [] => 0
  | x :: r => uptoBulkEntry x + uptoBulkEntries r
def uptoBulkEntry {H : Type} : Lit × DataW H → Nat
  | (.string bytes, d) => bytes.length + uptoBulk d + 1
  | (_, d) => uptoBulk d + 1
 end
def uptoSmall : (H : Type) → List (DataW H) → Bool := fun _ ds => decide (uptoBulkAll ds ≤ 1048576)
def OpenSpec.upto (s : _root_.Go.ChangeSpec) : _root_.Go.OpenSpec := { _root_.Go.OpenSpec.ofChange s with cond := some uptoSmall }

/-- 'rescriptlaw05.UnrlpCut', WHERE WHAT IT READS IS OF BULK AT MOST 1048576: true; the input reads as it did. -/
def unrlpCutUptoRow : OpenClaim := { program := "ythbeigcbmalldaadoor", sum := "8529e3bd95c46daa7bc9a643bc5c4bbab327956c89612e036f5b09dbed5e66d6", func := "rescript/rescriptlaw05.UnrlpCut", spec := "unrlpCut", inPlace := ["internal/bytealg.IndexByteString", "internal/bytealg.IndexString", "internal/abi.NoEscape", "internal/bytealg.MakeNoZero"], unfollowed := true, recurses := true, named := ["unicode/utf8.first", "unicode/utf8.acceptRanges", "internal/bytealg.MaxLen"], loops := true, apart := false, laid := [("unicode/utf8.acceptRanges", laid_unicode_utf8_acceptRanges), ("unicode/utf8.first", laid_unicode_utf8_first)], narrowed := true }
def UnrlpCutUptoSaid : Prop := unrlpCutUptoRow.holds Tryd.pinned (OpenSpec.upto unrlpCutSpec)

/-- 'rescriptlaw05.UnrlpBack', WHERE WHAT IT READS IS OF BULK AT MOST 1048576: true; the input reads as it did. -/
def unrlpBackUptoRow : OpenClaim := { program := "ythbeigcbmalldaadoor", sum := "8529e3bd95c46daa7bc9a643bc5c4bbab327956c89612e036f5b09dbed5e66d6", func := "rescript/rescriptlaw05.UnrlpBack", spec := "unrlpBack", inPlace := ["internal/bytealg.IndexByteString", "internal/bytealg.IndexString", "internal/abi.NoEscape", "internal/bytealg.MakeNoZero"], unfollowed := true, recurses := true, named := ["unicode/utf8.first", "unicode/utf8.acceptRanges", "internal/bytealg.MaxLen"], loops := true, apart := false, laid := [("unicode/utf8.acceptRanges", laid_unicode_utf8_acceptRanges), ("unicode/utf8.first", laid_unicode_utf8_first)], narrowed := true }
def UnrlpBackUptoSaid : Prop := unrlpBackUptoRow.holds Tryd.pinned (OpenSpec.upto unrlpBackSpec)

/-- 'rescriptlaw05.UnrlpOnly', WHERE WHAT IT READS IS OF BULK AT MOST 1048576: true; the input reads as it did. -/
def unrlpOnlyUptoRow : OpenClaim := { program := "ythbeigcbmalldaadoor", sum := "8529e3bd95c46daa7bc9a643bc5c4bbab327956c89612e036f5b09dbed5e66d6", func := "rescript/rescriptlaw05.UnrlpOnly", spec := "unrlpOnly", inPlace := ["internal/bytealg.IndexByteString", "internal/bytealg.IndexString", "internal/abi.NoEscape", "internal/bytealg.MakeNoZero"], unfollowed := true, recurses := true, named := ["unicode/utf8.first", "unicode/utf8.acceptRanges", "internal/bytealg.MaxLen"], apart := false, laid := [("unicode/utf8.acceptRanges", laid_unicode_utf8_acceptRanges), ("unicode/utf8.first", laid_unicode_utf8_first)], narrowed := true }
def UnrlpOnlyUptoSaid : Prop := unrlpOnlyUptoRow.holds Tryd.pinned (OpenSpec.upto unrlpOnlySpec)

end Rows
end Go.Proofs.YthbeigcbmalldaaDoor
