/-
  NARROWER THAN 'FOR EVERY INPUT', by the rows' own cells (each row's printed sentence says how): RlpEncodes: loops, laid · RlpApart: loops, laid · RlpParts: loops, laid · RlpDeep: loops, laid · RlpShort: laid.
  DERIVED. THE GIVEN ROWS OF THIS SEAT. 5 by the template 'for every input the law returns true; each argument reads behind the call as it read before'; 0 by the template 'total and deterministic' (their statements: YtacfpjleejfdgaaDoorTotals.lean).
  GIVEN WITH THE SEED: the statements are not yours to turn. If you find one false, say at which input.
  Laid BY PROGRAM, IN A SANDBOX (cutbox-rows.mjs): the forced cells as the released guide's own fill.sh prints them over the translation 4b253b437ee47285… (all of the seat's roots in one cut). By AI agents, Wed Nov 11 2026. No macro, syntax, notation, axiom, sorry.
-/
import Derived.Test.YtacfpjleejfdgaaDoorChecked
import GoSem.PinnedTables
import GoSem.Claim
import GoSem.ClaimJoined
import GoSem.ClaimMapViews
import Derived.JoinedTies
import Derived.KernelRfl
namespace Go.Proofs.YtacfpjleejfdgaaDoor
/- THE CELL 'sum', in the pinned program and in every row, IS THE sha256 OF THE DUMP (.gsa) THAT YtacfpjleejfdgaaDoorProg.lean LOADS. Nothing in Lean hashes anything: it is a label: what it is worth is what the hold of that sum in a sandbox is worth. -/
noncomputable def Tryd.pinned : Pinned := { name := "ytacfpjleejfdgaadoor", sum := "4b253b437ee47285e819cf6384cadf7a0ca4af6e8da14f104530dc7003fd4ee3", checked := Tryd.checked }
namespace Rows
def none {H : Type} : Left H := { results := [], args := [] }

/- WHAT THE LISTED PACKAGE-LEVEL VARIABLES READ AS WHEN THE CALL BEGINS. Each datum BY PROGRAM (the guide's laid-datum.mjs) off the statement by which the dump's own 'gosem.cut.vars' lays the variable. In a bare row this is a premise. The card (YtacfpjleejfdgaaDoorCards.lean) ties it to the program's text. -/
def laid_unicode_utf8_acceptRanges {H : Type} : DataW H := .agg [.agg [.lit (.int .u8 128), .lit (.int .u8 191)], .agg [.lit (.int .u8 160), .lit (.int .u8 191)], .agg [.lit (.int .u8 128), .lit (.int .u8 159)], .agg [.lit (.int .u8 144), .lit (.int .u8 191)], .agg [.lit (.int .u8 128), .lit (.int .u8 143)], .agg [.lit (.int .u8 0), .lit (.int .u8 0)], .agg [.lit (.int .u8 0), .lit (.int .u8 0)], .agg [.lit (.int .u8 0), .lit (.int .u8 0)], .agg [.lit (.int .u8 0), .lit (.int .u8 0)], .agg [.lit (.int .u8 0), .lit (.int .u8 0)], .agg [.lit (.int .u8 0), .lit (.int .u8 0)], .agg [.lit (.int .u8 0), .lit (.int .u8 0)], .agg [.lit (.int .u8 0), .lit (.int .u8 0)], .agg [.lit (.int .u8 0), .lit (.int .u8 0)], .agg [.lit (.int .u8 0), .lit (.int .u8 0)], .agg [.lit (.int .u8 0), .lit (.int .u8 0)]]
/-- One of Go's own tables, pinned by name: the form's constant. -/
def laid_unicode_utf8_first : DataW Unit := Go.Pinned.utf8First

/-- 'rescriptlaw04.RlpEncodes': WHATEVER THE INPUT: true; the input reads as it did. -/
def rlpEncodesSpec : ChangeSpec := { name := "rlpEncodes", fn := fun _ => fun
  | [d1, d2] => { results := [.lit (.bool true)], args := [d1, d2] }
  | _ => none }
def rlpEncodesRow : OpenClaim := { program := "ytacfpjleejfdgaadoor", sum := "4b253b437ee47285e819cf6384cadf7a0ca4af6e8da14f104530dc7003fd4ee3", func := "rescript/rescriptlaw04.RlpEncodes", spec := "rlpEncodes", inPlace := ["internal/bytealg.IndexByteString", "internal/bytealg.IndexString", "internal/abi.NoEscape", "internal/bytealg.MakeNoZero"], unfollowed := true, recurses := true, named := ["unicode/utf8.first", "unicode/utf8.acceptRanges", "internal/bytealg.MaxLen"], loops := true, apart := false, laid := [("unicode/utf8.acceptRanges", laid_unicode_utf8_acceptRanges), ("unicode/utf8.first", laid_unicode_utf8_first)] }
def RlpEncodesSaid : Prop := rlpEncodesRow.holds Tryd.pinned (OpenSpec.ofChange rlpEncodesSpec)

/-- ITS FALSE NEIGHBOUR: 'it returns false'. Refute it at one input. -/
def rlpEncodesWrong : ChangeSpec := { name := "rlpEncodes", fn := fun _ => fun
  | [d1, d2] => { results := [.lit (.bool false)], args := [d1, d2] }
  | _ => none }
def RlpEncodesWrongFalsely : Prop := rlpEncodesRow.holds Tryd.pinned (OpenSpec.ofChange rlpEncodesWrong)

/-- 'rescriptlaw04.RlpApart': WHATEVER THE INPUT: true; the input reads as it did. -/
def rlpApartSpec : ChangeSpec := { name := "rlpApart", fn := fun _ => fun
  | [d1, d2] => { results := [.lit (.bool true)], args := [d1, d2] }
  | _ => none }
def rlpApartRow : OpenClaim := { program := "ytacfpjleejfdgaadoor", sum := "4b253b437ee47285e819cf6384cadf7a0ca4af6e8da14f104530dc7003fd4ee3", func := "rescript/rescriptlaw04.RlpApart", spec := "rlpApart", inPlace := ["internal/bytealg.IndexByteString", "internal/bytealg.IndexString", "internal/abi.NoEscape", "internal/bytealg.MakeNoZero"], unfollowed := true, recurses := true, named := ["unicode/utf8.first", "unicode/utf8.acceptRanges", "internal/bytealg.MaxLen"], loops := true, apart := false, laid := [("unicode/utf8.acceptRanges", laid_unicode_utf8_acceptRanges), ("unicode/utf8.first", laid_unicode_utf8_first)] }
def RlpApartSaid : Prop := rlpApartRow.holds Tryd.pinned (OpenSpec.ofChange rlpApartSpec)

/-- ITS FALSE NEIGHBOUR: 'it returns false'. Refute it at one input. -/
def rlpApartWrong : ChangeSpec := { name := "rlpApart", fn := fun _ => fun
  | [d1, d2] => { results := [.lit (.bool false)], args := [d1, d2] }
  | _ => none }
def RlpApartWrongFalsely : Prop := rlpApartRow.holds Tryd.pinned (OpenSpec.ofChange rlpApartWrong)

/-- 'rescriptlaw04.RlpParts': WHATEVER THE INPUT: true; the input reads as it did. -/
def rlpPartsSpec : ChangeSpec := { name := "rlpParts", fn := fun _ => fun
  | [d] => { results := [.lit (.bool true)], args := [d] }
  | _ => none }
def rlpPartsRow : OpenClaim := { program := "ytacfpjleejfdgaadoor", sum := "4b253b437ee47285e819cf6384cadf7a0ca4af6e8da14f104530dc7003fd4ee3", func := "rescript/rescriptlaw04.RlpParts", spec := "rlpParts", inPlace := ["internal/bytealg.IndexByteString", "internal/bytealg.IndexString", "internal/abi.NoEscape", "internal/bytealg.MakeNoZero"], unfollowed := true, recurses := true, named := ["unicode/utf8.first", "unicode/utf8.acceptRanges", "internal/bytealg.MaxLen"], loops := true, apart := false, laid := [("unicode/utf8.acceptRanges", laid_unicode_utf8_acceptRanges), ("unicode/utf8.first", laid_unicode_utf8_first)] }
def RlpPartsSaid : Prop := rlpPartsRow.holds Tryd.pinned (OpenSpec.ofChange rlpPartsSpec)

/-- ITS FALSE NEIGHBOUR: 'it returns false'. Refute it at one input. -/
def rlpPartsWrong : ChangeSpec := { name := "rlpParts", fn := fun _ => fun
  | [d] => { results := [.lit (.bool false)], args := [d] }
  | _ => none }
def RlpPartsWrongFalsely : Prop := rlpPartsRow.holds Tryd.pinned (OpenSpec.ofChange rlpPartsWrong)

/-- 'rescriptlaw04.RlpDeep': WHATEVER THE INPUT: true; the input reads as it did. -/
def rlpDeepSpec : ChangeSpec := { name := "rlpDeep", fn := fun _ => fun
  | [d] => { results := [.lit (.bool true)], args := [d] }
  | _ => none }
def rlpDeepRow : OpenClaim := { program := "ytacfpjleejfdgaadoor", sum := "4b253b437ee47285e819cf6384cadf7a0ca4af6e8da14f104530dc7003fd4ee3", func := "rescript/rescriptlaw04.RlpDeep", spec := "rlpDeep", inPlace := ["internal/bytealg.IndexByteString", "internal/bytealg.IndexString", "internal/abi.NoEscape", "internal/bytealg.MakeNoZero"], unfollowed := true, recurses := true, named := ["unicode/utf8.first", "unicode/utf8.acceptRanges", "internal/bytealg.MaxLen"], loops := true, apart := false, laid := [("unicode/utf8.acceptRanges", laid_unicode_utf8_acceptRanges), ("unicode/utf8.first", laid_unicode_utf8_first)] }
def RlpDeepSaid : Prop := rlpDeepRow.holds Tryd.pinned (OpenSpec.ofChange rlpDeepSpec)

/-- ITS FALSE NEIGHBOUR: 'it returns false'. Refute it at one input. -/
def rlpDeepWrong : ChangeSpec := { name := "rlpDeep", fn := fun _ => fun
  | [d] => { results := [.lit (.bool false)], args := [d] }
  | _ => none }
def RlpDeepWrongFalsely : Prop := rlpDeepRow.holds Tryd.pinned (OpenSpec.ofChange rlpDeepWrong)

/-- 'rescriptlaw04.RlpShort': WHATEVER THE INPUT: true; the input reads as it did. -/
def rlpShortSpec : ChangeSpec := { name := "rlpShort", fn := fun _ => fun
  | [d] => { results := [.lit (.bool true)], args := [d] }
  | _ => none }
def rlpShortRow : OpenClaim := { program := "ytacfpjleejfdgaadoor", sum := "4b253b437ee47285e819cf6384cadf7a0ca4af6e8da14f104530dc7003fd4ee3", func := "rescript/rescriptlaw04.RlpShort", spec := "rlpShort", inPlace := ["internal/bytealg.IndexByteString", "internal/bytealg.IndexString", "internal/abi.NoEscape", "internal/bytealg.MakeNoZero"], unfollowed := true, recurses := true, named := ["unicode/utf8.first", "unicode/utf8.acceptRanges", "internal/bytealg.MaxLen"], apart := false, laid := [("unicode/utf8.acceptRanges", laid_unicode_utf8_acceptRanges), ("unicode/utf8.first", laid_unicode_utf8_first)] }
def RlpShortSaid : Prop := rlpShortRow.holds Tryd.pinned (OpenSpec.ofChange rlpShortSpec)

/-- ITS FALSE NEIGHBOUR: 'it returns false'. Refute it at one input. -/
def rlpShortWrong : ChangeSpec := { name := "rlpShort", fn := fun _ => fun
  | [d] => { results := [.lit (.bool false)], args := [d] }
  | _ => none }
def RlpShortWrongFalsely : Prop := rlpShortRow.holds Tryd.pinned (OpenSpec.ofChange rlpShortWrong)

/- THE SECOND FORM. 'bulk': how many values and letters a reading holds, each counted each time it is reached (what is shared counts as often as it is met; a slice's spare places count too). A statement '..UptoSaid' is the law's where the arguments, and the package variables that the reading takes, are together of bulk at most 1048576: NARROWER than '..Said'. Prove '..Said' where nothing that the law and all that it calls make is longer than what came in: it says more and counts as full. Else prove '..UptoSaid'. A law counts once. -/
mutual
def uptoBulk {H : Type} : DataW H → Nat
  | .lit (.string bytes) => bytes.length + 1
  | .lit _ => 1
  | .nil => 1
  | .ptr d => uptoBulk d + 1
  | .slice elems spare => uptoBulkAll elems + uptoBulkAll spare + 1
  | .agg parts => uptoBulkAll parts + 1
  | .iface _ d => uptoBulk d + 1
  | .map entries => uptoBulkEntries entries + 1
  | .held _ => 1
def uptoBulkAll {H : Type} : List (DataW H) → Nat
  | [] => 0
  | d :: r => uptoBulk d + uptoBulkAll r
def uptoBulkEntries {H : Type} : List (Lit × DataW H) → Nat
  | [] => 0
  | x :: r => uptoBulkEntry x + uptoBulkEntries r
def uptoBulkEntry {H : Type} : Lit × DataW H → Nat
  | (.string bytes, d) => bytes.length + uptoBulk d + 1
  | (_, d) => uptoBulk d + 1
 end
def uptoSmall : (H : Type) → List (DataW H) → Bool := fun _ ds => decide (uptoBulkAll ds ≤ 1048576)
def OpenSpec.upto (s : _root_.Go.ChangeSpec) : _root_.Go.OpenSpec := { _root_.Go.OpenSpec.ofChange s with cond := some uptoSmall }

/-- 'rescriptlaw04.RlpEncodes', WHERE WHAT IT READS IS OF BULK AT MOST 1048576: true; the input reads as it did. -/
def rlpEncodesUptoRow : OpenClaim := { program := "ytacfpjleejfdgaadoor", sum := "4b253b437ee47285e819cf6384cadf7a0ca4af6e8da14f104530dc7003fd4ee3", func := "rescript/rescriptlaw04.RlpEncodes", spec := "rlpEncodes", inPlace := ["internal/bytealg.IndexByteString", "internal/bytealg.IndexString", "internal/abi.NoEscape", "internal/bytealg.MakeNoZero"], unfollowed := true, recurses := true, named := ["unicode/utf8.first", "unicode/utf8.acceptRanges", "internal/bytealg.MaxLen"], loops := true, apart := false, laid := [("unicode/utf8.acceptRanges", laid_unicode_utf8_acceptRanges), ("unicode/utf8.first", laid_unicode_utf8_first)], narrowed := true }
def RlpEncodesUptoSaid : Prop := rlpEncodesUptoRow.holds Tryd.pinned (OpenSpec.upto rlpEncodesSpec)

/-- 'rescriptlaw04.RlpApart', WHERE WHAT IT READS IS OF BULK AT MOST 1048576: true; the input reads as it did. -/
def rlpApartUptoRow : OpenClaim := { program := "ytacfpjleejfdgaadoor", sum := "4b253b437ee47285e819cf6384cadf7a0ca4af6e8da14f104530dc7003fd4ee3", func := "rescript/rescriptlaw04.RlpApart", spec := "rlpApart", inPlace := ["internal/bytealg.IndexByteString", "internal/bytealg.IndexString", "internal/abi.NoEscape", "internal/bytealg.MakeNoZero"], unfollowed := true, recurses := true, named := ["unicode/utf8.first", "unicode/utf8.acceptRanges", "internal/bytealg.MaxLen"], loops := true, apart := false, laid := [("unicode/utf8.acceptRanges", laid_unicode_utf8_acceptRanges), ("unicode/utf8.first", laid_unicode_utf8_first)], narrowed := true }
def RlpApartUptoSaid : Prop := rlpApartUptoRow.holds Tryd.pinned (OpenSpec.upto rlpApartSpec)

/-- 'rescriptlaw04.RlpParts', WHERE WHAT IT READS IS OF BULK AT MOST 1048576: true; the input reads as it did. -/
def rlpPartsUptoRow : OpenClaim := { program := "ytacfpjleejfdgaadoor", sum := "4b253b437ee47285e819cf6384cadf7a0ca4af6e8da14f104530dc7003fd4ee3", func := "rescript/rescriptlaw04.RlpParts", spec := "rlpParts", inPlace := ["internal/bytealg.IndexByteString", "internal/bytealg.IndexString", "internal/abi.NoEscape", "internal/bytealg.MakeNoZero"], unfollowed := true, recurses := true, named := ["unicode/utf8.first", "unicode/utf8.acceptRanges", "internal/bytealg.MaxLen"], loops := true, apart := false, laid := [("unicode/utf8.acceptRanges", laid_unicode_utf8_acceptRanges), ("unicode/utf8.first", laid_unicode_utf8_first)], narrowed := true }
def RlpPartsUptoSaid : Prop := rlpPartsUptoRow.holds Tryd.pinned (OpenSpec.upto rlpPartsSpec)

/-- 'rescriptlaw04.RlpDeep', WHERE WHAT IT READS IS OF BULK AT MOST 1048576: true; the input reads as it did. -/
def rlpDeepUptoRow : OpenClaim := { program := "ytacfpjleejfdgaadoor", sum := "4b253b437ee47285e819cf6384cadf7a0ca4af6e8da14f104530dc7003fd4ee3", func := "rescript/rescriptlaw04.RlpDeep", spec := "rlpDeep", inPlace := ["internal/bytealg.IndexByteString", "internal/bytealg.IndexString", "internal/abi.NoEscape", "internal/bytealg.MakeNoZero"], unfollowed := true, recurses := true, named := ["unicode/utf8.first", "unicode/utf8.acceptRanges", "internal/bytealg.MaxLen"], loops := true, apart := false, laid := [("unicode/utf8.acceptRanges", laid_unicode_utf8_acceptRanges), ("unicode/utf8.first", laid_unicode_utf8_first)], narrowed := true }
def RlpDeepUptoSaid : Prop := rlpDeepUptoRow.holds Tryd.pinned (OpenSpec.upto rlpDeepSpec)

/-- 'rescriptlaw04.RlpShort', WHERE WHAT IT READS IS OF BULK AT MOST 1048576: true; the input reads as it did. -/
def rlpShortUptoRow : OpenClaim := { program := "ytacfpjleejfdgaadoor", sum := "4b253b437ee47285e819cf6384cadf7a0ca4af6e8da14f104530dc7003fd4ee3", func := "rescript/rescriptlaw04.RlpShort", spec := "rlpShort", inPlace := ["internal/bytealg.IndexByteString", "internal/bytealg.IndexString", "internal/abi.NoEscape", "internal/bytealg.MakeNoZero"], unfollowed := true, recurses := true, named := ["unicode/utf8.first", "unicode/utf8.acceptRanges", "internal/bytealg.MaxLen"], apart := false, laid := [("unicode/utf8.acceptRanges", laid_unicode_utf8_acceptRanges), ("unicode/utf8.first", laid_unicode_utf8_first)], narrowed := true }
def RlpShortUptoSaid : Prop := rlpShortUptoRow.holds Tryd.pinned (OpenSpec.upto rlpShortSpec)

end Rows
end Go.Proofs.YtacfpjleejfdgaaDoor
