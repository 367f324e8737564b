/-
  No cell of these rows narrows 'for every input' (looked for: loops, veiled, ifaces, maps, wideKeys, modest, calm, conditions, laid).
  DERIVED. THE GIVEN ROWS OF THIS SEAT. 6 by the template 'for every input the law returns true; each argument reads behind the call as it read before'; 0 by the template 'total and deterministic' (their statements: YtdkijdedfpfbnaaTotals.lean).
  GIVEN WITH THE SEED: the statements are not yours to turn. If you find one false, say at which input.
  Laid BY PROGRAM, IN A SANDBOX (cutbox-rows.mjs): the forced cells as the released guide's own fill.sh prints them over the translation 4372656c2ab79be7… (all of the seat's roots in one cut). By AI agents, Wed Nov 11 2026. No macro, syntax, notation, axiom, sorry.
-/
import Derived.Test.YtdkijdedfpfbnaaChecked
import GoSem.Claim
import GoSem.ClaimJoined
import GoSem.ClaimMapViews
import Derived.JoinedTies
import Derived.KernelRfl
namespace Go.Proofs.Ytdkijdedfpfbnaa
/- THE CELL 'sum', in the pinned program and in every row, IS THE sha256 OF THE DUMP (.gsa) THAT YtdkijdedfpfbnaaProg.lean LOADS. Nothing in Lean hashes anything: it is a label: what it is worth is what the hold of that sum in a sandbox is worth. -/
noncomputable def Try.pinned : Pinned := { name := "ytdkijdedfpfbnaa", sum := "4372656c2ab79be77c1d4d465911db22389aca602fa2ff5a0543da7be5a1e8c3", checked := Try.checked }
namespace Rows
def none {H : Type} : Left H := { results := [], args := [] }

/-- 'rescriptlaw15.ChannelSplits': WHATEVER THE INPUT: true; the input reads as it did. -/
def channelSplitsSpec : ChangeSpec := { name := "channelSplits", fn := fun _ => fun
  | [d1, d2, d3] => { results := [.lit (.bool true)], args := [d1, d2, d3] }
  | _ => none }
def channelSplitsRow : OpenClaim := { program := "ytdkijdedfpfbnaa", sum := "4372656c2ab79be77c1d4d465911db22389aca602fa2ff5a0543da7be5a1e8c3", func := "rescript/rescriptlaw15.ChannelSplits", spec := "channelSplits", inPlace := ["slices.overlaps[rescript/api.Frame]", "internal/abi.NoEscape"], unfollowed := true, recurses := true, apart := false }
def ChannelSplitsSaid : Prop := channelSplitsRow.holds Try.pinned (OpenSpec.ofChange channelSplitsSpec)

/-- ITS FALSE NEIGHBOUR: 'it returns false'. Refute it at one input. -/
def channelSplitsWrong : ChangeSpec := { name := "channelSplits", fn := fun _ => fun
  | [d1, d2, d3] => { results := [.lit (.bool false)], args := [d1, d2, d3] }
  | _ => none }
def ChannelSplitsWrongFalsely : Prop := channelSplitsRow.holds Try.pinned (OpenSpec.ofChange channelSplitsWrong)

/-- 'rescriptlaw15.ChannelHears': WHATEVER THE INPUT: true; the input reads as it did. -/
def channelHearsSpec : ChangeSpec := { name := "channelHears", fn := fun _ => fun
  | [d1, d2] => { results := [.lit (.bool true)], args := [d1, d2] }
  | _ => none }
def channelHearsRow : OpenClaim := { program := "ytdkijdedfpfbnaa", sum := "4372656c2ab79be77c1d4d465911db22389aca602fa2ff5a0543da7be5a1e8c3", func := "rescript/rescriptlaw15.ChannelHears", spec := "channelHears", inPlace := ["slices.overlaps[rescript/api.Frame]", "internal/abi.NoEscape"], unfollowed := true, recurses := true, apart := false }
def ChannelHearsSaid : Prop := channelHearsRow.holds Try.pinned (OpenSpec.ofChange channelHearsSpec)

/-- ITS FALSE NEIGHBOUR: 'it returns false'. Refute it at one input. -/
def channelHearsWrong : ChangeSpec := { name := "channelHears", fn := fun _ => fun
  | [d1, d2] => { results := [.lit (.bool false)], args := [d1, d2] }
  | _ => none }
def ChannelHearsWrongFalsely : Prop := channelHearsRow.holds Try.pinned (OpenSpec.ofChange channelHearsWrong)

/-- 'rescriptlaw15.ChannelBack': WHATEVER THE INPUT: true; the input reads as it did. -/
def channelBackSpec : ChangeSpec := { name := "channelBack", fn := fun _ => fun
  | [d1, d2, d3] => { results := [.lit (.bool true)], args := [d1, d2, d3] }
  | _ => none }
def channelBackRow : OpenClaim := { program := "ytdkijdedfpfbnaa", sum := "4372656c2ab79be77c1d4d465911db22389aca602fa2ff5a0543da7be5a1e8c3", func := "rescript/rescriptlaw15.ChannelBack", spec := "channelBack", inPlace := ["slices.overlaps[rescript/api.Frame]", "internal/abi.NoEscape"], unfollowed := true, recurses := true, apart := false }
def ChannelBackSaid : Prop := channelBackRow.holds Try.pinned (OpenSpec.ofChange channelBackSpec)

/-- ITS FALSE NEIGHBOUR: 'it returns false'. Refute it at one input. -/
def channelBackWrong : ChangeSpec := { name := "channelBack", fn := fun _ => fun
  | [d1, d2, d3] => { results := [.lit (.bool false)], args := [d1, d2, d3] }
  | _ => none }
def ChannelBackWrongFalsely : Prop := channelBackRow.holds Try.pinned (OpenSpec.ofChange channelBackWrong)

/-- 'rescriptlaw15.ChannelAny': WHATEVER THE INPUT: true; the input reads as it did. -/
def channelAnySpec : ChangeSpec := { name := "channelAny", fn := fun _ => fun
  | [d1, d2, d3, d4] => { results := [.lit (.bool true)], args := [d1, d2, d3, d4] }
  | _ => none }
def channelAnyRow : OpenClaim := { program := "ytdkijdedfpfbnaa", sum := "4372656c2ab79be77c1d4d465911db22389aca602fa2ff5a0543da7be5a1e8c3", func := "rescript/rescriptlaw15.ChannelAny", spec := "channelAny", inPlace := ["slices.overlaps[rescript/api.Frame]", "internal/abi.NoEscape"], unfollowed := true, recurses := true, apart := false }
def ChannelAnySaid : Prop := channelAnyRow.holds Try.pinned (OpenSpec.ofChange channelAnySpec)

/-- ITS FALSE NEIGHBOUR: 'it returns false'. Refute it at one input. -/
def channelAnyWrong : ChangeSpec := { name := "channelAny", fn := fun _ => fun
  | [d1, d2, d3, d4] => { results := [.lit (.bool false)], args := [d1, d2, d3, d4] }
  | _ => none }
def ChannelAnyWrongFalsely : Prop := channelAnyRow.holds Try.pinned (OpenSpec.ofChange channelAnyWrong)

/-- 'rescriptlaw15.ChannelKeeps': WHATEVER THE INPUT: true; the input reads as it did. -/
def channelKeepsSpec : ChangeSpec := { name := "channelKeeps", fn := fun _ => fun
  | [d1, d2] => { results := [.lit (.bool true)], args := [d1, d2] }
  | _ => none }
def channelKeepsRow : OpenClaim := { program := "ytdkijdedfpfbnaa", sum := "4372656c2ab79be77c1d4d465911db22389aca602fa2ff5a0543da7be5a1e8c3", func := "rescript/rescriptlaw15.ChannelKeeps", spec := "channelKeeps", inPlace := ["slices.overlaps[rescript/api.Frame]", "internal/abi.NoEscape"], unfollowed := true, recurses := true, apart := false }
def ChannelKeepsSaid : Prop := channelKeepsRow.holds Try.pinned (OpenSpec.ofChange channelKeepsSpec)

/-- ITS FALSE NEIGHBOUR: 'it returns false'. Refute it at one input. -/
def channelKeepsWrong : ChangeSpec := { name := "channelKeeps", fn := fun _ => fun
  | [d1, d2] => { results := [.lit (.bool false)], args := [d1, d2] }
  | _ => none }
def ChannelKeepsWrongFalsely : Prop := channelKeepsRow.holds Try.pinned (OpenSpec.ofChange channelKeepsWrong)

/-- 'rescriptlaw15.ChannelCount': WHATEVER THE INPUT: true; the input reads as it did. -/
def channelCountSpec : ChangeSpec := { name := "channelCount", fn := fun _ => fun
  | [d1, d2, d3] => { results := [.lit (.bool true)], args := [d1, d2, d3] }
  | _ => none }
def channelCountRow : OpenClaim := { program := "ytdkijdedfpfbnaa", sum := "4372656c2ab79be77c1d4d465911db22389aca602fa2ff5a0543da7be5a1e8c3", func := "rescript/rescriptlaw15.ChannelCount", spec := "channelCount", inPlace := ["slices.overlaps[rescript/api.Frame]", "internal/abi.NoEscape"], unfollowed := true, recurses := true, apart := false }
def ChannelCountSaid : Prop := channelCountRow.holds Try.pinned (OpenSpec.ofChange channelCountSpec)

/-- ITS FALSE NEIGHBOUR: 'it returns false'. Refute it at one input. -/
def channelCountWrong : ChangeSpec := { name := "channelCount", fn := fun _ => fun
  | [d1, d2, d3] => { results := [.lit (.bool false)], args := [d1, d2, d3] }
  | _ => none }
def ChannelCountWrongFalsely : Prop := channelCountRow.holds Try.pinned (OpenSpec.ofChange channelCountWrong)

/- THE SECOND FORM. 'bulk': how many values and letters a reading holds, each counted each time it is reached (what is shared counts as often as it is met; a slice's spare places count too). A statement '..UptoSaid' is the law's where the arguments, and the package variables that the reading takes, are together of bulk at most 1048576: NARROWER than '..Said'. Prove '..Said' where nothing that the law and all that it calls make is longer than what came in: it says more and counts as full. Else prove '..UptoSaid'. A law counts once. -/
mutual
def uptoBulk {H : Type} : DataW H → Nat
  | .lit (.string bytes) => bytes.length + 1
  | .lit _ => 1
  | .nil => 1
  | .ptr d => uptoBulk d + 1
  | .slice elems spare => uptoBulkAll elems + uptoBulkAll spare + 1
  | .agg parts => uptoBulkAll parts + 1
  | .iface _ d => uptoBulk d + 1
  | .map entries => uptoBulkEntries entries + 1
  | .held _ => 1
def uptoBulkAll {H : Type} : List (DataW H) → Nat
  | [] => 0
  | d :: r => uptoBulk d + uptoBulkAll r
def uptoBulkEntries {H : Type} : List (Lit × DataW H) → Nat
  | [] => 0
  | x :: r => uptoBulkEntry x + uptoBulkEntries r
def uptoBulkEntry {H : Type} : Lit × DataW H → Nat
  | (.string bytes, d) => bytes.length + uptoBulk d + 1
  | (_, d) => uptoBulk d + 1
 end
def uptoSmall : (H : Type) → List (DataW H) → Bool := fun _ ds => decide (uptoBulkAll ds ≤ 1048576)
def OpenSpec.upto (s : _root_.Go.ChangeSpec) : _root_.Go.OpenSpec := { _root_.Go.OpenSpec.ofChange s with cond := some uptoSmall }

/-- 'rescriptlaw15.ChannelSplits', WHERE WHAT IT READS IS OF BULK AT MOST 1048576: true; the input reads as it did. -/
def channelSplitsUptoRow : OpenClaim := { program := "ytdkijdedfpfbnaa", sum := "4372656c2ab79be77c1d4d465911db22389aca602fa2ff5a0543da7be5a1e8c3", func := "rescript/rescriptlaw15.ChannelSplits", spec := "channelSplits", inPlace := ["slices.overlaps[rescript/api.Frame]", "internal/abi.NoEscape"], unfollowed := true, recurses := true, apart := false, narrowed := true }
def ChannelSplitsUptoSaid : Prop := channelSplitsUptoRow.holds Try.pinned (OpenSpec.upto channelSplitsSpec)

/-- 'rescriptlaw15.ChannelHears', WHERE WHAT IT READS IS OF BULK AT MOST 1048576: true; the input reads as it did. -/
def channelHearsUptoRow : OpenClaim := { program := "ytdkijdedfpfbnaa", sum := "4372656c2ab79be77c1d4d465911db22389aca602fa2ff5a0543da7be5a1e8c3", func := "rescript/rescriptlaw15.ChannelHears", spec := "channelHears", inPlace := ["slices.overlaps[rescript/api.Frame]", "internal/abi.NoEscape"], unfollowed := true, recurses := true, apart := false, narrowed := true }
def ChannelHearsUptoSaid : Prop := channelHearsUptoRow.holds Try.pinned (OpenSpec.upto channelHearsSpec)

/-- 'rescriptlaw15.ChannelBack', WHERE WHAT IT READS IS OF BULK AT MOST 1048576: true; the input reads as it did. -/
def channelBackUptoRow : OpenClaim := { program := "ytdkijdedfpfbnaa", sum := "4372656c2ab79be77c1d4d465911db22389aca602fa2ff5a0543da7be5a1e8c3", func := "rescript/rescriptlaw15.ChannelBack", spec := "channelBack", inPlace := ["slices.overlaps[rescript/api.Frame]", "internal/abi.NoEscape"], unfollowed := true, recurses := true, apart := false, narrowed := true }
def ChannelBackUptoSaid : Prop := channelBackUptoRow.holds Try.pinned (OpenSpec.upto channelBackSpec)

/-- 'rescriptlaw15.ChannelAny', WHERE WHAT IT READS IS OF BULK AT MOST 1048576: true; the input reads as it did. -/
def channelAnyUptoRow : OpenClaim := { program := "ytdkijdedfpfbnaa", sum := "4372656c2ab79be77c1d4d465911db22389aca602fa2ff5a0543da7be5a1e8c3", func := "rescript/rescriptlaw15.ChannelAny", spec := "channelAny", inPlace := ["slices.overlaps[rescript/api.Frame]", "internal/abi.NoEscape"], unfollowed := true, recurses := true, apart := false, narrowed := true }
def ChannelAnyUptoSaid : Prop := channelAnyUptoRow.holds Try.pinned (OpenSpec.upto channelAnySpec)

/-- 'rescriptlaw15.ChannelKeeps', WHERE WHAT IT READS IS OF BULK AT MOST 1048576: true; the input reads as it did. -/
def channelKeepsUptoRow : OpenClaim := { program := "ytdkijdedfpfbnaa", sum := "4372656c2ab79be77c1d4d465911db22389aca602fa2ff5a0543da7be5a1e8c3", func := "rescript/rescriptlaw15.ChannelKeeps", spec := "channelKeeps", inPlace := ["slices.overlaps[rescript/api.Frame]", "internal/abi.NoEscape"], unfollowed := true, recurses := true, apart := false, narrowed := true }
def ChannelKeepsUptoSaid : Prop := channelKeepsUptoRow.holds Try.pinned (OpenSpec.upto channelKeepsSpec)

/-- 'rescriptlaw15.ChannelCount', WHERE WHAT IT READS IS OF BULK AT MOST 1048576: true; the input reads as it did. -/
def channelCountUptoRow : OpenClaim := { program := "ytdkijdedfpfbnaa", sum := "4372656c2ab79be77c1d4d465911db22389aca602fa2ff5a0543da7be5a1e8c3", func := "rescript/rescriptlaw15.ChannelCount", spec := "channelCount", inPlace := ["slices.overlaps[rescript/api.Frame]", "internal/abi.NoEscape"], unfollowed := true, recurses := true, apart := false, narrowed := true }
def ChannelCountUptoSaid : Prop := channelCountUptoRow.holds Try.pinned (OpenSpec.upto channelCountSpec)

end Rows
end Go.Proofs.Ytdkijdedfpfbnaa
