/-
  No cell of these rows narrows 'for every input' (looked for: loops, veiled, ifaces, maps, wideKeys, modest, calm, conditions, laid).
  DERIVED. THE GIVEN ROWS OF THIS SEAT. 5 by the template 'for every input the law returns true; each argument reads behind the call as it read before'; 0 by the template 'total and deterministic' (their statements: YtihkbhogapopdaaTotals.lean).
  GIVEN WITH THE SEED: the statements are not yours to turn. If you find one false, say at which input.
  Laid BY PROGRAM, IN A SANDBOX (cutbox-rows.mjs): the forced cells as the released guide's own fill.sh prints them over the translation 78a17cecdf8ebe9c… (all of the seat's roots in one cut). By AI agents, Wed Nov 11 2026. No macro, syntax, notation, axiom, sorry.
-/
import Derived.Test.YtihkbhogapopdaaChecked
import GoSem.Claim
import GoSem.ClaimJoined
import GoSem.ClaimMapViews
import Derived.JoinedTies
import Derived.KernelRfl
namespace Go.Proofs.Ytihkbhogapopdaa
/- THE CELL 'sum', in the pinned program and in every row, IS THE sha256 OF THE DUMP (.gsa) THAT YtihkbhogapopdaaProg.lean LOADS. Nothing in Lean hashes anything: it is a label: what it is worth is what the hold of that sum in a sandbox is worth. -/
noncomputable def Try.pinned : Pinned := { name := "ytihkbhogapopdaa", sum := "78a17cecdf8ebe9c93f27ced7b67d85371f8eb96ef57e56200f6cee2085ef5db", checked := Try.checked }
namespace Rows
def none {H : Type} : Left H := { results := [], args := [] }

/-- 'rescriptlaw03.KeccakPermutes': WHATEVER THE INPUT: true; the input reads as it did. -/
def keccakPermutesSpec : ChangeSpec := { name := "keccakPermutes", fn := fun _ => fun
  | [d] => { results := [.lit (.bool true)], args := [d] }
  | _ => none }
def keccakPermutesRow : OpenClaim := { program := "ytihkbhogapopdaa", sum := "78a17cecdf8ebe9c93f27ced7b67d85371f8eb96ef57e56200f6cee2085ef5db", func := "rescript/rescriptlaw03.KeccakPermutes", spec := "keccakPermutes", unfollowed := true, recurses := true, apart := false }
def KeccakPermutesSaid : Prop := keccakPermutesRow.holds Try.pinned (OpenSpec.ofChange keccakPermutesSpec)

/-- ITS FALSE NEIGHBOUR: 'it returns false'. Refute it at one input. -/
def keccakPermutesWrong : ChangeSpec := { name := "keccakPermutes", fn := fun _ => fun
  | [d] => { results := [.lit (.bool false)], args := [d] }
  | _ => none }
def KeccakPermutesWrongFalsely : Prop := keccakPermutesRow.holds Try.pinned (OpenSpec.ofChange keccakPermutesWrong)

/-- 'rescriptlaw03.KeccakSums': WHATEVER THE INPUT: true; the input reads as it did. -/
def keccakSumsSpec : ChangeSpec := { name := "keccakSums", fn := fun _ => fun
  | [d1, d2] => { results := [.lit (.bool true)], args := [d1, d2] }
  | _ => none }
def keccakSumsRow : OpenClaim := { program := "ytihkbhogapopdaa", sum := "78a17cecdf8ebe9c93f27ced7b67d85371f8eb96ef57e56200f6cee2085ef5db", func := "rescript/rescriptlaw03.KeccakSums", spec := "keccakSums", unfollowed := true, recurses := true, apart := false }
def KeccakSumsSaid : Prop := keccakSumsRow.holds Try.pinned (OpenSpec.ofChange keccakSumsSpec)

/-- ITS FALSE NEIGHBOUR: 'it returns false'. Refute it at one input. -/
def keccakSumsWrong : ChangeSpec := { name := "keccakSums", fn := fun _ => fun
  | [d1, d2] => { results := [.lit (.bool false)], args := [d1, d2] }
  | _ => none }
def KeccakSumsWrongFalsely : Prop := keccakSumsRow.holds Try.pinned (OpenSpec.ofChange keccakSumsWrong)

/-- 'rescriptlaw03.KeccakApart': WHATEVER THE INPUT: true; the input reads as it did. -/
def keccakApartSpec : ChangeSpec := { name := "keccakApart", fn := fun _ => fun
  | [d1, d2] => { results := [.lit (.bool true)], args := [d1, d2] }
  | _ => none }
def keccakApartRow : OpenClaim := { program := "ytihkbhogapopdaa", sum := "78a17cecdf8ebe9c93f27ced7b67d85371f8eb96ef57e56200f6cee2085ef5db", func := "rescript/rescriptlaw03.KeccakApart", spec := "keccakApart", unfollowed := true, recurses := true, apart := false }
def KeccakApartSaid : Prop := keccakApartRow.holds Try.pinned (OpenSpec.ofChange keccakApartSpec)

/-- ITS FALSE NEIGHBOUR: 'it returns false'. Refute it at one input. -/
def keccakApartWrong : ChangeSpec := { name := "keccakApart", fn := fun _ => fun
  | [d1, d2] => { results := [.lit (.bool false)], args := [d1, d2] }
  | _ => none }
def KeccakApartWrongFalsely : Prop := keccakApartRow.holds Try.pinned (OpenSpec.ofChange keccakApartWrong)

/-- 'rescriptlaw03.KeccakSponge': WHATEVER THE INPUT: true; the input reads as it did. -/
def keccakSpongeSpec : ChangeSpec := { name := "keccakSponge", fn := fun _ => fun
  | [d] => { results := [.lit (.bool true)], args := [d] }
  | _ => none }
def keccakSpongeRow : OpenClaim := { program := "ytihkbhogapopdaa", sum := "78a17cecdf8ebe9c93f27ced7b67d85371f8eb96ef57e56200f6cee2085ef5db", func := "rescript/rescriptlaw03.KeccakSponge", spec := "keccakSponge", unfollowed := true, recurses := true, apart := false }
def KeccakSpongeSaid : Prop := keccakSpongeRow.holds Try.pinned (OpenSpec.ofChange keccakSpongeSpec)

/-- ITS FALSE NEIGHBOUR: 'it returns false'. Refute it at one input. -/
def keccakSpongeWrong : ChangeSpec := { name := "keccakSponge", fn := fun _ => fun
  | [d] => { results := [.lit (.bool false)], args := [d] }
  | _ => none }
def KeccakSpongeWrongFalsely : Prop := keccakSpongeRow.holds Try.pinned (OpenSpec.ofChange keccakSpongeWrong)

/-- 'rescriptlaw03.KeccakPads': WHATEVER THE INPUT: true; the input reads as it did. -/
def keccakPadsSpec : ChangeSpec := { name := "keccakPads", fn := fun _ => fun
  | [d1, d2] => { results := [.lit (.bool true)], args := [d1, d2] }
  | _ => none }
def keccakPadsRow : OpenClaim := { program := "ytihkbhogapopdaa", sum := "78a17cecdf8ebe9c93f27ced7b67d85371f8eb96ef57e56200f6cee2085ef5db", func := "rescript/rescriptlaw03.KeccakPads", spec := "keccakPads", unfollowed := true, recurses := true, apart := false }
def KeccakPadsSaid : Prop := keccakPadsRow.holds Try.pinned (OpenSpec.ofChange keccakPadsSpec)

/-- ITS FALSE NEIGHBOUR: 'it returns false'. Refute it at one input. -/
def keccakPadsWrong : ChangeSpec := { name := "keccakPads", fn := fun _ => fun
  | [d1, d2] => { results := [.lit (.bool false)], args := [d1, d2] }
  | _ => none }
def KeccakPadsWrongFalsely : Prop := keccakPadsRow.holds Try.pinned (OpenSpec.ofChange keccakPadsWrong)

/- THE SECOND FORM. 'bulk': how many values and letters a reading holds, each counted each time it is reached (what is shared counts as often as it is met; a slice's spare places count too). A statement '..UptoSaid' is the law's where the arguments, and the package variables that the reading takes, are together of bulk at most 1048576: NARROWER than '..Said'. Prove '..Said' where nothing that the law and all that it calls make is longer than what came in: it says more and counts as full. Else prove '..UptoSaid'. A law counts once. -/
mutual
def uptoBulk {H : Type} : DataW H → Nat
  | .lit (.string bytes) => bytes.length + 1
  | .lit _ => 1
  | .nil => 1
  | .ptr d => uptoBulk d + 1
  | .slice elems spare => uptoBulkAll elems + uptoBulkAll spare + 1
  | .agg parts => uptoBulkAll parts + 1
  | .iface _ d => uptoBulk d + 1
  | .map entries => uptoBulkEntries entries + 1
  | .held _ => 1
def uptoBulkAll {H : Type} : List (DataW H) → Nat
  | [] => 0
  | d :: r => uptoBulk d + uptoBulkAll r
def uptoBulkEntries {H : Type} : List (Lit × DataW H) → Nat
  | [] => 0
  | x :: r => uptoBulkEntry x + uptoBulkEntries r
def uptoBulkEntry {H : Type} : Lit × DataW H → Nat
  | (.string bytes, d) => bytes.length + uptoBulk d + 1
  | (_, d) => uptoBulk d + 1
 end
def uptoSmall : (H : Type) → List (DataW H) → Bool := fun _ ds => decide (uptoBulkAll ds ≤ 1048576)
def OpenSpec.upto (s : _root_.Go.ChangeSpec) : _root_.Go.OpenSpec := { _root_.Go.OpenSpec.ofChange s with cond := some uptoSmall }

/-- 'rescriptlaw03.KeccakPermutes', WHERE WHAT IT READS IS OF BULK AT MOST 1048576: true; the input reads as it did. -/
def keccakPermutesUptoRow : OpenClaim := { program := "ytihkbhogapopdaa", sum := "78a17cecdf8ebe9c93f27ced7b67d85371f8eb96ef57e56200f6cee2085ef5db", func := "rescript/rescriptlaw03.KeccakPermutes", spec := "keccakPermutes", unfollowed := true, recurses := true, apart := false, narrowed := true }
def KeccakPermutesUptoSaid : Prop := keccakPermutesUptoRow.holds Try.pinned (OpenSpec.upto keccakPermutesSpec)

/-- 'rescriptlaw03.KeccakSums', WHERE WHAT IT READS IS OF BULK AT MOST 1048576: true; the input reads as it did. -/
def keccakSumsUptoRow : OpenClaim := { program := "ytihkbhogapopdaa", sum := "78a17cecdf8ebe9c93f27ced7b67d85371f8eb96ef57e56200f6cee2085ef5db", func := "rescript/rescriptlaw03.KeccakSums", spec := "keccakSums", unfollowed := true, recurses := true, apart := false, narrowed := true }
def KeccakSumsUptoSaid : Prop := keccakSumsUptoRow.holds Try.pinned (OpenSpec.upto keccakSumsSpec)

/-- 'rescriptlaw03.KeccakApart', WHERE WHAT IT READS IS OF BULK AT MOST 1048576: true; the input reads as it did. -/
def keccakApartUptoRow : OpenClaim := { program := "ytihkbhogapopdaa", sum := "78a17cecdf8ebe9c93f27ced7b67d85371f8eb96ef57e56200f6cee2085ef5db", func := "rescript/rescriptlaw03.KeccakApart", spec := "keccakApart", unfollowed := true, recurses := true, apart := false, narrowed := true }
def KeccakApartUptoSaid : Prop := keccakApartUptoRow.holds Try.pinned (OpenSpec.upto keccakApartSpec)

/-- 'rescriptlaw03.KeccakSponge', WHERE WHAT IT READS IS OF BULK AT MOST 1048576: true; the input reads as it did. -/
def keccakSpongeUptoRow : OpenClaim := { program := "ytihkbhogapopdaa", sum := "78a17cecdf8ebe9c93f27ced7b67d85371f8eb96ef57e56200f6cee2085ef5db", func := "rescript/rescriptlaw03.KeccakSponge", spec := "keccakSponge", unfollowed := true, recurses := true, apart := false, narrowed := true }
def KeccakSpongeUptoSaid : Prop := keccakSpongeUptoRow.holds Try.pinned (OpenSpec.upto keccakSpongeSpec)

/-- 'rescriptlaw03.KeccakPads', WHERE WHAT IT READS IS OF BULK AT MOST 1048576: true; the input reads as it did. -/
def keccakPadsUptoRow : OpenClaim := { program := "ytihkbhogapopdaa", sum := "78a17cecdf8ebe9c93f27ced7b67d85371f8eb96ef57e56200f6cee2085ef5db", func := "rescript/rescriptlaw03.KeccakPads", spec := "keccakPads", unfollowed := true, recurses := true, apart := false, narrowed := true }
def KeccakPadsUptoSaid : Prop := keccakPadsUptoRow.holds Try.pinned (OpenSpec.upto keccakPadsSpec)

end Rows
end Go.Proofs.Ytihkbhogapopdaa
