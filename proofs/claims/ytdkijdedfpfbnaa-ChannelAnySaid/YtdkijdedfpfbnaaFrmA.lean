/- Frames as values; Check of both. -/
import Derived.Test.YtdkijdedfpfbnaaBytes
import Derived.Test.YtdkijdedfpfbnaaBuilder
import Derived.Test.YtdkijdedfpfbnaaRes
namespace Go.Proofs.Ytdkijdedfpfbnaa
open Go.RowKit Go.Shelf

structure Frm where
  id : ByteArray
  num : Int
  data : ByteArray
  last : Bool
deriving DecidableEq
def Frm.cells (f : Frm) : List Value := [.string f.id, .int .i64 f.num, .string f.data, .bool f.last]
def Frm.none_ : Frm := ⟨.empty, 0, .empty, false⟩
/-- is it a frame? -/
def checkF (f : Frm) : Int := if f.id.size ≠ 16 ∨ f.num < 0 ∨ 65535 < f.num then 2 else if 4096 < f.data.size then 5 else 0

set_option maxRecDepth 100000 in
theorem check_any (f : Frm) (w : World) :
    Calls Try.prog 20 #[.agg #[.string f.id, .int .i64 f.num, .string f.data, .bool f.last]] w fun e w' => e = .returned (.int .i64 (checkF f)) ∧ w.grownBy w' none := by
  obtain ⟨id, num, data, last⟩ := f
  go_enter Try.func20, Try.ntmps20
  go_wp2_with fail
  all_goals
    go_ret
    refine ⟨?_, only_alloc ⟨rfl, rfl, rfl, Nat.le_refl _, fun _ _ _ => rfl⟩ _⟩
    simp only [checkF]
    congr 2
    split <;> (try split) <;> first | rfl | (exfalso; omega)
set_option maxRecDepth 100000 in
theorem checkR_any (f : Frm) (w : World) :
    Calls Try.prog 28 #[.agg #[.string f.id, .int .i64 f.num, .string f.data, .bool f.last]] w fun e w' => e = .returned (.int .i64 (checkF f)) ∧ w.grownBy w' none := by
  obtain ⟨id, num, data, last⟩ := f
  go_enter Try.func28, Try.ntmps28
  go_wp2_with fail
  all_goals
    go_ret
    refine ⟨?_, only_alloc ⟨rfl, rfl, rfl, Nat.le_refl _, fun _ _ _ => rfl⟩ _⟩
    simp only [checkF]
    congr 2
    split <;> (try split) <;> first | rfl | (exfalso; omega)
end Go.Proofs.Ytdkijdedfpfbnaa
