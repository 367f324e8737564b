/- Head. -/
import Derived.Test.YtdflihfecfmpfaaDoorUnrB
namespace Go.Proofs.YtdflihfecfmpfaaDoor
open Go.RowKit Go.Shelf

set_option maxRecDepth 100000 in
set_option maxHeartbeats 1000000 in
theorem head_any (s : ByteArray) (i : Int) (hs : s.size ≤ 9223372036854770000) (w : World) :
    Calls Tryd.prog 39 #[.string s, .int .i64 i] w fun e w' => e = .returned (.tuple #[.int .i64 (lookFrom s.data.toList i : Nat), .int .i64 (lookN s.data.toList i : Nat), .bool (lookL s.data.toList i), .int .i64 (lookE s.data.toList i)]) ∧ w.grownBy w' none := by
  have hk := fun W => look_any s i hs W
  generalize lookFrom s.data.toList i = F at *
  generalize lookN s.data.toList i = N at *
  generalize lookL s.data.toList i = L at *
  generalize lookE s.data.toList i = E at *
  go_enter Tryd.func39, Tryd.ntmps39
  go_wp2_with fail
  refine (hk w).mono ?_
  rintro e w2 ⟨rfl, hg⟩
  have hG := only_alloc hg (.cells #[.int .i64 (F : Int), .int .i64 (N : Int), .bool L] 84)
  have bk := Blk.new w2 84 #[.int .i64 (F : Int), .int .i64 (N : Int), .bool L]
  have c0 := bk.cell 0; have c1 := bk.cell 1; have c2 := bk.cell 2
  simp only [List.getElem?_toArray, List.getElem?_cons_zero, List.getElem?_cons_succ] at c0 c1 c2
  go_wp2_with fail
  go_quiet (fail)
  go_wp2_with fail
  refine bodyPost_ret (results_tmp4 rfl _ _ _) rfl ?_
  exact ⟨by simp, only_drewN hG _⟩
end Go.Proofs.YtdflihfecfmpfaaDoor
