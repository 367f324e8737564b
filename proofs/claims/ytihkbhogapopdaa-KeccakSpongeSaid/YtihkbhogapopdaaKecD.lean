/- Package keccak's tables and Permute: what they answer. -/
import Derived.Test.YtihkbhogapopdaaKecC
import Derived.Test.YtihkbhogapopdaaRow
namespace Go.Proofs.Ytihkbhogapopdaa
open Go.RowKit Go.Shelf
attribute [local go_sem] Oper.semAt_some

def turnsL : List Nat := [0, 1, 62, 28, 27, 36, 44, 6, 55, 20, 3, 10, 43, 25, 39, 41, 45, 15, 21, 8, 18, 2, 61, 56, 14]
def numsL : List (BitVec 64) := [
  0x0000000000000001#64, 0x0000000000008082#64, 0x800000000000808A#64, 0x8000000080008000#64, 0x000000000000808B#64, 0x0000000080000001#64,
  0x8000000080008081#64, 0x8000000000008009#64, 0x000000000000008A#64, 0x0000000000000088#64, 0x0000000080008009#64, 0x000000008000000A#64,
  0x000000008000808B#64, 0x800000000000008B#64, 0x8000000000008089#64, 0x8000000000008003#64, 0x8000000000008002#64, 0x8000000000000080#64,
  0x000000000000800A#64, 0x800000008000000A#64, 0x8000000080008081#64, 0x8000000000008080#64, 0x0000000080000001#64, 0x8000000080008008#64]
theorem turnsL_len : turnsL.length = 25 := rfl
theorem numsL_len : numsL.length = 24 := rfl

set_option maxHeartbeats 1000000 in
set_option maxRecDepth 100000 in
theorem turns_any (w : World) : Calls Try.prog 19 #[] w fun e w' => e = .returned (.agg (intsV turnsL)) ∧ w.grownBy w' none := by
  go_enter Try.func19, Try.ntmps19
  refine wp_seq ?_
  refine wp_region_lit ?_
  refine wpList_step fun K hK => ?_
  go_simp
  refine hK _ _ ?_
  have hB := Blk.new w 38 (intsV (List.replicate 25 0))
  refine wp_seq (wp_region_lit ?_)
  refine wpList_build rfl 38 _ (intsV turnsL) rfl (by kernel_rfl) ?_
  refine wpList_store_mid rfl 38 _ _ rfl w.heap.size 0 (intsV turnsL) (by simp [Act.eval, Act.put]) (by simp [Act.eval, Act.put]) (there_blk' hB rfl) (by kernel_rfl) (by kernel_rfl) ?_
  refine wpList_nil (wp_ret ?_)
  have hB2 := hB.setAll (cs' := intsV turnsL) rfl
  refine bodyPost_ret (results_cell_row (g := w.heap.size) rfl _ _ _ (intsV turnsL) _ (.array 25 3) (by simp [Act.put]) hB2 (by kernel_rfl) (by kernel_rfl) (by kernel_rfl)) rfl ?_
  exact ⟨rfl, only_setCells (.inr (Nat.le_refl _)) _ _ _ (only_alloc (World.grownBy.refl _ _) _)⟩
def numsV : Array Value := (numsL.map u64v).toArray
set_option maxHeartbeats 1000000 in
set_option maxRecDepth 100000 in
theorem numbers_any (w : World) : Calls Try.prog 20 #[] w fun e w' => e = .returned (.agg (numsV)) ∧ w.grownBy w' none := by
  go_enter Try.func20, Try.ntmps20
  refine wp_seq ?_
  refine wp_region_lit ?_
  refine wpList_step fun K hK => ?_
  go_simp
  refine hK _ _ ?_
  have hB := Blk.new w 40 ((Array.replicate 24 (Value.int .u64 0)))
  refine wp_seq (wp_region_lit ?_)
  refine wpList_build rfl 40 _ (numsV) rfl (by kernel_rfl) ?_
  refine wpList_store_mid rfl 40 _ _ rfl w.heap.size 0 (numsV) (by simp [Act.eval, Act.put]) (by simp [Act.eval, Act.put]) (there_blk' hB rfl) (by kernel_rfl) (by kernel_rfl) ?_
  refine wpList_nil (wp_ret ?_)
  have hB2 := hB.setAll (cs' := numsV) rfl
  refine bodyPost_ret (results_cell_row (g := w.heap.size) rfl _ _ _ (numsV) _ (.array 24 22) (by simp [Act.put]) hB2 (by kernel_rfl) (by kernel_rfl) (by kernel_rfl)) rfl ?_
  exact ⟨rfl, only_setCells (.inr (Nat.le_refl _)) _ _ _ (only_alloc (World.grownBy.refl _ _) _)⟩
end Go.Proofs.Ytihkbhogapopdaa
