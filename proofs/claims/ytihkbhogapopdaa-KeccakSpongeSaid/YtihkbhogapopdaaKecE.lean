/- Package keccak's Permute: what it answers. -/
import Derived.Test.YtihkbhogapopdaaKecD
namespace Go.Proofs.Ytihkbhogapopdaa
open Go.RowKit Go.Shelf
attribute [local go_sem] Oper.semAt_some

def permuteK (a : List (BitVec 64)) : List (BitVec 64) := numsL.foldl (roundK turnsL) a
theorem permute_len (a : List (BitVec 64)) : (permuteK a).length = a.length := by
  unfold permuteK
  generalize numsL = l
  induction l generalizing a with
  | nil => rfl
  | cons n l ih => rw [List.foldl_cons, ih]; exact roundK_len _ _ _
theorem fold_len (by_ : List Nat) : ∀ (l : List (BitVec 64)) (a : List (BitVec 64)), (l.foldl (roundK by_) a).length = a.length
  | [], _ => rfl
  | n :: l, a => by rw [List.foldl_cons, fold_len by_ l]; exact roundK_len _ _ _
set_option maxHeartbeats 1000000 in
set_option maxRecDepth 100000 in
theorem permute_any (a : List (BitVec 64)) (ha : a.length = 25) (w : World) :
    Calls Try.prog 10 #[.agg (a.map u64v).toArray] w fun e w' => e = .returned (.agg ((permuteK a).map u64v).toArray) ∧ w.grownBy w' none := by
  go_enter Try.func10, Try.ntmps10
  generalize hcs : (a.map u64v).toArray = cs
  refine wp_seq (wp_region_lit ?_)
  refine _root_.Go.Great.wpList_boxTo rfl 23 _ rfl _ rfl w.heap.size rfl cs rfl ?_
  refine wpList_step fun K hK => ?_
  go_simp
  refine hK _ _ (wpList_nil ?_)
  clear hK K
  have hB0 : Blk ((w.alloc (.cells cs 23)).alloc (.cells (Array.replicate 25 (.int .u64 0)) 23)) w.heap.size 23 cs := (Blk.new w _ cs).alloc _
  have hB1 := Blk.new (w.alloc (.cells cs 23)) 23 (Array.replicate 25 (.int .u64 0))
  rw [World.size_alloc] at hB1
  have hG : w.grownBy ((w.alloc (.cells cs 23)).alloc (.cells (Array.replicate 25 (.int .u64 0)) 23)) none := only_alloc (only_alloc (World.grownBy.refl _ _) _) _
  have hZ : ((w.alloc (.cells cs 23)).alloc (.cells (Array.replicate 25 (.int .u64 0)) 23)).heap.size = w.heap.size + 2 := by simp
  have hcl : cs.size = 25 := by rw [← hcs]; simpa using ha
  have h1c : cs.all (·.oneCell') = true := by rw [← hcs]; simp [u64v, Value.oneCell']
  simp only [Array.replicate_succ, Array.replicate_zero, List.push_toArray, List.nil_append, List.cons_append] at hB0 hB1 hG hZ
  generalize (w.alloc (.cells cs 23)).alloc _ = w1 at *
  refine wp_seq (wp_region_lit ?_)
  refine wpList_load_row rfl 23 _ rfl w.heap.size rfl 23 cs _ (.array 25 22) hB0 (by kernel_rfl) (by kernel_rfl) (by rw [hcl]; kernel_rfl) ?_
  refine wpList_step fun K hK => ?_
  go_simp
  refine hK _ _ ?_
  clear hK K
  have hB2 := Blk.new w1 37 (Array.replicate 25 (.int .u64 0))
  rw [hZ] at hB2
  simp only [Array.replicate_succ, Array.replicate_zero, List.push_toArray, List.nil_append, List.cons_append] at hB2
  refine wpList_store_mid rfl 37 _ _ rfl (w.heap.size + 2) 0 cs rfl rfl (there_blk' hB2 hcl) (by rw [hcl]; kernel_rfl) h1c ?_
  refine wpList_nil ?_
  have hS : Lanes ((w1.alloc (.cells (Array.replicate 25 (.int .u64 0)) 37)).setCells (w.heap.size + 2) 0 cs.toList) (w.heap.size + 2) 37 a := by
    unfold Lanes
    rw [hcs]
    exact hB2.setAll hcl
  have hR : Blk ((w1.alloc (.cells (Array.replicate 25 (.int .u64 0)) 37)).setCells (w.heap.size + 2) 0 cs.toList) (w.heap.size + 1) 23 (Array.replicate 25 (.int .u64 0)) :=
    Blk.setAll_far (by omega) _ _ _ (hB1.alloc _)
  have hG2 : w.grownBy ((w1.alloc (.cells (Array.replicate 25 (.int .u64 0)) 37)).setCells (w.heap.size + 2) 0 cs.toList) none := only_setCells (.inr (by omega)) _ _ _ (only_alloc hG _)
  have hZ2 : ((w1.alloc (.cells (Array.replicate 25 (.int .u64 0)) 37)).setCells (w.heap.size + 2) 0 cs.toList).heap.size = w.heap.size + 3 := by rw [size_setCells_]; simp [hZ]
  simp only [Array.replicate_succ, Array.replicate_zero, List.push_toArray, List.nil_append, List.cons_append] at hS hR hG2 hZ2
  generalize (w1.alloc _).setCells (w.heap.size + 2) 0 cs.toList = w2 at *
  clear hB0 hB1 hB2 hG hZ
  refine wp_seq (wp_region_lit ?_)
  refine wpList_step fun K hK => ?_
  go_simp
  refine (turns_any _).mono ?_
  rintro e w3 ⟨rfl, hg3⟩
  go_simp
  refine hK _ _ ?_
  clear hK K
  have hS3 := hS.kept hg3 (by simp)
  have hR3 := hR.grown hg3 (by simp)
  have hG3 : w.grownBy w3 none := grown_self hG2 hg3 (by simp)
  have hZ3 : w.heap.size + 3 ≤ w3.heap.size := by have := hg3.size; omega
  clear hS hR hG2 hZ2 hg3
  refine wpList_step fun K hK => ?_
  go_simp
  refine hK _ _ ?_
  clear hK K
  have hB4 := Blk.new w3 38 (Array.replicate 25 (.int .i64 0))
  simp only [Array.replicate_succ, Array.replicate_zero, List.push_toArray, List.nil_append, List.cons_append] at hB4
  refine wpList_store_mid rfl 38 _ _ rfl w3.heap.size 0 (intsV turnsL) rfl rfl (there_blk' hB4 rfl) (by kernel_rfl) (by kernel_rfl) ?_
  refine wpList_nil ?_
  have hT4 := hB4.setAll (cs' := intsV turnsL) rfl
  have hS4 : Lanes ((w3.alloc (.cells (Array.replicate 25 (.int .i64 0)) 38)).setCells w3.heap.size 0 (intsV turnsL).toList) (w.heap.size + 2) 37 a := Blk.setAll_far (by omega) _ _ _ (hS3.alloc _)
  have hR4 : Blk ((w3.alloc (.cells (Array.replicate 25 (.int .i64 0)) 38)).setCells w3.heap.size 0 (intsV turnsL).toList) (w.heap.size + 1) 23 _ := Blk.setAll_far (by omega) _ _ _ (hR3.alloc _)
  have hG4 : w.grownBy ((w3.alloc (.cells (Array.replicate 25 (.int .i64 0)) 38)).setCells w3.heap.size 0 (intsV turnsL).toList) none := only_setCells (.inr (by omega)) _ _ _ (only_alloc hG3 _)
  have hZ4 : ((w3.alloc (.cells (Array.replicate 25 (.int .i64 0)) 38)).setCells w3.heap.size 0 (intsV turnsL).toList).heap.size = w3.heap.size + 1 := by rw [size_setCells_]; simp
  simp only [Array.replicate_succ, Array.replicate_zero, List.push_toArray, List.nil_append, List.cons_append] at hS4 hR4 hG4 hZ4
  generalize (w3.alloc _).setCells w3.heap.size 0 (intsV turnsL).toList = w4 at *
  clear hB4 hS3 hR3 hG3
  generalize hB : w3.heap.size = B4 at *
  refine wp_seq (wp_seq (wp_region_lit ?_))
  refine wpList_step fun K hK => ?_
  go_simp
  refine (numbers_any _).mono ?_
  rintro e w5 ⟨rfl, hg5⟩
  go_simp
  refine hK _ _ ?_
  clear hK K
  refine wpList_step fun K hK => ?_
  go_simp
  refine hK _ _ (wpList_nil ?_)
  clear hK K
  have hS5 := hS4.kept hg5 (by simp)
  have hR5 := hR4.grown hg5 (by simp)
  have hT5 := hT4.grown hg5 (by simp)
  have hG5 : w.grownBy w5 none := grown_self hG4 hg5 (by simp)
  clear hS4 hR4 hT4 hG4 hg5 hcs h1c hcl hZ4 hB
  go_wp2_with fail
  go_loopw [10] (fun i wr => ∃ k : Nat, i = .int .i64 k ∧ k ≤ 24 ∧ Lanes wr (w.heap.size + 2) 37 ((numsL.take k).foldl (roundK turnsL) a) ∧ Blk wr (w.heap.size + 1) 23 #[.int .u64 0, .int .u64 0, .int .u64 0, .int .u64 0, .int .u64 0, .int .u64 0, .int .u64 0, .int .u64 0, .int .u64 0, .int .u64 0, .int .u64 0, .int .u64 0, .int .u64 0, .int .u64 0, .int .u64 0, .int .u64 0, .int .u64 0, .int .u64 0, .int .u64 0, .int .u64 0, .int .u64 0, .int .u64 0, .int .u64 0, .int .u64 0, .int .u64 0] ∧ Blk wr B4 38 (intsV turnsL) ∧ w.grownBy wr none) (fun i _ => 24 - (intOf i).toNat)
  case atStart => exact ⟨0, rfl, by omega, hS5, hR5, hT5, hG5⟩
  case round =>
    obtain ⟨k, rfl, hk, hS, hR, hT, hG⟩ := hrel
    by_cases hlt : k < 24
    · obtain ⟨nk, hnk⟩ : ∃ n, numsL[k]? = some n := ⟨_, List.getElem?_eq_getElem (by exact hlt)⟩
      have hidx := run_index_arr (P := Try.prog) wr 40 22 24 numsV k (.int .u64 (nk.toNat : Int)) (.int .u64) (by kernel_rfl) hlt (by kernel_rfl) (by kernel_rfl) rfl (by
        unfold numsV
        rw [List.getElem?_toArray, List.getElem?_map, hnk]
        rfl)
      have hst : (numsL.take (k + 1)).foldl (roundK turnsL) a = roundK turnsL ((numsL.take k).foldl (roundK turnsL) a) nk := by
        rw [List.take_add_one, hnk, Option.toList_some, List.foldl_append, List.foldl_cons, List.foldl_nil]
      have hll : ((numsL.take k).foldl (roundK turnsL) a).length = 25 := by rw [fold_len]; exact ha
      repeat (first | refine wpList_load_row rfl 38 (.tmp 4) rfl B4 rfl 38 (intsV turnsL) _ (.array 25 3) hT (by kernel_rfl) (by kernel_rfl) (by kernel_rfl) ?_ | go_step)
      refine (round_any (w.heap.size + 2) _ nk turnsL hll rfl (by decide) wr hS).mono ?_
      rintro e W ⟨⟨v, rfl⟩, hS', hg'⟩
      rw [← hst] at hS'
      have hR' := hR.grown hg' (by simp)
      have hT' := hT.grown hg' (by simp; omega)
      have hG' : w.grownBy W none := grown_self hG hg' (fun q e => by cases e; exact .inr (by omega))
      go_wp2_with fail
      go_roundw
      case rel => exact ⟨k + 1, by simp, by omega, hS', hR', hT', hG'⟩
      case measure => simp [intOf]; omega
    · obtain rfl : k = 24 := by omega
      have e24 : numsL.take 24 = numsL := List.take_of_length_le (by rw [numsL_len]; omega)
      have hp : numsL.foldl (roundK turnsL) a = permuteK a := rfl
      rw [e24, hp] at hS
      have hll : (permuteK a).length = 25 := by rw [permute_len]; exact ha
      unfold Lanes at hS
      have hsz : ((permuteK a).map u64v).toArray.size = 25 := by simpa using hll
      have hone : ((permuteK a).map u64v).toArray.all (·.oneCell') = true := by simp [u64v, Value.oneCell']
      obtain ⟨cs2, hcs2⟩ : ∃ c, ((permuteK a).map u64v).toArray = c := ⟨_, rfl⟩
      rw [hcs2] at hS hsz hone
      repeat (first | refine wpList_load_row rfl 37 (.tmp 3) rfl (w.heap.size + 2) rfl 37 cs2 _ (.array 25 22) hS (by kernel_rfl) (by kernel_rfl) (by rw [hsz]; kernel_rfl) ?_ | refine wpList_store_mid rfl 23 (.tmp 2) (.tmp 17) rfl (w.heap.size + 1) 0 cs2 rfl rfl (there_blk' hR hsz) (by rw [hsz]; kernel_rfl) hone ?_ | go_step)
      have hR2 := hR.setAll (cs' := cs2) hsz
      exact bodyPost_ret (results_cell_row (g := w.heap.size + 1) rfl _ _ _ cs2 _ (.array 25 22) (by simp [Act.put]) hR2 (by kernel_rfl) (by kernel_rfl) (by rw [hsz]; kernel_rfl)) rfl ⟨by rw [hcs2], only_setCells (.inr (by omega)) _ _ _ hG⟩
end Go.Proofs.Ytihkbhogapopdaa
