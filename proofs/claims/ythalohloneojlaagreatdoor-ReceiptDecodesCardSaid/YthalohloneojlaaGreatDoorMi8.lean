/- Merged: TxC, MapF. -/
import Derived.Test.YthalohloneojlaaGreatDoorMi1
import Derived.Test.YthalohloneojlaaGreatDoorMi3
import Derived.Test.YthalohloneojlaaGreatDoorMi7
import Derived.Deep.WholeRow
import Derived.MapKept
import Derived.RangeFuncRecord
/- A transaction that has a kind alone: what its kind names is all of it (tx.named).  Printed by wip/genTxC.py -/
namespace Go.Proofs.YthalohloneojlaaGreatDoor
open Go.RowKit Go.Shelf
set_option linter.unusedVariables false
set_option linter.unusedSimpArgs false

/-- what stands is written again: nothing turns -/
theorem set_self {W : World} {g i : Nat} {t : TypeId} {cs : Array Value} {v : Value} (h : Blk W g t cs) (hv : cs[i]? = some v) : W.setCell ⟨g, i, none⟩ v = W := by
  have h : W.heap[g]? = some (.cells cs t (0, 0)) := h
  obtain ⟨hg, hc⟩ := Array.getElem?_eq_some_iff.1 h
  obtain ⟨hi, hvi⟩ := Array.getElem?_eq_some_iff.1 hv
  have key : W.heap.modify g (fun
      | .cells c elem frozen => .cells (if (none : Option Nat).isSome then c else c.setIfInBounds i v) elem frozen
      | o => o) = W.heap := by
    apply Array.ext
    · simp
    · intro j h1 h2
      rw [Array.getElem_modify]
      split
      · rename_i e
        subst e
        rw [hc]
        have : cs.setIfInBounds i v = cs := by
          apply Array.ext
          · simp
          · intro k k1 k2
            rw [Array.getElem_setIfInBounds]
            split
            · rename_i e; subst e; exact hvi.symm
            · rfl
        simp [this]
      · rfl
  have hh : (W.setCell ⟨g, i, none⟩ v).heap = W.heap := key
  calc W.setCell ⟨g, i, none⟩ v = { W with heap := (W.setCell ⟨g, i, none⟩ v).heap } := rfl
    _ = W := by rw [hh]
section
variable {P : Program} {ops : Array Oper} {C : World → Prop} {Q : Act → Prop} {a : Act} {o : Oper} {rest : List Oper}
theorem wpQuiet_skip (hw : Region.wanted o (yielded ops a.tmps) = true) (h : ∀ W, C W → (execOp a.eval o).run P W = .ok .skip W) (hk : wpQuiet P ops C Q rest (a.put o.dst undef)) : wpQuiet P ops C Q (o :: rest) a :=
  wpQuiet_step fun K hK => by rw [if_pos hw]; exact ⟨undef, fun W hW => by unfold Oper.quietAt; rw [h W hW]; exact ⟨rfl, rfl⟩, hK _ hk⟩
end
set_option maxRecDepth 100000 in
theorem same_u64 {W : World} {a : Act} {o : Oper} {g off : Nat} {cur : Array Value} {t : TypeId} (x y : Operand) (ho : o.op = .store 22 x y) (hx : a.eval x = .pointer (some ⟨g, off, none⟩)) (hy : a.eval y = .int .u64 0)
    (hb : Blk W g t cur) (hc : cur[off]? = some (.int .u64 0)) : (execOp a.eval o).run Tryz.prog W = .ok .skip W := by
  have c0 : W.cell? ⟨g, off, none⟩ = some (.int .u64 0) := (hb.cell off).trans hc
  have f0 := hb.frozen off
  have hu := Tryz.underlying22
  have hagg := Tryz.isAgg22
  have hs := set_self hb hc
  unfold execOp
  simp only [ho, hx, hy]
  simp [go_sem, c0, f0, hs]
set_option maxRecDepth 100000 in
theorem same_str {W : World} {a : Act} {o : Oper} {g off : Nat} {cur : Array Value} {t : TypeId} (x y : Operand) (ho : o.op = .store 9 x y) (hx : a.eval x = .pointer (some ⟨g, off, none⟩)) (hy : a.eval y = .string ⟨#[]⟩)
    (hb : Blk W g t cur) (hc : cur[off]? = some (.string ⟨#[]⟩)) : (execOp a.eval o).run Tryz.prog W = .ok .skip W := by
  have c0 : W.cell? ⟨g, off, none⟩ = some (.string ⟨#[]⟩) := (hb.cell off).trans hc
  have f0 := hb.frozen off
  have hu := Tryz.underlying9
  have hagg := Tryz.isAgg9
  have hs := set_self hb hc
  unfold execOp
  simp only [ho, hx, hy]
  simp [go_sem, c0, f0, hs]
set_option maxRecDepth 100000 in
theorem same_bool {W : World} {a : Act} {o : Oper} {g off : Nat} {cur : Array Value} {t : TypeId} (x y : Operand) (ho : o.op = .store 4 x y) (hx : a.eval x = .pointer (some ⟨g, off, none⟩)) (hy : a.eval y = .bool false)
    (hb : Blk W g t cur) (hc : cur[off]? = some (.bool false)) : (execOp a.eval o).run Tryz.prog W = .ok .skip W := by
  have c0 : W.cell? ⟨g, off, none⟩ = some (.bool false) := (hb.cell off).trans hc
  have f0 := hb.frozen off
  have hu := Tryz.underlying4
  have hagg := Tryz.isAgg4
  have hs := set_self hb hc
  unfold execOp
  simp only [ho, hx, hy]
  simp [go_sem, c0, f0, hs]
set_option maxRecDepth 100000 in
theorem same_word {W : World} {a : Act} {o : Oper} {g off : Nat} {cur : Array Value} {t : TypeId} (x y : Operand) (ho : o.op = .store 87 x y) (hx : a.eval x = .pointer (some ⟨g, off, none⟩)) (hy : a.eval y = .agg #[.int .u64 0, .int .u64 0, .int .u64 0, .int .u64 0])
    (hb : Blk W g t cur) (h0 : cur[off]? = some (.int .u64 0)) (h1 : cur[off + 1]? = some (.int .u64 0)) (h2 : cur[off + 2]? = some (.int .u64 0)) (h3 : cur[off + 3]? = some (.int .u64 0)) : (execOp a.eval o).run Tryz.prog W = .ok .skip W := by
  have c0 := (hb.cell off).trans h0; have c1 := (hb.cell (off + 1)).trans h1; have c2 := (hb.cell (off + 2)).trans h2; have c3 := (hb.cell (off + 3)).trans h3
  have f0 := hb.frozen off; have f1 := hb.frozen (off + 1); have f2 := hb.frozen (off + 2); have f3 := hb.frozen (off + 3)
  have s0 := set_self hb h0; have s1 := set_self hb h1; have s2 := set_self hb h2; have s3 := set_self hb h3
  have hsz := Tryz.sizeOf87
  unfold execOp
  simp only [ho, hx, hy]
  simp [go_sem, c0, c1, c2, c3, f0, f1, f2, f3, s0, s1, s2, s3, hsz]
set_option maxRecDepth 100000 in
set_option maxHeartbeats 4000000 in
theorem txNamed_126 (w : World) : Calls Tryz.prog 92 #[.agg (txK 126)] w fun e w' => e = .returned (.agg (txK 126)) ∧ w.grownBy w' none := by
  have hG := only_alloc (only_alloc (World.grownBy.refl w none) (.cells (txK 126) 91)) (.cells (txK 0) 91)
  have hb1 := (Blk.new w 91 (txK 126)).alloc (.cells (txK 0) 91)
  have hb2 := Blk.new (w.alloc (.cells (txK 126) 91)) 91 (txK 0)
  rw [World.size_alloc] at hb2
  go_enter Tryz.func92, Tryz.ntmps92
  go_upto_region 1 with (fail)
  change Code.wp _ _ _ _ ((w.alloc (.cells (txK 126) 91)).alloc (.cells (txK 0) 91))
  obtain ⟨g, hg⟩ : ∃ g, w.heap.size = g := ⟨_, rfl⟩
  have HW := Lib.hid hg
  rw [hg] at hb1 hb2 ⊢
  clear hg
  generalize (w.alloc (.cells (txK 126) 91)).alloc (.cells (txK 0) 91) = w1 at *
  have c0 : w1.cell? ⟨g, 0, none⟩ = some (.int .i64 126) := hb1.cell 0
  have c11 : w1.cell? ⟨g, 11, none⟩ = some (.int .u64 0) := hb1.cell 11
  have c12 : w1.cell? ⟨g, 12, none⟩ = some (.string ⟨#[]⟩) := hb1.cell 12
  have c13 : w1.cell? ⟨g, 13, none⟩ = some (.int .u64 0) := hb1.cell 13
  have c14 : w1.cell? ⟨g, 14, none⟩ = some (.int .u64 0) := hb1.cell 14
  have c15 : w1.cell? ⟨g, 15, none⟩ = some (.int .u64 0) := hb1.cell 15
  have c16 : w1.cell? ⟨g, 16, none⟩ = some (.int .u64 0) := hb1.cell 16
  have c17 : w1.cell? ⟨g, 17, none⟩ = some (.string ⟨#[]⟩) := hb1.cell 17
  have HB1 := Lib.hid (hb1.alloc (.cells (txK 126) 91)); have HB2 := Lib.hid (hb2.alloc (.cells (txK 126) 91)); have HB3 := Lib.hid (Blk.new w1 91 (txK 126))
  have HG := Lib.hid (only_alloc hG (.cells (txK 126) 91))
  clear hb1 hb2 hG
  refine wp_region_list ?_
  iterate 36 go_step
  refine wp_store_row 91 (.tmp 3) (.tmp 14) rfl w1.heap.size (txK 126) rfl rfl 91 (txK 0) (Blk.new w1 _ (txK 0)) (by kernel_rfl) rfl (txK_one 126) ?_
  rw [World.setRow_alloc_new]
  obtain ⟨g3, hg3⟩ : ∃ g, w1.heap.size = g := ⟨_, rfl⟩
  rw [hg3] at HB3 ⊢
  clear hg3
  generalize w1.alloc (.cells (txK 126) 91) = w2 at *
  clear c0 c11 c12 c13 c14 c15 c16 c17
  have c0 : w2.cell? ⟨g, 0, none⟩ = some (.int .i64 126) := HB1.out.cell 0
  go_upto_region 3 with (fail)
  have l1 := HB1.out.lt; have l3 := HB3.out.lt
  have hC0 : (fun V => Below w2.heap.size w2 V) w2.drew := ⟨rfl, rfl, rfl, Nat.le_refl _, fun _ _ => rfl⟩
  refine wp_region_class (fun V => Below w2.heap.size w2 V) (by kernel_rfl) (by kernel_rfl) hC0 ?_
  have hcc := class_const hC0
  (try simp only [Act.put])
  (repeat go_big_quiet_step (fail))
  refine wpQuiet_loadM (.string ⟨#[]⟩) _ _ ⟨g, 29, none⟩ _ rfl rfl rfl Tryz.underlying9 rfl (fun V hV => ((hV.cell (p := ⟨g, 29, none⟩) l1).trans (HB1.out.cell 29)).trans rfl) ?_
  simp only [Act.put, List.setIfInBounds_toArray, List.set_cons_zero, List.set_cons_succ]
  (repeat go_big_quiet_step (fail))
  refine wpQuiet_loadM (.string ⟨#[]⟩) _ _ ⟨g, 30, none⟩ _ rfl rfl rfl Tryz.underlying9 rfl (fun V hV => ((hV.cell (p := ⟨g, 30, none⟩) l1).trans (HB1.out.cell 30)).trans rfl) ?_
  simp only [Act.put, List.setIfInBounds_toArray, List.set_cons_zero, List.set_cons_succ]
  (repeat go_big_quiet_step (fail))
  refine wpQuiet_value rfl (.agg #[.int .u64 0, .int .u64 0, .int .u64 0, .int .u64 0]) (fun V hV => exec_loadW _ rfl rfl (((hV.cell (p := ⟨g, 31, none⟩) l1).trans (HB1.out.cell 31)).trans rfl) (((hV.cell (p := ⟨g, 32, none⟩) l1).trans (HB1.out.cell 32)).trans rfl) (((hV.cell (p := ⟨g, 33, none⟩) l1).trans (HB1.out.cell 33)).trans rfl) (((hV.cell (p := ⟨g, 34, none⟩) l1).trans (HB1.out.cell 34)).trans rfl)) ?_
  simp only [Act.put, List.setIfInBounds_toArray, List.set_cons_zero, List.set_cons_succ]
  (repeat go_big_quiet_step (fail))
  refine wpQuiet_loadM (.bool false) _ _ ⟨g, 35, none⟩ _ rfl rfl rfl Tryz.underlying4 rfl (fun V hV => ((hV.cell (p := ⟨g, 35, none⟩) l1).trans (HB1.out.cell 35)).trans rfl) ?_
  simp only [Act.put, List.setIfInBounds_toArray, List.set_cons_zero, List.set_cons_succ]
  (repeat go_big_quiet_step (fail))
  refine wpQuiet_skip rfl (fun V hV => same_str _ _ rfl rfl rfl (HB3.out.below hV l3) rfl) ?_
  simp only [Act.put, List.setIfInBounds_toArray, List.set_cons_zero, List.set_cons_succ]
  (repeat go_big_quiet_step (fail))
  refine wpQuiet_skip rfl (fun V hV => same_str _ _ rfl rfl rfl (HB3.out.below hV l3) rfl) ?_
  simp only [Act.put, List.setIfInBounds_toArray, List.set_cons_zero, List.set_cons_succ]
  (repeat go_big_quiet_step (fail))
  refine wpQuiet_skip rfl (fun V hV => same_word _ _ rfl rfl rfl (HB3.out.below hV l3) rfl rfl rfl rfl) ?_
  simp only [Act.put, List.setIfInBounds_toArray, List.set_cons_zero, List.set_cons_succ]
  (repeat go_big_quiet_step (fail))
  refine wpQuiet_skip rfl (fun V hV => same_bool _ _ rfl rfl rfl (HB3.out.below hV l3) rfl) ?_
  simp only [Act.put, List.setIfInBounds_toArray, List.set_cons_zero, List.set_cons_succ]
  (repeat go_big_quiet_step (fail))
  refine wpQuiet_nil ?_
  intro w3 hw3
  replace HB1 := Lib.hid (HB1.out.below hw3 l1); replace HB2 := Lib.hid (HB2.out.below hw3 HB2.out.lt); replace HB3 := Lib.hid (HB3.out.below hw3 l3)
  replace HG := Lib.hid (grown_self HG.out (grown_of_below hw3) (by simp))
  clear hcc hC0 hw3 l1 l3 c0
  go_upto_region 4 with (fail)
  refine wp_region_list ?_
  refine wpList_load_row rfl 91 (.tmp 3) rfl g3 rfl 91 (txK 126) (0, 0) _ HB3.out Tryz.underlying91 rfl (by kernel_rfl) ?_
  simp only [Act.put, List.setIfInBounds_toArray, List.set_cons_zero, List.set_cons_succ]
  refine wpList_store_row rfl 91 (.tmp 2) (.tmp 30) rfl (g + 1) (txK 126) rfl rfl 91 (txK 0) HB2.out (by kernel_rfl) rfl (txK_one 126) ?_
  have HR2 := Lib.hid (blk_setRow (cs' := txK 126) HB2.out)
  have HG3 := Lib.hid (only_setRow (g := g + 1) HG.out (by have := HW.out; omega) (txK 126))
  generalize w3.setRow (g + 1) (txK 126) = w4 at *
  refine wpList_nil ?_
  simp only [Act.put, List.setIfInBounds_toArray, List.set_cons_zero, List.set_cons_succ]
  go_wp2_with fail
  refine bodyPost_ret (results_cell_row (fn := Tryz.f92) rfl _ _ _ _ _ _ _ rfl HR2.out Tryz.underlying91 rfl (by kernel_rfl)) rfl ?_
  exact ⟨rfl, HG3.out⟩
set_option maxRecDepth 100000 in
set_option maxHeartbeats 4000000 in
theorem txNamed_0 (w : World) : Calls Tryz.prog 92 #[.agg (txK 0)] w fun e w' => e = .returned (.agg (txK 0)) ∧ w.grownBy w' none := by
  have hG := only_alloc (only_alloc (World.grownBy.refl w none) (.cells (txK 0) 91)) (.cells (txK 0) 91)
  have hb1 := (Blk.new w 91 (txK 0)).alloc (.cells (txK 0) 91)
  have hb2 := Blk.new (w.alloc (.cells (txK 0) 91)) 91 (txK 0)
  rw [World.size_alloc] at hb2
  go_enter Tryz.func92, Tryz.ntmps92
  go_upto_region 1 with (fail)
  change Code.wp _ _ _ _ ((w.alloc (.cells (txK 0) 91)).alloc (.cells (txK 0) 91))
  obtain ⟨g, hg⟩ : ∃ g, w.heap.size = g := ⟨_, rfl⟩
  have HW := Lib.hid hg
  rw [hg] at hb1 hb2 ⊢
  clear hg
  generalize (w.alloc (.cells (txK 0) 91)).alloc (.cells (txK 0) 91) = w1 at *
  have c0 : w1.cell? ⟨g, 0, none⟩ = some (.int .i64 0) := hb1.cell 0
  have c11 : w1.cell? ⟨g, 11, none⟩ = some (.int .u64 0) := hb1.cell 11
  have c12 : w1.cell? ⟨g, 12, none⟩ = some (.string ⟨#[]⟩) := hb1.cell 12
  have c13 : w1.cell? ⟨g, 13, none⟩ = some (.int .u64 0) := hb1.cell 13
  have c14 : w1.cell? ⟨g, 14, none⟩ = some (.int .u64 0) := hb1.cell 14
  have c15 : w1.cell? ⟨g, 15, none⟩ = some (.int .u64 0) := hb1.cell 15
  have c16 : w1.cell? ⟨g, 16, none⟩ = some (.int .u64 0) := hb1.cell 16
  have c17 : w1.cell? ⟨g, 17, none⟩ = some (.string ⟨#[]⟩) := hb1.cell 17
  have HB1 := Lib.hid (hb1.alloc (.cells (txK 0) 91)); have HB2 := Lib.hid (hb2.alloc (.cells (txK 0) 91)); have HB3 := Lib.hid (Blk.new w1 91 (txK 0))
  have HG := Lib.hid (only_alloc hG (.cells (txK 0) 91))
  clear hb1 hb2 hG
  refine wp_region_list ?_
  iterate 36 go_step
  refine wp_store_row 91 (.tmp 3) (.tmp 14) rfl w1.heap.size (txK 0) rfl rfl 91 (txK 0) (Blk.new w1 _ (txK 0)) (by kernel_rfl) rfl (txK_one 0) ?_
  rw [World.setRow_alloc_new]
  obtain ⟨g3, hg3⟩ : ∃ g, w1.heap.size = g := ⟨_, rfl⟩
  rw [hg3] at HB3 ⊢
  clear hg3
  generalize w1.alloc (.cells (txK 0) 91) = w2 at *
  clear c0 c11 c12 c13 c14 c15 c16 c17
  have c0 : w2.cell? ⟨g, 0, none⟩ = some (.int .i64 0) := HB1.out.cell 0
  go_upto_region 5 with (fail)
  have l1 := HB1.out.lt; have l3 := HB3.out.lt
  have hC0 : (fun V => Below w2.heap.size w2 V) w2.drew := ⟨rfl, rfl, rfl, Nat.le_refl _, fun _ _ => rfl⟩
  refine wp_region_class (fun V => Below w2.heap.size w2 V) (by kernel_rfl) (by kernel_rfl) hC0 ?_
  have hcc := class_const hC0
  (try simp only [Act.put])
  (repeat go_big_quiet_step (fail))
  refine wpQuiet_loadM (.int .u64 0) _ _ ⟨g, 1, none⟩ _ rfl rfl rfl Tryz.underlying22 rfl (fun V hV => ((hV.cell (p := ⟨g, 1, none⟩) l1).trans (HB1.out.cell 1)).trans rfl) ?_
  simp only [Act.put, List.setIfInBounds_toArray, List.set_cons_zero, List.set_cons_succ]
  (repeat go_big_quiet_step (fail))
  refine wpQuiet_loadM (.int .u64 0) _ _ ⟨g, 2, none⟩ _ rfl rfl rfl Tryz.underlying22 rfl (fun V hV => ((hV.cell (p := ⟨g, 2, none⟩) l1).trans (HB1.out.cell 2)).trans rfl) ?_
  simp only [Act.put, List.setIfInBounds_toArray, List.set_cons_zero, List.set_cons_succ]
  (repeat go_big_quiet_step (fail))
  refine wpQuiet_value rfl (.agg #[.int .u64 0, .int .u64 0, .int .u64 0, .int .u64 0]) (fun V hV => exec_loadW _ rfl rfl (((hV.cell (p := ⟨g, 7, none⟩) l1).trans (HB1.out.cell 7)).trans rfl) (((hV.cell (p := ⟨g, 8, none⟩) l1).trans (HB1.out.cell 8)).trans rfl) (((hV.cell (p := ⟨g, 9, none⟩) l1).trans (HB1.out.cell 9)).trans rfl) (((hV.cell (p := ⟨g, 10, none⟩) l1).trans (HB1.out.cell 10)).trans rfl)) ?_
  simp only [Act.put, List.setIfInBounds_toArray, List.set_cons_zero, List.set_cons_succ]
  (repeat go_big_quiet_step (fail))
  refine wpQuiet_loadM (.int .u64 0) _ _ ⟨g, 20, none⟩ _ rfl rfl rfl Tryz.underlying22 rfl (fun V hV => ((hV.cell (p := ⟨g, 20, none⟩) l1).trans (HB1.out.cell 20)).trans rfl) ?_
  simp only [Act.put, List.setIfInBounds_toArray, List.set_cons_zero, List.set_cons_succ]
  (repeat go_big_quiet_step (fail))
  refine wpQuiet_value rfl (.agg #[.int .u64 0, .int .u64 0, .int .u64 0, .int .u64 0]) (fun V hV => exec_loadW _ rfl rfl (((hV.cell (p := ⟨g, 21, none⟩) l1).trans (HB1.out.cell 21)).trans rfl) (((hV.cell (p := ⟨g, 22, none⟩) l1).trans (HB1.out.cell 22)).trans rfl) (((hV.cell (p := ⟨g, 23, none⟩) l1).trans (HB1.out.cell 23)).trans rfl) (((hV.cell (p := ⟨g, 24, none⟩) l1).trans (HB1.out.cell 24)).trans rfl)) ?_
  simp only [Act.put, List.setIfInBounds_toArray, List.set_cons_zero, List.set_cons_succ]
  (repeat go_big_quiet_step (fail))
  refine wpQuiet_value rfl (.agg #[.int .u64 0, .int .u64 0, .int .u64 0, .int .u64 0]) (fun V hV => exec_loadW _ rfl rfl (((hV.cell (p := ⟨g, 25, none⟩) l1).trans (HB1.out.cell 25)).trans rfl) (((hV.cell (p := ⟨g, 26, none⟩) l1).trans (HB1.out.cell 26)).trans rfl) (((hV.cell (p := ⟨g, 27, none⟩) l1).trans (HB1.out.cell 27)).trans rfl) (((hV.cell (p := ⟨g, 28, none⟩) l1).trans (HB1.out.cell 28)).trans rfl)) ?_
  simp only [Act.put, List.setIfInBounds_toArray, List.set_cons_zero, List.set_cons_succ]
  (repeat go_big_quiet_step (fail))
  refine wpQuiet_skip rfl (fun V hV => same_u64 _ _ rfl rfl rfl (HB3.out.below hV l3) rfl) ?_
  simp only [Act.put, List.setIfInBounds_toArray, List.set_cons_zero, List.set_cons_succ]
  (repeat go_big_quiet_step (fail))
  refine wpQuiet_skip rfl (fun V hV => same_u64 _ _ rfl rfl rfl (HB3.out.below hV l3) rfl) ?_
  simp only [Act.put, List.setIfInBounds_toArray, List.set_cons_zero, List.set_cons_succ]
  (repeat go_big_quiet_step (fail))
  refine wpQuiet_skip rfl (fun V hV => same_word _ _ rfl rfl rfl (HB3.out.below hV l3) rfl rfl rfl rfl) ?_
  simp only [Act.put, List.setIfInBounds_toArray, List.set_cons_zero, List.set_cons_succ]
  (repeat go_big_quiet_step (fail))
  refine wpQuiet_skip rfl (fun V hV => same_u64 _ _ rfl rfl rfl (HB3.out.below hV l3) rfl) ?_
  simp only [Act.put, List.setIfInBounds_toArray, List.set_cons_zero, List.set_cons_succ]
  (repeat go_big_quiet_step (fail))
  refine wpQuiet_skip rfl (fun V hV => same_word _ _ rfl rfl rfl (HB3.out.below hV l3) rfl rfl rfl rfl) ?_
  simp only [Act.put, List.setIfInBounds_toArray, List.set_cons_zero, List.set_cons_succ]
  (repeat go_big_quiet_step (fail))
  refine wpQuiet_skip rfl (fun V hV => same_word _ _ rfl rfl rfl (HB3.out.below hV l3) rfl rfl rfl rfl) ?_
  simp only [Act.put, List.setIfInBounds_toArray, List.set_cons_zero, List.set_cons_succ]
  (repeat go_big_quiet_step (fail))
  refine wpQuiet_nil ?_
  intro w3 hw3
  replace HB1 := Lib.hid (HB1.out.below hw3 l1); replace HB2 := Lib.hid (HB2.out.below hw3 HB2.out.lt); replace HB3 := Lib.hid (HB3.out.below hw3 l3)
  replace HG := Lib.hid (grown_self HG.out (grown_of_below hw3) (by simp))
  clear hcc hC0 hw3 l1 l3 c0
  have c0 : w3.cell? ⟨g, 0, none⟩ = some (.int .i64 0) := HB1.out.cell 0
  go_upto_region 13 with (fail)
  clear c0
  refine wp_region_list ?_
  refine wpList_load_row rfl 91 (.tmp 3) rfl g3 rfl 91 (txK 0) (0, 0) _ HB3.out Tryz.underlying91 rfl (by kernel_rfl) ?_
  simp only [Act.put, List.setIfInBounds_toArray, List.set_cons_zero, List.set_cons_succ]
  refine wpList_store_row rfl 91 (.tmp 2) (.tmp 66) rfl (g + 1) (txK 0) rfl rfl 91 (txK 0) HB2.out (by kernel_rfl) rfl (txK_one 0) ?_
  have HR2 := Lib.hid (blk_setRow (cs' := txK 0) HB2.out)
  have HG3 := Lib.hid (only_setRow (g := g + 1) HG.out (by have := HW.out; omega) (txK 0))
  generalize w3.setRow (g + 1) (txK 0) = w4 at *
  refine wpList_nil ?_
  simp only [Act.put, List.setIfInBounds_toArray, List.set_cons_zero, List.set_cons_succ]
  go_wp2_with fail
  refine bodyPost_ret (results_cell_row (fn := Tryz.f92) rfl _ _ _ _ _ _ _ rfl HR2.out Tryz.underlying91 rfl (by kernel_rfl)) rfl ?_
  exact ⟨rfl, HG3.out⟩
set_option maxRecDepth 100000 in
set_option maxHeartbeats 4000000 in
theorem txNamed_1 (w : World) : Calls Tryz.prog 92 #[.agg (txK 1)] w fun e w' => e = .returned (.agg (txK 1)) ∧ w.grownBy w' none := by
  have hG := only_alloc (only_alloc (World.grownBy.refl w none) (.cells (txK 1) 91)) (.cells (txK 0) 91)
  have hb1 := (Blk.new w 91 (txK 1)).alloc (.cells (txK 0) 91)
  have hb2 := Blk.new (w.alloc (.cells (txK 1) 91)) 91 (txK 0)
  rw [World.size_alloc] at hb2
  go_enter Tryz.func92, Tryz.ntmps92
  go_upto_region 1 with (fail)
  change Code.wp _ _ _ _ ((w.alloc (.cells (txK 1) 91)).alloc (.cells (txK 0) 91))
  obtain ⟨g, hg⟩ : ∃ g, w.heap.size = g := ⟨_, rfl⟩
  have HW := Lib.hid hg
  rw [hg] at hb1 hb2 ⊢
  clear hg
  generalize (w.alloc (.cells (txK 1) 91)).alloc (.cells (txK 0) 91) = w1 at *
  have c0 : w1.cell? ⟨g, 0, none⟩ = some (.int .i64 1) := hb1.cell 0
  have c11 : w1.cell? ⟨g, 11, none⟩ = some (.int .u64 0) := hb1.cell 11
  have c12 : w1.cell? ⟨g, 12, none⟩ = some (.string ⟨#[]⟩) := hb1.cell 12
  have c13 : w1.cell? ⟨g, 13, none⟩ = some (.int .u64 0) := hb1.cell 13
  have c14 : w1.cell? ⟨g, 14, none⟩ = some (.int .u64 0) := hb1.cell 14
  have c15 : w1.cell? ⟨g, 15, none⟩ = some (.int .u64 0) := hb1.cell 15
  have c16 : w1.cell? ⟨g, 16, none⟩ = some (.int .u64 0) := hb1.cell 16
  have c17 : w1.cell? ⟨g, 17, none⟩ = some (.string ⟨#[]⟩) := hb1.cell 17
  have HB1 := Lib.hid (hb1.alloc (.cells (txK 1) 91)); have HB2 := Lib.hid (hb2.alloc (.cells (txK 1) 91)); have HB3 := Lib.hid (Blk.new w1 91 (txK 1))
  have HG := Lib.hid (only_alloc hG (.cells (txK 1) 91))
  clear hb1 hb2 hG
  refine wp_region_list ?_
  iterate 36 go_step
  refine wp_store_row 91 (.tmp 3) (.tmp 14) rfl w1.heap.size (txK 1) rfl rfl 91 (txK 0) (Blk.new w1 _ (txK 0)) (by kernel_rfl) rfl (txK_one 1) ?_
  rw [World.setRow_alloc_new]
  obtain ⟨g3, hg3⟩ : ∃ g, w1.heap.size = g := ⟨_, rfl⟩
  rw [hg3] at HB3 ⊢
  clear hg3
  generalize w1.alloc (.cells (txK 1) 91) = w2 at *
  clear c0 c11 c12 c13 c14 c15 c16 c17
  have c0 : w2.cell? ⟨g, 0, none⟩ = some (.int .i64 1) := HB1.out.cell 0
  go_upto_region 5 with (fail)
  have l1 := HB1.out.lt; have l3 := HB3.out.lt
  have hC0 : (fun V => Below w2.heap.size w2 V) w2.drew := ⟨rfl, rfl, rfl, Nat.le_refl _, fun _ _ => rfl⟩
  refine wp_region_class (fun V => Below w2.heap.size w2 V) (by kernel_rfl) (by kernel_rfl) hC0 ?_
  have hcc := class_const hC0
  (try simp only [Act.put])
  (repeat go_big_quiet_step (fail))
  refine wpQuiet_loadM (.int .u64 0) _ _ ⟨g, 1, none⟩ _ rfl rfl rfl Tryz.underlying22 rfl (fun V hV => ((hV.cell (p := ⟨g, 1, none⟩) l1).trans (HB1.out.cell 1)).trans rfl) ?_
  simp only [Act.put, List.setIfInBounds_toArray, List.set_cons_zero, List.set_cons_succ]
  (repeat go_big_quiet_step (fail))
  refine wpQuiet_loadM (.int .u64 0) _ _ ⟨g, 2, none⟩ _ rfl rfl rfl Tryz.underlying22 rfl (fun V hV => ((hV.cell (p := ⟨g, 2, none⟩) l1).trans (HB1.out.cell 2)).trans rfl) ?_
  simp only [Act.put, List.setIfInBounds_toArray, List.set_cons_zero, List.set_cons_succ]
  (repeat go_big_quiet_step (fail))
  refine wpQuiet_value rfl (.agg #[.int .u64 0, .int .u64 0, .int .u64 0, .int .u64 0]) (fun V hV => exec_loadW _ rfl rfl (((hV.cell (p := ⟨g, 7, none⟩) l1).trans (HB1.out.cell 7)).trans rfl) (((hV.cell (p := ⟨g, 8, none⟩) l1).trans (HB1.out.cell 8)).trans rfl) (((hV.cell (p := ⟨g, 9, none⟩) l1).trans (HB1.out.cell 9)).trans rfl) (((hV.cell (p := ⟨g, 10, none⟩) l1).trans (HB1.out.cell 10)).trans rfl)) ?_
  simp only [Act.put, List.setIfInBounds_toArray, List.set_cons_zero, List.set_cons_succ]
  (repeat go_big_quiet_step (fail))
  refine wpQuiet_loadM (.int .u64 0) _ _ ⟨g, 20, none⟩ _ rfl rfl rfl Tryz.underlying22 rfl (fun V hV => ((hV.cell (p := ⟨g, 20, none⟩) l1).trans (HB1.out.cell 20)).trans rfl) ?_
  simp only [Act.put, List.setIfInBounds_toArray, List.set_cons_zero, List.set_cons_succ]
  (repeat go_big_quiet_step (fail))
  refine wpQuiet_value rfl (.agg #[.int .u64 0, .int .u64 0, .int .u64 0, .int .u64 0]) (fun V hV => exec_loadW _ rfl rfl (((hV.cell (p := ⟨g, 21, none⟩) l1).trans (HB1.out.cell 21)).trans rfl) (((hV.cell (p := ⟨g, 22, none⟩) l1).trans (HB1.out.cell 22)).trans rfl) (((hV.cell (p := ⟨g, 23, none⟩) l1).trans (HB1.out.cell 23)).trans rfl) (((hV.cell (p := ⟨g, 24, none⟩) l1).trans (HB1.out.cell 24)).trans rfl)) ?_
  simp only [Act.put, List.setIfInBounds_toArray, List.set_cons_zero, List.set_cons_succ]
  (repeat go_big_quiet_step (fail))
  refine wpQuiet_value rfl (.agg #[.int .u64 0, .int .u64 0, .int .u64 0, .int .u64 0]) (fun V hV => exec_loadW _ rfl rfl (((hV.cell (p := ⟨g, 25, none⟩) l1).trans (HB1.out.cell 25)).trans rfl) (((hV.cell (p := ⟨g, 26, none⟩) l1).trans (HB1.out.cell 26)).trans rfl) (((hV.cell (p := ⟨g, 27, none⟩) l1).trans (HB1.out.cell 27)).trans rfl) (((hV.cell (p := ⟨g, 28, none⟩) l1).trans (HB1.out.cell 28)).trans rfl)) ?_
  simp only [Act.put, List.setIfInBounds_toArray, List.set_cons_zero, List.set_cons_succ]
  (repeat go_big_quiet_step (fail))
  refine wpQuiet_skip rfl (fun V hV => same_u64 _ _ rfl rfl rfl (HB3.out.below hV l3) rfl) ?_
  simp only [Act.put, List.setIfInBounds_toArray, List.set_cons_zero, List.set_cons_succ]
  (repeat go_big_quiet_step (fail))
  refine wpQuiet_skip rfl (fun V hV => same_u64 _ _ rfl rfl rfl (HB3.out.below hV l3) rfl) ?_
  simp only [Act.put, List.setIfInBounds_toArray, List.set_cons_zero, List.set_cons_succ]
  (repeat go_big_quiet_step (fail))
  refine wpQuiet_skip rfl (fun V hV => same_word _ _ rfl rfl rfl (HB3.out.below hV l3) rfl rfl rfl rfl) ?_
  simp only [Act.put, List.setIfInBounds_toArray, List.set_cons_zero, List.set_cons_succ]
  (repeat go_big_quiet_step (fail))
  refine wpQuiet_skip rfl (fun V hV => same_u64 _ _ rfl rfl rfl (HB3.out.below hV l3) rfl) ?_
  simp only [Act.put, List.setIfInBounds_toArray, List.set_cons_zero, List.set_cons_succ]
  (repeat go_big_quiet_step (fail))
  refine wpQuiet_skip rfl (fun V hV => same_word _ _ rfl rfl rfl (HB3.out.below hV l3) rfl rfl rfl rfl) ?_
  simp only [Act.put, List.setIfInBounds_toArray, List.set_cons_zero, List.set_cons_succ]
  (repeat go_big_quiet_step (fail))
  refine wpQuiet_skip rfl (fun V hV => same_word _ _ rfl rfl rfl (HB3.out.below hV l3) rfl rfl rfl rfl) ?_
  simp only [Act.put, List.setIfInBounds_toArray, List.set_cons_zero, List.set_cons_succ]
  (repeat go_big_quiet_step (fail))
  refine wpQuiet_nil ?_
  intro w3 hw3
  replace HB1 := Lib.hid (HB1.out.below hw3 l1); replace HB2 := Lib.hid (HB2.out.below hw3 HB2.out.lt); replace HB3 := Lib.hid (HB3.out.below hw3 l3)
  replace HG := Lib.hid (grown_self HG.out (grown_of_below hw3) (by simp))
  clear hcc hC0 hw3 l1 l3 c0
  have c0 : w3.cell? ⟨g, 0, none⟩ = some (.int .i64 1) := HB1.out.cell 0
  have a18 : w3.cell? ⟨g, 18, none⟩ = some (.slice none 0 0) := HB1.out.cell 18
  have b18 : w3.cell? ⟨g3, 18, none⟩ = some (.slice none 0 0) := HB3.out.cell 18
  have f18 := HB3.out.frozen 18
  go_upto_region 13 with (fail)
  rw [set_self HB3.out rfl]
  clear a18 b18 f18
  clear c0
  refine wp_region_list ?_
  refine wpList_load_row rfl 91 (.tmp 3) rfl g3 rfl 91 (txK 1) (0, 0) _ HB3.out Tryz.underlying91 rfl (by kernel_rfl) ?_
  simp only [Act.put, List.setIfInBounds_toArray, List.set_cons_zero, List.set_cons_succ]
  refine wpList_store_row rfl 91 (.tmp 2) (.tmp 66) rfl (g + 1) (txK 1) rfl rfl 91 (txK 0) HB2.out (by kernel_rfl) rfl (txK_one 1) ?_
  have HR2 := Lib.hid (blk_setRow (cs' := txK 1) HB2.out)
  have HG3 := Lib.hid (only_setRow (g := g + 1) HG.out (by have := HW.out; omega) (txK 1))
  generalize w3.setRow (g + 1) (txK 1) = w4 at *
  refine wpList_nil ?_
  simp only [Act.put, List.setIfInBounds_toArray, List.set_cons_zero, List.set_cons_succ]
  go_wp2_with fail
  refine bodyPost_ret (results_cell_row (fn := Tryz.f92) rfl _ _ _ _ _ _ _ rfl HR2.out Tryz.underlying91 rfl (by kernel_rfl)) rfl ?_
  exact ⟨rfl, HG3.out⟩
set_option maxRecDepth 100000 in
set_option maxHeartbeats 4000000 in
theorem txNamed_2 (w : World) : Calls Tryz.prog 92 #[.agg (txK 2)] w fun e w' => e = .returned (.agg (txK 2)) ∧ w.grownBy w' none := by
  have hG := only_alloc (only_alloc (World.grownBy.refl w none) (.cells (txK 2) 91)) (.cells (txK 0) 91)
  have hb1 := (Blk.new w 91 (txK 2)).alloc (.cells (txK 0) 91)
  have hb2 := Blk.new (w.alloc (.cells (txK 2) 91)) 91 (txK 0)
  rw [World.size_alloc] at hb2
  go_enter Tryz.func92, Tryz.ntmps92
  go_upto_region 1 with (fail)
  change Code.wp _ _ _ _ ((w.alloc (.cells (txK 2) 91)).alloc (.cells (txK 0) 91))
  obtain ⟨g, hg⟩ : ∃ g, w.heap.size = g := ⟨_, rfl⟩
  have HW := Lib.hid hg
  rw [hg] at hb1 hb2 ⊢
  clear hg
  generalize (w.alloc (.cells (txK 2) 91)).alloc (.cells (txK 0) 91) = w1 at *
  have c0 : w1.cell? ⟨g, 0, none⟩ = some (.int .i64 2) := hb1.cell 0
  have c11 : w1.cell? ⟨g, 11, none⟩ = some (.int .u64 0) := hb1.cell 11
  have c12 : w1.cell? ⟨g, 12, none⟩ = some (.string ⟨#[]⟩) := hb1.cell 12
  have c13 : w1.cell? ⟨g, 13, none⟩ = some (.int .u64 0) := hb1.cell 13
  have c14 : w1.cell? ⟨g, 14, none⟩ = some (.int .u64 0) := hb1.cell 14
  have c15 : w1.cell? ⟨g, 15, none⟩ = some (.int .u64 0) := hb1.cell 15
  have c16 : w1.cell? ⟨g, 16, none⟩ = some (.int .u64 0) := hb1.cell 16
  have c17 : w1.cell? ⟨g, 17, none⟩ = some (.string ⟨#[]⟩) := hb1.cell 17
  have HB1 := Lib.hid (hb1.alloc (.cells (txK 2) 91)); have HB2 := Lib.hid (hb2.alloc (.cells (txK 2) 91)); have HB3 := Lib.hid (Blk.new w1 91 (txK 2))
  have HG := Lib.hid (only_alloc hG (.cells (txK 2) 91))
  clear hb1 hb2 hG
  refine wp_region_list ?_
  iterate 36 go_step
  refine wp_store_row 91 (.tmp 3) (.tmp 14) rfl w1.heap.size (txK 2) rfl rfl 91 (txK 0) (Blk.new w1 _ (txK 0)) (by kernel_rfl) rfl (txK_one 2) ?_
  rw [World.setRow_alloc_new]
  obtain ⟨g3, hg3⟩ : ∃ g, w1.heap.size = g := ⟨_, rfl⟩
  rw [hg3] at HB3 ⊢
  clear hg3
  generalize w1.alloc (.cells (txK 2) 91) = w2 at *
  clear c0 c11 c12 c13 c14 c15 c16 c17
  have c0 : w2.cell? ⟨g, 0, none⟩ = some (.int .i64 2) := HB1.out.cell 0
  go_upto_region 5 with (fail)
  have l1 := HB1.out.lt; have l3 := HB3.out.lt
  have hC0 : (fun V => Below w2.heap.size w2 V) w2.drew := ⟨rfl, rfl, rfl, Nat.le_refl _, fun _ _ => rfl⟩
  refine wp_region_class (fun V => Below w2.heap.size w2 V) (by kernel_rfl) (by kernel_rfl) hC0 ?_
  have hcc := class_const hC0
  (try simp only [Act.put])
  (repeat go_big_quiet_step (fail))
  refine wpQuiet_loadM (.int .u64 0) _ _ ⟨g, 1, none⟩ _ rfl rfl rfl Tryz.underlying22 rfl (fun V hV => ((hV.cell (p := ⟨g, 1, none⟩) l1).trans (HB1.out.cell 1)).trans rfl) ?_
  simp only [Act.put, List.setIfInBounds_toArray, List.set_cons_zero, List.set_cons_succ]
  (repeat go_big_quiet_step (fail))
  refine wpQuiet_loadM (.int .u64 0) _ _ ⟨g, 2, none⟩ _ rfl rfl rfl Tryz.underlying22 rfl (fun V hV => ((hV.cell (p := ⟨g, 2, none⟩) l1).trans (HB1.out.cell 2)).trans rfl) ?_
  simp only [Act.put, List.setIfInBounds_toArray, List.set_cons_zero, List.set_cons_succ]
  (repeat go_big_quiet_step (fail))
  refine wpQuiet_value rfl (.agg #[.int .u64 0, .int .u64 0, .int .u64 0, .int .u64 0]) (fun V hV => exec_loadW _ rfl rfl (((hV.cell (p := ⟨g, 7, none⟩) l1).trans (HB1.out.cell 7)).trans rfl) (((hV.cell (p := ⟨g, 8, none⟩) l1).trans (HB1.out.cell 8)).trans rfl) (((hV.cell (p := ⟨g, 9, none⟩) l1).trans (HB1.out.cell 9)).trans rfl) (((hV.cell (p := ⟨g, 10, none⟩) l1).trans (HB1.out.cell 10)).trans rfl)) ?_
  simp only [Act.put, List.setIfInBounds_toArray, List.set_cons_zero, List.set_cons_succ]
  (repeat go_big_quiet_step (fail))
  refine wpQuiet_loadM (.int .u64 0) _ _ ⟨g, 20, none⟩ _ rfl rfl rfl Tryz.underlying22 rfl (fun V hV => ((hV.cell (p := ⟨g, 20, none⟩) l1).trans (HB1.out.cell 20)).trans rfl) ?_
  simp only [Act.put, List.setIfInBounds_toArray, List.set_cons_zero, List.set_cons_succ]
  (repeat go_big_quiet_step (fail))
  refine wpQuiet_value rfl (.agg #[.int .u64 0, .int .u64 0, .int .u64 0, .int .u64 0]) (fun V hV => exec_loadW _ rfl rfl (((hV.cell (p := ⟨g, 21, none⟩) l1).trans (HB1.out.cell 21)).trans rfl) (((hV.cell (p := ⟨g, 22, none⟩) l1).trans (HB1.out.cell 22)).trans rfl) (((hV.cell (p := ⟨g, 23, none⟩) l1).trans (HB1.out.cell 23)).trans rfl) (((hV.cell (p := ⟨g, 24, none⟩) l1).trans (HB1.out.cell 24)).trans rfl)) ?_
  simp only [Act.put, List.setIfInBounds_toArray, List.set_cons_zero, List.set_cons_succ]
  (repeat go_big_quiet_step (fail))
  refine wpQuiet_value rfl (.agg #[.int .u64 0, .int .u64 0, .int .u64 0, .int .u64 0]) (fun V hV => exec_loadW _ rfl rfl (((hV.cell (p := ⟨g, 25, none⟩) l1).trans (HB1.out.cell 25)).trans rfl) (((hV.cell (p := ⟨g, 26, none⟩) l1).trans (HB1.out.cell 26)).trans rfl) (((hV.cell (p := ⟨g, 27, none⟩) l1).trans (HB1.out.cell 27)).trans rfl) (((hV.cell (p := ⟨g, 28, none⟩) l1).trans (HB1.out.cell 28)).trans rfl)) ?_
  simp only [Act.put, List.setIfInBounds_toArray, List.set_cons_zero, List.set_cons_succ]
  (repeat go_big_quiet_step (fail))
  refine wpQuiet_skip rfl (fun V hV => same_u64 _ _ rfl rfl rfl (HB3.out.below hV l3) rfl) ?_
  simp only [Act.put, List.setIfInBounds_toArray, List.set_cons_zero, List.set_cons_succ]
  (repeat go_big_quiet_step (fail))
  refine wpQuiet_skip rfl (fun V hV => same_u64 _ _ rfl rfl rfl (HB3.out.below hV l3) rfl) ?_
  simp only [Act.put, List.setIfInBounds_toArray, List.set_cons_zero, List.set_cons_succ]
  (repeat go_big_quiet_step (fail))
  refine wpQuiet_skip rfl (fun V hV => same_word _ _ rfl rfl rfl (HB3.out.below hV l3) rfl rfl rfl rfl) ?_
  simp only [Act.put, List.setIfInBounds_toArray, List.set_cons_zero, List.set_cons_succ]
  (repeat go_big_quiet_step (fail))
  refine wpQuiet_skip rfl (fun V hV => same_u64 _ _ rfl rfl rfl (HB3.out.below hV l3) rfl) ?_
  simp only [Act.put, List.setIfInBounds_toArray, List.set_cons_zero, List.set_cons_succ]
  (repeat go_big_quiet_step (fail))
  refine wpQuiet_skip rfl (fun V hV => same_word _ _ rfl rfl rfl (HB3.out.below hV l3) rfl rfl rfl rfl) ?_
  simp only [Act.put, List.setIfInBounds_toArray, List.set_cons_zero, List.set_cons_succ]
  (repeat go_big_quiet_step (fail))
  refine wpQuiet_skip rfl (fun V hV => same_word _ _ rfl rfl rfl (HB3.out.below hV l3) rfl rfl rfl rfl) ?_
  simp only [Act.put, List.setIfInBounds_toArray, List.set_cons_zero, List.set_cons_succ]
  (repeat go_big_quiet_step (fail))
  refine wpQuiet_nil ?_
  intro w3 hw3
  replace HB1 := Lib.hid (HB1.out.below hw3 l1); replace HB2 := Lib.hid (HB2.out.below hw3 HB2.out.lt); replace HB3 := Lib.hid (HB3.out.below hw3 l3)
  replace HG := Lib.hid (grown_self HG.out (grown_of_below hw3) (by simp))
  clear hcc hC0 hw3 l1 l3 c0
  have c0 : w3.cell? ⟨g, 0, none⟩ = some (.int .i64 2) := HB1.out.cell 0
  have a3 : w3.cell? ⟨g, 3, none⟩ = some (.int .u64 0) := HB1.out.cell 3
  have b3 : w3.cell? ⟨g3, 3, none⟩ = some (.int .u64 0) := HB3.out.cell 3
  have f3 := HB3.out.frozen 3
  have a4 : w3.cell? ⟨g, 4, none⟩ = some (.int .u64 0) := HB1.out.cell 4
  have b4 : w3.cell? ⟨g3, 4, none⟩ = some (.int .u64 0) := HB3.out.cell 4
  have f4 := HB3.out.frozen 4
  have a5 : w3.cell? ⟨g, 5, none⟩ = some (.int .u64 0) := HB1.out.cell 5
  have b5 : w3.cell? ⟨g3, 5, none⟩ = some (.int .u64 0) := HB3.out.cell 5
  have f5 := HB3.out.frozen 5
  have a6 : w3.cell? ⟨g, 6, none⟩ = some (.int .u64 0) := HB1.out.cell 6
  have b6 : w3.cell? ⟨g3, 6, none⟩ = some (.int .u64 0) := HB3.out.cell 6
  have f6 := HB3.out.frozen 6
  go_upto_region 12 with (fail)
  rw [set_self HB3.out rfl, set_self HB3.out rfl, set_self HB3.out rfl, set_self HB3.out rfl]
  clear a3 b3 f3 a4 b4 f4 a5 b5 f5 a6 b6 f6
  have a18 : w3.cell? ⟨g, 18, none⟩ = some (.slice none 0 0) := HB1.out.cell 18
  have b18 : w3.cell? ⟨g3, 18, none⟩ = some (.slice none 0 0) := HB3.out.cell 18
  have f18 := HB3.out.frozen 18
  go_upto_region 13 with (fail)
  rw [set_self HB3.out rfl]
  clear a18 b18 f18
  clear c0
  refine wp_region_list ?_
  refine wpList_load_row rfl 91 (.tmp 3) rfl g3 rfl 91 (txK 2) (0, 0) _ HB3.out Tryz.underlying91 rfl (by kernel_rfl) ?_
  simp only [Act.put, List.setIfInBounds_toArray, List.set_cons_zero, List.set_cons_succ]
  refine wpList_store_row rfl 91 (.tmp 2) (.tmp 66) rfl (g + 1) (txK 2) rfl rfl 91 (txK 0) HB2.out (by kernel_rfl) rfl (txK_one 2) ?_
  have HR2 := Lib.hid (blk_setRow (cs' := txK 2) HB2.out)
  have HG3 := Lib.hid (only_setRow (g := g + 1) HG.out (by have := HW.out; omega) (txK 2))
  generalize w3.setRow (g + 1) (txK 2) = w4 at *
  refine wpList_nil ?_
  simp only [Act.put, List.setIfInBounds_toArray, List.set_cons_zero, List.set_cons_succ]
  go_wp2_with fail
  refine bodyPost_ret (results_cell_row (fn := Tryz.f92) rfl _ _ _ _ _ _ _ rfl HR2.out Tryz.underlying91 rfl (by kernel_rfl)) rfl ?_
  exact ⟨rfl, HG3.out⟩
set_option maxRecDepth 100000 in
set_option maxHeartbeats 4000000 in
theorem txNamed_4 (w : World) : Calls Tryz.prog 92 #[.agg (txK 4)] w fun e w' => e = .returned (.agg (txK 4)) ∧ w.grownBy w' none := by
  have hG := only_alloc (only_alloc (World.grownBy.refl w none) (.cells (txK 4) 91)) (.cells (txK 0) 91)
  have hb1 := (Blk.new w 91 (txK 4)).alloc (.cells (txK 0) 91)
  have hb2 := Blk.new (w.alloc (.cells (txK 4) 91)) 91 (txK 0)
  rw [World.size_alloc] at hb2
  go_enter Tryz.func92, Tryz.ntmps92
  go_upto_region 1 with (fail)
  change Code.wp _ _ _ _ ((w.alloc (.cells (txK 4) 91)).alloc (.cells (txK 0) 91))
  obtain ⟨g, hg⟩ : ∃ g, w.heap.size = g := ⟨_, rfl⟩
  have HW := Lib.hid hg
  rw [hg] at hb1 hb2 ⊢
  clear hg
  generalize (w.alloc (.cells (txK 4) 91)).alloc (.cells (txK 0) 91) = w1 at *
  have c0 : w1.cell? ⟨g, 0, none⟩ = some (.int .i64 4) := hb1.cell 0
  have c11 : w1.cell? ⟨g, 11, none⟩ = some (.int .u64 0) := hb1.cell 11
  have c12 : w1.cell? ⟨g, 12, none⟩ = some (.string ⟨#[]⟩) := hb1.cell 12
  have c13 : w1.cell? ⟨g, 13, none⟩ = some (.int .u64 0) := hb1.cell 13
  have c14 : w1.cell? ⟨g, 14, none⟩ = some (.int .u64 0) := hb1.cell 14
  have c15 : w1.cell? ⟨g, 15, none⟩ = some (.int .u64 0) := hb1.cell 15
  have c16 : w1.cell? ⟨g, 16, none⟩ = some (.int .u64 0) := hb1.cell 16
  have c17 : w1.cell? ⟨g, 17, none⟩ = some (.string ⟨#[]⟩) := hb1.cell 17
  have HB1 := Lib.hid (hb1.alloc (.cells (txK 4) 91)); have HB2 := Lib.hid (hb2.alloc (.cells (txK 4) 91)); have HB3 := Lib.hid (Blk.new w1 91 (txK 4))
  have HG := Lib.hid (only_alloc hG (.cells (txK 4) 91))
  clear hb1 hb2 hG
  refine wp_region_list ?_
  iterate 36 go_step
  refine wp_store_row 91 (.tmp 3) (.tmp 14) rfl w1.heap.size (txK 4) rfl rfl 91 (txK 0) (Blk.new w1 _ (txK 0)) (by kernel_rfl) rfl (txK_one 4) ?_
  rw [World.setRow_alloc_new]
  obtain ⟨g3, hg3⟩ : ∃ g, w1.heap.size = g := ⟨_, rfl⟩
  rw [hg3] at HB3 ⊢
  clear hg3
  generalize w1.alloc (.cells (txK 4) 91) = w2 at *
  clear c0 c11 c12 c13 c14 c15 c16 c17
  have c0 : w2.cell? ⟨g, 0, none⟩ = some (.int .i64 4) := HB1.out.cell 0
  go_upto_region 5 with (fail)
  have l1 := HB1.out.lt; have l3 := HB3.out.lt
  have hC0 : (fun V => Below w2.heap.size w2 V) w2.drew := ⟨rfl, rfl, rfl, Nat.le_refl _, fun _ _ => rfl⟩
  refine wp_region_class (fun V => Below w2.heap.size w2 V) (by kernel_rfl) (by kernel_rfl) hC0 ?_
  have hcc := class_const hC0
  (try simp only [Act.put])
  (repeat go_big_quiet_step (fail))
  refine wpQuiet_loadM (.int .u64 0) _ _ ⟨g, 1, none⟩ _ rfl rfl rfl Tryz.underlying22 rfl (fun V hV => ((hV.cell (p := ⟨g, 1, none⟩) l1).trans (HB1.out.cell 1)).trans rfl) ?_
  simp only [Act.put, List.setIfInBounds_toArray, List.set_cons_zero, List.set_cons_succ]
  (repeat go_big_quiet_step (fail))
  refine wpQuiet_loadM (.int .u64 0) _ _ ⟨g, 2, none⟩ _ rfl rfl rfl Tryz.underlying22 rfl (fun V hV => ((hV.cell (p := ⟨g, 2, none⟩) l1).trans (HB1.out.cell 2)).trans rfl) ?_
  simp only [Act.put, List.setIfInBounds_toArray, List.set_cons_zero, List.set_cons_succ]
  (repeat go_big_quiet_step (fail))
  refine wpQuiet_value rfl (.agg #[.int .u64 0, .int .u64 0, .int .u64 0, .int .u64 0]) (fun V hV => exec_loadW _ rfl rfl (((hV.cell (p := ⟨g, 7, none⟩) l1).trans (HB1.out.cell 7)).trans rfl) (((hV.cell (p := ⟨g, 8, none⟩) l1).trans (HB1.out.cell 8)).trans rfl) (((hV.cell (p := ⟨g, 9, none⟩) l1).trans (HB1.out.cell 9)).trans rfl) (((hV.cell (p := ⟨g, 10, none⟩) l1).trans (HB1.out.cell 10)).trans rfl)) ?_
  simp only [Act.put, List.setIfInBounds_toArray, List.set_cons_zero, List.set_cons_succ]
  (repeat go_big_quiet_step (fail))
  refine wpQuiet_loadM (.int .u64 0) _ _ ⟨g, 20, none⟩ _ rfl rfl rfl Tryz.underlying22 rfl (fun V hV => ((hV.cell (p := ⟨g, 20, none⟩) l1).trans (HB1.out.cell 20)).trans rfl) ?_
  simp only [Act.put, List.setIfInBounds_toArray, List.set_cons_zero, List.set_cons_succ]
  (repeat go_big_quiet_step (fail))
  refine wpQuiet_value rfl (.agg #[.int .u64 0, .int .u64 0, .int .u64 0, .int .u64 0]) (fun V hV => exec_loadW _ rfl rfl (((hV.cell (p := ⟨g, 21, none⟩) l1).trans (HB1.out.cell 21)).trans rfl) (((hV.cell (p := ⟨g, 22, none⟩) l1).trans (HB1.out.cell 22)).trans rfl) (((hV.cell (p := ⟨g, 23, none⟩) l1).trans (HB1.out.cell 23)).trans rfl) (((hV.cell (p := ⟨g, 24, none⟩) l1).trans (HB1.out.cell 24)).trans rfl)) ?_
  simp only [Act.put, List.setIfInBounds_toArray, List.set_cons_zero, List.set_cons_succ]
  (repeat go_big_quiet_step (fail))
  refine wpQuiet_value rfl (.agg #[.int .u64 0, .int .u64 0, .int .u64 0, .int .u64 0]) (fun V hV => exec_loadW _ rfl rfl (((hV.cell (p := ⟨g, 25, none⟩) l1).trans (HB1.out.cell 25)).trans rfl) (((hV.cell (p := ⟨g, 26, none⟩) l1).trans (HB1.out.cell 26)).trans rfl) (((hV.cell (p := ⟨g, 27, none⟩) l1).trans (HB1.out.cell 27)).trans rfl) (((hV.cell (p := ⟨g, 28, none⟩) l1).trans (HB1.out.cell 28)).trans rfl)) ?_
  simp only [Act.put, List.setIfInBounds_toArray, List.set_cons_zero, List.set_cons_succ]
  (repeat go_big_quiet_step (fail))
  refine wpQuiet_skip rfl (fun V hV => same_u64 _ _ rfl rfl rfl (HB3.out.below hV l3) rfl) ?_
  simp only [Act.put, List.setIfInBounds_toArray, List.set_cons_zero, List.set_cons_succ]
  (repeat go_big_quiet_step (fail))
  refine wpQuiet_skip rfl (fun V hV => same_u64 _ _ rfl rfl rfl (HB3.out.below hV l3) rfl) ?_
  simp only [Act.put, List.setIfInBounds_toArray, List.set_cons_zero, List.set_cons_succ]
  (repeat go_big_quiet_step (fail))
  refine wpQuiet_skip rfl (fun V hV => same_word _ _ rfl rfl rfl (HB3.out.below hV l3) rfl rfl rfl rfl) ?_
  simp only [Act.put, List.setIfInBounds_toArray, List.set_cons_zero, List.set_cons_succ]
  (repeat go_big_quiet_step (fail))
  refine wpQuiet_skip rfl (fun V hV => same_u64 _ _ rfl rfl rfl (HB3.out.below hV l3) rfl) ?_
  simp only [Act.put, List.setIfInBounds_toArray, List.set_cons_zero, List.set_cons_succ]
  (repeat go_big_quiet_step (fail))
  refine wpQuiet_skip rfl (fun V hV => same_word _ _ rfl rfl rfl (HB3.out.below hV l3) rfl rfl rfl rfl) ?_
  simp only [Act.put, List.setIfInBounds_toArray, List.set_cons_zero, List.set_cons_succ]
  (repeat go_big_quiet_step (fail))
  refine wpQuiet_skip rfl (fun V hV => same_word _ _ rfl rfl rfl (HB3.out.below hV l3) rfl rfl rfl rfl) ?_
  simp only [Act.put, List.setIfInBounds_toArray, List.set_cons_zero, List.set_cons_succ]
  (repeat go_big_quiet_step (fail))
  refine wpQuiet_nil ?_
  intro w3 hw3
  replace HB1 := Lib.hid (HB1.out.below hw3 l1); replace HB2 := Lib.hid (HB2.out.below hw3 HB2.out.lt); replace HB3 := Lib.hid (HB3.out.below hw3 l3)
  replace HG := Lib.hid (grown_self HG.out (grown_of_below hw3) (by simp))
  clear hcc hC0 hw3 l1 l3 c0
  have c0 : w3.cell? ⟨g, 0, none⟩ = some (.int .i64 4) := HB1.out.cell 0
  have a19 : w3.cell? ⟨g, 19, none⟩ = some (.slice none 0 0) := HB1.out.cell 19
  have b19 : w3.cell? ⟨g3, 19, none⟩ = some (.slice none 0 0) := HB3.out.cell 19
  have f19 := HB3.out.frozen 19
  go_upto_region 11 with (fail)
  rw [set_self HB3.out rfl]
  clear a19 b19 f19
  have a3 : w3.cell? ⟨g, 3, none⟩ = some (.int .u64 0) := HB1.out.cell 3
  have b3 : w3.cell? ⟨g3, 3, none⟩ = some (.int .u64 0) := HB3.out.cell 3
  have f3 := HB3.out.frozen 3
  have a4 : w3.cell? ⟨g, 4, none⟩ = some (.int .u64 0) := HB1.out.cell 4
  have b4 : w3.cell? ⟨g3, 4, none⟩ = some (.int .u64 0) := HB3.out.cell 4
  have f4 := HB3.out.frozen 4
  have a5 : w3.cell? ⟨g, 5, none⟩ = some (.int .u64 0) := HB1.out.cell 5
  have b5 : w3.cell? ⟨g3, 5, none⟩ = some (.int .u64 0) := HB3.out.cell 5
  have f5 := HB3.out.frozen 5
  have a6 : w3.cell? ⟨g, 6, none⟩ = some (.int .u64 0) := HB1.out.cell 6
  have b6 : w3.cell? ⟨g3, 6, none⟩ = some (.int .u64 0) := HB3.out.cell 6
  have f6 := HB3.out.frozen 6
  go_upto_region 12 with (fail)
  rw [set_self HB3.out rfl, set_self HB3.out rfl, set_self HB3.out rfl, set_self HB3.out rfl]
  clear a3 b3 f3 a4 b4 f4 a5 b5 f5 a6 b6 f6
  have a18 : w3.cell? ⟨g, 18, none⟩ = some (.slice none 0 0) := HB1.out.cell 18
  have b18 : w3.cell? ⟨g3, 18, none⟩ = some (.slice none 0 0) := HB3.out.cell 18
  have f18 := HB3.out.frozen 18
  go_upto_region 13 with (fail)
  rw [set_self HB3.out rfl]
  clear a18 b18 f18
  clear c0
  refine wp_region_list ?_
  refine wpList_load_row rfl 91 (.tmp 3) rfl g3 rfl 91 (txK 4) (0, 0) _ HB3.out Tryz.underlying91 rfl (by kernel_rfl) ?_
  simp only [Act.put, List.setIfInBounds_toArray, List.set_cons_zero, List.set_cons_succ]
  refine wpList_store_row rfl 91 (.tmp 2) (.tmp 66) rfl (g + 1) (txK 4) rfl rfl 91 (txK 0) HB2.out (by kernel_rfl) rfl (txK_one 4) ?_
  have HR2 := Lib.hid (blk_setRow (cs' := txK 4) HB2.out)
  have HG3 := Lib.hid (only_setRow (g := g + 1) HG.out (by have := HW.out; omega) (txK 4))
  generalize w3.setRow (g + 1) (txK 4) = w4 at *
  refine wpList_nil ?_
  simp only [Act.put, List.setIfInBounds_toArray, List.set_cons_zero, List.set_cons_succ]
  go_wp2_with fail
  refine bodyPost_ret (results_cell_row (fn := Tryz.f92) rfl _ _ _ _ _ _ _ rfl HR2.out Tryz.underlying91 rfl (by kernel_rfl)) rfl ?_
  exact ⟨rfl, HG3.out⟩
end Go.Proofs.YthalohloneojlaaGreatDoor
/- A map of two entries that a call makes itself, whose keys are numbers: made, looked up. Of whatever program. -/
namespace Go.Proofs.YthalohloneojlaaGreatDoor
open Go.RowKit Go.Shelf
set_option linter.unusedVariables false
set_option linter.unusedSimpArgs false
section
variable {P : Program}
theorem run_mapPut {mty kt et : TypeId} {d : TypeDesc} {r clock : Nat} {es : Array MapEntry} {key val : Value} {w : World} (hm : P.underlying mty = some (.map kt et)) (hk : P.underlying kt = some d) (hkey : MapKept.IsKey d key) (hb : w.heap[r]? = some (.map es clock)) (hf : Instr.findNow d key es.toList 0 = some none) :
    (Instr.mapUpdate mty (.map (some r)) key val).run P w = .ok () (w.putObj r (.map (es.push { key := key, val := val, born := clock }) (clock + 1))) := by
  have hc : (Instr.checkKey false 10000 kt key).run P w = .ok () w := MapKept.run_checkKey hk hkey false 9999
  simp [Instr.mapUpdate, run_underlying hm, MapKept.run_getObj_map hb, hc, MapKept.run_findKey hk hf, MapKept.run_setObj_map _ hb, Result.andThen, World.putObj]
theorem run_mapGet {mty kt et : TypeId} {d : TypeDesc} {r clock i : Nat} {es : Array MapEntry} {key val : Value} {w : World} (hm : P.underlying mty = some (.map kt et)) (hk : P.underlying kt = some d) (hkey : MapKept.IsKey d key) (hb : w.heap[r]? = some (.map es clock)) (hf : Instr.findNow d key es.toList 0 = some (some (i, val))) :
    (Instr.lookup mty (.map (some r)) key false).run P w = .ok val w := by
  have hc : (Instr.checkKey es.isEmpty 10000 kt key).run P w = .ok () w := MapKept.run_checkKey hk hkey _ 9999
  simp [Instr.lookup, run_underlying hm, MapKept.run_getObj_map hb, hc, MapKept.run_findKey hk hf, Result.andThen]
/-- a map of two -/
theorem map_two {mty kt et : TypeId} (hm : P.underlying mty = some (.map kt et)) (hk : P.underlying kt = some (.int .i64)) (p q : Int) (hpq : p ≠ q) (f g : Value) (w : World) : ∃ w2 w3,
    (Instr.mapUpdate mty (.map (some w.heap.size)) (.int .i64 p) f).run P (w.alloc (.map #[] 0)) = .ok () w2 ∧ (Instr.mapUpdate mty (.map (some w.heap.size)) (.int .i64 q) g).run P w2 = .ok () w3 ∧
    Below w.heap.size w w3 ∧ w3.heap.size = w.heap.size + 1 ∧ (∀ V : World, V.heap[w.heap.size]? = w3.heap[w.heap.size]? → (Instr.lookup mty (.map (some w.heap.size)) (.int .i64 p) false).run P V = .ok f V ∧ (Instr.lookup mty (.map (some w.heap.size)) (.int .i64 q) false).run P V = .ok g V) := by
  have h1 : (w.alloc (.map #[] 0)).heap[w.heap.size]? = some (.map #[] 0) := World.alloc_heap_new w _
  have hz1 : (w.alloc (.map #[] 0)).heap.size = w.heap.size + 1 := by simp
  have e1 := run_mapPut (val := f) hm hk (key := .int .i64 p) (by simp [MapKept.IsKey]) h1 rfl
  have hb1 : Below w.heap.size w (w.alloc (.map #[] 0)) := (Below.refl _ w).alloc (Nat.le_refl _) _
  generalize w.alloc (.map #[] 0) = w1 at *
  obtain ⟨w2, hw2⟩ : ∃ w2, w1.putObj w.heap.size (.map ((#[] : Array MapEntry).push { key := .int .i64 p, val := f, born := 0 }) (0 + 1)) = w2 := ⟨_, rfl⟩
  rw [hw2] at e1
  have h2 : w2.heap[w.heap.size]? = some (.map ((#[] : Array MapEntry).push { key := .int .i64 p, val := f, born := 0 }) (0 + 1)) := by rw [← hw2]; exact World.putObj_heap_same (by omega)
  have n1 : Instr.findNow (.int .i64) (.int .i64 q) ((#[] : Array MapEntry).push { key := .int .i64 p, val := f, born := 0 }).toList 0 = some none := by
    have : (q == p) = false := by rw [beq_eq_false_iff_ne]; exact fun e => hpq e.symm
    simp [Instr.findNow, Instr.sameNow, this]
  have e2 := run_mapPut (val := g) hm hk (key := .int .i64 q) (by simp [MapKept.IsKey]) h2 n1
  obtain ⟨w3, hw3⟩ : ∃ w3, w2.putObj w.heap.size (.map (((#[] : Array MapEntry).push { key := .int .i64 p, val := f, born := 0 }).push { key := .int .i64 q, val := g, born := 0 + 1 }) (0 + 1 + 1)) = w3 := ⟨_, rfl⟩
  rw [hw3] at e2
  have hz2 : w2.heap.size = w.heap.size + 1 := by rw [← hw2, ← hz1]; simp [World.putObj]
  have h3 : w3.heap[w.heap.size]? = some (.map (((#[] : Array MapEntry).push { key := .int .i64 p, val := f, born := 0 }).push { key := .int .i64 q, val := g, born := 0 + 1 }) (0 + 1 + 1)) := by rw [← hw3]; exact World.putObj_heap_same (by omega)
  refine ⟨w2, w3, e1, e2, ?_, by rw [← hw3, ← hz2]; simp [World.putObj], fun V hV => ?_⟩
  · have k1 : Below w.heap.size w1 w2 := by
      rw [← hw2]; exact ⟨rfl, rfl, rfl, by simp [World.putObj], fun k hk => World.putObj_heap_other (by omega)⟩
    have k2 : Below w.heap.size w2 w3 := by
      rw [← hw3]; exact ⟨rfl, rfl, rfl, by simp [World.putObj], fun k hk => World.putObj_heap_other (by omega)⟩
    exact (hb1.trans k1).trans k2
  · have hV := hV.trans h3
    refine ⟨run_mapGet (i := 0) hm hk (by simp [MapKept.IsKey]) hV ?_, run_mapGet (i := 1) hm hk (by simp [MapKept.IsKey]) hV ?_⟩
    · simp [Instr.findNow, Instr.sameNow]
    · have : (q == p) = false := by rw [beq_eq_false_iff_ne]; exact fun e => hpq e.symm
      simp [Instr.findNow, Instr.sameNow, this]
end
end Go.Proofs.YthalohloneojlaaGreatDoor
