/- Merged: SzA, SzB, SzC. -/
import Derived.Test.YtagjpbcmhaekpaaGreatDoorMg13
/- The document's item of a row of texts (rescriptref06.Texts).  Printed by wip/genSzA.py from XFldT. -/
namespace Go.Proofs.YtagjpbcmhaekpaaGreatDoor
open Go.RowKit Go.Shelf
set_option linter.unusedVariables false
set_option linter.unusedSimpArgs false

set_option maxRecDepth 100000 in
set_option maxHeartbeats 2000000 in
theorem textsR6_any (B : Nat) (A : Option Addr) (n c : Nat) (xs : List ByteArray) (w : World) (h : Reads w B 1 A n (xs.map Value.string)) (hB : B ≤ w.heap.size) (hn : n ≤ 1000) :
    Calls Tryz.prog 23 #[.slice A n c] w fun e w' => ∃ A' c', e = .returned (.agg #[.bool true, .string ⟨#[]⟩, .slice A' n c']) ∧ SubV (fun g => w.heap.size ≤ g) w' (xs.map txt) (.slice A' n c') ∧ w.grownBy w' none := by
  have hl : xs.length = n := by have := h.1; simpa using this
  have hRB := Blk.new w 40 #[.bool false, .string ⟨#[]⟩, .slice none 0 0]
  have hG := only_alloc (World.grownBy.refl w none) (.cells #[.bool false, .string ⟨#[]⟩, .slice none 0 0] 40)
  go_enter Tryz.func23, Tryz.ntmps23
  go_upto_region 1 with (fail)
  obtain ⟨b, hb⟩ : ∃ b, w.heap.size = b := ⟨_, rfl⟩
  have HW := Lib.hid hb
  rw [hb] at hRB ⊢
  have hz : (w.alloc (.cells #[.bool false, .string ⟨#[]⟩, .slice none 0 0] 40)).heap.size = b + 1 := by simp [hb]
  have h := h.alloc hB (.cells #[.bool false, .string ⟨#[]⟩, .slice none 0 0] 40)
  generalize w.alloc (.cells #[.bool false, .string ⟨#[]⟩, .slice none 0 0] 40) = W1 at *
  obtain ⟨w3, hw3⟩ : ∃ w3, W1 = w3 := ⟨_, rfl⟩
  have hg3 : W1.grownBy w3 none := hw3 ▸ World.grownBy.refl W1 none
  rw [hw3]
  obtain ⟨b3, hb3⟩ : ∃ b, w3.heap.size = b := ⟨_, rfl⟩
  have hz3 := hg3.size
  have K0 : Held3 w3 b3 (.slice none 0 0) 0 (txtV (xs.take 0)) (w3.alloc (.cells #[.bool true, .string ⟨#[]⟩, .slice none 0 0] 40)) := by
    refine ⟨?_, World.ownsRow_nil _ _ _ _, only_alloc (World.grownBy.refl w3 none) _, by simp; omega, by omega⟩
    have := Blk.new w3 40 #[.bool true, .string ⟨#[]⟩, .slice none 0 0]
    rwa [hb3] at this
  have h := h.grown hg3 (by have := HW.out; omega) (by simp)
  have h0 := Lib.hid h
  have HL := Lib.hid hl
  have HB : Hid (B ≤ w3.heap.size) := Lib.hid (by have := HW.out; omega)
  have HRB := Lib.hid (hRB.grown hg3 (by simp))
  have HG := Lib.hid (grown_self hG hg3 (by simp))
  have h := h.alloc HB.out (.cells #[.bool true, .string ⟨#[]⟩, .slice none 0 0] 40)
  have HB3 : Hid (w3.heap.size = b3) := Lib.hid hb3
  have HS : Hid (w.heap.size ≤ b3) := Lib.hid (by have := HW.out; omega)
  have HZB : Hid (b + 1 ≤ b3) := Lib.hid (by omega)
  clear hG hg3 hl hB hRB hw3
  go_upto_region 2 with (fail)
  generalize w3.alloc (.cells #[.bool true, .string ⟨#[]⟩, .slice none 0 0] 40) = W4 at *
  clear hz hz3 hb3
  go_wp2_with fail
  go_loopw [4] (fun i wr => ∃ (k : Nat) (v : Value), i = .int .i64 k ∧ k ≤ n ∧ Held3 w3 b3 v k (txtV (xs.take k)) wr) (fun i _ => n - (intOf i).toNat)
  case atStart => exact ⟨0, _, rfl, by omega, K0⟩
  case round =>
    clear K0 h
    obtain ⟨k, v, rfl, hk, K0⟩ := hrel
    have h := h0.out.grown K0.grown HB.out (by simp)
    by_cases hlt : k < n
    · obtain ⟨g, off, rfl, hg, hc⟩ := Reads.vals Value.string .empty h hlt
      have c0 := hc k hlt
      have q1 : (k : Int) < (n : Int) := by omega
      have hTK : txtV (xs.take k) ++ [.bool false, .string (xs.getD k .empty), .slice none 0 0] = txtV (xs.take (k + 1)) := by
        rw [← txtV_snoc, List.take_add_one, List.getElem?_eq_getElem (by have := HL.out; omega), List.getD_eq_getElem?_getD, List.getElem?_eq_getElem (by have := HL.out; omega)]
        rfl
      obtain ⟨s, hs⟩ : ∃ s, xs.getD k .empty = s := ⟨_, rfl⟩
      rw [hs] at c0 hTK
      have HTK := Lib.hid hTK
      have H0 := Lib.hid h0.out
      have HGB : Hid (g < b3) := Lib.hid (by have := HB.out; have := HB3.out; omega)
      clear h hc hs h0 hTK
      obtain ⟨vA, vc, rfl⟩ := own_slice3 K0.own
      go_wp2_with fail
      refine wp_region_held (S := fun W => W.cell? ⟨g, off + k, none⟩ = some (.string s)) (by kernel_rfl) ?_
      change wpAnyH _ _ _ _ _ _ _ _ wr.drew
      have hS0 : wr.drew.cell? ⟨g, off + k, none⟩ = some (.string s) := c0
      replace K0 := K0.drew
      generalize wr.drew = u0 at *
      clear c0
      have hgb : g < b3 := HGB.out
      refine held_take (i := 0) (v := .pointer (some ⟨b3, 2, none⟩)) (some 12) rfl (by kernel_rfl) (by kernel_rfl) (by kernel_rfl) (fun _ _ _ h => h) rfl (Or.inl ⟨by rfl, fun W hW => by go_simp⟩) hS0 ?_
      simp only [Act.put, List.setIfInBounds_toArray, List.set_cons_zero, List.set_cons_succ]
      refine held_take (i := 2) (v := .slice (some ⟨g, off, none⟩) n c) (some 14) rfl (by kernel_rfl) (by kernel_rfl) (by kernel_rfl) (fun _ _ _ h => h) rfl (Or.inl ⟨by rfl, fun W hW => by go_simp⟩) hS0 ?_
      simp only [Act.put, List.setIfInBounds_toArray, List.set_cons_zero, List.set_cons_succ]
      refine held_take (i := 3) (v := .int .i64 (k : Int)) (some 15) rfl (by kernel_rfl) (by kernel_rfl) (by kernel_rfl) (fun _ _ _ h => h) rfl (Or.inl ⟨by rfl, fun W hW => by go_simp⟩) hS0 ?_
      simp only [Act.put, List.setIfInBounds_toArray, List.set_cons_zero, List.set_cons_succ]
      refine held_take (i := 4) (v := .pointer (some ⟨g, off + k, none⟩)) (some 16) rfl (by kernel_rfl) (by kernel_rfl) (by kernel_rfl) (fun _ _ _ h => h) rfl (Or.inl ⟨by rfl, fun W hW => by go_simp⟩) hS0 ?_
      simp only [Act.put, List.setIfInBounds_toArray, List.set_cons_zero, List.set_cons_succ]
      refine held_take (i := 5) (v := .string s) (some 17) rfl (by kernel_rfl) (by kernel_rfl) (by kernel_rfl) (fun _ _ _ h => h) rfl (Or.inl ⟨by rfl, fun W hW => by have q : W.cell? ⟨g, off + k, none⟩ = some (.string s) := hW; go_simp⟩) hS0 ?_
      simp only [Act.put, List.setIfInBounds_toArray, List.set_cons_zero, List.set_cons_succ]
      refine held_two (i := 1) (j := 6) (by kernel_rfl) ?_ ?_
      · refine held_value (some 13) rfl rfl (.slice vA k vc) (exec_load1 38 (.tmp 12) rfl _ rfl _ _ Tryz.underlying38 rfl (K0.blk.cell 2)) rfl hS0 ?_
        simp only [Act.put, List.setIfInBounds_toArray, List.set_cons_zero, List.set_cons_succ]
        refine held_one (i := 6) (by kernel_rfl) ?_
        refine held_enter (some 18) rfl rfl 21 #[.string s] (exec_call1 21 (.tmp 17) _ rfl _ rfl rfl) rfl ((textR6_any s _).mono ?_)
        rintro e u1 ⟨rfl, hgc⟩
        have hS1 : u1.cell? ⟨g, off + k, none⟩ = some (.string s) := hgc.cell hS0 (by simp)
        have K1 := K0.kept hgc
        refine ⟨_, rfl, hS1, ?_⟩
        simp only [Act.put, List.setIfInBounds_toArray, List.set_cons_zero, List.set_cons_succ]
        refine held_one (i := 7) (by kernel_rfl) ?_
        have hS2 : (u1.alloc (.cells #[.bool false, .string s, .slice none 0 0] 40)).cell? ⟨g, off + k, none⟩ = some (.string s) := (only_alloc (World.grownBy.refl u1 none) _).cell hS1 (by simp)
        refine held_value (some 19) rfl rfl (.slice (some ⟨u1.heap.size, 0, none⟩) 1 1) (by go_simp <;> rfl) rfl hS2 ?_
        simp only [Act.put, List.setIfInBounds_toArray, List.set_cons_zero, List.set_cons_succ]
        have K2 := K1.kept (only_alloc (World.grownBy.refl u1 none) (.cells #[.bool false, .string s, .slice none 0 0] 40))
        obtain ⟨i0, hi, hz0, hzs, hzb⟩ := info_parts item_info
        obtain ⟨v', u2, hrun, hown', hgrow, hiff, hob⟩ := run_append_own_at (P := Tryz.prog) (u1.alloc (.cells #[.bool false, .string s, .slice none 0 0] 40)) (b3 + 1) 38 38 40 i0 _ 3 48 Tryz.underlying38 hi hz0 hzs hzb rfl (by decide) (.slice vA k vc) k (txtV (xs.take k)) K2.own ⟨u1.heap.size, 0, none⟩ 1 1 [.bool false, .string s, .slice none 0 0] rfl (cell_three_new _ _ _ _ _) (by simp [Value.oneCell']) (by simp only [maxLen]; omega) (by omega) K2.size
        have hS3 : u2.cell? ⟨g, off + k, none⟩ = some (.string s) := hgrow.cell hS2 (fun e => by have e2 : b3 + 1 ≤ g := ownBlock_ge K2.own e.symm; omega)
        obtain ⟨g', cap', rfl⟩ := ownsRow_succ hown'
        have K3 := K2.put hown' hgrow
        refine held_one (i := 8) (by kernel_rfl) ?_
        refine held_value (some 20) rfl rfl (.slice (some ⟨g', 0, none⟩) (k + 1) cap') (exec_append (.tmp 13) (.tmp 19) 38 rfl _ _ _ rfl rfl hrun) rfl hS3 ?_
        simp only [Act.put, List.setIfInBounds_toArray, List.set_cons_zero, List.set_cons_succ]
        refine held_one (i := 9) (by kernel_rfl) ?_
        refine held_value (some 21) rfl rfl (.pointer (some ⟨b3, 2, none⟩)) (by go_simp <;> rfl) rfl hS3 ?_
        simp only [Act.put, List.setIfInBounds_toArray, List.set_cons_zero, List.set_cons_succ]
        refine held_one (i := 10) (by kernel_rfl) ?_
        have hS4 : (u2.setCell ⟨b3, 2, none⟩ (.slice (some ⟨g', 0, none⟩) (k + 1) cap')).cell? ⟨g, off + k, none⟩ = some (.string s) := by rw [World.cell?_setCell_far _ _ _ _ (by show b3 ≠ g; omega)]; exact hS3
        refine held_store rfl rfl (exec_store1 (.tmp 21) (.tmp 20) rfl rfl rfl (K2.blk.grown hgrow (fun e => by have := ownBlock_ge K2.own e.symm; omega)) (by simp)) hS4 ?_
        simp only [Act.put, List.setIfInBounds_toArray, List.set_cons_zero, List.set_cons_succ]
        refine wpAnyH_done (by kernel_rfl) ?_ _
        rw [HTK.out] at K3
        clear hrun hown' hgrow hob K2 hiff
        go_wp2_with fail
        go_roundw
        case rel => exact ⟨k + 1, _, by go_num, by omega, K3⟩
        case measure => simp [intOf]; omega
      · refine held_enter (some 18) rfl rfl 21 #[.string s] (exec_call1 21 (.tmp 17) _ rfl _ rfl rfl) rfl ((textR6_any s _).mono ?_)
        rintro e u1 ⟨rfl, hgc⟩
        have hS1 : u1.cell? ⟨g, off + k, none⟩ = some (.string s) := hgc.cell hS0 (by simp)
        have K1 := K0.kept hgc
        refine ⟨_, rfl, hS1, ?_⟩
        simp only [Act.put, List.setIfInBounds_toArray, List.set_cons_zero, List.set_cons_succ]
        refine held_two (i := 1) (j := 7) (by kernel_rfl) ?_ ?_
        · refine held_value (some 13) rfl rfl (.slice vA k vc) (exec_load1 38 (.tmp 12) rfl _ rfl _ _ Tryz.underlying38 rfl (K1.blk.cell 2)) rfl hS1 ?_
          simp only [Act.put, List.setIfInBounds_toArray, List.set_cons_zero, List.set_cons_succ]
          refine held_one (i := 7) (by kernel_rfl) ?_
          have hS2 : (u1.alloc (.cells #[.bool false, .string s, .slice none 0 0] 40)).cell? ⟨g, off + k, none⟩ = some (.string s) := (only_alloc (World.grownBy.refl u1 none) _).cell hS1 (by simp)
          refine held_value (some 19) rfl rfl (.slice (some ⟨u1.heap.size, 0, none⟩) 1 1) (by go_simp <;> rfl) rfl hS2 ?_
          simp only [Act.put, List.setIfInBounds_toArray, List.set_cons_zero, List.set_cons_succ]
          have K2 := K1.kept (only_alloc (World.grownBy.refl u1 none) (.cells #[.bool false, .string s, .slice none 0 0] 40))
          obtain ⟨i0, hi, hz0, hzs, hzb⟩ := info_parts item_info
          obtain ⟨v', u2, hrun, hown', hgrow, hiff, hob⟩ := run_append_own_at (P := Tryz.prog) (u1.alloc (.cells #[.bool false, .string s, .slice none 0 0] 40)) (b3 + 1) 38 38 40 i0 _ 3 48 Tryz.underlying38 hi hz0 hzs hzb rfl (by decide) (.slice vA k vc) k (txtV (xs.take k)) K2.own ⟨u1.heap.size, 0, none⟩ 1 1 [.bool false, .string s, .slice none 0 0] rfl (cell_three_new _ _ _ _ _) (by simp [Value.oneCell']) (by simp only [maxLen]; omega) (by omega) K2.size
          have hS3 : u2.cell? ⟨g, off + k, none⟩ = some (.string s) := hgrow.cell hS2 (fun e => by have e2 : b3 + 1 ≤ g := ownBlock_ge K2.own e.symm; omega)
          obtain ⟨g', cap', rfl⟩ := ownsRow_succ hown'
          have K3 := K2.put hown' hgrow
          refine held_one (i := 8) (by kernel_rfl) ?_
          refine held_value (some 20) rfl rfl (.slice (some ⟨g', 0, none⟩) (k + 1) cap') (exec_append (.tmp 13) (.tmp 19) 38 rfl _ _ _ rfl rfl hrun) rfl hS3 ?_
          simp only [Act.put, List.setIfInBounds_toArray, List.set_cons_zero, List.set_cons_succ]
          refine held_one (i := 9) (by kernel_rfl) ?_
          refine held_value (some 21) rfl rfl (.pointer (some ⟨b3, 2, none⟩)) (by go_simp <;> rfl) rfl hS3 ?_
          simp only [Act.put, List.setIfInBounds_toArray, List.set_cons_zero, List.set_cons_succ]
          refine held_one (i := 10) (by kernel_rfl) ?_
          have hS4 : (u2.setCell ⟨b3, 2, none⟩ (.slice (some ⟨g', 0, none⟩) (k + 1) cap')).cell? ⟨g, off + k, none⟩ = some (.string s) := by rw [World.cell?_setCell_far _ _ _ _ (by show b3 ≠ g; omega)]; exact hS3
          refine held_store rfl rfl (exec_store1 (.tmp 21) (.tmp 20) rfl rfl rfl (K2.blk.grown hgrow (fun e => by have := ownBlock_ge K2.own e.symm; omega)) (by simp)) hS4 ?_
          simp only [Act.put, List.setIfInBounds_toArray, List.set_cons_zero, List.set_cons_succ]
          refine wpAnyH_done (by kernel_rfl) ?_ _
          rw [HTK.out] at K3
          clear hrun hown' hgrow hob K2 hiff
          go_wp2_with fail
          go_roundw
          case rel => exact ⟨k + 1, _, by go_num, by omega, K3⟩
          case measure => simp [intOf]; omega
        · have hS2 : (u1.alloc (.cells #[.bool false, .string s, .slice none 0 0] 40)).cell? ⟨g, off + k, none⟩ = some (.string s) := (only_alloc (World.grownBy.refl u1 none) _).cell hS1 (by simp)
          refine held_value (some 19) rfl rfl (.slice (some ⟨u1.heap.size, 0, none⟩) 1 1) (by go_simp <;> rfl) rfl hS2 ?_
          simp only [Act.put, List.setIfInBounds_toArray, List.set_cons_zero, List.set_cons_succ]
          have K2 := K1.kept (only_alloc (World.grownBy.refl u1 none) (.cells #[.bool false, .string s, .slice none 0 0] 40))
          refine held_one (i := 1) (by kernel_rfl) ?_
          refine held_value (some 13) rfl rfl (.slice vA k vc) (exec_load1 38 (.tmp 12) rfl _ rfl _ _ Tryz.underlying38 rfl (K2.blk.cell 2)) rfl hS2 ?_
          simp only [Act.put, List.setIfInBounds_toArray, List.set_cons_zero, List.set_cons_succ]
          obtain ⟨i0, hi, hz0, hzs, hzb⟩ := info_parts item_info
          obtain ⟨v', u2, hrun, hown', hgrow, hiff, hob⟩ := run_append_own_at (P := Tryz.prog) (u1.alloc (.cells #[.bool false, .string s, .slice none 0 0] 40)) (b3 + 1) 38 38 40 i0 _ 3 48 Tryz.underlying38 hi hz0 hzs hzb rfl (by decide) (.slice vA k vc) k (txtV (xs.take k)) K2.own ⟨u1.heap.size, 0, none⟩ 1 1 [.bool false, .string s, .slice none 0 0] rfl (cell_three_new _ _ _ _ _) (by simp [Value.oneCell']) (by simp only [maxLen]; omega) (by omega) K2.size
          have hS3 : u2.cell? ⟨g, off + k, none⟩ = some (.string s) := hgrow.cell hS2 (fun e => by have e2 : b3 + 1 ≤ g := ownBlock_ge K2.own e.symm; omega)
          obtain ⟨g', cap', rfl⟩ := ownsRow_succ hown'
          have K3 := K2.put hown' hgrow
          refine held_one (i := 8) (by kernel_rfl) ?_
          refine held_value (some 20) rfl rfl (.slice (some ⟨g', 0, none⟩) (k + 1) cap') (exec_append (.tmp 13) (.tmp 19) 38 rfl _ _ _ rfl rfl hrun) rfl hS3 ?_
          simp only [Act.put, List.setIfInBounds_toArray, List.set_cons_zero, List.set_cons_succ]
          refine held_one (i := 9) (by kernel_rfl) ?_
          refine held_value (some 21) rfl rfl (.pointer (some ⟨b3, 2, none⟩)) (by go_simp <;> rfl) rfl hS3 ?_
          simp only [Act.put, List.setIfInBounds_toArray, List.set_cons_zero, List.set_cons_succ]
          refine held_one (i := 10) (by kernel_rfl) ?_
          have hS4 : (u2.setCell ⟨b3, 2, none⟩ (.slice (some ⟨g', 0, none⟩) (k + 1) cap')).cell? ⟨g, off + k, none⟩ = some (.string s) := by rw [World.cell?_setCell_far _ _ _ _ (by show b3 ≠ g; omega)]; exact hS3
          refine held_store rfl rfl (exec_store1 (.tmp 21) (.tmp 20) rfl rfl rfl (K2.blk.grown hgrow (fun e => by have := ownBlock_ge K2.own e.symm; omega)) (by simp)) hS4 ?_
          simp only [Act.put, List.setIfInBounds_toArray, List.set_cons_zero, List.set_cons_succ]
          refine wpAnyH_done (by kernel_rfl) ?_ _
          rw [HTK.out] at K3
          clear hrun hown' hgrow hob K2 hiff
          go_wp2_with fail
          go_roundw
          case rel => exact ⟨k + 1, _, by go_num, by omega, K3⟩
          case measure => simp [intOf]; omega

    · obtain rfl : k = n := by omega
      have hfin : decide ((k : Int) < (k : Int)) = false := by simp
      clear h h0
      have hRB := HRB.out.grown K0.grown (by simp)
      obtain ⟨vA, vc, rfl⟩ := own_slice3 K0.own
      have hle : w.heap.size ≤ b := by have := HW.out; omega
      have hb3 : b + 1 ≤ b3 := by have := HZB.out; omega
      have ht : xs.take k = xs := List.take_of_length_le (by have := HL.out; omega)
      have hS := txt_sub HL.out (ht ▸ K0.own)
      have HS5 := Lib.hid (SubV.weak (sub_set3 (g := b) hS (by omega) (.bool true) (.string ⟨#[]⟩) (.slice vA k vc)) (fun g (hg : b3 + 1 ≤ g) => (show w.heap.size ≤ g by omega)))
      have HG5 := Lib.hid (only_set (only_set (only_set (grown_self HG.out K0.grown (by simp)) (p := ⟨b, 0, none⟩) hle (.bool true)) (p := ⟨b, 1, none⟩) hle (.string ⟨#[]⟩)) (p := ⟨b, 2, none⟩) hle (.slice vA k vc))
      have HB5 := Lib.hid (((hRB.set_ 0 (.bool true)).set_ 1 (.string ⟨#[]⟩)).set_ 2 (.slice vA k vc))
      have c0 := hRB.cell 0; have c1 := hRB.cell 1; have c2 := hRB.cell 2
      have d0 := hRB.frozen 0; have d1 := hRB.frozen 1; have d2 := hRB.frozen 2
      have e0 := K0.blk.cell 0; have e1 := K0.blk.cell 1; have e2 := K0.blk.cell 2
      simp only [List.getElem?_toArray, List.getElem?_cons_zero, List.getElem?_cons_succ] at c0 c1 c2 e0 e1 e2
      clear K0 hle hb3 ht hS hRB hk hlt
      go_wp2_with fail
      refine bodyPost_ret (results_cell1 (fn := Tryz.f23) rfl _ _ _ _ rfl (load_itemF HB5.out)) rfl ?_
      exact ⟨_, _, rfl, HS5.out, HG5.out⟩
end Go.Proofs.YtagjpbcmhaekpaaGreatDoor
/- Batches of one block: the document's Check. -/
namespace Go.Proofs.YtagjpbcmhaekpaaGreatDoor
open Go.RowKit Go.Shelf
set_option linter.unusedVariables false
set_option linter.unusedSimpArgs false

theorem any_getD {xs : List ByteArray} {p : ByteArray → Bool} : xs.any p = true ↔ ∃ i, i < xs.length ∧ p (xs.getD i .empty) = true := by
  rw [List.any_eq_true]
  constructor
  · rintro ⟨x, hx, hp⟩
    obtain ⟨i, hi, rfl⟩ := List.getElem_of_mem hx
    exact ⟨i, hi, by rw [List.getD_eq_getElem?_getD, List.getElem?_eq_getElem hi]; exact hp⟩
  · rintro ⟨i, hi, hp⟩
    exact ⟨_, getD_mem hi, hp⟩
theorem check_laws (b : Sgl) : (b.parent.size ≠ 32 → checkS b = 2) ∧ (b.hash.size ≠ 32 → checkS b = 2) ∧ ((∃ i, i < b.txs.length ∧ (b.txs.getD i .empty).size = 0) → checkS b = 2) ∧
    (b.parent.size = 32 → b.hash.size = 32 → (∀ i, i < b.txs.length → (b.txs.getD i .empty).size ≠ 0) → (32 < b.txs.length → checkS b = 5) ∧ ((∃ i, i < b.txs.length ∧ 4096 < (b.txs.getD i .empty).size) → checkS b = 5) ∧ (b.txs.length ≤ 32 → (∀ i, i < b.txs.length → (b.txs.getD i .empty).size ≤ 4096) → checkS b = 0)) := by
  unfold checkS
  have a1 : (b.txs.any fun x => decide (x.size = 0)) = true ↔ ∃ i, i < b.txs.length ∧ (b.txs.getD i .empty).size = 0 := any_getD.trans (by simp only [decide_eq_true_eq])
  have a2 : (b.txs.any fun x => decide (4096 < x.size)) = true ↔ ∃ i, i < b.txs.length ∧ 4096 < (b.txs.getD i .empty).size := any_getD.trans (by simp only [decide_eq_true_eq])
  generalize (b.txs.any fun x => decide (x.size = 0)) = p at *
  generalize (b.txs.any fun x => decide (4096 < x.size)) = q at *
  refine ⟨fun h => if_pos (.inl h), fun h => if_pos (.inr (.inl h)), fun h => if_pos (.inr (.inr (a1.2 h))), fun h1 h2 h3 => ?_⟩
  rw [if_neg (by rintro (h | h | h); exact h h1; exact h h2; obtain ⟨i, hi, h⟩ := a1.1 h; exact h3 i hi h)]
  refine ⟨fun h => if_pos (.inl h), fun h => if_pos (.inr (a2.2 h)), fun h4 h5 => if_neg ?_⟩
  rintro (h | h)
  · omega
  · obtain ⟨i, hi, h⟩ := a2.1 h
    have := h5 i hi; omega
set_option maxRecDepth 100000 in
set_option maxHeartbeats 2000000 in
theorem checkR_16 (b : Sgl) (B : Nat) (A : Option Addr) (n c : Nat) (w : World) (h : Reads w B 1 A n (b.txs.map Value.string)) (hB : B ≤ w.heap.size) (hn : n ≤ 9223372036854775807) :
    Calls Tryz.prog 7 #[.agg (sglC b (.slice A n c))] w fun e w' => e = .returned (.int .i64 (checkS b)) ∧ w.grownBy w' none := by
  have hl : b.txs.length = n := by have := h.1; simpa using this
  have hbk := Blk.new w 25 (sglC b (.slice A n c))
  have hG := only_alloc (World.grownBy.refl w none) (.cells (sglC b (.slice A n c)) 25)
  have HR := Lib.hid (h.grown hG hB (by simp))
  have HG := Lib.hid hG
  obtain ⟨l1, l2, l3, l4⟩ := check_laws b
  obtain ⟨E, hE⟩ : ∃ E, checkS b = E := ⟨_, rfl⟩
  rw [hE] at l1 l2 l3 l4 ⊢
  rw [hl] at l3 l4
  obtain ⟨bp, be, bh, bt, xs⟩ := b
  have hl : xs.length = n := hl
  have HL := Lib.hid hl
  have L1 := Lib.hid l1; have L2 := Lib.hid l2; have L3 := Lib.hid l3; have L4 := Lib.hid l4
  simp only [sglC] at *
  clear hE hl h hG l1 l2 l3 l4
  go_enter Tryz.func7, Tryz.ntmps7
  go_upto_region 1 with (fail)
  obtain ⟨g, hg⟩ : ∃ g, w.heap.size = g := ⟨_, rfl⟩
  rw [hg] at hbk ⊢
  clear hg
  have c0 := hbk.cell 0; have c2 := hbk.cell 2; have c4 := hbk.cell 4
  simp only [List.getElem?_toArray, List.getElem?_cons_zero, List.getElem?_cons_succ] at c0 c2 c4
  clear hbk
  generalize w.alloc (.cells #[.string bp, .int .u64 (be : Int), .string bh, .int .u64 (bt : Int), .slice A n c] 25) = w1 at *
  by_cases h1 : bp.size = 32
  rotate_left
  · have q1 : ((bp.size : Int) != 32) = true := by simp; omega
    have hE := L1.out h1
    subst hE
    clear h1
    go_wp2_with fail
    go_ret
    exact ⟨by first | rfl | trivial, HG.out⟩
  by_cases h2 : bh.size = 32
  rotate_left
  · have q1 : ((bp.size : Int) != 32) = false := by simp; omega
    have q2 : ((bh.size : Int) != 32) = true := by simp; omega
    have hE := L2.out h2
    subst hE
    clear h1 h2
    go_wp2_with fail
    go_ret
    exact ⟨by first | rfl | trivial, HG.out⟩
  have q1 : ((bp.size : Int) != 32) = false := by simp; omega
  have q2 : ((bh.size : Int) != 32) = false := by simp; omega
  have L5 := Lib.hid (L4.out h1 h2)
  clear h1 h2 L1 L2 L4
  go_wp2_with fail
  clear q1 q2 c0 c2
  go_loopw [3] (fun i wr => ∃ k : Nat, i = .int .i64 k ∧ k ≤ n ∧ w1 = wr ∧ Hid (∀ i : Nat, i < k → (xs.getD i .empty).size ≠ 0)) (fun i _ => n - (intOf i).toNat)
  case atStart => exact ⟨0, rfl, by omega, rfl, Lib.hid (by intro i h1; omega)⟩
  case round =>
    obtain ⟨k, rfl, hk, rfl, h2⟩ := hrel
    have h2' := Lib.hid h2.out
    by_cases hlt : k < n
    · obtain ⟨q, off, rfl, hq, hc⟩ := Reads.vals Value.string .empty HR.out hlt
      have c0 := hc k hlt
      have q1 : (k : Int) < (n : Int) := by omega
      obtain ⟨x, hx⟩ : ∃ x, xs.getD k .empty = x := ⟨_, rfl⟩
      rw [hx] at c0
      have HX := Lib.hid hx
      clear h2 hc hx
      by_cases hz : x.size = 0
      · have hx0 := ba_zero hz
        subst hx0
        have hE := L3.out ⟨k, hlt, by rw [HX.out]; rfl⟩
        subst hE
        clear hz
        go_wp2_with fail
        go_ret
        exact ⟨by first | rfl | trivial, HG.out⟩
      · obtain ⟨s1, s2, s3, s4, s5⟩ := str_none hz
        have HZ := Lib.hid hz
        clear hz
        go_wp2_with fail
        refine ⟨⟨k + 1, by go_num, by omega, by first | rfl | trivial, Lib.hid fun i hi => ?_⟩, by simp [intOf]; omega⟩
        by_cases hik : i = k
        · rw [hik, HX.out]; exact HZ.out
        · exact h2'.out i (by omega)
    · obtain rfl : k = n := by omega
      have hfin : decide ((k : Int) < (k : Int)) = false := by simp
      have L6 := Lib.hid (L5.out h2.out)
      clear L5 L3 h2 h2' hlt hk
      by_cases h3 : 32 < k
      · have q1 : decide ((32 : Int) < (k : Int)) = true := by simp; omega
        have hE := L6.out.1 h3
        subst hE
        clear h3
        go_wp2_with fail
        go_ret
        exact ⟨by first | rfl | trivial, HG.out⟩
      have q1 : decide ((32 : Int) < (k : Int)) = false := by simp; omega
      have H3 := Lib.hid h3
      clear h3
      go_wp2_with fail
      clear q1 hfin
      go_loopw [4] (fun i wr => ∃ j : Nat, i = .int .i64 j ∧ j ≤ k ∧ w1 = wr ∧ Hid (∀ i : Nat, i < j → (xs.getD i .empty).size ≤ 4096)) (fun i _ => k - (intOf i).toNat)
      case atStart => exact ⟨0, rfl, by omega, rfl, Lib.hid (by intro i h1; omega)⟩
      case round =>
        obtain ⟨j, rfl, hj, rfl, h2⟩ := hrel
        have h2' := Lib.hid h2.out
        by_cases hlt : j < k
        · obtain ⟨q, off, rfl, hq, hc⟩ := Reads.vals Value.string .empty HR.out hlt
          have c0 := hc j hlt
          have q1 : (j : Int) < (k : Int) := by omega
          obtain ⟨x, hx⟩ : ∃ x, xs.getD j .empty = x := ⟨_, rfl⟩
          rw [hx] at c0
          have HX := Lib.hid hx
          clear h2 hc hx
          by_cases hz : 4096 < x.size
          · have q3 : decide ((4096 : Int) < (x.size : Int)) = true := by simp; omega
            have hE := L6.out.2.1 ⟨j, hlt, by rw [HX.out]; exact hz⟩
            subst hE
            clear hz
            go_wp2_with fail
            go_ret
            exact ⟨by first | rfl | trivial, HG.out⟩
          · have q3 : decide ((4096 : Int) < (x.size : Int)) = false := by simp; omega
            have HZ := Lib.hid hz
            clear hz
            go_wp2_with fail
            refine ⟨⟨j + 1, by go_num, by omega, by first | rfl | trivial, Lib.hid fun i hi => ?_⟩, by simp [intOf]; omega⟩
            by_cases hik : i = j
            · rw [hik, HX.out]; have := HZ.out; omega
            · exact h2'.out i (by omega)
        · obtain rfl : j = k := by omega
          have hfin : decide ((j : Int) < (j : Int)) = false := by simp
          have hE := L6.out.2.2 (by have := H3.out; omega) h2.out
          subst hE
          clear h2 h2' hlt hj
          go_wp2_with fail
          go_ret
          exact ⟨by first | rfl | trivial, HG.out⟩
end Go.Proofs.YtagjpbcmhaekpaaGreatDoor
/- Batches of one block: the document's Same. -/
namespace Go.Proofs.YtagjpbcmhaekpaaGreatDoor
open Go.RowKit Go.Shelf
set_option linter.unusedVariables false
set_option linter.unusedSimpArgs false

theorem sameB_eq (a b : Sgl) : sameB a b = decide (a.parent = b.parent ∧ a.epoch = b.epoch ∧ a.hash = b.hash ∧ a.time = b.time ∧ a.txs = b.txs) := by
  simp only [sameB, restB]
  by_cases h1 : a.parent = b.parent <;> by_cases h2 : a.epoch = b.epoch <;> by_cases h3 : a.hash = b.hash <;> by_cases h4 : a.time = b.time <;> simp [h1, h2, h3, h4]
set_option maxRecDepth 100000 in
set_option maxHeartbeats 2000000 in
theorem sameR_16 (a b : Sgl) (B B' : Nat) (A A' : Option Addr) (n m c d : Nat) (w : World) (h : Reads w B 1 A n (a.txs.map Value.string)) (h' : Reads w B' 1 A' m (b.txs.map Value.string)) (hB : B ≤ w.heap.size) (hB' : B' ≤ w.heap.size) (hn : n ≤ 281474976710656) (hm : m ≤ 281474976710656) :
    Calls Tryz.prog 10 #[.agg (sglC a (.slice A n c)), .agg (sglC b (.slice A' m d))] w fun e w' => e = .returned (.bool (sameB a b)) ∧ w.grownBy w' none := by
  have hG := only_alloc (only_alloc (World.grownBy.refl w none) (.cells (sglC a (.slice A n c)) 25)) (.cells (sglC b (.slice A' m d)) 25)
  have hb1 := (Blk.new w 25 (sglC a (.slice A n c))).alloc (.cells (sglC b (.slice A' m d)) 25)
  have hb2 := Blk.new (w.alloc (.cells (sglC a (.slice A n c)) 25)) 25 (sglC b (.slice A' m d))
  rw [World.size_alloc] at hb2
  have HT := Lib.hid (fun V hR hR' => textsR_any B B' A A' n m c d a.txs b.txs V hR hR' hn hm)
  have HR := Lib.hid (h.grown hG hB (by simp)); have HR' := Lib.hid (h'.grown hG hB' (by simp))
  have HG := Lib.hid hG
  have hs0 := sameB_eq a b
  obtain ⟨r0, hr0⟩ : ∃ r0, sameB a b = r0 := ⟨_, rfl⟩
  rw [hr0] at hs0 ⊢
  have HS0 := Lib.hid hs0
  clear hs0 hr0
  obtain ⟨ap, ae, ah, aT, ax⟩ := a
  obtain ⟨bp, be, bh, bt, bx⟩ := b
  simp only [sglC] at *
  clear h h' hG hn hm hB hB'
  go_enter Tryz.func10, Tryz.ntmps10
  go_upto_region 1 with (fail)
  obtain ⟨g, hg⟩ : ∃ g, w.heap.size = g := ⟨_, rfl⟩
  rw [hg] at hb1 hb2 ⊢
  clear hg
  generalize (w.alloc (.cells #[.string ap, .int .u64 (ae : Int), .string ah, .int .u64 (aT : Int), .slice A n c] 25)).alloc (.cells #[.string bp, .int .u64 (be : Int), .string bh, .int .u64 (bt : Int), .slice A' m d] 25) = w1 at *
  have x4 := hb1.cell 4; have y4 := hb2.cell 4
  simp only [List.getElem?_toArray, List.getElem?_cons_zero, List.getElem?_cons_succ] at x4 y4
  go_wp2_with fail
  refine (HT.out _ HR.out HR'.out).mono ?_
  rintro e w2 ⟨rfl, hg⟩
  replace HG := Lib.hid (grown_self HG.out (grown_of_below hg) (by simp))
  have hb1 := hb1.grown (grown_of_below hg) (by simp)
  have hb2 := hb2.grown (grown_of_below hg) (by simp)
  clear hg x4 y4
  have x0 := hb1.cell 0; have x1 := hb1.cell 1; have x2 := hb1.cell 2; have x3 := hb1.cell 3
  have y0 := hb2.cell 0; have y1 := hb2.cell 1; have y2 := hb2.cell 2; have y3 := hb2.cell 3
  simp only [List.getElem?_toArray, List.getElem?_cons_zero, List.getElem?_cons_succ] at x0 x1 x2 x3 y0 y1 y2 y3
  clear hb1 hb2 HT HR HR'
  by_cases h1 : ap = bp
  rotate_left
  · have e1 := str_ne h1
    have HF : Hid (r0 = false) := Lib.hid (by rw [HS0.out]; simp [h1])
    clear h1
    go_wp2_with fail
    go_ret
    exact ⟨by rw [HF.out]; rfl, HG.out⟩
  subst h1
  have e1 : (ap.toList == ap.toList) = true := by simp
  by_cases h2 : ae = be
  rotate_left
  · have e2 : ((ae : Int) == (be : Int)) = false := by simp; omega
    have e2' : decide ((ae : Int) = (be : Int)) = false := by simp; omega
    have HF : Hid (r0 = false) := Lib.hid (by rw [HS0.out]; simp [h2])
    clear h2
    go_wp2_with fail
    go_ret
    exact ⟨by rw [HF.out]; rfl, HG.out⟩
  subst h2
  by_cases h3 : ah = bh
  rotate_left
  · have e3 := str_ne h3
    have HF : Hid (r0 = false) := Lib.hid (by rw [HS0.out]; simp [h3])
    clear h3
    go_wp2_with fail
    go_ret
    exact ⟨by rw [HF.out]; rfl, HG.out⟩
  subst h3
  have e3 : (ah.toList == ah.toList) = true := by simp
  by_cases h4 : aT = bt
  rotate_left
  · have e2 : ((aT : Int) == (bt : Int)) = false := by simp; omega
    have e2' : decide ((aT : Int) = (bt : Int)) = false := by simp; omega
    have HF : Hid (r0 = false) := Lib.hid (by rw [HS0.out]; simp [h4])
    clear h4
    go_wp2_with fail
    go_ret
    exact ⟨by rw [HF.out]; rfl, HG.out⟩
  subst h4
  have HF : Hid (r0 = decide (ax = bx)) := Lib.hid (by rw [HS0.out]; simp)
  generalize decide (ax = bx) = r at *
  cases r <;>
  · go_wp2_with fail
    go_ret
    exact ⟨by rw [HF.out]; rfl, HG.out⟩
end Go.Proofs.YtagjpbcmhaekpaaGreatDoor
