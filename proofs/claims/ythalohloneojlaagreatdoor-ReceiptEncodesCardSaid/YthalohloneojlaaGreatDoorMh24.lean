/- Merged: SzA. -/
import Derived.Test.YthalohloneojlaaGreatDoorMh10
import Derived.Test.YthalohloneojlaaGreatDoorMh15
/- The document's item of a row of texts (rescriptref06.Texts).  Printed by wip/genSzA.py from XFldT. -/
namespace Go.Proofs.YthalohloneojlaaGreatDoor
open Go.RowKit Go.Shelf
set_option linter.unusedVariables false
set_option linter.unusedSimpArgs false

set_option maxRecDepth 100000 in
set_option maxHeartbeats 2000000 in
theorem textsR6_any (B : Nat) (A : Option Addr) (n c : Nat) (xs : List ByteArray) (w : World) (h : Reads w B 1 A n (xs.map Value.string)) (hB : B ≤ w.heap.size) (hn : n ≤ 1000) :
    Calls Tryz.prog 87 #[.slice A n c] w fun e w' => ∃ A' c', e = .returned (.agg #[.bool true, .string ⟨#[]⟩, .slice A' n c']) ∧ SubV (fun g => w.heap.size ≤ g) w' (xs.map txt) (.slice A' n c') ∧ w.grownBy w' none := by
  have hl : xs.length = n := by have := h.1; simpa using this
  have hRB := Blk.new w 45 #[.bool false, .string ⟨#[]⟩, .slice none 0 0]
  have hG := only_alloc (World.grownBy.refl w none) (.cells #[.bool false, .string ⟨#[]⟩, .slice none 0 0] 45)
  go_enter Tryz.func87, Tryz.ntmps87
  go_upto_region 1 with (fail)
  obtain ⟨b, hb⟩ : ∃ b, w.heap.size = b := ⟨_, rfl⟩
  have HW := Lib.hid hb
  rw [hb] at hRB ⊢
  have hz : (w.alloc (.cells #[.bool false, .string ⟨#[]⟩, .slice none 0 0] 45)).heap.size = b + 1 := by simp [hb]
  have h := h.alloc hB (.cells #[.bool false, .string ⟨#[]⟩, .slice none 0 0] 45)
  generalize w.alloc (.cells #[.bool false, .string ⟨#[]⟩, .slice none 0 0] 45) = W1 at *
  obtain ⟨w3, hw3⟩ : ∃ w3, W1 = w3 := ⟨_, rfl⟩
  have hg3 : W1.grownBy w3 none := hw3 ▸ World.grownBy.refl W1 none
  rw [hw3]
  obtain ⟨b3, hb3⟩ : ∃ b, w3.heap.size = b := ⟨_, rfl⟩
  have hz3 := hg3.size
  have K0 : Held3 w3 b3 (.slice none 0 0) 0 (txtV (xs.take 0)) (w3.alloc (.cells #[.bool true, .string ⟨#[]⟩, .slice none 0 0] 45)) := by
    refine ⟨?_, World.ownsRow_nil _ _ _ _, only_alloc (World.grownBy.refl w3 none) _, by simp; omega, by omega⟩
    have := Blk.new w3 45 #[.bool true, .string ⟨#[]⟩, .slice none 0 0]
    rwa [hb3] at this
  have h := h.grown hg3 (by have := HW.out; omega) (by simp)
  have h0 := Lib.hid h
  have HL := Lib.hid hl
  have HB : Hid (B ≤ w3.heap.size) := Lib.hid (by have := HW.out; omega)
  have HRB := Lib.hid (hRB.grown hg3 (by simp))
  have HG := Lib.hid (grown_self hG hg3 (by simp))
  have h := h.alloc HB.out (.cells #[.bool true, .string ⟨#[]⟩, .slice none 0 0] 45)
  have HB3 : Hid (w3.heap.size = b3) := Lib.hid hb3
  have HS : Hid (w.heap.size ≤ b3) := Lib.hid (by have := HW.out; omega)
  have HZB : Hid (b + 1 ≤ b3) := Lib.hid (by omega)
  clear hG hg3 hl hB hRB hw3
  go_upto_region 2 with (fail)
  generalize w3.alloc (.cells #[.bool true, .string ⟨#[]⟩, .slice none 0 0] 45) = W4 at *
  clear hz hz3 hb3
  go_wp2_with fail
  go_loopw [4] (fun i wr => ∃ (k : Nat) (v : Value), i = .int .i64 k ∧ k ≤ n ∧ Held3 w3 b3 v k (txtV (xs.take k)) wr) (fun i _ => n - (intOf i).toNat)
  case atStart => exact ⟨0, _, rfl, by omega, K0⟩
  case round =>
    clear K0 h
    obtain ⟨k, v, rfl, hk, K0⟩ := hrel
    have h := h0.out.grown K0.grown HB.out (by simp)
    by_cases hlt : k < n
    · obtain ⟨g, off, rfl, hg, hc⟩ := Reads.vals Value.string .empty h hlt
      have c0 := hc k hlt
      have q1 : (k : Int) < (n : Int) := by omega
      have hTK : txtV (xs.take k) ++ [.bool false, .string (xs.getD k .empty), .slice none 0 0] = txtV (xs.take (k + 1)) := by
        rw [← txtV_snoc, List.take_add_one, List.getElem?_eq_getElem (by have := HL.out; omega), List.getD_eq_getElem?_getD, List.getElem?_eq_getElem (by have := HL.out; omega)]
        rfl
      obtain ⟨s, hs⟩ : ∃ s, xs.getD k .empty = s := ⟨_, rfl⟩
      rw [hs] at c0 hTK
      have HTK := Lib.hid hTK
      have H0 := Lib.hid h0.out
      have HGB : Hid (g < b3) := Lib.hid (by have := HB.out; have := HB3.out; omega)
      clear h hc hs h0 hTK
      obtain ⟨vA, vc, rfl⟩ := own_slice3 K0.own
      go_wp2_with fail
      refine wp_region_held (S := fun W => W.cell? ⟨g, off + k, none⟩ = some (.string s)) (by kernel_rfl) ?_
      change wpAnyH _ _ _ _ _ _ _ _ wr.drew
      have hS0 : wr.drew.cell? ⟨g, off + k, none⟩ = some (.string s) := c0
      replace K0 := K0.drew
      generalize wr.drew = u0 at *
      clear c0
      have hgb : g < b3 := HGB.out
      refine held_take (i := 0) (v := .pointer (some ⟨b3, 2, none⟩)) (some 12) rfl (by kernel_rfl) (by kernel_rfl) (by kernel_rfl) (fun _ _ _ h => h) rfl (Or.inl ⟨by rfl, fun W hW => by go_simp⟩) hS0 ?_
      simp only [Act.put, List.setIfInBounds_toArray, List.set_cons_zero, List.set_cons_succ]
      refine held_take (i := 2) (v := .slice (some ⟨g, off, none⟩) n c) (some 14) rfl (by kernel_rfl) (by kernel_rfl) (by kernel_rfl) (fun _ _ _ h => h) rfl (Or.inl ⟨by rfl, fun W hW => by go_simp⟩) hS0 ?_
      simp only [Act.put, List.setIfInBounds_toArray, List.set_cons_zero, List.set_cons_succ]
      refine held_take (i := 3) (v := .int .i64 (k : Int)) (some 15) rfl (by kernel_rfl) (by kernel_rfl) (by kernel_rfl) (fun _ _ _ h => h) rfl (Or.inl ⟨by rfl, fun W hW => by go_simp⟩) hS0 ?_
      simp only [Act.put, List.setIfInBounds_toArray, List.set_cons_zero, List.set_cons_succ]
      refine held_take (i := 4) (v := .pointer (some ⟨g, off + k, none⟩)) (some 16) rfl (by kernel_rfl) (by kernel_rfl) (by kernel_rfl) (fun _ _ _ h => h) rfl (Or.inl ⟨by rfl, fun W hW => by go_simp⟩) hS0 ?_
      simp only [Act.put, List.setIfInBounds_toArray, List.set_cons_zero, List.set_cons_succ]
      refine held_take (i := 5) (v := .string s) (some 17) rfl (by kernel_rfl) (by kernel_rfl) (by kernel_rfl) (fun _ _ _ h => h) rfl (Or.inl ⟨by rfl, fun W hW => by have q : W.cell? ⟨g, off + k, none⟩ = some (.string s) := hW; go_simp⟩) hS0 ?_
      simp only [Act.put, List.setIfInBounds_toArray, List.set_cons_zero, List.set_cons_succ]
      refine held_two (i := 1) (j := 6) (by kernel_rfl) ?_ ?_
      · refine held_value (some 13) rfl rfl (.slice vA k vc) (exec_load1 43 (.tmp 12) rfl _ rfl _ _ Tryz.underlying43 rfl (K0.blk.cell 2)) rfl hS0 ?_
        simp only [Act.put, List.setIfInBounds_toArray, List.set_cons_zero, List.set_cons_succ]
        refine held_one (i := 6) (by kernel_rfl) ?_
        refine held_enter (some 18) rfl rfl 86 #[.string s] (exec_call1 86 (.tmp 17) _ rfl _ rfl rfl) rfl ((textR6_any s _).mono ?_)
        rintro e u1 ⟨rfl, hgc⟩
        have hS1 : u1.cell? ⟨g, off + k, none⟩ = some (.string s) := hgc.cell hS0 (by simp)
        have K1 := K0.kept hgc
        refine ⟨_, rfl, hS1, ?_⟩
        simp only [Act.put, List.setIfInBounds_toArray, List.set_cons_zero, List.set_cons_succ]
        refine held_one (i := 7) (by kernel_rfl) ?_
        have hS2 : (u1.alloc (.cells #[.bool false, .string s, .slice none 0 0] 45)).cell? ⟨g, off + k, none⟩ = some (.string s) := (only_alloc (World.grownBy.refl u1 none) _).cell hS1 (by simp)
        refine held_value (some 19) rfl rfl (.slice (some ⟨u1.heap.size, 0, none⟩) 1 1) (by go_simp <;> rfl) rfl hS2 ?_
        simp only [Act.put, List.setIfInBounds_toArray, List.set_cons_zero, List.set_cons_succ]
        have K2 := K1.kept (only_alloc (World.grownBy.refl u1 none) (.cells #[.bool false, .string s, .slice none 0 0] 45))
        obtain ⟨i0, hi, hz0, hzs, hzb⟩ := info_parts item_info
        obtain ⟨v', u2, hrun, hown', hgrow, hiff, hob⟩ := run_append_own_at (P := Tryz.prog) (u1.alloc (.cells #[.bool false, .string s, .slice none 0 0] 45)) (b3 + 1) 43 43 45 i0 _ 3 48 Tryz.underlying43 hi hz0 hzs hzb rfl (by decide) (.slice vA k vc) k (txtV (xs.take k)) K2.own ⟨u1.heap.size, 0, none⟩ 1 1 [.bool false, .string s, .slice none 0 0] rfl (cell_three_new _ _ _ _ _) (by simp [Value.oneCell']) (by simp only [maxLen]; omega) (by omega) K2.size
        have hS3 : u2.cell? ⟨g, off + k, none⟩ = some (.string s) := hgrow.cell hS2 (fun e => by have e2 : b3 + 1 ≤ g := ownBlock_ge K2.own e.symm; omega)
        obtain ⟨g', cap', rfl⟩ := ownsRow_succ hown'
        have K3 := K2.put hown' hgrow
        refine held_one (i := 8) (by kernel_rfl) ?_
        refine held_value (some 20) rfl rfl (.slice (some ⟨g', 0, none⟩) (k + 1) cap') (exec_append (.tmp 13) (.tmp 19) 43 rfl _ _ _ rfl rfl hrun) rfl hS3 ?_
        simp only [Act.put, List.setIfInBounds_toArray, List.set_cons_zero, List.set_cons_succ]
        refine held_one (i := 9) (by kernel_rfl) ?_
        refine held_value (some 21) rfl rfl (.pointer (some ⟨b3, 2, none⟩)) (by go_simp <;> rfl) rfl hS3 ?_
        simp only [Act.put, List.setIfInBounds_toArray, List.set_cons_zero, List.set_cons_succ]
        refine held_one (i := 10) (by kernel_rfl) ?_
        have hS4 : (u2.setCell ⟨b3, 2, none⟩ (.slice (some ⟨g', 0, none⟩) (k + 1) cap')).cell? ⟨g, off + k, none⟩ = some (.string s) := by rw [World.cell?_setCell_far _ _ _ _ (by show b3 ≠ g; omega)]; exact hS3
        refine held_store rfl rfl (exec_store1 (.tmp 21) (.tmp 20) rfl rfl rfl (K2.blk.grown hgrow (fun e => by have := ownBlock_ge K2.own e.symm; omega)) (by simp)) hS4 ?_
        simp only [Act.put, List.setIfInBounds_toArray, List.set_cons_zero, List.set_cons_succ]
        refine wpAnyH_done (by kernel_rfl) ?_ _
        rw [HTK.out] at K3
        clear hrun hown' hgrow hob K2 hiff
        go_wp2_with fail
        go_roundw
        case rel => exact ⟨k + 1, _, by go_num, by omega, K3⟩
        case measure => simp [intOf]; omega
      · refine held_enter (some 18) rfl rfl 86 #[.string s] (exec_call1 86 (.tmp 17) _ rfl _ rfl rfl) rfl ((textR6_any s _).mono ?_)
        rintro e u1 ⟨rfl, hgc⟩
        have hS1 : u1.cell? ⟨g, off + k, none⟩ = some (.string s) := hgc.cell hS0 (by simp)
        have K1 := K0.kept hgc
        refine ⟨_, rfl, hS1, ?_⟩
        simp only [Act.put, List.setIfInBounds_toArray, List.set_cons_zero, List.set_cons_succ]
        refine held_two (i := 1) (j := 7) (by kernel_rfl) ?_ ?_
        · refine held_value (some 13) rfl rfl (.slice vA k vc) (exec_load1 43 (.tmp 12) rfl _ rfl _ _ Tryz.underlying43 rfl (K1.blk.cell 2)) rfl hS1 ?_
          simp only [Act.put, List.setIfInBounds_toArray, List.set_cons_zero, List.set_cons_succ]
          refine held_one (i := 7) (by kernel_rfl) ?_
          have hS2 : (u1.alloc (.cells #[.bool false, .string s, .slice none 0 0] 45)).cell? ⟨g, off + k, none⟩ = some (.string s) := (only_alloc (World.grownBy.refl u1 none) _).cell hS1 (by simp)
          refine held_value (some 19) rfl rfl (.slice (some ⟨u1.heap.size, 0, none⟩) 1 1) (by go_simp <;> rfl) rfl hS2 ?_
          simp only [Act.put, List.setIfInBounds_toArray, List.set_cons_zero, List.set_cons_succ]
          have K2 := K1.kept (only_alloc (World.grownBy.refl u1 none) (.cells #[.bool false, .string s, .slice none 0 0] 45))
          obtain ⟨i0, hi, hz0, hzs, hzb⟩ := info_parts item_info
          obtain ⟨v', u2, hrun, hown', hgrow, hiff, hob⟩ := run_append_own_at (P := Tryz.prog) (u1.alloc (.cells #[.bool false, .string s, .slice none 0 0] 45)) (b3 + 1) 43 43 45 i0 _ 3 48 Tryz.underlying43 hi hz0 hzs hzb rfl (by decide) (.slice vA k vc) k (txtV (xs.take k)) K2.own ⟨u1.heap.size, 0, none⟩ 1 1 [.bool false, .string s, .slice none 0 0] rfl (cell_three_new _ _ _ _ _) (by simp [Value.oneCell']) (by simp only [maxLen]; omega) (by omega) K2.size
          have hS3 : u2.cell? ⟨g, off + k, none⟩ = some (.string s) := hgrow.cell hS2 (fun e => by have e2 : b3 + 1 ≤ g := ownBlock_ge K2.own e.symm; omega)
          obtain ⟨g', cap', rfl⟩ := ownsRow_succ hown'
          have K3 := K2.put hown' hgrow
          refine held_one (i := 8) (by kernel_rfl) ?_
          refine held_value (some 20) rfl rfl (.slice (some ⟨g', 0, none⟩) (k + 1) cap') (exec_append (.tmp 13) (.tmp 19) 43 rfl _ _ _ rfl rfl hrun) rfl hS3 ?_
          simp only [Act.put, List.setIfInBounds_toArray, List.set_cons_zero, List.set_cons_succ]
          refine held_one (i := 9) (by kernel_rfl) ?_
          refine held_value (some 21) rfl rfl (.pointer (some ⟨b3, 2, none⟩)) (by go_simp <;> rfl) rfl hS3 ?_
          simp only [Act.put, List.setIfInBounds_toArray, List.set_cons_zero, List.set_cons_succ]
          refine held_one (i := 10) (by kernel_rfl) ?_
          have hS4 : (u2.setCell ⟨b3, 2, none⟩ (.slice (some ⟨g', 0, none⟩) (k + 1) cap')).cell? ⟨g, off + k, none⟩ = some (.string s) := by rw [World.cell?_setCell_far _ _ _ _ (by show b3 ≠ g; omega)]; exact hS3
          refine held_store rfl rfl (exec_store1 (.tmp 21) (.tmp 20) rfl rfl rfl (K2.blk.grown hgrow (fun e => by have := ownBlock_ge K2.own e.symm; omega)) (by simp)) hS4 ?_
          simp only [Act.put, List.setIfInBounds_toArray, List.set_cons_zero, List.set_cons_succ]
          refine wpAnyH_done (by kernel_rfl) ?_ _
          rw [HTK.out] at K3
          clear hrun hown' hgrow hob K2 hiff
          go_wp2_with fail
          go_roundw
          case rel => exact ⟨k + 1, _, by go_num, by omega, K3⟩
          case measure => simp [intOf]; omega
        · have hS2 : (u1.alloc (.cells #[.bool false, .string s, .slice none 0 0] 45)).cell? ⟨g, off + k, none⟩ = some (.string s) := (only_alloc (World.grownBy.refl u1 none) _).cell hS1 (by simp)
          refine held_value (some 19) rfl rfl (.slice (some ⟨u1.heap.size, 0, none⟩) 1 1) (by go_simp <;> rfl) rfl hS2 ?_
          simp only [Act.put, List.setIfInBounds_toArray, List.set_cons_zero, List.set_cons_succ]
          have K2 := K1.kept (only_alloc (World.grownBy.refl u1 none) (.cells #[.bool false, .string s, .slice none 0 0] 45))
          refine held_one (i := 1) (by kernel_rfl) ?_
          refine held_value (some 13) rfl rfl (.slice vA k vc) (exec_load1 43 (.tmp 12) rfl _ rfl _ _ Tryz.underlying43 rfl (K2.blk.cell 2)) rfl hS2 ?_
          simp only [Act.put, List.setIfInBounds_toArray, List.set_cons_zero, List.set_cons_succ]
          obtain ⟨i0, hi, hz0, hzs, hzb⟩ := info_parts item_info
          obtain ⟨v', u2, hrun, hown', hgrow, hiff, hob⟩ := run_append_own_at (P := Tryz.prog) (u1.alloc (.cells #[.bool false, .string s, .slice none 0 0] 45)) (b3 + 1) 43 43 45 i0 _ 3 48 Tryz.underlying43 hi hz0 hzs hzb rfl (by decide) (.slice vA k vc) k (txtV (xs.take k)) K2.own ⟨u1.heap.size, 0, none⟩ 1 1 [.bool false, .string s, .slice none 0 0] rfl (cell_three_new _ _ _ _ _) (by simp [Value.oneCell']) (by simp only [maxLen]; omega) (by omega) K2.size
          have hS3 : u2.cell? ⟨g, off + k, none⟩ = some (.string s) := hgrow.cell hS2 (fun e => by have e2 : b3 + 1 ≤ g := ownBlock_ge K2.own e.symm; omega)
          obtain ⟨g', cap', rfl⟩ := ownsRow_succ hown'
          have K3 := K2.put hown' hgrow
          refine held_one (i := 8) (by kernel_rfl) ?_
          refine held_value (some 20) rfl rfl (.slice (some ⟨g', 0, none⟩) (k + 1) cap') (exec_append (.tmp 13) (.tmp 19) 43 rfl _ _ _ rfl rfl hrun) rfl hS3 ?_
          simp only [Act.put, List.setIfInBounds_toArray, List.set_cons_zero, List.set_cons_succ]
          refine held_one (i := 9) (by kernel_rfl) ?_
          refine held_value (some 21) rfl rfl (.pointer (some ⟨b3, 2, none⟩)) (by go_simp <;> rfl) rfl hS3 ?_
          simp only [Act.put, List.setIfInBounds_toArray, List.set_cons_zero, List.set_cons_succ]
          refine held_one (i := 10) (by kernel_rfl) ?_
          have hS4 : (u2.setCell ⟨b3, 2, none⟩ (.slice (some ⟨g', 0, none⟩) (k + 1) cap')).cell? ⟨g, off + k, none⟩ = some (.string s) := by rw [World.cell?_setCell_far _ _ _ _ (by show b3 ≠ g; omega)]; exact hS3
          refine held_store rfl rfl (exec_store1 (.tmp 21) (.tmp 20) rfl rfl rfl (K2.blk.grown hgrow (fun e => by have := ownBlock_ge K2.own e.symm; omega)) (by simp)) hS4 ?_
          simp only [Act.put, List.setIfInBounds_toArray, List.set_cons_zero, List.set_cons_succ]
          refine wpAnyH_done (by kernel_rfl) ?_ _
          rw [HTK.out] at K3
          clear hrun hown' hgrow hob K2 hiff
          go_wp2_with fail
          go_roundw
          case rel => exact ⟨k + 1, _, by go_num, by omega, K3⟩
          case measure => simp [intOf]; omega

    · obtain rfl : k = n := by omega
      have hfin : decide ((k : Int) < (k : Int)) = false := by simp
      clear h h0
      have hRB := HRB.out.grown K0.grown (by simp)
      obtain ⟨vA, vc, rfl⟩ := own_slice3 K0.own
      have hle : w.heap.size ≤ b := by have := HW.out; omega
      have hb3 : b + 1 ≤ b3 := by have := HZB.out; omega
      have ht : xs.take k = xs := List.take_of_length_le (by have := HL.out; omega)
      have hS := txt_sub HL.out (ht ▸ K0.own)
      have HS5 := Lib.hid (SubV.weak (sub_set3 (g := b) hS (by omega) (.bool true) (.string ⟨#[]⟩) (.slice vA k vc)) (fun g (hg : b3 + 1 ≤ g) => (show w.heap.size ≤ g by omega)))
      have HG5 := Lib.hid (only_set (only_set (only_set (grown_self HG.out K0.grown (by simp)) (p := ⟨b, 0, none⟩) hle (.bool true)) (p := ⟨b, 1, none⟩) hle (.string ⟨#[]⟩)) (p := ⟨b, 2, none⟩) hle (.slice vA k vc))
      have HB5 := Lib.hid (((hRB.set_ 0 (.bool true)).set_ 1 (.string ⟨#[]⟩)).set_ 2 (.slice vA k vc))
      have c0 := hRB.cell 0; have c1 := hRB.cell 1; have c2 := hRB.cell 2
      have d0 := hRB.frozen 0; have d1 := hRB.frozen 1; have d2 := hRB.frozen 2
      have e0 := K0.blk.cell 0; have e1 := K0.blk.cell 1; have e2 := K0.blk.cell 2
      simp only [List.getElem?_toArray, List.getElem?_cons_zero, List.getElem?_cons_succ] at c0 c1 c2 e0 e1 e2
      clear K0 hle hb3 ht hS hRB hk hlt
      go_wp2_with fail
      refine bodyPost_ret (results_cell1 (fn := Tryz.f87) rfl _ _ _ _ rfl (load_itemF HB5.out)) rfl ?_
      exact ⟨_, _, rfl, HS5.out, HG5.out⟩
end Go.Proofs.YthalohloneojlaaGreatDoor
