/- Wrappers: the fixed facts.  Printed by wip/genWrpV.py -/
import Derived.Test.YtdflihfecfmpfaaDoorWrpU
import Derived.Test.YtdflihfecfmpfaaDoorTxtR
namespace Go.Proofs.YtdflihfecfmpfaaDoor
open Go.RowKit Go.Shelf
set_option linter.unusedVariables false
set_option linter.unusedSimpArgs false

abbrev wX : ByteArray := ⟨#[97, 98]⟩
abbrev wY : ByteArray := ⟨#[0, 1, 120]⟩
theorem wf1 : putW 0 [wX] = [130, 97, 98] ∧ checkW 0 [wX] = 0 := by decide +kernel
theorem wf2 : putW 2 [wX] = [2, 1, 2, 97, 98] ∧ checkW 2 [wX] = 0 := by decide +kernel
theorem wf3 : putW 0 [wX, wY] = [130, 97, 98, 131, 0, 1, 120] ∧ checkW 0 [wX, wY] = 0 := by decide +kernel
theorem wf4 : getV [130, 97, 98, 131, 0, 1, 120] = 0 ∧ getE [130, 97, 98, 131, 0, 1, 120] = 0 ∧ getL [130, 97, 98, 131, 0, 1, 120] = [wX, wY] := by decide +kernel
theorem wf5 : getV [2, 1, 2, 97, 98] = 2 ∧ getE [2, 1, 2, 97, 98] = 0 ∧ getL [2, 1, 2, 97, 98] = [wX] := by decide +kernel
theorem wf6 : getV [2, 1, 2, 97, 98, 120] = 0 ∧ getE [2, 1, 2, 97, 98, 120] = 4 ∧ getL [2, 1, 2, 97, 98, 120] = [] := by decide +kernel
theorem wf7 : getV [1] = 0 ∧ getE [1] = 9 ∧ getL [1] = [] := by decide +kernel
theorem wf8 : putW 1 [wX, wY] = [] ∧ checkW 1 [wX, wY] = 9 := by decide +kernel
theorem wf9 : verN [2, 1, 2, 97, 98] = 2 ∧ verE [2, 1, 2, 97, 98] = 0 := by decide +kernel
theorem wf10 : checkW 2 [wX, wY] = 0 ∧ checkW 0 [] = 2 := by decide +kernel
theorem wsz : ∀ x ∈ [wX, wY], x.size ≤ 9223372036854775807 := by decide
theorem wsz1 : ∀ x ∈ [wX], x.size ≤ 9223372036854775807 := by decide
theorem lit_two (V : World) : Reads (V.alloc (.cells #[.string wX, .string wY] 9)) (V.heap.size + 1) 1 (some ⟨V.heap.size, 0, none⟩) 2 [.string wX, .string wY] := by
  refine ⟨rfl, fun _ => ⟨⟨V.heap.size, 0, none⟩, rfl, Nat.lt_succ_self _, ?_⟩⟩
  intro j u hj
  have hb := (Blk.new V 9 #[.string wX, .string wY]).cell j
  rw [Addr.add_mid, Nat.zero_add, hb]
  simpa using hj
theorem Reads.first {w : World} {B : Nat} {A : Option Addr} {x y : Value} (h : Reads w B 1 A 2 [x, y]) : Reads w B 1 A 1 [x] := by
  refine ⟨rfl, fun _ => ?_⟩
  obtain ⟨a, h1, h2, h3⟩ := h.2 (by omega)
  refine ⟨a, h1, h2, fun j u hj => h3 j u ?_⟩
  cases j with
  | zero => exact hj
  | succ j => simp at hj
set_option maxRecDepth 100000 in
set_option maxHeartbeats 4000000 in
theorem works20_any (w : World) : Calls Tryd.prog 8 #[] w fun e w' => e = .returned (.bool true) ∧ w.grownBy w' none := by
  have hR := lit_two w
  have hG := only_alloc (World.grownBy.refl w none) (.cells #[.string wX, .string wY] 9)
  have hz : (w.alloc (.cells #[.string wX, .string wY] 9)).heap.size = w.heap.size + 1 := by simp
  go_enter Tryd.func8, Tryd.ntmps8
  go_upto_region 2 with (fail)
  obtain ⟨b, hb⟩ : ∃ b, w.heap.size = b := ⟨_, rfl⟩
  rw [hb] at hR hz ⊢
  have HR := Lib.hid hR; have HG := Lib.hid hG
  have HZ := Lib.hid (show b + 1 ≤ (w.alloc (.cells #[.string wX, .string wY] 9)).heap.size by omega)
  clear hR hG hz hb
  generalize w.alloc (.cells #[.string wX, .string wY] 9) = w1 at *
  have hk := wput_any 0 (b + 1) (some ⟨b, 0, none⟩) 1 2 [wX] w1 HZ.out HR.out.first (by decide) (by decide) wsz1
  rw [wf1.1, wf1.2] at hk
  go_wp2_with fail
  refine hk.mono ?_
  rintro e w2 ⟨rfl, hg⟩
  clear hk
  replace HR := Lib.hid (HR.out.grown hg HZ.out (by simp))
  replace HG := Lib.hid (grown_self HG.out hg (by simp))
  replace HZ := Lib.hid (Nat.le_trans HZ.out hg.size)
  clear hg
  have hk := wput_any 2 (b + 1) (some ⟨b, 0, none⟩) 1 2 [wX] w2 HZ.out HR.out.first (by decide) (by decide) wsz1
  rw [wf2.1, wf2.2] at hk
  go_wp2_with fail
  refine hk.mono ?_
  rintro e w3 ⟨rfl, hg⟩
  clear hk
  replace HR := Lib.hid (HR.out.grown hg HZ.out (by simp))
  replace HG := Lib.hid (grown_self HG.out hg (by simp))
  replace HZ := Lib.hid (Nat.le_trans HZ.out hg.size)
  clear hg
  have hk := wput_any 0 (b + 1) (some ⟨b, 0, none⟩) 2 2 [wX, wY] w3 HZ.out HR.out (by decide) (by decide) wsz
  rw [wf3.1, wf3.2] at hk
  go_wp2_with fail
  refine hk.mono ?_
  rintro e w4 ⟨rfl, hg⟩
  clear hk
  replace HR := Lib.hid (HR.out.grown hg HZ.out (by simp))
  replace HG := Lib.hid (grown_self HG.out hg (by simp))
  replace HZ := Lib.hid (Nat.le_trans HZ.out hg.size)
  clear hg
  have hk := wget_any ⟨#[130, 97, 98, 131, 0, 1, 120]⟩ (by decide) w4
  rw [show (⟨#[130, 97, 98, 131, 0, 1, 120]⟩ : ByteArray).data.toList = [130, 97, 98, 131, 0, 1, 120] from rfl, wf4.1, wf4.2.1, wf4.2.2] at hk
  go_wp2_with fail
  refine hk.mono ?_
  rintro e w5 ⟨u, rfl, hown, hbl⟩
  clear hk
  have hg := grown_of_below hbl
  obtain ⟨A5, c5, rfl⟩ := own_slice3W hown
  clear hbl
  have hHM := Reads.of_own hown
  have HMs : w5.heap.size ≤ w5.heap.size := Nat.le_refl _
  clear hown
  replace HR := Lib.hid (HR.out.grown hg HZ.out (by simp))
  replace HG := Lib.hid (grown_self HG.out hg (by simp))
  replace HZ := Lib.hid (Nat.le_trans HZ.out hg.size)
  clear hg
  have HM := Lib.hid hHM
  have HMz := Lib.hid HMs
  clear hHM HMs
  have hk := wget_any ⟨#[2, 1, 2, 97, 98]⟩ (by decide) w5
  rw [show (⟨#[2, 1, 2, 97, 98]⟩ : ByteArray).data.toList = [2, 1, 2, 97, 98] from rfl, wf5.1, wf5.2.1, wf5.2.2] at hk
  go_wp2_with fail
  refine hk.mono ?_
  rintro e w6 ⟨u, rfl, hown, hbl⟩
  clear hk
  have hg := grown_of_below hbl
  obtain ⟨A6, c6, rfl⟩ := own_slice3W hown
  clear hbl
  have hHN := Reads.of_own hown
  have HNs : w6.heap.size ≤ w6.heap.size := Nat.le_refl _
  clear hown
  replace HR := Lib.hid (HR.out.grown hg HZ.out (by simp))
  replace HG := Lib.hid (grown_self HG.out hg (by simp))
  replace HM := Lib.hid (HM.out.grown hg HMz.out (by simp))
  replace HMz := Lib.hid (Nat.le_trans HMz.out hg.size)
  replace HZ := Lib.hid (Nat.le_trans HZ.out hg.size)
  clear hg
  have HN := Lib.hid hHN
  have HNz := Lib.hid HNs
  clear hHN HNs
  have hk := wget_any ⟨#[2, 1, 2, 97, 98, 120]⟩ (by decide) w6
  rw [show (⟨#[2, 1, 2, 97, 98, 120]⟩ : ByteArray).data.toList = [2, 1, 2, 97, 98, 120] from rfl, wf6.1, wf6.2.1, wf6.2.2] at hk
  go_wp2_with fail
  refine hk.mono ?_
  rintro e w7 ⟨u, rfl, hown, hbl⟩
  clear hk
  have hg := grown_of_below hbl
  obtain ⟨A7, c7, rfl⟩ := own_slice3W hown
  clear hbl
  clear hown
  replace HR := Lib.hid (HR.out.grown hg HZ.out (by simp))
  replace HG := Lib.hid (grown_self HG.out hg (by simp))
  replace HM := Lib.hid (HM.out.grown hg HMz.out (by simp))
  replace HMz := Lib.hid (Nat.le_trans HMz.out hg.size)
  replace HN := Lib.hid (HN.out.grown hg HNz.out (by simp))
  replace HNz := Lib.hid (Nat.le_trans HNz.out hg.size)
  replace HZ := Lib.hid (Nat.le_trans HZ.out hg.size)
  clear hg
  have hk := wget_any ⟨#[1]⟩ (by decide) w7
  rw [show (⟨#[1]⟩ : ByteArray).data.toList = [1] from rfl, wf7.1, wf7.2.1, wf7.2.2] at hk
  go_wp2_with fail
  refine hk.mono ?_
  rintro e w8 ⟨u, rfl, hown, hbl⟩
  clear hk
  have hg := grown_of_below hbl
  obtain ⟨A8, c8, rfl⟩ := own_slice3W hown
  clear hbl
  clear hown
  replace HR := Lib.hid (HR.out.grown hg HZ.out (by simp))
  replace HG := Lib.hid (grown_self HG.out hg (by simp))
  replace HM := Lib.hid (HM.out.grown hg HMz.out (by simp))
  replace HMz := Lib.hid (Nat.le_trans HMz.out hg.size)
  replace HN := Lib.hid (HN.out.grown hg HNz.out (by simp))
  replace HNz := Lib.hid (Nat.le_trans HNz.out hg.size)
  replace HZ := Lib.hid (Nat.le_trans HZ.out hg.size)
  clear hg
  have hk := wput_any 1 (b + 1) (some ⟨b, 0, none⟩) 2 2 [wX, wY] w8 HZ.out HR.out (by decide) (by decide) wsz
  rw [wf8.1, wf8.2] at hk
  go_wp2_with fail
  refine hk.mono ?_
  rintro e w9 ⟨rfl, hg⟩
  clear hk
  replace HR := Lib.hid (HR.out.grown hg HZ.out (by simp))
  replace HG := Lib.hid (grown_self HG.out hg (by simp))
  replace HM := Lib.hid (HM.out.grown hg HMz.out (by simp))
  replace HMz := Lib.hid (Nat.le_trans HMz.out hg.size)
  replace HN := Lib.hid (HN.out.grown hg HNz.out (by simp))
  replace HNz := Lib.hid (Nat.le_trans HNz.out hg.size)
  replace HZ := Lib.hid (Nat.le_trans HZ.out hg.size)
  clear hg
  have hk := textsR_any _ _ (some ⟨b, 0, none⟩) A5 2 2 2 c5 [wX, wY] [wX, wY] w9 HR.out HM.out (by decide) (by decide)
  rw [decide_eq_true (rfl : [wX, wY] = [wX, wY])] at hk
  go_wp2_with fail
  refine hk.mono ?_
  rintro e w10 ⟨rfl, hbl⟩
  have hg := grown_of_below hbl
  clear hk hbl
  replace HR := Lib.hid (HR.out.grown hg HZ.out (by simp))
  replace HG := Lib.hid (grown_self HG.out hg (by simp))
  replace HM := Lib.hid (HM.out.grown hg HMz.out (by simp))
  replace HMz := Lib.hid (Nat.le_trans HMz.out hg.size)
  replace HN := Lib.hid (HN.out.grown hg HNz.out (by simp))
  replace HNz := Lib.hid (Nat.le_trans HNz.out hg.size)
  replace HZ := Lib.hid (Nat.le_trans HZ.out hg.size)
  clear hg
  clear HM HMz
  have hk := textsR_any _ _ (some ⟨b, 0, none⟩) A6 1 1 2 c6 [wX] [wX] w10 HR.out.first HN.out (by decide) (by decide)
  rw [decide_eq_true (rfl : [wX] = [wX])] at hk
  go_wp2_with fail
  refine hk.mono ?_
  rintro e w11 ⟨rfl, hbl⟩
  have hg := grown_of_below hbl
  clear hk hbl
  replace HR := Lib.hid (HR.out.grown hg HZ.out (by simp))
  replace HG := Lib.hid (grown_self HG.out hg (by simp))
  replace HN := Lib.hid (HN.out.grown hg HNz.out (by simp))
  replace HNz := Lib.hid (Nat.le_trans HNz.out hg.size)
  replace HZ := Lib.hid (Nat.le_trans HZ.out hg.size)
  clear hg
  clear HN HNz
  have hk := version_any ⟨#[2, 1, 2, 97, 98]⟩ w11
  rw [show (⟨#[2, 1, 2, 97, 98]⟩ : ByteArray).data.toList = [2, 1, 2, 97, 98] from rfl, wf9.1, wf9.2] at hk
  go_wp2_with fail
  refine hk.mono ?_
  rintro e w12 ⟨rfl, hw⟩
  rw [hw]
  clear hw hk
  have hk := wcheck_any 2 (b + 1) (some ⟨b, 0, none⟩) 2 2 [wX, wY] w11 HZ.out HR.out (by decide) (by decide) wsz
  rw [wf10.1] at hk
  go_wp2_with fail
  refine hk.mono ?_
  rintro e w13 ⟨rfl, hg⟩
  clear hk
  replace HR := Lib.hid (HR.out.grown hg HZ.out (by simp))
  replace HG := Lib.hid (grown_self HG.out hg (by simp))
  replace HZ := Lib.hid (Nat.le_trans HZ.out hg.size)
  clear hg
  have hk := wcheck_any 0 0 none 0 0 [] w13 (Nat.zero_le _) Reads.none_ (by decide) (by decide) (by simp)
  rw [wf10.2] at hk
  go_wp2_with fail
  refine hk.mono ?_
  rintro e w14 ⟨rfl, hg⟩
  clear hk
  have hG := grown_self HG.out hg (by simp)
  go_wp2_with fail
  go_ret
  exact ⟨rfl, hG⟩
end Go.Proofs.YtdflihfecfmpfaaDoor
