/- The fixed facts (works). -/
import Derived.Test.YtacfpjleejfdgaaDoorRlpI
namespace Go.Proofs.YtacfpjleejfdgaaDoor
open Go.RowKit Go.Shelf
set_option linter.unusedVariables false
set_option linter.unusedSimpArgs false

def exI : Itm := .mk true ⟨#[]⟩ [.mk false ⟨#[1]⟩ [], .mk true ⟨#[]⟩ []]
def exB : Itm := .mk false ⟨#[128]⟩ []
def exL : Itm := .mk false ⟨(List.replicate 56 (0 : UInt8)).toArray⟩ []
def exX : Itm := .mk true ⟨#[120]⟩ []
theorem ex1 : encB exI = [194, 1, 192] := by decide +kernel
theorem ex2 : checkI exI = 0 := by decide +kernel
theorem ex3 : encB exB = [129, 128] := by decide +kernel
theorem ex4 : checkI exB = 0 := by decide +kernel
theorem ex5 : (encB exL).length = 58 ∧ (encB exL).take 2 = [184, 56] := by decide +kernel
theorem ex6 : checkI exL = 0 := by decide +kernel
theorem ex7 : checkI exX = 2 := by decide +kernel
theorem ex8 : deepF exI = 2 := by decide +kernel
theorem ex9 : (bytesF exI).length = 3 := by decide +kernel
theorem ex10 : wtF exI ≤ 1000 ∧ wtF exB ≤ 1000 ∧ wtF exL ≤ 1000 ∧ wtF exX ≤ 1000 := by decide +kernel

/-- an item of bytes alone lies anywhere -/
theorem leafW (W : World) (c : Nat) : SubW W [] (.slice none 0 c) := .mk [] none c [] (fun h => by cases h) (fun i h => by cases h)
theorem exI_sub {W : World} {g : Nat} (h : Blk W g 24 #[.bool false, .string ⟨#[1]⟩, .slice none 0 0, .bool true, .string ⟨#[]⟩, .slice none 0 0]) : SubW W exI.items (.slice (some ⟨g, 0, none⟩) 2 2) := by
  refine .mk exI.items (some ⟨g, 0, none⟩) 2 [.slice none 0 0, .slice none 0 0] (fun _ => ⟨g, 0, rfl, h.lt, fun i hi => ?_⟩) (fun i hi => ?_)
  · have hi : i < 2 := hi
    have : i = 0 ∨ i = 1 := by omega
    rcases this with rfl | rfl
    · exact ⟨h.cell 0, h.cell 1, h.cell 2⟩
    · exact ⟨h.cell 3, h.cell 4, h.cell 5⟩
  · have hi : i < 2 := hi
    have : i = 0 ∨ i = 1 := by omega
    rcases this with rfl | rfl
    · exact leafW W 0
    · exact leafW W 0

open Classical in
set_option maxRecDepth 100000 in
set_option maxHeartbeats 2000000 in
theorem worksP_any (W : World) : Calls Tryd.prog 8 #[] W fun e W' => e = .returned (.bool true) ∧ W.grownBy W' none := by
  have he1 : ∀ (V : World) (sx : Value), SubW V exI.items sx → Calls Tryd.prog 13 #[.agg #[.bool true, .string ⟨#[]⟩, sx]] V fun e W' => e = .returned (.tuple #[.string ⟨#[194, 1, 192]⟩, .int .i64 0]) ∧ V.grownBy W' none := fun V sx h => by
    have := encodeP_any exI V sx h (Nat.le_trans ex10.1 (by omega))
    rw [ex1, ex2] at this
    exact this
  have he2 : ∀ (V : World) (sx : Value), SubW V exB.items sx → Calls Tryd.prog 13 #[.agg #[.bool false, .string ⟨#[128]⟩, sx]] V fun e W' => e = .returned (.tuple #[.string ⟨#[129, 128]⟩, .int .i64 0]) ∧ V.grownBy W' none := fun V sx h => by
    have := encodeP_any exB V sx h (Nat.le_trans ex10.2.1 (by omega))
    rw [ex3, ex4] at this
    exact this
  have he3 : ∀ (V : World) (sx : Value), SubW V exL.items sx → Calls Tryd.prog 13 #[.agg #[.bool false, .string ⟨(List.replicate 56 (0 : UInt8)).toArray⟩, sx]] V fun e W' => e = .returned (.tuple #[.string ⟨(encB exL).toArray⟩, .int .i64 0]) ∧ V.grownBy W' none := fun V sx h => by
    have := encodeP_any exL V sx h (Nat.le_trans ex10.2.2.1 (by omega))
    rw [ex6] at this
    exact this
  have he4 : ∀ (V : World) (sx : Value), SubW V exX.items sx → Calls Tryd.prog 13 #[.agg #[.bool true, .string ⟨#[120]⟩, sx]] V fun e W' => e = .returned (.tuple #[.string ⟨#[]⟩, .int .i64 2]) ∧ V.grownBy W' none := fun V sx h => by
    have := encodeP_any exX V sx h (Nat.le_trans ex10.2.2.2 (by omega))
    rw [show encB exX = [] from if_neg (by rw [ex7]; decide), ex7] at this
    exact this
  have H1 := Lib.hid he1; have H2 := Lib.hid he2; have H3 := Lib.hid he3; have H4 := Lib.hid he4
  clear he1 he2 he3 he4
  have hb := Blk.new W 24 #[.bool false, .string ⟨#[1]⟩, .slice none 0 0, .bool true, .string ⟨#[]⟩, .slice none 0 0]
  have hG := only_alloc (World.grownBy.refl W none) (.cells #[.bool false, .string ⟨#[1]⟩, .slice none 0 0, .bool true, .string ⟨#[]⟩, .slice none 0 0] 24)
  go_enter Tryd.func8, Tryd.ntmps8
  go_upto_region 2 with (fail)
  have hb1 := hb.alloc (.cells #[.bool true, .string ⟨#[]⟩, .slice (some ⟨W.heap.size, 0, none⟩) 2 2] 24)
  have hi1 := Blk.new (W.alloc (.cells #[.bool false, .string ⟨#[1]⟩, .slice none 0 0, .bool true, .string ⟨#[]⟩, .slice none 0 0] 24)) 24 #[.bool true, .string ⟨#[]⟩, .slice (some ⟨W.heap.size, 0, none⟩) 2 2]
  rw [World.size_alloc] at hi1
  have hG1 := only_alloc hG (.cells #[.bool true, .string ⟨#[]⟩, .slice (some ⟨W.heap.size, 0, none⟩) 2 2] 24)
  obtain ⟨b, hbb⟩ : ∃ b, W.heap.size = b := ⟨_, rfl⟩
  rw [hbb] at hb1 hi1 ⊢
  rw [hbb] at hG1
  generalize (W.alloc (.cells #[.bool false, .string ⟨#[1]⟩, .slice none 0 0, .bool true, .string ⟨#[]⟩, .slice none 0 0] 24)).alloc (.cells #[.bool true, .string ⟨#[]⟩, .slice (some ⟨b, 0, none⟩) 2 2] 24) = W1 at *
  clear hb hG
  have c0 := hi1.cell 0; have c1 := hi1.cell 1; have c2 := hi1.cell 2
  simp only [List.getElem?_toArray, List.getElem?_cons_zero, List.getElem?_cons_succ] at c0 c1 c2
  have HSUB := Lib.hid (exI_sub hb1)
  go_wp2_with fail
  refine (H1.out _ _ HSUB.out).mono ?_
  rintro e w2 ⟨rfl, hg2⟩
  have hG := grown_self hG1 hg2 (by simp)
  have hi2 := hi1.grown hg2 (by simp)
  have hb2 := hb1.grown hg2 (by simp)
  clear c0 c1 c2 hg2
  go_wp2_with fail
  refine (H2.out _ _ (leafW _ 0)).mono ?_
  rintro e w3 ⟨rfl, hg3⟩
  have hG := grown_self hG hg3 (by simp)
  have hi2 := hi2.grown hg3 (by simp)
  have hb2 := hb2.grown hg3 (by simp)
  have hmk : (Instr.makeSlice 35 (.int .i64 56) (.int .i64 56)).run Tryd.prog w3 = .ok (.slice (some ⟨w3.heap.size, 0, none⟩) 56 56) (w3.alloc (.cells (bytesC (List.replicate 56 0)) 5)) := make_u8 56 (by omega) w3
  have hcv := run_convert_bytes_back (P := Tryd.prog) (w3.alloc (.cells (bytesC (List.replicate 56 0)) 5)) 35 9 5 ⟨w3.heap.size, 0, none⟩ 56 (List.replicate 56 0) (by kernel_rfl) (by kernel_rfl) (by kernel_rfl) (fun j hj => by
    have := bytesC_cell (Blk.new w3 5 (bytesC (List.replicate 56 0))) j hj
    rw [Addr.add_mid, Nat.zero_add, this, List.getD_eq_getElem?_getD, List.getElem?_eq_getElem hj]
    rfl)
  rw [List.length_replicate] at hcv
  have hG := only_alloc hG (.cells (bytesC (List.replicate 56 0)) 5)
  have hi2 := hi2.alloc (.cells (bytesC (List.replicate 56 0)) 5)
  have hb2 := hb2.alloc (.cells (bytesC (List.replicate 56 0)) 5)
  generalize w3.alloc (.cells (bytesC (List.replicate 56 0)) 5) = w4 at *
  have H3 := H3
  obtain ⟨z56, hz56⟩ : ∃ z : ByteArray, (⟨(List.replicate 56 (0 : UInt8)).toArray⟩ : ByteArray) = z := ⟨_, rfl⟩
  rw [hz56] at hcv H3
  clear hz56
  go_wp2_with fail
  refine (H3.out _ _ (leafW _ 0)).mono ?_
  rintro e w5 ⟨rfl, hg5⟩
  have hG := grown_self hG hg5 (by simp)
  have hi2 := hi2.grown hg5 (by simp)
  have hb2 := hb2.grown hg5 (by simp)
  obtain ⟨L, hL⟩ : ∃ L : ByteArray, (⟨(encB exL).toArray⟩ : ByteArray) = L := ⟨_, rfl⟩
  have hLz : L.size = 58 := by rw [← hL, ba_sz]; exact ex5.1
  have hLe : ((L.extract 0 2).toList == [184, 56]) = true := by
    have : L.extract 0 2 = ⟨#[184, 56]⟩ := ba_ext (by rw [Lib.extract_data, ← hL]; exact ex5.2)
    rw [this, Lib.toList_data]; decide
  have z1 : ((L.size : Int) == 58) = true := by rw [hLz]; rfl
  have z2 : (2 : Int) ≤ (L.size : Int) := by rw [hLz]; decide
  have z3 : 2 ≤ L.size := by omega
  have s1 : ((⟨#[194, 1, 192]⟩ : ByteArray).toList == [194, 1, 192]) = true := by rw [Lib.toList_data]; decide
  have s2 : ((⟨#[129, 128]⟩ : ByteArray).toList == [129, 128]) = true := by rw [Lib.toList_data]; decide
  rw [hL]
  clear hL hLz hg3 hg5 hmk hcv
  go_wp2_with fail
  refine (H4.out _ _ (leafW _ 0)).mono ?_
  rintro e w6 ⟨rfl, hg6⟩
  have hG := grown_self hG hg6 (by simp)
  have hi2 := hi2.grown hg6 (by simp)
  have hb2 := hb2.grown hg6 (by simp)
  have c0 := hi2.cell 0; have c1 := hi2.cell 1; have c2 := hi2.cell 2
  simp only [List.getElem?_toArray, List.getElem?_cons_zero, List.getElem?_cons_succ] at c0 c1 c2
  clear hg6
  have hS6 := exI_sub hb2
  have hD := deep_any exI w6 _ hS6 (Nat.le_trans ex10.1 (by omega))
  rw [ex8] at hD
  go_wp2_with fail
  refine hD.mono ?_
  rintro e w7 ⟨rfl, hg7⟩
  have hG := grown_self hG hg7 (by simp)
  have hi2 := hi2.grown hg7 (by simp)
  have hb2 := hb2.grown hg7 (by simp)
  have hS7 := exI_sub hb2
  have hZ := size_any exI _ w7 hS7 (Nat.le_trans ex10.1 (by omega))
  rw [ex9] at hZ
  have c0 := hi2.cell 0; have c1 := hi2.cell 1; have c2 := hi2.cell 2
  simp only [List.getElem?_toArray, List.getElem?_cons_zero, List.getElem?_cons_succ] at c0 c1 c2
  clear hg7 hD hS6
  go_wp2_with fail
  refine hZ.mono ?_
  rintro e w8 ⟨rfl, hg8⟩
  have hG := grown_self hG hg8 (by simp)
  have hi2 := hi2.grown hg8 (by simp)
  have hb2 := hb2.grown hg8 (by simp)
  have hS8 := exI_sub hb2
  have hK := checkP_any exI w8 _ hS8 (Nat.le_trans ex10.1 (by omega))
  rw [ex2] at hK
  have c0 := hi2.cell 0; have c1 := hi2.cell 1; have c2 := hi2.cell 2
  simp only [List.getElem?_toArray, List.getElem?_cons_zero, List.getElem?_cons_succ] at c0 c1 c2
  clear hg8 hZ hS7
  go_wp2_with fail
  refine hK.mono ?_
  rintro e w9 ⟨rfl, hg9⟩
  have hG := grown_self hG hg9 (by simp)
  have hi2 := hi2.grown hg9 (by simp)
  have hb2 := hb2.grown hg9 (by simp)
  have hS9 := exI_sub hb2
  have hok : exI.Ok := ok_of_wt exI (Nat.le_trans ex10.1 (by omega))
  have hM := same_any exI hok w9 exI _ _ hok hS9 hS9
  rw [decide_eq_true (rfl : exI = exI)] at hM
  have c0 := hi2.cell 0; have c1 := hi2.cell 1; have c2 := hi2.cell 2
  simp only [List.getElem?_toArray, List.getElem?_cons_zero, List.getElem?_cons_succ] at c0 c1 c2
  clear hg9 hK hS8
  go_wp2_with fail
  refine hM.mono ?_
  rintro e w10 ⟨rfl, hg10⟩
  have hG := grown_self hG hg10 (by simp)
  have hi2 := hi2.grown hg10 (by simp)
  have hb2 := hb2.grown hg10 (by simp)
  have hS10 := exI_sub hb2
  have hne : ¬ (exI = .mk false ⟨#[]⟩ []) := by intro e; injection e with e1; cases e1
  have hM2 := same_any exI hok w10 (.mk false ⟨#[]⟩ []) _ _ (.mk _ _ _ (by decide) (by decide) (fun i hi => by cases hi)) hS10 (leafW _ 0)
  rw [decide_eq_false hne] at hM2
  have c0 := hi2.cell 0; have c1 := hi2.cell 1; have c2 := hi2.cell 2
  simp only [List.getElem?_toArray, List.getElem?_cons_zero, List.getElem?_cons_succ] at c0 c1 c2
  have HOK := Lib.hid hne
  clear hg10 hM hS9 hne hok
  go_wp2_with fail
  refine hM2.mono ?_
  rintro e w11 ⟨rfl, hg11⟩
  have hG := grown_self hG hg11 (by simp)
  clear hg11 hM2
  go_wp2_with fail
  go_ret
  exact ⟨rfl, hG⟩
end Go.Proofs.YtacfpjleejfdgaaDoor
