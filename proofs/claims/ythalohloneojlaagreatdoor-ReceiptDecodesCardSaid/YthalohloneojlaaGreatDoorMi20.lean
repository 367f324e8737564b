/- Merged: RcpM, SzA. -/
import Derived.Test.YthalohloneojlaaGreatDoorMi10
import Derived.Test.YthalohloneojlaaGreatDoorMi15
import Derived.Test.YthalohloneojlaaGreatDoorMi19
/- Receipts: works. -/
namespace Go.Proofs.YthalohloneojlaaGreatDoor
open Go.RowKit Go.Shelf
set_option linter.unusedVariables false
set_option linter.unusedSimpArgs false

theorem logs_none (B : Nat) (w : World) (A : Option Addr) : LogsR B w [] A 0 := ⟨rfl, fun h => by omega⟩
theorem rcpC_0 (v : Value) : rcpC Rcp.zero v = #[.int .i64 0, .bool false, .int .u64 0, v, .bool false, .int .u64 0, .int .u64 0] := rfl
theorem rcpC_D (v : Value) : rcpC rcD v = #[.int .i64 126, .bool true, .int .u64 5, v, .bool true, .int .u64 7, .int .u64 1] := rfl
theorem rcpC_F (v : Value) : rcpC rcF v = #[.int .i64 0, .bool false, .int .u64 0, v, .bool true, .int .u64 0, .int .u64 0] := rfl
set_option maxRecDepth 100000 in
set_option maxHeartbeats 8000000 in
theorem worksRc_any (w : World) (hv : ErrLaid w) : Calls Tryz.prog 8 #[] w fun e w' => e = .returned (.bool true) ∧ w.grownBy w' none := by
  have hp1 := fun V => encodeRc_any Rcp.zero ⟨by decide, by decide, by decide⟩ 0 none 0 0 V (logs_none _ _ _) (Nat.zero_le _) (by decide)
  have hp2 := fun V A c => encodeRc_any rcD ⟨by decide, by decide, by decide⟩ 0 A 0 c V (logs_none _ _ _) (Nat.zero_le _) (by decide)
  have hp3 := fun V => encodeRc_any rcF ⟨by decide, by decide, by decide⟩ 0 none 0 0 V (logs_none _ _ _) (Nat.zero_le _) (by decide)
  rw [wk_1.1, wk_1.2] at hp1
  rw [wk_3.1, wk_3.2] at hp2
  rw [wk_5] at hp3
  have hd1 := fun V (hV : w.grownBy V none) => decodeRc_any ⟨#[195, 128, 128, 192]⟩ (by decide) V (hv.kept hV (by simp))
  have hd2 := fun V (hV : w.grownBy V none) => decodeRc_any ⟨#[126, 197, 1, 5, 192, 7, 1]⟩ (by decide) V (hv.kept hV (by simp))
  have hd3 := fun V (hV : w.grownBy V none) => decodeRc_any ⟨#[3, 192]⟩ (by decide) V (hv.kept hV (by simp))
  rw [show getR (⟨#[195, 128, 128, 192]⟩ : ByteArray).data.toList = (0, Rcp.zero) from wk_2] at hd1
  rw [show getR (⟨#[126, 197, 1, 5, 192, 7, 1]⟩ : ByteArray).data.toList = (0, rcD) from wk_4] at hd2
  rw [show getR (⟨#[3, 192]⟩ : ByteArray).data.toList = (9, Rcp.zero) from wk_6] at hd3
  obtain ⟨LF, hLF⟩ : ∃ L, (⟨(putRcL rcF).toArray⟩ : ByteArray) = L := ⟨_, rfl⟩
  rw [hLF] at hp3
  have hs1 := fun V A c => sameRc_any Rcp.zero Rcp.zero 0 0 A none 0 0 c 0 V (logs_none _ _ _) (logs_none _ _ _) (Nat.zero_le _) (Nat.zero_le _) (by decide) (by decide)
  have hs2 := fun V A c => sameRc_any rcD rcD 0 0 A none 0 0 c 0 V (logs_none _ _ _) (logs_none _ _ _) (Nat.zero_le _) (Nat.zero_le _) (by decide) (by decide)
  have hs3 := fun V A c A' c' => sameRc_any Rcp.zero rcD 0 0 A A' 0 0 c c' V (logs_none _ _ _) (logs_none _ _ _) (Nat.zero_le _) (Nat.zero_le _) (by decide) (by decide)
  rw [eqB_t rfl] at hs1 hs2
  rw [eqB_f wk_8] at hs3
  have hf1 := fun V A c => formRc_any rcD (.slice A 0 c) ⟨_, _, _, rfl⟩ V
  have hf2 := fun V A c => formRc_any Rcp.zero (.slice A 0 c) ⟨_, _, _, rfl⟩ V
  rw [wk_7.2.1] at hf1
  rw [wk_7.2.2] at hf2
  have hc1 := fun V A c => checkRc_any rcD 0 A 0 c V (logs_none _ _ _) (Nat.zero_le _) (by decide)
  rw [wk_7.1] at hc1
  simp only [rcpC_0, rcpC_D, rcpC_F] at hp1 hp2 hp3 hs1 hs2 hs3 hf1 hf2 hc1
  unfold RcEnd at hd1 hd2 hd3
  simp only [rcpC_0, rcpC_D] at hd1 hd2 hd3
  have HP1 := Lib.hid hp1; have HP2 := Lib.hid hp2; have HP3 := Lib.hid hp3
  have HD1 := Lib.hid hd1; have HD2 := Lib.hid hd2; have HD3 := Lib.hid hd3
  have HS1 := Lib.hid hs1; have HS2 := Lib.hid hs2; have HS3 := Lib.hid hs3
  have HF1 := Lib.hid hf1; have HF2 := Lib.hid hf2; have HC1 := Lib.hid hc1
  clear hp1 hp2 hp3 hd1 hd2 hd3 hs1 hs2 hs3 hf1 hf2 hc1 hLF hv
  go_enter Tryz.func8, Tryz.ntmps8
  go_wp2_with fail
  refine (HP1.out _).mono ?_
  rintro e w1 ⟨rfl, hg1⟩
  have HG1 := Lib.hid hg1
  clear hg1 HP1
  go_wp2_with fail
  refine (HD1.out _ HG1.out).mono ?_
  rintro e w2 ⟨A, n, c, rfl, hl2, hg2⟩
  obtain rfl : 0 = n := hl2.1
  have hbx := (Blk.new w2 25 #[.int .i64 0, .bool false, .int .u64 0, .slice A 0 c, .bool false, .int .u64 0, .int .u64 0]).alloc (.cells #[.int .i64 126, .bool true, .int .u64 5, .slice none 0 0, .bool true, .int .u64 7, .int .u64 1] 25)
  have hbd := Blk.new (w2.alloc (.cells #[.int .i64 0, .bool false, .int .u64 0, .slice A 0 c, .bool false, .int .u64 0, .int .u64 0] 25)) 25 #[.int .i64 126, .bool true, .int .u64 5, .slice none 0 0, .bool true, .int .u64 7, .int .u64 1]
  rw [World.size_alloc] at hbd
  have HG3 := Lib.hid (only_alloc (only_alloc (grown_self HG1.out hg2 (by simp)) (.cells #[.int .i64 0, .bool false, .int .u64 0, .slice A 0 c, .bool false, .int .u64 0, .int .u64 0] 25)) (.cells #[.int .i64 126, .bool true, .int .u64 5, .slice none 0 0, .bool true, .int .u64 7, .int .u64 1] 25))
  obtain ⟨xb, hxb⟩ : ∃ b, w2.heap.size = b := ⟨_, rfl⟩
  rw [hxb] at hbx hbd
  have HX := Lib.hid hbx; have HDD := Lib.hid hbd
  clear hbx hbd hl2 hg2 HG1 HD1
  go_upto_region 4 with (fail)
  clear hxb
  generalize (w2.alloc (.cells #[.int .i64 0, .bool false, .int .u64 0, .slice A 0 c, .bool false, .int .u64 0, .int .u64 0] 25)).alloc (.cells #[.int .i64 126, .bool true, .int .u64 5, .slice none 0 0, .bool true, .int .u64 7, .int .u64 1] 25) = w3 at *
  have d0 := HDD.out.cell 0; have d1 := HDD.out.cell 1; have d2 := HDD.out.cell 2; have d3 := HDD.out.cell 3; have d4 := HDD.out.cell 4; have d5 := HDD.out.cell 5; have d6 := HDD.out.cell 6
  simp only [List.getElem?_toArray, List.getElem?_cons_zero, List.getElem?_cons_succ] at d0 d1 d2 d3 d4 d5 d6
  go_wp2_with fail
  refine (HP2.out _ _ _).mono ?_
  rintro e w4 ⟨rfl, hg4⟩
  have HG4 := Lib.hid (grown_self HG3.out hg4 (by simp))
  have HX4 := Lib.hid (HX.out.grown hg4 (by simp)); have HDD4 := Lib.hid (HDD.out.grown hg4 (by simp))
  clear hg4 HG3 HX HDD d0 d1 d2 d3 d4 d5 d6 HP2
  go_wp2_with fail
  refine (HD2.out _ HG4.out).mono ?_
  rintro e w5 ⟨A', n', c', rfl, hl5, hg5⟩
  obtain rfl : 0 = n' := hl5.1
  have hby := Blk.new w5 25 #[.int .i64 126, .bool true, .int .u64 5, .slice A' 0 c', .bool true, .int .u64 7, .int .u64 1]
  have hgy := only_alloc (World.grownBy.refl w5 none) (.cells #[.int .i64 126, .bool true, .int .u64 5, .slice A' 0 c', .bool true, .int .u64 7, .int .u64 1] 25)
  have HG6 := Lib.hid (grown_self (grown_self HG4.out hg5 (by simp)) hgy (by simp))
  have HX6 := Lib.hid ((HX4.out.grown hg5 (by simp)).grown hgy (by simp)); have HDD6 := Lib.hid ((HDD4.out.grown hg5 (by simp)).grown hgy (by simp))
  obtain ⟨yb, hyb⟩ : ∃ b, w5.heap.size = b := ⟨_, rfl⟩
  rw [hyb] at hby
  have HY6 := Lib.hid hby
  clear hby hgy hg5 hl5 HG4 HX4 HDD4 HD2
  go_upto_region 6 with (fail)
  clear hyb
  generalize w5.alloc (.cells #[.int .i64 126, .bool true, .int .u64 5, .slice A' 0 c', .bool true, .int .u64 7, .int .u64 1] 25) = w6 at *
  go_wp2_with fail
  refine (HP3.out _).mono ?_
  rintro e w7 ⟨rfl, hg7⟩
  have HG7 := Lib.hid (grown_self HG6.out hg7 (by simp))
  have HX7 := Lib.hid (HX6.out.grown hg7 (by simp)); have HDD7 := Lib.hid (HDD6.out.grown hg7 (by simp)); have HY7 := Lib.hid (HY6.out.grown hg7 (by simp))
  clear hg7 HG6 HX6 HDD6 HY6 HP3
  go_wp2_with fail
  refine (HD3.out _ HG7.out).mono ?_
  rintro e w8 ⟨A8, n8, c8, rfl, hl8, hg8⟩
  obtain rfl : 0 = n8 := hl8.1
  have hgz := only_alloc (World.grownBy.refl w8 none) (.cells #[.int .i64 0, .bool false, .int .u64 0, .slice A8 0 c8, .bool false, .int .u64 0, .int .u64 0] 25)
  have HG9 := Lib.hid (grown_self (grown_self HG7.out hg8 (by simp)) hgz (by simp))
  have HX9 := Lib.hid ((HX7.out.grown hg8 (by simp)).grown hgz (by simp)); have HDD9 := Lib.hid ((HDD7.out.grown hg8 (by simp)).grown hgz (by simp)); have HY9 := Lib.hid ((HY7.out.grown hg8 (by simp)).grown hgz (by simp))
  clear hgz hg8 hl8 HG7 HX7 HDD7 HY7 HD3
  go_upto_region 8 with (fail)
  generalize w8.alloc (.cells #[.int .i64 0, .bool false, .int .u64 0, .slice A8 0 c8, .bool false, .int .u64 0, .int .u64 0] 25) = w9 at *
  have xc0 := HX9.out.cell 0; have xc1 := HX9.out.cell 1; have xc2 := HX9.out.cell 2; have xc3 := HX9.out.cell 3; have xc4 := HX9.out.cell 4; have xc5 := HX9.out.cell 5; have xc6 := HX9.out.cell 6
  simp only [List.getElem?_toArray, List.getElem?_cons_zero, List.getElem?_cons_succ] at xc0 xc1 xc2 xc3 xc4 xc5 xc6
  go_wp2_with fail
  refine (HS1.out _ _ _).mono ?_
  rintro e w10 ⟨rfl, hg10⟩
  have HG10 := Lib.hid (grown_self HG9.out hg10 (by simp))
  have HX10 := Lib.hid (HX9.out.grown hg10 (by simp)); have HDD10 := Lib.hid (HDD9.out.grown hg10 (by simp)); have HY10 := Lib.hid (HY9.out.grown hg10 (by simp))
  clear hg10 HG9 HX9 HDD9 HY9 xc0 xc1 xc2 xc3 xc4 xc5 xc6
  have yc0 := HY10.out.cell 0; have yc1 := HY10.out.cell 1; have yc2 := HY10.out.cell 2; have yc3 := HY10.out.cell 3; have yc4 := HY10.out.cell 4; have yc5 := HY10.out.cell 5; have yc6 := HY10.out.cell 6
  have dc0 := HDD10.out.cell 0; have dc1 := HDD10.out.cell 1; have dc2 := HDD10.out.cell 2; have dc3 := HDD10.out.cell 3; have dc4 := HDD10.out.cell 4; have dc5 := HDD10.out.cell 5; have dc6 := HDD10.out.cell 6
  simp only [List.getElem?_toArray, List.getElem?_cons_zero, List.getElem?_cons_succ] at yc0 yc1 yc2 yc3 yc4 yc5 yc6 dc0 dc1 dc2 dc3 dc4 dc5 dc6
  go_wp2_with fail
  refine (HS2.out _ _ _).mono ?_
  rintro e w11 ⟨rfl, hg11⟩
  have HG11 := Lib.hid (grown_self HG10.out hg11 (by simp))
  have HX11 := Lib.hid (HX10.out.grown hg11 (by simp)); have HDD11 := Lib.hid (HDD10.out.grown hg11 (by simp)); have HY11 := Lib.hid (HY10.out.grown hg11 (by simp))
  clear hg11 HG10 HX10 HDD10 HY10 yc0 yc1 yc2 yc3 yc4 yc5 yc6 dc0 dc1 dc2 dc3 dc4 dc5 dc6
  have dc0 := HDD11.out.cell 0; have dc1 := HDD11.out.cell 1; have dc2 := HDD11.out.cell 2; have dc3 := HDD11.out.cell 3; have dc4 := HDD11.out.cell 4; have dc5 := HDD11.out.cell 5; have dc6 := HDD11.out.cell 6
  simp only [List.getElem?_toArray, List.getElem?_cons_zero, List.getElem?_cons_succ] at dc0 dc1 dc2 dc3 dc4 dc5 dc6
  go_wp2_with fail
  refine (HF1.out _ _ _).mono ?_
  rintro e w12 ⟨rfl, hg12⟩
  have HG12 := Lib.hid (grown_self HG11.out hg12 (by simp))
  have HX12 := Lib.hid (HX11.out.grown hg12 (by simp)); have HDD12 := Lib.hid (HDD11.out.grown hg12 (by simp)); have HY12 := Lib.hid (HY11.out.grown hg12 (by simp))
  clear hg12 HG11 HX11 HDD11 HY11 dc0 dc1 dc2 dc3 dc4 dc5 dc6
  have xc0 := HX12.out.cell 0; have xc1 := HX12.out.cell 1; have xc2 := HX12.out.cell 2; have xc3 := HX12.out.cell 3; have xc4 := HX12.out.cell 4; have xc5 := HX12.out.cell 5; have xc6 := HX12.out.cell 6
  simp only [List.getElem?_toArray, List.getElem?_cons_zero, List.getElem?_cons_succ] at xc0 xc1 xc2 xc3 xc4 xc5 xc6
  go_wp2_with fail
  refine (HF2.out _ _ _).mono ?_
  rintro e w13 ⟨rfl, hg13⟩
  have HG13 := Lib.hid (grown_self HG12.out hg13 (by simp))
  have HX13 := Lib.hid (HX12.out.grown hg13 (by simp)); have HDD13 := Lib.hid (HDD12.out.grown hg13 (by simp)); have HY13 := Lib.hid (HY12.out.grown hg13 (by simp))
  clear hg13 HG12 HX12 HDD12 HY12 xc0 xc1 xc2 xc3 xc4 xc5 xc6
  have dc0 := HDD13.out.cell 0; have dc1 := HDD13.out.cell 1; have dc2 := HDD13.out.cell 2; have dc3 := HDD13.out.cell 3; have dc4 := HDD13.out.cell 4; have dc5 := HDD13.out.cell 5; have dc6 := HDD13.out.cell 6
  simp only [List.getElem?_toArray, List.getElem?_cons_zero, List.getElem?_cons_succ] at dc0 dc1 dc2 dc3 dc4 dc5 dc6
  go_wp2_with fail
  refine (HC1.out _ _ _).mono ?_
  rintro e w14 ⟨rfl, hg14⟩
  have HG14 := Lib.hid (grown_self HG13.out hg14 (by simp))
  have HX14 := Lib.hid (HX13.out.grown hg14 (by simp)); have HDD14 := Lib.hid (HDD13.out.grown hg14 (by simp)); have HY14 := Lib.hid (HY13.out.grown hg14 (by simp))
  clear hg14 HG13 HX13 HDD13 HY13 dc0 dc1 dc2 dc3 dc4 dc5 dc6
  have xc0 := HX14.out.cell 0; have xc1 := HX14.out.cell 1; have xc2 := HX14.out.cell 2; have xc3 := HX14.out.cell 3; have xc4 := HX14.out.cell 4; have xc5 := HX14.out.cell 5; have xc6 := HX14.out.cell 6
  have yc0 := HY14.out.cell 0; have yc1 := HY14.out.cell 1; have yc2 := HY14.out.cell 2; have yc3 := HY14.out.cell 3; have yc4 := HY14.out.cell 4; have yc5 := HY14.out.cell 5; have yc6 := HY14.out.cell 6
  simp only [List.getElem?_toArray, List.getElem?_cons_zero, List.getElem?_cons_succ] at xc0 xc1 xc2 xc3 xc4 xc5 xc6 yc0 yc1 yc2 yc3 yc4 yc5 yc6
  go_wp2_with fail
  refine (HS3.out _ _ _ _ _).mono ?_
  rintro e w15 ⟨rfl, hg15⟩
  have HG15 := Lib.hid (grown_self HG14.out hg15 (by simp))
  have HX15 := Lib.hid (HX14.out.grown hg15 (by simp)); have HDD15 := Lib.hid (HDD14.out.grown hg15 (by simp)); have HY15 := Lib.hid (HY14.out.grown hg15 (by simp))
  clear hg15 HG14 HX14 HDD14 HY14 xc0 xc1 xc2 xc3 xc4 xc5 xc6 yc0 yc1 yc2 yc3 yc4 yc5 yc6
  go_wp2_with fail
  go_ret
  exact ⟨rfl, HG15.out⟩
end Go.Proofs.YthalohloneojlaaGreatDoor
/- The document's item of a row of texts (rescriptref06.Texts).  Printed by wip/genSzA.py from XFldT. -/
namespace Go.Proofs.YthalohloneojlaaGreatDoor
open Go.RowKit Go.Shelf
set_option linter.unusedVariables false
set_option linter.unusedSimpArgs false

set_option maxRecDepth 100000 in
set_option maxHeartbeats 2000000 in
theorem textsR6_any (B : Nat) (A : Option Addr) (n c : Nat) (xs : List ByteArray) (w : World) (h : Reads w B 1 A n (xs.map Value.string)) (hB : B ≤ w.heap.size) (hn : n ≤ 1000) :
    Calls Tryz.prog 87 #[.slice A n c] w fun e w' => ∃ A' c', e = .returned (.agg #[.bool true, .string ⟨#[]⟩, .slice A' n c']) ∧ SubV (fun g => w.heap.size ≤ g) w' (xs.map txt) (.slice A' n c') ∧ w.grownBy w' none := by
  have hl : xs.length = n := by have := h.1; simpa using this
  have hRB := Blk.new w 45 #[.bool false, .string ⟨#[]⟩, .slice none 0 0]
  have hG := only_alloc (World.grownBy.refl w none) (.cells #[.bool false, .string ⟨#[]⟩, .slice none 0 0] 45)
  go_enter Tryz.func87, Tryz.ntmps87
  go_upto_region 1 with (fail)
  obtain ⟨b, hb⟩ : ∃ b, w.heap.size = b := ⟨_, rfl⟩
  have HW := Lib.hid hb
  rw [hb] at hRB ⊢
  have hz : (w.alloc (.cells #[.bool false, .string ⟨#[]⟩, .slice none 0 0] 45)).heap.size = b + 1 := by simp [hb]
  have h := h.alloc hB (.cells #[.bool false, .string ⟨#[]⟩, .slice none 0 0] 45)
  generalize w.alloc (.cells #[.bool false, .string ⟨#[]⟩, .slice none 0 0] 45) = W1 at *
  obtain ⟨w3, hw3⟩ : ∃ w3, W1 = w3 := ⟨_, rfl⟩
  have hg3 : W1.grownBy w3 none := hw3 ▸ World.grownBy.refl W1 none
  rw [hw3]
  obtain ⟨b3, hb3⟩ : ∃ b, w3.heap.size = b := ⟨_, rfl⟩
  have hz3 := hg3.size
  have K0 : Held3 w3 b3 (.slice none 0 0) 0 (txtV (xs.take 0)) (w3.alloc (.cells #[.bool true, .string ⟨#[]⟩, .slice none 0 0] 45)) := by
    refine ⟨?_, World.ownsRow_nil _ _ _ _, only_alloc (World.grownBy.refl w3 none) _, by simp; omega, by omega⟩
    have := Blk.new w3 45 #[.bool true, .string ⟨#[]⟩, .slice none 0 0]
    rwa [hb3] at this
  have h := h.grown hg3 (by have := HW.out; omega) (by simp)
  have h0 := Lib.hid h
  have HL := Lib.hid hl
  have HB : Hid (B ≤ w3.heap.size) := Lib.hid (by have := HW.out; omega)
  have HRB := Lib.hid (hRB.grown hg3 (by simp))
  have HG := Lib.hid (grown_self hG hg3 (by simp))
  have h := h.alloc HB.out (.cells #[.bool true, .string ⟨#[]⟩, .slice none 0 0] 45)
  have HB3 : Hid (w3.heap.size = b3) := Lib.hid hb3
  have HS : Hid (w.heap.size ≤ b3) := Lib.hid (by have := HW.out; omega)
  have HZB : Hid (b + 1 ≤ b3) := Lib.hid (by omega)
  clear hG hg3 hl hB hRB hw3
  go_upto_region 2 with (fail)
  generalize w3.alloc (.cells #[.bool true, .string ⟨#[]⟩, .slice none 0 0] 45) = W4 at *
  clear hz hz3 hb3
  go_wp2_with fail
  go_loopw [4] (fun i wr => ∃ (k : Nat) (v : Value), i = .int .i64 k ∧ k ≤ n ∧ Held3 w3 b3 v k (txtV (xs.take k)) wr) (fun i _ => n - (intOf i).toNat)
  case atStart => exact ⟨0, _, rfl, by omega, K0⟩
  case round =>
    clear K0 h
    obtain ⟨k, v, rfl, hk, K0⟩ := hrel
    have h := h0.out.grown K0.grown HB.out (by simp)
    by_cases hlt : k < n
    · obtain ⟨g, off, rfl, hg, hc⟩ := Reads.vals Value.string .empty h hlt
      have c0 := hc k hlt
      have q1 : (k : Int) < (n : Int) := by omega
      have hTK : txtV (xs.take k) ++ [.bool false, .string (xs.getD k .empty), .slice none 0 0] = txtV (xs.take (k + 1)) := by
        rw [← txtV_snoc, List.take_add_one, List.getElem?_eq_getElem (by have := HL.out; omega), List.getD_eq_getElem?_getD, List.getElem?_eq_getElem (by have := HL.out; omega)]
        rfl
      obtain ⟨s, hs⟩ : ∃ s, xs.getD k .empty = s := ⟨_, rfl⟩
      rw [hs] at c0 hTK
      have HTK := Lib.hid hTK
      have H0 := Lib.hid h0.out
      have HGB : Hid (g < b3) := Lib.hid (by have := HB.out; have := HB3.out; omega)
      clear h hc hs h0 hTK
      obtain ⟨vA, vc, rfl⟩ := own_slice3 K0.own
      go_wp2_with fail
      refine wp_region_held (S := fun W => W.cell? ⟨g, off + k, none⟩ = some (.string s)) (by kernel_rfl) ?_
      change wpAnyH _ _ _ _ _ _ _ _ wr.drew
      have hS0 : wr.drew.cell? ⟨g, off + k, none⟩ = some (.string s) := c0
      replace K0 := K0.drew
      generalize wr.drew = u0 at *
      clear c0
      have hgb : g < b3 := HGB.out
      refine held_take (i := 0) (v := .pointer (some ⟨b3, 2, none⟩)) (some 12) rfl (by kernel_rfl) (by kernel_rfl) (by kernel_rfl) (fun _ _ _ h => h) rfl (Or.inl ⟨by rfl, fun W hW => by go_simp⟩) hS0 ?_
      simp only [Act.put, List.setIfInBounds_toArray, List.set_cons_zero, List.set_cons_succ]
      refine held_take (i := 2) (v := .slice (some ⟨g, off, none⟩) n c) (some 14) rfl (by kernel_rfl) (by kernel_rfl) (by kernel_rfl) (fun _ _ _ h => h) rfl (Or.inl ⟨by rfl, fun W hW => by go_simp⟩) hS0 ?_
      simp only [Act.put, List.setIfInBounds_toArray, List.set_cons_zero, List.set_cons_succ]
      refine held_take (i := 3) (v := .int .i64 (k : Int)) (some 15) rfl (by kernel_rfl) (by kernel_rfl) (by kernel_rfl) (fun _ _ _ h => h) rfl (Or.inl ⟨by rfl, fun W hW => by go_simp⟩) hS0 ?_
      simp only [Act.put, List.setIfInBounds_toArray, List.set_cons_zero, List.set_cons_succ]
      refine held_take (i := 4) (v := .pointer (some ⟨g, off + k, none⟩)) (some 16) rfl (by kernel_rfl) (by kernel_rfl) (by kernel_rfl) (fun _ _ _ h => h) rfl (Or.inl ⟨by rfl, fun W hW => by go_simp⟩) hS0 ?_
      simp only [Act.put, List.setIfInBounds_toArray, List.set_cons_zero, List.set_cons_succ]
      refine held_take (i := 5) (v := .string s) (some 17) rfl (by kernel_rfl) (by kernel_rfl) (by kernel_rfl) (fun _ _ _ h => h) rfl (Or.inl ⟨by rfl, fun W hW => by have q : W.cell? ⟨g, off + k, none⟩ = some (.string s) := hW; go_simp⟩) hS0 ?_
      simp only [Act.put, List.setIfInBounds_toArray, List.set_cons_zero, List.set_cons_succ]
      refine held_two (i := 1) (j := 6) (by kernel_rfl) ?_ ?_
      · refine held_value (some 13) rfl rfl (.slice vA k vc) (exec_load1 43 (.tmp 12) rfl _ rfl _ _ Tryz.underlying43 rfl (K0.blk.cell 2)) rfl hS0 ?_
        simp only [Act.put, List.setIfInBounds_toArray, List.set_cons_zero, List.set_cons_succ]
        refine held_one (i := 6) (by kernel_rfl) ?_
        refine held_enter (some 18) rfl rfl 86 #[.string s] (exec_call1 86 (.tmp 17) _ rfl _ rfl rfl) rfl ((textR6_any s _).mono ?_)
        rintro e u1 ⟨rfl, hgc⟩
        have hS1 : u1.cell? ⟨g, off + k, none⟩ = some (.string s) := hgc.cell hS0 (by simp)
        have K1 := K0.kept hgc
        refine ⟨_, rfl, hS1, ?_⟩
        simp only [Act.put, List.setIfInBounds_toArray, List.set_cons_zero, List.set_cons_succ]
        refine held_one (i := 7) (by kernel_rfl) ?_
        have hS2 : (u1.alloc (.cells #[.bool false, .string s, .slice none 0 0] 45)).cell? ⟨g, off + k, none⟩ = some (.string s) := (only_alloc (World.grownBy.refl u1 none) _).cell hS1 (by simp)
        refine held_value (some 19) rfl rfl (.slice (some ⟨u1.heap.size, 0, none⟩) 1 1) (by go_simp <;> rfl) rfl hS2 ?_
        simp only [Act.put, List.setIfInBounds_toArray, List.set_cons_zero, List.set_cons_succ]
        have K2 := K1.kept (only_alloc (World.grownBy.refl u1 none) (.cells #[.bool false, .string s, .slice none 0 0] 45))
        obtain ⟨i0, hi, hz0, hzs, hzb⟩ := info_parts item_info
        obtain ⟨v', u2, hrun, hown', hgrow, hiff, hob⟩ := run_append_own_at (P := Tryz.prog) (u1.alloc (.cells #[.bool false, .string s, .slice none 0 0] 45)) (b3 + 1) 43 43 45 i0 _ 3 48 Tryz.underlying43 hi hz0 hzs hzb rfl (by decide) (.slice vA k vc) k (txtV (xs.take k)) K2.own ⟨u1.heap.size, 0, none⟩ 1 1 [.bool false, .string s, .slice none 0 0] rfl (cell_three_new _ _ _ _ _) (by simp [Value.oneCell']) (by simp only [maxLen]; omega) (by omega) K2.size
        have hS3 : u2.cell? ⟨g, off + k, none⟩ = some (.string s) := hgrow.cell hS2 (fun e => by have e2 : b3 + 1 ≤ g := ownBlock_ge K2.own e.symm; omega)
        obtain ⟨g', cap', rfl⟩ := ownsRow_succ hown'
        have K3 := K2.put hown' hgrow
        refine held_one (i := 8) (by kernel_rfl) ?_
        refine held_value (some 20) rfl rfl (.slice (some ⟨g', 0, none⟩) (k + 1) cap') (exec_append (.tmp 13) (.tmp 19) 43 rfl _ _ _ rfl rfl hrun) rfl hS3 ?_
        simp only [Act.put, List.setIfInBounds_toArray, List.set_cons_zero, List.set_cons_succ]
        refine held_one (i := 9) (by kernel_rfl) ?_
        refine held_value (some 21) rfl rfl (.pointer (some ⟨b3, 2, none⟩)) (by go_simp <;> rfl) rfl hS3 ?_
        simp only [Act.put, List.setIfInBounds_toArray, List.set_cons_zero, List.set_cons_succ]
        refine held_one (i := 10) (by kernel_rfl) ?_
        have hS4 : (u2.setCell ⟨b3, 2, none⟩ (.slice (some ⟨g', 0, none⟩) (k + 1) cap')).cell? ⟨g, off + k, none⟩ = some (.string s) := by rw [World.cell?_setCell_far _ _ _ _ (by show b3 ≠ g; omega)]; exact hS3
        refine held_store rfl rfl (exec_store1 (.tmp 21) (.tmp 20) rfl rfl rfl (K2.blk.grown hgrow (fun e => by have := ownBlock_ge K2.own e.symm; omega)) (by simp)) hS4 ?_
        simp only [Act.put, List.setIfInBounds_toArray, List.set_cons_zero, List.set_cons_succ]
        refine wpAnyH_done (by kernel_rfl) ?_ _
        rw [HTK.out] at K3
        clear hrun hown' hgrow hob K2 hiff
        go_wp2_with fail
        go_roundw
        case rel => exact ⟨k + 1, _, by go_num, by omega, K3⟩
        case measure => simp [intOf]; omega
      · refine held_enter (some 18) rfl rfl 86 #[.string s] (exec_call1 86 (.tmp 17) _ rfl _ rfl rfl) rfl ((textR6_any s _).mono ?_)
        rintro e u1 ⟨rfl, hgc⟩
        have hS1 : u1.cell? ⟨g, off + k, none⟩ = some (.string s) := hgc.cell hS0 (by simp)
        have K1 := K0.kept hgc
        refine ⟨_, rfl, hS1, ?_⟩
        simp only [Act.put, List.setIfInBounds_toArray, List.set_cons_zero, List.set_cons_succ]
        refine held_two (i := 1) (j := 7) (by kernel_rfl) ?_ ?_
        · refine held_value (some 13) rfl rfl (.slice vA k vc) (exec_load1 43 (.tmp 12) rfl _ rfl _ _ Tryz.underlying43 rfl (K1.blk.cell 2)) rfl hS1 ?_
          simp only [Act.put, List.setIfInBounds_toArray, List.set_cons_zero, List.set_cons_succ]
          refine held_one (i := 7) (by kernel_rfl) ?_
          have hS2 : (u1.alloc (.cells #[.bool false, .string s, .slice none 0 0] 45)).cell? ⟨g, off + k, none⟩ = some (.string s) := (only_alloc (World.grownBy.refl u1 none) _).cell hS1 (by simp)
          refine held_value (some 19) rfl rfl (.slice (some ⟨u1.heap.size, 0, none⟩) 1 1) (by go_simp <;> rfl) rfl hS2 ?_
          simp only [Act.put, List.setIfInBounds_toArray, List.set_cons_zero, List.set_cons_succ]
          have K2 := K1.kept (only_alloc (World.grownBy.refl u1 none) (.cells #[.bool false, .string s, .slice none 0 0] 45))
          obtain ⟨i0, hi, hz0, hzs, hzb⟩ := info_parts item_info
          obtain ⟨v', u2, hrun, hown', hgrow, hiff, hob⟩ := run_append_own_at (P := Tryz.prog) (u1.alloc (.cells #[.bool false, .string s, .slice none 0 0] 45)) (b3 + 1) 43 43 45 i0 _ 3 48 Tryz.underlying43 hi hz0 hzs hzb rfl (by decide) (.slice vA k vc) k (txtV (xs.take k)) K2.own ⟨u1.heap.size, 0, none⟩ 1 1 [.bool false, .string s, .slice none 0 0] rfl (cell_three_new _ _ _ _ _) (by simp [Value.oneCell']) (by simp only [maxLen]; omega) (by omega) K2.size
          have hS3 : u2.cell? ⟨g, off + k, none⟩ = some (.string s) := hgrow.cell hS2 (fun e => by have e2 : b3 + 1 ≤ g := ownBlock_ge K2.own e.symm; omega)
          obtain ⟨g', cap', rfl⟩ := ownsRow_succ hown'
          have K3 := K2.put hown' hgrow
          refine held_one (i := 8) (by kernel_rfl) ?_
          refine held_value (some 20) rfl rfl (.slice (some ⟨g', 0, none⟩) (k + 1) cap') (exec_append (.tmp 13) (.tmp 19) 43 rfl _ _ _ rfl rfl hrun) rfl hS3 ?_
          simp only [Act.put, List.setIfInBounds_toArray, List.set_cons_zero, List.set_cons_succ]
          refine held_one (i := 9) (by kernel_rfl) ?_
          refine held_value (some 21) rfl rfl (.pointer (some ⟨b3, 2, none⟩)) (by go_simp <;> rfl) rfl hS3 ?_
          simp only [Act.put, List.setIfInBounds_toArray, List.set_cons_zero, List.set_cons_succ]
          refine held_one (i := 10) (by kernel_rfl) ?_
          have hS4 : (u2.setCell ⟨b3, 2, none⟩ (.slice (some ⟨g', 0, none⟩) (k + 1) cap')).cell? ⟨g, off + k, none⟩ = some (.string s) := by rw [World.cell?_setCell_far _ _ _ _ (by show b3 ≠ g; omega)]; exact hS3
          refine held_store rfl rfl (exec_store1 (.tmp 21) (.tmp 20) rfl rfl rfl (K2.blk.grown hgrow (fun e => by have := ownBlock_ge K2.own e.symm; omega)) (by simp)) hS4 ?_
          simp only [Act.put, List.setIfInBounds_toArray, List.set_cons_zero, List.set_cons_succ]
          refine wpAnyH_done (by kernel_rfl) ?_ _
          rw [HTK.out] at K3
          clear hrun hown' hgrow hob K2 hiff
          go_wp2_with fail
          go_roundw
          case rel => exact ⟨k + 1, _, by go_num, by omega, K3⟩
          case measure => simp [intOf]; omega
        · have hS2 : (u1.alloc (.cells #[.bool false, .string s, .slice none 0 0] 45)).cell? ⟨g, off + k, none⟩ = some (.string s) := (only_alloc (World.grownBy.refl u1 none) _).cell hS1 (by simp)
          refine held_value (some 19) rfl rfl (.slice (some ⟨u1.heap.size, 0, none⟩) 1 1) (by go_simp <;> rfl) rfl hS2 ?_
          simp only [Act.put, List.setIfInBounds_toArray, List.set_cons_zero, List.set_cons_succ]
          have K2 := K1.kept (only_alloc (World.grownBy.refl u1 none) (.cells #[.bool false, .string s, .slice none 0 0] 45))
          refine held_one (i := 1) (by kernel_rfl) ?_
          refine held_value (some 13) rfl rfl (.slice vA k vc) (exec_load1 43 (.tmp 12) rfl _ rfl _ _ Tryz.underlying43 rfl (K2.blk.cell 2)) rfl hS2 ?_
          simp only [Act.put, List.setIfInBounds_toArray, List.set_cons_zero, List.set_cons_succ]
          obtain ⟨i0, hi, hz0, hzs, hzb⟩ := info_parts item_info
          obtain ⟨v', u2, hrun, hown', hgrow, hiff, hob⟩ := run_append_own_at (P := Tryz.prog) (u1.alloc (.cells #[.bool false, .string s, .slice none 0 0] 45)) (b3 + 1) 43 43 45 i0 _ 3 48 Tryz.underlying43 hi hz0 hzs hzb rfl (by decide) (.slice vA k vc) k (txtV (xs.take k)) K2.own ⟨u1.heap.size, 0, none⟩ 1 1 [.bool false, .string s, .slice none 0 0] rfl (cell_three_new _ _ _ _ _) (by simp [Value.oneCell']) (by simp only [maxLen]; omega) (by omega) K2.size
          have hS3 : u2.cell? ⟨g, off + k, none⟩ = some (.string s) := hgrow.cell hS2 (fun e => by have e2 : b3 + 1 ≤ g := ownBlock_ge K2.own e.symm; omega)
          obtain ⟨g', cap', rfl⟩ := ownsRow_succ hown'
          have K3 := K2.put hown' hgrow
          refine held_one (i := 8) (by kernel_rfl) ?_
          refine held_value (some 20) rfl rfl (.slice (some ⟨g', 0, none⟩) (k + 1) cap') (exec_append (.tmp 13) (.tmp 19) 43 rfl _ _ _ rfl rfl hrun) rfl hS3 ?_
          simp only [Act.put, List.setIfInBounds_toArray, List.set_cons_zero, List.set_cons_succ]
          refine held_one (i := 9) (by kernel_rfl) ?_
          refine held_value (some 21) rfl rfl (.pointer (some ⟨b3, 2, none⟩)) (by go_simp <;> rfl) rfl hS3 ?_
          simp only [Act.put, List.setIfInBounds_toArray, List.set_cons_zero, List.set_cons_succ]
          refine held_one (i := 10) (by kernel_rfl) ?_
          have hS4 : (u2.setCell ⟨b3, 2, none⟩ (.slice (some ⟨g', 0, none⟩) (k + 1) cap')).cell? ⟨g, off + k, none⟩ = some (.string s) := by rw [World.cell?_setCell_far _ _ _ _ (by show b3 ≠ g; omega)]; exact hS3
          refine held_store rfl rfl (exec_store1 (.tmp 21) (.tmp 20) rfl rfl rfl (K2.blk.grown hgrow (fun e => by have := ownBlock_ge K2.own e.symm; omega)) (by simp)) hS4 ?_
          simp only [Act.put, List.setIfInBounds_toArray, List.set_cons_zero, List.set_cons_succ]
          refine wpAnyH_done (by kernel_rfl) ?_ _
          rw [HTK.out] at K3
          clear hrun hown' hgrow hob K2 hiff
          go_wp2_with fail
          go_roundw
          case rel => exact ⟨k + 1, _, by go_num, by omega, K3⟩
          case measure => simp [intOf]; omega

    · obtain rfl : k = n := by omega
      have hfin : decide ((k : Int) < (k : Int)) = false := by simp
      clear h h0
      have hRB := HRB.out.grown K0.grown (by simp)
      obtain ⟨vA, vc, rfl⟩ := own_slice3 K0.own
      have hle : w.heap.size ≤ b := by have := HW.out; omega
      have hb3 : b + 1 ≤ b3 := by have := HZB.out; omega
      have ht : xs.take k = xs := List.take_of_length_le (by have := HL.out; omega)
      have hS := txt_sub HL.out (ht ▸ K0.own)
      have HS5 := Lib.hid (SubV.weak (sub_set3 (g := b) hS (by omega) (.bool true) (.string ⟨#[]⟩) (.slice vA k vc)) (fun g (hg : b3 + 1 ≤ g) => (show w.heap.size ≤ g by omega)))
      have HG5 := Lib.hid (only_set (only_set (only_set (grown_self HG.out K0.grown (by simp)) (p := ⟨b, 0, none⟩) hle (.bool true)) (p := ⟨b, 1, none⟩) hle (.string ⟨#[]⟩)) (p := ⟨b, 2, none⟩) hle (.slice vA k vc))
      have HB5 := Lib.hid (((hRB.set_ 0 (.bool true)).set_ 1 (.string ⟨#[]⟩)).set_ 2 (.slice vA k vc))
      have c0 := hRB.cell 0; have c1 := hRB.cell 1; have c2 := hRB.cell 2
      have d0 := hRB.frozen 0; have d1 := hRB.frozen 1; have d2 := hRB.frozen 2
      have e0 := K0.blk.cell 0; have e1 := K0.blk.cell 1; have e2 := K0.blk.cell 2
      simp only [List.getElem?_toArray, List.getElem?_cons_zero, List.getElem?_cons_succ] at c0 c1 c2 e0 e1 e2
      clear K0 hle hb3 ht hS hRB hk hlt
      go_wp2_with fail
      refine bodyPost_ret (results_cell1 (fn := Tryz.f87) rfl _ _ _ _ rfl (load_itemF HB5.out)) rfl ?_
      exact ⟨_, _, rfl, HS5.out, HG5.out⟩
end Go.Proofs.YthalohloneojlaaGreatDoor
