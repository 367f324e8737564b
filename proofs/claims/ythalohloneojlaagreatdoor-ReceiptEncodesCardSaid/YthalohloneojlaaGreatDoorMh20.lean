/- Merged: RcpM, RcpN, RlpL, UnlA0, UnlA. -/
import Derived.Test.YthalohloneojlaaGreatDoorMh2
import Derived.Test.YthalohloneojlaaGreatDoorMh4
import Derived.Test.YthalohloneojlaaGreatDoorMh5
import Derived.Test.YthalohloneojlaaGreatDoorMh10
import Derived.Test.YthalohloneojlaaGreatDoorMh11
import Derived.Test.YthalohloneojlaaGreatDoorMh18
import Derived.Test.YthalohloneojlaaGreatDoorMh19
import Derived.Deep.DeepCutAuto
/- Receipts: works. -/
namespace Go.Proofs.YthalohloneojlaaGreatDoor
open Go.RowKit Go.Shelf
set_option linter.unusedVariables false
set_option linter.unusedSimpArgs false

theorem logs_none (B : Nat) (w : World) (A : Option Addr) : LogsR B w [] A 0 := ⟨rfl, fun h => by omega⟩
theorem rcpC_0 (v : Value) : rcpC Rcp.zero v = #[.int .i64 0, .bool false, .int .u64 0, v, .bool false, .int .u64 0, .int .u64 0] := rfl
theorem rcpC_D (v : Value) : rcpC rcD v = #[.int .i64 126, .bool true, .int .u64 5, v, .bool true, .int .u64 7, .int .u64 1] := rfl
theorem rcpC_F (v : Value) : rcpC rcF v = #[.int .i64 0, .bool false, .int .u64 0, v, .bool true, .int .u64 0, .int .u64 0] := rfl
set_option maxRecDepth 100000 in
set_option maxHeartbeats 8000000 in
theorem worksRc_any (w : World) (hv : ErrLaid w) : Calls Tryz.prog 8 #[] w fun e w' => e = .returned (.bool true) ∧ w.grownBy w' none := by
  have hp1 := fun V => encodeRc_any Rcp.zero ⟨by decide, by decide, by decide⟩ 0 none 0 0 V (logs_none _ _ _) (Nat.zero_le _) (by decide)
  have hp2 := fun V A c => encodeRc_any rcD ⟨by decide, by decide, by decide⟩ 0 A 0 c V (logs_none _ _ _) (Nat.zero_le _) (by decide)
  have hp3 := fun V => encodeRc_any rcF ⟨by decide, by decide, by decide⟩ 0 none 0 0 V (logs_none _ _ _) (Nat.zero_le _) (by decide)
  rw [wk_1.1, wk_1.2] at hp1
  rw [wk_3.1, wk_3.2] at hp2
  rw [wk_5] at hp3
  have hd1 := fun V (hV : w.grownBy V none) => decodeRc_any ⟨#[195, 128, 128, 192]⟩ (by decide) V (hv.kept hV (by simp))
  have hd2 := fun V (hV : w.grownBy V none) => decodeRc_any ⟨#[126, 197, 1, 5, 192, 7, 1]⟩ (by decide) V (hv.kept hV (by simp))
  have hd3 := fun V (hV : w.grownBy V none) => decodeRc_any ⟨#[3, 192]⟩ (by decide) V (hv.kept hV (by simp))
  rw [show getR (⟨#[195, 128, 128, 192]⟩ : ByteArray).data.toList = (0, Rcp.zero) from wk_2] at hd1
  rw [show getR (⟨#[126, 197, 1, 5, 192, 7, 1]⟩ : ByteArray).data.toList = (0, rcD) from wk_4] at hd2
  rw [show getR (⟨#[3, 192]⟩ : ByteArray).data.toList = (9, Rcp.zero) from wk_6] at hd3
  obtain ⟨LF, hLF⟩ : ∃ L, (⟨(putRcL rcF).toArray⟩ : ByteArray) = L := ⟨_, rfl⟩
  rw [hLF] at hp3
  have hs1 := fun V A c => sameRc_any Rcp.zero Rcp.zero 0 0 A none 0 0 c 0 V (logs_none _ _ _) (logs_none _ _ _) (Nat.zero_le _) (Nat.zero_le _) (by decide) (by decide)
  have hs2 := fun V A c => sameRc_any rcD rcD 0 0 A none 0 0 c 0 V (logs_none _ _ _) (logs_none _ _ _) (Nat.zero_le _) (Nat.zero_le _) (by decide) (by decide)
  have hs3 := fun V A c A' c' => sameRc_any Rcp.zero rcD 0 0 A A' 0 0 c c' V (logs_none _ _ _) (logs_none _ _ _) (Nat.zero_le _) (Nat.zero_le _) (by decide) (by decide)
  rw [eqB_t rfl] at hs1 hs2
  rw [eqB_f wk_8] at hs3
  have hf1 := fun V A c => formRc_any rcD (.slice A 0 c) ⟨_, _, _, rfl⟩ V
  have hf2 := fun V A c => formRc_any Rcp.zero (.slice A 0 c) ⟨_, _, _, rfl⟩ V
  rw [wk_7.2.1] at hf1
  rw [wk_7.2.2] at hf2
  have hc1 := fun V A c => checkRc_any rcD 0 A 0 c V (logs_none _ _ _) (Nat.zero_le _) (by decide)
  rw [wk_7.1] at hc1
  simp only [rcpC_0, rcpC_D, rcpC_F] at hp1 hp2 hp3 hs1 hs2 hs3 hf1 hf2 hc1
  unfold RcEnd at hd1 hd2 hd3
  simp only [rcpC_0, rcpC_D] at hd1 hd2 hd3
  have HP1 := Lib.hid hp1; have HP2 := Lib.hid hp2; have HP3 := Lib.hid hp3
  have HD1 := Lib.hid hd1; have HD2 := Lib.hid hd2; have HD3 := Lib.hid hd3
  have HS1 := Lib.hid hs1; have HS2 := Lib.hid hs2; have HS3 := Lib.hid hs3
  have HF1 := Lib.hid hf1; have HF2 := Lib.hid hf2; have HC1 := Lib.hid hc1
  clear hp1 hp2 hp3 hd1 hd2 hd3 hs1 hs2 hs3 hf1 hf2 hc1 hLF hv
  go_enter Tryz.func8, Tryz.ntmps8
  go_wp2_with fail
  refine (HP1.out _).mono ?_
  rintro e w1 ⟨rfl, hg1⟩
  have HG1 := Lib.hid hg1
  clear hg1 HP1
  go_wp2_with fail
  refine (HD1.out _ HG1.out).mono ?_
  rintro e w2 ⟨A, n, c, rfl, hl2, hg2⟩
  obtain rfl : 0 = n := hl2.1
  have hbx := (Blk.new w2 25 #[.int .i64 0, .bool false, .int .u64 0, .slice A 0 c, .bool false, .int .u64 0, .int .u64 0]).alloc (.cells #[.int .i64 126, .bool true, .int .u64 5, .slice none 0 0, .bool true, .int .u64 7, .int .u64 1] 25)
  have hbd := Blk.new (w2.alloc (.cells #[.int .i64 0, .bool false, .int .u64 0, .slice A 0 c, .bool false, .int .u64 0, .int .u64 0] 25)) 25 #[.int .i64 126, .bool true, .int .u64 5, .slice none 0 0, .bool true, .int .u64 7, .int .u64 1]
  rw [World.size_alloc] at hbd
  have HG3 := Lib.hid (only_alloc (only_alloc (grown_self HG1.out hg2 (by simp)) (.cells #[.int .i64 0, .bool false, .int .u64 0, .slice A 0 c, .bool false, .int .u64 0, .int .u64 0] 25)) (.cells #[.int .i64 126, .bool true, .int .u64 5, .slice none 0 0, .bool true, .int .u64 7, .int .u64 1] 25))
  obtain ⟨xb, hxb⟩ : ∃ b, w2.heap.size = b := ⟨_, rfl⟩
  rw [hxb] at hbx hbd
  have HX := Lib.hid hbx; have HDD := Lib.hid hbd
  clear hbx hbd hl2 hg2 HG1 HD1
  go_upto_region 4 with (fail)
  clear hxb
  generalize (w2.alloc (.cells #[.int .i64 0, .bool false, .int .u64 0, .slice A 0 c, .bool false, .int .u64 0, .int .u64 0] 25)).alloc (.cells #[.int .i64 126, .bool true, .int .u64 5, .slice none 0 0, .bool true, .int .u64 7, .int .u64 1] 25) = w3 at *
  have d0 := HDD.out.cell 0; have d1 := HDD.out.cell 1; have d2 := HDD.out.cell 2; have d3 := HDD.out.cell 3; have d4 := HDD.out.cell 4; have d5 := HDD.out.cell 5; have d6 := HDD.out.cell 6
  simp only [List.getElem?_toArray, List.getElem?_cons_zero, List.getElem?_cons_succ] at d0 d1 d2 d3 d4 d5 d6
  go_wp2_with fail
  refine (HP2.out _ _ _).mono ?_
  rintro e w4 ⟨rfl, hg4⟩
  have HG4 := Lib.hid (grown_self HG3.out hg4 (by simp))
  have HX4 := Lib.hid (HX.out.grown hg4 (by simp)); have HDD4 := Lib.hid (HDD.out.grown hg4 (by simp))
  clear hg4 HG3 HX HDD d0 d1 d2 d3 d4 d5 d6 HP2
  go_wp2_with fail
  refine (HD2.out _ HG4.out).mono ?_
  rintro e w5 ⟨A', n', c', rfl, hl5, hg5⟩
  obtain rfl : 0 = n' := hl5.1
  have hby := Blk.new w5 25 #[.int .i64 126, .bool true, .int .u64 5, .slice A' 0 c', .bool true, .int .u64 7, .int .u64 1]
  have hgy := only_alloc (World.grownBy.refl w5 none) (.cells #[.int .i64 126, .bool true, .int .u64 5, .slice A' 0 c', .bool true, .int .u64 7, .int .u64 1] 25)
  have HG6 := Lib.hid (grown_self (grown_self HG4.out hg5 (by simp)) hgy (by simp))
  have HX6 := Lib.hid ((HX4.out.grown hg5 (by simp)).grown hgy (by simp)); have HDD6 := Lib.hid ((HDD4.out.grown hg5 (by simp)).grown hgy (by simp))
  obtain ⟨yb, hyb⟩ : ∃ b, w5.heap.size = b := ⟨_, rfl⟩
  rw [hyb] at hby
  have HY6 := Lib.hid hby
  clear hby hgy hg5 hl5 HG4 HX4 HDD4 HD2
  go_upto_region 6 with (fail)
  clear hyb
  generalize w5.alloc (.cells #[.int .i64 126, .bool true, .int .u64 5, .slice A' 0 c', .bool true, .int .u64 7, .int .u64 1] 25) = w6 at *
  go_wp2_with fail
  refine (HP3.out _).mono ?_
  rintro e w7 ⟨rfl, hg7⟩
  have HG7 := Lib.hid (grown_self HG6.out hg7 (by simp))
  have HX7 := Lib.hid (HX6.out.grown hg7 (by simp)); have HDD7 := Lib.hid (HDD6.out.grown hg7 (by simp)); have HY7 := Lib.hid (HY6.out.grown hg7 (by simp))
  clear hg7 HG6 HX6 HDD6 HY6 HP3
  go_wp2_with fail
  refine (HD3.out _ HG7.out).mono ?_
  rintro e w8 ⟨A8, n8, c8, rfl, hl8, hg8⟩
  obtain rfl : 0 = n8 := hl8.1
  have hgz := only_alloc (World.grownBy.refl w8 none) (.cells #[.int .i64 0, .bool false, .int .u64 0, .slice A8 0 c8, .bool false, .int .u64 0, .int .u64 0] 25)
  have HG9 := Lib.hid (grown_self (grown_self HG7.out hg8 (by simp)) hgz (by simp))
  have HX9 := Lib.hid ((HX7.out.grown hg8 (by simp)).grown hgz (by simp)); have HDD9 := Lib.hid ((HDD7.out.grown hg8 (by simp)).grown hgz (by simp)); have HY9 := Lib.hid ((HY7.out.grown hg8 (by simp)).grown hgz (by simp))
  clear hgz hg8 hl8 HG7 HX7 HDD7 HY7 HD3
  go_upto_region 8 with (fail)
  generalize w8.alloc (.cells #[.int .i64 0, .bool false, .int .u64 0, .slice A8 0 c8, .bool false, .int .u64 0, .int .u64 0] 25) = w9 at *
  have xc0 := HX9.out.cell 0; have xc1 := HX9.out.cell 1; have xc2 := HX9.out.cell 2; have xc3 := HX9.out.cell 3; have xc4 := HX9.out.cell 4; have xc5 := HX9.out.cell 5; have xc6 := HX9.out.cell 6
  simp only [List.getElem?_toArray, List.getElem?_cons_zero, List.getElem?_cons_succ] at xc0 xc1 xc2 xc3 xc4 xc5 xc6
  go_wp2_with fail
  refine (HS1.out _ _ _).mono ?_
  rintro e w10 ⟨rfl, hg10⟩
  have HG10 := Lib.hid (grown_self HG9.out hg10 (by simp))
  have HX10 := Lib.hid (HX9.out.grown hg10 (by simp)); have HDD10 := Lib.hid (HDD9.out.grown hg10 (by simp)); have HY10 := Lib.hid (HY9.out.grown hg10 (by simp))
  clear hg10 HG9 HX9 HDD9 HY9 xc0 xc1 xc2 xc3 xc4 xc5 xc6
  have yc0 := HY10.out.cell 0; have yc1 := HY10.out.cell 1; have yc2 := HY10.out.cell 2; have yc3 := HY10.out.cell 3; have yc4 := HY10.out.cell 4; have yc5 := HY10.out.cell 5; have yc6 := HY10.out.cell 6
  have dc0 := HDD10.out.cell 0; have dc1 := HDD10.out.cell 1; have dc2 := HDD10.out.cell 2; have dc3 := HDD10.out.cell 3; have dc4 := HDD10.out.cell 4; have dc5 := HDD10.out.cell 5; have dc6 := HDD10.out.cell 6
  simp only [List.getElem?_toArray, List.getElem?_cons_zero, List.getElem?_cons_succ] at yc0 yc1 yc2 yc3 yc4 yc5 yc6 dc0 dc1 dc2 dc3 dc4 dc5 dc6
  go_wp2_with fail
  refine (HS2.out _ _ _).mono ?_
  rintro e w11 ⟨rfl, hg11⟩
  have HG11 := Lib.hid (grown_self HG10.out hg11 (by simp))
  have HX11 := Lib.hid (HX10.out.grown hg11 (by simp)); have HDD11 := Lib.hid (HDD10.out.grown hg11 (by simp)); have HY11 := Lib.hid (HY10.out.grown hg11 (by simp))
  clear hg11 HG10 HX10 HDD10 HY10 yc0 yc1 yc2 yc3 yc4 yc5 yc6 dc0 dc1 dc2 dc3 dc4 dc5 dc6
  have dc0 := HDD11.out.cell 0; have dc1 := HDD11.out.cell 1; have dc2 := HDD11.out.cell 2; have dc3 := HDD11.out.cell 3; have dc4 := HDD11.out.cell 4; have dc5 := HDD11.out.cell 5; have dc6 := HDD11.out.cell 6
  simp only [List.getElem?_toArray, List.getElem?_cons_zero, List.getElem?_cons_succ] at dc0 dc1 dc2 dc3 dc4 dc5 dc6
  go_wp2_with fail
  refine (HF1.out _ _ _).mono ?_
  rintro e w12 ⟨rfl, hg12⟩
  have HG12 := Lib.hid (grown_self HG11.out hg12 (by simp))
  have HX12 := Lib.hid (HX11.out.grown hg12 (by simp)); have HDD12 := Lib.hid (HDD11.out.grown hg12 (by simp)); have HY12 := Lib.hid (HY11.out.grown hg12 (by simp))
  clear hg12 HG11 HX11 HDD11 HY11 dc0 dc1 dc2 dc3 dc4 dc5 dc6
  have xc0 := HX12.out.cell 0; have xc1 := HX12.out.cell 1; have xc2 := HX12.out.cell 2; have xc3 := HX12.out.cell 3; have xc4 := HX12.out.cell 4; have xc5 := HX12.out.cell 5; have xc6 := HX12.out.cell 6
  simp only [List.getElem?_toArray, List.getElem?_cons_zero, List.getElem?_cons_succ] at xc0 xc1 xc2 xc3 xc4 xc5 xc6
  go_wp2_with fail
  refine (HF2.out _ _ _).mono ?_
  rintro e w13 ⟨rfl, hg13⟩
  have HG13 := Lib.hid (grown_self HG12.out hg13 (by simp))
  have HX13 := Lib.hid (HX12.out.grown hg13 (by simp)); have HDD13 := Lib.hid (HDD12.out.grown hg13 (by simp)); have HY13 := Lib.hid (HY12.out.grown hg13 (by simp))
  clear hg13 HG12 HX12 HDD12 HY12 xc0 xc1 xc2 xc3 xc4 xc5 xc6
  have dc0 := HDD13.out.cell 0; have dc1 := HDD13.out.cell 1; have dc2 := HDD13.out.cell 2; have dc3 := HDD13.out.cell 3; have dc4 := HDD13.out.cell 4; have dc5 := HDD13.out.cell 5; have dc6 := HDD13.out.cell 6
  simp only [List.getElem?_toArray, List.getElem?_cons_zero, List.getElem?_cons_succ] at dc0 dc1 dc2 dc3 dc4 dc5 dc6
  go_wp2_with fail
  refine (HC1.out _ _ _).mono ?_
  rintro e w14 ⟨rfl, hg14⟩
  have HG14 := Lib.hid (grown_self HG13.out hg14 (by simp))
  have HX14 := Lib.hid (HX13.out.grown hg14 (by simp)); have HDD14 := Lib.hid (HDD13.out.grown hg14 (by simp)); have HY14 := Lib.hid (HY13.out.grown hg14 (by simp))
  clear hg14 HG13 HX13 HDD13 HY13 dc0 dc1 dc2 dc3 dc4 dc5 dc6
  have xc0 := HX14.out.cell 0; have xc1 := HX14.out.cell 1; have xc2 := HX14.out.cell 2; have xc3 := HX14.out.cell 3; have xc4 := HX14.out.cell 4; have xc5 := HX14.out.cell 5; have xc6 := HX14.out.cell 6
  have yc0 := HY14.out.cell 0; have yc1 := HY14.out.cell 1; have yc2 := HY14.out.cell 2; have yc3 := HY14.out.cell 3; have yc4 := HY14.out.cell 4; have yc5 := HY14.out.cell 5; have yc6 := HY14.out.cell 6
  simp only [List.getElem?_toArray, List.getElem?_cons_zero, List.getElem?_cons_succ] at xc0 xc1 xc2 xc3 xc4 xc5 xc6 yc0 yc1 yc2 yc3 yc4 yc5 yc6
  go_wp2_with fail
  refine (HS3.out _ _ _ _ _).mono ?_
  rintro e w15 ⟨rfl, hg15⟩
  have HG15 := Lib.hid (grown_self HG14.out hg15 (by simp))
  have HX15 := Lib.hid (HX14.out.grown hg15 (by simp)); have HDD15 := Lib.hid (HDD14.out.grown hg15 (by simp)); have HY15 := Lib.hid (HY14.out.grown hg15 (by simp))
  clear hg15 HG14 HX14 HDD14 HY14 xc0 xc1 xc2 xc3 xc4 xc5 xc6 yc0 yc1 yc2 yc3 yc4 yc5 yc6
  go_wp2_with fail
  go_ret
  exact ⟨rfl, HG15.out⟩
end Go.Proofs.YthalohloneojlaaGreatDoor
/- Receipts: whether one is so small that it is looked at (the document's Few). -/
namespace Go.Proofs.YthalohloneojlaaGreatDoor
open Go.RowKit Go.Shelf
set_option linter.unusedVariables false
set_option linter.unusedSimpArgs false

/-- a log of a row, by its cells -/
theorem LogsR.at_ {B : Nat} {W : World} {ls : List LogV} {A : Option Addr} {n k : Nat} (h : LogsR B W ls A n) (hk : k < n) : ∃ g off T tc x, A = some ⟨g, off, none⟩ ∧ ls.getD k LogV.none_ = x ∧ W.cell? ⟨g, off + k * 3, none⟩ = some (.string x.addr) ∧ W.cell? ⟨g, off + k * 3 + 1, none⟩ = some (.slice T x.topics.length tc) ∧ W.cell? ⟨g, off + k * 3 + 2, none⟩ = some (.string x.data) ∧ Reads W B 1 T x.topics.length (x.topics.map Value.string) ∧ x.topics.length ≤ 9223372036854775807 := by
  obtain ⟨g, off, hA, _, hc⟩ := h.2 (by omega)
  obtain ⟨T, tc, a, b, c, d, e, _⟩ := hc k hk
  exact ⟨g, off, T, tc, _, hA, rfl, a, b, c, d, e⟩
/-- small: no log's bytes are between -/
def FewP (x : Rcp) : Prop := ∀ l ∈ x.logs, l.data.size ≤ 300 ∨ 4096 < l.data.size
set_option maxRecDepth 100000 in
set_option maxHeartbeats 4000000 in
theorem fewRc_any (x : Rcp) (B : Nat) (A : Option Addr) (n c : Nat) (w : World) (h : LogsR B w x.logs A n) (hB : B ≤ w.heap.size) (hn : n ≤ 9223372036854775807) :
    Calls Tryz.prog 9 #[.agg (rcpC x (.slice A n c))] w fun e w' => (∃ b, e = .returned (.bool b) ∧ (b = true → FewP x)) ∧ w.grownBy w' none := by
  have hG := only_alloc (World.grownBy.refl w none) (.cells (rcpC x (.slice A n c)) 25)
  have hb := Blk.new w 25 (rcpC x (.slice A n c))
  have hR := h.grown hG hB
  obtain ⟨kind, status, gas, ls, full, nonce, version⟩ := x
  simp only [rcpC] at *
  have HG := Lib.hid hG
  obtain ⟨g, hg⟩ : ∃ g, w.heap.size = g := ⟨_, rfl⟩
  rw [hg] at hb
  clear h hB hG
  go_enter Tryz.func9, Tryz.ntmps9
  go_upto_region 1 with (fail)
  clear hg
  generalize w.alloc (.cells #[.int .i64 kind, .bool status, .int .u64 (gas : Int), .slice A n c, .bool full, .int .u64 (nonce : Int), .int .u64 (version : Int)] 25) = w1 at *
  have b3 := hb.cell 3
  simp only [List.getElem?_toArray, List.getElem?_cons_zero, List.getElem?_cons_succ] at b3
  clear hb
  have HR := Lib.hid hR
  clear hR
  by_cases hbig : 20 < n
  · have q : (20 : Int) < (n : Int) := by omega
    go_wp2_with fail
    go_ret
    exact ⟨⟨_, rfl, fun h => by cases h⟩, HG.out⟩
  have q : decide ((20 : Int) < (n : Int)) = false := decide_eq_false (by omega)
  clear hbig
  go_wp2_with fail
  clear q
  go_loopw [3] (fun i wr => ∃ k : Nat, i = .int .i64 k ∧ k ≤ n ∧ w1 = wr ∧ Hid (∀ i, i < k → (ls.getD i LogV.none_).data.size ≤ 300 ∨ 4096 < (ls.getD i LogV.none_).data.size)) (fun i _ => n - (intOf i).toNat)
  case atStart => exact ⟨0, rfl, by omega, rfl, Lib.hid fun i hi => by omega⟩
  case round =>
    obtain ⟨k, rfl, hk, rfl, hf⟩ := hrel
    have HF := Lib.hid hf.out
    clear hf
    by_cases hlt : k < n
    · obtain ⟨gg, off, T, tc, l, rfl, hlk, c0, c1, c2, hr, hm⟩ := HR.out.at_ hlt
      have HLK := Lib.hid hlk
      have q1 : (k : Int) < (n : Int) := by omega
      have HL := Lib.hid hlt
      have HRT := Lib.hid hr
      clear hr hlt hlk
      obtain ⟨la, lt, ld⟩ := l
      simp only at c0 c1 c2 HRT hm
      have hrow : Hid (∀ j, j < lt.length → ∃ g off, T = some ⟨g, off, none⟩ ∧ w1.cell? ⟨g, off + j, none⟩ = some (.string (lt.getD j .empty))) := Lib.hid fun j hj => by
        obtain ⟨q, off, hT, _, hc⟩ := Reads.vals Value.string .empty HRT.out hj
        exact ⟨q, off, hT, hc j hj⟩
      clear HRT
      obtain ⟨tn, htn⟩ : ∃ tn, lt.length = tn := ⟨_, rfl⟩
      rw [htn] at hrow c1 hm
      clear htn
      have HTN : Hid (tn ≤ 9223372036854775807) := Lib.hid hm
      clear hm
      obtain ⟨R, hR⟩ : ∃ R, ((decide (300 < ld.size) && decide (ld.size ≤ 4096)) || decide (10 < tn) || decide (100 < la.size)) = R := ⟨_, rfl⟩
      have HRR := Lib.hid hR.symm
      clear hR
      go_upto_region 6 with (fail)
      go_cut [53] (fun v wx => v = .bool R ∧ wx = w1)
      case first =>
        have hr := HRR.out
        by_cases p1 : 300 < ld.size
        · have q2 : (300 : Int) < (ld.size : Int) := by omega
          rw [decide_eq_true p1] at hr
          by_cases p2 : ld.size ≤ 4096
          · have q3 : (ld.size : Int) ≤ 4096 := by omega
            obtain rfl : R = true := by rw [hr, decide_eq_true p2]; rfl
            clear p1 p2 hr HRR hrow
            go_wp2_with fail
            go_meet
            exact ⟨rfl, rfl⟩
          · have q3 : decide ((ld.size : Int) ≤ 4096) = false := decide_eq_false (by omega)
            rw [decide_eq_false p2] at hr
            by_cases p3 : 10 < tn
            · have q4 : (10 : Int) < (tn : Int) := by omega
              obtain rfl : R = true := by rw [hr, decide_eq_true p3]; rfl
              clear p1 p2 p3 hr HRR hrow
              go_wp2_with fail
              go_meet
              exact ⟨rfl, rfl⟩
            · have q4 : decide ((10 : Int) < (tn : Int)) = false := decide_eq_false (by omega)
              rw [decide_eq_false p3] at hr
              by_cases p4 : 100 < la.size
              · have q5 : (100 : Int) < (la.size : Int) := by omega
                obtain rfl : R = true := by rw [hr, decide_eq_true p4]; rfl
                clear p1 p2 p3 p4 hr HRR hrow
                go_wp2_with fail
                go_meet
                exact ⟨rfl, rfl⟩
              · have q5 : decide ((100 : Int) < (la.size : Int)) = false := decide_eq_false (by omega)
                obtain rfl : R = false := by rw [hr, decide_eq_false p4]; rfl
                clear p1 p2 p3 p4 hr HRR hrow
                go_wp2_with fail
                go_meet
                exact ⟨rfl, rfl⟩
        · have q2 : decide ((300 : Int) < (ld.size : Int)) = false := decide_eq_false (by omega)
          rw [decide_eq_false p1] at hr
          by_cases p3 : 10 < tn
          · have q4 : (10 : Int) < (tn : Int) := by omega
            obtain rfl : R = true := by rw [hr, decide_eq_true p3]; rfl
            clear p1 p3 hr HRR hrow
            go_wp2_with fail
            go_meet
            exact ⟨rfl, rfl⟩
          · have q4 : decide ((10 : Int) < (tn : Int)) = false := decide_eq_false (by omega)
            rw [decide_eq_false p3] at hr
            by_cases p4 : 100 < la.size
            · have q5 : (100 : Int) < (la.size : Int) := by omega
              obtain rfl : R = true := by rw [hr, decide_eq_true p4]; rfl
              clear p1 p3 p4 hr HRR hrow
              go_wp2_with fail
              go_meet
              exact ⟨rfl, rfl⟩
            · have q5 : decide ((100 : Int) < (la.size : Int)) = false := decide_eq_false (by omega)
              obtain rfl : R = false := by rw [hr, decide_eq_false p4]; rfl
              clear p1 p3 p4 hr HRR hrow
              go_wp2_with fail
              go_meet
              exact ⟨rfl, rfl⟩
      case rest =>
        obtain ⟨rfl, rfl⟩ := hcut
        clear c0 c2
        have htn := HTN.out
        cases R with
        | true =>
          clear HRR
          go_wp2_with fail
          go_ret
          exact ⟨⟨_, rfl, fun h => by cases h⟩, HG.out⟩
        | false =>
          have HFK : Hid (ld.size ≤ 300 ∨ 4096 < ld.size) := Lib.hid (by
            have h2 := HRR.out.symm
            simp only [Bool.or_eq_false_iff, Bool.and_eq_false_iff, decide_eq_false_iff_not] at h2
            omega)
          clear HRR
          go_wp2_with fail
          go_loopw [4] (fun j wr => ∃ m : Nat, j = .int .i64 m ∧ m ≤ tn ∧ wc = wr) (fun j _ => tn - (intOf j).toNat)
          case atStart => exact ⟨0, rfl, by omega, rfl⟩
          case round =>
            obtain ⟨m, rfl, hm, rfl⟩ := hrel
            by_cases hmt : m < tn
            · obtain ⟨tg, toff, rfl, t0⟩ := hrow.out m hmt
              have q2 : (m : Int) < (tn : Int) := by omega
              generalize lt.getD m .empty = ts at *
              by_cases p5 : 100 < ts.size
              · have q6 : (100 : Int) < (ts.size : Int) := by omega
                clear p5
                go_wp2_with fail
                go_ret
                exact ⟨⟨_, rfl, fun h => by cases h⟩, HG.out⟩
              · have q6 : decide ((100 : Int) < (ts.size : Int)) = false := decide_eq_false (by omega)
                clear p5
                go_wp2_with fail
                first
                | exact ⟨⟨m + 1, by go_num, by omega, by first | rfl | trivial⟩, by simp [intOf]; omega⟩
                | (go_roundw
                   case rel => (repeat apply Exists.intro); exact ⟨⟨m + 1, by go_num, by omega, by first | rfl | trivial⟩, rfl⟩
                   case measure => simp [intOf]; omega)
            · have q2 : decide ((m : Int) < (tn : Int)) = false := decide_eq_false (by omega)
              go_wp2_with fail
              refine ⟨⟨k + 1, by go_num, by have := HL.out; omega, by first | rfl | trivial, Lib.hid fun i hi => ?_⟩, by have := HL.out; simp [intOf]; omega⟩
              by_cases hik : i = k
              · rw [hik, HLK.out]; exact HFK.out
              · exact HF.out i (by omega)
    · have q1 : decide ((k : Int) < (n : Int)) = false := decide_eq_false (by omega)
      go_wp2_with fail
      go_ret
      refine ⟨⟨_, rfl, fun _ l hl => ?_⟩, HG.out⟩
      obtain ⟨i, hi, rfl⟩ := List.getElem_of_mem hl
      have hlen := HR.out.1
      have := HF.out i (by simp only at hi hlen; omega)
      rw [List.getD_eq_getElem?_getD, List.getElem?_eq_getElem (by simpa using hi)] at this
      exact this
end Go.Proofs.YthalohloneojlaaGreatDoor
/- No two items have the same bytes, nor begin another one's: plain laws. -/
namespace Go.Proofs.YthalohloneojlaaGreatDoor
open Go.RowKit Go.Shelf
set_option linter.unusedVariables false
set_option linter.unusedSimpArgs false

/-- a head tells how much there is, and of what -/
theorem headL_inj {n m p q : Nat} {u v : List UInt8} (hn : n ≤ 1000000000) (hm : m ≤ 1000000000) (hp : p = 128 ∨ p = 192) (hq : q = 128 ∨ q = 192) (h : headL n p ++ u = headL m q ++ v) : n = m ∧ p = q ∧ u = v := by
  have l1 := beN_len8 n (by omega)
  have l2 := beN_len8 m (by omega)
  unfold headL at h
  by_cases h1 : n < 56
  · rw [if_pos h1] at h
    by_cases h2 : m < 56
    · rw [if_pos h2] at h
      injection h with h3 h4
      have := u8_inj (by omega) (by omega) h3
      exact ⟨by omega, by omega, h4⟩
    · rw [if_neg h2] at h
      injection h with h3 h4
      have := u8_inj (by omega) (by omega) h3
      have := beN_pos (n := m) (by omega) hm
      omega
  · rw [if_neg h1] at h
    have := beN_pos (n := n) (by omega) hn
    by_cases h2 : m < 56
    · rw [if_pos h2] at h
      injection h with h3 h4
      have := u8_inj (by omega) (by omega) h3
      omega
    · rw [if_neg h2] at h
      have := beN_pos (n := m) (by omega) hm
      injection h with h3 h4
      have := u8_inj (by omega) (by omega) h3
      obtain ⟨h5, h6⟩ := List.append_inj h4 (by omega)
      exact ⟨beN_inj hn hm h5, by omega, h6⟩
theorem headL_first (n p : Nat) (hn : n ≤ 1000000000) (hp : p = 128 ∨ p = 192) : ∃ z l, headL n p = z :: l ∧ p ≤ z.toNat ∧ z.toNat < p + 64 := by
  have l1 := beN_len8 n (by omega)
  unfold headL
  split
  · exact ⟨_, _, rfl, by rw [UInt8.toNat_ofNat']; omega, by rw [UInt8.toNat_ofNat']; omega⟩
  · exact ⟨_, _, rfl, by rw [UInt8.toNat_ofNat']; omega, by rw [UInt8.toNat_ofNat']; omega⟩
theorem bytesT_first (b : ByteArray) (h : b.size ≤ 1000000000) : ∃ z l, bytesT b = z :: l ∧ z.toNat < 192 := by
  unfold bytesT
  split
  · rename_i h1
    have hl : b.data.toList.length = 1 := by rw [Array.length_toList]; exact h1.1
    cases hb : b.data.toList with
    | nil => rw [hb] at hl; cases hl
    | cons z l => rw [hb] at h1; exact ⟨z, l, rfl, Nat.lt_of_lt_of_le h1.2 (by omega)⟩
  · obtain ⟨z, l, e, h1, h2⟩ := headL_first b.size 128 h (.inl rfl)
    exact ⟨z, l ++ b.data.toList, by rw [e]; rfl, h2⟩
theorem bytesT_inj {p q : ByteArray} {u v : List UInt8} (hp : p.size ≤ 1000000000) (hq : q.size ≤ 1000000000) (h : bytesT p ++ u = bytesT q ++ v) : p = q ∧ u = v := by
  have lp : p.data.toList.length = p.size := Array.length_toList
  have lq : q.data.toList.length = q.size := Array.length_toList
  unfold bytesT at h
  by_cases h1 : p.size = 1 ∧ (p.data.toList.getD 0 0).toNat < 128
  · rw [if_pos h1] at h
    by_cases h2 : q.size = 1 ∧ (q.data.toList.getD 0 0).toNat < 128
    · rw [if_pos h2] at h
      obtain ⟨h3, h4⟩ := List.append_inj h (by omega)
      exact ⟨ba_ext h3, h4⟩
    · rw [if_neg h2] at h
      obtain ⟨z, l, e, h3, _⟩ := headL_first q.size 128 hq (.inl rfl)
      rw [e] at h
      cases hb : p.data.toList with
      | nil => rw [hb] at lp; simp at lp; omega
      | cons y r =>
        rw [hb] at h h1
        injection h with h5 _
        subst h5
        have : y.toNat < 128 := h1.2
        omega
  · rw [if_neg h1] at h
    by_cases h2 : q.size = 1 ∧ (q.data.toList.getD 0 0).toNat < 128
    · rw [if_pos h2] at h
      obtain ⟨z, l, e, h3, _⟩ := headL_first p.size 128 hp (.inl rfl)
      rw [e] at h
      cases hb : q.data.toList with
      | nil => rw [hb] at lq; simp at lq; omega
      | cons y r =>
        rw [hb] at h h2
        injection h with h5 _
        subst h5
        have : z.toNat < 128 := h2.2
        omega
    · rw [if_neg h2, List.append_assoc, List.append_assoc] at h
      obtain ⟨h3, _, h4⟩ := headL_inj hp hq (.inl rfl) (.inl rfl) h
      obtain ⟨h5, h6⟩ := List.append_inj h4 (by omega)
      exact ⟨ba_ext h5, h6⟩

/-- what may be has no bytes besides its items, nor items besides its bytes -/
inductive Itm.Form : Itm → Prop
  | text (b : ByteArray) : Itm.Form (.mk false b [])
  | list (xs : List Itm) (h : ∀ x, x ∈ xs → Itm.Form x) : Itm.Form (.mk true ⟨#[]⟩ xs)
theorem size_zero {b : ByteArray} (h : b.size = 0) : b = ⟨#[]⟩ := ba_ext (by
  have : b.data.toList.length = 0 := by rw [Array.length_toList]; exact h
  exact List.eq_nil_of_length_eq_zero this)
mutual
theorem form_of : ∀ (x : Itm) (d : Nat), formF x d = 0 → x.Form
  | .mk l b xs, d, h => by
    rw [formF] at h
    split at h
    · cases h
    rename_i h1
    cases l with
    | false =>
      have : xs = [] := List.eq_nil_of_length_eq_zero (Classical.byContradiction fun h2 => h1 (.inr ⟨rfl, h2⟩))
      subst this
      exact .text b
    | true =>
      have hb := size_zero (b := b) (Classical.byContradiction fun h2 => h1 (.inl ⟨rfl, h2⟩))
      subst hb
      rw [if_neg (by simp)] at h
      split at h
      · cases h
      split at h
      · cases h
      exact .list xs (form_ofL xs (d + 1) h)
theorem form_ofL : ∀ (xs : List Itm) (d : Nat), formL xs d = 0 → ∀ x, x ∈ xs → x.Form
  | [], d, _, x, hx => by cases hx
  | y :: ys, d, h, x, hx => by
    rw [formL] at h
    split at h
    · rename_i h1; exact absurd h h1
    · rename_i h1
      rcases List.mem_cons.1 hx with e | hx
      · rw [e]; exact form_of y d (by simpa using h1)
      · exact form_ofL ys d h x hx
end
theorem wt_mem {xs : List Itm} {x : Itm} (h : x ∈ xs) : wtF x ≤ wtL xs := by
  induction xs with
  | nil => cases h
  | cons y ys ih =>
    rw [wtL]
    rcases List.mem_cons.1 h with rfl | h
    · omega
    · have := ih h; omega
theorem bytesF_first (x : Itm) (h : wtF x ≤ 1000000000) : ∃ z l, bytesF x = z :: l ∧ (x.list = true → 192 ≤ z.toNat) ∧ (x.list = false → z.toNat < 192) := by
  have hw := wtF_eq x
  have hl := bytesL_len x.items (by omega)
  rw [bytesF_eq]
  cases hx : x.list with
  | true =>
    obtain ⟨z, l, e, h1, _⟩ := headL_first (bytesL x.items).length 192 (by omega) (.inr rfl)
    exact ⟨z, l ++ bytesL x.items, by rw [if_pos rfl, e]; rfl, fun _ => h1, (fun h => by cases h)⟩
  | false =>
    obtain ⟨z, l, e, h1⟩ := bytesT_first x.bytes (by omega)
    exact ⟨z, l, by rw [if_neg (by simp)]; exact e, (fun h => by cases h), fun _ => h1⟩
theorem bytesL_inj {xs : List Itm} (hI : ∀ x, x ∈ xs → ∀ y u v, y.Form → wtF y ≤ 1000000000 → bytesF x ++ u = bytesF y ++ v → x = y ∧ u = v) (hw : ∀ x, x ∈ xs → wtF x ≤ 1000000000) :
    ∀ ys : List Itm, (∀ y, y ∈ ys → y.Form) → (∀ y, y ∈ ys → wtF y ≤ 1000000000) → bytesL xs = bytesL ys → xs = ys := by
  induction xs with
  | nil =>
    intro ys _ hy h
    cases ys with
    | nil => rfl
    | cons y ys =>
      obtain ⟨z, l, e, _⟩ := bytesF_first y (hy y (by simp))
      rw [bytesL, bytesL, e] at h
      cases h
  | cons x xs ih =>
    intro ys hF hy h
    cases ys with
    | nil =>
      obtain ⟨z, l, e, _⟩ := bytesF_first x (hw x (by simp))
      rw [bytesL, bytesL, e] at h
      cases h
    | cons y ys =>
      rw [bytesL, bytesL] at h
      obtain ⟨h1, h2⟩ := hI x (by simp) y _ _ (hF y (by simp)) (hy y (by simp)) h
      rw [h1, ih (fun x hx => hI x (by simp [hx])) (fun x hx => hw x (by simp [hx])) ys (fun y h => hF y (by simp [h])) (fun y h => hy y (by simp [h])) h2]
/-- NO ITEM'S BYTES BEGIN ANOTHER ONE'S -/
theorem bytesF_inj (x : Itm) (hx : x.Form) (hwx : wtF x ≤ 1000000000) : ∀ (y : Itm) (u v : List UInt8), y.Form → wtF y ≤ 1000000000 → bytesF x ++ u = bytesF y ++ v → x = y ∧ u = v := by
  induction hx with
  | text p =>
    intro y u v hy hwy h
    cases hy with
    | text q =>
      rw [wtF] at hwx hwy
      rw [bytesF_eq, bytesF_eq] at h
      obtain ⟨h1, h2⟩ := bytesT_inj (p := p) (q := q) (by omega) (by omega) h
      exact ⟨by rw [h1], h2⟩
    | list ys hys =>
      obtain ⟨z, l, e, _, h1⟩ := bytesF_first _ hwx
      obtain ⟨z', l', e', h2, _⟩ := bytesF_first _ hwy
      rw [e, e'] at h
      injection h with h3 _
      subst h3
      have := h1 rfl; have := h2 rfl; omega
  | list xs hxs ih =>
    intro y u v hy hwy h
    cases hy with
    | text q =>
      obtain ⟨z, l, e, h1, _⟩ := bytesF_first _ hwx
      obtain ⟨z', l', e', _, h2⟩ := bytesF_first _ hwy
      rw [e, e'] at h
      injection h with h3 _
      subst h3
      have := h1 rfl; have := h2 rfl; omega
    | list ys hys =>
      rw [wtF] at hwx hwy
      have hlx := bytesL_len xs (by omega)
      have hly := bytesL_len ys (by omega)
      rw [bytesF_eq, bytesF_eq] at h
      have h : (headL (bytesL xs).length 192 ++ bytesL xs) ++ u = (headL (bytesL ys).length 192 ++ bytesL ys) ++ v := h
      rw [List.append_assoc, List.append_assoc] at h
      obtain ⟨h1, _, h2⟩ := headL_inj (by omega) (by omega) (.inr rfl) (.inr rfl) h
      obtain ⟨h3, h4⟩ := List.append_inj h2 h1
      have hw1 : ∀ x, x ∈ xs → wtF x ≤ 1000000000 := fun x hx => by have := wt_mem hx; omega
      have hw2 : ∀ x, x ∈ ys → wtF x ≤ 1000000000 := fun x hx => by have := wt_mem hx; omega
      exact ⟨by rw [bytesL_inj (fun x hx y u v hy hwy => ih x hx (hw1 x hx) y u v hy hwy) hw1 ys hys hw2 h3], h4⟩
theorem check_form {x : Itm} (h : checkI x = 0) : x.Form ∧ (bytesF x).length ≤ 65536 ∧ formF x 0 = 0 := by
  unfold checkI at h
  split at h
  · rename_i h1; exact absurd h h1
  · rename_i h1
    have h1 : formF x 0 = 0 := by simpa using h1
    split at h
    · cases h
    · exact ⟨form_of x 0 h1, by omega, h1⟩
end Go.Proofs.YthalohloneojlaaGreatDoor
/- Heads that are written and read: plain laws. -/
namespace Go.Proofs.YthalohloneojlaaGreatDoor
open Go.RowKit Go.Shelf
set_option linter.unusedVariables false
set_option linter.unusedSimpArgs false

theorem valL_beV (l : List UInt8) : valL l = beV l := rfl
/-- a head, as it is read -/
theorem raw_head (n base : Nat) (t : List UInt8) (hn : n ≤ 65536) (hb : base = 128 ∨ base = 192) :
    128 ≤ headC (headL n base ++ t) 0 ∧ (192 ≤ headC (headL n base ++ t) 0 ↔ base = 192) ∧ rawE (headL n base ++ t) 0 = 0 ∧ rawFrom (headL n base ++ t) 0 = (headL n base).length ∧ rawN (headL n base ++ t) 0 = n ∧ (headC (headL n base ++ t) 0 = 129 → base = 128 ∧ n = 1) := by
  by_cases h : n < 56
  · rw [show headL n base = [UInt8.ofNat (base + n)] from if_pos h]
    have hc : headC ([UInt8.ofNat (base + n)] ++ t) 0 = base + n := by
      show (UInt8.ofNat (base + n)).toNat = _
      rw [UInt8.toNat_ofNat']; omega
    unfold rawE rawFrom rawN
    rw [hc]
    have q1 : ¬ base + n < 128 := by omega
    have q2 : (base + n - 128) % 64 = n := by omega
    rw [if_neg q1, if_neg q1, if_neg q1, q2, if_pos h, if_pos h, if_pos h]
    exact ⟨by omega, by omega, rfl, rfl, rfl, by omega⟩
  · rw [show headL n base = UInt8.ofNat (base + 55 + (beN n).length) :: beN n from if_neg h]
    have hm3 := beN_len3 n (by omega)
    have hm1 := beN_pos (n := n) (by omega) (by omega)
    have hv := beV_beN n (Nat.lt_of_le_of_lt hn (by decide))
    have hf := beN_first n
    generalize beN n = r at *
    have hc : headC (UInt8.ofNat (base + 55 + r.length) :: r ++ t) 0 = base + 55 + r.length := by
      show (UInt8.ofNat (base + 55 + r.length)).toNat = _
      rw [UInt8.toNat_ofNat']; omega
    have hB : lenB (UInt8.ofNat (base + 55 + r.length) :: r ++ t) 0 r.length = n := by
      unfold lenB
      rw [show (UInt8.ofNat (base + 55 + r.length) :: r ++ t).drop (0 + 1) = r ++ t from rfl, List.take_left' rfl]; exact hv
    have hz : (UInt8.ofNat (base + 55 + r.length) :: r ++ t).getD (0 + 1) 0 = r.getD 0 0 := by
      cases r with
      | nil => simp at hm1
      | cons a r => rfl
    have hE : lengthE (UInt8.ofNat (base + 55 + r.length) :: r ++ t) 0 r.length = 0 := by
      unfold lengthE
      rw [if_neg (by omega), if_neg (by simp only [List.cons_append, List.length_cons, List.length_append]; omega), if_neg]
      rw [hz, hB]
      rintro (g | g)
      · rcases hf with f | f
        · rw [f] at hm1; simp at hm1
        · exact f (UInt8.toNat_inj.1 (by rw [g]; rfl))
      · omega
    unfold rawE rawFrom rawN
    rw [hc]
    have q1 : ¬ base + 55 + r.length < 128 := by omega
    have q2 : (base + 55 + r.length - 128) % 64 = 55 + r.length := by omega
    have q3 : ¬ 55 + r.length < 56 := by omega
    rw [if_neg q1, if_neg q1, if_neg q1, q2, if_neg q3, if_neg q3, if_neg q3, show 55 + r.length - 55 = r.length by omega, hE, hB]
    exact ⟨by omega, by omega, rfl, by simp; omega, rfl, by omega⟩
theorem headL_pos (n base : Nat) : 1 ≤ (headL n base).length := by unfold headL; split <;> simp
theorem look_head (n base : Nat) (t : List UInt8) (hn : n ≤ 65536) (hb : base = 128 ∨ base = 192) (ht : n ≤ t.length) (h1 : ¬ (base = 128 ∧ n = 1 ∧ (t.getD 0 0).toNat < 128)) :
    lookE (headL n base ++ t) ((0 : Nat) : Int) = 0 ∧ lookFrom (headL n base ++ t) ((0 : Nat) : Int) = (headL n base).length ∧ lookN (headL n base ++ t) ((0 : Nat) : Int) = n ∧ lookL (headL n base ++ t) ((0 : Nat) : Int) = decide (base = 192) := by
  obtain ⟨r1, r2, r3, r4, r5, r6⟩ := raw_head n base t hn hb
  have hp := headL_pos n base
  have hl : (headL n base ++ t).length = (headL n base).length + t.length := List.length_append
  have hE : lookE (headL n base ++ t) ((0 : Nat) : Int) = 0 := by
    unfold lookE
    rw [if_neg (by omega), if_neg (by omega), Int.toNat_natCast, if_neg (by rw [r3]; simp), if_neg (by omega), if_neg]
    rintro ⟨g1, g2⟩
    obtain ⟨e1, e2⟩ := r6 g1
    subst e1; subst e2
    exact h1 ⟨rfl, rfl, by cases t with
      | nil => exact g2
      | cons a t => exact g2⟩
  refine ⟨hE, ?_, ?_, ?_⟩
  · unfold lookFrom; rw [if_pos hE, Int.toNat_natCast, r4]
  · unfold lookN; rw [if_pos hE, Int.toNat_natCast, r5]
  · unfold lookL; rw [if_pos hE, Int.toNat_natCast]; exact decide_eq_decide.2 r2
theorem look_cut (n base : Nat) (t : List UInt8) (hn : n ≤ 65536) (hb : base = 128 ∨ base = 192) (ht : n = t.length) (cut : Nat) (hc : cut < (headL n base ++ t).length) :
    lookE ((headL n base ++ t).take cut) ((0 : Nat) : Int) = 3 := by
  have hp := headL_pos n base
  have hl : (headL n base ++ t).length = (headL n base).length + t.length := List.length_append
  have hlt : ((headL n base ++ t).take cut).length = cut := by rw [List.length_take]; omega
  by_cases h0 : cut = 0
  · subst h0
    unfold lookE
    rw [hlt, if_neg (by omega), if_pos rfl]
  by_cases h1 : (headL n base).length ≤ cut
  · have e : (headL n base ++ t).take cut = headL n base ++ t.take (cut - (headL n base).length) := by
      rw [List.take_append, List.take_of_length_le h1]
    rw [e] at hlt ⊢
    obtain ⟨r1, r2, r3, r4, r5, r6⟩ := raw_head n base (t.take (cut - (headL n base).length)) hn hb
    unfold lookE
    rw [hlt, if_neg (by omega), if_neg (by omega), Int.toNat_natCast, if_neg (by rw [r3]; simp), if_pos (by omega)]
  · by_cases h : n < 56
    · rw [show headL n base = [UInt8.ofNat (base + n)] from if_pos h] at h1
      simp at h1; omega
    · have e : headL n base = UInt8.ofNat (base + 55 + (beN n).length) :: beN n := if_neg h
      have hm3 := beN_len3 n (by omega)
      have hm1 := beN_pos (n := n) (by omega) (by omega)
      rw [e] at h1 hlt ⊢
      obtain ⟨c, rfl⟩ : ∃ c, cut = c + 1 := ⟨cut - 1, by omega⟩
      generalize beN n = r at *
      rw [List.cons_append, List.take_succ_cons] at hlt ⊢
      have hcC : headC (UInt8.ofNat (base + 55 + r.length) :: (r ++ t).take c) 0 = base + 55 + r.length := by
        show (UInt8.ofNat (base + 55 + r.length)).toNat = _
        rw [UInt8.toNat_ofNat']; omega
      rw [List.length_cons] at h1
      have hE : rawE (UInt8.ofNat (base + 55 + r.length) :: (r ++ t).take c) 0 = 3 := by
        unfold rawE
        rw [hcC, if_neg (by omega), show (base + 55 + r.length - 128) % 64 = 55 + r.length by omega, if_neg (by omega), show 55 + r.length - 55 = r.length by omega]
        unfold lengthE
        rw [if_neg (by omega), if_pos (by rw [hlt]; omega)]
      unfold lookE
      rw [hlt, if_neg (by omega), if_neg (by omega), Int.toNat_natCast, if_pos (by rw [hE]; decide), hE]

theorem bytesT_pos (b : ByteArray) : 1 ≤ (bytesT b).length := by
  have h2 : b.data.toList.length = b.size := Array.length_toList
  unfold bytesT
  split
  · omega
  · rw [List.length_append]; have := headL_pos b.size 128; omega
theorem bytesF_pos (x : Itm) : 1 ≤ (bytesF x).length := by
  rw [bytesF_eq]
  split
  · rw [List.length_append]; have := headL_pos (bytesL x.items).length 192; omega
  · exact bytesT_pos _
/-- a head that is read, as it is written -/
theorem head_only {l : List UInt8} {a : Nat} (h : lookE l (a : Int) = 0) (hc : 128 ≤ headC l a) : (l.drop a).take (lookFrom l (a : Int) - a) = headL (lookN l (a : Int)) (if 192 ≤ headC l a then 192 else 128) := by
  obtain ⟨b0, b1, b2, b3, b4, b5⟩ := look_ok h
  have e1 : lookFrom l (a : Int) = rawFrom l a := by unfold lookFrom; rw [if_pos h, Int.toNat_natCast]
  have e2 : lookN l (a : Int) = rawN l a := by unfold lookN; rw [if_pos h, Int.toNat_natCast]
  rw [e1] at b1 b2 b3 b4 ⊢
  rw [e2] at b1 b3 ⊢
  unfold lookE at h
  rw [if_neg (by omega), if_neg (by omega), Int.toNat_natCast] at h
  split at h
  · rename_i g; exact absurd h g
  rename_i g
  have g : rawE l a = 0 := by simpa using g
  clear h b5 e1 e2
  have hd : l.drop a = UInt8.ofNat (headC l a) :: l.drop (a + 1) := by
    rw [List.drop_eq_getElem_cons b0]
    unfold headC
    rw [UInt8.ofNat_toNat, List.getD_eq_getElem?_getD, List.getElem?_eq_getElem b0]; rfl
  have hlt := headC_lt l a
  unfold rawE at g
  unfold rawFrom rawN at *
  have n1 : ¬ headC l a < 128 := by omega
  simp only [if_neg n1] at *
  by_cases h2 : (headC l a - 128) % 64 < 56
  · simp only [if_pos h2] at *
    rw [show a + 1 - a = 1 by omega, hd]
    unfold headL
    rw [if_pos h2, show (if 192 ≤ headC l a then 192 else 128) + (headC l a - 128) % 64 = headC l a by split <;> omega]
    rfl
  · simp only [if_neg h2] at *
    generalize hm : (headC l a - 128) % 64 - 55 = m at *
    unfold lengthE at g
    split at g
    · cases g
    rename_i g1
    split at g
    · cases g
    rename_i g2
    split at g
    · cases g
    rename_i g3
    have hlen : ((l.drop (a + 1)).take m).length = m := by rw [List.length_take, List.length_drop]; omega
    have hbe : beN (lenB l a m) = (l.drop (a + 1)).take m := by
      show beN (beV _) = _
      refine beN_beV _ (by omega) ?_
      rw [List.getD_eq_getElem?_getD, List.getElem?_take_of_lt (by omega), List.getElem?_drop, Nat.add_zero, ← List.getD_eq_getElem?_getD]
      intro e
      exact g3 (.inl (by rw [e]; rfl))
    unfold headL
    rw [if_neg (by omega), hbe, hlen, show a + 1 + m - a = m + 1 by omega, hd, List.take_succ_cons, show (if 192 ≤ headC l a then 192 else 128) + 55 + m = headC l a by split <;> omega]
end Go.Proofs.YthalohloneojlaaGreatDoor
/- What is encoded is decoded, and what is decoded is encoded just so: plain laws. -/
namespace Go.Proofs.YthalohloneojlaaGreatDoor
open Go.RowKit Go.Shelf
set_option linter.unusedVariables false
set_option linter.unusedSimpArgs false

theorem text_back (b : ByteArray) (k : Nat) (h : (bytesT b).length ≤ 65536) : itemF k (bytesT b) 0 = .ok (.mk false b [], (bytesT b).length) := by
  have h2 : b.data.toList.length = b.size := Array.length_toList
  unfold bytesT at h ⊢
  by_cases h1 : b.size = 1 ∧ (b.data.toList.getD 0 0).toNat < 128
  · rw [if_pos h1] at h ⊢
    cases hb : b.data.toList with
    | nil => rw [hb] at h2; simp at h2; omega
    | cons z r =>
      rw [hb] at h2 h1
      obtain rfl : r = [] := List.eq_nil_of_length_eq_zero (by simp at h2; omega)
      have hz : headC [z] 0 < 128 := h1.2
      have e1 : rawE [z] 0 = 0 := if_pos hz
      have e2 : rawFrom [z] 0 = 0 := if_pos hz
      have e3 : rawN [z] 0 = 1 := if_pos hz
      have hE : lookE [z] ((0 : Nat) : Int) = 0 := by
        unfold lookE
        rw [if_neg (by simp), if_neg (by simp), Int.toNat_natCast, if_neg (by rw [e1]; simp), if_neg (by rw [e2, e3]; simp), if_neg (by omega)]
      have hF : lookFrom [z] ((0 : Nat) : Int) = 0 := by unfold lookFrom; rw [if_pos hE, Int.toNat_natCast, e2]
      have hN : lookN [z] ((0 : Nat) : Int) = 1 := by unfold lookN; rw [if_pos hE, Int.toNat_natCast, e3]
      have hL : lookL [z] ((0 : Nat) : Int) = false := by unfold lookL; rw [if_pos hE, Int.toNat_natCast]; exact decide_eq_false (by omega)
      rw [item_bytes (by omega) hE hL, hF, hN]
      have : b = ⟨#[z]⟩ := ba_ext (by rw [hb])
      rw [this]; rfl
  · rw [if_neg h1] at h ⊢
    rw [List.length_append, h2] at h
    obtain ⟨q1, q2, q3, q4⟩ := look_head b.size 128 b.data.toList (by omega) (.inl rfl) (by omega) (by rintro ⟨_, g1, g2⟩; exact h1 ⟨g1, g2⟩)
    have q4 : lookL (headL b.size 128 ++ b.data.toList) ((0 : Nat) : Int) = false := q4
    have q5 := (look_ok q1).2.2.2.2.2
    rw [q4] at q5
    have q5 : ¬ 192 ≤ headC (headL b.size 128 ++ b.data.toList) 0 := of_decide_eq_false q5.symm
    rw [item_bytes (fun g => q5 g.2.1) q1 q4, q2, q3, List.drop_left' rfl, List.take_of_length_le (by omega), List.length_append, h2]
mutual
/-- WHAT IS ENCODED IS DECODED -/
theorem back_item : ∀ (x : Itm) (k : Nat), k ≤ 12 → formF x (12 - k) = 0 → (bytesF x).length ≤ 65536 → itemF k (bytesF x) 0 = .ok (x, (bytesF x).length)
  | .mk l b xs, k, hk, hf, hl => by
    rw [formF] at hf
    rw [bytesF] at hl ⊢
    split at hf
    · cases hf
    rename_i h1
    cases l with
    | false =>
      have : xs = [] := List.eq_nil_of_length_eq_zero (Classical.byContradiction fun h2 => h1 (.inr ⟨rfl, h2⟩))
      subst this
      exact text_back b k hl
    | true =>
      have hb := size_zero (b := b) (Classical.byContradiction fun h2 => h1 (.inl ⟨rfl, h2⟩))
      subst hb
      rw [if_neg (by simp)] at hf
      split at hf
      · cases hf
      rename_i h3
      split at hf
      · cases hf
      rename_i h4
      obtain ⟨j, rfl⟩ : ∃ j, k = j + 1 := ⟨k - 1, by omega⟩
      rw [show 12 - (j + 1) + 1 = 12 - j by omega] at hf
      rw [if_pos rfl] at hl ⊢
      have hl2 := hl
      rw [List.length_append] at hl2
      obtain ⟨q1, q2, q3, q4⟩ := look_head (bytesL xs).length 192 (bytesL xs) (by omega) (.inr rfl) (by omega) (by omega)
      rw [item_list q1 (by rw [q4]; rfl), q2, q3, ← List.length_append, List.take_length,
        back_items xs j (by omega) hf (headL (bytesL xs).length 192 ++ bytesL xs) (headL (bytesL xs).length 192).length 0 513 hl (by rw [List.drop_left' rfl]) (by rw [List.length_append]) (by omega) (by omega)]
      rfl
theorem back_items : ∀ (xs : List Itm) (k : Nat), k ≤ 12 → formL xs (12 - k) = 0 → ∀ (L : List UInt8) (p i f : Nat), L.length ≤ 65536 → L.drop p = bytesL xs → p + (bytesL xs).length = L.length → xs.length + i ≤ 512 → xs.length < f → itemsF (itemF k L) L.length f i p = .ok xs
  | [], k, hk, hf, L, p, i, f, hL, hd, hp, hi, hff => by
    obtain ⟨f, rfl⟩ : ∃ j, f = j + 1 := ⟨f - 1, by simp at hff; omega⟩
    unfold itemsF
    rw [bytesL] at hp
    rw [if_neg (by simp at hp; omega)]
  | x :: xs, k, hk, hf, L, p, i, f, hL, hd, hp, hi, hff => by
    obtain ⟨f, rfl⟩ : ∃ j, f = j + 1 := ⟨f - 1, by simp at hff; omega⟩
    rw [formL] at hf
    split at hf
    · rename_i h1; exact absurd hf h1
    rename_i h1
    have h1 : formF x (12 - k) = 0 := by simpa using h1
    rw [bytesL] at hd hp
    rw [List.length_append] at hp
    rw [List.length_cons] at hi hff
    have hx := back_item x k hk h1 (by omega)
    have hs := item_shift k k (Nat.le_refl _) hx (l' := L) (a' := p) (fun j hj => by
      have := congrArg (fun l => l[j]?) hd
      simp only [List.getElem?_drop] at this
      rw [this, List.getElem?_append_left (by omega), Nat.zero_add])
    have hpos := bytesF_pos x
    rw [Nat.sub_zero] at hs
    have hr := back_items xs k hk hf L ((bytesF x).length + p) (i + 1) f hL (by
      rw [Nat.add_comm, ← List.drop_drop, hd, List.drop_left' rfl]) (by omega) (by omega) (by omega)
    unfold itemsF
    rw [if_pos (by omega), if_neg (by omega), hs]
    show (match itemsF (itemF k L) L.length f (i + 1) ((bytesF x).length + p) with | .error e => Except.error e | .ok ys => .ok (x :: ys)) = _
    rw [hr]
end
theorem decode_back {x : Itm} (h : checkI x = 0) : decodeF (bytesF x) = .ok x := by
  obtain ⟨h1, h2, h3⟩ := check_form h
  unfold decodeF
  rw [if_neg (by omega), back_item x 12 (by omega) h3 h2]
  exact if_neg (by omega)
theorem decode_cut {x : Itm} (h : checkI x = 0) {cut : Nat} (hc : cut < (bytesF x).length) : decodeF ((bytesF x).take cut) = .error 3 := by
  obtain ⟨h1, h2, h3⟩ := check_form h
  have h4 : lookE ((bytesF x).take cut) ((0 : Nat) : Int) = 3 := by
    rw [bytesF_eq] at hc h2 ⊢
    have hone : ∀ l : List UInt8, cut < l.length → l.length = 1 → lookE (l.take cut) ((0 : Nat) : Int) = 3 := by
      intro l g1 g2
      obtain rfl : cut = 0 := by omega
      rfl
    split at hc
    · rename_i g
      rw [if_pos g, List.length_append] at h2
      rw [if_pos g]
      exact look_cut _ _ _ (by omega) (.inr rfl) rfl cut hc
    · rename_i g
      rw [if_neg g] at h2 ⊢
      have e : x.bytes.data.toList.length = x.bytes.size := Array.length_toList
      unfold bytesT at hc h2 ⊢
      split at hc
      · rename_i g1
        rw [if_pos g1]
        exact hone _ hc (by omega)
      · rename_i g1
        rw [if_neg g1, List.length_append] at h2
        rw [if_neg g1]
        exact look_cut _ _ _ (by omega) (.inl rfl) e.symm cut hc
  unfold decodeF
  rw [if_neg (by rw [List.length_take]; omega)]
  have : itemF 12 ((bytesF x).take cut) 0 = .error 3 := by
    show itemG (some (itemF 11)) _ 0 = _
    unfold itemG
    rw [if_neg (by rintro ⟨_, _, x⟩; cases x), if_pos (by rw [h4]; decide), h4]
  rw [this]
theorem decode_more {x : Itm} (h : checkI x = 0) {more : List UInt8} (hm : more ≠ []) : decodeF (bytesF x ++ more) = .error (if 65536 < (bytesF x).length + more.length then 5 else 4) := by
  obtain ⟨h1, h2, h3⟩ := check_form h
  have hl : 1 ≤ more.length := by cases more with
    | nil => exact absurd rfl hm
    | cons a l => simp
  unfold decodeF
  rw [List.length_append]
  split
  · rfl
  · rename_i g
    rw [item_shift 12 12 (Nat.le_refl _) (back_item x 12 (by omega) h3 h2) (l' := bytesF x ++ more) (a' := 0) (fun j hj => by
      rw [List.getElem?_append_left (by omega)])]
    exact if_pos (by omega)

/-- items that are read, as they are written -/
theorem items_only {l : List UInt8} {rd : Nat → Except Int (Itm × Nat)} {en d : Nat} (hen : en ≤ l.length)
    (hrd : ∀ p y q, rd p = .ok (y, q) → p < q ∧ q ≤ en ∧ bytesF y = (l.drop p).take (q - p) ∧ formF y d = 0 ∧ wtF y ≤ 11 * (q - p)) (f : Nat) :
    ∀ (i p : Nat) (xs : List Itm), p ≤ en → i ≤ 512 → itemsF rd en f i p = .ok xs → bytesL xs = (l.drop p).take (en - p) ∧ formL xs d = 0 ∧ wtL xs ≤ 11 * (en - p) ∧ xs.length + i ≤ 512 := by
  induction f with
  | zero => intro i p xs _ _ h; cases h
  | succ f ih =>
    intro i p xs hp hi h
    cases xs with
    | nil =>
      have := items_last h
      obtain rfl : p = en := by omega
      rw [Nat.sub_self, List.take_zero]
      exact ⟨rfl, rfl, by simp [wtL], by simp; omega⟩
    | cons x xs =>
      obtain ⟨h1, q, h2, h3⟩ := items_next h
      have hi2 : i < 512 := by
        unfold itemsF at h
        rw [if_pos h1] at h
        by_cases g : 512 ≤ i
        · rw [if_pos g] at h; cases h
        · omega
      obtain ⟨r1, r2, r3, r4, r5⟩ := hrd _ _ _ h2
      obtain ⟨s1, s2, s3, s4⟩ := ih (i + 1) q xs r2 (by omega) h3
      refine ⟨?_, ?_, ?_, ?_⟩
      · rw [bytesL, r3, s1, show en - p = (q - p) + (en - q) by omega, List.take_add, List.drop_drop, show p + (q - p) = q by omega]
      · rw [formL, if_neg (by rw [r4]; simp)]; exact s2
      · rw [wtL]; omega
      · rw [List.length_cons]; omega
/-- WHAT IS DECODED IS ENCODED JUST SO -/
theorem only_item : ∀ (k : Nat), k ≤ 12 → ∀ {l : List UInt8} {a q : Nat} {x : Itm}, itemF k l a = .ok (x, q) → bytesF x = (l.drop a).take (q - a) ∧ formF x (12 - k) = 0 ∧ wtF x ≤ 11 * (q - a) := by
  have text : ∀ {l : List UInt8} {a d : Nat}, lookE l (a : Int) = 0 → lookL l (a : Int) = false → bytesF (.mk false ⟨((l.drop (lookFrom l a)).take (lookN l a)).toArray⟩ []) = (l.drop a).take (lookFrom l a + lookN l a - a) ∧ formF (.mk false ⟨((l.drop (lookFrom l a)).take (lookN l a)).toArray⟩ []) d = 0 ∧ wtF (.mk false ⟨((l.drop (lookFrom l a)).take (lookN l a)).toArray⟩ []) ≤ 11 * (lookFrom l a + lookN l a - a) := by
    intro l a d h hL
    obtain ⟨b0, b1, b2, b3, b4, b5⟩ := look_ok h
    rw [hL] at b5
    have b5 : ¬ 192 ≤ headC l a := of_decide_eq_false b5.symm
    have hz : ((l.drop (lookFrom l a)).take (lookN l a)).length = lookN l a := by rw [List.length_take, List.length_drop]; omega
    refine ⟨?_, ?_, ?_⟩
    · rw [bytesF, if_neg (by simp)]
      unfold bytesT
      have hsz : (ByteArray.mk ((l.drop (lookFrom l a)).take (lookN l a)).toArray).size = lookN l a := by
        show (List.toArray _).size = _
        rw [List.size_toArray, hz]
      rw [hsz]
      show (if _ ∧ ((((l.drop (lookFrom l a)).take (lookN l a))).getD 0 0).toNat < 128 then (l.drop (lookFrom l a)).take (lookN l a) else _ ++ (l.drop (lookFrom l a)).take (lookN l a)) = _
      have hg : 0 < lookN l a → (((l.drop (lookFrom l a)).take (lookN l a)).getD 0 0).toNat = headC l (lookFrom l a) := by
        intro h0
        unfold headC
        rw [List.getD_eq_getElem?_getD, List.getElem?_take_of_lt h0, List.getElem?_drop, Nat.add_zero, ← List.getD_eq_getElem?_getD]
      by_cases hc : headC l a < 128
      · have e1 : lookFrom l (a : Int) = a := by unfold lookFrom; rw [if_pos h, Int.toNat_natCast]; exact if_pos hc
        have e2 : lookN l (a : Int) = 1 := by unfold lookN; rw [if_pos h, Int.toNat_natCast]; exact if_pos hc
        rw [if_pos ⟨e2, by rw [hg (by omega), e1]; exact hc⟩, e1, e2, show a + 1 - a = 1 by omega]
      · have hh := head_only h (by omega)
        rw [if_neg b5] at hh
        rw [if_neg, ← hh]
        · conv => rhs; rw [show lookFrom l (a : Int) + lookN l (a : Int) - a = (lookFrom l (a : Int) - a) + lookN l (a : Int) by omega, List.take_add, List.drop_drop, show a + (lookFrom l (a : Int) - a) = lookFrom l (a : Int) by omega]
        · rintro ⟨g1, g2⟩
          rw [hg (by omega)] at g2
          have e1 : lookFrom l (a : Int) = rawFrom l a := by unfold lookFrom; rw [if_pos h, Int.toNat_natCast]
          have e2 : lookN l (a : Int) = rawN l a := by unfold lookN; rw [if_pos h, Int.toNat_natCast]
          rw [e2] at g1
          rw [e1] at g2
          have h' := h
          unfold lookE at h'
          rw [if_neg (by omega), if_neg (by omega), Int.toNat_natCast] at h'
          split at h'
          · rename_i g; exact absurd h' g
          rename_i gE
          have gE : rawE l a = 0 := by simpa using gE
          split at h'
          · cases h'
          split at h'
          · cases h'
          rename_i g4
          unfold rawE at gE
          unfold rawN at g1
          unfold rawFrom at g2
          rw [if_neg hc] at gE g1 g2
          have hlt := headC_lt l a
          split at g1
          · rename_i g5
            rw [if_pos g5] at g2
            exact g4 ⟨by omega, g2⟩
          · rename_i g5
            rw [if_neg g5] at gE
            unfold lengthE at gE
            split at gE
            · cases gE
            split at gE
            · cases gE
            split at gE
            · cases gE
            rename_i g6
            exact g6 (.inr (by omega))
    · rw [formF, if_neg (by simp), if_pos rfl]
    · rw [wtF]
      show 10 + (List.toArray _).size + wtL [] ≤ _
      rw [List.size_toArray, hz, wtL]
      omega
  intro k
  induction k with
  | zero =>
    intro hk l a q x h
    obtain ⟨h1, h2, h3⟩ := item_ok h
    subst h3
    have hg : itemG none l a = _ := h
    unfold itemG at hg
    rw [if_neg (by rintro hh; rw [if_pos hh] at hg; cases hg), if_neg (by simpa using h1)] at hg
    clear h
    split at hg
    · rename_i hL
      injection hg with h; injection h with h _
      rw [← h]
      exact text h1 hL
    · cases hg
  | succ k ih =>
    intro hk l a q x h
    obtain ⟨h1, h2, h3⟩ := item_ok h
    cases hL : lookL l (a : Int) with
    | false =>
      rw [item_bytes (by rintro ⟨_, _, g⟩; cases g) h1 hL] at h
      injection h with h; injection h with h _
      subst h3
      rw [← h]
      exact text h1 hL
    | true =>
      obtain ⟨b0, b1, b2, b3, b4, b5⟩ := look_ok h1
      rw [hL] at b5
      have b5 : 192 ≤ headC l a := of_decide_eq_true b5.symm
      have hh := head_only h1 (by omega)
      rw [if_pos b5] at hh
      have hFa : a < lookFrom l (a : Int) := by
        have e := congrArg List.length hh
        have := headL_pos (lookN l (a : Int)) 192
        rw [List.length_take] at e
        omega
      rw [item_list h1 hL] at h
      subst h3
      split at h
      · cases h
      · rename_i xs hxs
        injection h with h; injection h with h _
        rw [← h]
        obtain ⟨r1, r2, r3, r4⟩ := items_only (l := l) (d := 12 - k) b1 (fun p y q hy => by
          obtain ⟨s1, s2, s3⟩ := item_ok hy
          obtain ⟨c0, c1, c2, c3, _, _⟩ := look_ok s1
          rw [← s3] at c1 c3
          obtain ⟨t1, t2, t3⟩ := ih (by omega) hy
          rw [List.length_take] at c1
          refine ⟨c3, by omega, ?_, t2, t3⟩
          rw [t1, List.drop_take, List.take_take, Nat.min_eq_left (by omega)]) 513 0 _ xs (by omega) (by omega) hxs
        rw [show lookFrom l (a : Int) + lookN l (a : Int) - lookFrom l (a : Int) = lookN l (a : Int) by omega] at r1 r3
        have hbl : (bytesL xs).length = lookN l (a : Int) := by rw [r1, List.length_take, List.length_drop]; omega
        refine ⟨?_, ?_, ?_⟩
        · rw [bytesF, if_pos rfl, hbl, ← hh, r1]
          conv => rhs; rw [show lookFrom l (a : Int) + lookN l (a : Int) - a = (lookFrom l (a : Int) - a) + lookN l (a : Int) by omega, List.take_add, List.drop_drop, show a + (lookFrom l (a : Int) - a) = lookFrom l (a : Int) by omega]
        · rw [formF, if_neg (by simp), if_neg (by simp), if_neg (by omega), if_neg (by omega), show 12 - (k + 1) + 1 = 12 - k by omega]
          exact r2
        · rw [wtF, show ByteArray.empty.size = 0 from rfl]
          omega
theorem decode_only {l : List UInt8} {x : Itm} (h : decodeF l = .ok x) : checkI x = 0 ∧ bytesF x = l ∧ wtF x ≤ 11 * l.length := by
  obtain ⟨g1, g2, g3⟩ := decode_head h
  unfold decodeF at h
  split at h
  · cases h
  rename_i hl
  split at h
  · cases h
  · rename_i y q hi
    split at h
    · cases h
    · rename_i hq
      injection h with h; subst h
      obtain ⟨_, _, e⟩ := item_ok hi
      have e : q = l.length := by rw [← g3, e]; rfl
      obtain ⟨r1, r2, r3⟩ := only_item 12 (by omega) hi
      rw [e, Nat.sub_zero, List.drop_zero, List.take_length] at r1
      rw [e] at r3
      refine ⟨?_, r1, by omega⟩
      unfold checkI
      rw [if_neg (by rw [show (0 : Nat) = 12 - 12 from rfl, r2]; simp), if_neg (by rw [r1]; omega)]
end Go.Proofs.YthalohloneojlaaGreatDoor
