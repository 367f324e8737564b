/- Merged: RcpI, RcpAs0, RcpAs. -/
import Derived.Test.YthalohloneojlaaGreatDoorMi16
import Derived.LaidEql
import Derived.Stop.Asserts
/- Receipts: the reader: a receipt's parts.  Printed by wip/genRcpI.py -/
namespace Go.Proofs.YthalohloneojlaaGreatDoor
open Go.RowKit Go.Shelf
set_option linter.unusedVariables false
set_option linter.unusedSimpArgs false

theorem hd_sz {l : List Itm} (h : ∀ y ∈ l, y.bytes.size ≤ 9223372036854775807) : (l.headD Itm.none_).bytes.size ≤ 9223372036854775807 := by
  cases l with
  | nil => decide
  | cons y ys => exact h y (by simp)
theorem tl_sz {l : List Itm} (h : ∀ y ∈ l, y.bytes.size ≤ 9223372036854775807) : ∀ y ∈ l.tail, y.bytes.size ≤ 9223372036854775807 := fun y hy => h y (List.mem_of_mem_tail hy)
theorem logs_topics (zs : List Itm) (i : Nat) : ((zs.map logL).getD i LogV.none_).topics.length ≤ 9223372036854775807 := by
  rw [List.getD_eq_getElem?_getD, List.getElem?_map]
  cases zs[i]? with
  | none => decide
  | some y => have := logL_topics y; simp; omega
theorem logR2_any (B r : Nat) (l : List Itm) (E : Int) (w : World) (h : RdR B w r l E) (V : LogV) (hV : logL (l.headD Itm.none_) = V) :
    Calls Tryz.prog 65 #[.pointer (some ⟨r, 0, none⟩)] w fun x w' => ∃ T tc, x = .returned (.agg #[.string V.addr, .slice T V.topics.length tc, .string V.data]) ∧ TopR (fun g => w.heap.size ≤ g) w' V.topics T V.topics.length ∧
      (T = none → V.topics.length = 0 ∧ tc = 0) ∧ RdR B w' r l.tail (logE E (l.headD Itm.none_)) ∧ w.grownBy w' (some r) := by
  subst hV
  exact logR_any B r l E w h
theorem OfEnd.cells {B : Nat} {w0 u : World} {r r2 xb c k : Nat} {A : Option Addr} {ls : List LogV} {lr : List Itm} {E : Int} {x0 x1 x2 x3 x4 x5 x6 : Value} (h : OfEnd B w0 r r2 xb #[x0, x1, x2, x3, x4, x5, x6] A c k ls lr E u) :
    u.cell? ⟨xb, 0, none⟩ = some x0 ∧ u.cell? ⟨xb, 1, none⟩ = some x1 ∧ u.cell? ⟨xb, 2, none⟩ = some x2 ∧ u.cell? ⟨xb, 3, none⟩ = some x3 ∧ u.cell? ⟨xb, 4, none⟩ = some x4 ∧ u.cell? ⟨xb, 5, none⟩ = some x5 ∧ u.cell? ⟨xb, 6, none⟩ = some x6 := by
  have b := h.blk.cell
  exact ⟨b 0, b 1, b 2, b 3, b 4, b 5, b 6⟩

set_option maxRecDepth 100000 in
set_option maxHeartbeats 4000000 in
theorem ofRc_any (kd : Int) (B r : Nat) (l : List Itm) (E : Int) (w : World) (h : RdR B w r l E) (hsz : ∀ y ∈ l, y.bytes.size ≤ 9223372036854775807) :
    Calls Tryz.prog 41 #[.pointer (some ⟨r, 0, none⟩), .int .i64 kd] w fun x w' => ∃ A n c l', x = .returned (.agg (rcpC (ofX kd l) (.slice A n c))) ∧ LogsS (fun q => w.heap.size ≤ q) w' (ofX kd l).logs A n ∧ RdR B w' r l' (ofE E l) ∧ w.grownBy w' (some r) := by
  have HL0 := fun (W : World) (hW : RdR B W r l E) => Lib.hid (yesR_any B r l E W hW)
  have hs1 := tl_sz hsz
  obtain ⟨F, hF⟩ : ∃ F, ofE E l = F := ⟨_, rfl⟩
  obtain ⟨X, hX⟩ : ∃ X, ofX kd l = X := ⟨_, rfl⟩
  rw [hF, hX]
  unfold ofE at hF
  unfold ofX at hX
  obtain ⟨E1, hE1⟩ : ∃ e, fst1 E (yesEI (l.headD Itm.none_)) = e := ⟨_, rfl⟩
  obtain ⟨st, hst⟩ : ∃ e, yesVI (l.headD Itm.none_) = e := ⟨_, rfl⟩
  rw [hE1, hst] at HL0
  rw [hE1] at hF
  rw [hst] at hX
  obtain ⟨p2, hp2⟩ : ∃ p, l.tail = p := ⟨_, rfl⟩
  rw [hp2] at HL0 hF hX hs1
  have HL1 := fun (W : World) (hW : RdR B W r p2 E1) => Lib.hid (numberR_any B r p2 E1 W hW (hd_sz hs1))
  obtain ⟨E2, hE2⟩ : ∃ e, fst1 E1 (numE (p2.headD Itm.none_).list (p2.headD Itm.none_).bytes) = e := ⟨_, rfl⟩
  obtain ⟨gas, hgas⟩ : ∃ e, numV (p2.headD Itm.none_).list (p2.headD Itm.none_).bytes = e := ⟨_, rfl⟩
  rw [hE2, hgas] at HL1
  rw [hE2] at hF
  rw [hgas] at hX
  have hs2 := tl_sz hs1
  obtain ⟨p3, hp3⟩ : ∃ p, p2.tail = p := ⟨_, rfl⟩
  rw [hp3] at HL1 hF hX hs2
  have HL2 := fun (W : World) (hW : RdR B W r p3 E2) => Lib.hid (rowR_any 0 16 B r p3 E2 W hW)
  have hz16 := rowL_le 0 16 (p3.headD Itm.none_)
  obtain ⟨E3, hE3⟩ : ∃ e, fst1 E2 (rowE 0 16 (p3.headD Itm.none_)) = e := ⟨_, rfl⟩
  obtain ⟨zs, hzs⟩ : ∃ zs, rowL 0 16 (p3.headD Itm.none_) = zs := ⟨_, rfl⟩
  rw [hE3, hzs] at HL2 hF
  rw [hzs] at hX hz16
  have hs3 := tl_sz hs2
  obtain ⟨p4, hp4⟩ : ∃ p, p3.tail = p := ⟨_, rfl⟩
  rw [hp4] at HL2 hF hX hs3
  obtain ⟨E4, hE4⟩ : ∃ e, logsE E3 zs = e := ⟨_, rfl⟩
  rw [hE4] at hF
  have HE4 := Lib.hid hE4
  have HX := Lib.hid hX.symm
  have HF := Lib.hid hF.symm
  have HZ16 : Hid (zs.length ≤ 16) := Lib.hid (by omega)
  have HS3 := Lib.hid hs3
  clear hF hX hE1 hst hp2 hE2 hgas hp3 hE3 hzs hp4 hE4 hz16 hs1 hs2 hs3 hsz
  have hRB := Blk.new w 25 #[.int .i64 0, .bool false, .int .u64 0, .slice none 0 0, .bool false, .int .u64 0, .int .u64 0]
  have hG := only_alloc (World.grownBy.refl w none) (.cells #[.int .i64 0, .bool false, .int .u64 0, .slice none 0 0, .bool false, .int .u64 0, .int .u64 0] 25)
  have h1 := h.kept hG (by simp) (by simp)
  have hlt := h.lt
  obtain ⟨g0, hg0⟩ : ∃ b, w.heap.size = b := ⟨_, rfl⟩
  have hz : (w.alloc (.cells #[.int .i64 0, .bool false, .int .u64 0, .slice none 0 0, .bool false, .int .u64 0, .int .u64 0] 25)).heap.size = g0 + 1 := by simp [hg0]
  rw [hg0] at hRB hlt
  have HW := Lib.hid hg0
  clear h
  go_enter Tryz.func41, Tryz.ntmps41
  go_upto_region 1 with (fail)
  clear hg0
  generalize w.alloc (.cells #[.int .i64 0, .bool false, .int .u64 0, .slice none 0 0, .bool false, .int .u64 0, .int .u64 0] 25) = W1 at *
  have HG1 := Lib.hid hG; have HB1 := Lib.hid hRB; have HR1 := Lib.hid h1; have HZ := Lib.hid hz; have HLT := Lib.hid hlt
  clear hG hRB h1 hz hlt
  go_wp2_with fail
  refine (HL0 W1 HR1.out).out.mono ?_
  rintro e w2 ⟨rfl, hR, hg2⟩
  have HR := Lib.hid hR; have HG2 := Lib.hid hg2
  clear hR hg2 HL0
  go_wp2_with fail
  refine (HL1 w2 HR.out).out.mono ?_
  rintro e w3 ⟨rfl, hR, hg3⟩
  obtain ⟨xb, hxb⟩ : ∃ b, w3.heap.size = b := ⟨_, rfl⟩
  have hB4 := Blk.new w3 25 #[.int .i64 kd, .bool st, .int .u64 (gas : Int), .slice none 0 0, .bool false, .int .u64 0, .int .u64 0]
  have hz4 : (w3.alloc (.cells #[.int .i64 kd, .bool st, .int .u64 (gas : Int), .slice none 0 0, .bool false, .int .u64 0, .int .u64 0] 25)).heap.size = xb + 1 := by simp [hxb]
  have hg4 := only_alloc (World.grownBy.refl w3 none) (.cells #[.int .i64 kd, .bool st, .int .u64 (gas : Int), .slice none 0 0, .bool false, .int .u64 0, .int .u64 0] 25)
  rw [hxb] at hB4
  have HST : Hid (RdR B (w3.alloc (.cells #[.int .i64 kd, .bool st, .int .u64 (gas : Int), .slice none 0 0, .bool false, .int .u64 0, .int .u64 0] 25)) r p3 E2 ∧ W1.grownBy (w3.alloc (.cells #[.int .i64 kd, .bool st, .int .u64 (gas : Int), .slice none 0 0, .bool false, .int .u64 0, .int .u64 0] 25)) (some r) ∧ g0 + 1 ≤ xb) := by
    have hl := HG2.out.size; have hl3 := hg3.size; have hz := HZ.out
    exact Lib.hid ⟨hR.kept hg4 (by simp) (by simp), grown_self (grown_self HG2.out hg3 (fun k hk => .inl hk)) (grown_row hg4 (some r)) (fun k hk => .inl hk), by omega⟩
  have HB4 := Lib.hid hB4; have HZ4 := Lib.hid hz4
  clear hR hg3 hg4 HR HG2 hB4 hz4 HL1
  go_upto_region 3 with (fail)
  clear hxb
  generalize w3.alloc (.cells #[.int .i64 kd, .bool st, .int .u64 (gas : Int), .slice none 0 0, .bool false, .int .u64 0, .int .u64 0] 25) = W4 at *
  go_wp2_with fail
  refine (HL2 W4 HST.out.1).out.mono ?_
  rintro e w5 ⟨r2, rfl, hle2, hR, hR2, hg5⟩
  have K0 : OfSt B W1 r r2 xb kd st gas (.slice none 0 0) 0 ((zs.take 0).map logL) [] p4 (zs.drop 0) E3 E3 w5 := by
    have hz := HZ.out; have hlt := HLT.out; have hz5 := HZ4.out; have hx := HST.out.2.2
    have hl3 := hR2.lt
    exact ⟨HB4.out.grown hg5 (by simp; omega), World.ownsRow_nil _ _ _ _, rfl, rfl, fun i hi => by omega, hR, hR2, grown_self HST.out.2.1 hg5 (fun k hk => .inl hk), by omega, by omega, by omega, by omega⟩
  clear HST HB4 HZ4 hle2 hR hR2 hg5 HL2
  go_upto_region 5 with (fail)
  go_loopw [] (fun wr => ∃ (k : Nat) (v : Value) (vs : List (Option Addr × Nat)), k ≤ zs.length ∧ OfSt B W1 r r2 xb kd st gas v k ((zs.take k).map logL) vs p4 (zs.drop k) E3 (logsE E3 (zs.take k)) wr) (fun wr => lenAt wr ⟨r2, 0, none⟩)
  case atStart => exact ⟨0, _, _, by omega, K0⟩
  case round =>
    clear K0
    obtain ⟨k, v, vs, hk, K0⟩ := hrel
    have HLN := Lib.hid K0.rd2.len
    obtain ⟨A3, c3, wh3, hb3, _⟩ := K0.rd2.ex
    have x0 := hb3.cell 0
    simp only [List.getElem?_toArray, List.getElem?_cons_zero, List.getElem?_cons_succ] at x0
    by_cases hlt : k < zs.length
    · have hq : (0 : Int) < ((zs.drop k).length : Int) := by rw [List.length_drop]; omega
      obtain ⟨hd1, hd2, hd3⟩ := drop_cons hlt
      obtain ⟨V, hs⟩ : ∃ s, logL (zs.getD k Itm.none_) = s := ⟨_, rfl⟩
      have HD : Hid (((zs.drop k).headD Itm.none_) = zs.getD k Itm.none_) := Lib.hid hd1
      have HD2 := Lib.hid hd2; have HD3 := Lib.hid hd3; have HS := Lib.hid hs
      have hk4 : k < 16 := by have := HZ16.out; omega
      have HKZ := Lib.hid hlt
      clear hb3 hd1 hd2 hd3 hs hk hlt
      obtain ⟨zl, hzl⟩ : ∃ zl, (zs.drop k).length = zl := ⟨_, rfl⟩
      rw [hzl] at x0 hq HLN
      have HZL := Lib.hid hzl
      clear hzl
      obtain ⟨vA, vc, rfl⟩ := own_slice3 K0.own
      go_upto_region 6 with (fail)
      refine wp_region_held (S := fun _ => True) (by kernel_rfl) ?_
      change wpAnyH _ _ _ _ _ _ _ _ wr.drew
      replace K0 := K0.drew
      generalize hwr : wr.drew = u0 at *
      have HWR : Hid (lenAt wr ⟨r2, 0, none⟩ = zl) := HLN
      clear x0 HLN hwr
      obtain ⟨ls, hls⟩ : ∃ t, (zs.take k).map logL = t := ⟨_, rfl⟩
      rw [hls] at K0
      have HTS := Lib.hid hls
      clear hls
      refine held_take (i := 0) (v := .pointer (some ⟨xb, 3, none⟩)) (some 30) rfl (by kernel_rfl) (by kernel_rfl) (by kernel_rfl) (fun _ _ _ h => h) rfl (Or.inl ⟨by rfl, fun W hW => by go_simp⟩) trivial ?_
      simp only [Act.put, List.setIfInBounds_toArray, List.set_cons_zero, List.set_cons_succ]
      refine held_take (i := 2) (v := .func (.func 65) #[.pointer (some ⟨r2, 0, none⟩)] #[]) (some 32) rfl (by kernel_rfl) (by kernel_rfl) (by kernel_rfl) (fun _ _ _ h => h) rfl (Or.inl ⟨by rfl, fun W hW => by go_simp⟩) trivial ?_
      simp only [Act.put, List.setIfInBounds_toArray, List.set_cons_zero, List.set_cons_succ]
      refine held_two (i := 1) (j := 3) (by kernel_rfl) ?_ ?_
      · skip
        refine held_value (some 31) rfl rfl (.slice vA k vc) (exec_load1 23 (.tmp 30) rfl _ rfl _ _ Tryz.underlying23 rfl (K0.blk.cell 3)) rfl trivial ?_
        simp only [Act.put, List.setIfInBounds_toArray, List.set_cons_zero, List.set_cons_succ]
        refine held_one (i := 3) (by kernel_rfl) ?_
        refine held_enter (some 33) rfl rfl 65 #[.pointer (some ⟨r2, 0, none⟩)] (exec_callm 65 (.tmp 32) rfl _ rfl (enters_of Tryz.func65 (by kernel_rfl) rfl _ _)) rfl ((logR2_any B r2 (zs.drop k) _ _ K0.rd2 V (by rw [HD.out]; exact HS.out)).mono ?_)
        rintro e u1 ⟨T, tc, rfl, hT, hN, hrr, hgc⟩
        rw [HD.out, HD2.out] at hrr
        have hT1 := K0.new_top hT
        have K1 := K0.read hgc hrr
        refine ⟨_, rfl, trivial, ?_⟩
        simp only [Act.put, List.setIfInBounds_toArray, List.set_cons_zero, List.set_cons_succ]
        refine held_one (i := 4) (by kernel_rfl) ?_
        refine held_value (some 34) rfl rfl (.slice (some ⟨u1.heap.size, 0, none⟩) 1 1) (by go_simp <;> rfl) rfl trivial ?_
        simp only [Act.put, List.setIfInBounds_toArray, List.set_cons_zero, List.set_cons_succ]
        have K2 := K1.kept (only_alloc (World.grownBy.refl u1 none) (.cells #[.string V.addr, .slice T V.topics.length tc, .string V.data] 40))
        obtain ⟨i0, hi, hz0, hzs, hzb⟩ := info_parts log_info
        obtain ⟨v', u2, hrun, hown', hgrow, hiff, hob⟩ := run_append_own_at (P := Tryz.prog) (u1.alloc (.cells #[.string V.addr, .slice T V.topics.length tc, .string V.data] 40)) (r2 + 1) 23 23 40 i0 _ 3 56 Tryz.underlying23 hi hz0 hzs hzb rfl (by decide) (.slice vA k vc) k (logsV ls vs) K2.own ⟨u1.heap.size, 0, none⟩ 1 1 [.string V.addr, .slice T V.topics.length tc, .string V.data] rfl (cell_three_new _ _ _ _ _) (by simp [Value.oneCell']) (by simp only [maxLen]; omega) (by omega) K2.sz
        obtain ⟨g', cap', rfl⟩ := ownsRow_succ hown'
        have K3 := K2.put (hT1.keep fun p _ c hc => (only_alloc (World.grownBy.refl u1 none) (.cells #[.string V.addr, .slice T V.topics.length tc, .string V.data] 40)).cell hc (by simp)) hN hown' hgrow hob
        refine held_one (i := 5) (by kernel_rfl) ?_
        refine held_value (some 35) rfl rfl (.slice (some ⟨g', 0, none⟩) (k + 1) cap') (exec_append (.tmp 31) (.tmp 34) 23 rfl _ _ _ rfl rfl hrun) rfl trivial ?_
        simp only [Act.put, List.setIfInBounds_toArray, List.set_cons_zero, List.set_cons_succ]
        refine held_one (i := 6) (by kernel_rfl) ?_
        refine held_value (some 36) rfl rfl (.pointer (some ⟨xb, 3, none⟩)) (by go_simp <;> rfl) rfl trivial ?_
        simp only [Act.put, List.setIfInBounds_toArray, List.set_cons_zero, List.set_cons_succ]
        refine held_one (i := 7) (by kernel_rfl) ?_
        refine held_store rfl rfl (exec_storeL (.tmp 36) (.tmp 35) rfl rfl rfl (K2.blk.grown hgrow (fun e => by have := ownBlock_ge K2.own e.symm; have := K2.lo3; omega)) (by simp)) trivial ?_
        simp only [Act.put, List.setIfInBounds_toArray, List.set_cons_zero, List.set_cons_succ]
        refine wpAnyH_done (by kernel_rfl) ?_ _
        clear hrun hown' hgrow hob K2 hiff
        rw [← HTS.out, show [V] = [zs.getD k Itm.none_].map logL by rw [← HS.out]; rfl, ← List.map_append, ← HD3.out, ← logsE_snoc, ← HD3.out] at K3
        go_wp2_with fail
        go_roundw
        case rel => exact ⟨k + 1, _, _, HKZ.out, K3⟩
        case measure => rw [K3.rd2.len, HWR.out, List.length_drop, ← HZL.out, List.length_drop]; have := HKZ.out; omega
      · skip
        refine held_enter (some 33) rfl rfl 65 #[.pointer (some ⟨r2, 0, none⟩)] (exec_callm 65 (.tmp 32) rfl _ rfl (enters_of Tryz.func65 (by kernel_rfl) rfl _ _)) rfl ((logR2_any B r2 (zs.drop k) _ _ K0.rd2 V (by rw [HD.out]; exact HS.out)).mono ?_)
        rintro e u1 ⟨T, tc, rfl, hT, hN, hrr, hgc⟩
        rw [HD.out, HD2.out] at hrr
        have hT1 := K0.new_top hT
        have K1 := K0.read hgc hrr
        refine ⟨_, rfl, trivial, ?_⟩
        simp only [Act.put, List.setIfInBounds_toArray, List.set_cons_zero, List.set_cons_succ]
        refine held_two (i := 1) (j := 4) (by kernel_rfl) ?_ ?_
        · skip
          refine held_value (some 31) rfl rfl (.slice vA k vc) (exec_load1 23 (.tmp 30) rfl _ rfl _ _ Tryz.underlying23 rfl (K1.blk.cell 3)) rfl trivial ?_
          simp only [Act.put, List.setIfInBounds_toArray, List.set_cons_zero, List.set_cons_succ]
          refine held_one (i := 4) (by kernel_rfl) ?_
          refine held_value (some 34) rfl rfl (.slice (some ⟨u1.heap.size, 0, none⟩) 1 1) (by go_simp <;> rfl) rfl trivial ?_
          simp only [Act.put, List.setIfInBounds_toArray, List.set_cons_zero, List.set_cons_succ]
          have K2 := K1.kept (only_alloc (World.grownBy.refl u1 none) (.cells #[.string V.addr, .slice T V.topics.length tc, .string V.data] 40))
          obtain ⟨i0, hi, hz0, hzs, hzb⟩ := info_parts log_info
          obtain ⟨v', u2, hrun, hown', hgrow, hiff, hob⟩ := run_append_own_at (P := Tryz.prog) (u1.alloc (.cells #[.string V.addr, .slice T V.topics.length tc, .string V.data] 40)) (r2 + 1) 23 23 40 i0 _ 3 56 Tryz.underlying23 hi hz0 hzs hzb rfl (by decide) (.slice vA k vc) k (logsV ls vs) K2.own ⟨u1.heap.size, 0, none⟩ 1 1 [.string V.addr, .slice T V.topics.length tc, .string V.data] rfl (cell_three_new _ _ _ _ _) (by simp [Value.oneCell']) (by simp only [maxLen]; omega) (by omega) K2.sz
          obtain ⟨g', cap', rfl⟩ := ownsRow_succ hown'
          have K3 := K2.put (hT1.keep fun p _ c hc => (only_alloc (World.grownBy.refl u1 none) (.cells #[.string V.addr, .slice T V.topics.length tc, .string V.data] 40)).cell hc (by simp)) hN hown' hgrow hob
          refine held_one (i := 5) (by kernel_rfl) ?_
          refine held_value (some 35) rfl rfl (.slice (some ⟨g', 0, none⟩) (k + 1) cap') (exec_append (.tmp 31) (.tmp 34) 23 rfl _ _ _ rfl rfl hrun) rfl trivial ?_
          simp only [Act.put, List.setIfInBounds_toArray, List.set_cons_zero, List.set_cons_succ]
          refine held_one (i := 6) (by kernel_rfl) ?_
          refine held_value (some 36) rfl rfl (.pointer (some ⟨xb, 3, none⟩)) (by go_simp <;> rfl) rfl trivial ?_
          simp only [Act.put, List.setIfInBounds_toArray, List.set_cons_zero, List.set_cons_succ]
          refine held_one (i := 7) (by kernel_rfl) ?_
          refine held_store rfl rfl (exec_storeL (.tmp 36) (.tmp 35) rfl rfl rfl (K2.blk.grown hgrow (fun e => by have := ownBlock_ge K2.own e.symm; have := K2.lo3; omega)) (by simp)) trivial ?_
          simp only [Act.put, List.setIfInBounds_toArray, List.set_cons_zero, List.set_cons_succ]
          refine wpAnyH_done (by kernel_rfl) ?_ _
          clear hrun hown' hgrow hob K2 hiff
          rw [← HTS.out, show [V] = [zs.getD k Itm.none_].map logL by rw [← HS.out]; rfl, ← List.map_append, ← HD3.out, ← logsE_snoc, ← HD3.out] at K3
          go_wp2_with fail
          go_roundw
          case rel => exact ⟨k + 1, _, _, HKZ.out, K3⟩
          case measure => rw [K3.rd2.len, HWR.out, List.length_drop, ← HZL.out, List.length_drop]; have := HKZ.out; omega
        · skip
          refine held_value (some 34) rfl rfl (.slice (some ⟨u1.heap.size, 0, none⟩) 1 1) (by go_simp <;> rfl) rfl trivial ?_
          simp only [Act.put, List.setIfInBounds_toArray, List.set_cons_zero, List.set_cons_succ]
          have K2 := K1.kept (only_alloc (World.grownBy.refl u1 none) (.cells #[.string V.addr, .slice T V.topics.length tc, .string V.data] 40))
          refine held_one (i := 1) (by kernel_rfl) ?_
          refine held_value (some 31) rfl rfl (.slice vA k vc) (exec_load1 23 (.tmp 30) rfl _ rfl _ _ Tryz.underlying23 rfl (K2.blk.cell 3)) rfl trivial ?_
          simp only [Act.put, List.setIfInBounds_toArray, List.set_cons_zero, List.set_cons_succ]
          obtain ⟨i0, hi, hz0, hzs, hzb⟩ := info_parts log_info
          obtain ⟨v', u2, hrun, hown', hgrow, hiff, hob⟩ := run_append_own_at (P := Tryz.prog) (u1.alloc (.cells #[.string V.addr, .slice T V.topics.length tc, .string V.data] 40)) (r2 + 1) 23 23 40 i0 _ 3 56 Tryz.underlying23 hi hz0 hzs hzb rfl (by decide) (.slice vA k vc) k (logsV ls vs) K2.own ⟨u1.heap.size, 0, none⟩ 1 1 [.string V.addr, .slice T V.topics.length tc, .string V.data] rfl (cell_three_new _ _ _ _ _) (by simp [Value.oneCell']) (by simp only [maxLen]; omega) (by omega) K2.sz
          obtain ⟨g', cap', rfl⟩ := ownsRow_succ hown'
          have K3 := K2.put (hT1.keep fun p _ c hc => (only_alloc (World.grownBy.refl u1 none) (.cells #[.string V.addr, .slice T V.topics.length tc, .string V.data] 40)).cell hc (by simp)) hN hown' hgrow hob
          refine held_one (i := 5) (by kernel_rfl) ?_
          refine held_value (some 35) rfl rfl (.slice (some ⟨g', 0, none⟩) (k + 1) cap') (exec_append (.tmp 31) (.tmp 34) 23 rfl _ _ _ rfl rfl hrun) rfl trivial ?_
          simp only [Act.put, List.setIfInBounds_toArray, List.set_cons_zero, List.set_cons_succ]
          refine held_one (i := 6) (by kernel_rfl) ?_
          refine held_value (some 36) rfl rfl (.pointer (some ⟨xb, 3, none⟩)) (by go_simp <;> rfl) rfl trivial ?_
          simp only [Act.put, List.setIfInBounds_toArray, List.set_cons_zero, List.set_cons_succ]
          refine held_one (i := 7) (by kernel_rfl) ?_
          refine held_store rfl rfl (exec_storeL (.tmp 36) (.tmp 35) rfl rfl rfl (K2.blk.grown hgrow (fun e => by have := ownBlock_ge K2.own e.symm; have := K2.lo3; omega)) (by simp)) trivial ?_
          simp only [Act.put, List.setIfInBounds_toArray, List.set_cons_zero, List.set_cons_succ]
          refine wpAnyH_done (by kernel_rfl) ?_ _
          clear hrun hown' hgrow hob K2 hiff
          rw [← HTS.out, show [V] = [zs.getD k Itm.none_].map logL by rw [← HS.out]; rfl, ← List.map_append, ← HD3.out, ← logsE_snoc, ← HD3.out] at K3
          go_wp2_with fail
          go_roundw
          case rel => exact ⟨k + 1, _, _, HKZ.out, K3⟩
          case measure => rw [K3.rd2.len, HWR.out, List.length_drop, ← HZL.out, List.length_drop]; have := HKZ.out; omega
    · obtain rfl : k = zs.length := by omega
      have hT : zs.take zs.length = zs := List.take_of_length_le (Nat.le_refl _)
      have hD : zs.drop zs.length = [] := List.drop_eq_nil_of_le (Nat.le_refl _)
      rw [hT, hD, HE4.out] at K0
      rw [hD] at x0
      clear hT hD HLN hb3 hk hlt x0
      obtain ⟨A, c, rfl⟩ := own_slice3 K0.own
      obtain ⟨A3, c3, wh3, hb3, _⟩ := K0.rd2.ex
      have x0 := hb3.cell 0; have x1 := hb3.cell 1
      obtain ⟨A2, c2, wh2, hb2, _⟩ := K0.rd.ex
      have y1 := hb2.cell 1; have yf := hb2.frozen 1
      simp only [List.getElem?_toArray, List.getElem?_cons_zero, List.getElem?_cons_succ, List.length_nil] at x0 x1 y1
      have hK := Lib.hid (K0.fin.err wh3 E4)
      clear hb2 hb3 K0
      go_upto_region 7 with (fail)
      refine wp_region_list ?_
      iterate 21 go_step
      refine wp_store_err (.tmp 43) (.tmp 41) rfl r wh3 E4 rfl rfl _ y1 yf ?_
      generalize wr.setCell ⟨r, 1, none⟩ (errV wh3 E4) = W6 at *
      simp only [Act.put]
      clear x0 x1 y1 yf
      obtain ⟨A0, c0, wh0, hb0, _⟩ := hK.out.rd.ex
      have x0 := hb0.cell 0
      simp only [List.getElem?_toArray, List.getElem?_cons_zero] at x0
      clear hb0
      have HK1 := Lib.hid (fun (W : World) E (hW : RdR B W r p4 E) => numberR_any B r p4 E W hW (hd_sz HS3.out))
      have hs4 := tl_sz HS3.out
      cases p4 with
      | nil =>
        clear HK1 hs4
        simp only [List.length_nil] at x0
        obtain ⟨z0, z1, z2, z3, z4, z5, z6, hBg⟩ : ∃ z0 z1 z2 z3 z4 z5 z6, Blk W6 g0 25 #[z0, z1, z2, z3, z4, z5, z6] := ⟨_, _, _, _, _, _, _, HB1.out.grown hK.out.grown (by have := HLT.out; simp; omega)⟩
        have e0 := hBg.cell 0; have e1 := hBg.cell 1; have e2 := hBg.cell 2; have e3 := hBg.cell 3; have e4 := hBg.cell 4; have e5 := hBg.cell 5; have e6 := hBg.cell 6
        have f0 := hBg.frozen 0; have f1 := hBg.frozen 1; have f2 := hBg.frozen 2; have f3 := hBg.frozen 3; have f4 := hBg.frozen 4; have f5 := hBg.frozen 5; have f6 := hBg.frozen 6
        simp only [List.getElem?_toArray, List.getElem?_cons_zero, List.getElem?_cons_succ] at e0 e1 e2 e3 e4 e5 e6
        obtain ⟨b0, b1, b2, b3, b4, b5, b6⟩ := hK.out.cells
        have HEND := Lib.hid (hK.out.done hBg (by have := HZ.out; omega) HLT.out (fun i _ => logs_topics zs i) (.int .i64 kd) (.bool st) (.int .u64 (gas : Int)) (.slice A zs.length c) (.bool false) (.int .u64 (0 : Nat)) (.int .u64 (0 : Nat)))
        have HGW := Lib.hid hK.out.grown
        clear hBg hK
        go_wp2_with fail
        refine bodyPost_ret (results_cell1 (fn := Tryz.f41) rfl _ _ _ _ rfl (load_rcF HEND.out.1)) rfl ?_
        obtain ⟨k1, k2, k3, k4⟩ := HEND.out
        have hw := HW.out; have hx := HX.out; have hf := HF.out
        refine ⟨A, zs.length, c, [], ?_, ?_, ?_, ?_⟩
        · rw [hx]; rfl
        · rw [hx]; exact k2.weak fun q hq => (show w.heap.size ≤ q by have h : W1.heap.size ≤ q := hq; have := HZ.out; omega)
        · rw [hf]; exact k3
        · exact grown_self (grown_self (grown_row HG1.out (some r)) HGW.out (fun k hk => .inl hk)) k4 (fun k hk => .inr (by cases hk; omega))
      | cons y l5 =>
        have HK2 := Lib.hid (fun (W : World) E (hW : RdR B W r l5 E) => numberR_any B r l5 E W hW (hd_sz hs4))
        obtain ⟨m, hm⟩ : ∃ m, (y :: l5).length = m := ⟨_, rfl⟩
        have hq : (0 : Int) < (m : Int) := by rw [← hm, List.length_cons]; omega
        rw [hm] at x0
        clear hm hs4
        obtain ⟨n1, hn1⟩ : ∃ n, numV y.list y.bytes = n := ⟨_, rfl⟩
        obtain ⟨E5, hE5⟩ : ∃ n, fst1 E4 (numE y.list y.bytes) = n := ⟨_, rfl⟩
        have HN1 := Lib.hid hn1; have HE5 := Lib.hid hE5
        clear hn1 hE5
        go_wp2_with fail
        refine (HK1.out W6 _ hK.out.rd).mono ?_
        rintro e w7 ⟨rfl, hR7, hg7⟩
        simp only [List.headD_cons, List.tail_cons] at hR7 ⊢
        rw [HE5.out] at hR7
        rw [HN1.out]
        have hK7 := Lib.hid (hK.out.read hg7 hR7)
        have hK8 := Lib.hid ((hK7.out.setx 4 (.bool true)).setx 5 (.int .u64 (n1 : Int)))
        have b4 := hK7.out.cells.2.2.2.2.1; have b5 := hK7.out.cells.2.2.2.2.2.1
        have f4 := hK7.out.blk.frozen 4; have f5 := hK7.out.blk.frozen 5
        have hK8 : Hid (OfEnd B W1 r r2 xb #[.int .i64 kd, .bool st, .int .u64 (gas : Int), .slice A zs.length c, .bool true, .int .u64 (n1 : Int), .int .u64 0] A c zs.length (zs.map logL) l5 E5 ((w7.setCell ⟨xb, 4, none⟩ (.bool true)).setCell ⟨xb, 5, none⟩ (.int .u64 (n1 : Int)))) := by simpa using hK8
        clear hK hR7 hg7 x0 hK7 HK1 hq
        go_upto_region 10 with (fail)
        generalize (w7.setCell ⟨xb, 4, none⟩ (.bool true)).setCell ⟨xb, 5, none⟩ (.int .u64 (n1 : Int)) = W8 at *
        clear b4 b5 f4 f5
        obtain ⟨A0, c0, wh0, hb0, _⟩ := hK8.out.rd.ex
        have x0 := hb0.cell 0
        simp only [List.getElem?_toArray, List.getElem?_cons_zero] at x0
        clear hb0
        cases l5 with
        | nil =>
          clear HK2
          simp only [List.length_nil] at x0
          obtain ⟨z0, z1, z2, z3, z4, z5, z6, hBg⟩ : ∃ z0 z1 z2 z3 z4 z5 z6, Blk W8 g0 25 #[z0, z1, z2, z3, z4, z5, z6] := ⟨_, _, _, _, _, _, _, HB1.out.grown hK8.out.grown (by have := HLT.out; simp; omega)⟩
          have e0 := hBg.cell 0; have e1 := hBg.cell 1; have e2 := hBg.cell 2; have e3 := hBg.cell 3; have e4 := hBg.cell 4; have e5 := hBg.cell 5; have e6 := hBg.cell 6
          have f0 := hBg.frozen 0; have f1 := hBg.frozen 1; have f2 := hBg.frozen 2; have f3 := hBg.frozen 3; have f4 := hBg.frozen 4; have f5 := hBg.frozen 5; have f6 := hBg.frozen 6
          simp only [List.getElem?_toArray, List.getElem?_cons_zero, List.getElem?_cons_succ] at e0 e1 e2 e3 e4 e5 e6
          obtain ⟨b0, b1, b2, b3, b4, b5, b6⟩ := hK8.out.cells
          have HEND := Lib.hid (hK8.out.done hBg (by have := HZ.out; omega) HLT.out (fun i _ => logs_topics zs i) (.int .i64 kd) (.bool st) (.int .u64 (gas : Int)) (.slice A zs.length c) (.bool true) (.int .u64 (n1 : Nat)) (.int .u64 (0 : Nat)))
          have HGW := Lib.hid hK8.out.grown
          clear hBg hK8
          go_wp2_with fail
          refine bodyPost_ret (results_cell1 (fn := Tryz.f41) rfl _ _ _ _ rfl (load_rcF HEND.out.1)) rfl ?_
          obtain ⟨k1, k2, k3, k4⟩ := HEND.out
          have hw := HW.out; have hx := HX.out; have hf := HF.out
          refine ⟨A, zs.length, c, [], ?_, ?_, ?_, ?_⟩
          · rw [hx, ← HN1.out]; rfl
          · rw [hx]; exact k2.weak fun q hq => (show w.heap.size ≤ q by have h : W1.heap.size ≤ q := hq; have := HZ.out; omega)
          · rw [hf]; show RdR B _ r [] (fst1 E4 (numE y.list y.bytes)); rw [HE5.out]; exact k3
          · exact grown_self (grown_self (grown_row HG1.out (some r)) HGW.out (fun k hk => .inl hk)) k4 (fun k hk => .inr (by cases hk; omega))
        | cons z l6 =>
          obtain ⟨m, hm⟩ : ∃ m, (z :: l6).length = m := ⟨_, rfl⟩
          have hq : (0 : Int) < (m : Int) := by rw [← hm, List.length_cons]; omega
          rw [hm] at x0
          clear hm
          obtain ⟨n2, hn2⟩ : ∃ n, numV z.list z.bytes = n := ⟨_, rfl⟩
          obtain ⟨E6, hE6⟩ : ∃ n, fst1 E5 (numE z.list z.bytes) = n := ⟨_, rfl⟩
          have HN2 := Lib.hid hn2; have HE6 := Lib.hid hE6
          clear hn2 hE6
          go_wp2_with fail
          refine (HK2.out W8 _ hK8.out.rd).mono ?_
          rintro e w9 ⟨rfl, hR9, hg9⟩
          simp only [List.headD_cons, List.tail_cons] at hR9 ⊢
          rw [HE6.out] at hR9
          rw [HN2.out]
          have hK9 := Lib.hid (hK8.out.read hg9 hR9)
          have hK10 := Lib.hid (hK9.out.setx 6 (.int .u64 (n2 : Int)))
          have b6 := hK9.out.cells.2.2.2.2.2.2
          have f6 := hK9.out.blk.frozen 6
          have hK10 : Hid (OfEnd B W1 r r2 xb #[.int .i64 kd, .bool st, .int .u64 (gas : Int), .slice A zs.length c, .bool true, .int .u64 (n1 : Int), .int .u64 (n2 : Int)] A c zs.length (zs.map logL) l6 E6 (w9.setCell ⟨xb, 6, none⟩ (.int .u64 (n2 : Int)))) := by simpa using hK10
          clear hK8 hR9 hg9 x0 hK9 HK2 hq
          go_upto_region 12 with (fail)
          generalize w9.setCell ⟨xb, 6, none⟩ (.int .u64 (n2 : Int)) = W10 at *
          clear b6 f6
          by_cases hv : n2 = 1
          · have hvi : ((n2 : Int) != 1) = false := by subst hv; rfl
            have HV := Lib.hid hv
            clear hv
            obtain ⟨z0, z1, z2, z3, z4, z5, z6, hBg⟩ : ∃ z0 z1 z2 z3 z4 z5 z6, Blk W10 g0 25 #[z0, z1, z2, z3, z4, z5, z6] := ⟨_, _, _, _, _, _, _, HB1.out.grown hK10.out.grown (by have := HLT.out; simp; omega)⟩
            have e0 := hBg.cell 0; have e1 := hBg.cell 1; have e2 := hBg.cell 2; have e3 := hBg.cell 3; have e4 := hBg.cell 4; have e5 := hBg.cell 5; have e6 := hBg.cell 6
            have f0 := hBg.frozen 0; have f1 := hBg.frozen 1; have f2 := hBg.frozen 2; have f3 := hBg.frozen 3; have f4 := hBg.frozen 4; have f5 := hBg.frozen 5; have f6 := hBg.frozen 6
            simp only [List.getElem?_toArray, List.getElem?_cons_zero, List.getElem?_cons_succ] at e0 e1 e2 e3 e4 e5 e6
            obtain ⟨b0, b1, b2, b3, b4, b5, b6⟩ := hK10.out.cells
            have HEND := Lib.hid (hK10.out.done hBg (by have := HZ.out; omega) HLT.out (fun i _ => logs_topics zs i) (.int .i64 kd) (.bool st) (.int .u64 (gas : Int)) (.slice A zs.length c) (.bool true) (.int .u64 (n1 : Nat)) (.int .u64 (n2 : Nat)))
            have HGW := Lib.hid hK10.out.grown
            clear hBg hK10
            go_wp2_with fail
            refine bodyPost_ret (results_cell1 (fn := Tryz.f41) rfl _ _ _ _ rfl (load_rcF HEND.out.1)) rfl ?_
            obtain ⟨k1, k2, k3, k4⟩ := HEND.out
            have hw := HW.out; have hx := HX.out; have hf := HF.out
            refine ⟨A, zs.length, c, l6, ?_, ?_, ?_, ?_⟩
            · rw [hx, ← HN1.out, ← HN2.out]; rfl
            · rw [hx]; exact k2.weak fun q hq => (show w.heap.size ≤ q by have h : W1.heap.size ≤ q := hq; have := HZ.out; omega)
            · rw [hf]; show RdR B _ r l6 (if numV z.list z.bytes = 1 then fst1 (fst1 E4 (numE y.list y.bytes)) (numE z.list z.bytes) else fst1 (fst1 (fst1 E4 (numE y.list y.bytes)) (numE z.list z.bytes)) 2); rw [HE5.out, HE6.out, if_pos (HN2.out.trans HV.out)]; exact k3
            · exact grown_self (grown_self (grown_row HG1.out (some r)) HGW.out (fun k hk => .inl hk)) k4 (fun k hk => .inr (by cases hk; omega))
          · have hvi : ((n2 : Int) != 1) = true := by simp; omega
            have HV := Lib.hid hv
            have b6 := hK10.out.cells.2.2.2.2.2.2
            clear hv
            go_wp2_with fail
            refine (keepR_any ⟨#[118, 101, 114, 115, 105, 111, 110]⟩ 2 B r l6 E6 W10 hK10.out.rd).mono ?_
            rintro e w11 ⟨rfl, hR11, hg11⟩
            have hK11 := Lib.hid (hK10.out.read hg11 hR11)
            clear hK10 hR11 hg11 b6
            obtain ⟨z0, z1, z2, z3, z4, z5, z6, hBg⟩ : ∃ z0 z1 z2 z3 z4 z5 z6, Blk w11 g0 25 #[z0, z1, z2, z3, z4, z5, z6] := ⟨_, _, _, _, _, _, _, HB1.out.grown hK11.out.grown (by have := HLT.out; simp; omega)⟩
            have e0 := hBg.cell 0; have e1 := hBg.cell 1; have e2 := hBg.cell 2; have e3 := hBg.cell 3; have e4 := hBg.cell 4; have e5 := hBg.cell 5; have e6 := hBg.cell 6
            have f0 := hBg.frozen 0; have f1 := hBg.frozen 1; have f2 := hBg.frozen 2; have f3 := hBg.frozen 3; have f4 := hBg.frozen 4; have f5 := hBg.frozen 5; have f6 := hBg.frozen 6
            simp only [List.getElem?_toArray, List.getElem?_cons_zero, List.getElem?_cons_succ] at e0 e1 e2 e3 e4 e5 e6
            obtain ⟨b0, b1, b2, b3, b4, b5, b6⟩ := hK11.out.cells
            have HEND := Lib.hid (hK11.out.done hBg (by have := HZ.out; omega) HLT.out (fun i _ => logs_topics zs i) (.int .i64 kd) (.bool st) (.int .u64 (gas : Int)) (.slice A zs.length c) (.bool true) (.int .u64 (n1 : Nat)) (.int .u64 (n2 : Nat)))
            have HGW := Lib.hid hK11.out.grown
            clear hBg hK11
            go_wp2_with fail
            refine bodyPost_ret (results_cell1 (fn := Tryz.f41) rfl _ _ _ _ rfl (load_rcF HEND.out.1)) rfl ?_
            obtain ⟨k1, k2, k3, k4⟩ := HEND.out
            have hw := HW.out; have hx := HX.out; have hf := HF.out
            refine ⟨A, zs.length, c, l6, ?_, ?_, ?_, ?_⟩
            · rw [hx, ← HN1.out, ← HN2.out]; rfl
            · rw [hx]; exact k2.weak fun q hq => (show w.heap.size ≤ q by have h : W1.heap.size ≤ q := hq; have := HZ.out; omega)
            · rw [hf]; show RdR B _ r l6 (if numV z.list z.bytes = 1 then fst1 (fst1 E4 (numE y.list y.bytes)) (numE z.list z.bytes) else fst1 (fst1 (fst1 E4 (numE y.list y.bytes)) (numE z.list z.bytes)) 2); rw [HE5.out, HE6.out, if_neg (fun e => HV.out (HN2.out.symm.trans e))]; exact k3
            · exact grown_self (grown_self (grown_row HG1.out (some r)) HGW.out (fun k hk => .inl hk)) k4 (fun k hk => .inr (by cases hk; omega))
end Go.Proofs.YthalohloneojlaaGreatDoor
/- errors.As at an api.Errno within a receipt.failure: what it sets.  (Turned from the guide's worked example of errors.As.)  Printed by wip/genRcpAs.py -/
namespace Go.Proofs.YthalohloneojlaaGreatDoor
open Go.RowKit Go.Shelf Go.Extern.Stop Go.Stop Go.Extern
set_option linter.unusedVariables false
set_option linter.unusedSimpArgs false

theorem As.valueOfP (t : Addr) (w : World) : (ReflectliteValue.unpack (.iface 71 (.pointer (some t)))).run Tryz.prog w
    = .ok (.agg #[.pointer (some ⟨4, 71, none⟩), .pointer (some ⟨w.heap.size, 0, none⟩), .int .u64 150]) (w.alloc (.cells #[.pointer (some t)] 71)) := by kernel_rfl
theorem As.typeP (a : Addr) (w : World) : (ReflectliteValue.methodAny (ReflectliteValue.valueError "reflectlite.Value.Type" 0) (fun t _ _ _ => ReflectliteType.toType t) #[.agg #[.pointer (some ⟨4, 71, none⟩), .pointer (some a), .int .u64 150]]).run Tryz.prog w
    = .ok (.iface 162 (.agg #[.pointer (some ⟨4, 71, none⟩)])) w := by kernel_rfl
theorem As.methodKind (h : Value) (w : World) : (Go.method 376 162 (.agg #[h]) "Kind").run Tryz.prog w = .ok (190, h) w := by kernel_rfl
theorem As.valueOfE (E : Int) (w : World) : (ReflectliteValue.unpack (.iface 28 (.int .i64 E))).run Tryz.prog w
    = .ok (.agg #[.pointer (some ⟨4, 28, none⟩), .pointer (some ⟨w.heap.size, 0, none⟩), .int .u64 130]) (w.alloc (.cells #[.int .i64 E] 28)) := by kernel_rfl
theorem As.kindP (w : World) : ((ReflectliteType.abiMethod fun t => (fun a : Nat => Value.int IntKind.u8 (a : Int)) <$> Rtype.kind t) #[.pointer (some ⟨4, 71, none⟩)]).run Tryz.prog w = .ok (.int .u8 22) w := by kernel_rfl
theorem As.kindE (w : World) : ((ReflectliteType.abiMethod fun t => (fun a : Nat => Value.int IntKind.u8 (a : Int)) <$> Rtype.kind t) #[.pointer (some ⟨4, 28, none⟩)]).run Tryz.prog w = .ok (.int .u8 2) w := by kernel_rfl
theorem rlm (z : Sem Value) (f : TypeId → Addr → Nat → Nat → Sem Value) (v : Value) :
    ReflectliteValue.method z f #[v] = (do match ← ReflectliteValue.parts v with | none => z | some (t, a, fl) => f t a fl (fl % 32)) := rfl
theorem As.partsP (a : Addr) (w : World) : (ReflectliteValue.parts (.agg #[.pointer (some ⟨4, 71, none⟩), .pointer (some a), .int .u64 150])).run Tryz.prog w = .ok (some (71, a, 150)) w := by kernel_rfl
theorem As.isNilP (a p : Addr) (W : World) (ha : W.cell? a = some (.pointer (some p))) :
    (ReflectliteValue.method (ReflectliteValue.valueError "reflectlite.Value.IsNil" 0) ReflectliteValue.isNil #[.agg #[.pointer (some ⟨4, 71, none⟩), .pointer (some a), .int .u64 150]]).run Tryz.prog W = .ok (.bool false) W := by
  rw [rlm]
  simp only [Sem.run_bind, As.partsP, Result.andThen]
  simp [ReflectliteValue.isNil, loadVar, isAgg, underlying, Tryz.underlying71, ha, Result.andThen]
theorem As.methodElem (h : Value) (w : World) : (Go.method 376 162 (.agg #[h]) "Elem").run Tryz.prog w = .ok (203, .agg #[h]) w := by kernel_rfl
theorem As.methodImplements (h : Value) (w : World) : (Go.method 376 162 (.agg #[h]) "Implements").run Tryz.prog w = .ok (204, .agg #[h]) w := by kernel_rfl
theorem As.methodAssignableTo (h : Value) (w : World) : (Go.method 376 162 (.agg #[h]) "AssignableTo").run Tryz.prog w = .ok (201, .agg #[h]) w := by kernel_rfl
theorem As.methodUnwrap (h : Value) (w : World) : (Go.method 376 159 h "Unwrap").run Tryz.prog w = .ok (199, h) w := by kernel_rfl
theorem As.elemP (w : World) : (ReflectliteType.method ReflectliteType.elem #[.agg #[.pointer (some ⟨4, 71, none⟩)]]).run Tryz.prog w = .ok (.iface 162 (.agg #[.pointer (some ⟨4, 28, none⟩)])) w := by kernel_rfl
theorem As.implementsE (w : World) : (ReflectliteType.relation "Implements" ReflectliteType.implements_ #[.agg #[.pointer (some ⟨4, 28, none⟩)], .iface 162 (.agg #[.pointer (some ⟨4, 65, none⟩)])]).run Tryz.prog w = .ok (.bool true) w := by kernel_rfl
theorem As.typeOfE (v : Value) (w : World) : (ReflectliteType.typeOf #[.iface 28 v]).run Tryz.prog w = .ok (.iface 162 (.agg #[.pointer (some ⟨4, 28, none⟩)])) w := by kernel_rfl
theorem As.typeOfF (v : Value) (w : World) : (ReflectliteType.typeOf #[.iface 159 v]).run Tryz.prog w = .ok (.iface 162 (.agg #[.pointer (some ⟨4, 159, none⟩)])) w := by kernel_rfl
theorem As.assignableE (w : World) : (ReflectliteType.relation "AssignableTo" ReflectliteType.assignableTo #[.agg #[.pointer (some ⟨4, 28, none⟩)], .iface 162 (.agg #[.pointer (some ⟨4, 28, none⟩)])]).run Tryz.prog w = .ok (.bool true) w := by kernel_rfl
theorem As.assignableF (w : World) : (ReflectliteType.relation "AssignableTo" ReflectliteType.assignableTo #[.agg #[.pointer (some ⟨4, 159, none⟩)], .iface 162 (.agg #[.pointer (some ⟨4, 28, none⟩)])]).run Tryz.prog w = .ok (.bool false) w := by kernel_rfl
theorem As.elemOfP (w : World) : (Rtype.elem? 71).run Tryz.prog w = .ok (some 28) w := by kernel_rfl
theorem As.mkE (p : Addr) (w : World) : (ReflectliteValue.mk 28 p ReflectliteValue.flagAddr).run Tryz.prog w = .ok (.agg #[.pointer (some ⟨4, 28, none⟩), .pointer (some p), .int .u64 386]) w := by kernel_rfl
theorem As.elemV (a p : Addr) (W : World) (ha : W.cell? a = some (.pointer (some p))) :
    (ReflectliteValue.method (ReflectliteValue.valueError "reflectlite.Value.Elem" 0) ReflectliteValue.elem #[.agg #[.pointer (some ⟨4, 71, none⟩), .pointer (some a), .int .u64 150]]).run Tryz.prog W
      = .ok (.agg #[.pointer (some ⟨4, 28, none⟩), .pointer (some p), .int .u64 386]) W := by
  rw [rlm]
  simp only [Sem.run_bind, As.partsP, Result.andThen]
  simp [ReflectliteValue.elem, loadVar, isAgg, underlying, Tryz.underlying71, ha, Result.andThen, As.elemOfP, As.mkE]
theorem rls (v x : Value) : ReflectliteValue.set #[v, x] = (do
    let (some (dst, a, fl), some (src, b, _)) := (← ReflectliteValue.parts v, ← ReflectliteValue.parts x)
      | unsupported (.noEntry "extern/(internal/reflectlite.Value).Set.zeroValue")
    if fl / ReflectliteValue.flagAddr % 2 == 0 then unsupported (.noEntry "extern/(internal/reflectlite.Value).Set.unaddressable")
    let val ← loadVar src b
    if ← Rtype.directlyAssignable dst src then storeVar dst a val
    else if ← Rtype.implements dst src then
      if (← Rtype.kind src) == 20 then
        match val with
        | .nilIface => unsupported (.noEntry "extern/reflectlite: a nil value of one interface type handed on as a value of another")
        | _ => storeVar dst a val
      else storeVar dst a (.iface src val)
    else panicString ("reflectlite.Set: value of type " ++ (← Rtype.spelt src) ++ " is not assignable to type " ++ (← Rtype.spelt dst))
    pure (.tuple #[])) := rfl
theorem As.partsEa (a : Addr) (w : World) : (ReflectliteValue.parts (.agg #[.pointer (some ⟨4, 28, none⟩), .pointer (some a), .int .u64 386])).run Tryz.prog w = .ok (some (28, a, 386)) w := by kernel_rfl
theorem As.partsE (a : Addr) (w : World) : (ReflectliteValue.parts (.agg #[.pointer (some ⟨4, 28, none⟩), .pointer (some a), .int .u64 130])).run Tryz.prog w = .ok (some (28, a, 130)) w := by kernel_rfl
theorem As.directE (w : World) : (Rtype.directlyAssignable 28 28).run Tryz.prog w = .ok true w := by kernel_rfl
theorem As.setE (ta b : Addr) (E : Int) (old : Value) (W : World) (hb : W.cell? b = some (.int .i64 E)) (ht : W.cell? ta = some old) (hf : W.frozen? ta = false) :
    (ReflectliteValue.set #[.agg #[.pointer (some ⟨4, 28, none⟩), .pointer (some ta), .int .u64 386], .agg #[.pointer (some ⟨4, 28, none⟩), .pointer (some b), .int .u64 130]]).run Tryz.prog W
      = .ok (.tuple #[]) (W.setCell ta (.int .i64 E)) := by
  rw [rls]
  simp only [Sem.run_bind, As.partsEa, As.partsE, Result.andThen]
  simp [ReflectliteValue.flagAddr, loadVar, isAgg, underlying, Tryz.underlying28, hb, Result.andThen, As.directE, storeVar, Value.cells, storeCells, Addr.add]
  rw [run_store Tryz.prog W ta _ _ (by rfl)]
  simp [ht, hf]
theorem As.noAs (v : Value) (w : World) : (Instr.typeAssert (.iface 159 v) 65 167 true).run Tryz.prog w = .ok (.tuple #[.nilIface, .bool false]) w := run_typeAssert_lacksB Tryz.underlying167 (by kernel_rfl) (by kernel_rfl) v 65 w
theorem As.hasUnwrap (v : Value) (w : World) : (Instr.typeAssert (.iface 159 v) 65 170 true).run Tryz.prog w = .ok (.tuple #[.iface 159 v, .bool true]) w := run_typeAssert_hasB Tryz.underlying170 (by kernel_rfl) v 65 w
end Go.Proofs.YthalohloneojlaaGreatDoor
/- errors.As at an api.Errno within a receipt.failure: the walk.  Printed by wip/genRcpAs.py -/
namespace Go.Proofs.YthalohloneojlaaGreatDoor
open Go.RowKit Go.Shelf Go.Extern.Stop Go.Stop Go.Extern
set_option linter.unusedVariables false
set_option linter.unusedSimpArgs false

theorem unwrap_any (wh : ByteArray) (E : Int) (w : World) : Calls Tryz.prog 199 #[.agg #[.string wh, .iface 28 (.int .i64 E)]] w fun ev w' => ev = .returned (.iface 28 (.int .i64 E)) ∧ w' = w.alloc (.cells #[.string wh, .iface 28 (.int .i64 E)] 159) := by
  have b1 := (Blk.new w 159 #[.string wh, .iface 28 (.int .i64 E)]).cell 1
  simp only [List.getElem?_toArray, List.getElem?_cons_zero, List.getElem?_cons_succ] at b1
  go_enter Tryz.func199, Tryz.ntmps199
  go_wp2_with fail
  go_ret
  exact ⟨rfl, rfl⟩
set_option maxRecDepth 100000 in
set_option maxHeartbeats 4000000 in
theorem asIn_any (wh : ByteArray) (E : Int) (g n : Nat) (old : Value) (w : World) (hn : w.cell? ⟨n, 0, none⟩ = some (.pointer (some ⟨g, 0, none⟩))) (hb : Boxed w g 28 old) :
    Calls Tryz.prog 69 #[.iface 159 (.agg #[.string wh, .iface 28 (.int .i64 E)]), .iface 71 (.pointer (some ⟨g, 0, none⟩)), .agg #[.pointer (some ⟨4, 71, none⟩), .pointer (some ⟨n, 0, none⟩), .int .u64 150], .iface 162 (.agg #[.pointer (some ⟨4, 28, none⟩)])] w fun ev w' => ev = .returned (.bool true) ∧ Boxed w' g 28 (.int .i64 E) ∧ w.grownBy w' (some g) := by
  have h0 := @run_callFunc_extern Tryz.prog 66 _ (fun args => ReflectliteValue.unpack (args.getD 0 (.tuple #[]))) Tryz.func66 (by kernel_rfl) (by kernel_rfl) (by kernel_rfl) (by kernel_rfl)
  have h1 := @run_callFunc_extern Tryz.prog 67 _ (ReflectliteValue.methodAny (ReflectliteValue.valueError "reflectlite.Value.Type" 0) (fun t _ _ _ => ReflectliteType.toType t)) Tryz.func67 (by kernel_rfl) (by kernel_rfl) (by kernel_rfl) (by kernel_rfl)
  have h2 := @run_callFunc_extern Tryz.prog 68 _ (ReflectliteValue.method (ReflectliteValue.valueError "reflectlite.Value.IsNil" 0) ReflectliteValue.isNil) Tryz.func68 (by kernel_rfl) (by kernel_rfl) (by kernel_rfl) (by kernel_rfl)
  have h3 := @run_callFunc_extern Tryz.prog 190 _ (ReflectliteType.abiMethod fun t => do pure (.int .u8 (← Rtype.kind t))) Tryz.func190 (by kernel_rfl) (by kernel_rfl) (by kernel_rfl) (by kernel_rfl)
  have h4 := @run_callFunc_extern Tryz.prog 203 _ (ReflectliteType.method ReflectliteType.elem) Tryz.func203 (by kernel_rfl) (by kernel_rfl) (by kernel_rfl) (by kernel_rfl)
  have h5 := @run_callFunc_extern Tryz.prog 204 _ (ReflectliteType.relation "Implements" ReflectliteType.implements_) Tryz.func204 (by kernel_rfl) (by kernel_rfl) (by kernel_rfl) (by kernel_rfl)
  have h6 := @run_callFunc_extern Tryz.prog 102 _ ReflectliteType.typeOf Tryz.func102 (by kernel_rfl) (by kernel_rfl) (by kernel_rfl) (by kernel_rfl)
  have h7 := @run_callFunc_extern Tryz.prog 201 _ (ReflectliteType.relation "AssignableTo" ReflectliteType.assignableTo) Tryz.func201 (by kernel_rfl) (by kernel_rfl) (by kernel_rfl) (by kernel_rfl)
  have h8 := @run_callFunc_extern Tryz.prog 103 _ (ReflectliteValue.method (ReflectliteValue.valueError "reflectlite.Value.Elem" 0) ReflectliteValue.elem) Tryz.func103 (by kernel_rfl) (by kernel_rfl) (by kernel_rfl) (by kernel_rfl)
  have h9 := @run_callFunc_extern Tryz.prog 104 _ ReflectliteValue.set Tryz.func104 (by kernel_rfl) (by kernel_rfl) (by kernel_rfl) (by kernel_rfl)
  have mA := As.methodAssignableTo; have mU := As.methodUnwrap
  have f7 := As.typeOfE; have f8 := As.typeOfF; have f9 := As.assignableE; have f10 := As.assignableF; have f11 := As.valueOfE
  have a1 := As.noAs; have a2 := As.hasUnwrap
  obtain ⟨m, hm⟩ : ∃ n, w.heap.size = n := ⟨_, rfl⟩
  have hlt := hb.lt
  have h1 := hb.kept (only_alloc (World.grownBy.refl w none) (.cells #[.pointer (some ⟨4, 71, none⟩), .pointer (some ⟨n, 0, none⟩), .int .u64 150] 105)) (by simp)
  have n1 := (only_alloc (World.grownBy.refl w none) (.cells #[.pointer (some ⟨4, 71, none⟩), .pointer (some ⟨n, 0, none⟩), .int .u64 150] 105)).cell hn (by simp)
  have b1 := Blk.new w 105 #[.pointer (some ⟨4, 71, none⟩), .pointer (some ⟨n, 0, none⟩), .int .u64 150]
  have g1 := only_alloc (World.grownBy.refl w none) (.cells #[.pointer (some ⟨4, 71, none⟩), .pointer (some ⟨n, 0, none⟩), .int .u64 150] 105)
  have z1 : (w.alloc (.cells #[.pointer (some ⟨4, 71, none⟩), .pointer (some ⟨n, 0, none⟩), .int .u64 150] 105)).heap.size = m + 1 := by simp [hm]
  rw [hm] at b1
  clear hn hb hlt
  go_enter Tryz.func69, Tryz.ntmps69
  go_wp2_with fail
  generalize w.alloc (.cells #[.pointer (some ⟨4, 71, none⟩), .pointer (some ⟨n, 0, none⟩), .int .u64 150] 105) = W1 at *
  have h2 := h1.kept (only_alloc (World.grownBy.refl W1 none) (.cells #[.string wh, .iface 28 (.int .i64 E)] 159)) (by simp)
  have n2 := (only_alloc (World.grownBy.refl W1 none) (.cells #[.string wh, .iface 28 (.int .i64 E)] 159)).cell n1 (by simp)
  have b2 := b1.alloc (.cells #[.string wh, .iface 28 (.int .i64 E)] 159)
  have g2 := only_alloc g1 (.cells #[.string wh, .iface 28 (.int .i64 E)] 159)
  have z2 : (W1.alloc (.cells #[.string wh, .iface 28 (.int .i64 E)] 159)).heap.size = m + 2 := by simp [z1]
  have hlt := h1.lt
  have HX := Lib.hid (show Boxed (W1.alloc (.cells #[.string wh, .iface 28 (.int .i64 E)] 159)) g 28 old ∧ Blk (W1.alloc (.cells #[.string wh, .iface 28 (.int .i64 E)] 159)) m 105 #[.pointer (some ⟨4, 71, none⟩), .pointer (some ⟨n, 0, none⟩), .int .u64 150] ∧ w.grownBy (W1.alloc (.cells #[.string wh, .iface 28 (.int .i64 E)] 159)) none ∧ (W1.alloc (.cells #[.string wh, .iface 28 (.int .i64 E)] 159)).cell? ⟨n, 0, none⟩ = some (.pointer (some ⟨g, 0, none⟩)) from ⟨h2, b2, g2, n2⟩)
  clear h2 n2 b2 g2 h1 n1 b1 g1 hlt
  refine wp_loop_rounds 2 ?_
  rw [rounds_succ]
  go_wp2_with fail
  refine (unwrap_any wh E W1).mono ?_
  rintro e w2 ⟨rfl, rfl⟩
  generalize W1.alloc (.cells #[.string wh, .iface 28 (.int .i64 E)] 159) = W2 at *
  obtain ⟨k1, k2, k3, k4⟩ := HX.out
  have hset := As.elemV ⟨n, 0, none⟩ ⟨g, 0, none⟩ W2 k4
  have x0 := k2.cell 0; have x1 := k2.cell 1; have x2 := k2.cell 2
  simp only [List.getElem?_toArray, List.getElem?_cons_zero, List.getElem?_cons_succ] at x0 x1 x2
  have g4 := only_alloc (World.grownBy.refl W2 none) (.cells #[.int .i64 E] 28)
  have b4 := Boxed.new W2 28 (.int .i64 E)
  rw [z2] at b4
  have h4 := k1.kept g4 (by simp)
  have hs := As.setE ⟨g, 0, none⟩ ⟨m + 2, 0, none⟩ E old (W2.alloc (.cells #[.int .i64 E] 28)) b4.cell h4.cell h4.frozen
  have HEND := Lib.hid (show Boxed ((W2.alloc (.cells #[.int .i64 E] 28)).setCell ⟨g, 0, none⟩ (.int .i64 E)) g 28 (.int .i64 E) ∧ w.grownBy ((W2.alloc (.cells #[.int .i64 E] 28)).setCell ⟨g, 0, none⟩ (.int .i64 E)) (some g) from
    ⟨h4.set _, grown_self (grown_self (grown_row k3 (some g)) (grown_row g4 (some g)) (fun k hk => .inl hk)) (only_setR (World.grownBy.refl _ (some g)) 0 _) (fun k hk => .inl hk)⟩)
  clear k1 k2 k3 k4 HX g4 b4 h4 z1
  go_wp2_with fail
  rw [rounds_succ]
  go_wp2_with fail
  go_ret
  exact ⟨rfl, HEND.out⟩
theorem as_any (wh : ByteArray) (E : Int) (g : Nat) (old : Value) (w : World) (hg : w.cell? ⟨0, 0, none⟩ = some (.iface 162 (.agg #[.pointer (some ⟨4, 65, none⟩)]))) (hb : Boxed w g 28 old) (h0 : 0 < g) :
    Calls Tryz.prog 42 #[.iface 159 (.agg #[.string wh, .iface 28 (.int .i64 E)]), .iface 71 (.pointer (some ⟨g, 0, none⟩))] w fun ev w' => ev = .returned (.bool true) ∧ Boxed w' g 28 (.int .i64 E) ∧ w.grownBy w' (some g) := by
  have h0 := @run_callFunc_extern Tryz.prog 66 _ (fun args => ReflectliteValue.unpack (args.getD 0 (.tuple #[]))) Tryz.func66 (by kernel_rfl) (by kernel_rfl) (by kernel_rfl) (by kernel_rfl)
  have h1 := @run_callFunc_extern Tryz.prog 67 _ (ReflectliteValue.methodAny (ReflectliteValue.valueError "reflectlite.Value.Type" 0) (fun t _ _ _ => ReflectliteType.toType t)) Tryz.func67 (by kernel_rfl) (by kernel_rfl) (by kernel_rfl) (by kernel_rfl)
  have h2 := @run_callFunc_extern Tryz.prog 68 _ (ReflectliteValue.method (ReflectliteValue.valueError "reflectlite.Value.IsNil" 0) ReflectliteValue.isNil) Tryz.func68 (by kernel_rfl) (by kernel_rfl) (by kernel_rfl) (by kernel_rfl)
  have h3 := @run_callFunc_extern Tryz.prog 190 _ (ReflectliteType.abiMethod fun t => do pure (.int .u8 (← Rtype.kind t))) Tryz.func190 (by kernel_rfl) (by kernel_rfl) (by kernel_rfl) (by kernel_rfl)
  have h4 := @run_callFunc_extern Tryz.prog 203 _ (ReflectliteType.method ReflectliteType.elem) Tryz.func203 (by kernel_rfl) (by kernel_rfl) (by kernel_rfl) (by kernel_rfl)
  have h5 := @run_callFunc_extern Tryz.prog 204 _ (ReflectliteType.relation "Implements" ReflectliteType.implements_) Tryz.func204 (by kernel_rfl) (by kernel_rfl) (by kernel_rfl) (by kernel_rfl)
  have h6 := @run_callFunc_extern Tryz.prog 102 _ ReflectliteType.typeOf Tryz.func102 (by kernel_rfl) (by kernel_rfl) (by kernel_rfl) (by kernel_rfl)
  have h7 := @run_callFunc_extern Tryz.prog 201 _ (ReflectliteType.relation "AssignableTo" ReflectliteType.assignableTo) Tryz.func201 (by kernel_rfl) (by kernel_rfl) (by kernel_rfl) (by kernel_rfl)
  have h8 := @run_callFunc_extern Tryz.prog 103 _ (ReflectliteValue.method (ReflectliteValue.valueError "reflectlite.Value.Elem" 0) ReflectliteValue.elem) Tryz.func103 (by kernel_rfl) (by kernel_rfl) (by kernel_rfl) (by kernel_rfl)
  have h9 := @run_callFunc_extern Tryz.prog 104 _ ReflectliteValue.set Tryz.func104 (by kernel_rfl) (by kernel_rfl) (by kernel_rfl) (by kernel_rfl)
  have mK := As.methodKind; have mE := As.methodElem; have mI := As.methodImplements
  have f1 := As.valueOfP; have f2 := As.typeP; have f3 := As.kindP; have f4 := As.kindE; have f5 := As.elemP; have f6 := As.implementsE
  have hlt := hb.lt
  obtain ⟨n, hn⟩ : ∃ n, w.heap.size = n := ⟨_, rfl⟩
  have hc2 : ((w.alloc (.cells #[.pointer (some ⟨g, 0, none⟩)] 71)).alloc (.cells #[.pointer (some ⟨4, 71, none⟩), .pointer (some ⟨n, 0, none⟩), .int .u64 150] 105)).cell? ⟨n, 0, none⟩ = some (.pointer (some ⟨g, 0, none⟩)) := by
    rw [World.cell?_alloc_lt _ _ ⟨n, 0, none⟩ (by simp; omega), ← hn]; simp
  have hn8 := As.isNilP ⟨n, 0, none⟩ ⟨g, 0, none⟩ ((w.alloc (.cells #[.pointer (some ⟨g, 0, none⟩)] 71)).alloc (.cells #[.pointer (some ⟨4, 71, none⟩), .pointer (some ⟨n, 0, none⟩), .int .u64 150] 105)) hc2
  have hgl : ((w.alloc (.cells #[.pointer (some ⟨g, 0, none⟩)] 71)).alloc (.cells #[.pointer (some ⟨4, 71, none⟩), .pointer (some ⟨n, 0, none⟩), .int .u64 150] 105)).cell? ⟨0, 0, none⟩ = some (.iface 162 (.agg #[.pointer (some ⟨4, 65, none⟩)])) := by
    rw [World.cell?_alloc_lt _ _ ⟨0, 0, none⟩ (by simp), World.cell?_alloc_lt _ _ ⟨0, 0, none⟩ (by show 0 < w.heap.size; omega)]; exact hg
  have hgr := only_alloc (only_alloc (World.grownBy.refl w none) (.cells #[.pointer (some ⟨g, 0, none⟩)] 71)) (.cells #[.pointer (some ⟨4, 71, none⟩), .pointer (some ⟨n, 0, none⟩), .int .u64 150] 105)
  have HG := Lib.hid hgr
  have HA := Lib.hid (asIn_any wh E g n old _ hc2 (hb.kept hgr (by simp)))
  clear hgr hb hc2
  go_enter Tryz.func42, Tryz.ntmps42
  go_wp2_with fail
  refine HA.out.mono ?_
  rintro e w2 ⟨rfl, hb2, hg2⟩
  have HB := Lib.hid hb2; have HG2 := Lib.hid (grown_self (grown_row HG.out (some g)) hg2 (fun k hk => .inl hk))
  clear hb2 hg2 HA HG
  go_wp2_with fail
  go_ret
  exact ⟨rfl, HB.out, HG2.out⟩
end Go.Proofs.YthalohloneojlaaGreatDoor
