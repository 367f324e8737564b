/- Merged: RdL. -/
import Derived.Test.YthalohloneojlaaGreatDoorMi24
/- Receipts, the document's: of (a receipt's parts).  Printed by wip/genRdL.py -/
namespace Go.Proofs.YthalohloneojlaaGreatDoor
open Go.RowKit Go.Shelf
set_option linter.unusedVariables false
set_option linter.unusedSimpArgs false

theorem OfG.kept_drew {w u : World} {m q off : Nat} {its : List Itm} {vs : List Value} {g0 xb : Nat} {cs : Array Value} {LP : Prop} {ls : List LogV} {A : Option Addr} {k : Nat} (h : OfG w m q off its vs g0 xb cs LP ls A k u) : OfG w m q off its vs g0 xb cs LP ls A k u.drew := h.kept (only_drew (World.grownBy.refl u none))
theorem OfG.setG_blk {w u : World} {m q off : Nat} {its : List Itm} {vs : List Value} {g0 xb : Nat} {cs : Array Value} {LP : Prop} {ls : List LogV} {A : Option Addr} {k : Nat} (h : OfG w m q off its vs g0 xb cs LP ls A k u) (x0 x1 x2 x3 x4 x5 x6 x7 : Value) : Blk (setG u g0 x0 x1 x2 x3 x4 x5 x6 x7) xb 25 cs := by
  have h1 := h.lx
  have hg : u.grownBy (setG u g0 x0 x1 x2 x3 x4 x5 x6 x7) (some g0) := only_setR (only_setR (only_setR (only_setR (only_setR (only_setR (only_setR (only_setR (World.grownBy.refl u (some g0)) 0 x0) 1 x1) 2 x2) 3 x3) 4 x4) 5 x5) 6 x6) 7 x7
  exact h.blk.grown hg (by simp; omega)
set_option maxRecDepth 100000 in
set_option maxHeartbeats 8000000 in
theorem ofD_3 (kd : Int) (y0 y1 y2 : Itm) (A : Option Addr) (c : Nat) (w : World) (hS : SubW w [y0, y1, y2] (.slice A 3 c)) (hsz : ∀ y ∈ [y0, y1, y2], y.bytes.size ≤ 9223372036854775807) (h2 : y2.items.length ≤ 100000) (h4 : ∀ x ∈ y2.items, ((x.items.tail).headD Itm.none_).items.length ≤ 100000) :
    Calls Tryz.prog 45 #[.int .i64 kd, .slice A 3 c] w (GotEnd kd [y0, y1, y2] w) := by
  obtain ⟨hn, vs, hsb, hrw⟩ := hS.row
  have hE := ofE_3 y0 y1 y2
  have hk1 : y1.bytes.size ≤ 9223372036854775807 := hsz y1 (by simp)
  obtain ⟨q, off, rfl, hqg, hrw⟩ := hrw (by simp)
  have HQ : Hid (q < w.heap.size) := Lib.hid hqg
  have hG := only_alloc (World.grownBy.refl w none) (.cells #[.int .i64 0, .bool false, .int .u64 0, .slice none 0 0, .bool false, .int .u64 0, .int .u64 0, .int .i64 0] 75)
  have hB := Blk.new w 75 #[.int .i64 0, .bool false, .int .u64 0, .slice none 0 0, .bool false, .int .u64 0, .int .u64 0, .int .i64 0]
  have hF0 : RowS w 3 q off [y0, y1, y2] vs w := ⟨hrw, fun i hi => hsb i hi, World.grownBy.refl w none⟩
  have HF1 := Lib.hid (hF0.step hG)
  obtain ⟨g0, hg0⟩ : ∃ b, w.heap.size = b := ⟨_, rfl⟩
  rw [hg0] at hB
  have HB1 := Lib.hid hB; have HW := Lib.hid hg0
  obtain ⟨ST, hST⟩ : ∃ S, yesVI y0 = S := ⟨_, rfl⟩
  obtain ⟨N1, hN1⟩ : ∃ S, numV y1.list y1.bytes = S := ⟨_, rfl⟩
  obtain ⟨E1, hE1⟩ : ∃ E, yesEI y0 = E := ⟨_, rfl⟩
  obtain ⟨E2, hE2⟩ : ∃ E, numE y1.list y1.bytes = E := ⟨_, rfl⟩
  obtain ⟨E3, hE3⟩ : ∃ E, readE y2 = E := ⟨_, rfl⟩
  obtain ⟨F, hF⟩ : ∃ F, firstL [E1, E2, E3, 0, 0] = F := ⟨_, rfl⟩
  rw [hE1, hE2, hE3, hF] at hE
  have hX : ofX kd [y0, y1, y2] = ⟨kd, ST, N1, (rowL 0 16 y2).map logL, false, 0, 0⟩ := by
    rw [← hST, ← hN1]; rfl
  have HT0 : Hid (∀ v V, Calls Tryz.prog 71 #[.agg #[.bool y0.list, .string y0.bytes, v]] V fun e w' => e = .returned (.tuple #[.bool ST, .int .i64 E1]) ∧ V.grownBy w' none) := Lib.hid fun v V => by
    have := getBoolR6_any y0.list y0.bytes v V
    rw [show (if y0.list = false ∧ yesE y0.bytes = 0 then yesV y0.bytes else false) = ST from hST, show (if y0.list then (2 : Int) else yesE y0.bytes) = E1 from hE1] at this; exact this
  have HT1 : Hid (∀ v V, Calls Tryz.prog 72 #[.agg #[.bool y1.list, .string y1.bytes, v]] V fun e w' => e = .returned (.tuple #[.int .u64 (N1 : Int), .int .i64 E2]) ∧ V.grownBy w' none) := Lib.hid fun v V => by
    have := getNumberR_any y1.list y1.bytes v hk1 V
    rw [hN1, hE2] at this; exact this
  have HH2 := Lib.hid h2; have HH4 := Lib.hid h4; have HE := Lib.hid hE; have HX := Lib.hid hX; have HFF := Lib.hid hF; have HGE := Lib.hid hE3
  clear hn hsb hrw hE hk1 hqg hG hB hF0 hST hN1 hE1 hE2 hE3 hF hX h2 h4 hS hsz
  go_enter Tryz.func45, Tryz.ntmps45
  go_upto_region 1 with (fail)
  clear hg0
  generalize w.alloc (.cells #[.int .i64 0, .bool false, .int .u64 0, .slice none 0 0, .bool false, .int .u64 0, .int .u64 0, .int .i64 0] 75) = w1 at *
  obtain ⟨r0, r1, r2⟩ := HF1.out.row 0 (by decide)
  simp only [Nat.zero_mul, Nat.add_zero] at r0 r1 r2
  change w1.cell? ⟨q, off, none⟩ = some (.bool y0.list) at r0
  change w1.cell? ⟨q, off + 1, none⟩ = some (.string y0.bytes) at r1
  go_wp2_with fail
  refine (HT0.out _ _).mono ?_
  rintro e w2 ⟨rfl, hg2⟩
  have HF2 := Lib.hid (HF1.out.step hg2); have HB2 := Lib.hid (HB1.out.grown hg2 (by simp))
  clear hg2 r0 r1 r2 HF1 HT0 HB1
  obtain ⟨r0, r1, r2⟩ := HF2.out.row 1 (by decide)
  simp only [Nat.one_mul] at r0 r1 r2
  change w2.cell? ⟨q, off + 3, none⟩ = some (.bool y1.list) at r0
  change w2.cell? ⟨q, off + 3 + 1, none⟩ = some (.string y1.bytes) at r1
  go_wp2_with fail
  refine (HT1.out _ _).mono ?_
  rintro e w3 ⟨rfl, hg3⟩
  have HF3 := Lib.hid (HF2.out.step hg3); have HB3 := Lib.hid (HB2.out.grown hg3 (by simp))
  clear hg3 r0 r1 r2 HF2 HT1 HB2
  obtain ⟨A4, c4, hv4⟩ := (HF3.out.sub 2 (by decide)).slice
  have hv4 : vs.getD 2 undef = .slice A4 y2.items.length c4 := hv4
  obtain ⟨r0, r1, r2⟩ := HF3.out.row 2 (by decide)
  have hsub4 := HF3.out.sub 2 (by decide)
  rw [hv4] at r2 hsub4
  have hgt := readD_any y2 A4 y2.items.length c4 w3 hsub4 HH2.out HH4.out
  rw [HGE.out] at hgt
  replace r0 : w3.cell? ⟨q, off + 6, none⟩ = some (.bool y2.list) := r0
  replace r1 : w3.cell? ⟨q, off + 6 + 1, none⟩ = some (.string y2.bytes) := r1
  replace r2 : w3.cell? ⟨q, off + 6 + 2, none⟩ = some (.slice A4 y2.items.length c4) := r2
  obtain ⟨n4, hn4⟩ : ∃ n, y2.items.length = n := ⟨_, rfl⟩
  obtain ⟨l4, hl4⟩ : ∃ n, y2.list = n := ⟨_, rfl⟩
  obtain ⟨b4, hb4⟩ : ∃ n, y2.bytes = n := ⟨_, rfl⟩
  rw [hl4] at r0 hgt
  rw [hb4] at r1 hgt
  rw [hn4] at r2 hgt
  have HGX := Lib.hid hgt
  clear hv4 hsub4 hgt hn4 hl4 hb4
  go_wp2_with fail
  refine (HGX.out).mono ?_
  rintro e w4 ⟨A', m, c', rfl, hlg, hg4⟩
  have HZ3 := Lib.hid (show g0 < w3.heap.size from HB3.out.lt)
  have hq5 := Blk.new w4 25 #[.int .i64 kd, .bool ST, .int .u64 (N1 : Int), .slice A' m c', .bool false, .int .u64 0, .int .u64 0]
  have hg5 := only_alloc (World.grownBy.refl w4 none) (.cells #[.int .i64 kd, .bool ST, .int .u64 (N1 : Int), .slice A' m c', .bool false, .int .u64 0, .int .u64 0] 25)
  obtain ⟨xb, hxb⟩ : ∃ b, w4.heap.size = b := ⟨_, rfl⟩
  have hlx : g0 < xb := by have := hg4.size; have := HZ3.out; omega
  have HF5 := (HF3.out.step hg4).step hg5
  have HB5 := (HB3.out.grown hg4 (by simp)).grown hg5 (by simp)
  rw [hxb] at hq5
  have hlg5 : E3 = 0 → LogsS (fun g => g0 < g ∧ g < xb) (w4.alloc (.cells #[.int .i64 kd, .bool ST, .int .u64 (N1 : Int), .slice A' m c', .bool false, .int .u64 0, .int .u64 0] 25)) ((rowL 0 16 y2).map logL) A' m := fun h0 =>
    ((hlg h0).lt.weak fun g hg => ⟨by have := HZ3.out; have h1 := hg.1; omega, by have h1 := hg.2; omega⟩).keep fun p _ c hc => hg5.cell hc (by simp)
  have HK : Hid (OfG w 3 q off [y0, y1, y2] vs g0 xb #[.int .i64 kd, .bool ST, .int .u64 (N1 : Int), .slice A' m c', .bool false, .int .u64 0, .int .u64 0] (E3 = 0) ((rowL 0 16 y2).map logL) A' m _) := Lib.hid ⟨HF5.row, HF5.grow, ⟨_, _, _, _, _, _, _, _, HB5⟩, hq5, hlg5, Nat.le_of_eq HW.out, hlx, HQ.out⟩
  clear hq5 hg5 hlx HF5 HB5 hlg5 hlg hg4 HGX HF3 HB3 HZ3 r0 r1 r2
  go_upto_region 5 with (fail)
  clear hxb
  generalize w4.alloc (.cells #[.int .i64 kd, .bool ST, .int .u64 (N1 : Int), .slice A' m c', .bool false, .int .u64 0, .int .u64 0] 25) = w5 at *
  go_upto_region 14 with (fail)
  have HK14 := Lib.hid HK.out.kept_drew
  have hSS := HK14.out.blk
  refine wp_region_held (S := fun W => Blk W xb 25 #[.int .i64 kd, .bool ST, .int .u64 (N1 : Int), .slice A' m c', .bool false, .int .u64 0, .int .u64 0]) (by kernel_rfl) ?_
  change wpAnyH _ _ _ _ _ _ _ _ w5.drew
  generalize w5.drew = u0 at *
  refine held_take (i := 0) (v := .agg #[.int .i64 kd, .bool ST, .int .u64 (N1 : Int), .slice A' m c', .bool false, .int .u64 0, .int .u64 0]) (some 70) rfl (by kernel_rfl) (by kernel_rfl) (by kernel_rfl) (fun _ _ _ h => h) rfl (Or.inl ⟨by rfl, fun W hW => exec_load_rowT rfl rfl 25 #[.int .i64 kd, .bool ST, .int .u64 (N1 : Int), .slice A' m c', .bool false, .int .u64 0, .int .u64 0] _ hW Tryz.underlying25 rfl (by kernel_rfl)⟩) hSS ?_
  simp only [Act.put, List.setIfInBounds_toArray, List.set_cons_zero, List.set_cons_succ]
  refine held_take (i := 1) (v := .int .i64 E1) (some 71) rfl (by kernel_rfl) (by kernel_rfl) (by kernel_rfl) (fun _ _ _ h => h) rfl (Or.inl ⟨by rfl, fun W hW => by go_simp⟩) hSS ?_
  simp only [Act.put, List.setIfInBounds_toArray, List.set_cons_zero, List.set_cons_succ]
  refine held_take (i := 2) (v := .int .i64 E2) (some 72) rfl (by kernel_rfl) (by kernel_rfl) (by kernel_rfl) (fun _ _ _ h => h) rfl (Or.inl ⟨by rfl, fun W hW => by go_simp⟩) hSS ?_
  simp only [Act.put, List.setIfInBounds_toArray, List.set_cons_zero, List.set_cons_succ]
  refine held_take (i := 3) (v := .int .i64 E3) (some 73) rfl (by kernel_rfl) (by kernel_rfl) (by kernel_rfl) (fun _ _ _ h => h) rfl (Or.inl ⟨by rfl, fun W hW => by go_simp⟩) hSS ?_
  simp only [Act.put, List.setIfInBounds_toArray, List.set_cons_zero, List.set_cons_succ]
  refine held_take (i := 4) (v := .int .i64 0) (some 74) rfl (by kernel_rfl) (by kernel_rfl) (by kernel_rfl) (fun _ _ _ h => h) rfl (Or.inl ⟨by rfl, fun W hW => by go_simp⟩) hSS ?_
  simp only [Act.put, List.setIfInBounds_toArray, List.set_cons_zero, List.set_cons_succ]
  refine held_take (i := 5) (v := .int .i64 0) (some 75) rfl (by kernel_rfl) (by kernel_rfl) (by kernel_rfl) (fun _ _ _ h => h) rfl (Or.inl ⟨by rfl, fun W hW => by go_simp⟩) hSS ?_
  simp only [Act.put, List.setIfInBounds_toArray, List.set_cons_zero, List.set_cons_succ]
  have hF10 := HK14.out.kept (only_alloc (World.grownBy.refl u0 none) (.cells #[.int .i64 E1, .int .i64 E2, .int .i64 E3, .int .i64 0, .int .i64 0] 28))
  have hE10 := Blk.new u0 28 #[.int .i64 E1, .int .i64 E2, .int .i64 E3, .int .i64 0, .int .i64 0]
  have hRE : Reads (u0.alloc (.cells #[.int .i64 E1, .int .i64 E2, .int .i64 E3, .int .i64 0, .int .i64 0] 28)) (u0.heap.size + 1) 1 (some ⟨u0.heap.size, 0, none⟩) 5 ([E1, E2, E3, 0, 0].map (Value.int .i64)) := ⟨rfl, fun _ => ⟨_, rfl, Nat.lt_succ_self _, fun j u hu => by
      have := hE10.cell j
      rw [Addr.add_mid, Nat.zero_add, this, ← hu]
      simp⟩⟩
  have HFI := Lib.hid (firstR_any _ _ 5 5 [E1, E2, E3, 0, 0] _ hRE (by decide))
  rw [HFF.out] at HFI
  refine held_one (i := 6) (by kernel_rfl) ?_
  refine held_value (some 76) rfl rfl (.slice (some ⟨u0.heap.size, 0, none⟩) 5 5) (by go_simp <;> rfl) rfl hF10.blk ?_
  simp only [Act.put, List.setIfInBounds_toArray, List.set_cons_zero, List.set_cons_succ]
  refine held_one (i := 7) (by kernel_rfl) ?_
  refine held_enter (some 77) rfl rfl 74 #[.slice (some ⟨u0.heap.size, 0, none⟩) 5 5] (exec_call1 _ (.tmp 76) _ rfl _ rfl rfl) rfl ((HFI.out).mono ?_)
  rintro e u1 ⟨rfl, rfl⟩
  refine ⟨_, rfl, hF10.blk, ?_⟩
  simp only [Act.put, List.setIfInBounds_toArray, List.set_cons_zero, List.set_cons_succ]
  refine held_one (i := 8) (by kernel_rfl) ?_
  refine held_value (some 78) rfl rfl (.agg #[.int .i64 kd, .bool ST, .int .u64 (N1 : Int), .slice A' m c', .bool false, .int .u64 0, .int .u64 0, .int .i64 F]) (by go_simp <;> rfl) rfl hF10.blk ?_
  simp only [Act.put, List.setIfInBounds_toArray, List.set_cons_zero, List.set_cons_succ]
  refine held_one (i := 9) (by kernel_rfl) ?_
  obtain ⟨z0, z1, z2, z3, z4, z5, z6, z7, hz⟩ := hF10.got
  have T1 := Lib.hid (blk_setG hz (.int .i64 kd) (.bool ST) (.int .u64 (N1 : Int)) (.slice A' m c') (.bool false) (.int .u64 0) (.int .u64 0) (.int .i64 F))
  have T2 := Lib.hid (only_setG hF10.grow hF10.lo (.int .i64 kd) (.bool ST) (.int .u64 (N1 : Int)) (.slice A' m c') (.bool false) (.int .u64 0) (.int .u64 0) (.int .i64 F))
  have T3 := Lib.hid (fun h0 => (hF10.logs h0).keep fun p hp u hu => (cell_setG (.int .i64 kd) (.bool ST) (.int .u64 (N1 : Int)) (.slice A' m c') (.bool false) (.int .u64 0) (.int .u64 0) (.int .i64 F) (b := g0) (p := p) (by have := hp.1; omega)).trans hu)
  refine held_store rfl rfl (exec_storeG (.tmp 4) (.tmp 78) rfl rfl rfl hz) (hF10.setG_blk (.int .i64 kd) (.bool ST) (.int .u64 (N1 : Int)) (.slice A' m c') (.bool false) (.int .u64 0) (.int .u64 0) (.int .i64 F)) ?_
  clear hz hF10 hE10 hRE HFI hSS HK14 HK
  generalize setG _ g0 (.int .i64 kd) (.bool ST) (.int .u64 (N1 : Int)) (.slice A' m c') (.bool false) (.int .u64 0) (.int .u64 0) (.int .i64 F) = u9 at *
  simp only [Act.put, List.setIfInBounds_toArray, List.set_cons_zero, List.set_cons_succ]
  refine wpAnyH_done (by kernel_rfl) ?_ _
  go_wp2_with fail
  refine bodyPost_ret (results_cell1 (fn := Tryz.f45) rfl _ _ _ _ rfl (load_gotR T1.out)) rfl ?_
  unfold GotEnd
  rw [HX.out, HE.out]
  refine ⟨A', m, c', rfl, fun h0 => ?_, T2.out⟩
  have h3 : E3 = 0 := by
    have h := HFF.out
    rw [h0, firstL5] at h
    unfold fst1 at h
    by_cases k1 : E1 = 0 <;> by_cases k2 : E2 = 0 <;> by_cases k3 : E3 = 0 <;> simp_all
  exact (T3.out h3).weak fun g hg => (show w.heap.size ≤ g by have := hg.1; have := HW.out; omega)
set_option maxRecDepth 100000 in
set_option maxHeartbeats 8000000 in
theorem ofD_4 (kd : Int) (y0 y1 y2 y3 : Itm) (A : Option Addr) (c : Nat) (w : World) (hS : SubW w [y0, y1, y2, y3] (.slice A 4 c)) (hsz : ∀ y ∈ [y0, y1, y2, y3], y.bytes.size ≤ 9223372036854775807) (h2 : y2.items.length ≤ 100000) (h4 : ∀ x ∈ y2.items, ((x.items.tail).headD Itm.none_).items.length ≤ 100000) :
    Calls Tryz.prog 45 #[.int .i64 kd, .slice A 4 c] w (GotEnd kd [y0, y1, y2, y3] w) := by
  obtain ⟨hn, vs, hsb, hrw⟩ := hS.row
  have hE := ofE_4 y0 y1 y2 y3
  have hk1 : y1.bytes.size ≤ 9223372036854775807 := hsz y1 (by simp)
  have hk3 : y3.bytes.size ≤ 9223372036854775807 := hsz y3 (by simp)
  obtain ⟨q, off, rfl, hqg, hrw⟩ := hrw (by simp)
  have HQ : Hid (q < w.heap.size) := Lib.hid hqg
  have hG := only_alloc (World.grownBy.refl w none) (.cells #[.int .i64 0, .bool false, .int .u64 0, .slice none 0 0, .bool false, .int .u64 0, .int .u64 0, .int .i64 0] 75)
  have hB := Blk.new w 75 #[.int .i64 0, .bool false, .int .u64 0, .slice none 0 0, .bool false, .int .u64 0, .int .u64 0, .int .i64 0]
  have hF0 : RowS w 4 q off [y0, y1, y2, y3] vs w := ⟨hrw, fun i hi => hsb i hi, World.grownBy.refl w none⟩
  have HF1 := Lib.hid (hF0.step hG)
  obtain ⟨g0, hg0⟩ : ∃ b, w.heap.size = b := ⟨_, rfl⟩
  rw [hg0] at hB
  have HB1 := Lib.hid hB; have HW := Lib.hid hg0
  obtain ⟨ST, hST⟩ : ∃ S, yesVI y0 = S := ⟨_, rfl⟩
  obtain ⟨N1, hN1⟩ : ∃ S, numV y1.list y1.bytes = S := ⟨_, rfl⟩
  obtain ⟨E1, hE1⟩ : ∃ E, yesEI y0 = E := ⟨_, rfl⟩
  obtain ⟨E2, hE2⟩ : ∃ E, numE y1.list y1.bytes = E := ⟨_, rfl⟩
  obtain ⟨E3, hE3⟩ : ∃ E, readE y2 = E := ⟨_, rfl⟩
  obtain ⟨N3, hN3⟩ : ∃ S, numV y3.list y3.bytes = S := ⟨_, rfl⟩
  obtain ⟨E4, hE4⟩ : ∃ E, numE y3.list y3.bytes = E := ⟨_, rfl⟩
  obtain ⟨F, hF⟩ : ∃ F, firstL [E1, E2, E3, E4, 0] = F := ⟨_, rfl⟩
  rw [hE1, hE2, hE3, hE4, hF] at hE
  have hX : ofX kd [y0, y1, y2, y3] = ⟨kd, ST, N1, (rowL 0 16 y2).map logL, true, N3, 0⟩ := by
    rw [← hST, ← hN1, ← hN3]; rfl
  have HT0 : Hid (∀ v V, Calls Tryz.prog 71 #[.agg #[.bool y0.list, .string y0.bytes, v]] V fun e w' => e = .returned (.tuple #[.bool ST, .int .i64 E1]) ∧ V.grownBy w' none) := Lib.hid fun v V => by
    have := getBoolR6_any y0.list y0.bytes v V
    rw [show (if y0.list = false ∧ yesE y0.bytes = 0 then yesV y0.bytes else false) = ST from hST, show (if y0.list then (2 : Int) else yesE y0.bytes) = E1 from hE1] at this; exact this
  have HT1 : Hid (∀ v V, Calls Tryz.prog 72 #[.agg #[.bool y1.list, .string y1.bytes, v]] V fun e w' => e = .returned (.tuple #[.int .u64 (N1 : Int), .int .i64 E2]) ∧ V.grownBy w' none) := Lib.hid fun v V => by
    have := getNumberR_any y1.list y1.bytes v hk1 V
    rw [hN1, hE2] at this; exact this
  have HT3 : Hid (∀ v V, Calls Tryz.prog 72 #[.agg #[.bool y3.list, .string y3.bytes, v]] V fun e w' => e = .returned (.tuple #[.int .u64 (N3 : Int), .int .i64 E4]) ∧ V.grownBy w' none) := Lib.hid fun v V => by
    have := getNumberR_any y3.list y3.bytes v hk3 V
    rw [hN3, hE4] at this; exact this
  have HH2 := Lib.hid h2; have HH4 := Lib.hid h4; have HE := Lib.hid hE; have HX := Lib.hid hX; have HFF := Lib.hid hF; have HGE := Lib.hid hE3
  clear hn hsb hrw hE hk1 hk3 hqg hG hB hF0 hST hN1 hE1 hE2 hE3 hN3 hE4 hF hX h2 h4 hS hsz
  go_enter Tryz.func45, Tryz.ntmps45
  go_upto_region 1 with (fail)
  clear hg0
  generalize w.alloc (.cells #[.int .i64 0, .bool false, .int .u64 0, .slice none 0 0, .bool false, .int .u64 0, .int .u64 0, .int .i64 0] 75) = w1 at *
  obtain ⟨r0, r1, r2⟩ := HF1.out.row 0 (by decide)
  simp only [Nat.zero_mul, Nat.add_zero] at r0 r1 r2
  change w1.cell? ⟨q, off, none⟩ = some (.bool y0.list) at r0
  change w1.cell? ⟨q, off + 1, none⟩ = some (.string y0.bytes) at r1
  go_wp2_with fail
  refine (HT0.out _ _).mono ?_
  rintro e w2 ⟨rfl, hg2⟩
  have HF2 := Lib.hid (HF1.out.step hg2); have HB2 := Lib.hid (HB1.out.grown hg2 (by simp))
  clear hg2 r0 r1 r2 HF1 HT0 HB1
  obtain ⟨r0, r1, r2⟩ := HF2.out.row 1 (by decide)
  simp only [Nat.one_mul] at r0 r1 r2
  change w2.cell? ⟨q, off + 3, none⟩ = some (.bool y1.list) at r0
  change w2.cell? ⟨q, off + 3 + 1, none⟩ = some (.string y1.bytes) at r1
  go_wp2_with fail
  refine (HT1.out _ _).mono ?_
  rintro e w3 ⟨rfl, hg3⟩
  have HF3 := Lib.hid (HF2.out.step hg3); have HB3 := Lib.hid (HB2.out.grown hg3 (by simp))
  clear hg3 r0 r1 r2 HF2 HT1 HB2
  obtain ⟨A4, c4, hv4⟩ := (HF3.out.sub 2 (by decide)).slice
  have hv4 : vs.getD 2 undef = .slice A4 y2.items.length c4 := hv4
  obtain ⟨r0, r1, r2⟩ := HF3.out.row 2 (by decide)
  have hsub4 := HF3.out.sub 2 (by decide)
  rw [hv4] at r2 hsub4
  have hgt := readD_any y2 A4 y2.items.length c4 w3 hsub4 HH2.out HH4.out
  rw [HGE.out] at hgt
  replace r0 : w3.cell? ⟨q, off + 6, none⟩ = some (.bool y2.list) := r0
  replace r1 : w3.cell? ⟨q, off + 6 + 1, none⟩ = some (.string y2.bytes) := r1
  replace r2 : w3.cell? ⟨q, off + 6 + 2, none⟩ = some (.slice A4 y2.items.length c4) := r2
  obtain ⟨n4, hn4⟩ : ∃ n, y2.items.length = n := ⟨_, rfl⟩
  obtain ⟨l4, hl4⟩ : ∃ n, y2.list = n := ⟨_, rfl⟩
  obtain ⟨b4, hb4⟩ : ∃ n, y2.bytes = n := ⟨_, rfl⟩
  rw [hl4] at r0 hgt
  rw [hb4] at r1 hgt
  rw [hn4] at r2 hgt
  have HGX := Lib.hid hgt
  clear hv4 hsub4 hgt hn4 hl4 hb4
  go_wp2_with fail
  refine (HGX.out).mono ?_
  rintro e w4 ⟨A', m, c', rfl, hlg, hg4⟩
  have HZ3 := Lib.hid (show g0 < w3.heap.size from HB3.out.lt)
  have hq5 := Blk.new w4 25 #[.int .i64 kd, .bool ST, .int .u64 (N1 : Int), .slice A' m c', .bool false, .int .u64 0, .int .u64 0]
  have hg5 := only_alloc (World.grownBy.refl w4 none) (.cells #[.int .i64 kd, .bool ST, .int .u64 (N1 : Int), .slice A' m c', .bool false, .int .u64 0, .int .u64 0] 25)
  obtain ⟨xb, hxb⟩ : ∃ b, w4.heap.size = b := ⟨_, rfl⟩
  have hlx : g0 < xb := by have := hg4.size; have := HZ3.out; omega
  have HF5 := (HF3.out.step hg4).step hg5
  have HB5 := (HB3.out.grown hg4 (by simp)).grown hg5 (by simp)
  rw [hxb] at hq5
  have hlg5 : E3 = 0 → LogsS (fun g => g0 < g ∧ g < xb) (w4.alloc (.cells #[.int .i64 kd, .bool ST, .int .u64 (N1 : Int), .slice A' m c', .bool false, .int .u64 0, .int .u64 0] 25)) ((rowL 0 16 y2).map logL) A' m := fun h0 =>
    ((hlg h0).lt.weak fun g hg => ⟨by have := HZ3.out; have h1 := hg.1; omega, by have h1 := hg.2; omega⟩).keep fun p _ c hc => hg5.cell hc (by simp)
  have HK : Hid (OfG w 4 q off [y0, y1, y2, y3] vs g0 xb #[.int .i64 kd, .bool ST, .int .u64 (N1 : Int), .slice A' m c', .bool false, .int .u64 0, .int .u64 0] (E3 = 0) ((rowL 0 16 y2).map logL) A' m _) := Lib.hid ⟨HF5.row, HF5.grow, ⟨_, _, _, _, _, _, _, _, HB5⟩, hq5, hlg5, Nat.le_of_eq HW.out, hlx, HQ.out⟩
  clear hq5 hg5 hlx HF5 HB5 hlg5 hlg hg4 HGX HF3 HB3 HZ3 r0 r1 r2
  go_upto_region 5 with (fail)
  clear hxb
  generalize w4.alloc (.cells #[.int .i64 kd, .bool ST, .int .u64 (N1 : Int), .slice A' m c', .bool false, .int .u64 0, .int .u64 0] 25) = w5 at *
  have hb := HK.out.blk
  have b4 := hb.cell 4; have b5 := hb.cell 5; have b6 := hb.cell 6; have f4 := hb.frozen 4; have f5 := hb.frozen 5; have f6 := hb.frozen 6
  simp only [List.getElem?_toArray, List.getElem?_cons_zero, List.getElem?_cons_succ] at b4 b5 b6
  clear hb
  have HK6 := Lib.hid (HK.out.setx 4 (.bool true))
  simp only [List.setIfInBounds_toArray, List.set_cons_zero, List.set_cons_succ] at HK6
  clear HK
  go_upto_region 9 with (fail)
  generalize w5.setCell ⟨xb, 4, none⟩ (.bool true) = w6 at *
  clear b4 b5 b6 f4 f5 f6
  obtain ⟨r0, r1, r2⟩ := HK6.out.row 3 (by decide)
  replace r0 : w6.cell? ⟨q, off + 9, none⟩ = some (.bool y3.list) := r0
  replace r1 : w6.cell? ⟨q, off + 9 + 1, none⟩ = some (.string y3.bytes) := r1
  replace r2 : w6.cell? ⟨q, off + 9 + 2, none⟩ = some (vs.getD 3 undef) := r2
  go_wp2_with fail
  refine (HT3.out _ _).mono ?_
  rintro e w7 ⟨rfl, hg7⟩
  have HK := Lib.hid (HK6.out.kept hg7)
  clear hg7 HK6 r0 r1 r2 HT3
  have hb := HK.out.blk
  have b4 := hb.cell 4; have b5 := hb.cell 5; have b6 := hb.cell 6; have f4 := hb.frozen 4; have f5 := hb.frozen 5; have f6 := hb.frozen 6
  simp only [List.getElem?_toArray, List.getElem?_cons_zero, List.getElem?_cons_succ] at b4 b5 b6
  clear hb
  have HK8 := Lib.hid (HK.out.setx 5 (.int .u64 (N3 : Int)))
  simp only [List.setIfInBounds_toArray, List.set_cons_zero, List.set_cons_succ] at HK8
  clear HK
  go_upto_region 10 with (fail)
  generalize w7.setCell ⟨xb, 5, none⟩ (.int .u64 (N3 : Int)) = w8 at *
  clear b4 b5 b6 f4 f5 f6
  have HK := HK8
  clear HK8
  go_upto_region 14 with (fail)
  have HK14 := Lib.hid HK.out.kept_drew
  have hSS := HK14.out.blk
  refine wp_region_held (S := fun W => Blk W xb 25 #[.int .i64 kd, .bool ST, .int .u64 (N1 : Int), .slice A' m c', .bool true, .int .u64 (N3 : Int), .int .u64 0]) (by kernel_rfl) ?_
  change wpAnyH _ _ _ _ _ _ _ _ w8.drew
  generalize w8.drew = u0 at *
  refine held_take (i := 0) (v := .agg #[.int .i64 kd, .bool ST, .int .u64 (N1 : Int), .slice A' m c', .bool true, .int .u64 (N3 : Int), .int .u64 0]) (some 70) rfl (by kernel_rfl) (by kernel_rfl) (by kernel_rfl) (fun _ _ _ h => h) rfl (Or.inl ⟨by rfl, fun W hW => exec_load_rowT rfl rfl 25 #[.int .i64 kd, .bool ST, .int .u64 (N1 : Int), .slice A' m c', .bool true, .int .u64 (N3 : Int), .int .u64 0] _ hW Tryz.underlying25 rfl (by kernel_rfl)⟩) hSS ?_
  simp only [Act.put, List.setIfInBounds_toArray, List.set_cons_zero, List.set_cons_succ]
  refine held_take (i := 1) (v := .int .i64 E1) (some 71) rfl (by kernel_rfl) (by kernel_rfl) (by kernel_rfl) (fun _ _ _ h => h) rfl (Or.inl ⟨by rfl, fun W hW => by go_simp⟩) hSS ?_
  simp only [Act.put, List.setIfInBounds_toArray, List.set_cons_zero, List.set_cons_succ]
  refine held_take (i := 2) (v := .int .i64 E2) (some 72) rfl (by kernel_rfl) (by kernel_rfl) (by kernel_rfl) (fun _ _ _ h => h) rfl (Or.inl ⟨by rfl, fun W hW => by go_simp⟩) hSS ?_
  simp only [Act.put, List.setIfInBounds_toArray, List.set_cons_zero, List.set_cons_succ]
  refine held_take (i := 3) (v := .int .i64 E3) (some 73) rfl (by kernel_rfl) (by kernel_rfl) (by kernel_rfl) (fun _ _ _ h => h) rfl (Or.inl ⟨by rfl, fun W hW => by go_simp⟩) hSS ?_
  simp only [Act.put, List.setIfInBounds_toArray, List.set_cons_zero, List.set_cons_succ]
  refine held_take (i := 4) (v := .int .i64 E4) (some 74) rfl (by kernel_rfl) (by kernel_rfl) (by kernel_rfl) (fun _ _ _ h => h) rfl (Or.inl ⟨by rfl, fun W hW => by go_simp⟩) hSS ?_
  simp only [Act.put, List.setIfInBounds_toArray, List.set_cons_zero, List.set_cons_succ]
  refine held_take (i := 5) (v := .int .i64 0) (some 75) rfl (by kernel_rfl) (by kernel_rfl) (by kernel_rfl) (fun _ _ _ h => h) rfl (Or.inl ⟨by rfl, fun W hW => by go_simp⟩) hSS ?_
  simp only [Act.put, List.setIfInBounds_toArray, List.set_cons_zero, List.set_cons_succ]
  have hF10 := HK14.out.kept (only_alloc (World.grownBy.refl u0 none) (.cells #[.int .i64 E1, .int .i64 E2, .int .i64 E3, .int .i64 E4, .int .i64 0] 28))
  have hE10 := Blk.new u0 28 #[.int .i64 E1, .int .i64 E2, .int .i64 E3, .int .i64 E4, .int .i64 0]
  have hRE : Reads (u0.alloc (.cells #[.int .i64 E1, .int .i64 E2, .int .i64 E3, .int .i64 E4, .int .i64 0] 28)) (u0.heap.size + 1) 1 (some ⟨u0.heap.size, 0, none⟩) 5 ([E1, E2, E3, E4, 0].map (Value.int .i64)) := ⟨rfl, fun _ => ⟨_, rfl, Nat.lt_succ_self _, fun j u hu => by
      have := hE10.cell j
      rw [Addr.add_mid, Nat.zero_add, this, ← hu]
      simp⟩⟩
  have HFI := Lib.hid (firstR_any _ _ 5 5 [E1, E2, E3, E4, 0] _ hRE (by decide))
  rw [HFF.out] at HFI
  refine held_one (i := 6) (by kernel_rfl) ?_
  refine held_value (some 76) rfl rfl (.slice (some ⟨u0.heap.size, 0, none⟩) 5 5) (by go_simp <;> rfl) rfl hF10.blk ?_
  simp only [Act.put, List.setIfInBounds_toArray, List.set_cons_zero, List.set_cons_succ]
  refine held_one (i := 7) (by kernel_rfl) ?_
  refine held_enter (some 77) rfl rfl 74 #[.slice (some ⟨u0.heap.size, 0, none⟩) 5 5] (exec_call1 _ (.tmp 76) _ rfl _ rfl rfl) rfl ((HFI.out).mono ?_)
  rintro e u1 ⟨rfl, rfl⟩
  refine ⟨_, rfl, hF10.blk, ?_⟩
  simp only [Act.put, List.setIfInBounds_toArray, List.set_cons_zero, List.set_cons_succ]
  refine held_one (i := 8) (by kernel_rfl) ?_
  refine held_value (some 78) rfl rfl (.agg #[.int .i64 kd, .bool ST, .int .u64 (N1 : Int), .slice A' m c', .bool true, .int .u64 (N3 : Int), .int .u64 0, .int .i64 F]) (by go_simp <;> rfl) rfl hF10.blk ?_
  simp only [Act.put, List.setIfInBounds_toArray, List.set_cons_zero, List.set_cons_succ]
  refine held_one (i := 9) (by kernel_rfl) ?_
  obtain ⟨z0, z1, z2, z3, z4, z5, z6, z7, hz⟩ := hF10.got
  have T1 := Lib.hid (blk_setG hz (.int .i64 kd) (.bool ST) (.int .u64 (N1 : Int)) (.slice A' m c') (.bool true) (.int .u64 (N3 : Int)) (.int .u64 0) (.int .i64 F))
  have T2 := Lib.hid (only_setG hF10.grow hF10.lo (.int .i64 kd) (.bool ST) (.int .u64 (N1 : Int)) (.slice A' m c') (.bool true) (.int .u64 (N3 : Int)) (.int .u64 0) (.int .i64 F))
  have T3 := Lib.hid (fun h0 => (hF10.logs h0).keep fun p hp u hu => (cell_setG (.int .i64 kd) (.bool ST) (.int .u64 (N1 : Int)) (.slice A' m c') (.bool true) (.int .u64 (N3 : Int)) (.int .u64 0) (.int .i64 F) (b := g0) (p := p) (by have := hp.1; omega)).trans hu)
  refine held_store rfl rfl (exec_storeG (.tmp 4) (.tmp 78) rfl rfl rfl hz) (hF10.setG_blk (.int .i64 kd) (.bool ST) (.int .u64 (N1 : Int)) (.slice A' m c') (.bool true) (.int .u64 (N3 : Int)) (.int .u64 0) (.int .i64 F)) ?_
  clear hz hF10 hE10 hRE HFI hSS HK14 HK
  generalize setG _ g0 (.int .i64 kd) (.bool ST) (.int .u64 (N1 : Int)) (.slice A' m c') (.bool true) (.int .u64 (N3 : Int)) (.int .u64 0) (.int .i64 F) = u9 at *
  simp only [Act.put, List.setIfInBounds_toArray, List.set_cons_zero, List.set_cons_succ]
  refine wpAnyH_done (by kernel_rfl) ?_ _
  go_wp2_with fail
  refine bodyPost_ret (results_cell1 (fn := Tryz.f45) rfl _ _ _ _ rfl (load_gotR T1.out)) rfl ?_
  unfold GotEnd
  rw [HX.out, HE.out]
  refine ⟨A', m, c', rfl, fun h0 => ?_, T2.out⟩
  have h3 : E3 = 0 := by
    have h := HFF.out
    rw [h0, firstL5] at h
    unfold fst1 at h
    by_cases k1 : E1 = 0 <;> by_cases k2 : E2 = 0 <;> by_cases k3 : E3 = 0 <;> simp_all
  exact (T3.out h3).weak fun g hg => (show w.heap.size ≤ g by have := hg.1; have := HW.out; omega)
set_option maxRecDepth 100000 in
set_option maxHeartbeats 8000000 in
theorem ofD_5 (kd : Int) (y0 y1 y2 y3 y4 : Itm) (A : Option Addr) (c : Nat) (w : World) (hS : SubW w [y0, y1, y2, y3, y4] (.slice A 5 c)) (hsz : ∀ y ∈ [y0, y1, y2, y3, y4], y.bytes.size ≤ 9223372036854775807) (h2 : y2.items.length ≤ 100000) (h4 : ∀ x ∈ y2.items, ((x.items.tail).headD Itm.none_).items.length ≤ 100000) :
    Calls Tryz.prog 45 #[.int .i64 kd, .slice A 5 c] w (GotEnd kd [y0, y1, y2, y3, y4] w) := by
  obtain ⟨hn, vs, hsb, hrw⟩ := hS.row
  have hE := ofE_5 y0 y1 y2 y3 y4
  have hk1 : y1.bytes.size ≤ 9223372036854775807 := hsz y1 (by simp)
  have hk3 : y3.bytes.size ≤ 9223372036854775807 := hsz y3 (by simp)
  have hk4 : y4.bytes.size ≤ 9223372036854775807 := hsz y4 (by simp)
  obtain ⟨q, off, rfl, hqg, hrw⟩ := hrw (by simp)
  have HQ : Hid (q < w.heap.size) := Lib.hid hqg
  have hG := only_alloc (World.grownBy.refl w none) (.cells #[.int .i64 0, .bool false, .int .u64 0, .slice none 0 0, .bool false, .int .u64 0, .int .u64 0, .int .i64 0] 75)
  have hB := Blk.new w 75 #[.int .i64 0, .bool false, .int .u64 0, .slice none 0 0, .bool false, .int .u64 0, .int .u64 0, .int .i64 0]
  have hF0 : RowS w 5 q off [y0, y1, y2, y3, y4] vs w := ⟨hrw, fun i hi => hsb i hi, World.grownBy.refl w none⟩
  have HF1 := Lib.hid (hF0.step hG)
  obtain ⟨g0, hg0⟩ : ∃ b, w.heap.size = b := ⟨_, rfl⟩
  rw [hg0] at hB
  have HB1 := Lib.hid hB; have HW := Lib.hid hg0
  obtain ⟨ST, hST⟩ : ∃ S, yesVI y0 = S := ⟨_, rfl⟩
  obtain ⟨N1, hN1⟩ : ∃ S, numV y1.list y1.bytes = S := ⟨_, rfl⟩
  obtain ⟨E1, hE1⟩ : ∃ E, yesEI y0 = E := ⟨_, rfl⟩
  obtain ⟨E2, hE2⟩ : ∃ E, numE y1.list y1.bytes = E := ⟨_, rfl⟩
  obtain ⟨E3, hE3⟩ : ∃ E, readE y2 = E := ⟨_, rfl⟩
  obtain ⟨N3, hN3⟩ : ∃ S, numV y3.list y3.bytes = S := ⟨_, rfl⟩
  obtain ⟨E4, hE4⟩ : ∃ E, numE y3.list y3.bytes = E := ⟨_, rfl⟩
  obtain ⟨N4, hN4⟩ : ∃ S, numV y4.list y4.bytes = S := ⟨_, rfl⟩
  obtain ⟨E5, hE5⟩ : ∃ E, verE y4 = E := ⟨_, rfl⟩
  obtain ⟨E6, hE6⟩ : ∃ E, numE y4.list y4.bytes = E := ⟨_, rfl⟩
  obtain ⟨F, hF⟩ : ∃ F, firstL [E1, E2, E3, E4, E5] = F := ⟨_, rfl⟩
  rw [hE1, hE2, hE3, hE4, hE5, hF] at hE
  have hX : ofX kd [y0, y1, y2, y3, y4] = ⟨kd, ST, N1, (rowL 0 16 y2).map logL, true, N3, N4⟩ := by
    rw [← hST, ← hN1, ← hN3, ← hN4]; rfl
  have HT0 : Hid (∀ v V, Calls Tryz.prog 71 #[.agg #[.bool y0.list, .string y0.bytes, v]] V fun e w' => e = .returned (.tuple #[.bool ST, .int .i64 E1]) ∧ V.grownBy w' none) := Lib.hid fun v V => by
    have := getBoolR6_any y0.list y0.bytes v V
    rw [show (if y0.list = false ∧ yesE y0.bytes = 0 then yesV y0.bytes else false) = ST from hST, show (if y0.list then (2 : Int) else yesE y0.bytes) = E1 from hE1] at this; exact this
  have HT1 : Hid (∀ v V, Calls Tryz.prog 72 #[.agg #[.bool y1.list, .string y1.bytes, v]] V fun e w' => e = .returned (.tuple #[.int .u64 (N1 : Int), .int .i64 E2]) ∧ V.grownBy w' none) := Lib.hid fun v V => by
    have := getNumberR_any y1.list y1.bytes v hk1 V
    rw [hN1, hE2] at this; exact this
  have HT3 : Hid (∀ v V, Calls Tryz.prog 72 #[.agg #[.bool y3.list, .string y3.bytes, v]] V fun e w' => e = .returned (.tuple #[.int .u64 (N3 : Int), .int .i64 E4]) ∧ V.grownBy w' none) := Lib.hid fun v V => by
    have := getNumberR_any y3.list y3.bytes v hk3 V
    rw [hN3, hE4] at this; exact this
  have HT4 : Hid (∀ v V, Calls Tryz.prog 72 #[.agg #[.bool y4.list, .string y4.bytes, v]] V fun e w' => e = .returned (.tuple #[.int .u64 (N4 : Int), .int .i64 E6]) ∧ V.grownBy w' none) := Lib.hid fun v V => by
    have := getNumberR_any y4.list y4.bytes v hk4 V
    rw [hN4, hE6] at this; exact this
  have HVE : Hid (E5 = if E6 = 0 ∧ N4 ≠ 1 then 2 else E6) := Lib.hid (by rw [← hE5, ← hE6, ← hN4]; rfl)
  have HH2 := Lib.hid h2; have HH4 := Lib.hid h4; have HE := Lib.hid hE; have HX := Lib.hid hX; have HFF := Lib.hid hF; have HGE := Lib.hid hE3
  clear hn hsb hrw hE hk1 hk3 hk4 hqg hG hB hF0 hST hN1 hE1 hE2 hE3 hN3 hE4 hN4 hE5 hE6 hF hX h2 h4 hS hsz
  go_enter Tryz.func45, Tryz.ntmps45
  go_upto_region 1 with (fail)
  clear hg0
  generalize w.alloc (.cells #[.int .i64 0, .bool false, .int .u64 0, .slice none 0 0, .bool false, .int .u64 0, .int .u64 0, .int .i64 0] 75) = w1 at *
  obtain ⟨r0, r1, r2⟩ := HF1.out.row 0 (by decide)
  simp only [Nat.zero_mul, Nat.add_zero] at r0 r1 r2
  change w1.cell? ⟨q, off, none⟩ = some (.bool y0.list) at r0
  change w1.cell? ⟨q, off + 1, none⟩ = some (.string y0.bytes) at r1
  go_wp2_with fail
  refine (HT0.out _ _).mono ?_
  rintro e w2 ⟨rfl, hg2⟩
  have HF2 := Lib.hid (HF1.out.step hg2); have HB2 := Lib.hid (HB1.out.grown hg2 (by simp))
  clear hg2 r0 r1 r2 HF1 HT0 HB1
  obtain ⟨r0, r1, r2⟩ := HF2.out.row 1 (by decide)
  simp only [Nat.one_mul] at r0 r1 r2
  change w2.cell? ⟨q, off + 3, none⟩ = some (.bool y1.list) at r0
  change w2.cell? ⟨q, off + 3 + 1, none⟩ = some (.string y1.bytes) at r1
  go_wp2_with fail
  refine (HT1.out _ _).mono ?_
  rintro e w3 ⟨rfl, hg3⟩
  have HF3 := Lib.hid (HF2.out.step hg3); have HB3 := Lib.hid (HB2.out.grown hg3 (by simp))
  clear hg3 r0 r1 r2 HF2 HT1 HB2
  obtain ⟨A4, c4, hv4⟩ := (HF3.out.sub 2 (by decide)).slice
  have hv4 : vs.getD 2 undef = .slice A4 y2.items.length c4 := hv4
  obtain ⟨r0, r1, r2⟩ := HF3.out.row 2 (by decide)
  have hsub4 := HF3.out.sub 2 (by decide)
  rw [hv4] at r2 hsub4
  have hgt := readD_any y2 A4 y2.items.length c4 w3 hsub4 HH2.out HH4.out
  rw [HGE.out] at hgt
  replace r0 : w3.cell? ⟨q, off + 6, none⟩ = some (.bool y2.list) := r0
  replace r1 : w3.cell? ⟨q, off + 6 + 1, none⟩ = some (.string y2.bytes) := r1
  replace r2 : w3.cell? ⟨q, off + 6 + 2, none⟩ = some (.slice A4 y2.items.length c4) := r2
  obtain ⟨n4, hn4⟩ : ∃ n, y2.items.length = n := ⟨_, rfl⟩
  obtain ⟨l4, hl4⟩ : ∃ n, y2.list = n := ⟨_, rfl⟩
  obtain ⟨b4, hb4⟩ : ∃ n, y2.bytes = n := ⟨_, rfl⟩
  rw [hl4] at r0 hgt
  rw [hb4] at r1 hgt
  rw [hn4] at r2 hgt
  have HGX := Lib.hid hgt
  clear hv4 hsub4 hgt hn4 hl4 hb4
  go_wp2_with fail
  refine (HGX.out).mono ?_
  rintro e w4 ⟨A', m, c', rfl, hlg, hg4⟩
  have HZ3 := Lib.hid (show g0 < w3.heap.size from HB3.out.lt)
  have hq5 := Blk.new w4 25 #[.int .i64 kd, .bool ST, .int .u64 (N1 : Int), .slice A' m c', .bool false, .int .u64 0, .int .u64 0]
  have hg5 := only_alloc (World.grownBy.refl w4 none) (.cells #[.int .i64 kd, .bool ST, .int .u64 (N1 : Int), .slice A' m c', .bool false, .int .u64 0, .int .u64 0] 25)
  obtain ⟨xb, hxb⟩ : ∃ b, w4.heap.size = b := ⟨_, rfl⟩
  have hlx : g0 < xb := by have := hg4.size; have := HZ3.out; omega
  have HF5 := (HF3.out.step hg4).step hg5
  have HB5 := (HB3.out.grown hg4 (by simp)).grown hg5 (by simp)
  rw [hxb] at hq5
  have hlg5 : E3 = 0 → LogsS (fun g => g0 < g ∧ g < xb) (w4.alloc (.cells #[.int .i64 kd, .bool ST, .int .u64 (N1 : Int), .slice A' m c', .bool false, .int .u64 0, .int .u64 0] 25)) ((rowL 0 16 y2).map logL) A' m := fun h0 =>
    ((hlg h0).lt.weak fun g hg => ⟨by have := HZ3.out; have h1 := hg.1; omega, by have h1 := hg.2; omega⟩).keep fun p _ c hc => hg5.cell hc (by simp)
  have HK : Hid (OfG w 5 q off [y0, y1, y2, y3, y4] vs g0 xb #[.int .i64 kd, .bool ST, .int .u64 (N1 : Int), .slice A' m c', .bool false, .int .u64 0, .int .u64 0] (E3 = 0) ((rowL 0 16 y2).map logL) A' m _) := Lib.hid ⟨HF5.row, HF5.grow, ⟨_, _, _, _, _, _, _, _, HB5⟩, hq5, hlg5, Nat.le_of_eq HW.out, hlx, HQ.out⟩
  clear hq5 hg5 hlx HF5 HB5 hlg5 hlg hg4 HGX HF3 HB3 HZ3 r0 r1 r2
  go_upto_region 5 with (fail)
  clear hxb
  generalize w4.alloc (.cells #[.int .i64 kd, .bool ST, .int .u64 (N1 : Int), .slice A' m c', .bool false, .int .u64 0, .int .u64 0] 25) = w5 at *
  have hb := HK.out.blk
  have b4 := hb.cell 4; have b5 := hb.cell 5; have b6 := hb.cell 6; have f4 := hb.frozen 4; have f5 := hb.frozen 5; have f6 := hb.frozen 6
  simp only [List.getElem?_toArray, List.getElem?_cons_zero, List.getElem?_cons_succ] at b4 b5 b6
  clear hb
  have HK6 := Lib.hid (HK.out.setx 4 (.bool true))
  simp only [List.setIfInBounds_toArray, List.set_cons_zero, List.set_cons_succ] at HK6
  clear HK
  go_upto_region 9 with (fail)
  generalize w5.setCell ⟨xb, 4, none⟩ (.bool true) = w6 at *
  clear b4 b5 b6 f4 f5 f6
  obtain ⟨r0, r1, r2⟩ := HK6.out.row 3 (by decide)
  replace r0 : w6.cell? ⟨q, off + 9, none⟩ = some (.bool y3.list) := r0
  replace r1 : w6.cell? ⟨q, off + 9 + 1, none⟩ = some (.string y3.bytes) := r1
  replace r2 : w6.cell? ⟨q, off + 9 + 2, none⟩ = some (vs.getD 3 undef) := r2
  go_wp2_with fail
  refine (HT3.out _ _).mono ?_
  rintro e w7 ⟨rfl, hg7⟩
  have HK := Lib.hid (HK6.out.kept hg7)
  clear hg7 HK6 r0 r1 r2 HT3
  have hb := HK.out.blk
  have b4 := hb.cell 4; have b5 := hb.cell 5; have b6 := hb.cell 6; have f4 := hb.frozen 4; have f5 := hb.frozen 5; have f6 := hb.frozen 6
  simp only [List.getElem?_toArray, List.getElem?_cons_zero, List.getElem?_cons_succ] at b4 b5 b6
  clear hb
  have HK8 := Lib.hid (HK.out.setx 5 (.int .u64 (N3 : Int)))
  simp only [List.setIfInBounds_toArray, List.set_cons_zero, List.set_cons_succ] at HK8
  clear HK
  go_upto_region 10 with (fail)
  generalize w7.setCell ⟨xb, 5, none⟩ (.int .u64 (N3 : Int)) = w8 at *
  clear b4 b5 b6 f4 f5 f6
  go_upto_region 11 with (fail)
  obtain ⟨r0, r1, r2⟩ := HK8.out.row 4 (by decide)
  replace r0 : w8.cell? ⟨q, off + 12, none⟩ = some (.bool y4.list) := r0
  replace r1 : w8.cell? ⟨q, off + 12 + 1, none⟩ = some (.string y4.bytes) := r1
  replace r2 : w8.cell? ⟨q, off + 12 + 2, none⟩ = some (vs.getD 4 undef) := r2
  go_wp2_with fail
  refine (HT4.out _ _).mono ?_
  rintro e w9 ⟨rfl, hg9⟩
  have HK := Lib.hid (HK8.out.kept hg9)
  clear hg9 HK8 r0 r1 r2 HT4
  have hb := HK.out.blk
  have b4 := hb.cell 4; have b5 := hb.cell 5; have b6 := hb.cell 6; have f4 := hb.frozen 4; have f5 := hb.frozen 5; have f6 := hb.frozen 6
  simp only [List.getElem?_toArray, List.getElem?_cons_zero, List.getElem?_cons_succ] at b4 b5 b6
  clear hb
  have HK10 := Lib.hid (HK.out.setx 6 (.int .u64 (N4 : Int)))
  simp only [List.setIfInBounds_toArray, List.set_cons_zero, List.set_cons_succ] at HK10
  clear HK
  go_upto_region 12 with (fail)
  generalize w9.setCell ⟨xb, 6, none⟩ (.int .u64 (N4 : Int)) = w10 at *
  clear b4 b5 b6 f4 f5 f6
  have HK := HK10
  clear HK10
  have hb := HK.out.blk
  have b4 := hb.cell 4; have b5 := hb.cell 5; have b6 := hb.cell 6; have f4 := hb.frozen 4; have f5 := hb.frozen 5; have f6 := hb.frozen 6
  simp only [List.getElem?_toArray, List.getElem?_cons_zero, List.getElem?_cons_succ] at b4 b5 b6
  clear hb
  by_cases k1 : E6 = 0
  · have q1 : (E6 == 0) = true := by simp [k1]
    by_cases k2 : N4 = 1
    · have q2 : ((N4 : Int) != 1) = false := by simp [k2]
      obtain rfl : E5 = E6 := by rw [HVE.out]; exact if_neg (fun h => h.2 k2)
      clear k1 k2
      go_upto_region 14 with (fail)
      clear q1 q2 b4 b5 b6 f4 f5 f6 HVE
      have HK14 := Lib.hid HK.out.kept_drew
      have hSS := HK14.out.blk
      refine wp_region_held (S := fun W => Blk W xb 25 #[.int .i64 kd, .bool ST, .int .u64 (N1 : Int), .slice A' m c', .bool true, .int .u64 (N3 : Int), .int .u64 (N4 : Int)]) (by kernel_rfl) ?_
      change wpAnyH _ _ _ _ _ _ _ _ w10.drew
      generalize w10.drew = u0 at *
      refine held_take (i := 0) (v := .agg #[.int .i64 kd, .bool ST, .int .u64 (N1 : Int), .slice A' m c', .bool true, .int .u64 (N3 : Int), .int .u64 (N4 : Int)]) (some 70) rfl (by kernel_rfl) (by kernel_rfl) (by kernel_rfl) (fun _ _ _ h => h) rfl (Or.inl ⟨by rfl, fun W hW => exec_load_rowT rfl rfl 25 #[.int .i64 kd, .bool ST, .int .u64 (N1 : Int), .slice A' m c', .bool true, .int .u64 (N3 : Int), .int .u64 (N4 : Int)] _ hW Tryz.underlying25 rfl (by kernel_rfl)⟩) hSS ?_
      simp only [Act.put, List.setIfInBounds_toArray, List.set_cons_zero, List.set_cons_succ]
      refine held_take (i := 1) (v := .int .i64 E1) (some 71) rfl (by kernel_rfl) (by kernel_rfl) (by kernel_rfl) (fun _ _ _ h => h) rfl (Or.inl ⟨by rfl, fun W hW => by go_simp⟩) hSS ?_
      simp only [Act.put, List.setIfInBounds_toArray, List.set_cons_zero, List.set_cons_succ]
      refine held_take (i := 2) (v := .int .i64 E2) (some 72) rfl (by kernel_rfl) (by kernel_rfl) (by kernel_rfl) (fun _ _ _ h => h) rfl (Or.inl ⟨by rfl, fun W hW => by go_simp⟩) hSS ?_
      simp only [Act.put, List.setIfInBounds_toArray, List.set_cons_zero, List.set_cons_succ]
      refine held_take (i := 3) (v := .int .i64 E3) (some 73) rfl (by kernel_rfl) (by kernel_rfl) (by kernel_rfl) (fun _ _ _ h => h) rfl (Or.inl ⟨by rfl, fun W hW => by go_simp⟩) hSS ?_
      simp only [Act.put, List.setIfInBounds_toArray, List.set_cons_zero, List.set_cons_succ]
      refine held_take (i := 4) (v := .int .i64 E4) (some 74) rfl (by kernel_rfl) (by kernel_rfl) (by kernel_rfl) (fun _ _ _ h => h) rfl (Or.inl ⟨by rfl, fun W hW => by go_simp⟩) hSS ?_
      simp only [Act.put, List.setIfInBounds_toArray, List.set_cons_zero, List.set_cons_succ]
      refine held_take (i := 5) (v := .int .i64 E5) (some 75) rfl (by kernel_rfl) (by kernel_rfl) (by kernel_rfl) (fun _ _ _ h => h) rfl (Or.inl ⟨by rfl, fun W hW => by go_simp⟩) hSS ?_
      simp only [Act.put, List.setIfInBounds_toArray, List.set_cons_zero, List.set_cons_succ]
      have hF10 := HK14.out.kept (only_alloc (World.grownBy.refl u0 none) (.cells #[.int .i64 E1, .int .i64 E2, .int .i64 E3, .int .i64 E4, .int .i64 E5] 28))
      have hE10 := Blk.new u0 28 #[.int .i64 E1, .int .i64 E2, .int .i64 E3, .int .i64 E4, .int .i64 E5]
      have hRE : Reads (u0.alloc (.cells #[.int .i64 E1, .int .i64 E2, .int .i64 E3, .int .i64 E4, .int .i64 E5] 28)) (u0.heap.size + 1) 1 (some ⟨u0.heap.size, 0, none⟩) 5 ([E1, E2, E3, E4, E5].map (Value.int .i64)) := ⟨rfl, fun _ => ⟨_, rfl, Nat.lt_succ_self _, fun j u hu => by
          have := hE10.cell j
          rw [Addr.add_mid, Nat.zero_add, this, ← hu]
          simp⟩⟩
      have HFI := Lib.hid (firstR_any _ _ 5 5 [E1, E2, E3, E4, E5] _ hRE (by decide))
      rw [HFF.out] at HFI
      refine held_one (i := 6) (by kernel_rfl) ?_
      refine held_value (some 76) rfl rfl (.slice (some ⟨u0.heap.size, 0, none⟩) 5 5) (by go_simp <;> rfl) rfl hF10.blk ?_
      simp only [Act.put, List.setIfInBounds_toArray, List.set_cons_zero, List.set_cons_succ]
      refine held_one (i := 7) (by kernel_rfl) ?_
      refine held_enter (some 77) rfl rfl 74 #[.slice (some ⟨u0.heap.size, 0, none⟩) 5 5] (exec_call1 _ (.tmp 76) _ rfl _ rfl rfl) rfl ((HFI.out).mono ?_)
      rintro e u1 ⟨rfl, rfl⟩
      refine ⟨_, rfl, hF10.blk, ?_⟩
      simp only [Act.put, List.setIfInBounds_toArray, List.set_cons_zero, List.set_cons_succ]
      refine held_one (i := 8) (by kernel_rfl) ?_
      refine held_value (some 78) rfl rfl (.agg #[.int .i64 kd, .bool ST, .int .u64 (N1 : Int), .slice A' m c', .bool true, .int .u64 (N3 : Int), .int .u64 (N4 : Int), .int .i64 F]) (by go_simp <;> rfl) rfl hF10.blk ?_
      simp only [Act.put, List.setIfInBounds_toArray, List.set_cons_zero, List.set_cons_succ]
      refine held_one (i := 9) (by kernel_rfl) ?_
      obtain ⟨z0, z1, z2, z3, z4, z5, z6, z7, hz⟩ := hF10.got
      have T1 := Lib.hid (blk_setG hz (.int .i64 kd) (.bool ST) (.int .u64 (N1 : Int)) (.slice A' m c') (.bool true) (.int .u64 (N3 : Int)) (.int .u64 (N4 : Int)) (.int .i64 F))
      have T2 := Lib.hid (only_setG hF10.grow hF10.lo (.int .i64 kd) (.bool ST) (.int .u64 (N1 : Int)) (.slice A' m c') (.bool true) (.int .u64 (N3 : Int)) (.int .u64 (N4 : Int)) (.int .i64 F))
      have T3 := Lib.hid (fun h0 => (hF10.logs h0).keep fun p hp u hu => (cell_setG (.int .i64 kd) (.bool ST) (.int .u64 (N1 : Int)) (.slice A' m c') (.bool true) (.int .u64 (N3 : Int)) (.int .u64 (N4 : Int)) (.int .i64 F) (b := g0) (p := p) (by have := hp.1; omega)).trans hu)
      refine held_store rfl rfl (exec_storeG (.tmp 4) (.tmp 78) rfl rfl rfl hz) (hF10.setG_blk (.int .i64 kd) (.bool ST) (.int .u64 (N1 : Int)) (.slice A' m c') (.bool true) (.int .u64 (N3 : Int)) (.int .u64 (N4 : Int)) (.int .i64 F)) ?_
      clear hz hF10 hE10 hRE HFI hSS HK14 HK
      generalize setG _ g0 (.int .i64 kd) (.bool ST) (.int .u64 (N1 : Int)) (.slice A' m c') (.bool true) (.int .u64 (N3 : Int)) (.int .u64 (N4 : Int)) (.int .i64 F) = u9 at *
      simp only [Act.put, List.setIfInBounds_toArray, List.set_cons_zero, List.set_cons_succ]
      refine wpAnyH_done (by kernel_rfl) ?_ _
      go_wp2_with fail
      refine bodyPost_ret (results_cell1 (fn := Tryz.f45) rfl _ _ _ _ rfl (load_gotR T1.out)) rfl ?_
      unfold GotEnd
      rw [HX.out, HE.out]
      refine ⟨A', m, c', rfl, fun h0 => ?_, T2.out⟩
      have h3 : E3 = 0 := by
        have h := HFF.out
        rw [h0, firstL5] at h
        unfold fst1 at h
        by_cases k1 : E1 = 0 <;> by_cases k2 : E2 = 0 <;> by_cases k3 : E3 = 0 <;> simp_all
      exact (T3.out h3).weak fun g hg => (show w.heap.size ≤ g by have := hg.1; have := HW.out; omega)
    · have q2 : ((N4 : Int) != 1) = true := by simp; omega
      obtain rfl : E5 = 2 := by rw [HVE.out]; exact if_pos ⟨k1, k2⟩
      clear k1 k2
      go_upto_region 14 with (fail)
      clear q1 q2 b4 b5 b6 f4 f5 f6 HVE
      have HK14 := Lib.hid HK.out.kept_drew
      have hSS := HK14.out.blk
      refine wp_region_held (S := fun W => Blk W xb 25 #[.int .i64 kd, .bool ST, .int .u64 (N1 : Int), .slice A' m c', .bool true, .int .u64 (N3 : Int), .int .u64 (N4 : Int)]) (by kernel_rfl) ?_
      change wpAnyH _ _ _ _ _ _ _ _ w10.drew
      generalize w10.drew = u0 at *
      refine held_take (i := 0) (v := .agg #[.int .i64 kd, .bool ST, .int .u64 (N1 : Int), .slice A' m c', .bool true, .int .u64 (N3 : Int), .int .u64 (N4 : Int)]) (some 70) rfl (by kernel_rfl) (by kernel_rfl) (by kernel_rfl) (fun _ _ _ h => h) rfl (Or.inl ⟨by rfl, fun W hW => exec_load_rowT rfl rfl 25 #[.int .i64 kd, .bool ST, .int .u64 (N1 : Int), .slice A' m c', .bool true, .int .u64 (N3 : Int), .int .u64 (N4 : Int)] _ hW Tryz.underlying25 rfl (by kernel_rfl)⟩) hSS ?_
      simp only [Act.put, List.setIfInBounds_toArray, List.set_cons_zero, List.set_cons_succ]
      refine held_take (i := 1) (v := .int .i64 E1) (some 71) rfl (by kernel_rfl) (by kernel_rfl) (by kernel_rfl) (fun _ _ _ h => h) rfl (Or.inl ⟨by rfl, fun W hW => by go_simp⟩) hSS ?_
      simp only [Act.put, List.setIfInBounds_toArray, List.set_cons_zero, List.set_cons_succ]
      refine held_take (i := 2) (v := .int .i64 E2) (some 72) rfl (by kernel_rfl) (by kernel_rfl) (by kernel_rfl) (fun _ _ _ h => h) rfl (Or.inl ⟨by rfl, fun W hW => by go_simp⟩) hSS ?_
      simp only [Act.put, List.setIfInBounds_toArray, List.set_cons_zero, List.set_cons_succ]
      refine held_take (i := 3) (v := .int .i64 E3) (some 73) rfl (by kernel_rfl) (by kernel_rfl) (by kernel_rfl) (fun _ _ _ h => h) rfl (Or.inl ⟨by rfl, fun W hW => by go_simp⟩) hSS ?_
      simp only [Act.put, List.setIfInBounds_toArray, List.set_cons_zero, List.set_cons_succ]
      refine held_take (i := 4) (v := .int .i64 E4) (some 74) rfl (by kernel_rfl) (by kernel_rfl) (by kernel_rfl) (fun _ _ _ h => h) rfl (Or.inl ⟨by rfl, fun W hW => by go_simp⟩) hSS ?_
      simp only [Act.put, List.setIfInBounds_toArray, List.set_cons_zero, List.set_cons_succ]
      refine held_take (i := 5) (v := .int .i64 2) (some 75) rfl (by kernel_rfl) (by kernel_rfl) (by kernel_rfl) (fun _ _ _ h => h) rfl (Or.inl ⟨by rfl, fun W hW => by go_simp⟩) hSS ?_
      simp only [Act.put, List.setIfInBounds_toArray, List.set_cons_zero, List.set_cons_succ]
      have hF10 := HK14.out.kept (only_alloc (World.grownBy.refl u0 none) (.cells #[.int .i64 E1, .int .i64 E2, .int .i64 E3, .int .i64 E4, .int .i64 2] 28))
      have hE10 := Blk.new u0 28 #[.int .i64 E1, .int .i64 E2, .int .i64 E3, .int .i64 E4, .int .i64 2]
      have hRE : Reads (u0.alloc (.cells #[.int .i64 E1, .int .i64 E2, .int .i64 E3, .int .i64 E4, .int .i64 2] 28)) (u0.heap.size + 1) 1 (some ⟨u0.heap.size, 0, none⟩) 5 ([E1, E2, E3, E4, 2].map (Value.int .i64)) := ⟨rfl, fun _ => ⟨_, rfl, Nat.lt_succ_self _, fun j u hu => by
          have := hE10.cell j
          rw [Addr.add_mid, Nat.zero_add, this, ← hu]
          simp⟩⟩
      have HFI := Lib.hid (firstR_any _ _ 5 5 [E1, E2, E3, E4, 2] _ hRE (by decide))
      rw [HFF.out] at HFI
      refine held_one (i := 6) (by kernel_rfl) ?_
      refine held_value (some 76) rfl rfl (.slice (some ⟨u0.heap.size, 0, none⟩) 5 5) (by go_simp <;> rfl) rfl hF10.blk ?_
      simp only [Act.put, List.setIfInBounds_toArray, List.set_cons_zero, List.set_cons_succ]
      refine held_one (i := 7) (by kernel_rfl) ?_
      refine held_enter (some 77) rfl rfl 74 #[.slice (some ⟨u0.heap.size, 0, none⟩) 5 5] (exec_call1 _ (.tmp 76) _ rfl _ rfl rfl) rfl ((HFI.out).mono ?_)
      rintro e u1 ⟨rfl, rfl⟩
      refine ⟨_, rfl, hF10.blk, ?_⟩
      simp only [Act.put, List.setIfInBounds_toArray, List.set_cons_zero, List.set_cons_succ]
      refine held_one (i := 8) (by kernel_rfl) ?_
      refine held_value (some 78) rfl rfl (.agg #[.int .i64 kd, .bool ST, .int .u64 (N1 : Int), .slice A' m c', .bool true, .int .u64 (N3 : Int), .int .u64 (N4 : Int), .int .i64 F]) (by go_simp <;> rfl) rfl hF10.blk ?_
      simp only [Act.put, List.setIfInBounds_toArray, List.set_cons_zero, List.set_cons_succ]
      refine held_one (i := 9) (by kernel_rfl) ?_
      obtain ⟨z0, z1, z2, z3, z4, z5, z6, z7, hz⟩ := hF10.got
      have T1 := Lib.hid (blk_setG hz (.int .i64 kd) (.bool ST) (.int .u64 (N1 : Int)) (.slice A' m c') (.bool true) (.int .u64 (N3 : Int)) (.int .u64 (N4 : Int)) (.int .i64 F))
      have T2 := Lib.hid (only_setG hF10.grow hF10.lo (.int .i64 kd) (.bool ST) (.int .u64 (N1 : Int)) (.slice A' m c') (.bool true) (.int .u64 (N3 : Int)) (.int .u64 (N4 : Int)) (.int .i64 F))
      have T3 := Lib.hid (fun h0 => (hF10.logs h0).keep fun p hp u hu => (cell_setG (.int .i64 kd) (.bool ST) (.int .u64 (N1 : Int)) (.slice A' m c') (.bool true) (.int .u64 (N3 : Int)) (.int .u64 (N4 : Int)) (.int .i64 F) (b := g0) (p := p) (by have := hp.1; omega)).trans hu)
      refine held_store rfl rfl (exec_storeG (.tmp 4) (.tmp 78) rfl rfl rfl hz) (hF10.setG_blk (.int .i64 kd) (.bool ST) (.int .u64 (N1 : Int)) (.slice A' m c') (.bool true) (.int .u64 (N3 : Int)) (.int .u64 (N4 : Int)) (.int .i64 F)) ?_
      clear hz hF10 hE10 hRE HFI hSS HK14 HK
      generalize setG _ g0 (.int .i64 kd) (.bool ST) (.int .u64 (N1 : Int)) (.slice A' m c') (.bool true) (.int .u64 (N3 : Int)) (.int .u64 (N4 : Int)) (.int .i64 F) = u9 at *
      simp only [Act.put, List.setIfInBounds_toArray, List.set_cons_zero, List.set_cons_succ]
      refine wpAnyH_done (by kernel_rfl) ?_ _
      go_wp2_with fail
      refine bodyPost_ret (results_cell1 (fn := Tryz.f45) rfl _ _ _ _ rfl (load_gotR T1.out)) rfl ?_
      unfold GotEnd
      rw [HX.out, HE.out]
      refine ⟨A', m, c', rfl, fun h0 => ?_, T2.out⟩
      have h3 : E3 = 0 := by
        have h := HFF.out
        rw [h0, firstL5] at h
        unfold fst1 at h
        by_cases k1 : E1 = 0 <;> by_cases k2 : E2 = 0 <;> by_cases k3 : E3 = 0 <;> simp_all
      exact (T3.out h3).weak fun g hg => (show w.heap.size ≤ g by have := hg.1; have := HW.out; omega)
  · have q1 : (E6 == 0) = false := by simpa using k1
    obtain rfl : E5 = E6 := by rw [HVE.out]; exact if_neg (fun h => k1 h.1)
    clear k1
    go_upto_region 14 with (fail)
    clear q1 b4 b5 b6 f4 f5 f6 HVE
    have HK14 := Lib.hid HK.out.kept_drew
    have hSS := HK14.out.blk
    refine wp_region_held (S := fun W => Blk W xb 25 #[.int .i64 kd, .bool ST, .int .u64 (N1 : Int), .slice A' m c', .bool true, .int .u64 (N3 : Int), .int .u64 (N4 : Int)]) (by kernel_rfl) ?_
    change wpAnyH _ _ _ _ _ _ _ _ w10.drew
    generalize w10.drew = u0 at *
    refine held_take (i := 0) (v := .agg #[.int .i64 kd, .bool ST, .int .u64 (N1 : Int), .slice A' m c', .bool true, .int .u64 (N3 : Int), .int .u64 (N4 : Int)]) (some 70) rfl (by kernel_rfl) (by kernel_rfl) (by kernel_rfl) (fun _ _ _ h => h) rfl (Or.inl ⟨by rfl, fun W hW => exec_load_rowT rfl rfl 25 #[.int .i64 kd, .bool ST, .int .u64 (N1 : Int), .slice A' m c', .bool true, .int .u64 (N3 : Int), .int .u64 (N4 : Int)] _ hW Tryz.underlying25 rfl (by kernel_rfl)⟩) hSS ?_
    simp only [Act.put, List.setIfInBounds_toArray, List.set_cons_zero, List.set_cons_succ]
    refine held_take (i := 1) (v := .int .i64 E1) (some 71) rfl (by kernel_rfl) (by kernel_rfl) (by kernel_rfl) (fun _ _ _ h => h) rfl (Or.inl ⟨by rfl, fun W hW => by go_simp⟩) hSS ?_
    simp only [Act.put, List.setIfInBounds_toArray, List.set_cons_zero, List.set_cons_succ]
    refine held_take (i := 2) (v := .int .i64 E2) (some 72) rfl (by kernel_rfl) (by kernel_rfl) (by kernel_rfl) (fun _ _ _ h => h) rfl (Or.inl ⟨by rfl, fun W hW => by go_simp⟩) hSS ?_
    simp only [Act.put, List.setIfInBounds_toArray, List.set_cons_zero, List.set_cons_succ]
    refine held_take (i := 3) (v := .int .i64 E3) (some 73) rfl (by kernel_rfl) (by kernel_rfl) (by kernel_rfl) (fun _ _ _ h => h) rfl (Or.inl ⟨by rfl, fun W hW => by go_simp⟩) hSS ?_
    simp only [Act.put, List.setIfInBounds_toArray, List.set_cons_zero, List.set_cons_succ]
    refine held_take (i := 4) (v := .int .i64 E4) (some 74) rfl (by kernel_rfl) (by kernel_rfl) (by kernel_rfl) (fun _ _ _ h => h) rfl (Or.inl ⟨by rfl, fun W hW => by go_simp⟩) hSS ?_
    simp only [Act.put, List.setIfInBounds_toArray, List.set_cons_zero, List.set_cons_succ]
    refine held_take (i := 5) (v := .int .i64 E5) (some 75) rfl (by kernel_rfl) (by kernel_rfl) (by kernel_rfl) (fun _ _ _ h => h) rfl (Or.inl ⟨by rfl, fun W hW => by go_simp⟩) hSS ?_
    simp only [Act.put, List.setIfInBounds_toArray, List.set_cons_zero, List.set_cons_succ]
    have hF10 := HK14.out.kept (only_alloc (World.grownBy.refl u0 none) (.cells #[.int .i64 E1, .int .i64 E2, .int .i64 E3, .int .i64 E4, .int .i64 E5] 28))
    have hE10 := Blk.new u0 28 #[.int .i64 E1, .int .i64 E2, .int .i64 E3, .int .i64 E4, .int .i64 E5]
    have hRE : Reads (u0.alloc (.cells #[.int .i64 E1, .int .i64 E2, .int .i64 E3, .int .i64 E4, .int .i64 E5] 28)) (u0.heap.size + 1) 1 (some ⟨u0.heap.size, 0, none⟩) 5 ([E1, E2, E3, E4, E5].map (Value.int .i64)) := ⟨rfl, fun _ => ⟨_, rfl, Nat.lt_succ_self _, fun j u hu => by
        have := hE10.cell j
        rw [Addr.add_mid, Nat.zero_add, this, ← hu]
        simp⟩⟩
    have HFI := Lib.hid (firstR_any _ _ 5 5 [E1, E2, E3, E4, E5] _ hRE (by decide))
    rw [HFF.out] at HFI
    refine held_one (i := 6) (by kernel_rfl) ?_
    refine held_value (some 76) rfl rfl (.slice (some ⟨u0.heap.size, 0, none⟩) 5 5) (by go_simp <;> rfl) rfl hF10.blk ?_
    simp only [Act.put, List.setIfInBounds_toArray, List.set_cons_zero, List.set_cons_succ]
    refine held_one (i := 7) (by kernel_rfl) ?_
    refine held_enter (some 77) rfl rfl 74 #[.slice (some ⟨u0.heap.size, 0, none⟩) 5 5] (exec_call1 _ (.tmp 76) _ rfl _ rfl rfl) rfl ((HFI.out).mono ?_)
    rintro e u1 ⟨rfl, rfl⟩
    refine ⟨_, rfl, hF10.blk, ?_⟩
    simp only [Act.put, List.setIfInBounds_toArray, List.set_cons_zero, List.set_cons_succ]
    refine held_one (i := 8) (by kernel_rfl) ?_
    refine held_value (some 78) rfl rfl (.agg #[.int .i64 kd, .bool ST, .int .u64 (N1 : Int), .slice A' m c', .bool true, .int .u64 (N3 : Int), .int .u64 (N4 : Int), .int .i64 F]) (by go_simp <;> rfl) rfl hF10.blk ?_
    simp only [Act.put, List.setIfInBounds_toArray, List.set_cons_zero, List.set_cons_succ]
    refine held_one (i := 9) (by kernel_rfl) ?_
    obtain ⟨z0, z1, z2, z3, z4, z5, z6, z7, hz⟩ := hF10.got
    have T1 := Lib.hid (blk_setG hz (.int .i64 kd) (.bool ST) (.int .u64 (N1 : Int)) (.slice A' m c') (.bool true) (.int .u64 (N3 : Int)) (.int .u64 (N4 : Int)) (.int .i64 F))
    have T2 := Lib.hid (only_setG hF10.grow hF10.lo (.int .i64 kd) (.bool ST) (.int .u64 (N1 : Int)) (.slice A' m c') (.bool true) (.int .u64 (N3 : Int)) (.int .u64 (N4 : Int)) (.int .i64 F))
    have T3 := Lib.hid (fun h0 => (hF10.logs h0).keep fun p hp u hu => (cell_setG (.int .i64 kd) (.bool ST) (.int .u64 (N1 : Int)) (.slice A' m c') (.bool true) (.int .u64 (N3 : Int)) (.int .u64 (N4 : Int)) (.int .i64 F) (b := g0) (p := p) (by have := hp.1; omega)).trans hu)
    refine held_store rfl rfl (exec_storeG (.tmp 4) (.tmp 78) rfl rfl rfl hz) (hF10.setG_blk (.int .i64 kd) (.bool ST) (.int .u64 (N1 : Int)) (.slice A' m c') (.bool true) (.int .u64 (N3 : Int)) (.int .u64 (N4 : Int)) (.int .i64 F)) ?_
    clear hz hF10 hE10 hRE HFI hSS HK14 HK
    generalize setG _ g0 (.int .i64 kd) (.bool ST) (.int .u64 (N1 : Int)) (.slice A' m c') (.bool true) (.int .u64 (N3 : Int)) (.int .u64 (N4 : Int)) (.int .i64 F) = u9 at *
    simp only [Act.put, List.setIfInBounds_toArray, List.set_cons_zero, List.set_cons_succ]
    refine wpAnyH_done (by kernel_rfl) ?_ _
    go_wp2_with fail
    refine bodyPost_ret (results_cell1 (fn := Tryz.f45) rfl _ _ _ _ rfl (load_gotR T1.out)) rfl ?_
    unfold GotEnd
    rw [HX.out, HE.out]
    refine ⟨A', m, c', rfl, fun h0 => ?_, T2.out⟩
    have h3 : E3 = 0 := by
      have h := HFF.out
      rw [h0, firstL5] at h
      unfold fst1 at h
      by_cases k1 : E1 = 0 <;> by_cases k2 : E2 = 0 <;> by_cases k3 : E3 = 0 <;> simp_all
    exact (T3.out h3).weak fun g hg => (show w.heap.size ≤ g by have := hg.1; have := HW.out; omega)
theorem ofD_any (kd : Int) (l : List Itm) (A : Option Addr) (n c : Nat) (w : World) (hS : SubW w l (.slice A n c)) (hn : 3 ≤ n) (hn5 : n ≤ 5) (hsz : ∀ y ∈ l, y.bytes.size ≤ 9223372036854775807) (h2 : (l.tail.tail.headD Itm.none_).items.length ≤ 100000) (h4 : ∀ x ∈ (l.tail.tail.headD Itm.none_).items, ((x.items.tail).headD Itm.none_).items.length ≤ 100000) :
    Calls Tryz.prog 45 #[.int .i64 kd, .slice A n c] w (GotEnd kd l w) := by
  have hl := hS.row.1
  match l, hl with
  | [], hl => simp at hl; omega
  | [_], hl => simp at hl; omega
  | [_, _], hl => simp at hl; omega
  | [y0, y1, y2], hl => obtain rfl : n = 3 := hl; exact ofD_3 kd y0 y1 y2 A c w hS hsz h2 h4
  | [y0, y1, y2, y3], hl => obtain rfl : n = 4 := hl; exact ofD_4 kd y0 y1 y2 y3 A c w hS hsz h2 h4
  | [y0, y1, y2, y3, y4], hl => obtain rfl : n = 5 := hl; exact ofD_5 kd y0 y1 y2 y3 y4 A c w hS hsz h2 h4
  | _ :: _ :: _ :: _ :: _ :: _ :: _, hl => simp at hl; omega
end Go.Proofs.YthalohloneojlaaGreatDoor
