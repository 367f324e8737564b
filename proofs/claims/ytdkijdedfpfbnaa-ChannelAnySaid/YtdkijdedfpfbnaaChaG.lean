/- slices.Insert of one frame, the library's own text. -/
import Derived.Test.YtdkijdedfpfbnaaChaF
namespace Go.Proofs.Ytdkijdedfpfbnaa
open Go.RowKit Go.Shelf

theorem insV (xs : List Frm) (f : Frm) (p : Nat) (hp : p ≤ xs.length) : framesV (xs.take p ++ f :: xs.drop p) = (framesV xs).take (p * 4) ++ (f.cells ++ (framesV xs).drop (p * 4)) := by
  have h1 : framesV xs = framesV (xs.take p) ++ framesV (xs.drop p) := by rw [← framesV_append, List.take_append_drop]
  have hl : (framesV (xs.take p)).length = p * 4 := by rw [framesV_len, List.length_take]; congr 1; omega
  rw [framesV_append]
  have h2 : (framesV xs).take (p * 4) = framesV (xs.take p) := by rw [h1, List.take_left' hl]
  have h3 : (framesV xs).drop (p * 4) = framesV (xs.drop p) := by rw [h1, List.drop_left' hl]
  rw [h2, h3]
  rfl
theorem run_overlapsF (w : World) (g g0 la ca lb cb off : Nat) (f : Array Value) (cur : Array Value) (hne : g ≠ g0) (hg : Blk w g 30 f) (h0 : Blk w g0 30 cur) (hc : cur.size ≠ 0) :
    (callFunc 35 #[.slice (some ⟨g, 0, none⟩) la ca, .slice (some ⟨g0, off, none⟩) lb cb]).run Try.prog w = .ok (.value (.bool false)) w := by
  have hz : ∀ w, (Go.sizeOf 30).run Try.prog w = .ok 4 w := fun w => Try.sizeOf30 w
  have hsa : w.shape? g = some (30, f.size) := by unfold Blk at hg; simp [World.shape?, hg]
  have hsb : w.shape? g0 = some (30, cur.size) := by unfold Blk at h0; simp [World.shape?, h0]
  rw [run_callFunc_extern Try.func35 (by kernel_rfl) (by kernel_rfl) (by kernel_rfl) (e := Extern.SlicesOverlaps.overlaps #[23, 23] #[4]) (by kernel_rfl),
      Lib.run_overlaps_apart w 23 4 30 Try.underlying23 4 hz ⟨g, 0, none⟩ ⟨g0, off, none⟩ la ca lb cb hne _ _ _ _ hsa hsb hc (hg.frozen 0) (hg.frozen _)]
  rfl
theorem below_setCells {B : Nat} {g : Nat} (hg : B ≤ g) : ∀ (vs : List Value) (o : Nat) (w0 w : World), Below B w0 w → Below B w0 (w.setCells g o vs)
  | [], _, _, _, h => h
  | v :: r, o, w0, _, h => below_setCells hg r (o + 1) w0 _ (h.setCell (p := ⟨g, o, none⟩) hg v)
theorem Below.drew' {B : Nat} {w w' : World} (h : Below B w w') : Below B w w'.drew := ⟨h.os, h.tape, h.output, h.size, h.block⟩
/-- a block whose first cells are known is a row -/
theorem own_of_blk {w : World} {base g cap n : Nat} {cur : Array Value} {xs : List Frm} (hb : base ≤ g) (h : Blk w g 30 cur) (hn : n ≤ cap) (hc : cap ≤ maxLen) (hz : cur.size = cap * 4) (hl : xs.length = n) (hx : ∀ j, j < n * 4 → cur[j]? = (framesV xs)[j]?) :
    w.ownsRow base 30 4 (.slice (some ⟨g, 0, none⟩) n cap) n (framesV xs) := by
  refine ⟨by rw [framesV_len, hl], .inr ⟨g, cap, cur, rfl, hb, h, hn, hc, hz, ?_⟩⟩
  refine List.ext_getElem? fun j => ?_
  by_cases hj : j < n * 4
  · rw [List.getElem?_take_of_lt hj, ← hx j hj]; simp
  · rw [List.getElem?_eq_none (by rw [List.length_take]; omega), List.getElem?_eq_none (by rw [framesV_len, hl]; omega)]
theorem own_blk {w : World} {base g cap n : Nat} {xs : List Frm} (h : w.ownsRow base 30 4 (.slice (some ⟨g, 0, none⟩) n cap) n (framesV xs)) :
    ∃ cur, base ≤ g ∧ Blk w g 30 cur ∧ n ≤ cap ∧ cap ≤ maxLen ∧ cur.size = cap * 4 ∧ xs.length = n ∧ ∀ j, j < n * 4 → cur[j]? = (framesV xs)[j]? := by
  obtain ⟨hl, (⟨hv, _⟩ | ⟨g', cap', cur, hv, hb, hh, hn, hc, hz, hx⟩)⟩ := h
  · cases hv
  · simp only [Value.slice.injEq, Option.some.injEq, Addr.mk.injEq] at hv
    obtain ⟨⟨rfl, _, _⟩, _, rfl⟩ := hv
    rw [framesV_len] at hl
    refine ⟨cur, hb, hh, hn, hc, hz, by omega, fun j hj => ?_⟩
    rw [← hx, List.getElem?_take_of_lt hj]; simp
theorem ins_get (xs : List Frm) (f : Frm) (p n : Nat) (hp : p < n) (hl : xs.length = n) (j : Nat) (hj : j < (n + 1) * 4) :
    (framesV (xs.take p ++ f :: xs.drop p))[j]? = if p * 4 ≤ j ∧ j < p * 4 + 4 then f.cells[j - p * 4]? else if (p + 1) * 4 ≤ j ∧ j < (p + 1) * 4 + (n - p) * 4 then ((framesV xs).drop (p * 4))[j - (p + 1) * 4]? else (framesV xs)[j]? := by
  have hfl : (framesV xs).length = n * 4 := by rw [framesV_len, hl]
  have hcl : f.cells.length = 4 := rfl
  rw [insV xs f p (by omega)]
  by_cases h1 : j < p * 4
  · rw [if_neg (by omega), if_neg (by omega), List.getElem?_append_left (by rw [List.length_take]; omega), List.getElem?_take_of_lt h1]
  · rw [List.getElem?_append_right (by rw [List.length_take]; omega), List.length_take, Nat.min_eq_left (by omega)]
    by_cases h2 : j < p * 4 + 4
    · rw [if_pos ⟨by omega, h2⟩, List.getElem?_append_left (by omega)]
    · rw [if_neg (by omega), if_pos ⟨by omega, by omega⟩, List.getElem?_append_right (by omega), hcl]
      congr 1
      omega

theorem zero_size (k : Nat) : (Builtin.zeroCells (Value.agg #[.string .empty, .int .i64 0, .string .empty, .bool false]).cells k).size = k * 4 := by
  simp [Builtin.zeroCells, Value.cells]

set_option maxRecDepth 100000 in
set_option maxHeartbeats 4000000 in
theorem insert_any (base : Nat) (A : Option Addr) (n c p g : Nat) (xs : List Frm) (f : Frm) (w : World) (hp : p ≤ n) (hn : n ≤ 1000000) (hown : w.ownsRow base 30 4 (.slice A n c) n (framesV xs)) (hbase : base ≤ w.heap.size)
    (hg : Blk w g 30 #[.string f.id, .int .i64 f.num, .string f.data, .bool f.last]) (hgb : some g ≠ (Value.slice A n c).ownBlock) :
    Calls Try.prog 26 #[.slice A n c, .int .i64 (p : Int), .slice (some ⟨g, 0, none⟩) 1 1] w fun e w' => ∃ A' c', e = .returned (.slice A' (n + 1) c') ∧ w'.ownsRow base 30 4 (.slice A' (n + 1) c') (n + 1) (framesV (xs.take p ++ f :: xs.drop p)) ∧ Below base w w' := by
  obtain ⟨i0, hi, hz0, hz1, hz2⟩ := info_parts frame_info
  have hl : xs.length = n := by have := hown.1; rw [framesV_len] at this; omega
  have hr1 : Reads w (g + 1) 4 (some ⟨g, 0, none⟩) 1 (framesV [f]) := reads_blkN hg (by omega) 1 4 rfl
  by_cases hpn : p = n
  · subst hpn
    have hx : xs.take p ++ f :: xs.drop p = xs ++ [f] := by rw [List.take_of_length_le (by omega), List.drop_of_length_le (by omega)]
    rw [hx]
    have HX := Lib.hid hl
    clear hx hl
    have q1 : (p : Int) ≤ (c : Int) := by have := own_cap hown; omega
    go_enter Try.func26, Try.ntmps26
    go_wp2_with (at_builtin; refine wpList_append_any _ rfl _ _ 23 rfl base 30 i0 (.agg #[.string .empty, .int .i64 0, .string .empty, .bool false]) 4 48 Try.underlying23 hi hz0 hz1 hz2 rfl (by decide) _ _ _ rfl hown (g + 1) (some ⟨g, 0, none⟩) 1 1 (framesV [f]) rfl hr1 (frames_cells [f]) (by simp only [maxLen]; omega) (by omega) hbase ?_; intro v3 w3 hown3 hgrow3 _; refine veiled ?_)
    all_goals
      refine ⟨?_⟩
      have hb3 : Below base w w3 := (Below.refl base w).grown hgrow3 hbase (fun k hk => own_ge hown hk)
      rw [← framesV_append] at hown3
      obtain ⟨A3, c3, rfl⟩ := own_slice4 hown3
      clear hgrow3 hr1 hg hgb
      go_wp2_with fail
      go_ret
      exact ⟨A3, c3, rfl, hown3, hb3⟩
  · have hlt : p < n := by omega
    obtain ⟨g0, cap, hv, hbg, hgz⟩ := hown.form (by omega)
    simp only [Value.slice.injEq, true_and] at hv
    obtain ⟨rfl, rfl⟩ := hv
    obtain ⟨cur, _, hB0, hnc, hcm, hcz, _, hcur⟩ := own_blk hown
    have hgg : g ≠ g0 := by intro e; apply hgb; rw [e]; rfl
    unfold maxLen at hcm
    have q1 : (p : Int) ≤ (n : Int) := by omega
    have q2 : (n : Int) ≤ (c : Int) := by omega
    have q3 : ((p : Int) == (n : Int)) = false := by rw [beq_eq_false_iff_ne]; omega
    have q3' : ¬ ((p : Int) = (n : Int)) := by omega
    have q4 : ¬ (c = p) := by omega
    have q6 : ((p : Int) + 1).toNat = p + 1 := by omega
    have hsz : (Try.prog.info? 30).map (·.size) = some 4 := by kernel_rfl
    have hdl : ((framesV xs).drop (p * 4)).length = (n - p) * 4 := by rw [List.length_drop, framesV_len, hl]; omega
    have hfl : f.cells.length = 4 := rfl
    have hcell0 : ∀ j, j < n * 4 → w.cell? ⟨g0, j, none⟩ = (framesV xs)[j]? := fun j hj => by rw [hB0.cell, hcur j hj]
    have hdone : ∀ u ∈ (framesV xs).drop (p * 4), u.oneCell' = true := fun u hu => frames_cells xs u (List.mem_of_mem_drop hu)
    have hfone : ∀ u ∈ f.cells, u.oneCell' = true := fun u hu => frames_cells [f] u (by simpa [framesV] using hu)
    by_cases hroom : n + 1 ≤ c
    · have q7 : ¬ (c = p + 1) := by omega
      have q8 : (n : Int) + 1 ≤ (c : Int) := by omega
      have q9 : decide ((c : Int) < (n : Int) + 1) = false := by simp; omega
      have q9' : decide (c < n + 1) = false := by simp; omega
      have hov := fun lb cb => run_overlapsF w g g0 1 1 lb cb ((p + 1) * 4) _ cur hgg hg hB0 (by omega)
      have hmin : Nat.min (n + 1 - p) (n - p) = n - p := by simp only [Nat.min_def]; split <;> omega
      have hmin2 : Nat.min 1 (n + 1 - p) = 1 := by simp only [Nat.min_def]; split <;> omega
      have hcp1 : ∀ ty dc sc, (Builtin.copy_ #[23, 23] ty #[.slice (some ⟨g0, (p + 1) * 4, none⟩) (n - p) dc, .slice (some ⟨g0, p * 4, none⟩) (n + 1 - p) sc]).run Try.prog w.drew = .ok (goInt ((n - p : Nat) : Int)) (w.drew.setCells g0 ((p + 1) * 4) ((framesV xs).drop (p * 4))) := fun ty dc sc => by
        have := run_copy_cellsN (P := Try.prog) w.drew 23 23 ty 30 4 g0 ((p + 1) * 4) (n - p) dc ⟨g0, p * 4, none⟩ (n + 1 - p) sc ((framesV xs).drop (p * 4)) Try.underlying23 hsz (by rw [hdl, hmin])
          (fun j v hj => by
            rw [Addr.add_lit]
            rw [List.getElem?_drop] at hj
            have hjl := (List.getElem?_eq_some_iff.1 hj).1
            rw [framesV_len, hl] at hjl
            exact (hcell0 _ hjl).trans hj)
          (fun j hj => by rw [hdl] at hj; show (w.cell? _).isSome = true; rw [hB0.cell, Array.getElem?_eq_getElem (by omega)]; rfl) (fun j hj => hB0.frozen _) hdone
        rw [hmin] at this
        exact this
      obtain ⟨cur1, hB1, hz1', hc1⟩ := blk_setCells g0 30 ((framesV xs).drop (p * 4)) ((p + 1) * 4) w.drew cur hB0.drew
      have hg1 := Blk.setAll_far hgg ((framesV xs).drop (p * 4)) ((p + 1) * 4) w.drew hg.drew
      obtain ⟨W1, hW1⟩ : ∃ W1, w.drew.setCells g0 ((p + 1) * 4) ((framesV xs).drop (p * 4)) = W1 := ⟨_, rfl⟩
      have hbW1 : Below base w W1 := by rw [← hW1]; exact below_setCells hbg _ _ _ _ (Below.drew' (Below.refl base w))
      rw [hW1] at hcp1 hB1 hg1
      have hcp2 : ∀ ty dc, (Builtin.copy_ #[23, 23] ty #[.slice (some ⟨g0, p * 4, none⟩) (n + 1 - p) dc, .slice (some ⟨g, 0, none⟩) 1 1]).run Try.prog W1 = .ok (goInt 1) (W1.setCells g0 (p * 4) f.cells) := fun ty dc => by
        have := run_copy_cellsN (P := Try.prog) W1 23 23 ty 30 4 g0 (p * 4) (n + 1 - p) dc ⟨g, 0, none⟩ 1 1 f.cells Try.underlying23 hsz (by rw [hmin2, hfl])
          (fun j v hj => by rw [Addr.add_lit, Nat.zero_add, hg1.cell]; simpa [Frm.cells] using hj)
          (fun j hj => by rw [hfl] at hj; rw [hB1.cell, Array.getElem?_eq_getElem (by omega)]; rfl) (fun j hj => hB1.frozen _) hfone
        rw [hmin2] at this
        exact this
      obtain ⟨cur2, hB2, hz2', hc2⟩ := blk_setCells g0 30 f.cells (p * 4) W1 cur1 hB1
      have hfin : (W1.setCells g0 (p * 4) f.cells).ownsRow base 30 4 (.slice (some ⟨g0, 0, none⟩) (n + 1) c) (n + 1) (framesV (xs.take p ++ f :: xs.drop p)) := by
        refine own_of_blk hbg hB2 hroom (by unfold maxLen; omega) (by omega) (by simp; omega) fun j hj => ?_
        rw [hc2 j (by omega), hfl, ins_get xs f p n hlt hl j hj]
        by_cases h1 : p * 4 ≤ j ∧ j < p * 4 + 4
        · rw [if_pos h1, if_pos h1]
        · rw [if_neg h1, if_neg h1, hc1 j (by omega), hdl]
          by_cases h2 : (p + 1) * 4 ≤ j ∧ j < (p + 1) * 4 + (n - p) * 4
          · rw [if_pos h2, if_pos h2]
          · rw [if_neg h2, if_neg h2]
            exact hcur j (by omega)
      have hbf : Below base w (W1.setCells g0 (p * 4) f.cells) := below_setCells hbg _ _ _ _ hbW1
      generalize W1.setCells g0 (p * 4) f.cells = W2 at *
      have HF := Lib.hid hfin; have HBF := Lib.hid hbf
      have q6 : ((p : Int) + 1).toNat = p + 1 := by omega
      have q10 : (0 : Int) ≤ (p : Int) + 1 := by omega
      have q11 : (p : Int) + 1 ≤ (n : Int) + 1 := by omega
      have q12 : (p : Int) ≤ (n : Int) + 1 := by omega
      have q5 : IntKind.i64.wrap ((p : Int) + 1) = (p : Int) + 1 := IntWalk.i64_in _ (by omega)
      clear hfin hbf hc2 hz2' hB2 hB1 hg1 hc1 hz1' hbW1 hcell0 hcur hmin hmin2 hr1 hdone hfone hown hdl hfl hl hcz hi hz0 hz1 hz2 hsz
      go_enter Try.func26, Try.ntmps26
      go_wp2_with (simp only [hov])
      go_region_law (refine step_copy_runI rfl _ _ 23 23 rfl _ _ (by simp [Act.eval, Act.put]) (by simp [Act.eval, Act.put]) (hcp1 _ _ _) ?_)
      go_wp2_with (at_builtin; refine wpList_copy_runI _ rfl _ _ 23 23 rfl _ _ rfl rfl (hcp2 _ _) ?_)
      go_ret
      exact ⟨_, _, rfl, HF.out, HBF.out⟩
    · obtain rfl : c = n := by omega
      have hdec : decide ((c : Int) < (c : Int) + 1) = true := decide_eq_true (by omega)
      obtain ⟨G, hG⟩ : ∃ G, grownCap w (c + 1) c 30 = G := ⟨_, rfl⟩
      have hGn : c + 1 ≤ G := by rw [← hG]; exact grownCap_ge w _ _ _
      have hGm : G ≤ maxLen := by rw [← hG]; exact grownCap_le_maxLen w (c + 1) c 30 (by unfold maxLen; omega)
      have hik : p + (c + 1 - p) = c + 1 := by omega
      obtain ⟨N, hN⟩ : ∃ N, w.heap.size = N := ⟨_, rfl⟩
      obtain ⟨ROW, hROW⟩ : ∃ ROW : Array Value, ((framesV xs).take (p * 4)).toArray ++ Builtin.zeroCells (Value.agg #[.string .empty, .int .i64 0, .string .empty, .bool false]).cells (c + 1 - p) ++ Builtin.zeroCells (Value.agg #[.string .empty, .int .i64 0, .string .empty, .bool false]).cells (G - (c + 1)) = ROW := ⟨_, rfl⟩
      have hRz : ROW.size = G * 4 := by
        rw [← hROW]
        simp only [Array.size_append, List.size_toArray, List.length_take, framesV_len, hl, zero_size]
        omega
      have hold : (Builtin.firstCells i0.size p (.slice (some ⟨g0, 0, none⟩) p c)).run Try.prog w.drew = .ok ((framesV xs).take (p * 4)).toArray w.drew := by
        rw [hz1]
        exact run_firstCells_some w.drew 4 p ⟨g0, 0, none⟩ p c ((framesV xs).take (p * 4)) (by rw [List.length_take, framesV_len, hl]; omega) (fun j v hj => by
          rw [Addr.add_lit, Nat.zero_add]
          rw [List.getElem?_take] at hj
          split at hj
          · rename_i hjl; exact (hcell0 j (by omega)).trans hj
          · cases hj)
      have hrz : ∀ ty, (Builtin.append_ #[23, 3] ty #[.slice (some ⟨g0, 0, none⟩) p c, .int .i64 ((c : Int) + 1 - (p : Int))]).run Try.prog w = .ok (.slice (some ⟨N, 0, none⟩) (c + 1) G) (w.drew.alloc (.cells ROW 30)) := fun ty => by
        have h := Lib.run_append_grow_zeros (P := Try.prog) w 23 3 ty 30 i0 _ .i64 .i64 Try.underlying23 Try.underlying3 hi hz0 (some ⟨g0, 0, none⟩) p c ((framesV xs).take (p * 4)) hold (c + 1 - p) (by omega) (by omega) (by omega) (by omega) (by rw [hz2]; omega) (by rw [hz2, hik]; exact growslice_fits (by omega) (by omega))
        rw [hik, hG, hN, hROW] at h
        rw [show (c : Int) + 1 - (p : Int) = ((c + 1 - p : Nat) : Int) by omega]
        exact h
      have hBN : Blk (w.drew.alloc (.cells ROW 30)) N 30 ROW := by rw [← hN]; exact Blk.new w.drew 30 ROW
      have hBo := hB0.drew.alloc (.cells ROW 30)
      have hBg := hg.drew.alloc (.cells ROW 30)
      have hb1 : Below base w (w.drew.alloc (.cells ROW 30)) := (Below.drew' (Below.refl base w)).alloc hbase _
      have hg0N : g0 ≠ N := by omega
      have hgN : g ≠ N := by have := hg.lt; omega
      generalize w.drew.alloc (.cells ROW 30) = W1 at *
      have hminA : Nat.min 1 (c + 1 - p) = 1 := by simp only [Nat.min_def]; split <;> omega
      have hminB : Nat.min (c - p) (c - p) = c - p := by simp only [Nat.min_def]; split <;> omega
      have hcpA : ∀ ty dc, (Builtin.copy_ #[23, 23] ty #[.slice (some ⟨N, p * 4, none⟩) (c + 1 - p) dc, .slice (some ⟨g, 0, none⟩) 1 1]).run Try.prog W1 = .ok (goInt 1) (W1.setCells N (p * 4) f.cells) := fun ty dc => by
        have := run_copy_cellsN (P := Try.prog) W1 23 23 ty 30 4 N (p * 4) (c + 1 - p) dc ⟨g, 0, none⟩ 1 1 f.cells Try.underlying23 hsz (by rw [hminA, hfl])
          (fun j v hj => by rw [Addr.add_lit, Nat.zero_add, hBg.cell]; simpa [Frm.cells] using hj)
          (fun j hj => by rw [hfl] at hj; rw [hBN.cell, Array.getElem?_eq_getElem (by omega)]; rfl) (fun j hj => hBN.frozen _) hfone
        rw [hminA] at this
        exact this
      obtain ⟨cur1, hB1, hz1', hc1⟩ := blk_setCells N 30 f.cells (p * 4) W1 ROW hBN
      have hBo2 := Blk.setAll_far hg0N f.cells (p * 4) W1 hBo
      have hb2 := below_setCells (B := base) (g := N) (by omega) f.cells (p * 4) _ _ hb1
      generalize W1.setCells N (p * 4) f.cells = W2 at *
      have hcpB : ∀ ty dc sc, (Builtin.copy_ #[23, 23] ty #[.slice (some ⟨N, (p + 1) * 4, none⟩) (c - p) dc, .slice (some ⟨g0, p * 4, none⟩) (c - p) sc]).run Try.prog W2.drew = .ok (goInt ((c - p : Nat) : Int)) (W2.drew.setCells N ((p + 1) * 4) ((framesV xs).drop (p * 4))) := fun ty dc sc => by
        have := run_copy_cellsN (P := Try.prog) W2.drew 23 23 ty 30 4 N ((p + 1) * 4) (c - p) dc ⟨g0, p * 4, none⟩ (c - p) sc ((framesV xs).drop (p * 4)) Try.underlying23 hsz (by rw [hdl, hminB])
          (fun j v hj => by
            rw [Addr.add_lit]
            rw [List.getElem?_drop] at hj
            have hjl := (List.getElem?_eq_some_iff.1 hj).1
            rw [framesV_len, hl] at hjl
            show W2.cell? _ = _
            rw [hBo2.cell, hcur _ hjl]; exact hj)
          (fun j hj => by rw [hdl] at hj; show (W2.cell? _).isSome = true; rw [hB1.cell, Array.getElem?_eq_getElem (by omega)]; rfl) (fun j hj => hB1.drew.frozen _) hdone
        rw [hminB] at this
        exact this
      obtain ⟨cur2, hB2, hz2', hc2⟩ := blk_setCells N 30 ((framesV xs).drop (p * 4)) ((p + 1) * 4) W2.drew cur1 hB1.drew
      have hb3 := below_setCells (B := base) (g := N) (by omega) ((framesV xs).drop (p * 4)) ((p + 1) * 4) _ _ (Below.drew' hb2)
      generalize W2.drew.setCells N ((p + 1) * 4) ((framesV xs).drop (p * 4)) = W3 at *
      have hfin : W3.ownsRow base 30 4 (.slice (some ⟨N, 0, none⟩) (c + 1) G) (c + 1) (framesV (xs.take p ++ f :: xs.drop p)) := by
        refine own_of_blk (by omega) hB2 hGn hGm (by omega) (by simp; omega) fun j hj => ?_
        rw [hc2 j (by omega), hdl, ins_get xs f p c hlt hl j hj, hc1 j (by omega), hfl]
        by_cases h2 : (p + 1) * 4 ≤ j ∧ j < (p + 1) * 4 + (c - p) * 4
        · rw [if_pos h2, if_neg (by omega), if_pos h2]
        · rw [if_neg h2]
          by_cases h1 : p * 4 ≤ j ∧ j < p * 4 + 4
          · rw [if_pos h1, if_pos h1]
          · rw [if_neg h1, if_neg h1, if_neg h2, ← hROW, Array.getElem?_append_left (by simp [framesV_len, hl]; omega), Array.getElem?_append_left (by simp [framesV_len, hl]; omega)]
            simp only [List.getElem?_toArray]
            rw [List.getElem?_take_of_lt (by omega)]
      have HF := Lib.hid hfin; have HBF := Lib.hid hb3
      have q6 : ((p : Int) + 1).toNat = p + 1 := by omega
      have q10 : (0 : Int) ≤ (p : Int) + 1 := by omega
      have q11 : (p : Int) + 1 ≤ (c : Int) + 1 := by omega
      have q12 : (p : Int) ≤ (c : Int) + 1 := by omega
      have q13 : ¬ (G = p) := by omega
      have q14 : ¬ (G = p + 1) := by omega
      have q5 : IntKind.i64.wrap ((p : Int) + 1) = (p : Int) + 1 := IntWalk.i64_in _ (by omega)
      clear hfin hb3 hc2 hz2' hB2 hB1 hc1 hz1' hb2 hb1 hBo hBo2 hBg hBN hcell0 hcur hminA hminB hr1 hdone hfone hown hdl hfl hl hcz hi hz0 hz1 hz2 hsz hROW hRz hold hN hG hik
      go_enter Try.func26, Try.ntmps26
      go_wp2_with (first
        | (at_builtin; refine Lib.wpList_append_run _ rfl _ _ _ _ rfl _ _ rfl rfl _ _ (hrz _) ?_)
        | (at_builtin; refine wpList_copy_runI _ rfl _ _ 23 23 rfl _ _ rfl rfl (hcpA _ _) ?_))
      go_region_law (refine step_copy_runI rfl _ _ 23 23 rfl _ _ (by simp [Act.eval, Act.put]) (by simp [Act.eval, Act.put]) (hcpB _ _ _) ?_)
      go_wp2
      go_ret
      exact ⟨_, _, rfl, HF.out, HBF.out⟩
end Go.Proofs.Ytdkijdedfpfbnaa
