/- Merged: RcpE, RcpF0. -/
import Derived.Test.YthalohloneojlaaGreatDoorMi11
import Derived.Test.YthalohloneojlaaGreatDoorMi12
import Derived.ArgAppend
/- Logs as an item (receipt.written with receipt.log).  Printed by wip/genRcpE.py -/
namespace Go.Proofs.YthalohloneojlaaGreatDoor
open Go.RowKit Go.Shelf
set_option linter.unusedVariables false
set_option linter.unusedSimpArgs false

def logIt (l : LogV) : Itm := .mk true ⟨#[]⟩ (logI l)
theorem cells3_grown {W W' : World} {b : Nat} {v0 v1 v2 : Value} {row : Option Nat} (h : W.cell? ⟨b, 0, none⟩ = some v0 ∧ W.cell? ⟨b, 1, none⟩ = some v1 ∧ W.cell? ⟨b, 2, none⟩ = some v2) (hg : W.grownBy W' row) (hr : some b ≠ row) : W'.cell? ⟨b, 0, none⟩ = some v0 ∧ W'.cell? ⟨b, 1, none⟩ = some v1 ∧ W'.cell? ⟨b, 2, none⟩ = some v2 := ⟨hg.cell h.1 hr, hg.cell h.2.1 hr, hg.cell h.2.2 hr⟩
theorem cells3_set {W : World} {b g i : Nat} {v0 v1 v2 : Value} (hne : g ≠ b) (h : W.cell? ⟨b, 0, none⟩ = some v0 ∧ W.cell? ⟨b, 1, none⟩ = some v1 ∧ W.cell? ⟨b, 2, none⟩ = some v2) (v : Value) : (W.setCell ⟨g, i, none⟩ v).cell? ⟨b, 0, none⟩ = some v0 ∧ (W.setCell ⟨g, i, none⟩ v).cell? ⟨b, 1, none⟩ = some v1 ∧ (W.setCell ⟨g, i, none⟩ v).cell? ⟨b, 2, none⟩ = some v2 := by
  rw [World.cell?_setCell_far _ _ _ _ hne, World.cell?_setCell_far _ _ _ _ hne, World.cell?_setCell_far _ _ _ _ hne]; exact h
theorem RdI.drew {w u : World} {b3 j : Nat} {v : Value} {xs : List Itm} {vs : List Value} (h : RdI w b3 v j xs vs u) : RdI w b3 v j xs vs u.drew := h.kept (only_drew (World.grownBy.refl u none))
set_option maxRecDepth 100000 in
set_option maxHeartbeats 4000000 in
theorem writtenL_any (B : Nat) (A : Option Addr) (n c : Nat) (ls : List LogV) (w : World) (h : LogsR B w ls A n) (hB : B ≤ w.heap.size) (hn : n ≤ 1000) (hts : ∀ l ∈ ls, l.topics.length ≤ 1000) :
    Calls Tryz.prog 25 #[.slice A n c, .func (.func 26) #[] #[]] w fun e w' => ∃ A' c', e = .returned (.agg #[.bool true, .string ⟨#[]⟩, .slice A' n c']) ∧ SubV (fun g => w.heap.size ≤ g) w' (ls.map logIt) (.slice A' n c') ∧ w.grownBy w' none := by
  have hl : ls.length = n := h.1
  have hRB := Blk.new w 45 #[.bool false, .string ⟨#[]⟩, .slice none 0 0]
  have hG := only_alloc (World.grownBy.refl w none) (.cells #[.bool false, .string ⟨#[]⟩, .slice none 0 0] 45)
  have h := h.grown hG hB
  have hB1 := Nat.le_trans hB hG.size
  go_enter Tryz.func25, Tryz.ntmps25
  go_upto_region 1 with (fail)
  obtain ⟨b, hb⟩ : ∃ b, w.heap.size = b := ⟨_, rfl⟩
  have HW := Lib.hid hb
  rw [hb] at hRB ⊢
  have hz : (w.alloc (.cells #[.bool false, .string ⟨#[]⟩, .slice none 0 0] 45)).heap.size = b + 1 := by simp [hb]
  clear hb
  generalize w.alloc (.cells #[.bool false, .string ⟨#[]⟩, .slice none 0 0] 45) = W1 at *
  go_wp2_with fail
  refine (list_any _ ⟨_, _, _, rfl⟩ _).mono ?_
  rintro e w3 ⟨rfl, hg3⟩
  obtain ⟨b3, hb3⟩ : ∃ b, w3.heap.size = b := ⟨_, rfl⟩
  have hz3 := hg3.size
  have K0 : RdI w3 b3 (.slice none 0 0) 0 ((ls.take 0).map logIt) [] (w3.alloc (.cells #[.bool true, .string ⟨#[]⟩, .slice none 0 0] 45)) := by
    refine ⟨⟨?_, World.ownsRow_nil _ _ _ _, only_alloc (World.grownBy.refl w3 none) _, by simp; omega, by omega⟩, rfl, rfl, fun i hi => absurd hi (by omega)⟩
    have := Blk.new w3 45 #[.bool true, .string ⟨#[]⟩, .slice none 0 0]
    rwa [hb3] at this
  have H0 := Lib.hid (h.grown hg3 hB1)
  have HL := Lib.hid hl
  have HB : Hid (B ≤ w3.heap.size) := Lib.hid (Nat.le_trans hB1 hz3)
  have HB3 : Hid (w3.heap.size = b3) := Lib.hid hb3
  have HRB := Lib.hid (hRB.grown hg3 (by simp))
  have HG := Lib.hid (grown_self hG hg3 (by simp))
  have HZB : Hid (b + 1 ≤ b3) := Lib.hid (by omega)
  have HTS := Lib.hid hts
  clear hG hg3 hl hB hB1 hRB h hts
  go_upto_region 2 with (fail)
  generalize w3.alloc (.cells #[.bool true, .string ⟨#[]⟩, .slice none 0 0] 45) = W4 at *
  clear hz hz3 hb3
  go_wp2_with fail
  go_loopw [11] (fun i wr => ∃ (k : Nat) (v : Value) (vs : List Value), i = .int .i64 k ∧ k ≤ n ∧ RdI w3 b3 v k ((ls.take k).map logIt) vs wr) (fun i _ => n - (intOf i).toNat)
  case atStart => exact ⟨0, _, _, rfl, by omega, K0⟩
  case round =>
    clear K0
    obtain ⟨k, v, vs, rfl, hk, K0⟩ := hrel
    by_cases hlt : k < n
    · have hlr := H0.out.grown K0.held.grown HB.out
      obtain ⟨q, off, rfl, hq, hc⟩ := hlr.2 (by omega)
      obtain ⟨T, tc, c0, c1, c2, hT, _, _⟩ := hc k hlt
      have q1 : (k : Int) < (n : Int) := by omega
      obtain ⟨x, hx⟩ : ∃ x, ls.getD k LogV.none_ = x := ⟨_, rfl⟩
      have hmem : x ∈ ls := by rw [← hx, List.getD_eq_getElem?_getD, List.getElem?_eq_getElem (by have := HL.out; omega)]; exact List.getElem_mem _
      have htl := HTS.out x hmem
      rw [hx] at c0 c1 c2 hT
      have hTK : (ls.take k).map logIt ++ [logIt x] = (ls.take (k + 1)).map logIt := by
        rw [List.take_add_one, List.getElem?_eq_getElem (by have := HL.out; omega), List.map_append]
        rw [← hx, List.getD_eq_getElem?_getD, List.getElem?_eq_getElem (by have := HL.out; omega)]
        rfl
      have HTK := Lib.hid hTK
      obtain ⟨its, hits⟩ : ∃ its, (ls.take k).map logIt = its := ⟨_, rfl⟩
      rw [hits] at HTK K0
      have HL2 : Hid (∀ V, wr.grownBy V none → Calls Tryz.prog 26 #[.agg #[.string x.addr, .slice T x.topics.length tc, .string x.data]] V fun e w' => ∃ A c, e = .returned (.agg #[.bool true, .string ⟨#[]⟩, .slice A 3 c]) ∧ SubV (fun g => V.heap.size ≤ g) w' (logI x) (.slice A 3 c) ∧ V.grownBy w' none) := Lib.hid fun V hV => logItem_any x B T tc V (hT.grown hV (Nat.le_trans HB.out K0.held.grown.size) (by simp)) (Nat.le_trans (Nat.le_trans HB.out K0.held.grown.size) hV.size) htl
      clear hlr hc hx hmem htl hT hTK hits
      obtain ⟨vA, vc, rfl⟩ := own_slice3 K0.held.own
      have hb7 := Blk.new wr 40 #[.string x.addr, .slice T x.topics.length tc, .string x.data]
      have hN7 : (Value.slice vA k vc).ownBlock ≠ some wr.heap.size := fun e => by have := own_ltB K0.held.own e; omega
      have hB7 : b3 ≠ wr.heap.size := by have := K0.held.size; omega
      have K0 := K0.kept (only_alloc (World.grownBy.refl wr none) (.cells #[.string x.addr, .slice T x.topics.length tc, .string x.data] 40))
      have hgu := only_alloc (World.grownBy.refl wr none) (.cells #[.string x.addr, .slice T x.topics.length tc, .string x.data] 40)
      go_upto_region 5 with (fail)
      obtain ⟨b7, hb7e⟩ : ∃ g, wr.heap.size = g := ⟨_, rfl⟩
      rw [hb7e] at hb7 hN7 hB7 ⊢
      have HN7 := Lib.hid hN7; have HB7 := Lib.hid hB7
      clear hb7e hN7 hB7 c0 c1 c2
      generalize wr.alloc (.cells #[.string x.addr, .slice T x.topics.length tc, .string x.data] 40) = w5 at *
      have hS0 : w5.cell? ⟨b7, 0, none⟩ = some (.string x.addr) ∧ w5.cell? ⟨b7, 1, none⟩ = some (.slice T x.topics.length tc) ∧ w5.cell? ⟨b7, 2, none⟩ = some (.string x.data) := ⟨hb7.cell 0, hb7.cell 1, hb7.cell 2⟩
      clear hb7
      refine wp_region_held (S := fun W => W.cell? ⟨b7, 0, none⟩ = some (.string x.addr) ∧ W.cell? ⟨b7, 1, none⟩ = some (.slice T x.topics.length tc) ∧ W.cell? ⟨b7, 2, none⟩ = some (.string x.data)) (by kernel_rfl) ?_
      change wpAnyH _ _ _ _ _ _ _ _ w5.drew
      replace hS0 := cells3_grown hS0 (only_drew (World.grownBy.refl w5 none)) (by simp)
      replace hgu := only_drew hgu
      replace K0 := K0.drew
      generalize w5.drew = u0 at *
      refine held_take (i := 0) (v := .pointer (some ⟨b3, 2, none⟩)) (some 15) rfl (by kernel_rfl) (by kernel_rfl) (by kernel_rfl) (fun _ _ _ h => h) rfl (Or.inl ⟨by rfl, fun W hW => by go_simp⟩) hS0 ?_
      simp only [Act.put, List.setIfInBounds_toArray, List.set_cons_zero, List.set_cons_succ]
      refine held_take (i := 2) (v := .func (.func 26) #[] #[]) (some 17) rfl (by kernel_rfl) (by kernel_rfl) (by kernel_rfl) (fun _ _ _ h => h) rfl (Or.inl ⟨by rfl, fun W hW => by go_simp⟩) hS0 ?_
      simp only [Act.put, List.setIfInBounds_toArray, List.set_cons_zero, List.set_cons_succ]
      refine held_take (i := 3) (v := .agg #[.string x.addr, .slice T x.topics.length tc, .string x.data]) (some 18) rfl (by kernel_rfl) (by kernel_rfl) (by kernel_rfl) (fun _ _ _ h => h) rfl (Or.inl ⟨by rfl, fun W hW => by have p0 := hW.1; have p1 := hW.2.1; have p2 := hW.2.2; go_simp⟩) hS0 ?_
      simp only [Act.put, List.setIfInBounds_toArray, List.set_cons_zero, List.set_cons_succ]
      refine held_two (i := 1) (j := 4) (by kernel_rfl) ?_ ?_
      · refine held_value (some 16) rfl rfl (.slice vA k vc) (exec_load1 43 (.tmp 15) rfl _ rfl _ _ Tryz.underlying43 rfl (K0.held.blk.cell 2)) rfl hS0 ?_
        simp only [Act.put, List.setIfInBounds_toArray, List.set_cons_zero, List.set_cons_succ]
        refine held_one (i := 4) (by kernel_rfl) ?_
        refine held_enter (some 19) rfl rfl 26 #[.agg #[.string x.addr, .slice T x.topics.length tc, .string x.data]] (exec_callv1 26 (.tmp 17) (.tmp 18) _ rfl rfl _ rfl (enters_of Tryz.func26 (by kernel_rfl) rfl _ _)) rfl ((HL2.out u0 hgu).mono ?_)
        rintro e u1 ⟨A', c', rfl, hsub, hgc⟩
        have K1 := K0.kept hgc
        have hS1 := cells3_grown hS0 hgc (by simp)
        have hx1 : SubV (fun g => b3 + 1 ≤ g ∧ (Value.slice vA k vc).ownBlock ≠ some g) u1 (logI x) (.slice A' 3 c') := hsub.weak (fun g (h : u0.heap.size ≤ g) => ⟨by have := K0.held.size; omega, fun e => by have := own_ltB K0.held.own e; omega⟩)
        refine ⟨_, rfl, hS1, ?_⟩
        simp only [Act.put, List.setIfInBounds_toArray, List.set_cons_zero, List.set_cons_succ]
        refine held_one (i := 5) (by kernel_rfl) ?_
        have K2 := K1.kept (only_alloc (World.grownBy.refl u1 none) (.cells #[.bool true, .string ⟨#[]⟩, .slice A' 3 c'] 45))
        have hx2 := SubV.grown hx1 (only_alloc (World.grownBy.refl u1 none) (.cells #[.bool true, .string ⟨#[]⟩, .slice A' 3 c'] 45))
        have hS2 := cells3_grown hS1 (only_alloc (World.grownBy.refl u1 none) (.cells #[.bool true, .string ⟨#[]⟩, .slice A' 3 c'] 45)) (by simp)
        refine held_value (some 20) rfl rfl (.slice (some ⟨u1.heap.size, 0, none⟩) 1 1) (by go_simp <;> rfl) rfl hS2 ?_
        simp only [Act.put, List.setIfInBounds_toArray, List.set_cons_zero, List.set_cons_succ]
        obtain ⟨i0, hi, hz0, hzs, hzb⟩ := info_parts item_info
        obtain ⟨v', u2, hrun, hown', hgrow, hiff, hob⟩ := run_append_own_at (P := Tryz.prog) (u1.alloc (.cells #[.bool true, .string ⟨#[]⟩, .slice A' 3 c'] 45)) (b3 + 1) 43 43 45 i0 _ 3 48 Tryz.underlying43 hi hz0 hzs hzb rfl (by decide) (.slice vA k vc) k (itemsV its vs) K2.held.own ⟨u1.heap.size, 0, none⟩ 1 1 [.bool true, .string ⟨#[]⟩, .slice A' 3 c'] rfl (cell_three_new _ _ _ _ _) (by simp [Value.oneCell']) (by simp only [maxLen]; omega) (by omega) K2.held.size
        obtain ⟨g', cap', rfl⟩ := ownsRow_succ hown'
        have K3 := K2.put (logIt x) (.slice A' 3 c') hx2 hown' hgrow hob
        have hS3 := cells3_grown hS2 hgrow (fun e => HN7.out e.symm)
        refine held_one (i := 6) (by kernel_rfl) ?_
        refine held_value (some 21) rfl rfl (.slice (some ⟨g', 0, none⟩) (k + 1) cap') (exec_append (.tmp 16) (.tmp 20) 43 rfl _ _ _ rfl rfl hrun) rfl hS3 ?_
        simp only [Act.put, List.setIfInBounds_toArray, List.set_cons_zero, List.set_cons_succ]
        refine held_one (i := 7) (by kernel_rfl) ?_
        refine held_value (some 22) rfl rfl (.pointer (some ⟨b3, 2, none⟩)) (by go_simp <;> rfl) rfl hS3 ?_
        simp only [Act.put, List.setIfInBounds_toArray, List.set_cons_zero, List.set_cons_succ]
        refine held_one (i := 8) (by kernel_rfl) ?_
        refine held_store rfl rfl (exec_store1 (.tmp 22) (.tmp 21) rfl rfl rfl (K2.held.blk.grown hgrow (fun e => by have := ownBlock_ge K2.held.own e.symm; omega)) (by simp)) (cells3_set (HB7.out) hS3 _) ?_
        simp only [Act.put, List.setIfInBounds_toArray, List.set_cons_zero, List.set_cons_succ]
        refine wpAnyH_done (by kernel_rfl) ?_ _
        rw [HTK.out] at K3
        clear hrun hown' hgrow hob K2 hiff hx1 hx2 hsub hS0 hS1 hS2 hS3 K0 K1
        go_wp2_with fail
        go_roundw
        case rel => exact ⟨k + 1, _, _, by go_num, by omega, K3⟩
        case measure => simp [intOf]; omega
      · refine held_enter (some 19) rfl rfl 26 #[.agg #[.string x.addr, .slice T x.topics.length tc, .string x.data]] (exec_callv1 26 (.tmp 17) (.tmp 18) _ rfl rfl _ rfl (enters_of Tryz.func26 (by kernel_rfl) rfl _ _)) rfl ((HL2.out u0 hgu).mono ?_)
        rintro e u1 ⟨A', c', rfl, hsub, hgc⟩
        have K1 := K0.kept hgc
        have hS1 := cells3_grown hS0 hgc (by simp)
        have hx1 : SubV (fun g => b3 + 1 ≤ g ∧ (Value.slice vA k vc).ownBlock ≠ some g) u1 (logI x) (.slice A' 3 c') := hsub.weak (fun g (h : u0.heap.size ≤ g) => ⟨by have := K0.held.size; omega, fun e => by have := own_ltB K0.held.own e; omega⟩)
        refine ⟨_, rfl, hS1, ?_⟩
        simp only [Act.put, List.setIfInBounds_toArray, List.set_cons_zero, List.set_cons_succ]
        refine held_two (i := 1) (j := 5) (by kernel_rfl) ?_ ?_
        · refine held_value (some 16) rfl rfl (.slice vA k vc) (exec_load1 43 (.tmp 15) rfl _ rfl _ _ Tryz.underlying43 rfl (K1.held.blk.cell 2)) rfl hS1 ?_
          simp only [Act.put, List.setIfInBounds_toArray, List.set_cons_zero, List.set_cons_succ]
          refine held_one (i := 5) (by kernel_rfl) ?_
          have K2 := K1.kept (only_alloc (World.grownBy.refl u1 none) (.cells #[.bool true, .string ⟨#[]⟩, .slice A' 3 c'] 45))
          have hx2 := SubV.grown hx1 (only_alloc (World.grownBy.refl u1 none) (.cells #[.bool true, .string ⟨#[]⟩, .slice A' 3 c'] 45))
          have hS2 := cells3_grown hS1 (only_alloc (World.grownBy.refl u1 none) (.cells #[.bool true, .string ⟨#[]⟩, .slice A' 3 c'] 45)) (by simp)
          refine held_value (some 20) rfl rfl (.slice (some ⟨u1.heap.size, 0, none⟩) 1 1) (by go_simp <;> rfl) rfl hS2 ?_
          simp only [Act.put, List.setIfInBounds_toArray, List.set_cons_zero, List.set_cons_succ]
          obtain ⟨i0, hi, hz0, hzs, hzb⟩ := info_parts item_info
          obtain ⟨v', u2, hrun, hown', hgrow, hiff, hob⟩ := run_append_own_at (P := Tryz.prog) (u1.alloc (.cells #[.bool true, .string ⟨#[]⟩, .slice A' 3 c'] 45)) (b3 + 1) 43 43 45 i0 _ 3 48 Tryz.underlying43 hi hz0 hzs hzb rfl (by decide) (.slice vA k vc) k (itemsV its vs) K2.held.own ⟨u1.heap.size, 0, none⟩ 1 1 [.bool true, .string ⟨#[]⟩, .slice A' 3 c'] rfl (cell_three_new _ _ _ _ _) (by simp [Value.oneCell']) (by simp only [maxLen]; omega) (by omega) K2.held.size
          obtain ⟨g', cap', rfl⟩ := ownsRow_succ hown'
          have K3 := K2.put (logIt x) (.slice A' 3 c') hx2 hown' hgrow hob
          have hS3 := cells3_grown hS2 hgrow (fun e => HN7.out e.symm)
          refine held_one (i := 6) (by kernel_rfl) ?_
          refine held_value (some 21) rfl rfl (.slice (some ⟨g', 0, none⟩) (k + 1) cap') (exec_append (.tmp 16) (.tmp 20) 43 rfl _ _ _ rfl rfl hrun) rfl hS3 ?_
          simp only [Act.put, List.setIfInBounds_toArray, List.set_cons_zero, List.set_cons_succ]
          refine held_one (i := 7) (by kernel_rfl) ?_
          refine held_value (some 22) rfl rfl (.pointer (some ⟨b3, 2, none⟩)) (by go_simp <;> rfl) rfl hS3 ?_
          simp only [Act.put, List.setIfInBounds_toArray, List.set_cons_zero, List.set_cons_succ]
          refine held_one (i := 8) (by kernel_rfl) ?_
          refine held_store rfl rfl (exec_store1 (.tmp 22) (.tmp 21) rfl rfl rfl (K2.held.blk.grown hgrow (fun e => by have := ownBlock_ge K2.held.own e.symm; omega)) (by simp)) (cells3_set (HB7.out) hS3 _) ?_
          simp only [Act.put, List.setIfInBounds_toArray, List.set_cons_zero, List.set_cons_succ]
          refine wpAnyH_done (by kernel_rfl) ?_ _
          rw [HTK.out] at K3
          clear hrun hown' hgrow hob K2 hiff hx1 hx2 hsub hS0 hS1 hS2 hS3 K0 K1
          go_wp2_with fail
          go_roundw
          case rel => exact ⟨k + 1, _, _, by go_num, by omega, K3⟩
          case measure => simp [intOf]; omega
        · have K2 := K1.kept (only_alloc (World.grownBy.refl u1 none) (.cells #[.bool true, .string ⟨#[]⟩, .slice A' 3 c'] 45))
          have hx2 := SubV.grown hx1 (only_alloc (World.grownBy.refl u1 none) (.cells #[.bool true, .string ⟨#[]⟩, .slice A' 3 c'] 45))
          have hS2 := cells3_grown hS1 (only_alloc (World.grownBy.refl u1 none) (.cells #[.bool true, .string ⟨#[]⟩, .slice A' 3 c'] 45)) (by simp)
          refine held_value (some 20) rfl rfl (.slice (some ⟨u1.heap.size, 0, none⟩) 1 1) (by go_simp <;> rfl) rfl hS2 ?_
          simp only [Act.put, List.setIfInBounds_toArray, List.set_cons_zero, List.set_cons_succ]
          refine held_one (i := 1) (by kernel_rfl) ?_
          refine held_value (some 16) rfl rfl (.slice vA k vc) (exec_load1 43 (.tmp 15) rfl _ rfl _ _ Tryz.underlying43 rfl (K2.held.blk.cell 2)) rfl hS2 ?_
          simp only [Act.put, List.setIfInBounds_toArray, List.set_cons_zero, List.set_cons_succ]
          obtain ⟨i0, hi, hz0, hzs, hzb⟩ := info_parts item_info
          obtain ⟨v', u2, hrun, hown', hgrow, hiff, hob⟩ := run_append_own_at (P := Tryz.prog) (u1.alloc (.cells #[.bool true, .string ⟨#[]⟩, .slice A' 3 c'] 45)) (b3 + 1) 43 43 45 i0 _ 3 48 Tryz.underlying43 hi hz0 hzs hzb rfl (by decide) (.slice vA k vc) k (itemsV its vs) K2.held.own ⟨u1.heap.size, 0, none⟩ 1 1 [.bool true, .string ⟨#[]⟩, .slice A' 3 c'] rfl (cell_three_new _ _ _ _ _) (by simp [Value.oneCell']) (by simp only [maxLen]; omega) (by omega) K2.held.size
          obtain ⟨g', cap', rfl⟩ := ownsRow_succ hown'
          have K3 := K2.put (logIt x) (.slice A' 3 c') hx2 hown' hgrow hob
          have hS3 := cells3_grown hS2 hgrow (fun e => HN7.out e.symm)
          refine held_one (i := 6) (by kernel_rfl) ?_
          refine held_value (some 21) rfl rfl (.slice (some ⟨g', 0, none⟩) (k + 1) cap') (exec_append (.tmp 16) (.tmp 20) 43 rfl _ _ _ rfl rfl hrun) rfl hS3 ?_
          simp only [Act.put, List.setIfInBounds_toArray, List.set_cons_zero, List.set_cons_succ]
          refine held_one (i := 7) (by kernel_rfl) ?_
          refine held_value (some 22) rfl rfl (.pointer (some ⟨b3, 2, none⟩)) (by go_simp <;> rfl) rfl hS3 ?_
          simp only [Act.put, List.setIfInBounds_toArray, List.set_cons_zero, List.set_cons_succ]
          refine held_one (i := 8) (by kernel_rfl) ?_
          refine held_store rfl rfl (exec_store1 (.tmp 22) (.tmp 21) rfl rfl rfl (K2.held.blk.grown hgrow (fun e => by have := ownBlock_ge K2.held.own e.symm; omega)) (by simp)) (cells3_set (HB7.out) hS3 _) ?_
          simp only [Act.put, List.setIfInBounds_toArray, List.set_cons_zero, List.set_cons_succ]
          refine wpAnyH_done (by kernel_rfl) ?_ _
          rw [HTK.out] at K3
          clear hrun hown' hgrow hob K2 hiff hx1 hx2 hsub hS0 hS1 hS2 hS3 K0 K1
          go_wp2_with fail
          go_roundw
          case rel => exact ⟨k + 1, _, _, by go_num, by omega, K3⟩
          case measure => simp [intOf]; omega
    · obtain rfl : k = n := by omega
      have hfin : decide ((k : Int) < (k : Int)) = false := by simp
      have hRB := HRB.out.grown K0.held.grown (by simp)
      obtain ⟨vA, vc, rfl⟩ := own_slice3 K0.held.own
      have hle : w.heap.size ≤ b := by have := HW.out; omega
      have hb3 : b + 1 ≤ b3 := by have := HZB.out; omega
      have ht : ls.take k = ls := List.take_of_length_le (by have := HL.out; omega)
      rw [ht] at K0
      have hS := K0.row
      have HS5 := Lib.hid (SubV.weak (sub_set3 (g := b) hS (by omega) (.bool true) (.string ⟨#[]⟩) (.slice vA k vc)) (fun g (hg : b3 + 1 ≤ g) => (show w.heap.size ≤ g by omega)))
      have HG5 := Lib.hid (only_set (only_set (only_set (grown_self HG.out K0.held.grown (by simp)) (p := ⟨b, 0, none⟩) hle (.bool true)) (p := ⟨b, 1, none⟩) hle (.string ⟨#[]⟩)) (p := ⟨b, 2, none⟩) hle (.slice vA k vc))
      have HB5 := Lib.hid (((hRB.set_ 0 (.bool true)).set_ 1 (.string ⟨#[]⟩)).set_ 2 (.slice vA k vc))
      have c0 := hRB.cell 0; have c1 := hRB.cell 1; have c2 := hRB.cell 2
      have d0 := hRB.frozen 0; have d1 := hRB.frozen 1; have d2 := hRB.frozen 2
      have e0 := K0.held.blk.cell 0; have e1 := K0.held.blk.cell 1; have e2 := K0.held.blk.cell 2
      simp only [List.getElem?_toArray, List.getElem?_cons_zero, List.getElem?_cons_succ] at c0 c1 c2 e0 e1 e2
      clear K0 hle hb3 ht hS hRB hk hlt
      go_wp2_with fail
      refine bodyPost_ret (results_cell1 (fn := Tryz.f25) rfl _ _ _ _ rfl (load_itemF HB5.out)) rfl ?_
      exact ⟨_, _, rfl, HS5.out, HG5.out⟩
end Go.Proofs.YthalohloneojlaaGreatDoor
/- Receipts: a row of three items, and so many of two more behind it. -/
namespace Go.Proofs.YthalohloneojlaaGreatDoor
open Go.RowKit Go.Shelf
set_option linter.unusedVariables false
set_option linter.unusedSimpArgs false

theorem run_rcp_more (V : World) (k7 z y : Nat) (a b : ByteArray) (ls : List Itm) (p q : ByteArray) (r : Nat) (hr : r ≤ 2) (i : TypeInfo) (zv : Value) (hi : Tryz.prog.info? 45 = some i) (hz : i.zero = some zv) (hsz : i.size = 3) (hby : i.bytes = 48) (hzc : zv.cells.size = 3) (ty : TypeId)
    (hk7 : k7 < V.heap.size) (h : SubV (fun g => g ≠ k7) V [txt a, txt b, .mk true ⟨#[]⟩ ls] (.slice (some ⟨z, 0, none⟩) 3 3)) (hy : Blk V y 45 #[.bool false, .string p, .slice none 0 0, .bool false, .string q, .slice none 0 0]) :
    ∃ A' c' V', (Builtin.append_ #[43, 43] ty #[.slice (some ⟨z, 0, none⟩) 3 3, .slice (some ⟨y, 0, none⟩) r 2]).run Tryz.prog V = .ok (.slice A' (3 + r) c') V' ∧ SubV (fun g => g ≠ k7) V' ([txt a, txt b, .mk true ⟨#[]⟩ ls] ++ [txt p, txt q].take r) (.slice A' (3 + r) c') ∧ V.grownBy V' none := by
  have ht := Tryz.underlying43
  have hn : ∀ W : World, SubV (fun g => g ≠ k7) W [] (.slice none 0 0) := fun W => .mk [] none 0 [] (fun h => by cases h) (fun i h => by cases h)
  obtain ⟨_, vs, hsub, hrow⟩ := h.row
  obtain ⟨b0, off, hA, hSb, hc⟩ := hrow (by simp)
  cases hA
  have hold : ∀ j u, [Value.bool false, .string a, vs.getD 0 undef, .bool false, .string b, vs.getD 1 undef, .bool true, .string ⟨#[]⟩, vs.getD 2 undef][j]? = some u → V.cell? ((⟨z, 0, none⟩ : Addr).add j) = some u := by
    intro j u hj
    have h0 := hc 0 (by simp); have h1 := hc 1 (by simp); have h2 := hc 2 (by simp)
    match j, hj with
    | 0, hj => cases hj; exact h0.1
    | 1, hj => cases hj; exact h0.2.1
    | 2, hj => cases hj; exact h0.2.2
    | 3, hj => cases hj; exact h1.1
    | 4, hj => cases hj; exact h1.2.1
    | 5, hj => cases hj; exact h1.2.2
    | 6, hj => cases hj; exact h2.1
    | 7, hj => cases hj; exact h2.2.1
    | 8, hj => cases hj; exact h2.2.2
    | j + 9, hj => simp at hj
  match r, hr with
  | 0, _ =>
    refine ⟨some ⟨z, 0, none⟩, 3, V, ?_, h, World.grownBy.refl V none⟩
    have hb : V.heap[y]? = some _ := hy
    simp [Builtin.append_, run_underlying ht, sizeOf, typeInfo, hi, Builtin.lenOf, Builtin.firstCells, loadCells, loadCellsFrom, storeCells]
  | 1, _ =>
    obtain ⟨v', V', hrun, hown, hg⟩ := run_append_arg_grows (P := Tryz.prog) V 43 ty 45 i zv 3 48 ht hi hz hsz hby hzc (by decide) ⟨z, 0, none⟩ 3 3 _ rfl hold ⟨y, 0, none⟩ 1 2 [.bool false, .string p, .slice none 0 0] rfl (by
      intro j u hj
      match j, hj with
      | 0, hj => cases hj; exact hy.cell 0
      | 1, hj => cases hj; exact hy.cell 1
      | 2, hj => cases hj; exact hy.cell 2
      | j + 3, hj => simp at hj) (by decide) (by decide) (by decide)
    obtain ⟨A', c', rfl⟩ := own_slice3 hown
    refine ⟨A', c', V', hrun, ?_, hg⟩
    refine SubV.of_own (base := V.heap.size) (xs := [txt a, txt b, .mk true ⟨#[]⟩ ls] ++ [txt p]) (vs := [vs.getD 0 undef, vs.getD 1 undef, vs.getD 2 undef, .slice none 0 0]) rfl hown (fun j hj => ?_) (fun g hg0 => ?_)
    · match j, hj with
      | 0, _ => exact (hsub 0 (by simp)).grown hg
      | 1, _ => exact (hsub 1 (by simp)).grown hg
      | 2, _ => exact (hsub 2 (by simp)).grown hg
      | 3, _ => exact hn _
    · have := ownBlock_ge hown hg0
      show g ≠ k7; omega
  | 2, _ =>
    obtain ⟨v', V', hrun, hown, hg⟩ := run_append_arg_grows (P := Tryz.prog) V 43 ty 45 i zv 3 48 ht hi hz hsz hby hzc (by decide) ⟨z, 0, none⟩ 3 3 _ rfl hold ⟨y, 0, none⟩ 2 2 [.bool false, .string p, .slice none 0 0, .bool false, .string q, .slice none 0 0] rfl (by
      intro j u hj
      match j, hj with
      | 0, hj => cases hj; exact hy.cell 0
      | 1, hj => cases hj; exact hy.cell 1
      | 2, hj => cases hj; exact hy.cell 2
      | 3, hj => cases hj; exact hy.cell 3
      | 4, hj => cases hj; exact hy.cell 4
      | 5, hj => cases hj; exact hy.cell 5
      | j + 6, hj => simp at hj) (by decide) (by decide) (by decide)
    obtain ⟨A', c', rfl⟩ := own_slice3 hown
    refine ⟨A', c', V', hrun, ?_, hg⟩
    refine SubV.of_own (base := V.heap.size) (xs := [txt a, txt b, .mk true ⟨#[]⟩ ls] ++ [txt p, txt q]) (vs := [vs.getD 0 undef, vs.getD 1 undef, vs.getD 2 undef, .slice none 0 0, .slice none 0 0]) rfl hown (fun j hj => ?_) (fun g hg0 => ?_)
    · match j, hj with
      | 0, _ => exact (hsub 0 (by simp)).grown hg
      | 1, _ => exact (hsub 1 (by simp)).grown hg
      | 2, _ => exact (hsub 2 (by simp)).grown hg
      | 3, _ => exact hn _
      | 4, _ => exact hn _
    · have := ownBlock_ge hown hg0
      show g ≠ k7; omega
end Go.Proofs.YthalohloneojlaaGreatDoor
