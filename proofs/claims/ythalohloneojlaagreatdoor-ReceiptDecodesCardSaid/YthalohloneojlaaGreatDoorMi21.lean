/- Merged: RdC. -/
import Derived.Test.YthalohloneojlaaGreatDoorMi13
import Derived.Test.YthalohloneojlaaGreatDoorMi15
import Derived.Test.YthalohloneojlaaGreatDoorMi20
/- Receipts, the document's: logs as an item.  Printed by wip/genRdC.py -/
namespace Go.Proofs.YthalohloneojlaaGreatDoor
open Go.RowKit Go.Shelf
set_option linter.unusedVariables false
set_option linter.unusedSimpArgs false

/-- a log's three cells -/
def LogAt (W : World) (q o : Nat) (x : LogV) (T : Option Addr) (tn tc : Nat) : Prop := W.cell? ⟨q, o, none⟩ = some (.string x.addr) ∧ W.cell? ⟨q, o + 1, none⟩ = some (.slice T tn tc) ∧ W.cell? ⟨q, o + 2, none⟩ = some (.string x.data)
theorem LogAt.grown {W W' : World} {q o : Nat} {x : LogV} {T : Option Addr} {tn tc : Nat} {row : Option Nat} (h : LogAt W q o x T tn tc) (hg : W.grownBy W' row) (hr : some q ≠ row) : LogAt W' q o x T tn tc := ⟨hg.cell h.1 hr, hg.cell h.2.1 hr, hg.cell h.2.2 hr⟩
theorem LogAt.set {W : World} {q o : Nat} {x : LogV} {T : Option Addr} {tn tc : Nat} {g i : Nat} (h : LogAt W q o x T tn tc) (hne : g ≠ q) (v : Value) : LogAt (W.setCell ⟨g, i, none⟩ v) q o x T tn tc := by
  unfold LogAt
  rw [World.cell?_setCell_far _ _ _ _ hne, World.cell?_setCell_far _ _ _ _ hne, World.cell?_setCell_far _ _ _ _ hne]; exact h
set_option maxRecDepth 100000 in
set_option maxHeartbeats 40000000 in
theorem writtenD_any (B : Nat) (A : Option Addr) (n c : Nat) (ls : List LogV) (w : World) (h : LogsR B w ls A n) (hB : B ≤ w.heap.size) (hn : n ≤ 1000) (hts : ∀ l ∈ ls, l.topics.length ≤ 1000) :
    Calls Tryz.prog 53 #[.slice A n c] w fun e w' => ∃ A' c', e = .returned (.agg #[.bool true, .string ⟨#[]⟩, .slice A' n c']) ∧ SubV (fun g => w.heap.size ≤ g) w' (ls.map logIt) (.slice A' n c') ∧ w.grownBy w' none := by
  have hl : ls.length = n := h.1
  have hRB := Blk.new w 45 #[.bool false, .string ⟨#[]⟩, .slice none 0 0]
  have hG := only_alloc (World.grownBy.refl w none) (.cells #[.bool false, .string ⟨#[]⟩, .slice none 0 0] 45)
  have h := h.grown hG hB
  have hB1 := Nat.le_trans hB hG.size
  go_enter Tryz.func53, Tryz.ntmps53
  go_upto_region 1 with (fail)
  obtain ⟨b, hb⟩ : ∃ b, w.heap.size = b := ⟨_, rfl⟩
  have HW := Lib.hid hb
  rw [hb] at hRB ⊢
  have hz : (w.alloc (.cells #[.bool false, .string ⟨#[]⟩, .slice none 0 0] 45)).heap.size = b + 1 := by simp [hb]
  clear hb
  generalize w.alloc (.cells #[.bool false, .string ⟨#[]⟩, .slice none 0 0] 45) = W1 at *
  obtain ⟨w3, hw3⟩ : ∃ w3, W1 = w3 := ⟨_, rfl⟩
  have hg3 : W1.grownBy w3 none := hw3 ▸ World.grownBy.refl W1 none
  rw [hw3]
  obtain ⟨b3, hb3⟩ : ∃ b, w3.heap.size = b := ⟨_, rfl⟩
  have hz3 := hg3.size
  have K0 : RdI w3 b3 (.slice none 0 0) 0 ((ls.take 0).map logIt) [] (w3.alloc (.cells #[.bool true, .string ⟨#[]⟩, .slice none 0 0] 45)) := by
    refine ⟨⟨?_, World.ownsRow_nil _ _ _ _, only_alloc (World.grownBy.refl w3 none) _, by simp; omega, by omega⟩, rfl, rfl, fun i hi => absurd hi (by omega)⟩
    have := Blk.new w3 45 #[.bool true, .string ⟨#[]⟩, .slice none 0 0]
    rwa [hb3] at this
  have H0 := Lib.hid (h.grown hg3 hB1)
  have HL := Lib.hid hl
  have HB : Hid (B ≤ w3.heap.size) := Lib.hid (Nat.le_trans hB1 hz3)
  have HB3 : Hid (w3.heap.size = b3) := Lib.hid hb3
  have HRB := Lib.hid (hRB.grown hg3 (by simp))
  have HG := Lib.hid (grown_self hG hg3 (by simp))
  have HZB : Hid (b + 1 ≤ b3) := Lib.hid (by omega)
  have HTS := Lib.hid hts
  clear hG hg3 hl hB hB1 hRB h hts hw3
  go_upto_region 2 with (fail)
  generalize w3.alloc (.cells #[.bool true, .string ⟨#[]⟩, .slice none 0 0] 45) = W4 at *
  clear hz hz3 hb3
  go_wp2_with fail
  go_loopw [4] (fun i wr => ∃ (k : Nat) (v : Value) (vs : List Value), i = .int .i64 k ∧ k ≤ n ∧ RdI w3 b3 v k ((ls.take k).map logIt) vs wr) (fun i _ => n - (intOf i).toNat)
  case atStart => exact ⟨0, _, _, rfl, by omega, K0⟩
  case round =>
    clear K0
    obtain ⟨k, v, vs, rfl, hk, K0⟩ := hrel
    by_cases hlt : k < n
    · have hlr := H0.out.grown K0.held.grown HB.out
      obtain ⟨q, off, rfl, hq, hc⟩ := hlr.2 (by omega)
      obtain ⟨T, tc, c0, c1, c2, hT, _, _⟩ := hc k hlt
      have q1 : (k : Int) < (n : Int) := by omega
      obtain ⟨x, hx⟩ : ∃ x, ls.getD k LogV.none_ = x := ⟨_, rfl⟩
      have hmem : x ∈ ls := by rw [← hx, List.getD_eq_getElem?_getD, List.getElem?_eq_getElem (by have := HL.out; omega)]; exact List.getElem_mem _
      have htl := HTS.out x hmem
      rw [hx] at c0 c1 c2 hT
      have hTK : (ls.take k).map logIt ++ [logIt x] = (ls.take (k + 1)).map logIt := by
        rw [List.take_add_one, List.getElem?_eq_getElem (by have := HL.out; omega), List.map_append]
        rw [← hx, List.getD_eq_getElem?_getD, List.getElem?_eq_getElem (by have := HL.out; omega)]
        rfl
      have HTK := Lib.hid hTK
      obtain ⟨its, hits⟩ : ∃ its, (ls.take k).map logIt = its := ⟨_, rfl⟩
      rw [hits] at HTK K0
      obtain ⟨tn, htn⟩ : ∃ tn, x.topics.length = tn := ⟨_, rfl⟩
      rw [htn] at c1 hT htl
      have HT2 : Hid (∀ V, wr.grownBy V none → Calls Tryz.prog 87 #[.slice T tn tc] V fun e w' => ∃ A' c', e = .returned (.agg #[.bool true, .string ⟨#[]⟩, .slice A' tn c']) ∧ SubV (fun g => V.heap.size ≤ g) w' (x.topics.map txt) (.slice A' tn c') ∧ V.grownBy w' none) := Lib.hid fun V hV => textsR6_any B T tn tc x.topics V (hT.grown hV (Nat.le_trans HB.out K0.held.grown.size) (by simp)) (Nat.le_trans (Nat.le_trans HB.out K0.held.grown.size) hV.size) htl
      have hml : (x.topics.map txt).length = tn := by rw [List.length_map]; exact htn
      have HML := Lib.hid hml
      have HQ3 : Hid (q < b3) := Lib.hid (by have := HB.out; have := HB3.out; omega)
      have hgu := World.grownBy.refl wr none
      have hS : LogAt wr q (off + k * 3) x T tn tc := ⟨c0, c1, c2⟩
      clear hlr hc hx hmem htl hT hTK hits hq hml htn c0 c1 c2
      obtain ⟨vA, vc, rfl⟩ := own_slice3 K0.held.own
      go_upto_region 5 with (fail)
      have hq0 : (0 : Int) ≤ (k : Int) := by omega
      refine wp_region_held (S := fun W => LogAt W q (off + k * 3) x T tn tc) (by kernel_rfl) ?_
      change wpAnyH _ _ _ _ _ _ _ _ wr.drew
      replace hS := hS.grown (only_drew (World.grownBy.refl wr none)) (by simp)
      replace hgu := only_drew hgu
      replace K0 := K0.drew
      generalize wr.drew = u0 at *
      refine held_take (i := 0) (v := .pointer (some ⟨b3, 2, none⟩)) (some 12) rfl (by kernel_rfl) (by kernel_rfl) (by kernel_rfl) (fun _ _ _ h => h) rfl (Or.inl ⟨by rfl, fun W hW => by go_simp⟩) hS ?_
      simp only [Act.put, List.setIfInBounds_toArray, List.set_cons_zero, List.set_cons_succ]
      refine held_take (i := 2) (v := .slice (some ⟨q, off, none⟩) n c) (some 14) rfl (by kernel_rfl) (by kernel_rfl) (by kernel_rfl) (fun _ _ _ h => h) rfl (Or.inl ⟨by rfl, fun W hW => by go_simp⟩) hS ?_
      simp only [Act.put, List.setIfInBounds_toArray, List.set_cons_zero, List.set_cons_succ]
      refine held_take (i := 3) (v := .int .i64 (k : Int)) (some 15) rfl (by kernel_rfl) (by kernel_rfl) (by kernel_rfl) (fun _ _ _ h => h) rfl (Or.inl ⟨by rfl, fun W hW => by go_simp⟩) hS ?_
      simp only [Act.put, List.setIfInBounds_toArray, List.set_cons_zero, List.set_cons_succ]
      refine held_take (i := 4) (v := .pointer (some ⟨q, off + k * 3, none⟩)) (some 16) rfl (by kernel_rfl) (by kernel_rfl) (by kernel_rfl) (fun _ _ _ h => h) rfl (Or.inl ⟨by rfl, fun W hW => by go_simp⟩) hS ?_
      simp only [Act.put, List.setIfInBounds_toArray, List.set_cons_zero, List.set_cons_succ]
      refine held_take (i := 5) (v := .pointer (some ⟨q, off + k * 3, none⟩)) (some 17) rfl (by kernel_rfl) (by kernel_rfl) (by kernel_rfl) (fun _ _ _ h => h) rfl (Or.inl ⟨by rfl, fun W hW => by go_simp⟩) hS ?_
      simp only [Act.put, List.setIfInBounds_toArray, List.set_cons_zero, List.set_cons_succ]
      refine held_take (i := 6) (v := .string x.addr) (some 18) rfl (by kernel_rfl) (by kernel_rfl) (by kernel_rfl) (fun _ _ _ h => h) rfl (Or.inl ⟨by rfl, fun W hW => by have p0 := hW.1; have p1 := hW.2.1; have p2 := hW.2.2; go_simp⟩) hS ?_
      simp only [Act.put, List.setIfInBounds_toArray, List.set_cons_zero, List.set_cons_succ]
      refine held_take (i := 8) (v := .slice (some ⟨q, off, none⟩) n c) (some 20) rfl (by kernel_rfl) (by kernel_rfl) (by kernel_rfl) (fun _ _ _ h => h) rfl (Or.inl ⟨by rfl, fun W hW => by go_simp⟩) hS ?_
      simp only [Act.put, List.setIfInBounds_toArray, List.set_cons_zero, List.set_cons_succ]
      refine held_take (i := 9) (v := .int .i64 (k : Int)) (some 21) rfl (by kernel_rfl) (by kernel_rfl) (by kernel_rfl) (fun _ _ _ h => h) rfl (Or.inl ⟨by rfl, fun W hW => by go_simp⟩) hS ?_
      simp only [Act.put, List.setIfInBounds_toArray, List.set_cons_zero, List.set_cons_succ]
      refine held_take (i := 10) (v := .pointer (some ⟨q, off + k * 3, none⟩)) (some 22) rfl (by kernel_rfl) (by kernel_rfl) (by kernel_rfl) (fun _ _ _ h => h) rfl (Or.inl ⟨by rfl, fun W hW => by go_simp⟩) hS ?_
      simp only [Act.put, List.setIfInBounds_toArray, List.set_cons_zero, List.set_cons_succ]
      refine held_take (i := 11) (v := .pointer (some ⟨q, off + k * 3 + 1, none⟩)) (some 23) rfl (by kernel_rfl) (by kernel_rfl) (by kernel_rfl) (fun _ _ _ h => h) rfl (Or.inl ⟨by rfl, fun W hW => by go_simp⟩) hS ?_
      simp only [Act.put, List.setIfInBounds_toArray, List.set_cons_zero, List.set_cons_succ]
      refine held_take (i := 12) (v := .slice T tn tc) (some 24) rfl (by kernel_rfl) (by kernel_rfl) (by kernel_rfl) (fun _ _ _ h => h) rfl (Or.inl ⟨by rfl, fun W hW => by have p0 := hW.1; have p1 := hW.2.1; have p2 := hW.2.2; go_simp⟩) hS ?_
      simp only [Act.put, List.setIfInBounds_toArray, List.set_cons_zero, List.set_cons_succ]
      refine held_take (i := 14) (v := .slice (some ⟨q, off, none⟩) n c) (some 26) rfl (by kernel_rfl) (by kernel_rfl) (by kernel_rfl) (fun _ _ _ h => h) rfl (Or.inl ⟨by rfl, fun W hW => by go_simp⟩) hS ?_
      simp only [Act.put, List.setIfInBounds_toArray, List.set_cons_zero, List.set_cons_succ]
      refine held_take (i := 15) (v := .int .i64 (k : Int)) (some 27) rfl (by kernel_rfl) (by kernel_rfl) (by kernel_rfl) (fun _ _ _ h => h) rfl (Or.inl ⟨by rfl, fun W hW => by go_simp⟩) hS ?_
      simp only [Act.put, List.setIfInBounds_toArray, List.set_cons_zero, List.set_cons_succ]
      refine held_take (i := 16) (v := .pointer (some ⟨q, off + k * 3, none⟩)) (some 28) rfl (by kernel_rfl) (by kernel_rfl) (by kernel_rfl) (fun _ _ _ h => h) rfl (Or.inl ⟨by rfl, fun W hW => by go_simp⟩) hS ?_
      simp only [Act.put, List.setIfInBounds_toArray, List.set_cons_zero, List.set_cons_succ]
      refine held_take (i := 17) (v := .pointer (some ⟨q, off + k * 3 + 2, none⟩)) (some 29) rfl (by kernel_rfl) (by kernel_rfl) (by kernel_rfl) (fun _ _ _ h => h) rfl (Or.inl ⟨by rfl, fun W hW => by go_simp⟩) hS ?_
      simp only [Act.put, List.setIfInBounds_toArray, List.set_cons_zero, List.set_cons_succ]
      refine held_take (i := 18) (v := .string x.data) (some 30) rfl (by kernel_rfl) (by kernel_rfl) (by kernel_rfl) (fun _ _ _ h => h) rfl (Or.inl ⟨by rfl, fun W hW => by have p0 := hW.1; have p1 := hW.2.1; have p2 := hW.2.2; go_simp⟩) hS ?_
      simp only [Act.put, List.setIfInBounds_toArray, List.set_cons_zero, List.set_cons_succ]
      refine held_two (i := 1) (j := 7) (by kernel_rfl) ?_ ?_
      · refine held_value (some 13) rfl rfl (.slice vA k vc) (exec_load1 43 (.tmp 12) rfl _ rfl _ _ Tryz.underlying43 rfl (K0.held.blk.cell 2)) rfl hS ?_
        simp only [Act.put, List.setIfInBounds_toArray, List.set_cons_zero, List.set_cons_succ]
        refine held_one (i := 7) (by kernel_rfl) ?_
        refine held_enter (some 19) rfl rfl 86 #[.string x.addr] (exec_call1 _ (.tmp 18) _ rfl _ rfl (enters_of Tryz.func86 (by kernel_rfl) rfl _ _)) rfl ((textR6_any x.addr u0).mono ?_)
        rintro e v2 ⟨rfl, hg⟩
        replace K0 := K0.kept hg
        replace hS := hS.grown hg (by simp)
        replace hgu := grown_self hgu hg (by simp)
        refine ⟨_, rfl, hS, ?_⟩
        simp only [Act.put, List.setIfInBounds_toArray, List.set_cons_zero, List.set_cons_succ]
        clear hg
        refine held_one (i := 13) (by kernel_rfl) ?_
        refine held_enter (some 25) rfl rfl 87 #[.slice T tn tc] (exec_call1 _ (.tmp 24) _ rfl _ rfl (enters_of Tryz.func87 (by kernel_rfl) rfl _ _)) rfl ((HT2.out v2 hgu).mono ?_)
        rintro e v3 ⟨A', c', rfl, hsub, hg⟩
        have hx : SubV (fun g => b3 + 1 ≤ g ∧ (Value.slice vA k vc).ownBlock ≠ some g) v3 (x.topics.map txt) (.slice A' tn c') := hsub.weak (fun g (h : v2.heap.size ≤ g) => ⟨by have := K0.held.size; omega, fun e => by have := own_ltB K0.held.own e; omega⟩)
        replace K0 := K0.kept hg
        replace hS := hS.grown hg (by simp)
        replace hgu := grown_self hgu hg (by simp)
        refine ⟨_, rfl, hS, ?_⟩
        simp only [Act.put, List.setIfInBounds_toArray, List.set_cons_zero, List.set_cons_succ]
        clear hg hsub
        refine held_one (i := 19) (by kernel_rfl) ?_
        refine held_enter (some 31) rfl rfl 86 #[.string x.data] (exec_call1 _ (.tmp 30) _ rfl _ rfl (enters_of Tryz.func86 (by kernel_rfl) rfl _ _)) rfl ((textR6_any x.data v3).mono ?_)
        rintro e v4 ⟨rfl, hg⟩
        replace K0 := K0.kept hg
        replace hS := hS.grown hg (by simp)
        replace hgu := grown_self hgu hg (by simp)
        replace hx := SubV.grown hx hg
        refine ⟨_, rfl, hS, ?_⟩
        simp only [Act.put, List.setIfInBounds_toArray, List.set_cons_zero, List.set_cons_succ]
        clear hg
        refine held_one (i := 20) (by kernel_rfl) ?_
        rw [← HML.out] at hx
        have hrow := three_subS (fun g => b3 + 1 ≤ g ∧ (Value.slice vA k vc).ownBlock ≠ some g) v4 x.addr x.data (x.topics.map txt) A' c' ⟨by have := K0.held.size; omega, fun e => by have := own_ltB K0.held.own e; omega⟩ hx
        rw [HML.out] at hrow
        have hg := only_alloc (World.grownBy.refl v4 none) (.cells #[.bool false, .string x.addr, .slice none 0 0, .bool true, .string ⟨#[]⟩, .slice A' tn c', .bool false, .string x.data, .slice none 0 0] 45)
        replace K0 := K0.kept hg
        replace hS := hS.grown hg (by simp)
        replace hgu := grown_self hgu hg (by simp)
        refine held_value (some 32) rfl rfl (.slice (some ⟨v4.heap.size, 0, none⟩) 3 3) (w' := v4.alloc (.cells #[.bool false, .string x.addr, .slice none 0 0, .bool true, .string ⟨#[]⟩, .slice A' tn c', .bool false, .string x.data, .slice none 0 0] 45)) (by go_simp <;> rfl) rfl hS ?_
        simp only [Act.put, List.setIfInBounds_toArray, List.set_cons_zero, List.set_cons_succ]
        obtain ⟨u5z, hu5z⟩ : ∃ z, v4.heap.size = z := ⟨_, rfl⟩
        rw [hu5z] at hrow ⊢
        clear hg hu5z hx
        generalize v4.alloc (.cells #[.bool false, .string x.addr, .slice none 0 0, .bool true, .string ⟨#[]⟩, .slice A' tn c', .bool false, .string x.data, .slice none 0 0] 45) = v5 at *
        refine held_one (i := 21) (by kernel_rfl) ?_
        refine held_enter (some 33) rfl rfl 55 #[.slice (some ⟨u5z, 0, none⟩) 3 3] (exec_call1 _ (.tmp 32) _ rfl _ rfl (enters_of Tryz.func55 (by kernel_rfl) rfl _ _)) rfl ((listR6_any (.slice (some ⟨u5z, 0, none⟩) 3 3) ⟨_, _, _, rfl⟩ v5).mono ?_)
        rintro e v6 ⟨rfl, hg⟩
        replace K0 := K0.kept hg
        replace hS := hS.grown hg (by simp)
        replace hgu := grown_self hgu hg (by simp)
        replace hrow := SubV.grown hrow hg
        refine ⟨_, rfl, hS, ?_⟩
        simp only [Act.put, List.setIfInBounds_toArray, List.set_cons_zero, List.set_cons_succ]
        clear hg
        refine held_one (i := 22) (by kernel_rfl) ?_
        have hg := only_alloc (World.grownBy.refl v6 none) (.cells #[.bool true, .string ⟨#[]⟩, .slice (some ⟨u5z, 0, none⟩) 3 3] 45)
        replace K0 := K0.kept hg
        replace hS := hS.grown hg (by simp)
        replace hgu := grown_self hgu hg (by simp)
        replace hrow := SubV.grown hrow hg
        refine held_value (some 34) rfl rfl (.slice (some ⟨v6.heap.size, 0, none⟩) 1 1) (by go_simp <;> rfl) rfl hS ?_
        simp only [Act.put, List.setIfInBounds_toArray, List.set_cons_zero, List.set_cons_succ]
        clear hg
        obtain ⟨i0, hi, hz0, hzs, hzb⟩ := info_parts item_info
        obtain ⟨v', u2, hrun, hown', hgrow, hiff, hob⟩ := run_append_own_at (P := Tryz.prog) (v6.alloc (.cells #[.bool true, .string ⟨#[]⟩, .slice (some ⟨u5z, 0, none⟩) 3 3] 45)) (b3 + 1) 43 43 45 i0 _ 3 48 Tryz.underlying43 hi hz0 hzs hzb rfl (by decide) (.slice vA k vc) k (itemsV its vs) K0.held.own ⟨v6.heap.size, 0, none⟩ 1 1 [.bool true, .string ⟨#[]⟩, .slice (some ⟨u5z, 0, none⟩) 3 3] rfl (cell_three_new _ _ _ _ _) (by simp [Value.oneCell']) (by simp only [maxLen]; omega) (by omega) K0.held.size
        obtain ⟨g', cap', rfl⟩ := ownsRow_succ hown'
        have K3 := K0.put (logIt x) (.slice (some ⟨u5z, 0, none⟩) 3 3) hrow hown' hgrow hob
        have hS3 := hS.grown hgrow (fun e => by have := ownBlock_ge K0.held.own e.symm; have := HQ3.out; omega)
        refine held_one (i := 23) (by kernel_rfl) ?_
        refine held_value (some 35) rfl rfl (.slice (some ⟨g', 0, none⟩) (k + 1) cap') (exec_append (.tmp 13) (.tmp 34) 43 rfl _ _ _ rfl rfl hrun) rfl hS3 ?_
        simp only [Act.put, List.setIfInBounds_toArray, List.set_cons_zero, List.set_cons_succ]
        refine held_one (i := 24) (by kernel_rfl) ?_
        refine held_value (some 36) rfl rfl (.pointer (some ⟨b3, 2, none⟩)) (by go_simp <;> rfl) rfl hS3 ?_
        simp only [Act.put, List.setIfInBounds_toArray, List.set_cons_zero, List.set_cons_succ]
        refine held_one (i := 25) (by kernel_rfl) ?_
        refine held_store rfl rfl (exec_store1 (.tmp 36) (.tmp 35) rfl rfl rfl (K0.held.blk.grown hgrow (fun e => by have := ownBlock_ge K0.held.own e.symm; omega)) (by simp)) (hS3.set (by have := HQ3.out; omega) _) ?_
        simp only [Act.put, List.setIfInBounds_toArray, List.set_cons_zero, List.set_cons_succ]
        refine wpAnyH_done (by kernel_rfl) ?_ _
        rw [HTK.out] at K3
        clear hrun hown' hgrow hob hiff hrow hS hS3 K0 hgu
        go_wp2_with fail
        go_roundw
        case rel => exact ⟨k + 1, _, _, by go_num, by omega, K3⟩
        case measure => simp [intOf]; omega
      · refine held_enter (some 19) rfl rfl 86 #[.string x.addr] (exec_call1 _ (.tmp 18) _ rfl _ rfl (enters_of Tryz.func86 (by kernel_rfl) rfl _ _)) rfl ((textR6_any x.addr u0).mono ?_)
        rintro e v1 ⟨rfl, hg⟩
        replace K0 := K0.kept hg
        replace hS := hS.grown hg (by simp)
        replace hgu := grown_self hgu hg (by simp)
        refine ⟨_, rfl, hS, ?_⟩
        simp only [Act.put, List.setIfInBounds_toArray, List.set_cons_zero, List.set_cons_succ]
        clear hg
        refine held_two (i := 1) (j := 13) (by kernel_rfl) ?_ ?_
        · refine held_value (some 13) rfl rfl (.slice vA k vc) (exec_load1 43 (.tmp 12) rfl _ rfl _ _ Tryz.underlying43 rfl (K0.held.blk.cell 2)) rfl hS ?_
          simp only [Act.put, List.setIfInBounds_toArray, List.set_cons_zero, List.set_cons_succ]
          refine held_one (i := 13) (by kernel_rfl) ?_
          refine held_enter (some 25) rfl rfl 87 #[.slice T tn tc] (exec_call1 _ (.tmp 24) _ rfl _ rfl (enters_of Tryz.func87 (by kernel_rfl) rfl _ _)) rfl ((HT2.out v1 hgu).mono ?_)
          rintro e v9 ⟨A', c', rfl, hsub, hg⟩
          have hx : SubV (fun g => b3 + 1 ≤ g ∧ (Value.slice vA k vc).ownBlock ≠ some g) v9 (x.topics.map txt) (.slice A' tn c') := hsub.weak (fun g (h : v1.heap.size ≤ g) => ⟨by have := K0.held.size; omega, fun e => by have := own_ltB K0.held.own e; omega⟩)
          replace K0 := K0.kept hg
          replace hS := hS.grown hg (by simp)
          replace hgu := grown_self hgu hg (by simp)
          refine ⟨_, rfl, hS, ?_⟩
          simp only [Act.put, List.setIfInBounds_toArray, List.set_cons_zero, List.set_cons_succ]
          clear hg hsub
          refine held_one (i := 19) (by kernel_rfl) ?_
          refine held_enter (some 31) rfl rfl 86 #[.string x.data] (exec_call1 _ (.tmp 30) _ rfl _ rfl (enters_of Tryz.func86 (by kernel_rfl) rfl _ _)) rfl ((textR6_any x.data v9).mono ?_)
          rintro e v10 ⟨rfl, hg⟩
          replace K0 := K0.kept hg
          replace hS := hS.grown hg (by simp)
          replace hgu := grown_self hgu hg (by simp)
          replace hx := SubV.grown hx hg
          refine ⟨_, rfl, hS, ?_⟩
          simp only [Act.put, List.setIfInBounds_toArray, List.set_cons_zero, List.set_cons_succ]
          clear hg
          refine held_one (i := 20) (by kernel_rfl) ?_
          rw [← HML.out] at hx
          have hrow := three_subS (fun g => b3 + 1 ≤ g ∧ (Value.slice vA k vc).ownBlock ≠ some g) v10 x.addr x.data (x.topics.map txt) A' c' ⟨by have := K0.held.size; omega, fun e => by have := own_ltB K0.held.own e; omega⟩ hx
          rw [HML.out] at hrow
          have hg := only_alloc (World.grownBy.refl v10 none) (.cells #[.bool false, .string x.addr, .slice none 0 0, .bool true, .string ⟨#[]⟩, .slice A' tn c', .bool false, .string x.data, .slice none 0 0] 45)
          replace K0 := K0.kept hg
          replace hS := hS.grown hg (by simp)
          replace hgu := grown_self hgu hg (by simp)
          refine held_value (some 32) rfl rfl (.slice (some ⟨v10.heap.size, 0, none⟩) 3 3) (w' := v10.alloc (.cells #[.bool false, .string x.addr, .slice none 0 0, .bool true, .string ⟨#[]⟩, .slice A' tn c', .bool false, .string x.data, .slice none 0 0] 45)) (by go_simp <;> rfl) rfl hS ?_
          simp only [Act.put, List.setIfInBounds_toArray, List.set_cons_zero, List.set_cons_succ]
          obtain ⟨u5z, hu5z⟩ : ∃ z, v10.heap.size = z := ⟨_, rfl⟩
          rw [hu5z] at hrow ⊢
          clear hg hu5z hx
          generalize v10.alloc (.cells #[.bool false, .string x.addr, .slice none 0 0, .bool true, .string ⟨#[]⟩, .slice A' tn c', .bool false, .string x.data, .slice none 0 0] 45) = v11 at *
          refine held_one (i := 21) (by kernel_rfl) ?_
          refine held_enter (some 33) rfl rfl 55 #[.slice (some ⟨u5z, 0, none⟩) 3 3] (exec_call1 _ (.tmp 32) _ rfl _ rfl (enters_of Tryz.func55 (by kernel_rfl) rfl _ _)) rfl ((listR6_any (.slice (some ⟨u5z, 0, none⟩) 3 3) ⟨_, _, _, rfl⟩ v11).mono ?_)
          rintro e v12 ⟨rfl, hg⟩
          replace K0 := K0.kept hg
          replace hS := hS.grown hg (by simp)
          replace hgu := grown_self hgu hg (by simp)
          replace hrow := SubV.grown hrow hg
          refine ⟨_, rfl, hS, ?_⟩
          simp only [Act.put, List.setIfInBounds_toArray, List.set_cons_zero, List.set_cons_succ]
          clear hg
          refine held_one (i := 22) (by kernel_rfl) ?_
          have hg := only_alloc (World.grownBy.refl v12 none) (.cells #[.bool true, .string ⟨#[]⟩, .slice (some ⟨u5z, 0, none⟩) 3 3] 45)
          replace K0 := K0.kept hg
          replace hS := hS.grown hg (by simp)
          replace hgu := grown_self hgu hg (by simp)
          replace hrow := SubV.grown hrow hg
          refine held_value (some 34) rfl rfl (.slice (some ⟨v12.heap.size, 0, none⟩) 1 1) (by go_simp <;> rfl) rfl hS ?_
          simp only [Act.put, List.setIfInBounds_toArray, List.set_cons_zero, List.set_cons_succ]
          clear hg
          obtain ⟨i0, hi, hz0, hzs, hzb⟩ := info_parts item_info
          obtain ⟨v', u2, hrun, hown', hgrow, hiff, hob⟩ := run_append_own_at (P := Tryz.prog) (v12.alloc (.cells #[.bool true, .string ⟨#[]⟩, .slice (some ⟨u5z, 0, none⟩) 3 3] 45)) (b3 + 1) 43 43 45 i0 _ 3 48 Tryz.underlying43 hi hz0 hzs hzb rfl (by decide) (.slice vA k vc) k (itemsV its vs) K0.held.own ⟨v12.heap.size, 0, none⟩ 1 1 [.bool true, .string ⟨#[]⟩, .slice (some ⟨u5z, 0, none⟩) 3 3] rfl (cell_three_new _ _ _ _ _) (by simp [Value.oneCell']) (by simp only [maxLen]; omega) (by omega) K0.held.size
          obtain ⟨g', cap', rfl⟩ := ownsRow_succ hown'
          have K3 := K0.put (logIt x) (.slice (some ⟨u5z, 0, none⟩) 3 3) hrow hown' hgrow hob
          have hS3 := hS.grown hgrow (fun e => by have := ownBlock_ge K0.held.own e.symm; have := HQ3.out; omega)
          refine held_one (i := 23) (by kernel_rfl) ?_
          refine held_value (some 35) rfl rfl (.slice (some ⟨g', 0, none⟩) (k + 1) cap') (exec_append (.tmp 13) (.tmp 34) 43 rfl _ _ _ rfl rfl hrun) rfl hS3 ?_
          simp only [Act.put, List.setIfInBounds_toArray, List.set_cons_zero, List.set_cons_succ]
          refine held_one (i := 24) (by kernel_rfl) ?_
          refine held_value (some 36) rfl rfl (.pointer (some ⟨b3, 2, none⟩)) (by go_simp <;> rfl) rfl hS3 ?_
          simp only [Act.put, List.setIfInBounds_toArray, List.set_cons_zero, List.set_cons_succ]
          refine held_one (i := 25) (by kernel_rfl) ?_
          refine held_store rfl rfl (exec_store1 (.tmp 36) (.tmp 35) rfl rfl rfl (K0.held.blk.grown hgrow (fun e => by have := ownBlock_ge K0.held.own e.symm; omega)) (by simp)) (hS3.set (by have := HQ3.out; omega) _) ?_
          simp only [Act.put, List.setIfInBounds_toArray, List.set_cons_zero, List.set_cons_succ]
          refine wpAnyH_done (by kernel_rfl) ?_ _
          rw [HTK.out] at K3
          clear hrun hown' hgrow hob hiff hrow hS hS3 K0 hgu
          go_wp2_with fail
          go_roundw
          case rel => exact ⟨k + 1, _, _, by go_num, by omega, K3⟩
          case measure => simp [intOf]; omega
        · refine held_enter (some 25) rfl rfl 87 #[.slice T tn tc] (exec_call1 _ (.tmp 24) _ rfl _ rfl (enters_of Tryz.func87 (by kernel_rfl) rfl _ _)) rfl ((HT2.out v1 hgu).mono ?_)
          rintro e v8 ⟨A', c', rfl, hsub, hg⟩
          have hx : SubV (fun g => b3 + 1 ≤ g ∧ (Value.slice vA k vc).ownBlock ≠ some g) v8 (x.topics.map txt) (.slice A' tn c') := hsub.weak (fun g (h : v1.heap.size ≤ g) => ⟨by have := K0.held.size; omega, fun e => by have := own_ltB K0.held.own e; omega⟩)
          replace K0 := K0.kept hg
          replace hS := hS.grown hg (by simp)
          replace hgu := grown_self hgu hg (by simp)
          refine ⟨_, rfl, hS, ?_⟩
          simp only [Act.put, List.setIfInBounds_toArray, List.set_cons_zero, List.set_cons_succ]
          clear hg hsub
          refine held_two (i := 1) (j := 19) (by kernel_rfl) ?_ ?_
          · refine held_value (some 13) rfl rfl (.slice vA k vc) (exec_load1 43 (.tmp 12) rfl _ rfl _ _ Tryz.underlying43 rfl (K0.held.blk.cell 2)) rfl hS ?_
            simp only [Act.put, List.setIfInBounds_toArray, List.set_cons_zero, List.set_cons_succ]
            refine held_one (i := 19) (by kernel_rfl) ?_
            refine held_enter (some 31) rfl rfl 86 #[.string x.data] (exec_call1 _ (.tmp 30) _ rfl _ rfl (enters_of Tryz.func86 (by kernel_rfl) rfl _ _)) rfl ((textR6_any x.data v8).mono ?_)
            rintro e v15 ⟨rfl, hg⟩
            replace K0 := K0.kept hg
            replace hS := hS.grown hg (by simp)
            replace hgu := grown_self hgu hg (by simp)
            replace hx := SubV.grown hx hg
            refine ⟨_, rfl, hS, ?_⟩
            simp only [Act.put, List.setIfInBounds_toArray, List.set_cons_zero, List.set_cons_succ]
            clear hg
            refine held_one (i := 20) (by kernel_rfl) ?_
            rw [← HML.out] at hx
            have hrow := three_subS (fun g => b3 + 1 ≤ g ∧ (Value.slice vA k vc).ownBlock ≠ some g) v15 x.addr x.data (x.topics.map txt) A' c' ⟨by have := K0.held.size; omega, fun e => by have := own_ltB K0.held.own e; omega⟩ hx
            rw [HML.out] at hrow
            have hg := only_alloc (World.grownBy.refl v15 none) (.cells #[.bool false, .string x.addr, .slice none 0 0, .bool true, .string ⟨#[]⟩, .slice A' tn c', .bool false, .string x.data, .slice none 0 0] 45)
            replace K0 := K0.kept hg
            replace hS := hS.grown hg (by simp)
            replace hgu := grown_self hgu hg (by simp)
            refine held_value (some 32) rfl rfl (.slice (some ⟨v15.heap.size, 0, none⟩) 3 3) (w' := v15.alloc (.cells #[.bool false, .string x.addr, .slice none 0 0, .bool true, .string ⟨#[]⟩, .slice A' tn c', .bool false, .string x.data, .slice none 0 0] 45)) (by go_simp <;> rfl) rfl hS ?_
            simp only [Act.put, List.setIfInBounds_toArray, List.set_cons_zero, List.set_cons_succ]
            obtain ⟨u5z, hu5z⟩ : ∃ z, v15.heap.size = z := ⟨_, rfl⟩
            rw [hu5z] at hrow ⊢
            clear hg hu5z hx
            generalize v15.alloc (.cells #[.bool false, .string x.addr, .slice none 0 0, .bool true, .string ⟨#[]⟩, .slice A' tn c', .bool false, .string x.data, .slice none 0 0] 45) = v16 at *
            refine held_one (i := 21) (by kernel_rfl) ?_
            refine held_enter (some 33) rfl rfl 55 #[.slice (some ⟨u5z, 0, none⟩) 3 3] (exec_call1 _ (.tmp 32) _ rfl _ rfl (enters_of Tryz.func55 (by kernel_rfl) rfl _ _)) rfl ((listR6_any (.slice (some ⟨u5z, 0, none⟩) 3 3) ⟨_, _, _, rfl⟩ v16).mono ?_)
            rintro e v17 ⟨rfl, hg⟩
            replace K0 := K0.kept hg
            replace hS := hS.grown hg (by simp)
            replace hgu := grown_self hgu hg (by simp)
            replace hrow := SubV.grown hrow hg
            refine ⟨_, rfl, hS, ?_⟩
            simp only [Act.put, List.setIfInBounds_toArray, List.set_cons_zero, List.set_cons_succ]
            clear hg
            refine held_one (i := 22) (by kernel_rfl) ?_
            have hg := only_alloc (World.grownBy.refl v17 none) (.cells #[.bool true, .string ⟨#[]⟩, .slice (some ⟨u5z, 0, none⟩) 3 3] 45)
            replace K0 := K0.kept hg
            replace hS := hS.grown hg (by simp)
            replace hgu := grown_self hgu hg (by simp)
            replace hrow := SubV.grown hrow hg
            refine held_value (some 34) rfl rfl (.slice (some ⟨v17.heap.size, 0, none⟩) 1 1) (by go_simp <;> rfl) rfl hS ?_
            simp only [Act.put, List.setIfInBounds_toArray, List.set_cons_zero, List.set_cons_succ]
            clear hg
            obtain ⟨i0, hi, hz0, hzs, hzb⟩ := info_parts item_info
            obtain ⟨v', u2, hrun, hown', hgrow, hiff, hob⟩ := run_append_own_at (P := Tryz.prog) (v17.alloc (.cells #[.bool true, .string ⟨#[]⟩, .slice (some ⟨u5z, 0, none⟩) 3 3] 45)) (b3 + 1) 43 43 45 i0 _ 3 48 Tryz.underlying43 hi hz0 hzs hzb rfl (by decide) (.slice vA k vc) k (itemsV its vs) K0.held.own ⟨v17.heap.size, 0, none⟩ 1 1 [.bool true, .string ⟨#[]⟩, .slice (some ⟨u5z, 0, none⟩) 3 3] rfl (cell_three_new _ _ _ _ _) (by simp [Value.oneCell']) (by simp only [maxLen]; omega) (by omega) K0.held.size
            obtain ⟨g', cap', rfl⟩ := ownsRow_succ hown'
            have K3 := K0.put (logIt x) (.slice (some ⟨u5z, 0, none⟩) 3 3) hrow hown' hgrow hob
            have hS3 := hS.grown hgrow (fun e => by have := ownBlock_ge K0.held.own e.symm; have := HQ3.out; omega)
            refine held_one (i := 23) (by kernel_rfl) ?_
            refine held_value (some 35) rfl rfl (.slice (some ⟨g', 0, none⟩) (k + 1) cap') (exec_append (.tmp 13) (.tmp 34) 43 rfl _ _ _ rfl rfl hrun) rfl hS3 ?_
            simp only [Act.put, List.setIfInBounds_toArray, List.set_cons_zero, List.set_cons_succ]
            refine held_one (i := 24) (by kernel_rfl) ?_
            refine held_value (some 36) rfl rfl (.pointer (some ⟨b3, 2, none⟩)) (by go_simp <;> rfl) rfl hS3 ?_
            simp only [Act.put, List.setIfInBounds_toArray, List.set_cons_zero, List.set_cons_succ]
            refine held_one (i := 25) (by kernel_rfl) ?_
            refine held_store rfl rfl (exec_store1 (.tmp 36) (.tmp 35) rfl rfl rfl (K0.held.blk.grown hgrow (fun e => by have := ownBlock_ge K0.held.own e.symm; omega)) (by simp)) (hS3.set (by have := HQ3.out; omega) _) ?_
            simp only [Act.put, List.setIfInBounds_toArray, List.set_cons_zero, List.set_cons_succ]
            refine wpAnyH_done (by kernel_rfl) ?_ _
            rw [HTK.out] at K3
            clear hrun hown' hgrow hob hiff hrow hS hS3 K0 hgu
            go_wp2_with fail
            go_roundw
            case rel => exact ⟨k + 1, _, _, by go_num, by omega, K3⟩
            case measure => simp [intOf]; omega
          · refine held_enter (some 31) rfl rfl 86 #[.string x.data] (exec_call1 _ (.tmp 30) _ rfl _ rfl (enters_of Tryz.func86 (by kernel_rfl) rfl _ _)) rfl ((textR6_any x.data v8).mono ?_)
            rintro e v14 ⟨rfl, hg⟩
            replace K0 := K0.kept hg
            replace hS := hS.grown hg (by simp)
            replace hgu := grown_self hgu hg (by simp)
            replace hx := SubV.grown hx hg
            refine ⟨_, rfl, hS, ?_⟩
            simp only [Act.put, List.setIfInBounds_toArray, List.set_cons_zero, List.set_cons_succ]
            clear hg
            refine held_two (i := 1) (j := 20) (by kernel_rfl) ?_ ?_
            · refine held_value (some 13) rfl rfl (.slice vA k vc) (exec_load1 43 (.tmp 12) rfl _ rfl _ _ Tryz.underlying43 rfl (K0.held.blk.cell 2)) rfl hS ?_
              simp only [Act.put, List.setIfInBounds_toArray, List.set_cons_zero, List.set_cons_succ]
              refine held_one (i := 20) (by kernel_rfl) ?_
              rw [← HML.out] at hx
              have hrow := three_subS (fun g => b3 + 1 ≤ g ∧ (Value.slice vA k vc).ownBlock ≠ some g) v14 x.addr x.data (x.topics.map txt) A' c' ⟨by have := K0.held.size; omega, fun e => by have := own_ltB K0.held.own e; omega⟩ hx
              rw [HML.out] at hrow
              have hg := only_alloc (World.grownBy.refl v14 none) (.cells #[.bool false, .string x.addr, .slice none 0 0, .bool true, .string ⟨#[]⟩, .slice A' tn c', .bool false, .string x.data, .slice none 0 0] 45)
              replace K0 := K0.kept hg
              replace hS := hS.grown hg (by simp)
              replace hgu := grown_self hgu hg (by simp)
              refine held_value (some 32) rfl rfl (.slice (some ⟨v14.heap.size, 0, none⟩) 3 3) (w' := v14.alloc (.cells #[.bool false, .string x.addr, .slice none 0 0, .bool true, .string ⟨#[]⟩, .slice A' tn c', .bool false, .string x.data, .slice none 0 0] 45)) (by go_simp <;> rfl) rfl hS ?_
              simp only [Act.put, List.setIfInBounds_toArray, List.set_cons_zero, List.set_cons_succ]
              obtain ⟨u5z, hu5z⟩ : ∃ z, v14.heap.size = z := ⟨_, rfl⟩
              rw [hu5z] at hrow ⊢
              clear hg hu5z hx
              generalize v14.alloc (.cells #[.bool false, .string x.addr, .slice none 0 0, .bool true, .string ⟨#[]⟩, .slice A' tn c', .bool false, .string x.data, .slice none 0 0] 45) = v20 at *
              refine held_one (i := 21) (by kernel_rfl) ?_
              refine held_enter (some 33) rfl rfl 55 #[.slice (some ⟨u5z, 0, none⟩) 3 3] (exec_call1 _ (.tmp 32) _ rfl _ rfl (enters_of Tryz.func55 (by kernel_rfl) rfl _ _)) rfl ((listR6_any (.slice (some ⟨u5z, 0, none⟩) 3 3) ⟨_, _, _, rfl⟩ v20).mono ?_)
              rintro e v21 ⟨rfl, hg⟩
              replace K0 := K0.kept hg
              replace hS := hS.grown hg (by simp)
              replace hgu := grown_self hgu hg (by simp)
              replace hrow := SubV.grown hrow hg
              refine ⟨_, rfl, hS, ?_⟩
              simp only [Act.put, List.setIfInBounds_toArray, List.set_cons_zero, List.set_cons_succ]
              clear hg
              refine held_one (i := 22) (by kernel_rfl) ?_
              have hg := only_alloc (World.grownBy.refl v21 none) (.cells #[.bool true, .string ⟨#[]⟩, .slice (some ⟨u5z, 0, none⟩) 3 3] 45)
              replace K0 := K0.kept hg
              replace hS := hS.grown hg (by simp)
              replace hgu := grown_self hgu hg (by simp)
              replace hrow := SubV.grown hrow hg
              refine held_value (some 34) rfl rfl (.slice (some ⟨v21.heap.size, 0, none⟩) 1 1) (by go_simp <;> rfl) rfl hS ?_
              simp only [Act.put, List.setIfInBounds_toArray, List.set_cons_zero, List.set_cons_succ]
              clear hg
              obtain ⟨i0, hi, hz0, hzs, hzb⟩ := info_parts item_info
              obtain ⟨v', u2, hrun, hown', hgrow, hiff, hob⟩ := run_append_own_at (P := Tryz.prog) (v21.alloc (.cells #[.bool true, .string ⟨#[]⟩, .slice (some ⟨u5z, 0, none⟩) 3 3] 45)) (b3 + 1) 43 43 45 i0 _ 3 48 Tryz.underlying43 hi hz0 hzs hzb rfl (by decide) (.slice vA k vc) k (itemsV its vs) K0.held.own ⟨v21.heap.size, 0, none⟩ 1 1 [.bool true, .string ⟨#[]⟩, .slice (some ⟨u5z, 0, none⟩) 3 3] rfl (cell_three_new _ _ _ _ _) (by simp [Value.oneCell']) (by simp only [maxLen]; omega) (by omega) K0.held.size
              obtain ⟨g', cap', rfl⟩ := ownsRow_succ hown'
              have K3 := K0.put (logIt x) (.slice (some ⟨u5z, 0, none⟩) 3 3) hrow hown' hgrow hob
              have hS3 := hS.grown hgrow (fun e => by have := ownBlock_ge K0.held.own e.symm; have := HQ3.out; omega)
              refine held_one (i := 23) (by kernel_rfl) ?_
              refine held_value (some 35) rfl rfl (.slice (some ⟨g', 0, none⟩) (k + 1) cap') (exec_append (.tmp 13) (.tmp 34) 43 rfl _ _ _ rfl rfl hrun) rfl hS3 ?_
              simp only [Act.put, List.setIfInBounds_toArray, List.set_cons_zero, List.set_cons_succ]
              refine held_one (i := 24) (by kernel_rfl) ?_
              refine held_value (some 36) rfl rfl (.pointer (some ⟨b3, 2, none⟩)) (by go_simp <;> rfl) rfl hS3 ?_
              simp only [Act.put, List.setIfInBounds_toArray, List.set_cons_zero, List.set_cons_succ]
              refine held_one (i := 25) (by kernel_rfl) ?_
              refine held_store rfl rfl (exec_store1 (.tmp 36) (.tmp 35) rfl rfl rfl (K0.held.blk.grown hgrow (fun e => by have := ownBlock_ge K0.held.own e.symm; omega)) (by simp)) (hS3.set (by have := HQ3.out; omega) _) ?_
              simp only [Act.put, List.setIfInBounds_toArray, List.set_cons_zero, List.set_cons_succ]
              refine wpAnyH_done (by kernel_rfl) ?_ _
              rw [HTK.out] at K3
              clear hrun hown' hgrow hob hiff hrow hS hS3 K0 hgu
              go_wp2_with fail
              go_roundw
              case rel => exact ⟨k + 1, _, _, by go_num, by omega, K3⟩
              case measure => simp [intOf]; omega
            · rw [← HML.out] at hx
              have hrow := three_subS (fun g => b3 + 1 ≤ g ∧ (Value.slice vA k vc).ownBlock ≠ some g) v14 x.addr x.data (x.topics.map txt) A' c' ⟨by have := K0.held.size; omega, fun e => by have := own_ltB K0.held.own e; omega⟩ hx
              rw [HML.out] at hrow
              have hg := only_alloc (World.grownBy.refl v14 none) (.cells #[.bool false, .string x.addr, .slice none 0 0, .bool true, .string ⟨#[]⟩, .slice A' tn c', .bool false, .string x.data, .slice none 0 0] 45)
              replace K0 := K0.kept hg
              replace hS := hS.grown hg (by simp)
              replace hgu := grown_self hgu hg (by simp)
              refine held_value (some 32) rfl rfl (.slice (some ⟨v14.heap.size, 0, none⟩) 3 3) (w' := v14.alloc (.cells #[.bool false, .string x.addr, .slice none 0 0, .bool true, .string ⟨#[]⟩, .slice A' tn c', .bool false, .string x.data, .slice none 0 0] 45)) (by go_simp <;> rfl) rfl hS ?_
              simp only [Act.put, List.setIfInBounds_toArray, List.set_cons_zero, List.set_cons_succ]
              obtain ⟨u5z, hu5z⟩ : ∃ z, v14.heap.size = z := ⟨_, rfl⟩
              rw [hu5z] at hrow ⊢
              clear hg hu5z hx
              generalize v14.alloc (.cells #[.bool false, .string x.addr, .slice none 0 0, .bool true, .string ⟨#[]⟩, .slice A' tn c', .bool false, .string x.data, .slice none 0 0] 45) = v19 at *
              refine held_two (i := 1) (j := 21) (by kernel_rfl) ?_ ?_
              · refine held_value (some 13) rfl rfl (.slice vA k vc) (exec_load1 43 (.tmp 12) rfl _ rfl _ _ Tryz.underlying43 rfl (K0.held.blk.cell 2)) rfl hS ?_
                simp only [Act.put, List.setIfInBounds_toArray, List.set_cons_zero, List.set_cons_succ]
                refine held_one (i := 21) (by kernel_rfl) ?_
                refine held_enter (some 33) rfl rfl 55 #[.slice (some ⟨u5z, 0, none⟩) 3 3] (exec_call1 _ (.tmp 32) _ rfl _ rfl (enters_of Tryz.func55 (by kernel_rfl) rfl _ _)) rfl ((listR6_any (.slice (some ⟨u5z, 0, none⟩) 3 3) ⟨_, _, _, rfl⟩ v19).mono ?_)
                rintro e v24 ⟨rfl, hg⟩
                replace K0 := K0.kept hg
                replace hS := hS.grown hg (by simp)
                replace hgu := grown_self hgu hg (by simp)
                replace hrow := SubV.grown hrow hg
                refine ⟨_, rfl, hS, ?_⟩
                simp only [Act.put, List.setIfInBounds_toArray, List.set_cons_zero, List.set_cons_succ]
                clear hg
                refine held_one (i := 22) (by kernel_rfl) ?_
                have hg := only_alloc (World.grownBy.refl v24 none) (.cells #[.bool true, .string ⟨#[]⟩, .slice (some ⟨u5z, 0, none⟩) 3 3] 45)
                replace K0 := K0.kept hg
                replace hS := hS.grown hg (by simp)
                replace hgu := grown_self hgu hg (by simp)
                replace hrow := SubV.grown hrow hg
                refine held_value (some 34) rfl rfl (.slice (some ⟨v24.heap.size, 0, none⟩) 1 1) (by go_simp <;> rfl) rfl hS ?_
                simp only [Act.put, List.setIfInBounds_toArray, List.set_cons_zero, List.set_cons_succ]
                clear hg
                obtain ⟨i0, hi, hz0, hzs, hzb⟩ := info_parts item_info
                obtain ⟨v', u2, hrun, hown', hgrow, hiff, hob⟩ := run_append_own_at (P := Tryz.prog) (v24.alloc (.cells #[.bool true, .string ⟨#[]⟩, .slice (some ⟨u5z, 0, none⟩) 3 3] 45)) (b3 + 1) 43 43 45 i0 _ 3 48 Tryz.underlying43 hi hz0 hzs hzb rfl (by decide) (.slice vA k vc) k (itemsV its vs) K0.held.own ⟨v24.heap.size, 0, none⟩ 1 1 [.bool true, .string ⟨#[]⟩, .slice (some ⟨u5z, 0, none⟩) 3 3] rfl (cell_three_new _ _ _ _ _) (by simp [Value.oneCell']) (by simp only [maxLen]; omega) (by omega) K0.held.size
                obtain ⟨g', cap', rfl⟩ := ownsRow_succ hown'
                have K3 := K0.put (logIt x) (.slice (some ⟨u5z, 0, none⟩) 3 3) hrow hown' hgrow hob
                have hS3 := hS.grown hgrow (fun e => by have := ownBlock_ge K0.held.own e.symm; have := HQ3.out; omega)
                refine held_one (i := 23) (by kernel_rfl) ?_
                refine held_value (some 35) rfl rfl (.slice (some ⟨g', 0, none⟩) (k + 1) cap') (exec_append (.tmp 13) (.tmp 34) 43 rfl _ _ _ rfl rfl hrun) rfl hS3 ?_
                simp only [Act.put, List.setIfInBounds_toArray, List.set_cons_zero, List.set_cons_succ]
                refine held_one (i := 24) (by kernel_rfl) ?_
                refine held_value (some 36) rfl rfl (.pointer (some ⟨b3, 2, none⟩)) (by go_simp <;> rfl) rfl hS3 ?_
                simp only [Act.put, List.setIfInBounds_toArray, List.set_cons_zero, List.set_cons_succ]
                refine held_one (i := 25) (by kernel_rfl) ?_
                refine held_store rfl rfl (exec_store1 (.tmp 36) (.tmp 35) rfl rfl rfl (K0.held.blk.grown hgrow (fun e => by have := ownBlock_ge K0.held.own e.symm; omega)) (by simp)) (hS3.set (by have := HQ3.out; omega) _) ?_
                simp only [Act.put, List.setIfInBounds_toArray, List.set_cons_zero, List.set_cons_succ]
                refine wpAnyH_done (by kernel_rfl) ?_ _
                rw [HTK.out] at K3
                clear hrun hown' hgrow hob hiff hrow hS hS3 K0 hgu
                go_wp2_with fail
                go_roundw
                case rel => exact ⟨k + 1, _, _, by go_num, by omega, K3⟩
                case measure => simp [intOf]; omega
              · refine held_enter (some 33) rfl rfl 55 #[.slice (some ⟨u5z, 0, none⟩) 3 3] (exec_call1 _ (.tmp 32) _ rfl _ rfl (enters_of Tryz.func55 (by kernel_rfl) rfl _ _)) rfl ((listR6_any (.slice (some ⟨u5z, 0, none⟩) 3 3) ⟨_, _, _, rfl⟩ v19).mono ?_)
                rintro e v23 ⟨rfl, hg⟩
                replace K0 := K0.kept hg
                replace hS := hS.grown hg (by simp)
                replace hgu := grown_self hgu hg (by simp)
                replace hrow := SubV.grown hrow hg
                refine ⟨_, rfl, hS, ?_⟩
                simp only [Act.put, List.setIfInBounds_toArray, List.set_cons_zero, List.set_cons_succ]
                clear hg
                refine held_two (i := 1) (j := 22) (by kernel_rfl) ?_ ?_
                · refine held_value (some 13) rfl rfl (.slice vA k vc) (exec_load1 43 (.tmp 12) rfl _ rfl _ _ Tryz.underlying43 rfl (K0.held.blk.cell 2)) rfl hS ?_
                  simp only [Act.put, List.setIfInBounds_toArray, List.set_cons_zero, List.set_cons_succ]
                  refine held_one (i := 22) (by kernel_rfl) ?_
                  have hg := only_alloc (World.grownBy.refl v23 none) (.cells #[.bool true, .string ⟨#[]⟩, .slice (some ⟨u5z, 0, none⟩) 3 3] 45)
                  replace K0 := K0.kept hg
                  replace hS := hS.grown hg (by simp)
                  replace hgu := grown_self hgu hg (by simp)
                  replace hrow := SubV.grown hrow hg
                  refine held_value (some 34) rfl rfl (.slice (some ⟨v23.heap.size, 0, none⟩) 1 1) (by go_simp <;> rfl) rfl hS ?_
                  simp only [Act.put, List.setIfInBounds_toArray, List.set_cons_zero, List.set_cons_succ]
                  clear hg
                  obtain ⟨i0, hi, hz0, hzs, hzb⟩ := info_parts item_info
                  obtain ⟨v', u2, hrun, hown', hgrow, hiff, hob⟩ := run_append_own_at (P := Tryz.prog) (v23.alloc (.cells #[.bool true, .string ⟨#[]⟩, .slice (some ⟨u5z, 0, none⟩) 3 3] 45)) (b3 + 1) 43 43 45 i0 _ 3 48 Tryz.underlying43 hi hz0 hzs hzb rfl (by decide) (.slice vA k vc) k (itemsV its vs) K0.held.own ⟨v23.heap.size, 0, none⟩ 1 1 [.bool true, .string ⟨#[]⟩, .slice (some ⟨u5z, 0, none⟩) 3 3] rfl (cell_three_new _ _ _ _ _) (by simp [Value.oneCell']) (by simp only [maxLen]; omega) (by omega) K0.held.size
                  obtain ⟨g', cap', rfl⟩ := ownsRow_succ hown'
                  have K3 := K0.put (logIt x) (.slice (some ⟨u5z, 0, none⟩) 3 3) hrow hown' hgrow hob
                  have hS3 := hS.grown hgrow (fun e => by have := ownBlock_ge K0.held.own e.symm; have := HQ3.out; omega)
                  refine held_one (i := 23) (by kernel_rfl) ?_
                  refine held_value (some 35) rfl rfl (.slice (some ⟨g', 0, none⟩) (k + 1) cap') (exec_append (.tmp 13) (.tmp 34) 43 rfl _ _ _ rfl rfl hrun) rfl hS3 ?_
                  simp only [Act.put, List.setIfInBounds_toArray, List.set_cons_zero, List.set_cons_succ]
                  refine held_one (i := 24) (by kernel_rfl) ?_
                  refine held_value (some 36) rfl rfl (.pointer (some ⟨b3, 2, none⟩)) (by go_simp <;> rfl) rfl hS3 ?_
                  simp only [Act.put, List.setIfInBounds_toArray, List.set_cons_zero, List.set_cons_succ]
                  refine held_one (i := 25) (by kernel_rfl) ?_
                  refine held_store rfl rfl (exec_store1 (.tmp 36) (.tmp 35) rfl rfl rfl (K0.held.blk.grown hgrow (fun e => by have := ownBlock_ge K0.held.own e.symm; omega)) (by simp)) (hS3.set (by have := HQ3.out; omega) _) ?_
                  simp only [Act.put, List.setIfInBounds_toArray, List.set_cons_zero, List.set_cons_succ]
                  refine wpAnyH_done (by kernel_rfl) ?_ _
                  rw [HTK.out] at K3
                  clear hrun hown' hgrow hob hiff hrow hS hS3 K0 hgu
                  go_wp2_with fail
                  go_roundw
                  case rel => exact ⟨k + 1, _, _, by go_num, by omega, K3⟩
                  case measure => simp [intOf]; omega
                · have hg := only_alloc (World.grownBy.refl v23 none) (.cells #[.bool true, .string ⟨#[]⟩, .slice (some ⟨u5z, 0, none⟩) 3 3] 45)
                  replace K0 := K0.kept hg
                  replace hS := hS.grown hg (by simp)
                  replace hgu := grown_self hgu hg (by simp)
                  replace hrow := SubV.grown hrow hg
                  refine held_value (some 34) rfl rfl (.slice (some ⟨v23.heap.size, 0, none⟩) 1 1) (by go_simp <;> rfl) rfl hS ?_
                  simp only [Act.put, List.setIfInBounds_toArray, List.set_cons_zero, List.set_cons_succ]
                  clear hg
                  refine held_one (i := 1) (by kernel_rfl) ?_
                  refine held_value (some 13) rfl rfl (.slice vA k vc) (exec_load1 43 (.tmp 12) rfl _ rfl _ _ Tryz.underlying43 rfl (K0.held.blk.cell 2)) rfl hS ?_
                  simp only [Act.put, List.setIfInBounds_toArray, List.set_cons_zero, List.set_cons_succ]
                  obtain ⟨i0, hi, hz0, hzs, hzb⟩ := info_parts item_info
                  obtain ⟨v', u2, hrun, hown', hgrow, hiff, hob⟩ := run_append_own_at (P := Tryz.prog) (v23.alloc (.cells #[.bool true, .string ⟨#[]⟩, .slice (some ⟨u5z, 0, none⟩) 3 3] 45)) (b3 + 1) 43 43 45 i0 _ 3 48 Tryz.underlying43 hi hz0 hzs hzb rfl (by decide) (.slice vA k vc) k (itemsV its vs) K0.held.own ⟨v23.heap.size, 0, none⟩ 1 1 [.bool true, .string ⟨#[]⟩, .slice (some ⟨u5z, 0, none⟩) 3 3] rfl (cell_three_new _ _ _ _ _) (by simp [Value.oneCell']) (by simp only [maxLen]; omega) (by omega) K0.held.size
                  obtain ⟨g', cap', rfl⟩ := ownsRow_succ hown'
                  have K3 := K0.put (logIt x) (.slice (some ⟨u5z, 0, none⟩) 3 3) hrow hown' hgrow hob
                  have hS3 := hS.grown hgrow (fun e => by have := ownBlock_ge K0.held.own e.symm; have := HQ3.out; omega)
                  refine held_one (i := 23) (by kernel_rfl) ?_
                  refine held_value (some 35) rfl rfl (.slice (some ⟨g', 0, none⟩) (k + 1) cap') (exec_append (.tmp 13) (.tmp 34) 43 rfl _ _ _ rfl rfl hrun) rfl hS3 ?_
                  simp only [Act.put, List.setIfInBounds_toArray, List.set_cons_zero, List.set_cons_succ]
                  refine held_one (i := 24) (by kernel_rfl) ?_
                  refine held_value (some 36) rfl rfl (.pointer (some ⟨b3, 2, none⟩)) (by go_simp <;> rfl) rfl hS3 ?_
                  simp only [Act.put, List.setIfInBounds_toArray, List.set_cons_zero, List.set_cons_succ]
                  refine held_one (i := 25) (by kernel_rfl) ?_
                  refine held_store rfl rfl (exec_store1 (.tmp 36) (.tmp 35) rfl rfl rfl (K0.held.blk.grown hgrow (fun e => by have := ownBlock_ge K0.held.own e.symm; omega)) (by simp)) (hS3.set (by have := HQ3.out; omega) _) ?_
                  simp only [Act.put, List.setIfInBounds_toArray, List.set_cons_zero, List.set_cons_succ]
                  refine wpAnyH_done (by kernel_rfl) ?_ _
                  rw [HTK.out] at K3
                  clear hrun hown' hgrow hob hiff hrow hS hS3 K0 hgu
                  go_wp2_with fail
                  go_roundw
                  case rel => exact ⟨k + 1, _, _, by go_num, by omega, K3⟩
                  case measure => simp [intOf]; omega
    · obtain rfl : k = n := by omega
      have hfin : decide ((k : Int) < (k : Int)) = false := by simp
      have hRB := HRB.out.grown K0.held.grown (by simp)
      obtain ⟨vA, vc, rfl⟩ := own_slice3 K0.held.own
      have hle : w.heap.size ≤ b := by have := HW.out; omega
      have hb3 : b + 1 ≤ b3 := by have := HZB.out; omega
      have ht : ls.take k = ls := List.take_of_length_le (by have := HL.out; omega)
      rw [ht] at K0
      have hS := K0.row
      have HS5 := Lib.hid (SubV.weak (sub_set3 (g := b) hS (by omega) (.bool true) (.string ⟨#[]⟩) (.slice vA k vc)) (fun g (hg : b3 + 1 ≤ g) => (show w.heap.size ≤ g by omega)))
      have HG5 := Lib.hid (only_set (only_set (only_set (grown_self HG.out K0.held.grown (by simp)) (p := ⟨b, 0, none⟩) hle (.bool true)) (p := ⟨b, 1, none⟩) hle (.string ⟨#[]⟩)) (p := ⟨b, 2, none⟩) hle (.slice vA k vc))
      have HB5 := Lib.hid (((hRB.set_ 0 (.bool true)).set_ 1 (.string ⟨#[]⟩)).set_ 2 (.slice vA k vc))
      have c0 := hRB.cell 0; have c1 := hRB.cell 1; have c2 := hRB.cell 2
      have d0 := hRB.frozen 0; have d1 := hRB.frozen 1; have d2 := hRB.frozen 2
      have e0 := K0.held.blk.cell 0; have e1 := K0.held.blk.cell 1; have e2 := K0.held.blk.cell 2
      simp only [List.getElem?_toArray, List.getElem?_cons_zero, List.getElem?_cons_succ] at c0 c1 c2 e0 e1 e2
      clear K0 hle hb3 ht hS hRB hk hlt
      go_wp2_with fail
      refine bodyPost_ret (results_cell1 (fn := Tryz.f53) rfl _ _ _ _ rfl (load_itemF HB5.out)) rfl ?_
      exact ⟨_, _, rfl, HS5.out, HG5.out⟩
end Go.Proofs.YthalohloneojlaaGreatDoor
