/- Merged: RcpD, DerA, DerB, DerC, DerD. -/
import Derived.Test.YthalohloneojlaaGreatDoorMi4
import Derived.Test.YthalohloneojlaaGreatDoorMi5
import Derived.Test.YthalohloneojlaaGreatDoorMi6
import Derived.Test.YthalohloneojlaaGreatDoorMi7
import Derived.Test.YthalohloneojlaaGreatDoorMi10
import Derived.Test.YthalohloneojlaaGreatDoorMi11
/- A log as an item (receipt.log).  Printed by wip/genRcpD.py -/
namespace Go.Proofs.YthalohloneojlaaGreatDoor
open Go.RowKit Go.Shelf
set_option linter.unusedVariables false
set_option linter.unusedSimpArgs false

/-- a row of three items -/
theorem three_subS (S : Nat → Prop) (V : World) (p q : ByteArray) (ys : List Itm) (A : Option Addr) (c : Nat) (hS : S V.heap.size) (h : SubV S V ys (.slice A ys.length c)) :
    SubV S (V.alloc (.cells #[.bool false, .string p, .slice none 0 0, .bool true, .string ⟨#[]⟩, .slice A ys.length c, .bool false, .string q, .slice none 0 0] 45)) [txt p, .mk true ⟨#[]⟩ ys, txt q] (.slice (some ⟨V.heap.size, 0, none⟩) 3 3) := by
  have hb := Blk.new V 45 #[.bool false, .string p, .slice none 0 0, .bool true, .string ⟨#[]⟩, .slice A ys.length c, .bool false, .string q, .slice none 0 0]
  have hg := only_alloc (World.grownBy.refl V none) (.cells #[.bool false, .string p, .slice none 0 0, .bool true, .string ⟨#[]⟩, .slice A ys.length c, .bool false, .string q, .slice none 0 0] 45)
  have hn : ∀ W : World, SubV S W [] (.slice none 0 0) := fun W => .mk [] none 0 [] (fun h => by cases h) (fun i h => by cases h)
  refine .mk [txt p, .mk true ⟨#[]⟩ ys, txt q] (some ⟨V.heap.size, 0, none⟩) 3 [.slice none 0 0, .slice A ys.length c, .slice none 0 0] ?_ ?_
  · intro _
    refine ⟨V.heap.size, 0, rfl, hS, fun i hi => ?_⟩
    match i, hi with
    | 0, _ => exact ⟨hb.cell 0, hb.cell 1, hb.cell 2⟩
    | 1, _ => exact ⟨hb.cell 3, hb.cell 4, hb.cell 5⟩
    | 2, _ => exact ⟨hb.cell 6, hb.cell 7, hb.cell 8⟩
  · intro i hi
    match i, hi with
    | 0, _ => exact hn _
    | 1, _ => exact SubV.grown h hg
    | 2, _ => exact hn _
theorem far3 {W : World} {b : Nat} {v0 v1 v2 x y z : Value} {g : Nat} (h : g ≠ b) (h0 : W.cell? ⟨b, 0, none⟩ = some v0) (h1 : W.cell? ⟨b, 1, none⟩ = some v1) (h2 : W.cell? ⟨b, 2, none⟩ = some v2) :
    (((W.setCell ⟨g, 0, none⟩ x).setCell ⟨g, 1, none⟩ y).setCell ⟨g, 2, none⟩ z).cell? ⟨b, 0, none⟩ = some v0 ∧ (((W.setCell ⟨g, 0, none⟩ x).setCell ⟨g, 1, none⟩ y).setCell ⟨g, 2, none⟩ z).cell? ⟨b, 1, none⟩ = some v1 ∧ (((W.setCell ⟨g, 0, none⟩ x).setCell ⟨g, 1, none⟩ y).setCell ⟨g, 2, none⟩ z).cell? ⟨b, 2, none⟩ = some v2 := by
  refine ⟨?_, ?_, ?_⟩ <;> (rw [World.cell?_setCell_far _ _ _ _ h, World.cell?_setCell_far _ _ _ _ h, World.cell?_setCell_far _ _ _ _ h]; assumption)
/-- a log as an item: its parts -/
def logI (l : LogV) : List Itm := [txt l.addr, .mk true ⟨#[]⟩ (l.topics.map txt), txt l.data]
set_option maxRecDepth 100000 in
set_option maxHeartbeats 4000000 in
theorem logItem_any (l : LogV) (B : Nat) (T : Option Addr) (tc : Nat) (w : World) (h : Reads w B 1 T l.topics.length (l.topics.map Value.string)) (hB : B ≤ w.heap.size) (hn : l.topics.length ≤ 1000) :
    Calls Tryz.prog 26 #[.agg (logC l T tc)] w fun e w' => ∃ A c, e = .returned (.agg #[.bool true, .string ⟨#[]⟩, .slice A 3 c]) ∧ SubV (fun g => w.heap.size ≤ g) w' (logI l) (.slice A 3 c) ∧ w.grownBy w' none := by
  have hG := only_alloc (only_alloc (World.grownBy.refl w none) (.cells (logC l T tc) 40)) (.cells #[.bool false, .string ⟨#[]⟩, .slice none 0 0] 45)
  have hb := (Blk.new w 40 (logC l T tc)).alloc (.cells #[.bool false, .string ⟨#[]⟩, .slice none 0 0] 45)
  have hb2 := Blk.new (w.alloc (.cells (logC l T tc) 40)) 45 #[.bool false, .string ⟨#[]⟩, .slice none 0 0]
  rw [World.size_alloc] at hb2
  have hR := h.grown hG hB (by simp)
  have hB1 := Nat.le_trans hB hG.size
  obtain ⟨ad, xs, da⟩ := l
  simp only [logC, logI] at *
  obtain ⟨n, hl⟩ : ∃ n, xs.length = n := ⟨_, rfl⟩
  rw [hl] at hb hR hG hb2 hB1 hn ⊢
  clear h hB
  go_enter Tryz.func26, Tryz.ntmps26
  go_upto_region 1 with (fail)
  obtain ⟨b, hb0⟩ : ∃ b, w.heap.size = b := ⟨_, rfl⟩
  have HW := Lib.hid hb0
  rw [hb0] at hb hb2 ⊢
  clear hb0
  generalize (w.alloc (.cells #[.string ad, .slice T n tc, .string da] 40)).alloc (.cells #[.bool false, .string ⟨#[]⟩, .slice none 0 0] 45) = w2 at *
  have HR := Lib.hid hR; have HB1 := Lib.hid hB1; have HG := Lib.hid hG; have HB2 := Lib.hid hb2
  have hlt := hb.lt
  have hr0 : ∀ V, Below w2.heap.size w2 V → V.cell? ⟨b, 0, none⟩ = some (.string ad) := fun V hV => (hV.cell (p := ⟨b, 0, none⟩) hlt).trans (hb.cell 0)
  have hr1 : ∀ V, Below w2.heap.size w2 V → V.cell? ⟨b, 1, none⟩ = some (.slice T n tc) := fun V hV => (hV.cell (p := ⟨b, 1, none⟩) hlt).trans (hb.cell 1)
  have hr2 : ∀ V, Below w2.heap.size w2 V → V.cell? ⟨b, 2, none⟩ = some (.string da) := fun V hV => (hV.cell (p := ⟨b, 2, none⟩) hlt).trans (hb.cell 2)
  clear hR hB1 hG hb2 hlt hb
  refine wp_region_held (S := fun W => W.cell? ⟨b, 0, none⟩ = some (.string ad) ∧ W.cell? ⟨b, 1, none⟩ = some (.slice T n tc) ∧ W.cell? ⟨b, 2, none⟩ = some (.string da)) (by kernel_rfl) ?_
  change wpAnyH _ _ _ _ _ _ _ _ w2.drew
  have hS : Below w2.heap.size w2 w2.drew := ⟨rfl, rfl, rfl, Nat.le_refl _, fun _ _ => rfl⟩
  generalize w2.drew = u0 at *
  refine held_take (i := 0) (v := .pointer (some ⟨b, 0, none⟩)) (some 3) rfl (by kernel_rfl) (by kernel_rfl) (by kernel_rfl) (fun _ _ _ h => h) rfl (Or.inl ⟨by rfl, fun W hW => by go_simp⟩) ⟨hr0 _ hS, hr1 _ hS, hr2 _ hS⟩ ?_
  simp only [Act.put, List.setIfInBounds_toArray, List.set_cons_zero, List.set_cons_succ]
  refine held_take (i := 1) (v := .string ad) (some 4) rfl (by kernel_rfl) (by kernel_rfl) (by kernel_rfl) (fun _ _ _ h => h) rfl (Or.inl ⟨by rfl, fun W hW => by have q := hW.1; go_simp⟩) ⟨hr0 _ hS, hr1 _ hS, hr2 _ hS⟩ ?_
  simp only [Act.put, List.setIfInBounds_toArray, List.set_cons_zero, List.set_cons_succ]
  refine held_take (i := 3) (v := .pointer (some ⟨b, 1, none⟩)) (some 6) rfl (by kernel_rfl) (by kernel_rfl) (by kernel_rfl) (fun _ _ _ h => h) rfl (Or.inl ⟨by rfl, fun W hW => by go_simp⟩) ⟨hr0 _ hS, hr1 _ hS, hr2 _ hS⟩ ?_
  simp only [Act.put, List.setIfInBounds_toArray, List.set_cons_zero, List.set_cons_succ]
  refine held_take (i := 4) (v := .slice T n tc) (some 7) rfl (by kernel_rfl) (by kernel_rfl) (by kernel_rfl) (fun _ _ _ h => h) rfl (Or.inl ⟨by rfl, fun W hW => by have q := hW.2.1; go_simp⟩) ⟨hr0 _ hS, hr1 _ hS, hr2 _ hS⟩ ?_
  simp only [Act.put, List.setIfInBounds_toArray, List.set_cons_zero, List.set_cons_succ]
  refine held_take (i := 6) (v := .pointer (some ⟨b, 2, none⟩)) (some 9) rfl (by kernel_rfl) (by kernel_rfl) (by kernel_rfl) (fun _ _ _ h => h) rfl (Or.inl ⟨by rfl, fun W hW => by go_simp⟩) ⟨hr0 _ hS, hr1 _ hS, hr2 _ hS⟩ ?_
  simp only [Act.put, List.setIfInBounds_toArray, List.set_cons_zero, List.set_cons_succ]
  refine held_take (i := 7) (v := .string da) (some 10) rfl (by kernel_rfl) (by kernel_rfl) (by kernel_rfl) (fun _ _ _ h => h) rfl (Or.inl ⟨by rfl, fun W hW => by have q := hW.2.2; go_simp⟩) ⟨hr0 _ hS, hr1 _ hS, hr2 _ hS⟩ ?_
  simp only [Act.put, List.setIfInBounds_toArray, List.set_cons_zero, List.set_cons_succ]
  refine held_one (i := 2) (by kernel_rfl) ?_
  refine held_enter (some 5) rfl rfl 46 #[.string ad] (exec_call1 _ (.tmp 4) _ rfl _ rfl (enters_of Tryz.func46 (by kernel_rfl) rfl _ _)) rfl ((text_any ad u0).mono ?_)
  rintro e u1 ⟨rfl, hg⟩
  replace hS : Below w2.heap.size w2 u1 := hS.trans ((below_of_grown hg).mono hS.size)
  refine ⟨_, rfl, ⟨hr0 _ hS, hr1 _ hS, hr2 _ hS⟩, ?_⟩
  simp only [Act.put, List.setIfInBounds_toArray, List.set_cons_zero, List.set_cons_succ]
  clear hg
  have hR1 := HR.out.grown (grown_of_below hS) HB1.out (by simp)
  refine held_one (i := 5) (by kernel_rfl) ?_
  refine held_enter (some 8) rfl rfl 48 #[.slice T n tc, .func (.func 46) #[] #[]] (exec_call2 _ (.tmp 7) (.func 46) _ rfl _ _ rfl rfl (enters_of Tryz.func48 (by kernel_rfl) rfl _ _)) rfl ((writtenS_any B T n tc xs u1 hR1 (Nat.le_trans HB1.out hS.size) hn).mono ?_)
  rintro e u2 ⟨A', c', rfl, hsub, hg⟩
  replace hsub : SubV (fun q => w2.heap.size ≤ q) u2 (xs.map txt) (.slice A' n c') := hsub.weak (fun q (hq : u1.heap.size ≤ q) => Nat.le_trans hS.size hq)
  replace hS : Below w2.heap.size w2 u2 := hS.trans ((below_of_grown hg).mono hS.size)
  refine ⟨_, rfl, ⟨hr0 _ hS, hr1 _ hS, hr2 _ hS⟩, ?_⟩
  simp only [Act.put, List.setIfInBounds_toArray, List.set_cons_zero, List.set_cons_succ]
  clear hg hR1
  refine held_one (i := 8) (by kernel_rfl) ?_
  refine held_enter (some 11) rfl rfl 46 #[.string da] (exec_call1 _ (.tmp 10) _ rfl _ rfl (enters_of Tryz.func46 (by kernel_rfl) rfl _ _)) rfl ((text_any da u2).mono ?_)
  rintro e u3 ⟨rfl, hg⟩
  replace hsub := SubV.grown hsub hg
  replace hS : Below w2.heap.size w2 u3 := hS.trans ((below_of_grown hg).mono hS.size)
  refine ⟨_, rfl, ⟨hr0 _ hS, hr1 _ hS, hr2 _ hS⟩, ?_⟩
  simp only [Act.put, List.setIfInBounds_toArray, List.set_cons_zero, List.set_cons_succ]
  clear hg
  have hml : (xs.map txt).length = n := by rw [List.length_map]; exact hl
  rw [← hml] at hsub
  have hrow := three_subS (fun q => w2.heap.size ≤ q) u3 ad da (xs.map txt) A' c' hS.size hsub
  rw [hml] at hrow
  clear hsub
  replace hS := hS.alloc hS.size (.cells #[.bool false, .string ad, .slice none 0 0, .bool true, .string ⟨#[]⟩, .slice A' n c', .bool false, .string da, .slice none 0 0] 45)
  refine held_one (i := 9) (by kernel_rfl) ?_
  refine held_value (some 12) rfl rfl (.slice (some ⟨u3.heap.size, 0, none⟩) 3 3) (w' := u3.alloc (.cells #[.bool false, .string ad, .slice none 0 0, .bool true, .string ⟨#[]⟩, .slice A' n c', .bool false, .string da, .slice none 0 0] 45)) (by go_simp <;> rfl) rfl ⟨hr0 _ hS, hr1 _ hS, hr2 _ hS⟩ ?_
  simp only [Act.put, List.setIfInBounds_toArray, List.set_cons_zero, List.set_cons_succ]
  obtain ⟨z, hz⟩ : ∃ z, u3.heap.size = z := ⟨_, rfl⟩
  rw [hz] at hrow
  generalize u3.alloc (.cells #[.bool false, .string ad, .slice none 0 0, .bool true, .string ⟨#[]⟩, .slice A' n c', .bool false, .string da, .slice none 0 0] 45) = u4 at *
  refine held_one (i := 10) (by kernel_rfl) ?_
  refine held_enter (some 13) rfl rfl 22 #[.slice (some ⟨z, 0, none⟩) 3 3] (exec_call1 _ (.tmp 12) _ rfl _ (by rw [← hz]; rfl) (enters_of Tryz.func22 (by kernel_rfl) rfl _ _)) rfl ((list_any (.slice (some ⟨z, 0, none⟩) 3 3) ⟨_, _, _, rfl⟩ u4).mono ?_)
  rintro e u5 ⟨rfl, hg⟩
  replace hrow := SubV.grown hrow hg
  replace hS : Below w2.heap.size w2 u5 := hS.trans ((below_of_grown hg).mono hS.size)
  refine ⟨_, rfl, ⟨hr0 _ hS, hr1 _ hS, hr2 _ hS⟩, ?_⟩
  simp only [Act.put, List.setIfInBounds_toArray, List.set_cons_zero, List.set_cons_succ]
  clear hg
  have hb5 := HB2.out.below hS (by have := HB2.out.lt; omega)
  have hbx : w.heap.size ≤ b + 1 := by have := HW.out; omega
  have hlt2 := HB2.out.lt
  have T2 := Lib.hid (blk_set3 hb5 (.bool true) (.string ⟨#[]⟩) (.slice (some ⟨z, 0, none⟩) 3 3))
  have T4 := Lib.hid (only_set3 (grown_self HG.out (grown_of_below hS) (by simp)) hbx (.bool true) (.string ⟨#[]⟩) (.slice (some ⟨z, 0, none⟩) 3 3))
  have T5 := Lib.hid ((sub_set3 (g := b + 1) hrow (by omega) (.bool true) (.string ⟨#[]⟩) (.slice (some ⟨z, 0, none⟩) 3 3)).weak (fun q (hq : w2.heap.size ≤ q) => (show w.heap.size ≤ q by have := HW.out; omega)))
  refine held_one (i := 11) (by kernel_rfl) ?_
  refine held_store rfl rfl (exec_store3 (.tmp 2) (.tmp 13) rfl rfl rfl hb5 (by simp)) (far3 (by omega) (hr0 _ hS) (hr1 _ hS) (hr2 _ hS)) ?_
  simp only [Act.put, List.setIfInBounds_toArray, List.set_cons_zero, List.set_cons_succ]
  refine wpAnyH_done (by kernel_rfl) ?_ _
  clear hS hrow hb5 hr0 hr1 hr2 hz hml
  generalize ((u5.setCell ⟨b + 1, 0, none⟩ (.bool true)).setCell ⟨b + 1, 1, none⟩ (.string ⟨#[]⟩)).setCell ⟨b + 1, 2, none⟩ (.slice (some ⟨z, 0, none⟩) 3 3) = u6 at *
  go_wp2_with fail
  refine bodyPost_ret (results_cell1 (fn := Tryz.f26) rfl _ _ _ _ rfl (load_itemF T2.out)) rfl ?_
  exact ⟨_, _, rfl, T5.out, T4.out⟩
end Go.Proofs.YthalohloneojlaaGreatDoor
/- The document's decoder: a head whose length stands in bytes, a head, whatever is behind it (rescriptref05.length, raw). -/
namespace Go.Proofs.YthalohloneojlaaGreatDoor
open Go.RowKit Go.Shelf
set_option linter.unusedVariables false
set_option linter.unusedSimpArgs false

/-- what a head tells, as a value -/
abbrev toldC (F N : Int) (L : Bool) (E : Int) : Array Value := #[.int .i64 F, .int .i64 N, .bool L, .int .i64 E]
theorem load_told {w : World} {g : Nat} {a b c d : Value} (hg : Blk w g 176 #[a, b, c, d]) : (loadVar 176 ⟨g, 0, none⟩).run Tryz.prog w = .ok (.agg #[a, b, c, d]) w :=
  run_loadVar_row w g 176 176 _ (0, 0) _ hg Tryz.underlying176 rfl (by kernel_rfl)
def outE (E : Int) (n : Nat) : Int := if E = 0 then (n : Int) else 0

set_option maxRecDepth 100000 in
set_option maxHeartbeats 2000000 in
theorem length05_any (s : ByteArray) (a m : Nat) (ha : a < s.size) (hs : s.size ≤ 9223372036854770000) (hm : 1 ≤ m) (hm8 : m ≤ 8) (w : World) :
    Calls Tryz.prog 150 #[.string s, .int .i64 (a : Int), .int .i64 (m : Int)] w fun e w' => e = .returned (.agg (toldC (outE (lengthE s.data.toList a m) (a + 1 + m)) (outE (lengthE s.data.toList a m) (lenB s.data.toList a m)) false (lengthE s.data.toList a m))) ∧ w.grownBy w' none := by
  obtain ⟨l, hl⟩ : ∃ l, s.data.toList = l := ⟨_, rfl⟩
  have hlz : l.length = s.size := by rw [← hl, ba_len]
  rw [hl]
  have HS := Lib.hid hl; have HZ := Lib.hid hlz
  clear hl hlz
  have v1 : IntKind.i64.wrap ((a : Int) + 1) = (a : Int) + 1 := IntWalk.i64_in _ (by omega)
  have v2 : IntKind.i64.wrap ((a : Int) + 1 + (m : Int)) = (a : Int) + 1 + (m : Int) := IntWalk.i64_in _ (by omega)
  by_cases h1 : 3 < m
  · have hE : lengthE l a m = 5 := by unfold lengthE; rw [if_pos h1]
    rw [hE]
    have d1 : decide ((3 : Int) < (m : Int)) = true := decide_eq_true (by omega)
    have d1' : decide (3 < m) = true := decide_eq_true h1
    clear hE
    go_enter Tryz.func150, Tryz.ntmps150
    go_wp2_with fail
    refine bodyPost_ret (results_cell1 (fn := Tryz.f150) rfl _ _ _ _ rfl (load_told (Blk.new w _ _))) rfl ?_
    exact ⟨by simp [outE, toldC], only_alloc (World.grownBy.refl _ _) _⟩
  have d1 : decide ((3 : Int) < (m : Int)) = false := decide_eq_false (by omega)
  have d1' : decide (3 < m) = false := decide_eq_false h1
  by_cases h2 : s.size < a + 1 + m
  · have hE : lengthE l a m = 3 := by unfold lengthE; rw [if_neg h1, if_pos (by have := HZ.out; omega)]
    rw [hE]
    have d2 : decide ((s.size : Int) < (a : Int) + 1 + (m : Int)) = true := decide_eq_true (by omega)
    have d2' : (s.size : Int) < (a : Int) + 1 + (m : Int) := by omega
    clear hE
    go_enter Tryz.func150, Tryz.ntmps150
    go_wp2_with fail
    refine bodyPost_ret (results_cell1 (fn := Tryz.f150) rfl _ _ _ _ rfl (load_told (Blk.new w _ _))) rfl ?_
    exact ⟨by simp [outE, toldC], only_alloc (World.grownBy.refl _ _) _⟩
  have d2 : decide ((s.size : Int) < (a : Int) + 1 + (m : Int)) = false := decide_eq_false (by omega)
  have d2' : ¬ ((s.size : Int) < (a : Int) + 1 + (m : Int)) := by omega
  have hE0 : lengthE l a m = if (l.getD (a + 1) 0).toNat = 0 ∨ lenB l a m < 56 then 8 else 0 := by unfold lengthE; rw [if_neg h1, if_neg (by have := HZ.out; omega)]
  have hl1 : a + 1 < l.length := by have := HZ.out; omega
  have hid1 : ∀ W, (Instr.index 9 (.string s) (.int .i64 ((a : Int) + 1))).run Tryz.prog W = .ok (.int .u8 ((l.getD (a + 1) 0).toNat : Int)) W := fun W => by
    have := idx_str s (a + 1) (l.getD (a + 1) 0) (by rw [HS.out]; exact at_getD 0 hl1) W
    simpa using this
  have hv := lenB_lt l a m (by omega)
  have hcl := (l.getD (a + 1) 0).toNat_lt
  obtain ⟨c, hc⟩ : ∃ c, (l.getD (a + 1) 0).toNat = c := ⟨_, rfl⟩
  obtain ⟨V, hV⟩ : ∃ v, lenB l a m = v := ⟨_, rfl⟩
  rw [hc] at hE0 hcl hid1
  rw [hV] at hE0 hv ⊢
  obtain ⟨E, hE⟩ : ∃ e, lengthE l a m = e := ⟨_, rfl⟩
  rw [hE] at hE0 ⊢
  have HE0 := Lib.hid hE0; have HV := Lib.hid hV
  clear hE0 hE hV hc
  go_enter Tryz.func150, Tryz.ntmps150
  go_wp2_with fail
  go_loopw [7, 8] (fun n i wr => ∃ k : Nat, i = .int .i64 (k : Int) ∧ k ≤ m ∧ n = .int .i64 (lenB l a k : Nat) ∧ wr = w.alloc (.cells #[.int .i64 0, .int .i64 0, .bool false, .int .i64 0] 176)) (fun _ i _ => m - (intOf i).toNat)
  case atStart => exact ⟨0, rfl, by omega, by simp [lenB, valL], by first | rfl | trivial⟩
  case round =>
    obtain ⟨k, rfl, hk, rfl, rfl⟩ := hrel
    by_cases hlt : k < m
    · have hl1 : a + 1 + k < l.length := by have := HZ.out; omega
      have hsn := lenB_succ l a k hl1
      have hid : ∀ W, (Instr.index 9 (.string s) (.int .i64 ((a : Int) + 1 + (k : Int)))).run Tryz.prog W = .ok (.int .u8 ((l.getD (a + 1 + k) 0).toNat : Int)) W := fun W => by
        have := idx_str s (a + 1 + k) (l.getD (a + 1 + k) 0) (by rw [HS.out]; exact at_getD 0 hl1) W
        simpa using this
      have hv := lenB_lt l a k (by omega)
      have hv2 := lenB_lt l a (k + 1) (by omega)
      generalize l.getD (a + 1 + k) 0 = c at *
      have hcl := c.toNat_lt
      obtain ⟨V1, hV1⟩ : ∃ v, lenB l a (k + 1) = v := ⟨_, rfl⟩
      rw [hV1] at hsn hv2
      have HV := Lib.hid hV1
      clear hV1 hl1
      generalize lenB l a k = V at *
      have b0 : IntKind.i64.wrap ((V : Int) * 256) = (V : Int) * 256 := IntWalk.i64_in _ (by omega)
      have b1 : IntKind.i64.wrap (c.toNat : Int) = (c.toNat : Int) := IntWalk.i64_in _ (by omega)
      have b2 : IntKind.i64.wrap ((V : Int) * 256 + (c.toNat : Int)) = (V : Int) * 256 + (c.toNat : Int) := IntWalk.i64_in _ (by omega)
      have HBT := Lib.hid (show (V : Int) * 256 + (c.toNat : Int) = (V1 : Int) by omega)
      have e2 : IntKind.i64.wrap ((a : Int) + 1 + (k : Int)) = (a : Int) + 1 + (k : Int) := IntWalk.i64_in _ (by omega)
      clear hid1 hsn
      go_wp2_with fail
      exact ⟨⟨k + 1, by simp, by omega, by rw [HBT.out, HV.out], by first | rfl | trivial⟩, by simp [intOf]; omega⟩
    · obtain rfl : k = m := by omega
      have q1 : decide ((k : Int) < (k : Int)) = false := by simp
      rw [HV.out]
      have hE1 := HE0.out
      clear HE0
      by_cases h3 : c = 0
      · rw [if_pos (.inl h3)] at hE1
        subst hE1
        subst h3
        go_wp2_with fail
        refine bodyPost_ret (results_cell1 (fn := Tryz.f150) rfl _ _ _ _ rfl (load_told (Blk.new w _ _))) rfl ?_
        exact ⟨by simp [outE, toldC], only_alloc (World.grownBy.refl _ _) _⟩
      · have d3 : ((c : Int) == 0) = false := by simp; omega
        by_cases h4 : V < 56
        · rw [if_pos (.inr h4)] at hE1
          subst hE1
          have d4 : decide ((V : Int) < 56) = true := decide_eq_true (by omega)
          have d4' : decide (V < 56) = true := decide_eq_true h4
          clear h3
          go_wp2_with fail
          refine bodyPost_ret (results_cell1 (fn := Tryz.f150) rfl _ _ _ _ rfl (load_told (Blk.new w _ _))) rfl ?_
          exact ⟨by simp [outE, toldC], only_alloc (World.grownBy.refl _ _) _⟩
        · rw [if_neg (by omega)] at hE1
          subst hE1
          have d4 : decide ((V : Int) < 56) = false := decide_eq_false (by omega)
          have d4' : decide (V < 56) = false := decide_eq_false h4
          clear h3
          go_wp2_with fail
          refine bodyPost_ret (results_cell1 (fn := Tryz.f150) rfl _ _ _ _ rfl (load_told (Blk.new w _ _))) rfl ?_
          exact ⟨by simp [outE, toldC], only_alloc (World.grownBy.refl _ _) _⟩

set_option maxRecDepth 100000 in
set_option maxHeartbeats 2000000 in
theorem raw05_any (s : ByteArray) (a : Nat) (ha : a < s.size) (hs : s.size ≤ 9223372036854770000) (w : World) :
    Calls Tryz.prog 132 #[.string s, .int .i64 (a : Int)] w fun e w' => e = .returned (.agg (toldC (outE (rawE s.data.toList a) (rawFrom s.data.toList a)) (outE (rawE s.data.toList a) (rawN s.data.toList a)) false (rawE s.data.toList a))) ∧ w.grownBy w' none := by
  obtain ⟨l, hl⟩ : ∃ l, s.data.toList = l := ⟨_, rfl⟩
  have hlz : l.length = s.size := by rw [← hl, ba_len]
  have hlen := fun m h2 h3 W => length05_any s a m ha hs h2 h3 W
  rw [hl] at hlen ⊢
  have hal : a < l.length := by omega
  have hid := fun W => idx_str s a (l.getD a 0) (by rw [hl]; exact at_getD 0 hal) W
  change ∀ W, (Instr.index 9 (.string s) (.int .i64 (a : Int))).run Tryz.prog W = .ok (.int .u8 ((headC l a : Nat) : Int)) W at hid
  have hcl := headC_lt l a
  have hcE : rawE l a = if headC l a < 128 then 0 else if (headC l a - 128) % 64 < 56 then 0 else lengthE l a ((headC l a - 128) % 64 - 55) := rfl
  have hcF : rawFrom l a = if headC l a < 128 then a else if (headC l a - 128) % 64 < 56 then a + 1 else a + 1 + ((headC l a - 128) % 64 - 55) := rfl
  have hcN : rawN l a = if headC l a < 128 then 1 else if (headC l a - 128) % 64 < 56 then (headC l a - 128) % 64 else lenB l a ((headC l a - 128) % 64 - 55) := rfl
  obtain ⟨c, hc⟩ : ∃ c, headC l a = c := ⟨_, rfl⟩
  rw [hc] at hid hcl hcE hcF hcN
  have HID := Lib.hid hid
  clear hl hc
  have v0 : IntKind.i64.wrap (c : Int) = (c : Int) := IntWalk.i64_in _ (by omega)
  have v1 : IntKind.i64.wrap ((a : Int) + 1) = (a : Int) + 1 := IntWalk.i64_in _ (by omega)
  by_cases h3 : c < 128
  · rw [if_pos h3] at hcE hcF hcN
    rw [hcE, hcF, hcN]
    have d3 : decide ((c : Int) < 128) = true := decide_eq_true (by omega)
    have d3' : decide (c < 128) = true := decide_eq_true h3
    clear hcE hcF hcN hlen hlz h3
    go_enter Tryz.func132, Tryz.ntmps132
    go_wp2_with fail
    refine bodyPost_ret (results_cell1 (fn := Tryz.f132) rfl _ _ _ _ rfl (load_told (Blk.new w _ _))) rfl ?_
    exact ⟨by simp [outE, toldC], only_alloc (World.grownBy.refl _ _) _⟩
  rw [if_neg h3] at hcE hcF hcN
  have d3 : decide ((c : Int) < 128) = false := decide_eq_false (by omega)
  have d3' : decide (c < 128) = false := decide_eq_false h3
  by_cases h4 : c < 184
  · rw [if_pos (by omega)] at hcE hcF hcN
    have e : (c - 128) % 64 = c - 128 := by omega
    rw [e] at hcN
    rw [hcE, hcF, hcN]
    have d4 : decide ((c : Int) < 184) = true := decide_eq_true (by omega)
    have d4' : decide (c < 184) = true := decide_eq_true h4
    have v2 : IntKind.i64.wrap ((c : Int) - 128) = (c : Int) - 128 := IntWalk.i64_in _ (by omega)
    have HC := Lib.hid (show ((c - 128 : Nat) : Int) = (c : Int) - 128 by omega)
    clear hcE hcF hcN hlen hlz h3 h4 e
    go_enter Tryz.func132, Tryz.ntmps132
    go_wp2_with fail
    refine bodyPost_ret (results_cell1 (fn := Tryz.f132) rfl _ _ _ _ rfl (load_told (Blk.new w _ _))) rfl ?_
    exact ⟨by simp [outE, toldC, HC.out], only_alloc (World.grownBy.refl _ _) _⟩
  have d4 : decide ((c : Int) < 184) = false := decide_eq_false (by omega)
  have d4' : decide (c < 184) = false := decide_eq_false h4
  have hb0 := Blk.new w 176 #[.int .i64 0, .int .i64 0, .bool false, .int .i64 0]
  have hG0 : w.grownBy (w.alloc (.cells #[.int .i64 0, .int .i64 0, .bool false, .int .i64 0] 176)) none := only_alloc (World.grownBy.refl _ _) _
  by_cases h5 : c < 192
  · rw [if_neg (by omega)] at hcE hcF hcN
    obtain ⟨m, hm⟩ : ∃ m, (c - 128) % 64 - 55 = m := ⟨_, rfl⟩
    rw [hm] at hcE hcF hcN
    rw [hcE, hcF, hcN]
    have hl := hlen m (by omega) (by omega)
    have v2 : IntKind.i64.wrap ((c : Int) - 183) = (m : Int) := by rw [IntWalk.i64_in _ (by omega)]; omega
    have d5 : decide ((c : Int) < 192) = true := decide_eq_true (by omega)
    have d5' : decide (c < 192) = true := decide_eq_true h5
    generalize lengthE l a m = e0 at *
    generalize outE e0 (a + 1 + m) = FF at *
    generalize outE e0 (lenB l a m) = NN at *
    have HLN := Lib.hid hl
    clear hcE hcF hcN hlen hlz h3 h4 h5 hm hl
    go_enter Tryz.func132, Tryz.ntmps132
    go_wp2_with fail
    refine (HLN.out _).mono ?_
    rintro e w2 ⟨rfl, hg⟩
    have y0 := hb0.grown hg (by simp)
    have HG := Lib.hid (grown_self hG0 hg (by simp))
    have k0 := y0.cell 0; have k1 := y0.cell 1; have k2 := y0.cell 2; have k3 := y0.cell 3
    have f0 := y0.frozen 0; have f1 := y0.frozen 1; have f2 := y0.frozen 2; have f3 := y0.frozen 3
    simp only [List.getElem?_toArray, List.getElem?_cons_zero, List.getElem?_cons_succ] at k0 k1 k2 k3
    have y4 := blk_set4 y0 (.int .i64 FF) (.int .i64 NN) (.bool false) (.int .i64 e0)
    have hG4 := only_set4 HG.out (Nat.le_refl _) (.int .i64 FF) (.int .i64 NN) (.bool false) (.int .i64 e0)
    have Y4 := Lib.hid y4; have HG4 := Lib.hid hG4
    clear hg hb0 hG0 y0 y4 hG4
    go_wp2_with fail
    refine bodyPost_ret (results_cell1 (fn := Tryz.f132) rfl _ _ _ _ rfl (load_told Y4.out)) rfl ?_
    exact ⟨rfl, HG4.out⟩
  have d5 : decide ((c : Int) < 192) = false := decide_eq_false (by omega)
  have d5' : decide (c < 192) = false := decide_eq_false h5
  by_cases h6 : c < 248
  · rw [if_pos (by omega)] at hcE hcF hcN
    have e : (c - 128) % 64 = c - 192 := by omega
    rw [e] at hcN
    rw [hcE, hcF, hcN]
    have d6 : decide ((c : Int) < 248) = true := decide_eq_true (by omega)
    have d6' : decide (c < 248) = true := decide_eq_true h6
    have v2 : IntKind.i64.wrap ((c : Int) - 192) = (c : Int) - 192 := IntWalk.i64_in _ (by omega)
    have HC := Lib.hid (show ((c - 192 : Nat) : Int) = (c : Int) - 192 by omega)
    clear hcE hcF hcN hlen hlz h3 h4 h5 h6 e hb0 hG0
    go_enter Tryz.func132, Tryz.ntmps132
    go_wp2_with fail
    refine bodyPost_ret (results_cell1 (fn := Tryz.f132) rfl _ _ _ _ rfl (load_told (Blk.new w _ _))) rfl ?_
    exact ⟨by simp [outE, toldC, HC.out], only_alloc (World.grownBy.refl _ _) _⟩
  · have d6 : decide ((c : Int) < 248) = false := decide_eq_false (by omega)
    have d6' : decide (c < 248) = false := decide_eq_false h6
    rw [if_neg (by omega)] at hcE hcF hcN
    obtain ⟨m, hm⟩ : ∃ m, (c - 128) % 64 - 55 = m := ⟨_, rfl⟩
    rw [hm] at hcE hcF hcN
    rw [hcE, hcF, hcN]
    have hl := hlen m (by omega) (by omega)
    have v2 : IntKind.i64.wrap ((c : Int) - 247) = (m : Int) := by rw [IntWalk.i64_in _ (by omega)]; omega
    generalize lengthE l a m = e0 at *
    generalize outE e0 (a + 1 + m) = FF at *
    generalize outE e0 (lenB l a m) = NN at *
    have HLN := Lib.hid hl
    clear hcE hcF hcN hlen hlz h3 h4 h5 h6 hm hl
    go_enter Tryz.func132, Tryz.ntmps132
    go_wp2_with fail
    refine (HLN.out _).mono ?_
    rintro e w2 ⟨rfl, hg⟩
    have y0 := hb0.grown hg (by simp)
    have HG := Lib.hid (grown_self hG0 hg (by simp))
    have k0 := y0.cell 0; have k1 := y0.cell 1; have k2 := y0.cell 2; have k3 := y0.cell 3
    have f0 := y0.frozen 0; have f1 := y0.frozen 1; have f2 := y0.frozen 2; have f3 := y0.frozen 3
    simp only [List.getElem?_toArray, List.getElem?_cons_zero, List.getElem?_cons_succ] at k0 k1 k2 k3
    have y4 := blk_set4 y0 (.int .i64 FF) (.int .i64 NN) (.bool false) (.int .i64 e0)
    have hG4 := only_set4 HG.out (Nat.le_refl _) (.int .i64 FF) (.int .i64 NN) (.bool false) (.int .i64 e0)
    have Y4 := Lib.hid y4; have HG4 := Lib.hid hG4
    clear hg hb0 hG0 y0 y4 hG4
    go_wp2_with fail
    refine bodyPost_ret (results_cell1 (fn := Tryz.f132) rfl _ _ _ _ rfl (load_told Y4.out)) rfl ?_
    exact ⟨rfl, HG4.out⟩
end Go.Proofs.YthalohloneojlaaGreatDoor
/- The document's decoder: what a head tells (rescriptref05.Of). -/
namespace Go.Proofs.YthalohloneojlaaGreatDoor
open Go.RowKit Go.Shelf
set_option linter.unusedVariables false
set_option linter.unusedSimpArgs false

set_option maxRecDepth 100000 in
set_option maxHeartbeats 4000000 in
theorem of05_any (s : ByteArray) (a : Nat) (ha : a ≤ s.size) (hs : s.size ≤ 9223372036854770000) (w : World) :
    Calls Tryz.prog 105 #[.string s, .int .i64 (a : Int)] w fun e w' => e = .returned (.agg (toldC (lookFrom s.data.toList a : Nat) (lookN s.data.toList a : Nat) (lookL s.data.toList a) (lookE s.data.toList a))) ∧ w.grownBy w' none := by
  obtain ⟨l, hl⟩ : ∃ l, s.data.toList = l := ⟨_, rfl⟩
  have hlz : l.length = s.size := by rw [← hl, ba_len]
  have d1 : decide ((a : Int) < 0) = false := decide_eq_false (by omega)
  have d1' : decide ((s.size : Int) < (a : Int)) = false := decide_eq_false (by omega)
  have d1'' : decide (s.size < a) = false := decide_eq_false (by omega)
  have h1 : ¬ ((a : Int) < 0 ∨ (l.length : Int) < (a : Int)) := by omega
  have hraw := fun h W => raw05_any s a h hs W
  rw [hl] at hraw ⊢
  have hb0 := Blk.new w 176 #[.int .i64 0, .int .i64 0, .bool false, .int .i64 0]
  have hG0 : w.grownBy (w.alloc (.cells #[.int .i64 0, .int .i64 0, .bool false, .int .i64 0] 176)) none := only_alloc (World.grownBy.refl _ _) _
  by_cases h2 : a = s.size
  · have hE : lookE l (a : Int) = 3 := by unfold lookE; rw [if_neg h1, if_pos (by omega)]
    obtain ⟨b1, b2, b3⟩ := look_bad hE (by decide)
    rw [hE, b1, b2, b3]
    clear hE b1 b2 b3 hlz hraw h1 hb0 hG0
    subst h2
    go_enter Tryz.func105, Tryz.ntmps105
    go_wp2_with fail
    refine bodyPost_ret (results_cell1 (fn := Tryz.f105) rfl _ _ _ _ rfl (load_told (Blk.new w _ _))) rfl ?_
    exact ⟨by simp [toldC], only_alloc (World.grownBy.refl _ _) _⟩
  have hal : a < l.length := by omega
  have d2 : ((a : Int) == (s.size : Int)) = false := by simp; omega
  have d2' : (a == s.size) = false := by simp; omega
  have hE0 : lookE l (a : Int) = if rawE l a ≠ 0 then rawE l a else if l.length < rawFrom l a + rawN l a then 3 else if headC l a = 129 ∧ headC l (a + 1) < 128 then 8 else 0 := by
    unfold lookE; rw [if_neg h1, if_neg (by omega), Int.toNat_natCast]
  have hid := fun W => idx_str s a (l.getD a 0) (by rw [hl]; exact at_getD 0 hal) W
  have hrle := rawFrom_le hal
  have hfr : lookE l (a : Int) = 0 → lookFrom l (a : Int) = rawFrom l a ∧ lookN l (a : Int) = rawN l a ∧ lookL l (a : Int) = decide (192 ≤ headC l a) := fun h => by
    unfold lookFrom lookN lookL
    rw [if_pos h, if_pos h, if_pos h, Int.toNat_natCast]
    exact ⟨rfl, rfl, rfl⟩
  have hc1 : headC l a = 129 → rawE l a = 0 → rawFrom l a + rawN l a ≤ l.length → a + 1 < l.length := by
    intro h3 h4 h5
    have hcF : rawFrom l a = if headC l a < 128 then a else if (headC l a - 128) % 64 < 56 then a + 1 else a + 1 + ((headC l a - 128) % 64 - 55) := rfl
    have hcN : rawN l a = if headC l a < 128 then 1 else if (headC l a - 128) % 64 < 56 then (headC l a - 128) % 64 else lenB l a ((headC l a - 128) % 64 - 55) := rfl
    rw [h3, if_neg (by decide), if_pos (by decide)] at hcF hcN
    omega
  have hcl := headC_lt l a
  change ∀ W, (Instr.index 9 (.string s) (.int .i64 (a : Int))).run Tryz.prog W = .ok (.int .u8 ((headC l a : Nat) : Int)) W at hid
  have hid1 : a + 1 < l.length → ∀ W, (Instr.index 9 (.string s) (.int .i64 ((a : Int) + 1))).run Tryz.prog W = .ok (.int .u8 ((headC l (a + 1) : Nat) : Int)) W := fun h W => by
    have := idx_str s (a + 1) (l.getD (a + 1) 0) (by rw [hl]; exact at_getD 0 h) W
    exact this
  have hbad := fun e (h : lookE l (a : Int) = e) h0 => look_bad h h0
  have hraw := hraw (by omega)
  obtain ⟨c, hc⟩ : ∃ c, headC l a = c := ⟨_, rfl⟩
  obtain ⟨c1, hc1'⟩ : ∃ c, headC l (a + 1) = c := ⟨_, rfl⟩
  obtain ⟨r0, hr0⟩ : ∃ e, rawE l a = e := ⟨_, rfl⟩
  obtain ⟨RF, hRF⟩ : ∃ e, rawFrom l a = e := ⟨_, rfl⟩
  obtain ⟨RN, hRN⟩ : ∃ e, rawN l a = e := ⟨_, rfl⟩
  rw [hc, hr0, hRF, hRN] at hc1
  rw [hc1'] at hid1
  rw [hc] at hid hcl hfr hE0
  rw [hc1', hr0, hRF, hRN] at hE0
  rw [hRF, hRN] at hfr
  rw [hr0, hRF, hRN] at hrle hraw
  obtain ⟨E, hE⟩ : ∃ e, lookE l (a : Int) = e := ⟨_, rfl⟩
  obtain ⟨F, hF⟩ : ∃ e, lookFrom l (a : Int) = e := ⟨_, rfl⟩
  obtain ⟨N, hN⟩ : ∃ e, lookN l (a : Int) = e := ⟨_, rfl⟩
  obtain ⟨L, hL⟩ : ∃ e, lookL l (a : Int) = e := ⟨_, rfl⟩
  rw [hF, hN, hL] at hbad hfr
  rw [hE] at hE0 hfr hbad
  rw [hE, hF, hN, hL]
  clear hF hN hL hE hc hc1' hr0 hRF hRN
  have HBAD := Lib.hid hbad; have HFR := Lib.hid hfr; have HE0 := Lib.hid hE0; have HR := Lib.hid hrle; have HC1 := Lib.hid hc1; have HID1 := Lib.hid hid1
  have HRAW := Lib.hid hraw
  have v1 : IntKind.i64.wrap ((a : Int) + 1) = (a : Int) + 1 := IntWalk.i64_in _ (by omega)
  clear hbad hfr hE0 hrle hc1 hid1 hraw h1 h2 hl
  go_enter Tryz.func105, Tryz.ntmps105
  go_wp2_with fail
  refine (HRAW.out _).mono ?_
  rintro e w2 ⟨rfl, hg⟩
  by_cases hr : r0 = 0
  rotate_left
  · have hE : E = r0 := by rw [HE0.out, if_pos hr]
    obtain ⟨rfl, rfl, rfl⟩ := HBAD.out _ rfl (by rw [hE]; exact hr)
    subst hE
    have e1 : (E != 0) = true := by simpa using hr
    have o1 : outE E RF = 0 := if_neg hr
    have o2 : outE E RN = 0 := if_neg hr
    rw [o1, o2]
    have y0 := (hb0.grown hg (by simp)).alloc (.cells #[.int .i64 0, .int .i64 0, .bool false, .int .i64 E] 176)
    have k0 := y0.cell 0; have k1 := y0.cell 1; have k2 := y0.cell 2; have k3 := y0.cell 3
    have f0 := y0.frozen 0; have f1 := y0.frozen 1; have f2 := y0.frozen 2; have f3 := y0.frozen 3
    simp only [List.getElem?_toArray, List.getElem?_cons_zero, List.getElem?_cons_succ] at k0 k1 k2 k3
    have Y4 := Lib.hid (blk_set4 y0 (.int .i64 0) (.int .i64 0) (.bool false) (.int .i64 E))
    have HG4 := Lib.hid (only_set4 (only_alloc (grown_self hG0 hg (by simp)) (.cells #[.int .i64 0, .int .i64 0, .bool false, .int .i64 E] 176)) (Nat.le_refl _) (.int .i64 0) (.int .i64 0) (.bool false) (.int .i64 E))
    have z0 := Blk.new w2 176 #[.int .i64 0, .int .i64 0, .bool false, .int .i64 E]
    clear hg hb0 hG0 hr y0 o1 o2
    go_upto_region 6 with (fail)
    obtain ⟨g2, hg2⟩ : ∃ g, w2.heap.size = g := ⟨_, rfl⟩
    rw [hg2] at z0 ⊢
    clear hg2
    generalize w2.alloc (.cells #[.int .i64 0, .int .i64 0, .bool false, .int .i64 E] 176) = w3 at *
    have j0 := z0.cell 0; have j1 := z0.cell 1; have j2 := z0.cell 2; have j3 := z0.cell 3
    simp only [List.getElem?_toArray, List.getElem?_cons_zero, List.getElem?_cons_succ] at j0 j1 j2 j3
    go_wp2_with fail
    refine bodyPost_ret (results_cell1 (fn := Tryz.f105) rfl _ _ _ _ rfl (load_told Y4.out)) rfl ?_
    exact ⟨rfl, HG4.out⟩
  subst hr
  have o1 : outE 0 RF = (RF : Int) := if_pos rfl
  have o2 : outE 0 RN = (RN : Int) := if_pos rfl
  rw [o1, o2]
  obtain ⟨rl1, rl2, rl3, rl4, rl5⟩ := HR.out rfl
  obtain ⟨L0, hL0⟩ : ∃ x, decide (192 ≤ c) = x := ⟨_, rfl⟩
  rw [hL0] at HFR
  have d8 : decide ((192 : Int) ≤ (c : Int)) = L0 := by rw [← hL0]; apply decide_eq_decide.2; omega
  have y0 := (hb0.grown hg (by simp)).alloc (.cells #[.int .i64 RF, .int .i64 RN, .bool false, .int .i64 0] 176)
  have z0 := Blk.new w2 176 #[.int .i64 RF, .int .i64 RN, .bool false, .int .i64 0]
  have hG1 := only_alloc (grown_self hG0 hg (by simp)) (.cells #[.int .i64 RF, .int .i64 RN, .bool false, .int .i64 0] 176)
  have hlt : w.heap.size ≠ w2.heap.size := by have := (hb0.grown hg (by simp)).lt; omega
  have hle : w.heap.size ≤ w2.heap.size := by have := (hb0.grown hg (by simp)).lt; omega
  clear hg hb0 hG0 o1 o2 hL0
  go_upto_region 6 with (fail)
  obtain ⟨g2, hg2⟩ : ∃ g, w2.heap.size = g := ⟨_, rfl⟩
  rw [hg2] at z0 hlt hle ⊢
  clear hg2
  generalize w2.alloc (.cells #[.int .i64 RF, .int .i64 RN, .bool false, .int .i64 0] 176) = w3 at *
  obtain ⟨g, hg⟩ : ∃ g, w.heap.size = g := ⟨_, rfl⟩
  have HW := Lib.hid hg
  rw [hg] at y0 hlt hle ⊢
  clear hg
  have j0 := z0.cell 0; have j1 := z0.cell 1; have j2 := z0.cell 2; have j3 := z0.cell 3
  have i0 := z0.frozen 0; have i1 := z0.frozen 1; have i2 := z0.frozen 2; have i3 := z0.frozen 3
  simp only [List.getElem?_toArray, List.getElem?_cons_zero, List.getElem?_cons_succ] at j0 j1 j2 j3
  go_upto_region 9 with (fail)
  have z2 : Blk (w3.setCell ⟨g2, 2, none⟩ (.bool L0)) g2 176 #[.int .i64 RF, .int .i64 RN, .bool L0, .int .i64 0] := z0.set_ 2 _
  have y2 := y0.far (p := ⟨g2, 2, none⟩) hlt (.bool L0)
  have hG2 := only_set hG1 (p := ⟨g2, 2, none⟩) (by have := HW.out; show _ ≤ g2; omega) (.bool L0)
  clear j0 j1 j2 j3 i0 i1 i2 i3 z0 y0 hG1 hlt hle
  generalize w3.setCell ⟨g2, 2, none⟩ (.bool L0) = w4 at *
  have j0 := z2.cell 0; have j1 := z2.cell 1; have j2 := z2.cell 2; have j3 := z2.cell 3
  have k0 := y2.cell 0; have k1 := y2.cell 1; have k2 := y2.cell 2; have k3 := y2.cell 3
  have f0 := y2.frozen 0; have f1 := y2.frozen 1; have f2 := y2.frozen 2; have f3 := y2.frozen 3
  simp only [List.getElem?_toArray, List.getElem?_cons_zero, List.getElem?_cons_succ] at j0 j1 j2 j3 k0 k1 k2 k3
  have y3 := fun F N L E => blk_set4 y2 (.int .i64 F) (.int .i64 N) (.bool L) (.int .i64 E)
  have hG3 := fun F N L E => only_set4 hG2 (b := g) (by have := HW.out; omega) (.int .i64 F) (.int .i64 N) (.bool L) (.int .i64 E)
  have Y3 := Lib.hid y3; have G3 := Lib.hid hG3
  have v2 : IntKind.i64.wrap ((s.size : Int) - (RF : Int)) = (s.size : Int) - (RF : Int) := IntWalk.i64_in _ (by omega)
  clear y2 z2 hG2 y3 hG3
  by_cases h5 : l.length < RF + RN
  · have hE : E = 3 := by rw [HE0.out, if_neg (by simp), if_pos h5]
    obtain ⟨rfl, rfl, rfl⟩ := HBAD.out _ rfl (by rw [hE]; decide)
    subst hE
    have d5 : decide ((s.size : Int) - (RF : Int) < (RN : Int)) = true := decide_eq_true (by omega)
    have d5' : (s.size : Int) - (RF : Int) < (RN : Int) := by omega
    clear h5
    go_wp2_with fail
    refine bodyPost_ret (results_cell1 (fn := Tryz.f105) rfl _ _ _ _ rfl (load_told (Y3.out 0 0 false 3))) rfl ?_
    exact ⟨by simp [toldC], G3.out 0 0 false 3⟩
  have d5 : decide ((s.size : Int) - (RF : Int) < (RN : Int)) = false := decide_eq_false (by omega)
  have d5' : ¬ ((s.size : Int) - (RF : Int) < (RN : Int)) := by omega
  have hE1 : E = if c = 129 ∧ c1 < 128 then 8 else 0 := by rw [HE0.out, if_neg (by simp), if_neg h5]
  by_cases h6 : c = 129
  · have hid1 := HID1.out (by first | exact HC1.out h6 rfl (by omega) | exact HC1.out h6 trivial (by omega))
    by_cases h7 : c1 < 128
    · have hE : E = 8 := by rw [hE1, if_pos ⟨h6, h7⟩]
      obtain ⟨rfl, rfl, rfl⟩ := HBAD.out _ rfl (by rw [hE]; decide)
      subst hE; subst h6
      have d7 : decide ((c1 : Int) < 128) = true := decide_eq_true (by omega)
      have d7' : decide (c1 < 128) = true := decide_eq_true h7
      clear hE1 h7 h5
      go_wp2_with fail
      refine bodyPost_ret (results_cell1 (fn := Tryz.f105) rfl _ _ _ _ rfl (load_told (Y3.out 0 0 false 8))) rfl ?_
      exact ⟨by simp [toldC], G3.out 0 0 false 8⟩
    · have hE : E = 0 := by rw [hE1, if_neg (by omega)]
      obtain ⟨rfl, rfl, rfl⟩ := HFR.out hE
      subst hE; subst h6
      have d7 : decide ((c1 : Int) < 128) = false := decide_eq_false (by omega)
      have d7' : decide (c1 < 128) = false := decide_eq_false h7
      clear hE1 h7 h5
      go_wp2_with fail
      refine bodyPost_ret (results_cell1 (fn := Tryz.f105) rfl _ _ _ _ rfl (load_told (Y3.out F N L 0))) rfl ?_
      exact ⟨by simp [toldC], G3.out F N L 0⟩
  · have hE : E = 0 := by rw [hE1, if_neg (by omega)]
    obtain ⟨rfl, rfl, rfl⟩ := HFR.out hE
    subst hE
    have d6 : ((c : Int) == 129) = false := by simp; omega
    have d6' : (c == 129) = false := by simpa using h6
    clear hE1 h6 h5
    go_wp2_with fail
    refine bodyPost_ret (results_cell1 (fn := Tryz.f105) rfl _ _ _ _ rfl (load_told (Y3.out F N L 0))) rfl ?_
    exact ⟨by simp [toldC], G3.out F N L 0⟩
end Go.Proofs.YthalohloneojlaaGreatDoor
/- The document's decoder: one item read; where there is none, and bytes (rescriptref05.read). -/
namespace Go.Proofs.YthalohloneojlaaGreatDoor
open Go.RowKit Go.Shelf
set_option linter.unusedVariables false
set_option linter.unusedSimpArgs false

theorem load_got {w : World} {g : Nat} {a b c d e : Value} (hg : Blk w g 115 #[a, b, c, d, e]) : (loadVar 115 ⟨g, 0, none⟩).run Tryz.prog w = .ok (.agg #[a, b, c, d, e]) w :=
  run_loadVar_row w g 115 115 _ (0, 0) _ hg Tryz.underlying115 rfl (by kernel_rfl)
/-- how read ends -/
def RdEnd (k : Nat) (l : List UInt8) (a : Nat) (W : World) (e : Ending) (W' : World) : Prop :=
  W.grownBy W' none ∧ ((∃ E : Int, E ≠ 0 ∧ itemF k l a = .error E ∧ e = .returned (.agg #[.bool false, .string ⟨#[]⟩, .slice none 0 0, .int .i64 0, .int .i64 E])) ∨
    (∃ x q A n c, itemF k l a = .ok (x, q) ∧ e = .returned (.agg #[.bool x.list, .string x.bytes, .slice A n c, .int .i64 (q : Nat), .int .i64 0]) ∧ SubV (fun g => W.heap.size ≤ g) W' x.items (.slice A n c)))
/-- the document's read at a depth -/
def RdC (k : Nat) : Prop := ∀ (s : ByteArray) (a : Nat) (W : World), s.size ≤ 65536 → a ≤ s.size →
  Calls Tryz.prog 70 #[.string s, .int .i64 (a : Int), .int .i64 ((12 - k : Nat) : Int)] W (RdEnd k s.data.toList a W)

set_option maxRecDepth 100000 in
set_option maxHeartbeats 2000000 in
theorem read05_deep (s : ByteArray) (a : Nat) (W : World) (hs : s.size ≤ 65536) (ha : a < s.size) (hc : 192 ≤ headC s.data.toList a) :
    Calls Tryz.prog 70 #[.string s, .int .i64 (a : Int), .int .i64 ((12 - 0 : Nat) : Int)] W (RdEnd 0 s.data.toList a W) := by
  have hlz : s.data.toList.length = s.size := ba_len s
  have hid := fun V => idx_str s a (s.data.toList.getD a 0) (at_getD 0 (by omega)) V
  change ∀ V, (Instr.index 9 (.string s) (.int .i64 (a : Int))).run Tryz.prog V = .ok (.int .u8 ((headC s.data.toList a : Nat) : Int)) V at hid
  have hi : itemF 0 s.data.toList a = .error 7 := by
    show itemG none s.data.toList a = _
    unfold itemG; rw [if_pos ⟨by omega, hc, rfl⟩]
  have HI := Lib.hid hi
  have d1 : (a : Int) < (s.size : Int) := by omega
  generalize headC s.data.toList a = c at *
  have d2 : decide ((192 : Int) ≤ (c : Int)) = true := decide_eq_true (by omega)
  have d2' : decide (192 ≤ c) = true := decide_eq_true hc
  clear hi hlz
  go_enter Tryz.func70, Tryz.ntmps70
  go_wp2_with fail
  refine bodyPost_ret (results_cell1 (fn := Tryz.f70) rfl _ _ _ _ rfl (load_got (Blk.new W _ _))) rfl ?_
  exact ⟨only_alloc (World.grownBy.refl _ _) _, .inl ⟨7, by decide, HI.out, rfl⟩⟩
set_option maxRecDepth 100000 in
set_option maxHeartbeats 2000000 in
theorem read05_bad (k : Nat) (s : ByteArray) (a : Nat) (W : World) (hs : s.size ≤ 65536) (ha : a ≤ s.size)
    (h1 : ¬ (a < s.size ∧ 192 ≤ headC s.data.toList a ∧ k = 0)) (he : lookE s.data.toList (a : Int) ≠ 0) :
    Calls Tryz.prog 70 #[.string s, .int .i64 (a : Int), .int .i64 ((12 - k : Nat) : Int)] W (RdEnd k s.data.toList a W) := by
  have hlz : s.data.toList.length = s.size := ba_len s
  have hlk := fun V => of05_any s a ha (by omega) V
  have hG := guard_no ha h1
  have hi := item_err (k := k) (by rw [hlz]; exact h1) he
  obtain ⟨b1, b2, b3⟩ := look_bad rfl he
  rw [b1, b2, b3] at hlk
  have HI := Lib.hid hi
  have hxA := Blk.new W 115 #[.bool false, .string ⟨#[]⟩, .slice none 0 0, .int .i64 0, .int .i64 0]
  have hGA : W.grownBy (W.alloc (.cells #[.bool false, .string ⟨#[]⟩, .slice none 0 0, .int .i64 0, .int .i64 0] 115)) none := only_alloc (World.grownBy.refl _ _) _
  clear hi b1 b2 b3 h1 hlz
  generalize lookE s.data.toList (a : Int) = E at *
  generalize headC s.data.toList a = c at *
  have e1 : (E != 0) = true := by simpa using he
  have HE := Lib.hid he
  clear he
  rcases hG with ⟨d1, d1'⟩ | ⟨d1, hid, d2⟩ | ⟨d1, hid, d2, d3⟩
  all_goals
    go_enter Tryz.func70, Tryz.ntmps70
    go_wp2_with fail
    refine (hlk _).mono ?_
    rintro e w2 ⟨rfl, hg⟩
    have y0 := (hxA.grown hg (by simp)).alloc (.cells #[.int .i64 0, .int .i64 0, .bool false, .int .i64 E] 176)
    have z0 := Blk.new w2 176 #[.int .i64 0, .int .i64 0, .bool false, .int .i64 E]
    have hG3 := only_alloc (grown_self hGA hg (by simp)) (.cells #[.int .i64 0, .int .i64 0, .bool false, .int .i64 E] 176)
    clear hxA hGA hg hlk
    go_upto_region 4 with (fail)
    obtain ⟨g2, hg2⟩ : ∃ g, w2.heap.size = g := ⟨_, rfl⟩
    rw [hg2] at z0 ⊢
    clear hg2
    generalize w2.alloc (.cells #[.int .i64 0, .int .i64 0, .bool false, .int .i64 E] 176) = w3 at *
    have j3 := z0.cell 3
    have k0 := y0.cell 0; have k1 := y0.cell 1; have k2 := y0.cell 2; have k3 := y0.cell 3; have k4 := y0.cell 4
    have f0 := y0.frozen 0; have f1 := y0.frozen 1; have f2 := y0.frozen 2; have f3 := y0.frozen 3; have f4 := y0.frozen 4
    simp only [List.getElem?_toArray, List.getElem?_cons_zero, List.getElem?_cons_succ] at j3 k0 k1 k2 k3 k4
    have Y := Lib.hid (blk_set5 y0 (.bool false) (.string ⟨#[]⟩) (.slice none 0 0) (.int .i64 0) (.int .i64 E))
    have G := Lib.hid (only_set5 hG3 (Nat.le_refl _) (.bool false) (.string ⟨#[]⟩) (.slice none 0 0) (.int .i64 0) (.int .i64 E))
    clear y0 z0 hG3
    go_wp2_with fail
    refine bodyPost_ret (results_cell1 (fn := Tryz.f70) rfl _ _ _ _ rfl (load_got Y.out)) rfl ?_
    exact ⟨G.out, .inl ⟨E, HE.out, HI.out, rfl⟩⟩
set_option maxRecDepth 100000 in
set_option maxHeartbeats 2000000 in
theorem read05_txt (k : Nat) (s : ByteArray) (a : Nat) (W : World) (hs : s.size ≤ 65536) (ha : a ≤ s.size)
    (h1 : ¬ (a < s.size ∧ 192 ≤ headC s.data.toList a ∧ k = 0)) (he : lookE s.data.toList (a : Int) = 0) (hl : lookL s.data.toList (a : Int) = false) :
    Calls Tryz.prog 70 #[.string s, .int .i64 (a : Int), .int .i64 ((12 - k : Nat) : Int)] W (RdEnd k s.data.toList a W) := by
  have hlz : s.data.toList.length = s.size := ba_len s
  have hlk := fun V => of05_any s a ha (by omega) V
  have hG := guard_no ha h1
  have hi := item_bytes (k := k) (by rw [hlz]; exact h1) he hl
  obtain ⟨b0, b1, _⟩ := look_ok he
  rw [hl, he] at hlk
  have HI := Lib.hid hi
  have hxA := Blk.new W 115 #[.bool false, .string ⟨#[]⟩, .slice none 0 0, .int .i64 0, .int .i64 0]
  have hGA : W.grownBy (W.alloc (.cells #[.bool false, .string ⟨#[]⟩, .slice none 0 0, .int .i64 0, .int .i64 0] 115)) none := only_alloc (World.grownBy.refl _ _) _
  rw [hlz] at b1
  clear hi h1 hlz he hl
  generalize lookFrom s.data.toList (a : Int) = F at *
  generalize lookN s.data.toList (a : Int) = N at *
  generalize headC s.data.toList a = c at *
  have v1 : IntKind.i64.wrap ((F : Int) + (N : Int)) = (F : Int) + (N : Int) := IntWalk.i64_in _ (by omega)
  rcases hG with ⟨d1, d1'⟩ | ⟨d1, hid, d2⟩ | ⟨d1, hid, d2, d3⟩
  all_goals
    go_enter Tryz.func70, Tryz.ntmps70
    go_wp2_with fail
    refine (hlk _).mono ?_
    rintro e w2 ⟨rfl, hg⟩
    have y0 := (hxA.grown hg (by simp)).alloc (.cells #[.int .i64 (F : Int), .int .i64 (N : Int), .bool false, .int .i64 0] 176)
    have z0 := Blk.new w2 176 #[.int .i64 (F : Int), .int .i64 (N : Int), .bool false, .int .i64 0]
    have hG3 := only_alloc (grown_self hGA hg (by simp)) (.cells #[.int .i64 (F : Int), .int .i64 (N : Int), .bool false, .int .i64 0] 176)
    clear hxA hGA hg hlk
    go_upto_region 4 with (fail)
    obtain ⟨g2, hg2⟩ : ∃ g, w2.heap.size = g := ⟨_, rfl⟩
    rw [hg2] at z0 ⊢
    clear hg2
    generalize w2.alloc (.cells #[.int .i64 (F : Int), .int .i64 (N : Int), .bool false, .int .i64 0] 176) = w3 at *
    have j0 := z0.cell 0; have j1 := z0.cell 1; have j2 := z0.cell 2; have j3 := z0.cell 3
    have k0 := y0.cell 0; have k1 := y0.cell 1; have k2 := y0.cell 2; have k3 := y0.cell 3; have k4 := y0.cell 4
    have f0 := y0.frozen 0; have f1 := y0.frozen 1; have f2 := y0.frozen 2; have f3 := y0.frozen 3; have f4 := y0.frozen 4
    simp only [List.getElem?_toArray, List.getElem?_cons_zero, List.getElem?_cons_succ] at j0 j1 j2 j3 k0 k1 k2 k3 k4
    have Y := Lib.hid (blk_set5 y0 (.bool false) (.string (s.extract F (F + N))) (.slice none 0 0) (.int .i64 ((F : Int) + (N : Int))) (.int .i64 0))
    have G := Lib.hid (only_set5 hG3 (Nat.le_refl _) (.bool false) (.string (s.extract F (F + N))) (.slice none 0 0) (.int .i64 ((F : Int) + (N : Int))) (.int .i64 0))
    clear y0 z0 hG3
    go_wp2_with fail
    refine bodyPost_ret (results_cell1 (fn := Tryz.f70) rfl _ _ _ _ rfl (load_got Y.out)) rfl ?_
    exact ⟨G.out, .inr ⟨_, _, none, 0, 0, HI.out, by rw [ba_ext']; rfl, no_items _ _ _⟩⟩
end Go.Proofs.YthalohloneojlaaGreatDoor
/- The document's decoder: what stands between two rounds of read's loop. -/
namespace Go.Proofs.YthalohloneojlaaGreatDoor
open Go.RowKit Go.Shelf
set_option linter.unusedVariables false
set_option linter.unusedSimpArgs false

theorem item_info3 : ∃ i, Tryz.prog.info? 45 = some i ∧ i.zero = some (.agg #[.bool false, .string .empty, .slice none 0 0]) ∧ i.size = 3 ∧ i.bytes = 48 := by
  have h := item_info
  cases hi : Tryz.prog.info? 45 with
  | none => rw [hi] at h; cases h
  | some i =>
    rw [hi] at h
    simp only [Option.map_some, Option.some.injEq, Prod.mk.injEq] at h
    exact ⟨i, rfl, h.1, h.2.1, h.2.2⟩
/-- an item ends behind where it begins, and within -/
theorem itemF_fwd {k : Nat} {l : List UInt8} {a q : Nat} {x : Itm} (h : itemF k l a = .ok (x, q)) : a < q ∧ q ≤ l.length := by
  by_cases he : lookE l (a : Int) = 0
  · obtain ⟨b0, b1, _, b3, _⟩ := look_ok he
    have key : q = lookFrom l a + lookN l a := by
      cases k with
      | zero =>
        change itemG none l a = _ at h
        unfold itemG at h
        split at h
        · cases h
        split at h
        · rename_i g; exact absurd he g
        split at h
        · cases h; rfl
        · cases h
      | succ k' =>
        change itemG (some (itemF k')) l a = _ at h
        unfold itemG at h
        split at h
        · cases h
        split at h
        · rename_i g; exact absurd he g
        split at h
        · cases h; rfl
        · dsimp only at h
          split at h
          · cases h
          · cases h; rfl
    rw [key]; exact ⟨b3, b1⟩
  · exfalso
    cases k with
    | zero =>
      change itemG none l a = _ at h
      unfold itemG at h
      split at h
      · cases h
      · simp_all
    | succ k' =>
      change itemG (some (itemF k')) l a = _ at h
      unfold itemG at h
      split at h
      · cases h
      · simp_all
theorem sub_set5 {S : Nat → Prop} {W : World} {xs : List Itm} {v : Value} {g : Nat} (h : SubV S W xs v) (hg : ¬ S g) (x y z t u : Value) : SubV S (((((W.setCell ⟨g, 0, none⟩ x).setCell ⟨g, 1, none⟩ y).setCell ⟨g, 2, none⟩ z).setCell ⟨g, 3, none⟩ t).setCell ⟨g, 4, none⟩ u) xs v := by
  refine h.keep fun p hp w hw => ?_
  have hne : g ≠ p.block := fun e => hg (e ▸ hp)
  rw [World.cell?_setCell_far _ _ _ _ hne, World.cell?_setCell_far _ _ _ _ hne, World.cell?_setCell_far _ _ _ _ hne, World.cell?_setCell_far _ _ _ _ hne, World.cell?_setCell_far _ _ _ _ hne]
  exact hw
/-- the items so far -/
structure RdI (w : World) (b3 : Nat) (v : Value) (j : Nat) (xs : List Itm) (vs : List Value) (u : World) : Prop where
  held : Held3 w b3 v j (itemsV xs vs) u
  lx : xs.length = j
  lv : vs.length = j
  sub : ∀ i, i < j → SubV (fun g => b3 + 1 ≤ g ∧ v.ownBlock ≠ some g) u (xs.getD i Itm.none_).items (vs.getD i undef)
theorem RdI.kept {w u u' : World} {b3 j : Nat} {v : Value} {xs : List Itm} {vs : List Value} (h : RdI w b3 v j xs vs u) (hg : u.grownBy u' none) : RdI w b3 v j xs vs u' :=
  ⟨h.held.kept hg, h.lx, h.lv, fun i hi => (h.sub i hi).grown hg⟩
theorem RdI.put {w u u2 : World} {b3 j g' cap' : Nat} {v : Value} {xs : List Itm} {vs : List Value} (h : RdI w b3 v j xs vs u) (x : Itm) (sv : Value) (hx : SubV (fun g => b3 + 1 ≤ g ∧ v.ownBlock ≠ some g) u x.items sv)
    (hown : u2.ownsRow (b3 + 1) 45 3 (.slice (some ⟨g', 0, none⟩) (j + 1) cap') (j + 1) (itemsV xs vs ++ [.bool x.list, .string x.bytes, sv])) (hg : u.grownBy u2 v.ownBlock) (hob : (Value.slice (some ⟨g', 0, none⟩) (j + 1) cap').ownBlock = v.ownBlock ∨ (Value.slice (some ⟨g', 0, none⟩) (j + 1) cap').ownBlock = some u.heap.size) :
    RdI w b3 (.slice (some ⟨g', 0, none⟩) (j + 1) cap') (j + 1) (xs ++ [x]) (vs ++ [sv]) (u2.setCell ⟨b3, 2, none⟩ (.slice (some ⟨g', 0, none⟩) (j + 1) cap')) := by
  have key : ∀ ys sv', SubV (fun g => b3 + 1 ≤ g ∧ v.ownBlock ≠ some g) u ys sv' → SubV (fun g => b3 + 1 ≤ g ∧ (Value.slice (some ⟨g', 0, none⟩) (j + 1) cap').ownBlock ≠ some g) (u2.setCell ⟨b3, 2, none⟩ (.slice (some ⟨g', 0, none⟩) (j + 1) cap')) ys sv' := by
    intro ys sv' hs
    refine (hs.lt.keep fun p hp c hc => ?_).weak fun g hS => ⟨hS.1.1, fun e => ?_⟩
    · rw [World.cell?_setCell_far _ _ _ _ (by have := hp.1.1; show b3 ≠ p.block; omega)]
      exact hg.cell hc (fun e => hp.1.2 e.symm)
    · rcases hob with e2 | e2
      · exact hS.1.2 (e2.symm.trans e)
      · have := e2.symm.trans e
        have := Option.some.inj this
        have := hS.2
        omega
  refine ⟨h.held.put (by rw [itemsV_snoc xs vs (by rw [h.lx, h.lv])]; exact hown) hg, by simp [h.lx], by simp [h.lv], fun i hi => ?_⟩
  by_cases hij : i < j
  · rw [List.getD_eq_getElem?_getD, List.getElem?_append_left (by rw [h.lx]; exact hij), ← List.getD_eq_getElem?_getD, List.getD_eq_getElem?_getD (l := vs ++ [sv]), List.getElem?_append_left (by rw [h.lv]; exact hij), ← List.getD_eq_getElem?_getD]
    exact key _ _ (h.sub i hij)
  · obtain rfl : i = j := by omega
    rw [List.getD_eq_getElem?_getD, List.getElem?_append_right (by rw [h.lx]; omega), List.getD_eq_getElem?_getD (l := vs ++ [sv]), List.getElem?_append_right (by rw [h.lv]; omega), h.lx, h.lv, Nat.sub_self]
    exact key _ _ hx
theorem RdI.row {w u : World} {b3 j c : Nat} {A : Option Addr} {xs : List Itm} {vs : List Value} (h : RdI w b3 (.slice A j c) j xs vs u) : SubV (fun g => b3 + 1 ≤ g) u xs (.slice A j c) := by
  obtain ⟨h1, h2, h3, h4⟩ := h
  subst h2
  exact SubV.of_own (by rw [h3]) h1.own (fun i hi => (h4 i hi).weak fun g hg => hg.1) (fun g hg => ownBlock_ge h1.own hg)
end Go.Proofs.YthalohloneojlaaGreatDoor
